/- The kinds of values (iec): do, in the reference. -/
import Derived.Test.YtdhfkcodacmbfaaIecI
set_option linter.unusedVariables false
set_option linter.unusedSimpArgs false
namespace Go.Proofs.Ytdhfkcodacmbfaa
open Go.RowKit

theorem log_bit (op : Int) (ho : op = 7 ∨ op = 8 ∨ op = 9) (A B i : Nat) :
    logN op A B / 2 ^ i % 2 = if (if op = 7 then (A / 2 ^ i % 2 = 1 ∧ B / 2 ^ i % 2 = 1) else if op = 8 then (A / 2 ^ i % 2 = 1 ∨ B / 2 ^ i % 2 = 1) else ¬ (A / 2 ^ i % 2 = B / 2 ^ i % 2)) then 1 else 0 := by
  have hA : A.testBit i = decide (A / 2 ^ i % 2 = 1) := Nat.testBit_eq_decide_div_mod_eq
  have hB : B.testBit i = decide (B / 2 ^ i % 2 = 1) := Nat.testBit_eq_decide_div_mod_eq
  have hX : (logN op A B).testBit i = decide (logN op A B / 2 ^ i % 2 = 1) := Nat.testBit_eq_decide_div_mod_eq
  have a2 : A / 2 ^ i % 2 = 0 ∨ A / 2 ^ i % 2 = 1 := by omega
  have b2 : B / 2 ^ i % 2 = 0 ∨ B / 2 ^ i % 2 = 1 := by omega
  have x2 : logN op A B / 2 ^ i % 2 = 0 ∨ logN op A B / 2 ^ i % 2 = 1 := by omega
  rcases ho with rfl | rfl | rfl
  · rw [show logN 7 A B = A &&& B from rfl] at *
    rw [Nat.testBit_and, hA, hB] at hX
    rcases a2 with a2 | a2 <;> rcases b2 with b2 | b2 <;> rcases x2 with x2 | x2 <;> simp_all
  · rw [show logN 8 A B = A ||| B from rfl] at *
    rw [Nat.testBit_or, hA, hB] at hX
    rcases a2 with a2 | a2 <;> rcases b2 with b2 | b2 <;> rcases x2 with x2 | x2 <;> simp_all
  · rw [show logN 9 A B = A ^^^ B from rfl] at *
    rw [Nat.testBit_xor, hA, hB] at hX
    rcases a2 with a2 | a2 <;> rcases b2 with b2 | b2 <;> rcases x2 with x2 | x2 <;> simp_all
theorem log_step (X i : Nat) : X % 2 ^ (i + 1) = X % 2 ^ i + 2 ^ i * (X / 2 ^ i % 2) := Nat.mod_pow_succ
set_option maxRecDepth 100000 in
set_option maxHeartbeats 8000000 in
theorem rbits_7 (A B : Nat) (w : World) (hA : A < 4294967296) (hB : B < 4294967296) : Calls Try.prog 129 #[.int .i64 7, .int .i64 (A : Int), .int .i64 (B : Int)] w fun e w' => e = .returned (.int .i64 (logN 7 A B : Nat)) ∧ w' = w := by
  have hX : logN 7 A B < 2 ^ 32 := logN_lt 7 A B 32 (by omega) (by omega)
  have HX := Lib.hid (Nat.mod_eq_of_lt hX)
  have HB := Lib.hid (log_bit 7 (by omega) A B)
  have HS := Lib.hid (log_step (logN 7 A B))
  generalize logN 7 A B = X at *
  go_enter Try.func129, Try.ntmps129
  go_wp2_with fail
  go_loopw [1, 2, 7, 8, 9, 10, 11, 12] (fun a b o n v _ _ _ wr => ∃ i a' b' o' n' : Nat, i ≤ 32 ∧ v = .int .i64 i ∧ a = .int .i64 a' ∧ b = .int .i64 b' ∧ o = .int .i64 o' ∧ n = .int .i64 n' ∧ a' = A / 2 ^ i ∧ b' = B / 2 ^ i ∧ o' = X % 2 ^ i ∧ n' = 2 ^ i ∧ wr = w) (fun _ _ _ _ v _ _ _ _ => 32 - (intOf v).toNat)
  case atStart => exact ⟨0, A, B, 0, 1, by omega, rfl, rfl, rfl, rfl, rfl, by simp, by simp, by omega, rfl, rfl⟩
  case round =>
    obtain ⟨i, a', b', o', n', hi, rfl, rfl, rfl, rfl, rfl, ea, eb, eo, en, rfl⟩ := hrel
    by_cases hlt : i < 32
    · have hbit := HB.out i
      have hst := HS.out i
      have hn : n' ≤ 2147483648 := by
        rw [en]
        exact Nat.le_trans (Nat.pow_le_pow_right (by decide) (show i ≤ 31 by omega)) (by decide)
      have ho : o' < n' := by rw [eo, en]; exact Nat.mod_lt _ (Nat.pow_pos (by decide))
      have ha : a' < 4294967296 := by rw [ea]; exact Nat.lt_of_le_of_lt (Nat.div_le_self _ _) hA
      have hb : b' < 4294967296 := by rw [eb]; exact Nat.lt_of_le_of_lt (Nat.div_le_self _ _) hB
      have ea2 : a' / 2 = A / 2 ^ (i + 1) := by rw [ea, Nat.div_div_eq_div_mul, Nat.pow_succ]
      have eb2 : b' / 2 = B / 2 ^ (i + 1) := by rw [eb, Nat.div_div_eq_div_mul, Nat.pow_succ]
      have en2 : n' * 2 = 2 ^ (i + 1) := by rw [en, Nat.pow_succ]
      rw [← ea, ← eb] at hbit
      rw [hbit, ← eo, ← en] at hst
      have HST := Lib.hid hst
      have HE := Lib.hid (And.intro ea2 (And.intro eb2 en2))
      clear hbit hst ea eb eo en ea2 eb2 en2 HB HS HX hX
      have ca : a' % 2 = 0 ∨ a' % 2 = 1 := by omega
      have cb : b' % 2 = 0 ∨ b' % 2 = 1 := by omega
      rcases ca with ca | ca <;> rcases cb with cb | cb
      all_goals
        have t1 : (a' : Int) % 2 = (a' % 2 : Nat) := by omega
        have t2 : (b' : Int) % 2 = (b' % 2 : Nat) := by omega
        rw [ca] at t1
        rw [cb] at t2
        have hst := HST.out
        rw [ca, cb] at hst
        simp at hst
        have HT := Lib.hid hst
        clear hst HST
        go_wp2_with fail
        go_roundw
        case rel => exact ⟨i + 1, a' / 2, b' / 2, _, n' * 2, by omega, by go_num, by go_num, by go_num, (by first | exact rfl | exact val_int (by rfl)), by go_num, HE.out.1, HE.out.2.1, (by rw [HT.out] <;> omega), HE.out.2.2, by trivial⟩
        case measure => simp [intOf]; omega
    · obtain rfl : i = 32 := by omega
      go_wp2_with fail
      go_ret
      exact ⟨ret_int (by rw [eo, HX.out]), rfl⟩
set_option maxRecDepth 100000 in
set_option maxHeartbeats 8000000 in
theorem rbits_8 (A B : Nat) (w : World) (hA : A < 4294967296) (hB : B < 4294967296) : Calls Try.prog 129 #[.int .i64 8, .int .i64 (A : Int), .int .i64 (B : Int)] w fun e w' => e = .returned (.int .i64 (logN 8 A B : Nat)) ∧ w' = w := by
  have hX : logN 8 A B < 2 ^ 32 := logN_lt 8 A B 32 (by omega) (by omega)
  have HX := Lib.hid (Nat.mod_eq_of_lt hX)
  have HB := Lib.hid (log_bit 8 (by omega) A B)
  have HS := Lib.hid (log_step (logN 8 A B))
  generalize logN 8 A B = X at *
  go_enter Try.func129, Try.ntmps129
  go_wp2_with fail
  go_loopw [1, 2, 7, 8, 9, 10, 11, 12] (fun a b o n v _ _ _ wr => ∃ i a' b' o' n' : Nat, i ≤ 32 ∧ v = .int .i64 i ∧ a = .int .i64 a' ∧ b = .int .i64 b' ∧ o = .int .i64 o' ∧ n = .int .i64 n' ∧ a' = A / 2 ^ i ∧ b' = B / 2 ^ i ∧ o' = X % 2 ^ i ∧ n' = 2 ^ i ∧ wr = w) (fun _ _ _ _ v _ _ _ _ => 32 - (intOf v).toNat)
  case atStart => exact ⟨0, A, B, 0, 1, by omega, rfl, rfl, rfl, rfl, rfl, by simp, by simp, by omega, rfl, rfl⟩
  case round =>
    obtain ⟨i, a', b', o', n', hi, rfl, rfl, rfl, rfl, rfl, ea, eb, eo, en, rfl⟩ := hrel
    by_cases hlt : i < 32
    · have hbit := HB.out i
      have hst := HS.out i
      have hn : n' ≤ 2147483648 := by
        rw [en]
        exact Nat.le_trans (Nat.pow_le_pow_right (by decide) (show i ≤ 31 by omega)) (by decide)
      have ho : o' < n' := by rw [eo, en]; exact Nat.mod_lt _ (Nat.pow_pos (by decide))
      have ha : a' < 4294967296 := by rw [ea]; exact Nat.lt_of_le_of_lt (Nat.div_le_self _ _) hA
      have hb : b' < 4294967296 := by rw [eb]; exact Nat.lt_of_le_of_lt (Nat.div_le_self _ _) hB
      have ea2 : a' / 2 = A / 2 ^ (i + 1) := by rw [ea, Nat.div_div_eq_div_mul, Nat.pow_succ]
      have eb2 : b' / 2 = B / 2 ^ (i + 1) := by rw [eb, Nat.div_div_eq_div_mul, Nat.pow_succ]
      have en2 : n' * 2 = 2 ^ (i + 1) := by rw [en, Nat.pow_succ]
      rw [← ea, ← eb] at hbit
      rw [hbit, ← eo, ← en] at hst
      have HST := Lib.hid hst
      have HE := Lib.hid (And.intro ea2 (And.intro eb2 en2))
      clear hbit hst ea eb eo en ea2 eb2 en2 HB HS HX hX
      have ca : a' % 2 = 0 ∨ a' % 2 = 1 := by omega
      have cb : b' % 2 = 0 ∨ b' % 2 = 1 := by omega
      rcases ca with ca | ca <;> rcases cb with cb | cb
      all_goals
        have t1 : (a' : Int) % 2 = (a' % 2 : Nat) := by omega
        have t2 : (b' : Int) % 2 = (b' % 2 : Nat) := by omega
        rw [ca] at t1
        rw [cb] at t2
        have hst := HST.out
        rw [ca, cb] at hst
        simp at hst
        have HT := Lib.hid hst
        clear hst HST
        go_wp2_with fail
        go_roundw
        case rel => exact ⟨i + 1, a' / 2, b' / 2, _, n' * 2, by omega, by go_num, by go_num, by go_num, (by first | exact rfl | exact val_int (by rfl)), by go_num, HE.out.1, HE.out.2.1, (by rw [HT.out] <;> omega), HE.out.2.2, by trivial⟩
        case measure => simp [intOf]; omega
    · obtain rfl : i = 32 := by omega
      go_wp2_with fail
      go_ret
      exact ⟨ret_int (by rw [eo, HX.out]), rfl⟩
set_option maxRecDepth 100000 in
set_option maxHeartbeats 8000000 in
theorem rbits_9 (A B : Nat) (w : World) (hA : A < 4294967296) (hB : B < 4294967296) : Calls Try.prog 129 #[.int .i64 9, .int .i64 (A : Int), .int .i64 (B : Int)] w fun e w' => e = .returned (.int .i64 (logN 9 A B : Nat)) ∧ w' = w := by
  have hX : logN 9 A B < 2 ^ 32 := logN_lt 9 A B 32 (by omega) (by omega)
  have HX := Lib.hid (Nat.mod_eq_of_lt hX)
  have HB := Lib.hid (log_bit 9 (by omega) A B)
  have HS := Lib.hid (log_step (logN 9 A B))
  generalize logN 9 A B = X at *
  go_enter Try.func129, Try.ntmps129
  go_wp2_with fail
  go_loopw [1, 2, 7, 8, 9, 10, 11, 12] (fun a b o n v _ _ _ wr => ∃ i a' b' o' n' : Nat, i ≤ 32 ∧ v = .int .i64 i ∧ a = .int .i64 a' ∧ b = .int .i64 b' ∧ o = .int .i64 o' ∧ n = .int .i64 n' ∧ a' = A / 2 ^ i ∧ b' = B / 2 ^ i ∧ o' = X % 2 ^ i ∧ n' = 2 ^ i ∧ wr = w) (fun _ _ _ _ v _ _ _ _ => 32 - (intOf v).toNat)
  case atStart => exact ⟨0, A, B, 0, 1, by omega, rfl, rfl, rfl, rfl, rfl, by simp, by simp, by omega, rfl, rfl⟩
  case round =>
    obtain ⟨i, a', b', o', n', hi, rfl, rfl, rfl, rfl, rfl, ea, eb, eo, en, rfl⟩ := hrel
    by_cases hlt : i < 32
    · have hbit := HB.out i
      have hst := HS.out i
      have hn : n' ≤ 2147483648 := by
        rw [en]
        exact Nat.le_trans (Nat.pow_le_pow_right (by decide) (show i ≤ 31 by omega)) (by decide)
      have ho : o' < n' := by rw [eo, en]; exact Nat.mod_lt _ (Nat.pow_pos (by decide))
      have ha : a' < 4294967296 := by rw [ea]; exact Nat.lt_of_le_of_lt (Nat.div_le_self _ _) hA
      have hb : b' < 4294967296 := by rw [eb]; exact Nat.lt_of_le_of_lt (Nat.div_le_self _ _) hB
      have ea2 : a' / 2 = A / 2 ^ (i + 1) := by rw [ea, Nat.div_div_eq_div_mul, Nat.pow_succ]
      have eb2 : b' / 2 = B / 2 ^ (i + 1) := by rw [eb, Nat.div_div_eq_div_mul, Nat.pow_succ]
      have en2 : n' * 2 = 2 ^ (i + 1) := by rw [en, Nat.pow_succ]
      rw [← ea, ← eb] at hbit
      rw [hbit, ← eo, ← en] at hst
      have HST := Lib.hid hst
      have HE := Lib.hid (And.intro ea2 (And.intro eb2 en2))
      clear hbit hst ea eb eo en ea2 eb2 en2 HB HS HX hX
      have ca : a' % 2 = 0 ∨ a' % 2 = 1 := by omega
      have cb : b' % 2 = 0 ∨ b' % 2 = 1 := by omega
      rcases ca with ca | ca <;> rcases cb with cb | cb
      all_goals
        have t1 : (a' : Int) % 2 = (a' % 2 : Nat) := by omega
        have t2 : (b' : Int) % 2 = (b' % 2 : Nat) := by omega
        rw [ca] at t1
        rw [cb] at t2
        have hst := HST.out
        rw [ca, cb] at hst
        simp at hst
        have HT := Lib.hid hst
        clear hst HST
        go_wp2_with fail
        go_roundw
        case rel => exact ⟨i + 1, a' / 2, b' / 2, _, n' * 2, by omega, by go_num, by go_num, by go_num, (by first | exact rfl | exact val_int (by rfl)), by go_num, HE.out.1, HE.out.2.1, (by rw [HT.out] <;> omega), HE.out.2.2, by trivial⟩
        case measure => simp [intOf]; omega
    · obtain rfl : i = 32 := by omega
      go_wp2_with fail
      go_ret
      exact ⟨ret_int (by rw [eo, HX.out]), rfl⟩
theorem rbits_any (op a b : Int) (w : World) (ho : op = 7 ∨ op = 8 ∨ op = 9) (ha : 0 ≤ a ∧ a ≤ 4294967295) (hb : 0 ≤ b ∧ b ≤ 4294967295) : Calls Try.prog 129 #[.int .i64 op, .int .i64 a, .int .i64 b] w fun e w' => e = .returned (.int .i64 (logK op a b)) ∧ w' = w := by
  obtain ⟨A, rfl⟩ := Int.eq_ofNat_of_zero_le ha.1
  obtain ⟨B, rfl⟩ := Int.eq_ofNat_of_zero_le hb.1
  unfold logK
  rw [Int.toNat_natCast, Int.toNat_natCast]
  rcases ho with rfl | rfl | rfl
  · exact rbits_7 A B w (by omega) (by omega)
  · exact rbits_8 A B w (by omega) (by omega)
  · exact rbits_9 A B w (by omega) (by omega)
theorem quo_zero (k a : Int) : wrapK k (quoK a 0) = 0 := by
  rw [show quoK a 0 = 0 from rfl]
  rcases kcases k with rfl | rfl | rfl | rfl | rfl | rfl | rfl | ho
  all_goals first | (rw [wrapK_out ho]; done) | (exact wrapK_out ho 0) | decide +kernel
set_option maxRecDepth 100000 in
set_option maxHeartbeats 8000000 in
theorem rdo_any (op k a b : Int) (w : World) (wa : (Lit.int .i64 a).wf = true) (wb : (Lit.int .i64 b).wf = true) : Calls Try.prog 71 #[.int .i64 op, .int .i64 k, .int .i64 a, .int .i64 b] w fun e w' => e = .returned (.tuple #[.int .i64 (doK op k a b).1, .int .i64 (doK op k a b).2]) ∧ Below w.heap.size w w' := by
  have HM := Lib.hid (fun W => rmay_any op k W)
  have HA := Lib.hid (fun W => ris_any k a W wa)
  have HB := Lib.hid (fun W => ris_any k b W wb)
  have HN := Lib.hid (fun W => rnot_any k b W wb)
  have HY := Lib.hid (fun c W => ryes_any c W)
  clear wa wb
  cases hm : mayK op k with
  | false =>
    rw [show doK op k a b = (0, 6) by unfold doK; rw [if_pos (.inr hm)]]
    rw [hm] at HM
    clear hm
    go_enter Try.func71, Try.ntmps71
    go_wp2_with fail
    refine (HM.out _).mono ?_
    rintro e w1 ⟨rfl, bb⟩
    go_wp2_with fail
    go_ret2
    exact ⟨rfl, bb⟩
  | true =>
    by_cases h13 : op = 13
    · rw [show doK op k a b = (0, 6) by unfold doK; rw [if_pos (.inl h13)]]
      rw [hm] at HM
      clear hm
      subst h13
      go_enter Try.func71, Try.ntmps71
      go_wp2_with fail
      refine (HM.out _).mono ?_
      rintro e w1 ⟨rfl, bb⟩
      go_wp2_with fail
      go_ret2
      exact ⟨rfl, bb⟩
    · have hd : (op == 13) = false := by simpa using h13
      cases ha : isK k a with
      | false =>
        rw [show doK op k a b = (0, 1) by unfold doK; rw [if_neg (by simp [h13, hm]), if_pos (.inl ha)]]
        rw [hm] at HM
        rw [ha] at HA
        clear hm ha
        go_enter Try.func71, Try.ntmps71
        go_wp2_with fail
        refine (HM.out _).mono ?_
        rintro e w1 ⟨rfl, bb⟩
        go_wp2_with fail
        refine (HA.out _).mono ?_
        rintro e w2 ⟨rfl, b2⟩
        replace bb := below_then bb b2
        go_wp2_with fail
        go_ret2
        exact ⟨rfl, bb⟩
      | true =>
        cases hb : isK k b with
        | false =>
          rw [show doK op k a b = (0, 1) by unfold doK; rw [if_neg (by simp [h13, hm]), if_pos (.inr hb)]]
          rw [hm] at HM
          rw [ha] at HA
          rw [hb] at HB
          clear hm ha hb
          go_enter Try.func71, Try.ntmps71
          go_wp2_with fail
          refine (HM.out _).mono ?_
          rintro e w1 ⟨rfl, bb⟩
          go_wp2_with fail
          refine (HA.out _).mono ?_
          rintro e w2 ⟨rfl, b2⟩
          replace bb := below_then bb b2
          go_wp2_with fail
          refine (HB.out _).mono ?_
          rintro e w3 ⟨rfl, b3⟩
          replace bb := below_then bb b3
          go_wp2_with fail
          go_ret2
          exact ⟨rfl, bb⟩
        | true =>
          rw [do_all op k a b h13 hm ha hb]
          rw [hm] at HM
          rw [ha] at HA
          rw [hb] at HB
          have hop := may_op hm
          have ra := isK_range ha
          have rb := isK_range hb
          have h13r : op ≤ 12 → (0 ≤ a ∧ a ≤ 4294967295) ∧ (0 ≤ b ∧ b ≤ 4294967295) := fun h => ⟨may13_range (hop.2.2 (by omega)) ha, may13_range (hop.2.2 (by omega)) hb⟩
          have hc : op = 7 ∨ op = 8 ∨ op = 9 ∨ op = 10 ∨ op = 11 ∨ op = 12 ∨ op = 14 ∨ op = 15 ∨ op = 16 ∨ op = 17 ∨ op = 18 ∨ op = 19 ∨ op = 20 ∨ op = 21 ∨ op = 22 ∨ op = 23 ∨ op = 24 := by omega
          clear hd h13
          rcases hc with rfl | rfl | rfl | rfl | rfl | rfl | rfl | rfl | rfl | rfl | rfl | rfl | rfl | rfl | rfl | rfl | rfl
          · have h13 := h13r (by omega)
            have HR := Lib.hid (fun W => rbits_any 7 a b W (by omega) h13.1 h13.2)
            rw [val_log (by omega)]
            clear hm ha hb hop ra rb h13r h13 HN HY
            generalize logK 7 a b = v at *
            go_enter Try.func71, Try.ntmps71
            go_wp2_with fail
            refine (HM.out _).mono ?_
            rintro e w1 ⟨rfl, bb⟩
            go_wp2_with fail
            refine (HA.out _).mono ?_
            rintro e w2 ⟨rfl, b2⟩
            replace bb := below_then bb b2
            go_wp2_with fail
            refine (HB.out _).mono ?_
            rintro e w3 ⟨rfl, b3⟩
            replace bb := below_then bb b3
            go_wp2_with fail
            refine (HR.out _).mono ?_
            rintro e w4 ⟨rfl, rfl⟩
            go_wp2_with fail
            go_ret2
            exact ⟨rfl, bb⟩
          · have h13 := h13r (by omega)
            have HR := Lib.hid (fun W => rbits_any 8 a b W (by omega) h13.1 h13.2)
            rw [val_log (by omega)]
            clear hm ha hb hop ra rb h13r h13 HN HY
            generalize logK 8 a b = v at *
            go_enter Try.func71, Try.ntmps71
            go_wp2_with fail
            refine (HM.out _).mono ?_
            rintro e w1 ⟨rfl, bb⟩
            go_wp2_with fail
            refine (HA.out _).mono ?_
            rintro e w2 ⟨rfl, b2⟩
            replace bb := below_then bb b2
            go_wp2_with fail
            refine (HB.out _).mono ?_
            rintro e w3 ⟨rfl, b3⟩
            replace bb := below_then bb b3
            go_wp2_with fail
            refine (HR.out _).mono ?_
            rintro e w4 ⟨rfl, rfl⟩
            go_wp2_with fail
            go_ret2
            exact ⟨rfl, bb⟩
          · have h13 := h13r (by omega)
            have HR := Lib.hid (fun W => rbits_any 9 a b W (by omega) h13.1 h13.2)
            rw [val_log (by omega)]
            clear hm ha hb hop ra rb h13r h13 HN HY
            generalize logK 9 a b = v at *
            go_enter Try.func71, Try.ntmps71
            go_wp2_with fail
            refine (HM.out _).mono ?_
            rintro e w1 ⟨rfl, bb⟩
            go_wp2_with fail
            refine (HA.out _).mono ?_
            rintro e w2 ⟨rfl, b2⟩
            replace bb := below_then bb b2
            go_wp2_with fail
            refine (HB.out _).mono ?_
            rintro e w3 ⟨rfl, b3⟩
            replace bb := below_then bb b3
            go_wp2_with fail
            refine (HR.out _).mono ?_
            rintro e w4 ⟨rfl, rfl⟩
            go_wp2_with fail
            go_ret2
            exact ⟨rfl, bb⟩
          · have hm13 := hop.2.2 (by omega)
            have h13 := h13r (by omega)
            have hnb := isK_not hm13 hb
            have h13n := may13_range hm13 hnb
            have HR := Lib.hid (fun W => rbits_any 7 a (notK k b) W (by omega) h13.1 h13n)
            rw [val_logn (by omega), show (10 : Int) - 3 = 7 from rfl]
            clear hm ha hb hop ra rb h13r hm13 h13 hnb h13n HY
            generalize logK 7 a (notK k b) = v at *
            generalize notK k b = nb at *
            go_enter Try.func71, Try.ntmps71
            go_wp2_with fail
            refine (HM.out _).mono ?_
            rintro e w1 ⟨rfl, bb⟩
            go_wp2_with fail
            refine (HA.out _).mono ?_
            rintro e w2 ⟨rfl, b2⟩
            replace bb := below_then bb b2
            go_wp2_with fail
            refine (HB.out _).mono ?_
            rintro e w3 ⟨rfl, b3⟩
            replace bb := below_then bb b3
            go_wp2_with fail
            refine (HN.out _).mono ?_
            rintro e w4 ⟨rfl, b4⟩
            replace bb := below_then bb b4
            go_wp2_with fail
            refine (HR.out _).mono ?_
            rintro e w4 ⟨rfl, rfl⟩
            go_wp2_with fail
            go_ret2
            exact ⟨rfl, bb⟩
          · have hm13 := hop.2.2 (by omega)
            have h13 := h13r (by omega)
            have hnb := isK_not hm13 hb
            have h13n := may13_range hm13 hnb
            have HR := Lib.hid (fun W => rbits_any 8 a (notK k b) W (by omega) h13.1 h13n)
            rw [val_logn (by omega), show (11 : Int) - 3 = 8 from rfl]
            clear hm ha hb hop ra rb h13r hm13 h13 hnb h13n HY
            generalize logK 8 a (notK k b) = v at *
            generalize notK k b = nb at *
            go_enter Try.func71, Try.ntmps71
            go_wp2_with fail
            refine (HM.out _).mono ?_
            rintro e w1 ⟨rfl, bb⟩
            go_wp2_with fail
            refine (HA.out _).mono ?_
            rintro e w2 ⟨rfl, b2⟩
            replace bb := below_then bb b2
            go_wp2_with fail
            refine (HB.out _).mono ?_
            rintro e w3 ⟨rfl, b3⟩
            replace bb := below_then bb b3
            go_wp2_with fail
            refine (HN.out _).mono ?_
            rintro e w4 ⟨rfl, b4⟩
            replace bb := below_then bb b4
            go_wp2_with fail
            refine (HR.out _).mono ?_
            rintro e w4 ⟨rfl, rfl⟩
            go_wp2_with fail
            go_ret2
            exact ⟨rfl, bb⟩
          · have hm13 := hop.2.2 (by omega)
            have h13 := h13r (by omega)
            have hnb := isK_not hm13 hb
            have h13n := may13_range hm13 hnb
            have HR := Lib.hid (fun W => rbits_any 9 a (notK k b) W (by omega) h13.1 h13n)
            rw [val_logn (by omega), show (12 : Int) - 3 = 9 from rfl]
            clear hm ha hb hop ra rb h13r hm13 h13 hnb h13n HY
            generalize logK 9 a (notK k b) = v at *
            generalize notK k b = nb at *
            go_enter Try.func71, Try.ntmps71
            go_wp2_with fail
            refine (HM.out _).mono ?_
            rintro e w1 ⟨rfl, bb⟩
            go_wp2_with fail
            refine (HA.out _).mono ?_
            rintro e w2 ⟨rfl, b2⟩
            replace bb := below_then bb b2
            go_wp2_with fail
            refine (HB.out _).mono ?_
            rintro e w3 ⟨rfl, b3⟩
            replace bb := below_then bb b3
            go_wp2_with fail
            refine (HN.out _).mono ?_
            rintro e w4 ⟨rfl, b4⟩
            replace bb := below_then bb b4
            go_wp2_with fail
            refine (HR.out _).mono ?_
            rintro e w4 ⟨rfl, rfl⟩
            go_wp2_with fail
            go_ret2
            exact ⟨rfl, bb⟩
          · have HW := Lib.hid (fun W => rwrap_any k (rawK 14 a b) W (raw_wf 14 a b (by omega) ra rb))
            rw [val_ari (by omega)]
            rw [show rawK 14 a b = a + b from rfl] at HW ⊢
            clear hm ha hb hop h13r HN HY
            generalize wrapK k (a + b) = v at *
            go_enter Try.func71, Try.ntmps71
            go_wp2_with fail
            refine (HM.out _).mono ?_
            rintro e w1 ⟨rfl, bb⟩
            go_wp2_with fail
            refine (HA.out _).mono ?_
            rintro e w2 ⟨rfl, b2⟩
            replace bb := below_then bb b2
            go_wp2_with fail
            refine (HB.out _).mono ?_
            rintro e w3 ⟨rfl, b3⟩
            replace bb := below_then bb b3
            go_wp2_with fail
            try rw [show wrap64 (a * b) = IntKind.i64.wrap (a * b) from wrap_i64' _]
            refine (HW.out _).mono ?_
            rintro e w5 ⟨rfl, b5⟩
            replace bb := below_then bb b5
            go_wp2_with fail
            go_ret2
            exact ⟨rfl, bb⟩
          · have HW := Lib.hid (fun W => rwrap_any k (rawK 15 a b) W (raw_wf 15 a b (by omega) ra rb))
            rw [val_ari (by omega)]
            rw [show rawK 15 a b = a - b from rfl] at HW ⊢
            clear hm ha hb hop h13r HN HY
            generalize wrapK k (a - b) = v at *
            go_enter Try.func71, Try.ntmps71
            go_wp2_with fail
            refine (HM.out _).mono ?_
            rintro e w1 ⟨rfl, bb⟩
            go_wp2_with fail
            refine (HA.out _).mono ?_
            rintro e w2 ⟨rfl, b2⟩
            replace bb := below_then bb b2
            go_wp2_with fail
            refine (HB.out _).mono ?_
            rintro e w3 ⟨rfl, b3⟩
            replace bb := below_then bb b3
            go_wp2_with fail
            try rw [show wrap64 (a * b) = IntKind.i64.wrap (a * b) from wrap_i64' _]
            refine (HW.out _).mono ?_
            rintro e w5 ⟨rfl, b5⟩
            replace bb := below_then bb b5
            go_wp2_with fail
            go_ret2
            exact ⟨rfl, bb⟩
          · have HW := Lib.hid (fun W => rwrap_any k (rawK 16 a b) W (raw_wf 16 a b (by omega) ra rb))
            rw [val_ari (by omega)]
            rw [show rawK 16 a b = IntKind.i64.wrap (a * b) from rfl] at HW ⊢
            clear hm ha hb hop h13r HN HY
            generalize wrapK k (IntKind.i64.wrap (a * b)) = v at *
            go_enter Try.func71, Try.ntmps71
            go_wp2_with fail
            refine (HM.out _).mono ?_
            rintro e w1 ⟨rfl, bb⟩
            go_wp2_with fail
            refine (HA.out _).mono ?_
            rintro e w2 ⟨rfl, b2⟩
            replace bb := below_then bb b2
            go_wp2_with fail
            refine (HB.out _).mono ?_
            rintro e w3 ⟨rfl, b3⟩
            replace bb := below_then bb b3
            go_wp2_with fail
            try rw [show wrap64 (a * b) = IntKind.i64.wrap (a * b) from wrap_i64' _]
            refine (HW.out _).mono ?_
            rintro e w5 ⟨rfl, b5⟩
            replace bb := below_then bb b5
            go_wp2_with fail
            go_ret2
            exact ⟨rfl, bb⟩
          · have HW := Lib.hid (fun W => rwrap_any k (rawK 17 a b) W (raw_wf 17 a b (by omega) ra rb))
            rw [val_ari (by omega)]
            rw [show rawK 17 a b = quoK a b from rfl] at HW ⊢
            have hq := quo_range a b ra
            clear hm ha hb hop h13r HN HY
            by_cases h0 : b = 0
            · subst h0
              rw [quo_zero]
              go_enter Try.func71, Try.ntmps71
              go_wp2_with fail
              refine (HM.out _).mono ?_
              rintro e w1 ⟨rfl, bb⟩
              go_wp2_with fail
              refine (HA.out _).mono ?_
              rintro e w2 ⟨rfl, b2⟩
              replace bb := below_then bb b2
              go_wp2_with fail
              refine (HB.out _).mono ?_
              rintro e w3 ⟨rfl, b3⟩
              replace bb := below_then bb b3
              go_wp2_with fail
              go_ret2
              exact ⟨rfl, bb⟩
            · have hd0 : (b == 0) = false := by simpa using h0
              rw [show quoK a b = a.tdiv b by unfold quoK; rw [if_neg h0]] at HW hq ⊢
              have hm2 : IntKind.i64.wrap (a.tdiv b) = a.tdiv b := by rw [IntKind.wrap_i64]; omega
              generalize wrapK k (a.tdiv b) = v at *
              go_enter Try.func71, Try.ntmps71
              go_wp2_with fail
              refine (HM.out _).mono ?_
              rintro e w1 ⟨rfl, bb⟩
              go_wp2_with fail
              refine (HA.out _).mono ?_
              rintro e w2 ⟨rfl, b2⟩
              replace bb := below_then bb b2
              go_wp2_with fail
              refine (HB.out _).mono ?_
              rintro e w3 ⟨rfl, b3⟩
              replace bb := below_then bb b3
              go_wp2_with fail
              refine (HW.out _).mono ?_
              rintro e w5 ⟨rfl, b5⟩
              replace bb := below_then bb b5
              go_wp2_with fail
              go_ret2
              exact ⟨rfl, bb⟩
          · have HW := Lib.hid (fun W => rwrap_any k (rawK 18 a b) W (raw_wf 18 a b (by omega) ra rb))
            rw [val_ari (by omega)]
            rw [show rawK 18 a b = remK a b from rfl] at HW ⊢
            have hq := rem_range a b ra
            clear hm ha hb hop h13r HN HY
            by_cases h0 : b = 0
            · subst h0
              rw [show remK a 0 = quoK a 0 from rfl, quo_zero]
              go_enter Try.func71, Try.ntmps71
              go_wp2_with fail
              refine (HM.out _).mono ?_
              rintro e w1 ⟨rfl, bb⟩
              go_wp2_with fail
              refine (HA.out _).mono ?_
              rintro e w2 ⟨rfl, b2⟩
              replace bb := below_then bb b2
              go_wp2_with fail
              refine (HB.out _).mono ?_
              rintro e w3 ⟨rfl, b3⟩
              replace bb := below_then bb b3
              go_wp2_with fail
              go_ret2
              exact ⟨rfl, bb⟩
            · have hd0 : (b == 0) = false := by simpa using h0
              rw [show remK a b = a.tmod b by unfold remK; rw [if_neg h0]] at HW hq ⊢
              have hm2 : IntKind.i64.wrap (a.tmod b) = a.tmod b := by rw [IntKind.wrap_i64]; omega
              generalize wrapK k (a.tmod b) = v at *
              go_enter Try.func71, Try.ntmps71
              go_wp2_with fail
              refine (HM.out _).mono ?_
              rintro e w1 ⟨rfl, bb⟩
              go_wp2_with fail
              refine (HA.out _).mono ?_
              rintro e w2 ⟨rfl, b2⟩
              replace bb := below_then bb b2
              go_wp2_with fail
              refine (HB.out _).mono ?_
              rintro e w3 ⟨rfl, b3⟩
              replace bb := below_then bb b3
              go_wp2_with fail
              refine (HW.out _).mono ?_
              rintro e w5 ⟨rfl, b5⟩
              replace bb := below_then bb b5
              go_wp2_with fail
              go_ret2
              exact ⟨rfl, bb⟩
          · rw [val_cmp (by omega)]
            rw [show rawK 19 a b = yesK (decide (b < a)) from rfl]
            clear hm ha hb hop ra rb h13r HN
            go_enter Try.func71, Try.ntmps71
            go_wp2_with fail
            refine (HM.out _).mono ?_
            rintro e w1 ⟨rfl, bb⟩
            go_wp2_with fail
            refine (HA.out _).mono ?_
            rintro e w2 ⟨rfl, b2⟩
            replace bb := below_then bb b2
            go_wp2_with fail
            refine (HB.out _).mono ?_
            rintro e w3 ⟨rfl, b3⟩
            replace bb := below_then bb b3
            go_wp2_with fail
            refine (HY.out _ _).mono ?_
            rintro e w4 ⟨rfl, rfl⟩
            go_wp2_with fail
            go_ret2
            exact ⟨ret_two (by first | rfl | (apply yes_eq; simp <;> done) | (apply yes_eq; simp <;> omega)) rfl, bb⟩
          · rw [val_cmp (by omega)]
            rw [show rawK 20 a b = yesK (decide (b ≤ a)) from rfl]
            clear hm ha hb hop ra rb h13r HN
            go_enter Try.func71, Try.ntmps71
            go_wp2_with fail
            refine (HM.out _).mono ?_
            rintro e w1 ⟨rfl, bb⟩
            go_wp2_with fail
            refine (HA.out _).mono ?_
            rintro e w2 ⟨rfl, b2⟩
            replace bb := below_then bb b2
            go_wp2_with fail
            refine (HB.out _).mono ?_
            rintro e w3 ⟨rfl, b3⟩
            replace bb := below_then bb b3
            go_wp2_with fail
            refine (HY.out _ _).mono ?_
            rintro e w4 ⟨rfl, rfl⟩
            go_wp2_with fail
            go_ret2
            exact ⟨ret_two (by first | rfl | (apply yes_eq; simp <;> done) | (apply yes_eq; simp <;> omega)) rfl, bb⟩
          · rw [val_cmp (by omega)]
            rw [show rawK 21 a b = yesK (a == b) from rfl]
            clear hm ha hb hop ra rb h13r HN
            go_enter Try.func71, Try.ntmps71
            go_wp2_with fail
            refine (HM.out _).mono ?_
            rintro e w1 ⟨rfl, bb⟩
            go_wp2_with fail
            refine (HA.out _).mono ?_
            rintro e w2 ⟨rfl, b2⟩
            replace bb := below_then bb b2
            go_wp2_with fail
            refine (HB.out _).mono ?_
            rintro e w3 ⟨rfl, b3⟩
            replace bb := below_then bb b3
            go_wp2_with fail
            refine (HY.out _ _).mono ?_
            rintro e w4 ⟨rfl, rfl⟩
            go_wp2_with fail
            go_ret2
            exact ⟨ret_two (by first | rfl | (apply yes_eq; simp <;> done) | (apply yes_eq; simp <;> omega)) rfl, bb⟩
          · rw [val_cmp (by omega)]
            rw [show rawK 22 a b = yesK (!(a == b)) from rfl]
            clear hm ha hb hop ra rb h13r HN
            go_enter Try.func71, Try.ntmps71
            go_wp2_with fail
            refine (HM.out _).mono ?_
            rintro e w1 ⟨rfl, bb⟩
            go_wp2_with fail
            refine (HA.out _).mono ?_
            rintro e w2 ⟨rfl, b2⟩
            replace bb := below_then bb b2
            go_wp2_with fail
            refine (HB.out _).mono ?_
            rintro e w3 ⟨rfl, b3⟩
            replace bb := below_then bb b3
            go_wp2_with fail
            refine (HY.out _ _).mono ?_
            rintro e w4 ⟨rfl, rfl⟩
            go_wp2_with fail
            go_ret2
            exact ⟨ret_two (by first | rfl | (apply yes_eq; simp <;> done) | (apply yes_eq; simp <;> omega)) rfl, bb⟩
          · rw [val_cmp (by omega)]
            rw [show rawK 23 a b = yesK (decide (a ≤ b)) from rfl]
            clear hm ha hb hop ra rb h13r HN
            go_enter Try.func71, Try.ntmps71
            go_wp2_with fail
            refine (HM.out _).mono ?_
            rintro e w1 ⟨rfl, bb⟩
            go_wp2_with fail
            refine (HA.out _).mono ?_
            rintro e w2 ⟨rfl, b2⟩
            replace bb := below_then bb b2
            go_wp2_with fail
            refine (HB.out _).mono ?_
            rintro e w3 ⟨rfl, b3⟩
            replace bb := below_then bb b3
            go_wp2_with fail
            refine (HY.out _ _).mono ?_
            rintro e w4 ⟨rfl, rfl⟩
            go_wp2_with fail
            go_ret2
            exact ⟨ret_two (by first | rfl | (apply yes_eq; simp <;> done) | (apply yes_eq; simp <;> omega)) rfl, bb⟩
          · rw [val_cmp (by omega)]
            rw [show rawK 24 a b = yesK (decide (a < b)) from rfl]
            clear hm ha hb hop ra rb h13r HN
            go_enter Try.func71, Try.ntmps71
            go_wp2_with fail
            refine (HM.out _).mono ?_
            rintro e w1 ⟨rfl, bb⟩
            go_wp2_with fail
            refine (HA.out _).mono ?_
            rintro e w2 ⟨rfl, b2⟩
            replace bb := below_then bb b2
            go_wp2_with fail
            refine (HB.out _).mono ?_
            rintro e w3 ⟨rfl, b3⟩
            replace bb := below_then bb b3
            go_wp2_with fail
            refine (HY.out _ _).mono ?_
            rintro e w4 ⟨rfl, rfl⟩
            go_wp2_with fail
            go_ret2
            exact ⟨ret_two (by first | rfl | (apply yes_eq; simp <;> done) | (apply yes_eq; simp <;> omega)) rfl, bb⟩
end Go.Proofs.Ytdhfkcodacmbfaa
