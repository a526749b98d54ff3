/- The kinds of values (iec): do, in the program. -/
import Derived.Test.YtdhfkcodacmbfaaIecH
set_option linter.unusedVariables false
set_option linter.unusedSimpArgs false
namespace Go.Proofs.Ytdhfkcodacmbfaa
open Go.RowKit

theorem ret_two {k j : IntKind} {a b c d : Int} (h : a = b) (h2 : c = d) : Ending.returned (.tuple #[.int k a, .int j c]) = .returned (.tuple #[.int k b, .int j d]) := by rw [h, h2]
theorem do_all (op k a b : Int) (h13 : op ≠ 13) (hm : mayK op k = true) (ha : isK k a = true) (hb : isK k b = true) : doK op k a b = (valK op k a b, 0) := by
  unfold doK
  rw [if_neg (by simp [h13, hm]), if_neg (by simp [ha, hb])]
theorem val_log {op k a b : Int} (h : op = 7 ∨ op = 8 ∨ op = 9) : valK op k a b = logK op a b := by
  unfold valK
  rw [if_neg (by omega), if_neg (by omega), if_neg (by omega)]
theorem val_logn {op k a b : Int} (h : op = 10 ∨ op = 11 ∨ op = 12) : valK op k a b = logK (op - 3) a (notK k b) := by
  unfold valK
  rw [if_neg (by omega), if_neg (by omega), if_pos (by omega)]
theorem val_ari {op k a b : Int} (h : op = 14 ∨ op = 15 ∨ op = 16 ∨ op = 17 ∨ op = 18) : valK op k a b = wrapK k (rawK op a b) := by
  unfold valK
  rw [if_neg (by omega), if_pos (by omega)]
theorem val_cmp {op k a b : Int} (h : op = 19 ∨ op = 20 ∨ op = 21 ∨ op = 22 ∨ op = 23 ∨ op = 24) : valK op k a b = rawK op a b := by
  unfold valK
  rw [if_pos (by omega)]
set_option maxRecDepth 100000 in
set_option maxHeartbeats 8000000 in
theorem do_any (op k a b : Int) (w : World) (wa : (Lit.int .i64 a).wf = true) (wb : (Lit.int .i64 b).wf = true) : Calls Try.prog 70 #[.int .i64 op, .int .i64 k, .int .i64 a, .int .i64 b] w fun e w' => e = .returned (.tuple #[.int .i64 (doK op k a b).1, .int .i64 (doK op k a b).2]) ∧ Below w.heap.size w w' := by
  have HM := Lib.hid (fun W => may_any op k W)
  have HA := Lib.hid (fun W => is_any k a W wa)
  have HB := Lib.hid (fun W => is_any k b W wb)
  have HN := Lib.hid (fun W => not_any k b W wb)
  clear wa wb
  by_cases h13 : op = 13
  · rw [show doK op k a b = (0, 6) by unfold doK; rw [if_pos (.inl h13)]]
    subst h13
    go_enter Try.func70, Try.ntmps70
    go_wp2_with fail
    go_ret2
    exact ⟨rfl, Below.refl _ _⟩
  · have hd : (op == 13) = false := by simpa using h13
    cases hm : mayK op k with
    | false =>
      rw [show doK op k a b = (0, 6) by unfold doK; rw [if_pos (.inr hm)]]
      rw [hm] at HM
      clear hm
      go_enter Try.func70, Try.ntmps70
      go_wp2_with fail
      refine (HM.out _).mono ?_
      rintro e w1 ⟨rfl, bb⟩
      go_wp2_with fail
      go_ret2
      exact ⟨rfl, bb⟩
    | true =>
      cases ha : isK k a with
      | false =>
        rw [show doK op k a b = (0, 1) by unfold doK; rw [if_neg (by simp [h13, hm]), if_pos (.inl ha)]]
        rw [hm] at HM
        rw [ha] at HA
        clear hm ha
        go_enter Try.func70, Try.ntmps70
        go_wp2_with fail
        refine (HM.out _).mono ?_
        rintro e w1 ⟨rfl, bb⟩
        go_wp2_with fail
        refine (HA.out _).mono ?_
        rintro e w2 ⟨rfl, b2⟩
        replace bb := below_then bb b2
        go_wp2_with fail
        go_ret2
        exact ⟨rfl, bb⟩
      | true =>
        cases hb : isK k b with
        | false =>
          rw [show doK op k a b = (0, 1) by unfold doK; rw [if_neg (by simp [h13, hm]), if_pos (.inr hb)]]
          rw [hm] at HM
          rw [ha] at HA
          rw [hb] at HB
          clear hm ha hb
          go_enter Try.func70, Try.ntmps70
          go_wp2_with fail
          refine (HM.out _).mono ?_
          rintro e w1 ⟨rfl, bb⟩
          go_wp2_with fail
          refine (HA.out _).mono ?_
          rintro e w2 ⟨rfl, b2⟩
          replace bb := below_then bb b2
          go_wp2_with fail
          refine (HB.out _).mono ?_
          rintro e w3 ⟨rfl, b3⟩
          replace bb := below_then bb b3
          go_wp2_with fail
          go_ret2
          exact ⟨rfl, bb⟩
        | true =>
          rw [do_all op k a b h13 hm ha hb]
          rw [hm] at HM
          rw [ha] at HA
          rw [hb] at HB
          have hop := may_op hm
          have ra := isK_range ha
          have rb := isK_range hb
          have h13r : op ≤ 12 → (0 ≤ a ∧ a ≤ 4294967295) ∧ (0 ≤ b ∧ b ≤ 4294967295) := fun h => ⟨may13_range (hop.2.2 (by omega)) ha, may13_range (hop.2.2 (by omega)) hb⟩
          have hc : op = 7 ∨ op = 8 ∨ op = 9 ∨ op = 10 ∨ op = 11 ∨ op = 12 ∨ op = 14 ∨ op = 15 ∨ op = 16 ∨ op = 17 ∨ op = 18 ∨ op = 19 ∨ op = 20 ∨ op = 21 ∨ op = 22 ∨ op = 23 ∨ op = 24 := by omega
          clear hd h13
          rcases hc with rfl | rfl | rfl | rfl | rfl | rfl | rfl | rfl | rfl | rfl | rfl | rfl | rfl | rfl | rfl | rfl | rfl
          · have hm13 := hop.2.2 (by omega)
            have h13 := h13r (by omega)
            have HR := Lib.hid (fun W => raw_any 7 a b W (by unfold rawOp; omega) ra rb)
            rw [raw_log 7 a b (by omega) h13.1 h13.2] at HR
            have lr := log_range 7 a b h13.1 h13.2
            have HW := Lib.hid (fun W => wrap_any k (logK 7 a b) W (wf_small (by omega) (by omega)))
            rw [wrap_log 7 hm13 ha hb] at HW
            rw [val_log (by omega)]
            clear hm ha hb hop ra rb h13r hm13 h13 HN lr
            generalize logK 7 a b = v at *
            go_enter Try.func70, Try.ntmps70
            go_wp2_with fail
            refine (HM.out _).mono ?_
            rintro e w1 ⟨rfl, bb⟩
            go_wp2_with fail
            refine (HA.out _).mono ?_
            rintro e w2 ⟨rfl, b2⟩
            replace bb := below_then bb b2
            go_wp2_with fail
            refine (HB.out _).mono ?_
            rintro e w3 ⟨rfl, b3⟩
            replace bb := below_then bb b3
            go_wp2_with fail
            refine (HR.out _).mono ?_
            rintro e w4 ⟨rfl, b4⟩
            replace bb := below_then bb b4
            go_wp2_with fail
            refine (HW.out _).mono ?_
            rintro e w5 ⟨rfl, b5⟩
            replace bb := below_then bb b5
            go_wp2_with fail
            go_ret2
            exact ⟨rfl, bb⟩
          · have hm13 := hop.2.2 (by omega)
            have h13 := h13r (by omega)
            have HR := Lib.hid (fun W => raw_any 8 a b W (by unfold rawOp; omega) ra rb)
            rw [raw_log 8 a b (by omega) h13.1 h13.2] at HR
            have lr := log_range 8 a b h13.1 h13.2
            have HW := Lib.hid (fun W => wrap_any k (logK 8 a b) W (wf_small (by omega) (by omega)))
            rw [wrap_log 8 hm13 ha hb] at HW
            rw [val_log (by omega)]
            clear hm ha hb hop ra rb h13r hm13 h13 HN lr
            generalize logK 8 a b = v at *
            go_enter Try.func70, Try.ntmps70
            go_wp2_with fail
            refine (HM.out _).mono ?_
            rintro e w1 ⟨rfl, bb⟩
            go_wp2_with fail
            refine (HA.out _).mono ?_
            rintro e w2 ⟨rfl, b2⟩
            replace bb := below_then bb b2
            go_wp2_with fail
            refine (HB.out _).mono ?_
            rintro e w3 ⟨rfl, b3⟩
            replace bb := below_then bb b3
            go_wp2_with fail
            refine (HR.out _).mono ?_
            rintro e w4 ⟨rfl, b4⟩
            replace bb := below_then bb b4
            go_wp2_with fail
            refine (HW.out _).mono ?_
            rintro e w5 ⟨rfl, b5⟩
            replace bb := below_then bb b5
            go_wp2_with fail
            go_ret2
            exact ⟨rfl, bb⟩
          · have hm13 := hop.2.2 (by omega)
            have h13 := h13r (by omega)
            have HR := Lib.hid (fun W => raw_any 9 a b W (by unfold rawOp; omega) ra rb)
            rw [raw_log 9 a b (by omega) h13.1 h13.2] at HR
            have lr := log_range 9 a b h13.1 h13.2
            have HW := Lib.hid (fun W => wrap_any k (logK 9 a b) W (wf_small (by omega) (by omega)))
            rw [wrap_log 9 hm13 ha hb] at HW
            rw [val_log (by omega)]
            clear hm ha hb hop ra rb h13r hm13 h13 HN lr
            generalize logK 9 a b = v at *
            go_enter Try.func70, Try.ntmps70
            go_wp2_with fail
            refine (HM.out _).mono ?_
            rintro e w1 ⟨rfl, bb⟩
            go_wp2_with fail
            refine (HA.out _).mono ?_
            rintro e w2 ⟨rfl, b2⟩
            replace bb := below_then bb b2
            go_wp2_with fail
            refine (HB.out _).mono ?_
            rintro e w3 ⟨rfl, b3⟩
            replace bb := below_then bb b3
            go_wp2_with fail
            refine (HR.out _).mono ?_
            rintro e w4 ⟨rfl, b4⟩
            replace bb := below_then bb b4
            go_wp2_with fail
            refine (HW.out _).mono ?_
            rintro e w5 ⟨rfl, b5⟩
            replace bb := below_then bb b5
            go_wp2_with fail
            go_ret2
            exact ⟨rfl, bb⟩
          · have hm13 := hop.2.2 (by omega)
            have h13 := h13r (by omega)
            have hnb := isK_not hm13 hb
            have h13n := may13_range hm13 hnb
            have HR := Lib.hid (fun W => raw_any 7 a (notK k b) W (by unfold rawOp; omega) ra (isK_range hnb))
            rw [raw_log 7 a (notK k b) (by omega) h13.1 h13n] at HR
            have lr := log_range 7 a (notK k b) h13.1 h13n
            have HW := Lib.hid (fun W => wrap_any k (logK 7 a (notK k b)) W (wf_small (by omega) (by omega)))
            rw [wrap_log 7 hm13 ha hnb] at HW
            rw [val_logn (by omega), show (10 : Int) - 3 = 7 from rfl]
            clear hm ha hb hop ra rb h13r hm13 h13 lr hnb h13n
            generalize logK 7 a (notK k b) = v at *
            generalize notK k b = nb at *
            go_enter Try.func70, Try.ntmps70
            go_wp2_with fail
            refine (HM.out _).mono ?_
            rintro e w1 ⟨rfl, bb⟩
            go_wp2_with fail
            refine (HA.out _).mono ?_
            rintro e w2 ⟨rfl, b2⟩
            replace bb := below_then bb b2
            go_wp2_with fail
            refine (HB.out _).mono ?_
            rintro e w3 ⟨rfl, b3⟩
            replace bb := below_then bb b3
            go_wp2_with fail
            refine (HN.out _).mono ?_
            rintro e w4 ⟨rfl, b4⟩
            replace bb := below_then bb b4
            go_wp2_with fail
            refine (HR.out _).mono ?_
            rintro e w4 ⟨rfl, b4⟩
            replace bb := below_then bb b4
            go_wp2_with fail
            refine (HW.out _).mono ?_
            rintro e w5 ⟨rfl, b5⟩
            replace bb := below_then bb b5
            go_wp2_with fail
            go_ret2
            exact ⟨rfl, bb⟩
          · have hm13 := hop.2.2 (by omega)
            have h13 := h13r (by omega)
            have hnb := isK_not hm13 hb
            have h13n := may13_range hm13 hnb
            have HR := Lib.hid (fun W => raw_any 8 a (notK k b) W (by unfold rawOp; omega) ra (isK_range hnb))
            rw [raw_log 8 a (notK k b) (by omega) h13.1 h13n] at HR
            have lr := log_range 8 a (notK k b) h13.1 h13n
            have HW := Lib.hid (fun W => wrap_any k (logK 8 a (notK k b)) W (wf_small (by omega) (by omega)))
            rw [wrap_log 8 hm13 ha hnb] at HW
            rw [val_logn (by omega), show (11 : Int) - 3 = 8 from rfl]
            clear hm ha hb hop ra rb h13r hm13 h13 lr hnb h13n
            generalize logK 8 a (notK k b) = v at *
            generalize notK k b = nb at *
            go_enter Try.func70, Try.ntmps70
            go_wp2_with fail
            refine (HM.out _).mono ?_
            rintro e w1 ⟨rfl, bb⟩
            go_wp2_with fail
            refine (HA.out _).mono ?_
            rintro e w2 ⟨rfl, b2⟩
            replace bb := below_then bb b2
            go_wp2_with fail
            refine (HB.out _).mono ?_
            rintro e w3 ⟨rfl, b3⟩
            replace bb := below_then bb b3
            go_wp2_with fail
            refine (HN.out _).mono ?_
            rintro e w4 ⟨rfl, b4⟩
            replace bb := below_then bb b4
            go_wp2_with fail
            refine (HR.out _).mono ?_
            rintro e w4 ⟨rfl, b4⟩
            replace bb := below_then bb b4
            go_wp2_with fail
            refine (HW.out _).mono ?_
            rintro e w5 ⟨rfl, b5⟩
            replace bb := below_then bb b5
            go_wp2_with fail
            go_ret2
            exact ⟨rfl, bb⟩
          · have hm13 := hop.2.2 (by omega)
            have h13 := h13r (by omega)
            have hnb := isK_not hm13 hb
            have h13n := may13_range hm13 hnb
            have HR := Lib.hid (fun W => raw_any 9 a (notK k b) W (by unfold rawOp; omega) ra (isK_range hnb))
            rw [raw_log 9 a (notK k b) (by omega) h13.1 h13n] at HR
            have lr := log_range 9 a (notK k b) h13.1 h13n
            have HW := Lib.hid (fun W => wrap_any k (logK 9 a (notK k b)) W (wf_small (by omega) (by omega)))
            rw [wrap_log 9 hm13 ha hnb] at HW
            rw [val_logn (by omega), show (12 : Int) - 3 = 9 from rfl]
            clear hm ha hb hop ra rb h13r hm13 h13 lr hnb h13n
            generalize logK 9 a (notK k b) = v at *
            generalize notK k b = nb at *
            go_enter Try.func70, Try.ntmps70
            go_wp2_with fail
            refine (HM.out _).mono ?_
            rintro e w1 ⟨rfl, bb⟩
            go_wp2_with fail
            refine (HA.out _).mono ?_
            rintro e w2 ⟨rfl, b2⟩
            replace bb := below_then bb b2
            go_wp2_with fail
            refine (HB.out _).mono ?_
            rintro e w3 ⟨rfl, b3⟩
            replace bb := below_then bb b3
            go_wp2_with fail
            refine (HN.out _).mono ?_
            rintro e w4 ⟨rfl, b4⟩
            replace bb := below_then bb b4
            go_wp2_with fail
            refine (HR.out _).mono ?_
            rintro e w4 ⟨rfl, b4⟩
            replace bb := below_then bb b4
            go_wp2_with fail
            refine (HW.out _).mono ?_
            rintro e w5 ⟨rfl, b5⟩
            replace bb := below_then bb b5
            go_wp2_with fail
            go_ret2
            exact ⟨rfl, bb⟩
          · have HR := Lib.hid (fun W => raw_any 14 a b W (by unfold rawOp; omega) ra rb)
            have HW := Lib.hid (fun W => wrap_any k (rawK 14 a b) W (raw_wf 14 a b (by omega) ra rb))
            rw [val_ari (by omega)]
            clear hm ha hb hop ra rb h13r HN
            generalize wrapK k (rawK 14 a b) = v at *
            generalize rawK 14 a b = u at *
            go_enter Try.func70, Try.ntmps70
            go_wp2_with fail
            refine (HM.out _).mono ?_
            rintro e w1 ⟨rfl, bb⟩
            go_wp2_with fail
            refine (HA.out _).mono ?_
            rintro e w2 ⟨rfl, b2⟩
            replace bb := below_then bb b2
            go_wp2_with fail
            refine (HB.out _).mono ?_
            rintro e w3 ⟨rfl, b3⟩
            replace bb := below_then bb b3
            go_wp2_with fail
            refine (HR.out _).mono ?_
            rintro e w4 ⟨rfl, b4⟩
            replace bb := below_then bb b4
            go_wp2_with fail
            refine (HW.out _).mono ?_
            rintro e w5 ⟨rfl, b5⟩
            replace bb := below_then bb b5
            go_wp2_with fail
            go_ret2
            exact ⟨rfl, bb⟩
          · have HR := Lib.hid (fun W => raw_any 15 a b W (by unfold rawOp; omega) ra rb)
            have HW := Lib.hid (fun W => wrap_any k (rawK 15 a b) W (raw_wf 15 a b (by omega) ra rb))
            rw [val_ari (by omega)]
            clear hm ha hb hop ra rb h13r HN
            generalize wrapK k (rawK 15 a b) = v at *
            generalize rawK 15 a b = u at *
            go_enter Try.func70, Try.ntmps70
            go_wp2_with fail
            refine (HM.out _).mono ?_
            rintro e w1 ⟨rfl, bb⟩
            go_wp2_with fail
            refine (HA.out _).mono ?_
            rintro e w2 ⟨rfl, b2⟩
            replace bb := below_then bb b2
            go_wp2_with fail
            refine (HB.out _).mono ?_
            rintro e w3 ⟨rfl, b3⟩
            replace bb := below_then bb b3
            go_wp2_with fail
            refine (HR.out _).mono ?_
            rintro e w4 ⟨rfl, b4⟩
            replace bb := below_then bb b4
            go_wp2_with fail
            refine (HW.out _).mono ?_
            rintro e w5 ⟨rfl, b5⟩
            replace bb := below_then bb b5
            go_wp2_with fail
            go_ret2
            exact ⟨rfl, bb⟩
          · have HR := Lib.hid (fun W => raw_any 16 a b W (by unfold rawOp; omega) ra rb)
            have HW := Lib.hid (fun W => wrap_any k (rawK 16 a b) W (raw_wf 16 a b (by omega) ra rb))
            rw [val_ari (by omega)]
            clear hm ha hb hop ra rb h13r HN
            generalize wrapK k (rawK 16 a b) = v at *
            generalize rawK 16 a b = u at *
            go_enter Try.func70, Try.ntmps70
            go_wp2_with fail
            refine (HM.out _).mono ?_
            rintro e w1 ⟨rfl, bb⟩
            go_wp2_with fail
            refine (HA.out _).mono ?_
            rintro e w2 ⟨rfl, b2⟩
            replace bb := below_then bb b2
            go_wp2_with fail
            refine (HB.out _).mono ?_
            rintro e w3 ⟨rfl, b3⟩
            replace bb := below_then bb b3
            go_wp2_with fail
            refine (HR.out _).mono ?_
            rintro e w4 ⟨rfl, b4⟩
            replace bb := below_then bb b4
            go_wp2_with fail
            refine (HW.out _).mono ?_
            rintro e w5 ⟨rfl, b5⟩
            replace bb := below_then bb b5
            go_wp2_with fail
            go_ret2
            exact ⟨rfl, bb⟩
          · have HR := Lib.hid (fun W => raw_any 17 a b W (by unfold rawOp; omega) ra rb)
            have HW := Lib.hid (fun W => wrap_any k (rawK 17 a b) W (raw_wf 17 a b (by omega) ra rb))
            rw [val_ari (by omega)]
            clear hm ha hb hop ra rb h13r HN
            generalize wrapK k (rawK 17 a b) = v at *
            generalize rawK 17 a b = u at *
            go_enter Try.func70, Try.ntmps70
            go_wp2_with fail
            refine (HM.out _).mono ?_
            rintro e w1 ⟨rfl, bb⟩
            go_wp2_with fail
            refine (HA.out _).mono ?_
            rintro e w2 ⟨rfl, b2⟩
            replace bb := below_then bb b2
            go_wp2_with fail
            refine (HB.out _).mono ?_
            rintro e w3 ⟨rfl, b3⟩
            replace bb := below_then bb b3
            go_wp2_with fail
            refine (HR.out _).mono ?_
            rintro e w4 ⟨rfl, b4⟩
            replace bb := below_then bb b4
            go_wp2_with fail
            refine (HW.out _).mono ?_
            rintro e w5 ⟨rfl, b5⟩
            replace bb := below_then bb b5
            go_wp2_with fail
            go_ret2
            exact ⟨rfl, bb⟩
          · have HR := Lib.hid (fun W => raw_any 18 a b W (by unfold rawOp; omega) ra rb)
            have HW := Lib.hid (fun W => wrap_any k (rawK 18 a b) W (raw_wf 18 a b (by omega) ra rb))
            rw [val_ari (by omega)]
            clear hm ha hb hop ra rb h13r HN
            generalize wrapK k (rawK 18 a b) = v at *
            generalize rawK 18 a b = u at *
            go_enter Try.func70, Try.ntmps70
            go_wp2_with fail
            refine (HM.out _).mono ?_
            rintro e w1 ⟨rfl, bb⟩
            go_wp2_with fail
            refine (HA.out _).mono ?_
            rintro e w2 ⟨rfl, b2⟩
            replace bb := below_then bb b2
            go_wp2_with fail
            refine (HB.out _).mono ?_
            rintro e w3 ⟨rfl, b3⟩
            replace bb := below_then bb b3
            go_wp2_with fail
            refine (HR.out _).mono ?_
            rintro e w4 ⟨rfl, b4⟩
            replace bb := below_then bb b4
            go_wp2_with fail
            refine (HW.out _).mono ?_
            rintro e w5 ⟨rfl, b5⟩
            replace bb := below_then bb b5
            go_wp2_with fail
            go_ret2
            exact ⟨rfl, bb⟩
          · have HR := Lib.hid (fun W => raw_any 19 a b W (by unfold rawOp; omega) ra rb)
            rw [val_cmp (by omega)]
            clear hm ha hb hop ra rb h13r HN
            generalize rawK 19 a b = v at *
            go_enter Try.func70, Try.ntmps70
            go_wp2_with fail
            refine (HM.out _).mono ?_
            rintro e w1 ⟨rfl, bb⟩
            go_wp2_with fail
            refine (HA.out _).mono ?_
            rintro e w2 ⟨rfl, b2⟩
            replace bb := below_then bb b2
            go_wp2_with fail
            refine (HB.out _).mono ?_
            rintro e w3 ⟨rfl, b3⟩
            replace bb := below_then bb b3
            go_wp2_with fail
            refine (HR.out _).mono ?_
            rintro e w4 ⟨rfl, b4⟩
            replace bb := below_then bb b4
            go_wp2_with fail
            go_ret2
            exact ⟨rfl, bb⟩
          · have HR := Lib.hid (fun W => raw_any 20 a b W (by unfold rawOp; omega) ra rb)
            rw [val_cmp (by omega)]
            clear hm ha hb hop ra rb h13r HN
            generalize rawK 20 a b = v at *
            go_enter Try.func70, Try.ntmps70
            go_wp2_with fail
            refine (HM.out _).mono ?_
            rintro e w1 ⟨rfl, bb⟩
            go_wp2_with fail
            refine (HA.out _).mono ?_
            rintro e w2 ⟨rfl, b2⟩
            replace bb := below_then bb b2
            go_wp2_with fail
            refine (HB.out _).mono ?_
            rintro e w3 ⟨rfl, b3⟩
            replace bb := below_then bb b3
            go_wp2_with fail
            refine (HR.out _).mono ?_
            rintro e w4 ⟨rfl, b4⟩
            replace bb := below_then bb b4
            go_wp2_with fail
            go_ret2
            exact ⟨rfl, bb⟩
          · have HR := Lib.hid (fun W => raw_any 21 a b W (by unfold rawOp; omega) ra rb)
            rw [val_cmp (by omega)]
            clear hm ha hb hop ra rb h13r HN
            generalize rawK 21 a b = v at *
            go_enter Try.func70, Try.ntmps70
            go_wp2_with fail
            refine (HM.out _).mono ?_
            rintro e w1 ⟨rfl, bb⟩
            go_wp2_with fail
            refine (HA.out _).mono ?_
            rintro e w2 ⟨rfl, b2⟩
            replace bb := below_then bb b2
            go_wp2_with fail
            refine (HB.out _).mono ?_
            rintro e w3 ⟨rfl, b3⟩
            replace bb := below_then bb b3
            go_wp2_with fail
            refine (HR.out _).mono ?_
            rintro e w4 ⟨rfl, b4⟩
            replace bb := below_then bb b4
            go_wp2_with fail
            go_ret2
            exact ⟨rfl, bb⟩
          · have HR := Lib.hid (fun W => raw_any 22 a b W (by unfold rawOp; omega) ra rb)
            rw [val_cmp (by omega)]
            clear hm ha hb hop ra rb h13r HN
            generalize rawK 22 a b = v at *
            go_enter Try.func70, Try.ntmps70
            go_wp2_with fail
            refine (HM.out _).mono ?_
            rintro e w1 ⟨rfl, bb⟩
            go_wp2_with fail
            refine (HA.out _).mono ?_
            rintro e w2 ⟨rfl, b2⟩
            replace bb := below_then bb b2
            go_wp2_with fail
            refine (HB.out _).mono ?_
            rintro e w3 ⟨rfl, b3⟩
            replace bb := below_then bb b3
            go_wp2_with fail
            refine (HR.out _).mono ?_
            rintro e w4 ⟨rfl, b4⟩
            replace bb := below_then bb b4
            go_wp2_with fail
            go_ret2
            exact ⟨rfl, bb⟩
          · have HR := Lib.hid (fun W => raw_any 23 a b W (by unfold rawOp; omega) ra rb)
            rw [val_cmp (by omega)]
            clear hm ha hb hop ra rb h13r HN
            generalize rawK 23 a b = v at *
            go_enter Try.func70, Try.ntmps70
            go_wp2_with fail
            refine (HM.out _).mono ?_
            rintro e w1 ⟨rfl, bb⟩
            go_wp2_with fail
            refine (HA.out _).mono ?_
            rintro e w2 ⟨rfl, b2⟩
            replace bb := below_then bb b2
            go_wp2_with fail
            refine (HB.out _).mono ?_
            rintro e w3 ⟨rfl, b3⟩
            replace bb := below_then bb b3
            go_wp2_with fail
            refine (HR.out _).mono ?_
            rintro e w4 ⟨rfl, b4⟩
            replace bb := below_then bb b4
            go_wp2_with fail
            go_ret2
            exact ⟨rfl, bb⟩
          · have HR := Lib.hid (fun W => raw_any 24 a b W (by unfold rawOp; omega) ra rb)
            rw [val_cmp (by omega)]
            clear hm ha hb hop ra rb h13r HN
            generalize rawK 24 a b = v at *
            go_enter Try.func70, Try.ntmps70
            go_wp2_with fail
            refine (HM.out _).mono ?_
            rintro e w1 ⟨rfl, bb⟩
            go_wp2_with fail
            refine (HA.out _).mono ?_
            rintro e w2 ⟨rfl, b2⟩
            replace bb := below_then bb b2
            go_wp2_with fail
            refine (HB.out _).mono ?_
            rintro e w3 ⟨rfl, b3⟩
            replace bb := below_then bb b3
            go_wp2_with fail
            refine (HR.out _).mono ?_
            rintro e w4 ⟨rfl, b4⟩
            replace bb := below_then bb b4
            go_wp2_with fail
            go_ret2
            exact ⟨rfl, bb⟩
end Go.Proofs.Ytdhfkcodacmbfaa
