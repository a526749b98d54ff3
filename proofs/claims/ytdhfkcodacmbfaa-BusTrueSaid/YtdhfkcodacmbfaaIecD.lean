/- The kinds of values (iec): is, may, not. -/
import Derived.Test.YtdhfkcodacmbfaaIecC
import Derived.Laws.DeepNot64
set_option linter.unusedVariables false
set_option linter.unusedSimpArgs false
namespace Go.Proofs.Ytdhfkcodacmbfaa
open Go.RowKit

theorem ret_bool {a b : Bool} (h : a = b) : Ending.returned (.bool a) = .returned (.bool b) := by rw [h]
def isK (k v : Int) : Bool := kok k && decide (wrapK k v = v)
set_option maxRecDepth 100000 in
set_option maxHeartbeats 2000000 in
theorem is_any (k v : Int) (w : World) (hv : (Lit.int .i64 v).wf = true) : Calls Try.prog 83 #[.int .i64 k, .int .i64 v] w fun e w' => e = .returned (.bool (isK k v)) ∧ Below w.heap.size w w' := by
  have H := Lib.hid (fun W => of_any k W)
  have HW := Lib.hid (fun W => wrap_any k v W hv)
  unfold kagg at H
  unfold isK
  generalize wrapK k v = u at *
  cases hk : kok k with
  | true =>
    rw [hk] at H
    go_enter Try.func83, Try.ntmps83
    go_wp2_with fail
    refine (H.out _).mono ?_
    rintro e w1 ⟨rfl, b⟩
    have b1 := b.alloc b.size (.cells #[.string (kname k), .int .i64 (ksize k), .bool (ksign k), .bool (kbits k)] 164)
    go_wp2_with fail
    refine (HW.out _).mono ?_
    rintro e w2 ⟨rfl, b2⟩
    replace b1 := below_then b1 b2
    go_wp2_with fail
    go_ret
    exact ⟨ret_bool (by first | rfl | (simp <;> rfl)), b1⟩
  | false =>
    rw [hk] at H
    go_enter Try.func83, Try.ntmps83
    go_wp2_with fail
    refine (H.out _).mono ?_
    rintro e w1 ⟨rfl, b⟩
    have b1 := b.alloc b.size (.cells #[.string (kname k), .int .i64 (ksize k), .bool (ksign k), .bool (kbits k)] 164)
    go_wp2_with fail
    go_ret
    exact ⟨ret_bool (by first | rfl | (simp <;> done)), b1⟩
def mayK (op k : Int) : Bool := kok k && (if 7 ≤ op ∧ op ≤ 13 then kbits k else if 14 ≤ op ∧ op ≤ 18 then !kbits k else if 19 ≤ op ∧ op ≤ 24 then true else false)
set_option maxRecDepth 100000 in
set_option maxHeartbeats 2000000 in
theorem may_any (op k : Int) (w : World) : Calls Try.prog 74 #[.int .i64 op, .int .i64 k] w fun e w' => e = .returned (.bool (mayK op k)) ∧ Below w.heap.size w w' := by
  have H := Lib.hid (fun W => of_any k W)
  unfold kagg at H
  have hc : op < 7 ∨ (7 ≤ op ∧ op ≤ 13) ∨ (14 ≤ op ∧ op ≤ 18) ∨ (19 ≤ op ∧ op ≤ 24) ∨ 24 < op := by omega
  cases hk : kok k with
  | true =>
    rw [hk] at H
    have hm : mayK op k = (if 7 ≤ op ∧ op ≤ 13 then kbits k else if 14 ≤ op ∧ op ≤ 18 then !kbits k else if 19 ≤ op ∧ op ≤ 24 then true else false) := by unfold mayK; rw [hk]; rfl
    rw [hm]
    rcases hc with hc | hc | hc | hc | hc
    all_goals
      repeat first | rw [if_neg (by omega)] | rw [if_pos hc]
      go_enter Try.func74, Try.ntmps74
      go_wp2_with fail
      refine (H.out _).mono ?_
      rintro e w1 ⟨rfl, b⟩
      have b1 := b.alloc b.size (.cells #[.string (kname k), .int .i64 (ksize k), .bool (ksign k), .bool (kbits k)] 164)
      go_wp2_with fail
      go_ret
      exact ⟨ret_bool (by first | rfl | (simp <;> omega)), b1⟩
  | false =>
    rw [hk] at H
    have hm : mayK op k = false := by unfold mayK; rw [hk]; rfl
    rw [hm]
    go_enter Try.func74, Try.ntmps74
    go_wp2_with fail
    refine (H.out _).mono ?_
    rintro e w1 ⟨rfl, b⟩
    have b1 := b.alloc b.size (.cells #[.string (kname k), .int .i64 (ksize k), .bool (ksign k), .bool (kbits k)] 164)
    go_wp2_with fail
    go_ret
    exact ⟨ret_bool (by first | rfl | (simp <;> done)), b1⟩
theorem wrapK_range (k v : Int) : -2147483648 ≤ wrapK k v ∧ wrapK k v ≤ 4294967295 := by
  unfold wrapK
  repeat' split
  all_goals try simp only [wrap_i8', wrap_i16', IntKind.wrap_i32, IntKind.wrap_u16, IntKind.wrap_u32]
  all_goals omega
theorem wf_small {v : Int} (h0 : -9223372036854775808 ≤ v) (h1 : v ≤ 9223372036854775807) : (Lit.int .i64 v).wf = true := by
  simp [Lit.wf, IntKind.min, IntKind.max, IntKind.signed, IntKind.bits]
  omega
theorem may13 {k : Int} (h : mayK 13 k = true) : k = 1 ∨ k = 6 ∨ k = 7 := by
  rcases kcases k with rfl | rfl | rfl | rfl | rfl | rfl | rfl | ho
  · exact .inl rfl
  · exact absurd h (by decide)
  · exact absurd h (by decide)
  · exact absurd h (by decide)
  · exact absurd h (by decide)
  · exact .inr (.inl rfl)
  · exact .inr (.inr rfl)
  · unfold mayK at h
    rw [kok_out ho] at h
    exact absurd h (by simp)
theorem isK_eq {k v : Int} (h : isK k v = true) : wrapK k v = v := by
  unfold isK at h
  simp at h
  exact h.2
theorem may13_range {k v : Int} (h : mayK 13 k = true) (hi : isK k v = true) : 0 ≤ v ∧ v ≤ 4294967295 := by
  have hq := isK_eq hi
  rcases may13 h with rfl | rfl | rfl
  · rw [show wrapK 1 v = if v = 0 then 0 else 1 from rfl] at hq
    split at hq <;> omega
  · rw [show wrapK 6 v = IntKind.u16.wrap v from rfl, IntKind.wrap_u16] at hq
    omega
  · rw [show wrapK 7 v = IntKind.u32.wrap v from rfl, IntKind.wrap_u32] at hq
    omega
def notK (k v : Int) : Int := if mayK 13 k = true ∧ isK k v = true then (if k = 1 then 1 - v else wrapK k (-v - 1)) else 0
set_option maxRecDepth 100000 in
set_option maxHeartbeats 2000000 in
theorem not_any (k v : Int) (w : World) (hv : (Lit.int .i64 v).wf = true) : Calls Try.prog 72 #[.int .i64 k, .int .i64 v] w fun e w' => e = .returned (.int .i64 (notK k v)) ∧ Below w.heap.size w w' := by
  have HM := Lib.hid (fun W => may_any 13 k W)
  have HI := Lib.hid (fun W => is_any k v W hv)
  unfold notK
  cases hm : mayK 13 k with
  | true =>
    rw [hm] at HM
    cases hi : isK k v with
    | true =>
      rw [hi] at HI
      have hr := may13_range hm hi
      have HW := Lib.hid (fun W => wrap_any k (-v - 1) W (wf_small (by omega) (by omega)))
      rw [if_pos ⟨rfl, rfl⟩]
      by_cases h1 : k = 1
      · rw [if_pos h1]
        clear hm hi HW hv
        subst h1
        go_enter Try.func72, Try.ntmps72
        go_wp2_with fail
        refine (HM.out _).mono ?_
        rintro e w1 ⟨rfl, b⟩
        go_wp2_with fail
        refine (HI.out _).mono ?_
        rintro e w2 ⟨rfl, b2⟩
        replace b := below_then b b2
        go_wp2_with fail
        go_ret
        exact ⟨ret_int (by first | (simp only [IntKind.wrap_i64, wrap64]; omega) | omega), b⟩
      · rw [if_neg h1]
        have hd : (k == 1) = false := by simpa using h1
        clear hm hi hv
        go_enter Try.func72, Try.ntmps72
        go_wp2_with fail
        refine (HM.out _).mono ?_
        rintro e w1 ⟨rfl, b⟩
        go_wp2_with fail
        refine (HI.out _).mono ?_
        rintro e w2 ⟨rfl, b2⟩
        replace b := below_then b b2
        go_wp2_with fail
        rw [show bits .xor .i64 (-1) v = -v - 1 by
          have := i64_not v.toNat (by omega)
          rw [show ((v.toNat : Nat) : Int) = v by omega] at this
          omega]
        refine (HW.out _).mono ?_
        rintro e w3 ⟨rfl, b3⟩
        replace b := below_then b b3
        go_wp2_with fail
        go_ret
        exact ⟨rfl, b⟩
    | false =>
      rw [hi] at HI
      rw [if_neg (by simp)]
      go_enter Try.func72, Try.ntmps72
      go_wp2_with fail
      refine (HM.out _).mono ?_
      rintro e w1 ⟨rfl, b⟩
      go_wp2_with fail
      refine (HI.out _).mono ?_
      rintro e w2 ⟨rfl, b2⟩
      replace b := below_then b b2
      go_wp2_with fail
      go_ret
      exact ⟨rfl, b⟩
  | false =>
    rw [hm] at HM
    rw [if_neg (by simp)]
    go_enter Try.func72, Try.ntmps72
    go_wp2_with fail
    refine (HM.out _).mono ?_
    rintro e w1 ⟨rfl, b⟩
    go_wp2_with fail
    go_ret
    exact ⟨rfl, b⟩
end Go.Proofs.Ytdhfkcodacmbfaa
