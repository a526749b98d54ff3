/- The kinds of values (iec): yes, quotient, raw. -/
import Derived.Test.YtdhfkcodacmbfaaIecF
set_option linter.unusedVariables false
set_option linter.unusedSimpArgs false
namespace Go.Proofs.Ytdhfkcodacmbfaa
open Go.RowKit

def yesK (c : Bool) : Int := if c then 1 else 0
theorem yes_any (c : Bool) (w : World) : Calls Try.prog 147 #[.bool c] w fun e w' => e = .returned (.int .i64 (yesK c)) ∧ w' = w := by
  cases c
  all_goals
    go_enter Try.func147, Try.ntmps147
    go_wp2_with fail
    go_ret
    exact ⟨rfl, rfl⟩
theorem ryes_any (c : Bool) (w : World) : Calls Try.prog 128 #[.bool c] w fun e w' => e = .returned (.int .i64 (yesK c)) ∧ w' = w := by
  cases c
  all_goals
    go_enter Try.func128, Try.ntmps128
    go_wp2_with fail
    go_ret
    exact ⟨rfl, rfl⟩
def quoK (a b : Int) : Int := if b = 0 then 0 else a.tdiv b
def remK (a b : Int) : Int := if b = 0 then 0 else a.tmod b
theorem quot_any (a b : Int) (w : World) (ha : -2147483648 ≤ a ∧ a ≤ 4294967295) (hb : -2147483648 ≤ b ∧ b ≤ 4294967295) : Calls Try.prog 146 #[.int .i64 a, .int .i64 b] w fun e w' => e = .returned (.tuple #[.int .i64 (quoK a b), .int .i64 (remK a b)]) ∧ ∃ m, w' = w.drewN m := by
  by_cases h0 : b = 0
  · subst h0
    go_enter Try.func146, Try.ntmps146
    go_wp2_with fail
    go_ret2
    exact ⟨rfl, 0, rfl⟩
  · have hd : (b == 0) = false := by simpa using h0
    unfold quoK remK
    rw [if_neg h0, if_neg h0]
    have hq : -4294967296 ≤ a.tdiv b ∧ a.tdiv b ≤ 4294967296 := by
      have h1 : (a.tdiv b).natAbs = a.natAbs / b.natAbs := Int.natAbs_tdiv a b
      have h2 : a.natAbs / b.natAbs ≤ a.natAbs := Nat.div_le_self _ _
      rw [← h1] at h2
      omega
    have hm : IntKind.i64.wrap (a.tdiv b) = a.tdiv b := by rw [IntKind.wrap_i64]; omega
    go_enter Try.func146, Try.ntmps146
    go_wp2_with fail
    go_region
    go_wp2_with fail
    go_ret2
    exact ⟨rfl, 1, rfl⟩
def rawK (op a b : Int) : Int :=
  if op = 7 then bits .and .i64 a b else if op = 8 then bits .or .i64 a b else if op = 9 then bits .xor .i64 a b else if op = 14 then a + b else if op = 15 then a - b else if op = 16 then IntKind.i64.wrap (a * b)
  else if op = 17 then quoK a b else if op = 18 then remK a b else if op = 19 then yesK (decide (b < a)) else if op = 20 then yesK (decide (b ≤ a)) else if op = 21 then yesK (a == b) else if op = 22 then yesK (!(a == b))
  else if op = 23 then yesK (decide (a ≤ b)) else yesK (decide (a < b))
def rawOp (op : Int) : Prop := op = 7 ∨ op = 8 ∨ op = 9 ∨ op = 14 ∨ op = 15 ∨ op = 16 ∨ op = 17 ∨ op = 18 ∨ op = 19 ∨ op = 20 ∨ op = 21 ∨ op = 22 ∨ op = 23 ∨ op = 24
theorem yes_eq {a b : Bool} (h : a = b) : yesK a = yesK b := by rw [h]
set_option maxRecDepth 100000 in
set_option maxHeartbeats 8000000 in
theorem raw_any (op a b : Int) (w : World) (ho : rawOp op) (ha : -2147483648 ≤ a ∧ a ≤ 4294967295) (hb : -2147483648 ≤ b ∧ b ≤ 4294967295) : Calls Try.prog 127 #[.int .i64 op, .int .i64 a, .int .i64 b] w fun e w' => e = .returned (.int .i64 (rawK op a b)) ∧ Below w.heap.size w w' := by
  have HQ := Lib.hid (fun W => quot_any a b W ha hb)
  have HY := Lib.hid (fun c W => yes_any c W)
  rcases ho with rfl | rfl | rfl | rfl | rfl | rfl | rfl | rfl | rfl | rfl | rfl | rfl | rfl | rfl
  · rw [show rawK 7 a b = bits .and .i64 a b from rfl]
    go_enter Try.func127, Try.ntmps127
    go_wp2_with fail
    refine (HQ.out _).mono ?_
    rintro e w1 ⟨rfl, m, rfl⟩
    go_wp2_with fail
    go_ret
    exact ⟨ret_int (by first | rfl | (simp only [wrap64, IntKind.wrap_i64] <;> done) | (simp only [wrap64, IntKind.wrap_i64]; omega) | omega), below_drewN (Below.refl _ _) m⟩
  · rw [show rawK 8 a b = bits .or .i64 a b from rfl]
    go_enter Try.func127, Try.ntmps127
    go_wp2_with fail
    refine (HQ.out _).mono ?_
    rintro e w1 ⟨rfl, m, rfl⟩
    go_wp2_with fail
    go_ret
    exact ⟨ret_int (by first | rfl | (simp only [wrap64, IntKind.wrap_i64] <;> done) | (simp only [wrap64, IntKind.wrap_i64]; omega) | omega), below_drewN (Below.refl _ _) m⟩
  · rw [show rawK 9 a b = bits .xor .i64 a b from rfl]
    go_enter Try.func127, Try.ntmps127
    go_wp2_with fail
    refine (HQ.out _).mono ?_
    rintro e w1 ⟨rfl, m, rfl⟩
    go_wp2_with fail
    go_ret
    exact ⟨ret_int (by first | rfl | (simp only [wrap64, IntKind.wrap_i64] <;> done) | (simp only [wrap64, IntKind.wrap_i64]; omega) | omega), below_drewN (Below.refl _ _) m⟩
  · rw [show rawK 14 a b = a + b from rfl]
    go_enter Try.func127, Try.ntmps127
    go_wp2_with fail
    refine (HQ.out _).mono ?_
    rintro e w1 ⟨rfl, m, rfl⟩
    go_wp2_with fail
    go_ret
    exact ⟨ret_int (by first | rfl | (simp only [wrap64, IntKind.wrap_i64] <;> done) | (simp only [wrap64, IntKind.wrap_i64]; omega) | omega), below_drewN (Below.refl _ _) m⟩
  · rw [show rawK 15 a b = a - b from rfl]
    go_enter Try.func127, Try.ntmps127
    go_wp2_with fail
    refine (HQ.out _).mono ?_
    rintro e w1 ⟨rfl, m, rfl⟩
    go_wp2_with fail
    go_ret
    exact ⟨ret_int (by first | rfl | (simp only [wrap64, IntKind.wrap_i64] <;> done) | (simp only [wrap64, IntKind.wrap_i64]; omega) | omega), below_drewN (Below.refl _ _) m⟩
  · rw [show rawK 16 a b = IntKind.i64.wrap (a * b) from rfl]
    go_enter Try.func127, Try.ntmps127
    go_wp2_with fail
    refine (HQ.out _).mono ?_
    rintro e w1 ⟨rfl, m, rfl⟩
    go_wp2_with fail
    go_ret
    exact ⟨ret_int (by first | rfl | (simp only [wrap64, IntKind.wrap_i64] <;> done) | (simp only [wrap64, IntKind.wrap_i64]; omega) | omega), below_drewN (Below.refl _ _) m⟩
  · rw [show rawK 17 a b = quoK a b from rfl]
    go_enter Try.func127, Try.ntmps127
    go_wp2_with fail
    refine (HQ.out _).mono ?_
    rintro e w1 ⟨rfl, m, rfl⟩
    go_wp2_with fail
    go_ret
    exact ⟨ret_int (by first | rfl | (simp only [wrap64, IntKind.wrap_i64] <;> done) | (simp only [wrap64, IntKind.wrap_i64]; omega) | omega), below_drewN (Below.refl _ _) m⟩
  · rw [show rawK 18 a b = remK a b from rfl]
    go_enter Try.func127, Try.ntmps127
    go_wp2_with fail
    refine (HQ.out _).mono ?_
    rintro e w1 ⟨rfl, m, rfl⟩
    go_wp2_with fail
    go_ret
    exact ⟨ret_int (by first | rfl | (simp only [wrap64, IntKind.wrap_i64] <;> done) | (simp only [wrap64, IntKind.wrap_i64]; omega) | omega), below_drewN (Below.refl _ _) m⟩
  · rw [show rawK 19 a b = yesK (decide (b < a)) from rfl]
    go_enter Try.func127, Try.ntmps127
    go_wp2_with fail
    refine (HQ.out _).mono ?_
    rintro e w1 ⟨rfl, m, rfl⟩
    go_wp2_with fail
    refine (HY.out _ _).mono ?_
    rintro e w2 ⟨rfl, rfl⟩
    go_wp2_with fail
    go_ret
    exact ⟨ret_int (by first | rfl | (apply yes_eq; simp <;> done) | (apply yes_eq; simp <;> omega)), below_drewN (Below.refl _ _) m⟩
  · rw [show rawK 20 a b = yesK (decide (b ≤ a)) from rfl]
    go_enter Try.func127, Try.ntmps127
    go_wp2_with fail
    refine (HQ.out _).mono ?_
    rintro e w1 ⟨rfl, m, rfl⟩
    go_wp2_with fail
    refine (HY.out _ _).mono ?_
    rintro e w2 ⟨rfl, rfl⟩
    go_wp2_with fail
    go_ret
    exact ⟨ret_int (by first | rfl | (apply yes_eq; simp <;> done) | (apply yes_eq; simp <;> omega)), below_drewN (Below.refl _ _) m⟩
  · rw [show rawK 21 a b = yesK (a == b) from rfl]
    go_enter Try.func127, Try.ntmps127
    go_wp2_with fail
    refine (HQ.out _).mono ?_
    rintro e w1 ⟨rfl, m, rfl⟩
    go_wp2_with fail
    refine (HY.out _ _).mono ?_
    rintro e w2 ⟨rfl, rfl⟩
    go_wp2_with fail
    go_ret
    exact ⟨ret_int (by first | rfl | (apply yes_eq; simp <;> done) | (apply yes_eq; simp <;> omega)), below_drewN (Below.refl _ _) m⟩
  · rw [show rawK 22 a b = yesK (!(a == b)) from rfl]
    go_enter Try.func127, Try.ntmps127
    go_wp2_with fail
    refine (HQ.out _).mono ?_
    rintro e w1 ⟨rfl, m, rfl⟩
    go_wp2_with fail
    refine (HY.out _ _).mono ?_
    rintro e w2 ⟨rfl, rfl⟩
    go_wp2_with fail
    go_ret
    exact ⟨ret_int (by first | rfl | (apply yes_eq; simp <;> done) | (apply yes_eq; simp <;> omega)), below_drewN (Below.refl _ _) m⟩
  · rw [show rawK 23 a b = yesK (decide (a ≤ b)) from rfl]
    go_enter Try.func127, Try.ntmps127
    go_wp2_with fail
    refine (HQ.out _).mono ?_
    rintro e w1 ⟨rfl, m, rfl⟩
    go_wp2_with fail
    refine (HY.out _ _).mono ?_
    rintro e w2 ⟨rfl, rfl⟩
    go_wp2_with fail
    go_ret
    exact ⟨ret_int (by first | rfl | (apply yes_eq; simp <;> done) | (apply yes_eq; simp <;> omega)), below_drewN (Below.refl _ _) m⟩
  · rw [show rawK 24 a b = yesK (decide (a < b)) from rfl]
    go_enter Try.func127, Try.ntmps127
    go_wp2_with fail
    refine (HQ.out _).mono ?_
    rintro e w1 ⟨rfl, m, rfl⟩
    go_wp2_with fail
    refine (HY.out _ _).mono ?_
    rintro e w2 ⟨rfl, rfl⟩
    go_wp2_with fail
    go_ret
    exact ⟨ret_int (by first | rfl | (apply yes_eq; simp <;> done) | (apply yes_eq; simp <;> omega)), below_drewN (Below.refl _ _) m⟩
end Go.Proofs.Ytdhfkcodacmbfaa
