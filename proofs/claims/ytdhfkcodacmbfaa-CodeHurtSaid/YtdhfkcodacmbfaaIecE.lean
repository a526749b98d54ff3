/- The reference's answer for kinds: size, name, many, least, is, wrap, not, may. -/
import Derived.Test.YtdhfkcodacmbfaaIecD
set_option linter.unusedVariables false
set_option linter.unusedSimpArgs false
namespace Go.Proofs.Ytdhfkcodacmbfaa
open Go.RowKit

set_option maxRecDepth 100000 in
set_option maxHeartbeats 2000000 in
theorem rsize_any (k : Int) (w : World) : Calls Try.prog 88 #[.int .i64 k] w fun e w' => e = .returned (.int .i64 (ksize k)) ∧ Below w.heap.size w w' := by
  have hb := (Below.refl w.heap.size w).alloc (Nat.le_refl _) (.cells #[.int .i64 0, .int .i64 1, .int .i64 1, .int .i64 2, .int .i64 4, .int .i64 2, .int .i64 2, .int .i64 4] 3)
  have hc : k = 0 ∨ k = 1 ∨ k = 2 ∨ k = 3 ∨ k = 4 ∨ k = 5 ∨ k = 6 ∨ k = 7 ∨ k < 0 ∨ 7 < k := by omega
  rcases hc with rfl | rfl | rfl | rfl | rfl | rfl | rfl | rfl | ho | ho
  case inr.inr.inr.inr.inr.inr.inr.inr.inl =>
    rw [ksize_out (by omega)]
    go_enter Try.func88, Try.ntmps88
    go_wp2_with fail
    go_ret
    exact ⟨rfl, hb⟩
  case inr.inr.inr.inr.inr.inr.inr.inr.inr =>
    rw [ksize_out (by omega)]
    have h0 : ¬ k < 0 := by omega
    go_enter Try.func88, Try.ntmps88
    go_wp2_with fail
    go_ret
    exact ⟨rfl, hb⟩
  all_goals
    go_enter Try.func88, Try.ntmps88
    go_wp2_with fail
    go_ret
    exact ⟨rfl, hb⟩
set_option maxRecDepth 100000 in
set_option maxHeartbeats 2000000 in
theorem rname_any (k : Int) (w : World) : Calls Try.prog 86 #[.int .i64 k] w fun e w' => e = .returned (.string (kname k)) ∧ Below w.heap.size w w' := by
  have hb := (Below.refl w.heap.size w).alloc (Nat.le_refl _) (.cells #[.string ⟨#[]⟩, .string ⟨#[66, 79, 79, 76]⟩, .string ⟨#[83, 73, 78, 84]⟩, .string ⟨#[73, 78, 84]⟩, .string ⟨#[68, 73, 78, 84]⟩, .string ⟨#[85, 73, 78, 84]⟩, .string ⟨#[87, 79, 82, 68]⟩, .string ⟨#[68, 87, 79, 82, 68]⟩] 9)
  have hc : k = 0 ∨ k = 1 ∨ k = 2 ∨ k = 3 ∨ k = 4 ∨ k = 5 ∨ k = 6 ∨ k = 7 ∨ k < 0 ∨ 7 < k := by omega
  rcases hc with rfl | rfl | rfl | rfl | rfl | rfl | rfl | rfl | ho | ho
  case inr.inr.inr.inr.inr.inr.inr.inr.inl =>
    rw [kname_out (by omega)]
    go_enter Try.func86, Try.ntmps86
    go_wp2_with fail
    go_ret
    exact ⟨rfl, hb⟩
  case inr.inr.inr.inr.inr.inr.inr.inr.inr =>
    rw [kname_out (by omega)]
    have h0 : ¬ k < 0 := by omega
    go_enter Try.func86, Try.ntmps86
    go_wp2_with fail
    go_ret
    exact ⟨rfl, hb⟩
  all_goals
    go_enter Try.func86, Try.ntmps86
    go_wp2_with fail
    go_ret
    exact ⟨rfl, hb⟩
def manyK (k : Int) : Int := if k = 1 then 2 else ((256 ^ (ksize k).toNat : Nat) : Int)
theorem pow256 {i : Nat} (h : i < 4) : 256 ^ i ≤ 16777216 := Nat.le_trans (Nat.pow_le_pow_right (by decide) (show i ≤ 3 by omega)) (by decide)
set_option maxRecDepth 100000 in
set_option maxHeartbeats 2000000 in
theorem many_any (k : Int) (w : World) : Calls Try.prog 125 #[.int .i64 k] w fun e w' => e = .returned (.int .i64 (manyK k)) ∧ Below w.heap.size w w' := by
  by_cases h1 : k = 1
  · subst h1
    go_enter Try.func125, Try.ntmps125
    go_wp2_with fail
    go_ret
    exact ⟨rfl, Below.refl _ _⟩
  · have HS := Lib.hid (fun W => rsize_any k W)
    have hr := ksize_range k
    unfold manyK
    rw [if_neg h1]
    obtain ⟨s, hs⟩ : ∃ s : Nat, ksize k = s := ⟨(ksize k).toNat, by omega⟩
    rw [hs] at hr HS
    rw [hs, Int.toNat_natCast]
    clear hs
    have hd : (k == 1) = false := by simpa using h1
    go_enter Try.func125, Try.ntmps125
    go_wp2_with fail
    go_loopw [3, 4] (fun p v wr => ∃ i P : Nat, i ≤ s ∧ v = .int .i64 i ∧ p = .int .i64 (P : Int) ∧ P = 256 ^ i ∧ Below w.heap.size w wr) (fun _ v _ => s - (intOf v).toNat)
    case atStart => exact ⟨0, 1, by omega, rfl, rfl, rfl, Below.refl _ _⟩
    case round =>
      obtain ⟨i, P, hi, rfl, rfl, hP, hb⟩ := hrel
      by_cases hlt : i < s
      · have hp := pow256 (show i < 4 by omega)
        have hq : 256 ^ (i + 1) = 256 ^ i * 256 := Nat.pow_succ 256 i
        rw [← hP] at hp hq
        have HQ := Lib.hid hq
        clear hq hP
        go_wp2_with fail
        refine (HS.out _).mono ?_
        rintro e w1 ⟨rfl, b⟩
        have hb2 := below_then hb b
        go_wp2_with fail
        go_roundw
        case rel => exact ⟨i + 1, P * 256, by omega, by go_num, by go_num, HQ.out.symm, hb2⟩
        case measure => simp [intOf]; omega
      · obtain rfl : i = s := by omega
        go_wp2_with fail
        refine (HS.out _).mono ?_
        rintro e w1 ⟨rfl, b⟩
        have hb2 := below_then hb b
        go_wp2_with fail
        go_ret
        exact ⟨ret_int (by simp), hb2⟩
def leastK (k : Int) : Int := if 2 ≤ k ∧ k ≤ 4 then (-manyK k).tdiv 2 else 0
set_option maxRecDepth 100000 in
set_option maxHeartbeats 2000000 in
theorem least_any (k : Int) (w : World) : Calls Try.prog 126 #[.int .i64 k] w fun e w' => e = .returned (.int .i64 (leastK k)) ∧ Below w.heap.size w w' := by
  have HM := Lib.hid (fun W => many_any k W)
  have hc : k < 2 ∨ k = 2 ∨ k = 3 ∨ k = 4 ∨ 4 < k := by omega
  rcases hc with ho | rfl | rfl | rfl | ho
  · unfold leastK
    rw [if_neg (by omega)]
    go_enter Try.func126, Try.ntmps126
    go_wp2_with fail
    go_ret
    exact ⟨rfl, Below.refl _ _⟩
  · rw [show manyK 2 = 256 by decide] at HM
    rw [show leastK 2 = -128 by decide +kernel]
    go_enter Try.func126, Try.ntmps126
    go_wp2_with fail
    refine (HM.out _).mono ?_
    rintro e w1 ⟨rfl, b⟩
    go_wp2_with fail
    go_ret
    exact ⟨ret_int (by first | rfl | decide +kernel), b⟩
  · rw [show manyK 3 = 65536 by decide] at HM
    rw [show leastK 3 = -32768 by decide +kernel]
    go_enter Try.func126, Try.ntmps126
    go_wp2_with fail
    refine (HM.out _).mono ?_
    rintro e w1 ⟨rfl, b⟩
    go_wp2_with fail
    go_ret
    exact ⟨ret_int (by first | rfl | decide +kernel), b⟩
  · rw [show manyK 4 = 4294967296 by decide] at HM
    rw [show leastK 4 = -2147483648 by decide +kernel]
    go_enter Try.func126, Try.ntmps126
    go_wp2_with fail
    refine (HM.out _).mono ?_
    rintro e w1 ⟨rfl, b⟩
    go_wp2_with fail
    go_ret
    exact ⟨ret_int (by first | rfl | decide +kernel), b⟩
  · unfold leastK
    rw [if_neg (by omega)]
    have h2 : 2 ≤ k := by omega
    go_enter Try.func126, Try.ntmps126
    go_wp2_with fail
    go_ret
    exact ⟨rfl, Below.refl _ _⟩
end Go.Proofs.Ytdhfkcodacmbfaa
