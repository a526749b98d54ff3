/- The medium: a bit of a text; where two texts differ. -/
import Derived.Test.YtdhfkcodacmbfaaBusT
set_option linter.unusedVariables false
set_option linter.unusedSimpArgs false
namespace Go.Proofs.Ytdhfkcodacmbfaa
open Go.RowKit

def sbit (t : ByteArray) (i : Nat) : Bool := (t.data.toList.getD (i / 8) 0).toNat.testBit (7 - i % 8)
theorem get_getD (t : ByteArray) (j : Nat) (h : j < t.size) : t[j] = t.data.toList.getD j 0 := by
  rw [List.getD_eq_getElem?_getD, List.getElem?_eq_getElem (by simpa using h)]
  simp [ByteArray.getElem_eq_getElem_data]
theorem bit_any (t : ByteArray) (i : Nat) (w : World) (h : i < 8 * t.size) (hs : t.size ≤ 1000000) :
    Calls Try.prog 118 #[.string t, .int .i64 (i : Int)] w fun e w' => e = .returned (.int .i64 ((sbit t i).toNat : Int)) ∧ w' = w := by
  have h0 : (0 : Int) ≤ (i : Int) := by omega
  have h1 : (i : Int) / 8 < (t.size : Int) := by omega
  have h2 : (0 : Int) ≤ (i : Int) / 8 := by omega
  have h3 : (i : Int) ≤ 9223372036854775807 := by omega
  have h4 : 0 ≤ (i : Int) % 8 := by omega
  have h5 : (i : Int) % 8 ≤ 7 := by omega
  have hj : i / 8 < t.size := by omega
  have hby : ((t[i / 8].toNat : Nat) : Int) < 256 := by have := t[i / 8].toNat_lt; omega
  have hby0 : (0 : Int) ≤ ((t[i / 8].toNat : Nat) : Int) := by omega
  have HR : Hid (((sbit t i).toNat : Int) = (((t[i / 8].toNat / 2 ^ (7 - i % 8) % 2 : Nat)) : Int)) := by
    unfold sbit
    rw [Nat.toNat_testBit, ← get_getD t (i / 8) hj]
    rfl
  go_enter Try.func118, Try.ntmps118
  go_wp2_with fail
  go_ret
  refine ⟨ret_int ?_, rfl⟩
  rw [HR.out]
  push_cast
  have hq : (0 : Int) ≤ ((t[i / 8].toNat : Nat) : Int) / 2 ^ (7 - i % 8) := Int.ediv_nonneg hby0 (Int.le_of_lt (Int.pow_pos (by decide)))
  first
    | rfl
    | (rw [Int.tmod_eq_emod_of_nonneg hq])
    | simp
theorem mask_bit (q P j k : Nat) (hk : k < 8) (hP : P < 65536) (h : 8 * j + (7 - k) < q ∨ q + 16 ≤ 8 * j + (7 - k)) : (mask q P j).testBit k = false := by
  unfold mask
  split
  · next hj =>
    rw [show (256 : Nat) = 2 ^ 8 from rfl, Nat.testBit_mod_two_pow, Nat.testBit_div_two_pow, show (4294967296 : Nat) = 2 ^ 32 from rfl, Nat.testBit_mod_two_pow, Nat.testBit_mul_two_pow]
    have hp : ∀ x, 16 ≤ x → P.testBit x = false := fun x hx => Nat.testBit_lt_two_pow (Nat.lt_of_lt_of_le hP (by
      calc 65536 = 2 ^ 16 := by decide
        _ ≤ 2 ^ x := Nat.pow_le_pow_right (by decide) hx))
    rcases h with h | h
    · rw [hp _ (by omega)]
      simp
    · have : ¬ (8 - q % 8 ≤ k + (16 - 8 * (j - q / 8))) := by omega
      simp [this]
      try omega
  · exact Nat.zero_testBit k
theorem bit_burst (t : ByteArray) (n q : Int) (h0 : 0 ≤ q) (h1 : q < 65536) (i : Nat) (hi : i < 8 * t.size) (h : (i : Int) < n ∨ n + 16 ≤ (i : Int)) : sbit (burstA t n q) i = sbit t i := by
  unfold burstA
  split
  · next hn =>
    unfold sbit
    have hq : q = ((q.toNat : Nat) : Int) := by omega
    rw [hq, burst_getD t n.toNat q.toNat (i / 8) (by omega), Nat.testBit_xor, mask_bit n.toNat q.toNat (i / 8) (7 - i % 8) (by omega) (by omega) (by omega)]
    simp
  · rfl
/-- Where two texts differ first and last, within k bits; -1: nowhere. -/
def lhS (p x : ByteArray) : Nat → Int × Int
  | 0 => (-1, -1)
  | k + 1 => if sbit p k = sbit x k then lhS p x k else (if (lhS p x k).1 < 0 then (k : Int) else (lhS p x k).1, (k : Int))
theorem lh_range (p x : ByteArray) (k : Nat) : -1 ≤ (lhS p x k).1 ∧ (lhS p x k).1 ≤ k ∧ -1 ≤ (lhS p x k).2 ∧ (lhS p x k).2 ≤ k := by
  induction k with
  | zero => simp [lhS]
  | succ k ih =>
    unfold lhS
    split
    · omega
    · simp only
      split <;> omega
theorem lh_window (p x : ByteArray) (n : Int) (k : Nat) (h : ∀ i, i < k → ((i : Int) < n ∨ n + 16 ≤ (i : Int)) → sbit p i = sbit x i) : ((lhS p x k).1 = -1 ∧ (lhS p x k).2 = -1) ∨ (n ≤ (lhS p x k).1 ∧ 0 ≤ (lhS p x k).1 ∧ (lhS p x k).2 < n + 16) := by
  induction k with
  | zero => exact .inl ⟨rfl, rfl⟩
  | succ k ih =>
    have ih := ih (fun i hi => h i (by omega))
    unfold lhS
    split
    · exact ih
    · next hne =>
      have hk : n ≤ (k : Int) ∧ (k : Int) < n + 16 := by
        by_cases hq : (k : Int) < n ∨ n + 16 ≤ (k : Int)
        · exact absurd (h k (by omega) hq) hne
        · omega
      right
      simp only
      split <;> omega
/-- A text that is another with a burst differs within sixteen bits. -/
theorem from_window {p x : ByteArray} (h : FromS p x) (hs : p.size = x.size) : (lhS p x (8 * p.size)).2 - (lhS p x (8 * p.size)).1 < 16 := by
  have key : ∃ n : Int, ∀ i, i < 8 * p.size → ((i : Int) < n ∨ n + 16 ≤ (i : Int)) → sbit p i = sbit x i := by
    rcases h with rfl | ⟨h1, _⟩ | ⟨n, q, h0, h1, rfl⟩
    · exact ⟨0, fun _ _ _ => rfl⟩
    · omega
    · exact ⟨n, fun i hi hn => bit_burst x n q h0 h1 i (by rw [burstA_size] at hi; exact hi) hn⟩
  obtain ⟨n, hn⟩ := key
  rcases lh_window p x n _ hn with ⟨h1, h2⟩ | ⟨h1, h2, h3⟩ <;> omega
theorem from_size {p x : ByteArray} (h : FromS p x) : p.size ≤ x.size := by
  rcases h with rfl | ⟨h1, _⟩ | ⟨n, q, _, _, rfl⟩
  · exact Nat.le_refl _
  · omega
  · rw [burstA_size]; exact Nat.le_refl _
theorem from_cut {p x : ByteArray} (h : FromS p x) (hs : p.size < x.size) : x.extract 0 p.size = p := by
  rcases h with rfl | ⟨_, h1⟩ | ⟨n, q, _, _, rfl⟩
  · omega
  · exact h1
  · rw [burstA_size] at hs; omega
end Go.Proofs.Ytdhfkcodacmbfaa
