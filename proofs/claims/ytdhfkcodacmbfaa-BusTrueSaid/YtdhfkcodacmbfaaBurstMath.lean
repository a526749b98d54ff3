/- Plain laws on bursts: bit by bit is byte by byte. No program. -/
import Derived.Test.YtdhfkcodacmbfaaCrcMath
set_option linter.unusedVariables false
set_option linter.unusedSimpArgs false
namespace Go.Proofs.Ytdhfkcodacmbfaa
open Go.RowKit

def flips (n q P : Nat) : Nat → Nat → Nat
  | 0, _ => 0
  | i + 1, j => if (P / 2 ^ (15 - i) % 2 = 1 ∧ q + i < 8 * n) ∧ j = (q + i) / 8 then flips n q P i j ^^^ 2 ^ (7 - (q + i) % 8) else flips n q P i j
theorem flips_bit (n q P j : Nat) (hj : j < n) (b : Nat) (hb : b < 8) : ∀ i, i ≤ 16 →
    (flips n q P i j).testBit b = (decide (q ≤ 8 * j + 7 - b ∧ 8 * j + 7 - b < q + i) && P.testBit (15 - (8 * j + 7 - b - q))) := by
  intro i
  induction i with
  | zero =>
    intro _
    simp only [flips, Nat.zero_testBit]
    rw [decide_eq_false (by omega)]; rfl
  | succ i ih =>
    intro hi
    have ih := ih (by omega)
    have hd : ∀ k, P.testBit k = decide (P / 2 ^ k % 2 = 1) := fun k => Nat.testBit_eq_decide_div_mod_eq
    by_cases c : (P / 2 ^ (15 - i) % 2 = 1 ∧ q + i < 8 * n) ∧ j = (q + i) / 8
    · rw [flips, if_pos c, Nat.testBit_xor, Nat.testBit_two_pow, ih]
      by_cases e : 7 - (q + i) % 8 = b
      · have et : 8 * j + 7 - b = q + i := by omega
        rw [et, decide_eq_false (by omega), decide_eq_true e, decide_eq_true (by omega), show q + i - q = i by omega, hd, decide_eq_true c.1.1]; rfl
      · have et : 8 * j + 7 - b ≠ q + i := by omega
        rw [decide_eq_false e, Bool.xor_false]
        congr 1
        exact decide_eq_decide.2 (by omega)
    · rw [flips, if_neg c, ih]
      by_cases et : 8 * j + 7 - b = q + i
      · have hp : ¬ P / 2 ^ (15 - i) % 2 = 1 := by
          intro hp
          exact c ⟨⟨hp, by omega⟩, by omega⟩
        rw [et, decide_eq_false (by omega), decide_eq_true (by omega), show q + i - q = i by omega, hd, decide_eq_false hp]; rfl
      · congr 1
        exact decide_eq_decide.2 (by omega)
theorem flips_lt (n q P j : Nat) : ∀ i, flips n q P i j < 256 := by
  intro i
  induction i with
  | zero => simp [flips]
  | succ i ih =>
    unfold flips
    split
    · exact Nat.xor_lt_two_pow (n := 8) ih (Nat.pow_lt_pow_right (by decide) (by omega))
    · exact ih
/-- The byte that a burst puts on byte j. -/
def mask (q P j : Nat) : Nat := if q / 8 ≤ j ∧ j < q / 8 + 3 then P * 2 ^ (8 - q % 8) % 4294967296 / 2 ^ (16 - 8 * (j - q / 8)) % 256 else 0
theorem mask_lt (q P j : Nat) : mask q P j < 256 := by
  unfold mask
  split
  · exact Nat.mod_lt _ (by decide)
  · decide
theorem flips_mask (n q P j : Nat) (hj : j < n) (hP : P < 65536) : flips n q P 16 j = mask q P j := by
  apply Nat.eq_of_testBit_eq
  intro b
  by_cases hb : b < 8
  · rw [flips_bit n q P j hj b hb 16 (Nat.le_refl _)]
    unfold mask
    by_cases c : q / 8 ≤ j ∧ j < q / 8 + 3
    · rw [if_pos c, show (256 : Nat) = 2 ^ 8 by decide, show (4294967296 : Nat) = 2 ^ 32 by decide, Nat.testBit_mod_two_pow, Nat.testBit_div_two_pow, Nat.testBit_mod_two_pow, Nat.testBit_mul_two_pow]
      rw [decide_eq_true hb, Bool.true_and, decide_eq_true (show b + (16 - 8 * (j - q / 8)) < 32 by omega), Bool.true_and]
      by_cases h1 : q ≤ 8 * j + 7 - b
      · by_cases h2 : 8 * j + 7 - b < q + 16
        · rw [decide_eq_true (show q ≤ 8 * j + 7 - b ∧ 8 * j + 7 - b < q + 16 from ⟨h1, h2⟩), decide_eq_true (show 8 - q % 8 ≤ b + (16 - 8 * (j - q / 8)) by omega)]
          congr 2
          omega
        · rw [decide_eq_false (show ¬ (q ≤ 8 * j + 7 - b ∧ 8 * j + 7 - b < q + 16) by omega), decide_eq_false (show ¬ (8 - q % 8 ≤ b + (16 - 8 * (j - q / 8))) by omega), Bool.false_and, Bool.false_and]
      · rw [decide_eq_false (show ¬ (q ≤ 8 * j + 7 - b ∧ 8 * j + 7 - b < q + 16) by omega), Bool.false_and]
        have : P.testBit (b + (16 - 8 * (j - q / 8)) - (8 - q % 8)) = false := Nat.testBit_lt_two_pow (Nat.lt_of_lt_of_le hP (Nat.pow_le_pow_right (n := 2) (i := 16) (by decide) (by omega)))
        rw [this, Bool.and_false]
    · rw [if_neg c, Nat.zero_testBit, decide_eq_false (by omega)]; rfl
  · have h8 : 2 ^ 8 ≤ 2 ^ b := Nat.pow_le_pow_right (by decide) (by omega)
    rw [Nat.testBit_lt_two_pow (Nat.lt_of_lt_of_le (flips_lt n q P j 16) h8), Nat.testBit_lt_two_pow (Nat.lt_of_lt_of_le (mask_lt q P j) h8)]

/-- Byte j of a text under a burst, once the bytes ahead of the k-th are done. -/
def burstF (s : ByteArray) (q : Nat) (p : Int) (k : Nat) (j : Nat) : Int :=
  if q / 8 ≤ j ∧ j < k then bits .xor .u8 ((s.data.toList.getD j 0).toNat : Int) (p * 2 ^ (8 - q % 8) % 4294967296 / 2 ^ (16 - 8 * (j - q / 8)) % 256) else ((s.data.toList.getD j 0).toNat : Int)
def refF (s : ByteArray) (q : Nat) (p : Int) : Nat → Nat → Int
  | 0, j => ((s.data.toList.getD j 0).toNat : Int)
  | i + 1, j => if (p / 2 ^ (15 - i) % 2 = 1 ∧ q + i < 8 * s.size) ∧ j = (q + i) / 8 then bits .xor .u8 (refF s q p i j) (2 ^ (7 - (q + i) % 8) % 256) else refF s q p i j
theorem burstF_mask (s : ByteArray) (q P : Nat) (j : Nat) : burstF s q P (q / 8 + 3) j = (((s.data.toList.getD j 0).toNat ^^^ mask q P j : Nat) : Int) := by
  have hl := (s.data.toList.getD j 0).toNat_lt
  unfold burstF mask
  by_cases c : q / 8 ≤ j ∧ j < q / 8 + 3
  · rw [if_pos c, if_pos c]
    have e : (P : Int) * 2 ^ (8 - q % 8) % 4294967296 / 2 ^ (16 - 8 * (j - q / 8)) % 256 = ((P * 2 ^ (8 - q % 8) % 4294967296 / 2 ^ (16 - 8 * (j - q / 8)) % 256 : Nat) : Int) := by
      simp only [Int.natCast_emod, Int.natCast_ediv, Int.natCast_mul, Int.natCast_pow, Int.cast_ofNat_Int]
    rw [e, u8_xor_nat _ _ (by omega) (Nat.mod_lt _ (by decide))]
  · rw [if_neg c, if_neg c, Nat.xor_zero]
theorem refF_flips (s : ByteArray) (q P : Nat) (j : Nat) : ∀ i, i ≤ 16 → refF s q P i j = (((s.data.toList.getD j 0).toNat ^^^ flips s.size q P i j : Nat) : Int) := by
  have hl := (s.data.toList.getD j 0).toNat_lt
  intro i
  induction i with
  | zero => intro _; show _ = (((s.data.toList.getD j 0).toNat ^^^ 0 : Nat) : Int); rw [Nat.xor_zero]; rfl
  | succ i ih =>
    intro hi
    rw [refF, ih (by omega), flips]
    have ec : ((P : Int) / 2 ^ (15 - i) % 2 = 1) ↔ (P / 2 ^ (15 - i) % 2 = 1) := by
      have : (P : Int) / 2 ^ (15 - i) % 2 = ((P / 2 ^ (15 - i) % 2 : Nat) : Int) := by push_cast; rfl
      rw [this]; omega
    by_cases c : (P / 2 ^ (15 - i) % 2 = 1 ∧ q + i < 8 * s.size) ∧ j = (q + i) / 8
    · rw [if_pos ⟨⟨ec.2 c.1.1, c.1.2⟩, c.2⟩, if_pos c]
      have hp : 2 ^ (7 - (q + i) % 8) < 256 := Nat.pow_lt_pow_right (n := 8) (by decide) (by omega)
      have e : ((2 : Int) ^ (7 - (q + i) % 8) % 256) = ((2 ^ (7 - (q + i) % 8) : Nat) : Int) := by
        have e0 : ((2 : Int) ^ (7 - (q + i) % 8)) = ((2 ^ (7 - (q + i) % 8) : Nat) : Int) := by push_cast; rfl
        rw [e0]
        generalize 2 ^ (7 - (q + i) % 8) = z at *
        omega
      have hx : (s.data.toList.getD j 0).toNat ^^^ flips s.size q P i j < 2 ^ 8 := Nat.xor_lt_two_pow (by omega) (flips_lt _ _ _ _ _)
      rw [e, u8_xor_nat _ _ hx hp, Nat.xor_assoc]
    · rw [if_neg (fun h => c ⟨⟨ec.1 h.1.1, h.1.2⟩, h.2⟩), if_neg c]
theorem refF_burst (s : ByteArray) (q : Nat) (p : Int) (hp0 : 0 ≤ p) (hp1 : p < 65536) (j : Nat) (hj : j < s.size) :
    refF s q p 16 j = burstF s q p (q / 8 + 3) j := by
  obtain ⟨P, rfl⟩ := Int.eq_ofNat_of_zero_le hp0
  have e1 := refF_flips s q P j 16 (Nat.le_refl _)
  have e2 := burstF_mask s q P j
  rw [flips_mask _ _ _ _ hj (by omega)] at e1
  exact e1.trans e2.symm
end Go.Proofs.Ytdhfkcodacmbfaa
