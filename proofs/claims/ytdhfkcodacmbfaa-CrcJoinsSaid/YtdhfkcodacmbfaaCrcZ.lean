/- Plain laws of the CRC of many bytes 0: matrices over bits. No program. -/
import Derived.Test.YtdhfkcodacmbfaaCrcLaws
set_option linter.unusedVariables false
set_option linter.unusedSimpArgs false
namespace Go.Proofs.Ytdhfkcodacmbfaa
open Go.RowKit

def oneI (k : Nat) (i : Nat) : Int := if i < k then moreI (IntKind.u16.wrap (2 ^ i)) [0] else 0
def timesI (M : Nat → Int) (n : Int) : Nat → Int
  | 0 => 0
  | k + 1 => if bits .and .u16 (n / 2 ^ k) 1 = 1 then bits .xor .u16 (timesI M n k) (M k) else timesI M n k
theorem timesI_yes {M : Nat → Int} {n : Int} {k : Nat} (h : bits .and .u16 (n / 2 ^ k) 1 = 1) : timesI M n (k + 1) = bits .xor .u16 (timesI M n k) (M k) := by rw [timesI, if_pos h]
theorem timesI_no {M : Nat → Int} {n : Int} {k : Nat} (h : ¬ bits .and .u16 (n / 2 ^ k) 1 = 1) : timesI M n (k + 1) = timesI M n k := by rw [timesI, if_neg h]
def twiceI (M : Nat → Int) (k : Nat) (i : Nat) : Int := if i < k then timesI M (M i) 16 else 0

/-- So many bytes 0. -/
def zB : Nat → BitVec 16 → BitVec 16
  | 0, x => x
  | n + 1, x => bit8 (zB n x)
theorem zB_add (a b : Nat) (x : BitVec 16) : zB (a + b) x = zB a (zB b x) := by
  induction a with
  | zero => rw [Nat.zero_add]; rfl
  | succ a ih => rw [show a + 1 + b = (a + b) + 1 by omega, zB, ih]; rfl
theorem zB_xor (n : Nat) (a b : BitVec 16) : zB n (a ^^^ b) = zB n a ^^^ zB n b := by
  induction n with
  | zero => rfl
  | succ n ih => rw [zB, ih, bit8_xor]; rfl
theorem zB_zero (n : Nat) : zB n 0 = 0 := by
  induction n with
  | zero => rfl
  | succ n ih => rw [zB, ih]; exact bit8_of_zero
/-- The matrix of 2^j bytes. -/
def powM (j : Nat) (i : Nat) : Int := ((zB (2 ^ j) (BitVec.ofNat 16 (2 ^ i))).toNat : Int)
theorem powM_range (j i : Nat) : 0 ≤ powM j i ∧ powM j i < 65536 := by
  unfold powM
  have := (zB (2 ^ j) (BitVec.ofNat 16 (2 ^ i))).isLt
  omega
theorem and1 (n : Int) : bits .and .u16 n 1 = n % 2 := by
  unfold bits
  show IntKind.u16.wrap ((BitVec.ofInt 16 n &&& BitVec.ofInt 16 1).toNat : Int) = n % 2
  rw [BitVec.toNat_and, show (BitVec.ofInt 16 1).toNat = 2 ^ 1 - 1 by decide, Nat.and_two_pow_sub_one_eq_mod, BitVec.toNat_ofInt, wrap16]
  omega
theorem mod_step (X k : Nat) : X % 2 ^ (k + 1) = if X / 2 ^ k % 2 = 1 then X % 2 ^ k ^^^ 2 ^ k else X % 2 ^ k := by
  have hd : ∀ j, X.testBit j = decide (X / 2 ^ j % 2 = 1) := fun j => Nat.testBit_eq_decide_div_mod_eq
  apply Nat.eq_of_testBit_eq
  intro b
  by_cases c : X / 2 ^ k % 2 = 1
  · rw [if_pos c, Nat.testBit_xor, Nat.testBit_mod_two_pow, Nat.testBit_mod_two_pow, Nat.testBit_two_pow]
    by_cases h : b = k
    · subst h; rw [decide_eq_true (show b < b + 1 by omega), decide_eq_false (show ¬ b < b by omega), hd, decide_eq_true c]; simp
    · rw [decide_eq_false (show ¬ k = b from fun e => h e.symm), Bool.xor_false]
      congr 1
      exact decide_eq_decide.2 (by omega)
  · rw [if_neg c, Nat.testBit_mod_two_pow, Nat.testBit_mod_two_pow]
    by_cases h : b = k
    · subst h; rw [hd, decide_eq_false c]; simp
    · congr 1
      exact decide_eq_decide.2 (by omega)
theorem times_part (j : Nat) (x : BitVec 16) (k : Nat) : timesI (powM j) (x.toNat : Int) k = ((zB (2 ^ j) (BitVec.ofNat 16 (x.toNat % 2 ^ k))).toNat : Int) := by
  induction k with
  | zero =>
    rw [Nat.pow_zero, Nat.mod_one]
    show (0 : Int) = ((zB (2 ^ j) 0#16).toNat : Int)
    have := zB_zero (2 ^ j)
    rw [show (0#16) = 0 from rfl, this]; rfl
  | succ k ih =>
    have e : (x.toNat : Int) / 2 ^ k % 2 = ((x.toNat / 2 ^ k % 2 : Nat) : Int) := by push_cast; rfl
    rw [mod_step]
    by_cases c : x.toNat / 2 ^ k % 2 = 1
    · rw [timesI_yes (by rw [and1, e]; omega), if_pos c, ih, ofNat_xor, zB_xor]
      exact xor16 _ _
    · rw [timesI_no (by rw [and1, e]; omega), if_neg c, ih]
theorem times_law (j : Nat) (x : BitVec 16) : timesI (powM j) (x.toNat : Int) 16 = ((zB (2 ^ j) x).toNat : Int) := by
  rw [times_part, Nat.mod_eq_of_lt x.isLt]
  simp
theorem twice_law (j i : Nat) (hi : i < 16) : twiceI (powM j) 16 i = powM (j + 1) i := by
  unfold twiceI
  rw [if_pos hi]
  show timesI (powM j) ((zB (2 ^ j) (BitVec.ofNat 16 (2 ^ i))).toNat : Int) 16 = _
  rw [times_law, ← zB_add]
  unfold powM
  rw [show 2 ^ (j + 1) = 2 ^ j + 2 ^ j by omega]
theorem one_law (i : Nat) (hi : i < 16) : oneI 16 i = powM 0 i := by
  have hp : 2 ^ i < 65536 := Nat.pow_lt_pow_right (n := 16) (by decide) (by omega)
  have hc : ((2 : Int) ^ i) = ((2 ^ i : Nat) : Int) := by push_cast; rfl
  have e : IntKind.u16.wrap (2 ^ i) = ((BitVec.ofNat 16 (2 ^ i)).toNat : Int) := by
    rw [wrap16, hc, BitVec.toNat_ofNat]; omega
  unfold oneI
  rw [if_pos hi, e, moreI_B]
  unfold powM
  simp only [moreB, List.foldl_cons, List.foldl_nil, byteB]
  congr 2
  show bit8 (BitVec.ofNat 16 (2 ^ i) ^^^ (0#16 <<< 8)) = _
  rw [BitVec.zero_shiftLeft, BitVec.xor_zero]
  rfl
theorem more_zeros (x : BitVec 16) (n : Nat) : moreI (x.toNat : Int) (List.replicate n 0) = ((zB n x).toNat : Int) := by
  rw [moreI_B]
  congr 2
  induction n with
  | zero => rfl
  | succ n ih =>
    rw [List.replicate_succ', zB, ← ih]
    simp only [moreB, List.foldl_append, List.foldl_cons, List.foldl_nil, byteB]
    show bit8 (_ ^^^ (0#16 <<< 8)) = _
    rw [BitVec.zero_shiftLeft, BitVec.xor_zero]
end Go.Proofs.Ytdhfkcodacmbfaa
