/- Plain words and laws on the CRC's numbers: no program, no condition. -/
import Derived.RowKit
import Derived.Laws.BitsLemmas
import Derived.Laws.BitsAllLaws
import Derived.IntWalk
set_option linter.unusedVariables false
set_option linter.unusedSimpArgs false
namespace Go.Proofs.Ytdhfkcodacmbfaa
open Go.RowKit
def tab : List Int := [0x0000, 0x1021, 0x2042, 0x3063, 0x4084, 0x50A5, 0x60C6, 0x70E7, 0x8108, 0x9129, 0xA14A, 0xB16B, 0xC18C, 0xD1AD, 0xE1CE, 0xF1EF]
def quarterI (n : Int) : Int := tab.getD (n % 16).toNat 0
def stepI (m c : Int) : Int :=
  bits .xor .u16 (IntKind.u16.wrap (bits .xor .u16 (IntKind.u16.wrap (m * 16)) (quarterI (bits .xor .u16 (m / 4096) (c / 16))) * 16))
    (quarterI (bits .xor .u16 (bits .xor .u16 (IntKind.u16.wrap (m * 16)) (quarterI (bits .xor .u16 (m / 4096) (c / 16))) / 4096) c))
def bitB (x : BitVec 16) : BitVec 16 := (x <<< 1) ^^^ (bif x.msb then 0x1021#16 else 0#16)
def bit4 (x : BitVec 16) : BitVec 16 := bitB (bitB (bitB (bitB x)))
def quarterB (x : BitVec 16) : BitVec 16 := BitVec.ofInt 16 (quarterI (x.toNat : Int))
def nibB (m n : BitVec 16) : BitVec 16 := (m <<< 4) ^^^ quarterB ((m >>> 12) ^^^ n)
theorem bitB_xor (a b : BitVec 16) : bitB (a ^^^ b) = bitB a ^^^ bitB b := by
  unfold bitB
  rw [BitVec.shiftLeft_xor_distrib, BitVec.msb_xor]
  cases a.msb <;> cases b.msb <;> simp
  · rw [BitVec.xor_assoc]
  · rw [BitVec.xor_assoc, BitVec.xor_assoc, BitVec.xor_comm (b <<< 1)]
  · rw [BitVec.xor_assoc, ← BitVec.xor_assoc (4129#16), BitVec.xor_comm (4129#16), BitVec.xor_assoc (b <<< 1), BitVec.xor_self, BitVec.xor_zero]
theorem bit4_xor (a b : BitVec 16) : bit4 (a ^^^ b) = bit4 a ^^^ bit4 b := by simp only [bit4, bitB_xor]
theorem bitB_low (x : BitVec 16) (h : x.msb = false) : bitB x = x <<< 1 := by simp [bitB, h]
theorem bit4_low (x : BitVec 16) (h : x.toNat < 4096) : bit4 x = x <<< 4 := by
  have h0 : x.msb = false := by rw [BitVec.msb_eq_decide]; simp; omega
  have h1 : (x <<< 1).msb = false := by rw [BitVec.msb_eq_decide]; simp [BitVec.toNat_shiftLeft, Nat.shiftLeft_eq]; omega
  have h2 : (x <<< 2).msb = false := by rw [BitVec.msb_eq_decide]; simp [BitVec.toNat_shiftLeft, Nat.shiftLeft_eq]; omega
  have h3 : (x <<< 3).msb = false := by rw [BitVec.msb_eq_decide]; simp [BitVec.toNat_shiftLeft, Nat.shiftLeft_eq]; omega
  unfold bit4
  rw [bitB_low x h0, bitB_low _ h1, ← BitVec.shiftLeft_add, bitB_low _ h2, ← BitVec.shiftLeft_add, bitB_low _ h3, ← BitVec.shiftLeft_add]
theorem bit4_high : ∀ h : Fin 16, bit4 ((BitVec.ofNat 16 h.val) <<< 12) = quarterB (BitVec.ofNat 16 h.val) := by decide +kernel
theorem quarterB_mod (x : BitVec 16) : quarterB x = quarterB (BitVec.ofNat 16 (x.toNat % 16)) := by
  unfold quarterB quarterI
  simp
theorem shl12_mod (h : BitVec 16) : h <<< 12 = (BitVec.ofNat 16 (h.toNat % 16)) <<< 12 := by
  apply BitVec.eq_of_toNat_eq
  simp only [BitVec.toNat_shiftLeft, Nat.shiftLeft_eq, BitVec.toNat_ofNat]
  omega
theorem bit4_shl (h : BitVec 16) : bit4 (h <<< 12) = quarterB h := by
  rw [shl12_mod, quarterB_mod]
  exact bit4_high ⟨h.toNat % 16, by omega⟩
theorem low_shl (m : BitVec 16) : (BitVec.ofNat 16 (m.toNat % 4096)) <<< 4 = m <<< 4 := by
  apply BitVec.eq_of_toNat_eq
  simp only [BitVec.toNat_shiftLeft, Nat.shiftLeft_eq, BitVec.toNat_ofNat]
  omega
theorem parts (x : BitVec 16) : x = ((x >>> 12) <<< 12) ^^^ (BitVec.ofNat 16 (x.toNat % 4096)) := by
  have e : (BitVec.ofNat 16 (x.toNat % 4096)) = x &&& 0xFFF#16 := by
    apply BitVec.eq_of_toNat_eq
    rw [BitVec.toNat_and, show (0xFFF#16).toNat = 2 ^ 12 - 1 by decide, Nat.and_two_pow_sub_one_eq_mod, BitVec.toNat_ofNat]
    have := x.isLt
    omega
  rw [e]
  have d : ∀ i : Fin 16, (0xFFF#16).getLsbD i.val = decide (i.val < 12) := by decide
  apply BitVec.eq_of_getLsbD_eq
  intro i hi
  rw [BitVec.getLsbD_xor, BitVec.getLsbD_and, d ⟨i, hi⟩, BitVec.getLsbD_shiftLeft, BitVec.getLsbD_ushiftRight]
  by_cases h : i < 12
  · simp [h]
  · have : 12 + (i - 12) = i := by omega
    simp [h, hi, this]
theorem nibB_bit (m n : BitVec 16) : nibB m n = bit4 (m ^^^ (n <<< 12)) := by
  have e : m ^^^ (n <<< 12) = ((m >>> 12 ^^^ n) <<< 12) ^^^ (BitVec.ofNat 16 (m.toNat % 4096)) := by
    rw [BitVec.shiftLeft_xor_distrib, BitVec.xor_assoc, BitVec.xor_comm (n <<< 12), ← BitVec.xor_assoc, ← parts]
  rw [e, bit4_xor, bit4_shl, bit4_low _ (by simp; omega), low_shl, BitVec.xor_comm]
  rfl
/-- Eight bits on. -/
def bit8 (x : BitVec 16) : BitVec 16 := bit4 (bit4 x)
theorem bit8_xor (a b : BitVec 16) : bit8 (a ^^^ b) = bit8 a ^^^ bit8 b := by simp only [bit8, bit4_xor]
/-- One byte. -/
def byteB (m : BitVec 16) (c : BitVec 16) : BitVec 16 := bit8 (m ^^^ (c <<< 8))
theorem nib_nib (m c : BitVec 16) (hc : c.toNat < 256) : nibB (nibB m (c >>> 4)) c = byteB m c := by
  have e : c <<< 8 = ((c >>> 4) <<< 12) ^^^ (BitVec.ofNat 16 (c.toNat % 16 * 256)) := by
    apply BitVec.eq_of_toNat_eq
    have hc' : c.toNat = c.toNat / 16 * 16 + c.toNat % 16 := by omega
    have h1 : (c >>> 4 <<< 12).toNat = c.toNat / 16 * 4096 := by
      simp only [BitVec.toNat_shiftLeft, BitVec.toNat_ushiftRight, Nat.shiftLeft_eq, Nat.shiftRight_eq_div_pow]
      omega
    rw [BitVec.toNat_xor, h1, BitVec.toNat_ofNat, BitVec.toNat_shiftLeft, Nat.shiftLeft_eq]
    have h2 : c.toNat % 16 * 256 % 2 ^ 16 = c.toNat % 16 * 256 := by omega
    have h3 : c.toNat / 16 * 4096 ^^^ c.toNat % 16 * 256 = c.toNat / 16 * 4096 + c.toNat % 16 * 256 := by
      rw [show c.toNat / 16 * 4096 = 2 ^ 12 * (c.toNat / 16) by omega]
      rw [Nat.two_pow_add_eq_or_of_lt (by omega : c.toNat % 16 * 256 < 2 ^ 12) (c.toNat / 16)]
      apply Nat.eq_of_testBit_eq
      intro i
      rw [Nat.testBit_xor, Nat.testBit_or]
      by_cases hi : i < 12
      · have : (2 ^ 12 * (c.toNat / 16)).testBit i = false := by rw [Nat.testBit_two_pow_mul]; simp; omega
        rw [this]; simp
      · have : (c.toNat % 16 * 256).testBit i = false := Nat.testBit_lt_two_pow (Nat.lt_of_lt_of_le (by omega : c.toNat % 16 * 256 < 2 ^ 12) (Nat.pow_le_pow_right (by decide) (by omega)))
        simp [this]
    rw [h2, h3, hc']
    have h4 : c.toNat / 16 < 16 := by omega
    have h5 : c.toNat % 16 < 16 := by omega
    clear h1 h2 h3 hc hc'
    generalize c.toNat / 16 = a at *
    generalize c.toNat % 16 = b at *
    omega
  have e2 : bit4 (BitVec.ofNat 16 (c.toNat % 16 * 256)) = c <<< 12 := by
    rw [bit4_low (BitVec.ofNat 16 (c.toNat % 16 * 256)) (by simp; omega)]
    apply BitVec.eq_of_toNat_eq
    simp only [BitVec.toNat_shiftLeft, Nat.shiftLeft_eq, BitVec.toNat_ofNat]
    omega
  rw [nibB_bit, nibB_bit, byteB, bit8, e, ← BitVec.xor_assoc, bit4_xor (m ^^^ _) (BitVec.ofNat 16 _), e2]

/-! ### the same in whole numbers -/
theorem quarterI_range (n : Int) : 0 ≤ quarterI n ∧ quarterI n < 65536 := by
  have h : ∀ i : Fin 16, 0 ≤ tab.getD i.val 0 ∧ tab.getD i.val 0 < 65536 := by decide
  exact h ⟨(n % 16).toNat, by omega⟩
theorem quarterB_toNat (x : BitVec 16) : ((quarterB x).toNat : Int) = quarterI (x.toNat : Int) := by
  have h := quarterI_range (x.toNat : Int)
  unfold quarterB
  rw [BitVec.toNat_ofInt]
  omega
theorem wrap16 (n : Int) : IntKind.u16.wrap n = n % 65536 := by simp [IntKind.wrap, IntKind.bits, IntKind.signed]
theorem xor16 (a b : BitVec 16) : bits .xor .u16 (a.toNat : Int) (b.toNat : Int) = ((a ^^^ b).toNat : Int) := by
  rw [u16_xor_nat _ _ a.isLt b.isLt, BitVec.toNat_xor]
theorem nibI (m n : BitVec 16) : bits .xor .u16 (IntKind.u16.wrap ((m.toNat : Int) * 16)) (quarterI (bits .xor .u16 ((m.toNat : Int) / 4096) (n.toNat : Int))) = ((nibB m n).toNat : Int) := by
  have e1 : IntKind.u16.wrap ((m.toNat : Int) * 16) = ((m <<< 4).toNat : Int) := by
    rw [wrap16, BitVec.toNat_shiftLeft, Nat.shiftLeft_eq]; omega
  have e2 : (m.toNat : Int) / (4096 : Int) = ((m >>> 12).toNat : Int) := by
    rw [BitVec.toNat_ushiftRight, Nat.shiftRight_eq_div_pow]; omega
  rw [e1, e2, xor16, ← quarterB_toNat, xor16]
  rfl
theorem ofNat_toNat (c : Nat) (h : c < 256) : (BitVec.ofNat 16 c).toNat = c := by rw [BitVec.toNat_ofNat]; omega
theorem stepI_byte (m : BitVec 16) (c : Nat) (h : c < 256) : stepI (m.toNat : Int) (c : Int) = ((byteB m (BitVec.ofNat 16 c)).toNat : Int) := by
  have e1 : (c : Int) / (16 : Int) = (((BitVec.ofNat 16 c) >>> 4).toNat : Int) := by
    rw [BitVec.toNat_ushiftRight, ofNat_toNat c h, Nat.shiftRight_eq_div_pow]; omega
  have e2 : (c : Int) = ((BitVec.ofNat 16 c).toNat : Int) := by rw [ofNat_toNat c h]
  unfold stepI
  rw [e1, nibI, e2, nibI, nib_nib _ _ (by rw [ofNat_toNat c h]; exact h)]
def moreI (n : Int) (l : List UInt8) : Int := l.foldl (fun m c => stepI m (c.toNat : Int)) n
def moreB (m : BitVec 16) (l : List UInt8) : BitVec 16 := l.foldl (fun m c => byteB m (BitVec.ofNat 16 c.toNat)) m
theorem moreI_B (l : List UInt8) : ∀ m : BitVec 16, moreI (m.toNat : Int) l = ((moreB m l).toNat : Int) := by
  induction l with
  | nil => intro m; rfl
  | cons c l ih =>
    intro m
    show moreI (stepI (m.toNat : Int) (c.toNat : Int)) l = _
    rw [stepI_byte m c.toNat c.toNat_lt, ih]
    rfl
theorem ofRange (n : Int) (h0 : 0 ≤ n) (h1 : n < 65536) : ∃ m : BitVec 16, n = (m.toNat : Int) := ⟨BitVec.ofInt 16 n, by rw [BitVec.toNat_ofInt]; omega⟩
theorem stepI_range (m : Int) (c : Nat) (h0 : 0 ≤ m) (h1 : m < 65536) (hc : c < 256) : 0 ≤ stepI m c ∧ stepI m c < 65536 := by
  obtain ⟨m, rfl⟩ := ofRange m h0 h1
  rw [stepI_byte m c hc]
  have := (byteB m (BitVec.ofNat 16 c)).isLt
  omega
theorem more_range (n : Int) (h0 : 0 ≤ n) (h1 : n < 65536) (l : List UInt8) : 0 ≤ moreI n l ∧ moreI n l < 65536 := by
  obtain ⟨m, rfl⟩ := ofRange n h0 h1
  rw [moreI_B]
  have := (moreB m l).isLt
  omega
theorem moreI_range (l : List UInt8) : 0 ≤ moreI 65535 l ∧ moreI 65535 l < 65536 := more_range _ (by omega) (by omega) l
theorem xor64 (a b : Nat) (ha : a < 65536) (hb : b < 65536) : bits .xor .i64 (a : Int) (b : Int) = ((a ^^^ b : Nat) : Int) := by
  have hx : a ^^^ b < 2 ^ 16 := Nat.xor_lt_two_pow (by omega) (by omega)
  have h1 : (BitVec.ofInt IntKind.i64.bits (a : Int)).toNat = a := by rw [BitVec.toNat_ofInt]; show ((a : Int) % (2 ^ 64 : Nat)).toNat = a; omega
  have h2 : (BitVec.ofInt IntKind.i64.bits (b : Int)).toNat = b := by rw [BitVec.toNat_ofInt]; show ((b : Int) % (2 ^ 64 : Nat)).toNat = b; omega
  unfold bits
  show IntKind.i64.wrap ((BitVec.ofInt IntKind.i64.bits (a : Int) ^^^ BitVec.ofInt IntKind.i64.bits (b : Int)).toNat : Int) = _
  rw [BitVec.toNat_xor, h1, h2, IntKind.wrap_i64]
  omega
theorem xor_range (a b : Int) (h0 : 0 ≤ a) (h1 : a < 65536) (g0 : 0 ≤ b) (g1 : b < 65536) : 0 ≤ bits .xor .i64 a b ∧ bits .xor .i64 a b < 65536 := by
  obtain ⟨A, rfl⟩ := Int.eq_ofNat_of_zero_le h0
  obtain ⟨B, rfl⟩ := Int.eq_ofNat_of_zero_le g0
  have hx : A ^^^ B < 2 ^ 16 := Nat.xor_lt_two_pow (by omega) (by omega)
  have e := xor64 A B (by omega) (by omega)
  show 0 ≤ bits .xor .i64 (A : Int) (B : Int) ∧ bits .xor .i64 (A : Int) (B : Int) < 65536
  rw [e]
  omega
def refBit (n : Int) : Int := if 65536 ≤ 2 * n then bits .xor .i64 (2 * n - 65536) 4129 else 2 * n
def iter (f : Int → Int) : Nat → Int → Int
  | 0, x => x
  | k + 1, x => f (iter f k x)
theorem refBit_B (x : BitVec 16) : refBit (x.toNat : Int) = ((bitB x).toNat : Int) := by
  have hx := x.isLt
  unfold refBit bitB
  rw [BitVec.msb_eq_decide]
  have e : (x <<< 1).toNat = 2 * x.toNat % 65536 := by rw [BitVec.toNat_shiftLeft, Nat.shiftLeft_eq]; omega
  by_cases h : (65536 : Int) ≤ 2 * (x.toNat : Int)
  · rw [if_pos h]
    have hd : decide (2 ^ (16 - 1) ≤ x.toNat) = true := by simp; omega
    rw [hd, cond_true, BitVec.toNat_xor, e]
    have e2 : (2 * (x.toNat : Int) - 65536) = ((2 * x.toNat % 65536 : Nat) : Int) := by omega
    rw [e2]
    exact xor64 _ 4129 (by omega) (by omega)
  · rw [if_neg h]
    have hd : decide (2 ^ (16 - 1) ≤ x.toNat) = false := by simp; omega
    rw [hd, cond_false, BitVec.toNat_xor, e]
    simp
    omega
theorem refBit_range (n : Int) (h0 : 0 ≤ n) (h1 : n < 65536) : 0 ≤ refBit n ∧ refBit n < 65536 := by
  obtain ⟨m, rfl⟩ := ofRange n h0 h1
  rw [refBit_B]
  have := (bitB m).isLt
  omega
theorem refByte_step (m : Int) (c : Nat) (h0 : 0 ≤ m) (h1 : m < 65536) (hc : c < 256) :
    stepI m (c : Int) = iter refBit 8 (bits .xor .i64 m ((c : Int) * 256)) := by
  obtain ⟨m, rfl⟩ := ofRange m h0 h1
  rw [stepI_byte m c hc]
  have e : bits .xor .i64 (m.toNat : Int) ((c : Int) * 256) = ((m ^^^ (BitVec.ofNat 16 c <<< 8)).toNat : Int) := by
    have e2 : ((c : Int) * 256) = ((c * 256 : Nat) : Int) := by omega
    have hm := m.isLt
    rw [e2, xor64 _ _ (by omega) (by omega), BitVec.toNat_xor, BitVec.toNat_shiftLeft, Nat.shiftLeft_eq, ofNat_toNat c hc]
    have e3 : c * 2 ^ 8 % 2 ^ 16 = c * 256 := by omega
    rw [e3]
  rw [e]
  simp only [iter, refBit_B]
  rfl
theorem and15 (n : Int) : bits .and .u16 n 15 = n % 16 := by
  unfold bits
  show IntKind.u16.wrap ((BitVec.ofInt 16 n &&& BitVec.ofInt 16 15).toNat : Int) = n % 16
  rw [BitVec.toNat_and, show (BitVec.ofInt 16 15).toNat = 2 ^ 4 - 1 by decide, Nat.and_two_pow_sub_one_eq_mod, BitVec.toNat_ofInt, wrap16]
  omega
theorem moreI_nil (n : Int) : moreI n [] = n := rfl
theorem moreI_snoc (n : Int) (l : List UInt8) (c : UInt8) : moreI n (l ++ [c]) = stepI (moreI n l) (c.toNat : Int) := by simp [moreI]
theorem moreI_append (n : Int) (l m : List UInt8) : moreI n (l ++ m) = moreI (moreI n l) m := by simp [moreI]
theorem take_snoc (s : ByteArray) (k : Nat) (h : k < s.size) : s.data.toList.take (k + 1) = s.data.toList.take k ++ [s[k]] := by
  rw [List.take_succ_eq_append_getElem (by simpa using h)]; rfl
theorem u16_in (n : Int) (h0 : 0 ≤ n) (h1 : n < 65536) : IntKind.u16.wrap n = n := by rw [wrap16]; omega
end Go.Proofs.Ytdhfkcodacmbfaa
