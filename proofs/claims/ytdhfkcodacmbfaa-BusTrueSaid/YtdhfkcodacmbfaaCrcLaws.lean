/- Plain laws of the CRC: a sealed text has the sum 0, and no other has; a burst that changes something is seen; a burst turned twice is none. No program. -/
import Derived.Test.YtdhfkcodacmbfaaBurstMath
import Derived.Laws.BytesArg
set_option linter.unusedVariables false
set_option linter.unusedSimpArgs false
namespace Go.Proofs.Ytdhfkcodacmbfaa
open Go.RowKit

/-! ### injectivity -/
theorem bitB_zero (x : BitVec 16) (h : bitB x = 0) : x = 0 := by
  have hx := x.isLt
  unfold bitB at h
  rw [BitVec.msb_eq_decide] at h
  by_cases c : 2 ^ (16 - 1) ≤ x.toNat
  · rw [decide_eq_true c, cond_true] at h
    have h0 : ((x <<< 1) ^^^ 0x1021#16).getLsbD 0 = false := by rw [h]; simp
    rw [BitVec.getLsbD_xor, BitVec.getLsbD_shiftLeft] at h0
    simp at h0
  · rw [decide_eq_false c, cond_false] at h
    have h1 : (x <<< 1 ^^^ 0#16).toNat = 0 := by rw [h]; rfl
    rw [BitVec.xor_zero, BitVec.toNat_shiftLeft, Nat.shiftLeft_eq] at h1
    apply BitVec.eq_of_toNat_eq
    show x.toNat = 0
    omega
theorem bit4_zero (x : BitVec 16) (h : bit4 x = 0) : x = 0 := bitB_zero _ (bitB_zero _ (bitB_zero _ (bitB_zero _ h)))
theorem bit8_zero (x : BitVec 16) (h : bit8 x = 0) : x = 0 := bit4_zero _ (bit4_zero _ h)
theorem bitB_of_zero : bitB 0 = 0 := by decide
theorem bit8_of_zero : bit8 0 = 0 := by decide
theorem bit8_low (c : BitVec 16) (h : c.toNat < 256) : bit8 c = c <<< 8 := by
  have h1 : (c <<< 4).toNat < 4096 := by rw [BitVec.toNat_shiftLeft, Nat.shiftLeft_eq]; omega
  rw [bit8, bit4_low c (by omega), bit4_low _ h1, ← BitVec.shiftLeft_add]
theorem byteB_low (m c : BitVec 16) (h : c.toNat < 256) : byteB m c = bit8 m ^^^ bit8 (c <<< 8) := by rw [byteB, bit8_xor]
def kB : Nat → BitVec 16 → BitVec 16
  | 0, x => x
  | k + 1, x => bitB (kB k x)
theorem kB_xor (k : Nat) (a b : BitVec 16) : kB k (a ^^^ b) = kB k a ^^^ kB k b := by
  induction k with
  | zero => rfl
  | succ k ih => rw [kB, ih, bitB_xor]; rfl
theorem kB_zero (k : Nat) (x : BitVec 16) (h : kB k x = 0) : x = 0 := by
  induction k with
  | zero => exact h
  | succ k ih => exact ih (bitB_zero _ h)
theorem kB_add (a b : Nat) (x : BitVec 16) : kB (a + b) x = kB a (kB b x) := by
  induction a with
  | zero => rw [Nat.zero_add]; rfl
  | succ a ih => rw [show a + 1 + b = (a + b) + 1 by omega, kB, ih]; rfl
theorem kB_8 (x : BitVec 16) : kB 8 x = bit8 x := rfl
theorem kB_low (k : Nat) (x : BitVec 16) (hk : k ≤ 16) (h : x.toNat < 2 ^ (16 - k)) : kB k x = x <<< k := by
  induction k with
  | zero => simp [kB]
  | succ k ih =>
    have hp : 2 ^ (16 - k) = 2 * 2 ^ (16 - (k + 1)) := by rw [← Nat.pow_succ']; congr 1; omega
    have hm : x.toNat * 2 ^ k < 2 ^ 15 := by
      have : 2 ^ 15 = 2 ^ (16 - (k + 1)) * 2 ^ k := by rw [← Nat.pow_add]; congr 1; omega
      rw [this]
      exact Nat.mul_lt_mul_of_pos_right h (Nat.two_pow_pos k)
    rw [kB, ih (by omega) (by omega), bitB_low, ← BitVec.shiftLeft_add]
    rw [BitVec.msb_eq_decide, BitVec.toNat_shiftLeft, Nat.shiftLeft_eq]
    have : x.toNat * 2 ^ k % 2 ^ 16 = x.toNat * 2 ^ k := Nat.mod_eq_of_lt (by omega)
    rw [this]
    simp
    omega

/-! ### sums as a run over places -/
def runB (m : BitVec 16) (f : Nat → Nat) : Nat → BitVec 16
  | 0 => m
  | k + 1 => byteB (runB m f k) (BitVec.ofNat 16 (f k))
theorem runB_congr (m : BitVec 16) (f g : Nat → Nat) (n : Nat) (h : ∀ j, j < n → f j = g j) : runB m f n = runB m g n := by
  induction n with
  | zero => rfl
  | succ n ih => rw [runB, runB, ih (fun j hj => h j (by omega)), h n (by omega)]
theorem moreB_run (m : BitVec 16) (l : List UInt8) : moreB m l = runB m (fun j => (l.getD j 0).toNat) l.length := by
  suffices h : ∀ k, k ≤ l.length → moreB m (l.take k) = runB m (fun j => (l.getD j 0).toNat) k by
    have := h l.length (Nat.le_refl _)
    rwa [List.take_length] at this
  intro k
  induction k with
  | zero => intro _; rfl
  | succ k ih =>
    intro hk
    rw [List.take_succ_eq_append_getElem (by omega), runB, ← ih (by omega)]
    simp only [moreB, List.foldl_append, List.foldl_cons, List.foldl_nil]
    rw [List.getD_eq_getElem?_getD, List.getElem?_eq_getElem (by omega)]; rfl
theorem ofNat_xor (a b : Nat) : BitVec.ofNat 16 (a ^^^ b) = BitVec.ofNat 16 a ^^^ BitVec.ofNat 16 b := by
  apply BitVec.eq_of_toNat_eq
  rw [BitVec.toNat_xor, BitVec.toNat_ofNat, BitVec.toNat_ofNat, BitVec.toNat_ofNat, Nat.xor_mod_two_pow]
theorem byteB_xor (m m' c c' : BitVec 16) : byteB (m ^^^ m') (c ^^^ c') = byteB m c ^^^ byteB m' c' := by
  rw [byteB, byteB, byteB, ← bit8_xor, BitVec.shiftLeft_xor_distrib]
  congr 1
  rw [BitVec.xor_assoc, BitVec.xor_assoc, ← BitVec.xor_assoc m', BitVec.xor_comm m', BitVec.xor_assoc]
theorem runB_xor (m m' : BitVec 16) (f g : Nat → Nat) (n : Nat) : runB (m ^^^ m') (fun j => f j ^^^ g j) n = runB m f n ^^^ runB m' g n := by
  induction n with
  | zero => rfl
  | succ n ih => rw [runB, ih, ofNat_xor, byteB_xor]; rfl
theorem runB_zeros (f : Nat → Nat) (n : Nat) (h : ∀ j, j < n → f j = 0) : runB 0 f n = 0 := by
  induction n with
  | zero => rfl
  | succ n ih => rw [runB, ih (fun j hj => h j (by omega)), h n (by omega)]; exact bit8_of_zero
theorem runB_back (m : BitVec 16) (f : Nat → Nat) (a : Nat) : ∀ d, (∀ j, a ≤ j → f j = 0) → runB m f (a + d) = 0 → runB m f a = 0 := by
  intro d
  induction d with
  | zero => intro _ h; exact h
  | succ d ih =>
    intro hz h
    refine ih hz ?_
    rw [show a + (d + 1) = (a + d) + 1 by omega, runB, hz _ (by omega)] at h
    exact bit8_zero _ (by simpa [byteB] using h)

/-- A byte's place moved up. -/
theorem up8 (c : Nat) (h : c < 256) : (BitVec.ofNat 16 c) <<< 8 = bit8 (BitVec.ofNat 16 c) := (bit8_low _ (by rw [ofNat_toNat c h]; exact h)).symm
theorem byteB_zero_low (x : BitVec 16) (c : Nat) (h : c < 256) : byteB (bit8 x) (BitVec.ofNat 16 c) = bit8 (bit8 (x ^^^ BitVec.ofNat 16 c)) := by
  rw [byteB, up8 c h, ← bit8_xor]
theorem two_zero (a b : Nat) (ha : a < 256) (hb : b < 256) (h : (BitVec.ofNat 16 a) <<< 8 ^^^ BitVec.ofNat 16 b = 0) : a = 0 ∧ b = 0 := by
  have e := (BitVec.xor_eq_zero_iff).1 h
  have e2 := congrArg BitVec.toNat e
  rw [BitVec.toNat_shiftLeft, Nat.shiftLeft_eq, ofNat_toNat a ha, ofNat_toNat b hb] at e2
  omega
theorem mask_low (q P d : Nat) (hP : P < 65536) (hd : d < 3) : mask q P (q / 8 + d) = P * 2 ^ (8 - q % 8) / 2 ^ (16 - 8 * d) % 256 := by
  have hr : 2 ^ (8 - q % 8) ≤ 2 ^ 8 := Nat.pow_le_pow_right (by decide) (by omega)
  have hm : P * 2 ^ (8 - q % 8) < 4294967296 := by
    have := Nat.mul_lt_mul_of_lt_of_le hP hr (by decide)
    omega
  unfold mask
  rw [if_pos ⟨by omega, by omega⟩, Nat.mod_eq_of_lt hm, show q / 8 + d - q / 8 = d by omega]
/-- The three bytes of a burst. -/
theorem three (r P : Nat) (hr : r < 8) (hP : P < 65536) (h : bit8 ((BitVec.ofNat 16 (P * 2 ^ (8 - r) / 2 ^ 16 % 256)) <<< 8 ^^^ BitVec.ofNat 16 (P * 2 ^ (8 - r) / 2 ^ 8 % 256)) = BitVec.ofNat 16 (P * 2 ^ (8 - r) % 256)) : P = 0 := by
  have hp : 2 ^ 8 = 2 ^ (8 - r) * 2 ^ r := by rw [← Nat.pow_add]; congr 1; omega
  have hpos : 0 < 2 ^ (8 - r) := Nat.two_pow_pos _
  have hrpos : 0 < 2 ^ r := Nat.two_pow_pos _
  -- the first two bytes are P / 2^r
  have e1 : (BitVec.ofNat 16 (P * 2 ^ (8 - r) / 2 ^ 16 % 256)) <<< 8 ^^^ BitVec.ofNat 16 (P * 2 ^ (8 - r) / 2 ^ 8 % 256) = BitVec.ofNat 16 (P / 2 ^ r) := by
    have hq : P * 2 ^ (8 - r) / 2 ^ 8 = P / 2 ^ r := by
      rw [hp, Nat.mul_comm P, Nat.mul_div_mul_left _ _ hpos]
    have hq2 : P * 2 ^ (8 - r) / 2 ^ 16 = P / 2 ^ r / 256 := by
      rw [← hq, Nat.div_div_eq_div_mul]
    have hlt : P / 2 ^ r < 65536 := Nat.lt_of_le_of_lt (Nat.div_le_self _ _) hP
    rw [hq, hq2]
    generalize P / 2 ^ r = z at *
    apply BitVec.eq_of_toNat_eq
    rw [BitVec.toNat_xor, BitVec.toNat_shiftLeft, Nat.shiftLeft_eq, ofNat_toNat _ (Nat.mod_lt _ (by decide)), ofNat_toNat _ (Nat.mod_lt _ (by decide)), BitVec.toNat_ofNat]
    have h1 : z / 256 % 256 * 2 ^ 8 % 2 ^ 16 = 2 ^ 8 * (z / 256) := by omega
    rw [h1]
    have h2 : 2 ^ 8 * (z / 256) ^^^ z % 256 = 2 ^ 8 * (z / 256) + z % 256 := by
      rw [Nat.two_pow_add_eq_or_of_lt (by omega : z % 256 < 2 ^ 8) (z / 256)]
      apply Nat.eq_of_testBit_eq
      intro i
      rw [Nat.testBit_xor, Nat.testBit_or]
      by_cases hi : i < 8
      · have : (2 ^ 8 * (z / 256)).testBit i = false := by rw [Nat.testBit_two_pow_mul]; simp; omega
        rw [this]; simp
      · have : (z % 256).testBit i = false := Nat.testBit_lt_two_pow (Nat.lt_of_lt_of_le (by omega : z % 256 < 2 ^ 8) (Nat.pow_le_pow_right (by decide) (by omega)))
        simp [this]
    rw [h2]
    omega
  rw [e1, ← kB_8] at h
  have e8 : ∀ x, kB 8 x = kB (8 - r) (kB r x) := fun x => by rw [← kB_add]; congr 1; omega
  rw [e8] at h
  -- the third is what P has below 2^r
  have e2 : P * 2 ^ (8 - r) % 256 = P % 2 ^ r * 2 ^ (8 - r) := by
    rw [show (256 : Nat) = 2 ^ r * 2 ^ (8 - r) by rw [Nat.mul_comm, ← hp], Nat.mul_mod_mul_right]
  have hlow : P % 2 ^ r < 2 ^ r := Nat.mod_lt _ hrpos
  have hr8 : 2 ^ r ≤ 2 ^ 8 := Nat.pow_le_pow_right (by decide) (by omega)
  have e3 : kB r (BitVec.ofNat 16 (P / 2 ^ r)) = BitVec.ofNat 16 P ^^^ BitVec.ofNat 16 (P % 2 ^ r) := by
    have hz : P / 2 ^ r < 2 ^ (16 - r) := by
      apply Nat.div_lt_of_lt_mul
      rw [← Nat.pow_add, show r + (16 - r) = 16 by omega]; exact hP
    have hz16 : P / 2 ^ r < 65536 := Nat.lt_of_le_of_lt (Nat.div_le_self _ _) hP
    rw [kB_low r _ (by omega) (by rw [BitVec.toNat_ofNat, Nat.mod_eq_of_lt hz16]; exact hz)]
    apply BitVec.eq_of_toNat_eq
    rw [BitVec.toNat_xor, BitVec.toNat_shiftLeft, Nat.shiftLeft_eq, BitVec.toNat_ofNat, BitVec.toNat_ofNat, BitVec.toNat_ofNat]
    rw [Nat.mod_eq_of_lt hz16, Nat.mod_eq_of_lt hP, Nat.mod_eq_of_lt (show P % 2 ^ r < 2 ^ 16 by omega)]
    have hle : P / 2 ^ r * 2 ^ r ≤ P := Nat.div_mul_le_self _ _
    rw [Nat.mod_eq_of_lt (show P / 2 ^ r * 2 ^ r < 2 ^ 16 by omega)]
    apply Nat.eq_of_testBit_eq
    intro i
    rw [Nat.testBit_xor, Nat.testBit_mod_two_pow, Nat.testBit_mul_two_pow, Nat.testBit_div_two_pow]
    by_cases hi : r ≤ i
    · rw [decide_eq_true hi, decide_eq_false (by omega), show i - r + r = i by omega]; simp
    · rw [decide_eq_false hi, decide_eq_true (by omega)]; simp
  have e4 : kB (8 - r) (BitVec.ofNat 16 (P % 2 ^ r)) = BitVec.ofNat 16 (P * 2 ^ (8 - r) % 256) := by
    have hz : P % 2 ^ r < 2 ^ (16 - (8 - r)) := Nat.lt_of_lt_of_le hlow (Nat.pow_le_pow_right (by decide) (by omega))
    rw [kB_low (8 - r) _ (by omega) (by rw [BitVec.toNat_ofNat, Nat.mod_eq_of_lt (show P % 2 ^ r < 2 ^ 16 by omega)]; exact hz), e2]
    apply BitVec.eq_of_toNat_eq
    rw [BitVec.toNat_shiftLeft, Nat.shiftLeft_eq, BitVec.toNat_ofNat, BitVec.toNat_ofNat, Nat.mod_eq_of_lt (show P % 2 ^ r < 2 ^ 16 by omega)]
  have h' : kB (8 - r) (BitVec.ofNat 16 P) = 0 := by
    rw [e3, kB_xor, e4] at h
    have := congrArg (fun z => z ^^^ BitVec.ofNat 16 (P * 2 ^ (8 - r) % 256)) h
    simp only [BitVec.xor_assoc, BitVec.xor_self, BitVec.xor_zero] at this
    exact this
  have h0 := congrArg BitVec.toNat (kB_zero _ _ h')
  rw [BitVec.toNat_ofNat, Nat.mod_eq_of_lt hP] at h0
  exact h0
/-- A burst alone has the sum 0 only if it turns nothing. -/
theorem burst_seen (n q P : Nat) (hq : q / 8 < n) (hP : P < 65536) (h : runB 0 (mask q P) n = 0) : ∀ j, j < n → mask q P j = 0 := by
  have hz : ∀ j, j < q / 8 → mask q P j = 0 := fun j hj => by unfold mask; rw [if_neg (by omega)]
  have hz3 : ∀ j, q / 8 + 3 ≤ j → mask q P j = 0 := fun j hj => by unfold mask; rw [if_neg (by omega)]
  have r0 := runB_zeros (mask q P) (q / 8) hz
  have r1 : runB 0 (mask q P) (q / 8 + 1) = bit8 ((BitVec.ofNat 16 (mask q P (q / 8))) <<< 8) := by rw [runB, r0, byteB]; show bit8 (0#16 ^^^ _) = _; rw [BitVec.zero_xor]
  have r2 : runB 0 (mask q P) (q / 8 + 2) = bit8 (bit8 ((BitVec.ofNat 16 (mask q P (q / 8))) <<< 8 ^^^ BitVec.ofNat 16 (mask q P (q / 8 + 1)))) := by
    rw [show q / 8 + 2 = (q / 8 + 1) + 1 by omega, runB, r1, byteB_zero_low _ _ (mask_lt _ _ _)]
  have r3 : runB 0 (mask q P) (q / 8 + 3) = bit8 (bit8 (bit8 ((BitVec.ofNat 16 (mask q P (q / 8))) <<< 8 ^^^ BitVec.ofNat 16 (mask q P (q / 8 + 1))) ^^^ BitVec.ofNat 16 (mask q P (q / 8 + 2)))) := by
    rw [show q / 8 + 3 = (q / 8 + 2) + 1 by omega, runB, r2, byteB_zero_low _ _ (mask_lt _ _ _)]
  intro j hj
  by_cases c1 : n = q / 8 + 1
  · subst c1
    rw [r1] at h
    have hz1 := bit8_zero _ h
    have := two_zero (mask q P (q / 8)) 0 (mask_lt _ _ _) (by decide) (by simpa using hz1)
    by_cases e : j = q / 8
    · subst e; exact this.1
    · exact hz j (by omega)
  · by_cases c2 : n = q / 8 + 2
    · subst c2
      rw [r2] at h
      have := two_zero _ _ (mask_lt _ _ _) (mask_lt _ _ _) (bit8_zero _ (bit8_zero _ h))
      by_cases e : j = q / 8
      · subst e; exact this.1
      · by_cases e2 : j = q / 8 + 1
        · subst e2; exact this.2
        · exact hz j (by omega)
    · obtain ⟨d, rfl⟩ : ∃ d, n = q / 8 + 3 + d := ⟨n - (q / 8 + 3), by omega⟩
      have h3 := runB_back 0 (mask q P) (q / 8 + 3) d hz3 h
      rw [r3] at h3
      have h4 := (BitVec.xor_eq_zero_iff).1 (bit8_zero _ (bit8_zero _ h3))
      have m0 := mask_low q P 0 hP (by decide)
      have m1 := mask_low q P 1 hP (by decide)
      have m2 := mask_low q P 2 hP (by decide)
      simp only [Nat.add_zero, Nat.mul_zero, Nat.sub_zero, Nat.mul_one, Nat.reduceSub, Nat.reduceMul, Nat.pow_zero, Nat.div_one] at m0 m1 m2
      rw [m0, m1, m2] at h4
      have hP0 := three (q % 8) P (by omega) hP h4
      subst hP0
      unfold mask
      split <;> simp
end Go.Proofs.Ytdhfkcodacmbfaa
