/- Plain laws of sealed texts and of bursts, on byte strings. -/
import Derived.Test.YtdhfkcodacmbfaaCrcC
import Derived.Test.YtdhfkcodacmbfaaCrcLaws
set_option linter.unusedVariables false
set_option linter.unusedSimpArgs false
namespace Go.Proofs.Ytdhfkcodacmbfaa
open Go.RowKit

theorem ofNums_getD (f : Nat → Int) (n j : Nat) (hj : j < n) : ((strOfNums ((List.range n).map f)).data.toList.getD j 0) = UInt8.ofNat (f j).toNat := by
  rw [strOfNums_data, List.getD_eq_getElem?_getD]
  simp [hj]
theorem burst_size (s : ByteArray) (q : Nat) (p : Int) : (burstS s q p).size = s.size := by rw [burstS, strOfNums_size]; simp
theorem burst_getD (s : ByteArray) (q P : Nat) (j : Nat) (hj : j < s.size) : ((burstS s q P).data.toList.getD j 0).toNat = (s.data.toList.getD j 0).toNat ^^^ mask q P j := by
  have hl := (s.data.toList.getD j 0).toNat_lt
  have hx : (s.data.toList.getD j 0).toNat ^^^ mask q P j < 2 ^ 8 := Nat.xor_lt_two_pow (by omega) (mask_lt _ _ _)
  rw [burstS, ofNums_getD _ _ _ hj, burstF_mask, Int.toNat_natCast, UInt8.toNat_ofNat']
  omega
theorem text_ext (a b : ByteArray) (hs : a.size = b.size) (h : ∀ j, j < a.size → (a.data.toList.getD j 0).toNat = (b.data.toList.getD j 0).toNat) : a = b := by
  apply ByteArray.ext
  apply Array.ext
  · exact hs
  · intro i h1 h2
    have := h i h1
    rw [List.getD_eq_getElem?_getD, List.getD_eq_getElem?_getD, List.getElem?_eq_getElem (by simpa using h1), List.getElem?_eq_getElem (by simpa using h2)] at this
    simpa using UInt8.toNat_inj.1 this
theorem burst_twice (s : ByteArray) (q P : Nat) : burstS (burstS s q P) q P = s := by
  apply text_ext
  · rw [burst_size, burst_size]
  · intro j hj
    rw [burst_size, burst_size] at hj
    rw [burst_getD _ _ _ _ (by rw [burst_size]; exact hj), burst_getD _ _ _ _ hj, Nat.xor_assoc, Nat.xor_self, Nat.xor_zero]
theorem sum_run (s : ByteArray) : moreI 65535 s.data.toList = ((runB 65535 (fun j => (s.data.toList.getD j 0).toNat) s.size).toNat : Int) := by
  have h := moreI_B s.data.toList 65535
  rw [moreB_run] at h
  have e : s.data.toList.length = s.size := by simp
  rw [e] at h
  exact h
theorem burst_sum (t : ByteArray) (q P : Nat) (hq : q < 8 * t.size) (hP : P < 65536) (h0 : moreI 65535 t.data.toList = 0) (hne : burstS t q P ≠ t) : moreI 65535 (burstS t q P).data.toList ≠ 0 := by
  intro h
  apply hne
  rw [sum_run] at h h0
  rw [burst_size] at h
  have hc : runB 65535 (fun j => ((burstS t q P).data.toList.getD j 0).toNat) t.size = runB (65535 ^^^ 0) (fun j => (t.data.toList.getD j 0).toNat ^^^ mask q P j) t.size :=
    runB_congr _ _ _ _ (fun j hj => burst_getD t q P j hj)
  rw [hc, runB_xor] at h
  have z0 : runB 65535 (fun j => (t.data.toList.getD j 0).toNat) t.size = 0 := BitVec.eq_of_toNat_eq (by have := h0; show _ = 0; omega)
  rw [z0] at h
  have z1 : runB 0 (fun j => mask q P j) t.size = 0 := by
    apply BitVec.eq_of_toNat_eq
    have h2 : (0#16 ^^^ runB 0 (fun j => mask q P j) t.size).toNat = 0 := by have := h; exact Int.natCast_inj.1 this
    rw [BitVec.zero_xor] at h2
    exact h2
  have hm := burst_seen t.size q P (by omega) hP z1
  apply text_ext
  · exact burst_size _ _ _
  · intro j hj
    rw [burst_size] at hj
    rw [burst_getD _ _ _ _ hj, hm j hj, Nat.xor_zero]

/-! ### sealed texts -/
theorem moreI_two (m : BitVec 16) (a b : UInt8) : moreI (m.toNat : Int) [a, b] = ((bit8 (bit8 (m ^^^ ((BitVec.ofNat 16 a.toNat) <<< 8 ^^^ BitVec.ofNat 16 b.toNat)))).toNat : Int) := by
  rw [moreI_B]
  simp only [moreB, List.foldl_cons, List.foldl_nil]
  rw [byteB, byteB, up8 b.toNat b.toNat_lt, ← bit8_xor, BitVec.xor_assoc]
theorem pair_val (a b : Nat) (ha : a < 256) (hb : b < 256) : ((BitVec.ofNat 16 a) <<< 8 ^^^ BitVec.ofNat 16 b).toNat = a * 256 + b := by
  rw [BitVec.toNat_xor, BitVec.toNat_shiftLeft, Nat.shiftLeft_eq, ofNat_toNat a ha, ofNat_toNat b hb]
  have h1 : a * 2 ^ 8 % 2 ^ 16 = 2 ^ 8 * a := by omega
  rw [h1]
  have h2 : 2 ^ 8 * a ^^^ b = 2 ^ 8 * a + b := by
    rw [Nat.two_pow_add_eq_or_of_lt (by omega : b < 2 ^ 8) a]
    apply Nat.eq_of_testBit_eq
    intro i
    rw [Nat.testBit_xor, Nat.testBit_or]
    by_cases hi : i < 8
    · have : (2 ^ 8 * a).testBit i = false := by rw [Nat.testBit_two_pow_mul]; simp; omega
      rw [this]; simp
    · have : b.testBit i = false := Nat.testBit_lt_two_pow (Nat.lt_of_lt_of_le (by omega : b < 2 ^ 8) (Nat.pow_le_pow_right (by decide) (by omega)))
      simp [this]
  rw [h2]
  omega
theorem two_iff (n : Int) (h0 : 0 ≤ n) (h1 : n < 65536) (a b : UInt8) : moreI n [a, b] = 0 ↔ n = (a.toNat : Int) * 256 + b.toNat := by
  obtain ⟨m, rfl⟩ := ofRange n h0 h1
  rw [moreI_two]
  have hv := pair_val a.toNat b.toNat a.toNat_lt b.toNat_lt
  constructor
  · intro h
    have hz : bit8 (bit8 (m ^^^ ((BitVec.ofNat 16 a.toNat) <<< 8 ^^^ BitVec.ofNat 16 b.toNat))) = 0 := BitVec.eq_of_toNat_eq (by show _ = 0; omega)
    have e := (BitVec.xor_eq_zero_iff).1 (bit8_zero _ (bit8_zero _ hz))
    rw [e, hv]
    omega
  · intro h
    have e : m = (BitVec.ofNat 16 a.toNat) <<< 8 ^^^ BitVec.ofNat 16 b.toNat := BitVec.eq_of_toNat_eq (by rw [hv]; omega)
    rw [← e, BitVec.xor_self]
    decide
theorem seal_data (s : ByteArray) : (sealS s).data.toList = s.data.toList ++ [UInt8.ofNat (moreI 65535 s.data.toList / 256 % 256).toNat, UInt8.ofNat (moreI 65535 s.data.toList % 256).toNat] := by
  rw [sealS, ByteArray.data_append, Array.toList_append, strOfNums_data]; rfl
theorem seal_size (s : ByteArray) : (sealS s).size = s.size + 2 := by rw [sealS, ByteArray.size_append, two_size]
theorem seal_sum (s : ByteArray) : moreI 65535 (sealS s).data.toList = 0 := by
  have hr := moreI_range s.data.toList
  rw [seal_data, moreI_append]
  rw [two_iff _ hr.1 hr.2]
  generalize moreI 65535 s.data.toList = m at *
  have e1 : (UInt8.ofNat (m / 256 % 256).toNat).toNat = (m / 256 % 256).toNat := by simp; omega
  have e2 : (UInt8.ofNat (m % 256).toNat).toNat = (m % 256).toNat := by simp; omega
  rw [e1, e2]
  omega
theorem seal_cut (s : ByteArray) : (sealS s).extract 0 ((sealS s).size - 2) = s := by
  rw [seal_size, Nat.add_sub_cancel]
  apply ByteArray.ext
  rw [ByteArray.data_extract, sealS, ByteArray.data_append]
  apply Array.ext'
  simp
  exact List.take_of_length_le (by simp)
theorem extract_data (s : ByteArray) (n : Nat) : (s.extract 0 n).data.toList = s.data.toList.take n := by
  rw [ByteArray.data_extract]; simp
theorem open_iff (s : ByteArray) (h : 2 ≤ s.size) : moreI 65535 s.data.toList = 0 ↔ sealS (s.extract 0 (s.size - 2)) = s := by
  constructor
  · intro h0
    have hl : s.data.toList.length = s.size := by simp
    obtain ⟨a, b, hab⟩ : ∃ a b, s.data.toList.drop (s.size - 2) = [a, b] := by
      have hd : (s.data.toList.drop (s.size - 2)).length = 2 := by rw [List.length_drop, hl]; omega
      match s.data.toList.drop (s.size - 2), hd with
      | [a, b], _ => exact ⟨a, b, rfl⟩
    have hs : s.data.toList = (s.extract 0 (s.size - 2)).data.toList ++ [a, b] := by rw [extract_data, ← hab, List.take_append_drop]
    have hr := moreI_range (s.extract 0 (s.size - 2)).data.toList
    rw [hs, moreI_append, two_iff _ hr.1 hr.2] at h0
    apply ByteArray.ext
    apply Array.ext'
    rw [seal_data, h0]
    have ha := a.toNat_lt
    have hb := b.toNat_lt
    have e1 : UInt8.ofNat (((a.toNat : Int) * 256 + b.toNat) / 256 % 256).toNat = a := by
      have : (((a.toNat : Int) * 256 + b.toNat) / 256 % 256).toNat = a.toNat := by omega
      rw [this]; simp
    have e2 : UInt8.ofNat (((a.toNat : Int) * 256 + b.toNat) % 256).toNat = b := by
      have : (((a.toNat : Int) * 256 + b.toNat) % 256).toNat = b.toNat := by omega
      rw [this]; simp
    rw [e1, e2, ← hs]
  · intro h0
    rw [← h0]
    exact seal_sum _
end Go.Proofs.Ytdhfkcodacmbfaa
