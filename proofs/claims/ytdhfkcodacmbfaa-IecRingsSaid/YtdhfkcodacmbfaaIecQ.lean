/- The walk of the law IecBack: what is put is got. -/
import Derived.Test.YtdhfkcodacmbfaaIecP
set_option linter.unusedVariables false
set_option linter.unusedSimpArgs false
namespace Go.Proofs.Ytdhfkcodacmbfaa
open Go.RowKit

theorem putS_parts (area : ByteArray) (A : Nat) (k v : Int) (h : A + (ksize k).toNat ≤ area.size) :
    putS area A k v = area.extract 0 A ++ strOfNums (digs (wrapK k v) (ksize k).toNat) ++ area.extract (A + (ksize k).toNat) area.size := by
  rw [put_parts area A _ _ h]
  rfl
theorem putS_size (area : ByteArray) (a k v : Int) : (putS area a k v).size = area.size := by
  unfold putS
  rw [strOfNums_size]
  simp
theorem num_1 (x : Int) (h0 : 0 ≤ x) (h1 : x < 256) : (numN (strOfNums [x]).data.toList : Int) = x := by
  rw [strOfNums_data]
  simp [numN]
  omega
theorem num_2 (x y : Int) (h0 : 0 ≤ x) (h1 : x < 256) (g0 : 0 ≤ y) (g1 : y < 256) : (numN (strOfNums [x, y]).data.toList : Int) = x * 256 + y := by
  rw [strOfNums_data]
  simp [numN]
  omega
theorem num_4 (x y z t : Int) (h0 : 0 ≤ x) (h1 : x < 256) (g0 : 0 ≤ y) (g1 : y < 256) (i0 : 0 ≤ z) (i1 : z < 256) (j0 : 0 ≤ t) (j1 : t < 256) : (numN (strOfNums [x, y, z, t]).data.toList : Int) = ((x * 256 + y) * 256 + z) * 256 + t := by
  rw [strOfNums_data]
  simp [numN]
  omega
theorem digs_1 (X : Int) : (numN (strOfNums (digs X 1)).data.toList : Int) = X % 256 := by
  rw [show digs X 1 = [X % 256] by simp [digs, List.range_succ]]
  exact num_1 _ (by omega) (by omega)
theorem digs_2 (X : Int) : (numN (strOfNums (digs X 2)).data.toList : Int) = X % 65536 := by
  rw [show digs X 2 = [X / 256 % 256, X % 256] by simp [digs, List.range_succ], num_2 _ _ (by omega) (by omega) (by omega) (by omega)]
  omega
theorem digs_4 (X : Int) : (numN (strOfNums (digs X 4)).data.toList : Int) = X % 4294967296 := by
  rw [show digs X 4 = [X / 16777216 % 256, X / 65536 % 256, X / 256 % 256, X % 256] by simp [digs, List.range_succ], num_4 _ _ _ _ (by omega) (by omega) (by omega) (by omega) (by omega) (by omega) (by omega) (by omega)]
  omega
/-- The digits of a value, read: the value, brought into its kind. -/
theorem wrap_digs (k v : Int) (hk : 1 ≤ k ∧ k ≤ 7) : wrapK k (numN (strOfNums (digs (wrapK k v) (ksize k).toNat)).data.toList) = wrapK k v := by
  have hc : k = 1 ∨ k = 2 ∨ k = 3 ∨ k = 4 ∨ k = 5 ∨ k = 6 ∨ k = 7 := by omega
  rcases hc with rfl | rfl | rfl | rfl | rfl | rfl | rfl
  · rw [show (ksize 1).toNat = 1 from rfl, digs_1]
    have hv : wrapK 1 v = 0 ∨ wrapK 1 v = 1 := by
      rw [show wrapK 1 v = if v = 0 then 0 else 1 from rfl]
      split <;> simp
    rcases hv with e | e <;> rw [e] <;> rfl
  · rw [show (ksize 2).toNat = 1 from rfl, digs_1]
    simp only [show ∀ x, wrapK 2 x = IntKind.i8.wrap x from fun _ => rfl, wrap_i8']
    omega
  · rw [show (ksize 3).toNat = 2 from rfl, digs_2]
    simp only [show ∀ x, wrapK 3 x = IntKind.i16.wrap x from fun _ => rfl, wrap_i16']
    omega
  · rw [show (ksize 4).toNat = 4 from rfl, digs_4]
    simp only [show ∀ x, wrapK 4 x = IntKind.i32.wrap x from fun _ => rfl, IntKind.wrap_i32]
    omega
  · rw [show (ksize 5).toNat = 2 from rfl, digs_2]
    simp only [show ∀ x, wrapK 5 x = IntKind.u16.wrap x from fun _ => rfl, IntKind.wrap_u16]
    omega
  · rw [show (ksize 6).toNat = 2 from rfl, digs_2]
    simp only [show ∀ x, wrapK 6 x = IntKind.u16.wrap x from fun _ => rfl, IntKind.wrap_u16]
    omega
  · rw [show (ksize 7).toNat = 4 from rfl, digs_4]
    simp only [show ∀ x, wrapK 7 x = IntKind.u32.wrap x from fun _ => rfl, IntKind.wrap_u32]
    omega
theorem ext_data (x : ByteArray) (i j : Nat) : (x.extract i j).data.toList = (x.data.toList.drop i).take (j - i) := by simp [ByteArray.data_extract, List.extract_eq_take_drop]
theorem mid3 (a b c : ByteArray) : (a ++ b ++ c).extract a.size (a.size + b.size) = b ∧ (a ++ b ++ c).extract 0 a.size = a ∧ (a ++ b ++ c).extract (a.size + b.size) (a ++ b ++ c).size = c := by
  have ha : a.size = a.data.toList.length := by simp
  have hb : b.size = b.data.toList.length := by simp
  have hc : c.size = c.data.toList.length := by simp
  have hd : (a ++ b ++ c).data.toList = a.data.toList ++ (b.data.toList ++ c.data.toList) := by simp [ByteArray.data_append]
  have hs : (a ++ b ++ c).size = a.size + b.size + c.size := by simp
  refine ⟨?_, ?_, ?_⟩
  · apply ByteArray.ext
    apply Array.ext'
    rw [ext_data, hd, ha, hb, List.drop_left, show a.data.toList.length + b.data.toList.length - a.data.toList.length = b.data.toList.length by omega, List.take_left]
  · apply ByteArray.ext
    apply Array.ext'
    rw [ext_data, hd, ha, List.drop_zero, Nat.sub_zero, List.take_left]
  · apply ByteArray.ext
    apply Array.ext'
    rw [ext_data, hd, hs, ha, hb, hc, ← List.append_assoc, ← List.length_append, List.drop_left, List.length_append, Nat.add_sub_cancel_left, List.take_length]
/-- An area behind a put: got again; beside it as it was. -/
theorem put_get (area : ByteArray) (A : Nat) (k v : Int) (hk : 1 ≤ k ∧ k ≤ 7) (h : A + (ksize k).toNat ≤ area.size) :
    getK (putS area A k v) A k = wrapK k v ∧ (putS area A k v).extract 0 A = area.extract 0 A ∧ (putS area A k v).extract (A + (ksize k).toNat) (putS area A k v).size = area.extract (A + (ksize k).toNat) area.size := by
  have hp := putS_parts area A k v h
  have s1 : (area.extract 0 A).size = A := by rw [ByteArray.size_extract]; omega
  have s2 : (strOfNums (digs (wrapK k v) (ksize k).toNat)).size = (ksize k).toNat := by rw [strOfNums_size, digs_length]
  obtain ⟨m1, m2, m3⟩ := mid3 (area.extract 0 A) (strOfNums (digs (wrapK k v) (ksize k).toNat)) (area.extract (A + (ksize k).toNat) area.size)
  rw [s1, s2] at m1 m3
  rw [s1] at m2
  rw [← hp] at m1 m2 m3
  refine ⟨?_, m2, m3⟩
  unfold getK getS
  rw [Int.toNat_natCast, m1]
  exact wrap_digs k v hk
theorem isK_wrap (k v : Int) (hk : 1 ≤ k ∧ k ≤ 7) : isK k (wrapK k v) = true := by
  unfold isK
  rw [show kok k = true by unfold kok; rw [if_pos hk], Bool.true_and]
  apply decide_eq_true
  have hc : k = 1 ∨ k = 2 ∨ k = 3 ∨ k = 4 ∨ k = 5 ∨ k = 6 ∨ k = 7 := by omega
  rcases hc with rfl | rfl | rfl | rfl | rfl | rfl | rfl
  · have hv : wrapK 1 v = 0 ∨ wrapK 1 v = 1 := by
      rw [show wrapK 1 v = if v = 0 then 0 else 1 from rfl]
      split <;> simp
    rcases hv with e | e <;> rw [e] <;> rfl
  · simp only [show ∀ x, wrapK 2 x = IntKind.i8.wrap x from fun _ => rfl, wrap_i8']
    omega
  · simp only [show ∀ x, wrapK 3 x = IntKind.i16.wrap x from fun _ => rfl, wrap_i16']
    omega
  · simp only [show ∀ x, wrapK 4 x = IntKind.i32.wrap x from fun _ => rfl, IntKind.wrap_i32]
    omega
  · simp only [show ∀ x, wrapK 5 x = IntKind.u16.wrap x from fun _ => rfl, IntKind.wrap_u16]
    omega
  · simp only [show ∀ x, wrapK 6 x = IntKind.u16.wrap x from fun _ => rfl, IntKind.wrap_u16]
    omega
  · simp only [show ∀ x, wrapK 7 x = IntKind.u32.wrap x from fun _ => rfl, IntKind.wrap_u32]
    omega
end Go.Proofs.Ytdhfkcodacmbfaa
