/- The walks of crc.Join and of the laws CrcZeros and CrcJoins: for every input. -/
import Derived.Test.YtdhfkcodacmbfaaMat
set_option linter.unusedVariables false
set_option linter.unusedSimpArgs false
namespace Go.Proofs.Ytdhfkcodacmbfaa
open Go.RowKit

set_option maxRecDepth 100000 in
theorem join_any (a b : BitVec 16) (n : Int) (w : World) (hn0 : -9223372036854775808 ≤ n) (hn1 : n ≤ 9223372036854775807) :
    Calls Try.prog 59 #[.int .u16 (a.toNat : Int), .int .u16 (b.toNat : Int), .int .i64 n] w fun e w' => e = .returned (.int .u16 (if n < 0 then (a.toNat : Int) else ((zB n.toNat (a ^^^ 65535#16) ^^^ b).toNat : Int))) ∧ Below w.heap.size w w' := by
  have HZ := Lib.hid (fun (s : BitVec 16) W => zeros_any s n W hn0 hn1)
  by_cases h : n < 0
  · rw [if_pos h]
    go_enter Try.func59, Try.ntmps59
    go_wp2_with fail
    go_ret
    exact ⟨rfl, Below.refl _ _⟩
  · rw [if_neg h]
    have q : ((65535#16).toNat : Int) = 65535 := by decide
    have e1 : bits .xor .u16 (a.toNat : Int) 65535 = ((a ^^^ 65535#16).toNat : Int) := by rw [← q, xor16]
    clear q
    have H2 := Lib.hid (fun z : BitVec 16 => xor16 z b)
    have H1 := Lib.hid e1
    clear e1
    generalize a ^^^ 65535#16 = x at *
    go_enter Try.func59, Try.ntmps59
    go_wp2_with fail
    rw [H1.out]
    refine (HZ.out _ _).mono ?_
    rintro e w1 ⟨rfl, b1⟩
    go_wp2_with fail
    go_ret
    exact ⟨ret_int (H2.out _), b1⟩

theorem sum_B (s : ByteArray) : moreI 65535 s.data.toList = ((moreB 65535#16 s.data.toList).toNat : Int) := moreI_B _ 65535#16
theorem more_start (m m' : BitVec 16) (l : List UInt8) : moreB (m ^^^ m') l = moreB m l ^^^ zB l.length m' := by
  induction l generalizing m m' with
  | nil => rfl
  | cons c l ih =>
    show moreB (byteB (m ^^^ m') (BitVec.ofNat 16 c.toNat)) l = moreB (byteB m (BitVec.ofNat 16 c.toNat)) l ^^^ _
    have e : byteB (m ^^^ m') (BitVec.ofNat 16 c.toNat) = byteB m (BitVec.ofNat 16 c.toNat) ^^^ bit8 m' := by
      have := byteB_xor m m' (BitVec.ofNat 16 c.toNat) 0#16
      rw [BitVec.xor_zero] at this
      rw [this]
      congr 1
      rw [byteB, BitVec.zero_shiftLeft, BitVec.xor_zero]
    rw [e, ih, List.length_cons, zB_add l.length 1]
    rfl
theorem join_law (s t : List UInt8) : zB t.length (moreB 65535#16 s ^^^ 65535#16) ^^^ moreB 65535#16 t = moreB 65535#16 (s ++ t) := by
  have h : moreB 65535#16 (s ++ t) = moreB (moreB 65535#16 s) t := by simp [moreB]
  have h2 := more_start 65535#16 (moreB 65535#16 s ^^^ 65535#16) t
  have e : 65535#16 ^^^ (moreB 65535#16 s ^^^ 65535#16) = moreB 65535#16 s := by rw [BitVec.xor_comm, BitVec.xor_assoc, BitVec.xor_self, BitVec.xor_zero]
  rw [e] at h2
  rw [h, h2, BitVec.xor_comm]
theorem joins_walk (s t : ByteArray) (w : World) (ws : s.size ≤ maxLen) (wt : t.size ≤ maxLen) :
    Calls Try.prog 11 #[.string s, .string t] w fun e w' => e = .returned (.bool true) ∧ Below w.heap.size w w' := by
  unfold maxLen at ws wt
  by_cases hs : s.size ≤ 2000
  · by_cases ht : t.size ≤ 2000
    · have hs1 : s.size ≤ 1000000 := by omega
      have ht1 : t.size ≤ 1000000 := by omega
      have hst : (s ++ t).size ≤ 1000000 := by rw [ByteArray.size_append]; omega
      have S1 := fun W => sum_any s W hs1
      have S2 := fun W => sum_any t W ht1
      have S3 := fun W => sum_any (s ++ t) W hst
      have J1 := fun W => join_any (moreB 65535#16 s.data.toList) (moreB 65535#16 t.data.toList) t.size W (by omega) (by omega)
      have J2 := fun W => join_any (moreB 65535#16 s.data.toList) (moreB 65535#16 t.data.toList) (-1 - s.size) W (by omega) (by omega)
      have M1 := fun W => more_any (moreB 65535#16 s.data.toList).toNat t W ht1
      have hl : t.data.toList.length = t.size := by simp
      have ha : (s ++ t).data.toList = s.data.toList ++ t.data.toList := by rw [ByteArray.data_append, Array.toList_append]
      rw [if_neg (by omega), Int.toNat_natCast, ← hl, join_law, ← ha, hl] at J1
      rw [if_pos (by omega)] at J2
      rw [moreI_B, show moreB (moreB 65535#16 s.data.toList) t.data.toList = moreB 65535#16 (s ++ t).data.toList by rw [ha]; simp [moreB]] at M1
      simp only [sum_B] at S1 S2 S3
      have H1 := Lib.hid S1
      have H2 := Lib.hid S2
      have H3 := Lib.hid S3
      have H4 := Lib.hid J1
      have H5 := Lib.hid J2
      have H6 := Lib.hid M1
      clear S1 S2 S3 J1 J2 M1 hl ha
      generalize ((moreB 65535#16 s.data.toList).toNat : Int) = A at *
      generalize ((moreB 65535#16 t.data.toList).toNat : Int) = B at *
      generalize ((moreB 65535#16 (s ++ t).data.toList).toNat : Int) = C at *
      go_enter Try.func11, Try.ntmps11
      go_wp2_with fail
      refine (awake_any _).mono ?_
      rintro e w1 ⟨rfl, b⟩
      go_wp2_with fail
      refine (H1.out _).mono ?_
      rintro e w1' ⟨rfl, rfl⟩
      go_wp2_with fail
      refine (H2.out _).mono ?_
      rintro e w1' ⟨rfl, rfl⟩
      go_wp2_with fail
      refine (H4.out _).mono ?_
      rintro e w2 ⟨rfl, b2⟩
      replace b := below_then b b2; clear b2
      go_wp2_with fail
      refine (H3.out _).mono ?_
      rintro e w1' ⟨rfl, rfl⟩
      go_wp2_with fail
      refine (H6.out _).mono ?_
      rintro e w1' ⟨rfl, rfl⟩
      go_wp2_with fail
      refine (H3.out _).mono ?_
      rintro e w1' ⟨rfl, rfl⟩
      go_wp2_with fail
      refine (H5.out _).mono ?_
      rintro e w3 ⟨rfl, b2⟩
      replace b := below_then b b2; clear b2
      go_wp2_with fail
      go_ret
      exact ⟨rfl, b⟩
    · have h' : 2000 < t.size := by omega
      go_enter Try.func11, Try.ntmps11
      go_wp2_with (go_at_call 24; refine (awake_any _).mono ?_; rintro e w1 ⟨rfl, b1⟩)
      go_ret
      exact ⟨rfl, b1⟩
  · have h' : 2000 < s.size := by omega
    go_enter Try.func11, Try.ntmps11
    go_wp2_with (go_at_call 24; refine (awake_any _).mono ?_; rintro e w1 ⟨rfl, b1⟩)
    go_ret
    exact ⟨rfl, b1⟩

theorem info5 : (Try.prog.info? 5).map (fun i => (i.zero, i.size, i.bytes)) = some (some (.int .u8 0), 1, 1) := by kernel_rfl
def zerosText (m : Nat) : ByteArray := strOfNums (List.replicate m 0)
theorem zerosText_size (m : Nat) : (zerosText m).size = m := by rw [zerosText, strOfNums_size]; simp
theorem zerosText_data (m : Nat) : (zerosText m).data.toList = List.replicate m 0 := by rw [zerosText, strOfNums_data]; simp
theorem made_cell (W : World) (m j : Nat) (hj : j < m) : (W.alloc (.cells (madeCells #[.int .u8 0] m) 5)).cell? ⟨W.heap.size, j, none⟩ = some (.int .u8 0) := by
  rw [World.cell?_alloc_new, ← Array.getElem?_toList, toList_madeCells_one]
  simp [hj]
theorem conv_kept (m : Nat) (W w2 : World) (h : Below (W.alloc (.cells (madeCells #[.int .u8 0] m) 5)).heap.size (W.alloc (.cells (madeCells #[.int .u8 0] m) 5)) w2) :
    (convert 54 9 (.slice (some ⟨W.heap.size, 0, none⟩) m m)).run Try.prog w2 = .ok (.string (zerosText m)) w2 :=
  run_convert_bytes_arg w2 54 5 Try.underlying54 Try.underlying5 W.heap.size 0 m m (List.replicate m 0) (by simp) (fun i hi => by
    rw [Nat.zero_add, h.cell (p := ⟨W.heap.size, i, none⟩) (by simp), made_cell W m i hi]
    simp [hi, List.getD_eq_getElem?_getD]) 9 Try.underlying9
theorem conv_drew (m : Nat) (W w2 : World) (h : Below (W.alloc (.cells (madeCells #[.int .u8 0] m) 5)).drew.heap.size (W.alloc (.cells (madeCells #[.int .u8 0] m) 5)).drew w2) :
    (convert 54 9 (.slice (some ⟨W.heap.size, 0, none⟩) m m)).run Try.prog w2 = .ok (.string (zerosText m)) w2 :=
  conv_kept m W w2 ⟨h.os, h.tape, h.output, h.size, h.block⟩
theorem conv_made (m : Nat) (W : World) :
    (convert 54 9 (.slice (some ⟨W.heap.size, 0, none⟩) m m)).run Try.prog (W.alloc (.cells (madeCells #[.int .u8 0] m) 5)) = .ok (.string (zerosText m)) (W.alloc (.cells (madeCells #[.int .u8 0] m) 5)) :=
  conv_kept m W _ (Below.refl _ _)
set_option maxHeartbeats 1000000 in
set_option maxRecDepth 100000 in
theorem zeros_walk (n : Int) (k : Int) (w : World) (wn : (Lit.int .u16 n).wf = true) (wk : (Lit.int .i64 k).wf = true) :
    Calls Try.prog 9 #[.int .u16 n, .int .i64 k] w fun e w' => e = .returned (.bool true) ∧ Below w.heap.size w w' := by
  have hn := wf_u16 wn
  have hk := wf_i64 wk
  obtain ⟨s, rfl⟩ := ofRange n hn.1 hn.2
  by_cases h1 : k < 1
  · have Z := Lib.hid (fun W => zeros_any s k W hk.1 hk.2)
    have e : zB k.toNat s = s := by rw [show k.toNat = 0 by omega]; rfl
    rw [e] at Z
    clear e
    generalize (s.toNat : Int) = A at *
    go_enter Try.func9, Try.ntmps9
    go_wp2_with fail
    refine (awake_any _).mono ?_
    rintro e w1 ⟨rfl, b⟩
    go_wp2_with fail
    refine (Z.out _).mono ?_
    rintro e w2 ⟨rfl, b2⟩
    replace b := below_then b b2; clear b2
    go_wp2_with fail
    go_ret
    exact ⟨rfl, b⟩
  · by_cases h2 : k ≤ 3000
    · obtain ⟨m, rfl⟩ := Int.eq_ofNat_of_zero_le (show 0 ≤ k by omega)
      have Z := fun W => zeros_any s m W hk.1 hk.2
      have hmk := run_make_row' (P := Try.prog) 54 5 (.int .u8 0) 1 Try.underlying54 info5 rfl .i64 .i64 m (by omega) (by omega)
      go_enter Try.func9, Try.ntmps9
      go_wp2_with fail
      refine (awake_any _).mono ?_
      rintro e w1 ⟨rfl, b⟩
      go_wp2_with fail
      have hcv := fun W => conv_made m W
      have hcv2 := fun W => conv_drew m W _ (Below.refl _ _)
      have R0 := fun W => refmore_any (s.toNat : Int) (zerosText m) W (by rw [zerosText_size]; omega) hn.1 hn.2
      rw [zerosText_data, more_zeros] at R0
      rw [Int.toNat_natCast] at Z
      have R := Lib.hid R0
      have HZ := Lib.hid Z
      clear Z R0
      generalize ((zB m s).toNat : Int) = A at *
      go_region_with (first
        | (go_at_call 52; refine (HZ.out _).mono ?_; rintro e w2 ⟨rfl, b2⟩; try have hc2 := conv_drew m w1 _ b2)
        | (go_at_call 28; refine (R.out _).mono ?_; rintro e w2' ⟨rfl, rfl⟩))
      all_goals go_wp2
      all_goals go_ret
      all_goals first
        | exact ⟨rfl, (below_lift b.drew b2 (by simpa using b.size)).alloc (by have := b.size; have := b2.size; simp at this ⊢; omega) _⟩
        | exact ⟨rfl, below_lift ((b.alloc b.size _).drew) b2 (by have := b.size; simp; omega)⟩
    · have h3 : 3000 < k := by omega
      have Z1 := fun W => zeros_any s k W hk.1 hk.2
      have Z2 := fun W => zeros_any s (k / 2) W (by omega) (by omega)
      have Z3 := fun W => zeros_any (zB (k / 2).toNat s) (k - k / 2) W (by omega) (by omega)
      rw [← zB_add, show (k - k / 2).toNat + (k / 2).toNat = k.toNat by omega] at Z3
      have H1 := Lib.hid Z1
      have H2 := Lib.hid Z2
      have H3 := Lib.hid Z3
      clear Z1 Z2 Z3
      generalize ((zB (k / 2).toNat s).toNat : Int) = C at *
      generalize ((zB k.toNat s).toNat : Int) = B at *
      generalize (s.toNat : Int) = A at *
      go_enter Try.func9, Try.ntmps9
      go_wp2_with fail
      refine (awake_any _).mono ?_
      rintro e w1 ⟨rfl, b⟩
      go_wp2_with fail
      refine (H1.out _).mono ?_
      rintro e w2 ⟨rfl, b2⟩
      replace b := below_then b b2; clear b2
      go_wp2_with fail
      refine (H2.out _).mono ?_
      rintro e w3 ⟨rfl, b2⟩
      replace b := below_then b b2; clear b2
      go_wp2_with fail
      refine (H3.out _).mono ?_
      rintro e w4 ⟨rfl, b2⟩
      replace b := below_then b b2; clear b2
      go_wp2_with fail
      go_ret
      exact ⟨rfl, b⟩
end Go.Proofs.Ytdhfkcodacmbfaa
