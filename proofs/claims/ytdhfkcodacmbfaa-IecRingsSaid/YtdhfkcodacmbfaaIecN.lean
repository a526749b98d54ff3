/- The walk of the law IecDoes. -/
import Derived.Test.YtdhfkcodacmbfaaIecM
import Derived.Test.YtdhfkcodacmbfaaArr
set_option linter.unusedVariables false
set_option linter.unusedSimpArgs false
namespace Go.Proofs.Ytdhfkcodacmbfaa
open Go.RowKit

set_option maxRecDepth 100000 in
set_option maxHeartbeats 8000000 in
theorem does_walk (op k a b : Int) (w : World) (wo : (Lit.int .i64 op).wf = true) (wk : (Lit.int .i64 k).wf = true) (wa : (Lit.int .i64 a).wf = true) (wb : (Lit.int .i64 b).wf = true) :
    Calls Try.prog 15 #[.int .i64 op, .int .i64 k, .agg #[.int .i64 a, .int .i64 b]] w fun e w' => e = .returned (.bool true) ∧ Below w.heap.size w w' := by
  have HA := Lib.hid (fun W => iawake_any W)
  have ra := wrapK_range k a
  have rb := wrapK_range k b
  have wa' := wf_small (v := wrapK k a) (by omega) (by omega)
  have wb' := wf_small (v := wrapK k b) (by omega) (by omega)
  have D := Lib.hid (fun W => do_any op k a b W wa wb)
  have Dr := Lib.hid (fun W => rdo_any op k a b W wa wb)
  have N := Lib.hid (fun W => not_any k a W wa)
  have Nr := Lib.hid (fun W => rnot_any k a W wa)
  have E := Lib.hid (fun W => do_any op k (wrapK k a) (wrapK k b) W wa' wb')
  have Er := Lib.hid (fun W => rdo_any op k (wrapK k a) (wrapK k b) W wa' wb')
  have M := Lib.hid (fun W => not_any k (wrapK k a) W wa')
  have Mr := Lib.hid (fun W => rnot_any k (wrapK k a) W wa')
  have WA := Lib.hid (fun W => rwrap_any k a W wa)
  have WB := Lib.hid (fun W => rwrap_any k b W wb)
  have HM := Lib.hid (fun W => may_any op k W)
  have HR := Lib.hid (fun W => rmay_any op k W)
  clear wo wk wa wb wa' wb'
  obtain ⟨d1, hd1⟩ : ∃ x, x = doK op k a b := ⟨_, rfl⟩
  obtain ⟨d2, hd2⟩ : ∃ x, x = doK op k (wrapK k a) (wrapK k b) := ⟨_, rfl⟩
  rw [← hd1] at D Dr
  rw [← hd2] at E Er
  clear hd1 hd2
  obtain ⟨x1, y1⟩ := d1
  obtain ⟨x2, y2⟩ := d2
  simp only at D Dr E Er
  generalize notK k a = n1 at *
  generalize notK k (wrapK k a) = n2 at *
  generalize wrapK k a = a' at *
  generalize wrapK k b = b' at *
  generalize mayK op k = m at *
  have hX := Blk.new w #[Value.int .i64 a, .int .i64 b] 88
  have hb0 := (Below.refl w.heap.size w).alloc (Nat.le_refl _) (.cells #[Value.int .i64 a, .int .i64 b] 88)
  go_enter Try.func15, Try.ntmps15
  go_wp2_with fail
  generalize w.alloc (.cells #[Value.int .i64 a, .int .i64 b] 88) = w0 at *
  refine (HA.out _).mono ?_
  rintro e w1 ⟨rfl, b1⟩
  have hX1 := hX.keep b1
  replace hb0 := below_lift hb0 b1 hb0.size
  clear hX b1
  go_wp2_with fail
  go_loopw [7, 8, 9, 10, 11, 12, 13, 16, 31, 39] (fun _ _ _ _ _ _ _ v _ _ wr => ∃ i : Nat, i ≤ 2 ∧ v = .int .i64 i ∧ Blk wr w.heap.size #[Value.int .i64 a, .int .i64 b] 88 ∧ Below w.heap.size w wr) (fun _ _ _ _ _ _ _ v _ _ _ => 2 - (intOf v).toNat)
  case atStart => exact ⟨0, by omega, rfl, hX1, hb0⟩
  case round =>
    clear hX1 hb0
    obtain ⟨i, hi, rfl, hX, hb⟩ := hrel
    have c0 := hX.cell (j := 0) (v := .int .i64 a) rfl
    have c1 := hX.cell (j := 1) (v := .int .i64 b) rfl
    have hgl := hX.lt
    have hi3 : i = 0 ∨ i = 1 ∨ i = 2 := by omega
    rcases hi3 with rfl | rfl | rfl
    · go_wp2_with fail
      go_region
      replace hb := hb.drew
      have hK : Blk wr.drew w.heap.size #[Value.int .i64 a, .int .i64 b] 88 := hX.drew
      clear hX c0 c1
      generalize wr.drew = w2 at *
      go_wp2_with fail
      refine (D.out _).mono ?_
      rintro e w3 ⟨rfl, bn⟩
      replace hK := hK.keep bn
      replace hb := below_then hb bn
      clear bn
      go_wp2_with fail
      refine (Dr.out _).mono ?_
      rintro e w4 ⟨rfl, bn⟩
      replace hK := hK.keep bn
      replace hb := below_then hb bn
      clear bn
      go_wp2_with fail
      refine (N.out _).mono ?_
      rintro e w5 ⟨rfl, bn⟩
      replace hK := hK.keep bn
      replace hb := below_then hb bn
      clear bn
      go_wp2_with fail
      refine (Nr.out _).mono ?_
      rintro e w6 ⟨rfl, bn⟩
      replace hK := hK.keep bn
      replace hb := below_then hb bn
      clear bn
      go_wp2_with fail
      go_roundw
      case rel => exact ⟨1, by omega, by first | rfl | go_num, hK, hb⟩
      case measure => simp [intOf]
    · go_wp2_with fail
      go_region
      replace hb := hb.drew
      have hK : Blk wr.drew w.heap.size #[Value.int .i64 a, .int .i64 b] 88 := hX.drew
      clear hX c0 c1
      generalize wr.drew = w2 at *
      go_wp2_with fail
      refine (WA.out _).mono ?_
      rintro e w7 ⟨rfl, bn⟩
      replace hK := hK.keep bn
      replace hb := below_then hb bn
      clear bn
      go_wp2_with fail
      refine (WB.out _).mono ?_
      rintro e w8 ⟨rfl, bn⟩
      replace hK := hK.keep bn
      replace hb := below_then hb bn
      clear bn
      go_wp2_with fail
      refine (E.out _).mono ?_
      rintro e w3 ⟨rfl, bn⟩
      replace hK := hK.keep bn
      replace hb := below_then hb bn
      clear bn
      go_wp2_with fail
      refine (Er.out _).mono ?_
      rintro e w4 ⟨rfl, bn⟩
      replace hK := hK.keep bn
      replace hb := below_then hb bn
      clear bn
      go_wp2_with fail
      refine (M.out _).mono ?_
      rintro e w5 ⟨rfl, bn⟩
      replace hK := hK.keep bn
      replace hb := below_then hb bn
      clear bn
      go_wp2_with fail
      refine (Mr.out _).mono ?_
      rintro e w6 ⟨rfl, bn⟩
      replace hK := hK.keep bn
      replace hb := below_then hb bn
      clear bn
      go_wp2_with fail
      go_roundw
      case rel => exact ⟨2, by omega, by first | rfl | go_num, hK, hb⟩
      case measure => simp [intOf]
    · go_wp2_with fail
      refine (HM.out _).mono ?_
      rintro e w7 ⟨rfl, bn⟩
      replace hb := below_then hb bn
      go_wp2_with fail
      refine (HR.out _).mono ?_
      rintro e w8 ⟨rfl, bn⟩
      replace hb := below_then hb bn
      go_wp2_with fail
      go_ret
      exact ⟨ret_bool (by simp), hb⟩
end Go.Proofs.Ytdhfkcodacmbfaa
