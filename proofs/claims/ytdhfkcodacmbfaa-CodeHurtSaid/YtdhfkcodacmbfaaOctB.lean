/- The walks of the laws OctetsWrites, OctetsReads and OctetsBack: for every input. -/
import Derived.Test.YtdhfkcodacmbfaaItems
set_option linter.unusedVariables false
set_option linter.unusedSimpArgs false
namespace Go.Proofs.Ytdhfkcodacmbfaa
open Go.RowKit

def abS : ByteArray := ⟨#[2, 97, 98, 1, 2]⟩
def e0S : EyeS := ⟨abS, 0, false⟩
theorem o_text : strOfNums ([] ++ (((ByteArray.mk #[97, 98]).size : Int) :: bytesI ⟨#[97, 98]⟩) ++ [258 / 256, 258 % 256]) = abS := by decide +kernel
theorem o_small : e0S.smallText = ⟨#[97, 98]⟩ := by decide +kernel
theorem o_next : e0S.smallNext.cells = EyeS.cells ⟨abS, 3, false⟩ := by kernel_rfl
theorem o_num : EyeS.num ⟨abS, 3, false⟩ 2 = 258 := by decide +kernel
theorem o_end : (EyeS.next ⟨abS, 3, false⟩ 2).cells = EyeS.cells ⟨abS, 5, false⟩ := by kernel_rfl
theorem o_done : EyeS.done ⟨abS, 5, false⟩ = true := by decide +kernel
set_option maxRecDepth 100000 in
theorem oawake_any (w : World) : Calls Try.prog 34 #[] w fun e w' => e = .returned (.bool true) ∧ Below w.heap.size w w' := by
  have ok0 : e0S.ok := ⟨by decide, by decide⟩
  have ok3 : EyeS.ok ⟨abS, 3, false⟩ := ⟨by decide, by decide⟩
  have ok5 : EyeS.ok ⟨abS, 5, false⟩ := ⟨by decide, by decide⟩
  have H0 := Lib.hid (fun W => newPen_any W)
  have H1 := Lib.hid (fun W B (h : Pen W w.heap.size B none []) => psmall_yes w.heap.size B none [] ⟨#[97, 98]⟩ W h (by simp) (by decide))
  have H2 := Lib.hid (fun W B ob xs (h : Pen W w.heap.size B ob xs) (hl : xs.length ≤ 999000) => ptwo_any w.heap.size B ob xs 258 W h hl (by omega) (by omega))
  have H3 := Lib.hid (fun W B ob xs (h : Pen W w.heap.size B ob xs) => pstring_any w.heap.size B ob xs W h)
  have H4 := Lib.hid (fun W => newEye_any abS W)
  have H5 := Lib.hid (fun W B (h : Blk W B e0S.cells 135) => small_any e0S B W ok0 h)
  have H6 := Lib.hid (fun W B (h : Blk W B (EyeS.cells ⟨abS, 3, false⟩) 135) => two_any ⟨abS, 3, false⟩ B W ok3 h)
  have H7 := Lib.hid (fun W B (h : Blk W B (EyeS.cells ⟨abS, 5, false⟩) 135) => done_any ⟨abS, 5, false⟩ B W ok5 h)
  rw [o_small, o_next] at H5
  rw [o_num, o_end] at H6
  rw [o_done] at H7
  clear ok0 ok3 ok5
  go_enter Try.func34, Try.ntmps34
  go_wp2_with fail
  refine (H0.out _).mono ?_
  rintro e w1 ⟨rfl, rfl⟩
  have hP := newPen_pen w w.heap.size (Nat.le_refl _)
  have hb := (Below.refl w.heap.size w).alloc (Nat.le_refl _) (.cells #[.slice none 0 0] 137)
  generalize w.alloc (.cells #[.slice none 0 0] 137) = w1 at *
  go_wp2_with fail
  refine (H1.out _ _ hP).mono ?_
  rintro e w2 ⟨rfl, ⟨ob2, hP2⟩, kept⟩
  have hb2 := kept.below hb hb.size (Nat.le_refl _) (fun g e => by cases e)
  clear kept hb hP
  go_wp2_with fail
  refine (H2.out _ _ _ _ hP2 (by simp [bytesI])).mono ?_
  rintro e w3 ⟨rfl, ⟨ob3, hP3, near⟩, kept⟩
  have hb3 := kept.below hb2 hb2.size (Nat.le_refl _) (fun g e => (hP2.row g e).1)
  clear kept hb2 hP2 near
  go_wp2_with fail
  refine (H3.out _ _ _ _ hP3).mono ?_
  rintro e w3' ⟨rfl, rfl⟩
  rw [o_text]
  go_wp2_with fail
  refine (H4.out _).mono ?_
  rintro e w4 ⟨rfl, rfl⟩
  have hE : Blk (w3.alloc (.cells (EyeS.cells ⟨abS, 0, false⟩) 135)) w3.heap.size e0S.cells 135 := Blk.new w3 _ 135
  have hb4 := hb3.alloc hb3.size (.cells (EyeS.cells ⟨abS, 0, false⟩) 135)
  have hs3 := hb3.size
  generalize w3.alloc (.cells (EyeS.cells ⟨abS, 0, false⟩) 135) = w4 at *
  generalize w3.heap.size = E at *
  clear hP3 hb3
  go_wp2_with fail
  refine (H5.out _ _ hE).mono ?_
  rintro e w5 ⟨rfl, ch⟩
  have hb5 := ch.below hb4 hb4.size hs3
  have hE5 := ch.blk
  clear ch hE hb4
  go_wp2_with fail
  refine (H6.out _ _ hE5).mono ?_
  rintro e w6 ⟨rfl, ch⟩
  have hb6 := ch.below hb5 hb5.size hs3
  have hE6 := ch.blk
  clear ch hE5 hb5
  go_wp2_with fail
  refine (H7.out _ _ hE6).mono ?_
  rintro e w7 ⟨rfl, m, rfl⟩
  go_wp2_with fail
  go_ret
  exact ⟨rfl, below_drewN hb6 m⟩

set_option maxRecDepth 100000 in
theorem owrites_walk (A : Option Addr) (len cap : Nat) (f : Nat → Item) (w : World) (hI : Items w A len f) (hl : len ≤ 9223372036854775807) :
    Calls Try.prog 8 #[.slice A len cap] w fun e w' => e = .returned (.bool true) ∧ Below w.heap.size w w' := by
  have HA := Lib.hid (fun W => oawake_any W)
  by_cases hs : smallI len f
  · have H1 := Lib.hid (fun W (h : Items W A len f) => small_yes A len cap f W h hs)
    have H2 := Lib.hid (fun W => newPen_any W)
    have H3 := Lib.hid (fun B W (hb : Below w.heap.size w W) (hP : Pen W w.heap.size B none []) => write_any w A len cap f B W hI hs hb none hP)
    have H4 := Lib.hid (fun W B ob (h : Pen W w.heap.size B ob (encAll f len)) => pstring_any w.heap.size B ob (encAll f len) W h)
    have H5 := Lib.hid (fun W B ob (h : Pen W w.heap.size B ob (encAll f len)) => plen_any w.heap.size B ob (encAll f len) W h)
    have hsz := strOfNums_size (encAll f len)
    rw [← hsz] at H5
    clear hsz hs
    generalize strOfNums (encAll f len) = t at *
    go_enter Try.func8, Try.ntmps8
    go_wp2_with fail
    refine (HA.out _).mono ?_
    rintro e w1 ⟨rfl, b⟩
    go_wp2_with fail
    refine (H1.out _ (hI.below b)).mono ?_
    rintro e w2 ⟨rfl, b2⟩
    replace b := below_then b b2; clear b2
    go_wp2_with fail
    refine (H2.out _).mono ?_
    rintro e w3 ⟨rfl, rfl⟩
    have hP := newPen_pen w2 w.heap.size b.size
    have b3 := b.alloc b.size (.cells #[.slice none 0 0] 137)
    generalize w2.alloc (.cells #[.slice none 0 0] 137) = w3 at *
    generalize w2.heap.size = B at *
    clear b
    go_wp2_with fail
    refine (H3.out _ _ b3 hP).mono ?_
    rintro e w4 ⟨rfl, ⟨ob, hP4⟩, b4⟩
    go_wp2_with fail
    refine (H4.out _ _ _ hP4).mono ?_
    rintro e w4' ⟨rfl, rfl⟩
    go_wp2_with fail
    refine (H5.out _ _ _ hP4).mono ?_
    rintro e w4' ⟨rfl, rfl⟩
    go_wp2_with fail
    go_ret
    exact ⟨rfl, b4⟩
  · have H1 := Lib.hid (fun W (h : Items W A len f) => small_no A len cap f W h hl hs)
    go_enter Try.func8, Try.ntmps8
    go_wp2_with fail
    refine (HA.out _).mono ?_
    rintro e w1 ⟨rfl, b⟩
    go_wp2_with fail
    refine (H1.out _ (hI.below b)).mono ?_
    rintro e w2 ⟨rfl, b2⟩
    replace b := below_then b b2; clear b2
    go_wp2_with fail
    go_ret
    exact ⟨rfl, b⟩
end Go.Proofs.Ytdhfkcodacmbfaa
