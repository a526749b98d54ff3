/- The medium (bus): one piece more. -/
import Derived.Test.YtdhfkcodacmbfaaBus
import Derived.Deep.RegionHeld3
import Derived.Deep.AppendLies
set_option linter.unusedVariables false
set_option linter.unusedSimpArgs false
namespace Go.Proofs.Ytdhfkcodacmbfaa
open Go.RowKit

theorem info69 : (Try.prog.info? 69).map (fun i => (i.zero, i.size, i.bytes)) = some (some (.agg #[.string ⟨#[]⟩, .int .i64 0, .int .u32 0, .bool false]), 4, 32) := by kernel_rfl
theorem bus_store {T : TypeId} {w w1 : World} {S B : Nat} {v v' : Value} {ys : List PieceS} {f : Bool} (hb : Blk w B #[v, .bool f] T) (hne : v.ownBlock ≠ some B) (hS : S ≤ B)
    (hg : w.grownBy w1 v.ownBlock) (ho : w1.ownsRow S 69 4 v' ys.length (pcs ys)) (hat : v'.ownBlock = v.ownBlock ∨ ∃ g, v'.ownBlock = some g ∧ w.heap.size ≤ g) :
    BusTo T w (w1.setCell ⟨B, 0, none⟩ v') S B v.ownBlock ys f := by
  have hB1 : Blk w1 B #[v, .bool f] T := ⟨(hg.block B hb.lt (fun e => hne e.symm)).trans hb.at_⟩
  have hne' : v'.ownBlock ≠ some B := by
    rcases hat with e | ⟨g, e, hgs⟩
    · rw [e]; exact hne
    · rw [e]
      intro q
      injection q with q
      have := hb.lt
      omega
  refine ⟨⟨v'.ownBlock, ⟨⟨v', hB1.setCell 0 v', own_keep ho (fun k e => Below.heap_setCell w1 ⟨B, 0, none⟩ _ k ?_), rfl⟩, hne', hS⟩, hat⟩, ?_⟩
  · intro q
    apply hne'
    rw [e]
    exact congrArg some q
  · exact ⟨hg.os, hg.tape, hg.output, by rw [World.size_setCell]; exact hg.size, fun k hk hkB hko => (Below.heap_setCell w1 ⟨B, 0, none⟩ v' k hkB).trans (hg.block k hk hko)⟩
/-- The fault is set. -/
theorem Bus.fault {T : TypeId} {w : World} {S B : Nat} {ob : Option Nat} {l : List PieceS} {f : Bool} (h : Bus T w S B ob l f) : BusTo T w (w.setCell ⟨B, 1, none⟩ (.bool true)) S B ob l true := by
  have hne := h.ne
  obtain ⟨v, hb, ho, rfl⟩ := h.has
  refine ⟨⟨v.ownBlock, ⟨⟨v, hb.setCell 1 _, own_keep ho (fun k e => Below.heap_setCell w ⟨B, 1, none⟩ _ k ?_), rfl⟩, hne, h.base⟩, Near.refl _ _⟩, ?_⟩
  · intro q
    apply hne
    rw [e]
    exact congrArg some q
  · exact ⟨rfl, rfl, rfl, by rw [World.size_setCell]; exact Nat.le_refl _, fun k hk hkB _ => Below.heap_setCell w ⟨B, 1, none⟩ _ k hkB⟩
theorem PieceS.cells_one (p : PieceS) : ∀ u ∈ p.cells, u.oneCell' = true := by
  intro u hu
  simp [PieceS.cells] at hu
  rcases hu with rfl | rfl | rfl | rfl <;> rfl
theorem grown_drew {w w' : World} {r : Option Nat} (h : w.grownBy w' r) : w.grownBy w'.drew r := ⟨h.os, h.tape, h.output, h.size, h.block⟩

set_option maxRecDepth 100000 in
theorem badd_full (S B : Nat) (ob : Option Nat) (l : List PieceS) (f : Bool) (p : PieceS) (w : World) (h : Bus 147 w S B ob l f) (hl : l.length = 64) :
    Calls Try.prog 111 #[.pointer (some ⟨B, 0, none⟩), p.agg] w fun e w' => e = .returned (.int .i64 8) ∧ BusTo 147 w w' S B ob l true := by
  have h0 := h.alloc (.cells #[.string p.s, .int .i64 p.src, .int .u32 (p.dest : Int), .bool p.hurt] 69)
  obtain ⟨A, cap, c0, c1, f0, f1⟩ := h0.cells
  have hB := h0.lt
  have HF := Lib.hid h0.fault
  have HK : Hid (Kept w (w.alloc (.cells #[.string p.s, .int .i64 p.src, .int .u32 (p.dest : Int), .bool p.hurt] 69)) B ob) := Lib.hid (Kept.of_below ((Below.refl _ _).alloc (Nat.le_refl _) _))
  clear h0
  rw [hl] at c0
  unfold PieceS.agg
  go_enter Try.func111, Try.ntmps111
  go_wp2_with fail
  go_ret
  exact ⟨rfl, BusTo.trans HK.out (Near.refl _ _) HF.out⟩
set_option maxRecDepth 100000 in
set_option maxHeartbeats 1000000 in
theorem badd_room (S B : Nat) (ob : Option Nat) (l : List PieceS) (f : Bool) (p : PieceS) (w : World) (h : Bus 147 w S B ob l f) (hl : l.length < 64) :
    Calls Try.prog 111 #[.pointer (some ⟨B, 0, none⟩), p.agg] w fun e w' => e = .returned (.int .i64 0) ∧ BusTo 147 w w' S B ob (l ++ [p]) f := by
  have hX := Blk.new w #[.string p.s, .int .i64 p.src, .int .u32 (p.dest : Int), .bool p.hurt] 69
  have hK : Kept w (w.alloc (.cells #[.string p.s, .int .i64 p.src, .int .u32 (p.dest : Int), .bool p.hurt] 69)) B ob := Kept.of_below ((Below.refl _ _).alloc (Nat.le_refl _) _)
  have h0 := h.alloc (.cells #[.string p.s, .int .i64 p.src, .int .u32 (p.dest : Int), .bool p.hurt] 69)
  have hne := h0.ne
  have hBS := h0.base
  have hrow := h.row
  obtain ⟨v, hb, ho, rfl⟩ := h0.has
  have hBl := hb.lt
  obtain ⟨A, cap, rfl⟩ := own_shape ho
  have c0 := hb.cell (j := 0) (v := .slice A l.length cap) rfl
  have f0 := hb.free 0
  have x0 := hX.cell (j := 0) (v := .string p.s) rfl
  have x1 := hX.cell (j := 1) (v := .int .i64 p.src) rfl
  have x2 := hX.cell (j := 2) (v := .int .u32 (p.dest : Int)) rfl
  have x3 := hX.cell (j := 3) (v := .bool p.hurt) rfl
  have hXl := hX.lt
  have hXn : (Value.slice A l.length cap).ownBlock ≠ some w.heap.size := fun e => by have := (hrow _ e).2; omega
  obtain ⟨i0, hi, hz0, hz1, hz2⟩ := info_parts info69
  have hne2 : Hid ((Value.slice A l.length cap).ownBlock ≠ some B) := Lib.hid hne
  have hXn2 := Lib.hid hXn
  have HK := Lib.hid hK
  have HO := Lib.hid ho
  have HB := Lib.hid hb
  have HI := Lib.hid (show i0 = i0 from rfl)
  have hl1 : (l.length : Int) < 64 := by omega
  have hl2 : ¬ (l.length : Int) = 64 := by omega
  have hl3 : ((l.length : Int) == 64) = false := by simpa using hl2
  have hpl : (pcs l ++ p.cells) = pcs (l ++ [p]) := by rw [pcs_append]; simp [pcs]
  have HP := Lib.hid hpl
  have hw0 : (w.alloc (.cells #[.string p.s, .int .i64 p.src, .int .u32 (p.dest : Int), .bool p.hurt] 69)).heap.size = w.heap.size + 1 := World.size_alloc _ _
  have HW := Lib.hid hw0
  clear hne hXn hK ho hb h0 hX hrow hl2 hpl
  unfold PieceS.agg
  go_enter Try.func111, Try.ntmps111
  go_wp2_with fail
  clear hw0
  generalize w.alloc (.cells #[.string p.s, .int .i64 p.src, .int .u32 (p.dest : Int), .bool p.hurt] 69) = w0 at *
  go_region_law
    ((refine step_append_lies _ (by rfl) _ _ _ (by rfl) S 69 i0 _ 4 32 Try.underlying83 hi hz0 hz1 hz2 rfl (by omega) _ l.length (pcs l) (by rfl) ((HO.out.alloc _).drew)
        ⟨w0.heap.size, 0, none⟩ 1 1 p.cells (by rfl) (by rfl) (World.news_of_block (cs := #[.string p.s, .int .i64 p.src, .int .u32 (p.dest : Int), .bool p.hurt]) (t := 69) (fr := (0, 0)) (heap_alloc_new w0 _)) (PieceS.cells_one p)
        (by omega) (by unfold maxLen; omega) (by omega) (by simp; omega) (w0.heap.size + 1) (by simp) ?_; intro gg cap' w1 hown1 hgrow hat hlt; have d0 : w1.cell? ⟨B, 0, none⟩ = some (.slice A l.length cap) := (hgrow.cell_far _ (by first | (simp; done) | (simp; omega)) (Ne.symm hne2.out)).trans ((World.cell?_alloc_past _ B 0 hBl).trans c0); have d1 : w1.frozen? ⟨B, 0, none⟩ = false := (hgrow.frozen_far _ (by first | (simp; done) | (simp; omega)) (Ne.symm hne2.out)).trans ((World.frozen?_alloc_past _ B 0 hBl).trans f0)))
  all_goals
    have hg2 := World.grownBy.trans (grown_drew (World.grownBy_alloc w0 (.cells #[.string p.s, .int .i64 p.src, .int .u32 (p.dest : Int), .bool p.hurt] 69) (Value.slice A l.length cap).ownBlock)) hgrow
    have ho2 : w1.ownsRow S 69 4 (.slice (some ⟨gg, 0, none⟩) (l.length + 1) cap') (l ++ [p]).length (pcs (l ++ [p])) := by
      rw [← HP.out, List.length_append]
      exact hown1
    have HF := Lib.hid (BusTo.trans HK.out (Near.refl _ _) (bus_store HB.out hne2.out hBS hg2 ho2 (by
      rcases hat with e | e
      · exact .inl e.symm
      · exact .inr ⟨gg, rfl, by omega⟩)))
    clear d0 d1 hown1 hgrow hat hlt hg2 ho2
    go_wp2_with fail
    go_ret
    exact ⟨rfl, HF.out⟩

set_option maxRecDepth 100000 in
theorem radd_full (S B : Nat) (ob : Option Nat) (l : List PieceS) (f : Bool) (p : PieceS) (w : World) (h : Bus 85 w S B ob l f) (hl : l.length = 64) :
    Calls Try.prog 141 #[.pointer (some ⟨B, 0, none⟩), p.agg] w fun e w' => e = .returned (.int .i64 8) ∧ BusTo 85 w w' S B ob l true := by
  have h0 := h.alloc (.cells #[.string p.s, .int .i64 p.src, .int .u32 (p.dest : Int), .bool p.hurt] 69)
  obtain ⟨A, cap, c0, c1, f0, f1⟩ := h0.cells
  have hB := h0.lt
  have HF := Lib.hid h0.fault
  have HK : Hid (Kept w (w.alloc (.cells #[.string p.s, .int .i64 p.src, .int .u32 (p.dest : Int), .bool p.hurt] 69)) B ob) := Lib.hid (Kept.of_below ((Below.refl _ _).alloc (Nat.le_refl _) _))
  clear h0
  rw [hl] at c0
  unfold PieceS.agg
  go_enter Try.func141, Try.ntmps141
  go_wp2_with fail
  go_ret
  exact ⟨rfl, BusTo.trans HK.out (Near.refl _ _) HF.out⟩
set_option maxRecDepth 100000 in
set_option maxHeartbeats 1000000 in
theorem radd_room (S B : Nat) (ob : Option Nat) (l : List PieceS) (f : Bool) (p : PieceS) (w : World) (h : Bus 85 w S B ob l f) (hl : l.length < 64) :
    Calls Try.prog 141 #[.pointer (some ⟨B, 0, none⟩), p.agg] w fun e w' => e = .returned (.int .i64 0) ∧ BusTo 85 w w' S B ob (l ++ [p]) f := by
  have hX := Blk.new w #[.string p.s, .int .i64 p.src, .int .u32 (p.dest : Int), .bool p.hurt] 69
  have hK : Kept w (w.alloc (.cells #[.string p.s, .int .i64 p.src, .int .u32 (p.dest : Int), .bool p.hurt] 69)) B ob := Kept.of_below ((Below.refl _ _).alloc (Nat.le_refl _) _)
  have h0 := h.alloc (.cells #[.string p.s, .int .i64 p.src, .int .u32 (p.dest : Int), .bool p.hurt] 69)
  have hne := h0.ne
  have hBS := h0.base
  have hrow := h.row
  obtain ⟨v, hb, ho, rfl⟩ := h0.has
  have hBl := hb.lt
  obtain ⟨A, cap, rfl⟩ := own_shape ho
  have c0 := hb.cell (j := 0) (v := .slice A l.length cap) rfl
  have f0 := hb.free 0
  have x0 := hX.cell (j := 0) (v := .string p.s) rfl
  have x1 := hX.cell (j := 1) (v := .int .i64 p.src) rfl
  have x2 := hX.cell (j := 2) (v := .int .u32 (p.dest : Int)) rfl
  have x3 := hX.cell (j := 3) (v := .bool p.hurt) rfl
  have hXl := hX.lt
  have hXn : (Value.slice A l.length cap).ownBlock ≠ some w.heap.size := fun e => by have := (hrow _ e).2; omega
  obtain ⟨i0, hi, hz0, hz1, hz2⟩ := info_parts info69
  have hne2 : Hid ((Value.slice A l.length cap).ownBlock ≠ some B) := Lib.hid hne
  have hXn2 := Lib.hid hXn
  have HK := Lib.hid hK
  have HO := Lib.hid ho
  have HB := Lib.hid hb
  have HI := Lib.hid (show i0 = i0 from rfl)
  have hl1 : (l.length : Int) < 64 := by omega
  have hl2 : ¬ (l.length : Int) = 64 := by omega
  have hl3 : ((l.length : Int) == 64) = false := by simpa using hl2
  have hpl : (pcs l ++ p.cells) = pcs (l ++ [p]) := by rw [pcs_append]; simp [pcs]
  have HP := Lib.hid hpl
  have hw0 : (w.alloc (.cells #[.string p.s, .int .i64 p.src, .int .u32 (p.dest : Int), .bool p.hurt] 69)).heap.size = w.heap.size + 1 := World.size_alloc _ _
  have HW := Lib.hid hw0
  clear hne hXn hK ho hb h0 hX hrow hl2 hpl
  unfold PieceS.agg
  go_enter Try.func141, Try.ntmps141
  go_wp2_with fail
  clear hw0
  generalize w.alloc (.cells #[.string p.s, .int .i64 p.src, .int .u32 (p.dest : Int), .bool p.hurt] 69) = w0 at *
  go_region_law
    ((refine step_append_lies _ (by rfl) _ _ _ (by rfl) S 69 i0 _ 4 32 Try.underlying83 hi hz0 hz1 hz2 rfl (by omega) _ l.length (pcs l) (by rfl) ((HO.out.alloc _).drew)
        ⟨w0.heap.size, 0, none⟩ 1 1 p.cells (by rfl) (by rfl) (World.news_of_block (cs := #[.string p.s, .int .i64 p.src, .int .u32 (p.dest : Int), .bool p.hurt]) (t := 69) (fr := (0, 0)) (heap_alloc_new w0 _)) (PieceS.cells_one p)
        (by omega) (by unfold maxLen; omega) (by omega) (by simp; omega) (w0.heap.size + 1) (by simp) ?_; intro gg cap' w1 hown1 hgrow hat hlt; have d0 : w1.cell? ⟨B, 0, none⟩ = some (.slice A l.length cap) := (hgrow.cell_far _ (by first | (simp; done) | (simp; omega)) (Ne.symm hne2.out)).trans ((World.cell?_alloc_past _ B 0 hBl).trans c0); have d1 : w1.frozen? ⟨B, 0, none⟩ = false := (hgrow.frozen_far _ (by first | (simp; done) | (simp; omega)) (Ne.symm hne2.out)).trans ((World.frozen?_alloc_past _ B 0 hBl).trans f0)))
  all_goals
    have hg2 := World.grownBy.trans (grown_drew (World.grownBy_alloc w0 (.cells #[.string p.s, .int .i64 p.src, .int .u32 (p.dest : Int), .bool p.hurt] 69) (Value.slice A l.length cap).ownBlock)) hgrow
    have ho2 : w1.ownsRow S 69 4 (.slice (some ⟨gg, 0, none⟩) (l.length + 1) cap') (l ++ [p]).length (pcs (l ++ [p])) := by
      rw [← HP.out, List.length_append]
      exact hown1
    have HF := Lib.hid (BusTo.trans HK.out (Near.refl _ _) (bus_store HB.out hne2.out hBS hg2 ho2 (by
      rcases hat with e | e
      · exact .inl e.symm
      · exact .inr ⟨gg, rfl, by omega⟩)))
    clear d0 d1 hown1 hgrow hat hlt hg2 ho2
    go_wp2_with fail
    go_ret
    exact ⟨rfl, HF.out⟩
end Go.Proofs.Ytdhfkcodacmbfaa
