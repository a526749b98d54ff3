/- The medium (bus): the walks of the program's operations on a piece. -/
import Derived.Test.YtdhfkcodacmbfaaBusC
import Derived.Test.YtdhfkcodacmbfaaIecB
set_option linter.unusedVariables false
set_option linter.unusedSimpArgs false
namespace Go.Proofs.Ytdhfkcodacmbfaa
open Go.RowKit

def atS (l : List PieceS) (k : Int) : Option PieceS := if 0 ≤ k then l[k.toNat]? else none
theorem atS_some {l : List PieceS} {k : Int} {p : PieceS} (h : atS l k = some p) : ∃ n : Nat, k = n ∧ n < l.length ∧ l[n]? = some p := by
  unfold atS at h
  split at h
  · exact ⟨k.toNat, by omega, (List.getElem?_eq_some_iff.1 h).1, h⟩
  · cases h
theorem atS_none {l : List PieceS} {k : Int} (h : atS l k = none) : k < 0 ∨ (l.length : Int) ≤ k := by
  unfold atS at h
  split at h
  · rw [List.getElem?_eq_none_iff] at h
    omega
  · omega
theorem atS_nat (l : List PieceS) (n : Nat) : atS l (n : Int) = l[n]? := by unfold atS; rw [if_pos (by omega)]; rfl
def pz : Array Value := #[.string ⟨#[]⟩, .int .i64 0, .int .u32 0, .bool false]
theorem info69' : (Try.prog.info? 69).map (·.size) = some 4 := by kernel_rfl
set_option maxRecDepth 100000 in
theorem bpiece_no (S B : Nat) (ob : Option Nat) (l : List PieceS) (f : Bool) (k : Int) (w : World) (h : Bus 147 w S B ob l f) (hk : atS l k = none) :
    Calls Try.prog 61 #[.pointer (some ⟨B, 0, none⟩), .int .i64 k] w fun e w' => e = .returned (.tuple #[.agg pz, .bool false]) ∧ Below w.heap.size w w' := by
  have HA := Lib.hid (bat_no S B ob l f k _ (h.alloc (.cells pz 69)) (atS_none hk))
  have hZ := Blk.new w pz 69
  have hb := (Below.refl w.heap.size w).alloc (Nat.le_refl _) (.cells pz 69)
  clear h hk
  unfold pz at *
  have f0 := hZ.free 0
  have f1 := hZ.free 1
  have f2 := hZ.free 2
  have f3 := hZ.free 3
  have c0 := hZ.cell (j := 0) (v := .string ⟨#[]⟩) rfl
  have c1 := hZ.cell (j := 1) (v := .int .i64 0) rfl
  have c2 := hZ.cell (j := 2) (v := .int .u32 0) rfl
  have c3 := hZ.cell (j := 3) (v := .bool false) rfl
  go_enter Try.func61, Try.ntmps61
  go_wp2_with fail
  generalize w.alloc (.cells #[.string ⟨#[]⟩, .int .i64 0, .int .u32 0, .bool false] 69) = w0 at *
  refine (HA.out).mono ?_
  rintro e w1 ⟨rfl, rfl⟩
  go_wp2_with fail
  have C := (((hZ.setCell 0 (.string ⟨#[]⟩)).setCell 1 (.int .i64 0)).setCell 2 (.int .u32 0)).setCell 3 (.bool false)
  refine bodyPost_ret (results_cell_tmp (fn := Try.f61) (p := 4) (u := 5) (ty := 69) rfl _ _ w.heap.size 69 #[.string ⟨#[]⟩, .int .i64 0, .int .u32 0, .bool false] (0, 0) _ rfl C.at_ Try.underlying69 info69') rfl ?_
  exact ⟨rfl, (((hb.setCell (Nat.le_refl _) _).setCell (Nat.le_refl _) _).setCell (Nat.le_refl _) _).setCell (Nat.le_refl _) _⟩
set_option maxRecDepth 100000 in
theorem bpiece_yes (S B : Nat) (ob : Option Nat) (l : List PieceS) (f : Bool) (k : Int) (p : PieceS) (w : World) (h : Bus 147 w S B ob l f) (hk : atS l k = some p) (hl : l.length ≤ 64) :
    Calls Try.prog 61 #[.pointer (some ⟨B, 0, none⟩), .int .i64 k] w fun e w' => e = .returned (.tuple #[p.agg, .bool true]) ∧ Below w.heap.size w w' := by
  obtain ⟨n, rfl, hn, hp⟩ := atS_some hk
  have h0 := h.alloc (.cells pz 69)
  obtain ⟨g, cap, rfl, C, ho⟩ := h0.some_ (by omega)
  have P := piece_cells ho hp
  have HA := Lib.hid (bat_yes S B g l f n _ h0 hn (by omega))
  have hZ := Blk.new w pz 69
  have hb := (Below.refl w.heap.size w).alloc (Nat.le_refl _) (.cells pz 69)
  have hg := (h.row g rfl).2
  have hne : g ≠ w.heap.size := by omega
  have hne' : w.heap.size ≠ g := by omega
  obtain ⟨p0, p1, p2, p3, _, _, _, _⟩ := P
  clear h h0 hk C ho
  unfold pz at *
  unfold PieceS.agg
  have f0 := hZ.free 0
  have f1 := hZ.free 1
  have f2 := hZ.free 2
  have f3 := hZ.free 3
  have c0 := hZ.cell (j := 0) (v := .string ⟨#[]⟩) rfl
  have c1 := hZ.cell (j := 1) (v := .int .i64 0) rfl
  have c2 := hZ.cell (j := 2) (v := .int .u32 0) rfl
  have c3 := hZ.cell (j := 3) (v := .bool false) rfl
  go_enter Try.func61, Try.ntmps61
  go_wp2_with fail
  generalize w.alloc (.cells #[.string ⟨#[]⟩, .int .i64 0, .int .u32 0, .bool false] 69) = w0 at *
  refine (HA.out).mono ?_
  rintro e w1 ⟨rfl, rfl⟩
  go_wp2_with fail
  have C := (((hZ.setCell 0 (.string p.s)).setCell 1 (.int .i64 p.src)).setCell 2 (.int .u32 (p.dest : Int))).setCell 3 (.bool p.hurt)
  refine bodyPost_ret (results_cell_tmp (fn := Try.f61) (p := 4) (u := 5) (ty := 69) rfl _ _ w.heap.size 69 #[.string p.s, .int .i64 p.src, .int .u32 (p.dest : Int), .bool p.hurt] (0, 0) _ rfl C.at_ Try.underlying69 info69') rfl ?_
  exact ⟨rfl, (((hb.setCell (Nat.le_refl _) _).setCell (Nat.le_refl _) _).setCell (Nat.le_refl _) _).setCell (Nat.le_refl _) _⟩
set_option maxRecDepth 100000 in
theorem bwhole_no (S B : Nat) (ob : Option Nat) (l : List PieceS) (f : Bool) (k : Int) (w : World) (h : Bus 147 w S B ob l f) (hk : atS l k = none) :
    Calls Try.prog 115 #[.pointer (some ⟨B, 0, none⟩), .int .i64 k] w fun e w' => e = .returned (.tuple #[.pointer none, .int .i64 1]) ∧ w' = w := by
  have HA := Lib.hid (bat_no S B ob l f k _ h (atS_none hk))
  clear h hk
  go_enter Try.func115, Try.ntmps115
  go_wp2_with fail
  refine (HA.out).mono ?_
  rintro e w1 ⟨rfl, rfl⟩
  go_wp2_with fail
  go_ret2
  exact ⟨rfl, rfl⟩
set_option maxRecDepth 100000 in
theorem bwhole_hurt (S B : Nat) (ob : Option Nat) (l : List PieceS) (f : Bool) (k : Int) (p : PieceS) (w : World) (h : Bus 147 w S B ob l f) (hk : atS l k = some p) (hh : p.hurt = true) (hl : l.length ≤ 64) :
    Calls Try.prog 115 #[.pointer (some ⟨B, 0, none⟩), .int .i64 k] w fun e w' => e = .returned (.tuple #[.pointer none, .int .i64 11]) ∧ w' = w := by
  obtain ⟨n, rfl, hn, hp⟩ := atS_some hk
  obtain ⟨g, cap, rfl, C, ho⟩ := h.some_ (by omega)
  have P := piece_cells ho hp
  have HA := Lib.hid (bat_yes S B g l f n _ h hn (by omega))
  have p3 := P.c3
  rw [hh] at p3
  clear h hk C ho P hh
  go_enter Try.func115, Try.ntmps115
  go_wp2_with fail
  refine (HA.out).mono ?_
  rintro e w1 ⟨rfl, rfl⟩
  go_wp2_with fail
  go_ret2
  exact ⟨rfl, rfl⟩
set_option maxRecDepth 100000 in
theorem bwhole_yes (S B g n : Nat) (l : List PieceS) (f : Bool) (p : PieceS) (w : World) (h : Bus 147 w S B (some g) l f) (hp : l[n]? = some p) (hh : p.hurt = false) (hl : l.length ≤ 64) :
    Calls Try.prog 115 #[.pointer (some ⟨B, 0, none⟩), .int .i64 (n : Int)] w fun e w' => e = .returned (.tuple #[.pointer (some ⟨g, n * 4, none⟩), .int .i64 0]) ∧ w' = w := by
  have hn := (List.getElem?_eq_some_iff.1 hp).1
  obtain ⟨g', cap, e, C, ho⟩ := h.some_ (by omega)
  have : g = g' := by injection e
  subst this
  have P := piece_cells ho hp
  have HA := Lib.hid (bat_yes S B g l f n _ h hn (by omega))
  have p3 := P.c3
  rw [hh] at p3
  clear h C ho P hh e
  go_enter Try.func115, Try.ntmps115
  go_wp2_with fail
  refine (HA.out).mono ?_
  rintro e w1 ⟨rfl, rfl⟩
  go_wp2_with fail
  go_ret2
  exact ⟨rfl, rfl⟩
/-- A piece with other bytes. -/
def hurtS (p : PieceS) (s : ByteArray) : PieceS := ⟨s, p.src, p.dest, !(p.s.toList == s.toList)⟩
set_option maxRecDepth 100000 in
theorem bhurt_any (S B g n : Nat) (l : List PieceS) (f : Bool) (p : PieceS) (s : ByteArray) (w : World) (h : Bus 147 w S B (some g) l f) (hp : l[n]? = some p) (hl : l.length ≤ 64) :
    Calls Try.prog 116 #[.pointer (some ⟨g, n * 4, none⟩), .string s] w fun e w' => e = .returned (.tuple #[]) ∧ BusTo 147 w w' S B (some g) (l.set n (hurtS p s)) f := by
  have hn := (List.getElem?_eq_some_iff.1 hp).1
  obtain ⟨g', cap, e, C, ho⟩ := h.some_ (by omega)
  have : g = g' := by injection e
  subst this
  have P := piece_cells ho hp
  obtain ⟨p0, p1, p2, p3, q0, q1, q2, q3⟩ := P
  obtain ⟨b1, k1⟩ := h.set (i := 3) (q := ⟨p.s, p.src, p.dest, !(p.s.toList == s.toList)⟩) (u := .bool (!(p.s.toList == s.toList))) hp (by omega) rfl
  have hp1 : (l.set n ⟨p.s, p.src, p.dest, !(p.s.toList == s.toList)⟩)[n]? = some ⟨p.s, p.src, p.dest, !(p.s.toList == s.toList)⟩ := by
    rw [List.getElem?_set_self hn]
  obtain ⟨b2, k2⟩ := b1.set (i := 0) (q := hurtS p s) (u := .string s) hp1 (by omega) rfl
  rw [List.set_set] at b2
  have HF : Hid (BusTo 147 w ((w.setCell ⟨g, n * 4 + 3, none⟩ (.bool (!(p.s.toList == s.toList)))).setCell ⟨g, n * 4 + 0, none⟩ (.string s)) S B (some g) (l.set n (hurtS p s)) f) :=
    ⟨⟨some g, b2, Near.refl _ _⟩, k1.trans (Near.refl _ _) k2⟩
  clear h C ho e b1 k1 b2 k2 hp1 hp hn
  go_enter Try.func116, Try.ntmps116
  go_wp2_with fail
  go_end0
  exact ⟨rfl, HF.out⟩
end Go.Proofs.Ytdhfkcodacmbfaa
