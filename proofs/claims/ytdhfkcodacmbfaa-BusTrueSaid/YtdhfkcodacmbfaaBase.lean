/- The imports that all texts share, and small words for contracts. -/
import Derived.Test.YtdhfkcodacmbfaaProg
import Derived.WalkKit
import Derived.WalkLawsBesides
import Derived.WalkSpells
import Derived.Outline
import Derived.Below
import Derived.Deep.QuietTactic
import Derived.BigQuiet
import Derived.Deep.LoopGhost
import Derived.Deep.OwnRows
import Derived.Deep.Draws
import Derived.Deep.RegionWith
import Derived.Laws.BytesArg
import Derived.Lib.ConvBytes
import Derived.Laws.Rows
import Derived.KernelRfl
import Derived.RowKit
import Derived.IntWalk
import Derived.Laws.CopyOwn
import Derived.Laws.OwnMore
import Derived.Deep.RegionLaw
import Derived.Deep.DeepFit
import Derived.Deep.Cut
import Derived.Laws.BitsLemmas
import Derived.ArgAppend
import Derived.Lib.AppendStr
import Derived.Lib.Hide
import Derived.BigRegion
import Derived.Deep.WholeRow
import Derived.ChangeAlike
import Derived.RegionTactic

set_option linter.unusedVariables false
set_option linter.unusedSimpArgs false
namespace Go.Proofs.Ytdhfkcodacmbfaa
open Go.RowKit

theorem ret_int {k : IntKind} {a b : Int} (h : a = b) : Ending.returned (.int k a) = .returned (.int k b) := by rw [h]
theorem val_int {k : IntKind} {a b : Int} (h : a = b) : Value.int k a = .int k b := by rw [h]

/-- Block B begins with n cells, none frozen, cell j holding 'f j'. -/
structure Row (w : World) (B n : Nat) (f : Nat → Value) : Prop where
  cell : ∀ j, j < n → w.cell? ⟨B, j, none⟩ = some (f j)
  free : ∀ j, j < n → w.frozen? ⟨B, j, none⟩ = false
theorem Row.congr {w : World} {B n : Nat} {f g : Nat → Value} (h : Row w B n f) (e : ∀ j, j < n → f j = g j) : Row w B n g :=
  ⟨fun j hj => by rw [h.cell j hj, e j hj], h.free⟩
theorem Row.drew {w : World} {B n : Nat} {f : Nat → Value} (h : Row w B n f) : Row w.drew B n f := ⟨h.cell, h.free⟩
theorem Row.drewN {w : World} {B n : Nat} {f : Nat → Value} (h : Row w B n f) (m : Nat) : Row (w.drewN m) B n f := ⟨h.cell, h.free⟩
theorem Row.lt {w : World} {B n : Nat} {f : Nat → Value} (h : Row w B n f) (hn : 0 < n) : B < w.heap.size := World.block_lt_of_cell? w _ (h.cell 0 hn)
theorem Row.below {w w' : World} {B n S : Nat} {f : Nat → Value} (h : Row w B n f) (hb : Below S w w') (hB : B < S) : Row w' B n f :=
  ⟨fun j hj => (hb.cell (p := ⟨B, j, none⟩) hB).trans (h.cell j hj), fun j hj => (hb.frozen (p := ⟨B, j, none⟩) hB).trans (h.free j hj)⟩
theorem Row.set {w : World} {B n : Nat} {f : Nat → Value} (h : Row w B n f) (k : Nat) (v : Value) (hk : k < n) :
    Row (w.setCell ⟨B, k, none⟩ v) B n (fun j => if j = k then v else f j) :=
  ⟨fun j hj => by
    by_cases e : j = k
    · subst e
      rw [World.cell?_setCell_same _ _ _ (h.cell j hj), if_pos rfl]
    · rw [World.cell?_setCell_other _ _ _ _ (fun q => e (congrArg Addr.off q).symm), h.cell j hj, if_neg e],
   fun j hj => by rw [World.frozen?_setCell, h.free j hj]⟩
theorem Row.setOther {w : World} {B n : Nat} {f : Nat → Value} (h : Row w B n f) (a : Addr) (v : Value) (ha : a.block ≠ B) : Row (w.setCell a v) B n f :=
  ⟨fun j hj => by rw [World.cell?_setCell_other _ _ _ _ (by intro e; apply ha; rw [e]), h.cell j hj], fun j hj => by rw [World.frozen?_setCell, h.free j hj]⟩
theorem below_drewN {B : Nat} {a w : World} (h : Below B a w) (n : Nat) : Below B a (w.drewN n) := ⟨h.os, h.tape, h.output, h.size, h.block⟩
theorem below_lift {B : Nat} {a b c : World} (h : Below B a b) (k : Below b.heap.size b c) (hB : B ≤ b.heap.size) : Below B a c := h.trans (k.mono hB)

theorem below_then {w a b : World} (h : Below w.heap.size w a) (k : Below a.heap.size a b) : Below w.heap.size w b := below_lift h k h.size

/-- What '[]byte(s)' lays. -/
theorem bytes_row (w : World) (e : TypeId) (s : ByteArray) : Row (Lib.bytesWorld w e s) w.heap.size s.size (fun j => .int .u8 (s.data.toList.getD j 0).toNat) :=
  ⟨fun j hj => Lib.bytesWorld_cell w e s j hj, fun j hj => by
    simp only [World.frozen?, Lib.bytesWorld_at_new]
    have : (Lib.bytesCells w e s).size ≥ s.size := by simp [Lib.bytesCells]; 
    simp; omega⟩
theorem bytes_below (w : World) (e : TypeId) (s : ByteArray) : Below w.heap.size w (Lib.bytesWorld w e s) :=
  ⟨rfl, rfl, rfl, by rw [Lib.bytesWorld_size]; omega, fun k hk => Lib.bytesWorld_at_old w e s k hk⟩
theorem row_string {P : Program} {w : World} {B n : Nat} {f : Nat → Int} (h : Row w B n (fun j => .int .u8 (f j))) (src dst e : TypeId) (hs : P.underlying src = some (.slice e)) (he : P.underlying e = some (.int .u8)) (hd : P.underlying dst = some .string) (cap : Nat) :
    (convert src dst (.slice (some ⟨B, 0, none⟩) n cap)).run P w = .ok (.string (strOfNums ((List.range n).map f))) w :=
  run_convert_bytes_arg w src e hs he B 0 n cap _ (by simp) (fun i hi => by
    rw [Nat.zero_add, h.cell i hi]
    simp [hi, List.getD_eq_getElem?_getD]) dst hd

/-- Block B is known whole: its cells, its type, no mark. -/
structure Blk (w : World) (B : Nat) (cs : Array Value) (t : TypeId) : Prop where
  at_ : w.heap[B]? = some (.cells cs t (0, 0))
theorem Blk.cell {w : World} {B : Nat} {cs : Array Value} {t : TypeId} (h : Blk w B cs t) {j : Nat} {v : Value} (hv : cs[j]? = some v) : w.cell? ⟨B, j, none⟩ = some v := by rw [cell_of_row w B j cs t _ h.at_, hv]
theorem Blk.free {w : World} {B : Nat} {cs : Array Value} {t : TypeId} (h : Blk w B cs t) (j : Nat) : w.frozen? ⟨B, j, none⟩ = false := by simp [World.frozen?, h.at_]
theorem Blk.lt {w : World} {B : Nat} {cs : Array Value} {t : TypeId} (h : Blk w B cs t) : B < w.heap.size := (Array.getElem?_eq_some_iff.1 h.at_).1
theorem Blk.drew {w : World} {B : Nat} {cs : Array Value} {t : TypeId} (h : Blk w B cs t) : Blk w.drew B cs t := ⟨h.at_⟩
theorem Blk.drewN {w : World} {B : Nat} {cs : Array Value} {t : TypeId} (h : Blk w B cs t) (n : Nat) : Blk (w.drewN n) B cs t := ⟨h.at_⟩
theorem Blk.below {w w' : World} {B S : Nat} {cs : Array Value} {t : TypeId} (h : Blk w B cs t) (hb : Below S w w') (hB : B < S) : Blk w' B cs t := ⟨(hb.block B hB).trans h.at_⟩
theorem Blk.keep {w w' : World} {B : Nat} {cs : Array Value} {t : TypeId} (h : Blk w B cs t) (hb : Below w.heap.size w w') : Blk w' B cs t := h.below hb h.lt
theorem Blk.alloc {w : World} {B : Nat} {cs : Array Value} {t : TypeId} (h : Blk w B cs t) (o : Obj) : Blk (w.alloc o) B cs t := ⟨(Below.heap_alloc w o B h.lt).trans h.at_⟩
theorem Blk.new (w : World) (cs : Array Value) (t : TypeId) : Blk (w.alloc (.cells cs t)) w.heap.size cs t := ⟨heap_alloc_last w _⟩
theorem Blk.setCell {w : World} {B : Nat} {cs : Array Value} {t : TypeId} (h : Blk w B cs t) (k : Nat) (v : Value) : Blk (w.setCell ⟨B, k, none⟩ v) B (cs.setIfInBounds k v) t := ⟨by
  simp [World.setCell, Array.getElem?_modify, h.at_]⟩
theorem Blk.setOther {w : World} {B : Nat} {cs : Array Value} {t : TypeId} (h : Blk w B cs t) (a : Addr) (v : Value) (ha : B ≠ a.block) : Blk (w.setCell a v) B cs t := ⟨(Below.heap_setCell w a v B ha).trans h.at_⟩
theorem Blk.setRow {w : World} {B : Nat} {cs : Array Value} {t : TypeId} (h : Blk w B cs t) (c' : Array Value) : Blk (w.setRow B c') B c' t := ⟨by
  simp [World.setRow, Array.getElem?_modify, h.at_]⟩
theorem setRow_other (w : World) (B k : Nat) (c' : Array Value) (h : k ≠ B) : (w.setRow B c').heap[k]? = w.heap[k]? := by
  have h' : ¬ B = k := fun e => h e.symm
  simp [World.setRow, Array.getElem?_modify, h']
theorem Blk.setRowOther {w : World} {B : Nat} {cs : Array Value} {t : TypeId} (h : Blk w B cs t) (C : Nat) (c' : Array Value) (hC : B ≠ C) : Blk (w.setRow C c') B cs t := ⟨(setRow_other w C B c' hC).trans h.at_⟩
theorem size_setRow (w : World) (B : Nat) (c : Array Value) : (w.setRow B c).heap.size = w.heap.size := by simp [World.setRow]
theorem below_setRow' {S : Nat} {a w : World} (h : Below S a w) {B : Nat} (hB : S ≤ B) (c : Array Value) : Below S a (w.setRow B c) :=
  ⟨h.os, h.tape, h.output, by rw [size_setRow]; exact h.size, fun k hk => (setRow_other w B k c (by omega)).trans (h.block k hk)⟩
end Go.Proofs.Ytdhfkcodacmbfaa
