/- The imports that all texts share, and small words for contracts. -/
import Derived.Test.YtdhfkcodacmbfaaProg
import Derived.WalkKit
import Derived.WalkLawsBesides
import Derived.WalkSpells
import Derived.Outline
import Derived.Below
import Derived.Deep.QuietTactic
import Derived.BigQuiet
import Derived.Deep.LoopGhost
import Derived.Deep.OwnRows
import Derived.Deep.Draws
import Derived.Deep.RegionWith
import Derived.Laws.BytesArg
import Derived.Lib.ConvBytes
import Derived.Laws.Rows
import Derived.KernelRfl
import Derived.RowKit
import Derived.IntWalk
import Derived.Laws.CopyOwn
import Derived.Laws.OwnMore
import Derived.Deep.RegionLaw
import Derived.Deep.DeepFit
import Derived.Deep.Cut
import Derived.Laws.BitsLemmas
import Derived.ArgAppend
import Derived.Lib.AppendStr
import Derived.Lib.Hide
import Derived.BigRegion
import Derived.ChangeAlike
import Derived.RegionTactic

namespace Go.Proofs.Ytdhfkcodacmbfaa
open Go.RowKit

theorem ret_int {k : IntKind} {a b : Int} (h : a = b) : Ending.returned (.int k a) = .returned (.int k b) := by rw [h]
theorem val_int {k : IntKind} {a b : Int} (h : a = b) : Value.int k a = .int k b := by rw [h]

/-- Block B begins with n cells, none frozen, cell j holding 'f j'. -/
structure Row (w : World) (B n : Nat) (f : Nat → Value) : Prop where
  cell : ∀ j, j < n → w.cell? ⟨B, j, none⟩ = some (f j)
  free : ∀ j, j < n → w.frozen? ⟨B, j, none⟩ = false
theorem Row.congr {w : World} {B n : Nat} {f g : Nat → Value} (h : Row w B n f) (e : ∀ j, j < n → f j = g j) : Row w B n g :=
  ⟨fun j hj => by rw [h.cell j hj, e j hj], h.free⟩
theorem Row.drew {w : World} {B n : Nat} {f : Nat → Value} (h : Row w B n f) : Row w.drew B n f := ⟨h.cell, h.free⟩
theorem Row.drewN {w : World} {B n : Nat} {f : Nat → Value} (h : Row w B n f) (m : Nat) : Row (w.drewN m) B n f := ⟨h.cell, h.free⟩
theorem Row.lt {w : World} {B n : Nat} {f : Nat → Value} (h : Row w B n f) (hn : 0 < n) : B < w.heap.size := World.block_lt_of_cell? w _ (h.cell 0 hn)
theorem Row.below {w w' : World} {B n S : Nat} {f : Nat → Value} (h : Row w B n f) (hb : Below S w w') (hB : B < S) : Row w' B n f :=
  ⟨fun j hj => (hb.cell (p := ⟨B, j, none⟩) hB).trans (h.cell j hj), fun j hj => (hb.frozen (p := ⟨B, j, none⟩) hB).trans (h.free j hj)⟩
theorem Row.set {w : World} {B n : Nat} {f : Nat → Value} (h : Row w B n f) (k : Nat) (v : Value) (hk : k < n) :
    Row (w.setCell ⟨B, k, none⟩ v) B n (fun j => if j = k then v else f j) :=
  ⟨fun j hj => by
    by_cases e : j = k
    · subst e
      rw [World.cell?_setCell_same _ _ _ (h.cell j hj), if_pos rfl]
    · rw [World.cell?_setCell_other _ _ _ _ (fun q => e (congrArg Addr.off q).symm), h.cell j hj, if_neg e],
   fun j hj => by rw [World.frozen?_setCell, h.free j hj]⟩
theorem Row.setOther {w : World} {B n : Nat} {f : Nat → Value} (h : Row w B n f) (a : Addr) (v : Value) (ha : a.block ≠ B) : Row (w.setCell a v) B n f :=
  ⟨fun j hj => by rw [World.cell?_setCell_other _ _ _ _ (by intro e; apply ha; rw [e]), h.cell j hj], fun j hj => by rw [World.frozen?_setCell, h.free j hj]⟩
theorem below_drewN {B : Nat} {a w : World} (h : Below B a w) (n : Nat) : Below B a (w.drewN n) := ⟨h.os, h.tape, h.output, h.size, h.block⟩
theorem below_lift {B : Nat} {a b c : World} (h : Below B a b) (k : Below b.heap.size b c) (hB : B ≤ b.heap.size) : Below B a c := h.trans (k.mono hB)

theorem below_then {w a b : World} (h : Below w.heap.size w a) (k : Below a.heap.size a b) : Below w.heap.size w b := below_lift h k h.size

/-- What '[]byte(s)' lays. -/
theorem bytes_row (w : World) (e : TypeId) (s : ByteArray) : Row (Lib.bytesWorld w e s) w.heap.size s.size (fun j => .int .u8 (s.data.toList.getD j 0).toNat) :=
  ⟨fun j hj => Lib.bytesWorld_cell w e s j hj, fun j hj => by
    simp only [World.frozen?, Lib.bytesWorld_at_new]
    have : (Lib.bytesCells w e s).size ≥ s.size := by simp [Lib.bytesCells]; 
    simp; omega⟩
theorem bytes_below (w : World) (e : TypeId) (s : ByteArray) : Below w.heap.size w (Lib.bytesWorld w e s) :=
  ⟨rfl, rfl, rfl, by rw [Lib.bytesWorld_size]; omega, fun k hk => Lib.bytesWorld_at_old w e s k hk⟩
theorem row_string {P : Program} {w : World} {B n : Nat} {f : Nat → Int} (h : Row w B n (fun j => .int .u8 (f j))) (src dst e : TypeId) (hs : P.underlying src = some (.slice e)) (he : P.underlying e = some (.int .u8)) (hd : P.underlying dst = some .string) (cap : Nat) :
    (convert src dst (.slice (some ⟨B, 0, none⟩) n cap)).run P w = .ok (.string (strOfNums ((List.range n).map f))) w :=
  run_convert_bytes_arg w src e hs he B 0 n cap _ (by simp) (fun i hi => by
    rw [Nat.zero_add, h.cell i hi]
    simp [hi, List.getD_eq_getElem?_getD]) dst hd
end Go.Proofs.Ytdhfkcodacmbfaa
