/- The medium (bus): pieces in memory; the walks of the small functions. -/
import Derived.Test.YtdhfkcodacmbfaaMemC
set_option linter.unusedVariables false
set_option linter.unusedSimpArgs false
namespace Go.Proofs.Ytdhfkcodacmbfaa
open Go.RowKit

structure PieceS where
  s : ByteArray
  src : Int
  dest : Nat
  hurt : Bool
def PieceS.cells (p : PieceS) : List Value := [.string p.s, .int .i64 p.src, .int .u32 (p.dest : Int), .bool p.hurt]
def PieceS.agg (p : PieceS) : Value := .agg #[.string p.s, .int .i64 p.src, .int .u32 (p.dest : Int), .bool p.hurt]
structure PieceS.ok (p : PieceS) : Prop where
  size : p.s.size ≤ 1000
  dest : p.dest < 4294967296
def pcs (l : List PieceS) : List Value := l.flatMap PieceS.cells
theorem pcs_length (l : List PieceS) : (pcs l).length = l.length * 4 := by
  induction l with
  | nil => rfl
  | cons p l ih => simp [pcs, PieceS.cells] at ih ⊢; omega
theorem pcs_append (l m : List PieceS) : pcs (l ++ m) = pcs l ++ pcs m := by simp [pcs]
theorem pcs_get (l : List PieceS) (k i : Nat) (p : PieceS) (hk : l[k]? = some p) (hi : i < 4) : (pcs l)[k * 4 + i]? = p.cells[i]? := by
  induction l generalizing k with
  | nil => cases hk
  | cons q l ih =>
    have hc : (pcs (q :: l)) = q.cells ++ pcs l := by simp [pcs]
    have h4 : q.cells.length = 4 := rfl
    rw [hc]
    cases k with
    | zero =>
      simp at hk
      subst hk
      rw [List.getElem?_append_left (by omega)]
      simp
    | succ k =>
      rw [List.getElem?_append_right (by omega), h4]
      have : (k + 1) * 4 + i - 4 = k * 4 + i := by omega
      rw [this]
      exact ih k (by simpa using hk)
theorem pcs_set (l : List PieceS) (k i : Nat) (p q : PieceS) (u : Value) (hk : l[k]? = some p) (hi : i < 4) (hq : q.cells = p.cells.set i u) : pcs (l.set k q) = (pcs l).set (k * 4 + i) u := by
  induction l generalizing k with
  | nil => cases hk
  | cons r l ih =>
    have hc : ∀ r l, (pcs (r :: l)) = r.cells ++ pcs l := by intro r l; simp [pcs]
    have h4 : r.cells.length = 4 := rfl
    cases k with
    | zero =>
      simp at hk
      subst hk
      show pcs (q :: l) = _
      rw [hc, hc, hq, List.set_append_left _ _ (by omega)]
      simp
    | succ k =>
      show pcs (r :: l.set k q) = _
      rw [hc, hc, List.set_append_right _ _ (by omega), h4]
      have : (k + 1) * 4 + i - 4 = k * 4 + i := by omega
      rw [this, ih k (by simpa using hk)]
/-- A bus in memory, its struct (of type T) in block B; ob: the block of its pieces. -/
structure Bus (T : TypeId) (w : World) (S B : Nat) (ob : Option Nat) (l : List PieceS) (f : Bool) : Prop where
  has : ∃ v, Blk w B #[v, .bool f] T ∧ w.ownsRow S 69 4 v l.length (pcs l) ∧ ob = v.ownBlock
  ne : ob ≠ some B
  base : S ≤ B
section
variable {T : TypeId} {w w' : World} {S B : Nat} {ob : Option Nat} {l : List PieceS} {f : Bool}
theorem Bus.lt (h : Bus T w S B ob l f) : B < w.heap.size := by
  obtain ⟨v, hb, _, _⟩ := h.has
  exact hb.lt
theorem Bus.row (h : Bus T w S B ob l f) (k : Nat) (e : ob = some k) : S ≤ k ∧ k < w.heap.size := by
  obtain ⟨v, _, ho, rfl⟩ := h.has
  exact ho.lt k e
theorem own_keep {base n size : Nat} {e : TypeId} {v : Value} {xs : List Value} (h : w.ownsRow base e size v n xs) (hk : ∀ k, v.ownBlock = some k → w'.heap[k]? = w.heap[k]?) : w'.ownsRow base e size v n xs := by
  refine ⟨h.1, ?_⟩
  rcases h.2 with q | ⟨g, cap, cur, rfl, hg, hh, rest⟩
  · exact .inl q
  · exact .inr ⟨g, cap, cur, rfl, hg, (hk g rfl).trans hh, rest⟩
theorem Bus.keep (h : Bus T w S B ob l f) (hr : ∀ k, k < w.heap.size → (k = B ∨ some k = ob) → w'.heap[k]? = w.heap[k]?) : Bus T w' S B ob l f := by
  obtain ⟨v, hb, ho, rfl⟩ := h.has
  exact ⟨⟨v, ⟨(hr B hb.lt (.inl rfl)).trans hb.at_⟩, own_keep ho (fun k e => hr k (ho.lt k e).2 (.inr e.symm)), rfl⟩, h.ne, h.base⟩
theorem Bus.below (h : Bus T w S B ob l f) (b : Below w.heap.size w w') : Bus T w' S B ob l f := h.keep (fun k hk _ => b.block k hk)
theorem Bus.alloc (h : Bus T w S B ob l f) (o : Obj) : Bus T (w.alloc o) S B ob l f := h.keep (fun k hk _ => Below.heap_alloc w o k hk)
theorem Bus.drew (h : Bus T w S B ob l f) : Bus T w.drew S B ob l f := h.keep (fun _ _ _ => rfl)
theorem Bus.kept {C : Nat} {oc : Option Nat} (h : Bus T w S B ob l f) (k : Kept w w' C oc) (hB : B ≠ C) (h1 : some B ≠ oc) (h2 : ob ≠ some C) (h3 : ob = none ∨ ob ≠ oc) : Bus T w' S B ob l f :=
  h.keep (fun j hj e => k.rest j hj (by
    rcases e with rfl | e
    · exact hB
    · intro q; subst q; exact h2 e.symm) (by
    rcases e with rfl | e
    · exact h1
    · rcases h3 with h3 | h3
      · rw [h3] at e; cases e
      · rw [e]; exact h3))
/-- What is to be known of a bus with pieces, cell by cell. -/
structure BusC (T : TypeId) (w : World) (B g n cap : Nat) (f : Bool) : Prop where
  c0 : w.cell? ⟨B, 0, none⟩ = some (.slice (some ⟨g, 0, none⟩) n cap)
  c1 : w.cell? ⟨B, 1, none⟩ = some (.bool f)
  f0 : w.frozen? ⟨B, 0, none⟩ = false
  f1 : w.frozen? ⟨B, 1, none⟩ = false
  le : n ≤ cap
  mx : cap ≤ maxLen
theorem Bus.some_ (h : Bus T w S B ob l f) (hn : 0 < l.length) : ∃ g cap, ob = some g ∧ BusC T w B g l.length cap f ∧ w.ownsRow S 69 4 (.slice (some ⟨g, 0, none⟩) l.length cap) l.length (pcs l) := by
  obtain ⟨v, hb, ho, rfl⟩ := h.has
  rcases ho.2 with ⟨_, q⟩ | ⟨g, cap, cur, rfl, hg, hh, h1, h2, _⟩
  · omega
  · exact ⟨g, cap, rfl, ⟨hb.cell rfl, hb.cell rfl, hb.free 0, hb.free 1, h1, h2⟩, ho⟩
/-- The cells of the kth piece. -/
structure PieceC (w : World) (g k : Nat) (p : PieceS) : Prop where
  c0 : w.cell? ⟨g, k * 4, none⟩ = some (.string p.s)
  c1 : w.cell? ⟨g, k * 4 + 1, none⟩ = some (.int .i64 p.src)
  c2 : w.cell? ⟨g, k * 4 + 2, none⟩ = some (.int .u32 (p.dest : Int))
  c3 : w.cell? ⟨g, k * 4 + 3, none⟩ = some (.bool p.hurt)
  f0 : w.frozen? ⟨g, k * 4, none⟩ = false
  f1 : w.frozen? ⟨g, k * 4 + 1, none⟩ = false
  f2 : w.frozen? ⟨g, k * 4 + 2, none⟩ = false
  f3 : w.frozen? ⟨g, k * 4 + 3, none⟩ = false
theorem piece_cells {g cap k : Nat} {p : PieceS} (ho : w.ownsRow S 69 4 (.slice (some ⟨g, 0, none⟩) l.length cap) l.length (pcs l)) (hk : l[k]? = some p) : PieceC w g k p := by
  have hl : k < l.length := (List.getElem?_eq_some_iff.1 hk).1
  have hc := fun i (hi : i < 4) => (ho.cellAt (k * 4 + i) (by omega)).trans (pcs_get l k i p hk hi)
  exact ⟨hc 0 (by omega), hc 1 (by omega), hc 2 (by omega), hc 3 (by omega), ho.frozenAt _, ho.frozenAt _, ho.frozenAt _, ho.frozenAt _⟩
/-- A field of the kth piece is written. -/
theorem Bus.set {g k i : Nat} {p q : PieceS} {u : Value} (h : Bus T w S B (some g) l f) (hk : l[k]? = some p) (hi : i < 4) (hq : q.cells = p.cells.set i u) :
    Bus T (w.setCell ⟨g, k * 4 + i, none⟩ u) S B (some g) (l.set k q) f ∧ Kept w (w.setCell ⟨g, k * 4 + i, none⟩ u) B (some g) := by
  have hl : k < l.length := (List.getElem?_eq_some_iff.1 hk).1
  have hne := h.ne
  obtain ⟨v, hb, ho, e⟩ := h.has
  rcases ho.2 with ⟨_, q0⟩ | ⟨g', cap, cur, rfl, hg, hh, h1, h2, _⟩
  · omega
  · have : g = g' := by injection e
    subst this
    have hst := ho.stored (k * 4 + i) u
    rw [← pcs_set l k i p q u hk hi hq] at hst
    have hgb : g ≠ B := fun q => hne (by rw [q])
    refine ⟨⟨⟨_, hb.setOther _ _ (fun q => hgb q.symm), by rw [List.length_set]; exact hst.1, rfl⟩, hne, h.base⟩, ?_⟩
    exact ⟨hst.2.os, hst.2.tape, hst.2.output, hst.2.size, fun j hj hB ho => hst.2.block j hj ho⟩
end
/-- A bus has become another. -/
structure BusTo (T : TypeId) (w w' : World) (S B : Nat) (ob : Option Nat) (l : List PieceS) (f : Bool) : Prop where
  to : ∃ ob', Bus T w' S B ob' l f ∧ Near w ob ob'
  kept : Kept w w' B ob
theorem BusTo.trans {T : TypeId} {a b c : World} {S B : Nat} {ob ob1 : Option Nat} {l : List PieceS} {f : Bool} (kept : Kept a b B ob) (near : Near a ob ob1) (k : BusTo T b c S B ob1 l f) : BusTo T a c S B ob l f := by
  obtain ⟨ob2, hp, hn⟩ := k.to
  exact ⟨⟨ob2, hp, near.trans hn kept.size⟩, kept.trans near k.kept⟩
theorem Kept.of_below {w w' : World} {B : Nat} {ob : Option Nat} (b : Below w.heap.size w w') : Kept w w' B ob := ⟨b.os, b.tape, b.output, b.size, fun k hk _ _ => b.block k hk⟩
theorem BusTo.of_below {T : TypeId} {w w' : World} {S B : Nat} {ob : Option Nat} {l : List PieceS} {f : Bool} (h : Bus T w S B ob l f) (b : Below w.heap.size w w') : BusTo T w w' S B ob l f :=
  ⟨⟨ob, h.below b, Near.refl _ _⟩, Kept.of_below b⟩
theorem BusTo.refl {T : TypeId} {w : World} {S B : Nat} {ob : Option Nat} {l : List PieceS} {f : Bool} (h : Bus T w S B ob l f) : BusTo T w w S B ob l f := BusTo.of_below h (Below.refl _ _)
set_option maxRecDepth 100000 in
theorem bnew_any (w : World) : Calls Try.prog 54 #[] w fun e w' => e = .returned (.pointer (some ⟨w.heap.size, 0, none⟩)) ∧ w' = w.alloc (.cells #[.slice none 0 0, .bool false] 147) := by
  go_enter Try.func54, Try.ntmps54
  go_wp2_with fail
  go_ret
  exact ⟨rfl, rfl⟩
theorem bus_new (T : TypeId) (w : World) (S : Nat) (hS : S ≤ w.heap.size) : Bus T (w.alloc (.cells #[.slice none 0 0, .bool false] T)) S w.heap.size none [] false :=
  ⟨⟨_, Blk.new w _ T, World.ownsRow_nil _ _ _ _, rfl⟩, by simp, hS⟩
/-- The cells of a bus's own struct. -/
theorem Bus.cells {T : TypeId} {w : World} {S B : Nat} {ob : Option Nat} {l : List PieceS} {f : Bool} (h : Bus T w S B ob l f) : ∃ A cap, w.cell? ⟨B, 0, none⟩ = some (.slice A l.length cap) ∧ w.cell? ⟨B, 1, none⟩ = some (.bool f) ∧ w.frozen? ⟨B, 0, none⟩ = false ∧ w.frozen? ⟨B, 1, none⟩ = false := by
  obtain ⟨v, hb, ho, rfl⟩ := h.has
  obtain ⟨A, cap, rfl⟩ := own_shape ho
  exact ⟨A, cap, hb.cell rfl, hb.cell rfl, hb.free 0, hb.free 1⟩
set_option maxRecDepth 100000 in
theorem blen_any (S B : Nat) (ob : Option Nat) (l : List PieceS) (f : Bool) (w : World) (h : Bus 147 w S B ob l f) : Calls Try.prog 56 #[.pointer (some ⟨B, 0, none⟩)] w fun e w' => e = .returned (.int .i64 (l.length : Int)) ∧ w' = w := by
  obtain ⟨A, cap, c0, _, _, _⟩ := h.cells
  go_enter Try.func56, Try.ntmps56
  go_wp2_with fail
  go_ret
  exact ⟨rfl, rfl⟩
set_option maxRecDepth 100000 in
theorem bfault_any (S B : Nat) (ob : Option Nat) (l : List PieceS) (f : Bool) (w : World) (h : Bus 147 w S B ob l f) : Calls Try.prog 57 #[.pointer (some ⟨B, 0, none⟩)] w fun e w' => e = .returned (.bool f) ∧ w' = w := by
  obtain ⟨A, cap, _, c1, _, _⟩ := h.cells
  go_enter Try.func57, Try.ntmps57
  go_wp2_with fail
  go_ret
  exact ⟨rfl, rfl⟩
set_option maxRecDepth 100000 in
theorem bat_no (S B : Nat) (ob : Option Nat) (l : List PieceS) (f : Bool) (k : Int) (w : World) (h : Bus 147 w S B ob l f) (hk : k < 0 ∨ (l.length : Int) ≤ k) : Calls Try.prog 113 #[.pointer (some ⟨B, 0, none⟩), .int .i64 k] w fun e w' => e = .returned (.pointer none) ∧ w' = w := by
  have HL := Lib.hid (blen_any S B ob l f w h)
  rcases hk with hk | hk
  · go_enter Try.func113, Try.ntmps113
    go_wp2_with fail
    go_ret
    exact ⟨rfl, rfl⟩
  · have h0 : ¬ k < 0 := by omega
    go_enter Try.func113, Try.ntmps113
    go_wp2_with fail
    refine (HL.out).mono ?_
    rintro e w1 ⟨rfl, rfl⟩
    go_wp2_with fail
    go_ret
    exact ⟨rfl, rfl⟩
set_option maxRecDepth 100000 in
theorem bat_yes (S B g : Nat) (l : List PieceS) (f : Bool) (k : Nat) (w : World) (h : Bus 147 w S B (some g) l f) (hk : k < l.length) (hl : l.length ≤ 1000) : Calls Try.prog 113 #[.pointer (some ⟨B, 0, none⟩), .int .i64 (k : Int)] w fun e w' => e = .returned (.pointer (some ⟨g, k * 4, none⟩)) ∧ w' = w := by
  have HL := Lib.hid (blen_any S B (some g) l f w h)
  obtain ⟨g', cap, e, C, ho⟩ := h.some_ (by omega)
  have : g = g' := by injection e
  subst this
  have c0 := C.c0
  have h0 : ¬ (k : Int) < 0 := by omega
  have h1 : (k : Int) < (l.length : Int) := by omega
  have hcap : l.length ≤ cap := C.le
  clear C ho
  go_enter Try.func113, Try.ntmps113
  go_wp2_with fail
  refine (HL.out).mono ?_
  rintro e w1 ⟨rfl, rfl⟩
  go_wp2_with fail
  go_ret
  exact ⟨rfl, rfl⟩
end Go.Proofs.Ytdhfkcodacmbfaa
