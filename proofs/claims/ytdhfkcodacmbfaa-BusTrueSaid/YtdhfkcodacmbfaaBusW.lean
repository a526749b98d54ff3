/- The medium: a bus, a map of texts and an array of counts side by side. -/
import Derived.Test.YtdhfkcodacmbfaaBusV
import Derived.Test.YtdhfkcodacmbfaaBusQ
set_option linter.unusedVariables false
set_option linter.unusedSimpArgs false
namespace Go.Proofs.Ytdhfkcodacmbfaa
open Go.RowKit Go.Maps

def cameV (came : Nat → Int) (j : Nat) : Value := .int .i64 (came j)
/-- A bus in block B, a map in block M, 32 counts in block C, blocks ks beside them; nothing of w0 is turned. -/
structure BT {H : Type} (w0 : World) (B M C : Nat) (st : BusS) (came : Nat → Int) (n : Nat) (D : DataW H) (ks : List KeepB) (w : World) : Prop where
  has : ∃ ob, Bus 147 w w0.heap.size B ob st.l st.f ∧ ob ≠ some M ∧ ob ≠ some C ∧ ∀ k ∈ ks, Blk w k.n k.cs k.t ∧ k.n ≠ B ∧ k.n ≠ M ∧ k.n ≠ C ∧ ob ≠ some k.n
  map : w.ownsMap Try.prog 9 (plainElem Try.prog 4) M n D
  arr : Row w C 32 (cameV came)
  mb : M ≠ B
  cb : C ≠ B
  mc : M ≠ C
  mS : w0.heap.size ≤ M
  cS : w0.heap.size ≤ C
  bel : Below w0.heap.size w0 w
  ok : st.ok
section
variable {H : Type} {w0 w w' : World} {B M C : Nat} {st : BusS} {came : Nat → Int} {n : Nat} {D : DataW H} {ks : List KeepB}
theorem map_keep (h : w.ownsMap Try.prog 9 (plainElem Try.prog 4) M n D) (hk : w'.heap[M]? = w.heap[M]?) : w'.ownsMap Try.prog 9 (plainElem Try.prog 4) M n D := by
  obtain ⟨es, clock, hh, rest⟩ := h
  exact ⟨es, clock, hk.trans hh, rest⟩
theorem map_lt (h : w.ownsMap Try.prog 9 (plainElem Try.prog 4) M n D) : M < w.heap.size := by
  obtain ⟨es, clock, hh, rest⟩ := h
  exact (Array.getElem?_eq_some_iff.1 hh).1
theorem row_keep {f : Nat → Value} (h : Row w C 32 f) (hk : w'.heap[C]? = w.heap[C]?) : Row w' C 32 f :=
  ⟨fun j hj => (World.cell?_of_block (a := ⟨C, j, none⟩) hk).trans (h.cell j hj), fun j hj => (World.frozen?_of_block (a := ⟨C, j, none⟩) hk).trans (h.free j hj)⟩
theorem BT.below (h : BT w0 B M C st came n D ks w) (b : Below w.heap.size w w') : BT w0 B M C st came n D ks w' := by
  obtain ⟨ob, hb, h1, h2, h3⟩ := h.has
  exact ⟨⟨ob, hb.below b, h1, h2, fun k hk => ⟨(h3 k hk).1.keep b, (h3 k hk).2⟩⟩, map_keep h.map (b.block M (map_lt h.map)), row_keep h.arr (b.block C (h.arr.lt (by decide))), h.mb, h.cb, h.mc, h.mS, h.cS, below_then h.bel b, h.ok⟩
theorem BT.box (h : BT w0 B M C st came n D ks w) (cs : Array Value) (t : TypeId) : BT w0 B M C st came n D (⟨w.heap.size, cs, t⟩ :: ks) (w.alloc (.cells cs t)) := by
  have k := h.below ((Below.refl _ _).alloc (Nat.le_refl _) (.cells cs t))
  obtain ⟨ob0, hb0, h10, h20, h30⟩ := h.has
  refine ⟨⟨ob0, hb0.alloc _, h10, h20, fun q hq => ?_⟩, k.map, k.arr, k.mb, k.cb, k.mc, k.mS, k.cS, k.bel, k.ok⟩
  simp only [List.mem_cons] at hq
  rcases hq with rfl | hq
  · refine ⟨Blk.new w cs t, ?_, ?_, ?_, ?_⟩
    · have := hb0.lt
      show w.heap.size ≠ B
      omega
    · have := map_lt h.map
      show w.heap.size ≠ M
      omega
    · have := h.arr.lt (by decide)
      show w.heap.size ≠ C
      omega
    · intro e
      exact absurd (hb0.row _ e).2 (Nat.lt_irrefl _)
  · exact ⟨(h30 q hq).1.alloc _, (h30 q hq).2⟩
theorem BT.blk (h : BT w0 B M C st came n D ks w) {k : KeepB} (hk : k ∈ ks) : Blk w k.n k.cs k.t := by
  obtain ⟨ob, _, _, _, h3⟩ := h.has
  exact (h3 k hk).1
theorem BT.less (h : BT w0 B M C st came n D ks w) : BT w0 B M C st came n D [] w := by
  obtain ⟨ob, hb, h1, h2, h3⟩ := h.has
  exact ⟨⟨ob, hb, h1, h2, fun k hk => (by cases hk)⟩, h.map, h.arr, h.mb, h.cb, h.mc, h.mS, h.cS, h.bel, h.ok⟩
theorem do_bt (a : ActS) (h : BT w0 B M C st came n D ks w) (oka : a.ok) (hs : a.s.size ≤ 1000000) :
    Calls Try.prog 65 #[.pointer (some ⟨B, 0, none⟩), .agg a.cells] w fun e w' => e = .returned (.tuple #[.string (actS st a).2.1, .int .i64 (actS st a).2.2]) ∧ BT w0 B M C (actS st a).1 came n D ks w' := by
  obtain ⟨ob, hb, h1, h2, h3⟩ := h.has
  refine (do_any' _ B ob st a w hb h.ok oka hs).mono fun e w' ⟨he, hk⟩ => ⟨he, ?_⟩
  obtain ⟨ob', hb', near⟩ := hk.to
  have hkept := hk.kept
  have hnear : ∀ x, x < w.heap.size → ob ≠ some x → ob' ≠ some x := fun x hx hq => by
    rcases near with rfl | ⟨g, rfl, hg⟩
    · exact hq
    · intro e
      injection e with e
      omega
  refine ⟨⟨ob', hb', hnear M (map_lt h.map) h1, hnear C (h.arr.lt (by decide)) h2, fun k hq => ?_⟩, map_keep h.map (hkept.rest M (map_lt h.map) h.mb (fun e => h1 e.symm)), row_keep h.arr (hkept.rest C (h.arr.lt (by decide)) h.cb (fun e => h2 e.symm)), h.mb, h.cb, h.mc, h.mS, h.cS, hkept.below h.bel h.bel.size hb.base (fun j e => (hb.row j e).1), ok_act h.ok a⟩
  obtain ⟨q1, q2, q3, q4, q5⟩ := h3 k hq
  exact ⟨hkept.blk q1 q2 (fun e => q5 e.symm), q2, q3, q4, hnear k.n q1.lt q5⟩
theorem BT.put {n' : Nat} {D' : DataW H} (h : BT w0 B M C st came n D ks w) (hg : w.grownBy w' (some M)) (hm : w'.ownsMap Try.prog 9 (plainElem Try.prog 4) M n' D') : BT w0 B M C st came n' D' ks w' := by
  obtain ⟨ob, hb, h1, h2, h3⟩ := h.has
  refine ⟨⟨ob, hb.keep (fun k hk hor => hg.block k hk (fun e => ?_)), h1, h2, fun k hk => ?_⟩, hm, row_keep h.arr (hg.block C (h.arr.lt (by decide)) (fun e => h.mc (by injection e with e; exact e.symm))), h.mb, h.cb, h.mc, h.mS, h.cS, below_grown h.bel hg (fun k e => by injection e with e; rw [← e]; exact h.mS) h.bel.size, h.ok⟩
  · injection e with e
    rcases hor with q | q
    · exact h.mb (by rw [← e, q])
    · exact h1 (by rw [← e]; exact q.symm)
  · obtain ⟨q1, q2, q3, q4, q5⟩ := h3 k hk
    exact ⟨⟨(hg.block k.n q1.lt (fun e => q3 (by injection e))).trans q1.at_⟩, q2, q3, q4, q5⟩
theorem BT.count (h : BT w0 B M C st came n D ks w) (j : Nat) (hj : j < 32) (v : Int) : BT w0 B M C st (fun i => if i = j then v else came i) n D ks (w.setCell ⟨C, j, none⟩ (.int .i64 v)) := by
  obtain ⟨ob, hb, h1, h2, h3⟩ := h.has
  have hr := h.arr.set j (.int .i64 v) hj
  refine ⟨⟨ob, hb.keep (fun k hk hor => Below.heap_setCell w ⟨C, j, none⟩ _ k (fun e => ?_)), h1, h2, fun k hk => ?_⟩, map_keep h.map (Below.heap_setCell w ⟨C, j, none⟩ _ M h.mc), hr.congr (fun i hi => ?_), h.mb, h.cb, h.mc, h.mS, h.cS, ?_, h.ok⟩
  · have e' : k = C := e
    rcases hor with q | q
    · exact h.cb (by rw [← e', q])
    · exact h2 (by rw [← e']; exact q.symm)
  · obtain ⟨q1, q2, q3, q4, q5⟩ := h3 k hk
    exact ⟨q1.setOther _ _ q4, q2, q3, q4, q5⟩
  · unfold cameV
    simp only
    split <;> rfl
  · exact ⟨h.bel.os, h.bel.tape, h.bel.output, by rw [World.size_setCell]; exact h.bel.size, fun k hk => (Below.heap_setCell w ⟨C, j, none⟩ _ k (by have := h.cS; show k ≠ C; omega)).trans (h.bel.block k hk)⟩
theorem from_bt (p : ByteArray) (h : BT w0 B M C st came n D ks w) (hp : p.size ≤ 1000) (ht : ∃ t, has D (litS t) = true ∧ FromS p t) :
    Calls Try.prog 66 #[.map (some M), .string p] w fun e w' => e = .returned (.bool true) ∧ BT w0 B M C st came n D ks w' :=
  (from_any M n D p w h.map hp ht).mono fun e w' ⟨he, hb⟩ => ⟨he, h.below hb⟩
end
end Go.Proofs.Ytdhfkcodacmbfaa
