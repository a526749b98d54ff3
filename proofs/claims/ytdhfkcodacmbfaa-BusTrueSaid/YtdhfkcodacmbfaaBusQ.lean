/- Two buses side by side: the program's and the document's. -/
import Derived.Test.YtdhfkcodacmbfaaBusP
set_option linter.unusedVariables false
set_option linter.unusedSimpArgs false
namespace Go.Proofs.Ytdhfkcodacmbfaa
open Go.RowKit

/-- The program's bus in block B, the reference's in block R, and blocks ks beside them, all made behind w0; nothing of w0 is turned. -/
structure BR (w0 : World) (B R : Nat) (st st' : BusS) (ks : List KeepB) (w : World) : Prop where
  has : ∃ ob oc, Bus 147 w w0.heap.size B ob st.l st.f ∧ Bus 85 w w0.heap.size R oc st'.l st'.f ∧ B ≠ R ∧ ob ≠ some R ∧ oc ≠ some B ∧ (ob = none ∨ ob ≠ oc) ∧
    ∀ k ∈ ks, Blk w k.n k.cs k.t ∧ k.n ≠ B ∧ k.n ≠ R ∧ ob ≠ some k.n ∧ oc ≠ some k.n
  bel : Below w0.heap.size w0 w
  ok : st.ok
  ok' : st'.ok
theorem near_ne {w : World} {ob ob' : Option Nat} {n : Nat} (h : Near w ob ob') (hn : n < w.heap.size) (hne : ob ≠ some n) : ob' ≠ some n := by
  rcases h with rfl | ⟨g, rfl, hg⟩
  · exact hne
  · intro e
    injection e with e
    omega
theorem nearN_ne {w : World} {ob ob' : Option Nat} {n : Nat} (h : NearN w ob ob') (hn : n < w.heap.size) (hne : ob ≠ some n) : ob' ≠ some n := by
  rcases h with rfl | h
  · simp
  · exact near_ne h hn hne
theorem BR.toP {w0 w w' : World} {B R : Nat} {st st' st1 : BusS} {ks : List KeepB} {ob oc : Option Nat} (hb : Bus 147 w w0.heap.size B ob st.l st.f) (hc : Bus 85 w w0.heap.size R oc st'.l st'.f) (n1 : B ≠ R) (n2 : ob ≠ some R) (n3 : oc ≠ some B) (n4 : ob = none ∨ ob ≠ oc)
    (hk : ∀ k ∈ ks, Blk w k.n k.cs k.t ∧ k.n ≠ B ∧ k.n ≠ R ∧ ob ≠ some k.n ∧ oc ≠ some k.n) (b : Below w0.heap.size w0 w) (ok' : st'.ok) (h : BusTo 147 w w' w0.heap.size B ob st1.l st1.f) (ok : st1.ok) : BR w0 B R st1 st' ks w' := by
  obtain ⟨ob', hb', near⟩ := h.to
  have hc' : Bus 85 w' w0.heap.size R oc st'.l st'.f := hc.kept h.kept (fun e => n1 e.symm) (fun e => n2 e.symm) n3 (by
    cases oc with
    | none => exact .inl rfl
    | some g =>
      right
      rcases n4 with n4 | n4
      · rw [n4]; simp
      · exact fun e => n4 e.symm)
  refine ⟨⟨ob', oc, hb', hc', n1, near_ne near hc.lt n2, n3, ?_, fun k hq => ?_⟩, h.kept.below b b.size hb.base (fun j e => (hb.row j e).1), ok, ok'⟩
  · cases ob' with
    | none => exact .inl rfl
    | some g =>
      right
      intro e
      rcases near with near | ⟨g', e', hg'⟩
      · rcases n4 with n4 | n4
        · rw [← near] at n4; cases n4
        · exact n4 (near.symm.trans e)
      · injection e' with e'
        have := (hc.row g e.symm).2
        omega
  · obtain ⟨h1, h2, h3, h4, h5⟩ := hk k hq
    exact ⟨h.kept.blk h1 h2 (fun e => h4 e.symm), h2, h3, near_ne near h1.lt h4, h5⟩
theorem BR.toR {w0 w w' : World} {B R : Nat} {st st' st1 : BusS} {ks : List KeepB} {ob oc : Option Nat} (hb : Bus 147 w w0.heap.size B ob st.l st.f) (hc : Bus 85 w w0.heap.size R oc st'.l st'.f) (n1 : B ≠ R) (n2 : ob ≠ some R) (n3 : oc ≠ some B) (n4 : ob = none ∨ ob ≠ oc)
    (hk : ∀ k ∈ ks, Blk w k.n k.cs k.t ∧ k.n ≠ B ∧ k.n ≠ R ∧ ob ≠ some k.n ∧ oc ≠ some k.n) (b : Below w0.heap.size w0 w) (ok : st.ok) (h : RefTo w w' w0.heap.size R oc st1.l st1.f) (ok' : st1.ok) : BR w0 B R st st1 ks w' := by
  obtain ⟨oc', hc', near⟩ := h.to
  have hb' : Bus 147 w' w0.heap.size B ob st.l st.f := hb.kept h.kept n1 (fun e => n3 e.symm) n2 n4
  refine ⟨⟨ob, oc', hb', hc', n1, n2, nearN_ne near hb.lt n3, ?_, fun k hq => ?_⟩, h.kept.below b b.size hc.base (fun j e => (hc.row j e).1), ok, ok'⟩
  · cases ob with
    | none => exact .inl rfl
    | some g =>
      right
      intro e
      exact nearN_ne near (hb.row g rfl).2 (by
        rcases n4 with n4 | n4
        · cases n4
        · exact fun q => n4 q.symm) e.symm
  · obtain ⟨h1, h2, h3, h4, h5⟩ := hk k hq
    exact ⟨h.kept.blk h1 h3 (fun e => h5 e.symm), h2, h3, h4, nearN_ne near h1.lt h5⟩
section
variable {w0 w w' : World} {B R : Nat} {st st' : BusS} {ks : List KeepB}
theorem BR.below (h : BR w0 B R st st' ks w) (b : Below w.heap.size w w') : BR w0 B R st st' ks w' := by
  obtain ⟨ob, oc, hb, hc, n1, n2, n3, n4, hk⟩ := h.has
  exact ⟨⟨ob, oc, hb.below b, hc.below b, n1, n2, n3, n4, fun k hq => ⟨(hk k hq).1.keep b, (hk k hq).2⟩⟩, below_then h.bel b, h.ok, h.ok'⟩
theorem BR.drewN (h : BR w0 B R st st' ks w) (n : Nat) : BR w0 B R st st' ks (w.drewN n) := h.below (below_drewN (Below.refl _ _) n)
theorem BR.drew (h : BR w0 B R st st' ks w) : BR w0 B R st st' ks w.drew := h.below (Below.refl _ _).drew
theorem BR.box (h : BR w0 B R st st' ks w) (cs : Array Value) (t : TypeId) : BR w0 B R st st' (⟨w.heap.size, cs, t⟩ :: ks) (w.alloc (.cells cs t)) := by
  obtain ⟨ob, oc, hb, hc, n1, n2, n3, n4, hk⟩ := h.has
  refine ⟨⟨ob, oc, hb.alloc _, hc.alloc _, n1, n2, n3, n4, fun k hq => ?_⟩, h.bel.alloc h.bel.size _, h.ok, h.ok'⟩
  simp only [List.mem_cons] at hq
  rcases hq with rfl | hq
  · refine ⟨Blk.new w cs t, ?_, ?_, ?_, ?_⟩
    · have := hb.lt
      show w.heap.size ≠ B
      omega
    · have := hc.lt
      show w.heap.size ≠ R
      omega
    · intro e
      exact absurd (hb.row _ e).2 (Nat.lt_irrefl _)
    · intro e
      exact absurd (hc.row _ e).2 (Nat.lt_irrefl _)
  · exact ⟨(hk k hq).1.alloc _, (hk k hq).2⟩
theorem BR.less (h : BR w0 B R st st' ks w) : BR w0 B R st st' [] w := by
  obtain ⟨ob, oc, hb, hc, n1, n2, n3, n4, hk⟩ := h.has
  exact ⟨⟨ob, oc, hb, hc, n1, n2, n3, n4, fun k hq => by cases hq⟩, h.bel, h.ok, h.ok'⟩
theorem BR.blk (h : BR w0 B R st st' ks w) {k : KeepB} (hk : k ∈ ks) : Blk w k.n k.cs k.t := by
  obtain ⟨ob, oc, hb, hc, n1, n2, n3, n4, hh⟩ := h.has
  exact (hh k hk).1
theorem BR.ref (h : BR w0 B R st st' ks w) : ∃ A cap, w.cell? ⟨R, 0, none⟩ = some (.slice A st'.l.length cap) ∧ w.cell? ⟨R, 1, none⟩ = some (.bool st'.f) := by
  obtain ⟨ob, oc, hb, hc, n1, n2, n3, n4, hh⟩ := h.has
  obtain ⟨A, cap, c0, c1, _⟩ := hc.cells
  exact ⟨A, cap, c0, c1⟩
theorem BR.refp (h : BR w0 B R st st' ks w) {n : Nat} {p : PieceS} (hp : st'.l[n]? = some p) : ∃ g cap, w.cell? ⟨R, 0, none⟩ = some (.slice (some ⟨g, 0, none⟩) st'.l.length cap) ∧ st'.l.length ≤ cap ∧ PieceC w g n p := by
  have hn := (List.getElem?_eq_some_iff.1 hp).1
  obtain ⟨ob, oc, hb, hc, n1, n2, n3, n4, hh⟩ := h.has
  obtain ⟨g, cap, _, C, ho⟩ := hc.some_ (by omega)
  exact ⟨g, cap, C.c0, C.le, piece_cells ho hp⟩
theorem do_br (a : ActS) (h : BR w0 B R st st' ks w) (oka : a.ok) (hs : a.s.size ≤ 1000000) : Calls Try.prog 65 #[.pointer (some ⟨B, 0, none⟩), .agg a.cells] w fun e w' => e = .returned (.tuple #[.string (actS st a).2.1, .int .i64 (actS st a).2.2]) ∧ BR w0 B R (actS st a).1 st' ks w' := by
  obtain ⟨ob, oc, hb, hc, n1, n2, n3, n4, hh⟩ := h.has
  exact (do_any' _ B ob st a w hb h.ok oka hs).mono fun e w' ⟨he, hk⟩ => ⟨he, BR.toP hb hc n1 n2 n3 n4 hh h.bel h.ok' hk (ok_act h.ok a)⟩
theorem should_br (a : ActS) (h : BR w0 B R st st' ks w) (oka : a.ok) (hs : a.s.size ≤ 1000000) : Calls Try.prog 67 #[.pointer (some ⟨R, 0, none⟩), .agg a.cells] w fun e w' => e = .returned (.tuple #[.string (actS st' a).2.1, .int .i64 (actS st' a).2.2]) ∧ BR w0 B R st (actS st' a).1 ks w' := by
  obtain ⟨ob, oc, hb, hc, n1, n2, n3, n4, hh⟩ := h.has
  exact (should_any _ R oc st' a w hc h.ok' oka hs).mono fun e w' ⟨he, hk⟩ => ⟨he, BR.toR hb hc n1 n2 n3 n4 hh h.bel h.ok hk (ok_act h.ok' a)⟩
theorem len_br (h : BR w0 B R st st' ks w) : Calls Try.prog 56 #[.pointer (some ⟨B, 0, none⟩)] w fun e w' => e = .returned (.int .i64 (st.l.length : Int)) ∧ w' = w := by
  obtain ⟨ob, oc, hb, _⟩ := h.has
  exact blen_any _ B ob st.l st.f w hb
theorem fault_br (h : BR w0 B R st st' ks w) : Calls Try.prog 57 #[.pointer (some ⟨B, 0, none⟩)] w fun e w' => e = .returned (.bool st.f) ∧ w' = w := by
  obtain ⟨ob, oc, hb, _⟩ := h.has
  exact bfault_any _ B ob st.l st.f w hb
theorem piece_br (k : Int) (h : BR w0 B R st st' ks w) : Calls Try.prog 61 #[.pointer (some ⟨B, 0, none⟩), .int .i64 k] w fun e w' => e = .returned (.tuple #[pieceA st.l k, .bool (atS st.l k).isSome]) ∧ BR w0 B R st st' ks w' := by
  obtain ⟨ob, oc, hb, _⟩ := h.has
  unfold pieceA
  cases hk : atS st.l k with
  | none => exact (bpiece_no _ B ob st.l st.f k w hb hk).mono fun e w' ⟨he, hb'⟩ => ⟨he, h.below hb'⟩
  | some p => exact (bpiece_yes _ B ob st.l st.f k p w hb hk h.ok.len).mono fun e w' ⟨he, hb'⟩ => ⟨he, h.below hb'⟩
end
theorem br_new (w0 w : World) (b : Below w0.heap.size w0 w) : BR w0 w.heap.size (w.heap.size + 1) ⟨[], false⟩ ⟨[], false⟩ [] ((w.alloc (.cells #[.slice none 0 0, .bool false] 147)).alloc (.cells #[.slice none 0 0, .bool false] 85)) := by
  have h1 := (bus_new 147 w _ b.size).alloc (.cells #[.slice none 0 0, .bool false] 85)
  have b1 := b.alloc b.size (.cells #[.slice none 0 0, .bool false] 147)
  have h2 := bus_new 85 _ _ b1.size
  rw [World.size_alloc] at h2
  exact ⟨⟨none, none, h1, h2, by omega, by simp, by simp, .inl rfl, fun k hk => by cases hk⟩, b1.alloc b1.size _, ok_nil false, ok_nil false⟩
/-- Whether acts are few and small: what 'small' says. -/
def SmallTo (f : Nat → ActS) (len : Nat) (most : Int) (w : World) (e : Ending) (w' : World) : Prop := ∃ b : Bool, e = .returned (.bool b) ∧ (b = true → (len : Int) ≤ most ∧ ∀ i, i < len → (f i).s.size ≤ 300) ∧ Below w.heap.size w w'
theorem ActsR.below {w w' : World} {A : Option Addr} {len : Nat} {f : Nat → ActS} {S : Nat} (h : ActsR w A len f) (hb : Below S w w') (hS : ∀ a, A = some a → a.block < S) : ActsR w' A len f :=
  ⟨fun i hi => by
    obtain ⟨b, off, e, c0, c1, c2, c3, c4⟩ := h.at_ i hi
    have hl := hS _ e
    exact ⟨b, off, e, (hb.cell (p := ⟨b, off + i * 5, none⟩) hl).trans c0, (hb.cell (p := ⟨b, off + i * 5 + 1, none⟩) hl).trans c1, (hb.cell (p := ⟨b, off + i * 5 + 2, none⟩) hl).trans c2, (hb.cell (p := ⟨b, off + i * 5 + 3, none⟩) hl).trans c3, (hb.cell (p := ⟨b, off + i * 5 + 4, none⟩) hl).trans c4⟩, h.ok⟩
theorem ActsR.keep {w w' : World} {A : Option Addr} {len : Nat} {f : Nat → ActS} (h : ActsR w A len f) (hb : Below w.heap.size w w') : ActsR w' A len f :=
  ⟨fun i hi => by
    obtain ⟨b, off, e, c0, c1, c2, c3, c4⟩ := h.at_ i hi
    have hl := World.block_lt_of_cell? w _ c0
    exact ⟨b, off, e, (hb.cell (p := ⟨b, off + i * 5, none⟩) hl).trans c0, (hb.cell (p := ⟨b, off + i * 5 + 1, none⟩) hl).trans c1, (hb.cell (p := ⟨b, off + i * 5 + 2, none⟩) hl).trans c2, (hb.cell (p := ⟨b, off + i * 5 + 3, none⟩) hl).trans c3, (hb.cell (p := ⟨b, off + i * 5 + 4, none⟩) hl).trans c4⟩, h.ok⟩
set_option maxRecDepth 100000 in
set_option maxHeartbeats 2000000 in
theorem asmall_any (A : Option Addr) (len cap : Nat) (f : Nat → ActS) (most : Int) (w : World) (hI : ActsR w A len f) (hl : len ≤ 9223372036854775807) :
    Calls Try.prog 64 #[.slice A len cap, .int .i64 most] w (SmallTo f len most w) := by
  by_cases hm : most < (len : Int)
  · clear hI
    go_enter Try.func64, Try.ntmps64
    go_wp2_with fail
    go_ret
    exact ⟨false, rfl, (fun h => by cases h), Below.refl _ _⟩
  · have hm' : (len : Int) ≤ most := by omega
    have HI := Lib.hid hI
    clear hI
    go_enter Try.func64, Try.ntmps64
    go_wp2_with fail
    go_loopw [6, 13] (fun _ x wr => ∃ i : Nat, i ≤ len ∧ x = .int .i64 i ∧ Below w.heap.size w wr ∧ Aside (∀ j, j < i → (f j).s.size ≤ 300)) (fun _ x _ => len - (intOf x).toNat)
    case atStart => exact ⟨0, by omega, rfl, Below.refl _ _, (show Aside _ from fun j hj => by omega)⟩
    case round =>
      obtain ⟨i, hil, rfl, b, hA⟩ := hrel
      by_cases hlt : i < len
      · have hlt' : (i : Int) < (len : Int) := by omega
        obtain ⟨g, off, rfl, c0, c1, c2, c3, c4⟩ := (HI.out.keep b).at_ i hlt
        have hsz := (HI.out.ok i hlt).size
        unfold maxLen at hsz
        have hAA := Lib.hid hA
        have Hb := Lib.hid b
        clear hA
        by_cases h3 : 300 < (f i).s.size
        · have h3' : (300 : Int) < ((f i).s.size : Int) := by omega
          go_wp2_with fail
          go_ret
          exact ⟨false, rfl, (fun h => by cases h), Hb.out.alloc Hb.out.size _⟩
        · have h3' : ¬ (300 : Int) < ((f i).s.size : Int) := by omega
          have H3 := Lib.hid h3
          clear h3
          go_wp2_with fail
          go_roundw
          case rel => exact ⟨i + 1, by omega, by go_num, Hb.out.alloc Hb.out.size _, (show Aside _ from fun j hj => by
            by_cases e : j = i
            · subst e
              have := H3.out
              omega
            · exact hAA.out j (by omega))⟩
          case measure => simp [intOf]; omega
      · obtain rfl : i = len := by omega
        have HAA := Lib.hid hA
        clear hA
        go_wp2_with fail
        go_ret
        exact ⟨true, rfl, fun _ => ⟨hm', HAA.out⟩, b⟩
end Go.Proofs.Ytdhfkcodacmbfaa
