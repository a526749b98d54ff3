/- The medium (bus): the operations' contracts over one bus, beside blocks that stay. -/
import Derived.Test.YtdhfkcodacmbfaaBusH
import Derived.Laws.StructEq
set_option linter.unusedVariables false
set_option linter.unusedSimpArgs false
namespace Go.Proofs.Ytdhfkcodacmbfaa
open Go.RowKit

structure KeepB where
  n : Nat
  cs : Array Value
  t : TypeId
/-- A bus in block B, made behind w0, and blocks ks beside it; nothing of w0 is turned. -/
structure BK (w0 : World) (B : Nat) (st : BusS) (ks : List KeepB) (w : World) : Prop where
  has : ∃ ob, Bus 147 w w0.heap.size B ob st.l st.f ∧ ∀ k ∈ ks, Blk w k.n k.cs k.t ∧ k.n ≠ B ∧ ob ≠ some k.n
  bel : Below w0.heap.size w0 w
  ok : st.ok
theorem BK.to {w0 w w' : World} {B : Nat} {ob : Option Nat} {st st' : BusS} {ks : List KeepB} (h : Bus 147 w w0.heap.size B ob st.l st.f) (hk : ∀ k ∈ ks, Blk w k.n k.cs k.t ∧ k.n ≠ B ∧ ob ≠ some k.n) (b : Below w0.heap.size w0 w) (k : BusTo 147 w w' w0.heap.size B ob st'.l st'.f) (ok : st'.ok) : BK w0 B st' ks w' := by
  obtain ⟨ob', hb, near⟩ := k.to
  refine ⟨⟨ob', hb, fun q hq => ?_⟩, k.kept.below b b.size h.base (fun j e => (h.row j e).1), ok⟩
  obtain ⟨h1, h2, h3⟩ := hk q hq
  refine ⟨k.kept.blk h1 h2 (fun e => h3 e.symm), h2, ?_⟩
  rcases near with rfl | ⟨g, rfl, hg⟩
  · exact h3
  · intro e
    injection e with e
    have := h1.lt
    omega
theorem BK.below {w0 w w' : World} {B : Nat} {st : BusS} {ks : List KeepB} (h : BK w0 B st ks w) (b : Below w.heap.size w w') : BK w0 B st ks w' := by
  obtain ⟨ob, hb, hk⟩ := h.has
  exact ⟨⟨ob, hb.below b, fun k hq => ⟨(hk k hq).1.keep b, (hk k hq).2⟩⟩, below_then h.bel b, h.ok⟩
theorem BK.drew {w0 w : World} {B : Nat} {st : BusS} {ks : List KeepB} (h : BK w0 B st ks w) : BK w0 B st ks w.drew := h.below (Below.refl _ _).drew
theorem BK.box {w0 w : World} {B : Nat} {st : BusS} {ks : List KeepB} (h : BK w0 B st ks w) (cs : Array Value) (t : TypeId) : BK w0 B st (⟨w.heap.size, cs, t⟩ :: ks) (w.alloc (.cells cs t)) := by
  obtain ⟨ob, hb, hk⟩ := h.has
  refine ⟨⟨ob, hb.alloc _, fun k hq => ?_⟩, h.bel.alloc h.bel.size _, h.ok⟩
  simp only [List.mem_cons] at hq
  rcases hq with rfl | hq
  · refine ⟨Blk.new w cs t, ?_, ?_⟩
    · have := hb.lt
      show w.heap.size ≠ B
      omega
    · intro e
      have := (hb.row _ e).2
      exact absurd this (Nat.lt_irrefl _)
  · exact ⟨(hk k hq).1.alloc _, (hk k hq).2⟩
theorem BK.blk {w0 w : World} {B : Nat} {st : BusS} {ks : List KeepB} (h : BK w0 B st ks w) {k : KeepB} (hk : k ∈ ks) : Blk w k.n k.cs k.t := by
  obtain ⟨ob, hb, hh⟩ := h.has
  exact (hh k hk).1
section
variable (w0 : World) (B : Nat) (st : BusS) (ks : List KeepB) (w : World)
theorem send_bk (src : Int) (s : ByteArray) (h : BK w0 B st ks w) (hs : s.size ≤ 1000000) : Calls Try.prog 55 #[.pointer (some ⟨B, 0, none⟩), .int .i64 src, .string s] w fun e w' => e = .returned (.int .i64 (sendS st src s).2) ∧ BK w0 B (sendS st src s).1 ks w' := by
  obtain ⟨ob, hb, hh⟩ := h.has
  exact (bsend_any _ B ob st src s w hb h.ok.len hs).mono fun e w' ⟨he, hk⟩ => ⟨he, BK.to hb hh h.bel hk (ok_send h.ok src s)⟩
theorem twice_bk (k : Int) (h : BK w0 B st ks w) : Calls Try.prog 62 #[.pointer (some ⟨B, 0, none⟩), .int .i64 k] w fun e w' => e = .returned (.int .i64 (twiceS st k).2) ∧ BK w0 B (twiceS st k).1 ks w' := by
  obtain ⟨ob, hb, hh⟩ := h.has
  exact (btwice_any _ B ob st k w hb h.ok.len).mono fun e w' ⟨he, hk⟩ => ⟨he, BK.to hb hh h.bel hk (ok_twice h.ok k)⟩
theorem drop_bk (k : Int) (h : BK w0 B st ks w) : Calls Try.prog 58 #[.pointer (some ⟨B, 0, none⟩), .int .i64 k] w fun e w' => e = .returned (.int .i64 (dropS st k).2) ∧ BK w0 B (dropS st k).1 ks w' := by
  obtain ⟨ob, hb, hh⟩ := h.has
  exact (bdrop_any _ B ob st k w hb h.ok.len).mono fun e w' ⟨he, hk⟩ => ⟨he, BK.to hb hh h.bel hk (ok_drop h.ok k)⟩
theorem burst_bk (k at_ pat : Int) (h : BK w0 B st ks w) (hp0 : 0 ≤ pat) (hp1 : pat < 65536) : Calls Try.prog 60 #[.pointer (some ⟨B, 0, none⟩), .int .i64 k, .int .i64 at_, .int .u16 pat] w fun e w' => e = .returned (.int .i64 (burstB st k at_ pat).2) ∧ BK w0 B (burstB st k at_ pat).1 ks w' := by
  obtain ⟨ob, hb, hh⟩ := h.has
  exact (bburst_any _ B ob st k at_ pat w hb h.ok hp0 hp1).mono fun e w' ⟨he, hk⟩ => ⟨he, BK.to hb hh h.bel hk (ok_burst h.ok k at_ pat)⟩
theorem cut_bk (k n : Int) (h : BK w0 B st ks w) : Calls Try.prog 63 #[.pointer (some ⟨B, 0, none⟩), .int .i64 k, .int .i64 n] w fun e w' => e = .returned (.int .i64 (cutB st k n).2) ∧ BK w0 B (cutB st k n).1 ks w' := by
  obtain ⟨ob, hb, hh⟩ := h.has
  exact (bcut_any _ B ob st k n w hb h.ok).mono fun e w' ⟨he, hk⟩ => ⟨he, BK.to hb hh h.bel hk (ok_cut h.ok k n)⟩
theorem deliver_bk (k to : Int) (h : BK w0 B st ks w) : Calls Try.prog 110 #[.pointer (some ⟨B, 0, none⟩), .int .i64 k, .int .i64 to] w fun e w' => e = .returned (.tuple #[.string (deliverS st k to).2.1, .int .i64 (deliverS st k to).2.2]) ∧ BK w0 B (deliverS st k to).1 ks w' := by
  obtain ⟨ob, hb, hh⟩ := h.has
  exact (bdeliver_any _ B ob st k to w hb h.ok).mono fun e w' ⟨he, hk⟩ => ⟨he, BK.to hb hh h.bel hk (ok_deliver h.ok k to)⟩
theorem lose_bk (k to : Int) (h : BK w0 B st ks w) : Calls Try.prog 117 #[.pointer (some ⟨B, 0, none⟩), .int .i64 k, .int .i64 to] w fun e w' => e = .returned (.int .i64 (deliverS st k to).2.2) ∧ BK w0 B (deliverS st k to).1 ks w' := by
  obtain ⟨ob, hb, hh⟩ := h.has
  exact (blose_any _ B ob st k to w hb h.ok).mono fun e w' ⟨he, hk⟩ => ⟨he, BK.to hb hh h.bel hk (ok_deliver h.ok k to)⟩
theorem len_bk (h : BK w0 B st ks w) : Calls Try.prog 56 #[.pointer (some ⟨B, 0, none⟩)] w fun e w' => e = .returned (.int .i64 (st.l.length : Int)) ∧ BK w0 B st ks w' := by
  obtain ⟨ob, hb, hh⟩ := h.has
  exact (blen_any _ B ob st.l st.f w hb).mono fun e w' ⟨he, hk⟩ => ⟨he, by rw [hk]; exact h⟩
theorem fault_bk (h : BK w0 B st ks w) : Calls Try.prog 57 #[.pointer (some ⟨B, 0, none⟩)] w fun e w' => e = .returned (.bool st.f) ∧ BK w0 B st ks w' := by
  obtain ⟨ob, hb, hh⟩ := h.has
  exact (bfault_any _ B ob st.l st.f w hb).mono fun e w' ⟨he, hk⟩ => ⟨he, by rw [hk]; exact h⟩
theorem piece_bk (k : Int) (h : BK w0 B st ks w) : Calls Try.prog 61 #[.pointer (some ⟨B, 0, none⟩), .int .i64 k] w fun e w' => e = .returned (.tuple #[pieceA st.l k, .bool (atS st.l k).isSome]) ∧ BK w0 B st ks w' := by
  obtain ⟨ob, hb, hh⟩ := h.has
  unfold pieceA
  cases hk : atS st.l k with
  | none => exact (bpiece_no _ B ob st.l st.f k w hb hk).mono fun e w' ⟨he, hb'⟩ => ⟨he, h.below hb'⟩
  | some p => exact (bpiece_yes _ B ob st.l st.f k p w hb hk h.ok.len).mono fun e w' ⟨he, hb'⟩ => ⟨he, h.below hb'⟩
theorem new_bk (h : Below w0.heap.size w0 w) (hk : ∀ k ∈ ks, Blk w k.n k.cs k.t) : Calls Try.prog 54 #[] w fun e w' => ∃ B, e = .returned (.pointer (some ⟨B, 0, none⟩)) ∧ BK w0 B ⟨[], false⟩ ks w' :=
  (bnew_any w).mono fun e w' ⟨he, hw⟩ => ⟨w.heap.size, he, by
    rw [hw]
    refine ⟨⟨none, bus_new 147 w _ h.size, fun k hq => ⟨(hk k hq).alloc _, ?_, by simp⟩⟩, h.alloc h.size _, ok_nil false⟩
    have := (hk k hq).lt
    omega⟩
end
end Go.Proofs.Ytdhfkcodacmbfaa
