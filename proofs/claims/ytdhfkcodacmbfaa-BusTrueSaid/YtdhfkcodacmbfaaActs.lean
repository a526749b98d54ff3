/- Acts on a bus: one by value, and a slice of them, opened. -/
import Derived.Test.YtdhfkcodacmbfaaItems
import Derived.Test.YtdhfkcodacmbfaaArr
import Derived.Lib.SmallJoins
set_option linter.unusedVariables false
set_option linter.unusedSimpArgs false
namespace Go.Proofs.Ytdhfkcodacmbfaa
open Go.ChangeShapes Go.WideShapes Go.Deep Go.RowKit Go.Joins

/-- An act. -/
structure ActS where
  what : Int
  k : Int
  at_ : Int
  pat : Int
  s : ByteArray
def ActS.cells (a : ActS) : Array Value := #[.int .u8 a.what, .int .i64 a.k, .int .i64 a.at_, .int .u16 a.pat, .string a.s]
structure ActS.ok (a : ActS) : Prop where
  what : 0 ≤ a.what ∧ a.what < 256
  k : (Lit.int .i64 a.k).wf = true
  at_ : (Lit.int .i64 a.at_).wf = true
  pat : 0 ≤ a.pat ∧ a.pat < 65536
  size : a.s.size ≤ maxLen
theorem wf_range16 {n : Int} (h : (Lit.int .u16 n).wf = true) : 0 ≤ n ∧ n < 65536 := by
  simp [Lit.wf, IntKind.min, IntKind.max, IntKind.signed, IntKind.bits] at h
  omega
section
variable {H : Type} {enc : TypeId × Value → H} {P : Program} {w : World} {base : Nat} {spare : Nat → Bool} {held : Bool}
theorem open_agg5 {r : Reach} {b0 : Nat} {t : TypeId} {f0 f1 f2 f3 f4 : Field} {v : Value} {d : DataW H} {p : List MemPlace} (hs : P.underlying t = some (.struct #[f0, f1, f2, f3, f4])) (hone : oneCellFields P #[f0, f1, f2, f3, f4] = true) (hC : P.cellsOf t = 5)
    (hv : Value.okWide P w r b0 t v) (h : DataW.Trod enc P w base spare held t v d p) :
    ∃ (v0 v1 v2 v3 v4 : Value) (y0 y1 y2 y3 y4 : DataW H × List MemPlace) (n : Nat), v = .agg #[v0, v1, v2, v3, v4] ∧ d = .agg [y0.1, y1.1, y2.1, y3.1, y4.1] ∧ p = y0.2 ++ (y1.2 ++ (y2.2 ++ (y3.2 ++ y4.2))) ∧
      DataW.trod enc P w base spare held n f0.type [v0] = some y0 ∧ DataW.trod enc P w base spare held n f1.type [v1] = some y1 ∧ DataW.trod enc P w base spare held n f2.type [v2] = some y2 ∧ DataW.trod enc P w base spare held n f3.type [v3] = some y3 ∧ DataW.trod enc P w base spare held n f4.type [v4] = some y4 := by
  obtain ⟨cs, rfl, hsz⟩ := okWide_struct hs hv
  obtain ⟨l⟩ := cs
  match l, hsz.trans hC with
  | [c0, c1, c2, c3, c4], _ =>
    obtain ⟨fuel, hf⟩ := h
    obtain ⟨xs, n, _, hx, _, hlen, hg⟩ := DataW.trod_struct hs hf
    obtain ⟨o0, k0⟩ := hone_of hone 0 f0 rfl
    obtain ⟨o1, k1⟩ := hone_of hone 1 f1 rfl
    obtain ⟨o2, k2⟩ := hone_of hone 2 f2 rfl
    obtain ⟨o3, k3⟩ := hone_of hone 3 f3 rfl
    obtain ⟨o4, k4⟩ := hone_of hone 4 f4 rfl
    match xs, hlen with
    | [y0, y1, y2, y3, y4], _ =>
      simp only [Prod.mk.injEq] at hx
      exact ⟨c0, c1, c2, c3, c4, y0, y1, y2, y3, y4, n, rfl, by simpa using hx.1, by simpa using hx.2, by simpa [Value.cells, o0, k0] using hg 0 f0 rfl, by simpa [Value.cells, o1, k1] using hg 1 f1 rfl, by simpa [Value.cells, o2, k2] using hg 2 f2 rfl, by simpa [Value.cells, o3, k3] using hg 3 f3 rfl, by simpa [Value.cells, o4, k4] using hg 4 f4 rfl⟩
end
section
variable {H : Type} {enc : TypeId × Value → H} {w : World} {base : Nat} {spare : Nat → Bool} {held : Bool}
set_option maxRecDepth 100000 in
theorem open_act {r : Reach} {b0 : Nat} {v : Value} {d : DataW H} {p : List MemPlace} (hv : Value.okWide Try.prog w r b0 65 v) (h : DataW.Trod enc Try.prog w base spare held 65 v d p) : ∃ a : ActS, v = .agg a.cells ∧ a.ok := by
  obtain ⟨v0, v1, v2, v3, v4, y0, y1, y2, y3, y4, n, rfl, _, _, t0, t1, t2, t3, t4⟩ := open_agg5 Try.underlying65 (by kernel_rfl) (by kernel_rfl) hv h
  obtain ⟨z0, e0, _, w0⟩ := DataW.trod_int Try.underlying5 t0
  obtain ⟨z1, e1, _, w1⟩ := DataW.trod_int Try.underlying3 t1
  obtain ⟨z2, e2, _, w2⟩ := DataW.trod_int Try.underlying3 t2
  obtain ⟨z3, e3, _, w3⟩ := DataW.trod_int Try.underlying22 t3
  obtain ⟨s4, e4, _, w4⟩ := DataW.trod_string Try.underlying9 t4
  simp at e0 e1 e2 e3 e4
  subst e0 e1 e2 e3 e4
  exact ⟨⟨z0, z1, z2, z3, s4⟩, rfl, ⟨wf_range8 w0, w1, w2, wf_range16 w3, w4⟩⟩
end
/-- The cells of a slice of acts. -/
structure ActsR (w : World) (A : Option Addr) (len : Nat) (f : Nat → ActS) : Prop where
  at_ : ∀ i, i < len → ∃ b off, A = some (⟨b, off, none⟩ : Addr) ∧ w.cell? ⟨b, off + i * 5, none⟩ = some (.int .u8 (f i).what) ∧ w.cell? ⟨b, off + i * 5 + 1, none⟩ = some (.int .i64 (f i).k) ∧ w.cell? ⟨b, off + i * 5 + 2, none⟩ = some (.int .i64 (f i).at_) ∧ w.cell? ⟨b, off + i * 5 + 3, none⟩ = some (.int .u16 (f i).pat) ∧ w.cell? ⟨b, off + i * 5 + 4, none⟩ = some (.string (f i).s)
  ok : ∀ i, i < len → (f i).ok
theorem acts_of {H : Type} {enc : TypeId × Value → H} {W : World} {a : Option Addr} {len cap : Nat} {d : DataW H} {p : List MemPlace} (h : DataW.Trod enc Try.prog W 0 (fun _ => true) true 74 (.slice a len cap) d p) :
    ∃ f : Nat → ActS, ActsR W a len f ∧ len ≤ 9223372036854775807 := by
  obtain ⟨fuel, hf⟩ := h
  rcases open_slice_fields Try.underlying74 Try.underlying65 (by kernel_rfl) (by kernel_rfl) hf with ⟨hcs, _⟩ | ⟨x, l, c, m, D, Pl, hcs, _, hl, hm, hmm, _, hi⟩
  · simp [Value.cells] at hcs
    obtain ⟨rfl, rfl, rfl⟩ := hcs
    exact ⟨fun _ => ⟨0, 0, 0, 0, ⟨#[]⟩⟩, ⟨fun i hi => by omega, fun i hi => by omega⟩, by omega⟩
  · simp [Value.cells] at hcs
    obtain ⟨rfl, rfl, rfl⟩ := hcs
    simp at hmm
    subst hmm
    have big : len ≤ 9223372036854775807 := by
      have : maxLen ≤ 9223372036854775807 := by decide
      omega
    have key : ∀ i, i < len → ∃ it : ActS, (∃ b off, some x = some (⟨b, off, none⟩ : Addr) ∧ W.cell? ⟨b, off + i * 5, none⟩ = some (.int .u8 it.what) ∧ W.cell? ⟨b, off + i * 5 + 1, none⟩ = some (.int .i64 it.k) ∧ W.cell? ⟨b, off + i * 5 + 2, none⟩ = some (.int .i64 it.at_) ∧ W.cell? ⟨b, off + i * 5 + 3, none⟩ = some (.int .u16 it.pat) ∧ W.cell? ⟨b, off + i * 5 + 4, none⟩ = some (.string it.s)) ∧ it.ok := by
      intro i hlt
      obtain ⟨ys, n, _, _, _, hc⟩ := hi i (by omega)
      obtain ⟨v0, y0, c0, _, t0⟩ := hc 0 _ rfl
      obtain ⟨v1, y1, c1, _, t1⟩ := hc 1 _ rfl
      obtain ⟨v2, y2, c2, _, t2⟩ := hc 2 _ rfl
      obtain ⟨v3, y3, c3, _, t3⟩ := hc 3 _ rfl
      obtain ⟨v4, y4, c4, _, t4⟩ := hc 4 _ rfl
      obtain ⟨z0, e0, _, w0⟩ := DataW.trod_int Try.underlying5 t0
      obtain ⟨z1, e1, _, w1⟩ := DataW.trod_int Try.underlying3 t1
      obtain ⟨z2, e2, _, w2⟩ := DataW.trod_int Try.underlying3 t2
      obtain ⟨z3, e3, _, w3⟩ := DataW.trod_int Try.underlying22 t3
      obtain ⟨s4, e4, _, w4⟩ := DataW.trod_string Try.underlying9 t4
      simp at e0 e1 e2 e3 e4
      subst e0 e1 e2 e3 e4
      obtain ⟨b, off, spot⟩ := x
      have hs : spot = none := by
        obtain ⟨ys', n', _, _, _, hc'⟩ := hi 0 (by omega)
        obtain ⟨v', y', c', _, t'⟩ := hc' 0 _ rfl
        simpa [Addr.add] using World.cell?_spot c'
      subst hs
      have ea : ∀ k, (Addr.mk b off none).add k = ⟨b, off + k, none⟩ := fun k => by
        unfold Addr.add
        split
        · next h => subst h; rfl
        · rfl
      rw [ea] at c0 c1 c2 c3 c4
      refine ⟨⟨z0, z1, z2, z3, s4⟩, ⟨b, off, rfl, ?_, ?_, ?_, ?_, ?_⟩, ⟨wf_range8 w0, w1, w2, wf_range16 w3, w4⟩⟩
      · simpa using c0
      · simpa [Nat.add_assoc] using c1
      · simpa [Nat.add_assoc] using c2
      · simpa [Nat.add_assoc] using c3
      · simpa [Nat.add_assoc] using c4
    refine ⟨fun i => if h : i < len then (key i h).choose else ⟨0, 0, 0, 0, ⟨#[]⟩⟩, ⟨fun i h => ?_, fun i h => ?_⟩, big⟩
    · simp only [h, dite_true]
      exact (key i h).choose_spec.1
    · simp only [h, dite_true]
      exact (key i h).choose_spec.2
end Go.Proofs.Ytdhfkcodacmbfaa
