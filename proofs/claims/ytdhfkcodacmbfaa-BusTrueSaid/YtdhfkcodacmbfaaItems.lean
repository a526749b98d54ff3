/- An argument that is a slice of items, opened to its cells. -/
import Derived.Test.YtdhfkcodacmbfaaOct
import Derived.Deep.Slices
import Derived.Deep.Fields
import Derived.ChangeSame
import Derived.ProofKit
import Derived.OpenShut
set_option linter.unusedVariables false
set_option linter.unusedSimpArgs false
namespace Go.Proofs.Ytdhfkcodacmbfaa
open Go.ChangeShapes Go.WideShapes Go.Deep Go.RowKit

section
variable {H : Type} {enc : TypeId × Value → H} {P : Program} {w : World} {base : Nat} {spare : Nat → Bool} {held : Bool}
theorem open_slice_fields {t e : TypeId} {fs : Array Field} {fuel : Nat} {cs : List Value} {x : DataW H × List MemPlace} (ht : P.underlying t = some (.slice e)) (he : P.underlying e = some (.struct fs))
    (hone : oneCellFields P fs = true) (hC : P.cellsOf e = fs.size) (h : DataW.trod enc P w base spare held fuel t cs = some x) :
    (cs = [.slice none 0 0] ∧ x = (.nil, [])) ∨
    ∃ (a : Addr) (len cap m : Nat) (D : Nat → DataW H) (Pl : Nat → List MemPlace), cs = [.slice (some a) len cap] ∧ base ≤ a.block ∧ len ≤ cap ∧ cap ≤ maxLen ∧ m = (if spare a.block then cap else len) ∧
      x = (.slice ((List.range len).map D) ((List.range (m - len)).map fun j => D (len + j)), MemPlace.row a (m * fs.size) ++ (List.range m).flatMap Pl) ∧
      ∀ i, i < m → ∃ (ys : List (DataW H × List MemPlace)) (n : Nat), D i = .agg (ys.map (·.1)) ∧ Pl i = ys.flatMap (·.2) ∧ ys.length = fs.size ∧
        ∀ (j : Nat) (f : Field), fs[j]? = some f → ∃ (v : Value) (y : DataW H × List MemPlace), w.cell? (a.add (i * fs.size + j)) = some v ∧ ys[j]? = some y ∧ DataW.trod enc P w base spare held n f.type [v] = some y := by
  rcases open_slice ht h with h0 | ⟨a, len, cap, m, n, D, Pl, hcs, hb, hl, hm, hmm, hx, hi⟩
  · exact .inl h0
  · refine .inr ⟨a, len, cap, m, D, Pl, hcs, hb, hl, hm, hmm, by rw [hC] at hx; exact hx, fun i him => ?_⟩
    obtain ⟨cs', hc, ht'⟩ := hi i him
    rw [hC] at hc
    obtain ⟨ys, n', hn', hy, hlen, hyl, hf⟩ := DataW.trod_struct he ht'
    obtain ⟨_, hcl, hat⟩ := World.cells?_some hc
    simp only [Prod.mk.injEq] at hy
    refine ⟨ys, n', hy.1, hy.2, hyl, fun j f hj => ?_⟩
    obtain ⟨ho, hk⟩ := hone_of hone j f hj
    have hjl : j < fs.size := (Array.getElem?_eq_some_iff.1 hj).1
    have hcell := hat j hjl
    have hv : cs'[j]? = some (cs'[j]'(by omega)) := List.getElem?_eq_getElem (by omega)
    have h1 := hf j f hj
    rw [ho, hk] at h1
    have hone' : (cs'.drop j).take 1 = [cs'[j]'(by omega)] := by
      rw [List.drop_eq_getElem_cons (by omega)]
      rfl
    rw [hone'] at h1
    have hys : ys[j]? = some (ys[j]'(by omega)) := List.getElem?_eq_getElem (by omega)
    refine ⟨_, _, ?_, hys, h1.trans hys⟩
    rw [← Go.Deep.add_add, hcell, hv]
end

theorem wf_range8 {n : Int} (h : (Lit.int .u8 n).wf = true) : 0 ≤ n ∧ n < 256 := by
  simp [Lit.wf, IntKind.min, IntKind.max, IntKind.signed, IntKind.bits] at h
  omega
theorem wf_range32 {n : Int} (h : (Lit.int .u32 n).wf = true) : 0 ≤ n ∧ n < 4294967296 := by
  simp [Lit.wf, IntKind.min, IntKind.max, IntKind.signed, IntKind.bits] at h
  omega
theorem items_of {H : Type} {enc : TypeId × Value → H} {W : World} {a : Option Addr} {len cap : Nat} {d : DataW H} {p : List MemPlace} (h : DataW.Trod enc Try.prog W 0 (fun _ => true) true 32 (.slice a len cap) d p) :
    ∃ f : Nat → Item, Items W a len f ∧ len ≤ 9223372036854775807 := by
  obtain ⟨fuel, hf⟩ := h
  rcases open_slice_fields Try.underlying32 Try.underlying40 (by kernel_rfl) (by kernel_rfl) hf with ⟨hcs, _⟩ | ⟨x, l, c, m, D, Pl, hcs, _, hl, hm, hmm, _, hi⟩
  · simp [Value.cells] at hcs
    obtain ⟨rfl, rfl, rfl⟩ := hcs
    exact ⟨fun _ => default, ⟨fun i hi => by omega, fun i hi => by omega⟩, by omega⟩
  · simp [Value.cells] at hcs
    obtain ⟨rfl, rfl, rfl⟩ := hcs
    simp at hmm
    subst hmm
    have big : len ≤ 9223372036854775807 := by
      have : maxLen ≤ 9223372036854775807 := by decide
      omega
    have key : ∀ i, i < len → ∃ it : Item, (∃ b off, some x = some (⟨b, off, none⟩ : Addr) ∧ W.cell? ⟨b, off + i * 3, none⟩ = some (.int .u8 it.what) ∧ W.cell? ⟨b, off + i * 3 + 1, none⟩ = some (.int .u32 it.n) ∧ W.cell? ⟨b, off + i * 3 + 2, none⟩ = some (.string it.s)) ∧ it.ok := by
      intro i hlt
      obtain ⟨ys, n, _, _, _, hc⟩ := hi i (by omega)
      obtain ⟨v0, y0, c0, _, t0⟩ := hc 0 _ rfl
      obtain ⟨v1, y1, c1, _, t1⟩ := hc 1 _ rfl
      obtain ⟨v2, y2, c2, _, t2⟩ := hc 2 _ rfl
      obtain ⟨n0, e0, _, w0⟩ := DataW.trod_int Try.underlying5 t0
      obtain ⟨n1, e1, _, w1⟩ := DataW.trod_int Try.underlying38 t1
      obtain ⟨s2, e2, _, w2⟩ := DataW.trod_string Try.underlying9 t2
      simp at e0 e1 e2
      subst e0 e1 e2
      obtain ⟨b, off, spot⟩ := x
      have hs : spot = none := by
        obtain ⟨ys', n', _, _, _, hc'⟩ := hi 0 (by omega)
        obtain ⟨v', y', c', _, t'⟩ := hc' 0 _ rfl
        simpa [Addr.add] using World.cell?_spot c'
      subst hs
      have ea : ∀ k, (Addr.mk b off none).add k = ⟨b, off + k, none⟩ := fun k => by
        unfold Addr.add
        split
        · next h => subst h; rfl
        · rfl
      rw [ea] at c0 c1 c2
      have s3 : s2.size ≤ 9223372036854775807 := by
        have : maxLen ≤ 9223372036854775807 := by decide
        omega
      refine ⟨⟨n0, n1, s2⟩, ⟨b, off, rfl, ?_, ?_, ?_⟩, ⟨(wf_range8 w0).1, (wf_range8 w0).2, (wf_range32 w1).1, (wf_range32 w1).2, s3⟩⟩
      · simpa using c0
      · simpa [Nat.add_assoc] using c1
      · simpa [Nat.add_assoc] using c2
    refine ⟨fun i => if h : i < len then (key i h).choose else default, ⟨fun i h => ?_, fun i h => ?_⟩, big⟩
    · simp only [h, dite_true]
      exact (key i h).choose_spec.1
    · simp only [h, dite_true]
      exact (key i h).choose_spec.2
end Go.Proofs.Ytdhfkcodacmbfaa
