/- Arguments that are arrays of integers, by value, opened. -/
import Derived.Test.YtdhfkcodacmbfaaItems
set_option linter.unusedVariables false
set_option linter.unusedSimpArgs false
namespace Go.Proofs.Ytdhfkcodacmbfaa
open Go.ChangeShapes Go.WideShapes Go.Deep Go.RowKit
section
variable {H : Type} {enc : TypeId × Value → H} {P : Program} {w : World} {base : Nat} {spare : Nat → Bool} {held : Bool}
theorem okWide_array {r : Reach} {b0 : Nat} {t e : TypeId} {n : Nat} {v : Value} (ht : P.underlying t = some (.array n e)) (h : Value.okWide P w r b0 t v) : ∃ cs, v = .agg cs ∧ cs.size = P.cellsOf t := by
  cases v <;> simp_all [Value.okWide]
theorem array_ints {t e : TypeId} {n fuel : Nat} {k : IntKind} {cs : Array Value} {x : DataW H × List MemPlace} (ht : P.underlying t = some (.array n e)) (he : P.underlying e = some (.int k)) (hce : P.cellsOf e = 1) (hn : cs.size = n)
    (h : DataW.trod enc P w base spare held fuel t cs.toList = some x) : ∀ i, i < n → ∃ z, cs[i]? = some (.int k z) ∧ (Lit.int k z).wf = true := by
  intro i hi
  obtain ⟨xs, m, _, _, _, hlen, hg⟩ := DataW.trod_array ht h
  have h1 := hg i hi
  rw [hce, Nat.mul_one] at h1
  have hone : (cs.toList.drop i).take 1 = [cs[i]'(by omega)] := by
    rw [List.drop_eq_getElem_cons (by simp; omega)]
    simp
  rw [hone, List.getElem?_eq_getElem (by omega)] at h1
  obtain ⟨z, e1, _, wf⟩ := DataW.trod_int he h1
  simp at e1
  exact ⟨z, by rw [Array.getElem?_eq_getElem (by omega), e1], wf⟩
theorem open_arr2 {r : Reach} {b0 : Nat} {t e : TypeId} {k : IntKind} {v : Value} {d : DataW H} {p : List MemPlace} (ht : P.underlying t = some (.array 2 e)) (he : P.underlying e = some (.int k)) (hce : P.cellsOf e = 1) (hct : P.cellsOf t = 2)
    (hv : Value.okWide P w r b0 t v) (h : DataW.Trod enc P w base spare held t v d p) : ∃ z0 z1, v = .agg #[.int k z0, .int k z1] ∧ (Lit.int k z0).wf = true ∧ (Lit.int k z1).wf = true := by
  obtain ⟨cs, rfl, hsz⟩ := okWide_array ht hv
  obtain ⟨fuel, hf⟩ := h
  have hi := array_ints ht he hce (hsz.trans hct) hf
  obtain ⟨l⟩ := cs
  match l, hsz.trans hct with
  | [c0, c1], _ =>
    obtain ⟨z0, e0, w0⟩ := hi 0 (by decide)
    obtain ⟨z1, e1, w1⟩ := hi 1 (by decide)
    simp at e0 e1
    subst e0 e1
    exact ⟨z0, z1, rfl, w0, w1⟩
theorem open_arr3 {r : Reach} {b0 : Nat} {t e : TypeId} {k : IntKind} {v : Value} {d : DataW H} {p : List MemPlace} (ht : P.underlying t = some (.array 3 e)) (he : P.underlying e = some (.int k)) (hce : P.cellsOf e = 1) (hct : P.cellsOf t = 3)
    (hv : Value.okWide P w r b0 t v) (h : DataW.Trod enc P w base spare held t v d p) : ∃ z0 z1 z2, v = .agg #[.int k z0, .int k z1, .int k z2] ∧ (Lit.int k z0).wf = true ∧ (Lit.int k z1).wf = true ∧ (Lit.int k z2).wf = true := by
  obtain ⟨cs, rfl, hsz⟩ := okWide_array ht hv
  obtain ⟨fuel, hf⟩ := h
  have hi := array_ints ht he hce (hsz.trans hct) hf
  obtain ⟨l⟩ := cs
  match l, hsz.trans hct with
  | [c0, c1, c2], _ =>
    obtain ⟨z0, e0, w0⟩ := hi 0 (by decide)
    obtain ⟨z1, e1, w1⟩ := hi 1 (by decide)
    obtain ⟨z2, e2, w2⟩ := hi 2 (by decide)
    simp at e0 e1 e2
    subst e0 e1 e2
    exact ⟨z0, z1, z2, rfl, w0, w1, w2⟩
end
end Go.Proofs.Ytdhfkcodacmbfaa
