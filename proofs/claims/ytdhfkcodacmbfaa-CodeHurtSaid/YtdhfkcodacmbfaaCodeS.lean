/- Instructions: a slice of them, opened. -/
import Derived.Test.YtdhfkcodacmbfaaItems
import Derived.Lib.SmallJoins
import Derived.Test.YtdhfkcodacmbfaaCodeE
set_option linter.unusedVariables false
set_option linter.unusedSimpArgs false
namespace Go.Proofs.Ytdhfkcodacmbfaa
open Go.ChangeShapes Go.WideShapes Go.Deep Go.RowKit Go.Joins

theorem instrs_of {H : Type} {enc : TypeId × Value → H} {W : World} {a : Option Addr} {len cap : Nat} {d : DataW H} {p : List MemPlace} (h : DataW.Trod enc Try.prog W 0 (fun _ => true) true 117 (.slice a len cap) d p) :
    ∃ l : List InstrS, l.length = len ∧ InsR W a l ∧ l.length ≤ 9223372036854775807 := by
  obtain ⟨fuel, hf⟩ := h
  rcases open_slice_fields Try.underlying117 Try.underlying174 (by kernel_rfl) (by kernel_rfl) hf with ⟨hcs, _⟩ | ⟨x, l, c, m, D, Pl, hcs, _, hl, hm, hmm, _, hi⟩
  · simp [Value.cells] at hcs
    obtain ⟨rfl, rfl, rfl⟩ := hcs
    exact ⟨[], rfl, ⟨fun k i h => (by cases h), fun i h => (by cases h)⟩, by decide⟩
  · simp [Value.cells] at hcs
    obtain ⟨rfl, rfl, rfl⟩ := hcs
    simp at hmm
    subst hmm
    have big : len ≤ 9223372036854775807 := by
      have : maxLen ≤ 9223372036854775807 := by decide
      omega
    have key : ∀ i, i < len → ∃ it : InstrS, (∃ b off, some x = some (⟨b, off, none⟩ : Addr) ∧ W.cell? ⟨b, off + i * 5, none⟩ = some (.int .i64 it.op) ∧ W.cell? ⟨b, off + i * 5 + 1, none⟩ = some (.int .i64 it.kind) ∧ W.cell? ⟨b, off + i * 5 + 2, none⟩ = some (.int .i64 it.area) ∧ W.cell? ⟨b, off + i * 5 + 3, none⟩ = some (.int .i64 it.at_) ∧ W.cell? ⟨b, off + i * 5 + 4, none⟩ = some (.int .i64 it.n)) ∧ it.ok := by
      intro i hlt
      obtain ⟨ys, n, _, _, _, hc⟩ := hi i (by omega)
      obtain ⟨v0, y0, c0, _, t0⟩ := hc 0 _ rfl
      obtain ⟨v1, y1, c1, _, t1⟩ := hc 1 _ rfl
      obtain ⟨v2, y2, c2, _, t2⟩ := hc 2 _ rfl
      obtain ⟨v3, y3, c3, _, t3⟩ := hc 3 _ rfl
      obtain ⟨v4, y4, c4, _, t4⟩ := hc 4 _ rfl
      obtain ⟨z0, e0, _, w0⟩ := DataW.trod_int Try.underlying3 t0
      obtain ⟨z1, e1, _, w1⟩ := DataW.trod_int Try.underlying3 t1
      obtain ⟨z2, e2, _, w2⟩ := DataW.trod_int Try.underlying3 t2
      obtain ⟨z3, e3, _, w3⟩ := DataW.trod_int Try.underlying3 t3
      obtain ⟨z4, e4, _, w4⟩ := DataW.trod_int Try.underlying2 t4
      simp at e0 e1 e2 e3 e4
      subst e0 e1 e2 e3 e4
      obtain ⟨b, off, spot⟩ := x
      have hs : spot = none := by
        obtain ⟨ys', n', _, _, _, hc'⟩ := hi 0 (by omega)
        obtain ⟨v', y', c', _, t'⟩ := hc' 0 _ rfl
        simpa [Addr.add] using World.cell?_spot c'
      subst hs
      have ea : ∀ k, (Addr.mk b off none).add k = ⟨b, off + k, none⟩ := fun k => by
        unfold Addr.add
        split
        · next h => subst h; rfl
        · rfl
      rw [ea] at c0 c1 c2 c3 c4
      refine ⟨⟨z0, z1, z2, z3, z4⟩, ⟨b, off, rfl, ?_, ?_, ?_, ?_, ?_⟩, ⟨w0, w1, w2, w3, w4⟩⟩
      · simpa using c0
      · simpa [Nat.add_assoc] using c1
      · simpa [Nat.add_assoc] using c2
      · simpa [Nat.add_assoc] using c3
      · simpa [Nat.add_assoc] using c4
    obtain ⟨f, hf⟩ : ∃ f : Nat → InstrS, ∀ i, i < len → (∃ b off, some x = some (⟨b, off, none⟩ : Addr) ∧ W.cell? ⟨b, off + i * 5, none⟩ = some (.int .i64 (f i).op) ∧ W.cell? ⟨b, off + i * 5 + 1, none⟩ = some (.int .i64 (f i).kind) ∧ W.cell? ⟨b, off + i * 5 + 2, none⟩ = some (.int .i64 (f i).area) ∧ W.cell? ⟨b, off + i * 5 + 3, none⟩ = some (.int .i64 (f i).at_) ∧ W.cell? ⟨b, off + i * 5 + 4, none⟩ = some (.int .i64 (f i).n)) ∧ (f i).ok :=
      ⟨fun i => if h : i < len then (key i h).choose else ⟨0, 0, 0, 0, 0⟩, fun i h => by
        simp only [h, dite_true]
        exact (key i h).choose_spec⟩
    refine ⟨(List.range len).map f, by simp, ⟨fun k i hk => ?_, fun i hi' => ?_⟩, by simpa using big⟩
    · have hlt : k < len := by
        have := (List.getElem?_eq_some_iff.1 hk).1
        simpa using this
      have : f k = i := by
        rw [List.getElem?_map, List.getElem?_range hlt] at hk
        simpa using hk
      rw [← this]
      exact (hf k hlt).1
    · obtain ⟨j, hj, rfl⟩ := List.mem_map.1 hi'
      exact (hf j (by simpa using hj)).2
end Go.Proofs.Ytdhfkcodacmbfaa
