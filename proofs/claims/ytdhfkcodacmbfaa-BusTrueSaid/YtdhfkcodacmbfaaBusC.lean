/- The medium (bus): a piece is taken out (slices.Delete). -/
import Derived.Test.YtdhfkcodacmbfaaBusB
set_option linter.unusedVariables false
set_option linter.unusedSimpArgs false
namespace Go.Proofs.Ytdhfkcodacmbfaa
open Go.RowKit

/-- Cells stored one behind the other into a block that is known whole. -/
theorem setCells_row (w : World) (g o : Nat) (t : TypeId) (cur : Array Value) (vs : List Value) (hg : w.heap[g]? = some (.cells cur t (0, 0))) (hl : o + vs.length ≤ cur.size) (h1 : ∀ v ∈ vs, v.oneCell' = true) :
    w.setCells g o vs = w.setRow g (cur.toList.take o ++ vs ++ cur.toList.drop (o + vs.length)).toArray := by
  have a := run_storeCells_at Try.prog g o t vs 0 cur w hg (by omega) h1
  have b := run_storeCells_cells (P := Try.prog) g o vs 0 w (fun j hj => by
    rw [cell_of_row w g _ cur t (0, 0) hg, Array.getElem?_eq_getElem (by omega)]
    rfl) (fun j hj => frozen_of_row w g _ cur t hg) h1
  rw [a] at b
  simp only [Nat.add_zero] at b
  injection b with _ b
  exact b.symm
theorem pcs_one (l : List PieceS) : ∀ u ∈ pcs l, u.oneCell' = true := by
  intro u hu
  simp only [pcs, List.mem_flatMap] at hu
  obtain ⟨p, _, hp⟩ := hu
  exact p.cells_one u hp
theorem pcs_take (l : List PieceS) (k : Nat) : (pcs l).take (k * 4) = pcs (l.take k) := by
  have h : pcs l = pcs (l.take k) ++ pcs (l.drop k) := by rw [← pcs_append, List.take_append_drop]
  by_cases hk : k ≤ l.length
  · rw [h, List.take_append_of_le_length (by rw [pcs_length, List.length_take]; omega), List.take_of_length_le (by rw [pcs_length, List.length_take]; omega)]
  · rw [List.take_of_length_le (by rw [pcs_length]; omega), List.take_of_length_le (by omega)]
theorem pcs_drop (l : List PieceS) (k : Nat) : (pcs l).drop (k * 4) = pcs (l.drop k) := by
  have h : pcs l = pcs (l.take k) ++ pcs (l.drop k) := by rw [← pcs_append, List.take_append_drop]
  by_cases hk : k ≤ l.length
  · have hl : (pcs (l.take k)).length = k * 4 := by rw [pcs_length, List.length_take]; omega
    rw [h, List.drop_append_of_le_length (by omega), List.drop_of_length_le (by omega), List.nil_append]
  · rw [List.drop_of_length_le (by rw [pcs_length]; omega), List.drop_of_length_le (by omega)]
    rfl
theorem drop_cell (cs : List Value) (n j : Nat) (u : Value) (cur : Array Value) (m : Nat) (ht : cur.toList.take m = cs) (h : (cs.drop n)[j]? = some u) : cur[n + j]? = some u := by
  rw [List.getElem?_drop, ← ht, List.getElem?_take] at h
  split at h
  · rw [← Array.getElem?_toList]
    exact h
  · cases h
def zeroP : List Value := [.string ⟨#[]⟩, .int .i64 0, .int .u32 0, .bool false]
theorem run_clear_piece (w : World) (g o c : Nat) (ty : TypeId) (cur : Array Value) (hg : w.heap[g]? = some (.cells cur 69 (0, 0))) (hl : o + 4 ≤ cur.size) :
    (Builtin.clear_ #[83] ty #[.slice (some ⟨g, o, none⟩) 1 c]).run Try.prog w = .ok (.tuple #[]) (w.setRow g (cur.toList.take o ++ zeroP ++ cur.toList.drop (o + 4)).toArray) := by
  have hzc : (Builtin.zeroCells (Value.agg #[.string ⟨#[]⟩, .int .i64 0, .int .u32 0, .bool false]).cells 1).toList = zeroP := by kernel_rfl
  have hst := run_storeCells_at Try.prog g o 69 zeroP 0 cur w hg (by show o + 0 + 4 ≤ _; omega) (by decide)
  simp only [Nat.add_zero] at hst
  simp [Builtin.clear_, run_underlying Try.underlying83, Try.zeroValue69, hzc, hst]
  rfl
set_option maxRecDepth 100000 in
set_option maxHeartbeats 2000000 in
theorem delete_any (w : World) (S g n cap k : Nat) (l : List PieceS) (ho : w.ownsRow S 69 4 (.slice (some ⟨g, 0, none⟩) n cap) n (pcs l)) (hln : l.length = n) (hk : k < n) (hn : n ≤ 64) :
    Calls Try.prog 114 #[.slice (some ⟨g, 0, none⟩) n cap, .int .i64 (k : Int), .int .i64 ((k : Int) + 1)] w fun e w' => e = .returned (.slice (some ⟨g, 0, none⟩) (n - 1) cap) ∧
      w'.ownsRow S 69 4 (.slice (some ⟨g, 0, none⟩) (n - 1) cap) (n - 1) (pcs (l.eraseIdx k)) ∧ w.grownBy w' (some g) := by
  rcases ho.2 with ⟨h', _⟩ | ⟨g', cap', cur, h', hS, hg, hnc, hcm, hcs, htake⟩
  · simp at h'
  simp only [Value.slice.injEq, Option.some.injEq, Addr.mk.injEq, and_true, true_and] at h'
  obtain ⟨rfl, rfl⟩ := h'
  have hcm' : cap ≤ 9223372036854775807 := hcm
  obtain ⟨i0, hi, hz0, hz1, hz2⟩ := info_parts info69
  -- what is moved
  obtain ⟨news, hnews⟩ : ∃ news, news = pcs (l.drop (k + 1)) := ⟨_, rfl⟩
  have hlen : news.length = (n - (k + 1)) * 4 := by rw [hnews, pcs_length, List.length_drop, hln]
  have hone : ∀ u ∈ news, u.oneCell' = true := by rw [hnews]; exact pcs_one _
  have hd : w.drew.heap[g]? = some (.cells cur 69 (0, 0)) := hg
  obtain ⟨A, hA, hsrc⟩ : ∃ A : Addr, (if cap = k + 1 then some (⟨g, 0, none⟩ : Addr) else some ⟨g, (k + 1) * 4, none⟩) = some A ∧ Hid (∀ t u, news[t]? = some u → w.drew.cell? (A.add t) = some u) := by
    by_cases h : cap = k + 1
    · refine ⟨⟨g, 0, none⟩, by simp [h], fun t u hu => ?_⟩
      have h0 : news.length = 0 := by rw [hlen]; omega
      rw [List.length_eq_zero_iff.1 h0] at hu
      simp at hu
    · refine ⟨⟨g, (k + 1) * 4, none⟩, by simp [h], fun t u hu => ?_⟩
      rw [Addr.add_lit, cell_of_row _ g _ cur 69 (0, 0) hd]
      rw [hnews, ← pcs_drop] at hu
      exact drop_cell _ _ _ _ cur _ htake hu
  obtain ⟨c1, hc1⟩ : ∃ c1, c1 = (cur.toList.take (k * 4) ++ news ++ cur.toList.drop (k * 4 + news.length)).toArray := ⟨_, rfl⟩
  have hc1s : c1.size = cap * 4 := by
    rw [hc1]
    simp only [List.size_toArray, List.length_append, List.length_take, List.length_drop, Array.length_toList]
    omega
  have hW1 : w.drew.setCells g (0 + k * 4) news = w.drew.setRow g c1 := by
    rw [setCells_row w.drew g (0 + k * 4) 69 cur news hd (by omega) hone, hc1, Nat.zero_add]
  obtain ⟨W1, hW1e⟩ : ∃ W1, W1 = w.drew.setRow g c1 := ⟨_, rfl⟩
  have hgW1 : W1.heap[g]? = some (.cells c1 69 (0, 0)) := by rw [hW1e]; exact setRow_heap w.drew g cur c1 69 _ hd
  have hcl : ∀ ty, (Builtin.clear_ #[83] ty #[.slice (some ⟨g, (n - 1) * 4, none⟩) (n - (n - 1)) (cap - (n - 1))]).run Try.prog W1 = .ok (.tuple #[]) (W1.setRow g (c1.toList.take ((n - 1) * 4) ++ zeroP ++ c1.toList.drop ((n - 1) * 4 + 4)).toArray) :=
    fun ty => by rw [show n - (n - 1) = 1 by omega]; exact run_clear_piece W1 g _ _ ty c1 hgW1 (by omega)
  obtain ⟨c2, hc2⟩ : ∃ c2, c2 = (c1.toList.take ((n - 1) * 4) ++ zeroP ++ c1.toList.drop ((n - 1) * 4 + 4)).toArray := ⟨_, rfl⟩
  rw [← hc2] at hcl
  have hc2s : c2.size = cap * 4 := by
    rw [hc2]
    simp only [List.size_toArray, List.length_append, List.length_take, List.length_drop, Array.length_toList]
    rw [show zeroP.length = 4 from rfl]
    omega
  have htk : c2.toList.take ((n - 1) * 4) = pcs (l.eraseIdx k) := by
    have e1 : c1.toList.take ((n - 1) * 4) = pcs (l.take k) ++ news := by
      have e0 : (cur.toList.take (k * 4)) = pcs (l.take k) := by rw [← pcs_take, ← htake, List.take_take, Nat.min_eq_left (by omega)]
      rw [hc1, e0, List.toList_toArray, List.take_append_of_le_length (by rw [List.length_append, pcs_length, List.length_take, hlen]; omega), List.take_of_length_le (by rw [List.length_append, pcs_length, List.length_take, hlen]; omega)]
    rw [hc2, List.toList_toArray, List.append_assoc, List.take_append_of_le_length (by rw [List.length_take, Array.length_toList]; omega), List.take_take, Nat.min_self, e1, hnews, ← pcs_append, ← List.eraseIdx_eq_take_drop_succ]
  have hfin : Hid ((W1.setRow g c2).ownsRow S 69 4 (.slice (some ⟨g, 0, none⟩) (n - 1) cap) (n - 1) (pcs (l.eraseIdx k)) ∧ w.grownBy (W1.setRow g c2) (some g)) := by
    refine ⟨⟨by rw [pcs_length, List.length_eraseIdx, if_pos (by omega)]; omega, .inr ⟨g, cap, c2, rfl, hS, setRow_heap W1 g c1 c2 69 _ hgW1, by omega, hcm, hc2s, htk⟩⟩, ?_⟩
    rw [hW1e]
    exact ⟨rfl, rfl, rfl, by simp [World.setRow], fun j _ hj => (setRow_other _ g j _ (fun e => hj (by rw [e]))).trans (setRow_other _ g j _ (fun e => hj (by rw [e])))⟩
  have s3 : Hid (∀ t, t < news.length → (w.drew.cell? ⟨g, 0 + k * 4 + t, none⟩).isSome = true ∧ w.drew.frozen? ⟨g, 0 + k * 4 + t, none⟩ = false) := by
    intro t ht
    rw [hlen] at ht
    refine ⟨?_, frozen_of_row _ g _ cur 69 hd⟩
    rw [cell_of_row _ g _ cur 69 (0, 0) hd, Array.getElem?_eq_getElem (by omega)]
    rfl
  have s1 : Hid (news.length = (n - (k + 1)) * 4) := hlen
  have s2 : Hid (∀ u ∈ news, u.oneCell' = true) := hone
  have HW : Hid (w.drew.setCells g (0 + k * 4) news = W1) := hW1.trans hW1e.symm
  have h1 : (k : Int) + 1 ≤ n := by omega
  have h2 : (k : Int) + 1 ≤ cap := by omega
  have h3 : (k : Int) ≤ cap := by omega
  have h4 : (k : Int) ≤ (k : Int) + 1 := by omega
  have hkc : k ≤ cap := by omega
  have h0 : (0 : Int) ≤ (k : Int) + 1 := by omega
  clear hlen hone hd hc1 hc1s hW1 hW1e hgW1 hc2 hc2s htk ho hg hcs htake hnews hS hcm
  have h5 : k + (n - (k + 1)) = n - 1 := by omega
  go_enter Try.func114, Try.ntmps114
  go_wp2_with fail
  go_region_law ((refine step_append_room rfl (.tmp 22) (.tmp 25) 83 rfl 69 i0 4 Try.underlying83 hi hz1 g 0 k cap (by simp [Act.eval, Act.put]) A (n - (k + 1)) (cap - (k + 1)) news (by simp [Act.eval, Act.put]) s1.out hsrc.out s2.out (by omega) s3.out ?_; rw [HW.out]))
  all_goals
    go_wp2_with fail
    go_ret
    exact ⟨rfl, hfin.out⟩
end Go.Proofs.Ytdhfkcodacmbfaa
