/- Sets of addresses, as the document has them: Without. -/
import Derived.Test.YtdhfkcodacmbfaaMemB
set_option linter.unusedVariables false
set_option linter.unusedSimpArgs false
namespace Go.Proofs.Ytdhfkcodacmbfaa
open Go.RowKit

def foldA (a : Int) : List Nat → Nat := List.foldl (fun o j => if (j : Int) = a then o else withA o (j : Int)) 0
theorem foldA_snoc (a : Int) (l : List Nat) (j : Nat) : foldA a (l ++ [j]) = if (j : Int) = a then foldA a l else withA (foldA a l) (j : Int) := by
  unfold foldA
  rw [List.foldl_append]
  rfl
theorem snocInd {α : Type} {P : List α → Prop} (h0 : P []) (h1 : ∀ l a, P l → P (l ++ [a])) (l : List α) : P l := by
  have h : ∀ r : List α, P r.reverse := by
    intro r
    induction r with
    | nil => exact h0
    | cons a r ih => rw [List.reverse_cons]; exact h1 _ _ ih
  have := h l.reverse
  rwa [List.reverse_reverse] at this
theorem foldA_bit (a : Int) (l : List Nat) (hl : ∀ j ∈ l, j < 32) : foldA a l < 4294967296 ∧ ∀ i, (foldA a l).testBit i = (decide (i ∈ l) && !decide ((i : Int) = a)) := by
  revert hl
  refine snocInd (P := fun l => (∀ j ∈ l, j < 32) → foldA a l < 4294967296 ∧ ∀ i, (foldA a l).testBit i = (decide (i ∈ l) && !decide ((i : Int) = a))) ?_ ?_ l
  · exact fun _ => ⟨by show 0 < 4294967296; decide, fun i => by simp [foldA]⟩
  · intro l j ih hl
    obtain ⟨h1, h2⟩ := ih (fun x hx => hl x (by simp [hx]))
    have hj := hl j (by simp)
    rw [foldA_snoc]
    by_cases e : (j : Int) = a
    · rw [if_pos e]
      refine ⟨h1, fun i => ?_⟩
      rw [h2]
      by_cases hi : (i : Int) = a
      · simp [hi]
      · have : ¬ i = j := by omega
        simp [hi, this]
    · rw [if_neg e]
      have hw := fun i => with_bit (foldA a l) j hj h1 i
      refine ⟨(hw 0).2, fun i => ?_⟩
      rw [(hw i).1, h2]
      by_cases hi : (i : Int) = a
      · have : ¬ i = j := by omega
        simp [hi, this]
      · by_cases q : i = j
        · subst q; simp [hi]
        · simp [hi, q]
theorem mem_listA (s k j : Nat) : j ∈ listA s k ↔ j < k ∧ s.testBit j = true := by simp [listA]
theorem fold_without (s : Nat) (a : Int) (hs : s < 4294967296) : foldA a (listA s 32) = withoutA s a := by
  apply Nat.eq_of_testBit_eq
  intro i
  rw [(foldA_bit a _ (fun j hj => ((mem_listA s 32 j).1 hj).1)).2, without_bit s a i hs]
  congr 1
  by_cases hi : i < 32
  · rw [Bool.eq_iff_iff]
    simp [mem_listA, hi]
  · have : s.testBit i = false := Nat.testBit_lt_two_pow (Nat.lt_of_lt_of_le hs (by
      calc 4294967296 = 2 ^ 32 := by decide
        _ ≤ 2 ^ i := Nat.pow_le_pow_right (by omega) (by omega)))
    simp [mem_listA, hi, this]
theorem nint_get (l : List Nat) (k : Nat) (hk : k < l.length) : (nint l)[k]? = some (.int .i64 ((l.getD k 0 : Nat) : Int)) := by
  simp [nint, hk]
set_option maxRecDepth 100000 in
set_option maxHeartbeats 1000000 in
theorem rwithout_any (s : Nat) (a : Int) (w : World) (hs : s < 4294967296) : Calls Try.prog 142 #[.int .u32 (s : Int), .int .i64 a] w fun e w' => e = .returned (.int .u32 ((withoutA s a : Nat) : Int)) ∧ Below w.heap.size w w' := by
  have HL := Lib.hid (fun W => rlist_any s W hs)
  have hf := fold_without s a hs
  have hb := fun l hl => (foldA_bit a l hl).1
  have hlen := listA_le s 32
  have hmem := fun j (hj : j ∈ listA s 32) => ((mem_listA s 32 j).1 hj).1
  rw [← hf]
  unfold ListTo at HL
  clear hf
  generalize listA s 32 = l at *
  have HM := Lib.hid hmem
  have HB := Lib.hid hb
  clear hmem hb
  go_enter Try.func142, Try.ntmps142
  go_wp2_with fail
  refine (HL.out _).mono ?_
  rintro e w1 ⟨A, c, rfl, ho, bel⟩
  go_wp2_with fail
  go_loop [5, 7] (fun o i => ∃ k : Nat, k ≤ l.length ∧ i = .int .i64 k ∧ o = .int .u32 ((foldA a (l.take k) : Nat) : Int)) (fun _ i => l.length - (intOf i).toNat)
  case atStart => exact ⟨0, Nat.zero_le _, rfl, rfl⟩
  case round =>
    obtain ⟨k, hk, rfl, rfl⟩ := hrel
    by_cases hlt : k < l.length
    · have hlt' : (k : Int) < (l.length : Int) := by omega
      obtain ⟨g, rfl⟩ : ∃ g, A = some ⟨g, 0, none⟩ := by
        rcases ho.2 with ⟨q, q0⟩ | ⟨g, cap, cur, q, _⟩
        · omega
        · injection q with q1 q2
          exact ⟨g, q1⟩
      have hc := ho.cellAt k (by omega)
      rw [nint_get l k hlt] at hc
      have hj := HM.out (l.getD k 0) (by
        rw [List.getD_eq_getElem?_getD, List.getElem?_eq_getElem hlt]
        exact List.getElem_mem hlt)
      have htk : l.take (k + 1) = l.take k ++ [l.getD k 0] := by
        rw [List.take_succ_eq_append_getElem hlt]
        simp [List.getD_eq_getElem?_getD, hlt]
      have hfb := HB.out (l.take k) (fun j hj => HM.out j (List.mem_of_mem_take hj))
      have hsn := foldA_snoc a (l.take k) (l.getD k 0)
      rw [← htk] at hsn
      have HW := Lib.hid (fun W => rwith_any (foldA a (l.take k)) (((l.getD k 0 : Nat)) : Int) W hfb)
      clear htk hfb ho HM HB HL
      generalize l.getD k 0 = j at *
      by_cases e : (j : Int) = a
      · rw [if_pos e] at hsn
        have HS := Lib.hid hsn
        have e' : ((j : Int) != a) = false := by simpa using e
        clear hsn
        generalize foldA a (l.take k) = o at *
        have HE := Lib.hid e
        clear e
        go_wp2_with fail
        go_round
        case rel => exact ⟨k + 1, by omega, by go_num, by rw [HS.out]⟩
        case measure => simp [intOf]; omega
      · rw [if_neg e] at hsn
        have HS := Lib.hid hsn
        have e' : ((j : Int) != a) = true := by simpa using e
        clear hsn
        generalize foldA a (l.take k) = o at *
        have HE := Lib.hid e
        clear e
        go_wp2_with fail
        refine (HW.out _).mono ?_
        rintro e w2 ⟨rfl, rfl⟩
        go_wp2_with fail
        go_round
        case rel => exact ⟨k + 1, by omega, by go_num, by rw [HS.out]⟩
        case measure => simp [intOf]; omega
    · obtain rfl : k = l.length := by omega
      go_wp2_with fail
      go_ret
      refine ⟨ret_int (by first | rfl | rw [List.take_length]), bel⟩
end Go.Proofs.Ytdhfkcodacmbfaa
