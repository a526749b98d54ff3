/- Sets of addresses, as the document has them: With, List, Without. -/
import Derived.Test.YtdhfkcodacmbfaaMem
import Derived.Test.YtdhfkcodacmbfaaPen
set_option linter.unusedVariables false
set_option linter.unusedSimpArgs false
namespace Go.Proofs.Ytdhfkcodacmbfaa
open Go.RowKit

set_option maxRecDepth 100000 in
theorem rwith_any (s : Nat) (a : Int) (w : World) (hs : s < 4294967296) : Calls Try.prog 155 #[.int .u32 (s : Int), .int .i64 a] w fun e w' => e = .returned (.int .u32 ((withA s a : Nat) : Int)) ∧ w' = w := by
  have H := Lib.hid (fun W => rhas_any s a W hs)
  by_cases h0 : a < 0
  · rw [show withA s a = s by unfold withA; rw [if_pos (.inl (isA_no (.inl h0)))]]
    go_enter Try.func155, Try.ntmps155
    go_wp2_with fail
    go_ret
    exact ⟨rfl, rfl⟩
  · by_cases h1 : 31 < a
    · rw [show withA s a = s by unfold withA; rw [if_pos (.inl (isA_no (.inr (by omega))))]]
      go_enter Try.func155, Try.ntmps155
      go_wp2_with fail
      go_ret
      exact ⟨rfl, rfl⟩
    · cases hh : hasA s a with
      | true =>
        rw [show withA s a = s by unfold withA; rw [if_pos (.inr hh)]]
        rw [hh] at H
        clear hh
        go_enter Try.func155, Try.ntmps155
        go_wp2_with fail
        refine (H.out _).mono ?_
        rintro e w1 ⟨rfl, rfl⟩
        go_wp2_with fail
        go_ret
        exact ⟨rfl, rfl⟩
      | false =>
        obtain ⟨n, rfl⟩ : ∃ n : Nat, a = n := ⟨a.toNat, by omega⟩
        have hi : isA (n : Int) = true := (isA_iff _).2 (by omega)
        have he : withA s (n : Int) = s + 2 ^ n := by
          unfold withA
          rw [if_neg (by rw [hi, hh]; simp)]
          rfl
        have hlt := (with_bit s n (by omega) hs 0).2
        rw [hh] at H
        rw [he] at hlt ⊢
        have HL := Lib.hid hlt
        clear hh hi he hlt
        go_enter Try.func155, Try.ntmps155
        go_wp2_with fail
        refine (H.out _).mono ?_
        rintro e w1 ⟨rfl, rfl⟩
        go_wp2_with fail
        go_loop [5, 6] (fun t i => ∃ k : Nat, k ≤ n ∧ i = .int .i64 k ∧ t = .int .u32 ((2 ^ k : Nat) : Int)) (fun _ i => n - (intOf i).toNat)
        case atStart => exact ⟨0, Nat.zero_le _, rfl, by simp⟩
        case round =>
          obtain ⟨k, hk, rfl, rfl⟩ := hrel
          by_cases hlt : k < n
          · have hp : 2 ^ k < 2 ^ 31 := Nat.pow_lt_pow_right (by omega) (by omega)
            have hq : 2 ^ (k + 1) = 2 ^ k * 2 := Nat.pow_succ _ _
            have HQ := Lib.hid hq
            clear hq
            generalize 2 ^ k = x at *
            have hx : (x : Int) < 2147483648 := by omega
            have hx0 : (0 : Int) ≤ x := by omega
            clear hp
            go_wp2
            go_round
            case rel => exact ⟨k + 1, by omega, by go_num, by rw [HQ.out]; exact val_int (by omega)⟩
            case measure => simp [intOf]; omega
          · obtain rfl : k = n := by omega
            have HX : ∃ x, Hid (2 ^ k = x) := ⟨_, Lib.hid rfl⟩
            obtain ⟨x, HX⟩ := HX
            rw [HX.out]
            have hl := HL.out
            rw [HX.out] at hl
            have hl' : (s : Int) + x < 4294967296 := by omega
            have hx0 : (0 : Int) ≤ x := by omega
            have hs0 : (0 : Int) ≤ s := by omega
            clear hl
            go_wp2
            go_ret
            refine ⟨ret_int ?_, rfl⟩
            have hz := congrArg (fun n : Nat => (n : Int)) HX.out
            simp at hz
            first | omega | (rw [hz]) | (rw [HX.out]; omega)
def listA (s k : Nat) : List Nat := (List.range k).filter fun j => s.testBit j
def nint (l : List Nat) : List Value := l.map fun j : Nat => Value.int .i64 (j : Int)
theorem listA_succ (s k : Nat) : listA s (k + 1) = listA s k ++ (if s.testBit k = true then [k] else []) := by
  unfold listA
  rw [List.range_succ, List.filter_append]
  cases h : s.testBit k <;> simp [h]
theorem listA_le (s k : Nat) : (listA s k).length ≤ k := by
  have := List.length_filter_le (fun j => s.testBit j) (List.range k)
  simpa [listA] using this
theorem info3 : (Try.prog.info? 3).map (fun i => (i.zero, i.size, i.bytes)) = some (some (.int .i64 0), 1, 8) := by kernel_rfl
/-- The list of a set. -/
def ListTo (s : Nat) (w : World) (e : Ending) (w' : World) : Prop := ∃ A c, e = .returned (.slice A (listA s 32).length c) ∧ w'.ownsRow w.heap.size 3 1 (.slice A (listA s 32).length c) (listA s 32).length (nint (listA s 32)) ∧ Below w.heap.size w w'
theorem Below.own {S base n size : Nat} {w w' : World} {e : TypeId} {v : Value} {xs : List Value} (h : w.ownsRow base e size v n xs) (hb : Below S w w') (hl : ∀ k, v.ownBlock = some k → k < S) : w'.ownsRow base e size v n xs := by
  refine ⟨h.1, ?_⟩
  rcases h.2 with q | ⟨g, cap, cur, rfl, hg, hh, rest⟩
  · exact .inl q
  · exact .inr ⟨g, cap, cur, rfl, hg, (hb.block g (hl g rfl)).trans hh, rest⟩
theorem below_grown {S : Nat} {a w w' : World} {row : Option Nat} (h : Below S a w) (hg : w.grownBy w' row) (hr : ∀ k, row = some k → S ≤ k) (hS : S ≤ w.heap.size) : Below S a w' :=
  ⟨hg.os.trans h.os, hg.tape.trans h.tape, hg.output.trans h.output, Nat.le_trans h.size hg.size, fun k hk => (hg.block k (by omega) (fun e => by have := hr k e.symm; omega)).trans (h.block k hk)⟩
set_option maxRecDepth 100000 in
set_option maxHeartbeats 1000000 in
theorem rlist_any (s : Nat) (w : World) (hs : s < 4294967296) : Calls Try.prog 154 #[.int .u32 (s : Int)] w (ListTo s w) := by
  have H := Lib.hid (fun (j : Nat) W => rhas_any s (j : Int) W hs)
  obtain ⟨i0, hi, hz0, hz1, hz2⟩ := info_parts info3
  go_enter Try.func154, Try.ntmps154
  go_wp2_with fail
  go_loopw [3, 4] (fun v i wr => ∃ k : Nat, k ≤ 32 ∧ i = .int .i64 k ∧ wr.ownsRow w.heap.size 3 1 v (listA s k).length (nint (listA s k)) ∧ Below w.heap.size w wr) (fun _ i _ => 32 - (intOf i).toNat)
  case atStart => exact ⟨0, by omega, rfl, by show World.ownsRow w w.heap.size 3 1 _ 0 []; exact World.ownsRow_nil _ _ _ _, Below.refl _ _⟩
  case round =>
    obtain ⟨k, hk, rfl, ho, hb⟩ := hrel
    have hll := listA_le s k
    obtain ⟨A, c, rfl⟩ := own_shape ho
    by_cases hlt : k < 32
    · have hk' : (k : Int) < 32 := by omega
      have hh : hasA s (k : Int) = s.testBit k := by
        unfold hasA
        rw [(isA_iff _).2 (by omega)]
        rfl
      have hsuc := listA_succ s k
      cases ht : s.testBit k with
      | true =>
        rw [ht] at hh hsuc
        rw [if_pos rfl] at hsuc
        have HS := Lib.hid hsuc
        have H1 := H.out k
        rw [hh] at H1
        have H2 := Lib.hid H1
        have hwS := hb.size
        clear H1 hh hsuc ht
        go_wp2_with fail
        refine (H2.out _).mono ?_
        rintro e w1 ⟨rfl, rfl⟩
        go_wp2_with (at_builtin; refine wpList_append_own _ rfl (.tmp 12) (.tmp 14) 109 rfl w.heap.size 3 i0 (.int .i64 0) 1 8 Try.underlying109 hi hz0 hz1 hz2 rfl (by decide) _ _ _ rfl (ho.alloc _) ⟨w1.heap.size, 0, none⟩ 1 1 [.int .i64 k] rfl rfl (cell_one_new _ _ _) (by simp [Value.oneCell']) (by unfold maxLen; omega) (by omega) (by simp; omega) ?_)
        intro v1 w2 hown hg _
        have hg2 := World.grownBy.trans (World.grownBy_alloc w1 (.cells #[.int .i64 k] 3) _) hg
        have hown2 : w2.ownsRow w.heap.size 3 1 v1 (listA s (k + 1)).length (nint (listA s (k + 1))) := by rw [HS.out]; simpa [nint] using hown
        have hb2 := below_grown hb hg2 (fun j e => (ho.lt j e).1) hwS
        have HO := Lib.hid hown2
        clear hown hg hg2 hown2
        go_wp2_with fail
        go_roundw
        case rel => exact ⟨k + 1, by omega, by go_num, HO.out, hb2⟩
        case measure => simp [intOf]; omega
      | false =>
        rw [ht] at hh hsuc
        rw [if_neg (by decide), List.append_nil] at hsuc
        have HS := Lib.hid hsuc
        have H1 := H.out k
        rw [hh] at H1
        have H2 := Lib.hid H1
        clear H1 hh hsuc ht
        go_wp2_with fail
        refine (H2.out _).mono ?_
        rintro e w1 ⟨rfl, rfl⟩
        go_wp2_with fail
        go_roundw
        case rel => exact ⟨k + 1, by omega, by go_num, by rw [HS.out]; exact ho, hb⟩
        case measure => simp [intOf]; omega
    · obtain rfl : k = 32 := by omega
      go_wp2_with fail
      go_ret
      exact ⟨A, c, rfl, ho, hb⟩
end Go.Proofs.Ytdhfkcodacmbfaa
