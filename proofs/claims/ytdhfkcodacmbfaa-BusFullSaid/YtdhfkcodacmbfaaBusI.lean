/- The walk of the law BusFull. -/
import Derived.Test.YtdhfkcodacmbfaaBusH
import Derived.Test.YtdhfkcodacmbfaaItems
set_option linter.unusedVariables false
set_option linter.unusedSimpArgs false
namespace Go.Proofs.Ytdhfkcodacmbfaa
open Go.RowKit

/-- A bus behind n pieces of one text. -/
def fullP (s : ByteArray) (j : Nat) : PieceS := ⟨s, (j : Int) % 32, withoutA 4294967295 ((j : Int) % 32), false⟩
def fullS (s : ByteArray) (n : Nat) : BusS := ⟨(List.range (min n 64)).map (fullP s), decide (64 < n)⟩
theorem full_len (s : ByteArray) (n : Nat) : (fullS s n).l.length = min n 64 := by simp [fullS]
theorem full_send (s : ByteArray) (n : Nat) (h1 : 1 ≤ s.size) (h2 : s.size ≤ 255) : sendS (fullS s n) ((n : Int) % 32) s = (fullS s (n + 1), if n < 64 then 0 else 8) := by
  unfold sendS
  rw [if_neg (by omega)]
  unfold addS
  rw [full_len]
  by_cases h : n < 64
  · rw [if_neg (by omega), if_pos h]
    unfold fullS
    rw [Nat.min_eq_left (by omega), Nat.min_eq_left (by omega), List.range_succ, List.map_append, decide_eq_false (show ¬ 64 < n by omega), decide_eq_false (show ¬ 64 < n + 1 by omega)]
    rfl
  · rw [if_pos (by omega), if_neg h]
    unfold fullS
    rw [Nat.min_eq_right (by omega), Nat.min_eq_right (by omega), decide_eq_true (show 64 < n + 1 by omega)]
/-- What the last two operations make of it. -/
structure FullEnd (s : ByteArray) (n : Nat) (k : Int) (there : Bool) (e1 e2 : Int) (f : Bool) : Prop where
  d : (dropS (fullS s n) k).2 = e1
  s2 : (sendS (dropS (fullS s n) k).1 31 s).2 = e2
  f2 : (sendS (dropS (fullS s n) k).1 31 s).1.f = f
  e1_ : e1 = if there = true then 0 else 1
  e2_ : e2 = if n < 64 ∨ there = true then 0 else 8
  f_ : f = (decide (64 < n) || (n == 64 && !there))
theorem full_end (s : ByteArray) (n : Nat) (k : Int) (h1 : 1 ≤ s.size) (h2 : s.size ≤ 255) : ∃ e1 e2 f, FullEnd s n k (decide (0 ≤ k) && decide (k < (min n 64 : Nat))) e1 e2 f := by
  have hl := full_len s n
  refine ⟨_, _, _, rfl, rfl, rfl, ?_, ?_, ?_⟩
  · unfold dropS
    cases hk : atS (fullS s n).l k with
    | none =>
      have := atS_none hk
      rw [hl] at this
      rw [if_neg (by simp; omega)]
    | some p =>
      obtain ⟨j, rfl, hj, _⟩ := atS_some hk
      rw [hl] at hj
      rw [if_pos (by simp; omega)]
  · unfold dropS
    cases hk : atS (fullS s n).l k with
    | none =>
      have := atS_none hk
      rw [hl] at this
      show (sendS (fullS s n) 31 s).2 = _
      unfold sendS addS
      rw [if_neg (by omega), hl]
      by_cases h : n < 64
      · rw [if_neg (by omega), if_pos (.inl h)]
      · rw [if_pos (by omega), if_neg (by simp; omega)]
    | some p =>
      obtain ⟨j, rfl, hj, _⟩ := atS_some hk
      show (sendS ⟨(fullS s n).l.eraseIdx (j : Int).toNat, (fullS s n).f⟩ 31 s).2 = _
      rw [hl] at hj
      unfold sendS addS
      rw [if_neg (by omega), if_neg (by rw [List.length_eraseIdx, hl, Int.toNat_natCast, if_pos (by omega)]; omega), if_pos (.inr (by simp; omega))]
  · unfold dropS
    cases hk : atS (fullS s n).l k with
    | none =>
      have := atS_none hk
      rw [hl] at this
      show (sendS (fullS s n) 31 s).1.f = _
      unfold sendS addS
      rw [if_neg (by omega), hl]
      by_cases h : n < 64
      · rw [if_neg (by omega)]
        show decide (64 < n) = _
        rw [Bool.eq_iff_iff]
        simp
        omega
      · rw [if_pos (by omega)]
        show true = _
        rw [Bool.eq_iff_iff]
        simp
        omega
    | some p =>
      obtain ⟨j, rfl, hj, _⟩ := atS_some hk
      show (sendS ⟨(fullS s n).l.eraseIdx (j : Int).toNat, (fullS s n).f⟩ 31 s).1.f = _
      rw [hl] at hj
      unfold sendS addS
      rw [if_neg (by omega), if_neg (by rw [List.length_eraseIdx, hl, Int.toNat_natCast, if_pos (by omega)]; omega)]
      show decide (64 < n) = _
      rw [Bool.eq_iff_iff]
      simp
      omega
set_option maxRecDepth 100000 in
set_option maxHeartbeats 4000000 in
theorem full_walk (m : Int) (s : ByteArray) (k : Int) (w : World) (wn : (Lit.int .u8 m).wf = true) (hs : s.size ≤ maxLen) (wk : (Lit.int .i64 k).wf = true) :
    Calls Try.prog 10 #[.int .u8 m, .string s, .int .i64 k] w fun e w' => e = .returned (.bool true) ∧ Below w.heap.size w w' := by
  have HA := Lib.hid (fun W => bawake_any W)
  have rn := wf_range8 wn
  have hs' : s.size ≤ 9223372036854775807 := hs
  clear wn wk hs
  obtain ⟨n, rfl⟩ : ∃ n : Nat, m = n := ⟨m.toNat, by omega⟩
  by_cases hn : 100 < n
  · have hn' : (100 : Int) < n := by omega
    go_enter Try.func10, Try.ntmps10
    go_wp2_with fail
    refine (HA.out _).mono ?_
    rintro e w1 ⟨rfl, b⟩
    go_wp2_with fail
    go_ret
    exact ⟨rfl, b⟩
  · have hn' : ¬ (100 : Int) < n := by omega
    by_cases h1 : s.size < 1
    · have h1' : (s.size : Int) < 1 := by omega
      go_enter Try.func10, Try.ntmps10
      go_wp2_with fail
      refine (HA.out _).mono ?_
      rintro e w1 ⟨rfl, b⟩
      go_wp2_with fail
      go_ret
      exact ⟨rfl, b⟩
    · have h1' : ¬ (s.size : Int) < 1 := by omega
      by_cases h2 : 255 < s.size
      · have h2' : (255 : Int) < (s.size : Int) := by omega
        go_enter Try.func10, Try.ntmps10
        go_wp2_with fail
        refine (HA.out _).mono ?_
        rintro e w1 ⟨rfl, b⟩
        go_wp2_with fail
        go_ret
        exact ⟨rfl, b⟩
      · have h2' : ¬ (255 : Int) < (s.size : Int) := by omega
        have hf := fun i => full_send s i (by omega) (by omega)
        obtain ⟨e1, e2, f, E⟩ := full_end s n k (by omega) (by omega)
        have HN := Lib.hid (fun W => new_bw w W)
        have HS := Lib.hid (fun B i W h => send_bw w B (fullS s i) W ((i : Int) % 32) s h (by omega))
        have HL := Lib.hid (fun B i W h => len_bw w B (fullS s i) W h)
        have HF := Lib.hid (fun B i W h => fault_bw w B (fullS s i) W h)
        have HD := Lib.hid (fun B W h => drop_bw w B (fullS s n) W k h)
        have HS2 := Lib.hid (fun B W h => send_bw w B (dropS (fullS s n) k).1 W 31 s h (by omega))
        have HF2 := Lib.hid (fun B W h => fault_bw w B (sendS (dropS (fullS s n) k).1 31 s).1 W h)
        rw [E.d] at HD
        rw [E.s2] at HS2
        rw [E.f2] at HF2
        have E1 := Lib.hid E.e1_
        have E2 := Lib.hid E.e2_
        have E3 := Lib.hid E.f_
        have H0 : ∀ B W, BW w B ⟨[], false⟩ W → BW w B (fullS s 0) W := fun B W h => h
        have H0 := Lib.hid H0
        have HX := Lib.hid hf
        have HM := Lib.hid (full_len s)
        clear hf E hs'
        go_enter Try.func10, Try.ntmps10
        go_wp2_with fail
        refine (HA.out _).mono ?_
        rintro e w1 ⟨rfl, b⟩
        have b1 := Lib.hid b
        clear b
        go_wp2_with fail
        refine (HN.out _).mono ?_
        rintro e w2 ⟨B, rfl, b⟩
        have h0 := Lib.hid (H0.out B _ (b b1.out))
        clear b b1
        go_wp2_with fail
        go_loopw [8, 9, 31] (fun _ _ x wr => ∃ i : Nat, i ≤ n ∧ x = .int .i64 i ∧ BW w B (fullS s i) wr) (fun _ _ x _ => n - (intOf x).toNat)
        case atStart => exact ⟨0, by omega, rfl, h0.out⟩
        case round =>
          clear h0
          obtain ⟨i, hi, rfl, h⟩ := hrel
          by_cases hlt : i < n
          · have hlt' : (i : Int) < n := by omega
            have HS1 := HS.out B i wr h
            rw [HX.out i] at HS1
            by_cases h64 : i < 64
            · rw [if_pos h64] at HS1
              have HS1 := Lib.hid HS1
              have h64' : (i : Int) < 64 := by omega
              have HL1 := HL.out B (i + 1)
              rw [HM.out, Nat.min_eq_left (by omega)] at HL1
              have HL1 := Lib.hid HL1
              have HF1 := HF.out B (i + 1)
              rw [show (fullS s (i + 1)).f = false from decide_eq_false (by omega)] at HF1
              have HF1 := Lib.hid HF1
              go_wp2_with fail
              refine (HS1.out).mono ?_
              rintro e w3 ⟨rfl, h3⟩
              go_wp2_with fail
              refine (HL1.out _ h3).mono ?_
              rintro e w4 ⟨rfl, h4⟩
              go_wp2_with fail
              refine (HF1.out _ h4).mono ?_
              rintro e w5 ⟨rfl, h5⟩
              go_wp2_with fail
              go_roundw
              case rel => exact ⟨i + 1, by omega, by go_num, h5⟩
              case measure => simp [intOf]; omega
            · rw [if_neg h64] at HS1
              have HS1 := Lib.hid HS1
              have h64' : ¬ (i : Int) < 64 := by omega
              have HL1 := HL.out B (i + 1)
              rw [HM.out, Nat.min_eq_right (by omega)] at HL1
              have HL1 := Lib.hid HL1
              have HF1 := HF.out B (i + 1)
              rw [show (fullS s (i + 1)).f = true from decide_eq_true (by omega)] at HF1
              have HF1 := Lib.hid HF1
              go_wp2_with fail
              refine (HS1.out).mono ?_
              rintro e w3 ⟨rfl, h3⟩
              go_wp2_with fail
              refine (HL1.out _ h3).mono ?_
              rintro e w4 ⟨rfl, h4⟩
              go_wp2_with fail
              refine (HF1.out _ h4).mono ?_
              rintro e w5 ⟨rfl, h5⟩
              go_wp2_with fail
              go_roundw
              case rel => exact ⟨i + 1, by omega, by go_num, h5⟩
              case measure => simp [intOf]; omega
          · obtain rfl : i = n := by omega
            have HL1 := HL.out B i
            rw [HM.out] at HL1
            have HL1 := Lib.hid HL1
            have hc : (0 ≤ k ∧ k < (min i 64 : Nat)) ∨ k < 0 ∨ (0 ≤ k ∧ ((min i 64 : Nat) : Int) ≤ k) := by omega
            have hnc : i < 64 ∨ i = 64 ∨ 64 < i := by omega
            clear hn
            rcases hnc with q | q | q
            · have hu : min i 64 = i := by omega
              rw [hu] at hc HL1 E1 E2 E3
              have q1 : (i : Int) < 64 := by omega
              have q2 : ((i : Int) == 64) = false := by simp; omega
              have q3 : ¬ (64 : Int) < i := by omega
              clear hu HX HS HL HF H0 HM
              rcases hc with ⟨k0, k1⟩ | k0 | ⟨k0, k1⟩
              · have ht : (decide (0 ≤ k) && decide (k < ((i : Nat) : Int))) = true := by rw [Bool.eq_iff_iff]; simp; omega
                have e1v : e1 = 0 := by rw [E1.out, ht]; rfl
                have e2v : e2 = 0 := by rw [E2.out, if_pos (.inl q)]
                have fv : f = false := by rw [E3.out, decide_eq_false (by omega), show (i == 64) = false by simp; omega]; rfl
                clear E1 E2 E3 ht
                subst e1v e2v fv
                clear q
                go_wp2_with fail
                refine (HL1.out _ h).mono ?_
                rintro e w3 ⟨rfl, h3⟩
                go_wp2_with fail
                refine (HD.out _ _ h3).mono ?_
                rintro e w4 ⟨rfl, h4⟩
                go_wp2_with fail
                refine (HS2.out _ _ h4).mono ?_
                rintro e w5 ⟨rfl, h5⟩
                go_wp2_with fail
                refine (HF2.out _ _ h5).mono ?_
                rintro e w6 ⟨rfl, h6⟩
                go_wp2_with fail
                go_ret
                exact ⟨ret_bool (by first | rfl | (simp; done) | (simp; omega)), h6.bel⟩
              · have ht : (decide (0 ≤ k) && decide (k < ((i : Nat) : Int))) = false := by rw [Bool.eq_iff_iff]; simp; omega
                have e1v : e1 = 1 := by rw [E1.out, ht]; rfl
                have e2v : e2 = 0 := by rw [E2.out, if_pos (.inl q)]
                have fv : f = false := by rw [E3.out, decide_eq_false (by omega), show (i == 64) = false by simp; omega]; rfl
                clear E1 E2 E3 ht
                subst e1v e2v fv
                have k2 : ¬ 0 ≤ k := by omega
                clear q
                go_wp2_with fail
                refine (HL1.out _ h).mono ?_
                rintro e w3 ⟨rfl, h3⟩
                go_wp2_with fail
                refine (HD.out _ _ h3).mono ?_
                rintro e w4 ⟨rfl, h4⟩
                go_wp2_with fail
                refine (HS2.out _ _ h4).mono ?_
                rintro e w5 ⟨rfl, h5⟩
                go_wp2_with fail
                refine (HF2.out _ _ h5).mono ?_
                rintro e w6 ⟨rfl, h6⟩
                go_wp2_with fail
                go_ret
                exact ⟨ret_bool (by first | rfl | (simp; done) | (simp; omega)), h6.bel⟩
              · have ht : (decide (0 ≤ k) && decide (k < ((i : Nat) : Int))) = false := by rw [Bool.eq_iff_iff]; simp; omega
                have e1v : e1 = 1 := by rw [E1.out, ht]; rfl
                have e2v : e2 = 0 := by rw [E2.out, if_pos (.inl q)]
                have fv : f = false := by rw [E3.out, decide_eq_false (by omega), show (i == 64) = false by simp; omega]; rfl
                clear E1 E2 E3 ht
                subst e1v e2v fv
                have k2 : ¬ k < ((i : Nat) : Int) := by omega
                clear q
                go_wp2_with fail
                refine (HL1.out _ h).mono ?_
                rintro e w3 ⟨rfl, h3⟩
                go_wp2_with fail
                refine (HD.out _ _ h3).mono ?_
                rintro e w4 ⟨rfl, h4⟩
                go_wp2_with fail
                refine (HS2.out _ _ h4).mono ?_
                rintro e w5 ⟨rfl, h5⟩
                go_wp2_with fail
                refine (HF2.out _ _ h5).mono ?_
                rintro e w6 ⟨rfl, h6⟩
                go_wp2_with fail
                go_ret
                exact ⟨ret_bool (by first | rfl | (simp; done) | (simp; omega)), h6.bel⟩
            · subst q
              have hu : min 64 64 = 64 := by omega
              rw [hu] at hc HL1 E1 E2 E3
              clear hu HX HS HL HF H0 HM
              rcases hc with ⟨k0, k1⟩ | k0 | ⟨k0, k1⟩
              · have ht : (decide (0 ≤ k) && decide (k < ((64 : Nat) : Int))) = true := by rw [Bool.eq_iff_iff]; simp; omega
                have e1v : e1 = 0 := by rw [E1.out, ht]; rfl
                have e2v : e2 = 0 := by rw [E2.out, if_pos (.inr ht)]
                have fv : f = false := by rw [E3.out, ht]; rfl
                clear E1 E2 E3 ht
                subst e1v e2v fv
                have k3 : k < 64 := by omega
                go_wp2_with fail
                refine (HL1.out _ h).mono ?_
                rintro e w3 ⟨rfl, h3⟩
                go_wp2_with fail
                refine (HD.out _ _ h3).mono ?_
                rintro e w4 ⟨rfl, h4⟩
                go_wp2_with fail
                refine (HS2.out _ _ h4).mono ?_
                rintro e w5 ⟨rfl, h5⟩
                go_wp2_with fail
                refine (HF2.out _ _ h5).mono ?_
                rintro e w6 ⟨rfl, h6⟩
                go_wp2_with fail
                go_ret
                exact ⟨ret_bool (by first | rfl | (simp; done) | (simp; omega)), h6.bel⟩
              · have ht : (decide (0 ≤ k) && decide (k < ((64 : Nat) : Int))) = false := by rw [Bool.eq_iff_iff]; simp; omega
                have e1v : e1 = 1 := by rw [E1.out, ht]; rfl
                have e2v : e2 = 8 := by rw [E2.out, if_neg (by rw [ht]; simp; try omega)]
                have fv : f = true := by rw [E3.out, ht]; rfl
                clear E1 E2 E3 ht
                subst e1v e2v fv
                have k2 : ¬ 0 ≤ k := by omega
                go_wp2_with fail
                refine (HL1.out _ h).mono ?_
                rintro e w3 ⟨rfl, h3⟩
                go_wp2_with fail
                refine (HD.out _ _ h3).mono ?_
                rintro e w4 ⟨rfl, h4⟩
                go_wp2_with fail
                refine (HS2.out _ _ h4).mono ?_
                rintro e w5 ⟨rfl, h5⟩
                go_wp2_with fail
                refine (HF2.out _ _ h5).mono ?_
                rintro e w6 ⟨rfl, h6⟩
                go_wp2_with fail
                go_ret
                exact ⟨ret_bool (by first | rfl | (simp; done) | (simp; omega)), h6.bel⟩
              · have ht : (decide (0 ≤ k) && decide (k < ((64 : Nat) : Int))) = false := by rw [Bool.eq_iff_iff]; simp; omega
                have e1v : e1 = 1 := by rw [E1.out, ht]; rfl
                have e2v : e2 = 8 := by rw [E2.out, if_neg (by rw [ht]; simp; try omega)]
                have fv : f = true := by rw [E3.out, ht]; rfl
                clear E1 E2 E3 ht
                subst e1v e2v fv
                have k2 : ¬ k < ((64 : Nat) : Int) := by omega
                have k3 : ¬ k < 64 := by omega
                go_wp2_with fail
                refine (HL1.out _ h).mono ?_
                rintro e w3 ⟨rfl, h3⟩
                go_wp2_with fail
                refine (HD.out _ _ h3).mono ?_
                rintro e w4 ⟨rfl, h4⟩
                go_wp2_with fail
                refine (HS2.out _ _ h4).mono ?_
                rintro e w5 ⟨rfl, h5⟩
                go_wp2_with fail
                refine (HF2.out _ _ h5).mono ?_
                rintro e w6 ⟨rfl, h6⟩
                go_wp2_with fail
                go_ret
                exact ⟨ret_bool (by first | rfl | (simp; done) | (simp; omega)), h6.bel⟩
            · have hu : min i 64 = 64 := by omega
              rw [hu] at hc HL1 E1 E2 E3
              have q1 : ¬ (i : Int) < 64 := by omega
              have q2 : ((i : Int) == 64) = false := by simp; omega
              have q3 : (64 : Int) < i := by omega
              clear hu HX HS HL HF H0 HM
              rcases hc with ⟨k0, k1⟩ | k0 | ⟨k0, k1⟩
              · have ht : (decide (0 ≤ k) && decide (k < ((64 : Nat) : Int))) = true := by rw [Bool.eq_iff_iff]; simp; omega
                have e1v : e1 = 0 := by rw [E1.out, ht]; rfl
                have e2v : e2 = 0 := by rw [E2.out, if_pos (.inr ht)]
                have fv : f = true := by rw [E3.out, decide_eq_true (by omega)]; rfl
                clear E1 E2 E3 ht
                subst e1v e2v fv
                have k3 : k < 64 := by omega
                clear q
                go_wp2_with fail
                refine (HL1.out _ h).mono ?_
                rintro e w3 ⟨rfl, h3⟩
                go_wp2_with fail
                refine (HD.out _ _ h3).mono ?_
                rintro e w4 ⟨rfl, h4⟩
                go_wp2_with fail
                refine (HS2.out _ _ h4).mono ?_
                rintro e w5 ⟨rfl, h5⟩
                go_wp2_with fail
                refine (HF2.out _ _ h5).mono ?_
                rintro e w6 ⟨rfl, h6⟩
                go_wp2_with fail
                go_ret
                exact ⟨ret_bool (by first | rfl | (simp; done) | (simp; omega)), h6.bel⟩
              · have ht : (decide (0 ≤ k) && decide (k < ((64 : Nat) : Int))) = false := by rw [Bool.eq_iff_iff]; simp; omega
                have e1v : e1 = 1 := by rw [E1.out, ht]; rfl
                have e2v : e2 = 8 := by rw [E2.out, if_neg (by rw [ht]; simp; try omega)]
                have fv : f = true := by rw [E3.out, decide_eq_true (by omega)]; rfl
                clear E1 E2 E3 ht
                subst e1v e2v fv
                have k2 : ¬ 0 ≤ k := by omega
                clear q
                go_wp2_with fail
                refine (HL1.out _ h).mono ?_
                rintro e w3 ⟨rfl, h3⟩
                go_wp2_with fail
                refine (HD.out _ _ h3).mono ?_
                rintro e w4 ⟨rfl, h4⟩
                go_wp2_with fail
                refine (HS2.out _ _ h4).mono ?_
                rintro e w5 ⟨rfl, h5⟩
                go_wp2_with fail
                refine (HF2.out _ _ h5).mono ?_
                rintro e w6 ⟨rfl, h6⟩
                go_wp2_with fail
                go_ret
                exact ⟨ret_bool (by first | rfl | (simp; done) | (simp; omega)), h6.bel⟩
              · have ht : (decide (0 ≤ k) && decide (k < ((64 : Nat) : Int))) = false := by rw [Bool.eq_iff_iff]; simp; omega
                have e1v : e1 = 1 := by rw [E1.out, ht]; rfl
                have e2v : e2 = 8 := by rw [E2.out, if_neg (by rw [ht]; simp; try omega)]
                have fv : f = true := by rw [E3.out, decide_eq_true (by omega)]; rfl
                clear E1 E2 E3 ht
                subst e1v e2v fv
                have k2 : ¬ k < ((64 : Nat) : Int) := by omega
                have k3 : ¬ k < 64 := by omega
                clear q
                go_wp2_with fail
                refine (HL1.out _ h).mono ?_
                rintro e w3 ⟨rfl, h3⟩
                go_wp2_with fail
                refine (HD.out _ _ h3).mono ?_
                rintro e w4 ⟨rfl, h4⟩
                go_wp2_with fail
                refine (HS2.out _ _ h4).mono ?_
                rintro e w5 ⟨rfl, h5⟩
                go_wp2_with fail
                refine (HF2.out _ _ h5).mono ?_
                rintro e w6 ⟨rfl, h6⟩
                go_wp2_with fail
                go_ret
                exact ⟨ret_bool (by first | rfl | (simp; done) | (simp; omega)), h6.bel⟩
end Go.Proofs.Ytdhfkcodacmbfaa
