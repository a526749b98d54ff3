/- The medium: was this text sent? A map of texts, ranged over. -/
import Derived.Test.YtdhfkcodacmbfaaBusU
import Derived.Maps.RangeWalk
import Derived.StringKeys
set_option linter.unusedVariables false
set_option linter.unusedSimpArgs false
namespace Go.Proofs.Ytdhfkcodacmbfaa
open Go.RowKit Go.Maps

theorem law9 : Keyed Try.prog 9 := string_keyed Try.underlying9
theorem key9_inv {key : Value} {kl : Lit} (h : keyOf Try.prog 9 key = some kl) : ∃ s : ByteArray, key = .string s ∧ kl = .string s.data.toList ∧ s.size ≤ maxLen := by
  cases key <;> simp [keyOf, Try.underlying9, mapKey] at h
  obtain ⟨hw, rfl⟩ := h
  exact ⟨_, rfl, rfl, hw⟩
theorem elem4_inv {H : Type} {v : Value} {y : DataW H × List MemPlace} (h : plainElem Try.prog 4 v = some y) : ∃ c : Bool, v = .bool c := by
  cases v
  case bool c => exact ⟨c, rfl⟩
  all_goals exact absurd h (by unfold plainElem; rw [Try.underlying4]; intro q; cases q)
def litS (t : ByteArray) : Lit := .string t.data.toList
theorem litS_inj {a b : ByteArray} (h : litS a = litS b) : a = b := by
  unfold litS at h
  injection h with h
  exact ByteArray.ext (Array.ext' h)
set_option maxRecDepth 100000 in
set_option maxHeartbeats 4000000 in
theorem from_any {H : Type} (B n : Nat) (D : DataW H) (p : ByteArray) (w : World) (hown : w.ownsMap Try.prog 9 (plainElem Try.prog 4) B n D) (hp : p.size ≤ 1000) (ht : ∃ t, has D (litS t) = true ∧ FromS p t) :
    Calls Try.prog 66 #[.map (some B), .string p] w fun e w' => e = .returned (.bool true) ∧ Below w.heap.size w w' := by
  obtain ⟨t, htD, hft⟩ := ht
  have HF := Lib.hid hft
  clear hft
  go_enter Try.func66, Try.ntmps66
  go_wp2_with (first | (at_range; refine wpList_range_own _ rfl _ 76 rfl 9 4 law9 Try.underlying76 _ B n D rfl hown ?_; intro w0 hrg0 hg0 hs0) | go_in)
  go_frame
  have hb0 : Below w.heap.size w w0 := ⟨hg0.os, hg0.tape, hg0.output, hg0.size, fun i hi => hg0.block i hi (by simp)⟩
  go_loopw [5] (fun _ wr => ∃ left cnt, wr.ranges Try.prog 9 (plainElem Try.prog 4) B w.heap.size n D left cnt ∧ left (litS t) = true ∧ Below w.heap.size w wr) (fun _ wr => wr.rangeLeft B w.heap.size)
  case atStart => exact ⟨_, _, hrg0, htD, hb0⟩
  case round =>
    obtain ⟨left, cnt, hrg, hlt, b⟩ := hrel
    go_upto_region 3 with (at_next; refine wpList_next_ranges _ rfl _ rfl 9 law9 (plainElem Try.prog 4) Value.string Value.bool (fun key kl h => by obtain ⟨s, rfl, _⟩ := key9_inv h; exact ⟨s, rfl⟩) (fun v y h => elem4_inv h) B w.heap.size n D _ _ rfl hrg ?_ ?_; intro hc0 hl0; rotate_left; intro x c kl y w1 cnt1 hkey hlk hv hat hrg1 hlt1 hg1 hs1 hen; rotate_left)
    · exfalso
      have := hl0 (litS t)
      rw [hlt] at this
      cases this
    · obtain ⟨x', e, rfl, hxs⟩ := key9_inv hkey
      have e' : x = x' := by injection e
      subst e'
      have hb1 : Below w.heap.size w w1 := below_grown b hg1 (fun k e => by cases e; exact Nat.le_refl _) b.size
      have hcont : ¬ FromS p x → (left (litS t) && !(litS t).sameKey (litS x)) = true := fun hn => by
        have hne : litS t ≠ litS x := fun q => hn (by rw [← litS_inj q]; exact HF.out)
        rw [hlt, sameKey_ne hne]
        rfl
      have hme := hrg1.left_eq
      have hme0 := hrg.left_eq
      have HC := Lib.hid hcont
      have HG := Lib.hid hrg1
      have Hb := Lib.hid hb1
      have hxs' : (x.size : Int) ≤ 9223372036854775807 := by unfold maxLen at hxs; omega
      have hps' : (p.size : Int) ≤ 9223372036854775807 := by omega
      have hx0 : (0 : Int) ≤ (x.size : Int) := by omega
      have hp0 : (0 : Int) ≤ (p.size : Int) := by omega
      clear hcont hrg1 hb1 hrg hlt b hg1 hs1 hat hv hkey e hlk
      by_cases hpx : p = x
      · subst hpx
        go_wp2_with fail
        go_ret
        exact ⟨rfl, Hb.out⟩
      · have hpx' : (p.toList == x.toList) = false := by
          rw [Bool.eq_false_iff]
          intro q
          exact hpx (toList_inj (by simpa using q))
        have hpx2 : ¬ p.toList = x.toList := fun q => hpx (toList_inj q)
        by_cases hlt2 : p.size < x.size
        · have h1 : (p.size : Int) < (x.size : Int) := by omega
          have h2 : (p.size : Int) ≤ (x.size : Int) := by omega
          have h3 : ((p.size : Int) != (x.size : Int)) = true := by simp; omega
          by_cases hc : x.extract 0 p.size = p
          · have hc' : ((x.extract 0 p.size).toList == p.toList) = true := by rw [hc]; simp
            go_wp2_with fail
            go_ret
            exact ⟨rfl, Hb.out⟩
          · have hc' : ((x.extract 0 p.size).toList == p.toList) = false := by
              rw [Bool.eq_false_iff]
              intro q
              exact hc (toList_inj (by simpa using q))
            have hc2 : ¬ (x.extract 0 p.size).toList = p.toList := fun q => hc (toList_inj q)
            have hnf := HC.out (fun q => hc (from_cut q hlt2))
            have HNF := Lib.hid hnf
            clear hnf
            go_wp2_with fail
            go_roundw
            case rel => exact ⟨_, _, HG.out, HNF.out, Hb.out⟩
            case measure => rw [hme, hme0]; exact hlt1
        · by_cases hgt : x.size < p.size
          · have h1 : ¬ (p.size : Int) < (x.size : Int) := by omega
            have h3 : ((p.size : Int) != (x.size : Int)) = true := by simp; omega
            have hnf := HC.out (fun q => by have := from_size q; omega)
            have HNF := Lib.hid hnf
            clear hnf
            go_wp2_with fail
            go_roundw
            case rel => exact ⟨_, _, HG.out, HNF.out, Hb.out⟩
            case measure => rw [hme, hme0]; exact hlt1
          · have hse : p.size = x.size := by omega
            have hse' : (p.size : Int) = (x.size : Int) := by omega
            have h1 : ¬ (p.size : Int) < (x.size : Int) := by omega
            have HB1 := Lib.hid (fun (i : Nat) W (h : i < 8 * p.size) => bit_any p i W h (by omega))
            have HB2 := Lib.hid (fun (i : Nat) W (h : i < 8 * p.size) => bit_any x i W (by omega) (by omega))
            have HLR := Lib.hid (lh_range p x)
            go_wp2_with fail
            go_loopw [6, 7, 8, 41] (fun u v _ i wr => ∃ (k : Nat), k ≤ 8 * p.size ∧ i = .int .i64 k ∧ u = .int .i64 (lhS p x k).1 ∧ v = .int .i64 (lhS p x k).2 ∧ wr = w1) (fun _ _ _ i _ => 8 * p.size - (intOf i).toNat)
            case atStart => exact ⟨0, by omega, rfl, rfl, rfl, rfl⟩
            case round =>
              obtain ⟨k, hk, rfl, rfl, rfl, rfl⟩ := hrel
              have hr := HLR.out k
              have hs := HLR.out (k + 1)
              have hdef := Lib.hid (show lhS p x (k + 1) = if sbit p k = sbit x k then lhS p x k else (if (lhS p x k).1 < 0 then (k : Int) else (lhS p x k).1, (k : Int)) from rfl)
              by_cases hlk : k < 8 * p.size
              · have hlz : (k : Int) < 8 * (p.size : Int) := by omega
                have B1 := Lib.hid (fun W => HB1.out k W hlk)
                have B2 := Lib.hid (fun W => HB2.out k W hlk)
                generalize lhS p x k = pv at *
                obtain ⟨lo, hi⟩ := pv
                simp only at hr
                obtain ⟨r1, r2, r3, r4⟩ := hr
                by_cases hb : sbit p k = sbit x k
                · have hd := hdef.out
                  rw [if_pos hb] at hd
                  rw [hb] at B1
                  have HD := Lib.hid hd
                  clear hd
                  clear hdef hs hb
                  generalize sbit x k = bx at *
                  go_wp2_with (first | (go_at_call 118; (with_reducible refine (B1.out _).mono ?_); rintro e w9 ⟨rfl, rfl⟩) | (go_at_call 118; (with_reducible refine (B2.out _).mono ?_); rintro e w9 ⟨rfl, rfl⟩))
                  go_roundw
                  case rel => exact ⟨k + 1, by omega, by go_num, by rw [HD.out], by rw [HD.out], by first | trivial | rfl⟩
                  case measure => simp [intOf]; omega
                · have hd := hdef.out
                  rw [if_neg hb] at hd
                  have hbn : ¬ (((sbit p k).toNat : Nat) : Int) = (((sbit x k).toNat : Nat) : Int) := by
                    cases h1 : sbit p k <;> cases h2 : sbit x k <;> simp_all
                  clear hdef hb
                  generalize (((sbit p k).toNat : Nat) : Int) = b1 at *
                  generalize (((sbit x k).toNat : Nat) : Int) = b2 at *
                  have hbn' : (b1 != b2) = true := by simpa using hbn
                  by_cases hlo : lo < 0
                  · rw [if_pos hlo] at hd
                    have HD := Lib.hid hd
                    clear hd
                    go_wp2_with (first | (go_at_call 118; (with_reducible refine (B1.out _).mono ?_); rintro e w9 ⟨rfl, rfl⟩) | (go_at_call 118; (with_reducible refine (B2.out _).mono ?_); rintro e w9 ⟨rfl, rfl⟩))
                    go_roundw
                    case rel => exact ⟨k + 1, by omega, by go_num, by rw [HD.out], by rw [HD.out], by first | trivial | rfl⟩
                    case measure => simp [intOf]; omega
                  · rw [if_neg hlo] at hd
                    have HD := Lib.hid hd
                    clear hd
                    go_wp2_with (first | (go_at_call 118; (with_reducible refine (B1.out _).mono ?_); rintro e w9 ⟨rfl, rfl⟩) | (go_at_call 118; (with_reducible refine (B2.out _).mono ?_); rintro e w9 ⟨rfl, rfl⟩))
                    go_roundw
                    case rel => exact ⟨k + 1, by omega, by go_num, by rw [HD.out], by rw [HD.out], by first | trivial | rfl⟩
                    case measure => simp [intOf]; omega
              · obtain rfl : k = 8 * p.size := by omega
                have hlz : ¬ (((8 * p.size : Nat)) : Int) < 8 * (p.size : Int) := by omega
                have hlz2 : (((8 * p.size : Nat)) : Int) = 8 * (p.size : Int) := by omega
                have hw16 := Lib.hid (fun q => from_window (p := p) (x := x) q hse)
                generalize lhS p x (8 * p.size) = pv at *
                obtain ⟨lo, hi⟩ := pv
                simp only at hr
                obtain ⟨r1, r2, r3, r4⟩ := hr
                clear hs hdef
                by_cases h16 : hi - lo < 16
                · go_wp2_with fail
                  go_ret
                  exact ⟨rfl, Hb.out⟩
                · have hnf := HC.out (fun q => h16 (hw16.out q))
                  have HNF := Lib.hid hnf
                  clear hnf
                  go_wp2_with fail
                  go_roundw
                  case rel => exact ⟨_, _, HG.out, HNF.out, Hb.out⟩
                  case measure => rw [hme, hme0]; exact hlt1
end Go.Proofs.Ytdhfkcodacmbfaa
