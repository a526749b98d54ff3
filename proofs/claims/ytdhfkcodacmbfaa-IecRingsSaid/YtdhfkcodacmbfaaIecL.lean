/- The kinds of values (iec): put. -/
import Derived.Test.YtdhfkcodacmbfaaIecK
set_option linter.unusedVariables false
set_option linter.unusedSimpArgs false
namespace Go.Proofs.Ytdhfkcodacmbfaa
open Go.RowKit

/-- A row into which a number's lowest t bytes have been put, from place E downward. -/
def putF (f : Nat → Int) (E t : Nat) (V : Int) (j : Nat) : Int := if E ≤ j + t ∧ j < E then (V / 256 ^ (E - 1 - j)) % 256 else f j
theorem putF_zero (f : Nat → Int) (E : Nat) (V : Int) (j : Nat) : putF f E 0 V j = f j := by
  unfold putF
  rw [if_neg (by omega)]
theorem putF_step (f : Nat → Int) (E t : Nat) (V : Int) (ht : t < E) (j : Nat) : (if j = E - 1 - t then (V / 256 ^ t) % 256 else putF f E t V j) = putF f E (t + 1) V j := by
  unfold putF
  by_cases h : j = E - 1 - t
  · rw [if_pos h, if_pos (by omega), show E - 1 - j = t by omega]
  · rw [if_neg h]
    by_cases h2 : E ≤ j + t ∧ j < E
    · rw [if_pos h2, if_pos (by omega)]
    · rw [if_neg h2, if_neg (by omega)]
theorem div_range (V : Int) (t : Nat) (ht : t ≤ 3) (h0 : -2147483648 ≤ V) (h1 : V ≤ 4294967295) : -2147483648 ≤ V / 256 ^ t ∧ V / 256 ^ t ≤ 4294967295 := by
  have hc : t = 0 ∨ t = 1 ∨ t = 2 ∨ t = 3 := by omega
  rcases hc with rfl | rfl | rfl | rfl <;> omega
set_option maxRecDepth 100000 in
set_option maxHeartbeats 4000000 in
theorem put_yes (W0 : World) (g n cap : Nat) (f : Nat → Int) (at_ k v : Int) (w : World) (hn : n ≤ 1000000) (h : thereK n at_ k = true) (hv : (Lit.int .i64 v).wf = true)
    (hR : Row w g n (fun j => .int .u8 (f j))) (hb : Below W0.heap.size W0 w) (hg : W0.heap.size ≤ g) :
    Calls Try.prog 78 #[.slice (some ⟨g, 0, none⟩) n cap, .int .i64 at_, .int .i64 k, .int .i64 v] w fun e w' => e = .returned (.bool true) ∧ Row w' g n (fun j => .int .u8 (putF f (at_.toNat + (ksize k).toNat) (ksize k).toNat (wrapK k v) j)) ∧ Below W0.heap.size W0 w' := by
  have HT := Lib.hid (fun W => there_any n at_ k W (by omega) (by omega))
  have HS := Lib.hid (fun W => size_any k W)
  have HW := Lib.hid (fun W => wrap_any k v W hv)
  have hr := ksize_range k
  have hV := wrapK_range k v
  have hh := of_decide_eq_true h
  rw [h] at HT
  clear h
  generalize wrapK k v = V at *
  have hA : at_ = (at_.toNat : Int) := by omega
  have hK : ksize k = ((ksize k).toNat : Int) := by omega
  generalize at_.toNat = A at *
  generalize (ksize k).toNat = s at *
  rw [hK] at hh hr HS
  clear hK
  subst hA
  have hgl : g < w.heap.size := hR.lt (by omega)
  go_enter Try.func78, Try.ntmps78
  go_wp2_with fail
  refine (HT.out _).mono ?_
  rintro e w1 ⟨rfl, b⟩
  have hR1 := hR.below b hgl
  have hb1 := below_lift hb b hb.size
  clear hR b hgl hb
  go_wp2_with fail
  refine (HW.out _).mono ?_
  rintro e w2 ⟨rfl, b⟩
  have hR2 := hR1.below b (hR1.lt (by omega))
  have hb2 := below_lift hb1 b hb1.size
  clear hR1 b hb1
  go_wp2_with fail
  refine (HS.out _).mono ?_
  rintro e w3 ⟨rfl, b⟩
  have hR3 := hR2.below b (hR2.lt (by omega))
  have hb3 := below_lift hb2 b hb2.size
  clear hR2 b hb2
  go_wp2_with fail
  go_loopw [3, 9] (fun u i wr => ∃ (t : Nat) (U : Int), t ≤ s ∧ i = .int .i64 ((s : Int) - 1 - t) ∧ u = .int .i64 U ∧ U = V / 256 ^ t ∧ Row wr g n (fun j => .int .u8 (putF f (A + s) t V j)) ∧ Below W0.heap.size W0 wr) (fun _ i _ => (intOf i + 1).toNat)
  case atStart => exact ⟨0, V, by omega, by go_num, rfl, by simp, hR3.congr (fun j _ => by rw [putF_zero]), hb3⟩
  case round =>
    clear hR3 hb3
    obtain ⟨t, U, ht, rfl, rfl, hU, hR, hb⟩ := hrel
    by_cases hlt : t < s
    · have hUr := div_range V t (by omega) hV.1 hV.2
      rw [← hU] at hUr
      have hU2 : U / 256 = V / 256 ^ (t + 1) := by rw [hU, Int.ediv_ediv_of_nonneg (by exact Int.pow_nonneg (by decide)), Int.pow_succ]
      have HU := Lib.hid hU
      have HU2 := Lib.hid hU2
      have hi : ((A : Int) + ((s : Int) - 1 - t)) = ((A + s - 1 - t : Nat) : Int) := by omega
      have hc := hR.cell (A + s - 1 - t) (by omega)
      have hf := hR.free (A + s - 1 - t) (by omega)
      have hRs := hR.set (A + s - 1 - t) (.int .u8 (U % 256)) (by omega)
      have hbs := hb.setCell (p := ⟨g, A + s - 1 - t, none⟩) hg (.int .u8 (U % 256))
      clear hU hU2 hR hb
      go_wp2_with fail
      refine ⟨⟨t + 1, U / 256, by omega, val_int (by omega), rfl, HU2.out, hRs.congr (fun j hj => ?_), hbs⟩, by simp [intOf]; omega⟩
      rw [← putF_step f (A + s) t V (by omega) j, HU.out, show A + s - 1 - t = A + s - 1 - t from rfl]
      split <;> rfl
    · obtain rfl : t = s := by omega
      go_wp2_with fail
      go_ret
      exact ⟨rfl, hR, hb⟩
set_option maxRecDepth 100000 in
set_option maxHeartbeats 4000000 in
theorem put_no (A : Option Addr) (n cap : Nat) (at_ k v : Int) (w : World) (hn : n ≤ 1000000) (h : thereK n at_ k = false) :
    Calls Try.prog 78 #[.slice A n cap, .int .i64 at_, .int .i64 k, .int .i64 v] w fun e w' => e = .returned (.bool false) ∧ Below w.heap.size w w' := by
  have HT := Lib.hid (fun W => there_any n at_ k W (by omega) (by omega))
  rw [h] at HT
  clear h
  go_enter Try.func78, Try.ntmps78
  go_wp2_with fail
  refine (HT.out _).mono ?_
  rintro e w1 ⟨rfl, b⟩
  go_wp2_with fail
  go_ret
  exact ⟨rfl, b⟩
end Go.Proofs.Ytdhfkcodacmbfaa
