/- The walk of the law IecLogic. -/
import Derived.Test.YtdhfkcodacmbfaaIecS
import Derived.Test.YtdhfkcodacmbfaaIecQ
import Derived.Deep.RegionHeld3
set_option linter.unusedVariables false
set_option linter.unusedSimpArgs false
namespace Go.Proofs.Ytdhfkcodacmbfaa
open Go.RowKit

/-- The captured kind lies in block g; nothing that was there is turned. -/
structure SL (w0 : World) (g : Nat) (k : Int) (w : World) : Prop where
  blk : Blk w g #[.int .i64 k] 3
  bel : Below w0.heap.size w0 w
theorem SL.drew {w0 : World} {g : Nat} {k : Int} {w : World} (h : SL w0 g k w) : SL w0 g k w.drew := ⟨h.blk.drew, h.bel.drew⟩
theorem SL.below {w0 : World} {g : Nat} {k : Int} {w w' : World} (h : SL w0 g k w) (b : Below w.heap.size w w') : SL w0 g k w' := ⟨h.blk.keep b, below_then h.bel b⟩
theorem SL.of {p : Prop} {w0 : World} {g : Nat} {k : Int} {w : World} (h : p ∧ SL w0 g k w) : SL w0 g k w := h.2
theorem SL.cell {w0 : World} {g : Nat} {k : Int} {w : World} (h : SL w0 g k w) : w.cell? ⟨g, 0, none⟩ = some (.int .i64 k) := h.blk.cell rfl
theorem SL.both {w0 : World} {g : Nat} {k : Int} {w : World} (h : SL w0 g k w) : w.cell? ⟨g, 0, none⟩ = some (.int .i64 k) ∧ SL w0 g k w := ⟨h.cell, h⟩

theorem SL.start {w w1 : World} (k : Int) (b : Below w.heap.size w w1) (cs : Array Value) (t : TypeId) : SL w (w1.heap.size + 1) k ((w1.alloc (.cells cs t)).alloc (.cells #[.int .i64 k] 3)) :=
  ⟨by have h := Blk.new (w1.alloc (.cells cs t)) #[.int .i64 k] 3; rwa [World.size_alloc] at h, (b.alloc b.size _).alloc (b.alloc b.size _).size _⟩
theorem raw_yes (op a b : Int) : rawK 19 a b = yesK (decide (b < a)) ∧ rawK 20 a b = yesK (decide (b ≤ a)) ∧ rawK 21 a b = yesK (a == b) ∧ rawK 22 a b = yesK (a != b) ∧ rawK 23 a b = yesK (decide (a ≤ b)) ∧ rawK 24 a b = yesK (decide (a < b)) := by
  refine ⟨?_, ?_, ?_, ?_, ?_, ?_⟩ <;> rfl
set_option maxRecDepth 100000 in
set_option maxHeartbeats 20000000 in
theorem logic_walk (n a b : Int) (w : World) (wn : (Lit.int .u8 n).wf = true) (wa : (Lit.int .i64 a).wf = true) (wb : (Lit.int .i64 b).wf = true) :
    Calls Try.prog 19 #[.int .u8 n, .int .i64 a, .int .i64 b] w fun e w' => e = .returned (.bool true) ∧ Below w.heap.size w w' := by
  have HA := Lib.hid (fun W => iawake_any W)
  have rn := wf_range8 wn
  obtain ⟨j, hj⟩ : ∃ j : Nat, n % 3 = j := ⟨(n % 3).toNat, by omega⟩
  have hj3 : j < 3 := by omega
  have h3 : ∃ k : Int, (k = 1 ∨ k = 6 ∨ k = 7) ∧ (#[Value.int .i64 1, .int .i64 6, .int .i64 7] : Array Value)[j]? = some (.int .i64 k) := by
    have : j = 0 ∨ j = 1 ∨ j = 2 := by omega
    rcases this with rfl | rfl | rfl
    · exact ⟨1, by omega, rfl⟩
    · exact ⟨6, by omega, rfl⟩
    · exact ⟨7, by omega, rfl⟩
  obtain ⟨k, hk, hkj⟩ := h3
  have HC := Lib.hid (fun W : World => (Blk.new W #[Value.int .i64 1, .int .i64 6, .int .i64 7] 3).cell (j := j) hkj)
  clear hkj
  have ia := isK_wrap k a (by omega)
  have ib := isK_wrap k b (by omega)
  obtain ⟨na, nb, an, x1, xo, xn, y1, y2, L⟩ := logic_all hk ia ib
  have WA := Lib.hid (fun W => wrap_any k a W wa)
  have WB := Lib.hid (fun W => wrap_any k b W wb)
  generalize wrapK k a = a' at *
  generalize wrapK k b = b' at *
  have wf : ∀ v, (v = a' ∨ v = b' ∨ v = na ∨ v = nb ∨ v = an ∨ v = xo) → (Lit.int .i64 v).wf = true := fun v h => by have := L.r_ v h; exact wf_small (by omega) (by omega)
  have N1 := Lib.hid (fun W => not_any k a' W (wf _ (by simp)))
  have N2 := Lib.hid (fun W => not_any k na W (wf _ (by simp)))
  have N3 := Lib.hid (fun W => not_any k b' W (wf _ (by simp)))
  have N4 := Lib.hid (fun W => not_any k an W (wf _ (by simp)))
  have N5 := Lib.hid (fun W => not_any k xo W (wf _ (by simp)))
  rw [L.na_] at N1
  rw [L.nna] at N2
  rw [L.nb_] at N3
  rw [L.nan] at N4
  rw [L.nxo] at N5
  have ra := L.r_ a' (by simp)
  have rb := L.r_ b' (by simp)
  have rna := L.r_ na (by simp)
  have rnb := L.r_ nb (by simp)
  have rxo := L.r_ xo (by simp)
  have D1 := Lib.hid (fun g W h => logic_clos 7 k a' b' an W g ra rb L.an_ h)
  have D2 := Lib.hid (fun g W h => logic_clos 8 k na nb x1 W g rna rnb L.o_ h)
  have D3 := Lib.hid (fun g W h => logic_clos 9 k a' b' xo W g ra rb L.xo_ h)
  have D4 := Lib.hid (fun g W h => logic_clos 9 k xo b' a' W g rxo rb L.xx_ h)
  have D5 := Lib.hid (fun g W h => logic_clos 10 k a' b' y1 W g ra rb L.y1_ h)
  have D6 := Lib.hid (fun g W h => logic_clos 7 k a' nb y1 W g ra rnb L.z1_ h)
  have D7 := Lib.hid (fun g W h => logic_clos 11 k a' b' y2 W g ra rb L.y2_ h)
  have D8 := Lib.hid (fun g W h => logic_clos 8 k a' nb y2 W g ra rnb L.z2_ h)
  have D9 := Lib.hid (fun g W h => logic_clos 12 k a' b' xn W g ra rb L.x2_ h)
  have C1 := Lib.hid (fun g W h => logic_clos 19 k a' b' _ W g ra rb (L.cmp 19 (by simp)) h)
  have C2 := Lib.hid (fun g W h => logic_clos 20 k a' b' _ W g ra rb (L.cmp 20 (by simp)) h)
  have C3 := Lib.hid (fun g W h => logic_clos 21 k a' b' _ W g ra rb (L.cmp 21 (by simp)) h)
  have C4 := Lib.hid (fun g W h => logic_clos 22 k a' b' _ W g ra rb (L.cmp 22 (by simp)) h)
  have C5 := Lib.hid (fun g W h => logic_clos 23 k a' b' _ W g ra rb (L.cmp 23 (by simp)) h)
  have C6 := Lib.hid (fun g W h => logic_clos 24 k a' b' _ W g ra rb (L.cmp 24 (by simp)) h)
  have C7 := Lib.hid (fun g W h => logic_clos 24 k b' a' _ W g rb ra L.cmp2 h)
  have Q := raw_yes
  have q1 : rawK 19 a' b' = (if b' < a' then 1 else 0) := by rw [(Q 19 a' b').1]; unfold yesK; simp
  have q2 : rawK 20 a' b' = (if b' ≤ a' then 1 else 0) := by rw [(Q 19 a' b').2.1]; unfold yesK; simp
  have q3 : rawK 21 a' b' = (if a' = b' then 1 else 0) := by rw [(Q 19 a' b').2.2.1]; unfold yesK; simp
  have q4 : rawK 22 a' b' = (if a' = b' then 0 else 1) := by rw [(Q 19 a' b').2.2.2.1]; unfold yesK; by_cases h : a' = b' <;> simp [h]
  have q5 : rawK 23 a' b' = (if a' ≤ b' then 1 else 0) := by rw [(Q 19 a' b').2.2.2.2.1]; unfold yesK; simp
  have q6 : rawK 24 a' b' = (if a' < b' then 1 else 0) := by rw [(Q 19 a' b').2.2.2.2.2]; unfold yesK; simp
  have q7 : rawK 24 b' a' = (if b' < a' then 1 else 0) := by rw [(Q 19 b' a').2.2.2.2.2]; unfold yesK; simp
  rw [q1] at C1
  rw [q2] at C2
  rw [q3] at C3
  rw [q4] at C4
  rw [q5] at C5
  rw [q6] at C6
  rw [q7] at C7
  have hc : ∃ c1 c3 c6 : Int, ((c1 = 0 ∨ c1 = 1) ∧ (c3 = 0 ∨ c3 = 1) ∧ (c6 = 0 ∨ c6 = 1)) ∧ (if b' < a' then (1 : Int) else 0) = c1 ∧ (if b' ≤ a' then (1 : Int) else 0) = 1 - c6 ∧ (if a' = b' then (1 : Int) else 0) = c3 ∧ (if a' = b' then (0 : Int) else 1) = 1 - c3 ∧ (if a' ≤ b' then (1 : Int) else 0) = 1 - c1 ∧ (if a' < b' then (1 : Int) else 0) = c6 := by
    refine ⟨if b' < a' then 1 else 0, if a' = b' then 1 else 0, if a' < b' then 1 else 0, ⟨?_, ?_, ?_⟩, rfl, ?_, rfl, ?_, ?_, rfl⟩ <;> (repeat' split) <;> omega
  obtain ⟨c1, c3, c6, ⟨hc1, hc3, hc6⟩, e1, e2, e3, e4, e5, e6⟩ := hc
  rw [e1] at C1 C7
  rw [e2] at C2
  rw [e3] at C3
  rw [e4] at C4
  rw [e5] at C5
  rw [e6] at C6
  have hn0 : (0 : Int) ≤ n := rn.1
  clear q1 q2 q3 q4 q5 q6 q7 e1 e2 e3 e4 e5 e6 Q L wf ra rb rna rnb rxo ia ib wn wa wb hk
  have t1 : (c1 + (1 - c1) == 1) = true := by rw [beq_iff_eq]; omega
  have t3 : (c3 + (1 - c3) == 1) = true := by rw [beq_iff_eq]; omega
  have t6 : (c6 + (1 - c6) == 1) = true := by rw [beq_iff_eq]; omega
  have hj5 : (j : Int) < 3 := by omega
  go_enter Try.func19, Try.ntmps19
  go_wp2_with fail
  refine (HA.out _).mono ?_
  rintro e w1 ⟨rfl, bn⟩
  have cH := HC.out w1
  go_wp2_with fail
  have S0 := SL.start k bn #[.int .i64 1, .int .i64 6, .int .i64 7] 3
  generalize (w1.alloc (.cells #[.int .i64 1, .int .i64 6, .int .i64 7] 3)).alloc (.cells #[.int .i64 k] 3) = w2 at *
  generalize w1.heap.size + 1 = g at *
  clear HC HA bn cH
  have cK := S0.cell
  go_region_held3 (fun W => W.cell? ⟨g, 0, none⟩ = some (.int .i64 k) ∧ SL w g k W)
    ((refine SL.both ?_; first | assumption | (refine SL.drew ?_; assumption)))
    (first | (go_at_call 82; (with_reducible refine (WA.out _).mono ?_); rintro e w9 ⟨rfl, b9⟩; have hS9 := SL.below (SL.of (by assumption)) b9) | (go_at_call 82; (with_reducible refine (WB.out _).mono ?_); rintro e w9 ⟨rfl, b9⟩; have hS9 := SL.below (SL.of (by assumption)) b9))
  clear S0 cK
  have cK := hS9.cell
  go_wp2_with fail
  go_region_held3 (fun W => W.cell? ⟨g, 0, none⟩ = some (.int .i64 k) ∧ SL w g k W)
    ((refine SL.both ?_; first | assumption | (refine SL.drew ?_; assumption)))
    (first | (go_at_call 72; (with_reducible refine (N1.out _).mono ?_); rintro e w9 ⟨rfl, b9⟩; have hS9 := SL.below (SL.of (by assumption)) b9) | (go_at_call 72; (with_reducible refine (N2.out _).mono ?_); rintro e w9 ⟨rfl, b9⟩; have hS9 := SL.below (SL.of (by assumption)) b9) | (go_at_call 72; (with_reducible refine (N3.out _).mono ?_); rintro e w9 ⟨rfl, b9⟩; have hS9 := SL.below (SL.of (by assumption)) b9) | (go_at_call 72; (with_reducible refine (N4.out _).mono ?_); rintro e w9 ⟨rfl, b9⟩; have hS9 := SL.below (SL.of (by assumption)) b9) | (go_at_call 85; (with_reducible refine (D1.out g _ (And.left (by assumption))).mono ?_); rintro e w9 ⟨rfl, b9⟩; have hS9 := SL.below (SL.of (by assumption)) b9) | (go_at_call 85; (with_reducible refine (D2.out g _ (And.left (by assumption))).mono ?_); rintro e w9 ⟨rfl, b9⟩; have hS9 := SL.below (SL.of (by assumption)) b9) | (go_at_call 85; (with_reducible refine (D3.out g _ (And.left (by assumption))).mono ?_); rintro e w9 ⟨rfl, b9⟩; have hS9 := SL.below (SL.of (by assumption)) b9) | (go_at_call 85; (with_reducible refine (D4.out g _ (And.left (by assumption))).mono ?_); rintro e w9 ⟨rfl, b9⟩; have hS9 := SL.below (SL.of (by assumption)) b9))
  go_wp2_with fail
  have cK := hS9.cell
  go_region_held3 (fun W => W.cell? ⟨g, 0, none⟩ = some (.int .i64 k) ∧ SL w g k W)
    ((refine SL.both ?_; first | assumption | (refine SL.drew ?_; assumption)))
    (first | (go_at_call 72; (with_reducible refine (N3.out _).mono ?_); rintro e w9 ⟨rfl, b9⟩; have hS9 := SL.below (SL.of (by assumption)) b9) | (go_at_call 72; (with_reducible refine (N5.out _).mono ?_); rintro e w9 ⟨rfl, b9⟩; have hS9 := SL.below (SL.of (by assumption)) b9) | (go_at_call 85; (with_reducible refine (D5.out g _ (And.left (by assumption))).mono ?_); rintro e w9 ⟨rfl, b9⟩; have hS9 := SL.below (SL.of (by assumption)) b9) | (go_at_call 85; (with_reducible refine (D6.out g _ (And.left (by assumption))).mono ?_); rintro e w9 ⟨rfl, b9⟩; have hS9 := SL.below (SL.of (by assumption)) b9) | (go_at_call 85; (with_reducible refine (D7.out g _ (And.left (by assumption))).mono ?_); rintro e w9 ⟨rfl, b9⟩; have hS9 := SL.below (SL.of (by assumption)) b9) | (go_at_call 85; (with_reducible refine (D8.out g _ (And.left (by assumption))).mono ?_); rintro e w9 ⟨rfl, b9⟩; have hS9 := SL.below (SL.of (by assumption)) b9) | (go_at_call 85; (with_reducible refine (D9.out g _ (And.left (by assumption))).mono ?_); rintro e w9 ⟨rfl, b9⟩; have hS9 := SL.below (SL.of (by assumption)) b9) | (go_at_call 85; (with_reducible refine (D3.out g _ (And.left (by assumption))).mono ?_); rintro e w9 ⟨rfl, b9⟩; have hS9 := SL.below (SL.of (by assumption)) b9))
  go_wp2_with fail
  refine (C1.out g _ hS9.cell).mono ?_
  rintro e w10 ⟨rfl, b10⟩
  replace hS9 := SL.below hS9 b10
  clear b10
  go_wp2_with fail
  refine (C5.out g _ hS9.cell).mono ?_
  rintro e w10 ⟨rfl, b10⟩
  replace hS9 := SL.below hS9 b10
  clear b10
  go_wp2_with fail
  refine (C6.out g _ hS9.cell).mono ?_
  rintro e w10 ⟨rfl, b10⟩
  replace hS9 := SL.below hS9 b10
  clear b10
  go_wp2_with fail
  refine (C2.out g _ hS9.cell).mono ?_
  rintro e w10 ⟨rfl, b10⟩
  replace hS9 := SL.below hS9 b10
  clear b10
  go_wp2_with fail
  refine (C3.out g _ hS9.cell).mono ?_
  rintro e w10 ⟨rfl, b10⟩
  replace hS9 := SL.below hS9 b10
  clear b10
  go_wp2_with fail
  refine (C4.out g _ hS9.cell).mono ?_
  rintro e w10 ⟨rfl, b10⟩
  replace hS9 := SL.below hS9 b10
  clear b10
  go_wp2_with fail
  refine (C1.out g _ hS9.cell).mono ?_
  rintro e w10 ⟨rfl, b10⟩
  replace hS9 := SL.below hS9 b10
  clear b10
  go_wp2_with fail
  refine (C7.out g _ hS9.cell).mono ?_
  rintro e w10 ⟨rfl, b10⟩
  replace hS9 := SL.below hS9 b10
  clear b10
  go_wp2_with fail
  go_ret
  exact ⟨ret_bool (by first | rfl | simp), hS9.bel⟩
end Go.Proofs.Ytdhfkcodacmbfaa
