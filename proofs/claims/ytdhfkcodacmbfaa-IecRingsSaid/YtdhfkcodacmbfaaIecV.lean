/- The walk of the law IecRings. -/
import Derived.Test.YtdhfkcodacmbfaaIecU
import Derived.Test.YtdhfkcodacmbfaaArr
import Derived.Test.YtdhfkcodacmbfaaItems
import Derived.Deep.RegionHeld3
set_option linter.unusedVariables false
set_option linter.unusedSimpArgs false
namespace Go.Proofs.Ytdhfkcodacmbfaa
open Go.RowKit

/-- The kind lies in block g, the three numbers in block X. -/
structure ST (w0 : World) (X g : Nat) (k a b c : Int) (w : World) : Prop where
  blk : Blk w g #[.int .i64 k] 3
  arr : Blk w X #[.int .i64 a, .int .i64 b, .int .i64 c] 108
  bel : Below w0.heap.size w0 w
theorem ST.drew {w0 : World} {X g : Nat} {k a b c : Int} {w : World} (h : ST w0 X g k a b c w) : ST w0 X g k a b c w.drew := ⟨h.blk.drew, h.arr.drew, h.bel.drew⟩
theorem ST.below {w0 : World} {X g : Nat} {k a b c : Int} {w w' : World} (h : ST w0 X g k a b c w) (n : Below w.heap.size w w') : ST w0 X g k a b c w' := ⟨h.blk.keep n, h.arr.keep n, below_then h.bel n⟩
theorem ST.all {w0 : World} {X g : Nat} {k a b c : Int} {w : World} (h : ST w0 X g k a b c w) : w.cell? ⟨g, 0, none⟩ = some (.int .i64 k) ∧ w.cell? ⟨X, 0, none⟩ = some (.int .i64 a) ∧ w.cell? ⟨X, 1, none⟩ = some (.int .i64 b) ∧ w.cell? ⟨X, 2, none⟩ = some (.int .i64 c) ∧ ST w0 X g k a b c w := ⟨h.blk.cell rfl, h.arr.cell rfl, h.arr.cell rfl, h.arr.cell rfl, h⟩
theorem ST.of {p q r s : Prop} {w0 : World} {X g : Nat} {k a b c : Int} {w : World} (h : p ∧ q ∧ r ∧ s ∧ ST w0 X g k a b c w) : ST w0 X g k a b c w := h.2.2.2.2
theorem ST.start {w0 w1 : World} {X : Nat} {a b c : Int} (k : Int) (hX : Blk w1 X #[.int .i64 a, .int .i64 b, .int .i64 c] 108) (bl : Below w0.heap.size w0 w1) (cs : Array Value) (t : TypeId) : ST w0 X (w1.heap.size + 1) k a b c ((w1.alloc (.cells cs t)).alloc (.cells #[.int .i64 k] 3)) :=
  ⟨by have h := Blk.new (w1.alloc (.cells cs t)) #[.int .i64 k] 3; rwa [World.size_alloc] at h, (hX.alloc _).alloc _, (bl.alloc bl.size _).alloc (bl.alloc bl.size _).size _⟩
theorem ST.flag {w0 w : World} {X g : Nat} {k a b c : Int} (h : ST w0 X g k a b c w) : SG w0 g w.heap.size k (w.alloc (.cells #[.bool true] 4)) :=
  ⟨h.blk.alloc _, Blk.new _ _ _, by have := h.blk.lt; omega, h.bel.size, h.bel.alloc h.bel.size _⟩
set_option maxRecDepth 100000 in
set_option maxHeartbeats 20000000 in
theorem rings_walk (n a b c : Int) (w : World) (wn : (Lit.int .u8 n).wf = true) (wa : (Lit.int .i64 a).wf = true) (wb : (Lit.int .i64 b).wf = true) (wc : (Lit.int .i64 c).wf = true) :
    Calls Try.prog 18 #[.int .u8 n, .agg #[.int .i64 a, .int .i64 b, .int .i64 c]] w fun e w' => e = .returned (.bool true) ∧ Below w.heap.size w w' := by
  have HA := Lib.hid (fun W => iawake_any W)
  have rn := wf_range8 wn
  obtain ⟨j, hj⟩ : ∃ j : Nat, n % 4 = j := ⟨(n % 4).toNat, by omega⟩
  have hj4 : j < 4 := by omega
  obtain ⟨k, hkk⟩ : ∃ k : Int, k = 2 + j := ⟨_, rfl⟩
  have hk : k = 2 ∨ k = 3 ∨ k = 4 ∨ k = 5 := by omega
  have hcell : ∀ W : World, (W.alloc (.cells #[.int .i64 2, .int .i64 3, .int .i64 4, .int .i64 5] 3)).cell? ⟨W.heap.size, j, none⟩ = some (.int .i64 k) := fun W => by
    have h := (Blk.new W #[.int .i64 2, .int .i64 3, .int .i64 4, .int .i64 5] 3).cell (j := j) (v := .int .i64 k)
    apply h
    have : j = 0 ∨ j = 1 ∨ j = 2 ∨ j = 3 := by omega
    subst hkk
    rcases this with rfl | rfl | rfl | rfl <;> rfl
  have HC := Lib.hid hcell
  clear hcell hkk
  have ia := isK_wrap k a (by omega)
  have ib := isK_wrap k b (by omega)
  have ic := isK_wrap k c (by omega)
  obtain ⟨s, t, u, p, x, r, q, m, y, R⟩ := rings_all hk ia ib ic
  have WA := Lib.hid (fun W => wrap_any k a W wa)
  have WB := Lib.hid (fun W => wrap_any k b W wb)
  have WC := Lib.hid (fun W => wrap_any k c W wc)
  generalize wrapK k a = a' at *
  generalize wrapK k b = b' at *
  generalize wrapK k c = c' at *
  have ra := ari_small hk ia
  have rb := ari_small hk ib
  have rc := ari_small hk ic
  have rs := ari_small hk R.ks
  have ru := ari_small hk R.ku
  have rp := ari_small hk R.kp
  have rr := ari_small hk R.kr
  have rq := ari_small hk R.kq
  have rm := ari_small hk R.km
  have ry := ari_small hk R.ky
  have A1 := Lib.hid (fun g f W h => rings_clos 14 k a' b' s w W g f ra rb R.ab R.ks h)
  have A2 := Lib.hid (fun g f W h => rings_clos 14 k b' a' s w W g f rb ra R.ba R.ks h)
  have A3 := Lib.hid (fun g f W h => rings_clos 14 k s c' t w W g f rs rc R.sc R.kt h)
  have A4 := Lib.hid (fun g f W h => rings_clos 14 k b' c' u w W g f rb rc R.bc R.ku h)
  have A5 := Lib.hid (fun g f W h => rings_clos 14 k a' u t w W g f ra ru R.au R.kt h)
  have A6 := Lib.hid (fun g f W h => rings_clos 15 k s b' a' w W g f rs rb R.sb ia h)
  have M1 := Lib.hid (fun g f W h => rings_clos 16 k a' b' p w W g f ra rb R.mab R.kp h)
  have M2 := Lib.hid (fun g f W h => rings_clos 16 k b' a' p w W g f rb ra R.mba R.kp h)
  have M3 := Lib.hid (fun g f W h => rings_clos 16 k a' u x w W g f ra ru R.mau R.kx h)
  have M4 := Lib.hid (fun g f W h => rings_clos 16 k a' c' r w W g f ra rc R.mac R.kr h)
  have M5 := Lib.hid (fun g f W h => rings_clos 14 k p r x w W g f rp rr R.pr R.kx h)
  have Q1 := Lib.hid (fun g f W h => rings_clos 17 k a' b' q w W g f ra rb R.qq R.kq h)
  have Q2 := Lib.hid (fun g f W h => rings_clos 18 k a' b' m w W g f ra rb R.mm R.km h)
  have hn0 : (0 : Int) ≤ n := rn.1
  have hX0 := Blk.new w #[Value.int .i64 a, .int .i64 b, .int .i64 c] 108
  have bb0 := (Below.refl w.heap.size w).alloc (Nat.le_refl _) (.cells #[Value.int .i64 a, .int .i64 b, .int .i64 c] 108)
  by_cases hb0 : b' = 0
  · obtain ⟨hq0, hm0⟩ := R.zero hb0
    clear R ra rb rc rs ru rp rr rq rm ry ia ib ic wn wa wb wc hk
    subst hb0 hq0 hm0
    clear rn
    have hj5 : (j : Int) < 4 := by omega
    go_enter Try.func18, Try.ntmps18
    go_wp2_with fail
    generalize w.alloc (.cells #[Value.int .i64 a, .int .i64 b, .int .i64 c] 108) = w0 at *
    refine (HA.out _).mono ?_
    rintro e w1 ⟨rfl, bn⟩
    have hX := hX0.keep bn
    have bl := below_lift bb0 bn bb0.size
    have cH := HC.out w1
    clear hX0 bb0 bn
    go_wp2_with fail
    have S0 := ST.start k hX bl #[.int .i64 2, .int .i64 3, .int .i64 4, .int .i64 5] 3
    generalize (w1.alloc (.cells #[.int .i64 2, .int .i64 3, .int .i64 4, .int .i64 5] 3)).alloc (.cells #[.int .i64 k] 3) = w2 at *
    generalize w1.heap.size + 1 = g at *
    clear HA hX bl cH HC
    obtain ⟨cK, c0, c1, c2, _⟩ := S0.all
    go_region_held3 (fun W => W.cell? ⟨g, 0, none⟩ = some (.int .i64 k) ∧ W.cell? ⟨w.heap.size, 0, none⟩ = some (.int .i64 a) ∧ W.cell? ⟨w.heap.size, 1, none⟩ = some (.int .i64 b) ∧ W.cell? ⟨w.heap.size, 2, none⟩ = some (.int .i64 c) ∧ ST w w.heap.size g k a b c W)
      ((refine ST.all ?_; first | assumption | (refine ST.drew ?_; assumption)))
      (first | (go_at_call 82; (with_reducible refine (WA.out _).mono ?_); rintro e w9 ⟨rfl, b9⟩; have hS9 := ST.below (ST.of (by assumption)) b9) | (go_at_call 82; (with_reducible refine (WB.out _).mono ?_); rintro e w9 ⟨rfl, b9⟩; have hS9 := ST.below (ST.of (by assumption)) b9) | (go_at_call 82; (with_reducible refine (WC.out _).mono ?_); rintro e w9 ⟨rfl, b9⟩; have hS9 := ST.below (ST.of (by assumption)) b9))
    clear S0 cK c0 c1 c2
    go_wp2_with fail
    have hG := hS9.flag
    generalize w9.alloc (.cells #[.bool true] 4) = w3 at *
    generalize w9.heap.size = f at *
    clear hS9
    go_wp2_with fail
    refine (A1.out g f _ hG).mono ?_
    rintro e w10 ⟨rfl, hG'⟩
    clear hG
    have hG := hG'
    clear hG'
    go_wp2_with fail
    refine (A2.out g f _ hG).mono ?_
    rintro e w10 ⟨rfl, hG'⟩
    clear hG
    have hG := hG'
    clear hG'
    go_wp2_with fail
    refine (A1.out g f _ hG).mono ?_
    rintro e w10 ⟨rfl, hG'⟩
    clear hG
    have hG := hG'
    clear hG'
    go_wp2_with fail
    refine (A3.out g f _ hG).mono ?_
    rintro e w10 ⟨rfl, hG'⟩
    clear hG
    have hG := hG'
    clear hG'
    go_wp2_with fail
    refine (A4.out g f _ hG).mono ?_
    rintro e w10 ⟨rfl, hG'⟩
    clear hG
    have hG := hG'
    clear hG'
    go_wp2_with fail
    refine (A5.out g f _ hG).mono ?_
    rintro e w10 ⟨rfl, hG'⟩
    clear hG
    have hG := hG'
    clear hG'
    go_wp2_with fail
    refine (A1.out g f _ hG).mono ?_
    rintro e w10 ⟨rfl, hG'⟩
    clear hG
    have hG := hG'
    clear hG'
    go_wp2_with fail
    refine (A6.out g f _ hG).mono ?_
    rintro e w10 ⟨rfl, hG'⟩
    clear hG
    have hG := hG'
    clear hG'
    go_wp2_with fail
    refine (M1.out g f _ hG).mono ?_
    rintro e w10 ⟨rfl, hG'⟩
    clear hG
    have hG := hG'
    clear hG'
    go_wp2_with fail
    refine (M2.out g f _ hG).mono ?_
    rintro e w10 ⟨rfl, hG'⟩
    clear hG
    have hG := hG'
    clear hG'
    go_wp2_with fail
    refine (A4.out g f _ hG).mono ?_
    rintro e w10 ⟨rfl, hG'⟩
    clear hG
    have hG := hG'
    clear hG'
    go_wp2_with fail
    refine (M3.out g f _ hG).mono ?_
    rintro e w10 ⟨rfl, hG'⟩
    clear hG
    have hG := hG'
    clear hG'
    go_wp2_with fail
    refine (M1.out g f _ hG).mono ?_
    rintro e w10 ⟨rfl, hG'⟩
    clear hG
    have hG := hG'
    clear hG'
    go_wp2_with fail
    refine (M4.out g f _ hG).mono ?_
    rintro e w10 ⟨rfl, hG'⟩
    clear hG
    have hG := hG'
    clear hG'
    go_wp2_with fail
    refine (M5.out g f _ hG).mono ?_
    rintro e w10 ⟨rfl, hG'⟩
    clear hG
    have hG := hG'
    clear hG'
    go_wp2_with fail
    refine (Q1.out g f _ hG).mono ?_
    rintro e w10 ⟨rfl, hG'⟩
    clear hG
    have hG := hG'
    clear hG'
    go_wp2_with fail
    refine (Q2.out g f _ hG).mono ?_
    rintro e w10 ⟨rfl, hG'⟩
    clear hG
    have hG := hG'
    clear hG'
    have cF := hG.up
    go_wp2_with fail
    go_ret
    exact ⟨ret_bool (by first | rfl | simp), hG.bel⟩
  · obtain ⟨hl, hmq, hadd⟩ := R.less hb0
    have hsg := R.sign
    have Q3 := Lib.hid (fun g f W h => rings_clos 16 k q b' y w W g f rq rb hmq R.ky h)
    have Q4 := Lib.hid (fun g f W h => rings_clos 14 k y m a' w W g f ry rm hadd ia h)
    have zb : (b' == 0) = false := by simpa using hb0
    clear R rc rs ru rp rr rq ry ia ib ic wn wa wb wc hk hmq hadd rn
    have hj5 : (j : Int) < 4 := by omega
    go_enter Try.func18, Try.ntmps18
    go_wp2_with fail
    generalize w.alloc (.cells #[Value.int .i64 a, .int .i64 b, .int .i64 c] 108) = w0 at *
    refine (HA.out _).mono ?_
    rintro e w1 ⟨rfl, bn⟩
    have hX := hX0.keep bn
    have bl := below_lift bb0 bn bb0.size
    have cH := HC.out w1
    clear hX0 bb0 bn
    go_wp2_with fail
    have S0 := ST.start k hX bl #[.int .i64 2, .int .i64 3, .int .i64 4, .int .i64 5] 3
    generalize (w1.alloc (.cells #[.int .i64 2, .int .i64 3, .int .i64 4, .int .i64 5] 3)).alloc (.cells #[.int .i64 k] 3) = w2 at *
    generalize w1.heap.size + 1 = g at *
    clear HA hX bl cH HC
    obtain ⟨cK, c0, c1, c2, _⟩ := S0.all
    go_region_held3 (fun W => W.cell? ⟨g, 0, none⟩ = some (.int .i64 k) ∧ W.cell? ⟨w.heap.size, 0, none⟩ = some (.int .i64 a) ∧ W.cell? ⟨w.heap.size, 1, none⟩ = some (.int .i64 b) ∧ W.cell? ⟨w.heap.size, 2, none⟩ = some (.int .i64 c) ∧ ST w w.heap.size g k a b c W)
      ((refine ST.all ?_; first | assumption | (refine ST.drew ?_; assumption)))
      (first | (go_at_call 82; (with_reducible refine (WA.out _).mono ?_); rintro e w9 ⟨rfl, b9⟩; have hS9 := ST.below (ST.of (by assumption)) b9) | (go_at_call 82; (with_reducible refine (WB.out _).mono ?_); rintro e w9 ⟨rfl, b9⟩; have hS9 := ST.below (ST.of (by assumption)) b9) | (go_at_call 82; (with_reducible refine (WC.out _).mono ?_); rintro e w9 ⟨rfl, b9⟩; have hS9 := ST.below (ST.of (by assumption)) b9))
    clear S0 cK c0 c1 c2
    go_wp2_with fail
    have hG := hS9.flag
    generalize w9.alloc (.cells #[.bool true] 4) = w3 at *
    generalize w9.heap.size = f at *
    clear hS9
    go_wp2_with fail
    refine (A1.out g f _ hG).mono ?_
    rintro e w10 ⟨rfl, hG'⟩
    clear hG
    have hG := hG'
    clear hG'
    go_wp2_with fail
    refine (A2.out g f _ hG).mono ?_
    rintro e w10 ⟨rfl, hG'⟩
    clear hG
    have hG := hG'
    clear hG'
    go_wp2_with fail
    refine (A1.out g f _ hG).mono ?_
    rintro e w10 ⟨rfl, hG'⟩
    clear hG
    have hG := hG'
    clear hG'
    go_wp2_with fail
    refine (A3.out g f _ hG).mono ?_
    rintro e w10 ⟨rfl, hG'⟩
    clear hG
    have hG := hG'
    clear hG'
    go_wp2_with fail
    refine (A4.out g f _ hG).mono ?_
    rintro e w10 ⟨rfl, hG'⟩
    clear hG
    have hG := hG'
    clear hG'
    go_wp2_with fail
    refine (A5.out g f _ hG).mono ?_
    rintro e w10 ⟨rfl, hG'⟩
    clear hG
    have hG := hG'
    clear hG'
    go_wp2_with fail
    refine (A1.out g f _ hG).mono ?_
    rintro e w10 ⟨rfl, hG'⟩
    clear hG
    have hG := hG'
    clear hG'
    go_wp2_with fail
    refine (A6.out g f _ hG).mono ?_
    rintro e w10 ⟨rfl, hG'⟩
    clear hG
    have hG := hG'
    clear hG'
    go_wp2_with fail
    refine (M1.out g f _ hG).mono ?_
    rintro e w10 ⟨rfl, hG'⟩
    clear hG
    have hG := hG'
    clear hG'
    go_wp2_with fail
    refine (M2.out g f _ hG).mono ?_
    rintro e w10 ⟨rfl, hG'⟩
    clear hG
    have hG := hG'
    clear hG'
    go_wp2_with fail
    refine (A4.out g f _ hG).mono ?_
    rintro e w10 ⟨rfl, hG'⟩
    clear hG
    have hG := hG'
    clear hG'
    go_wp2_with fail
    refine (M3.out g f _ hG).mono ?_
    rintro e w10 ⟨rfl, hG'⟩
    clear hG
    have hG := hG'
    clear hG'
    go_wp2_with fail
    refine (M1.out g f _ hG).mono ?_
    rintro e w10 ⟨rfl, hG'⟩
    clear hG
    have hG := hG'
    clear hG'
    go_wp2_with fail
    refine (M4.out g f _ hG).mono ?_
    rintro e w10 ⟨rfl, hG'⟩
    clear hG
    have hG := hG'
    clear hG'
    go_wp2_with fail
    refine (M5.out g f _ hG).mono ?_
    rintro e w10 ⟨rfl, hG'⟩
    clear hG
    have hG := hG'
    clear hG'
    go_wp2_with fail
    refine (Q1.out g f _ hG).mono ?_
    rintro e w10 ⟨rfl, hG'⟩
    clear hG
    have hG := hG'
    clear hG'
    go_wp2_with fail
    refine (Q2.out g f _ hG).mono ?_
    rintro e w10 ⟨rfl, hG'⟩
    clear hG
    have hG := hG'
    clear hG'
    have cF := hG.up
    have d0 : ∀ P Q : Prop, [Decidable P] → [Decidable Q] → (P ↔ Q) → decide P = decide Q := fun P Q _ _ h => decide_eq_decide.2 h
    clear d0
    have h6 : (m < 0 ∨ m = 0 ∨ 0 < m) ∧ (b' < 0 ∨ 0 < b') := by omega
    rcases h6 with ⟨hm | hm | hm, hb | hb⟩
    · have l1 : -m < -b' := by omega
      have l2 : ¬ 0 < b' := by omega
      have k1 : ¬ (-m = 0) := by omega
      have k2 : (-m == 0) = false := by simpa using k1
      have ha : a' < 0 := by omega
      clear hl hsg hb0
      go_wp2_with fail
      refine (Q3.out g f _ hG).mono ?_
      rintro e w10 ⟨rfl, hG'⟩
      clear hG cF
      have hG := hG'
      have cF := hG.up
      clear hG'
      go_wp2_with fail
      refine (Q2.out g f _ hG).mono ?_
      rintro e w10 ⟨rfl, hG'⟩
      clear hG cF
      have hG := hG'
      have cF := hG.up
      clear hG'
      go_wp2_with fail
      refine (Q4.out g f _ hG).mono ?_
      rintro e w10 ⟨rfl, hG'⟩
      clear hG cF
      have hG := hG'
      have cF := hG.up
      clear hG'
      go_wp2_with fail
      refine (Q2.out g f _ hG).mono ?_
      rintro e w10 ⟨rfl, hG'⟩
      clear hG cF
      have hG := hG'
      have cF := hG.up
      clear hG'
      go_wp2_with fail
      go_ret
      exact ⟨ret_bool (by first | rfl | (simp; done) | (simp; omega)), hG.bel⟩
    · have l1 : -m < b' := by omega
      have k1 : ¬ (-m = 0) := by omega
      have k2 : (-m == 0) = false := by simpa using k1
      have ha : a' < 0 := by omega
      clear hl hsg hb0
      go_wp2_with fail
      refine (Q3.out g f _ hG).mono ?_
      rintro e w10 ⟨rfl, hG'⟩
      clear hG cF
      have hG := hG'
      have cF := hG.up
      clear hG'
      go_wp2_with fail
      refine (Q2.out g f _ hG).mono ?_
      rintro e w10 ⟨rfl, hG'⟩
      clear hG cF
      have hG := hG'
      have cF := hG.up
      clear hG'
      go_wp2_with fail
      refine (Q4.out g f _ hG).mono ?_
      rintro e w10 ⟨rfl, hG'⟩
      clear hG cF
      have hG := hG'
      have cF := hG.up
      clear hG'
      go_wp2_with fail
      refine (Q2.out g f _ hG).mono ?_
      rintro e w10 ⟨rfl, hG'⟩
      clear hG cF
      have hG := hG'
      have cF := hG.up
      clear hG'
      go_wp2_with fail
      go_ret
      exact ⟨ret_bool (by first | rfl | (simp; done) | (simp; omega)), hG.bel⟩
    · subst hm
      have l1 : 0 < -b' := by omega
      have l2 : ¬ 0 < b' := by omega
      clear hl hsg hb0
      go_wp2_with fail
      refine (Q3.out g f _ hG).mono ?_
      rintro e w10 ⟨rfl, hG'⟩
      clear hG cF
      have hG := hG'
      have cF := hG.up
      clear hG'
      go_wp2_with fail
      refine (Q2.out g f _ hG).mono ?_
      rintro e w10 ⟨rfl, hG'⟩
      clear hG cF
      have hG := hG'
      have cF := hG.up
      clear hG'
      go_wp2_with fail
      refine (Q4.out g f _ hG).mono ?_
      rintro e w10 ⟨rfl, hG'⟩
      clear hG cF
      have hG := hG'
      have cF := hG.up
      clear hG'
      go_wp2_with fail
      go_ret
      exact ⟨ret_bool (by first | rfl | (simp; done) | (simp; omega)), hG.bel⟩
    · subst hm
      clear hl hsg hb0
      go_wp2_with fail
      refine (Q3.out g f _ hG).mono ?_
      rintro e w10 ⟨rfl, hG'⟩
      clear hG cF
      have hG := hG'
      have cF := hG.up
      clear hG'
      go_wp2_with fail
      refine (Q2.out g f _ hG).mono ?_
      rintro e w10 ⟨rfl, hG'⟩
      clear hG cF
      have hG := hG'
      have cF := hG.up
      clear hG'
      go_wp2_with fail
      refine (Q4.out g f _ hG).mono ?_
      rintro e w10 ⟨rfl, hG'⟩
      clear hG cF
      have hG := hG'
      have cF := hG.up
      clear hG'
      go_wp2_with fail
      go_ret
      exact ⟨ret_bool (by first | rfl | (simp; done) | (simp; omega)), hG.bel⟩
    · have l1 : m < -b' := by omega
      have l2 : ¬ 0 < b' := by omega
      have l0 : ¬ m < 0 := by omega
      have k2 : (m == 0) = false := by simp; omega
      have ha : ¬ a' < 0 := by omega
      clear hl hsg hb0
      go_wp2_with fail
      refine (Q3.out g f _ hG).mono ?_
      rintro e w10 ⟨rfl, hG'⟩
      clear hG cF
      have hG := hG'
      have cF := hG.up
      clear hG'
      go_wp2_with fail
      refine (Q2.out g f _ hG).mono ?_
      rintro e w10 ⟨rfl, hG'⟩
      clear hG cF
      have hG := hG'
      have cF := hG.up
      clear hG'
      go_wp2_with fail
      refine (Q4.out g f _ hG).mono ?_
      rintro e w10 ⟨rfl, hG'⟩
      clear hG cF
      have hG := hG'
      have cF := hG.up
      clear hG'
      go_wp2_with fail
      refine (Q2.out g f _ hG).mono ?_
      rintro e w10 ⟨rfl, hG'⟩
      clear hG cF
      have hG := hG'
      have cF := hG.up
      clear hG'
      go_wp2_with fail
      go_ret
      exact ⟨ret_bool (by first | rfl | (simp; done) | (simp; omega)), hG.bel⟩
    · have l1 : m < b' := by omega
      have l0 : ¬ m < 0 := by omega
      have k2 : (m == 0) = false := by simp; omega
      have ha : ¬ a' < 0 := by omega
      clear hl hsg hb0
      go_wp2_with fail
      refine (Q3.out g f _ hG).mono ?_
      rintro e w10 ⟨rfl, hG'⟩
      clear hG cF
      have hG := hG'
      have cF := hG.up
      clear hG'
      go_wp2_with fail
      refine (Q2.out g f _ hG).mono ?_
      rintro e w10 ⟨rfl, hG'⟩
      clear hG cF
      have hG := hG'
      have cF := hG.up
      clear hG'
      go_wp2_with fail
      refine (Q4.out g f _ hG).mono ?_
      rintro e w10 ⟨rfl, hG'⟩
      clear hG cF
      have hG := hG'
      have cF := hG.up
      clear hG'
      go_wp2_with fail
      refine (Q2.out g f _ hG).mono ?_
      rintro e w10 ⟨rfl, hG'⟩
      clear hG cF
      have hG := hG'
      have cF := hG.up
      clear hG'
      go_wp2_with fail
      go_ret
      exact ⟨ret_bool (by first | rfl | (simp; done) | (simp; omega)), hG.bel⟩
end Go.Proofs.Ytdhfkcodacmbfaa
