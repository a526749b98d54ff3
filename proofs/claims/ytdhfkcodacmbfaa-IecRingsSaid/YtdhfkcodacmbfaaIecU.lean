/- The kinds of values (iec): arithmetic goes round, over numbers alone; the closure of the law IecRings. -/
import Derived.Test.YtdhfkcodacmbfaaIecQ
set_option linter.unusedVariables false
set_option linter.unusedSimpArgs false
namespace Go.Proofs.Ytdhfkcodacmbfaa
open Go.RowKit

def modK (k : Int) : Int := if k = 2 then 256 else if k = 3 then 65536 else if k = 4 then 4294967296 else 65536
def lowK (k : Int) : Int := if k = 2 then -128 else if k = 3 then -32768 else if k = 4 then -2147483648 else 0
theorem isK_low {k : Int} (hk : k = 2 ∨ k = 3 ∨ k = 4 ∨ k = 5) (v : Int) : isK k v = true ↔ lowK k ≤ v ∧ v < lowK k + modK k := by
  rcases hk with rfl | rfl | rfl | rfl
  · rw [isK_2]
    simp
    show _ ↔ -128 ≤ v ∧ v < -128 + 256
    omega
  · rw [isK_3]
    simp
    show _ ↔ -32768 ≤ v ∧ v < -32768 + 65536
    omega
  · rw [isK_4]
    simp
    show _ ↔ -2147483648 ≤ v ∧ v < -2147483648 + 4294967296
    omega
  · rw [isK_5]
    simp
    show _ ↔ 0 ≤ v ∧ v < 0 + 65536
    omega
theorem wrapK_mod {k : Int} (hk : k = 2 ∨ k = 3 ∨ k = 4 ∨ k = 5) (v : Int) : wrapK k v % modK k = v % modK k ∧ lowK k ≤ wrapK k v ∧ wrapK k v < lowK k + modK k := by
  rcases hk with rfl | rfl | rfl | rfl
  · rw [show wrapK 2 v = IntKind.i8.wrap v from rfl, wrap_i8']
    show (_ % 256 = v % 256) ∧ -128 ≤ _ ∧ _ < -128 + 256
    omega
  · rw [show wrapK 3 v = IntKind.i16.wrap v from rfl, wrap_i16']
    show (_ % 65536 = v % 65536) ∧ -32768 ≤ _ ∧ _ < -32768 + 65536
    omega
  · rw [show wrapK 4 v = IntKind.i32.wrap v from rfl, IntKind.wrap_i32]
    show (_ % 4294967296 = v % 4294967296) ∧ -2147483648 ≤ _ ∧ _ < -2147483648 + 4294967296
    omega
  · rw [show wrapK 5 v = IntKind.u16.wrap v from rfl, IntKind.wrap_u16]
    show (_ % 65536 = v % 65536) ∧ 0 ≤ _ ∧ _ < 0 + 65536
    omega
theorem modK_pos {k : Int} (hk : k = 2 ∨ k = 3 ∨ k = 4 ∨ k = 5) : 0 < modK k := by
  rcases hk with rfl | rfl | rfl | rfl <;> decide
theorem same_mod {M L x y : Int} (hM : 0 < M) (h : x % M = y % M) (hx : L ≤ x ∧ x < L + M) (hy : L ≤ y ∧ y < L + M) : x = y := by
  have h1 : M ∣ (x - y) := Int.dvd_of_emod_eq_zero (by rw [Int.sub_emod, h, Int.sub_self, Int.zero_emod])
  obtain ⟨q, hq⟩ := h1
  have hq1 : -1 < q := by
    rcases Int.lt_or_le (-1) q with h | h
    · exact h
    · have : M * q ≤ M * (-1) := Int.mul_le_mul_of_nonneg_left h (by omega)
      omega
  have hq2 : q < 1 := by
    rcases Int.lt_or_le q 1 with h | h
    · exact h
    · have : M * 1 ≤ M * q := Int.mul_le_mul_of_nonneg_left h (by omega)
      omega
  have : q = 0 := by omega
  rw [this] at hq
  omega
theorem wrap_congr {k : Int} (hk : k = 2 ∨ k = 3 ∨ k = 4 ∨ k = 5) {v x : Int} (h : v % modK k = x % modK k) : wrapK k v = wrapK k x :=
  same_mod (modK_pos hk) ((wrapK_mod hk v).1.trans (h.trans (wrapK_mod hk x).1.symm)) (wrapK_mod hk v).2 (wrapK_mod hk x).2
theorem wrap_self {k : Int} (hk : k = 2 ∨ k = 3 ∨ k = 4 ∨ k = 5) {v x : Int} (hx : isK k x = true) (h : v % modK k = x % modK k) : wrapK k v = x :=
  same_mod (modK_pos hk) ((wrapK_mod hk v).1.trans h) (wrapK_mod hk v).2 ((isK_low hk x).1 hx)
theorem mod_add {M a b c d : Int} (h : a % M = b % M) (g : c % M = d % M) : (a + c) % M = (b + d) % M := by rw [Int.add_emod, h, g, ← Int.add_emod]
theorem mod_sub {M a b c d : Int} (h : a % M = b % M) (g : c % M = d % M) : (a - c) % M = (b - d) % M := by rw [Int.sub_emod, h, g, ← Int.sub_emod]
theorem mod_mul {M a b c d : Int} (h : a % M = b % M) (g : c % M = d % M) : (a * c) % M = (b * d) % M := by rw [Int.mul_emod, h, g, ← Int.mul_emod]
theorem do_ari {op k a b : Int} (hk : k = 2 ∨ k = 3 ∨ k = 4 ∨ k = 5) (ho : op = 14 ∨ op = 15 ∨ op = 16 ∨ op = 17 ∨ op = 18) (ha : isK k a = true) (hb : isK k b = true) : doK op k a b = (wrapK k (rawK op a b), 0) := by
  rw [do_all op k a b (by omega) (by rcases hk with rfl | rfl | rfl | rfl <;> rcases ho with rfl | rfl | rfl | rfl | rfl <;> rfl) ha hb, val_ari ho]
theorem ari_small {k v : Int} (hk : k = 2 ∨ k = 3 ∨ k = 4 ∨ k = 5) (h : isK k v = true) : -2147483648 ≤ v ∧ v ≤ 2147483647 := by
  have := (isK_low hk v).1 h
  rcases hk with rfl | rfl | rfl | rfl
  · have e : -128 ≤ v ∧ v < -128 + 256 := this
    omega
  · have e : -32768 ≤ v ∧ v < -32768 + 65536 := this
    omega
  · have e : -2147483648 ≤ v ∧ v < -2147483648 + 4294967296 := this
    omega
  · have e : 0 ≤ v ∧ v < 0 + 65536 := this
    omega
theorem mul_small {a b : Int} (ha : -2147483648 ≤ a ∧ a ≤ 2147483647) (hb : -2147483648 ≤ b ∧ b ≤ 2147483647) : IntKind.i64.wrap (a * b) = a * b := by
  have h : (a * b).natAbs ≤ 2147483648 * 2147483648 := by
    rw [Int.natAbs_mul]
    exact Nat.mul_le_mul (by omega) (by omega)
  rw [IntKind.wrap_i64]
  omega
theorem rem_in {k a b : Int} (hk : k = 2 ∨ k = 3 ∨ k = 4 ∨ k = 5) (ha : isK k a = true) : isK k (remK a b) = true ∧ (remK a b = 0 ∨ ((remK a b < 0) ↔ (a < 0))) ∧ (b ≠ 0 → (remK a b).natAbs < b.natAbs) := by
  have hl : lowK k ≤ 0 ∧ 0 < lowK k + modK k := by rcases hk with rfl | rfl | rfl | rfl <;> decide
  rw [isK_low hk] at ha ⊢
  unfold remK
  split
  · exact ⟨hl, .inl rfl, fun h => absurd (by assumption) h⟩
  · next hb =>
    have h1 : (a.tmod b).natAbs = a.natAbs % b.natAbs := Int.natAbs_tmod a b
    have h2 : a.natAbs % b.natAbs ≤ a.natAbs := Nat.mod_le _ _
    have h3 : a.natAbs % b.natAbs < b.natAbs := Nat.mod_lt _ (by omega)
    rw [← h1] at h2 h3
    rcases Int.lt_or_le a 0 with h | h
    · have h4 : 0 ≤ (-a).tmod b := Int.tmod_nonneg b (by omega)
      rw [Int.neg_tmod] at h4
      exact ⟨by omega, by omega, fun _ => h3⟩
    · have h4 : 0 ≤ a.tmod b := Int.tmod_nonneg b h
      exact ⟨by omega, by omega, fun _ => h3⟩
theorem quo_rem {a b : Int} (hb : b ≠ 0) : quoK a b * b + remK a b = a := by
  unfold quoK remK
  rw [if_neg hb, if_neg hb]
  have := Int.tmod_add_mul_tdiv a b
  rw [Int.mul_comm (a.tdiv b) b]
  omega
/-- All that the law of arithmetic wants of the operations, at three values of a kind. -/
structure Rings (k a b c s t u p x r q m y : Int) : Prop where
  ab : doK 14 k a b = (s, 0)
  ba : doK 14 k b a = (s, 0)
  sc : doK 14 k s c = (t, 0)
  bc : doK 14 k b c = (u, 0)
  au : doK 14 k a u = (t, 0)
  sb : doK 15 k s b = (a, 0)
  mab : doK 16 k a b = (p, 0)
  mba : doK 16 k b a = (p, 0)
  mau : doK 16 k a u = (x, 0)
  mac : doK 16 k a c = (r, 0)
  pr : doK 14 k p r = (x, 0)
  qq : doK 17 k a b = (q, 0)
  mm : doK 18 k a b = (m, 0)
  zero : b = 0 → q = 0 ∧ m = 0
  less : b ≠ 0 → m.natAbs < b.natAbs ∧ doK 16 k q b = (y, 0) ∧ doK 14 k y m = (a, 0)
  sign : m = 0 ∨ ((m < 0) ↔ (a < 0))
  ks : isK k s = true
  kt : isK k t = true
  ku : isK k u = true
  kp : isK k p = true
  kx : isK k x = true
  kr : isK k r = true
  kq : isK k q = true
  km : isK k m = true
  ky : isK k y = true
theorem wrap_is {k : Int} (hk : k = 2 ∨ k = 3 ∨ k = 4 ∨ k = 5) (v : Int) : isK k (wrapK k v) = true := isK_wrap k v (by omega)
theorem rings_all {k a b c : Int} (hk : k = 2 ∨ k = 3 ∨ k = 4 ∨ k = 5) (ha : isK k a = true) (hb : isK k b = true) (hc : isK k c = true) : ∃ s t u p x r q m y, Rings k a b c s t u p x r q m y := by
  have sm := fun v h => ari_small (v := v) hk h
  have W := fun v => (wrapK_mod hk v).1
  have I := fun v => wrap_is hk v
  have r14 : ∀ x y, rawK 14 x y = x + y := fun _ _ => rfl
  have r15 : ∀ x y, rawK 15 x y = x - y := fun _ _ => rfl
  have r16 : ∀ x y, isK k x = true → isK k y = true → rawK 16 x y = x * y := fun x y hx hy => by
    rw [show rawK 16 x y = IntKind.i64.wrap (x * y) from rfl, mul_small (sm x hx) (sm y hy)]
  have r17 : rawK 17 a b = quoK a b := rfl
  have r18 : rawK 18 a b = remK a b := rfl
  have hr := rem_in (b := b) hk ha
  have hm : wrapK k (remK a b) = remK a b := wrap_self hk hr.1 rfl
  refine ⟨wrapK k (a + b), wrapK k (a + b + c), wrapK k (b + c), wrapK k (a * b), wrapK k (a * (b + c)), wrapK k (a * c), wrapK k (quoK a b), remK a b, wrapK k (wrapK k (quoK a b) * b), ?_⟩
  refine ⟨?_, ?_, ?_, ?_, ?_, ?_, ?_, ?_, ?_, ?_, ?_, ?_, ?_, ?_, ?_, hr.2.1, I _, I _, I _, I _, I _, I _, I _, hr.1, I _⟩
  · rw [do_ari hk (by omega) ha hb, r14]
  · rw [do_ari hk (by omega) hb ha, r14, Int.add_comm]
  · rw [do_ari hk (by omega) (I _) hc, r14, wrap_congr hk (mod_add (W _) rfl)]
  · rw [do_ari hk (by omega) hb hc, r14]
  · rw [do_ari hk (by omega) ha (I _), r14, wrap_congr hk (mod_add rfl (W _)), Int.add_assoc]
  · rw [do_ari hk (by omega) (I _) hb, r15, wrap_self hk ha ((mod_sub (W _) rfl).trans (by rw [Int.add_sub_cancel]))]
  · rw [do_ari hk (by omega) ha hb, r16 _ _ ha hb]
  · rw [do_ari hk (by omega) hb ha, r16 _ _ hb ha, Int.mul_comm]
  · rw [do_ari hk (by omega) ha (I _), r16 _ _ ha (I _), wrap_congr hk (mod_mul rfl (W _))]
  · rw [do_ari hk (by omega) ha hc, r16 _ _ ha hc]
  · rw [do_ari hk (by omega) (I _) (I _), r14, wrap_congr hk (mod_add (W _) (W _)), Int.mul_add]
  · rw [do_ari hk (by omega) ha hb, r17]
  · rw [do_ari hk (by omega) ha hb, r18, hm]
  · intro h0
    have e1 : quoK a b = 0 := by unfold quoK; rw [if_pos h0]
    have e2 : remK a b = 0 := by unfold remK; rw [if_pos h0]
    rw [e1, e2]
    exact ⟨wrap_self hk (by rw [← e2]; exact hr.1) rfl, rfl⟩
  · intro h0
    refine ⟨hr.2.2 h0, ?_, ?_⟩
    · rw [do_ari hk (by omega) (I _) hb, r16 _ _ (I _) hb]
    · rw [do_ari hk (by omega) (I _) hr.1, r14, wrap_self hk ha]
      rw [mod_add (W _) rfl, mod_add (mod_mul (W _) rfl) rfl, quo_rem h0]

/-- The captured kind lies in block g, the captured flag, still up, in block f; nothing that was there is turned. -/
structure SG (w0 : World) (g f : Nat) (k : Int) (w : World) : Prop where
  blk : Blk w g #[.int .i64 k] 3
  flag : Blk w f #[.bool true] 4
  ne : f ≠ g
  new : w0.heap.size ≤ f
  bel : Below w0.heap.size w0 w
theorem SG.drew {w0 : World} {g f : Nat} {k : Int} {w : World} (h : SG w0 g f k w) : SG w0 g f k w.drew := ⟨h.blk.drew, h.flag.drew, h.ne, h.new, h.bel.drew⟩
theorem SG.below {w0 : World} {g f : Nat} {k : Int} {w w' : World} (h : SG w0 g f k w) (b : Below w.heap.size w w') : SG w0 g f k w' := ⟨h.blk.keep b, h.flag.keep b, h.ne, h.new, below_then h.bel b⟩
theorem SG.cell {w0 : World} {g f : Nat} {k : Int} {w : World} (h : SG w0 g f k w) : w.cell? ⟨g, 0, none⟩ = some (.int .i64 k) := h.blk.cell rfl
theorem SG.up {w0 : World} {g f : Nat} {k : Int} {w : World} (h : SG w0 g f k w) : w.cell? ⟨f, 0, none⟩ = some (.bool true) := h.flag.cell rfl
theorem SG.set {w0 : World} {g f : Nat} {k : Int} {w : World} (h : SG w0 g f k w) : SG w0 g f k (w.setCell ⟨f, 0, none⟩ (.bool true)) :=
  ⟨h.blk.setOther _ _ h.ne.symm, h.flag.setCell 0 _, h.ne, h.new, h.bel.setCell h.new _⟩
set_option maxRecDepth 100000 in
/-- The closure of the law IecRings, where the operation may be done. -/
theorem rings_clos (op k x y v : Int) (w0 w : World) (g f : Nat) (hx : -2147483648 ≤ x ∧ x ≤ 2147483647) (hy : -2147483648 ≤ y ∧ y ≤ 2147483647) (hd : doK op k x y = (v, 0)) (hv : isK k v = true) (h : SG w0 g f k w) :
    Calls Try.prog 84 #[.int .i64 op, .int .i64 x, .int .i64 y, .pointer (some ⟨g, 0, none⟩), .pointer (some ⟨f, 0, none⟩)] w fun e w' => e = .returned (.int .i64 v) ∧ SG w0 g f k w' := by
  have H := Lib.hid (fun W => do_any op k x y W (wf_small (by omega) (by omega)) (wf_small (by omega) (by omega)))
  rw [hd] at H
  have rv := isK_range hv
  have HI := Lib.hid (fun W => is_any k v W (wf_small (by omega) (by omega)))
  rw [hv] at HI
  clear hd hv hx hy rv
  have c1 := h.cell
  go_enter Try.func84, Try.ntmps84
  go_wp2_with fail
  refine (H.out _).mono ?_
  rintro e w1 ⟨rfl, b⟩
  replace h := h.below b
  clear b c1
  have c1 := h.cell
  have c2 := h.up
  go_wp2_with fail
  refine (HI.out _).mono ?_
  rintro e w2 ⟨rfl, b⟩
  replace h := h.below b
  clear b c1 c2
  have c2 := h.up
  have f2 := h.flag.free 0
  go_wp2_with fail
  go_ret
  exact ⟨rfl, h.set⟩
end Go.Proofs.Ytdhfkcodacmbfaa
