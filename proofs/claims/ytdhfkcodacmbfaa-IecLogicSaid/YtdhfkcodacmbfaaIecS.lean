/- The kinds of values (iec): the laws of logic, over numbers alone; the closure of the law IecLogic. -/
import Derived.Test.YtdhfkcodacmbfaaIecM
set_option linter.unusedVariables false
set_option linter.unusedSimpArgs false
namespace Go.Proofs.Ytdhfkcodacmbfaa
open Go.RowKit

def nkK (k : Int) : Nat := if k = 1 then 1 else if k = 6 then 16 else 32
theorem isK_nat {k v : Int} (hk : k = 1 ∨ k = 6 ∨ k = 7) (h : isK k v = true) : ∃ n : Nat, v = n ∧ n < 2 ^ nkK k := by
  rcases hk with rfl | rfl | rfl
  · rw [isK_1] at h
    simp at h
    exact ⟨v.toNat, by omega, by show _ < 2 ^ 1; omega⟩
  · rw [isK_6] at h
    simp at h
    exact ⟨v.toNat, by omega, by show _ < 2 ^ 16; omega⟩
  · rw [isK_7] at h
    simp at h
    exact ⟨v.toNat, by omega, by show _ < 2 ^ 32; omega⟩
theorem may_log {k : Int} (hk : k = 1 ∨ k = 6 ∨ k = 7) : mayK 13 k = true := by
  rcases hk with rfl | rfl | rfl <;> rfl
theorem nat_isK {k : Int} {n : Nat} (hk : k = 1 ∨ k = 6 ∨ k = 7) (h : n < 2 ^ nkK k) : isK k (n : Int) = true := by
  rcases hk with rfl | rfl | rfl
  · rw [isK_1]
    have : n < 2 ^ 1 := h
    simp
    omega
  · rw [isK_6]
    have : n < 2 ^ 16 := h
    simp
    omega
  · rw [isK_7]
    have : n < 2 ^ 32 := h
    simp
    omega
theorem not_nat {k : Int} {n : Nat} (hk : k = 1 ∨ k = 6 ∨ k = 7) (h : n < 2 ^ nkK k) : notK k (n : Int) = ((2 ^ nkK k - (n + 1) : Nat) : Int) := by
  unfold notK
  rw [if_pos ⟨may_log hk, nat_isK hk h⟩]
  rcases hk with rfl | rfl | rfl
  · have : n < 2 ^ 1 := h
    rw [if_pos rfl]
    show _ = ((2 ^ 1 - (n + 1) : Nat) : Int)
    omega
  · have : n < 2 ^ 16 := h
    rw [if_neg (by decide), show wrapK 6 (-(n : Int) - 1) = IntKind.u16.wrap (-(n : Int) - 1) from rfl, IntKind.wrap_u16]
    show _ = ((2 ^ 16 - (n + 1) : Nat) : Int)
    omega
  · have : n < 2 ^ 32 := h
    rw [if_neg (by decide), show wrapK 7 (-(n : Int) - 1) = IntKind.u32.wrap (-(n : Int) - 1) from rfl, IntKind.wrap_u32]
    show _ = ((2 ^ 32 - (n + 1) : Nat) : Int)
    omega
theorem do_log {op k a b : Int} (hk : k = 1 ∨ k = 6 ∨ k = 7) (ho : op = 7 ∨ op = 8 ∨ op = 9) (ha : isK k a = true) (hb : isK k b = true) : doK op k a b = (logK op a b, 0) := by
  rw [do_all op k a b (by omega) (by rcases hk with rfl | rfl | rfl <;> rcases ho with rfl | rfl | rfl <;> rfl) ha hb, val_log ho]
theorem do_logn {op k a b : Int} (hk : k = 1 ∨ k = 6 ∨ k = 7) (ho : op = 10 ∨ op = 11 ∨ op = 12) (ha : isK k a = true) (hb : isK k b = true) : doK op k a b = (logK (op - 3) a (notK k b), 0) := by
  rw [do_all op k a b (by omega) (by rcases hk with rfl | rfl | rfl <;> rcases ho with rfl | rfl | rfl <;> rfl) ha hb, val_logn ho]
theorem do_cmp {op k a b : Int} (hk : k = 1 ∨ k = 6 ∨ k = 7) (ho : op = 19 ∨ op = 20 ∨ op = 21 ∨ op = 22 ∨ op = 23 ∨ op = 24) (ha : isK k a = true) (hb : isK k b = true) : doK op k a b = (rawK op a b, 0) := by
  rw [do_all op k a b (by omega) (by rcases hk with rfl | rfl | rfl <;> rcases ho with rfl | rfl | rfl | rfl | rfl | rfl <;> rfl) ha hb, val_cmp ho]
theorem demorgan (n A B : Nat) (ha : A < 2 ^ n) (hb : B < 2 ^ n) : 2 ^ n - ((A &&& B) + 1) = (2 ^ n - (A + 1)) ||| (2 ^ n - (B + 1)) := by
  apply Nat.eq_of_testBit_eq
  intro i
  rw [Nat.testBit_two_pow_sub_succ (Nat.and_lt_two_pow _ hb), Nat.testBit_or, Nat.testBit_two_pow_sub_succ ha, Nat.testBit_two_pow_sub_succ hb, Nat.testBit_and]
  cases decide (i < n) <;> cases A.testBit i <;> cases B.testBit i <;> rfl
theorem xor_not (n A B : Nat) (ha : A < 2 ^ n) (hb : B < 2 ^ n) : A ^^^ (2 ^ n - (B + 1)) = 2 ^ n - ((A ^^^ B) + 1) := by
  apply Nat.eq_of_testBit_eq
  intro i
  rw [Nat.testBit_two_pow_sub_succ (Nat.xor_lt_two_pow ha hb), Nat.testBit_xor, Nat.testBit_two_pow_sub_succ hb, Nat.testBit_xor]
  by_cases hi : i < n
  · rw [decide_eq_true hi]
    cases A.testBit i <;> cases B.testBit i <;> rfl
  · rw [decide_eq_false hi]
    have h1 : A.testBit i = false := Nat.testBit_lt_two_pow (Nat.lt_of_lt_of_le ha (Nat.pow_le_pow_right (by omega) (by omega)))
    rw [h1]
    have h2 : B.testBit i = false := Nat.testBit_lt_two_pow (Nat.lt_of_lt_of_le hb (Nat.pow_le_pow_right (by omega) (by omega)))
    rw [h2]
    rfl
/-- All that the law of logic wants of the operations, at two values of a kind. -/
structure Logic (k a b na nb an x1 xo xn y1 y2 : Int) : Prop where
  na_ : notK k a = na
  nna : notK k na = a
  nb_ : notK k b = nb
  an_ : doK 7 k a b = (an, 0)
  nan : notK k an = x1
  o_ : doK 8 k na nb = (x1, 0)
  xo_ : doK 9 k a b = (xo, 0)
  xx_ : doK 9 k xo b = (a, 0)
  nxo : notK k xo = xn
  y1_ : doK 10 k a b = (y1, 0)
  z1_ : doK 7 k a nb = (y1, 0)
  y2_ : doK 11 k a b = (y2, 0)
  z2_ : doK 8 k a nb = (y2, 0)
  x2_ : doK 12 k a b = (xn, 0)
  cmp : ∀ op, (op = 19 ∨ op = 20 ∨ op = 21 ∨ op = 22 ∨ op = 23 ∨ op = 24) → doK op k a b = (rawK op a b, 0)
  cmp2 : doK 24 k b a = (rawK 24 b a, 0)
  r_ : ∀ v, (v = a ∨ v = b ∨ v = na ∨ v = nb ∨ v = an ∨ v = xo) → 0 ≤ v ∧ v ≤ 4294967295
theorem logK_nat (op : Int) (a b : Nat) : logK op (a : Int) (b : Int) = ((logN op a b : Nat) : Int) := rfl
theorem logic_all {k a b : Int} (hk : k = 1 ∨ k = 6 ∨ k = 7) (ha : isK k a = true) (hb : isK k b = true) : ∃ na nb an x1 xo xn y1 y2, Logic k a b na nb an x1 xo xn y1 y2 := by
  have hbig : ∀ n : Nat, n < 2 ^ nkK k → (0 : Int) ≤ (n : Int) ∧ (n : Int) ≤ 4294967295 := by
    intro n hn
    rcases hk with rfl | rfl | rfl
    · have : n < 2 ^ 1 := hn
      omega
    · have : n < 2 ^ 16 := hn
      omega
    · have : n < 2 ^ 32 := hn
      omega
  obtain ⟨A, rfl, hA⟩ := isK_nat hk ha
  obtain ⟨B, rfl, hB⟩ := isK_nat hk hb
  have hp : 0 < 2 ^ nkK k := Nat.pow_pos (by omega)
  have hNA : 2 ^ nkK k - (A + 1) < 2 ^ nkK k := by omega
  have hNB : 2 ^ nkK k - (B + 1) < 2 ^ nkK k := by omega
  have hAN : A &&& B < 2 ^ nkK k := Nat.and_lt_two_pow _ hB
  have hXO : A ^^^ B < 2 ^ nkK k := Nat.xor_lt_two_pow hA hB
  have dA := not_nat hk hA
  have dB := not_nat hk hB
  refine ⟨((2 ^ nkK k - (A + 1) : Nat) : Int), ((2 ^ nkK k - (B + 1) : Nat) : Int), ((A &&& B : Nat) : Int), ((2 ^ nkK k - ((A &&& B) + 1) : Nat) : Int), ((A ^^^ B : Nat) : Int), ((2 ^ nkK k - ((A ^^^ B) + 1) : Nat) : Int), ((A &&& (2 ^ nkK k - (B + 1)) : Nat) : Int), ((A ||| (2 ^ nkK k - (B + 1)) : Nat) : Int), ?_⟩
  refine ⟨dA, ?_, dB, do_log hk (by omega) ha hb, not_nat hk hAN, ?_, do_log hk (by omega) ha hb, ?_, not_nat hk hXO, ?_, do_log hk (by omega) ha (nat_isK hk hNB), ?_, do_log hk (by omega) ha (nat_isK hk hNB), ?_, fun op ho => do_cmp hk ho ha hb, do_cmp hk (by omega) hb ha, ?_⟩
  · rw [not_nat hk hNA]
    omega
  · rw [do_log hk (by omega) (nat_isK hk hNA) (nat_isK hk hNB), demorgan _ A B hA hB]
    rfl
  · rw [do_log hk (by omega) (nat_isK hk hXO) hb, logK_nat]
    show ((((A ^^^ B) ^^^ B : Nat) : Int), (0 : Int)) = _
    rw [Nat.xor_assoc, Nat.xor_self, Nat.xor_zero]
  · rw [do_logn hk (by omega) ha hb, dB]
    rfl
  · rw [do_logn hk (by omega) ha hb, dB]
    rfl
  · rw [do_logn hk (by omega) ha hb, dB, ← xor_not _ A B hA hB]
    rfl
  · rintro v (rfl | rfl | rfl | rfl | rfl | rfl)
    · exact hbig _ hA
    · exact hbig _ hB
    · exact hbig _ hNA
    · exact hbig _ hNB
    · exact hbig _ hAN
    · exact hbig _ hXO
set_option maxRecDepth 100000 in
/-- The closure of the law IecLogic, where the operation may be done. -/
theorem logic_clos (op k x y v : Int) (w : World) (B : Nat) (hx : 0 ≤ x ∧ x ≤ 4294967295) (hy : 0 ≤ y ∧ y ≤ 4294967295) (hd : doK op k x y = (v, 0)) (hc : w.cell? ⟨B, 0, none⟩ = some (.int .i64 k)) :
    Calls Try.prog 85 #[.int .i64 op, .int .i64 x, .int .i64 y, .pointer (some ⟨B, 0, none⟩)] w fun e w' => e = .returned (.int .i64 v) ∧ Below w.heap.size w w' := by
  have H := Lib.hid (fun W => do_any op k x y W (wf_small (by omega) (by omega)) (wf_small (by omega) (by omega)))
  rw [hd] at H
  clear hd
  go_enter Try.func85, Try.ntmps85
  go_wp2_with fail
  refine (H.out _).mono ?_
  rintro e w1 ⟨rfl, b⟩
  go_wp2_with fail
  go_ret
  exact ⟨rfl, b⟩
end Go.Proofs.Ytdhfkcodacmbfaa
