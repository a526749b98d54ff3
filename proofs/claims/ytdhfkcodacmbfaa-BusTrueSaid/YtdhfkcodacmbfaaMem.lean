/- Sets of addresses (members), as the bus uses them; and as the document has them. -/
import Derived.Test.YtdhfkcodacmbfaaIecD
import Derived.Laws.BitsAllLaws
set_option linter.unusedVariables false
set_option linter.unusedSimpArgs false
namespace Go.Proofs.Ytdhfkcodacmbfaa
open Go.RowKit

def isA (a : Int) : Bool := decide (0 ≤ a) && decide (a < 32)
theorem isA_iff (a : Int) : isA a = true ↔ 0 ≤ a ∧ a < 32 := by unfold isA; simp
theorem isA_no {a : Int} (h : a < 0 ∨ 32 ≤ a) : isA a = false := by unfold isA; simp; omega
def oneA (a : Int) : Nat := if isA a = true then 2 ^ a.toNat else 0
theorem oneA_lt (a : Int) : oneA a < 4294967296 := by
  unfold oneA
  split
  · next h =>
    rw [isA_iff] at h
    calc 2 ^ a.toNat < 2 ^ 32 := Nat.pow_lt_pow_right (by omega) (by omega)
      _ = 4294967296 := by decide
  · decide
def hasA (s : Nat) (a : Int) : Bool := isA a && s.testBit a.toNat
def withoutA (s : Nat) (a : Int) : Nat := s &&& (4294967295 - oneA a)
theorem and_pow (s i : Nat) : s &&& 2 ^ i = if s.testBit i = true then 2 ^ i else 0 := by
  apply Nat.eq_of_testBit_eq
  intro j
  rw [Nat.testBit_and, Nat.testBit_two_pow]
  by_cases e : i = j
  · subst e
    cases h : s.testBit i <;> simp
  · cases h : s.testBit i <;> simp [e, Nat.testBit_two_pow]
theorem or_pow (s i : Nat) (hi : i < 32) (hs : s < 4294967296) (h : s.testBit i = false) : s ||| 2 ^ i = s + 2 ^ i := by
  have hp : 2 ^ i < 4294967296 := by
    calc 2 ^ i < 2 ^ 32 := Nat.pow_lt_pow_right (by omega) hi
      _ = 4294967296 := by decide
  have hand : s &&& 2 ^ i = 0 := by rw [and_pow, h]; rfl
  have hx := BitVec.add_eq_or_of_and_eq_zero (w := 33) (BitVec.ofNat 33 s) (BitVec.ofNat 33 (2 ^ i)) (by
    apply BitVec.eq_of_toNat_eq
    rw [BitVec.toNat_and, BitVec.toNat_ofNat, BitVec.toNat_ofNat, Nat.mod_eq_of_lt (by omega), Nat.mod_eq_of_lt (by omega), hand]
    rfl)
  have ht := congrArg BitVec.toNat hx
  rw [BitVec.toNat_add, BitVec.toNat_or, BitVec.toNat_ofNat, BitVec.toNat_ofNat, Nat.mod_eq_of_lt (a := s) (by omega), Nat.mod_eq_of_lt (a := 2 ^ i) (by omega), Nat.mod_eq_of_lt (by omega)] at ht
  exact ht.symm
theorem has_and (s : Nat) (a : Int) : (s &&& oneA a != 0) = hasA s a := by
  unfold hasA oneA
  cases h : isA a with
  | false => simp
  | true =>
    rw [if_pos rfl, and_pow]
    have hp : 2 ^ a.toNat ≠ 0 := Nat.pos_iff_ne_zero.1 (Nat.pow_pos (by omega))
    cases s.testBit a.toNat
    · simp
    · simp [hp]
theorem without_le (s : Nat) (a : Int) : withoutA s a ≤ s := Nat.and_le_left
theorem without_bit (s : Nat) (a : Int) (j : Nat) (hs : s < 4294967296) : (withoutA s a).testBit j = (s.testBit j && !decide ((j : Int) = a)) := by
  unfold withoutA
  have h32 : ∀ i, 32 ≤ i → s.testBit i = false := fun i hi => Nat.testBit_lt_two_pow (Nat.lt_of_lt_of_le hs (by
    calc 4294967296 = 2 ^ 32 := by decide
      _ ≤ 2 ^ i := Nat.pow_le_pow_right (by omega) hi))
  have hf : ∀ o, o < 4294967296 → ∀ j, (4294967295 - o).testBit j = (decide (j < 32) && !o.testBit j) := fun o ho j => by
    have := Nat.testBit_two_pow_sub_succ (n := 32) (x := o) (by omega) j
    rw [← this]
    congr 1
    show _ = 4294967296 - (o + 1)
    omega
  rw [Nat.testBit_and, hf _ (oneA_lt a)]
  unfold oneA
  by_cases hj : j < 32
  · rw [decide_eq_true hj]
    cases h : isA a with
    | true =>
      have h' := (isA_iff a).1 h
      rw [if_pos rfl, Nat.testBit_two_pow]
      congr 1
      by_cases e : (j : Int) = a
      · have : a.toNat = j := by omega
        simp [e, this]
      · have : ¬ a.toNat = j := by omega
        simp [e, this]
    | false =>
      have e : ¬ (j : Int) = a := by
        intro e
        have : isA a = true := (isA_iff a).2 (by omega)
        rw [h] at this
        cases this
      simp [e]
  · rw [h32 j (by omega)]
    simp
set_option maxRecDepth 100000 in
theorem is_addr (a : Int) (w : World) : Calls Try.prog 153 #[.int .i64 a] w fun e w' => e = .returned (.bool (isA a)) ∧ w' = w := by
  unfold isA
  by_cases h : 0 ≤ a
  · go_enter Try.func153, Try.ntmps153
    go_wp2_with fail
    go_ret
    exact ⟨ret_bool (by simp [h]), rfl⟩
  · have h' : decide (0 ≤ a) = false := by simpa using h
    go_enter Try.func153, Try.ntmps153
    go_wp2_with fail
    go_ret
    exact ⟨ret_bool (by simp [h'] ), rfl⟩
set_option maxRecDepth 100000 in
theorem one_any (a : Int) (w : World) : Calls Try.prog 140 #[.int .i64 a] w fun e w' => e = .returned (.int .u32 (oneA a : Nat)) ∧ w' = w := by
  have H := Lib.hid (fun W => is_addr a W)
  have hlt := oneA_lt a
  unfold oneA at *
  cases hi : isA a with
  | false =>
    rw [hi] at H
    clear hi hlt
    go_enter Try.func140, Try.ntmps140
    go_wp2_with fail
    refine (H.out _).mono ?_
    rintro e w1 ⟨rfl, rfl⟩
    go_wp2_with fail
    go_ret
    exact ⟨rfl, rfl⟩
  | true =>
    rw [hi] at H
    rw [if_pos hi] at hlt
    rw [isA_iff] at hi
    have HL := Lib.hid hlt
    obtain ⟨h0, h1⟩ := hi
    clear hlt
    go_enter Try.func140, Try.ntmps140
    go_wp2_with fail
    refine (H.out _).mono ?_
    rintro e w1 ⟨rfl, rfl⟩
    go_wp2_with fail
    go_ret
    refine ⟨ret_int ?_, rfl⟩
    have := HL.out
    have e : ((2 ^ a.toNat : Nat) : Int) = 2 ^ a.toNat := by simp
    have e0 : 0 ≤ ((2 ^ a.toNat : Nat) : Int) := Int.natCast_nonneg _
    rw [← e]
    omega
set_option maxRecDepth 100000 in
theorem has_any (s : Nat) (a : Int) (w : World) (hs : s < 4294967296) : Calls Try.prog 139 #[.int .u32 (s : Int), .int .i64 a] w fun e w' => e = .returned (.bool (hasA s a)) ∧ w' = w := by
  have H := Lib.hid (fun W => one_any a W)
  have ho := oneA_lt a
  have hb := u32_and_nat s (oneA a) hs ho
  have hh := has_and s a
  generalize oneA a = o at *
  generalize hasA s a = r at *
  have hr : (((s &&& o : Nat) : Int) != 0) = r := by
    rw [← hh]
    by_cases h : s &&& o = 0
    · simp [h]
    · have : ¬ ((s &&& o : Nat) : Int) = 0 := by omega
      rw [bne_iff_ne.2 h, bne_iff_ne.2 this]
  have HR := Lib.hid hr
  have HB := Lib.hid hb
  clear hr hh hb
  go_enter Try.func139, Try.ntmps139
  go_wp2_with fail
  refine (H.out _).mono ?_
  rintro e w1 ⟨rfl, rfl⟩
  go_wp2_with fail
  go_ret
  exact ⟨ret_bool (by rw [HB.out]; exact HR.out), rfl⟩
set_option maxRecDepth 100000 in
theorem without_any (s : Nat) (a : Int) (w : World) (hs : s < 4294967296) : Calls Try.prog 112 #[.int .u32 (s : Int), .int .i64 a] w fun e w' => e = .returned (.int .u32 ((withoutA s a : Nat) : Int)) ∧ w' = w := by
  have H := Lib.hid (fun W => one_any a W)
  have HB := Lib.hid (u32_andNot_nat s (oneA a) hs (oneA_lt a))
  unfold withoutA
  generalize oneA a = o at *
  go_enter Try.func112, Try.ntmps112
  go_wp2_with fail
  refine (H.out _).mono ?_
  rintro e w1 ⟨rfl, rfl⟩
  go_wp2_with fail
  go_ret
  exact ⟨ret_int HB.out, rfl⟩
set_option maxRecDepth 100000 in
/-- The document's Has. -/
theorem rhas_any (s : Nat) (a : Int) (w : World) (hs : s < 4294967296) : Calls Try.prog 144 #[.int .u32 (s : Int), .int .i64 a] w fun e w' => e = .returned (.bool (hasA s a)) ∧ w' = w := by
  by_cases h0 : a < 0
  · rw [show hasA s a = false by unfold hasA; rw [isA_no (.inl h0)]; rfl]
    go_enter Try.func144, Try.ntmps144
    go_wp2_with fail
    go_ret
    exact ⟨rfl, rfl⟩
  · by_cases h1 : 31 < a
    · rw [show hasA s a = false by unfold hasA; rw [isA_no (.inr (by omega))]; rfl]
      go_enter Try.func144, Try.ntmps144
      go_wp2_with fail
      go_ret
      exact ⟨rfl, rfl⟩
    · obtain ⟨n, rfl⟩ : ∃ n : Nat, a = n := ⟨a.toNat, by omega⟩
      have hh : hasA s (n : Int) = decide (s / 2 ^ n % 2 = 1) := by
        unfold hasA
        rw [(isA_iff (n : Int)).2 (by omega), Nat.testBit_eq_decide_div_mod_eq]
        rfl
      rw [hh]
      clear hh
      go_enter Try.func144, Try.ntmps144
      go_wp2_with fail
      go_loop [0, 5] (fun t i => ∃ k : Nat, k ≤ n ∧ i = .int .i64 k ∧ t = .int .u32 ((s / 2 ^ k : Nat) : Int)) (fun _ i => n - (intOf i).toNat)
      case atStart => exact ⟨0, Nat.zero_le _, rfl, by simp⟩
      case round =>
        obtain ⟨k, hk, rfl, rfl⟩ := hrel
        have hl : s / 2 ^ k ≤ s := Nat.div_le_self _ _
        have he : s / 2 ^ (k + 1) = s / 2 ^ k / 2 := by rw [Nat.pow_succ, Nat.div_div_eq_div_mul]
        by_cases hlt : k < n
        · have HE := Lib.hid he
          clear he
          generalize s / 2 ^ k = x at *
          have hx0 : (0 : Int) ≤ (x : Int) := by omega
          go_wp2
          go_round
          case rel =>
            refine ⟨k + 1, by omega, by go_num, ?_⟩
            rw [HE.out]
            refine val_int ?_
            omega
          case measure => simp [intOf]; omega
        · obtain rfl : k = n := by omega
          clear he
          generalize hx : s / 2 ^ k = x at *
          have HX := Lib.hid hx
          clear hx
          go_wp2
          go_ret
          refine ⟨ret_bool ?_, rfl⟩
          rw [HX.out, Bool.eq_iff_iff]
          simp
          omega
def withA (s : Nat) (a : Int) : Nat := if isA a = false ∨ hasA s a = true then s else s + 2 ^ a.toNat
theorem with_bit (s : Nat) (n : Nat) (hn : n < 32) (hs : s < 4294967296) (j : Nat) : (withA s (n : Int)).testBit j = (s.testBit j || decide (j = n)) ∧ withA s (n : Int) < 4294967296 := by
  have hi : isA (n : Int) = true := (isA_iff _).2 (by omega)
  have hor : withA s (n : Int) = s ||| 2 ^ n := by
    unfold withA hasA
    rw [hi]
    simp only [Int.toNat_natCast, Bool.true_and, Bool.true_eq_false, false_or]
    cases hb : s.testBit n with
    | true =>
      rw [if_pos rfl]
      apply Nat.eq_of_testBit_eq
      intro i
      rw [Nat.testBit_or, Nat.testBit_two_pow]
      by_cases e : n = i
      · subst e; simp [hb]
      · simp [e]
    | false =>
      rw [if_neg (by simp)]
      exact (or_pow s n hn hs hb).symm
  rw [hor]
  refine ⟨?_, ?_⟩
  · rw [Nat.testBit_or, Nat.testBit_two_pow]
    congr 1
    by_cases e : n = j
    · subst e; simp
    · have : ¬ j = n := fun q => e q.symm
      simp [e, this]
  · exact Nat.or_lt_two_pow (n := 32) (by omega) (by
      calc 2 ^ n < 2 ^ 32 := Nat.pow_lt_pow_right (by omega) (by omega))
end Go.Proofs.Ytdhfkcodacmbfaa
