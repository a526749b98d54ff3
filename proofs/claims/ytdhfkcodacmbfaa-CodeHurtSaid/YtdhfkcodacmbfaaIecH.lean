/- The kinds of values (iec): do. -/
import Derived.Test.YtdhfkcodacmbfaaIecG
import Derived.Laws.BitsLemmas
set_option linter.unusedVariables false
set_option linter.unusedSimpArgs false
namespace Go.Proofs.Ytdhfkcodacmbfaa
open Go.RowKit

def logN (op : Int) (a b : Nat) : Nat := if op = 7 then a &&& b else if op = 8 then a ||| b else a ^^^ b
def logK (op a b : Int) : Int := ((logN op a.toNat b.toNat : Nat) : Int)
theorem logN_lt (op : Int) (a b n : Nat) (ha : a < 2 ^ n) (hb : b < 2 ^ n) : logN op a b < 2 ^ n := by
  unfold logN
  split
  · exact Nat.and_lt_two_pow _ hb
  · split
    · exact Nat.or_lt_two_pow ha hb
    · exact Nat.xor_lt_two_pow ha hb
theorem xor_i64 (a b : Nat) (ha : a < 4294967296) (hb : b < 4294967296) : bits .xor .i64 (a : Int) (b : Int) = ((a ^^^ b : Nat) : Int) := by
  have hx : a ^^^ b < 2 ^ 32 := Nat.xor_lt_two_pow (by omega) (by omega)
  have h1 : (BitVec.ofInt IntKind.i64.bits (a : Int)).toNat = a := by rw [BitVec.toNat_ofInt]; show ((a : Int) % (2 ^ 64 : Nat)).toNat = a; omega
  have h2 : (BitVec.ofInt IntKind.i64.bits (b : Int)).toNat = b := by rw [BitVec.toNat_ofInt]; show ((b : Int) % (2 ^ 64 : Nat)).toNat = b; omega
  unfold bits
  show IntKind.i64.wrap ((BitVec.ofInt IntKind.i64.bits (a : Int) ^^^ BitVec.ofInt IntKind.i64.bits (b : Int)).toNat : Int) = _
  rw [BitVec.toNat_xor, h1, h2, IntKind.wrap_i64]
  omega
theorem raw_log (op a b : Int) (ho : op = 7 ∨ op = 8 ∨ op = 9) (ha : 0 ≤ a ∧ a ≤ 4294967295) (hb : 0 ≤ b ∧ b ≤ 4294967295) : rawK op a b = logK op a b := by
  obtain ⟨A, rfl⟩ := Int.eq_ofNat_of_zero_le ha.1
  obtain ⟨B, rfl⟩ := Int.eq_ofNat_of_zero_le hb.1
  have hw : ∀ n : Int, 0 ≤ n → n < 2 ^ 32 → IntKind.i64.wrap n = n := fun n h0 h1 => by rw [IntKind.wrap_i64]; omega
  have h := bits_nat .i64 32 (by decide) hw A B (by omega) (by omega)
  unfold logK
  rw [Int.toNat_natCast, Int.toNat_natCast]
  rcases ho with rfl | rfl | rfl
  · exact h.1
  · exact h.2
  · exact xor_i64 A B (by omega) (by omega)
theorem wrap_log {k a b : Int} (op : Int) (hm : mayK 13 k = true) (ha : isK k a = true) (hb : isK k b = true) : wrapK k (logK op a b) = logK op a b := by
  have ra := may13_range hm ha
  have rb := may13_range hm hb
  have ea := isK_eq ha
  have eb := isK_eq hb
  unfold logK
  rcases may13 hm with rfl | rfl | rfl
  · rw [isK_1] at ha hb
    simp at ha hb
    have := logN_lt op a.toNat b.toNat 1 (by omega) (by omega)
    rw [show ∀ v, wrapK 1 v = if v = 0 then 0 else 1 from fun v => rfl]
    split <;> omega
  · rw [isK_6] at ha hb
    simp at ha hb
    have := logN_lt op a.toNat b.toNat 16 (by omega) (by omega)
    rw [show ∀ v, wrapK 6 v = IntKind.u16.wrap v from fun v => rfl, IntKind.wrap_u16]
    omega
  · rw [isK_7] at ha hb
    simp at ha hb
    have := logN_lt op a.toNat b.toNat 32 (by omega) (by omega)
    rw [show ∀ v, wrapK 7 v = IntKind.u32.wrap v from fun v => rfl, IntKind.wrap_u32]
    omega
theorem isK_not {k b : Int} (hm : mayK 13 k = true) (hb : isK k b = true) : isK k (notK k b) = true := by
  unfold notK
  rw [if_pos ⟨hm, hb⟩]
  rcases may13 hm with rfl | rfl | rfl
  · rw [if_pos rfl, isK_1]
    rw [isK_1] at hb
    simp at hb ⊢
    omega
  · rw [if_neg (by decide), isK_6, show wrapK 6 (-b - 1) = IntKind.u16.wrap (-b - 1) from rfl, IntKind.wrap_u16]
    simp
    omega
  · rw [if_neg (by decide), isK_7, show wrapK 7 (-b - 1) = IntKind.u32.wrap (-b - 1) from rfl, IntKind.wrap_u32]
    simp
    omega
theorem isK_range {k v : Int} (h : isK k v = true) : -2147483648 ≤ v ∧ v ≤ 4294967295 := by
  have := wrapK_range k v
  rw [isK_eq h] at this
  exact this
theorem quo_range (a b : Int) (ha : -2147483648 ≤ a ∧ a ≤ 4294967295) : -4294967296 ≤ quoK a b ∧ quoK a b ≤ 4294967296 := by
  unfold quoK
  split
  · omega
  · have h1 : (a.tdiv b).natAbs = a.natAbs / b.natAbs := Int.natAbs_tdiv a b
    have h2 : a.natAbs / b.natAbs ≤ a.natAbs := Nat.div_le_self _ _
    rw [← h1] at h2
    omega
theorem rem_range (a b : Int) (ha : -2147483648 ≤ a ∧ a ≤ 4294967295) : -4294967296 ≤ remK a b ∧ remK a b ≤ 4294967296 := by
  unfold remK
  split
  · omega
  · have h1 : (a.tmod b).natAbs = a.natAbs % b.natAbs := Int.natAbs_tmod a b
    have h2 : a.natAbs % b.natAbs ≤ a.natAbs := Nat.mod_le _ _
    rw [← h1] at h2
    omega
theorem raw_wf (op a b : Int) (ho : op = 14 ∨ op = 15 ∨ op = 16 ∨ op = 17 ∨ op = 18) (ha : -2147483648 ≤ a ∧ a ≤ 4294967295) (hb : -2147483648 ≤ b ∧ b ≤ 4294967295) : (Lit.int .i64 (rawK op a b)).wf = true := by
  have h1 := quo_range a b ha
  have h2 := rem_range a b ha
  rcases ho with rfl | rfl | rfl | rfl | rfl
  · exact wf_small (by show _ ≤ a + b; omega) (by show a + b ≤ _; omega)
  · exact wf_small (by show _ ≤ a - b; omega) (by show a - b ≤ _; omega)
  · rw [show rawK 16 a b = IntKind.i64.wrap (a * b) from rfl, IntKind.wrap_i64]
    exact wf_small (by omega) (by omega)
  · exact wf_small (by show _ ≤ quoK a b; omega) (by show quoK a b ≤ _; omega)
  · exact wf_small (by show _ ≤ remK a b; omega) (by show remK a b ≤ _; omega)
theorem log_range (op a b : Int) (ha : 0 ≤ a ∧ a ≤ 4294967295) (hb : 0 ≤ b ∧ b ≤ 4294967295) : 0 ≤ logK op a b ∧ logK op a b ≤ 4294967295 := by
  have := logN_lt op a.toNat b.toNat 32 (by omega) (by omega)
  unfold logK
  omega
def valK (op k a b : Int) : Int := if 19 ≤ op then rawK op a b else if 14 ≤ op then wrapK k (rawK op a b) else if 10 ≤ op then logK (op - 3) a (notK k b) else logK op a b
def doK (op k a b : Int) : Int × Int := if op = 13 ∨ mayK op k = false then (0, 6) else if isK k a = false ∨ isK k b = false then (0, 1) else (valK op k a b, 0)
theorem may_op {op k : Int} (h : mayK op k = true) : 7 ≤ op ∧ op ≤ 24 ∧ (op ≤ 13 → mayK 13 k = true) := by
  unfold mayK at h ⊢
  simp only [Bool.and_eq_true] at h ⊢
  obtain ⟨h0, h⟩ := h
  split at h
  · next hc => exact ⟨by omega, by omega, fun _ => ⟨h0, by rw [if_pos (by omega)]; exact h⟩⟩
  · split at h
    · exact ⟨by omega, by omega, fun _ => by omega⟩
    · split at h
      · exact ⟨by omega, by omega, fun _ => by omega⟩
      · exact absurd h (by simp)
end Go.Proofs.Ytdhfkcodacmbfaa
