/- The walks of an octets.Eye and of the reference's. -/
import Derived.Test.YtdhfkcodacmbfaaChg
import Derived.Test.YtdhfkcodacmbfaaCrcMath
set_option linter.unusedVariables false
set_option linter.unusedSimpArgs false
namespace Go.Proofs.Ytdhfkcodacmbfaa
open Go.RowKit

structure EyeS where
  s : ByteArray
  pos : Nat
  bl : Bool
def EyeS.cells (e : EyeS) : Array Value := #[.string e.s, .int .i64 e.pos, .bool e.bl]
def EyeS.bad (e : EyeS) (n : Int) : Prop := e.bl = true ∨ n < 0 ∨ (e.s.size : Int) - e.pos < n
instance (e : EyeS) (n : Int) : Decidable (e.bad n) := by unfold EyeS.bad; exact inferInstance
def EyeS.text (e : EyeS) (n : Int) : ByteArray := if e.bad n then ⟨#[]⟩ else e.s.extract e.pos (e.pos + n.toNat)
def EyeS.next (e : EyeS) (n : Int) : EyeS := if e.bad n then ⟨e.s, e.pos, true⟩ else ⟨e.s, e.pos + n.toNat, false⟩
structure EyeS.ok (e : EyeS) : Prop where
  small : e.s.size ≤ 1000000
  pos_le : e.pos ≤ e.s.size
theorem EyeS.next_ok {e : EyeS} (h : e.ok) (n : Int) : (e.next n).ok := by
  unfold EyeS.next
  split
  · exact ⟨h.small, h.pos_le⟩
  · rename_i hb
    unfold EyeS.bad at hb
    exact ⟨h.small, by show e.pos + n.toNat ≤ e.s.size; omega⟩

set_option maxRecDepth 100000 in
theorem take_any (e : EyeS) (n : Int) (B : Nat) (w : World) (ok : e.ok) (hB : Blk w B e.cells 135) (n0 : -10000000 ≤ n) (n1 : n ≤ 10000000) :
    Calls Try.prog 40 #[.pointer (some ⟨B, 0, none⟩), .int .i64 n] w fun r w' => r = .returned (.string (e.text n)) ∧ Chg w w' B (e.next n).cells 135 := by
  have h1 := ok.small
  have h2 := ok.pos_le
  have c0 := hB.cell (j := 0) (v := .string e.s) rfl
  have c1 := hB.cell (j := 1) (v := .int .i64 e.pos) rfl
  have c2 := hB.cell (j := 2) (v := .bool e.bl) rfl
  have f1 := hB.free 1
  have f2 := hB.free 2
  by_cases hb : e.bad n
  · have e1 : e.text n = ⟨#[]⟩ := if_pos hb
    have e2 : e.next n = ⟨e.s, e.pos, true⟩ := if_pos hb
    have HC := Lib.hid (show Chg w ((w.setCell ⟨B, 2, none⟩ (.bool true)).drew) B (EyeS.cells ⟨e.s, e.pos, true⟩) 135 from ((Chg.refl hB).setCell 2 (.bool true)).drew)
    rw [e1, e2]
    clear e1 e2
    unfold EyeS.bad at hb
    obtain ⟨s, pos, bl⟩ := e
    simp only at *
    cases bl with
    | true =>
      go_enter Try.func40, Try.ntmps40
      go_wp2
      go_region
      go_wp2
      go_ret
      exact ⟨rfl, HC.out⟩
    | false =>
      by_cases hn : n < 0
      · have d : decide (n < 0) = true := decide_eq_true hn
        go_enter Try.func40, Try.ntmps40
        go_wp2
        go_region
        go_wp2
        go_ret
        exact ⟨rfl, HC.out⟩
      · have hn2 : (s.size : Int) - pos < n := by simp at hb; omega
        have d : decide (n < 0) = false := decide_eq_false hn
        have d2 : decide ((s.size : Int) - pos < n) = true := decide_eq_true hn2
        go_enter Try.func40, Try.ntmps40
        go_wp2
        go_region
        go_wp2
        go_ret
        exact ⟨rfl, HC.out⟩
  · have e1 : e.text n = e.s.extract e.pos (e.pos + n.toNat) := if_neg hb
    have e2 : e.next n = ⟨e.s, e.pos + n.toNat, false⟩ := if_neg hb
    rw [e1, e2]
    clear e1 e2
    unfold EyeS.bad at hb
    obtain ⟨s, pos, bl⟩ := e
    simp only at *
    obtain ⟨m, rfl⟩ := Int.eq_ofNat_of_zero_le (show 0 ≤ n by omega)
    obtain rfl : bl = false := by cases bl <;> simp_all
    have hm : pos + m ≤ s.size := by simp at hb; omega
    have d : decide ((m : Int) < 0) = false := decide_eq_false (by omega)
    have d2 : decide ((s.size : Int) - pos < m) = false := decide_eq_false (by omega)
    clear hb
    rw [Int.toNat_natCast]
    have HC := Lib.hid (show Chg w (((w.setCell ⟨B, 2, none⟩ (.bool false)).setCell ⟨B, 1, none⟩ (.int .i64 (pos + m : Nat))).drewN 2) B (EyeS.cells ⟨s, pos + m, false⟩) 135 from (((Chg.refl hB).setCell 2 (.bool false)).setCell 1 (.int .i64 (pos + m : Nat))).drewN 2)
    go_enter Try.func40, Try.ntmps40
    go_wp2
    go_region
    go_wp2
    go_region
    go_wp2
    go_ret
    exact ⟨rfl, HC.out⟩

/-! ### numbers -/
def numN (l : List UInt8) : Nat := l.foldl (fun n c => n * 256 + c.toNat) 0
theorem numN_snoc (l : List UInt8) (c : UInt8) : numN (l ++ [c]) = numN l * 256 + c.toNat := by simp [numN]
theorem numN_lt (l : List UInt8) : numN l < 256 ^ l.length := by
  suffices h : ∀ k, k ≤ l.length → numN (l.take k) < 256 ^ k by
    have := h l.length (Nat.le_refl _)
    rwa [List.take_length] at this
  intro k
  induction k with
  | zero => intro _; simp [numN]
  | succ k ih =>
    intro hk
    have := ih (by omega)
    have hc := (l[k]'(by omega)).toNat_lt
    rw [List.take_succ_eq_append_getElem (by omega), numN_snoc, Nat.pow_succ]
    omega
theorem num_step (t : ByteArray) (k : Nat) (hk : k < t.size) (h4 : t.size ≤ 4) : numN (t.data.toList.take (k + 1)) = numN (t.data.toList.take k) * 256 + t[k].toNat ∧ numN (t.data.toList.take k) < 16777216 := by
  refine ⟨by rw [take_snoc t k hk, numN_snoc], ?_⟩
  have h := numN_lt (t.data.toList.take k)
  have hl : (t.data.toList.take k).length = k := by rw [List.length_take]; simp; omega
  rw [hl] at h
  have : 256 ^ k ≤ 256 ^ 3 := Nat.pow_le_pow_right (by decide) (by omega)
  omega
theorem or_u32 (n c : Nat) (hn : n < 16777216) (hc : c < 256) : bits .or .u32 ((n : Int) * 256) (c : Int) = (n : Int) * 256 + c :=
  bits_join .u32 32 (by decide) (fun m h0 h1 => by rw [IntKind.wrap_u32]; omega) 8 _ _ (by omega) (by show (n : Int) * 256 % 256 = 0; omega) (by show (n : Int) * 256 < 4294967296; omega) (by omega) (by show (c : Int) < 256; omega) (by show (c : Int) < 4294967296; omega)
theorem getD_byte (t : ByteArray) (k : Nat) (hk : k < t.size) : t.data.toList.getD k 0 = t[k] := by
  rw [List.getD_eq_getElem?_getD, List.getElem?_eq_getElem (by simpa using hk)]; rfl

set_option maxRecDepth 100000 in
theorem number_of (n : Int) (B : Nat) (w : World) (t : ByteArray) (cs : Array Value) (h4 : t.size ≤ 4)
    (HT : Calls Try.prog 40 #[.pointer (some ⟨B, 0, none⟩), .int .i64 n] w fun r w' => r = .returned (.string t) ∧ Chg w w' B cs 135) :
    Calls Try.prog 102 #[.pointer (some ⟨B, 0, none⟩), .int .i64 n] w fun r w' => r = .returned (.int .u32 (numN t.data.toList : Int)) ∧ Chg w w' B cs 135 := by
  have hcv := fun W => Lib.run_convert_string_bytes (P := Try.prog) W 9 54 5 t Try.underlying9 Try.underlying54 Try.underlying5
  have H := Lib.hid HT
  clear HT
  go_enter Try.func102, Try.ntmps102
  go_wp2_with fail
  refine H.out.mono ?_
  rintro r w1 ⟨rfl, ch⟩
  have R0 := bytes_row w1 5 t
  have C0 := ch.then_below (bytes_below w1 5 t)
  go_wp2_with fail
  generalize Lib.bytesWorld w1 5 t = w2 at *
  generalize grownCap w1 t.size 0 5 = cap at *
  go_loop [5, 7, 13] (fun m _ v => ∃ k : Nat, k ≤ t.size ∧ v = .int .i64 k ∧ m = .int .u32 (numN (t.data.toList.take k) : Int)) (fun _ _ v => t.size - (intOf v).toNat)
  case atStart => exact ⟨0, by omega, rfl, rfl⟩
  case round =>
    obtain ⟨k, hk, rfl, rfl⟩ := hrel
    by_cases hlt : k < t.size
    · have hc := R0.cell k hlt
      rw [getD_byte t k hlt] at hc
      have NS := num_step t k hlt h4
      have hb := NS.2
      have HN := Lib.hid NS.1
      have hcl := t[k].toNat_lt
      have HO := Lib.hid (or_u32 (numN (t.data.toList.take k)) t[k].toNat hb hcl)
      clear NS
      go_wp2_with fail
      go_round
      case rel => exact ⟨k + 1, by omega, by go_num, val_int (by rw [HO.out, HN.out]; omega)⟩
      case measure => simp [intOf]; omega
    · obtain rfl : k = t.size := by omega
      go_wp2_with fail
      go_ret
      exact ⟨ret_int (by rw [List.take_of_length_le (by simp)]), C0⟩
end Go.Proofs.Ytdhfkcodacmbfaa
