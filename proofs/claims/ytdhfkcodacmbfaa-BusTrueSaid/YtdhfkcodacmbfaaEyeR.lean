/- The walks of the reference's Eye; for every state over up to 1,000,000 bytes. -/
import Derived.Test.YtdhfkcodacmbfaaEyeB
set_option linter.unusedVariables false
set_option linter.unusedSimpArgs false
namespace Go.Proofs.Ytdhfkcodacmbfaa
open Go.RowKit

structure RefS where
  s : ByteArray
  lost : Bool
def RefS.cells (e : RefS) : Array Value := #[.string e.s, .bool e.lost]
def RefS.bad (e : RefS) (n : Int) : Prop := e.lost = true ∨ n < 0 ∨ (e.s.size : Int) < n
instance (e : RefS) (n : Int) : Decidable (e.bad n) := by unfold RefS.bad; exact inferInstance
def RefS.text (e : RefS) (n : Int) : ByteArray := if e.bad n then ⟨#[]⟩ else e.s.extract 0 n.toNat
def RefS.next (e : RefS) (n : Int) : RefS := if e.bad n then ⟨e.s, true⟩ else ⟨e.s.extract n.toNat e.s.size, false⟩
theorem RefS.next_ok {e : RefS} (h : e.s.size ≤ 1000000) (n : Int) : (e.next n).s.size ≤ 1000000 := by
  unfold RefS.next
  split
  · exact h
  · simp; omega

set_option maxRecDepth 100000 in
theorem rtake_any (e : RefS) (n : Int) (B : Nat) (w : World) (ok : e.s.size ≤ 1000000) (hB : Blk w B e.cells 37) (n0 : -10000000 ≤ n) (n1 : n ≤ 4294967295) :
    Calls Try.prog 41 #[.pointer (some ⟨B, 0, none⟩), .int .i64 n] w fun r w' => r = .returned (.string (e.text n)) ∧ Chg w w' B (e.next n).cells 37 := by
  have c0 := hB.cell (j := 0) (v := .string e.s) rfl
  have c1 := hB.cell (j := 1) (v := .bool e.lost) rfl
  have f0 := hB.free 0
  have f1 := hB.free 1
  by_cases hb : e.bad n
  · have e1 : e.text n = ⟨#[]⟩ := if_pos hb
    have e2 : e.next n = ⟨e.s, true⟩ := if_pos hb
    have HC := Lib.hid (show Chg w (w.setCell ⟨B, 1, none⟩ (.bool true)) B (RefS.cells ⟨e.s, true⟩) 37 from (Chg.refl hB).setCell 1 (.bool true))
    rw [e1, e2]
    clear e1 e2
    unfold RefS.bad at hb
    obtain ⟨s, bl⟩ := e
    simp only at *
    cases bl with
    | true =>
      go_enter Try.func41, Try.ntmps41
      go_wp2
      go_ret
      exact ⟨rfl, HC.out⟩
    | false =>
      by_cases hn : n < 0
      · have d : decide (n < 0) = true := decide_eq_true hn
        go_enter Try.func41, Try.ntmps41
        go_wp2
        go_ret
        exact ⟨rfl, HC.out⟩
      · have hn2 : (s.size : Int) < n := by simp at hb; omega
        have d : decide (n < 0) = false := decide_eq_false hn
        have d2 : decide ((s.size : Int) < n) = true := decide_eq_true hn2
        go_enter Try.func41, Try.ntmps41
        go_wp2
        go_ret
        exact ⟨rfl, HC.out⟩
  · have e1 : e.text n = e.s.extract 0 n.toNat := if_neg hb
    have e2 : e.next n = ⟨e.s.extract n.toNat e.s.size, false⟩ := if_neg hb
    rw [e1, e2]
    clear e1 e2
    unfold RefS.bad at hb
    obtain ⟨s, bl⟩ := e
    simp only at *
    obtain ⟨m, rfl⟩ := Int.eq_ofNat_of_zero_le (show 0 ≤ n by omega)
    obtain rfl : bl = false := by cases bl <;> simp_all
    have hm : m ≤ s.size := by simp at hb; omega
    have d : decide ((m : Int) < 0) = false := decide_eq_false (by omega)
    have d2 : decide ((s.size : Int) < m) = false := decide_eq_false (by omega)
    clear hb
    rw [Int.toNat_natCast]
    have HC := Lib.hid (show Chg w (w.setCell ⟨B, 0, none⟩ (.string (s.extract m s.size))) B (RefS.cells ⟨s.extract m s.size, false⟩) 37 from (Chg.refl hB).setCell 0 (.string (s.extract m s.size)))
    go_enter Try.func41, Try.ntmps41
    go_wp2
    go_ret
    exact ⟨rfl, HC.out⟩
theorem rtext_size (e : RefS) (n : Int) : (e.text n).size ≤ n.toNat := by
  unfold RefS.text
  split
  · exact Nat.zero_le _
  · simp; omega
def RefS.num (e : RefS) (n : Int) : Nat := numN (e.text n).data.toList
set_option maxRecDepth 100000 in
theorem rnumber_any (e : RefS) (n : Int) (h0 : 0 ≤ n) (h4 : n ≤ 4) (B : Nat) (w : World) (ok : e.s.size ≤ 1000000) (hB : Blk w B e.cells 37) :
    Calls Try.prog 37 #[.pointer (some ⟨B, 0, none⟩), .int .i64 n] w fun r w' => r = .returned (.int .u32 (e.num n : Int)) ∧ Chg w w' B (e.next n).cells 37 := by
  have H := Lib.hid (rtake_any e n B w ok hB (by omega) (by omega))
  have ht := rtext_size e n
  have ht4 : (e.text n).size ≤ 4 := by omega
  clear ht
  unfold RefS.num
  generalize e.text n = t at *
  generalize (e.next n).cells = cs at *
  go_enter Try.func37, Try.ntmps37
  go_wp2_with fail
  refine H.out.mono ?_
  rintro r w1 ⟨rfl, ch⟩
  go_wp2_with fail
  go_loop [6, 7] (fun m v => ∃ k : Nat, k ≤ t.size ∧ v = .int .i64 k ∧ m = .int .u32 (numN (t.data.toList.take k) : Int)) (fun _ v => t.size - (intOf v).toNat)
  case atStart => exact ⟨0, by omega, rfl, rfl⟩
  case round =>
    obtain ⟨k, hk, rfl, rfl⟩ := hrel
    by_cases hlt : k < t.size
    · have NS := num_step t k hlt ht4
      have hb := NS.2
      have HN := Lib.hid NS.1
      have hcl := t[k].toNat_lt
      clear NS
      go_wp2_with fail
      go_round
      case rel => exact ⟨k + 1, by omega, by go_num, val_int (by rw [HN.out]; omega)⟩
      case measure => simp [intOf]; omega
    · obtain rfl : k = t.size := by omega
      go_wp2_with fail
      go_ret
      exact ⟨ret_int (by rw [List.take_of_length_le (by simp)]), ch⟩
def RefS.smallText (e : RefS) : ByteArray := (e.next 1).text (e.num 1)
def RefS.smallNext (e : RefS) : RefS := (e.next 1).next (e.num 1)
theorem rnum_lt1 (e : RefS) : e.num 1 < 256 := by
  unfold RefS.num
  have h := numN_lt (e.text 1).data.toList
  have hs := rtext_size e 1
  have hl : (e.text 1).data.toList.length = (e.text 1).size := by simp
  rw [hl] at h
  exact Nat.lt_of_lt_of_le h (Nat.pow_le_pow_right (n := 256) (j := 1) (by decide) hs)
set_option maxRecDepth 100000 in
theorem rsmall_any (e : RefS) (B : Nat) (w : World) (ok : e.s.size ≤ 1000000) (hB : Blk w B e.cells 37) :
    Calls Try.prog 43 #[.pointer (some ⟨B, 0, none⟩)] w fun r w' => r = .returned (.string e.smallText) ∧ Chg w w' B e.smallNext.cells 37 := by
  have H := Lib.hid (rnumber_any e 1 (by decide) (by decide) B w ok hB)
  have hl := rnum_lt1 e
  have HT := Lib.hid (fun W (hW : Blk W B (e.next 1).cells 37) => rtake_any (e.next 1) (e.num 1) B W (RefS.next_ok ok 1) hW (by omega) (by omega))
  have hl2 : ((e.num 1 : Nat) : Int) < 256 := by omega
  have hl3 : (0 : Int) ≤ ((e.num 1 : Nat) : Int) := by omega
  clear hl
  unfold RefS.smallText RefS.smallNext
  generalize (e.num 1 : Int) = N at *
  go_enter Try.func43, Try.ntmps43
  go_wp2_with fail
  refine H.out.mono ?_
  rintro r w1 ⟨rfl, ch⟩
  go_wp2_with fail
  refine (HT.out _ ch.blk).mono ?_
  rintro r w2 ⟨rfl, ch2⟩
  replace ch := ch.trans ch2; clear ch2
  go_wp2_with fail
  go_ret
  exact ⟨rfl, ch⟩
/-! ### an eye and the reference's, side by side -/
structure Like (e : EyeS) (r : RefS) : Prop where
  bl : r.lost = e.bl
  rest : e.bl = false → r.s = e.s.extract e.pos e.s.size
  small : r.s.size ≤ 1000000
theorem Like.bad {e : EyeS} {r : RefS} (h : Like e r) (n : Int) (ok : e.ok) : e.bad n ↔ r.bad n := by
  unfold EyeS.bad RefS.bad
  rw [h.bl]
  cases hb : e.bl with
  | true => simp
  | false =>
    have hs : r.s.size = e.s.size - e.pos := by rw [h.rest hb]; simp
    have := ok.pos_le
    rw [hs]
    simp
    omega
theorem Like.text {e : EyeS} {r : RefS} (h : Like e r) (n : Int) (ok : e.ok) : e.text n = r.text n := by
  unfold EyeS.text RefS.text
  by_cases hb : e.bad n
  · rw [if_pos hb, if_pos ((h.bad n ok).1 hb)]
  · rw [if_neg hb, if_neg (fun x => hb ((h.bad n ok).2 x))]
    have hbl : e.bl = false := by unfold EyeS.bad at hb; cases hq : e.bl <;> simp_all
    have hn : e.pos + n.toNat ≤ e.s.size := by have := ok.pos_le; unfold EyeS.bad at hb; omega
    rw [h.rest hbl]
    rw [ByteArray.extract_extract]
    congr 1
    omega
theorem Like.next {e : EyeS} {r : RefS} (h : Like e r) (n : Int) (ok : e.ok) : Like (e.next n) (r.next n) := by
  unfold EyeS.next RefS.next
  by_cases hb : e.bad n
  · rw [if_pos hb, if_pos ((h.bad n ok).1 hb)]
    exact ⟨rfl, (fun x => by cases x), h.small⟩
  · rw [if_neg hb, if_neg (fun x => hb ((h.bad n ok).2 x))]
    have hbl : e.bl = false := by unfold EyeS.bad at hb; cases hq : e.bl <;> simp_all
    refine ⟨rfl, fun _ => ?_, ?_⟩
    · show r.s.extract n.toNat r.s.size = e.s.extract (e.pos + n.toNat) e.s.size
      have := ok.pos_le
      rw [h.rest hbl, ByteArray.extract_extract]
      congr 1
      simp
      omega
    · simp
      have := h.small
      omega
end Go.Proofs.Ytdhfkcodacmbfaa
