/- The walks of an octets.Eye, on: numbers, small texts, what is left; for every state of an eye over up to 1,000,000 bytes. -/
import Derived.Test.YtdhfkcodacmbfaaEye
set_option linter.unusedVariables false
set_option linter.unusedSimpArgs false
namespace Go.Proofs.Ytdhfkcodacmbfaa
open Go.RowKit

theorem text_size (e : EyeS) (n : Int) (ok : e.ok) : (e.text n).size ≤ n.toNat := by
  unfold EyeS.text
  split
  · exact Nat.zero_le _
  · simp; omega
def EyeS.num (e : EyeS) (n : Int) : Nat := numN (e.text n).data.toList
theorem num_lt (e : EyeS) (n : Int) (ok : e.ok) : e.num n < 256 ^ n.toNat := by
  unfold EyeS.num
  have h := numN_lt (e.text n).data.toList
  have hs := text_size e n ok
  have hl : (e.text n).data.toList.length = (e.text n).size := by simp
  rw [hl] at h
  exact Nat.lt_of_lt_of_le h (Nat.pow_le_pow_right (by decide) hs)
theorem num_lt1 (e : EyeS) (ok : e.ok) : e.num 1 < 256 := num_lt e 1 ok
theorem num_lt2 (e : EyeS) (ok : e.ok) : e.num 2 < 65536 := num_lt e 2 ok
theorem number_any (e : EyeS) (n : Int) (h0 : 0 ≤ n) (h4 : n ≤ 4) (B : Nat) (w : World) (ok : e.ok) (hB : Blk w B e.cells 135) :
    Calls Try.prog 102 #[.pointer (some ⟨B, 0, none⟩), .int .i64 n] w fun r w' => r = .returned (.int .u32 (e.num n : Int)) ∧ Chg w w' B (e.next n).cells 135 :=
  number_of n B w _ _ (by have := text_size e n ok; omega) (take_any e n B w ok hB (by omega) (by omega))
theorem byte_any (e : EyeS) (B : Nat) (w : World) (ok : e.ok) (hB : Blk w B e.cells 135) :
    Calls Try.prog 36 #[.pointer (some ⟨B, 0, none⟩)] w fun r w' => r = .returned (.int .u8 (e.num 1 : Int)) ∧ Chg w w' B (e.next 1).cells 135 := by
  have H := Lib.hid (number_any e 1 (by decide) (by decide) B w ok hB)
  have hl := num_lt1 e ok
  go_enter Try.func36, Try.ntmps36
  go_wp2_with fail
  refine H.out.mono ?_
  rintro r w1 ⟨rfl, ch⟩
  go_wp2_with fail
  go_ret
  exact ⟨ret_int (by omega), ch⟩
theorem two_any (e : EyeS) (B : Nat) (w : World) (ok : e.ok) (hB : Blk w B e.cells 135) :
    Calls Try.prog 38 #[.pointer (some ⟨B, 0, none⟩)] w fun r w' => r = .returned (.int .u16 (e.num 2 : Int)) ∧ Chg w w' B (e.next 2).cells 135 := by
  have H := Lib.hid (number_any e 2 (by decide) (by decide) B w ok hB)
  have hl := num_lt2 e ok
  have HW := Lib.hid (u16_in (e.num 2 : Int) (by omega) (by omega))
  go_enter Try.func38, Try.ntmps38
  go_wp2_with fail
  refine H.out.mono ?_
  rintro r w1 ⟨rfl, ch⟩
  go_wp2_with fail
  go_ret
  exact ⟨ret_int (by first | rfl | exact HW.out), ch⟩
theorem four_any (e : EyeS) (B : Nat) (w : World) (ok : e.ok) (hB : Blk w B e.cells 135) :
    Calls Try.prog 39 #[.pointer (some ⟨B, 0, none⟩)] w fun r w' => r = .returned (.int .u32 (e.num 4 : Int)) ∧ Chg w w' B (e.next 4).cells 135 := by
  have H := Lib.hid (number_any e 4 (by decide) (by decide) B w ok hB)
  go_enter Try.func39, Try.ntmps39
  go_wp2_with fail
  refine H.out.mono ?_
  rintro r w1 ⟨rfl, ch⟩
  go_wp2_with fail
  go_ret
  exact ⟨rfl, ch⟩
def EyeS.smallText (e : EyeS) : ByteArray := (e.next 1).text (e.num 1)
def EyeS.smallNext (e : EyeS) : EyeS := (e.next 1).next (e.num 1)
set_option maxRecDepth 100000 in
theorem small_any (e : EyeS) (B : Nat) (w : World) (ok : e.ok) (hB : Blk w B e.cells 135) :
    Calls Try.prog 42 #[.pointer (some ⟨B, 0, none⟩)] w fun r w' => r = .returned (.string e.smallText) ∧ Chg w w' B e.smallNext.cells 135 := by
  have H := Lib.hid (byte_any e B w ok hB)
  have hl := num_lt1 e ok
  have HT := Lib.hid (fun W (hW : Blk W B (e.next 1).cells 135) => take_any (e.next 1) (e.num 1) B W (EyeS.next_ok ok 1) hW (by omega) (by omega))
  have hl2 : ((e.num 1 : Nat) : Int) < 256 := by omega
  have hl3 : (0 : Int) ≤ ((e.num 1 : Nat) : Int) := by omega
  clear hl
  unfold EyeS.smallText EyeS.smallNext
  generalize (e.num 1 : Int) = N at *
  go_enter Try.func42, Try.ntmps42
  go_wp2_with fail
  refine H.out.mono ?_
  rintro r w1 ⟨rfl, ch⟩
  go_wp2_with fail
  refine (HT.out _ ch.blk).mono ?_
  rintro r w2 ⟨rfl, ch2⟩
  replace ch := ch.trans ch2; clear ch2
  go_wp2_with fail
  go_ret
  exact ⟨rfl, ch⟩
theorem blind_any (e : EyeS) (B : Nat) (w : World) (hB : Blk w B e.cells 135) :
    Calls Try.prog 44 #[.pointer (some ⟨B, 0, none⟩)] w fun r w' => r = .returned (.bool e.bl) ∧ w = w' := by
  have c2 := hB.cell (j := 2) (v := .bool e.bl) rfl
  go_enter Try.func44, Try.ntmps44
  go_wp2_with fail
  go_ret
  exact ⟨rfl, rfl⟩
def EyeS.left (e : EyeS) : Int := if e.bl then 0 else (e.s.size : Int) - e.pos
set_option maxRecDepth 100000 in
theorem left_any (e : EyeS) (B : Nat) (w : World) (ok : e.ok) (hB : Blk w B e.cells 135) :
    Calls Try.prog 45 #[.pointer (some ⟨B, 0, none⟩)] w fun r w' => r = .returned (.int .i64 e.left) ∧ ∃ m, w' = w.drewN m := by
  have h1 := ok.small
  have h2 := ok.pos_le
  have c0 := hB.cell (j := 0) (v := .string e.s) rfl
  have c1 := hB.cell (j := 1) (v := .int .i64 e.pos) rfl
  have H := Lib.hid (blind_any e B w hB)
  obtain ⟨s, pos, bl⟩ := e
  simp only at *
  cases bl with
  | true =>
    go_enter Try.func45, Try.ntmps45
    go_wp2_with fail
    refine H.out.mono ?_
    rintro r w1 ⟨rfl, rfl⟩
    go_wp2_with fail
    go_ret
    exact ⟨rfl, 0, rfl⟩
  | false =>
    go_enter Try.func45, Try.ntmps45
    go_wp2_with fail
    refine H.out.mono ?_
    rintro r w1 ⟨rfl, rfl⟩
    go_wp2_with fail
    go_region
    go_wp2_with fail
    go_ret
    exact ⟨rfl, 1, rfl⟩
def EyeS.done (e : EyeS) : Bool := !e.bl && (e.left == 0)
theorem done_any (e : EyeS) (B : Nat) (w : World) (ok : e.ok) (hB : Blk w B e.cells 135) :
    Calls Try.prog 46 #[.pointer (some ⟨B, 0, none⟩)] w fun r w' => r = .returned (.bool e.done) ∧ ∃ m, w' = w.drewN m := by
  have H := Lib.hid (blind_any e B w hB)
  have HL := Lib.hid (left_any e B w ok hB)
  unfold EyeS.done
  generalize e.left = L at *
  generalize e.bl = bl at *
  cases bl with
  | true =>
    go_enter Try.func46, Try.ntmps46
    go_wp2_with fail
    refine H.out.mono ?_
    rintro r w1 ⟨rfl, rfl⟩
    go_wp2_with fail
    go_ret
    exact ⟨rfl, 0, rfl⟩
  | false =>
    go_enter Try.func46, Try.ntmps46
    go_wp2_with fail
    refine H.out.mono ?_
    rintro r w1 ⟨rfl, rfl⟩
    go_wp2_with fail
    refine HL.out.mono ?_
    rintro r w1 ⟨rfl, m, rfl⟩
    go_wp2_with fail
    go_ret
    exact ⟨rfl, m, rfl⟩
theorem newEye_any (s : ByteArray) (w : World) :
    Calls Try.prog 35 #[.string s] w fun r w' => r = .returned (.pointer (some ⟨w.heap.size, 0, none⟩)) ∧ w' = w.alloc (.cells (EyeS.cells ⟨s, 0, false⟩) 135) := by
  go_enter Try.func35, Try.ntmps35
  go_wp2_with fail
  go_ret
  exact ⟨rfl, rfl⟩
end Go.Proofs.Ytdhfkcodacmbfaa
