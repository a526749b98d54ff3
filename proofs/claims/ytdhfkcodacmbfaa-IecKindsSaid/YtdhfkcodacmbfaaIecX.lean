/- The walk of the law IecKinds. -/
import Derived.Test.YtdhfkcodacmbfaaIecW
set_option linter.unusedVariables false
set_option linter.unusedSimpArgs false
namespace Go.Proofs.Ytdhfkcodacmbfaa
open Go.RowKit

theorem wantK_yes {name : ByteArray} {m : Nat} (h : (kname ((m : Int) + 1)).toList = name.toList) : wantK name (m + 1) = (m : Int) + 1 := by
  show (if _ then _ else wantT name.toList m) = _
  rw [if_pos (by exact h)]
  rfl
theorem wantK_no {name : ByteArray} {m : Nat} (h : ¬ (kname ((m : Int) + 1)).toList = name.toList) : wantK name (m + 1) = wantK name m := by
  show (if _ then _ else wantT name.toList m) = _
  rw [if_neg (by exact h)]
  rfl
set_option maxRecDepth 100000 in
set_option maxHeartbeats 4000000 in
theorem kinds_walk (k v : Int) (name : ByteArray) (w : World) (wk : (Lit.int .i64 k).wf = true) (wv : (Lit.int .i64 v).wf = true) (hs : name.size ≤ maxLen) :
    Calls Try.prog 20 #[.int .i64 k, .int .i64 v, .string name] w fun e w' => e = .returned (.bool true) ∧ Below w.heap.size w w' := by
  have HA := Lib.hid (fun W => iawake_any W)
  have hs' : name.size ≤ 9223372036854775807 := hs
  clear hs
  by_cases h40 : name.size ≤ 40
  · have HR := Lib.hid (fun j W => rname_any j W)
    have HN := Lib.hid (fun W => named_any name W)
    have hw := want_named name
    rw [hw.1, hw.2] at HN
    have S1 := Lib.hid (fun W => size_any k W)
    have S2 := Lib.hid (fun W => rsize_any k W)
    have N1 := Lib.hid (fun W => name_any k W)
    have N2 := Lib.hid (fun W => rname_any k W)
    have I1 := Lib.hid (fun W => is_any k v W wv)
    have I2 := Lib.hid (fun W => ris_any k v W wv)
    have W1 := Lib.hid (fun W => wrap_any k v W wv)
    have W2 := Lib.hid (fun W => rwrap_any k v W wv)
    clear wk wv hw
    generalize ksize k = sz at *
    generalize kname k = kn at *
    generalize isK k v = is at *
    generalize wrapK k v = wr' at *
    go_enter Try.func20, Try.ntmps20
    go_wp2_with fail
    refine (HA.out _).mono ?_
    rintro e w1 ⟨rfl, b⟩
    go_wp2_with fail
    go_loopw [7, 8] (fun u x wr => ∃ m : Nat, m ≤ 7 ∧ x = .int .i64 ((m : Int) + 1) ∧ u = .int .i64 (wantK name m) ∧ Below w.heap.size w wr) (fun _ x _ => 8 - (intOf x).toNat)
    case atStart => exact ⟨0, by omega, rfl, rfl, b⟩
    case round =>
      clear b
      obtain ⟨m, hm, rfl, rfl, b⟩ := hrel
      by_cases hlt : m < 7
      · have l1 : (m : Int) + 1 ≤ 7 := by omega
        by_cases hq : (kname ((m : Int) + 1)).toList = name.toList
        · have hy := Lib.hid (wantK_yes hq)
          have hq' : ((kname ((m : Int) + 1)).toList == name.toList) = true := by rw [hq]; simp
          clear hq
          go_wp2_with fail
          refine (HR.out _ _).mono ?_
          rintro e w2 ⟨rfl, b2⟩
          go_wp2_with fail
          go_roundw
          case rel => exact ⟨m + 1, by omega, by go_num, by rw [hy.out], below_then b b2⟩
          case measure => simp [intOf]; omega
        · have hy := Lib.hid (wantK_no hq)
          have hq' : ((kname ((m : Int) + 1)).toList == name.toList) = false := by simpa using hq
          clear hq
          go_wp2_with fail
          refine (HR.out _ _).mono ?_
          rintro e w2 ⟨rfl, b2⟩
          go_wp2_with fail
          go_roundw
          case rel => exact ⟨m + 1, by omega, by go_num, by rw [hy.out], below_then b b2⟩
          case measure => simp [intOf]; omega
      · have l1 : ¬ (m : Int) + 1 ≤ 7 := by omega
        obtain rfl : m = 7 := by omega
        generalize wantK name 7 = wt at *
        go_wp2_with fail
        refine (HN.out _).mono ?_
        rintro e w2 ⟨rfl, b2⟩
        replace b := below_then b b2
        go_wp2_with fail
        refine (S1.out _).mono ?_
        rintro e w3 ⟨rfl, b2⟩
        replace b := below_then b b2
        go_wp2_with fail
        refine (S2.out _).mono ?_
        rintro e w4 ⟨rfl, b2⟩
        replace b := below_then b b2
        go_wp2_with fail
        refine (N1.out _).mono ?_
        rintro e w5 ⟨rfl, b2⟩
        replace b := below_then b b2
        go_wp2_with fail
        refine (N2.out _).mono ?_
        rintro e w6 ⟨rfl, b2⟩
        replace b := below_then b b2
        go_wp2_with fail
        refine (I1.out _).mono ?_
        rintro e w7 ⟨rfl, b2⟩
        replace b := below_then b b2
        go_wp2_with fail
        refine (I2.out _).mono ?_
        rintro e w8 ⟨rfl, b2⟩
        replace b := below_then b b2
        go_wp2_with fail
        refine (W1.out _).mono ?_
        rintro e w9 ⟨rfl, b2⟩
        replace b := below_then b b2
        go_wp2_with fail
        refine (W2.out _).mono ?_
        rintro e w10 ⟨rfl, b2⟩
        replace b := below_then b b2
        go_wp2_with fail
        go_ret
        exact ⟨ret_bool (by simp), b⟩
  · go_enter Try.func20, Try.ntmps20
    go_wp2_with fail
    refine (HA.out _).mono ?_
    rintro e w1 ⟨rfl, b⟩
    go_wp2_with fail
    go_ret
    exact ⟨rfl, b⟩
end Go.Proofs.Ytdhfkcodacmbfaa
