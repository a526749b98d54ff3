/- The reference's answer for kinds: is, wrap, not, may. -/
import Derived.Test.YtdhfkcodacmbfaaIecE
set_option linter.unusedVariables false
set_option linter.unusedSimpArgs false
namespace Go.Proofs.Ytdhfkcodacmbfaa
open Go.RowKit

theorem isK_out {k : Int} (h : k < 1 ∨ 7 < k) (v : Int) : isK k v = false := by unfold isK; rw [kok_out h]; rfl
theorem tmod_wrap (v n : Int) (hn : 0 < n) : (v.tmod n + n).tmod n = v % n := by
  have h1 : -n < v.tmod n := Int.lt_tmod_of_pos v hn
  rw [Int.tmod_eq_emod_of_nonneg (by omega), Int.add_emod_right]
  have h2 : v.tmod n = v - n * (v.tdiv n) := by have := Int.tmod_add_mul_tdiv v n; omega
  rw [h2, Int.sub_mul_emod_self_left]
theorem isK_1 (v : Int) : isK 1 v = (decide ((0 : Int) ≤ v) && decide (v ≤ 1)) := by
  unfold isK
  rw [show kok 1 = true from rfl, show wrapK 1 v = (if v = 0 then 0 else 1) from rfl, Bool.true_and, ← Bool.decide_and]
  apply decide_eq_decide.2
  split <;> omega
theorem isK_2 (v : Int) : isK 2 v = (decide ((-128 : Int) ≤ v) && decide (v ≤ 127)) := by
  unfold isK
  rw [show kok 2 = true from rfl, show wrapK 2 v = IntKind.i8.wrap v from rfl, wrap_i8', Bool.true_and, ← Bool.decide_and]
  apply decide_eq_decide.2
  omega
theorem isK_3 (v : Int) : isK 3 v = (decide ((-32768 : Int) ≤ v) && decide (v ≤ 32767)) := by
  unfold isK
  rw [show kok 3 = true from rfl, show wrapK 3 v = IntKind.i16.wrap v from rfl, wrap_i16', Bool.true_and, ← Bool.decide_and]
  apply decide_eq_decide.2
  omega
theorem isK_4 (v : Int) : isK 4 v = (decide ((-2147483648 : Int) ≤ v) && decide (v ≤ 2147483647)) := by
  unfold isK
  rw [show kok 4 = true from rfl, show wrapK 4 v = IntKind.i32.wrap v from rfl, IntKind.wrap_i32, Bool.true_and, ← Bool.decide_and]
  apply decide_eq_decide.2
  omega
theorem isK_5 (v : Int) : isK 5 v = (decide ((0 : Int) ≤ v) && decide (v ≤ 65535)) := by
  unfold isK
  rw [show kok 5 = true from rfl, show wrapK 5 v = IntKind.u16.wrap v from rfl, IntKind.wrap_u16, Bool.true_and, ← Bool.decide_and]
  apply decide_eq_decide.2
  omega
theorem isK_6 (v : Int) : isK 6 v = (decide ((0 : Int) ≤ v) && decide (v ≤ 65535)) := by
  unfold isK
  rw [show kok 6 = true from rfl, show wrapK 6 v = IntKind.u16.wrap v from rfl, IntKind.wrap_u16, Bool.true_and, ← Bool.decide_and]
  apply decide_eq_decide.2
  omega
theorem isK_7 (v : Int) : isK 7 v = (decide ((0 : Int) ≤ v) && decide (v ≤ 4294967295)) := by
  unfold isK
  rw [show kok 7 = true from rfl, show wrapK 7 v = IntKind.u32.wrap v from rfl, IntKind.wrap_u32, Bool.true_and, ← Bool.decide_and]
  apply decide_eq_decide.2
  omega
set_option maxRecDepth 100000 in
set_option maxHeartbeats 4000000 in
theorem ris_any (k v : Int) (w : World) (hv : (Lit.int .i64 v).wf = true) : Calls Try.prog 90 #[.int .i64 k, .int .i64 v] w fun e w' => e = .returned (.bool (isK k v)) ∧ Below w.heap.size w w' := by
  have HS := Lib.hid (fun W => rsize_any k W)
  have HM := Lib.hid (fun W => many_any k W)
  have HL := Lib.hid (fun W => least_any k W)
  clear hv
  rcases kcases k with rfl | rfl | rfl | rfl | rfl | rfl | rfl | ho
  · rw [show ksize 1 = 1 from rfl] at HS
    rw [show manyK 1 = 2 by decide] at HM
    rw [show leastK 1 = 0 by decide +kernel] at HL
    rw [isK_1]
    by_cases h0 : (0 : Int) ≤ v
    · go_enter Try.func90, Try.ntmps90
      go_wp2_with fail
      refine (HS.out _).mono ?_
      rintro e w1 ⟨rfl, b⟩
      go_wp2_with fail
      refine (HL.out _).mono ?_
      rintro e w2 ⟨rfl, b2⟩
      replace b := below_then b b2
      clear b2
      go_wp2_with fail
      refine (HL.out _).mono ?_
      rintro e w2 ⟨rfl, b2⟩
      replace b := below_then b b2
      clear b2
      go_wp2_with fail
      refine (HM.out _).mono ?_
      rintro e w2 ⟨rfl, b2⟩
      replace b := below_then b b2
      clear b2
      go_wp2_with fail
      go_ret
      exact ⟨ret_bool (by first | rfl | (simp <;> omega)), b⟩
    · have hd : decide ((0 : Int) ≤ v) = false := decide_eq_false h0
      go_enter Try.func90, Try.ntmps90
      go_wp2_with fail
      refine (HS.out _).mono ?_
      rintro e w1 ⟨rfl, b⟩
      go_wp2_with fail
      refine (HL.out _).mono ?_
      rintro e w2 ⟨rfl, b2⟩
      replace b := below_then b b2
      clear b2
      go_wp2_with fail
      go_ret
      exact ⟨ret_bool (by first | rfl | (simp <;> omega)), b⟩
  · rw [show ksize 2 = 1 from rfl] at HS
    rw [show manyK 2 = 256 by decide] at HM
    rw [show leastK 2 = -128 by decide +kernel] at HL
    rw [isK_2]
    by_cases h0 : (-128 : Int) ≤ v
    · go_enter Try.func90, Try.ntmps90
      go_wp2_with fail
      refine (HS.out _).mono ?_
      rintro e w1 ⟨rfl, b⟩
      go_wp2_with fail
      refine (HL.out _).mono ?_
      rintro e w2 ⟨rfl, b2⟩
      replace b := below_then b b2
      clear b2
      go_wp2_with fail
      refine (HL.out _).mono ?_
      rintro e w2 ⟨rfl, b2⟩
      replace b := below_then b b2
      clear b2
      go_wp2_with fail
      refine (HM.out _).mono ?_
      rintro e w2 ⟨rfl, b2⟩
      replace b := below_then b b2
      clear b2
      go_wp2_with fail
      go_ret
      exact ⟨ret_bool (by first | rfl | (simp <;> omega)), b⟩
    · have hd : decide ((-128 : Int) ≤ v) = false := decide_eq_false h0
      go_enter Try.func90, Try.ntmps90
      go_wp2_with fail
      refine (HS.out _).mono ?_
      rintro e w1 ⟨rfl, b⟩
      go_wp2_with fail
      refine (HL.out _).mono ?_
      rintro e w2 ⟨rfl, b2⟩
      replace b := below_then b b2
      clear b2
      go_wp2_with fail
      go_ret
      exact ⟨ret_bool (by first | rfl | (simp <;> omega)), b⟩
  · rw [show ksize 3 = 2 from rfl] at HS
    rw [show manyK 3 = 65536 by decide] at HM
    rw [show leastK 3 = -32768 by decide +kernel] at HL
    rw [isK_3]
    by_cases h0 : (-32768 : Int) ≤ v
    · go_enter Try.func90, Try.ntmps90
      go_wp2_with fail
      refine (HS.out _).mono ?_
      rintro e w1 ⟨rfl, b⟩
      go_wp2_with fail
      refine (HL.out _).mono ?_
      rintro e w2 ⟨rfl, b2⟩
      replace b := below_then b b2
      clear b2
      go_wp2_with fail
      refine (HL.out _).mono ?_
      rintro e w2 ⟨rfl, b2⟩
      replace b := below_then b b2
      clear b2
      go_wp2_with fail
      refine (HM.out _).mono ?_
      rintro e w2 ⟨rfl, b2⟩
      replace b := below_then b b2
      clear b2
      go_wp2_with fail
      go_ret
      exact ⟨ret_bool (by first | rfl | (simp <;> omega)), b⟩
    · have hd : decide ((-32768 : Int) ≤ v) = false := decide_eq_false h0
      go_enter Try.func90, Try.ntmps90
      go_wp2_with fail
      refine (HS.out _).mono ?_
      rintro e w1 ⟨rfl, b⟩
      go_wp2_with fail
      refine (HL.out _).mono ?_
      rintro e w2 ⟨rfl, b2⟩
      replace b := below_then b b2
      clear b2
      go_wp2_with fail
      go_ret
      exact ⟨ret_bool (by first | rfl | (simp <;> omega)), b⟩
  · rw [show ksize 4 = 4 from rfl] at HS
    rw [show manyK 4 = 4294967296 by decide] at HM
    rw [show leastK 4 = -2147483648 by decide +kernel] at HL
    rw [isK_4]
    by_cases h0 : (-2147483648 : Int) ≤ v
    · go_enter Try.func90, Try.ntmps90
      go_wp2_with fail
      refine (HS.out _).mono ?_
      rintro e w1 ⟨rfl, b⟩
      go_wp2_with fail
      refine (HL.out _).mono ?_
      rintro e w2 ⟨rfl, b2⟩
      replace b := below_then b b2
      clear b2
      go_wp2_with fail
      refine (HL.out _).mono ?_
      rintro e w2 ⟨rfl, b2⟩
      replace b := below_then b b2
      clear b2
      go_wp2_with fail
      refine (HM.out _).mono ?_
      rintro e w2 ⟨rfl, b2⟩
      replace b := below_then b b2
      clear b2
      go_wp2_with fail
      go_ret
      exact ⟨ret_bool (by first | rfl | (simp <;> omega)), b⟩
    · have hd : decide ((-2147483648 : Int) ≤ v) = false := decide_eq_false h0
      go_enter Try.func90, Try.ntmps90
      go_wp2_with fail
      refine (HS.out _).mono ?_
      rintro e w1 ⟨rfl, b⟩
      go_wp2_with fail
      refine (HL.out _).mono ?_
      rintro e w2 ⟨rfl, b2⟩
      replace b := below_then b b2
      clear b2
      go_wp2_with fail
      go_ret
      exact ⟨ret_bool (by first | rfl | (simp <;> omega)), b⟩
  · rw [show ksize 5 = 2 from rfl] at HS
    rw [show manyK 5 = 65536 by decide] at HM
    rw [show leastK 5 = 0 by decide +kernel] at HL
    rw [isK_5]
    by_cases h0 : (0 : Int) ≤ v
    · go_enter Try.func90, Try.ntmps90
      go_wp2_with fail
      refine (HS.out _).mono ?_
      rintro e w1 ⟨rfl, b⟩
      go_wp2_with fail
      refine (HL.out _).mono ?_
      rintro e w2 ⟨rfl, b2⟩
      replace b := below_then b b2
      clear b2
      go_wp2_with fail
      refine (HL.out _).mono ?_
      rintro e w2 ⟨rfl, b2⟩
      replace b := below_then b b2
      clear b2
      go_wp2_with fail
      refine (HM.out _).mono ?_
      rintro e w2 ⟨rfl, b2⟩
      replace b := below_then b b2
      clear b2
      go_wp2_with fail
      go_ret
      exact ⟨ret_bool (by first | rfl | (simp <;> omega)), b⟩
    · have hd : decide ((0 : Int) ≤ v) = false := decide_eq_false h0
      go_enter Try.func90, Try.ntmps90
      go_wp2_with fail
      refine (HS.out _).mono ?_
      rintro e w1 ⟨rfl, b⟩
      go_wp2_with fail
      refine (HL.out _).mono ?_
      rintro e w2 ⟨rfl, b2⟩
      replace b := below_then b b2
      clear b2
      go_wp2_with fail
      go_ret
      exact ⟨ret_bool (by first | rfl | (simp <;> omega)), b⟩
  · rw [show ksize 6 = 2 from rfl] at HS
    rw [show manyK 6 = 65536 by decide] at HM
    rw [show leastK 6 = 0 by decide +kernel] at HL
    rw [isK_6]
    by_cases h0 : (0 : Int) ≤ v
    · go_enter Try.func90, Try.ntmps90
      go_wp2_with fail
      refine (HS.out _).mono ?_
      rintro e w1 ⟨rfl, b⟩
      go_wp2_with fail
      refine (HL.out _).mono ?_
      rintro e w2 ⟨rfl, b2⟩
      replace b := below_then b b2
      clear b2
      go_wp2_with fail
      refine (HL.out _).mono ?_
      rintro e w2 ⟨rfl, b2⟩
      replace b := below_then b b2
      clear b2
      go_wp2_with fail
      refine (HM.out _).mono ?_
      rintro e w2 ⟨rfl, b2⟩
      replace b := below_then b b2
      clear b2
      go_wp2_with fail
      go_ret
      exact ⟨ret_bool (by first | rfl | (simp <;> omega)), b⟩
    · have hd : decide ((0 : Int) ≤ v) = false := decide_eq_false h0
      go_enter Try.func90, Try.ntmps90
      go_wp2_with fail
      refine (HS.out _).mono ?_
      rintro e w1 ⟨rfl, b⟩
      go_wp2_with fail
      refine (HL.out _).mono ?_
      rintro e w2 ⟨rfl, b2⟩
      replace b := below_then b b2
      clear b2
      go_wp2_with fail
      go_ret
      exact ⟨ret_bool (by first | rfl | (simp <;> omega)), b⟩
  · rw [show ksize 7 = 4 from rfl] at HS
    rw [show manyK 7 = 4294967296 by decide] at HM
    rw [show leastK 7 = 0 by decide +kernel] at HL
    rw [isK_7]
    by_cases h0 : (0 : Int) ≤ v
    · go_enter Try.func90, Try.ntmps90
      go_wp2_with fail
      refine (HS.out _).mono ?_
      rintro e w1 ⟨rfl, b⟩
      go_wp2_with fail
      refine (HL.out _).mono ?_
      rintro e w2 ⟨rfl, b2⟩
      replace b := below_then b b2
      clear b2
      go_wp2_with fail
      refine (HL.out _).mono ?_
      rintro e w2 ⟨rfl, b2⟩
      replace b := below_then b b2
      clear b2
      go_wp2_with fail
      refine (HM.out _).mono ?_
      rintro e w2 ⟨rfl, b2⟩
      replace b := below_then b b2
      clear b2
      go_wp2_with fail
      go_ret
      exact ⟨ret_bool (by first | rfl | (simp <;> omega)), b⟩
    · have hd : decide ((0 : Int) ≤ v) = false := decide_eq_false h0
      go_enter Try.func90, Try.ntmps90
      go_wp2_with fail
      refine (HS.out _).mono ?_
      rintro e w1 ⟨rfl, b⟩
      go_wp2_with fail
      refine (HL.out _).mono ?_
      rintro e w2 ⟨rfl, b2⟩
      replace b := below_then b b2
      clear b2
      go_wp2_with fail
      go_ret
      exact ⟨ret_bool (by first | rfl | (simp <;> omega)), b⟩
  · rw [ksize_out ho] at HS
    rw [isK_out ho]
    go_enter Try.func90, Try.ntmps90
    go_wp2_with fail
    refine (HS.out _).mono ?_
    rintro e w1 ⟨rfl, b⟩
    go_wp2_with fail
    go_ret
    exact ⟨rfl, b⟩
set_option maxRecDepth 100000 in
set_option maxHeartbeats 4000000 in
theorem rwrap_any (k v : Int) (w : World) (hv : (Lit.int .i64 v).wf = true) : Calls Try.prog 69 #[.int .i64 k, .int .i64 v] w fun e w' => e = .returned (.int .i64 (wrapK k v)) ∧ Below w.heap.size w w' := by
  have HS := Lib.hid (fun W => rsize_any k W)
  have HM := Lib.hid (fun W => many_any k W)
  have HL := Lib.hid (fun W => least_any k W)
  rcases kcases k with rfl | rfl | rfl | rfl | rfl | rfl | rfl | ho
  · rw [show ksize 1 = 1 from rfl] at HS
    rw [show manyK 1 = 2 by decide] at HM
    rw [show leastK 1 = 0 by decide +kernel] at HL
    by_cases h0 : v = 0
    · subst h0
      go_enter Try.func69, Try.ntmps69
      go_wp2_with fail
      refine (HS.out _).mono ?_
      rintro e w1 ⟨rfl, b⟩
      go_wp2_with fail
      go_ret
      exact ⟨rfl, b⟩
    · have hd : (v == 0) = false := by simpa using h0
      rw [show wrapK 1 v = 1 by unfold wrapK; rw [if_pos rfl, if_neg h0]]
      go_enter Try.func69, Try.ntmps69
      go_wp2_with fail
      refine (HS.out _).mono ?_
      rintro e w1 ⟨rfl, b⟩
      go_wp2_with fail
      go_ret
      exact ⟨rfl, b⟩
  · rw [show ksize 2 = 1 from rfl] at HS
    rw [show manyK 2 = 256 by decide] at HM
    rw [show leastK 2 = -128 by decide +kernel] at HL
    rw [show wrapK 2 v = IntKind.i8.wrap v from rfl, wrap_i8']
    have hm := tmod_wrap v 256 (by decide)
    have q1 := Int.lt_tmod_of_pos v (show (0 : Int) < 256 by decide)
    have q2 := Int.tmod_lt_of_pos v (show (0 : Int) < 256 by decide)
    clear hv
    by_cases hb : 127 < v % 256
    · go_enter Try.func69, Try.ntmps69
      go_wp2_with fail
      refine (HS.out _).mono ?_
      rintro e w1 ⟨rfl, b⟩
      go_wp2_with fail
      refine (HM.out _).mono ?_
      rintro e w2 ⟨rfl, b2⟩
      replace b := below_then b b2
      clear b2
      go_wp2_with fail
      refine (HL.out _).mono ?_
      rintro e w2 ⟨rfl, b2⟩
      replace b := below_then b b2
      clear b2
      go_wp2_with fail
      go_ret
      exact ⟨ret_int (by omega), b⟩
    · go_enter Try.func69, Try.ntmps69
      go_wp2_with fail
      refine (HS.out _).mono ?_
      rintro e w1 ⟨rfl, b⟩
      go_wp2_with fail
      refine (HM.out _).mono ?_
      rintro e w2 ⟨rfl, b2⟩
      replace b := below_then b b2
      clear b2
      go_wp2_with fail
      refine (HL.out _).mono ?_
      rintro e w2 ⟨rfl, b2⟩
      replace b := below_then b b2
      clear b2
      go_wp2_with fail
      go_ret
      exact ⟨ret_int (by omega), b⟩
  · rw [show ksize 3 = 2 from rfl] at HS
    rw [show manyK 3 = 65536 by decide] at HM
    rw [show leastK 3 = -32768 by decide +kernel] at HL
    rw [show wrapK 3 v = IntKind.i16.wrap v from rfl, wrap_i16']
    have hm := tmod_wrap v 65536 (by decide)
    have q1 := Int.lt_tmod_of_pos v (show (0 : Int) < 65536 by decide)
    have q2 := Int.tmod_lt_of_pos v (show (0 : Int) < 65536 by decide)
    clear hv
    by_cases hb : 32767 < v % 65536
    · go_enter Try.func69, Try.ntmps69
      go_wp2_with fail
      refine (HS.out _).mono ?_
      rintro e w1 ⟨rfl, b⟩
      go_wp2_with fail
      refine (HM.out _).mono ?_
      rintro e w2 ⟨rfl, b2⟩
      replace b := below_then b b2
      clear b2
      go_wp2_with fail
      refine (HL.out _).mono ?_
      rintro e w2 ⟨rfl, b2⟩
      replace b := below_then b b2
      clear b2
      go_wp2_with fail
      go_ret
      exact ⟨ret_int (by omega), b⟩
    · go_enter Try.func69, Try.ntmps69
      go_wp2_with fail
      refine (HS.out _).mono ?_
      rintro e w1 ⟨rfl, b⟩
      go_wp2_with fail
      refine (HM.out _).mono ?_
      rintro e w2 ⟨rfl, b2⟩
      replace b := below_then b b2
      clear b2
      go_wp2_with fail
      refine (HL.out _).mono ?_
      rintro e w2 ⟨rfl, b2⟩
      replace b := below_then b b2
      clear b2
      go_wp2_with fail
      go_ret
      exact ⟨ret_int (by omega), b⟩
  · rw [show ksize 4 = 4 from rfl] at HS
    rw [show manyK 4 = 4294967296 by decide] at HM
    rw [show leastK 4 = -2147483648 by decide +kernel] at HL
    rw [show wrapK 4 v = IntKind.i32.wrap v from rfl, IntKind.wrap_i32]
    have hm := tmod_wrap v 4294967296 (by decide)
    have q1 := Int.lt_tmod_of_pos v (show (0 : Int) < 4294967296 by decide)
    have q2 := Int.tmod_lt_of_pos v (show (0 : Int) < 4294967296 by decide)
    clear hv
    by_cases hb : 2147483647 < v % 4294967296
    · go_enter Try.func69, Try.ntmps69
      go_wp2_with fail
      refine (HS.out _).mono ?_
      rintro e w1 ⟨rfl, b⟩
      go_wp2_with fail
      refine (HM.out _).mono ?_
      rintro e w2 ⟨rfl, b2⟩
      replace b := below_then b b2
      clear b2
      go_wp2_with fail
      refine (HL.out _).mono ?_
      rintro e w2 ⟨rfl, b2⟩
      replace b := below_then b b2
      clear b2
      go_wp2_with fail
      go_ret
      exact ⟨ret_int (by omega), b⟩
    · go_enter Try.func69, Try.ntmps69
      go_wp2_with fail
      refine (HS.out _).mono ?_
      rintro e w1 ⟨rfl, b⟩
      go_wp2_with fail
      refine (HM.out _).mono ?_
      rintro e w2 ⟨rfl, b2⟩
      replace b := below_then b b2
      clear b2
      go_wp2_with fail
      refine (HL.out _).mono ?_
      rintro e w2 ⟨rfl, b2⟩
      replace b := below_then b b2
      clear b2
      go_wp2_with fail
      go_ret
      exact ⟨ret_int (by omega), b⟩
  · rw [show ksize 5 = 2 from rfl] at HS
    rw [show manyK 5 = 65536 by decide] at HM
    rw [show leastK 5 = 0 by decide +kernel] at HL
    rw [show wrapK 5 v = IntKind.u16.wrap v from rfl, IntKind.wrap_u16]
    have hm := tmod_wrap v 65536 (by decide)
    have q1 := Int.lt_tmod_of_pos v (show (0 : Int) < 65536 by decide)
    have q2 := Int.tmod_lt_of_pos v (show (0 : Int) < 65536 by decide)
    clear hv
    by_cases hb : 65535 < v % 65536
    · exact absurd hb (by omega)
    · go_enter Try.func69, Try.ntmps69
      go_wp2_with fail
      refine (HS.out _).mono ?_
      rintro e w1 ⟨rfl, b⟩
      go_wp2_with fail
      refine (HM.out _).mono ?_
      rintro e w2 ⟨rfl, b2⟩
      replace b := below_then b b2
      clear b2
      go_wp2_with fail
      refine (HL.out _).mono ?_
      rintro e w2 ⟨rfl, b2⟩
      replace b := below_then b b2
      clear b2
      go_wp2_with fail
      go_ret
      exact ⟨ret_int (by omega), b⟩
  · rw [show ksize 6 = 2 from rfl] at HS
    rw [show manyK 6 = 65536 by decide] at HM
    rw [show leastK 6 = 0 by decide +kernel] at HL
    rw [show wrapK 6 v = IntKind.u16.wrap v from rfl, IntKind.wrap_u16]
    have hm := tmod_wrap v 65536 (by decide)
    have q1 := Int.lt_tmod_of_pos v (show (0 : Int) < 65536 by decide)
    have q2 := Int.tmod_lt_of_pos v (show (0 : Int) < 65536 by decide)
    clear hv
    by_cases hb : 65535 < v % 65536
    · exact absurd hb (by omega)
    · go_enter Try.func69, Try.ntmps69
      go_wp2_with fail
      refine (HS.out _).mono ?_
      rintro e w1 ⟨rfl, b⟩
      go_wp2_with fail
      refine (HM.out _).mono ?_
      rintro e w2 ⟨rfl, b2⟩
      replace b := below_then b b2
      clear b2
      go_wp2_with fail
      refine (HL.out _).mono ?_
      rintro e w2 ⟨rfl, b2⟩
      replace b := below_then b b2
      clear b2
      go_wp2_with fail
      go_ret
      exact ⟨ret_int (by omega), b⟩
  · rw [show ksize 7 = 4 from rfl] at HS
    rw [show manyK 7 = 4294967296 by decide] at HM
    rw [show leastK 7 = 0 by decide +kernel] at HL
    rw [show wrapK 7 v = IntKind.u32.wrap v from rfl, IntKind.wrap_u32]
    have hm := tmod_wrap v 4294967296 (by decide)
    have q1 := Int.lt_tmod_of_pos v (show (0 : Int) < 4294967296 by decide)
    have q2 := Int.tmod_lt_of_pos v (show (0 : Int) < 4294967296 by decide)
    clear hv
    by_cases hb : 4294967295 < v % 4294967296
    · exact absurd hb (by omega)
    · go_enter Try.func69, Try.ntmps69
      go_wp2_with fail
      refine (HS.out _).mono ?_
      rintro e w1 ⟨rfl, b⟩
      go_wp2_with fail
      refine (HM.out _).mono ?_
      rintro e w2 ⟨rfl, b2⟩
      replace b := below_then b b2
      clear b2
      go_wp2_with fail
      refine (HL.out _).mono ?_
      rintro e w2 ⟨rfl, b2⟩
      replace b := below_then b b2
      clear b2
      go_wp2_with fail
      go_ret
      exact ⟨ret_int (by omega), b⟩
  · rw [ksize_out ho] at HS
    rw [wrapK_out ho]
    go_enter Try.func69, Try.ntmps69
    go_wp2_with fail
    refine (HS.out _).mono ?_
    rintro e w1 ⟨rfl, b⟩
    go_wp2_with fail
    go_ret
    exact ⟨rfl, b⟩
set_option maxRecDepth 100000 in
set_option maxHeartbeats 8000000 in
theorem rnot_any (k v : Int) (w : World) (hv : (Lit.int .i64 v).wf = true) : Calls Try.prog 73 #[.int .i64 k, .int .i64 v] w fun e w' => e = .returned (.int .i64 (notK k v)) ∧ Below w.heap.size w w' := by
  have HI := Lib.hid (fun W => ris_any k v W hv)
  have HM := Lib.hid (fun W => many_any k W)
  by_cases hm : mayK 13 k = true
  · cases hi : isK k v with
    | false =>
      rw [hi] at HI
      unfold notK
      rw [if_neg (by rw [hi]; simp)]
      have hk := may13 hm
      clear hm hi hv
      rcases hk with rfl | rfl | rfl
      all_goals
        go_enter Try.func73, Try.ntmps73
        go_wp2_with fail
        refine (HI.out _).mono ?_
        rintro e w1 ⟨rfl, b⟩
        go_wp2_with fail
        go_ret
        exact ⟨rfl, b⟩
    | true =>
      have hr := may13_range hm hi
      have hq := isK_eq hi
      have hn : notK k v = manyK k - 1 - v := by
        unfold notK
        rw [if_pos ⟨hm, hi⟩]
        rcases may13 hm with rfl | rfl | rfl
        · rw [if_pos rfl, show manyK 1 = 2 from rfl]; omega
        · rw [if_neg (by decide), show manyK 6 = 65536 by decide, show wrapK 6 (-v - 1) = IntKind.u16.wrap (-v - 1) from rfl, IntKind.wrap_u16]
          rw [show wrapK 6 v = IntKind.u16.wrap v from rfl, IntKind.wrap_u16] at hq
          omega
        · rw [if_neg (by decide), show manyK 7 = 4294967296 by decide, show wrapK 7 (-v - 1) = IntKind.u32.wrap (-v - 1) from rfl, IntKind.wrap_u32]
          rw [show wrapK 7 v = IntKind.u32.wrap v from rfl, IntKind.wrap_u32] at hq
          omega
      rw [hi] at HI
      rw [hn]
      have hk := may13 hm
      clear hm hi hv hq hn
      have hM : 0 ≤ manyK k ∧ manyK k ≤ 4294967296 := by
        rcases hk with rfl | rfl | rfl <;> decide
      generalize manyK k = M at *
      rcases hk with rfl | rfl | rfl
      all_goals
        go_enter Try.func73, Try.ntmps73
        go_wp2_with fail
        refine (HI.out _).mono ?_
        rintro e w1 ⟨rfl, b⟩
        go_wp2_with fail
        refine (HM.out _).mono ?_
        rintro e w2 ⟨rfl, b2⟩
        replace b := below_then b b2
        go_wp2_with fail
        go_ret
        exact ⟨ret_int (by first | omega | (simp only [wrap64, IntKind.wrap_i64]; omega)), b⟩
  · have hn : notK k v = 0 := by unfold notK; rw [if_neg (fun h => hm h.1)]
    rw [hn]
    by_cases h7 : 7 < k
    · rw [isK_out (.inr h7)] at HI
      clear hm hn hv
      have h1 : (k == 1) = false := by simp; omega
      have h2 : decide (k < 6) = false := decide_eq_false (by omega)
      go_enter Try.func73, Try.ntmps73
      go_wp2_with fail
      refine (HI.out _).mono ?_
      rintro e w1 ⟨rfl, b⟩
      go_wp2_with fail
      go_ret
      exact ⟨rfl, b⟩
    · have h1 : (k == 1) = false := by
        simp
        rintro rfl
        exact hm rfl
      have h6 : k < 6 := by
        by_cases h : k < 6
        · exact h
        · exfalso
          have : k = 6 ∨ k = 7 := by omega
          rcases this with rfl | rfl <;> exact hm rfl
      have hk1 : k ≠ 1 := by simpa using h1
      clear hm hn hv
      go_enter Try.func73, Try.ntmps73
      go_wp2_with fail
      go_ret
      exact ⟨rfl, Below.refl _ _⟩
set_option maxRecDepth 100000 in
set_option maxHeartbeats 8000000 in
theorem rmay_any (op k : Int) (w : World) : Calls Try.prog 75 #[.int .i64 op, .int .i64 k] w fun e w' => e = .returned (.bool (mayK op k)) ∧ Below w.heap.size w w' := by
  have HS := Lib.hid (fun W => rsize_any k W)
  have hc : op < 7 ∨ (7 ≤ op ∧ op ≤ 13) ∨ (14 ≤ op ∧ op ≤ 18) ∨ (19 ≤ op ∧ op ≤ 24) ∨ 24 < op := by omega
  rcases kcases k with rfl | rfl | rfl | rfl | rfl | rfl | rfl | ho
  · rw [show ksize 1 = 1 from rfl] at HS
    rw [show mayK op 1 = (if 7 ≤ op ∧ op ≤ 13 then true else if 14 ≤ op ∧ op ≤ 18 then !true else if 19 ≤ op ∧ op ≤ 24 then true else false) from rfl]
    rcases hc with hc | hc | hc | hc | hc
    all_goals
      repeat first | rw [if_neg (by omega)] | rw [if_pos hc]
      go_enter Try.func75, Try.ntmps75
      go_wp2_with fail
      refine (HS.out _).mono ?_
      rintro e w1 ⟨rfl, b⟩
      go_wp2_with fail
      go_ret
      exact ⟨ret_bool (by first | rfl | (simp <;> omega)), b⟩
  · rw [show ksize 2 = 1 from rfl] at HS
    rw [show mayK op 2 = (if 7 ≤ op ∧ op ≤ 13 then false else if 14 ≤ op ∧ op ≤ 18 then !false else if 19 ≤ op ∧ op ≤ 24 then true else false) from rfl]
    rcases hc with hc | hc | hc | hc | hc
    all_goals
      repeat first | rw [if_neg (by omega)] | rw [if_pos hc]
      go_enter Try.func75, Try.ntmps75
      go_wp2_with fail
      refine (HS.out _).mono ?_
      rintro e w1 ⟨rfl, b⟩
      go_wp2_with fail
      go_ret
      exact ⟨ret_bool (by first | rfl | (simp <;> omega)), b⟩
  · rw [show ksize 3 = 2 from rfl] at HS
    rw [show mayK op 3 = (if 7 ≤ op ∧ op ≤ 13 then false else if 14 ≤ op ∧ op ≤ 18 then !false else if 19 ≤ op ∧ op ≤ 24 then true else false) from rfl]
    rcases hc with hc | hc | hc | hc | hc
    all_goals
      repeat first | rw [if_neg (by omega)] | rw [if_pos hc]
      go_enter Try.func75, Try.ntmps75
      go_wp2_with fail
      refine (HS.out _).mono ?_
      rintro e w1 ⟨rfl, b⟩
      go_wp2_with fail
      go_ret
      exact ⟨ret_bool (by first | rfl | (simp <;> omega)), b⟩
  · rw [show ksize 4 = 4 from rfl] at HS
    rw [show mayK op 4 = (if 7 ≤ op ∧ op ≤ 13 then false else if 14 ≤ op ∧ op ≤ 18 then !false else if 19 ≤ op ∧ op ≤ 24 then true else false) from rfl]
    rcases hc with hc | hc | hc | hc | hc
    all_goals
      repeat first | rw [if_neg (by omega)] | rw [if_pos hc]
      go_enter Try.func75, Try.ntmps75
      go_wp2_with fail
      refine (HS.out _).mono ?_
      rintro e w1 ⟨rfl, b⟩
      go_wp2_with fail
      go_ret
      exact ⟨ret_bool (by first | rfl | (simp <;> omega)), b⟩
  · rw [show ksize 5 = 2 from rfl] at HS
    rw [show mayK op 5 = (if 7 ≤ op ∧ op ≤ 13 then false else if 14 ≤ op ∧ op ≤ 18 then !false else if 19 ≤ op ∧ op ≤ 24 then true else false) from rfl]
    rcases hc with hc | hc | hc | hc | hc
    all_goals
      repeat first | rw [if_neg (by omega)] | rw [if_pos hc]
      go_enter Try.func75, Try.ntmps75
      go_wp2_with fail
      refine (HS.out _).mono ?_
      rintro e w1 ⟨rfl, b⟩
      go_wp2_with fail
      go_ret
      exact ⟨ret_bool (by first | rfl | (simp <;> omega)), b⟩
  · rw [show ksize 6 = 2 from rfl] at HS
    rw [show mayK op 6 = (if 7 ≤ op ∧ op ≤ 13 then true else if 14 ≤ op ∧ op ≤ 18 then !true else if 19 ≤ op ∧ op ≤ 24 then true else false) from rfl]
    rcases hc with hc | hc | hc | hc | hc
    all_goals
      repeat first | rw [if_neg (by omega)] | rw [if_pos hc]
      go_enter Try.func75, Try.ntmps75
      go_wp2_with fail
      refine (HS.out _).mono ?_
      rintro e w1 ⟨rfl, b⟩
      go_wp2_with fail
      go_ret
      exact ⟨ret_bool (by first | rfl | (simp <;> omega)), b⟩
  · rw [show ksize 7 = 4 from rfl] at HS
    rw [show mayK op 7 = (if 7 ≤ op ∧ op ≤ 13 then true else if 14 ≤ op ∧ op ≤ 18 then !true else if 19 ≤ op ∧ op ≤ 24 then true else false) from rfl]
    rcases hc with hc | hc | hc | hc | hc
    all_goals
      repeat first | rw [if_neg (by omega)] | rw [if_pos hc]
      go_enter Try.func75, Try.ntmps75
      go_wp2_with fail
      refine (HS.out _).mono ?_
      rintro e w1 ⟨rfl, b⟩
      go_wp2_with fail
      go_ret
      exact ⟨ret_bool (by first | rfl | (simp <;> omega)), b⟩
  · rw [ksize_out ho] at HS
    have hm : mayK op k = false := by unfold mayK; rw [kok_out ho]; rfl
    rw [hm]
    clear hm hc
    go_enter Try.func75, Try.ntmps75
    go_wp2_with fail
    all_goals
      refine (HS.out _).mono ?_
      rintro e w1 ⟨rfl, b⟩
      go_wp2_with fail
      go_ret
      exact ⟨rfl, b⟩
end Go.Proofs.Ytdhfkcodacmbfaa
