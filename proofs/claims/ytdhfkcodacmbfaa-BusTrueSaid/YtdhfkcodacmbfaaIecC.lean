/- The kinds of values (iec): size, name, wrap, is, may, not. -/
import Derived.Test.YtdhfkcodacmbfaaIecB
set_option linter.unusedVariables false
set_option linter.unusedSimpArgs false
namespace Go.Proofs.Ytdhfkcodacmbfaa
open Go.RowKit

theorem wrap_i8' (n : Int) : IntKind.i8.wrap n = (n + 128) % 256 - 128 := by
  simp [IntKind.wrap, IntKind.bits, IntKind.signed]
  split <;> omega
theorem wrap_i16' (n : Int) : IntKind.i16.wrap n = (n + 32768) % 65536 - 32768 := by
  simp [IntKind.wrap, IntKind.bits, IntKind.signed]
  split <;> omega
theorem wrap_i32' (n : Int) : wrap32 n = IntKind.i32.wrap n := by rw [IntKind.wrap_i32, wrap32]
theorem wrap_i64' (n : Int) : wrap64 n = IntKind.i64.wrap n := by rw [IntKind.wrap_i64, wrap64]
theorem ksize_range (k : Int) : 0 ≤ ksize k ∧ ksize k ≤ 4 := by
  rcases kcases k with rfl | rfl | rfl | rfl | rfl | rfl | rfl | ho
  all_goals first | (rw [ksize_out ho]; decide) | decide
set_option maxRecDepth 100000 in
theorem size_any (k : Int) (w : World) : Calls Try.prog 81 #[.int .i64 k] w fun e w' => e = .returned (.int .i64 (ksize k)) ∧ Below w.heap.size w w' := by
  have H := Lib.hid (fun W => of_any k W)
  unfold kagg at H
  go_enter Try.func81, Try.ntmps81
  go_wp2_with fail
  refine (H.out _).mono ?_
  rintro e w1 ⟨rfl, b⟩
  go_wp2_with fail
  go_ret
  exact ⟨rfl, b.alloc b.size _⟩
set_option maxRecDepth 100000 in
theorem name_any (k : Int) (w : World) : Calls Try.prog 89 #[.int .i64 k] w fun e w' => e = .returned (.string (kname k)) ∧ Below w.heap.size w w' := by
  have H := Lib.hid (fun W => of_any k W)
  unfold kagg at H
  go_enter Try.func89, Try.ntmps89
  go_wp2_with fail
  refine (H.out _).mono ?_
  rintro e w1 ⟨rfl, b⟩
  go_wp2_with fail
  go_ret
  exact ⟨rfl, b.alloc b.size _⟩
def wrapK (k v : Int) : Int :=
  if k = 1 then (if v = 0 then 0 else 1) else if k = 2 then IntKind.i8.wrap v else if k = 3 then IntKind.i16.wrap v else if k = 4 then IntKind.i32.wrap v else if k = 5 then IntKind.u16.wrap v
  else if k = 6 then IntKind.u16.wrap v else if k = 7 then IntKind.u32.wrap v else 0
theorem wrapK_out {k : Int} (h : k < 1 ∨ 7 < k) (v : Int) : wrapK k v = 0 := by
  unfold wrapK; repeat' rw [if_neg (by omega)]
set_option maxRecDepth 100000 in
theorem wrap_any (k v : Int) (w : World) (hv : (Lit.int .i64 v).wf = true) : Calls Try.prog 82 #[.int .i64 k, .int .i64 v] w fun e w' => e = .returned (.int .i64 (wrapK k v)) ∧ Below w.heap.size w w' := by
  have H := Lib.hid (fun W => of_any k W)
  rcases kcases k with rfl | rfl | rfl | rfl | rfl | rfl | rfl | ho
  · rw [show kagg 1 = #[.string ⟨#[66, 79, 79, 76]⟩, .int .i64 1, .bool false, .bool true] from rfl, show kok 1 = true from rfl] at H
    by_cases h0 : v = 0
    · subst h0
      go_enter Try.func82, Try.ntmps82
      go_wp2_with fail
      refine (H.out _).mono ?_
      rintro e w1 ⟨rfl, b⟩
      go_wp2_with fail
      go_ret
      exact ⟨rfl, b.alloc b.size _⟩
    · have hd : (v == 0) = false := by simpa using h0
      rw [show wrapK 1 v = 1 by unfold wrapK; rw [if_pos rfl, if_neg h0]]
      go_enter Try.func82, Try.ntmps82
      go_wp2_with fail
      refine (H.out _).mono ?_
      rintro e w1 ⟨rfl, b⟩
      go_wp2_with fail
      go_ret
      exact ⟨rfl, b.alloc b.size _⟩
  · rw [show kagg 2 = #[.string ⟨#[83, 73, 78, 84]⟩, .int .i64 1, .bool true, .bool false] from rfl, show kok 2 = true from rfl] at H
    rw [show wrapK 2 v = IntKind.i8.wrap v from rfl]
    have hw : IntKind.i64.wrap (IntKind.i8.wrap v) = IntKind.i8.wrap v := by simp only [IntKind.wrap_i64, wrap_i8']; omega
    go_enter Try.func82, Try.ntmps82
    go_wp2_with fail
    refine (H.out _).mono ?_
    rintro e w1 ⟨rfl, b⟩
    go_wp2_with fail
    go_ret
    exact ⟨ret_int (by first | rfl | exact hw | (simp only [wrap_i64', wrap_i32']; exact hw)), b.alloc b.size _⟩
  · rw [show kagg 3 = #[.string ⟨#[73, 78, 84]⟩, .int .i64 2, .bool true, .bool false] from rfl, show kok 3 = true from rfl] at H
    rw [show wrapK 3 v = IntKind.i16.wrap v from rfl]
    have hw : IntKind.i64.wrap (IntKind.i16.wrap v) = IntKind.i16.wrap v := by simp only [IntKind.wrap_i64, wrap_i16']; omega
    go_enter Try.func82, Try.ntmps82
    go_wp2_with fail
    refine (H.out _).mono ?_
    rintro e w1 ⟨rfl, b⟩
    go_wp2_with fail
    go_ret
    exact ⟨ret_int (by first | rfl | exact hw | (simp only [wrap_i64', wrap_i32']; exact hw)), b.alloc b.size _⟩
  · rw [show kagg 4 = #[.string ⟨#[68, 73, 78, 84]⟩, .int .i64 4, .bool true, .bool false] from rfl, show kok 4 = true from rfl] at H
    rw [show wrapK 4 v = IntKind.i32.wrap v from rfl]
    have hw : IntKind.i64.wrap (IntKind.i32.wrap v) = IntKind.i32.wrap v := by simp only [IntKind.wrap_i64, IntKind.wrap_i32]; omega
    go_enter Try.func82, Try.ntmps82
    go_wp2_with fail
    refine (H.out _).mono ?_
    rintro e w1 ⟨rfl, b⟩
    go_wp2_with fail
    go_ret
    exact ⟨ret_int (by first | rfl | exact hw | (simp only [wrap_i64', wrap_i32']; exact hw)), b.alloc b.size _⟩
  · rw [show kagg 5 = #[.string ⟨#[85, 73, 78, 84]⟩, .int .i64 2, .bool false, .bool false] from rfl, show kok 5 = true from rfl] at H
    rw [show wrapK 5 v = IntKind.u16.wrap v from rfl]
    have hw : IntKind.i64.wrap (IntKind.u16.wrap v) = IntKind.u16.wrap v := by simp only [IntKind.wrap_i64, IntKind.wrap_u16]; omega
    go_enter Try.func82, Try.ntmps82
    go_wp2_with fail
    refine (H.out _).mono ?_
    rintro e w1 ⟨rfl, b⟩
    go_wp2_with fail
    go_ret
    exact ⟨ret_int (by first | rfl | exact hw | (simp only [wrap_i64', wrap_i32']; exact hw)), b.alloc b.size _⟩
  · rw [show kagg 6 = #[.string ⟨#[87, 79, 82, 68]⟩, .int .i64 2, .bool false, .bool true] from rfl, show kok 6 = true from rfl] at H
    rw [show wrapK 6 v = IntKind.u16.wrap v from rfl]
    have hw : IntKind.i64.wrap (IntKind.u16.wrap v) = IntKind.u16.wrap v := by simp only [IntKind.wrap_i64, IntKind.wrap_u16]; omega
    go_enter Try.func82, Try.ntmps82
    go_wp2_with fail
    refine (H.out _).mono ?_
    rintro e w1 ⟨rfl, b⟩
    go_wp2_with fail
    go_ret
    exact ⟨ret_int (by first | rfl | exact hw | (simp only [wrap_i64', wrap_i32']; exact hw)), b.alloc b.size _⟩
  · rw [show kagg 7 = #[.string ⟨#[68, 87, 79, 82, 68]⟩, .int .i64 4, .bool false, .bool true] from rfl, show kok 7 = true from rfl] at H
    rw [show wrapK 7 v = IntKind.u32.wrap v from rfl]
    have hw : IntKind.i64.wrap (IntKind.u32.wrap v) = IntKind.u32.wrap v := by simp only [IntKind.wrap_i64, IntKind.wrap_u32]; omega
    go_enter Try.func82, Try.ntmps82
    go_wp2_with fail
    refine (H.out _).mono ?_
    rintro e w1 ⟨rfl, b⟩
    go_wp2_with fail
    go_ret
    exact ⟨ret_int (by first | rfl | exact hw | (simp only [wrap_i64', wrap_i32']; exact hw)), b.alloc b.size _⟩
  · rw [kok_out ho] at H
    rw [wrapK_out ho]
    unfold kagg at H
    go_enter Try.func82, Try.ntmps82
    go_wp2_with fail
    refine (H.out _).mono ?_
    rintro e w1 ⟨rfl, b⟩
    go_wp2_with fail
    go_ret
    exact ⟨rfl, b.alloc b.size _⟩
end Go.Proofs.Ytdhfkcodacmbfaa
