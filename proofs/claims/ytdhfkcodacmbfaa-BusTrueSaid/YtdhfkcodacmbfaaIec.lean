/- The kinds of values (iec): the walks of small functions. -/
import Derived.Test.YtdhfkcodacmbfaaChg
set_option linter.unusedVariables false
set_option linter.unusedSimpArgs false
namespace Go.Proofs.Ytdhfkcodacmbfaa
open Go.RowKit

def kname (k : Int) : ByteArray :=
  if k = 1 then ⟨#[66, 79, 79, 76]⟩ else if k = 2 then ⟨#[83, 73, 78, 84]⟩ else if k = 3 then ⟨#[73, 78, 84]⟩ else if k = 4 then ⟨#[68, 73, 78, 84]⟩ else if k = 5 then ⟨#[85, 73, 78, 84]⟩
  else if k = 6 then ⟨#[87, 79, 82, 68]⟩ else if k = 7 then ⟨#[68, 87, 79, 82, 68]⟩ else ⟨#[]⟩
def ksize (k : Int) : Int := if k = 1 then 1 else if k = 2 then 1 else if k = 3 then 2 else if k = 4 then 4 else if k = 5 then 2 else if k = 6 then 2 else if k = 7 then 4 else 0
def ksign (k : Int) : Bool := if k = 2 then true else if k = 3 then true else if k = 4 then true else false
def kbits (k : Int) : Bool := if k = 1 then true else if k = 6 then true else if k = 7 then true else false
def kok (k : Int) : Bool := if 1 ≤ k ∧ k ≤ 7 then true else false
theorem kcases (k : Int) : k = 1 ∨ k = 2 ∨ k = 3 ∨ k = 4 ∨ k = 5 ∨ k = 6 ∨ k = 7 ∨ (k < 1 ∨ 7 < k) := by omega
theorem kname_out {k : Int} (h : k < 1 ∨ 7 < k) : kname k = ⟨#[]⟩ := by
  unfold kname; repeat' rw [if_neg (by omega)]
theorem ksize_out {k : Int} (h : k < 1 ∨ 7 < k) : ksize k = 0 := by
  unfold ksize; repeat' rw [if_neg (by omega)]
theorem ksign_out {k : Int} (h : k < 1 ∨ 7 < k) : ksign k = false := by
  unfold ksign; repeat' rw [if_neg (by omega)]
theorem kbits_out {k : Int} (h : k < 1 ∨ 7 < k) : kbits k = false := by
  unfold kbits; repeat' rw [if_neg (by omega)]
theorem kok_out {k : Int} (h : k < 1 ∨ 7 < k) : kok k = false := by
  unfold kok; rw [if_neg (by omega)]
def kcells : Array Value := #[.string ⟨#[]⟩, .int .i64 0, .bool false, .bool false,
  .string ⟨#[66, 79, 79, 76]⟩, .int .i64 1, .bool false, .bool true, .string ⟨#[83, 73, 78, 84]⟩, .int .i64 1, .bool true, .bool false, .string ⟨#[73, 78, 84]⟩, .int .i64 2, .bool true, .bool false,
  .string ⟨#[68, 73, 78, 84]⟩, .int .i64 4, .bool true, .bool false, .string ⟨#[85, 73, 78, 84]⟩, .int .i64 2, .bool false, .bool false, .string ⟨#[87, 79, 82, 68]⟩, .int .i64 2, .bool false, .bool true,
  .string ⟨#[68, 87, 79, 82, 68]⟩, .int .i64 4, .bool false, .bool true]
set_option maxRecDepth 100000 in
theorem kinds_any (w : World) : Calls Try.prog 133 #[] w fun e w' => e = .returned (.slice (some ⟨w.heap.size, 0, none⟩) 8 8) ∧ w' = w.alloc (.cells kcells 164) := by
  go_enter Try.func133, Try.ntmps133
  go_wp2_with fail
  go_ret
  exact ⟨rfl, rfl⟩
end Go.Proofs.Ytdhfkcodacmbfaa
