/- The walks of the laws of crc: awake, CrcSums: for every input. -/
import Derived.Test.YtdhfkcodacmbfaaCrcC
set_option linter.unusedVariables false
set_option linter.unusedSimpArgs false
namespace Go.Proofs.Ytdhfkcodacmbfaa
open Go.RowKit
theorem wf_u16 {n : Int} (h : (Lit.int .u16 n).wf = true) : 0 ≤ n ∧ n < 65536 := by
  have h' : IntKind.u16.min ≤ n ∧ n ≤ IntKind.u16.max := by simpa [Lit.wf] using h
  have e1 : IntKind.u16.min = 0 := by decide
  have e2 : IntKind.u16.max = 65535 := by decide
  omega
theorem c_seal : sealS ⟨#[97, 98]⟩ = ⟨#[97, 98, 105, 240]⟩ := by decide +kernel
theorem c_zero : (moreI 65535 (ByteArray.mk #[97, 98, 105, 240]).data.toList != 0) = false := by decide +kernel
theorem c_cut : (ByteArray.mk #[97, 98, 105, 240]).extract 0 ((ByteArray.mk #[97, 98, 105, 240]).size - 2) = ⟨#[97, 98]⟩ := by decide +kernel
theorem c_sum : moreI 65535 (ByteArray.mk #[49, 50, 51, 52, 53, 54, 55, 56, 57]).data.toList = 10673 := by decide +kernel
theorem c_burst : burstS ⟨#[0]⟩ 0 32768 = ⟨#[128]⟩ := by decide +kernel
theorem awake_any (w : World) : Calls Try.prog 24 #[] w fun e w' => e = .returned (.bool true) ∧ Below w.heap.size w w' := by
  have h1 := fun w => sealed_any ⟨#[97, 98]⟩ w (by decide)
  rw [c_seal] at h1
  have h2 := fun w => open_yes ⟨#[97, 98, 105, 240]⟩ w (by decide) (by decide) c_zero
  rw [c_cut] at h2
  have h3 := fun w => sum_any ⟨#[49, 50, 51, 52, 53, 54, 55, 56, 57]⟩ w (by decide)
  rw [c_sum] at h3
  have h4 := fun w => burst_in ⟨#[0]⟩ 0 32768 w (by decide) (by decide) (by decide) (by decide)
  rw [c_burst] at h4
  go_enter Try.func24, Try.ntmps24
  go_wp2_with fail
  refine (h1 _).mono ?_
  rintro e w1 ⟨rfl, b1⟩
  go_wp2_with fail
  refine (h2 _).mono ?_
  rintro e w1' ⟨rfl, rfl⟩
  go_wp2_with fail
  refine (h3 _).mono ?_
  rintro e w1' ⟨rfl, rfl⟩
  go_wp2_with fail
  refine (h4 _).mono ?_
  rintro e w2 ⟨rfl, b2⟩
  go_wp2_with fail
  go_ret
  exact ⟨rfl, below_lift b1 b2 b1.size⟩
theorem sums_any (s : ByteArray) (n : Int) (w : World) (h0 : 0 ≤ n) (h1 : n < 65536) (hs : s.size ≤ 9223372036854775807) :
    Calls Try.prog 3 #[.string s, .int .u16 n] w fun e w' => e = .returned (.bool true) ∧ Below w.heap.size w w' := by
  by_cases h : s.size ≤ 3000
  · have hs : s.size ≤ 1000000 := by omega
    go_enter Try.func3, Try.ntmps3
    go_wp2_with (first
      | (go_at_call 24; refine (awake_any _).mono ?_; rintro e w1 ⟨rfl, b1⟩)
      | (go_at_call 25; refine (sum_any _ _ hs).mono ?_; rintro e w' ⟨rfl, rfl⟩)
      | (go_at_call 26; refine (refsum_any _ _ hs).mono ?_; rintro e w' ⟨rfl, rfl⟩)
      | (go_at_call 27; refine (more_any _ _ _ hs).mono ?_; rintro e w' ⟨rfl, rfl⟩)
      | (go_at_call 28; refine (refmore_any _ _ _ hs h0 h1).mono ?_; rintro e w' ⟨rfl, rfl⟩))
    go_ret
    exact ⟨rfl, b1⟩
  · have h' : 3000 < s.size := by omega
    go_enter Try.func3, Try.ntmps3
    go_wp2_with (go_at_call 24; refine (awake_any _).mono ?_; rintro e w1 ⟨rfl, b1⟩)
    go_ret
    exact ⟨rfl, b1⟩
theorem crcSums_walk (s : ByteArray) (n : Int) (w : World) (ws : s.size ≤ maxLen) (wn : (Lit.int .u16 n).wf = true) :
    Calls Try.prog 3 #[.string s, .int .u16 n] w fun e w' => e = .returned (.bool true) ∧ Below w.heap.size w w' :=
  sums_any s n w (wf_u16 wn).1 (wf_u16 wn).2 ws
end Go.Proofs.Ytdhfkcodacmbfaa
