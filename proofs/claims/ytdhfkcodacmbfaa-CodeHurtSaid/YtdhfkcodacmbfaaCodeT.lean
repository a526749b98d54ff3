/- The walk of the law CodeHurt. -/
import Derived.Test.YtdhfkcodacmbfaaCodeP
set_option linter.unusedVariables false
set_option linter.unusedSimpArgs false
namespace Go.Proofs.Ytdhfkcodacmbfaa
open Go.RowKit

set_option maxRecDepth 100000 in
set_option maxHeartbeats 4000000 in
theorem hurt_walk (A : Option Addr) (l : List InstrS) (cap : Nat) (n p c : Int) (w : World) (hI : InsR w A l) (hl : l.length ≤ 9223372036854775807) (wn : (Lit.int .i64 n).wf = true) (wp : (Lit.int .u16 p).wf = true) (wc : (Lit.int .u16 c).wf = true) :
    Calls Try.prog 23 #[.slice A l.length cap, .int .i64 n, .agg #[.int .u16 p, .int .u16 c]] w fun e w' => e = .returned (.bool true) ∧ Below w.heap.size w w' := by
  have HA := Lib.hid (fun W => cawake_any W)
  have HE := Lib.hid (fun W (hW : InsR W A l) => encode_any A l cap W hW hl)
  have hbel := (Below.refl w.heap.size w).alloc (Nat.le_refl _) (.cells #[.int .u16 p, .int .u16 c] 129)
  have HI := Lib.hid (hI.keep hbel)
  have hX := Blk.new w #[.int .u16 p, .int .u16 c] 129
  have HB := Lib.hid hbel
  obtain ⟨p0, p1⟩ := wf_u16 wp
  obtain ⟨c0, c1⟩ := wf_u16 wc
  unfold encS at HE
  clear hI hbel wp wc
  by_cases h100 : l.length ≤ 100
  · have h100' : ¬ (100 : Int) < (l.length : Int) := by omega
    by_cases h0 : codeE l = 0
    · rw [h0] at HE
      rw [if_pos rfl] at HE
      have hz := plain_size l
      have hzt : (sealS (plainS l)).size = l.length * 8 + 3 := by rw [seal_size, hz]
      have HBu := Lib.hid (fun W => burst_any (sealS (plainS l)) n p W (by omega) p0 p1)
      have hD := fun W => decode_any (burstA (sealS (plainS l)) n p) W (by rw [burstA_size]; omega)
      have hC : ∀ k : Nat, k < (sealS (plainS l)).size → ∀ W, Calls Try.prog 92 #[.string ((sealS (plainS l)).extract 0 k)] W fun e w' => ∃ (B : Option Addr) (c : Nat) (E : Int), e = .returned (.tuple #[.slice B 0 c, .int .i64 E]) ∧ (E != 0) = true ∧ Below W.heap.size W w' := fun k hk W => by
        have h1 := dec_cut (l := l) (by omega) k hk
        refine (decode_any _ W (by rw [ByteArray.size_extract]; omega)).mono ?_
        rintro e w' ⟨B, c, rfl, _, b⟩
        exact ⟨B, c, _, by rw [h1.2]; rfl, by simpa using h1.1, b⟩
      have hC := Lib.hid hC
      by_cases he : burstA (sealS (plainS l)) n p = sealS (plainS l)
      · rw [he] at HBu hD
        rw [dec_enc h0] at hD
        have HD := Lib.hid hD
        have HS := Lib.hid (fun B c W (hI : InsR W A l) (hJ : InsR W B l) => same_any A B l cap c W hI hJ hl)
        clear he h0 hD hz
        generalize sealS (plainS l) = t at *
        have hts : (t.size : Int) = (l.length : Int) * 8 + 3 := by omega
        have hm0 : 0 ≤ c % (t.size : Int) := Int.emod_nonneg _ (by omega)
        have hm1 : c % (t.size : Int) < (t.size : Int) := Int.emod_lt_of_pos _ (by omega)
        have hm2 : c % (t.size : Int) ≤ (t.size : Int) := by omega
        have htp : (0 : Int) < (t.size : Int) := by omega
        have htn : (t.size : Int) ≤ 9223372036854775807 := by omega
        have hto : ((t.size : Int) == 0) = false := by rw [beq_eq_false_iff_ne]; omega
        have hto2 : ¬ (t.size : Int) = 0 := by omega
        clear hzt hts
        go_enter Try.func23, Try.ntmps23
        go_wp2_with fail
        refine (HA.out _).mono ?_
        rintro e w1 ⟨rfl, b⟩
        replace HI := Lib.hid (HI.out.keep b)
        replace hX := hX.keep b
        replace HB := Lib.hid (below_then HB.out b)
        clear b
        go_wp2_with fail
        refine (HE.out _ HI.out).mono ?_
        rintro e w2 ⟨rfl, b⟩
        replace HI := Lib.hid (HI.out.keep b)
        replace hX := hX.keep b
        replace HB := Lib.hid (below_then HB.out b)
        clear b
        have x0 := hX.cell (j := 0) (v := .int .u16 p) rfl
        go_wp2_with fail
        refine (HBu.out _).mono ?_
        rintro e w3 ⟨rfl, b⟩
        replace HI := Lib.hid (HI.out.keep b)
        replace hX := hX.keep b
        replace HB := Lib.hid (below_then HB.out b)
        clear b x0
        go_wp2_with fail
        refine (HD.out _).mono ?_
        rintro e w4 ⟨B, c', rfl, hJ, b⟩
        replace HI := Lib.hid (HI.out.keep b)
        replace hX := hX.keep b
        replace HB := Lib.hid (below_then HB.out b)
        clear b
        go_wp2_with fail
        refine (HS.out _ _ _ HI.out hJ).mono ?_
        rintro e w5 ⟨rfl, b⟩
        replace hX := hX.keep b
        replace HB := Lib.hid (below_then HB.out b)
        clear b
        have x1 := hX.cell (j := 1) (v := .int .u16 c) rfl
        go_wp2_with fail
        refine (hC.out (c % (t.size : Int)).toNat (by omega) _).mono ?_
        rintro e w6 ⟨B', c'', E, rfl, hE, b⟩
        replace HB := Lib.hid (below_then HB.out b)
        clear b
        go_wp2_with fail
        go_ret
        exact ⟨rfl, HB.out⟩
      · rw [dec_burst n p p0 p1 he] at hD
        have he1 : ((burstA (sealS (plainS l)) n p).toList == (sealS (plainS l)).toList) = false := by
          rw [Bool.eq_false_iff]
          intro q
          exact he (toList_inj (by simpa using q))
        have HD := Lib.hid hD
        clear he h0 hD hz
        generalize burstA (sealS (plainS l)) n p = h at *
        generalize sealS (plainS l) = t at *
        have hts : (t.size : Int) = (l.length : Int) * 8 + 3 := by omega
        have hm0 : 0 ≤ c % (t.size : Int) := Int.emod_nonneg _ (by omega)
        have hm1 : c % (t.size : Int) < (t.size : Int) := Int.emod_lt_of_pos _ (by omega)
        have hm2 : c % (t.size : Int) ≤ (t.size : Int) := by omega
        have htp : (0 : Int) < (t.size : Int) := by omega
        have htn : (t.size : Int) ≤ 9223372036854775807 := by omega
        have hto : ((t.size : Int) == 0) = false := by rw [beq_eq_false_iff_ne]; omega
        have hto2 : ¬ (t.size : Int) = 0 := by omega
        clear hzt hts
        go_enter Try.func23, Try.ntmps23
        go_wp2_with fail
        refine (HA.out _).mono ?_
        rintro e w1 ⟨rfl, b⟩
        replace HI := Lib.hid (HI.out.keep b)
        replace hX := hX.keep b
        replace HB := Lib.hid (below_then HB.out b)
        clear b
        go_wp2_with fail
        refine (HE.out _ HI.out).mono ?_
        rintro e w2 ⟨rfl, b⟩
        replace hX := hX.keep b
        replace HB := Lib.hid (below_then HB.out b)
        clear b
        have x0 := hX.cell (j := 0) (v := .int .u16 p) rfl
        go_wp2_with fail
        refine (HBu.out _).mono ?_
        rintro e w3 ⟨rfl, b⟩
        replace hX := hX.keep b
        replace HB := Lib.hid (below_then HB.out b)
        clear b x0
        go_wp2_with fail
        refine (HD.out _).mono ?_
        rintro e w4 ⟨B, c', rfl, hJ, b⟩
        replace hX := hX.keep b
        replace HB := Lib.hid (below_then HB.out b)
        clear b
        have x1 := hX.cell (j := 1) (v := .int .u16 c) rfl
        go_wp2_with fail
        refine (hC.out (c % (t.size : Int)).toNat (by omega) _).mono ?_
        rintro e w6 ⟨B', c'', E, rfl, hE, b⟩
        replace HB := Lib.hid (below_then HB.out b)
        clear b
        go_wp2_with fail
        go_ret
        exact ⟨rfl, HB.out⟩
    · rw [if_neg h0] at HE
      generalize codeE l = E at *
      have h0' : (E != 0) = true := by simpa using h0
      go_enter Try.func23, Try.ntmps23
      go_wp2_with fail
      refine (HA.out _).mono ?_
      rintro e w1 ⟨rfl, b⟩
      replace HI := Lib.hid (HI.out.keep b)
      replace HB := Lib.hid (below_then HB.out b)
      clear b
      go_wp2_with fail
      refine (HE.out _ HI.out).mono ?_
      rintro e w2 ⟨rfl, b⟩
      replace HB := Lib.hid (below_then HB.out b)
      go_wp2_with fail
      go_ret
      exact ⟨rfl, HB.out⟩
  · have h100' : (100 : Int) < (l.length : Int) := by omega
    go_enter Try.func23, Try.ntmps23
    go_wp2_with fail
    refine (HA.out _).mono ?_
    rintro e w1 ⟨rfl, b⟩
    replace HI := Lib.hid (HI.out.keep b)
    replace HB := Lib.hid (below_then HB.out b)
    clear b
    go_wp2_with fail
    refine (HE.out _ HI.out).mono ?_
    rintro e w2 ⟨rfl, b⟩
    replace HB := Lib.hid (below_then HB.out b)
    clear b
    go_wp2_with fail
    all_goals
      go_ret
      exact ⟨rfl, HB.out⟩
end Go.Proofs.Ytdhfkcodacmbfaa
