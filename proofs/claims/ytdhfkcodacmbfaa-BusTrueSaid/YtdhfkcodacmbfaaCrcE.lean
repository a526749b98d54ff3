/- The walks of the laws CrcBursts and CrcFlips: for every input. -/
import Derived.Test.YtdhfkcodacmbfaaCrcD
import Derived.Test.YtdhfkcodacmbfaaCrcText
set_option linter.unusedVariables false
set_option linter.unusedSimpArgs false
namespace Go.Proofs.Ytdhfkcodacmbfaa
open Go.RowKit

theorem wf_i64 {n : Int} (h : (Lit.int .i64 n).wf = true) : -9223372036854775808 ≤ n ∧ n ≤ 9223372036854775807 := by
  have h' : IntKind.i64.min ≤ n ∧ n ≤ IntKind.i64.max := by simpa [Lit.wf] using h
  have e1 : IntKind.i64.min = -9223372036854775808 := by decide
  have e2 : IntKind.i64.max = 9223372036854775807 := by decide
  omega
theorem toList_inj {a b : ByteArray} (h : a.toList = b.toList) : a = b := by
  rw [ByteArray.toList_eq, ByteArray.toList_eq] at h
  exact ByteArray.ext (Array.ext' h)
/-- A text under a burst, wherever. -/
def burstA (s : ByteArray) (n : Int) (p : Int) : ByteArray := if 0 ≤ n ∧ n < 8 * (s.size : Int) then burstS s n.toNat p else s
theorem burst_any (s : ByteArray) (n p : Int) (w : World) (hs : s.size ≤ 1000000) (hp0 : 0 ≤ p) (hp1 : p < 65536) :
    Calls Try.prog 32 #[.string s, .int .i64 n, .int .u16 p] w fun e w' => e = .returned (.string (burstA s n p)) ∧ Below w.heap.size w w' := by
  unfold burstA
  by_cases h : 0 ≤ n ∧ n < 8 * (s.size : Int)
  · rw [if_pos h]
    have e : n = (n.toNat : Int) := by omega
    rw [e]
    exact burst_in s n.toNat p w hs (by omega) hp0 hp1
  · rw [if_neg h]
    exact burst_out s n p w hs (by omega)
theorem refburst_any (s : ByteArray) (n p : Int) (w : World) (hs : s.size ≤ 1000000) (hp0 : 0 ≤ p) (hp1 : p < 65536) :
    Calls Try.prog 33 #[.string s, .int .i64 n, .int .u16 p] w fun e w' => e = .returned (.string (burstA s n p)) ∧ Below w.heap.size w w' := by
  unfold burstA
  by_cases h : 0 ≤ n ∧ n < 8 * (s.size : Int)
  · rw [if_pos h]
    have e : n = (n.toNat : Int) := by omega
    rw [e]
    exact refburst_in s n.toNat p w hs (by omega) hp0 hp1
  · rw [if_neg h]
    exact refburst_out s n p w hs (by omega)
theorem burstA_size (s : ByteArray) (n p : Int) : (burstA s n p).size = s.size := by
  unfold burstA
  split
  · exact burst_size _ _ _
  · rfl
theorem burstA_twice (s : ByteArray) (n p : Int) (hp0 : 0 ≤ p) : burstA (burstA s n p) n p = s := by
  obtain ⟨P, rfl⟩ := Int.eq_ofNat_of_zero_le hp0
  by_cases h : 0 ≤ n ∧ n < 8 * (s.size : Int)
  · have e : burstA s n P = burstS s n.toNat P := if_pos h
    rw [e, burstA, if_pos (by rw [burst_size]; exact h)]
    exact burst_twice s n.toNat P
  · have e : burstA s n P = s := if_neg h
    show burstA (burstA s n P) n P = s
    rw [e, e]
theorem burstA_sum (t : ByteArray) (n p : Int) (hp0 : 0 ≤ p) (hp1 : p < 65536) (h0 : moreI 65535 t.data.toList = 0) (hne : burstA t n p ≠ t) : moreI 65535 (burstA t n p).data.toList ≠ 0 := by
  obtain ⟨P, rfl⟩ := Int.eq_ofNat_of_zero_le hp0
  by_cases h : 0 ≤ n ∧ n < 8 * (t.size : Int)
  · have e : burstA t n P = burstS t n.toNat P := if_pos h
    have hne' : burstS t n.toNat P ≠ t := by intro x; exact hne (e.trans x)
    show moreI 65535 (burstA t n P).data.toList ≠ 0
    rw [e]
    exact burst_sum t n.toNat P (by omega) (by omega) h0 hne'
  · exact absurd (if_neg h) hne
/-- Open of what was sealed. -/
theorem open_sealed (s : ByteArray) (w : World) (hs : s.size ≤ 10000) :
    Calls Try.prog 30 #[.string (sealS s)] w fun e w' => e = .returned (.tuple #[.string s, .bool true]) ∧ w = w' := by
  have h := open_yes (sealS s) w (by rw [seal_size]; omega) (by rw [seal_size]; omega) (by rw [seal_sum]; rfl)
  rwa [seal_cut] at h

theorem bursts_walk (s : ByteArray) (n p : Int) (w : World) (ws : s.size ≤ maxLen) (wn : (Lit.int .i64 n).wf = true) (wp : (Lit.int .u16 p).wf = true) :
    Calls Try.prog 4 #[.string s, .int .i64 n, .int .u16 p] w fun e w' => e = .returned (.bool true) ∧ Below w.heap.size w w' := by
  have hp := wf_u16 wp
  unfold maxLen at ws
  by_cases h : s.size ≤ 2000
  · have hs : s.size ≤ 1000000 := by omega
    have hs2 : (sealS s).size ≤ 1000000 := by rw [seal_size]; omega
    have hs3 : (burstA (sealS s) n p).size ≤ 1000000 := by rw [burstA_size]; exact hs2
    have hs4 : 2 ≤ (burstA (sealS s) n p).size := by rw [burstA_size, seal_size]; omega
    have O1 := fun W => open_sealed s W (by omega)
    have S1 := fun W => sealed_any s W hs
    have S2 := fun W => refsealed_any s W hs
    have B1 := fun W => burst_any (sealS s) n p W hs2 hp.1 hp.2
    by_cases hb : burstA (sealS s) n p = sealS s
    · rw [hb] at B1
      have HB := Lib.hid B1
      have HO := Lib.hid O1
      have H1 := Lib.hid S1
      have H2 := Lib.hid S2
      clear hb O1 B1 S1 S2 hs2 hs3 hs4
      generalize sealS s = t at *
      go_enter Try.func4, Try.ntmps4
      go_wp2_with fail
      refine (awake_any _).mono ?_
      rintro e w1 ⟨rfl, b⟩
      go_wp2_with fail
      refine (H1.out _).mono ?_
      rintro e w2 ⟨rfl, b2⟩
      replace b := below_then b b2; clear b2
      go_wp2_with fail
      refine (HO.out _).mono ?_
      rintro e w2' ⟨rfl, rfl⟩
      go_wp2_with fail
      refine (H2.out _).mono ?_
      rintro e w3 ⟨rfl, b2⟩
      replace b := below_then b b2; clear b2
      go_wp2_with fail
      refine (HB.out _).mono ?_
      rintro e w4 ⟨rfl, b2⟩
      replace b := below_then b b2; clear b2
      go_wp2_with fail
      refine (HO.out _).mono ?_
      rintro e w4' ⟨rfl, rfl⟩
      go_wp2_with fail
      go_ret
      exact ⟨rfl, b⟩
    · have hne : ((burstA (sealS s) n p).toList == (sealS s).toList) = false := beq_false_of_ne (fun e => hb (toList_inj e))
      have N1 := fun W => open_no (burstA (sealS s) n p) W hs3 hs4 (by rw [bne_iff_ne]; exact burstA_sum _ _ _ hp.1 hp.2 (seal_sum s) hb)
      have HB := Lib.hid B1
      have HO := Lib.hid O1
      have H1 := Lib.hid S1
      have H2 := Lib.hid S2
      have HN := Lib.hid N1
      clear hb O1 B1 S1 S2 N1 hs2 hs3 hs4
      generalize burstA (sealS s) n p = u at *
      generalize sealS s = t at *
      go_enter Try.func4, Try.ntmps4
      go_wp2_with fail
      refine (awake_any _).mono ?_
      rintro e w1 ⟨rfl, b⟩
      go_wp2_with fail
      refine (H1.out _).mono ?_
      rintro e w2 ⟨rfl, b2⟩
      replace b := below_then b b2; clear b2
      go_wp2_with fail
      refine (HO.out _).mono ?_
      rintro e w2' ⟨rfl, rfl⟩
      go_wp2_with fail
      refine (H2.out _).mono ?_
      rintro e w3 ⟨rfl, b2⟩
      replace b := below_then b b2; clear b2
      go_wp2_with fail
      refine (HB.out _).mono ?_
      rintro e w4 ⟨rfl, b2⟩
      replace b := below_then b b2; clear b2
      go_wp2_with fail
      refine (HN.out _).mono ?_
      rintro e w4' ⟨rfl, rfl⟩
      go_wp2_with fail
      go_ret
      exact ⟨rfl, b⟩
  · have h' : 2000 < s.size := by omega
    go_enter Try.func4, Try.ntmps4
    go_wp2_with (go_at_call 24; refine (awake_any _).mono ?_; rintro e w1 ⟨rfl, b1⟩)
    go_ret
    exact ⟨rfl, b1⟩

theorem flips_walk (s : ByteArray) (n p : Int) (w : World) (ws : s.size ≤ maxLen) (wn : (Lit.int .i64 n).wf = true) (wp : (Lit.int .u16 p).wf = true) :
    Calls Try.prog 5 #[.string s, .int .i64 n, .int .u16 p] w fun e w' => e = .returned (.bool true) ∧ Below w.heap.size w w' := by
  have hp := wf_u16 wp
  unfold maxLen at ws
  by_cases h : s.size ≤ 2000
  · have hs : s.size ≤ 1000000 := by omega
    have hs3 : (burstA s n p).size ≤ 1000000 := by rw [burstA_size]; exact hs
    have B1 := fun W => burst_any s n p W hs hp.1 hp.2
    have B2 := fun W => refburst_any s n p W hs hp.1 hp.2
    have B3 := fun W => burst_any (burstA s n p) n p W hs3 hp.1 hp.2
    rw [burstA_twice s n p hp.1] at B3
    have H1 := Lib.hid B1
    have H2 := Lib.hid B2
    have H3 := Lib.hid B3
    clear B1 B2 B3 hs3
    generalize burstA s n p = u at *
    by_cases h2 : s.size < 2
    · have HO := Lib.hid (fun W => open_short s W hs h2)
      go_enter Try.func5, Try.ntmps5
      go_wp2_with fail
      refine (awake_any _).mono ?_
      rintro e w1 ⟨rfl, b⟩
      go_wp2_with fail
      refine (H1.out _).mono ?_
      rintro e w2 ⟨rfl, b2⟩
      replace b := below_then b b2; clear b2
      go_wp2_with fail
      refine (H2.out _).mono ?_
      rintro e w3 ⟨rfl, b2⟩
      replace b := below_then b b2; clear b2
      go_wp2_with fail
      refine (H3.out _).mono ?_
      rintro e w4 ⟨rfl, b2⟩
      replace b := below_then b b2; clear b2
      go_wp2_with fail
      refine (HO.out _).mono ?_
      rintro e w4' ⟨rfl, rfl⟩
      go_wp2_with fail
      go_ret
      exact ⟨rfl, b⟩
    · have h2' : 2 ≤ s.size := by omega
      have S0 := fun W => refsealed_any (s.extract 0 (s.size - 2)) W (by simp; omega)
      have HI := open_iff s h2'
      by_cases hz : moreI 65535 s.data.toList = 0
      · have HO := Lib.hid (fun W => open_yes s W hs h2' (by rw [hz]; rfl))
        rw [HI.1 hz] at S0
        have HS := Lib.hid S0
        clear S0 HI hz
        go_enter Try.func5, Try.ntmps5
        go_wp2_with fail
        refine (awake_any _).mono ?_
        rintro e w1 ⟨rfl, b⟩
        go_wp2_with fail
        refine (H1.out _).mono ?_
        rintro e w2 ⟨rfl, b2⟩
        replace b := below_then b b2; clear b2
        go_wp2_with fail
        refine (H2.out _).mono ?_
        rintro e w3 ⟨rfl, b2⟩
        replace b := below_then b b2; clear b2
        go_wp2_with fail
        refine (H3.out _).mono ?_
        rintro e w4 ⟨rfl, b2⟩
        replace b := below_then b b2; clear b2
        go_wp2_with fail
        refine (HO.out _).mono ?_
        rintro e w4' ⟨rfl, rfl⟩
        go_wp2_with fail
        refine (HS.out _).mono ?_
        rintro e w5 ⟨rfl, b2⟩
        replace b := below_then b b2; clear b2
        go_wp2_with fail
        go_ret
        exact ⟨rfl, b⟩
      · have HO := Lib.hid (fun W => open_no s W hs h2' (by rw [bne_iff_ne]; exact hz))
        have hne : ((sealS (s.extract 0 (s.size - 2))).toList == s.toList) = false := beq_false_of_ne (fun e => hz (HI.2 (toList_inj e)))
        have HS := Lib.hid S0
        clear S0 HI hz
        generalize sealS (s.extract 0 (s.size - 2)) = t at *
        go_enter Try.func5, Try.ntmps5
        go_wp2_with fail
        refine (awake_any _).mono ?_
        rintro e w1 ⟨rfl, b⟩
        go_wp2_with fail
        refine (H1.out _).mono ?_
        rintro e w2 ⟨rfl, b2⟩
        replace b := below_then b b2; clear b2
        go_wp2_with fail
        refine (H2.out _).mono ?_
        rintro e w3 ⟨rfl, b2⟩
        replace b := below_then b b2; clear b2
        go_wp2_with fail
        refine (H3.out _).mono ?_
        rintro e w4 ⟨rfl, b2⟩
        replace b := below_then b b2; clear b2
        go_wp2_with fail
        refine (HO.out _).mono ?_
        rintro e w4' ⟨rfl, rfl⟩
        go_wp2_with fail
        refine (HS.out _).mono ?_
        rintro e w5 ⟨rfl, b2⟩
        replace b := below_then b b2; clear b2
        go_wp2_with fail
        all_goals go_ret
        all_goals exact ⟨rfl, b⟩
  · have h' : 2000 < s.size := by omega
    go_enter Try.func5, Try.ntmps5
    go_wp2_with (go_at_call 24; refine (awake_any _).mono ?_; rintro e w1 ⟨rfl, b1⟩)
    go_ret
    exact ⟨rfl, b1⟩
end Go.Proofs.Ytdhfkcodacmbfaa
