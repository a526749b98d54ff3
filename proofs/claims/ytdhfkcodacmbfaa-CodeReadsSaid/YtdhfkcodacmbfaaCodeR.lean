/- The walk of the law CodeReads. -/
import Derived.Test.YtdhfkcodacmbfaaCodeP
set_option linter.unusedVariables false
set_option linter.unusedSimpArgs false
namespace Go.Proofs.Ytdhfkcodacmbfaa
open Go.RowKit

set_option maxRecDepth 100000 in
set_option maxHeartbeats 4000000 in
theorem reads_walk (s : ByteArray) (w : World) (hs : s.size ≤ maxLen) :
    Calls Try.prog 21 #[.string s] w fun e w' => e = .returned (.bool true) ∧ Below w.heap.size w w' := by
  have HA := Lib.hid (fun W => cawake_any W)
  unfold maxLen at hs
  by_cases h2000 : s.size ≤ 2000
  · have h2000' : ¬ (2000 : Int) < (s.size : Int) := by omega
    have HQ := Lib.hid (fun W => refsealed_any s W (by omega))
    have hT : ∀ k : Nat, (if k = 0 then s else sealS s).size ≤ 2002 := fun k => by
      split
      · omega
      · rw [seal_size]; omega
    have HT0 := Lib.hid (show s = (if 0 = 0 then s else sealS s) from rfl)
    have HT1 := Lib.hid (show sealS s = (if 1 = 0 then s else sealS s) from rfl)
    have HTT := Lib.hid hT
    clear hT
    go_enter Try.func21, Try.ntmps21
    go_wp2_with fail
    refine (HA.out _).mono ?_
    rintro e w1 ⟨rfl, b⟩
    go_wp2_with fail
    refine (HQ.out _).mono ?_
    rintro e w2 ⟨rfl, b2⟩
    replace b := below_then b b2
    clear b2
    have hN := Blk.new w2 #[.string s, .string (sealS s)] 9
    have hb := b.alloc b.size (.cells #[.string s, .string (sealS s)] 9)
    go_wp2_with fail
    have c0 := hN.cell (j := 0) (v := .string s) rfl
    have c1 := hN.cell (j := 1) (v := .string (sealS s)) rfl
    have hck : ∀ k : Nat, k < 2 → (w2.alloc (.cells #[.string s, .string (sealS s)] 9)).cell? ⟨w2.heap.size, k, none⟩ = some (.string (if k = 0 then s else sealS s)) := by
      intro k hk
      obtain rfl | rfl : k = 0 ∨ k = 1 := by omega
      · exact c0
      · exact c1
    have hNl := hN.lt
    clear c0 c1 hN
    generalize w2.heap.size = N at *
    generalize w2.alloc (.cells #[.string s, .string (sealS s)] 9) = w3 at *
    have HCK := Lib.hid hck
    clear hck
    go_loopw [4, 5, 6, 7, 8, 9, 10, 21] (fun _ _ _ _ _ _ _ x wr => ∃ k : Nat, k ≤ 2 ∧ x = .int .i64 k ∧ Below w3.heap.size w3 wr) (fun _ _ _ _ _ _ _ x _ => 2 - (intOf x).toNat)
    case atStart => exact ⟨0, by omega, rfl, Below.refl _ _⟩
    case round =>
      obtain ⟨k, hk, rfl, b3⟩ := hrel
      by_cases hlt : k < 2
      · have hltz : (k : Int) < 2 := by omega
        have hk0 : (0 : Int) ≤ (k : Int) := by omega
        have ck := (b3.cell (p := ⟨N, k, none⟩) hNl).trans (HCK.out k hlt)
        have hts := HTT.out k
        generalize (if k = 0 then s else sealS s) = t at *
        have HD := fun W => decode_any t W (by omega)
        have HR := fun W => rdecode_any t W (by omega)
        have hback := @dec_back t
        generalize hd : decS t = d at *
        obtain ⟨l, E⟩ := d
        by_cases h0 : E = 0
        · obtain ⟨h1, h2⟩ := hback h0
          simp only at h1 h2
          have hlen := codeE_len h1
          have HE := fun A cap W (hW : InsR W A l) => encode_any A l cap W hW (by omega)
          unfold encS at HE
          rw [h1, if_pos rfl, h2] at HE
          have HS := Lib.hid (fun A B c c' W (hI : InsR W A l) (hJ : InsR W B l) => same_any A B l c c' W hI hJ (by omega))
          replace HD := Lib.hid HD
          replace HR := Lib.hid HR
          replace HE := Lib.hid HE
          have HB := Lib.hid b3
          subst h0
          clear hback hd h1 h2 hlen b3 HQ HA hts
          go_wp2_with fail
          refine (HD.out _).mono ?_
          rintro e w4 ⟨A, c, rfl, hI, b4⟩
          replace HB := Lib.hid (below_then HB.out b4)
          clear b4
          go_wp2_with fail
          refine (HR.out _).mono ?_
          rintro e w5 ⟨A', c', rfl, hJ, b4⟩
          replace HB := Lib.hid (below_then HB.out b4)
          replace hI := hI.keep b4
          clear b4
          go_wp2_with fail
          refine (HS.out _ _ _ _ _ hI hJ).mono ?_
          rintro e w6 ⟨rfl, b4⟩
          replace HB := Lib.hid (below_then HB.out b4)
          replace hI := hI.keep b4
          clear b4 hJ
          go_wp2_with fail
          refine (HE.out _ _ _ hI).mono ?_
          rintro e w7 ⟨rfl, b4⟩
          replace HB := Lib.hid (below_then HB.out b4)
          clear b4 hI
          go_wp2_with fail
          go_roundw
          case rel => exact ⟨k + 1, by omega, by go_num, HB.out⟩
          case measure => simp [intOf]; omega
        · have hnil : l = [] := by
            have := @dec_nil t
            rw [hd] at this
            exact this h0
          have hlen : l.length ≤ 200 := by rw [hnil]; decide
          have h0' : (E != 0) = true := by simpa using h0
          have HS := Lib.hid (fun A B c c' W (hI : InsR W A l) (hJ : InsR W B l) => same_any A B l c c' W hI hJ (by omega))
          replace HD := Lib.hid HD
          replace HR := Lib.hid HR
          have HB := Lib.hid b3
          clear hback hd hnil hlen b3 HQ HA hts
          go_wp2_with fail
          refine (HD.out _).mono ?_
          rintro e w4 ⟨A, c, rfl, hI, b4⟩
          replace HB := Lib.hid (below_then HB.out b4)
          clear b4
          go_wp2_with fail
          refine (HR.out _).mono ?_
          rintro e w5 ⟨A', c', rfl, hJ, b4⟩
          replace HB := Lib.hid (below_then HB.out b4)
          replace hI := hI.keep b4
          clear b4
          go_wp2_with fail
          refine (HS.out _ _ _ _ _ hI hJ).mono ?_
          rintro e w6 ⟨rfl, b4⟩
          replace HB := Lib.hid (below_then HB.out b4)
          clear b4 hJ hI
          go_wp2_with fail
          go_roundw
          case rel => exact ⟨k + 1, by omega, by go_num, HB.out⟩
          case measure => simp [intOf]; omega
      · obtain rfl : k = 2 := by omega
        go_wp2_with fail
        go_ret
        exact ⟨rfl, below_then hb b3⟩
  · have h2000' : (2000 : Int) < (s.size : Int) := by omega
    go_enter Try.func21, Try.ntmps21
    go_wp2_with fail
    refine (HA.out _).mono ?_
    rintro e w1 ⟨rfl, b⟩
    go_wp2_with fail
    go_ret
    exact ⟨rfl, b⟩
end Go.Proofs.Ytdhfkcodacmbfaa
