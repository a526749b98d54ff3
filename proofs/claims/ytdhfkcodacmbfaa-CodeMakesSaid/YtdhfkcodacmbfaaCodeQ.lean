/- The walks of the laws CodeReads and CodeMakes. -/
import Derived.Test.YtdhfkcodacmbfaaCodeP
set_option linter.unusedVariables false
set_option linter.unusedSimpArgs false
namespace Go.Proofs.Ytdhfkcodacmbfaa
open Go.RowKit

set_option maxRecDepth 100000 in
set_option maxHeartbeats 4000000 in
theorem makes_walk (A : Option Addr) (l : List InstrS) (cap : Nat) (w : World) (hI : InsR w A l) (hl : l.length ≤ 9223372036854775807) :
    Calls Try.prog 22 #[.slice A l.length cap] w fun e w' => e = .returned (.bool true) ∧ Below w.heap.size w w' := by
  have HA := Lib.hid (fun W => cawake_any W)
  have HI := Lib.hid hI
  by_cases h220 : l.length ≤ 220
  · have h220' : ¬ (220 : Int) < (l.length : Int) := by omega
    have HE := Lib.hid (fun W (hW : InsR W A l) => encode_any A l cap W hW hl)
    have HR := Lib.hid (fun W (hW : InsR W A l) => rerror_any A l cap W hW hl)
    have HT := Lib.hid (fun W (hW : InsR W A l) => stamp_any A l cap W hW hl)
    unfold encS at HE
    unfold stampS at HT
    by_cases h0 : codeE l = 0
    · rw [h0] at HE HR HT
      rw [if_pos rfl] at HE HT
      have hz := plain_size l
      have HP := Lib.hid (fun W (hW : InsR W A l) => rplain_any A l cap W hW (by omega))
      have HQ := Lib.hid (fun W => refsealed_any (plainS l) W (by rw [hz]; omega))
      have HU := Lib.hid (fun W => refsum_any (plainS l) W (by rw [hz]; omega))
      have HD := fun W => decode_any (sealS (plainS l)) W (by rw [seal_size, hz]; omega)
      rw [dec_enc h0] at HD
      replace HD := Lib.hid HD
      have HS := Lib.hid (fun B c W (hI : InsR W A l) (hJ : InsR W B l) => same_any A B l cap c W hI hJ hl)
      clear hI h0 hz
      generalize moreI 65535 (plainS l).data.toList = m at *
      generalize sealS (plainS l) = t at *
      generalize plainS l = p at *
      go_enter Try.func22, Try.ntmps22
      go_wp2_with fail
      refine (HA.out _).mono ?_
      rintro e w1 ⟨rfl, b⟩
      replace HI := Lib.hid (HI.out.keep b)
      go_wp2_with fail
      refine (HE.out _ HI.out).mono ?_
      rintro e w2 ⟨rfl, b2⟩
      replace HI := Lib.hid (HI.out.keep b2)
      replace b := below_then b b2
      clear b2
      go_wp2_with fail
      refine (HR.out _ HI.out).mono ?_
      rintro e w3 ⟨rfl, b2⟩
      replace HI := Lib.hid (HI.out.keep b2)
      replace b := below_then b b2
      clear b2
      go_wp2_with fail
      refine (HP.out _ HI.out).mono ?_
      rintro e w4 ⟨rfl, b2⟩
      replace HI := Lib.hid (HI.out.keep b2)
      replace b := below_then b b2
      clear b2
      go_wp2_with fail
      refine (HD.out _).mono ?_
      rintro e w5 ⟨B, c, rfl, hJ, b2⟩
      replace HI := Lib.hid (HI.out.keep b2)
      replace b := below_then b b2
      clear b2
      go_wp2_with fail
      refine (HQ.out _).mono ?_
      rintro e w6 ⟨rfl, b2⟩
      replace HI := Lib.hid (HI.out.keep b2)
      replace hJ := hJ.keep b2
      replace b := below_then b b2
      clear b2
      go_wp2_with fail
      refine (HT.out _ HI.out).mono ?_
      rintro e w7 ⟨rfl, b2⟩
      replace HI := Lib.hid (HI.out.keep b2)
      replace hJ := hJ.keep b2
      replace b := below_then b b2
      clear b2
      go_wp2_with fail
      refine (HU.out _).mono ?_
      rintro e w8 ⟨rfl, b2⟩
      first | subst b2 | (replace HI := Lib.hid (HI.out.keep b2); replace hJ := hJ.keep b2; replace b := below_then b b2; clear b2)
      go_wp2_with fail
      refine (HS.out _ _ _ HI.out hJ).mono ?_
      rintro e w9 ⟨rfl, b2⟩
      replace b := below_then b b2
      clear b2
      go_wp2_with fail
      go_ret
      exact ⟨rfl, b⟩
    · rw [if_neg h0] at HE HT
      clear hI
      generalize codeE l = E at *
      have h0' : (E != 0) = true := by simpa using h0
      go_enter Try.func22, Try.ntmps22
      go_wp2_with fail
      refine (HA.out _).mono ?_
      rintro e w1 ⟨rfl, b⟩
      replace HI := Lib.hid (HI.out.keep b)
      go_wp2_with fail
      refine (HE.out _ HI.out).mono ?_
      rintro e w2 ⟨rfl, b2⟩
      replace HI := Lib.hid (HI.out.keep b2)
      replace b := below_then b b2
      clear b2
      go_wp2_with fail
      refine (HR.out _ HI.out).mono ?_
      rintro e w3 ⟨rfl, b2⟩
      replace HI := Lib.hid (HI.out.keep b2)
      replace b := below_then b b2
      clear b2
      go_wp2_with fail
      refine (HT.out _ HI.out).mono ?_
      rintro e w4 ⟨rfl, b2⟩
      replace b := below_then b b2
      clear b2
      go_wp2_with fail
      go_ret
      exact ⟨rfl, b⟩
  · have h220' : (220 : Int) < (l.length : Int) := by omega
    clear hI
    go_enter Try.func22, Try.ntmps22
    go_wp2_with fail
    refine (HA.out _).mono ?_
    rintro e w1 ⟨rfl, b⟩
    go_wp2_with fail
    go_ret
    exact ⟨rfl, b⟩
end Go.Proofs.Ytdhfkcodacmbfaa
