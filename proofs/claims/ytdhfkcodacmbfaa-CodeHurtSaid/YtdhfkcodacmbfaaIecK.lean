/- The kinds of values (iec): there, get. -/
import Derived.Test.YtdhfkcodacmbfaaIecJ
import Derived.Test.YtdhfkcodacmbfaaEye
set_option linter.unusedVariables false
set_option linter.unusedSimpArgs false
namespace Go.Proofs.Ytdhfkcodacmbfaa
open Go.RowKit

def thereK (size at_ k : Int) : Bool := decide (0 < ksize k ∧ 0 ≤ at_ ∧ at_ ≤ size ∧ ksize k ≤ size - at_)
set_option maxRecDepth 100000 in
set_option maxHeartbeats 4000000 in
theorem there_any (size at_ k : Int) (w : World) (h0 : 0 ≤ size) (h1 : size ≤ 1000000) : Calls Try.prog 131 #[.int .i64 size, .int .i64 at_, .int .i64 k] w fun e w' => e = .returned (.bool (thereK size at_ k)) ∧ Below w.heap.size w w' := by
  have HS := Lib.hid (fun W => size_any k W)
  have hr := ksize_range k
  unfold thereK
  generalize ksize k = s at *
  by_cases c1 : 0 < s
  · by_cases c2 : 0 ≤ at_
    · by_cases c3 : at_ ≤ size
      · go_enter Try.func131, Try.ntmps131
        go_wp2_with fail
        refine (HS.out _).mono ?_
        rintro e w1 ⟨rfl, b⟩
        go_wp2_with fail
        go_ret
        exact ⟨ret_bool (by apply decide_eq_decide.2; omega), b⟩
      · have hd : decide (at_ ≤ size) = false := decide_eq_false c3
        rw [decide_eq_false (show ¬ (0 < s ∧ 0 ≤ at_ ∧ at_ ≤ size ∧ s ≤ size - at_) by omega)]
        go_enter Try.func131, Try.ntmps131
        go_wp2_with fail
        refine (HS.out _).mono ?_
        rintro e w1 ⟨rfl, b⟩
        go_wp2_with fail
        go_ret
        exact ⟨rfl, b⟩
    · have hd : decide (0 ≤ at_) = false := decide_eq_false c2
      rw [decide_eq_false (show ¬ (0 < s ∧ 0 ≤ at_ ∧ at_ ≤ size ∧ s ≤ size - at_) by omega)]
      go_enter Try.func131, Try.ntmps131
      go_wp2_with fail
      refine (HS.out _).mono ?_
      rintro e w1 ⟨rfl, b⟩
      go_wp2_with fail
      go_ret
      exact ⟨rfl, b⟩
  · have hd : decide (0 < s) = false := decide_eq_false c1
    rw [decide_eq_false (show ¬ (0 < s ∧ 0 ≤ at_ ∧ at_ ≤ size ∧ s ≤ size - at_) by omega)]
    go_enter Try.func131, Try.ntmps131
    go_wp2_with fail
    refine (HS.out _).mono ?_
    rintro e w1 ⟨rfl, b⟩
    go_wp2_with fail
    go_ret
    exact ⟨rfl, b⟩
set_option maxRecDepth 100000 in
set_option maxHeartbeats 4000000 in
theorem rthere_any (size at_ k : Int) (w : World) (h0 : 0 ≤ size) (h1 : size ≤ 1000000) : Calls Try.prog 76 #[.int .i64 size, .int .i64 at_, .int .i64 k] w fun e w' => e = .returned (.bool (thereK size at_ k)) ∧ Below w.heap.size w w' := by
  have HS := Lib.hid (fun W => rsize_any k W)
  have hr := ksize_range k
  unfold thereK
  generalize ksize k = s at *
  by_cases c1 : 0 < s
  · by_cases c2 : 0 ≤ at_
    · by_cases c3 : at_ ≤ size
      · go_enter Try.func76, Try.ntmps76
        go_wp2_with fail
        refine (HS.out _).mono ?_
        rintro e w1 ⟨rfl, b⟩
        go_wp2_with fail
        go_ret
        exact ⟨ret_bool (by apply decide_eq_decide.2; omega), b⟩
      · have hd : decide (at_ ≤ size) = false := decide_eq_false c3
        rw [decide_eq_false (show ¬ (0 < s ∧ 0 ≤ at_ ∧ at_ ≤ size ∧ s ≤ size - at_) by omega)]
        go_enter Try.func76, Try.ntmps76
        go_wp2_with fail
        refine (HS.out _).mono ?_
        rintro e w1 ⟨rfl, b⟩
        go_wp2_with fail
        go_ret
        exact ⟨rfl, b⟩
    · have hd : decide (0 ≤ at_) = false := decide_eq_false c2
      rw [decide_eq_false (show ¬ (0 < s ∧ 0 ≤ at_ ∧ at_ ≤ size ∧ s ≤ size - at_) by omega)]
      go_enter Try.func76, Try.ntmps76
      go_wp2_with fail
      refine (HS.out _).mono ?_
      rintro e w1 ⟨rfl, b⟩
      go_wp2_with fail
      go_ret
      exact ⟨rfl, b⟩
  · have hd : decide (0 < s) = false := decide_eq_false c1
    rw [decide_eq_false (show ¬ (0 < s ∧ 0 ≤ at_ ∧ at_ ≤ size ∧ s ≤ size - at_) by omega)]
    go_enter Try.func76, Try.ntmps76
    go_wp2_with fail
    refine (HS.out _).mono ?_
    rintro e w1 ⟨rfl, b⟩
    go_wp2_with fail
    go_ret
    exact ⟨rfl, b⟩
def getS (area : ByteArray) (at_ k : Int) : ByteArray := area.extract at_.toNat (at_.toNat + (ksize k).toNat)
def getK (area : ByteArray) (at_ k : Int) : Int := wrapK k (numN (getS area at_ k).data.toList)
theorem or_i64 (n c : Nat) (hn : n < 16777216) (hc : c < 256) : bits .or .i64 ((n : Int) * 256) (c : Int) = (n : Int) * 256 + c :=
  bits_join .i64 32 (by decide) (fun m h0 h1 => by rw [IntKind.wrap_i64]; omega) 8 _ _ (by omega) (by show (n : Int) * 256 % 256 = 0; omega) (by show (n : Int) * 256 < 4294967296; omega) (by omega) (by show (c : Int) < 256; omega) (by show (c : Int) < 4294967296; omega)
theorem getS_size {area : ByteArray} {at_ k : Int} (h : thereK area.size at_ k = true) : ((getS area at_ k).size : Int) = ksize k ∧ (getS area at_ k).size ≤ 4 := by
  have hr := ksize_range k
  unfold thereK at h
  have h := of_decide_eq_true h
  unfold getS
  rw [ByteArray.size_extract]
  omega
theorem numN4_lt (t : ByteArray) (h : t.size ≤ 4) : numN t.data.toList < 4294967296 := by
  have h1 := numN_lt t.data.toList
  have h2 : 256 ^ t.data.toList.length ≤ 256 ^ 4 := Nat.pow_le_pow_right (by decide) (by simp; exact h)
  omega
set_option maxRecDepth 100000 in
set_option maxHeartbeats 4000000 in
theorem get_no (area : ByteArray) (at_ k : Int) (w : World) (hs : area.size ≤ 1000000) (h : thereK area.size at_ k = false) : Calls Try.prog 77 #[.string area, .int .i64 at_, .int .i64 k] w fun e w' => e = .returned (.tuple #[.int .i64 0, .bool false]) ∧ Below w.heap.size w w' := by
  have HT := Lib.hid (fun W => there_any area.size at_ k W (by omega) (by omega))
  rw [h] at HT
  clear h
  go_enter Try.func77, Try.ntmps77
  go_wp2_with fail
  refine (HT.out _).mono ?_
  rintro e w1 ⟨rfl, b⟩
  go_wp2_with fail
  go_ret2
  exact ⟨rfl, b⟩
set_option maxRecDepth 100000 in
set_option maxHeartbeats 4000000 in
theorem get_yes (area : ByteArray) (at_ k : Int) (w : World) (hs : area.size ≤ 1000000) (h : thereK area.size at_ k = true) : Calls Try.prog 77 #[.string area, .int .i64 at_, .int .i64 k] w fun e w' => e = .returned (.tuple #[.int .i64 (getK area at_ k), .bool true]) ∧ Below w.heap.size w w' := by
  have HT := Lib.hid (fun W => there_any area.size at_ k W (by omega) (by omega))
  have HS := Lib.hid (fun W => size_any k W)
  have hts := getS_size h
  have hcv := fun W => Lib.run_convert_string_bytes (P := Try.prog) W 9 54 5 (getS area at_ k) Try.underlying9 Try.underlying54 Try.underlying5
  have HW := Lib.hid (fun W => wrap_any k (numN (getS area at_ k).data.toList) W (wf_small (by omega) (by have := numN4_lt _ hts.2; omega)))
  have hh := of_decide_eq_true h
  rw [h] at HT
  have hE : area.extract at_.toNat (at_ + ksize k).toNat = getS area at_ k := by
    unfold getS
    congr 1
    omega
  unfold getK
  generalize getS area at_ k = t at *
  clear h
  generalize wrapK k (numN t.data.toList) = r at *
  obtain ⟨hts1, h4⟩ := hts
  go_enter Try.func77, Try.ntmps77
  go_wp2_with fail
  refine (HT.out _).mono ?_
  rintro e w1 ⟨rfl, b⟩
  go_wp2_with fail
  refine (HS.out _).mono ?_
  rintro e w2 ⟨rfl, b2⟩
  replace b := below_then b b2
  have R0 := bytes_row w2 5 t
  have hb := below_lift b (bytes_below w2 5 t) b.size
  go_wp2_with fail
  generalize Lib.bytesWorld w2 5 t = w3 at *
  generalize grownCap w2 t.size 0 5 = cap at *
  go_loop [8, 10, 26] (fun m _ v => ∃ k : Nat, k ≤ t.size ∧ v = .int .i64 k ∧ m = .int .i64 (numN (t.data.toList.take k) : Int)) (fun _ _ v => t.size - (intOf v).toNat)
  case atStart => exact ⟨0, by omega, rfl, rfl⟩
  case round =>
    obtain ⟨i, hi, rfl, rfl⟩ := hrel
    by_cases hlt : i < t.size
    · have hc := R0.cell i hlt
      rw [getD_byte t i hlt] at hc
      have NS := num_step t i hlt h4
      have hbb := NS.2
      have HN := Lib.hid NS.1
      have hcl := t[i].toNat_lt
      have HO := Lib.hid (or_i64 (numN (t.data.toList.take i)) t[i].toNat hbb hcl)
      clear NS
      go_wp2_with fail
      go_round
      case rel => exact ⟨i + 1, by omega, by go_num, val_int (by rw [HO.out, HN.out]; omega)⟩
      case measure => simp [intOf]; omega
    · obtain rfl : i = t.size := by omega
      go_wp2_with fail
      rw [List.take_of_length_le (by simp)]
      refine (HW.out _).mono ?_
      rintro e w4 ⟨rfl, b4⟩
      go_wp2_with fail
      go_ret2
      exact ⟨rfl, below_then hb b4⟩
set_option maxRecDepth 100000 in
set_option maxHeartbeats 4000000 in
theorem rget_yes (area : ByteArray) (at_ k : Int) (w : World) (hs : area.size ≤ 1000000) (h : thereK area.size at_ k = true) : Calls Try.prog 79 #[.string area, .int .i64 at_, .int .i64 k] w fun e w' => e = .returned (.int .i64 (getK area at_ k)) ∧ Below w.heap.size w w' := by
  have HS := Lib.hid (fun W => rsize_any k W)
  have hts := getS_size h
  have HW := Lib.hid (fun W => rwrap_any k (numN (getS area at_ k).data.toList) W (wf_small (by omega) (by have := numN4_lt _ hts.2; omega)))
  have hh := of_decide_eq_true h
  have hA : at_ = (at_.toNat : Int) := by omega
  have HG := Lib.hid (fun (i : Nat) (hi : i < (getS area at_ k).size) (hj : at_.toNat + i < area.size) => show (getS area at_ k)[i] = area[at_.toNat + i] from ByteArray.getElem_extract hi)
  unfold getK
  generalize getS area at_ k = t at *
  clear h
  generalize wrapK k (numN t.data.toList) = r at *
  obtain ⟨hts1, h4⟩ := hts
  rw [← hts1] at HS
  rw [← hts1] at hh
  generalize at_.toNat = A at *
  subst hA
  go_enter Try.func79, Try.ntmps79
  go_wp2_with fail
  go_loopw [7, 8] (fun m v wr => ∃ i : Nat, i ≤ t.size ∧ v = .int .i64 i ∧ m = .int .i64 (numN (t.data.toList.take i) : Int) ∧ Below w.heap.size w wr) (fun _ v _ => t.size - (intOf v).toNat)
  case atStart => exact ⟨0, by omega, rfl, rfl, Below.refl _ _⟩
  case round =>
    obtain ⟨i, hi, rfl, rfl, b⟩ := hrel
    by_cases hlt : i < t.size
    · have NS := num_step t i hlt h4
      have hbb := NS.2
      have HN := Lib.hid NS.1
      have hcl := t[i].toNat_lt
      have HB := Lib.hid (HG.out i hlt (by omega))
      generalize numN (t.data.toList.take i) = N at *
      clear NS
      go_wp2_with fail
      refine (HS.out _).mono ?_
      rintro e w1 ⟨rfl, b2⟩
      have hb := below_then b b2
      go_wp2_with fail
      refine ⟨⟨i + 1, by omega, by go_num, val_int ?_, hb⟩, by simp [intOf]; omega⟩
      rw [HN.out, HB.out]
      have := area[A + i].toNat_lt
      simp only [wrap64]
      omega
    · obtain rfl : i = t.size := by omega
      go_wp2_with fail
      refine (HS.out _).mono ?_
      rintro e w1 ⟨rfl, b2⟩
      have hb := below_then b b2
      go_wp2_with fail
      rw [List.take_of_length_le (by simp)]
      refine (HW.out _).mono ?_
      rintro e w4 ⟨rfl, b4⟩
      go_wp2_with fail
      go_ret
      exact ⟨rfl, below_then hb b4⟩
end Go.Proofs.Ytdhfkcodacmbfaa
