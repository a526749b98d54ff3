/- The kinds of values (iec): what an area is after a put, and the reference's put. -/
import Derived.Test.YtdhfkcodacmbfaaIecN
import Derived.Test.YtdhfkcodacmbfaaOct
set_option linter.unusedVariables false
set_option linter.unusedSimpArgs false
namespace Go.Proofs.Ytdhfkcodacmbfaa
open Go.RowKit

def areaF (area : ByteArray) (j : Nat) : Int := ((area.data.toList.getD j 0).toNat : Int)
def digs (V : Int) (t : Nat) : List Int := (List.range t).map fun i => (V / 256 ^ (t - 1 - i)) % 256
def putS (area : ByteArray) (at_ k v : Int) : ByteArray := strOfNums ((List.range area.size).map (putF (areaF area) (at_.toNat + (ksize k).toNat) (ksize k).toNat (wrapK k v)))
theorem digs_succ (V : Int) (t : Nat) : digs V (t + 1) = (V / 256 ^ t) % 256 :: digs V t := by
  unfold digs
  rw [List.range_succ_eq_map, List.map_cons, List.map_map]
  congr 1
  apply List.map_congr_left
  intro i _
  show V / 256 ^ (t + 1 - 1 - (i + 1)) % 256 = _
  rw [show t + 1 - 1 - (i + 1) = t - 1 - i by omega]
theorem digs_length (V : Int) (t : Nat) : (digs V t).length = t := by simp [digs]
theorem ext_list (area : ByteArray) (a b : Nat) (ha : a ≤ b) (hb : b ≤ area.size) : area.extract a b = strOfNums ((List.range (b - a)).map fun i => areaF area (a + i)) := by
  apply ByteArray.ext
  apply Array.ext'
  rw [strOfNums_data, ByteArray.data_extract, Array.toList_extract]
  apply List.ext_getElem
  · simp
    have : area.data.size = area.size := rfl
    omega
  · intro i h1 h2
    simp at h2
    simp [areaF, List.extract_eq_take_drop]
    have hlt : a + i < area.data.size := by have : area.data.size = area.size := rfl; omega
    rw [Array.getElem?_eq_getElem hlt]
    rfl
theorem put_parts (area : ByteArray) (A s : Nat) (V : Int) (h : A + s ≤ area.size) :
    area.extract 0 A ++ strOfNums (digs V s) ++ area.extract (A + s) area.size = strOfNums ((List.range area.size).map (putF (areaF area) (A + s) s V)) := by
  rw [ext_list area 0 A (by omega) (by omega), ext_list area (A + s) area.size h (by omega), strOfNums_append, strOfNums_append]
  congr 1
  apply List.ext_getElem
  · simp [digs]
    omega
  · intro i h1 h2
    simp at h2
    simp only [List.getElem_append, List.length_append, List.length_map, List.length_range, digs_length, List.getElem_map, List.getElem_range]
    unfold putF
    by_cases c1 : i < A
    · rw [dif_pos (by omega), dif_pos (by omega), if_neg (by omega)]
      congr 1
      omega
    · by_cases c2 : i < A + s
      · rw [dif_pos (by omega), dif_neg (by omega), if_pos (by omega)]
        unfold digs
        simp only [List.getElem_map, List.getElem_range]
        congr 3
        omega
      · rw [dif_neg (by omega), if_neg (by omega)]
        congr 1
        omega
theorem ret_str {a b : ByteArray} (h : a = b) : Ending.returned (.string a) = .returned (.string b) := by rw [h]
theorem digs_many (k v : Int) (h : wrapK k v < 0) : digs (wrapK k v + manyK k) (ksize k).toNat = digs (wrapK k v) (ksize k).toNat ∧ 0 ≤ wrapK k v + manyK k ∧ manyK k ≤ 4294967296 := by
  rcases kcases k with rfl | rfl | rfl | rfl | rfl | rfl | rfl | ho
  · rw [show wrapK 1 v = if v = 0 then 0 else 1 from rfl] at h
    split at h <;> omega
  · rw [show manyK 2 = 256 by decide, show ksize 2 = 1 from rfl]
    rw [show wrapK 2 v = IntKind.i8.wrap v from rfl, wrap_i8'] at *
    have : -256 ≤ (v + 128) % 256 - 128 := by omega
    generalize (v + 128) % 256 - 128 = X at *
    refine ⟨?_, by omega, by decide⟩
    simp [digs, List.range_succ]
  · rw [show manyK 3 = 65536 by decide, show ksize 3 = 2 from rfl]
    rw [show wrapK 3 v = IntKind.i16.wrap v from rfl, wrap_i16'] at *
    have : -65536 ≤ (v + 32768) % 65536 - 32768 := by omega
    generalize (v + 32768) % 65536 - 32768 = X at *
    refine ⟨?_, by omega, by decide⟩
    simp [digs, List.range_succ]
    omega
  · rw [show manyK 4 = 4294967296 by decide, show ksize 4 = 4 from rfl]
    rw [show wrapK 4 v = IntKind.i32.wrap v from rfl, IntKind.wrap_i32] at *
    have : -4294967296 ≤ (v + 2147483648) % 4294967296 - 2147483648 := by omega
    generalize (v + 2147483648) % 4294967296 - 2147483648 = X at *
    refine ⟨?_, by omega, by decide⟩
    simp [digs, List.range_succ]
    omega
  · rw [show wrapK 5 v = IntKind.u16.wrap v from rfl, IntKind.wrap_u16] at h
    omega
  · rw [show wrapK 6 v = IntKind.u16.wrap v from rfl, IntKind.wrap_u16] at h
    omega
  · rw [show wrapK 7 v = IntKind.u32.wrap v from rfl, IntKind.wrap_u32] at h
    omega
  · rw [wrapK_out ho] at h
    omega
set_option maxRecDepth 100000 in
set_option maxHeartbeats 4000000 in
theorem rput_any (area : ByteArray) (at_ k v : Int) (w : World) (hs : area.size ≤ 1000000) (h : thereK area.size at_ k = true) (hv : (Lit.int .i64 v).wf = true) :
    Calls Try.prog 80 #[.string area, .int .i64 at_, .int .i64 k, .int .i64 v] w fun e w' => e = .returned (.string (putS area at_ k v)) ∧ Below w.heap.size w w' := by
  have HW := Lib.hid (fun W => rwrap_any k v W hv)
  have HM := Lib.hid (fun W => many_any k W)
  have HS := Lib.hid (fun W => rsize_any k W)
  have hr := ksize_range k
  have hV := wrapK_range k v
  have hD := digs_many k v
  have hh := of_decide_eq_true h
  clear h hv
  unfold putS
  have hA : at_ = (at_.toNat : Int) := by omega
  have hK : ksize k = ((ksize k).toNat : Int) := by omega
  have HP := Lib.hid (put_parts area at_.toNat (ksize k).toNat (wrapK k v) (by omega))
  generalize strOfNums ((List.range area.size).map (putF (areaF area) (at_.toNat + (ksize k).toNat) (ksize k).toNat (wrapK k v))) = out at *
  generalize wrapK k v = V at *
  generalize manyK k = M at *
  generalize at_.toNat = A at *
  generalize (ksize k).toNat = s at *
  rw [hK] at hh hr HS
  clear hK
  subst hA
  have hone := fun W a => run_one_byte (P := Try.prog) W 54 9 5 Try.underlying54 Try.underlying5 Try.underlying9 a
  by_cases hneg : V < 0
  · obtain ⟨hdg, hn0, hM⟩ := hD hneg
    have hn1 : V + M ≤ 4294967295 := by omega
    clear hD
    go_enter Try.func80, Try.ntmps80
    go_wp2_with fail
    refine (HW.out _).mono ?_
    rintro e w1 ⟨rfl, hb⟩
    go_wp2_with fail
    refine (HM.out _).mono ?_
    rintro e w2 ⟨rfl, b2⟩
    replace hb := below_then hb b2
    clear b2
    go_wp2_with fail
    generalize V + M = N at *
    go_loopw [9, 10, 11] (fun u q i wr => ∃ (t : Nat) (U : Int), t ≤ s ∧ i = .int .i64 t ∧ u = .int .i64 U ∧ U = N / 256 ^ t ∧ q = .string (strOfNums (digs N t)) ∧ Below w.heap.size w wr) (fun _ _ i _ => s - (intOf i).toNat)
    case atStart => exact ⟨0, N, by omega, rfl, rfl, by simp, rfl, hb⟩
    case round =>
      clear hb
      obtain ⟨t, U, ht, rfl, rfl, hU, rfl, hb⟩ := hrel
      by_cases hlt : t < s
      · have hUr := div_range N t (by omega) (by omega) hn1
        have hU0 : 0 ≤ N / 256 ^ t := Int.ediv_nonneg hn0 (Int.pow_nonneg (by decide))
        rw [← hU] at hUr hU0
        have hU2 : U / 256 = N / 256 ^ (t + 1) := by rw [hU, Int.ediv_ediv_of_nonneg (by exact Int.pow_nonneg (by decide)), Int.pow_succ]
        have HX := Lib.hid (show strOfNums [U % 256] ++ strOfNums (digs N t) = strOfNums (digs N (t + 1)) by rw [strOfNums_append, digs_succ, hU]; rfl)
        have hlen : (strOfNums (digs N t)).size ≤ 4 := by rw [strOfNums_size, digs_length]; omega
        have HU2 := Lib.hid hU2
        clear hU hU2
        generalize strOfNums (digs N t) = q at *
        have hsz := one_size
        go_wp2_with fail
        refine (HS.out _).mono ?_
        rintro e w5 ⟨rfl, b5⟩
        replace hb := below_then hb b5
        clear b5
        have hb2 := hb.alloc hb.size (.cells #[.int .u8 (U % 256)] 5)
        go_wp2_with fail
        exact ⟨⟨t + 1, U / 256, by omega, by go_num, rfl, HU2.out, val_string HX.out, hb2⟩, by simp [intOf]; omega⟩
      · obtain rfl : t = s := by omega
        go_wp2_with fail
        refine (HS.out _).mono ?_
        rintro e w5 ⟨rfl, b5⟩
        replace hb := below_then hb b5
        clear b5
        have hlen : (strOfNums (digs N t)).size = t := by rw [strOfNums_size, digs_length]
        rw [hdg] at *
        generalize strOfNums (digs V t) = q at *
        go_wp2_with fail
        go_quiet (fail)
        go_wp2_with fail
        go_ret
        exact ⟨ret_str HP.out, below_drewN hb _⟩
  · have hdg : digs V s = digs V s := rfl
    have hn0 : 0 ≤ V := by omega
    have hn1 : V ≤ 4294967295 := by omega
    clear hD
    obtain ⟨N, hN⟩ : ∃ N, N = V := ⟨_, rfl⟩
    rw [← hN] at hn0 hn1
    have hdg : digs N s = digs V s := by rw [hN]
    rw [← hN] at HW
    have hNN : ¬ N < 0 := by omega
    clear hN
    go_enter Try.func80, Try.ntmps80
    go_wp2_with fail
    refine (HW.out _).mono ?_
    rintro e w1 ⟨rfl, hb⟩
    go_wp2_with fail
    go_loopw [9, 10, 11] (fun u q i wr => ∃ (t : Nat) (U : Int), t ≤ s ∧ i = .int .i64 t ∧ u = .int .i64 U ∧ U = N / 256 ^ t ∧ q = .string (strOfNums (digs N t)) ∧ Below w.heap.size w wr) (fun _ _ i _ => s - (intOf i).toNat)
    case atStart => exact ⟨0, N, by omega, rfl, rfl, by simp, rfl, hb⟩
    case round =>
      clear hb
      obtain ⟨t, U, ht, rfl, rfl, hU, rfl, hb⟩ := hrel
      by_cases hlt : t < s
      · have hUr := div_range N t (by omega) (by omega) hn1
        have hU0 : 0 ≤ N / 256 ^ t := Int.ediv_nonneg hn0 (Int.pow_nonneg (by decide))
        rw [← hU] at hUr hU0
        have hU2 : U / 256 = N / 256 ^ (t + 1) := by rw [hU, Int.ediv_ediv_of_nonneg (by exact Int.pow_nonneg (by decide)), Int.pow_succ]
        have HX := Lib.hid (show strOfNums [U % 256] ++ strOfNums (digs N t) = strOfNums (digs N (t + 1)) by rw [strOfNums_append, digs_succ, hU]; rfl)
        have hlen : (strOfNums (digs N t)).size ≤ 4 := by rw [strOfNums_size, digs_length]; omega
        have HU2 := Lib.hid hU2
        clear hU hU2
        generalize strOfNums (digs N t) = q at *
        have hsz := one_size
        go_wp2_with fail
        refine (HS.out _).mono ?_
        rintro e w5 ⟨rfl, b5⟩
        replace hb := below_then hb b5
        clear b5
        have hb2 := hb.alloc hb.size (.cells #[.int .u8 (U % 256)] 5)
        go_wp2_with fail
        exact ⟨⟨t + 1, U / 256, by omega, by go_num, rfl, HU2.out, val_string HX.out, hb2⟩, by simp [intOf]; omega⟩
      · obtain rfl : t = s := by omega
        go_wp2_with fail
        refine (HS.out _).mono ?_
        rintro e w5 ⟨rfl, b5⟩
        replace hb := below_then hb b5
        clear b5
        have hlen : (strOfNums (digs N t)).size = t := by rw [strOfNums_size, digs_length]
        rw [hdg] at *
        generalize strOfNums (digs V t) = q at *
        go_wp2_with fail
        go_quiet (fail)
        go_wp2_with fail
        go_ret
        exact ⟨ret_str HP.out, below_drewN hb _⟩
end Go.Proofs.Ytdhfkcodacmbfaa
