/- The walk of the law IecBytes. -/
import Derived.Test.YtdhfkcodacmbfaaIecO
import Derived.Deep.RegionHeld3
set_option linter.unusedVariables false
set_option linter.unusedSimpArgs false
namespace Go.Proofs.Ytdhfkcodacmbfaa
open Go.RowKit

structure SB (w0 : World) (X g n : Nat) (a0 a1 : Int) (f : Nat → Int) (w : World) : Prop where
  blk : Blk w X #[.int .i64 a0, .int .i64 a1] 96
  row : Row w g n (fun j => .int .u8 (f j))
  bel : Below w0.heap.size w0 w
theorem SB.drew {w0 : World} {X g n : Nat} {a0 a1 : Int} {f : Nat → Int} {w : World} (h : SB w0 X g n a0 a1 f w) : SB w0 X g n a0 a1 f w.drew := ⟨h.blk.drew, h.row.drew, h.bel.drew⟩
theorem SB.below {w0 : World} {X g n : Nat} {a0 a1 : Int} {f : Nat → Int} {w w' : World} (h : SB w0 X g n a0 a1 f w) (hn : 0 < n) (b : Below w.heap.size w w') : SB w0 X g n a0 a1 f w' :=
  ⟨h.blk.keep b, h.row.below b (h.row.lt hn), below_then h.bel b⟩
theorem SB.of {p q r : Prop} {w0 : World} {X g n : Nat} {a0 a1 : Int} {f : Nat → Int} {w : World} (h : p ∧ q ∧ r ∧ SB w0 X g n a0 a1 f w) : SB w0 X g n a0 a1 f w := h.2.2.2
theorem area_self (area : ByteArray) : strOfNums ((List.range area.size).map (areaF area)) = area := by
  have h := ext_list area 0 area.size (by omega) (by omega)
  rw [ByteArray.extract_zero_size] at h
  refine Eq.trans ?_ h.symm
  congr 1
  simp
set_option maxRecDepth 100000 in
set_option maxHeartbeats 1500000 in
theorem ibytes_walk (area : ByteArray) (a0 a1 v : Int) (w : World) (ws : area.size ≤ maxLen) (w0 : (Lit.int .i64 a0).wf = true) (w1 : (Lit.int .i64 a1).wf = true) (wv : (Lit.int .i64 v).wf = true) :
    Calls Try.prog 16 #[.string area, .agg #[.int .i64 a0, .int .i64 a1], .int .i64 v] w fun e w' => e = .returned (.bool true) ∧ Below w.heap.size w w' := by
  have HA := Lib.hid (fun W => iawake_any W)
  have hX := Blk.new w #[Value.int .i64 a0, .int .i64 a1] 96
  have hb0 := (Below.refl w.heap.size w).alloc (Nat.le_refl _) (.cells #[Value.int .i64 a0, .int .i64 a1] 96)
  have ws' : area.size ≤ 9223372036854775807 := ws
  clear w0 w1 ws
  by_cases h100 : area.size ≤ 100
  · have HT := Lib.hid (fun W => rthere_any area.size a0 a1 W (by omega) (by omega))
    have hcv := fun W => Lib.run_convert_string_bytes (P := Try.prog) W 9 54 5 area Try.underlying9 Try.underlying54 Try.underlying5
    cases ht : thereK area.size a0 a1 with
    | false =>
      have HG := Lib.hid (fun W => get_no area a0 a1 W (by omega) ht)
      have HP := Lib.hid (fun A cap W => put_no A area.size cap a0 a1 v W (by omega) ht)
      have HR := Lib.hid (fun (W : World) (g cap : Nat) (h : Row W g area.size (fun j => .int .u8 (areaF area j))) => row_string (P := Try.prog) h 54 9 5 Try.underlying54 Try.underlying5 Try.underlying9 cap)
      rw [area_self] at HR
      rw [ht] at HT
      clear ht
      go_enter Try.func16, Try.ntmps16
      go_wp2_with fail
      generalize w.alloc (.cells #[Value.int .i64 a0, .int .i64 a1] 96) = w2 at *
      refine (HA.out _).mono ?_
      rintro e w3 ⟨rfl, bn⟩
      replace hX := hX.keep bn
      have hb := below_lift hb0 bn hb0.size
      clear bn hb0
      have c0 := hX.cell (j := 0) (v := .int .i64 a0) rfl
      have c1 := hX.cell (j := 1) (v := .int .i64 a1) rfl
      have hgl := hX.lt
      go_wp2_with fail
      refine (HT.out _).mono ?_
      rintro e w4 ⟨rfl, bn⟩
      replace hX := hX.keep bn
      replace hb := below_then hb bn
      clear bn c0 c1 hgl
      have c0 := hX.cell (j := 0) (v := .int .i64 a0) rfl
      have c1 := hX.cell (j := 1) (v := .int .i64 a1) rfl
      have hgl := hX.lt
      go_wp2_with fail
      refine (HG.out _).mono ?_
      rintro e w5 ⟨rfl, bn⟩
      replace hX := hX.keep bn
      replace hb := below_then hb bn
      clear bn c0 c1 hgl
      have hRg := hb.size
      replace hX := hX.keep (bytes_below w5 5 area)
      replace hb := below_lift hb (bytes_below w5 5 area) hb.size
      have R : Row (Lib.bytesWorld w5 5 area) w5.heap.size area.size (fun j => .int .u8 (areaF area j)) := bytes_row w5 5 area
      have c0 := hX.cell (j := 0) (v := .int .i64 a0) rfl
      have c1 := hX.cell (j := 1) (v := .int .i64 a1) rfl
      have hgl := hX.lt
      go_wp2_with fail
      generalize Lib.bytesWorld w5 5 area = w6 at *
      generalize w5.heap.size = g at *
      refine (HP.out _ _ _).mono ?_
      rintro e w7 ⟨rfl, bn⟩
      have R7 := HR.out _ g (grownCap w5 area.size 0 5) (⟨fun j hj => (bn.cell (p := ⟨g, j, none⟩) (R.lt (by omega))).trans (R.cell j hj), fun j hj => (bn.frozen (p := ⟨g, j, none⟩) (R.lt (by omega))).trans (R.free j hj)⟩ : Row w7 g area.size (fun j => .int .u8 (areaF area j)))
      replace hb := below_then hb bn
      clear bn c0 c1 hgl hX R
      go_wp2_with fail
      go_ret
      exact ⟨ret_bool (by first | rfl | simp), hb⟩
    | true =>
      have HG := Lib.hid (fun W => get_yes area a0 a1 W (by omega) ht)
      have HP := Lib.hid (fun W0 g cap W hR hb hg => put_yes W0 g area.size cap (areaF area) a0 a1 v W (by omega) ht wv hR hb hg)
      have HR := Lib.hid (fun (W : World) (g cap : Nat) (h : Row W g area.size (fun j => .int .u8 (putF (areaF area) (a0.toNat + (ksize a1).toNat) (ksize a1).toNat (wrapK a1 v) j))) => row_string (P := Try.prog) h 54 9 5 Try.underlying54 Try.underlying5 Try.underlying9 cap)
      rw [show strOfNums ((List.range area.size).map (putF (areaF area) (a0.toNat + (ksize a1).toNat) (ksize a1).toNat (wrapK a1 v))) = putS area a0 a1 v from rfl] at HR
      have HG2 := Lib.hid (fun W => rget_yes area a0 a1 W (by omega) ht)
      have HP2 := Lib.hid (fun W => rput_any area a0 a1 v W (by omega) ht wv)
      have hn0 : 0 < area.size := by
        have hh := of_decide_eq_true ht
        omega
      rw [ht] at HT
      clear ht wv
      generalize putS area a0 a1 v = out at *
      generalize putF (areaF area) (a0.toNat + (ksize a1).toNat) (ksize a1).toNat (wrapK a1 v) = f at *
      generalize getK area a0 a1 = got at *
      go_enter Try.func16, Try.ntmps16
      go_wp2_with fail
      generalize w.alloc (.cells #[Value.int .i64 a0, .int .i64 a1] 96) = w2 at *
      refine (HA.out _).mono ?_
      rintro e w3 ⟨rfl, bn⟩
      replace hX := hX.keep bn
      have hb := below_lift hb0 bn hb0.size
      clear bn hb0
      have c0 := hX.cell (j := 0) (v := .int .i64 a0) rfl
      have c1 := hX.cell (j := 1) (v := .int .i64 a1) rfl
      have hgl := hX.lt
      go_wp2_with fail
      refine (HT.out _).mono ?_
      rintro e w4 ⟨rfl, bn⟩
      replace hX := hX.keep bn
      replace hb := below_then hb bn
      clear bn c0 c1 hgl
      have c0 := hX.cell (j := 0) (v := .int .i64 a0) rfl
      have c1 := hX.cell (j := 1) (v := .int .i64 a1) rfl
      have hgl := hX.lt
      go_wp2_with fail
      refine (HG.out _).mono ?_
      rintro e w5 ⟨rfl, bn⟩
      replace hX := hX.keep bn
      replace hb := below_then hb bn
      clear bn c0 c1 hgl
      have hXb := hX.keep (bytes_below w5 5 area)
      have R : Row (Lib.bytesWorld w5 5 area) w5.heap.size area.size (fun j => .int .u8 (areaF area j)) := bytes_row w5 5 area
      have bb := bytes_below w5 5 area
      have c0 := hXb.cell (j := 0) (v := .int .i64 a0) rfl
      have c1 := hXb.cell (j := 1) (v := .int .i64 a1) rfl
      have hgl := hXb.lt
      have HPP := Lib.hid (fun cap => HP.out w5 w5.heap.size cap _ R bb (Nat.le_refl _))
      clear HP hXb
      go_wp2_with fail
      generalize Lib.bytesWorld w5 5 area = w6 at *
      generalize grownCap w5 area.size 0 5 = cap at *
      refine (HPP.out cap).mono ?_
      rintro e w7 ⟨rfl, R7, b7⟩
      replace hX := hX.keep b7
      replace hb := below_then hb b7
      clear HPP R bb c0 c1 hgl b7
      generalize w5.heap.size = g at *
      have HS : SB w w.heap.size g area.size a0 a1 f w7 := ⟨hX, R7, hb⟩
      have HALL : ∀ W, SB w w.heap.size g area.size a0 a1 f W → (W.cell? ⟨w.heap.size, 0, none⟩ = some (.int .i64 a0) ∧ W.cell? ⟨w.heap.size, 1, none⟩ = some (.int .i64 a1) ∧ (convert 54 9 (.slice (some ⟨g, 0, none⟩) area.size cap)).run Try.prog W = .ok (.string out) W ∧ SB w w.heap.size g area.size a0 a1 f W) :=
        fun W h => ⟨h.blk.cell (j := 0) rfl, h.blk.cell (j := 1) rfl, HR.out W g cap h.row, h⟩
      have HC := Lib.hid HALL
      have c0 := (HALL _ HS).1
      have c1 := (HALL _ HS).2.1
      have hcv7 := (HALL _ HS).2.2.1
      clear HALL hX R7 hb HR
      go_wp2_with fail
      go_region_held3 (fun W => W.cell? ⟨w.heap.size, 0, none⟩ = some (.int .i64 a0) ∧ W.cell? ⟨w.heap.size, 1, none⟩ = some (.int .i64 a1) ∧ (convert 54 9 (.slice (some ⟨g, 0, none⟩) area.size cap)).run Try.prog W = .ok (.string out) W ∧ SB w w.heap.size g area.size a0 a1 f W)
        ((refine HC.out _ ?_; first | assumption | (refine SB.drew ?_; assumption)))
        (first | (go_at_call 79; refine (HG2.out _).mono ?_; rintro e w8 ⟨rfl, b8⟩; have hS8 := SB.below (SB.of (by assumption)) hn0 b8) | (go_at_call 80; refine (HP2.out _).mono ?_; rintro e w8 ⟨rfl, b8⟩; have hS8 := SB.below (SB.of (by assumption)) hn0 b8))
      all_goals
        go_wp2_with fail
        go_ret
        exact ⟨ret_bool (by first | rfl | simp), hS8.bel⟩
  · go_enter Try.func16, Try.ntmps16
    go_wp2_with fail
    generalize w.alloc (.cells #[Value.int .i64 a0, .int .i64 a1] 96) = w2 at *
    refine (HA.out _).mono ?_
    rintro e w3 ⟨rfl, bn⟩
    have hb := below_lift hb0 bn hb0.size
    go_wp2_with fail
    go_ret
    exact ⟨rfl, hb⟩
end Go.Proofs.Ytdhfkcodacmbfaa
