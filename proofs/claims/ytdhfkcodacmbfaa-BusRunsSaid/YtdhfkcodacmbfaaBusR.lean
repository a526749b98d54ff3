/- The walk of the law BusRuns. -/
import Derived.Test.YtdhfkcodacmbfaaBusQ
import Derived.Deep.RegionHeld3
set_option linter.unusedVariables false
set_option linter.unusedSimpArgs false
namespace Go.Proofs.Ytdhfkcodacmbfaa
open Go.RowKit

theorem BR.ofS {a b : Prop} {w0 w : World} {B R : Nat} {st st' : BusS} {ks : List KeepB} (h : a ∧ b ∧ BR w0 B R st st' ks w) : BR w0 B R st st' ks w := h.2.2
theorem BR.sdrew {w0 w : World} {B R : Nat} {st st' : BusS} {ks : List KeepB} {a b : Addr} {x y : Option Value} (h : w.cell? a = x ∧ w.cell? b = y ∧ BR w0 B R st st' ks w) : w.drew.cell? a = x ∧ w.drew.cell? b = y ∧ BR w0 B R st st' ks w.drew := ⟨h.1, h.2.1, h.2.2.drew⟩
set_option maxRecDepth 100000 in
set_option maxHeartbeats 8000000 in
theorem runs_walk (A : Option Addr) (len cap : Nat) (f : Nat → ActS) (w : World) (hI : ActsR w A len f) (hl : len ≤ 9223372036854775807) :
    Calls Try.prog 14 #[.slice A len cap] w fun e w' => e = .returned (.bool true) ∧ Below w.heap.size w w' := by
  have HA := Lib.hid (fun W => bawake_any W)
  have HS := Lib.hid (fun W hW => asmall_any A len cap f 150 W hW hl)
  have HN := Lib.hid (fun W => bnew_any W)
  have HI := Lib.hid hI
  have HD := Lib.hid (fun B R st st' ks a W (h : BR w B R st st' ks W) oka hs => do_br a h oka hs)
  have HD2 := Lib.hid (fun B R st st' ks a W (h : BR w B R st st' ks W) oka hs => should_br a h oka hs)
  have HL := Lib.hid (fun B R st st' ks W (h : BR w B R st st' ks W) => len_br h)
  have HF := Lib.hid (fun B R st st' ks W (h : BR w B R st st' ks W) => fault_br h)
  have HP := Lib.hid (fun B R st st' ks k W (h : BR w B R st st' ks W) => piece_br k h)
  unfold SmallTo at HS
  clear hI
  go_enter Try.func14, Try.ntmps14
  go_wp2_with fail
  refine (HA.out _).mono ?_
  rintro e w1 ⟨rfl, b⟩
  have Hb1 := Lib.hid b
  clear b
  go_wp2_with fail
  refine (HS.out _ (HI.out.keep Hb1.out)).mono ?_
  rintro e w2 ⟨bo, rfl, hsm, b⟩
  have HSM := Lib.hid hsm
  have Hb2 := Lib.hid (below_then Hb1.out b)
  clear b hsm
  cases bo with
  | false =>
    go_wp2_with fail
    go_ret
    exact ⟨rfl, Hb2.out⟩
  | true =>
    go_wp2_with fail
    refine (HN.out _).mono ?_
    rintro e w3 ⟨rfl, rfl⟩
    go_wp2_with fail
    have H0 := Lib.hid (br_new w w2 Hb2.out)
    have hl150 := (HSM.out (by trivial)).1
    have Hsz := Lib.hid (HSM.out (by trivial)).2
    clear HSM
    generalize (w2.alloc (.cells #[.slice none 0 0, .bool false] 147)).alloc (.cells #[.slice none 0 0, .bool false] 85) = w4 at *
    generalize w2.heap.size + 1 = R at *
    generalize w2.heap.size = B at *
    have hlz : (len : Int) ≤ 150 := hl150
    go_loopw [28] (fun x wr => ∃ (i : Nat) (st : BusS), i ≤ len ∧ x = .int .i64 i ∧ BR w B R st st [] wr) (fun x _ => len - (intOf x).toNat)
    case atStart => exact ⟨0, _, by omega, rfl, H0.out⟩
    case round =>
      clear H0
      obtain ⟨i, st, hil, rfl, h⟩ := hrel
      by_cases hlt : i < len
      · have hlt' : (i : Int) < (len : Int) := by omega
        obtain ⟨g, off, rfl, c0, c1, c2, c3, c4⟩ := (HI.out.keep h.bel).at_ i hlt
        have hs3 := Hsz.out i hlt
        have hoka := Lib.hid (HI.out.ok i hlt)
        have hbx := h.box (f i).cells 65
        have H1 := HD.out B R st st _ (f i) _ hbx hoka.out (by omega)
        have H2 := fun W (hW : BR w B R (actS st (f i)).1 st [⟨wr.heap.size, (f i).cells, 65⟩] W) => HD2.out B R (actS st (f i)).1 st _ (f i) W hW hoka.out (by omega)
        have H3 := fun W (hW : BR w B R (actS st (f i)).1 (actS st (f i)).1 [⟨wr.heap.size, (f i).cells, 65⟩] W) => HL.out B R _ _ _ W hW
        have H4 := fun W (hW : BR w B R (actS st (f i)).1 (actS st (f i)).1 [⟨wr.heap.size, (f i).cells, 65⟩] W) => HF.out B R _ _ _ W hW
        unfold ActS.cells at H1 H2 H3 H4
        generalize f i = a at *
        have H1 := Lib.hid H1
        have H2 := Lib.hid H2
        have H3 := Lib.hid H3
        have H4 := Lib.hid H4
        generalize (actS st a).2.1 = s1 at *
        generalize (actS st a).2.2 = e1 at *
        generalize (actS st a).1 = st1 at *
        have hbx := Lib.hid hbx
        clear h
        go_wp2_with fail
        refine (H1.out).mono ?_
        rintro e w5 ⟨rfl, h⟩
        have y := h.blk (k := ⟨wr.heap.size, #[.int .u8 a.what, .int .i64 a.k, .int .i64 a.at_, .int .u16 a.pat, .string a.s], 65⟩) (by simp)
        have d0 := y.cell (j := 0) (v := .int .u8 a.what) rfl
        have d1 := y.cell (j := 1) (v := .int .i64 a.k) rfl
        have d2 := y.cell (j := 2) (v := .int .i64 a.at_) rfl
        have d3 := y.cell (j := 3) (v := .int .u16 a.pat) rfl
        have d4 := y.cell (j := 4) (v := .string a.s) rfl
        have h := Lib.hid h
        clear y c0 c1 c2 c3 c4
        go_wp2_with fail
        refine (H2.out _ h.out).mono ?_
        rintro e w6 ⟨rfl, h⟩
        have HK : Hid (∀ W, BR w B R st1 st1 [⟨wr.heap.size, #[.int .u8 a.what, .int .i64 a.k, .int .i64 a.at_, .int .u16 a.pat, .string a.s], 65⟩] W → ∃ A cap, W.cell? ⟨R, 0, none⟩ = some (.slice A st1.l.length cap) ∧ W.cell? ⟨R, 1, none⟩ = some (.bool st1.f)) := Lib.hid (fun W hW => hW.ref)
        obtain ⟨A1, cap1, r0, r1⟩ := HK.out _ h
        have hh := Lib.hid h
        clear h d0 d1 d2 d3 d4
        go_wp2_with fail
        have hS6 := Lib.hid (show w6.cell? ⟨R, 0, none⟩ = some (.slice A1 st1.l.length cap1) ∧ w6.cell? ⟨R, 1, none⟩ = some (.bool st1.f) ∧ BR w B R st1 st1 [⟨wr.heap.size, #[.int .u8 a.what, .int .i64 a.k, .int .i64 a.at_, .int .u16 a.pat, .string a.s], 65⟩] w6 from ⟨r0, r1, hh.out⟩)
        go_region_held3 (fun W => W.cell? ⟨R, 0, none⟩ = some (.slice A1 st1.l.length cap1) ∧ W.cell? ⟨R, 1, none⟩ = some (.bool st1.f) ∧ BR w B R st1 st1 [⟨wr.heap.size, #[.int .u8 a.what, .int .i64 a.k, .int .i64 a.at_, .int .u16 a.pat, .string a.s], 65⟩] W)
          ((first | assumption | exact BR.sdrew hS6.out | exact BR.sdrew (by assumption)))
          (first | (go_at_call 56; (with_reducible refine (H3.out _ (BR.ofS (by assumption))).mono ?_); rintro e w9 ⟨rfl, rfl⟩) | (go_at_call 57; (with_reducible refine (H4.out _ (BR.ofS (by assumption))).mono ?_); rintro e w9 ⟨rfl, rfl⟩))
        go_wp2_with fail
        go_roundw
        case rel => exact ⟨i + 1, st1, by omega, by go_num, by first | exact hh.out.less.drew | exact hh.out.less⟩
        case measure => simp [intOf]; omega
      · obtain rfl : i = len := by omega
        have hlt' : ¬ (i : Int) < (i : Int) := by omega
        obtain ⟨A1, cap1, r0, r1⟩ := h.ref
        have hh := Lib.hid h
        have hlen := h.ok.len
        clear h hl150 hl
        go_wp2_with fail
        clear r0 r1
        obtain ⟨wo, hwo⟩ : ∃ wo : World, wo = wr := ⟨_, rfl⟩
        rw [← hwo]
        have hh := Lib.hid (show BR w B R st st [] wo by rw [hwo]; exact hh.out)
        clear hwo
        go_loopw [77] (fun x wr => ∃ (k : Nat), k ≤ st.l.length ∧ x = .int .i64 k ∧ BR w B R st st [] wr) (fun x _ => st.l.length - (intOf x).toNat)
        case atStart => exact ⟨0, by omega, rfl, hh.out⟩
        case round =>
          clear hh
          obtain ⟨k, hkl, rfl, h⟩ := hrel
          by_cases hk : k < st.l.length
          · have hk' : (k : Int) < (st.l.length : Int) := by omega
            obtain ⟨p, hp⟩ : ∃ p, st.l[k]? = some p := ⟨st.l[k], List.getElem?_eq_getElem hk⟩
            have hat : atS st.l (k : Int) = some p := by rw [atS_nat, hp]
            have H1 := HP.out B R st st [] (k : Int) _ h
            unfold pieceA at H1
            simp only [hat] at H1
            unfold PieceS.agg at H1
            have H1 := Lib.hid H1
            have HRP := Lib.hid (fun W (hW : BR w B R st st [⟨W.heap.size, #[], 0⟩] W) => hW)
            have hp' := Lib.hid hp
            clear h hp hat HRP
            go_wp2_with fail
            refine (H1.out).mono ?_
            rintro e w7 ⟨rfl, h⟩
            obtain ⟨g, cap2, e0, hc2, P⟩ := h.refp hp'.out
            obtain ⟨p0, p1, p2, p3, _, _, _, _⟩ := P
            have hgl := World.block_lt_of_cell? w7 _ p0
            have hRl := World.block_lt_of_cell? w7 _ e0
            have hh := Lib.hid (h.below ((Below.refl _ _).alloc (Nat.le_refl _) (.cells #[.string p.s, .int .i64 p.src, .int .u32 (p.dest : Int), .bool p.hurt] 69)))
            clear h
            go_wp2_with fail
            go_quiet (fail)
            go_wp2_with fail
            go_roundw
            case rel => exact ⟨k + 1, by omega, by go_num, BR.drewN hh.out _⟩
            case measure => simp [intOf]; omega
          · obtain rfl : k = st.l.length := by omega
            have H1 := HP.out B R st st [] (-1) _ h
            have H2 := fun W hW => HP.out B R st st [] (st.l.length : Int) W hW
            have a1 : atS st.l (-1) = none := rfl
            have a2 : atS st.l (st.l.length : Int) = none := by rw [atS_nat, List.getElem?_eq_none (Nat.le_refl _)]
            unfold pieceA at H1 H2
            simp only [a1, a2] at H1 H2
            have H1 := Lib.hid H1
            have H2 := Lib.hid H2
            unfold pz at H1 H2
            clear h a1 a2
            go_wp2_with fail
            refine (H1.out).mono ?_
            rintro e w7 ⟨rfl, h⟩
            obtain ⟨A2, cap2, r0, r1⟩ := h.ref
            have hRl := World.block_lt_of_cell? w7 _ r0
            have hh := Lib.hid (h.below ((Below.refl _ _).alloc (Nat.le_refl _) (.cells #[.string ⟨#[]⟩, .int .i64 0, .int .u32 0, .bool false] 69)))
            clear h r1
            go_wp2_with fail
            refine (H2.out _ hh.out).mono ?_
            rintro e w8 ⟨rfl, h8⟩
            have hz := Lib.hid (h8.below ((Below.refl _ _).alloc (Nat.le_refl _) (.cells #[.string ⟨#[]⟩, .int .i64 0, .int .u32 0, .bool false] 69)))
            clear h8
            go_wp2_with fail
            go_ret
            exact ⟨rfl, hz.out.bel⟩
end Go.Proofs.Ytdhfkcodacmbfaa
