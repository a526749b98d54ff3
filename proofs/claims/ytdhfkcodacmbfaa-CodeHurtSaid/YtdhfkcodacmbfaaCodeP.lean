/- Programs (code): a program read back, as the document has it. -/
import Derived.Test.YtdhfkcodacmbfaaCodeK
import Derived.Test.YtdhfkcodacmbfaaCodeE
import Derived.Test.YtdhfkcodacmbfaaCodeN
set_option linter.unusedVariables false
set_option linter.unusedSimpArgs false
namespace Go.Proofs.Ytdhfkcodacmbfaa
open Go.RowKit

set_option maxRecDepth 100000 in
set_option maxHeartbeats 8000000 in
theorem rdecode_any (s : ByteArray) (w : World) (hs : s.size ≤ 10000) : Calls Try.prog 93 #[.string s] w (DecTo (decS s) w) := by
  unfold decS
  by_cases hz : 2 ≤ s.size
  · have hz0 : ¬ (s.size : Int) < 2 := by omega
    have hz1 : (0 : Int) ≤ (s.size : Int) - 2 := by omega
    have hz2 : (s.size : Int) ≤ 9223372036854775807 := by omega
    have hz3 : (2 : Int) ≤ (s.size : Int) := by omega
    have hcut : ((s.size : Int) - 2).toNat = s.size - 2 := by omega
    have hp : (s.extract 0 (s.size - 2)).size ≤ 10000 := by simp; omega
    have HS := Lib.hid (fun W => refsealed_any (s.extract 0 (s.size - 2)) W (by omega))
    by_cases h2 : moreI 65535 s.data.toList = 0
    · rw [if_pos ⟨hz, h2⟩]
      have he := (open_iff s hz).1 h2
      rw [he] at HS
      clear he h2
      have ok := ok_new (s.extract 0 (s.size - 2)) (by omega)
      have lk := like_new (s.extract 0 (s.size - 2)) (by omega)
      have HBy := Lib.hid (fun W B hW => rnumber_any ⟨s.extract 0 (s.size - 2), false⟩ 1 (by decide) (by decide) B W lk.small hW)
      rw [lk.num 1 ok] at HBy
      have hn256 := num_lt1 _ ok
      have ok1 := EyeS.next_ok ok 1
      have lk1 := lk.next 1 ok
      unfold decPlain
      have HPQ : Hid (EyeS.s ⟨s.extract 0 (s.size - 2), 0, false⟩ = s.extract 0 (s.size - 2)) := rfl
      generalize EyeS.num ⟨s.extract 0 (s.size - 2), 0, false⟩ 1 = n at *
      generalize EyeS.next ⟨s.extract 0 (s.size - 2), 0, false⟩ 1 = e1 at *
      generalize RefS.next ⟨s.extract 0 (s.size - 2), false⟩ 1 = r1 at *
      have hn0 : (0 : Int) ≤ (n : Int) := by omega
      have hn1 : (n : Int) < 256 := by omega
      have hrs := lk1.small
      have hrs0 : (0 : Int) ≤ (r1.s.size : Int) := by omega
      have hrs1 : (r1.s.size : Int) ≤ 1000000 := by omega
      have hleft := lk1.left ok1
      rw [hleft, ← lk1.bl]
      have HLK := Lib.hid lk1
      clear ok lk hleft lk1
      obtain ⟨rs, lost⟩ := r1
      simp only at *
      cases lost with
      | true =>
        rw [if_pos (.inl rfl)]
        go_enter Try.func93, Try.ntmps93
        go_wp2_with fail
        refine (HS.out _).mono ?_
        rintro e w1 ⟨rfl, b1⟩
        go_wp2_with fail
        have hB := Blk.new w1 (RefS.cells ⟨s.extract 0 (s.size - 2), false⟩) 37
        have hb := b1.alloc b1.size (.cells (RefS.cells ⟨s.extract 0 (s.size - 2), false⟩) 37)
        have hwB := b1.size
        have hwl : w.heap.size ≤ (w1.alloc (.cells (RefS.cells ⟨s.extract 0 (s.size - 2), false⟩) 37)).heap.size := hb.size
        generalize w1.heap.size = B at *
        refine (HBy.out _ _ hB).mono ?_
        rintro e w3 ⟨rfl, c⟩
        replace hb := c.below hb hwl hwB
        replace hB := c.blk
        clear c hwl b1
        have c0 := hB.cell (j := 0) (v := .string rs) rfl
        have c1 := hB.cell (j := 1) (v := .bool true) rfl
        go_wp2_with fail
        go_ret2
        exact ⟨none, 0, rfl, insR_nil _ _, hb⟩
      | false =>
        by_cases hle : (rs.size : Int) = (n : Int) * 8
        · rw [if_neg (by simp; exact hle)]
          have hle' : (rs.size : Int) = 8 * (n : Int) := by omega
          clear hle
          by_cases h200 : 200 < n
          · rw [if_pos h200]
            have h200' : (200 : Int) < (n : Int) := by omega
            go_enter Try.func93, Try.ntmps93
            go_wp2_with fail
            refine (HS.out _).mono ?_
            rintro e w1 ⟨rfl, b1⟩
            go_wp2_with fail
            have hB := Blk.new w1 (RefS.cells ⟨s.extract 0 (s.size - 2), false⟩) 37
            have hb := b1.alloc b1.size (.cells (RefS.cells ⟨s.extract 0 (s.size - 2), false⟩) 37)
            have hwB := b1.size
            have hwl : w.heap.size ≤ (w1.alloc (.cells (RefS.cells ⟨s.extract 0 (s.size - 2), false⟩) 37)).heap.size := hb.size
            generalize w1.heap.size = B at *
            refine (HBy.out _ _ hB).mono ?_
            rintro e w3 ⟨rfl, c⟩
            replace hb := c.below hb hwl hwB
            replace hB := c.blk
            clear c hwl b1
            have c0 := hB.cell (j := 0) (v := .string rs) rfl
            have c1 := hB.cell (j := 1) (v := .bool false) rfl
            go_wp2_with fail
            go_ret2
            exact ⟨none, 0, rfl, insR_nil _ _, hb⟩
          · rw [if_neg h200]
            have h200' : ¬ (200 : Int) < (n : Int) := by omega
            obtain ⟨i0, hi, hi0, hi1, hi2⟩ := info_parts info174
            have hlen := decL_len e1 n
            have hokl := decL_ok ok1 n
            obtain ⟨d, hd⟩ : ∃ d, d = (if codeE (decL e1 n) = 0 then (decL e1 n, (0 : Int)) else ([], 3)) := ⟨_, rfl⟩
            rw [← hd]
            have HD := Lib.hid hd
            clear hd
            go_enter Try.func93, Try.ntmps93
            go_wp2_with fail
            refine (HS.out _).mono ?_
            rintro e w1 ⟨rfl, b1⟩
            go_wp2_with fail
            have hB := Blk.new w1 (RefS.cells ⟨s.extract 0 (s.size - 2), false⟩) 37
            have hb := b1.alloc b1.size (.cells (RefS.cells ⟨s.extract 0 (s.size - 2), false⟩) 37)
            have hwB := b1.size
            have hwl : w.heap.size ≤ (w1.alloc (.cells (RefS.cells ⟨s.extract 0 (s.size - 2), false⟩) 37)).heap.size := hb.size
            generalize w1.heap.size = B at *
            have hwBB := Lib.hid hwB
            refine (HBy.out _ _ hB).mono ?_
            rintro e w3 ⟨rfl, c⟩
            replace hb := c.below hb hwl hwB
            replace hB := c.blk
            clear c hwl b1
            have c0 := hB.cell (j := 0) (v := .string rs) rfl
            have c1 := hB.cell (j := 1) (v := .bool false) rfl
            clear HS HBy
            go_wp2_with fail
            clear c0 c1
            generalize w3 = w5 at *
            go_loopw [6, 7, 8] (fun v x _ wr => ∃ (k : Nat) (r : RefS), k ≤ n ∧ x = .int .i64 k ∧ Like (eyeK e1 k) r ∧ Blk wr B r.cells 37 ∧ wr.ownsRow (B + 1) 174 5 v k (ics (decL e1 k)) ∧ Below w.heap.size w wr) (fun _ x _ _ => n - (intOf x).toNat)
            case atStart => exact ⟨0, ⟨rs, false⟩, by omega, rfl, HLK.out, hB, by show World.ownsRow w5 (B + 1) 174 5 _ 0 []; exact World.ownsRow_nil _ _ _ _, hb⟩
            case round =>
              clear hB hb
              obtain ⟨k, r, hk, rfl, lk, hB, ho, b⟩ := hrel
              obtain ⟨A, c, rfl⟩ := own_shape ho
              by_cases hlt : k < n
              · have hltz : (k : Int) < (n : Int) := by omega
                have ok := eyeK_ok ok1 k
                have HIE := Lib.hid (show instrE (eyeK e1 k) = ⟨((eyeK e1 k).num 1 : Nat), (((eyeK e1 k).next 1).num 1 : Nat), ((((eyeK e1 k).next 1).next 1).num 1 : Nat), (((((eyeK e1 k).next 1).next 1).next 1).num 1 : Nat), numI ((((eyeK e1 k).next 1).num 1 : Nat) : Int) (((((((eyeK e1 k).next 1).next 1).next 1).next 1).num 4 : Nat) : Int)⟩ from rfl)
                have HS2 := Lib.hid ((decL_succ e1 k).trans (congrArg (fun z => decL e1 k ++ [z]) HIE.out))
                have HE := Lib.hid (show eyeK e1 (k + 1) = (((((eyeK e1 k).next 1).next 1).next 1).next 1).next 4 from rfl)
                clear HIE
                generalize eyeK e1 k = e at *
                have ok2 := EyeS.next_ok ok 1
                have ok3 := EyeS.next_ok ok2 1
                have ok4 := EyeS.next_ok ok3 1
                have ok5 := EyeS.next_ok ok4 1
                have lk2 := lk.next 1 ok
                have lk3 := lk2.next 1 ok2
                have lk4 := lk3.next 1 ok3
                have lk5 := lk4.next 1 ok4
                have lk6 := lk5.next 4 ok5
                have G0 := fun W hW => rnumber_any r 1 (by decide) (by decide) B W lk.small hW
                have G1 := fun W hW => rnumber_any (r.next 1) 1 (by decide) (by decide) B W lk2.small hW
                have G2 := fun W hW => rnumber_any ((r.next 1).next 1) 1 (by decide) (by decide) B W lk3.small hW
                have G3 := fun W hW => rnumber_any (((r.next 1).next 1).next 1) 1 (by decide) (by decide) B W lk4.small hW
                have G4 := fun W hW => rnumber_any ((((r.next 1).next 1).next 1).next 1) 4 (by decide) (by decide) B W lk5.small hW
                rw [lk.num 1 ok] at G0
                rw [lk2.num 1 ok2] at G1
                rw [lk3.num 1 ok3] at G2
                rw [lk4.num 1 ok4] at G3
                rw [lk5.num 4 ok5] at G4
                replace G0 := Lib.hid G0
                replace G1 := Lib.hid G1
                replace G2 := Lib.hid G2
                replace G3 := Lib.hid G3
                replace G4 := Lib.hid G4
                have l0 : (e.num 1 : Int) < 256 := by have := num_lt1 e ok; omega
                have l1 : ((e.next 1).num 1 : Int) < 256 := by have := num_lt1 _ ok2; omega
                have l2 : (((e.next 1).next 1).num 1 : Int) < 256 := by have := num_lt1 _ ok3; omega
                have l3 : ((((e.next 1).next 1).next 1).num 1 : Int) < 256 := by have := num_lt1 _ ok4; omega
                have l4 : (((((e.next 1).next 1).next 1).next 1).num 4 : Int) < 4294967296 := by have := num_lt4 _ ok5; omega
                have g0 : (0 : Int) ≤ (e.num 1 : Int) := by omega
                have g1 : (0 : Int) ≤ ((e.next 1).num 1 : Int) := by omega
                have g2 : (0 : Int) ≤ (((e.next 1).next 1).num 1 : Int) := by omega
                have g3 : (0 : Int) ≤ ((((e.next 1).next 1).next 1).num 1 : Int) := by omega
                have g4 : (0 : Int) ≤ (((((e.next 1).next 1).next 1).next 1).num 4 : Int) := by omega
                have HX := Lib.hid ho
                have HB := Lib.hid b
                have hc := Chg.refl hB
                have hwr := b.size
                have hBs := hB.lt
                have hl6 := Lib.hid lk6
                clear ho b ok ok2 ok3 ok4 ok5 lk lk2 lk3 lk4 lk5 lk6 hB
                generalize (e.num 1 : Int) = n0 at *
                generalize ((e.next 1).num 1 : Int) = n1 at *
                generalize (((e.next 1).next 1).num 1 : Int) = n2 at *
                generalize ((((e.next 1).next 1).next 1).num 1 : Int) = n3 at *
                generalize (((((e.next 1).next 1).next 1).next 1).num 4 : Int) = n4 at *
                generalize ((((e.next 1).next 1).next 1).next 1).next 4 = e5 at *
                generalize ((((r.next 1).next 1).next 1).next 1).next 4 = r5 at *
                generalize (((r.next 1).next 1).next 1).next 1 = r4 at *
                generalize ((r.next 1).next 1).next 1 = r3 at *
                generalize (r.next 1).next 1 = r2 at *
                generalize r.next 1 = r1 at *
                go_wp2_with fail
                refine (G0.out _ hc.blk).mono ?_
                rintro q w6 ⟨rfl, c6⟩
                replace hc := hc.trans c6
                clear c6
                go_wp2_with fail
                have hN := Blk.new w6 #[.int .i64 n0, .int .i64 0, .int .i64 0, .int .i64 0, .int .i64 0] 174
                have hrN := hc.size
                have hneN : w6.heap.size ≠ B := by omega
                replace hc := hc.alloc (.cells #[.int .i64 n0, .int .i64 0, .int .i64 0, .int .i64 0, .int .i64 0] 174)
                generalize hNN : w6.heap.size = N at *
                clear hNN
                generalize w6.alloc (.cells #[.int .i64 n0, .int .i64 0, .int .i64 0, .int .i64 0, .int .i64 0] 174) = w7 at *
                refine (G1.out _ hc.blk).mono ?_
                rintro q w8 ⟨rfl, c6⟩
                replace hN := c6.other hN hneN
                replace hc := hc.trans c6
                clear c6
                have x := hN.cell (j := 1) (v := .int .i64 0) rfl
                have f := hN.free 1
                go_wp2_with fail
                have hN' : Blk (w8.setCell ⟨N, 1, none⟩ (.int .i64 n1)) N #[.int .i64 n0, .int .i64 n1, .int .i64 0, .int .i64 0, .int .i64 0] 174 := hN.setCell 1 (.int .i64 n1)
                replace hN := hN'
                replace hc := hc.setFar ⟨N, 1, none⟩ (.int .i64 n1) hrN hneN.symm
                clear x f hN'
                generalize w8.setCell ⟨N, 1, none⟩ (.int .i64 n1) = w9 at *
                refine (G2.out _ hc.blk).mono ?_
                rintro q w10 ⟨rfl, c6⟩
                replace hN := c6.other hN hneN
                replace hc := hc.trans c6
                clear c6
                have x := hN.cell (j := 2) (v := .int .i64 0) rfl
                have f := hN.free 2
                go_wp2_with fail
                have hN' : Blk (w10.setCell ⟨N, 2, none⟩ (.int .i64 n2)) N #[.int .i64 n0, .int .i64 n1, .int .i64 n2, .int .i64 0, .int .i64 0] 174 := hN.setCell 2 (.int .i64 n2)
                replace hN := hN'
                replace hc := hc.setFar ⟨N, 2, none⟩ (.int .i64 n2) hrN hneN.symm
                clear x f hN'
                generalize w10.setCell ⟨N, 2, none⟩ (.int .i64 n2) = w11 at *
                refine (G3.out _ hc.blk).mono ?_
                rintro q w12 ⟨rfl, c6⟩
                replace hN := c6.other hN hneN
                replace hc := hc.trans c6
                clear c6
                have x := hN.cell (j := 3) (v := .int .i64 0) rfl
                have f := hN.free 3
                go_wp2_with fail
                have hN' : Blk (w12.setCell ⟨N, 3, none⟩ (.int .i64 n3)) N #[.int .i64 n0, .int .i64 n1, .int .i64 n2, .int .i64 n3, .int .i64 0] 174 := hN.setCell 3 (.int .i64 n3)
                replace hN := hN'
                replace hc := hc.setFar ⟨N, 3, none⟩ (.int .i64 n3) hrN hneN.symm
                clear x f hN'
                generalize w12.setCell ⟨N, 3, none⟩ (.int .i64 n3) = w13 at *
                refine (G4.out _ hc.blk).mono ?_
                rintro q w14 ⟨rfl, c6⟩
                replace hN := c6.other hN hneN
                replace hc := hc.trans c6
                clear c6
                have x0 := hN.cell (j := 0) (v := .int .i64 n0) rfl
                have x1 := hN.cell (j := 1) (v := .int .i64 n1) rfl
                have x2 := hN.cell (j := 2) (v := .int .i64 n2) rfl
                have x3 := hN.cell (j := 3) (v := .int .i64 n3) rfl
                have x4 := hN.cell (j := 4) (v := .int .i64 0) rfl
                have f4 := hN.free 4
                clear G0 G1 G2 G3 G4 hN
                by_cases h7 : n1 = 7
                · subst h7
                  have hcF : Chg wr (w14.setCell ⟨N, 4, none⟩ (.int .i64 n4)) B r5.cells 37 := (hc.setFar ⟨N, 4, none⟩ (.int .i64 n4) hrN hneN.symm)
                  have hoF := own_chg HX.out hcF (fun q => by have := (HX.out.lt B q).1; omega)
                  have hbF := hcF.below HB.out hwr hwBB.out
                  have hwF := hcF.size
                  simp only [World.size_setCell] at hwF
                  have hBF := hcF.blk
                  have HXF := Lib.hid hoF
                  have HBF := Lib.hid hbF
                  have HBkF := Lib.hid hBF
                  clear hcF hoF hbF hBF hc
                  go_wp2_with (at_builtin; (refine wpList_append_own _ rfl (.tmp 85) (.tmp 87) 117 rfl (B + 1) 174 i0 _ 5 40 Try.underlying117 hi hi0 hi1 hi2 rfl (by decide) _ _ _ rfl (HXF.out.alloc _) ⟨w14.heap.size, 0, none⟩ 1 1 [.int .i64 n0, .int .i64 7, .int .i64 n2, .int .i64 n3, .int .i64 (n4)] rfl rfl (World.news_of_block (cs := #[.int .i64 n0, .int .i64 7, .int .i64 n2, .int .i64 n3, .int .i64 (n4)]) (t := 174) (fr := (0, 0)) (by have h := heap_alloc_new (w14.setCell ⟨N, 4, none⟩ (.int .i64 n4)) (.cells #[.int .i64 n0, .int .i64 7, .int .i64 n2, .int .i64 n3, .int .i64 (n4)] 174); simp only [World.size_setCell] at h; exact h)) (by simp [Value.oneCell']) (by unfold maxLen; omega) (by omega) (by simp; omega) ?_))
                  intro v1 w16 hown hg _
                  have hg2 := World.grownBy.trans (World.grownBy_alloc (w14.setCell ⟨N, 4, none⟩ (.int .i64 n4)) (.cells #[.int .i64 n0, .int .i64 7, .int .i64 n2, .int .i64 n3, .int .i64 (n4)] 174) _) hg
                  have hown2 : w16.ownsRow (B + 1) 174 5 v1 (k + 1) (ics (decL e1 (k + 1))) := by
                    rw [HS2.out, ics_append, show numI 7 n4 = n4 from rfl]
                    exact hown
                  have hb2 := below_grown HBF.out hg2 (fun j e => by have := (HXF.out.lt j e).1; have := hwBB.out; omega) HBF.out.size
                  have hB2 : Blk w16 B r5.cells 37 := ⟨(hg2.block B HBkF.out.lt (fun q => by have := (HXF.out.lt B q.symm).1; omega)).trans HBkF.out.at_⟩
                  have HO2 := Lib.hid hown2
                  have Hb2 := Lib.hid hb2
                  have HB2 := Lib.hid hB2
                  clear hown hg hg2 hown2 hb2 hB2
                  go_wp2_with fail
                  go_roundw
                  case rel => exact ⟨k + 1, r5, by omega, by go_num, by rw [HE.out]; exact hl6.out, HB2.out, HO2.out, Hb2.out⟩
                  case measure => simp [intOf]; omega
                · by_cases hbig : 2147483648 ≤ n4
                  · have hsub0 : -9223372036854775808 ≤ n4 - 4294967296 := by omega
                    have hsub1 : n4 - 4294967296 ≤ 9223372036854775807 := by omega
                    have HNI := Lib.hid (show numI n1 n4 = n4 - 4294967296 by unfold numI sgnI; rw [if_neg h7, if_pos hbig])
                    have hcF : Chg wr ((w14.setCell ⟨N, 4, none⟩ (.int .i64 n4)).setCell ⟨N, 4, none⟩ (.int .i64 (n4 - 4294967296))) B r5.cells 37 := ((hc.setFar ⟨N, 4, none⟩ (.int .i64 n4) hrN hneN.symm).setFar ⟨N, 4, none⟩ (.int .i64 (n4 - 4294967296)) hrN hneN.symm)
                    have hoF := own_chg HX.out hcF (fun q => by have := (HX.out.lt B q).1; omega)
                    have hbF := hcF.below HB.out hwr hwBB.out
                    have hwF := hcF.size
                    simp only [World.size_setCell] at hwF
                    have hBF := hcF.blk
                    have HXF := Lib.hid hoF
                    have HBF := Lib.hid hbF
                    have HBkF := Lib.hid hBF
                    clear hcF hoF hbF hBF hc
                    go_wp2_with (at_builtin; (refine wpList_append_own _ rfl (.tmp 85) (.tmp 87) 117 rfl (B + 1) 174 i0 _ 5 40 Try.underlying117 hi hi0 hi1 hi2 rfl (by decide) _ _ _ rfl (HXF.out.alloc _) ⟨w14.heap.size, 0, none⟩ 1 1 [.int .i64 n0, .int .i64 n1, .int .i64 n2, .int .i64 n3, .int .i64 (n4 - 4294967296)] rfl rfl (World.news_of_block (cs := #[.int .i64 n0, .int .i64 n1, .int .i64 n2, .int .i64 n3, .int .i64 (n4 - 4294967296)]) (t := 174) (fr := (0, 0)) (by have h := heap_alloc_new ((w14.setCell ⟨N, 4, none⟩ (.int .i64 n4)).setCell ⟨N, 4, none⟩ (.int .i64 (n4 - 4294967296))) (.cells #[.int .i64 n0, .int .i64 n1, .int .i64 n2, .int .i64 n3, .int .i64 (n4 - 4294967296)] 174); simp only [World.size_setCell] at h; exact h)) (by simp [Value.oneCell']) (by unfold maxLen; omega) (by omega) (by simp; omega) ?_))
                    intro v1 w16 hown hg _
                    have hg2 := World.grownBy.trans (World.grownBy_alloc ((w14.setCell ⟨N, 4, none⟩ (.int .i64 n4)).setCell ⟨N, 4, none⟩ (.int .i64 (n4 - 4294967296))) (.cells #[.int .i64 n0, .int .i64 n1, .int .i64 n2, .int .i64 n3, .int .i64 (n4 - 4294967296)] 174) _) hg
                    have hown2 : w16.ownsRow (B + 1) 174 5 v1 (k + 1) (ics (decL e1 (k + 1))) := by
                      rw [HS2.out, ics_append, HNI.out]
                      exact hown
                    have hb2 := below_grown HBF.out hg2 (fun j e => by have := (HXF.out.lt j e).1; have := hwBB.out; omega) HBF.out.size
                    have hB2 : Blk w16 B r5.cells 37 := ⟨(hg2.block B HBkF.out.lt (fun q => by have := (HXF.out.lt B q.symm).1; omega)).trans HBkF.out.at_⟩
                    have HO2 := Lib.hid hown2
                    have Hb2 := Lib.hid hb2
                    have HB2 := Lib.hid hB2
                    clear hown hg hg2 hown2 hb2 hB2
                    go_wp2_with fail
                    go_roundw
                    case rel => exact ⟨k + 1, r5, by omega, by go_num, by rw [HE.out]; exact hl6.out, HB2.out, HO2.out, Hb2.out⟩
                    case measure => simp [intOf]; omega
                  · have HNI := Lib.hid (show numI n1 n4 = n4 by unfold numI sgnI; rw [if_neg h7, if_neg hbig])
                    have hcF : Chg wr (w14.setCell ⟨N, 4, none⟩ (.int .i64 n4)) B r5.cells 37 := (hc.setFar ⟨N, 4, none⟩ (.int .i64 n4) hrN hneN.symm)
                    have hoF := own_chg HX.out hcF (fun q => by have := (HX.out.lt B q).1; omega)
                    have hbF := hcF.below HB.out hwr hwBB.out
                    have hwF := hcF.size
                    simp only [World.size_setCell] at hwF
                    have hBF := hcF.blk
                    have HXF := Lib.hid hoF
                    have HBF := Lib.hid hbF
                    have HBkF := Lib.hid hBF
                    clear hcF hoF hbF hBF hc
                    go_wp2_with (at_builtin; (refine wpList_append_own _ rfl (.tmp 85) (.tmp 87) 117 rfl (B + 1) 174 i0 _ 5 40 Try.underlying117 hi hi0 hi1 hi2 rfl (by decide) _ _ _ rfl (HXF.out.alloc _) ⟨w14.heap.size, 0, none⟩ 1 1 [.int .i64 n0, .int .i64 n1, .int .i64 n2, .int .i64 n3, .int .i64 (n4)] rfl rfl (World.news_of_block (cs := #[.int .i64 n0, .int .i64 n1, .int .i64 n2, .int .i64 n3, .int .i64 (n4)]) (t := 174) (fr := (0, 0)) (by have h := heap_alloc_new (w14.setCell ⟨N, 4, none⟩ (.int .i64 n4)) (.cells #[.int .i64 n0, .int .i64 n1, .int .i64 n2, .int .i64 n3, .int .i64 (n4)] 174); simp only [World.size_setCell] at h; exact h)) (by simp [Value.oneCell']) (by unfold maxLen; omega) (by omega) (by simp; omega) ?_))
                    intro v1 w16 hown hg _
                    have hg2 := World.grownBy.trans (World.grownBy_alloc (w14.setCell ⟨N, 4, none⟩ (.int .i64 n4)) (.cells #[.int .i64 n0, .int .i64 n1, .int .i64 n2, .int .i64 n3, .int .i64 (n4)] 174) _) hg
                    have hown2 : w16.ownsRow (B + 1) 174 5 v1 (k + 1) (ics (decL e1 (k + 1))) := by
                      rw [HS2.out, ics_append, HNI.out]
                      exact hown
                    have hb2 := below_grown HBF.out hg2 (fun j e => by have := (HXF.out.lt j e).1; have := hwBB.out; omega) HBF.out.size
                    have hB2 : Blk w16 B r5.cells 37 := ⟨(hg2.block B HBkF.out.lt (fun q => by have := (HXF.out.lt B q.symm).1; omega)).trans HBkF.out.at_⟩
                    have HO2 := Lib.hid hown2
                    have Hb2 := Lib.hid hb2
                    have HB2 := Lib.hid hB2
                    clear hown hg hg2 hown2 hb2 hB2
                    go_wp2_with fail
                    go_roundw
                    case rel => exact ⟨k + 1, r5, by omega, by go_num, by rw [HE.out]; exact hl6.out, HB2.out, HO2.out, Hb2.out⟩
                    case measure => simp [intOf]; omega
              · obtain rfl : k = n := by omega
                have hltz : ¬ (k : Int) < (k : Int) := by omega
                have hins := insR_own ho hokl hlen
                have hC := rerror_any A (decL e1 k) c wr hins (by omega)
                rw [hlen] at hC
                have hd := HD.out
                by_cases h0 : codeE (decL e1 k) = 0
                · rw [h0] at hC
                  rw [if_pos h0] at hd
                  have HC := Lib.hid hC
                  have HD2 := Lib.hid hd
                  have HIn := Lib.hid hins
                  have Hb := Lib.hid b
                  clear hC hd hins ho b hB h0 lk
                  go_wp2_with fail
                  refine (HC.out).mono ?_
                  rintro e w6 ⟨rfl, b6⟩
                  go_wp2_with fail
                  go_ret2
                  refine ⟨A, c, ?_, ?_, below_then Hb.out b6⟩
                  · rw [HD2.out]
                    simp only
                    rw [hlen]
                    rfl
                  · rw [HD2.out]
                    exact HIn.out.keep b6
                · rw [if_neg h0] at hd
                  have HC := Lib.hid hC
                  have HD2 := Lib.hid hd
                  have Hb := Lib.hid b
                  clear hC hd hins ho b hB lk
                  generalize codeE (decL e1 k) = E at *
                  go_wp2_with fail
                  refine (HC.out).mono ?_
                  rintro e w6 ⟨rfl, b6⟩
                  go_wp2_with fail
                  go_ret2
                  refine ⟨none, 0, ?_, ?_, below_then Hb.out b6⟩
                  · rw [HD2.out]
                    rfl
                  · rw [HD2.out]
                    exact insR_nil _ _
        · rw [if_pos (.inr hle)]
          have hle' : ¬ (rs.size : Int) = 8 * (n : Int) := by omega
          go_enter Try.func93, Try.ntmps93
          go_wp2_with fail
          refine (HS.out _).mono ?_
          rintro e w1 ⟨rfl, b1⟩
          go_wp2_with fail
          have hB := Blk.new w1 (RefS.cells ⟨s.extract 0 (s.size - 2), false⟩) 37
          have hb := b1.alloc b1.size (.cells (RefS.cells ⟨s.extract 0 (s.size - 2), false⟩) 37)
          have hwB := b1.size
          have hwl : w.heap.size ≤ (w1.alloc (.cells (RefS.cells ⟨s.extract 0 (s.size - 2), false⟩) 37)).heap.size := hb.size
          generalize w1.heap.size = B at *
          refine (HBy.out _ _ hB).mono ?_
          rintro e w3 ⟨rfl, c⟩
          replace hb := c.below hb hwl hwB
          replace hB := c.blk
          clear c hwl b1
          have c0 := hB.cell (j := 0) (v := .string rs) rfl
          have c1 := hB.cell (j := 1) (v := .bool false) rfl
          go_wp2_with fail
          go_ret2
          exact ⟨none, 0, rfl, insR_nil _ _, hb⟩
    · rw [if_neg (fun q => h2 q.2)]
      have hne : sealS (s.extract 0 (s.size - 2)) ≠ s := fun q => h2 ((open_iff s hz).2 q)
      have hne2 : ((sealS (s.extract 0 (s.size - 2))).toList == s.toList) = false := by
        rw [Bool.eq_false_iff]
        intro q
        exact hne (toList_inj (by simpa using q))
      clear h2
      generalize sealS (s.extract 0 (s.size - 2)) = q at *
      go_enter Try.func93, Try.ntmps93
      go_wp2_with fail
      refine (HS.out _).mono ?_
      rintro e w1 ⟨rfl, b1⟩
      go_wp2_with fail
      go_ret2
      exact ⟨none, 0, rfl, insR_nil _ _, b1⟩
  · rw [if_neg (fun q => hz q.1)]
    have hz0 : (s.size : Int) < 2 := by omega
    go_enter Try.func93, Try.ntmps93
    go_wp2_with fail
    go_ret2
    exact ⟨none, 0, rfl, insR_nil _ _, Below.refl _ _⟩
end Go.Proofs.Ytdhfkcodacmbfaa

/- Programs (code): awake. -/
set_option linter.unusedVariables false
set_option linter.unusedSimpArgs false
namespace Go.Proofs.Ytdhfkcodacmbfaa
open Go.RowKit

def awI : InstrS := ⟨1, 2, 0, 0, -1⟩
theorem aw_e : codeE [awI] = 0 := by decide +kernel
theorem aw_ok : awI.ok := ⟨by decide, by decide, by decide, by decide, by decide⟩
theorem aw_size : (sealS (plainS [awI])).size = 11 := by rw [seal_size, plain_size]; rfl
theorem aw_ins (w : World) : InsR (w.alloc (.cells awI.cells 174)) (some ⟨w.heap.size, 0, none⟩) [awI] := by
  have X := Blk.new w awI.cells 174
  refine ⟨fun k i hk => ?_, fun i hi => ?_⟩
  · obtain ⟨h1, h2⟩ := List.getElem?_eq_some_iff.1 hk
    have h0 : k = 0 := by simp at h1; omega
    subst h0
    have : i = awI := by simpa using h2.symm
    subst this
    exact ⟨_, 0, rfl, X.cell (j := 0) rfl, X.cell (j := 1) rfl, X.cell (j := 2) rfl, X.cell (j := 3) rfl, X.cell (j := 4) rfl⟩
  · have : i = awI := by simpa using hi
    subst this
    exact aw_ok
set_option maxRecDepth 100000 in
set_option maxHeartbeats 1000000 in
theorem cawake_any (w : World) : Calls Try.prog 91 #[] w fun e w' => e = .returned (.bool true) ∧ Below w.heap.size w w' := by
  have HI := Lib.hid (aw_ins w)
  have HE := Lib.hid (fun W (hW : InsR W (some ⟨w.heap.size, 0, none⟩) [awI]) => encode_any (some ⟨w.heap.size, 0, none⟩) [awI] 1 W hW (by decide))
  have he : encS [awI] = sealS (plainS [awI]) := by unfold encS; rw [if_pos aw_e]
  rw [he, aw_e] at HE
  have HD := fun W => decode_any (sealS (plainS [awI])) W (by rw [aw_size]; decide)
  rw [dec_enc aw_e] at HD
  replace HD := Lib.hid HD
  have HS := Lib.hid (fun A c W (hI : InsR W (some ⟨w.heap.size, 0, none⟩) [awI]) (hJ : InsR W A [awI]) => same_any (some ⟨w.heap.size, 0, none⟩) A [awI] 1 c W hI hJ (by decide))
  have hz := aw_size
  have hb := (Below.refl w.heap.size w).alloc (Nat.le_refl _) (.cells awI.cells 174)
  generalize sealS (plainS [awI]) = t at *
  clear he
  go_enter Try.func91, Try.ntmps91
  go_wp2_with fail
  refine (HE.out _ HI.out).mono ?_
  rintro e w1 ⟨rfl, b1⟩
  replace hb := below_then hb b1
  have HI1 := Lib.hid (HI.out.keep b1)
  clear b1 HI
  go_wp2_with fail
  refine (HD.out _).mono ?_
  rintro e w2 ⟨A, c, rfl, hJ, b2⟩
  replace hb := below_then hb b2
  have HI2 := Lib.hid (HI1.out.keep b2)
  have HJ := Lib.hid hJ
  clear b2 HI1 hJ
  go_wp2_with fail
  refine (HS.out _ _ _ HI2.out HJ.out).mono ?_
  rintro e w3 ⟨rfl, b3⟩
  replace hb := below_then hb b3
  go_wp2_with fail
  go_ret
  exact ⟨rfl, hb⟩
end Go.Proofs.Ytdhfkcodacmbfaa
