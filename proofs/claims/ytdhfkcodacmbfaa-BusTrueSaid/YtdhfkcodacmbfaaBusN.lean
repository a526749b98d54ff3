/- The medium as the document has it (the reference's bus): its operations. -/
import Derived.Test.YtdhfkcodacmbfaaBusM
import Derived.BigRegion
set_option linter.unusedVariables false
set_option linter.unusedSimpArgs false
namespace Go.Proofs.Ytdhfkcodacmbfaa
open Go.RowKit

theorem beq_sym (a b : ByteArray) : (a.toList == b.toList) = (b.toList == a.toList) := by
  rw [Bool.eq_iff_iff, beq_iff_eq, beq_iff_eq]
  exact eq_comm
theorem radd_any (S B : Nat) (ob : Option Nat) (st : BusS) (p : PieceS) (w : World) (h : Bus 85 w S B ob st.l st.f) (hl : st.l.length ≤ 64) :
    Calls Try.prog 141 #[.pointer (some ⟨B, 0, none⟩), p.agg] w fun e w' => e = .returned (.int .i64 (addS st p).2) ∧ RefTo w w' S B ob (addS st p).1.l (addS st p).1.f := by
  unfold addS
  by_cases h64 : st.l.length = 64
  · rw [if_pos h64]
    exact (radd_full S B ob st.l st.f p w h h64).mono fun e w' ⟨h1, h2⟩ => ⟨h1, h2.ref⟩
  · rw [if_neg h64]
    exact (radd_room S B ob st.l st.f p w h (by omega)).mono fun e w' ⟨h1, h2⟩ => ⟨h1, h2.ref⟩
set_option maxRecDepth 100000 in
theorem rtwice_any (S B : Nat) (ob : Option Nat) (st : BusS) (k : Int) (w : World) (h : Bus 85 w S B ob st.l st.f) (hl : st.l.length ≤ 64) :
    Calls Try.prog 122 #[.pointer (some ⟨B, 0, none⟩), .int .i64 k] w fun e w' => e = .returned (.int .i64 (twiceS st k).2) ∧ RefTo w w' S B ob (twiceS st k).1.l (twiceS st k).1.f := by
  have HA := rthere_bus S B ob st.l st.f k w h
  unfold twiceS
  cases hk : atS st.l k with
  | none =>
    rw [hk] at HA
    have HA := Lib.hid HA
    have HF := Lib.hid (RefTo.refl h)
    clear h hk
    go_enter Try.func122, Try.ntmps122
    go_wp2_with fail
    refine (HA.out).mono ?_
    rintro e w1 ⟨rfl, rfl⟩
    go_wp2_with fail
    go_ret
    exact ⟨rfl, HF.out⟩
  | some p =>
    rw [hk] at HA
    have HA := Lib.hid HA
    obtain ⟨n, rfl, hn, hp⟩ := atS_some hk
    obtain ⟨g, cap, rfl, C, ho⟩ := h.some_ (by omega)
    obtain ⟨p0, p1, p2, p3, _, _, _, _⟩ := piece_cells ho hp
    have HB := radd_any S B (some g) st p w h hl
    unfold PieceS.agg at HB
    have HB := Lib.hid HB
    have c0 := C.c0
    have hcap := C.le
    have hn' : (n : Int) < (st.l.length : Int) := by omega
    clear h hk C ho hp hn
    show Calls Try.prog 122 _ w fun e w' => e = .returned (.int .i64 (addS st p).2) ∧ RefTo w w' S B (some g) (addS st p).1.l (addS st p).1.f
    generalize addS st p = r at *
    go_enter Try.func122, Try.ntmps122
    go_wp2_with fail
    refine (HA.out).mono ?_
    rintro e w1 ⟨rfl, rfl⟩
    go_wp2_with fail
    refine (HB.out).mono ?_
    rintro e w2 ⟨rfl, b⟩
    go_wp2_with fail
    go_ret
    exact ⟨rfl, b⟩
set_option maxRecDepth 100000 in
theorem rdrop_any (S B : Nat) (ob : Option Nat) (st : BusS) (k : Int) (w : World) (h : Bus 85 w S B ob st.l st.f) (hl : st.l.length ≤ 64) :
    Calls Try.prog 121 #[.pointer (some ⟨B, 0, none⟩), .int .i64 k] w fun e w' => e = .returned (.int .i64 (dropS st k).2) ∧ RefTo w w' S B ob (dropS st k).1.l (dropS st k).1.f := by
  have HA := rthere_bus S B ob st.l st.f k w h
  unfold dropS
  cases hk : atS st.l k with
  | none =>
    rw [hk] at HA
    have HA := Lib.hid HA
    have HF := Lib.hid (RefTo.refl h)
    clear h hk
    go_enter Try.func121, Try.ntmps121
    go_wp2_with fail
    refine (HA.out).mono ?_
    rintro e w1 ⟨rfl, rfl⟩
    go_wp2_with fail
    go_ret
    exact ⟨rfl, HF.out⟩
  | some p =>
    rw [hk] at HA
    have HA := Lib.hid HA
    obtain ⟨n, rfl, hn, hp⟩ := atS_some hk
    have HD := Lib.hid (rout_any S B ob st.l st.f n w h hl)
    clear h hk hp hn
    go_enter Try.func121, Try.ntmps121
    go_wp2_with fail
    refine (HA.out).mono ?_
    rintro e w1 ⟨rfl, rfl⟩
    go_wp2_with fail
    refine (HD.out).mono ?_
    rintro e w2 ⟨rfl, b⟩
    go_wp2_with fail
    go_ret
    exact ⟨rfl, b⟩
set_option maxRecDepth 100000 in
theorem rsend_any (S B : Nat) (ob : Option Nat) (st : BusS) (src : Int) (s : ByteArray) (w : World) (h : Bus 85 w S B ob st.l st.f) (hl : st.l.length ≤ 64) (hs : s.size ≤ 1000000) :
    Calls Try.prog 119 #[.pointer (some ⟨B, 0, none⟩), .int .i64 src, .string s] w fun e w' => e = .returned (.int .i64 (sendS st src s).2) ∧ RefTo w w' S B ob (sendS st src s).1.l (sendS st src s).1.f := by
  have HF := Lib.hid (RefTo.refl h)
  obtain ⟨r, hr⟩ : ∃ r, r = sendS st src s := ⟨_, rfl⟩
  rw [← hr]
  unfold sendS at hr
  by_cases h0 : src < 0
  · rw [if_pos (.inl h0)] at hr
    subst hr
    clear h
    go_enter Try.func119, Try.ntmps119
    go_wp2_with fail
    go_ret
    exact ⟨rfl, HF.out⟩
  · by_cases h1 : 31 < src
    · rw [if_pos (.inr (.inl (by omega)))] at hr
      subst hr
      clear h
      go_enter Try.func119, Try.ntmps119
      go_wp2_with fail
      go_ret
      exact ⟨rfl, HF.out⟩
    · by_cases h2 : s.size < 1
      · rw [if_pos (.inr (.inr (.inl h2)))] at hr
        subst hr
        have h2' : (s.size : Int) < 1 := by omega
        clear h
        go_enter Try.func119, Try.ntmps119
        go_wp2_with fail
        go_ret
        exact ⟨rfl, HF.out⟩
      · have h2' : ¬ (s.size : Int) < 1 := by omega
        by_cases h3 : 255 < s.size
        · rw [if_pos (.inr (.inr (.inr h3)))] at hr
          subst hr
          have h3' : (255 : Int) < s.size := by omega
          clear h
          go_enter Try.func119, Try.ntmps119
          go_wp2_with fail
          go_ret
          exact ⟨rfl, HF.out⟩
        · rw [if_neg (by omega)] at hr
          have h3' : ¬ (255 : Int) < s.size := by omega
          have HW := Lib.hid (fun W => rwithout_any 4294967295 src W (by decide))
          have HB := fun W hW => radd_any S B ob st ⟨s, src, withoutA 4294967295 src, false⟩ W hW hl
          rw [← hr] at HB
          unfold PieceS.agg at HB
          simp only at HB
          have HB := Lib.hid HB
          have HBus := Lib.hid h
          clear h hr
          generalize ((withoutA 4294967295 src : Nat) : Int) = d at *
          go_enter Try.func119, Try.ntmps119
          go_wp2_with fail
          refine (HW.out _).mono ?_
          rintro e w1 ⟨rfl, b1⟩
          have HW1 := Lib.hid (HBus.out.below b1)
          have Hb := Lib.hid b1
          clear b1
          go_wp2_with fail
          refine (HB.out _ HW1.out).mono ?_
          rintro e w2 ⟨rfl, b⟩
          have HZ := Lib.hid (b.near Hb.out)
          clear b
          go_wp2_with fail
          go_ret
          exact ⟨rfl, HZ.out⟩
set_option maxRecDepth 100000 in
set_option maxHeartbeats 2000000 in
theorem rburst_any (S B : Nat) (ob : Option Nat) (st : BusS) (k at_ pat : Int) (w : World) (h : Bus 85 w S B ob st.l st.f) (ok : st.ok) (hp0 : 0 ≤ pat) (hp1 : pat < 65536) :
    Calls Try.prog 123 #[.pointer (some ⟨B, 0, none⟩), .int .i64 k, .int .i64 at_, .int .u16 pat] w fun e w' => e = .returned (.int .i64 (burstB st k at_ pat).2) ∧ RefTo w w' S B ob (burstB st k at_ pat).1.l (burstB st k at_ pat).1.f := by
  have HA := rthere_bus S B ob st.l st.f k w h
  obtain ⟨r, hr⟩ : ∃ r, r = burstB st k at_ pat := ⟨_, rfl⟩
  rw [← hr]
  unfold burstB at hr
  cases hk : atS st.l k with
  | none =>
    simp only [hk] at hr
    rw [hk] at HA
    subst hr
    have HA := Lib.hid HA
    have HF := Lib.hid (RefTo.refl h)
    clear h hk ok
    go_enter Try.func123, Try.ntmps123
    go_wp2_with fail
    refine (HA.out).mono ?_
    rintro e w1 ⟨rfl, rfl⟩
    go_wp2_with fail
    go_ret
    exact ⟨rfl, HF.out⟩
  | some p =>
    simp only [hk] at hr
    rw [hk] at HA
    have HA := Lib.hid HA
    obtain ⟨n, rfl, hn, hp⟩ := atS_some hk
    rw [Int.toNat_natCast] at hr
    obtain ⟨g, cap, rfl, C, ho⟩ := h.some_ (by omega)
    have P := piece_cells ho hp
    have p0 := P.c0
    have p3 := P.c3
    have q0 := P.f0
    have q3 := P.f3
    have c0 := C.c0
    have hcap := C.le
    have hn' : (n : Int) < (st.l.length : Int) := by omega
    cases hh : p.hurt with
    | true =>
      rw [if_pos hh] at hr
      subst hr
      rw [hh] at p3
      have HF := Lib.hid (RefTo.refl h)
      clear h hk ok hh C ho P hp hn
      go_enter Try.func123, Try.ntmps123
      go_wp2_with fail
      refine (HA.out).mono ?_
      rintro e w1 ⟨rfl, rfl⟩
      go_wp2_with fail
      go_ret
      exact ⟨rfl, HF.out⟩
    | false =>
      rw [if_neg (by rw [hh]; decide)] at hr
      subst hr
      rw [hh] at p3
      have HC := Lib.hid (fun W => refburst_any p.s at_ pat W (by have := (ok.at hp).size; omega) hp0 hp1)
      generalize burstA p.s at_ pat = s' at *
      have HBus := Lib.hid h
      have hp' := Lib.hid hp
      have hlen := ok.len
      have hhh := Lib.hid hh
      clear h hk ok hh C ho P hp hn
      go_enter Try.func123, Try.ntmps123
      go_wp2_with fail
      refine (HA.out).mono ?_
      rintro e w1 ⟨rfl, rfl⟩
      go_wp2_with fail
      refine (HC.out _).mono ?_
      rintro e w2 ⟨rfl, b⟩
      have HW := HBus.out.below b
      clear c0 p0 p3 q0 q3
      obtain ⟨g', cap', eg, C, ho⟩ := HW.some_ (by omega)
      have : g = g' := by injection eg
      subst this
      have P := piece_cells ho hp'.out
      have p0 := P.c0
      have p3 := P.c3
      have q0 := P.f0
      have q3 := P.f3
      have c0 := C.c0
      have hcap' := C.le
      have hs := beq_sym p.s s'
      obtain ⟨b1, k1⟩ := HW.set (i := 3) (q := ⟨p.s, p.src, p.dest, !(p.s.toList == s'.toList)⟩) (u := .bool (!(p.s.toList == s'.toList))) hp'.out (by omega) rfl
      rw [hs] at b1 k1
      have hn2 : n < st.l.length := by omega
      have hp1 : (st.l.set n ⟨p.s, p.src, p.dest, !(s'.toList == p.s.toList)⟩)[n]? = some ⟨p.s, p.src, p.dest, !(s'.toList == p.s.toList)⟩ := by rw [List.getElem?_set_self hn2]
      have HP1 := Lib.hid hp1
      have Hb1 := Lib.hid b1.drew
      have Hk1 := Lib.hid (((Kept.of_below b).trans (Near.refl _ (some g)) k1).trans (Near.refl _ _) (Kept.of_below (Below.refl _ _).drew))
      have Hs := Lib.hid hs
      clear HW C ho P eg b b1 k1 hp1 hs
      go_wp2_with fail
      go_region
      obtain ⟨g'', cap'', eg, C, ho⟩ := Hb1.out.some_ (by rw [List.length_set]; omega)
      have : g = g'' := by injection eg
      subst this
      have P := piece_cells ho HP1.out
      obtain ⟨b2, k2⟩ := Hb1.out.set (i := 0) (q := hurtS p s') (u := .string s') HP1.out (by omega) (by unfold hurtS; rw [Hs.out]; rfl)
      rw [List.set_set] at b2
      have HZ : Hid (RefTo w1 _ S B (some g) (st.l.set n (hurtS p s')) st.f) := ⟨⟨some g, b2, .inr (Near.refl _ _)⟩, Hk1.out.trans (Near.refl _ _) k2⟩
      have d0 := P.c0
      have d1 := P.f0
      have e0 := C.c0
      rw [List.length_set] at e0
      have hcap3 := C.le
      rw [List.length_set] at hcap3
      clear b2 k2 P C ho eg c0 p0 p3 q0 q3 HP1 Hb1
      generalize (w2.setCell ⟨g, n * 4 + 3, none⟩ (.bool (!(s'.toList == p.s.toList)))).drew = w3 at *
      go_wp2_with fail
      go_ret
      exact ⟨rfl, HZ.out⟩
end Go.Proofs.Ytdhfkcodacmbfaa
