/- The medium as the document has it (the reference's bus): cut, deliver. -/
import Derived.Test.YtdhfkcodacmbfaaBusN
set_option linter.unusedVariables false
set_option linter.unusedSimpArgs false
namespace Go.Proofs.Ytdhfkcodacmbfaa
open Go.RowKit

theorem hurt_cut (p : PieceS) (n : Nat) (h1 : 1 ≤ n) (h2 : n < p.s.size) : hurtS p (p.s.extract 0 (p.s.size - n)) = ⟨p.s.extract 0 (p.s.size - n), p.src, p.dest, true⟩ := by
  unfold hurtS
  have : (p.s.toList == (p.s.extract 0 (p.s.size - n)).toList) = false := by
    rw [beq_eq_false_iff_ne]
    intro e
    have := congrArg List.length e
    rw [size_toList, size_toList, ByteArray.size_extract] at this
    omega
  rw [this]
  rfl
set_option maxRecDepth 100000 in
set_option maxHeartbeats 2000000 in
theorem rcut_any (S B : Nat) (ob : Option Nat) (st : BusS) (k n : Int) (w : World) (h : Bus 85 w S B ob st.l st.f) (ok : st.ok) :
    Calls Try.prog 124 #[.pointer (some ⟨B, 0, none⟩), .int .i64 k, .int .i64 n] w fun e w' => e = .returned (.int .i64 (cutB st k n).2) ∧ RefTo w w' S B ob (cutB st k n).1.l (cutB st k n).1.f := by
  have HA := rthere_bus S B ob st.l st.f k w h
  obtain ⟨r, hr⟩ : ∃ r, r = cutB st k n := ⟨_, rfl⟩
  rw [← hr]
  unfold cutB at hr
  cases hk : atS st.l k with
  | none =>
    simp only [hk] at hr
    rw [hk] at HA
    subst hr
    have HA := Lib.hid HA
    have HF := Lib.hid (RefTo.refl h)
    clear h hk ok
    go_enter Try.func124, Try.ntmps124
    go_wp2_with fail
    refine (HA.out).mono ?_
    rintro e w1 ⟨rfl, rfl⟩
    go_wp2_with fail
    go_ret
    exact ⟨rfl, HF.out⟩
  | some p =>
    simp only [hk] at hr
    rw [hk] at HA
    have HA := Lib.hid HA
    obtain ⟨j, rfl, hn, hp⟩ := atS_some hk
    rw [Int.toNat_natCast] at hr
    obtain ⟨g, cap, rfl, C, ho⟩ := h.some_ (by omega)
    have P := piece_cells ho hp
    have p0 := P.c0
    have p3 := P.c3
    have q0 := P.f0
    have q3 := P.f3
    have c0 := C.c0
    have hcap := C.le
    have hn' : (j : Int) < (st.l.length : Int) := by omega
    have hsz := (ok.at hp).size
    cases hh : p.hurt with
    | true =>
      rw [if_pos hh] at hr
      subst hr
      rw [hh] at p3
      have HF := Lib.hid (RefTo.refl h)
      clear h hk ok hh C ho P hp hn
      go_enter Try.func124, Try.ntmps124
      go_wp2_with fail
      refine (HA.out).mono ?_
      rintro e w1 ⟨rfl, rfl⟩
      go_wp2_with fail
      go_ret
      exact ⟨rfl, HF.out⟩
    | false =>
      rw [if_neg (by rw [hh]; decide)] at hr
      rw [hh] at p3
      by_cases hc : n < 1
      · rw [if_pos (.inl hc)] at hr
        subst hr
        have HF := Lib.hid (RefTo.refl h)
        clear h hk ok hh C ho P hp hn
        go_enter Try.func124, Try.ntmps124
        go_wp2_with fail
        refine (HA.out).mono ?_
        rintro e w1 ⟨rfl, rfl⟩
        go_wp2_with fail
        go_ret
        exact ⟨rfl, HF.out⟩
      · by_cases hc2 : (p.s.size : Int) ≤ n
        · rw [if_pos (.inr hc2)] at hr
          subst hr
          have HF := Lib.hid (RefTo.refl h)
          clear h hk ok hh C ho P hp hn
          go_enter Try.func124, Try.ntmps124
          go_wp2_with fail
          refine (HA.out).mono ?_
          rintro e w1 ⟨rfl, rfl⟩
          go_wp2_with fail
          go_ret
          exact ⟨rfl, HF.out⟩
        · rw [if_neg (by omega)] at hr
          obtain ⟨m, rfl⟩ : ∃ m : Nat, n = m := ⟨n.toNat, by omega⟩
          rw [Int.toNat_natCast, hurt_cut p m (by omega) (by omega)] at hr
          subst hr
          have hlen := ok.len
          have q5 : (0 : Int) ≤ (p.s.size : Int) - m := by omega
          have q6 : (p.s.size : Int) - m ≤ p.s.size := by omega
          have q7 : IntKind.i64.wrap ((p.s.size : Int) - m) = (p.s.size : Int) - m := by rw [IntKind.wrap_i64]; omega
          have q8 : ((p.s.size : Int) - m).toNat = p.s.size - m := by omega
          have q9 : (m : Int) ≤ (p.s.size : Int) := by omega
          obtain ⟨b1, k1⟩ := h.set (i := 0) (q := ⟨p.s.extract 0 (p.s.size - m), p.src, p.dest, p.hurt⟩) (u := .string (p.s.extract 0 (p.s.size - m))) hp (by omega) rfl
          have hp1 : (st.l.set j ⟨p.s.extract 0 (p.s.size - m), p.src, p.dest, p.hurt⟩)[j]? = some ⟨p.s.extract 0 (p.s.size - m), p.src, p.dest, p.hurt⟩ := by rw [List.getElem?_set_self hn]
          have HP1 := Lib.hid hp1
          have Hb1 := Lib.hid b1.drew
          have Hk1 := Lib.hid (k1.trans (Near.refl _ _) (Kept.of_below (Below.refl _ _).drew))
          clear h hk ok hh C ho P hp b1 k1 hp1 hn
          go_enter Try.func124, Try.ntmps124
          go_wp2_with fail
          refine (HA.out).mono ?_
          rintro e w1 ⟨rfl, rfl⟩
          go_wp2_with fail
          go_region
          obtain ⟨g'', cap'', eg, C, ho⟩ := Hb1.out.some_ (by rw [List.length_set]; omega)
          have : g = g'' := by injection eg
          subst this
          have P := piece_cells ho HP1.out
          obtain ⟨b2, k2⟩ := Hb1.out.set (i := 3) (q := ⟨p.s.extract 0 (p.s.size - m), p.src, p.dest, true⟩) (u := .bool true) HP1.out (by omega) rfl
          rw [List.set_set] at b2
          have HZ : Hid (RefTo w1 _ S B (some g) (st.l.set j ⟨p.s.extract 0 (p.s.size - m), p.src, p.dest, true⟩) st.f) := ⟨⟨some g, b2, .inr (Near.refl _ _)⟩, Hk1.out.trans (Near.refl _ _) k2⟩
          have d0 := P.c3
          have d1 := P.f3
          have e0 := C.c0
          rw [List.length_set] at e0
          have hcap3 := C.le
          rw [List.length_set] at hcap3
          clear b2 k2 P C ho eg c0 p0 p3 q0 q3 HP1 Hb1
          generalize (w1.setCell ⟨g, j * 4, none⟩ (.string (p.s.extract 0 (p.s.size - m)))).drew = w3 at *
          go_wp2_with fail
          go_ret
          exact ⟨rfl, HZ.out⟩
theorem Bus.look {T : TypeId} {w : World} {S B g n : Nat} {l : List PieceS} {f : Bool} {p : PieceS} (h : Bus T w S B (some g) l f) (hp : l[n]? = some p) : ∃ cap, w.cell? ⟨B, 0, none⟩ = some (.slice (some ⟨g, 0, none⟩) l.length cap) ∧ l.length ≤ cap ∧ PieceC w g n p := by
  have hn := (List.getElem?_eq_some_iff.1 hp).1
  obtain ⟨g', cap, eg, C, ho⟩ := h.some_ (by omega)
  have : g = g' := by injection eg
  subst this
  exact ⟨cap, C.c0, C.le, piece_cells ho hp⟩
set_option maxRecDepth 100000 in
set_option maxHeartbeats 4000000 in
theorem rdeliver_any (S B : Nat) (ob : Option Nat) (st : BusS) (k to : Int) (w : World) (h : Bus 85 w S B ob st.l st.f) (ok : st.ok) :
    Calls Try.prog 120 #[.pointer (some ⟨B, 0, none⟩), .int .i64 k, .int .i64 to] w fun e w' => e = .returned (.tuple #[.string (deliverS st k to).2.1, .int .i64 (deliverS st k to).2.2]) ∧ RefTo w w' S B ob (deliverS st k to).1.l (deliverS st k to).1.f := by
  have HA := rthere_bus S B ob st.l st.f k w h
  have HF := Lib.hid (RefTo.refl h)
  obtain ⟨r, hr⟩ : ∃ r, r = deliverS st k to := ⟨_, rfl⟩
  rw [← hr]
  unfold deliverS at hr
  cases hk : atS st.l k with
  | none =>
    simp only [hk] at hr
    rw [hk] at HA
    subst hr
    have HA := Lib.hid HA
    clear h hk ok
    go_enter Try.func120, Try.ntmps120
    go_wp2_with fail
    refine (HA.out).mono ?_
    rintro e w1 ⟨rfl, rfl⟩
    go_wp2_with fail
    go_ret2
    exact ⟨rfl, HF.out⟩
  | some p =>
    simp only [hk] at hr
    rw [hk] at HA
    have HA := Lib.hid HA
    obtain ⟨n, rfl, hn, hp⟩ := atS_some hk
    rw [Int.toNat_natCast] at hr
    have hlen := ok.len
    obtain ⟨g, cap, rfl, C, ho⟩ := h.some_ (by omega)
    have P := piece_cells ho hp
    have p0 := P.c0
    have p2 := P.c2
    have c0 := C.c0
    have hcap := C.le
    have hn' : (n : Int) < (st.l.length : Int) := by omega
    have HH := Lib.hid (fun W => rhas_any p.dest to W (ok.at hp).dest)
    cases hh : hasA p.dest to with
    | false =>
      rw [if_pos hh] at hr
      subst hr
      rw [hh] at HH
      clear h hk ok C ho P hp hn hh
      go_enter Try.func120, Try.ntmps120
      go_wp2_with fail
      refine (HA.out).mono ?_
      rintro e w1 ⟨rfl, rfl⟩
      go_wp2_with fail
      refine (HH.out _).mono ?_
      rintro e w1 ⟨rfl, rfl⟩
      go_wp2_with fail
      go_ret2
      exact ⟨rfl, HF.out⟩
    | true =>
      rw [if_neg (by rw [hh]; decide)] at hr
      rw [hh] at HH
      have HW := Lib.hid (fun W => rwithout_any p.dest to W (ok.at hp).dest)
      have HBus := Lib.hid h
      have hp' := Lib.hid hp
      have hl1 : (st.l.set n ⟨p.s, p.src, withoutA p.dest to, p.hurt⟩).length ≤ 64 := by rw [List.length_set]; exact hlen
      have hat : (st.l.set n ⟨p.s, p.src, withoutA p.dest to, p.hurt⟩)[n]? = some ⟨p.s, p.src, withoutA p.dest to, p.hurt⟩ := by rw [List.getElem?_set_self hn]
      have HAT := Lib.hid hat
      have HD := Lib.hid (fun W hW => rout_any S B (some g) (st.l.set n ⟨p.s, p.src, withoutA p.dest to, p.hurt⟩) st.f n W hW hl1)
      have KC := Lib.hid (fun (W : World) (hW : Bus 85 W S B (some g) st.l st.f) => hW.look hp)
      have hsz0 := Lib.hid hn
      clear h hk ok hh C ho P hp hn hl1 hat
      generalize withoutA p.dest to = d at *
      go_enter Try.func120, Try.ntmps120
      go_wp2_with fail
      refine (HA.out).mono ?_
      rintro e w1 ⟨rfl, rfl⟩
      go_wp2_with fail
      refine (HH.out _).mono ?_
      rintro e w1 ⟨rfl, rfl⟩
      go_wp2_with fail
      go_region_with ((go_at_call 142; (with_reducible refine (HW.out _).mono ?_); rintro e w2 ⟨rfl, b⟩; have hx := HBus.out.drew.below b; obtain ⟨cap2, d0, hcap2, ⟨_, _, d2, _, _, _, g2, _⟩⟩ := KC.out _ hx; have HX := Lib.hid hx; clear hx))
      all_goals
        obtain ⟨b1, k1⟩ := HX.out.set (i := 2) (q := ⟨p.s, p.src, d, p.hurt⟩) (u := .int .u32 (d : Int)) hp'.out (by omega) rfl
        have Hk := Lib.hid (((Kept.of_below (Below.refl _ _).drew).trans (Near.refl _ (some g)) (Kept.of_below b)).trans (Near.refl _ _) k1)
        obtain ⟨cap3, e0, hcap3, ⟨_, _, e2, _, _, _, _, _⟩⟩ := b1.look HAT.out
        rw [List.length_set] at e0 hcap3
        have hb1 := Lib.hid b1
        clear c0 p0 p2 d0 d2 g2 hcap2 b1 k1 HX b KC
        generalize w2.setCell ⟨g, n * 4 + 2, none⟩ (.int .u32 (d : Int)) = w3 at *
        by_cases hz : d = 0
        · rw [if_pos hz] at hr
          subst hr
          subst hz
          go_wp2_with fail
          refine (HD.out _ hb1.out).mono ?_
          rintro e w4 ⟨rfl, b4⟩
          have HZ := Lib.hid (RefTo.after Hk.out (Near.refl _ _) b4)
          clear b4
          go_wp2_with fail
          go_ret2
          exact ⟨rfl, HZ.out⟩
        · rw [if_neg hz] at hr
          subst hr
          have hz1 : ¬ (d : Int) = 0 := by omega
          have hz2 : ((d : Int) == 0) = false := by simpa using hz1
          have HZ : Hid (RefTo w1 w3 S B (some g) (st.l.set n ⟨p.s, p.src, d, p.hurt⟩) st.f) := ⟨⟨some g, hb1.out, .inr (Near.refl _ _)⟩, Hk.out⟩
          clear hz hz1
          go_wp2_with fail
          go_ret2
          exact ⟨rfl, HZ.out⟩
end Go.Proofs.Ytdhfkcodacmbfaa
