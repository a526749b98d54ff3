/- The medium (bus): the walks of the program's operations (send, burst, cut, deliver). -/
import Derived.Test.YtdhfkcodacmbfaaBusE
import Derived.StillTailTactics
set_option linter.unusedVariables false
set_option linter.unusedSimpArgs false
namespace Go.Proofs.Ytdhfkcodacmbfaa
open Go.RowKit

def burstB (st : BusS) (k at_ pat : Int) : BusS × Int := match atS st.l k with | none => (st, 1) | some p => if p.hurt = true then (st, 11) else (⟨st.l.set k.toNat (hurtS p (burstA p.s at_ pat)), st.f⟩, 0)
theorem BusTo.near {T : TypeId} {a b c : World} {S B : Nat} {ob : Option Nat} {l : List PieceS} {f : Bool} (k : BusTo T b c S B ob l f) (h : Below a.heap.size a b) : BusTo T a c S B ob l f := BusTo.trans (Kept.of_below h) (Near.refl _ _) k
set_option maxRecDepth 100000 in
theorem bburst_any (S B : Nat) (ob : Option Nat) (st : BusS) (k at_ pat : Int) (w : World) (h : Bus 147 w S B ob st.l st.f) (ok : st.ok) (hp0 : 0 ≤ pat) (hp1 : pat < 65536) :
    Calls Try.prog 60 #[.pointer (some ⟨B, 0, none⟩), .int .i64 k, .int .i64 at_, .int .u16 pat] w fun e w' => e = .returned (.int .i64 (burstB st k at_ pat).2) ∧ BusTo 147 w w' S B ob (burstB st k at_ pat).1.l (burstB st k at_ pat).1.f := by
  unfold burstB
  cases hk : atS st.l k with
  | none =>
    have HA := Lib.hid (bwhole_no S B ob st.l st.f k w h hk)
    have HF := Lib.hid (BusTo.refl h)
    clear h hk ok
    go_enter Try.func60, Try.ntmps60
    go_wp2_with fail
    refine (HA.out).mono ?_
    rintro e w1 ⟨rfl, rfl⟩
    go_wp2_with fail
    go_ret
    exact ⟨rfl, HF.out⟩
  | some p =>
    cases hh : p.hurt with
    | true =>
      have HA := Lib.hid (bwhole_hurt S B ob st.l st.f k p w h hk hh ok.len)
      have HF := Lib.hid (BusTo.refl h)
      show Calls Try.prog 60 _ w fun e w' => e = .returned (.int .i64 (if p.hurt = true then (st, (11 : Int)) else _).2) ∧ BusTo 147 w w' S B ob (if p.hurt = true then (st, (11 : Int)) else _).1.l (if p.hurt = true then (st, (11 : Int)) else _).1.f
      rw [if_pos hh]
      clear h hk ok hh
      go_enter Try.func60, Try.ntmps60
      go_wp2_with fail
      refine (HA.out).mono ?_
      rintro e w1 ⟨rfl, rfl⟩
      go_wp2_with fail
      go_ret
      exact ⟨rfl, HF.out⟩
    | false =>
      show Calls Try.prog 60 _ w fun e w' => e = .returned (.int .i64 (if p.hurt = true then (st, (11 : Int)) else _).2) ∧ BusTo 147 w w' S B ob (if p.hurt = true then (st, (11 : Int)) else _).1.l (if p.hurt = true then (st, (11 : Int)) else _).1.f
      rw [if_neg (by rw [hh]; decide)]
      obtain ⟨n, rfl, hn, hp⟩ := atS_some hk
      obtain ⟨g, cap, rfl, C, ho⟩ := h.some_ (by omega)
      have P0 := (piece_cells ho hp).c0
      have HA := Lib.hid (bwhole_yes S B g n st.l st.f p w h hp hh ok.len)
      have HC := Lib.hid (fun W => burst_any p.s at_ pat W (by have := (ok.at hp).size; omega) hp0 hp1)
      generalize burstA p.s at_ pat = s' at *
      have HH := Lib.hid (fun W hW => bhurt_any S B g n st.l st.f p s' W hW hp ok.len)
      have HBus := Lib.hid h
      show Calls Try.prog 60 _ w fun e w' => e = .returned (.int .i64 0) ∧ BusTo 147 w w' S B (some g) (st.l.set n (hurtS p s')) st.f
      clear h hk ok hh C ho hp hn
      go_enter Try.func60, Try.ntmps60
      go_wp2_with fail
      refine (HA.out).mono ?_
      rintro e w1 ⟨rfl, rfl⟩
      go_wp2_with fail
      refine (HC.out _).mono ?_
      rintro e w2 ⟨rfl, b⟩
      have HW := Lib.hid (HBus.out.below b)
      go_wp2_with fail
      refine (HH.out _ HW.out).mono ?_
      rintro e w3 ⟨rfl, b3⟩
      have HF := Lib.hid (b3.near b)
      clear b3 b
      go_wp2_with fail
      go_ret
      exact ⟨rfl, HF.out⟩
def cutB (st : BusS) (k n : Int) : BusS × Int := match atS st.l k with
  | none => (st, 1)
  | some p => if p.hurt = true then (st, 11) else if n < 1 ∨ (p.s.size : Int) ≤ n then (st, 1) else (⟨st.l.set k.toNat (hurtS p (p.s.extract 0 (p.s.size - n.toNat))), st.f⟩, 0)
set_option maxRecDepth 100000 in
theorem bcut_any (S B : Nat) (ob : Option Nat) (st : BusS) (k n : Int) (w : World) (h : Bus 147 w S B ob st.l st.f) (ok : st.ok) :
    Calls Try.prog 63 #[.pointer (some ⟨B, 0, none⟩), .int .i64 k, .int .i64 n] w fun e w' => e = .returned (.int .i64 (cutB st k n).2) ∧ BusTo 147 w w' S B ob (cutB st k n).1.l (cutB st k n).1.f := by
  obtain ⟨r, hr⟩ : ∃ r, r = cutB st k n := ⟨_, rfl⟩
  rw [← hr]
  unfold cutB at hr
  cases hk : atS st.l k with
  | none =>
    simp only [hk] at hr
    subst hr
    have HA := Lib.hid (bwhole_no S B ob st.l st.f k w h hk)
    have HF := Lib.hid (BusTo.refl h)
    clear h hk ok
    go_enter Try.func63, Try.ntmps63
    go_wp2_with fail
    refine (HA.out).mono ?_
    rintro e w1 ⟨rfl, rfl⟩
    go_wp2_with fail
    go_ret
    exact ⟨rfl, HF.out⟩
  | some p =>
    simp only [hk] at hr
    cases hh : p.hurt with
    | true =>
      rw [if_pos hh] at hr
      subst hr
      have HA := Lib.hid (bwhole_hurt S B ob st.l st.f k p w h hk hh ok.len)
      have HF := Lib.hid (BusTo.refl h)
      clear h hk ok hh
      go_enter Try.func63, Try.ntmps63
      go_wp2_with fail
      refine (HA.out).mono ?_
      rintro e w1 ⟨rfl, rfl⟩
      go_wp2_with fail
      go_ret
      exact ⟨rfl, HF.out⟩
    | false =>
      rw [if_neg (by rw [hh]; decide)] at hr
      obtain ⟨j, rfl, hn, hp⟩ := atS_some hk
      obtain ⟨g, cap, rfl, C, ho⟩ := h.some_ (by omega)
      have P0 := (piece_cells ho hp).c0
      have HA := Lib.hid (bwhole_yes S B g j st.l st.f p w h hp hh ok.len)
      have hsz := (ok.at hp).size
      by_cases hc : n < 1
      · rw [if_pos (.inl hc)] at hr
        subst hr
        have HF := Lib.hid (BusTo.refl h)
        clear h hk ok hh C ho hp hn
        go_enter Try.func63, Try.ntmps63
        go_wp2_with fail
        refine (HA.out).mono ?_
        rintro e w1 ⟨rfl, rfl⟩
        go_wp2_with fail
        go_ret
        exact ⟨rfl, HF.out⟩
      · by_cases hc2 : (p.s.size : Int) ≤ n
        · rw [if_pos (.inr hc2)] at hr
          subst hr
          have HF := Lib.hid (BusTo.refl h)
          clear h hk ok hh C ho hp hn
          go_enter Try.func63, Try.ntmps63
          go_wp2_with fail
          refine (HA.out).mono ?_
          rintro e w1 ⟨rfl, rfl⟩
          go_wp2_with fail
          go_ret
          exact ⟨rfl, HF.out⟩
        · rw [if_neg (by omega)] at hr
          obtain ⟨m, rfl⟩ : ∃ m : Nat, n = m := ⟨n.toNat, by omega⟩
          rw [Int.toNat_natCast, Int.toNat_natCast] at hr
          have HH := Lib.hid (fun W hW => bhurt_any S B g j st.l st.f p (p.s.extract 0 (p.s.size - m)) W hW hp ok.len)
          have HF := Lib.hid (h.drew)
          subst hr
          show Calls Try.prog 63 _ w fun e w' => e = .returned (.int .i64 0) ∧ BusTo 147 w w' S B (some g) (st.l.set j (hurtS p (p.s.extract 0 (p.s.size - m)))) st.f
          have q1 : (0 : Int) ≤ (p.s.size : Int) - m := by omega
          have q2 : (p.s.size : Int) - m ≤ p.s.size := by omega
          have q3 : IntKind.i64.wrap ((p.s.size : Int) - m) = (p.s.size : Int) - m := by rw [IntKind.wrap_i64]; omega
          have q4 : ((p.s.size : Int) - m).toNat = p.s.size - m := by omega
          clear h hk ok hh C ho hp hn
          go_enter Try.func63, Try.ntmps63
          go_wp2_with fail
          refine (HA.out).mono ?_
          rintro e w1 ⟨rfl, rfl⟩
          go_wp2_with fail
          go_region_with ((go_at_call 116; (with_reducible refine (HH.out _ HF.out).mono ?_); rintro e w2 ⟨rfl, b⟩))
          all_goals
            have HZ := Lib.hid (b.near ((Below.refl _ _).drew))
            clear b
            go_wp2_with fail
            go_ret
            exact ⟨rfl, HZ.out⟩
end Go.Proofs.Ytdhfkcodacmbfaa
