/- The medium (bus): the walks of the program's operations (send, deliver, lose). -/
import Derived.Test.YtdhfkcodacmbfaaBusF
set_option linter.unusedVariables false
set_option linter.unusedSimpArgs false
namespace Go.Proofs.Ytdhfkcodacmbfaa
open Go.RowKit

def sendS (st : BusS) (src : Int) (s : ByteArray) : BusS × Int := if src < 0 ∨ 31 < src ∨ s.size < 1 ∨ 255 < s.size then (st, 1) else addS st ⟨s, src, withoutA 4294967295 src, false⟩
theorem size_toList (s : ByteArray) : s.toList.length = s.size := by
  rw [ByteArray.toList_eq]
  simp
set_option maxRecDepth 100000 in
theorem bsend_any (S B : Nat) (ob : Option Nat) (st : BusS) (src : Int) (s : ByteArray) (w : World) (h : Bus 147 w S B ob st.l st.f) (hl : st.l.length ≤ 64) (hs : s.size ≤ 1000000) :
    Calls Try.prog 55 #[.pointer (some ⟨B, 0, none⟩), .int .i64 src, .string s] w fun e w' => e = .returned (.int .i64 (sendS st src s).2) ∧ BusTo 147 w w' S B ob (sendS st src s).1.l (sendS st src s).1.f := by
  have HF := Lib.hid (BusTo.refl h)
  obtain ⟨r, hr⟩ : ∃ r, r = sendS st src s := ⟨_, rfl⟩
  rw [← hr]
  unfold sendS at hr
  by_cases h0 : src < 0
  · rw [if_pos (.inl h0)] at hr
    subst hr
    clear h
    go_enter Try.func55, Try.ntmps55
    go_wp2_with fail
    go_ret
    exact ⟨rfl, HF.out⟩
  · by_cases h1 : 32 ≤ src
    · rw [if_pos (.inr (.inl (by omega)))] at hr
      subst hr
      clear h
      go_enter Try.func55, Try.ntmps55
      go_wp2_with fail
      go_ret
      exact ⟨rfl, HF.out⟩
    · by_cases h2 : s.size < 1
      · rw [if_pos (.inr (.inr (.inl h2)))] at hr
        subst hr
        have hsl := size_toList s
        have he : s.toList = [] := List.length_eq_zero_iff.1 (by omega)
        clear h hsl
        go_enter Try.func55, Try.ntmps55
        go_wp2_with fail
        go_ret
        exact ⟨rfl, HF.out⟩
      · have hsl := size_toList s
        have he : s.toList.isEmpty = false := by
          cases hq : s.toList with
          | nil => rw [hq] at hsl; simp at hsl; omega
          | cons a t => rfl
        have he2 : ¬ s.toList = [] := fun q => by rw [q] at he; cases he
        have he3 : (s.toList == []) = false := by simpa using he2
        by_cases h3 : 255 < s.size
        · rw [if_pos (.inr (.inr (.inr h3)))] at hr
          subst hr
          have h3' : (255 : Int) < s.size := by omega
          clear h hsl
          go_enter Try.func55, Try.ntmps55
          go_wp2_with fail
          go_ret
          exact ⟨rfl, HF.out⟩
        · rw [if_neg (by omega)] at hr
          have h3' : ¬ (255 : Int) < s.size := by omega
          have HW := Lib.hid (fun W => without_any 4294967295 src W (by decide))
          have HB := badd_any S B ob st ⟨s, src, withoutA 4294967295 src, false⟩ w h hl
          rw [← hr] at HB
          unfold PieceS.agg at HB
          simp only at HB
          have HB := Lib.hid HB
          clear h hsl hr he2
          generalize ((withoutA 4294967295 src : Nat) : Int) = d at *
          go_enter Try.func55, Try.ntmps55
          go_wp2_with fail
          refine (HW.out _).mono ?_
          rintro e w1 ⟨rfl, rfl⟩
          go_wp2_with fail
          refine (HB.out).mono ?_
          rintro e w2 ⟨rfl, b⟩
          go_wp2_with fail
          go_ret
          exact ⟨rfl, b⟩
/-- What is delivered: the bus, the bytes, the error. -/
def deliverS (st : BusS) (k to : Int) : BusS × ByteArray × Int := match atS st.l k with
  | none => (st, ⟨#[]⟩, 1)
  | some p => if hasA p.dest to = false then (st, ⟨#[]⟩, 1) else
    if withoutA p.dest to = 0 then (⟨(st.l.set k.toNat ⟨p.s, p.src, withoutA p.dest to, p.hurt⟩).eraseIdx k.toNat, st.f⟩, p.s, 0)
    else (⟨st.l.set k.toNat ⟨p.s, p.src, withoutA p.dest to, p.hurt⟩, st.f⟩, p.s, 0)
set_option maxRecDepth 100000 in
theorem bdeliver_any (S B : Nat) (ob : Option Nat) (st : BusS) (k to : Int) (w : World) (h : Bus 147 w S B ob st.l st.f) (ok : st.ok) :
    Calls Try.prog 110 #[.pointer (some ⟨B, 0, none⟩), .int .i64 k, .int .i64 to] w fun e w' => e = .returned (.tuple #[.string (deliverS st k to).2.1, .int .i64 (deliverS st k to).2.2]) ∧ BusTo 147 w w' S B ob (deliverS st k to).1.l (deliverS st k to).1.f := by
  have HF := Lib.hid (BusTo.refl h)
  obtain ⟨r, hr⟩ : ∃ r, r = deliverS st k to := ⟨_, rfl⟩
  rw [← hr]
  unfold deliverS at hr
  cases hk : atS st.l k with
  | none =>
    simp only [hk] at hr
    subst hr
    have HA := Lib.hid (bat_no S B ob st.l st.f k w h (atS_none hk))
    clear h hk ok
    go_enter Try.func110, Try.ntmps110
    go_wp2_with fail
    refine (HA.out).mono ?_
    rintro e w1 ⟨rfl, rfl⟩
    go_wp2_with fail
    go_ret2
    exact ⟨rfl, HF.out⟩
  | some p =>
    simp only [hk] at hr
    obtain ⟨n, rfl, hn, hp⟩ := atS_some hk
    rw [Int.toNat_natCast] at hr
    have hlen := ok.len
    obtain ⟨g, cap, rfl, C, ho⟩ := h.some_ (by omega)
    obtain ⟨p0, p1, p2, p3, _, _, q2, _⟩ := piece_cells ho hp
    have HA := Lib.hid (bat_yes S B g st.l st.f n w h hn (by omega))
    have HH := Lib.hid (fun W => has_any p.dest to W (ok.at hp).dest)
    cases hh : hasA p.dest to with
    | false =>
      rw [if_pos hh] at hr
      subst hr
      rw [hh] at HH
      clear h hk ok C ho hp hn hh
      go_enter Try.func110, Try.ntmps110
      go_wp2_with fail
      refine (HA.out).mono ?_
      rintro e w1 ⟨rfl, rfl⟩
      go_wp2_with fail
      refine (HH.out _).mono ?_
      rintro e w1 ⟨rfl, rfl⟩
      go_wp2_with fail
      go_ret2
      exact ⟨rfl, HF.out⟩
    | true =>
      rw [if_neg (by rw [hh]; decide)] at hr
      rw [hh] at HH
      have HW := Lib.hid (fun W => without_any p.dest to W (ok.at hp).dest)
      obtain ⟨b1, k1⟩ := h.set (i := 2) (q := ⟨p.s, p.src, withoutA p.dest to, p.hurt⟩) (u := .int .u32 ((withoutA p.dest to : Nat) : Int)) hp (by omega) rfl
      have hl1 : (st.l.set n ⟨p.s, p.src, withoutA p.dest to, p.hurt⟩).length ≤ 64 := by rw [List.length_set]; exact hlen
      have HD := bdrop_any S B (some g) ⟨st.l.set n ⟨p.s, p.src, withoutA p.dest to, p.hurt⟩, st.f⟩ (n : Int) _ b1 hl1
      have hat : atS (st.l.set n ⟨p.s, p.src, withoutA p.dest to, p.hurt⟩) (n : Int) = some ⟨p.s, p.src, withoutA p.dest to, p.hurt⟩ := by rw [atS_nat, List.getElem?_set_self hn]
      unfold dropS at HD
      simp only [hat, Int.toNat_natCast] at HD
      have HD := Lib.hid HD
      have HK : Hid (BusTo 147 w (w.setCell ⟨g, n * 4 + 2, none⟩ (.int .u32 ((withoutA p.dest to : Nat) : Int))) S B (some g) (st.l.set n ⟨p.s, p.src, withoutA p.dest to, p.hurt⟩) st.f) := ⟨⟨some g, b1, Near.refl _ _⟩, k1⟩
      have HK1 := Lib.hid k1
      clear b1 k1 hat hl1
      generalize withoutA p.dest to = d at *
      by_cases hz : d = 0
      · rw [if_pos hz] at hr
        subst hr
        subst hz
        clear h hk ok C ho hp hn hh
        go_enter Try.func110, Try.ntmps110
        go_wp2_with fail
        refine (HA.out).mono ?_
        rintro e w1 ⟨rfl, rfl⟩
        go_wp2_with fail
        refine (HH.out _).mono ?_
        rintro e w1 ⟨rfl, rfl⟩
        go_wp2_with fail
        refine (HW.out _).mono ?_
        rintro e w1 ⟨rfl, rfl⟩
        go_wp2_with fail
        refine (HD.out).mono ?_
        rintro e w2 ⟨rfl, b⟩
        have HZ := Lib.hid (BusTo.trans HK1.out (Near.refl _ _) b)
        clear b
        go_wp2_with fail
        go_ret2
        exact ⟨rfl, HZ.out⟩
      · rw [if_neg hz] at hr
        subst hr
        have hz1 : ¬ (d : Int) = 0 := by omega
        have hz2 : ((d : Int) == 0) = false := by simpa using hz1
        clear h hk ok C ho hp hn hh hz hz1
        go_enter Try.func110, Try.ntmps110
        go_wp2_with fail
        refine (HA.out).mono ?_
        rintro e w1 ⟨rfl, rfl⟩
        go_wp2_with fail
        refine (HH.out _).mono ?_
        rintro e w1 ⟨rfl, rfl⟩
        go_wp2_with fail
        refine (HW.out _).mono ?_
        rintro e w1 ⟨rfl, rfl⟩
        go_wp2_with fail
        go_ret2
        exact ⟨rfl, HK.out⟩
set_option maxRecDepth 100000 in
theorem blose_any (S B : Nat) (ob : Option Nat) (st : BusS) (k to : Int) (w : World) (h : Bus 147 w S B ob st.l st.f) (ok : st.ok) :
    Calls Try.prog 117 #[.pointer (some ⟨B, 0, none⟩), .int .i64 k, .int .i64 to] w fun e w' => e = .returned (.int .i64 (deliverS st k to).2.2) ∧ BusTo 147 w w' S B ob (deliverS st k to).1.l (deliverS st k to).1.f := by
  have HD := Lib.hid (bdeliver_any S B ob st k to w h ok)
  generalize deliverS st k to = r at *
  clear h ok
  go_enter Try.func117, Try.ntmps117
  go_wp2_with fail
  refine (HD.out).mono ?_
  rintro e w1 ⟨rfl, b⟩
  go_wp2_with fail
  go_ret
  exact ⟨rfl, b⟩
end Go.Proofs.Ytdhfkcodacmbfaa
