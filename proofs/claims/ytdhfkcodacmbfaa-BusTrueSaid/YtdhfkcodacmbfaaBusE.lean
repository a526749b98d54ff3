/- The medium (bus): the walks of the program's operations. -/
import Derived.Test.YtdhfkcodacmbfaaBusD
import Derived.Test.YtdhfkcodacmbfaaCrcE
set_option linter.unusedVariables false
set_option linter.unusedSimpArgs false
namespace Go.Proofs.Ytdhfkcodacmbfaa
open Go.RowKit

structure BusS where
  l : List PieceS
  f : Bool
structure BusS.ok (st : BusS) : Prop where
  len : st.l.length ≤ 64
  all : ∀ p ∈ st.l, p.ok
theorem BusS.ok.at {st : BusS} (h : st.ok) {n : Nat} {p : PieceS} (hp : st.l[n]? = some p) : p.ok := h.all p (List.mem_of_getElem? hp)
def addS (st : BusS) (p : PieceS) : BusS × Int := if st.l.length = 64 then (⟨st.l, true⟩, 8) else (⟨st.l ++ [p], st.f⟩, 0)
theorem badd_any (S B : Nat) (ob : Option Nat) (st : BusS) (p : PieceS) (w : World) (h : Bus 147 w S B ob st.l st.f) (hl : st.l.length ≤ 64) :
    Calls Try.prog 111 #[.pointer (some ⟨B, 0, none⟩), p.agg] w fun e w' => e = .returned (.int .i64 (addS st p).2) ∧ BusTo 147 w w' S B ob (addS st p).1.l (addS st p).1.f := by
  unfold addS
  by_cases h64 : st.l.length = 64
  · rw [if_pos h64]
    exact badd_full S B ob st.l st.f p w h h64
  · rw [if_neg h64]
    exact badd_room S B ob st.l st.f p w h (by omega)
def twiceS (st : BusS) (k : Int) : BusS × Int := match atS st.l k with | none => (st, 1) | some p => addS st p
set_option maxRecDepth 100000 in
theorem btwice_any (S B : Nat) (ob : Option Nat) (st : BusS) (k : Int) (w : World) (h : Bus 147 w S B ob st.l st.f) (hl : st.l.length ≤ 64) :
    Calls Try.prog 62 #[.pointer (some ⟨B, 0, none⟩), .int .i64 k] w fun e w' => e = .returned (.int .i64 (twiceS st k).2) ∧ BusTo 147 w w' S B ob (twiceS st k).1.l (twiceS st k).1.f := by
  unfold twiceS
  cases hk : atS st.l k with
  | none =>
    have HA := Lib.hid (bat_no S B ob st.l st.f k w h (atS_none hk))
    have HF := Lib.hid (BusTo.refl h)
    clear h hk
    go_enter Try.func62, Try.ntmps62
    go_wp2_with fail
    refine (HA.out).mono ?_
    rintro e w1 ⟨rfl, rfl⟩
    go_wp2_with fail
    go_ret
    exact ⟨rfl, HF.out⟩
  | some p =>
    obtain ⟨n, rfl, hn, hp⟩ := atS_some hk
    obtain ⟨g, cap, rfl, C, ho⟩ := h.some_ (by omega)
    obtain ⟨p0, p1, p2, p3, _, _, _, _⟩ := piece_cells ho hp
    have HA := Lib.hid (bat_yes S B g st.l st.f n w h hn (by omega))
    have HB := badd_any S B (some g) st p w h hl
    unfold PieceS.agg at HB
    have HB := Lib.hid HB
    clear h hk C ho hp hn
    show Calls Try.prog 62 _ w fun e w' => e = .returned (.int .i64 (addS st p).2) ∧ BusTo 147 w w' S B (some g) (addS st p).1.l (addS st p).1.f
    generalize addS st p = r at *
    go_enter Try.func62, Try.ntmps62
    go_wp2_with fail
    refine (HA.out).mono ?_
    rintro e w1 ⟨rfl, rfl⟩
    go_wp2_with fail
    refine (HB.out).mono ?_
    rintro e w2 ⟨rfl, b⟩
    go_wp2_with fail
    go_ret
    exact ⟨rfl, b⟩
def dropS (st : BusS) (k : Int) : BusS × Int := match atS st.l k with | none => (st, 1) | some _ => (⟨st.l.eraseIdx k.toNat, st.f⟩, 0)
set_option maxRecDepth 100000 in
theorem bdrop_any (S B : Nat) (ob : Option Nat) (st : BusS) (k : Int) (w : World) (h : Bus 147 w S B ob st.l st.f) (hl : st.l.length ≤ 64) :
    Calls Try.prog 58 #[.pointer (some ⟨B, 0, none⟩), .int .i64 k] w fun e w' => e = .returned (.int .i64 (dropS st k).2) ∧ BusTo 147 w w' S B ob (dropS st k).1.l (dropS st k).1.f := by
  unfold dropS
  cases hk : atS st.l k with
  | none =>
    have HA := Lib.hid (bat_no S B ob st.l st.f k w h (atS_none hk))
    have HF := Lib.hid (BusTo.refl h)
    clear h hk
    go_enter Try.func58, Try.ntmps58
    go_wp2_with fail
    refine (HA.out).mono ?_
    rintro e w1 ⟨rfl, rfl⟩
    go_wp2_with fail
    go_ret
    exact ⟨rfl, HF.out⟩
  | some p =>
    obtain ⟨n, rfl, hn, hp⟩ := atS_some hk
    obtain ⟨g, cap, rfl, C, ho⟩ := h.some_ (by omega)
    have HA := Lib.hid (bat_yes S B g st.l st.f n w h hn (by omega))
    have HD := Lib.hid (delete_any w S g st.l.length cap n st.l ho rfl hn hl)
    have hne := h.ne
    have hS := h.base
    obtain ⟨v, hb, ho', e⟩ := h.has
    have hv : v = .slice (some ⟨g, 0, none⟩) st.l.length cap := by
      have h1 := hb.cell (j := 0) (v := v) rfl
      rw [C.c0] at h1
      injection h1 with h1
      exact h1.symm
    subst hv
    have c0 := C.c0
    have hlen : (st.l.eraseIdx n).length = st.l.length - 1 := by rw [List.length_eraseIdx, if_pos hn]
    have HL := Lib.hid hlen
    have HB := Lib.hid hb
    have HN := Lib.hid hne
    have hn1 : (n : Int) + 1 ≤ 1000 := by omega
    have hn0 : (0 : Int) ≤ n := by omega
    clear h hk C ho hp hb ho' e hne hlen hn
    go_enter Try.func58, Try.ntmps58
    go_wp2_with fail
    refine (HA.out).mono ?_
    rintro e w1 ⟨rfl, rfl⟩
    go_wp2_with fail
    refine (HD.out).mono ?_
    rintro e w2 ⟨rfl, o2, g2⟩
    have hB2 : Blk w2 B #[.slice (some ⟨g, 0, none⟩) st.l.length cap, .bool st.f] 147 := ⟨(g2.block B HB.out.lt (fun e => HN.out e.symm)).trans HB.out.at_⟩
    have d0 := hB2.cell (j := 0) (v := .slice (some ⟨g, 0, none⟩) st.l.length cap) rfl
    have d1 := hB2.free 0
    have HF := Lib.hid (bus_store (ys := st.l.eraseIdx n) HB.out HN.out hS g2 (v' := .slice (some ⟨g, 0, none⟩) (st.l.length - 1) cap) (by rw [HL.out]; exact o2) (.inl rfl))
    clear hB2 o2 g2 c0
    go_wp2_with fail
    go_ret
    exact ⟨rfl, HF.out⟩
end Go.Proofs.Ytdhfkcodacmbfaa
