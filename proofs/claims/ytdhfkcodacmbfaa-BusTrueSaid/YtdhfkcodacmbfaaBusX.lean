/- The walk of the law BusTrue. -/
import Derived.Test.YtdhfkcodacmbfaaBusW
import Derived.Maps.Own
set_option linter.unusedVariables false
set_option linter.unusedSimpArgs false
namespace Go.Proofs.Ytdhfkcodacmbfaa
open Go.RowKit Go.Maps

/-- What is known after i acts. -/
structure Kn {H : Type} (st : BusS) (came : Nat → Int) (most : Int) (i : Nat) (n : Nat) (D : DataW H) : Prop where
  told : Told (fun t => has D (litS t) = true) st.l
  bal : Bal came most st.l
  m0 : 0 ≤ most
  m1 : most ≤ i
  c0 : ∀ b, b < 32 → 0 ≤ came b
  n1 : n ≤ i
  isMap : IsMap D
def z32 : Array Value := #[.int .i64 0, .int .i64 0, .int .i64 0, .int .i64 0, .int .i64 0, .int .i64 0, .int .i64 0, .int .i64 0, .int .i64 0, .int .i64 0, .int .i64 0, .int .i64 0, .int .i64 0, .int .i64 0, .int .i64 0, .int .i64 0, .int .i64 0, .int .i64 0, .int .i64 0, .int .i64 0, .int .i64 0, .int .i64 0, .int .i64 0, .int .i64 0, .int .i64 0, .int .i64 0, .int .i64 0, .int .i64 0, .int .i64 0, .int .i64 0, .int .i64 0, .int .i64 0]
theorem bt_new {H : Type} (w0 w : World) (b : Below w0.heap.size w0 w) : BT (H := H) w0 w.heap.size (w.heap.size + 1) (w.heap.size + 1 + 1) ⟨[], false⟩ (fun _ => 0) 0 (.map []) [] (((w.alloc (.cells #[.slice none 0 0, .bool false] 147)).alloc (.map #[] 0)).alloc (.cells z32 77)) := by
  have hb := ((bus_new 147 w _ b.size).alloc (.map #[] 0)).alloc (.cells z32 77)
  have b1 := b.alloc b.size (.cells #[.slice none 0 0, .bool false] 147)
  have b2 := b1.alloc b1.size (.map #[] 0)
  have b3 := b2.alloc b2.size (.cells z32 77)
  have hm := World.ownsMap_made (H := H) (w.alloc (.cells #[.slice none 0 0, .bool false] 147)) Try.prog 9 (plainElem Try.prog 4)
  have hC := Blk.new ((w.alloc (.cells #[.slice none 0 0, .bool false] 147)).alloc (.map #[] 0)) z32 77
  have hm2 := map_keep hm (w' := ((w.alloc (.cells #[.slice none 0 0, .bool false] 147)).alloc (.map #[] 0)).alloc (.cells z32 77)) (Below.heap_alloc _ _ _ (map_lt hm))
  rw [World.size_alloc] at hm2
  rw [World.size_alloc, World.size_alloc] at hC
  refine ⟨⟨none, hb, by simp, by simp, fun k hk => (by cases hk)⟩, hm2, ⟨fun j hj => hC.cell ?_, fun j hj => hC.free j⟩, by omega, by omega, by omega, by have := b.size; omega, by have := b.size; omega, b3, ok_nil false⟩
  have : z32 = Array.replicate 32 (.int .i64 0) := rfl
  rw [this]
  simp [cameV, hj]
theorem out_size {st : BusS} (ok : st.ok) (a : ActS) : (actS st a).2.1.size ≤ 1000 := by
  have h0 : (ByteArray.mk #[]).size ≤ 1000 := by decide
  have hd : (deliverS st a.k a.at_).2.1.size ≤ 1000 := by
    unfold deliverS
    cases hk : atS st.l a.k with
    | none => exact h0
    | some p =>
      have hp := (ok.all p (atS_mem hk)).size
      simp only
      split
      · exact h0
      · split <;> exact hp
  unfold actS
  repeat' split
  all_goals first | exact h0 | exact hd
theorem Kn.start {H : Type} : Kn (H := H) ⟨[], false⟩ (fun _ => 0) 0 0 0 (.map []) := ⟨Told.nil _, fun b hb => by simp [cntB], by omega, by omega, fun _ _ => by simp, by omega, ⟨_, rfl⟩⟩
section
variable {H : Type} {st : BusS} {came : Nat → Int} {most : Int} {i n : Nat} {D : DataW H} {a : ActS}
theorem Kn.miss (h : Kn st came most i n D) (ok : st.ok) (oka : a.ok) (he : (actS st a).2.2 ≠ 0) : Kn (actS st a).1 came most (i + 1) n D :=
  ⟨told_act h.told oka (fun _ q => q) (fun _ q => absurd q he), (bal_act ok h.bal).1 he, h.m0, by have := h.m1; omega, h.c0, by have := h.n1; omega, h.isMap⟩
theorem Kn.send (h : Kn st came most i n D) (ok : st.ok) (oka : a.ok) (he : (actS st a).2.2 = 0) (hw : a.what % 7 = 0) : Kn (actS st a).1 came (most + 1) (i + 1) (n + 1) (D.put (litS a.s) (.lit (.bool true))) := by
  have hkey : WideAt.IsKeyLit (litS a.s) := by first | exact trivial | simp [litS, WideAt.IsKeyLit]
  refine ⟨told_act h.told oka (fun t q => ?_) (fun _ _ => has_put_same h.isMap hkey _), ((bal_act ok h.bal).2 he).1 (.inl hw), by have := h.m0; omega, by have := h.m1; omega, h.c0, by have := h.n1; omega, IsMap.put h.isMap _ _⟩
  by_cases e : litS t = litS a.s
  · rw [e]
    exact has_put_same h.isMap hkey _
  · rw [has_put_other e]
    exact q
theorem Kn.twice (h : Kn st came most i n D) (ok : st.ok) (oka : a.ok) (he : (actS st a).2.2 = 0) (hw : a.what % 7 = 4) : Kn (actS st a).1 came (most + 1) (i + 1) n D :=
  ⟨told_act h.told oka (fun _ q => q) (fun q => by omega), ((bal_act ok h.bal).2 he).1 (.inr hw), by have := h.m0; omega, by have := h.m1; omega, h.c0, by have := h.n1; omega, h.isMap⟩
theorem Kn.other (h : Kn st came most i n D) (ok : st.ok) (oka : a.ok) (he : (actS st a).2.2 = 0) (h0 : a.what % 7 ≠ 0) (h4 : a.what % 7 ≠ 4) (h1 : a.what % 7 ≠ 1) : Kn (actS st a).1 came most (i + 1) n D :=
  ⟨told_act h.told oka (fun _ q => q) (fun q => absurd q h0), ((bal_act ok h.bal).2 he).2.2 h0 h4 h1, h.m0, by have := h.m1; omega, h.c0, by have := h.n1; omega, h.isMap⟩
theorem Kn.take (h : Kn st came most i n D) (ok : st.ok) (oka : a.ok) (he : (actS st a).2.2 = 0) (hw : a.what % 7 = 1) : ∃ j : Nat, a.at_ = (j : Int) ∧ j < 32 ∧ came j + 1 ≤ most ∧ Kn (actS st a).1 (fun b => if b = j then came j + 1 else came b) most (i + 1) n D := by
  obtain ⟨h0, h1, hb⟩ := ((bal_act ok h.bal).2 he).2.1 hw
  have hc := count_le hb a.at_.toNat (by omega)
  simp only [if_true] at hc
  have hfun : (fun b => if b = a.at_.toNat then came b + 1 else came b) = (fun b => if b = a.at_.toNat then came a.at_.toNat + 1 else came b) := by
    funext b
    split
    · next e => rw [e]
    · rfl
  rw [hfun] at hb
  refine ⟨a.at_.toNat, by omega, by omega, hc, told_act h.told oka (fun _ q => q) (fun q => by omega), hb, h.m0, by have := h.m1; omega, fun b hb' => ?_, by have := h.n1; omega, h.isMap⟩
  have := h.c0 b hb'
  have := h.c0 a.at_.toNat (by omega)
  split <;> omega
end
set_option maxRecDepth 100000 in
set_option maxHeartbeats 8000000 in
theorem true_walk {H : Type} (A : Option Addr) (len cap : Nat) (f : Nat → ActS) (w : World) (hI : ActsR w A len f) (hl : len ≤ 9223372036854775807) :
    Calls Try.prog 13 #[.slice A len cap] w fun e w' => e = .returned (.bool true) ∧ Below w.heap.size w w' := by
  have HA := Lib.hid (fun W => bawake_any W)
  have HS := Lib.hid (fun W hW => asmall_any A len cap f 60 W hW hl)
  have HN := Lib.hid (fun W => bnew_any W)
  have HI := Lib.hid hI
  have hmm := @run_makeMap Try.prog
  unfold SmallTo at HS
  clear hI
  go_enter Try.func13, Try.ntmps13
  go_wp2_with fail
  refine (HA.out _).mono ?_
  rintro e w1 ⟨rfl, b⟩
  have Hb1 := Lib.hid b
  clear b
  go_wp2_with fail
  refine (HS.out _ (HI.out.keep Hb1.out)).mono ?_
  rintro e w2 ⟨bo, rfl, hsm, b⟩
  have HSM := Lib.hid hsm
  have Hb2 := Lib.hid (below_then Hb1.out b)
  clear b hsm
  cases bo with
  | false =>
    go_wp2_with fail
    go_ret
    exact ⟨rfl, Hb2.out⟩
  | true =>
    go_wp2_with fail
    refine (HN.out _).mono ?_
    rintro e w3 ⟨rfl, rfl⟩
    go_wp2_with fail
    have H0 := Lib.hid (bt_new (H := H) w w2 Hb2.out)
    have hl60 := (HSM.out (by trivial)).1
    have Hsz := Lib.hid (HSM.out (by trivial)).2
    clear HSM
    unfold z32 at H0
    generalize ((w2.alloc (.cells #[.slice none 0 0, .bool false] 147)).alloc (.map #[] 0)).alloc (.cells #[.int .i64 0, .int .i64 0, .int .i64 0, .int .i64 0, .int .i64 0, .int .i64 0, .int .i64 0, .int .i64 0, .int .i64 0, .int .i64 0, .int .i64 0, .int .i64 0, .int .i64 0, .int .i64 0, .int .i64 0, .int .i64 0, .int .i64 0, .int .i64 0, .int .i64 0, .int .i64 0, .int .i64 0, .int .i64 0, .int .i64 0, .int .i64 0, .int .i64 0, .int .i64 0, .int .i64 0, .int .i64 0, .int .i64 0, .int .i64 0, .int .i64 0, .int .i64 0] 77) = w4 at *
    generalize w2.heap.size + 1 + 1 = C at *
    generalize w2.heap.size + 1 = M at *
    generalize w2.heap.size = B at *
    go_loopw [6, 8, 9, 10, 20] (fun m _ _ _ x wr => ∃ (i : Nat) (st : BusS) (came : Nat → Int) (most : Int) (n : Nat) (D : DataW H), i ≤ len ∧ x = .int .i64 i ∧ m = .int .i64 most ∧ Kn st came most i n D ∧ BT w B M C st came n D [] wr) (fun _ _ _ _ x _ => len - (intOf x).toNat)
    case atStart => exact ⟨0, _, _, 0, 0, _, by omega, rfl, rfl, Kn.start, H0.out⟩
    case round =>
      clear H0
      obtain ⟨i, st, came, most, n, D, hil, rfl, rfl, kn, h⟩ := hrel
      by_cases hlt : i < len
      · have hlt' : (i : Int) < (len : Int) := by omega
        obtain ⟨g, off, rfl, c0, c1, c2, c3, c4⟩ := (HI.out.keep h.bel).at_ i hlt
        have hs3 := Hsz.out i hlt
        have hoka := Lib.hid (HI.out.ok i hlt)
        have hbx := h.box (f i).cells 65
        have H1 := do_bt (f i) hbx hoka.out (by omega)
        have hsi : ((f i).s.size : Int) ≤ 300 := by omega
        have hok := Lib.hid h.ok
        have KN := Lib.hid kn
        have hm1 : most ≤ 60 := by have := kn.m1; omega
        have hm0 := kn.m0
        have hn60 : n ≤ 60 := by have := kn.n1; omega
        have hCw := h.arr.lt (by decide)
        have hBC : wr.heap.size ≠ C := by omega
        clear kn
        generalize f i = a at *
        have ha7 : 0 ≤ a.what % 7 ∧ a.what % 7 < 7 := by omega
        have ha0 := hoka.out.what.1
        have ha1 := hoka.out.what.2
        have hszO := out_size hok.out a
        by_cases h40 : (40 : Int) < (a.s.size : Int)
        · have hx := Lib.hid hbx
          have hbel := Lib.hid hbx.bel
          unfold ActS.cells at hbel
          clear H1 h hbx
          go_wp2_with fail
          go_ret
          exact ⟨rfl, hbel.out⟩
        · by_cases he : (actS st a).2.2 = 0
          · by_cases hw0 : a.what % 7 = 0
            · have K2 := Lib.hid (KN.out.send hok.out hoka.out he hw0)
              have hkey : keyOf Try.prog 9 (.string a.s) = some (litS a.s) := Go.WideMaps.keyOf_string_mk Try.underlying9 hoka.out.size
              unfold ActS.cells at H1
              rw [he] at H1
              have H1 := Lib.hid H1
              generalize (actS st a).2.1 = s1 at *
              generalize (actS st a).1 = st1 at *
              clear h hbx he KN
              go_wp2_with fail
              refine (H1.out).mono ?_
              rintro e w5 ⟨rfl, h⟩
              have y := h.blk (k := ⟨wr.heap.size, #[.int .u8 a.what, .int .i64 a.k, .int .i64 a.at_, .int .u16 a.pat, .string a.s], 65⟩) (by simp)
              have d0 := y.cell (j := 0) (v := .int .u8 a.what) rfl
              have d1 := y.cell (j := 1) (v := .int .i64 a.k) rfl
              have d2 := y.cell (j := 2) (v := .int .i64 a.at_) rfl
              have d3 := y.cell (j := 3) (v := .int .u16 a.pat) rfl
              have d4 := y.cell (j := 4) (v := .string a.s) rfl
              clear y c0 c1 c2 c3 c4
              have hmap := h.map
              have h := Lib.hid h
              go_wp2_with (at_mapUpdate; refine wpList_mapUpdate_own _ rfl _ _ _ 76 rfl 9 4 law9 Try.underlying76 _ M n _ rfl hmap (by unfold maxLen; omega) _ _ _ rfl rfl hkey _ [] (plainElem_bool Try.underlying4 true) ?_; intro w6 hown1 hgrow1)
              have h6 := Lib.hid (h.out.put hgrow1 hown1).less
              clear hown1 hgrow1 hmap d0 d1 d2 d3 d4
              go_wp2_with fail
              go_roundw
              case rel => exact ⟨i + 1, st1, came, most + 1, n + 1, _, by omega, by go_num, rfl, K2.out, h6.out⟩
              case measure => simp [intOf]; omega
            · by_cases hw4 : a.what % 7 = 4
              · have K2 := Lib.hid (KN.out.twice hok.out hoka.out he hw4)
                unfold ActS.cells at H1
                rw [he] at H1
                have H1 := Lib.hid H1
                generalize (actS st a).2.1 = s1 at *
                generalize (actS st a).1 = st1 at *
                clear h hbx he KN
                go_wp2_with fail
                refine (H1.out).mono ?_
                rintro e w5 ⟨rfl, h⟩
                have y := h.blk (k := ⟨wr.heap.size, #[.int .u8 a.what, .int .i64 a.k, .int .i64 a.at_, .int .u16 a.pat, .string a.s], 65⟩) (by simp)
                have d0 := y.cell (j := 0) (v := .int .u8 a.what) rfl
                have d1 := y.cell (j := 1) (v := .int .i64 a.k) rfl
                have d2 := y.cell (j := 2) (v := .int .i64 a.at_) rfl
                have d3 := y.cell (j := 3) (v := .int .u16 a.pat) rfl
                have d4 := y.cell (j := 4) (v := .string a.s) rfl
                clear y c0 c1 c2 c3 c4
                have h6 := Lib.hid h.less
                clear h
                go_wp2_with fail
                go_roundw
                case rel => exact ⟨i + 1, st1, came, most + 1, n, _, by omega, by go_num, rfl, K2.out, h6.out⟩
                case measure => simp [intOf]; omega
              · by_cases hw1 : a.what % 7 = 1
                · obtain ⟨j, hj, hj32, hcm, k2⟩ := KN.out.take hok.out hoka.out he hw1
                  have HJ := Lib.hid hj
                  clear hj
                  have K2 := Lib.hid k2
                  have HO := Lib.hid (out_act KN.out.told hw1 he)
                  have hcj0 := KN.out.c0 j hj32
                  have hcj1 : came j + 1 ≤ 60 := by omega
                  unfold ActS.cells at H1
                  rw [he] at H1
                  have H1 := Lib.hid H1
                  generalize (actS st a).2.1 = s1 at *
                  generalize (actS st a).1 = st1 at *
                  clear h hbx he KN k2
                  go_wp2_with fail
                  refine (H1.out).mono ?_
                  rintro e w5 ⟨rfl, h⟩
                  have y := h.blk (k := ⟨wr.heap.size, #[.int .u8 a.what, .int .i64 a.k, .int .i64 a.at_, .int .u16 a.pat, .string a.s], 65⟩) (by simp)
                  have d0 := y.cell (j := 0) (v := .int .u8 a.what) rfl
                  have d1 := y.cell (j := 1) (v := .int .i64 a.k) rfl
                  have d2 := y.cell (j := 2) (v := .int .i64 a.at_) rfl
                  have d3 := y.cell (j := 3) (v := .int .u16 a.pat) rfl
                  have d4 := y.cell (j := 4) (v := .string a.s) rfl
                  clear y c0 c1 c2 c3 c4
                  rw [HJ.out] at d2
                  have hjz : (j : Int) < 32 := by omega
                  have hj0 : (0 : Int) ≤ (j : Int) := by omega
                  have x0 : w5.cell? ⟨C, j, none⟩ = some (.int .i64 (came j)) := h.arr.cell j hj32
                  have x1 := h.arr.free j hj32
                  have h6 := Lib.hid (h.count j hj32 (came j + 1))
                  have hnb : ¬ most < came j + 1 := by omega
                  have hnb' : decide (most < came j + 1) = false := by simpa using hnb
                  have hBC' : C ≠ wr.heap.size := fun e => hBC e.symm
                  clear h
                  have HFr := Lib.hid (fun W (hW : BT w B M C st1 (fun i => if i = j then came j + 1 else came i) n D [⟨wr.heap.size, #[.int .u8 a.what, .int .i64 a.k, .int .i64 a.at_, .int .u16 a.pat, .string a.s], 65⟩] W) => from_bt s1 hW hszO HO.out)
                  go_wp2_with fail
                  refine (HFr.out _ h6.out).mono ?_
                  rintro e w7 ⟨rfl, h7⟩
                  have h8 := Lib.hid h7.less
                  clear h7 d0 d1 d2 d3 d4 x0 x1
                  go_wp2_with fail
                  go_roundw
                  case rel => exact ⟨i + 1, st1, _, most, n, _, by omega, by go_num, rfl, K2.out, h8.out⟩
                  case measure => simp [intOf]; omega
                · have K2 := Lib.hid (KN.out.other hok.out hoka.out he hw0 hw4 hw1)
                  unfold ActS.cells at H1
                  rw [he] at H1
                  have H1 := Lib.hid H1
                  generalize (actS st a).2.1 = s1 at *
                  generalize (actS st a).1 = st1 at *
                  clear h hbx he KN
                  go_wp2_with fail
                  refine (H1.out).mono ?_
                  rintro e w5 ⟨rfl, h⟩
                  have y := h.blk (k := ⟨wr.heap.size, #[.int .u8 a.what, .int .i64 a.k, .int .i64 a.at_, .int .u16 a.pat, .string a.s], 65⟩) (by simp)
                  have d0 := y.cell (j := 0) (v := .int .u8 a.what) rfl
                  have d1 := y.cell (j := 1) (v := .int .i64 a.k) rfl
                  have d2 := y.cell (j := 2) (v := .int .i64 a.at_) rfl
                  have d3 := y.cell (j := 3) (v := .int .u16 a.pat) rfl
                  have d4 := y.cell (j := 4) (v := .string a.s) rfl
                  clear y c0 c1 c2 c3 c4
                  have h6 := Lib.hid h.less
                  clear h
                  go_wp2_with fail
                  go_roundw
                  case rel => exact ⟨i + 1, st1, came, most, n, _, by omega, by go_num, rfl, K2.out, h6.out⟩
                  case measure => simp [intOf]; omega
          · have K2 := Lib.hid (KN.out.miss hok.out hoka.out he)
            unfold ActS.cells at H1
            have H1 := Lib.hid H1
            generalize (actS st a).2.1 = s1 at *
            generalize (actS st a).2.2 = e1 at *
            generalize (actS st a).1 = st1 at *
            have he' : (e1 != 0) = true := by simpa using he
            clear h hbx KN
            go_wp2_with fail
            refine (H1.out).mono ?_
            rintro e w5 ⟨rfl, h⟩
            have h6 := Lib.hid h.less
            clear h
            go_wp2_with fail
            go_roundw
            case rel => exact ⟨i + 1, st1, came, most, n, _, by omega, by go_num, rfl, K2.out, h6.out⟩
            case measure => simp [intOf]; omega
      · obtain rfl : i = len := by omega
        have hlt' : ¬ (i : Int) < (i : Int) := by omega
        have hbel := Lib.hid h.bel
        clear h kn
        go_wp2_with fail
        go_ret
        exact ⟨rfl, hbel.out⟩
end Go.Proofs.Ytdhfkcodacmbfaa
