/- The walk of the law BusHurts. -/
import Derived.Test.YtdhfkcodacmbfaaBusK
import Derived.Test.YtdhfkcodacmbfaaActs
import Derived.Deep.RegionHeld3
set_option linter.unusedVariables false
set_option linter.unusedSimpArgs false
namespace Go.Proofs.Ytdhfkcodacmbfaa
open Go.RowKit

def otherT : ByteArray := ⟨#[111, 116, 104, 101, 114]⟩
def othP : PieceS := ⟨otherT, 4, 4294967279, false⟩
def hB (s : ByteArray) : BusS := ⟨[⟨s, 3, 4294967287, false⟩, othP], false⟩
def hC (p : PieceS) : BusS := ⟨[p, othP], false⟩
def hD (p q : PieceS) : BusS := ⟨[p, othP, q], false⟩
theorem hurt_1 (s : ByteArray) (h1 : 1 ≤ s.size) (h2 : s.size ≤ 255) : sendS ⟨[], false⟩ 3 s = (⟨[⟨s, 3, 4294967287, false⟩], false⟩, 0) := by
  unfold sendS
  rw [if_neg (by omega)]
  rfl
theorem hurt_2 (s : ByteArray) : sendS ⟨[⟨s, 3, 4294967287, false⟩], false⟩ 4 otherT = (hB s, 0) := by rfl
theorem hurt_3 (s : ByteArray) (at_ pat : Int) : burstB (hB s) 0 at_ pat = (hC (hurtS ⟨s, 3, 4294967287, false⟩ (burstA s at_ pat)), 0) := by rfl
theorem hurt_4 (p : PieceS) : twiceS (hC p) 0 = (hD p p, 0) := by rfl
def cutP (p : PieceS) (n : Nat) : PieceS := hurtS p (p.s.extract 0 (p.s.size - n))
theorem cut_hurt (p : PieceS) (n : Nat) (h1 : 1 ≤ n) (h2 : n < p.s.size) : cutP p n = ⟨p.s.extract 0 (p.s.size - n), p.src, p.dest, true⟩ := by
  unfold cutP hurtS
  have : (p.s.toList == (p.s.extract 0 (p.s.size - n)).toList) = false := by
    rw [beq_eq_false_iff_ne]
    intro e
    have := congrArg List.length e
    rw [size_toList, size_toList, ByteArray.size_extract] at this
    omega
  rw [this]
  rfl
/-- What is cut, on the one or on its twin. -/
def hE (p : PieceS) (on : Int) (q : PieceS) : BusS := if on = 0 then hD q p else hD p q
theorem hurt_5 (p : PieceS) (on : Int) (n : Nat) (ho : on = 0 ∨ on = 2) (hp : p.hurt = true) : cutB (hD p p) on n = (hD p p, 11) := by
  rcases ho with rfl | rfl
  · show (if p.hurt = true then (hD p p, (11 : Int)) else _) = _
    rw [if_pos hp]
  · show (if p.hurt = true then (hD p p, (11 : Int)) else _) = _
    rw [if_pos hp]
theorem hurt_6 (p : PieceS) (on : Int) (n : Nat) (ho : on = 0 ∨ on = 2) (hp : p.hurt = false) (h1 : 1 ≤ n) (h2 : n < p.s.size) : cutB (hD p p) on n = (hE p on (cutP p n), 0) := by
  rcases ho with rfl | rfl
  · show (if p.hurt = true then (hD p p, (11 : Int)) else if (n : Int) < 1 ∨ (p.s.size : Int) ≤ n then (hD p p, (1 : Int)) else _) = _
    rw [if_neg (by rw [hp]; decide), if_neg (by omega)]
    rfl
  · show (if p.hurt = true then (hD p p, (11 : Int)) else if (n : Int) < 1 ∨ (p.s.size : Int) ≤ n then (hD p p, (1 : Int)) else _) = _
    rw [if_neg (by rw [hp]; decide), if_neg (by omega)]
    rfl
theorem hurt_7 (p q : PieceS) (on : Int) (ho : on = 0 ∨ on = 2) : pieceA (hE p on q).l on = q.agg ∧ pieceA (hE p on q).l (2 - on) = p.agg ∧ pieceA (hE p on q).l 1 = othP.agg := by
  rcases ho with rfl | rfl <;> exact ⟨rfl, rfl, rfl⟩
theorem hurt_8 (p q : PieceS) (on a b : Int) (ho : on = 0 ∨ on = 2) (hq : q.hurt = true) : (burstB (hE p on q) on a b).2 = 11 ∧ (cutB (hE p on q) on a).2 = 11 := by
  rcases ho with rfl | rfl
  · refine ⟨?_, ?_⟩
    · show (if q.hurt = true then (_, (11 : Int)) else _ : BusS × Int).2 = 11
      rw [if_pos hq]
    · show (if q.hurt = true then (_, (11 : Int)) else _ : BusS × Int).2 = 11
      rw [if_pos hq]
  · refine ⟨?_, ?_⟩
    · show (if q.hurt = true then (_, (11 : Int)) else _ : BusS × Int).2 = 11
      rw [if_pos hq]
    · show (if q.hurt = true then (_, (11 : Int)) else _ : BusS × Int).2 = 11
      rw [if_pos hq]
theorem hurt_9 (p q : PieceS) (on a : Int) (ho : on = 0 ∨ on = 2) (hq : q.hurt = true) : cutB (hE p on q) on a = (hE p on q, 11) := by
  rcases ho with rfl | rfl
  · show (if q.hurt = true then (_, (11 : Int)) else _ : BusS × Int) = _
    rw [if_pos hq]
  · show (if q.hurt = true then (_, (11 : Int)) else _ : BusS × Int) = _
    rw [if_pos hq]
theorem BK.of5 {a b c d : Prop} {w0 w : World} {B : Nat} {st : BusS} {ks : List KeepB} (h : a ∧ b ∧ c ∧ d ∧ BK w0 B st ks w) : BK w0 B st ks w := h.2.2.2.2
set_option maxRecDepth 100000 in
set_option maxHeartbeats 4000000 in
theorem hurts_walk (s : ByteArray) (bu cu : ActS) (w : World) (hs : s.size ≤ maxLen) (okb : bu.ok) (okc : cu.ok) :
    Calls Try.prog 12 #[.string s, .agg bu.cells, .agg cu.cells] w fun e w' => e = .returned (.bool true) ∧ Below w.heap.size w w' := by
  have HA := Lib.hid (fun W => bawake_any W)
  have hs' : s.size ≤ 9223372036854775807 := hs
  clear hs
  have X1 := Blk.new w bu.cells 65
  have b1 := (Below.refl w.heap.size w).alloc (Nat.le_refl _) (.cells bu.cells 65)
  have X2 := Blk.new (w.alloc (.cells bu.cells 65)) cu.cells 65
  have X1' := X1.alloc (.cells cu.cells 65)
  have b2 := b1.alloc b1.size (.cells cu.cells 65)
  rw [World.size_alloc] at X2
  unfold ActS.cells at *
  by_cases h2 : s.size < 2
  · have h2' : (s.size : Int) < 2 := by omega
    go_enter Try.func12, Try.ntmps12
    go_wp2_with fail
    generalize (w.alloc (.cells #[.int .u8 bu.what, .int .i64 bu.k, .int .i64 bu.at_, .int .u16 bu.pat, .string bu.s] 65)).alloc (.cells #[.int .u8 cu.what, .int .i64 cu.k, .int .i64 cu.at_, .int .u16 cu.pat, .string cu.s] 65) = w0 at *
    refine (HA.out _).mono ?_
    rintro e w1 ⟨rfl, b⟩
    have bb := below_lift b2 b b2.size
    go_wp2_with fail
    go_ret
    exact ⟨rfl, bb⟩
  · have h2' : ¬ (s.size : Int) < 2 := by omega
    by_cases h40 : 40 < s.size
    · have h40' : (40 : Int) < s.size := by omega
      go_enter Try.func12, Try.ntmps12
      go_wp2_with fail
      generalize (w.alloc (.cells #[.int .u8 bu.what, .int .i64 bu.k, .int .i64 bu.at_, .int .u16 bu.pat, .string bu.s] 65)).alloc (.cells #[.int .u8 cu.what, .int .i64 cu.k, .int .i64 cu.at_, .int .u16 cu.pat, .string cu.s] 65) = w0 at *
      refine (HA.out _).mono ?_
      rintro e w1 ⟨rfl, b⟩
      have bb := below_lift b2 b b2.size
      go_wp2_with fail
      go_ret
      exact ⟨rfl, bb⟩
    · have h40' : ¬ (40 : Int) < s.size := by omega
      obtain ⟨s', hse⟩ : ∃ s', s' = burstA s bu.at_ bu.pat := ⟨_, rfl⟩
      have hsz : s'.size = s.size := by rw [hse, burstA_size]
      obtain ⟨n, hn⟩ : ∃ n : Nat, 1 + cu.pat % ((s.size : Int) - 1) = n := ⟨(1 + cu.pat % ((s.size : Int) - 1)).toNat, by have := Int.emod_nonneg cu.pat (show (s.size : Int) - 1 ≠ 0 by omega); omega⟩
      have hnr : 1 ≤ n ∧ n < s.size := by
        have := Int.emod_nonneg cu.pat (show (s.size : Int) - 1 ≠ 0 by omega)
        have := Int.emod_lt_of_pos cu.pat (show (0 : Int) < (s.size : Int) - 1 by omega)
        omega
      have hpb := okb.pat
      have HN := Lib.hid (fun ks W hb hk => new_bk w ks W hb hk)
      have H1 := Lib.hid (fun B ks W h => send_bk w B ⟨[], false⟩ ks W 3 s h (by omega))
      rw [hurt_1 s (by omega) (by omega)] at H1
      have H2 := Lib.hid (fun B ks W h => send_bk w B ⟨[⟨s, 3, 4294967287, false⟩], false⟩ ks W 4 otherT h (by decide))
      rw [hurt_2] at H2
      unfold otherT at H2
      have H3 := Lib.hid (fun B ks W h => burst_bk w B (hB s) ks W 0 bu.at_ bu.pat h hpb.1 hpb.2)
      rw [hurt_3, ← hse] at H3
      clear hse okb
      have hcp0 := okc.pat
      have hcw0 := okc.what.1
      have hcw1 := okc.what.2
      have hwc : cu.what % 2 = 0 ∨ cu.what % 2 = 1 := by omega
      clear okc
      rcases hwc with hw | hw
      · cases hh : (s.toList == s'.toList) with
        | false =>
          obtain ⟨p, hp⟩ : ∃ p : PieceS, p = ⟨s', 3, 4294967287, true⟩ := ⟨_, rfl⟩
          rw [show hurtS ⟨s, 3, 4294967287, false⟩ s' = p by unfold hurtS; rw [hh, hp]; rfl] at H3
          have H4 := Lib.hid (fun B ks W h => piece_bk w B (hC p) ks W 0 h)
          rw [show pieceA (hC p).l 0 = p.agg from rfl, show (atS (hC p).l 0).isSome = true from rfl] at H4
          have H5 := Lib.hid (fun B ks W h => twice_bk w B (hC p) ks W 0 h)
          rw [hurt_4] at H5
          have H6 := Lib.hid (fun B ks W h => cut_bk w B (hD p p) ks W 0 n h)
          rw [hurt_5 p 0 n (by omega) (by rw [hp])] at H6
          have H7 := Lib.hid (fun B ks W h => piece_bk w B (hD p p) ks W 0 h)
          have H8 := Lib.hid (fun B ks W h => piece_bk w B (hD p p) ks W 2 h)
          have H9 := Lib.hid (fun B ks W h => piece_bk w B (hD p p) ks W 1 h)
          rw [show pieceA (hD p p).l 0 = p.agg from rfl, show (atS (hD p p).l 0).isSome = true from rfl] at H7
          rw [show pieceA (hD p p).l 2 = p.agg from rfl, show (atS (hD p p).l 2).isSome = true from rfl] at H8
          rw [show pieceA (hD p p).l 1 = othP.agg from rfl, show (atS (hD p p).l 1).isSome = true from rfl] at H9
          have H10 := Lib.hid (fun B ks W h => burst_bk w B (hD p p) ks W 0 0 65535 h (by decide) (by decide))
          rw [show (burstB (hD p p) 0 0 65535).2 = 11 from (hurt_8 p p 0 0 65535 (by omega) (by rw [hp])).1] at H10
          have hh' : (s'.toList == s.toList) = false := by rw [Bool.eq_false_iff] at hh ⊢; intro q; apply hh; rw [beq_iff_eq] at q ⊢; exact q.symm
          unfold PieceS.agg at H4 H7 H8
          unfold othP PieceS.agg otherT at H9
          subst hp
          clear hsz
          have hr : cu.pat % ((s.size : Int) - 1) = (n : Int) - 1 := by omega
          have hn1 : 1 + ((n : Int) - 1) = n := by omega
          have hpb0 := hpb.1
          have hpb1 := hpb.2
          have hcp1 := hcp0.1
          have hcp2 := hcp0.2
          clear hcp0
          have hs1 : (0 : Int) < (s.size : Int) - 1 := by omega
          go_enter Try.func12, Try.ntmps12
          go_wp2_with fail
          generalize (w.alloc (.cells #[.int .u8 bu.what, .int .i64 bu.k, .int .i64 bu.at_, .int .u16 bu.pat, .string bu.s] 65)).alloc (.cells #[.int .u8 cu.what, .int .i64 cu.k, .int .i64 cu.at_, .int .u16 cu.pat, .string cu.s] 65) = w0 at *
          refine (HA.out _).mono ?_
          rintro e w1 ⟨rfl, b⟩
          have bb := below_lift b2 b b2.size
          have Y1 := X1'.keep b
          have Y2 := X2.keep b
          clear b b1 b2 X1 X2 X1'
          have HN1 := Lib.hid (HN.out [⟨w.heap.size, #[.int .u8 bu.what, .int .i64 bu.k, .int .i64 bu.at_, .int .u16 bu.pat, .string bu.s], 65⟩, ⟨w.heap.size + 1, #[.int .u8 cu.what, .int .i64 cu.k, .int .i64 cu.at_, .int .u16 cu.pat, .string cu.s], 65⟩] w1 bb (by
            intro k hk
            simp only [List.mem_cons, List.not_mem_nil, or_false] at hk
            rcases hk with rfl | rfl
            · exact Y1
            · exact Y2))
          clear Y1 Y2 bb HN
          go_wp2_with fail
          refine (HN1.out).mono ?_
          rintro e w2 ⟨B, rfl, h⟩
          clear HN1
          go_wp2_with fail
          with_reducible refine (H1.out _ _ _ h).mono ?_
          rintro e w9 ⟨rfl, h'⟩
          clear h
          have h := h'
          clear h'
          go_wp2_with fail
          with_reducible refine (H2.out _ _ _ h).mono ?_
          rintro e w9 ⟨rfl, h'⟩
          clear h
          have h := h'
          clear h'
          have y := h.blk (k := ⟨w.heap.size, #[.int .u8 bu.what, .int .i64 bu.k, .int .i64 bu.at_, .int .u16 bu.pat, .string bu.s], 65⟩) (by simp)
          have d0 := y.cell (j := 2) (v := .int .i64 bu.at_) rfl
          have d1 := y.cell (j := 3) (v := .int .u16 bu.pat) rfl
          clear y
          go_wp2_with fail
          with_reducible refine (H3.out _ _ _ h).mono ?_
          rintro e w9 ⟨rfl, h'⟩
          clear h
          have h := h'
          clear h'
          clear d0 d1
          go_wp2_with fail
          with_reducible refine (H4.out _ _ _ h).mono ?_
          rintro e w9 ⟨rfl, h'⟩
          clear h
          have h := h'
          clear h'
          go_wp2_with fail
          have hx := h.box #[.string s', .int .i64 3, .int .u32 4294967287, .bool true] 69
          clear h
          have h := hx
          clear hx
          generalize w9.alloc (.cells #[.string s', .int .i64 3, .int .u32 4294967287, .bool true] 69) = w10 at *
          generalize w9.heap.size = N1 at *
          refine (H5.out _ _ _ h).mono ?_
          rintro e w9 ⟨rfl, h'⟩
          clear h
          have h := h'
          clear h'
          have y := h.blk (k := ⟨w.heap.size + 1, #[.int .u8 cu.what, .int .i64 cu.k, .int .i64 cu.at_, .int .u16 cu.pat, .string cu.s], 65⟩) (by simp)
          have d0 := y.cell (j := 0) (v := .int .u8 cu.what) rfl
          have d1 := y.cell (j := 3) (v := .int .u16 cu.pat) rfl
          clear y
          go_wp2_with fail
          with_reducible refine (H6.out _ _ _ h).mono ?_
          rintro e w9 ⟨rfl, h'⟩
          clear h
          have h := h'
          clear h'
          clear d0 d1
          go_wp2_with fail
          with_reducible refine (H7.out _ _ _ h).mono ?_
          rintro e w9 ⟨rfl, h'⟩
          clear h
          have h := h'
          clear h'
          go_wp2_with fail
          have hx := h.box #[.string s', .int .i64 3, .int .u32 4294967287, .bool true] 69
          clear h
          have h := hx
          clear hx
          generalize w9.alloc (.cells #[.string s', .int .i64 3, .int .u32 4294967287, .bool true] 69) = w10 at *
          generalize w9.heap.size = N2 at *
          refine (H8.out _ _ _ h).mono ?_
          rintro e w9 ⟨rfl, h'⟩
          clear h
          have h := h'
          clear h'
          go_wp2_with fail
          have hx := h.box #[.string s', .int .i64 3, .int .u32 4294967287, .bool true] 69
          clear h
          have h := hx
          clear hx
          generalize w9.alloc (.cells #[.string s', .int .i64 3, .int .u32 4294967287, .bool true] 69) = w10 at *
          generalize w9.heap.size = N3 at *
          refine (H9.out _ _ _ h).mono ?_
          rintro e w9 ⟨rfl, h'⟩
          clear h
          have h := h'
          clear h'
          have hx := h.box #[.string ⟨#[111, 116, 104, 101, 114]⟩, .int .i64 4, .int .u32 4294967279, .bool false] 69
          clear h
          have h := hx
          clear hx
          have yN1 := h.blk (k := ⟨N1, #[.string s', .int .i64 3, .int .u32 4294967287, .bool true], 69⟩) (by simp)
          have N1c0 := yN1.cell (j := 0) (v := .string s') rfl
          have N1c1 := yN1.cell (j := 1) (v := .int .i64 3) rfl
          have N1c2 := yN1.cell (j := 2) (v := .int .u32 4294967287) rfl
          have N1c3 := yN1.cell (j := 3) (v := .bool true) rfl
          clear yN1
          have yN2 := h.blk (k := ⟨N2, #[.string s', .int .i64 3, .int .u32 4294967287, .bool true], 69⟩) (by simp)
          have N2c0 := yN2.cell (j := 0) (v := .string s') rfl
          have N2c1 := yN2.cell (j := 1) (v := .int .i64 3) rfl
          have N2c2 := yN2.cell (j := 2) (v := .int .u32 4294967287) rfl
          have N2c3 := yN2.cell (j := 3) (v := .bool true) rfl
          clear yN2
          have yN3 := h.blk (k := ⟨N3, #[.string s', .int .i64 3, .int .u32 4294967287, .bool true], 69⟩) (by simp)
          have N3c0 := yN3.cell (j := 0) (v := .string s') rfl
          have N3c1 := yN3.cell (j := 1) (v := .int .i64 3) rfl
          have N3c2 := yN3.cell (j := 2) (v := .int .u32 4294967287) rfl
          have N3c3 := yN3.cell (j := 3) (v := .bool true) rfl
          clear yN3
          go_wp2_with fail
          refine (H10.out _ _ _ h).mono ?_
          rintro e w9 ⟨rfl, h'⟩
          go_wp2_with fail
          go_ret
          exact ⟨ret_bool (by first | rfl | (simp; done)), h'.bel⟩
        | true =>
          have hq : s = s' := toList_inj (by simpa using hh)
          clear hsz hh
          subst hq
          obtain ⟨p, hp⟩ : ∃ p : PieceS, p = ⟨s, 3, 4294967287, false⟩ := ⟨_, rfl⟩
          rw [show hurtS ⟨s, 3, 4294967287, false⟩ s = p by unfold hurtS; rw [hp]; simp] at H3
          have H4 := Lib.hid (fun B ks W h => piece_bk w B (hC p) ks W 0 h)
          rw [show pieceA (hC p).l 0 = p.agg from rfl, show (atS (hC p).l 0).isSome = true from rfl] at H4
          have H5 := Lib.hid (fun B ks W h => twice_bk w B (hC p) ks W 0 h)
          rw [hurt_4] at H5
          have H6 := Lib.hid (fun B ks W h => cut_bk w B (hD p p) ks W 0 n h)
          rw [hurt_6 p 0 n (by omega) (by rw [hp]) hnr.1 (by rw [hp]; exact hnr.2)] at H6
          have hcq : cutP p n = ⟨s.extract 0 (s.size - n), 3, 4294967287, true⟩ := by rw [cut_hurt p n hnr.1 (by rw [hp]; exact hnr.2), hp]
          rw [hcq] at H6
          clear hcq
          obtain ⟨q, hq⟩ : ∃ q : PieceS, q = ⟨s.extract 0 (s.size - n), 3, 4294967287, true⟩ := ⟨_, rfl⟩
          rw [← hq] at H6
          have H7 := Lib.hid (fun B ks W h => piece_bk w B (hE p 0 q) ks W 0 h)
          have H8 := Lib.hid (fun B ks W h => piece_bk w B (hE p 0 q) ks W 2 h)
          have H9 := Lib.hid (fun B ks W h => piece_bk w B (hE p 0 q) ks W 1 h)
          rw [show pieceA (hE p 0 q).l 0 = q.agg from rfl, show (atS (hE p 0 q).l 0).isSome = true from rfl] at H7
          rw [show pieceA (hE p 0 q).l 2 = p.agg from rfl, show (atS (hE p 0 q).l 2).isSome = true from rfl] at H8
          rw [show pieceA (hE p 0 q).l 1 = othP.agg from rfl, show (atS (hE p 0 q).l 1).isSome = true from rfl] at H9
          have H10 := Lib.hid (fun B ks W h => cut_bk w B (hE p 0 q) ks W 0 1 h)
          rw [hurt_9 p q 0 1 (by omega) (by rw [hq])] at H10
          unfold PieceS.agg at H4 H7 H8
          unfold othP PieceS.agg otherT at H9
          subst hp hq
          have hr : cu.pat % ((s.size : Int) - 1) = (n : Int) - 1 := by omega
          have hn1 : 1 + ((n : Int) - 1) = n := by omega
          have hpb0 := hpb.1
          have hpb1 := hpb.2
          have hcp1 := hcp0.1
          have hcp2 := hcp0.2
          clear hcp0
          have hs1 : (0 : Int) < (s.size : Int) - 1 := by omega
          go_enter Try.func12, Try.ntmps12
          go_wp2_with fail
          generalize (w.alloc (.cells #[.int .u8 bu.what, .int .i64 bu.k, .int .i64 bu.at_, .int .u16 bu.pat, .string bu.s] 65)).alloc (.cells #[.int .u8 cu.what, .int .i64 cu.k, .int .i64 cu.at_, .int .u16 cu.pat, .string cu.s] 65) = w0 at *
          refine (HA.out _).mono ?_
          rintro e w1 ⟨rfl, b⟩
          have bb := below_lift b2 b b2.size
          have Y1 := X1'.keep b
          have Y2 := X2.keep b
          clear b b1 b2 X1 X2 X1'
          have HN1 := Lib.hid (HN.out [⟨w.heap.size, #[.int .u8 bu.what, .int .i64 bu.k, .int .i64 bu.at_, .int .u16 bu.pat, .string bu.s], 65⟩, ⟨w.heap.size + 1, #[.int .u8 cu.what, .int .i64 cu.k, .int .i64 cu.at_, .int .u16 cu.pat, .string cu.s], 65⟩] w1 bb (by
            intro k hk
            simp only [List.mem_cons, List.not_mem_nil, or_false] at hk
            rcases hk with rfl | rfl
            · exact Y1
            · exact Y2))
          clear Y1 Y2 bb HN
          go_wp2_with fail
          refine (HN1.out).mono ?_
          rintro e w2 ⟨B, rfl, h⟩
          clear HN1
          go_wp2_with fail
          with_reducible refine (H1.out _ _ _ h).mono ?_
          rintro e w9 ⟨rfl, h'⟩
          clear h
          have h := h'
          clear h'
          go_wp2_with fail
          with_reducible refine (H2.out _ _ _ h).mono ?_
          rintro e w9 ⟨rfl, h'⟩
          clear h
          have h := h'
          clear h'
          have y := h.blk (k := ⟨w.heap.size, #[.int .u8 bu.what, .int .i64 bu.k, .int .i64 bu.at_, .int .u16 bu.pat, .string bu.s], 65⟩) (by simp)
          have d0 := y.cell (j := 2) (v := .int .i64 bu.at_) rfl
          have d1 := y.cell (j := 3) (v := .int .u16 bu.pat) rfl
          clear y
          go_wp2_with fail
          with_reducible refine (H3.out _ _ _ h).mono ?_
          rintro e w9 ⟨rfl, h'⟩
          clear h
          have h := h'
          clear h'
          clear d0 d1
          go_wp2_with fail
          with_reducible refine (H4.out _ _ _ h).mono ?_
          rintro e w9 ⟨rfl, h'⟩
          clear h
          have h := h'
          clear h'
          go_wp2_with fail
          have hx := h.box #[.string s, .int .i64 3, .int .u32 4294967287, .bool false] 69
          clear h
          have h := hx
          clear hx
          generalize w9.alloc (.cells #[.string s, .int .i64 3, .int .u32 4294967287, .bool false] 69) = w10 at *
          generalize w9.heap.size = N1 at *
          refine (H5.out _ _ _ h).mono ?_
          rintro e w9 ⟨rfl, h'⟩
          clear h
          have h := h'
          clear h'
          have y := h.blk (k := ⟨w.heap.size + 1, #[.int .u8 cu.what, .int .i64 cu.k, .int .i64 cu.at_, .int .u16 cu.pat, .string cu.s], 65⟩) (by simp)
          have d0 := y.cell (j := 0) (v := .int .u8 cu.what) rfl
          have d1 := y.cell (j := 3) (v := .int .u16 cu.pat) rfl
          clear y
          go_wp2_with fail
          with_reducible refine (H6.out _ _ _ h).mono ?_
          rintro e w9 ⟨rfl, h'⟩
          clear h
          have h := h'
          clear h'
          clear d0 d1
          go_wp2_with fail
          with_reducible refine (H7.out _ _ _ h).mono ?_
          rintro e w9 ⟨rfl, h'⟩
          clear h
          have h := h'
          clear h'
          go_wp2_with fail
          have hx := h.box #[.string (s.extract 0 (s.size - n)), .int .i64 3, .int .u32 4294967287, .bool true] 69
          clear h
          have h := hx
          clear hx
          generalize w9.alloc (.cells #[.string (s.extract 0 (s.size - n)), .int .i64 3, .int .u32 4294967287, .bool true] 69) = w10 at *
          generalize w9.heap.size = N2 at *
          refine (H8.out _ _ _ h).mono ?_
          rintro e w9 ⟨rfl, h'⟩
          clear h
          have h := h'
          clear h'
          go_wp2_with fail
          have hx := h.box #[.string s, .int .i64 3, .int .u32 4294967287, .bool false] 69
          clear h
          have h := hx
          clear hx
          generalize w9.alloc (.cells #[.string s, .int .i64 3, .int .u32 4294967287, .bool false] 69) = w10 at *
          generalize w9.heap.size = N3 at *
          refine (H9.out _ _ _ h).mono ?_
          rintro e w9 ⟨rfl, h'⟩
          clear h
          have h := h'
          clear h'
          have hx := h.box #[.string ⟨#[111, 116, 104, 101, 114]⟩, .int .i64 4, .int .u32 4294967279, .bool false] 69
          clear h
          have h := hx
          clear hx
          have yN1 := h.blk (k := ⟨N1, #[.string s, .int .i64 3, .int .u32 4294967287, .bool false], 69⟩) (by simp)
          have N1c0 := yN1.cell (j := 0) (v := .string s) rfl
          have N1c1 := yN1.cell (j := 1) (v := .int .i64 3) rfl
          have N1c2 := yN1.cell (j := 2) (v := .int .u32 4294967287) rfl
          have N1c3 := yN1.cell (j := 3) (v := .bool false) rfl
          clear yN1
          have yN2 := h.blk (k := ⟨N2, #[.string (s.extract 0 (s.size - n)), .int .i64 3, .int .u32 4294967287, .bool true], 69⟩) (by simp)
          have N2c0 := yN2.cell (j := 0) (v := .string (s.extract 0 (s.size - n))) rfl
          have N2c1 := yN2.cell (j := 1) (v := .int .i64 3) rfl
          have N2c2 := yN2.cell (j := 2) (v := .int .u32 4294967287) rfl
          have N2c3 := yN2.cell (j := 3) (v := .bool true) rfl
          clear yN2
          have yN3 := h.blk (k := ⟨N3, #[.string s, .int .i64 3, .int .u32 4294967287, .bool false], 69⟩) (by simp)
          have N3c0 := yN3.cell (j := 0) (v := .string s) rfl
          have N3c1 := yN3.cell (j := 1) (v := .int .i64 3) rfl
          have N3c2 := yN3.cell (j := 2) (v := .int .u32 4294967287) rfl
          have N3c3 := yN3.cell (j := 3) (v := .bool false) rfl
          clear yN3
          go_wp2_with fail
          generalize w9.alloc (.cells #[.string ⟨#[111, 116, 104, 101, 114]⟩, .int .i64 4, .int .u32 4294967279, .bool false] 69) = w10 at *
          generalize w9.heap.size = N4 at *
          clear N1c0 N1c1 N1c2 N1c3 N2c0 N2c1 N2c2 N2c3 N3c0 N3c1 N3c2 N3c3
          generalize hks : ([⟨N4, #[.string ⟨#[111, 116, 104, 101, 114]⟩, .int .i64 4, .int .u32 4294967279, .bool false], 69⟩, ⟨N3, #[.string s, .int .i64 3, .int .u32 4294967287, .bool false], 69⟩, ⟨N2, #[.string (s.extract 0 (s.size - n)), .int .i64 3, .int .u32 4294967287, .bool true], 69⟩, ⟨N1, #[.string s, .int .i64 3, .int .u32 4294967287, .bool false], 69⟩, ⟨w.heap.size, #[.int .u8 bu.what, .int .i64 bu.k, .int .i64 bu.at_, .int .u16 bu.pat, .string bu.s], 65⟩, ⟨w.heap.size + 1, #[.int .u8 cu.what, .int .i64 cu.k, .int .i64 cu.at_, .int .u16 cu.pat, .string cu.s], 65⟩] : List KeepB) = ks at h
          have hm1 : (⟨N1, #[.string s, .int .i64 3, .int .u32 4294967287, .bool false], 69⟩ : KeepB) ∈ ks := by rw [← hks]; simp
          have hm2 : (⟨N2, #[.string (s.extract 0 (s.size - n)), .int .i64 3, .int .u32 4294967287, .bool true], 69⟩ : KeepB) ∈ ks := by rw [← hks]; simp
          clear hks
          generalize hE ⟨s, 3, 4294967287, false⟩ 0 ⟨s.extract 0 (s.size - n), 3, 4294967287, true⟩ = st at *
          have HSS : ∀ W, BK w B st ks W → W.cell? ⟨N2, 3, none⟩ = some (.bool true) ∧ W.cell? ⟨N2, 0, none⟩ = some (.string (s.extract 0 (s.size - n))) ∧ W.cell? ⟨N2, 2, none⟩ = some (.int .u32 4294967287) ∧ W.cell? ⟨N1, 2, none⟩ = some (.int .u32 4294967287) ∧ BK w B st ks W :=
            fun W hW => ⟨(hW.blk hm2).cell rfl, (hW.blk hm2).cell rfl, (hW.blk hm2).cell rfl, (hW.blk hm1).cell rfl, hW⟩
          have HS := Lib.hid HSS
          obtain ⟨r1, r2, r3, r4, _⟩ := HSS _ h
          clear HSS hm1 hm2
          have q1 : (0 : Int) ≤ (s.size : Int) - n := by omega
          have q2 : (s.size : Int) - n ≤ s.size := by omega
          have q5 : (n : Int) ≤ (s.size : Int) := by omega
          have q6 : (0 : Int) ≤ (n : Int) := by omega
          have q3 : IntKind.i64.wrap ((s.size : Int) - n) = (s.size : Int) - n := by rw [IntKind.wrap_i64]; omega
          have q4 : ((s.size : Int) - n).toNat = s.size - n := by omega
          go_region_held3 (fun W => W.cell? ⟨N2, 3, none⟩ = some (.bool true) ∧ W.cell? ⟨N2, 0, none⟩ = some (.string (s.extract 0 (s.size - n))) ∧ W.cell? ⟨N2, 2, none⟩ = some (.int .u32 4294967287) ∧ W.cell? ⟨N1, 2, none⟩ = some (.int .u32 4294967287) ∧ BK w B st ks W)
            ((refine HS.out _ ?_; first | assumption | (refine BK.drew ?_; assumption)))
            ((go_at_call 63; (with_reducible refine (H10.out _ _ _ (BK.of5 (by assumption))).mono ?_); rintro e w9 ⟨rfl, hz⟩))
          all_goals
            go_wp2_with fail
            go_ret
            exact ⟨ret_bool (by first | rfl | (simp; done)), hz.bel⟩
      · cases hh : (s.toList == s'.toList) with
        | false =>
          obtain ⟨p, hp⟩ : ∃ p : PieceS, p = ⟨s', 3, 4294967287, true⟩ := ⟨_, rfl⟩
          rw [show hurtS ⟨s, 3, 4294967287, false⟩ s' = p by unfold hurtS; rw [hh, hp]; rfl] at H3
          have H4 := Lib.hid (fun B ks W h => piece_bk w B (hC p) ks W 0 h)
          rw [show pieceA (hC p).l 0 = p.agg from rfl, show (atS (hC p).l 0).isSome = true from rfl] at H4
          have H5 := Lib.hid (fun B ks W h => twice_bk w B (hC p) ks W 0 h)
          rw [hurt_4] at H5
          have H6 := Lib.hid (fun B ks W h => cut_bk w B (hD p p) ks W 2 n h)
          rw [hurt_5 p 2 n (by omega) (by rw [hp])] at H6
          have H7 := Lib.hid (fun B ks W h => piece_bk w B (hD p p) ks W 2 h)
          have H8 := Lib.hid (fun B ks W h => piece_bk w B (hD p p) ks W 0 h)
          have H9 := Lib.hid (fun B ks W h => piece_bk w B (hD p p) ks W 1 h)
          rw [show pieceA (hD p p).l 2 = p.agg from rfl, show (atS (hD p p).l 2).isSome = true from rfl] at H7
          rw [show pieceA (hD p p).l 0 = p.agg from rfl, show (atS (hD p p).l 0).isSome = true from rfl] at H8
          rw [show pieceA (hD p p).l 1 = othP.agg from rfl, show (atS (hD p p).l 1).isSome = true from rfl] at H9
          have H10 := Lib.hid (fun B ks W h => burst_bk w B (hD p p) ks W 2 0 65535 h (by decide) (by decide))
          rw [show (burstB (hD p p) 2 0 65535).2 = 11 from (hurt_8 p p 2 0 65535 (by omega) (by rw [hp])).1] at H10
          have hh' : (s'.toList == s.toList) = false := by rw [Bool.eq_false_iff] at hh ⊢; intro q; apply hh; rw [beq_iff_eq] at q ⊢; exact q.symm
          unfold PieceS.agg at H4 H7 H8
          unfold othP PieceS.agg otherT at H9
          subst hp
          clear hsz
          have hr : cu.pat % ((s.size : Int) - 1) = (n : Int) - 1 := by omega
          have hn1 : 1 + ((n : Int) - 1) = n := by omega
          have hpb0 := hpb.1
          have hpb1 := hpb.2
          have hcp1 := hcp0.1
          have hcp2 := hcp0.2
          clear hcp0
          have hs1 : (0 : Int) < (s.size : Int) - 1 := by omega
          go_enter Try.func12, Try.ntmps12
          go_wp2_with fail
          generalize (w.alloc (.cells #[.int .u8 bu.what, .int .i64 bu.k, .int .i64 bu.at_, .int .u16 bu.pat, .string bu.s] 65)).alloc (.cells #[.int .u8 cu.what, .int .i64 cu.k, .int .i64 cu.at_, .int .u16 cu.pat, .string cu.s] 65) = w0 at *
          refine (HA.out _).mono ?_
          rintro e w1 ⟨rfl, b⟩
          have bb := below_lift b2 b b2.size
          have Y1 := X1'.keep b
          have Y2 := X2.keep b
          clear b b1 b2 X1 X2 X1'
          have HN1 := Lib.hid (HN.out [⟨w.heap.size, #[.int .u8 bu.what, .int .i64 bu.k, .int .i64 bu.at_, .int .u16 bu.pat, .string bu.s], 65⟩, ⟨w.heap.size + 1, #[.int .u8 cu.what, .int .i64 cu.k, .int .i64 cu.at_, .int .u16 cu.pat, .string cu.s], 65⟩] w1 bb (by
            intro k hk
            simp only [List.mem_cons, List.not_mem_nil, or_false] at hk
            rcases hk with rfl | rfl
            · exact Y1
            · exact Y2))
          clear Y1 Y2 bb HN
          go_wp2_with fail
          refine (HN1.out).mono ?_
          rintro e w2 ⟨B, rfl, h⟩
          clear HN1
          go_wp2_with fail
          with_reducible refine (H1.out _ _ _ h).mono ?_
          rintro e w9 ⟨rfl, h'⟩
          clear h
          have h := h'
          clear h'
          go_wp2_with fail
          with_reducible refine (H2.out _ _ _ h).mono ?_
          rintro e w9 ⟨rfl, h'⟩
          clear h
          have h := h'
          clear h'
          have y := h.blk (k := ⟨w.heap.size, #[.int .u8 bu.what, .int .i64 bu.k, .int .i64 bu.at_, .int .u16 bu.pat, .string bu.s], 65⟩) (by simp)
          have d0 := y.cell (j := 2) (v := .int .i64 bu.at_) rfl
          have d1 := y.cell (j := 3) (v := .int .u16 bu.pat) rfl
          clear y
          go_wp2_with fail
          with_reducible refine (H3.out _ _ _ h).mono ?_
          rintro e w9 ⟨rfl, h'⟩
          clear h
          have h := h'
          clear h'
          clear d0 d1
          go_wp2_with fail
          with_reducible refine (H4.out _ _ _ h).mono ?_
          rintro e w9 ⟨rfl, h'⟩
          clear h
          have h := h'
          clear h'
          go_wp2_with fail
          have hx := h.box #[.string s', .int .i64 3, .int .u32 4294967287, .bool true] 69
          clear h
          have h := hx
          clear hx
          generalize w9.alloc (.cells #[.string s', .int .i64 3, .int .u32 4294967287, .bool true] 69) = w10 at *
          generalize w9.heap.size = N1 at *
          refine (H5.out _ _ _ h).mono ?_
          rintro e w9 ⟨rfl, h'⟩
          clear h
          have h := h'
          clear h'
          have y := h.blk (k := ⟨w.heap.size + 1, #[.int .u8 cu.what, .int .i64 cu.k, .int .i64 cu.at_, .int .u16 cu.pat, .string cu.s], 65⟩) (by simp)
          have d0 := y.cell (j := 0) (v := .int .u8 cu.what) rfl
          have d1 := y.cell (j := 3) (v := .int .u16 cu.pat) rfl
          clear y
          go_wp2_with fail
          with_reducible refine (H6.out _ _ _ h).mono ?_
          rintro e w9 ⟨rfl, h'⟩
          clear h
          have h := h'
          clear h'
          clear d0 d1
          go_wp2_with fail
          with_reducible refine (H7.out _ _ _ h).mono ?_
          rintro e w9 ⟨rfl, h'⟩
          clear h
          have h := h'
          clear h'
          go_wp2_with fail
          have hx := h.box #[.string s', .int .i64 3, .int .u32 4294967287, .bool true] 69
          clear h
          have h := hx
          clear hx
          generalize w9.alloc (.cells #[.string s', .int .i64 3, .int .u32 4294967287, .bool true] 69) = w10 at *
          generalize w9.heap.size = N2 at *
          refine (H8.out _ _ _ h).mono ?_
          rintro e w9 ⟨rfl, h'⟩
          clear h
          have h := h'
          clear h'
          go_wp2_with fail
          have hx := h.box #[.string s', .int .i64 3, .int .u32 4294967287, .bool true] 69
          clear h
          have h := hx
          clear hx
          generalize w9.alloc (.cells #[.string s', .int .i64 3, .int .u32 4294967287, .bool true] 69) = w10 at *
          generalize w9.heap.size = N3 at *
          refine (H9.out _ _ _ h).mono ?_
          rintro e w9 ⟨rfl, h'⟩
          clear h
          have h := h'
          clear h'
          have hx := h.box #[.string ⟨#[111, 116, 104, 101, 114]⟩, .int .i64 4, .int .u32 4294967279, .bool false] 69
          clear h
          have h := hx
          clear hx
          have yN1 := h.blk (k := ⟨N1, #[.string s', .int .i64 3, .int .u32 4294967287, .bool true], 69⟩) (by simp)
          have N1c0 := yN1.cell (j := 0) (v := .string s') rfl
          have N1c1 := yN1.cell (j := 1) (v := .int .i64 3) rfl
          have N1c2 := yN1.cell (j := 2) (v := .int .u32 4294967287) rfl
          have N1c3 := yN1.cell (j := 3) (v := .bool true) rfl
          clear yN1
          have yN2 := h.blk (k := ⟨N2, #[.string s', .int .i64 3, .int .u32 4294967287, .bool true], 69⟩) (by simp)
          have N2c0 := yN2.cell (j := 0) (v := .string s') rfl
          have N2c1 := yN2.cell (j := 1) (v := .int .i64 3) rfl
          have N2c2 := yN2.cell (j := 2) (v := .int .u32 4294967287) rfl
          have N2c3 := yN2.cell (j := 3) (v := .bool true) rfl
          clear yN2
          have yN3 := h.blk (k := ⟨N3, #[.string s', .int .i64 3, .int .u32 4294967287, .bool true], 69⟩) (by simp)
          have N3c0 := yN3.cell (j := 0) (v := .string s') rfl
          have N3c1 := yN3.cell (j := 1) (v := .int .i64 3) rfl
          have N3c2 := yN3.cell (j := 2) (v := .int .u32 4294967287) rfl
          have N3c3 := yN3.cell (j := 3) (v := .bool true) rfl
          clear yN3
          go_wp2_with fail
          refine (H10.out _ _ _ h).mono ?_
          rintro e w9 ⟨rfl, h'⟩
          go_wp2_with fail
          go_ret
          exact ⟨ret_bool (by first | rfl | (simp; done)), h'.bel⟩
        | true =>
          have hq : s = s' := toList_inj (by simpa using hh)
          clear hsz hh
          subst hq
          obtain ⟨p, hp⟩ : ∃ p : PieceS, p = ⟨s, 3, 4294967287, false⟩ := ⟨_, rfl⟩
          rw [show hurtS ⟨s, 3, 4294967287, false⟩ s = p by unfold hurtS; rw [hp]; simp] at H3
          have H4 := Lib.hid (fun B ks W h => piece_bk w B (hC p) ks W 0 h)
          rw [show pieceA (hC p).l 0 = p.agg from rfl, show (atS (hC p).l 0).isSome = true from rfl] at H4
          have H5 := Lib.hid (fun B ks W h => twice_bk w B (hC p) ks W 0 h)
          rw [hurt_4] at H5
          have H6 := Lib.hid (fun B ks W h => cut_bk w B (hD p p) ks W 2 n h)
          rw [hurt_6 p 2 n (by omega) (by rw [hp]) hnr.1 (by rw [hp]; exact hnr.2)] at H6
          have hcq : cutP p n = ⟨s.extract 0 (s.size - n), 3, 4294967287, true⟩ := by rw [cut_hurt p n hnr.1 (by rw [hp]; exact hnr.2), hp]
          rw [hcq] at H6
          clear hcq
          obtain ⟨q, hq⟩ : ∃ q : PieceS, q = ⟨s.extract 0 (s.size - n), 3, 4294967287, true⟩ := ⟨_, rfl⟩
          rw [← hq] at H6
          have H7 := Lib.hid (fun B ks W h => piece_bk w B (hE p 2 q) ks W 2 h)
          have H8 := Lib.hid (fun B ks W h => piece_bk w B (hE p 2 q) ks W 0 h)
          have H9 := Lib.hid (fun B ks W h => piece_bk w B (hE p 2 q) ks W 1 h)
          rw [show pieceA (hE p 2 q).l 2 = q.agg from rfl, show (atS (hE p 2 q).l 2).isSome = true from rfl] at H7
          rw [show pieceA (hE p 2 q).l 0 = p.agg from rfl, show (atS (hE p 2 q).l 0).isSome = true from rfl] at H8
          rw [show pieceA (hE p 2 q).l 1 = othP.agg from rfl, show (atS (hE p 2 q).l 1).isSome = true from rfl] at H9
          have H10 := Lib.hid (fun B ks W h => cut_bk w B (hE p 2 q) ks W 2 1 h)
          rw [hurt_9 p q 2 1 (by omega) (by rw [hq])] at H10
          unfold PieceS.agg at H4 H7 H8
          unfold othP PieceS.agg otherT at H9
          subst hp hq
          have hr : cu.pat % ((s.size : Int) - 1) = (n : Int) - 1 := by omega
          have hn1 : 1 + ((n : Int) - 1) = n := by omega
          have hpb0 := hpb.1
          have hpb1 := hpb.2
          have hcp1 := hcp0.1
          have hcp2 := hcp0.2
          clear hcp0
          have hs1 : (0 : Int) < (s.size : Int) - 1 := by omega
          go_enter Try.func12, Try.ntmps12
          go_wp2_with fail
          generalize (w.alloc (.cells #[.int .u8 bu.what, .int .i64 bu.k, .int .i64 bu.at_, .int .u16 bu.pat, .string bu.s] 65)).alloc (.cells #[.int .u8 cu.what, .int .i64 cu.k, .int .i64 cu.at_, .int .u16 cu.pat, .string cu.s] 65) = w0 at *
          refine (HA.out _).mono ?_
          rintro e w1 ⟨rfl, b⟩
          have bb := below_lift b2 b b2.size
          have Y1 := X1'.keep b
          have Y2 := X2.keep b
          clear b b1 b2 X1 X2 X1'
          have HN1 := Lib.hid (HN.out [⟨w.heap.size, #[.int .u8 bu.what, .int .i64 bu.k, .int .i64 bu.at_, .int .u16 bu.pat, .string bu.s], 65⟩, ⟨w.heap.size + 1, #[.int .u8 cu.what, .int .i64 cu.k, .int .i64 cu.at_, .int .u16 cu.pat, .string cu.s], 65⟩] w1 bb (by
            intro k hk
            simp only [List.mem_cons, List.not_mem_nil, or_false] at hk
            rcases hk with rfl | rfl
            · exact Y1
            · exact Y2))
          clear Y1 Y2 bb HN
          go_wp2_with fail
          refine (HN1.out).mono ?_
          rintro e w2 ⟨B, rfl, h⟩
          clear HN1
          go_wp2_with fail
          with_reducible refine (H1.out _ _ _ h).mono ?_
          rintro e w9 ⟨rfl, h'⟩
          clear h
          have h := h'
          clear h'
          go_wp2_with fail
          with_reducible refine (H2.out _ _ _ h).mono ?_
          rintro e w9 ⟨rfl, h'⟩
          clear h
          have h := h'
          clear h'
          have y := h.blk (k := ⟨w.heap.size, #[.int .u8 bu.what, .int .i64 bu.k, .int .i64 bu.at_, .int .u16 bu.pat, .string bu.s], 65⟩) (by simp)
          have d0 := y.cell (j := 2) (v := .int .i64 bu.at_) rfl
          have d1 := y.cell (j := 3) (v := .int .u16 bu.pat) rfl
          clear y
          go_wp2_with fail
          with_reducible refine (H3.out _ _ _ h).mono ?_
          rintro e w9 ⟨rfl, h'⟩
          clear h
          have h := h'
          clear h'
          clear d0 d1
          go_wp2_with fail
          with_reducible refine (H4.out _ _ _ h).mono ?_
          rintro e w9 ⟨rfl, h'⟩
          clear h
          have h := h'
          clear h'
          go_wp2_with fail
          have hx := h.box #[.string s, .int .i64 3, .int .u32 4294967287, .bool false] 69
          clear h
          have h := hx
          clear hx
          generalize w9.alloc (.cells #[.string s, .int .i64 3, .int .u32 4294967287, .bool false] 69) = w10 at *
          generalize w9.heap.size = N1 at *
          refine (H5.out _ _ _ h).mono ?_
          rintro e w9 ⟨rfl, h'⟩
          clear h
          have h := h'
          clear h'
          have y := h.blk (k := ⟨w.heap.size + 1, #[.int .u8 cu.what, .int .i64 cu.k, .int .i64 cu.at_, .int .u16 cu.pat, .string cu.s], 65⟩) (by simp)
          have d0 := y.cell (j := 0) (v := .int .u8 cu.what) rfl
          have d1 := y.cell (j := 3) (v := .int .u16 cu.pat) rfl
          clear y
          go_wp2_with fail
          with_reducible refine (H6.out _ _ _ h).mono ?_
          rintro e w9 ⟨rfl, h'⟩
          clear h
          have h := h'
          clear h'
          clear d0 d1
          go_wp2_with fail
          with_reducible refine (H7.out _ _ _ h).mono ?_
          rintro e w9 ⟨rfl, h'⟩
          clear h
          have h := h'
          clear h'
          go_wp2_with fail
          have hx := h.box #[.string (s.extract 0 (s.size - n)), .int .i64 3, .int .u32 4294967287, .bool true] 69
          clear h
          have h := hx
          clear hx
          generalize w9.alloc (.cells #[.string (s.extract 0 (s.size - n)), .int .i64 3, .int .u32 4294967287, .bool true] 69) = w10 at *
          generalize w9.heap.size = N2 at *
          refine (H8.out _ _ _ h).mono ?_
          rintro e w9 ⟨rfl, h'⟩
          clear h
          have h := h'
          clear h'
          go_wp2_with fail
          have hx := h.box #[.string s, .int .i64 3, .int .u32 4294967287, .bool false] 69
          clear h
          have h := hx
          clear hx
          generalize w9.alloc (.cells #[.string s, .int .i64 3, .int .u32 4294967287, .bool false] 69) = w10 at *
          generalize w9.heap.size = N3 at *
          refine (H9.out _ _ _ h).mono ?_
          rintro e w9 ⟨rfl, h'⟩
          clear h
          have h := h'
          clear h'
          have hx := h.box #[.string ⟨#[111, 116, 104, 101, 114]⟩, .int .i64 4, .int .u32 4294967279, .bool false] 69
          clear h
          have h := hx
          clear hx
          have yN1 := h.blk (k := ⟨N1, #[.string s, .int .i64 3, .int .u32 4294967287, .bool false], 69⟩) (by simp)
          have N1c0 := yN1.cell (j := 0) (v := .string s) rfl
          have N1c1 := yN1.cell (j := 1) (v := .int .i64 3) rfl
          have N1c2 := yN1.cell (j := 2) (v := .int .u32 4294967287) rfl
          have N1c3 := yN1.cell (j := 3) (v := .bool false) rfl
          clear yN1
          have yN2 := h.blk (k := ⟨N2, #[.string (s.extract 0 (s.size - n)), .int .i64 3, .int .u32 4294967287, .bool true], 69⟩) (by simp)
          have N2c0 := yN2.cell (j := 0) (v := .string (s.extract 0 (s.size - n))) rfl
          have N2c1 := yN2.cell (j := 1) (v := .int .i64 3) rfl
          have N2c2 := yN2.cell (j := 2) (v := .int .u32 4294967287) rfl
          have N2c3 := yN2.cell (j := 3) (v := .bool true) rfl
          clear yN2
          have yN3 := h.blk (k := ⟨N3, #[.string s, .int .i64 3, .int .u32 4294967287, .bool false], 69⟩) (by simp)
          have N3c0 := yN3.cell (j := 0) (v := .string s) rfl
          have N3c1 := yN3.cell (j := 1) (v := .int .i64 3) rfl
          have N3c2 := yN3.cell (j := 2) (v := .int .u32 4294967287) rfl
          have N3c3 := yN3.cell (j := 3) (v := .bool false) rfl
          clear yN3
          go_wp2_with fail
          generalize w9.alloc (.cells #[.string ⟨#[111, 116, 104, 101, 114]⟩, .int .i64 4, .int .u32 4294967279, .bool false] 69) = w10 at *
          generalize w9.heap.size = N4 at *
          clear N1c0 N1c1 N1c2 N1c3 N2c0 N2c1 N2c2 N2c3 N3c0 N3c1 N3c2 N3c3
          generalize hks : ([⟨N4, #[.string ⟨#[111, 116, 104, 101, 114]⟩, .int .i64 4, .int .u32 4294967279, .bool false], 69⟩, ⟨N3, #[.string s, .int .i64 3, .int .u32 4294967287, .bool false], 69⟩, ⟨N2, #[.string (s.extract 0 (s.size - n)), .int .i64 3, .int .u32 4294967287, .bool true], 69⟩, ⟨N1, #[.string s, .int .i64 3, .int .u32 4294967287, .bool false], 69⟩, ⟨w.heap.size, #[.int .u8 bu.what, .int .i64 bu.k, .int .i64 bu.at_, .int .u16 bu.pat, .string bu.s], 65⟩, ⟨w.heap.size + 1, #[.int .u8 cu.what, .int .i64 cu.k, .int .i64 cu.at_, .int .u16 cu.pat, .string cu.s], 65⟩] : List KeepB) = ks at h
          have hm1 : (⟨N1, #[.string s, .int .i64 3, .int .u32 4294967287, .bool false], 69⟩ : KeepB) ∈ ks := by rw [← hks]; simp
          have hm2 : (⟨N2, #[.string (s.extract 0 (s.size - n)), .int .i64 3, .int .u32 4294967287, .bool true], 69⟩ : KeepB) ∈ ks := by rw [← hks]; simp
          clear hks
          generalize hE ⟨s, 3, 4294967287, false⟩ 2 ⟨s.extract 0 (s.size - n), 3, 4294967287, true⟩ = st at *
          have HSS : ∀ W, BK w B st ks W → W.cell? ⟨N2, 3, none⟩ = some (.bool true) ∧ W.cell? ⟨N2, 0, none⟩ = some (.string (s.extract 0 (s.size - n))) ∧ W.cell? ⟨N2, 2, none⟩ = some (.int .u32 4294967287) ∧ W.cell? ⟨N1, 2, none⟩ = some (.int .u32 4294967287) ∧ BK w B st ks W :=
            fun W hW => ⟨(hW.blk hm2).cell rfl, (hW.blk hm2).cell rfl, (hW.blk hm2).cell rfl, (hW.blk hm1).cell rfl, hW⟩
          have HS := Lib.hid HSS
          obtain ⟨r1, r2, r3, r4, _⟩ := HSS _ h
          clear HSS hm1 hm2
          have q1 : (0 : Int) ≤ (s.size : Int) - n := by omega
          have q2 : (s.size : Int) - n ≤ s.size := by omega
          have q5 : (n : Int) ≤ (s.size : Int) := by omega
          have q6 : (0 : Int) ≤ (n : Int) := by omega
          have q3 : IntKind.i64.wrap ((s.size : Int) - n) = (s.size : Int) - n := by rw [IntKind.wrap_i64]; omega
          have q4 : ((s.size : Int) - n).toNat = s.size - n := by omega
          go_region_held3 (fun W => W.cell? ⟨N2, 3, none⟩ = some (.bool true) ∧ W.cell? ⟨N2, 0, none⟩ = some (.string (s.extract 0 (s.size - n))) ∧ W.cell? ⟨N2, 2, none⟩ = some (.int .u32 4294967287) ∧ W.cell? ⟨N1, 2, none⟩ = some (.int .u32 4294967287) ∧ BK w B st ks W)
            ((refine HS.out _ ?_; first | assumption | (refine BK.drew ?_; assumption)))
            ((go_at_call 63; (with_reducible refine (H10.out _ _ _ (BK.of5 (by assumption))).mono ?_); rintro e w9 ⟨rfl, hz⟩))
          all_goals
            go_wp2_with fail
            go_ret
            exact ⟨ret_bool (by first | rfl | (simp; done)), hz.bel⟩
end Go.Proofs.Ytdhfkcodacmbfaa
