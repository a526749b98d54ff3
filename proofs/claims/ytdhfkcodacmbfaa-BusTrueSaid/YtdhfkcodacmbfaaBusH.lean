/- The medium (bus): the operations' contracts over one bus; awake. -/
import Derived.Test.YtdhfkcodacmbfaaBusG
set_option linter.unusedVariables false
set_option linter.unusedSimpArgs false
namespace Go.Proofs.Ytdhfkcodacmbfaa
open Go.RowKit

/-- A bus in block B, made behind w0; nothing of w0 is turned. -/
structure BW (w0 : World) (B : Nat) (st : BusS) (w : World) : Prop where
  has : ∃ ob, Bus 147 w w0.heap.size B ob st.l st.f
  bel : Below w0.heap.size w0 w
  ok : st.ok
theorem BW.to {w0 w w' : World} {B : Nat} {ob : Option Nat} {st st' : BusS} (h : Bus 147 w w0.heap.size B ob st.l st.f) (b : Below w0.heap.size w0 w) (k : BusTo 147 w w' w0.heap.size B ob st'.l st'.f) (ok : st'.ok) : BW w0 B st' w' := by
  obtain ⟨ob', hb, _⟩ := k.to
  exact ⟨⟨ob', hb⟩, k.kept.below b b.size h.base (fun j e => (h.row j e).1), ok⟩
theorem BW.below {w0 w w' : World} {B : Nat} {st : BusS} (h : BW w0 B st w) (b : Below w.heap.size w w') : BW w0 B st w' := by
  obtain ⟨ob, hb⟩ := h.has
  exact ⟨⟨ob, hb.below b⟩, below_then h.bel b, h.ok⟩
theorem BW.drew {w0 w : World} {B : Nat} {st : BusS} (h : BW w0 B st w) : BW w0 B st w.drew := h.below (Below.refl _ _).drew
theorem ok_nil (f : Bool) : BusS.ok ⟨[], f⟩ := ⟨by show 0 ≤ 64; omega, fun p hp => by cases hp⟩
theorem without_lt (d : Nat) (a : Int) (h : d < 4294967296) : withoutA d a < 4294967296 := Nat.lt_of_le_of_lt (without_le d a) h
theorem ok_add {st : BusS} {p : PieceS} (h : st.ok) (hp : p.ok) : (addS st p).1.ok := by
  unfold addS
  by_cases h64 : st.l.length = 64
  · rw [if_pos h64]
    exact ⟨h.len, h.all⟩
  · rw [if_neg h64]
    refine ⟨?_, fun q hq => ?_⟩
    · have := h.len
      simp
      omega
    · simp only [List.mem_append, List.mem_singleton] at hq
      rcases hq with hq | rfl
      · exact h.all q hq
      · exact hp
theorem ok_send {st : BusS} (h : st.ok) (src : Int) (s : ByteArray) : (sendS st src s).1.ok := by
  unfold sendS
  split
  · exact h
  · exact ok_add h ⟨by show s.size ≤ 1000; omega, without_lt _ _ (by decide)⟩
theorem ok_twice {st : BusS} (h : st.ok) (k : Int) : (twiceS st k).1.ok := by
  unfold twiceS
  cases hk : atS st.l k with
  | none => exact h
  | some p =>
    obtain ⟨n, rfl, hn, hp⟩ := atS_some hk
    exact ok_add h (h.at hp)
theorem ok_drop {st : BusS} (h : st.ok) (k : Int) : (dropS st k).1.ok := by
  unfold dropS
  cases hk : atS st.l k with
  | none => exact h
  | some p =>
    refine ⟨Nat.le_trans (List.length_eraseIdx_le _ _) h.len, fun q hq => h.all q (List.mem_of_mem_eraseIdx hq)⟩
theorem ok_set {st : BusS} (h : st.ok) (k : Nat) {q : PieceS} (hq : q.ok) : BusS.ok ⟨st.l.set k q, st.f⟩ := by
  refine ⟨by show (st.l.set k q).length ≤ 64; rw [List.length_set]; exact h.len, fun r hr => ?_⟩
  rcases List.mem_or_eq_of_mem_set hr with hr | rfl
  · exact h.all r hr
  · exact hq
theorem ok_burst {st : BusS} (h : st.ok) (k at_ pat : Int) : (burstB st k at_ pat).1.ok := by
  unfold burstB
  cases hk : atS st.l k with
  | none => exact h
  | some p =>
    obtain ⟨n, rfl, hn, hp⟩ := atS_some hk
    show (if p.hurt = true then (st, (11 : Int)) else _).1.ok
    split
    · exact h
    · exact ok_set h _ ⟨by show (burstA p.s at_ pat).size ≤ 1000; rw [burstA_size]; exact (h.at hp).size, (h.at hp).dest⟩
theorem ok_cut {st : BusS} (h : st.ok) (k n : Int) : (cutB st k n).1.ok := by
  unfold cutB
  cases hk : atS st.l k with
  | none => exact h
  | some p =>
    obtain ⟨j, rfl, hn, hp⟩ := atS_some hk
    show (if p.hurt = true then (st, (11 : Int)) else if n < 1 ∨ (p.s.size : Int) ≤ n then (st, (1 : Int)) else _).1.ok
    split
    · exact h
    · split
      · exact h
      · exact ok_set h _ ⟨by have := (h.at hp).size; show (p.s.extract 0 (p.s.size - n.toNat)).size ≤ 1000; rw [ByteArray.size_extract]; omega, (h.at hp).dest⟩
theorem ok_deliver {st : BusS} (h : st.ok) (k to : Int) : (deliverS st k to).1.ok := by
  unfold deliverS
  cases hk : atS st.l k with
  | none => exact h
  | some p =>
    obtain ⟨j, rfl, hn, hp⟩ := atS_some hk
    have h1 := ok_set h j (q := ⟨p.s, p.src, withoutA p.dest to, p.hurt⟩) ⟨(h.at hp).size, without_lt _ _ (h.at hp).dest⟩
    show (if hasA p.dest to = false then (st, (⟨#[]⟩ : ByteArray), (1 : Int)) else _).1.ok
    split
    · exact h
    · show (if withoutA p.dest to = 0 then _ else _ : BusS × ByteArray × Int).1.ok
      split
      · exact ⟨Nat.le_trans (List.length_eraseIdx_le _ _) h1.len, fun q hq => h1.all q (List.mem_of_mem_eraseIdx hq)⟩
      · exact h1
section
variable (w0 : World) (B : Nat) (st : BusS) (w : World)
theorem send_bw (src : Int) (s : ByteArray) (h : BW w0 B st w) (hs : s.size ≤ 1000000) : Calls Try.prog 55 #[.pointer (some ⟨B, 0, none⟩), .int .i64 src, .string s] w fun e w' => e = .returned (.int .i64 (sendS st src s).2) ∧ BW w0 B (sendS st src s).1 w' := by
  obtain ⟨ob, hb⟩ := h.has
  exact (bsend_any _ B ob st src s w hb h.ok.len hs).mono fun e w' ⟨he, hk⟩ => ⟨he, BW.to hb h.bel hk (ok_send h.ok src s)⟩
theorem twice_bw (k : Int) (h : BW w0 B st w) : Calls Try.prog 62 #[.pointer (some ⟨B, 0, none⟩), .int .i64 k] w fun e w' => e = .returned (.int .i64 (twiceS st k).2) ∧ BW w0 B (twiceS st k).1 w' := by
  obtain ⟨ob, hb⟩ := h.has
  exact (btwice_any _ B ob st k w hb h.ok.len).mono fun e w' ⟨he, hk⟩ => ⟨he, BW.to hb h.bel hk (ok_twice h.ok k)⟩
theorem drop_bw (k : Int) (h : BW w0 B st w) : Calls Try.prog 58 #[.pointer (some ⟨B, 0, none⟩), .int .i64 k] w fun e w' => e = .returned (.int .i64 (dropS st k).2) ∧ BW w0 B (dropS st k).1 w' := by
  obtain ⟨ob, hb⟩ := h.has
  exact (bdrop_any _ B ob st k w hb h.ok.len).mono fun e w' ⟨he, hk⟩ => ⟨he, BW.to hb h.bel hk (ok_drop h.ok k)⟩
theorem burst_bw (k at_ pat : Int) (h : BW w0 B st w) (hp0 : 0 ≤ pat) (hp1 : pat < 65536) : Calls Try.prog 60 #[.pointer (some ⟨B, 0, none⟩), .int .i64 k, .int .i64 at_, .int .u16 pat] w fun e w' => e = .returned (.int .i64 (burstB st k at_ pat).2) ∧ BW w0 B (burstB st k at_ pat).1 w' := by
  obtain ⟨ob, hb⟩ := h.has
  exact (bburst_any _ B ob st k at_ pat w hb h.ok hp0 hp1).mono fun e w' ⟨he, hk⟩ => ⟨he, BW.to hb h.bel hk (ok_burst h.ok k at_ pat)⟩
theorem cut_bw (k n : Int) (h : BW w0 B st w) : Calls Try.prog 63 #[.pointer (some ⟨B, 0, none⟩), .int .i64 k, .int .i64 n] w fun e w' => e = .returned (.int .i64 (cutB st k n).2) ∧ BW w0 B (cutB st k n).1 w' := by
  obtain ⟨ob, hb⟩ := h.has
  exact (bcut_any _ B ob st k n w hb h.ok).mono fun e w' ⟨he, hk⟩ => ⟨he, BW.to hb h.bel hk (ok_cut h.ok k n)⟩
theorem deliver_bw (k to : Int) (h : BW w0 B st w) : Calls Try.prog 110 #[.pointer (some ⟨B, 0, none⟩), .int .i64 k, .int .i64 to] w fun e w' => e = .returned (.tuple #[.string (deliverS st k to).2.1, .int .i64 (deliverS st k to).2.2]) ∧ BW w0 B (deliverS st k to).1 w' := by
  obtain ⟨ob, hb⟩ := h.has
  exact (bdeliver_any _ B ob st k to w hb h.ok).mono fun e w' ⟨he, hk⟩ => ⟨he, BW.to hb h.bel hk (ok_deliver h.ok k to)⟩
theorem lose_bw (k to : Int) (h : BW w0 B st w) : Calls Try.prog 117 #[.pointer (some ⟨B, 0, none⟩), .int .i64 k, .int .i64 to] w fun e w' => e = .returned (.int .i64 (deliverS st k to).2.2) ∧ BW w0 B (deliverS st k to).1 w' := by
  obtain ⟨ob, hb⟩ := h.has
  exact (blose_any _ B ob st k to w hb h.ok).mono fun e w' ⟨he, hk⟩ => ⟨he, BW.to hb h.bel hk (ok_deliver h.ok k to)⟩
theorem len_bw (h : BW w0 B st w) : Calls Try.prog 56 #[.pointer (some ⟨B, 0, none⟩)] w fun e w' => e = .returned (.int .i64 (st.l.length : Int)) ∧ BW w0 B st w' := by
  obtain ⟨ob, hb⟩ := h.has
  exact (blen_any _ B ob st.l st.f w hb).mono fun e w' ⟨he, hk⟩ => ⟨he, by rw [hk]; exact h⟩
theorem fault_bw (h : BW w0 B st w) : Calls Try.prog 57 #[.pointer (some ⟨B, 0, none⟩)] w fun e w' => e = .returned (.bool st.f) ∧ BW w0 B st w' := by
  obtain ⟨ob, hb⟩ := h.has
  exact (bfault_any _ B ob st.l st.f w hb).mono fun e w' ⟨he, hk⟩ => ⟨he, by rw [hk]; exact h⟩
def pieceA (l : List PieceS) (k : Int) : Value := match atS l k with | none => .agg pz | some p => p.agg
theorem piece_bw (k : Int) (h : BW w0 B st w) : Calls Try.prog 61 #[.pointer (some ⟨B, 0, none⟩), .int .i64 k] w fun e w' => e = .returned (.tuple #[pieceA st.l k, .bool (atS st.l k).isSome]) ∧ BW w0 B st w' := by
  obtain ⟨ob, hb⟩ := h.has
  unfold pieceA
  cases hk : atS st.l k with
  | none => exact (bpiece_no _ B ob st.l st.f k w hb hk).mono fun e w' ⟨he, hb'⟩ => ⟨he, h.below hb'⟩
  | some p => exact (bpiece_yes _ B ob st.l st.f k p w hb hk h.ok.len).mono fun e w' ⟨he, hb'⟩ => ⟨he, h.below hb'⟩
theorem new_bw : Calls Try.prog 54 #[] w fun e w' => ∃ B, e = .returned (.pointer (some ⟨B, 0, none⟩)) ∧ (Below w0.heap.size w0 w → BW w0 B ⟨[], false⟩ w') :=
  (bnew_any w).mono fun e w' ⟨he, hw⟩ => ⟨w.heap.size, he, fun b => by
    rw [hw]
    exact ⟨⟨none, bus_new 147 w _ b.size⟩, b.alloc b.size _, ok_nil false⟩⟩
end
def abS : ByteArray := ⟨#[97, 98]⟩
def st1 : BusS := ⟨[⟨abS, 1, 4294967293, false⟩], false⟩
def st2 : BusS := ⟨[⟨abS, 1, 4294967289, false⟩], false⟩
theorem aw1 : sendS ⟨[], false⟩ 1 abS = (st1, 0) := by rfl
theorem aw2 : deliverS st1 0 2 = (st2, abS, 0) := by rfl
theorem aw3 : deliverS st2 0 2 = (st2, ⟨#[]⟩, 1) := by rfl
theorem aw4 : pieceA st2.l 0 = .agg #[.string abS, .int .i64 1, .int .u32 4294967289, .bool false] := by rfl
set_option maxRecDepth 100000 in
theorem bawake_any (w : World) : Calls Try.prog 53 #[] w fun e w' => e = .returned (.bool true) ∧ Below w.heap.size w w' := by
  have HN := Lib.hid (fun W => new_bw w W)
  have H1 := Lib.hid (fun B W h => send_bw w B ⟨[], false⟩ W 1 abS h (by decide))
  have H2 := Lib.hid (fun B W h => deliver_bw w B st1 W 0 2 h)
  have H3 := Lib.hid (fun B W h => deliver_bw w B st2 W 0 2 h)
  have H4 := Lib.hid (fun B W h => piece_bw w B st2 W 0 h)
  have H5 := Lib.hid (fun B W h => len_bw w B st2 W h)
  rw [aw1] at H1
  rw [aw2] at H2
  rw [aw3] at H3
  rw [aw4, show (atS st2.l 0).isSome = true from rfl] at H4
  rw [show ((st2.l.length : Nat) : Int) = 1 from rfl] at H5
  have hab : abS.toList = [97, 98] := by decide +kernel
  unfold abS at *
  go_enter Try.func53, Try.ntmps53
  go_wp2_with fail
  refine (HN.out _).mono ?_
  rintro e w1 ⟨B, rfl, b⟩
  have hb := Lib.hid (b (Below.refl _ _))
  clear b
  go_wp2_with fail
  refine (H1.out B _ hb.out).mono ?_
  rintro e w2 ⟨rfl, h2⟩
  go_wp2_with fail
  refine (H2.out B _ h2).mono ?_
  rintro e w3 ⟨rfl, h3⟩
  go_wp2_with fail
  refine (H3.out B _ h3).mono ?_
  rintro e w4 ⟨rfl, h4⟩
  go_wp2_with fail
  refine (H4.out B _ h4).mono ?_
  rintro e w5 ⟨rfl, h5⟩
  go_wp2_with fail
  have h6 := h5.below ((Below.refl _ _).alloc (Nat.le_refl _) (.cells #[.string ⟨#[97, 98]⟩, .int .i64 1, .int .u32 4294967289, .bool false] 69))
  refine (H5.out B _ h6).mono ?_
  rintro e w7 ⟨rfl, h7⟩
  go_wp2_with fail
  go_ret
  exact ⟨rfl, h7.bel⟩
end Go.Proofs.Ytdhfkcodacmbfaa
