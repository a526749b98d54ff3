/- The medium as the document has it (the reference's bus): there, without, drop, twice, send. -/
import Derived.Test.YtdhfkcodacmbfaaBusG
set_option linter.unusedVariables false
set_option linter.unusedSimpArgs false
namespace Go.Proofs.Ytdhfkcodacmbfaa
open Go.RowKit

/-- The row is the old one, a new one, or none. -/
def NearN (w : World) (ob ob' : Option Nat) : Prop := ob' = none ∨ Near w ob ob'
/-- The reference's bus has become another. -/
structure RefTo (w w' : World) (S B : Nat) (ob : Option Nat) (l : List PieceS) (f : Bool) : Prop where
  to : ∃ ob', Bus 85 w' S B ob' l f ∧ NearN w ob ob'
  kept : Kept w w' B ob
theorem BusTo.ref {w w' : World} {S B : Nat} {ob : Option Nat} {l : List PieceS} {f : Bool} (h : BusTo 85 w w' S B ob l f) : RefTo w w' S B ob l f := by
  obtain ⟨ob', hb, hn⟩ := h.to
  exact ⟨⟨ob', hb, .inr hn⟩, h.kept⟩
theorem RefTo.near {a b c : World} {S B : Nat} {ob : Option Nat} {l : List PieceS} {f : Bool} (k : RefTo b c S B ob l f) (h : Below a.heap.size a b) : RefTo a c S B ob l f := by
  obtain ⟨ob', hb, hn⟩ := k.to
  refine ⟨⟨ob', hb, ?_⟩, (Kept.of_below h).trans (Near.refl _ _) k.kept⟩
  rcases hn with hn | hn
  · exact .inl hn
  · exact .inr ((Near.refl a ob).trans hn h.size)
theorem RefTo.after {a b c : World} {S B : Nat} {ob ob1 : Option Nat} {l : List PieceS} {f : Bool} (kept : Kept a b B ob) (near : Near a ob ob1) (k : RefTo b c S B ob1 l f) : RefTo a c S B ob l f := by
  obtain ⟨ob', hb, hn⟩ := k.to
  refine ⟨⟨ob', hb, ?_⟩, kept.trans near k.kept⟩
  rcases hn with hn | hn
  · exact .inl hn
  · exact .inr (near.trans hn kept.size)
theorem RefTo.refl {w : World} {S B : Nat} {ob : Option Nat} {l : List PieceS} {f : Bool} (h : Bus 85 w S B ob l f) : RefTo w w S B ob l f := (BusTo.refl h).ref
set_option maxRecDepth 100000 in
theorem rthere_bus (S B : Nat) (ob : Option Nat) (l : List PieceS) (f : Bool) (k : Int) (w : World) (h : Bus 85 w S B ob l f) : Calls Try.prog 143 #[.pointer (some ⟨B, 0, none⟩), .int .i64 k] w fun e w' => e = .returned (.bool (atS l k).isSome) ∧ w' = w := by
  obtain ⟨A, cap, c0, _, _, _⟩ := h.cells
  have hv : (atS l k).isSome = (decide (0 ≤ k) && decide (k < (l.length : Int))) := by
    cases hk : atS l k with
    | none =>
      have := atS_none hk
      symm
      rw [Bool.eq_iff_iff]
      simp
      omega
    | some p =>
      obtain ⟨n, rfl, hn, _⟩ := atS_some hk
      symm
      rw [Bool.eq_iff_iff]
      simp
      omega
  rw [hv]
  clear hv h
  by_cases h0 : 0 ≤ k
  · go_enter Try.func143, Try.ntmps143
    go_wp2_with fail
    go_ret
    exact ⟨ret_bool (by simp [h0]), rfl⟩
  · have h0' : decide (0 ≤ k) = false := by simpa using h0
    go_enter Try.func143, Try.ntmps143
    go_wp2_with fail
    go_ret
    exact ⟨ret_bool (by simp [h0']), rfl⟩
theorem erase_take_same (l : List PieceS) (k : Nat) (hk : k < l.length) : (l.take (k + 1)).eraseIdx k = (l.take k).eraseIdx k := by
  have h0 : k - (l.take k).length = 0 := by rw [List.length_take]; omega
  have e : [l[k]].eraseIdx (k - (l.take k).length) = [] := by rw [h0]; rfl
  rw [List.take_succ_eq_append_getElem hk, List.eraseIdx_append_of_length_le (by rw [List.length_take]; omega), e, List.append_nil, List.eraseIdx_of_length_le (by rw [List.length_take]; omega)]
theorem erase_take_other (l : List PieceS) (k i : Nat) (p : PieceS) (hi : l[i]? = some p) (hne : i ≠ k) : (l.take (i + 1)).eraseIdx k = (l.take i).eraseIdx k ++ [p] := by
  obtain ⟨hl, hp⟩ := List.getElem?_eq_some_iff.1 hi
  rw [List.take_succ_eq_append_getElem hl, hp]
  by_cases h : k < i
  · rw [List.eraseIdx_append_of_lt_length (by rw [List.length_take]; omega)]
  · rw [List.eraseIdx_of_length_le (by rw [List.length_append, List.length_take, List.length_singleton]; omega), List.eraseIdx_of_length_le (by rw [List.length_take]; omega)]
theorem ref_store {w w1 : World} {S B : Nat} {v v' : Value} {ys : List PieceS} {f : Bool} (hb : Blk w B #[v, .bool f] 85) (hS : S ≤ B) (hSw : S ≤ w.heap.size)
    (hg : Below w.heap.size w w1) (ho : w1.ownsRow w.heap.size 69 4 v' ys.length (pcs ys)) :
    RefTo w (w1.setCell ⟨B, 0, none⟩ v') S B v.ownBlock ys f := by
  have hB1 : Blk w1 B #[v, .bool f] 85 := hb.keep hg
  have hne' : v'.ownBlock ≠ some B := fun e => by
    have := (ho.lt B e).1
    have := hb.lt
    omega
  have ho' : w1.ownsRow S 69 4 v' ys.length (pcs ys) := by
    refine ⟨ho.1, ?_⟩
    rcases ho.2 with q | ⟨g, cap, cur, e, hgg, rest⟩
    · exact .inl q
    · exact .inr ⟨g, cap, cur, e, by omega, rest⟩
  refine ⟨⟨v'.ownBlock, ⟨⟨v', hB1.setCell 0 v', own_keep ho' (fun k e => Below.heap_setCell w1 ⟨B, 0, none⟩ _ k ?_), rfl⟩, hne', hS⟩, ?_⟩, ?_⟩
  · intro q
    apply hne'
    rw [e]
    exact congrArg some q
  · cases hv : v'.ownBlock with
    | none => exact .inl rfl
    | some g => exact .inr (.inr ⟨g, rfl, (ho.lt g hv).1⟩)
  · exact ⟨hg.os, hg.tape, hg.output, by rw [World.size_setCell]; exact hg.size, fun k hk hkB _ => (Below.heap_setCell w1 ⟨B, 0, none⟩ v' k hkB).trans (hg.block k hk)⟩
set_option maxRecDepth 100000 in
set_option maxHeartbeats 2000000 in
theorem rout_any (S B : Nat) (ob : Option Nat) (l : List PieceS) (f : Bool) (k : Nat) (w : World) (h : Bus 85 w S B ob l f) (hl : l.length ≤ 64) :
    Calls Try.prog 145 #[.pointer (some ⟨B, 0, none⟩), .int .i64 (k : Int)] w fun e w' => e = .returned (.tuple #[]) ∧ RefTo w w' S B ob (l.eraseIdx k) f := by
  have hS := h.base
  have hBl := h.lt
  obtain ⟨i0, hi, hz0, hz1, hz2⟩ := info_parts info69
  have HB := Lib.hid h
  obtain ⟨v0, hb, ho0, rfl⟩ := h.has
  have HBlk := Lib.hid hb
  clear hb ho0 h
  go_enter Try.func145, Try.ntmps145
  go_wp2_with fail
  go_loopw [4, 5] (fun v x wr => ∃ i : Nat, i ≤ l.length ∧ x = .int .i64 i ∧ wr.ownsRow w.heap.size 69 4 v ((l.take i).eraseIdx k).length (pcs ((l.take i).eraseIdx k)) ∧ Below w.heap.size w wr) (fun _ x _ => l.length - (intOf x).toNat)
  case atStart => exact ⟨0, by omega, rfl, by show World.ownsRow w w.heap.size 69 4 _ 0 []; exact World.ownsRow_nil _ _ _ _, Below.refl _ _⟩
  case round =>
    obtain ⟨i, hil, rfl, ho, b⟩ := hrel
    obtain ⟨A, c, rfl⟩ := own_shape ho
    have h1 := HB.out.below b
    obtain ⟨A1, cap1, c0, _, f0, _⟩ := h1.cells
    have hel : ((l.take i).eraseIdx k).length ≤ i := Nat.le_trans (List.length_eraseIdx_le _ _) (List.length_take_le _ _)
    by_cases hlt : i < l.length
    · have hlt' : (i : Int) < (l.length : Int) := by omega
      obtain ⟨p, hp⟩ : ∃ p, l[i]? = some p := ⟨l[i], List.getElem?_eq_getElem hlt⟩
      by_cases hik : i = k
      · subst hik
        have he := erase_take_same l i hlt
        have HE := Lib.hid he
        clear he hp h1
        go_wp2_with fail
        go_roundw
        case rel => exact ⟨i + 1, by omega, by go_num, by rw [HE.out]; exact ho, b⟩
        case measure => simp [intOf]; omega
      · have he := erase_take_other l k i p hp hik
        have HE := Lib.hid he
        clear c0 f0
        obtain ⟨g, cap, eob, C, hor⟩ := h1.some_ (by omega)
        have P := piece_cells hor hp
        obtain ⟨p0, p1, p2, p3, _, _, _, _⟩ := P
        have c0 := C.c0
        have hcap := C.le
        have hne : ¬ (i : Int) = (k : Int) := by omega
        have hne' : ((i : Int) != (k : Int)) = true := by simpa using hne
        have hwS := b.size
        have HO := Lib.hid ho
        have Hb := Lib.hid b
        clear he hp h1 C hor eob hik ho b
        go_wp2_with (at_builtin; refine wpList_append_own _ rfl (.tmp 18) (.tmp 26) 83 rfl w.heap.size 69 i0 _ 4 32 Try.underlying83 hi hz0 hz1 hz2 rfl (by decide) _ _ _ rfl (HO.out.alloc _) ⟨wr.heap.size, 0, none⟩ 1 1 p.cells rfl rfl (World.news_of_block (cs := #[.string p.s, .int .i64 p.src, .int .u32 (p.dest : Int), .bool p.hurt]) (t := 69) (fr := (0, 0)) (heap_alloc_new wr _)) (PieceS.cells_one p) (by unfold maxLen; omega) (by omega) (by simp; omega) ?_)
        intro v1 w2 hown hg _
        have hg2 := World.grownBy.trans (World.grownBy_alloc wr (.cells #[.string p.s, .int .i64 p.src, .int .u32 (p.dest : Int), .bool p.hurt] 69) _) hg
        have hown2 : w2.ownsRow w.heap.size 69 4 v1 ((l.take (i + 1)).eraseIdx k).length (pcs ((l.take (i + 1)).eraseIdx k)) := by
          rw [HE.out, List.length_append, pcs_append]
          have : pcs [p] = p.cells := by simp [pcs]
          rw [this]
          exact hown
        have hb2 := below_grown Hb.out hg2 (fun j e => (HO.out.lt j e).1) hwS
        have HO2 := Lib.hid hown2
        have Hb2 := Lib.hid hb2
        clear hown hg hg2 hown2 hb2
        go_wp2_with fail
        go_roundw
        case rel => exact ⟨i + 1, by omega, by go_num, HO2.out, Hb2.out⟩
        case measure => simp [intOf]; omega
    · obtain rfl : i = l.length := by omega
      have HF := Lib.hid (ref_store (ys := l.eraseIdx k) HBlk.out hS (by omega) b (v' := .slice A (l.eraseIdx k).length c) (by rw [List.take_length] at ho; exact ho))
      clear h1 ho b
      go_wp2_with fail
      go_end0
      exact ⟨rfl, HF.out⟩
end Go.Proofs.Ytdhfkcodacmbfaa
