/- The walks of an octets.Pen: a pen whose bytes lie in a row that the call's own side made. -/
import Derived.Test.YtdhfkcodacmbfaaChg
import Derived.Maps.AppendAt
set_option linter.unusedVariables false
set_option linter.unusedSimpArgs false
namespace Go.Proofs.Ytdhfkcodacmbfaa
open Go.RowKit

def nb (xs : List Int) : List Value := xs.map (Value.int .u8)
theorem nb_length (xs : List Int) : (nb xs).length = xs.length := by simp [nb]
theorem nb_append (xs ys : List Int) : nb (xs ++ ys) = nb xs ++ nb ys := by simp [nb]
theorem own_shape {w : World} {base n : Nat} {e : TypeId} {size : Nat} {v : Value} {xs : List Value} (h : w.ownsRow base e size v n xs) : ∃ A c, v = .slice A n c := by
  rcases h.2 with ⟨rfl, rfl⟩ | ⟨g, cap, cur, rfl, _⟩
  · exact ⟨none, 0, rfl⟩
  · exact ⟨_, cap, rfl⟩

/-- All blocks are as they were, but block B and the row ob; new ones may have come. -/
structure Kept (w w' : World) (B : Nat) (ob : Option Nat) : Prop where
  os : w'.os = w.os
  tape : w'.tape = w.tape
  output : w'.output = w.output
  size : w.heap.size ≤ w'.heap.size
  rest : ∀ k, k < w.heap.size → k ≠ B → some k ≠ ob → w'.heap[k]? = w.heap[k]?
theorem Kept.refl (w : World) (B : Nat) (ob : Option Nat) : Kept w w B ob := ⟨rfl, rfl, rfl, Nat.le_refl _, fun _ _ _ _ => rfl⟩
/-- The row is the old one, or a new one. -/
def Near (w : World) (ob ob' : Option Nat) : Prop := ob' = ob ∨ ∃ g, ob' = some g ∧ w.heap.size ≤ g
theorem Near.refl (w : World) (ob : Option Nat) : Near w ob ob := .inl rfl
theorem Near.trans {a b : World} {o p q : Option Nat} (h : Near a o p) (k : Near b p q) (hs : a.heap.size ≤ b.heap.size) : Near a o q := by
  rcases k with rfl | ⟨g, rfl, hg⟩
  · exact h
  · exact .inr ⟨g, rfl, Nat.le_trans hs hg⟩
theorem Kept.trans {a b c : World} {B : Nat} {o p : Option Nat} (h : Kept a b B o) (n : Near a o p) (k : Kept b c B p) : Kept a c B o :=
  ⟨k.os.trans h.os, k.tape.trans h.tape, k.output.trans h.output, Nat.le_trans h.size k.size, fun i hi hB ho => (k.rest i (Nat.lt_of_lt_of_le hi h.size) hB (by
    rcases n with rfl | ⟨g, rfl, hg⟩
    · exact ho
    · intro e
      injection e with e
      omega)).trans (h.rest i hi hB ho)⟩
theorem Kept.below {S : Nat} {a w w' : World} {B : Nat} {ob : Option Nat} (h : Kept w w' B ob) (b : Below S a w) (hS : S ≤ w.heap.size) (hB : S ≤ B) (ho : ∀ k, ob = some k → S ≤ k) : Below S a w' :=
  ⟨h.os.trans b.os, h.tape.trans b.tape, h.output.trans b.output, Nat.le_trans b.size h.size, fun k hk => (h.rest k (Nat.lt_of_lt_of_le hk hS) (by omega) (by
    intro e
    have := ho k e.symm
    omega)).trans (b.block k hk)⟩
theorem Kept.blk {w w' : World} {B C : Nat} {ob : Option Nat} {cs : Array Value} {t : TypeId} (h : Kept w w' B ob) (k : Blk w C cs t) (hC : C ≠ B) (ho : some C ≠ ob) : Blk w' C cs t := ⟨(h.rest C k.lt hC ho).trans k.at_⟩

structure Pen (w : World) (S B : Nat) (ob : Option Nat) (xs : List Int) : Prop where
  has : ∃ v, Blk w B #[v] 137 ∧ w.ownsRow S 5 1 v xs.length (nb xs) ∧ ob = v.ownBlock
  ne : ob ≠ some B
  base : S ≤ B
theorem Pen.lt {w : World} {S B : Nat} {ob : Option Nat} {xs : List Int} (h : Pen w S B ob xs) : B < w.heap.size := by
  obtain ⟨v, hb, _, _⟩ := h.has
  exact hb.lt
theorem Pen.row {w : World} {S B : Nat} {ob : Option Nat} {xs : List Int} (h : Pen w S B ob xs) (k : Nat) (e : ob = some k) : S ≤ k ∧ k < w.heap.size := by
  obtain ⟨v, _, ho, rfl⟩ := h.has
  exact ho.lt k e
/-- Nothing that the pen knows was touched. -/
theorem Pen.keep {w w' : World} {S B : Nat} {ob : Option Nat} {xs : List Int} (h : Pen w S B ob xs) (hr : ∀ k, k < w.heap.size → (k = B ∨ some k = ob) → w'.heap[k]? = w.heap[k]?) : Pen w' S B ob xs := by
  obtain ⟨v, hb, ho, rfl⟩ := h.has
  refine ⟨⟨v, ⟨(hr B hb.lt (.inl rfl)).trans hb.at_⟩, ?_, rfl⟩, h.ne, h.base⟩
  refine ⟨ho.1, ?_⟩
  rcases ho.2 with q | ⟨g, cap, cur, rfl, hg, hh, rest⟩
  · exact .inl q
  · exact .inr ⟨g, cap, cur, rfl, hg, (hr g (Array.getElem?_eq_some_iff.1 hh).1 (.inr rfl)).trans hh, rest⟩
theorem Pen.below {w w' : World} {S B : Nat} {ob : Option Nat} {xs : List Int} (h : Pen w S B ob xs) (b : Below w.heap.size w w') : Pen w' S B ob xs := h.keep (fun k hk _ => b.block k hk)
/-- A pen has written on. -/
structure PenTo (w w' : World) (S B : Nat) (ob : Option Nat) (xs : List Int) : Prop where
  to : ∃ ob', Pen w' S B ob' xs ∧ Near w ob ob'
  kept : Kept w w' B ob
theorem PenTo.trans {a b c : World} {S B : Nat} {ob ob1 : Option Nat} {ys : List Int} (kept : Kept a b B ob) (near : Near a ob ob1) (k : PenTo b c S B ob1 ys) : PenTo a c S B ob ys := by
  obtain ⟨ob2, hp, hn⟩ := k.to
  exact ⟨⟨ob2, hp, near.trans hn kept.size⟩, kept.trans near k.kept⟩
theorem info5' : (Try.prog.info? 5).map (fun i => (i.zero, i.size, i.bytes)) = some (some (.int .u8 0), 1, 1) := by kernel_rfl

theorem pen_store {w w1 : World} {S B : Nat} {v v' : Value} {ys : List Int} (hb : Blk w B #[v] 137) (hne : v.ownBlock ≠ some B) (hS : S ≤ B)
    (hg : w.grownBy w1 v.ownBlock) (ho : w1.ownsRow S 5 1 v' ys.length (nb ys)) (hat : v'.ownBlock = v.ownBlock ∨ ∃ g, v'.ownBlock = some g ∧ w.heap.size ≤ g) :
    PenTo w (w1.setCell ⟨B, 0, none⟩ v') S B v.ownBlock ys := by
  have hB1 : Blk w1 B #[v] 137 := ⟨(hg.block B hb.lt (fun e => hne e.symm)).trans hb.at_⟩
  have hne' : v'.ownBlock ≠ some B := by
    rcases hat with e | ⟨g, e, hgs⟩
    · rw [e]; exact hne
    · rw [e]
      intro q
      injection q with q
      have := hb.lt
      omega
  refine ⟨⟨v'.ownBlock, ⟨⟨v', hB1.setCell 0 v', ?_, rfl⟩, hne', hS⟩, hat⟩, ?_⟩
  · refine ⟨ho.1, ?_⟩
    rcases ho.2 with q | ⟨g, cap, cur, rfl, hgS, hh, rest⟩
    · exact .inl q
    · refine .inr ⟨g, cap, cur, rfl, hgS, (Below.heap_setCell w1 ⟨B, 0, none⟩ _ g ?_).trans hh, rest⟩
      intro e
      apply hne'
      show some g = some B
      rw [e]
  · exact ⟨hg.os, hg.tape, hg.output, by rw [World.size_setCell]; exact hg.size, fun k hk hkB hko => (Below.heap_setCell w1 ⟨B, 0, none⟩ v' k hkB).trans (hg.block k hk hko)⟩
set_option maxRecDepth 100000 in
theorem pbyte_any (S B : Nat) (ob : Option Nat) (xs : List Int) (n : Int) (w : World) (hP : Pen w S B ob xs) (hl : xs.length ≤ 1000000) :
    Calls Try.prog 103 #[.pointer (some ⟨B, 0, none⟩), .int .u8 n] w fun e w' => e = .returned (.pointer (some ⟨B, 0, none⟩)) ∧ PenTo w w' S B ob (xs ++ [n]) := by
  have hBl := hP.lt
  have hSB := hP.base
  have hne := hP.ne
  obtain ⟨v, hb, ho, rfl⟩ := hP.has
  have hc := hb.cell (j := 0) (v := v) rfl
  obtain ⟨i0, hi, hz0, hz1, hz2⟩ := info_parts info5'
  obtain ⟨A, c, rfl⟩ := own_shape ho
  have hS1 : S ≤ w.heap.size := by omega
  go_enter Try.func103, Try.ntmps103
  go_wp2_with (at_builtin; refine wpList_append_own_at _ rfl (.tmp 11) (.tmp 13) 54 rfl S 5 i0 (.int .u8 0) 1 1 Try.underlying54 hi hz0 hz1 hz2 rfl (by decide) _ xs.length (nb xs) rfl (ho.alloc _) ⟨w.heap.size, 0, none⟩ 1 1 [.int .u8 n] rfl rfl (cell_one_new _ _ _) (by simp [Value.oneCell']) (by unfold maxLen; omega) (by omega) (by simp; omega) ?_)
  intro v1 w1 hown hg _ hat
  have hg2 := World.grownBy.trans (World.grownBy_alloc w (.cells #[.int .u8 n] 5) _) hg
  have hown2 : w1.ownsRow S 5 1 v1 (xs ++ [n]).length (nb (xs ++ [n])) := by rw [nb_append]; simpa [nb] using hown
  have hB1 : Blk w1 B #[Value.slice A xs.length c] 137 := ⟨(hg2.block B hb.lt (fun e => hne e.symm)).trans hb.at_⟩
  have hc1 := hB1.cell (j := 0) (v := Value.slice A xs.length c) rfl
  have hf1 := hB1.free 0
  obtain ⟨A1, c1, rfl⟩ := own_shape hown
  have HP := Lib.hid (pen_store hb hne hSB hg2 hown2 (by
    rcases hat with e | e
    · exact .inl e
    · exact .inr ⟨_, e, by simp⟩))
  clear hat hown hown2 hg hg2 hB1 hP ho hne hb hc
  go_wp2_with fail
  go_ret
  exact ⟨rfl, HP.out⟩

set_option maxRecDepth 100000 in
theorem ptwo_any (S B : Nat) (ob : Option Nat) (xs : List Int) (n : Int) (w : World) (hP : Pen w S B ob xs) (hl : xs.length ≤ 999000) (n0 : 0 ≤ n) (n1 : n < 65536) :
    Calls Try.prog 101 #[.pointer (some ⟨B, 0, none⟩), .int .u16 n] w fun e w' => e = .returned (.pointer (some ⟨B, 0, none⟩)) ∧ PenTo w w' S B ob (xs ++ [n / 256, n % 256]) := by
  have H := Lib.hid (fun ob xs (m : Int) W (hW : Pen W S B ob xs) (h : xs.length ≤ 1000000) => pbyte_any S B ob xs m W hW h)
  have e1 : n / 256 % 256 = n / 256 := by omega
  go_enter Try.func101, Try.ntmps101
  go_wp2_with fail
  refine (H.out _ _ _ _ hP (by omega)).mono ?_
  rintro e w1 ⟨rfl, ⟨ob1, hP1, near1⟩, kept1⟩
  go_wp2_with fail
  refine (H.out _ _ _ _ hP1 (by simp; omega)).mono ?_
  rintro e w2 ⟨rfl, p2⟩
  have p3 := PenTo.trans kept1 near1 p2
  rw [List.append_assoc] at p3
  clear p2 hP1 near1 kept1
  go_wp2_with fail
  go_ret
  exact ⟨rfl, p3⟩
set_option maxRecDepth 100000 in
theorem pfour_any (S B : Nat) (ob : Option Nat) (xs : List Int) (n : Int) (w : World) (hP : Pen w S B ob xs) (hl : xs.length ≤ 998000) (n0 : 0 ≤ n) (n1 : n < 4294967296) :
    Calls Try.prog 105 #[.pointer (some ⟨B, 0, none⟩), .int .u32 n] w fun e w' => e = .returned (.pointer (some ⟨B, 0, none⟩)) ∧ PenTo w w' S B ob (xs ++ [n / 16777216, n / 65536 % 256, n / 256 % 256, n % 256]) := by
  have H := Lib.hid (fun ob xs (m : Int) W (hW : Pen W S B ob xs) (h : xs.length ≤ 999000) (h0 : 0 ≤ m) (h1 : m < 65536) => ptwo_any S B ob xs m W hW h h0 h1)
  have HW := Lib.hid (show IntKind.u16.wrap n = n % 65536 by simp [IntKind.wrap, IntKind.bits, IntKind.signed])
  go_enter Try.func105, Try.ntmps105
  go_wp2_with fail
  refine (H.out _ _ _ _ hP (by omega) (by omega) (by omega)).mono ?_
  rintro e w1 ⟨rfl, ⟨ob1, hP1, near1⟩, kept1⟩
  go_wp2_with fail
  refine (H.out _ _ _ _ hP1 (by simp; omega) (by rw [HW.out]; omega) (by rw [HW.out]; omega)).mono ?_
  rintro e w2 ⟨rfl, p2⟩
  have p3 := PenTo.trans kept1 near1 p2
  rw [List.append_assoc, HW.out, show n / 65536 / 256 = n / 16777216 by omega, show n % 65536 / 256 = n / 256 % 256 by omega, show n % 65536 % 256 = n % 256 by omega] at p3
  clear p2 hP1 near1 kept1
  go_wp2_with fail
  go_ret
  exact ⟨rfl, p3⟩

theorem strCells_nb (s : ByteArray) : Lib.strCells s = nb (s.data.toList.map fun c => (c.toNat : Int)) := by
  simp [nb, Lib.strCells]
def bytesI (s : ByteArray) : List Int := s.data.toList.map fun c => (c.toNat : Int)
theorem bytesI_length (s : ByteArray) : (bytesI s).length = s.size := by simp [bytesI]
/-- A pen has written a text: where its row lies is not told. -/
structure PenText (w w' : World) (S B : Nat) (ob : Option Nat) (xs : List Int) : Prop where
  to : ∃ ob', Pen w' S B ob' xs
  kept : Kept w w' B ob
theorem row_ne {w : World} {S B n : Nat} {v : Value} {xs : List Value} {cs : Array Value} (h : w.ownsRow S 5 1 v n xs) (hb : Blk w B cs 137) : v.ownBlock ≠ some B := by
  intro e
  rcases h.2 with ⟨rfl, _⟩ | ⟨g, cap, cur, rfl, _, hh, _⟩
  · cases e
  · have : g = B := by simpa [Value.ownBlock] using e
    subst this
    rw [hb.at_] at hh
    injection hh with hh
    injection hh with _ ht
    cases ht
theorem pen_store_text {w w1 : World} {S B : Nat} {v v' : Value} {ys : List Int} (hb : Blk w B #[v] 137) (hne : v.ownBlock ≠ some B) (hS : S ≤ B)
    (hg : w.grownBy w1 v.ownBlock) (ho : w1.ownsRow S 5 1 v' ys.length (nb ys)) :
    PenText w (w1.setCell ⟨B, 0, none⟩ v') S B v.ownBlock ys := by
  have hB1 : Blk w1 B #[v] 137 := ⟨(hg.block B hb.lt (fun e => hne e.symm)).trans hb.at_⟩
  have hne' := row_ne ho hB1
  refine ⟨⟨v'.ownBlock, ⟨⟨v', hB1.setCell 0 v', ?_, rfl⟩, hne', hS⟩⟩, ?_⟩
  · refine ⟨ho.1, ?_⟩
    rcases ho.2 with q | ⟨g, cap, cur, rfl, hgS, hh, rest⟩
    · exact .inl q
    · refine .inr ⟨g, cap, cur, rfl, hgS, (Below.heap_setCell w1 ⟨B, 0, none⟩ _ g ?_).trans hh, rest⟩
      intro e
      apply hne'
      show some g = some B
      rw [e]
  · exact ⟨hg.os, hg.tape, hg.output, by rw [World.size_setCell]; exact hg.size, fun k hk hkB hko => (Below.heap_setCell w1 ⟨B, 0, none⟩ v' k hkB).trans (hg.block k hk hko)⟩
set_option maxRecDepth 100000 in
theorem ptext_any (S B : Nat) (ob : Option Nat) (xs : List Int) (s : ByteArray) (w : World) (hP : Pen w S B ob xs) (hl : xs.length ≤ 1000000) (hs : s.size ≤ 1000000) :
    Calls Try.prog 106 #[.pointer (some ⟨B, 0, none⟩), .string s] w fun e w' => e = .returned (.pointer (some ⟨B, 0, none⟩)) ∧ PenText w w' S B ob (xs ++ bytesI s) := by
  have hBl := hP.lt
  have hSB := hP.base
  have hne := hP.ne
  obtain ⟨v, hb, ho, rfl⟩ := hP.has
  have hc := hb.cell (j := 0) (v := v) rfl
  obtain ⟨i0, hi, hz0, hz1, hz2⟩ := info_parts info5'
  obtain ⟨A, c, rfl⟩ := own_shape ho
  have hS1 : S ≤ w.heap.size := by omega
  go_enter Try.func106, Try.ntmps106
  go_wp2_with (at_builtin; refine Lib.wpList_append_own_string _ rfl (.tmp 11) (.tmp 12) 54 9 rfl S 5 i0 Try.underlying54 Try.underlying9 hi hz0 hz1 hz2 _ xs.length (nb xs) rfl ho s rfl (by unfold maxLen; omega) (by omega) hS1 ?_)
  intro v1 w1 hown hg _
  have hown2 : w1.ownsRow S 5 1 v1 (xs ++ bytesI s).length (nb (xs ++ bytesI s)) := by rw [nb_append, List.length_append, bytesI_length, bytesI, ← strCells_nb]; exact hown
  have hB1 : Blk w1 B #[Value.slice A xs.length c] 137 := ⟨(hg.block B hb.lt (fun e => hne e.symm)).trans hb.at_⟩
  have hc1 := hB1.cell (j := 0) (v := Value.slice A xs.length c) rfl
  have hf1 := hB1.free 0
  obtain ⟨A1, c1, rfl⟩ := own_shape hown
  have HP := Lib.hid (pen_store_text hb hne hSB hg hown2)
  clear hown hown2 hg hB1 hP ho hne hb hc
  go_wp2_with fail
  go_ret
  exact ⟨rfl, HP.out⟩
theorem psmall_no (S B : Nat) (s : ByteArray) (w : World) (hs : 255 < s.size) (hs2 : s.size ≤ 1000000) :
    Calls Try.prog 100 #[.pointer (some ⟨B, 0, none⟩), .string s] w fun e w' => e = .returned (.bool false) ∧ w = w' := by
  go_enter Try.func100, Try.ntmps100
  go_wp2_with fail
  go_ret
  exact ⟨rfl, rfl⟩
set_option maxRecDepth 100000 in
theorem psmall_yes (S B : Nat) (ob : Option Nat) (xs : List Int) (s : ByteArray) (w : World) (hP : Pen w S B ob xs) (hl : xs.length ≤ 999000) (hs : s.size ≤ 255) :
    Calls Try.prog 100 #[.pointer (some ⟨B, 0, none⟩), .string s] w fun e w' => e = .returned (.bool true) ∧ PenText w w' S B ob (xs ++ ((s.size : Int) :: bytesI s)) := by
  have H := Lib.hid (pbyte_any S B ob xs s.size w hP (by omega))
  have HT := Lib.hid (fun ob1 W (h : Pen W S B ob1 (xs ++ [(s.size : Int)])) => ptext_any S B ob1 (xs ++ [(s.size : Int)]) s W h (by simp; omega) (by omega))
  go_enter Try.func100, Try.ntmps100
  go_wp2_with fail
  refine H.out.mono ?_
  rintro e w1 ⟨rfl, ⟨ob1, hP1, near1⟩, kept1⟩
  go_wp2_with fail
  refine (HT.out _ _ hP1).mono ?_
  rintro e w2 ⟨rfl, p2⟩
  have p3 : PenText w w2 S B ob (xs ++ ((s.size : Int) :: bytesI s)) := by
    have := p2.to
    rw [List.append_assoc] at this
    exact ⟨this, kept1.trans near1 p2.kept⟩
  clear p2 hP1 near1 kept1
  go_wp2_with fail
  go_ret
  exact ⟨rfl, p3⟩
theorem plen_any (S B : Nat) (ob : Option Nat) (xs : List Int) (w : World) (hP : Pen w S B ob xs) :
    Calls Try.prog 51 #[.pointer (some ⟨B, 0, none⟩)] w fun e w' => e = .returned (.int .i64 xs.length) ∧ w = w' := by
  obtain ⟨v, hb, ho, rfl⟩ := hP.has
  have hc := hb.cell (j := 0) (v := v) rfl
  obtain ⟨A, c, rfl⟩ := own_shape ho
  clear hP ho
  go_enter Try.func51, Try.ntmps51
  go_wp2_with fail
  go_ret
  exact ⟨rfl, rfl⟩
theorem own_text {w : World} {S n : Nat} {v : Value} {xs : List Int} (h : w.ownsRow S 5 1 v n (nb xs)) : (convert 54 9 v).run Try.prog w = .ok (.string (strOfNums xs)) w := by
  have hl : xs.length = n := by have := h.1; simpa [nb] using this
  rcases h.2 with ⟨rfl, h0⟩ | ⟨g, cap, cur, rfl, _⟩
  · obtain rfl : xs = [] := List.eq_nil_of_length_eq_zero (by omega)
    exact run_convert_bytes_nil w 54 5 Try.underlying54 Try.underlying5 0 0 9 Try.underlying9
  · refine run_convert_bytes_arg w 54 5 Try.underlying54 Try.underlying5 g 0 n cap xs hl (fun i hi => ?_) 9 Try.underlying9
    have hc := h.cells (g := g) rfl i (.int .u8 (xs.getD i 0)) (by simp [nb, List.getElem?_eq_getElem (show i < xs.length by omega), List.getD_eq_getElem?_getD])
    have ha : (⟨g, 0, none⟩ : Addr).add i = ⟨g, 0 + i, none⟩ := by unfold Addr.add; split <;> simp_all
    rwa [ha] at hc
theorem pstring_any (S B : Nat) (ob : Option Nat) (xs : List Int) (w : World) (hP : Pen w S B ob xs) :
    Calls Try.prog 50 #[.pointer (some ⟨B, 0, none⟩)] w fun e w' => e = .returned (.string (strOfNums xs)) ∧ w = w' := by
  obtain ⟨v, hb, ho, rfl⟩ := hP.has
  have hc := hb.cell (j := 0) (v := v) rfl
  have hcv := own_text ho
  obtain ⟨A, c, rfl⟩ := own_shape ho
  clear hP ho
  go_enter Try.func50, Try.ntmps50
  go_wp2_with fail
  go_ret
  exact ⟨rfl, rfl⟩
theorem newPen_any (w : World) :
    Calls Try.prog 48 #[] w fun e w' => e = .returned (.pointer (some ⟨w.heap.size, 0, none⟩)) ∧ w' = w.alloc (.cells #[.slice none 0 0] 137) := by
  go_enter Try.func48, Try.ntmps48
  go_wp2_with fail
  go_ret
  exact ⟨rfl, rfl⟩
theorem newPen_pen (w : World) (S : Nat) (hS : S ≤ w.heap.size) : Pen (w.alloc (.cells #[.slice none 0 0] 137)) S w.heap.size none [] :=
  ⟨⟨_, Blk.new w _ 137, World.ownsRow_nil _ _ _ _, rfl⟩, by simp, hS⟩
end Go.Proofs.Ytdhfkcodacmbfaa
