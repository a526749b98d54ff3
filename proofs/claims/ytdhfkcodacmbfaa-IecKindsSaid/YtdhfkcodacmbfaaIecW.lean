/- The kind of a name (iec.Named), and the walk of the law IecKinds. -/
import Derived.Test.YtdhfkcodacmbfaaIecQ
set_option linter.unusedVariables false
set_option linter.unusedSimpArgs false
namespace Go.Proofs.Ytdhfkcodacmbfaa
open Go.RowKit

theorem named_row (W : World) (B : Nat) (h : Blk W B kcells 164) (j : Nat) (hj : j < 8) :
    W.cell? ⟨B, j * 4, none⟩ = some (.string (kname (j : Int))) ∧ W.cell? ⟨B, j * 4 + 1, none⟩ = some (.int .i64 (ksize (j : Int))) ∧ W.cell? ⟨B, j * 4 + 2, none⟩ = some (.bool (ksign (j : Int))) ∧ W.cell? ⟨B, j * 4 + 3, none⟩ = some (.bool (kbits (j : Int))) := by
  have hc : j = 0 ∨ j = 1 ∨ j = 2 ∨ j = 3 ∨ j = 4 ∨ j = 5 ∨ j = 6 ∨ j = 7 := by omega
  refine ⟨h.cell ?_, h.cell ?_, h.cell ?_, h.cell ?_⟩ <;> rcases hc with rfl | rfl | rfl | rfl | rfl | rfl | rfl | rfl <;> rfl
set_option maxRecDepth 100000 in
theorem named_clos (s name : ByteArray) (z : Int) (p q : Bool) (w : World) (B : Nat) (hc : w.cell? ⟨B, 0, none⟩ = some (.string name)) (hB : B < w.heap.size) :
    Calls Try.prog 134 #[.agg #[.string s, .int .i64 z, .bool p, .bool q], .pointer (some ⟨B, 0, none⟩)] w fun e w' => e = .returned (.bool (s.toList == name.toList)) ∧ Below w.heap.size w w' := by
  have hne : B ≠ w.heap.size := by omega
  go_enter Try.func134, Try.ntmps134
  go_wp2_with fail
  go_ret
  exact ⟨rfl, (Below.refl _ _).alloc (Nat.le_refl _) _⟩
/-- The place of a name among the kinds' names, from the jth on; -1: it is none of them. -/
def idxT (l : List UInt8) : Nat → Nat → Int
  | 0, _ => -1
  | n + 1, j => if (kname j).toList = l then (j : Int) else idxT l n (j + 1)
def idxK (name : ByteArray) (n j : Nat) : Int := idxT name.toList n j
theorem idxK_hit {name : ByteArray} {n j : Nat} (h : (kname j).toList = name.toList) : idxK name (n + 1) j = j := by
  unfold idxK idxT
  rw [if_pos h]
theorem idxK_miss {name : ByteArray} {n j : Nat} (h : ¬ (kname j).toList = name.toList) : idxK name (n + 1) j = idxK name n (j + 1) := by
  rw [show idxK name (n + 1) j = (if (kname j).toList = name.toList then (j : Int) else idxK name n (j + 1)) from rfl, if_neg h]
/-- The names lie in block B, the name in block N; nothing that was there is turned. -/
structure SN (w0 : World) (B N : Nat) (name : ByteArray) (w : World) : Prop where
  rows : Blk w B kcells 164
  nm : w.cell? ⟨N, 0, none⟩ = some (.string name)
  lt : N < w.heap.size
  bel : Below w0.heap.size w0 w
theorem SN.below {w0 : World} {B N : Nat} {name : ByteArray} {w w' : World} (h : SN w0 B N name w) (b : Below w.heap.size w w') : SN w0 B N name w' :=
  ⟨h.rows.keep b, (b.cell (p := ⟨N, 0, none⟩) h.lt).trans h.nm, Nat.lt_of_lt_of_le h.lt b.size, below_then h.bel b⟩
set_option maxRecDepth 100000 in
set_option maxHeartbeats 1000000 in
theorem index_any (w0 : World) (B N : Nat) (name : ByteArray) (w : World) (h : SN w0 B N name w) :
    Calls Try.prog 132 #[.slice (some ⟨B, 0, none⟩) 8 8, .func (.func 134) #[] #[.pointer (some ⟨N, 0, none⟩)]] w fun e w' => e = .returned (.int .i64 (idxK name 8 0)) ∧ SN w0 B N name w' := by
  go_enter Try.func132, Try.ntmps132
  go_wp2_with fail
  go_loopg [5, 8] 8 (fun gg _ s8 wr => ∃ k : Nat, k ≤ 8 ∧ 8 - k ≤ gg ∧ s8 = .int .i64 k ∧ Aside (SN w0 B N name wr) ∧ Aside (idxK name 8 0 = idxK name (8 - k) k))
  case atStart => exact ⟨0, Nat.zero_le _, by omega, rfl, h, rfl⟩
  case round =>
    obtain ⟨k, hk, hg, rfl, S, A⟩ := hrel
    by_cases hlt : k < 8
    · have hltz : (k : Int) < 8 := by omega
      obtain ⟨d0, d1, d2, d3⟩ := named_row wr B S.out.rows k hlt
      have hA := Lib.hid A.out
      by_cases hq : (kname k).toList = name.toList
      · have hq' : ((kname k).toList == name.toList) = true := by rw [hq]; simp
        have HC := Lib.hid (named_clos (kname k) name (ksize k) (ksign k) (kbits k) wr N S.out.nm S.out.lt)
        rw [hq'] at HC
        have HQ := Lib.hid hq
        clear hq hq'
        go_wp2_with fail
        refine (HC.out).mono ?_
        rintro e w1 ⟨rfl, b⟩
        go_wp2_with fail
        go_ret
        refine ⟨?_, S.out.below b⟩
        rw [A.out, show 8 - k = (7 - k) + 1 by omega, idxK_hit HQ.out]
        rfl
      · have hq' : ((kname k).toList == name.toList) = false := by simpa using hq
        have HC := Lib.hid (named_clos (kname k) name (ksize k) (ksign k) (kbits k) wr N S.out.nm S.out.lt)
        rw [hq'] at HC
        have HQ := Lib.hid hq
        clear hq hq'
        go_wp2_with fail
        refine (HC.out).mono ?_
        rintro e w1 ⟨rfl, b⟩
        go_wp2_with fail
        go_roundg (8 - (k + 1))
        case measure => omega
        case rel =>
          refine ⟨k + 1, by omega, by omega, by go_num, S.out.below b, ?_⟩
          show idxK name 8 0 = _
          rw [hA.out, show 8 - k = (8 - (k + 1)) + 1 by omega, idxK_miss HQ.out]
    · have hltz : ¬ (k : Int) < 8 := by omega
      have : k = 8 := by omega
      subst this
      go_wp2_with fail
      go_ret
      refine ⟨?_, S.out⟩
      rw [A.out]
      rfl
def namedK (name : ByteArray) : Int × Bool := if idxK name 8 0 < 1 then (0, false) else (idxK name 8 0, true)
theorem idx_range (name : ByteArray) : -1 ≤ idxK name 8 0 ∧ idxK name 8 0 ≤ 7 := by
  have h : ∀ n j, j + n = 8 → -1 ≤ idxK name n j ∧ idxK name n j ≤ 7 := by
    intro n
    induction n with
    | zero => intro j _; exact ⟨by show (-1 : Int) ≤ -1; omega, by show (-1 : Int) ≤ 7; omega⟩
    | succ n ih =>
      intro j hj
      by_cases h : (kname j).toList = name.toList
      · rw [idxK_hit h]; omega
      · rw [idxK_miss h]; exact ih (j + 1) (by omega)
  exact h 8 0 rfl
set_option maxRecDepth 100000 in
theorem named_any (name : ByteArray) (w : World) : Calls Try.prog 87 #[.string name] w fun e w' => e = .returned (.tuple #[.int .i64 (namedK name).1, .bool (namedK name).2]) ∧ Below w.heap.size w w' := by
  have HI := Lib.hid (fun B N W h => index_any w B N name W h)
  have HK := Lib.hid (fun W => kinds_any W)
  have hr := idx_range name
  unfold namedK
  generalize idxK name 8 0 = x at *
  have hb := (Below.refl w.heap.size w).alloc (Nat.le_refl _) (.cells #[.string name] 9)
  have hN : (w.alloc (.cells #[.string name] 9)).cell? ⟨w.heap.size, 0, none⟩ = some (.string name) := (Blk.new w #[.string name] 9).cell rfl
  have hl : w.heap.size < (w.alloc (.cells #[.string name] 9)).heap.size := by rw [World.size_alloc]; omega
  by_cases hx : x < 1
  · rw [if_pos hx]
    go_enter Try.func87, Try.ntmps87
    go_wp2_with fail
    generalize w.alloc (.cells #[.string name] 9) = w1 at *
    refine (HK.out _).mono ?_
    rintro e w2 ⟨rfl, rfl⟩
    have S : SN w w1.heap.size w.heap.size name (w1.alloc (.cells kcells 164)) :=
      ⟨Blk.new _ _ _, (((Below.refl _ _).alloc (Nat.le_refl _) (.cells kcells 164)).cell (p := ⟨w.heap.size, 0, none⟩) hl).trans hN, by rw [World.size_alloc]; omega, hb.alloc hb.size _⟩
    generalize w1.alloc (.cells kcells 164) = w3 at *
    go_wp2_with fail
    refine (HI.out _ _ _ S).mono ?_
    rintro e w4 ⟨rfl, S4⟩
    go_wp2_with fail
    go_ret2
    exact ⟨rfl, S4.bel⟩
  · rw [if_neg hx]
    go_enter Try.func87, Try.ntmps87
    go_wp2_with fail
    generalize w.alloc (.cells #[.string name] 9) = w1 at *
    refine (HK.out _).mono ?_
    rintro e w2 ⟨rfl, rfl⟩
    have S : SN w w1.heap.size w.heap.size name (w1.alloc (.cells kcells 164)) :=
      ⟨Blk.new _ _ _, (((Below.refl _ _).alloc (Nat.le_refl _) (.cells kcells 164)).cell (p := ⟨w.heap.size, 0, none⟩) hl).trans hN, by rw [World.size_alloc]; omega, hb.alloc hb.size _⟩
    generalize w1.alloc (.cells kcells 164) = w3 at *
    go_wp2_with fail
    refine (HI.out _ _ _ S).mono ?_
    rintro e w4 ⟨rfl, S4⟩
    go_wp2_with fail
    go_ret2
    exact ⟨rfl, S4.bel⟩

/-- What the law's loop has found among the first n kinds. -/
def wantT (l : List UInt8) : Nat → Int
  | 0 => 0
  | n + 1 => if (kname ((n + 1 : Nat) : Int)).toList = l then ((n + 1 : Nat) : Int) else wantT l n
def wantK (name : ByteArray) (n : Nat) : Int := wantT name.toList n
theorem want_named (name : ByteArray) : (namedK name).1 = wantK name 7 ∧ (namedK name).2 = decide (0 < wantK name 7) := by
  have hd : (∃ j : Nat, 1 ≤ j ∧ j ≤ 7 ∧ (kname (j : Int)).toList = name.toList) ∨ ∀ j : Nat, 1 ≤ j → j ≤ 7 → ¬ (kname (j : Int)).toList = name.toList := by
    by_cases h : ∃ j : Nat, 1 ≤ j ∧ j ≤ 7 ∧ (kname (j : Int)).toList = name.toList
    · exact .inl h
    · exact .inr fun j h1 h2 h3 => h ⟨j, h1, h2, h3⟩
  unfold namedK
  rcases hd with ⟨j, h1, h7, h⟩ | h
  · have hc : j = 1 ∨ j = 2 ∨ j = 3 ∨ j = 4 ∨ j = 5 ∨ j = 6 ∨ j = 7 := by omega
    unfold idxK wantK
    rw [← h]
    clear h h1 h7
    rcases hc with rfl | rfl | rfl | rfl | rfl | rfl | rfl <;> decide +kernel
  · have m : ∀ n j : Nat, 1 ≤ j → j + n = 8 → idxK name n j = -1 := by
      intro n
      induction n with
      | zero => intro j _ _; rfl
      | succ n ih =>
        intro j hj hn
        rw [idxK_miss (h j hj (by omega))]
        exact ih (j + 1) (by omega) (by omega)
    have q : ∀ n : Nat, n ≤ 7 → wantK name n = 0 := by
      intro n
      induction n with
      | zero => intro _; rfl
      | succ n ih =>
        intro hn
        show (if _ then _ else wantK name n) = 0
        rw [if_neg (h (n + 1) (by omega) hn)]
        exact ih (by omega)
    have hx : idxK name 8 0 < 1 := by
      by_cases h0 : (kname ((0 : Nat) : Int)).toList = name.toList
      · rw [idxK_hit h0]; decide
      · rw [idxK_miss h0, m 7 1 (by omega) rfl]; decide
    rw [if_pos hx, q 7 (by omega)]
    exact ⟨rfl, rfl⟩
end Go.Proofs.Ytdhfkcodacmbfaa
