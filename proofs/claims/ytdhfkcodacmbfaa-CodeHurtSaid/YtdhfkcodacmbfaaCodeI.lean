/- Programs (code): a program's bytes. -/
import Derived.Test.YtdhfkcodacmbfaaCodeE
import Derived.Test.YtdhfkcodacmbfaaOct
import Derived.Deep.RegionHeld3
import Derived.Laws.Concat
import Derived.Test.YtdhfkcodacmbfaaCrcE
set_option linter.unusedVariables false
set_option linter.unusedSimpArgs false
namespace Go.Proofs.Ytdhfkcodacmbfaa
open Go.RowKit

def encI (i : InstrS) : List Int := [i.op % 256, i.kind % 256, i.area % 256, i.at_ % 256, i.n % 4294967296 / 16777216, i.n % 4294967296 / 65536 % 256, i.n % 4294967296 / 256 % 256, i.n % 4294967296 % 256]
def plainL (l : List InstrS) : List Int := ((l.length : Int) % 256) :: l.flatMap encI
def plainS (l : List InstrS) : ByteArray := strOfNums (plainL l)
theorem enc_len (l : List InstrS) : (l.flatMap encI).length = l.length * 8 := by
  induction l with
  | nil => rfl
  | cons i l ih => simp [encI] at ih ⊢; omega
/-- A pen in block B, made behind w0, and a box of an instruction beside it (block N); nothing of w0 is turned. -/
structure PK (w0 : World) (B N : Nat) (cs : Array Value) (xs : List Int) (w : World) : Prop where
  has : ∃ ob, Pen w w0.heap.size B ob xs ∧ Blk w N cs 174 ∧ N ≠ B ∧ ob ≠ some N
  bel : Below w0.heap.size w0 w
theorem PK.to {w0 w w' : World} {B N : Nat} {cs : Array Value} {ob : Option Nat} {xs ys : List Int} (h : Pen w w0.heap.size B ob xs) (x : Blk w N cs 174) (n1 : N ≠ B) (n2 : ob ≠ some N) (b : Below w0.heap.size w0 w) (k : PenTo w w' w0.heap.size B ob ys) : PK w0 B N cs ys w' := by
  obtain ⟨ob', hp, near⟩ := k.to
  refine ⟨⟨ob', hp, k.kept.blk x n1 (fun e => n2 e.symm), n1, ?_⟩, k.kept.below b b.size h.base (fun j e => (h.row j e).1)⟩
  rcases near with rfl | ⟨g, rfl, hg⟩
  · exact n2
  · intro e
    injection e with e
    have := x.lt
    omega
theorem PK.drew {w0 w : World} {B N : Nat} {cs : Array Value} {xs : List Int} (h : PK w0 B N cs xs w) : PK w0 B N cs xs w.drew := by
  obtain ⟨ob, hp, hx, n1, n2⟩ := h.has
  exact ⟨⟨ob, hp.keep (fun _ _ _ => rfl), hx.drew, n1, n2⟩, h.bel.drew⟩
theorem pbyte_pk (w0 : World) (B N : Nat) (cs : Array Value) (xs : List Int) (n : Int) (w : World) (h : PK w0 B N cs xs w ∧ xs.length ≤ 100000) :
    Calls Try.prog 103 #[.pointer (some ⟨B, 0, none⟩), .int .u8 n] w fun e w' => e = .returned (.pointer (some ⟨B, 0, none⟩)) ∧ PK w0 B N cs (xs ++ [n]) w' := by
  obtain ⟨ob, hp, hx, n1, n2⟩ := h.1.has
  exact (pbyte_any _ B ob xs n w hp (by have := h.2; omega)).mono fun e w' ⟨he, hk⟩ => ⟨he, PK.to hp hx n1 n2 h.1.bel hk⟩
theorem pfour_pk (w0 : World) (B N : Nat) (cs : Array Value) (xs : List Int) (n : Int) (w : World) (h : (PK w0 B N cs xs w ∧ xs.length ≤ 100000) ∧ 0 ≤ n ∧ n < 4294967296) :
    Calls Try.prog 105 #[.pointer (some ⟨B, 0, none⟩), .int .u32 n] w fun e w' => e = .returned (.pointer (some ⟨B, 0, none⟩)) ∧ PK w0 B N cs (xs ++ [n / 16777216, n / 65536 % 256, n / 256 % 256, n % 256]) w' := by
  obtain ⟨ob, hp, hx, n1, n2⟩ := h.1.1.has
  exact (pfour_any _ B ob xs n w hp (by have := h.1.2; omega) h.2.1 h.2.2).mono fun e w' ⟨he, hk⟩ => ⟨he, PK.to hp hx n1 n2 h.1.1.bel hk⟩
def ICells (w : World) (N : Nat) (i : InstrS) : Prop := w.cell? ⟨N, 0, none⟩ = some (.int .i64 i.op) ∧ w.cell? ⟨N, 1, none⟩ = some (.int .i64 i.kind) ∧ w.cell? ⟨N, 2, none⟩ = some (.int .i64 i.area) ∧ w.cell? ⟨N, 3, none⟩ = some (.int .i64 i.at_) ∧ w.cell? ⟨N, 4, none⟩ = some (.int .i64 i.n)
theorem PK.cells {w0 w : World} {B N : Nat} {i : InstrS} {xs : List Int} (h : PK w0 B N i.cells xs w) : w.cell? ⟨N, 0, none⟩ = some (.int .i64 i.op) ∧ w.cell? ⟨N, 1, none⟩ = some (.int .i64 i.kind) ∧ w.cell? ⟨N, 2, none⟩ = some (.int .i64 i.area) ∧ w.cell? ⟨N, 3, none⟩ = some (.int .i64 i.at_) ∧ w.cell? ⟨N, 4, none⟩ = some (.int .i64 i.n) := by
  obtain ⟨ob, hp, hx, n1, n2⟩ := h.has
  exact ⟨hx.cell rfl, hx.cell rfl, hx.cell rfl, hx.cell rfl, hx.cell rfl⟩
theorem pen_box {w0 w : World} {B : Nat} {ob : Option Nat} {xs : List Int} (h : Pen w w0.heap.size B ob xs) (b : Below w0.heap.size w0 w) (cs : Array Value) : PK w0 B w.heap.size cs xs (w.alloc (.cells cs 174)) := by
  refine ⟨⟨ob, h.below ((Below.refl _ _).alloc (Nat.le_refl _) _), Blk.new w cs 174, ?_, ?_⟩, b.alloc b.size _⟩
  · have := h.lt
    omega
  · intro e
    exact absurd (h.row _ e).2 (Nat.lt_irrefl _)
set_option maxRecDepth 100000 in
set_option maxHeartbeats 4000000 in
theorem plain_any (A : Option Addr) (l : List InstrS) (cap : Nat) (w : World) (hI : InsR w A l) (hl : l.length ≤ 200) :
    Calls Try.prog 137 #[.slice A l.length cap] w fun e w' => e = .returned (.string (plainS l)) ∧ Below w.heap.size w w' := by
  have HI := Lib.hid hI
  have HN := Lib.hid (fun W => newPen_any W)
  have HP0 := Lib.hid (newPen_pen w w.heap.size (Nat.le_refl _))
  have HB0 := Lib.hid (fun W hW => pbyte_any w.heap.size w.heap.size none [] ((l.length : Int) % 256) W hW (by simp))
  have HST := Lib.hid (fun ob W hW => pstring_any w.heap.size w.heap.size ob (plainL l) W hW)
  have h256 : IntKind.u8.wrap (l.length : Int) = (l.length : Int) % 256 := by simp [IntKind.wrap, IntKind.bits, IntKind.signed]
  clear hI
  go_enter Try.func137, Try.ntmps137
  go_wp2_with fail
  refine (HN.out _).mono ?_
  rintro e w1 ⟨rfl, rfl⟩
  go_wp2_with fail
  refine (HB0.out _ HP0.out).mono ?_
  rintro e w2 ⟨rfl, ⟨ob1, hP1, near1⟩, kept1⟩
  have hb2 : Below w.heap.size w w2 := kept1.below ((Below.refl _ _).alloc (Nat.le_refl _) _) (by simp) (Nat.le_refl _) (fun k e => by cases e)
  clear near1 kept1
  have H1 := Lib.hid hP1
  have Hb := Lib.hid hb2
  clear hP1 hb2
  go_wp2_with fail
  generalize hB : w.heap.size = B at *
  have hB2 := Lib.hid hB
  clear hB
  go_loopw [13] (fun x wr => ∃ (k : Nat) (ob : Option Nat), k ≤ l.length ∧ x = .int .i64 k ∧ Pen wr B B ob (((l.length : Int) % 256) :: (l.take k).flatMap encI) ∧ Below B w wr) (fun x _ => l.length - (intOf x).toNat)
  case atStart => exact ⟨0, ob1, by omega, rfl, H1.out, Hb.out⟩
  case round =>
    clear H1 Hb
    obtain ⟨k, ob, hk, rfl, hP, b⟩ := hrel
    by_cases hlt : k < l.length
    · have hltz : (k : Int) < (l.length : Int) := by omega
      obtain ⟨i, hi, oki⟩ := HI.out.get hlt
      have htk : l.take (k + 1) = l.take k ++ [i] := by
        rw [List.take_succ_eq_append_getElem hlt]
        have := (List.getElem?_eq_some_iff.1 hi).2
        rw [this]
      obtain ⟨g, off, rfl, c0, c1, c2, c3, c4⟩ := (HI.out.keep (by rw [hB2.out]; exact b)).at_ k i hi
      have hxl : (((l.length : Int) % 256) :: (l.take k).flatMap encI).length ≤ 1700 := by
        rw [List.length_cons, enc_len, List.length_take]
        omega
      have hfin : (((l.length : Int) % 256) :: (l.take (k + 1)).flatMap encI) = (((l.length : Int) % 256) :: (l.take k).flatMap encI) ++ encI i := by
        rw [htk, List.flatMap_append]
        simp
      have HF := Lib.hid hfin
      clear hfin htk hi
      generalize (((l.length : Int) % 256) :: (l.take k).flatMap encI) = xs at *
      have hpk : PK w B wr.heap.size i.cells xs (wr.alloc (.cells i.cells 174)) := pen_box (w0 := w) (by rw [hB2.out]; exact hP) (by rw [hB2.out]; exact b) i.cells
      have HCE := Lib.hid (fun W xs' (hW : PK w B wr.heap.size i.cells xs' W) => hW.cells)
      have HPB := Lib.hid (fun xs' n W hW => pbyte_pk w B wr.heap.size i.cells xs' n W hW)
      have HPF := Lib.hid (fun xs' n W hW => pfour_pk w B wr.heap.size i.cells xs' n W hW)
      have w8 : ∀ x : Int, IntKind.u8.wrap x = x % 256 := fun x => by simp [IntKind.wrap, IntKind.bits, IntKind.signed]
      have w32 : ∀ x : Int, IntKind.u32.wrap x = x % 4294967296 := fun x => by simp [IntKind.wrap, IntKind.bits, IntKind.signed]
      have hn0 : 0 ≤ i.n % 4294967296 := by omega
      have hn1 : i.n % 4294967296 < 4294967296 := by omega
      have Hpk := Lib.hid hpk
      unfold InstrS.cells at Hpk HCE HPB HPF
      clear hpk hP b oki
      go_wp2_with fail
      have hq := Hpk.out
      have hE := Lib.hid (show encI i = [i.op % 256, i.kind % 256, i.area % 256, i.at_ % 256, i.n % 4294967296 / 16777216, i.n % 4294967296 / 65536 % 256, i.n % 4294967296 / 256 % 256, i.n % 4294967296 % 256] from rfl)
      generalize wr.alloc (.cells #[.int .i64 i.op, .int .i64 i.kind, .int .i64 i.area, .int .i64 i.at_, .int .i64 i.n] 174) = w3 at *
      obtain ⟨d0, d1, d2, d3, d4⟩ := HCE.out _ _ hq
      go_region_held3 (fun W => W.cell? ⟨wr.heap.size, 0, none⟩ = some (.int .i64 i.op) ∧ W.cell? ⟨wr.heap.size, 1, none⟩ = some (.int .i64 i.kind) ∧ W.cell? ⟨wr.heap.size, 2, none⟩ = some (.int .i64 i.area) ∧ W.cell? ⟨wr.heap.size, 3, none⟩ = some (.int .i64 i.at_) ∧ W.cell? ⟨wr.heap.size, 4, none⟩ = some (.int .i64 i.n))
        ((first | assumption | exact HCE.out _ _ (by assumption) | exact HCE.out _ _ (PK.drew (by assumption))))
        (first | (go_at_call 103; (with_reducible refine (HPB.out _ _ _ ⟨by first | assumption | exact PK.drew (by assumption), by first | omega | (simp; omega)⟩).mono ?_); rintro e w9 ⟨rfl, hz⟩) | (go_at_call 105; (with_reducible refine (HPF.out _ _ _ ⟨⟨by first | assumption | exact PK.drew (by assumption), by first | omega | (simp; omega)⟩, by assumption, by assumption⟩).mono ?_); rintro e w9 ⟨rfl, hz⟩))
      obtain ⟨ob', hp', _, _, _⟩ := hz.has
      have hb' := hz.bel
      rw [hB2.out] at hp' hb'
      have hpf : Pen w9 B B ob' (xs ++ encI i) := by
        rw [hE.out]
        simpa using hp'
      rw [← HF.out] at hpf
      have HPF2 := Lib.hid hpf
      have Hb2 := Lib.hid hb'
      clear hz hp' hb' hpf d0 d1 d2 d3 d4 hq w8 w32
      go_wp2_with fail
      go_roundw
      case rel => exact ⟨k + 1, ob', by omega, by go_num, HPF2.out, Hb2.out⟩
      case measure => simp [intOf]; omega
    · obtain rfl : k = l.length := by omega
      have hltz : ¬ (l.length : Int) < (l.length : Int) := by omega
      rw [List.take_length] at hP
      have hst := HST.out ob wr hP
      have HS := Lib.hid hst
      clear hst hP
      go_wp2_with fail
      refine (HS.out).mono ?_
      rintro e w4 ⟨rfl, rfl⟩
      go_wp2_with fail
      go_ret
      exact ⟨rfl, by rw [hB2.out]; exact b⟩
end Go.Proofs.Ytdhfkcodacmbfaa

/- Programs (code): a program's bytes, as the document has them. -/
set_option linter.unusedVariables false
set_option linter.unusedSimpArgs false
namespace Go.Proofs.Ytdhfkcodacmbfaa
open Go.RowKit

theorem wf_range64 {n : Int} (h : (Lit.int .i64 n).wf = true) : -9223372036854775808 ≤ n ∧ n ≤ 9223372036854775807 := by
  simp [Lit.wf, IntKind.min, IntKind.max, IntKind.signed, IntKind.bits] at h
  omega
/-- The box of an instruction in block N; nothing of w0 is turned. -/
structure SI (w0 : World) (N : Nat) (i : InstrS) (w : World) : Prop where
  blk : Blk w N i.cells 174
  bel : Below w0.heap.size w0 w
theorem SI.drew {w0 w : World} {N : Nat} {i : InstrS} (h : SI w0 N i w) : SI w0 N i w.drew := ⟨h.blk.drew, h.bel.drew⟩
theorem SI.below {w0 w w' : World} {N : Nat} {i : InstrS} (h : SI w0 N i w) (b : Below w.heap.size w w') : SI w0 N i w' := ⟨h.blk.keep b, below_then h.bel b⟩
theorem SI.cells {w0 w : World} {N : Nat} {i : InstrS} (h : SI w0 N i w) : w.cell? ⟨N, 0, none⟩ = some (.int .i64 i.op) ∧ w.cell? ⟨N, 1, none⟩ = some (.int .i64 i.kind) ∧ w.cell? ⟨N, 2, none⟩ = some (.int .i64 i.area) ∧ w.cell? ⟨N, 3, none⟩ = some (.int .i64 i.at_) ∧ w.cell? ⟨N, 4, none⟩ = some (.int .i64 i.n) ∧ SI w0 N i w := ⟨h.blk.cell rfl, h.blk.cell rfl, h.blk.cell rfl, h.blk.cell rfl, h.blk.cell rfl, h⟩
theorem SI.of {a b c d e : Prop} {w0 w : World} {N : Nat} {i : InstrS} (h : a ∧ b ∧ c ∧ d ∧ e ∧ SI w0 N i w) : SI w0 N i w := h.2.2.2.2.2
set_option maxRecDepth 100000 in
set_option maxHeartbeats 8000000 in
theorem rplain_any (A : Option Addr) (l : List InstrS) (cap : Nat) (w : World) (hI : InsR w A l) (hl : l.length ≤ 1000) :
    Calls Try.prog 98 #[.slice A l.length cap] w fun e w' => e = .returned (.string (plainS l)) ∧ Below w.heap.size w w' := by
  have HI := Lib.hid hI
  have HB0 : Hid (∀ W, Calls Try.prog 104 #[.int .u32 (l.length : Int), .int .i64 1] W fun e w' => e = .returned (.string (strOfNums [(l.length : Int) % 256])) ∧ Below W.heap.size W w') := fun W => bytes1_any (l.length : Int) W (by omega) (by omega)
  have HPL := Lib.hid (show plainS l = strOfNums (plainL l) from rfl)
  have HLL := Lib.hid (show plainL l = ((l.length : Int) % 256) :: l.flatMap encI from rfl)
  have hll : (l.length : Int) < 4294967296 := by omega
  clear hI
  generalize plainS l = out at *
  go_enter Try.func98, Try.ntmps98
  go_wp2_with fail
  refine (HB0.out _).mono ?_
  rintro e w1 ⟨rfl, b⟩
  have Hb := Lib.hid b
  clear b
  go_wp2_with fail
  go_loopw [3, 4] (fun s x wr => ∃ (k : Nat), k ≤ l.length ∧ x = .int .i64 k ∧ s = .string (strOfNums (((l.length : Int) % 256) :: (l.take k).flatMap encI)) ∧ Below w.heap.size w wr) (fun _ x _ => l.length - (intOf x).toNat)
  case atStart => exact ⟨0, by omega, rfl, rfl, Hb.out⟩
  case round =>
    clear Hb
    obtain ⟨k, hk, rfl, rfl, b⟩ := hrel
    by_cases hlt : k < l.length
    · have hltz : (k : Int) < (l.length : Int) := by omega
      obtain ⟨i, hi, oki⟩ := HI.out.get hlt
      have hn := wf_range64 oki.n
      have htk : l.take (k + 1) = l.take k ++ [i] := by
        rw [List.take_succ_eq_append_getElem hlt]
        have := (List.getElem?_eq_some_iff.1 hi).2
        rw [this]
      obtain ⟨g, off, rfl, c0, c1, c2, c3, c4⟩ := (HI.out.keep b).at_ k i hi
      have hxl : (((l.length : Int) % 256) :: (l.take k).flatMap encI).length ≤ 9000 := by
        rw [List.length_cons, enc_len, List.length_take]
        omega
      have hfin : (((l.length : Int) % 256) :: (l.take (k + 1)).flatMap encI) = (((l.length : Int) % 256) :: (l.take k).flatMap encI) ++ encI i := by
        rw [htk, List.flatMap_append]
        simp
      have HF := Lib.hid hfin
      clear hfin htk hi
      generalize (((l.length : Int) % 256) :: (l.take k).flatMap encI) = xs at *
      have hB4 : ∀ W, Calls Try.prog 104 #[.int .u32 (i.n % 4294967296), .int .i64 4] W fun e w' => e = .returned (.string (strOfNums [i.n % 4294967296 / 16777216, i.n % 4294967296 / 65536 % 256, i.n % 4294967296 / 256 % 256, i.n % 4294967296 % 256])) ∧ Below W.heap.size W w' := fun W => bytes4_any (i.n % 4294967296) W (by omega) (by omega)
      have hA : ∀ (ys zs : List Int), ys.length ≤ 9100 → zs.length ≤ 4 → ∀ W, (Op.stringOp .add (strOfNums ys) (strOfNums zs)).run Try.prog W = .ok (.string (strOfNums (ys ++ zs))) W := fun ys zs h1 h2 W => by
        rw [run_string_add_sum W _ _ (by rw [strOfNums_size, strOfNums_size]; omega), strOfNums_append]
      have a1 := hA xs [i.op % 256] (by omega) (by simp)
      have a2 := hA (xs ++ [i.op % 256]) [i.kind % 256] (by simp; omega) (by simp)
      have a3 := hA (xs ++ [i.op % 256] ++ [i.kind % 256]) [i.area % 256] (by simp; omega) (by simp)
      have a4 := hA (xs ++ [i.op % 256] ++ [i.kind % 256] ++ [i.area % 256]) [i.at_ % 256] (by simp; omega) (by simp)
      have a5 := hA (xs ++ [i.op % 256] ++ [i.kind % 256] ++ [i.area % 256] ++ [i.at_ % 256]) [i.n % 4294967296 / 16777216, i.n % 4294967296 / 65536 % 256, i.n % 4294967296 / 256 % 256, i.n % 4294967296 % 256] (by simp; omega) (by simp)
      clear hA
      have hXX : encI i = [i.op % 256] ++ [i.kind % 256] ++ [i.area % 256] ++ [i.at_ % 256] ++ [i.n % 4294967296 / 16777216, i.n % 4294967296 / 65536 % 256, i.n % 4294967296 / 256 % 256, i.n % 4294967296 % 256] := rfl
      have q4 : ([i.n % 4294967296 / 16777216, i.n % 4294967296 / 65536 % 256, i.n % 4294967296 / 256 % 256, i.n % 4294967296 % 256]).length ≤ 4 := by simp
      generalize [i.n % 4294967296 / 16777216, i.n % 4294967296 / 65536 % 256, i.n % 4294967296 / 256 % 256, i.n % 4294967296 % 256] = q at *
      have HB4 := Lib.hid hB4
      clear hB4 q4
      generalize ho1 : xs ++ [i.op % 256] = o1 at *
      generalize ho2 : o1 ++ [i.kind % 256] = o2 at *
      generalize ho3 : o2 ++ [i.area % 256] = o3 at *
      generalize ho4 : o3 ++ [i.at_ % 256] = o4 at *
      generalize ho5 : o4 ++ q = o5 at *
      have HO := Lib.hid (show o5 = xs ++ encI i by rw [← ho5, ← ho4, ← ho3, ← ho2, ← ho1, hXX]; simp)
      clear ho1 ho2 ho3 ho4 ho5 hXX
      have HSI := Lib.hid (show SI w wr.heap.size i (wr.alloc (.cells i.cells 174)) from ⟨Blk.new wr _ _, b.alloc b.size _⟩)
      have HCE := Lib.hid (fun W (hW : SI w wr.heap.size i W) => hW.cells)
      have w32 : ∀ x : Int, IntKind.u32.wrap x = x % 4294967296 := fun x => by simp [IntKind.wrap, IntKind.bits, IntKind.signed]
      have HB1 : Hid (∀ (x : Int) W, Calls Try.prog 104 #[.int .u32 (x % 4294967296), .int .i64 1] W fun e w' => e = .returned (.string (strOfNums [x % 256])) ∧ Below W.heap.size W w') := fun x W => by
        have h := bytes1_any (x % 4294967296) W (by omega) (by omega)
        rw [show x % 4294967296 % 256 = x % 256 by omega] at h
        exact h
      unfold InstrS.cells at HSI
      clear b oki
      have hms : (i.n + 4294967296) % 4294967296 = i.n % 4294967296 := by omega
      by_cases hneg : i.n < 0
      · go_wp2_with fail
        have hq := HSI.out
        generalize wr.alloc (.cells #[.int .i64 i.op, .int .i64 i.kind, .int .i64 i.area, .int .i64 i.at_, .int .i64 i.n] 174) = w3 at *
        obtain ⟨d0, d1, d2, d3, d4, _⟩ := HCE.out _ hq
        go_region_held3 (fun W => W.cell? ⟨wr.heap.size, 0, none⟩ = some (.int .i64 i.op) ∧ W.cell? ⟨wr.heap.size, 1, none⟩ = some (.int .i64 i.kind) ∧ W.cell? ⟨wr.heap.size, 2, none⟩ = some (.int .i64 i.area) ∧ W.cell? ⟨wr.heap.size, 3, none⟩ = some (.int .i64 i.at_) ∧ W.cell? ⟨wr.heap.size, 4, none⟩ = some (.int .i64 i.n) ∧ SI w wr.heap.size i W)
          ((refine HCE.out _ ?_; first | assumption | (refine SI.drew ?_; assumption)))
          (first | (go_at_call 104; (with_reducible refine (HB1.out _ _).mono ?_); rintro e w9 ⟨rfl, b9⟩; have hS9 := SI.below (SI.of (by assumption)) b9) | (go_at_call 104; (with_reducible refine (HB4.out _).mono ?_); rintro e w9 ⟨rfl, b9⟩; have hS9 := SI.below (SI.of (by assumption)) b9))
        go_wp2_with fail
        go_roundw
        case rel => exact ⟨k + 1, by omega, by go_num, by rw [HF.out, ← HO.out], by refine SI.bel (N := wr.heap.size) (i := i) ?_; first | assumption | (refine SI.drew ?_; assumption)⟩
        case measure => simp [intOf]; omega
      · go_wp2_with fail
        have hq := HSI.out
        generalize wr.alloc (.cells #[.int .i64 i.op, .int .i64 i.kind, .int .i64 i.area, .int .i64 i.at_, .int .i64 i.n] 174) = w3 at *
        obtain ⟨d0, d1, d2, d3, d4, _⟩ := HCE.out _ hq
        go_region_held3 (fun W => W.cell? ⟨wr.heap.size, 0, none⟩ = some (.int .i64 i.op) ∧ W.cell? ⟨wr.heap.size, 1, none⟩ = some (.int .i64 i.kind) ∧ W.cell? ⟨wr.heap.size, 2, none⟩ = some (.int .i64 i.area) ∧ W.cell? ⟨wr.heap.size, 3, none⟩ = some (.int .i64 i.at_) ∧ W.cell? ⟨wr.heap.size, 4, none⟩ = some (.int .i64 i.n) ∧ SI w wr.heap.size i W)
          ((refine HCE.out _ ?_; first | assumption | (refine SI.drew ?_; assumption)))
          (first | (go_at_call 104; (with_reducible refine (HB1.out _ _).mono ?_); rintro e w9 ⟨rfl, b9⟩; have hS9 := SI.below (SI.of (by assumption)) b9) | (go_at_call 104; (with_reducible refine (HB4.out _).mono ?_); rintro e w9 ⟨rfl, b9⟩; have hS9 := SI.below (SI.of (by assumption)) b9))
        go_wp2_with fail
        go_roundw
        case rel => exact ⟨k + 1, by omega, by go_num, by rw [HF.out, ← HO.out], by refine SI.bel (N := wr.heap.size) (i := i) ?_; first | assumption | (refine SI.drew ?_; assumption)⟩
        case measure => simp [intOf]; omega
    · obtain rfl : k = l.length := by omega
      have hltz : ¬ (l.length : Int) < (l.length : Int) := by omega
      rw [List.take_length, ← HLL.out, ← HPL.out]
      go_wp2_with fail
      go_ret
      exact ⟨rfl, b⟩
end Go.Proofs.Ytdhfkcodacmbfaa

/- Programs (code): an encoding, a stamp. -/
set_option linter.unusedVariables false
set_option linter.unusedSimpArgs false
namespace Go.Proofs.Ytdhfkcodacmbfaa
open Go.RowKit

theorem plain_size (l : List InstrS) : (plainS l).size = l.length * 8 + 1 := by
  rw [plainS, strOfNums_size, plainL, List.length_cons, enc_len]
theorem codeE_len {l : List InstrS} (h : codeE l = 0) : l.length ≤ 200 := by
  unfold codeE at h
  split at h
  · omega
  · omega
def encS (l : List InstrS) : ByteArray := if codeE l = 0 then sealS (plainS l) else ⟨#[]⟩
def stampS (l : List InstrS) : Int := if codeE l = 0 then moreI 65535 (plainS l).data.toList else 0
set_option maxRecDepth 100000 in
theorem encode_any (A : Option Addr) (l : List InstrS) (cap : Nat) (w : World) (hI : InsR w A l) (hl : l.length ≤ 9223372036854775807) :
    Calls Try.prog 95 #[.slice A l.length cap] w fun e w' => e = .returned (.tuple #[.string (encS l), .int .i64 (codeE l)]) ∧ Below w.heap.size w w' := by
  have HE := Lib.hid (cright_any A l cap w hI hl)
  unfold encS
  by_cases h : codeE l = 0
  · rw [if_pos h]
    have hlen := codeE_len h
    have HP := Lib.hid (fun W (hW : InsR W A l) => plain_any A l cap W hW hlen)
    have HS := Lib.hid (fun W => sealed_any (plainS l) W (by rw [plain_size]; omega))
    have HI := Lib.hid hI
    rw [h] at HE
    rw [h]
    clear hI h hlen
    generalize plainS l = p at *
    generalize sealS p = q at *
    go_enter Try.func95, Try.ntmps95
    go_wp2_with fail
    refine (HE.out).mono ?_
    rintro e w1 ⟨rfl, b⟩
    go_wp2_with fail
    refine (HP.out _ (HI.out.keep b)).mono ?_
    rintro e w2 ⟨rfl, b2⟩
    replace b := below_then b b2
    clear b2
    go_wp2_with fail
    refine (HS.out _).mono ?_
    rintro e w3 ⟨rfl, b2⟩
    replace b := below_then b b2
    go_wp2_with fail
    go_ret2
    exact ⟨rfl, b⟩
  · rw [if_neg h]
    generalize codeE l = E at *
    clear hI
    go_enter Try.func95, Try.ntmps95
    go_wp2_with fail
    refine (HE.out).mono ?_
    rintro e w1 ⟨rfl, b⟩
    go_wp2_with fail
    go_ret2
    exact ⟨rfl, b⟩
set_option maxRecDepth 100000 in
theorem stamp_any (A : Option Addr) (l : List InstrS) (cap : Nat) (w : World) (hI : InsR w A l) (hl : l.length ≤ 9223372036854775807) :
    Calls Try.prog 97 #[.slice A l.length cap] w fun e w' => e = .returned (.int .u16 (stampS l)) ∧ Below w.heap.size w w' := by
  have HE := Lib.hid (cright_any A l cap w hI hl)
  unfold stampS
  by_cases h : codeE l = 0
  · rw [if_pos h]
    have hlen := codeE_len h
    have HP := Lib.hid (fun W (hW : InsR W A l) => plain_any A l cap W hW hlen)
    have HS := Lib.hid (fun W => sum_any (plainS l) W (by rw [plain_size]; omega))
    have HI := Lib.hid hI
    rw [h] at HE
    clear hI h hlen
    generalize moreI 65535 (plainS l).data.toList = m at *
    generalize plainS l = p at *
    go_enter Try.func97, Try.ntmps97
    go_wp2_with fail
    refine (HE.out).mono ?_
    rintro e w1 ⟨rfl, b⟩
    go_wp2_with fail
    refine (HP.out _ (HI.out.keep b)).mono ?_
    rintro e w2 ⟨rfl, b2⟩
    replace b := below_then b b2
    clear b2
    go_wp2_with fail
    refine (HS.out _).mono ?_
    rintro e w3 ⟨rfl, rfl⟩
    go_wp2_with fail
    go_ret
    exact ⟨rfl, b⟩
  · rw [if_neg h]
    generalize codeE l = E at *
    clear hI
    go_enter Try.func97, Try.ntmps97
    go_wp2_with fail
    refine (HE.out).mono ?_
    rintro e w1 ⟨rfl, b⟩
    go_wp2_with fail
    go_ret
    exact ⟨rfl, b⟩
end Go.Proofs.Ytdhfkcodacmbfaa
