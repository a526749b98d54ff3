/- Instructions as the document has them: Right, of what reads or writes. -/
import Derived.Test.YtdhfkcodacmbfaaCodeC
import Derived.Deep.LoopGhost
import Derived.Laws.StructEq
set_option linter.unusedVariables false
set_option linter.unusedSimpArgs false
namespace Go.Proofs.Ytdhfkcodacmbfaa
open Go.RowKit

theorem stands_there (op kind area at_ n least : Int) : standsI ⟨op, kind, area, at_, n⟩ least = (thereK 64 at_ kind && decide (least ≤ area) && decide (area ≤ 4) && decide (n = 0)) := by
  unfold standsI thereK
  simp only
  have := ksize_range kind
  rw [Bool.eq_iff_iff]
  simp
  omega
theorem writes_reads {n : Int} (h : readsR n = true) : writesR n = false := by
  unfold readsR at h
  unfold writesR
  simp at h
  simp
  omega
theorem class_reads {n : Int} (h : readsR n = true) : classI n = 1 := by
  rw [reads_class] at h
  simpa using h
theorem class_writes {n : Int} (h : writesR n = true) : classI n = 2 ∧ readsR n = false := by
  have hr : readsR n = false := by
    cases hq : readsR n with
    | false => rfl
    | true => rw [writes_reads hq] at h; cases h
  refine ⟨?_, hr⟩
  rw [class_eq]
  unfold classR
  rw [if_neg (by rw [hr]; simp), if_pos h]
set_option maxRecDepth 100000 in
set_option maxHeartbeats 4000000 in
theorem rr_read0 (op kind area at_ n : Int) (w : World) (ok : (Lit.int .i64 n).wf = true) (hop : readsR op = true ∧ area = 0) : Calls Try.prog 138 #[.agg #[.int .i64 op, .int .i64 kind, .int .i64 area, .int .i64 at_, .int .i64 n]] w fun e w' => e = .returned (.bool (rightI ⟨op, kind, area, at_, n⟩)) ∧ Below w.heap.size w w' := by
  obtain ⟨hr, rfl⟩ := hop
  have hcl := class_reads hr
  have hw := writes_reads hr
  have HR := Lib.hid (fun W => rreads_any op W)
  have HW := Lib.hid (fun W => rwrites_any op W)
  have HI := Lib.hid (fun W => ris_any kind n W ok)
  rw [hr] at HR
  rw [hw] at HW
  unfold rightI
  simp only [hcl]
  clear hcl hr hw
  simp only [show rightC 1 ⟨op, kind, 0, at_, n⟩ = (decide (at_ = 0) && isK kind n) from rfl]
  generalize isK kind n = bi at *
  cases bi
  all_goals
    go_enter Try.func138, Try.ntmps138
    go_wp2_with (first | (go_at_call 151; (with_reducible refine (HR.out _).mono ?_); rintro e w2 ⟨rfl, rfl⟩) | (go_at_call 152; (with_reducible refine (HW.out _).mono ?_); rintro e w2 ⟨rfl, rfl⟩) | (go_at_call 90; (with_reducible refine (HI.out _).mono ?_); rintro e w2 ⟨rfl, b2⟩; obtain ⟨hcc, hff⟩ := below_cells b2; have b3 := Lib.hid b2; clear b2))
  all_goals
    go_ret
    refine ⟨ret_bool ?_, by first | exact ((Below.refl _ _).alloc (Nat.le_refl _) _).alloc (by simp) _ | exact below_lift (((Below.refl _ _).alloc (Nat.le_refl _) _).alloc (by simp) _) b3.out (by simp; omega) | (repeat (first | exact Below.refl _ _ | refine Below.setCell ?_ (by simp) _ | refine Below.alloc ?_ (by simp) _))⟩
    first | rfl | (simp; done) | (simp [*]; done) | (rw [Bool.eq_iff_iff]; simp; omega) | (rw [Bool.eq_iff_iff]; simp [*]; omega)
set_option maxRecDepth 100000 in
set_option maxHeartbeats 4000000 in
theorem rr_read1 (op kind area at_ n : Int) (w : World) (ok : (Lit.int .i64 n).wf = true) (hop : readsR op = true ∧ ¬ area = 0) : Calls Try.prog 138 #[.agg #[.int .i64 op, .int .i64 kind, .int .i64 area, .int .i64 at_, .int .i64 n]] w fun e w' => e = .returned (.bool (rightI ⟨op, kind, area, at_, n⟩)) ∧ Below w.heap.size w w' := by
  obtain ⟨hr, hA⟩ := hop
  have hcl := class_reads hr
  have hw := writes_reads hr
  have hA2 : (area == 0) = false := by simpa using hA
  have HR := Lib.hid (fun W => rreads_any op W)
  have HW := Lib.hid (fun W => rwrites_any op W)
  have HT := Lib.hid (fun W => rthere_any 64 at_ kind W (by decide) (by decide))
  rw [hr] at HR
  rw [hw] at HW
  unfold rightI
  simp only [hcl]
  clear hcl hr hw
  simp only [show rightC 1 ⟨op, kind, area, at_, n⟩ = standsI ⟨op, kind, area, at_, n⟩ 1 from by show (if area = 0 then _ else standsI ⟨op, kind, area, at_, n⟩ 1) = _; rw [if_neg hA]]
  rw [stands_there]
  generalize thereK 64 at_ kind = bt at *
  cases bt
  all_goals
    go_enter Try.func138, Try.ntmps138
    go_wp2_with (first | (go_at_call 151; (with_reducible refine (HR.out _).mono ?_); rintro e w2 ⟨rfl, rfl⟩) | (go_at_call 152; (with_reducible refine (HW.out _).mono ?_); rintro e w2 ⟨rfl, rfl⟩) | (go_at_call 76; (with_reducible refine (HT.out _).mono ?_); rintro e w2 ⟨rfl, b2⟩; obtain ⟨hcc, hff⟩ := below_cells b2; have b3 := Lib.hid b2; clear b2))
  all_goals
    go_ret
    refine ⟨ret_bool ?_, by first | exact ((Below.refl _ _).alloc (Nat.le_refl _) _).alloc (by simp) _ | exact below_lift (((Below.refl _ _).alloc (Nat.le_refl _) _).alloc (by simp) _) b3.out (by simp; omega) | (repeat (first | exact Below.refl _ _ | refine Below.setCell ?_ (by simp) _ | refine Below.alloc ?_ (by simp) _))⟩
    first | rfl | (simp; done) | (simp [*]; done) | (rw [Bool.eq_iff_iff]; simp; omega) | (rw [Bool.eq_iff_iff]; simp [*]; omega)
set_option maxRecDepth 100000 in
set_option maxHeartbeats 4000000 in
theorem rr_write (op kind area at_ n : Int) (w : World) (ok : (Lit.int .i64 n).wf = true) (hop : writesR op = true) : Calls Try.prog 138 #[.agg #[.int .i64 op, .int .i64 kind, .int .i64 area, .int .i64 at_, .int .i64 n]] w fun e w' => e = .returned (.bool (rightI ⟨op, kind, area, at_, n⟩)) ∧ Below w.heap.size w w' := by
  have hw := hop
  have hcl := (class_writes hop).1
  have hr := (class_writes hop).2
  clear hop
  have HR := Lib.hid (fun W => rreads_any op W)
  have HW := Lib.hid (fun W => rwrites_any op W)
  have HT := Lib.hid (fun W => rthere_any 64 at_ kind W (by decide) (by decide))
  rw [hr] at HR
  rw [hw] at HW
  unfold rightI
  simp only [hcl]
  clear hcl hr hw
  simp only [show rightC 2 ⟨op, kind, area, at_, n⟩ = standsI ⟨op, kind, area, at_, n⟩ 2 from rfl]
  rw [stands_there]
  generalize thereK 64 at_ kind = bt at *
  cases bt
  all_goals
    go_enter Try.func138, Try.ntmps138
    go_wp2_with (first | (go_at_call 151; (with_reducible refine (HR.out _).mono ?_); rintro e w2 ⟨rfl, rfl⟩) | (go_at_call 152; (with_reducible refine (HW.out _).mono ?_); rintro e w2 ⟨rfl, rfl⟩) | (go_at_call 76; (with_reducible refine (HT.out _).mono ?_); rintro e w2 ⟨rfl, b2⟩; obtain ⟨hcc, hff⟩ := below_cells b2; have b3 := Lib.hid b2; clear b2))
  all_goals
    go_ret
    refine ⟨ret_bool ?_, by first | exact ((Below.refl _ _).alloc (Nat.le_refl _) _).alloc (by simp) _ | exact below_lift (((Below.refl _ _).alloc (Nat.le_refl _) _).alloc (by simp) _) b3.out (by simp; omega) | (repeat (first | exact Below.refl _ _ | refine Below.setCell ?_ (by simp) _ | refine Below.alloc ?_ (by simp) _))⟩
    first | rfl | (simp; done) | (simp [*]; done) | (rw [Bool.eq_iff_iff]; simp; omega) | (rw [Bool.eq_iff_iff]; simp [*]; omega)
end Go.Proofs.Ytdhfkcodacmbfaa

/- Programs (code): whether a program may be. -/
set_option linter.unusedVariables false
set_option linter.unusedSimpArgs false
namespace Go.Proofs.Ytdhfkcodacmbfaa
open Go.RowKit

theorem rright_any (i : InstrS) (w : World) (ok : i.ok) : Calls Try.prog 138 #[.agg i.cells] w fun e w' => e = .returned (.bool (rightI i)) ∧ Below w.heap.size w w' := by
  obtain ⟨op, kind, area, at_, n⟩ := i
  have okn := ok.n
  show Calls Try.prog 138 #[.agg #[.int .i64 op, .int .i64 kind, .int .i64 area, .int .i64 at_, .int .i64 n]] w _
  cases hr : readsR op with
  | true =>
    by_cases hA : area = 0
    · exact rr_read0 op kind area at_ n w okn ⟨hr, hA⟩
    · exact rr_read1 op kind area at_ n w okn ⟨hr, hA⟩
  | false =>
    cases hw : writesR op with
    | true => exact rr_write op kind area at_ n w okn hw
    | false =>
      have hc : op < 1 ∨ op = 13 ∨ (25 ≤ op ∧ op ≤ 27) ∨ (28 ≤ op ∧ op ≤ 30) ∨ op = 31 ∨ op = 32 ∨ op = 33 ∨ op = 34 ∨ op = 35 ∨ op = 36 ∨ 36 < op := by
        unfold readsR at hr
        unfold writesR at hw
        simp at hr hw
        omega
      rcases hc with h | h | h | h | h | h | h | h | h | h | h
      · exact rr_low op kind area at_ n w okn h
      · exact rr_13 op kind area at_ n w okn h
      · exact rr_jump op kind area at_ n w okn h
      · exact rr_ret op kind area at_ n w okn h
      · exact rr_31 op kind area at_ n w okn h
      · exact rr_32 op kind area at_ n w okn h
      · exact rr_33 op kind area at_ n w okn h
      · exact rr_34 op kind area at_ n w okn h
      · exact rr_35 op kind area at_ n w okn h
      · exact rr_36 op kind area at_ n w okn h
      · exact rr_high op kind area at_ n w okn h
/-- A slice of instructions in memory. -/
structure InsR (w : World) (A : Option Addr) (l : List InstrS) : Prop where
  at_ : ∀ k i, l[k]? = some i → ∃ b off, A = some (⟨b, off, none⟩ : Addr) ∧ w.cell? ⟨b, off + k * 5, none⟩ = some (.int .i64 i.op) ∧ w.cell? ⟨b, off + k * 5 + 1, none⟩ = some (.int .i64 i.kind) ∧ w.cell? ⟨b, off + k * 5 + 2, none⟩ = some (.int .i64 i.area) ∧ w.cell? ⟨b, off + k * 5 + 3, none⟩ = some (.int .i64 i.at_) ∧ w.cell? ⟨b, off + k * 5 + 4, none⟩ = some (.int .i64 i.n)
  ok : ∀ i ∈ l, i.ok
theorem InsR.keep {w w' : World} {A : Option Addr} {l : List InstrS} (h : InsR w A l) (hb : Below w.heap.size w w') : InsR w' A l :=
  ⟨fun k i hk => by
    obtain ⟨b, off, e, c0, c1, c2, c3, c4⟩ := h.at_ k i hk
    have hl := World.block_lt_of_cell? w _ c0
    exact ⟨b, off, e, (hb.cell (p := ⟨b, off + k * 5, none⟩) hl).trans c0, (hb.cell (p := ⟨b, off + k * 5 + 1, none⟩) hl).trans c1, (hb.cell (p := ⟨b, off + k * 5 + 2, none⟩) hl).trans c2, (hb.cell (p := ⟨b, off + k * 5 + 3, none⟩) hl).trans c3, (hb.cell (p := ⟨b, off + k * 5 + 4, none⟩) hl).trans c4⟩, h.ok⟩
theorem InsR.get {w : World} {A : Option Addr} {l : List InstrS} (h : InsR w A l) {k : Nat} (hk : k < l.length) : ∃ i, l[k]? = some i ∧ i.ok := ⟨l[k], List.getElem?_eq_getElem hk, h.ok _ (List.getElem_mem hk)⟩
set_option maxRecDepth 100000 in
theorem closure_any (i : InstrS) (w : World) (ok : i.ok) : Calls Try.prog 149 #[.agg i.cells] w fun e w' => e = .returned (.bool (!rightI i)) ∧ Below w.heap.size w w' := by
  have HR := Lib.hid (fun W => right_any i W ok)
  have hb := (Below.refl w.heap.size w).alloc (Nat.le_refl _) (.cells i.cells 174)
  have X := Blk.new w i.cells 174
  unfold InstrS.cells at *
  have x0 := X.cell (j := 0) (v := .int .i64 i.op) rfl
  have x1 := X.cell (j := 1) (v := .int .i64 i.kind) rfl
  have x2 := X.cell (j := 2) (v := .int .i64 i.area) rfl
  have x3 := X.cell (j := 3) (v := .int .i64 i.at_) rfl
  have x4 := X.cell (j := 4) (v := .int .i64 i.n) rfl
  generalize rightI i = r at *
  clear X
  go_enter Try.func149, Try.ntmps149
  go_wp2_with fail
  generalize w.alloc (.cells #[.int .i64 i.op, .int .i64 i.kind, .int .i64 i.area, .int .i64 i.at_, .int .i64 i.n] 174) = w0 at *
  refine (HR.out _).mono ?_
  rintro e w1 ⟨rfl, b⟩
  have hbb := below_lift hb b hb.size
  go_wp2_with fail
  go_ret
  exact ⟨rfl, hbb⟩
/-- Where the first one stands that may not be; -1: there is none. -/
def badI (l : List InstrS) (n k : Nat) : Int := match n with | 0 => -1 | n + 1 => if ((l.getD k ⟨0, 0, 0, 0, 0⟩ : InstrS)) |> rightI then badI l n (k + 1) else (k : Int)
theorem badI_yes {l : List InstrS} {n k : Nat} {i : InstrS} (hi : l[k]? = some i) (h : rightI i = true) : badI l (n + 1) k = badI l n (k + 1) := by
  show (if rightI (l.getD k ⟨0, 0, 0, 0, 0⟩) = true then badI l n (k + 1) else (k : Int)) = _
  rw [List.getD_eq_getElem?_getD, hi]
  exact if_pos h
theorem badI_no {l : List InstrS} {n k : Nat} {i : InstrS} (hi : l[k]? = some i) (h : rightI i = false) : badI l (n + 1) k = k := by
  show (if rightI (l.getD k ⟨0, 0, 0, 0, 0⟩) = true then badI l n (k + 1) else (k : Int)) = _
  rw [List.getD_eq_getElem?_getD, hi]
  exact if_neg (by show ¬ rightI i = true; rw [h]; simp)
theorem badI_all (l : List InstrS) : decide (0 ≤ badI l l.length 0) = !l.all rightI := by
  have key : ∀ n k, k + n = l.length → decide (0 ≤ badI l n k) = !(l.drop k).all rightI := by
    intro n
    induction n with
    | zero =>
      intro k hk
      rw [List.drop_eq_nil_of_le (by omega)]
      rfl
    | succ n ih =>
      intro k hk
      have hl : k < l.length := by omega
      have hi : l[k]? = some l[k] := List.getElem?_eq_getElem hl
      rw [List.drop_eq_getElem_cons hl, List.all_cons]
      cases hr : rightI l[k] with
      | true => rw [badI_yes hi hr, ih (k + 1) (by omega), Bool.true_and]
      | false =>
        rw [badI_no hi hr]
        simp
  have := key l.length 0 (by omega)
  simpa using this
set_option maxRecDepth 100000 in
set_option maxHeartbeats 1000000 in
theorem findex_any (A : Option Addr) (l : List InstrS) (cap : Nat) (w : World) (hI : InsR w A l) (hl : l.length ≤ 9223372036854775807) :
    Calls Try.prog 156 #[.slice A l.length cap, .func (.func 149) #[] #[]] w fun e w' => e = .returned (.int .i64 (badI l l.length 0)) ∧ Below w.heap.size w w' := by
  have HI := Lib.hid hI
  clear hI
  go_enter Try.func156, Try.ntmps156
  go_wp2_with fail
  go_loopg [5, 8] l.length (fun gg _ s8 wr => ∃ k : Nat, k ≤ l.length ∧ l.length - k ≤ gg ∧ s8 = .int .i64 k ∧ Aside (Below w.heap.size w wr) ∧ Aside (badI l l.length 0 = badI l (l.length - k) k))
  case atStart => exact ⟨0, Nat.zero_le _, by omega, rfl, Below.refl _ _, rfl⟩
  case round =>
    obtain ⟨k, hk, hg, rfl, S, A'⟩ := hrel
    by_cases hlt : k < l.length
    · have hltz : (k : Int) < (l.length : Int) := by omega
      obtain ⟨i, hi, oki⟩ := HI.out.get hlt
      obtain ⟨b, off, rfl, c0, c1, c2, c3, c4⟩ := (HI.out.keep S.out).at_ k i hi
      have HC := closure_any i wr oki
      unfold InstrS.cells at HC
      have hA := Lib.hid A'.out
      have hi' := Lib.hid hi
      clear hi
      cases hq : rightI i with
      | false =>
        rw [hq] at HC
        have HC := Lib.hid HC
        have HQ := Lib.hid hq
        clear hq
        go_wp2_with fail
        refine (HC.out).mono ?_
        rintro e w1 ⟨rfl, b1⟩
        go_wp2_with fail
        go_ret
        refine ⟨?_, below_then S.out b1⟩
        rw [A'.out, show l.length - k = (l.length - k - 1) + 1 by omega, badI_no hi'.out HQ.out]
        rfl
      | true =>
        rw [hq] at HC
        have HC := Lib.hid HC
        have HQ := Lib.hid hq
        clear hq
        go_wp2_with fail
        refine (HC.out).mono ?_
        rintro e w1 ⟨rfl, b1⟩
        go_wp2_with fail
        go_roundg (l.length - (k + 1))
        case measure => omega
        case rel =>
          refine ⟨k + 1, by omega, by omega, by go_num, below_then S.out b1, ?_⟩
          show badI l l.length 0 = _
          rw [hA.out, show l.length - k = (l.length - (k + 1)) + 1 by omega, badI_yes hi'.out HQ.out]
    · have hltz : ¬ (k : Int) < (l.length : Int) := by omega
      have : k = l.length := by omega
      subst this
      go_wp2_with fail
      go_ret
      refine ⟨?_, S.out⟩
      rw [A'.out, Nat.sub_self]
      rfl
set_option maxRecDepth 100000 in
theorem contains_any (A : Option Addr) (l : List InstrS) (cap : Nat) (w : World) (hI : InsR w A l) (hl : l.length ≤ 9223372036854775807) :
    Calls Try.prog 148 #[.slice A l.length cap, .func (.func 149) #[] #[]] w fun e w' => e = .returned (.bool (!l.all rightI)) ∧ Below w.heap.size w w' := by
  have HF := Lib.hid (findex_any A l cap w hI hl)
  rw [← badI_all]
  generalize badI l l.length 0 = x at *
  clear hI
  go_enter Try.func148, Try.ntmps148
  go_wp2_with fail
  refine (HF.out).mono ?_
  rintro e w1 ⟨rfl, b⟩
  go_wp2_with fail
  go_ret
  exact ⟨rfl, b⟩
/-- The error of a program. -/
def codeE (l : List InstrS) : Int := if 200 < l.length then 2 else if l.all rightI = true then 0 else 3
set_option maxRecDepth 100000 in
theorem cright_any (A : Option Addr) (l : List InstrS) (cap : Nat) (w : World) (hI : InsR w A l) (hl : l.length ≤ 9223372036854775807) :
    Calls Try.prog 136 #[.slice A l.length cap] w fun e w' => e = .returned (.int .i64 (codeE l)) ∧ Below w.heap.size w w' := by
  have HF := Lib.hid (contains_any A l cap w hI hl)
  clear hI
  unfold codeE
  by_cases h : 200 < l.length
  · have h' : (200 : Int) < l.length := by omega
    rw [if_pos h]
    clear h
    go_enter Try.func136, Try.ntmps136
    go_wp2_with fail
    go_ret
    exact ⟨rfl, Below.refl _ _⟩
  · have h' : ¬ (200 : Int) < l.length := by omega
    rw [if_neg h]
    clear h
    cases ha : l.all rightI with
    | true =>
      rw [ha] at HF
      rw [if_pos rfl]
      clear ha
      go_enter Try.func136, Try.ntmps136
      go_wp2_with fail
      refine (HF.out).mono ?_
      rintro e w1 ⟨rfl, b⟩
      go_wp2_with fail
      go_ret
      exact ⟨rfl, b⟩
    | false =>
      rw [ha] at HF
      rw [if_neg (by decide)]
      clear ha
      go_enter Try.func136, Try.ntmps136
      go_wp2_with fail
      refine (HF.out).mono ?_
      rintro e w1 ⟨rfl, b⟩
      go_wp2_with fail
      go_ret
      exact ⟨rfl, b⟩
end Go.Proofs.Ytdhfkcodacmbfaa

/- Programs (code): the document's error; two programs held against each other. -/
set_option linter.unusedVariables false
set_option linter.unusedSimpArgs false
namespace Go.Proofs.Ytdhfkcodacmbfaa
open Go.RowKit

set_option maxRecDepth 100000 in
set_option maxHeartbeats 1000000 in
theorem rerror_any (A : Option Addr) (l : List InstrS) (cap : Nat) (w : World) (hI : InsR w A l) (hl : l.length ≤ 9223372036854775807) :
    Calls Try.prog 96 #[.slice A l.length cap] w fun e w' => e = .returned (.int .i64 (codeE l)) ∧ Below w.heap.size w w' := by
  have HI := Lib.hid hI
  clear hI
  unfold codeE
  rw [← show (!(!l.all rightI)) = l.all rightI from Bool.not_not _, ← badI_all]
  by_cases h : 200 < l.length
  · have h' : (200 : Int) < l.length := by omega
    rw [if_pos h]
    clear h
    go_enter Try.func96, Try.ntmps96
    go_wp2_with fail
    go_ret
    exact ⟨rfl, Below.refl _ _⟩
  · have h' : ¬ (200 : Int) < l.length := by omega
    rw [if_neg h]
    obtain ⟨r, hr⟩ : ∃ r : Int, r = (if (!decide (0 ≤ badI l l.length 0)) = true then 0 else 3) := ⟨_, rfl⟩
    rw [← hr]
    have HRr := Lib.hid hr
    clear h hr
    go_enter Try.func96, Try.ntmps96
    go_wp2_with fail
    go_loopw [3] (fun x wr => ∃ k : Nat, k ≤ l.length ∧ x = .int .i64 k ∧ Aside (Below w.heap.size w wr) ∧ Aside (badI l l.length 0 = badI l (l.length - k) k)) (fun x _ => l.length - (intOf x).toNat)
    case atStart => exact ⟨0, Nat.zero_le _, rfl, Below.refl _ _, rfl⟩
    case round =>
      obtain ⟨k, hk, rfl, S, A'⟩ := hrel
      by_cases hlt : k < l.length
      · have hltz : (k : Int) < (l.length : Int) := by omega
        obtain ⟨i, hi, oki⟩ := HI.out.get hlt
        obtain ⟨b, off, rfl, c0, c1, c2, c3, c4⟩ := (HI.out.keep S.out).at_ k i hi
        have HC := fun W => rright_any i W oki
        unfold InstrS.cells at HC
        have hA := Lib.hid A'.out
        have hi' := Lib.hid hi
        clear hi
        cases hq : rightI i with
        | false =>
          rw [hq] at HC
          have HC := Lib.hid HC
          have HQ := Lib.hid hq
          clear hq
          go_wp2_with fail
          refine (HC.out _).mono ?_
          rintro e w1 ⟨rfl, b1⟩
          go_wp2_with fail
          go_ret
          refine ⟨?_, below_then S.out b1⟩
          have hb : badI l l.length 0 = (k : Int) := by rw [hA.out, show l.length - k = (l.length - k - 1) + 1 by omega, badI_no hi'.out HQ.out]
          exact ret_int (by rw [HRr.out, hb]; simp)
        | true =>
          rw [hq] at HC
          have HC := Lib.hid HC
          have HQ := Lib.hid hq
          clear hq
          go_wp2_with fail
          refine (HC.out _).mono ?_
          rintro e w1 ⟨rfl, b1⟩
          go_wp2_with fail
          go_roundw
          case measure => simp [intOf]; omega
          case rel =>
            refine ⟨k + 1, by omega, by go_num, below_then S.out b1, ?_⟩
            show badI l l.length 0 = _
            rw [hA.out, show l.length - k = (l.length - (k + 1)) + 1 by omega, badI_yes hi'.out HQ.out]
      · have hltz : ¬ (k : Int) < (l.length : Int) := by omega
        have : k = l.length := by omega
        subst this
        have hA := Lib.hid A'.out
        go_wp2_with fail
        go_ret
        refine ⟨?_, S.out⟩
        have hb : badI l l.length 0 = -1 := by rw [hA.out, Nat.sub_self]; rfl
        exact ret_int (by rw [HRr.out, hb]; rfl)
set_option maxRecDepth 100000 in
set_option maxHeartbeats 1000000 in
theorem same_any (A B : Option Addr) (l : List InstrS) (cap cap' : Nat) (w : World) (hI : InsR w A l) (hJ : InsR w B l) (hl : l.length ≤ 9223372036854775807) :
    Calls Try.prog 94 #[.slice A l.length cap, .slice B l.length cap'] w fun e w' => e = .returned (.bool true) ∧ Below w.heap.size w w' := by
  have HI := Lib.hid hI
  have HJ := Lib.hid hJ
  clear hI hJ
  go_enter Try.func94, Try.ntmps94
  go_wp2_with fail
  go_loopw [5] (fun x wr => ∃ k n : Nat, k ≤ l.length ∧ x = .int .i64 k ∧ wr = w.drewN n) (fun x _ => l.length - (intOf x).toNat)
  case atStart => exact ⟨0, 0, Nat.zero_le _, rfl, rfl⟩
  case round =>
    obtain ⟨k, n, hk, rfl, rfl⟩ := hrel
    by_cases hlt : k < l.length
    · have hltz : (k : Int) < (l.length : Int) := by omega
      have hk0 : (0 : Int) ≤ (k : Int) := by omega
      obtain ⟨i, hi, oki⟩ := HI.out.get hlt
      obtain ⟨b, off, rfl, c0, c1, c2, c3, c4⟩ := HI.out.at_ k i hi
      obtain ⟨b', off', rfl, d0, d1, d2, d3, d4⟩ := HJ.out.at_ k i hi
      clear hi
      go_wp2_with fail
      go_quiet (fail)
      go_wp2_with fail
      go_roundw
      case rel => exact ⟨k + 1, _, by omega, by go_num, by first | rfl | exact (World.drewN_drewN _ _ _)⟩
      case measure => simp [intOf]; omega
    · have hltz : ¬ (k : Int) < (l.length : Int) := by omega
      go_wp2_with fail
      go_ret
      exact ⟨rfl, below_drewN (Below.refl _ _) _⟩
end Go.Proofs.Ytdhfkcodacmbfaa
