/- Programs (code): one instruction read from an eye. -/
import Derived.Test.YtdhfkcodacmbfaaCodeE
import Derived.Test.YtdhfkcodacmbfaaOctC
import Derived.Test.YtdhfkcodacmbfaaBus
import Derived.Test.YtdhfkcodacmbfaaMemB
import Derived.Deep.AppendLies
import Derived.Test.YtdhfkcodacmbfaaCrcE
set_option linter.unusedVariables false
set_option linter.unusedSimpArgs false
namespace Go.Proofs.Ytdhfkcodacmbfaa
open Go.RowKit

theorem info174 : (Try.prog.info? 174).map (fun i => (i.zero, i.size, i.bytes)) = some (some (.agg #[.int .i64 0, .int .i64 0, .int .i64 0, .int .i64 0, .int .i64 0]), 5, 40) := by kernel_rfl
theorem size174 : (Try.prog.info? 174).map (·.size) = some 5 := by kernel_rfl
/-- The number of an instruction: signed, but for a real. -/
def sgnI (n : Int) : Int := if 2147483648 ≤ n then n - 4294967296 else n
def numI (k n : Int) : Int := if k = 7 then n else sgnI n
def EyeS.e4 (e : EyeS) : EyeS := (((e.next 1).next 1).next 1).next 1
def nextE (e : EyeS) : EyeS := e.e4.next 4
def instrE (e : EyeS) : InstrS := ⟨e.num 1, (e.next 1).num 1, ((e.next 1).next 1).num 1, (((e.next 1).next 1).next 1).num 1, numI ((e.next 1).num 1) (e.e4.num 4)⟩
theorem e4_ok {e : EyeS} (ok : e.ok) : e.e4.ok := EyeS.next_ok (EyeS.next_ok (EyeS.next_ok (EyeS.next_ok ok 1) 1) 1) 1
theorem nextE_ok {e : EyeS} (ok : e.ok) : (nextE e).ok := EyeS.next_ok (e4_ok ok) 4
theorem i32_sgn (n : Int) (h0 : 0 ≤ n) (h1 : n < 4294967296) : IntKind.i32.wrap n = sgnI n := by
  unfold sgnI
  simp [IntKind.wrap, IntKind.bits, IntKind.signed, Int.bmod_def] <;> split <;> omega
theorem sgn_range (n : Int) (h0 : 0 ≤ n) (h1 : n < 4294967296) : -2147483648 ≤ sgnI n ∧ sgnI n ≤ 2147483647 := by
  unfold sgnI
  split <;> omega
theorem Chg.setFar {a b : World} {B : Nat} {cs : Array Value} {t : TypeId} (h : Chg a b B cs t) (p : Addr) (v : Value) (h1 : a.heap.size ≤ p.block) (h2 : B ≠ p.block) : Chg a (b.setCell p v) B cs t :=
  ⟨h.os, h.tape, h.output, by rw [World.size_setCell]; exact h.size, h.blk.setOther p v h2, fun i hi hB => (Below.heap_setCell b p v i (by omega)).trans (h.rest i hi hB)⟩
set_option maxRecDepth 100000 in
set_option maxHeartbeats 2000000 in
theorem instr_any (e : EyeS) (B : Nat) (w : World) (ok : e.ok) (hB : Blk w B e.cells 135) :
    Calls Try.prog 135 #[.pointer (some ⟨B, 0, none⟩)] w fun r w' => r = .returned (.agg (instrE e).cells) ∧ Chg w w' B (nextE e).cells 135 := by
  have ok1 := EyeS.next_ok ok 1
  have ok2 := EyeS.next_ok ok1 1
  have ok3 := EyeS.next_ok ok2 1
  have ok4 := EyeS.next_ok ok3 1
  have H0 := Lib.hid (fun W hW => byte_any e B W ok hW)
  have H1 := Lib.hid (fun W hW => byte_any _ B W ok1 hW)
  have H2 := Lib.hid (fun W hW => byte_any _ B W ok2 hW)
  have H3 := Lib.hid (fun W hW => byte_any _ B W ok3 hW)
  have H4 := Lib.hid (fun W hW => four_any _ B W ok4 hW)
  have l0 : (e.num 1 : Int) < 256 := by have := num_lt1 e ok; omega
  have l1 : ((e.next 1).num 1 : Int) < 256 := by have := num_lt1 _ ok1; omega
  have l2 : (((e.next 1).next 1).num 1 : Int) < 256 := by have := num_lt1 _ ok2; omega
  have l3 : ((((e.next 1).next 1).next 1).num 1 : Int) < 256 := by have := num_lt1 _ ok3; omega
  have l4 : (((((e.next 1).next 1).next 1).next 1).num 4 : Int) < 4294967296 := by have := num_lt4 _ ok4; omega
  have g0 : (0 : Int) ≤ (e.num 1 : Int) := by omega
  have g1 : (0 : Int) ≤ ((e.next 1).num 1 : Int) := by omega
  have g2 : (0 : Int) ≤ (((e.next 1).next 1).num 1 : Int) := by omega
  have g3 : (0 : Int) ≤ ((((e.next 1).next 1).next 1).num 1 : Int) := by omega
  have g4 : (0 : Int) ≤ (((((e.next 1).next 1).next 1).next 1).num 4 : Int) := by omega
  unfold nextE instrE EyeS.e4 InstrS.cells numI
  simp only
  generalize (e.num 1 : Int) = n0 at *
  generalize ((e.next 1).num 1 : Int) = n1 at *
  generalize (((e.next 1).next 1).num 1 : Int) = n2 at *
  generalize ((((e.next 1).next 1).next 1).num 1 : Int) = n3 at *
  generalize (((((e.next 1).next 1).next 1).next 1).num 4 : Int) = n4 at *
  generalize ((((e.next 1).next 1).next 1).next 1).next 4 = e5 at *
  generalize (((e.next 1).next 1).next 1).next 1 = e4 at *
  generalize ((e.next 1).next 1).next 1 = e3 at *
  generalize (e.next 1).next 1 = e2 at *
  generalize e.next 1 = e1 at *
  have hw := i32_sgn n4 g4 l4
  have hs := sgn_range n4 g4 l4
  have hs0 := hs.1
  have hs1 := hs.2
  clear hs ok ok1 ok2 ok3 ok4
  generalize sgnI n4 = sg at *
  have hBl := hB.lt
  have hne : w.heap.size ≠ B := by omega
  have hR := Blk.new w #[.int .i64 0, .int .i64 0, .int .i64 0, .int .i64 0, .int .i64 0] 174
  have hc := (Chg.refl hB).alloc (.cells #[.int .i64 0, .int .i64 0, .int .i64 0, .int .i64 0, .int .i64 0] 174)
  clear hB
  obtain ⟨vv, hv⟩ : ∃ vv, vv = (if n1 = 7 then n4 else sg) := ⟨_, rfl⟩
  rw [← hv]
  have HV := Lib.hid hv
  clear hv
  go_enter Try.func135, Try.ntmps135
  go_wp2_with fail
  refine (H0.out _ hc.blk).mono ?_
  rintro r w1 ⟨rfl, c1⟩
  replace hR := c1.other hR hne
  replace hc := hc.trans c1
  clear c1
  go_wp2_with fail
  refine (H1.out _ hc.blk).mono ?_
  rintro r w2 ⟨rfl, c1⟩
  replace hR := c1.other hR hne
  replace hc := hc.trans c1
  clear c1
  go_wp2_with fail
  refine (H2.out _ hc.blk).mono ?_
  rintro r w3 ⟨rfl, c1⟩
  replace hR := c1.other hR hne
  replace hc := hc.trans c1
  clear c1
  go_wp2_with fail
  refine (H3.out _ hc.blk).mono ?_
  rintro r w4 ⟨rfl, c1⟩
  replace hR := c1.other hR hne
  replace hc := hc.trans c1
  clear c1
  go_wp2_with fail
  have hN := Blk.new w4 #[.int .i64 n0, .int .i64 n1, .int .i64 n2, .int .i64 n3, .int .i64 0] 174
  have hsz := hc.size
  have hRl := hR.lt
  have hneN : w4.heap.size ≠ B := by omega
  have hneR : w4.heap.size ≠ w.heap.size := by omega
  replace hR := hR.alloc (.cells #[.int .i64 n0, .int .i64 n1, .int .i64 n2, .int .i64 n3, .int .i64 0] 174)
  replace hc := hc.alloc (.cells #[.int .i64 n0, .int .i64 n1, .int .i64 n2, .int .i64 n3, .int .i64 0] 174)
  have hN' : w.heap.size < w4.heap.size := hRl
  generalize w4.heap.size = N at *
  generalize w4.alloc (.cells #[.int .i64 n0, .int .i64 n1, .int .i64 n2, .int .i64 n3, .int .i64 0] 174) = w5 at *
  refine (H4.out _ hc.blk).mono ?_
  rintro r w6 ⟨rfl, c1⟩
  replace hR := c1.other hR hne
  replace hN := c1.other hN hneN
  replace hc := hc.trans c1
  clear c1
  have x0 := hN.cell (j := 0) (v := .int .i64 n0) rfl
  have x1 := hN.cell (j := 1) (v := .int .i64 n1) rfl
  have x2 := hN.cell (j := 2) (v := .int .i64 n2) rfl
  have x3 := hN.cell (j := 3) (v := .int .i64 n3) rfl
  have x4 := hN.cell (j := 4) (v := .int .i64 0) rfl
  have f4 := hN.free 4
  have y0 := hR.cell (j := 0) (v := .int .i64 0) rfl
  have y1 := hR.cell (j := 1) (v := .int .i64 0) rfl
  have y2 := hR.cell (j := 2) (v := .int .i64 0) rfl
  have y3 := hR.cell (j := 3) (v := .int .i64 0) rfl
  have y4 := hR.cell (j := 4) (v := .int .i64 0) rfl
  have q0 := hR.free 0
  have q1 := hR.free 1
  have q2 := hR.free 2
  have q3 := hR.free 3
  have q4 := hR.free 4
  have hNle : w.heap.size ≤ N := by omega
  have hneR' : w.heap.size ≠ N := fun e => hneR e.symm
  by_cases h7 : n1 = 7
  · subst h7
    have hv := HV.out
    rw [if_pos rfl] at hv
    subst hv
    clear HV
    go_wp2_with fail
    have C := (((((((hR.setOther ⟨N, 4, none⟩ (.int .i64 sg) hneR').setOther ⟨N, 4, none⟩ (.int .i64 vv) hneR').setCell 0 (.int .i64 n0)).setCell 1 (.int .i64 7)).setCell 2 (.int .i64 n2)).setCell 3 (.int .i64 n3)).setCell 4 (.int .i64 vv))
    refine bodyPost_ret (results_cell_row (fn := Try.f135) (p := 2) (ty := 174) rfl _ _ w.heap.size 174 #[.int .i64 n0, .int .i64 7, .int .i64 n2, .int .i64 n3, .int .i64 vv] (0, 0) _ rfl C.at_ Try.underlying174 rfl size174) rfl ⟨rfl, ?_⟩
    exact (((((((hc.setFar ⟨N, 4, none⟩ (.int .i64 sg) hNle hneN.symm).setFar ⟨N, 4, none⟩ (.int .i64 vv) hNle hneN.symm).setFar ⟨w.heap.size, 0, none⟩ (.int .i64 n0) (Nat.le_refl _) hne.symm).setFar ⟨w.heap.size, 1, none⟩ (.int .i64 7) (Nat.le_refl _) hne.symm).setFar ⟨w.heap.size, 2, none⟩ (.int .i64 n2) (Nat.le_refl _) hne.symm).setFar ⟨w.heap.size, 3, none⟩ (.int .i64 n3) (Nat.le_refl _) hne.symm).setFar ⟨w.heap.size, 4, none⟩ (.int .i64 vv) (Nat.le_refl _) hne.symm)
  · have hv := HV.out
    rw [if_neg h7] at hv
    subst hv
    clear HV
    go_wp2_with fail
    have C := ((((((hR.setOther ⟨N, 4, none⟩ (.int .i64 vv) hneR').setCell 0 (.int .i64 n0)).setCell 1 (.int .i64 n1)).setCell 2 (.int .i64 n2)).setCell 3 (.int .i64 n3)).setCell 4 (.int .i64 vv))
    refine bodyPost_ret (results_cell_row (fn := Try.f135) (p := 2) (ty := 174) rfl _ _ w.heap.size 174 #[.int .i64 n0, .int .i64 n1, .int .i64 n2, .int .i64 n3, .int .i64 vv] (0, 0) _ rfl C.at_ Try.underlying174 rfl size174) rfl ⟨rfl, ?_⟩
    exact ((((((hc.setFar ⟨N, 4, none⟩ (.int .i64 vv) hNle hneN.symm).setFar ⟨w.heap.size, 0, none⟩ (.int .i64 n0) (Nat.le_refl _) hne.symm).setFar ⟨w.heap.size, 1, none⟩ (.int .i64 n1) (Nat.le_refl _) hne.symm).setFar ⟨w.heap.size, 2, none⟩ (.int .i64 n2) (Nat.le_refl _) hne.symm).setFar ⟨w.heap.size, 3, none⟩ (.int .i64 n3) (Nat.le_refl _) hne.symm).setFar ⟨w.heap.size, 4, none⟩ (.int .i64 vv) (Nat.le_refl _) hne.symm)
end Go.Proofs.Ytdhfkcodacmbfaa

/- Programs (code): a program read back. -/
set_option linter.unusedVariables false
set_option linter.unusedSimpArgs false
namespace Go.Proofs.Ytdhfkcodacmbfaa
open Go.RowKit

def eyeK (e : EyeS) : Nat → EyeS
  | 0 => e
  | k + 1 => nextE (eyeK e k)
theorem eyeK_ok {e : EyeS} (ok : e.ok) (k : Nat) : (eyeK e k).ok := by
  induction k with
  | zero => exact ok
  | succ k ih => exact nextE_ok ih
def decL (e : EyeS) (k : Nat) : List InstrS := (List.range k).map (fun j => instrE (eyeK e j))
theorem decL_len (e : EyeS) (k : Nat) : (decL e k).length = k := by simp [decL]
theorem decL_succ (e : EyeS) (k : Nat) : decL e (k + 1) = decL e k ++ [instrE (eyeK e k)] := by simp [decL, List.range_succ]
def decPlain (p : ByteArray) : List InstrS × Int :=
  if (EyeS.next ⟨p, 0, false⟩ 1).bl = true ∨ (EyeS.next ⟨p, 0, false⟩ 1).left ≠ ((EyeS.num ⟨p, 0, false⟩ 1 : Nat) : Int) * 8 then ([], 10)
  else if 200 < EyeS.num ⟨p, 0, false⟩ 1 then ([], 2)
  else if codeE (decL (EyeS.next ⟨p, 0, false⟩ 1) (EyeS.num ⟨p, 0, false⟩ 1)) = 0 then (decL (EyeS.next ⟨p, 0, false⟩ 1) (EyeS.num ⟨p, 0, false⟩ 1), 0) else ([], 3)
def decS (s : ByteArray) : List InstrS × Int := if 2 ≤ s.size ∧ moreI 65535 s.data.toList = 0 then decPlain (s.extract 0 (s.size - 2)) else ([], 9)
theorem instrE_ok {e : EyeS} (ok : e.ok) : (instrE e).ok := by
  have ok1 := EyeS.next_ok ok 1
  have ok2 := EyeS.next_ok ok1 1
  have ok3 := EyeS.next_ok ok2 1
  have l0 := num_lt1 e ok
  have l1 := num_lt1 _ ok1
  have l2 := num_lt1 _ ok2
  have l3 := num_lt1 _ ok3
  have l4 := num_lt4 _ (e4_ok ok)
  refine ⟨wf_small ?_ ?_, wf_small ?_ ?_, wf_small ?_ ?_, wf_small ?_ ?_, wf_small ?_ ?_⟩
  all_goals
    unfold instrE
    try simp only [numI, sgnI]
    try split
    all_goals try split
    all_goals omega
theorem decL_ok {e : EyeS} (ok : e.ok) (k : Nat) : ∀ i ∈ decL e k, i.ok := by
  intro i hi
  simp only [decL, List.mem_map] at hi
  obtain ⟨j, _, rfl⟩ := hi
  exact instrE_ok (eyeK_ok ok j)
/-- The cells of instructions in a row. -/
def ics (l : List InstrS) : List Value := l.flatMap (fun i => i.cells.toList)
theorem ics_length (l : List InstrS) : (ics l).length = l.length * 5 := by
  induction l with
  | nil => rfl
  | cons i l ih => simp [ics, InstrS.cells] at ih ⊢; omega
theorem ics_append (l m : List InstrS) : ics (l ++ m) = ics l ++ ics m := by simp [ics]
theorem ics_get (l : List InstrS) (k j : Nat) (i : InstrS) (hk : l[k]? = some i) (hj : j < 5) : (ics l)[k * 5 + j]? = i.cells.toList[j]? := by
  induction l generalizing k with
  | nil => cases hk
  | cons q l ih =>
    have hc : (ics (q :: l)) = q.cells.toList ++ ics l := by simp [ics]
    have h5 : q.cells.toList.length = 5 := rfl
    rw [hc]
    cases k with
    | zero =>
      simp at hk
      subst hk
      rw [List.getElem?_append_left (by omega)]
      simp
    | succ k =>
      rw [List.getElem?_append_right (by omega), show (k + 1) * 5 + j - q.cells.toList.length = k * 5 + j by omega]
      exact ih k (by simpa using hk)
theorem insR_own {w : World} {S n cap : Nat} {A : Option Addr} {l : List InstrS} (ho : w.ownsRow S 174 5 (.slice A n cap) n (ics l)) (ok : ∀ i ∈ l, i.ok) (hn : l.length = n) : InsR w A l := by
  refine ⟨fun k i hk => ?_, ok⟩
  have hl : k < l.length := (List.getElem?_eq_some_iff.1 hk).1
  rcases ho.2 with ⟨_, q⟩ | ⟨g, cap', cur, hv, _⟩
  · omega
  · injection hv with hA
    subst hA
    have hc := fun j (hj : j < 5) => (ho.cellAt (k * 5 + j) (by omega)).trans (ics_get l k j i hk hj)
    refine ⟨g, 0, rfl, ?_⟩
    simp only [Nat.zero_add]
    exact ⟨hc 0 (by omega), hc 1 (by omega), hc 2 (by omega), hc 3 (by omega), hc 4 (by omega)⟩
theorem insR_nil (w : World) (A : Option Addr) : InsR w A [] := ⟨fun k i h => (by cases h), fun i h => (by cases h)⟩
/-- What a program read back leaves. -/
def DecTo (d : List InstrS × Int) (w : World) (e : Ending) (w' : World) : Prop :=
  ∃ A cap, e = .returned (.tuple #[.slice A d.1.length cap, .int .i64 d.2]) ∧ InsR w' A d.1 ∧ Below w.heap.size w w'
theorem own_chg {w w' : World} {B S n : Nat} {cs : Array Value} {t e : TypeId} {size : Nat} {v : Value} {xs : List Value} (ho : w.ownsRow S e size v n xs) (c : Chg w w' B cs t) (hB : v.ownBlock ≠ some B) : w'.ownsRow S e size v n xs :=
  own_keep ho (fun k hk => c.rest k (ho.lt k hk).2 (fun q => hB (by rw [hk, q])))
set_option maxRecDepth 100000 in
set_option maxHeartbeats 4000000 in
theorem decode_any (s : ByteArray) (w : World) (hs : s.size ≤ 10000) : Calls Try.prog 92 #[.string s] w (DecTo (decS s) w) := by
  unfold decS
  by_cases h2 : 2 ≤ s.size ∧ moreI 65535 s.data.toList = 0
  · rw [if_pos h2]
    have HO := Lib.hid (fun W => open_yes s W (by omega) h2.1 (by rw [h2.2]; rfl))
    have hp : (s.extract 0 (s.size - 2)).size ≤ 10000 := by simp; omega
    clear h2 hs
    generalize s.extract 0 (s.size - 2) = p at *
    have HN := Lib.hid (fun W => newEye_any p W)
    have ok := ok_new p (by omega)
    have HBy := Lib.hid (fun W B hW => byte_any ⟨p, 0, false⟩ B W ok hW)
    have hn256 := num_lt1 _ ok
    have ok1 := EyeS.next_ok ok 1
    unfold decPlain
    generalize EyeS.num ⟨p, 0, false⟩ 1 = n at *
    generalize EyeS.next ⟨p, 0, false⟩ 1 = e1 at *
    have HBl := Lib.hid (fun W B hW => blind_any e1 B W hW)
    have HL := Lib.hid (fun W B hW => left_any e1 B W ok1 hW)
    have hn0 : (0 : Int) ≤ (n : Int) := by omega
    have hn1 : (n : Int) < 256 := by omega
    clear ok hp
    by_cases hbl : e1.bl = true
    · rw [if_pos (.inl hbl)]
      rw [hbl] at HBl
      go_enter Try.func92, Try.ntmps92
      go_wp2_with fail
      refine (HO.out _).mono ?_
      rintro e w1 ⟨rfl, rfl⟩
      go_wp2_with fail
      refine (HN.out _).mono ?_
      rintro e w2 ⟨rfl, rfl⟩
      have hB := Blk.new w (EyeS.cells ⟨p, 0, false⟩) 135
      have hb := (Below.refl w.heap.size w).alloc (Nat.le_refl _) (.cells (EyeS.cells ⟨p, 0, false⟩) 135)
      go_wp2_with fail
      refine (HBy.out _ _ hB).mono ?_
      rintro e w3 ⟨rfl, c⟩
      replace hb := c.below hb hb.size (Nat.le_refl _)
      replace hB := c.blk
      clear c
      go_wp2_with fail
      refine (HBl.out _ _ hB).mono ?_
      rintro e w4 ⟨rfl, rfl⟩
      go_wp2_with fail
      go_ret2
      exact ⟨none, 0, rfl, insR_nil _ _, hb⟩
    · have hbl' : e1.bl = false := by simpa using hbl
      by_cases hle : e1.left ≠ (n : Int) * 8
      · rw [if_pos (.inr hle)]
        rw [hbl'] at HBl
        generalize e1.left = L at *
        go_enter Try.func92, Try.ntmps92
        go_wp2_with fail
        refine (HO.out _).mono ?_
        rintro e w1 ⟨rfl, rfl⟩
        go_wp2_with fail
        refine (HN.out _).mono ?_
        rintro e w2 ⟨rfl, rfl⟩
        have hB := Blk.new w (EyeS.cells ⟨p, 0, false⟩) 135
        have hb := (Below.refl w.heap.size w).alloc (Nat.le_refl _) (.cells (EyeS.cells ⟨p, 0, false⟩) 135)
        go_wp2_with fail
        refine (HBy.out _ _ hB).mono ?_
        rintro e w3 ⟨rfl, c⟩
        replace hb := c.below hb hb.size (Nat.le_refl _)
        replace hB := c.blk
        clear c
        go_wp2_with fail
        refine (HBl.out _ _ hB).mono ?_
        rintro e w4 ⟨rfl, rfl⟩
        go_wp2_with fail
        refine (HL.out _ _ hB).mono ?_
        rintro e w5 ⟨rfl, m, rfl⟩
        replace hb := below_drewN hb m
        go_wp2_with fail
        go_ret2
        exact ⟨none, 0, rfl, insR_nil _ _, hb⟩
      · have hle' : e1.left = (n : Int) * 8 := by omega
        rw [if_neg (by rw [hbl']; simp; exact hle')]
        rw [hbl'] at HBl
        rw [hle'] at HL
        clear hle hle' hbl hbl'
        by_cases h200 : 200 < n
        · rw [if_pos h200]
          have h200' : (200 : Int) < (n : Int) := by omega
          go_enter Try.func92, Try.ntmps92
          go_wp2_with fail
          refine (HO.out _).mono ?_
          rintro e w1 ⟨rfl, rfl⟩
          go_wp2_with fail
          refine (HN.out _).mono ?_
          rintro e w2 ⟨rfl, rfl⟩
          have hB := Blk.new w (EyeS.cells ⟨p, 0, false⟩) 135
          have hb := (Below.refl w.heap.size w).alloc (Nat.le_refl _) (.cells (EyeS.cells ⟨p, 0, false⟩) 135)
          go_wp2_with fail
          refine (HBy.out _ _ hB).mono ?_
          rintro e w3 ⟨rfl, c⟩
          replace hb := c.below hb hb.size (Nat.le_refl _)
          replace hB := c.blk
          clear c
          go_wp2_with fail
          refine (HBl.out _ _ hB).mono ?_
          rintro e w4 ⟨rfl, rfl⟩
          go_wp2_with fail
          refine (HL.out _ _ hB).mono ?_
          rintro e w5 ⟨rfl, m, rfl⟩
          replace hb := below_drewN hb m
          go_wp2_with fail
          go_ret2
          exact ⟨none, 0, rfl, insR_nil _ _, hb⟩
        · rw [if_neg h200]
          have h200' : ¬ (200 : Int) < (n : Int) := by omega
          obtain ⟨i0, hi, hz0, hz1, hz2⟩ := info_parts info174
          have hlen := decL_len e1 n
          have hokl := decL_ok ok1 n
          obtain ⟨d, hd⟩ : ∃ d, d = (if codeE (decL e1 n) = 0 then (decL e1 n, (0 : Int)) else ([], 3)) := ⟨_, rfl⟩
          rw [← hd]
          have HD := Lib.hid hd
          clear hd
          go_enter Try.func92, Try.ntmps92
          go_wp2_with fail
          refine (HO.out _).mono ?_
          rintro e w1 ⟨rfl, rfl⟩
          go_wp2_with fail
          refine (HN.out _).mono ?_
          rintro e w2 ⟨rfl, rfl⟩
          have hB := Blk.new w (EyeS.cells ⟨p, 0, false⟩) 135
          have hb := (Below.refl w.heap.size w).alloc (Nat.le_refl _) (.cells (EyeS.cells ⟨p, 0, false⟩) 135)
          have hwl : w.heap.size ≤ w.heap.size := Nat.le_refl _
          generalize hBB : w.heap.size = B at hwl hB ⊢
          have HBB := Lib.hid hBB
          rw [hBB] at hb
          clear hBB hwl
          go_wp2_with fail
          refine (HBy.out _ _ hB).mono ?_
          rintro e w3 ⟨rfl, c⟩
          replace hb := c.below hb (by have := hb.size; rw [← HBB.out]; exact hb.size) (Nat.le_refl _)
          replace hB := c.blk
          clear c
          go_wp2_with fail
          refine (HBl.out _ _ hB).mono ?_
          rintro e w4 ⟨rfl, rfl⟩
          go_wp2_with fail
          refine (HL.out _ _ hB).mono ?_
          rintro e w5 ⟨rfl, m, rfl⟩
          replace hb := below_drewN hb m
          replace hB := hB.drewN m
          generalize w3.drewN m = w5 at *
          clear HO HN HBy HBl HL w3
          go_wp2_with fail
          go_loopw [8, 33] (fun v x wr => ∃ k : Nat, k ≤ n ∧ x = .int .i64 k ∧ Blk wr B (eyeK e1 k).cells 135 ∧ wr.ownsRow (B + 1) 174 5 v k (ics (decL e1 k)) ∧ Below B w wr) (fun _ x _ => n - (intOf x).toNat)
          case atStart => exact ⟨0, by omega, rfl, hB, by show World.ownsRow w5 (B + 1) 174 5 _ 0 []; exact World.ownsRow_nil _ _ _ _, hb⟩
          case round =>
            clear hB hb
            obtain ⟨k, hk, rfl, hB, ho, b⟩ := hrel
            obtain ⟨A, c, rfl⟩ := own_shape ho
            by_cases hlt : k < n
            · have hltz : (k : Int) < (n : Int) := by omega
              have HI := Lib.hid (instr_any (eyeK e1 k) B wr (eyeK_ok ok1 k) hB)
              have HS := Lib.hid (decL_succ e1 k)
              have HE := Lib.hid (show eyeK e1 (k + 1) = nextE (eyeK e1 k) from rfl)
              have HX := Lib.hid ho
              have HB := Lib.hid b
              have HBk := Lib.hid hB
              have hBs := hB.lt
              clear ho b hB
              go_wp2_with fail
              refine (HI.out).mono ?_
              rintro e w6 ⟨rfl, c6⟩
              have ho6 := own_chg HX.out c6 (fun q => by have := (HX.out.lt B q).1; omega)
              have hb6 := c6.below HB.out (by have := HB.out.size; omega) (Nat.le_refl _)
              have hB6 := c6.blk
              have hw6 := c6.size
              rw [← HE.out] at hB6
              have HX6 := Lib.hid ho6
              have HB6 := Lib.hid hb6
              have HBk6 := Lib.hid hB6
              clear ho6 hb6 hB6 c6 HI
              generalize instrE (eyeK e1 k) = i at *
              unfold InstrS.cells
              go_wp2_with (at_builtin; refine wpList_append_own _ rfl (.tmp 35) (.tmp 38) 117 rfl (B + 1) 174 i0 _ 5 40 Try.underlying117 hi hz0 hz1 hz2 rfl (by decide) _ _ _ rfl (HX6.out.alloc _) ⟨w6.heap.size, 0, none⟩ 1 1 i.cells.toList rfl rfl (World.news_of_block (cs := #[.int .i64 i.op, .int .i64 i.kind, .int .i64 i.area, .int .i64 i.at_, .int .i64 i.n]) (t := 174) (fr := (0, 0)) (heap_alloc_new w6 _)) (by simp [InstrS.cells, Value.oneCell']) (by unfold maxLen; omega) (by omega) (by simp; omega) ?_)
              intro v1 w7 hown hg _
              have hg2 := World.grownBy.trans (World.grownBy_alloc w6 (.cells #[.int .i64 i.op, .int .i64 i.kind, .int .i64 i.area, .int .i64 i.at_, .int .i64 i.n] 174) _) hg
              have hown2 : w7.ownsRow (B + 1) 174 5 v1 (k + 1) (ics (decL e1 (k + 1))) := by
                rw [HS.out, ics_append]
                have : ics [i] = i.cells.toList := by simp [ics]
                rw [this]
                exact hown
              have hb2 := below_grown HB6.out hg2 (fun j e => by have := (HX6.out.lt j e).1; omega) (by omega)
              have hB2 : Blk w7 B (eyeK e1 (k + 1)).cells 135 := ⟨(hg2.block B (by omega) (fun q => by have := (HX6.out.lt B q.symm).1; omega)).trans HBk6.out.at_⟩
              have HO2 := Lib.hid hown2
              have Hb2 := Lib.hid hb2
              have HB2 := Lib.hid hB2
              clear hown hg hg2 hown2 hb2 hB2
              go_wp2_with fail
              go_roundw
              case rel => exact ⟨k + 1, by omega, by go_num, HB2.out, HO2.out, Hb2.out⟩
              case measure => simp [intOf]; omega
            · obtain rfl : k = n := by omega
              have hltz : ¬ (k : Int) < (k : Int) := by omega
              have hins := insR_own ho hokl hlen
              have hC := cright_any A (decL e1 k) c wr hins (by omega)
              rw [hlen] at hC
              have hd := HD.out
              by_cases h0 : codeE (decL e1 k) = 0
              · rw [h0] at hC
                rw [if_pos h0] at hd
                have HC := Lib.hid hC
                have HD2 := Lib.hid hd
                have HIn := Lib.hid hins
                have Hb := Lib.hid b
                clear hC hd hins ho b hB h0
                go_wp2_with fail
                refine (HC.out).mono ?_
                rintro e w6 ⟨rfl, b6⟩
                go_wp2_with fail
                go_ret2
                refine ⟨A, c, ?_, ?_, ?_⟩
                · rw [HD2.out]
                  simp only
                  rw [hlen]
                  rfl
                · rw [HD2.out]
                  exact HIn.out.keep b6
                · rw [HBB.out]
                  exact below_lift Hb.out b6 (by have := Hb.out.size; rw [HBB.out] at this; exact this)
              · rw [if_neg h0] at hd
                have HC := Lib.hid hC
                have HD2 := Lib.hid hd
                have Hb := Lib.hid b
                clear hC hd hins ho b hB
                generalize codeE (decL e1 k) = E at *
                go_wp2_with fail
                refine (HC.out).mono ?_
                rintro e w6 ⟨rfl, b6⟩
                go_wp2_with fail
                go_ret2
                refine ⟨none, 0, ?_, ?_, ?_⟩
                · rw [HD2.out]
                  rfl
                · rw [HD2.out]
                  exact insR_nil _ _
                · rw [HBB.out]
                  exact below_lift Hb.out b6 (by have := Hb.out.size; rw [HBB.out] at this; exact this)
  · rw [if_neg h2]
    by_cases hz : 2 ≤ s.size
    · have HO := Lib.hid (fun W => open_no s W (by omega) hz (by simp; intro q; exact h2 ⟨hz, q⟩))
      clear h2 hs hz
      go_enter Try.func92, Try.ntmps92
      go_wp2_with fail
      refine (HO.out _).mono ?_
      rintro e w1 ⟨rfl, rfl⟩
      go_wp2_with fail
      go_ret2
      exact ⟨none, 0, rfl, insR_nil _ _, Below.refl _ _⟩
    · have HO := Lib.hid (fun W => open_short s W (by omega) (by omega))
      clear h2 hs hz
      go_enter Try.func92, Try.ntmps92
      go_wp2_with fail
      refine (HO.out _).mono ?_
      rintro e w1 ⟨rfl, rfl⟩
      go_wp2_with fail
      go_ret2
      exact ⟨none, 0, rfl, insR_nil _ _, Below.refl _ _⟩
end Go.Proofs.Ytdhfkcodacmbfaa
