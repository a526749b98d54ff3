/- Instructions (il): what an instruction may be. -/
import Derived.Test.YtdhfkcodacmbfaaCodeA
set_option linter.unusedVariables false
set_option linter.unusedSimpArgs false
namespace Go.Proofs.Ytdhfkcodacmbfaa
open Go.RowKit

structure InstrS where
  op : Int
  kind : Int
  area : Int
  at_ : Int
  n : Int
def InstrS.cells (i : InstrS) : Array Value := #[.int .i64 i.op, .int .i64 i.kind, .int .i64 i.area, .int .i64 i.at_, .int .i64 i.n]
structure InstrS.ok (i : InstrS) : Prop where
  op : (Lit.int .i64 i.op).wf = true
  kind : (Lit.int .i64 i.kind).wf = true
  area : (Lit.int .i64 i.area).wf = true
  at_ : (Lit.int .i64 i.at_).wf = true
  n : (Lit.int .i64 i.n).wf = true
def standsI (i : InstrS) (least : Int) : Bool := decide (0 < ksize i.kind) && decide (least ≤ i.area) && decide (i.area ≤ 4) && decide (0 ≤ i.at_) && decide (i.at_ ≤ 64 - ksize i.kind) && decide (i.n = 0)
set_option maxRecDepth 100000 in
set_option maxHeartbeats 4000000 in
theorem stands_any (i : InstrS) (least : Int) (w : World) : Calls Try.prog 158 #[.agg i.cells, .int .i64 least] w fun e w' => e = .returned (.bool (standsI i least)) ∧ Below w.heap.size w w' := by
  have H := Lib.hid (fun W => size_any i.kind W)
  have hr := ksize_range i.kind
  unfold standsI
  generalize ksize i.kind = z at *
  have X := Blk.new w i.cells 174
  have hb := (Below.refl w.heap.size w).alloc (Nat.le_refl _) (.cells i.cells 174)
  unfold InstrS.cells at *
  have hgl := X.lt
  have x0 := X.cell (j := 0) (v := .int .i64 i.op) rfl
  have x1 := X.cell (j := 1) (v := .int .i64 i.kind) rfl
  have x2 := X.cell (j := 2) (v := .int .i64 i.area) rfl
  have x3 := X.cell (j := 3) (v := .int .i64 i.at_) rfl
  have x4 := X.cell (j := 4) (v := .int .i64 i.n) rfl
  go_enter Try.func158, Try.ntmps158
  go_wp2_with fail
  generalize w.alloc (.cells #[.int .i64 i.op, .int .i64 i.kind, .int .i64 i.area, .int .i64 i.at_, .int .i64 i.n] 174) = w0 at *
  refine (H.out _).mono ?_
  rintro e w1 ⟨rfl, b⟩
  have hc := fun j (hj : w.heap.size < w0.heap.size) => b.cell (p := ⟨w.heap.size, j, none⟩) hj
  have y1 := (hc 1 hgl).trans x1
  have y2 := (hc 2 hgl).trans x2
  have y3 := (hc 3 hgl).trans x3
  have y4 := (hc 4 hgl).trans x4
  have hbb := below_lift hb b hb.size
  clear x0 x1 x2 x3 x4 hc b X hb
  have hz0 := hr.1
  have hz1 := hr.2
  clear hr
  go_wp2_with fail
  all_goals
    go_ret
    exact ⟨ret_bool (by first | rfl | (simp; done) | (rw [Bool.eq_iff_iff]; simp; omega)), hbb⟩
/-- What an instruction may be: by the class of its operation. -/
def rightC (c : Int) (i : InstrS) : Bool :=
  if c = 1 then (if i.area = 0 then decide (i.at_ = 0) && isK i.kind i.n else standsI i 1)
  else if c = 2 then standsI i 2
  else if c = 3 then decide (i.area = 0) && decide (i.n = 0) && decide (i.kind = 0) && decide (0 ≤ i.at_) && decide (i.at_ ≤ 200)
  else if c = 4 then decide (i.area = 0) && decide (i.n = 0) && decide (i.kind = 0) && decide (i.at_ = 0)
  else if c = 5 then decide (i.area = 0) && decide (i.n = 0) && decide (i.at_ = 0) && decide (0 < ksize i.kind)
  else if c = 6 then decide (i.area = 0) && decide (i.n = 0) && decide (i.kind = 0) && withinI i.at_
  else if c = 7 then decide (i.kind = 0) && keepsI i.area && decide (0 ≤ i.at_) && decide (i.at_ ≤ 59) && decide (1 ≤ i.n) && decide (i.n ≤ 9999)
  else if c = 8 then decide (i.kind = 0) && keepsI i.area && decide (0 ≤ i.at_) && decide (i.at_ < 64) && decide (i.n = 0)
  else false
def rightI (i : InstrS) : Bool := rightC (classI i.op) i
theorem class_range (n : Int) : classI n = 0 ∨ classI n = 1 ∨ classI n = 2 ∨ classI n = 3 ∨ classI n = 4 ∨ classI n = 5 ∨ classI n = 6 ∨ classI n = 7 ∨ classI n = 8 := by
  unfold classI
  split
  · next h =>
    have hl : n.toNat < 37 := by omega
    have key : ∀ p ∈ opT, p.2 = 0 ∨ p.2 = 1 ∨ p.2 = 2 ∨ p.2 = 3 ∨ p.2 = 4 ∨ p.2 = 5 ∨ p.2 = 6 ∨ p.2 = 7 ∨ p.2 = 8 := by
      intro p hp
      have : (opT.map (·.2)).all (fun c => c == 0 || c == 1 || c == 2 || c == 3 || c == 4 || c == 5 || c == 6 || c == 7 || c == 8) = true := by decide
      have := List.all_eq_true.1 this p.2 (List.mem_map_of_mem hp)
      simpa [or_assoc] using this
    have hm : opT.getD n.toNat (⟨#[]⟩, 0) ∈ opT := by
      rw [List.getD_eq_getElem?_getD, List.getElem?_eq_getElem (by rw [opT_len]; exact hl)]
      exact List.getElem_mem _
    exact key _ hm
  · exact .inl rfl
set_option maxRecDepth 100000 in
set_option maxHeartbeats 8000000 in
theorem right_any (i : InstrS) (w : World) (ok : i.ok) : Calls Try.prog 150 #[.agg i.cells] w fun e w' => e = .returned (.bool (rightI i)) ∧ Below w.heap.size w w' := by
  have HO := Lib.hid (fun W => ilof_any i.op W)
  have HS := Lib.hid (fun W => size_any i.kind W)
  have HI := Lib.hid (fun W => is_any i.kind i.n W ok.n)
  have HT1 := Lib.hid (fun W => stands_any i 1 W)
  have HT2 := Lib.hid (fun W => stands_any i 2 W)
  have HN := Lib.hid (fun W => within_any i.at_ W)
  have HK := Lib.hid (fun W => keeps_any i.area W)
  have hcl := class_range i.op
  unfold rightI
  unfold OfTo at HO
  have hfd := field191
  have hr := ksize_range i.kind
  generalize classI i.op = c at *
  unfold rightC
  generalize ksize i.kind = z at *
  generalize isK i.kind i.n = bi at *
  generalize standsI i 1 = s1 at *
  generalize standsI i 2 = s2 at *
  generalize withinI i.at_ = bw at *
  have X := Blk.new w i.cells 174
  have hb := (Below.refl w.heap.size w).alloc (Nat.le_refl _) (.cells i.cells 174)
  unfold InstrS.cells at *
  have hgl := X.lt
  clear ok
  obtain ⟨iop, ikind, iarea, iat, inn⟩ := i
  simp only at *
  have hAK : (iarea = 0 ∨ ¬ iarea = 0) ∧ (ikind = 0 ∨ ¬ ikind = 0) := by omega
  rcases hcl with rfl | rfl | rfl | rfl | rfl | rfl | rfl | rfl | rfl <;> rcases hAK with ⟨rfl | hA, rfl | hK⟩
  all_goals
    try (have hA' : (iarea == 0) = false := by simpa using hA)
    try (have hK' : (ikind == 0) = false := by simpa using hK)
    go_enter Try.func150, Try.ntmps150
    go_wp2_with fail
    generalize w.alloc (.cells #[.int .i64 iop, .int .i64 _, .int .i64 _, .int .i64 iat, .int .i64 inn] 174) = w0 at *
    have x0 := X.cell (j := 0) (v := .int .i64 iop) rfl
    have x1 := X.cell (j := 1) (v := .int .i64 _) rfl
    have x2 := X.cell (j := 2) (v := .int .i64 _) rfl
    have x3 := X.cell (j := 3) (v := .int .i64 iat) rfl
    have x4 := X.cell (j := 4) (v := .int .i64 inn) rfl
    refine (HO.out _).mono ?_
    rintro e w1 ⟨s, rfl, b⟩
    have hc := fun j (hj : w.heap.size < w0.heap.size) => b.cell (p := ⟨w.heap.size, j, none⟩) hj
    have y0 := (hc 0 hgl).trans x0
    have y1 := (hc 1 hgl).trans x1
    have y2 := (hc 2 hgl).trans x2
    have y3 := (hc 3 hgl).trans x3
    have y4 := (hc 4 hgl).trans x4
    have hbb := below_lift hb b hb.size
    clear x0 x1 x2 x3 x4 hc b X hb hgl HO
    go_wp2_with (first | (go_at_call 83; (with_reducible refine (HI.out _).mono ?_); rintro e w2 ⟨rfl, b2⟩) | (go_at_call 158; (with_reducible refine (HT1.out _).mono ?_); rintro e w2 ⟨rfl, b2⟩) | (go_at_call 158; (with_reducible refine (HT2.out _).mono ?_); rintro e w2 ⟨rfl, b2⟩) | (go_at_call 81; (with_reducible refine (HS.out _).mono ?_); rintro e w2 ⟨rfl, b2⟩) | (go_at_call 159; (with_reducible refine (HN.out _).mono ?_); rintro e w2 ⟨rfl, b2⟩) | (go_at_call 160; (with_reducible refine (HK.out _).mono ?_); rintro e w2 ⟨rfl, rfl⟩))
    all_goals
      go_ret
      refine ⟨ret_bool ?_, by first | exact hbb | exact below_then hbb (by assumption)⟩
      first | rfl | (simp; done) | (rw [Bool.eq_iff_iff]; simp; omega) | (simp [*]; done) | (rw [Bool.eq_iff_iff]; simp [*]; omega)
end Go.Proofs.Ytdhfkcodacmbfaa
