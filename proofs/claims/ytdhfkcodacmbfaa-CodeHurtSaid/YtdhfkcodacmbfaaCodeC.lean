/- Instructions as the document has them: Right. -/
import Derived.Test.YtdhfkcodacmbfaaCodeB
import Derived.Laws.StructEq
set_option linter.unusedVariables false
set_option linter.unusedSimpArgs false
namespace Go.Proofs.Ytdhfkcodacmbfaa
open Go.RowKit

def readsR (n : Int) : Bool := decide (n = 1) || decide (n = 2) || (decide (7 ≤ n) && decide (n ≤ 12)) || (decide (14 ≤ n) && decide (n ≤ 24))
def writesR (n : Int) : Bool := decide (3 ≤ n) && decide (n ≤ 6)
set_option maxRecDepth 100000 in
theorem rreads_any (n : Int) (w : World) : Calls Try.prog 151 #[.int .i64 n] w fun e w' => e = .returned (.bool (readsR n)) ∧ w' = w := by
  unfold readsR
  have hc : n < 1 ∨ n = 1 ∨ n = 2 ∨ (3 ≤ n ∧ n < 7) ∨ (7 ≤ n ∧ n ≤ 12) ∨ n = 13 ∨ (14 ≤ n ∧ n ≤ 24) ∨ 24 < n := by omega
  rcases hc with h | rfl | rfl | ⟨h, h'⟩ | ⟨h, h'⟩ | rfl | ⟨h, h'⟩ | h
  all_goals
    try (have h1 : (n == 1) = false := by (simp; omega))
    try (have h2 : (n == 2) = false := by (simp; omega))
    go_enter Try.func151, Try.ntmps151
    go_wp2_with fail
    all_goals
      go_ret
      exact ⟨ret_bool (by first | rfl | (simp; done) | (rw [Bool.eq_iff_iff]; simp; omega)), rfl⟩
set_option maxRecDepth 100000 in
theorem rwrites_any (n : Int) (w : World) : Calls Try.prog 152 #[.int .i64 n] w fun e w' => e = .returned (.bool (writesR n)) ∧ w' = w := by
  unfold writesR
  by_cases h : 3 ≤ n
  · go_enter Try.func152, Try.ntmps152
    go_wp2_with fail
    go_ret
    exact ⟨ret_bool (by simp [h]), rfl⟩
  · have h' : decide (3 ≤ n) = false := by simpa using h
    go_enter Try.func152, Try.ntmps152
    go_wp2_with fail
    go_ret
    exact ⟨ret_bool (by first | rfl | simp [h']), rfl⟩
def classR (n : Int) : Int := if readsR n = true then 1 else if writesR n = true then 2 else if 25 ≤ n ∧ n ≤ 27 then 3 else if n = 13 ∨ (28 ≤ n ∧ n ≤ 30) ∨ n = 33 then 4 else if n = 31 then 5 else if n = 32 then 6 else if n = 34 ∨ n = 35 then 7 else if n = 36 then 8 else 0
theorem class_eq (n : Int) : classI n = classR n := by
  by_cases h : 0 ≤ n ∧ n < 37
  · obtain ⟨k, rfl⟩ : ∃ k : Nat, n = k := ⟨n.toNat, by omega⟩
    have key : (List.range 37).all (fun k => classI (k : Int) == classR (k : Int)) = true := by decide
    have := List.all_eq_true.1 key k (List.mem_range.2 (by omega))
    simpa using this
  · have h1 : classI n = 0 := by unfold classI; rw [if_neg h]
    rw [h1]
    unfold classR readsR writesR
    rw [if_neg (by simp; omega), if_neg (by simp; omega), if_neg (by omega), if_neg (by omega), if_neg (by omega), if_neg (by omega), if_neg (by omega), if_neg (by omega)]
theorem reads_class (n : Int) : readsR n = decide (classI n = 1) := by
  rw [class_eq]
  unfold classR
  cases h : readsR n with
  | true => simp
  | false =>
    rw [if_neg (by simp)]
    symm
    apply decide_eq_false
    repeat' split
    all_goals decide
theorem within_reads (n : Int) : withinI n = (readsR n && decide (2 < n)) := by
  unfold withinI
  rw [← reads_class]
  unfold readsR
  rw [Bool.eq_iff_iff]
  simp
  omega
theorem below_cells {W w1 : World} (hb : Below W.heap.size W w1) : (∀ b o, b < W.heap.size → w1.cell? ⟨b, o, none⟩ = W.cell? ⟨b, o, none⟩) ∧ (∀ b o, b < W.heap.size → w1.frozen? ⟨b, o, none⟩ = W.frozen? ⟨b, o, none⟩) :=
  ⟨fun b o h => hb.cell (p := ⟨b, o, none⟩) h, fun b o h => hb.frozen (p := ⟨b, o, none⟩) h⟩
set_option maxRecDepth 100000 in
set_option maxHeartbeats 4000000 in
theorem rr_low (op kind area at_ n : Int) (w : World) (ok : (Lit.int .i64 n).wf = true) (hop : op < 1) : Calls Try.prog 138 #[.agg #[.int .i64 op, .int .i64 kind, .int .i64 area, .int .i64 at_, .int .i64 n]] w fun e w' => e = .returned (.bool (rightI ⟨op, kind, area, at_, n⟩)) ∧ Below w.heap.size w w' := by
  have hcl : classI op = 0 := by rw [class_eq]; unfold classR readsR writesR; first | (subst hop; decide) | (repeat' (first | rw [if_pos (by simp; omega)] | rw [if_neg (by simp; omega)] | rw [if_pos (by omega)] | rw [if_neg (by omega)]))
  have hr : readsR op = false := by unfold readsR; first | (subst hop; decide) | (rw [Bool.eq_iff_iff]; simp; omega)
  have hw : writesR op = false := by unfold writesR; first | (subst hop; decide) | (rw [Bool.eq_iff_iff]; simp; omega)
  have HR := Lib.hid (fun W => rreads_any op W)
  have HW := Lib.hid (fun W => rwrites_any op W)
  rw [hr] at HR
  rw [hw] at HW
  unfold rightI
  simp only [hcl]
  clear hcl hr hw
  simp only [show rightC 0 ⟨op, kind, area, at_, n⟩ = false from rfl]
  have b13 : (op == 13) = false := by simp; omega
  have b31 : (op == 31) = false := by simp; omega
  have b32 : (op == 32) = false := by simp; omega
  have b33 : (op == 33) = false := by simp; omega
  have b34 : (op == 34) = false := by simp; omega
  have b35 : (op == 35) = false := by simp; omega
  have b36 : (op == 36) = false := by simp; omega
  go_enter Try.func138, Try.ntmps138
  go_wp2_with (first | (go_at_call 151; (with_reducible refine (HR.out _).mono ?_); rintro e w2 ⟨rfl, rfl⟩) | (go_at_call 152; (with_reducible refine (HW.out _).mono ?_); rintro e w2 ⟨rfl, rfl⟩))
  all_goals
    go_ret
    refine ⟨ret_bool ?_, by first | exact ((Below.refl _ _).alloc (Nat.le_refl _) _).alloc (by simp) _ | exact below_lift (((Below.refl _ _).alloc (Nat.le_refl _) _).alloc (by simp) _) b3.out (by simp; omega) | (repeat (first | exact Below.refl _ _ | refine Below.setCell ?_ (by simp) _ | refine Below.alloc ?_ (by simp) _))⟩
    first | rfl | (simp; done) | (simp [*]; done) | (rw [Bool.eq_iff_iff]; simp; omega) | (rw [Bool.eq_iff_iff]; simp [*]; omega)
set_option maxRecDepth 100000 in
set_option maxHeartbeats 4000000 in
theorem rr_high (op kind area at_ n : Int) (w : World) (ok : (Lit.int .i64 n).wf = true) (hop : 36 < op) : Calls Try.prog 138 #[.agg #[.int .i64 op, .int .i64 kind, .int .i64 area, .int .i64 at_, .int .i64 n]] w fun e w' => e = .returned (.bool (rightI ⟨op, kind, area, at_, n⟩)) ∧ Below w.heap.size w w' := by
  have hcl : classI op = 0 := by rw [class_eq]; unfold classR readsR writesR; first | (subst hop; decide) | (repeat' (first | rw [if_pos (by simp; omega)] | rw [if_neg (by simp; omega)] | rw [if_pos (by omega)] | rw [if_neg (by omega)]))
  have hr : readsR op = false := by unfold readsR; first | (subst hop; decide) | (rw [Bool.eq_iff_iff]; simp; omega)
  have hw : writesR op = false := by unfold writesR; first | (subst hop; decide) | (rw [Bool.eq_iff_iff]; simp; omega)
  have HR := Lib.hid (fun W => rreads_any op W)
  have HW := Lib.hid (fun W => rwrites_any op W)
  rw [hr] at HR
  rw [hw] at HW
  unfold rightI
  simp only [hcl]
  clear hcl hr hw
  simp only [show rightC 0 ⟨op, kind, area, at_, n⟩ = false from rfl]
  have b13 : (op == 13) = false := by simp; omega
  have b31 : (op == 31) = false := by simp; omega
  have b32 : (op == 32) = false := by simp; omega
  have b33 : (op == 33) = false := by simp; omega
  have b34 : (op == 34) = false := by simp; omega
  have b35 : (op == 35) = false := by simp; omega
  have b36 : (op == 36) = false := by simp; omega
  go_enter Try.func138, Try.ntmps138
  go_wp2_with (first | (go_at_call 151; (with_reducible refine (HR.out _).mono ?_); rintro e w2 ⟨rfl, rfl⟩) | (go_at_call 152; (with_reducible refine (HW.out _).mono ?_); rintro e w2 ⟨rfl, rfl⟩))
  all_goals
    go_ret
    refine ⟨ret_bool ?_, by first | exact ((Below.refl _ _).alloc (Nat.le_refl _) _).alloc (by simp) _ | exact below_lift (((Below.refl _ _).alloc (Nat.le_refl _) _).alloc (by simp) _) b3.out (by simp; omega) | (repeat (first | exact Below.refl _ _ | refine Below.setCell ?_ (by simp) _ | refine Below.alloc ?_ (by simp) _))⟩
    first | rfl | (simp; done) | (simp [*]; done) | (rw [Bool.eq_iff_iff]; simp; omega) | (rw [Bool.eq_iff_iff]; simp [*]; omega)
set_option maxRecDepth 100000 in
set_option maxHeartbeats 4000000 in
theorem rr_jump (op kind area at_ n : Int) (w : World) (ok : (Lit.int .i64 n).wf = true) (hop : 25 ≤ op ∧ op ≤ 27) : Calls Try.prog 138 #[.agg #[.int .i64 op, .int .i64 kind, .int .i64 area, .int .i64 at_, .int .i64 n]] w fun e w' => e = .returned (.bool (rightI ⟨op, kind, area, at_, n⟩)) ∧ Below w.heap.size w w' := by
  have hcl : classI op = 3 := by rw [class_eq]; unfold classR readsR writesR; first | (subst hop; decide) | (repeat' (first | rw [if_pos (by simp; omega)] | rw [if_neg (by simp; omega)] | rw [if_pos (by omega)] | rw [if_neg (by omega)]))
  have hr : readsR op = false := by unfold readsR; first | (subst hop; decide) | (rw [Bool.eq_iff_iff]; simp; omega)
  have hw : writesR op = false := by unfold writesR; first | (subst hop; decide) | (rw [Bool.eq_iff_iff]; simp; omega)
  have HR := Lib.hid (fun W => rreads_any op W)
  have HW := Lib.hid (fun W => rwrites_any op W)
  rw [hr] at HR
  rw [hw] at HW
  unfold rightI
  simp only [hcl]
  clear hcl hr hw
  simp only [show rightC 3 ⟨op, kind, area, at_, n⟩ = (decide (area = 0) && decide (n = 0) && decide (kind = 0) && decide (0 ≤ at_) && decide (at_ ≤ 200)) from rfl]
  have b13 : (op == 13) = false := by simp; omega
  have b31 : (op == 31) = false := by simp; omega
  have b32 : (op == 32) = false := by simp; omega
  have b33 : (op == 33) = false := by simp; omega
  have b34 : (op == 34) = false := by simp; omega
  have b35 : (op == 35) = false := by simp; omega
  have b36 : (op == 36) = false := by simp; omega
  go_enter Try.func138, Try.ntmps138
  go_wp2_with (first | (go_at_call 151; (with_reducible refine (HR.out _).mono ?_); rintro e w2 ⟨rfl, rfl⟩) | (go_at_call 152; (with_reducible refine (HW.out _).mono ?_); rintro e w2 ⟨rfl, rfl⟩))
  all_goals
    go_ret
    refine ⟨ret_bool ?_, by first | exact ((Below.refl _ _).alloc (Nat.le_refl _) _).alloc (by simp) _ | exact below_lift (((Below.refl _ _).alloc (Nat.le_refl _) _).alloc (by simp) _) b3.out (by simp; omega) | (repeat (first | exact Below.refl _ _ | refine Below.setCell ?_ (by simp) _ | refine Below.alloc ?_ (by simp) _))⟩
    first | rfl | (simp; done) | (simp [*]; done) | (rw [Bool.eq_iff_iff]; simp; omega) | (rw [Bool.eq_iff_iff]; simp [*]; omega)
set_option maxRecDepth 100000 in
set_option maxHeartbeats 4000000 in
theorem rr_ret (op kind area at_ n : Int) (w : World) (ok : (Lit.int .i64 n).wf = true) (hop : 28 ≤ op ∧ op ≤ 30) : Calls Try.prog 138 #[.agg #[.int .i64 op, .int .i64 kind, .int .i64 area, .int .i64 at_, .int .i64 n]] w fun e w' => e = .returned (.bool (rightI ⟨op, kind, area, at_, n⟩)) ∧ Below w.heap.size w w' := by
  have hcl : classI op = 4 := by rw [class_eq]; unfold classR readsR writesR; first | (subst hop; decide) | (repeat' (first | rw [if_pos (by simp; omega)] | rw [if_neg (by simp; omega)] | rw [if_pos (by omega)] | rw [if_neg (by omega)]))
  have hr : readsR op = false := by unfold readsR; first | (subst hop; decide) | (rw [Bool.eq_iff_iff]; simp; omega)
  have hw : writesR op = false := by unfold writesR; first | (subst hop; decide) | (rw [Bool.eq_iff_iff]; simp; omega)
  have HR := Lib.hid (fun W => rreads_any op W)
  have HW := Lib.hid (fun W => rwrites_any op W)
  rw [hr] at HR
  rw [hw] at HW
  unfold rightI
  simp only [hcl]
  clear hcl hr hw
  simp only [show rightC 4 ⟨op, kind, area, at_, n⟩ = (decide (area = 0) && decide (n = 0) && decide (kind = 0) && decide (at_ = 0)) from rfl]
  have b13 : (op == 13) = false := by simp; omega
  have b31 : (op == 31) = false := by simp; omega
  have b32 : (op == 32) = false := by simp; omega
  have b33 : (op == 33) = false := by simp; omega
  have b34 : (op == 34) = false := by simp; omega
  have b35 : (op == 35) = false := by simp; omega
  have b36 : (op == 36) = false := by simp; omega
  go_enter Try.func138, Try.ntmps138
  go_wp2_with (first | (go_at_call 151; (with_reducible refine (HR.out _).mono ?_); rintro e w2 ⟨rfl, rfl⟩) | (go_at_call 152; (with_reducible refine (HW.out _).mono ?_); rintro e w2 ⟨rfl, rfl⟩))
  all_goals
    go_ret
    refine ⟨ret_bool ?_, by first | exact ((Below.refl _ _).alloc (Nat.le_refl _) _).alloc (by simp) _ | exact below_lift (((Below.refl _ _).alloc (Nat.le_refl _) _).alloc (by simp) _) b3.out (by simp; omega) | (repeat (first | exact Below.refl _ _ | refine Below.setCell ?_ (by simp) _ | refine Below.alloc ?_ (by simp) _))⟩
    first | rfl | (simp; done) | (simp [*]; done) | (rw [Bool.eq_iff_iff]; simp; omega) | (rw [Bool.eq_iff_iff]; simp [*]; omega)
set_option maxRecDepth 100000 in
set_option maxHeartbeats 4000000 in
theorem rr_13 (op kind area at_ n : Int) (w : World) (ok : (Lit.int .i64 n).wf = true) (hop : op = 13) : Calls Try.prog 138 #[.agg #[.int .i64 op, .int .i64 kind, .int .i64 area, .int .i64 at_, .int .i64 n]] w fun e w' => e = .returned (.bool (rightI ⟨op, kind, area, at_, n⟩)) ∧ Below w.heap.size w w' := by
  have hcl : classI op = 4 := by rw [class_eq]; unfold classR readsR writesR; first | (subst hop; decide) | (repeat' (first | rw [if_pos (by simp; omega)] | rw [if_neg (by simp; omega)] | rw [if_pos (by omega)] | rw [if_neg (by omega)]))
  have hr : readsR op = false := by unfold readsR; first | (subst hop; decide) | (rw [Bool.eq_iff_iff]; simp; omega)
  have hw : writesR op = false := by unfold writesR; first | (subst hop; decide) | (rw [Bool.eq_iff_iff]; simp; omega)
  have HR := Lib.hid (fun W => rreads_any op W)
  have HW := Lib.hid (fun W => rwrites_any op W)
  rw [hr] at HR
  rw [hw] at HW
  unfold rightI
  simp only [hcl]
  clear hcl hr hw
  subst hop
  simp only [show rightC 4 ⟨13, kind, area, at_, n⟩ = (decide (area = 0) && decide (n = 0) && decide (kind = 0) && decide (at_ = 0)) from rfl]
  go_enter Try.func138, Try.ntmps138
  go_wp2_with (first | (go_at_call 151; (with_reducible refine (HR.out _).mono ?_); rintro e w2 ⟨rfl, rfl⟩) | (go_at_call 152; (with_reducible refine (HW.out _).mono ?_); rintro e w2 ⟨rfl, rfl⟩))
  all_goals
    go_ret
    refine ⟨ret_bool ?_, by first | exact ((Below.refl _ _).alloc (Nat.le_refl _) _).alloc (by simp) _ | exact below_lift (((Below.refl _ _).alloc (Nat.le_refl _) _).alloc (by simp) _) b3.out (by simp; omega) | (repeat (first | exact Below.refl _ _ | refine Below.setCell ?_ (by simp) _ | refine Below.alloc ?_ (by simp) _))⟩
    first | rfl | (simp; done) | (simp [*]; done) | (rw [Bool.eq_iff_iff]; simp; omega) | (rw [Bool.eq_iff_iff]; simp [*]; omega)
set_option maxRecDepth 100000 in
set_option maxHeartbeats 4000000 in
theorem rr_33 (op kind area at_ n : Int) (w : World) (ok : (Lit.int .i64 n).wf = true) (hop : op = 33) : Calls Try.prog 138 #[.agg #[.int .i64 op, .int .i64 kind, .int .i64 area, .int .i64 at_, .int .i64 n]] w fun e w' => e = .returned (.bool (rightI ⟨op, kind, area, at_, n⟩)) ∧ Below w.heap.size w w' := by
  have hcl : classI op = 4 := by rw [class_eq]; unfold classR readsR writesR; first | (subst hop; decide) | (repeat' (first | rw [if_pos (by simp; omega)] | rw [if_neg (by simp; omega)] | rw [if_pos (by omega)] | rw [if_neg (by omega)]))
  have hr : readsR op = false := by unfold readsR; first | (subst hop; decide) | (rw [Bool.eq_iff_iff]; simp; omega)
  have hw : writesR op = false := by unfold writesR; first | (subst hop; decide) | (rw [Bool.eq_iff_iff]; simp; omega)
  have HR := Lib.hid (fun W => rreads_any op W)
  have HW := Lib.hid (fun W => rwrites_any op W)
  rw [hr] at HR
  rw [hw] at HW
  unfold rightI
  simp only [hcl]
  clear hcl hr hw
  subst hop
  simp only [show rightC 4 ⟨33, kind, area, at_, n⟩ = (decide (area = 0) && decide (n = 0) && decide (kind = 0) && decide (at_ = 0)) from rfl]
  go_enter Try.func138, Try.ntmps138
  go_wp2_with (first | (go_at_call 151; (with_reducible refine (HR.out _).mono ?_); rintro e w2 ⟨rfl, rfl⟩) | (go_at_call 152; (with_reducible refine (HW.out _).mono ?_); rintro e w2 ⟨rfl, rfl⟩))
  all_goals
    go_ret
    refine ⟨ret_bool ?_, by first | exact ((Below.refl _ _).alloc (Nat.le_refl _) _).alloc (by simp) _ | exact below_lift (((Below.refl _ _).alloc (Nat.le_refl _) _).alloc (by simp) _) b3.out (by simp; omega) | (repeat (first | exact Below.refl _ _ | refine Below.setCell ?_ (by simp) _ | refine Below.alloc ?_ (by simp) _))⟩
    first | rfl | (simp; done) | (simp [*]; done) | (rw [Bool.eq_iff_iff]; simp; omega) | (rw [Bool.eq_iff_iff]; simp [*]; omega)
set_option maxRecDepth 100000 in
set_option maxHeartbeats 4000000 in
theorem rr_34 (op kind area at_ n : Int) (w : World) (ok : (Lit.int .i64 n).wf = true) (hop : op = 34) : Calls Try.prog 138 #[.agg #[.int .i64 op, .int .i64 kind, .int .i64 area, .int .i64 at_, .int .i64 n]] w fun e w' => e = .returned (.bool (rightI ⟨op, kind, area, at_, n⟩)) ∧ Below w.heap.size w w' := by
  have hcl : classI op = 7 := by rw [class_eq]; unfold classR readsR writesR; first | (subst hop; decide) | (repeat' (first | rw [if_pos (by simp; omega)] | rw [if_neg (by simp; omega)] | rw [if_pos (by omega)] | rw [if_neg (by omega)]))
  have hr : readsR op = false := by unfold readsR; first | (subst hop; decide) | (rw [Bool.eq_iff_iff]; simp; omega)
  have hw : writesR op = false := by unfold writesR; first | (subst hop; decide) | (rw [Bool.eq_iff_iff]; simp; omega)
  have HR := Lib.hid (fun W => rreads_any op W)
  have HW := Lib.hid (fun W => rwrites_any op W)
  rw [hr] at HR
  rw [hw] at HW
  unfold rightI
  simp only [hcl]
  clear hcl hr hw
  subst hop
  simp only [show rightC 7 ⟨34, kind, area, at_, n⟩ = (decide (kind = 0) && keepsI area && decide (0 ≤ at_) && decide (at_ ≤ 59) && decide (1 ≤ n) && decide (n ≤ 9999)) from rfl]
  unfold keepsI
  go_enter Try.func138, Try.ntmps138
  go_wp2_with (first | (go_at_call 151; (with_reducible refine (HR.out _).mono ?_); rintro e w2 ⟨rfl, rfl⟩) | (go_at_call 152; (with_reducible refine (HW.out _).mono ?_); rintro e w2 ⟨rfl, rfl⟩))
  all_goals
    go_ret
    refine ⟨ret_bool ?_, by first | exact ((Below.refl _ _).alloc (Nat.le_refl _) _).alloc (by simp) _ | exact below_lift (((Below.refl _ _).alloc (Nat.le_refl _) _).alloc (by simp) _) b3.out (by simp; omega) | (repeat (first | exact Below.refl _ _ | refine Below.setCell ?_ (by simp) _ | refine Below.alloc ?_ (by simp) _))⟩
    first | rfl | (simp; done) | (simp [*]; done) | (rw [Bool.eq_iff_iff]; simp; omega) | (rw [Bool.eq_iff_iff]; simp [*]; omega)
set_option maxRecDepth 100000 in
set_option maxHeartbeats 4000000 in
theorem rr_35 (op kind area at_ n : Int) (w : World) (ok : (Lit.int .i64 n).wf = true) (hop : op = 35) : Calls Try.prog 138 #[.agg #[.int .i64 op, .int .i64 kind, .int .i64 area, .int .i64 at_, .int .i64 n]] w fun e w' => e = .returned (.bool (rightI ⟨op, kind, area, at_, n⟩)) ∧ Below w.heap.size w w' := by
  have hcl : classI op = 7 := by rw [class_eq]; unfold classR readsR writesR; first | (subst hop; decide) | (repeat' (first | rw [if_pos (by simp; omega)] | rw [if_neg (by simp; omega)] | rw [if_pos (by omega)] | rw [if_neg (by omega)]))
  have hr : readsR op = false := by unfold readsR; first | (subst hop; decide) | (rw [Bool.eq_iff_iff]; simp; omega)
  have hw : writesR op = false := by unfold writesR; first | (subst hop; decide) | (rw [Bool.eq_iff_iff]; simp; omega)
  have HR := Lib.hid (fun W => rreads_any op W)
  have HW := Lib.hid (fun W => rwrites_any op W)
  rw [hr] at HR
  rw [hw] at HW
  unfold rightI
  simp only [hcl]
  clear hcl hr hw
  subst hop
  simp only [show rightC 7 ⟨35, kind, area, at_, n⟩ = (decide (kind = 0) && keepsI area && decide (0 ≤ at_) && decide (at_ ≤ 59) && decide (1 ≤ n) && decide (n ≤ 9999)) from rfl]
  unfold keepsI
  go_enter Try.func138, Try.ntmps138
  go_wp2_with (first | (go_at_call 151; (with_reducible refine (HR.out _).mono ?_); rintro e w2 ⟨rfl, rfl⟩) | (go_at_call 152; (with_reducible refine (HW.out _).mono ?_); rintro e w2 ⟨rfl, rfl⟩))
  all_goals
    go_ret
    refine ⟨ret_bool ?_, by first | exact ((Below.refl _ _).alloc (Nat.le_refl _) _).alloc (by simp) _ | exact below_lift (((Below.refl _ _).alloc (Nat.le_refl _) _).alloc (by simp) _) b3.out (by simp; omega) | (repeat (first | exact Below.refl _ _ | refine Below.setCell ?_ (by simp) _ | refine Below.alloc ?_ (by simp) _))⟩
    first | rfl | (simp; done) | (simp [*]; done) | (rw [Bool.eq_iff_iff]; simp; omega) | (rw [Bool.eq_iff_iff]; simp [*]; omega)
set_option maxRecDepth 100000 in
set_option maxHeartbeats 4000000 in
theorem rr_36 (op kind area at_ n : Int) (w : World) (ok : (Lit.int .i64 n).wf = true) (hop : op = 36) : Calls Try.prog 138 #[.agg #[.int .i64 op, .int .i64 kind, .int .i64 area, .int .i64 at_, .int .i64 n]] w fun e w' => e = .returned (.bool (rightI ⟨op, kind, area, at_, n⟩)) ∧ Below w.heap.size w w' := by
  have hcl : classI op = 8 := by rw [class_eq]; unfold classR readsR writesR; first | (subst hop; decide) | (repeat' (first | rw [if_pos (by simp; omega)] | rw [if_neg (by simp; omega)] | rw [if_pos (by omega)] | rw [if_neg (by omega)]))
  have hr : readsR op = false := by unfold readsR; first | (subst hop; decide) | (rw [Bool.eq_iff_iff]; simp; omega)
  have hw : writesR op = false := by unfold writesR; first | (subst hop; decide) | (rw [Bool.eq_iff_iff]; simp; omega)
  have HR := Lib.hid (fun W => rreads_any op W)
  have HW := Lib.hid (fun W => rwrites_any op W)
  rw [hr] at HR
  rw [hw] at HW
  unfold rightI
  simp only [hcl]
  clear hcl hr hw
  subst hop
  simp only [show rightC 8 ⟨36, kind, area, at_, n⟩ = (decide (kind = 0) && keepsI area && decide (0 ≤ at_) && decide (at_ < 64) && decide (n = 0)) from rfl]
  unfold keepsI
  go_enter Try.func138, Try.ntmps138
  go_wp2_with (first | (go_at_call 151; (with_reducible refine (HR.out _).mono ?_); rintro e w2 ⟨rfl, rfl⟩) | (go_at_call 152; (with_reducible refine (HW.out _).mono ?_); rintro e w2 ⟨rfl, rfl⟩))
  all_goals
    go_ret
    refine ⟨ret_bool ?_, by first | exact ((Below.refl _ _).alloc (Nat.le_refl _) _).alloc (by simp) _ | exact below_lift (((Below.refl _ _).alloc (Nat.le_refl _) _).alloc (by simp) _) b3.out (by simp; omega) | (repeat (first | exact Below.refl _ _ | refine Below.setCell ?_ (by simp) _ | refine Below.alloc ?_ (by simp) _))⟩
    first | rfl | (simp; done) | (simp [*]; done) | (rw [Bool.eq_iff_iff]; simp; omega) | (rw [Bool.eq_iff_iff]; simp [*]; omega)
set_option maxRecDepth 100000 in
set_option maxHeartbeats 4000000 in
theorem rr_32 (op kind area at_ n : Int) (w : World) (ok : (Lit.int .i64 n).wf = true) (hop : op = 32) : Calls Try.prog 138 #[.agg #[.int .i64 op, .int .i64 kind, .int .i64 area, .int .i64 at_, .int .i64 n]] w fun e w' => e = .returned (.bool (rightI ⟨op, kind, area, at_, n⟩)) ∧ Below w.heap.size w w' := by
  have hcl : classI op = 6 := by rw [class_eq]; unfold classR readsR writesR; first | (subst hop; decide) | (repeat' (first | rw [if_pos (by simp; omega)] | rw [if_neg (by simp; omega)] | rw [if_pos (by omega)] | rw [if_neg (by omega)]))
  have hr : readsR op = false := by unfold readsR; first | (subst hop; decide) | (rw [Bool.eq_iff_iff]; simp; omega)
  have hw : writesR op = false := by unfold writesR; first | (subst hop; decide) | (rw [Bool.eq_iff_iff]; simp; omega)
  have HR := Lib.hid (fun W => rreads_any op W)
  have HW := Lib.hid (fun W => rwrites_any op W)
  rw [hr] at HR
  rw [hw] at HW
  unfold rightI
  simp only [hcl]
  clear hcl hr hw
  subst hop
  simp only [show rightC 6 ⟨32, kind, area, at_, n⟩ = (decide (area = 0) && decide (n = 0) && decide (kind = 0) && withinI at_) from rfl]
  have HR2 := Lib.hid (fun W => rreads_any at_ W)
  rw [within_reads]
  generalize readsR at_ = ra at *
  go_enter Try.func138, Try.ntmps138
  go_wp2_with (first | (go_at_call 151; (with_reducible refine (HR.out _).mono ?_); rintro e w2 ⟨rfl, rfl⟩) | (go_at_call 152; (with_reducible refine (HW.out _).mono ?_); rintro e w2 ⟨rfl, rfl⟩) | (go_at_call 151; (with_reducible refine (HR2.out _).mono ?_); rintro e w2 ⟨rfl, rfl⟩))
  all_goals
    go_ret
    refine ⟨ret_bool ?_, by first | exact ((Below.refl _ _).alloc (Nat.le_refl _) _).alloc (by simp) _ | exact below_lift (((Below.refl _ _).alloc (Nat.le_refl _) _).alloc (by simp) _) b3.out (by simp; omega) | (repeat (first | exact Below.refl _ _ | refine Below.setCell ?_ (by simp) _ | refine Below.alloc ?_ (by simp) _))⟩
    first | rfl | (simp; done) | (simp [*]; done) | (rw [Bool.eq_iff_iff]; simp; omega) | (rw [Bool.eq_iff_iff]; simp [*]; omega)
set_option maxRecDepth 100000 in
set_option maxHeartbeats 4000000 in
theorem rr_31 (op kind area at_ n : Int) (w : World) (ok : (Lit.int .i64 n).wf = true) (hop : op = 31) : Calls Try.prog 138 #[.agg #[.int .i64 op, .int .i64 kind, .int .i64 area, .int .i64 at_, .int .i64 n]] w fun e w' => e = .returned (.bool (rightI ⟨op, kind, area, at_, n⟩)) ∧ Below w.heap.size w w' := by
  have hcl : classI op = 5 := by rw [class_eq]; unfold classR readsR writesR; first | (subst hop; decide) | (repeat' (first | rw [if_pos (by simp; omega)] | rw [if_neg (by simp; omega)] | rw [if_pos (by omega)] | rw [if_neg (by omega)]))
  have hr : readsR op = false := by unfold readsR; first | (subst hop; decide) | (rw [Bool.eq_iff_iff]; simp; omega)
  have hw : writesR op = false := by unfold writesR; first | (subst hop; decide) | (rw [Bool.eq_iff_iff]; simp; omega)
  have HR := Lib.hid (fun W => rreads_any op W)
  have HW := Lib.hid (fun W => rwrites_any op W)
  rw [hr] at HR
  rw [hw] at HW
  unfold rightI
  simp only [hcl]
  clear hcl hr hw
  subst hop
  simp only [show rightC 5 ⟨31, kind, area, at_, n⟩ = (decide (area = 0) && decide (n = 0) && decide (at_ = 0) && decide (0 < ksize kind)) from rfl]
  have HZ := Lib.hid (fun W => rsize_any kind W)
  have hz := ksize_range kind
  generalize ksize kind = z at *
  go_enter Try.func138, Try.ntmps138
  go_wp2_with (first | (go_at_call 151; (with_reducible refine (HR.out _).mono ?_); rintro e w2 ⟨rfl, rfl⟩) | (go_at_call 152; (with_reducible refine (HW.out _).mono ?_); rintro e w2 ⟨rfl, rfl⟩) | (go_at_call 88; (with_reducible refine (HZ.out _).mono ?_); rintro e w2 ⟨rfl, b2⟩; obtain ⟨hcc, hff⟩ := below_cells b2; have b3 := Lib.hid b2; clear b2))
  all_goals
    go_ret
    refine ⟨ret_bool ?_, by first | exact ((Below.refl _ _).alloc (Nat.le_refl _) _).alloc (by simp) _ | exact below_lift (((Below.refl _ _).alloc (Nat.le_refl _) _).alloc (by simp) _) b3.out (by simp; omega) | (repeat (first | exact Below.refl _ _ | refine Below.setCell ?_ (by simp) _ | refine Below.alloc ?_ (by simp) _))⟩
    first | rfl | (simp; done) | (simp [*]; done) | (rw [Bool.eq_iff_iff]; simp; omega) | (rw [Bool.eq_iff_iff]; simp [*]; omega)
end Go.Proofs.Ytdhfkcodacmbfaa
