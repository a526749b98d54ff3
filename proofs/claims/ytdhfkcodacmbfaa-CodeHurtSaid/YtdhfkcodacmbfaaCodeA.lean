/- Instructions (il): the table of operations, and what an instruction may be. -/
import Derived.Test.YtdhfkcodacmbfaaIecK
import Derived.Laws.Rows
set_option linter.unusedVariables false
set_option linter.unusedSimpArgs false
namespace Go.Proofs.Ytdhfkcodacmbfaa
open Go.RowKit

def opT : List (ByteArray × Int) := [(⟨#[]⟩, 0), (⟨#[76, 68]⟩, 1), (⟨#[76, 68, 78]⟩, 1), (⟨#[83, 84]⟩, 2), (⟨#[83, 84, 78]⟩, 2), (⟨#[83]⟩, 2), (⟨#[82]⟩, 2), (⟨#[65, 78, 68]⟩, 1), (⟨#[79, 82]⟩, 1), (⟨#[88, 79, 82]⟩, 1), (⟨#[65, 78, 68, 78]⟩, 1), (⟨#[79, 82, 78]⟩, 1), (⟨#[88, 79, 82, 78]⟩, 1), (⟨#[78, 79, 84]⟩, 4), (⟨#[65, 68, 68]⟩, 1), (⟨#[83, 85, 66]⟩, 1), (⟨#[77, 85, 76]⟩, 1), (⟨#[68, 73, 86]⟩, 1), (⟨#[77, 79, 68]⟩, 1), (⟨#[71, 84]⟩, 1), (⟨#[71, 69]⟩, 1), (⟨#[69, 81]⟩, 1), (⟨#[78, 69]⟩, 1), (⟨#[76, 69]⟩, 1), (⟨#[76, 84]⟩, 1), (⟨#[74, 77, 80]⟩, 3), (⟨#[74, 77, 80, 67]⟩, 3), (⟨#[74, 77, 80, 67, 78]⟩, 3), (⟨#[82, 69, 84]⟩, 4), (⟨#[82, 69, 84, 67]⟩, 4), (⟨#[82, 69, 84, 67, 78]⟩, 4), (⟨#[67, 79, 78, 86]⟩, 5), (⟨#[]⟩, 6), (⟨#[]⟩, 4), (⟨#[84, 79, 78]⟩, 7), (⟨#[67, 84, 85]⟩, 7), (⟨#[84, 82, 73, 71]⟩, 8)]
def opcells : Array Value := #[.string ⟨#[]⟩, .int .i64 0, .string ⟨#[76, 68]⟩, .int .i64 1, .string ⟨#[76, 68, 78]⟩, .int .i64 1, .string ⟨#[83, 84]⟩, .int .i64 2, .string ⟨#[83, 84, 78]⟩, .int .i64 2, .string ⟨#[83]⟩, .int .i64 2, .string ⟨#[82]⟩, .int .i64 2, .string ⟨#[65, 78, 68]⟩, .int .i64 1, .string ⟨#[79, 82]⟩, .int .i64 1, .string ⟨#[88, 79, 82]⟩, .int .i64 1, .string ⟨#[65, 78, 68, 78]⟩, .int .i64 1, .string ⟨#[79, 82, 78]⟩, .int .i64 1, .string ⟨#[88, 79, 82, 78]⟩, .int .i64 1, .string ⟨#[78, 79, 84]⟩, .int .i64 4, .string ⟨#[65, 68, 68]⟩, .int .i64 1, .string ⟨#[83, 85, 66]⟩, .int .i64 1, .string ⟨#[77, 85, 76]⟩, .int .i64 1, .string ⟨#[68, 73, 86]⟩, .int .i64 1, .string ⟨#[77, 79, 68]⟩, .int .i64 1, .string ⟨#[71, 84]⟩, .int .i64 1, .string ⟨#[71, 69]⟩, .int .i64 1, .string ⟨#[69, 81]⟩, .int .i64 1, .string ⟨#[78, 69]⟩, .int .i64 1, .string ⟨#[76, 69]⟩, .int .i64 1, .string ⟨#[76, 84]⟩, .int .i64 1, .string ⟨#[74, 77, 80]⟩, .int .i64 3, .string ⟨#[74, 77, 80, 67]⟩, .int .i64 3, .string ⟨#[74, 77, 80, 67, 78]⟩, .int .i64 3, .string ⟨#[82, 69, 84]⟩, .int .i64 4, .string ⟨#[82, 69, 84, 67]⟩, .int .i64 4, .string ⟨#[82, 69, 84, 67, 78]⟩, .int .i64 4, .string ⟨#[67, 79, 78, 86]⟩, .int .i64 5, .string ⟨#[]⟩, .int .i64 6, .string ⟨#[]⟩, .int .i64 4, .string ⟨#[84, 79, 78]⟩, .int .i64 7, .string ⟨#[67, 84, 85]⟩, .int .i64 7, .string ⟨#[84, 82, 73, 71]⟩, .int .i64 8]
def opC (p : ByteArray × Int) : List Value := [.string p.1, .int .i64 p.2]
theorem opcells_eq : opcells.toList = opT.flatMap opC := by rfl
theorem opT_len : opT.length = 37 := by rfl
set_option maxRecDepth 100000 in
set_option maxHeartbeats 8000000 in
theorem ops_any (w : World) : Calls Try.prog 161 #[] w fun e w' => e = .returned (.slice (some ⟨w.heap.size, 0, none⟩) 37 37) ∧ w' = w.alloc (.cells opcells 191) := by
  go_enter Try.func161, Try.ntmps161
  go_wp2_with fail
  go_ret
  exact ⟨rfl, rfl⟩
theorem flat_get (l : List (ByteArray × Int)) (k i : Nat) (p : ByteArray × Int) (hk : l[k]? = some p) (hi : i < 2) : (l.flatMap opC)[k * 2 + i]? = (opC p)[i]? := by
  induction l generalizing k with
  | nil => cases hk
  | cons q l ih =>
    have h2 : (opC q).length = 2 := rfl
    rw [List.flatMap_cons]
    cases k with
    | zero =>
      simp at hk
      subst hk
      rw [List.getElem?_append_left (by omega)]
      simp
    | succ k =>
      rw [List.getElem?_append_right (by omega), h2]
      have : (k + 1) * 2 + i - 2 = k * 2 + i := by omega
      rw [this]
      exact ih k (by simpa using hk)
/-- What an operation asks for. -/
def classI (n : Int) : Int := if 0 ≤ n ∧ n < 37 then (opT.getD n.toNat (⟨#[]⟩, 0)).2 else 0
/-- Its name and its class. -/
def OfTo (n : Int) (w : World) (e : Ending) (w' : World) : Prop := ∃ s : ByteArray, e = .returned (.agg #[.string s, .int .i64 (classI n)]) ∧ Below w.heap.size w w'
theorem info191 : (Try.prog.info? 191).map (·.size) = some 2 := by kernel_rfl
set_option maxRecDepth 100000 in
theorem ilof_any (n : Int) (w : World) : Calls Try.prog 157 #[.int .i64 n] w (OfTo n w) := by
  have H := Lib.hid (fun W => ops_any W)
  have hZ := (Blk.new w #[.string ⟨#[]⟩, .int .i64 0] 191)
  have hK := Blk.new (w.alloc (.cells #[.string ⟨#[]⟩, .int .i64 0] 191)) opcells 191
  have hZ1 := hZ.alloc (.cells opcells 191)
  have hb := (((Below.refl w.heap.size w).alloc (Nat.le_refl _) (.cells #[.string ⟨#[]⟩, .int .i64 0] 191))).alloc (((Below.refl w.heap.size w).alloc (Nat.le_refl _) (.cells #[.string ⟨#[]⟩, .int .i64 0] 191))).size (.cells opcells 191)
  rw [World.size_alloc] at hK
  have z0 := hZ1.cell (j := 0) (v := .string ⟨#[]⟩) rfl
  have z1 := hZ1.cell (j := 1) (v := .int .i64 0) rfl
  have f0 := hZ1.free 0
  have f1 := hZ1.free 1
  by_cases h : 0 ≤ n ∧ n < 37
  · obtain ⟨k, rfl⟩ : ∃ k : Nat, n = k := ⟨n.toNat, by omega⟩
    obtain ⟨p, hp⟩ : ∃ p, opT[k]? = some p := ⟨opT[k]'(by rw [opT_len]; omega), List.getElem?_eq_getElem _⟩
    have hc : classI (k : Int) = p.2 := by
      unfold classI
      rw [if_pos h, Int.toNat_natCast, List.getD_eq_getElem?_getD, hp]
      rfl
    have g : ∀ i, i < 2 → opcells[k * 2 + i]? = (opC p)[i]? := fun i hi => by
      rw [← Array.getElem?_toList, opcells_eq]
      exact flat_get opT k i p hp hi
    have d0 := hK.cell (j := k * 2) (v := .string p.1) (g 0 (by omega))
    have d1 := hK.cell (j := k * 2 + 1) (v := .int .i64 p.2) (g 1 (by omega))
    have h0 : ¬ (k : Int) < 0 := by omega
    have h1 : (k : Int) < 37 := by omega
    unfold OfTo
    rw [hc]
    clear h g hp hc hZ hK
    go_enter Try.func157, Try.ntmps157
    go_wp2_with fail
    refine (H.out _).mono ?_
    rintro e w1 ⟨rfl, rfl⟩
    rw [World.size_alloc]
    generalize (w.alloc (.cells #[.string ⟨#[]⟩, .int .i64 0] 191)).alloc (.cells opcells 191) = w2 at *
    go_wp2_with fail
    have C := (hZ1.setCell 0 (.string p.1)).setCell 1 (.int .i64 p.2)
    refine bodyPost_ret (results_cell_row (fn := Try.f157) (p := 2) (ty := 191) rfl _ _ w.heap.size 191 #[.string p.1, .int .i64 p.2] (0, 0) _ rfl C.at_ Try.underlying191 rfl info191) rfl ?_
    exact ⟨p.1, rfl, (hb.setCell (Nat.le_refl _) _).setCell (Nat.le_refl _) _⟩
  · have hc : classI n = 0 := by unfold classI; rw [if_neg h]
    unfold OfTo
    rw [hc]
    have C := (hZ1.setCell 0 (.string ⟨#[]⟩)).setCell 1 (.int .i64 0)
    by_cases h0 : n < 0
    · clear h hc hZ hK
      go_enter Try.func157, Try.ntmps157
      go_wp2_with fail
      refine (H.out _).mono ?_
      rintro e w1 ⟨rfl, rfl⟩
      generalize (w.alloc (.cells #[.string ⟨#[]⟩, .int .i64 0] 191)).alloc (.cells opcells 191) = w2 at *
      go_wp2_with fail
      refine bodyPost_ret (results_cell_row (fn := Try.f157) (p := 2) (ty := 191) rfl _ _ w.heap.size 191 #[.string ⟨#[]⟩, .int .i64 0] (0, 0) _ rfl C.at_ Try.underlying191 rfl info191) rfl ?_
      exact ⟨_, rfl, (hb.setCell (Nat.le_refl _) _).setCell (Nat.le_refl _) _⟩
    · have h1 : ¬ n < 37 := by omega
      clear h hc hZ hK
      go_enter Try.func157, Try.ntmps157
      go_wp2_with fail
      refine (H.out _).mono ?_
      rintro e w1 ⟨rfl, rfl⟩
      generalize (w.alloc (.cells #[.string ⟨#[]⟩, .int .i64 0] 191)).alloc (.cells opcells 191) = w2 at *
      go_wp2_with fail
      refine bodyPost_ret (results_cell_row (fn := Try.f157) (p := 2) (ty := 191) rfl _ _ w.heap.size 191 #[.string ⟨#[]⟩, .int .i64 0] (0, 0) _ rfl C.at_ Try.underlying191 rfl info191) rfl ?_
      exact ⟨_, rfl, (hb.setCell (Nat.le_refl _) _).setCell (Nat.le_refl _) _⟩
theorem field191 (s : ByteArray) (c : Int) (w : World) : Sem.run Try.prog (Instr.field 191 (.agg #[.string s, .int .i64 c]) 1) w = .ok (.int .i64 c) w := by kernel_rfl
def withinI (n : Int) : Bool := decide (classI n = 1) && decide (7 ≤ n)
set_option maxRecDepth 100000 in
theorem within_any (n : Int) (w : World) : Calls Try.prog 159 #[.int .i64 n] w fun e w' => e = .returned (.bool (withinI n)) ∧ Below w.heap.size w w' := by
  have H := Lib.hid (fun W => ilof_any n W)
  have hfd := field191
  unfold withinI
  unfold OfTo at H
  generalize classI n = c at *
  by_cases hc : c = 1
  · subst hc
    go_enter Try.func159, Try.ntmps159
    go_wp2_with fail
    refine (H.out _).mono ?_
    rintro e w1 ⟨s, rfl, b⟩
    go_wp2_with fail
    go_ret
    exact ⟨ret_bool (by simp), b⟩
  · have hd : (c == 1) = false := by simpa using hc
    have he : decide (c = 1) = false := by simpa using hc
    rw [he]
    clear hc he
    go_enter Try.func159, Try.ntmps159
    go_wp2_with fail
    refine (H.out _).mono ?_
    rintro e w1 ⟨s, rfl, b⟩
    go_wp2_with fail
    go_ret
    exact ⟨ret_bool (by simp), b⟩
def keepsI (a : Int) : Bool := decide (a = 3) || decide (a = 4)
set_option maxRecDepth 100000 in
theorem keeps_any (a : Int) (w : World) : Calls Try.prog 160 #[.int .i64 a] w fun e w' => e = .returned (.bool (keepsI a)) ∧ w' = w := by
  unfold keepsI
  by_cases h3 : a = 3
  · subst h3
    go_enter Try.func160, Try.ntmps160
    go_wp2_with fail
    go_ret
    exact ⟨rfl, rfl⟩
  · have hd : (a == 3) = false := by simpa using h3
    have he : decide (a = 3) = false := by simpa using h3
    rw [he]
    clear h3 he
    go_enter Try.func160, Try.ntmps160
    go_wp2_with fail
    go_ret
    exact ⟨ret_bool (by first | rfl | simp), rfl⟩
end Go.Proofs.Ytdhfkcodacmbfaa
