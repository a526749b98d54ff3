/- The kinds of values (iec): what is of a kind. -/
import Derived.Test.YtdhfkcodacmbfaaIec
set_option linter.unusedVariables false
set_option linter.unusedSimpArgs false
namespace Go.Proofs.Ytdhfkcodacmbfaa
open Go.RowKit

theorem results_cell_tmp {fn : Func} {p u : Tmp} {ty : TypeId} {P : Program} (h : fn.results = #[.cell p ty, .tmp u]) (tmps : Array Value) (w : World) (g : Nat) (t : TypeId) (cs : Array Value) (fr : Nat × Nat) (fs : Array Field)
    (hp : tmps.getD p undef = .pointer (some ⟨g, 0, none⟩)) (hg : w.heap[g]? = some (.cells cs t fr))
    (hu : P.underlying ty = some (.struct fs)) (hi : (P.info? ty).map (·.size) = some cs.size) :
    (results fn tmps).run P w = .ok (.tuple #[.agg cs, tmps.getD u undef]) w := by
  have hp' : tmps[p]?.getD undef = .pointer (some ⟨g, 0, none⟩) := by simpa using hp
  simp [results, h, hp', asAddr, run_loadVar_row w g t ty cs fr _ hg hu rfl hi]
theorem info164 : (Try.prog.info? 164).map (·.size) = some 4 := by kernel_rfl
def kagg (k : Int) : Array Value := #[.string (kname k), .int .i64 (ksize k), .bool (ksign k), .bool (kbits k)]
def kz : Array Value := #[Value.string ⟨#[]⟩, .int .i64 0, .bool false, .bool false]
set_option maxRecDepth 100000 in
theorem of_any (k : Int) (w : World) : Calls Try.prog 130 #[.int .i64 k] w fun e w' => e = .returned (.tuple #[.agg (kagg k), .bool (kok k)]) ∧ Below w.heap.size w w' := by
  rcases kcases k with rfl | rfl | rfl | rfl | rfl | rfl | rfl | ho
  · have H := Lib.hid (fun W => kinds_any W)
    have hK := Blk.new (w.alloc (.cells kz 164)) kcells 164
    have hZ := (Blk.new w kz 164).keep ((Below.refl _ _).alloc (Nat.le_refl _) (.cells kcells 164))
    have hb := ((Below.refl w.heap.size w).alloc (Nat.le_refl _) (.cells kz 164)).alloc ((Below.refl w.heap.size w).alloc (Nat.le_refl _) (.cells kz 164)).size (.cells kcells 164)
    have d0 := hK.cell (j := 4) (v := .string ⟨#[66, 79, 79, 76]⟩) rfl
    have d1 := hK.cell (j := 5) (v := .int .i64 1) rfl
    have d2 := hK.cell (j := 6) (v := .bool false) rfl
    have d3 := hK.cell (j := 7) (v := .bool true) rfl
    rw [World.size_alloc] at d0 d1 d2 d3
    have z0 := hZ.cell (j := 0) (v := .string ⟨#[]⟩) rfl
    have z1 := hZ.cell (j := 1) (v := .int .i64 0) rfl
    have z2 := hZ.cell (j := 2) (v := .bool false) rfl
    have z3 := hZ.cell (j := 3) (v := .bool false) rfl
    have f0 := hZ.free 0
    have f1 := hZ.free 1
    have f2 := hZ.free 2
    have f3 := hZ.free 3
    clear hK
    go_enter Try.func130, Try.ntmps130
    go_wp2_with fail
    refine (H.out _).mono ?_
    rintro e w1 ⟨rfl, rfl⟩
    rw [show (#[Value.string ⟨#[]⟩, .int .i64 0, .bool false, .bool false] : Array Value) = kz from rfl, World.size_alloc]
    generalize (w.alloc (.cells kz 164)).alloc (.cells kcells 164) = w2 at *
    go_wp2_with fail
    have C := (((hZ.setCell 0 (.string ⟨#[66, 79, 79, 76]⟩)).setCell 1 (.int .i64 1)).setCell 2 (.bool false)).setCell 3 (.bool true)
    refine bodyPost_ret (results_cell_tmp (fn := Try.f130) (p := 2) (u := 3) (ty := 164) rfl _ _ w.heap.size 164 #[.string ⟨#[66, 79, 79, 76]⟩, .int .i64 1, .bool false, .bool true] (0, 0) _ rfl C.at_ Try.underlying164 info164) rfl ?_
    refine ⟨rfl, ?_⟩
    exact (((hb.setCell (Nat.le_refl _) _).setCell (Nat.le_refl _) _).setCell (Nat.le_refl _) _).setCell (Nat.le_refl _) _
  · have H := Lib.hid (fun W => kinds_any W)
    have hK := Blk.new (w.alloc (.cells kz 164)) kcells 164
    have hZ := (Blk.new w kz 164).keep ((Below.refl _ _).alloc (Nat.le_refl _) (.cells kcells 164))
    have hb := ((Below.refl w.heap.size w).alloc (Nat.le_refl _) (.cells kz 164)).alloc ((Below.refl w.heap.size w).alloc (Nat.le_refl _) (.cells kz 164)).size (.cells kcells 164)
    have d0 := hK.cell (j := 8) (v := .string ⟨#[83, 73, 78, 84]⟩) rfl
    have d1 := hK.cell (j := 9) (v := .int .i64 1) rfl
    have d2 := hK.cell (j := 10) (v := .bool true) rfl
    have d3 := hK.cell (j := 11) (v := .bool false) rfl
    rw [World.size_alloc] at d0 d1 d2 d3
    have z0 := hZ.cell (j := 0) (v := .string ⟨#[]⟩) rfl
    have z1 := hZ.cell (j := 1) (v := .int .i64 0) rfl
    have z2 := hZ.cell (j := 2) (v := .bool false) rfl
    have z3 := hZ.cell (j := 3) (v := .bool false) rfl
    have f0 := hZ.free 0
    have f1 := hZ.free 1
    have f2 := hZ.free 2
    have f3 := hZ.free 3
    clear hK
    go_enter Try.func130, Try.ntmps130
    go_wp2_with fail
    refine (H.out _).mono ?_
    rintro e w1 ⟨rfl, rfl⟩
    rw [show (#[Value.string ⟨#[]⟩, .int .i64 0, .bool false, .bool false] : Array Value) = kz from rfl, World.size_alloc]
    generalize (w.alloc (.cells kz 164)).alloc (.cells kcells 164) = w2 at *
    go_wp2_with fail
    have C := (((hZ.setCell 0 (.string ⟨#[83, 73, 78, 84]⟩)).setCell 1 (.int .i64 1)).setCell 2 (.bool true)).setCell 3 (.bool false)
    refine bodyPost_ret (results_cell_tmp (fn := Try.f130) (p := 2) (u := 3) (ty := 164) rfl _ _ w.heap.size 164 #[.string ⟨#[83, 73, 78, 84]⟩, .int .i64 1, .bool true, .bool false] (0, 0) _ rfl C.at_ Try.underlying164 info164) rfl ?_
    refine ⟨rfl, ?_⟩
    exact (((hb.setCell (Nat.le_refl _) _).setCell (Nat.le_refl _) _).setCell (Nat.le_refl _) _).setCell (Nat.le_refl _) _
  · have H := Lib.hid (fun W => kinds_any W)
    have hK := Blk.new (w.alloc (.cells kz 164)) kcells 164
    have hZ := (Blk.new w kz 164).keep ((Below.refl _ _).alloc (Nat.le_refl _) (.cells kcells 164))
    have hb := ((Below.refl w.heap.size w).alloc (Nat.le_refl _) (.cells kz 164)).alloc ((Below.refl w.heap.size w).alloc (Nat.le_refl _) (.cells kz 164)).size (.cells kcells 164)
    have d0 := hK.cell (j := 12) (v := .string ⟨#[73, 78, 84]⟩) rfl
    have d1 := hK.cell (j := 13) (v := .int .i64 2) rfl
    have d2 := hK.cell (j := 14) (v := .bool true) rfl
    have d3 := hK.cell (j := 15) (v := .bool false) rfl
    rw [World.size_alloc] at d0 d1 d2 d3
    have z0 := hZ.cell (j := 0) (v := .string ⟨#[]⟩) rfl
    have z1 := hZ.cell (j := 1) (v := .int .i64 0) rfl
    have z2 := hZ.cell (j := 2) (v := .bool false) rfl
    have z3 := hZ.cell (j := 3) (v := .bool false) rfl
    have f0 := hZ.free 0
    have f1 := hZ.free 1
    have f2 := hZ.free 2
    have f3 := hZ.free 3
    clear hK
    go_enter Try.func130, Try.ntmps130
    go_wp2_with fail
    refine (H.out _).mono ?_
    rintro e w1 ⟨rfl, rfl⟩
    rw [show (#[Value.string ⟨#[]⟩, .int .i64 0, .bool false, .bool false] : Array Value) = kz from rfl, World.size_alloc]
    generalize (w.alloc (.cells kz 164)).alloc (.cells kcells 164) = w2 at *
    go_wp2_with fail
    have C := (((hZ.setCell 0 (.string ⟨#[73, 78, 84]⟩)).setCell 1 (.int .i64 2)).setCell 2 (.bool true)).setCell 3 (.bool false)
    refine bodyPost_ret (results_cell_tmp (fn := Try.f130) (p := 2) (u := 3) (ty := 164) rfl _ _ w.heap.size 164 #[.string ⟨#[73, 78, 84]⟩, .int .i64 2, .bool true, .bool false] (0, 0) _ rfl C.at_ Try.underlying164 info164) rfl ?_
    refine ⟨rfl, ?_⟩
    exact (((hb.setCell (Nat.le_refl _) _).setCell (Nat.le_refl _) _).setCell (Nat.le_refl _) _).setCell (Nat.le_refl _) _
  · have H := Lib.hid (fun W => kinds_any W)
    have hK := Blk.new (w.alloc (.cells kz 164)) kcells 164
    have hZ := (Blk.new w kz 164).keep ((Below.refl _ _).alloc (Nat.le_refl _) (.cells kcells 164))
    have hb := ((Below.refl w.heap.size w).alloc (Nat.le_refl _) (.cells kz 164)).alloc ((Below.refl w.heap.size w).alloc (Nat.le_refl _) (.cells kz 164)).size (.cells kcells 164)
    have d0 := hK.cell (j := 16) (v := .string ⟨#[68, 73, 78, 84]⟩) rfl
    have d1 := hK.cell (j := 17) (v := .int .i64 4) rfl
    have d2 := hK.cell (j := 18) (v := .bool true) rfl
    have d3 := hK.cell (j := 19) (v := .bool false) rfl
    rw [World.size_alloc] at d0 d1 d2 d3
    have z0 := hZ.cell (j := 0) (v := .string ⟨#[]⟩) rfl
    have z1 := hZ.cell (j := 1) (v := .int .i64 0) rfl
    have z2 := hZ.cell (j := 2) (v := .bool false) rfl
    have z3 := hZ.cell (j := 3) (v := .bool false) rfl
    have f0 := hZ.free 0
    have f1 := hZ.free 1
    have f2 := hZ.free 2
    have f3 := hZ.free 3
    clear hK
    go_enter Try.func130, Try.ntmps130
    go_wp2_with fail
    refine (H.out _).mono ?_
    rintro e w1 ⟨rfl, rfl⟩
    rw [show (#[Value.string ⟨#[]⟩, .int .i64 0, .bool false, .bool false] : Array Value) = kz from rfl, World.size_alloc]
    generalize (w.alloc (.cells kz 164)).alloc (.cells kcells 164) = w2 at *
    go_wp2_with fail
    have C := (((hZ.setCell 0 (.string ⟨#[68, 73, 78, 84]⟩)).setCell 1 (.int .i64 4)).setCell 2 (.bool true)).setCell 3 (.bool false)
    refine bodyPost_ret (results_cell_tmp (fn := Try.f130) (p := 2) (u := 3) (ty := 164) rfl _ _ w.heap.size 164 #[.string ⟨#[68, 73, 78, 84]⟩, .int .i64 4, .bool true, .bool false] (0, 0) _ rfl C.at_ Try.underlying164 info164) rfl ?_
    refine ⟨rfl, ?_⟩
    exact (((hb.setCell (Nat.le_refl _) _).setCell (Nat.le_refl _) _).setCell (Nat.le_refl _) _).setCell (Nat.le_refl _) _
  · have H := Lib.hid (fun W => kinds_any W)
    have hK := Blk.new (w.alloc (.cells kz 164)) kcells 164
    have hZ := (Blk.new w kz 164).keep ((Below.refl _ _).alloc (Nat.le_refl _) (.cells kcells 164))
    have hb := ((Below.refl w.heap.size w).alloc (Nat.le_refl _) (.cells kz 164)).alloc ((Below.refl w.heap.size w).alloc (Nat.le_refl _) (.cells kz 164)).size (.cells kcells 164)
    have d0 := hK.cell (j := 20) (v := .string ⟨#[85, 73, 78, 84]⟩) rfl
    have d1 := hK.cell (j := 21) (v := .int .i64 2) rfl
    have d2 := hK.cell (j := 22) (v := .bool false) rfl
    have d3 := hK.cell (j := 23) (v := .bool false) rfl
    rw [World.size_alloc] at d0 d1 d2 d3
    have z0 := hZ.cell (j := 0) (v := .string ⟨#[]⟩) rfl
    have z1 := hZ.cell (j := 1) (v := .int .i64 0) rfl
    have z2 := hZ.cell (j := 2) (v := .bool false) rfl
    have z3 := hZ.cell (j := 3) (v := .bool false) rfl
    have f0 := hZ.free 0
    have f1 := hZ.free 1
    have f2 := hZ.free 2
    have f3 := hZ.free 3
    clear hK
    go_enter Try.func130, Try.ntmps130
    go_wp2_with fail
    refine (H.out _).mono ?_
    rintro e w1 ⟨rfl, rfl⟩
    rw [show (#[Value.string ⟨#[]⟩, .int .i64 0, .bool false, .bool false] : Array Value) = kz from rfl, World.size_alloc]
    generalize (w.alloc (.cells kz 164)).alloc (.cells kcells 164) = w2 at *
    go_wp2_with fail
    have C := (((hZ.setCell 0 (.string ⟨#[85, 73, 78, 84]⟩)).setCell 1 (.int .i64 2)).setCell 2 (.bool false)).setCell 3 (.bool false)
    refine bodyPost_ret (results_cell_tmp (fn := Try.f130) (p := 2) (u := 3) (ty := 164) rfl _ _ w.heap.size 164 #[.string ⟨#[85, 73, 78, 84]⟩, .int .i64 2, .bool false, .bool false] (0, 0) _ rfl C.at_ Try.underlying164 info164) rfl ?_
    refine ⟨rfl, ?_⟩
    exact (((hb.setCell (Nat.le_refl _) _).setCell (Nat.le_refl _) _).setCell (Nat.le_refl _) _).setCell (Nat.le_refl _) _
  · have H := Lib.hid (fun W => kinds_any W)
    have hK := Blk.new (w.alloc (.cells kz 164)) kcells 164
    have hZ := (Blk.new w kz 164).keep ((Below.refl _ _).alloc (Nat.le_refl _) (.cells kcells 164))
    have hb := ((Below.refl w.heap.size w).alloc (Nat.le_refl _) (.cells kz 164)).alloc ((Below.refl w.heap.size w).alloc (Nat.le_refl _) (.cells kz 164)).size (.cells kcells 164)
    have d0 := hK.cell (j := 24) (v := .string ⟨#[87, 79, 82, 68]⟩) rfl
    have d1 := hK.cell (j := 25) (v := .int .i64 2) rfl
    have d2 := hK.cell (j := 26) (v := .bool false) rfl
    have d3 := hK.cell (j := 27) (v := .bool true) rfl
    rw [World.size_alloc] at d0 d1 d2 d3
    have z0 := hZ.cell (j := 0) (v := .string ⟨#[]⟩) rfl
    have z1 := hZ.cell (j := 1) (v := .int .i64 0) rfl
    have z2 := hZ.cell (j := 2) (v := .bool false) rfl
    have z3 := hZ.cell (j := 3) (v := .bool false) rfl
    have f0 := hZ.free 0
    have f1 := hZ.free 1
    have f2 := hZ.free 2
    have f3 := hZ.free 3
    clear hK
    go_enter Try.func130, Try.ntmps130
    go_wp2_with fail
    refine (H.out _).mono ?_
    rintro e w1 ⟨rfl, rfl⟩
    rw [show (#[Value.string ⟨#[]⟩, .int .i64 0, .bool false, .bool false] : Array Value) = kz from rfl, World.size_alloc]
    generalize (w.alloc (.cells kz 164)).alloc (.cells kcells 164) = w2 at *
    go_wp2_with fail
    have C := (((hZ.setCell 0 (.string ⟨#[87, 79, 82, 68]⟩)).setCell 1 (.int .i64 2)).setCell 2 (.bool false)).setCell 3 (.bool true)
    refine bodyPost_ret (results_cell_tmp (fn := Try.f130) (p := 2) (u := 3) (ty := 164) rfl _ _ w.heap.size 164 #[.string ⟨#[87, 79, 82, 68]⟩, .int .i64 2, .bool false, .bool true] (0, 0) _ rfl C.at_ Try.underlying164 info164) rfl ?_
    refine ⟨rfl, ?_⟩
    exact (((hb.setCell (Nat.le_refl _) _).setCell (Nat.le_refl _) _).setCell (Nat.le_refl _) _).setCell (Nat.le_refl _) _
  · have H := Lib.hid (fun W => kinds_any W)
    have hK := Blk.new (w.alloc (.cells kz 164)) kcells 164
    have hZ := (Blk.new w kz 164).keep ((Below.refl _ _).alloc (Nat.le_refl _) (.cells kcells 164))
    have hb := ((Below.refl w.heap.size w).alloc (Nat.le_refl _) (.cells kz 164)).alloc ((Below.refl w.heap.size w).alloc (Nat.le_refl _) (.cells kz 164)).size (.cells kcells 164)
    have d0 := hK.cell (j := 28) (v := .string ⟨#[68, 87, 79, 82, 68]⟩) rfl
    have d1 := hK.cell (j := 29) (v := .int .i64 4) rfl
    have d2 := hK.cell (j := 30) (v := .bool false) rfl
    have d3 := hK.cell (j := 31) (v := .bool true) rfl
    rw [World.size_alloc] at d0 d1 d2 d3
    have z0 := hZ.cell (j := 0) (v := .string ⟨#[]⟩) rfl
    have z1 := hZ.cell (j := 1) (v := .int .i64 0) rfl
    have z2 := hZ.cell (j := 2) (v := .bool false) rfl
    have z3 := hZ.cell (j := 3) (v := .bool false) rfl
    have f0 := hZ.free 0
    have f1 := hZ.free 1
    have f2 := hZ.free 2
    have f3 := hZ.free 3
    clear hK
    go_enter Try.func130, Try.ntmps130
    go_wp2_with fail
    refine (H.out _).mono ?_
    rintro e w1 ⟨rfl, rfl⟩
    rw [show (#[Value.string ⟨#[]⟩, .int .i64 0, .bool false, .bool false] : Array Value) = kz from rfl, World.size_alloc]
    generalize (w.alloc (.cells kz 164)).alloc (.cells kcells 164) = w2 at *
    go_wp2_with fail
    have C := (((hZ.setCell 0 (.string ⟨#[68, 87, 79, 82, 68]⟩)).setCell 1 (.int .i64 4)).setCell 2 (.bool false)).setCell 3 (.bool true)
    refine bodyPost_ret (results_cell_tmp (fn := Try.f130) (p := 2) (u := 3) (ty := 164) rfl _ _ w.heap.size 164 #[.string ⟨#[68, 87, 79, 82, 68]⟩, .int .i64 4, .bool false, .bool true] (0, 0) _ rfl C.at_ Try.underlying164 info164) rfl ?_
    refine ⟨rfl, ?_⟩
    exact (((hb.setCell (Nat.le_refl _) _).setCell (Nat.le_refl _) _).setCell (Nat.le_refl _) _).setCell (Nat.le_refl _) _
  · unfold kagg
    rw [kname_out ho, ksize_out ho, ksign_out ho, kbits_out ho, kok_out ho]
    have hZ := Blk.new w kz 164
    have hb := ((Below.refl w.heap.size w).alloc (Nat.le_refl _) (.cells kz 164))
    rcases ho with ho | ho
    · go_enter Try.func130, Try.ntmps130
      go_wp2_with fail
      refine bodyPost_ret (results_cell_tmp (fn := Try.f130) (p := 2) (u := 3) (ty := 164) rfl _ _ w.heap.size 164 kz (0, 0) _ rfl hZ.at_ Try.underlying164 info164) rfl ?_
      exact ⟨rfl, hb⟩
    · have h1 : ¬ k < 1 := by omega
      go_enter Try.func130, Try.ntmps130
      go_wp2_with fail
      refine bodyPost_ret (results_cell_tmp (fn := Try.f130) (p := 2) (u := 3) (ty := 164) rfl _ _ w.heap.size 164 kz (0, 0) _ rfl hZ.at_ Try.underlying164 info164) rfl ?_
      exact ⟨rfl, hb⟩
end Go.Proofs.Ytdhfkcodacmbfaa
