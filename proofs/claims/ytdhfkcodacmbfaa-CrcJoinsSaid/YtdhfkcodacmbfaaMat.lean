/- The walks of crc's matrices: one, times, twice, Zeros, Join. -/
import Derived.Test.YtdhfkcodacmbfaaCrcE
import Derived.Test.YtdhfkcodacmbfaaCrcZ
set_option linter.unusedVariables false
set_option linter.unusedSimpArgs false
namespace Go.Proofs.Ytdhfkcodacmbfaa
open Go.RowKit

def mat (M : Nat → Int) : Array Value := ((List.range 16).map (fun i => Value.int .u16 (M i))).toArray
theorem mat_size (M : Nat → Int) : (mat M).size = 16 := by simp [mat]
theorem mat_get (M : Nat → Int) (j : Nat) (hj : j < 16) : (mat M)[j]? = some (.int .u16 (M j)) := by simp [mat, hj]
theorem mat_set (M : Nat → Int) (k : Nat) (v : Int) (hk : k < 16) : (mat M).setIfInBounds k (.int .u16 v) = mat (fun i => if i = k then v else M i) := by
  apply Array.ext_getElem?
  intro j
  rw [Array.getElem?_setIfInBounds]
  by_cases hj : j < 16
  · by_cases e : k = j
    · subst e
      rw [if_pos rfl, if_pos (by rw [mat_size]; exact hj), mat_get _ _ hj, if_pos rfl]
    · rw [if_neg e, mat_get _ _ hj, mat_get _ _ hj, if_neg (fun h => e h.symm)]
  · have e1 : (mat M)[j]? = none := Array.getElem?_eq_none (by rw [mat_size]; omega)
    have e2 : (mat (fun i => if i = k then v else M i))[j]? = none := Array.getElem?_eq_none (by rw [mat_size]; omega)
    rw [if_neg (by omega), e1, e2]
theorem mat_one (M : Nat → Int) : (mat M).all (·.oneCell') = true := by simp [mat, Value.oneCell']
theorem mat_congr {M N : Nat → Int} (h : ∀ i, i < 16 → M i = N i) : mat M = mat N := by
  unfold mat
  congr 1
  exact List.map_congr_left (fun i hi => by rw [h i (List.mem_range.1 hi)])
theorem mat_zero : mat (fun _ => 0) = #[Value.int IntKind.u16 0, Value.int IntKind.u16 0, Value.int IntKind.u16 0, Value.int IntKind.u16 0,
          Value.int IntKind.u16 0, Value.int IntKind.u16 0, Value.int IntKind.u16 0, Value.int IntKind.u16 0,
          Value.int IntKind.u16 0, Value.int IntKind.u16 0, Value.int IntKind.u16 0, Value.int IntKind.u16 0,
          Value.int IntKind.u16 0, Value.int IntKind.u16 0, Value.int IntKind.u16 0, Value.int IntKind.u16 0] := rfl
theorem info143 : (Try.prog.info? 143).map (·.size) = some 16 := by kernel_rfl
set_option maxRecDepth 100000 in
theorem one_any (w : World) :
    Calls Try.prog 107 #[] w fun e w' => e = .returned (.agg (mat (oneI 16))) ∧ Below w.heap.size w w' := by
  have hM := fun (n : Int) W => more_any n ⟨#[0]⟩ W (by decide)
  have B1 := Blk.new (w.alloc (.cells (mat (fun _ => 0)) 143)) (mat (fun _ => 0)) 143
  have B0 := (Blk.new w (mat (fun _ => 0)) 143).alloc (.cells (mat (fun _ => 0)) 143)
  have hb := ((Below.refl w.heap.size w).alloc (Nat.le_refl _) (.cells (mat (fun _ => 0)) 143)).alloc (by simp) (.cells (mat (fun _ => 0)) 143)
  rw [mat_zero] at B0 B1 hb
  go_enter Try.func107, Try.ntmps107
  go_wp2
  generalize (w.alloc (Obj.cells #[Value.int IntKind.u16 0, Value.int IntKind.u16 0, Value.int IntKind.u16 0, Value.int IntKind.u16 0, Value.int IntKind.u16 0, Value.int IntKind.u16 0, Value.int IntKind.u16 0, Value.int IntKind.u16 0, Value.int IntKind.u16 0, Value.int IntKind.u16 0, Value.int IntKind.u16 0, Value.int IntKind.u16 0, Value.int IntKind.u16 0, Value.int IntKind.u16 0, Value.int IntKind.u16 0, Value.int IntKind.u16 0] 143)).alloc (Obj.cells #[Value.int IntKind.u16 0, Value.int IntKind.u16 0, Value.int IntKind.u16 0, Value.int IntKind.u16 0, Value.int IntKind.u16 0, Value.int IntKind.u16 0, Value.int IntKind.u16 0, Value.int IntKind.u16 0, Value.int IntKind.u16 0, Value.int IntKind.u16 0, Value.int IntKind.u16 0, Value.int IntKind.u16 0, Value.int IntKind.u16 0, Value.int IntKind.u16 0, Value.int IntKind.u16 0, Value.int IntKind.u16 0] 143) = w0 at *
  rw [World.size_alloc] at B1
  rw [← mat_zero] at B0 B1
  have HM := Lib.hid hM
  clear hM
  go_loopw [2, 3] (fun _ v wr => ∃ k : Nat, k ≤ 16 ∧ v = .int .i64 k ∧ Blk wr w.heap.size (mat (fun _ => 0)) 143 ∧ Blk wr (w.heap.size + 1) (mat (oneI k)) 143 ∧ Below w.heap.size w wr) (fun _ v _ => 16 - (intOf v).toNat)
  case atStart => exact ⟨0, by omega, rfl, B0, B1, hb⟩
  case round =>
    obtain ⟨k, hk, rfl, C0, C1, hbr⟩ := hrel
    by_cases hlt : k < 16
    · have hc := C1.cell (mat_get _ k hlt)
      have hf := C1.free k
      go_wp2_with (go_at_call 27; refine (HM.out _ _).mono ?_; rintro e w' ⟨rfl, rfl⟩)
      go_roundw
      case rel =>
        refine ⟨k + 1, by omega, by go_num, C0.setOther _ _ (by show w.heap.size ≠ w.heap.size + 1; omega), ?_, hbr.setCell (by show w.heap.size ≤ w.heap.size + 1; omega) _⟩
        have C2 := C1.setCell k (Value.int IntKind.u16 (moreI (IntKind.u16.wrap (2 ^ k)) [0]))
        rw [mat_set _ _ _ hlt] at C2
        rwa [mat_congr (N := oneI (k + 1)) (fun i _ => ?_)] at C2
        simp only [oneI]
        by_cases e : i = k
        · rw [if_pos e, if_pos (by omega), e]
        · rw [if_neg e]
          by_cases h2 : i < k
          · rw [if_pos h2, if_pos (by omega)]
          · rw [if_neg h2, if_neg (by omega)]
      case measure => simp [intOf]; omega
    · obtain rfl : k = 16 := by omega
      go_wp2_with (first
        | (refine wpList_load_row rfl 143 _ rfl (w.heap.size + 1) rfl 143 _ (0, 0) _ C1.at_ Try.underlying143 rfl (by rw [mat_size]; exact info143) ?_)
        | (refine wpList_store_row rfl 143 _ _ rfl w.heap.size (mat (oneI 16)) rfl rfl 143 _ C0.at_ (by rw [mat_size]; exact info143) (by rw [mat_size, mat_size]) (mat_one _) ?_))
      have C2 := C0.setRow (mat (oneI 16))
      refine bodyPost_ret (v := .agg (mat (oneI 16))) (results_cell_row rfl _ _ w.heap.size 143 (mat (oneI 16)) (0, 0) _ rfl C2.at_ Try.underlying143 rfl (by rw [mat_size]; exact info143)) rfl ⟨rfl, below_setRow' hbr (Nat.le_refl _) _⟩

set_option maxRecDepth 100000 in
theorem times_any (M : Nat → Int) (n : Int) (B : Nat) (w : World) (h0 : 0 ≤ n) (h1 : n < 65536) (hB : Blk w B (mat M) 143) :
    Calls Try.prog 108 #[.pointer (some ⟨B, 0, none⟩), .int .u16 n] w fun e w' => e = .returned (.int .u16 (timesI M n 16)) ∧ ∃ m, w' = w.drewN m := by
  go_enter Try.func108, Try.ntmps108
  go_wp2
  go_loopw [5, 6, 7, 9] (fun o _ _ v wr => ∃ k : Nat, k ≤ 16 ∧ v = .int .i64 k ∧ o = .int .u16 (timesI M n k) ∧ ∃ m, wr = w.drewN m) (fun _ _ _ v _ => 16 - (intOf v).toNat)
  case atStart => exact ⟨0, by omega, rfl, rfl, 0, rfl⟩
  case round =>
    obtain ⟨k, hk, rfl, rfl, m, rfl⟩ := hrel
    by_cases hlt : k < 16
    · have hc := hB.cell (mat_get _ k hlt)
      go_wp2
      go_region
      go_wp2
      · have hy : (bits BinOp.and IntKind.u16 (n / 2 ^ k) 1 == 1) = true := by assumption
        go_roundw
        case rel => exact ⟨k + 1, by omega, by go_num, by rw [timesI_yes (by simpa using hy)], m + 1, rfl⟩
        case measure => simp [intOf]; omega
      · have hy : (bits BinOp.and IntKind.u16 (n / 2 ^ k) 1 == 1) = false := by assumption
        go_roundw
        case rel => exact ⟨k + 1, by omega, by go_num, by rw [timesI_no (by simpa using hy)], m + 1, rfl⟩
        case measure => simp [intOf]; omega
    · obtain rfl : k = 16 := by omega
      go_wp2
      go_ret
      exact ⟨rfl, m, rfl⟩

set_option maxRecDepth 100000 in
theorem twice_any (M : Nat → Int) (B : Nat) (w : World) (hM : ∀ i, i < 16 → 0 ≤ M i ∧ M i < 65536) (hB : Blk w B (mat M) 143) :
    Calls Try.prog 109 #[.pointer (some ⟨B, 0, none⟩)] w fun e w' => e = .returned (.agg (mat (twiceI M 16))) ∧ Below w.heap.size w w' := by
  have B1 := Blk.new (w.alloc (.cells (mat (fun _ => 0)) 143)) (mat (fun _ => 0)) 143
  have B0 := (Blk.new w (mat (fun _ => 0)) 143).alloc (.cells (mat (fun _ => 0)) 143)
  have BM := (hB.alloc (.cells (mat (fun _ => 0)) 143)).alloc (.cells (mat (fun _ => 0)) 143)
  have hlB := hB.lt
  have hb := ((Below.refl w.heap.size w).alloc (Nat.le_refl _) (.cells (mat (fun _ => 0)) 143)).alloc (by simp) (.cells (mat (fun _ => 0)) 143)
  rw [mat_zero] at B0 B1 hb BM
  go_enter Try.func109, Try.ntmps109
  go_wp2
  generalize (w.alloc (Obj.cells #[Value.int IntKind.u16 0, Value.int IntKind.u16 0, Value.int IntKind.u16 0, Value.int IntKind.u16 0, Value.int IntKind.u16 0, Value.int IntKind.u16 0, Value.int IntKind.u16 0, Value.int IntKind.u16 0, Value.int IntKind.u16 0, Value.int IntKind.u16 0, Value.int IntKind.u16 0, Value.int IntKind.u16 0, Value.int IntKind.u16 0, Value.int IntKind.u16 0, Value.int IntKind.u16 0, Value.int IntKind.u16 0] 143)).alloc (Obj.cells #[Value.int IntKind.u16 0, Value.int IntKind.u16 0, Value.int IntKind.u16 0, Value.int IntKind.u16 0, Value.int IntKind.u16 0, Value.int IntKind.u16 0, Value.int IntKind.u16 0, Value.int IntKind.u16 0, Value.int IntKind.u16 0, Value.int IntKind.u16 0, Value.int IntKind.u16 0, Value.int IntKind.u16 0, Value.int IntKind.u16 0, Value.int IntKind.u16 0, Value.int IntKind.u16 0, Value.int IntKind.u16 0] 143) = w0 at *
  rw [World.size_alloc] at B1
  rw [← mat_zero] at B0 B1
  go_loopw [4, 5, 7] (fun _ _ v wr => ∃ k : Nat, k ≤ 16 ∧ v = .int .i64 k ∧ Blk wr B (mat M) 143 ∧ Blk wr w.heap.size (mat (fun _ => 0)) 143 ∧ Blk wr (w.heap.size + 1) (mat (twiceI M k)) 143 ∧ Below w.heap.size w wr) (fun _ _ v _ => 16 - (intOf v).toNat)
  case atStart => exact ⟨0, by omega, rfl, BM, B0, B1, hb⟩
  case round =>
    obtain ⟨k, hk, rfl, CM, C0, C1, hbr⟩ := hrel
    by_cases hlt : k < 16
    · have hc := CM.cell (mat_get _ k hlt)
      have hc1 := C1.cell (mat_get _ k hlt)
      have hf := C1.free k
      have hMk := hM k hlt
      have HT := Lib.hid (fun W (hW : Blk W B (mat M) 143) => times_any M (M k) B W hMk.1 hMk.2 hW)
      go_wp2
      go_region
      go_wp2_with fail
      refine (HT.out _ CM.drew).mono ?_
      rintro e w' ⟨rfl, m, rfl⟩
      go_wp2
      go_roundw
      case rel =>
        refine ⟨k + 1, by omega, by go_num, (CM.drewN _).setOther _ _ (by show B ≠ w.heap.size + 1; omega), (C0.drewN _).setOther _ _ (by show w.heap.size ≠ w.heap.size + 1; omega), ?_, (below_drewN hbr _).setCell (by show w.heap.size ≤ w.heap.size + 1; omega) _⟩
        have C2 := (C1.drewN (1 + m)).setCell k (Value.int IntKind.u16 (timesI M (M k) 16))
        rw [mat_set _ _ _ hlt] at C2
        rwa [mat_congr (N := twiceI M (k + 1)) (fun i _ => ?_)] at C2
        simp only [twiceI]
        by_cases e : i = k
        · rw [if_pos e, if_pos (by omega), e]
        · rw [if_neg e]
          by_cases h2 : i < k
          · rw [if_pos h2, if_pos (by omega)]
          · rw [if_neg h2, if_neg (by omega)]
      case measure => simp [intOf]; omega
    · obtain rfl : k = 16 := by omega
      go_wp2_with (first
        | (refine wpList_load_row rfl 143 _ rfl (w.heap.size + 1) rfl 143 _ (0, 0) _ C1.at_ Try.underlying143 rfl (by rw [mat_size]; exact info143) ?_)
        | (refine wpList_store_row rfl 143 _ _ rfl w.heap.size (mat (twiceI M 16)) rfl rfl 143 _ C0.at_ (by rw [mat_size]; exact info143) (by rw [mat_size, mat_size]) (mat_one _) ?_))
      have C2 := C0.setRow (mat (twiceI M 16))
      refine bodyPost_ret (v := .agg (mat (twiceI M 16))) (results_cell_row rfl _ _ w.heap.size 143 (mat (twiceI M 16)) (0, 0) _ rfl C2.at_ Try.underlying143 rfl (by rw [mat_size]; exact info143)) rfl ⟨rfl, below_setRow' hbr (Nat.le_refl _) _⟩

theorem and1_64 (n : Int) : bits .and .i64 n 1 = n % 2 := by
  unfold bits
  show IntKind.i64.wrap ((BitVec.ofInt 64 n &&& BitVec.ofInt 64 1).toNat : Int) = n % 2
  rw [BitVec.toNat_and, show (BitVec.ofInt 64 1).toNat = 2 ^ 1 - 1 by decide, Nat.and_two_pow_sub_one_eq_mod, BitVec.toNat_ofInt, IntKind.wrap_i64]
  omega
theorem store_new (w : World) (c c' : Array Value) (t : TypeId) : (w.alloc (.cells c t)).setRow w.heap.size c' = w.alloc (.cells c' t) := World.setRow_alloc_new w c c' t
set_option maxHeartbeats 1000000 in
set_option maxRecDepth 100000 in
theorem zeros_any (s : BitVec 16) (n : Int) (w : World) (hn0 : -9223372036854775808 ≤ n) (hn1 : n ≤ 9223372036854775807) :
    Calls Try.prog 52 #[.int .u16 (s.toNat : Int), .int .i64 n] w fun e w' => e = .returned (.int .u16 ((zB n.toNat s).toNat : Int)) ∧ Below w.heap.size w w' := by
  have HO := Lib.hid (fun W => one_any W)
  go_enter Try.func52, Try.ntmps52
  go_wp2_with fail
  refine (HO.out _).mono ?_
  rintro e w1 ⟨rfl, b⟩
  rw [mat_congr (fun i hi => one_law i hi)]
  go_wp2_with (refine wpList_store_row rfl 143 _ _ rfl w1.heap.size (mat (powM 0)) rfl rfl 143 _ (heap_alloc_last w1 _) (by rw [mat_size]; exact info143) (by rw [mat_size]; rfl) (mat_one _) ?_; rw [store_new])
  dsimp only [Act.put]
  have B0 := Blk.new w1 (mat (powM 0)) 143
  have hb := b.alloc b.size (.cells (mat (powM 0)) 143)
  have hs1 := b.size
  generalize hB : w1.heap.size = B at *
  generalize w1.alloc (.cells (mat (powM 0)) 143) = w2 at *
  have HB := Lib.hid hB
  clear hB
  go_loopw [0, 1, 5] (fun x v p wr => ∃ (j a : Nat) (N : Int) (B : Nat), v = .int .i64 N ∧ N ≤ 9223372036854775807 ∧ -9223372036854775808 ≤ N ∧ x = .int .u16 ((zB a s).toNat : Int) ∧ p = .pointer (some ⟨B, 0, none⟩) ∧ n.toNat = a + N.toNat * 2 ^ j ∧ Blk wr B (mat (powM j)) 143 ∧ w.heap.size ≤ B ∧ Below w.heap.size w wr) (fun _ v _ _ => (intOf v).toNat)
  case atStart => exact ⟨0, 0, n, B, rfl, hn1, hn0, rfl, rfl, by simp, B0, by omega, hb⟩
  case round =>
    clear B0 hb b
    obtain ⟨j, a, N, C, rfl, l1, l2, rfl, rfl, hn, hC, hCB, hbr⟩ := hrel
    have HN := Lib.hid hn
    clear hn
    by_cases hlt : 0 < N
    · have hT := Lib.hid (fun (x : BitVec 16) (W : World) (hW : Blk W C (mat (powM j)) 143) => times_any (powM j) (x.toNat : Int) C W (by omega) (by have := x.isLt; omega) hW)
      have hW := Lib.hid (fun (W : World) (hW : Blk W C (mat (powM j)) 143) => twice_any (powM j) C W (fun i _ => powM_range j i) hW)
      have hlC := hC.lt
      by_cases hodd : N % 2 = 1
      · have c : (bits .and .i64 N 1 == 1) = true := by rw [and1_64, hodd]; rfl
        have HM := Lib.hid (show n.toNat = (2 ^ j + a) + (N / 2).toNat * 2 ^ (j + 1) by
          rw [HN.out, show N.toNat = 2 * (N / 2).toNat + 1 by omega, Nat.pow_succ, Nat.add_mul, Nat.mul_comm 2, Nat.mul_assoc, Nat.mul_comm 2 (2 ^ j)]; omega)
        clear hodd
        go_wp2_with fail
        refine (hT.out _ _ hC).mono ?_
        rintro e w' ⟨rfl, m, rfl⟩
        go_wp2_with fail
        refine (hW.out _ (hC.drewN m)).mono ?_
        rintro e w4 ⟨rfl, b4⟩
        rw [mat_congr (fun i hi => twice_law j i hi), times_law, ← zB_add]
        have C4 := (hC.drewN m).keep b4
        have b5 := below_lift (below_drewN hbr m) b4 (by have := hbr.size; simp; omega)
        clear b4 hC hbr
        have hl5 : ∀ o, ((w4.setRow C (mat (powM (j + 1)))).alloc o).heap[w4.heap.size]? = some o := fun o => by have := heap_alloc_last (w4.setRow C (mat (powM (j + 1)))) o; rwa [size_setRow] at this
        have HL := Lib.hid hl5
        clear hl5
        go_wp2_with (first
          | (refine wpList_store_row rfl 143 _ _ rfl C (mat (powM (j + 1))) rfl rfl 143 _ C4.at_ (by rw [mat_size]; exact info143) (by rw [mat_size, mat_size]) (mat_one _) ?_)
          | (refine wpList_load_row rfl 143 _ rfl C rfl 143 _ (0, 0) _ (C4.setRow (mat (powM (j + 1)))).at_ Try.underlying143 rfl (by rw [mat_size]; exact info143) ?_)
          | (refine wpList_store_row rfl 143 _ _ rfl w4.heap.size (mat (powM (j + 1))) rfl rfl 143 _ (HL.out _) (by rw [mat_size]; exact info143) (by rw [mat_size]; rfl) (mat_one _) ?_))
        have hb6 : ∀ o, Below w.heap.size w (((w4.setRow C (mat (powM (j + 1)))).alloc o).setRow w4.heap.size (mat (powM (j + 1)))) := fun o => below_setRow' ((below_setRow' b5 hCB _).alloc (by rw [size_setRow]; exact b5.size) o) b5.size _
        go_roundw
        case rel => exact ⟨j + 1, 2 ^ j + a, N / 2, w4.heap.size, rfl, by omega, by omega, rfl, rfl, HM.out, (Blk.mk (HL.out _)).setRow _, b5.size, hb6 _⟩
        case measure => simp [intOf]; omega
      · have c : (bits .and .i64 N 1 == 1) = false := by rw [and1_64, show N % 2 = 0 by omega]; rfl
        have HM := Lib.hid (show n.toNat = a + (N / 2).toNat * 2 ^ (j + 1) by
          rw [HN.out, show N.toNat = 2 * (N / 2).toNat by omega, Nat.pow_succ, Nat.mul_comm 2, Nat.mul_assoc, Nat.mul_comm 2 (2 ^ j)])
        clear hodd
        go_wp2_with fail
        refine (hW.out _ hC).mono ?_
        rintro e w4 ⟨rfl, b4⟩
        rw [mat_congr (fun i hi => twice_law j i hi)]
        have C4 := hC.keep b4
        have b5 := below_lift hbr b4 hbr.size
        clear b4 hC hbr
        have hl5 : ∀ o, ((w4.setRow C (mat (powM (j + 1)))).alloc o).heap[w4.heap.size]? = some o := fun o => by have := heap_alloc_last (w4.setRow C (mat (powM (j + 1)))) o; rwa [size_setRow] at this
        have HL := Lib.hid hl5
        clear hl5
        go_wp2_with (first
          | (refine wpList_store_row rfl 143 _ _ rfl C (mat (powM (j + 1))) rfl rfl 143 _ C4.at_ (by rw [mat_size]; exact info143) (by rw [mat_size, mat_size]) (mat_one _) ?_)
          | (refine wpList_load_row rfl 143 _ rfl C rfl 143 _ (0, 0) _ (C4.setRow (mat (powM (j + 1)))).at_ Try.underlying143 rfl (by rw [mat_size]; exact info143) ?_)
          | (refine wpList_store_row rfl 143 _ _ rfl w4.heap.size (mat (powM (j + 1))) rfl rfl 143 _ (HL.out _) (by rw [mat_size]; exact info143) (by rw [mat_size]; rfl) (mat_one _) ?_))
        have hb6 : ∀ o, Below w.heap.size w (((w4.setRow C (mat (powM (j + 1)))).alloc o).setRow w4.heap.size (mat (powM (j + 1)))) := fun o => below_setRow' ((below_setRow' b5 hCB _).alloc (by rw [size_setRow]; exact b5.size) o) b5.size _
        go_roundw
        case rel => exact ⟨j + 1, a, N / 2, w4.heap.size, rfl, by omega, by omega, rfl, rfl, HM.out, (Blk.mk (HL.out _)).setRow _, b5.size, hb6 _⟩
        case measure => simp [intOf]; omega
    · go_wp2
      go_ret
      exact ⟨ret_int (by rw [HN.out, show N.toNat = 0 by omega]; simp), hbr⟩

end Go.Proofs.Ytdhfkcodacmbfaa
