/- The walks of package crc and of its reference. -/
import Derived.Test.YtdhfkcodacmbfaaBase
import Derived.Test.YtdhfkcodacmbfaaCrcMath
set_option linter.unusedVariables false
set_option linter.unusedSimpArgs false
namespace Go.Proofs.Ytdhfkcodacmbfaa
open Go.RowKit

theorem run_index_agg {P : Program} (t e : TypeId) (n : Nat) (cs : Array Value) (k : IntKind) (i : Int) (v : Value) (w : World)
    (h : P.underlying t = some (.array n e)) (hs : ∀ w, (sizeOf e).run P w = .ok 1 w) (ha : ∀ w, (isAgg e).run P w = .ok false w)
    (h0 : 0 ≤ i) (h1 : i < n) (hc : cs[i.toNat]? = some v) : 
    (Instr.index t (.agg cs) (.int k i)).run P w = .ok v w := by
  simp [Instr.index, run_underlying h, asIntOf, h0, h1, go_sem, hs, ha, part, hc]

theorem size22 (w : World) : (sizeOf 22).run Try.prog w = .ok 1 w := by kernel_rfl
theorem isAgg22 (w : World) : (isAgg 22).run Try.prog w = .ok false w := by kernel_rfl

set_option maxRecDepth 100000 in
theorem quarter_any (n : Int) (w : World) :
    Calls Try.prog 99 #[.int .u16 n] w fun e w' => e = .returned (.int .u16 (quarterI n)) ∧ w = w' := by
  have hx := fun w => run_index_agg (P := Try.prog) 142 22 16 (tab.map (Value.int .u16)).toArray .u16 (n % 16) (.int .u16 (quarterI n)) w Try.underlying142 size22 isAgg22 (by omega) (by omega) (by
    have h : (n % 16).toNat < tab.length := by simp [tab]; omega
    simp only [List.getElem?_toArray, List.getElem?_map, quarterI, List.getD_eq_getElem?_getD, List.getElem?_eq_getElem h]
    rfl)
  rw [← and15] at hx
  simp only [tab, List.map_cons, List.map_nil] at hx
  generalize quarterI n = r at *
  go_enter Try.func99, Try.ntmps99
  go_wp2
  go_ret
  exact ⟨rfl, rfl⟩

theorem run_two_bytes {P : Program} (W : World) (src dst e : TypeId) (hs : P.underlying src = some (.slice e)) (he : P.underlying e = some (.int .u8)) (hd : P.underlying dst = some .string) (a b : Int) :
    (convert src dst (.slice (some ⟨W.heap.size, 0, none⟩) 2 2)).run P (W.alloc (.cells #[.int .u8 a, .int .u8 b] e)) = .ok (.string (strOfNums [a, b])) (W.alloc (.cells #[.int .u8 a, .int .u8 b] e)) :=
  run_convert_bytes_arg _ src e hs he W.heap.size 0 2 2 [a, b] rfl (fun i hi => by
    have : i = 0 ∨ i = 1 := by omega
    rcases this with rfl | rfl <;> simp [-World.alloc_eq]) dst hd
theorem two_size (a b : Int) : (strOfNums [a, b]).size = 2 := by simp [strOfNums_size]
/-- A text, and its sum. -/
def sealS (s : ByteArray) : ByteArray := s ++ strOfNums [moreI 65535 s.data.toList / 256 % 256, moreI 65535 s.data.toList % 256]


set_option maxRecDepth 100000 in
theorem more_any (n : Int) (s : ByteArray) (w : World) (hs : s.size ≤ 1000000) :
    Calls Try.prog 27 #[.int .u16 n, .string s] w fun e w' => e = .returned (.int .u16 (moreI n s.data.toList)) ∧ w = w' := by
  go_enter Try.func27, Try.ntmps27
  go_wp2
  go_loop [0, 9] (fun m i => ∃ (k : Nat), k ≤ s.size ∧ i = .int .i64 k ∧ m = .int .u16 (moreI n (s.data.toList.take k))) (fun _ i => s.size - (intOf i).toNat)
  case atStart => exact ⟨0, Nat.zero_le _, rfl, rfl⟩
  case round =>
    obtain ⟨k, hk, rfl, rfl⟩ := hrel
    by_cases hlt : k < s.size
    · have HS := Lib.hid (show moreI n (s.data.toList.take (k + 1)) = stepI (moreI n (s.data.toList.take k)) (s[k].toNat : Int) by rw [take_snoc s k hlt, moreI_snoc])
      have gc := s[k].toNat_lt
      go_wp2_with (go_at_call 99; refine (quarter_any _ _).mono ?_; rintro e w' ⟨rfl, rfl⟩)
      go_round
      case rel => exact ⟨k + 1, by omega, by go_num, by rw [HS.out]; rfl⟩
      case measure => simp [intOf]; omega
    · obtain rfl : k = s.size := by omega
      go_wp2
      go_ret
      exact ⟨ret_int (by rw [List.take_of_length_le (by simp)]), rfl⟩

theorem sum_any (s : ByteArray) (w : World) (hs : s.size ≤ 1000000) :
    Calls Try.prog 25 #[.string s] w fun e w' => e = .returned (.int .u16 (moreI 65535 s.data.toList)) ∧ w = w' := by
  go_enter Try.func25, Try.ntmps25
  go_wp2_with (go_at_call 27; refine (more_any _ _ _ hs).mono ?_; rintro e w' ⟨rfl, rfl⟩)
  go_ret
  exact ⟨rfl, rfl⟩

set_option maxRecDepth 100000 in
theorem sealed_any (s : ByteArray) (w : World) (hs : s.size ≤ 1000000) :
    Calls Try.prog 29 #[.string s] w fun e w' => e = .returned (.string (sealS s)) ∧ Below w.heap.size w w' := by
  go_enter Try.func29, Try.ntmps29
  have hcv := fun W a b => run_two_bytes (P := Try.prog) W 54 9 5 Try.underlying54 Try.underlying5 Try.underlying9 a b
  have hsz := two_size
  go_wp2_with (go_at_call 25; refine (sum_any _ _ hs).mono ?_; rintro e w' ⟨rfl, rfl⟩)
  go_ret
  exact ⟨rfl, (Below.refl _ _).alloc (Nat.le_refl _) _⟩

theorem open_short (s : ByteArray) (w : World) (hs : s.size ≤ 1000000) (h : s.size < 2) :
    Calls Try.prog 30 #[.string s] w fun e w' => e = .returned (.tuple #[.string ⟨#[]⟩, .bool false]) ∧ w = w' := by
  go_enter Try.func30, Try.ntmps30
  go_wp2_with (go_at_call 25; refine (sum_any _ _ hs).mono ?_; rintro e w' ⟨rfl, rfl⟩)
  go_ret2
  exact ⟨rfl, rfl⟩
theorem open_no (s : ByteArray) (w : World) (hs : s.size ≤ 1000000) (h : 2 ≤ s.size) (hb : (moreI 65535 s.data.toList != 0) = true) :
    Calls Try.prog 30 #[.string s] w fun e w' => e = .returned (.tuple #[.string ⟨#[]⟩, .bool false]) ∧ w = w' := by
  go_enter Try.func30, Try.ntmps30
  go_wp2_with (go_at_call 25; refine (sum_any _ _ hs).mono ?_; rintro e w' ⟨rfl, rfl⟩)
  go_ret2
  exact ⟨rfl, rfl⟩
theorem open_yes (s : ByteArray) (w : World) (hs : s.size ≤ 1000000) (h : 2 ≤ s.size) (hb : (moreI 65535 s.data.toList != 0) = false) :
    Calls Try.prog 30 #[.string s] w fun e w' => e = .returned (.tuple #[.string (s.extract 0 (s.size - 2)), .bool true]) ∧ w = w' := by
  go_enter Try.func30, Try.ntmps30
  go_wp2_with (go_at_call 25; refine (sum_any _ _ hs).mono ?_; rintro e w' ⟨rfl, rfl⟩)
  go_ret2
  exact ⟨rfl, rfl⟩

set_option maxRecDepth 100000 in
theorem refmore_any (n : Int) (s : ByteArray) (w : World) (hs : s.size ≤ 1000000) (h0 : 0 ≤ n) (h1 : n < 65536) :
    Calls Try.prog 28 #[.int .u16 n, .string s] w fun e w' => e = .returned (.int .u16 (moreI n s.data.toList)) ∧ w = w' := by
  go_enter Try.func28, Try.ntmps28
  go_wp2
  go_loop [5, 6, 7] (fun m i _ => ∃ (k : Nat), k ≤ s.size ∧ i = .int .i64 k ∧ m = .int .i64 (moreI n (s.data.toList.take k)) ∧ 0 ≤ moreI n (s.data.toList.take k) ∧ moreI n (s.data.toList.take k) < 65536) (fun _ i _ => s.size - (intOf i).toNat)
  case atStart => exact ⟨0, Nat.zero_le _, rfl, rfl, h0, h1⟩
  case round =>
    obtain ⟨k, hk, rfl, rfl, g0, g1⟩ := hrel
    by_cases hlt : k < s.size
    · have HS := Lib.hid (show moreI n (s.data.toList.take (k + 1)) = stepI (moreI n (s.data.toList.take k)) (s[k].toNat : Int) by rw [take_snoc s k hlt, moreI_snoc])
      have gc := s[k].toNat_lt
      have gx := xor_range _ _ g0 g1 (show (0 : Int) ≤ (s[k].toNat : Int) * 256 by omega) (by omega)
      have HB := Lib.hid (refByte_step _ _ g0 g1 gc)
      have HR := Lib.hid (stepI_range (moreI n (s.data.toList.take k)) s[k].toNat g0 g1 gc)
      go_wp2
      generalize bits BinOp.xor IntKind.i64 (moreI n (List.take k s.data.toList)) ((s[k].toNat : Int) * 256) = z at *
      go_loop [5, 7] (fun m j => ∃ (i : Nat), i ≤ 8 ∧ j = .int .i64 i ∧ m = .int .i64 (iter refBit i z) ∧ 0 ≤ iter refBit i z ∧ iter refBit i z < 65536) (fun _ i => 8 - (intOf i).toNat)
      case atStart => exact ⟨0, Nat.zero_le _, rfl, rfl, gx.1, gx.2⟩
      case round =>
        obtain ⟨i, hi, rfl, rfl, f0, f1⟩ := hrel
        by_cases hj : i < 8
        · have FR := Lib.hid (refBit_range (iter refBit i z) f0 f1)
          by_cases hc : 65536 ≤ 2 * iter refBit i z
          · have FE := Lib.hid (show iter refBit (i + 1) z = bits .xor .i64 (2 * iter refBit i z - 65536) 4129 by rw [iter, refBit, if_pos hc])
            go_wp2
            go_round
            case rel => exact ⟨i + 1, by omega, by go_num, by rw [FE.out], FR.out.1, FR.out.2⟩
            case measure => simp [intOf]; omega
          · have FE := Lib.hid (show iter refBit (i + 1) z = 2 * iter refBit i z by rw [iter, refBit, if_neg hc])
            go_wp2
            go_round
            case rel => exact ⟨i + 1, by omega, by go_num, by rw [FE.out], FR.out.1, FR.out.2⟩
            case measure => simp [intOf]; omega
        · obtain rfl : i = 8 := by omega
          go_wp2
          go_round
          case rel => exact ⟨k + 1, by omega, by go_num, by rw [HS.out, HB.out], by rw [HS.out]; exact HR.out.1, by rw [HS.out]; exact HR.out.2⟩
          case measure => simp [intOf]; omega
    · obtain rfl : k = s.size := by omega
      go_wp2
      go_ret
      exact ⟨ret_int (by rw [List.take_of_length_le (by simp)]), rfl⟩

theorem refsum_any (s : ByteArray) (w : World) (hs : s.size ≤ 1000000) :
    Calls Try.prog 26 #[.string s] w fun e w' => e = .returned (.int .u16 (moreI 65535 s.data.toList)) ∧ w = w' := by
  go_enter Try.func26, Try.ntmps26
  go_wp2_with (go_at_call 28; refine (refmore_any _ _ _ hs (by omega) (by omega)).mono ?_; rintro e w' ⟨rfl, rfl⟩)
  go_ret
  exact ⟨rfl, rfl⟩
set_option maxRecDepth 100000 in
theorem refsealed_any (s : ByteArray) (w : World) (hs : s.size ≤ 1000000) :
    Calls Try.prog 31 #[.string s] w fun e w' => e = .returned (.string (sealS s)) ∧ Below w.heap.size w w' := by
  go_enter Try.func31, Try.ntmps31
  have hcv := fun W a b => run_two_bytes (P := Try.prog) W 54 9 5 Try.underlying54 Try.underlying5 Try.underlying9 a b
  have hsz := two_size
  have HR := moreI_range s.data.toList
  have h0 := HR.1
  have h1 := HR.2
  clear HR
  go_wp2_with (go_at_call 26; refine (refsum_any _ _ hs).mono ?_; rintro e w' ⟨rfl, rfl⟩)
  go_ret
  exact ⟨by rw [Int.tdiv_eq_ediv_of_nonneg h0, u16_in _ (by omega) (by omega)]; rfl, (Below.refl _ _).alloc (Nat.le_refl _) _⟩

end Go.Proofs.Ytdhfkcodacmbfaa
