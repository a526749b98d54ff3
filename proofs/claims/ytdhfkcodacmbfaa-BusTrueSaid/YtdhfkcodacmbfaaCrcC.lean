/- The walk of the reference's Burst: a text of up to 1,000,000 bytes. -/
import Derived.Test.YtdhfkcodacmbfaaCrcB
set_option linter.unusedVariables false
set_option linter.unusedSimpArgs false
namespace Go.Proofs.Ytdhfkcodacmbfaa
open Go.RowKit
theorem refF_yes (s : ByteArray) (q : Nat) (p : Int) (i : Nat) (c : p / 2 ^ (15 - i) % 2 = 1 ∧ q + i < 8 * s.size) (j : Nat) :
    (if j = (q + i) / 8 then Value.int .u8 (bits .xor .u8 (refF s q p i ((q + i) / 8)) (2 ^ (7 - (q + i) % 8) % 256)) else .int .u8 (refF s q p i j)) = .int .u8 (refF s q p (i + 1) j) := by
  by_cases e : j = (q + i) / 8
  · rw [if_pos e, refF, if_pos ⟨c, e⟩, e]
  · rw [if_neg e, refF, if_neg (fun h => e h.2)]
theorem refF_no (s : ByteArray) (q : Nat) (p : Int) (i : Nat) (c : ¬ (p / 2 ^ (15 - i) % 2 = 1 ∧ q + i < 8 * s.size)) (j : Nat) : refF s q p (i + 1) j = refF s q p i j := by
  rw [refF, if_neg (fun h => c h.1)]
theorem refburst_out (s : ByteArray) (n p : Int) (w : World) (hs : s.size ≤ 1000000) (h : n < 0 ∨ 8 * (s.size : Int) ≤ n) :
    Calls Try.prog 33 #[.string s, .int .i64 n, .int .u16 p] w fun e w' => e = .returned (.string s) ∧ Below w.heap.size w w' := by
  rcases h with h | h
  · have h2 : ¬ (8 * (s.size : Int) ≤ n) := by omega
    go_enter Try.func33, Try.ntmps33
    go_wp2
    go_ret
    exact ⟨rfl, Below.refl _ _⟩
  · have h2 : ¬ n < 0 := by omega
    go_enter Try.func33, Try.ntmps33
    go_wp2
    go_ret
    exact ⟨rfl, Below.refl _ _⟩
set_option maxRecDepth 100000 in
theorem refburst_in (s : ByteArray) (q : Nat) (p : Int) (w : World) (hs : s.size ≤ 1000000) (h1 : q < 8 * s.size) (hp0 : 0 ≤ p) (hp1 : p < 65536) :
    Calls Try.prog 33 #[.string s, .int .i64 q, .int .u16 p] w fun e w' => e = .returned (.string (burstS s q p)) ∧ Below w.heap.size w w' := by
  have hcv := fun W => Lib.run_convert_string_bytes (P := Try.prog) W 9 54 5 s Try.underlying9 Try.underlying54 Try.underlying5
  have R0 := bytes_row w 5 s
  have B0 := bytes_below w 5 s
  go_enter Try.func33, Try.ntmps33
  go_wp2
  generalize Lib.bytesWorld w 5 s = w0 at *
  go_loopw [8, 9, 10] (fun v _ _ wr => ∃ i : Nat, i ≤ 16 ∧ v = .int .i64 i ∧ Row wr w.heap.size s.size (fun j => .int .u8 (refF s q p i j)) ∧ Below w.heap.size w wr) (fun v _ _ _ => 16 - (intOf v).toNat)
  case atStart => exact ⟨0, by omega, rfl, R0, B0⟩
  case round =>
    obtain ⟨i, hi, rfl, hR, hB⟩ := hrel
    by_cases hlt : i < 16
    · have hz : 0 ≤ p / 2 ^ (15 - i) := Int.ediv_nonneg hp0 (Int.le_of_lt (Int.pow_pos (by decide)))
      by_cases c : (p / 2 ^ (15 - i) % 2 = 1 ∧ q + i < 8 * s.size)
      · have hc := hR.cell ((q + i) / 8) (by omega)
        have hf := hR.free ((q + i) / 8) (by omega)
        obtain ⟨c1, c2⟩ := id c
        have d1 : (p / 2 ^ (15 - i) % 2 == 1) = true := by simpa using c1
        have C := Lib.hid c
        clear c1 c
        go_wp2
        all_goals
          go_region
          go_wp2
          go_roundw
          case rel => exact ⟨i + 1, by omega, by go_num, ((hR.set _ _ (by omega)).drew).congr (fun j _ => refF_yes s q p i C.out j), (hB.setCell (Nat.le_refl _) _).drew⟩
          case measure => simp [intOf]; omega
      · have C := Lib.hid c
        have hp : p / 2 ^ (15 - i) % 2 = 0 ∨ p / 2 ^ (15 - i) % 2 = 1 := by omega
        rcases hp with hp | hp
        · have d1 : (p / 2 ^ (15 - i) % 2 == 1) = false := by rw [hp]; rfl
          clear c hp
          go_wp2
          go_roundw
          case rel => exact ⟨i + 1, by omega, by go_num, hR.congr (fun j _ => by rw [refF_no s q p i C.out j]), hB⟩
          case measure => simp [intOf]; omega
        · have d1 : (p / 2 ^ (15 - i) % 2 == 1) = true := by rw [hp]; rfl
          have d2 : ¬ (i : Int) < 8 * s.size - q := by omega
          clear c hp
          go_wp2
          go_roundw
          case rel => exact ⟨i + 1, by omega, by go_num, hR.congr (fun j _ => by rw [refF_no s q p i C.out j]), hB⟩
          case measure => simp [intOf]; omega
    · have hcs := row_string (P := Try.prog) hR 54 9 5 Try.underlying54 Try.underlying5 Try.underlying9
      obtain rfl : i = 16 := by omega
      have HE := Lib.hid (show List.map (refF s q p 16) (List.range s.size) = (List.range s.size).map (burstF s q p (q / 8 + 3)) from
        List.map_congr_left (fun j hj => refF_burst s q p hp0 hp1 j (List.mem_range.1 hj)))
      go_wp2
      all_goals go_ret
      all_goals exact ⟨by rw [HE.out]; rfl, hB⟩
end Go.Proofs.Ytdhfkcodacmbfaa
