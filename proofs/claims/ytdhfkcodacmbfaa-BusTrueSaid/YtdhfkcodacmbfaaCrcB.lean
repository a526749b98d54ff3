/- The walk of crc.Burst: a text of up to 1,000,000 bytes. -/
import Derived.Test.YtdhfkcodacmbfaaCrc
import Derived.Test.YtdhfkcodacmbfaaBurstMath
set_option linter.unusedVariables false
set_option linter.unusedSimpArgs false
namespace Go.Proofs.Ytdhfkcodacmbfaa
open Go.RowKit
def burstS (s : ByteArray) (q : Nat) (p : Int) : ByteArray := strOfNums ((List.range s.size).map (burstF s q p (q / 8 + 3)))
theorem burstF_at (s : ByteArray) (q : Nat) (p : Int) (k : Nat) : burstF s q p k k = ((s.data.toList.getD k 0).toNat : Int) := if_neg (by omega)
theorem burstF_succ (s : ByteArray) (q : Nat) (p : Int) (k : Nat) (h : q / 8 ≤ k) (j : Nat) :
    (if j = k then Value.int .u8 (bits .xor .u8 (burstF s q p k k) (p * 2 ^ (8 - q % 8) % 4294967296 / 2 ^ (16 - 8 * (k - q / 8)) % 256)) else .int .u8 (burstF s q p k j)) = .int .u8 (burstF s q p (k + 1) j) := by
  by_cases e : j = k
  · subst e
    rw [if_pos rfl, burstF_at]
    simp only [burstF]
    rw [if_pos ⟨h, by omega⟩]
  · rw [if_neg e]
    simp only [burstF]
    by_cases h2 : q / 8 ≤ j ∧ j < k
    · rw [if_pos h2, if_pos ⟨h2.1, by omega⟩]
    · rw [if_neg h2, if_neg (by omega)]

theorem burst_out (s : ByteArray) (n p : Int) (w : World) (hs : s.size ≤ 1000000) (h : n < 0 ∨ 8 * (s.size : Int) ≤ n) :
    Calls Try.prog 32 #[.string s, .int .i64 n, .int .u16 p] w fun e w' => e = .returned (.string s) ∧ Below w.heap.size w w' := by
  rcases h with h | h
  · have h2 : ¬ (8 * (s.size : Int) ≤ n) := by omega
    go_enter Try.func32, Try.ntmps32
    go_wp2
    go_ret
    exact ⟨rfl, Below.refl _ _⟩
  · have h2 : ¬ n < 0 := by omega
    go_enter Try.func32, Try.ntmps32
    go_wp2
    go_ret
    exact ⟨rfl, Below.refl _ _⟩
set_option maxRecDepth 100000 in
theorem burst_in (s : ByteArray) (q : Nat) (p : Int) (w : World) (hs : s.size ≤ 1000000) (h1 : q < 8 * s.size) (hp0 : 0 ≤ p) (hp1 : p < 65536) :
    Calls Try.prog 32 #[.string s, .int .i64 q, .int .u16 p] w fun e w' => e = .returned (.string (burstS s q p)) ∧ Below w.heap.size w w' := by
  have hcv := fun W => Lib.run_convert_string_bytes (P := Try.prog) W 9 54 5 s Try.underlying9 Try.underlying54 Try.underlying5
  have R0 : Row (Lib.bytesWorld w 5 s) w.heap.size s.size (fun j => .int .u8 (burstF s q p (q / 8) j)) := (bytes_row w 5 s).congr (fun j hj => by simp only [burstF]; rw [if_neg (by omega)])
  have B0 := bytes_below w 5 s
  go_enter Try.func32, Try.ntmps32
  go_wp2
  generalize Lib.bytesWorld w 5 s = w0 at *
  go_loopw [9] (fun v wr => ∃ k : Nat, q / 8 ≤ k ∧ k ≤ s.size ∧ k ≤ q / 8 + 3 ∧ v = .int .i64 k ∧ Row wr w.heap.size s.size (fun j => .int .u8 (burstF s q p k j)) ∧ Below w.heap.size w wr) (fun v _ => s.size - (intOf v).toNat)
  case atStart => exact ⟨q / 8, by omega, by omega, by omega, by go_num, R0, B0⟩
  case round =>
    obtain ⟨k, hk1, hk2, hk3, rfl, hR, hB⟩ := hrel
    by_cases hlt : k < s.size ∧ k < q / 8 + 3
    · obtain ⟨l1, l2⟩ := hlt
      have hc := hR.cell k l1
      have hf := hR.free k l1
      go_wp2
      all_goals
        go_region
        go_wp2
        go_roundw
        case rel =>
          refine ⟨k + 1, by omega, by omega, by omega, by go_num, ?_, ?_⟩
          · exact ((hR.set k _ l1).drew).congr (fun j _ => burstF_succ s q p k hk1 j)
          · exact (hB.setCell (Nat.le_refl _) _).drew
        case measure => simp [intOf]; omega
    · have hcs := row_string (P := Try.prog) hR 54 9 5 Try.underlying54 Try.underlying5 Try.underlying9
      have HE := Lib.hid (show List.map (burstF s q p k) (List.range s.size) = (List.range s.size).map (burstF s q p (q / 8 + 3)) by
        apply List.map_congr_left
        intro j hj
        have := List.mem_range.1 hj
        simp only [burstF]
        by_cases h2 : q / 8 ≤ j ∧ j < k
        · rw [if_pos h2, if_pos (by omega)]
        · rw [if_neg h2, if_neg (by omega)])
      go_wp2
      all_goals go_ret
      all_goals exact ⟨by rw [HE.out]; rfl, hB⟩
end Go.Proofs.Ytdhfkcodacmbfaa
