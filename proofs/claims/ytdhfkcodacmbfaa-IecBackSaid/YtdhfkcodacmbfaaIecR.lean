/- The walk of the law IecBack. -/
import Derived.Test.YtdhfkcodacmbfaaIecQ
import Derived.Deep.RegionHeld3
set_option linter.unusedVariables false
set_option linter.unusedSimpArgs false
namespace Go.Proofs.Ytdhfkcodacmbfaa
open Go.RowKit

theorem row_string_at {P : Program} {w : World} {B n : Nat} {f : Nat → Int} (h : Row w B n (fun j => .int .u8 (f j))) (src dst e : TypeId) (hs : P.underlying src = some (.slice e)) (he : P.underlying e = some (.int .u8)) (hd : P.underlying dst = some .string) (off len cap : Nat) (hl : off + len ≤ n) :
    (convert src dst (.slice (some ⟨B, off, none⟩) len cap)).run P w = .ok (.string (strOfNums ((List.range len).map fun i => f (off + i)))) w :=
  run_convert_bytes_arg w src e hs he B off len cap _ (by simp) (fun i hi => by
    rw [h.cell (off + i) (by omega)]
    simp [hi, List.getD_eq_getElem?_getD]) dst hd
theorem put_pre (area : ByteArray) (A S : Nat) (V : Int) (h : A + S ≤ area.size) : strOfNums ((List.range A).map fun i => putF (areaF area) (A + S) S V (0 + i)) = area.extract 0 A := by
  rw [ext_list area 0 A (by omega) (by omega)]
  congr 1
  apply List.map_congr_left
  intro i hi
  simp at hi
  unfold putF
  rw [if_neg (by omega)]
theorem put_suf (area : ByteArray) (A S : Nat) (V : Int) (h : A + S ≤ area.size) : strOfNums ((List.range (area.size - (A + S))).map fun i => putF (areaF area) (A + S) S V (A + S + i)) = area.extract (A + S) area.size := by
  rw [ext_list area (A + S) area.size h (by omega)]
  congr 1
  apply List.map_congr_left
  intro i hi
  unfold putF
  rw [if_neg (by omega)]
structure SR (w0 : World) (g n : Nat) (f : Nat → Int) (w : World) : Prop where
  row : Row w g n (fun j => .int .u8 (f j))
  bel : Below w0.heap.size w0 w
theorem SR.drew {w0 : World} {g n : Nat} {f : Nat → Int} {w : World} (h : SR w0 g n f w) : SR w0 g n f w.drew := ⟨h.row.drew, h.bel.drew⟩
theorem SR.below {w0 : World} {g n : Nat} {f : Nat → Int} {w w' : World} (h : SR w0 g n f w) (hn : 0 < n) (b : Below w.heap.size w w') : SR w0 g n f w' := ⟨h.row.below b (h.row.lt hn), below_then h.bel b⟩
theorem SR.of {p q : Prop} {w0 : World} {g n : Nat} {f : Nat → Int} {w : World} (h : p ∧ q ∧ SR w0 g n f w) : SR w0 g n f w := h.2.2
set_option maxRecDepth 100000 in
set_option maxHeartbeats 1500000 in
theorem iback_walk (area : ByteArray) (a b v : Int) (w : World) (ws : area.size ≤ maxLen) (wa : (Lit.int .u8 a).wf = true) (wb : (Lit.int .u8 b).wf = true) (wv : (Lit.int .i64 v).wf = true) :
    Calls Try.prog 17 #[.string area, .agg #[.int .u8 a, .int .u8 b], .int .i64 v] w fun e w' => e = .returned (.bool true) ∧ Below w.heap.size w w' := by
  have HA := Lib.hid (fun W => iawake_any W)
  have hX := Blk.new w #[Value.int .u8 a, .int .u8 b] 104
  have hb0 := (Below.refl w.heap.size w).alloc (Nat.le_refl _) (.cells #[Value.int .u8 a, .int .u8 b] 104)
  have ws' : area.size ≤ 9223372036854775807 := ws
  have ra := wf_range8 wa
  have rb := wf_range8 wb
  clear wa wb ws
  by_cases h8 : area.size < 8
  · go_enter Try.func17, Try.ntmps17
    go_wp2_with fail
    generalize w.alloc (.cells #[Value.int .u8 a, .int .u8 b] 104) = w2 at *
    refine (HA.out _).mono ?_
    rintro e w3 ⟨rfl, bn⟩
    have hb := below_lift hb0 bn hb0.size
    go_wp2_with fail
    go_ret
    exact ⟨rfl, hb⟩
  · by_cases h40 : area.size ≤ 40
    · obtain ⟨K, hK⟩ : ∃ K, 1 + b % 7 = K := ⟨_, rfl⟩
      have hk : 1 ≤ K ∧ K ≤ 7 := by omega
      have hsr : 1 ≤ ksize K ∧ ksize K ≤ 4 := by
        have hc : K = 1 ∨ K = 2 ∨ K = 3 ∨ K = 4 ∨ K = 5 ∨ K = 6 ∨ K = 7 := by omega
        clear hK
        rcases hc with rfl | rfl | rfl | rfl | rfl | rfl | rfl <;> decide
      obtain ⟨S, hS⟩ : ∃ S : Nat, ksize K = S := ⟨(ksize K).toNat, by omega⟩
      have hS' : (ksize K).toNat = S := by omega
      obtain ⟨A, hP⟩ : ∃ A : Nat, a % ((area.size : Int) - S + 1) = A := ⟨(a % ((area.size : Int) - S + 1)).toNat, by have := Int.emod_nonneg a (show (area.size : Int) - S + 1 ≠ 0 by omega); omega⟩
      have hAS : A + S ≤ area.size := by
        have := Int.emod_lt_of_pos a (show (0 : Int) < (area.size : Int) - S + 1 by omega)
        omega
      have ht : thereK area.size (A : Int) K = true := by unfold thereK; apply decide_eq_true; omega
      obtain ⟨g1, g2, g3⟩ := put_get area A K v hk (by omega)
      have hsz := putS_size area A K v
      have HS := Lib.hid (fun W => size_any K W)
      obtain ⟨f, hf⟩ : ∃ f, f = putF (areaF area) (A + S) S (wrapK K v) := ⟨_, rfl⟩
      have HP := Lib.hid (fun W0 g cap W hR hb hg => by
        have q := put_yes W0 g area.size cap (areaF area) (A : Int) K v W (by omega) ht wv hR hb hg
        rw [hS', Int.toNat_natCast, ← hf] at q
        exact q)
      have HR := Lib.hid (fun (W : World) (g cap : Nat) (h : Row W g area.size (fun j => .int .u8 (f j))) => by
        have q := row_string (P := Try.prog) h 54 9 5 Try.underlying54 Try.underlying5 Try.underlying9 cap
        rw [show strOfNums ((List.range area.size).map f) = putS area A K v by unfold putS; rw [hS', Int.toNat_natCast, ← hf]] at q
        exact q)
      have HR1 := Lib.hid (fun (W : World) (g cap : Nat) (h : Row W g area.size (fun j => .int .u8 (f j))) => by
        have q := row_string_at (P := Try.prog) h 54 9 5 Try.underlying54 Try.underlying5 Try.underlying9 0 A cap (by omega)
        rw [hf, put_pre area A S _ hAS] at q
        exact q)
      have HR2 := Lib.hid (fun (W : World) (g cap : Nat) (h : Row W g area.size (fun j => .int .u8 (f j))) => by
        have q := row_string_at (P := Try.prog) h 54 9 5 Try.underlying54 Try.underlying5 Try.underlying9 (A + S) (area.size - (A + S)) cap (by omega)
        rw [hf, put_suf area A S _ hAS] at q
        exact q)
      have HG := Lib.hid (fun W => get_yes (putS area A K v) (A : Int) K W (by omega) (by rw [hsz]; exact ht))
      rw [g1] at HG
      have HW := Lib.hid (fun W => wrap_any K v W wv)
      have hwr := wrapK_range K v
      have HI := Lib.hid (fun W => is_any K (wrapK K v) W (wf_small (by omega) (by omega)))
      rw [isK_wrap K v hk] at HI
      rw [hS] at HS
      have hcv := fun W => Lib.run_convert_string_bytes (P := Try.prog) W 9 54 5 area Try.underlying9 Try.underlying54 Try.underlying5
      have hS1 : 1 ≤ S ∧ S ≤ 4 := by omega
      clear ht wv g1 g2 g3 hwr hf hS' hsr
      generalize putS area A K v = out at *
      generalize wrapK K v = V at *
      go_enter Try.func17, Try.ntmps17
      go_wp2_with fail
      generalize w.alloc (.cells #[Value.int .u8 a, .int .u8 b] 104) = w2 at *
      refine (HA.out _).mono ?_
      rintro e w3 ⟨rfl, bn⟩
      replace hX := hX.keep bn
      have hb := below_lift hb0 bn hb0.size
      clear bn hb0
      have c0 := hX.cell (j := 0) (v := .int .u8 a) rfl
      have c1 := hX.cell (j := 1) (v := .int .u8 b) rfl
      have hgl := hX.lt
      go_wp2_with fail
      refine (HS.out _).mono ?_
      rintro e w5 ⟨rfl, bn⟩
      replace hX := hX.keep bn
      replace hb := below_then hb bn
      clear bn c0 c1 hgl
      have c0 := hX.cell (j := 0) (v := .int .u8 a) rfl
      have R : Row (Lib.bytesWorld w5 5 area) w5.heap.size area.size (fun j => .int .u8 (areaF area j)) := bytes_row w5 5 area
      have bb := bytes_below w5 5 area
      have HPP := Lib.hid (fun cap => HP.out w5 w5.heap.size cap _ R bb (Nat.le_refl _))
      clear HP
      go_wp2_with fail
      generalize Lib.bytesWorld w5 5 area = w6 at *
      have hcap : area.size ≤ grownCap w5 area.size 0 5 := grownCap_ge _ _ _ _
      generalize grownCap w5 area.size 0 5 = cap at *
      refine (HPP.out cap).mono ?_
      rintro e w7 ⟨rfl, R7, b7⟩
      replace hb := below_then hb b7
      clear HPP R bb c0 b7 hX
      generalize w5.heap.size = g at *
      have hcv7 := HR.out w7 g cap R7
      go_wp2_with fail
      refine (HG.out _).mono ?_
      rintro e w8 ⟨rfl, b8⟩
      have HS8 : SR w g area.size f w8 := ⟨R7.below b8 (R7.lt (by omega)), below_then hb b8⟩
      clear R7 hcv7 b8 hb HR HG
      have hn0 : 0 < area.size := by omega
      have HALL : ∀ W, SR w g area.size f W → ((∀ c, (convert 54 9 (.slice (some ⟨g, 0, none⟩) A c)).run Try.prog W = .ok (.string (area.extract 0 A)) W) ∧ (∀ c, (convert 54 9 (.slice (some ⟨g, A + S, none⟩) (area.size - (A + S)) c)).run Try.prog W = .ok (.string (area.extract (A + S) area.size)) W) ∧ SR w g area.size f W) :=
        fun W h => ⟨fun c => HR1.out W g c h.row, fun c => HR2.out W g c h.row, h⟩
      have HC := Lib.hid HALL
      have e1 := (HALL _ HS8).1
      have e2 := (HALL _ HS8).2.1
      clear HALL HR1 HR2
      go_wp2_with fail
      have q1 : (0 : Int) ≤ (A : Int) := by omega
      have q2 : (A : Int) ≤ (cap : Int) := by omega
      have q3 : (A : Int) ≤ (area.size : Int) := by omega
      have q4 : (0 : Int) ≤ (A : Int) + S := by omega
      have q5 : (A : Int) + S ≤ area.size := by omega
      have q8 : (area.size : Int) ≤ cap := by omega
      have q6 : IntKind.i64.wrap ((A : Int) + S) = (A : Int) + S := by rw [IntKind.wrap_i64]; omega
      have q7 : ((A : Int) + S).toNat = A + S := by omega
      have hS0 : ¬ S = 0 := by omega
      have hAS0 : ¬ A + S = 0 := by omega
      have hAS0' : A = 0 → ¬ S = 0 := fun _ => hS0
      by_cases hce : cap = A + S
      · have hz : area.size - (A + S) = 0 := by omega
        have hc0 : cap - (A + S) = 0 := by omega
        have hx : area.extract (A + S) area.size = strOfNums [] := by
          rw [← put_suf area A S 0 hAS, hz]
          rfl
        have HD := Lib.hid (fun W (h : SR w g area.size f W) => (⟨(HC.out W h).1, fun c => by
          have q := row_string_at (P := Try.prog) h.row 54 9 5 Try.underlying54 Try.underlying5 Try.underlying9 0 0 c (by omega)
          rw [hx]
          exact q, h⟩ : (∀ c, (convert 54 9 (.slice (some ⟨g, 0, none⟩) A c)).run Try.prog W = .ok (.string (area.extract 0 A)) W) ∧ (∀ c, (convert 54 9 (.slice (some ⟨g, 0, none⟩) 0 c)).run Try.prog W = .ok (.string (area.extract (A + S) area.size)) W) ∧ SR w g area.size f W))
        have e3 := (HD.out _ HS8).2.1
        have hce' : (cap = A + S) = True := eq_true hce
        clear e2 hx HC hce
        go_region_held3 (fun W => (∀ c, (convert 54 9 (.slice (some ⟨g, 0, none⟩) A c)).run Try.prog W = .ok (.string (area.extract 0 A)) W) ∧ (∀ c, (convert 54 9 (.slice (some ⟨g, 0, none⟩) 0 c)).run Try.prog W = .ok (.string (area.extract (A + S) area.size)) W) ∧ SR w g area.size f W)
          ((refine HD.out _ ?_; first | assumption | (refine SR.drew ?_; assumption)))
          (first | (go_at_call 82; refine (HW.out _).mono ?_; rintro e w9 ⟨rfl, b9⟩; have hS9 := SR.below (SR.of (by assumption)) hn0 b9) | (go_at_call 83; refine (HI.out _).mono ?_; rintro e w9 ⟨rfl, b9⟩; have hS9 := SR.below (SR.of (by assumption)) hn0 b9))
        all_goals
          go_wp2_with fail
          go_ret
          exact ⟨ret_bool (by first | rfl | simp), hS9.bel⟩
      · have hce2 : ¬ (cap : Int) = (A : Int) + S := by omega
        go_region_held3 (fun W => (∀ c, (convert 54 9 (.slice (some ⟨g, 0, none⟩) A c)).run Try.prog W = .ok (.string (area.extract 0 A)) W) ∧ (∀ c, (convert 54 9 (.slice (some ⟨g, A + S, none⟩) (area.size - (A + S)) c)).run Try.prog W = .ok (.string (area.extract (A + S) area.size)) W) ∧ SR w g area.size f W)
          ((refine HC.out _ ?_; first | assumption | (refine SR.drew ?_; assumption)))
          (first | (go_at_call 82; refine (HW.out _).mono ?_; rintro e w9 ⟨rfl, b9⟩; have hS9 := SR.below (SR.of (by assumption)) hn0 b9) | (go_at_call 83; refine (HI.out _).mono ?_; rintro e w9 ⟨rfl, b9⟩; have hS9 := SR.below (SR.of (by assumption)) hn0 b9))
        all_goals
          go_wp2_with fail
          go_ret
          exact ⟨ret_bool (by first | rfl | simp), hS9.bel⟩
    · go_enter Try.func17, Try.ntmps17
      go_wp2_with fail
      generalize w.alloc (.cells #[Value.int .u8 a, .int .u8 b] 104) = w2 at *
      refine (HA.out _).mono ?_
      rintro e w3 ⟨rfl, bn⟩
      have hb := below_lift hb0 bn hb0.size
      go_wp2_with fail
      go_ret
      exact ⟨rfl, hb⟩
end Go.Proofs.Ytdhfkcodacmbfaa
