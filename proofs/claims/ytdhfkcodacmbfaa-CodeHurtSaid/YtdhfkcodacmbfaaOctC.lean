/- The walk of the law OctetsReads. -/
import Derived.Test.YtdhfkcodacmbfaaOctB
set_option linter.unusedVariables false
set_option linter.unusedSimpArgs false
namespace Go.Proofs.Ytdhfkcodacmbfaa
open Go.RowKit

theorem Like.num {e : EyeS} {r : RefS} (h : Like e r) (n : Int) (ok : e.ok) : r.num n = e.num n := by
  unfold RefS.num EyeS.num
  rw [h.text n ok]
theorem Like.smallT {e : EyeS} {r : RefS} (h : Like e r) (ok : e.ok) : r.smallText = e.smallText := by
  unfold RefS.smallText EyeS.smallText
  rw [h.num 1 ok, (h.next 1 ok).text _ (EyeS.next_ok ok 1)]
theorem Like.smallN {e : EyeS} {r : RefS} (h : Like e r) (ok : e.ok) : Like e.smallNext r.smallNext := by
  unfold RefS.smallNext EyeS.smallNext
  rw [h.num 1 ok]
  exact (h.next 1 ok).next _ (EyeS.next_ok ok 1)
theorem Like.left {e : EyeS} {r : RefS} (h : Like e r) (ok : e.ok) : e.left = if r.lost then 0 else (r.s.size : Int) := by
  unfold EyeS.left
  rw [h.bl]
  cases hb : e.bl with
  | true => rfl
  | false =>
    have := ok.pos_le
    rw [h.rest hb]
    simp
    omega
theorem like_new (s : ByteArray) (h : s.size ≤ 1000000) : Like ⟨s, 0, false⟩ ⟨s, false⟩ := ⟨rfl, fun _ => by simp, h⟩
theorem ok_new (s : ByteArray) (h : s.size ≤ 1000000) : EyeS.ok ⟨s, 0, false⟩ := ⟨h, by simp⟩

theorem num_lt4 (e : EyeS) (ok : e.ok) : e.num 4 < 4294967296 := num_lt e 4 ok
set_option maxRecDepth 100000 in
set_option maxHeartbeats 4000000 in
theorem oreads_walk (s : ByteArray) (A : Option Addr) (len cap : Nat) (f : Nat → Item) (w : World) (hs : s.size ≤ maxLen) (hI : Items w A len f) (hl : len ≤ 9223372036854775807) :
    Calls Try.prog 6 #[.string s, .slice A len cap] w fun e w' => e = .returned (.bool true) ∧ Below w.heap.size w w' := by
  have HA := Lib.hid (fun W => oawake_any W)
  have hs' : s.size ≤ 9223372036854775807 := hs
  clear hs
  by_cases h600 : s.size ≤ 600
  · by_cases h60 : len ≤ 60
    · have HN := Lib.hid (fun W => newEye_any s W)
      have hL := like_new s (by omega)
      have ok := ok_new s (by omega)
      go_enter Try.func6, Try.ntmps6
      go_wp2_with fail
      refine (HA.out _).mono ?_
      rintro e w1 ⟨rfl, b⟩
      go_wp2_with fail
      refine (HN.out _).mono ?_
      rintro e w2 ⟨rfl, rfl⟩
      go_wp2_with fail
      obtain ⟨E, hEq⟩ : ∃ E, E = w1.heap.size := ⟨_, rfl⟩
      obtain ⟨R, hRq⟩ : ∃ R, R = E + 1 := ⟨_, rfl⟩
      have hSE : w.heap.size ≤ E := by have := b.size; omega
      have hSR : w.heap.size ≤ R := by have := b.size; omega
      have hER : R ≠ E := by omega
      have hER' : E ≠ R := by omega
      have hE := (Blk.new w1 (EyeS.cells ⟨s, 0, false⟩) 135)
      have hR := (Blk.new (w1.alloc (.cells (EyeS.cells ⟨s, 0, false⟩) 135)) #[.string s, .bool false] 37)
      have hE' := hE.keep ((Below.refl _ _).alloc (Nat.le_refl _) (.cells #[.string s, .bool false] 37))
      have hb := (b.alloc b.size (.cells (EyeS.cells ⟨s, 0, false⟩) 135)).alloc (b.alloc b.size (.cells (EyeS.cells ⟨s, 0, false⟩) 135)).size (.cells #[.string s, .bool false] 37)
      clear hE
      rw [World.size_alloc] at hR
      rw [← hEq] at hE'
      rw [← hEq, ← hRq] at hR
      rw [← hEq, ← hRq]
      generalize (w1.alloc (.cells (EyeS.cells ⟨s, 0, false⟩) 135)).alloc (.cells #[.string s, .bool false] 37) = w2 at *
      clear b hEq hRq w1
      go_loopw [8, 9, 10, 11, 29] (fun _ _ _ _ v wr => ∃ (k : Nat) (e : EyeS) (r : RefS), k ≤ len ∧ v = .int .i64 k ∧ Like e r ∧ e.ok ∧ Blk wr E e.cells 135 ∧ Blk wr R r.cells 37 ∧ Below w.heap.size w wr) (fun _ _ _ _ v _ => len - (intOf v).toNat)
      case atStart => exact ⟨0, _, RefS.mk s false, by omega, rfl, hL, ok, hE', hR, hb⟩
      case round =>
        clear hL ok hE' hR hb
        obtain ⟨k, e, r, hk, rfl, hL, ok, hE, hR, hb⟩ := hrel
        by_cases hlt : k < len
        · obtain ⟨b, off, rfl, c0, c1, c2⟩ := (hI.below hb).has k hlt
          have hok := hI.ok k hlt
          have hw0 := hok.w0
          have hw1 := hok.w1
          have hn0 := hok.n0
          have hn1 := hok.n1
          have bel1 := ((Below.refl wr.heap.size wr).alloc (Nat.le_refl _) (.cells #[Value.int .u8 (f k).what, .int .u32 (f k).n, .string (f k).s] 40))
          have hX := Blk.new wr #[Value.int .u8 (f k).what, .int .u32 (f k).n, .string (f k).s] 40
          have hE1 := hE.keep bel1
          have hR1 := hR.keep bel1
          have hb1 := hb.alloc hb.size (.cells #[Value.int .u8 (f k).what, .int .u32 (f k).n, .string (f k).s] 40)
          have HSkip := Lib.hid hI
          clear hok hI bel1 hE hR hb
          have hc5 : (f k).what % 5 = 0 ∨ (f k).what % 5 = 1 ∨ (f k).what % 5 = 2 ∨ (f k).what % 5 = 3 ∨ (f k).what % 5 = 4 := by omega
          generalize f k = x at *
          rcases hc5 with hc | hc | hc | hc | hc
          · clear HSkip
            have HE := Lib.hid (fun W (h : Blk W E e.cells 135) => byte_any e E W ok h)
            have HR := Lib.hid (fun W (h : Blk W R r.cells 37) => rnumber_any r 1 (by decide) (by decide) R W hL.small h)
            rw [hL.num 1 ok] at HR
            have hlt1 := num_lt1 e ok
            have hL' := hL.next 1 ok
            have ok' := EyeS.next_ok ok 1
            generalize e.next 1 = e' at *
            generalize r.next 1 = r' at *
            generalize e.num 1 = N at *
            clear hL ok
            have HB1 := Lib.hid (fun W (h : Blk W E e'.cells 135) => (blind_any e' E W h).mono (fun _ w' q => (⟨q.1, q.2.symm⟩ : _ ∧ w' = W)))
            have HB2 := Lib.hid (fun W (h : Blk W E e'.cells 135) => left_any e' E W ok' h)
            have HB3 := Lib.hid (fun W (h : Blk W E e'.cells 135) => done_any e' E W ok' h)
            rw [← hL'.bl] at HB1
            unfold EyeS.done at HB3
            rw [← hL'.bl] at HB3
            rw [hL'.left ok'] at HB2 HB3
            have hRl := hL'.small
            go_wp2_with fail
            refine (HE.out _ hE1).mono ?_
            rintro g w2 ⟨rfl, ch⟩
            have hE2 := ch.blk
            have hR2 := ch.other hR1 hER
            have hb2 := ch.below hb1 hb1.size hSE
            clear ch hE1 hR1 hb1
            go_wp2_with fail
            refine (HR.out _ hR2).mono ?_
            rintro g w3 ⟨rfl, ch⟩
            have hR3 := ch.blk
            have hE3 := ch.other hE2 hER'
            have hb3 := ch.below hb2 hb2.size hSR
            clear ch hE2 hR2 hb2
            have d0 := hR3.cell (j := 0) (v := .string r'.s) rfl
            have d1 := hR3.cell (j := 1) (v := .bool r'.lost) rfl
            cases hlo : r'.lost with
            | true =>
              rw [hlo] at d1 HB1 HB2 HB3
              simp only [if_true, ite_true, Bool.not_true, Bool.false_and] at HB2 HB3
              go_wp2_with fail
              go_quiet (first | (go_at_call 44; exact Calls.quiet_of_same (HB1.out _ (hE3.drewN _))) | (go_at_call 45; exact Calls.quiet_of (HB2.out _ (hE3.drewN _))) | (go_at_call 46; exact Calls.quiet_of (HB3.out _ (hE3.drewN _))))
              go_wp2_with fail
              go_roundw
              case rel => exact ⟨k + 1, e', r', by omega, by go_num, hL', ok', hE3.drewN _, hR3.drewN _, below_drewN hb3 _⟩
              case measure => simp [intOf]; omega
            | false =>
              rw [hlo] at d1 HB1 HB2 HB3
              simp only [if_false, ite_false, Bool.not_false, Bool.true_and, Bool.false_eq_true] at HB2 HB3
              by_cases hz : (r'.s.size : Int) = 0
              · have hzb : ((r'.s.size : Int) == 0) = true := by rw [hz]; rfl
                rw [hzb] at HB3
                go_wp2_with fail
                go_quiet (first | (go_at_call 44; exact Calls.quiet_of_same (HB1.out _ (hE3.drewN _))) | (go_at_call 45; exact Calls.quiet_of (HB2.out _ (hE3.drewN _))) | (go_at_call 46; exact Calls.quiet_of (HB3.out _ (hE3.drewN _))))
                go_wp2_with fail
                go_roundw
                case rel => exact ⟨k + 1, e', r', by omega, by go_num, hL', ok', hE3.drewN _, hR3.drewN _, below_drewN hb3 _⟩
                case measure => simp [intOf]; omega
              · have hzb : ((r'.s.size : Int) == 0) = false := by simpa using hz
                rw [hzb] at HB3
                go_wp2_with fail
                go_quiet (first | (go_at_call 44; exact Calls.quiet_of_same (HB1.out _ (hE3.drewN _))) | (go_at_call 45; exact Calls.quiet_of (HB2.out _ (hE3.drewN _))) | (go_at_call 46; exact Calls.quiet_of (HB3.out _ (hE3.drewN _))))
                go_wp2_with fail
                go_roundw
                case rel => exact ⟨k + 1, e', r', by omega, by go_num, hL', ok', hE3.drewN _, hR3.drewN _, below_drewN hb3 _⟩
                case measure => simp [intOf]; omega
          · clear HSkip
            have HE := Lib.hid (fun W (h : Blk W E e.cells 135) => two_any e E W ok h)
            have HR := Lib.hid (fun W (h : Blk W R r.cells 37) => rnumber_any r 2 (by decide) (by decide) R W hL.small h)
            rw [hL.num 2 ok] at HR
            have hlt1 := num_lt2 e ok
            have hL' := hL.next 2 ok
            have ok' := EyeS.next_ok ok 2
            generalize e.next 2 = e' at *
            generalize r.next 2 = r' at *
            generalize e.num 2 = N at *
            clear hL ok
            have HB1 := Lib.hid (fun W (h : Blk W E e'.cells 135) => (blind_any e' E W h).mono (fun _ w' q => (⟨q.1, q.2.symm⟩ : _ ∧ w' = W)))
            have HB2 := Lib.hid (fun W (h : Blk W E e'.cells 135) => left_any e' E W ok' h)
            have HB3 := Lib.hid (fun W (h : Blk W E e'.cells 135) => done_any e' E W ok' h)
            rw [← hL'.bl] at HB1
            unfold EyeS.done at HB3
            rw [← hL'.bl] at HB3
            rw [hL'.left ok'] at HB2 HB3
            have hRl := hL'.small
            go_wp2_with fail
            refine (HE.out _ hE1).mono ?_
            rintro g w2 ⟨rfl, ch⟩
            have hE2 := ch.blk
            have hR2 := ch.other hR1 hER
            have hb2 := ch.below hb1 hb1.size hSE
            clear ch hE1 hR1 hb1
            go_wp2_with fail
            refine (HR.out _ hR2).mono ?_
            rintro g w3 ⟨rfl, ch⟩
            have hR3 := ch.blk
            have hE3 := ch.other hE2 hER'
            have hb3 := ch.below hb2 hb2.size hSR
            clear ch hE2 hR2 hb2
            have d0 := hR3.cell (j := 0) (v := .string r'.s) rfl
            have d1 := hR3.cell (j := 1) (v := .bool r'.lost) rfl
            cases hlo : r'.lost with
            | true =>
              rw [hlo] at d1 HB1 HB2 HB3
              simp only [if_true, ite_true, Bool.not_true, Bool.false_and] at HB2 HB3
              go_wp2_with fail
              go_quiet (first | (go_at_call 44; exact Calls.quiet_of_same (HB1.out _ (hE3.drewN _))) | (go_at_call 45; exact Calls.quiet_of (HB2.out _ (hE3.drewN _))) | (go_at_call 46; exact Calls.quiet_of (HB3.out _ (hE3.drewN _))))
              go_wp2_with fail
              go_roundw
              case rel => exact ⟨k + 1, e', r', by omega, by go_num, hL', ok', hE3.drewN _, hR3.drewN _, below_drewN hb3 _⟩
              case measure => simp [intOf]; omega
            | false =>
              rw [hlo] at d1 HB1 HB2 HB3
              simp only [if_false, ite_false, Bool.not_false, Bool.true_and, Bool.false_eq_true] at HB2 HB3
              by_cases hz : (r'.s.size : Int) = 0
              · have hzb : ((r'.s.size : Int) == 0) = true := by rw [hz]; rfl
                rw [hzb] at HB3
                go_wp2_with fail
                go_quiet (first | (go_at_call 44; exact Calls.quiet_of_same (HB1.out _ (hE3.drewN _))) | (go_at_call 45; exact Calls.quiet_of (HB2.out _ (hE3.drewN _))) | (go_at_call 46; exact Calls.quiet_of (HB3.out _ (hE3.drewN _))))
                go_wp2_with fail
                go_roundw
                case rel => exact ⟨k + 1, e', r', by omega, by go_num, hL', ok', hE3.drewN _, hR3.drewN _, below_drewN hb3 _⟩
                case measure => simp [intOf]; omega
              · have hzb : ((r'.s.size : Int) == 0) = false := by simpa using hz
                rw [hzb] at HB3
                go_wp2_with fail
                go_quiet (first | (go_at_call 44; exact Calls.quiet_of_same (HB1.out _ (hE3.drewN _))) | (go_at_call 45; exact Calls.quiet_of (HB2.out _ (hE3.drewN _))) | (go_at_call 46; exact Calls.quiet_of (HB3.out _ (hE3.drewN _))))
                go_wp2_with fail
                go_roundw
                case rel => exact ⟨k + 1, e', r', by omega, by go_num, hL', ok', hE3.drewN _, hR3.drewN _, below_drewN hb3 _⟩
                case measure => simp [intOf]; omega
          · clear HSkip
            have HE := Lib.hid (fun W (h : Blk W E e.cells 135) => four_any e E W ok h)
            have HR := Lib.hid (fun W (h : Blk W R r.cells 37) => rnumber_any r 4 (by decide) (by decide) R W hL.small h)
            rw [hL.num 4 ok] at HR
            have hlt1 := num_lt4 e ok
            have hL' := hL.next 4 ok
            have ok' := EyeS.next_ok ok 4
            generalize e.next 4 = e' at *
            generalize r.next 4 = r' at *
            generalize e.num 4 = N at *
            clear hL ok
            have HB1 := Lib.hid (fun W (h : Blk W E e'.cells 135) => (blind_any e' E W h).mono (fun _ w' q => (⟨q.1, q.2.symm⟩ : _ ∧ w' = W)))
            have HB2 := Lib.hid (fun W (h : Blk W E e'.cells 135) => left_any e' E W ok' h)
            have HB3 := Lib.hid (fun W (h : Blk W E e'.cells 135) => done_any e' E W ok' h)
            rw [← hL'.bl] at HB1
            unfold EyeS.done at HB3
            rw [← hL'.bl] at HB3
            rw [hL'.left ok'] at HB2 HB3
            have hRl := hL'.small
            go_wp2_with fail
            refine (HE.out _ hE1).mono ?_
            rintro g w2 ⟨rfl, ch⟩
            have hE2 := ch.blk
            have hR2 := ch.other hR1 hER
            have hb2 := ch.below hb1 hb1.size hSE
            clear ch hE1 hR1 hb1
            go_wp2_with fail
            refine (HR.out _ hR2).mono ?_
            rintro g w3 ⟨rfl, ch⟩
            have hR3 := ch.blk
            have hE3 := ch.other hE2 hER'
            have hb3 := ch.below hb2 hb2.size hSR
            clear ch hE2 hR2 hb2
            have d0 := hR3.cell (j := 0) (v := .string r'.s) rfl
            have d1 := hR3.cell (j := 1) (v := .bool r'.lost) rfl
            cases hlo : r'.lost with
            | true =>
              rw [hlo] at d1 HB1 HB2 HB3
              simp only [if_true, ite_true, Bool.not_true, Bool.false_and] at HB2 HB3
              go_wp2_with fail
              go_quiet (first | (go_at_call 44; exact Calls.quiet_of_same (HB1.out _ (hE3.drewN _))) | (go_at_call 45; exact Calls.quiet_of (HB2.out _ (hE3.drewN _))) | (go_at_call 46; exact Calls.quiet_of (HB3.out _ (hE3.drewN _))))
              go_wp2_with fail
              go_roundw
              case rel => exact ⟨k + 1, e', r', by omega, by go_num, hL', ok', hE3.drewN _, hR3.drewN _, below_drewN hb3 _⟩
              case measure => simp [intOf]; omega
            | false =>
              rw [hlo] at d1 HB1 HB2 HB3
              simp only [if_false, ite_false, Bool.not_false, Bool.true_and, Bool.false_eq_true] at HB2 HB3
              by_cases hz : (r'.s.size : Int) = 0
              · have hzb : ((r'.s.size : Int) == 0) = true := by rw [hz]; rfl
                rw [hzb] at HB3
                go_wp2_with fail
                go_quiet (first | (go_at_call 44; exact Calls.quiet_of_same (HB1.out _ (hE3.drewN _))) | (go_at_call 45; exact Calls.quiet_of (HB2.out _ (hE3.drewN _))) | (go_at_call 46; exact Calls.quiet_of (HB3.out _ (hE3.drewN _))))
                go_wp2_with fail
                go_roundw
                case rel => exact ⟨k + 1, e', r', by omega, by go_num, hL', ok', hE3.drewN _, hR3.drewN _, below_drewN hb3 _⟩
                case measure => simp [intOf]; omega
              · have hzb : ((r'.s.size : Int) == 0) = false := by simpa using hz
                rw [hzb] at HB3
                go_wp2_with fail
                go_quiet (first | (go_at_call 44; exact Calls.quiet_of_same (HB1.out _ (hE3.drewN _))) | (go_at_call 45; exact Calls.quiet_of (HB2.out _ (hE3.drewN _))) | (go_at_call 46; exact Calls.quiet_of (HB3.out _ (hE3.drewN _))))
                go_wp2_with fail
                go_roundw
                case rel => exact ⟨k + 1, e', r', by omega, by go_num, hL', ok', hE3.drewN _, hR3.drewN _, below_drewN hb3 _⟩
                case measure => simp [intOf]; omega
          · clear HSkip
            obtain ⟨n, hn⟩ : ∃ n : Int, n = x.n % 1048576 - 2 := ⟨_, rfl⟩
            have HE := Lib.hid (fun W (h : Blk W E e.cells 135) => take_any e n E W ok h (by omega) (by omega))
            have HR := Lib.hid (fun W (h : Blk W R r.cells 37) => rtake_any r n R W hL.small h (by omega) (by omega))
            rw [← hL.text n ok] at HR
            have hL' := hL.next n ok
            have ok' := EyeS.next_ok ok n
            generalize e.next n = e' at *
            generalize r.next n = r' at *
            generalize e.text n = T at *
            rw [hn] at HE HR
            clear hn n
            clear hL ok
            have HB1 := Lib.hid (fun W (h : Blk W E e'.cells 135) => (blind_any e' E W h).mono (fun _ w' q => (⟨q.1, q.2.symm⟩ : _ ∧ w' = W)))
            have HB2 := Lib.hid (fun W (h : Blk W E e'.cells 135) => left_any e' E W ok' h)
            have HB3 := Lib.hid (fun W (h : Blk W E e'.cells 135) => done_any e' E W ok' h)
            rw [← hL'.bl] at HB1
            unfold EyeS.done at HB3
            rw [← hL'.bl] at HB3
            rw [hL'.left ok'] at HB2 HB3
            have hRl := hL'.small
            go_wp2_with fail
            refine (HE.out _ hE1).mono ?_
            rintro g w2 ⟨rfl, ch⟩
            have hE2 := ch.blk
            have hR2 := ch.other hR1 hER
            have hb2 := ch.below hb1 hb1.size hSE
            clear ch hE1 hR1 hb1
            go_wp2_with fail
            refine (HR.out _ hR2).mono ?_
            rintro g w3 ⟨rfl, ch⟩
            have hR3 := ch.blk
            have hE3 := ch.other hE2 hER'
            have hb3 := ch.below hb2 hb2.size hSR
            clear ch hE2 hR2 hb2
            have d0 := hR3.cell (j := 0) (v := .string r'.s) rfl
            have d1 := hR3.cell (j := 1) (v := .bool r'.lost) rfl
            cases hlo : r'.lost with
            | true =>
              rw [hlo] at d1 HB1 HB2 HB3
              simp only [if_true, ite_true, Bool.not_true, Bool.false_and] at HB2 HB3
              go_wp2_with fail
              go_quiet (first | (go_at_call 44; exact Calls.quiet_of_same (HB1.out _ (hE3.drewN _))) | (go_at_call 45; exact Calls.quiet_of (HB2.out _ (hE3.drewN _))) | (go_at_call 46; exact Calls.quiet_of (HB3.out _ (hE3.drewN _))))
              go_wp2_with fail
              go_roundw
              case rel => exact ⟨k + 1, e', r', by omega, by go_num, hL', ok', hE3.drewN _, hR3.drewN _, below_drewN hb3 _⟩
              case measure => simp [intOf]; omega
            | false =>
              rw [hlo] at d1 HB1 HB2 HB3
              simp only [if_false, ite_false, Bool.not_false, Bool.true_and, Bool.false_eq_true] at HB2 HB3
              by_cases hz : (r'.s.size : Int) = 0
              · have hzb : ((r'.s.size : Int) == 0) = true := by rw [hz]; rfl
                rw [hzb] at HB3
                go_wp2_with fail
                go_quiet (first | (go_at_call 44; exact Calls.quiet_of_same (HB1.out _ (hE3.drewN _))) | (go_at_call 45; exact Calls.quiet_of (HB2.out _ (hE3.drewN _))) | (go_at_call 46; exact Calls.quiet_of (HB3.out _ (hE3.drewN _))))
                go_wp2_with fail
                go_roundw
                case rel => exact ⟨k + 1, e', r', by omega, by go_num, hL', ok', hE3.drewN _, hR3.drewN _, below_drewN hb3 _⟩
                case measure => simp [intOf]; omega
              · have hzb : ((r'.s.size : Int) == 0) = false := by simpa using hz
                rw [hzb] at HB3
                go_wp2_with fail
                go_quiet (first | (go_at_call 44; exact Calls.quiet_of_same (HB1.out _ (hE3.drewN _))) | (go_at_call 45; exact Calls.quiet_of (HB2.out _ (hE3.drewN _))) | (go_at_call 46; exact Calls.quiet_of (HB3.out _ (hE3.drewN _))))
                go_wp2_with fail
                go_roundw
                case rel => exact ⟨k + 1, e', r', by omega, by go_num, hL', ok', hE3.drewN _, hR3.drewN _, below_drewN hb3 _⟩
                case measure => simp [intOf]; omega
          · clear HSkip
            have HE := Lib.hid (fun W (h : Blk W E e.cells 135) => small_any e E W ok h)
            have HR := Lib.hid (fun W (h : Blk W R r.cells 37) => rsmall_any r R W hL.small h)
            rw [hL.smallT ok] at HR
            have hL' := hL.smallN ok
            have ok' : EyeS.ok e.smallNext := EyeS.next_ok (EyeS.next_ok ok 1) _
            generalize e.smallNext = e' at *
            generalize r.smallNext = r' at *
            generalize e.smallText = T at *
            clear hL ok
            have HB1 := Lib.hid (fun W (h : Blk W E e'.cells 135) => (blind_any e' E W h).mono (fun _ w' q => (⟨q.1, q.2.symm⟩ : _ ∧ w' = W)))
            have HB2 := Lib.hid (fun W (h : Blk W E e'.cells 135) => left_any e' E W ok' h)
            have HB3 := Lib.hid (fun W (h : Blk W E e'.cells 135) => done_any e' E W ok' h)
            rw [← hL'.bl] at HB1
            unfold EyeS.done at HB3
            rw [← hL'.bl] at HB3
            rw [hL'.left ok'] at HB2 HB3
            have hRl := hL'.small
            go_wp2_with fail
            refine (HE.out _ hE1).mono ?_
            rintro g w2 ⟨rfl, ch⟩
            have hE2 := ch.blk
            have hR2 := ch.other hR1 hER
            have hb2 := ch.below hb1 hb1.size hSE
            clear ch hE1 hR1 hb1
            go_wp2_with fail
            refine (HR.out _ hR2).mono ?_
            rintro g w3 ⟨rfl, ch⟩
            have hR3 := ch.blk
            have hE3 := ch.other hE2 hER'
            have hb3 := ch.below hb2 hb2.size hSR
            clear ch hE2 hR2 hb2
            have d0 := hR3.cell (j := 0) (v := .string r'.s) rfl
            have d1 := hR3.cell (j := 1) (v := .bool r'.lost) rfl
            cases hlo : r'.lost with
            | true =>
              rw [hlo] at d1 HB1 HB2 HB3
              simp only [if_true, ite_true, Bool.not_true, Bool.false_and] at HB2 HB3
              go_wp2_with fail
              go_quiet (first | (go_at_call 44; exact Calls.quiet_of_same (HB1.out _ (hE3.drewN _))) | (go_at_call 45; exact Calls.quiet_of (HB2.out _ (hE3.drewN _))) | (go_at_call 46; exact Calls.quiet_of (HB3.out _ (hE3.drewN _))))
              go_wp2_with fail
              go_roundw
              case rel => exact ⟨k + 1, e', r', by omega, by go_num, hL', ok', hE3.drewN _, hR3.drewN _, below_drewN hb3 _⟩
              case measure => simp [intOf]; omega
            | false =>
              rw [hlo] at d1 HB1 HB2 HB3
              simp only [if_false, ite_false, Bool.not_false, Bool.true_and, Bool.false_eq_true] at HB2 HB3
              by_cases hz : (r'.s.size : Int) = 0
              · have hzb : ((r'.s.size : Int) == 0) = true := by rw [hz]; rfl
                rw [hzb] at HB3
                go_wp2_with fail
                go_quiet (first | (go_at_call 44; exact Calls.quiet_of_same (HB1.out _ (hE3.drewN _))) | (go_at_call 45; exact Calls.quiet_of (HB2.out _ (hE3.drewN _))) | (go_at_call 46; exact Calls.quiet_of (HB3.out _ (hE3.drewN _))))
                go_wp2_with fail
                go_roundw
                case rel => exact ⟨k + 1, e', r', by omega, by go_num, hL', ok', hE3.drewN _, hR3.drewN _, below_drewN hb3 _⟩
                case measure => simp [intOf]; omega
              · have hzb : ((r'.s.size : Int) == 0) = false := by simpa using hz
                rw [hzb] at HB3
                go_wp2_with fail
                go_quiet (first | (go_at_call 44; exact Calls.quiet_of_same (HB1.out _ (hE3.drewN _))) | (go_at_call 45; exact Calls.quiet_of (HB2.out _ (hE3.drewN _))) | (go_at_call 46; exact Calls.quiet_of (HB3.out _ (hE3.drewN _))))
                go_wp2_with fail
                go_roundw
                case rel => exact ⟨k + 1, e', r', by omega, by go_num, hL', ok', hE3.drewN _, hR3.drewN _, below_drewN hb3 _⟩
                case measure => simp [intOf]; omega
        · go_wp2_with fail
          go_ret
          exact ⟨rfl, hb⟩
    · go_enter Try.func6, Try.ntmps6
      go_wp2_with fail
      refine (HA.out _).mono ?_
      rintro e w1 ⟨rfl, b⟩
      go_wp2_with fail
      go_ret
      exact ⟨rfl, b⟩
  · go_enter Try.func6, Try.ntmps6
    go_wp2_with fail
    refine (HA.out _).mono ?_
    rintro e w1 ⟨rfl, b⟩
    go_wp2_with fail
    go_ret
    exact ⟨rfl, b⟩
end Go.Proofs.Ytdhfkcodacmbfaa
