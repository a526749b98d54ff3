/- The walk of the law OctetsBack. -/
import Derived.Test.YtdhfkcodacmbfaaOctB
set_option linter.unusedVariables false
set_option linter.unusedSimpArgs false
namespace Go.Proofs.Ytdhfkcodacmbfaa
open Go.RowKit

theorem mid_bad (a b c : List Int) : ¬ EyeS.bad ⟨strOfNums (a ++ (b ++ c)), a.length, false⟩ b.length := by
  unfold EyeS.bad
  simp only [strOfNums_size, List.length_append]
  simp
  omega
theorem mid_text (a b c : List Int) : EyeS.text ⟨strOfNums (a ++ (b ++ c)), a.length, false⟩ b.length = strOfNums b := by
  unfold EyeS.text
  rw [if_neg (mid_bad a b c)]
  apply ByteArray.ext
  apply Array.ext'
  simp only [ByteArray.data_extract, Array.toList_extract, strOfNums_data]
  simp [List.extract_eq_take_drop, List.map_append]
theorem mid_next (a b c : List Int) : EyeS.next ⟨strOfNums (a ++ (b ++ c)), a.length, false⟩ b.length = ⟨strOfNums (a ++ (b ++ c)), (a ++ b).length, false⟩ := by
  unfold EyeS.next
  rw [if_neg (mid_bad a b c)]
  simp
theorem numN1 (x : Int) (h0 : 0 ≤ x) (h1 : x < 256) : (numN (strOfNums [x]).data.toList : Int) = x := by
  rw [strOfNums_data]
  simp [numN]
  omega
theorem numN2 (x y : Int) (h0 : 0 ≤ x) (h1 : x < 256) (g0 : 0 ≤ y) (g1 : y < 256) : (numN (strOfNums [x, y]).data.toList : Int) = x * 256 + y := by
  rw [strOfNums_data]
  simp [numN]
  omega
theorem numN4 (x y z t : Int) (h0 : 0 ≤ x) (h1 : x < 256) (g0 : 0 ≤ y) (g1 : y < 256) (i0 : 0 ≤ z) (i1 : z < 256) (j0 : 0 ≤ t) (j1 : t < 256) : (numN (strOfNums [x, y, z, t]).data.toList : Int) = ((x * 256 + y) * 256 + z) * 256 + t := by
  rw [strOfNums_data]
  simp [numN]
  omega
theorem enc_split (f : Nat → Item) (k m : Nat) : ∃ rest, encAll f (k + m) = encAll f k ++ rest := by
  induction m with
  | zero => exact ⟨[], by simp⟩
  | succ m ih =>
    obtain ⟨r, hr⟩ := ih
    exact ⟨r ++ (f (k + m)).enc, by rw [← Nat.add_assoc, encAll, hr, List.append_assoc]⟩
theorem enc_at (f : Nat → Item) (k len : Nat) (h : k < len) : ∃ rest, encAll f len = encAll f k ++ ((f k).enc ++ rest) := by
  obtain ⟨r, hr⟩ := enc_split f (k + 1) (len - (k + 1))
  rw [show k + 1 + (len - (k + 1)) = len by omega, encAll] at hr
  exact ⟨r, by rw [hr, List.append_assoc]⟩
/-- The eye on the text of the first k items. -/
def eyeAt (f : Nat → Item) (len k : Nat) : EyeS := ⟨strOfNums (encAll f len), (encAll f k).length, false⟩
theorem at_text (f : Nat → Item) (k len : Nat) (h : k < len) (n : Int) (hn : n = (f k).enc.length) : (eyeAt f len k).text n = strOfNums (f k).enc := by
  obtain ⟨r, hr⟩ := enc_at f k len h
  unfold eyeAt
  rw [hr, hn]
  exact mid_text _ _ _
theorem at_next (f : Nat → Item) (k len : Nat) (h : k < len) (n : Int) (hn : n = (f k).enc.length) : (eyeAt f len k).next n = eyeAt f len (k + 1) := by
  obtain ⟨r, hr⟩ := enc_at f k len h
  unfold eyeAt
  rw [hr, hn, encAll]
  exact mid_next _ _ _
theorem at_small (f : Nat → Item) (k len : Nat) (h : k < len) (s : ByteArray) (hs : s.size ≤ 255) (he : (f k).enc = (s.size : Int) :: bytesI s) : (eyeAt f len k).smallText = s ∧ (eyeAt f len k).smallNext = eyeAt f len (k + 1) := by
  obtain ⟨r, hr⟩ := enc_at f k len h
  rw [he] at hr
  have e1 : encAll f len = encAll f k ++ ([(s.size : Int)] ++ (bytesI s ++ r)) := by rw [hr]; simp
  have e2 : encAll f len = (encAll f k ++ [(s.size : Int)]) ++ (bytesI s ++ r) := by rw [hr]; simp
  have hN : (eyeAt f len k).num 1 = s.size := by
    unfold EyeS.num eyeAt
    rw [e1]
    have := mid_text (encAll f k) [(s.size : Int)] (bytesI s ++ r)
    rw [show (([(s.size : Int)] : List Int).length : Int) = 1 from rfl] at this
    rw [this]
    have := numN1 (s.size : Int) (by omega) (by omega)
    omega
  have hX : (eyeAt f len k).next 1 = ⟨strOfNums (encAll f len), (encAll f k ++ [(s.size : Int)]).length, false⟩ := by
    unfold eyeAt
    rw [e1]
    exact mid_next (encAll f k) [(s.size : Int)] (bytesI s ++ r)
  have hl : ((s.size : Nat) : Int) = ((bytesI s).length : Int) := by rw [bytesI_length]
  unfold EyeS.smallText EyeS.smallNext
  rw [hN, hX]
  constructor
  · rw [e2, hl, mid_text, text_bytesI]
  · have hm := mid_next (encAll f k ++ [(s.size : Int)]) (bytesI s) r
    rw [← e2, ← hl] at hm
    rw [hm]
    unfold eyeAt
    rw [encAll, he]
    congr 2
    simp
theorem eyeAt_ok (f : Nat → Item) (len k : Nat) (h : k ≤ len) (hs : (encAll f len).length ≤ 1000000) : (eyeAt f len k).ok := by
  obtain ⟨r, hr⟩ := enc_split f k (len - k)
  rw [show k + (len - k) = len by omega] at hr
  refine ⟨by unfold eyeAt; rw [strOfNums_size]; exact hs, ?_⟩
  unfold eyeAt
  simp only [strOfNums_size]
  rw [hr]
  simp
theorem at_end (f : Nat → Item) (len : Nat) : (eyeAt f len len).bl = false ∧ (eyeAt f len len).left = 0 ∧ (eyeAt f len len).bad 1 := by
  unfold eyeAt EyeS.left EyeS.bad
  simp [strOfNums_size]
set_option maxRecDepth 100000 in
set_option maxHeartbeats 4000000 in
theorem oback_walk (A : Option Addr) (len cap : Nat) (f : Nat → Item) (w : World) (hI : Items w A len f) (hl : len ≤ 9223372036854775807) :
    Calls Try.prog 7 #[.slice A len cap] w fun e w' => e = .returned (.bool true) ∧ Below w.heap.size w w' := by
  have HA := Lib.hid (fun W => oawake_any W)
  by_cases hs : smallI len f
  · have h60 := hs.1
    have HS := Lib.hid hs.2
    have hT : (encAll f len).length ≤ 1000000 := by have := encAll_length f len hs.2; omega
    have H1 := Lib.hid (fun W (h : Items W A len f) => small_yes A len cap f W h hs)
    have H2 := Lib.hid (fun W => newPen_any W)
    have H3 := Lib.hid (fun B W (hb : Below w.heap.size w W) (hP : Pen W w.heap.size B none []) => write_any w A len cap f B W hI hs hb none hP)
    have H4 := Lib.hid (fun W B ob (h : Pen W w.heap.size B ob (encAll f len)) => pstring_any w.heap.size B ob (encAll f len) W h)
    have H5 := Lib.hid (fun W => newEye_any (strOfNums (encAll f len)) W)
    clear hs
    rw [show EyeS.cells ⟨strOfNums (encAll f len), 0, false⟩ = (eyeAt f len 0).cells from rfl] at H5
    go_enter Try.func7, Try.ntmps7
    go_wp2_with fail
    refine (HA.out _).mono ?_
    rintro e w1 ⟨rfl, b⟩
    go_wp2_with fail
    refine (H1.out _ (hI.below b)).mono ?_
    rintro e w2 ⟨rfl, b2⟩
    replace b := below_then b b2; clear b2
    go_wp2_with fail
    refine (H2.out _).mono ?_
    rintro e w3 ⟨rfl, rfl⟩
    have hP := newPen_pen w2 w.heap.size b.size
    have b3 := b.alloc b.size (.cells #[.slice none 0 0] 137)
    generalize w2.alloc (.cells #[.slice none 0 0] 137) = w3 at *
    generalize w2.heap.size = B at *
    clear b
    go_wp2_with fail
    refine (H3.out _ _ b3 hP).mono ?_
    rintro e w4 ⟨rfl, ⟨ob, hP4⟩, b4⟩
    go_wp2_with fail
    refine (H4.out _ _ _ hP4).mono ?_
    rintro e w4' ⟨rfl, rfl⟩
    clear hP b3 hP4
    go_wp2_with fail
    refine (H5.out _).mono ?_
    rintro e w5 ⟨rfl, rfl⟩
    have hE := Blk.new w4 (eyeAt f len 0).cells 135
    have hb := b4.alloc b4.size (.cells (eyeAt f len 0).cells 135)
    have hSE := b4.size
    generalize w4.alloc (.cells (eyeAt f len 0).cells 135) = w5 at *
    generalize w4.heap.size = E at *
    clear b4 H1 H2 H3 H4 H5
    generalize strOfNums (encAll f len) = T at *
    go_wp2_with fail
    go_loopw [8, 9, 29] (fun _ _ v wr => ∃ k : Nat, k ≤ len ∧ v = .int .i64 k ∧ Blk wr E (eyeAt f len k).cells 135 ∧ Below w.heap.size w wr) (fun _ _ v _ => len - (intOf v).toNat)
    case atStart => exact ⟨0, by omega, rfl, hE, hb⟩
    case round =>
      clear hE hb
      obtain ⟨k, hk, rfl, hE, hb⟩ := hrel
      by_cases hlt : k < len
      · obtain ⟨b, off, rfl, c0, c1, c2⟩ := (hI.below hb).has k hlt
        have hok := hI.ok k hlt
        have hw0 := hok.w0
        have hw1 := hok.w1
        have hn0 := hok.n0
        have hn1 := hok.n1
        have hs3 := HS.out k hlt
        have ok := eyeAt_ok f len k hk hT
        have bel1 := ((Below.refl wr.heap.size wr).alloc (Nat.le_refl _) (.cells #[Value.int .u8 (f k).what, .int .u32 (f k).n, .string (f k).s] 40))
        have hX := Blk.new wr #[Value.int .u8 (f k).what, .int .u32 (f k).n, .string (f k).s] 40
        have hE1 := hE.keep bel1
        have hb1 := hb.alloc hb.size (.cells #[Value.int .u8 (f k).what, .int .u32 (f k).n, .string (f k).s] 40)
        have hXE : wr.heap.size ≠ E := by have := hE.lt; omega
        clear hok hI bel1 hE hb HS HA
        have hc5 : (f k).what % 5 = 0 ∨ (f k).what % 5 = 1 ∨ (f k).what % 5 = 2 ∨ (f k).what % 5 = 3 ∨ (f k).what % 5 = 4 := by omega
        rcases hc5 with hc | hc | hc | hc | hc
        · have HE := Lib.hid (fun W (h : Blk W E (eyeAt f len k).cells 135) => byte_any (eyeAt f len k) E W ok h)
          have hN : ((eyeAt f len k).num 1 : Int) = (f k).n % 256 := by
            unfold EyeS.num
            rw [at_text f k len hlt 1 (by rw [enc0 hc]; rfl), enc0 hc]
            exact numN1 _ (by omega) (by omega)
          rw [hN, at_next f k len hlt 1 (by rw [enc0 hc]; rfl)] at HE
          have hwr : IntKind.u8.wrap (f k).n = (f k).n % 256 := by rw [IntKind.wrap_u8]
          clear ok
          generalize f k = x at *
          obtain ⟨e', he'⟩ : ∃ e', e' = eyeAt f len (k + 1) := ⟨_, rfl⟩
          rw [← he'] at HE
          generalize eyeAt f len k = e at *
          have d0 := hX.cell (j := 1) (v := .int .u32 x.n) rfl
          go_wp2_with fail
          go_region_with (first | (go_at_call 36; refine (HE.out _ hE1.drew).mono ?_; rintro g w3 ⟨rfl, ch⟩; have d2 := (ch.other hX.drew hXE).cell (j := 1) (v := .int .u32 x.n) rfl))
          all_goals
            have hE3 := ch.blk
            have hb3 := ch.below hb1.drew hb1.size hSE
            clear ch hE1 hb1
            go_wp2_with fail
            go_roundw
            case rel => exact ⟨k + 1, by omega, by go_num, by rw [← he']; exact hE3, hb3⟩
            case measure => simp [intOf]; omega
        · have HE := Lib.hid (fun W (h : Blk W E (eyeAt f len k).cells 135) => two_any (eyeAt f len k) E W ok h)
          have hN : ((eyeAt f len k).num 2 : Int) = (f k).n % 65536 := by
            unfold EyeS.num
            rw [at_text f k len hlt 2 (by rw [enc1 hc]; rfl), enc1 hc, numN2 _ _ (by omega) (by omega) (by omega) (by omega)]
            omega
          rw [hN, at_next f k len hlt 2 (by rw [enc1 hc]; rfl)] at HE
          have hwr : IntKind.u16.wrap (f k).n = (f k).n % 65536 := by rw [IntKind.wrap_u16]
          clear ok
          generalize f k = x at *
          obtain ⟨e', he'⟩ : ∃ e', e' = eyeAt f len (k + 1) := ⟨_, rfl⟩
          rw [← he'] at HE
          generalize eyeAt f len k = e at *
          have d0 := hX.cell (j := 1) (v := .int .u32 x.n) rfl
          go_wp2_with fail
          go_region_with (first | (go_at_call 38; refine (HE.out _ hE1.drew).mono ?_; rintro g w3 ⟨rfl, ch⟩; have d2 := (ch.other hX.drew hXE).cell (j := 1) (v := .int .u32 x.n) rfl))
          all_goals
            have hE3 := ch.blk
            have hb3 := ch.below hb1.drew hb1.size hSE
            clear ch hE1 hb1
            go_wp2_with fail
            go_roundw
            case rel => exact ⟨k + 1, by omega, by go_num, by rw [← he']; exact hE3, hb3⟩
            case measure => simp [intOf]; omega
        · have HE := Lib.hid (fun W (h : Blk W E (eyeAt f len k).cells 135) => four_any (eyeAt f len k) E W ok h)
          have hN : ((eyeAt f len k).num 4 : Int) = (f k).n := by
            unfold EyeS.num
            rw [at_text f k len hlt 4 (by rw [enc2 hc]; rfl), enc2 hc, numN4 _ _ _ _ (by omega) (by omega) (by omega) (by omega) (by omega) (by omega) (by omega) (by omega)]
            omega
          rw [hN, at_next f k len hlt 4 (by rw [enc2 hc]; rfl)] at HE
          clear ok
          generalize f k = x at *
          obtain ⟨e', he'⟩ : ∃ e', e' = eyeAt f len (k + 1) := ⟨_, rfl⟩
          rw [← he'] at HE
          generalize eyeAt f len k = e at *
          have d0 := hX.cell (j := 1) (v := .int .u32 x.n) rfl
          go_wp2_with fail
          go_region_with (first | (go_at_call 39; refine (HE.out _ hE1.drew).mono ?_; rintro g w3 ⟨rfl, ch⟩; have d2 := (ch.other hX.drew hXE).cell (j := 1) (v := .int .u32 x.n) rfl))
          all_goals
            have hE3 := ch.blk
            have hb3 := ch.below hb1.drew hb1.size hSE
            clear ch hE1 hb1
            go_wp2_with fail
            go_roundw
            case rel => exact ⟨k + 1, by omega, by go_num, by rw [← he']; exact hE3, hb3⟩
            case measure => simp [intOf]; omega
        · have HE := Lib.hid (fun W (h : Blk W E (eyeAt f len k).cells 135) => take_any (eyeAt f len k) ((f k).s.size : Int) E W ok h (by omega) (by omega))
          have hL : (((f k).s.size : Nat) : Int) = ((f k).enc.length : Int) := by rw [enc3 hc, bytesI_length]
          rw [at_text f k len hlt _ hL, at_next f k len hlt _ hL, enc3 hc, text_bytesI] at HE
          clear hL
          clear ok
          generalize f k = x at *
          obtain ⟨e', he'⟩ : ∃ e', e' = eyeAt f len (k + 1) := ⟨_, rfl⟩
          rw [← he'] at HE
          generalize eyeAt f len k = e at *
          have d0 := hX.cell (j := 2) (v := .string x.s) rfl
          go_wp2_with fail
          go_region_with (first | (go_at_call 40; refine (HE.out _ hE1.drew).mono ?_; rintro g w3 ⟨rfl, ch⟩; have d2 := (ch.other hX.drew hXE).cell (j := 2) (v := .string x.s) rfl))
          all_goals
            have hE3 := ch.blk
            have hb3 := ch.below hb1.drew hb1.size hSE
            clear ch hE1 hb1
            go_wp2_with fail
            go_roundw
            case rel => exact ⟨k + 1, by omega, by go_num, by rw [← he']; exact hE3, hb3⟩
            case measure => simp [intOf]; omega
        · by_cases h255 : (f k).s.size ≤ 255
          · have HE := Lib.hid (fun W (h : Blk W E (eyeAt f len k).cells 135) => small_any (eyeAt f len k) E W ok h)
            obtain ⟨q1, q2⟩ := at_small f k len hlt (f k).s h255 (enc4 hc h255)
            rw [q1, q2] at HE
            clear q1 q2
            have hd : decide ((255 : Int) < ((f k).s.size : Int)) = false := decide_eq_false (by omega)
            clear ok
            generalize f k = x at *
            obtain ⟨e', he'⟩ : ∃ e', e' = eyeAt f len (k + 1) := ⟨_, rfl⟩
            rw [← he'] at HE
            generalize eyeAt f len k = e at *
            have d0 := hX.cell (j := 2) (v := .string x.s) rfl
            go_wp2_with fail
            go_region_with (first | (go_at_call 42; refine (HE.out _ hE1.drew).mono ?_; rintro g w3 ⟨rfl, ch⟩; have d2 := (ch.other hX.drew hXE).cell (j := 2) (v := .string x.s) rfl))
            all_goals
              have hE3 := ch.blk
              have hb3 := ch.below hb1.drew hb1.size hSE
              clear ch hE1 hb1
              go_wp2_with fail
              go_roundw
              case rel => exact ⟨k + 1, by omega, by go_num, by rw [← he']; exact hE3, hb3⟩
              case measure => simp [intOf]; omega
          · have hd : decide ((255 : Int) < ((f k).s.size : Int)) = true := decide_eq_true (by omega)
            have hq : eyeAt f len (k + 1) = eyeAt f len k := by unfold eyeAt; rw [encAll, enc4' hc h255, List.append_nil]
            clear ok
            generalize f k = x at *
            generalize eyeAt f len k = e at *
            go_wp2_with fail
            have d2 := hX.cell (j := 2) (v := .string x.s) rfl
            go_quiet (fail)
            go_wp2_with fail
            go_roundw
            case rel => exact ⟨k + 1, by omega, by go_num, by rw [hq]; exact hE1.drewN _, below_drewN hb1 _⟩
            case measure => simp [intOf]; omega
      · obtain rfl : k = len := by omega
        have ok := eyeAt_ok f k k (Nat.le_refl _) hT
        obtain ⟨hbl, hleft, hbad⟩ := at_end f k
        have HE := Lib.hid (fun W (h : Blk W E (eyeAt f k k).cells 135) => byte_any (eyeAt f k k) E W ok h)
        have e1 : (eyeAt f k k).next 1 = ⟨(eyeAt f k k).s, (eyeAt f k k).pos, true⟩ := by unfold EyeS.next; rw [if_pos hbad]
        have e2 : (eyeAt f k k).num 1 = 0 := by unfold EyeS.num EyeS.text; rw [if_pos hbad]; rfl
        have ok2 := EyeS.next_ok ok 1
        rw [e1, e2] at HE
        rw [e1] at ok2
        have HD1 := Lib.hid (fun W (h : Blk W E (eyeAt f k k).cells 135) => done_any (eyeAt f k k) E W ok h)
        have HB1 := Lib.hid (fun W (h : Blk W E (eyeAt f k k).cells 135) => blind_any (eyeAt f k k) E W h)
        have HD2 := Lib.hid (fun W (h : Blk W E (EyeS.cells ⟨(eyeAt f k k).s, (eyeAt f k k).pos, true⟩) 135) => done_any ⟨(eyeAt f k k).s, (eyeAt f k k).pos, true⟩ E W ok2 h)
        have HB2 := Lib.hid (fun W (h : Blk W E (EyeS.cells ⟨(eyeAt f k k).s, (eyeAt f k k).pos, true⟩) 135) => blind_any ⟨(eyeAt f k k).s, (eyeAt f k k).pos, true⟩ E W h)
        unfold EyeS.done at HD1 HD2
        rw [hbl, hleft] at HD1
        rw [hbl] at HB1
        clear e1 e2
        rw [show (!false && (0 : Int) == 0) = true from rfl] at HD1
        rw [show (!(EyeS.mk (eyeAt f k k).s (eyeAt f k k).pos true).bl && (EyeS.mk (eyeAt f k k).s (eyeAt f k k).pos true).left == 0) = false from rfl] at HD2
        rw [show (EyeS.mk (eyeAt f k k).s (eyeAt f k k).pos true).bl = true from rfl] at HB2
        generalize EyeS.mk (eyeAt f k k).s (eyeAt f k k).pos true = eb at *
        generalize eyeAt f k k = ea at *
        go_wp2_with fail
        refine (HD1.out _ hE).mono ?_
        rintro g w6 ⟨rfl, m, rfl⟩
        have hE6 := hE.drewN m
        have hb6 := below_drewN hb m
        clear hE hb
        generalize wr.drewN m = w6 at *
        go_wp2_with fail
        refine (HB1.out _ hE6).mono ?_
        rintro g w7 ⟨rfl, rfl⟩
        go_wp2_with fail
        refine (HE.out _ hE6).mono ?_
        rintro g w8 ⟨rfl, ch⟩
        have hE8 := ch.blk
        have hb8 := ch.below hb6 hb6.size hSE
        clear ch hE6 hb6
        go_wp2_with fail
        refine (HB2.out _ hE8).mono ?_
        rintro g w9 ⟨rfl, rfl⟩
        go_wp2_with fail
        refine (HD2.out _ hE8).mono ?_
        rintro g w10 ⟨rfl, n, rfl⟩
        go_wp2_with fail
        go_ret
        exact ⟨rfl, below_drewN hb8 n⟩
  · have H1 := Lib.hid (fun W (h : Items W A len f) => small_no A len cap f W h hl hs)
    go_enter Try.func7, Try.ntmps7
    go_wp2_with fail
    refine (HA.out _).mono ?_
    rintro e w1 ⟨rfl, b⟩
    go_wp2_with fail
    refine (H1.out _ (hI.below b)).mono ?_
    rintro e w2 ⟨rfl, b2⟩
    replace b := below_then b b2; clear b2
    go_wp2_with fail
    go_ret
    exact ⟨rfl, b⟩
end Go.Proofs.Ytdhfkcodacmbfaa
