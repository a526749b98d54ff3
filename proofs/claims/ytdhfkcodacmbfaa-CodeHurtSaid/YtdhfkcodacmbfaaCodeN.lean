/- Programs (code): what a program read back is. Plain laws, without a walk. -/
import Derived.Test.YtdhfkcodacmbfaaCodeK
import Derived.Test.YtdhfkcodacmbfaaCodeI
import Derived.Test.YtdhfkcodacmbfaaOctD
set_option linter.unusedVariables false
set_option linter.unusedSimpArgs false
namespace Go.Proofs.Ytdhfkcodacmbfaa
open Go.RowKit

/-- An instruction as its eight bytes hold it. -/
def normI (i : InstrS) : InstrS := ⟨i.op % 256, i.kind % 256, i.area % 256, i.at_ % 256, numI (i.kind % 256) (i.n % 4294967296)⟩
theorem mid1 (a c : List Int) (x : Int) (h0 : 0 ≤ x) (h1 : x < 256) (s : ByteArray) (hs : s = strOfNums (a ++ ([x] ++ c))) :
    ((EyeS.num ⟨s, a.length, false⟩ 1 : Nat) : Int) = x ∧ EyeS.next ⟨s, a.length, false⟩ 1 = ⟨s, (a ++ [x]).length, false⟩ := by
  subst hs
  have ht := mid_text a [x] c
  have hn := mid_next a [x] c
  rw [show (([x] : List Int).length : Int) = 1 from rfl] at ht hn
  exact ⟨by unfold EyeS.num; rw [ht]; exact numN1 x h0 h1, hn⟩
theorem mid4 (a c : List Int) (x y z t : Int) (h0 : 0 ≤ x) (h1 : x < 256) (g0 : 0 ≤ y) (g1 : y < 256) (i0 : 0 ≤ z) (i1 : z < 256) (j0 : 0 ≤ t) (j1 : t < 256) (s : ByteArray) (hs : s = strOfNums (a ++ ([x, y, z, t] ++ c))) :
    ((EyeS.num ⟨s, a.length, false⟩ 4 : Nat) : Int) = ((x * 256 + y) * 256 + z) * 256 + t ∧ EyeS.next ⟨s, a.length, false⟩ 4 = ⟨s, (a ++ [x, y, z, t]).length, false⟩ := by
  subst hs
  have ht := mid_text a [x, y, z, t] c
  have hn := mid_next a [x, y, z, t] c
  rw [show (([x, y, z, t] : List Int).length : Int) = 4 from rfl] at ht hn
  exact ⟨by unfold EyeS.num; rw [ht]; exact numN4 x y z t h0 h1 g0 g1 i0 i1 j0 j1, hn⟩
theorem inst_mid (a c : List Int) (i : InstrS) (s : ByteArray) (hs : s = strOfNums (a ++ (encI i ++ c))) :
    instrE ⟨s, a.length, false⟩ = normI i ∧ nextE ⟨s, a.length, false⟩ = ⟨s, (a ++ encI i).length, false⟩ := by
  obtain ⟨op, kind, area, at_, n⟩ := i
  unfold encI at hs ⊢
  simp only at hs ⊢
  have hm : 0 ≤ n % 4294967296 ∧ n % 4294967296 < 4294967296 := by omega
  generalize hN : n % 4294967296 = N at *
  obtain ⟨a0, b0⟩ := mid1 a ([kind % 256, area % 256, at_ % 256, N / 16777216, N / 65536 % 256, N / 256 % 256, N % 256] ++ c) (op % 256) (by omega) (by omega) s (by rw [hs]; simp)
  obtain ⟨a1, b1⟩ := mid1 (a ++ [op % 256]) ([area % 256, at_ % 256, N / 16777216, N / 65536 % 256, N / 256 % 256, N % 256] ++ c) (kind % 256) (by omega) (by omega) s (by rw [hs]; simp)
  obtain ⟨a2, b2⟩ := mid1 (a ++ [op % 256] ++ [kind % 256]) ([at_ % 256, N / 16777216, N / 65536 % 256, N / 256 % 256, N % 256] ++ c) (area % 256) (by omega) (by omega) s (by rw [hs]; simp)
  obtain ⟨a3, b3⟩ := mid1 (a ++ [op % 256] ++ [kind % 256] ++ [area % 256]) ([N / 16777216, N / 65536 % 256, N / 256 % 256, N % 256] ++ c) (at_ % 256) (by omega) (by omega) s (by rw [hs]; simp)
  obtain ⟨a4, b4⟩ := mid4 (a ++ [op % 256] ++ [kind % 256] ++ [area % 256] ++ [at_ % 256]) c (N / 16777216) (N / 65536 % 256) (N / 256 % 256) (N % 256) (by omega) (by omega) (by omega) (by omega) (by omega) (by omega) (by omega) (by omega) s (by rw [hs]; simp)
  have h4 : (((N / 16777216) * 256 + N / 65536 % 256) * 256 + N / 256 % 256) * 256 + N % 256 = N := by omega
  rw [h4] at a4
  unfold instrE nextE EyeS.e4 normI
  rw [b0, b1, b2, b3, b4, a0, a1, a2, a3, a4]
  simp only [hN]
  refine ⟨trivial, ?_⟩
  congr 1
  simp
/-- The eye before the kth instruction of a program's bytes. -/
theorem eyeK_plain (l : List InstrS) (k : Nat) (hk : k ≤ l.length) (hl : l.length ≤ 255) :
    eyeK ⟨plainS l, 1, false⟩ k = ⟨plainS l, (((l.length : Int) % 256) :: (l.take k).flatMap encI).length, false⟩ := by
  induction k with
  | zero => simp [eyeK]
  | succ k ih =>
    have hlt : k < l.length := by omega
    have hd : l.drop k = l[k] :: l.drop (k + 1) := List.drop_eq_getElem_cons hlt
    have hsp : l.flatMap encI = (l.take k).flatMap encI ++ (encI l[k] ++ (l.drop (k + 1)).flatMap encI) := by
      rw [← List.flatMap_cons, ← hd, ← List.flatMap_append, List.take_append_drop]
    rw [eyeK, ih (by omega)]
    have h := (inst_mid (((l.length : Int) % 256) :: (l.take k).flatMap encI) ((l.drop (k + 1)).flatMap encI) l[k] (plainS l) (by rw [plainS, plainL, hsp]; simp)).2
    rw [h, List.take_succ_eq_append_getElem hlt]
    congr 1
    simp only [List.length_cons, List.length_append, List.flatMap_append, List.flatMap_cons, List.flatMap_nil, List.append_nil, List.length_nil]
    omega
theorem decL_plain (l : List InstrS) (hl : l.length ≤ 255) : decL ⟨plainS l, 1, false⟩ l.length = l.map normI := by
  apply List.ext_getElem
  · rw [decL_len, List.length_map]
  · intro k h1 h2
    have hlt : k < l.length := by rw [decL_len] at h1; exact h1
    have hg : (decL ⟨plainS l, 1, false⟩ l.length)[k] = instrE (eyeK ⟨plainS l, 1, false⟩ k) := by simp [decL]
    rw [hg, List.getElem_map, eyeK_plain l k (by omega) hl]
    have hd : l.drop k = l[k] :: l.drop (k + 1) := List.drop_eq_getElem_cons hlt
    have hsp : l.flatMap encI = (l.take k).flatMap encI ++ (encI l[k] ++ (l.drop (k + 1)).flatMap encI) := by
      rw [← List.flatMap_cons, ← hd, ← List.flatMap_append, List.take_append_drop]
    exact (inst_mid (((l.length : Int) % 256) :: (l.take k).flatMap encI) ((l.drop (k + 1)).flatMap encI) l[k] (plainS l) (by rw [plainS, plainL, hsp]; simp)).1
theorem decPlain_plain (l : List InstrS) (hl : l.length ≤ 255) : decPlain (plainS l) = if 200 < l.length then ([], 2) else if codeE (l.map normI) = 0 then (l.map normI, 0) else ([], 3) := by
  obtain ⟨a0, b0⟩ := mid1 [] (l.flatMap encI) ((l.length : Int) % 256) (by omega) (by omega) (plainS l) (by rw [plainS, plainL]; simp)
  have hn : EyeS.num ⟨plainS l, 0, false⟩ 1 = l.length := by
    have : ((EyeS.num ⟨plainS l, 0, false⟩ 1 : Nat) : Int) = (l.length : Int) % 256 := a0
    omega
  have hx : EyeS.next ⟨plainS l, 0, false⟩ 1 = ⟨plainS l, 1, false⟩ := b0
  unfold decPlain
  rw [hn, hx, decL_plain l hl]
  have hleft : EyeS.left ⟨plainS l, 1, false⟩ = (l.length : Int) * 8 := by
    unfold EyeS.left
    simp only [plain_size]
    simp
  rw [if_neg (by rw [hleft]; simp)]
/-- Eight bytes are an instruction's. -/
theorem chunks (n : Nat) : ∀ ys : List Int, ys.length = n * 8 → (∀ y ∈ ys, 0 ≤ y ∧ y < 256) → ∃ l : List InstrS, l.length = n ∧ l.flatMap encI = ys ∧ l.map normI = l := by
  induction n with
  | zero => exact fun ys h _ => ⟨[], rfl, by have : ys = [] := List.length_eq_zero_iff.1 (by omega); rw [this]; rfl, rfl⟩
  | succ n ih =>
    intro ys h hb
    rcases ys with _ | ⟨b0, ys⟩
    · simp at h
    rcases ys with _ | ⟨b1, ys⟩
    · simp at h; omega
    rcases ys with _ | ⟨b2, ys⟩
    · simp at h; omega
    rcases ys with _ | ⟨b3, ys⟩
    · simp at h; omega
    rcases ys with _ | ⟨b4, ys⟩
    · simp at h; omega
    rcases ys with _ | ⟨b5, ys⟩
    · simp at h; omega
    rcases ys with _ | ⟨b6, ys⟩
    · simp at h; omega
    rcases ys with _ | ⟨b7, ys⟩
    · simp at h; omega
    · have hr : ys.length = n * 8 := by simp at h; omega
      obtain ⟨l, h1, h2, h3⟩ := ih ys hr (fun y hy => hb y (by simp [hy]))
      have q0 := hb b0 (by simp)
      have q1 := hb b1 (by simp)
      have q2 := hb b2 (by simp)
      have q3 := hb b3 (by simp)
      have q4 := hb b4 (by simp)
      have q5 := hb b5 (by simp)
      have q6 := hb b6 (by simp)
      have q7 := hb b7 (by simp)
      have hN : numI b1 (((b4 * 256 + b5) * 256 + b6) * 256 + b7) % 4294967296 = ((b4 * 256 + b5) * 256 + b6) * 256 + b7 := by
        unfold numI sgnI
        split
        · omega
        · split <;> omega
      refine ⟨⟨b0, b1, b2, b3, numI b1 (((b4 * 256 + b5) * 256 + b6) * 256 + b7)⟩ :: l, by simp [h1], ?_, ?_⟩
      · rw [List.flatMap_cons, h2]
        unfold encI
        simp only
        rw [hN]
        have e0 : b0 % 256 = b0 := by omega
        have e1 : b1 % 256 = b1 := by omega
        have e2 : b2 % 256 = b2 := by omega
        have e3 : b3 % 256 = b3 := by omega
        have e4 : (((b4 * 256 + b5) * 256 + b6) * 256 + b7) / 16777216 = b4 := by omega
        have e5 : (((b4 * 256 + b5) * 256 + b6) * 256 + b7) / 65536 % 256 = b5 := by omega
        have e6 : (((b4 * 256 + b5) * 256 + b6) * 256 + b7) / 256 % 256 = b6 := by omega
        have e7 : (((b4 * 256 + b5) * 256 + b6) * 256 + b7) % 256 = b7 := by omega
        rw [e0, e1, e2, e3, e4, e5, e6, e7]
        rfl
      · rw [List.map_cons, h3]
        unfold normI
        simp only
        rw [hN]
        have e0 : b0 % 256 = b0 := by omega
        have e1 : b1 % 256 = b1 := by omega
        have e2 : b2 % 256 = b2 := by omega
        have e3 : b3 % 256 = b3 := by omega
        rw [e0, e1, e2, e3]
/-- A text that an eye takes for a program's is a program's. -/
theorem plain_of (p : ByteArray) (hbl : (EyeS.next ⟨p, 0, false⟩ 1).bl = false) (hle : (EyeS.next ⟨p, 0, false⟩ 1).left = ((EyeS.num ⟨p, 0, false⟩ 1 : Nat) : Int) * 8) :
    ∃ l : List InstrS, l.length ≤ 255 ∧ p = plainS l ∧ l.map normI = l := by
  have hpos : 0 < p.size := by
    by_cases h : p.size = 0
    · exfalso
      unfold EyeS.next at hbl
      rw [if_pos (by unfold EyeS.bad; right; right; simp only; omega)] at hbl
      cases hbl
    · omega
  have hbs := text_bytesI p
  cases hq : bytesI p with
  | nil => have := bytesI_length p; rw [hq] at this; simp at this; omega
  | cons b ys =>
    have hlen := bytesI_length p
    have hmem : ∀ y ∈ bytesI p, 0 ≤ y ∧ y < 256 := by
      intro y hy
      unfold bytesI at hy
      obtain ⟨c, _, rfl⟩ := List.mem_map.1 hy
      have := c.toNat_lt
      omega
    rw [hq] at hlen hmem hbs
    have hb := hmem b (by simp)
    obtain ⟨a0, b0⟩ := mid1 [] ys b hb.1 hb.2 p (by rw [← hbs]; simp)
    have a0' : ((EyeS.num ⟨p, 0, false⟩ 1 : Nat) : Int) = b := a0
    have b0' : EyeS.next ⟨p, 0, false⟩ 1 = ⟨p, 1, false⟩ := b0
    rw [b0'] at hle
    unfold EyeS.left at hle
    simp at hle
    have hy : ys.length = EyeS.num ⟨p, 0, false⟩ 1 * 8 := by simp at hlen; omega
    obtain ⟨l, h1, h2, h3⟩ := chunks _ ys hy (fun y hy => hmem y (by simp [hy]))
    refine ⟨l, by omega, ?_, h3⟩
    rw [← hbs, plainS, plainL, h2]
    have : (l.length : Int) % 256 = b := by omega
    rw [this]
end Go.Proofs.Ytdhfkcodacmbfaa

/- Programs (code): encoding and reading back. Plain laws, without a walk. -/
set_option linter.unusedVariables false
set_option linter.unusedSimpArgs false
namespace Go.Proofs.Ytdhfkcodacmbfaa
open Go.RowKit

theorem num_of (k n : Int) (h : (k = 7 ∧ 0 ≤ n ∧ n < 4294967296) ∨ (k ≠ 7 ∧ -2147483648 ≤ n ∧ n < 2147483648)) : numI k (n % 4294967296) = n := by
  unfold numI sgnI
  rcases h with ⟨h, h1, h2⟩ | ⟨h, h1, h2⟩
  · rw [if_pos h]; omega
  · rw [if_neg h]
    split <;> omega
theorem ksize_kind {k : Int} (h : 0 < ksize k) : 1 ≤ k ∧ k ≤ 7 ∧ ksize k ≤ 4 := by
  unfold ksize at h ⊢
  repeat' split at h
  all_goals first | omega | (repeat' split) <;> omega
theorem isK_span {k v : Int} (h : isK k v = true) : 1 ≤ k ∧ k ≤ 7 ∧ ((k = 7 ∧ 0 ≤ v ∧ v < 4294967296) ∨ (k ≠ 7 ∧ -2147483648 ≤ v ∧ v < 2147483648)) := by
  have he := isK_eq h
  have hk : 1 ≤ k ∧ k ≤ 7 := by
    unfold isK kok at h
    by_cases hq : 1 ≤ k ∧ k ≤ 7
    · exact hq
    · rw [if_neg hq] at h
      cases h
  refine ⟨hk.1, hk.2, ?_⟩
  rw [← he]
  by_cases h7 : k = 7
  · left
    subst h7
    refine ⟨rfl, ?_⟩
    simp [wrapK, IntKind.wrap, IntKind.bits, IntKind.signed]
    omega
  · right
    refine ⟨h7, ?_⟩
    have : k = 1 ∨ k = 2 ∨ k = 3 ∨ k = 4 ∨ k = 5 ∨ k = 6 := by omega
    rcases this with rfl | rfl | rfl | rfl | rfl | rfl <;> simp [wrapK, IntKind.wrap, IntKind.bits, IntKind.signed, Int.bmod_def] <;> (repeat' split) <;> omega
theorem right_ranges {i : InstrS} (h : rightI i = true) : (0 ≤ i.op ∧ i.op < 256) ∧ (0 ≤ i.kind ∧ i.kind < 256) ∧ (0 ≤ i.area ∧ i.area < 256) ∧ (0 ≤ i.at_ ∧ i.at_ < 256) ∧ ((i.kind = 7 ∧ 0 ≤ i.n ∧ i.n < 4294967296) ∨ (i.kind ≠ 7 ∧ -2147483648 ≤ i.n ∧ i.n < 2147483648)) := by
  unfold rightI at h
  have hop : 0 ≤ i.op ∧ i.op < 37 := by
    by_cases hq : 0 ≤ i.op ∧ i.op < 37
    · exact hq
    · have : classI i.op = 0 := by unfold classI; rw [if_neg hq]
      rw [this] at h
      simp [rightC] at h
  have hst : ∀ m, 0 ≤ m → standsI i m = true → 1 ≤ i.kind ∧ i.kind ≤ 7 ∧ 0 ≤ i.area ∧ i.area ≤ 4 ∧ 0 ≤ i.at_ ∧ i.at_ ≤ 64 ∧ i.n = 0 := by
    intro m hm hs
    unfold standsI at hs
    simp only [Bool.and_eq_true, decide_eq_true_eq] at hs
    obtain ⟨⟨⟨⟨⟨h1, h2⟩, h3⟩, h4⟩, h5⟩, h6⟩ := hs
    have := ksize_kind h1
    omega
  rcases class_range i.op with hc | hc | hc | hc | hc | hc | hc | hc | hc <;> rw [hc] at h
  · simp [rightC] at h
  · have h' : (if i.area = 0 then decide (i.at_ = 0) && isK i.kind i.n else standsI i 1) = true := h
    split at h'
    · next ha =>
      simp only [Bool.and_eq_true, decide_eq_true_eq] at h'
      have := isK_span h'.2
      omega
    · have := hst 1 (by omega) h'
      omega
  · have := hst 2 (by omega) h
    omega
  · have h' : (decide (i.area = 0) && decide (i.n = 0) && decide (i.kind = 0) && decide (0 ≤ i.at_) && decide (i.at_ ≤ 200)) = true := h
    simp only [Bool.and_eq_true, decide_eq_true_eq] at h'
    omega
  · have h' : (decide (i.area = 0) && decide (i.n = 0) && decide (i.kind = 0) && decide (i.at_ = 0)) = true := h
    simp only [Bool.and_eq_true, decide_eq_true_eq] at h'
    omega
  · have h' : (decide (i.area = 0) && decide (i.n = 0) && decide (i.at_ = 0) && decide (0 < ksize i.kind)) = true := h
    simp only [Bool.and_eq_true, decide_eq_true_eq] at h'
    have := ksize_kind h'.2
    omega
  · have h' : (decide (i.area = 0) && decide (i.n = 0) && decide (i.kind = 0) && withinI i.at_) = true := h
    unfold withinI at h'
    simp only [Bool.and_eq_true, decide_eq_true_eq] at h'
    have hat : i.at_ < 37 := by
      by_cases hq : i.at_ < 37
      · exact hq
      · have : classI i.at_ = 0 := by unfold classI; rw [if_neg (by omega)]
        omega
    omega
  · have h' : (decide (i.kind = 0) && keepsI i.area && decide (0 ≤ i.at_) && decide (i.at_ ≤ 59) && decide (1 ≤ i.n) && decide (i.n ≤ 9999)) = true := h
    unfold keepsI at h'
    simp only [Bool.and_eq_true, Bool.or_eq_true, decide_eq_true_eq] at h'
    omega
  · have h' : (decide (i.kind = 0) && keepsI i.area && decide (0 ≤ i.at_) && decide (i.at_ < 64) && decide (i.n = 0)) = true := h
    unfold keepsI at h'
    simp only [Bool.and_eq_true, Bool.or_eq_true, decide_eq_true_eq] at h'
    omega
theorem norm_right {i : InstrS} (h : rightI i = true) : normI i = i := by
  obtain ⟨h0, h1, h2, h3, h4⟩ := right_ranges h
  obtain ⟨op, kind, area, at_, n⟩ := i
  simp only at *
  unfold normI
  simp only
  rw [show op % 256 = op by omega, show kind % 256 = kind by omega, show area % 256 = area by omega, show at_ % 256 = at_ by omega, num_of kind n h4]
theorem codeE_right {l : List InstrS} (h : codeE l = 0) : l.length ≤ 200 ∧ ∀ i ∈ l, rightI i = true := by
  refine ⟨codeE_len h, ?_⟩
  unfold codeE at h
  split at h
  · omega
  · split at h
    · next ha => exact List.all_eq_true.1 ha
    · omega
theorem map_norm {l : List InstrS} (h : codeE l = 0) : l.map normI = l := by
  have hr := (codeE_right h).2
  have : ∀ m : List InstrS, (∀ i ∈ m, rightI i = true) → m.map normI = m := by
    intro m
    induction m with
    | nil => intro _; rfl
    | cons i m ih => intro hm; rw [List.map_cons, norm_right (hm i (by simp)), ih (fun j hj => hm j (by simp [hj]))]
  exact this l hr
/-- An encoding is read back. -/
theorem dec_enc {l : List InstrS} (h : codeE l = 0) : decS (sealS (plainS l)) = (l, 0) := by
  have hl := codeE_len h
  unfold decS
  rw [if_pos ⟨by rw [seal_size]; omega, seal_sum _⟩, seal_cut, decPlain_plain l (by omega), if_neg (by omega), map_norm h, if_pos h]
/-- What is read is what was encoded. -/
theorem dec_back {s : ByteArray} (h : (decS s).2 = 0) : codeE (decS s).1 = 0 ∧ sealS (plainS (decS s).1) = s := by
  unfold decS at h ⊢
  by_cases ho : 2 ≤ s.size ∧ moreI 65535 s.data.toList = 0
  · rw [if_pos ho] at h ⊢
    have hs := (open_iff s ho.1).1 ho.2
    generalize s.extract 0 (s.size - 2) = p at *
    by_cases hb : (EyeS.next ⟨p, 0, false⟩ 1).bl = true ∨ (EyeS.next ⟨p, 0, false⟩ 1).left ≠ ((EyeS.num ⟨p, 0, false⟩ 1 : Nat) : Int) * 8
    · unfold decPlain at h
      rw [if_pos hb] at h
      simp at h
    · have h1 : (EyeS.next ⟨p, 0, false⟩ 1).bl = false := by
        cases hq : (EyeS.next ⟨p, 0, false⟩ 1).bl
        · rfl
        · exact absurd (.inl hq) hb
      have h2 : (EyeS.next ⟨p, 0, false⟩ 1).left = ((EyeS.num ⟨p, 0, false⟩ 1 : Nat) : Int) * 8 := by
        by_cases hq : (EyeS.next ⟨p, 0, false⟩ 1).left = ((EyeS.num ⟨p, 0, false⟩ 1 : Nat) : Int) * 8
        · exact hq
        · exact absurd (.inr hq) hb
      obtain ⟨l, hl, rfl, hn⟩ := plain_of p h1 h2
      rw [decPlain_plain l hl, hn] at h ⊢
      by_cases h200 : 200 < l.length
      · rw [if_pos h200] at h
        simp at h
      · rw [if_neg h200] at h ⊢
        by_cases hc : codeE l = 0
        · rw [if_pos hc] at h ⊢
          exact ⟨hc, hs⟩
        · rw [if_neg hc] at h
          simp at h
  · rw [if_neg ho] at h
    simp at h
theorem dec_nil {s : ByteArray} (h : (decS s).2 ≠ 0) : (decS s).1 = [] := by
  unfold decS decPlain at h ⊢
  repeat' split
  all_goals first | rfl | (exfalso; apply h; simp [*])
/-- An encoding that a burst changed is not opened. -/
theorem dec_burst {l : List InstrS} (n p : Int) (hp0 : 0 ≤ p) (hp1 : p < 65536) (hne : burstA (sealS (plainS l)) n p ≠ sealS (plainS l)) : decS (burstA (sealS (plainS l)) n p) = ([], 9) := by
  have hs := burstA_sum (sealS (plainS l)) n p hp0 hp1 (seal_sum _) hne
  unfold decS
  rw [if_neg (fun q => hs q.2)]
/-- A part of an encoding is refused. -/
theorem dec_cut {l : List InstrS} (hl : l.length ≤ 255) (k : Nat) (hk : k < (sealS (plainS l)).size) : (decS ((sealS (plainS l)).extract 0 k)).2 ≠ 0 ∧ (decS ((sealS (plainS l)).extract 0 k)).1 = [] := by
  have hz := plain_size l
  rw [seal_size, hz] at hk
  unfold decS
  by_cases ho : 2 ≤ ((sealS (plainS l)).extract 0 k).size ∧ moreI 65535 ((sealS (plainS l)).extract 0 k).data.toList = 0
  · rw [if_pos ho]
    have hks : ((sealS (plainS l)).extract 0 k).size = k := by
      rw [ByteArray.size_extract, seal_size, hz]; omega
    have h2 := ho.1
    rw [hks] at h2 ⊢
    have hsub : ((sealS (plainS l)).extract 0 k).extract 0 (k - 2) = (plainS l).extract 0 (k - 2) := by
      have hc := seal_cut (plainS l)
      rw [seal_size] at hc
      conv => rhs; rw [← hc]
      rw [ByteArray.extract_extract, ByteArray.extract_extract]
      congr 1
      rw [hz]; omega
    rw [hsub]
    have hps : ((plainS l).extract 0 (k - 2)).size = k - 2 := by rw [ByteArray.size_extract, hz]; omega
    generalize hp : (plainS l).extract 0 (k - 2) = p at *
    have hbad : (EyeS.next ⟨p, 0, false⟩ 1).bl = true ∨ (EyeS.next ⟨p, 0, false⟩ 1).left ≠ ((EyeS.num ⟨p, 0, false⟩ 1 : Nat) : Int) * 8 := by
      by_cases hk2 : k = 2
      · left
        unfold EyeS.next
        rw [if_pos (by unfold EyeS.bad; right; right; simp only; omega)]
      · right
        have hxs : p = strOfNums ((plainL l).take (k - 2)) := by
          rw [← hp]
          apply ByteArray.ext
          apply Array.ext'
          simp only [ByteArray.data_extract, Array.toList_extract, plainS, strOfNums_data]
          simp [List.extract_eq_take_drop, List.map_take]
        have hcons : (plainL l).take (k - 2) = ((l.length : Int) % 256) :: (l.flatMap encI).take (k - 3) := by
          rw [plainL, show k - 2 = (k - 3) + 1 by omega, List.take_succ_cons]
        obtain ⟨a0, b0⟩ := mid1 [] ((l.flatMap encI).take (k - 3)) ((l.length : Int) % 256) (by omega) (by omega) p (by rw [hxs, hcons]; rfl)
        have a0' : ((EyeS.num ⟨p, 0, false⟩ 1 : Nat) : Int) = (l.length : Int) % 256 := a0
        have b0' : EyeS.next ⟨p, 0, false⟩ 1 = ⟨p, 1, false⟩ := b0
        rw [b0', a0']
        unfold EyeS.left
        simp
        omega
    unfold decPlain
    rw [if_pos hbad]
    simp
  · rw [if_neg ho]
    simp
end Go.Proofs.Ytdhfkcodacmbfaa
