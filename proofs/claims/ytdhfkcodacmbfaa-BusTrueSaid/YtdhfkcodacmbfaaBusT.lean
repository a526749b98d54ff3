/- The medium: what it hands over was sent, and no more often. Plain laws, without a walk. -/
import Derived.Test.YtdhfkcodacmbfaaBusP
import Derived.Test.YtdhfkcodacmbfaaCrcE
set_option linter.unusedVariables false
set_option linter.unusedSimpArgs false
namespace Go.Proofs.Ytdhfkcodacmbfaa
open Go.RowKit

/-- p is t, or t's beginning, or t with a burst. -/
def FromS (p t : ByteArray) : Prop := p = t ∨ (p.size < t.size ∧ t.extract 0 p.size = p) ∨ (∃ n q, 0 ≤ q ∧ q < 65536 ∧ p = burstA t n q)
structure Told (S : ByteArray → Prop) (l : List PieceS) : Prop where
  some_ : ∀ p ∈ l, ∃ t, S t ∧ FromS p.s t
  whole : ∀ p ∈ l, p.hurt = false → S p.s
theorem Told.nil (S : ByteArray → Prop) : Told S [] := ⟨fun p h => (by cases h), fun p h => (by cases h)⟩
theorem Told.mono {S S' : ByteArray → Prop} {l : List PieceS} (h : Told S l) (hs : ∀ t, S t → S' t) : Told S' l :=
  ⟨fun p hp => by obtain ⟨t, h1, h2⟩ := h.some_ p hp; exact ⟨t, hs t h1, h2⟩, fun p hp hh => hs _ (h.whole p hp hh)⟩
theorem Told.sub {S : ByteArray → Prop} {l m : List PieceS} (h : Told S l) (hs : ∀ p ∈ m, p ∈ l) : Told S m := ⟨fun p hp => h.some_ p (hs p hp), fun p hp => h.whole p (hs p hp)⟩
theorem Told.add {S : ByteArray → Prop} {l : List PieceS} {q : PieceS} (h : Told S l) (h1 : ∃ t, S t ∧ FromS q.s t) (h2 : q.hurt = false → S q.s) : Told S (l ++ [q]) := by
  refine ⟨fun p hp => ?_, fun p hp => ?_⟩
  · rcases List.mem_append.1 hp with hp | hp
    · exact h.some_ p hp
    · rw [List.mem_singleton.1 hp]; exact h1
  · rcases List.mem_append.1 hp with hp | hp
    · exact h.whole p hp
    · rw [List.mem_singleton.1 hp]; exact h2
theorem Told.set {S : ByteArray → Prop} {l : List PieceS} {q : PieceS} (h : Told S l) (k : Nat) (h1 : ∃ t, S t ∧ FromS q.s t) (h2 : q.hurt = false → S q.s) : Told S (l.set k q) := by
  refine ⟨fun p hp => ?_, fun p hp => ?_⟩
  · rcases List.mem_or_eq_of_mem_set hp with hp | rfl
    · exact h.some_ p hp
    · exact h1
  · rcases List.mem_or_eq_of_mem_set hp with hp | rfl
    · exact h.whole p hp
    · exact h2
theorem atS_mem {l : List PieceS} {k : Int} {p : PieceS} (h : atS l k = some p) : p ∈ l := by
  obtain ⟨n, _, _, hp⟩ := atS_some h
  exact List.mem_of_getElem? hp
theorem told_add {S : ByteArray → Prop} {st : BusS} {q : PieceS} (h : Told S st.l) (h1 : ∃ t, S t ∧ FromS q.s t) (h2 : q.hurt = false → S q.s) : Told S (addS st q).1.l := by
  unfold addS
  split
  · exact h
  · exact h.add h1 h2
theorem hurt_text {p : PieceS} {s : ByteArray} (h : (hurtS p s).hurt = false) : s = p.s := by
  unfold hurtS at h
  simp only [Bool.not_eq_false'] at h
  exact (toList_inj (by simpa using h)).symm
/-- What was told of the medium stays told. -/
theorem told_act {S S' : ByteArray → Prop} {st : BusS} {a : ActS} (h : Told S st.l) (oka : a.ok) (hs : ∀ t, S t → S' t) (hn : a.what % 7 = 0 → (actS st a).2.2 = 0 → S' a.s) : Told S' (actS st a).1.l := by
  have h' := h.mono hs
  unfold actS at hn ⊢
  by_cases h0 : a.what % 7 = 0
  · rw [if_pos h0] at hn ⊢
    replace hn := hn h0
    simp only at hn ⊢
    unfold sendS at hn ⊢
    split at hn
    · next hb => rw [if_pos hb]; exact h'
    · next hb =>
      rw [if_neg hb]
      unfold addS at hn ⊢
      split at hn
      · next h64 => rw [if_pos h64]; exact h'
      · next h64 =>
        rw [if_neg h64]
        exact h'.add ⟨a.s, hn rfl, .inl rfl⟩ (fun _ => hn rfl)
  rw [if_neg h0]
  have hdel : Told S' (deliverS st a.k a.at_).1.l := by
    unfold deliverS
    cases hk : atS st.l a.k with
    | none => exact h'
    | some p =>
      have hp := atS_mem hk
      have hset := h'.set (q := ⟨p.s, p.src, withoutA p.dest a.at_, p.hurt⟩) a.k.toNat (h'.some_ p hp) (h'.whole p hp)
      simp only
      split
      · exact h'
      · split
        · exact hset.sub (fun q hq => List.mem_of_mem_eraseIdx hq)
        · exact hset
  by_cases h1 : a.what % 7 = 1
  · rw [if_pos h1]; exact hdel
  rw [if_neg h1]
  by_cases h2 : a.what % 7 = 2
  · rw [if_pos h2]; exact hdel
  rw [if_neg h2]
  by_cases h3 : a.what % 7 = 3
  · rw [if_pos h3]
    simp only
    unfold dropS
    cases hk : atS st.l a.k with
    | none => exact h'
    | some p => exact h'.sub (fun q hq => List.mem_of_mem_eraseIdx hq)
  rw [if_neg h3]
  by_cases h4 : a.what % 7 = 4
  · rw [if_pos h4]
    simp only
    unfold twiceS
    cases hk : atS st.l a.k with
    | none => exact h'
    | some p => exact told_add h' (h'.some_ p (atS_mem hk)) (h'.whole p (atS_mem hk))
  rw [if_neg h4]
  by_cases h5 : a.what % 7 = 5
  · rw [if_pos h5]
    simp only
    unfold burstB
    cases hk : atS st.l a.k with
    | none => exact h'
    | some p =>
      simp only
      split
      · exact h'
      · next hh =>
        have hw := h'.whole p (atS_mem hk) (by simpa using hh)
        refine h'.set _ ⟨p.s, hw, .inr (.inr ⟨a.at_, a.pat, oka.pat.1, oka.pat.2, rfl⟩)⟩ (fun q => ?_)
        have := hurt_text q
        show S' (burstA p.s a.at_ a.pat)
        rw [this]
        exact hw
  rw [if_neg h5]
  simp only
  unfold cutB
  cases hk : atS st.l a.k with
  | none => exact h'
  | some p =>
    simp only
    split
    · exact h'
    · next hh =>
      split
      · exact h'
      · next hc =>
        have hw := h'.whole p (atS_mem hk) (by simpa using hh)
        have hsz : (p.s.extract 0 (p.s.size - a.at_.toNat)).size = p.s.size - a.at_.toNat := by rw [ByteArray.size_extract]; omega
        refine h'.set _ ⟨p.s, hw, .inr (.inl ⟨?_, ?_⟩)⟩ (fun q => ?_)
        · show (p.s.extract 0 (p.s.size - a.at_.toNat)).size < p.s.size
          rw [hsz]; omega
        · show p.s.extract 0 (p.s.extract 0 (p.s.size - a.at_.toNat)).size = p.s.extract 0 (p.s.size - a.at_.toNat)
          rw [hsz]
        · have := hurt_text q
          have := congrArg ByteArray.size this
          rw [hsz] at this
          omega
/-- How many pieces are for the address b. -/
def cntB (b : Nat) (l : List PieceS) : Nat := (l.filter (fun p => p.dest.testBit b)).length
def bitN (b : Nat) (p : PieceS) : Nat := if p.dest.testBit b = true then 1 else 0
theorem cnt_cons (b : Nat) (p : PieceS) (l : List PieceS) : cntB b (p :: l) = bitN b p + cntB b l := by
  unfold cntB bitN
  rw [List.filter_cons]
  split
  · rw [List.length_cons]; omega
  · omega
theorem cnt_add (b : Nat) (l : List PieceS) (q : PieceS) : cntB b (l ++ [q]) ≤ cntB b l + 1 := by
  unfold cntB
  rw [List.filter_append, List.length_append]
  have : ([q].filter (fun p => p.dest.testBit b)).length ≤ 1 := List.length_filter_le _ _
  omega
theorem cnt_erase (b : Nat) (l : List PieceS) (k : Nat) : cntB b (l.eraseIdx k) ≤ cntB b l := by
  unfold cntB
  exact ((List.eraseIdx_sublist l k).filter _).length_le
theorem cnt_set (b : Nat) (l : List PieceS) (k : Nat) (p q : PieceS) (hk : l[k]? = some p) : cntB b (l.set k q) + bitN b p = cntB b l + bitN b q := by
  induction l generalizing k with
  | nil => cases hk
  | cons r l ih =>
    cases k with
    | zero =>
      simp at hk
      subst hk
      rw [List.set_cons_zero, cnt_cons, cnt_cons]
      omega
    | succ k =>
      rw [List.set_cons_succ, cnt_cons, cnt_cons]
      have := ih k (by simpa using hk)
      omega
/-- Nobody has had more than there was to have. -/
def Bal (came : Nat → Int) (most : Int) (l : List PieceS) : Prop := ∀ b, b < 32 → came b + (cntB b l : Int) ≤ most
theorem bal_deliver {came : Nat → Int} {most : Int} {st : BusS} {k to : Int} (ok : st.ok) (h : Bal came most st.l) :
    Bal came most (deliverS st k to).1.l ∧ ((deliverS st k to).2.2 = 0 → 0 ≤ to ∧ to < 32 ∧ Bal (fun b => if b = to.toNat then came b + 1 else came b) most (deliverS st k to).1.l) := by
  unfold deliverS
  cases hk : atS st.l k with
  | none => exact ⟨h, fun q => by simp at q⟩
  | some p =>
    obtain ⟨n, rfl, hn, hp⟩ := atS_some hk
    have hd := (ok.at hp).dest
    simp only
    by_cases hh : hasA p.dest to = false
    · rw [if_pos hh]
      exact ⟨h, fun q => by simp at q⟩
    · rw [if_neg hh]
      have hh' : hasA p.dest to = true := by simpa using hh
      unfold hasA at hh'
      simp only [Bool.and_eq_true] at hh'
      obtain ⟨h0, h1⟩ := (isA_iff to).1 hh'.1
      have hset : ∀ b, b < 32 → cntB b (st.l.set n ⟨p.s, p.src, withoutA p.dest to, p.hurt⟩) ≤ cntB b st.l ∧ (b = to.toNat → cntB b (st.l.set n ⟨p.s, p.src, withoutA p.dest to, p.hurt⟩) + 1 ≤ cntB b st.l) := by
        intro b hb
        have hc := cnt_set b st.l n p ⟨p.s, p.src, withoutA p.dest to, p.hurt⟩ hp
        have hw := without_bit p.dest to b hd
        unfold bitN at hc
        simp only [hw] at hc
        refine ⟨?_, fun e => ?_⟩
        · cases hq : p.dest.testBit b <;> simp [hq] at hc <;> (try split at hc) <;> omega
        · subst e
          have hz : ((to.toNat : Nat) : Int) = to := by omega
          rw [hh'.2] at hc
          simp [hz] at hc
          omega
      have hfin : ∀ m : List PieceS, (∀ b, cntB b m ≤ cntB b (st.l.set n ⟨p.s, p.src, withoutA p.dest to, p.hurt⟩)) → Bal came most m ∧ (0 = 0 → 0 ≤ to ∧ to < 32 ∧ Bal (fun b => if b = to.toNat then came b + 1 else came b) most m) := by
        intro m hm
        refine ⟨fun b hb => ?_, fun _ => ⟨h0, h1, fun b hb => ?_⟩⟩
        · have := h b hb; have := hm b; have := (hset b hb).1; omega
        · have g1 := h b hb
          have g2 := hm b
          have g3 := hset b hb
          by_cases e : b = to.toNat
          · have := g3.2 e
            simp only [e, if_true] at *
            omega
          · simp only [e, if_false]
            have := g3.1
            omega
      have ht : (n : Int).toNat = n := by omega
      split
      · have := hfin ((st.l.set n ⟨p.s, p.src, withoutA p.dest to, p.hurt⟩).eraseIdx n) (fun b => cnt_erase b _ n)
        simp only [ht]
        exact ⟨this.1, fun _ => this.2 rfl⟩
      · have := hfin (st.l.set n ⟨p.s, p.src, withoutA p.dest to, p.hurt⟩) (fun b => Nat.le_refl _)
        simp only [ht]
        exact ⟨this.1, fun _ => this.2 rfl⟩
theorem bal_set {came : Nat → Int} {most : Int} {l : List PieceS} {k : Nat} {p q : PieceS} (h : Bal came most l) (hk : l[k]? = some p) (hd : q.dest = p.dest) : Bal came most (l.set k q) := by
  intro b hb
  have h1 := cnt_set b l k p q hk
  have h2 := h b hb
  unfold bitN at h1
  rw [hd] at h1
  omega
theorem bal_more {came : Nat → Int} {most : Int} {st : BusS} {q : PieceS} (h : Bal came most st.l) : ((addS st q).2 = 0 → Bal came (most + 1) (addS st q).1.l) ∧ ((addS st q).2 ≠ 0 → Bal came most (addS st q).1.l) := by
  unfold addS
  split
  · exact ⟨fun e => by simp at e, fun _ => h⟩
  · refine ⟨fun _ b hb => ?_, fun e => absurd rfl e⟩
    have := h b hb
    have := cnt_add b st.l q
    simp only
    omega
/-- What the medium's balance is after an act. -/
theorem bal_act {came : Nat → Int} {most : Int} {st : BusS} {a : ActS} (ok : st.ok) (h : Bal came most st.l) :
    ((actS st a).2.2 ≠ 0 → Bal came most (actS st a).1.l) ∧
    ((actS st a).2.2 = 0 → (a.what % 7 = 0 ∨ a.what % 7 = 4 → Bal came (most + 1) (actS st a).1.l) ∧ (a.what % 7 = 1 → 0 ≤ a.at_ ∧ a.at_ < 32 ∧ Bal (fun b => if b = a.at_.toNat then came b + 1 else came b) most (actS st a).1.l) ∧ (a.what % 7 ≠ 0 → a.what % 7 ≠ 4 → a.what % 7 ≠ 1 → Bal came most (actS st a).1.l)) := by
  unfold actS
  by_cases h0 : a.what % 7 = 0
  · rw [if_pos h0]
    simp only
    have hsend : ((sendS st a.at_ a.s).2 = 0 → Bal came (most + 1) (sendS st a.at_ a.s).1.l) ∧ ((sendS st a.at_ a.s).2 ≠ 0 → Bal came most (sendS st a.at_ a.s).1.l) := by
      unfold sendS
      split
      · exact ⟨fun e => by simp at e, fun _ => h⟩
      · exact bal_more h
    exact ⟨hsend.2, fun e => ⟨fun _ => hsend.1 e, fun q => by omega, fun q => absurd h0 q⟩⟩
  rw [if_neg h0]
  have hdel := bal_deliver (k := a.k) (to := a.at_) ok h
  by_cases h1 : a.what % 7 = 1
  · rw [if_pos h1]
    exact ⟨fun _ => hdel.1, fun e => ⟨fun q => by omega, fun _ => hdel.2 e, fun _ _ q => absurd h1 q⟩⟩
  rw [if_neg h1]
  by_cases h2 : a.what % 7 = 2
  · rw [if_pos h2]
    exact ⟨fun _ => hdel.1, fun e => ⟨fun q => by omega, fun q => absurd q h1, fun _ _ _ => hdel.1⟩⟩
  rw [if_neg h2]
  by_cases h3 : a.what % 7 = 3
  · rw [if_pos h3]
    simp only
    have hdrop : Bal came most (dropS st a.k).1.l := by
      unfold dropS
      cases hk : atS st.l a.k with
      | none => exact h
      | some p =>
        intro b hb
        have := h b hb
        have := cnt_erase b st.l a.k.toNat
        simp only
        omega
    exact ⟨fun _ => hdrop, fun e => ⟨fun q => by omega, fun q => absurd q h1, fun _ _ _ => hdrop⟩⟩
  rw [if_neg h3]
  by_cases h4 : a.what % 7 = 4
  · rw [if_pos h4]
    simp only
    have htw : ((twiceS st a.k).2 = 0 → Bal came (most + 1) (twiceS st a.k).1.l) ∧ ((twiceS st a.k).2 ≠ 0 → Bal came most (twiceS st a.k).1.l) := by
      unfold twiceS
      cases hk : atS st.l a.k with
      | none => exact ⟨fun e => by simp at e, fun _ => h⟩
      | some p => exact bal_more h
    exact ⟨htw.2, fun e => ⟨fun _ => htw.1 e, fun q => absurd q h1, fun _ q => absurd h4 q⟩⟩
  rw [if_neg h4]
  by_cases h5 : a.what % 7 = 5
  · rw [if_pos h5]
    simp only
    have hb : Bal came most (burstB st a.k a.at_ a.pat).1.l := by
      unfold burstB
      cases hk : atS st.l a.k with
      | none => exact h
      | some p =>
        obtain ⟨n, hkn, hn, hp⟩ := atS_some hk
        simp only
        split
        · exact h
        · rw [hkn]
          exact bal_set (p := p) h (by simpa using hp) rfl
    exact ⟨fun _ => hb, fun e => ⟨fun q => by omega, fun q => absurd q h1, fun _ _ _ => hb⟩⟩
  rw [if_neg h5]
  simp only
  have hc : Bal came most (cutB st a.k a.at_).1.l := by
    unfold cutB
    cases hk : atS st.l a.k with
    | none => exact h
    | some p =>
      obtain ⟨n, hkn, hn, hp⟩ := atS_some hk
      simp only
      split
      · exact h
      · split
        · exact h
        · rw [hkn]
          exact bal_set (p := p) h (by simpa using hp) rfl
  exact ⟨fun _ => hc, fun e => ⟨fun q => by omega, fun q => absurd q h1, fun _ _ _ => hc⟩⟩
/-- What is handed over was sent. -/
theorem out_act {S : ByteArray → Prop} {st : BusS} {a : ActS} (h : Told S st.l) (h1 : a.what % 7 = 1) (he : (actS st a).2.2 = 0) : ∃ t, S t ∧ FromS (actS st a).2.1 t := by
  unfold actS at he ⊢
  rw [if_neg (by omega), if_pos h1] at he ⊢
  unfold deliverS at he ⊢
  cases hk : atS st.l a.k with
  | none => rw [hk] at he; simp at he
  | some p =>
    rw [hk] at he
    simp only at he ⊢
    split at he
    · simp at he
    · next hh =>
      rw [if_neg hh]
      split <;> exact h.some_ p (atS_mem hk)
theorem count_le {came : Nat → Int} {most : Int} {l : List PieceS} (h : Bal came most l) (b : Nat) (hb : b < 32) : came b ≤ most := by
  have := h b hb
  omega
end Go.Proofs.Ytdhfkcodacmbfaa
