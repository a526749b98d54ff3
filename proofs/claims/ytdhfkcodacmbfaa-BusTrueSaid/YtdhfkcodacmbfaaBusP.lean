/- Acts on a bus: the program's, and the document's. -/
import Derived.Test.YtdhfkcodacmbfaaBusO
import Derived.Test.YtdhfkcodacmbfaaBusK
import Derived.Test.YtdhfkcodacmbfaaActs
set_option linter.unusedVariables false
set_option linter.unusedSimpArgs false
namespace Go.Proofs.Ytdhfkcodacmbfaa
open Go.RowKit

/-- What an act makes of a bus: the bus, what came, the error. -/
def actS (st : BusS) (a : ActS) : BusS × ByteArray × Int :=
  if a.what % 7 = 0 then ((sendS st a.at_ a.s).1, ⟨#[]⟩, (sendS st a.at_ a.s).2)
  else if a.what % 7 = 1 then deliverS st a.k a.at_
  else if a.what % 7 = 2 then ((deliverS st a.k a.at_).1, ⟨#[]⟩, (deliverS st a.k a.at_).2.2)
  else if a.what % 7 = 3 then ((dropS st a.k).1, ⟨#[]⟩, (dropS st a.k).2)
  else if a.what % 7 = 4 then ((twiceS st a.k).1, ⟨#[]⟩, (twiceS st a.k).2)
  else if a.what % 7 = 5 then ((burstB st a.k a.at_ a.pat).1, ⟨#[]⟩, (burstB st a.k a.at_ a.pat).2)
  else ((cutB st a.k a.at_).1, ⟨#[]⟩, (cutB st a.k a.at_).2)
theorem ok_act {st : BusS} (h : st.ok) (a : ActS) : (actS st a).1.ok := by
  unfold actS
  split
  · exact ok_send h _ _
  split
  · exact ok_deliver h _ _
  split
  · exact ok_deliver h _ _
  split
  · exact ok_drop h _
  split
  · exact ok_twice h _
  split
  · exact ok_burst h _ _ _
  · exact ok_cut h _ _

set_option maxRecDepth 100000 in
set_option maxHeartbeats 2000000 in
theorem do_any' (S B : Nat) (ob : Option Nat) (st : BusS) (a : ActS) (w : World) (h : Bus 147 w S B ob st.l st.f) (ok : st.ok) (oka : a.ok) (hs : a.s.size ≤ 1000000) :
    Calls Try.prog 65 #[.pointer (some ⟨B, 0, none⟩), .agg a.cells] w fun e w' => e = .returned (.tuple #[.string (actS st a).2.1, .int .i64 (actS st a).2.2]) ∧ BusTo 147 w w' S B ob (actS st a).1.l (actS st a).1.f := by
  obtain ⟨r, hr⟩ : ∃ r, r = actS st a := ⟨_, rfl⟩
  rw [← hr]
  have X := Blk.new w a.cells 65
  have h0 := h.alloc (.cells a.cells 65)
  have hb := (Below.refl w.heap.size w).alloc (Nat.le_refl _) (.cells a.cells 65)
  have x0 := X.cell (j := 0) (v := .int .u8 a.what) rfl
  have x1 := X.cell (j := 1) (v := .int .i64 a.k) rfl
  have x2 := X.cell (j := 2) (v := .int .i64 a.at_) rfl
  have x3 := X.cell (j := 3) (v := .int .u16 a.pat) rfl
  have x4 := X.cell (j := 4) (v := .string a.s) rfl
  have hw0 := oka.what.1
  have hp := oka.pat
  have hlen := ok.len
  have hc : a.what % 7 = 0 ∨ a.what % 7 = 1 ∨ a.what % 7 = 2 ∨ a.what % 7 = 3 ∨ a.what % 7 = 4 ∨ a.what % 7 = 5 ∨ a.what % 7 = 6 := by omega
  unfold actS at hr
  unfold ActS.cells at *
  rcases hc with q | q | q | q | q | q | q
  · rw [if_pos q] at hr
    have HC := Lib.hid (bsend_any S B ob st a.at_ a.s _ h0 hlen hs)
    clear h h0 ok oka hp X
    generalize sendS st a.at_ a.s = t at *
    subst hr
    go_enter Try.func65, Try.ntmps65
    go_wp2_with fail
    generalize w.alloc (.cells #[.int .u8 a.what, .int .i64 a.k, .int .i64 a.at_, .int .u16 a.pat, .string a.s] 65) = w0 at *
    refine (HC.out).mono ?_
    rintro e w1 ⟨rfl, b⟩
    have HZ := Lib.hid (b.near hb)
    clear b
    go_wp2_with fail
    go_ret2
    exact ⟨rfl, HZ.out⟩
  · rw [if_neg (by omega)] at hr
    rw [if_pos q] at hr
    have HC := Lib.hid (bdeliver_any S B ob st a.k a.at_ _ h0 ok)
    clear h h0 ok oka hp X
    generalize deliverS st a.k a.at_ = t at *
    subst hr
    go_enter Try.func65, Try.ntmps65
    go_wp2_with fail
    generalize w.alloc (.cells #[.int .u8 a.what, .int .i64 a.k, .int .i64 a.at_, .int .u16 a.pat, .string a.s] 65) = w0 at *
    refine (HC.out).mono ?_
    rintro e w1 ⟨rfl, b⟩
    have HZ := Lib.hid (b.near hb)
    clear b
    go_wp2_with fail
    go_ret2
    exact ⟨rfl, HZ.out⟩
  · rw [if_neg (by omega)] at hr
    rw [if_neg (by omega)] at hr
    rw [if_pos q] at hr
    have HC := Lib.hid (blose_any S B ob st a.k a.at_ _ h0 ok)
    clear h h0 ok oka hp X
    generalize deliverS st a.k a.at_ = t at *
    subst hr
    go_enter Try.func65, Try.ntmps65
    go_wp2_with fail
    generalize w.alloc (.cells #[.int .u8 a.what, .int .i64 a.k, .int .i64 a.at_, .int .u16 a.pat, .string a.s] 65) = w0 at *
    refine (HC.out).mono ?_
    rintro e w1 ⟨rfl, b⟩
    have HZ := Lib.hid (b.near hb)
    clear b
    go_wp2_with fail
    go_ret2
    exact ⟨rfl, HZ.out⟩
  · rw [if_neg (by omega)] at hr
    rw [if_neg (by omega)] at hr
    rw [if_neg (by omega)] at hr
    rw [if_pos q] at hr
    have HC := Lib.hid (bdrop_any S B ob st a.k _ h0 hlen)
    clear h h0 ok oka hp X
    generalize dropS st a.k = t at *
    subst hr
    go_enter Try.func65, Try.ntmps65
    go_wp2_with fail
    generalize w.alloc (.cells #[.int .u8 a.what, .int .i64 a.k, .int .i64 a.at_, .int .u16 a.pat, .string a.s] 65) = w0 at *
    refine (HC.out).mono ?_
    rintro e w1 ⟨rfl, b⟩
    have HZ := Lib.hid (b.near hb)
    clear b
    go_wp2_with fail
    go_ret2
    exact ⟨rfl, HZ.out⟩
  · rw [if_neg (by omega)] at hr
    rw [if_neg (by omega)] at hr
    rw [if_neg (by omega)] at hr
    rw [if_neg (by omega)] at hr
    rw [if_pos q] at hr
    have HC := Lib.hid (btwice_any S B ob st a.k _ h0 hlen)
    clear h h0 ok oka hp X
    generalize twiceS st a.k = t at *
    subst hr
    go_enter Try.func65, Try.ntmps65
    go_wp2_with fail
    generalize w.alloc (.cells #[.int .u8 a.what, .int .i64 a.k, .int .i64 a.at_, .int .u16 a.pat, .string a.s] 65) = w0 at *
    refine (HC.out).mono ?_
    rintro e w1 ⟨rfl, b⟩
    have HZ := Lib.hid (b.near hb)
    clear b
    go_wp2_with fail
    go_ret2
    exact ⟨rfl, HZ.out⟩
  · rw [if_neg (by omega)] at hr
    rw [if_neg (by omega)] at hr
    rw [if_neg (by omega)] at hr
    rw [if_neg (by omega)] at hr
    rw [if_neg (by omega)] at hr
    rw [if_pos q] at hr
    have HC := Lib.hid (bburst_any S B ob st a.k a.at_ a.pat _ h0 ok hp.1 hp.2)
    clear h h0 ok oka hp X
    generalize burstB st a.k a.at_ a.pat = t at *
    subst hr
    go_enter Try.func65, Try.ntmps65
    go_wp2_with fail
    generalize w.alloc (.cells #[.int .u8 a.what, .int .i64 a.k, .int .i64 a.at_, .int .u16 a.pat, .string a.s] 65) = w0 at *
    refine (HC.out).mono ?_
    rintro e w1 ⟨rfl, b⟩
    have HZ := Lib.hid (b.near hb)
    clear b
    go_wp2_with fail
    go_ret2
    exact ⟨rfl, HZ.out⟩
  · rw [if_neg (by omega)] at hr
    rw [if_neg (by omega)] at hr
    rw [if_neg (by omega)] at hr
    rw [if_neg (by omega)] at hr
    rw [if_neg (by omega)] at hr
    rw [if_neg (by omega)] at hr
    have HC := Lib.hid (bcut_any S B ob st a.k a.at_ _ h0 ok)
    clear h h0 ok oka hp X
    generalize cutB st a.k a.at_ = t at *
    subst hr
    go_enter Try.func65, Try.ntmps65
    go_wp2_with fail
    generalize w.alloc (.cells #[.int .u8 a.what, .int .i64 a.k, .int .i64 a.at_, .int .u16 a.pat, .string a.s] 65) = w0 at *
    refine (HC.out).mono ?_
    rintro e w1 ⟨rfl, b⟩
    have HZ := Lib.hid (b.near hb)
    clear b
    go_wp2_with fail
    go_ret2
    exact ⟨rfl, HZ.out⟩

set_option maxRecDepth 100000 in
set_option maxHeartbeats 2000000 in
theorem should_any (S B : Nat) (ob : Option Nat) (st : BusS) (a : ActS) (w : World) (h : Bus 85 w S B ob st.l st.f) (ok : st.ok) (oka : a.ok) (hs : a.s.size ≤ 1000000) :
    Calls Try.prog 67 #[.pointer (some ⟨B, 0, none⟩), .agg a.cells] w fun e w' => e = .returned (.tuple #[.string (actS st a).2.1, .int .i64 (actS st a).2.2]) ∧ RefTo w w' S B ob (actS st a).1.l (actS st a).1.f := by
  obtain ⟨r, hr⟩ : ∃ r, r = actS st a := ⟨_, rfl⟩
  rw [← hr]
  have X := Blk.new w a.cells 65
  have h0 := h.alloc (.cells a.cells 65)
  have hb := (Below.refl w.heap.size w).alloc (Nat.le_refl _) (.cells a.cells 65)
  have x0 := X.cell (j := 0) (v := .int .u8 a.what) rfl
  have x1 := X.cell (j := 1) (v := .int .i64 a.k) rfl
  have x2 := X.cell (j := 2) (v := .int .i64 a.at_) rfl
  have x3 := X.cell (j := 3) (v := .int .u16 a.pat) rfl
  have x4 := X.cell (j := 4) (v := .string a.s) rfl
  have hw0 := oka.what.1
  have hp := oka.pat
  have hlen := ok.len
  have hc : a.what % 7 = 0 ∨ a.what % 7 = 1 ∨ a.what % 7 = 2 ∨ a.what % 7 = 3 ∨ a.what % 7 = 4 ∨ a.what % 7 = 5 ∨ a.what % 7 = 6 := by omega
  unfold actS at hr
  unfold ActS.cells at *
  rcases hc with q | q | q | q | q | q | q
  · rw [if_pos q] at hr
    have HC := Lib.hid (rsend_any S B ob st a.at_ a.s _ h0 hlen hs)
    clear h h0 ok oka hp X
    generalize sendS st a.at_ a.s = t at *
    subst hr
    go_enter Try.func67, Try.ntmps67
    go_wp2_with fail
    generalize w.alloc (.cells #[.int .u8 a.what, .int .i64 a.k, .int .i64 a.at_, .int .u16 a.pat, .string a.s] 65) = w0 at *
    refine (HC.out).mono ?_
    rintro e w1 ⟨rfl, b⟩
    have HZ := Lib.hid (b.near hb)
    clear b
    go_wp2_with fail
    go_ret2
    exact ⟨rfl, HZ.out⟩
  · rw [if_neg (by omega)] at hr
    rw [if_pos q] at hr
    have HC := Lib.hid (rdeliver_any S B ob st a.k a.at_ _ h0 ok)
    clear h h0 ok oka hp X
    generalize deliverS st a.k a.at_ = t at *
    subst hr
    go_enter Try.func67, Try.ntmps67
    go_wp2_with fail
    generalize w.alloc (.cells #[.int .u8 a.what, .int .i64 a.k, .int .i64 a.at_, .int .u16 a.pat, .string a.s] 65) = w0 at *
    refine (HC.out).mono ?_
    rintro e w1 ⟨rfl, b⟩
    have HZ := Lib.hid (b.near hb)
    clear b
    go_wp2_with fail
    go_ret2
    exact ⟨rfl, HZ.out⟩
  · rw [if_neg (by omega)] at hr
    rw [if_neg (by omega)] at hr
    rw [if_pos q] at hr
    have HC := Lib.hid (rdeliver_any S B ob st a.k a.at_ _ h0 ok)
    clear h h0 ok oka hp X
    generalize deliverS st a.k a.at_ = t at *
    subst hr
    go_enter Try.func67, Try.ntmps67
    go_wp2_with fail
    generalize w.alloc (.cells #[.int .u8 a.what, .int .i64 a.k, .int .i64 a.at_, .int .u16 a.pat, .string a.s] 65) = w0 at *
    refine (HC.out).mono ?_
    rintro e w1 ⟨rfl, b⟩
    have HZ := Lib.hid (b.near hb)
    clear b
    go_wp2_with fail
    go_ret2
    exact ⟨rfl, HZ.out⟩
  · rw [if_neg (by omega)] at hr
    rw [if_neg (by omega)] at hr
    rw [if_neg (by omega)] at hr
    rw [if_pos q] at hr
    have HC := Lib.hid (rdrop_any S B ob st a.k _ h0 hlen)
    clear h h0 ok oka hp X
    generalize dropS st a.k = t at *
    subst hr
    go_enter Try.func67, Try.ntmps67
    go_wp2_with fail
    generalize w.alloc (.cells #[.int .u8 a.what, .int .i64 a.k, .int .i64 a.at_, .int .u16 a.pat, .string a.s] 65) = w0 at *
    refine (HC.out).mono ?_
    rintro e w1 ⟨rfl, b⟩
    have HZ := Lib.hid (b.near hb)
    clear b
    go_wp2_with fail
    go_ret2
    exact ⟨rfl, HZ.out⟩
  · rw [if_neg (by omega)] at hr
    rw [if_neg (by omega)] at hr
    rw [if_neg (by omega)] at hr
    rw [if_neg (by omega)] at hr
    rw [if_pos q] at hr
    have HC := Lib.hid (rtwice_any S B ob st a.k _ h0 hlen)
    clear h h0 ok oka hp X
    generalize twiceS st a.k = t at *
    subst hr
    go_enter Try.func67, Try.ntmps67
    go_wp2_with fail
    generalize w.alloc (.cells #[.int .u8 a.what, .int .i64 a.k, .int .i64 a.at_, .int .u16 a.pat, .string a.s] 65) = w0 at *
    refine (HC.out).mono ?_
    rintro e w1 ⟨rfl, b⟩
    have HZ := Lib.hid (b.near hb)
    clear b
    go_wp2_with fail
    go_ret2
    exact ⟨rfl, HZ.out⟩
  · rw [if_neg (by omega)] at hr
    rw [if_neg (by omega)] at hr
    rw [if_neg (by omega)] at hr
    rw [if_neg (by omega)] at hr
    rw [if_neg (by omega)] at hr
    rw [if_pos q] at hr
    have HC := Lib.hid (rburst_any S B ob st a.k a.at_ a.pat _ h0 ok hp.1 hp.2)
    clear h h0 ok oka hp X
    generalize burstB st a.k a.at_ a.pat = t at *
    subst hr
    go_enter Try.func67, Try.ntmps67
    go_wp2_with fail
    generalize w.alloc (.cells #[.int .u8 a.what, .int .i64 a.k, .int .i64 a.at_, .int .u16 a.pat, .string a.s] 65) = w0 at *
    refine (HC.out).mono ?_
    rintro e w1 ⟨rfl, b⟩
    have HZ := Lib.hid (b.near hb)
    clear b
    go_wp2_with fail
    go_ret2
    exact ⟨rfl, HZ.out⟩
  · rw [if_neg (by omega)] at hr
    rw [if_neg (by omega)] at hr
    rw [if_neg (by omega)] at hr
    rw [if_neg (by omega)] at hr
    rw [if_neg (by omega)] at hr
    rw [if_neg (by omega)] at hr
    have HC := Lib.hid (rcut_any S B ob st a.k a.at_ _ h0 ok)
    clear h h0 ok oka hp X
    generalize cutB st a.k a.at_ = t at *
    subst hr
    go_enter Try.func67, Try.ntmps67
    go_wp2_with fail
    generalize w.alloc (.cells #[.int .u8 a.what, .int .i64 a.k, .int .i64 a.at_, .int .u16 a.pat, .string a.s] 65) = w0 at *
    refine (HC.out).mono ?_
    rintro e w1 ⟨rfl, b⟩
    have HZ := Lib.hid (b.near hb)
    clear b
    go_wp2_with fail
    go_ret2
    exact ⟨rfl, HZ.out⟩
end Go.Proofs.Ytdhfkcodacmbfaa
