/- A world in which one known block has new cells, and new blocks may have come. -/
import Derived.Test.YtdhfkcodacmbfaaBase
set_option linter.unusedVariables false
set_option linter.unusedSimpArgs false
namespace Go.Proofs.Ytdhfkcodacmbfaa
open Go.RowKit

structure Chg (w w' : World) (B : Nat) (cs : Array Value) (t : TypeId) : Prop where
  os : w'.os = w.os
  tape : w'.tape = w.tape
  output : w'.output = w.output
  size : w.heap.size ≤ w'.heap.size
  blk : Blk w' B cs t
  rest : ∀ k, k < w.heap.size → k ≠ B → w'.heap[k]? = w.heap[k]?
theorem Chg.refl {w : World} {B : Nat} {cs : Array Value} {t : TypeId} (h : Blk w B cs t) : Chg w w B cs t := ⟨rfl, rfl, rfl, Nat.le_refl _, h, fun _ _ _ => rfl⟩
theorem Chg.trans {a b c : World} {B : Nat} {cs ds : Array Value} {t u : TypeId} (h : Chg a b B cs t) (k : Chg b c B ds u) : Chg a c B ds u :=
  ⟨k.os.trans h.os, k.tape.trans h.tape, k.output.trans h.output, Nat.le_trans h.size k.size, k.blk, fun i hi hB => (k.rest i (Nat.lt_of_lt_of_le hi h.size) hB).trans (h.rest i hi hB)⟩
theorem Chg.then_below {a b c : World} {B : Nat} {cs : Array Value} {t : TypeId} (h : Chg a b B cs t) (k : Below b.heap.size b c) : Chg a c B cs t :=
  ⟨k.os.trans h.os, k.tape.trans h.tape, k.output.trans h.output, Nat.le_trans h.size k.size, h.blk.keep k, fun i hi hB => (k.block i (Nat.lt_of_lt_of_le hi h.size)).trans (h.rest i hi hB)⟩
theorem Chg.after_below {a b c : World} {B : Nat} {cs : Array Value} {t : TypeId} (h : Below a.heap.size a b) (k : Chg b c B cs t) : Chg a c B cs t :=
  ⟨k.os.trans h.os, k.tape.trans h.tape, k.output.trans h.output, Nat.le_trans h.size k.size, k.blk, fun i hi hB => (k.rest i (Nat.lt_of_lt_of_le hi h.size) hB).trans (h.block i hi)⟩
theorem Chg.drew {a b : World} {B : Nat} {cs : Array Value} {t : TypeId} (h : Chg a b B cs t) : Chg a b.drew B cs t := ⟨h.os, h.tape, h.output, h.size, h.blk.drew, h.rest⟩
theorem Chg.drewN {a b : World} {B : Nat} {cs : Array Value} {t : TypeId} (h : Chg a b B cs t) (n : Nat) : Chg a (b.drewN n) B cs t := ⟨h.os, h.tape, h.output, h.size, h.blk.drewN n, h.rest⟩
theorem Chg.setCell {a b : World} {B : Nat} {cs : Array Value} {t : TypeId} (h : Chg a b B cs t) (k : Nat) (v : Value) : Chg a (b.setCell ⟨B, k, none⟩ v) B (cs.setIfInBounds k v) t :=
  ⟨h.os, h.tape, h.output, by rw [World.size_setCell]; exact h.size, h.blk.setCell k v, fun i hi hB => (Below.heap_setCell b ⟨B, k, none⟩ v i hB).trans (h.rest i hi hB)⟩
theorem Chg.alloc {a b : World} {B : Nat} {cs : Array Value} {t : TypeId} (h : Chg a b B cs t) (o : Obj) : Chg a (b.alloc o) B cs t := h.then_below ((Below.refl _ _).alloc (Nat.le_refl _) o)
/-- Outer memory is as it was, if the block is none of it. -/
theorem Chg.below {S : Nat} {a w w' : World} {B : Nat} {cs : Array Value} {t : TypeId} (h : Chg w w' B cs t) (b : Below S a w) (hS : S ≤ w.heap.size) (hB : S ≤ B) : Below S a w' :=
  ⟨h.os.trans b.os, h.tape.trans b.tape, h.output.trans b.output, Nat.le_trans b.size h.size, fun k hk => (h.rest k (Nat.lt_of_lt_of_le hk hS) (by omega)).trans (b.block k hk)⟩
/-- Another block is as it was. -/
theorem Chg.other {w w' : World} {B C : Nat} {cs ds : Array Value} {t u : TypeId} (h : Chg w w' B cs t) (k : Blk w C ds u) (hC : C ≠ B) : Blk w' C ds u := ⟨(h.rest C k.lt hC).trans k.at_⟩
theorem Chg.cell {w w' : World} {B : Nat} {cs : Array Value} {t : TypeId} (h : Chg w w' B cs t) {a : Addr} {v : Value} (hc : w.cell? a = some v) (ha : a.block ≠ B) : w'.cell? a = some v :=
  (World.cell?_of_block (w := w) (h.rest a.block (World.block_lt_of_cell? w a hc) ha)).trans hc
end Go.Proofs.Ytdhfkcodacmbfaa
