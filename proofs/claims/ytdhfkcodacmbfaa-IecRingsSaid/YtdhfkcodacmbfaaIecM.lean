/- The kinds of values (iec): awake, and the walk of the law IecDoes. -/
import Derived.Test.YtdhfkcodacmbfaaIecL
import Derived.Lib.SlBytesConst
set_option linter.unusedVariables false
set_option linter.unusedSimpArgs false
namespace Go.Proofs.Ytdhfkcodacmbfaa
open Go.RowKit

def abc (j : Nat) : Int := if j = 0 then 97 else if j = 1 then 98 else 99
def aS : ByteArray := ⟨#[97, 255, 254]⟩
theorem abc_row (w : World) : Row (w.alloc (.cells #[.int .u8 97, .int .u8 98, .int .u8 99] 5 (3, 4))) w.heap.size 3 (fun j => .int .u8 (abc j)) :=
  ⟨fun j hj => by
    have hc : j = 0 ∨ j = 1 ∨ j = 2 := by omega
    rw [World.cell?_alloc_mark]
    rcases hc with rfl | rfl | rfl <;> rfl, fun j hj => by
    rw [World.frozen?_alloc_mark, decide_eq_false (by omega)]
    rfl⟩
theorem abc_put : strOfNums ((List.range 3).map (putF abc ((1 : Int).toNat + (ksize 3).toNat) (ksize 3).toNat (wrapK 3 (-2)))) = aS := by decide +kernel
theorem abc_do : doK 14 2 127 1 = (-128, 0) := by decide +kernel
theorem abc_get : getK aS 1 3 = -2 := by decide +kernel
set_option maxRecDepth 100000 in
set_option maxHeartbeats 4000000 in
theorem iawake_any (w : World) : Calls Try.prog 68 #[] w fun e w' => e = .returned (.bool true) ∧ Below w.heap.size w w' := by
  have HD := Lib.hid (fun W => do_any 14 2 127 1 W (by decide) (by decide))
  rw [abc_do] at HD
  have HP := Lib.hid (fun g W hR hb hg => put_yes w g 3 3 abc 1 3 (-2) W (by omega) (by decide) (by decide) hR hb hg)
  have HR := Lib.hid (fun (W : World) (g : Nat) (h : Row W g 3 (fun j => .int .u8 (putF abc ((1 : Int).toNat + (ksize 3).toNat) (ksize 3).toNat (wrapK 3 (-2)) j))) => row_string (P := Try.prog) h 54 9 5 Try.underlying54 Try.underlying5 Try.underlying9 3)
  rw [abc_put] at HR
  generalize putF abc ((1 : Int).toNat + (ksize 3).toNat) (ksize 3).toNat (wrapK 3 (-2)) = f at *
  have HG := Lib.hid (fun W => get_yes aS 1 3 W (by decide) (by decide))
  rw [abc_get] at HG
  have HS := Lib.hid (fun W => size_any 4 W)
  rw [show ksize 4 = 4 from rfl] at HS
  have kc := fun (w : World) (C : Array Value) (n c : Nat) => Lib.run_convert_bytes_const (P := Try.prog) w 54 5 C n c Try.underlying54 Try.underlying5
  have hA : aS.toList = [97, 255, 254] := by decide +kernel
  go_enter Try.func68, Try.ntmps68
  go_wp2_with fail
  refine (HD.out _).mono ?_
  rintro e w1 ⟨rfl, b⟩
  go_wp2_with fail
  have hB := abc_row w1
  have hb := b.alloc b.size (.cells #[.int .u8 97, .int .u8 98, .int .u8 99] 5 (3, 4))
  have hg := b.size
  generalize w1.heap.size = g at *
  generalize w1.alloc (.cells #[.int .u8 97, .int .u8 98, .int .u8 99] 5 (3, 4)) = w2 at *
  refine (HP.out _ _ hB hb hg).mono ?_
  rintro e w3 ⟨rfl, hR, hb3⟩
  have hcv := HR.out _ _ hR
  clear hb hB
  go_wp2_with fail
  refine (HG.out _).mono ?_
  rintro e w4 ⟨rfl, b4⟩
  have hb4 := below_lift hb3 b4 hb3.size
  have hcv4 := HR.out _ _ (hR.below b4 (hR.lt (by omega)))
  go_wp2_with fail
  refine (HS.out _).mono ?_
  rintro e w5 ⟨rfl, b5⟩
  have hb5 := below_lift hb4 b5 hb4.size
  go_wp2_with fail
  go_ret
  exact ⟨rfl, hb5⟩
end Go.Proofs.Ytdhfkcodacmbfaa
