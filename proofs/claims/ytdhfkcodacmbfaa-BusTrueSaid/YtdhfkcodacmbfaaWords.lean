/- The words of the program's head, parted once: facts that the closed check of every row asks. No condition. -/
import Derived.Test.YtdhfkcodacmbfaaProg
import Derived.KernelRfl
import GoSem.ClaimJoined
import Derived.JoinedOf
namespace Go.Proofs.Ytdhfkcodacmbfaa
namespace Head
abbrev c (n : Nat) : Char := Char.ofNat n
theorem part (a r : List Char) (h : a.all (fun x => x != c 32) = true) : wordsSigns (a ++ c 32 :: r) = a :: wordsSigns r := by
  induction a with
  | nil => rfl
  | cons x a ih =>
    simp only [List.all_cons, Bool.and_eq_true, bne_iff_ne, ne_eq] at h
    have hx : x ≠ c 32 := h.1
    show wordsSigns (x :: (a ++ c 32 :: r)) = (x :: a) :: wordsSigns r
    rw [wordsSigns]
    · rw [ih (by simpa using h.2)]
    · exact hx
theorem last (a : List Char) (h : a.all (fun x => x != c 32) = true) : wordsSigns a = [a] := by
  induction a with
  | nil => rfl
  | cons x a ih =>
    simp only [List.all_cons, Bool.and_eq_true, bne_iff_ne, ne_eq] at h
    have hx : x ≠ c 32 := h.1
    rw [wordsSigns]
    · rw [ih (by simpa using h.2)]
    · exact hx
def w0 : List Char := [c 104, c 97, c 114, c 110, c 101, c 115, c 115]
def w1 : List Char := [c 57, c 52, c 50, c 57, c 52, c 50, c 55, c 55, c 50, c 55, c 102, c 100, c 99, c 53, c 56, c 98, c 51, c 49, c 53, c 99, c 99, c 97, c 55, c 53, c 98, c 50, c 54, c 102, c 98, c 55, c 97, c 55, c 99, c 98, c 53, c 53, c 54, c 57, c 52, c 101, c 57, c 97, c 49, c 99, c 53, c 97, c 51, c 100, c 100, c 54, c 50, c 51, c 102, c 51, c 57, c 49, c 97, c 49, c 97, c 55, c 56, c 50, c 101, c 57]
def w2 : List Char := [c 99, c 117, c 116]
def w3 : List Char := [c 97, c 116]
def w4 : List Char := [c 102, c 117, c 103, c 108, c 101, c 109, c 97, c 110, c 47, c 102, c 117, c 103, c 108, c 101, c 109, c 97, c 110, c 108, c 97, c 119, c 48, c 49, c 46, c 67, c 114, c 99, c 83, c 117, c 109, c 115]
def w5 : List Char := [c 102, c 117, c 103, c 108, c 101, c 109, c 97, c 110, c 47, c 102, c 117, c 103, c 108, c 101, c 109, c 97, c 110, c 108, c 97, c 119, c 48, c 49, c 46, c 67, c 114, c 99, c 66, c 117, c 114, c 115, c 116, c 115]
def w6 : List Char := [c 102, c 117, c 103, c 108, c 101, c 109, c 97, c 110, c 47, c 102, c 117, c 103, c 108, c 101, c 109, c 97, c 110, c 108, c 97, c 119, c 48, c 49, c 46, c 67, c 114, c 99, c 70, c 108, c 105, c 112, c 115]
def w7 : List Char := [c 102, c 117, c 103, c 108, c 101, c 109, c 97, c 110, c 47, c 102, c 117, c 103, c 108, c 101, c 109, c 97, c 110, c 108, c 97, c 119, c 48, c 50, c 46, c 79, c 99, c 116, c 101, c 116, c 115, c 82, c 101, c 97, c 100, c 115]
def w8 : List Char := [c 102, c 117, c 103, c 108, c 101, c 109, c 97, c 110, c 47, c 102, c 117, c 103, c 108, c 101, c 109, c 97, c 110, c 108, c 97, c 119, c 48, c 50, c 46, c 79, c 99, c 116, c 101, c 116, c 115, c 66, c 97, c 99, c 107]
def w9 : List Char := [c 102, c 117, c 103, c 108, c 101, c 109, c 97, c 110, c 47, c 102, c 117, c 103, c 108, c 101, c 109, c 97, c 110, c 108, c 97, c 119, c 48, c 50, c 46, c 79, c 99, c 116, c 101, c 116, c 115, c 87, c 114, c 105, c 116, c 101, c 115]
def w10 : List Char := [c 102, c 117, c 103, c 108, c 101, c 109, c 97, c 110, c 47, c 102, c 117, c 103, c 108, c 101, c 109, c 97, c 110, c 108, c 97, c 119, c 48, c 49, c 46, c 67, c 114, c 99, c 90, c 101, c 114, c 111, c 115]
def w11 : List Char := [c 102, c 117, c 103, c 108, c 101, c 109, c 97, c 110, c 47, c 102, c 117, c 103, c 108, c 101, c 109, c 97, c 110, c 108, c 97, c 119, c 48, c 57, c 46, c 66, c 117, c 115, c 70, c 117, c 108, c 108]
def w12 : List Char := [c 102, c 117, c 103, c 108, c 101, c 109, c 97, c 110, c 47, c 102, c 117, c 103, c 108, c 101, c 109, c 97, c 110, c 108, c 97, c 119, c 48, c 49, c 46, c 67, c 114, c 99, c 74, c 111, c 105, c 110, c 115]
def w13 : List Char := [c 102, c 117, c 103, c 108, c 101, c 109, c 97, c 110, c 47, c 102, c 117, c 103, c 108, c 101, c 109, c 97, c 110, c 108, c 97, c 119, c 48, c 57, c 46, c 66, c 117, c 115, c 72, c 117, c 114, c 116, c 115]
def w14 : List Char := [c 102, c 117, c 103, c 108, c 101, c 109, c 97, c 110, c 47, c 102, c 117, c 103, c 108, c 101, c 109, c 97, c 110, c 108, c 97, c 119, c 48, c 57, c 46, c 66, c 117, c 115, c 84, c 114, c 117, c 101]
def w15 : List Char := [c 102, c 117, c 103, c 108, c 101, c 109, c 97, c 110, c 47, c 102, c 117, c 103, c 108, c 101, c 109, c 97, c 110, c 108, c 97, c 119, c 48, c 57, c 46, c 66, c 117, c 115, c 82, c 117, c 110, c 115]
def w16 : List Char := [c 102, c 117, c 103, c 108, c 101, c 109, c 97, c 110, c 47, c 102, c 117, c 103, c 108, c 101, c 109, c 97, c 110, c 108, c 97, c 119, c 49, c 49, c 46, c 73, c 101, c 99, c 68, c 111, c 101, c 115]
def w17 : List Char := [c 102, c 117, c 103, c 108, c 101, c 109, c 97, c 110, c 47, c 102, c 117, c 103, c 108, c 101, c 109, c 97, c 110, c 108, c 97, c 119, c 49, c 49, c 46, c 73, c 101, c 99, c 66, c 121, c 116, c 101, c 115]
def w18 : List Char := [c 102, c 117, c 103, c 108, c 101, c 109, c 97, c 110, c 47, c 102, c 117, c 103, c 108, c 101, c 109, c 97, c 110, c 108, c 97, c 119, c 49, c 49, c 46, c 73, c 101, c 99, c 66, c 97, c 99, c 107]
def w19 : List Char := [c 102, c 117, c 103, c 108, c 101, c 109, c 97, c 110, c 47, c 102, c 117, c 103, c 108, c 101, c 109, c 97, c 110, c 108, c 97, c 119, c 49, c 49, c 46, c 73, c 101, c 99, c 82, c 105, c 110, c 103, c 115]
def w20 : List Char := [c 102, c 117, c 103, c 108, c 101, c 109, c 97, c 110, c 47, c 102, c 117, c 103, c 108, c 101, c 109, c 97, c 110, c 108, c 97, c 119, c 49, c 49, c 46, c 73, c 101, c 99, c 76, c 111, c 103, c 105, c 99]
def w21 : List Char := [c 102, c 117, c 103, c 108, c 101, c 109, c 97, c 110, c 47, c 102, c 117, c 103, c 108, c 101, c 109, c 97, c 110, c 108, c 97, c 119, c 49, c 49, c 46, c 73, c 101, c 99, c 75, c 105, c 110, c 100, c 115]
def w22 : List Char := [c 102, c 117, c 103, c 108, c 101, c 109, c 97, c 110, c 47, c 102, c 117, c 103, c 108, c 101, c 109, c 97, c 110, c 108, c 97, c 119, c 49, c 51, c 46, c 67, c 111, c 100, c 101, c 82, c 101, c 97, c 100, c 115]
def w23 : List Char := [c 102, c 117, c 103, c 108, c 101, c 109, c 97, c 110, c 47, c 102, c 117, c 103, c 108, c 101, c 109, c 97, c 110, c 108, c 97, c 119, c 49, c 51, c 46, c 67, c 111, c 100, c 101, c 77, c 97, c 107, c 101, c 115]
def w24 : List Char := [c 102, c 117, c 103, c 108, c 101, c 109, c 97, c 110, c 47, c 102, c 117, c 103, c 108, c 101, c 109, c 97, c 110, c 108, c 97, c 119, c 49, c 51, c 46, c 67, c 111, c 100, c 101, c 72, c 117, c 114, c 116]
theorem f0 : w0.all (fun x => x != c 32) = true := by decide +kernel
theorem f1 : w1.all (fun x => x != c 32) = true := by decide +kernel
theorem f2 : w2.all (fun x => x != c 32) = true := by decide +kernel
theorem f3 : w3.all (fun x => x != c 32) = true := by decide +kernel
theorem f4 : w4.all (fun x => x != c 32) = true := by decide +kernel
theorem f5 : w5.all (fun x => x != c 32) = true := by decide +kernel
theorem f6 : w6.all (fun x => x != c 32) = true := by decide +kernel
theorem f7 : w7.all (fun x => x != c 32) = true := by decide +kernel
theorem f8 : w8.all (fun x => x != c 32) = true := by decide +kernel
theorem f9 : w9.all (fun x => x != c 32) = true := by decide +kernel
theorem f10 : w10.all (fun x => x != c 32) = true := by decide +kernel
theorem f11 : w11.all (fun x => x != c 32) = true := by decide +kernel
theorem f12 : w12.all (fun x => x != c 32) = true := by decide +kernel
theorem f13 : w13.all (fun x => x != c 32) = true := by decide +kernel
theorem f14 : w14.all (fun x => x != c 32) = true := by decide +kernel
theorem f15 : w15.all (fun x => x != c 32) = true := by decide +kernel
theorem f16 : w16.all (fun x => x != c 32) = true := by decide +kernel
theorem f17 : w17.all (fun x => x != c 32) = true := by decide +kernel
theorem f18 : w18.all (fun x => x != c 32) = true := by decide +kernel
theorem f19 : w19.all (fun x => x != c 32) = true := by decide +kernel
theorem f20 : w20.all (fun x => x != c 32) = true := by decide +kernel
theorem f21 : w21.all (fun x => x != c 32) = true := by decide +kernel
theorem f22 : w22.all (fun x => x != c 32) = true := by decide +kernel
theorem f23 : w23.all (fun x => x != c 32) = true := by decide +kernel
theorem f24 : w24.all (fun x => x != c 32) = true := by decide +kernel
def all : List Char := w0 ++ c 32 :: (w1 ++ c 32 :: (w2 ++ c 32 :: (w3 ++ c 32 :: (w4 ++ c 32 :: (w5 ++ c 32 :: (w6 ++ c 32 :: (w7 ++ c 32 :: (w8 ++ c 32 :: (w9 ++ c 32 :: (w10 ++ c 32 :: (w11 ++ c 32 :: (w12 ++ c 32 :: (w13 ++ c 32 :: (w14 ++ c 32 :: (w15 ++ c 32 :: (w16 ++ c 32 :: (w17 ++ c 32 :: (w18 ++ c 32 :: (w19 ++ c 32 :: (w20 ++ c 32 :: (w21 ++ c 32 :: (w22 ++ c 32 :: (w23 ++ c 32 :: (w24))))))))))))))))))))))))
theorem flat : all = [c 104, c 97, c 114, c 110, c 101, c 115, c 115, c 32, c 57, c 52, c 50, c 57, c 52, c 50, c 55, c 55, c 50, c 55, c 102, c 100, c 99, c 53, c 56, c 98, c 51, c 49, c 53, c 99, c 99, c 97, c 55, c 53, c 98, c 50, c 54, c 102, c 98, c 55, c 97, c 55, c 99, c 98, c 53, c 53, c 54, c 57, c 52, c 101, c 57, c 97, c 49, c 99, c 53, c 97, c 51, c 100, c 100, c 54, c 50, c 51, c 102, c 51, c 57, c 49, c 97, c 49, c 97, c 55, c 56, c 50, c 101, c 57, c 32, c 99, c 117, c 116, c 32, c 97, c 116, c 32, c 102, c 117, c 103, c 108, c 101, c 109, c 97, c 110, c 47, c 102, c 117, c 103, c 108, c 101, c 109, c 97, c 110, c 108, c 97, c 119, c 48, c 49, c 46, c 67, c 114, c 99, c 83, c 117, c 109, c 115, c 32, c 102, c 117, c 103, c 108, c 101, c 109, c 97, c 110, c 47, c 102, c 117, c 103, c 108, c 101, c 109, c 97, c 110, c 108, c 97, c 119, c 48, c 49, c 46, c 67, c 114, c 99, c 66, c 117, c 114, c 115, c 116, c 115, c 32, c 102, c 117, c 103, c 108, c 101, c 109, c 97, c 110, c 47, c 102, c 117, c 103, c 108, c 101, c 109, c 97, c 110, c 108, c 97, c 119, c 48, c 49, c 46, c 67, c 114, c 99, c 70, c 108, c 105, c 112, c 115, c 32, c 102, c 117, c 103, c 108, c 101, c 109, c 97, c 110, c 47, c 102, c 117, c 103, c 108, c 101, c 109, c 97, c 110, c 108, c 97, c 119, c 48, c 50, c 46, c 79, c 99, c 116, c 101, c 116, c 115, c 82, c 101, c 97, c 100, c 115, c 32, c 102, c 117, c 103, c 108, c 101, c 109, c 97, c 110, c 47, c 102, c 117, c 103, c 108, c 101, c 109, c 97, c 110, c 108, c 97, c 119, c 48, c 50, c 46, c 79, c 99, c 116, c 101, c 116, c 115, c 66, c 97, c 99, c 107, c 32, c 102, c 117, c 103, c 108, c 101, c 109, c 97, c 110, c 47, c 102, c 117, c 103, c 108, c 101, c 109, c 97, c 110, c 108, c 97, c 119, c 48, c 50, c 46, c 79, c 99, c 116, c 101, c 116, c 115, c 87, c 114, c 105, c 116, c 101, c 115, c 32, c 102, c 117, c 103, c 108, c 101, c 109, c 97, c 110, c 47, c 102, c 117, c 103, c 108, c 101, c 109, c 97, c 110, c 108, c 97, c 119, c 48, c 49, c 46, c 67, c 114, c 99, c 90, c 101, c 114, c 111, c 115, c 32, c 102, c 117, c 103, c 108, c 101, c 109, c 97, c 110, c 47, c 102, c 117, c 103, c 108, c 101, c 109, c 97, c 110, c 108, c 97, c 119, c 48, c 57, c 46, c 66, c 117, c 115, c 70, c 117, c 108, c 108, c 32, c 102, c 117, c 103, c 108, c 101, c 109, c 97, c 110, c 47, c 102, c 117, c 103, c 108, c 101, c 109, c 97, c 110, c 108, c 97, c 119, c 48, c 49, c 46, c 67, c 114, c 99, c 74, c 111, c 105, c 110, c 115, c 32, c 102, c 117, c 103, c 108, c 101, c 109, c 97, c 110, c 47, c 102, c 117, c 103, c 108, c 101, c 109, c 97, c 110, c 108, c 97, c 119, c 48, c 57, c 46, c 66, c 117, c 115, c 72, c 117, c 114, c 116, c 115, c 32, c 102, c 117, c 103, c 108, c 101, c 109, c 97, c 110, c 47, c 102, c 117, c 103, c 108, c 101, c 109, c 97, c 110, c 108, c 97, c 119, c 48, c 57, c 46, c 66, c 117, c 115, c 84, c 114, c 117, c 101, c 32, c 102, c 117, c 103, c 108, c 101, c 109, c 97, c 110, c 47, c 102, c 117, c 103, c 108, c 101, c 109, c 97, c 110, c 108, c 97, c 119, c 48, c 57, c 46, c 66, c 117, c 115, c 82, c 117, c 110, c 115, c 32, c 102, c 117, c 103, c 108, c 101, c 109, c 97, c 110, c 47, c 102, c 117, c 103, c 108, c 101, c 109, c 97, c 110, c 108, c 97, c 119, c 49, c 49, c 46, c 73, c 101, c 99, c 68, c 111, c 101, c 115, c 32, c 102, c 117, c 103, c 108, c 101, c 109, c 97, c 110, c 47, c 102, c 117, c 103, c 108, c 101, c 109, c 97, c 110, c 108, c 97, c 119, c 49, c 49, c 46, c 73, c 101, c 99, c 66, c 121, c 116, c 101, c 115, c 32, c 102, c 117, c 103, c 108, c 101, c 109, c 97, c 110, c 47, c 102, c 117, c 103, c 108, c 101, c 109, c 97, c 110, c 108, c 97, c 119, c 49, c 49, c 46, c 73, c 101, c 99, c 66, c 97, c 99, c 107, c 32, c 102, c 117, c 103, c 108, c 101, c 109, c 97, c 110, c 47, c 102, c 117, c 103, c 108, c 101, c 109, c 97, c 110, c 108, c 97, c 119, c 49, c 49, c 46, c 73, c 101, c 99, c 82, c 105, c 110, c 103, c 115, c 32, c 102, c 117, c 103, c 108, c 101, c 109, c 97, c 110, c 47, c 102, c 117, c 103, c 108, c 101, c 109, c 97, c 110, c 108, c 97, c 119, c 49, c 49, c 46, c 73, c 101, c 99, c 76, c 111, c 103, c 105, c 99, c 32, c 102, c 117, c 103, c 108, c 101, c 109, c 97, c 110, c 47, c 102, c 117, c 103, c 108, c 101, c 109, c 97, c 110, c 108, c 97, c 119, c 49, c 49, c 46, c 73, c 101, c 99, c 75, c 105, c 110, c 100, c 115, c 32, c 102, c 117, c 103, c 108, c 101, c 109, c 97, c 110, c 47, c 102, c 117, c 103, c 108, c 101, c 109, c 97, c 110, c 108, c 97, c 119, c 49, c 51, c 46, c 67, c 111, c 100, c 101, c 82, c 101, c 97, c 100, c 115, c 32, c 102, c 117, c 103, c 108, c 101, c 109, c 97, c 110, c 47, c 102, c 117, c 103, c 108, c 101, c 109, c 97, c 110, c 108, c 97, c 119, c 49, c 51, c 46, c 67, c 111, c 100, c 101, c 77, c 97, c 107, c 101, c 115, c 32, c 102, c 117, c 103, c 108, c 101, c 109, c 97, c 110, c 47, c 102, c 117, c 103, c 108, c 101, c 109, c 97, c 110, c 108, c 97, c 119, c 49, c 51, c 46, c 67, c 111, c 100, c 101, c 72, c 117, c 114, c 116] := by kernel_rfl
set_option maxRecDepth 100000 in
theorem told : Try.prog.initOrder.toList = all := by rw [flat]; exact String.toList_ofList
theorem words : wordsSigns Try.prog.initOrder.toList = [w0, w1, w2, w3, w4, w5, w6, w7, w8, w9, w10, w11, w12, w13, w14, w15, w16, w17, w18, w19, w20, w21, w22, w23, w24] := by
  rw [told]
  unfold all
  rw [part _ _ f0, part _ _ f1, part _ _ f2, part _ _ f3, part _ _ f4, part _ _ f5, part _ _ f6, part _ _ f7, part _ _ f8, part _ _ f9, part _ _ f10, part _ _ f11, part _ _ f12, part _ _ f13, part _ _ f14, part _ _ f15, part _ _ f16, part _ _ f17, part _ _ f18, part _ _ f19, part _ _ f20, part _ _ f21, part _ _ f22, part _ _ f23, last _ f24]
theorem behind : behindMainWord (wordsSigns Try.prog.initOrder.toList) = [w2, w3, w4, w5, w6, w7, w8, w9, w10, w11, w12, w13, w14, w15, w16, w17, w18, w19, w20, w21, w22, w23, w24] := by
  rw [words]; kernel_rfl
theorem strip : stripLifts liftWords [w2, w3, w4, w5, w6, w7, w8, w9, w10, w11, w12, w13, w14, w15, w16, w17, w18, w19, w20, w21, w22, w23, w24] = ([], [w2, w3, w4, w5, w6, w7, w8, w9, w10, w11, w12, w13, w14, w15, w16, w17, w18, w19, w20, w21, w22, w23, w24]) := by kernel_rfl
theorem enters_of (P : Program) (h : behindMainWord (wordsSigns P.initOrder.toList) = [w2, w3, w4, w5, w6, w7, w8, w9, w10, w11, w12, w13, w14, w15, w16, w17, w18, w19, w20, w21, w22, w23, w24]) (hd : P.doorFits [] = true) (h1 : P.laysLater = false) (h2 : P.bearsReflect = false) : P.mayEnter = true := by
  unfold Program.mayEnter; rw [h]; simp only [strip, hd, h1, h2]; kernel_rfl
theorem lifts_of (P : Program) (h : behindMainWord (wordsSigns P.initOrder.toList) = [w2, w3, w4, w5, w6, w7, w8, w9, w10, w11, w12, w13, w14, w15, w16, w17, w18, w19, w20, w21, w22, w23, w24]) : P.liftsFinal = false := by
  unfold Program.liftsFinal Program.headLifts; simp only [h, strip]; kernel_rfl
theorem made_of (P : Program) (h : behindMainWord (wordsSigns P.initOrder.toList) = [w2, w3, w4, w5, w6, w7, w8, w9, w10, w11, w12, w13, w14, w15, w16, w17, w18, w19, w20, w21, w22, w23, w24]) : P.make = some .cut := by
  unfold Program.make; rw [h]; kernel_rfl
theorem enters : Try.prog.mayEnter = true := enters_of _ behind (by kernel_rfl) (by kernel_rfl) (by kernel_rfl)
theorem lifts : Try.prog.liftsFinal = false := lifts_of _ behind
theorem made : Try.prog.make = some .cut := made_of _ behind
end Head
end Go.Proofs.Ytdhfkcodacmbfaa
