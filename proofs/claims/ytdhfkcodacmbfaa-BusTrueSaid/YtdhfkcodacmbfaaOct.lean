/- The walks of the laws of octets. -/
import Derived.Test.YtdhfkcodacmbfaaEyeR
import Derived.Test.YtdhfkcodacmbfaaPen
set_option linter.unusedVariables false
set_option linter.unusedSimpArgs false
namespace Go.Proofs.Ytdhfkcodacmbfaa
open Go.RowKit

structure Item where
  what : Int
  n : Int
  s : ByteArray
deriving Inhabited
structure Item.ok (x : Item) : Prop where
  w0 : 0 ≤ x.what
  w1 : x.what < 256
  n0 : 0 ≤ x.n
  n1 : x.n < 4294967296
  s1 : x.s.size ≤ 9223372036854775807
structure Items (w : World) (A : Option Addr) (len : Nat) (f : Nat → Item) : Prop where
  has : ∀ i, i < len → ∃ b off, A = some ⟨b, off, none⟩ ∧ w.cell? ⟨b, off + i * 3, none⟩ = some (.int .u8 (f i).what) ∧ w.cell? ⟨b, off + i * 3 + 1, none⟩ = some (.int .u32 (f i).n) ∧ w.cell? ⟨b, off + i * 3 + 2, none⟩ = some (.string (f i).s)
  ok : ∀ i, i < len → (f i).ok
theorem Items.below {w w' : World} {A : Option Addr} {len : Nat} {f : Nat → Item} (h : Items w A len f) (b : Below w.heap.size w w') : Items w' A len f :=
  ⟨fun i hi => by
    obtain ⟨B, off, e, c0, c1, c2⟩ := h.has i hi
    have hl := World.block_lt_of_cell? w _ c0
    exact ⟨B, off, e, (b.cell (p := ⟨B, off + i * 3, none⟩) hl).trans c0, (b.cell (p := ⟨B, off + i * 3 + 1, none⟩) hl).trans c1, (b.cell (p := ⟨B, off + i * 3 + 2, none⟩) hl).trans c2⟩, h.ok⟩
def smallI (len : Nat) (f : Nat → Item) : Prop := len ≤ 60 ∧ ∀ i, i < len → (f i).s.size ≤ 300
set_option maxRecDepth 100000 in
theorem small_yes (A : Option Addr) (len cap : Nat) (f : Nat → Item) (w : World) (hI : Items w A len f) (h : smallI len f) :
    Calls Try.prog 47 #[.slice A len cap] w fun e w' => e = .returned (.bool true) ∧ Below w.heap.size w w' := by
  have h60 := h.1
  have HS := Lib.hid h.2
  clear h
  go_enter Try.func47, Try.ntmps47
  go_wp2
  go_loopw [4, 10] (fun _ v wr => ∃ k : Nat, k ≤ len ∧ v = .int .i64 k ∧ Below w.heap.size w wr) (fun _ v _ => len - (intOf v).toNat)
  case atStart => exact ⟨0, by omega, rfl, Below.refl _ _⟩
  case round =>
    obtain ⟨k, hk, rfl, hb⟩ := hrel
    by_cases hlt : k < len
    · obtain ⟨b, off, rfl, c0, c1, c2⟩ := (hI.below hb).has k hlt
      have h3 := HS.out k hlt
      go_wp2
      go_roundw
      case rel => exact ⟨k + 1, by omega, by go_num, hb.alloc hb.size _⟩
      case measure => simp [intOf]; omega
    · go_wp2
      go_ret
      exact ⟨rfl, hb⟩
set_option maxRecDepth 100000 in
theorem small_no (A : Option Addr) (len cap : Nat) (f : Nat → Item) (w : World) (hI : Items w A len f) (hl : len ≤ 9223372036854775807) (h : ¬ smallI len f) :
    Calls Try.prog 47 #[.slice A len cap] w fun e w' => e = .returned (.bool false) ∧ Below w.heap.size w w' := by
  have HN := Lib.hid h
  clear h
  by_cases h60 : len ≤ 60
  · go_enter Try.func47, Try.ntmps47
    go_wp2
    go_loopw [4, 10] (fun _ v wr => ∃ k : Nat, k ≤ len ∧ v = .int .i64 k ∧ (∀ i, i < k → (f i).s.size ≤ 300) ∧ Below w.heap.size w wr) (fun _ v _ => len - (intOf v).toNat)
    case atStart => exact ⟨0, by omega, rfl, by omega, Below.refl _ _⟩
    case round =>
      obtain ⟨k, hk, rfl, hall, hb⟩ := hrel
      have HA := Lib.hid hall
      clear hall
      by_cases hlt : k < len
      · obtain ⟨b, off, rfl, c0, c1, c2⟩ := (hI.below hb).has k hlt
        have hsz := (hI.ok k hlt).s1
        by_cases h3 : (f k).s.size ≤ 300
        · go_wp2
          go_roundw
          case rel => exact ⟨k + 1, by omega, by go_num, (fun i hi => by
            by_cases e : i = k
            · rw [e]; exact h3
            · exact HA.out i (by omega)), hb.alloc hb.size _⟩
          case measure => simp [intOf]; omega
        · have h3' : 300 < (f k).s.size := by omega
          go_wp2
          go_ret
          exact ⟨rfl, hb.alloc hb.size _⟩
      · exact absurd ⟨h60, fun i hi => HA.out i (by omega)⟩ HN.out
  · have h60' : 60 < len := by omega
    go_enter Try.func47, Try.ntmps47
    go_wp2
    go_ret
    exact ⟨rfl, Below.refl _ _⟩

/-! ### the reference's numbers as bytes -/
/-- So many bytes of a number, the highest first. -/
def bytesN (n : Nat) : Nat → List Int
  | 0 => []
  | k + 1 => bytesN (n / 256) k ++ [((n % 256 : Nat) : Int)]
theorem bytesN_length (k : Nat) : ∀ n, (bytesN n k).length = k := by
  induction k with
  | zero => intro n; rfl
  | succ k ih => intro n; simp [bytesN, ih]
theorem strOfNums_append (a b : List Int) : strOfNums a ++ strOfNums b = strOfNums (a ++ b) := by
  apply ByteArray.ext
  rw [ByteArray.data_append]
  simp [strOfNums]
theorem run_one_byte {P : Program} (W : World) (src dst e : TypeId) (hs : P.underlying src = some (.slice e)) (he : P.underlying e = some (.int .u8)) (hd : P.underlying dst = some .string) (a : Int) :
    (convert src dst (.slice (some ⟨W.heap.size, 0, none⟩) 1 1)).run P (W.alloc (.cells #[.int .u8 a] e)) = .ok (.string (strOfNums [a])) (W.alloc (.cells #[.int .u8 a] e)) :=
  run_convert_bytes_arg _ src e hs he W.heap.size 0 1 1 [a] rfl (fun i hi => by
    obtain rfl : i = 0 := by omega
    simp [-World.alloc_eq]) dst hd
theorem one_size (a : Int) : (strOfNums [a]).size = 1 := by simp [strOfNums_size]
set_option maxRecDepth 100000 in
theorem bytes_any (n count : Nat) (w : World) (hn : n < 4294967296) (hc : count ≤ 4) :
    Calls Try.prog 104 #[.int .u32 n, .int .i64 count] w fun e w' => e = .returned (.string (strOfNums (bytesN n count))) ∧ Below w.heap.size w w' := by
  have hcv := fun W a => run_one_byte (P := Try.prog) W 54 9 5 Try.underlying54 Try.underlying5 Try.underlying9 a
  have hsz := one_size
  go_enter Try.func104, Try.ntmps104
  go_wp2
  go_loopw [0, 5, 6] (fun x s v wr => ∃ (k m : Nat) (t : List Int), k ≤ count ∧ v = .int .i64 k ∧ m < 4294967296 ∧ x = .int .u32 m ∧ s = .string (strOfNums t) ∧ t.length = k ∧ bytesN n count = bytesN m (count - k) ++ t ∧ Below w.heap.size w wr) (fun _ _ v _ => count - (intOf v).toNat)
  case atStart => exact ⟨0, n, [], by omega, rfl, hn, rfl, rfl, rfl, by simp, Below.refl _ _⟩
  case round =>
    obtain ⟨k, m, t, hk, rfl, hm, rfl, rfl, ht, he, hb⟩ := hrel
    have HE := Lib.hid he
    have HT := Lib.hid ht
    have hts : (strOfNums t).size ≤ 4 := by rw [strOfNums_size]; omega
    clear he ht
    by_cases hlt : k < count
    · go_wp2
      go_roundw
      case rel =>
        refine ⟨k + 1, m / 256, ((m % 256 : Nat) : Int) :: t, by omega, by go_num, by omega, val_int (by omega), ?_, by simp [HT.out], ?_, hb.alloc hb.size _⟩
        · rw [strOfNums_append]; rfl
        · rw [HE.out, show count - k = (count - (k + 1)) + 1 by omega, bytesN, List.append_assoc]; rfl
      case measure => simp [intOf]; omega
    · go_wp2
      go_ret
      exact ⟨by rw [HE.out, show count - k = 0 by omega]; rfl, hb⟩

theorem bytesN_1 (n : Int) (h0 : 0 ≤ n) : bytesN n.toNat 1 = [n % 256] := by
  simp [bytesN]; omega
theorem bytesN_2 (n : Int) (h0 : 0 ≤ n) (h1 : n < 65536) : bytesN n.toNat 2 = [n / 256, n % 256] := by
  simp [bytesN]; omega
theorem bytesN_4 (n : Int) (h0 : 0 ≤ n) (h1 : n < 4294967296) : bytesN n.toNat 4 = [n / 16777216, n / 65536 % 256, n / 256 % 256, n % 256] := by
  simp [bytesN]; omega
theorem bytes1_any (n : Int) (w : World) (h0 : 0 ≤ n) (h1 : n < 4294967296) :
    Calls Try.prog 104 #[.int .u32 n, .int .i64 1] w fun e w' => e = .returned (.string (strOfNums [n % 256])) ∧ Below w.heap.size w w' := by
  have h := bytes_any n.toNat 1 w (by omega) (by omega)
  rw [bytesN_1 n h0, show ((n.toNat : Nat) : Int) = n by omega] at h
  exact h
theorem bytes2_any (n : Int) (w : World) (h0 : 0 ≤ n) (h1 : n < 65536) :
    Calls Try.prog 104 #[.int .u32 n, .int .i64 2] w fun e w' => e = .returned (.string (strOfNums [n / 256, n % 256])) ∧ Below w.heap.size w w' := by
  have h := bytes_any n.toNat 2 w (by omega) (by omega)
  rw [bytesN_2 n h0 h1, show ((n.toNat : Nat) : Int) = n by omega] at h
  exact h
theorem bytes4_any (n : Int) (w : World) (h0 : 0 ≤ n) (h1 : n < 4294967296) :
    Calls Try.prog 104 #[.int .u32 n, .int .i64 4] w fun e w' => e = .returned (.string (strOfNums [n / 16777216, n / 65536 % 256, n / 256 % 256, n % 256])) ∧ Below w.heap.size w w' := by
  have h := bytes_any n.toNat 4 w (by omega) (by omega)
  rw [bytesN_4 n h0 h1, show ((n.toNat : Nat) : Int) = n by omega] at h
  exact h
theorem val_string {a b : ByteArray} (h : a = b) : Value.string a = .string b := by rw [h]
/-! ### what is written -/
def Item.enc (x : Item) : List Int :=
  if x.what % 5 = 0 then [x.n % 256] else if x.what % 5 = 1 then [x.n % 65536 / 256, x.n % 256] else if x.what % 5 = 2 then [x.n / 16777216, x.n / 65536 % 256, x.n / 256 % 256, x.n % 256]
  else if x.what % 5 = 3 then bytesI x.s else if x.s.size ≤ 255 then (x.s.size : Int) :: bytesI x.s else []
def encAll (f : Nat → Item) : Nat → List Int
  | 0 => []
  | k + 1 => encAll f k ++ (f k).enc
theorem enc_length (x : Item) (h : x.s.size ≤ 300) : x.enc.length ≤ 301 := by
  unfold Item.enc
  repeat' split
  all_goals simp [bytesI_length]
  all_goals omega
theorem encAll_length (f : Nat → Item) (k : Nat) (h : ∀ i, i < k → (f i).s.size ≤ 300) : (encAll f k).length ≤ 301 * k := by
  induction k with
  | zero => simp [encAll]
  | succ k ih =>
    have h1 := ih (fun i hi => h i (by omega))
    have h2 := enc_length (f k) (h k (by omega))
    rw [encAll, List.length_append]
    omega
theorem text_bytesI (s : ByteArray) : strOfNums (bytesI s) = s := by
  apply ByteArray.ext
  apply Array.ext'
  rw [strOfNums_data, bytesI, List.map_map]
  have : ((fun n : Int => UInt8.ofNat n.toNat) ∘ fun c : UInt8 => (c.toNat : Int)) = id := by
    funext c
    simp
  rw [this, List.map_id]
theorem enc0 {x : Item} (h : x.what % 5 = 0) : x.enc = [x.n % 256] := by unfold Item.enc; rw [if_pos h]
theorem enc1 {x : Item} (h : x.what % 5 = 1) : x.enc = [x.n % 65536 / 256, x.n % 256] := by unfold Item.enc; rw [if_neg (by omega), if_pos h]
theorem enc2 {x : Item} (h : x.what % 5 = 2) : x.enc = [x.n / 16777216, x.n / 65536 % 256, x.n / 256 % 256, x.n % 256] := by unfold Item.enc; rw [if_neg (by omega), if_neg (by omega), if_pos h]
theorem enc3 {x : Item} (h : x.what % 5 = 3) : x.enc = bytesI x.s := by unfold Item.enc; rw [if_neg (by omega), if_neg (by omega), if_neg (by omega), if_pos h]
theorem enc4 {x : Item} (h : x.what % 5 = 4) (hs : x.s.size ≤ 255) : x.enc = (x.s.size : Int) :: bytesI x.s := by unfold Item.enc; rw [if_neg (by omega), if_neg (by omega), if_neg (by omega), if_neg (by omega), if_pos hs]
theorem enc4' {x : Item} (h : x.what % 5 = 4) (hs : ¬ x.s.size ≤ 255) : x.enc = [] := by unfold Item.enc; rw [if_neg (by omega), if_neg (by omega), if_neg (by omega), if_neg (by omega), if_neg hs]

set_option maxRecDepth 100000 in
set_option maxHeartbeats 2000000 in
theorem write_any (W0 : World) (A : Option Addr) (len cap : Nat) (f : Nat → Item) (B : Nat) (w : World) (hI : Items W0 A len f) (hs : smallI len f) (hbw : Below W0.heap.size W0 w) (ob : Option Nat) (hP : Pen w W0.heap.size B ob []) :
    Calls Try.prog 49 #[.pointer (some ⟨B, 0, none⟩), .slice A len cap] w fun e w' => e = .returned (.tuple #[.string (strOfNums (encAll f len)), .bool true]) ∧ (∃ ob', Pen w' W0.heap.size B ob' (encAll f len)) ∧ Below W0.heap.size W0 w' := by
  have h60 := hs.1
  have HS := Lib.hid hs.2
  clear hs
  go_enter Try.func49, Try.ntmps49
  go_wp2
  go_loopw [6, 8, 9, 12] (fun q _ _ v wr => ∃ (k : Nat) (ob1 : Option Nat), k ≤ len ∧ v = .int .i64 k ∧ q = .string (strOfNums (encAll f k)) ∧ Pen wr W0.heap.size B ob1 (encAll f k) ∧ Below W0.heap.size W0 wr) (fun _ _ _ v _ => len - (intOf v).toNat)
  case atStart => exact ⟨0, ob, by omega, rfl, rfl, hP, hbw⟩
  case round =>
    clear hP hbw
    obtain ⟨k, ob1, hk, rfl, rfl, hP, hb⟩ := hrel
    by_cases hlt : k < len
    · obtain ⟨b, off, rfl, c0, c1, c2⟩ := (hI.below hb).has k hlt
      have hok := hI.ok k hlt
      have hs3 := HS.out k hlt
      have hEl := encAll_length f k (fun i hi => HS.out i (by omega))
      have hsz : (strOfNums (encAll f k)).size ≤ 20000 := by rw [strOfNums_size]; omega
      have hEl2 : (encAll f k).length ≤ 20000 := by omega
      have HX := Lib.hid (show encAll f (k + 1) = encAll f k ++ (f k).enc from rfl)
      have hBl := hP.lt
      have hrow := hP.row
      have hw0 := hok.w0
      have hw1 := hok.w1
      have hn0 := hok.n0
      have hn1 := hok.n1
      have hX := Blk.new wr #[Value.int .u8 (f k).what, .int .u32 (f k).n, .string (f k).s] 40
      have hP1 := hP.below ((Below.refl _ _).alloc (Nat.le_refl _) (.cells #[Value.int .u8 (f k).what, .int .u32 (f k).n, .string (f k).s] 40))
      have hb1 := hb.alloc hb.size (.cells #[Value.int .u8 (f k).what, .int .u32 (f k).n, .string (f k).s] 40)
      have hXB : wr.heap.size ≠ B := by omega
      have hXo : some wr.heap.size ≠ ob1 := by intro e; have := hrow _ e.symm; omega
      have hPS := hP.base
      clear hEl hok hI HS hP hb
      have hc5 : (f k).what % 5 = 0 ∨ (f k).what % 5 = 1 ∨ (f k).what % 5 = 2 ∨ (f k).what % 5 = 3 ∨ (f k).what % 5 = 4 := by omega
      generalize f k = x at *
      rcases hc5 with hc | hc | hc | hc | hc
      · have HE := Lib.hid (enc0 hc)
        have HB := Lib.hid (fun W (h : Pen W W0.heap.size B ob1 (encAll f k)) => pbyte_any W0.heap.size B ob1 (encAll f k) (x.n % 256) W h (by omega))
        have hsz2 : ∀ a, (strOfNums [a]).size = 1 := one_size
        go_wp2_with fail
        refine (HB.out _ hP1).mono ?_
        rintro e w2 ⟨rfl, ⟨ob2, hP2, near⟩, kept⟩
        have hX2 := kept.blk hX hXB hXo
        have d1 := hX2.cell (j := 1) (v := .int .u32 x.n) rfl
        have hb2 := kept.below hb1 (by have := hb1.size; omega) hPS (fun g e => (hrow g e).1)
        clear kept hX hP1 hb1 near
        go_wp2_with fail
        refine (bytes1_any (x.n % 256) _ (by omega) (by omega)).mono ?_
        rintro e w3 ⟨rfl, b3⟩
        have hP3 := hP2.below b3
        have hb3 := below_lift hb2 b3 hb2.size
        clear b3 hP2 hb2 hX2 d1
        go_wp2_with fail
        go_roundw
        case rel => exact ⟨k + 1, ob2, by omega, by go_num, by rw [HX.out, HE.out, strOfNums_append], by rw [HX.out, HE.out]; exact hP3, hb3⟩
        case measure => simp [intOf]; omega
      · have HE := Lib.hid (enc1 hc)
        have HB := Lib.hid (fun W (h : Pen W W0.heap.size B ob1 (encAll f k)) => by
          have q := ptwo_any W0.heap.size B ob1 (encAll f k) (x.n % 65536) W h (by omega) (by omega) (by omega)
          rwa [show x.n % 65536 % 256 = x.n % 256 by omega] at q)
        have hsz2 : ∀ a b, (strOfNums [a, b]).size = 2 := fun a b => by rw [strOfNums_size]; rfl
        go_wp2_with fail
        refine (HB.out _ hP1).mono ?_
        rintro e w2 ⟨rfl, ⟨ob2, hP2, near⟩, kept⟩
        have hX2 := kept.blk hX hXB hXo
        have d1 := hX2.cell (j := 1) (v := .int .u32 x.n) rfl
        have hb2 := kept.below hb1 (by have := hb1.size; omega) hPS (fun g e => (hrow g e).1)
        clear kept hX hP1 hb1 near
        go_wp2_with fail
        refine (bytes2_any (x.n % 65536) _ (by omega) (by omega)).mono ?_
        rintro e w3 ⟨rfl, b3⟩
        have hP3 := hP2.below b3
        have hb3 := below_lift hb2 b3 hb2.size
        clear b3 hP2 hb2 hX2 d1
        go_wp2_with fail
        go_roundw
        case rel => exact ⟨k + 1, ob2, by omega, by go_num, by rw [HX.out, HE.out, strOfNums_append], by rw [HX.out, HE.out]; exact hP3, hb3⟩
        case measure => simp [intOf]; omega
      · have HE := Lib.hid (enc2 hc)
        have HB := Lib.hid (fun W (h : Pen W W0.heap.size B ob1 (encAll f k)) => pfour_any W0.heap.size B ob1 (encAll f k) x.n W h (by omega) (by omega) (by omega))
        have hsz2 : ∀ a b c d, (strOfNums [a, b, c, d]).size = 4 := fun a b c d => by rw [strOfNums_size]; rfl
        go_wp2_with fail
        refine (HB.out _ hP1).mono ?_
        rintro e w2 ⟨rfl, ⟨ob2, hP2, near⟩, kept⟩
        have hX2 := kept.blk hX hXB hXo
        have d1 := hX2.cell (j := 1) (v := .int .u32 x.n) rfl
        have hb2 := kept.below hb1 (by have := hb1.size; omega) hPS (fun g e => (hrow g e).1)
        clear kept hX hP1 hb1 near
        go_wp2_with fail
        refine (bytes4_any x.n _ (by omega) (by omega)).mono ?_
        rintro e w3 ⟨rfl, b3⟩
        have hP3 := hP2.below b3
        have hb3 := below_lift hb2 b3 hb2.size
        clear b3 hP2 hb2 hX2 d1
        go_wp2_with fail
        go_roundw
        case rel => exact ⟨k + 1, ob2, by omega, by go_num, by rw [HX.out, HE.out, strOfNums_append], by rw [HX.out, HE.out]; exact hP3, hb3⟩
        case measure => simp [intOf]; omega
      · have HE := Lib.hid (enc3 hc)
        have HB := Lib.hid (fun W (h : Pen W W0.heap.size B ob1 (encAll f k)) => ptext_any W0.heap.size B ob1 (encAll f k) x.s W h (by omega) (by omega))
        go_wp2_with fail
        refine (HB.out _ hP1).mono ?_
        rintro e w2 ⟨rfl, ⟨ob2, hP2⟩, kept⟩
        have hX2 := kept.blk hX hXB hXo
        have d1 := hX2.cell (j := 2) (v := .string x.s) rfl
        have hb2 := kept.below hb1 (by have := hb1.size; omega) hPS (fun g e => (hrow g e).1)
        clear kept hX hP1 hb1
        go_wp2_with fail
        go_roundw
        case rel => exact ⟨k + 1, ob2, by omega, by go_num, by rw [HX.out, HE.out, ← strOfNums_append, text_bytesI], by rw [HX.out, HE.out]; exact hP2, hb2⟩
        case measure => simp [intOf]; omega
      · by_cases h255 : x.s.size ≤ 255
        · have HE := Lib.hid (enc4 hc h255)
          have HB := Lib.hid (fun W (h : Pen W W0.heap.size B ob1 (encAll f k)) => psmall_yes W0.heap.size B ob1 (encAll f k) x.s W h (by omega) h255)
          have hsz2 : ∀ a, (strOfNums [a]).size = 1 := one_size
          have HY := Lib.hid (fun W => bytes1_any (x.s.size : Int) W (by omega) (by omega))
          go_wp2_with fail
          refine (HB.out _ hP1).mono ?_
          rintro e w2 ⟨rfl, ⟨ob2, hP2⟩, kept⟩
          have hX2 := kept.blk hX hXB hXo
          have d1 := hX2.cell (j := 2) (v := .string x.s) rfl
          have hb2 := kept.below hb1 (by have := hb1.size; omega) hPS (fun g e => (hrow g e).1)
          clear kept hX hP1 hb1
          have e255 : (x.s.size : Int) % 256 = x.s.size := by omega
          rw [e255] at HY
          clear e255
          have hd : decide ((x.s.size : Int) ≤ 255) = true := decide_eq_true (by omega)
          go_wp2_with fail
          have hw32 : IntKind.u32.wrap (x.s.size : Int) = x.s.size := by rw [IntKind.wrap_u32]; omega
          go_region_with (first | (go_at_call 104; refine (HY.out _).mono ?_; rintro e w3 ⟨rfl, b3⟩; have d2 := (hX2.drew.keep b3).cell (j := 2) (v := .string x.s) rfl))
          all_goals
            have hP3 := (hP2.keep (w' := w2.drew) (fun _ _ _ => rfl)).below b3
            have hb3 := below_lift hb2.drew b3 hb2.size
            clear hP2 hb2 b3
            go_wp2_with fail
            go_roundw
            case rel => exact ⟨k + 1, ob2, by omega, by go_num, val_string (by rw [HX.out, HE.out, ← strOfNums_append, show ((x.s.size : Int) :: bytesI x.s) = [(x.s.size : Int)] ++ bytesI x.s from rfl, ← strOfNums_append, text_bytesI]), by rw [HX.out, HE.out]; exact hP3, hb3⟩
            case measure => simp [intOf]; omega
        · have HE := Lib.hid (enc4' hc h255)
          have h256 : 255 < x.s.size := by omega
          have HB := Lib.hid (fun W => psmall_no W0.heap.size B x.s W h256 (by omega))
          have hd : decide ((x.s.size : Int) ≤ 255) = false := decide_eq_false (by omega)
          clear h255
          go_wp2_with fail
          refine (HB.out _).mono ?_
          rintro e w2 ⟨rfl, rfl⟩
          go_wp2_with fail
          go_roundw
          case rel => exact ⟨k + 1, ob1, by omega, by go_num, val_string (by rw [HX.out, HE.out, List.append_nil]), by rw [HX.out, HE.out, List.append_nil]; exact hP1, hb1⟩
          case measure => simp [intOf]; omega
    · go_wp2
      obtain rfl : k = len := by omega
      go_ret2
      exact ⟨rfl, ⟨ob1, hP⟩, hb⟩
end Go.Proofs.Ytdhfkcodacmbfaa
