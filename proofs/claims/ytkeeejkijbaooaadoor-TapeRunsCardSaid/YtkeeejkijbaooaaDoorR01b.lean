/-
  Contracts of keyholeref01's word, Cut, Told, Join.
-/
import Derived.Test.YtkeeejkijbaooaaDoorR01
import Derived.Test.YtkeeejkijbaooaaDoorOwn
namespace Go.Proofs.YtkeeejkijbaooaaDoor
open Go.RowKit
set_option linter.unusedVariables false
set_option maxRecDepth 100000
set_option maxHeartbeats 600000

theorem or_step (A b k : Nat) (hb : b < 256) : A <<< (k + 8) ||| b <<< k = (A * 256 + b) <<< k := by
  have h : A <<< 8 + b = A <<< 8 ||| b := Nat.shiftLeft_add_eq_or_of_lt (show b < 2 ^ 8 from hb) A
  rw [Nat.add_comm k 8, Nat.shiftLeft_add, ← Nat.shiftLeft_or_distrib, ← h, Nat.shiftLeft_eq A 8]
theorem or_turn (x y z t : Nat) : x ||| y ||| z ||| t = t ||| z ||| y ||| x := by
  rw [Nat.or_comm (x ||| y ||| z) t, Nat.or_comm (x ||| y) z, Nat.or_comm x y, ← Nat.or_assoc, ← Nat.or_assoc]
/-- A word of four bytes, k of them done. -/
def wordN (s : List UInt8) (a : Nat) (high : Bool) : Nat → Nat
  | 0 => 0
  | i + 1 => 256 * wordN s a high i + (s.getD (if high then a + i else a + 3 - i) 0).toNat
theorem wordN_lt (s : List UInt8) (a : Nat) (high : Bool) : ∀ i, wordN s a high i < 256 ^ i
  | 0 => by simp [wordN]
  | i + 1 => by
    have h := wordN_lt s a high i
    have hb := (s.getD (if high then a + i else a + 3 - i) 0).toNat_lt
    rw [wordN, Nat.pow_succ]
    omega
theorem cutAcc_zero (s : List UInt8) (high : Bool) (j : Nat) : ∀ i, i ≤ 4 * j → cutAcc s high i j = 0
  | 0, _ => rfl
  | i + 1, h => by rw [cutAcc, if_neg (by omega), cutAcc_zero s high j i (by omega)]
theorem cutAcc_skip (s : List UInt8) (high : Bool) (j : Nat) : ∀ d, cutAcc s high (4 * j + 4 + d) j = cutAcc s high (4 * j + 4) j
  | 0 => rfl
  | d + 1 => by rw [← Nat.add_assoc, cutAcc, if_neg (by omega), cutAcc_skip s high j d]
theorem cutAcc_word (s : List UInt8) (high : Bool) (j : Nat) (h : 4 * j + 4 ≤ s.length) : cutAcc s high s.length j = wordN s (4 * j) high 4 := by
  obtain ⟨d, hd⟩ : ∃ d, s.length = 4 * j + 4 + d := ⟨s.length - (4 * j + 4), by omega⟩
  rw [hd, cutAcc_skip]
  have z := cutAcc_zero s high j (4 * j) (Nat.le_refl _)
  have b0 := (s.getD (4 * j) 0).toNat_lt
  have b1 := (s.getD (4 * j + 1) 0).toNat_lt
  have b2 := (s.getD (4 * j + 2) 0).toNat_lt
  have b3 := (s.getD (4 * j + 3) 0).toNat_lt
  rw [cutAcc, if_pos (by omega), cutAcc, if_pos (by omega), cutAcc, if_pos (by omega), cutAcc, if_pos (by omega), z, Nat.zero_or]
  rw [show (4 * j + 3) % 4 = 3 by omega, show (4 * j + 2) % 4 = 2 by omega, show (4 * j + 1) % 4 = 1 by omega, show 4 * j % 4 = 0 by omega]
  cases high with
  | true =>
    simp only [placeI, wordN, if_true, Nat.add_zero]
    generalize (s.getD (4 * j) 0).toNat = x0 at b0
    generalize (s.getD (4 * j + 1) 0).toNat = x1 at b1
    generalize (s.getD (4 * j + 2) 0).toNat = x2 at b2
    generalize (s.getD (4 * j + 3) 0).toNat = x3 at b3
    have e1 := or_step x0 x1 16 b1
    have e2 := or_step (x0 * 256 + x1) x2 8 b2
    have e3 := or_step ((x0 * 256 + x1) * 256 + x2) x3 0 b3
    simp only [Nat.reduceAdd, Nat.reduceMul, Nat.reduceSub, Nat.zero_add] at e1 e2 e3 ⊢
    rw [e1, e2, e3, Nat.shiftLeft_zero]
    omega
  | false =>
    simp only [placeI, wordN, Bool.false_eq_true, if_false]
    simp only [show 4 * j + 3 - 0 = 4 * j + 3 by omega, show 4 * j + 3 - 1 = 4 * j + 2 by omega, show 4 * j + 3 - 2 = 4 * j + 1 by omega, show 4 * j + 3 - 3 = 4 * j by omega]
    generalize (s.getD (4 * j) 0).toNat = x0 at b0
    generalize (s.getD (4 * j + 1) 0).toNat = x1 at b1
    generalize (s.getD (4 * j + 2) 0).toNat = x2 at b2
    generalize (s.getD (4 * j + 3) 0).toNat = x3 at b3
    rw [or_turn]
    have e1 := or_step x3 x2 16 b2
    have e2 := or_step (x3 * 256 + x2) x1 8 b1
    have e3 := or_step ((x3 * 256 + x2) * 256 + x1) x0 0 b0
    simp only [Nat.reduceAdd, Nat.reduceMul, Nat.zero_add, Nat.mul_zero] at e1 e2 e3 ⊢
    rw [e1, e2, e3, Nat.shiftLeft_zero]
    omega
theorem str1_at (s : ByteArray) (k : Nat) (h : k < s.size) : s[k] = s.data.toList.getD k 0 := by
  have h2 : k < s.data.size := h
  rw [ByteArray.getElem_eq_getElem_data, List.getD_eq_getElem?_getD, Array.getElem?_toList, Array.getElem?_eq_getElem h2]
  rfl
theorem wrap64_b (x : UInt8) : wrap64 (x.toNat : Int) = (x.toNat : Int) := by
  have := x.toNat_lt
  exact IntWalk.wrap64_in _ ⟨by omega, by omega⟩
theorem word1 (s : ByteArray) (a : Nat) (high : Bool) (w : World) (h : a + 4 ≤ s.size) (hs : s.size ≤ 1000000000) :
    Calls Tryd.prog 121 #[.string s, .int .i64 (a : Int), .bool high] w fun e w' => e = .returned (.int .i64 ((wordN s.data.toList a high 4 : Nat) : Int)) ∧ w' = w := by
  cases high with
  | true =>
    go_enter Tryd.func121, Tryd.ntmps121
    go_wp2_with fail
    go_loop [7, 8] (fun v i => ∃ k : Nat, k ≤ 4 ∧ i = .int .i64 k ∧ v = .int .i64 (wordN s.data.toList a true k : Nat)) (fun _ i => 4 - (intOf i).toNat)
    case atStart => exact ⟨0, by omega, rfl, rfl⟩
    case round =>
      obtain ⟨k, hk, rfl, rfl⟩ := hrel
      by_cases hlt : k < 4
      · have hv := wordN_lt s.data.toList a true k
        have hp : 256 ^ k ≤ 256 ^ 4 := Nat.pow_le_pow_right (by omega) hk
        have Hs := Lib.hid (show wordN s.data.toList a true (k + 1) = 256 * wordN s.data.toList a true k + (s.data.toList.getD (a + k) 0).toNat from rfl)
        obtain ⟨P, hP⟩ : ∃ P, P = a + k := ⟨_, rfl⟩
        have hPe : (a : Int) + (k : Int) = (P : Int) := by omega
        have hPs : (P : Int) < (s.size : Int) := by omega
        have hPn : P < s.size := by omega
        have Hx := Lib.hid (str1_at s P hPn)
        rw [← hP] at Hs
        have hyl := (s.data.toList.getD P 0).toNat_lt
        generalize wordN s.data.toList a true k = v at hv Hs
        clear hP
        have hv2 : v < 4294967296 := by omega
        clear hv hp
        go_wp2_with fail
        rw [Hx.out, wrap64_b]
        generalize s.data.toList.getD P 0 = y at Hs hyl
        rw [IntWalk.wrap64_in (256 * (v : Int) + (y.toNat : Int)) ⟨by omega, by omega⟩]
        go_wp2_with fail
        go_round
        case rel => exact ⟨k + 1, by omega, by go_num, by rw [Hs.out]; go_num⟩
        case measure => simp [intOf]; omega
      · obtain rfl : k = 4 := by omega
        go_wp2_with fail
        go_ret
        exact ⟨rfl, rfl⟩
  | false =>
    go_enter Tryd.func121, Tryd.ntmps121
    go_wp2_with fail
    go_loop [7, 8] (fun v i => ∃ k : Nat, k ≤ 4 ∧ i = .int .i64 k ∧ v = .int .i64 (wordN s.data.toList a false k : Nat)) (fun _ i => 4 - (intOf i).toNat)
    case atStart => exact ⟨0, by omega, rfl, rfl⟩
    case round =>
      obtain ⟨k, hk, rfl, rfl⟩ := hrel
      by_cases hlt : k < 4
      · have hv := wordN_lt s.data.toList a false k
        have hp : 256 ^ k ≤ 256 ^ 4 := Nat.pow_le_pow_right (by omega) hk
        have Hs := Lib.hid (show wordN s.data.toList a false (k + 1) = 256 * wordN s.data.toList a false k + (s.data.toList.getD (a + 3 - k) 0).toNat from rfl)
        obtain ⟨P, hP⟩ : ∃ P, P = a + 3 - k := ⟨_, rfl⟩
        have hPe : (a : Int) + 3 - (k : Int) = (P : Int) := by omega
        have hPs : (P : Int) < (s.size : Int) := by omega
        have hPn : P < s.size := by omega
        have Hx := Lib.hid (str1_at s P hPn)
        rw [← hP] at Hs
        have hyl := (s.data.toList.getD P 0).toNat_lt
        generalize wordN s.data.toList a false k = v at hv Hs
        clear hP
        have hv2 : v < 4294967296 := by omega
        clear hv hp
        go_wp2_with fail
        rw [Hx.out, wrap64_b]
        generalize s.data.toList.getD P 0 = y at Hs hyl
        rw [IntWalk.wrap64_in (256 * (v : Int) + (y.toNat : Int)) ⟨by omega, by omega⟩]
        go_wp2_with fail
        go_round
        case rel => exact ⟨k + 1, by omega, by go_num, by rw [Hs.out]; go_num⟩
        case measure => simp [intOf]; omega
      · obtain rfl : k = 4 := by omega
        go_wp2_with fail
        go_ret
        exact ⟨rfl, rfl⟩
theorem cutL_snoc (s : List UInt8) (high : Bool) (n : Nat) : cutL s high (n + 1) = cutL s high n ++ [((cutAcc s high s.length n : Nat) : Int)] := by simp [cutL, List.range_succ]
theorem cut1 (s : ByteArray) (high : Bool) (n : Nat) (w : World) (hn : s.size = 4 * n) (hs : s.size ≤ 1000000) :
    Calls Tryd.prog 111 #[.string s, .bool high] w fun e w' => ∃ B cap, e = .returned (.tuple #[.slice B n cap, .bool true]) ∧ w'.ownsRow w.heap.size 3 1 (.slice B n cap) n (ints (cutL s.data.toList high n)) ∧ Below w.heap.size w w' := by
  have hm : (s.size : Int).tmod 4 = 0 := by rw [Int.tmod_eq_emod_of_nonneg (by omega)]; omega
  have hm2 : (s.size : Int) % 4 = 0 := by omega
  have Hn := Lib.hid hn
  clear hn
  go_enter Tryd.func111, Tryd.ntmps111
  go_wp2_with fail
  clear hm hm2
  go_loopw [6, 7] (fun v x wr => ∃ (i cap : Nat) (B : Option Addr), i ≤ n ∧ x = .int .i64 ((4 * i : Nat) : Int) ∧ v = .slice B i cap ∧ wr.ownsRow w.heap.size 3 1 v i (ints (cutL s.data.toList high i)) ∧ Below w.heap.size w wr) (fun _ x _ => 4 * n - (intOf x).toNat)
  case atStart => exact ⟨0, 0, none, by omega, rfl, rfl, ⟨rfl, .inl ⟨rfl, rfl⟩⟩, Below.refl _ _⟩
  case round =>
    obtain ⟨i, cap, B, hi, rfl, rfl, ho, hW⟩ := hrel
    have HO := Lib.hid ho
    have HW := Lib.hid hW
    have hn := Hn.out
    by_cases hlt : i < n
    · obtain ⟨P, hP⟩ : ∃ P, P = 4 * i := ⟨_, rfl⟩
      rw [← hP]
      have hPi : (P : Int) < (s.size : Int) := by omega
      have hPb : P ≤ 1000000 := by omega
      have hP4 : P + 4 ≤ s.size := by omega
      have hi9 : i ≤ 1000000 := by omega
      have Hsn := Lib.hid (show cutL s.data.toList high (i + 1) = cutL s.data.toList high i ++ [((wordN s.data.toList P high 4 : Nat) : Int)] by rw [cutL_snoc, cutAcc_word _ _ _ (by rw [len_data]; omega), hP])
      have HP := Lib.hid hP
      clear ho hW hn hP
      go_wp2_with fail
      refine (word1 s P high _ hP4 (by omega)).mono ?_
      rintro e w2 ⟨rfl, rfl⟩
      generalize ((wordN s.data.toList P high 4 : Nat) : Int) = x at Hsn ⊢
      go_wp2_with (at_builtin; refine wpList_append_new (by rfl) (.tmp 18) (.tmp 23) 71 (by rfl) w.heap.size 3 (.int .i64 0) 1 8 Tryd.underlying71 int_info rfl (by omega) w2 _ _ _ _ _ (by rfl) HO.out _ 1 1 (by rfl) (by rfl) (by rfl) (by rfl) (by omega) (by omega) (by omega) (by exact HW.out.size) ?_)
      intro g2 cap2 w3 ho3 hb3 _ _ _
      have HO3 := Lib.hid ho3
      have HW3 := Lib.hid (HW.out.trans hb3)
      clear ho3 hb3
      go_wp2_with fail
      go_roundw
      case rel => exact ⟨i + 1, cap2, some ⟨g2, 0, none⟩, by omega, by have := HP.out; go_num, rfl, by rw [Hsn.out, show ints (cutL s.data.toList high i ++ [x]) = ints (cutL s.data.toList high i) ++ [.int .i64 x] by simp [ints]]; exact HO3.out, HW3.out⟩
      case measure => have := HP.out; simp [intOf]; omega
    · obtain rfl : i = n := by omega
      have hni : ¬ 4 * (i : Int) < (s.size : Int) := by omega
      clear ho hW hn
      go_wp2_with fail
      go_ret2
      exact ⟨B, cap, rfl, HO.out, HW.out⟩

/-- A word's four bytes. -/
def toldL (x : Nat) (high : Bool) : List UInt8 := if high then [UInt8.ofNat (x / 16777216), UInt8.ofNat (x / 65536), UInt8.ofNat (x / 256), UInt8.ofNat x] else [UInt8.ofNat x, UInt8.ofNat (x / 256), UInt8.ofNat (x / 65536), UInt8.ofNat (x / 16777216)]
theorem ofNat_mod (x : Nat) : UInt8.ofNat (x % 256) = UInt8.ofNat x := by
  apply UInt8.toNat_inj.1
  simp
theorem joinL_snoc (xs : List Int) (x : Nat) (high : Bool) : joinL (xs ++ [(x : Int)]) high = joinL xs high ++ toldL x high := by
  apply List.ext_getElem
  · rw [joinL_length, List.length_append, List.length_append, joinL_length]
    cases high <;> simp [toldL] <;> omega
  · intro p h1 h2
    rw [joinL_length, List.length_append] at h1
    simp only [List.length_cons, List.length_nil] at h1
    by_cases c : p < 4 * xs.length
    · rw [List.getElem_append_left (by rw [joinL_length]; exact c)]
      simp only [joinL, List.getElem_map, List.getElem_range, joinB]
      rw [show (xs ++ [(x : Int)]).getD (p / 4) 0 = xs.getD (p / 4) 0 by rw [List.getD_eq_getElem?_getD, List.getElem?_append_left (by omega), List.getD_eq_getElem?_getD]]
    · rw [List.getElem_append_right (by rw [joinL_length]; omega)]
      simp only [joinL_length]
      obtain ⟨r, hr⟩ : ∃ r, p = 4 * xs.length + r := ⟨p - 4 * xs.length, by omega⟩
      subst hr
      have hr4 : r < 4 := by omega
      have hd : (4 * xs.length + r) / 4 = xs.length := by omega
      have hm : (4 * xs.length + r) % 4 = r := by omega
      simp only [joinL, List.getElem_map, List.getElem_range, joinB, hd, hm, ofNat_mod, Nat.shiftRight_eq_div_pow]
      have hg : (xs ++ [(x : Int)]).getD xs.length 0 = (x : Int) := by simp
      rw [hg, Int.toNat_natCast]
      have hs : 4 * xs.length + r - 4 * xs.length = r := by omega
      have hcase : r = 0 ∨ r = 1 ∨ r = 2 ∨ r = 3 := by omega
      cases high <;> rcases hcase with rfl | rfl | rfl | rfl <;> simp [placeI, toldL]
theorem conv4 (a b c d : UInt8) (w : World) (g : Nat) (hg : w.heap.size = g) : (convert 80 9 (.slice (some ⟨g, 0, none⟩) 4 4)).run Tryd.prog (w.alloc (.cells #[.int .u8 (a.toNat : Int), .int .u8 (b.toNat : Int), .int .u8 (c.toNat : Int), .int .u8 (d.toNat : Int)] 5)) = .ok (.string (bs [a, b, c, d])) (w.alloc (.cells #[.int .u8 (a.toNat : Int), .int .u8 (b.toNat : Int), .int .u8 (c.toNat : Int), .int .u8 (d.toNat : Int)] 5)) :=
  conv_rd (l := [a, b, c, d]) (rd_new' w _ _ g hg) 4 4 rfl
theorem byte_of (x : Nat) : ((UInt8.ofNat x).toNat : Int) = ((x % 256 : Nat) : Int) := by simp
theorem told_cells (x : Nat) (hx : x < 4294967296) : ((x : Int) / 16777216) = ((UInt8.ofNat (x / 16777216)).toNat : Int) ∧ ((x : Int) / 65536 % 256) = ((UInt8.ofNat (x / 65536)).toNat : Int) ∧ ((x : Int) / 256 % 256) = ((UInt8.ofNat (x / 256)).toNat : Int) ∧ ((x : Int) % 256) = ((UInt8.ofNat x).toNat : Int) := by
  rw [byte_of, byte_of, byte_of, byte_of]
  refine ⟨?_, ?_, ?_, ?_⟩ <;> omega
theorem told1 (x : Nat) (high : Bool) (w : World) (hx : x < 4294967296) : Calls Tryd.prog 101 #[.int .i64 (x : Int), .bool high] w fun e w' => e = .returned (.string (bs (toldL x high))) ∧ Below w.heap.size w w' := by
  obtain ⟨e1, e2, e3, e4⟩ := told_cells x hx
  cases high with
  | true =>
    have hcv := conv4 (UInt8.ofNat (x / 16777216)) (UInt8.ofNat (x / 65536)) (UInt8.ofNat (x / 256)) (UInt8.ofNat x) w _ rfl
    rw [← e1, ← e2, ← e3, ← e4] at hcv
    clear e1 e2 e3 e4
    go_enter Tryd.func101, Tryd.ntmps101
    go_wp2_with fail
    go_ret
    exact ⟨rfl, (Below.refl _ _).alloc (Nat.le_refl _) _⟩
  | false =>
    have hcv := conv4 (UInt8.ofNat x) (UInt8.ofNat (x / 256)) (UInt8.ofNat (x / 65536)) (UInt8.ofNat (x / 16777216)) w _ rfl
    rw [← e1, ← e2, ← e3, ← e4] at hcv
    clear e1 e2 e3 e4
    go_enter Tryd.func101, Tryd.ntmps101
    go_wp2_with fail
    go_ret
    exact ⟨rfl, (Below.refl _ _).alloc (Nat.le_refl _) _⟩
theorem bs_add (l m : List UInt8) : bs l ++ bs m = bs (l ++ m) := by
  apply ByteArray.ext
  rw [ByteArray.data_append]
  simp [bs]
theorem take_snoc1 {l : List Int} {i : Nat} (h : i < l.length) : l.take (i + 1) = l.take i ++ [l.getD i 0] := by
  rw [List.take_succ_eq_append_getElem h]
  simp [h]
theorem join1 (l : List Int) (A : Option Addr) (n c : Nat) (high : Bool) (w : World) (hr : Rd w A (ints l)) (hn : n = l.length) (hl : l.length ≤ 1000) (hw : ∀ x ∈ l, Wd x) :
    Calls Tryd.prog 76 #[.slice A n c, .bool high] w fun e w' => e = .returned (.tuple #[.string (bs (joinL l high)), .bool true]) ∧ Below w.heap.size w w' := by
  have HR := Lib.hid hr
  have HN := Lib.hid hn
  have HW := Lib.hid hw
  have hn1 : n ≤ 1000 := by omega
  clear hr hn hw
  go_enter Tryd.func76, Tryd.ntmps76
  go_wp2_with fail
  refine (all1 l A n c _ HR.out HN.out hl HW.out).mono ?_
  rintro e w1 ⟨rfl, hw1⟩
  obtain rfl := hw1.symm
  clear hw1
  go_wp2_with fail
  go_loopw [6, 7] (fun s x wr => ∃ i : Nat, i ≤ n ∧ x = .int .i64 (i : Nat) ∧ s = .string (bs (joinL (l.take i) high)) ∧ Below w.heap.size w wr) (fun _ x _ => n - (intOf x).toNat)
  case atStart => exact ⟨0, by omega, rfl, rfl, Below.refl _ _⟩
  case round =>
    obtain ⟨i, hi, rfl, rfl, hb⟩ := hrel
    have HB := Lib.hid hb
    clear hb
    by_cases hlt : i < n
    · have hil : i < l.length := by rw [← HN.out]; exact hlt
      obtain ⟨b, off, hA, hc⟩ := (HR.out.below HB.out).int_at (i := i) hil
      subst hA
      have hwd := HW.out (l.getD i 0) (by rw [List.getD_eq_getElem?_getD, List.getElem?_eq_getElem hil]; exact List.getElem_mem hil)
      have Hsn := Lib.hid (take_snoc1 hil)
      generalize l.getD i 0 = a at hc hwd Hsn
      obtain ⟨m, rfl, hm⟩ := wd_nat hwd
      have Hj := Lib.hid (joinL_snoc (l.take i) m high)
      have hiI : (i : Int) < (n : Int) := by omega
      have hls : (joinL (l.take i) high).length ≤ 4000 := by
        rw [joinL_length, List.length_take]; omega
      generalize joinL (l.take i) high = sofar at Hj hls
      have hsz : ¬ 9223372036854775807 < (bs sofar).size + (bs (toldL m high)).size := by
        have h4 : (toldL m high).length = 4 := by cases high <;> rfl
        rw [bs_size, bs_size, h4]; omega
      clear hwd
      go_wp2_with fail
      refine (told1 m high _ hm).mono ?_
      rintro e w2 ⟨rfl, hb2⟩
      have HB2 := Lib.hid (Below.chain HB.out hb2)
      clear hb2
      go_wp2_with fail
      go_roundw
      case rel => exact ⟨i + 1, by omega, by go_num, by rw [Hsn.out, Hj.out]; first | rw [bs_add] | rfl, HB2.out⟩
      case measure => simp [intOf]; omega
    · obtain rfl : i = n := by omega
      rw [show l.take i = l from List.take_of_length_le (by rw [HN.out]; exact Nat.le_refl _)]
      go_wp2_with fail
      go_ret2
      exact ⟨rfl, HB.out⟩
end Go.Proofs.YtkeeejkijbaooaaDoor
