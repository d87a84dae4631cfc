/-
  Contracts of keyholeref02: the small functions, Pad, spread.
  Contracts of keyholeref02: spread, words.
  A region that draws its order: loads are taken first under a condition S on the world that is shown anew behind every operation but the last one, which waits for all others.
  Contract of keyholeref02.Step.
  Contract of keyholeref02.Sum: the same function as digest.Sum.
-/
import Derived.Test.YtniglledpjheaaaGreatDoorRa
import Derived.Test.YtniglledpjheaaaGreatDoorSh
import Derived.Test.YtniglledpjheaaaGreatDoorSm
import Derived.Deep.RegionLaw
import Derived.Deep.RegionHeld3
import Derived.Deep.AppendLies
import Derived.Deep.RegionHeld
import Derived.WalkKit
import Derived.Lib.Hide
namespace Go.Proofs.YtniglledpjheaaaGreatDoor
/- R02 -/
open Go.RowKit
set_option linter.unusedVariables false
set_option maxRecDepth 100000
set_option maxHeartbeats 600000

theorem xor0 {a : Int} (h : Wd a) : xorI 0 a = a := by
  obtain ⟨n, rfl, _⟩ := wd_nat h
  simp [xorI]
theorem xorL3 {a b c : Int} (h : Wd a) : xorL [a, b, c] = xorI (xorI a b) c := by
  show xorI (xorI (xorI 0 a) b) c = _
  rw [xor0 h]
theorem xorL2 {a b : Int} (h : Wd a) : xorL [a, b] = xorI a b := by
  show xorI (xorI 0 a) b = _
  rw [xor0 h]
theorem gb_below_own {W w1 : World} {B : Nat} {e : TypeId} {size : Nat} {v : Value} {n : Nat} {xs : List Value} (hg : W.grownBy w1 v.ownBlock) (ho : W.ownsRow B e size v n xs) (hB : B ≤ W.heap.size) : Below B W w1 :=
  ⟨hg.os, hg.tape, hg.output, hg.size, fun k hk => hg.block k (by omega) (fun e => by
    rcases ho.2 with ⟨hv, _⟩ | ⟨g1, cap1, cur, hv, hb, _⟩
    · rw [hv] at e; cases e
    · rw [hv] at e
      injection e with e
      simp only at e
      omega)⟩

theorem back2 (x n : Int) (w : World) (hx : Wd x) (h0 : 0 ≤ n) (h1 : n ≤ 32) : Calls Tryz.prog 50 #[.int .i64 x, .int .i64 n] w fun e w' => e = .returned (.int .i64 (rotI x (32 - n))) ∧ w = w' := by
  have HX := Lib.hid hx
  clear hx
  go_enter Tryz.func50, Tryz.ntmps50
  go_wp2_with fail
  refine (turned1 x (32 - n) _ HX.out (by omega) (by omega)).mono ?_
  rintro e w' ⟨rfl, rfl⟩
  go_wp2_with fail
  go_ret
  exact ⟨rfl, rfl⟩
theorem fall2' (x : Int) (n : Nat) (w : World) (hx : Wd x) (h1 : n ≤ 32) : Calls Tryz.prog 90 #[.int .i64 x, .int .i64 (n : Int)] w fun e w' => e = .returned (.int .i64 (fallI x n)) ∧ w = w' := by
  obtain ⟨m, rfl, hm⟩ := wd_nat hx
  clear hx
  go_enter Tryz.func90, Tryz.ntmps90
  go_wp2_with fail
  go_loop [0, 5] (fun v i => ∃ k : Nat, k ≤ n ∧ i = .int .i64 k ∧ v = .int .i64 (m / 2 ^ k : Nat)) (fun _ i => n - (intOf i).toNat)
  case atStart => exact ⟨0, by omega, rfl, by simp⟩
  case round =>
    obtain ⟨k, hk, rfl, rfl⟩ := hrel
    by_cases hlt : k < n
    · have hy : m / 2 ^ k ≤ m := Nat.div_le_self _ _
      have Hx := Lib.hid (show m / 2 ^ (k + 1) = m / 2 ^ k / 2 by rw [Nat.pow_succ, Nat.div_div_eq_div_mul])
      generalize m / 2 ^ k = y at hy Hx
      go_wp2_with fail
      go_round
      case rel => exact ⟨k + 1, by omega, by go_num, by rw [Hx.out]; go_num⟩
      case measure => simp [intOf]; omega
    · obtain rfl : k = n := by omega
      go_wp2_with fail
      go_ret
      exact ⟨ret_int (by rw [fallI]; simp), rfl⟩
theorem fall2 (x n : Int) (w : World) (hx : Wd x) (h0 : 0 ≤ n) (h1 : n ≤ 32) : Calls Tryz.prog 90 #[.int .i64 x, .int .i64 n] w fun e w' => e = .returned (.int .i64 (fallI x n)) ∧ w = w' := by
  obtain ⟨m, rfl⟩ := Int.eq_ofNat_of_zero_le h0
  exact fall2' x m w hx (by omega)
theorem three2 (a b c : Int) (w : World) (ha : Wd a) (hb : Wd b) (hc : Wd c) : Calls Tryz.prog 48 #[.int .i64 a, .int .i64 b, .int .i64 c] w fun e w' => e = .returned (.int .i64 (xorL [a, b, c])) ∧ w = w' := by
  rw [xorL3 ha]
  have HA := Lib.hid ha
  have HB := Lib.hid hb
  have HC := Lib.hid hc
  clear ha hb hc
  go_enter Tryz.func48, Tryz.ntmps48
  go_wp2_with fail
  refine (unlike1 a b _ HA.out HB.out).mono ?_
  rintro e w' ⟨rfl, rfl⟩
  go_wp2_with fail
  refine (unlike1 _ c _ (wd_xor HA.out HB.out) HC.out).mono ?_
  rintro e w' ⟨rfl, rfl⟩
  go_wp2_with fail
  go_ret
  exact ⟨rfl, rfl⟩
theorem addI2 (a b : Int) : addI [a, b] = (a + b) % 4294967296 := by simp [addI]
theorem add2 (A : Option Addr) (n c : Nat) (xs : List Int) (w : World) (h : Rd w A (ints xs)) (hn : n = xs.length) (hl : xs.length ≤ 1000) (hw : wordsB xs = true) :
    Calls Tryz.prog 49 #[.slice A n c] w fun e w' => e = .returned (.int .i64 (addI xs)) ∧ w = w' := by
  have HR := Lib.hid h
  have HN := Lib.hid hn
  have HW := Lib.hid hw
  have hn1 : n ≤ 1000 := by omega
  clear h hn hw
  go_enter Tryz.func49, Tryz.ntmps49
  go_wp2_with fail
  go_loop [3, 4] (fun s x => ∃ i : Nat, i ≤ n ∧ x = .int .i64 (i : Nat) ∧ s = .int .i64 (addI (xs.take i))) (fun _ x => n - (intOf x).toNat)
  case atStart => exact ⟨0, by omega, rfl, rfl⟩
  case round =>
    obtain ⟨i, hi, rfl, rfl⟩ := hrel
    by_cases hlt : i < n
    · have hil : i < xs.length := by rw [← HN.out]; exact hlt
      obtain ⟨b, off, hA, hc⟩ := HR.out.int_at (i := i) hil
      subst hA
      have hwd : Wd (xs.getD i 0) := wd_get (wd_all HW.out) i
      have hwa := wd_add (xs.take i)
      have Hsn := Lib.hid ((addI_snoc xs i hil).trans (addI2 _ _).symm)
      generalize xs.getD i 0 = x at hc hwd Hsn
      generalize addI (xs.take i) = y at hwa Hsn
      have hiI : (i : Int) < (n : Int) := by omega
      have HD := Lib.hid hwd
      have HA := Lib.hid hwa
      clear hwd hwa
      go_wp2_with fail
      refine (sum1 y x _ HA.out HD.out).mono ?_
      rintro e w1 ⟨rfl, rfl⟩
      go_wp2_with fail
      go_round
      case rel => exact ⟨i + 1, by omega, by go_num, by rw [Hsn.out]⟩
      case measure => simp [intOf]; omega
    · obtain rfl : i = n := by omega
      rw [show xs.take i = xs from List.take_of_length_le (by rw [HN.out]; exact Nat.le_refl _)]
      go_wp2_with fail
      go_ret
      exact ⟨rfl, rfl⟩

def pw8 (j : Nat) : Nat := 2 ^ (64 - 8 * j) / 256
theorem pw8_succ (j : Nat) (h : j < 8) : pw8 (j + 1) = pw8 j / 256 := by
  unfold pw8
  rw [show 64 - 8 * j = (64 - 8 * (j + 1)) + 8 by omega, Nat.pow_add]
  generalize 2 ^ (64 - 8 * (j + 1)) = q
  omega
theorem pw8_eq (j : Nat) (h : j < 8) : pw8 j = 2 ^ (56 - 8 * j) := by
  unfold pw8
  rw [show 64 - 8 * j = (56 - 8 * j) + 8 by omega, Nat.pow_add]
  generalize 2 ^ (56 - 8 * j) = q
  omega
theorem pad2 (n : Nat) (w : World) (hn : n ≤ 1000000000) :
    Calls Tryz.prog 21 #[.int .i64 (n : Int)] w fun e w' => e = .returned (.tuple #[.string (bs (padL n)), .bool true]) ∧ Below w.heap.size w w' := by
  have hz : padZ n ≤ 63 := by unfold padZ; omega
  go_enter Tryz.func21, Tryz.ntmps21
  go_wp2_with fail
  go_loopw [4] (fun v wr => ∃ (k g cap : Nat), 1 ≤ k ∧ k ≤ 1 + padZ n ∧ v = .slice (some ⟨g, 0, none⟩) k cap ∧ wr.ownsRow w.heap.size 5 1 v k (bytesV (128 :: List.replicate (k - 1) 0)) ∧ Below w.heap.size w wr) (fun v _ => 100 - lenOf v)
  case atStart => exact ⟨1, w.heap.size, 1, by omega, by omega, rfl, own_new (Nat.le_refl _) rfl (by unfold maxLen; omega), (Below.refl _ _).alloc (Nat.le_refl _) _⟩
  case round =>
    obtain ⟨k, g, cap, hk1, hk2, rfl, ho, hb⟩ := hrel
    have HO := Lib.hid ho
    clear ho
    by_cases hlt : k < 1 + padZ n
    · have hne : (((n : Int) + (k : Int) + 8) % 64 != 0) = true := by
        rw [bne_iff_ne]; unfold padZ at hlt; omega
      go_wp2_with (refine wpList_append_new (by rfl) (.tmp 21) (.tmp 22) 70 (by rfl) w.heap.size 5 (.int .u8 0) 1 1 Tryz.underlying70 uint8_info rfl (by omega) wr _ _ _ _ _ (by rfl) HO.out _ 1 1 (by rfl) (by rfl) (by rfl) (by rfl) (by omega) (by omega) (by omega) (by exact hb.size) ?_)
      intro g2 cap2 w2 ho2 hb2 _ _ _
      have HO2 := Lib.hid ho2
      clear ho2
      go_wp2_with fail
      go_roundw
      case rel =>
        refine ⟨k + 1, g2, cap2, by omega, by omega, rfl, ?_, hb.trans hb2⟩
        have := HO2.out
        rw [show bytesV (128 :: List.replicate (k - 1) 0) ++ [Value.int .u8 0] = bytesV (128 :: List.replicate (k + 1 - 1) 0) by
          rw [show k + 1 - 1 = (k - 1) + 1 by omega, List.replicate_succ']
          simp [bytesV]] at this
        exact this
      case measure => simp [lenOf]; omega
    · obtain rfl : k = 1 + padZ n := by omega
      have hne : (((n : Int) + ((1 + padZ n : Nat) : Int) + 8) % 64 != 0) = false := by
        rw [bne_eq_false_iff_eq]; unfold padZ; omega
      obtain ⟨k, hk⟩ : ∃ k, k = 1 + padZ n := ⟨_, rfl⟩
      rw [← hk] at hne HO ⊢
      have Hk := Lib.hid hk
      have hk64 : k ≤ 64 := by omega
      clear hk hk1 hk2 hlt
      go_wp2_with fail
      obtain ⟨wo, hwo⟩ : ∃ wo : World, wo = wr := ⟨_, rfl⟩
      rw [← hwo] at HO hb ⊢
      clear hwo
      go_loopw [4, 5, 6] (fun v p i wr => ∃ (j g cap : Nat), j ≤ 8 ∧ i = .int .i64 j ∧ p = .int .i64 (pw8 j : Nat) ∧ v = .slice (some ⟨g, 0, none⟩) (k + j) cap ∧ wr.ownsRow w.heap.size 5 1 v (k + j) (bytesV (128 :: List.replicate (k - 1) 0 ++ be8 (8 * n) j)) ∧ Below w.heap.size w wr) (fun _ _ i _ => 8 - (intOf i).toNat)
      case atStart => exact ⟨0, g, cap, by omega, rfl, rfl, rfl, by simpa [be8] using HO.out, hb⟩
      case round =>
        obtain ⟨j, g, cap, hj, rfl, rfl, rfl, ho, hb⟩ := hrel
        clear HO
        have HO := Lib.hid ho
        clear ho
        by_cases hlt : j < 8
        · have Hp1 := Lib.hid (pw8_succ j hlt)
          have hpe := pw8_eq j hlt
          have hp0 : 0 < pw8 j := by rw [hpe]; exact Nat.two_pow_pos _
          have hp9 : pw8 j ≤ 72057594037927936 := by
            rw [hpe]
            exact Nat.pow_le_pow_right (n := 2) (by omega) (show 56 - 8 * j ≤ 56 by omega)
          have Hby := Lib.hid (show (8 * (n : Int)) / ((pw8 j : Nat) : Int) % 256 = ((UInt8.ofNat ((8 * n) >>> (56 - 8 * j))).toNat : Int) by
            rw [← byte_shr, hpe]; simp)
          clear hpe
          generalize pw8 j = p at Hp1 hp0 hp9 Hby
          have hpne : ((p : Int) == 0) = false := by rw [beq_eq_false_iff_ne]; omega
          have hp1 : (1 : Int) ≤ (p : Int) := by omega
          go_wp2_with (refine wpList_append_new (by rfl) (.tmp 28) (.tmp 35) 70 (by rfl) w.heap.size 5 (.int .u8 0) 1 1 Tryz.underlying70 uint8_info rfl (by omega) wr _ _ _ _ _ (by rfl) HO.out _ 1 1 (by rfl) (by rfl) (by rfl) (by rfl) (by omega) (by omega) (by omega) (by exact hb.size) ?_)
          intro g2 cap2 w2 ho2 hb2 _ _ _
          have HO2 := Lib.hid ho2
          clear ho2
          go_wp2_with fail
          go_roundw
          case rel =>
            refine ⟨j + 1, g2, cap2, by omega, by go_num, by rw [Hp1.out]; go_num, by rw [Nat.add_assoc], ?_, hb.trans hb2⟩
            have := HO2.out
            rw [show bytesV (128 :: List.replicate (k - 1) 0 ++ be8 (8 * n) (j + 1)) = bytesV (128 :: List.replicate (k - 1) 0 ++ be8 (8 * n) j) ++ [Value.int .u8 ((UInt8.ofNat ((8 * n) >>> (56 - 8 * j))).toNat : Int)] by
              rw [be8, List.range_succ, List.map_append, ← be8]
              simp [bytesV]]
            rw [show k + (j + 1) = k + j + 1 by omega]
            rw [← Hby.out]
            rw [show (8 * (n : Int) / (p : Int)).tmod 256 % 256 = 8 * (n : Int) / (p : Int) % 256 by
              rw [Int.tmod_eq_emod_of_nonneg (Int.ediv_nonneg (by omega) (by omega)), Int.emod_emod_of_dvd _ (by decide)]] at this
            exact this
          case measure => simp [intOf]; omega
        · obtain rfl : j = 8 := by omega
          have hcv := conv_rd (own_rd HO.out) cap (k + 8) (by have := Hk.out; simp [be8]; omega)
          go_wp2_with fail
          go_ret2
          refine ⟨?_, hb⟩
          rw [padL, show padZ n = k - 1 by have := Hk.out; omega]
          rfl

/- R02b -/
open Go.RowKit
set_option linter.unusedVariables false
set_option maxRecDepth 100000
set_option maxHeartbeats 1000000

theorem wTo_take (l : List Int) (h : l.length = 16) (k : Nat) (hk : k < 48) : (wTo l (k + 1)).take (16 + (k + 1)) = (wTo l k).take (16 + k) ++ [wNext (wTo l k) (16 + k)] := by
  have hl := wTo_len l h k
  rw [wTo, show 16 + (k + 1) = 16 + k + 1 by omega]
  rw [List.take_succ_eq_append_getElem (by rw [List.length_set, hl]; omega)]
  rw [List.take_set_of_le (by omega), List.getElem_set_self]
theorem get_take {l : List Int} {i n : Nat} (h : i < n) : (l.take n).getD i 0 = l.getD i 0 := by
  rw [List.getD_eq_getElem?_getD, List.getElem?_take_of_lt h, List.getD_eq_getElem?_getD]
theorem new_two (w : World) (o : Obj) (o2 : Obj) : ((w.alloc o).alloc o2).drew.heap[w.heap.size + 1]? = some o2 := by
  have := heap_alloc_new (w.alloc o) o2
  rw [show (w.alloc o).heap.size = w.heap.size + 1 by simp] at this
  exact this
theorem spread2 (s : ByteArray) (w : World) (hs : s.size = 64) :
    Calls Tryz.prog 44 #[.string s] w fun e w' => ∃ g cap, e = .returned (.slice (some ⟨g, 0, none⟩) 64 cap) ∧ w'.ownsRow w.heap.size 3 1 (.slice (some ⟨g, 0, none⟩) 64 cap) 64 (ints (wTo (cutL s.data.toList true 16) 48)) ∧ Below w.heap.size w w' := by
  obtain ⟨i0, hi0, hz0, hz1, hz2⟩ := info_parts (int_info)
  have HI := Lib.hid hi0
  have HZ0 := Lib.hid hz0
  have HZ1 := Lib.hid hz1
  have HZ2 := Lib.hid hz2
  have Hs := Lib.hid hs
  clear hs hi0 hz0 hz1 hz2
  go_enter Tryz.func44, Tryz.ntmps44
  go_wp2_with fail
  refine (cut1 s true 16 _ Hs.out (by rw [Hs.out]; decide)).mono ?_
  rintro e w1 ⟨B, cap, rfl, ho1, hb1⟩
  have Hl : Hid ((cutL s.data.toList true 16).length = 16) := Lib.hid (by simp [cutL])
  have Hwd := Lib.hid (cutL_words s.data.toList true 16)
  generalize hle' : cutL s.data.toList true 16 = l at ho1 Hl Hwd
  have Hle' := Lib.hid hle'
  clear hle'
  have HO := Lib.hid ho1
  have HW := Lib.hid hb1
  clear ho1 hb1
  go_wp2_with fail
  go_loopw [3, 5] (fun v x wr => ∃ (k cap : Nat) (B : Option Addr), k ≤ 48 ∧ x = .int .i64 ((16 + k : Nat) : Int) ∧ v = .slice B (16 + k) cap ∧ wr.ownsRow w.heap.size 3 1 v (16 + k) (ints ((wTo l k).take (16 + k))) ∧ Below w.heap.size w wr) (fun _ x _ => 64 - (intOf x).toNat)
  case atStart =>
    refine ⟨0, cap, B, by omega, rfl, rfl, ?_, HW.out⟩
    have := HO.out
    rw [show (wTo l 0).take (16 + 0) = l by rw [wTo, List.take_append_of_le_length (by rw [Hl.out]; decide), List.take_of_length_le (by rw [Hl.out]; decide)]]
    exact this
  case round =>
    obtain ⟨k, cap, B, hk, rfl, rfl, ho, hW⟩ := hrel
    clear HO HW
    have HO := Lib.hid ho
    have HW := Lib.hid hW
    have hlen := wTo_len l Hl.out k
    have hwd := wTo_wd l Hwd.out k
    obtain ⟨g, off, hB⟩ : ∃ g off, B = some ⟨g, off, none⟩ := by
      have hr := own_rd ho
      obtain ⟨b, off, hA, _⟩ := hr.int_at (i := 0) (by rw [List.length_take, hlen]; omega)
      exact ⟨b, off, hA⟩
    subst hB
    have hr := own_rd ho
    obtain rfl : off = 0 := by
      rcases ho.2 with ⟨hv, _⟩ | ⟨g1, cap1, cur, hv, hb, _⟩
      · cases hv
      · injection hv with hv; injection hv with hv; injection hv with _ hv
    by_cases hlt : k < 48
    · obtain ⟨j, hj⟩ : ∃ j, j = 16 + k := ⟨_, rfl⟩
      have cell : ∀ i, i < 16 + k → wr.cell? ⟨g, i, none⟩ = some (.int .i64 ((wTo l k).getD i 0)) := fun i hi => by
        obtain ⟨b, off, hA, hc⟩ := hr.int_at (i := i) (by rw [List.length_take, hlen]; omega)
        injection hA with hA
        injection hA with h1 h2
        subst h1 h2
        rw [get_take hi, Nat.zero_add] at hc
        exact hc
      obtain ⟨a16, h16⟩ : ∃ a, a = j - 16 := ⟨_, rfl⟩
      obtain ⟨a15, h15⟩ : ∃ a, a = j - 15 := ⟨_, rfl⟩
      obtain ⟨a7, h7⟩ : ∃ a, a = j - 7 := ⟨_, rfl⟩
      obtain ⟨a2, h2⟩ : ∃ a, a = j - 2 := ⟨_, rfl⟩
      have c16 := cell a16 (by omega)
      have c15 := cell a15 (by omega)
      have c7 := cell a7 (by omega)
      have c2 := cell a2 (by omega)
      have Hstep := Lib.hid (show (wTo l (k + 1)).take (16 + (k + 1)) = (wTo l k).take (16 + k) ++ [addI [(wTo l k).getD a16 0, s0I ((wTo l k).getD a15 0), (wTo l k).getD a7 0, s1I ((wTo l k).getD a2 0)]] by
        rw [wTo_take l Hl.out k hlt, wNext, ← hj, ← h16, ← h15, ← h7, ← h2])
      have W16 := Lib.hid (wd_get hwd a16)
      have W15 := Lib.hid (wd_get hwd a15)
      have W7 := Lib.hid (wd_get hwd a7)
      have W2 := Lib.hid (wd_get hwd a2)
      generalize (wTo l k).getD a16 0 = x16 at c16 Hstep W16
      generalize (wTo l k).getD a15 0 = x15 at c15 Hstep W15
      generalize (wTo l k).getD a7 0 = x7 at c7 Hstep W7
      generalize (wTo l k).getD a2 0 = x2 at c2 Hstep W2
      rw [← hj]
      rw [← hj] at HO
      have b16 : (j : Int) - 16 = (a16 : Int) := by omega
      have b15 : (j : Int) - 15 = (a15 : Int) := by omega
      have b7 : (j : Int) - 7 = (a7 : Int) := by omega
      have b2 : (j : Int) - 2 = (a2 : Int) := by omega
      have d16 : (a16 : Int) < (j : Int) := by omega
      have d15 : (a15 : Int) < (j : Int) := by omega
      have d7 : (a7 : Int) < (j : Int) := by omega
      have d2 : (a2 : Int) < (j : Int) := by omega
      have dj : (j : Int) < 64 := by omega
      have hj16 : 16 ≤ j := by omega
      have Hj := Lib.hid hj
      have glt := cell_lt c16
      have hne : g ≠ wr.heap.size := by simp only at glt; omega
      clear ho hW hlen hwd hr cell h16 h15 h7 h2 hj
      go_wp2_with (first
        | ((go_at_call 50; refine (back2 _ _ _ (by first | exact W15.out | exact W2.out) (by omega) (by omega)).mono ?_); rintro e w' ⟨rfl, rfl⟩)
        | ((go_at_call 90; refine (fall2 _ _ _ (by first | exact W15.out | exact W2.out) (by omega) (by omega)).mono ?_); rintro e w' ⟨rfl, rfl⟩)
        | ((go_at_call 48; refine (three2 _ _ _ _ (by first | exact wd_rot _ W15.out | exact wd_rot _ W2.out) (by first | exact wd_rot _ W15.out | exact wd_rot _ W2.out) (by first | exact wd_fall _ W15.out | exact wd_fall _ W2.out)).mono ?_); rintro e w' ⟨rfl, rfl⟩))
      have e16 : IntKind.i64.wrap ((j : Int) - 16) = (a16 : Int) := by rw [IntWalk.i64_in _ (by omega)]; exact b16
      have e7 : IntKind.i64.wrap ((j : Int) - 7) = (a7 : Int) := by rw [IntWalk.i64_in _ (by omega)]; exact b7
      clear b16 b15 b7 b2 c15 c2 d15 d2
      go_region_law
        (first
          | (go_simp; (go_at_call 49; refine (add2 _ _ _ [x16, s0I x15, x7, s1I x2] _ (by exact rd_new' _ _ _ _ (by simp)) rfl (by simp) (by exact wd4 W16.out (wd_s0 W15.out) W7.out (wd_s1 W2.out))).mono ?_); rintro e w' ⟨rfl, rfl⟩)
          | (refine step_append_lies _ (by rfl) _ _ 43 (by rfl) w.heap.size 3 i0 (.int .i64 0) 1 8 Tryz.underlying43 HI.out HZ0.out HZ1.out HZ2.out rfl (by omega) (.slice (some ⟨g, 0, none⟩) j cap) j _ (by rfl) (by exact ((HO.out.alloc _).alloc _).drew) ⟨wr.heap.size + 1, 0, none⟩ 1 1 [.int .i64 (addI [x16, s0I x15, x7, s1I x2])] (by rfl) (by rfl) (World.news_of_block (cs := #[.int .i64 (addI [x16, s0I x15, x7, s1I x2])]) (t := 3) (fr := (0, 0)) (new_two _ _ _)) (by simp [Value.oneCell']) (by omega) (by unfold maxLen; omega) (by omega) (by have := HW.out.size; simp; omega) (wr.heap.size + 1 + 1) (by simp) ?_; intro gg cap2 w3 hown3 hgrow hat hlt3))
      all_goals
        have HO3 := Lib.hid hown3
        have HB3 := Lib.hid (((HW.out.alloc HW.out.size _).alloc (by have := HW.out.size; simp; omega) _).drew.trans (gb_below_own hgrow (((HO.out.alloc _).alloc _).drew) (by have := HW.out.size; simp; omega)))
        clear hown3 hgrow hat hlt3
        go_wp2_with fail
        go_roundw
        case rel =>
          refine ⟨k + 1, cap2, some ⟨gg, 0, none⟩, by omega, by rw [Hj.out]; go_num, by rw [Hj.out]; rfl, ?_, HB3.out⟩
          rw [Hstep.out]
          have := HO3.out
          rw [Hj.out] at this ⊢
          rw [show ints ((wTo l k).take (16 + k) ++ [addI [x16, s0I x15, x7, s1I x2]]) = ints ((wTo l k).take (16 + k)) ++ [.int .i64 (addI [x16, s0I x15, x7, s1I x2])] by simp [ints]]
          exact this
        case measure => have := Hj.out; simp [intOf]; omega
    · obtain rfl : k = 48 := by omega
      rw [List.take_of_length_le (by rw [hlen]; decide)] at HO
      clear ho hW hlen hwd hr
      go_wp2_with fail
      go_ret
      exact ⟨g, cap, rfl, by rw [Hle'.out]; exact HO.out, HW.out⟩
theorem words2 (w : World) : Calls Tryz.prog 45 #[] w fun e w' => e = .returned (.slice (some ⟨w.heap.size, 0, none⟩) 64 64) ∧ w' = w.alloc (.cells (ints roundsT).toArray 3) := by
  go_enter Tryz.func45, Tryz.ntmps45
  go_wp2_with fail
  go_ret
  exact ⟨rfl, rfl⟩

/- HeldK -/
open Go Go.RowKit

section
variable {P : Program} {ops : Array Oper} {Q : Exit → Act → World → Prop} {md : Region.Mode} {S : World → Prop} {n : Nat}

/-- Whatever order is picked from here on, S holding behind every operation but the last. -/
def wpAnyK (P : Program) (md : Region.Mode) (ops : Array Oper) (Q : Exit → Act → World → Prop) (S : World → Prop) (n : Nat) : Nat → Array Bool → Act → World → Prop
  | 0, _, _, _ => False
  | fuel + 1, listed, a, w =>
    Region.ready md ops listed ≠ [] ∧
    ∀ i ∈ Region.ready md ops listed, (i ≠ n → wpOp P ops Q i (fun a' w' => S w' ∧ wpAnyK P md ops Q S n fuel (listed.setIfInBounds i true) a' w') a w) ∧
      (i = n → wpOp P ops Q i (wpAny P md ops Q fuel (listed.setIfInBounds i true)) a w)

theorem wpAny_of_k : ∀ (fuel : Nat) (listed : Array Bool) (a : Act) (w : World), wpAnyK P md ops Q S n fuel listed a w → wpAny P md ops Q fuel listed a w
  | 0, _, _, _, h => h.elim
  | fuel + 1, _, _, _, h => ⟨fun h0 => absurd h0 h.1, fun i hi => by
      by_cases e : i = n
      · exact (h.2 i hi).2 e
      · exact wpOp_mono (fun a' w' h' => wpAny_of_k fuel _ a' w' h'.2) ((h.2 i hi).1 e)⟩

/-- The last operation waits for number i. -/
def Region.lastWaits (md : Region.Mode) (ops : Array Oper) (n i : Nat) : Bool :=
  match ops[n]? with
  | some o => o.after.any fun e => Region.binds md e && e.on == i
  | none => false

theorem wpAnyK_first {i : Nat} {oi : Oper} {v : Value} (hi : ops[i]? = some oi) (hin : i ≠ n) (hlast : Region.lastWaits md ops n i = true) (hsel : ∀ (j : Nat) (o : Oper) cs b, ops[j]? = some o → o.op ≠ .select cs b)
    (hQ : ∀ c a w, Q (.panic c) (a.put oi.dst v) w → Q (.panic c) a w) :
    ∀ (fuel : Nat) (listed : Array Bool) (a : Act) (w : World),
      (∀ j oj, ops[j]? = some oj → j ≠ i → listed.getD j true = false → (∀ e ∈ oj.after, Region.binds md e = true → e.on ≠ i) → oi.apart ops oj = true) →
      i ∈ Region.ready md ops listed → YieldsIf P ops S oi v a → S w →
      wpAnyK P md ops Q S n fuel (listed.setIfInBounds i true) (a.put oi.dst v) w → wpAnyK P md ops Q S n (fuel + 1) listed a w := by
  intro fuel
  induction fuel with
  | zero => intro listed a w _ _ _ _ H; exact H.elim
  | succ fuel ih =>
    intro listed a w hfree hr hy hS H
    have hun := (mem_ready.1 hr).1
    have nolist : listed.getD i false = false := by
      rcases Nat.lt_or_ge i listed.size with h' | h'
      · simp [h'] at hun ⊢; exact hun
      · simp [Array.getElem?_eq_none h'] at hun
    refine ⟨fun h => (by rw [h] at hr; cases hr), fun j hj => ?_⟩
    obtain ⟨hjun, oj, hoj, hall⟩ := mem_ready.1 hj
    have hnot : ∀ e ∈ oj.after, Region.binds md e = true → e.on ≠ i := fun e he hb heq => by
      have h1 := hall e he hb
      rw [heq, nolist] at h1
      cases h1
    have hjn : j ≠ n := fun e => by
      subst e
      unfold Region.lastWaits at hlast
      rw [hoj] at hlast
      obtain ⟨e, he, hb⟩ := Array.any_eq_true'.1 hlast
      simp only [Bool.and_eq_true, beq_iff_eq] at hb
      exact hnot e he hb.1 hb.2
    refine ⟨fun _ => ?_, fun e => absurd e hjn⟩
    by_cases hji : j = i
    · subst hji; exact hy.wpOp hi hS ⟨hS, H⟩
    · have h1 := (H.2 j (ready_mono hj hji)).1 hjn
      have h2 := wpOp_putIf hoj (hfree j oj hoj hji hjun hnot) (fun cs b => hsel i oi cs b hi) (fun cs b => hsel j oj cs b hoj) hQ hy h1
      have hfree' : ∀ k ok, ops[k]? = some ok → k ≠ i → (listed.setIfInBounds j true).getD k true = false →
          (∀ e ∈ ok.after, Region.binds md e = true → e.on ≠ i) → oi.apart ops ok = true := fun k ok hk hki hun hno => by
        refine hfree k ok hk hki ?_ hno
        by_cases hjk : j = k
        · subst hjk; exact hjun
        · rw [getD_set_ne true hjk] at hun; exact hun
      refine wpOp_mono (fun a' w' h3 => ⟨h3.2.1, ih (listed.setIfInBounds j true) a' w' hfree' (ready_mono hr (Ne.symm hji)) h3.1 h3.2.1 ?_⟩) h2
      rw [Array.setIfInBounds_comm _ _ hji]
      exact h3.2.2

theorem wpAnyK_take {oi : Oper} {v : Value} {fuel : Nat} {listed : Array Bool} {a : Act} {w : World} (i : Nat) (hi : ops[i]? = some oi) (hin : i ≠ n) (hlast : Region.lastWaits md ops n i = true)
    (hs : Region.noSelect ops = true) (hf : Region.free md ops listed i = true) (hr : (Region.ready md ops listed).contains i = true)
    (hQ : ∀ c a w, Q (.panic c) (a.put oi.dst v) w → Q (.panic c) a w) (hy : YieldsIf P ops S oi v a) (hS : S w)
    (h : wpAnyK P md ops Q S n fuel (listed.setIfInBounds i true) (a.put oi.dst v) w) : wpAnyK P md ops Q S n (fuel + 1) listed a w :=
  wpAnyK_first hi hin hlast (Region.noSelect_spec hs) hQ fuel listed a w (Region.free_spec hi hf) (by simpa using hr) hy hS h

/-- What comes up next is one of rs. -/
def ReadyK (P : Program) (md : Region.Mode) (ops : Array Oper) (Q : Exit → Act → World → Prop) (S : World → Prop) (n fuel : Nat) (listed : Array Bool) (a : Act) (w : World) (rs : List Nat) : Prop :=
  ∀ i ∈ rs, wpOp P ops Q i (fun a' w' => S w' ∧ wpAnyK P md ops Q S n fuel (listed.setIfInBounds i true) a' w') a w
theorem ReadyK.nil {fuel : Nat} {listed : Array Bool} {a : Act} {w : World} : ReadyK P md ops Q S n fuel listed a w [] := fun _ h => by cases h
theorem ReadyK.cons {i : Nat} {rs : List Nat} {oi : Oper} {fuel : Nat} {listed : Array Bool} {a : Act} {w : World} (ho : ops[i]? = some oi)
    (h : ∀ K : Act → World → Prop, Hid (∀ a' w', S w' → (S w' → wpAnyK P md ops Q S n fuel (listed.setIfInBounds i true) a' w') → K a' w') → if Region.wanted oi (yielded ops a.tmps) = true then Oper.wp P oi a w K Q else K (a.put oi.dst undef) w)
    (hs : ReadyK P md ops Q S n fuel listed a w rs) : ReadyK P md ops Q S n fuel listed a w (i :: rs) := fun j hj => by
  rcases List.mem_cons.1 hj with rfl | hj
  · have := h (fun a' w' => S w' ∧ wpAnyK P md ops Q S n fuel (listed.setIfInBounds j true) a' w') (Lib.hid (fun a' w' hS hW => ⟨hS, hW hS⟩))
    unfold wpOp
    simp only [ho]
    split
    · rename_i hw; rw [if_pos hw] at this; exact .inl this
    · rename_i hw; rw [if_neg hw] at this; exact this
  · exact hs j hj
theorem wpAnyK_ready {rs : List Nat} {fuel : Nat} {listed : Array Bool} {a : Act} {w : World} (hr : Region.ready md ops listed = rs) (hne : rs ≠ []) (hn : rs.contains n = false)
    (h : ReadyK P md ops Q S n fuel listed a w rs) : wpAnyK P md ops Q S n (fuel + 1) listed a w :=
  ⟨fun h0 => hne (hr ▸ h0), fun i hi => ⟨fun _ => h i (hr ▸ hi), fun e => by
    rw [hr] at hi
    subst e
    rw [List.contains_eq_mem] at hn
    simp [hi] at hn⟩⟩
/-- The last operation. -/
theorem wpAnyK_last {o : Oper} {listed : Array Bool} {a : Act} {w : World} {fuel : Nat} (hr : Region.ready md ops listed = [n]) (ho : ops[n]? = some o) (hdone : Region.ready md ops (listed.setIfInBounds n true) = [])
    (h : ∀ K : Act → World → Prop, Hid (∀ a' w', Q .normal a' w' → K a' w') → if Region.wanted o (yielded ops a.tmps) = true then Oper.wp P o a w K Q else K (a.put o.dst undef) w) : wpAnyK P md ops Q S n (fuel + 1) listed a w := by
  refine ⟨by rw [hr]; simp, fun i hi => ?_⟩
  rw [hr] at hi
  obtain rfl : i = n := by simpa using hi
  refine ⟨fun e => absurd rfl e, fun _ => ?_⟩
  have := h (wpAny P md ops Q fuel (listed.setIfInBounds i true)) (Lib.hid (fun a' w' hq => by
    cases fuel with
    | zero => exact ⟨hdone, hq⟩
    | succ fuel => exact ⟨fun _ => hq, fun j hj => by rw [hdone] at hj; cases hj⟩))
  unfold wpOp
  simp only [ho]
  split
  · rename_i hw; rw [if_pos hw] at this; exact .inl this
  · rename_i hw; rw [if_neg hw] at this; exact this
theorem wp_region_k {id : Nat} {a : Act} {w : World} (n : Nat) (hm : P.follows .mixedOrders = true) (hS : S w.drew)
    (h : S w.drew → wpAnyK P .any ops Q S n ops.size (Array.replicate ops.size false) a w.drew) : (Code.region id ops true).wp P Q a w :=
  wp_region_any hm (wpAny_of_k _ _ _ _ (h hS))
end

/- R02c -/
open Go.RowKit
set_option linter.unusedVariables false
set_option maxRecDepth 100000
set_option linter.unusedSimpArgs false

theorem maj_x {a b c : Int} (ha : Wd a) (hb : Wd b) : xorL [andI a b, andI a c, andI b c] = majI a b c := rfl
theorem ch_x {e f g : Int} (he : Wd e) (hf : Wd f) : xorI (andI e f) (andI (4294967295 - e) g) = chI e f g := (xorL2 (wd_and he hf)).symm
theorem addI_comm2 (a b : Int) : addI [a, b] = addI [b, a] := by rw [addI2, addI2, Int.add_comm]

theorem Rd.gb {w w' : World} {g off t : Nat} {xs : List Value} (h : Rd w (some ⟨g, off, none⟩) xs) (hG : w.grownBy w' (some t)) (hne : g ≠ t) : Rd w' (some ⟨g, off, none⟩) xs := fun i u hu => by
  obtain ⟨b, o, hA, hc⟩ := h i u hu
  refine ⟨b, o, hA, ?_⟩
  injection hA with hA
  injection hA with h1 h2
  subst h1 h2
  rw [← hc]
  unfold World.cell?
  simp only [hG.block _ (cell_lt hc) (fun e => hne (Option.some.inj e))]
theorem keep3_alloc {W : World} {o : Obj} {p q r : Addr} {u v x : Value} (h : W.cell? p = some u ∧ W.cell? q = some v ∧ W.cell? r = some x) : (W.alloc o).cell? p = some u ∧ (W.alloc o).cell? q = some v ∧ (W.alloc o).cell? r = some x :=
  ⟨(keep2_alloc ⟨h.1, h.2.1⟩).1, (keep2_alloc ⟨h.1, h.2.1⟩).2, (keep2_alloc h.2).2⟩
theorem wp_store_whole {P : Program} {op : Oper} {a : Act} {w : World} {K : Act → World → Prop} {Q : Exit → Act → World → Prop} (ty : TypeId) (x y : Operand) (ho : op.op = .store ty x y)
    (g : Nat) (arr : Array Value) (hx : a.eval x = .pointer (some ⟨g, 0, none⟩)) (hy : a.eval y = .agg arr) (cs : Array Value) (t : TypeId) (hg : w.heap[g]? = some (.cells cs t (0, 0))) (hsz : arr.size = cs.size)
    (hi : (P.info? ty).map (·.size) = some arr.size) (h1 : arr.all (·.oneCell') = true)
    (h : ∀ w', w'.heap[g]? = some (.cells arr t (0, 0)) → w.grownBy w' (some g) → K (a.put op.dst undef) w') : op.wp P a w K Q := by
  refine wp_store_mid ty x y ho g 0 arr hx hy (there_blk hg (Nat.le_of_eq hsz)) hi h1 (h _ ?_ ?_)
  · obtain ⟨ds, hd, hs, he⟩ := setCells_block g t (0, 0) arr.toList 0 w cs hg (by simp [hsz])
    have : ds = arr := by
      apply Array.ext_getElem?
      intro i
      rw [he i]
      by_cases hlt : i < arr.size
      · rw [if_pos (by simp; omega)]
        simp
      · rw [if_neg (by simp; omega), Array.getElem?_eq_none (by omega), Array.getElem?_eq_none (by omega)]
    rw [hd, this]
  · obtain ⟨e1, e2, e3⟩ := setCells_os g arr.toList 0 w
    exact ⟨e1, e2, e3, Nat.le_of_eq (setCells_size g _ _ _).symm, fun i hi hne => setCells_other g i (fun e => hne (by rw [e])) _ _ _⟩
theorem step2_end {w W T w10 : World} {B8 B7 g6 B2 B4 : Nat} {o8 o7 o2 o4 : Obj} {xs : List Value} (h10 : w10.heap[B8]? = some o8) (hG : T.grownBy w10 (some B8)) (hT : Below W.heap.size W T)
    (h7 : W.heap[B7]? = some o7) (h6 : Rd W (some ⟨g6, 0, none⟩) xs) (h2 : W.heap[B2]? = some o2) (h4 : W.heap[B4]? = some o4) (hB : Below w.heap.size w W) (n7 : B7 ≠ B8) (n6 : g6 ≠ B8) (n2 : B2 ≠ B8) (n4 : B4 ≠ B8) (hle : w.heap.size ≤ B8) :
    w10.heap[B8]? = some o8 ∧ w10.heap[B7]? = some o7 ∧ Rd w10 (some ⟨g6, 0, none⟩) xs ∧ w10.heap[B2]? = some o2 ∧ w10.heap[B4]? = some o4 ∧ Below w.heap.size w w10 :=
  have k := fun {i : Nat} {o : Obj} (h : W.heap[i]? = some o) (hne : i ≠ B8) => (hG.block i (cell_lt_of (cells_below h hT)) (fun e => hne (Option.some.inj e))).trans (cells_below h hT)
  ⟨h10, k h7 n7, (h6.below hT).gb hG n6, k h2 n2, k h4 n4, (hB.trans (hT.mono hB.size)).trans (grownBy_below' hG hle (Nat.le_trans hB.size hT.size))⟩
set_option maxHeartbeats 2000000 in
theorem step2_ws (ws st : List Int) (s : ByteArray) (w : World) (hst : Words8 st) (hs : s.size = 64) (hwl : ws.length = 64) (hww : ∀ x ∈ ws, Wd x)
    (hsp : ∀ W, Calls Tryz.prog 44 #[.string s] W fun e w' => ∃ g cap, e = .returned (.slice (some ⟨g, 0, none⟩) 64 cap) ∧ w'.ownsRow W.heap.size 3 1 (.slice (some ⟨g, 0, none⟩) 64 cap) 64 (ints ws) ∧ Below W.heap.size W w') :
    Calls Tryz.prog 23 #[.agg (ints st).toArray, .string s] w fun e w' => e = .returned (.tuple #[.agg (ints (addsTo st (rndsTo ws st 64) 8)).toArray, .bool true]) ∧ Below w.heap.size w w' := by
  have Hsp := Lib.hid hsp
  have Hwl := Lib.hid hwl
  have Hww := Lib.hid hww
  clear hwl hww hsp
  have h64 : ((s.size : Int) != 64) = false := by simp [hs]
  have Hs := Lib.hid hs
  have Hst := Lib.hid hst
  obtain ⟨s0, s1, s2, s3, s4, s5, s6, s7, hst', _⟩ := words8_open hst
  have Hst' := Lib.hid hst'
  rw [show (ints st).toArray = #[.int .i64 s0, .int .i64 s1, .int .i64 s2, .int .i64 s3, .int .i64 s4, .int .i64 s5, .int .i64 s6, .int .i64 s7] by rw [hst']; rfl]
  clear hs hst hst'
  go_enter Tryz.func23, Tryz.ntmps23
  go_wp2_with fail
  refine (all1 st _ _ _ _ (by rw [Hst'.out]; exact (rd_new w _ _).below ((Below.refl _ _).alloc (Nat.le_refl _) _)) (by rw [Hst'.out]; rfl) (by rw [Hst'.out]; simp) Hst.out.2).mono ?_
  rintro e w1 ⟨rfl, hw⟩
  obtain rfl := hw.symm
  clear hw
  have H2 := Lib.hid (keep_two (Below.refl _ ((w.alloc (.cells #[.int .i64 s0, .int .i64 s1, .int .i64 s2, .int .i64 s3, .int .i64 s4, .int .i64 s5, .int .i64 s6, .int .i64 s7] 55)).alloc (.cells zeros8 55))))
  have H4 := Lib.hid (show ((w.alloc (.cells #[.int .i64 s0, .int .i64 s1, .int .i64 s2, .int .i64 s3, .int .i64 s4, .int .i64 s5, .int .i64 s6, .int .i64 s7] 55)).alloc (.cells zeros8 55)).heap[w.heap.size + 1]? = some (.cells zeros8 55 (0, 0)) from keep_one' (Below.refl _ _) (by simp))
  have HB := Lib.hid (below_two (Below.refl _ ((w.alloc (.cells #[.int .i64 s0, .int .i64 s1, .int .i64 s2, .int .i64 s3, .int .i64 s4, .int .i64 s5, .int .i64 s6, .int .i64 s7] 55)).alloc (.cells zeros8 55))))
  go_wp2_with fail
  refine (Hsp.out _).mono ?_
  rintro e w2 ⟨g6, cap6, rfl, ho6, hw2⟩
  replace H2 := hblk_below H2 hw2
  replace H4 := hblk_below H4 hw2
  replace HB := Lib.hid (Below.chain HB.out hw2)
  have HR6 := Lib.hid (own_rd ho6)
  clear hw2 ho6
  have hlt4 : w.heap.size + 1 < w2.heap.size := cell_lt_of H4.out
  go_wp2_with fail
  refine (words2 _).mono ?_
  rintro e w3 ⟨rfl, hw3⟩
  have hb3 : Below w2.heap.size w2 w3 := by rw [hw3]; exact (Below.refl _ _).alloc (Nat.le_refl _) _
  have H7 : Hid (w3.heap[w2.heap.size]? = some (.cells (ints roundsT).toArray 3 (0, 0))) := Lib.hid (by rw [hw3]; exact heap_alloc_new w2 _)
  replace H2 := hblk_below H2 hb3
  replace H4 := hblk_below H4 hb3
  replace HB := Lib.hid (Below.chain HB.out hb3)
  replace HR6 := Lib.hid (HR6.out.below hb3)
  obtain ⟨B7, hB7⟩ : ∃ B, B = w2.heap.size := ⟨_, rfl⟩
  rw [← hB7] at H7 hlt4 ⊢
  clear hw3 hb3 hB7
  have c20 : w3.cell? ⟨w.heap.size, 0, none⟩ = some (.int .i64 s0) := by unfold World.cell?; simp only [H2.out]; rfl
  have c21 : w3.cell? ⟨w.heap.size, 1, none⟩ = some (.int .i64 s1) := by unfold World.cell?; simp only [H2.out]; rfl
  have c22 : w3.cell? ⟨w.heap.size, 2, none⟩ = some (.int .i64 s2) := by unfold World.cell?; simp only [H2.out]; rfl
  have c23 : w3.cell? ⟨w.heap.size, 3, none⟩ = some (.int .i64 s3) := by unfold World.cell?; simp only [H2.out]; rfl
  have c24 : w3.cell? ⟨w.heap.size, 4, none⟩ = some (.int .i64 s4) := by unfold World.cell?; simp only [H2.out]; rfl
  have c25 : w3.cell? ⟨w.heap.size, 5, none⟩ = some (.int .i64 s5) := by unfold World.cell?; simp only [H2.out]; rfl
  have c26 : w3.cell? ⟨w.heap.size, 6, none⟩ = some (.int .i64 s6) := by unfold World.cell?; simp only [H2.out]; rfl
  have c27 : w3.cell? ⟨w.heap.size, 7, none⟩ = some (.int .i64 s7) := by unfold World.cell?; simp only [H2.out]; rfl
  have hlt7 : B7 < w3.heap.size := cell_lt_of H7.out
  have hw6 : g6 < w3.heap.size := by
    obtain ⟨b, off, hA, hc⟩ := HR6.out.int_at (i := 0) (by rw [Hwl.out]; decide)
    injection hA with hA
    injection hA with h1 h2
    subst h1
    exact cell_lt hc
  go_wp2_with fail
  have H8 : Hid ((w3.alloc (.cells #[.int .i64 s0, .int .i64 s1, .int .i64 s2, .int .i64 s3, .int .i64 s4, .int .i64 s5, .int .i64 s6, .int .i64 s7] 55)).heap[w3.heap.size]? = some (.cells (ints st).toArray 55 (0, 0))) := by
    rw [Hst'.out]
    exact heap_alloc_new w3 _
  have hb4 : Below w3.heap.size w3 (w3.alloc (.cells #[.int .i64 s0, .int .i64 s1, .int .i64 s2, .int .i64 s3, .int .i64 s4, .int .i64 s5, .int .i64 s6, .int .i64 s7] 55)) := (Below.refl _ _).alloc (Nat.le_refl _) _
  rw [show #[Value.int .i64 s0, .int .i64 s1, .int .i64 s2, .int .i64 s3, .int .i64 s4, .int .i64 s5, .int .i64 s6, .int .i64 s7] = (ints st).toArray by rw [Hst'.out]; rfl] at H2
  replace H2 := hblk_below H2 hb4
  replace H4 := hblk_below H4 hb4
  replace H7 := hblk_below H7 hb4
  replace HR6 := Lib.hid (HR6.out.below hb4)
  replace HB := Lib.hid (Below.chain HB.out hb4)
  obtain ⟨B8, hB8⟩ : ∃ B, B = w3.heap.size := ⟨_, rfl⟩
  rw [← hB8] at H8 hlt7 hw6 ⊢
  generalize w3.alloc (.cells #[.int .i64 s0, .int .i64 s1, .int .i64 s2, .int .i64 s3, .int .i64 s4, .int .i64 s5, .int .i64 s6, .int .i64 s7] 55) = w4 at H2 H4 H8 H7 HB HR6 ⊢
  clear hb4 c20 c21 c22 c23 c24 c25 c26 c27 hB8
  go_loopw [9] (fun i wr => ∃ k : Nat, k ≤ 64 ∧ i = .int .i64 k ∧ wr.heap[B8]? = some (.cells (ints (rndsTo ws st k)).toArray 55 (0, 0)) ∧ wr.heap[B7]? = some (.cells (ints roundsT).toArray 3 (0, 0)) ∧ Rd wr (some ⟨g6, 0, none⟩) (ints ws) ∧ wr.heap[w.heap.size]? = some (.cells (ints st).toArray 55 (0, 0)) ∧ wr.heap[w.heap.size + 1]? = some (.cells zeros8 55 (0, 0)) ∧ Below w.heap.size w wr) (fun i _ => 64 - (intOf i).toNat)
  case atStart => exact ⟨0, by omega, rfl, H8.out, H7.out, HR6.out, H2.out, H4.out, HB.out⟩
  case round =>
    obtain ⟨k, hk, rfl, h8, h7, hr6, h2, h4, hB⟩ := hrel
    replace H8 := Lib.hid h8
    replace H7 := Lib.hid h7
    replace HR6 := Lib.hid hr6
    replace H2 := Lib.hid h2
    replace H4 := Lib.hid h4
    replace HB := Lib.hid hB
    clear h8 h7 hr6 h2 h4 hB
    by_cases hlt : k < 64
    · obtain ⟨a, b, c, d, e, f, g, h, hnow, ha, hb, hc, hd, he, hf, hg, hh⟩ := words8_open (rnds_words (ws := ws) Hst.out k)
      have Wa := Lib.hid ha
      have Wb := Lib.hid hb
      have Wc := Lib.hid hc
      have Wd' := Lib.hid hd
      have We := Lib.hid he
      have Wf := Lib.hid hf
      have Wg := Lib.hid hg
      have Wh := Lib.hid hh
      have Hnext := Lib.hid (show rndsTo ws st (k + 1) = rnd (roundsT.getD k 0) (ws.getD k 0) [a, b, c, d, e, f, g, h] by rw [rndsTo, hnow])
      rw [hnow] at H8
      have hb' := he.1
      have hb'' := he.2
      clear ha hb hc hd he hf hg hh hnow
      have cK := (ints_cell H7.out (i := k) hlt).1
      have cW : wr.cell? ⟨g6, k, none⟩ = some (.int .i64 (ws.getD k 0)) := by
        obtain ⟨b', off, hA, hc⟩ := HR6.out.int_at (i := k) (by rw [Hwl.out]; exact hlt)
        injection hA with hA
        injection hA with h1 h2
        subst h1 h2
        rw [Nat.zero_add] at hc
        exact hc
      have WK := Lib.hid (wd_get roundsT_wd k)
      have WW := Lib.hid (wd_get Hww.out k)
      generalize roundsT.getD k 0 = K at cK WK Hnext
      generalize ws.getD k 0 = X at cW WW Hnext
      have CK := Lib.hid cK
      have CW := Lib.hid cW
      clear cK cW
      have kI : (k : Int) < 64 := by omega
      have hne : IntKind.i64.wrap (4294967295 - e) = 4294967295 - e := IntWalk.i64_in _ (by omega)
      obtain ⟨⟨c0, c1, c2, c3, c4, c5, c6, c7⟩, f0, f1, f2, f3, f4, f5, f6, f7⟩ := eight_cells H8.out
      clear f0 f1 f2 f3 f4 f5 f6 f7
      go_wp2_with fail
      go_quiet ((first
        | (go_at_call 47; exact Calls.quiet_of_same (both1 _ _ _ (by first | exact We.out | exact wd_not We.out) (by first | exact Wf.out | exact Wg.out)))
        | (go_at_call 46; exact Calls.quiet_of_same (unlike1 _ _ _ (by exact wd_and We.out Wf.out) (by exact wd_and (wd_not We.out) Wg.out)))))
      clear c0 c1 c2 c3 c4 c5 c6 c7
      rw [ch_x We.out Wf.out]
      replace H8 : Hid ((wr.drewN nq).heap[B8]? = _) := H8
      replace H7 : Hid ((wr.drewN nq).heap[B7]? = _) := H7
      replace HR6 : Hid (Rd (wr.drewN nq) _ _) := HR6
      replace H2 : Hid ((wr.drewN nq).heap[w.heap.size]? = _) := H2
      replace H4 : Hid ((wr.drewN nq).heap[w.heap.size + 1]? = _) := H4
      replace CK : Hid ((wr.drewN nq).cell? _ = _) := CK
      replace CW : Hid ((wr.drewN nq).cell? _ = _) := CW
      replace HB := Lib.hid (below_drewN HB.out nq)
      generalize wr.drewN nq = wq at H8 H7 HR6 H2 H4 HB CK CW ⊢
      go_wp2_with fail
      obtain ⟨⟨c0, c1, c2, c3, c4, c5, c6, c7⟩, f0, f1, f2, f3, f4, f5, f6, f7⟩ := eight_cells H8.out
      clear f0 f1 f2 f3 f4 f5 f6 f7
      go_quiet ((first
        | (go_at_call 47; exact Calls.quiet_of_same (both1 _ _ _ (by first | exact Wa.out | exact Wb.out) (by first | exact Wb.out | exact Wc.out)))
        | (go_at_call 48; exact Calls.quiet_of_same ((three2 _ _ _ _ (by exact wd_and Wa.out Wb.out) (by exact wd_and Wa.out Wc.out) (by exact wd_and Wb.out Wc.out)).mono fun _ _ h => ⟨h.1, h.2.symm⟩))))
      clear c0 c1 c2 c3 c4 c5 c6 c7
      replace H8 : Hid ((wq.drewN nq).heap[B8]? = _) := H8
      replace H7 : Hid ((wq.drewN nq).heap[B7]? = _) := H7
      replace HR6 : Hid (Rd (wq.drewN nq) _ _) := HR6
      replace H2 : Hid ((wq.drewN nq).heap[w.heap.size]? = _) := H2
      replace H4 : Hid ((wq.drewN nq).heap[w.heap.size + 1]? = _) := H4
      replace CK : Hid ((wq.drewN nq).cell? _ = _) := CK
      replace CW : Hid ((wq.drewN nq).cell? _ = _) := CW
      replace HB := Lib.hid (below_drewN HB.out nq)
      generalize wq.drewN nq = wx at H8 H7 HR6 H2 H4 HB CK CW ⊢
      go_wp2_with fail
      have HX : Below wx.heap.size wx wx.drew := (Below.refl _ _).drew
      have cK := CK.out
      have cW := CW.out
      have c7 : wx.cell? ⟨B8, 7, none⟩ = some (.int .i64 h) := (ints_cell H8.out (i := 7) (by simp)).1
      go_region_held3 (fun w' => w'.cell? ⟨B7, k, none⟩ = some (.int .i64 K) ∧ w'.cell? ⟨g6, k, none⟩ = some (.int .i64 X) ∧ w'.cell? ⟨B8, 7, none⟩ = some (.int .i64 h))
        (first | assumption | exact ⟨cK, cW, c7⟩ | exact keep3_alloc (by assumption))
        (first
          | ((go_at_call 50; refine (back2 _ _ _ (by exact We.out) (by omega) (by omega)).mono ?_); rintro _ w' ⟨rfl, rfl⟩)
          | ((go_at_call 48; refine (three2 _ _ _ _ (by exact wd_rot _ We.out) (by exact wd_rot _ We.out) (by exact wd_rot _ We.out)).mono ?_); rintro _ w' ⟨rfl, rfl⟩)
          | ((go_at_call 49; refine (add2 _ _ _ [_, _, _, _, _] _ (by exact rd_new' _ _ _ _ (by simp)) rfl (by simp) (by exact wd5 Wh.out (wd_S1 We.out) (wd_ch We.out Wf.out Wg.out) WK.out WW.out)).mono ?_); rintro _ w' ⟨rfl, rfl⟩))
      clear cK cW c7
      go_wp2_with (first
          | ((go_at_call 50; refine (back2 _ _ _ (by exact Wa.out) (by omega) (by omega)).mono ?_); rintro _ w' ⟨rfl, rfl⟩)
          | ((go_at_call 48; refine (three2 _ _ _ _ (by exact wd_rot _ Wa.out) (by exact wd_rot _ Wa.out) (by exact wd_rot _ Wa.out)).mono ?_); rintro _ w' ⟨rfl, rfl⟩)
          | ((go_at_call 49; refine (add2 _ _ _ [_, _] _ (by exact rd_new' _ _ _ _ (by simp)) rfl (by simp) (by exact wordsB2.2 ⟨wd_S0 Wa.out, wd_maj Wa.out Wb.out Wc.out⟩)).mono ?_); rintro _ w' ⟨rfl, rfl⟩))
      have hW2 : ∀ o1 o2, Below wx.heap.size wx ((wx.alloc o1).alloc o2).drew := fun o1 o2 => (((Below.refl _ _).alloc (Nat.le_refl _) o1).alloc (by simp) o2).drew
      have WU : Hid (Wd (addI [h, xorL [rotI e 26, rotI e 21, rotI e 7], chI e f g, K, X])) := Lib.hid (wd_add _)
      have WV : Hid (Wd (addI [xorL [rotI a 30, rotI a 19, rotI a 10], xorL [andI a b, andI a c, andI b c]])) := Lib.hid (wd_add _)
      replace Hnext : Hid (rndsTo ws st (k + 1) = [addI [addI [h, xorL [rotI e 26, rotI e 21, rotI e 7], chI e f g, K, X], addI [xorL [rotI a 30, rotI a 19, rotI a 10], xorL [andI a b, andI a c, andI b c]]], a, b, c, addI [d, addI [h, xorL [rotI e 26, rotI e 21, rotI e 7], chI e f g, K, X]], e, f, g]) := Hnext
      generalize addI [h, xorL [rotI e 26, rotI e 21, rotI e 7], chI e f g, K, X] = U at Hnext WU ⊢
      generalize addI [xorL [rotI a 30, rotI a 19, rotI a 10], xorL [andI a b, andI a c, andI b c]] = V at Hnext WV ⊢
      generalize hWe : ((wx.alloc (Obj.cells #[Value.int IntKind.i64 h, Value.int IntKind.i64 (xorL [rotI e 26, rotI e 21, rotI e 7]), Value.int IntKind.i64 (chI e f g), Value.int IntKind.i64 K, Value.int IntKind.i64 X] 3)).alloc (Obj.cells #[Value.int IntKind.i64 (xorL [rotI a 30, rotI a 19, rotI a 10]), Value.int IntKind.i64 (xorL [andI a b, andI a c, andI b c])] 3)).drew = W
      have hbW : Below wx.heap.size wx W := hWe ▸ hW2 _ _
      replace H8 := hblk_below H8 hbW
      replace H7 := hblk_below H7 hbW
      replace HR6 := Lib.hid (HR6.out.below hbW)
      replace H2 := hblk_below H2 hbW
      replace H4 := hblk_below H4 hbW
      replace HB := Lib.hid (Below.chain HB.out hbW)
      clear hWe hbW hW2 HX CK CW
      -- REGION15
      refine wp_region_k (S := fun w' => w'.heap[B8]? = some (.cells (ints [a, b, c, d, e, f, g, h]).toArray 55 (0, 0)) ∧ Below W.heap.size W w') 20 (by kernel_rfl) (by exact ⟨H8.out, (Below.refl _ _).drew⟩) (fun hHeld => ?_)
      refine wpAnyK_take 0 (oi := _) (v := ?_) rfl (by decide) (by kernel_rfl) (by kernel_rfl) (by kernel_rfl) (by kernel_rfl) (fun _ _ _ h => h) (Or.inl ⟨by rfl, ?_⟩) hHeld ?_
      rotate_left
      · (intro w9 hS9; (try dsimp only at hS9); go_simp; try with_reducible rfl)
      try simp only [Act.put, List.setIfInBounds_toArray, List.set_cons_zero, List.set_cons_succ]
      refine wpAnyK_take 1 (oi := _) (v := ?_) rfl (by decide) (by kernel_rfl) (by kernel_rfl) (by kernel_rfl) (by kernel_rfl) (fun _ _ _ h => h) (Or.inl ⟨by rfl, ?_⟩) hHeld ?_
      rotate_left
      · (intro w9 hS9; (try dsimp only at hS9); go_simp; try with_reducible rfl)
      try simp only [Act.put, List.setIfInBounds_toArray, List.set_cons_zero, List.set_cons_succ]
      refine wpAnyK_take 4 (oi := _) (v := ?_) rfl (by decide) (by kernel_rfl) (by kernel_rfl) (by kernel_rfl) (by kernel_rfl) (fun _ _ _ h => h) (Or.inl ⟨by rfl, ?_⟩) hHeld ?_
      rotate_left
      · (intro w9 hS9; (try dsimp only at hS9); go_simp; try with_reducible rfl)
      try simp only [Act.put, List.setIfInBounds_toArray, List.set_cons_zero, List.set_cons_succ]
      refine wpAnyK_take 5 (oi := _) (v := ?_) rfl (by decide) (by kernel_rfl) (by kernel_rfl) (by kernel_rfl) (by kernel_rfl) (fun _ _ _ h => h) (Or.inl ⟨by rfl, ?_⟩) hHeld ?_
      rotate_left
      · (intro w9 hS9; (try dsimp only at hS9); go_simp; try with_reducible rfl)
      try simp only [Act.put, List.setIfInBounds_toArray, List.set_cons_zero, List.set_cons_succ]
      refine wpAnyK_take 6 (oi := _) (v := ?_) rfl (by decide) (by kernel_rfl) (by kernel_rfl) (by kernel_rfl) (by kernel_rfl) (fun _ _ _ h => h) (Or.inl ⟨by rfl, ?_⟩) hHeld ?_
      rotate_left
      · (intro w9 hS9; (try dsimp only at hS9); have q9 := (ints_cell hS9.1 (i := 1) (by simp)).1; simp only [List.getD_cons_succ, List.getD_cons_zero] at q9; go_simp; try with_reducible rfl)
      try simp only [Act.put, List.setIfInBounds_toArray, List.set_cons_zero, List.set_cons_succ]
      refine wpAnyK_take 7 (oi := _) (v := ?_) rfl (by decide) (by kernel_rfl) (by kernel_rfl) (by kernel_rfl) (by kernel_rfl) (fun _ _ _ h => h) (Or.inl ⟨by rfl, ?_⟩) hHeld ?_
      rotate_left
      · (intro w9 hS9; (try dsimp only at hS9); go_simp; try with_reducible rfl)
      try simp only [Act.put, List.setIfInBounds_toArray, List.set_cons_zero, List.set_cons_succ]
      refine wpAnyK_take 8 (oi := _) (v := ?_) rfl (by decide) (by kernel_rfl) (by kernel_rfl) (by kernel_rfl) (by kernel_rfl) (fun _ _ _ h => h) (Or.inl ⟨by rfl, ?_⟩) hHeld ?_
      rotate_left
      · (intro w9 hS9; (try dsimp only at hS9); have q9 := (ints_cell hS9.1 (i := 2) (by simp)).1; simp only [List.getD_cons_succ, List.getD_cons_zero] at q9; go_simp; try with_reducible rfl)
      try simp only [Act.put, List.setIfInBounds_toArray, List.set_cons_zero, List.set_cons_succ]
      refine wpAnyK_take 9 (oi := _) (v := ?_) rfl (by decide) (by kernel_rfl) (by kernel_rfl) (by kernel_rfl) (by kernel_rfl) (fun _ _ _ h => h) (Or.inl ⟨by rfl, ?_⟩) hHeld ?_
      rotate_left
      · (intro w9 hS9; (try dsimp only at hS9); go_simp; try with_reducible rfl)
      try simp only [Act.put, List.setIfInBounds_toArray, List.set_cons_zero, List.set_cons_succ]
      refine wpAnyK_take 10 (oi := _) (v := ?_) rfl (by decide) (by kernel_rfl) (by kernel_rfl) (by kernel_rfl) (by kernel_rfl) (fun _ _ _ h => h) (Or.inl ⟨by rfl, ?_⟩) hHeld ?_
      rotate_left
      · (intro w9 hS9; (try dsimp only at hS9); have q9 := (ints_cell hS9.1 (i := 3) (by simp)).1; simp only [List.getD_cons_succ, List.getD_cons_zero] at q9; go_simp; try with_reducible rfl)
      try simp only [Act.put, List.setIfInBounds_toArray, List.set_cons_zero, List.set_cons_succ]
      refine wpAnyK_take 11 (oi := _) (v := ?_) rfl (by decide) (by kernel_rfl) (by kernel_rfl) (by kernel_rfl) (by kernel_rfl) (fun _ _ _ h => h) (Or.inl ⟨by rfl, ?_⟩) hHeld ?_
      rotate_left
      · (intro w9 hS9; (try dsimp only at hS9); go_simp; try with_reducible rfl)
      try simp only [Act.put, List.setIfInBounds_toArray, List.set_cons_zero, List.set_cons_succ]
      refine wpAnyK_take 14 (oi := _) (v := ?_) rfl (by decide) (by kernel_rfl) (by kernel_rfl) (by kernel_rfl) (by kernel_rfl) (fun _ _ _ h => h) (Or.inl ⟨by rfl, ?_⟩) hHeld ?_
      rotate_left
      · (intro w9 hS9; (try dsimp only at hS9); go_simp; try with_reducible rfl)
      try simp only [Act.put, List.setIfInBounds_toArray, List.set_cons_zero, List.set_cons_succ]
      refine wpAnyK_take 15 (oi := _) (v := ?_) rfl (by decide) (by kernel_rfl) (by kernel_rfl) (by kernel_rfl) (by kernel_rfl) (fun _ _ _ h => h) (Or.inl ⟨by rfl, ?_⟩) hHeld ?_
      rotate_left
      · (intro w9 hS9; (try dsimp only at hS9); go_simp; try with_reducible rfl)
      try simp only [Act.put, List.setIfInBounds_toArray, List.set_cons_zero, List.set_cons_succ]
      refine wpAnyK_take 16 (oi := _) (v := ?_) rfl (by decide) (by kernel_rfl) (by kernel_rfl) (by kernel_rfl) (by kernel_rfl) (fun _ _ _ h => h) (Or.inl ⟨by rfl, ?_⟩) hHeld ?_
      rotate_left
      · (intro w9 hS9; (try dsimp only at hS9); have q9 := (ints_cell hS9.1 (i := 5) (by simp)).1; simp only [List.getD_cons_succ, List.getD_cons_zero] at q9; go_simp; try with_reducible rfl)
      try simp only [Act.put, List.setIfInBounds_toArray, List.set_cons_zero, List.set_cons_succ]
      refine wpAnyK_take 17 (oi := _) (v := ?_) rfl (by decide) (by kernel_rfl) (by kernel_rfl) (by kernel_rfl) (by kernel_rfl) (fun _ _ _ h => h) (Or.inl ⟨by rfl, ?_⟩) hHeld ?_
      rotate_left
      · (intro w9 hS9; (try dsimp only at hS9); go_simp; try with_reducible rfl)
      try simp only [Act.put, List.setIfInBounds_toArray, List.set_cons_zero, List.set_cons_succ]
      refine wpAnyK_take 18 (oi := _) (v := ?_) rfl (by decide) (by kernel_rfl) (by kernel_rfl) (by kernel_rfl) (by kernel_rfl) (fun _ _ _ h => h) (Or.inl ⟨by rfl, ?_⟩) hHeld ?_
      rotate_left
      · (intro w9 hS9; (try dsimp only at hS9); have q9 := (ints_cell hS9.1 (i := 6) (by simp)).1; simp only [List.getD_cons_succ, List.getD_cons_zero] at q9; go_simp; try with_reducible rfl)
      try simp only [Act.put, List.setIfInBounds_toArray, List.set_cons_zero, List.set_cons_succ]
      refine wpAnyK_ready (rs := [2, 12]) (by kernel_rfl) (by simp) (by kernel_rfl) ?_
      refine ReadyK.cons rfl (fun K hK => ?_) ?_
      · go_simp
        refine hK.out _ _ ?_ (fun hHeld => ?_)
        · exact ⟨(Below.heap_alloc _ _ _ (cell_lt_of hHeld.1)).trans hHeld.1, hHeld.2.alloc hHeld.2.size _⟩
        clear hK K
        try simp only [Act.put, List.setIfInBounds_toArray, List.set_cons_zero, List.set_cons_succ]
        refine wpAnyK_ready (rs := [3, 12]) (by kernel_rfl) (by simp) (by kernel_rfl) ?_
        refine ReadyK.cons rfl (fun K hK => ?_) ?_
        · go_simp
          go_at_call 49
          refine (add2 _ _ _ [U, V] _ (by first | exact rd_new' _ _ _ _ (by first | rfl | simp) | exact (rd_new' _ _ _ _ (by first | rfl | simp)).below (by exact ((Below.refl _ _).alloc (Nat.le_refl _) _).drew)) rfl (by simp) (by exact wordsB2.2 ⟨WU.out, WV.out⟩)).mono ?_
          rintro _ w' ⟨rfl, rfl⟩
          go_simp
          refine hK.out _ _ ?_ (fun hHeld => ?_)
          · exact hHeld
          clear hK K
          try simp only [Act.put, List.setIfInBounds_toArray, List.set_cons_zero, List.set_cons_succ]
          refine wpAnyK_ready (rs := [12]) (by kernel_rfl) (by simp) (by kernel_rfl) ?_
          refine ReadyK.cons rfl (fun K hK => ?_) ?_
          · go_simp
            refine hK.out _ _ ?_ (fun hHeld => ?_)
            · exact ⟨(Below.heap_alloc _ _ _ (cell_lt_of hHeld.1)).trans hHeld.1, hHeld.2.alloc hHeld.2.size _⟩
            clear hK K
            try simp only [Act.put, List.setIfInBounds_toArray, List.set_cons_zero, List.set_cons_succ]
            refine wpAnyK_ready (rs := [13]) (by kernel_rfl) (by simp) (by kernel_rfl) ?_
            refine ReadyK.cons rfl (fun K hK => ?_) ?_
            · go_simp
              go_at_call 49
              refine (add2 _ _ _ [d, U] _ (by first | exact rd_new' _ _ _ _ (by first | rfl | simp) | exact (rd_new' _ _ _ _ (by first | rfl | simp)).below (by exact ((Below.refl _ _).alloc (Nat.le_refl _) _).drew)) rfl (by simp) (by exact wordsB2.2 ⟨Wd'.out, WU.out⟩)).mono ?_
              rintro _ w' ⟨rfl, rfl⟩
              go_simp
              refine hK.out _ _ ?_ (fun hHeld => ?_)
              · exact hHeld
              clear hK K
              try simp only [Act.put, List.setIfInBounds_toArray, List.set_cons_zero, List.set_cons_succ]
              refine wpAnyK_take 19 (oi := _) (v := ?_) rfl (by decide) (by kernel_rfl) (by kernel_rfl) (by kernel_rfl) (by kernel_rfl) (fun _ _ _ h => h) (Or.inl ⟨by rfl, ?_⟩) hHeld ?_
              rotate_left
              · (intro w9 hS9; (try dsimp only at hS9); go_simp; try with_reducible rfl)
              try simp only [Act.put, List.setIfInBounds_toArray, List.set_cons_zero, List.set_cons_succ]
              refine wpAnyK_last (by kernel_rfl) rfl (by kernel_rfl) (fun K hK => ?_)
              rw [if_pos (by rfl)]
              refine wp_store_whole 55 _ _ rfl B8 (ints [addI [U, V], a, b, c, addI [d, U], e, f, g]).toArray rfl rfl _ 55 hHeld.1 rfl (by kernel_rfl) (ints_one _) ?_
              intro w10 h10 hG10
              refine hK.out _ _ ?_
              clear hK K
              try simp only [Act.put, List.setIfInBounds_toArray, List.set_cons_zero, List.set_cons_succ]
              have hE := Lib.hid (step2_end h10 hG10 hHeld.2 H7.out HR6.out H2.out H4.out HB.out (by omega) (by omega) (by omega) (by omega) (by omega))
              clear h10 hG10 hHeld
              go_wp2_with fail
              go_roundw
              case rel => exact ⟨k + 1, by omega, by go_num, by rw [Hnext.out]; exact hE.out⟩
              case measure => simp [intOf]; omega
            exact ReadyK.nil
          exact ReadyK.nil
        refine ReadyK.cons rfl (fun K hK => ?_) ?_
        · go_simp
          refine hK.out _ _ ?_ (fun hHeld => ?_)
          · exact ⟨(Below.heap_alloc _ _ _ (cell_lt_of hHeld.1)).trans hHeld.1, hHeld.2.alloc hHeld.2.size _⟩
          clear hK K
          try simp only [Act.put, List.setIfInBounds_toArray, List.set_cons_zero, List.set_cons_succ]
          refine wpAnyK_ready (rs := [3]) (by kernel_rfl) (by simp) (by kernel_rfl) ?_
          refine ReadyK.cons rfl (fun K hK => ?_) ?_
          · go_simp
            go_at_call 49
            refine (add2 _ _ _ [U, V] _ (by first | exact rd_new' _ _ _ _ (by first | rfl | simp) | exact (rd_new' _ _ _ _ (by first | rfl | simp)).below (by exact ((Below.refl _ _).alloc (Nat.le_refl _) _).drew)) rfl (by simp) (by exact wordsB2.2 ⟨WU.out, WV.out⟩)).mono ?_
            rintro _ w' ⟨rfl, rfl⟩
            go_simp
            refine hK.out _ _ ?_ (fun hHeld => ?_)
            · exact hHeld
            clear hK K
            try simp only [Act.put, List.setIfInBounds_toArray, List.set_cons_zero, List.set_cons_succ]
            refine wpAnyK_ready (rs := [13]) (by kernel_rfl) (by simp) (by kernel_rfl) ?_
            refine ReadyK.cons rfl (fun K hK => ?_) ?_
            · go_simp
              go_at_call 49
              refine (add2 _ _ _ [d, U] _ (by first | exact rd_new' _ _ _ _ (by first | rfl | simp) | exact (rd_new' _ _ _ _ (by first | rfl | simp)).below (by exact ((Below.refl _ _).alloc (Nat.le_refl _) _).drew)) rfl (by simp) (by exact wordsB2.2 ⟨Wd'.out, WU.out⟩)).mono ?_
              rintro _ w' ⟨rfl, rfl⟩
              go_simp
              refine hK.out _ _ ?_ (fun hHeld => ?_)
              · exact hHeld
              clear hK K
              try simp only [Act.put, List.setIfInBounds_toArray, List.set_cons_zero, List.set_cons_succ]
              refine wpAnyK_take 19 (oi := _) (v := ?_) rfl (by decide) (by kernel_rfl) (by kernel_rfl) (by kernel_rfl) (by kernel_rfl) (fun _ _ _ h => h) (Or.inl ⟨by rfl, ?_⟩) hHeld ?_
              rotate_left
              · (intro w9 hS9; (try dsimp only at hS9); go_simp; try with_reducible rfl)
              try simp only [Act.put, List.setIfInBounds_toArray, List.set_cons_zero, List.set_cons_succ]
              refine wpAnyK_last (by kernel_rfl) rfl (by kernel_rfl) (fun K hK => ?_)
              rw [if_pos (by rfl)]
              refine wp_store_whole 55 _ _ rfl B8 (ints [addI [U, V], a, b, c, addI [d, U], e, f, g]).toArray rfl rfl _ 55 hHeld.1 rfl (by kernel_rfl) (ints_one _) ?_
              intro w10 h10 hG10
              refine hK.out _ _ ?_
              clear hK K
              try simp only [Act.put, List.setIfInBounds_toArray, List.set_cons_zero, List.set_cons_succ]
              have hE := Lib.hid (step2_end h10 hG10 hHeld.2 H7.out HR6.out H2.out H4.out HB.out (by omega) (by omega) (by omega) (by omega) (by omega))
              clear h10 hG10 hHeld
              go_wp2_with fail
              go_roundw
              case rel => exact ⟨k + 1, by omega, by go_num, by rw [Hnext.out]; exact hE.out⟩
              case measure => simp [intOf]; omega
            exact ReadyK.nil
          exact ReadyK.nil
        exact ReadyK.nil
      refine ReadyK.cons rfl (fun K hK => ?_) ?_
      · go_simp
        refine hK.out _ _ ?_ (fun hHeld => ?_)
        · exact ⟨(Below.heap_alloc _ _ _ (cell_lt_of hHeld.1)).trans hHeld.1, hHeld.2.alloc hHeld.2.size _⟩
        clear hK K
        try simp only [Act.put, List.setIfInBounds_toArray, List.set_cons_zero, List.set_cons_succ]
        refine wpAnyK_ready (rs := [2]) (by kernel_rfl) (by simp) (by kernel_rfl) ?_
        refine ReadyK.cons rfl (fun K hK => ?_) ?_
        · go_simp
          refine hK.out _ _ ?_ (fun hHeld => ?_)
          · exact ⟨(Below.heap_alloc _ _ _ (cell_lt_of hHeld.1)).trans hHeld.1, hHeld.2.alloc hHeld.2.size _⟩
          clear hK K
          try simp only [Act.put, List.setIfInBounds_toArray, List.set_cons_zero, List.set_cons_succ]
          refine wpAnyK_ready (rs := [3]) (by kernel_rfl) (by simp) (by kernel_rfl) ?_
          refine ReadyK.cons rfl (fun K hK => ?_) ?_
          · go_simp
            go_at_call 49
            refine (add2 _ _ _ [U, V] _ (by first | exact rd_new' _ _ _ _ (by first | rfl | simp) | exact (rd_new' _ _ _ _ (by first | rfl | simp)).below (by exact ((Below.refl _ _).alloc (Nat.le_refl _) _).drew)) rfl (by simp) (by exact wordsB2.2 ⟨WU.out, WV.out⟩)).mono ?_
            rintro _ w' ⟨rfl, rfl⟩
            go_simp
            refine hK.out _ _ ?_ (fun hHeld => ?_)
            · exact hHeld
            clear hK K
            try simp only [Act.put, List.setIfInBounds_toArray, List.set_cons_zero, List.set_cons_succ]
            refine wpAnyK_ready (rs := [13]) (by kernel_rfl) (by simp) (by kernel_rfl) ?_
            refine ReadyK.cons rfl (fun K hK => ?_) ?_
            · go_simp
              go_at_call 49
              refine (add2 _ _ _ [d, U] _ (by first | exact rd_new' _ _ _ _ (by first | rfl | simp) | exact (rd_new' _ _ _ _ (by first | rfl | simp)).below (by exact ((Below.refl _ _).alloc (Nat.le_refl _) _).drew)) rfl (by simp) (by exact wordsB2.2 ⟨Wd'.out, WU.out⟩)).mono ?_
              rintro _ w' ⟨rfl, rfl⟩
              go_simp
              refine hK.out _ _ ?_ (fun hHeld => ?_)
              · exact hHeld
              clear hK K
              try simp only [Act.put, List.setIfInBounds_toArray, List.set_cons_zero, List.set_cons_succ]
              refine wpAnyK_take 19 (oi := _) (v := ?_) rfl (by decide) (by kernel_rfl) (by kernel_rfl) (by kernel_rfl) (by kernel_rfl) (fun _ _ _ h => h) (Or.inl ⟨by rfl, ?_⟩) hHeld ?_
              rotate_left
              · (intro w9 hS9; (try dsimp only at hS9); go_simp; try with_reducible rfl)
              try simp only [Act.put, List.setIfInBounds_toArray, List.set_cons_zero, List.set_cons_succ]
              refine wpAnyK_last (by kernel_rfl) rfl (by kernel_rfl) (fun K hK => ?_)
              rw [if_pos (by rfl)]
              refine wp_store_whole 55 _ _ rfl B8 (ints [addI [U, V], a, b, c, addI [d, U], e, f, g]).toArray rfl rfl _ 55 hHeld.1 rfl (by kernel_rfl) (ints_one _) ?_
              intro w10 h10 hG10
              refine hK.out _ _ ?_
              clear hK K
              try simp only [Act.put, List.setIfInBounds_toArray, List.set_cons_zero, List.set_cons_succ]
              have hE := Lib.hid (step2_end h10 hG10 hHeld.2 H7.out HR6.out H2.out H4.out HB.out (by omega) (by omega) (by omega) (by omega) (by omega))
              clear h10 hG10 hHeld
              go_wp2_with fail
              go_roundw
              case rel => exact ⟨k + 1, by omega, by go_num, by rw [Hnext.out]; exact hE.out⟩
              case measure => simp [intOf]; omega
            exact ReadyK.nil
          exact ReadyK.nil
        exact ReadyK.nil
      exact ReadyK.nil
      -- END15
    · obtain rfl : k = 64 := by omega
      have Hfw := Lib.hid (rnds_words (ws := ws) Hst.out 64)
      generalize hfin : rndsTo ws st 64 = fin at H8 Hfw
      have Hfin := Lib.hid hfin
      clear hfin
      go_wp2_with fail
      obtain ⟨wo, hwo⟩ : ∃ wo : World, wo = wr := ⟨_, rfl⟩
      rw [← hwo] at H8 H7 H2 H4 HB ⊢
      clear hwo
      go_loopw [16] (fun i wr => ∃ k : Nat, k ≤ 8 ∧ i = .int .i64 k ∧ wr.heap[B8]? = some (.cells (ints (addsTo st fin k)).toArray 55 (0, 0)) ∧ wr.heap[w.heap.size]? = some (.cells (ints st).toArray 55 (0, 0)) ∧ wr.heap[w.heap.size + 1]? = some (.cells zeros8 55 (0, 0)) ∧ Below w.heap.size w wr) (fun i _ => 8 - (intOf i).toNat)
      case atStart => exact ⟨0, by omega, rfl, by rw [addsTo_zero st fin Hfw.out.1]; exact H8.out, H2.out, H4.out, HB.out⟩
      case round =>
        obtain ⟨i, hi, rfl, hSi, hS0i, hZi, hWi⟩ := hrel
        clear H8 H7 H2 H4 HB HR6
        by_cases hi8 : i < 8
        · have s0 := (ints_cell hSi (i := i) (by rw [addsTo_len]; exact hi8)).1
          have f0 := (ints_cell hSi (i := i) (by rw [addsTo_len]; exact hi8)).2
          have t0 := (ints_cell hS0i (i := i) (by rw [Hst.out.1]; exact hi8)).1
          rw [addsTo_at st fin i hi8] at s0
          have hxw : Wd (fin.getD i 0) := wd_get Hfw.out.2 i
          have hyw : Wd (st.getD i 0) := wd_get Hst.out.2 i
          have Hset := Lib.hid (addsTo_set st fin i hi8)
          have Hww' := Lib.hid (wordsB2.2 ⟨hxw, hyw⟩)
          generalize fin.getD i 0 = x at s0 Hset Hww'
          generalize st.getD i 0 = y at t0 Hset Hww'
          rw [addI_comm2] at Hset
          have HSi := Lib.hid hSi
          have HS0i := Lib.hid hS0i
          have HZi := Lib.hid hZi
          have HWi := Lib.hid hWi
          have ii : (i : Int) < 8 := by omega
          have hSl := cell_lt_of hSi
          have hS0l := cell_lt_of hS0i
          clear hSi hS0i hWi hxw hyw hZi
          go_wp2_with fail
          go_region_law (first | (go_simp; go_at_call 49; refine (add2 _ _ _ [x, y] _ (by exact rd_new' _ _ _ _ (by simp)) rfl (by simp) Hww'.out).mono ?_; rintro e w' ⟨rfl, rfl⟩))
          all_goals
            go_wp2_with fail
            have e1 := ints_set HSi.out i (addI [x, y])
            rw [Hset.out] at e1
            have e2 := (Below.heap_setCell wr ⟨B8, i, none⟩ (.int .i64 (addI [x, y])) w.heap.size (by simp only; omega)).trans HS0i.out
            have e4 := (Below.heap_setCell wr ⟨B8, i, none⟩ (.int .i64 (addI [x, y])) (w.heap.size + 1) (by simp only; omega)).trans HZi.out
            have e3 := HWi.out.setCell (p := ⟨B8, i, none⟩) (by simp only; omega) (.int .i64 (addI [x, y]))
            refine ⟨?_, by simp [intOf]; omega⟩
            repeat apply Exists.intro
            refine ⟨⟨i + 1, by omega, by go_num, ?_, ?_, ?_, ?_⟩, rfl⟩
            · exact (Below.heap_alloc _ _ _ (cell_lt_of e1)).trans e1
            · exact (Below.heap_alloc _ _ _ (cell_lt_of e2)).trans e2
            · exact (Below.heap_alloc _ _ _ (cell_lt_of e4)).trans e4
            · exact (e3.alloc e3.size _).drew
        · obtain rfl : i = 8 := by omega
          obtain ⟨x0, x1, x2, x3, x4, x5, x6, x7, hx, _⟩ := words8_open (addsTo_words st fin Hfw.out.2 8)
          rw [hx] at hSi
          obtain ⟨⟨c0, c1, c2, c3, c4, c5, c6, c7⟩, f0, f1, f2, f3, f4, f5, f6, f7⟩ := eight_cells hSi
          have hz : wr.heap[w.heap.size + 1]? = some (.cells (ints [0, 0, 0, 0, 0, 0, 0, 0]).toArray 55 (0, 0)) := hZi
          obtain ⟨⟨z0, z1, z2, z3, z4, z5, z6, z7⟩, g0, g1, g2, g3, g4, g5, g6', g7⟩ := eight_cells hz
          have Hz := Lib.hid hz
          have HWi := Lib.hid hWi
          have Hx := Lib.hid hx
          clear hSi hS0i hZi hz hWi hx
          go_wp2_with fail
          have h8 := set8_at (xs := [0, 0, 0, 0, 0, 0, 0, 0]) rfl Hz.out x0 x1 x2 x3 x4 x5 x6 x7
          have hG := set8_by wr (w.heap.size + 1) x0 x1 x2 x3 x4 x5 x6 x7
          have hr := World.rangeAt_of_block h8 0 8
          have hl := run_loadVar_mid (P := Tryz.prog) _ (w.heap.size + 1) 0 55 _ _ hr Tryz.underlying55 rfl (by kernel_rfl)
          refine bodyPost_ret (res_cell_tmp rfl _ _ (w.heap.size + 1) rfl _ hl) rfl ?_
          refine ⟨?_, HWi.out.trans (grownBy_below' hG (by omega) HWi.out.size)⟩
          rw [Hfin.out, Hx.out]
          rfl
theorem step2 (st : List Int) (s : ByteArray) (w : World) (hst : Words8 st) (hs : s.size = 64) :
    Calls Tryz.prog 23 #[.agg (ints st).toArray, .string s] w fun e w' => e = .returned (.tuple #[.agg (ints (stepL st s.data.toList)).toArray, .bool true]) ∧ Below w.heap.size w w' :=
  step2_ws _ st s w hst hs (wTo_len _ (by simp [cutL]) _) (wTo_wd _ (cutL_words _ _ _) _) fun W => spread2 s W hs

/- R02d -/
open Go.RowKit
set_option linter.unusedVariables false
set_option maxRecDepth 100000
set_option linter.unusedSimpArgs false

theorem start2 (w : World) : Calls Tryz.prog 22 #[] w fun e w' => e = .returned (.agg (ints startL).toArray) ∧ Below w.heap.size w w' := by
  go_enter Tryz.func22, Tryz.ntmps22
  go_wp2_with fail
  refine bodyPost_ret (v := .agg (ints startL).toArray) (by simp [results, Tryz.results22, go_sem, ints, startL]) rfl ⟨rfl, (Below.refl _ _).alloc (Nat.le_refl _) _⟩

abbrev C8 (W : World) (B : Nat) (x0 x1 x2 x3 x4 x5 x6 x7 : Int) : Prop :=
  W.cell? ⟨B, 0, none⟩ = some (.int .i64 x0) ∧ W.cell? ⟨B, 1, none⟩ = some (.int .i64 x1) ∧ W.cell? ⟨B, 2, none⟩ = some (.int .i64 x2) ∧ W.cell? ⟨B, 3, none⟩ = some (.int .i64 x3) ∧ W.cell? ⟨B, 4, none⟩ = some (.int .i64 x4) ∧ W.cell? ⟨B, 5, none⟩ = some (.int .i64 x5) ∧ W.cell? ⟨B, 6, none⟩ = some (.int .i64 x6) ∧ W.cell? ⟨B, 7, none⟩ = some (.int .i64 x7)
theorem C8.below {W W' : World} {B : Nat} {x0 x1 x2 x3 x4 x5 x6 x7 : Int} (h : C8 W B x0 x1 x2 x3 x4 x5 x6 x7) (hb : Below W.heap.size W W') : C8 W' B x0 x1 x2 x3 x4 x5 x6 x7 := by
  have k : ∀ {p u}, W.cell? p = some u → W'.cell? p = some u := fun h => (hb.cell (cell_lt h)).trans h
  obtain ⟨h0, h1, h2, h3, h4, h5, h6, h7⟩ := h
  exact ⟨k h0, k h1, k h2, k h3, k h4, k h5, k h6, k h7⟩
theorem C8.alloc {W : World} {B : Nat} {x0 x1 x2 x3 x4 x5 x6 x7 : Int} (h : C8 W B x0 x1 x2 x3 x4 x5 x6 x7) (o : Obj) : C8 (W.alloc o) B x0 x1 x2 x3 x4 x5 x6 x7 := h.below ((Below.refl _ _).alloc (Nat.le_refl _) o)
theorem C8_set8 {W : World} {B g : Nat} {x0 x1 x2 x3 x4 x5 x6 x7 a b c d e f i h : Int} (h8 : C8 W B x0 x1 x2 x3 x4 x5 x6 x7) (hne : B ≠ g) : C8 (set8 W g a b c d e f i h) B x0 x1 x2 x3 x4 x5 x6 x7 := by
  have hG := set8_by W g a b c d e f i h
  have k : ∀ {o u}, W.cell? ⟨B, o, none⟩ = some u → (set8 W g a b c d e f i h).cell? ⟨B, o, none⟩ = some u := fun {o u} hc => by
    rw [← hc]
    unfold World.cell?
    simp only [hG.block B (cell_lt hc) (fun e => hne (Option.some.inj e))]
  obtain ⟨h0, h1, h2, h3, h4, h5, h6, h7⟩ := h8
  exact ⟨k h0, k h1, k h2, k h3, k h4, k h5, k h6, k h7⟩
theorem C8_sets {W : World} {B g : Nat} {x0 x1 x2 x3 x4 x5 x6 x7 a b c d e f i h : Int} (h8 : C8 W B x0 x1 x2 x3 x4 x5 x6 x7) (hne : B ≠ g) :
    C8 ((((((((W.setCell ⟨g, 0, none⟩ (.int .i64 a)).setCell ⟨g, 1, none⟩ (.int .i64 b)).setCell ⟨g, 2, none⟩ (.int .i64 c)).setCell ⟨g, 3, none⟩ (.int .i64 d)).setCell ⟨g, 4, none⟩ (.int .i64 e)).setCell ⟨g, 5, none⟩ (.int .i64 f)).setCell ⟨g, 6, none⟩ (.int .i64 i)).setCell ⟨g, 7, none⟩ (.int .i64 h)) B x0 x1 x2 x3 x4 x5 x6 x7 := C8_set8 h8 hne
theorem bs_app (s : ByteArray) (l : List UInt8) : s ++ bs l = bs (s.data.toList ++ l) := by
  apply ByteArray.ext
  rw [ByteArray.data_append]
  simp [bs]

theorem stTo_words (l : List UInt8) : ∀ k, Words8 (stTo l k)
  | 0 => start_words
  | k + 1 => stepL_words (stTo_words l k) _
theorem ext_list (l : List UInt8) (P : Nat) : (bs l).extract P (P + 64) = bs ((l.drop P).take 64) := by
  rw [extract_bs, bs_data, List.drop_take, Nat.add_sub_cancel_left]
theorem ext_size (T : ByteArray) (P : Nat) (h : P + 64 ≤ T.size) : (T.extract P (P + 64)).size = 64 := by
  rw [ByteArray.size_extract]; omega
theorem step2_lit {x0 x1 x2 x3 x4 x5 x6 x7 y0 y1 y2 y3 y4 y5 y6 y7 : Int} (s : ByteArray) (w : World) (hst : Words8 [x0, x1, x2, x3, x4, x5, x6, x7]) (hs : s.size = 64) (hy : stepL [x0, x1, x2, x3, x4, x5, x6, x7] s.data.toList = [y0, y1, y2, y3, y4, y5, y6, y7]) :
    Calls Tryz.prog 23 #[.agg #[.int .i64 x0, .int .i64 x1, .int .i64 x2, .int .i64 x3, .int .i64 x4, .int .i64 x5, .int .i64 x6, .int .i64 x7], .string s] w fun e w' => e = .returned (.tuple #[.agg #[.int .i64 y0, .int .i64 y1, .int .i64 y2, .int .i64 y3, .int .i64 y4, .int .i64 y5, .int .i64 y6, .int .i64 y7], .bool true]) ∧ Below w.heap.size w w' := by
  have := step2 _ s w hst hs
  rw [hy] at this
  exact this
theorem step7_below {wr W W' : World} {B : Nat} {o : Obj} (h : W.heap[B]? = some o ∧ Below wr.heap.size wr W) (hb : Below W.heap.size W W') : W'.heap[B]? = some o ∧ Below wr.heap.size wr W' := ⟨cells_below h.1 hb, Below.chain h.2 hb⟩
theorem step7_alloc {wr W : World} {B : Nat} {o : Obj} (h : W.heap[B]? = some o ∧ Below wr.heap.size wr W) (o' : Obj) : (W.alloc o').heap[B]? = some o ∧ Below wr.heap.size wr (W.alloc o') := step7_below h ((Below.refl _ _).alloc (Nat.le_refl _) _)
theorem step7_store {wr W W' : World} {B g : Nat} {o : Obj} (h : W.heap[B]? = some o ∧ Below wr.heap.size wr W) (hG : W.grownBy W' (some g)) (hne : B ≠ g) (hle : wr.heap.size ≤ g) : W'.heap[B]? = some o ∧ Below wr.heap.size wr W' :=
  ⟨(hG.block B (cell_lt_of h.1) (fun e => hne (Option.some.inj e))).trans h.1, h.2.trans (grownBy_below' hG hle h.2.size)⟩
set_option maxHeartbeats 1000000 in
theorem sum2 (s : ByteArray) (w : World) (hs : s.size ≤ 1000000) :
    Calls Tryz.prog 7 #[.string s] w fun e w' => e = .returned (.string (bs (sumL s.data.toList))) ∧ Below w.heap.size w w' := by
  obtain ⟨N, hN⟩ := pad_64 s.size
  have hp : (padL s.size).length ≤ 100 := by rw [padL_len]; unfold padZ; omega
  have HN := Lib.hid hN
  clear hN
  go_enter Tryz.func7, Tryz.ntmps7
  go_wp2_with fail
  refine (pad2 s.size _ (by omega)).mono ?_
  rintro e w1 ⟨rfl, hb1⟩
  have hsz : ¬ 9223372036854775807 < s.size + (bs (padL s.size)).size := by rw [bs_size]; omega
  go_wp2_with fail
  rw [bs_app]
  refine (start2 _).mono ?_
  rintro e w2 ⟨rfl, hb2⟩
  have HB2 := Lib.hid (Below.chain hb1 hb2)
  clear hb1 hb2 hsz
  rw [show (ints startL).toArray = #[.int .i64 1779033703, .int .i64 3144134277, .int .i64 1013904242, .int .i64 2773480762, .int .i64 1359893119, .int .i64 2600822924, .int .i64 528734635, .int .i64 1541459225] from rfl]
  go_wp2_with fail
  have HT := Lib.hid (show sumL s.data.toList = joinL (stTo (s.data.toList ++ padL s.size) N) true by
    rw [sumL, len_data]
    congr 2
    have := HN.out
    omega)
  have HL := Lib.hid (show (bs (s.data.toList ++ padL s.size)).size = 64 * N by
    rw [bs_size, List.length_append, len_data]; exact HN.out)
  have hNb : N ≤ 20000 := by have := HN.out; omega
  clear hp HN
  generalize s.data.toList ++ padL s.size = all at HT HL ⊢
  have H6 := Lib.hid (heap_alloc_new w2 (.cells (ints startL).toArray 55))
  have HB3 := Lib.hid (HB2.out.alloc HB2.out.size (.cells (ints startL).toArray 55))
  have hle := HB2.out.size
  obtain ⟨B6, hB6⟩ : ∃ B, B = w2.heap.size := ⟨_, rfl⟩
  rw [← hB6] at H6 hle ⊢
  change Hid ((w2.alloc (.cells #[.int .i64 1779033703, .int .i64 3144134277, .int .i64 1013904242, .int .i64 2773480762, .int .i64 1359893119, .int .i64 2600822924, .int .i64 528734635, .int .i64 1541459225] 55)).heap[B6]? = some (.cells (ints startL).toArray 55 (0, 0))) at H6
  change Hid (Below w.heap.size w (w2.alloc (.cells #[.int .i64 1779033703, .int .i64 3144134277, .int .i64 1013904242, .int .i64 2773480762, .int .i64 1359893119, .int .i64 2600822924, .int .i64 528734635, .int .i64 1541459225] 55))) at HB3
  generalize w2.alloc (.cells #[.int .i64 1779033703, .int .i64 3144134277, .int .i64 1013904242, .int .i64 2773480762, .int .i64 1359893119, .int .i64 2600822924, .int .i64 528734635, .int .i64 1541459225] 55) = w3 at H6 HB3 ⊢
  clear hB6 HB2
  obtain ⟨T, hT⟩ : ∃ T, T = bs all := ⟨_, rfl⟩
  rw [← hT] at HL ⊢
  have HTe := Lib.hid hT
  clear hT
  go_loopw [7] (fun x wr => ∃ k : Nat, k ≤ N ∧ x = .int .i64 ((64 * k : Nat) : Int) ∧ wr.heap[B6]? = some (.cells (ints (stTo all k)).toArray 55 (0, 0)) ∧ Below w.heap.size w wr) (fun x _ => 64 * N - (intOf x).toNat)
  case atStart => exact ⟨0, by omega, rfl, H6.out, HB3.out⟩
  case round =>
    obtain ⟨k, hk, rfl, h6, hB⟩ := hrel
    clear H6 HB3
    have Hw8 := Lib.hid (stTo_words all k)
    obtain ⟨x0, x1, x2, x3, x4, x5, x6, x7, hx, _⟩ := words8_open (stTo_words all k)
    have HB := Lib.hid hB
    clear hB
    have hL := HL.out
    by_cases hlt : k < N
    · obtain ⟨P, hP⟩ : ∃ P, P = 64 * k := ⟨_, rfl⟩
      rw [← hP]
      have hPi : (P : Int) < (T.size : Int) := by omega
      have hPb : P ≤ 10000000 := by omega
      have hP4 : (P : Int) + 64 ≤ (T.size : Int) := by omega
      have hP0 : (0 : Int) ≤ (P : Int) := by omega
      have e64 : IntKind.i64.wrap ((P : Int) + 64) = (P : Int) + 64 := IntWalk.i64_in _ (by omega)
      have hPn : (0 : Int) ≤ (P : Int) + 64 := by omega
      have hPP : (P : Int) ≤ (P : Int) + 64 := by omega
      have hPt : ((P : Int) + 64).toNat = P + 64 := by omega
      have hE := ext_size T P (by omega)
      have HE := Lib.hid hE
      have Hst := Lib.hid (show stTo all (k + 1) = stepL (stTo all k) (T.extract P (P + 64)).data.toList by
        rw [HTe.out, ext_list, bs_data, hP]
        rfl)
      have HP := Lib.hid hP
      clear hE hL hP
      rw [hx] at h6 Hst Hw8
      obtain ⟨y0, y1, y2, y3, y4, y5, y6, y7, hy, _⟩ := words8_open (stepL_words Hw8.out (T.extract P (P + 64)).data.toList)
      have Hy := Lib.hid (hy)
      rw [hy] at Hst
      have H6 := Lib.hid h6
      have hlt6 := cell_lt_of h6
      have hC : C8 wr B6 x0 x1 x2 x3 x4 x5 x6 x7 := (eight_cells h6).1
      have HC := Lib.hid hC
      clear h6 hx hy hC
      clear HC
      go_wp2_with fail
      -- REGION7
      refine wp_region_held_drew (S := fun w' => w'.heap[B6]? = some (.cells (ints [x0, x1, x2, x3, x4, x5, x6, x7]).toArray 55 (0, 0)) ∧ Below wr.heap.size wr w') (by kernel_rfl) (by exact ⟨H6.out, (Below.refl _ _).drew⟩) (fun hHeld => ?_)
      refine wpAnyH_take (i := 0) (oi := _) (v := ?_) rfl (by kernel_rfl) (by kernel_rfl) (by kernel_rfl) (fun _ _ _ h => h) (Or.inl ⟨by rfl, ?_⟩) hHeld ?_
      rotate_left
      · (intro w9 hS9; (try dsimp only at hS9); obtain ⟨⟨q0, q1, q2, q3, q4, q5, q6, q7⟩, _⟩ := eight_cells hS9.1; go_simp; try with_reducible rfl)
      try simp only [Act.put, List.setIfInBounds_toArray, List.set_cons_zero, List.set_cons_succ]
      refine wpAnyH_take (i := 1) (oi := _) (v := ?_) rfl (by kernel_rfl) (by kernel_rfl) (by kernel_rfl) (fun _ _ _ h => h) (Or.inl ⟨by rfl, ?_⟩) hHeld ?_
      rotate_left
      · (intro w9 hS9; (try dsimp only at hS9); go_simp; try with_reducible rfl)
      try simp only [Act.put, List.setIfInBounds_toArray, List.set_cons_zero, List.set_cons_succ]
      refine wpAnyH_take (i := 2) (oi := _) (v := ?_) rfl (by kernel_rfl) (by kernel_rfl) (by kernel_rfl) (fun _ _ _ h => h) (Or.inl ⟨by rfl, ?_⟩) hHeld ?_
      rotate_left
      · (intro w9 hS9; (try dsimp only at hS9); go_simp; try with_reducible rfl)
      try simp only [Act.put, List.setIfInBounds_toArray, List.set_cons_zero, List.set_cons_succ]
      refine wpAnyH_take (i := 3) (oi := _) (v := ?_) rfl (by kernel_rfl) (by kernel_rfl) (by kernel_rfl) (fun _ _ _ h => h) (Or.inl ⟨by rfl, ?_⟩) hHeld ?_
      rotate_left
      · (intro w9 hS9; (try dsimp only at hS9); go_simp; try with_reducible rfl)
      try simp only [Act.put, List.setIfInBounds_toArray, List.set_cons_zero, List.set_cons_succ]
      refine wpAnyH_take (i := 4) (oi := _) (v := ?_) rfl (by kernel_rfl) (by kernel_rfl) (by kernel_rfl) (fun _ _ _ h => h) (Or.inl ⟨by rfl, ?_⟩) hHeld ?_
      rotate_left
      · (intro w9 hS9; (try dsimp only at hS9); go_simp; try with_reducible rfl)
      try simp only [Act.put, List.setIfInBounds_toArray, List.set_cons_zero, List.set_cons_succ]
      refine wpAnyH_take (i := 5) (oi := _) (v := ?_) rfl (by kernel_rfl) (by kernel_rfl) (by kernel_rfl) (fun _ _ _ h => h) (Or.inl ⟨by rfl, ?_⟩) hHeld ?_
      rotate_left
      · (intro w9 hS9; (try dsimp only at hS9); go_simp; try with_reducible rfl)
      try simp only [Act.put, List.setIfInBounds_toArray, List.set_cons_zero, List.set_cons_succ]
      refine wpAnyH_ready (rs := [6, 10]) (by kernel_rfl) (by simp) ?_
      refine AllReadyH.cons rfl (fun K hK => ?_) ?_
      · go_simp
        go_at_call 23
        refine (step2_lit _ _ Hw8.out HE.out Hy.out).mono ?_
        rintro _ w' ⟨rfl, hb9⟩
        have hlt9 : wr.heap.size ≤ w'.heap.size := hb9.size
        have hS9 := step7_below hHeld hb9
        refine hK.out _ _ hS9 (fun hHeld => ?_)
        clear hK K hb9 hS9
        try simp only [Act.put, List.setIfInBounds_toArray, List.set_cons_zero, List.set_cons_succ]
        refine wpAnyH_take (i := 7) (oi := _) (v := ?_) rfl (by kernel_rfl) (by kernel_rfl) (by kernel_rfl) (fun _ _ _ h => h) (Or.inl ⟨by rfl, ?_⟩) hHeld ?_
        rotate_left
        · (intro w9 hS9; (try dsimp only at hS9); go_simp; try with_reducible rfl)
        try simp only [Act.put, List.setIfInBounds_toArray, List.set_cons_zero, List.set_cons_succ]
        refine wpAnyH_take (i := 8) (oi := _) (v := ?_) rfl (by kernel_rfl) (by kernel_rfl) (by kernel_rfl) (fun _ _ _ h => h) (Or.inl ⟨by rfl, ?_⟩) hHeld ?_
        rotate_left
        · (intro w9 hS9; (try dsimp only at hS9); go_simp; try with_reducible rfl)
        try simp only [Act.put, List.setIfInBounds_toArray, List.set_cons_zero, List.set_cons_succ]
        refine wpAnyH_take (i := 9) (oi := _) (v := ?_) rfl (by kernel_rfl) (by kernel_rfl) (by kernel_rfl) (fun _ _ _ h => h) (Or.inl ⟨by rfl, ?_⟩) hHeld ?_
        rotate_left
        · (intro w9 hS9; (try dsimp only at hS9); go_simp; try with_reducible rfl)
        try simp only [Act.put, List.setIfInBounds_toArray, List.set_cons_zero, List.set_cons_succ]
        refine wpAnyH_ready (rs := [10]) (by kernel_rfl) (by simp) ?_
        refine AllReadyH.cons rfl (fun K hK => ?_) ?_
        · go_simp
          have hz9 := heap_alloc_new w' (.cells zeros8 55)
          refine hK.out _ _ (step7_alloc hHeld _) (fun hHeld => ?_)
          clear hK K
          try simp only [Act.put, List.setIfInBounds_toArray, List.set_cons_zero, List.set_cons_succ]
          refine wpAnyH_ready (rs := [11]) (by kernel_rfl) (by simp) ?_
          refine AllReadyH.cons rfl (fun K hK => ?_) ?_
          · rw [if_pos (by rfl)]
            refine wp_store_whole 55 _ _ rfl (w'.heap.size) (ints [y0, y1, y2, y3, y4, y5, y6, y7]).toArray rfl rfl zeros8 55 hz9 rfl (by kernel_rfl) (ints_one _) ?_
            intro w10 h10 hG10
            refine hK.out _ _ (step7_store hHeld hG10 (by omega) (by omega)) (fun hHeld => ?_)
            clear hK K hG10 hz9
            try simp only [Act.put, List.setIfInBounds_toArray, List.set_cons_zero, List.set_cons_succ]
            refine wpAnyH_take (i := 12) (oi := _) (v := ?_) rfl (by kernel_rfl) (by kernel_rfl) (by kernel_rfl) (fun _ _ _ h => h) (Or.inl ⟨by rfl, ?_⟩) hHeld ?_
            rotate_left
            · (intro w9 hS9; (try dsimp only at hS9); go_simp; try with_reducible rfl)
            try simp only [Act.put, List.setIfInBounds_toArray, List.set_cons_zero, List.set_cons_succ]
            refine wpAnyH_done (by kernel_rfl) ?_ _
            obtain ⟨⟨c0, c1, c2, c3, c4, c5, c6, c7⟩, e0, e1, e2, e3, e4, e5, e6, e7⟩ := eight_cells h10
            obtain ⟨⟨d0, d1, d2, d3, d4, d5, d6, d7⟩, f0, f1, f2, f3, f4, f5, f6, f7⟩ := eight_cells hHeld.1
            have HH := Lib.hid hHeld
            clear h10 hHeld
            go_wp2_with fail
            have h11 := set8_at (xs := [x0, x1, x2, x3, x4, x5, x6, x7]) rfl HH.out.1 y0 y1 y2 y3 y4 y5 y6 y7
            have hB9 := (HB.out.trans (HH.out.2.mono HB.out.size)).trans (grownBy_below' (set8_by w10 B6 y0 y1 y2 y3 y4 y5 y6 y7) hle (Nat.le_trans HB.out.size HH.out.2.size))
            have Hend := Lib.hid (And.intro h11 hB9)
            clear h11 hB9 c0 c1 c2 c3 c4 c5 c6 c7 d0 d1 d2 d3 d4 d5 d6 d7 e0 e1 e2 e3 e4 e5 e6 e7 f0 f1 f2 f3 f4 f5 f6 f7
            go_roundw
            case rel => exact ⟨k + 1, by omega, by have := HP.out; go_num, by rw [Hst.out]; exact Hend.out.1, Hend.out.2⟩
            case measure => have := HP.out; simp [intOf]; omega
          exact AllReadyH.nil
        exact AllReadyH.nil
      refine AllReadyH.cons rfl (fun K hK => ?_) ?_
      · go_simp
        refine hK.out _ _ (step7_alloc hHeld _) (fun hHeld => ?_)
        clear hK K
        try simp only [Act.put, List.setIfInBounds_toArray, List.set_cons_zero, List.set_cons_succ]
        refine wpAnyH_ready (rs := [6]) (by kernel_rfl) (by simp) ?_
        refine AllReadyH.cons rfl (fun K hK => ?_) ?_
        · go_simp
          go_at_call 23
          refine (step2_lit _ _ Hw8.out HE.out Hy.out).mono ?_
          rintro _ w' ⟨rfl, hb9⟩
          have hz9 : w'.heap[wr.heap.size]? = some (.cells zeros8 55 (0, 0)) := (hb9.block wr.heap.size (by simp)).trans (heap_alloc_new wr _)
          have hlt9 : wr.heap.size < w'.heap.size := cell_lt_of hz9
          have hS9 := step7_below hHeld hb9
          refine hK.out _ _ hS9 (fun hHeld => ?_)
          clear hK K hb9 hS9
          try simp only [Act.put, List.setIfInBounds_toArray, List.set_cons_zero, List.set_cons_succ]
          refine wpAnyH_take (i := 7) (oi := _) (v := ?_) rfl (by kernel_rfl) (by kernel_rfl) (by kernel_rfl) (fun _ _ _ h => h) (Or.inl ⟨by rfl, ?_⟩) hHeld ?_
          rotate_left
          · (intro w9 hS9; (try dsimp only at hS9); go_simp; try with_reducible rfl)
          try simp only [Act.put, List.setIfInBounds_toArray, List.set_cons_zero, List.set_cons_succ]
          refine wpAnyH_take (i := 8) (oi := _) (v := ?_) rfl (by kernel_rfl) (by kernel_rfl) (by kernel_rfl) (fun _ _ _ h => h) (Or.inl ⟨by rfl, ?_⟩) hHeld ?_
          rotate_left
          · (intro w9 hS9; (try dsimp only at hS9); go_simp; try with_reducible rfl)
          try simp only [Act.put, List.setIfInBounds_toArray, List.set_cons_zero, List.set_cons_succ]
          refine wpAnyH_take (i := 9) (oi := _) (v := ?_) rfl (by kernel_rfl) (by kernel_rfl) (by kernel_rfl) (fun _ _ _ h => h) (Or.inl ⟨by rfl, ?_⟩) hHeld ?_
          rotate_left
          · (intro w9 hS9; (try dsimp only at hS9); go_simp; try with_reducible rfl)
          try simp only [Act.put, List.setIfInBounds_toArray, List.set_cons_zero, List.set_cons_succ]
          refine wpAnyH_ready (rs := [11]) (by kernel_rfl) (by simp) ?_
          refine AllReadyH.cons rfl (fun K hK => ?_) ?_
          · rw [if_pos (by rfl)]
            refine wp_store_whole 55 _ _ rfl (wr.heap.size) (ints [y0, y1, y2, y3, y4, y5, y6, y7]).toArray rfl rfl zeros8 55 hz9 rfl (by kernel_rfl) (ints_one _) ?_
            intro w10 h10 hG10
            refine hK.out _ _ (step7_store hHeld hG10 (by omega) (by omega)) (fun hHeld => ?_)
            clear hK K hG10 hz9
            try simp only [Act.put, List.setIfInBounds_toArray, List.set_cons_zero, List.set_cons_succ]
            refine wpAnyH_take (i := 12) (oi := _) (v := ?_) rfl (by kernel_rfl) (by kernel_rfl) (by kernel_rfl) (fun _ _ _ h => h) (Or.inl ⟨by rfl, ?_⟩) hHeld ?_
            rotate_left
            · (intro w9 hS9; (try dsimp only at hS9); go_simp; try with_reducible rfl)
            try simp only [Act.put, List.setIfInBounds_toArray, List.set_cons_zero, List.set_cons_succ]
            refine wpAnyH_done (by kernel_rfl) ?_ _
            obtain ⟨⟨c0, c1, c2, c3, c4, c5, c6, c7⟩, e0, e1, e2, e3, e4, e5, e6, e7⟩ := eight_cells h10
            obtain ⟨⟨d0, d1, d2, d3, d4, d5, d6, d7⟩, f0, f1, f2, f3, f4, f5, f6, f7⟩ := eight_cells hHeld.1
            have HH := Lib.hid hHeld
            clear h10 hHeld
            go_wp2_with fail
            have h11 := set8_at (xs := [x0, x1, x2, x3, x4, x5, x6, x7]) rfl HH.out.1 y0 y1 y2 y3 y4 y5 y6 y7
            have hB9 := (HB.out.trans (HH.out.2.mono HB.out.size)).trans (grownBy_below' (set8_by w10 B6 y0 y1 y2 y3 y4 y5 y6 y7) hle (Nat.le_trans HB.out.size HH.out.2.size))
            have Hend := Lib.hid (And.intro h11 hB9)
            clear h11 hB9 c0 c1 c2 c3 c4 c5 c6 c7 d0 d1 d2 d3 d4 d5 d6 d7 e0 e1 e2 e3 e4 e5 e6 e7 f0 f1 f2 f3 f4 f5 f6 f7
            go_roundw
            case rel => exact ⟨k + 1, by omega, by have := HP.out; go_num, by rw [Hst.out]; exact Hend.out.1, Hend.out.2⟩
            case measure => have := HP.out; simp [intOf]; omega
          exact AllReadyH.nil
        exact AllReadyH.nil
      exact AllReadyH.nil
      -- END7
    · obtain rfl : k = N := by omega
      have hni : ¬ ((64 * k : Nat) : Int) < (T.size : Int) := by omega
      have HRd := Lib.hid (show Rd wr (some ⟨B6, 0, none⟩) (ints (stTo all k)) from fun j u hu => by
        have hj : j < (stTo all k).length := by
          rcases Nat.lt_or_ge j (stTo all k).length with h | h
          · exact h
          · simp [ints, h] at hu
        refine ⟨B6, 0, rfl, ?_⟩
        rw [Nat.zero_add, (ints_cell h6 hj).1]
        simpa [ints, hj] using hu)
      obtain ⟨Q, hQ⟩ : ∃ Q, Q = 64 * k := ⟨_, rfl⟩
      rw [← hQ] at hni ⊢
      clear hL hQ h6 hx
      go_wp2_with fail
      refine (join1 (stTo all k) _ _ _ true _ HRd.out (by rw [Hw8.out.1]) (by rw [Hw8.out.1]; decide) Hw8.out.2).mono ?_
      rintro e w9 ⟨rfl, hb9⟩
      have HB9 := Lib.hid (Below.chain HB.out hb9)
      clear hb9
      go_wp2_with fail
      go_ret
      exact ⟨by rw [HT.out]; rfl, HB9.out⟩

end Go.Proofs.YtniglledpjheaaaGreatDoor
