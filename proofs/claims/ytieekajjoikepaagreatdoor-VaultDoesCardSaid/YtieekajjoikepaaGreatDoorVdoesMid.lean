/-
  Contracts of keyholeref02: the small functions, Pad, spread. Contracts of keyholeref02: spread, words. A region that draws its order: loads are taken first under a condition S on the world that is shown anew behind every operation but the last one, which waits for all others. Contract of keyholeref02.Step. Contract of keyholeref02.Sum: the same function as digest.Sum.
  Contracts of the document's vault (keyholeref26): Head, Size.
  Contracts of the document's trees (keyholeref11): May, Leaf, Node, Rows, Root.
  Contracts of the document's volume (keyholeref16): Check.
  Contracts of the document's trees (keyholeref11): Rows, Root.
  Contracts of the document's platter (keyholeref13): Own, New, Check, Write, Read.
  Contracts of the document's platter (keyholeref13): Read, Crash where every text falls whole, Sync, Same of a disk and itself.
  Contracts of the document's platter (keyholeref13): Same of a disk and itself; Big, with what it is when it is not.
  Contracts of the document's platter (keyholeref13): Sync, Same of a disk and itself; of the document's twin (keyholeref14): body, Get, deed.
  Contracts of the document's twin (keyholeref14) at sector 0: body, Get, deed, Put.
  Contracts of the document's vault (keyholeref26): root, load, Load.
  Contract of the document's Put (keyholeref14) at sector 0.
  Small facts for the document's vault: cells beside a call, a new disk's box.
-/
import Derived.Test.YtieekajjoikepaaGreatDoorRa
import Derived.Test.YtieekajjoikepaaGreatDoorSh
import Derived.Test.YtieekajjoikepaaGreatDoorSm
import Derived.Deep.RegionLaw
import Derived.Deep.RegionHeld3
import Derived.Deep.AppendLies
import Derived.Deep.RegionHeld
import Derived.WalkKit
import Derived.Lib.Hide
import Derived.Test.YtieekajjoikepaaGreatDoorVh
import Derived.Test.YtieekajjoikepaaGreatDoorTr2
import Derived.Test.YtieekajjoikepaaGreatDoorVo
import Derived.Test.YtieekajjoikepaaGreatDoorTw
import Derived.Test.YtieekajjoikepaaGreatDoorCopyA
import Derived.StillTailTactics
import Derived.Deep.Cut
import Derived.Test.YtieekajjoikepaaGreatDoorPu
import Derived.Deep.QuietTactic
import Derived.Test.YtieekajjoikepaaGreatDoorPw
import Derived.Test.YtieekajjoikepaaGreatDoorTxt
import Derived.Deep.CutRange
import Derived.Test.YtieekajjoikepaaGreatDoorVo3
import Derived.Test.YtieekajjoikepaaGreatDoorVa8
import Derived.BigQuiet
namespace Go.Proofs.YtieekajjoikepaaGreatDoor
/- Rb -/
section
/- R02 -/
open Go.RowKit
set_option linter.unusedVariables false
set_option maxRecDepth 100000
set_option maxHeartbeats 600000

theorem xor0 {a : Int} (h : Wd a) : xorI 0 a = a := by
  obtain ⟨n, rfl, _⟩ := wd_nat h
  simp [xorI]
theorem xorL3 {a b c : Int} (h : Wd a) : xorL [a, b, c] = xorI (xorI a b) c := by
  show xorI (xorI (xorI 0 a) b) c = _
  rw [xor0 h]
theorem xorL2 {a b : Int} (h : Wd a) : xorL [a, b] = xorI a b := by
  show xorI (xorI 0 a) b = _
  rw [xor0 h]
theorem gb_below_own {W w1 : World} {B : Nat} {e : TypeId} {size : Nat} {v : Value} {n : Nat} {xs : List Value} (hg : W.grownBy w1 v.ownBlock) (ho : W.ownsRow B e size v n xs) (hB : B ≤ W.heap.size) : Below B W w1 :=
  ⟨hg.os, hg.tape, hg.output, hg.size, fun k hk => hg.block k (by omega) (fun e => by
    rcases ho.2 with ⟨hv, _⟩ | ⟨g1, cap1, cur, hv, hb, _⟩
    · rw [hv] at e; cases e
    · rw [hv] at e
      injection e with e
      simp only at e
      omega)⟩

theorem back2 (x n : Int) (w : World) (hx : Wd x) (h0 : 0 ≤ n) (h1 : n ≤ 32) : Calls Tryz.prog 165 #[.int .i64 x, .int .i64 n] w fun e w' => e = .returned (.int .i64 (rotI x (32 - n))) ∧ w = w' := by
  have HX := Lib.hid hx
  clear hx
  go_enter Tryz.func165, Tryz.ntmps165
  go_wp2_with fail
  refine (turned1 x (32 - n) _ HX.out (by omega) (by omega)).mono ?_
  rintro e w' ⟨rfl, rfl⟩
  go_wp2_with fail
  go_ret
  exact ⟨rfl, rfl⟩
theorem fall2' (x : Int) (n : Nat) (w : World) (hx : Wd x) (h1 : n ≤ 32) : Calls Tryz.prog 177 #[.int .i64 x, .int .i64 (n : Int)] w fun e w' => e = .returned (.int .i64 (fallI x n)) ∧ w = w' := by
  obtain ⟨m, rfl, hm⟩ := wd_nat hx
  clear hx
  go_enter Tryz.func177, Tryz.ntmps177
  go_wp2_with fail
  go_loop [0, 5] (fun v i => ∃ k : Nat, k ≤ n ∧ i = .int .i64 k ∧ v = .int .i64 (m / 2 ^ k : Nat)) (fun _ i => n - (intOf i).toNat)
  case atStart => exact ⟨0, by omega, rfl, by simp⟩
  case round =>
    obtain ⟨k, hk, rfl, rfl⟩ := hrel
    by_cases hlt : k < n
    · have hy : m / 2 ^ k ≤ m := Nat.div_le_self _ _
      have Hx := Lib.hid (show m / 2 ^ (k + 1) = m / 2 ^ k / 2 by rw [Nat.pow_succ, Nat.div_div_eq_div_mul])
      generalize m / 2 ^ k = y at hy Hx
      go_wp2_with fail
      go_round
      case rel => exact ⟨k + 1, by omega, by go_num, by rw [Hx.out]; go_num⟩
      case measure => simp [intOf]; omega
    · obtain rfl : k = n := by omega
      go_wp2_with fail
      go_ret
      exact ⟨ret_int (by rw [fallI]; simp), rfl⟩
theorem fall2 (x n : Int) (w : World) (hx : Wd x) (h0 : 0 ≤ n) (h1 : n ≤ 32) : Calls Tryz.prog 177 #[.int .i64 x, .int .i64 n] w fun e w' => e = .returned (.int .i64 (fallI x n)) ∧ w = w' := by
  obtain ⟨m, rfl⟩ := Int.eq_ofNat_of_zero_le h0
  exact fall2' x m w hx (by omega)
theorem three2 (a b c : Int) (w : World) (ha : Wd a) (hb : Wd b) (hc : Wd c) : Calls Tryz.prog 163 #[.int .i64 a, .int .i64 b, .int .i64 c] w fun e w' => e = .returned (.int .i64 (xorL [a, b, c])) ∧ w = w' := by
  rw [xorL3 ha]
  have HA := Lib.hid ha
  have HB := Lib.hid hb
  have HC := Lib.hid hc
  clear ha hb hc
  go_enter Tryz.func163, Tryz.ntmps163
  go_wp2_with fail
  refine (unlike1 a b _ HA.out HB.out).mono ?_
  rintro e w' ⟨rfl, rfl⟩
  go_wp2_with fail
  refine (unlike1 _ c _ (wd_xor HA.out HB.out) HC.out).mono ?_
  rintro e w' ⟨rfl, rfl⟩
  go_wp2_with fail
  go_ret
  exact ⟨rfl, rfl⟩
theorem addI2 (a b : Int) : addI [a, b] = (a + b) % 4294967296 := by simp [addI]
theorem add2 (A : Option Addr) (n c : Nat) (xs : List Int) (w : World) (h : Rd w A (ints xs)) (hn : n = xs.length) (hl : xs.length ≤ 1000) (hw : wordsB xs = true) :
    Calls Tryz.prog 164 #[.slice A n c] w fun e w' => e = .returned (.int .i64 (addI xs)) ∧ w = w' := by
  have HR := Lib.hid h
  have HN := Lib.hid hn
  have HW := Lib.hid hw
  have hn1 : n ≤ 1000 := by omega
  clear h hn hw
  go_enter Tryz.func164, Tryz.ntmps164
  go_wp2_with fail
  go_loop [3, 4] (fun s x => ∃ i : Nat, i ≤ n ∧ x = .int .i64 (i : Nat) ∧ s = .int .i64 (addI (xs.take i))) (fun _ x => n - (intOf x).toNat)
  case atStart => exact ⟨0, by omega, rfl, rfl⟩
  case round =>
    obtain ⟨i, hi, rfl, rfl⟩ := hrel
    by_cases hlt : i < n
    · have hil : i < xs.length := by rw [← HN.out]; exact hlt
      obtain ⟨b, off, hA, hc⟩ := HR.out.int_at (i := i) hil
      subst hA
      have hwd : Wd (xs.getD i 0) := wd_get (wd_all HW.out) i
      have hwa := wd_add (xs.take i)
      have Hsn := Lib.hid ((addI_snoc xs i hil).trans (addI2 _ _).symm)
      generalize xs.getD i 0 = x at hc hwd Hsn
      generalize addI (xs.take i) = y at hwa Hsn
      have hiI : (i : Int) < (n : Int) := by omega
      have HD := Lib.hid hwd
      have HA := Lib.hid hwa
      clear hwd hwa
      go_wp2_with fail
      refine (sum1 y x _ HA.out HD.out).mono ?_
      rintro e w1 ⟨rfl, rfl⟩
      go_wp2_with fail
      go_round
      case rel => exact ⟨i + 1, by omega, by go_num, by rw [Hsn.out]⟩
      case measure => simp [intOf]; omega
    · obtain rfl : i = n := by omega
      rw [show xs.take i = xs from List.take_of_length_le (by rw [HN.out]; exact Nat.le_refl _)]
      go_wp2_with fail
      go_ret
      exact ⟨rfl, rfl⟩

def pw8 (j : Nat) : Nat := 2 ^ (64 - 8 * j) / 256
theorem pw8_succ (j : Nat) (h : j < 8) : pw8 (j + 1) = pw8 j / 256 := by
  unfold pw8
  rw [show 64 - 8 * j = (64 - 8 * (j + 1)) + 8 by omega, Nat.pow_add]
  generalize 2 ^ (64 - 8 * (j + 1)) = q
  omega
theorem pw8_eq (j : Nat) (h : j < 8) : pw8 j = 2 ^ (56 - 8 * j) := by
  unfold pw8
  rw [show 64 - 8 * j = (56 - 8 * j) + 8 by omega, Nat.pow_add]
  generalize 2 ^ (56 - 8 * j) = q
  omega
theorem pad2 (n : Nat) (w : World) (hn : n ≤ 1000000000) :
    Calls Tryz.prog 134 #[.int .i64 (n : Int)] w fun e w' => e = .returned (.tuple #[.string (bs (padL n)), .bool true]) ∧ Below w.heap.size w w' := by
  have hz : padZ n ≤ 63 := by unfold padZ; omega
  go_enter Tryz.func134, Tryz.ntmps134
  go_wp2_with fail
  go_loopw [4] (fun v wr => ∃ (k g cap : Nat), 1 ≤ k ∧ k ≤ 1 + padZ n ∧ v = .slice (some ⟨g, 0, none⟩) k cap ∧ wr.ownsRow w.heap.size 5 1 v k (bytesV (128 :: List.replicate (k - 1) 0)) ∧ Below w.heap.size w wr) (fun v _ => 100 - lenOf v)
  case atStart => exact ⟨1, w.heap.size, 1, by omega, by omega, rfl, own_new (Nat.le_refl _) rfl (by unfold maxLen; omega), (Below.refl _ _).alloc (Nat.le_refl _) _⟩
  case round =>
    obtain ⟨k, g, cap, hk1, hk2, rfl, ho, hb⟩ := hrel
    have HO := Lib.hid ho
    clear ho
    by_cases hlt : k < 1 + padZ n
    · have hne : (((n : Int) + (k : Int) + 8) % 64 != 0) = true := by
        rw [bne_iff_ne]; unfold padZ at hlt; omega
      go_wp2_with (refine wpList_append_new (by rfl) (.tmp 21) (.tmp 22) 72 (by rfl) w.heap.size 5 (.int .u8 0) 1 1 Tryz.underlying72 uint8_info rfl (by omega) wr _ _ _ _ _ (by rfl) HO.out _ 1 1 (by rfl) (by rfl) (by rfl) (by rfl) (by omega) (by omega) (by omega) (by exact hb.size) ?_)
      intro g2 cap2 w2 ho2 hb2 _ _ _
      have HO2 := Lib.hid ho2
      clear ho2
      go_wp2_with fail
      go_roundw
      case rel =>
        refine ⟨k + 1, g2, cap2, by omega, by omega, rfl, ?_, hb.trans hb2⟩
        have := HO2.out
        rw [show bytesV (128 :: List.replicate (k - 1) 0) ++ [Value.int .u8 0] = bytesV (128 :: List.replicate (k + 1 - 1) 0) by
          rw [show k + 1 - 1 = (k - 1) + 1 by omega, List.replicate_succ']
          simp [bytesV]] at this
        exact this
      case measure => simp [lenOf]; omega
    · obtain rfl : k = 1 + padZ n := by omega
      have hne : (((n : Int) + ((1 + padZ n : Nat) : Int) + 8) % 64 != 0) = false := by
        rw [bne_eq_false_iff_eq]; unfold padZ; omega
      obtain ⟨k, hk⟩ : ∃ k, k = 1 + padZ n := ⟨_, rfl⟩
      rw [← hk] at hne HO ⊢
      have Hk := Lib.hid hk
      have hk64 : k ≤ 64 := by omega
      clear hk hk1 hk2 hlt
      go_wp2_with fail
      obtain ⟨wo, hwo⟩ : ∃ wo : World, wo = wr := ⟨_, rfl⟩
      rw [← hwo] at HO hb ⊢
      clear hwo
      go_loopw [4, 5, 6] (fun v p i wr => ∃ (j g cap : Nat), j ≤ 8 ∧ i = .int .i64 j ∧ p = .int .i64 (pw8 j : Nat) ∧ v = .slice (some ⟨g, 0, none⟩) (k + j) cap ∧ wr.ownsRow w.heap.size 5 1 v (k + j) (bytesV (128 :: List.replicate (k - 1) 0 ++ be8 (8 * n) j)) ∧ Below w.heap.size w wr) (fun _ _ i _ => 8 - (intOf i).toNat)
      case atStart => exact ⟨0, g, cap, by omega, rfl, rfl, rfl, by simpa [be8] using HO.out, hb⟩
      case round =>
        obtain ⟨j, g, cap, hj, rfl, rfl, rfl, ho, hb⟩ := hrel
        clear HO
        have HO := Lib.hid ho
        clear ho
        by_cases hlt : j < 8
        · have Hp1 := Lib.hid (pw8_succ j hlt)
          have hpe := pw8_eq j hlt
          have hp0 : 0 < pw8 j := by rw [hpe]; exact Nat.two_pow_pos _
          have hp9 : pw8 j ≤ 72057594037927936 := by
            rw [hpe]
            exact Nat.pow_le_pow_right (n := 2) (by omega) (show 56 - 8 * j ≤ 56 by omega)
          have Hby := Lib.hid (show (8 * (n : Int)) / ((pw8 j : Nat) : Int) % 256 = ((UInt8.ofNat ((8 * n) >>> (56 - 8 * j))).toNat : Int) by
            rw [← byte_shr, hpe]; simp)
          clear hpe
          generalize pw8 j = p at Hp1 hp0 hp9 Hby
          have hpne : ((p : Int) == 0) = false := by rw [beq_eq_false_iff_ne]; omega
          have hp1 : (1 : Int) ≤ (p : Int) := by omega
          go_wp2_with (refine wpList_append_new (by rfl) (.tmp 28) (.tmp 35) 72 (by rfl) w.heap.size 5 (.int .u8 0) 1 1 Tryz.underlying72 uint8_info rfl (by omega) wr _ _ _ _ _ (by rfl) HO.out _ 1 1 (by rfl) (by rfl) (by rfl) (by rfl) (by omega) (by omega) (by omega) (by exact hb.size) ?_)
          intro g2 cap2 w2 ho2 hb2 _ _ _
          have HO2 := Lib.hid ho2
          clear ho2
          go_wp2_with fail
          go_roundw
          case rel =>
            refine ⟨j + 1, g2, cap2, by omega, by go_num, by rw [Hp1.out]; go_num, by rw [Nat.add_assoc], ?_, hb.trans hb2⟩
            have := HO2.out
            rw [show bytesV (128 :: List.replicate (k - 1) 0 ++ be8 (8 * n) (j + 1)) = bytesV (128 :: List.replicate (k - 1) 0 ++ be8 (8 * n) j) ++ [Value.int .u8 ((UInt8.ofNat ((8 * n) >>> (56 - 8 * j))).toNat : Int)] by
              rw [be8, List.range_succ, List.map_append, ← be8]
              simp [bytesV]]
            rw [show k + (j + 1) = k + j + 1 by omega]
            rw [← Hby.out]
            rw [show (8 * (n : Int) / (p : Int)).tmod 256 % 256 = 8 * (n : Int) / (p : Int) % 256 by
              rw [Int.tmod_eq_emod_of_nonneg (Int.ediv_nonneg (by omega) (by omega)), Int.emod_emod_of_dvd _ (by decide)]] at this
            exact this
          case measure => simp [intOf]; omega
        · obtain rfl : j = 8 := by omega
          have hcv := conv_rd (own_rd HO.out) cap (k + 8) (by have := Hk.out; simp [be8]; omega)
          go_wp2_with fail
          go_ret2
          refine ⟨?_, hb⟩
          rw [padL, show padZ n = k - 1 by have := Hk.out; omega]
          rfl

/- R02b -/
open Go.RowKit
set_option linter.unusedVariables false
set_option maxRecDepth 100000
set_option maxHeartbeats 1000000

theorem wTo_take (l : List Int) (h : l.length = 16) (k : Nat) (hk : k < 48) : (wTo l (k + 1)).take (16 + (k + 1)) = (wTo l k).take (16 + k) ++ [wNext (wTo l k) (16 + k)] := by
  have hl := wTo_len l h k
  rw [wTo, show 16 + (k + 1) = 16 + k + 1 by omega]
  rw [List.take_succ_eq_append_getElem (by rw [List.length_set, hl]; omega)]
  rw [List.take_set_of_le (by omega), List.getElem_set_self]
theorem get_take {l : List Int} {i n : Nat} (h : i < n) : (l.take n).getD i 0 = l.getD i 0 := by
  rw [List.getD_eq_getElem?_getD, List.getElem?_take_of_lt h, List.getD_eq_getElem?_getD]
theorem new_two (w : World) (o : Obj) (o2 : Obj) : ((w.alloc o).alloc o2).drew.heap[w.heap.size + 1]? = some o2 := by
  have := heap_alloc_new (w.alloc o) o2
  rw [show (w.alloc o).heap.size = w.heap.size + 1 by simp] at this
  exact this
theorem spread2 (s : ByteArray) (w : World) (hs : s.size = 64) :
    Calls Tryz.prog 159 #[.string s] w fun e w' => ∃ g cap, e = .returned (.slice (some ⟨g, 0, none⟩) 64 cap) ∧ w'.ownsRow w.heap.size 3 1 (.slice (some ⟨g, 0, none⟩) 64 cap) 64 (ints (wTo (cutL s.data.toList true 16) 48)) ∧ Below w.heap.size w w' := by
  obtain ⟨i0, hi0, hz0, hz1, hz2⟩ := info_parts (int_info)
  have HI := Lib.hid hi0
  have HZ0 := Lib.hid hz0
  have HZ1 := Lib.hid hz1
  have HZ2 := Lib.hid hz2
  have Hs := Lib.hid hs
  clear hs hi0 hz0 hz1 hz2
  go_enter Tryz.func159, Tryz.ntmps159
  go_wp2_with fail
  refine (cut1 s true 16 _ Hs.out (by rw [Hs.out]; decide)).mono ?_
  rintro e w1 ⟨B, cap, rfl, ho1, hb1⟩
  have Hl : Hid ((cutL s.data.toList true 16).length = 16) := Lib.hid (by simp [cutL])
  have Hwd := Lib.hid (cutL_words s.data.toList true 16)
  generalize hle' : cutL s.data.toList true 16 = l at ho1 Hl Hwd
  have Hle' := Lib.hid hle'
  clear hle'
  have HO := Lib.hid ho1
  have HW := Lib.hid hb1
  clear ho1 hb1
  go_wp2_with fail
  go_loopw [3, 5] (fun v x wr => ∃ (k cap : Nat) (B : Option Addr), k ≤ 48 ∧ x = .int .i64 ((16 + k : Nat) : Int) ∧ v = .slice B (16 + k) cap ∧ wr.ownsRow w.heap.size 3 1 v (16 + k) (ints ((wTo l k).take (16 + k))) ∧ Below w.heap.size w wr) (fun _ x _ => 64 - (intOf x).toNat)
  case atStart =>
    refine ⟨0, cap, B, by omega, rfl, rfl, ?_, HW.out⟩
    have := HO.out
    rw [show (wTo l 0).take (16 + 0) = l by rw [wTo, List.take_append_of_le_length (by rw [Hl.out]; decide), List.take_of_length_le (by rw [Hl.out]; decide)]]
    exact this
  case round =>
    obtain ⟨k, cap, B, hk, rfl, rfl, ho, hW⟩ := hrel
    clear HO HW
    have HO := Lib.hid ho
    have HW := Lib.hid hW
    have hlen := wTo_len l Hl.out k
    have hwd := wTo_wd l Hwd.out k
    obtain ⟨g, off, hB⟩ : ∃ g off, B = some ⟨g, off, none⟩ := by
      have hr := own_rd ho
      obtain ⟨b, off, hA, _⟩ := hr.int_at (i := 0) (by rw [List.length_take, hlen]; omega)
      exact ⟨b, off, hA⟩
    subst hB
    have hr := own_rd ho
    obtain rfl : off = 0 := by
      rcases ho.2 with ⟨hv, _⟩ | ⟨g1, cap1, cur, hv, hb, _⟩
      · cases hv
      · injection hv with hv; injection hv with hv; injection hv with _ hv
    by_cases hlt : k < 48
    · obtain ⟨j, hj⟩ : ∃ j, j = 16 + k := ⟨_, rfl⟩
      have cell : ∀ i, i < 16 + k → wr.cell? ⟨g, i, none⟩ = some (.int .i64 ((wTo l k).getD i 0)) := fun i hi => by
        obtain ⟨b, off, hA, hc⟩ := hr.int_at (i := i) (by rw [List.length_take, hlen]; omega)
        injection hA with hA
        injection hA with h1 h2
        subst h1 h2
        rw [get_take hi, Nat.zero_add] at hc
        exact hc
      obtain ⟨a16, h16⟩ : ∃ a, a = j - 16 := ⟨_, rfl⟩
      obtain ⟨a15, h15⟩ : ∃ a, a = j - 15 := ⟨_, rfl⟩
      obtain ⟨a7, h7⟩ : ∃ a, a = j - 7 := ⟨_, rfl⟩
      obtain ⟨a2, h2⟩ : ∃ a, a = j - 2 := ⟨_, rfl⟩
      have c16 := cell a16 (by omega)
      have c15 := cell a15 (by omega)
      have c7 := cell a7 (by omega)
      have c2 := cell a2 (by omega)
      have Hstep := Lib.hid (show (wTo l (k + 1)).take (16 + (k + 1)) = (wTo l k).take (16 + k) ++ [addI [(wTo l k).getD a16 0, s0I ((wTo l k).getD a15 0), (wTo l k).getD a7 0, s1I ((wTo l k).getD a2 0)]] by
        rw [wTo_take l Hl.out k hlt, wNext, ← hj, ← h16, ← h15, ← h7, ← h2])
      have W16 := Lib.hid (wd_get hwd a16)
      have W15 := Lib.hid (wd_get hwd a15)
      have W7 := Lib.hid (wd_get hwd a7)
      have W2 := Lib.hid (wd_get hwd a2)
      generalize (wTo l k).getD a16 0 = x16 at c16 Hstep W16
      generalize (wTo l k).getD a15 0 = x15 at c15 Hstep W15
      generalize (wTo l k).getD a7 0 = x7 at c7 Hstep W7
      generalize (wTo l k).getD a2 0 = x2 at c2 Hstep W2
      rw [← hj]
      rw [← hj] at HO
      have b16 : (j : Int) - 16 = (a16 : Int) := by omega
      have b15 : (j : Int) - 15 = (a15 : Int) := by omega
      have b7 : (j : Int) - 7 = (a7 : Int) := by omega
      have b2 : (j : Int) - 2 = (a2 : Int) := by omega
      have d16 : (a16 : Int) < (j : Int) := by omega
      have d15 : (a15 : Int) < (j : Int) := by omega
      have d7 : (a7 : Int) < (j : Int) := by omega
      have d2 : (a2 : Int) < (j : Int) := by omega
      have dj : (j : Int) < 64 := by omega
      have hj16 : 16 ≤ j := by omega
      have Hj := Lib.hid hj
      have glt := cell_lt c16
      have hne : g ≠ wr.heap.size := by simp only at glt; omega
      clear ho hW hlen hwd hr cell h16 h15 h7 h2 hj
      go_wp2_with (first
        | ((go_at_call 165; refine (back2 _ _ _ (by first | exact W15.out | exact W2.out) (by omega) (by omega)).mono ?_); rintro e w' ⟨rfl, rfl⟩)
        | ((go_at_call 177; refine (fall2 _ _ _ (by first | exact W15.out | exact W2.out) (by omega) (by omega)).mono ?_); rintro e w' ⟨rfl, rfl⟩)
        | ((go_at_call 163; refine (three2 _ _ _ _ (by first | exact wd_rot _ W15.out | exact wd_rot _ W2.out) (by first | exact wd_rot _ W15.out | exact wd_rot _ W2.out) (by first | exact wd_fall _ W15.out | exact wd_fall _ W2.out)).mono ?_); rintro e w' ⟨rfl, rfl⟩))
      have e16 : IntKind.i64.wrap ((j : Int) - 16) = (a16 : Int) := by rw [IntWalk.i64_in _ (by omega)]; exact b16
      have e7 : IntKind.i64.wrap ((j : Int) - 7) = (a7 : Int) := by rw [IntWalk.i64_in _ (by omega)]; exact b7
      clear b16 b15 b7 b2 c15 c2 d15 d2
      go_region_law
        (first
          | (go_simp; (go_at_call 164; refine (add2 _ _ _ [x16, s0I x15, x7, s1I x2] _ (by exact rd_new' _ _ _ _ (by simp)) rfl (by simp) (by exact wd4 W16.out (wd_s0 W15.out) W7.out (wd_s1 W2.out))).mono ?_); rintro e w' ⟨rfl, rfl⟩)
          | (refine step_append_lies _ (by rfl) _ _ 71 (by rfl) w.heap.size 3 i0 (.int .i64 0) 1 8 Tryz.underlying71 HI.out HZ0.out HZ1.out HZ2.out rfl (by omega) (.slice (some ⟨g, 0, none⟩) j cap) j _ (by rfl) (by exact ((HO.out.alloc _).alloc _).drew) ⟨wr.heap.size + 1, 0, none⟩ 1 1 [.int .i64 (addI [x16, s0I x15, x7, s1I x2])] (by rfl) (by rfl) (World.news_of_block (cs := #[.int .i64 (addI [x16, s0I x15, x7, s1I x2])]) (t := 3) (fr := (0, 0)) (new_two _ _ _)) (by simp [Value.oneCell']) (by omega) (by unfold maxLen; omega) (by omega) (by have := HW.out.size; simp; omega) (wr.heap.size + 1 + 1) (by simp) ?_; intro gg cap2 w3 hown3 hgrow hat hlt3))
      all_goals
        have HO3 := Lib.hid hown3
        have HB3 := Lib.hid (((HW.out.alloc HW.out.size _).alloc (by have := HW.out.size; simp; omega) _).drew.trans (gb_below_own hgrow (((HO.out.alloc _).alloc _).drew) (by have := HW.out.size; simp; omega)))
        clear hown3 hgrow hat hlt3
        go_wp2_with fail
        go_roundw
        case rel =>
          refine ⟨k + 1, cap2, some ⟨gg, 0, none⟩, by omega, by rw [Hj.out]; go_num, by rw [Hj.out]; rfl, ?_, HB3.out⟩
          rw [Hstep.out]
          have := HO3.out
          rw [Hj.out] at this ⊢
          rw [show ints ((wTo l k).take (16 + k) ++ [addI [x16, s0I x15, x7, s1I x2]]) = ints ((wTo l k).take (16 + k)) ++ [.int .i64 (addI [x16, s0I x15, x7, s1I x2])] by simp [ints]]
          exact this
        case measure => have := Hj.out; simp [intOf]; omega
    · obtain rfl : k = 48 := by omega
      rw [List.take_of_length_le (by rw [hlen]; decide)] at HO
      clear ho hW hlen hwd hr
      go_wp2_with fail
      go_ret
      exact ⟨g, cap, rfl, by rw [Hle'.out]; exact HO.out, HW.out⟩
theorem words2 (w : World) : Calls Tryz.prog 160 #[] w fun e w' => e = .returned (.slice (some ⟨w.heap.size, 0, none⟩) 64 64) ∧ w' = w.alloc (.cells (ints roundsT).toArray 3) := by
  go_enter Tryz.func160, Tryz.ntmps160
  go_wp2_with fail
  go_ret
  exact ⟨rfl, rfl⟩

/- HeldK -/
open Go Go.RowKit

section
variable {P : Program} {ops : Array Oper} {Q : Exit → Act → World → Prop} {md : Region.Mode} {S : World → Prop} {n : Nat}

/-- Whatever order is picked from here on, S holding behind every operation but the last. -/
def wpAnyK (P : Program) (md : Region.Mode) (ops : Array Oper) (Q : Exit → Act → World → Prop) (S : World → Prop) (n : Nat) : Nat → Array Bool → Act → World → Prop
  | 0, _, _, _ => False
  | fuel + 1, listed, a, w =>
    Region.ready md ops listed ≠ [] ∧
    ∀ i ∈ Region.ready md ops listed, (i ≠ n → wpOp P ops Q i (fun a' w' => S w' ∧ wpAnyK P md ops Q S n fuel (listed.setIfInBounds i true) a' w') a w) ∧
      (i = n → wpOp P ops Q i (wpAny P md ops Q fuel (listed.setIfInBounds i true)) a w)

theorem wpAny_of_k : ∀ (fuel : Nat) (listed : Array Bool) (a : Act) (w : World), wpAnyK P md ops Q S n fuel listed a w → wpAny P md ops Q fuel listed a w
  | 0, _, _, _, h => h.elim
  | fuel + 1, _, _, _, h => ⟨fun h0 => absurd h0 h.1, fun i hi => by
      by_cases e : i = n
      · exact (h.2 i hi).2 e
      · exact wpOp_mono (fun a' w' h' => wpAny_of_k fuel _ a' w' h'.2) ((h.2 i hi).1 e)⟩

/-- The last operation waits for number i. -/
def Region.lastWaits (md : Region.Mode) (ops : Array Oper) (n i : Nat) : Bool :=
  match ops[n]? with
  | some o => o.after.any fun e => Region.binds md e && e.on == i
  | none => false

theorem wpAnyK_first {i : Nat} {oi : Oper} {v : Value} (hi : ops[i]? = some oi) (hin : i ≠ n) (hlast : Region.lastWaits md ops n i = true) (hsel : ∀ (j : Nat) (o : Oper) cs b, ops[j]? = some o → o.op ≠ .select cs b)
    (hQ : ∀ c a w, Q (.panic c) (a.put oi.dst v) w → Q (.panic c) a w) :
    ∀ (fuel : Nat) (listed : Array Bool) (a : Act) (w : World),
      (∀ j oj, ops[j]? = some oj → j ≠ i → listed.getD j true = false → (∀ e ∈ oj.after, Region.binds md e = true → e.on ≠ i) → oi.apart ops oj = true) →
      i ∈ Region.ready md ops listed → YieldsIf P ops S oi v a → S w →
      wpAnyK P md ops Q S n fuel (listed.setIfInBounds i true) (a.put oi.dst v) w → wpAnyK P md ops Q S n (fuel + 1) listed a w := by
  intro fuel
  induction fuel with
  | zero => intro listed a w _ _ _ _ H; exact H.elim
  | succ fuel ih =>
    intro listed a w hfree hr hy hS H
    have hun := (mem_ready.1 hr).1
    have nolist : listed.getD i false = false := by
      rcases Nat.lt_or_ge i listed.size with h' | h'
      · simp [h'] at hun ⊢; exact hun
      · simp [Array.getElem?_eq_none h'] at hun
    refine ⟨fun h => (by rw [h] at hr; cases hr), fun j hj => ?_⟩
    obtain ⟨hjun, oj, hoj, hall⟩ := mem_ready.1 hj
    have hnot : ∀ e ∈ oj.after, Region.binds md e = true → e.on ≠ i := fun e he hb heq => by
      have h1 := hall e he hb
      rw [heq, nolist] at h1
      cases h1
    have hjn : j ≠ n := fun e => by
      subst e
      unfold Region.lastWaits at hlast
      rw [hoj] at hlast
      obtain ⟨e, he, hb⟩ := Array.any_eq_true'.1 hlast
      simp only [Bool.and_eq_true, beq_iff_eq] at hb
      exact hnot e he hb.1 hb.2
    refine ⟨fun _ => ?_, fun e => absurd e hjn⟩
    by_cases hji : j = i
    · subst hji; exact hy.wpOp hi hS ⟨hS, H⟩
    · have h1 := (H.2 j (ready_mono hj hji)).1 hjn
      have h2 := wpOp_putIf hoj (hfree j oj hoj hji hjun hnot) (fun cs b => hsel i oi cs b hi) (fun cs b => hsel j oj cs b hoj) hQ hy h1
      have hfree' : ∀ k ok, ops[k]? = some ok → k ≠ i → (listed.setIfInBounds j true).getD k true = false →
          (∀ e ∈ ok.after, Region.binds md e = true → e.on ≠ i) → oi.apart ops ok = true := fun k ok hk hki hun hno => by
        refine hfree k ok hk hki ?_ hno
        by_cases hjk : j = k
        · subst hjk; exact hjun
        · rw [getD_set_ne true hjk] at hun; exact hun
      refine wpOp_mono (fun a' w' h3 => ⟨h3.2.1, ih (listed.setIfInBounds j true) a' w' hfree' (ready_mono hr (Ne.symm hji)) h3.1 h3.2.1 ?_⟩) h2
      rw [Array.setIfInBounds_comm _ _ hji]
      exact h3.2.2

theorem wpAnyK_take {oi : Oper} {v : Value} {fuel : Nat} {listed : Array Bool} {a : Act} {w : World} (i : Nat) (hi : ops[i]? = some oi) (hin : i ≠ n) (hlast : Region.lastWaits md ops n i = true)
    (hs : Region.noSelect ops = true) (hf : Region.free md ops listed i = true) (hr : (Region.ready md ops listed).contains i = true)
    (hQ : ∀ c a w, Q (.panic c) (a.put oi.dst v) w → Q (.panic c) a w) (hy : YieldsIf P ops S oi v a) (hS : S w)
    (h : wpAnyK P md ops Q S n fuel (listed.setIfInBounds i true) (a.put oi.dst v) w) : wpAnyK P md ops Q S n (fuel + 1) listed a w :=
  wpAnyK_first hi hin hlast (Region.noSelect_spec hs) hQ fuel listed a w (Region.free_spec hi hf) (by simpa using hr) hy hS h

/-- What comes up next is one of rs. -/
def ReadyK (P : Program) (md : Region.Mode) (ops : Array Oper) (Q : Exit → Act → World → Prop) (S : World → Prop) (n fuel : Nat) (listed : Array Bool) (a : Act) (w : World) (rs : List Nat) : Prop :=
  ∀ i ∈ rs, wpOp P ops Q i (fun a' w' => S w' ∧ wpAnyK P md ops Q S n fuel (listed.setIfInBounds i true) a' w') a w
theorem ReadyK.nil {fuel : Nat} {listed : Array Bool} {a : Act} {w : World} : ReadyK P md ops Q S n fuel listed a w [] := fun _ h => by cases h
theorem ReadyK.cons {i : Nat} {rs : List Nat} {oi : Oper} {fuel : Nat} {listed : Array Bool} {a : Act} {w : World} (ho : ops[i]? = some oi)
    (h : ∀ K : Act → World → Prop, Hid (∀ a' w', S w' → (S w' → wpAnyK P md ops Q S n fuel (listed.setIfInBounds i true) a' w') → K a' w') → if Region.wanted oi (yielded ops a.tmps) = true then Oper.wp P oi a w K Q else K (a.put oi.dst undef) w)
    (hs : ReadyK P md ops Q S n fuel listed a w rs) : ReadyK P md ops Q S n fuel listed a w (i :: rs) := fun j hj => by
  rcases List.mem_cons.1 hj with rfl | hj
  · have := h (fun a' w' => S w' ∧ wpAnyK P md ops Q S n fuel (listed.setIfInBounds j true) a' w') (Lib.hid (fun a' w' hS hW => ⟨hS, hW hS⟩))
    unfold wpOp
    simp only [ho]
    split
    · rename_i hw; rw [if_pos hw] at this; exact .inl this
    · rename_i hw; rw [if_neg hw] at this; exact this
  · exact hs j hj
theorem wpAnyK_ready {rs : List Nat} {fuel : Nat} {listed : Array Bool} {a : Act} {w : World} (hr : Region.ready md ops listed = rs) (hne : rs ≠ []) (hn : rs.contains n = false)
    (h : ReadyK P md ops Q S n fuel listed a w rs) : wpAnyK P md ops Q S n (fuel + 1) listed a w :=
  ⟨fun h0 => hne (hr ▸ h0), fun i hi => ⟨fun _ => h i (hr ▸ hi), fun e => by
    rw [hr] at hi
    subst e
    rw [List.contains_eq_mem] at hn
    simp [hi] at hn⟩⟩
/-- The last operation. -/
theorem wpAnyK_last {o : Oper} {listed : Array Bool} {a : Act} {w : World} {fuel : Nat} (hr : Region.ready md ops listed = [n]) (ho : ops[n]? = some o) (hdone : Region.ready md ops (listed.setIfInBounds n true) = [])
    (h : ∀ K : Act → World → Prop, Hid (∀ a' w', Q .normal a' w' → K a' w') → if Region.wanted o (yielded ops a.tmps) = true then Oper.wp P o a w K Q else K (a.put o.dst undef) w) : wpAnyK P md ops Q S n (fuel + 1) listed a w := by
  refine ⟨by rw [hr]; simp, fun i hi => ?_⟩
  rw [hr] at hi
  obtain rfl : i = n := by simpa using hi
  refine ⟨fun e => absurd rfl e, fun _ => ?_⟩
  have := h (wpAny P md ops Q fuel (listed.setIfInBounds i true)) (Lib.hid (fun a' w' hq => by
    cases fuel with
    | zero => exact ⟨hdone, hq⟩
    | succ fuel => exact ⟨fun _ => hq, fun j hj => by rw [hdone] at hj; cases hj⟩))
  unfold wpOp
  simp only [ho]
  split
  · rename_i hw; rw [if_pos hw] at this; exact .inl this
  · rename_i hw; rw [if_neg hw] at this; exact this
theorem wp_region_k {id : Nat} {a : Act} {w : World} (n : Nat) (hm : P.follows .mixedOrders = true) (hS : S w.drew)
    (h : S w.drew → wpAnyK P .any ops Q S n ops.size (Array.replicate ops.size false) a w.drew) : (Code.region id ops true).wp P Q a w :=
  wp_region_any hm (wpAny_of_k _ _ _ _ (h hS))
end

/- R02c -/
open Go.RowKit
set_option linter.unusedVariables false
set_option maxRecDepth 100000
set_option linter.unusedSimpArgs false

theorem ch_x {e f g : Int} (he : Wd e) (hf : Wd f) : xorI (andI e f) (andI (4294967295 - e) g) = chI e f g := (xorL2 (wd_and he hf)).symm
theorem addI_comm2 (a b : Int) : addI [a, b] = addI [b, a] := by rw [addI2, addI2, Int.add_comm]

theorem Rd.gb {w w' : World} {g off t : Nat} {xs : List Value} (h : Rd w (some ⟨g, off, none⟩) xs) (hG : w.grownBy w' (some t)) (hne : g ≠ t) : Rd w' (some ⟨g, off, none⟩) xs := fun i u hu => by
  obtain ⟨b, o, hA, hc⟩ := h i u hu
  refine ⟨b, o, hA, ?_⟩
  injection hA with hA
  injection hA with h1 h2
  subst h1 h2
  rw [← hc]
  unfold World.cell?
  simp only [hG.block _ (cell_lt hc) (fun e => hne (Option.some.inj e))]
theorem keep3_alloc {W : World} {o : Obj} {p q r : Addr} {u v x : Value} (h : W.cell? p = some u ∧ W.cell? q = some v ∧ W.cell? r = some x) : (W.alloc o).cell? p = some u ∧ (W.alloc o).cell? q = some v ∧ (W.alloc o).cell? r = some x :=
  ⟨(keep2_alloc ⟨h.1, h.2.1⟩).1, (keep2_alloc ⟨h.1, h.2.1⟩).2, (keep2_alloc h.2).2⟩
theorem wp_store_whole {P : Program} {op : Oper} {a : Act} {w : World} {K : Act → World → Prop} {Q : Exit → Act → World → Prop} (ty : TypeId) (x y : Operand) (ho : op.op = .store ty x y)
    (g : Nat) (arr : Array Value) (hx : a.eval x = .pointer (some ⟨g, 0, none⟩)) (hy : a.eval y = .agg arr) (cs : Array Value) (t : TypeId) (hg : w.heap[g]? = some (.cells cs t (0, 0))) (hsz : arr.size = cs.size)
    (hi : (P.info? ty).map (·.size) = some arr.size) (h1 : arr.all (·.oneCell') = true)
    (h : ∀ w', w'.heap[g]? = some (.cells arr t (0, 0)) → w.grownBy w' (some g) → K (a.put op.dst undef) w') : op.wp P a w K Q := by
  refine wp_store_mid ty x y ho g 0 arr hx hy (there_blk hg (Nat.le_of_eq hsz)) hi h1 (h _ ?_ ?_)
  · obtain ⟨ds, hd, hs, he⟩ := setCells_block g t (0, 0) arr.toList 0 w cs hg (by simp [hsz])
    have : ds = arr := by
      apply Array.ext_getElem?
      intro i
      rw [he i]
      by_cases hlt : i < arr.size
      · rw [if_pos (by simp; omega)]
        simp
      · rw [if_neg (by simp; omega), Array.getElem?_eq_none (by omega), Array.getElem?_eq_none (by omega)]
    rw [hd, this]
  · obtain ⟨e1, e2, e3⟩ := setCells_os g arr.toList 0 w
    exact ⟨e1, e2, e3, Nat.le_of_eq (setCells_size g _ _ _).symm, fun i hi hne => setCells_other g i (fun e => hne (by rw [e])) _ _ _⟩
theorem step2_end {w W T w10 : World} {B8 B7 g6 B2 B4 : Nat} {o8 o7 o2 o4 : Obj} {xs : List Value} (h10 : w10.heap[B8]? = some o8) (hG : T.grownBy w10 (some B8)) (hT : Below W.heap.size W T)
    (h7 : W.heap[B7]? = some o7) (h6 : Rd W (some ⟨g6, 0, none⟩) xs) (h2 : W.heap[B2]? = some o2) (h4 : W.heap[B4]? = some o4) (hB : Below w.heap.size w W) (n7 : B7 ≠ B8) (n6 : g6 ≠ B8) (n2 : B2 ≠ B8) (n4 : B4 ≠ B8) (hle : w.heap.size ≤ B8) :
    w10.heap[B8]? = some o8 ∧ w10.heap[B7]? = some o7 ∧ Rd w10 (some ⟨g6, 0, none⟩) xs ∧ w10.heap[B2]? = some o2 ∧ w10.heap[B4]? = some o4 ∧ Below w.heap.size w w10 :=
  have k := fun {i : Nat} {o : Obj} (h : W.heap[i]? = some o) (hne : i ≠ B8) => (hG.block i (cell_lt_of (cells_below h hT)) (fun e => hne (Option.some.inj e))).trans (cells_below h hT)
  ⟨h10, k h7 n7, (h6.below hT).gb hG n6, k h2 n2, k h4 n4, (hB.trans (hT.mono hB.size)).trans (grownBy_below' hG hle (Nat.le_trans hB.size hT.size))⟩
set_option maxHeartbeats 2000000 in
theorem step2_ws (ws st : List Int) (s : ByteArray) (w : World) (hst : Words8 st) (hs : s.size = 64) (hwl : ws.length = 64) (hww : ∀ x ∈ ws, Wd x)
    (hsp : ∀ W, Calls Tryz.prog 159 #[.string s] W fun e w' => ∃ g cap, e = .returned (.slice (some ⟨g, 0, none⟩) 64 cap) ∧ w'.ownsRow W.heap.size 3 1 (.slice (some ⟨g, 0, none⟩) 64 cap) 64 (ints ws) ∧ Below W.heap.size W w') :
    Calls Tryz.prog 136 #[.agg (ints st).toArray, .string s] w fun e w' => e = .returned (.tuple #[.agg (ints (addsTo st (rndsTo ws st 64) 8)).toArray, .bool true]) ∧ Below w.heap.size w w' := by
  have Hsp := Lib.hid hsp
  have Hwl := Lib.hid hwl
  have Hww := Lib.hid hww
  clear hwl hww hsp
  have h64 : ((s.size : Int) != 64) = false := by simp [hs]
  have Hs := Lib.hid hs
  have Hst := Lib.hid hst
  obtain ⟨s0, s1, s2, s3, s4, s5, s6, s7, hst', _⟩ := words8_open hst
  have Hst' := Lib.hid hst'
  rw [show (ints st).toArray = #[.int .i64 s0, .int .i64 s1, .int .i64 s2, .int .i64 s3, .int .i64 s4, .int .i64 s5, .int .i64 s6, .int .i64 s7] by rw [hst']; rfl]
  clear hs hst hst'
  go_enter Tryz.func136, Tryz.ntmps136
  go_wp2_with fail
  refine (all1 st _ _ _ _ (by rw [Hst'.out]; exact (rd_new w _ _).below ((Below.refl _ _).alloc (Nat.le_refl _) _)) (by rw [Hst'.out]; rfl) (by rw [Hst'.out]; simp) Hst.out.2).mono ?_
  rintro e w1 ⟨rfl, hw⟩
  obtain rfl := hw.symm
  clear hw
  have H2 := Lib.hid (keep_two (Below.refl _ ((w.alloc (.cells #[.int .i64 s0, .int .i64 s1, .int .i64 s2, .int .i64 s3, .int .i64 s4, .int .i64 s5, .int .i64 s6, .int .i64 s7] 155)).alloc (.cells zeros8 155))))
  have H4 := Lib.hid (show ((w.alloc (.cells #[.int .i64 s0, .int .i64 s1, .int .i64 s2, .int .i64 s3, .int .i64 s4, .int .i64 s5, .int .i64 s6, .int .i64 s7] 155)).alloc (.cells zeros8 155)).heap[w.heap.size + 1]? = some (.cells zeros8 155 (0, 0)) from keep_one' (Below.refl _ _) (by simp))
  have HB := Lib.hid (below_two (Below.refl _ ((w.alloc (.cells #[.int .i64 s0, .int .i64 s1, .int .i64 s2, .int .i64 s3, .int .i64 s4, .int .i64 s5, .int .i64 s6, .int .i64 s7] 155)).alloc (.cells zeros8 155))))
  go_wp2_with fail
  refine (Hsp.out _).mono ?_
  rintro e w2 ⟨g6, cap6, rfl, ho6, hw2⟩
  replace H2 := hblk_below H2 hw2
  replace H4 := hblk_below H4 hw2
  replace HB := Lib.hid (Below.chain HB.out hw2)
  have HR6 := Lib.hid (own_rd ho6)
  clear hw2 ho6
  have hlt4 : w.heap.size + 1 < w2.heap.size := cell_lt_of H4.out
  go_wp2_with fail
  refine (words2 _).mono ?_
  rintro e w3 ⟨rfl, hw3⟩
  have hb3 : Below w2.heap.size w2 w3 := by rw [hw3]; exact (Below.refl _ _).alloc (Nat.le_refl _) _
  have H7 : Hid (w3.heap[w2.heap.size]? = some (.cells (ints roundsT).toArray 3 (0, 0))) := Lib.hid (by rw [hw3]; exact heap_alloc_new w2 _)
  replace H2 := hblk_below H2 hb3
  replace H4 := hblk_below H4 hb3
  replace HB := Lib.hid (Below.chain HB.out hb3)
  replace HR6 := Lib.hid (HR6.out.below hb3)
  obtain ⟨B7, hB7⟩ : ∃ B, B = w2.heap.size := ⟨_, rfl⟩
  rw [← hB7] at H7 hlt4 ⊢
  clear hw3 hb3 hB7
  have c20 : w3.cell? ⟨w.heap.size, 0, none⟩ = some (.int .i64 s0) := by unfold World.cell?; simp only [H2.out]; rfl
  have c21 : w3.cell? ⟨w.heap.size, 1, none⟩ = some (.int .i64 s1) := by unfold World.cell?; simp only [H2.out]; rfl
  have c22 : w3.cell? ⟨w.heap.size, 2, none⟩ = some (.int .i64 s2) := by unfold World.cell?; simp only [H2.out]; rfl
  have c23 : w3.cell? ⟨w.heap.size, 3, none⟩ = some (.int .i64 s3) := by unfold World.cell?; simp only [H2.out]; rfl
  have c24 : w3.cell? ⟨w.heap.size, 4, none⟩ = some (.int .i64 s4) := by unfold World.cell?; simp only [H2.out]; rfl
  have c25 : w3.cell? ⟨w.heap.size, 5, none⟩ = some (.int .i64 s5) := by unfold World.cell?; simp only [H2.out]; rfl
  have c26 : w3.cell? ⟨w.heap.size, 6, none⟩ = some (.int .i64 s6) := by unfold World.cell?; simp only [H2.out]; rfl
  have c27 : w3.cell? ⟨w.heap.size, 7, none⟩ = some (.int .i64 s7) := by unfold World.cell?; simp only [H2.out]; rfl
  have hlt7 : B7 < w3.heap.size := cell_lt_of H7.out
  have hw6 : g6 < w3.heap.size := by
    obtain ⟨b, off, hA, hc⟩ := HR6.out.int_at (i := 0) (by rw [Hwl.out]; decide)
    injection hA with hA
    injection hA with h1 h2
    subst h1
    exact cell_lt hc
  go_wp2_with fail
  have H8 : Hid ((w3.alloc (.cells #[.int .i64 s0, .int .i64 s1, .int .i64 s2, .int .i64 s3, .int .i64 s4, .int .i64 s5, .int .i64 s6, .int .i64 s7] 155)).heap[w3.heap.size]? = some (.cells (ints st).toArray 155 (0, 0))) := by
    rw [Hst'.out]
    exact heap_alloc_new w3 _
  have hb4 : Below w3.heap.size w3 (w3.alloc (.cells #[.int .i64 s0, .int .i64 s1, .int .i64 s2, .int .i64 s3, .int .i64 s4, .int .i64 s5, .int .i64 s6, .int .i64 s7] 155)) := (Below.refl _ _).alloc (Nat.le_refl _) _
  rw [show #[Value.int .i64 s0, .int .i64 s1, .int .i64 s2, .int .i64 s3, .int .i64 s4, .int .i64 s5, .int .i64 s6, .int .i64 s7] = (ints st).toArray by rw [Hst'.out]; rfl] at H2
  replace H2 := hblk_below H2 hb4
  replace H4 := hblk_below H4 hb4
  replace H7 := hblk_below H7 hb4
  replace HR6 := Lib.hid (HR6.out.below hb4)
  replace HB := Lib.hid (Below.chain HB.out hb4)
  obtain ⟨B8, hB8⟩ : ∃ B, B = w3.heap.size := ⟨_, rfl⟩
  rw [← hB8] at H8 hlt7 hw6 ⊢
  generalize w3.alloc (.cells #[.int .i64 s0, .int .i64 s1, .int .i64 s2, .int .i64 s3, .int .i64 s4, .int .i64 s5, .int .i64 s6, .int .i64 s7] 155) = w4 at H2 H4 H8 H7 HB HR6 ⊢
  clear hb4 c20 c21 c22 c23 c24 c25 c26 c27 hB8
  go_loopw [9] (fun i wr => ∃ k : Nat, k ≤ 64 ∧ i = .int .i64 k ∧ wr.heap[B8]? = some (.cells (ints (rndsTo ws st k)).toArray 155 (0, 0)) ∧ wr.heap[B7]? = some (.cells (ints roundsT).toArray 3 (0, 0)) ∧ Rd wr (some ⟨g6, 0, none⟩) (ints ws) ∧ wr.heap[w.heap.size]? = some (.cells (ints st).toArray 155 (0, 0)) ∧ wr.heap[w.heap.size + 1]? = some (.cells zeros8 155 (0, 0)) ∧ Below w.heap.size w wr) (fun i _ => 64 - (intOf i).toNat)
  case atStart => exact ⟨0, by omega, rfl, H8.out, H7.out, HR6.out, H2.out, H4.out, HB.out⟩
  case round =>
    obtain ⟨k, hk, rfl, h8, h7, hr6, h2, h4, hB⟩ := hrel
    replace H8 := Lib.hid h8
    replace H7 := Lib.hid h7
    replace HR6 := Lib.hid hr6
    replace H2 := Lib.hid h2
    replace H4 := Lib.hid h4
    replace HB := Lib.hid hB
    clear h8 h7 hr6 h2 h4 hB
    by_cases hlt : k < 64
    · obtain ⟨a, b, c, d, e, f, g, h, hnow, ha, hb, hc, hd, he, hf, hg, hh⟩ := words8_open (rnds_words (ws := ws) Hst.out k)
      have Wa := Lib.hid ha
      have Wb := Lib.hid hb
      have Wc := Lib.hid hc
      have Wd' := Lib.hid hd
      have We := Lib.hid he
      have Wf := Lib.hid hf
      have Wg := Lib.hid hg
      have Wh := Lib.hid hh
      have Hnext := Lib.hid (show rndsTo ws st (k + 1) = rnd (roundsT.getD k 0) (ws.getD k 0) [a, b, c, d, e, f, g, h] by rw [rndsTo, hnow])
      rw [hnow] at H8
      have hb' := he.1
      have hb'' := he.2
      clear ha hb hc hd he hf hg hh hnow
      have cK := (ints_cell H7.out (i := k) hlt).1
      have cW : wr.cell? ⟨g6, k, none⟩ = some (.int .i64 (ws.getD k 0)) := by
        obtain ⟨b', off, hA, hc⟩ := HR6.out.int_at (i := k) (by rw [Hwl.out]; exact hlt)
        injection hA with hA
        injection hA with h1 h2
        subst h1 h2
        rw [Nat.zero_add] at hc
        exact hc
      have WK := Lib.hid (wd_get roundsT_wd k)
      have WW := Lib.hid (wd_get Hww.out k)
      generalize roundsT.getD k 0 = K at cK WK Hnext
      generalize ws.getD k 0 = X at cW WW Hnext
      have CK := Lib.hid cK
      have CW := Lib.hid cW
      clear cK cW
      have kI : (k : Int) < 64 := by omega
      have hne : IntKind.i64.wrap (4294967295 - e) = 4294967295 - e := IntWalk.i64_in _ (by omega)
      obtain ⟨⟨c0, c1, c2, c3, c4, c5, c6, c7⟩, f0, f1, f2, f3, f4, f5, f6, f7⟩ := eight_cells H8.out
      clear f0 f1 f2 f3 f4 f5 f6 f7
      go_wp2_with fail
      go_quiet ((first
        | (go_at_call 162; exact Calls.quiet_of_same (both1 _ _ _ (by first | exact We.out | exact wd_not We.out) (by first | exact Wf.out | exact Wg.out)))
        | (go_at_call 161; exact Calls.quiet_of_same (unlike1 _ _ _ (by exact wd_and We.out Wf.out) (by exact wd_and (wd_not We.out) Wg.out)))))
      clear c0 c1 c2 c3 c4 c5 c6 c7
      rw [ch_x We.out Wf.out]
      replace H8 : Hid ((wr.drewN nq).heap[B8]? = _) := H8
      replace H7 : Hid ((wr.drewN nq).heap[B7]? = _) := H7
      replace HR6 : Hid (Rd (wr.drewN nq) _ _) := HR6
      replace H2 : Hid ((wr.drewN nq).heap[w.heap.size]? = _) := H2
      replace H4 : Hid ((wr.drewN nq).heap[w.heap.size + 1]? = _) := H4
      replace CK : Hid ((wr.drewN nq).cell? _ = _) := CK
      replace CW : Hid ((wr.drewN nq).cell? _ = _) := CW
      replace HB := Lib.hid (below_drewN HB.out nq)
      generalize wr.drewN nq = wq at H8 H7 HR6 H2 H4 HB CK CW ⊢
      go_wp2_with fail
      obtain ⟨⟨c0, c1, c2, c3, c4, c5, c6, c7⟩, f0, f1, f2, f3, f4, f5, f6, f7⟩ := eight_cells H8.out
      clear f0 f1 f2 f3 f4 f5 f6 f7
      go_quiet ((first
        | (go_at_call 162; exact Calls.quiet_of_same (both1 _ _ _ (by first | exact Wa.out | exact Wb.out) (by first | exact Wb.out | exact Wc.out)))
        | (go_at_call 163; exact Calls.quiet_of_same ((three2 _ _ _ _ (by exact wd_and Wa.out Wb.out) (by exact wd_and Wa.out Wc.out) (by exact wd_and Wb.out Wc.out)).mono fun _ _ h => ⟨h.1, h.2.symm⟩))))
      clear c0 c1 c2 c3 c4 c5 c6 c7
      replace H8 : Hid ((wq.drewN nq).heap[B8]? = _) := H8
      replace H7 : Hid ((wq.drewN nq).heap[B7]? = _) := H7
      replace HR6 : Hid (Rd (wq.drewN nq) _ _) := HR6
      replace H2 : Hid ((wq.drewN nq).heap[w.heap.size]? = _) := H2
      replace H4 : Hid ((wq.drewN nq).heap[w.heap.size + 1]? = _) := H4
      replace CK : Hid ((wq.drewN nq).cell? _ = _) := CK
      replace CW : Hid ((wq.drewN nq).cell? _ = _) := CW
      replace HB := Lib.hid (below_drewN HB.out nq)
      generalize wq.drewN nq = wx at H8 H7 HR6 H2 H4 HB CK CW ⊢
      go_wp2_with fail
      have HX : Below wx.heap.size wx wx.drew := (Below.refl _ _).drew
      have cK := CK.out
      have cW := CW.out
      have c7 : wx.cell? ⟨B8, 7, none⟩ = some (.int .i64 h) := (ints_cell H8.out (i := 7) (by simp)).1
      go_region_held3 (fun w' => w'.cell? ⟨B7, k, none⟩ = some (.int .i64 K) ∧ w'.cell? ⟨g6, k, none⟩ = some (.int .i64 X) ∧ w'.cell? ⟨B8, 7, none⟩ = some (.int .i64 h))
        (first | assumption | exact ⟨cK, cW, c7⟩ | exact keep3_alloc (by assumption))
        (first
          | ((go_at_call 165; refine (back2 _ _ _ (by exact We.out) (by omega) (by omega)).mono ?_); rintro _ w' ⟨rfl, rfl⟩)
          | ((go_at_call 163; refine (three2 _ _ _ _ (by exact wd_rot _ We.out) (by exact wd_rot _ We.out) (by exact wd_rot _ We.out)).mono ?_); rintro _ w' ⟨rfl, rfl⟩)
          | ((go_at_call 164; refine (add2 _ _ _ [_, _, _, _, _] _ (by exact rd_new' _ _ _ _ (by simp)) rfl (by simp) (by exact wd5 Wh.out (wd_S1 We.out) (wd_ch We.out Wf.out Wg.out) WK.out WW.out)).mono ?_); rintro _ w' ⟨rfl, rfl⟩))
      clear cK cW c7
      go_wp2_with (first
          | ((go_at_call 165; refine (back2 _ _ _ (by exact Wa.out) (by omega) (by omega)).mono ?_); rintro _ w' ⟨rfl, rfl⟩)
          | ((go_at_call 163; refine (three2 _ _ _ _ (by exact wd_rot _ Wa.out) (by exact wd_rot _ Wa.out) (by exact wd_rot _ Wa.out)).mono ?_); rintro _ w' ⟨rfl, rfl⟩)
          | ((go_at_call 164; refine (add2 _ _ _ [_, _] _ (by exact rd_new' _ _ _ _ (by simp)) rfl (by simp) (by exact wordsB2.2 ⟨wd_S0 Wa.out, wd_maj Wa.out Wb.out Wc.out⟩)).mono ?_); rintro _ w' ⟨rfl, rfl⟩))
      have hW2 : ∀ o1 o2, Below wx.heap.size wx ((wx.alloc o1).alloc o2).drew := fun o1 o2 => (((Below.refl _ _).alloc (Nat.le_refl _) o1).alloc (by simp) o2).drew
      have WU : Hid (Wd (addI [h, xorL [rotI e 26, rotI e 21, rotI e 7], chI e f g, K, X])) := Lib.hid (wd_add _)
      have WV : Hid (Wd (addI [xorL [rotI a 30, rotI a 19, rotI a 10], xorL [andI a b, andI a c, andI b c]])) := Lib.hid (wd_add _)
      replace Hnext : Hid (rndsTo ws st (k + 1) = [addI [addI [h, xorL [rotI e 26, rotI e 21, rotI e 7], chI e f g, K, X], addI [xorL [rotI a 30, rotI a 19, rotI a 10], xorL [andI a b, andI a c, andI b c]]], a, b, c, addI [d, addI [h, xorL [rotI e 26, rotI e 21, rotI e 7], chI e f g, K, X]], e, f, g]) := Hnext
      generalize addI [h, xorL [rotI e 26, rotI e 21, rotI e 7], chI e f g, K, X] = U at Hnext WU ⊢
      generalize addI [xorL [rotI a 30, rotI a 19, rotI a 10], xorL [andI a b, andI a c, andI b c]] = V at Hnext WV ⊢
      generalize hWe : ((wx.alloc (Obj.cells #[Value.int IntKind.i64 h, Value.int IntKind.i64 (xorL [rotI e 26, rotI e 21, rotI e 7]), Value.int IntKind.i64 (chI e f g), Value.int IntKind.i64 K, Value.int IntKind.i64 X] 3)).alloc (Obj.cells #[Value.int IntKind.i64 (xorL [rotI a 30, rotI a 19, rotI a 10]), Value.int IntKind.i64 (xorL [andI a b, andI a c, andI b c])] 3)).drew = W
      have hbW : Below wx.heap.size wx W := hWe ▸ hW2 _ _
      replace H8 := hblk_below H8 hbW
      replace H7 := hblk_below H7 hbW
      replace HR6 := Lib.hid (HR6.out.below hbW)
      replace H2 := hblk_below H2 hbW
      replace H4 := hblk_below H4 hbW
      replace HB := Lib.hid (Below.chain HB.out hbW)
      clear hWe hbW hW2 HX CK CW
      -- REGION15
      refine wp_region_k (S := fun w' => w'.heap[B8]? = some (.cells (ints [a, b, c, d, e, f, g, h]).toArray 155 (0, 0)) ∧ Below W.heap.size W w') 20 (by kernel_rfl) (by exact ⟨H8.out, (Below.refl _ _).drew⟩) (fun hHeld => ?_)
      refine wpAnyK_take 0 (oi := _) (v := ?_) rfl (by decide) (by kernel_rfl) (by kernel_rfl) (by kernel_rfl) (by kernel_rfl) (fun _ _ _ h => h) (Or.inl ⟨by rfl, ?_⟩) hHeld ?_
      rotate_left
      · (intro w9 hS9; (try dsimp only at hS9); go_simp; try with_reducible rfl)
      try simp only [Act.put, List.setIfInBounds_toArray, List.set_cons_zero, List.set_cons_succ]
      refine wpAnyK_take 1 (oi := _) (v := ?_) rfl (by decide) (by kernel_rfl) (by kernel_rfl) (by kernel_rfl) (by kernel_rfl) (fun _ _ _ h => h) (Or.inl ⟨by rfl, ?_⟩) hHeld ?_
      rotate_left
      · (intro w9 hS9; (try dsimp only at hS9); go_simp; try with_reducible rfl)
      try simp only [Act.put, List.setIfInBounds_toArray, List.set_cons_zero, List.set_cons_succ]
      refine wpAnyK_take 4 (oi := _) (v := ?_) rfl (by decide) (by kernel_rfl) (by kernel_rfl) (by kernel_rfl) (by kernel_rfl) (fun _ _ _ h => h) (Or.inl ⟨by rfl, ?_⟩) hHeld ?_
      rotate_left
      · (intro w9 hS9; (try dsimp only at hS9); go_simp; try with_reducible rfl)
      try simp only [Act.put, List.setIfInBounds_toArray, List.set_cons_zero, List.set_cons_succ]
      refine wpAnyK_take 5 (oi := _) (v := ?_) rfl (by decide) (by kernel_rfl) (by kernel_rfl) (by kernel_rfl) (by kernel_rfl) (fun _ _ _ h => h) (Or.inl ⟨by rfl, ?_⟩) hHeld ?_
      rotate_left
      · (intro w9 hS9; (try dsimp only at hS9); go_simp; try with_reducible rfl)
      try simp only [Act.put, List.setIfInBounds_toArray, List.set_cons_zero, List.set_cons_succ]
      refine wpAnyK_take 6 (oi := _) (v := ?_) rfl (by decide) (by kernel_rfl) (by kernel_rfl) (by kernel_rfl) (by kernel_rfl) (fun _ _ _ h => h) (Or.inl ⟨by rfl, ?_⟩) hHeld ?_
      rotate_left
      · (intro w9 hS9; (try dsimp only at hS9); have q9 := (ints_cell hS9.1 (i := 1) (by simp)).1; simp only [List.getD_cons_succ, List.getD_cons_zero] at q9; go_simp; try with_reducible rfl)
      try simp only [Act.put, List.setIfInBounds_toArray, List.set_cons_zero, List.set_cons_succ]
      refine wpAnyK_take 7 (oi := _) (v := ?_) rfl (by decide) (by kernel_rfl) (by kernel_rfl) (by kernel_rfl) (by kernel_rfl) (fun _ _ _ h => h) (Or.inl ⟨by rfl, ?_⟩) hHeld ?_
      rotate_left
      · (intro w9 hS9; (try dsimp only at hS9); go_simp; try with_reducible rfl)
      try simp only [Act.put, List.setIfInBounds_toArray, List.set_cons_zero, List.set_cons_succ]
      refine wpAnyK_take 8 (oi := _) (v := ?_) rfl (by decide) (by kernel_rfl) (by kernel_rfl) (by kernel_rfl) (by kernel_rfl) (fun _ _ _ h => h) (Or.inl ⟨by rfl, ?_⟩) hHeld ?_
      rotate_left
      · (intro w9 hS9; (try dsimp only at hS9); have q9 := (ints_cell hS9.1 (i := 2) (by simp)).1; simp only [List.getD_cons_succ, List.getD_cons_zero] at q9; go_simp; try with_reducible rfl)
      try simp only [Act.put, List.setIfInBounds_toArray, List.set_cons_zero, List.set_cons_succ]
      refine wpAnyK_take 9 (oi := _) (v := ?_) rfl (by decide) (by kernel_rfl) (by kernel_rfl) (by kernel_rfl) (by kernel_rfl) (fun _ _ _ h => h) (Or.inl ⟨by rfl, ?_⟩) hHeld ?_
      rotate_left
      · (intro w9 hS9; (try dsimp only at hS9); go_simp; try with_reducible rfl)
      try simp only [Act.put, List.setIfInBounds_toArray, List.set_cons_zero, List.set_cons_succ]
      refine wpAnyK_take 10 (oi := _) (v := ?_) rfl (by decide) (by kernel_rfl) (by kernel_rfl) (by kernel_rfl) (by kernel_rfl) (fun _ _ _ h => h) (Or.inl ⟨by rfl, ?_⟩) hHeld ?_
      rotate_left
      · (intro w9 hS9; (try dsimp only at hS9); have q9 := (ints_cell hS9.1 (i := 3) (by simp)).1; simp only [List.getD_cons_succ, List.getD_cons_zero] at q9; go_simp; try with_reducible rfl)
      try simp only [Act.put, List.setIfInBounds_toArray, List.set_cons_zero, List.set_cons_succ]
      refine wpAnyK_take 11 (oi := _) (v := ?_) rfl (by decide) (by kernel_rfl) (by kernel_rfl) (by kernel_rfl) (by kernel_rfl) (fun _ _ _ h => h) (Or.inl ⟨by rfl, ?_⟩) hHeld ?_
      rotate_left
      · (intro w9 hS9; (try dsimp only at hS9); go_simp; try with_reducible rfl)
      try simp only [Act.put, List.setIfInBounds_toArray, List.set_cons_zero, List.set_cons_succ]
      refine wpAnyK_take 14 (oi := _) (v := ?_) rfl (by decide) (by kernel_rfl) (by kernel_rfl) (by kernel_rfl) (by kernel_rfl) (fun _ _ _ h => h) (Or.inl ⟨by rfl, ?_⟩) hHeld ?_
      rotate_left
      · (intro w9 hS9; (try dsimp only at hS9); go_simp; try with_reducible rfl)
      try simp only [Act.put, List.setIfInBounds_toArray, List.set_cons_zero, List.set_cons_succ]
      refine wpAnyK_take 15 (oi := _) (v := ?_) rfl (by decide) (by kernel_rfl) (by kernel_rfl) (by kernel_rfl) (by kernel_rfl) (fun _ _ _ h => h) (Or.inl ⟨by rfl, ?_⟩) hHeld ?_
      rotate_left
      · (intro w9 hS9; (try dsimp only at hS9); go_simp; try with_reducible rfl)
      try simp only [Act.put, List.setIfInBounds_toArray, List.set_cons_zero, List.set_cons_succ]
      refine wpAnyK_take 16 (oi := _) (v := ?_) rfl (by decide) (by kernel_rfl) (by kernel_rfl) (by kernel_rfl) (by kernel_rfl) (fun _ _ _ h => h) (Or.inl ⟨by rfl, ?_⟩) hHeld ?_
      rotate_left
      · (intro w9 hS9; (try dsimp only at hS9); have q9 := (ints_cell hS9.1 (i := 5) (by simp)).1; simp only [List.getD_cons_succ, List.getD_cons_zero] at q9; go_simp; try with_reducible rfl)
      try simp only [Act.put, List.setIfInBounds_toArray, List.set_cons_zero, List.set_cons_succ]
      refine wpAnyK_take 17 (oi := _) (v := ?_) rfl (by decide) (by kernel_rfl) (by kernel_rfl) (by kernel_rfl) (by kernel_rfl) (fun _ _ _ h => h) (Or.inl ⟨by rfl, ?_⟩) hHeld ?_
      rotate_left
      · (intro w9 hS9; (try dsimp only at hS9); go_simp; try with_reducible rfl)
      try simp only [Act.put, List.setIfInBounds_toArray, List.set_cons_zero, List.set_cons_succ]
      refine wpAnyK_take 18 (oi := _) (v := ?_) rfl (by decide) (by kernel_rfl) (by kernel_rfl) (by kernel_rfl) (by kernel_rfl) (fun _ _ _ h => h) (Or.inl ⟨by rfl, ?_⟩) hHeld ?_
      rotate_left
      · (intro w9 hS9; (try dsimp only at hS9); have q9 := (ints_cell hS9.1 (i := 6) (by simp)).1; simp only [List.getD_cons_succ, List.getD_cons_zero] at q9; go_simp; try with_reducible rfl)
      try simp only [Act.put, List.setIfInBounds_toArray, List.set_cons_zero, List.set_cons_succ]
      refine wpAnyK_ready (rs := [2, 12]) (by kernel_rfl) (by simp) (by kernel_rfl) ?_
      refine ReadyK.cons rfl (fun K hK => ?_) ?_
      · go_simp
        refine hK.out _ _ ?_ (fun hHeld => ?_)
        · exact ⟨(Below.heap_alloc _ _ _ (cell_lt_of hHeld.1)).trans hHeld.1, hHeld.2.alloc hHeld.2.size _⟩
        clear hK K
        try simp only [Act.put, List.setIfInBounds_toArray, List.set_cons_zero, List.set_cons_succ]
        refine wpAnyK_ready (rs := [3, 12]) (by kernel_rfl) (by simp) (by kernel_rfl) ?_
        refine ReadyK.cons rfl (fun K hK => ?_) ?_
        · go_simp
          go_at_call 164
          refine (add2 _ _ _ [U, V] _ (by first | exact rd_new' _ _ _ _ (by first | rfl | simp) | exact (rd_new' _ _ _ _ (by first | rfl | simp)).below (by exact ((Below.refl _ _).alloc (Nat.le_refl _) _).drew)) rfl (by simp) (by exact wordsB2.2 ⟨WU.out, WV.out⟩)).mono ?_
          rintro _ w' ⟨rfl, rfl⟩
          go_simp
          refine hK.out _ _ ?_ (fun hHeld => ?_)
          · exact hHeld
          clear hK K
          try simp only [Act.put, List.setIfInBounds_toArray, List.set_cons_zero, List.set_cons_succ]
          refine wpAnyK_ready (rs := [12]) (by kernel_rfl) (by simp) (by kernel_rfl) ?_
          refine ReadyK.cons rfl (fun K hK => ?_) ?_
          · go_simp
            refine hK.out _ _ ?_ (fun hHeld => ?_)
            · exact ⟨(Below.heap_alloc _ _ _ (cell_lt_of hHeld.1)).trans hHeld.1, hHeld.2.alloc hHeld.2.size _⟩
            clear hK K
            try simp only [Act.put, List.setIfInBounds_toArray, List.set_cons_zero, List.set_cons_succ]
            refine wpAnyK_ready (rs := [13]) (by kernel_rfl) (by simp) (by kernel_rfl) ?_
            refine ReadyK.cons rfl (fun K hK => ?_) ?_
            · go_simp
              go_at_call 164
              refine (add2 _ _ _ [d, U] _ (by first | exact rd_new' _ _ _ _ (by first | rfl | simp) | exact (rd_new' _ _ _ _ (by first | rfl | simp)).below (by exact ((Below.refl _ _).alloc (Nat.le_refl _) _).drew)) rfl (by simp) (by exact wordsB2.2 ⟨Wd'.out, WU.out⟩)).mono ?_
              rintro _ w' ⟨rfl, rfl⟩
              go_simp
              refine hK.out _ _ ?_ (fun hHeld => ?_)
              · exact hHeld
              clear hK K
              try simp only [Act.put, List.setIfInBounds_toArray, List.set_cons_zero, List.set_cons_succ]
              refine wpAnyK_take 19 (oi := _) (v := ?_) rfl (by decide) (by kernel_rfl) (by kernel_rfl) (by kernel_rfl) (by kernel_rfl) (fun _ _ _ h => h) (Or.inl ⟨by rfl, ?_⟩) hHeld ?_
              rotate_left
              · (intro w9 hS9; (try dsimp only at hS9); go_simp; try with_reducible rfl)
              try simp only [Act.put, List.setIfInBounds_toArray, List.set_cons_zero, List.set_cons_succ]
              refine wpAnyK_last (by kernel_rfl) rfl (by kernel_rfl) (fun K hK => ?_)
              rw [if_pos (by rfl)]
              refine wp_store_whole 155 _ _ rfl B8 (ints [addI [U, V], a, b, c, addI [d, U], e, f, g]).toArray rfl rfl _ 155 hHeld.1 rfl (by kernel_rfl) (ints_one _) ?_
              intro w10 h10 hG10
              refine hK.out _ _ ?_
              clear hK K
              try simp only [Act.put, List.setIfInBounds_toArray, List.set_cons_zero, List.set_cons_succ]
              have hE := Lib.hid (step2_end h10 hG10 hHeld.2 H7.out HR6.out H2.out H4.out HB.out (by omega) (by omega) (by omega) (by omega) (by omega))
              clear h10 hG10 hHeld
              go_wp2_with fail
              go_roundw
              case rel => exact ⟨k + 1, by omega, by go_num, by rw [Hnext.out]; exact hE.out⟩
              case measure => simp [intOf]; omega
            exact ReadyK.nil
          exact ReadyK.nil
        refine ReadyK.cons rfl (fun K hK => ?_) ?_
        · go_simp
          refine hK.out _ _ ?_ (fun hHeld => ?_)
          · exact ⟨(Below.heap_alloc _ _ _ (cell_lt_of hHeld.1)).trans hHeld.1, hHeld.2.alloc hHeld.2.size _⟩
          clear hK K
          try simp only [Act.put, List.setIfInBounds_toArray, List.set_cons_zero, List.set_cons_succ]
          refine wpAnyK_ready (rs := [3]) (by kernel_rfl) (by simp) (by kernel_rfl) ?_
          refine ReadyK.cons rfl (fun K hK => ?_) ?_
          · go_simp
            go_at_call 164
            refine (add2 _ _ _ [U, V] _ (by first | exact rd_new' _ _ _ _ (by first | rfl | simp) | exact (rd_new' _ _ _ _ (by first | rfl | simp)).below (by exact ((Below.refl _ _).alloc (Nat.le_refl _) _).drew)) rfl (by simp) (by exact wordsB2.2 ⟨WU.out, WV.out⟩)).mono ?_
            rintro _ w' ⟨rfl, rfl⟩
            go_simp
            refine hK.out _ _ ?_ (fun hHeld => ?_)
            · exact hHeld
            clear hK K
            try simp only [Act.put, List.setIfInBounds_toArray, List.set_cons_zero, List.set_cons_succ]
            refine wpAnyK_ready (rs := [13]) (by kernel_rfl) (by simp) (by kernel_rfl) ?_
            refine ReadyK.cons rfl (fun K hK => ?_) ?_
            · go_simp
              go_at_call 164
              refine (add2 _ _ _ [d, U] _ (by first | exact rd_new' _ _ _ _ (by first | rfl | simp) | exact (rd_new' _ _ _ _ (by first | rfl | simp)).below (by exact ((Below.refl _ _).alloc (Nat.le_refl _) _).drew)) rfl (by simp) (by exact wordsB2.2 ⟨Wd'.out, WU.out⟩)).mono ?_
              rintro _ w' ⟨rfl, rfl⟩
              go_simp
              refine hK.out _ _ ?_ (fun hHeld => ?_)
              · exact hHeld
              clear hK K
              try simp only [Act.put, List.setIfInBounds_toArray, List.set_cons_zero, List.set_cons_succ]
              refine wpAnyK_take 19 (oi := _) (v := ?_) rfl (by decide) (by kernel_rfl) (by kernel_rfl) (by kernel_rfl) (by kernel_rfl) (fun _ _ _ h => h) (Or.inl ⟨by rfl, ?_⟩) hHeld ?_
              rotate_left
              · (intro w9 hS9; (try dsimp only at hS9); go_simp; try with_reducible rfl)
              try simp only [Act.put, List.setIfInBounds_toArray, List.set_cons_zero, List.set_cons_succ]
              refine wpAnyK_last (by kernel_rfl) rfl (by kernel_rfl) (fun K hK => ?_)
              rw [if_pos (by rfl)]
              refine wp_store_whole 155 _ _ rfl B8 (ints [addI [U, V], a, b, c, addI [d, U], e, f, g]).toArray rfl rfl _ 155 hHeld.1 rfl (by kernel_rfl) (ints_one _) ?_
              intro w10 h10 hG10
              refine hK.out _ _ ?_
              clear hK K
              try simp only [Act.put, List.setIfInBounds_toArray, List.set_cons_zero, List.set_cons_succ]
              have hE := Lib.hid (step2_end h10 hG10 hHeld.2 H7.out HR6.out H2.out H4.out HB.out (by omega) (by omega) (by omega) (by omega) (by omega))
              clear h10 hG10 hHeld
              go_wp2_with fail
              go_roundw
              case rel => exact ⟨k + 1, by omega, by go_num, by rw [Hnext.out]; exact hE.out⟩
              case measure => simp [intOf]; omega
            exact ReadyK.nil
          exact ReadyK.nil
        exact ReadyK.nil
      refine ReadyK.cons rfl (fun K hK => ?_) ?_
      · go_simp
        refine hK.out _ _ ?_ (fun hHeld => ?_)
        · exact ⟨(Below.heap_alloc _ _ _ (cell_lt_of hHeld.1)).trans hHeld.1, hHeld.2.alloc hHeld.2.size _⟩
        clear hK K
        try simp only [Act.put, List.setIfInBounds_toArray, List.set_cons_zero, List.set_cons_succ]
        refine wpAnyK_ready (rs := [2]) (by kernel_rfl) (by simp) (by kernel_rfl) ?_
        refine ReadyK.cons rfl (fun K hK => ?_) ?_
        · go_simp
          refine hK.out _ _ ?_ (fun hHeld => ?_)
          · exact ⟨(Below.heap_alloc _ _ _ (cell_lt_of hHeld.1)).trans hHeld.1, hHeld.2.alloc hHeld.2.size _⟩
          clear hK K
          try simp only [Act.put, List.setIfInBounds_toArray, List.set_cons_zero, List.set_cons_succ]
          refine wpAnyK_ready (rs := [3]) (by kernel_rfl) (by simp) (by kernel_rfl) ?_
          refine ReadyK.cons rfl (fun K hK => ?_) ?_
          · go_simp
            go_at_call 164
            refine (add2 _ _ _ [U, V] _ (by first | exact rd_new' _ _ _ _ (by first | rfl | simp) | exact (rd_new' _ _ _ _ (by first | rfl | simp)).below (by exact ((Below.refl _ _).alloc (Nat.le_refl _) _).drew)) rfl (by simp) (by exact wordsB2.2 ⟨WU.out, WV.out⟩)).mono ?_
            rintro _ w' ⟨rfl, rfl⟩
            go_simp
            refine hK.out _ _ ?_ (fun hHeld => ?_)
            · exact hHeld
            clear hK K
            try simp only [Act.put, List.setIfInBounds_toArray, List.set_cons_zero, List.set_cons_succ]
            refine wpAnyK_ready (rs := [13]) (by kernel_rfl) (by simp) (by kernel_rfl) ?_
            refine ReadyK.cons rfl (fun K hK => ?_) ?_
            · go_simp
              go_at_call 164
              refine (add2 _ _ _ [d, U] _ (by first | exact rd_new' _ _ _ _ (by first | rfl | simp) | exact (rd_new' _ _ _ _ (by first | rfl | simp)).below (by exact ((Below.refl _ _).alloc (Nat.le_refl _) _).drew)) rfl (by simp) (by exact wordsB2.2 ⟨Wd'.out, WU.out⟩)).mono ?_
              rintro _ w' ⟨rfl, rfl⟩
              go_simp
              refine hK.out _ _ ?_ (fun hHeld => ?_)
              · exact hHeld
              clear hK K
              try simp only [Act.put, List.setIfInBounds_toArray, List.set_cons_zero, List.set_cons_succ]
              refine wpAnyK_take 19 (oi := _) (v := ?_) rfl (by decide) (by kernel_rfl) (by kernel_rfl) (by kernel_rfl) (by kernel_rfl) (fun _ _ _ h => h) (Or.inl ⟨by rfl, ?_⟩) hHeld ?_
              rotate_left
              · (intro w9 hS9; (try dsimp only at hS9); go_simp; try with_reducible rfl)
              try simp only [Act.put, List.setIfInBounds_toArray, List.set_cons_zero, List.set_cons_succ]
              refine wpAnyK_last (by kernel_rfl) rfl (by kernel_rfl) (fun K hK => ?_)
              rw [if_pos (by rfl)]
              refine wp_store_whole 155 _ _ rfl B8 (ints [addI [U, V], a, b, c, addI [d, U], e, f, g]).toArray rfl rfl _ 155 hHeld.1 rfl (by kernel_rfl) (ints_one _) ?_
              intro w10 h10 hG10
              refine hK.out _ _ ?_
              clear hK K
              try simp only [Act.put, List.setIfInBounds_toArray, List.set_cons_zero, List.set_cons_succ]
              have hE := Lib.hid (step2_end h10 hG10 hHeld.2 H7.out HR6.out H2.out H4.out HB.out (by omega) (by omega) (by omega) (by omega) (by omega))
              clear h10 hG10 hHeld
              go_wp2_with fail
              go_roundw
              case rel => exact ⟨k + 1, by omega, by go_num, by rw [Hnext.out]; exact hE.out⟩
              case measure => simp [intOf]; omega
            exact ReadyK.nil
          exact ReadyK.nil
        exact ReadyK.nil
      exact ReadyK.nil
      -- END15
    · obtain rfl : k = 64 := by omega
      have Hfw := Lib.hid (rnds_words (ws := ws) Hst.out 64)
      generalize hfin : rndsTo ws st 64 = fin at H8 Hfw
      have Hfin := Lib.hid hfin
      clear hfin
      go_wp2_with fail
      obtain ⟨wo, hwo⟩ : ∃ wo : World, wo = wr := ⟨_, rfl⟩
      rw [← hwo] at H8 H7 H2 H4 HB ⊢
      clear hwo
      go_loopw [16] (fun i wr => ∃ k : Nat, k ≤ 8 ∧ i = .int .i64 k ∧ wr.heap[B8]? = some (.cells (ints (addsTo st fin k)).toArray 155 (0, 0)) ∧ wr.heap[w.heap.size]? = some (.cells (ints st).toArray 155 (0, 0)) ∧ wr.heap[w.heap.size + 1]? = some (.cells zeros8 155 (0, 0)) ∧ Below w.heap.size w wr) (fun i _ => 8 - (intOf i).toNat)
      case atStart => exact ⟨0, by omega, rfl, by rw [addsTo_zero st fin Hfw.out.1]; exact H8.out, H2.out, H4.out, HB.out⟩
      case round =>
        obtain ⟨i, hi, rfl, hSi, hS0i, hZi, hWi⟩ := hrel
        clear H8 H7 H2 H4 HB HR6
        by_cases hi8 : i < 8
        · have s0 := (ints_cell hSi (i := i) (by rw [addsTo_len]; exact hi8)).1
          have f0 := (ints_cell hSi (i := i) (by rw [addsTo_len]; exact hi8)).2
          have t0 := (ints_cell hS0i (i := i) (by rw [Hst.out.1]; exact hi8)).1
          rw [addsTo_at st fin i hi8] at s0
          have hxw : Wd (fin.getD i 0) := wd_get Hfw.out.2 i
          have hyw : Wd (st.getD i 0) := wd_get Hst.out.2 i
          have Hset := Lib.hid (addsTo_set st fin i hi8)
          have Hww' := Lib.hid (wordsB2.2 ⟨hxw, hyw⟩)
          generalize fin.getD i 0 = x at s0 Hset Hww'
          generalize st.getD i 0 = y at t0 Hset Hww'
          rw [addI_comm2] at Hset
          have HSi := Lib.hid hSi
          have HS0i := Lib.hid hS0i
          have HZi := Lib.hid hZi
          have HWi := Lib.hid hWi
          have ii : (i : Int) < 8 := by omega
          have hSl := cell_lt_of hSi
          have hS0l := cell_lt_of hS0i
          clear hSi hS0i hWi hxw hyw hZi
          go_wp2_with fail
          go_region_law (first | (go_simp; go_at_call 164; refine (add2 _ _ _ [x, y] _ (by exact rd_new' _ _ _ _ (by simp)) rfl (by simp) Hww'.out).mono ?_; rintro e w' ⟨rfl, rfl⟩))
          all_goals
            go_wp2_with fail
            have e1 := ints_set HSi.out i (addI [x, y])
            rw [Hset.out] at e1
            have e2 := (Below.heap_setCell wr ⟨B8, i, none⟩ (.int .i64 (addI [x, y])) w.heap.size (by simp only; omega)).trans HS0i.out
            have e4 := (Below.heap_setCell wr ⟨B8, i, none⟩ (.int .i64 (addI [x, y])) (w.heap.size + 1) (by simp only; omega)).trans HZi.out
            have e3 := HWi.out.setCell (p := ⟨B8, i, none⟩) (by simp only; omega) (.int .i64 (addI [x, y]))
            refine ⟨?_, by simp [intOf]; omega⟩
            repeat apply Exists.intro
            refine ⟨⟨i + 1, by omega, by go_num, ?_, ?_, ?_, ?_⟩, rfl⟩
            · exact (Below.heap_alloc _ _ _ (cell_lt_of e1)).trans e1
            · exact (Below.heap_alloc _ _ _ (cell_lt_of e2)).trans e2
            · exact (Below.heap_alloc _ _ _ (cell_lt_of e4)).trans e4
            · exact (e3.alloc e3.size _).drew
        · obtain rfl : i = 8 := by omega
          obtain ⟨x0, x1, x2, x3, x4, x5, x6, x7, hx, _⟩ := words8_open (addsTo_words st fin Hfw.out.2 8)
          rw [hx] at hSi
          obtain ⟨⟨c0, c1, c2, c3, c4, c5, c6, c7⟩, f0, f1, f2, f3, f4, f5, f6, f7⟩ := eight_cells hSi
          have hz : wr.heap[w.heap.size + 1]? = some (.cells (ints [0, 0, 0, 0, 0, 0, 0, 0]).toArray 155 (0, 0)) := hZi
          obtain ⟨⟨z0, z1, z2, z3, z4, z5, z6, z7⟩, g0, g1, g2, g3, g4, g5, g6', g7⟩ := eight_cells hz
          have Hz := Lib.hid hz
          have HWi := Lib.hid hWi
          have Hx := Lib.hid hx
          clear hSi hS0i hZi hz hWi hx
          go_wp2_with fail
          have h8 := set8_at (xs := [0, 0, 0, 0, 0, 0, 0, 0]) rfl Hz.out x0 x1 x2 x3 x4 x5 x6 x7
          have hG := set8_by wr (w.heap.size + 1) x0 x1 x2 x3 x4 x5 x6 x7
          have hr := World.rangeAt_of_block h8 0 8
          have hl := run_loadVar_mid (P := Tryz.prog) _ (w.heap.size + 1) 0 155 _ _ hr Tryz.underlying155 rfl (by kernel_rfl)
          refine bodyPost_ret (res_cell_tmp rfl _ _ (w.heap.size + 1) rfl _ hl) rfl ?_
          refine ⟨?_, HWi.out.trans (grownBy_below' hG (by omega) HWi.out.size)⟩
          rw [Hfin.out, Hx.out]
          rfl
theorem step2 (st : List Int) (s : ByteArray) (w : World) (hst : Words8 st) (hs : s.size = 64) :
    Calls Tryz.prog 136 #[.agg (ints st).toArray, .string s] w fun e w' => e = .returned (.tuple #[.agg (ints (stepL st s.data.toList)).toArray, .bool true]) ∧ Below w.heap.size w w' :=
  step2_ws _ st s w hst hs (wTo_len _ (by simp [cutL]) _) (wTo_wd _ (cutL_words _ _ _) _) fun W => spread2 s W hs

/- R02d -/
open Go.RowKit
set_option linter.unusedVariables false
set_option maxRecDepth 100000
set_option linter.unusedSimpArgs false

theorem start2 (w : World) : Calls Tryz.prog 135 #[] w fun e w' => e = .returned (.agg (ints startL).toArray) ∧ Below w.heap.size w w' := by
  go_enter Tryz.func135, Tryz.ntmps135
  go_wp2_with fail
  refine bodyPost_ret (v := .agg (ints startL).toArray) (by simp [results, Tryz.results135, go_sem, ints, startL]) rfl ⟨rfl, (Below.refl _ _).alloc (Nat.le_refl _) _⟩

abbrev C8 (W : World) (B : Nat) (x0 x1 x2 x3 x4 x5 x6 x7 : Int) : Prop :=
  W.cell? ⟨B, 0, none⟩ = some (.int .i64 x0) ∧ W.cell? ⟨B, 1, none⟩ = some (.int .i64 x1) ∧ W.cell? ⟨B, 2, none⟩ = some (.int .i64 x2) ∧ W.cell? ⟨B, 3, none⟩ = some (.int .i64 x3) ∧ W.cell? ⟨B, 4, none⟩ = some (.int .i64 x4) ∧ W.cell? ⟨B, 5, none⟩ = some (.int .i64 x5) ∧ W.cell? ⟨B, 6, none⟩ = some (.int .i64 x6) ∧ W.cell? ⟨B, 7, none⟩ = some (.int .i64 x7)
theorem C8.below {W W' : World} {B : Nat} {x0 x1 x2 x3 x4 x5 x6 x7 : Int} (h : C8 W B x0 x1 x2 x3 x4 x5 x6 x7) (hb : Below W.heap.size W W') : C8 W' B x0 x1 x2 x3 x4 x5 x6 x7 := by
  have k : ∀ {p u}, W.cell? p = some u → W'.cell? p = some u := fun h => (hb.cell (cell_lt h)).trans h
  obtain ⟨h0, h1, h2, h3, h4, h5, h6, h7⟩ := h
  exact ⟨k h0, k h1, k h2, k h3, k h4, k h5, k h6, k h7⟩
theorem C8.alloc {W : World} {B : Nat} {x0 x1 x2 x3 x4 x5 x6 x7 : Int} (h : C8 W B x0 x1 x2 x3 x4 x5 x6 x7) (o : Obj) : C8 (W.alloc o) B x0 x1 x2 x3 x4 x5 x6 x7 := h.below ((Below.refl _ _).alloc (Nat.le_refl _) o)
theorem bs_app (s : ByteArray) (l : List UInt8) : s ++ bs l = bs (s.data.toList ++ l) := by
  apply ByteArray.ext
  rw [ByteArray.data_append]
  simp [bs]

theorem stTo_words (l : List UInt8) : ∀ k, Words8 (stTo l k)
  | 0 => start_words
  | k + 1 => stepL_words (stTo_words l k) _
theorem ext_list (l : List UInt8) (P : Nat) : (bs l).extract P (P + 64) = bs ((l.drop P).take 64) := by
  rw [extract_bs, bs_data, List.drop_take, Nat.add_sub_cancel_left]
theorem ext_size (T : ByteArray) (P : Nat) (h : P + 64 ≤ T.size) : (T.extract P (P + 64)).size = 64 := by
  rw [ByteArray.size_extract]; omega
theorem step2_lit {x0 x1 x2 x3 x4 x5 x6 x7 y0 y1 y2 y3 y4 y5 y6 y7 : Int} (s : ByteArray) (w : World) (hst : Words8 [x0, x1, x2, x3, x4, x5, x6, x7]) (hs : s.size = 64) (hy : stepL [x0, x1, x2, x3, x4, x5, x6, x7] s.data.toList = [y0, y1, y2, y3, y4, y5, y6, y7]) :
    Calls Tryz.prog 136 #[.agg #[.int .i64 x0, .int .i64 x1, .int .i64 x2, .int .i64 x3, .int .i64 x4, .int .i64 x5, .int .i64 x6, .int .i64 x7], .string s] w fun e w' => e = .returned (.tuple #[.agg #[.int .i64 y0, .int .i64 y1, .int .i64 y2, .int .i64 y3, .int .i64 y4, .int .i64 y5, .int .i64 y6, .int .i64 y7], .bool true]) ∧ Below w.heap.size w w' := by
  have := step2 _ s w hst hs
  rw [hy] at this
  exact this
theorem step7_below {wr W W' : World} {B : Nat} {o : Obj} (h : W.heap[B]? = some o ∧ Below wr.heap.size wr W) (hb : Below W.heap.size W W') : W'.heap[B]? = some o ∧ Below wr.heap.size wr W' := ⟨cells_below h.1 hb, Below.chain h.2 hb⟩
theorem step7_alloc {wr W : World} {B : Nat} {o : Obj} (h : W.heap[B]? = some o ∧ Below wr.heap.size wr W) (o' : Obj) : (W.alloc o').heap[B]? = some o ∧ Below wr.heap.size wr (W.alloc o') := step7_below h ((Below.refl _ _).alloc (Nat.le_refl _) _)
theorem step7_store {wr W W' : World} {B g : Nat} {o : Obj} (h : W.heap[B]? = some o ∧ Below wr.heap.size wr W) (hG : W.grownBy W' (some g)) (hne : B ≠ g) (hle : wr.heap.size ≤ g) : W'.heap[B]? = some o ∧ Below wr.heap.size wr W' :=
  ⟨(hG.block B (cell_lt_of h.1) (fun e => hne (Option.some.inj e))).trans h.1, h.2.trans (grownBy_below' hG hle h.2.size)⟩
set_option maxHeartbeats 1000000 in
theorem sum2 (s : ByteArray) (w : World) (hs : s.size ≤ 1000000) :
    Calls Tryz.prog 118 #[.string s] w fun e w' => e = .returned (.string (bs (sumL s.data.toList))) ∧ Below w.heap.size w w' := by
  obtain ⟨N, hN⟩ := pad_64 s.size
  have hp : (padL s.size).length ≤ 100 := by rw [padL_len]; unfold padZ; omega
  have HN := Lib.hid hN
  clear hN
  go_enter Tryz.func118, Tryz.ntmps118
  go_wp2_with fail
  refine (pad2 s.size _ (by omega)).mono ?_
  rintro e w1 ⟨rfl, hb1⟩
  have hsz : ¬ 9223372036854775807 < s.size + (bs (padL s.size)).size := by rw [bs_size]; omega
  go_wp2_with fail
  rw [bs_app]
  refine (start2 _).mono ?_
  rintro e w2 ⟨rfl, hb2⟩
  have HB2 := Lib.hid (Below.chain hb1 hb2)
  clear hb1 hb2 hsz
  rw [show (ints startL).toArray = #[.int .i64 1779033703, .int .i64 3144134277, .int .i64 1013904242, .int .i64 2773480762, .int .i64 1359893119, .int .i64 2600822924, .int .i64 528734635, .int .i64 1541459225] from rfl]
  go_wp2_with fail
  have HT := Lib.hid (show sumL s.data.toList = joinL (stTo (s.data.toList ++ padL s.size) N) true by
    rw [sumL, len_data]
    congr 2
    have := HN.out
    omega)
  have HL := Lib.hid (show (bs (s.data.toList ++ padL s.size)).size = 64 * N by
    rw [bs_size, List.length_append, len_data]; exact HN.out)
  have hNb : N ≤ 20000 := by have := HN.out; omega
  clear hp HN
  generalize s.data.toList ++ padL s.size = all at HT HL ⊢
  have H6 := Lib.hid (heap_alloc_new w2 (.cells (ints startL).toArray 155))
  have HB3 := Lib.hid (HB2.out.alloc HB2.out.size (.cells (ints startL).toArray 155))
  have hle := HB2.out.size
  obtain ⟨B6, hB6⟩ : ∃ B, B = w2.heap.size := ⟨_, rfl⟩
  rw [← hB6] at H6 hle ⊢
  change Hid ((w2.alloc (.cells #[.int .i64 1779033703, .int .i64 3144134277, .int .i64 1013904242, .int .i64 2773480762, .int .i64 1359893119, .int .i64 2600822924, .int .i64 528734635, .int .i64 1541459225] 155)).heap[B6]? = some (.cells (ints startL).toArray 155 (0, 0))) at H6
  change Hid (Below w.heap.size w (w2.alloc (.cells #[.int .i64 1779033703, .int .i64 3144134277, .int .i64 1013904242, .int .i64 2773480762, .int .i64 1359893119, .int .i64 2600822924, .int .i64 528734635, .int .i64 1541459225] 155))) at HB3
  generalize w2.alloc (.cells #[.int .i64 1779033703, .int .i64 3144134277, .int .i64 1013904242, .int .i64 2773480762, .int .i64 1359893119, .int .i64 2600822924, .int .i64 528734635, .int .i64 1541459225] 155) = w3 at H6 HB3 ⊢
  clear hB6 HB2
  obtain ⟨T, hT⟩ : ∃ T, T = bs all := ⟨_, rfl⟩
  rw [← hT] at HL ⊢
  have HTe := Lib.hid hT
  clear hT
  go_loopw [7] (fun x wr => ∃ k : Nat, k ≤ N ∧ x = .int .i64 ((64 * k : Nat) : Int) ∧ wr.heap[B6]? = some (.cells (ints (stTo all k)).toArray 155 (0, 0)) ∧ Below w.heap.size w wr) (fun x _ => 64 * N - (intOf x).toNat)
  case atStart => exact ⟨0, by omega, rfl, H6.out, HB3.out⟩
  case round =>
    obtain ⟨k, hk, rfl, h6, hB⟩ := hrel
    clear H6 HB3
    have Hw8 := Lib.hid (stTo_words all k)
    obtain ⟨x0, x1, x2, x3, x4, x5, x6, x7, hx, _⟩ := words8_open (stTo_words all k)
    have HB := Lib.hid hB
    clear hB
    have hL := HL.out
    by_cases hlt : k < N
    · obtain ⟨P, hP⟩ : ∃ P, P = 64 * k := ⟨_, rfl⟩
      rw [← hP]
      have hPi : (P : Int) < (T.size : Int) := by omega
      have hPb : P ≤ 10000000 := by omega
      have hP4 : (P : Int) + 64 ≤ (T.size : Int) := by omega
      have hP0 : (0 : Int) ≤ (P : Int) := by omega
      have e64 : IntKind.i64.wrap ((P : Int) + 64) = (P : Int) + 64 := IntWalk.i64_in _ (by omega)
      have hPn : (0 : Int) ≤ (P : Int) + 64 := by omega
      have hPP : (P : Int) ≤ (P : Int) + 64 := by omega
      have hPt : ((P : Int) + 64).toNat = P + 64 := by omega
      have hE := ext_size T P (by omega)
      have HE := Lib.hid hE
      have Hst := Lib.hid (show stTo all (k + 1) = stepL (stTo all k) (T.extract P (P + 64)).data.toList by
        rw [HTe.out, ext_list, bs_data, hP]
        rfl)
      have HP := Lib.hid hP
      clear hE hL hP
      rw [hx] at h6 Hst Hw8
      obtain ⟨y0, y1, y2, y3, y4, y5, y6, y7, hy, _⟩ := words8_open (stepL_words Hw8.out (T.extract P (P + 64)).data.toList)
      have Hy := Lib.hid (hy)
      rw [hy] at Hst
      have H6 := Lib.hid h6
      have hlt6 := cell_lt_of h6
      have hC : C8 wr B6 x0 x1 x2 x3 x4 x5 x6 x7 := (eight_cells h6).1
      have HC := Lib.hid hC
      clear h6 hx hy hC
      clear HC
      go_wp2_with fail
      -- REGION7
      refine wp_region_held_drew (S := fun w' => w'.heap[B6]? = some (.cells (ints [x0, x1, x2, x3, x4, x5, x6, x7]).toArray 155 (0, 0)) ∧ Below wr.heap.size wr w') (by kernel_rfl) (by exact ⟨H6.out, (Below.refl _ _).drew⟩) (fun hHeld => ?_)
      refine wpAnyH_take (i := 0) (oi := _) (v := ?_) rfl (by kernel_rfl) (by kernel_rfl) (by kernel_rfl) (fun _ _ _ h => h) (Or.inl ⟨by rfl, ?_⟩) hHeld ?_
      rotate_left
      · (intro w9 hS9; (try dsimp only at hS9); obtain ⟨⟨q0, q1, q2, q3, q4, q5, q6, q7⟩, _⟩ := eight_cells hS9.1; go_simp; try with_reducible rfl)
      try simp only [Act.put, List.setIfInBounds_toArray, List.set_cons_zero, List.set_cons_succ]
      refine wpAnyH_take (i := 1) (oi := _) (v := ?_) rfl (by kernel_rfl) (by kernel_rfl) (by kernel_rfl) (fun _ _ _ h => h) (Or.inl ⟨by rfl, ?_⟩) hHeld ?_
      rotate_left
      · (intro w9 hS9; (try dsimp only at hS9); go_simp; try with_reducible rfl)
      try simp only [Act.put, List.setIfInBounds_toArray, List.set_cons_zero, List.set_cons_succ]
      refine wpAnyH_take (i := 2) (oi := _) (v := ?_) rfl (by kernel_rfl) (by kernel_rfl) (by kernel_rfl) (fun _ _ _ h => h) (Or.inl ⟨by rfl, ?_⟩) hHeld ?_
      rotate_left
      · (intro w9 hS9; (try dsimp only at hS9); go_simp; try with_reducible rfl)
      try simp only [Act.put, List.setIfInBounds_toArray, List.set_cons_zero, List.set_cons_succ]
      refine wpAnyH_take (i := 3) (oi := _) (v := ?_) rfl (by kernel_rfl) (by kernel_rfl) (by kernel_rfl) (fun _ _ _ h => h) (Or.inl ⟨by rfl, ?_⟩) hHeld ?_
      rotate_left
      · (intro w9 hS9; (try dsimp only at hS9); go_simp; try with_reducible rfl)
      try simp only [Act.put, List.setIfInBounds_toArray, List.set_cons_zero, List.set_cons_succ]
      refine wpAnyH_take (i := 4) (oi := _) (v := ?_) rfl (by kernel_rfl) (by kernel_rfl) (by kernel_rfl) (fun _ _ _ h => h) (Or.inl ⟨by rfl, ?_⟩) hHeld ?_
      rotate_left
      · (intro w9 hS9; (try dsimp only at hS9); go_simp; try with_reducible rfl)
      try simp only [Act.put, List.setIfInBounds_toArray, List.set_cons_zero, List.set_cons_succ]
      refine wpAnyH_take (i := 5) (oi := _) (v := ?_) rfl (by kernel_rfl) (by kernel_rfl) (by kernel_rfl) (fun _ _ _ h => h) (Or.inl ⟨by rfl, ?_⟩) hHeld ?_
      rotate_left
      · (intro w9 hS9; (try dsimp only at hS9); go_simp; try with_reducible rfl)
      try simp only [Act.put, List.setIfInBounds_toArray, List.set_cons_zero, List.set_cons_succ]
      refine wpAnyH_ready (rs := [6, 10]) (by kernel_rfl) (by simp) ?_
      refine AllReadyH.cons rfl (fun K hK => ?_) ?_
      · go_simp
        go_at_call 136
        refine (step2_lit _ _ Hw8.out HE.out Hy.out).mono ?_
        rintro _ w' ⟨rfl, hb9⟩
        have hlt9 : wr.heap.size ≤ w'.heap.size := hb9.size
        have hS9 := step7_below hHeld hb9
        refine hK.out _ _ hS9 (fun hHeld => ?_)
        clear hK K hb9 hS9
        try simp only [Act.put, List.setIfInBounds_toArray, List.set_cons_zero, List.set_cons_succ]
        refine wpAnyH_take (i := 7) (oi := _) (v := ?_) rfl (by kernel_rfl) (by kernel_rfl) (by kernel_rfl) (fun _ _ _ h => h) (Or.inl ⟨by rfl, ?_⟩) hHeld ?_
        rotate_left
        · (intro w9 hS9; (try dsimp only at hS9); go_simp; try with_reducible rfl)
        try simp only [Act.put, List.setIfInBounds_toArray, List.set_cons_zero, List.set_cons_succ]
        refine wpAnyH_take (i := 8) (oi := _) (v := ?_) rfl (by kernel_rfl) (by kernel_rfl) (by kernel_rfl) (fun _ _ _ h => h) (Or.inl ⟨by rfl, ?_⟩) hHeld ?_
        rotate_left
        · (intro w9 hS9; (try dsimp only at hS9); go_simp; try with_reducible rfl)
        try simp only [Act.put, List.setIfInBounds_toArray, List.set_cons_zero, List.set_cons_succ]
        refine wpAnyH_take (i := 9) (oi := _) (v := ?_) rfl (by kernel_rfl) (by kernel_rfl) (by kernel_rfl) (fun _ _ _ h => h) (Or.inl ⟨by rfl, ?_⟩) hHeld ?_
        rotate_left
        · (intro w9 hS9; (try dsimp only at hS9); go_simp; try with_reducible rfl)
        try simp only [Act.put, List.setIfInBounds_toArray, List.set_cons_zero, List.set_cons_succ]
        refine wpAnyH_ready (rs := [10]) (by kernel_rfl) (by simp) ?_
        refine AllReadyH.cons rfl (fun K hK => ?_) ?_
        · go_simp
          have hz9 := heap_alloc_new w' (.cells zeros8 155)
          refine hK.out _ _ (step7_alloc hHeld _) (fun hHeld => ?_)
          clear hK K
          try simp only [Act.put, List.setIfInBounds_toArray, List.set_cons_zero, List.set_cons_succ]
          refine wpAnyH_ready (rs := [11]) (by kernel_rfl) (by simp) ?_
          refine AllReadyH.cons rfl (fun K hK => ?_) ?_
          · rw [if_pos (by rfl)]
            refine wp_store_whole 155 _ _ rfl (w'.heap.size) (ints [y0, y1, y2, y3, y4, y5, y6, y7]).toArray rfl rfl zeros8 155 hz9 rfl (by kernel_rfl) (ints_one _) ?_
            intro w10 h10 hG10
            refine hK.out _ _ (step7_store hHeld hG10 (by omega) (by omega)) (fun hHeld => ?_)
            clear hK K hG10 hz9
            try simp only [Act.put, List.setIfInBounds_toArray, List.set_cons_zero, List.set_cons_succ]
            refine wpAnyH_take (i := 12) (oi := _) (v := ?_) rfl (by kernel_rfl) (by kernel_rfl) (by kernel_rfl) (fun _ _ _ h => h) (Or.inl ⟨by rfl, ?_⟩) hHeld ?_
            rotate_left
            · (intro w9 hS9; (try dsimp only at hS9); go_simp; try with_reducible rfl)
            try simp only [Act.put, List.setIfInBounds_toArray, List.set_cons_zero, List.set_cons_succ]
            refine wpAnyH_done (by kernel_rfl) ?_ _
            obtain ⟨⟨c0, c1, c2, c3, c4, c5, c6, c7⟩, e0, e1, e2, e3, e4, e5, e6, e7⟩ := eight_cells h10
            obtain ⟨⟨d0, d1, d2, d3, d4, d5, d6, d7⟩, f0, f1, f2, f3, f4, f5, f6, f7⟩ := eight_cells hHeld.1
            have HH := Lib.hid hHeld
            clear h10 hHeld
            go_wp2_with fail
            have h11 := set8_at (xs := [x0, x1, x2, x3, x4, x5, x6, x7]) rfl HH.out.1 y0 y1 y2 y3 y4 y5 y6 y7
            have hB9 := (HB.out.trans (HH.out.2.mono HB.out.size)).trans (grownBy_below' (set8_by w10 B6 y0 y1 y2 y3 y4 y5 y6 y7) hle (Nat.le_trans HB.out.size HH.out.2.size))
            have Hend := Lib.hid (And.intro h11 hB9)
            clear h11 hB9 c0 c1 c2 c3 c4 c5 c6 c7 d0 d1 d2 d3 d4 d5 d6 d7 e0 e1 e2 e3 e4 e5 e6 e7 f0 f1 f2 f3 f4 f5 f6 f7
            go_roundw
            case rel => exact ⟨k + 1, by omega, by have := HP.out; go_num, by rw [Hst.out]; exact Hend.out.1, Hend.out.2⟩
            case measure => have := HP.out; simp [intOf]; omega
          exact AllReadyH.nil
        exact AllReadyH.nil
      refine AllReadyH.cons rfl (fun K hK => ?_) ?_
      · go_simp
        refine hK.out _ _ (step7_alloc hHeld _) (fun hHeld => ?_)
        clear hK K
        try simp only [Act.put, List.setIfInBounds_toArray, List.set_cons_zero, List.set_cons_succ]
        refine wpAnyH_ready (rs := [6]) (by kernel_rfl) (by simp) ?_
        refine AllReadyH.cons rfl (fun K hK => ?_) ?_
        · go_simp
          go_at_call 136
          refine (step2_lit _ _ Hw8.out HE.out Hy.out).mono ?_
          rintro _ w' ⟨rfl, hb9⟩
          have hz9 : w'.heap[wr.heap.size]? = some (.cells zeros8 155 (0, 0)) := (hb9.block wr.heap.size (by simp)).trans (heap_alloc_new wr _)
          have hlt9 : wr.heap.size < w'.heap.size := cell_lt_of hz9
          have hS9 := step7_below hHeld hb9
          refine hK.out _ _ hS9 (fun hHeld => ?_)
          clear hK K hb9 hS9
          try simp only [Act.put, List.setIfInBounds_toArray, List.set_cons_zero, List.set_cons_succ]
          refine wpAnyH_take (i := 7) (oi := _) (v := ?_) rfl (by kernel_rfl) (by kernel_rfl) (by kernel_rfl) (fun _ _ _ h => h) (Or.inl ⟨by rfl, ?_⟩) hHeld ?_
          rotate_left
          · (intro w9 hS9; (try dsimp only at hS9); go_simp; try with_reducible rfl)
          try simp only [Act.put, List.setIfInBounds_toArray, List.set_cons_zero, List.set_cons_succ]
          refine wpAnyH_take (i := 8) (oi := _) (v := ?_) rfl (by kernel_rfl) (by kernel_rfl) (by kernel_rfl) (fun _ _ _ h => h) (Or.inl ⟨by rfl, ?_⟩) hHeld ?_
          rotate_left
          · (intro w9 hS9; (try dsimp only at hS9); go_simp; try with_reducible rfl)
          try simp only [Act.put, List.setIfInBounds_toArray, List.set_cons_zero, List.set_cons_succ]
          refine wpAnyH_take (i := 9) (oi := _) (v := ?_) rfl (by kernel_rfl) (by kernel_rfl) (by kernel_rfl) (fun _ _ _ h => h) (Or.inl ⟨by rfl, ?_⟩) hHeld ?_
          rotate_left
          · (intro w9 hS9; (try dsimp only at hS9); go_simp; try with_reducible rfl)
          try simp only [Act.put, List.setIfInBounds_toArray, List.set_cons_zero, List.set_cons_succ]
          refine wpAnyH_ready (rs := [11]) (by kernel_rfl) (by simp) ?_
          refine AllReadyH.cons rfl (fun K hK => ?_) ?_
          · rw [if_pos (by rfl)]
            refine wp_store_whole 155 _ _ rfl (wr.heap.size) (ints [y0, y1, y2, y3, y4, y5, y6, y7]).toArray rfl rfl zeros8 155 hz9 rfl (by kernel_rfl) (ints_one _) ?_
            intro w10 h10 hG10
            refine hK.out _ _ (step7_store hHeld hG10 (by omega) (by omega)) (fun hHeld => ?_)
            clear hK K hG10 hz9
            try simp only [Act.put, List.setIfInBounds_toArray, List.set_cons_zero, List.set_cons_succ]
            refine wpAnyH_take (i := 12) (oi := _) (v := ?_) rfl (by kernel_rfl) (by kernel_rfl) (by kernel_rfl) (fun _ _ _ h => h) (Or.inl ⟨by rfl, ?_⟩) hHeld ?_
            rotate_left
            · (intro w9 hS9; (try dsimp only at hS9); go_simp; try with_reducible rfl)
            try simp only [Act.put, List.setIfInBounds_toArray, List.set_cons_zero, List.set_cons_succ]
            refine wpAnyH_done (by kernel_rfl) ?_ _
            obtain ⟨⟨c0, c1, c2, c3, c4, c5, c6, c7⟩, e0, e1, e2, e3, e4, e5, e6, e7⟩ := eight_cells h10
            obtain ⟨⟨d0, d1, d2, d3, d4, d5, d6, d7⟩, f0, f1, f2, f3, f4, f5, f6, f7⟩ := eight_cells hHeld.1
            have HH := Lib.hid hHeld
            clear h10 hHeld
            go_wp2_with fail
            have h11 := set8_at (xs := [x0, x1, x2, x3, x4, x5, x6, x7]) rfl HH.out.1 y0 y1 y2 y3 y4 y5 y6 y7
            have hB9 := (HB.out.trans (HH.out.2.mono HB.out.size)).trans (grownBy_below' (set8_by w10 B6 y0 y1 y2 y3 y4 y5 y6 y7) hle (Nat.le_trans HB.out.size HH.out.2.size))
            have Hend := Lib.hid (And.intro h11 hB9)
            clear h11 hB9 c0 c1 c2 c3 c4 c5 c6 c7 d0 d1 d2 d3 d4 d5 d6 d7 e0 e1 e2 e3 e4 e5 e6 e7 f0 f1 f2 f3 f4 f5 f6 f7
            go_roundw
            case rel => exact ⟨k + 1, by omega, by have := HP.out; go_num, by rw [Hst.out]; exact Hend.out.1, Hend.out.2⟩
            case measure => have := HP.out; simp [intOf]; omega
          exact AllReadyH.nil
        exact AllReadyH.nil
      exact AllReadyH.nil
      -- END7
    · obtain rfl : k = N := by omega
      have hni : ¬ ((64 * k : Nat) : Int) < (T.size : Int) := by omega
      have HRd := Lib.hid (show Rd wr (some ⟨B6, 0, none⟩) (ints (stTo all k)) from fun j u hu => by
        have hj : j < (stTo all k).length := by
          rcases Nat.lt_or_ge j (stTo all k).length with h | h
          · exact h
          · simp [ints, h] at hu
        refine ⟨B6, 0, rfl, ?_⟩
        rw [Nat.zero_add, (ints_cell h6 hj).1]
        simpa [ints, hj] using hu)
      obtain ⟨Q, hQ⟩ : ∃ Q, Q = 64 * k := ⟨_, rfl⟩
      rw [← hQ] at hni ⊢
      clear hL hQ h6 hx
      go_wp2_with fail
      refine (join1 (stTo all k) _ _ _ true _ HRd.out (by rw [Hw8.out.1]) (by rw [Hw8.out.1]; decide) Hw8.out.2).mono ?_
      rintro e w9 ⟨rfl, hb9⟩
      have HB9 := Lib.hid (Below.chain HB.out hb9)
      clear hb9
      go_wp2_with fail
      go_ret
      exact ⟨by rw [HT.out]; rfl, HB9.out⟩
end

/- R26 -/
section
open Go.RowKit
set_option linter.unusedVariables false
set_option linter.unusedSimpArgs false
set_option maxRecDepth 100000
set_option maxHeartbeats 4000000

theorem conv1 {W : World} {g : Nat} {x : UInt8} {t : TypeId} (h : W.heap[g]? = some (.cells #[.int .u8 (x.toNat : Int)] t (0, 0))) : (convert 72 9 (.slice (some ⟨g, 0, none⟩) 1 1)).run Tryz.prog W = .ok (.string (bs [x])) W :=
  conv_rd (l := [x]) (fun i u hu => ⟨g, 0, rfl, by
    rw [Nat.zero_add, cell_of_row W g i _ _ _ h]
    simpa [bytesV] using hu⟩) 1 1 rfl
theorem head26_any (gen area : Int) (root : ByteArray) (w : World) (hz : root.size ≤ 1000000000) :
    Calls Tryz.prog 16 #[.int .i64 gen, .int .i64 area, .string root] w fun e w' => e = .returned (.string (headS gen area root)) ∧ Below w.heap.size w w' := by
  have no : vhB gen area root = false → headS gen area root = ⟨#[]⟩ := fun h => by rw [headS, if_neg (by rw [h]; simp)]; rfl
  by_cases h1 : gen < 0
  · rw [no (by simp [vhB]; omega)]
    have d1 : decide (gen < 0) = true := decide_eq_true h1
    go_enter Tryz.func16, Tryz.ntmps16
    go_wp2_with fail
    go_ret
    exact ⟨rfl, Below.refl _ _⟩
  have d1 : decide (gen < 0) = false := decide_eq_false h1
  by_cases h2 : gen > 1000000000
  · rw [no (by simp [vhB]; omega)]
    have d2 : decide (gen > 1000000000) = true := decide_eq_true h2
    go_enter Tryz.func16, Tryz.ntmps16
    go_wp2_with fail
    go_ret
    exact ⟨rfl, Below.refl _ _⟩
  have d2 : decide (gen > 1000000000) = false := decide_eq_false h2
  by_cases h3 : area < 0
  · rw [no (by simp [vhB]; omega)]
    have d3 : decide (area < 0) = true := decide_eq_true h3
    go_enter Tryz.func16, Tryz.ntmps16
    go_wp2_with fail
    go_ret
    exact ⟨rfl, Below.refl _ _⟩
  have d3 : decide (area < 0) = false := decide_eq_false h3
  by_cases h4 : area > 1
  · rw [no (by simp [vhB]; omega)]
    have d4 : decide (area > 1) = true := decide_eq_true h4
    go_enter Tryz.func16, Tryz.ntmps16
    go_wp2_with fail
    go_ret
    exact ⟨rfl, Below.refl _ _⟩
  have d4 : decide (area > 1) = false := decide_eq_false h4
  by_cases h5 : root.size = 32
  · have hb : vhB gen area root = true := by simp [vhB, h5]; omega
    have d5 : ((root.size : Int) != 32) = false := by simp; omega
    have hw : wordB gen = true := by simp [wordB]; omega
    have hws : wordsB [gen] = true := by simp [wordsB, hw]
    obtain ⟨x, rfl⟩ := Int.eq_ofNat_of_zero_le (show 0 ≤ gen by omega)
    obtain ⟨F, hF⟩ : ∃ F, F = bs (toldL x true) := ⟨_, rfl⟩
    have hFj : bs (joinL [(x : Int)] true) = F := by
      have := joinL_snoc [] x true
      rw [List.nil_append] at this
      rw [this, hF]
      rfl
    have hFs : F.size = 4 := by rw [hF, bs_size]; rfl
    have HS := Lib.hid (show headS (x : Int) area root = F ++ bs [u8 area] ++ root by
      rw [headS, if_pos hb, fourL, if_pos hw, ← hFj, ← bs_cat, ← bs_cat, bs_of])
    have HTl := Lib.hid (fun W => told1 x true W (by omega))
    rw [← hF] at HTl
    have hwr := va_wrap area
    have hone : (bs [u8 area]).size = 1 := rfl
    have s1 : ¬ 9223372036854775807 < F.size + (bs [u8 area]).size := by omega
    have s2 : ¬ 9223372036854775807 < F.size + (bs [u8 area]).size + root.size := by omega
    clear no hb hF hFj hw hws h1 h2 h3 h4
    go_enter Tryz.func16, Tryz.ntmps16
    go_wp2_with fail
    refine wp_region_held_drew (S := fun w' => True) (by kernel_rfl) trivial (fun hHeld => ?_)
    refine wpAnyH_take (i := 0) (oi := _) (v := ?_) rfl (by kernel_rfl) (by kernel_rfl) (by kernel_rfl) (fun _ _ _ h => h) (Or.inl ⟨by rfl, ?_⟩) hHeld ?_
    rotate_left
    · (intro w9 hS9; go_simp; try with_reducible rfl)
    try simp only [Act.put, List.setIfInBounds_toArray, List.set_cons_zero, List.set_cons_succ]
    refine wpAnyH_take (i := 2) (oi := _) (v := ?_) rfl (by kernel_rfl) (by kernel_rfl) (by kernel_rfl) (fun _ _ _ h => h) (Or.inl ⟨by rfl, ?_⟩) hHeld ?_
    rotate_left
    · (intro w9 hS9; go_simp; try with_reducible rfl)
    try simp only [Act.put, List.setIfInBounds_toArray, List.set_cons_zero, List.set_cons_succ]
    refine wpAnyH_take (i := 3) (oi := _) (v := ?_) rfl (by kernel_rfl) (by kernel_rfl) (by kernel_rfl) (fun _ _ _ h => h) (Or.inl ⟨by rfl, ?_⟩) hHeld ?_
    rotate_left
    · (intro w9 hS9; go_simp; try with_reducible rfl)
    try simp only [Act.put, List.setIfInBounds_toArray, List.set_cons_zero, List.set_cons_succ]
    refine wpAnyH_take (i := 7) (oi := _) (v := ?_) rfl (by kernel_rfl) (by kernel_rfl) (by kernel_rfl) (fun _ _ _ h => h) (Or.inl ⟨by rfl, ?_⟩) hHeld ?_
    rotate_left
    · (intro w9 hS9; go_simp; try with_reducible rfl)
    try simp only [Act.put, List.setIfInBounds_toArray, List.set_cons_zero, List.set_cons_succ]
    refine wpAnyH_ready (rs := [1, 4]) (by kernel_rfl) (by simp) ?_
    refine AllReadyH.cons rfl (fun K hK => ?_) ?_
    · go_simp
      go_at_call 41
      refine (HTl.out _).mono ?_
      rintro _ w4 ⟨rfl, hb4'⟩
      have K4 := Lib.hid (Below.chain ((Below.refl w.heap.size w).drew) hb4')
      refine hK.out _ _ trivial (fun hHeld => ?_)
      clear hK K hb4'
      try simp only [Act.put, List.setIfInBounds_toArray, List.set_cons_zero, List.set_cons_succ]
      refine wpAnyH_ready (rs := [4]) (by kernel_rfl) (by simp) ?_
      refine AllReadyH.cons rfl (fun K hK => ?_) ?_
      · go_simp
        have hz4 := heap_alloc_new w4 (.cells #[.int .u8 ((u8 area).toNat : Int)] 5)
        replace K4 := Lib.hid (Below.chain K4.out ((Below.refl _ _).alloc (Nat.le_refl _) (.cells #[.int .u8 ((u8 area).toNat : Int)] 5)))
        refine hK.out _ _ trivial (fun hHeld => ?_)
        clear hK K
        try simp only [Act.put, List.setIfInBounds_toArray, List.set_cons_zero, List.set_cons_succ]
        refine wpAnyH_ready (rs := [5]) (by kernel_rfl) (by simp) ?_
        refine AllReadyH.cons rfl (fun K hK => ?_) ?_
        · have cv := conv1 hz4
          go_simp
          refine hK.out _ _ trivial (fun hHeld => ?_)
          clear hK K
          try simp only [Act.put, List.setIfInBounds_toArray, List.set_cons_zero, List.set_cons_succ]
          refine wpAnyH_take (i := 6) (oi := _) (v := ?_) rfl (by kernel_rfl) (by kernel_rfl) (by kernel_rfl) (fun _ _ _ h => h) (Or.inl ⟨by rfl, ?_⟩) hHeld ?_
          rotate_left
          · (intro w9 hS9; go_simp; try with_reducible rfl)
          try simp only [Act.put, List.setIfInBounds_toArray, List.set_cons_zero, List.set_cons_succ]
          refine wpAnyH_take (i := 8) (oi := _) (v := ?_) rfl (by kernel_rfl) (by kernel_rfl) (by kernel_rfl) (fun _ _ _ h => h) (Or.inl ⟨by rfl, ?_⟩) hHeld ?_
          rotate_left
          · (intro w9 hS9; go_simp; try with_reducible rfl)
          try simp only [Act.put, List.setIfInBounds_toArray, List.set_cons_zero, List.set_cons_succ]
          refine wpAnyH_ready (rs := [9]) (by kernel_rfl) (by simp) ?_
          refine AllReadyH.cons rfl (fun K hK => ?_) AllReadyH.nil
          go_simp
          refine hK.out _ _ hHeld (fun hHeld => ?_)
          clear hK K
          try simp only [Act.put, List.setIfInBounds_toArray, List.set_cons_zero, List.set_cons_succ]
          refine wpAnyH_done (by kernel_rfl) ?_ _
          go_wp2_with fail
          go_ret
          rw [HS.out]
          exact ⟨rfl, K4.out⟩
        exact AllReadyH.nil
      exact AllReadyH.nil
    refine AllReadyH.cons rfl (fun K hK => ?_) ?_
    · go_simp
      refine hK.out _ _ trivial (fun hHeld => ?_)
      clear hK K
      try simp only [Act.put, List.setIfInBounds_toArray, List.set_cons_zero, List.set_cons_succ]
      refine wpAnyH_ready (rs := [1, 5]) (by kernel_rfl) (by simp) ?_
      refine AllReadyH.cons rfl (fun K hK => ?_) ?_
      · go_simp
        go_at_call 41
        refine (HTl.out _).mono ?_
        rintro _ w4 ⟨rfl, hb4'⟩
        have K4 := Lib.hid (Below.chain (((Below.refl w.heap.size w).alloc (Nat.le_refl _) (.cells #[.int .u8 ((u8 area).toNat : Int)] 5)).drew) hb4')
        have hz4 := cells_below (W := (w.alloc (.cells #[.int .u8 ((u8 area).toNat : Int)] 5)).drew) (heap_alloc_new w (.cells #[.int .u8 ((u8 area).toNat : Int)] 5)) hb4'
        refine hK.out _ _ trivial (fun hHeld => ?_)
        clear hK K hb4'
        try simp only [Act.put, List.setIfInBounds_toArray, List.set_cons_zero, List.set_cons_succ]
        refine wpAnyH_ready (rs := [5]) (by kernel_rfl) (by simp) ?_
        refine AllReadyH.cons rfl (fun K hK => ?_) ?_
        · have cv := conv1 hz4
          go_simp
          refine hK.out _ _ trivial (fun hHeld => ?_)
          clear hK K
          try simp only [Act.put, List.setIfInBounds_toArray, List.set_cons_zero, List.set_cons_succ]
          refine wpAnyH_take (i := 6) (oi := _) (v := ?_) rfl (by kernel_rfl) (by kernel_rfl) (by kernel_rfl) (fun _ _ _ h => h) (Or.inl ⟨by rfl, ?_⟩) hHeld ?_
          rotate_left
          · (intro w9 hS9; go_simp; try with_reducible rfl)
          try simp only [Act.put, List.setIfInBounds_toArray, List.set_cons_zero, List.set_cons_succ]
          refine wpAnyH_take (i := 8) (oi := _) (v := ?_) rfl (by kernel_rfl) (by kernel_rfl) (by kernel_rfl) (fun _ _ _ h => h) (Or.inl ⟨by rfl, ?_⟩) hHeld ?_
          rotate_left
          · (intro w9 hS9; go_simp; try with_reducible rfl)
          try simp only [Act.put, List.setIfInBounds_toArray, List.set_cons_zero, List.set_cons_succ]
          refine wpAnyH_ready (rs := [9]) (by kernel_rfl) (by simp) ?_
          refine AllReadyH.cons rfl (fun K hK => ?_) AllReadyH.nil
          go_simp
          refine hK.out _ _ hHeld (fun hHeld => ?_)
          clear hK K
          try simp only [Act.put, List.setIfInBounds_toArray, List.set_cons_zero, List.set_cons_succ]
          refine wpAnyH_done (by kernel_rfl) ?_ _
          go_wp2_with fail
          go_ret
          rw [HS.out]
          exact ⟨rfl, K4.out⟩
        exact AllReadyH.nil
      refine AllReadyH.cons rfl (fun K hK => ?_) ?_
      · have cv := conv1 (show (w.alloc (.cells #[.int .u8 ((u8 area).toNat : Int)] 5)).drew.heap[w.heap.size]? = some (.cells #[.int .u8 ((u8 area).toNat : Int)] 5) from heap_alloc_new w _)
        go_simp
        refine hK.out _ _ trivial (fun hHeld => ?_)
        clear hK K
        try simp only [Act.put, List.setIfInBounds_toArray, List.set_cons_zero, List.set_cons_succ]
        refine wpAnyH_ready (rs := [1]) (by kernel_rfl) (by simp) ?_
        refine AllReadyH.cons rfl (fun K hK => ?_) ?_
        · go_simp
          go_at_call 41
          refine (HTl.out _).mono ?_
          rintro _ w4 ⟨rfl, hb4'⟩
          have K4 := Lib.hid (Below.chain (((Below.refl w.heap.size w).alloc (Nat.le_refl _) (.cells #[.int .u8 ((u8 area).toNat : Int)] 5)).drew) hb4')
          have hz4 := cells_below (W := (w.alloc (.cells #[.int .u8 ((u8 area).toNat : Int)] 5)).drew) (heap_alloc_new w (.cells #[.int .u8 ((u8 area).toNat : Int)] 5)) hb4'
          refine hK.out _ _ trivial (fun hHeld => ?_)
          clear hK K hb4'
          try simp only [Act.put, List.setIfInBounds_toArray, List.set_cons_zero, List.set_cons_succ]
          refine wpAnyH_take (i := 6) (oi := _) (v := ?_) rfl (by kernel_rfl) (by kernel_rfl) (by kernel_rfl) (fun _ _ _ h => h) (Or.inl ⟨by rfl, ?_⟩) hHeld ?_
          rotate_left
          · (intro w9 hS9; go_simp; try with_reducible rfl)
          try simp only [Act.put, List.setIfInBounds_toArray, List.set_cons_zero, List.set_cons_succ]
          refine wpAnyH_take (i := 8) (oi := _) (v := ?_) rfl (by kernel_rfl) (by kernel_rfl) (by kernel_rfl) (fun _ _ _ h => h) (Or.inl ⟨by rfl, ?_⟩) hHeld ?_
          rotate_left
          · (intro w9 hS9; go_simp; try with_reducible rfl)
          try simp only [Act.put, List.setIfInBounds_toArray, List.set_cons_zero, List.set_cons_succ]
          refine wpAnyH_ready (rs := [9]) (by kernel_rfl) (by simp) ?_
          refine AllReadyH.cons rfl (fun K hK => ?_) AllReadyH.nil
          go_simp
          refine hK.out _ _ hHeld (fun hHeld => ?_)
          clear hK K
          try simp only [Act.put, List.setIfInBounds_toArray, List.set_cons_zero, List.set_cons_succ]
          refine wpAnyH_done (by kernel_rfl) ?_ _
          go_wp2_with fail
          go_ret
          rw [HS.out]
          exact ⟨rfl, K4.out⟩
        exact AllReadyH.nil
      exact AllReadyH.nil
    exact AllReadyH.nil
  · rw [no (by simp [vhB]; omega)]
    have d5 : ((root.size : Int) != 32) = true := by simp; omega
    go_enter Tryz.func16, Tryz.ntmps16
    go_wp2_with fail
    go_ret
    exact ⟨rfl, Below.refl _ _⟩
theorem size26_any (v : Value) (P : Plat) (w : World) (h : PlV w v P) (hl : P.ss.length ≤ maxLen) :
    Calls Tryz.prog 31 #[v] w fun e w' => e = .returned (.int .i64 (sizeN P.ss.length : Nat)) ∧ Below w.heap.size w w' := by
  obtain ⟨A, m, c, B, m2, d, rfl, h⟩ := h
  have hm := h.hn
  have kx := heap_alloc_new w (.cells #[.slice A m c, .slice B m2 d] 25)
  have HB := Lib.hid ((Below.refl w.heap.size w).alloc (Nat.le_refl _) (.cells #[.slice A m c, .slice B m2 d] 25))
  rw [← hm] at hl ⊢
  obtain ⟨x0, x1, _, _⟩ := two_cells kx
  clear h hm
  obtain ⟨u, hu⟩ : ∃ u, u = w.alloc (.cells #[.slice A m c, .slice B m2 d] 25) := ⟨_, rfl⟩
  have Hu := Lib.hid hu
  rw [← hu] at HB x0 x1
  clear kx hu
  go_enter Tryz.func31, Tryz.ntmps31
  go_upto_region 1 with fail
  rw [← Hu.out]
  clear Hu
  go_wp2_with fail
  go_loopw [3] (fun x wr => ∃ j : Nat, j ≤ 7 ∧ x = .int .i64 ((2 ^ j : Nat) : Int) ∧ (∀ i, i < j → m ≠ 3 + 2 * 2 ^ i) ∧ wr = u) (fun x _ => 200 - (intOf x).toNat)
  case atStart => exact ⟨0, by omega, rfl, fun i hi => by omega, rfl⟩
  case round =>
    obtain ⟨j, hj, rfl, hnot, rfl⟩ := hrel
    by_cases h7 : j = 7
    · subst h7
      have hs := size_none m hnot
      have e1 : decide (((2 ^ 7 : Nat) : Int) ≤ 64) = false := by decide
      go_wp2_with fail
      go_ret
      rw [hs]
      exact ⟨rfl, HB.out⟩
    · have hle : ∀ j, j ≤ 6 → 2 ^ j ≤ 64 ∧ 1 ≤ 2 ^ j ∧ 2 ^ (j + 1) = 2 * 2 ^ j := by decide
      obtain ⟨t1, t2, t3⟩ := hle j (by omega)
      have Hend := Lib.hid (size_end m j (by omega))
      have Hnot := Lib.hid hnot
      obtain ⟨t, ht⟩ : ∃ t, t = 2 ^ j := ⟨_, rfl⟩
      have HT := Lib.hid ht
      rw [← ht] at t1 t2 t3 Hend ⊢
      have HT3 := Lib.hid t3
      clear hnot hle ht t3
      have e1 : decide ((t : Int) ≤ 64) = true := decide_eq_true (by omega)
      by_cases hm3 : m = 3 + 2 * t
      · have hs := Hend.out hm3
        have e2 : ((m : Int) == 3 + 2 * (t : Int)) = true := by simp; omega
        go_wp2_with fail
        go_ret
        rw [hs]
        exact ⟨rfl, HB.out⟩
      · have e2 : ((m : Int) == 3 + 2 * (t : Int)) = false := by simp; omega
        go_wp2_with fail
        go_roundw
        case rel =>
          refine ⟨j + 1, by omega, ?_, fun i hi => ?_, by trivial⟩
          · rw [HT3.out]
            go_num
          · by_cases he : i = j
            · subst he; rw [← HT.out]; exact hm3
            · exact Hnot.out i (by omega)
        case measure => simp [intOf]; omega
end

/- R11 -/
section
open Go.RowKit
set_option linter.unusedVariables false
set_option linter.unusedSimpArgs false
set_option maxRecDepth 100000
set_option maxHeartbeats 4000000

theorem pow_ten {h : Nat} (hh : 2 ^ h < 1024) : h < 10 := by
  by_cases h10 : h < 10
  · exact h10
  · have := Nat.pow_le_pow_right (show 0 < 2 by omega) (show 10 ≤ h by omega)
    omega
theorem may_is {n h : Nat} (h10 : h ≤ 10) (hlow : h = 0 ∨ 2 ^ (h - 1) < n) (hge : n ≤ 2 ^ h) : mayB n = decide (2 ^ h = n) := by
  have hp : ∀ h, h < 11 → mayB (2 ^ h) = true := by decide +kernel
  by_cases he : 2 ^ h = n
  · rw [decide_eq_true he, ← he]
    exact hp h (by omega)
  · rw [decide_eq_false he]
    cases hm : mayB n with
    | false => rfl
    | true =>
      obtain ⟨H, _, h2⟩ := may_pow hm
      exfalso
      rw [h2] at hlow hge he
      have h3 : H ≤ h := (Nat.pow_le_pow_iff_right (by omega)).1 hge
      rcases hlow with h0 | h0
      · exact he (by congr 1; omega)
      · have h4 : h - 1 < H := (Nat.pow_lt_pow_iff_right (by omega)).1 h0
        exact he (by congr 1; omega)
theorem may11_any (A : Option Addr) (n c : Nat) (w : World) (hn : n ≤ 1000) :
    Calls Tryz.prog 53 #[.slice A n c] w fun e w' => e = .returned (.bool (mayB n)) ∧ w' = w := by
  go_enter Tryz.func53, Tryz.ntmps53
  go_wp2_with fail
  go_loopw [3] (fun x wr => ∃ p : Nat, x = .int .i64 (p : Nat) ∧ (∃ h, h ≤ 10 ∧ p = 2 ^ h ∧ (h = 0 ∨ 2 ^ (h - 1) < n)) ∧ wr = w) (fun x _ => 3000 - (intOf x).toNat)
  case atStart => exact ⟨1, rfl, ⟨0, by omega, rfl, .inl rfl⟩, rfl⟩
  case round =>
    obtain ⟨p, rfl, hp, rfl⟩ := hrel
    have hp1 : 1 ≤ p := by obtain ⟨h, _, rfl, _⟩ := hp; exact Nat.one_le_two_pow
    have HP := Lib.hid hp
    clear hp
    by_cases hlt : p < n
    · have e1 : decide ((p : Int) < (n : Int)) = true := decide_eq_true (by omega)
      have HP2 : Hid (∃ h, h ≤ 10 ∧ 2 * p = 2 ^ h ∧ (h = 0 ∨ 2 ^ (h - 1) < n)) := Lib.hid (by
        obtain ⟨h, h10, hpp, _⟩ := HP.out
        have := pow_ten (h := h) (by omega)
        exact ⟨h + 1, by omega, by rw [hpp, Nat.pow_succ]; omega, .inr (by rw [Nat.add_sub_cancel, ← hpp]; exact hlt)⟩)
      have Hn := Lib.hid (show IntKind.i64.wrap (2 * (p : Int)) = ((2 * p : Nat) : Int) by rw [IntWalk.i64_in _ (by omega)]; omega)
      go_wp2_with fail
      go_roundw
      case rel => exact ⟨2 * p, by go_num, HP2.out, by trivial⟩
      case measure => simp [intOf]; omega
    · have e1 : decide ((p : Int) < (n : Int)) = false := decide_eq_false (by omega)
      have Hm := Lib.hid (show mayB n = decide (p = n) by
        obtain ⟨h, h10, hpp, hlow⟩ := HP.out
        rw [hpp]
        exact may_is h10 hlow (by omega))
      by_cases he : p = n
      · subst he
        have e2 : ((p : Int) == (p : Int)) = true := beq_self_eq_true _
        have e3 : decide ((p : Int) ≤ 1024) = true := decide_eq_true (by omega)
        go_wp2_with fail
        go_ret
        exact ⟨by rw [Hm.out]; simp, by trivial⟩
      · have e2 : ((p : Int) == (n : Int)) = false := by simp; omega
        have e4 : ¬ (p : Int) = (n : Int) := by omega
        have Hm2 := Lib.hid (show mayB n = false by rw [Hm.out]; exact decide_eq_false he)
        clear he
        go_wp2_with fail
        go_ret
        exact ⟨by rw [Hm2.out]; rfl, by trivial⟩
theorem leaf11_any (s : ByteArray) (w : World) (hs : s.size ≤ 1000) :
    Calls Tryz.prog 105 #[.string s] w fun e w' => e = .returned (.string (leafT s)) ∧ Below w.heap.size w w' := by
  have HX : Hid (∀ W, Calls Tryz.prog 119 #[.string s] W fun e w' => e = .returned (.string (leafX s)) ∧ w' = W) := Lib.hid fun W => by
    go_enter Tryz.func119, Tryz.ntmps119
    go_wp2_with fail
    go_ret
    exact ⟨rfl, rfl⟩
  have HS := Lib.hid (fun W => sum2 (leafX s) W (by unfold leafX; rw [ByteArray.size_append]; have : (⟨#[0]⟩ : ByteArray).size = 1 := rfl; omega))
  show Calls _ _ _ _ fun e w' => e = .returned (.string (bs (sumL (leafX s).data.toList))) ∧ Below w.heap.size w w'
  generalize bs (sumL (leafX s).data.toList) = r at HS ⊢
  generalize leafX s = x at HX HS
  clear hs
  go_enter Tryz.func105, Tryz.ntmps105
  go_wp2_with fail
  refine (HX.out _).mono ?_
  rintro e w1 ⟨rfl, rfl⟩
  go_wp2_with fail
  refine (HS.out _).mono ?_
  rintro e w1 ⟨rfl, hb⟩
  go_wp2_with fail
  go_ret
  exact ⟨rfl, hb⟩
theorem node11_any (a b : ByteArray) (w : World) (ha : a.size ≤ 1000) (hb : b.size ≤ 1000) :
    Calls Tryz.prog 106 #[.string a, .string b] w fun e w' => e = .returned (.string (nodeT a b)) ∧ Below w.heap.size w w' := by
  have HX : Hid (∀ W, Calls Tryz.prog 120 #[.string a, .string b] W fun e w' => e = .returned (.string (nodeX a b)) ∧ w' = W) := Lib.hid fun W => by
    go_enter Tryz.func120, Tryz.ntmps120
    go_wp2_with fail
    go_ret
    exact ⟨rfl, rfl⟩
  have HS := Lib.hid (fun W => sum2 (nodeX a b) W (by unfold nodeX; rw [ByteArray.size_append, ByteArray.size_append]; have : (⟨#[1]⟩ : ByteArray).size = 1 := rfl; omega))
  show Calls _ _ _ _ fun e w' => e = .returned (.string (bs (sumL (nodeX a b).data.toList))) ∧ Below w.heap.size w w'
  generalize bs (sumL (nodeX a b).data.toList) = r at HS ⊢
  generalize nodeX a b = x at HX HS
  clear ha hb
  go_enter Tryz.func106, Tryz.ntmps106
  go_wp2_with fail
  refine (HX.out _).mono ?_
  rintro e w1 ⟨rfl, rfl⟩
  go_wp2_with fail
  refine (HS.out _).mono ?_
  rintro e w1 ⟨rfl, hb⟩
  go_wp2_with fail
  go_ret
  exact ⟨rfl, hb⟩
end

/- R16 -/
section
open Go.RowKit
set_option linter.unusedVariables false
set_option linter.unusedSimpArgs false
set_option maxRecDepth 100000
set_option maxHeartbeats 4000000

theorem count_is_may {n : Nat} (h : n ≤ 64) : countB n = mayB n := by
  unfold countB mayB
  rw [decide_eq_true h, decide_eq_true (show n ≤ 1024 by omega)]
theorem check16_any (v : Value) (V : Vol) (w : World) (hv : VV w v V) (hl : V.bl.length ≤ 1000) :
    Calls Tryz.prog 32 #[v] w fun e w' => e = .returned (.bool (checkV V)) ∧ Below w.heap.size w w' := by
  obtain ⟨A, n, c, rfl, hA, hn⟩ := hv
  obtain ⟨bl, rt⟩ := V
  simp only at hA hn hl ⊢
  have b1 := (Below.refl w.heap.size w).alloc (Nat.le_refl _) (.cells #[.slice A n c, .string rt] 27)
  have hX := heap_alloc_new w (.cells #[.slice A n c, .string rt] 27)
  have HA := Lib.hid (hA.below b1)
  have HB := Lib.hid b1
  have HN := Lib.hid hn
  have hn1 : n ≤ 1000 := by rw [hn]; exact hl
  have x0 := rf_at hX 0 _ rfl
  have x1 := rf_at hX 1 _ rfl
  clear hA hn hl hX b1
  obtain ⟨u, hu⟩ : ∃ u, u = w.alloc (.cells #[.slice A n c, .string rt] 27) := ⟨_, rfl⟩
  have Hu := Lib.hid hu
  rw [← hu] at HA HB x0 x1
  clear hu
  go_enter Tryz.func32, Tryz.ntmps32
  go_upto_region 1 with fail
  rw [← Hu.out]
  clear Hu
  go_wp2_with fail
  go_loopw [3] (fun x wr => ∃ k : Nat, k ≤ n ∧ x = .int .i64 (k : Nat) ∧ (∀ j (hj : j < bl.length), j < k → bl[j].size ≤ 92) ∧ wr = u) (fun x _ => n - (intOf x).toNat)
  case atStart => exact ⟨0, by omega, rfl, fun j hj hk => by omega, rfl⟩
  case round =>
    obtain ⟨k, hk, rfl, hs, rfl⟩ := hrel
    have HS := Lib.hid hs
    clear hs
    by_cases hlt : k < n
    · have e1 : decide ((k : Int) < (n : Int)) = true := by simp; omega
      have e0 : (k : Int) < (n : Int) := by omega
      have hkl : k < bl.length := by rw [← HN.out]; exact hlt
      obtain ⟨b, off, rfl, c1⟩ := texts_at HA.out hkl
      have HX := Lib.hid (show bl[k].size ≤ 92 → ∀ j (hj : j < bl.length), j < k + 1 → bl[j].size ≤ 92 from fun hb j hj hjk => by
        by_cases e : j < k
        · exact HS.out j hj e
        · obtain rfl : j = k := by omega
          exact hb)
      have HY := Lib.hid (show ¬ bl[k].size ≤ 92 → checkV ⟨bl, rt⟩ = false from fun hb => by
        cases hc : checkV ⟨bl, rt⟩ with
        | false => rfl
        | true => exact absurd ((vol_parts hc).2.2 _ (List.getElem_mem hkl)) hb)
      generalize bl[k] = t at c1 HX HY
      by_cases hz : t.size ≤ 92
      · have d3 : decide ((t.size : Int) > 92) = false := decide_eq_false (by omega)
        have d4 : ¬ (92 : Int) < (t.size : Int) := by omega
        have HZ := Lib.hid (HX.out hz)
        clear hz
        go_wp2_with fail
        go_roundw
        case rel => exact ⟨k + 1, by omega, by go_num, HZ.out, by trivial⟩
        case measure => simp [intOf]; omega
      · have d3 : decide ((t.size : Int) > 92) = true := decide_eq_true (by omega)
        have d4 : (92 : Int) < (t.size : Int) := by omega
        have HZ := Lib.hid (HY.out hz)
        clear hz
        go_wp2_with fail
        go_ret
        rw [HZ.out]
        exact ⟨rfl, HB.out⟩
    · obtain rfl : k = n := by omega
      have e1 : decide ((k : Int) < (k : Int)) = false := by simp
      have Hc := Lib.hid (show checkV ⟨bl, rt⟩ = (countB k && decide (rt.size = 32)) by
        have ha : (bl.all fun b => decide (b.size ≤ 92)) = true := by
          rw [List.all_eq_true]
          intro b hb
          obtain ⟨j, hj, rfl⟩ := List.mem_iff_getElem.1 hb
          exact decide_eq_true (HS.out j hj (by rw [HN.out]; exact hj))
        show (countB bl.length && decide (rt.size = 32) && bl.all fun b => decide (b.size ≤ 92)) = _
        rw [ha, Bool.and_true, ← HN.out])
      by_cases h64 : k ≤ 64
      · have e2 : decide ((k : Int) ≤ 64) = true := decide_eq_true (by omega)
        have e5 : (k : Int) ≤ 64 := by omega
        have HM := Lib.hid (may11_any A k c wr hn1)
        cases hm : mayB k with
        | false =>
          have Hf := Lib.hid (show checkV ⟨bl, rt⟩ = false by rw [Hc.out, count_is_may h64, hm]; rfl)
          rw [hm] at HM
          clear hm h64
          go_wp2_with fail
          refine HM.out.mono ?_
          rintro e w1 ⟨rfl, hw1⟩
          subst w1
          go_wp2_with fail
          go_ret
          rw [Hf.out]
          exact ⟨rfl, HB.out⟩
        | true =>
          by_cases h32 : rt.size = 32
          · have e3 : ((rt.size : Int) == 32) = true := by simp; omega
            have Hf := Lib.hid (show checkV ⟨bl, rt⟩ = true by rw [Hc.out, count_is_may h64, hm, decide_eq_true h32]; rfl)
            rw [hm] at HM
            clear hm h64 h32
            go_wp2_with fail
            refine HM.out.mono ?_
            rintro e w1 ⟨rfl, hw1⟩
            subst w1
            go_wp2_with fail
            go_ret
            rw [Hf.out]
            exact ⟨rfl, HB.out⟩
          · have e3 : ((rt.size : Int) == 32) = false := by simp; omega
            have Hf := Lib.hid (show checkV ⟨bl, rt⟩ = false by rw [Hc.out, count_is_may h64, hm, decide_eq_false h32]; rfl)
            rw [hm] at HM
            clear hm h64 h32
            go_wp2_with fail
            refine HM.out.mono ?_
            rintro e w1 ⟨rfl, hw1⟩
            subst w1
            go_wp2_with fail
            go_ret
            rw [Hf.out]
            exact ⟨rfl, HB.out⟩
      · have e2 : decide ((k : Int) ≤ 64) = false := decide_eq_false (by omega)
        have e5 : ¬ (k : Int) ≤ 64 := by omega
        have Hf := Lib.hid (show checkV ⟨bl, rt⟩ = false by
          have hc0 : countB k = false := by unfold countB; rw [decide_eq_false h64]; simp
          rw [Hc.out, hc0]
          rfl)
        clear h64
        go_wp2_with fail
        go_ret
        rw [Hf.out]
        exact ⟨rfl, HB.out⟩
end

/- R11b -/
section
open Go.RowKit
set_option linter.unusedVariables false
set_option linter.unusedSimpArgs false
set_option maxRecDepth 100000
set_option maxHeartbeats 8000000

/-- A row of rows of the call's own, and its last one. -/
structure LastB (W : World) (B : Nat) (X : Option Addr) (cap : Nat) (h : Nat) (sv : Value) (svs : List Value) (l : List ByteArray) : Prop where
  own : W.ownsRow B 22 1 (.slice X (h + 1) cap) (h + 1) svs
  at' : svs[h]? = some sv
  lev : LevB W sv (lev l h)
theorem LastB.below {W W' : World} {B : Nat} {X : Option Addr} {cap h : Nat} {sv : Value} {svs : List Value} {l : List ByteArray} (hl : LastB W B X cap h sv svs l) (hb : Below W.heap.size W W') : LastB W' B X cap h sv svs l := ⟨own_keep hl.own hb, hl.at', hl.lev.below hb⟩
def lenV : Value → Nat
  | .slice _ n _ => n
  | _ => 0
theorem k2_ad {W : World} {o : Obj} {p q : Addr} {u v : Value} (h : W.cell? p = some u ∧ W.cell? q = some v) : (W.alloc o).cell? p = some u ∧ (W.alloc o).cell? q = some v :=
  keep2_below h ((Below.refl _ _).alloc (Nat.le_refl _) o)
def RowsR11 (w : World) (l : List ByteArray) (H : Nat) (e : Ending) (w' : World) : Prop := ∃ X cap sv svs, e = .returned (.slice X (H + 1) cap) ∧ LastB w' w.heap.size X cap H sv svs l ∧ Below w.heap.size w w'
theorem rows11_any (A : Option Addr) (n c : Nat) (l : List ByteArray) (H : Nat) (w : World) (hr : Rd w A (textsV l)) (hn : n = l.length) (hl : l.length = 2 ^ H) (hH : H ≤ 9) (hz : ∀ s ∈ l, s.size ≤ 1000) :
    Calls Tryz.prog 89 #[.slice A n c] w (RowsR11 w l H) := by
  have HRd := Lib.hid hr
  have HN := Lib.hid hn
  have HZ := Lib.hid hz
  have HL := Lib.hid hl
  have hn1024 : n ≤ 512 := by
    rw [hn, hl]
    exact Nat.le_trans (Nat.pow_le_pow_right (by omega) hH) (by decide)
  have hn1 : 1 ≤ n := by rw [hn, hl]; exact Nat.one_le_two_pow
  clear hr hn hz hl
  go_enter Tryz.func89, Tryz.ntmps89
  go_wp2_with fail
  go_loopw [3, 4] (fun v x wr => ∃ (i : Nat) (Y : Option Addr) (cN : Nat), i ≤ n ∧ x = .int .i64 (i : Nat) ∧ v = .slice Y i cN ∧ wr.ownsRow w.heap.size 9 1 (.slice Y i cN) i (textsV ((l.take i).map leafT)) ∧ Below w.heap.size w wr) (fun _ x _ => n - (intOf x).toNat)
  case atStart => exact ⟨0, none, 0, by omega, rfl, rfl, World.ownsRow_nil _ _ _ _, Below.refl _ _⟩
  case round =>
    obtain ⟨i, Y, cN, hi, rfl, rfl, ho, hb⟩ := hrel
    have HO := Lib.hid ho
    have Hb := Lib.hid hb
    clear ho hb
    by_cases hlt : i < n
    · have e1 : decide ((i : Int) < (n : Int)) = true := by simp; omega
      have e0 : (i : Int) < (n : Int) := by omega
      have hil : i < l.length := by rw [← HN.out]; exact hlt
      obtain ⟨bA, oA, hbA, c1⟩ := texts_at (HRd.out.below Hb.out) hil
      subst hbA
      have Hsn := Lib.hid (show (l.take (i + 1)).map leafT = (l.take i).map leafT ++ [leafT l[i]] by rw [List.take_succ_eq_append_getElem hil, List.map_append]; rfl)
      have z1 := HZ.out _ (List.getElem_mem hil)
      generalize l[i] = ta at c1 Hsn z1
      have HLf := Lib.hid (fun W => leaf11_any ta W z1)
      generalize leafT ta = nd at HLf Hsn
      generalize (l.take i).map leafT = ps at HO Hsn
      clear hil z1
      go_wp2_with fail
      refine (HLf.out _).mono ?_
      rintro e w3 ⟨rfl, hb3⟩
      have HO3 := Lib.hid (own_keep HO.out hb3)
      have Hb3 := Lib.hid (Hb.out.trans (hb3.mono Hb.out.size))
      have hz3 := Hb3.out.size
      clear hb3 c1 HO Hb
      go_wp2_with (at_builtin; refine wpList_append_new (by rfl) (.tmp 14) (.tmp 20) 22 (by rfl) w.heap.size 9 (.string ⟨#[]⟩) 1 16 Tryz.underlying22 string_info rfl (by omega) w3 #[.string nd] 9 (.slice Y i cN) i (textsV ps) (by rfl) HO3.out w3.heap.size 1 1 (by rfl) (by rfl) (by rfl) (by rfl) (by omega) (by omega) (by omega) (by omega) ?_)
      intro g4 cap4 w4 ho4 hb4 _ _ _
      have HO4 := Lib.hid ho4
      have Hb4 := Lib.hid (Hb3.out.trans hb4)
      clear ho4 hb4 HO3 Hb3 hz3
      go_wp2_with fail
      go_roundw
      case rel =>
        refine ⟨i + 1, some ⟨g4, 0, none⟩, cap4, by omega, by go_num, rfl, ?_, Hb4.out⟩
        rw [Hsn.out, textsV_append]
        exact HO4.out
      case measure => (simp [intOf]; omega)
    · obtain rfl : i = n := by omega
      have e1 : decide ((i : Int) < (i : Int)) = false := by simp
      rw [HN.out, List.take_of_length_le (Nat.le_refl _), ← HN.out] at HO
      obtain ⟨gN, hY⟩ : ∃ gN, Y = some ⟨gN, 0, none⟩ := by
        rcases HO.out.2 with ⟨hv, _⟩ | ⟨g, cap, cur, hv, _⟩
        · injection hv with _ h1 _
          omega
        · injection hv with h1 _ _
          exact ⟨g, h1⟩
      subst hY
      have Lv0 := Lib.hid (show LevB wr (.slice (some ⟨gN, 0, none⟩) i cN) (lev l 0) from lev_of_own HO.out (by show i = (l.map leafT).length; rw [List.length_map]; exact HN.out))
      have al1 := (Below.refl wr.heap.size wr).alloc (Nat.le_refl _) (.cells #[.slice (some ⟨gN, 0, none⟩) i cN] 22)
      have own1 := own_new (w := wr) (B := w.heap.size) (e := 22) (size := 1) (n := 1) (cs := #[.slice (some ⟨gN, 0, none⟩) i cN]) Hb.out.size rfl (by decide)
      have LB0 := Lib.hid (show LastB (wr.alloc (.cells #[.slice (some ⟨gN, 0, none⟩) i cN] 22)) w.heap.size (some ⟨wr.heap.size, 0, none⟩) 1 0 (.slice (some ⟨gN, 0, none⟩) i cN) [.slice (some ⟨gN, 0, none⟩) i cN] l from ⟨own1, rfl, Lv0.out.below al1⟩)
      have Hb0 := Lib.hid (Hb.out.trans (al1.mono Hb.out.size))
      obtain ⟨u, hu⟩ : ∃ u, u = wr.alloc (.cells #[.slice (some ⟨gN, 0, none⟩) i cN] 22) := ⟨_, rfl⟩
      have Hu := Lib.hid hu
      rw [← hu] at LB0 Hb0
      clear al1 own1 Lv0 HO Hb hu
      go_wp2_with fail
      rw [← Hu.out]
      clear Hu
      go_loopw [3, 5, 6, 7] (fun vr vo v6 v7 wx => ∃ (h : Nat) (X : Option Addr) (cap : Nat) (svs : List Value), h ≤ H ∧ vo = .slice X (h + 1) cap ∧ LastB wx w.heap.size X cap h vr svs l ∧ Below w.heap.size w wx) (fun vr _ _ _ _ => lenV vr)
      case atStart => exact ⟨0, _, _, _, by omega, rfl, LB0.out, Hb0.out⟩
      case round =>
        clear LB0 Hb0
        obtain ⟨h, X, cap, svs, hh, rfl, hlast, hb⟩ := hrel
        have LB := Lib.hid hlast
        have Hb := Lib.hid hb
        obtain ⟨b, off, nt, ct, cs, rfl, hbk, hnt, hrd⟩ := hlast.lev
        have hp := lev_pow HL.out hh
        rw [← hnt] at hp
        have HRw := Lib.hid hrd
        have HNt := Lib.hid hnt
        have Hbk := Lib.hid (cell_lt_of hbk)
        have hnt512 : nt ≤ 512 := by
          rw [hp]
          exact Nat.le_trans (Nat.pow_le_pow_right (by omega) (by omega : H - h ≤ 9)) (by decide)
        clear hlast hb hbk hnt hrd
        by_cases hlt : h < H
        · obtain ⟨m, hm⟩ : ∃ m, m = 2 ^ (H - (h + 1)) := ⟨_, rfl⟩
          have hnm : nt = 2 * m := by
            rw [hp, hm, show H - h = (H - (h + 1)) + 1 by omega, Nat.pow_succ]
            omega
          have hm1 : 1 ≤ m := by rw [hm]; exact Nat.one_le_two_pow
          have hlm := lev_pow HL.out (show h + 1 ≤ H by omega)
          rw [← hm] at hlm
          have Hlm := Lib.hid hlm
          have e1 : decide ((nt : Int) > 1) = true := decide_eq_true (by omega)
          have hbz := Hb.out.size
          have Hnm := Lib.hid hnm
          clear hp hm hlm hnm
          go_wp2_with fail
          obtain ⟨wo, hwo⟩ : ∃ wo, wo = wr := ⟨_, rfl⟩
          subst hwo
          go_loopw [6, 7] (fun vn x wz => ∃ (q i2 : Nat) (Y : Option Addr) (cy : Nat), q ≤ m ∧ x = .int .i64 (i2 : Nat) ∧ Hid (i2 = 2 * q) ∧ vn = .slice Y q cy ∧ wz.ownsRow wo.heap.size 9 1 (.slice Y q cy) q (textsV ((lev l (h + 1)).take q)) ∧ Below wo.heap.size wo wz) (fun _ x _ => nt - (intOf x).toNat)
          case atStart => exact ⟨0, 0, none, 0, by omega, rfl, Lib.hid rfl, rfl, World.ownsRow_nil _ _ _ _, Below.refl _ _⟩
          case round =>
            obtain ⟨q, i2, Y, cy, hq, rfl, hi2q, rfl, ho, hz⟩ := hrel
            have hi2v := hi2q.out
            have hnm := Hnm.out
            have HO := Lib.hid ho
            have HZz := Lib.hid hz
            clear ho hz
            by_cases hq2 : q < m
            · have e2 : decide ((i2 : Int) < (nt : Int)) = true := decide_eq_true (by omega)
              have e3 : (i2 : Int) < (nt : Int) := by omega
              have hi1 : i2 < (lev l h).length := by rw [← HNt.out]; omega
              have hi2 : i2 + 1 < (lev l h).length := by rw [← HNt.out]; omega
              have e4 : (i2 : Int) + 1 < (nt : Int) := by omega
              have e5 : (0 : Int) ≤ (i2 : Int) + 1 := by omega
              obtain ⟨b', o', hA1, c1⟩ := texts_at HRw.out hi1
              injection hA1 with hA1
              injection hA1 with e6 e7
              subst e6 e7
              obtain ⟨b', o', hA2, c2⟩ := texts_at HRw.out hi2
              injection hA2 with hA2
              injection hA2 with e6 e7
              subst e6 e7
              have Hsn := Lib.hid (show textsV ((lev l (h + 1)).take (q + 1)) = textsV ((lev l (h + 1)).take q) ++ [.string (nodeT ((lev l h)[i2]) ((lev l h)[i2 + 1]))] by
                show textsV ((pairs (lev l h)).take (q + 1)) = textsV ((pairs (lev l h)).take q) ++ _
                subst hi2v
                rw [pairs_snoc _ _ hi2, textsV_append]
                rfl)
              have z1 := lev_size l h _ (List.getElem_mem hi1)
              have z2 := lev_size l h _ (List.getElem_mem hi2)
              generalize (lev l h)[i2] = ta at c1 Hsn z1
              generalize (lev l h)[i2 + 1] = tb at c2 Hsn z2
              have HNd := Lib.hid (fun W => node11_any ta tb W (by omega) (by omega))
              generalize nodeT ta tb = nd at HNd Hsn
              generalize textsV ((lev l (h + 1)).take q) = ps at HO Hsn
              have QU := Lib.hid (show wo.cell? ⟨b, off + i2, none⟩ = some (.string ta) ∧ wo.cell? ⟨b, off + (i2 + 1), none⟩ = some (.string tb) from ⟨c1, c2⟩)
              have q0 := keep2_below QU.out HZz.out
              have q1 := keep2_below q0 ((Below.refl wr.heap.size wr).drew)
              have hwz := HZz.out.size
              obtain ⟨iA, hA0, hA1, hA2, hA3⟩ := info_parts string_info
              obtain ⟨i3, hi3⟩ : ∃ i3, i3 = i2 + 1 := ⟨_, rfl⟩
              have e7 : (0 : Int) ≤ (i2 : Int) := by omega
              have e8 : IntKind.i64.wrap (i3 : Int) = (i3 : Int) := IntWalk.i64_in _ (by omega)
              have e9 : (i2 : Int) + 1 = (i3 : Int) := by omega
              have e10 : (i3 : Int) < (nt : Int) := by omega
              rw [← hi3] at QU q0 q1
              clear e4 e5 hi3
              have hq512 : q ≤ 512 := by omega
              clear hi1 hi2 c1 c2 z1 z2 hi2v hnm
              go_wp2_with fail
              go_region_held3 (fun w' => w'.cell? ⟨b, off + i2, none⟩ = some (.string ta) ∧ w'.cell? ⟨b, off + i3, none⟩ = some (.string tb))
                (first | with_reducible assumption | with_reducible exact k2_ad q3)
                (first
                  | (go_at_call 106; refine Calls.mono (HNd.out _) ?_; rintro _ w3 ⟨rfl, hb3'⟩; have hb3 := Below.chain ((Below.refl wr.heap.size wr).drew) hb3'; have q3 := keep2_below q0 hb3; have HO3 := own_keep HO.out hb3; have hs3 := hb3.size)
                  | (refine step_append_lies _ (by rfl) (.tmp 33) (.tmp 44) 22 (by rfl) wo.heap.size 9 iA (.string ⟨#[]⟩) 1 16 Tryz.underlying22 hA0 hA1 hA2 hA3 rfl (by omega) (.slice Y q cy) q ps (by rfl) (HO3.alloc (.cells #[.string nd] 9)) ⟨w3.heap.size, 0, none⟩ 1 1 [.string nd] (by rfl) (by rfl) (World.news_of_block (show (w3.alloc (.cells #[.string nd] 9)).heap[w3.heap.size]? = some (.cells #[.string nd] 9 (0, 0)) from heap_alloc_new w3 _)) (by simp [Value.oneCell']) (by omega) (by unfold maxLen; omega) (by omega) (by simp; omega) _ rfl ?_; intro g4 cap4 w9 ho4 hg4 hat hlt4; have hb4 := tr_below (HO3.alloc (.cells #[.string nd] 9)) hg4 (by simp; omega); have hb9 := HZz.out.trans (((hb3.alloc hb3.size (.cells #[.string nd] 9)).mono hwz).trans hb4); have q4 := keep2_below QU.out hb9))
              have HA4 := Lib.hid ho4
              have HW4 := Lib.hid hb9
              clear ho4 hg4 hat hlt4 hb4 hb9 q4 q0 q1 q3 HO HO3 HZz hb3 hb3' hs3 hwz
              go_wp2_with fail
              go_roundw
              case rel =>
                refine ⟨q + 1, i2 + 2, some ⟨g4, 0, none⟩, cap4, by omega, by go_num, Lib.hid (by have := hi2q.out; omega), rfl, ?_, HW4.out⟩
                rw [Hsn.out]
                exact HA4.out
              case measure => (simp [intOf]; omega)
            · obtain rfl : q = m := by omega
              have e2 : decide ((i2 : Int) < (nt : Int)) = false := decide_eq_false (by omega)
              have e3 : ¬ (i2 : Int) < (nt : Int) := by omega
              rw [List.take_of_length_le (by rw [Hlm.out]; exact Nat.le_refl _)] at HO
              obtain ⟨gN, hY⟩ : ∃ gN, Y = some ⟨gN, 0, none⟩ := by
                rcases HO.out.2 with ⟨hv, _⟩ | ⟨g, cap, cur, hv, _⟩
                · injection hv with _ h1 _
                  omega
                · injection hv with h1 _ _
                  exact ⟨g, h1⟩
              subst hY
              have Lv1 := Lib.hid (show LevB wr (.slice (some ⟨gN, 0, none⟩) q cy) (lev l (h + 1)) from lev_of_own HO.out Hlm.out.symm)
              have HOo := Lib.hid (own_keep LB.out.own HZz.out)
              have hzz := HZz.out.size
              have HBz := Lib.hid (Hb.out.trans (HZz.out.mono Hb.out.size))
              have hbzz := HBz.out.size
              have hh512 : h ≤ 9 := by omega
              have hqnt : q < nt := by omega
              clear hnm hi2v
              go_wp2_with (at_builtin; refine wpList_append_new (by rfl) (.tmp 46) (.tmp 48) 118 (by rfl) w.heap.size 22 (.slice none 0 0) 1 24 Tryz.underlying118 rows_info rfl (by omega) wr #[.slice (some ⟨gN, 0, none⟩) q cy] 22 (.slice X (h + 1) cap) (h + 1) svs (by rfl) HOo.out wr.heap.size 1 1 (by rfl) (by rfl) (by rfl) (by rfl) (by omega) (by omega) (by omega) (by omega) ?_)
              intro g4 cap4 w4 ho4 hb4 hk4 _ _
              have HL4 := Lib.hid (show LastB w4 w.heap.size (some ⟨g4, 0, none⟩) cap4 (h + 1) (.slice (some ⟨gN, 0, none⟩) q cy) (svs ++ [.slice (some ⟨gN, 0, none⟩) q cy]) l from ⟨ho4, by
                have h1 : svs.length = h + 1 := by have := HOo.out.1; simpa using this
                rw [List.getElem?_append_right (by omega), h1, Nat.sub_self]
                rfl, Lv1.out.keep fun k cs hk => hk4 k (cell_lt_of hk) (own_not_text HOo.out hk)⟩)
              have HB4 := Lib.hid (HBz.out.trans hb4)
              clear ho4 hb4 hk4 Lv1 HOo hzz HBz hbzz HO HZz
              go_wp2_with fail
              go_roundw
              case rel => exact ⟨h + 1, some ⟨g4, 0, none⟩, cap4, _, by omega, rfl, HL4.out, HB4.out⟩
              case measure => simp [lenV]; omega
        · obtain rfl : h = H := by omega
          have hn1' : nt = 1 := by rw [hp, Nat.sub_self]
          have e1 : decide ((nt : Int) > 1) = false := decide_eq_false (by omega)
          clear hp hn1'
          go_wp2_with fail
          go_ret
          exact ⟨X, cap, _, svs, rfl, LB.out, Hb.out⟩
theorem root11_any (A : Option Addr) (n c : Nat) (l : List ByteArray) (w : World) (hr : Rd w A (textsV l)) (hn : n = l.length) (hl : n ≤ 500) (hz : ∀ s ∈ l, s.size ≤ 1000) :
    Calls Tryz.prog 65 #[.slice A n c] w fun e w' => e = .returned (.tuple #[.string (rootsS l), .int .i64 (rootsE l : Nat)]) ∧ Below w.heap.size w w' := by
  have HM := Lib.hid (may11_any A n c w (by omega))
  cases hm : mayB n with
  | false =>
    have h1 : rootsS l = ⟨#[]⟩ := by unfold rootsS; rw [← hn, if_neg (by rw [hm]; decide)]
    have h2 : rootsE l = 1 := by unfold rootsE; rw [← hn, if_neg (by rw [hm]; decide)]
    rw [h1, h2]
    rw [hm] at HM
    clear hm hr hn hz h1 h2
    go_enter Tryz.func65, Tryz.ntmps65
    go_wp2_with fail
    refine HM.out.mono ?_
    rintro e w1 ⟨rfl, hw⟩
    subst w1
    go_wp2_with fail
    go_ret2
    exact ⟨rfl, Below.refl _ _⟩
  | true =>
    obtain ⟨H, hH, hH2⟩ := may_pow hm
    have h9 : H ≤ 9 := by
      have : 2 ^ H < 1024 := by omega
      have := pow_ten this
      omega
    have h1 : rootsS l = rootH l H := by unfold rootsS; rw [← hn, if_pos hm]; exact rootT_is (by rw [← hn]; exact hH2)
    have h2 : rootsE l = 0 := by unfold rootsE; rw [← hn, if_pos hm]
    have hone := rootH_is (l := l) (H := H) (by rw [← hn]; exact hH2)
    have HRo := Lib.hid (rows11_any A n c l H w hr hn (by rw [← hn]; exact hH2) h9 hz)
    rw [h1, h2]
    rw [hm] at HM
    have Hone := Lib.hid hone
    generalize rootH l H = rt at Hone ⊢
    clear hm hr hn hz h1 h2 hH hH2 hone
    go_enter Tryz.func65, Tryz.ntmps65
    go_wp2_with fail
    refine HM.out.mono ?_
    rintro e w1 ⟨rfl, hw⟩
    subst w1
    go_wp2_with fail
    refine HRo.out.mono ?_
    rintro e w2 ⟨X, cap, sv, svs, rfl, hlast, hb⟩
    obtain ⟨bX, oX, rfl, c1⟩ := (own_rd hlast.own) H sv hlast.at'
    obtain ⟨b, off, nt, ct, cs, rfl, hbk, hnt, hrd⟩ := hlast.lev
    rw [Hone.out] at hnt hrd
    obtain ⟨b2, o2, hA, c2⟩ := texts_at hrd (i := 0) (by simp)
    injection hA with hA
    injection hA with e6 e7
    subst e6 e7
    simp only [List.length_singleton] at hnt
    subst hnt
    have HB := Lib.hid hb
    have e4 : IntKind.i64.wrap (((H + 1 : Nat) : Int) - 1) = (H : Int) := by rw [IntWalk.i64_in _ (by omega)]; omega
    have e4' : ((H + 1 : Nat) : Int) - 1 = (H : Int) := by omega
    have e5 : (H : Int) < ((H + 1 : Nat) : Int) := by omega
    simp only [List.getElem_cons_zero, Nat.add_zero] at c2
    clear hlast hb hbk hrd
    go_wp2_with fail
    go_ret2
    exact ⟨rfl, HB.out⟩
end

/- P13 -/
section
open Go.RowKit
set_option linter.unusedVariables false
set_option linter.unusedSimpArgs false
set_option maxRecDepth 100000
set_option maxHeartbeats 4000000

/-- keyholeref01.Own: a copy of its own. -/
theorem own1_any (A : Option Addr) (n c : Nat) (l : List ByteArray) (w : World) (hr : Rd w A (textsV l)) (hn : n = l.length) (hm : n ≤ 1000000000) :
    Calls Tryz.prog 19 #[.slice A n c] w fun e w' => ∃ A' cap, e = .returned (.slice A' n cap) ∧ w'.ownsRow w.heap.size 9 1 (.slice A' n cap) n (textsV l) ∧ Below w.heap.size w w' := by
  have HR := Lib.hid hr
  have HN := Lib.hid hn
  clear hr hn
  go_enter Tryz.func19, Tryz.ntmps19
  go_wp2_with (at_builtin; refine wpList_append_copy (by rfl) (.tmp 4) (.tmp 5) 22 (by rfl) w.heap.size 9 (.string ⟨#[]⟩) 1 16 Tryz.underlying22 string_info rfl (by omega) (by rfl) A n c (by rfl) (textsV l) (by exact HR.out) (by rw [textsV_len, ← HN.out, Nat.mul_one]) (textsV_one _) (by omega) (by omega) (Nat.le_refl _) ?_)
  intro A1 cap1 w1 ho1 hb1
  go_wp2_with fail
  go_ret
  exact ⟨A1, cap1, rfl, ho1, hb1⟩
theorem check_bad_s {P : Plat} {k : Nat} (hk : k < P.ss.length) (h : 128 < P.ss[k].size) : checkB P = false := by
  cases hc : checkB P with
  | false => rfl
  | true =>
    have := (check_parts hc).2.2.2.1 _ (List.getElem_mem hk)
    omega
theorem check_bad_c {P : Plat} {k : Nat} (hk : k < P.cs.length) (h : ¬ (P.cs[k].2.size ≤ 128 ∧ 0 ≤ P.cs[k].1 ∧ P.cs[k].1 < P.ss.length)) : checkB P = false := by
  cases hc : checkB P with
  | false => rfl
  | true => exact absurd ((check_parts hc).2.2.2.2 _ (List.getElem_mem hk)) h
theorem check_good {P : Plat} (h1 : ∀ k (hk : k < P.ss.length), P.ss[k].size ≤ 128) (h2 : ∀ k (hk : k < P.cs.length), P.cs[k].2.size ≤ 128 ∧ 0 ≤ P.cs[k].1 ∧ P.cs[k].1 < P.ss.length) : checkB P = (decide (1 ≤ P.ss.length) && decide (P.ss.length ≤ 200) && decide (P.cs.length ≤ 100)) := by
  have a1 : P.ss.all (fun s => decide (s.size ≤ 128)) = true := List.all_eq_true.2 fun s hs => by
    obtain ⟨k, hk, rfl⟩ := List.mem_iff_getElem.1 hs
    exact decide_eq_true (h1 k hk)
  have a2 : P.cs.all (putB P.ss.length) = true := List.all_eq_true.2 fun s hs => by
    obtain ⟨k, hk, rfl⟩ := List.mem_iff_getElem.1 hs
    obtain ⟨b1, b2, b3⟩ := h2 k hk
    simp only [putB, hasB, Bool.and_eq_true, decide_eq_true_eq]
    exact ⟨b1, b2, b3⟩
  unfold checkB
  rw [a1, a2, Bool.and_true, Bool.and_true]
set_option maxHeartbeats 8000000 in
theorem check13_any (A B : Option Addr) (n c m d : Nat) (P : Plat) (w : World) (h : PB w A n B m P) (hn9 : n ≤ maxLen) (hm9 : m ≤ maxLen) :
    Calls Tryz.prog 66 #[.agg #[.slice A n c, .slice B m d]] w fun e w' => e = .returned (.bool (checkB P)) ∧ Below w.heap.size w w' := by
  have hbA := (Below.refl w.heap.size w).alloc (Nat.le_refl _) (.cells #[.slice A n c, .slice B m d] 25)
  have HP := Lib.hid (h.below hbA)
  have HB := Lib.hid hbA
  have HX := Lib.hid (heap_alloc_new w (.cells #[.slice A n c, .slice B m d] 25))
  have HN := Lib.hid h.hn
  have HM := Lib.hid h.hm
  unfold maxLen at hn9 hm9
  obtain ⟨a0, a1, _, _⟩ := two_cells HX.out
  clear h hbA
  go_enter Tryz.func66, Tryz.ntmps66
  go_wp2_with fail
  go_loopw [3] (fun x wr => ∃ k : Nat, k ≤ n ∧ x = .int .i64 (k : Nat) ∧ (∀ j (hj : j < P.ss.length), j < k → P.ss[j].size ≤ 128) ∧ wr = w.alloc (.cells #[.slice A n c, .slice B m d] 25)) (fun x _ => n - (intOf x).toNat)
  case atStart => exact ⟨0, by omega, rfl, fun j _ h => absurd h (by omega), rfl⟩
  case round =>
    obtain ⟨k, hk, rfl, hs, rfl⟩ := hrel
    have Hs := Lib.hid hs
    clear hs
    by_cases hlt : k < n
    · have hil : k < P.ss.length := by rw [← HN.out]; exact hlt
      obtain ⟨b, off, hA, c0⟩ := texts_at HP.out.rs hil
      subst hA
      have Hbad := Lib.hid (fun h => check_bad_s (k := k) hil h)
      have Hok := Lib.hid (show P.ss[k].size ≤ 128 → ∀ j (hj : j < P.ss.length), j < k + 1 → P.ss[j].size ≤ 128 from fun h j hj hj2 => by
        by_cases e : j = k
        · subst e; exact h
        · exact Hs.out j hj (by omega))
      generalize P.ss[k] = s at c0 Hbad Hok
      have e1 : decide ((k : Int) < (n : Int)) = true := by simp; omega
      have e2 : (k : Int) < (n : Int) := by omega
      by_cases h128 : 128 < s.size
      · have e3 : decide ((s.size : Int) > 128) = true := decide_eq_true (by omega)
        clear hil
        go_wp2_with fail
        go_ret
        exact ⟨by rw [Hbad.out h128]; rfl, HB.out⟩
      · have e3 : decide ((s.size : Int) > 128) = false := decide_eq_false (by omega)
        clear hil
        go_wp2_with fail
        go_roundw
        case rel => exact ⟨k + 1, by omega, by go_num, Hok.out (by omega), trivial⟩
        case measure => simp [intOf]; omega
    · obtain rfl : k = n := by omega
      have e1 : decide ((k : Int) < (k : Int)) = false := by simp
      have Hall := Lib.hid (show ∀ j (hj : j < P.ss.length), P.ss[j].size ≤ 128 from fun j hj => Hs.out j hj (by rw [HN.out]; exact hj))
      go_wp2_with fail
      go_loopw [4] (fun x wr => ∃ j : Nat, j ≤ m ∧ x = .int .i64 (j : Nat) ∧ (∀ i (hi : i < P.cs.length), i < j → P.cs[i].2.size ≤ 128 ∧ 0 ≤ P.cs[i].1 ∧ P.cs[i].1 < P.ss.length) ∧ Below (w.heap.size + 1) (w.alloc (.cells #[.slice A k c, .slice B m d] 25)) wr) (fun x _ => m - (intOf x).toNat)
      case atStart => exact ⟨0, by omega, rfl, fun j _ h => absurd h (by omega), Below.refl _ _⟩
      case round =>
        obtain ⟨j, hj, rfl, hs2, hbk⟩ := hrel
        have Hs2 := Lib.hid hs2
        have hbk' : Below (w.alloc (.cells #[.slice A k c, .slice B m d] 25)).heap.size (w.alloc (.cells #[.slice A k c, .slice B m d] 25)) wr := by simpa using hbk
        have hX2 := cells_below HX.out hbk'
        have HPk := Lib.hid (HP.out.below hbk')
        have HBk := Lib.hid (Below.chain HB.out hbk')
        have Hbk := Lib.hid hbk
        have hsz : w.heap.size + 1 ≤ wr.heap.size := by have := hbk'.size; simpa using this
        clear hs2 hbk hbk' a0 a1
        obtain ⟨a0, a1, _, _⟩ := two_cells hX2
        have HX2 := Lib.hid hX2
        clear hX2
        by_cases hlt2 : j < m
        · have hil : j < P.cs.length := by rw [← HM.out]; exact hlt2
          obtain ⟨b, off, hB, c0, c1⟩ := puts_at HPk.out.rc hil
          subst hB
          have Hbad := Lib.hid (fun h => check_bad_c (k := j) hil h)
          have Hok := Lib.hid (show (P.cs[j].2.size ≤ 128 ∧ 0 ≤ P.cs[j].1 ∧ P.cs[j].1 < P.ss.length) → ∀ i (hi : i < P.cs.length), i < j + 1 → P.cs[i].2.size ≤ 128 ∧ 0 ≤ P.cs[i].1 ∧ P.cs[i].1 < P.ss.length from fun h i hi hi2 => by
            by_cases e : i = j
            · subst e; exact h
            · exact Hs2.out i hi (by omega))
          generalize P.cs[j] = q at c0 c1 Hbad Hok
          obtain ⟨i, s⟩ := q
          simp only at c0 c1 Hbad Hok
          have e4 : decide ((j : Int) < (m : Int)) = true := by simp; omega
          have e2 : (j : Int) < (m : Int) := by omega
          have HNk := Lib.hid (show k = P.ss.length from HN.out)
          have hbx := (Below.refl wr.heap.size wr).alloc (Nat.le_refl _) (.cells #[.int .i64 i, .string s] 65)
          have HBx := Lib.hid (Below.chain HBk.out hbx)
          have Hbx := Lib.hid (Hbk.out.trans (hbx.mono hsz))
          obtain ⟨p0, p1, _, _⟩ := two_cells (cells_below HX2.out hbx)
          clear hil hbx
          by_cases h0 : i < 0
          · have e5 : decide (i < 0) = true := decide_eq_true h0
            go_wp2_with fail
            go_ret
            exact ⟨by rw [Hbad.out (by omega)]; rfl, HBx.out⟩
          have e5 : decide (i < 0) = false := decide_eq_false h0
          by_cases h1 : (k : Int) ≤ i
          · have e6 : decide (i ≥ (k : Int)) = true := decide_eq_true h1
            go_wp2_with fail
            go_ret
            exact ⟨by rw [Hbad.out (by rw [← HNk.out]; omega)]; rfl, HBx.out⟩
          have e6 : decide (i ≥ (k : Int)) = false := decide_eq_false h1
          by_cases h128 : 128 < s.size
          · have e7 : decide ((s.size : Int) > 128) = true := decide_eq_true (by omega)
            go_wp2_with fail
            go_ret
            exact ⟨by rw [Hbad.out (by omega)]; rfl, HBx.out⟩
          have e7 : decide ((s.size : Int) > 128) = false := decide_eq_false (by omega)
          go_wp2_with fail
          go_roundw
          case rel => exact ⟨j + 1, by omega, by go_num, Hok.out (by rw [← HNk.out]; omega), Hbx.out⟩
          case measure => simp [intOf]; omega
        · obtain rfl : j = m := by omega
          have e4 : decide ((j : Int) < (j : Int)) = false := by simp
          have HC := Lib.hid (check_good Hall.out (fun i hi => Hs2.out i hi (by rw [HM.out]; exact hi)))
          rw [← HN.out, ← HM.out] at HC
          by_cases g1 : 1 ≤ k
          case neg =>
            have e5 : decide ((k : Int) ≥ 1) = false := decide_eq_false (by omega)
            go_wp2_with fail
            go_ret
            exact ⟨by rw [HC.out, decide_eq_false g1]; rfl, HBk.out⟩
          have e5 : decide ((k : Int) ≥ 1) = true := decide_eq_true (by omega)
          by_cases g2 : k ≤ 200
          case neg =>
            have e6 : decide ((k : Int) ≤ 200) = false := decide_eq_false (by omega)
            go_wp2_with fail
            go_ret
            exact ⟨by rw [HC.out, decide_eq_false g2, Bool.and_false, Bool.false_and]; rfl, HBk.out⟩
          have e6 : decide ((k : Int) ≤ 200) = true := decide_eq_true (by omega)
          by_cases g3 : j ≤ 100
          · have e7 : decide ((j : Int) ≤ 100) = true := decide_eq_true (by omega)
            go_wp2_with fail
            go_ret
            exact ⟨by rw [HC.out, decide_eq_true g1, decide_eq_true g2, decide_eq_true g3]; rfl, HBk.out⟩
          · have e7 : decide ((j : Int) ≤ 100) = false := decide_eq_false (by omega)
            go_wp2_with fail
            go_ret
            exact ⟨by rw [HC.out, decide_eq_false g3, Bool.and_false]; rfl, HBk.out⟩
theorem own_base {w : World} {B B' : Nat} {e : TypeId} {size : Nat} {v : Value} {n : Nat} {xs : List Value} (h : w.ownsRow B e size v n xs) (hB : B' ≤ B) : w.ownsRow B' e size v n xs := by
  refine ⟨h.1, ?_⟩
  rcases h.2 with h2 | ⟨g, cap, cur, hv, hg, r⟩
  · exact .inl h2
  · exact .inr ⟨g, cap, cur, hv, Nat.le_trans hB hg, r⟩
/-- keyholeref13.Own. -/
theorem own13_any (A B : Option Addr) (n c m d : Nat) (P : Plat) (w : World) (h : PB w A n B m P) (hn : n ≤ 1000000) (hm : m ≤ 1000000) :
    Calls Tryz.prog 5 #[.agg #[.slice A n c, .slice B m d]] w fun e w' => ∃ A' c' B' d', e = .returned (.agg #[.slice A' n c', .slice B' m d']) ∧ OB w' w.heap.size A' n c' B' m d' P ∧ Below w.heap.size w w' := by
  obtain ⟨hX, hA, hbA⟩ := two_new w #[.slice A n c, .slice B m d] 25
  have HP := Lib.hid (h.below hbA)
  have HX := Lib.hid hX
  have HA := Lib.hid hA
  have HB := Lib.hid hbA
  have HN := Lib.hid h.hn
  have HM := Lib.hid h.hm
  clear h hX hA hbA
  obtain ⟨a0, a1, _, _⟩ := two_cells HA.out
  go_enter Tryz.func5, Tryz.ntmps5
  go_wp2_with fail
  refine (own1_any A n c P.ss _ HP.out.rs HN.out (by omega)).mono ?_
  rintro e w1 ⟨A1, cap1, rfl, ho1, hb1⟩
  have al := (Below.refl w1.heap.size w1).alloc (Nat.le_refl _) (.cells #[.slice A1 n cap1, .slice none 0 0] 25)
  have hb2 := Below.chain hb1 al
  replace HA := hblk_below HA hb2
  replace HX := hblk_below HX hb2
  replace HP := Lib.hid (HP.out.below hb2)
  have HO1 := Lib.hid (own_keep ho1 al)
  have HZ := Lib.hid (heap_alloc_new w1 (.cells #[.slice A1 n cap1, .slice none 0 0] 25))
  have hsz1 := hb1.size
  simp only [World.size_alloc] at hsz1
  replace HB := Lib.hid (HB.out.trans (hb2.mono HB.out.size))
  obtain ⟨u1, hu1⟩ : ∃ u, u = w1.alloc (.cells #[.slice A1 n cap1, .slice none 0 0] 25) := ⟨_, rfl⟩
  have Hu1 := Lib.hid hu1
  rw [← hu1] at HA HX HP HO1 HZ HB
  have hsz2 : w1.heap.size < u1.heap.size := cell_lt_of HZ.out
  clear a0 a1 hb1 al hb2 hu1 ho1
  go_upto_region 2 with fail
  rw [← Hu1.out]
  clear Hu1
  generalize hg1 : w1.heap.size = g1 at *
  clear hg1
  obtain ⟨a0, a1, _, _⟩ := two_cells HA.out
  obtain ⟨z0, z1, z2, z3⟩ := two_cells HZ.out
  go_wp2_with (at_builtin; refine wpList_append_copy (by rfl) (.tmp 9) (.tmp 11) 23 (by rfl) w.heap.size 65 (.agg #[.int .i64 0, .string ⟨#[]⟩]) 2 24 Tryz.underlying23 put_info rfl (by omega) (by rfl) B m d (by rfl) (putsV P.cs) (by exact HP.out.rc) (by rw [putsV_len, ← HM.out]) (putsV_one _) (by omega) (by omega) (by omega) ?_)
  intro B1 cap2 w2 ho2 hb2
  replace HX := hblk_below HX hb2
  replace HZ := hblk_below HZ hb2
  have HO2 := Lib.hid ho2
  replace HO1 := Lib.hid (own_keep HO1.out hb2)
  replace HB := Lib.hid (HB.out.trans (hb2.mono HB.out.size))
  clear a0 a1 z0 z1 z2 z3 hb2 ho2
  obtain ⟨z0, z1, z2, z3⟩ := two_cells HZ.out
  obtain ⟨x0, x1, x2, x3⟩ := two_cells HX.out
  have hne : g1 ≠ w.heap.size + 1 := by omega
  go_wp2_with fail
  have hX' := (Below.heap_setCell w2 ⟨g1, 1, none⟩ (.slice B1 m cap2) (w.heap.size + 1) (by simp; omega)).trans HX.out
  have ho : OB w2 w.heap.size A1 n cap1 B1 m cap2 P := ⟨HN.out, HM.out, own_base HO1.out (by simp; omega), HO2.out⟩
  have ho2 := (ho.set HZ.out (by decide) (by decide) 1 (.slice B1 m cap2)).two hX' (.slice A1 n cap1) (.slice B1 m cap2)
  refine bodyPost_ret (res_cell1 rfl _ _ (w.heap.size + 1) (by rfl) _ (load_plat_new (two_set hX' _ _))) rfl ?_
  exact ⟨A1, cap1, B1, cap2, rfl, ho2, two_by (HB.out.trans (by_set (by omega) _)) (by omega) _ _⟩
/-- keyholeref13.New. -/
theorem new13_any (n : Nat) (w : World) (h1 : 1 ≤ n) (h2 : n ≤ 200) : Calls Tryz.prog 24 #[.int .i64 (n : Nat)] w (PlR w (newP n, 0)) := by
  have d1 : decide ((n : Int) < 1) = false := by simp; omega
  have d2 : decide ((200 : Int) < (n : Int)) = false := by simp; omega
  have hmk := fun W => run_make_row' (P := Tryz.prog) 22 9 (.string ⟨#[]⟩) 16 Tryz.underlying22 string_info rfl .i64 .i64 n (by omega) (by omega) W
  go_enter Tryz.func24, Tryz.ntmps24
  go_wp2_with fail
  generalize hC : (#[.slice (some ⟨w.heap.size + 1, 0, none⟩) n n, .slice none 0 0] : Array Value) = C
  have hA := heap_alloc_new w (.cells C 25)
  have hA2 := (Below.heap_alloc (w.alloc (.cells C 25)) (.cells (madeCells #[.string ⟨#[]⟩] n) 9) w.heap.size (by simp)).trans hA
  have hbA : Below w.heap.size w ((w.alloc (.cells C 25)).alloc (.cells (madeCells #[.string ⟨#[]⟩] n) 9)) := ((Below.refl _ w).alloc (Nat.le_refl _) _).alloc (by simp) _
  have ho : OB ((w.alloc (.cells C 25)).alloc (.cells (madeCells #[.string ⟨#[]⟩] n) 9)) w.heap.size (some ⟨(w.alloc (.cells C 25)).heap.size, 0, none⟩) n n none 0 0 (newP n) := by
    refine ⟨by simp [newP], rfl, ?_, World.ownsRow_nil _ _ _ _⟩
    have := own_new (w := w.alloc (.cells C 25)) (B := w.heap.size) (e := 9) (size := 1) (n := n) (cs := madeCells #[.string ⟨#[]⟩] n) (by simp) (by simp [madeCells]) (by unfold maxLen; omega)
    rw [toList_madeCells_one] at this
    rw [show textsV (newP n).ss = List.replicate n (.string ⟨#[]⟩) by simp [textsV, newP, none0]]
    exact this
  rw [World.size_alloc] at ho
  subst hC
  refine bodyPost_ret (res_cell_tmp rfl _ _ w.heap.size (by rfl) _ (load_plat_new hA2)) rfl ?_
  exact ⟨_, rfl, ⟨_, _, _, _, _, _, rfl, ho.pb⟩, hbA⟩
/-- keyholeref13.Write. -/
theorem write13_any (v : Value) (P : Plat) (i : Int) (s : ByteArray) (w : World) (h : PlV w v P) (hl1 : P.ss.length ≤ maxLen) (hl2 : P.cs.length ≤ maxLen) :
    Calls Tryz.prog 34 #[v, .int .i64 i, .string s] w (PlR w (writeP i s P)) := by
  obtain ⟨A, n, c, B, m, d, rfl, h⟩ := h
  obtain ⟨hX, hA, hbA⟩ := two_new w #[.slice A n c, .slice B m d] 25
  have HP := Lib.hid (h.below hbA)
  have HX := Lib.hid hX
  have HA := Lib.hid hA
  have HB := Lib.hid hbA
  have HN := Lib.hid h.hn
  have HM := Lib.hid h.hm
  have hn9 : n ≤ maxLen := by rw [h.hn]; exact hl1
  have hm9 : m ≤ maxLen := by rw [h.hm]; exact hl2
  clear h hX hA hbA hl1 hl2
  obtain ⟨a0, a1, _, _⟩ := two_cells HA.out
  have HC := Lib.hid (fun W hP => check13_any A B n c m d P W hP hn9 hm9)
  unfold maxLen at hn9 hm9
  go_enter Tryz.func34, Tryz.ntmps34
  go_wp2_with fail
  refine (HC.out _ HP.out).mono ?_
  rintro e w1 ⟨rfl, hb1⟩
  replace HP := Lib.hid (HP.out.below hb1)
  replace HX := hblk_below HX hb1
  replace HA := hblk_below HA hb1
  replace HB := Lib.hid (HB.out.trans (hb1.mono HB.out.size))
  have hlt1 : w.heap.size + 1 < w1.heap.size := cell_lt_of HX.out
  clear hb1 a0 a1
  obtain ⟨a0, a1, _, _⟩ := two_cells HA.out
  obtain ⟨x0, x1, x2, x3⟩ := two_cells HX.out
  cases hc : checkB P with
  | false =>
    have Hr := Lib.hid (show writeP i s P = (noPlat, 1) by rw [writeP, if_pos hc])
    clear hc
    go_wp2_with fail
    refine bodyPost_ret (res_cell_tmp rfl _ _ (w.heap.size + 1) (by rfl) _ (load_plat_new (two_set HX.out _ _))) rfl ?_
    rw [Hr.out]
    exact ⟨_, rfl, PlV.no _, two_by HB.out (by omega) _ _⟩
  | true =>
  obtain ⟨k1, k2, k3, _, _⟩ := check_parts hc
  have hn200 : n ≤ 200 := by rw [HN.out]; exact k2
  have hm100 : m ≤ 100 := by rw [HM.out]; exact k3
  have Hc := Lib.hid hc
  clear hc k1 k2 k3
  by_cases hh : i < 0 ∨ (n : Int) ≤ i
  · have Hr := Lib.hid (show writeP i s P = (noPlat, 130) by
      rw [writeP, if_neg (by rw [Hc.out]; simp), if_pos]
      cases e : hasB P.ss.length i with
      | false => rfl
      | true =>
        rw [← HN.out] at e
        simp [hasB] at e
        omega)
    by_cases h0 : i < 0
    · have e5 : decide (i < 0) = true := decide_eq_true h0
      clear hh
      go_wp2_with fail
      refine bodyPost_ret (res_cell_tmp rfl _ _ (w.heap.size + 1) (by rfl) _ (load_plat_new (two_set HX.out _ _))) rfl ?_
      rw [Hr.out]
      exact ⟨_, rfl, PlV.no _, two_by HB.out (by omega) _ _⟩
    · have e5 : decide (i < 0) = false := decide_eq_false h0
      have h1 : (n : Int) ≤ i := by omega
      have e6 : decide (i ≥ (n : Int)) = true := decide_eq_true h1
      clear hh
      go_wp2_with fail
      refine bodyPost_ret (res_cell_tmp rfl _ _ (w.heap.size + 1) (by rfl) _ (load_plat_new (two_set HX.out _ _))) rfl ?_
      rw [Hr.out]
      exact ⟨_, rfl, PlV.no _, two_by HB.out (by omega) _ _⟩
  have Hh := Lib.hid (show hasB P.ss.length i = true by rw [← HN.out]; simp [hasB]; omega)
  have h0 : ¬ i < 0 := by omega
  have h1 : ¬ (n : Int) ≤ i := by omega
  have e5 : decide (i < 0) = false := decide_eq_false h0
  have e6 : decide (i ≥ (n : Int)) = false := decide_eq_false h1
  clear hh
  by_cases h128 : 128 < s.size
  · have Hr := Lib.hid (show writeP i s P = (noPlat, 2) by rw [writeP, if_neg (by rw [Hc.out]; simp), if_neg (by rw [Hh.out]; simp), if_pos h128])
    have e7 : decide ((s.size : Int) > 128) = true := decide_eq_true (by omega)
    go_wp2_with fail
    refine bodyPost_ret (res_cell_tmp rfl _ _ (w.heap.size + 1) (by rfl) _ (load_plat_new (two_set HX.out _ _))) rfl ?_
    rw [Hr.out]
    exact ⟨_, rfl, PlV.no _, two_by HB.out (by omega) _ _⟩
  have e7 : decide ((s.size : Int) > 128) = false := decide_eq_false (by omega)
  by_cases hf : 100 ≤ m
  · have Hr := Lib.hid (show writeP i s P = (noPlat, 260) by rw [writeP, if_neg (by rw [Hc.out]; simp), if_neg (by rw [Hh.out]; simp), if_neg h128, if_pos (by rw [← HM.out]; exact hf)])
    have e8 : decide ((m : Int) ≥ 100) = true := decide_eq_true (by omega)
    go_wp2_with fail
    refine bodyPost_ret (res_cell_tmp rfl _ _ (w.heap.size + 1) (by rfl) _ (load_plat_new (two_set HX.out _ _))) rfl ?_
    rw [Hr.out]
    exact ⟨_, rfl, PlV.no _, two_by HB.out (by omega) _ _⟩
  have Hr := Lib.hid (show writeP i s P = (⟨P.ss, P.cs ++ [(i, s)]⟩, 0) by rw [writeP, if_neg (by rw [Hc.out]; simp), if_neg (by rw [Hh.out]; simp), if_neg h128, if_neg (by rw [← HM.out]; exact hf)])
  have e8 : decide ((m : Int) ≥ 100) = false := decide_eq_false (by omega)
  go_wp2_with fail
  refine (own13_any A B n c m d P _ HP.out (by omega) (by omega)).mono ?_
  rintro e w2 ⟨A2, c2, B2, d2, rfl, hO, hb2⟩
  have al := (Below.refl w2.heap.size w2).alloc (Nat.le_refl _) (.cells #[.slice A2 n c2, .slice B2 m d2] 25)
  have hb3 := Below.chain hb2 al
  replace HX := hblk_below HX hb3
  have HO := Lib.hid (hO.below al)
  have HZ := Lib.hid (heap_alloc_new w2 (.cells #[.slice A2 n c2, .slice B2 m d2] 25))
  replace HB := Lib.hid (HB.out.trans (hb3.mono HB.out.size))
  have hsz2 := hb2.size
  obtain ⟨u2, hu2⟩ : ∃ u, u = w2.alloc (.cells #[.slice A2 n c2, .slice B2 m d2] 25) := ⟨_, rfl⟩
  have Hu2 := Lib.hid hu2
  rw [← hu2] at HX HO HZ HB
  have hsz3 : w2.heap.size < u2.heap.size := cell_lt_of HZ.out
  clear a0 a1 x0 x1 x2 x3 hb2 al hb3 hu2 hO
  go_upto_region 10 with fail
  rw [← Hu2.out]
  clear Hu2
  generalize hgz : w2.heap.size = gz at *
  clear hgz
  obtain ⟨z0, z1, z2, z3⟩ := two_cells HZ.out
  have hB1 : w1.heap.size ≤ u2.heap.size := by omega
  go_wp2_with (at_builtin; refine wpList_append_new (by rfl) (.tmp 35) (.tmp 39) 23 (by rfl) w1.heap.size 65 (.agg #[.int .i64 0, .string ⟨#[]⟩]) 2 24 Tryz.underlying23 put_info rfl (by omega) u2 _ _ _ _ _ (by rfl) HO.out.oc _ 1 1 (by rfl) (by rfl) (by rfl) (by rfl) (by omega) (by omega) (by omega) (by exact hB1) ?_)
  intro g3 cap3 w3 ho3 hb3 hk3 hat3 hlt3
  have hZ3 := (hk3 gz hsz3 (own_far HZ.out HO.out.oc (by decide))).trans HZ.out
  have hX3 := (hk3 (w.heap.size + 1) (by omega) (own_far HX.out HO.out.oc (by decide))).trans HX.out
  have HO3 := Lib.hid ho3
  have HS3 := Lib.hid (HO.out.os.kept (row := (Value.slice B2 m d2).ownBlock) ⟨hb3.os, hb3.tape, hb3.output, hb3.size, hk3⟩ (own_ne HO.out.os HO.out.oc (by decide)))
  have HB3 := Lib.hid (HB.out.trans (hb3.mono (by omega)))
  have HZ3 := Lib.hid hZ3
  have HX3 := Lib.hid hX3
  have hsz4 := hb3.size
  clear z0 z1 z2 z3 hb3 hk3 ho3 hat3 hZ3 hX3
  obtain ⟨z0, z1, z2, z3⟩ := two_cells HZ3.out
  obtain ⟨x0, x1, x2, x3⟩ := two_cells HX3.out
  have hne : gz ≠ w.heap.size + 1 := by omega
  go_wp2_with fail
  have hX' := (Below.heap_setCell w3 ⟨gz, 1, none⟩ (.slice (some ⟨g3, 0, none⟩) (m + 1) cap3) (w.heap.size + 1) (by simp; omega)).trans HX3.out
  have ho : OB w3 w1.heap.size A2 n c2 (some ⟨g3, 0, none⟩) (m + 1) cap3 ⟨P.ss, P.cs ++ [(i, s)]⟩ := ⟨HN.out, by simp [HM.out], HS3.out, by rw [putsV_app]; exact HO3.out⟩
  have ho2 := (ho.set HZ3.out (by decide) (by decide) 1 (.slice (some ⟨g3, 0, none⟩) (m + 1) cap3)).two hX' (.slice A2 n c2) (.slice (some ⟨g3, 0, none⟩) (m + 1) cap3)
  refine bodyPost_ret (res_cell_tmp rfl _ _ (w.heap.size + 1) (by rfl) _ (load_plat_new (two_set hX' _ _))) rfl ?_
  rw [Hr.out]
  exact ⟨_, rfl, ⟨_, _, _, _, _, _, rfl, ho2.pb⟩, two_by (HB3.out.trans (by_set (by omega) _)) (by omega) _ _⟩
end

/- P13b -/
section
open Go.RowKit
set_option linter.unusedVariables false
set_option linter.unusedSimpArgs false
set_option maxRecDepth 100000
set_option maxHeartbeats 4000000

/-- What is read of a sector, if but the first k texts wait. -/
def upS (P : Plat) (i : Int) (k : Nat) : ByteArray := (lastS (P.cs.take k) i).getD (P.ss.getD i.toNat none0)
theorem upS_zero (P : Plat) (i : Int) : upS P i 0 = P.ss.getD i.toNat none0 := rfl
theorem upS_succ (P : Plat) (i : Int) {k : Nat} (hk : k < P.cs.length) : upS P i (k + 1) = if P.cs[k].1 = i then P.cs[k].2 else upS P i k := by
  unfold upS
  rw [List.take_succ_eq_append_getElem hk, lastS_snoc]
  split <;> rfl
theorem upS_all (P : Plat) (i : Int) : upS P i P.cs.length = readS P i := by
  unfold upS readS
  rw [List.take_length]
theorem read13_any (v : Value) (P : Plat) (i : Int) (w : World) (h : PlV w v P) (hl1 : P.ss.length ≤ maxLen) (hl2 : P.cs.length ≤ maxLen) :
    Calls Tryz.prog 56 #[v, .int .i64 i] w (ReadPost w (readP P i)) := by
  obtain ⟨A, n, c, B, m, d, rfl, h⟩ := h
  have hbA := (Below.refl w.heap.size w).alloc (Nat.le_refl _) (.cells #[.slice A n c, .slice B m d] 25)
  have HP := Lib.hid (h.below hbA)
  have HB := Lib.hid hbA
  have HX := Lib.hid (heap_alloc_new w (.cells #[.slice A n c, .slice B m d] 25))
  have HN := Lib.hid h.hn
  have HM := Lib.hid h.hm
  have hn9 : n ≤ maxLen := by rw [h.hn]; exact hl1
  have hm9 : m ≤ maxLen := by rw [h.hm]; exact hl2
  clear h hbA hl1 hl2
  obtain ⟨a0, a1, _, _⟩ := two_cells HX.out
  have HC := Lib.hid (fun W hP => check13_any A B n c m d P W hP hn9 hm9)
  unfold maxLen at hn9 hm9
  go_enter Tryz.func56, Tryz.ntmps56
  go_wp2_with fail
  refine (HC.out _ HP.out).mono ?_
  rintro e w1 ⟨rfl, hb1⟩
  replace HP := Lib.hid (HP.out.below hb1)
  replace HX := hblk_below HX hb1
  replace HB := Lib.hid (HB.out.trans (hb1.mono HB.out.size))
  clear hb1 a0 a1
  obtain ⟨a0, a1, _, _⟩ := two_cells HX.out
  cases hc : checkB P with
  | false =>
    have Hr := Lib.hid (show readP P i = (none0, 1) by rw [readP, if_pos hc])
    clear hc
    go_wp2_with fail
    go_ret2
    rw [Hr.out]
    exact ⟨rfl, HB.out⟩
  | true =>
  have Hc := Lib.hid hc
  clear hc
  by_cases hh : i < 0 ∨ (n : Int) ≤ i
  · have Hr := Lib.hid (show readP P i = (none0, 130) by
      rw [readP, if_neg (by rw [Hc.out]; simp), if_pos]
      cases e : hasB P.ss.length i with
      | false => rfl
      | true =>
        rw [← HN.out] at e
        simp [hasB] at e
        omega)
    by_cases h0 : i < 0
    · have e5 : decide (i < 0) = true := decide_eq_true h0
      clear hh
      go_wp2_with fail
      go_ret2
      rw [Hr.out]
      exact ⟨rfl, HB.out⟩
    · have e5 : decide (i < 0) = false := decide_eq_false h0
      have h1 : (n : Int) ≤ i := by omega
      have e6 : decide (i ≥ (n : Int)) = true := decide_eq_true h1
      clear hh
      go_wp2_with fail
      go_ret2
      rw [Hr.out]
      exact ⟨rfl, HB.out⟩
  have Hh := Lib.hid (show hasB P.ss.length i = true by rw [← HN.out]; simp [hasB]; omega)
  have h0 : ¬ i < 0 := by omega
  have h1 : ¬ (n : Int) ≤ i := by omega
  have e5 : decide (i < 0) = false := decide_eq_false h0
  have e6 : decide (i ≥ (n : Int)) = false := decide_eq_false h1
  obtain ⟨kk, rfl⟩ := Int.eq_ofNat_of_zero_le (show 0 ≤ i by omega)
  have hkn : kk < n := by omega
  have hkn' : (kk : Int) < (n : Int) := by omega
  have hkl : kk < P.ss.length := by rw [← HN.out]; exact hkn
  obtain ⟨b, off, hA, c0⟩ := texts_at HP.out.rs hkl
  subst hA
  have Hu0 := Lib.hid (show P.ss[kk] = upS P (kk : Int) 0 by rw [upS_zero]; simp [hkl])
  rw [Hu0.out] at c0
  have Hr := Lib.hid (show readP P (kk : Int) = (upS P (kk : Int) m, 0) by rw [readP, if_neg (by rw [Hc.out]; simp), if_neg (by rw [Hh.out]; simp), HM.out, upS_all])
  have HS := Lib.hid (fun k (hk : k < P.cs.length) => upS_succ P (kk : Int) hk)
  clear hh hkl Hu0
  obtain ⟨U, hU⟩ : ∃ U, U = upS P (kk : Int) := ⟨_, rfl⟩
  rw [← hU] at c0 Hr HS
  clear hU
  go_wp2_with fail
  go_loopw [6, 7] (fun v x wr => ∃ k : Nat, k ≤ m ∧ x = .int .i64 (k : Nat) ∧ v = .string (U k) ∧ wr = w1) (fun _ x _ => m - (intOf x).toNat)
  case atStart => exact ⟨0, by omega, rfl, rfl, rfl⟩
  case round =>
    obtain ⟨k, hk, rfl, rfl, rfl⟩ := hrel
    by_cases hlt : k < m
    · have hil : k < P.cs.length := by rw [← HM.out]; exact hlt
      obtain ⟨b2, off2, hB2, p0, p1⟩ := puts_at HP.out.rc hil
      subst hB2
      have Hs := Lib.hid (HS.out k hil)
      generalize P.cs[k] = q at p0 p1 Hs
      obtain ⟨qi, qs⟩ := q
      simp only at p0 p1 Hs
      have e1 : decide ((k : Int) < (m : Int)) = true := by simp; omega
      have e2 : (k : Int) < (m : Int) := by omega
      clear hil
      by_cases hq : qi = (kk : Int)
      · have e3 : (qi == (kk : Int)) = true := by simpa using hq
        have Hq := Lib.hid hq
        clear hq
        go_wp2_with fail
        go_roundw
        case rel => exact ⟨k + 1, by omega, by go_num, by rw [Hs.out, if_pos Hq.out], trivial⟩
        case measure => simp [intOf]; omega
      · have e3 : (qi == (kk : Int)) = false := by simpa using hq
        have Hq := Lib.hid hq
        go_wp2_with fail
        go_roundw
        case rel => exact ⟨k + 1, by omega, by go_num, by rw [Hs.out, if_neg Hq.out], trivial⟩
        case measure => simp [intOf]; omega
    · obtain rfl : k = m := by omega
      have e1 : decide ((k : Int) < (k : Int)) = false := by simp
      go_wp2_with fail
      go_ret2
      rw [Hr.out]
      exact ⟨rfl, HB.out⟩
/-- What is so between two rounds of Crash. -/
structure CrI (w : World) (gz : Nat) (C : Array Value) (A : Option Addr) (n c : Nat) (P : Plat) (k : Nat) (W : World) : Prop where
  p : W.heap[w.heap.size]? = some (.cells C 25 (0, 0))
  r : W.heap[w.heap.size + 1]? = some (.cells zP 25 (0, 0))
  z : W.heap[gz]? = some (.cells #[.slice A n c, .slice none 0 0] 25 (0, 0))
  s : W.ownsRow (w.heap.size + 2) 9 1 (.slice A n c) n (textsV (fallTo P (fun _ => 1) k))
  b : Below w.heap.size w W
  g : w.heap.size + 2 ≤ gz
theorem CrI.lt {w : World} {gz : Nat} {C : Array Value} {A : Option Addr} {n c : Nat} {P : Plat} {k : Nat} {W : World} (h : CrI w gz C A n c P k W) : gz < W.heap.size := cell_lt_of h.z
theorem crash13_any (A B F : Option Addr) (n c m d cf : Nat) (P : Plat) (w : World) (h : PB w A n B m P) (hr : Rd w F (ints (List.replicate m 1))) (hl1 : P.ss.length ≤ maxLen) (hl2 : P.cs.length ≤ maxLen) :
    Calls Tryz.prog 67 #[.agg #[.slice A n c, .slice B m d], .slice F m cf] w (PlR w (syncP P)) := by
  obtain ⟨hX, hA, hbA⟩ := two_new w #[.slice A n c, .slice B m d] 25
  have HP0 := Lib.hid h
  have HF0 := Lib.hid hr
  have HP := Lib.hid (h.below hbA)
  have HX := Lib.hid hX
  have HA := Lib.hid hA
  have HB := Lib.hid hbA
  have HN := Lib.hid h.hn
  have HM := Lib.hid h.hm
  have hn9 : n ≤ maxLen := by rw [h.hn]; exact hl1
  have hm9 : m ≤ maxLen := by rw [h.hm]; exact hl2
  clear h hX hA hbA hl1 hl2 hr
  obtain ⟨a0, a1, _, _⟩ := two_cells HA.out
  have HC := Lib.hid (fun W hP => check13_any A B n c m d P W hP hn9 hm9)
  unfold maxLen at hn9 hm9
  go_enter Tryz.func67, Tryz.ntmps67
  go_wp2_with fail
  refine (HC.out _ HP.out).mono ?_
  rintro e w1 ⟨rfl, hb1⟩
  replace HP := Lib.hid (HP.out.below hb1)
  replace HX := hblk_below HX hb1
  replace HA := hblk_below HA hb1
  replace HB := Lib.hid (HB.out.trans (hb1.mono HB.out.size))
  have hlt1 : w.heap.size + 1 < w1.heap.size := cell_lt_of HX.out
  clear hb1 a0 a1
  obtain ⟨a0, a1, _, _⟩ := two_cells HA.out
  cases hc : checkB P with
  | false =>
    have Hr := Lib.hid (show syncP P = (noPlat, 1) by rw [syncP, settleP, if_pos hc])
    obtain ⟨x0, x1, x2, x3⟩ := two_cells HX.out
    clear hc
    go_wp2_with fail
    refine bodyPost_ret (res_cell_tmp rfl _ _ (w.heap.size + 1) (by rfl) _ (load_plat_new (two_set HX.out _ _))) rfl ?_
    rw [Hr.out]
    exact ⟨_, rfl, PlV.no _, two_by HB.out (by omega) _ _⟩
  | true =>
  have Hr := Lib.hid (show syncP P = (⟨fallTo P (fun _ => 1) m, []⟩, 0) by rw [syncP, settleP, if_neg (by rw [hc]; simp), HM.out])
  obtain ⟨k1, k2, k3, _, k5⟩ := check_parts hc
  have hn200 : n ≤ 200 := by rw [HN.out]; exact k2
  have hn1 : 1 ≤ n := by rw [HN.out]; exact k1
  have hm100 : m ≤ 100 := by rw [HM.out]; exact k3
  have Hk5 := Lib.hid k5
  clear hc k1 k2 k3 k5
  go_wp2_with fail
  refine (own13_any A B n c m d P _ HP.out (by omega) (by omega)).mono ?_
  rintro e w2 ⟨A2, c2, B2, d2, rfl, hO, hb2⟩
  have al := (Below.refl w2.heap.size w2).alloc (Nat.le_refl _) (.cells #[.slice A2 n c2, .slice B2 m d2] 25)
  have hb3 := Below.chain hb2 al
  replace HX := hblk_below HX hb3
  replace HA := hblk_below HA hb3
  have HO := Lib.hid (hO.below al)
  have HZ := Lib.hid (heap_alloc_new w2 (.cells #[.slice A2 n c2, .slice B2 m d2] 25))
  replace HB := Lib.hid (HB.out.trans (hb3.mono HB.out.size))
  have hsz2 := hb2.size
  obtain ⟨u2, hu2⟩ : ∃ u, u = w2.alloc (.cells #[.slice A2 n c2, .slice B2 m d2] 25) := ⟨_, rfl⟩
  have Hu2 := Lib.hid hu2
  rw [← hu2] at HX HA HO HZ HB
  clear a0 a1 hb2 al hb3 hu2 hO
  go_upto_region 4 with fail
  rw [← Hu2.out]
  clear Hu2
  generalize hgz : w2.heap.size = gz at *
  clear hgz
  obtain ⟨z0, z1, z2, z3⟩ := two_cells HZ.out
  obtain ⟨ga, cap, hA2, hga, hga2⟩ := HO.out.os.form (by omega)
  injection hA2 with hA2 _ hcc
  subst hA2 hcc
  have hI0 : CrI w gz #[.slice A n c, .slice B m d] (some ⟨ga, 0, none⟩) n c2 P 0 (u2.setCell ⟨gz, 1, none⟩ (.slice none 0 0)) := by
    have h1 := (Below.heap_setCell u2 ⟨gz, 1, none⟩ (.slice none 0 0) w.heap.size (by simp; omega)).trans HA.out
    have h2 := (Below.heap_setCell u2 ⟨gz, 1, none⟩ (.slice none 0 0) (w.heap.size + 1) (by simp; omega)).trans HX.out
    have ho := HO.out.set HZ.out (by decide) (by decide) 1 (.slice none 0 0)
    exact ⟨h1, h2, blk_set HZ.out 1 (.slice none 0 0), own_base ho.os (by omega), HB.out.trans (by_set (by omega) _), by omega⟩
  have HI0 := Lib.hid hI0
  clear hI0 HO HX HA HB HP
  go_wp2_with fail
  go_loopw [7] (fun x wr => ∃ k : Nat, k ≤ m ∧ x = .int .i64 (k : Nat) ∧ CrI w gz #[.slice A n c, .slice B m d] (some ⟨ga, 0, none⟩) n c2 P k wr) (fun x _ => m - (intOf x).toNat)
  case atStart => exact ⟨0, by omega, rfl, HI0.out⟩
  case round =>
    clear HI0 z0 z1 z2 z3 HZ
    obtain ⟨k, hk, rfl, hI⟩ := hrel
    have HI := Lib.hid hI
    clear hI
    have hgzlt := HI.out.lt
    have hgz2 := HI.out.g
    obtain ⟨a0, a1, _, _⟩ := two_cells HI.out.p
    obtain ⟨z0, z1, z2, z3⟩ := two_cells HI.out.z
    by_cases hlt : k < m
    · have hil : k < P.cs.length := by rw [← HM.out]; exact hlt
      obtain ⟨b, off, hB, p0, p1⟩ := puts_at (HP0.out.below HI.out.b).rc hil
      obtain ⟨bF, oF, hF, t0⟩ := HF0.out.int_at (i := k) (by simp; exact hlt)
      have hbF : bF < w.heap.size := cell_lt t0
      replace t0 := (HI.out.b.cell hbF).trans t0
      rw [show (List.replicate m (1 : Int)).getD k 0 = 1 by simp [hlt]] at t0
      subst hB hF
      have hq := Hk5.out _ (List.getElem_mem hil)
      have Hst := Lib.hid (show fallTo P (fun _ => 1) (k + 1) = fallS (fallTo P (fun _ => 1) k) P.cs[k] 1 by rw [fallTo, List.getD_eq_getElem?_getD, List.getElem?_eq_getElem hil]; rfl)
      generalize P.cs[k] = q at p0 p1 hq Hst
      obtain ⟨qi, qs⟩ := q
      simp only at p0 p1 hq
      obtain ⟨hqs, hq0, hq1⟩ := hq
      obtain ⟨qq, rfl⟩ := Int.eq_ofNat_of_zero_le hq0
      have hqn : qq < n := by rw [HN.out]; omega
      have hqn' : (qq : Int) < (n : Int) := by omega
      have e1 : decide ((k : Int) < (m : Int)) = true := by simp; omega
      have e2 : (k : Int) < (m : Int) := by omega
      have hbx := (Below.refl wr.heap.size wr).alloc (Nat.le_refl _) (.cells #[.int .i64 (qq : Nat), .string qs] 65)
      have Hbx := Lib.hid hbx
      obtain ⟨y0, y1, _, _⟩ := two_cells (heap_alloc_new wr (.cells #[.int .i64 (qq : Nat), .string qs] 65))
      obtain ⟨za0, za1, _, _⟩ := two_cells (cells_below HI.out.z hbx)
      have hs2 := own_keep HI.out.s hbx
      have ss0 := hs2.cellAt qq (by omega)
      have hlen : (fallTo P (fun _ => 1) k).length = P.ss.length := fallTo_len _ _ _
      rw [show (textsV (fallTo P (fun _ => 1) k))[qq]? = some (.string ((fallTo P (fun _ => 1) k).getD qq none0)) by
        have : qq < (fallTo P (fun _ => 1) k).length := by rw [hlen, ← HN.out]; exact hqn
        simp [textsV, this]] at ss0
      have ff0 := hs2.frozenAt qq
      have tt0 := (hbx.cell (cell_lt t0)).trans t0
      generalize (fallTo P (fun _ => 1) k).getD qq none0 = old at ss0
      have hst := hs2.stored qq (.string qs)
      have HS := Lib.hid hst
      have g1 : ga ≠ gz := fun e => by
        subst e
        have := own_cells HI.out.s ga rfl
        obtain ⟨cur, hcur⟩ := this
        rw [HI.out.z] at hcur
        injection hcur with hcur
        injection hcur with _ hcur
        exact absurd hcur (by decide)
      have g0 := (HI.out.s.lt ga rfl).1
      have g2 : ga ≠ bF := by omega
      clear hbx hil hs2 hst hq0 hq1 hlen
      go_wp2_with fail
      go_roundw
      case rel =>
        have hzz := (Below.heap_setCell (wr.alloc (.cells #[.int .i64 (qq : Nat), .string qs] 65)) ⟨ga, qq, none⟩ (.string qs) gz (by simp; omega)).trans (cells_below HI.out.z Hbx.out)
        have hpp := (Below.heap_setCell (wr.alloc (.cells #[.int .i64 (qq : Nat), .string qs] 65)) ⟨ga, qq, none⟩ (.string qs) w.heap.size (by simp; omega)).trans (cells_below HI.out.p Hbx.out)
        have hrr := (Below.heap_setCell (wr.alloc (.cells #[.int .i64 (qq : Nat), .string qs] 65)) ⟨ga, qq, none⟩ (.string qs) (w.heap.size + 1) (by simp; omega)).trans (cells_below HI.out.r Hbx.out)
        refine ⟨k + 1, by omega, by go_num, ⟨hpp, hrr, hzz, ?_, (HI.out.b.trans (Hbx.out.mono HI.out.b.size)).trans (by_set (by omega) _), HI.out.g⟩⟩
        rw [Hst.out, show fallS (fallTo P (fun _ => 1) k) ((qq : Int), qs) 1 = (fallTo P (fun _ => 1) k).set qq qs from rfl, show textsV ((fallTo P (fun _ => 1) k).set qq qs) = (textsV (fallTo P (fun _ => 1) k)).set qq (.string qs) by simp [textsV]]
        exact HS.out.1
      case measure => simp [intOf]; omega
    · obtain rfl : k = m := by omega
      have e1 : decide ((k : Int) < (k : Int)) = false := by simp
      obtain ⟨x0, x1, x2, x3⟩ := two_cells HI.out.r
      have hne : gz ≠ w.heap.size + 1 := by omega
      go_wp2_with fail
      have ho : OB wr (w.heap.size + 2) (some ⟨ga, 0, none⟩) n c2 none 0 0 ⟨fallTo P (fun _ => 1) k, []⟩ := ⟨by rw [fallTo_len]; exact HN.out, rfl, HI.out.s, World.ownsRow_nil _ _ _ _⟩
      have ho2 := ho.two HI.out.r (.slice (some ⟨ga, 0, none⟩) n c2) (.slice none 0 0)
      refine bodyPost_ret (res_cell_tmp rfl _ _ (w.heap.size + 1) (by rfl) _ (load_plat_new (two_set HI.out.r _ _))) rfl ?_
      rw [Hr.out]
      exact ⟨_, rfl, ⟨_, _, _, _, _, _, rfl, ho2.pb⟩, two_by HI.out.b (by omega) _ _⟩
end

/- S13 -/
section
open Go.RowKit
set_option linter.unusedVariables false
set_option linter.unusedSimpArgs false
set_option maxRecDepth 100000
set_option maxHeartbeats 4000000

theorem same13_any (v1 v2 : Value) (P : Plat) (w : World) (h1 : PlV w v1 P) (h2 : PlV w v2 P) (hl1 : P.ss.length ≤ 100000) (hl2 : P.cs.length ≤ 100000) :
    Calls Tryz.prog 12 #[v1, v2] w fun e w' => e = .returned (.bool true) ∧ Below w.heap.size w w' := by
  obtain ⟨A, n, c, B, m, d, rfl, h1⟩ := h1
  obtain ⟨A2, n2, c2, B2, m2, d2, rfl, h2⟩ := h2
  obtain rfl : n2 = n := by rw [h1.hn, h2.hn]
  obtain rfl : m2 = m := by rw [h1.hm, h2.hm]
  have x1 := heap_alloc_new w (.cells #[.slice A n2 c, .slice B m2 d] 25)
  have x2 := heap_alloc_new (w.alloc (.cells #[.slice A n2 c, .slice B m2 d] 25)) (.cells #[.slice A2 n2 c2, .slice B2 m2 d2] 25)
  have b1 := (Below.refl w.heap.size w).alloc (Nat.le_refl _) (.cells #[.slice A n2 c, .slice B m2 d] 25)
  have b2 := (Below.refl (w.alloc (.cells #[.slice A n2 c, .slice B m2 d] 25)).heap.size (w.alloc (.cells #[.slice A n2 c, .slice B m2 d] 25))).alloc (Nat.le_refl _) (.cells #[.slice A2 n2 c2, .slice B2 m2 d2] 25)
  simp only [World.size_alloc] at x2
  have HX := Lib.hid (cells_below x1 b2)
  have HY := Lib.hid x2
  have HB := Lib.hid (Below.chain b1 b2)
  have HP := Lib.hid (h1.below HB.out)
  have HQ := Lib.hid (h2.below HB.out)
  have hn : n2 ≤ 100000 := by rw [h1.hn]; exact hl1
  have hm : m2 ≤ 100000 := by rw [h1.hm]; exact hl2
  clear x1 x2 b1 b2 h1 h2 hl1 hl2
  obtain ⟨a0, a1, _, _⟩ := two_cells HX.out
  obtain ⟨e0, e1, _, _⟩ := two_cells HY.out
  have d1 : ((m2 : Int) != (m2 : Int)) = false := by simp
  go_enter Tryz.func12, Tryz.ntmps12
  go_wp2_with fail
  refine (texts_any P.ss P.ss A A2 n2 c n2 c2 _ HP.out.rs HQ.out.rs HP.out.hn HP.out.hn (by rw [← HP.out.hn]; exact hn)).mono ?_
  rintro e w1 ⟨rfl, hb⟩
  rw [decide_eq_true rfl]
  replace HX := hblk_below HX hb
  replace HY := hblk_below HY hb
  replace HP := Lib.hid (HP.out.below hb)
  replace HQ := Lib.hid (HQ.out.below hb)
  replace HB := Lib.hid (HB.out.trans (hb.mono HB.out.size))
  clear hb a0 a1 e0 e1
  obtain ⟨a0, a1, _, _⟩ := two_cells HX.out
  obtain ⟨e0, e1, _, _⟩ := two_cells HY.out
  go_wp2_with fail
  go_loopw [5] (fun x wr => ∃ k : Nat, k ≤ m2 ∧ x = .int .i64 (k : Nat) ∧ Below w1.heap.size w1 wr) (fun x _ => m2 - (intOf x).toNat)
  case atStart => exact ⟨0, by omega, rfl, Below.refl _ _⟩
  case round =>
    obtain ⟨k, hk, rfl, hW⟩ := hrel
    clear a0 a1 e0 e1
    obtain ⟨a0, a1, _, _⟩ := two_cells (cells_below HX.out hW)
    obtain ⟨e0, e1, _, _⟩ := two_cells (cells_below HY.out hW)
    by_cases hlt : k < m2
    · have hil : k < P.cs.length := by rw [← HP.out.hm]; exact hlt
      obtain ⟨b, off, hB, p0, p1⟩ := puts_at (HP.out.below hW).rc hil
      obtain ⟨b2, off2, hB2, q1, q2⟩ := puts_at (HQ.out.below hW).rc hil
      subst hB hB2
      generalize P.cs[k] = q at p0 p1 q1 q2
      obtain ⟨qi, qs⟩ := q
      simp only at p0 p1 q1 q2
      have e3 : decide ((k : Int) < (m2 : Int)) = true := by simp; omega
      have e2 : (k : Int) < (m2 : Int) := by omega
      have d2 : (qs.toList == qs.toList) = true := beq_self_eq_true _
      have R0 := Lib.hid p0
      have R1 := Lib.hid p1
      have R2 := Lib.hid q1
      have R3 := Lib.hid q2
      clear hil p0 p1 q1 q2
      go_wp2_with fail
      have r0 := R0.out
      have r1 := R1.out
      have r2 := R2.out
      have r3 := R3.out
      go_quiet (fail)
      rename_i nq
      have HBn := below_drewN hW nq
      go_wp2_with fail
      go_roundw
      case rel => exact ⟨k + 1, by omega, by go_num, HBn⟩
      case measure => simp [intOf]; omega
    · obtain rfl : k = m2 := by omega
      have e3 : decide ((k : Int) < (k : Int)) = false := by simp
      go_wp2_with fail
      go_ret
      exact ⟨rfl, HB.out.trans (hW.mono HB.out.size)⟩
theorem big13_lt (A B : Option Addr) (n c m d : Nat) (P : Plat) (w : World) (h : PB w A n B m P) (hn9 : n ≤ maxLen) (hm9 : m ≤ maxLen) :
    Calls Tryz.prog 17 #[.agg #[.slice A n c, .slice B m d]] w fun e w' => ∃ b, e = .returned (.bool b) ∧ (b = false → n ≤ 300 ∧ m ≤ 200) ∧ Below w.heap.size w w' := by
  have hbA := (Below.refl w.heap.size w).alloc (Nat.le_refl _) (.cells #[.slice A n c, .slice B m d] 25)
  have HP := Lib.hid (h.below hbA)
  have HB := Lib.hid hbA
  have HN := Lib.hid h.hn
  have HM := Lib.hid h.hm
  unfold maxLen at hn9 hm9
  obtain ⟨a0, a1, _, _⟩ := two_cells (heap_alloc_new w (.cells #[.slice A n c, .slice B m d] 25))
  clear h hbA
  by_cases hn : n ≤ 300
  · have d1 : decide ((300 : Int) < (n : Int)) = false := by simp; omega
    have d1' : ¬ 300 < n := by omega
    by_cases hm : m ≤ 200
    · have d2 : decide ((200 : Int) < (m : Int)) = false := by simp; omega
      have d2' : ¬ 200 < m := by omega
      go_enter Tryz.func17, Tryz.ntmps17
      go_wp2_with fail
      go_loopw [3] (fun x wr => ∃ k : Nat, k ≤ n ∧ x = .int .i64 (k : Nat) ∧ wr = w.alloc (.cells #[.slice A n c, .slice B m d] 25)) (fun x _ => n - (intOf x).toNat)
      case atStart => exact ⟨0, by omega, rfl, rfl⟩
      case round =>
        obtain ⟨k, hk, rfl, rfl⟩ := hrel
        by_cases hlt : k < n
        · have hil : k < P.ss.length := by rw [← HN.out]; exact hlt
          obtain ⟨b, off, hA, c0⟩ := texts_at HP.out.rs hil
          subst hA
          generalize P.ss[k] = s at c0
          have e1 : decide ((k : Int) < (n : Int)) = true := by simp; omega
          have e2 : (k : Int) < (n : Int) := by omega
          clear hil
          go_wp2_with fail
          · go_ret
            exact ⟨true, rfl, fun h => Bool.noConfusion h, HB.out⟩
          · go_roundw
            case rel => exact ⟨k + 1, by omega, by go_num, trivial⟩
            case measure => simp [intOf]; omega
        · obtain rfl : k = n := by omega
          have e1 : decide ((k : Int) < (k : Int)) = false := by simp
          go_wp2_with fail
          go_loopw [4] (fun x wr => ∃ j : Nat, j ≤ m ∧ x = .int .i64 (j : Nat) ∧ wr = w.alloc (.cells #[.slice A k c, .slice B m d] 25)) (fun x _ => m - (intOf x).toNat)
          case atStart => exact ⟨0, by omega, rfl, rfl⟩
          case round =>
            obtain ⟨j, hj, rfl, rfl⟩ := hrel
            by_cases hlt2 : j < m
            · have hil : j < P.cs.length := by rw [← HM.out]; exact hlt2
              obtain ⟨b, off, hB, c0, c1⟩ := puts_at HP.out.rc hil
              subst hB
              generalize P.cs[j] = q at c0 c1
              obtain ⟨i, s⟩ := q
              simp only at c0 c1
              have e1 : decide ((j : Int) < (m : Int)) = true := by simp; omega
              have e2 : (j : Int) < (m : Int) := by omega
              clear hil
              go_wp2_with fail
              · go_ret
                exact ⟨true, rfl, fun h => Bool.noConfusion h, HB.out⟩
              · go_roundw
                case rel => exact ⟨j + 1, by omega, by go_num, trivial⟩
                case measure => simp [intOf]; omega
            · obtain rfl : j = m := by omega
              have e1 : decide ((j : Int) < (j : Int)) = false := by simp
              go_wp2_with fail
              go_ret
              exact ⟨false, rfl, fun _ => ⟨by omega, by omega⟩, HB.out⟩
    · have d2 : decide ((200 : Int) < (m : Int)) = true := by simp; omega
      have d2' : 200 < m := by omega
      go_enter Tryz.func17, Tryz.ntmps17
      go_wp2_with fail
      go_ret
      exact ⟨true, rfl, fun h => Bool.noConfusion h, HB.out⟩
  · have d1 : decide ((300 : Int) < (n : Int)) = true := by simp; omega
    have d1' : 300 < n := by omega
    go_enter Tryz.func17, Tryz.ntmps17
    go_wp2_with fail
    go_ret
    exact ⟨true, rfl, fun h => Bool.noConfusion h, HB.out⟩
end

/- P13c -/
section
open Go.RowKit
set_option linter.unusedVariables false
set_option linter.unusedSimpArgs false
set_option maxRecDepth 100000
set_option maxHeartbeats 4000000

theorem p_int_info : (Tryz.prog.info? 3).map (fun i => (i.zero, i.size, i.bytes)) = some (some (.int .i64 0), 1, 8) := by kernel_rfl
def onesTo (m k : Nat) : List Int := List.replicate k 1 ++ List.replicate (m - k) 0
theorem onesTo_len {m k : Nat} (h : k ≤ m) : (onesTo m k).length = m := by simp [onesTo]; omega
theorem onesTo_set {m k : Nat} (h : k < m) : (onesTo m k).set k 1 = onesTo m (k + 1) := by
  unfold onesTo
  rw [List.set_append_right _ _ (by simp), List.length_replicate, Nat.sub_self, show m - k = (m - (k + 1)) + 1 by omega, List.replicate_succ, List.set_cons_zero, List.replicate_succ' (n := k), List.append_assoc]
  rfl
theorem rd_ints {w : World} {g : Nat} {t : TypeId} {xs : List Int} (h : w.heap[g]? = some (.cells (ints xs).toArray t (0, 0))) : Rd w (some ⟨g, 0, none⟩) (ints xs) := fun i u hu => by
  refine ⟨g, 0, rfl, ?_⟩
  rw [Nat.zero_add, cell_of_row w g i _ _ _ h]
  simpa using hu
theorem sync13_any (v : Value) (P : Plat) (w : World) (h : PlV w v P) (hl1 : P.ss.length ≤ maxLen) (hl2 : P.cs.length ≤ 100000) :
    Calls Tryz.prog 35 #[v] w (PlR w (syncP P)) := by
  obtain ⟨A, n, c, B, m, d, rfl, h⟩ := h
  obtain ⟨hX, hA, hbA⟩ := two_new w #[.slice A n c, .slice B m d] 25
  have HP := Lib.hid h
  have HX := Lib.hid hX
  have HA := Lib.hid hA
  have HB := Lib.hid hbA
  have hm9 : m ≤ 100000 := by rw [h.hm]; exact hl2
  have HCr := Lib.hid (fun F cf W hP hF => crash13_any A B F n c m d cf P W hP hF hl1 (Nat.le_trans hl2 (by unfold maxLen; omega)))
  clear h hX hA hbA hl1 hl2
  obtain ⟨a0, a1, _, _⟩ := two_cells HA.out
  have hmk := fun W => run_make_row' (P := Tryz.prog) 71 3 (.int .i64 0) 8 Tryz.underlying71 p_int_info rfl .i64 .i64 m (by omega) (by omega) W
  go_enter Tryz.func35, Tryz.ntmps35
  go_upto_region 2 with fail
  have hmade : madeCells #[Value.int .i64 0] m = (ints (onesTo m 0)).toArray := by
    apply Array.ext'
    rw [toList_madeCells_one]
    simp [ints, onesTo]
  rw [hmade]
  obtain ⟨u1, hu1⟩ : ∃ u, u = (((w.alloc (.cells #[.slice A n c, .slice B m d] 25)).alloc (.cells zP 25)).alloc (.cells (ints (onesTo m 0)).toArray 3)) := ⟨_, rfl⟩
  have al := (Below.refl ((w.alloc (.cells #[.slice A n c, .slice B m d] 25)).alloc (.cells zP 25)).heap.size ((w.alloc (.cells #[.slice A n c, .slice B m d] 25)).alloc (.cells zP 25))).alloc (Nat.le_refl _) (.cells (ints (onesTo m 0)).toArray 3)
  have hZ := heap_alloc_new ((w.alloc (.cells #[.slice A n c, .slice B m d] 25)).alloc (.cells zP 25)) (.cells (ints (onesTo m 0)).toArray 3)
  simp only [World.size_alloc] at hZ
  replace HA := hblk_below HA al
  replace HX := hblk_below HX al
  replace HB := Lib.hid (HB.out.trans (al.mono HB.out.size))
  rw [← hu1] at HA HX HB hZ ⊢
  clear hu1 al hmade hmk a0 a1
  have HZ := Lib.hid hZ
  clear hZ
  obtain ⟨a0, a1, _, _⟩ := two_cells HA.out
  go_wp2_with fail
  go_loopw [5] (fun x wr => ∃ k : Nat, k ≤ m ∧ x = .int .i64 (k : Nat) ∧ wr.heap[w.heap.size]? = some (.cells #[.slice A n c, .slice B m d] 25 (0, 0)) ∧ wr.heap[w.heap.size + 1]? = some (.cells zP 25 (0, 0)) ∧ wr.heap[w.heap.size + 1 + 1]? = some (.cells (ints (onesTo m k)).toArray 3 (0, 0)) ∧ Below w.heap.size w wr) (fun x _ => m - (intOf x).toNat)
  case atStart => exact ⟨0, by omega, rfl, HA.out, HX.out, HZ.out, HB.out⟩
  case round =>
    clear HA HX HZ HB a0 a1
    obtain ⟨k, hk, rfl, hA, hX, hZ, hB⟩ := hrel
    have HA := Lib.hid hA
    have HX := Lib.hid hX
    have HZ := Lib.hid hZ
    have HB := Lib.hid hB
    clear hA hX hZ hB
    by_cases hlt : k < m
    · have e1 : decide ((k : Int) < (m : Int)) = true := by simp; omega
      have e2 : (k : Int) < (m : Int) := by omega
      obtain ⟨t0, t1⟩ := ints_cell HZ.out (i := k) (by rw [onesTo_len (by omega)]; exact hlt)
      generalize (onesTo m k).getD k 0 = old at t0
      go_wp2_with fail
      go_roundw
      case rel =>
        have hz := ints_set HZ.out k 1
        rw [onesTo_set hlt] at hz
        exact ⟨k + 1, by omega, by go_num, (Below.heap_setCell wr ⟨w.heap.size + 1 + 1, k, none⟩ (.int .i64 1) w.heap.size (by simp; omega)).trans HA.out, (Below.heap_setCell wr ⟨w.heap.size + 1 + 1, k, none⟩ (.int .i64 1) (w.heap.size + 1) (by simp)).trans HX.out, hz, HB.out.trans (by_set (by omega) _)⟩
      case measure => simp [intOf]; omega
    · obtain rfl : k = m := by omega
      have e1 : decide ((k : Int) < (k : Int)) = false := by simp
      have hz := HZ.out
      rw [show onesTo k k = List.replicate k 1 by simp [onesTo]] at hz
      have HF := Lib.hid (rd_ints hz)
      clear hz
      obtain ⟨a0, a1, _, _⟩ := two_cells HA.out
      go_wp2_with fail
      refine (HCr.out _ _ _ (HP.out.below HB.out) HF.out).mono ?_
      rintro e w4 ⟨v4, rfl, ⟨A4, n4, c4, B4, m4, d4, rfl, hp4⟩, hb⟩
      replace HX := hblk_below HX hb
      replace HB := Lib.hid (HB.out.trans (hb.mono HB.out.size))
      have HO := Lib.hid hp4
      clear hb hp4 a0 a1
      obtain ⟨x0, x1, x2, x3⟩ := two_cells HX.out
      go_wp2_with fail
      refine bodyPost_ret (res_cell_tmp rfl _ _ (w.heap.size + 1) (by rfl) _ (load_plat_new (two_set HX.out _ _))) rfl ?_
      exact ⟨_, rfl, ⟨_, _, _, _, _, _, rfl, HO.out.two HX.out⟩, two_by HB.out (by omega) _ _⟩
end

/- P14 -/
section
open Go.RowKit
set_option linter.unusedVariables false
set_option linter.unusedSimpArgs false
set_option maxRecDepth 100000
set_option maxHeartbeats 4000000

theorem mark_eq1 (s : ByteArray) : (s.toList == [49]) = decide (s = mark1) := by
  rw [ByteArray.toList_eq]
  by_cases h : s = mark1
  · rw [decide_eq_true h, h]; rfl
  · rw [decide_eq_false h]
    refine beq_eq_false_iff_ne.2 fun e => h ?_
    rw [← bs_of s, e]
    rfl
def farO (s : ByteArray) : Int := match bodyO s with
  | some f => f
  | none => 0
theorem body14_any (s : ByteArray) (w : World) : Calls Tryz.prog 83 #[.string s, .int .i64 0] w fun e w' => e = .returned (.tuple #[.int .i64 (farO s), .bool (bodyO s).isSome]) ∧ w' = w := by
  by_cases h0 : s = mark0
  · have e0 : (s.toList == [48]) = true := by rw [mark_eq, decide_eq_true h0]
    have HE := Lib.hid (show farO s = 1 ∧ (bodyO s).isSome = true by rw [h0]; unfold farO; rw [body0]; exact ⟨rfl, rfl⟩)
    clear h0
    go_enter Tryz.func83, Tryz.ntmps83
    go_wp2_with fail
    go_ret2
    rw [HE.out.1, HE.out.2]
    exact ⟨rfl, rfl⟩
  have e0 : (s.toList == [48]) = false := by rw [mark_eq, decide_eq_false h0]
  by_cases h1 : s = mark1
  · have e1 : (s.toList == [49]) = true := by rw [mark_eq1, decide_eq_true h1]
    have HE := Lib.hid (show farO s = 2 ∧ (bodyO s).isSome = true by rw [h1]; unfold farO; rw [body1]; exact ⟨rfl, rfl⟩)
    clear h0 h1
    go_enter Tryz.func83, Tryz.ntmps83
    go_wp2_with fail
    go_ret2
    rw [HE.out.1, HE.out.2]
    exact ⟨rfl, rfl⟩
  have e1 : (s.toList == [49]) = false := by rw [mark_eq1, decide_eq_false h1]
  have HE := Lib.hid (show farO s = 0 ∧ (bodyO s).isSome = false by
    have : bodyO s = none := by unfold bodyO; rw [if_neg h0, if_neg h1]
    unfold farO
    rw [this]
    exact ⟨rfl, rfl⟩)
  clear h0 h1
  go_enter Tryz.func83, Tryz.ntmps83
  go_wp2_with fail
  go_ret2
  rw [HE.out.1, HE.out.2]
  exact ⟨rfl, rfl⟩
theorem get14_any (v : Value) (P : Plat) (w : World) (h : PlV w v P) (hl1 : P.ss.length ≤ maxLen) (hl2 : P.cs.length ≤ maxLen) :
    Calls Tryz.prog 55 #[v, .int .i64 0] w (GetPost w (getP P 0)) := by
  have HRd := Lib.hid (fun i W hP => read13_any v P i W hP hl1 hl2)
  obtain ⟨A, n, c, B, m, d, rfl, h⟩ := h
  have hbA := (Below.refl w.heap.size w).alloc (Nat.le_refl _) (.cells #[.slice A n c, .slice B m d] 25)
  have HP := Lib.hid (h.below hbA)
  have HB := Lib.hid hbA
  have HX := Lib.hid (heap_alloc_new w (.cells #[.slice A n c, .slice B m d] 25))
  clear h hbA hl1 hl2
  obtain ⟨a0, a1, _, _⟩ := two_cells HX.out
  obtain ⟨r, hr⟩ : ∃ r, r = readP P 0 := ⟨_, rfl⟩
  obtain ⟨s, x⟩ := r
  have HR := Lib.hid hr
  clear hr
  go_enter Tryz.func55, Tryz.ntmps55
  go_wp2_with fail
  refine (HRd.out 0 _ ⟨_, _, _, _, _, _, rfl, HP.out⟩).mono ?_
  rintro e w1 ⟨rfl, hb1⟩
  rw [← HR.out]
  replace HX := hblk_below HX hb1
  replace HP := Lib.hid (HP.out.below hb1)
  replace HB := Lib.hid (HB.out.trans (hb1.mono HB.out.size))
  clear hb1 a0 a1
  obtain ⟨a0, a1, _, _⟩ := two_cells HX.out
  by_cases hx : x = 0
  case neg =>
    have HG := Lib.hid (show getP P 0 = (none0, false, x) by rw [getP, ← HR.out, if_pos (.inl hx)])
    have e0 : (x != 0) = true := by simpa using hx
    clear hx
    go_wp2_with fail
    go_ret3
    rw [HG.out]
    exact ⟨rfl, HB.out⟩
  subst hx
  by_cases hs : s.size = 0
  · have HG := Lib.hid (show getP P 0 = (none0, false, 0) by
      rw [getP, ← HR.out, if_pos (.inr (ByteArray.size_eq_zero_iff.1 hs))])
    have e1 := (toList_nil s).2 hs
    clear hs
    go_wp2_with fail
    go_ret3
    rw [HG.out]
    exact ⟨rfl, HB.out⟩
  have e1 : s.toList.isEmpty = false := toList_some s hs
  have e2 : ¬ s.toList = [] := fun e => hs ((toList_nil s).1 e)
  have hsn : ¬ s = none0 := fun e => hs (by rw [e]; rfl)
  have HG := Lib.hid (show getP P 0 = (match bodyO s with
    | none => (none0, false, 140)
    | some far => ((readP P (0 + far)).1, decide ((readP P (0 + far)).2 = 0), (readP P (0 + far)).2)) by
      rw [getP, ← HR.out, if_neg (by simp [hsn])]; rfl)
  have HBd := Lib.hid (body14_any s w1)
  clear hs hsn
  go_wp2_with fail
  refine HBd.out.mono ?_
  rintro e w2 ⟨rfl, rfl⟩
  unfold farO
  cases hbo : bodyO s with
  | none =>
    rw [hbo] at HG
    clear hbo
    go_wp2_with fail
    go_ret3
    rw [HG.out]
    exact ⟨rfl, HB.out⟩
  | some far =>
    rw [hbo] at HG
    simp only [Int.zero_add] at HG
    clear hbo
    obtain ⟨r2, hr2⟩ : ∃ r, r = readP P far := ⟨_, rfl⟩
    rw [← hr2] at HG
    obtain ⟨s2, x2⟩ := r2
    simp only at HG
    have Hr2 := Lib.hid hr2
    clear hr2
    go_wp2_with fail
    refine (HRd.out far _ ⟨_, _, _, _, _, _, rfl, HP.out⟩).mono ?_
    rintro e w3 ⟨rfl, hb3⟩
    rw [← Hr2.out]
    replace HB := Lib.hid (HB.out.trans (hb3.mono HB.out.size))
    clear hb3 a0 a1
    go_wp2_with fail
    go_ret3
    rw [HG.out]
    exact ⟨rfl, HB.out⟩
/-- The deed of a number. -/
def dF (s old : ByteArray) (i : Nat) : Plat → Plat × Int := (deedsL 0 s old).getD i syncP
theorem dF_len {s old : ByteArray} {i : Nat} (hi : i < 4) {P : Plat} (h : (dF s old i P).2 = 0) : (dF s old i P).1.ss.length ≤ 200 ∧ (dF s old i P).1.cs.length ≤ 101 := by
  have hw : ∀ j t, (writeP j t P).2 = 0 → (writeP j t P).1.ss.length ≤ 200 ∧ (writeP j t P).1.cs.length ≤ 101 := fun j t h => by
    obtain ⟨k1, _, _, k4, _⟩ := pwrite_is (P := P) (Q := (writeP j t P).1) (i := j) (s := t) (Prod.ext rfl h)
    obtain ⟨_, c2, c3, _⟩ := check_parts k1
    rw [k4]
    simp only [List.length_append, List.length_singleton]
    omega
  have hs : (syncP P).2 = 0 → (syncP P).1.ss.length ≤ 200 ∧ (syncP P).1.cs.length ≤ 101 := fun h => by
    unfold syncP settleP at h ⊢
    split at h
    · simp at h
    · rename_i hc
      have hc' : checkB P = true := by simpa using hc
      rw [if_neg hc]
      obtain ⟨_, c2, c3, _⟩ := check_parts hc'
      simp only [fallTo_len, List.length_nil]
      omega
  have : i = 0 ∨ i = 1 ∨ i = 2 ∨ i = 3 := by omega
  rcases this with rfl | rfl | rfl | rfl
  · exact hw _ _ h
  · exact hs h
  · exact hw _ _ h
  · exact hs h
theorem deed14_any (v : Value) (P : Plat) (i : Nat) (s old : ByteArray) (w : World) (hi : i < 4) (h : PlV w v P) (hl1 : P.ss.length ≤ 100000) (hl2 : P.cs.length ≤ 100000) :
    Calls Tryz.prog 57 #[v, .int .i64 (i : Nat), .int .i64 0, .string (markN old), .string s] w (PlR w (dF s old i P)) := by
  have HWr := Lib.hid (fun i s W hP => write13_any v P i s W hP (by unfold maxLen; omega) (by unfold maxLen; omega))
  have HSy := Lib.hid (fun W hP => sync13_any v P W hP (by unfold maxLen; omega) hl2)
  obtain ⟨A, n, c, B, m, d, rfl, h⟩ := h
  obtain ⟨hX, hA, hbA⟩ := two_new w #[.slice A n c, .slice B m d] 25
  have HP := Lib.hid (h.below hbA)
  have HX := Lib.hid hX
  have HA := Lib.hid hA
  have HB := Lib.hid hbA
  clear h hX hA hbA hl1 hl2
  obtain ⟨a0, a1, _, _⟩ := two_cells HA.out
  obtain ⟨mk, hmk⟩ : ∃ mk, mk = markN old := ⟨_, rfl⟩
  rw [← hmk]
  have hfo : farO mk = farN old := by
    rw [hmk]
    unfold farO
    rw [(mark_far old).1]
  have HBd := Lib.hid (fun W => body14_any mk W)
  rw [hfo] at HBd
  have Hmk := Lib.hid hmk
  obtain ⟨fr, hfr⟩ : ∃ fr, fr = farN old := ⟨_, rfl⟩
  rw [← hfr] at HBd
  have Hfr := Lib.hid hfr
  clear hmk hfo hfr
  have fin : ∀ (Q : Plat × Int) (W : World) (v1 : Value), PlV W v1 Q.1 → Hid (W.heap[w.heap.size + 1]? = some (.cells zP 25 (0, 0))) → Hid (Below w.heap.size w W) → ∃ A n c B m d, v1 = .agg #[.slice A n c, .slice B m d] ∧ PB W A n B m Q.1 := fun Q W v1 h _ _ => h
  have h4 : i = 0 ∨ i = 1 ∨ i = 2 ∨ i = 3 := by omega
  clear hi fin
  rcases h4 with rfl | rfl | rfl | rfl
  · have HD := Lib.hid (show dF s old 0 P = writeP fr s P by rw [Hfr.out]; show writeP (0 + farN old) s P = _; rw [Int.zero_add])
    go_enter Tryz.func57, Tryz.ntmps57
    go_wp2_with fail
    refine (HBd.out _).mono ?_
    rintro e w1 ⟨rfl, rfl⟩
    go_wp2_with fail
    refine (HWr.out fr s _ ⟨_, _, _, _, _, _, rfl, HP.out⟩).mono ?_
    rintro e w2 ⟨v2, rfl, ⟨A2, n2, c2, B2, m2, d2, rfl, hp2⟩, hb⟩
    replace HX := hblk_below HX hb
    replace HB := Lib.hid (HB.out.trans (hb.mono HB.out.size))
    have HO := Lib.hid hp2
    clear hb hp2 a0 a1
    obtain ⟨x0, x1, x2, x3⟩ := two_cells HX.out
    go_wp2_with fail
    refine bodyPost_ret (res_cell_tmp rfl _ _ (w.heap.size + 1) (by rfl) _ (load_plat_new (two_set HX.out _ _))) rfl ?_
    rw [HD.out]
    exact ⟨_, rfl, ⟨_, _, _, _, _, _, rfl, HO.out.two HX.out⟩, two_by HB.out (by omega) _ _⟩
  · have HD := Lib.hid (show dF s old 1 P = syncP P from rfl)
    go_enter Tryz.func57, Tryz.ntmps57
    go_wp2_with fail
    refine (HSy.out _ ⟨_, _, _, _, _, _, rfl, HP.out⟩).mono ?_
    rintro e w2 ⟨v2, rfl, ⟨A2, n2, c2, B2, m2, d2, rfl, hp2⟩, hb⟩
    replace HX := hblk_below HX hb
    replace HB := Lib.hid (HB.out.trans (hb.mono HB.out.size))
    have HO := Lib.hid hp2
    clear hb hp2 a0 a1
    obtain ⟨x0, x1, x2, x3⟩ := two_cells HX.out
    go_wp2_with fail
    refine bodyPost_ret (res_cell_tmp rfl _ _ (w.heap.size + 1) (by rfl) _ (load_plat_new (two_set HX.out _ _))) rfl ?_
    rw [HD.out]
    exact ⟨_, rfl, ⟨_, _, _, _, _, _, rfl, HO.out.two HX.out⟩, two_by HB.out (by omega) _ _⟩
  · have HD := Lib.hid (show dF s old 2 P = writeP 0 mk P by rw [Hmk.out]; rfl)
    go_enter Tryz.func57, Tryz.ntmps57
    go_wp2_with fail
    refine (HWr.out 0 mk _ ⟨_, _, _, _, _, _, rfl, HP.out⟩).mono ?_
    rintro e w2 ⟨v2, rfl, ⟨A2, n2, c2, B2, m2, d2, rfl, hp2⟩, hb⟩
    replace HX := hblk_below HX hb
    replace HB := Lib.hid (HB.out.trans (hb.mono HB.out.size))
    have HO := Lib.hid hp2
    clear hb hp2 a0 a1
    obtain ⟨x0, x1, x2, x3⟩ := two_cells HX.out
    go_wp2_with fail
    refine bodyPost_ret (res_cell_tmp rfl _ _ (w.heap.size + 1) (by rfl) _ (load_plat_new (two_set HX.out _ _))) rfl ?_
    rw [HD.out]
    exact ⟨_, rfl, ⟨_, _, _, _, _, _, rfl, HO.out.two HX.out⟩, two_by HB.out (by omega) _ _⟩
  · have HD := Lib.hid (show dF s old 3 P = syncP P from rfl)
    go_enter Tryz.func57, Tryz.ntmps57
    go_wp2_with fail
    refine (HSy.out _ ⟨_, _, _, _, _, _, rfl, HP.out⟩).mono ?_
    rintro e w2 ⟨v2, rfl, ⟨A2, n2, c2, B2, m2, d2, rfl, hp2⟩, hb⟩
    replace HX := hblk_below HX hb
    replace HB := Lib.hid (HB.out.trans (hb.mono HB.out.size))
    have HO := Lib.hid hp2
    clear hb hp2 a0 a1
    obtain ⟨x0, x1, x2, x3⟩ := two_cells HX.out
    go_wp2_with fail
    refine bodyPost_ret (res_cell_tmp rfl _ _ (w.heap.size + 1) (by rfl) _ (load_plat_new (two_set HX.out _ _))) rfl ?_
    rw [HD.out]
    exact ⟨_, rfl, ⟨_, _, _, _, _, _, rfl, HO.out.two HX.out⟩, two_by HB.out (by omega) _ _⟩
end

/- R26b -/
section
open Go.RowKit
set_option linter.unusedVariables false
set_option linter.unusedSimpArgs false
set_option maxRecDepth 100000
set_option maxHeartbeats 8000000

theorem res_cell_tmp3 {P : Program} {fn : Func} {a t u v : Tmp} {ty : TypeId} (h : fn.results = #[.cell a ty, .tmp t, .tmp u, .tmp v]) (tmps : Array Value) (w : World) (g : Nat) (ha : tmps.getD a undef = .pointer (some ⟨g, 0, none⟩)) (x : Value)
    (hl : (loadVar ty ⟨g, 0, none⟩).run P w = .ok x w) : (results fn tmps).run P w = .ok (.tuple #[x, tmps.getD t undef, tmps.getD u undef, tmps.getD v undef]) w := by
  have ha' : tmps[a]?.getD undef = .pointer (some ⟨g, 0, none⟩) := by simpa using ha
  simp [results, h, asAddr, ha', hl]
theorem root26_any (v : Value) (V : Vol) (w : World) (hv : VV w v V) (hc : checkV V = true) :
    Calls Tryz.prog 33 #[v] w fun e w' => e = .returned (.bool (decide (rootT V.bl = V.rt))) ∧ Below w.heap.size w w' := by
  obtain ⟨A, n, c, rfl, hA, hn⟩ := hv
  obtain ⟨bl, rt⟩ := V
  simp only at hA hn ⊢
  obtain ⟨p1, p2, p3⟩ := vol_parts hc
  obtain ⟨r1, r2⟩ := roots_ok (count_may p1)
  have hle := (count_le p1).2
  simp only at p1 p2 p3 r1 r2 hle
  have HRt := Lib.hid (fun W h1 => root11_any A n c bl W h1 hn (by omega) (fun s hs => by have := p3 s hs; omega))
  rw [r1, r2] at HRt
  have HA := Lib.hid hA
  have HX := Lib.hid (heap_alloc_new w (.cells #[.slice A n c, .string rt] 27))
  have HB := Lib.hid ((Below.refl w.heap.size w).alloc (Nat.le_refl _) (.cells #[.slice A n c, .string rt] 27))
  have x0 := rf_at HX.out 0 _ rfl
  have x1 := rf_at HX.out 1 _ rfl
  clear hA hn hc p1 p2 p3 r1 r2 hle
  generalize rootT bl = R at HRt ⊢
  go_enter Tryz.func33, Tryz.ntmps33
  go_wp2_with fail
  refine (HRt.out _ (HA.out.below HB.out)).mono ?_
  rintro e w2 ⟨rfl, hb2⟩
  have x2 := rf_at (cells_below HX.out hb2) 1 _ rfl
  have HB2 := Lib.hid (HB.out.trans (hb2.mono HB.out.size))
  clear hb2 x0 x1
  by_cases hR : R = rt
  · subst hR
    have d1 : (R.toList == R.toList) = true := beq_self_eq_true _
    go_wp2_with fail
    go_ret
    exact ⟨by simp, HB2.out⟩
  · have d1 := text_ne' hR
    have Hd := Lib.hid (decide_eq_false hR)
    clear hR
    go_wp2_with fail
    go_ret
    exact ⟨by rw [Hd.out]; rfl, HB2.out⟩
def Load26R (w : World) (r : Vst × Int) (e : Ending) (w' : World) : Prop :=
  ∃ A c, e = .returned (.tuple #[.agg #[.slice A r.1.V.bl.length c, .string r.1.V.rt], .int .i64 (r.1.gen : Nat), .int .i64 (r.1.area : Nat), .int .i64 r.2]) ∧ (Rd w' A (textsV r.1.V.bl) ∧ ∀ b o, A = some ⟨b, o, none⟩ → w.heap.size ≤ b) ∧ Below w.heap.size w w'
theorem load26_no (w w' : World) (x : Int) (h : Below w.heap.size w w') : Load26R w (noVst, x) (.returned (.tuple #[.agg #[.slice none 0 0, .string ⟨#[]⟩], .int .i64 0, .int .i64 0, .int .i64 x])) w' := ⟨none, 0, rfl, ⟨Rd.nil _ _, fun _ _ h => by cases h⟩, h⟩
theorem get_37 {P : Plat} (h : (getP P 0).2.2 = 0) (hs : (getP P 0).1.size = 37) : (getP P 0).2.1 = true := by
  unfold getP at h hs ⊢
  split at hs
  · rename_i h1
    exact absurd (show (0 : Nat) = 37 from hs) (by decide)
  · rename_i h1
    rw [if_neg h1] at h ⊢
    cases hb : bodyO (readP P 0).1 with
    | none => rw [hb] at hs; exact absurd (show (0 : Nat) = 37 from hs) (by decide)
    | some far =>
      rw [hb] at h
      exact decide_eq_true h
theorem hdr_37 {s : ByteArray} (h : s.size ≠ 37) : (rdHdr s).ok = false := by
  unfold rdHdr
  rw [if_neg (by unfold hdrB; simp [h])]
theorem hdr_is {s : ByteArray} (h : s.size = 37) (hh : headS ((cutAcc (s.data.toList.take 4) true 4 0 : Nat) : Int) (((s.data.toList.getD 4 0).toNat : Nat) : Int) (s.extract 5 s.size) = s) :
    rdHdr s = ⟨cutAcc (s.data.toList.take 4) true 4 0, (s.data.toList.getD 4 0).toNat, s.extract 5 s.size, true⟩ := by
  have hv : vhB ((cutAcc (s.data.toList.take 4) true 4 0 : Nat) : Int) (((s.data.toList.getD 4 0).toNat : Nat) : Int) (s.extract 5 s.size) = true := by
    cases hb : vhB ((cutAcc (s.data.toList.take 4) true 4 0 : Nat) : Int) (((s.data.toList.getD 4 0).toNat : Nat) : Int) (s.extract 5 s.size) with
    | true => rfl
    | false =>
      rw [headS, if_neg (by rw [hb]; decide)] at hh
      rw [← hh] at h
      exact absurd h (by decide)
  have := rdHdr_head hv
  rw [hh] at this
  exact this
theorem hdr_not {s : ByteArray} (h : s.size = 37) (hh : headS ((cutAcc (s.data.toList.take 4) true 4 0 : Nat) : Int) (((s.data.toList.getD 4 0).toNat : Nat) : Int) (s.extract 5 s.size) ≠ s) : (rdHdr s).ok = false := by
  cases hk : (rdHdr s).ok with
  | false => rfl
  | true =>
    exfalso
    apply hh
    have h1 := (vh_of hk).2
    have h2 := (hdr_parts hk).1
    unfold rdHdr at h1
    rw [if_pos h2] at h1
    exact h1.symm
theorem load26_any (v : Value) (P : Plat) (w : World) (h : PlV w v P) (hl1 : P.ss.length ≤ maxLen) (hl2 : P.cs.length ≤ maxLen) :
    Calls Tryz.prog 27 #[v] w (Load26R w (openP P)) := by
  obtain ⟨A, n, c, B, m, d, rfl, h⟩ := h
  obtain ⟨kp, kx, kb, ksz⟩ := va_al2 w (.cells #[.slice A n c, .slice B m d] 25) (.cells #[.slice none 0 0, .string ⟨#[]⟩] 27)
  have HPw := Lib.hid h
  have HQ := Lib.hid kp
  have HX := Lib.hid kx
  have HB := Lib.hid kb
  obtain ⟨N, hN⟩ : ∃ N, N = sizeN P.ss.length := ⟨_, rfl⟩
  have HS := Lib.hid (fun W hW => size26_any (.agg #[.slice A n c, .slice B m d]) P W hW hl1)
  rw [← hN] at HS
  obtain ⟨q0, q1, _, _⟩ := two_cells kp
  by_cases h0 : N = 0
  · have HE := Lib.hid (show openP P = (noVst, 160) by unfold openP; rw [if_pos (by rw [← hN]; exact h0)])
    subst h0
    clear h hl1 hl2 kp kx kb hN
    go_enter Tryz.func27, Tryz.ntmps27
    go_wp2_with fail
    refine (HS.out _ ⟨_, _, _, _, _, _, rfl, HPw.out.below HB.out⟩).mono ?_
    rintro e w2 ⟨rfl, hb2⟩
    have HX2 := hblk_below HX hb2
    have HB2 := Lib.hid (HB.out.trans (hb2.mono HB.out.size))
    obtain ⟨x0, x1, x2, x3⟩ := two_cells HX2.out
    clear hb2 q0 q1
    go_wp2_with fail
    refine bodyPost_ret (res_cell_tmp3 rfl _ _ (w.heap.size + 1) (by rfl) _ (load_vol (vol_set HX2.out _ _))) rfl ?_
    rw [HE.out]
    exact load26_no _ _ _ (two_by HB2.out (by omega) _ _)
  obtain ⟨hs1, hs2, hs3, hs4⟩ := sizeN_len (m := P.ss.length) (by rw [← hN]; exact h0)
  rw [← hN] at hs1 hs2 hs3 hs4
  obtain ⟨r, hr⟩ : ∃ r, r = getP P 0 := ⟨_, rfl⟩
  have HG := Lib.hid (fun (W : World) (hW : PlV W (.agg #[.slice A n c, .slice B m d]) P) => get14_any (.agg #[.slice A n c, .slice B m d]) P W hW hl1 hl2)
  rw [← hr] at HG
  have HRd := Lib.hid (fun (i : Int) (W : World) (hW : PlV W (.agg #[.slice A n c, .slice B m d]) P) => read13_any (.agg #[.slice A n c, .slice B m d]) P i W hW hl1 hl2)
  have Hr := Lib.hid hr
  have HN := Lib.hid hN
  have Hs1 := Lib.hid hs1
  have Hth := Lib.hid (show r.2.2 = 0 → r.1.size = 37 → r.2.1 = true from fun h1 h2 => by rw [hr] at h1 h2 ⊢; exact get_37 h1 h2)
  obtain ⟨s, there, er⟩ := r
  simp only at HG Hth
  have HO := Lib.hid (show openP P = if er ≠ 0 then (noVst, er) else if there = false ∨ (rdHdr s).ok = false then (noVst, 160) else if checkV (volAt P) = false then (noVst, 160) else if rootT (volAt P).bl ≠ (volAt P).rt then (noVst, 161) else (⟨N, (rdHdr s).gen, (rdHdr s).area, volAt P⟩, 0) by
    unfold openP
    rw [← hr, ← hN, if_neg h0])
  clear h hl1 hl2 kp kx kb hN hs1 hr
  have hn64 : N ≤ 64 := hs3
  have d0 : ((N : Int) == 0) = false := by simp; omega
  have HPb := Lib.hid (fun (W : World) (hb : Below w.heap.size w W) => show PlV W (.agg #[.slice A n c, .slice B m d]) P from ⟨_, _, _, _, _, _, rfl, HPw.out.below hb⟩)
  go_enter Tryz.func27, Tryz.ntmps27
  go_wp2_with fail
  refine (HS.out _ (HPb.out _ HB.out)).mono ?_
  rintro e w2 ⟨rfl, hb2⟩
  have HX2 := hblk_below HX hb2
  have HQ2 := hblk_below HQ hb2
  have HB2 := Lib.hid (HB.out.trans (hb2.mono HB.out.size))
  clear hb2 q0 q1 HX HQ HB HS
  obtain ⟨q0, q1, _, _⟩ := two_cells HQ2.out
  go_wp2_with fail
  refine (HG.out _ (HPb.out _ HB2.out)).mono ?_
  rintro e w4 ⟨rfl, hb4⟩
  simp only
  have HX4 := hblk_below HX2 hb4
  have HQ4 := hblk_below HQ2 hb4
  have HB4 := Lib.hid (HB2.out.trans (hb4.mono HB2.out.size))
  clear hb4 q0 q1 HX2 HQ2 HB2 HG
  by_cases her : er = 0
  case neg =>
    have d1 : (er != 0) = true := by simpa using her
    have HE := Lib.hid (show openP P = (noVst, er) by rw [HO.out, if_pos her])
    obtain ⟨x0, x1, x2, x3⟩ := two_cells HX4.out
    clear her HO
    go_wp2_with fail
    refine bodyPost_ret (res_cell_tmp3 rfl _ _ (w.heap.size + 1) (by rfl) _ (load_vol (vol_set HX4.out _ _))) rfl ?_
    rw [HE.out]
    exact load26_no _ _ _ (two_by HB4.out (by omega) _ _)
  subst her
  rw [if_neg (by simp)] at HO
  have d1 : ((0 : Int) != 0) = false := rfl
  by_cases h37 : s.size = 37
  case neg =>
    have d2 : ((s.size : Int) != 37) = true := by simp; omega
    have HE := Lib.hid (show openP P = (noVst, 160) by rw [HO.out, if_pos (.inr (hdr_37 h37))])
    obtain ⟨x0, x1, x2, x3⟩ := two_cells HX4.out
    clear h37 HO Hth
    go_wp2_with fail
    refine bodyPost_ret (res_cell_tmp3 rfl _ _ (w.heap.size + 1) (by rfl) _ (load_vol (vol_set HX4.out _ _))) rfl ?_
    rw [HE.out]
    exact load26_no _ _ _ (two_by HB4.out (by omega) _ _)
  obtain rfl : there = true := Hth.out rfl h37
  have d2 : ((s.size : Int) != 37) = false := by simp; omega
  have hx4 : (s.extract 0 4).size = 4 := by rw [ByteArray.size_extract]; omega
  have hxl : (s.extract 0 4).data.toList = s.data.toList.take 4 := by rw [extract_bs, bs_data, List.drop_zero]
  have HCt := Lib.hid (fun W => cut1 (s.extract 0 4) true 1 W (by omega) (by omega))
  have hcl : cutL (s.extract 0 4).data.toList true 1 = [((cutAcc (s.data.toList.take 4) true 4 0 : Nat) : Int)] := by
    rw [hxl]
    have hl4 : (s.data.toList.take 4).length = 4 := by rw [← hxl, len_data, hx4]
    show (List.range 1).map _ = _
    rw [hl4]
    rfl
  rw [hcl] at HCt
  have Hok := Lib.hid (fun hh => hdr_is (s := s) h37 hh)
  have Hno := Lib.hid (fun hh => hdr_not (s := s) h37 hh)
  have hroot : (s.extract 5 s.size).size = 32 := by rw [ByteArray.size_extract]; omega
  have hb4' := va_at s 4 (by omega)
  have hbt : (s.data.toList.getD 4 0).toNat < 256 := UInt8.toNat_lt _
  have HHd := Lib.hid (fun W => head26_any ((cutAcc (s.data.toList.take 4) true 4 0 : Nat) : Int) (((s.data.toList.getD 4 0).toNat : Nat) : Int) (s.extract 5 s.size) W (by omega))
  have hu8 := va_u8 (s.data.toList.getD 4 0)
  rw [h37] at Hok Hno HHd hroot
  generalize hx5 : s.data.toList.getD 4 0 = b4 at *
  generalize cutAcc (s.data.toList.take 4) true 4 0 = gen at *
  generalize hs5 : s.extract 5 37 = root at *
  generalize hs4' : s.extract 0 4 = s4 at *
  obtain ⟨hd, hhd⟩ : ∃ hd, hd = headS (gen : Int) ((b4.toNat : Nat) : Int) root := ⟨_, rfl⟩
  rw [← hhd] at Hok Hno HHd
  have Hhd := Lib.hid hhd
  have hsl1 : (4 : Int) ≤ (s.size : Int) := by omega
  have hsl2 : (5 : Int) ≤ (s.size : Int) := by omega
  have hsl3 : (4 : Int) < (s.size : Int) := by omega
  clear hxl hx4 hcl hx5 Hth hhd
  go_wp2_with fail
  refine (HCt.out _).mono ?_
  rintro e w5 ⟨Bc, capc, rfl, hoc, hb5⟩
  obtain ⟨bC, oC, rfl, c0⟩ := (own_rd hoc) 0 (.int .i64 (gen : Nat)) rfl
  rw [Nat.add_zero] at c0
  have HX5 := hblk_below HX4 hb5
  have HQ5 := hblk_below HQ4 hb5
  have HB5 := Lib.hid (HB4.out.trans (hb5.mono HB4.out.size))
  clear hb5 hoc HX4 HQ4 HB4 HCt
  go_wp2_with fail
  refine (HHd.out _).mono ?_
  rintro e w6 ⟨rfl, hb6⟩
  have HX6 := hblk_below HX5 hb6
  have HQ6 := hblk_below HQ5 hb6
  have HB6 := Lib.hid (HB5.out.trans (hb6.mono HB5.out.size))
  clear hb6 c0 HX5 HQ5 HB5 HHd
  by_cases hh : hd = s
  case neg =>
    have d3 := text_ne' hh
    have HE := Lib.hid (show openP P = (noVst, 160) by rw [HO.out, if_pos (.inr (Hno.out hh))])
    obtain ⟨x0, x1, x2, x3⟩ := two_cells HX6.out
    clear hh HO
    go_wp2_with fail
    refine bodyPost_ret (res_cell_tmp3 rfl _ _ (w.heap.size + 1) (by rfl) _ (load_vol (vol_set HX6.out _ _))) rfl ?_
    rw [HE.out]
    exact load26_no _ _ _ (two_by HB6.out (by omega) _ _)
  have hH := Hok.out hh
  have hpk := hdr_parts (s := s) (by rw [hH])
  rw [hH] at hpk
  obtain ⟨_, hp2, hp3, hp4⟩ := hpk
  simp only at hp2 hp3 hp4
  have hgt := get_there (P := P) (by rw [← Hr.out]) (by rw [← Hr.out])
  have Hck := Lib.hid hgt.1
  have HV := Lib.hid (show volAt P = ⟨blkAt P N b4.toNat, root⟩ by
    unfold volAt
    rw [← HN.out, ← Hr.out]
    simp only [hH])
  have HO2 := Lib.hid (show openP P = if checkV ⟨blkAt P N b4.toNat, root⟩ = false then (noVst, 160) else if rootT (blkAt P N b4.toNat) ≠ root then (noVst, 161) else (⟨N, gen, b4.toNat, ⟨blkAt P N b4.toNat, root⟩⟩, 0) by
    rw [HO.out, if_neg (by rw [hH]; simp), HV.out, hH])
  obtain ⟨bl, hbl⟩ : ∃ bl, bl = blkAt P N b4.toNat := ⟨_, rfl⟩
  rw [← hbl] at HO2
  have Hbl := Lib.hid hbl
  have hblN : bl.length = N := by rw [hbl, blkAt_len]
  have HblN := Lib.hid hblN
  subst hh
  have d3 : (hd.toList == hd.toList) = true := beq_self_eq_true _
  have hd37 : hd.size = 37 := h37
  generalize hb4n : b4.toNat = area at *
  have Hb4n := Lib.hid hb4n
  have al := (Below.refl w6.heap.size w6).alloc (Nat.le_refl _) (.cells #[.slice none 0 0, .string root] 27)
  have HX7 := hblk_below HX6 al
  have HQ7 := hblk_below HQ6 al
  have HG7 := Lib.hid (heap_alloc_new w6 (.cells #[.slice none 0 0, .string root] 27))
  have HB7 := Lib.hid (HB6.out.trans (al.mono HB6.out.size))
  have hG : w.heap.size + 2 ≤ w6.heap.size := by have := cell_lt_of HX6.out; omega
  obtain ⟨w7, hw7⟩ : ∃ w7, w7 = w6.alloc (.cells #[.slice none 0 0, .string root] 27) := ⟨_, rfl⟩
  have Hw7 := Lib.hid hw7
  rw [← hw7] at HX7 HQ7 HG7 HB7
  clear hw7 al hH hgt HO HV hbl hblN HX6 HQ6 HB6 Hok Hno hp2 hp4
  go_upto_region 15 with fail
  rw [← Hw7.out]
  clear Hw7
  generalize w6.heap.size = G at *
  have hna1 : 0 ≤ (area : Int) * (N : Int) ∧ (area : Int) * (N : Int) ≤ 64 := by
    rcases (show area = 0 ∨ area = 1 by omega) with h | h <;> subst h <;> simp <;> omega
  obtain ⟨an, han⟩ : ∃ an : Nat, (area : Int) * (N : Int) = (an : Int) ∧ an = area * N := ⟨area * N, by simp, rfl⟩
  have han1 := han.1
  have Han := Lib.hid han.2
  have han64 : an ≤ 64 := by omega
  clear han hna1
  go_wp2_with fail
  go_loopw [15] (fun x wr => ∃ (i : Nat) (A2 : Option Addr) (cap : Nat), i ≤ N ∧ x = .int .i64 (i : Nat) ∧ wr.heap[w.heap.size]? = some (.cells #[.slice A n c, .slice B m d] 25 (0, 0)) ∧ wr.heap[w.heap.size + 1]? = some (.cells #[.slice none 0 0, .string ⟨#[]⟩] 27 (0, 0)) ∧ wr.heap[G]? = some (.cells #[.slice A2 i cap, .string root] 27 (0, 0)) ∧ wr.ownsRow w.heap.size 9 1 (.slice A2 i cap) i (textsV (bl.take i)) ∧ Below w.heap.size w wr) (fun x _ => N - (intOf x).toNat)
  case atStart => exact ⟨0, none, 0, by omega, rfl, HQ7.out, HX7.out, HG7.out, World.ownsRow_nil _ _ _ _, HB7.out⟩
  case round =>
    clear HQ7 HX7 HG7 HB7
    obtain ⟨i, A2, cap, hi, rfl, hQ, hX, hGg, hO, hB⟩ := hrel
    have HQ := Lib.hid hQ
    have HX := Lib.hid hX
    have HGg := Lib.hid hGg
    have HOw := Lib.hid hO
    have HB := Lib.hid hB
    clear hQ hX hGg hO hB
    by_cases hlt : i < N
    · have e1 : decide ((i : Int) < (N : Int)) = true := by simp; omega
      have e0 : (i : Int) < (N : Int) := by omega
      obtain ⟨ix, hix0⟩ : ∃ ix, ix = 3 + an + i := ⟨_, rfl⟩
      obtain ⟨st, hst⟩ : ∃ st, st = readS P (ix : Int) := ⟨_, rfl⟩
      have Htk := Lib.hid (show bl.take (i + 1) = bl.take i ++ [st] by
        rw [List.take_add_one, Hbl.out, blk_at hlt, hst, hix0, Han.out]
        rfl)
      have hix : ix < P.ss.length := by
        have h := (blk_other (area := area) (n := N) (i := i) (by omega) hlt).2
        rw [Hs1.out, hix0, Han.out]; exact h
      have hrd : readP P (ix : Int) = (st, 0) := by rw [hst]; exact readP_in Hck.out hix
      have HRi := Lib.hid (fun (W : World) hW => HRd.out (ix : Int) W hW)
      rw [hrd] at HRi
      have g1 : 3 + (an : Int) + (i : Int) = (ix : Int) := by omega
      have g2 : IntKind.i64.wrap (ix : Int) = (ix : Int) := IntWalk.i64_in _ (by omega)
      have g3 : IntKind.i64.wrap (an : Int) = (an : Int) := IntWalk.i64_in _ (by omega)
      have g4 : IntKind.i64.wrap (3 + (an : Int)) = 3 + (an : Int) := IntWalk.i64_in _ (by omega)
      obtain ⟨q0, q1, _, _⟩ := two_cells HQ.out
      clear hst hix hrd hix0
      go_wp2_with fail
      refine (HRi.out _ (HPb.out _ HB.out)).mono ?_
      rintro e w8 ⟨rfl, hb8⟩
      have HQ8 := Lib.hid (cells_below HQ.out hb8)
      have HX8 := Lib.hid (cells_below HX.out hb8)
      have HG8 := Lib.hid (cells_below HGg.out hb8)
      have HO8 := Lib.hid (own_keep HOw.out hb8)
      have HB8 := Lib.hid (HB.out.trans (hb8.mono HB.out.size))
      have HF := Lib.hid (own_far HG8.out HO8.out (by decide))
      have HFx := Lib.hid (own_far HX8.out HO8.out (by decide))
      have HFq := Lib.hid (own_far HQ8.out HO8.out (by decide))
      have hz8 := HB8.out.size
      have c3 := rf_at HG8.out 0 _ rfl
      clear hb8 q0 q1 g1 g2 g3 g4 HQ HX HGg HOw HB HRi
      go_wp2_with (at_builtin; refine wpList_append_new (by rfl) (.tmp 81) (.tmp 83) 22 (by rfl) w.heap.size 9 (.string ⟨#[]⟩) 1 16 Tryz.underlying22 string_info rfl (by omega) w8 #[.string st] 9 (.slice A2 i cap) i (textsV (bl.take i)) (by rfl) HO8.out w8.heap.size 1 1 (by rfl) (by rfl) (by rfl) (by rfl) (by omega) (by omega) (by omega) (by omega) ?_)
      intro g4 cap4 w4 ho4 hb4 hk4 _ _
      have hQ4 := (hk4 _ (cell_lt_of HQ8.out) HFq.out).trans HQ8.out
      have hX4 := (hk4 _ (cell_lt_of HX8.out) HFx.out).trans HX8.out
      have hG4 := (hk4 _ (cell_lt_of HG8.out) HF.out).trans HG8.out
      have HQ4 := Lib.hid hQ4
      have HX4 := Lib.hid hX4
      have HG4 := Lib.hid hG4
      have HO4 := Lib.hid ho4
      have HB4 := Lib.hid (HB8.out.trans hb4)
      have c4 := rf_at hG4 0 _ rfl
      have c5 := rf_fr hG4 0
      clear ho4 hb4 hk4 hQ4 hX4 hG4 HQ8 HX8 HG8 HO8 HB8 HF HFx HFq c3 hz8
      go_wp2_with fail
      go_roundw
      case rel =>
        refine ⟨i + 1, some ⟨g4, 0, none⟩, cap4, by omega, by go_num, blk_oth HQ4.out (by omega) _, blk_oth HX4.out (by omega) _, ?_, ?_, HB4.out.setCell (by show w.heap.size ≤ G; omega) _⟩
        · have := blk_set HG4.out 0 (.slice (some ⟨g4, 0, none⟩) (i + 1) cap4)
          simpa using this
        · rw [Htk.out, textsV_append]
          exact ownsRow_setCell_other HO4.out (fun e => own_far HG4.out HO4.out (by decide) e.symm) _
      case measure => (simp [intOf]; omega)
    · obtain rfl : i = N := by omega
      have e1 : decide ((i : Int) < (i : Int)) = false := by simp
      have e0 : ¬ (i : Int) < (i : Int) := by omega
      rw [List.take_of_length_le (by rw [HblN.out]; exact Nat.le_refl _)] at HOw
      have HVv := Lib.hid (fun (W : World) (hb : Below wr.heap.size wr W) => show VV W (.agg #[.slice A2 i cap, .string root]) ⟨bl, root⟩ from ⟨A2, i, cap, rfl, (own_rd HOw.out).below hb, HblN.out.symm⟩)
      have HCk := Lib.hid (fun W hW => check16_any (.agg #[.slice A2 i cap, .string root]) ⟨bl, root⟩ W hW (by show bl.length ≤ 1000; rw [HblN.out]; omega))
      obtain ⟨y0, y1⟩ := vtwo_cells HGg.out
      cases hck : checkV ⟨bl, root⟩ with
      | false =>
        rw [hck] at HCk
        have HE := Lib.hid (show openP P = (noVst, 160) by rw [HO2.out, if_pos hck])
        clear hck HO2
        go_wp2_with fail
        refine (HCk.out _ (HVv.out _ (Below.refl _ _))).mono ?_
        rintro e w8 ⟨rfl, hb8⟩
        have HX8 := Lib.hid (cells_below HX.out hb8)
        have HB8 := Lib.hid (HB.out.trans (hb8.mono HB.out.size))
        obtain ⟨x0, x1, x2, x3⟩ := two_cells HX8.out
        clear hb8 y0 y1
        go_wp2_with fail
        refine bodyPost_ret (res_cell_tmp3 rfl _ _ (w.heap.size + 1) (by rfl) _ (load_vol (vol_set HX8.out _ _))) rfl ?_
        rw [HE.out]
        exact load26_no _ _ _ (two_by HB8.out (by omega) _ _)
      | true =>
        rw [hck] at HCk
        rw [if_neg (by rw [hck]; simp)] at HO2
        have HRo := Lib.hid (fun W hW => root26_any (.agg #[.slice A2 i cap, .string root]) ⟨bl, root⟩ W hW hck)
        clear hck
        go_wp2_with fail
        refine (HCk.out _ (HVv.out _ (Below.refl _ _))).mono ?_
        rintro e w8 ⟨rfl, hb8⟩
        have HX8 := Lib.hid (cells_below HX.out hb8)
        have HG8 := Lib.hid (cells_below HGg.out hb8)
        have HV8 := Lib.hid (HVv.out _ hb8)
        have HO8 := Lib.hid (own_keep HOw.out hb8)
        have HB8 := Lib.hid (HB.out.trans (hb8.mono HB.out.size))
        clear hb8 y0 y1 HX HGg HQ HOw HB HVv HCk
        obtain ⟨y0, y1⟩ := vtwo_cells HG8.out
        by_cases hrt : rootT bl = root
        case neg =>
          have HE := Lib.hid (show openP P = (noVst, 161) by rw [HO2.out, if_pos hrt])
          have HRo2 := HRo.out _ HV8.out
          rw [decide_eq_false hrt] at HRo2
          replace HRo2 := Lib.hid HRo2
          clear hrt HO2 HRo
          go_wp2_with fail
          refine HRo2.out.mono ?_
          rintro e w9 ⟨rfl, hb9⟩
          have HX9 := Lib.hid (cells_below HX8.out hb9)
          have HB9 := Lib.hid (HB8.out.trans (hb9.mono HB8.out.size))
          obtain ⟨x0, x1, x2, x3⟩ := two_cells HX9.out
          clear hb9 y0 y1
          go_wp2_with fail
          refine bodyPost_ret (res_cell_tmp3 rfl _ _ (w.heap.size + 1) (by rfl) _ (load_vol (vol_set HX9.out _ _))) rfl ?_
          rw [HE.out]
          exact load26_no _ _ _ (two_by HB9.out (by omega) _ _)
        have HE := Lib.hid (show openP P = (⟨i, gen, area, ⟨bl, root⟩⟩, 0) by rw [HO2.out, if_neg (fun hh => hh hrt)])
        have HRo2 := HRo.out _ HV8.out
        rw [decide_eq_true hrt] at HRo2
        replace HRo2 := Lib.hid HRo2
        clear hrt HO2 HRo
        go_wp2_with fail
        refine HRo2.out.mono ?_
        rintro e w9 ⟨rfl, hb9⟩
        have HX9 := Lib.hid (cells_below HX8.out hb9)
        have HG9 := Lib.hid (cells_below HG8.out hb9)
        have HO9 := Lib.hid (own_keep HO8.out hb9)
        have HB9 := Lib.hid (HB8.out.trans (hb9.mono HB8.out.size))
        obtain ⟨x0, x1, x2, x3⟩ := two_cells HX9.out
        clear hb9 y0 y1
        obtain ⟨y0, y1⟩ := vtwo_cells HG9.out
        go_wp2_with fail
        refine bodyPost_ret (res_cell_tmp3 rfl _ _ (w.heap.size + 1) (by rfl) _ (load_vol (vol_set HX9.out _ _))) rfl ?_
        rw [HE.out]
        have hfx := own_far HX9.out HO9.out (by decide)
        have ho1 := ownsRow_setCell_other HO9.out (fun e => hfx e.symm) (a := ⟨w.heap.size + 1, 0, none⟩) (.slice A2 i cap)
        have hx1 := blk_set HX9.out 0 (.slice A2 i cap)
        have ho2 := ownsRow_setCell_other ho1 (fun e => own_far hx1 ho1 (by decide) e.symm) (a := ⟨w.heap.size + 1, 1, none⟩) (.string root)
        refine ⟨A2, cap, ?_, ⟨own_rd ho2, own_low ho2⟩, two_by HB9.out (by omega) _ _⟩
        simp only
        rw [HblN.out]
        rfl
theorem load26r_any (v : Value) (P : Plat) (w : World) (h : PlV w v P) (hl1 : P.ss.length ≤ maxLen) (hl2 : P.cs.length ≤ maxLen) :
    Calls Tryz.prog 9 #[v] w (LoadR w (openP P)) := by
  obtain ⟨A, n, c, B, m, d, rfl, h⟩ := h
  obtain ⟨kp, kx, kb, ksz⟩ := va_al2 w (.cells #[.slice A n c, .slice B m d] 25) (.cells #[.slice none 0 0, .string ⟨#[]⟩] 27)
  have HLd := Lib.hid (load26_any (.agg #[.slice A n c, .slice B m d]) P _ ⟨_, _, _, _, _, _, rfl, h.below kb⟩ hl1 hl2)
  have HX := Lib.hid kx
  have HB := Lib.hid kb
  obtain ⟨q0, q1, _, _⟩ := two_cells kp
  generalize openP P = r at HLd ⊢
  obtain ⟨⟨N, gen, area, ⟨bl, rt⟩⟩, er⟩ := r
  clear h hl1 hl2 kp kx kb
  go_enter Tryz.func9, Tryz.ntmps9
  go_wp2_with fail
  refine HLd.out.mono ?_
  rintro e w2 ⟨A2, c2, rfl, ⟨hrd, hfar⟩, hb2⟩
  rw [ksz] at hfar
  simp only at hrd ⊢
  have al := (Below.refl w2.heap.size w2).alloc (Nat.le_refl _) (.cells #[.slice A2 bl.length c2, .string rt] 27)
  have hbb := Below.chain hb2 al
  have HX3 := hblk_below HX hbb
  have HG3 := Lib.hid (heap_alloc_new w2 (.cells #[.slice A2 bl.length c2, .string rt] 27))
  have HB3 := Lib.hid (Below.chain HB.out hbb)
  have HRd3 := Lib.hid (hrd.below al)
  have hG : w.heap.size + 2 ≤ w2.heap.size := by have h1 := hb2.size; simp at h1; omega
  clear ksz
  have HFar := Lib.hid hfar
  clear hfar
  obtain ⟨w3, hw3⟩ : ∃ w3, w3 = w2.alloc (.cells #[.slice A2 bl.length c2, .string rt] 27) := ⟨_, rfl⟩
  have Hw3 := Lib.hid hw3
  rw [← hw3] at HX3 HG3 HB3 HRd3
  clear hw3 al hbb hb2 hrd q0 q1 HX HB HLd
  go_upto_region 2 with fail
  rw [← Hw3.out]
  clear Hw3
  generalize w2.heap.size = G at *
  obtain ⟨x0, x1, x2, x3⟩ := two_cells HX3.out
  obtain ⟨y0, y1⟩ := vtwo_cells HG3.out
  go_wp2_with fail
  refine bodyPost_ret (res_cell_tmp2 rfl _ _ (w.heap.size + 1) (by rfl) _ (load_vol (vol_set HX3.out _ _))) rfl ?_
  exact ⟨A2, c2, rfl, ⟨vrd_set (vrd_set HRd3.out (fun b o e h => by have := HFar.out b o e; omega) _) (fun b o e h => by have := HFar.out b o e; omega) _, fun b o e => by have := HFar.out b o e; omega⟩, two_by HB3.out (by omega) _ _⟩
end

/- P14b -/
section
open Go.RowKit
set_option linter.unusedVariables false
set_option linter.unusedSimpArgs false
set_option maxRecDepth 100000
set_option maxHeartbeats 8000000

theorem do14_step {P Pi : Plat} {s old : ByteArray} {i : Nat} (hi : i < 4) (h : runL ((deedsL 0 s old).take i) P = (Pi, 0)) :
    runL ((deedsL 0 s old).take (i + 1)) P = if (dF s old i Pi).2 ≠ 0 then (noPlat, (dF s old i Pi).2) else ((dF s old i Pi).1, 0) := by
  have hl : i < (deedsL 0 s old).length := hi
  have hd : dF s old i = (deedsL 0 s old)[i] := by
    unfold dF
    rw [List.getD_eq_getElem?_getD, List.getElem?_eq_getElem hl]
    rfl
  rw [List.take_succ_eq_append_getElem hl, ← hd]
  exact runL_snoc _ _ _ _ h
theorem do14_bad {P Pi : Plat} {s old : ByteArray} {i q : Nat} (hi : i < q) (hq : q ≤ 4) (h : runL ((deedsL 0 s old).take i) P = (Pi, 0)) (hb : (dF s old i Pi).2 ≠ 0) :
    runL ((deedsL 0 s old).take q) P = (noPlat, (dF s old i Pi).2) := by
  have h1 := do14_step (by omega) h
  rw [if_pos hb] at h1
  rw [take_parts (deedsL 0 s old) (j := i + 1) (m := q) (by omega), runL_stop _ _ _ (by rw [h1]; exact hb), h1]
theorem put14_any (v : Value) (P : Plat) (s : ByteArray) (deeds : Int) (w : World) (h : PlV w v P) (hl1 : P.ss.length ≤ 100000) (hl2 : P.cs.length ≤ 100000) :
    Calls Tryz.prog 25 #[v, .int .i64 0, .string s, .int .i64 deeds] w (DoR w (putP P 0 s deeds)) := by
  have HGt := Lib.hid (fun W hP => get14_any v P W hP (by unfold maxLen; omega) (by unfold maxLen; omega))
  have HRd := Lib.hid (fun W hP => read13_any v P 0 W hP (by unfold maxLen; omega) (by unfold maxLen; omega))
  obtain ⟨A, n, c, B, m, d, rfl, h⟩ := h
  obtain ⟨hX, hA, hbA⟩ := two_new w #[.slice A n c, .slice B m d] 25
  have HP := Lib.hid (h.below hbA)
  have HX := Lib.hid hX
  have HA := Lib.hid hA
  have HB := Lib.hid hbA
  have HN := Lib.hid h.hn
  have HM := Lib.hid h.hm
  clear h hX hA hbA
  obtain ⟨a0, a1, _, _⟩ := two_cells HA.out
  obtain ⟨r, hr⟩ : ∃ r, r = getP P 0 := ⟨_, rfl⟩
  rw [← hr] at HGt
  obtain ⟨gs, gb, ge⟩ := r
  have Hr := Lib.hid hr
  clear hr
  obtain ⟨old, hold⟩ : ∃ old, old = (readP P 0).1 := ⟨_, rfl⟩
  obtain ⟨ro, hro⟩ : ∃ ro, ro = (readP P 0).2 := ⟨_, rfl⟩
  have HRp := Lib.hid (show readP P 0 = (old, ro) by rw [hold, hro])
  rw [HRp.out] at HRd
  obtain ⟨q, hq⟩ : ∃ q, q = mostN deeds 4 := ⟨_, rfl⟩
  have hq4 : q ≤ 4 := by rw [hq]; exact most_le _ _
  have Hq := Lib.hid hq
  clear hold hro hq
  go_enter Tryz.func25, Tryz.ntmps25
  go_wp2_with fail
  refine (HGt.out _ ⟨_, _, _, _, _, _, rfl, HP.out⟩).mono ?_
  rintro e w1 ⟨rfl, hb1⟩
  replace HP := Lib.hid (HP.out.below hb1)
  replace HX := hblk_below HX hb1
  replace HA := hblk_below HA hb1
  replace HB := Lib.hid (HB.out.trans (hb1.mono HB.out.size))
  clear hb1 a0 a1
  by_cases hge : ge = 0
  case neg =>
    have HD := Lib.hid (show putP P 0 s deeds = (noPlat, false, ge) by rw [putP, ← Hr.out, if_pos hge])
    have e0 : (ge != 0) = true := by simpa using hge
    obtain ⟨x0, x1, x2, x3⟩ := two_cells HX.out
    clear hge
    go_wp2_with fail
    refine bodyPost_ret (res_cell_tmp2 rfl _ _ (w.heap.size + 1) (by rfl) _ (load_plat_new (two_set HX.out _ _))) rfl ?_
    rw [HD.out]
    exact ⟨_, rfl, PlV.no _, two_by HB.out (by omega) _ _⟩
  subst hge
  have hok := read_ok (getP_read (show (getP P 0).2.2 = 0 by rw [← Hr.out]))
  obtain ⟨k1, k2, k3, _, _⟩ := check_parts hok.1
  have hn200 : n ≤ 200 := by rw [HN.out]; exact k2
  have hm100 : m ≤ 100 := by rw [HM.out]; exact k3
  have HDo := Lib.hid (show putP P 0 s deeds = if (runL ((deedsL 0 s old).take q) P).2 ≠ 0 then (noPlat, false, (runL ((deedsL 0 s old).take q) P).2) else ((runL ((deedsL 0 s old).take q) P).1, decide (q = 4), 0) by
    rw [putP, ← Hr.out, if_neg (by simp), HRp.out, doP, Hq.out]
    rfl)
  have Hs200 := Lib.hid k2
  have Hc100 := Lib.hid k3
  clear hok k1 k2 k3
  have e0 : ((0 : Int) != 0) = false := rfl
  have hqm := Hq.out
  unfold mostN at hqm
  have Hqm := Lib.hid hqm
  clear hqm
  by_cases hd0 : deeds < 0
  case pos =>
    have g0 : decide (deeds < 0) = true := decide_eq_true hd0
    have hqq : q = 4 := by rw [Hqm.out, if_pos (.inl hd0)]
    obtain ⟨a0, a1, _, _⟩ := two_cells HA.out
    go_wp2_with fail
    refine (HRd.out _ ⟨_, _, _, _, _, _, rfl, HP.out⟩).mono ?_
    rintro e w2 ⟨rfl, hb2⟩
    replace HP := Lib.hid (HP.out.below hb2)
    replace HX := hblk_below HX hb2
    replace HA := hblk_below HA hb2
    replace HB := Lib.hid (HB.out.trans (hb2.mono HB.out.size))
    clear hb2 a0 a1
    by_cases ho : old = mark0
    case pos =>
      have f0 : (old.toList == [48]) = true := by rw [mark_eq, decide_eq_true ho]
      have Hmm := Lib.hid (show markN old = mark1 by unfold markN; rw [if_pos ho])
      clear ho
      obtain ⟨a0, a1, _, _⟩ := two_cells HA.out
      have hsz2 : w.heap.size + 1 < w2.heap.size := cell_lt_of HX.out
      go_wp2_with fail
      refine (own13_any A B n c m d P _ HP.out (by omega) (by omega)).mono ?_
      rintro e w3 ⟨A3, c3, B3, d3, rfl, hO, hb3⟩
      have al := (Below.refl w3.heap.size w3).alloc (Nat.le_refl _) (.cells #[.slice A3 n c3, .slice B3 m d3] 25)
      have hb4 := Below.chain hb3 al
      replace HX := hblk_below HX hb4
      have HO := Lib.hid (PB.below hO.pb al)
      have HZ := Lib.hid (heap_alloc_new w3 (.cells #[.slice A3 n c3, .slice B3 m d3] 25))
      replace HB := Lib.hid (HB.out.trans (hb4.mono HB.out.size))
      have hsz3 : w2.heap.size ≤ w3.heap.size := hb3.size
      obtain ⟨u3, hu3⟩ : ∃ u, u = w3.alloc (.cells #[.slice A3 n c3, .slice B3 m d3] 25) := ⟨_, rfl⟩
      have Hu3 := Lib.hid hu3
      rw [← hu3] at HX HO HZ HB
      clear a0 a1 hb3 al hb4 hu3 hO
      go_upto_region 11 with fail
      rw [← Hu3.out]
      clear Hu3
      generalize hgz : w3.heap.size = gz at *
      clear hgz
      have e4 : ((4 : Int) == 4) = true := rfl
      go_wp2_with fail
      go_loopw [18] (fun x wr => ∃ (i : Nat) (Pi : Plat) (A' : Option Addr) (n' c' : Nat) (B' : Option Addr) (m' d' : Nat), i ≤ q ∧ x = .int .i64 (i : Nat) ∧ wr.heap[gz]? = some (.cells #[.slice A' n' c', .slice B' m' d'] 25 (0, 0)) ∧ PB wr A' n' B' m' Pi ∧ runL ((deedsL 0 s old).take i) P = (Pi, 0) ∧ wr.heap[w.heap.size + 1]? = some (.cells zP 25 (0, 0)) ∧ Below w.heap.size w wr ∧ Pi.ss.length ≤ 200 ∧ Pi.cs.length ≤ 101) (fun x _ => q - (intOf x).toNat)
      case atStart => exact ⟨0, P, A3, n, c3, B3, m, d3, by omega, rfl, HZ.out, HO.out, rfl, HX.out, HB.out, Hs200.out, by have := Hc100.out; omega⟩
      case round =>
        clear HX HO HZ HB
        obtain ⟨i, Pi, A4, n4, c4, B4, m4, d4, hi, rfl, hZ, hO, hrun, hX, hB, hs, hcs⟩ := hrel
        have HZ := Lib.hid hZ
        have HO := Lib.hid hO
        have HX := Lib.hid hX
        have HB := Lib.hid hB
        have Hrun := Lib.hid hrun
        have hgzl := cell_lt_of hZ
        clear hZ hO hrun hX hB
        obtain ⟨z0, z1, z2, z3⟩ := two_cells HZ.out
        by_cases hlt : i < q
        · have e1 : decide ((i : Int) < 4) = true := by simp; omega
          have e2 : (i : Int) < 4 := by omega
          have HDe := Lib.hid (fun W hP => deed14_any (.agg #[.slice A4 n4 c4, .slice B4 m4 d4]) Pi i s old W (by omega) hP (by omega) (by omega))
          obtain ⟨rd, hrd⟩ : ∃ rd, rd = dF s old i Pi := ⟨_, rfl⟩
          have Hst := Lib.hid (do14_step (show i < 4 by omega) Hrun.out)
          have Hbd := Lib.hid (fun h => do14_bad (P := P) hlt hq4 Hrun.out h)
          have Hln := Lib.hid (fun h => dF_len (s := s) (old := old) (show i < 4 by omega) (P := Pi) h)
          rw [← hrd] at HDe Hst Hbd Hln
          rw [Hmm.out] at HDe
          obtain ⟨Pn, en⟩ := rd
          clear hrd
          go_wp2_with fail
          refine (HDe.out _ ⟨_, _, _, _, _, _, rfl, HO.out⟩).mono ?_
          rintro e w5 ⟨v5, rfl, ⟨A5, n5, c5, B5, m5, d5, rfl, hp5⟩, hb⟩
          simp only at hp5 Hst Hbd Hln ⊢
          have al := (Below.refl w5.heap.size w5).alloc (Nat.le_refl _) (.cells #[.slice A5 n5 c5, .slice B5 m5 d5] 25)
          have hb2 := Below.chain hb al
          replace HX := hblk_below HX hb2
          replace HZ := hblk_below HZ hb2
          replace HB := Lib.hid (HB.out.trans (hb2.mono HB.out.size))
          have HY := Lib.hid (heap_alloc_new w5 (.cells #[.slice A5 n5 c5, .slice B5 m5 d5] 25))
          have HO5 := Lib.hid (PB.below (show PB w5 A5 n5 B5 m5 Pn from hp5) al)
          obtain ⟨u5, hu5⟩ : ∃ u, u = w5.alloc (.cells #[.slice A5 n5 c5, .slice B5 m5 d5] 25) := ⟨_, rfl⟩
          have Hu5 := Lib.hid hu5
          rw [← hu5] at HX HZ HB HY HO5
          clear hb al hb2 hu5 hp5 z0 z1 z2 z3
          go_upto_region 15 with fail
          rw [← Hu5.out]
          clear Hu5
          generalize hgy : w5.heap.size = gy at *
          clear hgy
          obtain ⟨z0, z1, z2, z3⟩ := two_cells HZ.out
          obtain ⟨y0, y1, _, _⟩ := two_cells HY.out
          obtain ⟨x0, x1, x2, x3⟩ := two_cells HX.out
          by_cases hen : en = 0
          case neg =>
            have f0 : (en != 0) = true := by simpa using hen
            have HDD := Lib.hid (show putP P 0 s deeds = (noPlat, false, en) by rw [HDo.out, Hbd.out hen, if_pos hen])
            clear hen
            go_wp2_with fail
            refine bodyPost_ret (res_cell_tmp2 rfl _ _ (w.heap.size + 1) (by rfl) _ (load_plat_new (two_set HX.out _ _))) rfl ?_
            rw [HDD.out]
            exact ⟨_, rfl, PlV.no _, two_by HB.out (by omega) _ _⟩
          subst hen
          obtain ⟨l1, l2⟩ := Hln.out rfl
          have f0 : ((0 : Int) != 0) = false := rfl
          have hst := Hst.out
          rw [if_neg (by simp)] at hst
          have Hst2 := Lib.hid hst
          have hge : w.heap.size ≤ gz := by omega
          clear hst Hst Hbd Hln
          go_wp2_with fail
          go_roundw
          case rel =>
            exact ⟨i + 1, Pn, A5, n5, c5, B5, m5, d5, by omega, by go_num, two_set HZ.out _ _, HO5.out.two HZ.out, Hst2.out, ((Below.heap_setCell _ ⟨gz, 1, none⟩ _ (w.heap.size + 1) (by simp; omega)).trans (Below.heap_setCell _ ⟨gz, 0, none⟩ _ (w.heap.size + 1) (by simp; omega))).trans HX.out, two_by HB.out hge _ _, l1, l2⟩
          case measure => simp [intOf]; omega
        · have hi4 : i = q := by omega
          have e1 : decide ((i : Int) < 4) = false := by simp; omega
          obtain ⟨x0, x1, x2, x3⟩ := two_cells HX.out
          have HDD := Lib.hid (show putP P 0 s deeds = (Pi, true, 0) by rw [HDo.out, ← hi4, Hrun.out, if_neg (by simp), decide_eq_true (show i = 4 by omega)])
          go_wp2_with fail
          refine bodyPost_ret (res_cell_tmp2 rfl _ _ (w.heap.size + 1) (by rfl) _ (load_plat_new (two_set HX.out _ _))) rfl ?_
          rw [HDD.out]
          exact ⟨_, rfl, ⟨_, _, _, _, _, _, rfl, HO.out.two HX.out⟩, two_by HB.out (by omega) _ _⟩
    have f0 : (old.toList == [48]) = false := by rw [mark_eq, decide_eq_false ho]
    have Hmm := Lib.hid (show markN old = mark0 by unfold markN; rw [if_neg ho])
    clear ho
    obtain ⟨a0, a1, _, _⟩ := two_cells HA.out
    have hsz2 : w.heap.size + 1 < w2.heap.size := cell_lt_of HX.out
    go_wp2_with fail
    refine (own13_any A B n c m d P _ HP.out (by omega) (by omega)).mono ?_
    rintro e w3 ⟨A3, c3, B3, d3, rfl, hO, hb3⟩
    have al := (Below.refl w3.heap.size w3).alloc (Nat.le_refl _) (.cells #[.slice A3 n c3, .slice B3 m d3] 25)
    have hb4 := Below.chain hb3 al
    replace HX := hblk_below HX hb4
    have HO := Lib.hid (PB.below hO.pb al)
    have HZ := Lib.hid (heap_alloc_new w3 (.cells #[.slice A3 n c3, .slice B3 m d3] 25))
    replace HB := Lib.hid (HB.out.trans (hb4.mono HB.out.size))
    have hsz3 : w2.heap.size ≤ w3.heap.size := hb3.size
    obtain ⟨u3, hu3⟩ : ∃ u, u = w3.alloc (.cells #[.slice A3 n c3, .slice B3 m d3] 25) := ⟨_, rfl⟩
    have Hu3 := Lib.hid hu3
    rw [← hu3] at HX HO HZ HB
    clear a0 a1 hb3 al hb4 hu3 hO
    go_upto_region 11 with fail
    rw [← Hu3.out]
    clear Hu3
    generalize hgz : w3.heap.size = gz at *
    clear hgz
    have e4 : ((4 : Int) == 4) = true := rfl
    go_wp2_with fail
    go_loopw [18] (fun x wr => ∃ (i : Nat) (Pi : Plat) (A' : Option Addr) (n' c' : Nat) (B' : Option Addr) (m' d' : Nat), i ≤ q ∧ x = .int .i64 (i : Nat) ∧ wr.heap[gz]? = some (.cells #[.slice A' n' c', .slice B' m' d'] 25 (0, 0)) ∧ PB wr A' n' B' m' Pi ∧ runL ((deedsL 0 s old).take i) P = (Pi, 0) ∧ wr.heap[w.heap.size + 1]? = some (.cells zP 25 (0, 0)) ∧ Below w.heap.size w wr ∧ Pi.ss.length ≤ 200 ∧ Pi.cs.length ≤ 101) (fun x _ => q - (intOf x).toNat)
    case atStart => exact ⟨0, P, A3, n, c3, B3, m, d3, by omega, rfl, HZ.out, HO.out, rfl, HX.out, HB.out, Hs200.out, by have := Hc100.out; omega⟩
    case round =>
      clear HX HO HZ HB
      obtain ⟨i, Pi, A4, n4, c4, B4, m4, d4, hi, rfl, hZ, hO, hrun, hX, hB, hs, hcs⟩ := hrel
      have HZ := Lib.hid hZ
      have HO := Lib.hid hO
      have HX := Lib.hid hX
      have HB := Lib.hid hB
      have Hrun := Lib.hid hrun
      have hgzl := cell_lt_of hZ
      clear hZ hO hrun hX hB
      obtain ⟨z0, z1, z2, z3⟩ := two_cells HZ.out
      by_cases hlt : i < q
      · have e1 : decide ((i : Int) < 4) = true := by simp; omega
        have e2 : (i : Int) < 4 := by omega
        have HDe := Lib.hid (fun W hP => deed14_any (.agg #[.slice A4 n4 c4, .slice B4 m4 d4]) Pi i s old W (by omega) hP (by omega) (by omega))
        obtain ⟨rd, hrd⟩ : ∃ rd, rd = dF s old i Pi := ⟨_, rfl⟩
        have Hst := Lib.hid (do14_step (show i < 4 by omega) Hrun.out)
        have Hbd := Lib.hid (fun h => do14_bad (P := P) hlt hq4 Hrun.out h)
        have Hln := Lib.hid (fun h => dF_len (s := s) (old := old) (show i < 4 by omega) (P := Pi) h)
        rw [← hrd] at HDe Hst Hbd Hln
        rw [Hmm.out] at HDe
        obtain ⟨Pn, en⟩ := rd
        clear hrd
        go_wp2_with fail
        refine (HDe.out _ ⟨_, _, _, _, _, _, rfl, HO.out⟩).mono ?_
        rintro e w5 ⟨v5, rfl, ⟨A5, n5, c5, B5, m5, d5, rfl, hp5⟩, hb⟩
        simp only at hp5 Hst Hbd Hln ⊢
        have al := (Below.refl w5.heap.size w5).alloc (Nat.le_refl _) (.cells #[.slice A5 n5 c5, .slice B5 m5 d5] 25)
        have hb2 := Below.chain hb al
        replace HX := hblk_below HX hb2
        replace HZ := hblk_below HZ hb2
        replace HB := Lib.hid (HB.out.trans (hb2.mono HB.out.size))
        have HY := Lib.hid (heap_alloc_new w5 (.cells #[.slice A5 n5 c5, .slice B5 m5 d5] 25))
        have HO5 := Lib.hid (PB.below (show PB w5 A5 n5 B5 m5 Pn from hp5) al)
        obtain ⟨u5, hu5⟩ : ∃ u, u = w5.alloc (.cells #[.slice A5 n5 c5, .slice B5 m5 d5] 25) := ⟨_, rfl⟩
        have Hu5 := Lib.hid hu5
        rw [← hu5] at HX HZ HB HY HO5
        clear hb al hb2 hu5 hp5 z0 z1 z2 z3
        go_upto_region 15 with fail
        rw [← Hu5.out]
        clear Hu5
        generalize hgy : w5.heap.size = gy at *
        clear hgy
        obtain ⟨z0, z1, z2, z3⟩ := two_cells HZ.out
        obtain ⟨y0, y1, _, _⟩ := two_cells HY.out
        obtain ⟨x0, x1, x2, x3⟩ := two_cells HX.out
        by_cases hen : en = 0
        case neg =>
          have f0 : (en != 0) = true := by simpa using hen
          have HDD := Lib.hid (show putP P 0 s deeds = (noPlat, false, en) by rw [HDo.out, Hbd.out hen, if_pos hen])
          clear hen
          go_wp2_with fail
          refine bodyPost_ret (res_cell_tmp2 rfl _ _ (w.heap.size + 1) (by rfl) _ (load_plat_new (two_set HX.out _ _))) rfl ?_
          rw [HDD.out]
          exact ⟨_, rfl, PlV.no _, two_by HB.out (by omega) _ _⟩
        subst hen
        obtain ⟨l1, l2⟩ := Hln.out rfl
        have f0 : ((0 : Int) != 0) = false := rfl
        have hst := Hst.out
        rw [if_neg (by simp)] at hst
        have Hst2 := Lib.hid hst
        have hge : w.heap.size ≤ gz := by omega
        clear hst Hst Hbd Hln
        go_wp2_with fail
        go_roundw
        case rel =>
          exact ⟨i + 1, Pn, A5, n5, c5, B5, m5, d5, by omega, by go_num, two_set HZ.out _ _, HO5.out.two HZ.out, Hst2.out, ((Below.heap_setCell _ ⟨gz, 1, none⟩ _ (w.heap.size + 1) (by simp; omega)).trans (Below.heap_setCell _ ⟨gz, 0, none⟩ _ (w.heap.size + 1) (by simp; omega))).trans HX.out, two_by HB.out hge _ _, l1, l2⟩
        case measure => simp [intOf]; omega
      · have hi4 : i = q := by omega
        have e1 : decide ((i : Int) < 4) = false := by simp; omega
        obtain ⟨x0, x1, x2, x3⟩ := two_cells HX.out
        have HDD := Lib.hid (show putP P 0 s deeds = (Pi, true, 0) by rw [HDo.out, ← hi4, Hrun.out, if_neg (by simp), decide_eq_true (show i = 4 by omega)])
        go_wp2_with fail
        refine bodyPost_ret (res_cell_tmp2 rfl _ _ (w.heap.size + 1) (by rfl) _ (load_plat_new (two_set HX.out _ _))) rfl ?_
        rw [HDD.out]
        exact ⟨_, rfl, ⟨_, _, _, _, _, _, rfl, HO.out.two HX.out⟩, two_by HB.out (by omega) _ _⟩
  have g0 : decide (deeds < 0) = false := decide_eq_false hd0
  by_cases hd4 : 4 < deeds
  case pos =>
    have g1 : decide (deeds > 4) = true := decide_eq_true hd4
    have hqq : q = 4 := by rw [Hqm.out, if_pos (.inr hd4)]
    obtain ⟨a0, a1, _, _⟩ := two_cells HA.out
    go_wp2_with fail
    refine (HRd.out _ ⟨_, _, _, _, _, _, rfl, HP.out⟩).mono ?_
    rintro e w2 ⟨rfl, hb2⟩
    replace HP := Lib.hid (HP.out.below hb2)
    replace HX := hblk_below HX hb2
    replace HA := hblk_below HA hb2
    replace HB := Lib.hid (HB.out.trans (hb2.mono HB.out.size))
    clear hb2 a0 a1
    by_cases ho : old = mark0
    case pos =>
      have f0 : (old.toList == [48]) = true := by rw [mark_eq, decide_eq_true ho]
      have Hmm := Lib.hid (show markN old = mark1 by unfold markN; rw [if_pos ho])
      clear ho
      obtain ⟨a0, a1, _, _⟩ := two_cells HA.out
      have hsz2 : w.heap.size + 1 < w2.heap.size := cell_lt_of HX.out
      go_wp2_with fail
      refine (own13_any A B n c m d P _ HP.out (by omega) (by omega)).mono ?_
      rintro e w3 ⟨A3, c3, B3, d3, rfl, hO, hb3⟩
      have al := (Below.refl w3.heap.size w3).alloc (Nat.le_refl _) (.cells #[.slice A3 n c3, .slice B3 m d3] 25)
      have hb4 := Below.chain hb3 al
      replace HX := hblk_below HX hb4
      have HO := Lib.hid (PB.below hO.pb al)
      have HZ := Lib.hid (heap_alloc_new w3 (.cells #[.slice A3 n c3, .slice B3 m d3] 25))
      replace HB := Lib.hid (HB.out.trans (hb4.mono HB.out.size))
      have hsz3 : w2.heap.size ≤ w3.heap.size := hb3.size
      obtain ⟨u3, hu3⟩ : ∃ u, u = w3.alloc (.cells #[.slice A3 n c3, .slice B3 m d3] 25) := ⟨_, rfl⟩
      have Hu3 := Lib.hid hu3
      rw [← hu3] at HX HO HZ HB
      clear a0 a1 hb3 al hb4 hu3 hO
      go_upto_region 11 with fail
      rw [← Hu3.out]
      clear Hu3
      generalize hgz : w3.heap.size = gz at *
      clear hgz
      have e4 : ((4 : Int) == 4) = true := rfl
      go_wp2_with fail
      go_loopw [18] (fun x wr => ∃ (i : Nat) (Pi : Plat) (A' : Option Addr) (n' c' : Nat) (B' : Option Addr) (m' d' : Nat), i ≤ q ∧ x = .int .i64 (i : Nat) ∧ wr.heap[gz]? = some (.cells #[.slice A' n' c', .slice B' m' d'] 25 (0, 0)) ∧ PB wr A' n' B' m' Pi ∧ runL ((deedsL 0 s old).take i) P = (Pi, 0) ∧ wr.heap[w.heap.size + 1]? = some (.cells zP 25 (0, 0)) ∧ Below w.heap.size w wr ∧ Pi.ss.length ≤ 200 ∧ Pi.cs.length ≤ 101) (fun x _ => q - (intOf x).toNat)
      case atStart => exact ⟨0, P, A3, n, c3, B3, m, d3, by omega, rfl, HZ.out, HO.out, rfl, HX.out, HB.out, Hs200.out, by have := Hc100.out; omega⟩
      case round =>
        clear HX HO HZ HB
        obtain ⟨i, Pi, A4, n4, c4, B4, m4, d4, hi, rfl, hZ, hO, hrun, hX, hB, hs, hcs⟩ := hrel
        have HZ := Lib.hid hZ
        have HO := Lib.hid hO
        have HX := Lib.hid hX
        have HB := Lib.hid hB
        have Hrun := Lib.hid hrun
        have hgzl := cell_lt_of hZ
        clear hZ hO hrun hX hB
        obtain ⟨z0, z1, z2, z3⟩ := two_cells HZ.out
        by_cases hlt : i < q
        · have e1 : decide ((i : Int) < 4) = true := by simp; omega
          have e2 : (i : Int) < 4 := by omega
          have HDe := Lib.hid (fun W hP => deed14_any (.agg #[.slice A4 n4 c4, .slice B4 m4 d4]) Pi i s old W (by omega) hP (by omega) (by omega))
          obtain ⟨rd, hrd⟩ : ∃ rd, rd = dF s old i Pi := ⟨_, rfl⟩
          have Hst := Lib.hid (do14_step (show i < 4 by omega) Hrun.out)
          have Hbd := Lib.hid (fun h => do14_bad (P := P) hlt hq4 Hrun.out h)
          have Hln := Lib.hid (fun h => dF_len (s := s) (old := old) (show i < 4 by omega) (P := Pi) h)
          rw [← hrd] at HDe Hst Hbd Hln
          rw [Hmm.out] at HDe
          obtain ⟨Pn, en⟩ := rd
          clear hrd
          go_wp2_with fail
          refine (HDe.out _ ⟨_, _, _, _, _, _, rfl, HO.out⟩).mono ?_
          rintro e w5 ⟨v5, rfl, ⟨A5, n5, c5, B5, m5, d5, rfl, hp5⟩, hb⟩
          simp only at hp5 Hst Hbd Hln ⊢
          have al := (Below.refl w5.heap.size w5).alloc (Nat.le_refl _) (.cells #[.slice A5 n5 c5, .slice B5 m5 d5] 25)
          have hb2 := Below.chain hb al
          replace HX := hblk_below HX hb2
          replace HZ := hblk_below HZ hb2
          replace HB := Lib.hid (HB.out.trans (hb2.mono HB.out.size))
          have HY := Lib.hid (heap_alloc_new w5 (.cells #[.slice A5 n5 c5, .slice B5 m5 d5] 25))
          have HO5 := Lib.hid (PB.below (show PB w5 A5 n5 B5 m5 Pn from hp5) al)
          obtain ⟨u5, hu5⟩ : ∃ u, u = w5.alloc (.cells #[.slice A5 n5 c5, .slice B5 m5 d5] 25) := ⟨_, rfl⟩
          have Hu5 := Lib.hid hu5
          rw [← hu5] at HX HZ HB HY HO5
          clear hb al hb2 hu5 hp5 z0 z1 z2 z3
          go_upto_region 15 with fail
          rw [← Hu5.out]
          clear Hu5
          generalize hgy : w5.heap.size = gy at *
          clear hgy
          obtain ⟨z0, z1, z2, z3⟩ := two_cells HZ.out
          obtain ⟨y0, y1, _, _⟩ := two_cells HY.out
          obtain ⟨x0, x1, x2, x3⟩ := two_cells HX.out
          by_cases hen : en = 0
          case neg =>
            have f0 : (en != 0) = true := by simpa using hen
            have HDD := Lib.hid (show putP P 0 s deeds = (noPlat, false, en) by rw [HDo.out, Hbd.out hen, if_pos hen])
            clear hen
            go_wp2_with fail
            refine bodyPost_ret (res_cell_tmp2 rfl _ _ (w.heap.size + 1) (by rfl) _ (load_plat_new (two_set HX.out _ _))) rfl ?_
            rw [HDD.out]
            exact ⟨_, rfl, PlV.no _, two_by HB.out (by omega) _ _⟩
          subst hen
          obtain ⟨l1, l2⟩ := Hln.out rfl
          have f0 : ((0 : Int) != 0) = false := rfl
          have hst := Hst.out
          rw [if_neg (by simp)] at hst
          have Hst2 := Lib.hid hst
          have hge : w.heap.size ≤ gz := by omega
          clear hst Hst Hbd Hln
          go_wp2_with fail
          go_roundw
          case rel =>
            exact ⟨i + 1, Pn, A5, n5, c5, B5, m5, d5, by omega, by go_num, two_set HZ.out _ _, HO5.out.two HZ.out, Hst2.out, ((Below.heap_setCell _ ⟨gz, 1, none⟩ _ (w.heap.size + 1) (by simp; omega)).trans (Below.heap_setCell _ ⟨gz, 0, none⟩ _ (w.heap.size + 1) (by simp; omega))).trans HX.out, two_by HB.out hge _ _, l1, l2⟩
          case measure => simp [intOf]; omega
        · have hi4 : i = q := by omega
          have e1 : decide ((i : Int) < 4) = false := by simp; omega
          obtain ⟨x0, x1, x2, x3⟩ := two_cells HX.out
          have HDD := Lib.hid (show putP P 0 s deeds = (Pi, true, 0) by rw [HDo.out, ← hi4, Hrun.out, if_neg (by simp), decide_eq_true (show i = 4 by omega)])
          go_wp2_with fail
          refine bodyPost_ret (res_cell_tmp2 rfl _ _ (w.heap.size + 1) (by rfl) _ (load_plat_new (two_set HX.out _ _))) rfl ?_
          rw [HDD.out]
          exact ⟨_, rfl, ⟨_, _, _, _, _, _, rfl, HO.out.two HX.out⟩, two_by HB.out (by omega) _ _⟩
    have f0 : (old.toList == [48]) = false := by rw [mark_eq, decide_eq_false ho]
    have Hmm := Lib.hid (show markN old = mark0 by unfold markN; rw [if_neg ho])
    clear ho
    obtain ⟨a0, a1, _, _⟩ := two_cells HA.out
    have hsz2 : w.heap.size + 1 < w2.heap.size := cell_lt_of HX.out
    go_wp2_with fail
    refine (own13_any A B n c m d P _ HP.out (by omega) (by omega)).mono ?_
    rintro e w3 ⟨A3, c3, B3, d3, rfl, hO, hb3⟩
    have al := (Below.refl w3.heap.size w3).alloc (Nat.le_refl _) (.cells #[.slice A3 n c3, .slice B3 m d3] 25)
    have hb4 := Below.chain hb3 al
    replace HX := hblk_below HX hb4
    have HO := Lib.hid (PB.below hO.pb al)
    have HZ := Lib.hid (heap_alloc_new w3 (.cells #[.slice A3 n c3, .slice B3 m d3] 25))
    replace HB := Lib.hid (HB.out.trans (hb4.mono HB.out.size))
    have hsz3 : w2.heap.size ≤ w3.heap.size := hb3.size
    obtain ⟨u3, hu3⟩ : ∃ u, u = w3.alloc (.cells #[.slice A3 n c3, .slice B3 m d3] 25) := ⟨_, rfl⟩
    have Hu3 := Lib.hid hu3
    rw [← hu3] at HX HO HZ HB
    clear a0 a1 hb3 al hb4 hu3 hO
    go_upto_region 11 with fail
    rw [← Hu3.out]
    clear Hu3
    generalize hgz : w3.heap.size = gz at *
    clear hgz
    have e4 : ((4 : Int) == 4) = true := rfl
    go_wp2_with fail
    go_loopw [18] (fun x wr => ∃ (i : Nat) (Pi : Plat) (A' : Option Addr) (n' c' : Nat) (B' : Option Addr) (m' d' : Nat), i ≤ q ∧ x = .int .i64 (i : Nat) ∧ wr.heap[gz]? = some (.cells #[.slice A' n' c', .slice B' m' d'] 25 (0, 0)) ∧ PB wr A' n' B' m' Pi ∧ runL ((deedsL 0 s old).take i) P = (Pi, 0) ∧ wr.heap[w.heap.size + 1]? = some (.cells zP 25 (0, 0)) ∧ Below w.heap.size w wr ∧ Pi.ss.length ≤ 200 ∧ Pi.cs.length ≤ 101) (fun x _ => q - (intOf x).toNat)
    case atStart => exact ⟨0, P, A3, n, c3, B3, m, d3, by omega, rfl, HZ.out, HO.out, rfl, HX.out, HB.out, Hs200.out, by have := Hc100.out; omega⟩
    case round =>
      clear HX HO HZ HB
      obtain ⟨i, Pi, A4, n4, c4, B4, m4, d4, hi, rfl, hZ, hO, hrun, hX, hB, hs, hcs⟩ := hrel
      have HZ := Lib.hid hZ
      have HO := Lib.hid hO
      have HX := Lib.hid hX
      have HB := Lib.hid hB
      have Hrun := Lib.hid hrun
      have hgzl := cell_lt_of hZ
      clear hZ hO hrun hX hB
      obtain ⟨z0, z1, z2, z3⟩ := two_cells HZ.out
      by_cases hlt : i < q
      · have e1 : decide ((i : Int) < 4) = true := by simp; omega
        have e2 : (i : Int) < 4 := by omega
        have HDe := Lib.hid (fun W hP => deed14_any (.agg #[.slice A4 n4 c4, .slice B4 m4 d4]) Pi i s old W (by omega) hP (by omega) (by omega))
        obtain ⟨rd, hrd⟩ : ∃ rd, rd = dF s old i Pi := ⟨_, rfl⟩
        have Hst := Lib.hid (do14_step (show i < 4 by omega) Hrun.out)
        have Hbd := Lib.hid (fun h => do14_bad (P := P) hlt hq4 Hrun.out h)
        have Hln := Lib.hid (fun h => dF_len (s := s) (old := old) (show i < 4 by omega) (P := Pi) h)
        rw [← hrd] at HDe Hst Hbd Hln
        rw [Hmm.out] at HDe
        obtain ⟨Pn, en⟩ := rd
        clear hrd
        go_wp2_with fail
        refine (HDe.out _ ⟨_, _, _, _, _, _, rfl, HO.out⟩).mono ?_
        rintro e w5 ⟨v5, rfl, ⟨A5, n5, c5, B5, m5, d5, rfl, hp5⟩, hb⟩
        simp only at hp5 Hst Hbd Hln ⊢
        have al := (Below.refl w5.heap.size w5).alloc (Nat.le_refl _) (.cells #[.slice A5 n5 c5, .slice B5 m5 d5] 25)
        have hb2 := Below.chain hb al
        replace HX := hblk_below HX hb2
        replace HZ := hblk_below HZ hb2
        replace HB := Lib.hid (HB.out.trans (hb2.mono HB.out.size))
        have HY := Lib.hid (heap_alloc_new w5 (.cells #[.slice A5 n5 c5, .slice B5 m5 d5] 25))
        have HO5 := Lib.hid (PB.below (show PB w5 A5 n5 B5 m5 Pn from hp5) al)
        obtain ⟨u5, hu5⟩ : ∃ u, u = w5.alloc (.cells #[.slice A5 n5 c5, .slice B5 m5 d5] 25) := ⟨_, rfl⟩
        have Hu5 := Lib.hid hu5
        rw [← hu5] at HX HZ HB HY HO5
        clear hb al hb2 hu5 hp5 z0 z1 z2 z3
        go_upto_region 15 with fail
        rw [← Hu5.out]
        clear Hu5
        generalize hgy : w5.heap.size = gy at *
        clear hgy
        obtain ⟨z0, z1, z2, z3⟩ := two_cells HZ.out
        obtain ⟨y0, y1, _, _⟩ := two_cells HY.out
        obtain ⟨x0, x1, x2, x3⟩ := two_cells HX.out
        by_cases hen : en = 0
        case neg =>
          have f0 : (en != 0) = true := by simpa using hen
          have HDD := Lib.hid (show putP P 0 s deeds = (noPlat, false, en) by rw [HDo.out, Hbd.out hen, if_pos hen])
          clear hen
          go_wp2_with fail
          refine bodyPost_ret (res_cell_tmp2 rfl _ _ (w.heap.size + 1) (by rfl) _ (load_plat_new (two_set HX.out _ _))) rfl ?_
          rw [HDD.out]
          exact ⟨_, rfl, PlV.no _, two_by HB.out (by omega) _ _⟩
        subst hen
        obtain ⟨l1, l2⟩ := Hln.out rfl
        have f0 : ((0 : Int) != 0) = false := rfl
        have hst := Hst.out
        rw [if_neg (by simp)] at hst
        have Hst2 := Lib.hid hst
        have hge : w.heap.size ≤ gz := by omega
        clear hst Hst Hbd Hln
        go_wp2_with fail
        go_roundw
        case rel =>
          exact ⟨i + 1, Pn, A5, n5, c5, B5, m5, d5, by omega, by go_num, two_set HZ.out _ _, HO5.out.two HZ.out, Hst2.out, ((Below.heap_setCell _ ⟨gz, 1, none⟩ _ (w.heap.size + 1) (by simp; omega)).trans (Below.heap_setCell _ ⟨gz, 0, none⟩ _ (w.heap.size + 1) (by simp; omega))).trans HX.out, two_by HB.out hge _ _, l1, l2⟩
        case measure => simp [intOf]; omega
      · have hi4 : i = q := by omega
        have e1 : decide ((i : Int) < 4) = false := by simp; omega
        obtain ⟨x0, x1, x2, x3⟩ := two_cells HX.out
        have HDD := Lib.hid (show putP P 0 s deeds = (Pi, true, 0) by rw [HDo.out, ← hi4, Hrun.out, if_neg (by simp), decide_eq_true (show i = 4 by omega)])
        go_wp2_with fail
        refine bodyPost_ret (res_cell_tmp2 rfl _ _ (w.heap.size + 1) (by rfl) _ (load_plat_new (two_set HX.out _ _))) rfl ?_
        rw [HDD.out]
        exact ⟨_, rfl, ⟨_, _, _, _, _, _, rfl, HO.out.two HX.out⟩, two_by HB.out (by omega) _ _⟩
  have g1 : decide (deeds > 4) = false := decide_eq_false hd4
  have hqq : ((q : Nat) : Int) = deeds := by rw [Hqm.out, if_neg (by simp; omega)]; omega
  subst hqq
  obtain ⟨a0, a1, _, _⟩ := two_cells HA.out
  go_wp2_with fail
  refine (HRd.out _ ⟨_, _, _, _, _, _, rfl, HP.out⟩).mono ?_
  rintro e w2 ⟨rfl, hb2⟩
  replace HP := Lib.hid (HP.out.below hb2)
  replace HX := hblk_below HX hb2
  replace HA := hblk_below HA hb2
  replace HB := Lib.hid (HB.out.trans (hb2.mono HB.out.size))
  clear hb2 a0 a1
  by_cases ho : old = mark0
  case pos =>
    have f0 : (old.toList == [48]) = true := by rw [mark_eq, decide_eq_true ho]
    have Hmm := Lib.hid (show markN old = mark1 by unfold markN; rw [if_pos ho])
    clear ho
    obtain ⟨a0, a1, _, _⟩ := two_cells HA.out
    have hsz2 : w.heap.size + 1 < w2.heap.size := cell_lt_of HX.out
    go_wp2_with fail
    refine (own13_any A B n c m d P _ HP.out (by omega) (by omega)).mono ?_
    rintro e w3 ⟨A3, c3, B3, d3, rfl, hO, hb3⟩
    have al := (Below.refl w3.heap.size w3).alloc (Nat.le_refl _) (.cells #[.slice A3 n c3, .slice B3 m d3] 25)
    have hb4 := Below.chain hb3 al
    replace HX := hblk_below HX hb4
    have HO := Lib.hid (PB.below hO.pb al)
    have HZ := Lib.hid (heap_alloc_new w3 (.cells #[.slice A3 n c3, .slice B3 m d3] 25))
    replace HB := Lib.hid (HB.out.trans (hb4.mono HB.out.size))
    have hsz3 : w2.heap.size ≤ w3.heap.size := hb3.size
    obtain ⟨u3, hu3⟩ : ∃ u, u = w3.alloc (.cells #[.slice A3 n c3, .slice B3 m d3] 25) := ⟨_, rfl⟩
    have Hu3 := Lib.hid hu3
    rw [← hu3] at HX HO HZ HB
    clear a0 a1 hb3 al hb4 hu3 hO
    go_upto_region 11 with fail
    rw [← Hu3.out]
    clear Hu3
    generalize hgz : w3.heap.size = gz at *
    clear hgz
    have e4 : ((q : Int) == 4) = decide (q = 4) := by
      by_cases h : q = 4
      · rw [h]; rfl
      · rw [decide_eq_false h]; simp; omega
    go_wp2_with fail
    go_loopw [18] (fun x wr => ∃ (i : Nat) (Pi : Plat) (A' : Option Addr) (n' c' : Nat) (B' : Option Addr) (m' d' : Nat), i ≤ q ∧ x = .int .i64 (i : Nat) ∧ wr.heap[gz]? = some (.cells #[.slice A' n' c', .slice B' m' d'] 25 (0, 0)) ∧ PB wr A' n' B' m' Pi ∧ runL ((deedsL 0 s old).take i) P = (Pi, 0) ∧ wr.heap[w.heap.size + 1]? = some (.cells zP 25 (0, 0)) ∧ Below w.heap.size w wr ∧ Pi.ss.length ≤ 200 ∧ Pi.cs.length ≤ 101) (fun x _ => q - (intOf x).toNat)
    case atStart => exact ⟨0, P, A3, n, c3, B3, m, d3, by omega, rfl, HZ.out, HO.out, rfl, HX.out, HB.out, Hs200.out, by have := Hc100.out; omega⟩
    case round =>
      clear HX HO HZ HB
      obtain ⟨i, Pi, A4, n4, c4, B4, m4, d4, hi, rfl, hZ, hO, hrun, hX, hB, hs, hcs⟩ := hrel
      have HZ := Lib.hid hZ
      have HO := Lib.hid hO
      have HX := Lib.hid hX
      have HB := Lib.hid hB
      have Hrun := Lib.hid hrun
      have hgzl := cell_lt_of hZ
      clear hZ hO hrun hX hB
      obtain ⟨z0, z1, z2, z3⟩ := two_cells HZ.out
      by_cases hlt : i < q
      · have e1 : decide ((i : Int) < (q : Int)) = true := by simp; omega
        have e2 : (i : Int) < (q : Int) := by omega
        have HDe := Lib.hid (fun W hP => deed14_any (.agg #[.slice A4 n4 c4, .slice B4 m4 d4]) Pi i s old W (by omega) hP (by omega) (by omega))
        obtain ⟨rd, hrd⟩ : ∃ rd, rd = dF s old i Pi := ⟨_, rfl⟩
        have Hst := Lib.hid (do14_step (show i < 4 by omega) Hrun.out)
        have Hbd := Lib.hid (fun h => do14_bad (P := P) hlt hq4 Hrun.out h)
        have Hln := Lib.hid (fun h => dF_len (s := s) (old := old) (show i < 4 by omega) (P := Pi) h)
        rw [← hrd] at HDe Hst Hbd Hln
        rw [Hmm.out] at HDe
        obtain ⟨Pn, en⟩ := rd
        clear hrd
        go_wp2_with fail
        refine (HDe.out _ ⟨_, _, _, _, _, _, rfl, HO.out⟩).mono ?_
        rintro e w5 ⟨v5, rfl, ⟨A5, n5, c5, B5, m5, d5, rfl, hp5⟩, hb⟩
        simp only at hp5 Hst Hbd Hln ⊢
        have al := (Below.refl w5.heap.size w5).alloc (Nat.le_refl _) (.cells #[.slice A5 n5 c5, .slice B5 m5 d5] 25)
        have hb2 := Below.chain hb al
        replace HX := hblk_below HX hb2
        replace HZ := hblk_below HZ hb2
        replace HB := Lib.hid (HB.out.trans (hb2.mono HB.out.size))
        have HY := Lib.hid (heap_alloc_new w5 (.cells #[.slice A5 n5 c5, .slice B5 m5 d5] 25))
        have HO5 := Lib.hid (PB.below (show PB w5 A5 n5 B5 m5 Pn from hp5) al)
        obtain ⟨u5, hu5⟩ : ∃ u, u = w5.alloc (.cells #[.slice A5 n5 c5, .slice B5 m5 d5] 25) := ⟨_, rfl⟩
        have Hu5 := Lib.hid hu5
        rw [← hu5] at HX HZ HB HY HO5
        clear hb al hb2 hu5 hp5 z0 z1 z2 z3
        go_upto_region 15 with fail
        rw [← Hu5.out]
        clear Hu5
        generalize hgy : w5.heap.size = gy at *
        clear hgy
        obtain ⟨z0, z1, z2, z3⟩ := two_cells HZ.out
        obtain ⟨y0, y1, _, _⟩ := two_cells HY.out
        obtain ⟨x0, x1, x2, x3⟩ := two_cells HX.out
        by_cases hen : en = 0
        case neg =>
          have f0 : (en != 0) = true := by simpa using hen
          have HDD := Lib.hid (show putP P 0 s (q : Nat) = (noPlat, false, en) by rw [HDo.out, Hbd.out hen, if_pos hen])
          clear hen
          go_wp2_with fail
          refine bodyPost_ret (res_cell_tmp2 rfl _ _ (w.heap.size + 1) (by rfl) _ (load_plat_new (two_set HX.out _ _))) rfl ?_
          rw [HDD.out]
          exact ⟨_, rfl, PlV.no _, two_by HB.out (by omega) _ _⟩
        subst hen
        obtain ⟨l1, l2⟩ := Hln.out rfl
        have f0 : ((0 : Int) != 0) = false := rfl
        have hst := Hst.out
        rw [if_neg (by simp)] at hst
        have Hst2 := Lib.hid hst
        have hge : w.heap.size ≤ gz := by omega
        clear hst Hst Hbd Hln
        go_wp2_with fail
        go_roundw
        case rel =>
          exact ⟨i + 1, Pn, A5, n5, c5, B5, m5, d5, by omega, by go_num, two_set HZ.out _ _, HO5.out.two HZ.out, Hst2.out, ((Below.heap_setCell _ ⟨gz, 1, none⟩ _ (w.heap.size + 1) (by simp; omega)).trans (Below.heap_setCell _ ⟨gz, 0, none⟩ _ (w.heap.size + 1) (by simp; omega))).trans HX.out, two_by HB.out hge _ _, l1, l2⟩
        case measure => simp [intOf]; omega
      · obtain rfl : i = q := by omega
        have e1 : decide ((i : Int) < (i : Int)) = false := by simp
        obtain ⟨x0, x1, x2, x3⟩ := two_cells HX.out
        have HDD := Lib.hid (show putP P 0 s (i : Nat) = (Pi, decide (i = 4), 0) by rw [HDo.out, Hrun.out, if_neg (by simp)])
        go_wp2_with fail
        refine bodyPost_ret (res_cell_tmp2 rfl _ _ (w.heap.size + 1) (by rfl) _ (load_plat_new (two_set HX.out _ _))) rfl ?_
        rw [HDD.out]
        exact ⟨_, rfl, ⟨_, _, _, _, _, _, rfl, HO.out.two HX.out⟩, two_by HB.out (by omega) _ _⟩
  have f0 : (old.toList == [48]) = false := by rw [mark_eq, decide_eq_false ho]
  have Hmm := Lib.hid (show markN old = mark0 by unfold markN; rw [if_neg ho])
  clear ho
  obtain ⟨a0, a1, _, _⟩ := two_cells HA.out
  have hsz2 : w.heap.size + 1 < w2.heap.size := cell_lt_of HX.out
  go_wp2_with fail
  refine (own13_any A B n c m d P _ HP.out (by omega) (by omega)).mono ?_
  rintro e w3 ⟨A3, c3, B3, d3, rfl, hO, hb3⟩
  have al := (Below.refl w3.heap.size w3).alloc (Nat.le_refl _) (.cells #[.slice A3 n c3, .slice B3 m d3] 25)
  have hb4 := Below.chain hb3 al
  replace HX := hblk_below HX hb4
  have HO := Lib.hid (PB.below hO.pb al)
  have HZ := Lib.hid (heap_alloc_new w3 (.cells #[.slice A3 n c3, .slice B3 m d3] 25))
  replace HB := Lib.hid (HB.out.trans (hb4.mono HB.out.size))
  have hsz3 : w2.heap.size ≤ w3.heap.size := hb3.size
  obtain ⟨u3, hu3⟩ : ∃ u, u = w3.alloc (.cells #[.slice A3 n c3, .slice B3 m d3] 25) := ⟨_, rfl⟩
  have Hu3 := Lib.hid hu3
  rw [← hu3] at HX HO HZ HB
  clear a0 a1 hb3 al hb4 hu3 hO
  go_upto_region 11 with fail
  rw [← Hu3.out]
  clear Hu3
  generalize hgz : w3.heap.size = gz at *
  clear hgz
  have e4 : ((q : Int) == 4) = decide (q = 4) := by
    by_cases h : q = 4
    · rw [h]; rfl
    · rw [decide_eq_false h]; simp; omega
  go_wp2_with fail
  go_loopw [18] (fun x wr => ∃ (i : Nat) (Pi : Plat) (A' : Option Addr) (n' c' : Nat) (B' : Option Addr) (m' d' : Nat), i ≤ q ∧ x = .int .i64 (i : Nat) ∧ wr.heap[gz]? = some (.cells #[.slice A' n' c', .slice B' m' d'] 25 (0, 0)) ∧ PB wr A' n' B' m' Pi ∧ runL ((deedsL 0 s old).take i) P = (Pi, 0) ∧ wr.heap[w.heap.size + 1]? = some (.cells zP 25 (0, 0)) ∧ Below w.heap.size w wr ∧ Pi.ss.length ≤ 200 ∧ Pi.cs.length ≤ 101) (fun x _ => q - (intOf x).toNat)
  case atStart => exact ⟨0, P, A3, n, c3, B3, m, d3, by omega, rfl, HZ.out, HO.out, rfl, HX.out, HB.out, Hs200.out, by have := Hc100.out; omega⟩
  case round =>
    clear HX HO HZ HB
    obtain ⟨i, Pi, A4, n4, c4, B4, m4, d4, hi, rfl, hZ, hO, hrun, hX, hB, hs, hcs⟩ := hrel
    have HZ := Lib.hid hZ
    have HO := Lib.hid hO
    have HX := Lib.hid hX
    have HB := Lib.hid hB
    have Hrun := Lib.hid hrun
    have hgzl := cell_lt_of hZ
    clear hZ hO hrun hX hB
    obtain ⟨z0, z1, z2, z3⟩ := two_cells HZ.out
    by_cases hlt : i < q
    · have e1 : decide ((i : Int) < (q : Int)) = true := by simp; omega
      have e2 : (i : Int) < (q : Int) := by omega
      have HDe := Lib.hid (fun W hP => deed14_any (.agg #[.slice A4 n4 c4, .slice B4 m4 d4]) Pi i s old W (by omega) hP (by omega) (by omega))
      obtain ⟨rd, hrd⟩ : ∃ rd, rd = dF s old i Pi := ⟨_, rfl⟩
      have Hst := Lib.hid (do14_step (show i < 4 by omega) Hrun.out)
      have Hbd := Lib.hid (fun h => do14_bad (P := P) hlt hq4 Hrun.out h)
      have Hln := Lib.hid (fun h => dF_len (s := s) (old := old) (show i < 4 by omega) (P := Pi) h)
      rw [← hrd] at HDe Hst Hbd Hln
      rw [Hmm.out] at HDe
      obtain ⟨Pn, en⟩ := rd
      clear hrd
      go_wp2_with fail
      refine (HDe.out _ ⟨_, _, _, _, _, _, rfl, HO.out⟩).mono ?_
      rintro e w5 ⟨v5, rfl, ⟨A5, n5, c5, B5, m5, d5, rfl, hp5⟩, hb⟩
      simp only at hp5 Hst Hbd Hln ⊢
      have al := (Below.refl w5.heap.size w5).alloc (Nat.le_refl _) (.cells #[.slice A5 n5 c5, .slice B5 m5 d5] 25)
      have hb2 := Below.chain hb al
      replace HX := hblk_below HX hb2
      replace HZ := hblk_below HZ hb2
      replace HB := Lib.hid (HB.out.trans (hb2.mono HB.out.size))
      have HY := Lib.hid (heap_alloc_new w5 (.cells #[.slice A5 n5 c5, .slice B5 m5 d5] 25))
      have HO5 := Lib.hid (PB.below (show PB w5 A5 n5 B5 m5 Pn from hp5) al)
      obtain ⟨u5, hu5⟩ : ∃ u, u = w5.alloc (.cells #[.slice A5 n5 c5, .slice B5 m5 d5] 25) := ⟨_, rfl⟩
      have Hu5 := Lib.hid hu5
      rw [← hu5] at HX HZ HB HY HO5
      clear hb al hb2 hu5 hp5 z0 z1 z2 z3
      go_upto_region 15 with fail
      rw [← Hu5.out]
      clear Hu5
      generalize hgy : w5.heap.size = gy at *
      clear hgy
      obtain ⟨z0, z1, z2, z3⟩ := two_cells HZ.out
      obtain ⟨y0, y1, _, _⟩ := two_cells HY.out
      obtain ⟨x0, x1, x2, x3⟩ := two_cells HX.out
      by_cases hen : en = 0
      case neg =>
        have f0 : (en != 0) = true := by simpa using hen
        have HDD := Lib.hid (show putP P 0 s (q : Nat) = (noPlat, false, en) by rw [HDo.out, Hbd.out hen, if_pos hen])
        clear hen
        go_wp2_with fail
        refine bodyPost_ret (res_cell_tmp2 rfl _ _ (w.heap.size + 1) (by rfl) _ (load_plat_new (two_set HX.out _ _))) rfl ?_
        rw [HDD.out]
        exact ⟨_, rfl, PlV.no _, two_by HB.out (by omega) _ _⟩
      subst hen
      obtain ⟨l1, l2⟩ := Hln.out rfl
      have f0 : ((0 : Int) != 0) = false := rfl
      have hst := Hst.out
      rw [if_neg (by simp)] at hst
      have Hst2 := Lib.hid hst
      have hge : w.heap.size ≤ gz := by omega
      clear hst Hst Hbd Hln
      go_wp2_with fail
      go_roundw
      case rel =>
        exact ⟨i + 1, Pn, A5, n5, c5, B5, m5, d5, by omega, by go_num, two_set HZ.out _ _, HO5.out.two HZ.out, Hst2.out, ((Below.heap_setCell _ ⟨gz, 1, none⟩ _ (w.heap.size + 1) (by simp; omega)).trans (Below.heap_setCell _ ⟨gz, 0, none⟩ _ (w.heap.size + 1) (by simp; omega))).trans HX.out, two_by HB.out hge _ _, l1, l2⟩
      case measure => simp [intOf]; omega
    · obtain rfl : i = q := by omega
      have e1 : decide ((i : Int) < (i : Int)) = false := by simp
      obtain ⟨x0, x1, x2, x3⟩ := two_cells HX.out
      have HDD := Lib.hid (show putP P 0 s (i : Nat) = (Pi, decide (i = 4), 0) by rw [HDo.out, Hrun.out, if_neg (by simp)])
      go_wp2_with fail
      refine bodyPost_ret (res_cell_tmp2 rfl _ _ (w.heap.size + 1) (by rfl) _ (load_plat_new (two_set HX.out _ _))) rfl ?_
      rw [HDD.out]
      exact ⟨_, rfl, ⟨_, _, _, _, _, _, rfl, HO.out.two HX.out⟩, two_by HB.out (by omega) _ _⟩
end

/- R26n -/
section
open Go.RowKit
set_option linter.unusedVariables false
set_option linter.unusedSimpArgs false
set_option maxRecDepth 100000
set_option maxHeartbeats 4000000

theorem write_len {i : Int} {s : ByteArray} {P : Plat} (h : (writeP i s P).2 = 0) : (writeP i s P).1.ss.length = P.ss.length ∧ (writeP i s P).1.cs.length ≤ 100 := by
  unfold writeP at h ⊢
  split at h
  · exact absurd h (by decide)
  rename_i h1
  rw [if_neg h1]
  split at h
  · exact absurd h (by decide)
  rename_i h2
  rw [if_neg h2]
  split at h
  · exact absurd h (by decide)
  rename_i h3
  rw [if_neg h3]
  split at h
  · exact absurd h (by decide)
  rename_i h4
  rw [if_neg h4]
  exact ⟨rfl, by simp; omega⟩
theorem sync_len {P : Plat} (h : (syncP P).2 = 0) : (syncP P).1.ss.length ≤ 1000 ∧ (syncP P).1.cs.length ≤ 100 := by
  unfold syncP settleP at h ⊢
  by_cases hc : checkB P = false
  · rw [if_pos hc] at h
    exact absurd h (by decide)
  · rw [if_neg hc]
    have hk := check_parts (P := P) (by simpa using hc)
    exact ⟨by rw [show (fallTo P (fun _ => 1) P.cs.length).length = P.ss.length from fallTo_len _ _ _]; omega, by simp⟩
theorem s4_from {u W : World} {p q r s : Addr} {a b x y : Value} (h0 : (u.cell? p = some a ∧ u.cell? q = some b) ∧ (u.cell? r = some x ∧ u.cell? s = some y)) (hb : Below u.heap.size u W) : ((W.cell? p = some a ∧ W.cell? q = some b) ∧ (W.cell? r = some x ∧ W.cell? s = some y)) ∧ Below u.heap.size u W :=
  ⟨⟨keep2_below h0.1 hb, keep2_below h0.2 hb⟩, hb⟩
theorem z4_below {u W : World} {p q r s : Addr} {a b x y : Value} (h0 : (u.cell? p = some a ∧ u.cell? q = some b) ∧ (u.cell? r = some x ∧ u.cell? s = some y)) (hb : Below u.heap.size u W) : (W.cell? p = some a ∧ W.cell? q = some b) ∧ (W.cell? r = some x ∧ W.cell? s = some y) :=
  ⟨keep2_below h0.1 hb, keep2_below h0.2 hb⟩
theorem z4_drew {u : World} {p q r s : Addr} {a b x y : Value} (h0 : (u.cell? p = some a ∧ u.cell? q = some b) ∧ (u.cell? r = some x ∧ u.cell? s = some y)) : (u.drew.cell? p = some a ∧ u.drew.cell? q = some b) ∧ (u.drew.cell? r = some x ∧ u.drew.cell? s = some y) :=
  z4_below h0 ((Below.refl _ _).drew)
theorem z4_two {u : World} {g k i1 i2 i3 i4 r : Nat} {a b x y : Value} (h0 : (u.cell? ⟨g, i1, none⟩ = some a ∧ u.cell? ⟨g, i2, none⟩ = some b) ∧ (u.cell? ⟨k, i3, none⟩ = some x ∧ u.cell? ⟨k, i4, none⟩ = some y)) (n1 : r ≠ g) (n2 : r ≠ k) (v1 v2 : Value) :
    (((u.setCell ⟨r, 0, none⟩ v1).setCell ⟨r, 1, none⟩ v2).cell? ⟨g, i1, none⟩ = some a ∧ ((u.setCell ⟨r, 0, none⟩ v1).setCell ⟨r, 1, none⟩ v2).cell? ⟨g, i2, none⟩ = some b) ∧ (((u.setCell ⟨r, 0, none⟩ v1).setCell ⟨r, 1, none⟩ v2).cell? ⟨k, i3, none⟩ = some x ∧ ((u.setCell ⟨r, 0, none⟩ v1).setCell ⟨r, 1, none⟩ v2).cell? ⟨k, i4, none⟩ = some y) :=
  ⟨keep2_set (keep2_set h0.1 (va_ne n1) (va_ne n1)) (va_ne n1) (va_ne n1), keep2_set (keep2_set h0.2 (va_ne n2) (va_ne n2)) (va_ne n2) (va_ne n2)⟩
theorem below_call {u W w5 : World} {p : Prop} (h : p ∧ Below u.heap.size u W) (hb : Below W.heap.size W w5) : Below u.heap.size u w5 := h.2.trans (hb.mono h.2.size)
/-- A new disk's box behind a call. -/
def NewD (u : World) (Q : Plat) (v : Value) (wc : World) : Prop := ∃ g A n c B m d, v = .pointer (some ⟨g, 0, none⟩) ∧ wc.heap[g]? = some (.cells #[.slice A n c, .slice B m d] 25 (0, 0)) ∧ PB wc A n B m Q ∧ u.heap.size ≤ g ∧ Below u.heap.size u wc
theorem newd_set {u W w5 : World} {g n5 c5 m5 d5 : Nat} {A5 B5 : Option Addr} {Q : Plat} (hz : W.heap[g]? = some (.cells zP 25 (0, 0))) (hg : u.heap.size ≤ g) (hbw : Below u.heap.size u W) (hb5 : Below W.heap.size W w5) (hP : PB w5 A5 n5 B5 m5 Q) :
    NewD u Q (.pointer (some ⟨g, 0, none⟩)) ((w5.setCell ⟨g, 0, none⟩ (.slice A5 n5 c5)).setCell ⟨g, 1, none⟩ (.slice B5 m5 d5)) := by
  have hz5 := cells_below hz hb5
  exact ⟨g, A5, n5, c5, B5, m5, d5, rfl, two_set hz5 _ _, hP.two hz5, hg, two_by (hbw.trans (hb5.mono hbw.size)) hg _ _⟩
theorem newd_a {u w5 : World} {n5 c5 m5 d5 : Nat} {A5 B5 : Option Addr} {Q : Plat} (hb5 : Below ((u.alloc (.cells zP 25)).drew).heap.size ((u.alloc (.cells zP 25)).drew) w5) (hP : PB w5 A5 n5 B5 m5 Q) :
    NewD u Q (.pointer (some ⟨u.heap.size, 0, none⟩)) ((w5.setCell ⟨u.heap.size, 0, none⟩ (.slice A5 n5 c5)).setCell ⟨u.heap.size, 1, none⟩ (.slice B5 m5 d5)) :=
  newd_set (W := (u.alloc (.cells zP 25)).drew) (heap_alloc_new u _) (Nat.le_refl _) (((Below.refl u.heap.size u).alloc (Nat.le_refl _) _).drew) hb5 hP
theorem newd_z {u w5 : World} (hb5 : Below ((u.alloc (.cells zP 25)).drew).heap.size ((u.alloc (.cells zP 25)).drew) w5) : w5.heap[u.heap.size]? = some (.cells zP 25 (0, 0)) :=
  cells_below (W := (u.alloc (.cells zP 25)).drew) (heap_alloc_new u _) hb5
theorem newd_b {u w5 : World} {n5 c5 m5 d5 : Nat} {A5 B5 : Option Addr} {Q : Plat} (hb : Below u.heap.size u w5) (hP : PB w5 A5 n5 B5 m5 Q) :
    NewD u Q (.pointer (some ⟨w5.heap.size, 0, none⟩)) (w5.alloc (.cells #[.slice A5 n5 c5, .slice B5 m5 d5] 25)) :=
  ⟨w5.heap.size, A5, n5, c5, B5, m5, d5, rfl, heap_alloc_new w5 _, hP.below ((Below.refl _ _).alloc (Nat.le_refl _) _), hb.size, hb.alloc hb.size _⟩
theorem newd_z2 {u W w5 : World} (hb : Below u.heap.size u W) (hb5 : Below ((W.alloc (.cells zP 25))).heap.size ((W.alloc (.cells zP 25))) w5) : w5.heap[W.heap.size]? = some (.cells zP 25 (0, 0)) :=
  cells_below (heap_alloc_new W _) hb5
/-- The box was made behind the first call. -/
theorem newd_c {u W w5 : World} {n5 c5 m5 d5 : Nat} {A5 B5 : Option Addr} {Q : Plat} (hb : Below u.heap.size u W) (hb5 : Below ((W.alloc (.cells zP 25))).heap.size ((W.alloc (.cells zP 25))) w5) (hP : PB w5 A5 n5 B5 m5 Q) :
    NewD u Q (.pointer (some ⟨W.heap.size, 0, none⟩)) ((w5.setCell ⟨W.heap.size, 0, none⟩ (.slice A5 n5 c5)).setCell ⟨W.heap.size, 1, none⟩ (.slice B5 m5 d5)) :=
  newd_set (W := W.alloc (.cells zP 25)) (heap_alloc_new W _) hb.size (hb.alloc hb.size _) hb5 hP
/-- The box was made ahead of both calls. -/
theorem newd_d {u w4 w5 : World} {n5 c5 m5 d5 : Nat} {A5 B5 : Option Addr} {Q : Plat} (hb4 : Below ((u.alloc (.cells zP 25)).drew).heap.size ((u.alloc (.cells zP 25)).drew) w4) (hb5 : Below w4.heap.size w4 w5) (hP : PB w5 A5 n5 B5 m5 Q) :
    NewD u Q (.pointer (some ⟨u.heap.size, 0, none⟩)) ((w5.setCell ⟨u.heap.size, 0, none⟩ (.slice A5 n5 c5)).setCell ⟨u.heap.size, 1, none⟩ (.slice B5 m5 d5)) :=
  newd_set (W := w4) (newd_z hb4) (Nat.le_refl _) (Below.chain (((Below.refl u.heap.size u).alloc (Nat.le_refl _) _).drew) hb4) hb5 hP
theorem newd_z3 {u w4 w5 : World} (hb4 : Below ((u.alloc (.cells zP 25)).drew).heap.size ((u.alloc (.cells zP 25)).drew) w4) (hb5 : Below w4.heap.size w4 w5) : w5.heap[u.heap.size]? = some (.cells zP 25 (0, 0)) := cells_below (newd_z hb4) hb5
/-- The cells of a disk's new box, handed on. -/
theorem newd_cps {W : World} {g : Nat} {p : Prop} (h : W.heap[g]? = some (.cells zP 25 (0, 0))) (k : W.cell? ⟨g, 0, none⟩ = some (.slice none 0 0) → W.cell? ⟨g, 1, none⟩ = some (.slice none 0 0) → W.frozen? ⟨g, 0, none⟩ = false → W.frozen? ⟨g, 1, none⟩ = false → p) : p := by
  obtain ⟨a, b, c, d⟩ := two_cells h
  exact k a b c d
end

end Go.Proofs.YtieekajjoikepaaGreatDoor
