/-
  Rows that a call makes itself, element behind element: append, and what the row reads as.
  Contracts of digest.Start and digest.Pad.
  Ranges over functions: what the iterators of this program keep.
  Contract of digest.blocks: a text, with what is behind it, in parts of 64 bytes.
  Contract of digest.Sum.
-/
import Derived.Test.YtieekajjoikepaaGreatDoorGen
import Derived.Test.YtieekajjoikepaaGreatDoorSh
import Derived.Deep.AppendLies
import Derived.OwnWalk
import Derived.RangeFuncNested
import Derived.RangeFuncBound
import Derived.RangeFuncCalls
import Derived.RangeFuncLeaves
import Derived.RangeFuncFrom
import Derived.Shelf.Abstract
import Derived.Shelf.RegionOpen
import Derived.WalkKit
import Derived.OwnWalkIn
import Derived.TacticsInMore
import Derived.LoopNIn
import Derived.LoopIn
namespace Go.Proofs.YtieekajjoikepaaGreatDoor
/- Own -/
open Go.RowKit
set_option linter.unusedVariables false

/- Pad -/
open Go.RowKit
set_option linter.unusedVariables false

def startL : List Int := [1779033703, 3144134277, 1013904242, 2773480762, 1359893119, 2600822924, 528734635, 1541459225]
theorem start_words : Words8 startL := by
  refine ⟨rfl, ?_⟩
  have h : startL.all (fun x => decide (0 ≤ x) && decide (x ≤ 4294967295)) = true := by decide +kernel
  intro x hx
  have := List.all_eq_true.1 h x hx
  simpa [Wd] using this
theorem start_any (w : World) : Calls Tryz.prog 130 #[] w fun e w' => e = .returned (.agg (ints startL).toArray) ∧ Below w.heap.size w w' := by
  go_enter Tryz.func130, Tryz.ntmps130
  go_wp2_with fail
  refine bodyPost_ret (v := .agg (ints startL).toArray) (by simp [results, Tryz.results130, go_sem, ints, startL]) rfl ⟨rfl, (Below.refl _ _).alloc (Nat.le_refl _) _⟩

/-- A number's eight bytes, the highest first. -/
def be8 (n : Nat) (k : Nat) : List UInt8 := (List.range k).map fun i => UInt8.ofNat (n >>> (56 - 8 * i))
/-- How many bytes 0 stand behind the first one. -/
def padZ (n : Nat) : Nat := (119 - n % 64) % 64
/-- What stands behind a text of n bytes. -/
def padL (n : Nat) : List UInt8 := 128 :: List.replicate (padZ n) 0 ++ be8 (8 * n) 8
theorem padL_len (n : Nat) : (padL n).length = 9 + padZ n := by simp [padL, be8]; omega

theorem u8_of (x : Int) (y : Nat) (h : x = y) : IntKind.u8.wrap x = ((UInt8.ofNat y).toNat : Int) := by
  subst h
  rw [IntKind.wrap_u8]
  simp

theorem byte_shr (m s : Nat) : ((m : Nat) : Int) / 2 ^ s % 256 = ((UInt8.ofNat (m >>> s)).toNat : Int) := by
  simp [Nat.shiftRight_eq_div_pow]
theorem shr_i64 (x s : Nat) (hx : x ≤ 9223372036854775807) (hs : s ≤ 63) : (x : Int) / 2 ^ min s 64 = ((x >>> s : Nat) : Int) := by
  rw [Nat.min_eq_left (by omega), Nat.shiftRight_eq_div_pow]
  simp

set_option maxHeartbeats 1000000 in
set_option maxRecDepth 100000 in
theorem pad_any (n : Nat) (w : World) (hn : n ≤ 1000000000) :
    Calls Tryz.prog 129 #[.int .i64 (n : Int)] w fun e w' => e = .returned (.tuple #[.string (bs (padL n)), .bool true]) ∧ Below w.heap.size w w' := by
  have hz : padZ n ≤ 63 := by unfold padZ; omega
  go_enter Tryz.func129, Tryz.ntmps129
  go_wp2_with fail
  go_loopw [4] (fun v wr => ∃ (k g cap : Nat), 1 ≤ k ∧ k ≤ 1 + padZ n ∧ v = .slice (some ⟨g, 0, none⟩) k cap ∧ wr.ownsRow w.heap.size 5 1 v k (bytesV (128 :: List.replicate (k - 1) 0)) ∧ Below w.heap.size w wr) (fun v _ => 100 - lenOf v)
  case atStart => exact ⟨1, w.heap.size, 1, by omega, by omega, rfl, own_new (Nat.le_refl _) rfl (by unfold maxLen; omega), (Below.refl _ _).alloc (Nat.le_refl _) _⟩
  case round =>
    obtain ⟨k, g, cap, hk1, hk2, rfl, ho, hb⟩ := hrel
    have HO := Lib.hid ho
    clear ho
    by_cases hlt : k < 1 + padZ n
    · have hne : (((n : Int) + (k : Int) + 8) % 64 != 0) = true := by
        rw [bne_iff_ne]; unfold padZ at hlt; omega
      go_wp2_with (refine wpList_append_new (by rfl) (.tmp 20) (.tmp 21) 72 (by rfl) w.heap.size 5 (.int .u8 0) 1 1 Tryz.underlying72 uint8_info rfl (by omega) wr _ _ _ _ _ (by rfl) HO.out _ 1 1 (by rfl) (by rfl) (by rfl) (by rfl) (by omega) (by omega) (by omega) (by exact hb.size) ?_)
      intro g2 cap2 w2 ho2 hb2 _ _ _
      have HO2 := Lib.hid ho2
      clear ho2
      go_wp2_with fail
      go_roundw
      case rel =>
        refine ⟨k + 1, g2, cap2, by omega, by omega, rfl, ?_, hb.trans hb2⟩
        have := HO2.out
        rw [show bytesV (128 :: List.replicate (k - 1) 0) ++ [Value.int .u8 0] = bytesV (128 :: List.replicate (k + 1 - 1) 0) by
          rw [show k + 1 - 1 = (k - 1) + 1 by omega, List.replicate_succ']
          simp [bytesV]] at this
        exact this
      case measure => simp [lenOf]; omega
    · obtain rfl : k = 1 + padZ n := by omega
      have hne : (((n : Int) + ((1 + padZ n : Nat) : Int) + 8) % 64 != 0) = false := by
        rw [bne_eq_false_iff_eq]; unfold padZ; omega
      obtain ⟨k, hk⟩ : ∃ k, k = 1 + padZ n := ⟨_, rfl⟩
      rw [← hk] at hne HO ⊢
      have Hk := Lib.hid hk
      have hk64 : k ≤ 64 := by omega
      clear hk hk1 hk2 hlt
      go_wp2_with fail
      obtain ⟨wo, hwo⟩ : ∃ wo : World, wo = wr := ⟨_, rfl⟩
      rw [← hwo] at HO hb ⊢
      clear hwo
      go_loopw [4, 23] (fun v i wr => ∃ (j g cap : Nat), j ≤ 8 ∧ i = .int .i64 j ∧ v = .slice (some ⟨g, 0, none⟩) (k + j) cap ∧ wr.ownsRow w.heap.size 5 1 v (k + j) (bytesV (128 :: List.replicate (k - 1) 0 ++ be8 (8 * n) j)) ∧ Below w.heap.size w wr) (fun _ i _ => 8 - (intOf i).toNat)
      case atStart => exact ⟨0, g, cap, by omega, rfl, rfl, by simpa [be8] using HO.out, hb⟩
      case round =>
        obtain ⟨j, g, cap, hj, rfl, rfl, ho, hb⟩ := hrel
        clear HO
        have HO := Lib.hid ho
        clear ho
        by_cases hlt : j < 8
        · go_wp2_with (refine wpList_append_new (by rfl) (.tmp 26) (.tmp 34) 72 (by rfl) w.heap.size 5 (.int .u8 0) 1 1 Tryz.underlying72 uint8_info rfl (by omega) wr _ _ _ _ _ (by rfl) HO.out _ 1 1 (by rfl) (by rfl) (by rfl) (by rfl) (by omega) (by omega) (by omega) (by exact hb.size) ?_)
          intro g2 cap2 w2 ho2 hb2 _ _ _
          have HO2 := Lib.hid ho2
          clear ho2
          go_wp2_with fail
          go_roundw
          case rel =>
            refine ⟨j + 1, g2, cap2, by omega, by go_num, by rw [Nat.add_assoc], ?_, hb.trans hb2⟩
            have := HO2.out
            rw [show bytesV (128 :: List.replicate (k - 1) 0 ++ be8 (8 * n) (j + 1)) = bytesV (128 :: List.replicate (k - 1) 0 ++ be8 (8 * n) j) ++ [Value.int .u8 ((UInt8.ofNat ((8 * n) >>> (56 - 8 * j))).toNat : Int)] by
              rw [be8, List.range_succ, List.map_append, ← be8]
              simp [bytesV]]
            rw [show k + (j + 1) = k + j + 1 by omega]
            rw [← byte_shr]
            exact this
          case measure => simp [intOf]; omega
        · obtain rfl : j = 8 := by omega
          have hcv := conv_rd (own_rd HO.out) cap (k + 8) (by have := Hk.out; simp [be8]; omega)
          go_wp2_with fail
          go_ret2
          refine ⟨?_, hb⟩
          rw [padL, show padZ n = k - 1 by have := Hk.out; omega]
          rfl

/- Iter -/
open Go.RowKit Go.Shelf
set_option linter.unusedVariables false

/-- The blocks b of memory are as they were. -/
def KeepB (bs : List Nat) (W W' : World) : Prop := ∀ b ∈ bs, W'.heap[b]? = W.heap[b]?
theorem keepB_t {bs : List Nat} {A B C : World} (h : KeepB bs A B) (k : KeepB bs B C) : KeepB bs A C := fun b hb => (k b hb).trans (h b hb)
theorem keepB_b {bs : List Nat} {w : World} (hn : ∀ b ∈ bs, b < w.heap.size) (W : World) (l : Nat) (o o' : Obj) (hl : w.heap.size ≤ l) (_ : W.heap[l]? = some o) (_ : o.isCells = false) (_ : o.isWalk = false) : KeepB bs W (W.putObj l o') := fun b hb => by
  have hne : l ≠ b := by have := hn b hb; omega
  simp [World.putObj, hne]
theorem keepB_below {bs : List Nat} {W W' : World} (hn : ∀ b ∈ bs, b < W.heap.size) (h : Below W.heap.size W W') : KeepB bs W W' := fun b hb => h.block b (hn b hb)
theorem keepB_gb {bs : List Nat} {W W' : World} {g : Nat} (hn : ∀ b ∈ bs, b < W.heap.size) (hg : ∀ b ∈ bs, b ≠ g) (h : W.grownBy W' (some g)) : KeepB bs W W' := fun b hb => h.block b (hn b hb) (fun e => hg b hb (Option.some.inj e))
theorem gb_of_below {W W' : World} (h : Below W.heap.size W W') (r : Option Nat) : W.grownBy W' r := ⟨h.os, h.tape, h.output, h.size, fun i hi _ => h.block i hi⟩
theorem gb_trans {A B C : World} {g : Nat} (h : A.grownBy B (some g)) (k : B.grownBy C (some g)) : A.grownBy C (some g) :=
  ⟨k.os.trans h.os, k.tape.trans h.tape, k.output.trans h.output, Nat.le_trans h.size k.size, fun i hi hne => (k.block i (Nat.lt_of_lt_of_le hi h.size) hne).trans (h.block i hi hne)⟩

/- Blocks -/
open Go.RowKit Go.Shelf
set_option linter.unusedVariables false
attribute [local go_sem] Oper.semAt_some

/-- A part: 64 bytes. -/
abbrev Blk := { b : ByteArray // b.size = 64 }
def blkOf (l : List UInt8) (i : Nat) : Blk :=
  if h : ((l.drop (64 * i)).take 64).length = 64 then ⟨bs ((l.drop (64 * i)).take 64), h⟩ else ⟨bs (List.replicate 64 0), rfl⟩
theorem blkOf_eq {l : List UInt8} {i : Nat} (h : 64 * i + 64 ≤ l.length) : (blkOf l i).1 = bs ((l.drop (64 * i)).take 64) := by
  have : ((l.drop (64 * i)).take 64).length = 64 := by simp; omega
  simp only [blkOf, this, dif_pos]
def blksTo (l : List UInt8) (k : Nat) : List Blk := (List.range k).map (blkOf l)
theorem blksTo_succ (l : List UInt8) (k : Nat) : blksTo l (k + 1) = blksTo l k ++ [blkOf l k] := by simp [blksTo, List.range_succ]
theorem blksTo_len (l : List UInt8) (k : Nat) : (blksTo l k).length = k := by simp [blksTo]

set_option maxRecDepth 100000 in
set_option maxHeartbeats 1000000 in
theorem blocks1_in (F : Fence) (n : Nat) (hf : F.fn 152) (hro : F.round = none) (hn : 1 ≤ n) (l Bs Bb N : Nat) (s t : ByteArray) (hs : s.size ≤ 1000000000) (hN : s.size + t.size = 64 * N) (ht : t.size ≤ 1000) (J Jx : List Blk → World → Prop)
    (hY : ∀ pre x W, J pre W → pre.length < N → YieldAt F (n - 1) Tryz.prog l #[.string x.1] W fun e W' =>
      (e = .returned (.bool true) ∧ J (pre ++ [x]) W' ∧ KeepB [Bb] W W') ∨ (e = .returned (.bool false) ∧ Jx (pre ++ [x]) W'))
    (W : World) (hBs : W.cell? ⟨Bs, 0, none⟩ = some (.string s)) (hBb : W.cell? ⟨Bb, 0, none⟩ = some (.string t)) (h0 : J [] W) :
    CallsIn F n Tryz.prog 152 #[.func (.yield l) #[] #[], .pointer (some ⟨Bs, 0, none⟩), .pointer (some ⟨Bb, 0, none⟩)] W fun e W' => (∃ v, e = .returned v) ∧
      ((∃ ys, ys = blksTo (s.data.toList ++ t.data.toList) N ∧ J ys W') ∨ (∃ pre, True ∧ Jx pre W')) := by
  have HY := Lib.hid hY
  have HN := Lib.hid hN
  obtain ⟨L, hL⟩ : ∃ L, L = s.data.toList ++ t.data.toList := ⟨_, rfl⟩
  have HL := Lib.hid hL
  have hLl : L.length = 64 * N := by rw [hL, List.length_append, len_data, len_data]; exact hN
  have HLl := Lib.hid hLl
  clear hL hLl hY hN
  refine callsIn_of_wp Tryz.func152 rfl hf ?_ hro
  simp only [Tryz.ntmps152, List.size_toArray, List.length_cons, List.length_nil, Nat.reduceAdd, Nat.reduceSub, Array.replicate_succ, Array.replicate_zero, List.push_toArray, List.append_toArray, List.nil_append, List.cons_append]
  gi_wp2
  gi_loopw [4] (fun v wr => ∃ (k : Nat) (r : ByteArray), 64 * k ≤ s.size ∧ v = .string r ∧ r.data.toList = s.data.toList.drop (64 * k) ∧ wr.cell? ⟨Bb, 0, none⟩ = some (.string t) ∧ J (blksTo L k) wr) (fun v _ => sizeOfText v)
  case atStart => exact ⟨0, s, by omega, rfl, rfl, hBb, h0⟩
  case round =>
    obtain ⟨k, r, hk, rfl, hr, hcb, hJ⟩ := hrel
    have hrs : r.size = s.size - 64 * k := by rw [← len_data, hr, List.length_drop, len_data]
    by_cases hlt : 64 ≤ r.size
    · have hx : (blkOf L k).1 = r.extract 0 64 := by
        rw [blkOf_eq (by rw [HLl.out, ← HN.out]; omega), extract_bs, HL.out, hr, List.drop_append_of_le_length (by rw [len_data]; omega), List.take_append_of_le_length (by rw [List.length_drop, len_data]; omega), List.drop_zero]
      obtain ⟨fn, tmps, assign, body, hy, hR⟩ := HY.out _ (blkOf L k) wr hJ (by rw [blksTo_len]; have := HN.out; omega)
      rw [hx] at hy
      have Hr := Lib.hid hr
      have Hrs := Lib.hid hrs
      have HR := Lib.hid hR
      clear hr hrs hR hx
      gi_wp2
      refine HR.out.mono ?_
      rintro e W3 (⟨rfl, hJ3, hk3⟩ | ⟨rfl, hJx3⟩)
      · have hcb3 : W3.cell? ⟨Bb, 0, none⟩ = some (.string t) := (World.cell?_of_block (hk3 Bb (by simp))).trans hcb
        gi_wp2
        go_roundw
        case rel =>
          refine ⟨k + 1, _, by have := Hrs.out; omega, rfl, ?_, hcb3, by rw [blksTo_succ]; exact hJ3⟩
          rw [extract_bs, bs_data, List.take_of_length_le (Nat.le_of_eq (len_data r)), Hr.out, List.drop_drop, Nat.mul_succ]
        case measure => simp [sizeOfText]; omega
      · gi_wp2
        refine bodyPost_ret (results_none rfl _ _ _) rfl ?_
        exact ⟨⟨_, rfl⟩, .inr ⟨_, trivial, hJx3⟩⟩
    · have Hr := Lib.hid hr
      have Hrs := Lib.hid hrs
      clear hr hrs
      gi_wp2
      have hk2 : 64 * k ≤ s.size := hk
      gi_loopw [4] (fun v wr => ∃ (k : Nat) (r : ByteArray), k ≤ N ∧ v = .string r ∧ r.data.toList = L.drop (64 * k) ∧ J (blksTo L k) wr) (fun v _ => sizeOfText v)
      case atStart =>
        refine ⟨k, _, by have := HN.out; omega, rfl, ?_, hJ⟩
        rw [HL.out, List.drop_append_of_le_length (by rw [len_data]; omega), ← Hr.out]
        simp
      case round =>
        obtain ⟨k, r, hk, rfl, hr, hJ⟩ := hrel
        clear Hr Hrs
        have hrs : r.size = 64 * N - 64 * k := by rw [← len_data, hr, List.length_drop, HLl.out]
        by_cases hlt : k < N
        · have hx : (blkOf L k).1 = r.extract 0 64 := by
            rw [blkOf_eq (by rw [HLl.out]; omega), extract_bs, hr, List.drop_zero]
          obtain ⟨fn, tmps, assign, body, hy, hR⟩ := HY.out _ (blkOf L k) wr hJ (by rw [blksTo_len]; exact hlt)
          rw [hx] at hy
          have h64 : 64 ≤ r.size := by omega
          have hne : ¬ r.toList = [] := by rw [toList_nil]; omega
          have hne2 : r.toList.isEmpty = false := toList_some r (by omega)
          have Hr := Lib.hid hr
          have Hrs := Lib.hid hrs
          have HR := Lib.hid hR
          clear hr hrs hR hx
          gi_wp2
          refine HR.out.mono ?_
          rintro e W3 (⟨rfl, hJ3, hk3⟩ | ⟨rfl, hJx3⟩)
          · gi_wp2
            go_roundw
            case rel =>
              refine ⟨k + 1, _, by omega, rfl, ?_, by rw [blksTo_succ]; exact hJ3⟩
              rw [extract_bs, bs_data, List.take_of_length_le (Nat.le_of_eq (len_data r)), Hr.out, List.drop_drop, Nat.mul_succ]
            case measure => simp [sizeOfText]; omega
          · gi_wp2
            refine bodyPost_ret (results_none rfl _ _ _) rfl ?_
            exact ⟨⟨_, rfl⟩, .inr ⟨_, trivial, hJx3⟩⟩
        · obtain rfl : k = N := by omega
          have hne : r.toList = [] := by rw [toList_nil]; omega
          clear hr hrs
          gi_wp2
          go_end0
          exact ⟨⟨_, rfl⟩, .inl ⟨_, by rw [← HL.out], hJ⟩⟩

theorem blocks_in (F : Fence) (n : Nat) (hf : F.fn 131) (hro : F.round = none) (s t : ByteArray) (w : World) :
    CallsIn F n Tryz.prog 131 #[.string s, .string t] w fun e w' => e = .returned (.func (.func 152) #[] #[.pointer (some ⟨w.heap.size, 0, none⟩), .pointer (some ⟨w.heap.size + 1, 0, none⟩)]) ∧ w' = (w.alloc (.cells #[.string s] 9)).alloc (.cells #[.string t] 9) := by
  refine callsIn_of_wp Tryz.func131 rfl hf ?_ hro
  simp only [Tryz.ntmps131, List.size_toArray, List.length_cons, List.length_nil, Nat.reduceAdd, Nat.reduceSub, Array.replicate_succ, Array.replicate_zero, List.push_toArray, List.append_toArray, List.nil_append, List.cons_append]
  gi_wp2
  go_ret
  exact ⟨rfl, rfl⟩

/- Sum -/
open Go.RowKit Go.Shelf
set_option linter.unusedVariables false
attribute [local go_sem] Oper.semAt_some

def stepsL (pre : List Blk) : List Int := pre.foldl (fun st b => stepL st b.1.data.toList) startL
theorem stepsL_snoc (pre : List Blk) (x : Blk) : stepsL (pre ++ [x]) = stepL (stepsL pre) x.1.data.toList := by simp [stepsL]
theorem steps_words : ∀ (pre : List Blk) {st : List Int}, Words8 st → Words8 (pre.foldl (fun st b => stepL st b.1.data.toList) st)
  | [], _, h => h
  | x :: pre, st, h => steps_words pre (stepL_words h _)
theorem stepsL_words (pre : List Blk) : Words8 (stepsL pre) := steps_words pre start_words
/-- The state behind k parts. -/
def stTo (l : List UInt8) : Nat → List Int
  | 0 => startL
  | k + 1 => stepL (stTo l k) ((l.drop (64 * k)).take 64)
theorem stepsL_to (l : List UInt8) : ∀ k, 64 * k ≤ l.length → stepsL (blksTo l k) = stTo l k
  | 0, _ => rfl
  | k + 1, h => by
    rw [blksTo_succ, stepsL_snoc, stepsL_to l k (by omega), blkOf_eq (by omega), stTo]
    rfl
/-- The digest of bytes. -/
def sumL (s : List UInt8) : List UInt8 := joinL (stTo (s ++ padL s.length) ((s.length + (padL s.length).length) / 64)) true
theorem pad_64 (n : Nat) : ∃ N, n + (padL n).length = 64 * N := by
  rw [padL_len]
  exact ⟨(n + (9 + padZ n)) / 64, by unfold padZ; omega⟩

theorem own_block (b : Nat) (t : TypeId) (f : List Blk → Array Value) : Own (fun pre W => W.heap[b]? = some (.cells (f pre) t (0, 0))) := fun s A B row hs hg hr => by
  refine (hg.block b (cell_lt_of hs) (fun e => ?_)).trans hs
  obtain ⟨o, ho, hc⟩ := hr b e.symm
  rw [hs] at ho
  obtain rfl := Option.some.inj ho
  cases hc

set_option maxRecDepth 100000 in
set_option maxHeartbeats 1000000 in
theorem sum_any (s : ByteArray) (w : World) (hR : Rounds w) (hs : s.size ≤ 1000000000) :
    Calls Tryz.prog 115 #[.string s] w fun e w' => e = .returned (.string (bs (sumL s.data.toList))) ∧ Below w.heap.size w w' := by
  have HR := Lib.hid hR
  obtain ⟨N, hN⟩ := pad_64 s.size
  have HN := Lib.hid hN
  clear hR hN
  refine (callsIn_wide (n := 3)).1 ?_
  refine callsIn_of_wp_marks Tryz.func115 rfl trivial ?_ rfl
  simp only [Tryz.ntmps115, List.size_toArray, List.length_cons, List.length_nil, Nat.reduceAdd, Nat.reduceSub, Array.replicate_succ, Array.replicate_zero, List.push_toArray, List.append_toArray, List.nil_append, List.cons_append]
  gi_wp2_with (first
    | (refine ⟨trivial, ?_⟩; gi_at_call 129; refine (callsIn_wide.2 (pad_any s.size _ hs)).mono ?_; rintro e w1 ⟨rfl, hw1⟩)
    | (refine ⟨trivial, ?_⟩; gi_at_call 130; refine (callsIn_wide.2 (start_any _)).mono ?_; rintro e w2 ⟨rfl, hw2⟩; rw [show (ints startL).toArray = #[.int .i64 1779033703, .int .i64 3144134277, .int .i64 1013904242, .int .i64 2773480762, .int .i64 1359893119, .int .i64 2600822924, .int .i64 528734635, .int .i64 1541459225] from rfl])
    | (refine ⟨trivial, ?_⟩; gi_at_call 131; refine (blocks_in Fence.wide _ trivial rfl _ _ _).mono ?_; rintro e w3 ⟨rfl, rfl⟩))
  have HW2 := Lib.hid (Below.chain hw1 hw2)
  clear hw1 hw2
  obtain ⟨t, ht⟩ : ∃ t, t = bs (padL s.size) := ⟨_, rfl⟩
  rw [← ht]
  have hts : s.size + t.size = 64 * N := by rw [ht, bs_size]; exact HN.out
  have htl : t.size ≤ 1000 := by rw [ht, bs_size, padL_len]; unfold padZ; omega
  have Ht := Lib.hid ht
  obtain ⟨B5, hB5⟩ : ∃ B, B = w2.heap.size := ⟨_, rfl⟩
  have h5 := heap_alloc_new w2 (.cells (ints startL).toArray 155)
  have hs5 := heap_alloc_new (w2.alloc (.cells (ints startL).toArray 155)) (.cells #[.string s] 9)
  have hb5 := heap_alloc_new ((w2.alloc (.cells (ints startL).toArray 155)).alloc (.cells #[.string s] 9)) (.cells #[.string t] 9)
  simp only [World.size_alloc] at hs5 hb5
  rw [← hB5] at h5 hs5 hb5
  have hW3 : Below w.heap.size w (((w2.alloc (.cells (ints startL).toArray 155)).alloc (.cells #[.string s] 9)).alloc (.cells #[.string t] 9)) := ((HW2.out.alloc HW2.out.size _).alloc (by have := HW2.out.size; simp; omega) _).alloc (by have := HW2.out.size; simp; omega) _
  have h5' := (Below.heap_alloc ((w2.alloc (.cells (ints startL).toArray 155)).alloc (.cells #[.string s] 9)) (.cells #[.string t] 9) B5 (by simp; omega)).trans ((Below.heap_alloc (w2.alloc (.cells (ints startL).toArray 155)) (.cells #[.string s] 9) B5 (by simp; omega)).trans h5)
  have hs5' := (Below.heap_alloc ((w2.alloc (.cells (ints startL).toArray 155)).alloc (.cells #[.string s] 9)) (.cells #[.string t] 9) (B5 + 1) (by simp; omega)).trans hs5
  have hsz : (((w2.alloc (.cells (ints startL).toArray 155)).alloc (.cells #[.string s] 9)).alloc (.cells #[.string t] 9)).heap.size = B5 + 1 + 1 + 1 := by simp [hB5]
  have hle5 : w.heap.size ≤ B5 := by rw [hB5]; exact HW2.out.size
  change Code.wpIn _ _ _ _ _ _ (((w2.alloc (.cells (ints startL).toArray 155)).alloc (.cells #[.string s] 9)).alloc (.cells #[.string t] 9))
  simp only [← hB5]
  generalize ((w2.alloc (.cells (ints startL).toArray 155)).alloc (.cells #[.string s] 9)).alloc (.cells #[.string t] 9) = w3 at hW3 h5' hs5' hb5 hsz ⊢
  clear h5 hs5 ht hB5
  have Hsz := Lib.hid hsz
  refine wpIn_rangeFunc_ownF rfl (by omega) (gf := 152) (lb := #[.pointer (some ⟨B5 + 1, 0, none⟩), .pointer (some ⟨B5 + 1 + 1, 0, none⟩)]) rfl trivial (enters_of Tryz.func152 (by kernel_rfl) rfl)
    (encs := fun x : Blk => #[.string x.1]) (Kp := KeepB [B5 + 1 + 1]) (S := fun ys => ys = blksTo (s.data.toList ++ t.data.toList) N) (Sp := fun _ => True) (N := N) (w0 := w3)
    (fun l J Jx W hW _ _ hY h0 => blocks1_in Fence.wide 2 trivial rfl (by omega) l (B5 + 1) (B5 + 1 + 1) N s t hs hts htl J Jx hY W (cell_of_one (cells_below hs5' hW)) (cell_of_one (cells_below hb5 hW)) h0)
    keepB_t (keepB_b (by simp [hsz])) (Below.refl _ _) (fun _ => rfl)
    (fun pre W => W.heap[B5]? = some (.cells (ints (stepsL pre)).toArray 155 (0, 0)) ∧ Below w.heap.size w W ∧ B5 + 1 + 1 < W.heap.size)
    (fun _ _ _ => False)
    (OwnFrom.and (Own.from (own_block _ _ _) _) (OwnFrom.and (ownFrom_below (Nat.le_refl _) (by omega)) (fun _ _ _ _ hs hg _ => Nat.lt_of_lt_of_le hs hg.size)))
    (fun _ _ _ _ _ hs _ _ => hs)
    ⟨h5', hW3, by omega⟩ ?a1 ?assign ?body ?done ?stop
  case assign =>
    intro l x W K hK
    gi_wp2
    exact hK
  case body =>
    rintro l pre x W ⟨h5, hB, hWs⟩ hlen
    have Hsn := Lib.hid (stepsL_snoc pre x)
    obtain ⟨y0, y1, y2, y3, y4, y5, y6, y7, hy, _⟩ := words8_open (stepL_words (stepsL_words pre) x.1.data.toList)
    have Hy := Lib.hid hy
    have hws := stepsL_words pre
    have Hws := Lib.hid hws
    obtain ⟨x0, x1, x2, x3, x4, x5, x6, x7, hx, _⟩ := words8_open hws
    rw [hx] at h5
    have Hx := Lib.hid hx
    obtain ⟨⟨c0, c1, c2, c3, c4, c5, c6, c7⟩, f0, f1, f2, f3, f4, f5, f6, f7⟩ := eight_cells h5
    have H5 := Lib.hid h5
    clear h5 hy hx hws
    have hd : 1 ≤ 3 - 1 - 1 := by omega
    gi_wp2_with (refine ⟨trivial, ?_⟩; gi_at_call 132; refine (CallsIn.inRound l (callsIn_wide.2 (by have := step_any (stepsL pre) x.1 W (HR.out.below hB) Hws.out x.2; rw [Hx.out] at this; exact this))).mono ?_; rintro e w' ⟨rfl, hb⟩; have H5' := hblk_below H5 hb; clear c0 c1 c2 c3 c4 c5 c6 c7 f0 f1 f2 f3 f4 f5 f6 f7; obtain ⟨⟨c0, c1, c2, c3, c4, c5, c6, c7⟩, f0, f1, f2, f3, f4, f5, f6, f7⟩ := eight_cells H5'.out; rw [show (ints (stepL [x0, x1, x2, x3, x4, x5, x6, x7] x.1.data.toList)).toArray = #[.int .i64 y0, .int .i64 y1, .int .i64 y2, .int .i64 y3, .int .i64 y4, .int .i64 y5, .int .i64 y6, .int .i64 y7] by rw [← Hx.out, Hy.out]; rfl])
    rename_i w'
    have hG := gb_trans (gb_of_below hb (some B5)) (set8_by w' B5 y0 y1 y2 y3 y4 y5 y6 y7)
    have h8 := set8_at (xs := [x0, x1, x2, x3, x4, x5, x6, x7]) rfl H5'.out y0 y1 y2 y3 y4 y5 y6 y7
    have hGs := hG.size
    refine ⟨KeepsOthers.of_grownBy hG (fun j o e ho => ?_), keepB_gb ?_ ?_ hG, ?_, ?_, Nat.lt_of_lt_of_le hWs hGs⟩
    · obtain rfl := Option.some.inj e
      rw [H5.out] at ho
      obtain rfl := Option.some.inj ho
      rfl
    · simp; omega
    · simp; omega
    · rw [Hsn.out, Hy.out]; exact h8
    · exact hB.trans (grownBy_below' hG hle5 hB.size)
  case done =>
    rintro D ys W hD rfl ⟨h5, hB, _⟩ hK
    have hN2 := HN.out
    have Hto := Lib.hid (stepsL_to (s.data.toList ++ t.data.toList) N (by rw [List.length_append, len_data, len_data]; omega))
    have Hws := Lib.hid (stepsL_words (blksTo (s.data.toList ++ t.data.toList) N))
    generalize stepsL (blksTo (s.data.toList ++ t.data.toList) N) = st at h5 Hto Hws
    have HRd : Hid (Rd W (some ⟨B5, 0, none⟩) (ints st)) := Lib.hid (by
      intro j u hu
      have hj : j < st.length := by
        rcases Nat.lt_or_ge j st.length with h | h
        · exact h
        · simp [ints, h] at hu
      refine ⟨B5, 0, rfl, ?_⟩
      rw [Nat.zero_add, (ints_cell h5 hj).1]
      simpa [ints, hj] using hu)
    have HK := Lib.hid hK
    clear h5 hK
    gi_wp2_with (refine ⟨trivial, ?_⟩; gi_at_call 40; refine (callsIn_wide.2 (join_true _ _ _ st _ HRd.out Hws.out.1.symm (by rw [Hws.out.1]; decide) (all_wd Hws.out.2))).mono ?_; rintro e w' ⟨rfl, hb⟩)
    have hK' := cells_below HK.out hb
    refine ⟨by simp, .inl ⟨_, _, rfl, run_takeDeferred hK', ?_⟩⟩
    refine ⟨_, results_tmp rfl _ _ _, ?_, (Below.chain hB hb).trans (belowK_b (w := w) (Nat.le_refl _) _ D _ _ (by omega) hK' rfl rfl)⟩
    rw [Hto.out, sumL]
    show Ending.returned (.string (bs (joinL (stTo (s.data.toList ++ t.data.toList) N) true))) = _
    have e1 : padL s.data.toList.length = t.data.toList := by rw [Ht.out]; rfl
    have e2 : (s.data.toList.length + t.data.toList.length) / 64 = N := by rw [len_data, len_data]; omega
    rw [e1, e2]
  case stop =>
    rintro D c pre W _ _ h _
    exact h.elim
theorem joinL_len (xs : List Int) (high : Bool) : (joinL xs high).length = 4 * xs.length := joinL_length xs high
theorem sumL_len (s : List UInt8) : (sumL s).length = 32 := by
  rw [sumL, joinL_length]
  have : ∀ l k, (stTo l k).length = 8 := fun l k => by
    cases k with
    | zero => rfl
    | succ k => exact addsTo_len _ _ _
  rw [this]

end Go.Proofs.YtieekajjoikepaaGreatDoor
