/-
  Contract of digest.blocks: a text, with what is behind it, in parts of 64 bytes.
-/
import Derived.Test.YtkeeejkijbaooaaDoorIter
import Derived.Test.YtkeeejkijbaooaaDoorPad
namespace Go.Proofs.YtkeeejkijbaooaaDoor
open Go.RowKit Go.Shelf
set_option linter.unusedVariables false
attribute [local go_sem] Oper.semAt_some

/-- A part: 64 bytes. -/
abbrev Blk := { b : ByteArray // b.size = 64 }
def blkOf (l : List UInt8) (i : Nat) : Blk :=
  if h : ((l.drop (64 * i)).take 64).length = 64 then ⟨bs ((l.drop (64 * i)).take 64), h⟩ else ⟨bs (List.replicate 64 0), rfl⟩
theorem blkOf_eq {l : List UInt8} {i : Nat} (h : 64 * i + 64 ≤ l.length) : (blkOf l i).1 = bs ((l.drop (64 * i)).take 64) := by
  have : ((l.drop (64 * i)).take 64).length = 64 := by simp; omega
  simp only [blkOf, this, dif_pos]
def blksTo (l : List UInt8) (k : Nat) : List Blk := (List.range k).map (blkOf l)
theorem blksTo_succ (l : List UInt8) (k : Nat) : blksTo l (k + 1) = blksTo l k ++ [blkOf l k] := by simp [blksTo, List.range_succ]
theorem blksTo_len (l : List UInt8) (k : Nat) : (blksTo l k).length = k := by simp [blksTo]

set_option maxRecDepth 100000 in
set_option maxHeartbeats 1000000 in
theorem blocks1_in (F : Fence) (n : Nat) (hf : F.fn 67) (hro : F.round = none) (hn : 1 ≤ n) (l Bs Bb N : Nat) (s t : ByteArray) (hs : s.size ≤ 1000000000) (hN : s.size + t.size = 64 * N) (ht : t.size ≤ 1000) (J Jx : List Blk → World → Prop)
    (hY : ∀ pre x W, J pre W → pre.length < N → YieldAt F (n - 1) Tryd.prog l #[.string x.1] W fun e W' =>
      (e = .returned (.bool true) ∧ J (pre ++ [x]) W' ∧ KeepB [Bb] W W') ∨ (e = .returned (.bool false) ∧ Jx (pre ++ [x]) W'))
    (W : World) (hBs : W.cell? ⟨Bs, 0, none⟩ = some (.string s)) (hBb : W.cell? ⟨Bb, 0, none⟩ = some (.string t)) (h0 : J [] W) :
    CallsIn F n Tryd.prog 67 #[.func (.yield l) #[] #[], .pointer (some ⟨Bs, 0, none⟩), .pointer (some ⟨Bb, 0, none⟩)] W fun e W' => (∃ v, e = .returned v) ∧
      ((∃ ys, ys = blksTo (s.data.toList ++ t.data.toList) N ∧ J ys W') ∨ (∃ pre, True ∧ Jx pre W')) := by
  have HY := Lib.hid hY
  have HN := Lib.hid hN
  obtain ⟨L, hL⟩ : ∃ L, L = s.data.toList ++ t.data.toList := ⟨_, rfl⟩
  have HL := Lib.hid hL
  have hLl : L.length = 64 * N := by rw [hL, List.length_append, len_data, len_data]; exact hN
  have HLl := Lib.hid hLl
  clear hL hLl hY hN
  refine callsIn_of_wp Tryd.func67 rfl hf ?_ hro
  simp only [Tryd.ntmps67, List.size_toArray, List.length_cons, List.length_nil, Nat.reduceAdd, Nat.reduceSub, Array.replicate_succ, Array.replicate_zero, List.push_toArray, List.append_toArray, List.nil_append, List.cons_append]
  gi_wp2
  gi_loopw [4] (fun v wr => ∃ (k : Nat) (r : ByteArray), 64 * k ≤ s.size ∧ v = .string r ∧ r.data.toList = s.data.toList.drop (64 * k) ∧ wr.cell? ⟨Bb, 0, none⟩ = some (.string t) ∧ J (blksTo L k) wr) (fun v _ => sizeOfText v)
  case atStart => exact ⟨0, s, by omega, rfl, rfl, hBb, h0⟩
  case round =>
    obtain ⟨k, r, hk, rfl, hr, hcb, hJ⟩ := hrel
    have hrs : r.size = s.size - 64 * k := by rw [← len_data, hr, List.length_drop, len_data]
    by_cases hlt : 64 ≤ r.size
    · have hx : (blkOf L k).1 = r.extract 0 64 := by
        rw [blkOf_eq (by rw [HLl.out, ← HN.out]; omega), extract_bs, HL.out, hr, List.drop_append_of_le_length (by rw [len_data]; omega), List.take_append_of_le_length (by rw [List.length_drop, len_data]; omega), List.drop_zero]
      obtain ⟨fn, tmps, assign, body, hy, hR⟩ := HY.out _ (blkOf L k) wr hJ (by rw [blksTo_len]; have := HN.out; omega)
      rw [hx] at hy
      have Hr := Lib.hid hr
      have Hrs := Lib.hid hrs
      have HR := Lib.hid hR
      clear hr hrs hR hx
      gi_wp2
      refine HR.out.mono ?_
      rintro e W3 (⟨rfl, hJ3, hk3⟩ | ⟨rfl, hJx3⟩)
      · have hcb3 : W3.cell? ⟨Bb, 0, none⟩ = some (.string t) := (World.cell?_of_block (hk3 Bb (by simp))).trans hcb
        gi_wp2
        go_roundw
        case rel =>
          refine ⟨k + 1, _, by have := Hrs.out; omega, rfl, ?_, hcb3, by rw [blksTo_succ]; exact hJ3⟩
          rw [extract_bs, bs_data, List.take_of_length_le (Nat.le_of_eq (len_data r)), Hr.out, List.drop_drop, Nat.mul_succ]
        case measure => simp [sizeOfText]; omega
      · gi_wp2
        refine bodyPost_ret (results_none rfl _ _ _) rfl ?_
        exact ⟨⟨_, rfl⟩, .inr ⟨_, trivial, hJx3⟩⟩
    · have Hr := Lib.hid hr
      have Hrs := Lib.hid hrs
      clear hr hrs
      gi_wp2
      have hk2 : 64 * k ≤ s.size := hk
      gi_loopw [4] (fun v wr => ∃ (k : Nat) (r : ByteArray), k ≤ N ∧ v = .string r ∧ r.data.toList = L.drop (64 * k) ∧ J (blksTo L k) wr) (fun v _ => sizeOfText v)
      case atStart =>
        refine ⟨k, _, by have := HN.out; omega, rfl, ?_, hJ⟩
        rw [HL.out, List.drop_append_of_le_length (by rw [len_data]; omega), ← Hr.out]
        simp
      case round =>
        obtain ⟨k, r, hk, rfl, hr, hJ⟩ := hrel
        clear Hr Hrs
        have hrs : r.size = 64 * N - 64 * k := by rw [← len_data, hr, List.length_drop, HLl.out]
        by_cases hlt : k < N
        · have hx : (blkOf L k).1 = r.extract 0 64 := by
            rw [blkOf_eq (by rw [HLl.out]; omega), extract_bs, hr, List.drop_zero]
          obtain ⟨fn, tmps, assign, body, hy, hR⟩ := HY.out _ (blkOf L k) wr hJ (by rw [blksTo_len]; exact hlt)
          rw [hx] at hy
          have h64 : 64 ≤ r.size := by omega
          have hne : ¬ r.toList = [] := by rw [toList_nil]; omega
          have hne2 : r.toList.isEmpty = false := toList_some r (by omega)
          have Hr := Lib.hid hr
          have Hrs := Lib.hid hrs
          have HR := Lib.hid hR
          clear hr hrs hR hx
          gi_wp2
          refine HR.out.mono ?_
          rintro e W3 (⟨rfl, hJ3, hk3⟩ | ⟨rfl, hJx3⟩)
          · gi_wp2
            go_roundw
            case rel =>
              refine ⟨k + 1, _, by omega, rfl, ?_, by rw [blksTo_succ]; exact hJ3⟩
              rw [extract_bs, bs_data, List.take_of_length_le (Nat.le_of_eq (len_data r)), Hr.out, List.drop_drop, Nat.mul_succ]
            case measure => simp [sizeOfText]; omega
          · gi_wp2
            refine bodyPost_ret (results_none rfl _ _ _) rfl ?_
            exact ⟨⟨_, rfl⟩, .inr ⟨_, trivial, hJx3⟩⟩
        · obtain rfl : k = N := by omega
          have hne : r.toList = [] := by rw [toList_nil]; omega
          clear hr hrs
          gi_wp2
          go_end0
          exact ⟨⟨_, rfl⟩, .inl ⟨_, by rw [← HL.out], hJ⟩⟩

theorem blocks_in (F : Fence) (n : Nat) (hf : F.fn 38) (hro : F.round = none) (s t : ByteArray) (w : World) :
    CallsIn F n Tryd.prog 38 #[.string s, .string t] w fun e w' => e = .returned (.func (.func 67) #[] #[.pointer (some ⟨w.heap.size, 0, none⟩), .pointer (some ⟨w.heap.size + 1, 0, none⟩)]) ∧ w' = (w.alloc (.cells #[.string s] 9)).alloc (.cells #[.string t] 9) := by
  refine callsIn_of_wp Tryd.func38 rfl hf ?_ hro
  simp only [Tryd.ntmps38, List.size_toArray, List.length_cons, List.length_nil, Nat.reduceAdd, Nat.reduceSub, Array.replicate_succ, Array.replicate_zero, List.push_toArray, List.append_toArray, List.nil_append, List.cons_append]
  gi_wp2
  go_ret
  exact ⟨rfl, rfl⟩
end Go.Proofs.YtkeeejkijbaooaaDoor
