/-
  Contract of field.Bytes.
-/
import Derived.Test.YtidnlginjjgmjaaField
import Derived.Laws.EntriesVeiled
namespace Go.Proofs.Ytidnlginjjgmjaa
open Go.RowKit
set_option linter.unusedVariables false
set_option maxRecDepth 100000
set_option maxHeartbeats 2000000

/-- l with the first k bytes times a. -/
def timesTo (a : UInt8) (l : List UInt8) (k : Nat) : List UInt8 := (l.take k).map (gm a) ++ l.drop k
theorem timesTo_len (a : UInt8) (l : List UInt8) (k : Nat) : (timesTo a l k).length = l.length := by simp [timesTo]; omega
theorem timesTo_zero (a : UInt8) (l : List UInt8) : timesTo a l 0 = l := by simp [timesTo]
theorem timesTo_all (a : UInt8) (l : List UInt8) : timesTo a l l.length = l.map (gm a) := by simp [timesTo]
theorem timesTo_at (a : UInt8) (l : List UInt8) (k : Nat) (h : k < l.length) : (timesTo a l k).getD k 0 = l.getD k 0 := by
  have : ((l.take k).map (gm a)).length = k := by simp; omega
  simp only [timesTo, List.getD_eq_getElem?_getD]
  rw [List.getElem?_append_right (by omega), this]
  simp
theorem timesTo_set (a : UInt8) (l : List UInt8) (k : Nat) (h : k < l.length) : (timesTo a l k).set k (gm a (l.getD k 0)) = timesTo a l (k + 1) := by
  have hl : ((l.take k).map (gm a)).length = k := by simp; omega
  simp only [timesTo]
  rw [List.set_append_right _ _ (by omega), hl, Nat.sub_self, List.drop_eq_getElem_cons h, List.set_cons_zero, List.take_succ_eq_append_getElem h, List.map_append]
  simp [h]

theorem one_cell {w : World} {g : Nat} {t : TypeId} {v : Value} (h : w.heap[g]? = some (.cells #[v] t (0, 0))) : w.cell? ⟨g, 0, none⟩ = some v := by
  unfold World.cell?; simp only [h]; rfl

theorem bytes_dig (a : UInt8) (s : ByteArray) (w : World) (g : Nat) (h : IsField w g) (hs : s.size ≤ 100000) : Calls Try.prog 42 #[.pointer (some ⟨g, 0, none⟩), dig a, .string s] w fun e w' => e = .returned (.tuple #[.string (bs (s.data.toList.map (gm a))), .bool true]) ∧ Below w.heap.size w w' := by
  have H := Lib.hid h
  clear h
  go_enter Try.func42, Try.ntmps42
  go_wp2_with fail
  refine (isDigit_dig a _).mono ?_
  rintro e w' ⟨rfl, rfl⟩
  go_wp2_with fail
  refine (made_any _ g (H.out.keep ((Below.refl _ _).alloc (Nat.le_refl _) _))).mono ?_
  rintro e w' ⟨rfl, rfl⟩
  obtain ⟨w1, hw1⟩ : ∃ w1, w1 = (w.alloc (.cells #[dig a] 3)).alloc (.cells #[.func (.func 39) #[.pointer (some ⟨g, 0, none⟩)] #[]] 66) := ⟨_, rfl⟩
  obtain ⟨cap, w2, hcv, hB2, hW2, hs2⟩ := conv_new w1 s (w.heap.size + 1 + 1) (by rw [hw1]; simp)
  have hs1 : w1.heap.size = w.heap.size + 1 + 1 := by rw [hw1]; simp
  have hc1 : w2.heap[w.heap.size]? = some (.cells #[dig a] 3 (0, 0)) := by
    rw [hW2.block _ (by omega), hw1]
    exact (Below.heap_alloc _ _ _ (by simp)).trans (heap_alloc_new w _)
  have hc2 : w2.heap[w.heap.size + 1]? = some (.cells #[.func (.func 39) #[.pointer (some ⟨g, 0, none⟩)] #[]] 66 (0, 0)) := by
    rw [hW2.block _ (by omega), hw1]
    have := heap_alloc_new (w.alloc (.cells #[dig a] 3)) (.cells #[.func (.func 39) #[.pointer (some ⟨g, 0, none⟩)] #[]] 66)
    simpa using this
  have hWw : Below w.heap.size w w2 := by
    have h1 : Below w.heap.size w w1 := by rw [hw1]; exact ((Below.refl _ _).alloc (Nat.le_refl _) _).alloc (by simp) _
    exact Below.chain h1 hW2
  rw [hw1] at hcv
  have HB2 := Lib.hid hB2
  have Hc1 := Lib.hid hc1
  have Hc2 := Lib.hid hc2
  have HWw := Lib.hid hWw
  clear hB2 hc1 hc2 hWw hW2 hs2 hs1 hw1
  go_wp2_with fail
  go_loopw [11, 12, 28] (fun _ _ i wr => ∃ k : Nat, k ≤ s.size ∧ i = .int .i64 (k : Nat) ∧ BytAt wr (w.heap.size + 1 + 1) (timesTo a s.data.toList k) ∧ wr.heap[w.heap.size]? = some (.cells #[dig a] 3 (0, 0)) ∧ wr.heap[w.heap.size + 1]? = some (.cells #[.func (.func 39) #[.pointer (some ⟨g, 0, none⟩)] #[]] 66 (0, 0)) ∧ Below w.heap.size w wr) (fun _ _ i _ => s.size - (intOf i).toNat)
  case atStart => exact ⟨0, by omega, rfl, by rw [timesTo_zero]; exact HB2.out, Hc1.out, Hc2.out, HWw.out⟩
  case round =>
    obtain ⟨k, hk, rfl, hB, hA, hP, hW⟩ := hrel
    by_cases hlt : k < s.size
    · have hl : k < (timesTo a s.data.toList k).length := by rw [timesTo_len]; exact hlt
      obtain ⟨hc, hf⟩ := hB k hl
      have Hset := Lib.hid (timesTo_set a s.data.toList k hlt)
      rw [timesTo_at a _ k hlt] at hc
      generalize s.data.toList.getD k 0 = x at hc Hset
      have HB := Lib.hid hB
      have HA := Lib.hid hA
      have HP := Lib.hid hP
      have HF := Lib.hid (H.out.keep hW)
      have HW := Lib.hid hW
      have Hl := Lib.hid hl
      clear hB hA hP hW hf hl
      go_wp2_with fail
      refine (bytes1_any a x _ _ _ g HF.out (one_cell HP.out) (one_cell HA.out)).mono ?_
      rintro e w3 ⟨rfl, hb⟩
      have hB3 := HB.out.below hb
      obtain ⟨hc3, hf3⟩ := hB3 k Hl.out
      have HB3 := Lib.hid (hB3.set k (gm a x))
      rw [Hset.out] at HB3
      have HA3 := Lib.hid ((Below.heap_setCell _ ⟨w.heap.size + 1 + 1, k, none⟩ (.int .u8 ((gm a x).toNat : Int)) w.heap.size (by simp only; omega)).trans (cells_below HA.out hb))
      have HP3 := Lib.hid ((Below.heap_setCell _ ⟨w.heap.size + 1 + 1, k, none⟩ (.int .u8 ((gm a x).toNat : Int)) (w.heap.size + 1) (by simp only; omega)).trans (cells_below HP.out hb))
      have HW3 := Lib.hid ((Below.chain HW.out hb).setCell (p := ⟨w.heap.size + 1 + 1, k, none⟩) (by simp only; omega) (.int .u8 ((gm a x).toNat : Int)))
      clear hB3
      go_wp2_with fail
      go_roundw
      case rel => exact ⟨k + 1, by omega, by go_num, HB3.out, HA3.out, HP3.out, HW3.out⟩
      case measure => simp [intOf]; omega
    · obtain rfl : k = s.size := by omega
      have hcvb := conv_byt hB cap s.size (by rw [timesTo_len]; rfl)
      have Hall := Lib.hid (timesTo_all a s.data.toList)
      rw [len_data] at Hall
      have HW := Lib.hid hW
      clear hB hA hP hW
      go_wp2_with fail
      go_ret2
      exact ⟨by rw [Hall.out]; rfl, HW.out⟩
end Go.Proofs.Ytidnlginjjgmjaa
