/-
  Contracts of share.line: text, plus.
-/
import Derived.Test.YtidnlginjjgmjaaEval
namespace Go.Proofs.Ytidnlginjjgmjaa
open Go.RowKit
set_option linter.unusedVariables false
set_option maxRecDepth 100000
set_option maxHeartbeats 2000000

/-- A line as a value. -/
abbrev lineV (l : List UInt8) : Value := .agg (bytesV l).toArray

theorem text_line (l : List UInt8) (w : World) (hl : l.length = 32) : Calls Try.prog 27 #[lineV l] w fun e w' => e = .returned (.string (bs l)) ∧ Below w.heap.size w w' := by
  obtain ⟨arr, harr⟩ : ∃ arr, arr = (bytesV l).toArray := ⟨_, rfl⟩
  have hcv := conv_rd (w := w.alloc (.cells (bytesV l).toArray 54)) (A := ⟨w.heap.size, 0, none⟩) (l := l) (rd_new w _ _) 32 32 hl.symm
  rw [lineV, ← harr]
  go_enter Try.func27, Try.ntmps27
  go_wp2_with fail
  go_ret
  exact ⟨rfl, (Below.refl _ _).alloc (Nat.le_refl _) _⟩

/-- l with its first k bytes made by f. -/
def mapTo (f : Nat → UInt8) (l : List UInt8) (k : Nat) : List UInt8 := (List.range l.length).map fun i => if i < k then f i else l.getD i 0
theorem mapTo_len (f : Nat → UInt8) (l : List UInt8) (k : Nat) : (mapTo f l k).length = l.length := by simp [mapTo]
theorem mapTo_zero (f : Nat → UInt8) (l : List UInt8) : mapTo f l 0 = l := by
  apply List.ext_getElem
  · simp [mapTo]
  · intro j h1 h2
    simp [mapTo, h2]
theorem mapTo_at (f : Nat → UInt8) (l : List UInt8) (k : Nat) (h : k < l.length) : (mapTo f l k).getD k 0 = l.getD k 0 := by simp [mapTo, h]
theorem mapTo_set (f : Nat → UInt8) (l : List UInt8) (k : Nat) (h : k < l.length) : (mapTo f l k).set k (f k) = mapTo f l (k + 1) := by
  apply List.ext_getElem
  · simp [mapTo]
  · intro j h1 h2
    rw [List.getElem_set]
    simp only [mapTo, List.getElem_map, List.getElem_range]
    by_cases e : k = j
    · subst e
      rw [if_pos rfl, if_pos (by omega)]
    · rw [if_neg e]
      by_cases e2 : j < k
      · rw [if_pos e2, if_pos (by omega)]
      · rw [if_neg e2, if_neg (by omega)]
theorem mapTo_all (f : Nat → UInt8) (l : List UInt8) : mapTo f l l.length = (List.range l.length).map f := by
  apply List.map_congr_left
  intro i hi
  rw [if_pos (by simpa using hi)]
theorem mapTo_xor (l m : List UInt8) (h : l.length = m.length) : mapTo (fun i => l.getD i 0 ^^^ m.getD i 0) l l.length = addP l m := by
  rw [mapTo_all]
  apply List.ext_getElem
  · simp [addP, h]
  · intro j h1 h2
    have hj : j < l.length := by simpa using h1
    have hj2 : j < m.length := by omega
    simp [addP, hj, hj2]

theorem str_at (s : ByteArray) (k : Nat) (h : k < s.size) : s[k] = s.data.toList.getD k 0 := by
  have h2 : k < s.data.size := h
  rw [ByteArray.getElem_eq_getElem_data, List.getD_eq_getElem?_getD, Array.getElem?_toList, Array.getElem?_eq_getElem h2]
  rfl
theorem heap_new2 (w : World) (o o2 : Obj) : ((w.alloc o).alloc o2).heap[w.heap.size + 1]? = some o2 := by
  have := heap_alloc_new (w.alloc o) o2
  simpa using this

theorem blk_byt {w : World} {g : Nat} {t : TypeId} {l : List UInt8} (h : w.heap[g]? = some (.cells (bytesV l).toArray t (0, 0))) {i : Nat} (hi : i < l.length) :
    w.cell? ⟨g, i, none⟩ = some (.int .u8 ((l.getD i 0).toNat : Int)) ∧ w.frozen? ⟨g, i, none⟩ = false := by
  refine ⟨?_, ?_⟩
  · unfold World.cell?
    simp only [h]
    simp [bytesV, hi]
  · unfold World.frozen?
    simp only [h]
    simp
theorem blk_byt_set {w : World} {g : Nat} {t : TypeId} {l : List UInt8} (h : w.heap[g]? = some (.cells (bytesV l).toArray t (0, 0))) (i : Nat) (x : UInt8) :
    (w.setCell ⟨g, i, none⟩ (.int .u8 (x.toNat : Int))).heap[g]? = some (.cells (bytesV (l.set i x)).toArray t (0, 0)) := by
  rw [blk_set h]
  simp [bytesV]
def zeroLine : Array Value := (bytesV (List.replicate 32 0)).toArray
theorem bytesV_one' (l : List UInt8) : (bytesV l).toArray.all (·.oneCell') = true := by
  have := bytesV_one l
  simpa using this
theorem line_size (l : List UInt8) (h : l.length = 32) : (Try.prog.info? 54).map (·.size) = some (bytesV l).toArray.size := by
  rw [List.size_toArray, bytesV_length, h]
  kernel_rfl

theorem plus_line (l : List UInt8) (s : ByteArray) (w : World) (hl : l.length = 32) (hs : s.size = 32) : Calls Try.prog 41 #[lineV l, .string s] w fun e w' => e = .returned (lineV (addP l s.data.toList)) ∧ Below w.heap.size w w' := by
  obtain ⟨arr, harr⟩ : ∃ arr, arr = (bytesV l).toArray := ⟨_, rfl⟩
  have Hl := Lib.hid hl
  rw [show lineV l = .agg arr by rw [harr]]
  have Harr := Lib.hid harr
  clear harr
  go_enter Try.func41, Try.ntmps41
  go_wp2_with fail
  go_loopw [5, 6] (fun _ i wr => ∃ k : Nat, k ≤ 32 ∧ i = .int .i64 (k : Nat) ∧ wr.heap[w.heap.size]? = some (.cells (bytesV (mapTo (fun i => l.getD i 0 ^^^ s.data.toList.getD i 0) l k)).toArray 54 (0, 0)) ∧ wr.heap[w.heap.size + 1]? = some (.cells zeroLine 54 (0, 0)) ∧ Below w.heap.size w wr) (fun _ i _ => 32 - (intOf i).toNat)
  case atStart =>
    refine ⟨0, by omega, rfl, ?_, ?_, ?_⟩
    · rw [mapTo_zero, ← Harr.out]
      exact (Below.heap_alloc _ _ _ (by simp)).trans (heap_alloc_new w _)
    · exact heap_new2 w _ _
    · exact ((Below.refl _ _).alloc (Nat.le_refl _) _).alloc (by simp) _
  case round =>
    obtain ⟨k, hk, rfl, hB, hZ, hW⟩ := hrel
    by_cases hlt : k < 32
    · obtain ⟨hc, hf⟩ := blk_byt hB (i := k) (by rw [mapTo_len]; omega)
      rw [mapTo_at _ _ _ (by omega)] at hc
      have Hset := Lib.hid (show (mapTo (fun i => l.getD i 0 ^^^ s.data.toList.getD i 0) l k).set k (l.getD k 0 ^^^ s.data.toList.getD k 0) = mapTo (fun i => l.getD i 0 ^^^ s.data.toList.getD i 0) l (k + 1) from mapTo_set _ l k (by omega))
      have Hsx := Lib.hid (str_at s k (by omega))
      have HB := Lib.hid hB
      have HZ := Lib.hid hZ
      have HW := Lib.hid hW
      have hks : (k : Int) < (s.size : Int) := by omega
      have hk32 : (k : Int) < 32 := by omega
      generalize l.getD k 0 = u at hc Hset
      clear hB hZ hW
      go_wp2_with fail
      go_still_tail 8, (by kernel_rfl)
      rw [xor_u8, Hsx.out]
      change wpList _ _ _ _ _ wr.drew
      generalize hv : u ^^^ s.data.toList.getD k 0 = v at Hset ⊢
      clear hv
      go_wp2
      go_roundw
      case rel =>
        refine ⟨k + 1, by omega, by go_num, ?_, ?_, (HW.out.setCell (p := ⟨w.heap.size, k, none⟩) (Nat.le_refl _) _).drew⟩
        · have h := blk_byt_set HB.out k v
          rw [Hset.out] at h
          exact h
        · exact (Below.heap_setCell _ _ _ _ (by simp only; omega)).trans HZ.out
      case measure => simp [intOf]; omega
    · obtain rfl : k = 32 := by omega
      have hln : (addP l s.data.toList).length = 32 := by rw [addP, List.length_zipWith, hl, len_data, hs]; rfl
      have hxx := mapTo_xor l s.data.toList (by rw [hl, len_data, hs])
      rw [Hl.out] at hxx
      rw [hxx] at hB
      obtain ⟨res, hres⟩ : ∃ res, res = addP l s.data.toList := ⟨_, rfl⟩
      rw [← hres] at hB hln
      have Hres := Lib.hid hres
      have Hsz := Lib.hid (line_size res hln)
      have H1c := Lib.hid (bytesV_one' res)
      have Hs0 := Lib.hid (show (bytesV res).toArray.size = zeroLine.size by rw [List.size_toArray, bytesV_length, hln]; rfl)
      have HB := Lib.hid hB
      have HZ := Lib.hid hZ
      have HW := Lib.hid hW
      clear hB hZ hW hres hxx hln
      obtain ⟨ar, har⟩ : ∃ ar, ar = (bytesV res).toArray := ⟨_, rfl⟩
      rw [← har] at Hsz H1c Hs0 HB
      have Har := Lib.hid har
      clear har
      go_wp2_with (first
        | (refine wpList_load_row (by rfl) 54 (.tmp 2) (by rfl) w.heap.size (by rfl) 54 ar (0, 0) _ HB.out Try.underlying54 rfl Hsz.out ?_)
        | (refine wpList_store_whole (by rfl) 54 (.tmp 4) (.tmp 18) (by rfl) (w.heap.size + 1) ar (by rfl) (by rfl) _ 54 (by exact HZ.out) (by exact Hs0.out) Hsz.out H1c.out ?_))
      intro w4 hR4 hG4
      have HR4 := Lib.hid hR4
      clear hR4
      go_wp2_with fail
      have hR4 := HR4.out
      have hr : w4.rangeAt (w.heap.size + 1) 0 ar.toList := by simpa using World.rangeAt_of_block hR4 0 ar.size
      have hl := run_loadVar_mid (P := Try.prog) _ (w.heap.size + 1) 0 54 ar.toList _ hr Try.underlying54 rfl (by simpa using Hsz.out)
      refine bodyPost_ret (res_cell1 rfl _ _ (w.heap.size + 1) rfl _ hl) rfl ?_
      exact ⟨by rw [Har.out, Hres.out], HW.out.trans (grownBy_below' hG4 (by omega) HW.out.size)⟩
end Go.Proofs.Ytidnlginjjgmjaa
