/-
  Contracts of stream.first where it refuses, and of stream.Block.
-/
import Derived.Test.YtkeeejkijbaooaaDoorGen
import Derived.Test.YtkeeejkijbaooaaDoorStream
namespace Go.Proofs.YtkeeejkijbaooaaDoor
open Go.RowKit
set_option linter.unusedVariables false

set_option maxHeartbeats 400000 in
theorem first_no (key nonce : ByteArray) (n : Int) (w : World) (hk1 : key.size ≤ 9223372036854775807) (ho1 : nonce.size ≤ 9223372036854775807) (h : ¬ (key.size = 32 ∧ nonce.size = 12 ∧ Wd n)) :
    Calls Tryd.prog 32 #[.string key, .string nonce, .int .i64 n] w fun e w' => e = .returned (.tuple #[.agg zeros16, .bool false]) ∧ Below w.heap.size w w' := by
  by_cases hk : key.size = 32
  · by_cases ho : nonce.size = 12
    · have hn : wordsB [n] = false := by
        rw [Bool.eq_false_iff]
        exact fun e => h ⟨hk, ho, wordsB1.1 e⟩
      have h1 : ((key.size : Int) != 32) = false := by simp [hk]
      have h2 : ((nonce.size : Int) != 12) = false := by simp [ho]
      have HN := Lib.hid hn
      clear h hk ho hn
      go_enter Tryd.func32, Tryd.ntmps32
      go_wp2_with fail
      refine (is_b _ _ _ [n] _ (by exact rd_new' _ _ _ _ (by simp)) rfl (by simp)).mono ?_
      rintro e w1 ⟨rfl, hw⟩
      rw [HN.out]
      have hz := keep_two hw
      replace hw := below_two hw
      have HZ : Hid (w1.heap[w.heap.size]? = some (.cells zeros16 60 (0, 0))) := hz
      clear hz
      go_wp2_with (refine wpList_store_mid (by rfl) 60 (.tmp 6) (.tmp 27) (by rfl) w.heap.size 0 zeros16 (by rfl) (by rfl) ?_ (by kernel_rfl) (by kernel_rfl) ?_)
      · exact there_blk HZ.out (Nat.le_refl _)
      · have hr := World.rangeAt_setCells_same w1 w.heap.size 0 zeros16.toList (there_blk HZ.out (Nat.le_refl _))
        have hl := run_loadVar_mid (P := Tryd.prog) _ w.heap.size 0 60 zeros16.toList _ hr Tryd.underlying60 rfl (by kernel_rfl)
        exact bodyPost_ret (res_cell_tmp rfl _ _ w.heap.size rfl _ hl) rfl ⟨rfl, below_setCells (Nat.le_refl _) _ _ _ hw⟩
    · have h1 : ((key.size : Int) != 32) = false := by simp [hk]
      have h2 : ((nonce.size : Int) != 12) = true := by rw [bne_iff_ne]; omega
      have HZ : Hid ((w.alloc (.cells zeros16 60)).heap[w.heap.size]? = some (.cells zeros16 60 (0, 0))) := heap_alloc_new w _
      clear h hk ho
      go_enter Tryd.func32, Tryd.ntmps32
      go_wp2_with (refine wpList_store_mid (by rfl) 60 (.tmp 6) (.tmp 27) (by rfl) w.heap.size 0 zeros16 (by rfl) (by rfl) ?_ (by kernel_rfl) (by kernel_rfl) ?_)
      · exact there_blk HZ.out (Nat.le_refl _)
      · have hr := World.rangeAt_setCells_same _ w.heap.size 0 zeros16.toList (there_blk HZ.out (Nat.le_refl _))
        have hl := run_loadVar_mid (P := Tryd.prog) _ w.heap.size 0 60 zeros16.toList _ hr Tryd.underlying60 rfl (by kernel_rfl)
        exact bodyPost_ret (res_cell_tmp rfl _ _ w.heap.size rfl _ hl) rfl ⟨rfl, below_setCells (Nat.le_refl _) _ _ _ ((Below.refl _ _).alloc (Nat.le_refl _) _)⟩
  · have h1 : ((key.size : Int) != 32) = true := by rw [bne_iff_ne]; omega
    have HZ : Hid ((w.alloc (.cells zeros16 60)).heap[w.heap.size]? = some (.cells zeros16 60 (0, 0))) := heap_alloc_new w _
    clear h hk
    go_enter Tryd.func32, Tryd.ntmps32
    go_wp2_with (refine wpList_store_mid (by rfl) 60 (.tmp 6) (.tmp 27) (by rfl) w.heap.size 0 zeros16 (by rfl) (by rfl) ?_ (by kernel_rfl) (by kernel_rfl) ?_)
    · exact there_blk HZ.out (Nat.le_refl _)
    · have hr := World.rangeAt_setCells_same _ w.heap.size 0 zeros16.toList (there_blk HZ.out (Nat.le_refl _))
      have hl := run_loadVar_mid (P := Tryd.prog) _ w.heap.size 0 60 zeros16.toList _ hr Tryd.underlying60 rfl (by kernel_rfl)
      exact bodyPost_ret (res_cell_tmp rfl _ _ w.heap.size rfl _ hl) rfl ⟨rfl, below_setCells (Nat.le_refl _) _ _ _ ((Below.refl _ _).alloc (Nat.le_refl _) _)⟩

def Turns (w : World) : Prop := w.rangeAt 0 0 turnsL

theorem Turns.below {w w' : World} (h : Turns w) (hb : Below w.heap.size w w') : Turns w' := fun j v hv =>
  (hb.cell (p := ⟨0, 0 + j, none⟩) (cell_lt (h j v hv))).trans (h j v hv)

theorem turns_index (j : Nat) (hj : j < 8) : ∃ p, turnsT[j]? = some p ∧ pOk p = true ∧ ∀ W, (Instr.index 64 (.agg turnsL.toArray) (.int .i64 (j : Int))).run Tryd.prog W = .ok (.agg (turnV p).toArray) W := by
  match j, hj with
  | 0, _ => exact ⟨_, rfl, rfl, fun _ => by kernel_rfl⟩
  | 1, _ => exact ⟨_, rfl, rfl, fun _ => by kernel_rfl⟩
  | 2, _ => exact ⟨_, rfl, rfl, fun _ => by kernel_rfl⟩
  | 3, _ => exact ⟨_, rfl, rfl, fun _ => by kernel_rfl⟩
  | 4, _ => exact ⟨_, rfl, rfl, fun _ => by kernel_rfl⟩
  | 5, _ => exact ⟨_, rfl, rfl, fun _ => by kernel_rfl⟩
  | 6, _ => exact ⟨_, rfl, rfl, fun _ => by kernel_rfl⟩
  | 7, _ => exact ⟨_, rfl, rfl, fun _ => by kernel_rfl⟩

/-- A state in memory. -/
def StAt (w : World) (g : Nat) (st : List Int) : Prop := w.heap[g]? = some (.cells (ints st).toArray 60 (0, 0)) ∧ st.length = 16 ∧ ∀ x ∈ st, Wd x
end Go.Proofs.YtkeeejkijbaooaaDoor
