/-
  Contracts of view's front.of, Block, Frame; of the laws' views and of keyholeref09.Same.
-/
import Derived.Test.YtkldllnlakaehaaGreatDoorRemap
import Derived.Test.YtkldllnlakaehaaGreatDoorMany
import Derived.Test.YtkldllnlakaehaaGreatDoorShelf
namespace Go.Proofs.YtkldllnlakaehaaGreatDoor
open Go.RowKit
set_option linter.unusedVariables false
set_option maxRecDepth 100000
set_option maxHeartbeats 2000000

/-- What is seen of a text: n bytes, and zeros. -/
def frontL (n : Nat) (l : List UInt8) : List UInt8 := if l.length ≤ n then l else l.take n ++ List.replicate (l.length - n) 0
theorem repeat_zero (c : Nat) : Lib.repeatL [0] c = List.replicate c 0 := by
  have := Lib.repeatL_replicate 0 1 c
  simpa using this
theorem bs_app (a b : List UInt8) : bs a ++ bs b = bs (a ++ b) := by
  apply ByteArray.ext
  rw [ByteArray.data_append]
  simp [bs]
theorem of_any (n : Nat) (s : ByteArray) (w : World) (hn : n ≤ 1000) (hs : s.size ≤ 1000000) :
    Calls Tryz.prog 23 #[.int .i64 (n : Int), .string s] w fun e w' => e = .returned (.string (bs (frontL n s.data.toList))) ∧ Below w.heap.size w w' := by
  by_cases h : s.size ≤ n
  · have Hf := Lib.hid (show frontL n s.data.toList = s.data.toList by rw [frontL, if_pos (by rw [len_data]; exact h)])
    have d1 : decide ((s.size : Int) ≤ (n : Int)) = true := by simp; omega
    go_enter Tryz.func23, Tryz.ntmps23
    go_wp2_with fail
    go_ret
    exact ⟨by rw [Hf.out]; rfl, Below.refl _ _⟩
  · have Hf := Lib.hid (show frontL n s.data.toList = s.data.toList.take n ++ List.replicate (s.size - n) 0 by rw [frontL, if_neg (by rw [len_data]; exact h), len_data])
    have d1 : decide (s.size ≤ n) = false := by simp; omega
    obtain ⟨c, hc⟩ : ∃ c, c = s.size - n := ⟨_, rfl⟩
    have hce : (s.size : Int) - (n : Int) = (c : Int) := by omega
    have hcb : c ≤ 1000000 := by omega
    have hns : (n : Int) ≤ (s.size : Int) := by omega
    obtain ⟨y1, hy1e⟩ : ∃ y1 : ByteArray, y1 = ⟨(Lib.repeatL [0] c).toArray⟩ := ⟨_, rfl⟩
    have hy1 : y1.size = c := by rw [hy1e, repeat_zero]; show (List.replicate c (0 : UInt8)).toArray.size = c; simp
    have hx1 : (s.extract 0 n).size = n := by rw [ByteArray.size_extract]; omega
    have Hy1 := Lib.hid hy1e
    have HC : Hid (∀ y : Later w, Calls Tryz.prog 43 #[.string ⟨#[0]⟩, .int .i64 (c : Int)] y.x fun e w' => e = .returned (.string y1) ∧ ∃ z : Later w, w' = z.x) :=
      Lib.hid fun y => later_call (hy1e ▸ repeat_b ⟨#[0]⟩ c y.x (by omega) (by show 1 * c ≤ _; omega))
    rw [← hc] at Hf
    clear hc h hy1e
    go_enter Tryz.func23, Tryz.ntmps23
    go_wp2_with fail
    refine wp_region_later (by kernel_rfl) (by kernel_rfl) ?_
    repeat (go_big_quiet_step (exact HC.out _))
    refine wpQuiet_nil ?_
    rintro _ ⟨y, rfl⟩
    go_wp2_with fail
    go_ret
    refine ⟨?_, y.ok⟩
    rw [Hf.out]
    have e : s.extract 0 n ++ y1 = bs (s.data.toList.take n ++ List.replicate c 0) := by
      rw [Hy1.out, repeat_zero, ← bs_app, extract_bs]
      rfl
    exact congrArg (fun z => Ending.returned (.string z)) e
theorem block_any (s : ByteArray) (w : World) (hs : s.size ≤ 1000000) : Calls Tryz.prog 18 #[.string s] w fun e w' => e = .returned (.string (bs (frontL 12 s.data.toList))) ∧ Below w.heap.size w w' := by
  go_enter Tryz.func18, Tryz.ntmps18
  go_wp2_with fail
  refine (of_any 12 s _ (by omega) hs).mono ?_
  rintro e w1 ⟨rfl, hb⟩
  go_wp2_with fail
  go_ret
  exact ⟨rfl, hb⟩
theorem frame_any (s : ByteArray) (w : World) (hs : s.size ≤ 1000000) : Calls Tryz.prog 8 #[.string s] w fun e w' => e = .returned (.string (bs (frontL 8 s.data.toList))) ∧ Below w.heap.size w w' := by
  go_enter Tryz.func8, Tryz.ntmps8
  go_wp2_with fail
  refine (of_any 8 s _ (by omega) hs).mono ?_
  rintro e w1 ⟨rfl, hb⟩
  go_wp2_with fail
  go_ret
  exact ⟨rfl, hb⟩
end Go.Proofs.YtkldllnlakaehaaGreatDoor
