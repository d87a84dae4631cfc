/-
  Contracts of the document's Big (volumes), and of the laws' far, volumes.
-/
import Derived.Test.YtingcnfhdioejaaGreatDoorVo4
import Derived.Test.YtingcnfhdioejaaGreatDoorVolC
import Derived.Test.YtingcnfhdioejaaGreatDoorMany
namespace Go.Proofs.YtingcnfhdioejaaGreatDoor
open Go.RowKit
set_option linter.unusedVariables false
set_option linter.unusedSimpArgs false
set_option maxRecDepth 100000
set_option maxHeartbeats 4000000

def AnyB (w : World) (e : Ending) (w' : World) : Prop := ∃ b, e = .returned (.bool b) ∧ Below w.heap.size w w'
theorem big16_any (v : Value) (V : Vol) (w : World) (hv : VV w v V) (hl : V.bl.length ≤ maxLen) : Calls Tryz.prog 27 #[v] w (AnyB w) := by
  obtain ⟨A, n, c, rfl, hA, hn⟩ := hv
  obtain ⟨bl, rt⟩ := V
  simp only at hA hn hl ⊢
  have HA := Lib.hid hA
  have HN := Lib.hid hn
  have hnm : n ≤ 9223372036854775807 := by unfold maxLen at hl; omega
  have HW := Lib.hid ((Below.refl w.heap.size w).alloc (Nat.le_refl _) (.cells #[.slice A n c, .string rt] 27))
  have HX := Lib.hid (heap_alloc_new w (.cells #[.slice A n c, .string rt] 27))
  have x0 := rf_at HX.out 0 _ rfl
  have x1 := rf_at HX.out 1 _ rfl
  clear hA hn hl
  have main : ∀ (a : Prop), True := fun _ => trivial
  by_cases h8 : 8 < n ∧ n ≤ 64
  · have e1 : decide ((n : Int) > 8) = true := decide_eq_true (by omega)
    have e2 : decide ((n : Int) ≤ 64) = true := decide_eq_true (by omega)
    have e3 : 8 < n := h8.1
    have e4 : n ≤ 64 := h8.2
    clear h8
    go_enter Tryz.func27, Tryz.ntmps27
    go_wp2_with fail
    go_ret
    exact ⟨_, rfl, HW.out⟩
  by_cases h100 : 100 < n
  · have e1 : decide ((n : Int) > 8) = true := decide_eq_true (by omega)
    have e2 : decide ((n : Int) ≤ 64) = false := decide_eq_false (by omega)
    have e3 : decide ((n : Int) > 100) = true := decide_eq_true (by omega)
    have e4 : 8 < n := by omega
    have e5 : ¬ n ≤ 64 := by omega
    clear h8
    go_enter Tryz.func27, Tryz.ntmps27
    go_wp2_with fail
    go_ret
    exact ⟨_, rfl, HW.out⟩
  have e3 : decide ((n : Int) > 100) = false := decide_eq_false (by omega)
  have e3' : ¬ 100 < n := h100
  have hn100 : n ≤ 100 := by omega
  have hcase : (decide ((n : Int) > 8) = false ∧ ¬ 8 < n) ∨ (decide ((n : Int) > 8) = true ∧ 8 < n ∧ decide ((n : Int) ≤ 64) = false ∧ ¬ n ≤ 64) := by
    by_cases h : 8 < n
    · exact .inr ⟨decide_eq_true (by omega), h, decide_eq_false (by omega), by omega⟩
    · exact .inl ⟨decide_eq_false (by omega), h⟩
  clear h8 h100 main
  by_cases hr : 100 < rt.size
  · have e4 : decide ((rt.size : Int) > 100) = true := decide_eq_true (by omega)
    clear hr
    rcases hcase with ⟨e1, e1'⟩ | ⟨e1, e1', e2, e2'⟩
    · go_enter Tryz.func27, Tryz.ntmps27
      go_wp2_with fail
      go_ret
      exact ⟨_, rfl, HW.out⟩
    · go_enter Tryz.func27, Tryz.ntmps27
      go_wp2_with fail
      go_ret
      exact ⟨_, rfl, HW.out⟩
  have e4 : decide ((rt.size : Int) > 100) = false := decide_eq_false (by omega)
  clear hr
  rcases hcase with ⟨e1, e1'⟩ | ⟨e1, e1', e2, e2'⟩
  · go_enter Tryz.func27, Tryz.ntmps27
    go_wp2_with fail
    clear x0 x1
    go_loopw [3] (fun x wr => ∃ i : Nat, i ≤ n ∧ x = .int .i64 (i : Nat) ∧ wr.heap[w.heap.size]? = some (.cells #[.slice A n c, .string rt] 27 (0, 0)) ∧ Below w.heap.size w wr) (fun x _ => n - (intOf x).toNat)
    case atStart => exact ⟨0, by omega, rfl, HX.out, HW.out⟩
    case round =>
      clear HX HW
      obtain ⟨i, hi, rfl, hX, hW⟩ := hrel
      have HX := Lib.hid hX
      have HW := Lib.hid hW
      have x0 := rf_at hX 0 _ rfl
      clear hX hW
      by_cases hlt : i < n
      · have d1 : decide ((i : Int) < (n : Int)) = true := by simp; omega
        have hil : i < bl.length := by rw [← HN.out]; exact hlt
        obtain ⟨b, off, hbA, c1⟩ := texts_at (HA.out.below HW.out) hil
        subst hbA
        generalize bl[i] = s at c1
        clear hil
        go_wp2_with fail
        · go_ret
          exact ⟨_, rfl, HW.out⟩
        · go_roundw
          case rel => exact ⟨i + 1, by omega, by go_num, HX.out, HW.out⟩
          case measure => simp [intOf]; omega
      · obtain rfl : i = n := by omega
        have d1 : decide ((i : Int) < (i : Int)) = false := by simp
        go_wp2_with fail
        go_ret
        exact ⟨_, rfl, HW.out⟩
  · go_enter Tryz.func27, Tryz.ntmps27
    go_wp2_with fail
    clear x0 x1
    go_loopw [3] (fun x wr => ∃ i : Nat, i ≤ n ∧ x = .int .i64 (i : Nat) ∧ wr.heap[w.heap.size]? = some (.cells #[.slice A n c, .string rt] 27 (0, 0)) ∧ Below w.heap.size w wr) (fun x _ => n - (intOf x).toNat)
    case atStart => exact ⟨0, by omega, rfl, HX.out, HW.out⟩
    case round =>
      clear HX HW
      obtain ⟨i, hi, rfl, hX, hW⟩ := hrel
      have HX := Lib.hid hX
      have HW := Lib.hid hW
      have x0 := rf_at hX 0 _ rfl
      clear hX hW
      by_cases hlt : i < n
      · have d1 : decide ((i : Int) < (n : Int)) = true := by simp; omega
        have hil : i < bl.length := by rw [← HN.out]; exact hlt
        obtain ⟨b, off, hbA, c1⟩ := texts_at (HA.out.below HW.out) hil
        subst hbA
        generalize bl[i] = s at c1
        clear hil
        go_wp2_with fail
        · go_ret
          exact ⟨_, rfl, HW.out⟩
        · go_roundw
          case rel => exact ⟨i + 1, by omega, by go_num, HX.out, HW.out⟩
          case measure => simp [intOf]; omega
      · obtain rfl : i = n := by omega
        have d1 : decide ((i : Int) < (i : Int)) = false := by simp
        go_wp2_with fail
        go_ret
        exact ⟨_, rfl, HW.out⟩
end Go.Proofs.YtingcnfhdioejaaGreatDoor
