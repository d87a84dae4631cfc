/-
  Contracts of package armour: a row of digits that wait.
-/
import Derived.Test.YtidnlginjjgmjaaDoorOwn
import Derived.Test.YtidnlginjjgmjaaDoorSha3
namespace Go.Proofs.YtidnlginjjgmjaaDoor
open Go.RowKit
set_option linter.unusedVariables false

/-- Block R is a row: c digits of base two, the number n. -/
def IsRow (w : World) (R n c : Nat) : Prop := w.heap[R]? = some (.cells #[.int .i64 (n : Int), .int .i64 (c : Int)] 85 (0, 0))
theorem IsRow.cells {w : World} {R n c : Nat} (h : IsRow w R n c) : w.cell? ⟨R, 0, none⟩ = some (.int .i64 (n : Int)) ∧ w.cell? ⟨R, 1, none⟩ = some (.int .i64 (c : Int)) ∧ w.frozen? ⟨R, 0, none⟩ = false ∧ w.frozen? ⟨R, 1, none⟩ = false := by
  refine ⟨?_, ?_, ?_, ?_⟩
  · unfold World.cell?; simp only [show w.heap[R]? = _ from h]; rfl
  · unfold World.cell?; simp only [show w.heap[R]? = _ from h]; rfl
  · unfold World.frozen?; simp only [show w.heap[R]? = _ from h]; rfl
  · unfold World.frozen?; simp only [show w.heap[R]? = _ from h]; rfl
theorem IsRow.set0 {w : World} {R n c : Nat} (h : IsRow w R n c) (m : Nat) : IsRow (w.setCell ⟨R, 0, none⟩ (.int .i64 (m : Int))) R m c := by
  have := blk_set h 0 (.int .i64 (m : Int))
  exact this
theorem IsRow.set1 {w : World} {R n c : Nat} (h : IsRow w R n c) (m : Nat) : IsRow (w.setCell ⟨R, 1, none⟩ (.int .i64 (m : Int))) R n m := by
  have := blk_set h 1 (.int .i64 (m : Int))
  exact this
theorem IsRow.below {w w' : World} {R n c : Nat} (h : IsRow w R n c) (hb : Below w.heap.size w w') : IsRow w' R n c := cells_below h hb

theorem or_add (n x k : Nat) (hx : x < 2 ^ k) : n * 2 ^ k ||| x = n * 2 ^ k + x := by
  rw [Nat.mul_comm]
  exact (Nat.two_pow_add_eq_or_of_lt hx n).symm

set_option maxHeartbeats 400000 in
theorem push_any (R n c x k : Nat) (w : World) (h : IsRow w R n c) (hn : n < 4096) (hc : c ≤ 100) (hk : k ≤ 8) (hx : x < 2 ^ k) :
    Calls Tryd.prog 40 #[.pointer (some ⟨R, 0, none⟩), .int .i64 (x : Int), .int .i64 (k : Int)] w fun e w' => e = .returned (.tuple #[]) ∧ IsRow w' R (n * 2 ^ k + x) (c + k) ∧ w.grownBy w' (some R) := by
  obtain ⟨c0, c1, f0, f1⟩ := h.cells
  have hp : 2 ^ k ≤ 256 := by
    have : 2 ^ k ≤ 2 ^ 8 := Nat.pow_le_pow_right (by omega) hk
    omega
  have hm : n * 2 ^ k ≤ 4096 * 256 := Nat.mul_le_mul (by omega) hp
  have Hs := Lib.hid (show wrap64 ((n : Int) * 2 ^ k) = ((n * 2 ^ k : Nat) : Int) by
    have e : (n : Int) * 2 ^ k = ((n * 2 ^ k : Nat) : Int) := by simp
    rw [e, IntWalk.wrap64_in _ (by omega)])
  have ho : bits .or .i64 ((n * 2 ^ k : Nat) : Int) (x : Int) = ((n * 2 ^ k + x : Nat) : Int) := by
    rw [or_i64 _ _ (by omega) (by omega), or_add _ _ _ hx]
  have H := Lib.hid h
  have Hx := Lib.hid hx
  clear h hx hp
  go_enter Tryd.func40, Tryd.ntmps40
  go_wp2_with fail
  go_end0
  have e : bits .or .i64 (wrap64 ((n : Int) * 2 ^ k)) (x : Int) = ((n * 2 ^ k + x : Nat) : Int) := by
    rw [Hs.out, ho]
  have e2 : (c : Int) + (k : Int) = ((c + k : Nat) : Int) := by omega
  rw [e, e2]
  exact ⟨rfl, (H.out.set0 _).set1 _, gb_set (gb_set (gb_refl w R) 0 _) 1 _⟩

set_option maxHeartbeats 400000 in
theorem pull_no (R n c k : Nat) (w : World) (h : IsRow w R n c) (hk : c < k) :
    Calls Tryd.prog 41 #[.pointer (some ⟨R, 0, none⟩), .int .i64 (k : Int)] w fun e w' => e = .returned (.tuple #[.int .i64 0, .bool false]) ∧ w = w' := by
  obtain ⟨c0, c1, f0, f1⟩ := h.cells
  have hlt : decide ((c : Int) < (k : Int)) = true := by simp; omega
  clear h
  go_enter Tryd.func41, Tryd.ntmps41
  go_wp2_with fail
  go_ret2
  exact ⟨rfl, rfl⟩

set_option maxHeartbeats 400000 in
theorem pull_yes (R n c k : Nat) (w : World) (h : IsRow w R n c) (hn : n < 4096) (hc : c ≤ 12) (hk : k ≤ c) :
    Calls Tryd.prog 41 #[.pointer (some ⟨R, 0, none⟩), .int .i64 (k : Int)] w fun e w' => e = .returned (.tuple #[.int .i64 ((n / 2 ^ (c - k) : Nat) : Int), .bool true]) ∧ IsRow w' R (n % 2 ^ (c - k)) (c - k) ∧ w.grownBy w' (some R) := by
  obtain ⟨c0, c1, f0, f1⟩ := h.cells
  have H := Lib.hid h
  obtain ⟨d, hd⟩ : ∃ d, d = c - k := ⟨_, rfl⟩
  have hd12 : d ≤ 12 := by omega
  have hlt : decide ((c : Int) < (k : Int)) = false := by simp; omega
  have hsub : (c : Int) - (k : Int) = (d : Int) := by omega
  have Hd := Lib.hid hd
  clear h hd
  go_enter Tryd.func41, Tryd.ntmps41
  go_wp2_with fail
  have h1 := H.out.set1 d
  have hG := gb_set (gb_refl w R) 1 (.int .i64 (d : Int))
  generalize w.setCell ⟨R, 1, none⟩ (.int .i64 (d : Int)) = w1 at h1 hG ⊢
  have H1 := Lib.hid h1
  clear c0 c1 f0 f1
  obtain ⟨c0, c1, f0, f1⟩ := h1.cells
  clear h1
  go_quiet (fail)
  have H2 : Hid (IsRow (w1.drewN nq) R n d) := H1
  have hG2 : w.grownBy (w1.drewN nq) (some R) := ⟨hG.os, hG.tape, hG.output, hG.size, hG.block⟩
  clear c0 c1 f0 f1 H1 hG
  generalize w1.drewN nq = w2 at H2 hG2 ⊢
  go_wp2_with fail
  obtain ⟨c0, c1, f0, f1⟩ := H2.out.cells
  go_region
  go_wp2_with fail
  go_ret2
  rw [← Hd.out]
  refine ⟨?_, ?_, ?_⟩
  · simp
  · have e : wrap64 ((n : Int) - wrap64 ((n : Int) / 2 ^ d * 2 ^ d)) = ((n % 2 ^ d : Nat) : Int) := by
      have e1 : (n : Int) / 2 ^ d * 2 ^ d = ((n / 2 ^ d * 2 ^ d : Nat) : Int) := by simp
      have e2 : n / 2 ^ d * 2 ^ d + n % 2 ^ d = n := Nat.div_add_mod' n (2 ^ d)
      rw [e1, IntWalk.wrap64_in (((n / 2 ^ d * 2 ^ d : Nat) : Int)) (by omega), IntWalk.wrap64_in _ (by omega)]
      omega
    rw [e]
    exact H2.out.set0 (n % 2 ^ d)
  · exact gb_set (⟨hG2.os, hG2.tape, hG2.output, hG2.size, hG2.block⟩ : w.grownBy w2.drew (some R)) 0 _
end Go.Proofs.YtidnlginjjgmjaaDoor
