/-
  Contract of share.Split where it refuses.
-/
import Derived.Test.YtidnlginjjgmjaaSplit2
namespace Go.Proofs.Ytidnlginjjgmjaa
open Go.RowKit
set_option linter.unusedVariables false
set_option maxRecDepth 100000
set_option maxHeartbeats 4000000

def splitOK (s t : ByteArray) (n k : Int) : Bool := decide (s.size = 32) && decide (1 ≤ n) && decide (n ≤ 255) && decide (1 ≤ k) && decide (k ≤ n) && decide ((t.size : Int) = 32 * (k - 1))

theorem split_no (s t : ByteArray) (n k : Int) (w : World) (h : splitOK s t n k = false) :
    Calls Try.prog 8 #[.string s, .int .i64 n, .int .i64 k, .string t] w fun e w' => e = .returned (.tuple #[.slice none 0 0, .int .i64 1]) ∧ Below w.heap.size w w' := by
  have hW := ((Below.refl w.heap.size w).alloc (Nat.le_refl _) (.cells #[.string s] 9)).alloc (by simp) (.cells #[.string t] 9)
  by_cases h1 : s.size = 32
  · have e1 : ((s.size : Int) != 32) = false := by simp; omega
    by_cases h2 : n < 1
    · have e2 : decide (n < 1) = true := by simp; omega
      clear h h1
      go_enter Try.func8, Try.ntmps8
      go_wp2_with fail
      go_ret2
      exact ⟨rfl, hW⟩
    · have e2 : decide (n < 1) = false := by simp; omega
      by_cases h3 : 255 < n
      · have e3 : decide (255 < n) = true := by simp; omega
        clear h h1
        go_enter Try.func8, Try.ntmps8
        go_wp2_with fail
        go_ret2
        exact ⟨rfl, hW⟩
      · have e3 : decide (255 < n) = false := by simp; omega
        by_cases h4 : k < 1
        · have e4 : decide (k < 1) = true := by simp; omega
          clear h h1
          go_enter Try.func8, Try.ntmps8
          go_wp2_with fail
          go_ret2
          exact ⟨rfl, hW⟩
        · have e4 : decide (k < 1) = false := by simp; omega
          by_cases h5 : n < k
          · have e5 : decide (n < k) = true := by simp; omega
            clear h h1
            go_enter Try.func8, Try.ntmps8
            go_wp2_with fail
            go_ret2
            exact ⟨rfl, hW⟩
          · have e5 : decide (n < k) = false := by simp; omega
            have e6 : ((t.size : Int) != 32 * (k - 1)) = true := by
              rw [bne_iff_ne]
              intro e
              have : splitOK s t n k = true := by simp [splitOK]; omega
              rw [h] at this
              cases this
            clear h h1
            go_enter Try.func8, Try.ntmps8
            go_wp2_with fail
            go_ret2
            exact ⟨rfl, hW⟩
  · have e1 : ((s.size : Int) != 32) = true := by simp; omega
    clear h
    go_enter Try.func8, Try.ntmps8
    go_wp2_with fail
    go_ret2
    exact ⟨rfl, hW⟩

/-- Split, whatever it is asked. -/
theorem split_is (s t : ByteArray) (n k : Int) (h : splitOK s t n k = true) : ∃ N m : Nat, n = (N : Int) ∧ k = ((m + 1 : Nat) : Int) ∧ s.size = 32 ∧ t.size = 32 * m ∧ N ≤ 255 ∧ m + 1 ≤ N := by
  simp [splitOK] at h
  refine ⟨n.toNat, (k - 1).toNat, ?_, ?_, ?_, ?_, ?_, ?_⟩ <;> omega
end Go.Proofs.Ytidnlginjjgmjaa
