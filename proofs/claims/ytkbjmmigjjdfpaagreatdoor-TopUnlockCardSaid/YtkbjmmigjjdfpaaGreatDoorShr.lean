/-
  Shares as digits: small facts.
-/
import Derived.Test.YtkbjmmigjjdfpaaGreatDoorRight
import Derived.Test.YtkbjmmigjjdfpaaGreatDoorPa
namespace Go.Proofs.YtkbjmmigjjdfpaaGreatDoor
open Go.RowKit
set_option linter.unusedVariables false
set_option maxRecDepth 100000

/-- The places of shares, and their bytes j. -/
def xsOf (l : List Shr) : List UInt8 := l.map fun p => UInt8.ofNat p.1.toNat
def ysOf (l : List Shr) (j : Nat) : List UInt8 := l.map fun p => p.2.data.toList.getD j 0
/-- What a share's digits are. -/
theorem right_digits {l : List Shr} {least : Int} (h : rightB l least = true) (h0 : 0 ≤ least) : l.map Prod.fst = nums (xsOf l) ∧ (∀ p ∈ l, p.2.size = 32) ∧ (xsOf l).Nodup ∧ 1 ≤ l.length ∧ l.length ≤ 255 ∧ (1 ≤ least → (0 : UInt8) ∉ xsOf l) := by
  simp only [rightB, Bool.and_eq_true, decide_eq_true_eq, List.all_eq_true] at h
  obtain ⟨⟨⟨h1, h2⟩, h3⟩, h4⟩ := h
  have hx : ∀ p ∈ l, p.1 = ((UInt8.ofNat p.1.toNat).toNat : Int) ∧ p.2.size = 32 ∧ least ≤ p.1 := fun p hp => by
    have := h3 p hp
    simp [okS] at this
    refine ⟨?_, this.2, this.1.1⟩
    rw [UInt8.toNat_ofNat']
    omega
  have e : l.map Prod.fst = nums (xsOf l) := by
    rw [nums, xsOf, List.map_map]
    exact List.map_congr_left fun p hp => (hx p hp).1
  refine ⟨e, fun p hp => (hx p hp).2.1, ?_, h1, h2, fun hl h0' => ?_⟩
  · rw [e] at h4
    exact (List.pairwise_map.1 h4).imp fun h e => h (by rw [e])
  · obtain ⟨p, hp, e0⟩ := List.mem_map.1 h0'
    have h5 := hx p hp
    rw [e0] at h5
    have : p.1 = 0 := h5.1
    omega

end Go.Proofs.YtkbjmmigjjdfpaaGreatDoor
