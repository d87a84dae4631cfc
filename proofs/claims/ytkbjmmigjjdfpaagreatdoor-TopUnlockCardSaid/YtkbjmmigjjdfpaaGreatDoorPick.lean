/-
  Shares of a secret, by their numbers: any m + 1 combine to it.
-/
import Derived.Test.YtkbjmmigjjdfpaaGreatDoorShr
import Derived.Test.YtkbjmmigjjdfpaaGreatDoorAt
namespace Go.Proofs.YtkbjmmigjjdfpaaGreatDoor
set_option linter.unusedVariables false

/-- Share i of a secret. -/
def pick (s t : List UInt8) (m i : Nat) : Shr := (((i + 1 : Nat) : Int), bs (shareL s t m i))
theorem shareL_len (s t : List UInt8) (m i : Nat) : (shareL s t m i).length = 32 := by simp [shareL]
theorem xsOf_pick (s t : List UInt8) (m : Nat) (ps : List Nat) : xsOf (ps.map (pick s t m)) = ps.map fun i => UInt8.ofNat (i + 1) := by
  rw [xsOf, List.map_map]
  rfl
theorem ysOf_pick (s t : List UInt8) (m : Nat) (ps : List Nat) (j : Nat) (hj : j < 32) : ysOf (ps.map (pick s t m)) j = (ps.map fun i => UInt8.ofNat (i + 1)).map (evalP (colL s t j m)) := by
  rw [ysOf, List.map_map, List.map_map]
  refine List.map_congr_left fun i hi => ?_
  simp only [Function.comp, pick, bs_data, shareL]
  simp [hj, shareB]
theorem xs_nodup (N : Nat) (ps : List Nat) (hN : N ≤ 255) (hlt : ∀ i ∈ ps, i < N) (hnd : ps.Nodup) : (ps.map fun i => UInt8.ofNat (i + 1)).Nodup := by
  refine List.pairwise_map.2 ?_
  refine List.Pairwise.imp_of_mem (R := fun a b => a ≠ b) (fun {a b} ha hb hne e => hne ?_) hnd
  have := congrArg UInt8.toNat e
  rw [UInt8.toNat_ofNat', UInt8.toNat_ofNat'] at this
  have h1 := hlt a ha
  have h2 := hlt b hb
  omega
theorem at_split (s t : List UInt8) (N m : Nat) (ps : List Nat) (hN : N ≤ 255) (hlt : ∀ i ∈ ps, i < N) (hnd : ps.Nodup) (hl : ps.length = m + 1) (hs : s.length = 32) : atL (ps.map (pick s t m)) 0 = s := by
  apply List.ext_getElem
  · simp [atL, hs]
  · intro j h1 h2
    have hj : j < 32 := by omega
    simp only [atL, List.getElem_map, List.getElem_range]
    rw [xsOf_pick, ysOf_pick s t m ps j hj, atP_eval _ _ (xs_nodup N ps hN hlt hnd) (by simp [colL, hl]) (by simp [hl])]
    rw [colL, evalP, zero_gm, x_zero, getD_at s j h2]
theorem pick_nodup (s t : List UInt8) (m : Nat) (ps : List Nat) (h : ps.Nodup) : ((ps.map (pick s t m)).map Prod.fst).Nodup := by
  rw [List.map_map]
  exact List.pairwise_map.2 (h.imp fun hne e => hne (by simp only [Function.comp, pick] at e; omega))
end Go.Proofs.YtkbjmmigjjdfpaaGreatDoor
