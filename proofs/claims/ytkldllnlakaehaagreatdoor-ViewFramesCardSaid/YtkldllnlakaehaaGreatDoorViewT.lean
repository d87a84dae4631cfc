/-
  The plain law of shares that are seen: a tape told from kept shares splits another secret to just these; told back it is the tape that it was.
-/
import Derived.Test.YtkldllnlakaehaaGreatDoorRemap
namespace Go.Proofs.YtkldllnlakaehaaGreatDoor
set_option linter.unusedVariables false

theorem xsOf_gets (s t : List UInt8) (N m : Nat) (ps : List Nat) (hlt : ∀ i ∈ ps, i < N) : xsOf (gets (splitL s t N m) ps) = ps.map fun i => UInt8.ofNat (i + 1) := by
  rw [xsOf, gets, List.map_map]
  refine List.map_congr_left fun i hi => ?_
  simp only [Function.comp]
  rw [splitL_at s t N m i (hlt i hi)]
  rfl
theorem ysOf_gets (s t : List UInt8) (N m : Nat) (ps : List Nat) (hlt : ∀ i ∈ ps, i < N) (j : Nat) (hj : j < 32) : ysOf (gets (splitL s t N m) ps) j = ps.map fun i => shareB s t m i j := by
  rw [ysOf, gets, List.map_map]
  refine List.map_congr_left fun i hi => ?_
  simp only [Function.comp]
  rw [splitL_at s t N m i (hlt i hi), bs_data, shareL]
  simp [hj]
theorem xs_good (N : Nat) (ps : List Nat) (hN : N ≤ 255) (hlt : ∀ i ∈ ps, i < N) (hnd : ps.Nodup) : (ps.map fun i => UInt8.ofNat (i + 1)).Nodup ∧ (0 : UInt8) ∉ ps.map fun i => UInt8.ofNat (i + 1) := by
  refine ⟨?_, fun h => ?_⟩
  · refine List.pairwise_map.2 ?_
    refine List.Pairwise.imp_of_mem (R := fun a b => a ≠ b) (fun {a b} ha hb hne e => hne ?_) hnd
    have := congrArg UInt8.toNat e
    rw [UInt8.toNat_ofNat', UInt8.toNat_ofNat'] at this
    have h1 := hlt a ha
    have h2 := hlt b hb
    omega
  · obtain ⟨i, hi, e⟩ := List.mem_map.1 h
    have := congrArg UInt8.toNat e
    rw [UInt8.toNat_ofNat'] at this
    have h1 := hlt i hi
    have h0 : (0 : UInt8).toNat = 0 := rfl
    omega
/-- Told back it is the tape that it was. -/
theorem tape_back (s t : List UInt8) (N m : Nat) (ps : List Nat) (hN : N ≤ 255) (hlt : ∀ i ∈ ps, i < N) (hnd : ps.Nodup) (hl : ps.length = m) (ht : t.length = 32 * m) : tapeOut s (gets (splitL s t N m) ps) = t := by
  obtain ⟨g1, g2⟩ := xs_good N ps hN hlt hnd
  apply List.ext_getElem
  · simp [tapeOut, gets, hl, ht, Nat.mul_comm]
  · intro p h1 h2
    have hp : p < 32 * m := by omega
    simp only [tapeOut, List.getElem_map, List.getElem_range]
    have hj : p % 32 < 32 := Nat.mod_lt _ (by omega)
    have hq : p / 32 < m := by omega
    rw [xsOf_gets s t N m ps hlt, ysOf_gets s t N m ps hlt _ hj]
    have e : (ps.map fun i => shareB s t m i (p % 32)) = (ps.map fun i => UInt8.ofNat (i + 1)).map (evalP (s.getD (p % 32) 0 :: (List.range m).map fun q => t.getD (p % 32 + 32 * q) 0)) := by
      rw [List.map_map]
      rfl
    rw [e, tapeP_back _ _ _ g1 g2 (by simp [hl]), getD_at _ _ (by simpa using hq)]
    simp only [List.getElem_map, List.getElem_range]
    rw [show p % 32 + 32 * (p / 32) = p by omega, getD_at _ _ h2]
theorem tapeOut_len (o : List UInt8) (l : List Shr) : (tapeOut o l).length = l.length * 32 := by simp [tapeOut]
/-- By the tape that is told another secret has the same shares where they were kept. -/
theorem tape_forth (s t o : List UInt8) (N m : Nat) (ps : List Nat) (hN : N ≤ 255) (hlt : ∀ i ∈ ps, i < N) (hnd : ps.Nodup) (hl : ps.length = m) (i : Nat) (hi : i ∈ ps) :
    shareL o (tapeOut o (gets (splitL s t N m) ps)) m i = shareL s t m i := by
  obtain ⟨g1, g2⟩ := xs_good N ps hN hlt hnd
  refine List.map_congr_left fun j hj => ?_
  have hj : j < 32 := by simpa using hj
  obtain ⟨k, hk, hki⟩ := List.mem_iff_getElem.1 hi
  have key := tapeP_at (o.getD j 0) (ps.map fun i => UInt8.ofNat (i + 1)) (ps.map fun i => shareB s t m i j) g1 g2 (by simp) k (by simpa using hk)
  have hlen := tapeP_len (o.getD j 0) (ps.map fun i => UInt8.ofNat (i + 1)) (ps.map fun i => shareB s t m i j) g1 g2 (by simp)
  rw [List.length_map, hl] at hlen
  simp only [List.getElem_map, hki] at key
  rw [shareB, ← key]
  congr 1
  rw [colL]
  congr 1
  apply List.ext_getElem
  · rw [hlen]
    simp
  · intro q h1 h2
    have hq : q < m := by simpa using h1
    simp only [List.getElem_map, List.getElem_range]
    rw [tapeOut, getD_at _ _ (by simp [gets, hl]; omega)]
    simp only [List.getElem_map, List.getElem_range]
    rw [show (j + 32 * q) % 32 = j by omega, show (j + 32 * q) / 32 = q by omega, xsOf_gets s t N m ps hlt, ysOf_gets s t N m ps hlt j hj, getD_at _ _ (by omega)]
theorem gets_forth (s t o : List UInt8) (N m : Nat) (ps qs : List Nat) (hN : N ≤ 255) (hlt : ∀ i ∈ ps, i < N) (hnd : ps.Nodup) (hl : ps.length = m) (hq : ∀ i ∈ qs, i ∈ ps) :
    gets (splitL o (tapeOut o (gets (splitL s t N m) ps)) N m) qs = gets (splitL s t N m) qs := by
  refine List.map_congr_left fun i hi => ?_
  have h1 := hq i hi
  rw [splitL_at _ _ N m i (hlt i h1), splitL_at _ _ N m i (hlt i h1), tape_forth s t o N m ps hN hlt hnd hl i h1]
/-- The places that Remap keeps. -/
theorem pos_facts (ws : List Bool) (N m : Nat) (hm : m + 1 ≤ N) (hK : (hasPos ws N).length ≤ m) : (∀ i ∈ (posTo ws (m - (hasPos ws N).length) N).1, i < N) ∧ (posTo ws (m - (hasPos ws N).length) N).1.Nodup ∧ (posTo ws (m - (hasPos ws N).length) N).1.length = m ∧ ∀ i ∈ hasPos ws N, i ∈ (posTo ws (m - (hasPos ws N).length) N).1 := by
  obtain ⟨q1, q2, q3⟩ := posTo_count ws (m - (hasPos ws N).length) N
  refine ⟨posTo_lt _ _ _, posTo_nodup _ _ _, ?_, q3⟩
  rcases Nat.eq_zero_or_pos (posTo ws (m - (hasPos ws N).length) N).2 with h | h
  · omega
  · have := q2 h
    omega
end Go.Proofs.YtkldllnlakaehaaGreatDoor
