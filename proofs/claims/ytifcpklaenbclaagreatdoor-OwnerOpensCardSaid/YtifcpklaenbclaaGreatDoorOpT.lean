/-
  Plain: what OwnerOpens says.
-/
import Derived.Test.YtifcpklaenbclaaGreatDoorBlT
import Derived.Test.YtifcpklaenbclaaGreatDoorOt
namespace Go.Proofs.YtifcpklaenbclaaGreatDoor
open Go.RowKit
set_option linter.unusedVariables false

def picks (ws : List Bool) (i : Nat) : List Nat := (List.range i).filter fun j => ws.getD j false
theorem picks_len (ws : List Bool) (i : Nat) : (picks ws i).length ≤ i := by
  have := List.length_filter_le (fun j => ws.getD j false) (List.range i)
  simpa [picks] using this
theorem picks_yes {ws : List Bool} {i : Nat} (h : ws.getD i false = true) : picks ws (i + 1) = picks ws i ++ [i] := by
  unfold picks
  rw [List.range_succ, List.filter_append]
  congr 1
  rw [List.filter_cons, if_pos h]
  rfl
theorem picks_no {ws : List Bool} {i : Nat} (h : ws.getD i false = false) : picks ws (i + 1) = picks ws i := by
  unfold picks
  rw [List.range_succ, List.filter_append]
  rw [List.filter_cons, if_neg (by rw [h]; simp)]
  simp
def allA (D : Deal) (ls : List Ans) (ws : List Bool) (i : Nat) : List Ans := ls ++ (picks ws i).map (ansD D)
theorem allA_len (D : Deal) (ls : List Ans) (ws : List Bool) (i : Nat) : (allA D ls ws i).length = ls.length + (picks ws i).length := by simp [allA]
theorem allA_yes {D : Deal} {ls : List Ans} {ws : List Bool} {i : Nat} (h : ws.getD i false = true) : allA D ls ws (i + 1) = allA D ls ws i ++ [ansD D i] := by
  unfold allA
  rw [picks_yes h, List.map_append, ← List.append_assoc]
  rfl
theorem allA_no {D : Deal} {ls : List Ans} {ws : List Bool} {i : Nat} (h : ws.getD i false = false) : allA D ls ws (i + 1) = allA D ls ws i := by
  unfold allA
  rw [picks_no h]
theorem picks_hits {D : Deal} {m : Nat} {t : List UInt8} (g : Good D m t) (ls : List Ans) (ws : List Bool) {i : Nat} (hi : i ≤ D.r.ns.length) : (picks ws i).length ≤ (hits D.r (allA D ls ws i) D.r.ns.length).length := by
  unfold hits
  have h1 : (picks ws i).length ≤ ((List.range i).filter (hit D.r (allA D ls ws i))).length := by
    unfold picks
    rw [← List.countP_eq_length_filter, ← List.countP_eq_length_filter]
    refine List.countP_mono_left fun j hj hw => ?_
    have hji := List.mem_range.1 hj
    refine hit_of (a := ansD D j) ?_ (fit_own g (by omega)) rfl
    unfold allA picks
    exact List.mem_append.2 (.inr (List.mem_map.2 ⟨j, List.mem_filter.2 ⟨hj, hw⟩, rfl⟩))
  refine Nat.le_trans h1 ?_
  rw [← List.countP_eq_length_filter, ← List.countP_eq_length_filter]
  exact (List.range_sublist.2 hi).countP_le
theorem opens_law {D : Deal} {m : Nat} {t : List UInt8} (g : Good D m t) (ls : List Ans) (ws : List Bool) {i : Nat} (hi : i ≤ D.r.ns.length) (hk : ¬ ((picks ws i).length : Int) < D.r.k) {nonce master : ByteArray} (hw : wrapE D.sec nonce master = 0) :
    (unlE D.r (allA D ls ws i) (wrapS D.sec nonce master) = 0 ∧ unlS D.r (allA D ls ws i) (wrapS D.sec nonce master) = master) ∨
    ∃ a, blamed D (allA D ls ws i) = some a ∧ blB D a = true ∧ blP D a ≠ blQ D a ∧ bs (sumL (blP D a).data.toList) = bs (sumL (blQ D a).data.toList) := by
  rcases dealt_or (D := D) (ls := allA D ls ws i) with h | ⟨a, h1, h2, h3⟩
  · left
    refine opens g h ?_ hw
    have := picks_hits g ls ws hi
    have hkk := g.kk
    omega
  · exact .inr ⟨a, h1, blamed_shows g h2 h3⟩
theorem wit_size (s : ByteArray) (p : Shr) (o : ByteArray) (q : Shr) : (witP s p o q).size ≤ 1000 ∧ (witQ s p o q).size ≤ 1000 := by
  unfold witP witQ
  cases h : witB s p o q with
  | false => exact ⟨by rw [if_neg (by simp)]; exact Nat.zero_le _, by rw [if_neg (by simp)]; exact Nat.zero_le _⟩
  | true =>
    rw [if_pos rfl, if_pos rfl]
    have h2 := h
    unfold witB at h2
    simp only [Bool.and_eq_true] at h2
    obtain ⟨a1, a2, a3, a4⟩ := bright_is h2.1.1.1
    obtain ⟨b1, b2, b3, b4⟩ := bright_is h2.1.1.2
    have hpt : pledgeT.size = 6 := rfl
    constructor
    · simp only [btextB, ByteArray.size_append, bs_size, List.length_cons, List.length_nil, a1, a4, hpt]; omega
    · simp only [btextB, ByteArray.size_append, bs_size, List.length_cons, List.length_nil, b1, b4, hpt]; omega
end Go.Proofs.YtifcpklaenbclaaGreatDoor
