/-
  Plain: the order of answers of unlike names plays no part.
-/
import Derived.Test.YtifcpklaenbclaaGreatDoorOw4
namespace Go.Proofs.YtifcpklaenbclaaGreatDoor
set_option linter.unusedVariables false

theorem find_rev {α : Type} {p : α → Bool} : ∀ {l : List α}, l.Pairwise (fun a b => ¬ (p a = true ∧ p b = true)) → l.reverse.find? p = l.find? p
  | [], _ => rfl
  | a :: l, h => by
    rw [List.pairwise_cons] at h
    rw [List.reverse_cons, List.find?_append, find_rev h.2]
    cases ha : p a with
    | false =>
      rw [List.find?_cons_of_neg (by simp [ha]), List.find?_cons_of_neg (by simp [ha])]
      simp
    | true =>
      rw [List.find?_cons_of_pos ha, List.find?_cons_of_pos ha]
      have : l.find? p = none := List.find?_eq_none.2 fun b hb hp => h.1 b hb ⟨ha, hp⟩
      rw [this]
      rfl
theorem first_rev {ls : List Ans} (h : ls.Pairwise fun a b => a.nm ≠ b.nm) (r : Rec) (nm : ByteArray) : firstF r ls.reverse nm = firstF r ls nm := by
  unfold firstF
  rw [find_rev]
  refine h.imp fun {a b} hab => ?_
  rintro ⟨h1, h2⟩
  simp only [tells, Bool.false_or, Bool.and_eq_true, decide_eq_true_eq] at h1 h2
  exact hab (h1.1.trans h2.1.symm)
theorem chosen_rev {ls : List Ans} (h : ls.Pairwise fun a b => a.nm ≠ b.nm) (r : Rec) : chosenL r ls.reverse = chosenL r ls := by
  have : firstF r ls.reverse = firstF r ls := funext (first_rev h r)
  unfold chosenL firstsL
  rw [this]
theorem unl_rev {ls : List Ans} (h : ls.Pairwise fun a b => a.nm ≠ b.nm) (r : Rec) (wp : ByteArray) : unlE r ls.reverse wp = unlE r ls wp ∧ unlS r ls.reverse wp = unlS r ls wp := by
  unfold unlE unlS
  rw [chosen_rev h r]
  exact ⟨rfl, rfl⟩
end Go.Proofs.YtifcpklaenbclaaGreatDoor
