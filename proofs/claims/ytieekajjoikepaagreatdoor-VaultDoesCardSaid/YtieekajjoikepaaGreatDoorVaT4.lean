/-
  The vault, plainly: a Store that lays no head, crashed; the document's rows.
-/
import Derived.Test.YtieekajjoikepaaGreatDoorVt
import Derived.Test.YtieekajjoikepaaGreatDoorVolC
namespace Go.Proofs.YtieekajjoikepaaGreatDoor
set_option linter.unusedVariables false
set_option linter.unusedSimpArgs false

theorem few_crash {P : Plat} {n gen area : Nat} {V0 : Vol} (h : Vt P n gen area V0) (hc : P.cs = []) {V : Vol} (g : Good V n gen) {deeds : Int} (hd : allN n deeds ≤ n) (fates : List Int) :
    ∃ Q R, storeP P V deeds = (Q, false, 0) ∧ crashP fates Q = (R, 0) ∧ R.cs = [] ∧ Vt R n gen area V0 := by
  have ha := h.area.1
  have hl := h.len
  have hv := (count_le h.cnt).2
  have e := store_few h g hd
  rw [if_pos (by rw [hc]; simp; omega)] at e
  have hk := check_lay h.chk g.cv (area := area) h.len ha hd (by rw [hc]; simp; omega)
  obtain ⟨R, r1, r2, r3, r4, r5, r6⟩ := crash_is hk fates
  have ho : ∀ i : Nat, i < 3 + (1 - area) * n ∨ 3 + (1 - area) * n + n ≤ i → readS R (i : Int) = P.ss.getD i none0 := fun i hi => r6 i fun c hc' => by
    simp only [hc, List.nil_append] at hc'
    obtain ⟨j, hj, e, _⟩ := layC_mem hc'
    omega
  refine ⟨_, R, e, r1, r3, h.same r5 r4 ?_ ?_ fun i hi => ?_⟩
  · exact (ho 0 (.inl (by omega))).trans (readS_clean hc 0).symm
  · split
    · exact (ho 1 (.inl (by omega))).trans (readS_clean hc 1).symm
    · exact (ho 2 (.inl (by omega))).trans (readS_clean hc 2).symm
  · exact (ho _ (blk_other ha hi).1).trans (readS_clean hc _).symm
def diskF : Plat := (formatP 2).1
theorem vF : formatP 2 = (diskF, 0) ∧ diskF.cs = [] ∧ Vt diskF 2 0 0 (rooted bl0) := by
  obtain ⟨h1, h2, h3⟩ := format_vt (n := 2) (by decide)
  exact ⟨by rw [diskF, ← h1], h2, h3⟩
theorem goodW : Good (rooted bl1) 2 0 := ⟨keeps_check write0.2.2, rfl, rfl, by omega⟩
def diskA : Plat := (storeP diskF (rooted bl1) 2).1
def diskB : Plat := (crashP [] diskA).1
def diskC : Plat := (storeP diskF (rooted bl1) (-1)).1
theorem storeA : storeP diskF (rooted bl1) 2 = (diskA, false, 0) ∧ crashP [] diskA = (diskB, 0) ∧ openP diskB = (⟨2, 0, 0, rooted bl0⟩, 0) := by
  obtain ⟨Q, R, h1, h2, h3, h4⟩ := few_crash vF.2.2 vF.2.1 goodW (deeds := 2) (by decide) []
  have e : diskA = Q := by rw [diskA, h1]
  have e2 : diskB = R := by rw [diskB, e, h2]
  rw [e2, e]
  exact ⟨h1, h2, h4.open⟩
theorem storeC : storeP diskF (rooted bl1) (-1) = (diskC, true, 0) ∧ openP diskC = (⟨2, 1, 1, rooted bl1⟩, 0) := by
  have h1 := store_ok vF.2.2 vF.2.1 goodW (-1)
  have h2 : storeP diskF (rooted bl1) (-1) = (diskC, (storeP diskF (rooted bl1) (-1)).2.1, 0) := by
    unfold diskC
    generalize storeP diskF (rooted bl1) (-1) = r at h1 ⊢
    obtain ⟨a, b, c⟩ := r
    simp only at h1 ⊢
    rw [h1]
  obtain ⟨h3, h4⟩ := store_back vF.2.2 h2
  exact ⟨by rw [h2, h3], h4.open⟩
theorem headV1 : (headS 1 0 (rootT bl0)).size = 37 := vh_size (by
  have h : (rootT bl0).size = 32 := (vol_parts check0V).2.1
  simp [vhB, h])
theorem headV2 : headS 1 2 (rootT bl0) = none0 := by
  rw [headS, if_neg (by simp [vhB])]
end Go.Proofs.YtieekajjoikepaaGreatDoor
