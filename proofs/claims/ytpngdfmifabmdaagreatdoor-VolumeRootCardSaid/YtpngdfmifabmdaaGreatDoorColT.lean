/-
  Plain: two rows of texts with one root, and where they are unlike.
-/
import Derived.Test.YtpngdfmifabmdaaGreatDoorTrT
namespace Go.Proofs.YtpngdfmifabmdaaGreatDoor
open Go.RowKit
set_option linter.unusedVariables false

def noX : ByteArray := ⟨#[]⟩
/-- The text of which the digest at place j of the row of height h is the Sum. -/
def toldT (l : List ByteArray) (h j : Nat) : ByteArray := if h = 0 then leafX (l.getD j noX) else nodeX ((lev l (h - 1)).getD (2 * j) noX) ((lev l (h - 1)).getD (2 * j + 1) noX)
def sumT (s : ByteArray) : ByteArray := bs (sumL s.data.toList)
theorem lev_pow' {l : List ByteArray} {H h : Nat} (hl : l.length = 2 ^ H) (hh : h ≤ H) : (lev l h).length = 2 ^ (H - h) := by rw [lev_len, hl, Nat.pow_div hh (by omega)]
theorem told_sum {l : List ByteArray} {H h j : Nat} (hl : l.length = 2 ^ H) (hh : h ≤ H) (hj : j < 2 ^ (H - h)) : (lev l h).getD j noX = sumT (toldT l h j) := by
  cases h with
  | zero =>
    have hj2 : j < l.length := by rw [hl]; simpa using hj
    rw [toldT, if_pos rfl, lev, List.getD_eq_getElem?_getD, List.getElem?_map, List.getElem?_eq_getElem hj2, List.getD_eq_getElem?_getD, List.getElem?_eq_getElem hj2]
    rfl
  | succ h =>
    have hp := lev_pow' (h := h) hl (by omega)
    have h2 : 2 ^ (H - h) = 2 * 2 ^ (H - (h + 1)) := by rw [show H - h = (H - (h + 1)) + 1 by omega, Nat.pow_succ]; omega
    have hb : 2 * j + 1 < (lev l h).length := by rw [hp, h2]; omega
    rw [toldT, if_neg (by omega), Nat.add_sub_cancel, lev, List.getD_eq_getElem?_getD, pairs_get _ _ hb, List.getD_eq_getElem?_getD, List.getElem?_eq_getElem (show 2 * j < _ by omega), List.getD_eq_getElem?_getD, List.getElem?_eq_getElem hb]
    rfl
/-- The first i rows from the root down: heights and places. -/
def downL (H i : Nat) : List (Nat × Nat) := (List.range i).flatMap fun r => (List.range (2 ^ r)).map fun j => (H - r, j)
theorem downL_succ (H i : Nat) : downL H (i + 1) = downL H i ++ (List.range (2 ^ i)).map fun j => (H - i, j) := by
  rw [downL, List.range_succ, List.flatMap_append, ← downL]
  simp
theorem downL_mem {H i : Nat} {x : Nat × Nat} : x ∈ downL H i ↔ ∃ r, r < i ∧ x.1 = H - r ∧ x.2 < 2 ^ r := by
  constructor
  · intro h
    obtain ⟨r, hr, hx⟩ := List.mem_flatMap.1 h
    obtain ⟨j, hj, rfl⟩ := List.mem_map.1 hx
    exact ⟨r, List.mem_range.1 hr, rfl, List.mem_range.1 hj⟩
  · rintro ⟨r, hr, h1, h2⟩
    exact List.mem_flatMap.2 ⟨r, List.mem_range.2 hr, List.mem_map.2 ⟨x.2, List.mem_range.2 h2, by rw [← h1]⟩⟩
theorem downL_pre {H i k : Nat} (h : i ≤ k) : downL H i <+: downL H k := by
  obtain ⟨d, rfl⟩ := Nat.exists_eq_add_of_le h
  clear h
  induction d with
  | zero => exact List.prefix_refl _
  | succ d ih => rw [← Nat.add_assoc, downL_succ]; exact ih.trans (List.prefix_append _ _)
theorem pre_before {α : Type} {p A L : List α} {x : α} (h : p ++ [x] <+: L) (hA : A <+: L) (hx : x ∉ A) : A <+: p := by
  have hp : p <+: L := (List.prefix_append p [x]).trans h
  by_cases hl : A.length ≤ p.length
  · exact List.prefix_of_prefix_length_le hA hp hl
  · have : p ++ [x] <+: A := List.prefix_of_prefix_length_le h hA (by rw [List.length_append]; simp; omega)
    exact absurd (this.subset (by simp)) hx
theorem app_inj {a b c d : ByteArray} (h : a.size = c.size) (e : a ++ b = c ++ d) : a = c ∧ b = d := by
  have e2 : a.data.toList ++ b.data.toList = c.data.toList ++ d.data.toList := by
    have := congrArg (fun x => x.data.toList) e
    simpa using this
  have hl : a.data.toList.length = c.data.toList.length := by simpa using h
  obtain ⟨h1, h2⟩ := List.append_inj e2 hl
  exact ⟨by apply ByteArray.ext; exact Array.toList_inj.1 h1, by apply ByteArray.ext; exact Array.toList_inj.1 h2⟩
theorem node_inj {a b c d : ByteArray} (h : a.size = c.size) (e : nodeX a b = nodeX c d) : a = c ∧ b = d := by
  unfold nodeX at e
  obtain ⟨e1, e2⟩ := app_inj (by rw [ByteArray.size_append, ByteArray.size_append, h]) e
  exact ⟨(app_inj rfl e1).2, e2⟩
theorem leaf_inj {a b : ByteArray} (e : leafX a = leafX b) : a = b := (app_inj rfl e).2
theorem lev_getD_size {l : List ByteArray} {h j : Nat} (hj : j < (lev l h).length) : ((lev l h).getD j noX).size = 32 := by
  rw [List.getD_eq_getElem?_getD, List.getElem?_eq_getElem hj]
  exact lev_size l h _ (List.getElem_mem hj)
/-- Where they are first unlike, they have one digest. -/
theorem found_sum {l m : List ByteArray} {H : Nat} (hl : l.length = 2 ^ H) (hm : m.length = 2 ^ H) (hr : rootH l H = rootH m H) {p : List (Nat × Nat)} {x : Nat × Nat} (hp : p ++ [x] <+: downL H (H + 1)) (he : ∀ q ∈ p, toldT l q.1 q.2 = toldT m q.1 q.2) :
    sumT (toldT l x.1 x.2) = sumT (toldT m x.1 x.2) := by
  obtain ⟨r, hr1, hx1, hx2⟩ := downL_mem.1 (hp.subset (show x ∈ p ++ [x] by simp))
  obtain ⟨h, j⟩ := x
  simp only at hx1 hx2 ⊢
  subst hx1
  have hHr : H - (H - r) = r := by omega
  rw [← told_sum hl (by omega) (by rw [hHr]; exact hx2), ← told_sum hm (by omega) (by rw [hHr]; exact hx2)]
  cases r with
  | zero =>
    obtain rfl : j = 0 := by simpa using hx2
    rw [Nat.sub_zero, rootH_is hl, rootH_is hm, hr]
  | succ r =>
    have hpar : (H - r, j / 2) ∈ p := by
      have hA : downL H (r + 1) <+: p := pre_before hp (downL_pre (by omega)) (fun hc => by
        obtain ⟨r', h1, h2, h3⟩ := downL_mem.1 hc
        simp only at h2
        omega)
      exact hA.subset (downL_mem.2 ⟨r, by omega, rfl, by simp only; rw [Nat.pow_succ] at hx2; omega⟩)
    have e := he _ hpar
    simp only [toldT] at e
    rw [if_neg (by omega), if_neg (by omega)] at e
    have hh : H - r - 1 = H - (r + 1) := by omega
    rw [hh] at e
    have hj2 : 2 * (j / 2) + 1 < 2 ^ (r + 1) := by rw [Nat.pow_succ] at hx2 ⊢; omega
    have hll := lev_pow' (h := H - (r + 1)) hl (by omega)
    have hml := lev_pow' (h := H - (r + 1)) hm (by omega)
    rw [show H - (H - (r + 1)) = r + 1 by omega] at hll hml
    obtain ⟨e1, e2⟩ := node_inj (by rw [lev_getD_size (by omega), lev_getD_size (by omega)]) e
    rcases Nat.mod_two_eq_zero_or_one j with h0 | h0
    · rw [show 2 * (j / 2) = j by omega] at e1
      exact e1
    · rw [show 2 * (j / 2) + 1 = j by omega] at e2
      exact e2
/-- If all that is told is alike, so are the texts. -/
theorem alike_all {l m : List ByteArray} {H : Nat} (hl : l.length = 2 ^ H) (hm : m.length = 2 ^ H) (he : ∀ q ∈ downL H (H + 1), toldT l q.1 q.2 = toldT m q.1 q.2) : l = m := by
  apply List.ext_getElem (by rw [hl, hm])
  intro j h1 h2
  have e := he (0, j) (downL_mem.2 ⟨H, by omega, by simp, by simp only; rw [← hl]; exact h1⟩)
  simp only [toldT, if_pos] at e
  have e2 := leaf_inj e
  rw [List.getD_eq_getElem?_getD, List.getElem?_eq_getElem h1, List.getD_eq_getElem?_getD, List.getElem?_eq_getElem h2] at e2
  exact e2
end Go.Proofs.YtpngdfmifabmdaaGreatDoor
