/-
  A holder to whom a second epoch is prepared and committed, plainly: what each sector holds.
-/
import Derived.Test.YtniglledpjheaaaGreatDoorHp
namespace Go.Proofs.YtniglledpjheaaaGreatDoor
set_option linter.unusedVariables false
set_option linter.unusedSimpArgs false

theorem T3.put2 (T : T3) (s : ByteArray) : ∃ m, (m = mark0 ∨ m = mark1) ∧ (T.put s).put s = ⟨m, s, s⟩ := by
  by_cases h : T.m = mark0
  · exact ⟨mark0, .inl rfl, by simp [T3.put, h, mark_ne]⟩
  · exact ⟨mark1, .inr rfl, by simp [T3.put, h]⟩
theorem mark_size {m : ByteArray} (h : m = mark0 ∨ m = mark1) : m.size = 1 := by rcases h with rfl | rfl <;> rfl
/-- A second epoch waits. -/
structure Ready2 (P : Plat) (h : Hd) (e x : Int) (b salt : ByteArray) : Prop where
  ex : ∃ A B : T3, P = pl A B ∧ A.ok ∧ B.ok ∧ A.get = (nowB h, true) ∧ B.get = (nextB e x b salt, true)
def fitE (e x : Int) (b salt : ByteArray) : Prop := 1 < e ∧ e ≤ 1000000 ∧ fitX x b salt
theorem held_prep {P : Plat} {x y e : Int} {b salt c yb ys : ByteArray} (h : Held P (hold 1 0 x b salt c)) (hx : fitX x b salt) (hc : c.size = 32) (hy : fitE e y yb ys) :
    (prepH P e y yb ys (-1)).2 = 0 ∧ Ready2 (prepH P e y yb ys (-1)).1 (hold 1 0 x b salt c) e y yb ys := by
  have eg := held_get h ⟨by omega, by omega⟩ ⟨by omega, by omega⟩ hx hc
  obtain ⟨A, B, rfl, hA, hB, gA, gB⟩ := h.ex
  obtain ⟨e0, e1, x0, x1, hb, hs⟩ := hy
  have hz := next_size (epoch := e) (x := y) (by omega) (by omega) hb hs
  have e2 : prepH (pl A B) e y yb ys (-1) = (pl A (B.put (nextB e y yb ys)), 0) := by
    unfold prepH
    rw [eg, if_neg (by simp), if_neg (by rintro (h | h | h | h) <;> omega), if_neg (by simp [hold]; omega), rowP3 hA hB hz]
  rw [e2]
  exact ⟨rfl, _, _, rfl, hA, T3.put_ok hB hz, gA, T3.get_put _⟩
theorem held_prep_not {P : Plat} {x y e : Int} {b salt c yb ys : ByteArray} (h : Held P (hold 1 0 x b salt c)) (hx : fitX x b salt) (hc : c.size = 32) (hy : ¬ fitE e y yb ys) :
    ∃ r, prepH P e y yb ys (-1) = (noPlat, r) ∧ r ≠ 0 := by
  have eg := held_get h ⟨by omega, by omega⟩ ⟨by omega, by omega⟩ hx hc
  unfold prepH
  rw [eg, if_neg (by simp)]
  by_cases hf : y < 1 ∨ 255 < y ∨ yb.size ≠ 32 ∨ ys.size ≠ 16
  · rw [if_pos hf]
    exact ⟨_, rfl, by decide⟩
  · rw [if_neg hf, if_pos (by
      simp only [not_or, Decidable.not_not] at hf
      simp only [hold]
      by_cases h1 : 1 < e
      · exact .inr (by
          refine Int.not_le.1 fun h2 => hy ⟨h1, h2, ?_, ?_, hf.2.2.1, hf.2.2.2⟩ <;> omega)
      · exact .inl (by omega))]
    exact ⟨_, rfl, by decide⟩
/-- What a disk holds behind a whole Commit. -/
def sixS (m m' own : ByteArray) : Plat := ⟨[m, own, own, m', none0, none0], []⟩
theorem ready2_commit {P : Plat} {e x : Int} {b salt : ByteArray} {x1 : Int} {b1 s1 c : ByteArray} (h : Ready2 P (hold 1 0 x1 b1 s1 c) e x b salt) (hx1 : fitX x1 b1 s1) (hc : c.size = 32) (hx : fitE e x b salt) :
    ∃ m m', (m = mark0 ∨ m = mark1) ∧ (m' = mark0 ∨ m' = mark1) ∧ commitH P e (-1) = (sixS m m' (nowB (hold e 0 x b salt c)), 0) ∧ Held (sixS m m' (nowB (hold e 0 x b salt c))) (hold e 0 x b salt c) := by
  obtain ⟨A, B, rfl, hA, hB, gA, gB⟩ := h.ex
  obtain ⟨e0, e1, hf⟩ := hx
  have eg : getH (pl A B) = ({ hold 1 0 x1 b1 s1 c with next := e, nx := x, nb := b, nsalt := salt }, 0) := by
    rw [getH_pl hA hB, gA, gB]
    rw [read_now (hold_good ⟨by omega, by omega⟩ ⟨by omega, by omega⟩ hx1 hc)]
    simp only []
    rw [read_next _ (by omega) (by omega) hf.1 hf.2.1 hf.2.2.1 hf.2.2.2]
    simp [hold, noHd]
  have hz := now_size (hold_good (e := e) (t := 0) ⟨by omega, by omega⟩ ⟨by omega, by omega⟩ hf hc)
  have hn0 : none0.size ≤ 128 := by decide
  have e2 : commitH (pl A B) e (-1) = (pl ((A.put (nowB (hold e 0 x b salt c))).put (nowB (hold e 0 x b salt c))) ((B.put none0).put none0), 0) := by
    unfold commitH
    rw [eg, if_neg (by simp), if_neg (by simp [hold]; omega), if_neg (by simp [hold]; omega)]
    exact rowP4 hA hB hz hn0
  obtain ⟨m, hm, em⟩ := T3.put2 A (nowB (hold e 0 x b salt c))
  obtain ⟨m', hm', em'⟩ := T3.put2 B none0
  have ok1 := T3.put_ok (T3.put_ok hA hz) hz
  have ok2 := T3.put_ok (T3.put_ok hB hn0) hn0
  have g1 := T3.get_put (T := A.put (nowB (hold e 0 x b salt c))) (nowB (hold e 0 x b salt c))
  have g2 := T3.get_put (T := B.put none0) none0
  rw [em] at e2 ok1 g1
  rw [em'] at e2 ok2 g2
  exact ⟨m, m', hm, hm', e2, ⟨_, _, rfl, ok1, ok2, g1, g2⟩⟩
theorem crash_six {m m' own : ByteArray} {h : Hd} (hh : Held (sixS m m' own) h) (fs : List Int) : crashP fs (sixS m m' own) = (sixS m m' own, 0) := by
  have hk : checkB (sixS m m' own) = true := by
    obtain ⟨A, B, e, hA, hB, _⟩ := hh.ex
    rw [e]
    exact pl_check hA hB
  unfold crashP settleP
  rw [hk]
  rfl
end Go.Proofs.YtniglledpjheaaaGreatDoor
