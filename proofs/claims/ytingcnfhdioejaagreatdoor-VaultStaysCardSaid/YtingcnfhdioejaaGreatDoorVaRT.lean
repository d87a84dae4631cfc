/-
  A script of stored volumes, plainly: what is so of the disk between two steps, and what a step does.
-/
import Derived.Test.YtingcnfhdioejaaGreatDoorVaT4
import Derived.Test.YtingcnfhdioejaaGreatDoorVolT2
namespace Go.Proofs.YtingcnfhdioejaaGreatDoor
open Go.RowKit
set_option linter.unusedVariables false

/-- Between two steps: a vault of a volume whose blocks hold texts. -/
structure RowI (key : ByteArray) (n i : Nat) (P : Plat) : Prop where
  ex : ∃ gen area bl want, Vt P n gen area (rooted bl) ∧ P.cs = [] ∧ Keeps key bl want ∧ gen ≤ i
theorem row_start {n : Nat} (key : ByteArray) (h : countB n = true) : (formatP n).2 = 0 ∧ RowI key n 0 (formatP n).1 := by
  obtain ⟨h1, h2, h3⟩ := format_vt h
  exact ⟨h1, _, _, _, _, h3, h2, keeps_new key h, Nat.le_refl _⟩
/-- What a step does. -/
structure RowS (key nonce : ByteArray) (n i : Nat) (P : Plat) (k : Nat) (s : ByteArray) (d : Int) (fs : List Int) (gen area : Nat) (V V' : Vol) (Q : Plat) (done : Bool) (R : Plat) : Prop where
  op : openP P = (⟨n, gen, area, V⟩, 0)
  we : writeE V key nonce (k : Int) s = 0
  wv : writeV V key nonce (k : Int) s = V'
  vl : V.bl.length = n
  vl' : V'.bl.length = n
  gn : gen ≤ i
  st : storeP P V' d = (Q, done, 0)
  cr : crashP fs Q = (R, 0)
  rl : R.ss.length = 3 + 2 * n
  ri : RowI key n (i + 1) R
  or_ : (openP R = (⟨n, gen + 1, 1 - area, V'⟩, 0) ∧ readE V' key (k : Int) = 0 ∧ vreadS V' key (k : Int) = s) ∨ (done = false ∧ openP R = (⟨n, gen, area, V⟩, 0) ∧ readE V key (k : Int) = 0)
theorem row_step {key nonce : ByteArray} {n i : Nat} {P : Plat} (h : RowI key n i P) (hk : key.size = 32) (hn : nonce.size = 12) (hi : i < 1000) {k : Nat} (hkn : k < n) {s : ByteArray} (hs : s.size ≤ 64) (d : Int) (fs : List Int) :
    ∃ gen area V V' Q done R, RowS key nonce n i P k s d fs gen area V V' Q done R := by
  obtain ⟨gen, area, bl, want, hv, hc, hK, hg⟩ := h.ex
  have hbl : bl.length = n := hv.blen
  obtain ⟨w1, w2, w3⟩ := keeps_write hK (i := k) (by omega) hs hk hn
  have hl' : (bl.set k (hideS key nonce k s)).length = n := by rw [List.length_set]; exact hbl
  have g : Good (rooted (bl.set k (hideS key nonce k s))) n gen := ⟨keeps_check w3, hl', rfl, by omega⟩
  have ho := store_ok hv hc g d
  obtain ⟨q, hq⟩ : ∃ q, q = storeP P (rooted (bl.set k (hideS key nonce k s))) d := ⟨_, rfl⟩
  rw [← hq] at ho
  obtain ⟨Q, done, f⟩ := q
  simp only at ho
  subst ho
  have hst := hq.symm
  obtain ⟨R, r1, r2, r3, r4, r5⟩ := store_crash hv hc hst fs
  have hwl : k < want.length := by rw [hK.len]; omega
  refine ⟨gen, area, rooted bl, rooted (bl.set k (hideS key nonce k s)), Q, done, R, hv.open, w1, w2, hbl, hl', hg, hst, r1, r3.trans hv.len, ?_, ?_⟩
  · rcases r5 with r5 | ⟨_, r5⟩
    · exact ⟨_, _, _, _, r5, r2, w3, by omega⟩
    · exact ⟨_, _, _, _, r5, r2, hK, by omega⟩
  · rcases r5 with r5 | ⟨e, r5⟩
    · obtain ⟨k1, k2⟩ := keeps_read w3 (i := k) (by omega)
      refine .inl ⟨r5.open, k1, ?_⟩
      rw [k2, List.getD_eq_getElem?_getD, List.getElem?_set_self hwl]
      rfl
    · exact .inr ⟨e, r5.open, (keeps_read hK (i := k) (by omega)).1⟩
/-- The sectors of the area that counts are the volume's blocks, ahead of a Store and behind it. -/
theorem stays_area {P R : Plat} {n gen area : Nat} {V0 : Vol} (h : Vt P n gen area V0) (hc : P.cs = []) (hl : R.ss.length = P.ss.length) (hr : ∀ i, i < n → R.ss.getD (3 + area * n + i) none0 = P.ss.getD (3 + area * n + i) none0) :
    (P.ss.drop (3 + area * n)).take n = V0.bl ∧ (R.ss.drop (3 + area * n)).take n = V0.bl := by
  have ha := h.area.1
  have hlen := h.len
  have hle : 3 + area * n + n ≤ P.ss.length := by
    have : area = 0 ∨ area = 1 := by omega
    rcases this with rfl | rfl <;> simp <;> omega
  have hp : ∀ i, i < n → P.ss.getD (3 + area * n + i) none0 = V0.bl.getD i noT := fun i hi => by
    rw [h.bl, blkAt, List.getD_eq_getElem?_getD (l := List.map _ _), List.getElem?_map, List.getElem?_range hi]
    exact (readS_clean hc _).symm
  have main : ∀ ss : List ByteArray, ss.length = P.ss.length → (∀ i, i < n → ss.getD (3 + area * n + i) none0 = V0.bl.getD i noT) → (ss.drop (3 + area * n)).take n = V0.bl := by
    intro ss hs hg
    apply List.ext_getElem
    · rw [List.length_take, List.length_drop, h.blen]; omega
    · intro i h1 h2
      have hi : i < n := by rw [← h.blen]; exact h2
      have := hg i hi
      rw [List.getD_eq_getElem?_getD, List.getElem?_eq_getElem (by omega), List.getD_eq_getElem?_getD, List.getElem?_eq_getElem h2] at this
      rw [List.getElem_take, List.getElem_drop]
      exact this
  exact ⟨main _ rfl hp, main _ hl fun i hi => (hr i hi).trans (hp i hi)⟩
end Go.Proofs.YtingcnfhdioejaaGreatDoor
