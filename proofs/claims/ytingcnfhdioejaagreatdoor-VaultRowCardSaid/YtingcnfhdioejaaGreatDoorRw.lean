/-
  A script of stored volumes, plainly: what is so of the disk between two steps, and what a step does.
  A script's steps, as values: four fields, the last one a slice.
  A volume's box that a statement makes ahead of a call or behind it; four cells kept.
-/
import Derived.Test.YtingcnfhdioejaaGreatDoorVaT4
import Derived.Test.YtingcnfhdioejaaGreatDoorVolT2
import Derived.Test.YtingcnfhdioejaaGreatDoorBase
import Derived.Test.YtingcnfhdioejaaGreatDoorVo4
import Derived.BigQuiet
import Derived.Deep.RegionHeld3
namespace Go.Proofs.YtingcnfhdioejaaGreatDoor
/- VaRT -/
open Go.RowKit
set_option linter.unusedVariables false

/-- Between two steps: a vault of a volume whose blocks hold texts. -/
structure RowI (key : ByteArray) (n i : Nat) (P : Plat) : Prop where
  ex : ∃ gen area bl want, Vt P n gen area (rooted bl) ∧ P.cs = [] ∧ Keeps key bl want ∧ gen ≤ i
theorem row_start {n : Nat} (key : ByteArray) (h : countB n = true) : (formatP n).2 = 0 ∧ RowI key n 0 (formatP n).1 := by
  obtain ⟨h1, h2, h3⟩ := format_vt h
  exact ⟨h1, _, _, _, _, h3, h2, keeps_new key h, Nat.le_refl _⟩
/-- What a step does. -/
structure RowS (key nonce : ByteArray) (n i : Nat) (P : Plat) (k : Nat) (s : ByteArray) (d : Int) (fs : List Int) (gen area : Nat) (V V' : Vol) (Q : Plat) (done : Bool) (R : Plat) : Prop where
  op : openP P = (⟨n, gen, area, V⟩, 0)
  we : writeE V key nonce (k : Int) s = 0
  wv : writeV V key nonce (k : Int) s = V'
  vl : V.bl.length = n
  vl' : V'.bl.length = n
  gn : gen ≤ i
  st : storeP P V' d = (Q, done, 0)
  cr : crashP fs Q = (R, 0)
  rl : R.ss.length = 3 + 2 * n
  ri : RowI key n (i + 1) R
  or_ : (openP R = (⟨n, gen + 1, 1 - area, V'⟩, 0) ∧ readE V' key (k : Int) = 0 ∧ vreadS V' key (k : Int) = s) ∨ (done = false ∧ openP R = (⟨n, gen, area, V⟩, 0) ∧ readE V key (k : Int) = 0)
theorem row_step {key nonce : ByteArray} {n i : Nat} {P : Plat} (h : RowI key n i P) (hk : key.size = 32) (hn : nonce.size = 12) (hi : i < 1000) {k : Nat} (hkn : k < n) {s : ByteArray} (hs : s.size ≤ 64) (d : Int) (fs : List Int) :
    ∃ gen area V V' Q done R, RowS key nonce n i P k s d fs gen area V V' Q done R := by
  obtain ⟨gen, area, bl, want, hv, hc, hK, hg⟩ := h.ex
  have hbl : bl.length = n := hv.blen
  obtain ⟨w1, w2, w3⟩ := keeps_write hK (i := k) (by omega) hs hk hn
  have hl' : (bl.set k (hideS key nonce k s)).length = n := by rw [List.length_set]; exact hbl
  have g : Good (rooted (bl.set k (hideS key nonce k s))) n gen := ⟨keeps_check w3, hl', rfl, by omega⟩
  have ho := store_ok hv hc g d
  obtain ⟨q, hq⟩ : ∃ q, q = storeP P (rooted (bl.set k (hideS key nonce k s))) d := ⟨_, rfl⟩
  rw [← hq] at ho
  obtain ⟨Q, done, f⟩ := q
  simp only at ho
  subst ho
  have hst := hq.symm
  obtain ⟨R, r1, r2, r3, r4, r5⟩ := store_crash hv hc hst fs
  have hwl : k < want.length := by rw [hK.len]; omega
  refine ⟨gen, area, rooted bl, rooted (bl.set k (hideS key nonce k s)), Q, done, R, hv.open, w1, w2, hbl, hl', hg, hst, r1, r3.trans hv.len, ?_, ?_⟩
  · rcases r5 with r5 | ⟨_, r5⟩
    · exact ⟨_, _, _, _, r5, r2, w3, by omega⟩
    · exact ⟨_, _, _, _, r5, r2, hK, by omega⟩
  · rcases r5 with r5 | ⟨e, r5⟩
    · obtain ⟨k1, k2⟩ := keeps_read w3 (i := k) (by omega)
      refine .inl ⟨r5.open, k1, ?_⟩
      rw [k2, List.getD_eq_getElem?_getD, List.getElem?_set_self hwl]
      rfl
    · exact .inr ⟨e, r5.open, (keeps_read hK (i := k) (by omega)).1⟩
/-- The sectors of the area that counts are the volume's blocks, ahead of a Store and behind it. -/
theorem stays_area {P R : Plat} {n gen area : Nat} {V0 : Vol} (h : Vt P n gen area V0) (hc : P.cs = []) (hl : R.ss.length = P.ss.length) (hr : ∀ i, i < n → R.ss.getD (3 + area * n + i) none0 = P.ss.getD (3 + area * n + i) none0) :
    (P.ss.drop (3 + area * n)).take n = V0.bl ∧ (R.ss.drop (3 + area * n)).take n = V0.bl := by
  have ha := h.area.1
  have hlen := h.len
  have hle : 3 + area * n + n ≤ P.ss.length := by
    have : area = 0 ∨ area = 1 := by omega
    rcases this with rfl | rfl <;> simp <;> omega
  have hp : ∀ i, i < n → P.ss.getD (3 + area * n + i) none0 = V0.bl.getD i noT := fun i hi => by
    rw [h.bl, blkAt, List.getD_eq_getElem?_getD (l := List.map _ _), List.getElem?_map, List.getElem?_range hi]
    exact (readS_clean hc _).symm
  have main : ∀ ss : List ByteArray, ss.length = P.ss.length → (∀ i, i < n → ss.getD (3 + area * n + i) none0 = V0.bl.getD i noT) → (ss.drop (3 + area * n)).take n = V0.bl := by
    intro ss hs hg
    apply List.ext_getElem
    · rw [List.length_take, List.length_drop, h.blen]; omega
    · intro i h1 h2
      have hi : i < n := by rw [← h.blen]; exact h2
      have := hg i hi
      rw [List.getD_eq_getElem?_getD, List.getElem?_eq_getElem (by omega), List.getD_eq_getElem?_getD, List.getElem?_eq_getElem h2] at this
      rw [List.getElem_take, List.getElem_drop]
      exact this
  exact ⟨main _ rfl hp, main _ hl fun i hi => (hr i hi).trans (hp i hi)⟩

/- StM -/
open Go.RowKit
set_option linter.unusedVariables false

structure StepM where
  i : Int
  s : ByteArray
  d : Int
  F : Option Addr
  nf : Nat
  cf : Nat
  fs : List Int
def stepV (o : StepM) : List Value := [.int .i64 o.i, .string o.s, .int .i64 o.d, .slice o.F o.nf o.cf]
def stepsV (l : List StepM) : List Value := l.flatMap stepV
theorem stepsV_len (l : List StepM) : (stepsV l).length = l.length * 4 := by
  induction l with
  | nil => rfl
  | cons a l ih => rw [stepsV, List.flatMap_cons, List.length_append, ← stepsV, ih, List.length_cons]; simp [stepV]; omega
theorem stepsV_get (l : List StepM) (i j : Nat) (o : StepM) (h : l[i]? = some o) (hj : j < 4) : (stepsV l)[i * 4 + j]? = (stepV o)[j]? := by
  induction l generalizing i with
  | nil => simp at h
  | cons a l ih =>
    cases i with
    | zero =>
      simp at h
      subst h
      rw [stepsV, List.flatMap_cons, Nat.zero_mul, Nat.zero_add, List.getElem?_append_left (by simp [stepV]; omega)]
    | succ i =>
      have := ih i (by simpa using h)
      have e : (stepV a).length = 4 := rfl
      rw [stepsV, List.flatMap_cons, ← stepsV, List.getElem?_append_right (by omega), e, show (i + 1) * 4 + j - 4 = i * 4 + j by omega]
      exact this
/-- What is so of a step that came in. -/
structure StepOK (w : World) (o : StepM) : Prop where
  sz : o.s.size ≤ maxLen
  rd : Rd w o.F (ints o.fs)
  nf : o.nf = o.fs.length
  nm : o.nf ≤ maxLen
  fi : ∀ x ∈ o.fs, x ≤ 9223372036854775807
theorem StepOK.below {w w' : World} {o : StepM} (h : StepOK w o) (hb : Below w.heap.size w w') : StepOK w' o := ⟨h.sz, h.rd.below hb, h.nf, h.nm, h.fi⟩
theorem step_at {w : World} {A : Option Addr} {l : List StepM} {i : Nat} (h : Rd w A (stepsV l)) (hi : i < l.length) :
    ∃ b off, A = some ⟨b, off, none⟩ ∧ w.cell? ⟨b, off + i * 4, none⟩ = some (.int .i64 l[i].i) ∧ w.cell? ⟨b, off + i * 4 + 1, none⟩ = some (.string l[i].s) ∧ w.cell? ⟨b, off + i * 4 + 2, none⟩ = some (.int .i64 l[i].d) ∧ w.cell? ⟨b, off + i * 4 + 3, none⟩ = some (.slice l[i].F l[i].nf l[i].cf) := by
  have hg := fun j hj => stepsV_get l i j l[i] (by simp [hi]) hj
  obtain ⟨b, off, hA, c0⟩ := h (i * 4 + 0) _ ((hg 0 (by omega)).trans rfl)
  obtain ⟨b1, o1, hA1, c1⟩ := h (i * 4 + 1) _ ((hg 1 (by omega)).trans rfl)
  obtain ⟨b2, o2, hA2, c2⟩ := h (i * 4 + 2) _ ((hg 2 (by omega)).trans rfl)
  obtain ⟨b3, o3, hA3, c3⟩ := h (i * 4 + 3) _ ((hg 3 (by omega)).trans rfl)
  rw [hA] at hA1 hA2 hA3
  cases hA1; cases hA2; cases hA3
  exact ⟨b, off, hA, c0, by rw [Nat.add_assoc]; exact c1, by rw [Nat.add_assoc]; exact c2, by rw [Nat.add_assoc]; exact c3⟩

/- CutVo -/
open Go.RowKit
set_option linter.unusedVariables false
set_option linter.unusedSimpArgs false
set_option maxRecDepth 100000

theorem kp4_pair {W : World} {p q r s : Addr} {u v x y : Value} (h1 : W.cell? p = some u) (h2 : W.cell? q = some v) (h3 : W.cell? r = some x) (h4 : W.cell? s = some y) : (W.cell? p = some u ∧ W.cell? q = some v) ∧ (W.cell? r = some x ∧ W.cell? s = some y) := ⟨⟨h1, h2⟩, ⟨h3, h4⟩⟩
theorem kp4_below {W w' : World} {p q r s : Addr} {u v x y : Value} (h : (W.cell? p = some u ∧ W.cell? q = some v) ∧ (W.cell? r = some x ∧ W.cell? s = some y)) (hb : Below W.heap.size W w') : (w'.cell? p = some u ∧ w'.cell? q = some v) ∧ (w'.cell? r = some x ∧ w'.cell? s = some y) := ⟨keep2_below h.1 hb, keep2_below h.2 hb⟩
theorem kp4_alloc {W : World} {o : Obj} {p q r s : Addr} {u v x y : Value} (h : (W.cell? p = some u ∧ W.cell? q = some v) ∧ (W.cell? r = some x ∧ W.cell? s = some y)) : ((W.alloc o).cell? p = some u ∧ (W.alloc o).cell? q = some v) ∧ ((W.alloc o).cell? r = some x ∧ (W.alloc o).cell? s = some y) := kp4_below h ((Below.refl _ _).alloc (Nat.le_refl _) _)
theorem kp4_drew {W : World} {p q r s : Addr} {u v x y : Value} (h : (W.cell? p = some u ∧ W.cell? q = some v) ∧ (W.cell? r = some x ∧ W.cell? s = some y)) : (W.drew.cell? p = some u ∧ W.drew.cell? q = some v) ∧ (W.drew.cell? r = some x ∧ W.drew.cell? s = some y) := h
theorem vch_a {w w' : World} (h : Below w.drew.heap.size w.drew w') : Below w.heap.size w w' := Below.chain ((Below.refl _ w).drew) h
theorem vch_b {w w' : World} {o : Obj} (h : Below (w.alloc o).drew.heap.size (w.alloc o).drew w') : Below w.heap.size w w' := Below.chain (((Below.refl _ w).alloc (Nat.le_refl _) o).drew) h
theorem vch_c {w w' : World} {a b : Value} {t : TypeId} (h : Below (w.alloc (.cells #[a, b] t)).drew.heap.size (w.alloc (.cells #[a, b] t)).drew w') : w'.heap[w.heap.size]? = some (.cells #[a, b] t (0, 0)) := cells_below (W := (w.alloc (.cells #[a, b] t)).drew) (heap_alloc_new w _) h
theorem kp4_two {W : World} {g b1 b2 : Nat} {i j k l : Nat} {z z' u v x y : Value} (h : (W.cell? ⟨b1, i, none⟩ = some u ∧ W.cell? ⟨b1, j, none⟩ = some v) ∧ (W.cell? ⟨b2, k, none⟩ = some x ∧ W.cell? ⟨b2, l, none⟩ = some y)) (h1 : g ≠ b1) (h2 : g ≠ b2) : (((W.setCell ⟨g, 0, none⟩ z).setCell ⟨g, 1, none⟩ z').cell? ⟨b1, i, none⟩ = some u ∧ ((W.setCell ⟨g, 0, none⟩ z).setCell ⟨g, 1, none⟩ z').cell? ⟨b1, j, none⟩ = some v) ∧ (((W.setCell ⟨g, 0, none⟩ z).setCell ⟨g, 1, none⟩ z').cell? ⟨b2, k, none⟩ = some x ∧ ((W.setCell ⟨g, 0, none⟩ z).setCell ⟨g, 1, none⟩ z').cell? ⟨b2, l, none⟩ = some y) := by
  have a1 : ∀ (n m : Nat), (⟨g, n, none⟩ : Addr) ≠ ⟨b1, m, none⟩ := fun n m e => h1 (congrArg Addr.block e)
  have a2 : ∀ (n m : Nat), (⟨g, n, none⟩ : Addr) ≠ ⟨b2, m, none⟩ := fun n m e => h2 (congrArg Addr.block e)
  exact ⟨keep2_set (keep2_set h.1 (a1 _ _) (a1 _ _)) (a1 _ _) (a1 _ _), keep2_set (keep2_set h.2 (a2 _ _) (a2 _ _)) (a2 _ _) (a2 _ _)⟩
theorem kp4_set {W : World} {a p q r s : Addr} {z u v x y : Value} (h : (W.cell? p = some u ∧ W.cell? q = some v) ∧ (W.cell? r = some x ∧ W.cell? s = some y)) (h1 : a ≠ p) (h2 : a ≠ q) (h3 : a ≠ r) (h4 : a ≠ s) : ((W.setCell a z).cell? p = some u ∧ (W.setCell a z).cell? q = some v) ∧ ((W.setCell a z).cell? r = some x ∧ (W.setCell a z).cell? s = some y) := ⟨keep2_set h.1 h1 h2, keep2_set h.2 h3 h4⟩
theorem cells_two {W : World} {g b : Nat} {o : Obj} {x y : Value} (h : W.heap[b]? = some o) (hne : g ≠ b) : ((W.setCell ⟨g, 0, none⟩ x).setCell ⟨g, 1, none⟩ y).heap[b]? = some o := ((Below.heap_setCell _ ⟨g, 1, none⟩ _ b (by dsimp only; omega)).trans (Below.heap_setCell _ ⟨g, 0, none⟩ _ b (by dsimp only; omega))).trans h
theorem rd_two {W : World} {A : Option Addr} {xs : List Value} (h : Rd W A xs) {g B : Nat} {x y : Value} (hg : g < B) (hA : ∀ b o, A = some ⟨b, o, none⟩ → B ≤ b) : Rd ((W.setCell ⟨g, 0, none⟩ x).setCell ⟨g, 1, none⟩ y) A xs := vrd_set (vrd_set h (fun b o e => by have := hA b o e; omega) _) (fun b o e => by have := hA b o e; omega) _
/-- A volume in a box of its own, as a call has handed it back. -/
def BoxV (B : Nat) (wc : World) (V : Vol) (g : Nat) : Prop := ∃ A n c, wc.heap[g]? = some (.cells #[.slice A n c, .string V.rt] 27 (0, 0)) ∧ Rd wc A (textsV V.bl) ∧ (∀ b o, A = some ⟨b, o, none⟩ → B ≤ b) ∧ n = V.bl.length
def CutV (wq : World) (V : Vol) (E : Nat) (v u : Value) (wc : World) : Prop := ∃ g, v = .pointer (some ⟨g, 0, none⟩) ∧ u = .int .i64 (E : Nat) ∧ wq.heap.size ≤ g ∧ BoxV wq.heap.size wc V g ∧ Below wq.heap.size wq wc
/-- The box is made behind the call. -/
theorem cutV_new {wq w4 : World} {V : Vol} {E : Nat} {A : Option Addr} {n c : Nat} (hb : Below wq.heap.size wq w4) (hr : Rd w4 A (textsV V.bl)) (hA : ∀ b o, A = some ⟨b, o, none⟩ → wq.heap.size ≤ b) (hn : n = V.bl.length) :
    CutV wq V E (.pointer (some ⟨w4.heap.size, 0, none⟩)) (.int .i64 (E : Nat)) (w4.alloc (.cells #[.slice A n c, .string V.rt] 27)) := by
  have hbl := (Below.refl w4.heap.size w4).alloc (Nat.le_refl _) (.cells #[.slice A n c, .string V.rt] 27)
  exact ⟨_, rfl, rfl, hb.size, ⟨A, n, c, heap_alloc_new w4 _, hr.below hbl, hA, hn⟩, hb.trans (hbl.mono hb.size)⟩
/-- The box is made ahead of the call. -/
theorem cutV_set {wq w4 : World} {V : Vol} {E : Nat} {A : Option Addr} {n c g : Nat} {a b : Value} (hz : w4.heap[g]? = some (.cells #[a, b] 27 (0, 0))) (hb : Below wq.heap.size wq w4) (hg : wq.heap.size ≤ g) (hr : Rd w4 A (textsV V.bl)) (hA : ∀ b o, A = some ⟨b, o, none⟩ → g < b) (hn : n = V.bl.length) :
    CutV wq V E (.pointer (some ⟨g, 0, none⟩)) (.int .i64 (E : Nat)) ((w4.setCell ⟨g, 0, none⟩ (.slice A n c)).setCell ⟨g, 1, none⟩ (.string V.rt)) :=
  ⟨g, rfl, rfl, hg, ⟨A, n, c, two_set hz _ _, vrd_set (vrd_set hr (fun b o e => by have := hA b o e; omega) _) (fun b o e => by have := hA b o e; omega) _, fun b o e => by have := hA b o e; omega, hn⟩, two_by hb hg _ _⟩

end Go.Proofs.YtingcnfhdioejaaGreatDoor
