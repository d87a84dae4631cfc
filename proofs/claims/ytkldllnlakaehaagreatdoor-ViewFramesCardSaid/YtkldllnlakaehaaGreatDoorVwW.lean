/-
  Rows of pairs of texts with a place; Format of a negative number.
-/
import Derived.Test.YtkldllnlakaehaaGreatDoorVwT
import Derived.Test.YtkldllnlakaehaaGreatDoorNon
import Derived.BigQuiet
import Derived.Deep.RegionHeld3
namespace Go.Proofs.YtkldllnlakaehaaGreatDoor
open Go.RowKit
set_option linter.unusedVariables false
set_option linter.unusedSimpArgs false
set_option maxRecDepth 100000
set_option maxHeartbeats 4000000

structure Wri3 where
  i : Int
  a : ByteArray
  b : ByteArray
def wr3V (o : Wri3) : List Value := [.int .i64 o.i, .string o.a, .string o.b]
def wrs3V (l : List Wri3) : List Value := l.flatMap wr3V
theorem wrs3V_get : ∀ (l : List Wri3) (i f : Nat) (o : Wri3), l[i]? = some o → f < 3 → (wrs3V l)[i * 3 + f]? = (wr3V o)[f]?
  | [], i, f, o, h, _ => by simp at h
  | x :: l, 0, f, o, h, hf => by
    simp only [List.getElem?_cons_zero, Option.some.injEq] at h
    subst h
    rw [wrs3V, List.flatMap_cons, Nat.zero_mul, Nat.zero_add, List.getElem?_append_left (by simp [wr3V]; omega)]
  | x :: l, i + 1, f, o, h, hf => by
    simp only [List.getElem?_cons_succ] at h
    rw [wrs3V, List.flatMap_cons, List.getElem?_append_right (by simp [wr3V]; omega)]
    have := wrs3V_get l i f o h hf
    rw [← this, wrs3V]
    congr 1
    simp [wr3V]
    omega
theorem wrs3V_len (m : List Wri3) : (wrs3V m).length = m.length * 3 := by
  induction m with
  | nil => rfl
  | cons a m ih => rw [wrs3V, List.flatMap_cons, List.length_append, ← wrs3V, ih]; simp [wr3V]; omega
theorem wr3_cells {w : World} {A : Option Addr} {l : List Wri3} {i : Nat} (h : Rd w A (wrs3V l)) (hi : i < l.length) :
    ∃ b off, A = some ⟨b, off, none⟩ ∧ w.cell? ⟨b, off + i * 3, none⟩ = some (.int .i64 l[i].i) ∧ w.cell? ⟨b, off + i * 3 + 1, none⟩ = some (.string l[i].a) ∧ w.cell? ⟨b, off + i * 3 + 2, none⟩ = some (.string l[i].b) := by
  have ho : l[i]? = some l[i] := List.getElem?_eq_getElem hi
  obtain ⟨b, off, hA, h0⟩ := h (i * 3 + 0) _ (wrs3V_get l i 0 _ ho (by omega))
  obtain ⟨b1, off1, hA1, h1⟩ := h (i * 3 + 1) _ (wrs3V_get l i 1 _ ho (by omega))
  obtain ⟨b2, off2, hA2, h2⟩ := h (i * 3 + 2) _ (wrs3V_get l i 2 _ ho (by omega))
  rw [hA] at hA1 hA2
  injection hA1 with hA1
  injection hA2 with hA2
  injection hA1 with e1 e2
  injection hA2 with e3 e4
  subst e1 e2 e3 e4
  exact ⟨b, off, hA, h0, h1, h2⟩
theorem kp4_below {W w' : World} {p q r s : Addr} {u v x y : Value} (h : (W.cell? p = some u ∧ W.cell? q = some v) ∧ (W.cell? r = some x ∧ W.cell? s = some y)) (hb : Below W.heap.size W w') : (w'.cell? p = some u ∧ w'.cell? q = some v) ∧ (w'.cell? r = some x ∧ w'.cell? s = some y) := ⟨keep2_below h.1 hb, keep2_below h.2 hb⟩
theorem kp4_alloc {W : World} {o : Obj} {p q r s : Addr} {u v x y : Value} (h : (W.cell? p = some u ∧ W.cell? q = some v) ∧ (W.cell? r = some x ∧ W.cell? s = some y)) : ((W.alloc o).cell? p = some u ∧ (W.alloc o).cell? q = some v) ∧ ((W.alloc o).cell? r = some x ∧ (W.alloc o).cell? s = some y) := kp4_below h ((Below.refl _ _).alloc (Nat.le_refl _) _)
theorem kp4_drew {W : World} {p q r s : Addr} {u v x y : Value} (h : (W.cell? p = some u ∧ W.cell? q = some v) ∧ (W.cell? r = some x ∧ W.cell? s = some y)) : (W.drew.cell? p = some u ∧ W.drew.cell? q = some v) ∧ (W.drew.cell? r = some x ∧ W.drew.cell? s = some y) := h
theorem vch_a {w w' : World} (h : Below w.drew.heap.size w.drew w') : Below w.heap.size w w' := Below.chain ((Below.refl _ w).drew) h
theorem vch_b {w w' : World} {o : Obj} (h : Below (w.alloc o).drew.heap.size (w.alloc o).drew w') : Below w.heap.size w w' := Below.chain (((Below.refl _ w).alloc (Nat.le_refl _) o).drew) h
theorem vch_c {w w' : World} {a b : Value} {t : TypeId} (h : Below (w.alloc (.cells #[a, b] t)).drew.heap.size (w.alloc (.cells #[a, b] t)).drew w') : w'.heap[w.heap.size]? = some (.cells #[a, b] t (0, 0)) := cells_below (W := (w.alloc (.cells #[a, b] t)).drew) (heap_alloc_new w _) h
theorem kp4_two {W : World} {g b1 b2 : Nat} {i j k l : Nat} {z z' u v x y : Value} (h : (W.cell? ⟨b1, i, none⟩ = some u ∧ W.cell? ⟨b1, j, none⟩ = some v) ∧ (W.cell? ⟨b2, k, none⟩ = some x ∧ W.cell? ⟨b2, l, none⟩ = some y)) (h1 : g ≠ b1) (h2 : g ≠ b2) : (((W.setCell ⟨g, 0, none⟩ z).setCell ⟨g, 1, none⟩ z').cell? ⟨b1, i, none⟩ = some u ∧ ((W.setCell ⟨g, 0, none⟩ z).setCell ⟨g, 1, none⟩ z').cell? ⟨b1, j, none⟩ = some v) ∧ (((W.setCell ⟨g, 0, none⟩ z).setCell ⟨g, 1, none⟩ z').cell? ⟨b2, k, none⟩ = some x ∧ ((W.setCell ⟨g, 0, none⟩ z).setCell ⟨g, 1, none⟩ z').cell? ⟨b2, l, none⟩ = some y) := by
  have a1 : ∀ (n m : Nat), (⟨g, n, none⟩ : Addr) ≠ ⟨b1, m, none⟩ := fun n m e => h1 (congrArg Addr.block e)
  have a2 : ∀ (n m : Nat), (⟨g, n, none⟩ : Addr) ≠ ⟨b2, m, none⟩ := fun n m e => h2 (congrArg Addr.block e)
  exact ⟨keep2_set (keep2_set h.1 (a1 _ _) (a1 _ _)) (a1 _ _) (a1 _ _), keep2_set (keep2_set h.2 (a2 _ _) (a2 _ _)) (a2 _ _) (a2 _ _)⟩
theorem kp4_set {W : World} {a p q r s : Addr} {z u v x y : Value} (h : (W.cell? p = some u ∧ W.cell? q = some v) ∧ (W.cell? r = some x ∧ W.cell? s = some y)) (h1 : a ≠ p) (h2 : a ≠ q) (h3 : a ≠ r) (h4 : a ≠ s) : ((W.setCell a z).cell? p = some u ∧ (W.setCell a z).cell? q = some v) ∧ ((W.setCell a z).cell? r = some x ∧ (W.setCell a z).cell? s = some y) := ⟨keep2_set h.1 h1 h2, keep2_set h.2 h3 h4⟩
theorem cells_two {W : World} {g b : Nat} {o : Obj} {x y : Value} (h : W.heap[b]? = some o) (hne : g ≠ b) : ((W.setCell ⟨g, 0, none⟩ x).setCell ⟨g, 1, none⟩ y).heap[b]? = some o := ((Below.heap_setCell _ ⟨g, 1, none⟩ _ b (by dsimp only; omega)).trans (Below.heap_setCell _ ⟨g, 0, none⟩ _ b (by dsimp only; omega))).trans h
theorem rd_two {W : World} {A : Option Addr} {xs : List Value} (h : Rd W A xs) {g B : Nat} {x y : Value} (hg : g < B) (hA : ∀ b o, A = some ⟨b, o, none⟩ → B ≤ b) : Rd ((W.setCell ⟨g, 0, none⟩ x).setCell ⟨g, 1, none⟩ y) A xs := vrd_set (vrd_set h (fun b o e => by have := hA b o e; omega) _) (fun b o e => by have := hA b o e; omega) _
/-- A volume in a box of its own, as a call has handed it back. -/
def BoxV (B : Nat) (wc : World) (V : Vol) (g : Nat) : Prop := ∃ A n c, wc.heap[g]? = some (.cells #[.slice A n c, .string V.rt] 37 (0, 0)) ∧ Rd wc A (textsV V.bl) ∧ (∀ b o, A = some ⟨b, o, none⟩ → B ≤ b) ∧ n = V.bl.length
def CutV (wq : World) (V : Vol) (E : Nat) (v u : Value) (wc : World) : Prop := ∃ g, v = .pointer (some ⟨g, 0, none⟩) ∧ u = .int .i64 (E : Nat) ∧ wq.heap.size ≤ g ∧ BoxV wq.heap.size wc V g ∧ Below wq.heap.size wq wc
/-- The box is made behind the call. -/
theorem cutV_new {wq w4 : World} {V : Vol} {E : Nat} {A : Option Addr} {n c : Nat} (hb : Below wq.heap.size wq w4) (hr : Rd w4 A (textsV V.bl)) (hA : ∀ b o, A = some ⟨b, o, none⟩ → wq.heap.size ≤ b) (hn : n = V.bl.length) :
    CutV wq V E (.pointer (some ⟨w4.heap.size, 0, none⟩)) (.int .i64 (E : Nat)) (w4.alloc (.cells #[.slice A n c, .string V.rt] 37)) := by
  have hbl := (Below.refl w4.heap.size w4).alloc (Nat.le_refl _) (.cells #[.slice A n c, .string V.rt] 37)
  exact ⟨_, rfl, rfl, hb.size, ⟨A, n, c, heap_alloc_new w4 _, hr.below hbl, hA, hn⟩, hb.trans (hbl.mono hb.size)⟩
/-- The box is made ahead of the call. -/
theorem cutV_set {wq w4 : World} {V : Vol} {E : Nat} {A : Option Addr} {n c g : Nat} {a b : Value} (hz : w4.heap[g]? = some (.cells #[a, b] 37 (0, 0))) (hb : Below wq.heap.size wq w4) (hg : wq.heap.size ≤ g) (hr : Rd w4 A (textsV V.bl)) (hA : ∀ b o, A = some ⟨b, o, none⟩ → g < b) (hn : n = V.bl.length) :
    CutV wq V E (.pointer (some ⟨g, 0, none⟩)) (.int .i64 (E : Nat)) ((w4.setCell ⟨g, 0, none⟩ (.slice A n c)).setCell ⟨g, 1, none⟩ (.string V.rt)) :=
  ⟨g, rfl, rfl, hg, ⟨A, n, c, two_set hz _ _, vrd_set (vrd_set hr (fun b o e => by have := hA b o e; omega) _) (fun b o e => by have := hA b o e; omega) _, fun b o e => by have := hA b o e; omega, hn⟩, two_by hb hg _ _⟩
theorem count_neg (n : Int) (w : World) (h : n < 1) : Calls Tryz.prog 24 #[.int .i64 n] w fun e w' => e = .returned (.bool false) ∧ w' = w := by
  have e1 : decide (n ≥ 1) = false := decide_eq_false (by omega)
  go_enter Tryz.func24, Tryz.ntmps24
  go_wp2_with fail
  go_ret
  exact ⟨rfl, rfl⟩
theorem format_neg (n : Int) (w : World) (h : n < 1) : Calls Tryz.prog 9 #[.int .i64 n] w (VolE w vol0 1) := by
  have HC := Lib.hid (fun W => count_neg n W h)
  have HY := Lib.hid (heap_alloc_new w (.cells #[.slice none 0 0, .string ⟨#[]⟩] 37))
  have Hb := Lib.hid ((Below.refl w.heap.size w).alloc (Nat.le_refl _) (.cells #[.slice none 0 0, .string ⟨#[]⟩] 37))
  have b0 := rf_at HY.out 0 _ rfl
  have b1 := rf_at HY.out 1 _ rfl
  have f2 := rf_fr HY.out 0
  have f3 := rf_fr HY.out 1
  go_enter Tryz.func9, Tryz.ntmps9
  go_wp2_with fail
  refine (HC.out _).mono ?_
  rintro e w1 ⟨rfl, rfl⟩
  go_wp2_with fail
  refine bodyPost_ret (res_cell_tmp rfl _ _ w.heap.size (by rfl) _ (load_vol HY.out)) rfl ?_
  exact ⟨_, rfl, ⟨none, 0, 0, rfl, ⟨Rd.nil _ _, fun _ _ h => by cases h⟩, rfl⟩, Hb.out⟩
end Go.Proofs.YtkldllnlakaehaaGreatDoor
