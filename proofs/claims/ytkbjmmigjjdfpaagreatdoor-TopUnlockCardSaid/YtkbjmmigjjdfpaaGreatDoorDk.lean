/-
  A row of disks as values: each element two slices; what they read as. Stores into such a row leave every disk.
-/
import Derived.Test.YtkbjmmigjjdfpaaGreatDoorTw
namespace Go.Proofs.YtkbjmmigjjdfpaaGreatDoor
open Go.RowKit
set_option linter.unusedVariables false

structure Dk where
  A : Option Addr
  n : Nat
  c : Nat
  B : Option Addr
  m : Nat
  d : Nat
  P : Plat
def dkV (x : Dk) : List Value := [.slice x.A x.n x.c, .slice x.B x.m x.d]
def dkA (x : Dk) : Value := .agg #[.slice x.A x.n x.c, .slice x.B x.m x.d]
def dksV (l : List Dk) : List Value := l.flatMap dkV
def plats (l : List Dk) : List Plat := l.map Dk.P
theorem plats_len (l : List Dk) : (plats l).length = l.length := by simp [plats]
def Dk.ok (w : World) (x : Dk) : Prop := PB w x.A x.n x.B x.m x.P
theorem Dk.ok.below {w w' : World} {x : Dk} (h : x.ok w) (hb : Below w.heap.size w w') : x.ok w' := PB.below h hb
theorem Dk.ok.plv {w : World} {x : Dk} (h : x.ok w) : PlV w (dkA x) x.P := ⟨_, _, _, _, _, _, rfl, h⟩
theorem plv_dk {w : World} {v : Value} {P : Plat} (h : PlV w v P) : ∃ x : Dk, v = dkA x ∧ x.P = P ∧ x.ok w := by
  obtain ⟨A, n, c, B, m, d, rfl, h⟩ := h
  exact ⟨⟨A, n, c, B, m, d, P⟩, rfl, rfl, h⟩
theorem dksV_len (l : List Dk) : (dksV l).length = l.length * 2 := by
  induction l with
  | nil => rfl
  | cons a l ih => rw [dksV, List.flatMap_cons, List.length_append, ← dksV, ih, List.length_cons]; simp [dkV]; omega
theorem dksV_app (l m : List Dk) : dksV (l ++ m) = dksV l ++ dksV m := by simp [dksV]
theorem dksV_at (l : List Dk) (i : Nat) (x : Dk) (h : l[i]? = some x) : (dksV l)[i * 2]? = some (.slice x.A x.n x.c) ∧ (dksV l)[i * 2 + 1]? = some (.slice x.B x.m x.d) := by
  induction l generalizing i with
  | nil => simp at h
  | cons a l ih =>
    cases i with
    | zero =>
      simp at h
      subst h
      exact ⟨rfl, rfl⟩
    | succ i =>
      have := ih i (by simpa using h)
      rw [dksV, List.flatMap_cons, ← dksV]
      have e : (dkV a).length = 2 := rfl
      rw [List.getElem?_append_right (by omega), List.getElem?_append_right (by omega), e, show (i + 1) * 2 - 2 = i * 2 by omega, show (i + 1) * 2 + 1 - 2 = i * 2 + 1 by omega]
      exact this
theorem dksV_set (l : List Dk) (i : Nat) (x : Dk) (h : i < l.length) : ((dksV l).set (i * 2) (.slice x.A x.n x.c)).set (i * 2 + 1) (.slice x.B x.m x.d) = dksV (l.set i x) := by
  induction l generalizing i with
  | nil => simp at h
  | cons a l ih =>
    cases i with
    | zero => rfl
    | succ i =>
      have := ih i (by simpa using h)
      rw [List.set_cons_succ, dksV, dksV, List.flatMap_cons, List.flatMap_cons, ← dksV, ← dksV, ← this]
      have e : (dkV a) = [.slice a.A a.n a.c, .slice a.B a.m a.d] := rfl
      rw [e, show (i + 1) * 2 = i * 2 + 1 + 1 by omega]
      rfl
theorem dksV_one (l : List Dk) : ∀ u ∈ dksV l, u.oneCell' = true := by
  intro u hu
  obtain ⟨p, _, hp⟩ := List.mem_flatMap.1 hu
  simp [dkV] at hp
  rcases hp with rfl | rfl <;> rfl
theorem dksV_sl (l : List Dk) : ∀ u ∈ dksV l, isSl u = true := by
  intro u hu
  obtain ⟨p, _, hp⟩ := List.mem_flatMap.1 hu
  simp [dkV] at hp
  rcases hp with rfl | rfl <;> rfl
/-- A slice that reads as a row of disks. -/
structure RdD (w : World) (A : Option Addr) (l : List Dk) : Prop where
  rd : Rd w A (dksV l)
  ok : ∀ x ∈ l, x.ok w
theorem RdD.nil (w : World) (A : Option Addr) : RdD w A [] := ⟨Rd.nil _ _, fun x h => (by cases h)⟩
theorem RdD.below {w w' : World} {A : Option Addr} {l : List Dk} (h : RdD w A l) (hb : Below w.heap.size w w') : RdD w' A l := ⟨h.rd.below hb, fun x hx => (h.ok x hx).below hb⟩
theorem dk_at {w : World} {A : Option Addr} {l : List Dk} {i : Nat} (h : Rd w A (dksV l)) (hi : i < l.length) :
    ∃ b off, A = some ⟨b, off, none⟩ ∧ w.cell? ⟨b, off + i * 2, none⟩ = some (.slice l[i].A l[i].n l[i].c) ∧ w.cell? ⟨b, off + i * 2 + 1, none⟩ = some (.slice l[i].B l[i].m l[i].d) := by
  obtain ⟨h1, h2⟩ := dksV_at l i l[i] (by simp [hi])
  obtain ⟨b, off, hA, c1⟩ := h _ _ h1
  obtain ⟨b2, off2, hA2, c2⟩ := h _ _ h2
  rw [hA] at hA2
  cases hA2
  exact ⟨b, off, hA, c1, c2⟩

/-- A block of disks that is grown or stored into leaves what reads as texts or puts. -/
theorem rd_grown {w w' : World} {A : Option Addr} {xs : List Value} {g : Nat} (h : Rd w A xs) (hx : ∀ u ∈ xs, isSl u = false) (hs : ∀ j u, w.cell? ⟨g, j, none⟩ = some u → isSl u = true) (hg : w.grownBy w' (some g)) : Rd w' A xs := by
  intro j u hu
  obtain ⟨b, off, hA, hc⟩ := h j u hu
  have hne : b ≠ g := fun e => by
    subst e
    have h1 := hs _ _ hc
    rw [hx u (List.mem_of_getElem? hu)] at h1
    cases h1
  exact ⟨b, off, hA, (World.cell?_of_block (hg.block b (cell_lt hc) (fun e => hne (Option.some.inj e)))).trans hc⟩
theorem PB.grown {w w' : World} {A B : Option Addr} {n m : Nat} {P : Plat} (h : PB w A n B m P) {g : Nat} {cs : Array Value} {T : TypeId} {fr : Nat × Nat} (hT : w.heap[g]? = some (.cells cs T fr)) (h1 : T ≠ 9) (h2 : T ≠ 243) (hs : ∀ j u, w.cell? ⟨g, j, none⟩ = some u → isSl u = true) (hg : w.grownBy w' (some g)) : PB w' A n B m P :=
  ⟨h.hn, h.hm, rd_grown h.rs (texts_sl _) hs hg, rd_grown h.rc (puts_sl _) hs hg, h.ta.grown hg hT h1, h.tb.grown hg hT h2⟩
/-- A row of disks of the call's own: every cell of its block is a slice. -/
structure OwnD (w : World) (B0 : Nat) (A : Option Addr) (n cap : Nat) (l : List Dk) : Prop where
  hn : n = l.length
  os : w.ownsRow B0 68 2 (.slice A n cap) n (dksV l)
  sl : ∀ b off, A = some ⟨b, off, none⟩ → ∀ j u, w.cell? ⟨b, j, none⟩ = some u → isSl u = true
  ok : ∀ x ∈ l, x.ok w
theorem OwnD.rd {w : World} {B0 : Nat} {A : Option Addr} {n cap : Nat} {l : List Dk} (h : OwnD w B0 A n cap l) : RdD w A l := ⟨own_rd h.os, h.ok⟩
theorem OwnD.nil (w : World) (B0 : Nat) : OwnD w B0 none 0 0 [] := ⟨rfl, World.ownsRow_nil _ _ _ _, fun b off e => (by cases e), fun x h => (by cases h)⟩
theorem OwnD.below {w w' : World} {B0 : Nat} {A : Option Addr} {n cap : Nat} {l : List Dk} (h : OwnD w B0 A n cap l) (hb : Below w.heap.size w w') : OwnD w' B0 A n cap l := by
  refine ⟨h.hn, own_keep h.os hb, fun b off e j u hu => ?_, fun x hx => (h.ok x hx).below hb⟩
  have hlt : b < w.heap.size := (h.os.lt b (by rw [e]; rfl)).2
  exact h.sl b off e j u ((World.cell?_of_block (hb.block b hlt)).symm.trans hu)
/-- One disk more. -/
theorem OwnD.set {w : World} {B0 g n cap : Nat} {l : List Dk} (h : OwnD w B0 (some ⟨g, 0, none⟩) n cap l) {i : Nat} (hi : i < n) {x : Dk} (hx : x.ok w) :
    OwnD ((w.setCell ⟨g, i * 2, none⟩ (.slice x.A x.n x.c)).setCell ⟨g, i * 2 + 1, none⟩ (.slice x.B x.m x.d)) B0 (some ⟨g, 0, none⟩) n cap (l.set i x) ∧ w.grownBy ((w.setCell ⟨g, i * 2, none⟩ (.slice x.A x.n x.c)).setCell ⟨g, i * 2 + 1, none⟩ (.slice x.B x.m x.d)) (some g) := by
  obtain ⟨s1, g1⟩ := h.os.stored (i * 2) (.slice x.A x.n x.c)
  obtain ⟨s2, g2⟩ := s1.stored (i * 2 + 1) (.slice x.B x.m x.d)
  rw [dksV_set l i x (by rw [← h.hn]; exact hi)] at s2
  have hgg : w.grownBy ((w.setCell ⟨g, i * 2, none⟩ (.slice x.A x.n x.c)).setCell ⟨g, i * 2 + 1, none⟩ (.slice x.B x.m x.d)) (some g) :=
    ⟨g2.os.trans g1.os, g2.tape.trans g1.tape, g2.output.trans g1.output, Nat.le_trans g1.size g2.size, fun k hk hne => (g2.block k (Nat.lt_of_lt_of_le hk g1.size) hne).trans (g1.block k hk hne)⟩
  obtain ⟨cur, hc⟩ := own_cells h.os g rfl
  have hkeep : ∀ y : Dk, y.ok w → y.ok ((w.setCell ⟨g, i * 2, none⟩ (.slice x.A x.n x.c)).setCell ⟨g, i * 2 + 1, none⟩ (.slice x.B x.m x.d)) := fun y hy => PB.grown hy hc (by decide) (by decide) (h.sl g 0 rfl) hgg
  refine ⟨⟨by rw [List.length_set]; exact h.hn, s2, fun b off e j u hu => ?_, fun y hy => ?_⟩, hgg⟩
  · injection e with e
    injection e with e
    subst e
    have hc2 : (((w.setCell ⟨g, i * 2, none⟩ (.slice x.A x.n x.c)).setCell ⟨g, i * 2 + 1, none⟩ (.slice x.B x.m x.d))).heap[g]? = some (.cells ((cur.setIfInBounds (i * 2) (.slice x.A x.n x.c)).setIfInBounds (i * 2 + 1) (.slice x.B x.m x.d)) 68 (0, 0)) :=
      heap_setCell_same _ g _ _ _ _ (heap_setCell_same w g _ _ _ _ hc)
    rw [cell_of_row _ g j _ _ _ hc2, Array.getElem?_setIfInBounds, Array.getElem?_setIfInBounds] at hu
    split at hu
    · split at hu
      · cases hu; rfl
      · cases hu
    · split at hu
      · split at hu
        · cases hu; rfl
        · cases hu
      · refine h.sl g 0 rfl j u ?_
        rw [cell_of_row w g j _ _ _ hc]
        exact hu
  · rcases List.mem_or_eq_of_mem_set hy with hy | rfl
    · exact hkeep y (h.ok y hy)
    · exact hkeep y hx
theorem plats_set (l : List Dk) (i : Nat) (x : Dk) : plats (l.set i x) = (plats l).set i x.P := by simp [plats]
theorem plats_at {l : List Dk} {i : Nat} (hi : i < l.length) : (plats l).getD i noPlat = l[i].P := by
  rw [List.getD_eq_getElem?_getD, plats, List.getElem?_map, List.getElem?_eq_getElem hi]; rfl
end Go.Proofs.YtkbjmmigjjdfpaaGreatDoor
