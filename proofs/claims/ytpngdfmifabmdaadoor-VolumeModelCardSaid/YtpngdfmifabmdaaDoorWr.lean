/-
  Rows of writes: a block's place and its text.
-/
import Derived.Test.YtpngdfmifabmdaaDoorVo5
import Derived.Test.YtpngdfmifabmdaaDoorNon
namespace Go.Proofs.YtpngdfmifabmdaaDoor
open Go.RowKit
set_option linter.unusedVariables false

structure Wri where
  i : Int
  s : ByteArray
def wrV (o : Wri) : List Value := [.int .i64 o.i, .string o.s]
def wrsV (l : List Wri) : List Value := l.flatMap wrV
theorem wrsV_get : ∀ (l : List Wri) (i f : Nat) (o : Wri), l[i]? = some o → f < 2 → (wrsV l)[i * 2 + f]? = (wrV o)[f]?
  | [], i, f, o, h, _ => by simp at h
  | x :: l, 0, f, o, h, hf => by
    simp only [List.getElem?_cons_zero, Option.some.injEq] at h
    subst h
    rw [wrsV, List.flatMap_cons, Nat.zero_mul, Nat.zero_add, List.getElem?_append_left (by simp [wrV]; omega)]
  | x :: l, i + 1, f, o, h, hf => by
    simp only [List.getElem?_cons_succ] at h
    rw [wrsV, List.flatMap_cons, List.getElem?_append_right (by simp [wrV]; omega)]
    have := wrsV_get l i f o h hf
    rw [← this, wrsV]
    congr 1
    simp [wrV]
    omega
theorem wrsV_len (m : List Wri) : (wrsV m).length = m.length * 2 := by
  induction m with
  | nil => rfl
  | cons a m ih => rw [wrsV, List.flatMap_cons, List.length_append, ← wrsV, ih]; simp [wrV]; omega
theorem wr_cells {w : World} {A : Option Addr} {l : List Wri} {i : Nat} (h : Rd w A (wrsV l)) (hi : i < l.length) :
    ∃ b off, A = some ⟨b, off, none⟩ ∧ w.cell? ⟨b, off + i * 2, none⟩ = some (.int .i64 l[i].i) ∧ w.cell? ⟨b, off + i * 2 + 1, none⟩ = some (.string l[i].s) := by
  have ho : l[i]? = some l[i] := List.getElem?_eq_getElem hi
  obtain ⟨b, off, hA, h0⟩ := h (i * 2 + 0) _ (wrsV_get l i 0 _ ho (by omega))
  obtain ⟨b1, off1, hA1, h1⟩ := h (i * 2 + 1) _ (wrsV_get l i 1 _ ho (by omega))
  rw [hA] at hA1
  injection hA1 with hA1
  injection hA1 with e1 e2
  subst e1 e2
  exact ⟨b, off, hA, h0, h1⟩
end Go.Proofs.YtpngdfmifabmdaaDoor
