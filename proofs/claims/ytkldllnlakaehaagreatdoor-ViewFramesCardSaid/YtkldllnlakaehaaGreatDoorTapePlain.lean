/-
  share.Tape's bytes, line by line: plain facts; and small facts on worlds in which one block alone is turned.
-/
import Derived.Test.YtkldllnlakaehaaGreatDoorWithout
import Derived.Test.YtkldllnlakaehaaGreatDoorShr
namespace Go.Proofs.YtkldllnlakaehaaGreatDoor
open Go.RowKit
set_option linter.unusedVariables false
set_option maxRecDepth 100000
set_option maxHeartbeats 4000000

theorem gb_heap {w w' : World} {G k : Nat} {o : Obj} (h : w.grownBy w' (some G)) (hk : w.heap[k]? = some o) (hne : k ≠ G) : w'.heap[k]? = some o :=
  (h.block k (cell_lt_of hk) (fun e => by injection e; omega)).trans hk
theorem own_heap {w : World} {g B : Nat} {e : TypeId} {size n cap : Nat} {xs : List Value} (hk : w.ownsRow B e size (.slice (some ⟨g, 0, none⟩) n cap) n xs) : w.heap[g]? = some (w.heap[g]?.get!) := by
  rcases hk.2 with ⟨e1, _⟩ | ⟨g1, cap1, cur, e1, hB, hg, _⟩
  · cases e1
  · injection e1 with e1
    injection e1 with e1
    injection e1 with e1
    subst e1
    rw [hg]
    rfl
theorem gb_field {w w' : World} {G g : Nat} (h : w.grownBy w' (some G)) (hk : IsField w g) (hne : g ≠ G) : IsField w' g := by
  obtain ⟨L, h1, h2⟩ := hk
  exact ⟨L, gb_heap h h1 hne, h2⟩
theorem gb_own {w w' : World} {G g B : Nat} {e : TypeId} {size n cap : Nat} {xs : List Value} (h : w.grownBy w' (some G)) (hk : w.ownsRow B e size (.slice (some ⟨g, 0, none⟩) n cap) n xs) (hne : g ≠ G) : w'.ownsRow B e size (.slice (some ⟨g, 0, none⟩) n cap) n xs := by
  refine ⟨hk.1, ?_⟩
  rcases hk.2 with hk | ⟨g1, cap1, cur, hv, hB, hg, hr⟩
  · exact .inl hk
  · have hv' := hv
    injection hv' with e1 e2 e3
    injection e1 with e1
    injection e1 with e1
    exact .inr ⟨g1, cap1, cur, hv, hB, gb_heap h hg (by omega), hr⟩
theorem gb_next {w w1 w2 : World} {r : Option Nat} (h : w.grownBy w1 r) (hb : Below w1.heap.size w1 w2) : w.grownBy w2 r :=
  ⟨hb.os.trans h.os, hb.tape.trans h.tape, hb.output.trans h.output, Nat.le_trans h.size hb.size, fun i hi hr => (hb.block i (Nat.lt_of_lt_of_le hi h.size)).trans (h.block i hi hr)⟩
theorem gb_below {w w1 : World} (r : Option Nat) (hb : Below w.heap.size w w1) : w.grownBy w1 r := ⟨hb.os, hb.tape, hb.output, hb.size, fun i hi _ => hb.block i hi⟩
theorem gb_rd {w w' : World} {G : Nat} {A : Option Addr} {xs : List Value} (h : w.grownBy w' (some G)) (hr : Rd w A xs) (hne : ∀ b off, A = some ⟨b, off, none⟩ → b ≠ G) : Rd w' A xs := by
  intro i u hu
  obtain ⟨b, off, hA, hc⟩ := hr i u hu
  refine ⟨b, off, hA, ?_⟩
  have := h.block b (cell_lt hc) (fun e => by injection e with e; exact hne b off hA e)
  unfold World.cell? at hc ⊢
  rw [this]
  exact hc

/-- A row of bytes laid into the middle of a block of bytes. -/
theorem set_line {w : World} {G n t : Nat} {ty : TypeId} {F F' : Nat → UInt8} (h : w.heap[G]? = some (.cells (bytesV ((List.range (n * 32)).map F)).toArray ty (0, 0))) (ht : t < n) {row : List UInt8} (hr : row.length = 32)
    (h1 : ∀ j, j < 32 → row.getD j 0 = F' (t * 32 + j)) (h2 : ∀ p, p / 32 ≠ t → F p = F' p) :
    (w.setCells G (t * 32) (bytesV row)).heap[G]? = some (.cells (bytesV ((List.range (n * 32)).map F')).toArray ty (0, 0)) := by
  obtain ⟨ds, hd, hs, hi⟩ := setCells_block G ty (0, 0) (bytesV row) (t * 32) w _ h (by simp [bytesV, hr]; omega)
  have : ds = (bytesV ((List.range (n * 32)).map F')).toArray := by
    apply Array.ext_getElem?
    intro p
    rw [hi p, bytesV_length, hr]
    by_cases c : t * 32 ≤ p ∧ p < t * 32 + 32
    · rw [if_pos c]
      obtain ⟨j, rfl⟩ : ∃ j, p = t * 32 + j := ⟨p - t * 32, by omega⟩
      have hj : j < 32 := by omega
      have := h1 j hj
      have hj2 : j < row.length := by omega
      have hp : t * 32 + j < n * 32 := by omega
      rw [show t * 32 + j - t * 32 = j by omega]
      simp [bytesV, hj2, hp]
      rw [← this]
      simp [hj2]
    · rw [if_neg c]
      by_cases hp : p < n * 32
      · simp [bytesV, hp, h2 p (by omega)]
      · simp [bytesV, hp]
  rw [hd, this]
theorem setCells_by {B : Nat} {w0 w : World} {G o : Nat} (h : Below B w0 w) (hB : B ≤ G) (vs : List Value) : Below B w0 (w.setCells G o vs) := below_setCells hB vs o w h
theorem setCells_gb {w0 w : World} {G o : Nat} (h : w0.grownBy w (some G)) (vs : List Value) : w0.grownBy (w.setCells G o vs) (some G) := by
  obtain ⟨e1, e2, e3⟩ := setCells_os G vs o w
  exact ⟨e1.trans h.os, e2.trans h.tape, e3.trans h.output, by rw [setCells_size]; exact h.size, fun i hi hne => (setCells_other G i (fun e => hne (by rw [e])) vs o w).trans (h.block i hi hne)⟩
theorem there_mid {w : World} {g o n : Nat} {t : TypeId} {cs : Array Value} (h : w.heap[g]? = some (.cells cs t (0, 0))) (hn : o + n ≤ cs.size) : w.there g o n := by
  intro j hj
  refine ⟨?_, ?_⟩
  · unfold World.cell?
    simp only [h]
    have : cs[o + j]? = some cs[o + j] := Array.getElem?_eq_getElem (by omega)
    simp [this]
  · unfold World.frozen?
    simp only [h]
    simp

/-- Digit t of byte j, i shares done. -/
def accF (s : List UInt8) (l : List Shr) (i t j : Nat) : UInt8 := (((List.zip (xsOf l) (ysOf l j)).take i).foldl (tapeStep (xsOf l) (s.getD j 0)) (List.replicate l.length 0)).getD t 0
/-- The lines while share i is done, t digits of it. -/
def accL (s : List UInt8) (l : List Shr) (i t p : Nat) : UInt8 := accF s l (if p / 32 < t then i + 1 else i) (p / 32) (p % 32)
theorem accL_next (s : List UInt8) (l : List Shr) (i p : Nat) (hp : p < l.length * 32) : accL s l i l.length p = accL s l (i + 1) 0 p := by
  rw [accL, accL, if_pos (by omega), if_neg (by omega)]
theorem tapeStep_len (xs : List UInt8) (s : UInt8) (acc : List UInt8) (p : UInt8 × UInt8) (h : acc.length = xs.length) : (tapeStep xs s acc p).length = xs.length := by
  rw [tapeStep, addP, List.length_zipWith, partP_len, h, Nat.min_self]
theorem fold_len (xs : List UInt8) (s : UInt8) : ∀ (ps : List (UInt8 × UInt8)) (acc : List UInt8), acc.length = xs.length → (ps.foldl (tapeStep xs s) acc).length = xs.length
  | [], acc, h => h
  | p :: ps, acc, h => fold_len xs s ps _ (tapeStep_len xs s acc p h)
theorem accF_step (s : List UInt8) (l : List Shr) (i t j : Nat) (hi : i < l.length) (ht : t < l.length) : accF s l (i + 1) t j = accF s l i t j ^^^
    gm (gm ((quoZ (xsOf l) (UInt8.ofNat l[i].1.toNat)).getD t 0) (gi (gm (evalP (quoZ (xsOf l) (UInt8.ofNat l[i].1.toNat)) (UInt8.ofNat l[i].1.toNat)) (UInt8.ofNat l[i].1.toNat)))) (s.getD j 0 ^^^ l[i].2.data.toList.getD j 0) := by
  have hz : i < (List.zip (xsOf l) (ysOf l j)).length := by simp [xsOf, ysOf, hi]
  rw [accF, List.take_succ_eq_append_getElem hz, List.foldl_append, List.foldl_cons, List.foldl_nil, accF]
  have hlen : (((List.zip (xsOf l) (ysOf l j)).take i).foldl (tapeStep (xsOf l) (s.getD j 0)) (List.replicate l.length 0)).length = l.length := by
    rw [fold_len _ _ _ _ (by simp [xsOf])]
    simp [xsOf]
  generalize ((List.zip (xsOf l) (ysOf l j)).take i).foldl (tapeStep (xsOf l) (s.getD j 0)) (List.replicate l.length 0) = acc at hlen
  have hq : (quoZ (xsOf l) (UInt8.ofNat l[i].1.toNat)).length = l.length := by rw [quoZ_len]; simp [xsOf]
  have e : (List.zip (xsOf l) (ysOf l j))[i] = (UInt8.ofNat l[i].1.toNat, l[i].2.data.toList.getD j 0) := by simp [xsOf, ysOf]
  rw [e, tapeStep, addP, partP]
  generalize quoZ (xsOf l) (UInt8.ofNat l[i].1.toNat) = q at hq
  have h1 : t < acc.length := by omega
  have h2 : t < q.length := by omega
  rw [getD_at _ t (by simp; omega), getD_at acc t h1, getD_at q t h2]
  simp only [List.getElem_zipWith, List.getElem_map]
/-- The tape by which a secret has these shares. -/
def tapeOut (s : List UInt8) (l : List Shr) : List UInt8 := (List.range (l.length * 32)).map fun p => (tapeP (s.getD (p % 32) 0) (xsOf l) (ysOf l (p % 32))).getD (p / 32) 0
theorem accL_end (s : List UInt8) (l : List Shr) : (List.range (l.length * 32)).map (accL s l l.length 0) = tapeOut s l := by
  apply List.map_congr_left
  intro p _
  rw [accL, if_neg (by omega), accF, tapeP, List.take_of_length_le (by simp [xsOf, ysOf])]
  simp [xsOf]
theorem accL_start (s : List UInt8) (l : List Shr) : (List.range (l.length * 32)).map (accL s l 0 0) = List.replicate (l.length * 32) 0 := by
  apply List.ext_getElem
  · simp
  · intro p h1 h2
    have hp : p / 32 < l.length := by simp at h1; omega
    simp [accL, accF, hp]
theorem line_of (F : Nat → UInt8) (n t : Nat) (ht : t < n) : ((bytesV ((List.range (n * 32)).map F)).toArray.extract (t * 32) (t * 32 + 32)).toList = bytesV ((List.range 32).map fun j => F (t * 32 + j)) := by
  apply List.ext_getElem
  · simp [bytesV]; omega
  · intro j h1 h2
    simp [bytesV]
end Go.Proofs.YtkldllnlakaehaaGreatDoor
