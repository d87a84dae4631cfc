/-
  Arrays in memory, words: small facts.
-/
import Derived.Test.YtkeeejkijbaooaaDoorCut
import Derived.Deep.RegionHeld3
namespace Go.Proofs.YtkeeejkijbaooaaDoor
open Go.RowKit
set_option linter.unusedVariables false

theorem wordsB1 {a : Int} : wordsB [a] = true ↔ (0 ≤ a ∧ a ≤ 4294967295) := by simp [wordsB, wordB]
theorem wordsB2 {a b : Int} : wordsB [a, b] = true ↔ (0 ≤ a ∧ a ≤ 4294967295) ∧ (0 ≤ b ∧ b ≤ 4294967295) := by simp [wordsB, wordB]
theorem xorI_range {a b : Int} (ha : 0 ≤ a ∧ a ≤ 4294967295) (hb : 0 ≤ b ∧ b ≤ 4294967295) : 0 ≤ xorI a b ∧ xorI a b ≤ 4294967295 := by
  have : a.toNat ^^^ b.toNat < 2 ^ 32 := Nat.xor_lt_two_pow (by omega) (by omega)
  unfold xorI
  omega
/-- x is a word -/
def Wd (x : Int) : Prop := 0 ≤ x ∧ x ≤ 4294967295
theorem wd_add (xs : List Int) : Wd (addI xs) := by have := addI_range xs; exact ⟨this.1, by omega⟩

theorem res5 {fn : Func} {t u v x y : Tmp} (h : fn.results = #[.tmp t, .tmp u, .tmp v, .tmp x, .tmp y]) (tmps : Array Value) (P : Program) (w : World) :
    (results fn tmps).run P w = .ok (.tuple #[tmps.getD t undef, tmps.getD u undef, tmps.getD v undef, tmps.getD x undef, tmps.getD y undef]) w := by simp [results, h]


/-- The words of a text of n words, the lowest byte first. -/
def cutL (s : List UInt8) (high : Bool) (n : Nat) : List Int := (List.range n).map fun j => ((cutAcc s high s.length j : Nat) : Int)

theorem keep_two {w w1 : World} {o o2 : Obj} (h : Below ((w.alloc o).alloc o2).heap.size ((w.alloc o).alloc o2) w1) : w1.heap[w.heap.size]? = some o :=
  (h.block w.heap.size (by simp; omega)).trans ((Below.heap_alloc _ _ _ (by simp)).trans (heap_alloc_new w o))
theorem below_two {w w1 : World} {o o2 : Obj} (h : Below ((w.alloc o).alloc o2).heap.size ((w.alloc o).alloc o2) w1) : Below w.heap.size w w1 :=
  Below.chain_alloc ((Below.refl _ _).alloc (Nat.le_refl _) _) h

theorem cell_lt_of {w : World} {t : Nat} {o : Obj} (h : w.heap[t]? = some o) : t < w.heap.size := by
  rcases Nat.lt_or_ge t w.heap.size with hlt | hge
  · exact hlt
  · rw [Array.getElem?_eq_none hge] at h; cases h
theorem keep_one {w w1 : World} {o : Obj} (h : Below (w.alloc o).heap.size (w.alloc o) w1) : w1.heap[w.heap.size]? = some o :=
  (h.block w.heap.size (by simp)).trans (heap_alloc_new w o)

theorem grownBy_below' {w w' : World} {t B : Nat} (h : w.grownBy w' (some t)) (hB : B ≤ t) (hB2 : B ≤ w.heap.size) : Below B w w' :=
  ⟨h.os, h.tape, h.output, h.size, fun i hi => h.block i (by omega) (fun e => by injection e with e; omega)⟩
/-- The words that Cut laid, as a row that is read. -/
theorem rd_cut {w : World} {g n : Nat} {s : List UInt8} {high : Bool} {t : TypeId} {m : Nat} (h : w.rowIs g t n (fun j => .int .i64 (cutAcc s high m j : Nat))) (hm : m = s.length) :
    ∀ j v, (ints (cutL s high n))[j]? = some v → w.cell? ((⟨g, 0, none⟩ : Addr).add j) = some v := by
  subst hm
  intro j v hv
  have hj : j < n := by
    rcases Nat.lt_or_ge j n with h | h
    · exact h
    · simp [ints, cutL, h] at hv
  have e : (⟨g, 0, none⟩ : Addr).add j = ⟨g, j, none⟩ := by
    unfold Addr.add
    split
    · rename_i h; rw [h]
    · simp
  rw [e, h.cell hj]
  simpa [ints, cutL, hj] using hv
/-- Words copied into the middle of a block. -/
theorem copy_in {w : World} {S g : Nat} (o dCap : Nat) (cur : Array Value) {t : TypeId} {n : Nat} (xs : List Int) (hS : w.heap[S]? = some (.cells cur t (0, 0))) (hsrc : ∀ j v, (ints xs)[j]? = some v → w.cell? ((⟨g, 0, none⟩ : Addr).add j) = some v)
    (hfit : o + xs.length ≤ cur.size) (hn : n = xs.length) :
    ∃ w', (Builtin.copy_ #[71, 71] 3 #[.slice (some ⟨S, o, none⟩) n dCap, .slice (some ⟨g, 0, none⟩) n n]).run Tryd.prog w = .ok (.int .i64 n) w' ∧
      w'.heap[S]? = some (.cells (cur.toList.take o ++ ints xs ++ cur.toList.drop (o + xs.length)).toArray t (0, 0)) ∧ w.grownBy w' (some S) := by
  subst hn
  have hl : (ints xs).length = xs.length := by simp [ints]
  have h := run_copy_row (P := Tryd.prog) w 71 71 3 3 S o xs.length dCap ⟨g, 0, none⟩ xs.length xs.length cur t (ints xs) Tryd.underlying71 (by kernel_rfl) hS (by rw [hl]; exact (Nat.min_self _).symm) hsrc (by rw [hl]; exact hfit) (by
    intro v hv
    obtain ⟨x, _, rfl⟩ := List.mem_map.1 hv
    rfl)
  rw [hl] at h
  refine ⟨_, h, setRow_heap w S cur _ t (0, 0) hS, ⟨rfl, rfl, rfl, by simp, fun i hi hne => setRow_other w S i _ (fun e => hne (by rw [e]))⟩⟩

theorem blk_set {w : World} {g : Nat} {t : TypeId} {cs : Array Value} (h : w.heap[g]? = some (.cells cs t (0, 0))) (i : Nat) (u : Value) : (w.setCell ⟨g, i, none⟩ u).heap[g]? = some (.cells (cs.setIfInBounds i u) t (0, 0)) := by
  simp [World.setCell, Array.getElem?_modify, h]


theorem there_blk {w : World} {g n : Nat} {t : TypeId} {cs : Array Value} (h : w.heap[g]? = some (.cells cs t (0, 0))) (hn : n ≤ cs.size) : w.there g 0 n := by
  intro j hj
  have e : (0 : Nat) + j = j := Nat.zero_add j
  refine ⟨?_, ?_⟩
  · unfold World.cell?
    simp only [h, e]
    have : cs[j]? = some cs[j] := Array.getElem?_eq_getElem (by omega)
    simp [this]
  · unfold World.frozen?
    simp only [h]
    simp
theorem res_cell_tmp {P : Program} {fn : Func} {a t : Tmp} {ty : TypeId} (h : fn.results = #[.cell a ty, .tmp t]) (tmps : Array Value) (w : World) (g : Nat) (ha : tmps.getD a undef = .pointer (some ⟨g, 0, none⟩)) (v : Value)
    (hl : (loadVar ty ⟨g, 0, none⟩).run P w = .ok v w) : (results fn tmps).run P w = .ok (.tuple #[v, tmps.getD t undef]) w := by
  have ha' : tmps[a]?.getD undef = .pointer (some ⟨g, 0, none⟩) := by simpa using ha
  simp [results, h, asAddr, ha', hl]
theorem below_setCells {B b : Nat} {w0 : World} (hb : B ≤ b) : ∀ (vs : List Value) (o : Nat) (w : World), Below B w0 w → Below B w0 (w.setCells b o vs)
  | [], _, _, h => h
  | v :: r, o, w, h => by
    rw [World.setCells]
    exact below_setCells hb r _ _ (h.setCell (p := ⟨b, o, none⟩) hb v)
end Go.Proofs.YtkeeejkijbaooaaDoor
