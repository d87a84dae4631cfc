/-
  A whole array stored into a block that is known whole: the world behind it by its facts alone.
-/
import Derived.Test.YtkeeejkijbaooaaDoorArr
namespace Go.Proofs.YtkeeejkijbaooaaDoor
open Go.RowKit
set_option linter.unusedVariables false

theorem setCells_size (b : Nat) : ∀ (vs : List Value) (o : Nat) (w : World), (w.setCells b o vs).heap.size = w.heap.size
  | [], _, _ => rfl
  | v :: r, o, w => by
    rw [World.setCells, setCells_size b r]
    simp [World.setCell]
theorem setCells_other (b k : Nat) (hk : k ≠ b) : ∀ (vs : List Value) (o : Nat) (w : World), (w.setCells b o vs).heap[k]? = w.heap[k]?
  | [], _, _ => rfl
  | v :: r, o, w => by
    rw [World.setCells, setCells_other b k hk r]
    exact Below.heap_setCell _ _ _ _ hk
theorem setCells_os (b : Nat) : ∀ (vs : List Value) (o : Nat) (w : World), (w.setCells b o vs).os = w.os ∧ (w.setCells b o vs).tape = w.tape ∧ (w.setCells b o vs).output = w.output
  | [], _, _ => ⟨rfl, rfl, rfl⟩
  | v :: r, o, w => by
    rw [World.setCells]
    exact setCells_os b r _ _
theorem setCells_block (b : Nat) (t : TypeId) (fr : Nat × Nat) : ∀ (vs : List Value) (o : Nat) (w : World) (cs : Array Value), w.heap[b]? = some (.cells cs t fr) → o + vs.length ≤ cs.size →
    ∃ ds : Array Value, (w.setCells b o vs).heap[b]? = some (.cells ds t fr) ∧ ds.size = cs.size ∧ ∀ i, ds[i]? = if o ≤ i ∧ i < o + vs.length then vs[i - o]? else cs[i]?
  | [], o, w, cs, h, _ => ⟨cs, h, rfl, fun i => by rw [if_neg (by simp only [List.length_nil]; omega)]⟩
  | v :: r, o, w, cs, h, hl => by
    simp only [List.length_cons] at hl
    rw [World.setCells]
    have h1 : (w.setCell ⟨b, o, none⟩ v).heap[b]? = some (.cells (cs.setIfInBounds o v) t fr) := by
      simp [World.setCell, Array.getElem?_modify, h]
    obtain ⟨ds, hd, hs, hi⟩ := setCells_block b t fr r (o + 1) _ _ h1 (by simp; omega)
    refine ⟨ds, hd, by simpa using hs, fun i => ?_⟩
    rw [hi i, Array.getElem?_setIfInBounds]
    by_cases e : o = i
    · subst e
      rw [if_neg (by omega), if_pos rfl, if_pos (by omega), if_pos (by simp)]
      simp
    · by_cases e2 : o ≤ i ∧ i < o + (v :: r).length
      · simp only [List.length_cons] at e2
        rw [if_pos (by omega), if_pos (by simp; omega), show i - o = (i - (o + 1)) + 1 by omega]
        simp
      · simp only [List.length_cons] at e2
        rw [if_neg (by omega), if_neg e, if_neg (by simp; omega)]

theorem wpList_store_whole {P : Program} {ops : Array Oper} {rest : List Oper} {op : Oper} {a : Act} {w : World} {Q : Exit → Act → World → Prop} (hgd : op.guard = none) (ty : TypeId) (x y : Operand) (ho : op.op = .store ty x y)
    (g : Nat) (arr : Array Value) (hx : a.eval x = .pointer (some ⟨g, 0, none⟩)) (hy : a.eval y = .agg arr) (cs : Array Value) (t : TypeId) (hg : w.heap[g]? = some (.cells cs t (0, 0))) (hsz : arr.size = cs.size)
    (hi : (P.info? ty).map (·.size) = some arr.size) (h1 : arr.all (·.oneCell') = true)
    (h : ∀ w', w'.heap[g]? = some (.cells arr t (0, 0)) → w.grownBy w' (some g) → wpList P ops Q rest (a.put op.dst undef) w') : wpList P ops Q (op :: rest) a w := by
  refine wpList_store_mid hgd ty x y ho g 0 arr hx hy (there_blk hg (Nat.le_of_eq hsz)) hi h1 (h _ ?_ ?_)
  · obtain ⟨ds, hd, hs, he⟩ := setCells_block g t (0, 0) arr.toList 0 w cs hg (by simp [hsz])
    have : ds = arr := by
      apply Array.ext_getElem?
      intro i
      rw [he i]
      by_cases hlt : i < arr.size
      · rw [if_pos (by simp; omega)]
        simp
      · rw [if_neg (by simp; omega), Array.getElem?_eq_none (by omega), Array.getElem?_eq_none (by omega)]
    rw [hd, this]
  · obtain ⟨e1, e2, e3⟩ := setCells_os g arr.toList 0 w
    exact ⟨e1, e2, e3, Nat.le_of_eq (setCells_size g _ _ _).symm, fun i hi hne => setCells_other g i (fun e => hne (by rw [e])) _ _ _⟩

theorem ints_one (xs : List Int) : (ints xs).toArray.all (·.oneCell') = true := by
  rw [Array.all_eq_true']
  intro v hv
  obtain ⟨x, _, rfl⟩ := List.mem_map.1 (by simpa [ints] using hv : v ∈ ints xs)
  rfl
theorem ints_size (xs : List Int) : (ints xs).toArray.size = xs.length := by simp [ints]
/-- A block of ints: its cells. -/
theorem ints_cell {w : World} {g : Nat} {t : TypeId} {xs : List Int} (h : w.heap[g]? = some (.cells (ints xs).toArray t (0, 0))) {i : Nat} (hi : i < xs.length) :
    w.cell? ⟨g, i, none⟩ = some (.int .i64 (xs.getD i 0)) ∧ w.frozen? ⟨g, i, none⟩ = false := by
  refine ⟨?_, ?_⟩
  · unfold World.cell?
    simp only [h]
    simp [ints, hi]
  · unfold World.frozen?
    simp only [h]
    simp
theorem ints_set {w : World} {g : Nat} {t : TypeId} {xs : List Int} (h : w.heap[g]? = some (.cells (ints xs).toArray t (0, 0))) (i : Nat) (x : Int) :
    (w.setCell ⟨g, i, none⟩ (.int .i64 x)).heap[g]? = some (.cells (ints (xs.set i x)).toArray t (0, 0)) := by
  rw [blk_set h]
  simp [ints]
end Go.Proofs.YtkeeejkijbaooaaDoor
