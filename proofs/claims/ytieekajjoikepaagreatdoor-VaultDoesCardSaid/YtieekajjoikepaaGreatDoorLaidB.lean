/-
  From the row's list of package-level variables to the memory that the walks read: the tables.
-/
import Derived.Test.YtieekajjoikepaaGreatDoorCards
import Derived.Test.YtieekajjoikepaaGreatDoorTie
import Derived.Test.YtieekajjoikepaaGreatDoorSt
import Derived.Test.YtieekajjoikepaaGreatDoorSh
import Derived.Test.YtieekajjoikepaaGreatDoorBase
import Derived.ProofKit
import Derived.OpenShut
import Derived.Deep.DeepHandedRow
import Derived.Lib.LaidTab
namespace Go.Proofs.YtieekajjoikepaaGreatDoor
open Go.ChangeShapes Go.WideShapes Go.ChangeAt Go.RowKit
set_option linter.unusedVariables false

theorem flatMap_same {α β : Type} {f g : α → List β} : ∀ (l : List α), (∀ x ∈ l, f x = g x) → l.flatMap f = l.flatMap g
  | [], _ => rfl
  | a :: l, h => by
    rw [List.flatMap_cons, List.flatMap_cons, h a (by simp), flatMap_same l fun x hx => h x (by simp [hx])]
theorem chunks {α : Type} (m : Nat) : ∀ (n : Nat) (cs : List α), cs.length = n * m → cs = (List.range n).flatMap fun i => (cs.drop (i * m)).take m
  | 0, cs, h => by
    have : cs = [] := List.eq_nil_of_length_eq_zero (by simpa using h)
    subst this
    rfl
  | n + 1, cs, h => by
    have h1 : (cs.take (n * m)).length = n * m := by
      rw [List.length_take, h, Nat.succ_mul]
      omega
    have ih := chunks m n (cs.take (n * m)) h1
    rw [List.range_succ, List.flatMap_append]
    have e1 : (List.range n).flatMap (fun i => (cs.drop (i * m)).take m) = (List.range n).flatMap fun i => ((cs.take (n * m)).drop (i * m)).take m := by
      apply flatMap_same
      intro i hi
      have hi' : i < n := by simpa using hi
      rw [List.drop_take, List.take_take]
      congr 1
      have : (i + 1) * m ≤ n * m := Nat.mul_le_mul_right m hi'
      rw [Nat.succ_mul] at this
      omega
    rw [e1, ← ih]
    simp only [List.flatMap_cons, List.flatMap_nil, List.append_nil]
    rw [List.take_of_length_le (l := cs.drop (n * m)) (by rw [List.length_drop, h, Nat.succ_mul]; omega), List.take_append_drop]

/-- An array of arrays of integers that reads as a table of rows holds just these integers. -/
theorem cells_of_tab2 {H : Type} {enc : TypeId × Value → H} {P : Program} {w : World} {base : Nat} {sp : Nat → Bool} {held : Bool} {fuel : Nat} {t e f : TypeId} {n m : Nat} {k : IntKind} {cs : List Value} {zss : List (List Int)} {p : List MemPlace}
    (ht : P.underlying t = some (.array n e)) (he : P.underlying e = some (.array m f)) (hf : P.underlying f = some (.int k)) (hcf : P.cellsOf f = 1) (hce : P.cellsOf e = m) (hct : P.cellsOf t = n * m)
    (h : DataW.trod enc P w base sp held fuel t cs = some (.agg (zss.map (Lib.tabData k)), p)) : cs = zss.flatMap fun zs => zs.map fun z => Value.int k z := by
  obtain ⟨xs, q, _, hx, hl, hxl, hi⟩ := DataW.trod_array ht h
  rw [hce] at hi
  have hx1 : zss.map (Lib.tabData (H := H) k) = xs.map (·.1) := by
    have := congrArg Prod.fst hx
    simpa using this
  have hzl : zss.length = n := by
    have := congrArg List.length hx1
    simpa [hxl] using this
  rw [hct] at hl
  rw [chunks m n cs hl]
  have hz : zss = (List.range n).map fun i => zss.getD i [] := by
    apply List.ext_getElem
    · simp [hzl]
    · intro j h1 h2
      simp [h1]
  rw [hz, List.flatMap_map]
  apply flatMap_same
  intro i hmem
  have hin : i < n := by simpa using hmem
  have hi1 : i < zss.length := by omega
  have hi2 : i < xs.length := by omega
  have h1 := hi i hin
  have h2 : Lib.tabData (H := H) k zss[i] = (xs[i]).1 := by
    have := congrArg (·[i]?) hx1
    simpa [hi1, hi2] using this
  have h3 : DataW.trod enc P w base sp held q e ((cs.drop (i * m)).take m) = some (Lib.tabData k zss[i], (xs[i]).2) := by
    rw [h1, List.getElem?_eq_getElem hi2, h2]
  rw [Lib.cells_of_tab he hf hcf hce h3]
  simp [hi1]

/-- What lies in a block of cells, put anew. -/
def putCells (cs : Array Value) : Obj → Obj
  | .cells _ t frozen => .cells cs t frozen
  | o => o
/-- A variable that is listed, wherever it stands in the list. -/
theorem laid_at {P : Program} {W : World} {n : String} {d : DataW Unit} : ∀ {laid : List (String × DataW Unit)} {ps : List MemPlace}, DataW.LaidVars P W laid ps → (n, d) ∈ laid →
    ∃ g t cs fuel p, P.globalNamed n = some g ∧ (P.globals[g]?).map (·.type) = some t ∧ W.var? P n = some cs ∧ DataW.trod (fun _ => ()) P W 0 (fun _ => true) false fuel t cs.toList = some (d, p)
  | [], _, _, h => by cases h
  | (n', d') :: r, ps, hv, h => by
    obtain ⟨g, t, cs, fuel, p, q, h1, h2, h3, h4, h5, _⟩ := hv
    rcases List.mem_cons.1 h with e | e
    · injection e with e1 e2
      subst e1; subst e2
      exact ⟨g, t, cs, fuel, p, h1, h2, h3, h4⟩
    · exact laid_at h5 e

def turnsZ : List (List Int) := [[0, 4, 8, 12], [1, 5, 9, 13], [2, 6, 10, 14], [3, 7, 11, 15], [0, 5, 10, 15], [1, 6, 11, 12], [2, 7, 8, 13], [3, 4, 9, 14]]

theorem turns_laid {W : World} {laid : List (String × DataW Unit)} (h : laidMet Tryz.prog laid W) (hm : ("keyhole/stream.turns", Rows.laid_keyhole_stream_turns) ∈ laid) : Turns W := by
  obtain ⟨ps, hv, _⟩ := h
  obtain ⟨g', t', cs, fuel, p, hg', ht', hvar, hd⟩ := laid_at hv hm
  have hg : Tryz.prog.globalNamed "keyhole/stream.turns" = some 0 := by kernel_rfl
  have hty : (Tryz.prog.globals[0]?).map (·.type) = some 161 := by kernel_rfl
  obtain rfl := Option.some.inj (hg.symm.trans hg')
  obtain rfl := Option.some.inj (hty.symm.trans ht')
  have e := cells_of_tab2 (zss := turnsZ) Tryz.underlying161 Tryz.underlying160 Tryz.underlying3 (by kernel_rfl) (by kernel_rfl) (by kernel_rfl) hd
  intro j v hv
  have hc := World.var?_cell hg hvar j
  rw [Nat.zero_add, hc, ← Array.getElem?_toList, e]
  exact hv
theorem rounds_laid {W : World} {laid : List (String × DataW Unit)} (h : laidMet Tryz.prog laid W) (hm : ("keyhole/digest.rounds", Rows.laid_keyhole_digest_rounds) ∈ laid) : Rounds W := by
  obtain ⟨ps, hv, _⟩ := h
  obtain ⟨g', t', cs, fuel, p, hg', ht', hvar, hd⟩ := laid_at hv hm
  have hg : Tryz.prog.globalNamed "keyhole/digest.rounds" = some 1 := by kernel_rfl
  have hty : (Tryz.prog.globals[1]?).map (·.type) = some 182 := by kernel_rfl
  obtain rfl := Option.some.inj (hg.symm.trans hg')
  obtain rfl := Option.some.inj (hty.symm.trans ht')
  have e := Lib.cells_of_tab (zs := roundsT) Tryz.underlying182 Tryz.underlying3 (by kernel_rfl) (by kernel_rfl) hd
  intro j v hv
  have hc := World.var?_cell hg hvar j
  rw [Nat.zero_add, hc, ← Array.getElem?_toList, e]
  exact hv
end Go.Proofs.YtieekajjoikepaaGreatDoor
