/-
  An argument that is a row of writes (three fields each), opened. (open_slice_fields: the kit's plain theorem for slices of structs, as its page on structs gives it to be copied.)
-/
import Derived.Test.YtkldllnlakaehaaGreatDoorVwW
import Derived.Deep.Slices
import Derived.Deep.Fields
import Derived.ChangeSame
import Derived.SliceStrings
import Derived.Lib.SmallJoins
import Derived.WalkKit
import Derived.ProofKit
namespace Go.Proofs.YtkldllnlakaehaaGreatDoor
open Go.RowKit Go.ChangeShapes Go.WideShapes Go.Deep
set_option linter.unusedVariables false
set_option maxRecDepth 100000

section
variable {H : Type} {enc : TypeId × Value → H} {P : Program} {w : World} {base : Nat} {spare : Nat → Bool} {held : Bool}
theorem open_slice_fields {t e : TypeId} {fs : Array Field} {fuel : Nat} {cs : List Value} {x : DataW H × List MemPlace} (ht : P.underlying t = some (.slice e)) (he : P.underlying e = some (.struct fs))
    (hone : oneCellFields P fs = true) (hC : P.cellsOf e = fs.size) (h : DataW.trod enc P w base spare held fuel t cs = some x) :
    (cs = [.slice none 0 0] ∧ x = (.nil, [])) ∨
    ∃ (a : Addr) (len cap m : Nat) (D : Nat → DataW H) (Pl : Nat → List MemPlace), cs = [.slice (some a) len cap] ∧ base ≤ a.block ∧ len ≤ cap ∧ cap ≤ maxLen ∧ m = (if spare a.block then cap else len) ∧
      x = (.slice ((List.range len).map D) ((List.range (m - len)).map fun j => D (len + j)), MemPlace.row a (m * fs.size) ++ (List.range m).flatMap Pl) ∧
      ∀ i, i < m → ∃ (ys : List (DataW H × List MemPlace)) (n : Nat), D i = .agg (ys.map (·.1)) ∧ Pl i = ys.flatMap (·.2) ∧ ys.length = fs.size ∧
        ∀ (j : Nat) (f : Field), fs[j]? = some f → ∃ (v : Value) (y : DataW H × List MemPlace), w.cell? (a.add (i * fs.size + j)) = some v ∧ ys[j]? = some y ∧ DataW.trod enc P w base spare held n f.type [v] = some y := by
  rcases open_slice ht h with h0 | ⟨a, len, cap, m, n, D, Pl, hcs, hb, hl, hm, hmm, hx, hi⟩
  · exact .inl h0
  · refine .inr ⟨a, len, cap, m, D, Pl, hcs, hb, hl, hm, hmm, by rw [hC] at hx; exact hx, fun i him => ?_⟩
    obtain ⟨cs', hc, ht'⟩ := hi i him
    rw [hC] at hc
    obtain ⟨ys, n', hn', hy, hlen, hyl, hf⟩ := DataW.trod_struct he ht'
    obtain ⟨_, hcl, hat⟩ := World.cells?_some hc
    simp only [Prod.mk.injEq] at hy
    refine ⟨ys, n', hy.1, hy.2, hyl, fun j f hj => ?_⟩
    obtain ⟨ho, hk⟩ := hone_of hone j f hj
    have hjl : j < fs.size := (Array.getElem?_eq_some_iff.1 hj).1
    have hcell := hat j hjl
    have hv : cs'[j]? = some (cs'[j]'(by omega)) := List.getElem?_eq_getElem (by omega)
    have h1 := hf j f hj
    rw [ho, hk] at h1
    have hone' : (cs'.drop j).take 1 = [cs'[j]'(by omega)] := by
      rw [List.drop_eq_getElem_cons (by omega)]
      rfl
    rw [hone'] at h1
    have hys : ys[j]? = some (ys[j]'(by omega)) := List.getElem?_eq_getElem (by omega)
    refine ⟨_, _, ?_, hys, h1.trans hys⟩
    rw [← Go.Deep.add_add, hcell, hv]
end

theorem add_none {x : Addr} (h : x.spot = none) (k : Nat) : x.add k = ⟨x.block, x.off + k, none⟩ := by
  unfold Addr.add
  split
  · rename_i h0; subst h0; obtain ⟨b, o, sp⟩ := x; simp_all
  · obtain ⟨b, o, sp⟩ := x; simp_all
theorem rd_of_wrs3 {w : World} {x : Addr} (V : Nat → Wri3) (l : Nat) (h : ∀ i, i < l → w.cell? (x.add (i * 3 + 0)) = some (.int .i64 (V i).i) ∧ w.cell? (x.add (i * 3 + 1)) = some (.string (V i).a) ∧ w.cell? (x.add (i * 3 + 2)) = some (.string (V i).b)) : Rd w (some x) (wrs3V ((List.range l).map V)) := by
  intro q u hu
  have hq : q < l * 3 := by
    have := (List.getElem?_eq_some_iff.1 hu).1
    rw [wrs3V_len] at this
    simpa using this
  have hs : x.spot = none := by
    have h0 := (h 0 (by omega)).1
    unfold World.cell? at h0
    obtain ⟨b, o, sp⟩ := x
    cases sp with
    | none => rfl
    | some v => simp only [Addr.add] at h0; split at h0 <;> simp at h0
  refine ⟨x.block, x.off, by rw [← hs], ?_⟩
  have hi : q / 3 < l := by omega
  obtain ⟨c0, c1, c2⟩ := h (q / 3) hi
  have hg := wrs3V_get ((List.range l).map V) (q / 3) (q % 3) (V (q / 3)) (by simp [hi]) (by omega)
  rw [show q / 3 * 3 + q % 3 = q by omega, hu] at hg
  rw [add_none hs] at c0 c1 c2
  have hm : q % 3 = 0 ∨ q % 3 = 1 ∨ q % 3 = 2 := by omega
  rcases hm with hm | hm | hm
  · rw [hm] at hg
    rw [show q / 3 * 3 + 0 = q by omega] at c0
    simp only [wr3V, List.getElem?_cons_zero, Option.some.injEq] at hg
    rw [hg]; exact c0
  · rw [hm] at hg
    rw [show q / 3 * 3 + 1 = q by omega] at c1
    simp only [wr3V, List.getElem?_cons_zero, List.getElem?_cons_succ, Option.some.injEq] at hg
    rw [hg]; exact c1
  · rw [hm] at hg
    rw [show q / 3 * 3 + 2 = q by omega] at c2
    simp only [wr3V, List.getElem?_cons_zero, List.getElem?_cons_succ, Option.some.injEq] at hg
    rw [hg]; exact c2
theorem open_wri3 {H : Type} {enc : TypeId × Value → H} {W : World} {base : Nat} {spare : Nat → Bool} {held : Bool} {a : Option Addr} {len cap : Nat} {d : DataW H} {p : List MemPlace} (h : DataW.Trod enc Tryz.prog W base spare held 22 (.slice a len cap) d p) :
    ∃ zs : List Wri3, len = zs.length ∧ zs.length ≤ maxLen ∧ Rd W a (wrs3V zs) ∧ ∀ o ∈ zs, o.a.size ≤ maxLen ∧ o.b.size ≤ maxLen := by
  obtain ⟨fuel, hf⟩ := h
  rcases open_slice_fields Tryz.underlying22 Tryz.underlying30 (by kernel_rfl) (by kernel_rfl) hf with ⟨hcs, _⟩ | ⟨x, l, c, m, D, Pl, hcs, _, hl, hm, hmm, _, hi⟩
  · simp [Value.cells] at hcs
    obtain ⟨rfl, rfl, rfl⟩ := hcs
    exact ⟨[], rfl, Nat.zero_le _, Rd.nil _ _, by simp⟩
  · simp [Value.cells] at hcs
    obtain ⟨rfl, rfl, rfl⟩ := hcs
    have hml : len ≤ m := by rw [hmm]; split <;> omega
    have key : ∀ i, ∃ o : Wri3, i < len → (W.cell? (x.add (i * 3 + 0)) = some (.int .i64 o.i) ∧ W.cell? (x.add (i * 3 + 1)) = some (.string o.a) ∧ W.cell? (x.add (i * 3 + 2)) = some (.string o.b)) ∧ o.a.size ≤ maxLen ∧ o.b.size ≤ maxLen := fun i => by
      by_cases hil : i < len
      · obtain ⟨ys, n, _, _, _, hfl⟩ := hi i (by omega)
        obtain ⟨v0, y0, c0, _, t0⟩ := hfl 0 _ rfl
        obtain ⟨v1, y1, c1, _, t1⟩ := hfl 1 _ rfl
        obtain ⟨v2, y2, c2, _, t2⟩ := hfl 2 _ rfl
        obtain ⟨x0, hx0, _, _⟩ := DataW.trod_int Tryz.underlying3 t0
        obtain ⟨x1, hx1, _, hz1⟩ := DataW.trod_string Tryz.underlying9 t1
        obtain ⟨x2, hx2, _, hz2⟩ := DataW.trod_string Tryz.underlying9 t2
        obtain rfl : v0 = .int .i64 x0 := by simpa using hx0
        obtain rfl : v1 = .string x1 := by simpa using hx1
        obtain rfl : v2 = .string x2 := by simpa using hx2
        exact ⟨⟨x0, x1, x2⟩, fun _ => ⟨⟨c0, c1, c2⟩, hz1, hz2⟩⟩
      · exact ⟨⟨0, ⟨#[]⟩, ⟨#[]⟩⟩, fun h => absurd h hil⟩
    refine ⟨(List.range len).map fun i => Classical.choose (key i), by simp, by simp; omega, rd_of_wrs3 _ len (fun i hil => (Classical.choose_spec (key i) hil).1), fun o ho => ?_⟩
    obtain ⟨i, hir, rfl⟩ := List.mem_map.1 ho
    exact (Classical.choose_spec (key i) (List.mem_range.1 hir)).2
end Go.Proofs.YtkldllnlakaehaaGreatDoor
