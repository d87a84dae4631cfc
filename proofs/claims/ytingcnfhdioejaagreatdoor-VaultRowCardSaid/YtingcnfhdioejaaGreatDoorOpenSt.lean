/-
  An argument that is a row of steps (four fields each, the last one a slice of numbers), opened.
-/
import Derived.Test.YtingcnfhdioejaaGreatDoorRw
import Derived.Test.YtingcnfhdioejaaGreatDoorOpenPl
namespace Go.Proofs.YtingcnfhdioejaaGreatDoor
open Go.RowKit Go.ChangeShapes Go.WideShapes Go.Deep
set_option linter.unusedVariables false
set_option maxRecDepth 100000

theorem swf_le {n : Int} (h : (Lit.int .i64 n).wf = true) : n ≤ 9223372036854775807 := by
  have e : IntKind.i64.min = -9223372036854775808 := rfl
  have e2 : IntKind.i64.max = 9223372036854775807 := rfl
  simp [Lit.wf, e, e2] at h
  omega
theorem open_ints2 {H : Type} {enc : TypeId × Value → H} {W : World} {base : Nat} {spare : Nat → Bool} {held : Bool} {fuel : Nat} {v : Value} {y : DataW H × List MemPlace} (hf : DataW.trod enc Tryz.prog W base spare held fuel 42 [v] = some y) :
    ∃ a len cap, v = .slice a len cap ∧ ∃ zs : List Int, len = zs.length ∧ zs.length ≤ maxLen ∧ Rd W a (ints zs) ∧ ∀ n ∈ zs, n ≤ 9223372036854775807 := by
  rcases open_ints Tryz.underlying42 Tryz.underlying3 (by kernel_rfl) hf with ⟨hcs, _⟩ | ⟨x, l, c, zs, hcs, _, hl, hm, hz, _, hcell, hwz⟩
  · obtain rfl : v = .slice none 0 0 := by simpa using hcs
    exact ⟨none, 0, 0, rfl, [], rfl, Nat.zero_le _, Rd.nil _ _, by simp⟩
  · obtain rfl : v = .slice (some x) l c := by simpa using hcs
    have hlz : l ≤ zs.length := by rw [hz]; split <;> omega
    exact ⟨some x, l, c, rfl, zs.take l, by simp; omega, by simp; omega, rd_of_cells hcell l, fun n hn => swf_le (hwz n (List.mem_of_mem_take hn))⟩
theorem rd_of_steps {w : World} {x : Addr} (V : Nat → StepM) (l : Nat) (h : ∀ i, i < l → w.cell? (x.add (i * 4 + 0)) = some (.int .i64 (V i).i) ∧ w.cell? (x.add (i * 4 + 1)) = some (.string (V i).s) ∧ w.cell? (x.add (i * 4 + 2)) = some (.int .i64 (V i).d) ∧ w.cell? (x.add (i * 4 + 3)) = some (.slice (V i).F (V i).nf (V i).cf)) : Rd w (some x) (stepsV ((List.range l).map V)) := by
  intro q u hu
  have hq : q < l * 4 := by
    have := (List.getElem?_eq_some_iff.1 hu).1
    rw [stepsV_len] at this
    simpa using this
  have hs : x.spot = none := by
    have h0 := (h 0 (by omega)).1
    unfold World.cell? at h0
    obtain ⟨b, o, sp⟩ := x
    cases sp with
    | none => rfl
    | some v => simp only [Addr.add] at h0; split at h0 <;> simp at h0
  refine ⟨x.block, x.off, by rw [← hs], ?_⟩
  have hi : q / 4 < l := by omega
  obtain ⟨c0, c1, c2, c3⟩ := h (q / 4) hi
  have hg := stepsV_get ((List.range l).map V) (q / 4) (q % 4) (V (q / 4)) (by simp [hi]) (by omega)
  rw [show q / 4 * 4 + q % 4 = q by omega, hu] at hg
  rw [add_none hs] at c0 c1 c2 c3
  have hm : q % 4 = 0 ∨ q % 4 = 1 ∨ q % 4 = 2 ∨ q % 4 = 3 := by omega
  rcases hm with hm | hm | hm | hm
  · rw [hm] at hg
    rw [show q / 4 * 4 + 0 = q by omega] at c0
    simp only [stepV, List.getElem?_cons_zero, Option.some.injEq] at hg
    rw [hg]; exact c0
  · rw [hm] at hg
    rw [show q / 4 * 4 + 1 = q by omega] at c1
    simp only [stepV, List.getElem?_cons_zero, List.getElem?_cons_succ, Option.some.injEq] at hg
    rw [hg]; exact c1
  · rw [hm] at hg
    rw [show q / 4 * 4 + 2 = q by omega] at c2
    simp only [stepV, List.getElem?_cons_zero, List.getElem?_cons_succ, Option.some.injEq] at hg
    rw [hg]; exact c2
  · rw [hm] at hg
    rw [show q / 4 * 4 + 3 = q by omega] at c3
    simp only [stepV, List.getElem?_cons_zero, List.getElem?_cons_succ, Option.some.injEq] at hg
    rw [hg]; exact c3
theorem open_steps {H : Type} {enc : TypeId × Value → H} {W : World} {base : Nat} {spare : Nat → Bool} {held : Bool} {a : Option Addr} {len cap : Nat} {d : DataW H} {p : List MemPlace} (h : DataW.Trod enc Tryz.prog W base spare held 46 (.slice a len cap) d p) :
    ∃ zs : List StepM, len = zs.length ∧ zs.length ≤ maxLen ∧ Rd W a (stepsV zs) ∧ ∀ o ∈ zs, StepOK W o := by
  obtain ⟨fuel, hf⟩ := h
  rcases open_slice_fields Tryz.underlying46 Tryz.underlying48 (by kernel_rfl) (by kernel_rfl) hf with ⟨hcs, _⟩ | ⟨x, l, c, m, D, Pl, hcs, _, hl, hm, hmm, _, hi⟩
  · simp [Value.cells] at hcs
    obtain ⟨rfl, rfl, rfl⟩ := hcs
    exact ⟨[], rfl, Nat.zero_le _, Rd.nil _ _, by simp⟩
  · simp [Value.cells] at hcs
    obtain ⟨rfl, rfl, rfl⟩ := hcs
    have hml : len ≤ m := by rw [hmm]; split <;> omega
    have key : ∀ i, ∃ o : StepM, i < len → (W.cell? (x.add (i * 4 + 0)) = some (.int .i64 o.i) ∧ W.cell? (x.add (i * 4 + 1)) = some (.string o.s) ∧ W.cell? (x.add (i * 4 + 2)) = some (.int .i64 o.d) ∧ W.cell? (x.add (i * 4 + 3)) = some (.slice o.F o.nf o.cf)) ∧ StepOK W o := fun i => by
      by_cases hil : i < len
      · obtain ⟨ys, n, _, _, _, hfl⟩ := hi i (by omega)
        obtain ⟨v0, y0, c0, _, t0⟩ := hfl 0 _ rfl
        obtain ⟨v1, y1, c1, _, t1⟩ := hfl 1 _ rfl
        obtain ⟨v2, y2, c2, _, t2⟩ := hfl 2 _ rfl
        obtain ⟨v3, y3, c3, _, t3⟩ := hfl 3 _ rfl
        obtain ⟨x0, hx0, _, _⟩ := DataW.trod_int Tryz.underlying3 t0
        obtain ⟨x1, hx1, _, hz1⟩ := DataW.trod_string Tryz.underlying9 t1
        obtain ⟨x2, hx2, _, _⟩ := DataW.trod_int Tryz.underlying3 t2
        obtain rfl : v0 = .int .i64 x0 := by simpa using hx0
        obtain rfl : v1 = .string x1 := by simpa using hx1
        obtain rfl : v2 = .int .i64 x2 := by simpa using hx2
        obtain ⟨F, nf, cf, rfl, fs, f1, f2, f3, f4⟩ := open_ints2 t3
        exact ⟨⟨x0, x1, x2, F, nf, cf, fs⟩, fun _ => ⟨⟨c0, c1, c2, c3⟩, hz1, f3, f1, by show nf ≤ maxLen; omega, f4⟩⟩
      · exact ⟨⟨0, ⟨#[]⟩, 0, none, 0, 0, []⟩, fun h => absurd h hil⟩
    refine ⟨(List.range len).map fun i => Classical.choose (key i), by simp, by simp; omega, rd_of_steps _ len (fun i hil => (Classical.choose_spec (key i) hil).1), fun o ho => ?_⟩
    obtain ⟨i, hir, rfl⟩ := List.mem_map.1 ho
    exact (Classical.choose_spec (key i) (List.mem_range.1 hir)).2
end Go.Proofs.YtingcnfhdioejaaGreatDoor
