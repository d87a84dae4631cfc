/-
  An argument that is a disk (two slices; the second one's elements have two fields each), opened. (open_slice_fields: the kit's plain theorem for slices of structs, as its page on structs gives it to be copied.)
-/
import Derived.Test.YtieekajjoikepaaGreatDoorOpenVol
import Derived.Test.YtieekajjoikepaaGreatDoorPv
import Derived.Deep.Slices
import Derived.Deep.Fields
import Derived.ChangeSame
import Derived.SliceStrings
import Derived.Lib.SmallJoins
import Derived.WalkKit
import Derived.ProofKit
namespace Go.Proofs.YtieekajjoikepaaGreatDoor
open Go.RowKit Go.ChangeShapes Go.WideShapes Go.Deep
set_option linter.unusedVariables false
set_option maxRecDepth 100000

section
variable {H : Type} {enc : TypeId × Value → H} {P : Program} {w : World} {base : Nat} {spare : Nat → Bool} {held : Bool}
theorem open_slice_fields {t e : TypeId} {fs : Array Field} {fuel : Nat} {cs : List Value} {x : DataW H × List MemPlace} (ht : P.underlying t = some (.slice e)) (he : P.underlying e = some (.struct fs))
    (hone : oneCellFields P fs = true) (hC : P.cellsOf e = fs.size) (h : DataW.trod enc P w base spare held fuel t cs = some x) :
    (cs = [.slice none 0 0] ∧ x = (.nil, [])) ∨
    ∃ (a : Addr) (len cap m : Nat) (D : Nat → DataW H) (Pl : Nat → List MemPlace), cs = [.slice (some a) len cap] ∧ base ≤ a.block ∧ len ≤ cap ∧ cap ≤ maxLen ∧ m = (if spare a.block then cap else len) ∧
      x = (.slice ((List.range len).map D) ((List.range (m - len)).map fun j => D (len + j)), MemPlace.row a (m * fs.size) ++ (List.range m).flatMap Pl) ∧
      ∀ i, i < m → ∃ (ys : List (DataW H × List MemPlace)) (n : Nat), D i = .agg (ys.map (·.1)) ∧ Pl i = ys.flatMap (·.2) ∧ ys.length = fs.size ∧
        ∀ (j : Nat) (f : Field), fs[j]? = some f → ∃ (v : Value) (y : DataW H × List MemPlace), w.cell? (a.add (i * fs.size + j)) = some v ∧ ys[j]? = some y ∧ DataW.trod enc P w base spare held n f.type [v] = some y := by
  rcases open_slice ht h with h0 | ⟨a, len, cap, m, n, D, Pl, hcs, hb, hl, hm, hmm, hx, hi⟩
  · exact .inl h0
  · refine .inr ⟨a, len, cap, m, D, Pl, hcs, hb, hl, hm, hmm, by rw [hC] at hx; exact hx, fun i him => ?_⟩
    obtain ⟨cs', hc, ht'⟩ := hi i him
    rw [hC] at hc
    obtain ⟨ys, n', hn', hy, hlen, hyl, hf⟩ := DataW.trod_struct he ht'
    obtain ⟨_, hcl, hat⟩ := World.cells?_some hc
    simp only [Prod.mk.injEq] at hy
    refine ⟨ys, n', hy.1, hy.2, hyl, fun j f hj => ?_⟩
    obtain ⟨ho, hk⟩ := hone_of hone j f hj
    have hjl : j < fs.size := (Array.getElem?_eq_some_iff.1 hj).1
    have hcell := hat j hjl
    have hv : cs'[j]? = some (cs'[j]'(by omega)) := List.getElem?_eq_getElem (by omega)
    have h1 := hf j f hj
    rw [ho, hk] at h1
    have hone' : (cs'.drop j).take 1 = [cs'[j]'(by omega)] := by
      rw [List.drop_eq_getElem_cons (by omega)]
      rfl
    rw [hone'] at h1
    have hys : ys[j]? = some (ys[j]'(by omega)) := List.getElem?_eq_getElem (by omega)
    refine ⟨_, _, ?_, hys, h1.trans hys⟩
    rw [← Go.Deep.add_add, hcell, hv]
end

theorem add_none {x : Addr} (h : x.spot = none) (k : Nat) : x.add k = ⟨x.block, x.off + k, none⟩ := by
  unfold Addr.add
  split
  · rename_i h0; subst h0; obtain ⟨b, o, sp⟩ := x; simp_all
  · obtain ⟨b, o, sp⟩ := x; simp_all
theorem rd_of_puts {w : World} {x : Addr} (V : Nat → PutP) (l : Nat) (h : ∀ i, i < l → w.cell? (x.add (i * 2 + 0)) = some (.int .i64 (V i).1) ∧ w.cell? (x.add (i * 2 + 1)) = some (.string (V i).2)) : Rd w (some x) (putsV ((List.range l).map V)) := by
  intro q u hu
  have hq : q < l * 2 := by
    have := (List.getElem?_eq_some_iff.1 hu).1
    rw [putsV_len] at this
    simpa using this
  have hs : x.spot = none := by
    have h0 := (h 0 (by omega)).1
    unfold World.cell? at h0
    obtain ⟨b, o, sp⟩ := x
    cases sp with
    | none => rfl
    | some v => simp only [Addr.add] at h0; split at h0 <;> simp at h0
  refine ⟨x.block, x.off, by rw [← hs], ?_⟩
  have hi : q / 2 < l := by omega
  obtain ⟨c0, c1⟩ := h (q / 2) hi
  obtain ⟨g0, g1⟩ := putsV_at ((List.range l).map V) (q / 2) (V (q / 2)) (by simp [hi])
  rw [add_none hs] at c0 c1
  have hm : q % 2 = 0 ∨ q % 2 = 1 := by omega
  rcases hm with hm | hm
  · rw [show q / 2 * 2 + 0 = q by omega] at c0
    rw [show q / 2 * 2 = q by omega, hu] at g0
    rw [Option.some.injEq] at g0
    rw [g0]; exact c0
  · rw [show q / 2 * 2 + 1 = q by omega] at c1
    rw [show q / 2 * 2 + 1 = q by omega, hu] at g1
    rw [Option.some.injEq] at g1
    rw [g1]; exact c1
theorem open_puts {H : Type} {enc : TypeId × Value → H} {W : World} {base : Nat} {spare : Nat → Bool} {held : Bool} {a : Option Addr} {len cap : Nat} {d : DataW H} {p : List MemPlace} (h : DataW.Trod enc Tryz.prog W base spare held 23 (.slice a len cap) d p) :
    ∃ zs : List PutP, len = zs.length ∧ zs.length ≤ maxLen ∧ Rd W a (putsV zs) ∧ ∀ o ∈ zs, o.2.size ≤ maxLen := by
  obtain ⟨fuel, hf⟩ := h
  rcases open_slice_fields Tryz.underlying23 Tryz.underlying65 (by kernel_rfl) (by kernel_rfl) hf with ⟨hcs, _⟩ | ⟨x, l, c, m, D, Pl, hcs, _, hl, hm, hmm, _, hi⟩
  · simp [Value.cells] at hcs
    obtain ⟨rfl, rfl, rfl⟩ := hcs
    exact ⟨[], rfl, Nat.zero_le _, Rd.nil _ _, by simp⟩
  · simp [Value.cells] at hcs
    obtain ⟨rfl, rfl, rfl⟩ := hcs
    have hml : len ≤ m := by rw [hmm]; split <;> omega
    have key : ∀ i, ∃ o : PutP, i < len → (W.cell? (x.add (i * 2 + 0)) = some (.int .i64 o.1) ∧ W.cell? (x.add (i * 2 + 1)) = some (.string o.2)) ∧ o.2.size ≤ maxLen := fun i => by
      by_cases hil : i < len
      · obtain ⟨ys, n, _, _, _, hfl⟩ := hi i (by omega)
        obtain ⟨v0, y0, c0, _, t0⟩ := hfl 0 _ rfl
        obtain ⟨v1, y1, c1, _, t1⟩ := hfl 1 _ rfl
        obtain ⟨x0, hx0, _, _⟩ := DataW.trod_int Tryz.underlying3 t0
        obtain ⟨x1, hx1, _, hz⟩ := DataW.trod_string Tryz.underlying9 t1
        obtain rfl : v0 = .int .i64 x0 := by simpa using hx0
        obtain rfl : v1 = .string x1 := by simpa using hx1
        exact ⟨⟨x0, x1⟩, fun _ => ⟨⟨c0, c1⟩, hz⟩⟩
      · exact ⟨⟨0, ⟨#[]⟩⟩, fun h => absurd h hil⟩
    refine ⟨(List.range len).map fun i => Classical.choose (key i), by simp, by simp; omega, rd_of_puts _ len (fun i hil => (Classical.choose_spec (key i) hil).1), fun o ho => ?_⟩
    obtain ⟨i, hir, rfl⟩ := List.mem_map.1 ho
    exact (Classical.choose_spec (key i) (List.mem_range.1 hir)).2
theorem open_plat_cap {H : Type} {enc : TypeId × Value → H} {W : World} {base b0 : Nat} {spare : Nat → Bool} {held : Bool} {r : Reach} {v : Value} {d : DataW H} {p : List MemPlace} (hv : Value.okWide Tryz.prog W r b0 25 v) (h : DataW.Trod enc Tryz.prog W base spare held 25 v d p) :
    ∃ P : Plat, (∃ A n c B m d, v = .agg #[.slice A n c, .slice B m d] ∧ n ≤ c ∧ c ≤ maxLen ∧ PB W A n B m P) ∧ P.ss.length ≤ maxLen ∧ P.cs.length ≤ maxLen ∧ (∀ s ∈ P.ss, s.size ≤ maxLen) ∧ ∀ c ∈ P.cs, c.2.size ≤ maxLen := by
  obtain ⟨v0, v1, y0, y1, n, rfl, -, -, t0, t1⟩ := Joins.open_agg2 Tryz.underlying25 (by kernel_rfl) (by kernel_rfl) hv h
  have s0 : ∃ a l c, v0 = .slice a l c ∧ l ≤ c ∧ c ≤ maxLen := by
    rcases Go.Deep.open_slice Tryz.underlying22 t0 with ⟨hcs, _⟩ | ⟨x, l, c, _, _, _, _, hcs, _, hlc, hcm, _⟩
    · exact ⟨none, 0, 0, by simpa using hcs, Nat.le_refl _, Nat.zero_le _⟩
    · exact ⟨some x, l, c, by simpa using hcs, hlc, hcm⟩
  have s1 : ∃ a l c, v1 = .slice a l c := by
    rcases Go.Deep.open_slice Tryz.underlying23 t1 with ⟨hcs, _⟩ | ⟨x, l, c, _, _, _, _, hcs, _⟩
    · exact ⟨none, 0, 0, by simpa using hcs⟩
    · exact ⟨some x, l, c, by simpa using hcs⟩
  obtain ⟨A, l1, c1, rfl, hlc, hcm⟩ := s0
  obtain ⟨B, l2, c2, rfl⟩ := s1
  obtain ⟨zs, e1, e2, e3, e4⟩ := open_texts2 t0
  obtain ⟨xs, f1, f2, f3, f4⟩ := open_puts ⟨_, t1⟩
  exact ⟨⟨zs, xs⟩, ⟨A, l1, c1, B, l2, c2, rfl, hlc, hcm, ⟨e1, f1, e3, f3, trivial, trivial⟩⟩, e2, f2, e4, f4⟩
theorem open_plat {H : Type} {enc : TypeId × Value → H} {W : World} {base b0 : Nat} {spare : Nat → Bool} {held : Bool} {r : Reach} {v : Value} {d : DataW H} {p : List MemPlace} (hv : Value.okWide Tryz.prog W r b0 25 v) (h : DataW.Trod enc Tryz.prog W base spare held 25 v d p) :
    ∃ P : Plat, PlV W v P ∧ P.ss.length ≤ maxLen ∧ P.cs.length ≤ maxLen ∧ (∀ s ∈ P.ss, s.size ≤ maxLen) ∧ ∀ c ∈ P.cs, c.2.size ≤ maxLen := by
  obtain ⟨v0, v1, y0, y1, n, rfl, -, -, t0, t1⟩ := Joins.open_agg2 Tryz.underlying25 (by kernel_rfl) (by kernel_rfl) hv h
  have s0 : ∃ a l c, v0 = .slice a l c := by
    rcases Go.Deep.open_slice Tryz.underlying22 t0 with ⟨hcs, _⟩ | ⟨x, l, c, _, _, _, _, hcs, _⟩
    · exact ⟨none, 0, 0, by simpa using hcs⟩
    · exact ⟨some x, l, c, by simpa using hcs⟩
  have s1 : ∃ a l c, v1 = .slice a l c := by
    rcases Go.Deep.open_slice Tryz.underlying23 t1 with ⟨hcs, _⟩ | ⟨x, l, c, _, _, _, _, hcs, _⟩
    · exact ⟨none, 0, 0, by simpa using hcs⟩
    · exact ⟨some x, l, c, by simpa using hcs⟩
  obtain ⟨A, l1, c1, rfl⟩ := s0
  obtain ⟨B, l2, c2, rfl⟩ := s1
  obtain ⟨zs, e1, e2, e3, e4⟩ := open_texts2 t0
  obtain ⟨xs, f1, f2, f3, f4⟩ := open_puts ⟨_, t1⟩
  exact ⟨⟨zs, xs⟩, ⟨A, l1, c1, B, l2, c2, rfl, ⟨e1, f1, e3, f3, trivial, trivial⟩⟩, e2, f2, e4, f4⟩
end Go.Proofs.YtieekajjoikepaaGreatDoor
