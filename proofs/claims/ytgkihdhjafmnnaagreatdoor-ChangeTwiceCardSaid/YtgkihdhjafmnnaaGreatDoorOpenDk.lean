/-
  Arguments that are rows of disks, and rows of rows of numbers, opened.
-/
import Derived.Test.YtgkihdhjafmnnaaGreatDoorDk
import Derived.Deep.Slices
import Derived.Deep.Fields
import Derived.ChangeSame
import Derived.SliceStrings
import Derived.Lib.SmallJoins
import Derived.WalkKit
import Derived.ProofKit
namespace Go.Proofs.YtgkihdhjafmnnaaGreatDoor
open Go.RowKit Go.ChangeShapes Go.WideShapes Go.Deep
set_option linter.unusedVariables false
set_option maxRecDepth 100000

section
variable {H : Type} {enc : TypeId × Value → H} {P : Program} {w : World} {base : Nat} {spare : Nat → Bool} {held : Bool}
theorem open_slice_fields {t e : TypeId} {fs : Array Field} {fuel : Nat} {cs : List Value} {x : DataW H × List MemPlace} (ht : P.underlying t = some (.slice e)) (he : P.underlying e = some (.struct fs))
    (hone : oneCellFields P fs = true) (hC : P.cellsOf e = fs.size) (h : DataW.trod enc P w base spare held fuel t cs = some x) :
    (cs = [.slice none 0 0] ∧ x = (.nil, [])) ∨
    ∃ (a : Addr) (len cap m : Nat) (D : Nat → DataW H) (Pl : Nat → List MemPlace), cs = [.slice (some a) len cap] ∧ base ≤ a.block ∧ len ≤ cap ∧ cap ≤ maxLen ∧ m = (if spare a.block then cap else len) ∧
      x = (.slice ((List.range len).map D) ((List.range (m - len)).map fun j => D (len + j)), MemPlace.row a (m * fs.size) ++ (List.range m).flatMap Pl) ∧
      ∀ i, i < m → ∃ (ys : List (DataW H × List MemPlace)) (n : Nat), D i = .agg (ys.map (·.1)) ∧ Pl i = ys.flatMap (·.2) ∧ ys.length = fs.size ∧
        ∀ (j : Nat) (f : Field), fs[j]? = some f → ∃ (v : Value) (y : DataW H × List MemPlace), w.cell? (a.add (i * fs.size + j)) = some v ∧ ys[j]? = some y ∧ DataW.trod enc P w base spare held n f.type [v] = some y := by
  rcases open_slice ht h with h0 | ⟨a, len, cap, m, n, D, Pl, hcs, hb, hl, hm, hmm, hx, hi⟩
  · exact .inl h0
  · refine .inr ⟨a, len, cap, m, D, Pl, hcs, hb, hl, hm, hmm, by rw [hC] at hx; exact hx, fun i him => ?_⟩
    obtain ⟨cs', hc, ht'⟩ := hi i him
    rw [hC] at hc
    obtain ⟨ys, n', hn', hy, hlen, hyl, hf⟩ := DataW.trod_struct he ht'
    obtain ⟨_, hcl, hat⟩ := World.cells?_some hc
    simp only [Prod.mk.injEq] at hy
    refine ⟨ys, n', hy.1, hy.2, hyl, fun j f hj => ?_⟩
    obtain ⟨ho, hk⟩ := hone_of hone j f hj
    have hjl : j < fs.size := (Array.getElem?_eq_some_iff.1 hj).1
    have hcell := hat j hjl
    have hv : cs'[j]? = some (cs'[j]'(by omega)) := List.getElem?_eq_getElem (by omega)
    have h1 := hf j f hj
    rw [ho, hk] at h1
    have hone' : (cs'.drop j).take 1 = [cs'[j]'(by omega)] := by
      rw [List.drop_eq_getElem_cons (by omega)]
      rfl
    rw [hone'] at h1
    have hys : ys[j]? = some (ys[j]'(by omega)) := List.getElem?_eq_getElem (by omega)
    refine ⟨_, _, ?_, hys, h1.trans hys⟩
    rw [← Go.Deep.add_add, hcell, hv]
end
theorem add_none {x : Addr} (h : x.spot = none) (k : Nat) : x.add k = ⟨x.block, x.off + k, none⟩ := by
  unfold Addr.add
  split
  · rename_i h0; subst h0; obtain ⟨b, o, sp⟩ := x; simp_all
  · obtain ⟨b, o, sp⟩ := x; simp_all
theorem spot_none {w : World} {x : Addr} {v : Value} (h : w.cell? x = some v) : x.spot = none := by
  unfold World.cell? at h
  split at h
  · obtain ⟨b, o, sp⟩ := x
    cases sp with
    | none => rfl
    | some v => simp at h
  · cases h
theorem spot_add {w : World} {x : Addr} {v : Value} (h : w.cell? (x.add 0) = some v) : x.spot = none := by
  have h1 := spot_none h
  unfold Addr.add at h1
  exact h1
theorem rd_of_puts {w : World} {x : Addr} (V : Nat → PutP) (l : Nat) (h : ∀ i, i < l → w.cell? (x.add (i * 2 + 0)) = some (.int .i64 (V i).1) ∧ w.cell? (x.add (i * 2 + 1)) = some (.string (V i).2)) : Rd w (some x) (putsV ((List.range l).map V)) := by
  intro q u hu
  have hq : q < l * 2 := by
    have := (List.getElem?_eq_some_iff.1 hu).1
    rw [putsV_len] at this
    simpa using this
  have hs := spot_add (h 0 (by omega)).1
  refine ⟨x.block, x.off, by rw [← hs], ?_⟩
  have hi : q / 2 < l := by omega
  obtain ⟨c0, c1⟩ := h (q / 2) hi
  obtain ⟨g0, g1⟩ := putsV_at ((List.range l).map V) (q / 2) (V (q / 2)) (by simp [hi])
  rw [add_none hs] at c0 c1
  have hm : q % 2 = 0 ∨ q % 2 = 1 := by omega
  rcases hm with hm | hm
  · rw [show q / 2 * 2 + 0 = q by omega] at c0
    rw [show q / 2 * 2 = q by omega, hu] at g0
    rw [Option.some.injEq] at g0
    rw [g0]; exact c0
  · rw [show q / 2 * 2 + 1 = q by omega] at c1
    rw [show q / 2 * 2 + 1 = q by omega, hu] at g1
    rw [Option.some.injEq] at g1
    rw [g1]; exact c1
theorem rd_of_dks {w : World} {x : Addr} (V : Nat → Dk) (l : Nat) (h : ∀ i, i < l → w.cell? (x.add (i * 2 + 0)) = some (.slice (V i).A (V i).n (V i).c) ∧ w.cell? (x.add (i * 2 + 1)) = some (.slice (V i).B (V i).m (V i).d)) : Rd w (some x) (dksV ((List.range l).map V)) := by
  intro q u hu
  have hq : q < l * 2 := by
    have := (List.getElem?_eq_some_iff.1 hu).1
    rw [dksV_len] at this
    simpa using this
  have hs := spot_add (h 0 (by omega)).1
  refine ⟨x.block, x.off, by rw [← hs], ?_⟩
  have hi : q / 2 < l := by omega
  obtain ⟨c0, c1⟩ := h (q / 2) hi
  obtain ⟨g0, g1⟩ := dksV_at ((List.range l).map V) (q / 2) (V (q / 2)) (by simp [hi])
  rw [add_none hs] at c0 c1
  have hm : q % 2 = 0 ∨ q % 2 = 1 := by omega
  rcases hm with hm | hm
  · rw [show q / 2 * 2 + 0 = q by omega] at c0
    rw [show q / 2 * 2 = q by omega, hu] at g0
    rw [Option.some.injEq] at g0
    rw [g0]; exact c0
  · rw [show q / 2 * 2 + 1 = q by omega] at c1
    rw [show q / 2 * 2 + 1 = q by omega, hu] at g1
    rw [Option.some.injEq] at g1
    rw [g1]; exact c1
theorem open_texts3 {H : Type} {enc : TypeId × Value → H} {W : World} {base : Nat} {spare : Nat → Bool} {held : Bool} {fuel : Nat} {v : Value} {y : DataW H × List MemPlace} (hf : DataW.trod enc Tryz.prog W base spare held fuel 34 [v] = some y) :
    ∃ a len cap, v = .slice a len cap ∧ ∃ zs : List ByteArray, len = zs.length ∧ zs.length ≤ maxLen ∧ Rd W a (textsV zs) ∧ ∀ n ∈ zs, n.size ≤ maxLen := by
  rcases open_strings Tryz.underlying34 Tryz.underlying9 (by kernel_rfl) hf with ⟨hcs, _⟩ | ⟨x, l, c, zs, hcs, _, hl, hm, hz, _, hcell, hwz⟩
  · obtain rfl : v = .slice none 0 0 := by simpa using hcs
    exact ⟨none, 0, 0, rfl, [], rfl, Nat.zero_le _, Rd.nil _ _, by simp⟩
  · obtain rfl : v = .slice (some x) l c := by simpa using hcs
    have hlz : l ≤ zs.length := by rw [hz]; split <;> omega
    exact ⟨some x, l, c, rfl, zs.take l, by simp; omega, by simp; omega, rd_of_texts hcell l, fun n hn => hwz n (List.mem_of_mem_take hn)⟩
theorem open_puts3 {H : Type} {enc : TypeId × Value → H} {W : World} {base : Nat} {spare : Nat → Bool} {held : Bool} {fuel : Nat} {v : Value} {y : DataW H × List MemPlace} (hf : DataW.trod enc Tryz.prog W base spare held fuel 35 [v] = some y) :
    ∃ a len cap, v = .slice a len cap ∧ ∃ zs : List PutP, len = zs.length ∧ zs.length ≤ maxLen ∧ Rd W a (putsV zs) ∧ ∀ o ∈ zs, o.2.size ≤ maxLen := by
  rcases open_slice_fields Tryz.underlying35 Tryz.underlying100 (by kernel_rfl) (by kernel_rfl) hf with ⟨hcs, _⟩ | ⟨x, l, c, m, D, Pl, hcs, _, hl, hm, hmm, _, hi⟩
  · obtain rfl : v = .slice none 0 0 := by simpa using hcs
    exact ⟨none, 0, 0, rfl, [], rfl, Nat.zero_le _, Rd.nil _ _, by simp⟩
  · obtain rfl : v = .slice (some x) l c := by simpa using hcs
    have hml : l ≤ m := by rw [hmm]; split <;> omega
    have key : ∀ i, ∃ o : PutP, i < l → (W.cell? (x.add (i * 2 + 0)) = some (.int .i64 o.1) ∧ W.cell? (x.add (i * 2 + 1)) = some (.string o.2)) ∧ o.2.size ≤ maxLen := fun i => by
      by_cases hil : i < l
      · obtain ⟨ys, n, _, _, _, hfl⟩ := hi i (by omega)
        obtain ⟨v0, y0, c0, _, t0⟩ := hfl 0 _ rfl
        obtain ⟨v1, y1, c1, _, t1⟩ := hfl 1 _ rfl
        obtain ⟨x0, hx0, _, _⟩ := DataW.trod_int Tryz.underlying3 t0
        obtain ⟨x1, hx1, _, hz⟩ := DataW.trod_string Tryz.underlying9 t1
        obtain rfl : v0 = .int .i64 x0 := by simpa using hx0
        obtain rfl : v1 = .string x1 := by simpa using hx1
        exact ⟨⟨x0, x1⟩, fun _ => ⟨⟨c0, c1⟩, hz⟩⟩
      · exact ⟨⟨0, ⟨#[]⟩⟩, fun h => absurd h hil⟩
    refine ⟨some x, l, c, rfl, (List.range l).map fun i => Classical.choose (key i), by simp, by simp; omega, rd_of_puts _ l (fun i hil => (Classical.choose_spec (key i) hil).1), fun o ho => ?_⟩
    obtain ⟨i, hir, rfl⟩ := List.mem_map.1 ho
    exact (Classical.choose_spec (key i) (List.mem_range.1 hir)).2
theorem open_dks {H : Type} {enc : TypeId × Value → H} {W : World} {base : Nat} {spare : Nat → Bool} {held : Bool} {a : Option Addr} {len cap : Nat} {d : DataW H} {p : List MemPlace} (h : DataW.Trod enc Tryz.prog W base spare held 22 (.slice a len cap) d p) :
    ∃ zs : List Dk, len = zs.length ∧ zs.length ≤ maxLen ∧ RdD W a zs ∧ ∀ x ∈ zs, x.P.ss.length ≤ maxLen ∧ x.P.cs.length ≤ maxLen := by
  obtain ⟨fuel, hf⟩ := h
  rcases open_slice_fields Tryz.underlying22 Tryz.underlying37 (by kernel_rfl) (by kernel_rfl) hf with ⟨hcs, _⟩ | ⟨x, l, c, m, D, Pl, hcs, _, hl, hm, hmm, _, hi⟩
  · simp [Value.cells] at hcs
    obtain ⟨rfl, rfl, rfl⟩ := hcs
    exact ⟨[], rfl, Nat.zero_le _, RdD.nil _ _, by simp⟩
  · simp [Value.cells] at hcs
    obtain ⟨rfl, rfl, rfl⟩ := hcs
    have hml : len ≤ m := by rw [hmm]; split <;> omega
    have key : ∀ i, ∃ o : Dk, i < len → (W.cell? (x.add (i * 2 + 0)) = some (.slice o.A o.n o.c) ∧ W.cell? (x.add (i * 2 + 1)) = some (.slice o.B o.m o.d)) ∧ o.ok W ∧ o.P.ss.length ≤ maxLen ∧ o.P.cs.length ≤ maxLen := fun i => by
      by_cases hil : i < len
      · obtain ⟨ys, n, _, _, _, hfl⟩ := hi i (by omega)
        obtain ⟨v0, y0, c0, _, t0⟩ := hfl 0 _ rfl
        obtain ⟨v1, y1, c1, _, t1⟩ := hfl 1 _ rfl
        obtain ⟨A, n, c, rfl, ss, s1, s2, s3, _⟩ := open_texts3 t0
        obtain ⟨B, m, d, rfl, cs, p1, p2, p3, _⟩ := open_puts3 t1
        exact ⟨⟨A, n, c, B, m, d, ⟨ss, cs⟩⟩, fun _ => ⟨⟨c0, c1⟩, ⟨s1, p1, s3, p3, trivial, trivial⟩, s2, p2⟩⟩
      · exact ⟨⟨none, 0, 0, none, 0, 0, noPlat⟩, fun h => absurd h hil⟩
    refine ⟨(List.range len).map fun i => Classical.choose (key i), by simp, by simp; omega, ⟨rd_of_dks _ len (fun i hil => (Classical.choose_spec (key i) hil).1), fun o ho => ?_⟩, fun o ho => ?_⟩
    · obtain ⟨i, hir, rfl⟩ := List.mem_map.1 ho
      exact (Classical.choose_spec (key i) (List.mem_range.1 hir)).2.1
    · obtain ⟨i, hir, rfl⟩ := List.mem_map.1 ho
      exact (Classical.choose_spec (key i) (List.mem_range.1 hir)).2.2
/-- A row of numbers in a row of such. -/
structure FtM where
  F : Option Addr
  nf : Nat
  cf : Nat
  fs : List Int
def ftV (o : FtM) : Value := .slice o.F o.nf o.cf
structure FtM.ok (w : World) (o : FtM) : Prop where
  rd : Rd w o.F (ints o.fs)
  nf : o.nf = o.fs.length
  nm : o.nf ≤ maxLen
  fi : ∀ x ∈ o.fs, x ≤ 9223372036854775807
theorem FtM.ok.below {w w' : World} {o : FtM} (h : o.ok w) (hb : Below w.heap.size w w') : o.ok w' := ⟨h.rd.below hb, h.nf, h.nm, h.fi⟩
theorem fwf_le {n : Int} (h : (Lit.int .i64 n).wf = true) : n ≤ 9223372036854775807 := by
  have e : IntKind.i64.min = -9223372036854775808 := rfl
  have e2 : IntKind.i64.max = 9223372036854775807 := rfl
  simp [Lit.wf, e, e2] at h
  omega
theorem open_fates {H : Type} {enc : TypeId × Value → H} {W : World} {base : Nat} {spare : Nat → Bool} {held : Bool} {a : Option Addr} {len cap : Nat} {d : DataW H} {p : List MemPlace} (h : DataW.Trod enc Tryz.prog W base spare held 40 (.slice a len cap) d p) :
    ∃ zs : List FtM, len = zs.length ∧ zs.length ≤ maxLen ∧ Rd W a (zs.map ftV) ∧ ∀ o ∈ zs, o.ok W := by
  obtain ⟨fuel, hf⟩ := h
  rcases Go.Deep.open_slice Tryz.underlying40 hf with ⟨hcs, _⟩ | ⟨x, l, c, m, n, D, Pl, hcs, _, hl, hm, hmm, _, hi⟩
  · simp [Value.cells] at hcs
    obtain ⟨rfl, rfl, rfl⟩ := hcs
    exact ⟨[], rfl, Nat.zero_le _, Rd.nil _ _, by simp⟩
  · simp [Value.cells] at hcs
    obtain ⟨rfl, rfl, rfl⟩ := hcs
    have hml : len ≤ m := by rw [hmm]; split <;> omega
    have hC : Tryz.prog.cellsOf 52 = 1 := by kernel_rfl
    have key : ∀ i, ∃ o : FtM, i < len → W.cell? (x.add i) = some (ftV o) ∧ o.ok W := fun i => by
      by_cases hil : i < len
      · obtain ⟨cs', hc, ht'⟩ := hi i (by omega)
        rw [hC, Nat.mul_one] at hc
        obtain ⟨_, hcl, hat⟩ := World.cells?_some hc
        match cs', hcl with
        | [v], _ =>
          have h0 := hat 0 (by omega)
          have hx0 : (x.add i).add 0 = x.add i := by
            rw [Go.Deep.add_add, Nat.add_zero]
          rw [hx0] at h0
          rcases open_ints Tryz.underlying52 Tryz.underlying3 (by kernel_rfl) ht' with ⟨hcs, _⟩ | ⟨y, l, c, zs, hcs, _, hl, hm, hz, _, hcell, hwz⟩
          · obtain rfl : v = .slice none 0 0 := by simpa using hcs
            exact ⟨⟨none, 0, 0, []⟩, fun _ => ⟨h0, Rd.nil _ _, rfl, Nat.zero_le _, by simp⟩⟩
          · obtain rfl : v = .slice (some y) l c := by simpa using hcs
            have hlz : l ≤ zs.length := by rw [hz]; split <;> omega
            exact ⟨⟨some y, l, c, zs.take l⟩, fun _ => ⟨h0, rd_of_cells hcell l, by simp; omega, by show l ≤ maxLen; omega, fun n hn => fwf_le (hwz n (List.mem_of_mem_take hn))⟩⟩
      · exact ⟨⟨none, 0, 0, []⟩, fun h => absurd h hil⟩
    refine ⟨(List.range len).map fun i => Classical.choose (key i), by simp, by simp; omega, ?_, fun o ho => ?_⟩
    · intro q u hu
      have hq : q < len := by
        have := (List.getElem?_eq_some_iff.1 hu).1
        simpa using this
      have c0 := (Classical.choose_spec (key q) hq).1
      have hs := spot_add (Classical.choose_spec (key 0) (by omega)).1
      refine ⟨x.block, x.off, by rw [← hs], ?_⟩
      have : u = ftV (Classical.choose (key q)) := by simpa [hq, eq_comm] using hu
      rw [← add_none hs q, this]
      exact c0
    · obtain ⟨i, hir, rfl⟩ := List.mem_map.1 ho
      exact (Classical.choose_spec (key i) (List.mem_range.1 hir)).2
end Go.Proofs.YtgkihdhjafmnnaaGreatDoor
