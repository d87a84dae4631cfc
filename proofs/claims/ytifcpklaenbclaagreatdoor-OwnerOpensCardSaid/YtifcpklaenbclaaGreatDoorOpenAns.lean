/-
  Arguments that are a record, a row of answers (one field of each holds two cells), or a row of booleans, opened.
-/
import Derived.Test.YtifcpklaenbclaaGreatDoorOw2
import Derived.Deep.Grids
import Derived.Deep.Strs
import Derived.Deep.Slices
import Derived.Deep.Fields
import Derived.ChangeSame
import Derived.SliceStrings
import Derived.Lib.SmallJoins
import Derived.WalkKit
import Derived.ProofKit
namespace Go.Proofs.YtifcpklaenbclaaGreatDoor
open Go.RowKit Go.ChangeShapes Go.WideShapes Go.Deep
set_option linter.unusedVariables false
set_option maxRecDepth 100000

theorem oa_add_none {x : Addr} (h : x.spot = none) (k : Nat) : x.add k = ⟨x.block, x.off + k, none⟩ := by
  unfold Addr.add
  split
  · rename_i h0; subst h0; obtain ⟨b, o, sp⟩ := x; simp_all
  · obtain ⟨b, o, sp⟩ := x; simp_all
theorem answersV_len (l : List Ans) : (answersV l).length = l.length * 4 := by
  induction l with
  | nil => rfl
  | cons a l ih => rw [answersV_cons, List.length_append, ih, List.length_cons]; simp [ansV]; omega
theorem rd_of_ans {w : World} {x : Addr} (V : Nat → Ans) (l : Nat) (h : ∀ i, i < l → w.cell? (x.add (i * 4 + 0)) = some (.string (V i).nm) ∧ w.cell? (x.add (i * 4 + 1)) = some (.string (V i).salt) ∧ w.cell? (x.add (i * 4 + 2)) = some (.int .i64 (V i).x) ∧ w.cell? (x.add (i * 4 + 3)) = some (.string (V i).b)) : Rd w (some x) (answersV ((List.range l).map V)) := by
  intro q u hu
  have hq : q < l * 4 := by
    have := (List.getElem?_eq_some_iff.1 hu).1
    rw [answersV_len] at this
    simpa using this
  have hs : x.spot = none := by
    have h0 := (h 0 (by omega)).1
    unfold World.cell? at h0
    obtain ⟨b, o, sp⟩ := x
    cases sp with
    | none => rfl
    | some v => simp only [Addr.add] at h0; split at h0 <;> simp at h0
  refine ⟨x.block, x.off, by rw [← hs], ?_⟩
  have hi : q / 4 < l := by omega
  obtain ⟨c0, c1, c2, c3⟩ := h (q / 4) hi
  obtain ⟨g0, g1, g2, g3⟩ := answersV_at ((List.range l).map V) (q / 4) (V (q / 4)) (by simp [hi])
  rw [oa_add_none hs] at c0 c1 c2 c3
  have hm : q % 4 = 0 ∨ q % 4 = 1 ∨ q % 4 = 2 ∨ q % 4 = 3 := by omega
  rcases hm with hm | hm | hm | hm
  · rw [show q / 4 * 4 = q by omega, hu] at g0
    rw [show q / 4 * 4 + 0 = q by omega] at c0
    rw [Option.some.inj g0]; exact c0
  · rw [show q / 4 * 4 + 1 = q by omega, hu] at g1
    rw [show q / 4 * 4 + 1 = q by omega] at c1
    rw [Option.some.inj g1]; exact c1
  · rw [show q / 4 * 4 + 2 = q by omega, hu] at g2
    rw [show q / 4 * 4 + 2 = q by omega] at c2
    rw [Option.some.inj g2]; exact c2
  · rw [show q / 4 * 4 + 3 = q by omega, hu] at g3
    rw [show q / 4 * 4 + 3 = q by omega] at c3
    rw [Option.some.inj g3]; exact c3
theorem open_answers {H : Type} {enc : TypeId × Value → H} {W : World} {base : Nat} {spare : Nat → Bool} {held : Bool} {a : Option Addr} {len cap : Nat} {d : DataW H} {p : List MemPlace} (h : DataW.Trod enc Tryz.prog W base spare held 25 (.slice a len cap) d p) :
    ∃ zs : List Ans, len = zs.length ∧ zs.length ≤ maxLen ∧ Rd W a (answersV zs) ∧ ∀ o ∈ zs, o.nm.size ≤ maxLen ∧ o.salt.size ≤ maxLen ∧ o.b.size ≤ maxLen := by
  obtain ⟨fuel, hf⟩ := h
  rcases open_slice Tryz.underlying25 hf with ⟨hcs, _⟩ | ⟨x, l, c, m, n, D, Pl, hcs, _, hl, hm, hmm, _, hi⟩
  · simp [Value.cells] at hcs
    obtain ⟨rfl, rfl, rfl⟩ := hcs
    exact ⟨[], rfl, Nat.zero_le _, Rd.nil _ _, by simp⟩
  · simp [Value.cells] at hcs
    obtain ⟨rfl, rfl, rfl⟩ := hcs
    have hml : len ≤ m := by rw [hmm]; split <;> omega
    have hC : Tryz.prog.cellsOf 31 = 4 := by kernel_rfl
    have hC1 : Tryz.prog.cellsOf 9 = 1 := by kernel_rfl
    have hC2 : Tryz.prog.cellsOf 29 = 2 := by kernel_rfl
    have hC3 : Tryz.prog.cellsOf 3 = 1 := by kernel_rfl
    rw [hC] at hi
    have key : ∀ i, ∃ o : Ans, i < len → (W.cell? (x.add (i * 4 + 0)) = some (.string o.nm) ∧ W.cell? (x.add (i * 4 + 1)) = some (.string o.salt) ∧ W.cell? (x.add (i * 4 + 2)) = some (.int .i64 o.x) ∧ W.cell? (x.add (i * 4 + 3)) = some (.string o.b)) ∧ o.nm.size ≤ maxLen ∧ o.salt.size ≤ maxLen ∧ o.b.size ≤ maxLen := fun i => by
      by_cases hil : i < len
      · obtain ⟨cs', hc, ht'⟩ := hi i (by omega)
        obtain ⟨_, hcl, hat⟩ := World.cells?_some hc
        obtain ⟨y0, y1, y2, n', _, _, t0, t1, t2⟩ := trod_struct3 Tryz.underlying31 ht'
        match cs', hcl with
        | [v0, v1, v2, v3], _ =>
          simp only [hC1, hC2, List.drop_zero, List.drop_succ_cons, List.take_succ_cons, List.take_zero] at t0 t1 t2
          obtain ⟨z0, z1, n2, _, _, s0, s1⟩ := trod_struct2 Tryz.underlying29 t2
          simp only [hC1, hC3, List.drop_zero, List.drop_succ_cons, List.take_succ_cons, List.take_zero] at s0 s1
          obtain ⟨x0, hx0, _, h0⟩ := DataW.trod_string Tryz.underlying9 t0
          obtain ⟨x1, hx1, _, h1⟩ := DataW.trod_string Tryz.underlying9 t1
          obtain ⟨x2, hx2, _, _⟩ := DataW.trod_int Tryz.underlying3 s0
          obtain ⟨x3, hx3, _, h3⟩ := DataW.trod_string Tryz.underlying9 s1
          obtain rfl : v0 = .string x0 := by simpa using hx0
          obtain rfl : v1 = .string x1 := by simpa using hx1
          obtain rfl : v2 = .int .i64 x2 := by simpa using hx2
          obtain rfl : v3 = .string x3 := by simpa using hx3
          have c0 := hat 0 (by simp)
          have c1 := hat 1 (by simp)
          have c2 := hat 2 (by simp)
          have c3 := hat 3 (by simp)
          rw [Go.Deep.add_add] at c0 c1 c2 c3
          exact ⟨⟨x0, x1, x2, x3⟩, fun _ => ⟨⟨c0, c1, c2, c3⟩, h0, h1, h3⟩⟩
      · exact ⟨⟨⟨#[]⟩, ⟨#[]⟩, 0, ⟨#[]⟩⟩, fun h => absurd h hil⟩
    refine ⟨(List.range len).map fun i => Classical.choose (key i), by simp, by simp; omega, rd_of_ans _ len (fun i hil => (Classical.choose_spec (key i) hil).1), fun o ho => ?_⟩
    obtain ⟨i, hir, rfl⟩ := List.mem_map.1 ho
    exact (Classical.choose_spec (key i) (List.mem_range.1 hir)).2
theorem open_texts {H : Type} {enc : TypeId × Value → H} {W : World} {base : Nat} {spare : Nat → Bool} {held : Bool} {fuel : Nat} {a : Option Addr} {len cap : Nat} {y : DataW H × List MemPlace} (hf : DataW.trod enc Tryz.prog W base spare held fuel 22 [.slice a len cap] = some y) :
    ∃ zs : List ByteArray, len = zs.length ∧ zs.length ≤ maxLen ∧ Rd W a (textsV zs) ∧ ∀ n ∈ zs, n.size ≤ maxLen := by
  rcases open_strings Tryz.underlying22 Tryz.underlying9 (by kernel_rfl) hf with ⟨hcs, _⟩ | ⟨x, l, c, zs, hcs, _, hl, hm, hz, _, hcell, hwz⟩
  · simp at hcs
    obtain ⟨rfl, rfl, rfl⟩ := hcs
    exact ⟨[], rfl, Nat.zero_le _, Rd.nil _ _, by simp⟩
  · simp at hcs
    obtain ⟨rfl, rfl, rfl⟩ := hcs
    have hlz : len ≤ zs.length := by rw [hz]; split <;> omega
    exact ⟨zs.take len, by simp; omega, by simp; omega, rd_of_texts hcell len, fun n hn => hwz n (List.mem_of_mem_take hn)⟩
theorem open_rec {H : Type} {enc : TypeId × Value → H} {W : World} {base b0 : Nat} {spare : Nat → Bool} {held : Bool} {r : Reach} {v : Value} {d : DataW H} {p : List MemPlace} (hv : Value.okWide Tryz.prog W r b0 24 v) (h : DataW.Trod enc Tryz.prog W base spare held 24 v d p) :
    ∃ R : Rec, RV W v R ∧ R.ns.length ≤ maxLen ∧ R.ps.length ≤ maxLen ∧ (∀ s ∈ R.ns, s.size ≤ maxLen) ∧ ∀ s ∈ R.ps, s.size ≤ maxLen := by
  obtain ⟨v0, v1, v2, v3, y0, y1, y2, y3, n, rfl, -, -, t0, t1, t2, t3⟩ := Joins.open_agg4 Tryz.underlying24 (by kernel_rfl) (by kernel_rfl) hv h
  obtain ⟨x0, hx0, _, _⟩ := DataW.trod_int Tryz.underlying3 t0
  obtain ⟨x1, hx1, _, _⟩ := DataW.trod_int Tryz.underlying3 t1
  obtain rfl : v0 = .int .i64 x0 := by simpa using hx0
  obtain rfl : v1 = .int .i64 x1 := by simpa using hx1
  have s2 : ∃ a l c, v2 = .slice a l c := by
    rcases Go.Deep.open_slice Tryz.underlying22 t2 with ⟨hcs, _⟩ | ⟨x, l, c, _, _, _, _, hcs, _⟩
    · exact ⟨none, 0, 0, by simpa using hcs⟩
    · exact ⟨some x, l, c, by simpa using hcs⟩
  have s3 : ∃ a l c, v3 = .slice a l c := by
    rcases Go.Deep.open_slice Tryz.underlying22 t3 with ⟨hcs, _⟩ | ⟨x, l, c, _, _, _, _, hcs, _⟩
    · exact ⟨none, 0, 0, by simpa using hcs⟩
    · exact ⟨some x, l, c, by simpa using hcs⟩
  obtain ⟨A, l2, c2, rfl⟩ := s2
  obtain ⟨B, l3, c3, rfl⟩ := s3
  obtain ⟨zs, e1, e2, e3, e4⟩ := open_texts t2
  obtain ⟨qs, g1, g2, g3, g4⟩ := open_texts t3
  exact ⟨⟨x0, x1, zs, qs⟩, ⟨A, l2, c2, B, l3, c3, rfl, e3, e1, g3, g1⟩, e2, g2, e4, g4⟩
def boolsV (l : List Bool) : List Value := l.map Value.bool
theorem open_flags {H : Type} {enc : TypeId × Value → H} {W : World} {base : Nat} {held : Bool} {a : Option Addr} {len cap : Nat} {d : DataW H} {p : List MemPlace} (h : DataW.Trod enc Tryz.prog W base (fun _ => true) held 40 (.slice a len cap) d p) :
    ∃ zs : List Bool, len = zs.length ∧ zs.length ≤ maxLen ∧ Rd W a (boolsV zs) := by
  obtain ⟨fuel, hf⟩ := h
  rcases open_bools Tryz.underlying40 Tryz.underlying4 (by kernel_rfl) hf with ⟨hcs, _⟩ | ⟨x, l, c, B, hcs, _, hl, hm, _, hcell⟩
  · simp [Value.cells] at hcs
    obtain ⟨rfl, rfl, rfl⟩ := hcs
    exact ⟨[], rfl, Nat.zero_le _, Rd.nil _ _⟩
  · simp [Value.cells] at hcs
    obtain ⟨rfl, rfl, rfl⟩ := hcs
    refine ⟨(List.range len).map B, by simp, by simp; omega, fun q u hu => ?_⟩
    have hq : q < len := by
      have := (List.getElem?_eq_some_iff.1 hu).1
      simpa [boolsV] using this
    have hs : x.spot = none := by
      have h0 := hcell 0 (by omega)
      unfold World.cell? at h0
      obtain ⟨b, o, sp⟩ := x
      cases sp with
      | none => rfl
      | some v => simp only [Addr.add] at h0; split at h0 <;> simp at h0
    refine ⟨x.block, x.off, by rw [← hs], ?_⟩
    have hc := hcell q (by omega)
    rw [oa_add_none hs] at hc
    rw [hc]
    have : (boolsV ((List.range len).map B))[q]? = some (.bool (B q)) := by simp [boolsV, hq]
    rw [this] at hu
    exact hu
end Go.Proofs.YtifcpklaenbclaaGreatDoor
