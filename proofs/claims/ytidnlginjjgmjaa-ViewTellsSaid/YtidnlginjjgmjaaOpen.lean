/-
  Arguments that are rows of shares, or a volume, opened.
-/
import Derived.Test.YtidnlginjjgmjaaTxt
import Derived.Test.YtidnlginjjgmjaaSplit2
import Derived.Deep.SlicePairs
import Derived.SliceStrings
import Derived.Lib.SmallJoins
import Derived.WalkKit
import Derived.ProofKit
namespace Go.Proofs.Ytidnlginjjgmjaa
open Go.RowKit Go.ChangeShapes Go.WideShapes Go.Deep
set_option linter.unusedVariables false
set_option maxRecDepth 100000

theorem add_none {x : Addr} (h : x.spot = none) (k : Nat) : x.add k = ⟨x.block, x.off + k, none⟩ := by
  unfold Addr.add
  split
  · rename_i h0; subst h0; obtain ⟨b, o, sp⟩ := x; simp_all
  · obtain ⟨b, o, sp⟩ := x; simp_all
theorem rd_of_shares {w : World} {x : Addr} (V : Nat → Shr) (l : Nat) (h : ∀ i, i < l → w.cell? (x.add (i * 2)) = some (.int .i64 (V i).1) ∧ w.cell? (x.add (i * 2 + 1)) = some (.string (V i).2)) : Rd w (some x) (sharesV ((List.range l).map V)) := by
  intro q u hu
  have hq : q < l * 2 := by
    have := (List.getElem?_eq_some_iff.1 hu).1
    simpa [sharesV_len] using this
  have hs : x.spot = none := by
    have h0 := (h 0 (by omega)).1
    unfold World.cell? at h0
    obtain ⟨b, o, sp⟩ := x
    cases sp with
    | none => rfl
    | some v => simp only [Addr.add] at h0; split at h0 <;> simp at h0
  refine ⟨x.block, x.off, by rw [← hs], ?_⟩
  have hi : q / 2 < l := by omega
  obtain ⟨c1, c2⟩ := h (q / 2) hi
  obtain ⟨e1, e2⟩ := sharesV_at ((List.range l).map V) (q / 2) (V (q / 2)) (by simp [hi])
  rw [add_none hs] at c1 c2
  rcases Nat.mod_two_eq_zero_or_one q with hm | hm
  · have hq2 : q / 2 * 2 = q := by omega
    rw [hq2] at c1 e1
    rw [hu] at e1
    rw [Option.some.inj e1, c1]
  · have hq2 : q / 2 * 2 + 1 = q := by omega
    rw [hq2] at c2 e2
    rw [hu] at e2
    rw [Option.some.inj e2, c2]
def txtOf : Value → ByteArray
  | .string b => b
  | _ => ByteArray.empty
section
variable {H : Type} {enc : TypeId × Value → H} {W : World} {held : Bool}
theorem open_shr {A : Option Addr} {len cap : Nat} {d : DataW H} {p : List MemPlace} (h : DataW.Trod enc Try.prog W 0 (fun _ => true) held 27 (.slice A len cap) d p) :
    ∃ zs : List Shr, len = zs.length ∧ zs.length ≤ maxLen ∧ Rd W A (sharesV zs) := by
  obtain ⟨fuel, hf⟩ := h
  rcases open_slice_pairs Try.underlying27 Try.underlying45 (by kernel_rfl) rfl rfl (by kernel_rfl) (by kernel_rfl) hf with ⟨hcs, _⟩ | ⟨a, l, c, m, n, V0, V1, D0, D1, P0, P1, hcs, _, hl, hm, hmm, _, hcell⟩
  · simp [Value.cells] at hcs
    obtain ⟨rfl, rfl, rfl⟩ := hcs
    exact ⟨[], rfl, Nat.zero_le _, Rd.nil _ _⟩
  · simp [Value.cells] at hcs
    obtain ⟨rfl, rfl, rfl⟩ := hcs
    refine ⟨(List.range len).map fun i => (intOf (V0 i), txtOf (V1 i)), by simp, by simp; omega, rd_of_shares _ len fun i hi => ?_⟩
    obtain ⟨h0, h1, t0, t1⟩ := hcell i (by rw [hmm]; simp; omega)
    obtain ⟨x, hx, _, _⟩ := DataW.trod_int Try.underlying3 t0
    obtain ⟨b, hb, _, _⟩ := DataW.trod_string Try.underlying9 t1
    have e0 : V0 i = .int .i64 x := by simpa using hx
    have e1 : V1 i = .string b := by simpa using hb
    rw [e0] at h0
    rw [e1] at h1
    exact ⟨by rw [h0, e0]; rfl, by rw [h1, e1]; rfl⟩
theorem open_vol {r : Reach} {b0 : Nat} {v : Value} {d : DataW H} {p : List MemPlace} (hv : Value.okWide Try.prog W r b0 38 v) (h : DataW.Trod enc Try.prog W 0 (fun _ => true) held 38 v d p) :
    ∃ (A : Option Addr) (len cap : Nat) (rt : ByteArray) (zs : List ByteArray), v = .agg #[.slice A len cap, .string rt] ∧ len = zs.length ∧ zs.length ≤ maxLen ∧ Rd W A (textsV zs) := by
  obtain ⟨u, s, y, z, n, rfl, _, _, ta, tb⟩ := Joins.open_agg2 Try.underlying38 (by kernel_rfl) (by kernel_rfl) hv h
  obtain ⟨b, hb, _, _⟩ := DataW.trod_string Try.underlying9 tb
  obtain rfl : s = .string b := by simpa using hb
  rcases open_strings Try.underlying36 Try.underlying9 (by kernel_rfl) ta with ⟨hcs, _⟩ | ⟨x, l, c, zs, hcs, _, hl, hm, hz, _, hcell, hwz⟩
  · obtain rfl : u = .slice none 0 0 := by simpa using hcs
    exact ⟨none, 0, 0, b, [], rfl, rfl, Nat.zero_le _, Rd.nil _ _⟩
  · obtain rfl : u = .slice (some x) l c := by simpa using hcs
    have hz' : zs.length = c := by simpa using hz
    exact ⟨some x, l, c, b, zs.take l, rfl, by simp; omega, by simp; omega, rd_of_texts hcell l⟩
end
end Go.Proofs.Ytidnlginjjgmjaa
