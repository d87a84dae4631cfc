/-
  An argument that is a volume, opened.
-/
import Derived.Test.YtieekajjoikepaaGreatDoorVo
import Derived.Deep.Slices
import Derived.Deep.Fields
import Derived.ChangeSame
import Derived.SliceStrings
import Derived.Lib.SmallJoins
import Derived.WalkKit
import Derived.ProofKit
namespace Go.Proofs.YtieekajjoikepaaGreatDoor
open Go.RowKit Go.ChangeShapes Go.WideShapes Go.Deep
set_option linter.unusedVariables false
set_option maxRecDepth 100000

theorem open_texts2 {H : Type} {enc : TypeId × Value → H} {W : World} {base : Nat} {spare : Nat → Bool} {held : Bool} {fuel : Nat} {a : Option Addr} {len cap : Nat} {y : DataW H × List MemPlace} (hf : DataW.trod enc Tryz.prog W base spare held fuel 22 [.slice a len cap] = some y) :
    ∃ zs : List ByteArray, len = zs.length ∧ zs.length ≤ maxLen ∧ Rd W a (textsV zs) ∧ ∀ n ∈ zs, n.size ≤ maxLen := by
  rcases open_strings Tryz.underlying22 Tryz.underlying9 (by kernel_rfl) hf with ⟨hcs, _⟩ | ⟨x, l, c, zs, hcs, _, hl, hm, hz, _, hcell, hwz⟩
  · simp at hcs
    obtain ⟨rfl, rfl, rfl⟩ := hcs
    exact ⟨[], rfl, Nat.zero_le _, Rd.nil _ _, by simp⟩
  · simp at hcs
    obtain ⟨rfl, rfl, rfl⟩ := hcs
    have hlz : len ≤ zs.length := by rw [hz]; split <;> omega
    exact ⟨zs.take len, by simp; omega, by simp; omega, rd_of_texts hcell len, fun n hn => hwz n (List.mem_of_mem_take hn)⟩
theorem open_vol {H : Type} {enc : TypeId × Value → H} {W : World} {base b0 : Nat} {spare : Nat → Bool} {held : Bool} {r : Reach} {v : Value} {d : DataW H} {p : List MemPlace} (hv : Value.okWide Tryz.prog W r b0 27 v) (h : DataW.Trod enc Tryz.prog W base spare held 27 v d p) :
    ∃ V : Vol, VV W v V ∧ V.bl.length ≤ maxLen ∧ (∀ s ∈ V.bl, s.size ≤ maxLen) ∧ V.rt.size ≤ maxLen := by
  obtain ⟨v0, v1, y0, y1, n, rfl, -, -, t0, t1⟩ := Joins.open_agg2 Tryz.underlying27 (by kernel_rfl) (by kernel_rfl) hv h
  obtain ⟨x1, hx1, _, hz⟩ := DataW.trod_string Tryz.underlying9 t1
  obtain rfl : v1 = .string x1 := by simpa using hx1
  have s0 : ∃ a l c, v0 = .slice a l c := by
    rcases Go.Deep.open_slice Tryz.underlying22 t0 with ⟨hcs, _⟩ | ⟨x, l, c, _, _, _, _, hcs, _⟩
    · exact ⟨none, 0, 0, by simpa using hcs⟩
    · exact ⟨some x, l, c, by simpa using hcs⟩
  obtain ⟨A, l2, c2, rfl⟩ := s0
  obtain ⟨zs, e1, e2, e3, e4⟩ := open_texts2 t0
  exact ⟨⟨zs, x1⟩, ⟨A, l2, c2, rfl, e3, e1⟩, e2, e4, hz⟩
end Go.Proofs.YtieekajjoikepaaGreatDoor
