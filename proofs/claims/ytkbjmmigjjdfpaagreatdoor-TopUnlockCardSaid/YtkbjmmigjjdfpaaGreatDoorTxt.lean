/-
  Rows of texts, and the contract of keyholeref01.Texts.
-/
import Derived.Test.YtkbjmmigjjdfpaaGreatDoorGen
namespace Go.Proofs.YtkbjmmigjjdfpaaGreatDoor
open Go.RowKit
set_option linter.unusedVariables false
set_option maxRecDepth 100000
set_option maxHeartbeats 1000000

def textsV (l : List ByteArray) : List Value := l.map Value.string
theorem textsV_append (l m : List ByteArray) : textsV (l ++ m) = textsV l ++ textsV m := by simp [textsV]
theorem string_info : (Tryz.prog.info? 9).map (fun i => (i.zero, i.size, i.bytes)) = some (some (.string ⟨#[]⟩), 1, 16) := by kernel_rfl
theorem rd_of_texts {w : World} {x : Addr} {zs : List ByteArray} (h : ∀ i, i < zs.length → w.cell? (x.add i) = some (.string (zs.getD i ByteArray.empty))) (l : Nat) : Rd w (some x) (textsV (zs.take l)) := by
  intro i u hu
  have hi : i < zs.length := by
    rcases Nat.lt_or_ge i zs.length with h | h
    · exact h
    · simp [textsV, List.getElem?_take, h] at hu
  have hil : i < l := by
    rcases Nat.lt_or_ge i l with h | h
    · exact h
    · simp [textsV, List.getElem?_take, Nat.not_lt.2 h] at hu
  have hc := h i hi
  have hs : x.spot = none := by
    have h0 := h 0 (by omega)
    unfold World.cell? at h0
    obtain ⟨b, o, sp⟩ := x
    cases sp with
    | none => rfl
    | some v => simp only [Addr.add] at h0; split at h0 <;> simp at h0
  refine ⟨x.block, x.off, by rw [← hs], ?_⟩
  have hu' : u = .string (zs.getD i ByteArray.empty) := by simpa [textsV, hil, hi, eq_comm] using hu
  rw [hu', ← hc]
  congr 1
  unfold Addr.add
  split
  · rename_i h0; subst h0; obtain ⟨b, o, sp⟩ := x; simp_all
  · rfl


theorem texts_at {w : World} {A : Option Addr} {l : List ByteArray} {i : Nat} (h : Rd w A (textsV l)) (hi : i < l.length) : ∃ b off, A = some ⟨b, off, none⟩ ∧ w.cell? ⟨b, off + i, none⟩ = some (.string l[i]) := h i (.string l[i]) (by simp [textsV, hi])
theorem eq_of_take {α : Type} {l m : List α} (hl : l.length = m.length) (h : l.take l.length = m.take l.length) : l = m := by
  rw [List.take_of_length_le (Nat.le_refl _), hl, List.take_of_length_le (Nat.le_refl _)] at h
  exact h
end Go.Proofs.YtkbjmmigjjdfpaaGreatDoor
