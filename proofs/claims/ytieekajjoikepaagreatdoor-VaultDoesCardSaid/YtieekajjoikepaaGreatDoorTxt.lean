/-
  Rows of texts, and the contract of keyholeref01.Texts.
-/
import Derived.Test.YtieekajjoikepaaGreatDoorGen
namespace Go.Proofs.YtieekajjoikepaaGreatDoor
open Go.RowKit
set_option linter.unusedVariables false
set_option maxRecDepth 100000
set_option maxHeartbeats 1000000

def textsV (l : List ByteArray) : List Value := l.map Value.string
theorem textsV_append (l m : List ByteArray) : textsV (l ++ m) = textsV l ++ textsV m := by simp [textsV]
theorem string_info : (Tryz.prog.info? 9).map (fun i => (i.zero, i.size, i.bytes)) = some (some (.string ⟨#[]⟩), 1, 16) := by kernel_rfl
theorem rd_of_texts {w : World} {x : Addr} {zs : List ByteArray} (h : ∀ i, i < zs.length → w.cell? (x.add i) = some (.string (zs.getD i ByteArray.empty))) (l : Nat) : Rd w (some x) (textsV (zs.take l)) := by
  intro i u hu
  have hi : i < zs.length := by
    rcases Nat.lt_or_ge i zs.length with h | h
    · exact h
    · simp [textsV, List.getElem?_take, h] at hu
  have hil : i < l := by
    rcases Nat.lt_or_ge i l with h | h
    · exact h
    · simp [textsV, List.getElem?_take, Nat.not_lt.2 h] at hu
  have hc := h i hi
  have hs : x.spot = none := by
    have h0 := h 0 (by omega)
    unfold World.cell? at h0
    obtain ⟨b, o, sp⟩ := x
    cases sp with
    | none => rfl
    | some v => simp only [Addr.add] at h0; split at h0 <;> simp at h0
  refine ⟨x.block, x.off, by rw [← hs], ?_⟩
  have hu' : u = .string (zs.getD i ByteArray.empty) := by simpa [textsV, hil, hi, eq_comm] using hu
  rw [hu', ← hc]
  congr 1
  unfold Addr.add
  split
  · rename_i h0; subst h0; obtain ⟨b, o, sp⟩ := x; simp_all
  · rfl


theorem texts_at {w : World} {A : Option Addr} {l : List ByteArray} {i : Nat} (h : Rd w A (textsV l)) (hi : i < l.length) : ∃ b off, A = some ⟨b, off, none⟩ ∧ w.cell? ⟨b, off + i, none⟩ = some (.string l[i]) := h i (.string l[i]) (by simp [textsV, hi])
theorem eq_of_take {α : Type} {l m : List α} (hl : l.length = m.length) (h : l.take l.length = m.take l.length) : l = m := by
  rw [List.take_of_length_le (Nat.le_refl _), hl, List.take_of_length_le (Nat.le_refl _)] at h
  exact h
/-- Texts tells whether two rows are the same. -/
theorem texts_any (l m : List ByteArray) (A A2 : Option Addr) (n c n2 c2 : Nat) (w : World) (hr : Rd w A (textsV l)) (hr2 : Rd w A2 (textsV m)) (hn : n = l.length) (hn2 : n2 = m.length) (hl : l.length ≤ 100000) :
    Calls Tryz.prog 36 #[.slice A n c, .slice A2 n2 c2] w fun e w' => e = .returned (.bool (decide (l = m))) ∧ Below w.heap.size w w' := by
  have HR := Lib.hid hr
  have HR2 := Lib.hid hr2
  have HN := Lib.hid hn
  have HN2 := Lib.hid hn2
  have hn1 : n ≤ 100000 := by omega
  by_cases hne : n = n2
  · have d1 : ((n : Int) != (n2 : Int)) = false := by simp; omega
    have Hne := Lib.hid hne
    clear hr hr2 hn hn2 hne
    go_enter Tryz.func36, Tryz.ntmps36
    go_wp2_with fail
    go_loopw [5] (fun x wr => ∃ i : Nat, i ≤ n ∧ x = .int .i64 (i : Nat) ∧ l.take i = m.take i ∧ Below w.heap.size w wr) (fun x _ => n - (intOf x).toNat)
    case atStart => exact ⟨0, by omega, rfl, by simp, Below.refl _ _⟩
    case round =>
      obtain ⟨i, hi, rfl, ht, hW⟩ := hrel
      have HT := Lib.hid ht
      clear ht
      by_cases hlt : i < n
      · have hil : i < l.length := by rw [← HN.out]; exact hlt
        have him : i < m.length := by rw [← HN2.out, ← Hne.out]; exact hlt
        obtain ⟨b, off, hA, c1⟩ := texts_at (HR.out.below hW) hil
        obtain ⟨b2, off2, hA2, d1'⟩ := texts_at (HR2.out.below hW) him
        subst hA hA2
        have hi1 : (i : Int) < (n : Int) := by omega
        have hi2 : (i : Int) < (n2 : Int) := by have := Hne.out; omega
        have hi3 : i < n2 := by omega
        have Hx := Lib.hid (show l.take (i + 1) = l.take i ++ [l[i]] from List.take_succ_eq_append_getElem hil)
        have Hy := Lib.hid (show m.take (i + 1) = m.take i ++ [m[i]] from List.take_succ_eq_append_getElem him)
        by_cases he : l[i] = m[i]
        · rw [← he] at Hy d1'
          clear he
          generalize l[i] = x at c1 Hx Hy d1'
          have C1 := Lib.hid c1
          have D1 := Lib.hid d1'
          clear c1 d1'
          go_wp2_with fail
          have c1 := C1.out
          have d1' := D1.out
          go_quiet (fail)
          rename_i nq
          have HB := below_drewN hW nq
          go_wp2_with fail
          go_roundw
          case rel => exact ⟨i + 1, by omega, by go_num, by rw [Hx.out, Hy.out, HT.out], HB⟩
          case measure => simp [intOf]; omega
        · have Hlm := Lib.hid (show l ≠ m by intro e; subst e; exact he rfl)
          generalize l[i] = x at c1 Hx he
          generalize m[i] = y at d1' Hy he
          have hxy := text_ne' he
          clear he
          have C1 := Lib.hid c1
          have D1 := Lib.hid d1'
          clear c1 d1'
          go_wp2_with fail
          have c1 := C1.out
          have d1' := D1.out
          go_quiet (fail)
          rename_i nq
          have HB := below_drewN hW nq
          go_wp2_with fail
          go_ret
          exact ⟨by rw [decide_eq_false Hlm.out]; rfl, HB⟩
      · obtain rfl : i = n := by omega
        go_wp2_with fail
        go_ret
        refine ⟨?_, hW⟩
        have h1 := HN.out
        have h2 := HN2.out
        have h3 := Hne.out
        have h4 := HT.out
        rw [h1] at h4
        rw [decide_eq_true (eq_of_take (by omega) h4)]
        rfl
  · have d1 : ((n : Int) != (n2 : Int)) = true := by simp; omega
    have Hlm := Lib.hid (show l ≠ m by intro e; subst e; omega)
    clear hr hr2 hn hn2 hne
    go_enter Tryz.func36, Tryz.ntmps36
    go_wp2_with fail
    go_ret
    exact ⟨by rw [decide_eq_false Hlm.out]; rfl, Below.refl _ _⟩
end Go.Proofs.YtieekajjoikepaaGreatDoor
