/-
  Plain: two volumes that are written alike are seen alike.
-/
import Derived.Test.YtkldllnlakaehaaGreatDoorVw
namespace Go.Proofs.YtkldllnlakaehaaGreatDoor
open Go.RowKit
set_option linter.unusedVariables false

theorem front_app (a s : ByteArray) (h : a.size = 12) : seen12 (a ++ s) = bs (a.data.toList ++ List.replicate s.size 0) := by
  unfold seen12
  congr 1
  have ha : a.data.toList.length = 12 := by rw [len_data]; exact h
  rw [ByteArray.data_append, Array.toList_append, frontL, List.length_append, ha, len_data]
  split
  · have h0 : s.size = 0 := by omega
    rw [h0]
    have : s.data.toList = [] := List.eq_nil_of_length_eq_zero (by rw [len_data]; exact h0)
    rw [this]
    rfl
  · rw [show List.take 12 (a.data.toList ++ s.data.toList) = a.data.toList by rw [← ha, List.take_left], show 12 + s.size - 12 = s.size by omega]
/-- Two volumes that are seen alike. -/
structure Alike (bl bl' : List ByteArray) : Prop where
  c1 : checkV (rooted bl) = true
  c2 : checkV (rooted bl') = true
  len : bl.length = bl'.length
  eq : bl.map seen12 = bl'.map seen12
theorem alike_write {bl bl' : List ByteArray} (h : Alike bl bl') {key key' nonce : ByteArray} {i : Int} {s s' : ByteArray} (hs : s.size = s'.size) (h64 : s.size ≤ 64) (hk : key.size = 32) (hk' : key'.size = 32) (hn : nonce.size = 12) :
    (writeE (rooted bl) key nonce i s = writeE (rooted bl') key' nonce i s') ∧
    (writeE (rooted bl) key nonce i s = 0 → ∃ b b', writeV (rooted bl) key nonce i s = rooted b ∧ writeV (rooted bl') key' nonce i s' = rooted b' ∧ b.length = bl.length ∧ Alike b b') := by
  have hh : hasV (rooted bl) i = hasV (rooted bl') i := by unfold hasV rooted; simp only; rw [h.len]
  cases hc : hasV (rooted bl) i with
  | false =>
    have e1 : fitE (rooted bl) false = 1 := by unfold fitE; rw [if_neg (by rw [h.c1]; simp), if_pos rfl]
    have e2 : fitE (rooted bl') false = 1 := by unfold fitE; rw [if_neg (by rw [h.c2]; simp), if_pos rfl]
    have w1 : writeE (rooted bl) key nonce i s = 1 := by unfold writeE; rw [hc, e1]; rfl
    have w2 : writeE (rooted bl') key' nonce i s' = 1 := by unfold writeE; rw [← hh, hc, e2]; rfl
    exact ⟨by rw [w1, w2], fun h0 => by rw [w1] at h0; cases h0⟩
  | true =>
    have hi := hc
    unfold hasV rooted at hi
    simp only [Bool.and_eq_true, decide_eq_true_eq] at hi
    obtain ⟨k, rfl⟩ := Int.eq_ofNat_of_zero_le hi.1
    have h64' := (count_le (vol_parts h.c1).1).2
    have hl64 : bl.length ≤ 64 := h64'
    have hp : inVol (k : Int) = true := by simp only [inVol, Bool.and_eq_true, decide_eq_true_eq]; omega
    have g1 := hide_ok (key := key) (nonce := nonce) hp h64 hk hn
    have g2 := hide_ok (key := key') (nonce := nonce) hp (by omega : s'.size ≤ 64) hk' hn
    have e1 : fitE (rooted bl) true = 0 := fit_ok h.c1 rfl
    have e2 : fitE (rooted bl') true = 0 := fit_ok h.c2 rfl
    have w1 : writeE (rooted bl) key nonce k s = 0 := by unfold writeE; rw [hc, e1]; exact g1
    have w2 : writeE (rooted bl') key' nonce k s' = 0 := by unfold writeE; rw [← hh, hc, e2]; exact g2
    refine ⟨by rw [w1, w2], fun _ => ?_⟩
    obtain ⟨-, -, -, v1, c1⟩ := write_is w1
    obtain ⟨-, -, -, v2, c2⟩ := write_is w2
    rw [v1] at c1
    rw [v2] at c2
    refine ⟨_, _, v1, v2, by rw [List.length_set]; rfl, ⟨c1, c2, by rw [List.length_set, List.length_set]; exact h.len, ?_⟩⟩
    rw [List.map_set, List.map_set]
    have z1 := (hide_show g1).2.2.1
    have z2 := (hide_show g2).2.2.1
    have hq : seen12 (hideS key nonce k s) = seen12 (hideS key' nonce k s') := by
      obtain ⟨-, -, -, -, q1⟩ := hide_parts g1
      obtain ⟨-, -, -, -, q2⟩ := hide_parts g2
      rw [q1, ByteArray.size_append] at z1
      rw [q2, ByteArray.size_append] at z2
      rw [q1, q2, front_app _ _ hn, front_app _ _ hn]
      congr 2
      congr 1
      omega
    simp only [rooted]
    rw [hq, h.eq]
theorem alike_new {n : Nat} (h : countB n = true) : Alike (List.replicate n noT) (List.replicate n noT) := by
  have hc := keeps_check (keeps_new (n := n) noT h)
  exact ⟨hc, hc, rfl, rfl⟩
end Go.Proofs.YtkldllnlakaehaaGreatDoor
