/-
  What was sealed is opened.
-/
import Derived.Test.YtieekajjoikepaaGreatDoorSe
namespace Go.Proofs.YtieekajjoikepaaGreatDoor
set_option linter.unusedVariables false
set_option linter.unusedSimpArgs false

theorem head_app (a b : ByteArray) (h : b.size = 16) : headB (a ++ b) = a ∧ tailB (a ++ b) = b := by
  have hs : (a ++ b).size = a.size + 16 := by rw [ByteArray.size_append, h]
  have ha : a.data.toList.length = a.size := len_data a
  have hb : b.data.toList.length = 16 := (len_data b).trans h
  unfold headB tailB
  rw [hs, Nat.add_sub_cancel, extract_bs, extract_bs, ByteArray.data_append, Array.toList_append]
  refine ⟨?_, ?_⟩
  · rw [List.drop_zero, List.take_append_of_le_length (by omega), List.take_of_length_le (by omega)]
    rfl
  · rw [List.take_of_length_le (by rw [List.length_append]; omega), List.drop_append_of_le_length (by omega), List.drop_of_length_le (by omega), List.nil_append]
    rfl
theorem open_seal {key nonce beside s : ByteArray} (h : sealE key nonce beside s = 0) : openE key nonce beside (sealS key nonce beside s) = 0 ∧ openS key nonce beside (sealS key nonce beside s) = s ∧ (sealS key nonce beside s).size = s.size + 16 := by
  have h1 : onceE key nonce = 0 := by
    unfold sealE at h
    split at h
    · cases h
    · rename_i e; simpa using e
  have h2 : ¬ (4000 < beside.size ∨ 4000 < s.size) := by
    intro e
    unfold sealE at h
    rw [if_neg (by simpa using h1), if_pos e] at h
    cases h
  have hc := crypt_fit h1 (s := s) (by omega)
  obtain ⟨hb1, hb2⟩ := crypt_back key nonce s 1 hc
  have hl := crypt_len key nonce s 1 hc
  have he := endS_size key nonce beside (cryptS key nonce s 1)
  have hS : sealS key nonce beside s = cryptS key nonce s 1 ++ endS key nonce beside (cryptS key nonce s 1) := by unfold sealS; rw [if_pos h]
  obtain ⟨e1, e2⟩ := head_app (cryptS key nonce s 1) _ he
  have hsz : (sealS key nonce beside s).size = s.size + 16 := by rw [hS, ByteArray.size_append, he, hl]
  have hf : fitsB key nonce beside (sealS key nonce beside s) = true := by
    unfold fitsB
    rw [hS, e1, e2]
    simp
  have hE : openE key nonce beside (sealS key nonce beside s) = 0 := by
    unfold openE
    rw [if_neg (by simpa using h1), if_neg (by omega), if_neg (by rintro (e | e); omega; rw [hf] at e; cases e)]
  refine ⟨hE, ?_, hsz⟩
  unfold openS
  rw [if_pos hE, hS, e1]
  exact hb2
end Go.Proofs.YtieekajjoikepaaGreatDoor
