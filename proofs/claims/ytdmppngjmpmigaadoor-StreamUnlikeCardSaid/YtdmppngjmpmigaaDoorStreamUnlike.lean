/-
  keyholelaw04.StreamUnlike: the law's walk.
-/
import Derived.Test.YtdmppngjmpmigaaDoorStreamBack
import Derived.Test.YtdmppngjmpmigaaDoorUnlike
namespace Go.Proofs.YtdmppngjmpmigaaDoor
open Go.RowKit
set_option linter.unusedVariables false

theorem text_ne {s t : ByteArray} (h : ¬ s = t) : (s.toList == t.toList) = false := by
  rw [ByteArray.toList_eq, ByteArray.toList_eq]
  refine beq_eq_false_iff_ne.2 fun e => h ?_
  apply ByteArray.ext
  apply Array.ext'
  exact e
theorem u8_xor_cancel (a b k : UInt8) : (a ^^^ k) ^^^ (b ^^^ k) = a ^^^ b := by
  rw [UInt8.xor_comm b k, UInt8.xor_assoc, ← UInt8.xor_assoc k k b, UInt8.xor_self, UInt8.zero_xor]
theorem crypt_unlike (key nonce : List UInt8) (n : Int) (s t : List UInt8) (h : s.length = t.length) :
    unlikeL (cryptTo key nonce n s s.length) (cryptTo key nonce n t s.length) = unlikeL s t := by
  unfold unlikeL
  rw [cryptTo_len, cryptTo_len, ← h, Nat.min_self]
  apply List.map_congr_left
  intro i hi
  have hi1 : i < s.length := by simpa using hi
  have hi2 : i < t.length := by omega
  have e1 : (cryptTo key nonce n s s.length).getD i 0 = s.getD i 0 ^^^ (blockL key nonce (n + (i / 64 : Nat))).getD (i % 64) 0 := by simp [cryptTo, hi1]
  have e2 : (cryptTo key nonce n t s.length).getD i 0 = t.getD i 0 ^^^ (blockL key nonce (n + (i / 64 : Nat))).getD (i % 64) 0 := by simp [cryptTo, hi1, hi2]
  rw [e1, e2, u8_xor_cancel]

set_option maxHeartbeats 1000000 in
set_option maxRecDepth 100000 in
theorem streamUnlike_yes (key nonce s t : ByteArray) (n : Int) (w : World) (hT : Turns w) (hk : key.size ≤ 100) (ho : nonce.size ≤ 100) (hs : s.size ≤ 1000) (ht : s.size = t.size) :
    Calls Tryd.prog 5 #[.string key, .string nonce, .int .i64 n, .string s, .string t] w fun e w' => e = .returned (.bool true) ∧ Below w.heap.size w w' := by
  have HT := Lib.hid hT
  clear hT
  have Bk := Lib.hid (show key.size ≤ maxLen by unfold maxLen; omega)
  have Bo := Lib.hid (show nonce.size ≤ maxLen by unfold maxLen; omega)
  have Bs := Lib.hid (show s.size ≤ maxLen by unfold maxLen; omega)
  have Bt := Lib.hid (show t.size ≤ maxLen by unfold maxLen; omega)
  have Heq := Lib.hid (cryptB_len key nonce s t n ht.symm)
  have htB : ((s.size : Int) != (t.size : Int)) = false := by simp [ht]
  have Ht := Lib.hid ht
  clear ht
  by_cases h0 : cryptB key nonce s n = 0
  · have h0t : cryptB key nonce t n = 0 := Heq.out.trans h0
    have Hu := Lib.hid (show unlikeL (cryptS key nonce s n).data.toList (cryptS key nonce t n).data.toList = unlikeL s.data.toList t.data.toList by
      rw [cryptS, if_pos h0, cryptS, if_pos h0t, bs_data, bs_data, ← Ht.out]
      exact crypt_unlike key.data.toList nonce.data.toList n s.data.toList t.data.toList (by rw [len_data, len_data]; exact Ht.out))
    have Hab := Lib.hid (show cryptS key nonce s n = cryptS key nonce t n ↔ s = t by
      constructor
      · intro e
        have e1 := (crypt_back key nonce s n h0).2
        have e2 := (crypt_back key nonce t n h0t).2
        rw [e, e2] at e1
        exact e1.symm
      · intro e
        rw [e])
    have Hla := Lib.hid (crypt_len key nonce s n h0)
    have Hlb := Lib.hid (crypt_len key nonce t n h0t)
    have H0 := Lib.hid h0
    have H0t := Lib.hid h0t
    clear h0 h0t
    by_cases hst : s = t
    · have Hst := Lib.hid hst
      clear hst
      go_enter Tryd.func5, Tryd.ntmps5
      go_wp2_with fail
      refine (crypt_any key nonce s n w HT.out Bk.out Bo.out Bs.out).mono ?_
      rintro e w1 ⟨rfl, hw⟩
      rw [H0.out]
      have HW := Lib.hid hw
      clear hw
      obtain ⟨a, ha⟩ : ∃ a, a = cryptS key nonce s n := ⟨_, rfl⟩
      rw [← ha] at Hu Hab Hla ⊢
      clear ha
      go_wp2_with fail
      refine (crypt_any key nonce t n w1 (HT.out.below HW.out) Bk.out Bo.out Bt.out).mono ?_
      rintro e w2 ⟨rfl, hw2⟩
      rw [H0t.out]
      replace HW := Lib.hid (Below.chain HW.out hw2)
      clear hw2
      obtain ⟨b, hb⟩ : ∃ b, b = cryptS key nonce t n := ⟨_, rfl⟩
      rw [← hb] at Hu Hab Hlb ⊢
      clear hb
      obtain rfl : a = b := Hab.out.2 Hst.out
      have hst' := Hst.out
      subst hst'
      go_wp2_with fail
      refine (streams_any w2 (HT.out.below HW.out)).mono ?_
      rintro e w3 ⟨rfl, hw3⟩
      replace HW := Lib.hid (Below.chain HW.out hw3)
      clear hw3
      go_wp2_with fail
      refine (bytes_any a a w3 (by rw [Hla.out]; omega) (by rw [Hla.out]; omega)).mono ?_
      rintro e w4 ⟨rfl, hw4⟩
      rw [Hu.out]
      replace HW := Lib.hid (Below.chain HW.out hw4)
      clear hw4
      go_wp2_with fail
      refine (bytes_any s s w4 (by omega) (by omega)).mono ?_
      rintro e w5 ⟨rfl, hw5⟩
      replace HW := Lib.hid (Below.chain HW.out hw5)
      clear hw5
      go_wp2_with fail
      go_ret
      exact ⟨rfl, HW.out⟩
    · have hnst : (s.toList == t.toList) = false := text_ne hst
      have hnab : ((cryptS key nonce s n).toList == (cryptS key nonce t n).toList) = false := text_ne fun e => hst (Hab.out.1 e)
      clear hst
      go_enter Tryd.func5, Tryd.ntmps5
      go_wp2_with fail
      refine (crypt_any key nonce s n w HT.out Bk.out Bo.out Bs.out).mono ?_
      rintro e w1 ⟨rfl, hw⟩
      rw [H0.out]
      have HW := Lib.hid hw
      clear hw
      obtain ⟨a, ha⟩ : ∃ a, a = cryptS key nonce s n := ⟨_, rfl⟩
      rw [← ha] at Hu hnab Hla ⊢
      clear ha Hab
      go_wp2_with fail
      refine (crypt_any key nonce t n w1 (HT.out.below HW.out) Bk.out Bo.out Bt.out).mono ?_
      rintro e w2 ⟨rfl, hw2⟩
      rw [H0t.out]
      replace HW := Lib.hid (Below.chain HW.out hw2)
      clear hw2
      obtain ⟨b, hb⟩ : ∃ b, b = cryptS key nonce t n := ⟨_, rfl⟩
      rw [← hb] at Hu hnab Hlb ⊢
      clear hb
      go_wp2_with fail
      refine (streams_any w2 (HT.out.below HW.out)).mono ?_
      rintro e w3 ⟨rfl, hw3⟩
      replace HW := Lib.hid (Below.chain HW.out hw3)
      clear hw3
      go_wp2_with fail
      refine (bytes_any a b w3 (by rw [Hla.out]; omega) (by rw [Hlb.out]; have := Ht.out; omega)).mono ?_
      rintro e w4 ⟨rfl, hw4⟩
      rw [Hu.out]
      replace HW := Lib.hid (Below.chain HW.out hw4)
      clear hw4
      go_wp2_with fail
      refine (bytes_any s t w4 (by omega) (by have := Ht.out; omega)).mono ?_
      rintro e w5 ⟨rfl, hw5⟩
      replace HW := Lib.hid (Below.chain HW.out hw5)
      clear hw5
      go_wp2_with fail
      go_ret
      exact ⟨rfl, HW.out⟩
  · obtain ⟨b, hb⟩ : ∃ b, b = cryptB key nonce s n := ⟨_, rfl⟩
    have hb0 : ((b : Int) != 0) = true := by rw [bne_iff_ne]; omega
    have Hb := Lib.hid hb
    have Hbt := Lib.hid (hb.trans Heq.out.symm)
    clear h0 hb
    go_enter Tryd.func5, Tryd.ntmps5
    go_wp2_with fail
    refine (crypt_any key nonce s n w HT.out Bk.out Bo.out Bs.out).mono ?_
    rintro e w1 ⟨rfl, hw⟩
    rw [← Hb.out]
    have HW := Lib.hid hw
    clear hw
    go_wp2_with fail
    refine (crypt_any key nonce t n w1 (HT.out.below HW.out) Bk.out Bo.out Bt.out).mono ?_
    rintro e w2 ⟨rfl, hw2⟩
    rw [← Hbt.out]
    replace HW := Lib.hid (Below.chain HW.out hw2)
    clear hw2
    go_wp2_with fail
    refine (streams_any w2 (HT.out.below HW.out)).mono ?_
    rintro e w3 ⟨rfl, hw3⟩
    replace HW := Lib.hid (Below.chain HW.out hw3)
    clear hw3
    go_wp2_with fail
    go_ret
    exact ⟨rfl, HW.out⟩
set_option maxHeartbeats 1000000 in
set_option maxRecDepth 100000 in
theorem streamUnlike_no0 (key nonce s t : ByteArray) (n : Int) (w : World) (hT : Turns w) (hk : key.size ≤ 9223372036854775807) (ho : nonce.size ≤ 9223372036854775807) (hs : s.size ≤ 9223372036854775807) (ht : t.size ≤ 9223372036854775807)  (g : 100 < key.size) :
    Calls Tryd.prog 5 #[.string key, .string nonce, .int .i64 n, .string s, .string t] w fun e w' => e = .returned (.bool true) ∧ Below w.heap.size w w' := by
  have HT := Lib.hid hT
  clear hT
  go_enter Tryd.func5, Tryd.ntmps5
  go_wp2_with fail
  refine (streams_any w HT.out).mono ?_
  rintro e w4 ⟨rfl, hw4⟩
  have HW := Lib.hid hw4
  clear hw4
  go_wp2_with fail
  go_ret
  exact ⟨rfl, HW.out⟩
set_option maxHeartbeats 1000000 in
set_option maxRecDepth 100000 in
theorem streamUnlike_no1 (key nonce s t : ByteArray) (n : Int) (w : World) (hT : Turns w) (hk : key.size ≤ 9223372036854775807) (ho : nonce.size ≤ 9223372036854775807) (hs : s.size ≤ 9223372036854775807) (ht : t.size ≤ 9223372036854775807) (g0 : key.size ≤ 100) (g : 100 < nonce.size) :
    Calls Tryd.prog 5 #[.string key, .string nonce, .int .i64 n, .string s, .string t] w fun e w' => e = .returned (.bool true) ∧ Below w.heap.size w w' := by
  have HT := Lib.hid hT
  clear hT
  go_enter Tryd.func5, Tryd.ntmps5
  go_wp2_with fail
  refine (streams_any w HT.out).mono ?_
  rintro e w4 ⟨rfl, hw4⟩
  have HW := Lib.hid hw4
  clear hw4
  go_wp2_with fail
  go_ret
  exact ⟨rfl, HW.out⟩
set_option maxHeartbeats 1000000 in
set_option maxRecDepth 100000 in
theorem streamUnlike_no2 (key nonce s t : ByteArray) (n : Int) (w : World) (hT : Turns w) (hk : key.size ≤ 9223372036854775807) (ho : nonce.size ≤ 9223372036854775807) (hs : s.size ≤ 9223372036854775807) (ht : t.size ≤ 9223372036854775807) (g0 : key.size ≤ 100) (g1 : nonce.size ≤ 100) (g : 1000 < s.size) :
    Calls Tryd.prog 5 #[.string key, .string nonce, .int .i64 n, .string s, .string t] w fun e w' => e = .returned (.bool true) ∧ Below w.heap.size w w' := by
  have HT := Lib.hid hT
  clear hT
  go_enter Tryd.func5, Tryd.ntmps5
  go_wp2_with fail
  refine (streams_any w HT.out).mono ?_
  rintro e w4 ⟨rfl, hw4⟩
  have HW := Lib.hid hw4
  clear hw4
  go_wp2_with fail
  go_ret
  exact ⟨rfl, HW.out⟩
set_option maxHeartbeats 1000000 in
set_option maxRecDepth 100000 in
theorem streamUnlike_no3 (key nonce s t : ByteArray) (n : Int) (w : World) (hT : Turns w) (hk : key.size ≤ 9223372036854775807) (ho : nonce.size ≤ 9223372036854775807) (hs : s.size ≤ 9223372036854775807) (ht : t.size ≤ 9223372036854775807) (g0 : key.size ≤ 100) (g1 : nonce.size ≤ 100) (g2 : s.size ≤ 1000) (g : (((s.size : Int) != (t.size : Int)) = true)) :
    Calls Tryd.prog 5 #[.string key, .string nonce, .int .i64 n, .string s, .string t] w fun e w' => e = .returned (.bool true) ∧ Below w.heap.size w w' := by
  have HT := Lib.hid hT
  clear hT
  go_enter Tryd.func5, Tryd.ntmps5
  go_wp2_with fail
  refine (streams_any w HT.out).mono ?_
  rintro e w4 ⟨rfl, hw4⟩
  have HW := Lib.hid hw4
  clear hw4
  go_wp2_with fail
  go_ret
  exact ⟨rfl, HW.out⟩

theorem streamUnlike_law (key : ByteArray) (hk : key.size ≤ maxLen) (nonce : ByteArray) (ho : nonce.size ≤ maxLen) (n : Int) (s : ByteArray) (hs : s.size ≤ maxLen) (t : ByteArray) (ht : t.size ≤ maxLen) (w : World) (hT : Turns w) :
    Calls Tryd.prog 5 #[.string key, .string nonce, .int .i64 n, .string s, .string t] w fun e w' => e = .returned (.bool true) ∧ Below w.heap.size w w' := by
  unfold maxLen at hk ho hs ht
  by_cases c0 : 100 < key.size
  · exact streamUnlike_no0 key nonce s t n w hT hk ho hs ht c0
  by_cases c1 : 100 < nonce.size
  · exact streamUnlike_no1 key nonce s t n w hT hk ho hs ht (by omega) c1
  by_cases c2 : 1000 < s.size
  · exact streamUnlike_no2 key nonce s t n w hT hk ho hs ht (by omega) (by omega) c2
  by_cases c3 : s.size = t.size
  · exact streamUnlike_yes key nonce s t n w hT (by omega) (by omega) (by omega) c3
  · exact streamUnlike_no3 key nonce s t n w hT hk ho hs ht (by omega) (by omega) (by omega) (by rw [bne_iff_ne]; omega)
end Go.Proofs.YtdmppngjmpmigaaDoor
