/-
  keyholelaw04.StreamParts: the law's walk.
-/
import Derived.Test.YtdmppngjmpmigaaDoorStreamBack
namespace Go.Proofs.YtdmppngjmpmigaaDoor
open Go.RowKit
set_option linter.unusedVariables false

theorem cryptTo_split (key nonce : List UInt8) (n : Int) (s : List UInt8) (m : Nat) (h : 64 * m ≤ s.length) :
    cryptTo key nonce n s s.length = cryptTo key nonce n (s.take (64 * m)) (64 * m) ++ cryptTo key nonce (n + m) (s.drop (64 * m)) (s.length - 64 * m) := by
  apply List.ext_getElem
  · simp [cryptTo]; omega
  · intro j h1 h2
    have hj : j < s.length := by simpa [cryptTo] using h1
    have hl : (cryptTo key nonce n (s.take (64 * m)) (64 * m)).length = 64 * m := by simp [cryptTo]; omega
    by_cases hjm : j < 64 * m
    · rw [List.getElem_append_left (by omega)]
      simp only [cryptTo, List.getElem_map, List.getElem_range]
      rw [if_pos hj, if_pos hjm]
      have e : (s.take (64 * m)).getD j 0 = s.getD j 0 := by simp [hjm]
      rw [e]
    · rw [List.getElem_append_right (by omega)]
      simp only [cryptTo, List.getElem_map, List.getElem_range]
      simp only [cryptTo, List.length_map, List.length_range, List.length_take] at *
      have hmin : min (64 * m) s.length = 64 * m := by omega
      rw [hmin, if_pos hj, if_pos (by omega)]
      have e : (s.drop (64 * m)).getD (j - 64 * m) 0 = s.getD j 0 := by
        simp only [List.getD_eq_getElem?_getD, List.getElem?_drop]
        rw [show 64 * m + (j - 64 * m) = j by omega]
      have e2 : n + ((j / 64 : Nat) : Int) = n + (m : Int) + (((j - 64 * m) / 64 : Nat) : Int) := by omega
      have e3 : j % 64 = (j - 64 * m) % 64 := by omega
      rw [e, ← e2, ← e3]

theorem parts_ok (key nonce s : ByteArray) (n : Int) (m : Nat) (h : cryptB key nonce s n = 0) (hm : 64 * m ≤ s.size) (hn : n ≤ 4294967295 - m) :
    cryptB key nonce (s.extract 0 (64 * m)) n = 0 ∧ cryptB key nonce (s.extract (64 * m) s.size) (n + m) = 0 ∧
      cryptS key nonce s n = cryptS key nonce (s.extract 0 (64 * m)) n ++ cryptS key nonce (s.extract (64 * m) s.size) (n + m) := by
  have hl := len_data s
  have z1 : (s.extract 0 (64 * m)).size = 64 * m := by rw [ByteArray.size_extract]; omega
  have z2 : (s.extract (64 * m) s.size).size = s.size - 64 * m := by rw [ByteArray.size_extract]; omega
  have h' := h
  unfold cryptB at h'
  split at h'
  · rename_i hv
    split at h'
    · cases h'
    · rename_i hlim
      have hl1 : ¬ 4000 < s.size := fun e => hlim (.inl e)
      have hl2 : ¬ (0 < s.size ∧ 4294967295 < n + ((s.size : Int) + 63) / 64 - 1) := fun e => hlim (.inr e)
      have b1 : cryptB key nonce (s.extract 0 (64 * m)) n = 0 := by
        rw [cryptB, if_pos hv, z1, if_neg (by omega)]
      have b2 : cryptB key nonce (s.extract (64 * m) s.size) (n + m) = 0 := by
        rw [cryptB, if_pos (by omega), z2, if_neg (by omega)]
      refine ⟨b1, b2, ?_⟩
      rw [cryptS, if_pos h, cryptS, if_pos b1, cryptS, if_pos b2, z1, z2]
      rw [extract_bs, extract_bs, bs_data, bs_data, List.drop_zero, List.take_of_length_le (Nat.le_of_eq hl)]
      have e := cryptTo_split key.data.toList nonce.data.toList n s.data.toList m (by rw [hl]; exact hm)
      rw [hl] at e
      rw [e]
      apply ByteArray.ext
      apply Array.ext'
      simp [bs]
  · cases h'

set_option maxHeartbeats 1000000 in
set_option maxRecDepth 100000 in
theorem streamParts_yes (key nonce s : ByteArray) (n : Int) (m : Nat) (w : World) (hT : Turns w) (hk : key.size ≤ 100) (ho : nonce.size ≤ 100) (hs : s.size ≤ 4000) (hm : 64 * m ≤ s.size) (hm2 : m ≤ 62) (h0 : cryptB key nonce s n = 0) (hn : n ≤ 4294967295 - m) :
    Calls Tryd.prog 4 #[.string key, .string nonce, .int .i64 n, .string s, .int .i64 m] w fun e w' => e = .returned (.bool true) ∧ Below w.heap.size w w' := by
  have HT := Lib.hid hT
  clear hT
  have bk : key.size ≤ maxLen := by unfold maxLen; omega
  have bo : nonce.size ≤ maxLen := by unfold maxLen; omega
  have bs' : s.size ≤ maxLen := by unfold maxLen; omega
  have Bk := Lib.hid bk
  have Bo := Lib.hid bo
  have Bs := Lib.hid bs'
  have Hp := Lib.hid (parts_ok key nonce s n m h0 hm hn)
  have H0 := Lib.hid h0
  have hnb : 0 ≤ n := by
    unfold cryptB at h0
    split at h0
    · rename_i hv
      exact hv.2.2.1
    · cases h0
  have i1 : (64 : Int) * (m : Int) ≤ (s.size : Int) := by omega
  have i2 : (0 : Int) ≤ 64 * (m : Int) := by omega
  have Z1 := Lib.hid (show (s.extract 0 (64 * m)).size ≤ maxLen by rw [ByteArray.size_extract]; unfold maxLen; omega)
  have Z2 := Lib.hid (show (s.extract (64 * m) s.size).size ≤ maxLen by rw [ByteArray.size_extract]; unfold maxLen; omega)
  clear bk bo bs' h0
  go_enter Tryd.func4, Tryd.ntmps4
  go_wp2_with fail
  refine (crypt_any key nonce s n w HT.out Bk.out Bo.out Bs.out).mono ?_
  rintro e w1 ⟨rfl, hw⟩
  rw [H0.out]
  have HW := Lib.hid hw
  clear hw
  obtain ⟨a, ha⟩ : ∃ a, a = cryptS key nonce s n := ⟨_, rfl⟩
  rw [← ha] at Hp ⊢
  clear ha
  go_wp2_with fail
  refine (crypt_any key nonce (s.extract 0 (64 * m)) n w1 (HT.out.below HW.out) Bk.out Bo.out Z1.out).mono ?_
  rintro e w2 ⟨rfl, hw2⟩
  rw [Hp.out.1]
  replace HW := Lib.hid (Below.chain HW.out hw2)
  clear hw2
  obtain ⟨b, hb⟩ : ∃ b, b = cryptS key nonce (s.extract 0 (64 * m)) n := ⟨_, rfl⟩
  have Hbz := Lib.hid (show b.size ≤ 4000 by
    rw [hb, crypt_len _ _ _ _ Hp.out.1, ByteArray.size_extract]
    omega)
  rw [← hb] at Hp ⊢
  clear hb
  go_wp2_with fail
  refine (crypt_any key nonce (s.extract (64 * m) s.size) (n + m) w2 (HT.out.below HW.out) Bk.out Bo.out Z2.out).mono ?_
  rintro e w3 ⟨rfl, hw3⟩
  rw [Hp.out.2.1]
  replace HW := Lib.hid (Below.chain HW.out hw3)
  clear hw3
  obtain ⟨c, hc⟩ : ∃ c, c = cryptS key nonce (s.extract (64 * m) s.size) (n + m) := ⟨_, rfl⟩
  have Hcz := Lib.hid (show c.size ≤ 4000 by
    rw [hc, crypt_len _ _ _ _ Hp.out.2.1, ByteArray.size_extract]
    omega)
  rw [← hc] at Hp ⊢
  clear hc
  have Hq := Lib.hid Hp.out.2.2
  rw [Hq.out]
  have hsz : b.size + c.size ≤ 8000 := by
    have h1 := Hbz.out
    have h2 := Hcz.out
    omega
  have hadd : ∀ W, (Op.stringOp .add b c).run Tryd.prog W = .ok (.string (b ++ c)) W := fun W => run_string_add_sum W b c (by omega)
  clear Hp hsz
  go_wp2_with fail
  refine (streams_any w3 (HT.out.below HW.out)).mono ?_
  rintro e w4 ⟨rfl, hw4⟩
  replace HW := Lib.hid (Below.chain HW.out hw4)
  clear hw4
  go_wp2_with fail
  go_ret
  exact ⟨rfl, HW.out⟩

set_option maxHeartbeats 1000000 in
set_option maxRecDepth 100000 in
theorem streamParts_off (key nonce s : ByteArray) (n : Int) (m : Nat) (w : World) (hT : Turns w) (hk : key.size ≤ 100) (ho : nonce.size ≤ 100) (hs : s.size ≤ 4000) (hm : 64 * m ≤ s.size) (hm2 : m ≤ 62) (h : ¬ (cryptB key nonce s n = 0 ∧ n ≤ 4294967295 - m)) :
    Calls Tryd.prog 4 #[.string key, .string nonce, .int .i64 n, .string s, .int .i64 m] w fun e w' => e = .returned (.bool true) ∧ Below w.heap.size w w' := by
  have HT := Lib.hid hT
  clear hT
  have Bk := Lib.hid (show key.size ≤ maxLen by unfold maxLen; omega)
  have Bo := Lib.hid (show nonce.size ≤ maxLen by unfold maxLen; omega)
  have Bs := Lib.hid (show s.size ≤ maxLen by unfold maxLen; omega)
  have i1 : (64 : Int) * (m : Int) ≤ (s.size : Int) := by omega
  have i2 : (0 : Int) ≤ 64 * (m : Int) := by omega
  have Z1 := Lib.hid (show (s.extract 0 (64 * m)).size ≤ maxLen by rw [ByteArray.size_extract]; unfold maxLen; omega)
  by_cases h0 : cryptB key nonce s n = 0
  · have hn : (4294967295 : Int) - m < n := by
      have : ¬ n ≤ 4294967295 - m := fun e => h ⟨h0, e⟩
      omega
    have H0 := Lib.hid h0
    clear h h0
    go_enter Tryd.func4, Tryd.ntmps4
    go_wp2_with fail
    refine (crypt_any key nonce s n w HT.out Bk.out Bo.out Bs.out).mono ?_
    rintro e w1 ⟨rfl, hw⟩
    rw [H0.out]
    have HW := Lib.hid hw
    clear hw
    go_wp2_with fail
    refine (crypt_any key nonce (s.extract 0 (64 * m)) n w1 (HT.out.below HW.out) Bk.out Bo.out Z1.out).mono ?_
    rintro e w2 ⟨rfl, hw2⟩
    replace HW := Lib.hid (Below.chain HW.out hw2)
    clear hw2
    go_wp2_with fail
    refine (streams_any w2 (HT.out.below HW.out)).mono ?_
    rintro e w4 ⟨rfl, hw4⟩
    replace HW := Lib.hid (Below.chain HW.out hw4)
    clear hw4
    go_wp2_with fail
    go_ret
    exact ⟨rfl, HW.out⟩
  · obtain ⟨b, hb⟩ : ∃ b, b = cryptB key nonce s n := ⟨_, rfl⟩
    have hb0 : ((b : Int) != 0) = true := by rw [bne_iff_ne]; omega
    have Hb := Lib.hid hb
    clear h h0 hb
    go_enter Tryd.func4, Tryd.ntmps4
    go_wp2_with fail
    refine (crypt_any key nonce s n w HT.out Bk.out Bo.out Bs.out).mono ?_
    rintro e w1 ⟨rfl, hw⟩
    rw [← Hb.out]
    have HW := Lib.hid hw
    clear hw
    go_wp2_with fail
    refine (crypt_any key nonce (s.extract 0 (64 * m)) n w1 (HT.out.below HW.out) Bk.out Bo.out Z1.out).mono ?_
    rintro e w2 ⟨rfl, hw2⟩
    replace HW := Lib.hid (Below.chain HW.out hw2)
    clear hw2
    go_wp2_with fail
    refine (streams_any w2 (HT.out.below HW.out)).mono ?_
    rintro e w4 ⟨rfl, hw4⟩
    replace HW := Lib.hid (Below.chain HW.out hw4)
    clear hw4
    go_wp2_with fail
    go_ret
    exact ⟨rfl, HW.out⟩
end Go.Proofs.YtdmppngjmpmigaaDoor
