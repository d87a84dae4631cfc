/-
  keyholelaw04.StreamBack: the law's walk.
-/
import Derived.Test.YtdmppngjmpmigaaDoorStreams
namespace Go.Proofs.YtdmppngjmpmigaaDoor
open Go.RowKit
set_option linter.unusedVariables false

theorem u8_xor_twice (a b : UInt8) : (a ^^^ b) ^^^ b = a := by
  rw [UInt8.xor_assoc, UInt8.xor_self, UInt8.xor_zero]
theorem crypt_twice (key nonce : List UInt8) (n : Int) (s : List UInt8) : cryptTo key nonce n (cryptTo key nonce n s s.length) s.length = s := by
  apply List.ext_getElem
  · simp [cryptTo]
  · intro j h1 h2
    simp only [cryptTo, List.getElem_map, List.getElem_range]
    rw [if_pos h2]
    have : (List.map (fun i => if i < s.length then s.getD i 0 ^^^ (blockL key nonce (n + (i / 64 : Nat))).getD (i % 64) 0 else s.getD i 0) (List.range s.length)).getD j 0 = s.getD j 0 ^^^ (blockL key nonce (n + (j / 64 : Nat))).getD (j % 64) 0 := by
      simp [h2]
    rw [this, u8_xor_twice]
    simp [h2]

/-- What Crypt answers: the text and the error's number. -/
def cryptB (key nonce s : ByteArray) (n : Int) : Nat :=
  if key.size = 32 ∧ nonce.size = 12 ∧ 0 ≤ n ∧ n ≤ 4294967295 then (if 4000 < s.size ∨ (0 < s.size ∧ 4294967295 < n + ((s.size : Int) + 63) / 64 - 1) then 2 else 0) else 1
def cryptS (key nonce s : ByteArray) (n : Int) : ByteArray := if cryptB key nonce s n = 0 then bs (cryptTo key.data.toList nonce.data.toList n s.data.toList s.size) else bs []

theorem crypt_any (key nonce s : ByteArray) (n : Int) (w : World) (hT : Turns w) (hk1 : key.size ≤ maxLen) (ho1 : nonce.size ≤ maxLen) (hs1 : s.size ≤ maxLen) :
    Calls Tryd.prog 6 #[.string key, .string nonce, .int .i64 n, .string s] w fun e w' => e = .returned (.tuple #[.string (cryptS key nonce s n), .int .i64 (cryptB key nonce s n : Nat)]) ∧ Below w.heap.size w w' := by
  have hk2 := hk1
  have ho2 := ho1
  unfold maxLen at hk2 ho2
  by_cases h : key.size = 32 ∧ nonce.size = 12 ∧ 0 ≤ n ∧ n ≤ 4294967295
  · by_cases h2 : 4000 < s.size ∨ (0 < s.size ∧ 4294967295 < n + ((s.size : Int) + 63) / 64 - 1)
    · have hb : cryptB key nonce s n = 2 := by rw [cryptB, if_pos h, if_pos h2]
      rw [cryptS, hb]
      refine crypt_limit key nonce s n w h.1 h.2.1 h.2.2 hs1 ?_
      by_cases h4 : 4000 < s.size
      · exact .inl h4
      · have := h2.resolve_left h4
        exact .inr ⟨this.1, by omega, this.2⟩
    · have hb : cryptB key nonce s n = 0 := by rw [cryptB, if_pos h, if_neg h2]
      rw [cryptS, if_pos hb, hb]
      refine crypt_yes key nonce s n w hT h.1 h.2.1 h.2.2 (by omega) ?_
      by_cases h0 : s.size = 0
      · exact .inl h0
      · exact .inr (by
          have : ¬ (0 < s.size ∧ 4294967295 < n + ((s.size : Int) + 63) / 64 - 1) := fun e => h2 (.inr e)
          omega)
  · have hb : cryptB key nonce s n = 1 := by rw [cryptB, if_neg h]
    rw [cryptS, hb]
    exact crypt_arg key nonce s n w hk2 ho2 h

theorem crypt_len (key nonce s : ByteArray) (n : Int) (h : cryptB key nonce s n = 0) : (cryptS key nonce s n).size = s.size := by
  rw [cryptS, if_pos h, bs_size, cryptTo_len]
  rfl
theorem cryptB_len (key nonce s t : ByteArray) (n : Int) (h : t.size = s.size) : cryptB key nonce t n = cryptB key nonce s n := by
  unfold cryptB
  rw [h]
theorem crypt_back (key nonce s : ByteArray) (n : Int) (h : cryptB key nonce s n = 0) : cryptB key nonce (cryptS key nonce s n) n = 0 ∧ cryptS key nonce (cryptS key nonce s n) n = s := by
  have h1 := cryptB_len key nonce s (cryptS key nonce s n) n (crypt_len key nonce s n h)
  have h2 : cryptB key nonce (cryptS key nonce s n) n = 0 := h1.trans h
  refine ⟨h2, ?_⟩
  rw [cryptS, if_pos h2, crypt_len key nonce s n h]
  rw [cryptS, if_pos h, bs_data]
  have e : cryptTo key.data.toList nonce.data.toList n (cryptTo key.data.toList nonce.data.toList n s.data.toList s.size) s.size = s.data.toList := crypt_twice key.data.toList nonce.data.toList n s.data.toList
  rw [e, bs_of]
theorem cryptB_cases (key nonce s : ByteArray) (n : Int) : cryptB key nonce s n = 0 ∨ cryptB key nonce s n = 1 ∨ cryptB key nonce s n = 2 := by
  unfold cryptB
  split
  · split
    · exact .inr (.inr rfl)
    · exact .inl rfl
  · exact .inr (.inl rfl)

set_option maxHeartbeats 1000000 in
set_option maxRecDepth 100000 in
theorem streamBack_yes (key nonce s : ByteArray) (n : Int) (w : World) (hT : Turns w) (hk : key.size ≤ 100) (ho : nonce.size ≤ 100) (hs : s.size ≤ 5000) :
    Calls Tryd.prog 3 #[.string key, .string nonce, .int .i64 n, .string s] w fun e w' => e = .returned (.bool true) ∧ Below w.heap.size w w' := by
  have HT := Lib.hid hT
  clear hT
  have bk : key.size ≤ maxLen := by unfold maxLen; omega
  have bo : nonce.size ≤ maxLen := by unfold maxLen; omega
  have bs' : s.size ≤ maxLen := by unfold maxLen; omega
  have Bk := Lib.hid bk
  have Bo := Lib.hid bo
  have Bs := Lib.hid bs'
  clear bk bo bs'
  by_cases h0 : cryptB key nonce s n = 0
  · have Hb := Lib.hid (crypt_back key nonce s n h0)
    have Hl := Lib.hid (crypt_len key nonce s n h0)
    have H0 := Lib.hid h0
    clear h0
    go_enter Tryd.func3, Tryd.ntmps3
    go_wp2_with fail
    refine (crypt_any key nonce s n w HT.out Bk.out Bo.out Bs.out).mono ?_
    rintro e w1 ⟨rfl, hw⟩
    rw [H0.out]
    have HW := Lib.hid hw
    clear hw
    obtain ⟨a, ha⟩ : ∃ a, a = cryptS key nonce s n := ⟨_, rfl⟩
    rw [← ha] at Hb Hl ⊢
    have Ha := Lib.hid ha
    clear ha
    go_wp2_with fail
    refine (crypt_any key nonce a n w1 (HT.out.below HW.out) Bk.out Bo.out (by rw [Hl.out]; exact Bs.out)).mono ?_
    rintro e w2 ⟨rfl, hw2⟩
    rw [Hb.out.1, Hb.out.2]
    replace HW := Lib.hid (Below.chain HW.out hw2)
    clear hw2
    go_wp2_with fail
    refine (crypt_any key nonce s n w2 (HT.out.below HW.out) Bk.out Bo.out Bs.out).mono ?_
    rintro e w3 ⟨rfl, hw3⟩
    rw [H0.out, ← Ha.out]
    replace HW := Lib.hid (Below.chain HW.out hw3)
    clear hw3
    have hle : ((a.size : Int) == (s.size : Int)) = true := beq_iff_eq.2 (by rw [Hl.out])
    go_wp2_with fail
    refine (streams_any w3 (HT.out.below HW.out)).mono ?_
    rintro e w4 ⟨rfl, hw4⟩
    replace HW := Lib.hid (Below.chain HW.out hw4)
    clear hw4
    go_wp2_with fail
    go_ret
    exact ⟨rfl, HW.out⟩
  · obtain ⟨b, hb⟩ : ∃ b, b = cryptB key nonce s n := ⟨_, rfl⟩
    have Ha := Lib.hid (show cryptS key nonce s n = ⟨#[]⟩ by rw [cryptS, if_neg h0]; rfl)
    have hb0 : ((b : Int) != 0) = true := by rw [bne_iff_ne]; omega
    have Hb := Lib.hid hb
    clear h0 hb
    go_enter Tryd.func3, Tryd.ntmps3
    go_wp2_with fail
    refine (crypt_any key nonce s n w HT.out Bk.out Bo.out Bs.out).mono ?_
    rintro e w1 ⟨rfl, hw⟩
    rw [← Hb.out, Ha.out]
    have HW := Lib.hid hw
    clear hw
    go_wp2_with fail
    refine (crypt_any key nonce ⟨#[]⟩ n w1 (HT.out.below HW.out) Bk.out Bo.out (Nat.zero_le _)).mono ?_
    rintro e w2 ⟨rfl, hw2⟩
    replace HW := Lib.hid (Below.chain HW.out hw2)
    clear hw2
    go_wp2_with fail
    refine (crypt_any key nonce s n w2 (HT.out.below HW.out) Bk.out Bo.out Bs.out).mono ?_
    rintro e w3 ⟨rfl, hw3⟩
    rw [← Hb.out, Ha.out]
    replace HW := Lib.hid (Below.chain HW.out hw3)
    clear hw3
    go_wp2_with fail
    refine (streams_any w3 (HT.out.below HW.out)).mono ?_
    rintro e w4 ⟨rfl, hw4⟩
    replace HW := Lib.hid (Below.chain HW.out hw4)
    clear hw4
    go_wp2_with fail
    go_ret
    exact ⟨rfl, HW.out⟩

set_option maxHeartbeats 1000000 in
theorem streamBack_no (key nonce s : ByteArray) (n : Int) (w : World) (hk : key.size ≤ maxLen) (ho : nonce.size ≤ maxLen) (hs : s.size ≤ maxLen) (h : ¬ (key.size ≤ 100 ∧ nonce.size ≤ 100 ∧ s.size ≤ 5000)) :
    Calls Tryd.prog 3 #[.string key, .string nonce, .int .i64 n, .string s] w fun e w' => e = .returned (.bool true) ∧ Below w.heap.size w w' := by
  unfold maxLen at hk ho hs
  by_cases h1 : 100 < key.size
  · clear h
    go_enter Tryd.func3, Tryd.ntmps3
    go_wp2_with fail
    go_ret
    exact ⟨rfl, Below.refl _ _⟩
  · have h1' : key.size ≤ 100 := by omega
    by_cases h2 : 100 < nonce.size
    · clear h h1
      go_enter Tryd.func3, Tryd.ntmps3
      go_wp2_with fail
      go_ret
      exact ⟨rfl, Below.refl _ _⟩
    · have h2' : nonce.size ≤ 100 := by omega
      have h3 : 5000 < s.size := by omega
      clear h h1 h2
      go_enter Tryd.func3, Tryd.ntmps3
      go_wp2_with fail
      go_ret
      exact ⟨rfl, Below.refl _ _⟩
theorem streamBack_law (key : ByteArray) (hk : key.size ≤ maxLen) (nonce : ByteArray) (ho : nonce.size ≤ maxLen) (n : Int) (s : ByteArray) (hs : s.size ≤ maxLen) (w : World) (hT : Turns w) :
    Calls Tryd.prog 3 #[.string key, .string nonce, .int .i64 n, .string s] w fun e w' => e = .returned (.bool true) ∧ Below w.heap.size w w' := by
  by_cases h : key.size ≤ 100 ∧ nonce.size ≤ 100 ∧ s.size ≤ 5000
  · exact streamBack_yes key nonce s n w hT h.1 h.2.1 h.2.2
  · exact streamBack_no key nonce s n w hk ho hs h
end Go.Proofs.YtdmppngjmpmigaaDoor
