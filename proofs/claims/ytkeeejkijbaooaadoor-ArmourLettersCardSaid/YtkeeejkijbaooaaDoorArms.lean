/-
  The examples of chapter 10 (keyholelaw10.arms returns true), and the walk of the law ArmourUnlike.
-/
import Derived.Test.YtkeeejkijbaooaaDoorGet2
namespace Go.Proofs.YtkeeejkijbaooaaDoor
open Go.RowKit
set_option linter.unusedVariables false

set_option maxHeartbeats 1000000 in
set_option maxRecDepth 100000 in
theorem arms_any (w : World) (hT : ArmTabs w) :
    Calls Tryd.prog 22 #[] w fun e w' => e = .returned (.bool true) ∧ Below w.heap.size w w' := by
  have HT := Lib.hid hT
  clear hT
  have E1 := Lib.hid (show bytesRes (⟨#[109, 122]⟩ : ByteArray).data.toList = none by decide +kernel)
  have E2 := Lib.hid (show bytesRes (⟨#[109]⟩ : ByteArray).data.toList = none by decide +kernel)
  have E3 := Lib.hid (show bytesRes (⟨#[77, 89]⟩ : ByteArray).data.toList = none by decide +kernel)
  have E4 := Lib.hid (show bytesRes (⟨#[109, 121]⟩ : ByteArray).data.toList = some [102] by decide +kernel)
  have E5 := Lib.hid (show (putL [120]).length = 8 by decide +kernel)
  have E6 := Lib.hid (get_put [120] (by decide))
  have E7 := Lib.hid (show bs (lettersL (⟨#[102]⟩ : ByteArray).data.toList) = ⟨#[109, 121]⟩ by decide +kernel)
  have E8 := Lib.hid (show bs (lettersL (⟨#[102, 111]⟩ : ByteArray).data.toList) = ⟨#[109, 122, 120, 113]⟩ by decide +kernel)
  have E9 := Lib.hid (show bs (lettersL (⟨#[102, 111, 111, 98, 97, 114]⟩ : ByteArray).data.toList) = ⟨#[109, 122, 120, 119, 54, 121, 116, 98, 111, 105]⟩ by decide +kernel)
  go_enter Tryd.func22, Tryd.ntmps22
  go_wp2_with fail
  refine (armBytes_any ⟨#[109, 122]⟩ w (by decide)).mono ?_
  rintro e w1 ⟨rfl, hb⟩
  rw [E1.out]
  simp only [textOr]
  go_wp2_with fail
  refine (armBytes_any ⟨#[109]⟩ w1 (by decide)).mono ?_
  rintro e w2 ⟨rfl, hb2⟩
  rw [E2.out]
  simp only [textOr]
  replace hb := Below.chain hb hb2
  clear hb2
  go_wp2_with fail
  refine (armBytes_any ⟨#[77, 89]⟩ w2 (by decide)).mono ?_
  rintro e w3 ⟨rfl, hb3⟩
  rw [E3.out]
  simp only [textOr]
  replace hb := Below.chain hb hb3
  clear hb3
  go_wp2_with fail
  refine (armBytes_any ⟨#[109, 121]⟩ w3 (by decide)).mono ?_
  rintro e w4 ⟨rfl, hb4⟩
  rw [E4.out]
  simp only [textOr]
  replace hb := Below.chain hb hb4
  clear hb4
  rw [show bs [102] = ⟨#[102]⟩ from rfl]
  go_wp2_with fail
  refine (put_yes ⟨#[120]⟩ w4 (HT.out.below hb).rounds (by decide)).mono ?_
  rintro e w5 ⟨rfl, hb5⟩
  replace hb := Below.chain hb hb5
  clear hb5
  obtain ⟨p, hp⟩ : ∃ p, p = bs (putL [120]) := ⟨_, rfl⟩
  have hps : p.size = 8 := by rw [hp, bs_size]; exact E5.out
  have Hg : Hid (getRes p.data.toList = some [120]) := by rw [hp]; exact E6.out
  rw [show bs (putL (⟨#[120]⟩ : ByteArray).data.toList) = p from hp.symm]
  have h8 : ((p.size : Int) == 8) = true := by rw [hps]; rfl
  have hps' : p.size ≤ 8 := by omega
  clear hp hps
  go_wp2_with fail
  refine (get_any p w5 (HT.out.below hb) (by omega)).mono ?_
  rintro e w6 ⟨rfl, hb6⟩
  rw [Hg.out]
  simp only [textOr]
  replace hb := Below.chain hb hb6
  clear hb6
  rw [show bs [120] = ⟨#[120]⟩ from rfl]
  go_wp2_with fail
  refine (letters_any ⟨#[102]⟩ w6 (by decide)).mono ?_
  rintro e w7 ⟨rfl, hb7⟩
  rw [E7.out]
  replace hb := Below.chain hb hb7
  clear hb7
  go_wp2_with fail
  refine (letters_any ⟨#[102, 111]⟩ w7 (by decide)).mono ?_
  rintro e w8 ⟨rfl, hb8⟩
  rw [E8.out]
  replace hb := Below.chain hb hb8
  clear hb8
  go_wp2_with fail
  refine (letters_any ⟨#[102, 111, 111, 98, 97, 114]⟩ w8 (by decide)).mono ?_
  rintro e w9 ⟨rfl, hb9⟩
  rw [E9.out]
  replace hb := Below.chain hb hb9
  clear hb9
  go_wp2_with fail
  go_ret
  exact ⟨rfl, hb⟩

set_option maxHeartbeats 1000000 in
set_option maxRecDepth 100000 in
theorem armourUnlike_law (s : ByteArray) (hs : s.size ≤ maxLen) (t : ByteArray) (ht : t.size ≤ maxLen) (w : World) (hT : ArmTabs w) :
    Calls Tryd.prog 6 #[.string s, .string t] w fun e w' => e = .returned (.bool true) ∧ Below w.heap.size w w' := by
  unfold maxLen at hs ht
  have HT := Lib.hid hT
  clear hT
  by_cases h1 : 200 < s.size
  · go_enter Tryd.func6, Tryd.ntmps6
    go_wp2_with fail
    go_ret
    exact ⟨rfl, Below.refl _ _⟩
  · by_cases h2 : 200 < t.size
    · have d1 : decide (200 < (s.size : Int)) = false := by simp; omega
      go_enter Tryd.func6, Tryd.ntmps6
      go_wp2_with fail
      go_ret
      exact ⟨rfl, Below.refl _ _⟩
    · have d1 : decide (200 < (s.size : Int)) = false := by simp; omega
      have d2 : decide (200 < (t.size : Int)) = false := by simp; omega
      have hll : (bs (lettersL s.data.toList)).size = (8 * s.size + 4) / 5 := by rw [bs_size, lettersL_len, len_data]
      have hl1 : (((bs (lettersL s.data.toList)).size : Int) == (8 * (s.size : Int) + 4) / 5) = true := by
        rw [hll]; simp
      have hl2 : (bs (lettersL s.data.toList)).size ≤ 400 := by omega
      have Hl1 := Lib.hid hl1
      clear hll hl1
      have hs2 : s.size ≤ 200 := by omega
      have ht2 : t.size ≤ 200 := by omega
      clear h1 h2 hs ht
      by_cases hst : s = t
      · subst hst
        go_enter Tryd.func6, Tryd.ntmps6
        go_wp2_with fail
        refine (put_yes s w HT.out.rounds hs2).mono ?_
        rintro e w1 ⟨rfl, hb⟩
        go_wp2_with fail
        refine (put_yes s w1 (HT.out.below hb).rounds hs2).mono ?_
        rintro e w2 ⟨rfl, hb2⟩
        replace hb := Below.chain hb hb2
        clear hb2
        generalize bs (putL s.data.toList) = p
        go_wp2_with fail
        refine (letters_any s w2 (by omega)).mono ?_
        rintro e w3 ⟨rfl, hb3⟩
        replace hb := Below.chain hb hb3
        clear hb3
        generalize hq : bs (lettersL s.data.toList) = q at Hl1 hl2 ⊢
        have Hq := Lib.hid hq
        clear hq
        go_wp2_with fail
        refine (arms_any w3 (HT.out.below hb)).mono ?_
        rintro e w4 ⟨rfl, hb4⟩
        replace hb := Below.chain hb hb4
        clear hb4
        go_wp2_with fail
        refine (letters_any s w4 (by omega)).mono ?_
        rintro e w5 ⟨rfl, hb5⟩
        replace hb := Below.chain hb hb5
        clear hb5
        rw [Hq.out]
        have hl1 := Hl1.out
        go_wp2_with fail
        go_ret
        exact ⟨rfl, hb⟩
      · have hnst : (s.toList == t.toList) = false := text_ne' hst
        have hnp : ((bs (putL s.data.toList)).toList == (bs (putL t.data.toList)).toList) = false := text_ne' fun e => hst (by
          have := put_inj (bs_inj e)
          apply ByteArray.ext
          apply Array.ext'
          exact this)
        have hnl : ((bs (lettersL s.data.toList)).toList == (bs (lettersL t.data.toList)).toList) = false := text_ne' fun e => hst (by
          have := letters_inj (bs_inj e)
          apply ByteArray.ext
          apply Array.ext'
          exact this)
        have Hnp := Lib.hid hnp
        have Hnl := Lib.hid hnl
        clear hst hnp hnl
        go_enter Tryd.func6, Tryd.ntmps6
        go_wp2_with fail
        refine (put_yes s w HT.out.rounds hs2).mono ?_
        rintro e w1 ⟨rfl, hb⟩
        go_wp2_with fail
        refine (put_yes t w1 (HT.out.below hb).rounds ht2).mono ?_
        rintro e w2 ⟨rfl, hb2⟩
        replace hb := Below.chain hb hb2
        clear hb2
        generalize bs (putL s.data.toList) = p at Hnp ⊢
        generalize bs (putL t.data.toList) = r at Hnp ⊢
        go_wp2_with fail
        refine (letters_any s w2 (by omega)).mono ?_
        rintro e w3 ⟨rfl, hb3⟩
        replace hb := Below.chain hb hb3
        clear hb3
        generalize bs (lettersL s.data.toList) = q at Hl1 hl2 Hnl ⊢
        go_wp2_with fail
        refine (arms_any w3 (HT.out.below hb)).mono ?_
        rintro e w4 ⟨rfl, hb4⟩
        replace hb := Below.chain hb hb4
        clear hb4
        have hnp := Hnp.out
        go_wp2_with fail
        refine (letters_any t w4 (by omega)).mono ?_
        rintro e w5 ⟨rfl, hb5⟩
        replace hb := Below.chain hb hb5
        clear hb5
        generalize bs (lettersL t.data.toList) = q2 at Hnl ⊢
        have hl1 := Hl1.out
        have hnl := Hnl.out
        go_wp2_with fail
        go_ret
        exact ⟨rfl, hb⟩
end Go.Proofs.YtkeeejkijbaooaaDoor
