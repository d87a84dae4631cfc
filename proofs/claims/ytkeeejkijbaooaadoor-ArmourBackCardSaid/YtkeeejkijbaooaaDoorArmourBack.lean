/-
  The walk of the law ArmourBack.
-/
import Derived.Test.YtkeeejkijbaooaaDoorArms
import Derived.Test.YtkeeejkijbaooaaDoorShareText
namespace Go.Proofs.YtkeeejkijbaooaaDoor
open Go.RowKit
set_option linter.unusedVariables false

theorem getRes_nil : getRes (bs []).data.toList = none := by decide +kernel
theorem getShareRes_nil : getShareRes (bs []).data.toList = none := by decide +kernel
theorem getShare_put {x : Int} {b : List UInt8} (h1 : 1 ≤ x) (h2 : x ≤ 255) (hb : b.length = 32) : getShareRes (putL (UInt8.ofNat x.toNat :: b)) = some (x, b) := by
  have hx := u8_wrap x (by omega) (by omega)
  rw [getShareRes, get_put _ (by simp [hb])]
  simp only [List.length_cons, hb, List.getD_cons_zero, List.drop_succ_cons, List.drop_zero, true_and]
  rw [if_pos, ← hx]
  intro e
  rw [e] at hx
  simp at hx
  omega
theorem putShare_some {x : Int} {b p : List UInt8} (h : putShareRes x b = some p) : (1 ≤ x ∧ x ≤ 255 ∧ b.length = 32) ∧ p = putL (UInt8.ofNat x.toNat :: b) := by
  unfold putShareRes at h
  split at h
  · rename_i hc; exact ⟨hc, (Option.some.inj h).symm⟩
  · cases h
theorem putL_len (s : List UInt8) (h : s.length ≤ 200) : (putL s).length ≤ 20000 := by
  have e : (putL s).length ≤ 0 + 6 * _ := dashed_len _ []
  rw [fivesTo_len, lettersL_len, List.length_append, take_sum_len] at e
  omega

set_option maxHeartbeats 4000000 in
set_option maxRecDepth 100000 in
theorem armourBack_law (s : ByteArray) (hs : s.size ≤ maxLen) (t : ByteArray) (ht : t.size ≤ maxLen) (x : Int) (b : ByteArray) (hb0 : b.size ≤ maxLen) (w : World) (hT : ArmTabs w) :
    Calls Tryd.prog 7 #[.string s, .string t, .agg #[.int .i64 x, .string b]] w fun e w' => e = .returned (.bool true) ∧ Below w.heap.size w w' := by
  unfold maxLen at hs ht hb0
  have HT := Lib.hid hT
  clear hT
  by_cases h1 : 600 < s.size
  · go_enter Tryd.func7, Tryd.ntmps7
    go_wp2_with fail
    go_ret
    exact ⟨rfl, (Below.refl _ _).alloc (Nat.le_refl _) _⟩
  have d1 : decide (600 < (s.size : Int)) = false := by simp; omega
  by_cases h2 : 600 < t.size
  · go_enter Tryd.func7, Tryd.ntmps7
    go_wp2_with fail
    go_ret
    exact ⟨rfl, (Below.refl _ _).alloc (Nat.le_refl _) _⟩
  have d2 : decide (600 < (t.size : Int)) = false := by simp; omega
  by_cases h3 : 300 < b.size
  · go_enter Tryd.func7, Tryd.ntmps7
    go_wp2_with fail
    go_ret
    exact ⟨rfl, (Below.refl _ _).alloc (Nat.le_refl _) _⟩
  have d3 : decide (300 < (b.size : Int)) = false := by simp; omega
  have hs6 : s.size ≤ 600 := by omega
  have ht6 : t.size ≤ 600 := by omega
  have hb3 : b.size ≤ 300 := by omega
  clear h1 h2 h3 hs ht hb0
  have HL := Lib.hid (bytes_letters s.data.toList)
  have hql : (bs (lettersL s.data.toList)).size ≤ 10000 := by rw [bs_size, lettersL_len, len_data]; omega
  by_cases hsmall : s.size ≤ 200
  · have d4 : decide ((s.size : Int) ≤ 200) = true := by simp; omega
    go_enter Tryd.func7, Tryd.ntmps7
    go_wp2_with fail
    refine (letters_any s _ (by omega)).mono ?_
    rintro e w1 ⟨rfl, hb1⟩
    have HX := Lib.hid (keep_one hb1)
    have hbel := Below.chain_alloc (Below.refl _ _) hb1
    clear hb1
    go_wp2_with fail
    refine (armBytes_any (bs (lettersL s.data.toList)) w1 (by omega)).mono ?_
    rintro e w2 ⟨rfl, hb2⟩
    rw [bs_data, HL.out]
    simp only [textOr]
    rw [bs_of]
    replace HX := hblk_below HX hb2
    replace hbel := Below.chain hbel hb2
    clear hb2
    generalize bs (lettersL s.data.toList) = q at hql ⊢
    go_wp2_with fail
    refine (put_yes s w2 (HT.out.below hbel).rounds hsmall).mono ?_
    rintro e w3 ⟨rfl, hb3⟩
    replace HX := hblk_below HX hb3
    replace hbel := Below.chain hbel hb3
    clear hb3
    have Hgp := Lib.hid (get_put s.data.toList (by rw [len_data]; exact hsmall))
    have hpl := putL_len s.data.toList (by rw [len_data]; exact hsmall)
    go_wp2_with fail
    refine (get_any (bs (putL s.data.toList)) w3 (HT.out.below hbel) (by rw [bs_size]; omega)).mono ?_
    rintro e w4 ⟨rfl, hb4⟩
    rw [bs_data, Hgp.out]
    simp only [textOr]
    rw [bs_of]
    generalize bs (putL s.data.toList) = pp
    replace HX := hblk_below HX hb4
    replace hbel := Below.chain hbel hb4
    clear hb4
    go_wp2_with fail
    refine (get_any t w4 (HT.out.below hbel) (by omega)).mono ?_
    rintro e w5 ⟨rfl, hb5⟩
    replace HX := hblk_below HX hb5
    replace hbel := Below.chain hbel hb5
    clear hb5
    cases hg : getRes t.data.toList with
    | some l =>
      obtain ⟨hl1, hl2⟩ := put_get hg
      have Hl2 := Lib.hid hl2
      clear hl2 hg
      simp only [textOr]
      go_wp2_with fail
      refine (put_yes (bs l) w5 (HT.out.below hbel).rounds (by rw [bs_size]; exact hl1)).mono ?_
      rintro e w6 ⟨rfl, hb6⟩
      rw [bs_data, Hl2.out, bs_of]
      replace HX := hblk_below HX hb6
      replace hbel := Below.chain hbel hb6
      clear hb6
      obtain ⟨c0, c1, f0, f1⟩ := two_cells HX.out
      go_wp2_with fail
      refine (putShare_any x b w6 (HT.out.below hbel).rounds (by omega)).mono ?_
      rintro e w7 ⟨rfl, hb7⟩
      replace HX := hblk_below HX hb7
      replace hbel := Below.chain hbel hb7
      clear hb7 c0 c1 f0 f1
      cases hp : putShareRes x b.data.toList with
      | some p =>
        obtain ⟨⟨hx1, hx2, hx3⟩, hx4⟩ := putShare_some hp
        have Hgs := Lib.hid (getShare_put hx1 hx2 hx3)
        have hpl2 := putL_len (UInt8.ofNat x.toNat :: b.data.toList) (by simp only [List.length_cons]; omega)
        rw [← hx4] at Hgs hpl2
        clear hp hx4
        simp only [textOr]
        go_wp2_with fail
        refine (getShare_any (bs p) w7 (HT.out.below hbel) (by rw [bs_size]; omega)).mono ?_
        rintro e w8 ⟨rfl, hb8⟩
        rw [bs_data, Hgs.out]
        simp only [shareOr, shareV]
        rw [bs_of]
        replace HX := hblk_below HX hb8
        replace hbel := Below.chain hbel hb8
        clear hb8
        go_wp2_with fail
        refine (arms_any _ ((HT.out.below hbel).below ((Below.refl _ _).alloc (Nat.le_refl _) _))).mono ?_
        rintro e w9 ⟨rfl, hb9⟩
        have hQ := keep_one hb9
        replace HX := hblk_alloc HX hb9
        replace hbel := Below.chain_alloc hbel hb9
        clear hb9
        obtain ⟨c0, c1, _, _⟩ := two_cells HX.out
        obtain ⟨e0, e1, _, _⟩ := two_cells hQ
        clear hQ
        go_wp2_with fail
        go_ret
        exact ⟨rfl, hbel⟩
      | none =>
        clear hp
        simp only [textOr]
        go_wp2_with fail
        refine (getShare_any (bs []) w7 (HT.out.below hbel) (by decide)).mono ?_
        rintro e w8 ⟨rfl, hb8⟩
        rw [getShareRes_nil]
        simp only [shareOr, shareV]
        replace HX := hblk_below HX hb8
        replace hbel := Below.chain hbel hb8
        clear hb8
        go_wp2_with fail
        refine (arms_any _ ((HT.out.below hbel).below ((Below.refl _ _).alloc (Nat.le_refl _) _))).mono ?_
        rintro e w9 ⟨rfl, hb9⟩
        have hQ := keep_one hb9
        replace HX := hblk_alloc HX hb9
        replace hbel := Below.chain_alloc hbel hb9
        clear hb9
        obtain ⟨c0, c1, _, _⟩ := two_cells HX.out
        obtain ⟨e0, e1, _, _⟩ := two_cells hQ
        clear hQ
        go_wp2_with fail
        go_ret
        exact ⟨rfl, hbel⟩
    | none =>
      clear hg
      simp only [textOr]
      go_wp2_with fail
      refine (put_yes (bs []) w5 (HT.out.below hbel).rounds (by decide)).mono ?_
      rintro e w6 ⟨rfl, hb6⟩
      replace HX := hblk_below HX hb6
      replace hbel := Below.chain hbel hb6
      clear hb6
      obtain ⟨c0, c1, f0, f1⟩ := two_cells HX.out
      go_wp2_with fail
      refine (putShare_any x b w6 (HT.out.below hbel).rounds (by omega)).mono ?_
      rintro e w7 ⟨rfl, hb7⟩
      replace HX := hblk_below HX hb7
      replace hbel := Below.chain hbel hb7
      clear hb7 c0 c1 f0 f1
      cases hp : putShareRes x b.data.toList with
      | some p =>
        obtain ⟨⟨hx1, hx2, hx3⟩, hx4⟩ := putShare_some hp
        have Hgs := Lib.hid (getShare_put hx1 hx2 hx3)
        have hpl2 := putL_len (UInt8.ofNat x.toNat :: b.data.toList) (by simp only [List.length_cons]; omega)
        rw [← hx4] at Hgs hpl2
        clear hp hx4
        simp only [textOr]
        go_wp2_with fail
        refine (getShare_any (bs p) w7 (HT.out.below hbel) (by rw [bs_size]; omega)).mono ?_
        rintro e w8 ⟨rfl, hb8⟩
        rw [bs_data, Hgs.out]
        simp only [shareOr, shareV]
        rw [bs_of]
        replace HX := hblk_below HX hb8
        replace hbel := Below.chain hbel hb8
        clear hb8
        go_wp2_with fail
        refine (arms_any _ ((HT.out.below hbel).below ((Below.refl _ _).alloc (Nat.le_refl _) _))).mono ?_
        rintro e w9 ⟨rfl, hb9⟩
        have hQ := keep_one hb9
        replace HX := hblk_alloc HX hb9
        replace hbel := Below.chain_alloc hbel hb9
        clear hb9
        obtain ⟨c0, c1, _, _⟩ := two_cells HX.out
        obtain ⟨e0, e1, _, _⟩ := two_cells hQ
        clear hQ
        go_wp2_with fail
        go_ret
        exact ⟨rfl, hbel⟩
      | none =>
        clear hp
        simp only [textOr]
        go_wp2_with fail
        refine (getShare_any (bs []) w7 (HT.out.below hbel) (by decide)).mono ?_
        rintro e w8 ⟨rfl, hb8⟩
        rw [getShareRes_nil]
        simp only [shareOr, shareV]
        replace HX := hblk_below HX hb8
        replace hbel := Below.chain hbel hb8
        clear hb8
        go_wp2_with fail
        refine (arms_any _ ((HT.out.below hbel).below ((Below.refl _ _).alloc (Nat.le_refl _) _))).mono ?_
        rintro e w9 ⟨rfl, hb9⟩
        have hQ := keep_one hb9
        replace HX := hblk_alloc HX hb9
        replace hbel := Below.chain_alloc hbel hb9
        clear hb9
        obtain ⟨c0, c1, _, _⟩ := two_cells HX.out
        obtain ⟨e0, e1, _, _⟩ := two_cells hQ
        clear hQ
        go_wp2_with fail
        go_ret
        exact ⟨rfl, hbel⟩
  · have d4 : decide ((s.size : Int) ≤ 200) = false := by simp; omega
    go_enter Tryd.func7, Tryd.ntmps7
    go_wp2_with fail
    refine (letters_any s _ (by omega)).mono ?_
    rintro e w1 ⟨rfl, hb1⟩
    have HX := Lib.hid (keep_one hb1)
    have hbel := Below.chain_alloc (Below.refl _ _) hb1
    clear hb1
    go_wp2_with fail
    refine (armBytes_any (bs (lettersL s.data.toList)) w1 (by omega)).mono ?_
    rintro e w2 ⟨rfl, hb2⟩
    rw [bs_data, HL.out]
    simp only [textOr]
    rw [bs_of]
    replace HX := hblk_below HX hb2
    replace hbel := Below.chain hbel hb2
    clear hb2
    generalize bs (lettersL s.data.toList) = q at hql ⊢
    go_wp2_with fail
    refine (put_no s w2 (by omega) (by omega)).mono ?_
    rintro e w3 ⟨rfl, hb3⟩
    replace HX := hblk_below HX hb3
    replace hbel := Below.chain hbel hb3
    clear hb3
    go_wp2_with fail
    refine (get_any (bs []) w3 (HT.out.below hbel) (by decide)).mono ?_
    rintro e w4 ⟨rfl, hb4⟩
    rw [getRes_nil]
    simp only [textOr]
    replace HX := hblk_below HX hb4
    replace hbel := Below.chain hbel hb4
    clear hb4
    go_wp2_with fail
    refine (get_any t w4 (HT.out.below hbel) (by omega)).mono ?_
    rintro e w5 ⟨rfl, hb5⟩
    replace HX := hblk_below HX hb5
    replace hbel := Below.chain hbel hb5
    clear hb5
    cases hg : getRes t.data.toList with
    | some l =>
      obtain ⟨hl1, hl2⟩ := put_get hg
      have Hl2 := Lib.hid hl2
      clear hl2 hg
      simp only [textOr]
      go_wp2_with fail
      refine (put_yes (bs l) w5 (HT.out.below hbel).rounds (by rw [bs_size]; exact hl1)).mono ?_
      rintro e w6 ⟨rfl, hb6⟩
      rw [bs_data, Hl2.out, bs_of]
      replace HX := hblk_below HX hb6
      replace hbel := Below.chain hbel hb6
      clear hb6
      obtain ⟨c0, c1, f0, f1⟩ := two_cells HX.out
      go_wp2_with fail
      refine (putShare_any x b w6 (HT.out.below hbel).rounds (by omega)).mono ?_
      rintro e w7 ⟨rfl, hb7⟩
      replace HX := hblk_below HX hb7
      replace hbel := Below.chain hbel hb7
      clear hb7 c0 c1 f0 f1
      cases hp : putShareRes x b.data.toList with
      | some p =>
        obtain ⟨⟨hx1, hx2, hx3⟩, hx4⟩ := putShare_some hp
        have Hgs := Lib.hid (getShare_put hx1 hx2 hx3)
        have hpl2 := putL_len (UInt8.ofNat x.toNat :: b.data.toList) (by simp only [List.length_cons]; omega)
        rw [← hx4] at Hgs hpl2
        clear hp hx4
        simp only [textOr]
        go_wp2_with fail
        refine (getShare_any (bs p) w7 (HT.out.below hbel) (by rw [bs_size]; omega)).mono ?_
        rintro e w8 ⟨rfl, hb8⟩
        rw [bs_data, Hgs.out]
        simp only [shareOr, shareV]
        rw [bs_of]
        replace HX := hblk_below HX hb8
        replace hbel := Below.chain hbel hb8
        clear hb8
        go_wp2_with fail
        refine (arms_any _ ((HT.out.below hbel).below ((Below.refl _ _).alloc (Nat.le_refl _) _))).mono ?_
        rintro e w9 ⟨rfl, hb9⟩
        have hQ := keep_one hb9
        replace HX := hblk_alloc HX hb9
        replace hbel := Below.chain_alloc hbel hb9
        clear hb9
        obtain ⟨c0, c1, _, _⟩ := two_cells HX.out
        obtain ⟨e0, e1, _, _⟩ := two_cells hQ
        clear hQ
        go_wp2_with fail
        go_ret
        exact ⟨rfl, hbel⟩
      | none =>
        clear hp
        simp only [textOr]
        go_wp2_with fail
        refine (getShare_any (bs []) w7 (HT.out.below hbel) (by decide)).mono ?_
        rintro e w8 ⟨rfl, hb8⟩
        rw [getShareRes_nil]
        simp only [shareOr, shareV]
        replace HX := hblk_below HX hb8
        replace hbel := Below.chain hbel hb8
        clear hb8
        go_wp2_with fail
        refine (arms_any _ ((HT.out.below hbel).below ((Below.refl _ _).alloc (Nat.le_refl _) _))).mono ?_
        rintro e w9 ⟨rfl, hb9⟩
        have hQ := keep_one hb9
        replace HX := hblk_alloc HX hb9
        replace hbel := Below.chain_alloc hbel hb9
        clear hb9
        obtain ⟨c0, c1, _, _⟩ := two_cells HX.out
        obtain ⟨e0, e1, _, _⟩ := two_cells hQ
        clear hQ
        go_wp2_with fail
        go_ret
        exact ⟨rfl, hbel⟩
    | none =>
      clear hg
      simp only [textOr]
      go_wp2_with fail
      refine (put_yes (bs []) w5 (HT.out.below hbel).rounds (by decide)).mono ?_
      rintro e w6 ⟨rfl, hb6⟩
      replace HX := hblk_below HX hb6
      replace hbel := Below.chain hbel hb6
      clear hb6
      obtain ⟨c0, c1, f0, f1⟩ := two_cells HX.out
      go_wp2_with fail
      refine (putShare_any x b w6 (HT.out.below hbel).rounds (by omega)).mono ?_
      rintro e w7 ⟨rfl, hb7⟩
      replace HX := hblk_below HX hb7
      replace hbel := Below.chain hbel hb7
      clear hb7 c0 c1 f0 f1
      cases hp : putShareRes x b.data.toList with
      | some p =>
        obtain ⟨⟨hx1, hx2, hx3⟩, hx4⟩ := putShare_some hp
        have Hgs := Lib.hid (getShare_put hx1 hx2 hx3)
        have hpl2 := putL_len (UInt8.ofNat x.toNat :: b.data.toList) (by simp only [List.length_cons]; omega)
        rw [← hx4] at Hgs hpl2
        clear hp hx4
        simp only [textOr]
        go_wp2_with fail
        refine (getShare_any (bs p) w7 (HT.out.below hbel) (by rw [bs_size]; omega)).mono ?_
        rintro e w8 ⟨rfl, hb8⟩
        rw [bs_data, Hgs.out]
        simp only [shareOr, shareV]
        rw [bs_of]
        replace HX := hblk_below HX hb8
        replace hbel := Below.chain hbel hb8
        clear hb8
        go_wp2_with fail
        refine (arms_any _ ((HT.out.below hbel).below ((Below.refl _ _).alloc (Nat.le_refl _) _))).mono ?_
        rintro e w9 ⟨rfl, hb9⟩
        have hQ := keep_one hb9
        replace HX := hblk_alloc HX hb9
        replace hbel := Below.chain_alloc hbel hb9
        clear hb9
        obtain ⟨c0, c1, _, _⟩ := two_cells HX.out
        obtain ⟨e0, e1, _, _⟩ := two_cells hQ
        clear hQ
        go_wp2_with fail
        go_ret
        exact ⟨rfl, hbel⟩
      | none =>
        clear hp
        simp only [textOr]
        go_wp2_with fail
        refine (getShare_any (bs []) w7 (HT.out.below hbel) (by decide)).mono ?_
        rintro e w8 ⟨rfl, hb8⟩
        rw [getShareRes_nil]
        simp only [shareOr, shareV]
        replace HX := hblk_below HX hb8
        replace hbel := Below.chain hbel hb8
        clear hb8
        go_wp2_with fail
        refine (arms_any _ ((HT.out.below hbel).below ((Below.refl _ _).alloc (Nat.le_refl _) _))).mono ?_
        rintro e w9 ⟨rfl, hb9⟩
        have hQ := keep_one hb9
        replace HX := hblk_alloc HX hb9
        replace hbel := Below.chain_alloc hbel hb9
        clear hb9
        obtain ⟨c0, c1, _, _⟩ := two_cells HX.out
        obtain ⟨e0, e1, _, _⟩ := two_cells hQ
        clear hQ
        go_wp2_with fail
        go_ret
        exact ⟨rfl, hbel⟩
end Go.Proofs.YtkeeejkijbaooaaDoor
