/-
  Contract of armour.Get.
-/
import Derived.Test.YtidnlginjjgmjaaDoorGet
namespace Go.Proofs.YtidnlginjjgmjaaDoor
open Go.RowKit
set_option linter.unusedVariables false

/-- What the functions of package armour read of package-level variables. -/
structure ArmTabs (w : World) : Prop where
  rounds : Rounds w
  maxLen : ∃ m, w.cell? ⟨1, 0, none⟩ = some (.int .i64 m)
theorem ArmTabs.below {w w' : World} (h : ArmTabs w) (hb : Below w.heap.size w w') : ArmTabs w' := by
  obtain ⟨m, hm⟩ := h.maxLen
  exact ⟨h.rounds.below hb, m, (hb.cell (cell_lt hm)).trans hm⟩
theorem bs_toList (l : List UInt8) : (bs l).toList = l := by rw [ByteArray.toList_eq, bs_data]
theorem data_toList (s : ByteArray) : s.toList = s.data.toList := by rw [ByteArray.toList_eq]
theorem noDash_len (l : List UInt8) : (noDash l).length ≤ l.length := List.length_filter_le _ _

set_option maxHeartbeats 1000000 in
theorem get_any (s : ByteArray) (w : World) (hT : ArmTabs w) (hs : s.size ≤ 1000000) :
    Calls Tryd.prog 16 #[.string s] w fun e w' => e = .returned (textOr 100 (getRes s.data.toList)) ∧ Below w.heap.size w w' := by
  have HT := Lib.hid hT
  obtain ⟨m, hm⟩ := hT.maxLen
  have Hm := Lib.hid hm
  have hg : getRes s.data.toList = match bytesRes (noDash s.data.toList) with
      | none => none
      | some b => if 3 ≤ b.length ∧ b.length - 3 ≤ 200 ∧ putL (b.take (b.length - 3)) = s.data.toList then some (b.take (b.length - 3)) else none := rfl
  clear hT hm
  have hc := Lib.countB_mul_le (bs [45]) (by decide) s.size s (Nat.le_refl _)
  have hnd := noDash_len s.data.toList
  rw [len_data] at hnd
  have Hc := Lib.hid hc
  clear hc
  cases hb : bytesRes (noDash s.data.toList) with
  | none =>
    rw [hb] at hg
    have Hg := Lib.hid hg
    have Hb := Lib.hid hb
    clear hg hb
    go_enter Tryd.func16, Tryd.ntmps16
    go_wp2_with fail
    refine (replaceAll_b s (bs [45]) (bs []) m w (by omega) Hm.out (by decide) (by rw [bs_size]; simp; omega)).mono ?_
    rintro e w1 ⟨rfl, hb1⟩
    rw [show (⟨(Lib.replaceAll s.data.toList (bs [45]).data.toList (bs []).data.toList).toArray⟩ : ByteArray) = bs (noDash s.data.toList) by rw [← replace_dash]; rfl]
    go_wp2_with fail
    refine (armBytes_any (bs (noDash s.data.toList)) w1 (by rw [bs_size]; omega)).mono ?_
    rintro e w2 ⟨rfl, hb2⟩
    rw [bs_data, Hb.out]
    have HB := Lib.hid (Below.chain hb1 hb2)
    clear hb1 hb2
    simp only [textOr]
    go_wp2_with fail
    go_ret2
    exact ⟨by rw [Hg.out]; rfl, HB.out⟩
  | some b =>
    rw [hb] at hg
    have Hg := Lib.hid hg
    have Hb := Lib.hid hb
    have hbl : b.length ≤ 10000000 := by
      have h := hb
      unfold bytesRes at h
      split at h
      · obtain rfl := Option.some.inj h
        rw [List.length_map]
        refine Nat.le_trans (grp_length_le 8 _) ?_
        rw [flat_length, valsOf, List.length_map]
        omega
      · cases h
    clear hg hb
    go_enter Tryd.func16, Tryd.ntmps16
    go_wp2_with fail
    refine (replaceAll_b s (bs [45]) (bs []) m w (by omega) Hm.out (by decide) (by rw [bs_size]; simp; omega)).mono ?_
    rintro e w1 ⟨rfl, hb1⟩
    rw [show (⟨(Lib.replaceAll s.data.toList (bs [45]).data.toList (bs []).data.toList).toArray⟩ : ByteArray) = bs (noDash s.data.toList) by rw [← replace_dash]; rfl]
    go_wp2_with fail
    refine (armBytes_any (bs (noDash s.data.toList)) w1 (by rw [bs_size]; omega)).mono ?_
    rintro e w2 ⟨rfl, hb2⟩
    rw [bs_data, Hb.out]
    replace HT := Lib.hid (HT.out.below (Below.chain hb1 hb2))
    have HB := Lib.hid (Below.chain hb1 hb2)
    clear hb1 hb2
    simp only [textOr]
    obtain ⟨bb, hbb⟩ : ∃ bb, bb = bs b := ⟨_, rfl⟩
    have hbs : bb.size = b.length := by rw [hbb, bs_size]
    have Hbb := Lib.hid hbb
    rw [← hbb]
    clear hbb
    by_cases h3 : 3 ≤ b.length
    · have h3' : 3 ≤ bb.size := by omega
      have Hbs := Lib.hid hbs
      have hbl' : bb.size ≤ 10000000 := by omega
      obtain ⟨k, hk⟩ : ∃ k, k = bb.size - 3 := ⟨_, rfl⟩
      have hsub : (bb.size : Int) - 3 = (k : Int) := by omega
      have Hk := Lib.hid hk
      have hkl : k ≤ bb.size := by omega
      clear hbs hk
      go_wp2_with fail
      have hx : bb.extract 0 k = bs (b.take (b.length - 3)) := by
        rw [extract_bs, List.drop_zero, Hbb.out, bs_data, Hk.out, Hbs.out]
      rw [hx]
      have hkb : k = b.length - 3 := by have := Hk.out; have := Hbs.out; omega
      have Hkb := Lib.hid hkb
      clear hx hkb
      by_cases h200 : k ≤ 200
      · refine (put_yes (bs (b.take (b.length - 3))) w2 HT.out.rounds (by rw [bs_size, List.length_take]; have := Hkb.out; omega)).mono ?_
        rintro e w3 ⟨rfl, hb3⟩
        replace HB := Lib.hid (Below.chain HB.out hb3)
        clear hb3
        rw [bs_data]
        by_cases he : putL (b.take (b.length - 3)) = s.data.toList
        · rw [show bs (putL (b.take (b.length - 3))) = s by rw [he]; rfl]
          go_wp2_with fail
          go_ret2
          refine ⟨?_, HB.out⟩
          rw [Hg.out, if_pos ⟨h3, by have := Hkb.out; omega, he⟩]
          rfl
        · have hne : ((bs (putL (b.take (b.length - 3)))).toList == s.toList) = false := text_ne' fun e => he (by rw [← e]; rfl)
          go_wp2_with fail
          go_ret2
          refine ⟨?_, HB.out⟩
          rw [Hg.out, if_neg (fun h => he h.2.2)]
          rfl
      · refine (put_no (bs (b.take (b.length - 3))) w2 (by rw [bs_size, List.length_take]; have := Hkb.out; omega) (by rw [bs_size, List.length_take]; omega)).mono ?_
        rintro e w3 ⟨rfl, hb3⟩
        replace HB := Lib.hid (Below.chain HB.out hb3)
        clear hb3
        go_wp2_with fail
        go_ret2
        refine ⟨?_, HB.out⟩
        rw [Hg.out, if_neg (fun h => h200 (by have := Hkb.out; omega))]
        rfl
    · have h3' : bb.size < 3 := by omega
      clear hbs
      go_wp2_with fail
      go_ret2
      refine ⟨?_, HB.out⟩
      rw [Hg.out, if_neg (fun h => h3 h.1)]
      rfl
end Go.Proofs.YtidnlginjjgmjaaDoor
