/-
  The walk of the law ArmourLetters.
-/
import Derived.Test.YtkeeejkijbaooaaDoorArms
import Derived.Test.YtkeeejkijbaooaaDoorRefBytes
namespace Go.Proofs.YtkeeejkijbaooaaDoor
open Go.RowKit
set_option linter.unusedVariables false

set_option maxHeartbeats 1000000 in
set_option maxRecDepth 100000 in
theorem armourLetters_law (s : ByteArray) (hs : s.size ≤ maxLen) (t : ByteArray) (ht : t.size ≤ maxLen) (w : World) (hT : ArmTabs w) :
    Calls Tryd.prog 5 #[.string s, .string t] w fun e w' => e = .returned (.bool true) ∧ Below w.heap.size w w' := by
  unfold maxLen at hs ht
  have HT := Lib.hid hT
  clear hT
  by_cases h1 : 600 < s.size
  · go_enter Tryd.func5, Tryd.ntmps5
    go_wp2_with fail
    go_ret
    exact ⟨rfl, Below.refl _ _⟩
  have d1 : decide (600 < (s.size : Int)) = false := by simp; omega
  by_cases h2 : 600 < t.size
  · go_enter Tryd.func5, Tryd.ntmps5
    go_wp2_with fail
    go_ret
    exact ⟨rfl, Below.refl _ _⟩
  have d2 : decide (600 < (t.size : Int)) = false := by simp; omega
  have hs6 : s.size ≤ 600 := by omega
  have ht6 : t.size ≤ 600 := by omega
  clear h1 h2 hs ht
  go_enter Tryd.func5, Tryd.ntmps5
  go_wp2_with fail
  refine (armBytes_any t w (by omega)).mono ?_
  rintro e w1 ⟨rfl, hb⟩
  cases hr : bytesRes t.data.toList with
  | none =>
    have Hr := Lib.hid hr
    clear hr
    simp only [textOr]
    go_wp2_with fail
    refine (refBytes_any t w1 (by omega)).mono ?_
    rintro e w2 ⟨rfl, hb2⟩
    rw [Hr.out]
    simp only [textOr]
    replace hb := Below.chain hb hb2
    clear hb2
    go_wp2_with fail
    refine (arms_any w2 (HT.out.below hb)).mono ?_
    rintro e w3 ⟨rfl, hb3⟩
    replace hb := Below.chain hb hb3
    clear hb3
    go_wp2_with fail
    refine (letters_any s w3 (by omega)).mono ?_
    rintro e w4 ⟨rfl, hb4⟩
    replace hb := Below.chain hb hb4
    clear hb4
    go_wp2_with fail
    refine (refLetters_any s w4 (by omega)).mono ?_
    rintro e w5 ⟨rfl, hb5⟩
    replace hb := Below.chain hb hb5
    clear hb5
    generalize bs (lettersL s.data.toList) = q
    go_wp2_with fail
    go_ret
    exact ⟨rfl, hb⟩
  | some l =>
    have Hr := Lib.hid hr
    clear hr
    simp only [textOr]
    go_wp2_with fail
    refine (refBytes_any t w1 (by omega)).mono ?_
    rintro e w2 ⟨rfl, hb2⟩
    rw [Hr.out]
    simp only [textOr]
    generalize bs l = bl
    replace hb := Below.chain hb hb2
    clear hb2
    go_wp2_with fail
    refine (arms_any w2 (HT.out.below hb)).mono ?_
    rintro e w3 ⟨rfl, hb3⟩
    replace hb := Below.chain hb hb3
    clear hb3
    go_wp2_with fail
    refine (letters_any s w3 (by omega)).mono ?_
    rintro e w4 ⟨rfl, hb4⟩
    replace hb := Below.chain hb hb4
    clear hb4
    go_wp2_with fail
    refine (refLetters_any s w4 (by omega)).mono ?_
    rintro e w5 ⟨rfl, hb5⟩
    replace hb := Below.chain hb hb5
    clear hb5
    generalize bs (lettersL s.data.toList) = q
    go_wp2_with fail
    go_ret
    exact ⟨rfl, hb⟩
end Go.Proofs.YtkeeejkijbaooaaDoor
