/-
  Contracts of owner.Chosen (whatever the record), owner.Unlock.
-/
import Derived.Test.YtkbjmmigjjdfpaaGreatDoorOv
import Derived.Test.YtkbjmmigjjdfpaaGreatDoorAt
namespace Go.Proofs.YtkbjmmigjjdfpaaGreatDoor
open Go.RowKit
set_option linter.unusedVariables false
set_option linter.unusedSimpArgs false
set_option maxRecDepth 100000
set_option maxHeartbeats 2000000

theorem chosen_any (v0 v1 v2 v3 : Value) (r : Rec) (A : Option Addr) (m c : Nat) (ls : List Ans) (w : World) (hv : RV w (.agg #[v0, v1, v2, v3]) r) (hr : Rd w A (answersV ls)) (hm : m = ls.length) (hl : m ≤ 1000) (hR : Rounds w) :
    Calls Tryz.prog 28 #[.agg #[v0, v1, v2, v3], .slice A m c] w (SharesR w (chosenL r ls)) := by
  cases hc : checkR r with
  | true =>
    rw [chosenL, if_pos hc]
    exact chosen_yes v0 v1 v2 v3 r A m c ls w hv hr hm hl hR hc
  | false =>
    rw [show chosenL r ls = [] by rw [chosenL, hc]; rfl]
    have HV := Lib.hid hv
    have HC := Lib.hid (fun W h => ch_any (.agg #[v0, v1, v2, v3]) r W h)
    rw [hc] at HC
    have hW := (Below.refl w.heap.size w).alloc (Nat.le_refl _) (.cells #[v0, v1, v2, v3] 26)
    have HW := Lib.hid hW
    clear hv hr hm hl hR hc hW
    refine (callsIn_wide (n := 4)).1 ?_
    refine callsIn_of_wp_marks Tryz.func28 rfl trivial ?_ rfl
    simp only [Tryz.ntmps28, List.size_toArray, List.length_cons, List.length_nil, Nat.reduceAdd, Nat.reduceSub, Array.replicate_succ, Array.replicate_zero, List.push_toArray, List.append_toArray, List.nil_append, List.cons_append]
    gi_wp2
    refine wpIn_wide.2 (wp_scope_straight ((wpIn_wide (n := 4)).1 ?_))
    gi_wp2_with (refine ⟨trivial, ?_⟩; gi_at_call 27; refine (callsIn_wide.2 (HC.out _ (HV.out.below HW.out))).mono ?_; rintro e w1 ⟨rfl, hb1⟩; have HW1 := Lib.hid (HW.out.trans (hb1.mono HW.out.size)); clear hb1)
    exact ⟨_, results_tmp rfl _ _ _, none, 0, 0, rfl, rfl, Rd.nil _ _, HW1.out⟩
/-- Unlock: the error's number, and the master. -/
def unlE (r : Rec) (ls : List Ans) (wp : ByteArray) : Nat := if checkR r = false then 180 else if ((chosenL r ls).length : Int) < r.k then 220 else if rightB (chosenL r ls) 1 = false then 90 else unwrapE (bs (atL (chosenL r ls) 0)) wp
def unlS (r : Rec) (ls : List Ans) (wp : ByteArray) : ByteArray := if checkR r = false then ⟨#[]⟩ else if ((chosenL r ls).length : Int) < r.k then ⟨#[]⟩ else if rightB (chosenL r ls) 1 = false then ⟨#[]⟩ else unwrapS (bs (atL (chosenL r ls) 0)) wp
def TextE (w : World) (s : ByteArray) (n : Nat) (e : Ending) (w' : World) : Prop := e = .returned (.tuple #[.string s, .int .i64 (n : Nat)]) ∧ Below w.heap.size w w'
theorem atL_len (l : List Shr) (x : UInt8) : (atL l x).length = 32 := by simp [atL]
theorem unlock_any (v : Value) (r : Rec) (A : Option Addr) (m c : Nat) (ls : List Ans) (wp : ByteArray) (w : World) (hv : RV w v r) (hr : Rd w A (answersV ls)) (hm : m = ls.length) (hl : m ≤ 1000) (hR : Rounds w) (hT : Turns w) :
    Calls Tryz.prog 13 #[v, .slice A m c, .string wp] w (TextE w (unlS r ls wp) (unlE r ls wp)) := by
  have HV := Lib.hid hv
  obtain ⟨A1, n1, c1, A2, n2, c2, rfl, hA1, hn1, hA2, hn2⟩ := hv
  have HC := Lib.hid (fun W h => ch_any (.agg #[.int .i64 r.e, .int .i64 r.k, .slice A1 n1 c1, .slice A2 n2 c2]) r W h)
  have HS := Lib.hid (fun W h1 h2 h3 => chosen_any (.int .i64 r.e) (.int .i64 r.k) (.slice A1 n1 c1) (.slice A2 n2 c2) r A m c ls W h1 h2 hm hl h3)
  have HRd := Lib.hid hr
  have HR := Lib.hid hR
  have HT := Lib.hid hT
  have hW := (Below.refl w.heap.size w).alloc (Nat.le_refl _) (.cells #[.int .i64 r.e, .int .i64 r.k, .slice A1 n1 c1, .slice A2 n2 c2] 26)
  have hX := heap_alloc_new w (.cells #[.int .i64 r.e, .int .i64 r.k, .slice A1 n1 c1, .slice A2 n2 c2] 26)
  have HW := Lib.hid hW
  have HX := Lib.hid hX
  clear hA1 hn1 hA2 hn2 hr hR hT hW hX hm
  have HE := Lib.hid (show unlE r ls wp = if checkR r = false then 180 else if ((chosenL r ls).length : Int) < r.k then 220 else if rightB (chosenL r ls) 1 = false then 90 else unwrapE (bs (atL (chosenL r ls) 0)) wp from rfl)
  have HSS := Lib.hid (show unlS r ls wp = if checkR r = false then ⟨#[]⟩ else if ((chosenL r ls).length : Int) < r.k then ⟨#[]⟩ else if rightB (chosenL r ls) 1 = false then ⟨#[]⟩ else unwrapS (bs (atL (chosenL r ls) 0)) wp from rfl)
  have Hch16 := Lib.hid (show checkR r = true → (chosenL r ls).length ≤ 16 from fun h => by
    have h1 := (check_head h).2.2.2.1
    rw [chosenL, if_pos h]
    have h2 := List.length_filterMap_le (firstF r ls) (r.ns.take r.ns.length)
    rw [List.length_take] at h2 ⊢
    unfold firstsL
    omega)
  generalize unlE r ls wp = ue at HE ⊢
  generalize unlS r ls wp = us at HSS ⊢
  generalize chosenL r ls = ch at HS HE HSS Hch16
  cases hc : checkR r with
  | false =>
    rw [hc] at HC HE HSS
    rw [HE.out, HSS.out, if_pos rfl, if_pos rfl]
    clear hc HE HSS Hch16
    go_enter Tryz.func13, Tryz.ntmps13
    go_wp2_with fail
    refine (HC.out _ (HV.out.below HW.out)).mono ?_
    rintro e w1 ⟨rfl, hb1⟩
    have b1 := HW.out.trans (hb1.mono HW.out.size)
    have q0 := rf_at (cells_below HX.out hb1) 0 _ rfl
    have q1 := rf_at (cells_below HX.out hb1) 1 _ rfl
    have q2 := rf_at (cells_below HX.out hb1) 2 _ rfl
    have q3 := rf_at (cells_below HX.out hb1) 3 _ rfl
    have HB1 := Lib.hid b1
    clear hb1 b1
    go_wp2_with fail
    refine (HS.out _ (HV.out.below HB1.out) (HRd.out.below HB1.out) (HR.out.below HB1.out)).mono ?_
    rintro e w2 ⟨B, n, cap, rfl, hn, hrd, hb2⟩
    have HB2 := Lib.hid (Below.chain HB1.out hb2)
    clear hn hrd hb2 q0 q1 q2 q3
    go_wp2_with fail
    go_ret2
    exact ⟨rfl, HB2.out⟩
  | true =>
    rw [hc] at HC HE HSS
    have hch := Hch16.out hc
    rw [if_neg (show ¬ true = false by simp)] at HE HSS
    clear hc Hch16
    by_cases hK : (ch.length : Int) < r.k
    · have d1 : decide ((ch.length : Int) < r.k) = true := by simpa using hK
      rw [HE.out, HSS.out, if_pos hK, if_pos hK]
      clear HE HSS hK
      go_enter Tryz.func13, Tryz.ntmps13
      go_wp2_with fail
      refine (HC.out _ (HV.out.below HW.out)).mono ?_
      rintro e w1 ⟨rfl, hb1⟩
      have b1 := HW.out.trans (hb1.mono HW.out.size)
      have X1 := Lib.hid (cells_below HX.out hb1)
      have q0 := rf_at X1.out 0 _ rfl
      have q1 := rf_at X1.out 1 _ rfl
      have q2 := rf_at X1.out 2 _ rfl
      have q3 := rf_at X1.out 3 _ rfl
      have HB1 := Lib.hid b1
      clear hb1 b1
      go_wp2_with fail
      refine (HS.out _ (HV.out.below HB1.out) (HRd.out.below HB1.out) (HR.out.below HB1.out)).mono ?_
      rintro e w2 ⟨B, n, cap, rfl, rfl, hrd, hb2⟩
      have HB2 := Lib.hid (Below.chain HB1.out hb2)
      have q4 := rf_at (cells_below X1.out hb2) 1 _ rfl
      clear hrd hb2 q0 q1 q2 q3
      go_wp2_with fail
      go_ret2
      exact ⟨rfl, HB2.out⟩
    · have d1 : decide ((ch.length : Int) < r.k) = false := by simpa using hK
      rw [if_neg hK] at HE HSS
      clear hK
      cases hrt : rightB ch 1 with
      | false =>
        rw [hrt, if_pos rfl] at HE HSS
        rw [HE.out, HSS.out]
        have HCo := Lib.hid (fun A c W h => combine_no ch A ch.length c W h rfl hrt)
        clear HE HSS hrt
        go_enter Tryz.func13, Tryz.ntmps13
        go_wp2_with fail
        refine (HC.out _ (HV.out.below HW.out)).mono ?_
        rintro e w1 ⟨rfl, hb1⟩
        have b1 := HW.out.trans (hb1.mono HW.out.size)
        have X1 := Lib.hid (cells_below HX.out hb1)
        have q0 := rf_at X1.out 0 _ rfl
        have q1 := rf_at X1.out 1 _ rfl
        have q2 := rf_at X1.out 2 _ rfl
        have q3 := rf_at X1.out 3 _ rfl
        have HB1 := Lib.hid b1
        clear hb1 b1
        go_wp2_with fail
        refine (HS.out _ (HV.out.below HB1.out) (HRd.out.below HB1.out) (HR.out.below HB1.out)).mono ?_
        rintro e w2 ⟨B, n, cap, rfl, rfl, hrd, hb2⟩
        have HB2 := Lib.hid (Below.chain HB1.out hb2)
        have Hrd := Lib.hid hrd
        have q4 := rf_at (cells_below X1.out hb2) 1 _ rfl
        clear hrd hb2 q0 q1 q2 q3
        go_wp2_with fail
        refine (HCo.out _ _ _ Hrd.out).mono ?_
        rintro e w3 ⟨rfl, hb3⟩
        have HB3 := Lib.hid (Below.chain HB2.out hb3)
        clear hb3
        go_wp2_with fail
        go_ret2
        exact ⟨rfl, HB3.out⟩
      | true =>
        rw [hrt, if_neg (show ¬ true = false by simp)] at HE HSS
        rw [HE.out, HSS.out]
        have HCo := Lib.hid (fun A c W h => combine_yes ch A ch.length c W h rfl hrt)
        have HU := Lib.hid (fun W h => unwrap_any (bs (atL ch 0)) wp W h (by rw [bs_size, atL_len]; decide))
        generalize bs (atL ch 0) = sec at HCo HU
        generalize unwrapE sec wp = ee at HU
        generalize unwrapS sec wp = se at HU
        clear HE HSS hrt
        go_enter Tryz.func13, Tryz.ntmps13
        go_wp2_with fail
        refine (HC.out _ (HV.out.below HW.out)).mono ?_
        rintro e w1 ⟨rfl, hb1⟩
        have b1 := HW.out.trans (hb1.mono HW.out.size)
        have X1 := Lib.hid (cells_below HX.out hb1)
        have q0 := rf_at X1.out 0 _ rfl
        have q1 := rf_at X1.out 1 _ rfl
        have q2 := rf_at X1.out 2 _ rfl
        have q3 := rf_at X1.out 3 _ rfl
        have HB1 := Lib.hid b1
        clear hb1 b1
        go_wp2_with fail
        refine (HS.out _ (HV.out.below HB1.out) (HRd.out.below HB1.out) (HR.out.below HB1.out)).mono ?_
        rintro e w2 ⟨B, n, cap, rfl, rfl, hrd, hb2⟩
        have HB2 := Lib.hid (Below.chain HB1.out hb2)
        have Hrd := Lib.hid hrd
        have q4 := rf_at (cells_below X1.out hb2) 1 _ rfl
        clear hrd hb2 q0 q1 q2 q3
        go_wp2_with fail
        refine (HCo.out _ _ _ Hrd.out).mono ?_
        rintro e w3 ⟨rfl, hb3⟩
        have HB3 := Lib.hid (Below.chain HB2.out hb3)
        clear hb3
        go_wp2_with fail
        refine (HU.out _ (HT.out.below HB3.out)).mono ?_
        rintro e w4 ⟨rfl, hb4⟩
        have HB4 := Lib.hid (Below.chain HB3.out hb4)
        clear hb4
        go_wp2_with fail
        go_ret2
        exact ⟨rfl, HB4.out⟩
end Go.Proofs.YtkbjmmigjjdfpaaGreatDoor
