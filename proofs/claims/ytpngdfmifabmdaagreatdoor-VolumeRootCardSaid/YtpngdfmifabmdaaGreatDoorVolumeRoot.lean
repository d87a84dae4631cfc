/-
  The walk of the law VolumeRoot.
-/
import Derived.Test.YtpngdfmifabmdaaGreatDoorVols
import Derived.Test.YtpngdfmifabmdaaGreatDoorCol
import Derived.BigQuiet
namespace Go.Proofs.YtpngdfmifabmdaaGreatDoor
open Go.RowKit
set_option linter.unusedVariables false
set_option linter.unusedSimpArgs false
set_option maxRecDepth 100000
set_option maxHeartbeats 4000000

theorem fit_of {v : Vol} {key : ByteArray} {i : Int} (h1 : readE v key i ≠ 161) (h2 : readE v key i ≠ 160) (h3 : readE v key i ≠ 1) : fitE v (hasV v i) = 0 := by
  by_cases h : fitE v (hasV v i) = 0
  · exact h
  · have e : readE v key i = fitE v (hasV v i) := by unfold readE; rw [if_pos h]
    rw [e] at h1 h2 h3
    unfold fitE at h h1 h2 h3
    split at h
    · rename_i hc; rw [if_pos hc] at h2; exact absurd rfl h2
    · rename_i hc
      rw [if_neg hc] at h1 h2 h3
      split at h
      · rename_i hd; rw [if_pos hd] at h3; exact absurd rfl h3
      · rename_i hd
        rw [if_neg hd] at h1 h2 h3
        split at h
        · exact absurd rfl h
        · rename_i he; rw [if_neg he] at h1; exact absurd rfl h1
theorem volumeRoot_law (v : Value) (V : Vol) (hvl : V.bl.length ≤ maxLen) (A2 : Option Addr) (n2 c2 : Nat) (bs : List ByteArray) (hn2 : n2 = bs.length) (hbl : bs.length ≤ maxLen) (hzb : ∀ s ∈ bs, s.size ≤ maxLen) (key : ByteArray) (hzk : key.size ≤ maxLen) (i : Int) (w : World) (hT : Turns w) (hR : Rounds w) (hv : VV w v V) (hr2 : Rd w A2 (textsV bs)) :
    Calls Tryz.prog 3 #[v, .slice A2 n2 c2, .string key, .int .i64 i] w fun e w' => e = .returned (.bool true) ∧ Below w.heap.size w w' := by
  have HV := Lib.hid hv
  obtain ⟨A, n, c, rfl, hr, hn⟩ := hv
  have HBg := Lib.hid (fun W h => big16_any (.agg #[.slice A n c, .string V.rt]) V W h hvl)
  have HBg2 := Lib.hid (fun W h => big16_any (.agg #[.slice A2 n2 c2, .string ⟨#[]⟩]) ⟨bs, ⟨#[]⟩⟩ W h hbl)
  have HRe := Lib.hid (fun W h h1 h2 => read_any (.agg #[.slice A n c, .string V.rt]) V key i W h hzk h1 h2)
  have HRe2 := Lib.hid (fun W h h1 h2 => read_any (.agg #[.slice A2 n2 c2, .string V.rt]) ⟨bs, V.rt⟩ key i W h hzk h1 h2)
  have HVl := Lib.hid (fun W h1 h2 => volumes_any W h1 h2)
  have HR := Lib.hid hR
  have HT := Lib.hid hT
  have HN := Lib.hid hn
  have HN2 := Lib.hid hn2
  have HRd := Lib.hid hr
  have HRd2 := Lib.hid hr2
  have HV0 := Lib.hid (show ∀ W, Below w.heap.size w W → VV W (.agg #[.slice A2 n2 c2, .string ⟨#[]⟩]) ⟨bs, ⟨#[]⟩⟩ from fun W h => ⟨A2, n2, c2, rfl, hr2.below h, hn2⟩)
  have HV2 := Lib.hid (show ∀ W, Below w.heap.size w W → VV W (.agg #[.slice A2 n2 c2, .string V.rt]) ⟨bs, V.rt⟩ from fun W h => ⟨A2, n2, c2, rfl, hr2.below h, hn2⟩)
  have HX := Lib.hid (heap_alloc_new w (.cells #[.slice A n c, .string V.rt] 24))
  have HB := Lib.hid ((Below.refl w.heap.size w).alloc (Nat.le_refl _) (.cells #[.slice A n c, .string V.rt] 24))
  have hnm : n ≤ 9223372036854775807 := by unfold maxLen at hvl; omega
  have hnm2 : n2 ≤ 9223372036854775807 := by unfold maxLen at hbl; omega
  have hkm : key.size ≤ 9223372036854775807 := by unfold maxLen at hzk; omega
  have Hfit := Lib.hid (fun h1 h2 h3 => fit_of (v := V) (key := key) (i := i) h1 h2 h3)
  have Hfit2 := Lib.hid (fun h1 h2 h3 => fit_of (v := ⟨bs, V.rt⟩) (key := key) (i := i) h1 h2 h3)
  have Hsame := Lib.hid (show V.bl = bs → readE V key i = readE ⟨bs, V.rt⟩ key i from fun e => by subst e; rfl)
  clear hR hT hr hn hvl hzk hr2 hn2 hbl
  generalize readE V key i = e1 at HRe Hfit Hsame
  generalize readE ⟨bs, V.rt⟩ key i = e2 at HRe2 Hfit2 Hsame
  generalize readS V key i = s1 at HRe
  generalize readS ⟨bs, V.rt⟩ key i = s2 at HRe2
  have x0 := rf_at HX.out 0 _ rfl
  have x1 := rf_at HX.out 1 _ rfl
  go_enter Tryz.func3, Tryz.ntmps3
  go_wp2_with fail
  refine (HBg.out _ (HV.out.below HB.out)).mono ?_
  rintro e w1 ⟨b1, rfl, hb1⟩
  replace HX := Lib.hid (cells_below HX.out hb1)
  replace HB := Lib.hid (HB.out.trans (hb1.mono HB.out.size))
  clear hb1 x0 x1
  cases b1 with
  | true =>
    go_wp2_with fail
    go_ret
    exact ⟨rfl, HB.out⟩
  | false =>
  go_wp2_with fail
  refine (HBg2.out _ (HV0.out _ HB.out)).mono ?_
  rintro e w2 ⟨b2, rfl, hb2⟩
  replace HX := Lib.hid (cells_below HX.out hb2)
  replace HB := Lib.hid (HB.out.trans (hb2.mono HB.out.size))
  clear hb2
  cases b2 with
  | true =>
    go_wp2_with fail
    go_ret
    exact ⟨rfl, HB.out⟩
  | false =>
  by_cases hk : 100 < key.size
  case pos =>
    have d0 : decide ((key.size : Int) > 100) = true := decide_eq_true (by omega)
    go_wp2_with fail
    go_ret
    exact ⟨rfl, HB.out⟩
  have d0 : decide ((key.size : Int) > 100) = false := decide_eq_false (by omega)
  have x0 := rf_at HX.out 0 _ rfl
  have x1 := rf_at HX.out 1 _ rfl
  go_wp2_with fail
  refine (HRe.out _ (HV.out.below HB.out) (HR.out.below HB.out) (HT.out.below HB.out)).mono ?_
  rintro e w3 ⟨rfl, hb3⟩
  replace HX := Lib.hid (cells_below HX.out hb3)
  replace HB := Lib.hid (HB.out.trans (hb3.mono HB.out.size))
  clear hb3 x0 x1
  have x0 := rf_at HX.out 0 _ rfl
  have x1 := rf_at HX.out 1 _ rfl
  go_wp2_with fail
  refine (HRe2.out _ (HV2.out _ HB.out) (HR.out.below HB.out) (HT.out.below HB.out)).mono ?_
  rintro e w4 ⟨rfl, hb4⟩
  replace HX := Lib.hid (cells_below HX.out hb4)
  replace HB := Lib.hid (HB.out.trans (hb4.mono HB.out.size))
  clear hb4 x0 x1
  by_cases r0 : e1 = 161
  case pos =>
    have d1 : ((e1 : Int) == 161) = true := by simp; omega
    go_wp2_with fail
    refine (HVl.out _ (HR.out.below HB.out) (HT.out.below HB.out)).mono ?_
    rintro e w5 ⟨rfl, hb5⟩
    go_wp2_with fail
    go_ret
    exact ⟨rfl, HB.out.trans (hb5.mono HB.out.size)⟩
  have d1 : ((e1 : Int) == 161) = false := by simp; omega
  by_cases r1 : e1 = 160
  case pos =>
    have d2 : ((e1 : Int) == 160) = true := by simp; omega
    go_wp2_with fail
    refine (HVl.out _ (HR.out.below HB.out) (HT.out.below HB.out)).mono ?_
    rintro e w5 ⟨rfl, hb5⟩
    go_wp2_with fail
    go_ret
    exact ⟨rfl, HB.out.trans (hb5.mono HB.out.size)⟩
  have d2 : ((e1 : Int) == 160) = false := by simp; omega
  by_cases r2 : e1 = 1
  case pos =>
    have d3 : ((e1 : Int) == 1) = true := by simp; omega
    go_wp2_with fail
    refine (HVl.out _ (HR.out.below HB.out) (HT.out.below HB.out)).mono ?_
    rintro e w5 ⟨rfl, hb5⟩
    go_wp2_with fail
    go_ret
    exact ⟨rfl, HB.out.trans (hb5.mono HB.out.size)⟩
  have d3 : ((e1 : Int) == 1) = false := by simp; omega
  by_cases r3 : e2 = 161
  case pos =>
    have d4 : ((e2 : Int) == 161) = true := by simp; omega
    go_wp2_with fail
    refine (HVl.out _ (HR.out.below HB.out) (HT.out.below HB.out)).mono ?_
    rintro e w5 ⟨rfl, hb5⟩
    go_wp2_with fail
    go_ret
    exact ⟨rfl, HB.out.trans (hb5.mono HB.out.size)⟩
  have d4 : ((e2 : Int) == 161) = false := by simp; omega
  by_cases r4 : e2 = 160
  case pos =>
    have d5 : ((e2 : Int) == 160) = true := by simp; omega
    go_wp2_with fail
    refine (HVl.out _ (HR.out.below HB.out) (HT.out.below HB.out)).mono ?_
    rintro e w5 ⟨rfl, hb5⟩
    go_wp2_with fail
    go_ret
    exact ⟨rfl, HB.out.trans (hb5.mono HB.out.size)⟩
  have d5 : ((e2 : Int) == 160) = false := by simp; omega
  by_cases r5 : e2 = 1
  case pos =>
    have d6 : ((e2 : Int) == 1) = true := by simp; omega
    go_wp2_with fail
    refine (HVl.out _ (HR.out.below HB.out) (HT.out.below HB.out)).mono ?_
    rintro e w5 ⟨rfl, hb5⟩
    go_wp2_with fail
    go_ret
    exact ⟨rfl, HB.out.trans (hb5.mono HB.out.size)⟩
  have d6 : ((e2 : Int) == 1) = false := by simp; omega
  obtain ⟨c1, ct1, c3⟩ := fit_zero (Hfit.out r0 r1 r2)
  obtain ⟨c4, ct2, c6⟩ := fit_zero (Hfit2.out r3 r4 r5)
  obtain ⟨p1, p2, p3⟩ := vol_parts c1
  obtain ⟨p4, p5, p6⟩ := vol_parts c4
  simp only at p4 p6 c6
  have x0 := rf_at HX.out 0 _ rfl
  have x1 := rf_at HX.out 1 _ rfl
  have hl64 := (count_le p1).2
  have HTx := Lib.hid (fun W h1 h2 => texts_any V.bl bs A A2 n c n2 c2 W h1 h2 HN.out HN2.out (by omega))
  clear r0 r1 r2 r3 r4 r5
  by_cases hsame : V.bl = bs
  · rw [decide_eq_true hsame] at HTx
    obtain rfl := Hsame.out hsame
    have d7 : ((e1 : Int) == (e1 : Int)) = true := beq_self_eq_true _
    clear hsame
    go_wp2_with fail
    refine (HTx.out _ (HRd.out.below HB.out) (HRd2.out.below HB.out)).mono ?_
    rintro e w5 ⟨rfl, hb5⟩
    replace HB := Lib.hid (HB.out.trans (hb5.mono HB.out.size))
    clear hb5 x0 x1
    go_wp2_with fail
    refine (HVl.out _ (HR.out.below HB.out) (HT.out.below HB.out)).mono ?_
    rintro e w6 ⟨rfl, hb6⟩
    go_wp2_with fail
    go_ret
    exact ⟨rfl, HB.out.trans (hb6.mono HB.out.size)⟩
  rw [decide_eq_false hsame] at HTx
  by_cases hlen : n2 = n
  · subst hlen
    obtain ⟨H, hH, hl⟩ := may_pow (count_may p1)
    have hm : bs.length = 2 ^ H := by rw [← HN2.out, HN.out, hl]
    have HCo := Lib.hid (fun W h1 h2 h3 => collide_any A A2 n2 c n2 c2 V.bl bs H W h1 h2 HN.out HN2.out (fun s hs => by have := p3 s hs; omega) (fun s hs => by have := p6 s hs; omega) hl hm hH (by rw [← rootT_is hl, ← rootT_is hm, c3, c6]) hsame h3)
    have d7 : ((n2 : Int) != (n2 : Int)) = false := by simp
    clear c1 ct1 c3 c4 ct2 c6 p1 p2 p3 p4 p5 p6 hl hm hsame hl64
    go_wp2_with fail
    refine (HTx.out _ (HRd.out.below HB.out) (HRd2.out.below HB.out)).mono ?_
    rintro e w5 ⟨rfl, hb5⟩
    replace HX := Lib.hid (cells_below HX.out hb5)
    replace HB := Lib.hid (HB.out.trans (hb5.mono HB.out.size))
    clear hb5 x0 x1
    have x0 := rf_at HX.out 0 _ rfl
    have x1 := rf_at HX.out 1 _ rfl
    go_wp2_with fail
    refine (HCo.out _ (HRd.out.below HB.out) (HRd2.out.below HB.out) (HR.out.below HB.out)).mono ?_
    rintro e w6 ⟨⟨ta, tb, rfl, hne, hsum, hza, hzb⟩, hb6⟩
    replace HX := Lib.hid (cells_below HX.out hb6)
    replace HB := Lib.hid (HB.out.trans (hb6.mono HB.out.size))
    clear hb6 x0 x1
    go_wp2_with fail
    refine (HVl.out _ (HR.out.below HB.out) (HT.out.below HB.out)).mono ?_
    rintro e w7 ⟨rfl, hb7⟩
    replace HX := Lib.hid (cells_below HX.out hb7)
    replace HB := Lib.hid (HB.out.trans (hb7.mono HB.out.size))
    clear hb7
    have x0 := rf_at HX.out 0 _ rfl
    have x1 := rf_at HX.out 1 _ rfl
    have d8 := text_ne' hne
    have HS1 := Lib.hid (fun W h => show Calls Tryz.prog 9 #[.string ta] W fun e w' => e = .returned (.string (sumT ta)) ∧ Below W.heap.size W w' from sum_any ta W h (by omega))
    have HS2 := Lib.hid (fun W h => show Calls Tryz.prog 9 #[.string tb] W fun e w' => e = .returned (.string (sumT tb)) ∧ Below W.heap.size W w' from sum_any tb W h (by omega))
    rw [← hsum] at HS2
    generalize sumT ta = st at HS1 HS2
    have d9 : (st.toList == st.toList) = true := beq_self_eq_true _
    clear hsum
    go_wp2_with fail
    refine (HS1.out _ (HR.out.below HB.out)).mono ?_
    rintro e w8 ⟨rfl, hb8⟩
    replace HB := Lib.hid (HB.out.trans (hb8.mono HB.out.size))
    clear hb8 x0 x1
    go_wp2_with fail
    refine (HS2.out _ (HR.out.below HB.out)).mono ?_
    rintro e w9 ⟨rfl, hb9⟩
    replace HB := Lib.hid (HB.out.trans (hb9.mono HB.out.size))
    clear hb9
    go_wp2_with fail
    go_ret
    exact ⟨rfl, HB.out⟩
  · have HCo := Lib.hid (fun W => collide_len A A2 n c n2 c2 W (fun e => hlen e.symm) hnm hnm2)
    have d7 : ((n2 : Int) != (n : Int)) = true := by simp; omega
    clear c1 ct1 c3 c4 ct2 c6 p1 p2 p3 p4 p5 p6 hsame hl64
    go_wp2_with fail
    refine (HTx.out _ (HRd.out.below HB.out) (HRd2.out.below HB.out)).mono ?_
    rintro e w5 ⟨rfl, hb5⟩
    replace HX := Lib.hid (cells_below HX.out hb5)
    replace HB := Lib.hid (HB.out.trans (hb5.mono HB.out.size))
    clear hb5 x0 x1
    have x0 := rf_at HX.out 0 _ rfl
    have x1 := rf_at HX.out 1 _ rfl
    go_wp2_with fail
    refine (HCo.out _).mono ?_
    rintro e w6 ⟨rfl, hb6⟩
    replace HX := Lib.hid (cells_below HX.out hb6)
    replace HB := Lib.hid (HB.out.trans (hb6.mono HB.out.size))
    clear hb6 x0 x1
    go_wp2_with fail
    refine (HVl.out _ (HR.out.below HB.out) (HT.out.below HB.out)).mono ?_
    rintro e w7 ⟨rfl, hb7⟩
    replace HX := Lib.hid (cells_below HX.out hb7)
    replace HB := Lib.hid (HB.out.trans (hb7.mono HB.out.size))
    clear hb7
    have x0 := rf_at HX.out 0 _ rfl
    have x1 := rf_at HX.out 1 _ rfl
    go_wp2_with fail
    go_ret
    exact ⟨rfl, HB.out⟩
end Go.Proofs.YtpngdfmifabmdaaGreatDoor
