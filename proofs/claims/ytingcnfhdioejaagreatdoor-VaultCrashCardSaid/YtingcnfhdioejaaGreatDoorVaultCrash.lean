/-
  The walk of the law VaultCrash.
-/
import Derived.Test.YtingcnfhdioejaaGreatDoorVaV
namespace Go.Proofs.YtingcnfhdioejaaGreatDoor
open Go.RowKit
set_option linter.unusedVariables false
set_option linter.unusedSimpArgs false
set_option maxRecDepth 100000
set_option maxHeartbeats 8000000

theorem vint_wf {n : Int} (h : (Lit.int .i64 n).wf = true) : n ≤ 9223372036854775807 := by
  have e : IntKind.i64.min = -9223372036854775808 := rfl
  have e2 : IntKind.i64.max = 9223372036854775807 := rfl
  simp [Lit.wf, e, e2] at h
  omega

theorem vaultCrash_law (v : Value) (P : Plat) (hlp : P.ss.length ≤ maxLen) (hlc : P.cs.length ≤ maxLen) (vv : Value) (V : Vol) (hvl : V.bl.length ≤ maxLen) (deeds : Int) (F : Option Addr) (nf cf : Nat) (fs : List Int) (hnf : nf = fs.length) (hlf : fs.length ≤ maxLen) (hwf : ∀ x ∈ fs, (Lit.int .i64 x).wf = true) (w : World) (hT : Turns w) (hR : Rounds w) (h : PlV w v P) (hv : VV w vv V) (hrf : Rd w F (ints fs)) :
    Calls Tryz.prog 5 #[v, vv, .int .i64 deeds, .slice F nf cf] w fun e w' => e = .returned (.bool true) ∧ Below w.heap.size w w' := by
  have HV0 := Lib.hid hv
  obtain ⟨A, n, c, B, m, d, rfl, h⟩ := h
  obtain ⟨AV, nV, cV, rfl, hrv, hnV⟩ := hv
  obtain ⟨x1, x2, kb, ksz⟩ := va_al2 w (.cells #[.slice A n c, .slice B m d] 25) (.cells #[.slice AV nV cV, .string V.rt] 27)
  have Hp0 := Lib.hid h
  have HR := Lib.hid hR
  have HT := Lib.hid hT
  have HB := Lib.hid kb
  have HX := Lib.hid x1
  have HY := Lib.hid x2
  have Hrf := Lib.hid hrf
  have hfi : ∀ x ∈ fs, x ≤ 9223372036854775807 := fun x hx => vint_wf (hwf x hx)
  have hmm : m ≤ 9223372036854775807 := by rw [h.hm]; exact hlc
  have hnfm : nf ≤ 9223372036854775807 := by rw [hnf]; exact hlf
  have HFa := Lib.hid (fun W hP hV => far26_any A B n c m d P (.agg #[.slice AV nV cV, .string V.rt]) V W hP (by rw [h.hn]; exact hlp) (by rw [h.hm]; exact hlc) hV hvl)
  have HLd := Lib.hid (fun W hP h2 => vload_any (.agg #[.slice A n c, .slice B m d]) P W hP hlp h2)
  have HSt := Lib.hid (fun W hP hV h2 => vstore_any (.agg #[.slice A n c, .slice B m d]) (.agg #[.slice AV nV cV, .string V.rt]) P V deeds W hP hV hlp hvl h2)
  have HVs := Lib.hid (fun W h1 h2 => vaults_any W h1 h2)
  obtain ⟨r, hr⟩ : ∃ r, r = openP P := ⟨_, rfl⟩
  have Hr := Lib.hid hr
  rw [← hr] at HLd
  obtain ⟨⟨N, gen, area, V0⟩, er⟩ := r
  obtain ⟨q, hq⟩ : ∃ q, q = storeP P V deeds := ⟨_, rfl⟩
  have Hq := Lib.hid hq
  rw [← hq] at HSt
  obtain ⟨Q, done, f⟩ := q
  have HCr := Lib.hid (fun v W hP hF => crash_any v Q F nf cf fs W hP hF hnf (by unfold maxLen; omega) hfi)
  have hmc := h.hm
  have Hm := Lib.hid hmc
  obtain ⟨a0, a1⟩ := vtwo_cells x1
  obtain ⟨b0, b1⟩ := vtwo_cells x2
  have HPx := Lib.hid (fun W (hb : Below w.heap.size w W) => show PlV W (.agg #[.slice A n c, .slice B m d]) P from ⟨_, _, _, _, _, _, rfl, Hp0.out.below hb⟩)
  have HVx := Lib.hid (fun W (hb : Below w.heap.size w W) => HV0.out.below hb)
  clear h hrv hnV x1 x2 kb ksz hr hq hlp hlc hvl hR hT hrf hnf hlf hwf hfi hmc
  go_enter Tryz.func5, Tryz.ntmps5
  go_wp2_with fail
  refine (HFa.out _ (Hp0.out.below HB.out) (HVx.out _ HB.out)).mono ?_
  rintro e w1 ⟨b, rfl, hb⟩
  replace HX := hblk_below HX hb
  replace HY := hblk_below HY hb
  replace HB := Lib.hid (HB.out.trans (hb.mono HB.out.size))
  clear hb a0 a1 b0 b1
  obtain ⟨a0, a1⟩ := vtwo_cells HX.out
  obtain ⟨b0, b1⟩ := vtwo_cells HY.out
  cases b with
  | true =>
    go_wp2_with fail
    go_ret
    exact ⟨rfl, HB.out⟩
  | false =>
  by_cases hm0 : 0 < m
  · have g1 : decide ((m : Int) > 0) = true := decide_eq_true (by omega)
    have g1' : ((0 : Int) < (m : Int)) := by omega
    clear hm0
    go_wp2_with fail
    go_ret
    exact ⟨rfl, HB.out⟩
  have g1 : decide ((m : Int) > 0) = false := decide_eq_false (by omega)
  by_cases hf2 : 200 < nf
  · have g2 : decide ((nf : Int) > 200) = true := decide_eq_true (by omega)
    go_wp2_with fail
    go_ret
    exact ⟨rfl, HB.out⟩
  have g2 : decide ((nf : Int) > 200) = false := decide_eq_false (by omega)
  go_wp2_with fail
  refine (HLd.out _ (HPx.out _ HB.out) (HR.out.below HB.out)).mono ?_
  rintro e w2 ⟨A2, c2, rfl, ⟨hr2, -⟩, hb⟩
  simp only at hr2 ⊢
  have al := (Below.refl w2.heap.size w2).alloc (Nat.le_refl _) (.cells #[.slice A2 V0.bl.length c2, .string V0.rt] 27)
  have hb2 := Below.chain hb al
  replace HX := hblk_below HX hb2
  replace HY := hblk_below HY hb2
  replace HB := Lib.hid (HB.out.trans (hb2.mono HB.out.size))
  obtain ⟨u2, hu2⟩ : ∃ u, u = w2.alloc (.cells #[.slice A2 V0.bl.length c2, .string V0.rt] 27) := ⟨_, rfl⟩
  have Hu2 := Lib.hid hu2
  have HWb := Lib.hid (heap_alloc_new w2 (.cells #[.slice A2 V0.bl.length c2, .string V0.rt] 27))
  have HVw := Lib.hid (show VV _ (.agg #[.slice A2 V0.bl.length c2, .string V0.rt]) V0 from ⟨A2, _, c2, rfl, hr2.below al, rfl⟩)
  rw [← hu2] at HX HY HB HWb HVw
  clear hb al hb2 hu2 a0 a1 b0 b1 hr2
  go_upto_region 4 with fail
  rw [← Hu2.out]
  clear Hu2
  generalize w2.heap.size = g2 at *
  obtain ⟨a0, a1⟩ := vtwo_cells HX.out
  obtain ⟨b0, b1⟩ := vtwo_cells HY.out
  go_wp2_with fail
  refine (HSt.out _ (HPx.out _ HB.out) (HVx.out _ HB.out) (HR.out.below HB.out)).mono ?_
  rintro e w3 ⟨v3, rfl, ⟨A3, n3, c3, B3, m3, d3, rfl, hp3⟩, hb⟩
  simp only at hp3 ⊢
  have al := (Below.refl w3.heap.size w3).alloc (Nat.le_refl _) (.cells #[.slice A3 n3 c3, .slice B3 m3 d3] 25)
  have hb2 := Below.chain hb al
  replace HX := hblk_below HX hb2
  replace HY := hblk_below HY hb2
  replace HB := Lib.hid (HB.out.trans (hb2.mono HB.out.size))
  have HZ := Lib.hid (heap_alloc_new w3 (.cells #[.slice A3 n3 c3, .slice B3 m3 d3] 25))
  have HPq := Lib.hid (PB.below (show PB w3 A3 n3 B3 m3 Q from hp3) al)
  obtain ⟨u3, hu3⟩ : ∃ u, u = w3.alloc (.cells #[.slice A3 n3 c3, .slice B3 m3 d3] 25) := ⟨_, rfl⟩
  have Hu3 := Lib.hid hu3
  replace HWb := hblk_below HWb hb2
  replace HVw := Lib.hid (HVw.out.below hb2)
  rw [← hu3] at HX HY HB HZ HPq HWb HVw
  clear hb al hb2 hu3 a0 a1 b0 b1 hp3
  go_upto_region 5 with fail
  rw [← Hu3.out]
  clear Hu3
  generalize w3.heap.size = g3 at *
  obtain ⟨a0, a1⟩ := vtwo_cells HX.out
  obtain ⟨b0, b1⟩ := vtwo_cells HY.out
  obtain ⟨z0, z1⟩ := vtwo_cells HZ.out
  by_cases her : er = 0
  case neg =>
    have d0 : (er != 0) = true := by simpa using her
    clear her
    go_wp2_with fail
    refine (HVs.out _ (HR.out.below HB.out) (HT.out.below HB.out)).mono ?_
    rintro e w4 ⟨rfl, hb⟩
    go_wp2_with fail
    go_ret
    exact ⟨rfl, HB.out.trans (hb.mono HB.out.size)⟩
  subst her
  have d0 : ((0 : Int) != 0) = false := rfl
  by_cases hf : f = 0
  case neg =>
    have d1 : (f != 0) = true := by simpa using hf
    clear hf
    go_wp2_with fail
    refine (HVs.out _ (HR.out.below HB.out) (HT.out.below HB.out)).mono ?_
    rintro e w4 ⟨rfl, hb⟩
    go_wp2_with fail
    go_ret
    exact ⟨rfl, HB.out.trans (hb.mono HB.out.size)⟩
  subst hf
  have hvt : Vt P N gen area V0 := by
    have h1 := vt_of_open (P := P) (by rw [← Hr.out])
    rw [← Hr.out] at h1
    exact h1
  obtain ⟨n', gen', area', V0', hvt', hgood⟩ := store_inv (P := P) (V := V) (deeds := deeds) (by rw [← Hq.out])
  have hPc : P.cs = [] := by
    have h1 := Hm.out
    cases hcs : P.cs with
    | nil => rfl
    | cons a l => rw [hcs] at h1; simp at h1; omega
  obtain ⟨Rp, hcr, hRc, hRl, _, hor⟩ := store_crash hvt hPc Hq.out.symm fs
  have ho1 := hvt'.open.symm.trans hvt.open
  simp only [Prod.mk.injEq, Vst.mk.injEq, and_true] at ho1
  obtain ⟨rfl, rfl, rfl, rfl⟩ := ho1
  have hcnt := (count_le hvt.cnt).2
  have hvl64 : V.bl.length ≤ 100000 := by rw [hgood.len]; omega
  have hlr : Rp.ss.length ≤ maxLen := by rw [hRl, hvt.len]; unfold maxLen; omega
  have hgen : gen' ≤ 1000000000 := hvt.area.2
  have hl0 : V0'.bl.length ≤ 100000 := by rw [hvt.blen]; omega
  rw [hcr] at HCr
  have hgg : gen' + 1 ≤ 1000000001 := by omega
  clear hcr hRc hRl hvt' hPc a0 a1 b0 b1
  go_wp2_with fail
  refine (HCr.out _ _ ⟨_, _, _, _, _, _, rfl, HPq.out⟩ (Hrf.out.below HB.out)).mono ?_
  rintro e w4 ⟨v4, rfl, ⟨A4, n4, c4, B4, m4, d4, rfl, hp4⟩, hb⟩
  simp only at hp4 ⊢
  have al := (Below.refl w4.heap.size w4).alloc (Nat.le_refl _) (.cells #[.slice A4 n4 c4, .slice B4 m4 d4] 25)
  have hb2 := Below.chain hb al
  replace HY := hblk_below HY hb2
  replace HWb := hblk_below HWb hb2
  replace HVw := Lib.hid (HVw.out.below hb2)
  replace HB := Lib.hid (HB.out.trans (hb2.mono HB.out.size))
  have HRb := Lib.hid (heap_alloc_new w4 (.cells #[.slice A4 n4 c4, .slice B4 m4 d4] 25))
  have HPr := Lib.hid (PB.below (show PB w4 A4 n4 B4 m4 Rp from hp4) al)
  obtain ⟨u4, hu4⟩ : ∃ u, u = w4.alloc (.cells #[.slice A4 n4 c4, .slice B4 m4 d4] 25) := ⟨_, rfl⟩
  have Hu4 := Lib.hid hu4
  rw [← hu4] at HY HB HRb HPr HWb HVw
  clear hb al hb2 hu4 z0 z1 hp4
  go_upto_region 8 with fail
  rw [← Hu4.out]
  clear Hu4
  generalize w4.heap.size = g4 at *
  obtain ⟨r0, r1⟩ := vtwo_cells HRb.out
  have HLr := Lib.hid (fun W hP h2 => vload_any (.agg #[.slice A4 n4 c4, .slice B4 m4 d4]) Rp W hP hlr h2)
  rcases hor with hvn | ⟨hdn, hvo⟩
  · rw [hvn.open] at HLr
    have HSm := Lib.hid (fun v1 W (h1 : VV W v1 V) (h2 : VV W (.agg #[.slice AV nV cV, .string V.rt]) V) => same16_any v1 _ V V W h1 h2 hvl64)
    rw [sameV_true.2 rfl] at HSm
    have e2 : (((gen' + 1 : Nat) : Int) - 1) = (gen' : Int) := by omega
    have e3 : IntKind.i64.wrap (((gen' + 1 : Nat) : Int) - 1) = (gen' : Int) := by rw [IntWalk.i64_in _ (by omega)]; omega
    have e4 : ((gen' : Int) == (gen' : Int)) = true := beq_self_eq_true _
    clear hvn hvt hgood Hq Hr hlr
    go_wp2_with fail
    refine (HLr.out _ ⟨_, _, _, _, _, _, rfl, HPr.out⟩ (HR.out.below HB.out)).mono ?_
    rintro e w5 ⟨A5, c5, rfl, ⟨hr5, -⟩, hb⟩
    simp only at hr5 ⊢
    have al := (Below.refl w5.heap.size w5).alloc (Nat.le_refl _) (.cells #[.slice A5 V.bl.length c5, .string V.rt] 27)
    have hb2 := Below.chain hb al
    replace HY := hblk_below HY hb2
    replace HWb := hblk_below HWb hb2
    replace HVw := Lib.hid (HVw.out.below hb2)
    replace HB := Lib.hid (HB.out.trans (hb2.mono HB.out.size))
    have HU := Lib.hid (heap_alloc_new w5 (.cells #[.slice A5 V.bl.length c5, .string V.rt] 27))
    have HVu := Lib.hid (show VV _ (.agg #[.slice A5 V.bl.length c5, .string V.rt]) V from ⟨A5, _, c5, rfl, hr5.below al, rfl⟩)
    obtain ⟨u5, hu5⟩ : ∃ u, u = w5.alloc (.cells #[.slice A5 V.bl.length c5, .string V.rt] 27) := ⟨_, rfl⟩
    have Hu5 := Lib.hid hu5
    rw [← hu5] at HY HB HU HVu HWb HVw
    clear hb al hb2 hu5 r0 r1 hr5
    go_upto_region 9 with fail
    rw [← Hu5.out]
    clear Hu5
    generalize w5.heap.size = g5 at *
    obtain ⟨b0, b1⟩ := vtwo_cells HY.out
    obtain ⟨t0, t1⟩ := vtwo_cells HU.out
    go_wp2_with fail
    refine (HSm.out _ _ HVu.out (HVx.out _ HB.out)).mono ?_
    rintro e w6 ⟨rfl, hb⟩
    replace HB := Lib.hid (HB.out.trans (hb.mono HB.out.size))
    clear hb t0 t1 b0 b1
    go_wp2_with fail
    refine (HVs.out _ (HR.out.below HB.out) (HT.out.below HB.out)).mono ?_
    rintro e w7 ⟨rfl, hb⟩
    replace HB := Lib.hid (HB.out.trans (hb.mono HB.out.size))
    clear hb
    go_wp2_with fail
    go_ret
    exact ⟨rfl, HB.out⟩
  · subst hdn
    rw [hvo.open] at HLr
    have HSm := Lib.hid (fun v1 v2 W (h1 : VV W v1 V0') (h2 : VV W v2 V0') => same16_any v1 v2 V0' V0' W h1 h2 hl0)
    rw [sameV_true.2 rfl] at HSm
    have e3 : IntKind.i64.wrap ((gen' : Int) - 1) = (gen' : Int) - 1 := IntWalk.i64_in _ (by omega)
    have e4 : ((gen' : Int) == (gen' : Int)) = true := beq_self_eq_true _
    have e5 : (((gen' : Int) - 1) == (gen' : Int)) = false := by simp; omega
    clear hvo hvt hgood Hq Hr hlr
    go_wp2_with fail
    refine (HLr.out _ ⟨_, _, _, _, _, _, rfl, HPr.out⟩ (HR.out.below HB.out)).mono ?_
    rintro e w5 ⟨A5, c5, rfl, ⟨hr5, -⟩, hb⟩
    simp only at hr5 ⊢
    have al := (Below.refl w5.heap.size w5).alloc (Nat.le_refl _) (.cells #[.slice A5 V0'.bl.length c5, .string V0'.rt] 27)
    have hb2 := Below.chain hb al
    replace HY := hblk_below HY hb2
    replace HWb := hblk_below HWb hb2
    replace HVw := Lib.hid (HVw.out.below hb2)
    replace HB := Lib.hid (HB.out.trans (hb2.mono HB.out.size))
    have HU := Lib.hid (heap_alloc_new w5 (.cells #[.slice A5 V0'.bl.length c5, .string V0'.rt] 27))
    have HVu := Lib.hid (show VV _ (.agg #[.slice A5 V0'.bl.length c5, .string V0'.rt]) V0' from ⟨A5, _, c5, rfl, hr5.below al, rfl⟩)
    obtain ⟨u5, hu5⟩ : ∃ u, u = w5.alloc (.cells #[.slice A5 V0'.bl.length c5, .string V0'.rt] 27) := ⟨_, rfl⟩
    have Hu5 := Lib.hid hu5
    rw [← hu5] at HY HB HU HVu HWb HVw
    clear hb al hb2 hu5 r0 r1 hr5
    go_upto_region 9 with fail
    rw [← Hu5.out]
    clear Hu5
    generalize w5.heap.size = g5 at *
    obtain ⟨b0, b1⟩ := vtwo_cells HY.out
    obtain ⟨t0, t1⟩ := vtwo_cells HU.out
    go_wp2_with fail
    refine (HVs.out _ (HR.out.below HB.out) (HT.out.below HB.out)).mono ?_
    rintro e w6 ⟨rfl, hb⟩
    replace HU := hblk_below HU hb
    replace HVu := Lib.hid (HVu.out.below hb)
    replace HWb := hblk_below HWb hb
    replace HVw := Lib.hid (HVw.out.below hb)
    replace HB := Lib.hid (HB.out.trans (hb.mono HB.out.size))
    clear hb t0 t1 b0 b1
    obtain ⟨t0, t1⟩ := vtwo_cells HU.out
    obtain ⟨s0, s1⟩ := vtwo_cells HWb.out
    go_wp2_with fail
    refine (HSm.out _ _ _ HVu.out HVw.out).mono ?_
    rintro e w7 ⟨rfl, hb⟩
    replace HB := Lib.hid (HB.out.trans (hb.mono HB.out.size))
    clear hb
    go_wp2_with fail
    go_ret
    exact ⟨rfl, HB.out⟩
end Go.Proofs.YtingcnfhdioejaaGreatDoor
