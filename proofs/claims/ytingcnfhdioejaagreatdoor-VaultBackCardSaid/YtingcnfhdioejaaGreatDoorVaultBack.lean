/-
  The walk of the law VaultBack.
-/
import Derived.Test.YtingcnfhdioejaaGreatDoorVaV
namespace Go.Proofs.YtingcnfhdioejaaGreatDoor
open Go.RowKit
set_option linter.unusedVariables false
set_option linter.unusedSimpArgs false
set_option maxRecDepth 100000
set_option maxHeartbeats 8000000

theorem vaultBack_law (v : Value) (P : Plat) (hlp : P.ss.length ≤ maxLen) (hlc : P.cs.length ≤ maxLen) (vv : Value) (V : Vol) (hvl : V.bl.length ≤ maxLen) (w : World) (hT : Turns w) (hR : Rounds w) (h : PlV w v P) (hv : VV w vv V) :
    Calls Tryz.prog 4 #[v, vv] w fun e w' => e = .returned (.bool true) ∧ Below w.heap.size w w' := by
  have HV0 := Lib.hid hv
  obtain ⟨A, n, c, B, m, d, rfl, h⟩ := h
  obtain ⟨AV, nV, cV, rfl, hrv, hnV⟩ := hv
  obtain ⟨x1, x2, kb, ksz⟩ := va_al2 w (.cells #[.slice A n c, .slice B m d] 25) (.cells #[.slice AV nV cV, .string V.rt] 27)
  have Hp0 := Lib.hid h
  have HR := Lib.hid hR
  have HT := Lib.hid hT
  have HB := Lib.hid kb
  have HX := Lib.hid x1
  have HY := Lib.hid x2
  have HFa := Lib.hid (fun W hP hV => far26_any A B n c m d P (.agg #[.slice AV nV cV, .string V.rt]) V W hP (by rw [h.hn]; exact hlp) (by rw [h.hm]; exact hlc) hV hvl)
  have HLd := Lib.hid (fun W hP h2 => vload_any (.agg #[.slice A n c, .slice B m d]) P W hP hlp h2)
  have HSt := Lib.hid (fun W hP hV h2 => vstore_any (.agg #[.slice A n c, .slice B m d]) (.agg #[.slice AV nV cV, .string V.rt]) P V (-1) W hP hV hlp hvl h2)
  have HVs := Lib.hid (fun W h1 h2 => vaults_any W h1 h2)
  obtain ⟨r, hr⟩ : ∃ r, r = openP P := ⟨_, rfl⟩
  have Hr := Lib.hid hr
  rw [← hr] at HLd
  obtain ⟨⟨N, gen, area, V0⟩, er⟩ := r
  obtain ⟨q, hq⟩ : ∃ q, q = storeP P V (-1) := ⟨_, rfl⟩
  have Hq := Lib.hid hq
  rw [← hq] at HSt
  obtain ⟨Q, done, f⟩ := q
  obtain ⟨a0, a1⟩ := vtwo_cells x1
  obtain ⟨b0, b1⟩ := vtwo_cells x2
  have HPx := Lib.hid (fun W (hb : Below w.heap.size w W) => show PlV W (.agg #[.slice A n c, .slice B m d]) P from ⟨_, _, _, _, _, _, rfl, Hp0.out.below hb⟩)
  have HVx := Lib.hid (fun W (hb : Below w.heap.size w W) => HV0.out.below hb)
  clear h hrv hnV x1 x2 kb ksz hr hq hlp hlc hvl hR hT
  go_enter Tryz.func4, Tryz.ntmps4
  go_wp2_with fail
  refine (HFa.out _ (Hp0.out.below HB.out) (HVx.out _ HB.out)).mono ?_
  rintro e w1 ⟨b, rfl, hb⟩
  replace HX := hblk_below HX hb
  replace HY := hblk_below HY hb
  replace HB := Lib.hid (HB.out.trans (hb.mono HB.out.size))
  clear hb a0 a1 b0 b1
  obtain ⟨a0, a1⟩ := vtwo_cells HX.out
  obtain ⟨b0, b1⟩ := vtwo_cells HY.out
  cases b with
  | true =>
    go_wp2_with fail
    go_ret
    exact ⟨rfl, HB.out⟩
  | false =>
  go_wp2_with fail
  refine (HLd.out _ (HPx.out _ HB.out) (HR.out.below HB.out)).mono ?_
  rintro e w2 ⟨A2, c2, rfl, ⟨hr2, -⟩, hb⟩
  simp only at hr2 ⊢
  have al := (Below.refl w2.heap.size w2).alloc (Nat.le_refl _) (.cells #[.slice A2 V0.bl.length c2, .string V0.rt] 27)
  have hb2 := Below.chain hb al
  replace HX := hblk_below HX hb2
  replace HY := hblk_below HY hb2
  replace HB := Lib.hid (HB.out.trans (hb2.mono HB.out.size))
  obtain ⟨u2, hu2⟩ : ∃ u, u = w2.alloc (.cells #[.slice A2 V0.bl.length c2, .string V0.rt] 27) := ⟨_, rfl⟩
  have Hu2 := Lib.hid hu2
  rw [← hu2] at HX HY HB
  clear hb al hb2 hu2 a0 a1 b0 b1 hr2
  go_upto_region 4 with fail
  rw [← Hu2.out]
  clear Hu2
  generalize w2.heap.size = g2 at *
  obtain ⟨a0, a1⟩ := vtwo_cells HX.out
  obtain ⟨b0, b1⟩ := vtwo_cells HY.out
  go_wp2_with fail
  refine (HSt.out _ (HPx.out _ HB.out) (HVx.out _ HB.out) (HR.out.below HB.out)).mono ?_
  rintro e w3 ⟨v3, rfl, ⟨A3, n3, c3, B3, m3, d3, rfl, hp3⟩, hb⟩
  simp only at hp3 ⊢
  have al := (Below.refl w3.heap.size w3).alloc (Nat.le_refl _) (.cells #[.slice A3 n3 c3, .slice B3 m3 d3] 25)
  have hb2 := Below.chain hb al
  replace HX := hblk_below HX hb2
  replace HY := hblk_below HY hb2
  replace HB := Lib.hid (HB.out.trans (hb2.mono HB.out.size))
  have HZ := Lib.hid (heap_alloc_new w3 (.cells #[.slice A3 n3 c3, .slice B3 m3 d3] 25))
  have HPq := Lib.hid (PB.below (show PB w3 A3 n3 B3 m3 Q from hp3) al)
  obtain ⟨u3, hu3⟩ : ∃ u, u = w3.alloc (.cells #[.slice A3 n3 c3, .slice B3 m3 d3] 25) := ⟨_, rfl⟩
  have Hu3 := Lib.hid hu3
  rw [← hu3] at HX HY HB HZ HPq
  clear hb al hb2 hu3 a0 a1 b0 b1 hp3
  go_upto_region 5 with fail
  rw [← Hu3.out]
  clear Hu3
  generalize w3.heap.size = g3 at *
  obtain ⟨a0, a1⟩ := vtwo_cells HX.out
  obtain ⟨b0, b1⟩ := vtwo_cells HY.out
  obtain ⟨z0, z1⟩ := vtwo_cells HZ.out
  by_cases hf : f = 0
  case neg =>
    have hno := store_no (P := P) (V := V) (deeds := -1) (by rw [← Hq.out]; exact hf)
    rw [← Hq.out] at hno
    simp only at hno
    obtain ⟨hQ, hd⟩ := hno
    have hn3 : n3 = 0 := by rw [HPq.out.hn, hQ]; rfl
    have d1 : (f != 0) = true := by simpa using hf
    subst hd hn3
    have HQ := Lib.hid hQ
    clear hf hQ
    go_wp2_with fail
    refine (HVs.out _ (HR.out.below HB.out) (HT.out.below HB.out)).mono ?_
    rintro e w4 ⟨rfl, hb⟩
    replace HZ := hblk_below HZ hb
    replace HB := Lib.hid (HB.out.trans (hb.mono HB.out.size))
    clear hb a0 a1 b0 b1 z0 z1
    obtain ⟨z0, z1⟩ := vtwo_cells HZ.out
    go_wp2_with fail
    go_ret
    exact ⟨rfl, HB.out⟩
  subst hf
  obtain ⟨n', gen', area', V0', hvt, hgood⟩ := store_inv (P := P) (V := V) (deeds := -1) (by rw [← Hq.out])
  obtain ⟨hdone, hvq⟩ := store_back hvt Hq.out.symm
  have ho1 := Hr.out.trans hvt.open
  simp only [Prod.mk.injEq, Vst.mk.injEq] at ho1
  obtain ⟨⟨rfl, rfl, rfl, rfl⟩, rfl⟩ := ho1
  have hcnt := (count_le hvt.cnt).2
  have hvl64 : V.bl.length ≤ 100000 := by rw [hgood.len]; omega
  have hlq : Q.ss.length ≤ maxLen := by rw [hvq.len]; unfold maxLen; omega
  have HLq := Lib.hid (fun W hP h2 => vload_any (.agg #[.slice A3 n3 c3, .slice B3 m3 d3]) Q W hP hlq h2)
  rw [hvq.open] at HLq
  have HSm := Lib.hid (fun v2 W (h1 : VV W (.agg #[.slice AV nV cV, .string V.rt]) V) (h2 : VV W v2 V) => same16_any (.agg #[.slice AV nV cV, .string V.rt]) v2 V V W h1 h2 hvl64)
  rw [sameV_true.2 rfl] at HSm
  have d1 : ((0 : Int) != 0) = false := rfl
  have d2 : (((gen + 1 : Nat) : Int) - 1) = (gen : Int) := by omega
  have hgen : gen ≤ 1000000000 := hvt.area.2
  have d3 : IntKind.i64.wrap (((gen + 1 : Nat) : Int) - 1) = (gen : Int) := by rw [IntWalk.i64_in _ (by omega)]; omega
  have d4 : ((gen : Int) == (gen : Int)) = true := beq_self_eq_true _
  subst hdone
  clear hvt hgood hvq hcnt hvl64 hlq Hr Hq
  go_wp2_with fail
  refine (HLq.out _ ⟨_, _, _, _, _, _, rfl, HPq.out⟩ (HR.out.below HB.out)).mono ?_
  rintro e w4 ⟨A4, c4, rfl, ⟨hr4, -⟩, hb⟩
  simp only at hr4 ⊢
  have al := (Below.refl w4.heap.size w4).alloc (Nat.le_refl _) (.cells #[.slice A4 V.bl.length c4, .string V.rt] 27)
  have hb2 := Below.chain hb al
  replace HY := hblk_below HY hb2
  replace HB := Lib.hid (HB.out.trans (hb2.mono HB.out.size))
  have HU := Lib.hid (heap_alloc_new w4 (.cells #[.slice A4 V.bl.length c4, .string V.rt] 27))
  have HVu := Lib.hid (show VV _ (.agg #[.slice A4 V.bl.length c4, .string V.rt]) V from ⟨A4, _, c4, rfl, hr4.below al, rfl⟩)
  obtain ⟨u4, hu4⟩ : ∃ u, u = w4.alloc (.cells #[.slice A4 V.bl.length c4, .string V.rt] 27) := ⟨_, rfl⟩
  have Hu4 := Lib.hid hu4
  rw [← hu4] at HY HB HU HVu
  clear hb al hb2 hu4 a0 a1 b0 b1 z0 z1 hr4
  go_upto_region 8 with fail
  rw [← Hu4.out]
  clear Hu4
  generalize w4.heap.size = g4 at *
  go_wp2_with fail
  refine (HVs.out _ (HR.out.below HB.out) (HT.out.below HB.out)).mono ?_
  rintro e w5 ⟨rfl, hb⟩
  replace HY := hblk_below HY hb
  replace HU := hblk_below HU hb
  replace HVu := Lib.hid (HVu.out.below hb)
  replace HB := Lib.hid (HB.out.trans (hb.mono HB.out.size))
  clear hb
  obtain ⟨b0, b1⟩ := vtwo_cells HY.out
  obtain ⟨t0, t1⟩ := vtwo_cells HU.out
  go_wp2_with fail
  refine (HSm.out _ _ (HVx.out _ HB.out) HVu.out).mono ?_
  rintro e w6 ⟨rfl, hb⟩
  replace HB := Lib.hid (HB.out.trans (hb.mono HB.out.size))
  clear hb
  go_wp2_with fail
  go_ret
  exact ⟨rfl, HB.out⟩
end Go.Proofs.YtingcnfhdioejaaGreatDoor
