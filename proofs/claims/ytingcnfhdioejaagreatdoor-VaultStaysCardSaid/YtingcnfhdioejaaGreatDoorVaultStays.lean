/-
  The walk of the law VaultStays.
-/
import Derived.Test.YtingcnfhdioejaaGreatDoorVaV
import Derived.Test.YtingcnfhdioejaaGreatDoorVaRT
namespace Go.Proofs.YtingcnfhdioejaaGreatDoor
open Go.RowKit
set_option linter.unusedVariables false
set_option linter.unusedSimpArgs false
set_option maxRecDepth 100000
set_option maxHeartbeats 8000000

theorem vsint_wf {n : Int} (h : (Lit.int .i64 n).wf = true) : n ≤ 9223372036854775807 := by
  have e : IntKind.i64.min = -9223372036854775808 := rfl
  have e2 : IntKind.i64.max = 9223372036854775807 := rfl
  simp [Lit.wf, e, e2] at h
  omega

/-- A part of a row of texts. -/
theorem sub_texts {w : World} {b off : Nat} {l : List ByteArray} (h : Rd w (some ⟨b, off, none⟩) (textsV l)) (a k : Nat) (hk : a + k ≤ l.length) :
    Rd w (some ⟨b, off + a, none⟩) (textsV ((l.drop a).take k)) := by
  intro i u hu
  have hi : i < k := by
    have := (List.getElem?_eq_some_iff.1 hu).1
    simp [textsV] at this
    omega
  have h1 : (textsV l)[a + i]? = some u := by
    simp only [textsV, List.getElem?_map, List.getElem?_take, List.getElem?_drop] at hu ⊢
    rw [if_pos hi] at hu
    exact hu
  obtain ⟨b', o', e, c⟩ := h _ _ h1
  cases e
  exact ⟨b, off + a, rfl, by rw [Nat.add_assoc]; exact c⟩
/-- Texts, in any later world. -/
theorem texts_later {W : World} {A A2 : Option Addr} {c c2 n : Nat} {l m : List ByteArray} (hr : Rd W A (textsV l)) (hr2 : Rd W A2 (textsV m)) (hn : n = l.length) (hm : n = m.length) (hl : n ≤ 1000) (y : Later W) :
    Calls Tryz.prog 22 #[.slice A n c, .slice A2 n c2] y.x fun e w' => e = .returned (.bool (decide (l = m))) ∧ ∃ z : Later W, w' = z.x :=
  later_call (texts_any l m A A2 n c n c2 y.x (hr.below y.ok) (hr2.below y.ok) hn hm (by omega))
theorem vaultStays_law (v : Value) (P : Plat) (hlp : P.ss.length ≤ maxLen) (hlc : P.cs.length ≤ maxLen) (vv : Value) (V : Vol) (hvl : V.bl.length ≤ maxLen) (deeds : Int) (F : Option Addr) (nf cf : Nat) (fs : List Int) (hnf : nf = fs.length) (hlf : fs.length ≤ maxLen) (hwf : ∀ x ∈ fs, (Lit.int .i64 x).wf = true) (w : World) (hT : Turns w) (hR : Rounds w) (h : ∃ A n c B m d, v = .agg #[.slice A n c, .slice B m d] ∧ n ≤ c ∧ c ≤ maxLen ∧ PB w A n B m P) (hv : VV w vv V) (hrf : Rd w F (ints fs)) :
    Calls Tryz.prog 6 #[v, vv, .int .i64 deeds, .slice F nf cf] w fun e w' => e = .returned (.bool true) ∧ Below w.heap.size w w' := by
  have HV0 := Lib.hid hv
  obtain ⟨A, n, c, B, m, d, rfl, hnc, hcm, h⟩ := h
  obtain ⟨AV, nV, cV, rfl, hrv, hnV⟩ := hv
  obtain ⟨x1, x2, kb, ksz⟩ := va_al2 w (.cells #[.slice A n c, .slice B m d] 25) (.cells #[.slice AV nV cV, .string V.rt] 27)
  have Hp0 := Lib.hid h
  have HR := Lib.hid hR
  have HT := Lib.hid hT
  have HB := Lib.hid kb
  have HX := Lib.hid x1
  have HY := Lib.hid x2
  have Hrf := Lib.hid hrf
  have hfi : ∀ x ∈ fs, x ≤ 9223372036854775807 := fun x hx => vsint_wf (hwf x hx)
  have hmm : m ≤ 9223372036854775807 := by rw [h.hm]; exact hlc
  have hnfm : nf ≤ 9223372036854775807 := by rw [hnf]; exact hlf
  have HFa := Lib.hid (fun W hP hV => far26_any A B n c m d P (.agg #[.slice AV nV cV, .string V.rt]) V W hP (by rw [h.hn]; exact hlp) (by rw [h.hm]; exact hlc) hV hvl)
  have HLd := Lib.hid (fun W hP h2 => vload_any (.agg #[.slice A n c, .slice B m d]) P W hP hlp h2)
  have HSt := Lib.hid (fun W hP hV h2 => vstore_any (.agg #[.slice A n c, .slice B m d]) (.agg #[.slice AV nV cV, .string V.rt]) P V deeds W hP hV hlp hvl h2)
  have HVs := Lib.hid (fun W h1 h2 => vaults_any W h1 h2)
  obtain ⟨r, hr⟩ : ∃ r, r = openP P := ⟨_, rfl⟩
  have Hr := Lib.hid hr
  rw [← hr] at HLd
  obtain ⟨⟨N, gen, area, V0⟩, er⟩ := r
  obtain ⟨q, hq⟩ : ∃ q, q = storeP P V deeds := ⟨_, rfl⟩
  have Hq := Lib.hid hq
  rw [← hq] at HSt
  obtain ⟨Q, done, f⟩ := q
  have HCr := Lib.hid (fun v W hP hF => crash_cap v Q F nf cf fs W hP hF hnf (by unfold maxLen; omega) hfi)
  have hmc := h.hm
  have Hm := Lib.hid hmc
  obtain ⟨a0, a1⟩ := vtwo_cells x1
  obtain ⟨b0, b1⟩ := vtwo_cells x2
  have HPx := Lib.hid (fun W (hb : Below w.heap.size w W) => show PlV W (.agg #[.slice A n c, .slice B m d]) P from ⟨_, _, _, _, _, _, rfl, Hp0.out.below hb⟩)
  have HVx := Lib.hid (fun W (hb : Below w.heap.size w W) => HV0.out.below hb)
  clear h hrv hnV x1 x2 kb ksz hr hq hlp hlc hvl hR hT hrf hnf hlf hwf hfi hmc
  go_enter Tryz.func6, Tryz.ntmps6
  go_wp2_with fail
  refine (HFa.out _ (Hp0.out.below HB.out) (HVx.out _ HB.out)).mono ?_
  rintro e w1 ⟨b, rfl, hb⟩
  replace HX := hblk_below HX hb
  replace HY := hblk_below HY hb
  replace HB := Lib.hid (HB.out.trans (hb.mono HB.out.size))
  clear hb a0 a1 b0 b1
  obtain ⟨a0, a1⟩ := vtwo_cells HX.out
  obtain ⟨b0, b1⟩ := vtwo_cells HY.out
  cases b with
  | true =>
    go_wp2_with fail
    go_ret
    exact ⟨rfl, HB.out⟩
  | false =>
  by_cases hm0 : 0 < m
  · have g1 : decide ((m : Int) > 0) = true := decide_eq_true (by omega)
    have g1' : ((0 : Int) < (m : Int)) := by omega
    clear hm0
    go_wp2_with fail
    go_ret
    exact ⟨rfl, HB.out⟩
  have g1 : decide ((m : Int) > 0) = false := decide_eq_false (by omega)
  by_cases hf2 : 200 < nf
  · have g2 : decide ((nf : Int) > 200) = true := decide_eq_true (by omega)
    go_wp2_with fail
    go_ret
    exact ⟨rfl, HB.out⟩
  have g2 : decide ((nf : Int) > 200) = false := decide_eq_false (by omega)
  go_wp2_with fail
  refine (HLd.out _ (HPx.out _ HB.out) (HR.out.below HB.out)).mono ?_
  rintro e w2 ⟨A2, c2, rfl, ⟨hr2, -⟩, hb⟩
  simp only at hr2 ⊢
  have al := (Below.refl w2.heap.size w2).alloc (Nat.le_refl _) (.cells #[.slice A2 V0.bl.length c2, .string V0.rt] 27)
  have hb2 := Below.chain hb al
  replace HX := hblk_below HX hb2
  replace HY := hblk_below HY hb2
  replace HB := Lib.hid (HB.out.trans (hb2.mono HB.out.size))
  obtain ⟨u2, hu2⟩ : ∃ u, u = w2.alloc (.cells #[.slice A2 V0.bl.length c2, .string V0.rt] 27) := ⟨_, rfl⟩
  have Hu2 := Lib.hid hu2
  have HWb := Lib.hid (heap_alloc_new w2 (.cells #[.slice A2 V0.bl.length c2, .string V0.rt] 27))
  have HVw := Lib.hid (show VV _ (.agg #[.slice A2 V0.bl.length c2, .string V0.rt]) V0 from ⟨A2, _, c2, rfl, hr2.below al, rfl⟩)
  rw [← hu2] at HX HY HB HWb HVw
  clear hb al hb2 hu2 a0 a1 b0 b1 hr2
  go_upto_region 4 with fail
  rw [← Hu2.out]
  clear Hu2
  generalize w2.heap.size = g2 at *
  obtain ⟨a0, a1⟩ := vtwo_cells HX.out
  obtain ⟨b0, b1⟩ := vtwo_cells HY.out
  go_wp2_with fail
  refine (HSt.out _ (HPx.out _ HB.out) (HVx.out _ HB.out) (HR.out.below HB.out)).mono ?_
  rintro e w3 ⟨v3, rfl, ⟨A3, n3, c3, B3, m3, d3, rfl, hp3⟩, hb⟩
  simp only at hp3 ⊢
  have al := (Below.refl w3.heap.size w3).alloc (Nat.le_refl _) (.cells #[.slice A3 n3 c3, .slice B3 m3 d3] 25)
  have hb2 := Below.chain hb al
  replace HX := hblk_below HX hb2
  replace HY := hblk_below HY hb2
  replace HB := Lib.hid (HB.out.trans (hb2.mono HB.out.size))
  have HZ := Lib.hid (heap_alloc_new w3 (.cells #[.slice A3 n3 c3, .slice B3 m3 d3] 25))
  have HPq := Lib.hid (PB.below (show PB w3 A3 n3 B3 m3 Q from hp3) al)
  obtain ⟨u3, hu3⟩ : ∃ u, u = w3.alloc (.cells #[.slice A3 n3 c3, .slice B3 m3 d3] 25) := ⟨_, rfl⟩
  have Hu3 := Lib.hid hu3
  replace HWb := hblk_below HWb hb2
  replace HVw := Lib.hid (HVw.out.below hb2)
  rw [← hu3] at HX HY HB HZ HPq HWb HVw
  clear hb al hb2 hu3 a0 a1 b0 b1 hp3
  go_upto_region 5 with fail
  rw [← Hu3.out]
  clear Hu3
  generalize w3.heap.size = g3 at *
  obtain ⟨a0, a1⟩ := vtwo_cells HX.out
  obtain ⟨b0, b1⟩ := vtwo_cells HY.out
  obtain ⟨z0, z1⟩ := vtwo_cells HZ.out
  by_cases her : er = 0
  case neg =>
    have d0 : (er != 0) = true := by simpa using her
    clear her
    go_wp2_with fail
    refine (HVs.out _ (HR.out.below HB.out) (HT.out.below HB.out)).mono ?_
    rintro e w4 ⟨rfl, hb⟩
    go_wp2_with fail
    go_ret
    exact ⟨rfl, HB.out.trans (hb.mono HB.out.size)⟩
  subst her
  have d0 : ((0 : Int) != 0) = false := rfl
  by_cases hf : f = 0
  case neg =>
    have d1 : (f != 0) = true := by simpa using hf
    clear hf
    go_wp2_with fail
    refine (HVs.out _ (HR.out.below HB.out) (HT.out.below HB.out)).mono ?_
    rintro e w4 ⟨rfl, hb⟩
    go_wp2_with fail
    go_ret
    exact ⟨rfl, HB.out.trans (hb.mono HB.out.size)⟩
  subst hf
  have hvt : Vt P N gen area V0 := by
    have h1 := vt_of_open (P := P) (by rw [← Hr.out])
    rw [← Hr.out] at h1
    exact h1
  obtain ⟨n', gen', area', V0', hvt', hgood⟩ := store_inv (P := P) (V := V) (deeds := deeds) (by rw [← Hq.out])
  have hPc : P.cs = [] := by
    have h1 := Hm.out
    cases hcs : P.cs with
    | nil => rfl
    | cons a l => rw [hcs] at h1; simp at h1; omega
  obtain ⟨Rp, hcr, hRc, hRl, hRs, _⟩ := store_crash hvt hPc Hq.out.symm fs
  have ho1 := hvt'.open.symm.trans hvt.open
  simp only [Prod.mk.injEq, Vst.mk.injEq, and_true] at ho1
  obtain ⟨rfl, rfl, rfl, rfl⟩ := ho1
  have hcnt := count_le hvt.cnt
  have hstay := stays_area hvt hPc hRl hRs
  have hlen := hvt.len
  have hblen := hvt.blen
  have har := hvt.area.1
  have hRl' := hRl.trans hlen
  rw [hcr] at HCr
  have Hstay := Lib.hid hstay
  have Hlen := Lib.hid hlen
  have Hblen := Lib.hid hblen
  have HRl := Lib.hid hRl'
  clear hcr hRc hRl hRl' hRs hvt' hvt hPc a0 a1 b0 b1 hstay hlen hblen Hr Hq hgood
  go_wp2_with fail
  refine (HCr.out _ _ ⟨_, _, _, _, _, _, rfl, HPq.out⟩ (Hrf.out.below HB.out)).mono ?_
  rintro e w4 ⟨v4, rfl, ⟨A4, n4, c4, B4, m4, d4, rfl, hc4, hp4⟩, hb⟩
  simp only at hp4 ⊢
  have al := (Below.refl w4.heap.size w4).alloc (Nat.le_refl _) (.cells #[.slice A4 n4 c4, .slice B4 m4 d4] 25)
  have hb2 := Below.chain hb al
  replace HX := hblk_below HX hb2
  replace HWb := hblk_below HWb hb2
  replace HVw := Lib.hid (HVw.out.below hb2)
  replace HB := Lib.hid (HB.out.trans (hb2.mono HB.out.size))
  have HRb := Lib.hid (heap_alloc_new w4 (.cells #[.slice A4 n4 c4, .slice B4 m4 d4] 25))
  have HPr := Lib.hid (PB.below (show PB w4 A4 n4 B4 m4 Rp from hp4) al)
  obtain ⟨u4, hu4⟩ : ∃ u, u = w4.alloc (.cells #[.slice A4 n4 c4, .slice B4 m4 d4] 25) := ⟨_, rfl⟩
  have Hu4 := Lib.hid hu4
  rw [← hu4] at HX HB HRb HPr HWb HVw
  clear hb al hb2 hu4 z0 z1 hp4
  go_upto_region 8 with fail
  rw [← Hu4.out]
  clear Hu4
  generalize w4.heap.size = g4 at *
  have hPp := Hp0.out.below HB.out
  have hn5 : n = 3 + 2 * n' := by rw [hPp.hn]; exact Hlen.out
  have hn6 : n4 = 3 + 2 * n' := by rw [HPr.out.hn]; exact HRl.out
  have hN64 : n' ≤ 64 := hcnt.2
  have hN1 : 1 ≤ n' := hcnt.1
  clear hcnt
  have hlP : P.ss.length = 3 + 2 * n' := Hlen.out
  have hlR : Rp.ss.length = 3 + 2 * n' := HRl.out
  obtain ⟨bA, oA, hA, _⟩ := texts_at hPp.rs (i := 0) (by omega)
  obtain ⟨bR, oR, hR4, _⟩ := texts_at HPr.out.rs (i := 0) (by omega)
  subst hA hR4
  have hrA := hPp.rs
  have hrR := HPr.out.rs
  have Z0 := sub_texts hrA 3 n' (by omega)
  have Z1 := sub_texts hrA (3 + n') n' (by omega)
  have Y0 := sub_texts hrR 3 n' (by omega)
  have Y1 := sub_texts hrR (3 + n') n' (by omega)
  have hVr := HVw.out
  obtain ⟨_, _, _, hve, hrV, hnV2⟩ := hVr
  cases hve
  have hbl' := Hblen.out
  clear Hblen
  rw [hbl'] at HWb
  have T0 := Lib.hid (fun W (hb : Below u4.heap.size u4 W) (y : Later W) => texts_later (n := n') (c := c - 3) (c2 := c2) (Z0.below hb) (hrV.below hb) (by simp; omega) hbl'.symm (by omega) y)
  have T1 := Lib.hid (fun W (hb : Below u4.heap.size u4 W) (y : Later W) => texts_later (n := n') (c := c4 - 3) (c2 := c2) (Y0.below hb) (hrV.below hb) (by simp; omega) hbl'.symm (by omega) y)
  have T2 := Lib.hid (fun W (hb : Below u4.heap.size u4 W) (y : Later W) => texts_later (n := n') (c := c - (3 + n')) (c2 := c2) (Z1.below hb) (hrV.below hb) (by simp; omega) hbl'.symm (by omega) y)
  have T3 := Lib.hid (fun W (hb : Below u4.heap.size u4 W) (y : Later W) => texts_later (n := n') (c := c4 - (3 + n')) (c2 := c2) (Y1.below hb) (hrV.below hb) (by simp; omega) hbl'.symm (by omega) y)
  have hzone : (decide ((P.ss.drop 3).take n' = V0'.bl) = true ∧ decide ((Rp.ss.drop 3).take n' = V0'.bl) = true) ∨ (decide ((P.ss.drop (3 + n')).take n' = V0'.bl) = true ∧ decide ((Rp.ss.drop (3 + n')).take n' = V0'.bl) = true) := by
    have h1 := Hstay.out
    have : area' = 0 ∨ area' = 1 := by omega
    rcases this with rfl | rfl
    · rw [Nat.zero_mul, Nat.add_zero] at h1
      exact .inl ⟨decide_eq_true h1.1, decide_eq_true h1.2⟩
    · rw [Nat.one_mul] at h1
      exact .inr ⟨decide_eq_true h1.1, decide_eq_true h1.2⟩
  generalize decide ((P.ss.drop 3).take n' = V0'.bl) = q0 at *
  generalize decide ((Rp.ss.drop 3).take n' = V0'.bl) = q1 at *
  generalize decide ((P.ss.drop (3 + n')).take n' = V0'.bl) = q2 at *
  generalize decide ((Rp.ss.drop (3 + n')).take n' = V0'.bl) = q3 at *
  clear hrA hrR hPp HPr Z0 Z1 Y0 Y1 hrV hnV2 Hstay Hlen HRl HVw
  obtain ⟨a0, a1⟩ := vtwo_cells HX.out
  obtain ⟨s0, s1⟩ := vtwo_cells HWb.out
  obtain ⟨r0, r1⟩ := vtwo_cells HRb.out
  have f1 : ((n4 : Int) != (n : Int)) = false := by simp; omega
  have f2 : decide ((n' : Int) < 1) = false := decide_eq_false (by omega)
  have n5 : (n : Int) = 3 + 2 * (n' : Int) := by omega
  have n64 : (n' : Int) ≤ 64 := by omega
  go_wp2_with fail
  have q3' : (3 + (n' : Int)).toNat = 3 + n' := by omega
  have q4 : (3 + 2 * (n' : Int)).toNat = 3 + 2 * n' := by omega
  have q5 : (3 : Int) ≤ 3 + (n' : Int) := by omega
  have q6 : 3 + (n' : Int) ≤ (c : Int) := by omega
  have q7 : 3 + (n' : Int) ≤ (c4 : Int) := by omega
  have q8 : 3 + (n' : Int) ≤ 3 + 2 * (n' : Int) := by omega
  have q9 : 3 + 2 * (n' : Int) ≤ (c : Int) := by omega
  have q10 : 3 + 2 * (n' : Int) ≤ (c4 : Int) := by omega
  have q11 : 3 + 2 * n' - (3 + n') = n' := by omega
  have ca0 := fun y : Later u4 => y.cell a0
  have ca1 := fun y : Later u4 => y.cell s0
  have ca2 := fun y : Later u4 => y.cell r0
  clear a1 s1 r1
  cases q0 with
  | false =>
    have hq : q2 = true ∧ q3 = true := by rcases hzone with h | h; exact absurd h.1 (by simp); exact h
    obtain ⟨rfl, rfl⟩ := hq
    have K0 := Lib.hid (T0.out u4 (Below.refl _ _))
    have K1 := Lib.hid (T1.out u4 (Below.refl _ _))
    refine wp_region_later (by kernel_rfl) (by kernel_rfl) ?_
    repeat (go_big_quiet_step (first | with_reducible exact K0.out _ | with_reducible exact K1.out _))
    refine wpQuiet_nil ?_
    rintro _ ⟨y, rfl⟩
    clear K0 K1 ca0 ca1 ca2
    go_wp2_with fail
    have ca0 := fun z : Later y.x => z.cell (y.cell a0)
    have ca1 := fun z : Later y.x => z.cell (y.cell s0)
    have ca2 := fun z : Later y.x => z.cell (y.cell r0)
    have K0 := Lib.hid (T2.out y.x y.ok)
    have K1 := Lib.hid (T3.out y.x y.ok)
    refine wp_region_later (by kernel_rfl) (by kernel_rfl) ?_
    repeat (go_big_quiet_step (first | with_reducible exact K0.out _ | with_reducible exact K1.out _))
    refine wpQuiet_nil ?_
    rintro _ ⟨z, rfl⟩
    go_wp2_with fail
    have HBz := HB.out.trans ((y.ok.trans (z.ok.mono y.ok.size)).mono HB.out.size)
    refine (HVs.out _ (HR.out.below HBz) (HT.out.below HBz)).mono ?_
    rintro e w9 ⟨rfl, hb⟩
    go_wp2_with fail
    go_ret
    exact ⟨rfl, HBz.trans (hb.mono HBz.size)⟩
  | true =>
  cases q1 with
  | false =>
    have hq : q2 = true ∧ q3 = true := by rcases hzone with h | h; exact absurd h.2 (by simp); exact h
    obtain ⟨rfl, rfl⟩ := hq
    have K0 := Lib.hid (T0.out u4 (Below.refl _ _))
    have K1 := Lib.hid (T1.out u4 (Below.refl _ _))
    refine wp_region_later (by kernel_rfl) (by kernel_rfl) ?_
    repeat (go_big_quiet_step (first | with_reducible exact K0.out _ | with_reducible exact K1.out _))
    refine wpQuiet_nil ?_
    rintro _ ⟨y, rfl⟩
    clear K0 K1 ca0 ca1 ca2
    go_wp2_with fail
    have ca0 := fun z : Later y.x => z.cell (y.cell a0)
    have ca1 := fun z : Later y.x => z.cell (y.cell s0)
    have ca2 := fun z : Later y.x => z.cell (y.cell r0)
    have K0 := Lib.hid (T2.out y.x y.ok)
    have K1 := Lib.hid (T3.out y.x y.ok)
    refine wp_region_later (by kernel_rfl) (by kernel_rfl) ?_
    repeat (go_big_quiet_step (first | with_reducible exact K0.out _ | with_reducible exact K1.out _))
    refine wpQuiet_nil ?_
    rintro _ ⟨z, rfl⟩
    go_wp2_with fail
    have HBz := HB.out.trans ((y.ok.trans (z.ok.mono y.ok.size)).mono HB.out.size)
    refine (HVs.out _ (HR.out.below HBz) (HT.out.below HBz)).mono ?_
    rintro e w9 ⟨rfl, hb⟩
    go_wp2_with fail
    go_ret
    exact ⟨rfl, HBz.trans (hb.mono HBz.size)⟩
  | true =>
  have K0 := Lib.hid (T0.out u4 (Below.refl _ _))
  have K1 := Lib.hid (T1.out u4 (Below.refl _ _))
  refine wp_region_later (by kernel_rfl) (by kernel_rfl) ?_
  repeat (go_big_quiet_step (first | with_reducible exact K0.out _ | with_reducible exact K1.out _))
  refine wpQuiet_nil ?_
  rintro _ ⟨y, rfl⟩
  clear K0 K1 ca0 ca1 ca2
  go_wp2_with fail
  cases q2 with
  | false =>
    have ca0 := fun z : Later y.x => z.cell (y.cell a0)
    have ca1 := fun z : Later y.x => z.cell (y.cell s0)
    have ca2 := fun z : Later y.x => z.cell (y.cell r0)
    have K0 := Lib.hid (T2.out y.x y.ok)
    have K1 := Lib.hid (T3.out y.x y.ok)
    refine wp_region_later (by kernel_rfl) (by kernel_rfl) ?_
    repeat (go_big_quiet_step (first | with_reducible exact K0.out _ | with_reducible exact K1.out _))
    refine wpQuiet_nil ?_
    rintro _ ⟨z, rfl⟩
    go_wp2_with fail
    have HBz := HB.out.trans ((y.ok.trans (z.ok.mono y.ok.size)).mono HB.out.size)
    refine (HVs.out _ (HR.out.below HBz) (HT.out.below HBz)).mono ?_
    rintro e w9 ⟨rfl, hb⟩
    go_wp2_with fail
    go_ret
    exact ⟨rfl, HBz.trans (hb.mono HBz.size)⟩
  | true =>
  cases q3 with
  | false =>
    have ca0 := fun z : Later y.x => z.cell (y.cell a0)
    have ca1 := fun z : Later y.x => z.cell (y.cell s0)
    have ca2 := fun z : Later y.x => z.cell (y.cell r0)
    have K0 := Lib.hid (T2.out y.x y.ok)
    have K1 := Lib.hid (T3.out y.x y.ok)
    refine wp_region_later (by kernel_rfl) (by kernel_rfl) ?_
    repeat (go_big_quiet_step (first | with_reducible exact K0.out _ | with_reducible exact K1.out _))
    refine wpQuiet_nil ?_
    rintro _ ⟨z, rfl⟩
    go_wp2_with fail
    have HBz := HB.out.trans ((y.ok.trans (z.ok.mono y.ok.size)).mono HB.out.size)
    refine (HVs.out _ (HR.out.below HBz) (HT.out.below HBz)).mono ?_
    rintro e w9 ⟨rfl, hb⟩
    go_wp2_with fail
    go_ret
    exact ⟨rfl, HBz.trans (hb.mono HBz.size)⟩
  | true =>
    have ca0 := fun z : Later y.x => z.cell (y.cell a0)
    have ca1 := fun z : Later y.x => z.cell (y.cell s0)
    have ca2 := fun z : Later y.x => z.cell (y.cell r0)
    have K0 := Lib.hid (T2.out y.x y.ok)
    have K1 := Lib.hid (T3.out y.x y.ok)
    refine wp_region_later (by kernel_rfl) (by kernel_rfl) ?_
    repeat (go_big_quiet_step (first | with_reducible exact K0.out _ | with_reducible exact K1.out _))
    refine wpQuiet_nil ?_
    rintro _ ⟨z, rfl⟩
    go_wp2_with fail
    have HBz := HB.out.trans ((y.ok.trans (z.ok.mono y.ok.size)).mono HB.out.size)
    refine (HVs.out _ (HR.out.below HBz) (HT.out.below HBz)).mono ?_
    rintro e w9 ⟨rfl, hb⟩
    go_wp2_with fail
    go_ret
    exact ⟨rfl, HBz.trans (hb.mono HBz.size)⟩
end Go.Proofs.YtingcnfhdioejaaGreatDoor
