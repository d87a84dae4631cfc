/-
  Contract of the vault law's rows. (Printed by gen_vaults.py.)
-/
import Derived.Test.YtingcnfhdioejaaGreatDoorVa8
import Derived.Test.YtingcnfhdioejaaGreatDoorBp
import Derived.Test.YtingcnfhdioejaaGreatDoorVaT4
import Derived.Test.YtingcnfhdioejaaGreatDoorMany
namespace Go.Proofs.YtingcnfhdioejaaGreatDoor
open Go.RowKit
set_option linter.unusedVariables false
set_option linter.unusedSimpArgs false
set_option maxRecDepth 100000
set_option maxHeartbeats 20000000

theorem vz_a {B : Nat} {u W w' : World} (h : Below B u W) (hB : B ≤ W.heap.size) (hb : Below W.heap.size W w') : Below B u w' := h.trans (hb.mono hB)
theorem vz_b {B : Nat} {u W w' : World} {o : Obj} (h : Below B u W) (hB : B ≤ W.heap.size) (hb : Below (W.alloc o).heap.size (W.alloc o) w') : Below B u w' := (h.alloc hB o).trans (hb.mono (by simp; omega))
theorem vz_c {W w' : World} {o : Obj} (hb : Below (W.alloc o).heap.size (W.alloc o) w') : w'.heap[W.heap.size]? = some o := cells_below (heap_alloc_new W o) hb
theorem vz_d {B : Nat} {u W w' : World} {o : Obj} (h : Below B u W) (hB : B ≤ W.heap.size) (hb : Below (W.alloc o).drew.heap.size (W.alloc o).drew w') : Below B u w' := ((h.alloc hB o).drew).trans (hb.mono (by show B ≤ (W.alloc o).heap.size; simp; omega))
theorem vz_e {W w' : World} {o : Obj} (hb : Below (W.alloc o).drew.heap.size (W.alloc o).drew w') : w'.heap[W.heap.size]? = some o := cells_below (show (W.alloc o).drew.heap[W.heap.size]? = some o from heap_alloc_new W o) hb
theorem vy_a {u w' : World} (hb : Below u.drew.heap.size u.drew w') : Below u.heap.size u w' := Below.chain ((Below.refl _ u).drew) hb
theorem vy_b {u w' : World} {o : Obj} (hb : Below (u.alloc o).drew.heap.size (u.alloc o).drew w') : Below u.heap.size u w' := Below.chain (((Below.refl _ u).alloc (Nat.le_refl _) o).drew) hb
/-- What the volume's Write leaves: its box. -/
def CutW (u : World) (R1 : ByteArray) (v6 v7 : Value) (wc : World) : Prop := ∃ g A n c, v6 = .pointer (some ⟨g, 0, none⟩) ∧ v7 = .int .i64 0 ∧ wc.heap[g]? = some (.cells #[.slice A n c, .string R1] 27 (0, 0)) ∧ VV wc (.agg #[.slice A n c, .string R1]) (rooted bl1) ∧ Below u.heap.size u wc
theorem cutW_new {u w6 : World} {R1 : ByteArray} (h : Below u.heap.size u w6) {A : Option Addr} {n c : Nat} (hr : Rd w6 A (textsV (rooted bl1).bl)) (hn : n = (rooted bl1).bl.length) (hR : R1 = (rooted bl1).rt) : CutW u R1 (.pointer (some ⟨w6.heap.size, 0, none⟩)) (.int .i64 0) (w6.alloc (.cells #[.slice A n c, .string (rooted bl1).rt] 27)) := by
  subst hR
  have al := (Below.refl w6.heap.size w6).alloc (Nat.le_refl _) (.cells #[.slice A n c, .string (rooted bl1).rt] 27)
  exact ⟨_, A, n, c, rfl, rfl, heap_alloc_new w6 _, ⟨A, n, c, rfl, hr.below al, hn⟩, Below.chain h al⟩
theorem cutW_set {u w6 : World} {R1 : ByteArray} {g : Nat} {z0 z1 : Value} (h : Below u.heap.size u w6) (hg : u.heap.size ≤ g) (hz : w6.heap[g]? = some (.cells #[z0, z1] 27 (0, 0))) {A : Option Addr} {n c : Nat} (hA : ∀ b o, A = some ⟨b, o, none⟩ → g < b) (hr : Rd w6 A (textsV (rooted bl1).bl)) (hn : n = (rooted bl1).bl.length) (hR : R1 = (rooted bl1).rt) :
    CutW u R1 (.pointer (some ⟨g, 0, none⟩)) (.int .i64 0) ((w6.setCell ⟨g, 0, none⟩ (.slice A n c)).setCell ⟨g, 1, none⟩ (.string (rooted bl1).rt)) := by
  subst hR
  exact ⟨g, A, n, c, rfl, rfl, two_set hz _ _, ⟨A, n, c, rfl, vrd_set (vrd_set hr (fun b o e h => by have := hA b o e; omega) _) (fun b o e h => by have := hA b o e; omega) _, hn⟩, two_by h hg _ _⟩
theorem vaults_any (w : World) (hR : Rounds w) (hT : Turns w) :
    Calls Tryz.prog 18 #[] w fun e w' => e = .returned (.bool true) ∧ Below w.heap.size w w' := by
  have HR := Lib.hid hR
  have HT := Lib.hid hT
  have zk : keyV.size ≤ maxLen := by rw [show keyV.size = 32 from vrep_size 32 1]; decide
  have zn : nonV.size ≤ maxLen := by rw [show nonV.size = 12 from vrep_size 12 2]; decide
  have M1 := Lib.hid (fun W => show Calls Tryz.prog 24 #[.int .u8 1, .int .i64 32] W fun e w' => e = .returned (.string keyV) ∧ Below W.heap.size W w' from many_any 1 32 W (by omega))
  have M2 := Lib.hid (fun W => show Calls Tryz.prog 24 #[.int .u8 2, .int .i64 12] W fun e w' => e = .returned (.string nonV) ∧ Below W.heap.size W w' from many_any 2 12 W (by omega))
  have HF := Lib.hid (fun W h => show Calls Tryz.prog 10 #[.int .i64 2] W (PlR W (diskF, 0)) from by
    have h3 := vformat_any 2 W (by decide) h
    rw [vF.1] at h3
    exact h3)
  have lenOf : ∀ {P : Plat} {n gen area : Nat} {V : Vol}, openP P = (⟨n, gen, area, V⟩, 0) → P.ss.length ≤ maxLen := fun {P n gen area V} h => by
    have h1 := (vt_of_open (P := P) (by rw [h])).len
    have h2 := (count_le (vt_of_open (P := P) (by rw [h])).cnt).2
    unfold maxLen
    omega
  have oF : openP diskF = (⟨2, 0, 0, rooted bl0⟩, 0) := vF.2.2.open
  have LF := Lib.hid (fun v W (h : PlV W v diskF) h2 => show Calls Tryz.prog 12 #[v] W (LoadR W (⟨2, 0, 0, rooted bl0⟩, 0)) from by
    have h3 := vload_any v diskF W h (lenOf oF) h2
    rw [oF] at h3
    exact h3)
  have LB := Lib.hid (fun v W (h : PlV W v diskB) h2 => show Calls Tryz.prog 12 #[v] W (LoadR W (⟨2, 0, 0, rooted bl0⟩, 0)) from by
    have h3 := vload_any v diskB W h (lenOf storeA.2.2) h2
    rw [storeA.2.2] at h3
    exact h3)
  have LC := Lib.hid (fun v W (h : PlV W v diskC) h2 => show Calls Tryz.prog 12 #[v] W (LoadR W (⟨2, 1, 1, rooted bl1⟩, 0)) from by
    have h3 := vload_any v diskC W h (lenOf storeC.2) h2
    rw [storeC.2] at h3
    exact h3)
  have lb1 : (rooted bl1).bl.length ≤ maxLen := by decide
  have SA := Lib.hid (fun v vv W (h : PlV W v diskF) (hv : VV W vv (rooted bl1)) h2 => show Calls Tryz.prog 14 #[v, vv, .int .i64 2] W (DoR W (diskA, false, 0)) from by
    have h3 := vstore_any v vv diskF (rooted bl1) 2 W h hv (lenOf oF) lb1 h2
    rw [storeA.1] at h3
    exact h3)
  have SC := Lib.hid (fun v vv W (h : PlV W v diskF) (hv : VV W vv (rooted bl1)) h2 => show Calls Tryz.prog 14 #[v, vv, .int .i64 (-1)] W (DoR W (diskC, true, 0)) from by
    have h3 := vstore_any v vv diskF (rooted bl1) (-1) W h hv (lenOf oF) lb1 h2
    rw [storeC.1] at h3
    exact h3)
  have CR := Lib.hid (fun v W (h : PlV W v diskA) => show Calls Tryz.prog 21 #[v, .slice none 0 0] W (PlR W (diskB, 0)) from by
    have h3 := crash_any v diskA none 0 0 [] W h (Rd.nil _ _) rfl (by decide) (by simp)
    rw [storeA.2.1] at h3
    exact h3)
  have WR := Lib.hid (fun v W (h : VV W v (rooted bl0)) h1 h2 => show Calls Tryz.prog 23 #[v, .string keyV, .string nonV, .int .i64 1, .string ⟨#[97, 98, 99]⟩] W (VolE W (rooted bl1) 0) from by
    have h3 := vwrite_any v (rooted bl0) keyV nonV 1 abcT W h zk zn (by decide) h1 h2
    rw [write0.1, write0.2.1] at h3
    exact h3)
  have S00 := Lib.hid (fun v1 v2 W (h1 : VV W v1 (rooted bl0)) (h2 : VV W v2 (rooted bl0)) => show Calls Tryz.prog 17 #[v1, v2] W fun e w' => e = .returned (.bool true) ∧ Below W.heap.size W w' from by
    have h3 := same16_any v1 v2 _ _ W h1 h2 (by decide)
    rw [sameV_true.2 rfl] at h3
    exact h3)
  have S11 := Lib.hid (fun v1 v2 W (h1 : VV W v1 (rooted bl1)) (h2 : VV W v2 (rooted bl1)) => show Calls Tryz.prog 17 #[v1, v2] W fun e w' => e = .returned (.bool true) ∧ Below W.heap.size W w' from by
    have h3 := same16_any v1 v2 _ _ W h1 h2 (by decide)
    rw [sameV_true.2 rfl] at h3
    exact h3)
  obtain ⟨R0, hR0⟩ : ∃ R0, R0 = (rooted bl0).rt := ⟨_, rfl⟩
  obtain ⟨R1, hR1⟩ : ∃ R1, R1 = (rooted bl1).rt := ⟨_, rfl⟩
  have hR0s : R0.size = 32 := by rw [hR0]; exact (vol_parts check0V).2.1
  obtain ⟨hd1, hhd1⟩ : ∃ hd, hd = headS 1 0 R0 := ⟨_, rfl⟩
  have hd1s : hd1.size = 37 := by rw [hhd1, hR0]; exact headV1
  have HH1 := Lib.hid (fun W => show Calls Tryz.prog 19 #[.int .i64 1, .int .i64 0, .string R0] W fun e w' => e = .returned (.string hd1) ∧ Below W.heap.size W w' from by rw [hhd1]; exact vhead_any 1 0 R0 W (by omega))
  have HH2 := Lib.hid (fun W => show Calls Tryz.prog 19 #[.int .i64 1, .int .i64 2, .string R0] W fun e w' => e = .returned (.string ⟨#[]⟩) ∧ Below W.heap.size W w' from by
    have h3 := vhead_any 1 2 R0 W (by omega)
    rw [show headS 1 2 R0 = ⟨#[]⟩ by rw [hR0]; exact headV2] at h3
    exact h3)
  have HR0 := Lib.hid hR0
  have HR1 := Lib.hid hR1
  have f37 : ((hd1.size : Int) == 37) = true := by simp; omega
  have fz : ((0 : Int) == (0 : Int)) = true := rfl
  clear hR hT zk zn lenOf oF lb1 hR0 hR1 hR0s hd1s hhd1
  go_enter Tryz.func18, Tryz.ntmps18
  have HB := Lib.hid (Below.refl w.heap.size w)
  go_wp2_with fail
  refine (HF.out _ (HR.out.below HB.out)).mono ?_
  rintro e w1 ⟨vp, rfl, ⟨Ap, np, cp, Bp, mp, dp, rfl, hpp⟩, hb⟩
  replace HB := Lib.hid (HB.out.trans (hb.mono HB.out.size))
  have al := (Below.refl w1.heap.size w1).alloc (Nat.le_refl _) (.cells #[.slice Ap np cp, .slice Bp mp dp] 25)
  replace HB := Lib.hid (HB.out.trans (al.mono HB.out.size))
  have Hp := Lib.hid (heap_alloc_new w1 (.cells #[.slice Ap np cp, .slice Bp mp dp] 25))
  have HPp := Lib.hid (hpp.below al)
  obtain ⟨up, hup⟩ : ∃ u, u = w1.alloc (.cells #[.slice Ap np cp, .slice Bp mp dp] 25) := ⟨_, rfl⟩
  have Hup := Lib.hid hup
  rw [← hup] at HB Hp HPp
  clear hb al hup hpp
  go_upto_region 2 with fail
  rw [← Hup.out]
  clear Hup
  generalize w1.heap.size = gp at *
  obtain ⟨pa, pb⟩ := vtwo_cells Hp.out
  go_wp2_with fail
  refine (LF.out _ _ ⟨_, _, _, _, _, _, rfl, HPp.out⟩ (HR.out.below HB.out)).mono ?_
  rintro e w2 ⟨Av, cv, rfl, ⟨hrv, -⟩, hb⟩
  simp only at hrv
  rw [show (rooted bl0).rt = R0 from HR0.out.symm]
  clear pa pb
  replace Hp := hblk_below Hp hb
  replace HPp := Lib.hid (HPp.out.below hb)
  replace HB := Lib.hid (HB.out.trans (hb.mono HB.out.size))
  have al := (Below.refl w2.heap.size w2).alloc (Nat.le_refl _) (.cells #[.slice Av (rooted bl0).bl.length cv, .string R0] 27)
  replace Hp := hblk_below Hp al
  replace HPp := Lib.hid (HPp.out.below al)
  replace HB := Lib.hid (HB.out.trans (al.mono HB.out.size))
  have Hv := Lib.hid (heap_alloc_new w2 (.cells #[.slice Av (rooted bl0).bl.length cv, .string R0] 27))
  have HVv := Lib.hid (show VV _ (.agg #[.slice Av (rooted bl0).bl.length cv, .string R0]) (rooted bl0) from ⟨Av, _, cv, by rw [HR0.out], hrv.below al, rfl⟩)
  have hpv := trivial
  obtain ⟨uv, huv⟩ : ∃ u, u = w2.alloc (.cells #[.slice Av (rooted bl0).bl.length cv, .string R0] 27) := ⟨_, rfl⟩
  have Huv := Lib.hid huv
  rw [← huv] at HB Hp Hv HPp HVv
  clear hb al huv hpv
  go_upto_region 3 with fail
  rw [← Huv.out]
  clear Huv
  generalize w2.heap.size = gv at *
  obtain ⟨pa, pb⟩ := vtwo_cells Hp.out
  obtain ⟨va, vb⟩ := vtwo_cells Hv.out
  have Huv0 := Lib.hid (Below.refl uv.heap.size uv)
  have HRv0 := Lib.hid (HR.out.below HB.out)
  have HTv0 := Lib.hid (HT.out.below HB.out)
  go_cut [6, 7] from 33 to 39 (fun v6 v7 wc => CutW uv R1 v6 v7 wc)
  case first =>
    have hvlt := cell_lt_of Hv.out
    have V2 : (uv.cell? ⟨gv, 0, none⟩ = some (.slice Av (rooted bl0).bl.length cv) ∧ uv.cell? ⟨gv, 1, none⟩ = some (.string R0)) := ⟨va, vb⟩
    have ne0 : uv.heap.size ≠ gv := by omega
    have ne4 : ∀ k, uv.heap.size ≤ k → k ≠ gv := fun k hk => by omega
    have HVW := Lib.hid (show ∀ W, Below uv.heap.size uv W → Calls Tryz.prog 23 #[.agg #[.slice Av (rooted bl0).bl.length cv, .string R0], .string keyV, .string nonV, .int .i64 1, .string ⟨#[97, 98, 99]⟩] W (VolE W (rooted bl1) 0) from fun W h => WR.out _ _ (HVv.out.below h) (HRv0.out.below h) (HTv0.out.below h))
    have K0 := Huv0
    go_region_held3 (fun w' => w'.cell? ⟨gv, 0, none⟩ = some (.slice Av (rooted bl0).bl.length cv) ∧ w'.cell? ⟨gv, 1, none⟩ = some (.string R0))
      (first | with_reducible assumption | with_reducible exact V2 | with_reducible exact keep2_below V2 ((Below.refl _ _).drew) | with_reducible exact keep2_below V2 (((Below.refl _ _).alloc (Nat.le_refl _) _).drew) | with_reducible exact keep2_alloc Q4 | with_reducible exact keep2_alloc Q5 | with_reducible exact keep2_alloc Q6 | with_reducible exact keep2_set (keep2_set Q6 (va_ne ne0) (va_ne ne0)) (va_ne ne0) (va_ne ne0) | with_reducible exact keep2_set (keep2_set Q6 (va_ne (ne4 _ K4.out.size)) (va_ne (ne4 _ K4.out.size))) (va_ne (ne4 _ K4.out.size)) (va_ne (ne4 _ K4.out.size)) | with_reducible exact keep2_set (keep2_set Q6 (va_ne (ne4 _ K5.out.size)) (va_ne (ne4 _ K5.out.size))) (va_ne (ne4 _ K5.out.size)) (va_ne (ne4 _ K5.out.size)))
      (first
        | ((go_at_call 24; with_reducible refine (M1.out _).mono ?_); rintro _ w4 ⟨rfl, hb4⟩; (first | (have K4 := Lib.hid (by with_reducible exact vy_a hb4); have Q4 := keep2_below (keep2_below V2 ((Below.refl _ _).drew)) hb4) | (have K4 := Lib.hid (by with_reducible exact vy_b hb4); have Q4 := keep2_below (keep2_below V2 (((Below.refl _ _).alloc (Nat.le_refl _) _).drew)) hb4; have Z4 := Lib.hid (by with_reducible exact vz_e hb4))); clear hb4)
        | ((go_at_call 24; with_reducible refine (M2.out _).mono ?_); rintro _ w5 ⟨rfl, hb5⟩; (first | (have K5 := Lib.hid (by with_reducible exact vz_a K4.out K4.out.size hb5); have Q5 := keep2_below Q4 hb5; try have Z5 := hblk_below Z4 hb5) | (have K5 := Lib.hid (by with_reducible exact vz_b K4.out K4.out.size hb5); have Q5 := keep2_below (keep2_alloc Q4) hb5; have Z5 := Lib.hid (by with_reducible exact vz_c hb5))); clear hb5)
        | (go_at_call 23; (with_reducible refine (HVW.out _ K5.out).mono ?_); rintro _ w6 ⟨v6, rfl, ⟨A6, n6, c6, rfl, ⟨hr6, hA6⟩, hn6⟩, hb6⟩; have K6 := Lib.hid (by with_reducible exact vz_a K5.out K5.out.size hb6); have Q6 := keep2_below Q5 hb6; have HA6 := Lib.hid (show ∀ b o, A6 = some ⟨b, o, none⟩ → w5.heap.size ≤ b from hA6); have Z6 := hblk_below Z5 hb6; obtain ⟨z0, z1, z2, z3⟩ := two_cells Z6.out; have lt6 := cell_lt_of Z5.out; have ge6 := K4.out.size; have HR6 := Lib.hid hr6; have HN6 := Lib.hid hn6; clear hb6 hr6 hA6 hn6)
        | (go_at_call 23; (with_reducible refine (HVW.out _ K5.out).mono ?_); rintro _ w6 ⟨v6, rfl, ⟨A6, n6, c6, rfl, ⟨hr6, hA6⟩, hn6⟩, hb6⟩; have K6 := Lib.hid (by with_reducible exact vz_a K5.out K5.out.size hb6); have Q6 := keep2_below Q5 hb6; have HA6 := Lib.hid (show ∀ b o, A6 = some ⟨b, o, none⟩ → w5.heap.size ≤ b from hA6); have HR6 := Lib.hid hr6; have HN6 := Lib.hid hn6; clear hb6 hr6 hA6 hn6)
        | (go_at_call 23; (with_reducible refine (HVW.out _ (K5.out.alloc K5.out.size _)).mono ?_); rintro _ w6 ⟨v6, rfl, ⟨A6, n6, c6, rfl, ⟨hr6, hA6⟩, hn6⟩, hb6⟩; have K6 := Lib.hid (by with_reducible exact vz_b K5.out K5.out.size hb6); have Q6 := keep2_below (keep2_alloc Q5) hb6; have HA6 := Lib.hid (show ∀ b o, A6 = some ⟨b, o, none⟩ → w5.heap.size + 1 ≤ b from fun b o e => by have := hA6 b o e; simp at this; exact this); have Z6 := Lib.hid (by with_reducible exact vz_c hb6); obtain ⟨z0, z1, z2, z3⟩ := two_cells Z6.out; have HR6 := Lib.hid hr6; have HN6 := Lib.hid hn6; clear hb6 hr6 hA6 hn6))
    all_goals
      go_wp2_with fail
      go_meet
      case rel =>
        first
          | exact cutW_new K6.out HR6.out HN6.out HR1.out
          | exact cutW_set K6.out K5.out.size Z6.out (fun b o e => by have := HA6.out b o e; omega) HR6.out HN6.out HR1.out
          | exact cutW_set K6.out K4.out.size Z6.out (fun b o e => by have := HA6.out b o e; omega) HR6.out HN6.out HR1.out
          | exact cutW_set K6.out (Nat.le_refl _) Z6.out (fun b o e => by have := HA6.out b o e; omega) HR6.out HN6.out HR1.out
  case rest =>
  obtain ⟨gw, Aw, nw, cw, rfl, rfl, hw, hvw, hb⟩ := hcut
  rename World => uw
  clear pa pb va vb
  replace Hp := hblk_below Hp hb
  replace Hv := hblk_below Hv hb
  replace HPp := Lib.hid (HPp.out.below hb)
  replace HVv := Lib.hid (HVv.out.below hb)
  replace HB := Lib.hid (HB.out.trans (hb.mono HB.out.size))
  have Hw := Lib.hid hw
  have HVw := Lib.hid hvw
  clear hw hvw hb Huv0 HRv0 HTv0
  obtain ⟨pa, pb⟩ := vtwo_cells Hp.out
  obtain ⟨va, vb⟩ := vtwo_cells Hv.out
  obtain ⟨wa, wb⟩ := vtwo_cells Hw.out
  go_wp2_with fail
  refine (SA.out _ _ _ ⟨_, _, _, _, _, _, rfl, HPp.out⟩ HVw.out (HR.out.below HB.out)).mono ?_
  rintro e w4 ⟨va, rfl, ⟨Aa, na, ca, Ba, ma, da, rfl, hpa⟩, hb⟩
  clear pa pb va vb wa wb
  replace Hp := hblk_below Hp hb
  replace Hv := hblk_below Hv hb
  replace Hw := hblk_below Hw hb
  replace HPp := Lib.hid (HPp.out.below hb)
  replace HVv := Lib.hid (HVv.out.below hb)
  replace HVw := Lib.hid (HVw.out.below hb)
  replace HB := Lib.hid (HB.out.trans (hb.mono HB.out.size))
  have al := (Below.refl w4.heap.size w4).alloc (Nat.le_refl _) (.cells #[.slice Aa na ca, .slice Ba ma da] 25)
  replace Hp := hblk_below Hp al
  replace Hv := hblk_below Hv al
  replace Hw := hblk_below Hw al
  replace HPp := Lib.hid (HPp.out.below al)
  replace HVv := Lib.hid (HVv.out.below al)
  replace HVw := Lib.hid (HVw.out.below al)
  replace HB := Lib.hid (HB.out.trans (al.mono HB.out.size))
  have Ha := Lib.hid (heap_alloc_new w4 (.cells #[.slice Aa na ca, .slice Ba ma da] 25))
  have HPa := Lib.hid (hpa.below al)
  obtain ⟨ua, hua⟩ : ∃ u, u = w4.alloc (.cells #[.slice Aa na ca, .slice Ba ma da] 25) := ⟨_, rfl⟩
  have Hua := Lib.hid hua
  rw [← hua] at HB Hp Hv Hw Ha HPp HVv HVw HPa
  clear hb al hua hpa
  go_upto_region 5 with fail
  rw [← Hua.out]
  clear Hua
  generalize w4.heap.size = ga at *
  obtain ⟨pa, pb⟩ := vtwo_cells Hp.out
  obtain ⟨va, vb⟩ := vtwo_cells Hv.out
  obtain ⟨wa, wb⟩ := vtwo_cells Hw.out
  obtain ⟨aa, ab⟩ := vtwo_cells Ha.out
  go_wp2_with fail
  refine (CR.out _ _ ⟨_, _, _, _, _, _, rfl, HPa.out⟩).mono ?_
  rintro e w5 ⟨vb, rfl, ⟨Ab, nb, cb, Bb, mb, db, rfl, hpb⟩, hb⟩
  clear pa pb va vb wa wb aa ab
  replace Hp := hblk_below Hp hb
  replace Hv := hblk_below Hv hb
  replace Hw := hblk_below Hw hb
  replace Ha := hblk_below Ha hb
  replace HPp := Lib.hid (HPp.out.below hb)
  replace HVv := Lib.hid (HVv.out.below hb)
  replace HVw := Lib.hid (HVw.out.below hb)
  replace HPa := Lib.hid (HPa.out.below hb)
  replace HB := Lib.hid (HB.out.trans (hb.mono HB.out.size))
  have al := (Below.refl w5.heap.size w5).alloc (Nat.le_refl _) (.cells #[.slice Ab nb cb, .slice Bb mb db] 25)
  replace Hp := hblk_below Hp al
  replace Hv := hblk_below Hv al
  replace Hw := hblk_below Hw al
  replace Ha := hblk_below Ha al
  replace HPp := Lib.hid (HPp.out.below al)
  replace HVv := Lib.hid (HVv.out.below al)
  replace HVw := Lib.hid (HVw.out.below al)
  replace HPa := Lib.hid (HPa.out.below al)
  replace HB := Lib.hid (HB.out.trans (al.mono HB.out.size))
  have Hb := Lib.hid (heap_alloc_new w5 (.cells #[.slice Ab nb cb, .slice Bb mb db] 25))
  have HPb := Lib.hid (hpb.below al)
  obtain ⟨ub, hub⟩ : ∃ u, u = w5.alloc (.cells #[.slice Ab nb cb, .slice Bb mb db] 25) := ⟨_, rfl⟩
  have Hub := Lib.hid hub
  rw [← hub] at HB Hp Hv Hw Ha Hb HPp HVv HVw HPa HPb
  clear hb al hub hpb
  go_upto_region 6 with fail
  rw [← Hub.out]
  clear Hub
  generalize w5.heap.size = gb at *
  obtain ⟨pa, pb⟩ := vtwo_cells Hp.out
  obtain ⟨va, vb⟩ := vtwo_cells Hv.out
  obtain ⟨wa, wb⟩ := vtwo_cells Hw.out
  obtain ⟨aa, ab⟩ := vtwo_cells Ha.out
  obtain ⟨ba, bb⟩ := vtwo_cells Hb.out
  go_wp2_with fail
  refine (LB.out _ _ ⟨_, _, _, _, _, _, rfl, HPb.out⟩ (HR.out.below HB.out)).mono ?_
  rintro e w6 ⟨Ax, cx, rfl, ⟨hrx, -⟩, hb⟩
  simp only at hrx
  rw [show (rooted bl0).rt = R0 from HR0.out.symm]
  clear pa pb va vb wa wb aa ab ba bb
  replace Hp := hblk_below Hp hb
  replace Hv := hblk_below Hv hb
  replace Hw := hblk_below Hw hb
  replace Ha := hblk_below Ha hb
  replace Hb := hblk_below Hb hb
  replace HPp := Lib.hid (HPp.out.below hb)
  replace HVv := Lib.hid (HVv.out.below hb)
  replace HVw := Lib.hid (HVw.out.below hb)
  replace HPa := Lib.hid (HPa.out.below hb)
  replace HPb := Lib.hid (HPb.out.below hb)
  replace HB := Lib.hid (HB.out.trans (hb.mono HB.out.size))
  have al := (Below.refl w6.heap.size w6).alloc (Nat.le_refl _) (.cells #[.slice Ax (rooted bl0).bl.length cx, .string R0] 27)
  replace Hp := hblk_below Hp al
  replace Hv := hblk_below Hv al
  replace Hw := hblk_below Hw al
  replace Ha := hblk_below Ha al
  replace Hb := hblk_below Hb al
  replace HPp := Lib.hid (HPp.out.below al)
  replace HVv := Lib.hid (HVv.out.below al)
  replace HVw := Lib.hid (HVw.out.below al)
  replace HPa := Lib.hid (HPa.out.below al)
  replace HPb := Lib.hid (HPb.out.below al)
  replace HB := Lib.hid (HB.out.trans (al.mono HB.out.size))
  have Hx := Lib.hid (heap_alloc_new w6 (.cells #[.slice Ax (rooted bl0).bl.length cx, .string R0] 27))
  have HVx := Lib.hid (show VV _ (.agg #[.slice Ax (rooted bl0).bl.length cx, .string R0]) (rooted bl0) from ⟨Ax, _, cx, by rw [HR0.out], hrx.below al, rfl⟩)
  have hpx := trivial
  obtain ⟨ux, hux⟩ : ∃ u, u = w6.alloc (.cells #[.slice Ax (rooted bl0).bl.length cx, .string R0] 27) := ⟨_, rfl⟩
  have Hux := Lib.hid hux
  rw [← hux] at HB Hp Hv Hw Ha Hb Hx HPp HVv HVw HPa HPb HVx
  clear hb al hux hpx
  go_upto_region 7 with fail
  rw [← Hux.out]
  clear Hux
  generalize w6.heap.size = gx at *
  obtain ⟨pa, pb⟩ := vtwo_cells Hp.out
  obtain ⟨va, vb⟩ := vtwo_cells Hv.out
  obtain ⟨wa, wb⟩ := vtwo_cells Hw.out
  obtain ⟨aa, ab⟩ := vtwo_cells Ha.out
  obtain ⟨ba, bb⟩ := vtwo_cells Hb.out
  obtain ⟨xa, xb⟩ := vtwo_cells Hx.out
  go_wp2_with fail
  refine (SC.out _ _ _ ⟨_, _, _, _, _, _, rfl, HPp.out⟩ HVw.out (HR.out.below HB.out)).mono ?_
  rintro e w7 ⟨vc, rfl, ⟨Ac, nc, cc, Bc, mc, dc, rfl, hpc⟩, hb⟩
  clear pa pb va vb wa wb aa ab ba bb xa xb
  replace Hp := hblk_below Hp hb
  replace Hv := hblk_below Hv hb
  replace Hw := hblk_below Hw hb
  replace Ha := hblk_below Ha hb
  replace Hb := hblk_below Hb hb
  replace Hx := hblk_below Hx hb
  replace HPp := Lib.hid (HPp.out.below hb)
  replace HVv := Lib.hid (HVv.out.below hb)
  replace HVw := Lib.hid (HVw.out.below hb)
  replace HPa := Lib.hid (HPa.out.below hb)
  replace HPb := Lib.hid (HPb.out.below hb)
  replace HVx := Lib.hid (HVx.out.below hb)
  replace HB := Lib.hid (HB.out.trans (hb.mono HB.out.size))
  have al := (Below.refl w7.heap.size w7).alloc (Nat.le_refl _) (.cells #[.slice Ac nc cc, .slice Bc mc dc] 25)
  replace Hp := hblk_below Hp al
  replace Hv := hblk_below Hv al
  replace Hw := hblk_below Hw al
  replace Ha := hblk_below Ha al
  replace Hb := hblk_below Hb al
  replace Hx := hblk_below Hx al
  replace HPp := Lib.hid (HPp.out.below al)
  replace HVv := Lib.hid (HVv.out.below al)
  replace HVw := Lib.hid (HVw.out.below al)
  replace HPa := Lib.hid (HPa.out.below al)
  replace HPb := Lib.hid (HPb.out.below al)
  replace HVx := Lib.hid (HVx.out.below al)
  replace HB := Lib.hid (HB.out.trans (al.mono HB.out.size))
  have Hc := Lib.hid (heap_alloc_new w7 (.cells #[.slice Ac nc cc, .slice Bc mc dc] 25))
  have HPc := Lib.hid (hpc.below al)
  obtain ⟨uc, huc⟩ : ∃ u, u = w7.alloc (.cells #[.slice Ac nc cc, .slice Bc mc dc] 25) := ⟨_, rfl⟩
  have Huc := Lib.hid huc
  rw [← huc] at HB Hp Hv Hw Ha Hb Hx Hc HPp HVv HVw HPa HPb HVx HPc
  clear hb al huc hpc
  go_upto_region 8 with fail
  rw [← Huc.out]
  clear Huc
  generalize w7.heap.size = gc at *
  obtain ⟨pa, pb⟩ := vtwo_cells Hp.out
  obtain ⟨va, vb⟩ := vtwo_cells Hv.out
  obtain ⟨wa, wb⟩ := vtwo_cells Hw.out
  obtain ⟨aa, ab⟩ := vtwo_cells Ha.out
  obtain ⟨ba, bb⟩ := vtwo_cells Hb.out
  obtain ⟨xa, xb⟩ := vtwo_cells Hx.out
  obtain ⟨ca, cb⟩ := vtwo_cells Hc.out
  go_wp2_with fail
  refine (LC.out _ _ ⟨_, _, _, _, _, _, rfl, HPc.out⟩ (HR.out.below HB.out)).mono ?_
  rintro e w8 ⟨Ay, cy, rfl, ⟨hry, -⟩, hb⟩
  simp only at hry
  rw [show (rooted bl1).rt = R1 from HR1.out.symm]
  clear pa pb va vb wa wb aa ab ba bb xa xb ca cb
  replace Hp := hblk_below Hp hb
  replace Hv := hblk_below Hv hb
  replace Hw := hblk_below Hw hb
  replace Ha := hblk_below Ha hb
  replace Hb := hblk_below Hb hb
  replace Hx := hblk_below Hx hb
  replace Hc := hblk_below Hc hb
  replace HPp := Lib.hid (HPp.out.below hb)
  replace HVv := Lib.hid (HVv.out.below hb)
  replace HVw := Lib.hid (HVw.out.below hb)
  replace HPa := Lib.hid (HPa.out.below hb)
  replace HPb := Lib.hid (HPb.out.below hb)
  replace HVx := Lib.hid (HVx.out.below hb)
  replace HPc := Lib.hid (HPc.out.below hb)
  replace HB := Lib.hid (HB.out.trans (hb.mono HB.out.size))
  have al := (Below.refl w8.heap.size w8).alloc (Nat.le_refl _) (.cells #[.slice Ay (rooted bl1).bl.length cy, .string R1] 27)
  replace Hp := hblk_below Hp al
  replace Hv := hblk_below Hv al
  replace Hw := hblk_below Hw al
  replace Ha := hblk_below Ha al
  replace Hb := hblk_below Hb al
  replace Hx := hblk_below Hx al
  replace Hc := hblk_below Hc al
  replace HPp := Lib.hid (HPp.out.below al)
  replace HVv := Lib.hid (HVv.out.below al)
  replace HVw := Lib.hid (HVw.out.below al)
  replace HPa := Lib.hid (HPa.out.below al)
  replace HPb := Lib.hid (HPb.out.below al)
  replace HVx := Lib.hid (HVx.out.below al)
  replace HPc := Lib.hid (HPc.out.below al)
  replace HB := Lib.hid (HB.out.trans (al.mono HB.out.size))
  have Hy := Lib.hid (heap_alloc_new w8 (.cells #[.slice Ay (rooted bl1).bl.length cy, .string R1] 27))
  have HVy := Lib.hid (show VV _ (.agg #[.slice Ay (rooted bl1).bl.length cy, .string R1]) (rooted bl1) from ⟨Ay, _, cy, by rw [HR1.out], hry.below al, rfl⟩)
  have hpy := trivial
  obtain ⟨uy, huy⟩ : ∃ u, u = w8.alloc (.cells #[.slice Ay (rooted bl1).bl.length cy, .string R1] 27) := ⟨_, rfl⟩
  have Huy := Lib.hid huy
  rw [← huy] at HB Hp Hv Hw Ha Hb Hx Hc Hy HPp HVv HVw HPa HPb HVx HPc HVy
  clear hb al huy hpy
  go_upto_region 9 with fail
  rw [← Huy.out]
  clear Huy
  generalize w8.heap.size = gy at *
  obtain ⟨pa, pb⟩ := vtwo_cells Hp.out
  obtain ⟨va, vb⟩ := vtwo_cells Hv.out
  obtain ⟨wa, wb⟩ := vtwo_cells Hw.out
  obtain ⟨aa, ab⟩ := vtwo_cells Ha.out
  obtain ⟨ba, bb⟩ := vtwo_cells Hb.out
  obtain ⟨xa, xb⟩ := vtwo_cells Hx.out
  obtain ⟨ca, cb⟩ := vtwo_cells Hc.out
  obtain ⟨ya, yb⟩ := vtwo_cells Hy.out
  have n2 : (((rooted bl0).bl.length : Nat) : Int) = 2 := rfl
  go_wp2_with fail
  refine (S00.out _ _ _ HVx.out HVv.out).mono ?_
  rintro e w20 ⟨rfl, hb⟩
  clear pa pb va vb wa wb aa ab ba bb xa xb ca cb ya yb
  replace Hp := hblk_below Hp hb
  replace Hv := hblk_below Hv hb
  replace Hw := hblk_below Hw hb
  replace Ha := hblk_below Ha hb
  replace Hb := hblk_below Hb hb
  replace Hx := hblk_below Hx hb
  replace Hc := hblk_below Hc hb
  replace Hy := hblk_below Hy hb
  replace HPp := Lib.hid (HPp.out.below hb)
  replace HVv := Lib.hid (HVv.out.below hb)
  replace HVw := Lib.hid (HVw.out.below hb)
  replace HPa := Lib.hid (HPa.out.below hb)
  replace HPb := Lib.hid (HPb.out.below hb)
  replace HVx := Lib.hid (HVx.out.below hb)
  replace HPc := Lib.hid (HPc.out.below hb)
  replace HVy := Lib.hid (HVy.out.below hb)
  replace HB := Lib.hid (HB.out.trans (hb.mono HB.out.size))
  clear hb
  obtain ⟨pa, pb⟩ := vtwo_cells Hp.out
  obtain ⟨va, vb⟩ := vtwo_cells Hv.out
  obtain ⟨wa, wb⟩ := vtwo_cells Hw.out
  obtain ⟨aa, ab⟩ := vtwo_cells Ha.out
  obtain ⟨ba, bb⟩ := vtwo_cells Hb.out
  obtain ⟨xa, xb⟩ := vtwo_cells Hx.out
  obtain ⟨ca, cb⟩ := vtwo_cells Hc.out
  obtain ⟨ya, yb⟩ := vtwo_cells Hy.out
  go_wp2_with fail
  refine (S11.out _ _ _ HVy.out HVw.out).mono ?_
  rintro e w21 ⟨rfl, hb⟩
  clear pa pb va vb wa wb aa ab ba bb xa xb ca cb ya yb
  replace Hp := hblk_below Hp hb
  replace Hv := hblk_below Hv hb
  replace Hw := hblk_below Hw hb
  replace Ha := hblk_below Ha hb
  replace Hb := hblk_below Hb hb
  replace Hx := hblk_below Hx hb
  replace Hc := hblk_below Hc hb
  replace Hy := hblk_below Hy hb
  replace HPp := Lib.hid (HPp.out.below hb)
  replace HVv := Lib.hid (HVv.out.below hb)
  replace HVw := Lib.hid (HVw.out.below hb)
  replace HPa := Lib.hid (HPa.out.below hb)
  replace HPb := Lib.hid (HPb.out.below hb)
  replace HVx := Lib.hid (HVx.out.below hb)
  replace HPc := Lib.hid (HPc.out.below hb)
  replace HVy := Lib.hid (HVy.out.below hb)
  replace HB := Lib.hid (HB.out.trans (hb.mono HB.out.size))
  clear hb
  obtain ⟨pa, pb⟩ := vtwo_cells Hp.out
  obtain ⟨va, vb⟩ := vtwo_cells Hv.out
  obtain ⟨wa, wb⟩ := vtwo_cells Hw.out
  obtain ⟨aa, ab⟩ := vtwo_cells Ha.out
  obtain ⟨ba, bb⟩ := vtwo_cells Hb.out
  obtain ⟨xa, xb⟩ := vtwo_cells Hx.out
  obtain ⟨ca, cb⟩ := vtwo_cells Hc.out
  obtain ⟨ya, yb⟩ := vtwo_cells Hy.out
  go_wp2_with fail
  refine (HH1.out _).mono ?_
  rintro e w22 ⟨rfl, hb⟩
  clear pa pb va vb wa wb aa ab ba bb xa xb ca cb ya yb
  replace Hp := hblk_below Hp hb
  replace Hv := hblk_below Hv hb
  replace Hw := hblk_below Hw hb
  replace Ha := hblk_below Ha hb
  replace Hb := hblk_below Hb hb
  replace Hx := hblk_below Hx hb
  replace Hc := hblk_below Hc hb
  replace Hy := hblk_below Hy hb
  replace HPp := Lib.hid (HPp.out.below hb)
  replace HVv := Lib.hid (HVv.out.below hb)
  replace HVw := Lib.hid (HVw.out.below hb)
  replace HPa := Lib.hid (HPa.out.below hb)
  replace HPb := Lib.hid (HPb.out.below hb)
  replace HVx := Lib.hid (HVx.out.below hb)
  replace HPc := Lib.hid (HPc.out.below hb)
  replace HVy := Lib.hid (HVy.out.below hb)
  replace HB := Lib.hid (HB.out.trans (hb.mono HB.out.size))
  clear hb
  obtain ⟨pa, pb⟩ := vtwo_cells Hp.out
  obtain ⟨va, vb⟩ := vtwo_cells Hv.out
  obtain ⟨wa, wb⟩ := vtwo_cells Hw.out
  obtain ⟨aa, ab⟩ := vtwo_cells Ha.out
  obtain ⟨ba, bb⟩ := vtwo_cells Hb.out
  obtain ⟨xa, xb⟩ := vtwo_cells Hx.out
  obtain ⟨ca, cb⟩ := vtwo_cells Hc.out
  obtain ⟨ya, yb⟩ := vtwo_cells Hy.out
  go_wp2_with fail
  refine (HH2.out _).mono ?_
  rintro e w23 ⟨rfl, hb⟩
  clear pa pb va vb wa wb aa ab ba bb xa xb ca cb ya yb
  replace Hp := hblk_below Hp hb
  replace Hv := hblk_below Hv hb
  replace Hw := hblk_below Hw hb
  replace Ha := hblk_below Ha hb
  replace Hb := hblk_below Hb hb
  replace Hx := hblk_below Hx hb
  replace Hc := hblk_below Hc hb
  replace Hy := hblk_below Hy hb
  replace HPp := Lib.hid (HPp.out.below hb)
  replace HVv := Lib.hid (HVv.out.below hb)
  replace HVw := Lib.hid (HVw.out.below hb)
  replace HPa := Lib.hid (HPa.out.below hb)
  replace HPb := Lib.hid (HPb.out.below hb)
  replace HVx := Lib.hid (HVx.out.below hb)
  replace HPc := Lib.hid (HPc.out.below hb)
  replace HVy := Lib.hid (HVy.out.below hb)
  replace HB := Lib.hid (HB.out.trans (hb.mono HB.out.size))
  clear hb
  obtain ⟨pa, pb⟩ := vtwo_cells Hp.out
  obtain ⟨va, vb⟩ := vtwo_cells Hv.out
  obtain ⟨wa, wb⟩ := vtwo_cells Hw.out
  obtain ⟨aa, ab⟩ := vtwo_cells Ha.out
  obtain ⟨ba, bb⟩ := vtwo_cells Hb.out
  obtain ⟨xa, xb⟩ := vtwo_cells Hx.out
  obtain ⟨ca, cb⟩ := vtwo_cells Hc.out
  obtain ⟨ya, yb⟩ := vtwo_cells Hy.out
  go_wp2_with fail
  go_ret
  exact ⟨rfl, HB.out⟩
end Go.Proofs.YtingcnfhdioejaaGreatDoor
