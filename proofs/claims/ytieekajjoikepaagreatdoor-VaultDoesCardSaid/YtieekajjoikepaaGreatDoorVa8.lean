/-
  Contract of vault.Store.
-/
import Derived.Test.YtieekajjoikepaaGreatDoorVm
namespace Go.Proofs.YtieekajjoikepaaGreatDoor
open Go.RowKit
set_option linter.unusedVariables false
set_option linter.unusedSimpArgs false
set_option maxRecDepth 100000
set_option maxHeartbeats 40000000
attribute [local go_sem] Oper.semAt_some

theorem va_blk (W : World) (o1 o2 : Obj) : ((W.alloc o1).alloc o2).heap[W.heap.size]? = some o1 ∧ ((W.alloc o1).alloc o2).heap[W.heap.size + 1]? = some o2 ∧ Below W.heap.size W ((W.alloc o1).alloc o2) := ⟨(va_al2 W o1 o2).1, (va_al2 W o1 o2).2.1, (va_al2 W o1 o2).2.2.1⟩
theorem vstore_any (v vv : Value) (P : Plat) (V : Vol) (deeds : Int) (w : World) (h : PlV w v P) (hv : VV w vv V) (hl : P.ss.length ≤ maxLen) (hlv : V.bl.length ≤ maxLen) (hR : Rounds w) :
    Calls Tryz.prog 10 #[v, vv, .int .i64 deeds] w (DoR w (storeP P V deeds)) := by
  have HV0 := Lib.hid hv
  obtain ⟨A, n, c, B, m, d, rfl, h⟩ := h
  obtain ⟨AV, nV, cV, rfl, hrv, hnV⟩ := hv
  have hst := st_new w (.slice A n c) (.slice B m d) (.slice AV nV cV) (.string V.rt) deeds
  have HS := Lib.hid hst
  have HP := Lib.hid (h.below hst.hb)
  have HRv := Lib.hid (hrv.below hst.hb)
  have HR := Lib.hid (hR.below hst.hb)
  have HN := Lib.hid hnV
  have HOp := Lib.hid (fun W h1 h2 => vopen_any (.agg #[.slice A n c, .slice B m d]) P W h1 hl h2)
  have HCk := Lib.hid (fun W h => vcheck_any (.agg #[.slice AV nV cV, .string V.rt]) V W h)
  have Hvt := Lib.hid (fun h => vt_of_open (P := P) h)
  have Hhm := Lib.hid (show m = P.cs.length from h.hm)
  have HPw := Lib.hid h
  have HRw := Lib.hid hrv
  have HRow := Lib.hid hR
  obtain ⟨r, hr⟩ : ∃ r, r = openP P := ⟨_, rfl⟩
  have Hr := Lib.hid hr
  rw [← hr] at HOp Hvt
  obtain ⟨⟨N, gen, area, V0⟩, er⟩ := r
  simp only at HOp Hvt
  have HE := Lib.hid (show storeP P V deeds = if er ≠ 0 then (noPlat, false, er)
      else if checkV V = false ∨ V.bl.length ≠ N then (noPlat, false, 160) else if rootT V.bl ≠ V.rt then (noPlat, false, 161) else if gen = 1000000000 then (noPlat, false, 260)
      else endP (runL ((deedV V N area).take (allN N deeds)) P) ⟨N, gen, area, V0⟩ V (allN N deeds) by
    unfold storeP
    rw [← hr])
  have hnm : nV ≤ 9223372036854775807 := by unfold maxLen at hlv; omega
  obtain ⟨p0, p1⟩ := vtwo_cells hst.gp
  clear h hrv hnV hst hr hl hlv hR
  refine (callsIn_wide (n := 4)).1 ?_
  refine callsIn_of_wp_marks Tryz.func10 rfl trivial ?_ rfl
  simp only [Tryz.ntmps10, List.size_toArray, List.length_cons, List.length_nil, Nat.reduceAdd, Nat.reduceSub, Array.replicate_succ, Array.replicate_zero, List.push_toArray, List.append_toArray, List.nil_append, List.cons_append]
  refine wpIn_wide.2 ?_
  refine Code.wp_mono NoPanic.imp ?_
  go_wp2_with fail
  refine (HOp.out _ ⟨_, _, _, _, _, _, rfl, HP.out⟩ HR.out).mono ?_
  rintro e w2 ⟨A2, c2, rfl, ⟨hrd, hfar⟩, hb2⟩
  simp only
  obtain ⟨gc, hgc⟩ : ∃ gc, gc = w2.heap.size := ⟨_, rfl⟩
  obtain ⟨kc, kx, kb⟩ := va_blk w2 (.cells #[.int .i64 (N : Nat), .int .i64 (area : Nat), .int .i64 (gen : Nat), .slice A2 V0.bl.length c2, .string V0.rt] 51) (.cells #[.int .i64 er] 30)
  have hbb := Below.chain hb2 kb
  have HS2 := Lib.hid (HS.out.below hbb)
  have HP2 := Lib.hid (HP.out.below hbb)
  have HRv2 := Lib.hid (HRv.out.below hbb)
  have HR2 := Lib.hid (HR.out.below hbb)
  have HV2 := Lib.hid (show VV _ (.agg #[.slice AV nV cV, .string V.rt]) V from ⟨AV, nV, cV, rfl, HRv2.out, HN.out⟩)
  obtain ⟨w3, hw3⟩ : ∃ w3, w3 = (w2.alloc (.cells #[.int .i64 (N : Nat), .int .i64 (area : Nat), .int .i64 (gen : Nat), .slice A2 V0.bl.length c2, .string V0.rt] 51)).alloc (.cells #[.int .i64 er] 30) := ⟨_, rfl⟩
  have Hw3 := Lib.hid hw3
  have Hgc := Lib.hid (show w.heap.size + 6 ≤ w2.heap.size from Nat.le_trans HS.out.hz hb2.size)
  rw [← hw3] at kc kx HS2 HP2 HRv2 HR2 HV2
  have HC := Lib.hid kc
  have HX := Lib.hid kx
  clear hrd hfar hb2 kb hbb hw3 HS HP HRv HR p0 p1 HV0 HOp kc kx
  go_upto_region 2 with fail
  rw [← Hw3.out]
  clear Hw3
  subst hgc
  have Hgx := Lib.hid (show w.heap.size + 7 ≤ w2.heap.size + 1 by have := Hgc.out; omega)
  have Hcx := Lib.hid (show w2.heap.size < w2.heap.size + 1 by omega)
  generalize w2.heap.size + 1 = gx at *
  generalize w2.heap.size = gc at *
  have x0 := rf_at HX.out 0 _ rfl
  obtain ⟨r0, r1, r2, r3⟩ := two_cells HS2.out.gr
  have b0 := rf_at HS2.out.gb 0 _ rfl
  have b1 := rf_fr HS2.out.gb 0
  have e0 := rf_at HS2.out.ge 0 _ rfl
  have e1 := rf_fr HS2.out.ge 0
  have m1 : ¬ gx = w.heap.size + 1 + 1 + 1 := by have := Hgx.out; omega
  have m2 : ¬ gx = w.heap.size + 1 + 1 + 1 + 1 := by have := Hgx.out; omega
  have m3 : ¬ gx = w.heap.size + 1 + 1 + 1 + 1 + 1 := by have := Hgx.out; omega
  have m1' : ¬ w.heap.size + 1 + 1 + 1 = gx := by have := Hgx.out; omega
  have m2' : ¬ w.heap.size + 1 + 1 + 1 + 1 = gx := by have := Hgx.out; omega
  have m3' : ¬ w.heap.size + 1 + 1 + 1 + 1 + 1 = gx := by have := Hgx.out; omega
  by_cases her : er = 0
  case neg =>
    have d1 : (er != 0) = true := by simpa using her
    have HE1 := Lib.hid (show storeP P V deeds = (noPlat, false, er) by rw [HE.out, if_pos her])
    clear her
    go_upto_region 3 with fail
    go_region_law (fail)
    all_goals
      go_wp2_with fail
      (try simp only [Exit.inBlock, Exit.then])
      rw [HE1.out]
      refine ret_m (store_end ((HS2.out.setR _ _ _ _).below ((Below.refl _ _).drew)) (PlV.no _) rfl rfl [] List.nodup_nil (fun D hD => by cases hD) _ (by rfl) (by rfl) (by rfl))
  subst her
  have d1 : ((0 : Int) != 0) = false := rfl
  have Vt0 := Lib.hid (Hvt.out rfl)
  rw [if_neg (fun hh => hh rfl)] at HE
  have hN1 := Vt0.out.area
  have hN2 := count_le Vt0.out.cnt
  obtain ⟨v0, v1⟩ := vtwo_cells HS2.out.gv
  obtain ⟨⟨c0, c1, c2', c3, c4⟩, _⟩ := ch5_cells HC.out
  cases hck : checkV V with
  | false =>
    rw [hck] at HCk
    have HE1 := Lib.hid (show storeP P V deeds = (noPlat, false, 160) by rw [HE.out, if_pos (.inl hck)])
    clear hck HE
    go_wp2_with fail
    refine (HCk.out _ HV2.out).mono ?_
    rintro e w4 ⟨rfl, hb4⟩
    have HS4 := Lib.hid (HS2.out.below hb4)
    clear hb4 x0 r0 r1 r2 r3 b0 b1 e0 e1 v0 v1 c0 c1 c2' c3 c4
    obtain ⟨r0, r1, r2, r3⟩ := two_cells HS4.out.gr
    have b0 := rf_at HS4.out.gb 0 _ rfl
    have b1 := rf_fr HS4.out.gb 0
    have e0 := rf_at HS4.out.ge 0 _ rfl
    have e1 := rf_fr HS4.out.ge 0
    go_wp2_with fail
    (try simp only [Exit.inBlock, Exit.then])
    rw [HE1.out]
    refine ret_m (store_end (HS4.out.setR _ _ _ _) (PlV.no _) rfl rfl [] List.nodup_nil (fun D hD => by cases hD) _ (by rfl) (by rfl) (by rfl))
  | true =>
  rw [hck] at HCk
  by_cases hlN : nV = N
  case neg =>
    have d2 : ((nV : Int) != (N : Int)) = true := by simp; omega
    have HE1 := Lib.hid (show storeP P V deeds = (noPlat, false, 160) by rw [HE.out, if_pos (.inr (by rw [← HN.out]; exact hlN))])
    clear hck HE hlN
    go_wp2_with fail
    refine (HCk.out _ HV2.out).mono ?_
    rintro e w4 ⟨rfl, hb4⟩
    have HS4 := Lib.hid (HS2.out.below hb4)
    have HC4 := Lib.hid (cells_below HC.out hb4)
    clear hb4 x0 r0 r1 r2 r3 b0 b1 e0 e1 v0 v1 c0 c1 c2' c3 c4
    obtain ⟨r0, r1, r2, r3⟩ := two_cells HS4.out.gr
    have b0 := rf_at HS4.out.gb 0 _ rfl
    have b1 := rf_fr HS4.out.gb 0
    have e0 := rf_at HS4.out.ge 0 _ rfl
    have e1 := rf_fr HS4.out.ge 0
    obtain ⟨v0, v1⟩ := vtwo_cells HS4.out.gv
    obtain ⟨⟨c0, c1, c2', c3, c4⟩, _⟩ := ch5_cells HC4.out
    go_wp2_with fail
    (try simp only [Exit.inBlock, Exit.then])
    rw [HE1.out]
    refine ret_m (store_end (HS4.out.setR _ _ _ _) (PlV.no _) rfl rfl [] List.nodup_nil (fun D hD => by cases hD) _ (by rfl) (by rfl) (by rfl))
  have hnot : ¬ (checkV V = false ∨ V.bl.length ≠ N) := by
    rintro (hh | hh)
    · rw [hck] at hh; cases hh
    · exact hh (HN.out.symm.trans hlN)
  rw [if_neg hnot] at HE
  subst hlN
  have d2 : ((nV : Int) != (nV : Int)) = false := by simp
  clear hnot
  have HRt := Lib.hid (fun W h1 h2 => vrooted_any (.agg #[.slice AV nV cV, .string V.rt]) V W h1 hck h2)
  go_wp2_with fail
  refine (HCk.out _ HV2.out).mono ?_
  rintro e w4 ⟨rfl, hb4⟩
  have HS4 := Lib.hid (HS2.out.below hb4)
  have HC4 := Lib.hid (cells_below HC.out hb4)
  have HX4 := Lib.hid (cells_below HX.out hb4)
  have HP4 := Lib.hid (HP2.out.below hb4)
  have HRv4 := Lib.hid (HRv2.out.below hb4)
  have HR4 := Lib.hid (HR2.out.below hb4)
  have HV4 := Lib.hid (HV2.out.below hb4)
  clear hb4 x0 r0 r1 r2 r3 b0 b1 e0 e1 v0 v1 c0 c1 c2' c3 c4 HS2 HC HX HP2 HRv2 HR2 HV2 HCk
  obtain ⟨v0, v1⟩ := vtwo_cells HS4.out.gv
  obtain ⟨⟨c0, c1, c2', c3, c4⟩, _⟩ := ch5_cells HC4.out
  go_wp2_with fail
  refine (HRt.out _ HV4.out HR4.out).mono ?_
  rintro e w5 ⟨rfl, hb5⟩
  have HS5 := Lib.hid (HS4.out.below hb5)
  have HC5 := Lib.hid (cells_below HC4.out hb5)
  have HX5 := Lib.hid (cells_below HX4.out hb5)
  have HP5 := Lib.hid (HP4.out.below hb5)
  have HRv5 := Lib.hid (HRv4.out.below hb5)
  clear hb5 v0 v1 c0 c1 c2' c3 c4 HS4 HC4 HX4 HP4 HRv4 HR4 HV4 HRt
  obtain ⟨r0, r1, r2, r3⟩ := two_cells HS5.out.gr
  have b0 := rf_at HS5.out.gb 0 _ rfl
  have b1 := rf_fr HS5.out.gb 0
  have e0 := rf_at HS5.out.ge 0 _ rfl
  have e1 := rf_fr HS5.out.ge 0
  by_cases hrt : rootT V.bl = V.rt
  case neg =>
    have HE1 := Lib.hid (show storeP P V deeds = (noPlat, false, 161) by rw [HE.out, if_pos hrt])
    rw [decide_eq_false hrt]
    clear hrt HE
    go_wp2_with fail
    (try simp only [Exit.inBlock, Exit.then])
    rw [HE1.out]
    refine ret_m (store_end (HS5.out.setR _ _ _ _) (PlV.no _) rfl rfl [] List.nodup_nil (fun D hD => by cases hD) _ (by rfl) (by rfl) (by rfl))
  rw [if_neg (fun hh => hh hrt)] at HE
  rw [decide_eq_true hrt]
  obtain ⟨⟨c0, c1, c2', c3, c4⟩, _⟩ := ch5_cells HC5.out
  by_cases hgen : gen = 1000000000
  case pos =>
    have HE1 := Lib.hid (show storeP P V deeds = (noPlat, false, 260) by rw [HE.out, if_pos hgen])
    have d3 : ((gen : Int) == 1000000000) = true := by simp; omega
    clear hgen HE hrt
    go_wp2_with fail
    (try simp only [Exit.inBlock, Exit.then])
    rw [HE1.out]
    refine ret_m (store_end (HS5.out.setR _ _ _ _) (PlV.no _) rfl rfl [] List.nodup_nil (fun D hD => by cases hD) _ (by rfl) (by rfl) (by rfl))
  rw [if_neg hgen] at HE
  have d3 : ((gen : Int) == 1000000000) = false := by simp; omega
  clear hgen hrt r0 r1 r2 r3 b0 b1 e0 e1
  clear m1 m2 m3 m1' m2' m3' HP5 HRv5
  go_upto_region 11 with fail
  clear c1 c2' c3 c4
  obtain ⟨D, hD⟩ : ∃ D, D = allN nV deeds := ⟨_, rfl⟩
  have HD := Lib.hid hD
  have dd0 := rf_at HS5.out.gd 0 _ rfl
  have dd1 := rf_fr HS5.out.gd 0
  go_cut [58] from 52 to 58 (fun v wc => v = .bool (decide (deeds < 0 ∨ (nV : Int) + 1 + 4 < deeds)) ∧ wc = w5)
  case first =>
    clear hD
    by_cases hneg : deeds < 0
    · have f1 : decide (deeds < 0) = true := decide_eq_true hneg
      have f9 := Lib.hid (decide_eq_true (show deeds < 0 ∨ (nV : Int) + 1 + 4 < deeds from .inl hneg))
      clear hneg
      go_wp2_with fail
      go_meet
      case rel => exact ⟨congrArg Value.bool f9.out.symm, rfl⟩
    · have f1 : decide (deeds < 0) = false := decide_eq_false hneg
      by_cases hbig : (nV : Int) + 1 + 4 < deeds
      · have f2 : decide (deeds > (nV : Int) + 1 + 4) = true := decide_eq_true hbig
        have f9 := Lib.hid (decide_eq_true (show deeds < 0 ∨ (nV : Int) + 1 + 4 < deeds from .inr hbig))
        clear hneg hbig
        go_wp2_with fail
        go_meet
        case rel => exact ⟨congrArg Value.bool f9.out.symm, rfl⟩
      · have f2 : decide (deeds > (nV : Int) + 1 + 4) = false := decide_eq_false hbig
        have f9 := Lib.hid (decide_eq_false (show ¬ (deeds < 0 ∨ (nV : Int) + 1 + 4 < deeds) from by omega))
        clear hneg hbig
        go_wp2_with fail
        go_meet
        case rel => exact ⟨congrArg Value.bool f9.out.symm, rfl⟩
  case rest =>
  obtain ⟨rfl, rfl⟩ := hcut
  rename World => w5
  go_upto_if 58 with fail
  go_cut [] from 58 to 59 (fun wc => ST w (.slice A n c) (.slice B m d) (.slice AV nV cV) (.string V.rt) (D : Nat) (.slice none 0 0) (.slice none 0 0) false 0 wc ∧ wc.heap[gc]? = some (.cells #[.int .i64 (nV : Nat), .int .i64 (area : Nat), .int .i64 (gen : Nat), .slice A2 V0.bl.length c2, .string V0.rt] 51 (0, 0)) ∧ wc.heap[gx]? = some (.cells #[.int .i64 0] 30 (0, 0)))
  case first =>
    by_cases hneg : deeds < 0 ∨ (nV : Int) + 1 + 4 < deeds
    · rw [decide_eq_true hneg]
      have hDD : (nV : Int) + 1 + 4 = ((D : Nat) : Int) := by rw [hD]; unfold allN; rw [if_pos (by omega)]; omega
      have HDD := Lib.hid hDD
      clear hneg hD hDD
      go_wp2_with fail
      go_meet
      case rel =>
        have h6 := HS5.out.setD ((nV : Int) + 1 + 4)
        refine ⟨?_, blk_oth HC5.out (by have := Hgc.out; omega) _, blk_oth HX5.out (by have := Hgx.out; omega) _⟩
        rw [← HDD.out]
        exact h6
    · rw [decide_eq_false hneg]
      have hDD : deeds = ((D : Nat) : Int) := by rw [hD]; unfold allN; rw [if_neg (by omega)]; omega
      have HDD := Lib.hid hDD
      clear hneg hD hDD
      go_wp2_with fail
      go_meet
      case rel =>
        have h6 := HS5.out
        rw [HDD.out] at h6
        exact ⟨h6, HC5.out, HX5.out⟩
  case rest =>
  obtain ⟨hs6, hc6, hx6⟩ := hcut
  rename World => w6
  have HS6 := Lib.hid hs6
  have HC6 := Lib.hid hc6
  have HX6 := Lib.hid hx6
  have HG6 := Lib.hid hs6.gp
  have HP6 := Lib.hid (HPw.out.below hs6.hb)
  have hl := Vt0.out.len
  have hck5 := (check_parts Vt0.out.chk).2.2.1
  have hn9 : n ≤ 1000000 := by rw [HPw.out.hn, hl]; omega
  have hm9 : m ≤ 1000000 := by rw [HPw.out.hm]; omega
  have hgpz : w.heap.size < w6.heap.size := cell_lt_of hs6.gp
  clear hs6 hc6 hx6 dd0 dd1 c0 hl hck5 HS5 HC5 HX5 hD
  obtain ⟨p0, p1, p2, p3⟩ := two_cells HG6.out
  go_upto_region 13 with fail
  go_cut [] from 60 to 66 (fun wc => ∃ A1 c1 B1 d1, SU w gc gx #[.int .i64 (nV : Nat), .int .i64 (area : Nat), .int .i64 (gen : Nat), .slice A2 V0.bl.length c2, .string V0.rt] (.slice AV nV cV) (.string V.rt) (D : Nat) 0 A1 n c1 B1 m d1 P wc)
  case first =>
    go_region_law (first
      | (refine step_append_copy (by rfl) _ _ 22 (by rfl) w6.heap.size 9 (.string ⟨#[]⟩) 1 16 Tryz.underlying22 string_info rfl (by omega) (by rfl) A n c (by rfl) (textsV P.ss) (by exact HP6.out.rs) (by rw [textsV_len, ← HP6.out.hn, Nat.mul_one]) (textsV_one _) (by omega) (by omega) (by exact Nat.le_refl _) ?_; intro A1 cap1 w7 ho1 hb7'; have hb7 := Below.chain ((Below.refl _ w6).drew) hb7'; clear hb7'; obtain ⟨q0, q1, q2, q3⟩ := two_cells (hblk_below HG6 hb7).out)
      | (refine step_append_copy (by rfl) _ _ 23 (by rfl) w6.heap.size 65 (.agg #[.int .i64 0, .string ⟨#[]⟩]) 2 24 Tryz.underlying23 put_info rfl (by omega) (by rfl) B m d (by rfl) (putsV P.cs) (by exact HP6.out.rc.below hb7) (by rw [putsV_len, ← HP6.out.hm]) (putsV_one _) (by omega) (by omega) (by exact hb7.size) ?_; intro B1 cap2 w8 ho2 hb8; obtain ⟨t0, t1, t2, t3⟩ := two_cells (hblk_below (hblk_below HG6 hb7) hb8).out))
    all_goals
      have hs8 := (HS6.out.below hb7).below hb8
      have hO := (show OB w8 w6.heap.size A1 n cap1 B1 m cap2 P from ⟨HP6.out.hn, HP6.out.hm, own_keep ho1 hb8, ho2⟩)
      have hc8 := cells_below (cells_below HC6.out hb7) hb8
      have hx8 := cells_below (cells_below HX6.out hb7) hb8
      have HU8 := Lib.hid (show SU w gc gx #[.int .i64 (nV : Nat), .int .i64 (area : Nat), .int .i64 (gen : Nat), .slice A2 V0.bl.length c2, .string V0.rt] (.slice AV nV cV) (.string V.rt) (D : Nat) 0 A1 n cap1 B1 m cap2 P ((w8.setCell ⟨w.heap.size, 0, none⟩ (.slice A1 n cap1)).setCell ⟨w.heap.size, 1, none⟩ (.slice B1 m cap2)) from
        ⟨hs8.setP _ _, hO.pb.two hs8.gp, blk_oth (blk_oth hc8 (by have := Hgc.out; omega) _) (by have := Hgc.out; omega) _, blk_oth (blk_oth hx8 (by have := Hgx.out; omega) _) (by have := Hgx.out; omega) _⟩)
      clear hs8 hO hc8 hx8
      go_wp2_with fail
      go_meet
      case rel => first | exact ⟨_, _, _, _, HU8.out⟩ | exact ⟨_, _, _, _, HU8.out.drew⟩
  case rest =>
  obtain ⟨A1, c1, B1, d1, hu⟩ := hcut
  rename World => w7
  have HU := Lib.hid hu
  have hz7 : w.heap.size + 6 ≤ w7.heap.size ∧ gx < w7.heap.size := ⟨hu.st.hz, cell_lt_of hu.hx⟩
  obtain ⟨v0, v1⟩ := vtwo_cells hu.st.gv
  obtain ⟨⟨y0, y1, y2, y3, y4⟩, _⟩ := ch5_cells hu.hc
  clear hu p0 p1 p2 p3 HS6 HC6 HX6 HG6 HP6
  go_wp2_with fail
  refine (callsIn_wide.1 (deeds_in 4 _ _ _ _ _ _ _ _)).mono ?_
  rintro e w8 ⟨rfl, rfl⟩
  obtain ⟨kc, kv, kb⟩ := va_blk w7 (.cells #[.int .i64 (nV : Nat), .int .i64 (area : Nat), .int .i64 (gen : Nat), .slice A2 V0.bl.length c2, .string V0.rt] 51) (.cells #[.slice AV nV cV, .string V.rt] 27)
  have HU8 := Lib.hid (HU.out.below kb)
  obtain ⟨w8, hw8⟩ : ∃ w8, w8 = ((w7.alloc (.cells #[.int .i64 (nV : Nat), .int .i64 (area : Nat), .int .i64 (gen : Nat), .slice A2 V0.bl.length c2, .string V0.rt] 51)).alloc (.cells #[.slice AV nV cV, .string V.rt] 27)) := ⟨_, rfl⟩
  have hw8s : w8.heap.size = w7.heap.size + 2 := by rw [hw8]; simp
  rw [← hw8] at kc kv HU8
  have HKc := Lib.hid kc
  have HKv := Lib.hid kv
  have Hw8 := Lib.hid hw8
  clear kc kv kb v0 v1 y0 y1 y2 y3 y4 hw8 HU
  go_wp2_with fail
  rw [← Hw8.out]
  clear Hw8
  have hz8 : w.heap.size ≤ w8.heap.size := HU8.out.st.hb.size
  have hgx8 : gx < w8.heap.size := cell_lt_of HU8.out.hx
  generalize w7.heap.size = g7 at *
  have hg1 := Hgx.out
  have hg2 := Hgc.out
  have hg3 := Hcx.out
  have hDle : D ≤ nV + 5 := by rw [HD.out]; exact all_le _ _
  refine (wpIn_wide (n := 4)).1 ?_
  refine wpIn_rangeFunc_tells1 (t := 12) rfl (by omega) (gf := 63) (lb := #[.pointer (some ⟨g7 + 1, 0, none⟩), .pointer (some ⟨g7, 0, none⟩)]) rfl trivial (enters_of Tryz.func63 (by kernel_rfl) rfl)
    (E := fun pre x X => DeedW g7 nV area V pre.length X x) (Kp := KpT w.heap.size [g7 + 1, g7]) (S := fun xs => xs.length = nV + 1) (Sp := fun _ => True)
    (fun l J Jx W hW hJ _ hY h0 => deeds1_in 3 (by omega) l _ _ w.heap.size nV area nV cV AV V _ _ _ w W rfl (HU8.out.st.hb.trans (hW.mono hz8)) HRw.out HN.out rfl (by omega) (cells_below HKv.out hW) (cells_below HKc.out hW) J Jx hJ hY h0)
    kpT_t (fun X => ⟨Below.refl _ _, fun b _ => rfl⟩) (kpT_b hz8 (by simp; omega))
    (SI w gc gx #[.int .i64 (nV : Nat), .int .i64 (area : Nat), .int .i64 (gen : Nat), .slice A2 V0.bl.length c2, .string V0.rt] (.slice AV nV cV) (.string V.rt) D (deedV V nV area) P) (fun cd pre W => SX w (storeP P V deeds) cd W)
    (fun s X Y row h hg hr => h.kept hg (fun r e => ⟨by have := (hr r e).1; omega, (hr r e).2⟩)) (fun cd s X Y row h hg hr => h.kept hg (fun r e => ⟨by have := (hr r e).1; omega, (hr r e).2⟩))
    ⟨A1, n, c1, B1, m, d1, P, rfl, Nat.zero_le _, HU8.out⟩ (fun pre x s X Y row h hg hr => h.kept hg (fun r e => (hr r e).2))
    ?assign ?body ?done ?stop
  case assign =>
    rintro l x X K hK
    (try simp only [List.setIfInBounds_toArray, List.set_cons_zero, List.set_cons_succ] at hK ⊢)
    gi_wp2
    exact hK
  case body =>
    rintro l pre x X hl ⟨r, hr⟩ hI hE
    obtain ⟨A4, n4, c4, B4, m4, d4, Q, hrun, hle, hsu⟩ := hI.ex
    have hlX : w8.heap.size < X.heap.size := Nat.lt_of_le_of_lt hl (cell_lt_of hr)
    have hkN : pre.length ≤ nV := by
      rcases hE with ⟨h, _⟩ | ⟨h, _⟩
      · omega
      · omega
    have HUx := Lib.hid hsu
    have Hrun := Lib.hid hrun
    have HEd := Lib.hid hE
    have hlen : (pre ++ [x]).length = pre.length + 1 := by rw [List.length_append]; rfl
    have Hlen := Lib.hid hlen
    obtain ⟨p0, p1, p2, p3⟩ := two_cells hsu.st.gp
    have dd0 := rf_at hsu.st.gd 0 _ rfl
    obtain ⟨r0, r1, r2, r3⟩ := two_cells hsu.st.gr
    have b0 := rf_at hsu.st.gb 0 _ rfl
    have b1 := rf_fr hsu.st.gb 0
    have e0 := rf_at hsu.st.ge 0 _ rfl
    have e1 := rf_fr hsu.st.ge 0
    simp only [List.setIfInBounds_toArray, List.set_cons_zero, List.set_cons_succ]
    clear hI hsu hrun hE hr hlen
    by_cases hD0 : D = pre.length
    · have f1 : (((D - pre.length : Nat) : Int) == 0) = true := by simp; omega
      have HSt := Lib.hid (show storeP P V deeds = (Q, false, 0) by
        rw [HE.out, ← HD.out, hD0, Hrun.out, endP, if_neg (by simp), if_pos (by show _ < nV + 1; omega)])
      clear hD0
      gi_wp2
      have ht := ((((TC.refl w gx X).set (g := w.heap.size + 1 + 1 + 1) (i := 0) (.inl (by omega)) (.slice A4 n4 c4)).set (g := w.heap.size + 1 + 1 + 1) (i := 1) (.inl (by omega)) (.slice B4 m4 d4)).set (g := w.heap.size + 1 + 1 + 1 + 1) (i := 0) (.inl (by omega)) (.bool false)).set (g := w.heap.size + 1 + 1 + 1 + 1 + 1) (i := 0) (.inl (by omega)) (.int .i64 0)
      refine ⟨ht.keeps (by omega) (by omega), ⟨rfl, _, _, _, _, _, _, _, _, _, HUx.out.st.setR _ _ _ _, ?_, ?_, ?_⟩⟩
      · rw [HSt.out]
        have g1 := HUx.out.pb.two (A3 := A4) (n3 := n4) (c3 := c4) (B3 := B4) (m3 := m4) (d3 := d4) HUx.out.st.gr
        have g2 := g1.one (blk_oth (blk_oth HUx.out.st.gb (by omega) _) (by omega) _) (fun s h => by cases h) (.bool false)
        exact ⟨_, _, _, _, _, _, rfl, g2.one (blk_oth (blk_oth (blk_oth HUx.out.st.ge (by omega) _) (by omega) _) (by omega) _) (fun s h => by cases h) (.int .i64 0)⟩
      · rw [HSt.out]
      · rw [HSt.out]
    · have f1 : (((D - pre.length : Nat) : Int) == 0) = false := by simp; omega
      obtain ⟨q, hq⟩ : ∃ q, q = deedF V nV area pre.length Q := ⟨_, rfl⟩
      have Hfq := Lib.hid hq
      have Hfq2 := Lib.hid hq
      obtain ⟨Q2, er⟩ := q
      clear hq
      rcases HEd.out with ⟨hkE, rfl⟩ | ⟨hkE, bi, bs', rfl, hi2, hs2, hc2⟩
      · have hqs : deedF V nV area pre.length Q = syncP Q := by unfold deedF; rw [if_neg (by omega)]
        rw [hqs] at Hfq
        clear hqs hkE
        by_cases her : er = 0
        · subst her
          have f2 : ((0 : Int) != 0) = false := rfl
          have f3 : IntKind.i64.wrap (((D - pre.length : Nat) : Int) - 1) = ((D - (pre.length + 1) : Nat) : Int) := by rw [IntWalk.i64_in _ (by omega)]; omega
          have f4 : (((D - pre.length : Nat) : Int) - 1) = ((D - (pre.length + 1) : Nat) : Int) := by omega
          gi_wp2_with (refine ⟨trivial, ?_⟩; gi_at_call 52; refine (CallsIn.inRound l (callsIn_wide.2 (sync_any _ Q _ ⟨_, _, _, _, _, _, rfl, HUx.out.pb⟩))).mono ?_; rintro e W2 ⟨v2, rfl, ⟨A3, n3, c3, B3, m3, d3, rfl, hP3⟩, hb2⟩; rw [← Hfq.out] at hP3 ⊢; have HU2 := Lib.hid (HUx.out.below hb2); have HP3 := Lib.hid hP3; have HT2 := Lib.hid ((TC.refl w gx X).below HUx.out.st.hb.size hb2); clear hb2 hP3 p0 p1 p2 p3 dd0; obtain ⟨p0, p1, p2, p3⟩ := two_cells HU2.out.st.gp; have x0 := rf_at HU2.out.hx 0 _ rfl; have x1 := rf_fr HU2.out.hx 0; have dd0 := rf_at HU2.out.st.gd 0 _ rfl; have dd1 := rf_fr HU2.out.st.gd 0)
          gi_wp2
          have ht := (((HT2.out.set (g := w.heap.size) (i := 0) (.inl (by omega)) (.slice A3 n3 c3)).set (g := w.heap.size) (i := 1) (.inl (by omega)) (.slice B3 m3 d3)).set (g := gx) (i := 0) (.inr ⟨rfl, by omega⟩) (.int .i64 0)).set (g := w.heap.size + 1 + 1) (i := 0) (.inl (by omega)) (.int .i64 ((D - (pre.length + 1) : Nat) : Int))
          have hsx := (HU2.out.st.setP (.slice A3 n3 c3) (.slice B3 m3 d3)).far (g := gx) (i := 0) (by omega) (.int .i64 0)
          have hs9 := hsx.setD ((D - (pre.length + 1) : Nat) : Int)
          have g1 := HP3.out.two (A3 := A3) (n3 := n3) (c3 := c3) (B3 := B3) (m3 := m3) (d3 := d3) HU2.out.st.gp
          have g2 := g1.one (blk_oth (blk_oth HU2.out.hx (by omega) _) (by omega) _) (fun s h => by cases h) (.int .i64 0)
          have g3 := g2.one hsx.gd (fun s h => by cases h) (.int .i64 ((D - (pre.length + 1) : Nat) : Int))
          have hx9 := blk_oth (g := w.heap.size + 1 + 1) (i := 0) (blk_set (blk_oth (blk_oth HU2.out.hx (by omega) (.slice A3 n3 c3) (g := w.heap.size) (i := 0)) (by omega) (.slice B3 m3 d3) (g := w.heap.size) (i := 1)) 0 (.int .i64 0)) (by omega) (.int .i64 ((D - (pre.length + 1) : Nat) : Int))
          have hc9 := blk_oth (g := w.heap.size + 1 + 1) (i := 0) (blk_oth (g := gx) (i := 0) (blk_oth (blk_oth HU2.out.hc (by omega) (.slice A3 n3 c3) (g := w.heap.size) (i := 0)) (by omega) (.slice B3 m3 d3) (g := w.heap.size) (i := 1)) (by omega) (.int .i64 0)) (by omega) (.int .i64 ((D - (pre.length + 1) : Nat) : Int))
          refine ⟨ht.keeps (by omega) (by omega), ht.kpt (a := g7 + 1) (b := g7) ⟨by omega, by omega, by omega⟩ ⟨by omega, by omega, by omega⟩, ⟨A3, n3, c3, B3, m3, d3, Q2, ?_, by rw [Hlen.out]; omega, ?_⟩⟩
          · rw [Hlen.out, deed_snoc hkN, runL_snoc _ _ _ _ Hrun.out, ← Hfq2.out, if_neg (by simp)]
          · rw [Hlen.out]
            exact ⟨hs9, g3, hc9, hx9⟩

        · have f2 : (er != 0) = true := by simpa using her
          have Her := Lib.hid her
          clear her
          gi_wp2_with (refine ⟨trivial, ?_⟩; gi_at_call 52; refine (CallsIn.inRound l (callsIn_wide.2 (sync_any _ Q _ ⟨_, _, _, _, _, _, rfl, HUx.out.pb⟩))).mono ?_; rintro e W2 ⟨v2, rfl, ⟨A3, n3, c3, B3, m3, d3, rfl, hP3⟩, hb2⟩; rw [← Hfq.out] at hP3 ⊢; have HU2 := Lib.hid (HUx.out.below hb2); have HP3 := Lib.hid hP3; have HT2 := Lib.hid ((TC.refl w gx X).below HUx.out.st.hb.size hb2); clear hb2 hP3 p0 p1 p2 p3 dd0; obtain ⟨p0, p1, p2, p3⟩ := two_cells HU2.out.st.gp; have x0 := rf_at HU2.out.hx 0 _ rfl; have x1 := rf_fr HU2.out.hx 0; have dd0 := rf_at HU2.out.st.gd 0 _ rfl; have dd1 := rf_fr HU2.out.st.gd 0)
          gi_wp2
          have ht1 := ((HT2.out.set (g := w.heap.size) (i := 0) (.inl (by omega)) (.slice A3 n3 c3)).set (g := w.heap.size) (i := 1) (.inl (by omega)) (.slice B3 m3 d3)).set (g := gx) (i := 0) (.inr ⟨rfl, by omega⟩) (.int .i64 er)
          have hsx := (HU2.out.st.setP (.slice A3 n3 c3) (.slice B3 m3 d3)).far (g := gx) (i := 0) (by omega) (.int .i64 er)
          have hx9 := blk_set (blk_oth (blk_oth HU2.out.hx (by omega) (.slice A3 n3 c3) (g := w.heap.size) (i := 0)) (by omega) (.slice B3 m3 d3) (g := w.heap.size) (i := 1)) 0 (.int .i64 er)
          obtain ⟨Y1, hY1⟩ : ∃ Y, Y = ((W2.setCell ⟨w.heap.size, 0, none⟩ (.slice A3 n3 c3)).setCell ⟨w.heap.size, 1, none⟩ (.slice B3 m3 d3)).setCell ⟨gx, 0, none⟩ (.int .i64 er) := ⟨_, rfl⟩
          rw [← hY1] at ht1 hsx hx9 ⊢
          clear hY1 p0 p1 p2 p3 x0 x1 dd0 dd1 r0 r1 r2 r3 b0 b1 e0 e1
          refine round_held (S := SE gx er) (by kernel_rfl) (by kernel_rfl) ?_
          change wpAnyH _ _ _ _ _ _ _ _ (Y1.drew)
          have hsd := hsx.below ((Below.refl _ _).drew)
          have htd := ht1.below hsx.hb.size ((Below.refl _ _).drew)
          have hS : SE gx er Y1.drew := rf_at hx9 0 _ rfl
          obtain ⟨Y2, hY2⟩ : ∃ Y, Y = Y1.drew := ⟨_, rfl⟩
          rw [← hY2] at hsd htd hS ⊢
          clear hY2 ht1 hsx hx9
          have Hsd := Lib.hid hsd
          have Htd := Lib.hid htd
          obtain ⟨r0, r1, r2, r3⟩ := two_cells hsd.gr
          have b0 := rf_at hsd.gb 0 _ rfl
          have b1 := rf_fr hsd.gb 0
          have e0 := rf_at hsd.ge 0 _ rfl
          have e1 := rf_fr hsd.ge 0
          clear hsd htd
          refine wpAnyH_take (i := 0) (v := .agg #[.slice none 0 0, .slice none 0 0]) rfl (by kernel_rfl) (by kernel_rfl) (by kernel_rfl) (fun _ _ _ h => h) (Or.inl ⟨by rfl, ?_⟩) hS ?_
          · intro W7 hSw
            unfold SE at hSw
            go_simp
          try simp only [Act.put, List.setIfInBounds_toArray, List.set_cons_zero, List.set_cons_succ]
          refine wpAnyH_take (i := 1) (v := .int .i64 er) rfl (by kernel_rfl) (by kernel_rfl) (by kernel_rfl) (fun _ _ _ h => h) (Or.inl ⟨by rfl, ?_⟩) hS ?_
          · intro W7 hSw
            unfold SE at hSw
            go_simp
          try simp only [Act.put, List.setIfInBounds_toArray, List.set_cons_zero, List.set_cons_succ]
          refine wpAnyH_ready (rs := [2]) (by kernel_rfl) (by simp) ?_
          refine AllReadyH.cons rfl (fun K hK => ?_) AllReadyH.nil
          go_simp
          refine hK.out _ _ ((hS.set (by omega) _).set (by omega) _) (fun hS' => ?_)
          clear hK K
          replace hS := hS'
          clear hS'
          try simp only [Act.put, List.setIfInBounds_toArray, List.set_cons_zero, List.set_cons_succ]
          refine wpAnyH_ready (rs := [3]) (by kernel_rfl) (by simp) ?_
          refine AllReadyH.cons rfl (fun K hK => ?_) AllReadyH.nil
          go_simp
          refine hK.out _ _ (hS.set (by omega) _) (fun hS' => ?_)
          clear hK K
          replace hS := hS'
          clear hS'
          try simp only [Act.put, List.setIfInBounds_toArray, List.set_cons_zero, List.set_cons_succ]
          refine wpAnyH_ready (rs := [4]) (by kernel_rfl) (by simp) ?_
          refine AllReadyH.cons rfl (fun K hK => ?_) AllReadyH.nil
          go_simp
          refine hK.out _ _ (hS.set (by omega) _) (fun hS' => ?_)
          clear hK K
          replace hS := hS'
          clear hS'
          try simp only [Act.put, List.setIfInBounds_toArray, List.set_cons_zero, List.set_cons_succ]
          refine wpAnyH_done (by kernel_rfl) ?_ _
          simp only [NormalQ]
          gi_wp2
          have HSt := Lib.hid (show storeP P V deeds = (noPlat, false, er) by
            have hr1 : runL ((deedV V nV area).take (pre.length + 1)) P = (noPlat, er) := by rw [deed_snoc hkN, runL_snoc _ _ _ _ Hrun.out, ← Hfq2.out, if_pos Her.out]
            rw [HE.out, ← HD.out, run_more (by omega) hr1 Her.out, endP, if_pos Her.out])
          have ht9 := (((Htd.out.set (g := w.heap.size + 1 + 1 + 1) (i := 0) (.inl (by omega)) (.slice none 0 0)).set (g := w.heap.size + 1 + 1 + 1) (i := 1) (.inl (by omega)) (.slice none 0 0)).set (g := w.heap.size + 1 + 1 + 1 + 1) (i := 0) (.inl (by omega)) (.bool false)).set (g := w.heap.size + 1 + 1 + 1 + 1 + 1) (i := 0) (.inl (by omega)) (.int .i64 er)
          refine ⟨ht9.keeps (by omega) (by omega), ⟨rfl, _, _, _, _, _, _, _, _, _, Hsd.out.setR _ _ _ _, ?_, ?_, ?_⟩⟩
          · rw [HSt.out]; exact PlV.no _
          · rw [HSt.out]
          · rw [HSt.out]

      · have hql : deedF V nV area pre.length Q = writeP ((3 + (1 - area) * nV + pre.length : Nat) : Int) (V.bl.getD pre.length noT) Q := by unfold deedF; rw [if_pos hkE]; rfl
        rw [hql] at Hfq
        have HC2 := Lib.hid hc2
        have hi3 := rf_at hi2 0 _ rfl
        have hs3 := rf_at hs2 0 _ rfl
        clear hql hc2 hi2 hs2
        by_cases her : er = 0
        · subst her
          have f2 : ((0 : Int) != 0) = false := rfl
          have f3 : IntKind.i64.wrap (((D - pre.length : Nat) : Int) - 1) = ((D - (pre.length + 1) : Nat) : Int) := by rw [IntWalk.i64_in _ (by omega)]; omega
          have f4 : (((D - pre.length : Nat) : Int) - 1) = ((D - (pre.length + 1) : Nat) : Int) := by omega
          gi_wp2_with (refine ⟨trivial, ?_⟩; gi_at_call 64; refine (CallsIn.inRound l (callsIn_wide.2 (vlay_any _ Q g7 bi bs' nV area pre.length (V.bl.getD pre.length noT) _ ⟨_, _, _, _, _, _, rfl, HUx.out.pb⟩ HC2.out hi3 hs3 (by omega) hN1.1 (by omega)))).mono ?_; rintro e W2 ⟨v2, rfl, ⟨A3, n3, c3, B3, m3, d3, rfl, hP3⟩, hb2⟩; rw [← Hfq.out] at hP3 ⊢; have HU2 := Lib.hid (HUx.out.below hb2); have HP3 := Lib.hid hP3; have HT2 := Lib.hid ((TC.refl w gx X).below HUx.out.st.hb.size hb2); clear hb2 hP3 p0 p1 p2 p3 dd0; obtain ⟨p0, p1, p2, p3⟩ := two_cells HU2.out.st.gp; have x0 := rf_at HU2.out.hx 0 _ rfl; have x1 := rf_fr HU2.out.hx 0; have dd0 := rf_at HU2.out.st.gd 0 _ rfl; have dd1 := rf_fr HU2.out.st.gd 0)
          gi_wp2
          have ht := (((HT2.out.set (g := w.heap.size) (i := 0) (.inl (by omega)) (.slice A3 n3 c3)).set (g := w.heap.size) (i := 1) (.inl (by omega)) (.slice B3 m3 d3)).set (g := gx) (i := 0) (.inr ⟨rfl, by omega⟩) (.int .i64 0)).set (g := w.heap.size + 1 + 1) (i := 0) (.inl (by omega)) (.int .i64 ((D - (pre.length + 1) : Nat) : Int))
          have hsx := (HU2.out.st.setP (.slice A3 n3 c3) (.slice B3 m3 d3)).far (g := gx) (i := 0) (by omega) (.int .i64 0)
          have hs9 := hsx.setD ((D - (pre.length + 1) : Nat) : Int)
          have g1 := HP3.out.two (A3 := A3) (n3 := n3) (c3 := c3) (B3 := B3) (m3 := m3) (d3 := d3) HU2.out.st.gp
          have g2 := g1.one (blk_oth (blk_oth HU2.out.hx (by omega) _) (by omega) _) (fun s h => by cases h) (.int .i64 0)
          have g3 := g2.one hsx.gd (fun s h => by cases h) (.int .i64 ((D - (pre.length + 1) : Nat) : Int))
          have hx9 := blk_oth (g := w.heap.size + 1 + 1) (i := 0) (blk_set (blk_oth (blk_oth HU2.out.hx (by omega) (.slice A3 n3 c3) (g := w.heap.size) (i := 0)) (by omega) (.slice B3 m3 d3) (g := w.heap.size) (i := 1)) 0 (.int .i64 0)) (by omega) (.int .i64 ((D - (pre.length + 1) : Nat) : Int))
          have hc9 := blk_oth (g := w.heap.size + 1 + 1) (i := 0) (blk_oth (g := gx) (i := 0) (blk_oth (blk_oth HU2.out.hc (by omega) (.slice A3 n3 c3) (g := w.heap.size) (i := 0)) (by omega) (.slice B3 m3 d3) (g := w.heap.size) (i := 1)) (by omega) (.int .i64 0)) (by omega) (.int .i64 ((D - (pre.length + 1) : Nat) : Int))
          refine ⟨ht.keeps (by omega) (by omega), ht.kpt (a := g7 + 1) (b := g7) ⟨by omega, by omega, by omega⟩ ⟨by omega, by omega, by omega⟩, ⟨A3, n3, c3, B3, m3, d3, Q2, ?_, by rw [Hlen.out]; omega, ?_⟩⟩
          · rw [Hlen.out, deed_snoc hkN, runL_snoc _ _ _ _ Hrun.out, ← Hfq2.out, if_neg (by simp)]
          · rw [Hlen.out]
            exact ⟨hs9, g3, hc9, hx9⟩

        · have f2 : (er != 0) = true := by simpa using her
          have Her := Lib.hid her
          clear her
          gi_wp2_with (refine ⟨trivial, ?_⟩; gi_at_call 64; refine (CallsIn.inRound l (callsIn_wide.2 (vlay_any _ Q g7 bi bs' nV area pre.length (V.bl.getD pre.length noT) _ ⟨_, _, _, _, _, _, rfl, HUx.out.pb⟩ HC2.out hi3 hs3 (by omega) hN1.1 (by omega)))).mono ?_; rintro e W2 ⟨v2, rfl, ⟨A3, n3, c3, B3, m3, d3, rfl, hP3⟩, hb2⟩; rw [← Hfq.out] at hP3 ⊢; have HU2 := Lib.hid (HUx.out.below hb2); have HP3 := Lib.hid hP3; have HT2 := Lib.hid ((TC.refl w gx X).below HUx.out.st.hb.size hb2); clear hb2 hP3 p0 p1 p2 p3 dd0; obtain ⟨p0, p1, p2, p3⟩ := two_cells HU2.out.st.gp; have x0 := rf_at HU2.out.hx 0 _ rfl; have x1 := rf_fr HU2.out.hx 0; have dd0 := rf_at HU2.out.st.gd 0 _ rfl; have dd1 := rf_fr HU2.out.st.gd 0)
          gi_wp2
          have ht1 := ((HT2.out.set (g := w.heap.size) (i := 0) (.inl (by omega)) (.slice A3 n3 c3)).set (g := w.heap.size) (i := 1) (.inl (by omega)) (.slice B3 m3 d3)).set (g := gx) (i := 0) (.inr ⟨rfl, by omega⟩) (.int .i64 er)
          have hsx := (HU2.out.st.setP (.slice A3 n3 c3) (.slice B3 m3 d3)).far (g := gx) (i := 0) (by omega) (.int .i64 er)
          have hx9 := blk_set (blk_oth (blk_oth HU2.out.hx (by omega) (.slice A3 n3 c3) (g := w.heap.size) (i := 0)) (by omega) (.slice B3 m3 d3) (g := w.heap.size) (i := 1)) 0 (.int .i64 er)
          obtain ⟨Y1, hY1⟩ : ∃ Y, Y = ((W2.setCell ⟨w.heap.size, 0, none⟩ (.slice A3 n3 c3)).setCell ⟨w.heap.size, 1, none⟩ (.slice B3 m3 d3)).setCell ⟨gx, 0, none⟩ (.int .i64 er) := ⟨_, rfl⟩
          rw [← hY1] at ht1 hsx hx9 ⊢
          clear hY1 p0 p1 p2 p3 x0 x1 dd0 dd1 r0 r1 r2 r3 b0 b1 e0 e1
          refine round_held (S := SE gx er) (by kernel_rfl) (by kernel_rfl) ?_
          change wpAnyH _ _ _ _ _ _ _ _ (Y1.drew)
          have hsd := hsx.below ((Below.refl _ _).drew)
          have htd := ht1.below hsx.hb.size ((Below.refl _ _).drew)
          have hS : SE gx er Y1.drew := rf_at hx9 0 _ rfl
          obtain ⟨Y2, hY2⟩ : ∃ Y, Y = Y1.drew := ⟨_, rfl⟩
          rw [← hY2] at hsd htd hS ⊢
          clear hY2 ht1 hsx hx9
          have Hsd := Lib.hid hsd
          have Htd := Lib.hid htd
          obtain ⟨r0, r1, r2, r3⟩ := two_cells hsd.gr
          have b0 := rf_at hsd.gb 0 _ rfl
          have b1 := rf_fr hsd.gb 0
          have e0 := rf_at hsd.ge 0 _ rfl
          have e1 := rf_fr hsd.ge 0
          clear hsd htd
          refine wpAnyH_take (i := 0) (v := .agg #[.slice none 0 0, .slice none 0 0]) rfl (by kernel_rfl) (by kernel_rfl) (by kernel_rfl) (fun _ _ _ h => h) (Or.inl ⟨by rfl, ?_⟩) hS ?_
          · intro W7 hSw
            unfold SE at hSw
            go_simp
          try simp only [Act.put, List.setIfInBounds_toArray, List.set_cons_zero, List.set_cons_succ]
          refine wpAnyH_take (i := 1) (v := .int .i64 er) rfl (by kernel_rfl) (by kernel_rfl) (by kernel_rfl) (fun _ _ _ h => h) (Or.inl ⟨by rfl, ?_⟩) hS ?_
          · intro W7 hSw
            unfold SE at hSw
            go_simp
          try simp only [Act.put, List.setIfInBounds_toArray, List.set_cons_zero, List.set_cons_succ]
          refine wpAnyH_ready (rs := [2]) (by kernel_rfl) (by simp) ?_
          refine AllReadyH.cons rfl (fun K hK => ?_) AllReadyH.nil
          go_simp
          refine hK.out _ _ ((hS.set (by omega) _).set (by omega) _) (fun hS' => ?_)
          clear hK K
          replace hS := hS'
          clear hS'
          try simp only [Act.put, List.setIfInBounds_toArray, List.set_cons_zero, List.set_cons_succ]
          refine wpAnyH_ready (rs := [3]) (by kernel_rfl) (by simp) ?_
          refine AllReadyH.cons rfl (fun K hK => ?_) AllReadyH.nil
          go_simp
          refine hK.out _ _ (hS.set (by omega) _) (fun hS' => ?_)
          clear hK K
          replace hS := hS'
          clear hS'
          try simp only [Act.put, List.setIfInBounds_toArray, List.set_cons_zero, List.set_cons_succ]
          refine wpAnyH_ready (rs := [4]) (by kernel_rfl) (by simp) ?_
          refine AllReadyH.cons rfl (fun K hK => ?_) AllReadyH.nil
          go_simp
          refine hK.out _ _ (hS.set (by omega) _) (fun hS' => ?_)
          clear hK K
          replace hS := hS'
          clear hS'
          try simp only [Act.put, List.setIfInBounds_toArray, List.set_cons_zero, List.set_cons_succ]
          refine wpAnyH_done (by kernel_rfl) ?_ _
          simp only [NormalQ]
          gi_wp2
          have HSt := Lib.hid (show storeP P V deeds = (noPlat, false, er) by
            have hr1 : runL ((deedV V nV area).take (pre.length + 1)) P = (noPlat, er) := by rw [deed_snoc hkN, runL_snoc _ _ _ _ Hrun.out, ← Hfq2.out, if_pos Her.out]
            rw [HE.out, ← HD.out, run_more (by omega) hr1 Her.out, endP, if_pos Her.out])
          have ht9 := (((Htd.out.set (g := w.heap.size + 1 + 1 + 1) (i := 0) (.inl (by omega)) (.slice none 0 0)).set (g := w.heap.size + 1 + 1 + 1) (i := 1) (.inl (by omega)) (.slice none 0 0)).set (g := w.heap.size + 1 + 1 + 1 + 1) (i := 0) (.inl (by omega)) (.bool false)).set (g := w.heap.size + 1 + 1 + 1 + 1 + 1) (i := 0) (.inl (by omega)) (.int .i64 er)
          refine ⟨ht9.keeps (by omega) (by omega), ⟨rfl, _, _, _, _, _, _, _, _, _, Hsd.out.setR _ _ _ _, ?_, ?_, ?_⟩⟩
          · rw [HSt.out]; exact PlV.no _
          · rw [HSt.out]
          · rw [HSt.out]

  case done =>
    rintro D' xs X hD' hxs hI hK
    obtain ⟨A4, n4, c4, B4, m4, d4, Q, hrun, hle, hsu⟩ := hI.ex
    rw [hxs] at hrun hle hsu
    rw [deedV_all (Nat.le_refl _)] at hrun
    have hrts : V.rt.size = 32 := (vol_parts hck).2.1
    obtain ⟨dd, hdd⟩ : ∃ dd, dd = ((D - (nV + 1) : Nat) : Int) := ⟨_, rfl⟩
    obtain ⟨hd, hhd⟩ : ∃ hd, hd = headS ((gen : Int) + 1) ((1 - area : Nat) : Int) V.rt := ⟨_, rfl⟩
    have HSt := Lib.hid (show storeP P V deeds = putP Q 0 hd dd by
      rw [HE.out, ← HD.out, deedV_all hle, hrun, endP, if_neg (by simp), if_neg (by show ¬ D < nV + 1; omega), hhd, hdd]
      rfl)
    have HHd := Lib.hid (fun W => vhead_any ((gen : Int) + 1) ((1 - area : Nat) : Int) V.rt W (by omega))
    rw [← hhd] at HHd
    rw [← hdd] at hsu
    have HPt := Lib.hid (fun W (hW : PB W A4 n4 B4 m4 Q) => put_any (.agg #[.slice A4 n4 c4, .slice B4 m4 d4]) Q 0 dd hd W ⟨_, _, _, _, _, _, rfl, hW⟩ (by omega))
    obtain ⟨r, hr⟩ : ∃ r, r = putP Q 0 hd dd := ⟨_, rfl⟩
    rw [← hr] at HSt HPt
    obtain ⟨rP, rb, re⟩ := r
    obtain ⟨hA1, hG1⟩ := hN1
    have hw3 : (1 : Int) - (area : Int) = ((1 - area : Nat) : Int) := by omega
    have hw : IntKind.i64.wrap ((1 - area : Nat) : Int) = ((1 - area : Nat) : Int) := IntWalk.i64_in _ (by omega)
    have hwg : IntKind.i64.wrap ((gen : Int) + 1) = (gen : Int) + 1 := IntWalk.i64_in _ (by omega)
    have K1 : KA ⟨w.heap.size, 0, none⟩ ⟨w.heap.size, 1, none⟩ ⟨gc, 1, none⟩ ⟨gc, 2, none⟩ ⟨w.heap.size + 1, 1, none⟩ ⟨w.heap.size + 1 + 1, 0, none⟩ (.slice A4 n4 c4) (.slice B4 m4 d4) (.int .i64 (area : Nat)) (.int .i64 (gen : Nat)) (.string V.rt) (.int .i64 dd) X :=
      ⟨⟨rf_at hsu.st.gp 0 _ rfl, rf_at hsu.st.gp 1 _ rfl⟩, ⟨rf_at hsu.hc 1 _ rfl, rf_at hsu.hc 2 _ rfl⟩, ⟨rf_at hsu.st.gv 1 _ rfl, rf_at hsu.st.gd 0 _ rfl⟩⟩
    have HUx := Lib.hid hsu
    have hZ : ∀ k, w.heap.size + 3 ≤ k → k < w.heap.size + 6 → k ≠ (⟨w.heap.size, 0, none⟩ : Addr).block ∧ k ≠ (⟨w.heap.size, 1, none⟩ : Addr).block ∧ k ≠ (⟨gc, 1, none⟩ : Addr).block ∧ k ≠ (⟨gc, 2, none⟩ : Addr).block ∧ k ≠ (⟨w.heap.size + 1, 1, none⟩ : Addr).block ∧ k ≠ (⟨w.heap.size + 1 + 1, 0, none⟩ : Addr).block := fun k h1 h2 => by
      dsimp only
      omega
    have z1 := hZ (w.heap.size + 1 + 1 + 1) (by omega) (by omega)
    have z2 := hZ (w.heap.size + 1 + 1 + 1 + 1) (by omega) (by omega)
    have z3 := hZ (w.heap.size + 1 + 1 + 1 + 1 + 1) (by omega) (by omega)
    have HK := Lib.hid hK
    clear hI hsu hrun hdd hhd hr hZ hK hrts
    simp only [Exit.then]
    go_upto_region 22 with fail
    go_region_held3 (fun W => (W.cell? ⟨w.heap.size, 0, none⟩ = some (.slice A4 n4 c4) ∧ W.cell? ⟨w.heap.size, 1, none⟩ = some (.slice B4 m4 d4)) ∧ (W.cell? ⟨gc, 1, none⟩ = some (.int .i64 (area : Nat)) ∧ W.cell? ⟨gc, 2, none⟩ = some (.int .i64 (gen : Nat))) ∧ (W.cell? ⟨w.heap.size + 1, 1, none⟩ = some (.string V.rt) ∧ W.cell? ⟨w.heap.size + 1 + 1, 0, none⟩ = some (.int .i64 dd)))
      (first | with_reducible assumption | with_reducible exact ka_drew K1 | with_reducible exact ka_set (ka_set Q10 z1 _) z1 _ | with_reducible exact ka_set (ka_set (ka_set Q10 z1 _) z1 _) z2 _ | with_reducible exact ka_set (ka_set (ka_set (ka_set Q10 z1 _) z1 _) z2 _) z3 _)
      (first
        | ((go_at_call 15; with_reducible refine (HHd.out _).mono ?_); rintro _ w9 ⟨rfl, hb9'⟩; have hb9 := Below.chain ((Below.refl _ X).drew) hb9'; have Q9 := ka_below (ka_drew K1) hb9'; clear hb9'; have HU9 := Lib.hid (HUx.out.below hb9); have HK9 := Lib.hid ((hb9.block D' (cell_lt_of HK.out)).trans HK.out))
        | ((go_at_call 22; with_reducible refine (HPt.out _ HU9.out.pb).mono ?_); rintro _ w10 ⟨v10, rfl, ⟨A5, n5, c5, B5, m5, d5, rfl, hP5⟩, hb10⟩; have Q10 := ka_below Q9 hb10; have HU10 := Lib.hid (HU9.out.below hb10); have HP5 := Lib.hid hP5; have HK10 := Lib.hid ((hb10.block D' (cell_lt_of HK9.out)).trans HK9.out); clear hP5 hb10; obtain ⟨r0, r1, r2, r3⟩ := two_cells HU10.out.st.gr; have b0 := rf_at HU10.out.st.gb 0 _ rfl; have b1 := rf_fr HU10.out.st.gb 0; have e0 := rf_at HU10.out.st.ge 0 _ rfl; have e1 := rf_fr HU10.out.st.ge 0))
    all_goals
      have hlt9 : w8.heap.size ≤ D' := hD'
      go_wp2_with fail
      (try simp only [Exit.inBlock, Exit.then])
      rw [HSt.out]
      have g1 := HP5.out.two (A3 := A5) (n3 := n5) (c3 := c5) (B3 := B5) (m3 := m5) (d3 := d5) HU10.out.st.gr
      have g2 := g1.one (blk_oth (blk_oth HU10.out.st.gb (by omega) _) (by omega) _) (fun s h => by cases h) (.bool rb)
      have g3 := g2.one (blk_oth (blk_oth (blk_oth HU10.out.st.ge (by omega) _) (by omega) _) (by omega) _) (fun s h => by cases h) (.int .i64 re)
      exact ret_m (store_end (r := (rP, rb, re)) (HU10.out.st.setR _ _ _ _) ⟨_, _, _, _, _, _, rfl, g3⟩ rfl rfl [D'] (by simp) (fun k hk => by rw [List.mem_singleton] at hk; subst hk; exact ⟨by omega, blk_oth (blk_oth (blk_oth (blk_oth HK10.out (by omega) _) (by omega) _) (by omega) _) (by omega) _⟩) _ (by rfl) (by rfl) (by rfl))
  case stop =>
    rintro D' cd pre X hD' _ hX hK
    obtain ⟨rfl, p0, p1, v0, v1, D2, r0, r1, z, x, h2, h3, h4, h5⟩ := hX.ex
    gi_wp2
    exact ret_m (store_end h2 h3 h4 h5 [D'] (by simp) (fun k hk => by rw [List.mem_singleton] at hk; subst hk; exact ⟨by omega, hK⟩) _ (by rfl) (by rfl) (by rfl))
end Go.Proofs.YtieekajjoikepaaGreatDoor
