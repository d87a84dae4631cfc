/-
  Contract of the law's unlocks: the document's rows.
-/
import Derived.Test.YtifcpklaenbclaaGreatDoorOt2
import Derived.Test.YtifcpklaenbclaaGreatDoorOd2
import Derived.Test.YtifcpklaenbclaaGreatDoorMany
namespace Go.Proofs.YtifcpklaenbclaaGreatDoor
open Go.RowKit
set_option linter.unusedVariables false
set_option linter.unusedSimpArgs false
set_option maxRecDepth 100000
set_option maxHeartbeats 4000000

theorem manyr (c : UInt8) (n : Nat) (w : World) (hn : n ≤ 100000) :
    Calls Tryz.prog 22 #[.int .u8 (c.toNat : Int), .int .i64 (n : Int)] w fun e w' => e = .returned (.string (rep n c)) ∧ Below w.heap.size w w' := many_any c n w hn
theorem rd_ans2 (w : World) (g : Nat) (hg : w.heap.size = g) (p q : Ans) (t : TypeId) : Rd (w.alloc (.cells #[.string p.nm, .string p.salt, .int .i64 p.x, .string p.b, .string q.nm, .string q.salt, .int .i64 q.x, .string q.b] t)) (some ⟨g, 0, none⟩) (answersV [p, q]) :=
  rd_new' w t #[.string p.nm, .string p.salt, .int .i64 p.x, .string p.b, .string q.nm, .string q.salt, .int .i64 q.x, .string q.b] g hg
theorem four_new2 (w : World) (p : Ans) : (w.alloc (.cells #[.string p.nm, .string p.salt, .int .i64 p.x, .string p.b] 31)).heap[w.heap.size]? = some (.cells #[.string p.nm, .string p.salt, .int .i64 p.x, .string p.b] 31 (0, 0)) := heap_alloc_new w _
theorem unlocks_any (w : World) (hR : Rounds w) (hT : Turns w) :
    Calls Tryz.prog 10 #[] w fun e w' => e = .returned (.bool true) ∧ Below w.heap.size w w' := by
  have HR := Lib.hid hR
  have HT := Lib.hid hT
  have M1 := Lib.hid (fun W => manyr 1 16 W (by omega))
  have M3 := Lib.hid (fun W => manyr 3 32 W (by omega))
  have M4 := Lib.hid (fun W => manyr 4 32 W (by omega))
  have M5 := Lib.hid (fun W => manyr 5 12 W (by omega))
  have M6 := Lib.hid (fun W => manyr 6 32 W (by omega))
  have M9 := Lib.hid (fun W => manyr 9 16 W (by omega))
  have HDl := Lib.hid (fun A E c t W h1 h2 h3 => show Calls Tryz.prog 13 #[.string (rep 32 3), .slice A 3 c, .int .i64 2, .string (rep 32 4), .slice E 3 t] W (DealR W D0 true) from by
    have h := deal_any (rep 32 3) names0 2 (rep 32 4) salts0 A E 3 c 3 t W h1 rfl h2 rfl h3 (by omega) (by decide +kernel)
    rw [dealB0] at h
    exact h)
  have HW := Lib.hid (fun W h => show Calls Tryz.prog 14 #[.string (rep 32 3), .string (rep 12 5), .string (rep 32 6)] W fun e w' => e = .returned (.tuple #[.string (wrapS D0.sec (rep 12 5) (rep 32 6)), .int .i64 0]) ∧ Below W.heap.size W w' from by
    have h2 := wrap_any (rep 32 3) (rep 12 5) (rep 32 6) W h (by rw [rep_size]; decide) (by rw [rep_size]; decide) (by rw [rep_size]; decide)
    rw [show wrapE (rep 32 3) (rep 12 5) (rep 32 6) = 0 from wrap0] at h2
    exact h2)
  have Hw60 := Lib.hid wrap0_size
  have HA0 := Lib.hid (fun v W h => show Calls Tryz.prog 15 #[v, .int .i64 0] W fun e w' => e = .returned (.agg #[.string a0.nm, .string a0.salt, .int .i64 a0.x, .string a0.b]) ∧ Below W.heap.size W w' from ans_any v D0 0 W h (by decide) (by decide) (by decide) (by decide))
  have HA2 := Lib.hid (fun v W h => show Calls Tryz.prog 15 #[v, .int .i64 2] W fun e w' => e = .returned (.agg #[.string b0.nm, .string b0.salt, .int .i64 b0.x, .string b0.b]) ∧ Below W.heap.size W w' from ans_any v D0 2 W h (by decide) (by decide) (by decide) (by decide))
  have U1 := Lib.hid unl_ba
  obtain ⟨wp, hwp⟩ : ∃ wp, wp = wrapS D0.sec (rep 12 5) (rep 32 6) := ⟨_, rfl⟩
  have U2 := Lib.hid (unl_aa wp)
  have U3 := Lib.hid (unl_ac wp)
  rw [← hwp] at HW Hw60 U1
  have HU := Lib.hid (fun v A ls m c W (h1 : RV W v D0.r) h2 (h3 : m = ls.length) h4 h5 h6 => unlock_any v D0.r A m c ls wp W h1 h2 h3 h4 h5 h6)
  have HFa := Lib.hid (fun v W h1 h2 => by have h := fit_any v D0.r a0 W h1 h2; rw [fit_a0] at h; exact h)
  have HFc := Lib.hid (fun v W h1 h2 => by have h := fit_any v D0.r c0 W h1 h2; rw [fit_c0] at h; exact h)
  have hca : c0.nm = b0.nm ∧ c0.salt = rep 16 9 ∧ c0.x = b0.x ∧ c0.b = b0.b := ⟨rfl, rfl, rfl, rfl⟩
  have Hca := Lib.hid hca
  clear hR hT hwp hca
  go_enter Tryz.func10, Tryz.ntmps10
  go_wp2_with fail
  refine (M1.out _).mono ?_
  rintro e w1 ⟨rfl, hb1⟩
  go_wp2_with fail
  refine (M3.out _).mono ?_
  rintro e w2 ⟨rfl, hb2⟩
  have B2 := Lib.hid (Below.chain hb1 hb2)
  have hal3 := (Below.refl w2.heap.size w2).alloc (Nat.le_refl _) (.cells #[.string annT, .string bobT, .string cyT] 9)
  have RN := Lib.hid (show Rd (w2.alloc (.cells #[.string annT, .string bobT, .string cyT] 9)) (some ⟨w2.heap.size, 0, none⟩) (textsV names0) from rd_new' w2 _ #[.string annT, .string bobT, .string cyT] _ rfl)
  have AL3 := Lib.hid hal3
  clear hb1 hb2 hal3
  go_wp2_with fail
  refine (M4.out _).mono ?_
  rintro e w3 ⟨rfl, hb3⟩
  have B3 := Lib.hid (B2.out.trans ((AL3.out.trans (hb3.mono AL3.out.size)).mono B2.out.size))
  have hal4 := (Below.refl w3.heap.size w3).alloc (Nat.le_refl _) (.cells #[.string (rep 16 1), .string (rep 16 1), .string (rep 16 1)] 9)
  have RS := Lib.hid (show Rd (w3.alloc (.cells #[.string (rep 16 1), .string (rep 16 1), .string (rep 16 1)] 9)) (some ⟨w3.heap.size, 0, none⟩) (textsV salts0) from rd_new' w3 _ #[.string (rep 16 1), .string (rep 16 1), .string (rep 16 1)] _ rfl)
  have RN4 := Lib.hid ((RN.out.below hb3).below hal4)
  have B4 := Lib.hid (B3.out.trans (hal4.mono B3.out.size))
  clear hb3 hal4 RN AL3 B2 B3
  go_wp2_with fail
  refine (HDl.out _ _ _ _ _ RN4.out RS.out (HR.out.below B4.out)).mono ?_
  rintro e w5 ⟨v, rfl, hDV, hb5⟩
  obtain ⟨A, n, c, B, m, d, C, p, q, E, s, t, rfl, hA, hn, hB, hm, hC, hp, hE, hs⟩ := hDV
  obtain rfl : p = 3 := hp
  have HDV5 := Lib.hid (show DV w5 (.agg #[.int .i64 D0.r.e, .int .i64 D0.r.k, .slice A n c, .slice B m d, .string D0.sec, .slice C 3 q, .slice E s t]) D0 from ⟨A, n, c, B, m, d, C, 3, q, E, s, t, rfl, hA, hn, hB, hm, hC, rfl, hE, hs⟩)
  have HRV5 := Lib.hid (show RV w5 (.agg #[.int .i64 D0.r.e, .int .i64 D0.r.k, .slice A n c, .slice B m d]) D0.r from ⟨A, n, c, B, m, d, rfl, hA, hn, hB, hm⟩)
  have Bw5 := Lib.hid (B4.out.trans (hb5.mono B4.out.size))
  have H5 := Lib.hid ((Below.refl w5.heap.size w5).alloc (Nat.le_refl _) (.cells #[.int .i64 D0.r.e, .int .i64 D0.r.k, .slice A n c, .slice B m d, .string D0.sec, .slice C 3 q, .slice E s t] 42))
  have HX := Lib.hid (heap_alloc_new w5 (.cells #[.int .i64 D0.r.e, .int .i64 D0.r.k, .slice A n c, .slice B m d, .string D0.sec, .slice C 3 q, .slice E s t] 42))
  clear hA hn hB hm hC hE hs hb5 B4 RN4 RS
  have x5 := rf_at HX.out 5 _ rfl
  go_wp2_with fail
  refine (M5.out _).mono ?_
  rintro e w7 ⟨rfl, hb7⟩
  clear x5
  replace H5 := Lib.hid (H5.out.trans (hb7.mono H5.out.size))
  replace HX := Lib.hid (cells_below HX.out hb7)
  clear hb7
  go_wp2_with fail
  refine (M6.out _).mono ?_
  rintro e w8 ⟨rfl, hb8⟩
  replace H5 := Lib.hid (H5.out.trans (hb8.mono H5.out.size))
  replace HX := Lib.hid (cells_below HX.out hb8)
  clear hb8
  go_wp2_with fail
  refine (HW.out _ (HT.out.below (Bw5.out.trans (H5.out.mono Bw5.out.size)))).mono ?_
  rintro e w9 ⟨rfl, hb9⟩
  replace H5 := Lib.hid (H5.out.trans (hb9.mono H5.out.size))
  replace HX := Lib.hid (cells_below HX.out hb9)
  clear hb9
  have x0 := rf_at HX.out 0 _ rfl
  have x1 := rf_at HX.out 1 _ rfl
  have x2 := rf_at HX.out 2 _ rfl
  have x3 := rf_at HX.out 3 _ rfl
  have x4 := rf_at HX.out 4 _ rfl
  have x5 := rf_at HX.out 5 _ rfl
  have x6 := rf_at HX.out 6 _ rfl
  go_wp2_with fail
  refine (HA0.out _ _ (HDV5.out.below H5.out)).mono ?_
  rintro e w10 ⟨rfl, hb10⟩
  clear x0 x1 x2 x3 x4 x5 x6
  replace H5 := Lib.hid (H5.out.trans (hb10.mono H5.out.size))
  replace HX := Lib.hid (cells_below HX.out hb10)
  clear hb10
  have HXo := Lib.hid HX.out
  have al10 := (Below.refl w10.heap.size w10).alloc (Nat.le_refl _) (.cells #[.string a0.nm, .string a0.salt, .int .i64 a0.x, .string a0.b] 31)
  replace H5 := Lib.hid (H5.out.trans (al10.mono H5.out.size))
  replace HX := Lib.hid (cells_below HX.out al10)
  have HYa := Lib.hid (four_new2 w10 a0)
  have hga := Lib.hid (Nat.ne_of_lt (cell_lt_of (show w10.heap[w5.heap.size]? = _ from HXo.out)))
  clear al10
  have x0 := rf_at HX.out 0 _ rfl
  have x1 := rf_at HX.out 1 _ rfl
  have x2 := rf_at HX.out 2 _ rfl
  have x3 := rf_at HX.out 3 _ rfl
  have x4 := rf_at HX.out 4 _ rfl
  have x5 := rf_at HX.out 5 _ rfl
  have x6 := rf_at HX.out 6 _ rfl
  go_wp2_with fail
  refine (HA2.out _ _ (HDV5.out.below H5.out)).mono ?_
  rintro e w12 ⟨rfl, hb12⟩
  clear x0 x1 x2 x3 x4 x5 x6
  replace H5 := Lib.hid (H5.out.trans (hb12.mono H5.out.size))
  replace HX := Lib.hid (cells_below HX.out hb12)
  replace HYa := Lib.hid (cells_below HYa.out hb12)
  clear hb12
  have HXo2 := Lib.hid HX.out
  have HYo2 := Lib.hid HYa.out
  have al12 := (Below.refl w12.heap.size w12).alloc (Nat.le_refl _) (.cells #[.string b0.nm, .string b0.salt, .int .i64 b0.x, .string b0.b] 31)
  replace H5 := Lib.hid (H5.out.trans (al12.mono H5.out.size))
  replace HX := Lib.hid (cells_below HX.out al12)
  replace HYa := Lib.hid (cells_below HYa.out al12)
  have HYb := Lib.hid (four_new2 w12 b0)
  have hgdb := cell_lt_of HXo2.out
  have hgab := cell_lt_of HYo2.out
  have h5b : w5.heap.size ≤ w12.heap.size := Nat.le_of_lt hgdb
  have Hgdb := Lib.hid (Nat.ne_of_lt hgdb)
  have Hgab := Lib.hid (Nat.ne_of_lt hgab)
  clear al12 HXo HXo2 HYo2 hga hgdb hgab
  have x0 := rf_at HX.out 0 _ rfl
  have x1 := rf_at HX.out 1 _ rfl
  have x2 := rf_at HX.out 2 _ rfl
  have x3 := rf_at HX.out 3 _ rfl
  have y0 := rf_at HYa.out 0 _ rfl
  have y1 := rf_at HYa.out 1 _ rfl
  have y2 := rf_at HYa.out 2 _ rfl
  have y3 := rf_at HYa.out 3 _ rfl
  have z0 := rf_at HYb.out 0 _ rfl
  have z1 := rf_at HYb.out 1 _ rfl
  have z2 := rf_at HYb.out 2 _ rfl
  have z3 := rf_at HYb.out 3 _ rfl
  have al15 := (Below.refl (w12.alloc (.cells #[.string b0.nm, .string b0.salt, .int .i64 b0.x, .string b0.b] 31)).heap.size (w12.alloc (.cells #[.string b0.nm, .string b0.salt, .int .i64 b0.x, .string b0.b] 31))).alloc (Nat.le_refl _) (.cells #[.string b0.nm, .string b0.salt, .int .i64 b0.x, .string b0.b, .string a0.nm, .string a0.salt, .int .i64 a0.x, .string a0.b] 31)
  have h5a := H5.out.trans (al15.mono H5.out.size)
  go_wp2_with fail
  refine (HU.out _ _ [b0, a0] _ _ _ (HRV5.out.below h5a) (rd_ans2 _ _ (by first | rfl | simp) b0 a0 _) rfl (by simp) (HR.out.below (Bw5.out.trans (h5a.mono Bw5.out.size))) (HT.out.below (Bw5.out.trans (h5a.mono Bw5.out.size)))).mono ?_
  rintro e w15 ⟨rfl, hb15⟩
  clear x0 x1 x2 x3 y0 y1 y2 y3 z0 z1 z2 z3 h5a
  rw [U1.out.1, U1.out.2]
  replace H5 := Lib.hid (H5.out.trans (al15.mono H5.out.size))
  replace HX := Lib.hid (cells_below HX.out al15)
  replace HYa := Lib.hid (cells_below HYa.out al15)
  replace HYb := Lib.hid (cells_below HYb.out al15)
  replace H5 := Lib.hid (H5.out.trans (hb15.mono H5.out.size))
  replace HX := Lib.hid (cells_below HX.out hb15)
  replace HYa := Lib.hid (cells_below HYa.out hb15)
  replace HYb := Lib.hid (cells_below HYb.out hb15)
  clear hb15 al15
  have x0 := rf_at HX.out 0 _ rfl
  have x1 := rf_at HX.out 1 _ rfl
  have x2 := rf_at HX.out 2 _ rfl
  have x3 := rf_at HX.out 3 _ rfl
  have y0 := rf_at HYa.out 0 _ rfl
  have y1 := rf_at HYa.out 1 _ rfl
  have y2 := rf_at HYa.out 2 _ rfl
  have y3 := rf_at HYa.out 3 _ rfl
  have al16 := (Below.refl (w15).heap.size (w15)).alloc (Nat.le_refl _) (.cells #[.string a0.nm, .string a0.salt, .int .i64 a0.x, .string a0.b, .string a0.nm, .string a0.salt, .int .i64 a0.x, .string a0.b] 31)
  have h5a := H5.out.trans (al16.mono H5.out.size)
  go_wp2_with fail
  refine (HU.out _ _ [a0, a0] _ _ _ (HRV5.out.below h5a) (rd_ans2 _ _ (by first | rfl | simp) a0 a0 _) rfl (by simp) (HR.out.below (Bw5.out.trans (h5a.mono Bw5.out.size))) (HT.out.below (Bw5.out.trans (h5a.mono Bw5.out.size)))).mono ?_
  rintro e w16 ⟨rfl, hb16⟩
  clear x0 x1 x2 x3 y0 y1 y2 y3 h5a
  rw [U2.out]
  generalize unlS D0.r [a0, a0] wp = us2
  replace H5 := Lib.hid (H5.out.trans (al16.mono H5.out.size))
  replace HX := Lib.hid (cells_below HX.out al16)
  replace HYa := Lib.hid (cells_below HYa.out al16)
  replace HYb := Lib.hid (cells_below HYb.out al16)
  replace H5 := Lib.hid (H5.out.trans (hb16.mono H5.out.size))
  replace HX := Lib.hid (cells_below HX.out hb16)
  replace HYa := Lib.hid (cells_below HYa.out hb16)
  replace HYb := Lib.hid (cells_below HYb.out hb16)
  clear hb16 al16
  go_wp2_with fail
  refine (M9.out _).mono ?_
  rintro e w17 ⟨rfl, hb17⟩
  replace H5 := Lib.hid (H5.out.trans (hb17.mono H5.out.size))
  replace HX := Lib.hid (cells_below HX.out hb17)
  replace HYa := Lib.hid (cells_below HYa.out hb17)
  replace HYb := Lib.hid (cells_below HYb.out hb17)
  clear hb17
  have z1 := rf_at HYb.out 1 _ rfl
  have f1 := rf_fr HYb.out 1
  have hset := blk_set HYb.out 1 (.string (rep 16 9))
  simp only [List.setIfInBounds_toArray, List.set_cons_zero, List.set_cons_succ] at hset
  have HYc := Lib.hid (show (w17.setCell ⟨w12.heap.size, 1, none⟩ (.string (rep 16 9))).heap[w12.heap.size]? = some (.cells #[.string c0.nm, .string c0.salt, .int .i64 c0.x, .string c0.b] 31 (0, 0)) from hset)
  have HXc := Lib.hid ((Below.heap_setCell w17 ⟨w12.heap.size, 1, none⟩ (.string (rep 16 9)) w5.heap.size Hgdb.out).trans HX.out)
  have HYa2 := Lib.hid ((Below.heap_setCell w17 ⟨w12.heap.size, 1, none⟩ (.string (rep 16 9)) w10.heap.size Hgab.out).trans HYa.out)
  have H5c := Lib.hid (H5.out.trans (rf_set (w := w17) (i := 1) h5b (.string (rep 16 9))))
  obtain ⟨W18, hW18⟩ : ∃ W, W = w17.setCell ⟨w12.heap.size, 1, none⟩ (.string (rep 16 9)) := ⟨_, rfl⟩
  rw [← hW18] at HYc HXc HYa2 H5c
  have HW18 := Lib.hid hW18
  clear hset hW18 HYb HX HYa H5
  go_upto_region 12 with fail
  rw [← HW18.out]
  clear z1 f1
  have H5 := H5c
  have HX := HXc
  have HYa := HYa2
  have HYb := HYc
  clear HW18 H5c HXc HYa2 HYc h5b
  have x0 := rf_at HX.out 0 _ rfl
  have x1 := rf_at HX.out 1 _ rfl
  have x2 := rf_at HX.out 2 _ rfl
  have x3 := rf_at HX.out 3 _ rfl
  have y0 := rf_at HYa.out 0 _ rfl
  have y1 := rf_at HYa.out 1 _ rfl
  have y2 := rf_at HYa.out 2 _ rfl
  have y3 := rf_at HYa.out 3 _ rfl
  have z0 := rf_at HYb.out 0 _ rfl
  have z1 := rf_at HYb.out 1 _ rfl
  have z2 := rf_at HYb.out 2 _ rfl
  have z3 := rf_at HYb.out 3 _ rfl
  have al19 := (Below.refl (W18).heap.size (W18)).alloc (Nat.le_refl _) (.cells #[.string a0.nm, .string a0.salt, .int .i64 a0.x, .string a0.b, .string c0.nm, .string c0.salt, .int .i64 c0.x, .string c0.b] 31)
  have h5a := H5.out.trans (al19.mono H5.out.size)
  go_wp2_with fail
  refine (HU.out _ _ [a0, c0] _ _ _ (HRV5.out.below h5a) (rd_ans2 _ _ (by first | rfl | simp) a0 c0 _) rfl (by simp) (HR.out.below (Bw5.out.trans (h5a.mono Bw5.out.size))) (HT.out.below (Bw5.out.trans (h5a.mono Bw5.out.size)))).mono ?_
  rintro e w19 ⟨rfl, hb19⟩
  clear x0 x1 x2 x3 y0 y1 y2 y3 z0 z1 z2 z3 h5a
  rw [U3.out]
  generalize unlS D0.r [a0, c0] wp = us3
  replace H5 := Lib.hid (H5.out.trans (al19.mono H5.out.size))
  replace HX := Lib.hid (cells_below HX.out al19)
  replace HYa := Lib.hid (cells_below HYa.out al19)
  replace HYb := Lib.hid (cells_below HYb.out al19)
  replace H5 := Lib.hid (H5.out.trans (hb19.mono H5.out.size))
  replace HX := Lib.hid (cells_below HX.out hb19)
  replace HYa := Lib.hid (cells_below HYa.out hb19)
  replace HYb := Lib.hid (cells_below HYb.out hb19)
  clear hb19 al19
  have e60 : ((wp.size : Int) == 60) = true := by have := Hw60.out; simp; omega
  have e6 : ((rep 32 6).toList == (rep 32 6).toList) = true := beq_self_eq_true _
  go_wp2_with fail
  refine (M6.out _).mono ?_
  rintro e w20 ⟨rfl, hb20⟩
  replace H5 := Lib.hid (H5.out.trans (hb20.mono H5.out.size))
  replace HX := Lib.hid (cells_below HX.out hb20)
  replace HYa := Lib.hid (cells_below HYa.out hb20)
  replace HYb := Lib.hid (cells_below HYb.out hb20)
  clear hb20
  have x0 := rf_at HX.out 0 _ rfl
  have x1 := rf_at HX.out 1 _ rfl
  have x2 := rf_at HX.out 2 _ rfl
  have x3 := rf_at HX.out 3 _ rfl
  have y0 := rf_at HYa.out 0 _ rfl
  have y1 := rf_at HYa.out 1 _ rfl
  have y2 := rf_at HYa.out 2 _ rfl
  have y3 := rf_at HYa.out 3 _ rfl
  go_wp2_with fail
  refine (HFa.out _ _ (HRV5.out.below H5.out) (HR.out.below (Bw5.out.trans (H5.out.mono Bw5.out.size)))).mono ?_
  rintro e w21 ⟨rfl, hb21⟩
  clear x0 x1 x2 x3 y0 y1 y2 y3
  replace H5 := Lib.hid (H5.out.trans (hb21.mono H5.out.size))
  replace HX := Lib.hid (cells_below HX.out hb21)
  replace HYa := Lib.hid (cells_below HYa.out hb21)
  replace HYb := Lib.hid (cells_below HYb.out hb21)
  clear hb21
  have x0 := rf_at HX.out 0 _ rfl
  have x1 := rf_at HX.out 1 _ rfl
  have x2 := rf_at HX.out 2 _ rfl
  have x3 := rf_at HX.out 3 _ rfl
  have z0 := rf_at HYb.out 0 _ rfl
  have z1 := rf_at HYb.out 1 _ rfl
  have z2 := rf_at HYb.out 2 _ rfl
  have z3 := rf_at HYb.out 3 _ rfl
  go_wp2_with fail
  refine (HFc.out _ _ (HRV5.out.below H5.out) (HR.out.below (Bw5.out.trans (H5.out.mono Bw5.out.size)))).mono ?_
  rintro e w22 ⟨rfl, hb22⟩
  clear x0 x1 x2 x3 z0 z1 z2 z3
  replace H5 := Lib.hid (H5.out.trans (hb22.mono H5.out.size))
  replace HX := Lib.hid (cells_below HX.out hb22)
  replace HYa := Lib.hid (cells_below HYa.out hb22)
  replace HYb := Lib.hid (cells_below HYb.out hb22)
  clear hb22
  go_wp2_with fail
  go_ret
  exact ⟨rfl, Bw5.out.trans (H5.out.mono Bw5.out.size)⟩
end Go.Proofs.YtifcpklaenbclaaGreatDoor
