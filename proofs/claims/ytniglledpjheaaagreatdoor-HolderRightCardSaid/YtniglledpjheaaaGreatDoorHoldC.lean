/-
  Contract of holder.Commit. (Printed by gen_commit.py.)
-/
import Derived.Test.YtniglledpjheaaaGreatDoorHoldP
namespace Go.Proofs.YtniglledpjheaaaGreatDoor
open Go.RowKit
set_option linter.unusedVariables false
set_option maxRecDepth 100000
set_option maxHeartbeats 1000000
set_option linter.unusedSimpArgs false

theorem hcommit_any (v : Value) (P : Plat) (epoch deeds : Int) (w : World) (h : PlV w v P) :
    Calls Tryz.prog 10 #[v, .int .i64 epoch, .int .i64 deeds] w (PlR w (commitH P epoch deeds)) := by
  obtain ⟨A, n, c, B, m, d, rfl, h⟩ := h
  obtain ⟨hX, hA, hbA⟩ := two_new w #[.slice A n c, .slice B m d] 27
  have HA := Lib.hid hA
  have HX := Lib.hid hX
  have HB := Lib.hid hbA
  have HP := Lib.hid (h.below hbA)
  have hep := Lib.hid (getH_w P)
  obtain ⟨q, hq⟩ : ∃ q, q = getH P := ⟨_, rfl⟩
  have HG : Hid (commitH P epoch deeds = if q.2 ≠ 0 then (noPlat, q.2) else if epoch ≠ 0 ∧ q.1.epoch = epoch then rowP P deeds [(3, none0), (3, none0)] else if epoch = 0 ∨ q.1.next ≠ epoch then (noPlat, 181)
    else rowP P deeds [(0, nowB { noHd with epoch := q.1.next, x := q.1.nx, b := q.1.nb, salt := q.1.nsalt, cred := q.1.cred }), (0, nowB { noHd with epoch := q.1.next, x := q.1.nx, b := q.1.nb, salt := q.1.nsalt, cred := q.1.cred }), (3, none0), (3, none0)]) := Lib.hid (by rw [hq]; rfl)
  rw [← hq] at hep
  have Hq := Lib.hid hq
  obtain ⟨⟨h0, h1, h2, h3, h4, h5, h6, h7, h8, h9⟩, er⟩ := q
  simp only at HG hep
  clear h hA hX hbA hq
  go_enter Tryz.func10, Tryz.ntmps10
  go_wp2_with fail
  refine (hget_any _ P _ ⟨_, _, _, _, _, _, rfl, HP.out⟩).mono ?_
  rintro e w1 ⟨rfl, hb1⟩
  rw [← Hq.out]
  replace HX := hblk_below HX hb1
  replace HA := hblk_below HA hb1
  replace HB := Lib.hid (HB.out.trans (hb1.mono HB.out.size))
  replace HP := Lib.hid (HP.out.below hb1)
  have hb2 := (Below.refl w1.heap.size w1).alloc (Nat.le_refl _) (.cells #[.int .i64 h0, .int .i64 h1, .int .i64 h2, .string h3, .string h4, .string h5, .int .i64 h6, .int .i64 h7, .string h8, .string h9] 39)
  have hb3 := (Below.refl (w1.alloc (.cells #[.int .i64 h0, .int .i64 h1, .int .i64 h2, .string h3, .string h4, .string h5, .int .i64 h6, .int .i64 h7, .string h8, .string h9] 39)).heap.size (w1.alloc (.cells #[.int .i64 h0, .int .i64 h1, .int .i64 h2, .string h3, .string h4, .string h5, .int .i64 h6, .int .i64 h7, .string h8, .string h9] 39))).alloc (Nat.le_refl _) (.cells #[.int .i64 3, .string ⟨#[]⟩] 51)
  have H4 := Lib.hid (cells_below (heap_alloc_new w1 (.cells #[.int .i64 h0, .int .i64 h1, .int .i64 h2, .string h3, .string h4, .string h5, .int .i64 h6, .int .i64 h7, .string h8, .string h9] 39)) hb3)
  have h5' := heap_alloc_new (w1.alloc (.cells #[.int .i64 h0, .int .i64 h1, .int .i64 h2, .string h3, .string h4, .string h5, .int .i64 h6, .int .i64 h7, .string h8, .string h9] 39)) (.cells #[.int .i64 3, .string ⟨#[]⟩] 51)
  rw [World.size_alloc] at h5'
  have H5 := Lib.hid h5'
  have hb23 := Below.chain hb2 hb3
  have HX2 := hblk_below HX hb23
  have HA2 := hblk_below HA hb23
  have HB2 := Lib.hid (HB.out.trans (hb23.mono HB.out.size))
  have HP2 := Lib.hid (HP.out.below hb23)
  have hltX := cell_lt_of HX.out
  clear hb1 hb2 hb3 hb23 h5'
  unfold hdV
  obtain ⟨p0, p1, p2, p3⟩ := two_cells HX.out
  by_cases her : er = 0
  · subst her
    obtain ⟨a0, a1, _, _⟩ := two_cells HA2.out
    obtain ⟨x0, x1, x2, x3⟩ := two_cells HX2.out
    obtain ⟨n0, n1, _, _⟩ := two_cells H5.out
    obtain ⟨⟨e0, e1, e2, e3, e4, e5, e6, e7, e8, e9⟩, ef⟩ := ten_cells H4.out
    clear e1 e2 e3 e4 ef
    by_cases c1 : epoch = 0
    · have HE := Lib.hid (show commitH P epoch deeds = (noPlat, 181) by rw [HG.out, if_neg (by simp), if_neg (by rintro ⟨h, _⟩; exact h c1), if_pos (.inl c1)])
      have d1 : (epoch != 0) = false := by simpa using c1
      have d2 : (epoch == 0) = true := by simpa using c1
      clear c1
      go_wp2_with fail
      refine bodyPost_ret (res_cell_tmp rfl _ _ (w.heap.size + 1) (by rfl) _ (load_plat_new (two_set HX2.out _ _))) rfl ?_
      rw [HE.out]
      exact ⟨_, rfl, PlV.no _, two_by HB2.out (by omega) _ _⟩
    · have d1 : (epoch != 0) = true := by simpa using c1
      have d2 : (epoch == 0) = false := by simpa using c1
      by_cases c2 : h0 = epoch
      · have HE := Lib.hid (show commitH P epoch deeds = rowP P deeds [(3, none0), (3, none0)] by rw [HG.out, if_neg (by simp), if_pos ⟨c1, c2⟩])
        have d3 : (h0 == epoch) = true := by simpa using c2
        clear c1 c2 p0 p1 p2 p3
        go_wp2_with fail
        generalize hW : (w1.alloc (.cells #[.int .i64 h0, .int .i64 h1, .int .i64 h2, .string h3, .string h4, .string h5, .int .i64 h6, .int .i64 h7, .string h8, .string h9] 39)).alloc (.cells #[.int .i64 3, .string ⟨#[]⟩] 51) = w2 at HX2 HB2 HP2 ⊢
        have hsz : w1.heap.size + 1 + 1 = w2.heap.size := by rw [← hW]; simp
        have hba := (Below.refl w2.heap.size w2).alloc (Nat.le_refl _) (.cells #[.int .i64 3, .string ⟨#[]⟩, .int .i64 3, .string ⟨#[]⟩] 51)
        clear hW a0 a1 x0 x1 x2 x3 n0 n1 e0 e5 e6 e7 e8 e9
        refine (row_any _ _ 2 2 deeds P [(3, none0), (3, none0)] _ ⟨_, _, _, _, _, _, rfl, HP2.out.below hba⟩ (by rw [hsz]; exact rd_new' w2 _ _ _ rfl) rfl (by simp) (by omega) (by omega)).mono ?_
        rintro e w5 ⟨v5, rfl, hv5, hb5⟩
        rw [← HE.out] at hv5 ⊢
        obtain ⟨A6, n6, c6, B6, m6, d6, rfl, hO6⟩ := hv5
        have hB5 := Below.chain hba hb5
        replace HX2 := hblk_below HX2 hB5
        replace HB2 := Lib.hid (HB2.out.trans (hB5.mono HB2.out.size))
        obtain ⟨y0, y1, y2, y3⟩ := two_cells HX2.out
        clear hb5 hB5 hba
        go_wp2_with fail
        refine bodyPost_ret (res_cell_tmp rfl _ _ (w.heap.size + 1) (by rfl) _ (load_plat_new (two_set HX2.out _ _))) rfl ?_
        exact ⟨_, rfl, ⟨_, _, _, _, _, _, rfl, hO6.two HX2.out⟩, two_by HB2.out (by omega) _ _⟩
      · have d3 : (h0 == epoch) = false := by simpa using c2
        by_cases c3 : h6 = epoch
        · have d4 : (h6 != epoch) = false := by simpa using c3
          have HE := Lib.hid (show commitH P epoch deeds = rowP P deeds [(0, nowB ⟨h6, 0, h7, h8, h9, h5, 0, 0, none0, none0⟩), (0, nowB ⟨h6, 0, h7, h8, h9, h5, 0, 0, none0, none0⟩), (3, none0), (3, none0)] by rw [HG.out, if_neg (by simp), if_neg (by rintro ⟨_, h⟩; exact c2 h), if_neg (by rintro (h | h); exact c1 h; exact h c3)]; rfl)
          have HNT := Lib.hid (fun W => nowText_any ⟨h6, 0, h7, h8, h9, h5, 0, 0, none0, none0⟩ W hep.out.next (Nat.le_trans hep.out.nb (by omega)) (Nat.le_trans hep.out.ns (by omega)) (Nat.le_trans hep.out.c (by omega)))
          generalize nowB ⟨h6, 0, h7, h8, h9, h5, 0, 0, none0, none0⟩ = tx at HNT HE
          unfold hdV at HNT
          clear c1 c2 c3 p0 p1 p2 p3
          go_wp2_with fail
          refine Calls.mono (HNT.out _) ?_
          rintro e w4 ⟨rfl, hb4⟩
          replace HX2 := hblk_below HX2 hb4
          replace HA2 := hblk_below HA2 hb4
          replace H5 := hblk_below H5 hb4
          replace HB2 := Lib.hid (HB2.out.trans (hb4.mono HB2.out.size))
          replace HP2 := Lib.hid (HP2.out.below hb4)
          have hba := (Below.refl w4.heap.size w4).alloc (Nat.le_refl _) (.cells #[.int .i64 0, .string tx] 51)
          have H6 := Lib.hid (heap_alloc_new w4 (.cells #[.int .i64 0, .string tx] 51))
          replace HX2 := hblk_below HX2 hba
          replace HA2 := hblk_below HA2 hba
          replace H5 := hblk_below H5 hba
          replace HB2 := Lib.hid (HB2.out.trans (hba.mono HB2.out.size))
          replace HP2 := Lib.hid (HP2.out.below hba)
          clear hb4 hba a0 a1 x0 x1 x2 x3 n0 n1 e0 e5 e6 e7 e8 e9
          obtain ⟨a0, a1, _, _⟩ := two_cells HA2.out
          obtain ⟨n0, n1, _, _⟩ := two_cells H5.out
          obtain ⟨m0, m1, _, _⟩ := two_cells H6.out
          go_wp2_with fail
          have hsz : w4.heap.size + 1 = (w4.alloc (.cells #[.int .i64 0, .string tx] 51)).heap.size := by simp
          generalize w4.alloc (.cells #[.int .i64 0, .string tx] 51) = w3 at hsz HX2 HB2 HP2 ⊢
          have hbb := (Below.refl w3.heap.size w3).alloc (Nat.le_refl _) (.cells #[.int .i64 0, .string tx, .int .i64 0, .string tx, .int .i64 3, .string ⟨#[]⟩, .int .i64 3, .string ⟨#[]⟩] 51)
          clear a0 a1 n0 n1 m0 m1
          refine (row_any _ _ 4 4 deeds P [(0, tx), (0, tx), (3, none0), (3, none0)] _ ⟨_, _, _, _, _, _, rfl, HP2.out.below hbb⟩ (by rw [hsz]; exact rd_new' w3 _ _ _ rfl) rfl (by simp) (by omega) (by omega)).mono ?_
          rintro e w5 ⟨v5, rfl, hv5, hb5⟩
          rw [← HE.out] at hv5 ⊢
          obtain ⟨A6, n6, c6, B6, m6, d6, rfl, hO6⟩ := hv5
          have hB5 := Below.chain hbb hb5
          replace HX2 := hblk_below HX2 hB5
          replace HB2 := Lib.hid (HB2.out.trans (hB5.mono HB2.out.size))
          obtain ⟨y0, y1, y2, y3⟩ := two_cells HX2.out
          clear hb5 hB5 hbb
          go_wp2_with fail
          refine bodyPost_ret (res_cell_tmp rfl _ _ (w.heap.size + 1) (by rfl) _ (load_plat_new (two_set HX2.out _ _))) rfl ?_
          exact ⟨_, rfl, ⟨_, _, _, _, _, _, rfl, hO6.two HX2.out⟩, two_by HB2.out (by omega) _ _⟩
        · have HE := Lib.hid (show commitH P epoch deeds = (noPlat, 181) by rw [HG.out, if_neg (by simp), if_neg (by rintro ⟨_, h⟩; exact c2 h), if_pos (.inr c3)])
          have d4 : (h6 != epoch) = true := by simpa using c3
          clear c1 c2 c3
          go_wp2_with fail
          refine bodyPost_ret (res_cell_tmp rfl _ _ (w.heap.size + 1) (by rfl) _ (load_plat_new (two_set HX2.out _ _))) rfl ?_
          rw [HE.out]
          exact ⟨_, rfl, PlV.no _, two_by HB2.out (by omega) _ _⟩
  · have HE := Lib.hid (show commitH P epoch deeds = (noPlat, er) by rw [HG.out, if_pos her])
    have d1 : (er != 0) = true := by simpa using her
    obtain ⟨x0, x1, x2, x3⟩ := two_cells HX2.out
    clear her
    go_wp2_with fail
    refine bodyPost_ret (res_cell_tmp rfl _ _ (w.heap.size + 1) (by rfl) _ (load_plat_new (two_set HX2.out _ _))) rfl ?_
    rw [HE.out]
    exact ⟨_, rfl, PlV.no _, two_by HB2.out (by omega) _ _⟩
end Go.Proofs.YtniglledpjheaaaGreatDoor
