/-
  Contract of holder.Prepare. (Printed by gen_prep.py.)
  Contract of holder.Commit. (Printed by gen_commit.py.)
-/
import Derived.Test.YtkbjmmigjjdfpaaGreatDoorHr
import Derived.Test.YtkbjmmigjjdfpaaGreatDoorHp
namespace Go.Proofs.YtkbjmmigjjdfpaaGreatDoor
/- HoldP -/
open Go.RowKit
set_option linter.unusedVariables false
set_option maxRecDepth 100000
set_option maxHeartbeats 1000000
set_option linter.unusedSimpArgs false

theorem three_new (w : World) (a b c : Array Value) (ta tb tc : TypeId) :
    (((w.alloc (.cells a ta)).alloc (.cells b tb)).alloc (.cells c tc)).heap[w.heap.size]? = some (.cells a ta (0, 0)) ∧ (((w.alloc (.cells a ta)).alloc (.cells b tb)).alloc (.cells c tc)).heap[w.heap.size + 1]? = some (.cells b tb (0, 0)) ∧
    (((w.alloc (.cells a ta)).alloc (.cells b tb)).alloc (.cells c tc)).heap[w.heap.size + 1 + 1]? = some (.cells c tc (0, 0)) ∧ Below w.heap.size w (((w.alloc (.cells a ta)).alloc (.cells b tb)).alloc (.cells c tc)) := by
  have h0 := heap_alloc_new w (.cells a ta)
  have h1 := heap_alloc_new (w.alloc (.cells a ta)) (.cells b tb)
  have h2 := heap_alloc_new ((w.alloc (.cells a ta)).alloc (.cells b tb)) (.cells c tc)
  have b1 := (Below.refl (w.alloc (.cells a ta)).heap.size (w.alloc (.cells a ta))).alloc (Nat.le_refl _) (.cells b tb)
  have b2 := (Below.refl ((w.alloc (.cells a ta)).alloc (.cells b tb)).heap.size ((w.alloc (.cells a ta)).alloc (.cells b tb))).alloc (Nat.le_refl _) (.cells c tc)
  have hB := ((Below.refl w.heap.size w).alloc (Nat.le_refl _) (.cells a ta))
  have c0 := cells_below (cells_below h0 b1) b2
  have c1 := cells_below h1 b2
  simp only [World.size_alloc] at c1 h2
  exact ⟨c0, c1, h2, Below.chain (Below.chain hB b1) b2⟩
theorem keep4_below {W w' : World} {p q r s : Addr} {u v x y : Value} (h : (W.cell? p = some u ∧ W.cell? q = some v) ∧ (W.cell? r = some x ∧ W.cell? s = some y)) (hb : Below W.heap.size W w') : (w'.cell? p = some u ∧ w'.cell? q = some v) ∧ (w'.cell? r = some x ∧ w'.cell? s = some y) := ⟨keep2_below h.1 hb, keep2_below h.2 hb⟩
theorem keep4_alloc {W : World} {o : Obj} {p q r s : Addr} {u v x y : Value} (h : (W.cell? p = some u ∧ W.cell? q = some v) ∧ (W.cell? r = some x ∧ W.cell? s = some y)) : ((W.alloc o).cell? p = some u ∧ (W.alloc o).cell? q = some v) ∧ ((W.alloc o).cell? r = some x ∧ (W.alloc o).cell? s = some y) := ⟨keep2_alloc h.1, keep2_alloc h.2⟩
theorem keep4_set {W : World} {a p q r s : Addr} {z u v x y : Value} (h : (W.cell? p = some u ∧ W.cell? q = some v) ∧ (W.cell? r = some x ∧ W.cell? s = some y)) (h1 : a ≠ p) (h2 : a ≠ q) (h3 : a ≠ r) (h4 : a ≠ s) : ((W.setCell a z).cell? p = some u ∧ (W.setCell a z).cell? q = some v) ∧ ((W.setCell a z).cell? r = some x ∧ (W.setCell a z).cell? s = some y) := ⟨keep2_set h.1 h1 h2, keep2_set h.2 h3 h4⟩
theorem hprep_any (v : Value) (P : Plat) (epoch x : Int) (b salt : ByteArray) (deeds : Int) (w : World) (h : PlV w v P) (hb9 : b.size ≤ maxLen) (hs9 : salt.size ≤ maxLen) :
    Calls Tryz.prog 46 #[v, .int .i64 epoch, .agg #[.int .i64 x, .string b], .string salt, .int .i64 deeds] w (PlR w (prepH P epoch x b salt deeds)) := by
  obtain ⟨A, n, c, B, m, d, rfl, h⟩ := h
  obtain ⟨hA, hS, hX, hbA⟩ := three_new w #[.slice A n c, .slice B m d] #[.int .i64 x, .string b] zP 68 43 68
  have HA := Lib.hid hA
  have HS := Lib.hid hS
  have HX := Lib.hid hX
  have HB := Lib.hid hbA
  have HP := Lib.hid (h.below hbA)
  have hep := Lib.hid (getH_w P)
  unfold maxLen at hb9 hs9
  obtain ⟨q, hq⟩ : ∃ q, q = getH P := ⟨_, rfl⟩
  have HG : Hid (prepH P epoch x b salt deeds = if q.2 ≠ 0 then (noPlat, q.2) else if x < 1 ∨ 255 < x ∨ b.size ≠ 32 ∨ salt.size ≠ 16 then (noPlat, 1) else if epoch ≤ q.1.epoch ∨ 1000000 < epoch then (noPlat, 181) else rowP P deeds [(3, nextB epoch x b salt)]) := Lib.hid (by rw [hq]; rfl)
  rw [← hq] at hep
  have Hq := Lib.hid hq
  obtain ⟨⟨h0, h1, h2, h3, h4, h5, h6, h7, h8, h9⟩, er⟩ := q
  simp only at HG hep
  clear h hA hS hX hbA hq
  go_enter Tryz.func46, Tryz.ntmps46
  go_wp2_with fail
  refine (hget_any _ P _ ⟨_, _, _, _, _, _, rfl, HP.out⟩).mono ?_
  rintro e w1 ⟨rfl, hb1⟩
  rw [← Hq.out]
  replace HX := hblk_below HX hb1
  replace HA := hblk_below HA hb1
  replace HS := hblk_below HS hb1
  replace HB := Lib.hid (HB.out.trans (hb1.mono HB.out.size))
  replace HP := Lib.hid (HP.out.below hb1)
  have hb2 := (Below.refl w1.heap.size w1).alloc (Nat.le_refl _) (.cells #[.int .i64 h0, .int .i64 h1, .int .i64 h2, .string h3, .string h4, .string h5, .int .i64 h6, .int .i64 h7, .string h8, .string h9] 102)
  have H4 := Lib.hid (heap_alloc_new w1 (.cells #[.int .i64 h0, .int .i64 h1, .int .i64 h2, .string h3, .string h4, .string h5, .int .i64 h6, .int .i64 h7, .string h8, .string h9] 102))
  have HX2 := hblk_below HX hb2
  have HA2 := hblk_below HA hb2
  have HS2 := hblk_below HS hb2
  have HB2 := Lib.hid (HB.out.trans (hb2.mono HB.out.size))
  have HP2 := Lib.hid (HP.out.below hb2)
  have hltX := cell_lt_of HX.out
  clear hb1 hb2
  unfold hdV
  by_cases her : er = 0
  · subst her
    obtain ⟨a0, a1, _, _⟩ := two_cells HA2.out
    obtain ⟨s0, s1, _, _⟩ := two_cells HS2.out
    obtain ⟨x0, x1, x2, x3⟩ := two_cells HX2.out
    obtain ⟨p0, p1, p2, p3⟩ := two_cells HX.out
    obtain ⟨⟨e0, e1, e2, e3, e4, e5, e6, e7, e8, e9⟩, ef⟩ := ten_cells H4.out
    clear e1 e2 e3 e4 e5 e6 e7 e8 e9 ef
    by_cases c1 : x < 1
    · have HE := Lib.hid (show prepH P epoch x b salt deeds = (noPlat, 1) by rw [HG.out, if_neg (by simp), if_pos (.inl c1)])
      have d1 : decide (x < 1) = true := by simpa using c1
      go_wp2_with fail
      refine bodyPost_ret (res_cell_tmp rfl _ _ (w.heap.size + 1 + 1) (by rfl) _ (load_plat_new (cells_below (two_set HX.out _ _) ((Below.refl _ _).alloc (Nat.le_refl _) _)))) rfl ?_
      rw [HE.out]
      have htw := two_by (w0 := w) (w := w1) HB.out (show w.heap.size ≤ w.heap.size + 1 + 1 by omega) (.slice none 0 0) (.slice none 0 0)
      exact ⟨_, rfl, PlV.no _, htw.alloc htw.size _⟩
    · have d1 : decide (x < 1) = false := by simpa using c1
      by_cases c2 : 255 < x
      · have HE := Lib.hid (show prepH P epoch x b salt deeds = (noPlat, 1) by rw [HG.out, if_neg (by simp), if_pos (.inr (.inl c2))])
        have d2 : decide (255 < x) = true := by simpa using c2
        go_wp2_with fail
        refine bodyPost_ret (res_cell_tmp rfl _ _ (w.heap.size + 1 + 1) (by rfl) _ (load_plat_new (cells_below (two_set HX.out _ _) ((Below.refl _ _).alloc (Nat.le_refl _) _)))) rfl ?_
        rw [HE.out]
        have htw := two_by (w0 := w) (w := w1) HB.out (show w.heap.size ≤ w.heap.size + 1 + 1 by omega) (.slice none 0 0) (.slice none 0 0)
        exact ⟨_, rfl, PlV.no _, htw.alloc htw.size _⟩
      · have d2 : decide (255 < x) = false := by simpa using c2
        by_cases c3 : b.size = 32
        · have d3 : ((b.size : Int) != 32) = false := by simp; omega
          by_cases c4 : salt.size = 16
          · have d4 : ((salt.size : Int) != 16) = false := by simp; omega
            have HG2 := Lib.hid (show prepH P epoch x b salt deeds = if epoch ≤ h0 ∨ 1000000 < epoch then (noPlat, 181) else rowP P deeds [(3, nextB epoch x b salt)] by
              rw [HG.out, if_neg (by simp), if_neg (by rintro (h | h | h | h) <;> omega)])
            by_cases c5 : epoch ≤ h0
            · have HE := Lib.hid (show prepH P epoch x b salt deeds = (noPlat, 181) by rw [HG2.out, if_pos (.inl c5)])
              have d5 : decide (epoch ≤ h0) = true := by simpa using c5
              go_wp2_with fail
              refine bodyPost_ret (res_cell_tmp rfl _ _ (w.heap.size + 1 + 1) (by rfl) _ (load_plat_new (cells_below (two_set HX.out _ _) ((Below.refl _ _).alloc (Nat.le_refl _) _)))) rfl ?_
              rw [HE.out]
              have htw := two_by (w0 := w) (w := w1) HB.out (show w.heap.size ≤ w.heap.size + 1 + 1 by omega) (.slice none 0 0) (.slice none 0 0)
              exact ⟨_, rfl, PlV.no _, htw.alloc htw.size _⟩
            · have d5 : decide (epoch ≤ h0) = false := by simpa using c5
              by_cases c6 : 1000000 < epoch
              · have HE := Lib.hid (show prepH P epoch x b salt deeds = (noPlat, 181) by rw [HG2.out, if_pos (.inr c6)])
                have d6 : decide (1000000 < epoch) = true := by simpa using c6
                go_wp2_with fail
                refine bodyPost_ret (res_cell_tmp rfl _ _ (w.heap.size + 1 + 1) (by rfl) _ (load_plat_new (cells_below (two_set HX.out _ _) ((Below.refl _ _).alloc (Nat.le_refl _) _)))) rfl ?_
                rw [HE.out]
                have htw := two_by (w0 := w) (w := w1) HB.out (show w.heap.size ≤ w.heap.size + 1 + 1 by omega) (.slice none 0 0) (.slice none 0 0)
                exact ⟨_, rfl, PlV.no _, htw.alloc htw.size _⟩
              · have d6 : decide (1000000 < epoch) = false := by simpa using c6
                have HE := Lib.hid (show prepH P epoch x b salt deeds = rowP P deeds [(3, nextB epoch x b salt)] by rw [HG2.out, if_neg (by rintro (h | h) <;> omega)])
                have hwd : wordB epoch = true := by
                  have := hep.out.epoch
                  simp only [wordB, Bool.and_eq_true, decide_eq_true_eq] at this ⊢
                  omega
                have HNT := Lib.hid (fun W => nextText_any epoch x b salt W hwd (by omega) (by omega))
                generalize nextB epoch x b salt = tx at HNT HE
                go_wp2_with fail
                obtain ⟨w2, hw2⟩ : ∃ w2, w2 = w1.alloc (.cells #[.int .i64 h0, .int .i64 h1, .int .i64 h2, .string h3, .string h4, .string h5, .int .i64 h6, .int .i64 h7, .string h8, .string h9] 102) := ⟨_, rfl⟩
                rw [← hw2] at a0 a1 s0 s1 HX2 HA2 HS2 HB2 HP2 ⊢
                clear hw2 c1 c2 c5 c6 x0 x1 x2 x3 p0 p1 p2 p3 e0
                go_region_held3 (fun w' => (w'.cell? ⟨w.heap.size, 0, none⟩ = some (.slice A n c) ∧ w'.cell? ⟨w.heap.size, 1, none⟩ = some (.slice B m d)) ∧ (w'.cell? ⟨w.heap.size + 1, 0, none⟩ = some (.int .i64 x) ∧ w'.cell? ⟨w.heap.size + 1, 1, none⟩ = some (.string b)))
                  (first | assumption | exact ⟨⟨a0, a1⟩, ⟨s0, s1⟩⟩ | exact keep4_below (by assumption) hb5' | exact keep4_alloc (by assumption) | exact keep4_below ⟨⟨a0, a1⟩, ⟨s0, s1⟩⟩ (by assumption) | exact keep4_set (keep4_set (by assumption) (by simp) (by simp) (by simp) (by simp)) (by simp) (by simp) (by simp) (by simp))
                  (first
                    | ((go_at_call 86; refine Calls.mono (HNT.out _) ?_); rintro _ w4 ⟨rfl, hb4'⟩; have hb4 := Below.chain ((Below.refl _ w2).drew) hb4'; clear hb4'; replace HX2 := hblk_below HX2 hb4; replace HB2 := Lib.hid (HB2.out.trans (hb4.mono HB2.out.size)); replace HP2 := Lib.hid (HP2.out.below hb4); have hba := (Below.refl w4.heap.size w4).alloc (Nat.le_refl _) (.cells #[.int .i64 3, .string tx] 104))
                    | ((go_at_call 50; refine (row_any _ _ 1 1 deeds P [(3, tx)] _ ⟨_, _, _, _, _, _, rfl, HP2.out.below hba⟩ (by exact rd_new' w4 _ _ _ rfl) rfl (by simp) (by omega) (by omega)).mono ?_); rintro _ w5 ⟨v5, rfl, hv5, hb5'⟩; have hb5 := Below.chain hba hb5'; replace HX2 := hblk_below HX2 hb5; replace HB2 := Lib.hid (HB2.out.trans (hb5.mono HB2.out.size)); rw [← HE.out] at hv5 ⊢; obtain ⟨A6, n6, c6, B6, m6, d6, rfl, hO6⟩ := hv5; obtain ⟨y0, y1, y2, y3⟩ := two_cells HX2.out))
                go_wp2_with fail
                refine bodyPost_ret (res_cell_tmp rfl _ _ (w.heap.size + 1 + 1) (by rfl) _ (load_plat_new (two_set HX2.out _ _))) rfl ?_
                exact ⟨_, rfl, ⟨_, _, _, _, _, _, rfl, hO6.two HX2.out⟩, two_by HB2.out (by omega) _ _⟩
          · have HE := Lib.hid (show prepH P epoch x b salt deeds = (noPlat, 1) by rw [HG.out, if_neg (by simp), if_pos (.inr (.inr (.inr c4)))])
            have d4 : ((salt.size : Int) != 16) = true := by simp; omega
            go_wp2_with fail
            refine bodyPost_ret (res_cell_tmp rfl _ _ (w.heap.size + 1 + 1) (by rfl) _ (load_plat_new (cells_below (two_set HX.out _ _) ((Below.refl _ _).alloc (Nat.le_refl _) _)))) rfl ?_
            rw [HE.out]
            have htw := two_by (w0 := w) (w := w1) HB.out (show w.heap.size ≤ w.heap.size + 1 + 1 by omega) (.slice none 0 0) (.slice none 0 0)
            exact ⟨_, rfl, PlV.no _, htw.alloc htw.size _⟩
        · have HE := Lib.hid (show prepH P epoch x b salt deeds = (noPlat, 1) by rw [HG.out, if_neg (by simp), if_pos (.inr (.inr (.inl c3)))])
          have d3 : ((b.size : Int) != 32) = true := by simp; omega
          go_wp2_with fail
          refine bodyPost_ret (res_cell_tmp rfl _ _ (w.heap.size + 1 + 1) (by rfl) _ (load_plat_new (cells_below (two_set HX.out _ _) ((Below.refl _ _).alloc (Nat.le_refl _) _)))) rfl ?_
          rw [HE.out]
          have htw := two_by (w0 := w) (w := w1) HB.out (show w.heap.size ≤ w.heap.size + 1 + 1 by omega) (.slice none 0 0) (.slice none 0 0)
          exact ⟨_, rfl, PlV.no _, htw.alloc htw.size _⟩
  · have HE := Lib.hid (show prepH P epoch x b salt deeds = (noPlat, er) by rw [HG.out, if_pos her])
    have d1 : (er != 0) = true := by simpa using her
    obtain ⟨p0, p1, p2, p3⟩ := two_cells HX.out
    clear her
    go_wp2_with fail
    refine bodyPost_ret (res_cell_tmp rfl _ _ (w.heap.size + 1 + 1) (by rfl) _ (load_plat_new (cells_below (two_set HX.out _ _) ((Below.refl _ _).alloc (Nat.le_refl _) _)))) rfl ?_
    rw [HE.out]
    have htw := two_by (w0 := w) (w := w1) HB.out (show w.heap.size ≤ w.heap.size + 1 + 1 by omega) (.slice none 0 0) (.slice none 0 0)
    exact ⟨_, rfl, PlV.no _, htw.alloc htw.size _⟩

/- HoldC -/
open Go.RowKit
set_option linter.unusedVariables false
set_option maxRecDepth 100000
set_option maxHeartbeats 1000000
set_option linter.unusedSimpArgs false

theorem hcommit_any (v : Value) (P : Plat) (epoch deeds : Int) (w : World) (h : PlV w v P) :
    Calls Tryz.prog 48 #[v, .int .i64 epoch, .int .i64 deeds] w (PlR w (commitH P epoch deeds)) := by
  obtain ⟨A, n, c, B, m, d, rfl, h⟩ := h
  obtain ⟨hX, hA, hbA⟩ := two_new w #[.slice A n c, .slice B m d] 68
  have HA := Lib.hid hA
  have HX := Lib.hid hX
  have HB := Lib.hid hbA
  have HP := Lib.hid (h.below hbA)
  have hep := Lib.hid (getH_w P)
  obtain ⟨q, hq⟩ : ∃ q, q = getH P := ⟨_, rfl⟩
  have HG : Hid (commitH P epoch deeds = if q.2 ≠ 0 then (noPlat, q.2) else if epoch ≠ 0 ∧ q.1.epoch = epoch then rowP P deeds [(3, none0), (3, none0)] else if epoch = 0 ∨ q.1.next ≠ epoch then (noPlat, 181)
    else rowP P deeds [(0, nowB { noHd with epoch := q.1.next, x := q.1.nx, b := q.1.nb, salt := q.1.nsalt, cred := q.1.cred }), (0, nowB { noHd with epoch := q.1.next, x := q.1.nx, b := q.1.nb, salt := q.1.nsalt, cred := q.1.cred }), (3, none0), (3, none0)]) := Lib.hid (by rw [hq]; rfl)
  rw [← hq] at hep
  have Hq := Lib.hid hq
  obtain ⟨⟨h0, h1, h2, h3, h4, h5, h6, h7, h8, h9⟩, er⟩ := q
  simp only at HG hep
  clear h hA hX hbA hq
  go_enter Tryz.func48, Tryz.ntmps48
  go_wp2_with fail
  refine (hget_any _ P _ ⟨_, _, _, _, _, _, rfl, HP.out⟩).mono ?_
  rintro e w1 ⟨rfl, hb1⟩
  rw [← Hq.out]
  replace HX := hblk_below HX hb1
  replace HA := hblk_below HA hb1
  replace HB := Lib.hid (HB.out.trans (hb1.mono HB.out.size))
  replace HP := Lib.hid (HP.out.below hb1)
  have hb2 := (Below.refl w1.heap.size w1).alloc (Nat.le_refl _) (.cells #[.int .i64 h0, .int .i64 h1, .int .i64 h2, .string h3, .string h4, .string h5, .int .i64 h6, .int .i64 h7, .string h8, .string h9] 102)
  have hb3 := (Below.refl (w1.alloc (.cells #[.int .i64 h0, .int .i64 h1, .int .i64 h2, .string h3, .string h4, .string h5, .int .i64 h6, .int .i64 h7, .string h8, .string h9] 102)).heap.size (w1.alloc (.cells #[.int .i64 h0, .int .i64 h1, .int .i64 h2, .string h3, .string h4, .string h5, .int .i64 h6, .int .i64 h7, .string h8, .string h9] 102))).alloc (Nat.le_refl _) (.cells #[.int .i64 3, .string ⟨#[]⟩] 104)
  have H4 := Lib.hid (cells_below (heap_alloc_new w1 (.cells #[.int .i64 h0, .int .i64 h1, .int .i64 h2, .string h3, .string h4, .string h5, .int .i64 h6, .int .i64 h7, .string h8, .string h9] 102)) hb3)
  have h5' := heap_alloc_new (w1.alloc (.cells #[.int .i64 h0, .int .i64 h1, .int .i64 h2, .string h3, .string h4, .string h5, .int .i64 h6, .int .i64 h7, .string h8, .string h9] 102)) (.cells #[.int .i64 3, .string ⟨#[]⟩] 104)
  rw [World.size_alloc] at h5'
  have H5 := Lib.hid h5'
  have hb23 := Below.chain hb2 hb3
  have HX2 := hblk_below HX hb23
  have HA2 := hblk_below HA hb23
  have HB2 := Lib.hid (HB.out.trans (hb23.mono HB.out.size))
  have HP2 := Lib.hid (HP.out.below hb23)
  have hltX := cell_lt_of HX.out
  clear hb1 hb2 hb3 hb23 h5'
  unfold hdV
  obtain ⟨p0, p1, p2, p3⟩ := two_cells HX.out
  by_cases her : er = 0
  · subst her
    obtain ⟨a0, a1, _, _⟩ := two_cells HA2.out
    obtain ⟨x0, x1, x2, x3⟩ := two_cells HX2.out
    obtain ⟨n0, n1, _, _⟩ := two_cells H5.out
    obtain ⟨⟨e0, e1, e2, e3, e4, e5, e6, e7, e8, e9⟩, ef⟩ := ten_cells H4.out
    clear e1 e2 e3 e4 ef
    by_cases c1 : epoch = 0
    · have HE := Lib.hid (show commitH P epoch deeds = (noPlat, 181) by rw [HG.out, if_neg (by simp), if_neg (by rintro ⟨h, _⟩; exact h c1), if_pos (.inl c1)])
      have d1 : (epoch != 0) = false := by simpa using c1
      have d2 : (epoch == 0) = true := by simpa using c1
      clear c1
      go_wp2_with fail
      refine bodyPost_ret (res_cell_tmp rfl _ _ (w.heap.size + 1) (by rfl) _ (load_plat_new (two_set HX2.out _ _))) rfl ?_
      rw [HE.out]
      exact ⟨_, rfl, PlV.no _, two_by HB2.out (by omega) _ _⟩
    · have d1 : (epoch != 0) = true := by simpa using c1
      have d2 : (epoch == 0) = false := by simpa using c1
      by_cases c2 : h0 = epoch
      · have HE := Lib.hid (show commitH P epoch deeds = rowP P deeds [(3, none0), (3, none0)] by rw [HG.out, if_neg (by simp), if_pos ⟨c1, c2⟩])
        have d3 : (h0 == epoch) = true := by simpa using c2
        clear c1 c2 p0 p1 p2 p3
        go_wp2_with fail
        generalize hW : (w1.alloc (.cells #[.int .i64 h0, .int .i64 h1, .int .i64 h2, .string h3, .string h4, .string h5, .int .i64 h6, .int .i64 h7, .string h8, .string h9] 102)).alloc (.cells #[.int .i64 3, .string ⟨#[]⟩] 104) = w2 at HX2 HB2 HP2 ⊢
        have hsz : w1.heap.size + 1 + 1 = w2.heap.size := by rw [← hW]; simp
        have hba := (Below.refl w2.heap.size w2).alloc (Nat.le_refl _) (.cells #[.int .i64 3, .string ⟨#[]⟩, .int .i64 3, .string ⟨#[]⟩] 104)
        clear hW a0 a1 x0 x1 x2 x3 n0 n1 e0 e5 e6 e7 e8 e9
        refine (row_any _ _ 2 2 deeds P [(3, none0), (3, none0)] _ ⟨_, _, _, _, _, _, rfl, HP2.out.below hba⟩ (by rw [hsz]; exact rd_new' w2 _ _ _ rfl) rfl (by simp) (by omega) (by omega)).mono ?_
        rintro e w5 ⟨v5, rfl, hv5, hb5⟩
        rw [← HE.out] at hv5 ⊢
        obtain ⟨A6, n6, c6, B6, m6, d6, rfl, hO6⟩ := hv5
        have hB5 := Below.chain hba hb5
        replace HX2 := hblk_below HX2 hB5
        replace HB2 := Lib.hid (HB2.out.trans (hB5.mono HB2.out.size))
        obtain ⟨y0, y1, y2, y3⟩ := two_cells HX2.out
        clear hb5 hB5 hba
        go_wp2_with fail
        refine bodyPost_ret (res_cell_tmp rfl _ _ (w.heap.size + 1) (by rfl) _ (load_plat_new (two_set HX2.out _ _))) rfl ?_
        exact ⟨_, rfl, ⟨_, _, _, _, _, _, rfl, hO6.two HX2.out⟩, two_by HB2.out (by omega) _ _⟩
      · have d3 : (h0 == epoch) = false := by simpa using c2
        by_cases c3 : h6 = epoch
        · have d4 : (h6 != epoch) = false := by simpa using c3
          have HE := Lib.hid (show commitH P epoch deeds = rowP P deeds [(0, nowB ⟨h6, 0, h7, h8, h9, h5, 0, 0, none0, none0⟩), (0, nowB ⟨h6, 0, h7, h8, h9, h5, 0, 0, none0, none0⟩), (3, none0), (3, none0)] by rw [HG.out, if_neg (by simp), if_neg (by rintro ⟨_, h⟩; exact c2 h), if_neg (by rintro (h | h); exact c1 h; exact h c3)]; rfl)
          have HNT := Lib.hid (fun W => nowText_any ⟨h6, 0, h7, h8, h9, h5, 0, 0, none0, none0⟩ W hep.out.next (Nat.le_trans hep.out.nb (by omega)) (Nat.le_trans hep.out.ns (by omega)) (Nat.le_trans hep.out.c (by omega)))
          generalize nowB ⟨h6, 0, h7, h8, h9, h5, 0, 0, none0, none0⟩ = tx at HNT HE
          unfold hdV at HNT
          clear c1 c2 c3 p0 p1 p2 p3
          go_wp2_with fail
          refine Calls.mono (HNT.out _) ?_
          rintro e w4 ⟨rfl, hb4⟩
          replace HX2 := hblk_below HX2 hb4
          replace HA2 := hblk_below HA2 hb4
          replace H5 := hblk_below H5 hb4
          replace HB2 := Lib.hid (HB2.out.trans (hb4.mono HB2.out.size))
          replace HP2 := Lib.hid (HP2.out.below hb4)
          have hba := (Below.refl w4.heap.size w4).alloc (Nat.le_refl _) (.cells #[.int .i64 0, .string tx] 104)
          have H6 := Lib.hid (heap_alloc_new w4 (.cells #[.int .i64 0, .string tx] 104))
          replace HX2 := hblk_below HX2 hba
          replace HA2 := hblk_below HA2 hba
          replace H5 := hblk_below H5 hba
          replace HB2 := Lib.hid (HB2.out.trans (hba.mono HB2.out.size))
          replace HP2 := Lib.hid (HP2.out.below hba)
          clear hb4 hba a0 a1 x0 x1 x2 x3 n0 n1 e0 e5 e6 e7 e8 e9
          obtain ⟨a0, a1, _, _⟩ := two_cells HA2.out
          obtain ⟨n0, n1, _, _⟩ := two_cells H5.out
          obtain ⟨m0, m1, _, _⟩ := two_cells H6.out
          go_wp2_with fail
          have hsz : w4.heap.size + 1 = (w4.alloc (.cells #[.int .i64 0, .string tx] 104)).heap.size := by simp
          generalize w4.alloc (.cells #[.int .i64 0, .string tx] 104) = w3 at hsz HX2 HB2 HP2 ⊢
          have hbb := (Below.refl w3.heap.size w3).alloc (Nat.le_refl _) (.cells #[.int .i64 0, .string tx, .int .i64 0, .string tx, .int .i64 3, .string ⟨#[]⟩, .int .i64 3, .string ⟨#[]⟩] 104)
          clear a0 a1 n0 n1 m0 m1
          refine (row_any _ _ 4 4 deeds P [(0, tx), (0, tx), (3, none0), (3, none0)] _ ⟨_, _, _, _, _, _, rfl, HP2.out.below hbb⟩ (by rw [hsz]; exact rd_new' w3 _ _ _ rfl) rfl (by simp) (by omega) (by omega)).mono ?_
          rintro e w5 ⟨v5, rfl, hv5, hb5⟩
          rw [← HE.out] at hv5 ⊢
          obtain ⟨A6, n6, c6, B6, m6, d6, rfl, hO6⟩ := hv5
          have hB5 := Below.chain hbb hb5
          replace HX2 := hblk_below HX2 hB5
          replace HB2 := Lib.hid (HB2.out.trans (hB5.mono HB2.out.size))
          obtain ⟨y0, y1, y2, y3⟩ := two_cells HX2.out
          clear hb5 hB5 hbb
          go_wp2_with fail
          refine bodyPost_ret (res_cell_tmp rfl _ _ (w.heap.size + 1) (by rfl) _ (load_plat_new (two_set HX2.out _ _))) rfl ?_
          exact ⟨_, rfl, ⟨_, _, _, _, _, _, rfl, hO6.two HX2.out⟩, two_by HB2.out (by omega) _ _⟩
        · have HE := Lib.hid (show commitH P epoch deeds = (noPlat, 181) by rw [HG.out, if_neg (by simp), if_neg (by rintro ⟨_, h⟩; exact c2 h), if_pos (.inr c3)])
          have d4 : (h6 != epoch) = true := by simpa using c3
          clear c1 c2 c3
          go_wp2_with fail
          refine bodyPost_ret (res_cell_tmp rfl _ _ (w.heap.size + 1) (by rfl) _ (load_plat_new (two_set HX2.out _ _))) rfl ?_
          rw [HE.out]
          exact ⟨_, rfl, PlV.no _, two_by HB2.out (by omega) _ _⟩
  · have HE := Lib.hid (show commitH P epoch deeds = (noPlat, er) by rw [HG.out, if_pos her])
    have d1 : (er != 0) = true := by simpa using her
    obtain ⟨x0, x1, x2, x3⟩ := two_cells HX2.out
    clear her
    go_wp2_with fail
    refine bodyPost_ret (res_cell_tmp rfl _ _ (w.heap.size + 1) (by rfl) _ (load_plat_new (two_set HX2.out _ _))) rfl ?_
    rw [HE.out]
    exact ⟨_, rfl, PlV.no _, two_by HB2.out (by omega) _ _⟩

end Go.Proofs.YtkbjmmigjjdfpaaGreatDoor
