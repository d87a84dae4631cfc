/-
  Contract of volume.Write.
-/
import Derived.Test.YtieekajjoikepaaGreatDoorVo3
namespace Go.Proofs.YtieekajjoikepaaGreatDoor
open Go.RowKit
set_option linter.unusedVariables false
set_option linter.unusedSimpArgs false
set_option maxRecDepth 100000
set_option maxHeartbeats 2000000

theorem three_boxes (w : World) (a b z0 z1 : Value) : (((w.alloc (.cells #[a, b] 27)).alloc (.cells #[z0, z1] 27)).alloc (.cells #[a, b] 76)).heap[w.heap.size]? = some (.cells #[a, b] 27 (0, 0)) ∧
    (((w.alloc (.cells #[a, b] 27)).alloc (.cells #[z0, z1] 27)).alloc (.cells #[a, b] 76)).heap[w.heap.size + 1]? = some (.cells #[z0, z1] 27 (0, 0)) ∧
    (((w.alloc (.cells #[a, b] 27)).alloc (.cells #[z0, z1] 27)).alloc (.cells #[a, b] 76)).heap[w.heap.size + 1 + 1]? = some (.cells #[a, b] 76 (0, 0)) ∧
    Below w.heap.size w (((w.alloc (.cells #[a, b] 27)).alloc (.cells #[z0, z1] 27)).alloc (.cells #[a, b] 76)) := by
  have h2 := heap_alloc_new (w.alloc (.cells #[a, b] 27)) (.cells #[z0, z1] 27)
  have h3 := heap_alloc_new ((w.alloc (.cells #[a, b] 27)).alloc (.cells #[z0, z1] 27)) (.cells #[a, b] 76)
  simp only [World.size_alloc] at h2 h3
  refine ⟨(Below.heap_alloc _ _ _ (by simp; omega)).trans ((Below.heap_alloc _ _ _ (by simp)).trans (heap_alloc_new w _)), (Below.heap_alloc _ _ _ (by simp)).trans h2, h3, (((Below.refl _ _).alloc (Nat.le_refl _) _).alloc (by simp) _).alloc (by simp; omega) _⟩
theorem own_ne_work {W : World} {B gA g : Nat} {n cap m : Nat} {xs : List Value} (h : W.ownsRow B 9 1 (.slice (some ⟨gA, 0, none⟩) n cap) m xs) {cs : Array Value} (hg : W.heap[g]? = some (.cells cs 76 (0, 0))) : gA ≠ g := by
  intro e
  rcases h.2 with ⟨hv, _⟩ | ⟨g', cap', cur, hv, hB, hg', _⟩
  · cases hv
  · injection hv with hv
    injection hv with hv
    injection hv with e1
    subst e1 e
    rw [hg] at hg'
    injection hg' with hg'
    injection hg' with _ h2 _
    cases h2
theorem vwrite_any (v : Value) (V : Vol) (key nonce : ByteArray) (i : Int) (s : ByteArray) (w : World) (hv : VV w v V) (hk : key.size ≤ maxLen) (ho : nonce.size ≤ maxLen) (hs : s.size ≤ maxLen) (hR : Rounds w) (hT : Turns w) :
    Calls Tryz.prog 37 #[v, .string key, .string nonce, .int .i64 i, .string s] w (VolE w (writeV V key nonce i s) (writeE V key nonce i s)) := by
  obtain ⟨A, n, c, rfl, hr, hn⟩ := hv
  obtain ⟨k1, k2, k3, k4⟩ := three_boxes w (.slice A n c) (.string V.rt) (.slice none 0 0) (.string ⟨#[]⟩)
  have HH := Lib.hid (fun W h => has_any (w.heap.size + 1 + 1) A n c V i W h hn)
  have HF := Lib.hid (fun W h1 h2 h3 => fit_any (w.heap.size + 1 + 1) A n c V (hasV V i) W h1 h2 hn h3)
  have HHd := Lib.hid (fun W h => hide_any key nonce i s W h hk ho hs)
  have HRd := Lib.hid hr
  have HN := Lib.hid hn
  have HR := Lib.hid hR
  have HT := Lib.hid hT
  obtain ⟨W1, hW1⟩ : ∃ W1, W1 = ((w.alloc (.cells #[.slice A n c, .string V.rt] 27)).alloc (.cells #[.slice none 0 0, .string ⟨#[]⟩] 27)).alloc (.cells #[.slice A n c, .string V.rt] 76) := ⟨_, rfl⟩
  have HW1 := Lib.hid hW1
  have p0 := (Below.heap_alloc (w.alloc (.cells #[.slice A n c, .string V.rt] 27)) (.cells #[.slice none 0 0, .string ⟨#[]⟩] 27) w.heap.size (by simp)).trans (heap_alloc_new w (.cells #[.slice A n c, .string V.rt] 27))
  have a0 := rf_at p0 0 _ rfl
  have a1 := rf_at p0 1 _ rfl
  rw [← hW1] at k1 k2 k3 k4
  have HX := Lib.hid k1
  have HZ := Lib.hid k2
  have HY := Lib.hid k3
  have Hb := Lib.hid k4
  clear hr hn hR hT k1 k2 k3 k4 hW1 p0
  obtain ⟨fe, hfe⟩ : ∃ fe, fe = fitE V (hasV V i) := ⟨_, rfl⟩
  rw [← hfe] at HF
  by_cases h0 : fe = 0
  case neg =>
    have hE : writeE V key nonce i s = fe := by unfold writeE; rw [if_pos (by rw [← hfe]; exact h0), hfe]
    have hS : writeV V key nonce i s = vol0 := by unfold writeV; rw [if_neg (by rw [hE]; exact h0)]
    rw [hE, hS]
    have d2 : ((fe : Int) != 0) = true := by simp; omega
    clear hE hS h0 hfe hk ho hs HHd
    go_enter Tryz.func37, Tryz.ntmps37
    go_wp2_with fail
    rw [← HW1.out]
    refine (HH.out _ HY.out).mono ?_
    rintro e w2 ⟨rfl, rfl⟩
    go_wp2_with fail
    refine (HF.out _ HY.out (HRd.out.below Hb.out) (HR.out.below Hb.out)).mono ?_
    rintro e w3 ⟨rfl, hb3⟩
    have HZ3 := Lib.hid (cells_below HZ.out hb3)
    have Hb3 := Lib.hid (Hb.out.trans (hb3.mono Hb.out.size))
    have b0 := rf_at HZ3.out 0 _ rfl
    have b1 := rf_at HZ3.out 1 _ rfl
    have f0 := rf_fr HZ3.out 0
    have f1 := rf_fr HZ3.out 1
    clear hb3 a0 a1
    go_wp2_with fail
    refine bodyPost_ret (res_cell_tmp rfl _ _ (w.heap.size + 1) (by rfl) _ (load_vol (vol_set HZ3.out _ _))) rfl ?_
    exact ⟨_, rfl, ⟨none, 0, 0, rfl, ⟨Rd.nil _ _, fun _ _ h => by cases h⟩, rfl⟩, (Hb3.out.setCell (p := ⟨w.heap.size + 1, 0, none⟩) (by dsimp only; omega) _).setCell (p := ⟨w.heap.size + 1, 1, none⟩) (by dsimp only; omega) _⟩
  have hz : fitE V (hasV V i) = 0 := by rw [← hfe]; exact h0
  have hE : writeE V key nonce i s = hideE key nonce i s := by unfold writeE; rw [if_neg (by rw [hz]; simp)]
  have d2 : (((0 : Nat) : Int) != 0) = false := rfl
  subst h0
  by_cases hh : hideE key nonce i s = 0
  case neg =>
    have hS : writeV V key nonce i s = vol0 := by unfold writeV; rw [if_neg (by rw [hE]; exact hh)]
    rw [hE, hS]
    generalize hideE key nonce i s = he at HHd hh ⊢
    generalize hideS key nonce i s = st at HHd
    have d3 : ((he : Int) != 0) = true := by simp; omega
    clear hE hS hh hfe hz hk ho hs
    go_enter Tryz.func37, Tryz.ntmps37
    go_wp2_with fail
    rw [← HW1.out]
    refine (HH.out _ HY.out).mono ?_
    rintro e w2 ⟨rfl, rfl⟩
    go_wp2_with fail
    refine (HF.out _ HY.out (HRd.out.below Hb.out) (HR.out.below Hb.out)).mono ?_
    rintro e w3 ⟨rfl, hb3⟩
    have HZ3 := Lib.hid (cells_below HZ.out hb3)
    have Hb3 := Lib.hid (Hb.out.trans (hb3.mono Hb.out.size))
    clear hb3 a0 a1
    go_wp2_with fail
    refine (HHd.out _ (HT.out.below Hb3.out)).mono ?_
    rintro e w4 ⟨rfl, hb4⟩
    have HZ4 := Lib.hid (cells_below HZ3.out hb4)
    have Hb4 := Lib.hid (Hb3.out.trans (hb4.mono Hb3.out.size))
    have b0 := rf_at HZ4.out 0 _ rfl
    have b1 := rf_at HZ4.out 1 _ rfl
    have f0 := rf_fr HZ4.out 0
    have f1 := rf_fr HZ4.out 1
    clear hb4
    go_wp2_with fail
    refine bodyPost_ret (res_cell_tmp rfl _ _ (w.heap.size + 1) (by rfl) _ (load_vol (vol_set HZ4.out _ _))) rfl ?_
    exact ⟨_, rfl, ⟨none, 0, 0, rfl, ⟨Rd.nil _ _, fun _ _ h => by cases h⟩, rfl⟩, (Hb4.out.setCell (p := ⟨w.heap.size + 1, 0, none⟩) (by dsimp only; omega) _).setCell (p := ⟨w.heap.size + 1, 1, none⟩) (by dsimp only; omega) _⟩
  obtain ⟨c1, c2, c3⟩ := fit_zero hz
  obtain ⟨p1, p2, p3⟩ := vol_parts c1
  have hi := c2
  unfold hasV at hi
  simp only [Bool.and_eq_true, decide_eq_true_eq] at hi
  obtain ⟨k, rfl⟩ := Int.eq_ofNat_of_zero_le hi.1
  have hkl : k < V.bl.length := by omega
  have hkn : (k : Int) < (n : Int) := by rw [HN.out]; exact hi.2
  have hkn2 : k < n := by omega
  have hn64 : n ≤ 64 := by rw [HN.out]; exact (count_le p1).2
  have hS : writeV V key nonce (k : Int) s = rooted (V.bl.set k (hideS key nonce (k : Int) s)) := by unfold writeV; rw [if_pos (by rw [hE]; exact hh), Int.toNat_natCast]
  have hz2 := (hide_show hh).2.2
  rw [hE, hS, hh]
  rw [hh] at HHd
  generalize hideS key nonce (k : Int) s = st at HHd hz2 ⊢
  have Hmay := Lib.hid (show mayB (V.bl.set k st).length = true by rw [List.length_set]; exact count_may p1)
  have Hsz := Lib.hid (show ∀ x ∈ V.bl.set k st, x.size ≤ 1000 from fun x hx => by
    rcases List.mem_or_eq_of_mem_set hx with hx | rfl
    · have := p3 x hx; omega
    · omega)
  obtain ⟨bl, rt⟩ := V
  simp only at HH HF HRd HN HX HY HW1 a0 a1 Hmay Hsz hkl ⊢
  clear hE hS hh hfe hz hk ho hs c1 c2 c3 p1 p2 p3 hi hz2
  go_enter Tryz.func37, Tryz.ntmps37
  go_wp2_with fail
  rw [← HW1.out]
  refine (HH.out _ HY.out).mono ?_
  rintro e w2 ⟨rfl, rfl⟩
  go_wp2_with fail
  refine (HF.out _ HY.out (HRd.out.below Hb.out) (HR.out.below Hb.out)).mono ?_
  rintro e w3 ⟨rfl, hb3⟩
  have HZ3 := Lib.hid (cells_below HZ.out hb3)
  have HX3 := Lib.hid (cells_below HX.out hb3)
  have Hb3 := Lib.hid (Hb.out.trans (hb3.mono Hb.out.size))
  clear hb3 a0 a1
  go_wp2_with fail
  refine (HHd.out _ (HT.out.below Hb3.out)).mono ?_
  rintro e w4 ⟨rfl, hb4⟩
  have HZ4 := Lib.hid (cells_below HZ3.out hb4)
  have HX4 := Lib.hid (cells_below HX3.out hb4)
  have Hb4 := Lib.hid (Hb3.out.trans (hb4.mono Hb3.out.size))
  have x0 := rf_at HX4.out 0 _ rfl
  have x1 := rf_at HX4.out 1 _ rfl
  clear hb4
  go_wp2_with fail
  refine (vcopied_any A n c bl rt w4 (HRd.out.below Hb4.out) HN.out (by omega)).mono ?_
  rintro e w5 ⟨g, A', cap, rfl, hg, hgB, hown, hb5⟩
  obtain ⟨gA, rfl, hgA, hlt, ⟨u0, hu0⟩, hfr, hset⟩ := own_text_set hown hkn2 HN.out
  have hne := own_ne_work hown hg
  have HZ5 := Lib.hid (cells_below HZ4.out hb5)
  have Hb5 := Lib.hid (Hb4.out.trans (hb5.mono Hb4.out.size))
  have HG := Lib.hid hg
  have y0 := rf_at hg 0 _ rfl
  have Hown := Lib.hid (hset st)
  have hz4 := cell_lt_of HZ4.out
  have hz5 := cell_lt_of HZ5.out
  clear hg hown hb5 hset x0 x1
  have HG6 := Lib.hid ((Below.heap_setCell w5 ⟨gA, k, none⟩ (.string st) g (by dsimp only; omega)).trans HG.out)
  have HZ6 := Lib.hid ((Below.heap_setCell w5 ⟨gA, k, none⟩ (.string st) (w.heap.size + 1) (by dsimp only; omega)).trans HZ5.out)
  have Hb6 := Lib.hid (Hb5.out.setCell (p := ⟨gA, k, none⟩) (by dsimp only; omega) (.string st))
  have HRo := Lib.hid (rooted_any g (some ⟨gA, 0, none⟩) n cap (bl.set k st) rt (w.heap.size + 1 + 1) _ HG6.out (own_rd Hown.out) (by rw [List.length_set]; exact HN.out) Hmay.out Hsz.out (HR.out.below Hb6.out) (by omega))
  go_wp2_with fail
  refine (HRo.out).mono ?_
  rintro e w7 ⟨rfl, hb7, hk7⟩
  have HZ7 := Lib.hid ((hb7.block (w.heap.size + 1) (by omega)).trans HZ6.out)
  have Hb7 := Lib.hid (Hb6.out.trans (hb7.mono (by omega)))
  have Rd7 := Lib.hid (show Rd w7 (some ⟨gA, 0, none⟩) (textsV (bl.set k st)) from rd_keep (own_rd Hown.out) fun b o e hlt' => by
    injection e with e
    injection e with e1 e2
    subst e1
    exact hk7 _ hlt' hne)
  have b0 := rf_at HZ7.out 0 _ rfl
  have b1 := rf_at HZ7.out 1 _ rfl
  have f0 := rf_fr HZ7.out 0
  have f1 := rf_fr HZ7.out 1
  clear hb7 hk7
  go_wp2_with fail
  refine bodyPost_ret (res_cell_tmp rfl _ _ (w.heap.size + 1) (by rfl) _ (load_vol (vol_set HZ7.out _ _))) rfl ?_
  exact ⟨_, rfl, ⟨_, _, _, rfl, ⟨vrd_set (vrd_set Rd7.out (fun b o e => by injection e with e; injection e with e1 e2; omega) _) (fun b o e => by injection e with e; injection e with e1 e2; omega) _, (fun b o e => by injection e with e; injection e with e1 e2; omega)⟩, by show n = (bl.set k st).length; rw [List.length_set]; exact HN.out⟩, (Hb7.out.setCell (p := ⟨w.heap.size + 1, 0, none⟩) (by dsimp only; omega) _).setCell (p := ⟨w.heap.size + 1, 1, none⟩) (by dsimp only; omega) _⟩
end Go.Proofs.YtieekajjoikepaaGreatDoor
