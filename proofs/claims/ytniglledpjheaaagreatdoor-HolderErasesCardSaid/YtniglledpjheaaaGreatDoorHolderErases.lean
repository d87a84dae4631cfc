/-
  The walk of the law HolderErases. (Printed by gen_erases.py.)
-/
import Derived.Test.YtniglledpjheaaaGreatDoorHolderRight
import Derived.Test.YtniglledpjheaaaGreatDoorErasesT
import Derived.Test.YtniglledpjheaaaGreatDoorHas
import Derived.Test.YtniglledpjheaaaGreatDoorNow21
namespace Go.Proofs.YtniglledpjheaaaGreatDoor
open Go.RowKit
set_option linter.unusedVariables false
set_option maxRecDepth 100000
set_option maxHeartbeats 2000000
set_option linter.unusedSimpArgs false

instance fitE_dec (e x : Int) (b salt : ByteArray) : Decidable (fitE e x b salt) := by unfold fitE; infer_instance
theorem int_wf {n : Int} (h : (Lit.int .i64 n).wf = true) : n ≤ 9223372036854775807 := by
  have e : IntKind.i64.min = -9223372036854775808 := rfl
  have e2 : IntKind.i64.max = 9223372036854775807 := rfl
  simp [Lit.wf, e, e2] at h
  omega

theorem holderErases_law (a0 : ByteArray) (h0 : a0.size ≤ maxLen) (x : Int) (b : ByteArray) (hb9 : b.size ≤ maxLen) (y : Int) (d : ByteArray) (hd9 : d.size ≤ maxLen) (a3 : ByteArray) (h3 : a3.size ≤ maxLen) (a4 : ByteArray) (h4 : a4.size ≤ maxLen) (ep : Int)
    (F : Option Addr) (nf cf : Nat) (fs : List Int) (hnf : nf = fs.length) (hlf : fs.length ≤ maxLen) (hwf : ∀ n ∈ fs, (Lit.int .i64 n).wf = true) (w : World) (hR : Rounds w) (hF : Rd w F (ints fs)) :
    Calls Tryz.prog 4 #[.string a0, .agg #[.int .i64 x, .string b], .agg #[.int .i64 y, .string d], .string a3, .string a4, .int .i64 ep, .slice F nf cf] w fun e w' => e = .returned (.bool true) ∧ Below w.heap.size w w' := by
  have HR := Lib.hid hR
  have hbx := al2 w (.cells #[.int .i64 x, .string b] 23) (.cells #[.int .i64 y, .string d] 23)
  have Hb := Lib.hid hbx
  have Hx := Lib.hid (cells_below (heap_alloc_new w (.cells #[.int .i64 x, .string b] 23)) ((Below.refl _ _).alloc (Nat.le_refl _) (.cells #[.int .i64 y, .string d] 23)))
  have hy0 := heap_alloc_new (w.alloc (.cells #[.int .i64 x, .string b] 23)) (.cells #[.int .i64 y, .string d] 23)
  rw [World.size_alloc] at hy0
  have Hy := Lib.hid hy0
  have HFd := Lib.hid hF
  obtain ⟨c, hc⟩ : ∃ c, c = sumB a0 := ⟨_, rfl⟩
  have hc32 : c.size ≤ 32 := by rw [hc]; exact sumB_size a0
  obtain ⟨P1, hP1, hFr⟩ : ∃ P1, startH c = (P1, 0) ∧ Fresh P1 c := ⟨_, Prod.ext rfl (start_fresh hc32).1, (start_fresh hc32).2⟩
  have HS := Lib.hid (show ∀ W, Rounds W → Calls Tryz.prog 5 #[.string a0] W (PlR W (P1, 0)) from fun W h => by rw [← hP1, hc]; exact hstart_any _ W h)
  have HF := Lib.hid hFr
  have Hc := Lib.hid hc
  have Hnf := Lib.hid hnf
  have Hlf := Lib.hid hlf
  have Hwf := Lib.hid hwf
  clear hR hbx hP1 hFr hc hy0 hF hnf hlf hwf
  go_enter Tryz.func4, Tryz.ntmps4
  go_wp2_with fail
  refine (HS.out _ (HR.out.below Hb.out)).mono ?_
  rintro e w1 ⟨v1, rfl, ⟨A1, n1, c1, B1, m1, d1, rfl, hP1⟩, hb1⟩
  dsimp only at hP1 ⊢
  obtain ⟨k1, hP1', hb1'⟩ := disk_new hP1 c1 d1
  have hb1c := Below.chain hb1 hb1'
  replace Hx := hblk_below Hx hb1c
  replace Hy := hblk_below Hy hb1c
  replace Hb := Lib.hid (Hb.out.trans (hb1c.mono Hb.out.size))
  have Hk1 := Lib.hid k1
  have HP1 := Lib.hid hP1'
  obtain ⟨x0, x1, _, _⟩ := two_cells k1
  obtain ⟨s0, s1, _, _⟩ := two_cells Hx.out
  obtain ⟨t0, t1, _, _⟩ := two_cells Hy.out
  obtain ⟨w2, hw2⟩ : ∃ w2, w2 = w1.alloc (.cells #[.slice A1 n1 c1, .slice B1 m1 d1] 27) := ⟨_, rfl⟩
  have Hw2 := Lib.hid hw2
  rw [← hw2] at x0 x1 s0 s1 t0 t1 Hx Hy Hb Hk1 HP1
  clear hb1 hb1' hb1c hP1 hP1' k1 hw2
  go_upto_region 2 with fail
  rw [← Hw2.out]
  obtain ⟨g1, hg1⟩ : ∃ g, g = w1.heap.size := ⟨_, rfl⟩
  rw [← hg1] at x0 x1 Hk1 ⊢
  clear Hw2 hg1
  go_wp2_with fail
  have hba := (Below.refl w2.heap.size w2).alloc (Nat.le_refl _) (.cells #[.string a0, .string b, .string d, .string a3, .string a4] 9)
  refine (far21_any A1 B1 (some ⟨w2.heap.size, 0, none⟩) n1 c1 m1 d1 5 5 P1 [a0, b, d, a3, a4] _ (HP1.out.below hba) (fresh_check HF.out) (rd_new' w2 _ _ _ rfl) rfl (by omega)).mono ?_
  rintro e w3 ⟨rfl, hb3⟩
  replace hb3 := Below.chain hba hb3
  replace Hx := hblk_below Hx hb3
  replace Hy := hblk_below Hy hb3
  replace Hk1 := hblk_below Hk1 hb3
  replace HP1 := Lib.hid (HP1.out.below hb3)
  replace Hb := Lib.hid (Hb.out.trans (hb3.mono Hb.out.size))
  clear hba hb3 x0 x1 s0 s1 t0 t1
  obtain ⟨fa, hfa⟩ : ∃ fa, fa = [a0, b, d, a3, a4].any (fun s => decide (200 < s.size)) := ⟨_, rfl⟩
  have Hfa := Lib.hid hfa
  rw [← hfa]
  clear hfa
  cases fa with
  | true =>
    clear Hfa
    go_wp2_with fail
    refine (held_any _ (HR.out.below Hb.out)).mono ?_
    rintro e wz ⟨rfl, hbz⟩
    go_wp2_with fail
    go_ret
    exact ⟨rfl, Hb.out.trans (hbz.mono Hb.out.size)⟩
  | false =>
    have hsz : a0.size ≤ 200 ∧ b.size ≤ 200 ∧ d.size ≤ 200 ∧ a3.size ≤ 200 ∧ a4.size ≤ 200 := by
      have := Hfa.out
      simp only [List.any_cons, List.any_nil, Bool.or_false] at this
      have h := this.symm
      simp only [Bool.or_eq_false_iff, decide_eq_false_iff_not] at h
      omega
    have Hsz := Lib.hid hsz
    clear Hfa hsz
    by_cases hn0 : 200 < nf
    · have e1 : decide ((nf : Int) > 200) = true := by simp; omega
      clear hn0
      go_wp2_with fail
      refine (held_any _ (HR.out.below Hb.out)).mono ?_
      rintro e wz ⟨rfl, hbz⟩
      go_wp2_with fail
      go_ret
      exact ⟨rfl, Hb.out.trans (hbz.mono Hb.out.size)⟩
    · have e1 : decide ((nf : Int) > 200) = false := by simp; omega
      obtain ⟨x0, x1, _, _⟩ := two_cells Hk1.out
      obtain ⟨s0, s1, _, _⟩ := two_cells Hx.out
      obtain ⟨t0, t1, _, _⟩ := two_cells Hy.out
      have hc32' : c.size = 32 := by rw [Hc.out]; exact sumB_len (by have := Hsz.out.1; omega)
      by_cases hfit : fitX x b a3
      · obtain ⟨P2, hP2, hG⟩ : ∃ P2, prepH P1 1 x b a3 (-1) = (P2, 0) ∧ Ready P2 c x b a3 := ⟨_, Prod.ext rfl (fresh_prep HF.out hc32' hfit).1, (fresh_prep HF.out hc32' hfit).2⟩
        obtain ⟨P3, hP3, hH⟩ : ∃ P3, commitH P2 1 (-1) = (P3, 0) ∧ Held P3 (hold 1 0 x b a3 c) := ⟨_, Prod.ext rfl (ready_commit hG hc32' hfit).1, (ready_commit hG hc32' hfit).2⟩
        have HP2 := Lib.hid (show ∀ W v, PlV W v P1 → Calls Tryz.prog 9 #[v, .int .i64 1, .agg #[.int .i64 x, .string b], .string a3, .int .i64 (-1)] W (PlR W (P2, 0)) from fun W v h => by rw [← hP2]; exact hprep_any v P1 1 x b a3 (-1) W h hb9 h3)
        have HP3 := Lib.hid (show ∀ W v, PlV W v P2 → Calls Tryz.prog 10 #[v, .int .i64 1, .int .i64 (-1)] W (PlR W (P3, 0)) from fun W v h => by rw [← hP3]; exact hcommit_any v P2 1 (-1) W h)
        by_cases hfe : fitE ep y d a4
        · obtain ⟨P4, hP4, hG4⟩ : ∃ P4, prepH P3 ep y d a4 (-1) = (P4, 0) ∧ Ready2 P4 (hold 1 0 x b a3 c) ep y d a4 := ⟨_, Prod.ext rfl (held_prep hH hfit hc32' hfe).1, (held_prep hH hfit hc32' hfe).2⟩
          obtain ⟨mk, mk', hmk, hmk', hP5, hH5⟩ := ready2_commit hG4 hfit hc32' hfe
          obtain ⟨own, hown⟩ : ∃ own, own = nowB (hold ep 0 y d a4 c) := ⟨_, rfl⟩
          rw [← hown] at hP5 hH5
          have hos : own.size ≤ 128 := by rw [hown]; exact now_size (hold_good ⟨by have := hfe.1; omega, hfe.2.1⟩ ⟨by omega, by omega⟩ hfe.2.2 hc32')
          have hge := held_get hH5 ⟨by have := hfe.1; omega, hfe.2.1⟩ ⟨by omega, by omega⟩ hfe.2.2 hc32'
          have hcr := crash_six hH5 fs
          have HP4 := Lib.hid (show ∀ W v, PlV W v P3 → Calls Tryz.prog 9 #[v, .int .i64 ep, .agg #[.int .i64 y, .string d], .string a4, .int .i64 (-1)] W (PlR W (P4, 0)) from fun W v h => by rw [← hP4]; exact hprep_any v P3 ep y d a4 (-1) W h hd9 h4)
          have HP5 := Lib.hid (show ∀ W v, PlV W v P4 → Calls Tryz.prog 10 #[v, .int .i64 ep, .int .i64 (-1)] W (PlR W (sixS mk mk' own, 0)) from fun W v h => by rw [← hP5]; exact hcommit_any v P4 ep (-1) W h)
          have HP6 := Lib.hid (show ∀ W v, PlV W v (sixS mk mk' own) → Rd W F (ints fs) → Calls Tryz.prog 13 #[v, .slice F nf cf] W (PlR W (sixS mk mk' own, 0)) from fun W v h hr => by have e := crash_any v (sixS mk mk' own) F nf cf fs W h hr Hnf.out (by rw [Hnf.out]; exact Hlf.out) (fun n hn => int_wf (Hwf.out n hn)); rw [hcr] at e; exact e)
          have HP7 := Lib.hid (show ∀ W v, PlV W v (sixS mk mk' own) → Calls Tryz.prog 12 #[v] W (HeldPost W (hold ep 0 y d a4 c, 0)) from fun W v h => by have e := hget_any v (sixS mk mk' own) W h; rw [hge] at e; exact e)
          have HN := Lib.hid (show ∀ W, Calls Tryz.prog 14 #[.agg #[.int .i64 ep, .int .i64 0, .int .i64 y, .string d, .string a4, .string c, .int .i64 0, .int .i64 0, .string none0, .string none0]] W fun e w' => e = .returned (.string own) ∧ Below W.heap.size W w' from fun W => by
            rw [hown]
            exact now21_any ep 0 y d a4 c 0 0 none0 none0 W (by have := hfe.1; have := hfe.2.1; simp [wordB]; omega) (by have := hfe.2.2.1; omega) (by have := hfe.2.2.2.2.1; omega) (by have := hfe.2.2.2.2.2; omega) (by omega))
          have Hos := Lib.hid hos
          have Hmk := Lib.hid (mark_size hmk)
          have Hmk' := Lib.hid (mark_size hmk')
          have Hb32 := Lib.hid hfit.2.2.1
          clear hP2 hG hP3 hH hfit hfe hP4 hG4 hP5 hH5 hown hos hge hcr hmk hmk' HF
          go_wp2_with fail
          refine (HP2.out _ _ ⟨_, _, _, _, _, _, rfl, HP1.out⟩).mono ?_
          rintro e w4 ⟨v4, rfl, ⟨A4, n4, c4, B4, m4, d4, rfl, hP4⟩, hb4⟩
          dsimp only at hP4 ⊢
          obtain ⟨k4, hP4', hb4'⟩ := disk_new hP4 c4 d4
          have hb4c := Below.chain hb4 hb4'
          replace Hx := hblk_below Hx hb4c
          replace Hy := hblk_below Hy hb4c
          replace Hb := Lib.hid (Hb.out.trans (hb4c.mono Hb.out.size))
          have HP4v := Lib.hid hP4'
          have Hk4 := Lib.hid k4
          clear hb4 hb4' hb4c hP4 hP4' x0 x1 s0 s1 t0 t1 Hk1 HP1
          obtain ⟨x0, x1, _, _⟩ := two_cells k4
          obtain ⟨s0, s1, _, _⟩ := two_cells Hx.out
          obtain ⟨t0, t1, _, _⟩ := two_cells Hy.out
          clear k4
          go_wp2_with fail
          refine (HP3.out _ _ ⟨_, _, _, _, _, _, rfl, HP4v.out⟩).mono ?_
          rintro e w5 ⟨v5, rfl, ⟨A5, n5, c5, B5, m5, d5, rfl, hP5⟩, hb5⟩
          dsimp only at hP5 ⊢
          obtain ⟨k5, hP5', hb5'⟩ := disk_new hP5 c5 d5
          have hb5c := Below.chain hb5 hb5'
          replace Hx := hblk_below Hx hb5c
          replace Hy := hblk_below Hy hb5c
          replace Hb := Lib.hid (Hb.out.trans (hb5c.mono Hb.out.size))
          have HP5v := Lib.hid hP5'
          have Hk5 := Lib.hid k5
          clear hb5 hb5' hb5c hP5 hP5' x0 x1 s0 s1 t0 t1 Hk4 HP4v
          obtain ⟨x0, x1, _, _⟩ := two_cells k5
          obtain ⟨s0, s1, _, _⟩ := two_cells Hx.out
          obtain ⟨t0, t1, _, _⟩ := two_cells Hy.out
          clear k5
          go_wp2_with fail
          refine (HP4.out _ _ ⟨_, _, _, _, _, _, rfl, HP5v.out⟩).mono ?_
          rintro e w6 ⟨v6, rfl, ⟨A6, n6, c6, B6, m6, d6, rfl, hP6⟩, hb6⟩
          dsimp only at hP6 ⊢
          obtain ⟨k6, hP6', hb6'⟩ := disk_new hP6 c6 d6
          have hb6c := Below.chain hb6 hb6'
          replace Hx := hblk_below Hx hb6c
          replace Hy := hblk_below Hy hb6c
          replace Hb := Lib.hid (Hb.out.trans (hb6c.mono Hb.out.size))
          have HP6v := Lib.hid hP6'
          have Hk6 := Lib.hid k6
          clear hb6 hb6' hb6c hP6 hP6' x0 x1 s0 s1 t0 t1 Hk5 HP5v
          obtain ⟨x0, x1, _, _⟩ := two_cells k6
          obtain ⟨s0, s1, _, _⟩ := two_cells Hx.out
          obtain ⟨t0, t1, _, _⟩ := two_cells Hy.out
          clear k6
          go_wp2_with fail
          refine (HP5.out _ _ ⟨_, _, _, _, _, _, rfl, HP6v.out⟩).mono ?_
          rintro e w7 ⟨v7, rfl, ⟨A7, n7, c7, B7, m7, d7, rfl, hP7⟩, hb7⟩
          dsimp only at hP7 ⊢
          obtain ⟨k7, hP7', hb7'⟩ := disk_new hP7 c7 d7
          have hb7c := Below.chain hb7 hb7'
          replace Hx := hblk_below Hx hb7c
          replace Hy := hblk_below Hy hb7c
          replace Hb := Lib.hid (Hb.out.trans (hb7c.mono Hb.out.size))
          have HP7v := Lib.hid hP7'
          have Hk7 := Lib.hid k7
          clear hb7 hb7' hb7c hP7 hP7' x0 x1 s0 s1 t0 t1 Hk6 HP6v
          obtain ⟨x0, x1, _, _⟩ := two_cells k7
          obtain ⟨s0, s1, _, _⟩ := two_cells Hx.out
          obtain ⟨t0, t1, _, _⟩ := two_cells Hy.out
          clear k7
          go_wp2_with fail
          refine (HP6.out _ _ ⟨_, _, _, _, _, _, rfl, HP7v.out⟩ (HFd.out.below Hb.out)).mono ?_
          rintro e w8 ⟨v8, rfl, ⟨A8, n8, c8, B8, m8, d8, rfl, hP8⟩, hb8⟩
          dsimp only at hP8 ⊢
          obtain ⟨k8, hP8', hb8'⟩ := disk_new hP8 c8 d8
          have hb8c := Below.chain hb8 hb8'
          replace Hx := hblk_below Hx hb8c
          replace Hy := hblk_below Hy hb8c
          replace Hb := Lib.hid (Hb.out.trans (hb8c.mono Hb.out.size))
          have HP8 := Lib.hid hP8'
          have Hk8 := Lib.hid k8
          clear hb8 hb8' hb8c hP8 hP8' x0 x1 s0 s1 t0 t1 Hk7 HP7v
          obtain ⟨x0, x1, _, _⟩ := two_cells k8
          clear k8
          go_wp2_with fail
          refine (HP7.out _ _ ⟨_, _, _, _, _, _, rfl, HP8.out⟩).mono ?_
          rintro e w9 ⟨rfl, hb9c⟩
          have hk9 := heap_alloc_new w9 (.cells #[.int .i64 ep, .int .i64 0, .int .i64 y, .string d, .string a4, .string c, .int .i64 0, .int .i64 0, .string none0, .string none0] 39)
          have hb9 := Below.chain hb9c ((Below.refl w9.heap.size w9).alloc (Nat.le_refl _) (.cells #[.int .i64 ep, .int .i64 0, .int .i64 y, .string d, .string a4, .string c, .int .i64 0, .int .i64 0, .string none0, .string none0] 39))
          replace Hx := hblk_below Hx hb9
          replace Hy := hblk_below Hy hb9
          replace Hk8 := hblk_below Hk8 hb9
          replace HP8 := Lib.hid (HP8.out.below hb9)
          replace Hb := Lib.hid (Hb.out.trans (hb9.mono Hb.out.size))
          have Hk9 := Lib.hid hk9
          clear hb9 hb9c x0 x1
          obtain ⟨s0, s1, _, _⟩ := two_cells Hx.out
          obtain ⟨t0, t1, _, _⟩ := two_cells Hy.out
          obtain ⟨⟨z0, z1, z2, z3, z4, z5, z6, z7, z8, z9⟩, _⟩ := ten_cells hk9
          clear hk9
          dsimp only [hdV, hold]
          obtain ⟨w10, hw10⟩ : ∃ w10, w10 = w9.alloc (.cells #[.int .i64 ep, .int .i64 0, .int .i64 y, .string d, .string a4, .string c, .int .i64 0, .int .i64 0, .string none0, .string none0] 39) := ⟨_, rfl⟩
          have Hw10 := Lib.hid hw10
          rw [← hw10] at Hx Hy Hk8 HP8 Hb Hk9 s0 s1 t0 t1 z0 z1 z2 z3 z4 z5 z6 z7 z8 z9
          clear hw10
          go_upto_region 12 with fail
          rw [← Hw10.out]
          obtain ⟨g8, hg8⟩ : ∃ g, g = w8.heap.size := ⟨_, rfl⟩
          rw [← hg8] at Hk8 ⊢
          clear Hw10 hg8
          go_wp2_with fail
          refine (HN.out _).mono ?_
          rintro e w11 ⟨rfl, hb11⟩
          replace Hx := hblk_below Hx hb11
          replace Hk8 := hblk_below Hk8 hb11
          replace HP8 := Lib.hid (HP8.out.below hb11)
          replace Hb := Lib.hid (Hb.out.trans (hb11.mono Hb.out.size))
          clear hb11 z0 z1 z2 z3 z4 z5 z6 z7 z8 z9 s0 s1 t0 t1 Hk9 Hy
          have Hn8 := Lib.hid (show n8 = 6 from HP8.out.hn)
          have Hm8 := Lib.hid (show m8 = 0 from HP8.out.hm)
          obtain rfl := Hn8.out
          obtain rfl := Hm8.out
          clear Hn8 Hm8
          have Hsec := Lib.hid (show ∀ s ∈ [mk, own, own, mk', none0, none0], partB own b = false → partB s b = false from by
            intro s hs h
            simp only [List.mem_cons, List.not_mem_nil, or_false] at hs
            have h32 := Hb32.out
            rcases hs with rfl | rfl | rfl | rfl | rfl | rfl
            · exact part_short (by rw [Hmk.out]; omega)
            · exact h
            · exact h
            · exact part_short (by rw [Hmk'.out]; omega)
            · exact part_short (by show 0 < b.size; omega)
            · exact part_short (by show 0 < b.size; omega))
          have Hsecs := Lib.hid (show ∀ s ∈ [mk, own, own, mk', none0, none0], s.size ≤ 128 from by
            intro s hs
            simp only [List.mem_cons, List.not_mem_nil, or_false] at hs
            have h1 := Hmk.out
            have h2 := Hmk'.out
            rcases hs with rfl | rfl | rfl | rfl | rfl | rfl
            · omega
            · exact Hos.out
            · exact Hos.out
            · omega
            · decide
            · decide)
          clear Hmk Hmk' HP2 HP3 HP4 HP5 HP6 HP7 HN Hwf Hnf Hlf HFd Hc e1
          obtain ⟨x0, x1, _, _⟩ := two_cells Hk8.out
          go_wp2_with fail
          go_loopw [30] (fun v wr => ∃ k : Nat, k ≤ 6 ∧ v = .int .i64 (k : Nat) ∧ Below w11.heap.size w11 wr) (fun v _ => 6 - (intOf v).toNat)
          case atStart => exact ⟨0, by omega, rfl, Below.refl _ _⟩
          case round =>
            obtain ⟨k, hk, rfl, hbr⟩ := hrel
            have HBr := Lib.hid hbr
            have Hx2 := hblk_below Hx hbr
            have Hk2 := hblk_below Hk8 hbr
            have HP2 := Lib.hid (HP8.out.below hbr)
            clear hbr x0 x1
            obtain ⟨x0, x1, _, _⟩ := two_cells Hk2.out
            obtain ⟨s0, s1, _, _⟩ := two_cells Hx2.out
            by_cases hlt : k < 6
            · have e1 : decide ((k : Int) < (6 : Int)) = true := by simp; omega
              have hil : k < (sixS mk mk' own).ss.length := hlt
              obtain ⟨bb, off, hA, q0⟩ := texts_at HP2.out.rs hil
              subst hA
              have Hmem : Hid ((sixS mk mk' own).ss[k] ∈ [mk, own, own, mk', none0, none0]) := Lib.hid (List.getElem_mem hil)
              generalize (sixS mk mk' own).ss[k] = sk at q0 Hmem
              have Hs1 := Lib.hid (Hsec.out sk Hmem.out)
              have Hs2 := Lib.hid (Hsecs.out sk Hmem.out)
              clear hil Hmem
              have cy0 : ∀ y : Later wr, y.x.cell? ⟨g8, 0, none⟩ = some (.slice (some ⟨bb, off, none⟩) 6 c8) := fun y => y.cell x0
              have cy1 : ∀ y : Later wr, y.x.cell? ⟨w.heap.size, 1, none⟩ = some (.string b) := fun y => y.cell s1
              have cy2 : ∀ y : Later wr, y.x.cell? ⟨bb, off + k, none⟩ = some (.string sk) := fun y => y.cell q0
              have e2 : (k : Int) < (6 : Int) := by omega
              obtain ⟨r1, hr1⟩ : ∃ r, r = partB own b := ⟨_, rfl⟩
              have K1 : Hid (∀ y : Later wr, Calls Tryz.prog 15 #[.string own, .string b] y.x fun e w' => e = .returned (.bool r1) ∧ ∃ z : Later wr, w' = z.x) := Lib.hid fun y => later_call ((has_any own b y.x (by have := Hos.out; omega) (by have := Hb32.out; omega)).mono fun e w' h => ⟨by rw [hr1]; exact h.1, h.2 ▸ Below.refl _ _⟩)
              cases r1 with
              | true =>
                clear hr1
                go_wp2_with fail
                refine wp_region_later (by kernel_rfl) (by kernel_rfl) ?_
                repeat (go_big_quiet_step (first | with_reducible exact K1.out _))
                refine wpQuiet_nil ?_
                rintro _ ⟨y, rfl⟩
                go_wp2_with fail
                go_roundw
                case rel => exact ⟨k + 1, by omega, by go_num, Below.chain HBr.out y.ok⟩
                case measure => simp [intOf]; omega
              | false =>
                have hr2 := Hs1.out hr1.symm
                have K2 : Hid (∀ y : Later wr, Calls Tryz.prog 15 #[.string sk, .string b] y.x fun e w' => e = .returned (.bool false) ∧ ∃ z : Later wr, w' = z.x) := Lib.hid fun y => later_call ((has_any sk b y.x (by have := Hs2.out; omega) (by have := Hb32.out; omega)).mono fun e w' h => ⟨by rw [← hr2]; exact h.1, h.2 ▸ Below.refl _ _⟩)
                clear hr1 hr2
                go_wp2_with fail
                refine wp_region_later (by kernel_rfl) (by kernel_rfl) ?_
                repeat (go_big_quiet_step (first | with_reducible exact K1.out _ | with_reducible exact K2.out _))
                refine wpQuiet_nil ?_
                rintro _ ⟨y, rfl⟩
                go_wp2_with fail
                go_roundw
                case rel => exact ⟨k + 1, by omega, by go_num, Below.chain HBr.out y.ok⟩
                case measure => simp [intOf]; omega
            · obtain rfl : k = 6 := by omega
              have e1 : decide (((6 : Nat) : Int) < (6 : Int)) = false := by simp
              replace Hb := Lib.hid (Hb.out.trans (HBr.out.mono Hb.out.size))
              go_wp2_with fail
              refine (held_any _ (HR.out.below Hb.out)).mono ?_
              rintro e wz ⟨rfl, hbz⟩
              replace Hk2 := hblk_below Hk2 hbz
              clear x0 x1
              obtain ⟨x0, x1, _, _⟩ := two_cells Hk2.out
              go_wp2_with fail
              go_ret
              exact ⟨rfl, Hb.out.trans (hbz.mono Hb.out.size)⟩
        · obtain ⟨e4, hP4, he4⟩ := held_prep_not hH hfit hc32' hfe
          obtain ⟨⟨Px, ex⟩, hPx⟩ : ∃ r, commitH noPlat ep (-1) = r := ⟨_, rfl⟩
          have HP4 := Lib.hid (show ∀ W v, PlV W v P3 → Calls Tryz.prog 9 #[v, .int .i64 ep, .agg #[.int .i64 y, .string d], .string a4, .int .i64 (-1)] W (PlR W (noPlat, e4)) from fun W v h => by rw [← hP4]; exact hprep_any v P3 ep y d a4 (-1) W h hd9 h4)
          have HP5 := Lib.hid (show ∀ W v, PlV W v noPlat → Calls Tryz.prog 10 #[v, .int .i64 ep, .int .i64 (-1)] W (PlR W (Px, ex)) from fun W v h => by rw [← hPx]; exact hcommit_any v noPlat ep (-1) W h)
          have e2 : (e4 != 0) = true := by simpa using he4
          clear hP2 hG hP3 hH hfit hfe hP4 he4 hPx HF
          go_wp2_with fail
          refine (HP2.out _ _ ⟨_, _, _, _, _, _, rfl, HP1.out⟩).mono ?_
          rintro e w4 ⟨v4, rfl, ⟨A4, n4, c4, B4, m4, d4, rfl, hP4⟩, hb4⟩
          dsimp only at hP4 ⊢
          obtain ⟨k4, hP4', hb4'⟩ := disk_new hP4 c4 d4
          have hb4c := Below.chain hb4 hb4'
          replace Hx := hblk_below Hx hb4c
          replace Hy := hblk_below Hy hb4c
          replace Hb := Lib.hid (Hb.out.trans (hb4c.mono Hb.out.size))
          have HP4v := Lib.hid hP4'
          have Hk4 := Lib.hid k4
          clear hb4 hb4' hb4c hP4 hP4' x0 x1 s0 s1 t0 t1 Hk1 HP1
          obtain ⟨x0, x1, _, _⟩ := two_cells k4
          obtain ⟨s0, s1, _, _⟩ := two_cells Hx.out
          obtain ⟨t0, t1, _, _⟩ := two_cells Hy.out
          clear k4
          go_wp2_with fail
          refine (HP3.out _ _ ⟨_, _, _, _, _, _, rfl, HP4v.out⟩).mono ?_
          rintro e w5 ⟨v5, rfl, ⟨A5, n5, c5, B5, m5, d5, rfl, hP5⟩, hb5⟩
          dsimp only at hP5 ⊢
          obtain ⟨k5, hP5', hb5'⟩ := disk_new hP5 c5 d5
          have hb5c := Below.chain hb5 hb5'
          replace Hx := hblk_below Hx hb5c
          replace Hy := hblk_below Hy hb5c
          replace Hb := Lib.hid (Hb.out.trans (hb5c.mono Hb.out.size))
          have HP5v := Lib.hid hP5'
          have Hk5 := Lib.hid k5
          clear hb5 hb5' hb5c hP5 hP5' x0 x1 s0 s1 t0 t1 Hk4 HP4v
          obtain ⟨x0, x1, _, _⟩ := two_cells k5
          obtain ⟨s0, s1, _, _⟩ := two_cells Hx.out
          obtain ⟨t0, t1, _, _⟩ := two_cells Hy.out
          clear k5
          go_wp2_with fail
          refine (HP4.out _ _ ⟨_, _, _, _, _, _, rfl, HP5v.out⟩).mono ?_
          rintro e w6 ⟨v6, rfl, ⟨A6, n6, c6, B6, m6, d6, rfl, hP6⟩, hb6⟩
          dsimp only at hP6 ⊢
          obtain ⟨k6, hP6', hb6'⟩ := disk_new hP6 c6 d6
          have hb6c := Below.chain hb6 hb6'
          replace Hx := hblk_below Hx hb6c
          replace Hy := hblk_below Hy hb6c
          replace Hb := Lib.hid (Hb.out.trans (hb6c.mono Hb.out.size))
          have HP6v := Lib.hid hP6'
          have Hk6 := Lib.hid k6
          clear hb6 hb6' hb6c hP6 hP6' x0 x1 s0 s1 t0 t1 Hk5 HP5v
          obtain ⟨x0, x1, _, _⟩ := two_cells k6
          obtain ⟨s0, s1, _, _⟩ := two_cells Hx.out
          obtain ⟨t0, t1, _, _⟩ := two_cells Hy.out
          clear k6
          go_wp2_with fail
          refine (HP5.out _ _ ⟨_, _, _, _, _, _, rfl, HP6v.out⟩).mono ?_
          rintro e w7 ⟨v7, rfl, ⟨A7, n7, c7, B7, m7, d7, rfl, hP7⟩, hb7⟩
          dsimp only at hP7 ⊢
          obtain ⟨k7, hP7', hb7'⟩ := disk_new hP7 c7 d7
          have hb7c := Below.chain hb7 hb7'
          replace Hx := hblk_below Hx hb7c
          replace Hy := hblk_below Hy hb7c
          replace Hb := Lib.hid (Hb.out.trans (hb7c.mono Hb.out.size))
          have HP7v := Lib.hid hP7'
          have Hk7 := Lib.hid k7
          clear hb7 hb7' hb7c hP7 hP7' x0 x1 s0 s1 t0 t1 Hk6 HP6v
          obtain ⟨x0, x1, _, _⟩ := two_cells k7
          obtain ⟨s0, s1, _, _⟩ := two_cells Hx.out
          obtain ⟨t0, t1, _, _⟩ := two_cells Hy.out
          clear k7
          clear x0 x1 s0 s1 t0 t1
          go_wp2_with fail
          refine (held_any _ (HR.out.below Hb.out)).mono ?_
          rintro e wz ⟨rfl, hbz⟩
          go_wp2_with fail
          go_ret
          exact ⟨rfl, Hb.out.trans (hbz.mono Hb.out.size)⟩
      · have hPn := fresh_prep_not HF.out hc32' hfit
        obtain ⟨⟨Px, ex⟩, hPx⟩ : ∃ r, commitH noPlat 1 (-1) = r := ⟨_, rfl⟩
        obtain ⟨⟨Py, ey⟩, hPy⟩ : ∃ r, prepH Px ep y d a4 (-1) = r := ⟨_, rfl⟩
        obtain ⟨⟨Pz, ez⟩, hPz⟩ : ∃ r, commitH Py ep (-1) = r := ⟨_, rfl⟩
        have HP2 := Lib.hid (show ∀ W v, PlV W v P1 → Calls Tryz.prog 9 #[v, .int .i64 1, .agg #[.int .i64 x, .string b], .string a3, .int .i64 (-1)] W (PlR W (noPlat, 1)) from fun W v h => by rw [← hPn]; exact hprep_any v P1 1 x b a3 (-1) W h hb9 h3)
        have HP3 := Lib.hid (show ∀ W v, PlV W v noPlat → Calls Tryz.prog 10 #[v, .int .i64 1, .int .i64 (-1)] W (PlR W (Px, ex)) from fun W v h => by rw [← hPx]; exact hcommit_any v noPlat 1 (-1) W h)
        have HP4 := Lib.hid (show ∀ W v, PlV W v Px → Calls Tryz.prog 9 #[v, .int .i64 ep, .agg #[.int .i64 y, .string d], .string a4, .int .i64 (-1)] W (PlR W (Py, ey)) from fun W v h => by rw [← hPy]; exact hprep_any v Px ep y d a4 (-1) W h hd9 h4)
        have HP5 := Lib.hid (show ∀ W v, PlV W v Py → Calls Tryz.prog 10 #[v, .int .i64 ep, .int .i64 (-1)] W (PlR W (Pz, ez)) from fun W v h => by rw [← hPz]; exact hcommit_any v Py ep (-1) W h)
        clear hPn hPx hPy hPz hfit HF
        go_wp2_with fail
        refine (HP2.out _ _ ⟨_, _, _, _, _, _, rfl, HP1.out⟩).mono ?_
        rintro e w4 ⟨v4, rfl, ⟨A4, n4, c4, B4, m4, d4, rfl, hP4⟩, hb4⟩
        dsimp only at hP4 ⊢
        obtain ⟨k4, hP4', hb4'⟩ := disk_new hP4 c4 d4
        have hb4c := Below.chain hb4 hb4'
        replace Hx := hblk_below Hx hb4c
        replace Hy := hblk_below Hy hb4c
        replace Hb := Lib.hid (Hb.out.trans (hb4c.mono Hb.out.size))
        have HP4v := Lib.hid hP4'
        have Hk4 := Lib.hid k4
        clear hb4 hb4' hb4c hP4 hP4' x0 x1 s0 s1 t0 t1 Hk1 HP1
        obtain ⟨x0, x1, _, _⟩ := two_cells k4
        obtain ⟨s0, s1, _, _⟩ := two_cells Hx.out
        obtain ⟨t0, t1, _, _⟩ := two_cells Hy.out
        clear k4
        go_wp2_with fail
        refine (HP3.out _ _ ⟨_, _, _, _, _, _, rfl, HP4v.out⟩).mono ?_
        rintro e w5 ⟨v5, rfl, ⟨A5, n5, c5, B5, m5, d5, rfl, hP5⟩, hb5⟩
        dsimp only at hP5 ⊢
        obtain ⟨k5, hP5', hb5'⟩ := disk_new hP5 c5 d5
        have hb5c := Below.chain hb5 hb5'
        replace Hx := hblk_below Hx hb5c
        replace Hy := hblk_below Hy hb5c
        replace Hb := Lib.hid (Hb.out.trans (hb5c.mono Hb.out.size))
        have HP5v := Lib.hid hP5'
        have Hk5 := Lib.hid k5
        clear hb5 hb5' hb5c hP5 hP5' x0 x1 s0 s1 t0 t1 Hk4 HP4v
        obtain ⟨x0, x1, _, _⟩ := two_cells k5
        obtain ⟨s0, s1, _, _⟩ := two_cells Hx.out
        obtain ⟨t0, t1, _, _⟩ := two_cells Hy.out
        clear k5
        go_wp2_with fail
        refine (HP4.out _ _ ⟨_, _, _, _, _, _, rfl, HP5v.out⟩).mono ?_
        rintro e w6 ⟨v6, rfl, ⟨A6, n6, c6, B6, m6, d6, rfl, hP6⟩, hb6⟩
        dsimp only at hP6 ⊢
        obtain ⟨k6, hP6', hb6'⟩ := disk_new hP6 c6 d6
        have hb6c := Below.chain hb6 hb6'
        replace Hx := hblk_below Hx hb6c
        replace Hy := hblk_below Hy hb6c
        replace Hb := Lib.hid (Hb.out.trans (hb6c.mono Hb.out.size))
        have HP6v := Lib.hid hP6'
        have Hk6 := Lib.hid k6
        clear hb6 hb6' hb6c hP6 hP6' x0 x1 s0 s1 t0 t1 Hk5 HP5v
        obtain ⟨x0, x1, _, _⟩ := two_cells k6
        obtain ⟨s0, s1, _, _⟩ := two_cells Hx.out
        obtain ⟨t0, t1, _, _⟩ := two_cells Hy.out
        clear k6
        go_wp2_with fail
        refine (HP5.out _ _ ⟨_, _, _, _, _, _, rfl, HP6v.out⟩).mono ?_
        rintro e w7 ⟨v7, rfl, ⟨A7, n7, c7, B7, m7, d7, rfl, hP7⟩, hb7⟩
        dsimp only at hP7 ⊢
        obtain ⟨k7, hP7', hb7'⟩ := disk_new hP7 c7 d7
        have hb7c := Below.chain hb7 hb7'
        replace Hx := hblk_below Hx hb7c
        replace Hy := hblk_below Hy hb7c
        replace Hb := Lib.hid (Hb.out.trans (hb7c.mono Hb.out.size))
        have HP7v := Lib.hid hP7'
        have Hk7 := Lib.hid k7
        clear hb7 hb7' hb7c hP7 hP7' x0 x1 s0 s1 t0 t1 Hk6 HP6v
        obtain ⟨x0, x1, _, _⟩ := two_cells k7
        obtain ⟨s0, s1, _, _⟩ := two_cells Hx.out
        obtain ⟨t0, t1, _, _⟩ := two_cells Hy.out
        clear k7
        clear x0 x1 s0 s1 t0 t1
        go_wp2_with fail
        refine (held_any _ (HR.out.below Hb.out)).mono ?_
        rintro e wz ⟨rfl, hbz⟩
        go_wp2_with fail
        go_ret
        exact ⟨rfl, Hb.out.trans (hbz.mono Hb.out.size)⟩
end Go.Proofs.YtniglledpjheaaaGreatDoor
