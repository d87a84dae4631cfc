/-
  The walk of the law HolderRight. (Printed by gen_right.py.)
-/
import Derived.Test.YtniglledpjheaaaGreatDoorHeld
import Derived.Test.YtniglledpjheaaaGreatDoorRb
namespace Go.Proofs.YtniglledpjheaaaGreatDoor
open Go.RowKit
set_option linter.unusedVariables false
set_option maxRecDepth 100000
set_option maxHeartbeats 2000000
set_option linter.unusedSimpArgs false

theorem fresh_check {P : Plat} {c : ByteArray} (h : Fresh P c) : checkB P = true := by
  obtain ⟨A, B, rfl, hA, hB, _⟩ := h.ex
  exact pl_check hA hB
theorem sum_sumB {s : ByteArray} (h : s.size ≤ 1000000000) : bs (sumL s.data.toList) = sumB s := by unfold sumB; rw [if_pos h]
theorem plat_none : PlV.no = PlV.no := rfl
instance fit_dec (x : Int) (b salt : ByteArray) : Decidable (fitX x b salt) := by unfold fitX; infer_instance

theorem holderRight_law (a0 : ByteArray) (h0 : a0.size ≤ maxLen) (a1 : ByteArray) (h1 : a1.size ≤ maxLen) (a2 : ByteArray) (h2 : a2.size ≤ maxLen) (x : Int) (b : ByteArray) (hb9 : b.size ≤ maxLen) (n : Int) (w : World) (hR : Rounds w) :
    Calls Tryz.prog 3 #[.string a0, .string a1, .string a2, .agg #[.int .i64 x, .string b], .int .i64 n] w fun e w' => e = .returned (.bool true) ∧ Below w.heap.size w w' := by
  have HR := Lib.hid hR
  have hbx := (Below.refl w.heap.size w).alloc (Nat.le_refl _) (.cells #[.int .i64 x, .string b] 23)
  have Hb := Lib.hid hbx
  have Hx := Lib.hid (heap_alloc_new w (.cells #[.int .i64 x, .string b] 23))
  obtain ⟨c, hc⟩ : ∃ c, c = sumB a0 := ⟨_, rfl⟩
  have hc32 : c.size ≤ 32 := by rw [hc]; exact sumB_size a0
  obtain ⟨P1, hP1, hF⟩ : ∃ P1, startH c = (P1, 0) ∧ Fresh P1 c := ⟨_, Prod.ext rfl (start_fresh hc32).1, (start_fresh hc32).2⟩
  have HS := Lib.hid (show ∀ W, Rounds W → Calls Tryz.prog 5 #[.string a0] W (PlR W (P1, 0)) from fun W h => by rw [← hP1, hc]; exact hstart_any _ W h)
  have HF := Lib.hid hF
  have Hc := Lib.hid hc
  clear hR hbx hP1 hF hc
  go_enter Tryz.func3, Tryz.ntmps3
  go_wp2_with fail
  refine (HS.out _ (HR.out.below Hb.out)).mono ?_
  rintro e w1 ⟨v1, rfl, ⟨A1, n1, c1, B1, m1, d1, rfl, hP1⟩, hb1⟩
  dsimp only at hP1 ⊢
  obtain ⟨k1, hP1', hb1'⟩ := disk_new hP1 c1 d1
  have hb1c := Below.chain hb1 hb1'
  replace Hx := hblk_below Hx hb1c
  replace Hb := Lib.hid (Hb.out.trans (hb1c.mono Hb.out.size))
  have Hk1 := Lib.hid k1
  have HP1 := Lib.hid hP1'
  obtain ⟨x0, x1, _, _⟩ := two_cells k1
  obtain ⟨s0, s1, _, _⟩ := two_cells Hx.out
  obtain ⟨w2, hw2⟩ : ∃ w2, w2 = w1.alloc (.cells #[.slice A1 n1 c1, .slice B1 m1 d1] 27) := ⟨_, rfl⟩
  have Hw2 := Lib.hid hw2
  rw [← hw2] at x0 x1 s0 s1 Hx Hb Hk1 HP1
  clear hb1 hb1' hb1c hP1 hP1' k1 hw2
  go_upto_region 2 with fail
  rw [← Hw2.out]
  obtain ⟨g1, hg1⟩ : ∃ g, g = w1.heap.size := ⟨_, rfl⟩
  rw [← hg1] at x0 x1 Hk1 ⊢
  clear Hw2 hg1
  go_wp2_with fail
  have hba := (Below.refl w2.heap.size w2).alloc (Nat.le_refl _) (.cells #[.string a0, .string a1, .string a2, .string b] 9)
  refine (far21_any A1 B1 (some ⟨w2.heap.size, 0, none⟩) n1 c1 m1 d1 4 4 P1 [a0, a1, a2, b] _ (HP1.out.below hba) (fresh_check HF.out) (rd_new' w2 _ _ _ rfl) rfl (by omega)).mono ?_
  rintro e w3 ⟨rfl, hb3⟩
  replace hb3 := Below.chain hba hb3
  replace Hx := hblk_below Hx hb3
  replace Hk1 := hblk_below Hk1 hb3
  replace HP1 := Lib.hid (HP1.out.below hb3)
  replace Hb := Lib.hid (Hb.out.trans (hb3.mono Hb.out.size))
  clear hba hb3 x0 x1 s0 s1
  obtain ⟨fa, hfa⟩ : ∃ fa, fa = [a0, a1, a2, b].any (fun s => decide (200 < s.size)) := ⟨_, rfl⟩
  have Hfa := Lib.hid hfa
  rw [← hfa]
  clear hfa
  cases fa with
  | true =>
    clear Hfa
    go_wp2_with fail
    refine (held_any _ (HR.out.below Hb.out)).mono ?_
    rintro e wz ⟨rfl, hbz⟩
    go_wp2_with fail
    go_ret
    exact ⟨rfl, Hb.out.trans (hbz.mono Hb.out.size)⟩
  | false =>
    have hsz : a0.size ≤ 200 ∧ a1.size ≤ 200 ∧ a2.size ≤ 200 ∧ b.size ≤ 200 := by
      have := Hfa.out
      simp only [List.any_cons, List.any_nil, Bool.or_false] at this
      have h := this.symm
      simp only [Bool.or_eq_false_iff, decide_eq_false_iff_not] at h
      omega
    have Hsz := Lib.hid hsz
    clear Hfa
    by_cases hn0 : n < 0
    · have e1 : decide (n < 0) = true := by simpa using hn0
      clear hn0 hsz
      go_wp2_with fail
      refine (held_any _ (HR.out.below Hb.out)).mono ?_
      rintro e wz ⟨rfl, hbz⟩
      go_wp2_with fail
      go_ret
      exact ⟨rfl, Hb.out.trans (hbz.mono Hb.out.size)⟩
    · have e1 : decide (n < 0) = false := by simpa using hn0
      by_cases hn4 : 4 < n
      · have e2 : decide (n > 4) = true := by simpa using hn4
        clear hn4 hsz
        go_wp2_with fail
        refine (held_any _ (HR.out.below Hb.out)).mono ?_
        rintro e wz ⟨rfl, hbz⟩
        go_wp2_with fail
        go_ret
        exact ⟨rfl, Hb.out.trans (hbz.mono Hb.out.size)⟩
      · have e2 : decide (n > 4) = false := by simpa using hn4
        have hcE : bs (sumL a0.data.toList) = c := by rw [Hc.out]; exact sum_sumB (by omega)
        obtain ⟨cw, hcw⟩ : ∃ cw, cw = sumB a1 := ⟨_, rfl⟩
        have hcwE : bs (sumL a1.data.toList) = cw := by rw [hcw]; exact sum_sumB (by omega)
        have HS0 := Lib.hid (show ∀ W, Calls Tryz.prog 7 #[.string a0] W fun e w' => e = .returned (.string c) ∧ Below W.heap.size W w' from fun W => by rw [← hcE]; exact sum2 a0 W (by omega))
        have HS1 := Lib.hid (show ∀ W, Calls Tryz.prog 7 #[.string a1] W fun e w' => e = .returned (.string cw) ∧ Below W.heap.size W w' from fun W => by rw [← hcwE]; exact sum2 a1 W (by omega))
        have Hcw := Lib.hid hcw
        clear hcE hcwE hcw hsz
        go_wp2_with fail
        refine (HS0.out _).mono ?_
        rintro e w4 ⟨rfl, hb4⟩
        go_wp2_with fail
        refine (HS1.out _).mono ?_
        rintro e w5 ⟨rfl, hb5⟩
        have hb45 := Below.chain hb4 hb5
        replace Hx := hblk_below Hx hb45
        replace Hk1 := hblk_below Hk1 hb45
        replace HP1 := Lib.hid (HP1.out.below hb45)
        replace Hb := Lib.hid (Hb.out.trans (hb45.mono Hb.out.size))
        clear hb4 hb5 hb45 HS0 HS1
        by_cases hcc : c = cw
        · have e3 : (c.toList == cw.toList) = true := by rw [text_dec]; simpa using hcc
          clear hcc
          go_wp2_with fail
          refine (held_any _ (HR.out.below Hb.out)).mono ?_
          rintro e wz ⟨rfl, hbz⟩
          go_wp2_with fail
          go_ret
          exact ⟨rfl, Hb.out.trans (hbz.mono Hb.out.size)⟩
        · have e3 : (c.toList == cw.toList) = false := by rw [text_dec]; simpa using hcc
          obtain ⟨x0, x1, _, _⟩ := two_cells Hk1.out
          obtain ⟨s0, s1, _, _⟩ := two_cells Hx.out
          go_upto_region 4 with fail
          clear e3
          have hc32' : c.size = 32 := by rw [Hc.out]; exact sumB_len (by have := Hsz.out.1; omega)
          by_cases hfit : fitX x b a2
          · have Hcc := Lib.hid hcc
            obtain ⟨P2, hP2, hG⟩ : ∃ P2, prepH P1 1 x b a2 (-1) = (P2, 0) ∧ Ready P2 c x b a2 := ⟨_, Prod.ext rfl (fresh_prep HF.out hc32' hfit).1, (fresh_prep HF.out hc32' hfit).2⟩
            obtain ⟨P3, hP3, hH⟩ : ∃ P3, commitH P2 1 (-1) = (P3, 0) ∧ Held P3 (hold 1 0 x b a2 c) := ⟨_, Prod.ext rfl (ready_commit hG hc32' hfit).1, (ready_commit hG hc32' hfit).2⟩
            have HP2 := Lib.hid (show ∀ W v, PlV W v P1 → Calls Tryz.prog 9 #[v, .int .i64 1, .agg #[.int .i64 x, .string b], .string a2, .int .i64 (-1)] W (PlR W (P2, 0)) from fun W v h => by rw [← hP2]; exact hprep_any v P1 1 x b a2 (-1) W h hb9 h2)
            have HP3 := Lib.hid (show ∀ W v, PlV W v P2 → Calls Tryz.prog 10 #[v, .int .i64 1, .int .i64 (-1)] W (PlR W (P3, 0)) from fun W v h => by rw [← hP3]; exact hcommit_any v P2 1 (-1) W h)
            have HA3 := Lib.hid (show ∀ P k, 0 ≤ k → k < 5 → Held P (hold 1 k x b a2 c) → ∃ Q, Held Q (hold 1 (k + 1) x b a2 c) ∧ ∀ W v, PlV W v P → Rounds W → Calls Tryz.prog 11 #[v, .string a1, .int .i64 (-1)] W (AskR W ⟨0, none0, none0, Q, 211⟩) from fun P k h0 h5 hh => by
              obtain ⟨Q, hQ, hq⟩ := held_wrong hh ⟨by omega, by omega⟩ ⟨h0, h5⟩ hfit hc32' hcc
              exact ⟨Q, hq, fun W v h hr => by have e := hask_any v P a1 (-1) W h hr (by omega); rw [← Hcw.out, hQ] at e; exact e⟩)
            have HA4 := Lib.hid (show ∀ P k, 0 ≤ k → k < 5 → Held P (hold 1 k x b a2 c) → ∃ Q, (∀ W v, PlV W v P → Rounds W → Calls Tryz.prog 11 #[v, .string a0, .int .i64 (-1)] W (AskR W ⟨x, b, a2, Q, 0⟩)) ∧ ∀ W v, PlV W v Q → Calls Tryz.prog 12 #[v] W (HeldPost W (hold 1 0 x b a2 c, 0)) from fun P k h0 h5 hh => by
              obtain ⟨Q, hQ, hq⟩ := held_right hh ⟨by omega, by omega⟩ ⟨h0, h5⟩ hfit hc32'
              exact ⟨Q, fun W v h hr => by have e := hask_any v P a0 (-1) W h hr (by omega); rw [← Hc.out, hQ] at e; exact e, fun W v h => by have e := hget_any v Q W h; rw [held_get hq ⟨by omega, by omega⟩ ⟨by omega, by omega⟩ hfit hc32'] at e; exact e⟩)
            have HH := Lib.hid hH
            have Hn0 := Lib.hid hn0
            have Hn4 := Lib.hid hn4
            clear hP2 hG hP3 hH hcc hfit Hcw HF hc32' e1 e2 hn0 hn4
            go_wp2_with fail
            refine (HP2.out _ _ ⟨_, _, _, _, _, _, rfl, HP1.out⟩).mono ?_
            rintro e w6 ⟨v6, rfl, ⟨A6, n6, c6, B6, m6, d6, rfl, hP6⟩, hb6⟩
            dsimp only at hP6 ⊢
            obtain ⟨k6, hP6', hb6'⟩ := disk_new hP6 c6 d6
            have hb6c := Below.chain hb6 hb6'
            replace Hx := hblk_below Hx hb6c
            replace Hb := Lib.hid (Hb.out.trans (hb6c.mono Hb.out.size))
            have HP6 := Lib.hid hP6'
            clear hb6 hb6' hb6c hP6 hP6' x0 x1 s0 s1 Hk1 HP1
            obtain ⟨x0, x1, _, _⟩ := two_cells k6
            clear k6
            go_wp2_with fail
            refine (HP3.out _ _ ⟨_, _, _, _, _, _, rfl, HP6.out⟩).mono ?_
            rintro e w7 ⟨v7, rfl, ⟨A7, n7, c7, B7, m7, d7, rfl, hP7⟩, hb7⟩
            dsimp only at hP7 ⊢
            obtain ⟨k7, hP7', hb7'⟩ := disk_new hP7 c7 d7
            have hb7c := Below.chain hb7 hb7'
            have Hxg := Lib.hid (show w.heap.size ≠ w7.heap.size from Nat.ne_of_lt (Nat.lt_of_lt_of_le (cell_lt_of Hx.out) hb7.size))
            have Hwg := Lib.hid (show w.heap.size ≤ w7.heap.size from Nat.le_trans Hb.out.size hb7.size)
            replace Hx := hblk_below Hx hb7c
            replace Hb := Lib.hid (Hb.out.trans (hb7c.mono Hb.out.size))
            have HP7 := Lib.hid hP7'
            have Hk7 := Lib.hid k7
            clear hb7 hb7' hb7c hP7 hP7' x0 x1 HP6 k7
            obtain ⟨w8, hw8⟩ : ∃ w8, w8 = w7.alloc (.cells #[.slice A7 n7 c7, .slice B7 m7 d7] 27) := ⟨_, rfl⟩
            have Hw8 := Lib.hid hw8
            rw [← hw8] at Hx Hb HP7 Hk7
            clear hw8
            go_upto_region 8 with fail
            rw [← Hw8.out]
            clear Hw8
            obtain ⟨g7, hg7⟩ : ∃ g, g = w7.heap.size := ⟨_, rfl⟩
            rw [← hg7] at Hk7 Hwg Hxg ⊢
            clear hg7
            obtain ⟨N, rfl⟩ := Int.eq_ofNat_of_zero_le (show 0 ≤ n by have := Hn0.out; omega)
            have hN : N ≤ 4 := by have := Hn4.out; omega
            clear Hn0 Hn4
            go_wp2_with fail
            go_loopw [17] (fun y wr => ∃ (k : Nat) (P : Plat) (A : Option Addr) (n c' : Nat) (B : Option Addr) (m d : Nat), k ≤ N ∧ y = .int .i64 (k : Nat) ∧ Held P (hold 1 k x b a2 c) ∧ wr.heap[g7]? = some (.cells #[.slice A n c', .slice B m d] 27 (0, 0)) ∧ wr.heap[w.heap.size]? = some (.cells #[.int .i64 x, .string b] 23 (0, 0)) ∧ PB wr A n B m P ∧ Below w.heap.size w wr) (fun y _ => N - (intOf y).toNat)
            case atStart => exact ⟨0, P3, A7, n7, c7, B7, m7, d7, by omega, rfl, HH.out, Hk7.out, Hx.out, HP7.out, Hb.out⟩
            case round =>
              obtain ⟨k, P, A, n, c', B, m, d, hk, rfl, hh, hk7, hxk, hP, hb⟩ := hrel
              have Hhh := Lib.hid hh
              have HPk := Lib.hid hP
              have Hbk := Lib.hid hb
              have Hkk := Lib.hid hk7
              have Hxk := Lib.hid hxk
              clear hh hP hb hxk
              by_cases hlt : k < N
              · have e1 : decide ((k : Int) < (N : Int)) = true := by simp; omega
                obtain ⟨Q, hQ, hask⟩ := HA3.out P (k : Int) (by omega) (by omega) Hhh.out
                have HQ := Lib.hid hQ
                have Hask := Lib.hid hask
                obtain ⟨x0, x1, _, _⟩ := two_cells hk7
                clear hk7 hQ hask
                go_wp2_with fail
                refine (Hask.out _ _ ⟨_, _, _, _, _, _, rfl, HPk.out⟩ (HR.out.below Hbk.out)).mono ?_
                rintro e w9 ⟨v9, rfl, ⟨A9, n9, c9, B9, m9, d9, rfl, hP9⟩, hb9⟩
                dsimp only at hP9 ⊢
                have ha9 := al2 w9 (.cells #[.int .i64 0, .string none0] 23) (.cells #[.slice A9 n9 c9, .slice B9 m9 d9] 27)
                have hk9 := heap_alloc_new (w9.alloc (.cells #[.int .i64 0, .string none0] 23)) (.cells #[.slice A9 n9 c9, .slice B9 m9 d9] 27)
                rw [World.size_alloc] at hk9
                have hb9c := Below.chain hb9 ha9
                replace Hkk := hblk_below Hkk hb9c
                replace Hxk := hblk_below Hxk hb9c
                replace Hbk := Lib.hid (Hbk.out.trans (hb9c.mono Hbk.out.size))
                have HP9 := Lib.hid (hP9.below ha9)
                have hlt9 := cell_lt_of Hkk.out
                clear hb9 ha9 hb9c x0 x1 hP9
                obtain ⟨w10, hw10⟩ : ∃ w10, w10 = (w9.alloc (.cells #[.int .i64 0, .string none0] 23)).alloc (.cells #[.slice A9 n9 c9, .slice B9 m9 d9] 27) := ⟨_, rfl⟩
                have Hw10 := Lib.hid hw10
                rw [← hw10] at hk9 Hkk Hbk HP9 hlt9 Hxk
                obtain ⟨x0, x1, x2, x3⟩ := two_cells Hkk.out
                obtain ⟨y0, y1, _, _⟩ := two_cells hk9
                clear hw10 hk9
                go_upto_region 14 with fail
                rw [← Hw10.out]
                clear Hw10
                go_wp2_with fail
                go_roundw
                case rel => exact ⟨k + 1, Q, A9, n9, c9, B9, m9, d9, by omega, by go_num, HQ.out, two_set Hkk.out _ _, (Below.heap_setCell _ ⟨g7, 1, none⟩ _ w.heap.size Hxg.out).trans ((Below.heap_setCell _ ⟨g7, 0, none⟩ _ w.heap.size Hxg.out).trans Hxk.out), HP9.out.two Hkk.out, two_by Hbk.out Hwg.out _ _⟩
                case measure => simp [intOf]; omega
              · obtain rfl : k = N := by omega
                have e1 : decide ((k : Int) < (k : Int)) = false := by simp
                obtain ⟨Q, hask, hget⟩ := HA4.out P (k : Int) (by omega) (by omega) Hhh.out
                have Hask := Lib.hid hask
                have Hget := Lib.hid hget
                obtain ⟨x0, x1, _, _⟩ := two_cells hk7
                clear hk7 hask hget
                go_wp2_with fail
                refine (Hask.out _ _ ⟨_, _, _, _, _, _, rfl, HPk.out⟩ (HR.out.below Hbk.out)).mono ?_
                rintro e w9 ⟨v9, rfl, ⟨A9, n9, c9, B9, m9, d9, rfl, hP9⟩, hb9⟩
                dsimp only at hP9 ⊢
                have hs9 := cells_below (heap_alloc_new w9 (.cells #[.int .i64 x, .string b] 23)) ((Below.refl _ _).alloc (Nat.le_refl _) (.cells #[.slice A9 n9 c9, .slice B9 m9 d9] 27))
                have hk9 := heap_alloc_new (w9.alloc (.cells #[.int .i64 x, .string b] 23)) (.cells #[.slice A9 n9 c9, .slice B9 m9 d9] 27)
                rw [World.size_alloc] at hk9
                have ha9 := al2 w9 (.cells #[.int .i64 x, .string b] 23) (.cells #[.slice A9 n9 c9, .slice B9 m9 d9] 27)
                have hb9c := Below.chain hb9 ha9
                replace Hxk := hblk_below Hxk hb9c
                replace Hbk := Lib.hid (Hbk.out.trans (hb9c.mono Hbk.out.size))
                have HP9 := Lib.hid (hP9.below ha9)
                have Hs9 := Lib.hid hs9
                clear hb9 ha9 hb9c x0 x1 hP9 hs9
                obtain ⟨w10, hw10⟩ : ∃ w10, w10 = (w9.alloc (.cells #[.int .i64 x, .string b] 23)).alloc (.cells #[.slice A9 n9 c9, .slice B9 m9 d9] 27) := ⟨_, rfl⟩
                have Hw10 := Lib.hid hw10
                rw [← hw10] at hk9 Hbk HP9 Hxk Hs9
                obtain ⟨x0, x1, _, _⟩ := two_cells hk9
                clear hw10 hk9
                go_upto_region 16 with fail
                rw [← Hw10.out]
                clear Hw10
                go_wp2_with fail
                refine (Hget.out _ _ ⟨_, _, _, _, _, _, rfl, HP9.out⟩).mono ?_
                rintro e w11 ⟨rfl, hb11⟩
                have hk11 := heap_alloc_new w11 (.cells #[.int .i64 1, .int .i64 0, .int .i64 x, .string b, .string a2, .string c, .int .i64 0, .int .i64 0, .string none0, .string none0] 39)
                have hb11c := Below.chain hb11 ((Below.refl w11.heap.size w11).alloc (Nat.le_refl _) (.cells #[.int .i64 1, .int .i64 0, .int .i64 x, .string b, .string a2, .string c, .int .i64 0, .int .i64 0, .string none0, .string none0] 39))
                replace Hxk := hblk_below Hxk hb11c
                replace Hs9 := hblk_below Hs9 hb11c
                replace Hbk := Lib.hid (Hbk.out.trans (hb11c.mono Hbk.out.size))
                have Hk11 := Lib.hid hk11
                clear hb11 hb11c x0 x1 hk11 HP9
                dsimp only [hdV, hold]
                go_wp2_with fail
                refine (held_any _ (HR.out.below Hbk.out)).mono ?_
                rintro e wz ⟨rfl, hbz⟩
                replace Hxk := hblk_below Hxk hbz
                replace Hs9 := hblk_below Hs9 hbz
                replace Hk11 := hblk_below Hk11 hbz
                replace Hbk := Lib.hid (Hbk.out.trans (hbz.mono Hbk.out.size))
                obtain ⟨x0, x1, _, _⟩ := two_cells Hxk.out
                obtain ⟨y0, y1, _, _⟩ := two_cells Hs9.out
                obtain ⟨⟨_, z1, z2, z3, _⟩, _⟩ := ten_cells Hk11.out
                clear hbz
                go_wp2_with fail
                go_ret
                exact ⟨rfl, Hbk.out⟩
          · have hPn := fresh_prep_not HF.out hc32' hfit
            obtain ⟨⟨Px, ex⟩, hPx⟩ : ∃ r, commitH noPlat 1 (-1) = r := ⟨_, rfl⟩
            have HP2 := Lib.hid (show ∀ W v, PlV W v P1 → Calls Tryz.prog 9 #[v, .int .i64 1, .agg #[.int .i64 x, .string b], .string a2, .int .i64 (-1)] W (PlR W (noPlat, 1)) from fun W v h => by rw [← hPn]; exact hprep_any v P1 1 x b a2 (-1) W h hb9 h2)
            have HP3 := Lib.hid (show ∀ W v, PlV W v noPlat → Calls Tryz.prog 10 #[v, .int .i64 1, .int .i64 (-1)] W (PlR W (Px, ex)) from fun W v h => by rw [← hPx]; exact hcommit_any v noPlat 1 (-1) W h)
            clear hPn hPx hfit hc32' hcc e1 e2 hn0 hn4
            go_wp2_with fail
            refine (HP2.out _ _ ⟨_, _, _, _, _, _, rfl, HP1.out⟩).mono ?_
            rintro e w6 ⟨v6, rfl, ⟨A6, n6, c6, B6, m6, d6, rfl, hP6⟩, hb6⟩
            dsimp only at hP6 ⊢
            obtain ⟨k6, hP6', hb6'⟩ := disk_new hP6 c6 d6
            have hb6c := Below.chain hb6 hb6'
            replace Hb := Lib.hid (Hb.out.trans (hb6c.mono Hb.out.size))
            clear hb6 hb6' hb6c hP6 x0 x1 s0 s1
            obtain ⟨x0, x1, _, _⟩ := two_cells k6
            go_wp2_with fail
            refine (HP3.out _ _ ⟨_, _, _, _, _, _, rfl, hP6'⟩).mono ?_
            rintro e w7 ⟨v7, rfl, ⟨A7, n7, c7, B7, m7, d7, rfl, hP7⟩, hb7⟩
            obtain ⟨k7, hP7', hb7'⟩ := disk_new hP7 c7 d7
            have hb7c := Below.chain hb7 hb7'
            replace Hb := Lib.hid (Hb.out.trans (hb7c.mono Hb.out.size))
            clear hb7 hb7' hb7c hP7 hP6' k6 x0 x1 hP7' k7
            dsimp only
            go_wp2_with fail
            refine (held_any _ (HR.out.below Hb.out)).mono ?_
            rintro e wz ⟨rfl, hbz⟩
            go_wp2_with fail
            go_ret
            exact ⟨rfl, Hb.out.trans (hbz.mono Hb.out.size)⟩
end Go.Proofs.YtniglledpjheaaaGreatDoor
