/-
  Contract of keyholelaw21.held: the document's rows are met.
-/
import Derived.Test.YtniglledpjheaaaGreatDoorHoldA
import Derived.Test.YtniglledpjheaaaGreatDoorHp
import Derived.Test.YtniglledpjheaaaGreatDoorHoldU
import Derived.Test.YtniglledpjheaaaGreatDoorMany
namespace Go.Proofs.YtniglledpjheaaaGreatDoor
open Go.RowKit
set_option linter.unusedVariables false
set_option maxRecDepth 100000
set_option maxHeartbeats 2000000
set_option linter.unusedSimpArgs false

abbrev wordT : ByteArray := ⟨#[119, 111, 114, 100]⟩
abbrev wrongT : ByteArray := ⟨#[119, 114, 111, 110, 103]⟩
theorem sumB_len {s : ByteArray} (h : s.size ≤ 1000000000) : (sumB s).size = 32 := by
  unfold sumB
  rw [if_pos h]
  exact sumL_len _
theorem word_wrong : sumB wordT ≠ sumB wrongT := by
  unfold sumB
  rw [if_pos (by decide), if_pos (by decide)]
  exact fun e => absurd (bs_inj e) (by decide +kernel)
/-- A disk that is laid into a new variable. -/
theorem disk_new {w : World} {A B : Option Addr} {n m : Nat} {P : Plat} (h : PB w A n B m P) (c d : Nat) :
    (w.alloc (.cells #[.slice A n c, .slice B m d] 27)).heap[w.heap.size]? = some (.cells #[.slice A n c, .slice B m d] 27 (0, 0)) ∧ PB (w.alloc (.cells #[.slice A n c, .slice B m d] 27)) A n B m P ∧ Below w.heap.size w (w.alloc (.cells #[.slice A n c, .slice B m d] 27)) :=
  ⟨heap_alloc_new w _, h.below ((Below.refl w.heap.size w).alloc (Nat.le_refl _) _), (Below.refl w.heap.size w).alloc (Nat.le_refl _) _⟩
theorem ch_a {w w' : World} (h : Below w.drew.heap.size w.drew w') : Below w.heap.size w w' := Below.chain ((Below.refl _ w).drew) h
theorem ch_b {w w' : World} {o : Obj} (h : Below (w.alloc o).drew.heap.size (w.alloc o).drew w') : Below w.heap.size w w' := Below.chain (((Below.refl _ w).alloc (Nat.le_refl _) o).drew) h
theorem ch_c {w w' : World} {a b : Value} {t : TypeId} (h : Below (w.alloc (.cells #[a, b] t)).drew.heap.size (w.alloc (.cells #[a, b] t)).drew w') : w'.heap[w.heap.size]? = some (.cells #[a, b] t (0, 0)) := cells_below (W := (w.alloc (.cells #[a, b] t)).drew) (heap_alloc_new w _) h
def b5 : ByteArray := bs (List.replicate 32 (5 : UInt8))
def b7 : ByteArray := bs (List.replicate 16 (7 : UInt8))
theorem fit57 : fitX 3 b5 b7 := ⟨by omega, by omega, rfl, rfl⟩
theorem many5 (w : World) : Calls Tryz.prog 25 #[.int .u8 5, .int .i64 32] w fun e w' => e = .returned (.string b5) ∧ Below w.heap.size w w' := many_any 5 32 w (by omega)
theorem many7 (w : World) : Calls Tryz.prog 25 #[.int .u8 7, .int .i64 16] w fun e w' => e = .returned (.string b7) ∧ Below w.heap.size w w' := many_any 7 16 w (by omega)
theorem al2 (w : World) (a b : Obj) : Below w.heap.size w ((w.alloc a).alloc b) := ((Below.refl w.heap.size w).alloc (Nat.le_refl _) a).alloc (by simp) b

theorem held_any (w : World) (hR : Rounds w) : Calls Tryz.prog 8 #[] w fun e w' => e = .returned (.bool true) ∧ Below w.heap.size w w' := by
  have HR := Lib.hid hR
  obtain ⟨c, hc⟩ : ∃ c, c = sumB wordT := ⟨_, rfl⟩
  have hc32 : c.size = 32 := by rw [hc]; exact sumB_len (by decide)
  obtain ⟨c2, hc2⟩ : ∃ c, c = sumB wrongT := ⟨_, rfl⟩
  have hne : c ≠ c2 := by rw [hc, hc2]; exact word_wrong
  obtain ⟨P1, hP1, hF⟩ : ∃ P1, startH c = (P1, 0) ∧ Fresh P1 c := ⟨_, Prod.ext rfl (start_fresh (by omega)).1, (start_fresh (by omega)).2⟩
  obtain ⟨P2, hP2, hG⟩ : ∃ P2, prepH P1 1 3 b5 b7 (-1) = (P2, 0) ∧ Ready P2 c 3 b5 b7 := ⟨_, Prod.ext rfl (fresh_prep hF hc32 fit57).1, (fresh_prep hF hc32 fit57).2⟩
  obtain ⟨P3, hP3, hH⟩ : ∃ P3, commitH P2 1 (-1) = (P3, 0) ∧ Held P3 (hold 1 0 3 b5 b7 c) := ⟨_, Prod.ext rfl (ready_commit hG hc32 fit57).1, (ready_commit hG hc32 fit57).2⟩
  obtain ⟨P4, hP4, hK⟩ := held_right hH ⟨by omega, by omega⟩ ⟨by omega, by omega⟩ fit57 hc32
  have hA1 := fresh_ask hF hc32 c (-1)
  have HS := Lib.hid (show ∀ W, Rounds W → Calls Tryz.prog 5 #[.string wordT] W (PlR W (P1, 0)) from fun W h => by rw [← hP1, hc]; exact hstart_any _ W h)
  have HA1 := Lib.hid (show ∀ W v, PlV W v P1 → Rounds W → Calls Tryz.prog 11 #[v, .string wordT, .int .i64 (-1)] W (AskR W ⟨0, none0, none0, noPlat, 212⟩) from fun W v h hr => by have e := hask_any v P1 wordT (-1) W h hr (by omega); rw [← hc, hA1] at e; exact e)
  have HP2 := Lib.hid (show ∀ W v, PlV W v P1 → Calls Tryz.prog 9 #[v, .int .i64 1, .agg #[.int .i64 3, .string b5], .string b7, .int .i64 (-1)] W (PlR W (P2, 0)) from fun W v h => by rw [← hP2]; exact hprep_any v P1 1 3 b5 b7 (-1) W h (by decide) (by decide))
  have HP3 := Lib.hid (show ∀ W v, PlV W v P2 → Calls Tryz.prog 10 #[v, .int .i64 1, .int .i64 (-1)] W (PlR W (P3, 0)) from fun W v h => by rw [← hP3]; exact hcommit_any v P2 1 (-1) W h)
  have HA2 := Lib.hid (show ∀ W v, PlV W v P3 → Rounds W → Calls Tryz.prog 11 #[v, .string wordT, .int .i64 (-1)] W (AskR W ⟨3, b5, b7, P4, 0⟩) from fun W v h hr => by rw [← hP4, hc]; exact hask_any v P3 _ _ W h hr (by omega))
  have HA3 := Lib.hid (show ∀ P k, 0 ≤ k → k < 5 → Held P (hold 1 k 3 b5 b7 c) → ∃ Q, Held Q (hold 1 (k + 1) 3 b5 b7 c) ∧ ∀ W v, PlV W v P → Rounds W → Calls Tryz.prog 11 #[v, .string wrongT, .int .i64 (-1)] W (AskR W ⟨0, none0, none0, Q, 211⟩) from fun P k h0 h5 hh => by
    obtain ⟨Q, hQ, hq⟩ := held_wrong hh ⟨by omega, by omega⟩ ⟨h0, h5⟩ fit57 hc32 hne
    exact ⟨Q, hq, fun W v h hr => by have e := hask_any v P wrongT (-1) W h hr (by omega); rw [← hc2, hQ] at e; exact e⟩)
  have HA4 := Lib.hid (show ∀ P, Held P (hold 1 5 3 b5 b7 c) → ∀ W v, PlV W v P → Rounds W → Calls Tryz.prog 11 #[v, .string wordT, .int .i64 (-1)] W (AskR W ⟨0, none0, none0, noPlat, 210⟩) from fun P hh W v h hr => by
    have e := hask_any v P wordT (-1) W h hr (by omega)
    rw [← hc, held_locked hh ⟨by omega, by omega⟩ fit57 hc32 c (-1)] at e
    exact e)
  have HK := Lib.hid hK
  clear hR hP1 hF hP2 hG hP3 hH hP4 hK hA1 hc32 hne hc hc2
  obtain ⟨bb, hbb⟩ : ∃ b, b = b5 := ⟨_, rfl⟩
  obtain ⟨ss, hss⟩ : ∃ b, b = b7 := ⟨_, rfl⟩
  have HM5 := Lib.hid (show ∀ W, Calls Tryz.prog 25 #[.int .u8 5, .int .i64 32] W fun e w' => e = .returned (.string bb) ∧ Below W.heap.size W w' by rw [hbb]; exact many5)
  have HM7 := Lib.hid (show ∀ W, Calls Tryz.prog 25 #[.int .u8 7, .int .i64 16] W fun e w' => e = .returned (.string ss) ∧ Below W.heap.size W w' by rw [hss]; exact many7)
  rw [← hbb, ← hss] at HP2 HA2 HA3 HA4 HK
  clear hbb hss
  go_enter Tryz.func8, Tryz.ntmps8
  go_wp2_with fail
  refine (HS.out _ HR.out).mono ?_
  rintro e w1 ⟨v1, rfl, ⟨A1, n1, c1, B1, m1, d1, rfl, hP1⟩, hb1⟩
  obtain ⟨k1, hP1', hb1'⟩ := disk_new hP1 c1 d1
  have Hb := Lib.hid (Below.chain hb1 hb1')
  have Hk1 := Lib.hid k1
  have HP1 := Lib.hid hP1'
  obtain ⟨x0, x1, _, _⟩ := two_cells k1
  clear hb1' hP1 hP1' k1
  go_wp2_with fail
  refine (HA1.out _ _ ⟨_, _, _, _, _, _, rfl, HP1.out⟩ (HR.out.below Hb.out)).mono ?_
  rintro e w2 ⟨v2, rfl, ⟨A2, n2, c2', B2, m2, d2, rfl, _⟩, hb2⟩
  dsimp only
  have ha2 := al2 w2 (.cells zS 23) (.cells #[.slice A2 n2 c2', .slice B2 m2 d2] 27)
  have hb2' := Below.chain hb2 ha2
  replace Hk1 := hblk_below Hk1 hb2'
  replace HP1 := Lib.hid (HP1.out.below hb2')
  replace Hb := Lib.hid (Hb.out.trans (hb2'.mono Hb.out.size))
  clear hb2 ha2 hb2' x0 x1
  go_wp2_with fail
  refine (HM5.out _).mono ?_
  rintro e w3 ⟨rfl, hb3⟩
  have ha3 := (Below.refl w3.heap.size w3).alloc (Nat.le_refl _) (.cells #[.int .i64 3, .string bb] 23)
  have Hk2 := Lib.hid (heap_alloc_new w3 (.cells #[.int .i64 3, .string bb] 23))
  have hb3' := Below.chain hb3 ha3
  replace Hk1 := hblk_below Hk1 hb3'
  replace HP1 := Lib.hid (HP1.out.below hb3')
  replace Hb := Lib.hid (Hb.out.trans (hb3'.mono Hb.out.size))
  clear hb3 ha3 hb3'
  go_wp2_with fail
  obtain ⟨g2, hg2⟩ : ∃ g, g = w3.heap.size := ⟨_, rfl⟩
  obtain ⟨w4, hw4⟩ : ∃ w4, w4 = w3.alloc (.cells #[.int .i64 3, .string bb] 23) := ⟨_, rfl⟩
  rw [← hw4] at Hk1 Hk2 HP1 Hb ⊢
  rw [← hg2] at Hk2 ⊢
  clear hw4 hg2
  obtain ⟨x0, x1, _, _⟩ := two_cells Hk1.out
  obtain ⟨y0, y1, _, _⟩ := two_cells Hk2.out
  have hlt4 := cell_lt_of Hk1.out
  have hlt5 := cell_lt_of Hk2.out
  go_cut [8, 9] from 38 to 44 (fun v8 v9 wc => ∃ (g : Nat) (A : Option Addr) (n c : Nat) (B : Option Addr) (m d : Nat), v8 = .pointer (some ⟨g, 0, none⟩) ∧ v9 = .int .i64 0 ∧ w4.heap.size ≤ g ∧ wc.heap[g]? = some (.cells #[.slice A n c, .slice B m d] 27 (0, 0)) ∧ PB wc A n B m P2 ∧ Below w4.heap.size w4 wc)
  case first =>
    go_region_law (first
      | (go_simp; go_at_call 25; refine (HM7.out _).mono ?_; rintro _ w5 ⟨rfl, hb5'⟩; (first | (have hb5 : Below w4.heap.size w4 w5 := (by with_reducible exact ch_a hb5'); have K5 := Lib.hid hb5) | (have hb5 : Below w4.heap.size w4 w5 := (by with_reducible exact ch_b hb5'); have K5 := Lib.hid hb5; have hz5 := (by with_reducible exact ch_c hb5'); obtain ⟨z0, z1, z2, z3⟩ := two_cells hz5; have Hz5 := Lib.hid hz5)); have P5 := Lib.hid (HP1.out.below hb5); obtain ⟨x0', x1', _, _⟩ := two_cells (cells_below Hk1.out hb5); obtain ⟨y0', y1', _, _⟩ := two_cells (cells_below Hk2.out hb5); have hl51 := cell_lt_of (cells_below Hk1.out hb5); have hl52 := cell_lt_of (cells_below Hk2.out hb5))
      | (go_simp; go_at_call 9; (first | (have Hz5c := Hz5; refine (HP2.out _ _ ⟨_, _, _, _, _, _, rfl, P5.out⟩).mono ?_; rintro _ w6 ⟨v6, rfl, ⟨A6, n6, c6, B6, m6, d6, rfl, hP6⟩, hb6⟩; have K6 := Lib.hid (Below.chain K5.out hb6); have hz6 := cells_below Hz5c.out hb6; clear Hz5c; obtain ⟨z0', z1', z2', z3'⟩ := two_cells hz6; have Hz6 := Lib.hid hz6) | (refine (HP2.out _ _ ⟨_, _, _, _, _, _, rfl, P5.out⟩).mono ?_; rintro _ w6 ⟨v6, rfl, ⟨A6, n6, c6, B6, m6, d6, rfl, hP6⟩, hb6⟩; have K6 := Lib.hid (Below.chain K5.out hb6)) | (refine (HP2.out _ _ ⟨_, _, _, _, _, _, rfl, P5.out.below ((Below.refl _ _).alloc (Nat.le_refl _) _)⟩).mono ?_; rintro _ w6 ⟨v6, rfl, ⟨A6, n6, c6, B6, m6, d6, rfl, hP6⟩, hb6⟩; have K6 := Lib.hid (Below.chain (Below.chain K5.out ((Below.refl _ _).alloc (Nat.le_refl _) _)) hb6); have hz6 := cells_below (heap_alloc_new w5 (.cells zP 27)) hb6; obtain ⟨z0, z1, z2, z3⟩ := two_cells hz6; have Hz6 := Lib.hid hz6))))
    all_goals
      go_wp2_with fail
      go_meet
      case rel =>
        first
          | exact ⟨_, _, _, _, _, _, _, rfl, rfl, K6.out.size, heap_alloc_new w6 _, hP6.below ((Below.refl _ _).alloc (Nat.le_refl _) _), Below.chain K6.out ((Below.refl _ _).alloc (Nat.le_refl _) _)⟩
          | exact ⟨_, _, _, _, _, _, _, rfl, rfl, Nat.le_refl _, two_set Hz6.out _ _, hP6.two Hz6.out, two_by K6.out (Nat.le_refl _) _ _⟩
          | exact ⟨_, _, _, _, _, _, _, rfl, rfl, K5.out.size, two_set Hz6.out _ _, hP6.two Hz6.out, two_by K6.out K5.out.size _ _⟩
  case rest =>
    obtain ⟨g3, A3, n3, c3, B3, m3, d3, rfl, rfl, hge, k3, hP3, hb4⟩ := hcut
    replace Hb := Lib.hid (Hb.out.trans (hb4.mono Hb.out.size))
    replace Hk2 := hblk_below Hk2 hb4
    have Hk3 := Lib.hid k3
    have HP3' := Lib.hid hP3
    have Hge := Lib.hid hge
    clear x0 x1 y0 y1 hb4 hP3 hge Hk1 hlt4 hlt5
    obtain ⟨x0, x1, _, _⟩ := two_cells k3
    clear k3
    go_wp2_with fail
    refine (HP3.out _ _ ⟨_, _, _, _, _, _, rfl, HP3'.out⟩).mono ?_
    rintro e w5 ⟨v5, rfl, ⟨A5, n5, c5, B5, m5, d5, rfl, hP5⟩, hb5⟩
    obtain ⟨k5, hP5', hb5'⟩ := disk_new hP5 c5 d5
    have hb5c := Below.chain hb5 hb5'
    replace Hk2 := hblk_below Hk2 hb5c
    replace Hb := Lib.hid (Hb.out.trans (hb5c.mono Hb.out.size))
    have Hk5 := Lib.hid k5
    have HP5 := Lib.hid hP5'
    clear hb5 hb5' hP5 hP5' hb5c x0 x1 Hk3 HP3'
    obtain ⟨x0, x1, _, _⟩ := two_cells k5
    clear k5
    go_wp2_with fail
    refine (HA2.out _ _ ⟨_, _, _, _, _, _, rfl, HP5.out⟩ (HR.out.below Hb.out)).mono ?_
    rintro e w6 ⟨v6, rfl, ⟨A6, n6, c6, B6, m6, d6, rfl, hP6⟩, hb6⟩
    dsimp only at hP6 ⊢
    have ha6 := al2 w6 (.cells #[.int .i64 3, .string bb] 23) (.cells #[.slice A6 n6 c6, .slice B6 m6 d6] 27)
    have hb6c := Below.chain hb6 ha6
    have hk6 := cells_below (heap_alloc_new w6 (.cells #[.int .i64 3, .string bb] 23)) ((Below.refl _ _).alloc (Nat.le_refl _) (.cells #[.slice A6 n6 c6, .slice B6 m6 d6] 27))
    have hk7 := heap_alloc_new (w6.alloc (.cells #[.int .i64 3, .string bb] 23)) (.cells #[.slice A6 n6 c6, .slice B6 m6 d6] 27)
    rw [World.size_alloc] at hk7
    have HP6 := Lib.hid (hP6.below ha6)
    have Hwg := Lib.hid (show w.heap.size ≤ w6.heap.size + 1 from Nat.le_trans Hb.out.size (Nat.le_trans hb6.size (Nat.le_succ _)))
    replace Hk2 := hblk_below Hk2 hb6c
    replace Hb := Lib.hid (Hb.out.trans (hb6c.mono Hb.out.size))
    clear hb6 ha6 hb6c hP6 x0 x1 Hk5 HP5
    obtain ⟨y0, y1, _, _⟩ := two_cells Hk2.out
    obtain ⟨z0, z1, _, _⟩ := two_cells hk6
    obtain ⟨w7, hw7⟩ : ∃ w7, w7 = (w6.alloc (.cells #[.int .i64 3, .string bb] 23)).alloc (.cells #[.slice A6 n6 c6, .slice B6 m6 d6] 27) := ⟨_, rfl⟩
    have Hw7 := Lib.hid hw7
    rw [← hw7] at y0 y1 z0 z1 HP6 Hb hk7
    clear hk6 hw7
    go_upto_region 7 with fail
    rw [← Hw7.out]
    clear Hw7 Hk2
    have Hk7 := Lib.hid hk7
    clear hk7
    go_wp2_with fail
    refine (HM7.out _).mono ?_
    rintro e w8 ⟨rfl, hb8⟩
    replace Hk7 := hblk_below Hk7 hb8
    replace HP6 := Lib.hid (HP6.out.below hb8)
    replace Hb := Lib.hid (Hb.out.trans (hb8.mono Hb.out.size))
    clear hb8 y0 y1 z0 z1
    generalize w6.heap.size + 1 = g6 at Hk7 Hwg ⊢
    go_wp2_with fail
    go_loopw [16] (fun x wr => ∃ (k : Nat) (P : Plat) (A : Option Addr) (n c' : Nat) (B : Option Addr) (m d : Nat), k ≤ 5 ∧ x = .int .i64 (k : Nat) ∧ Held P (hold 1 k 3 bb ss c) ∧ wr.heap[g6]? = some (.cells #[.slice A n c', .slice B m d] 27 (0, 0)) ∧ PB wr A n B m P ∧ Below w.heap.size w wr) (fun x _ => 5 - (intOf x).toNat)
    case atStart => exact ⟨0, P4, A6, n6, c6, B6, m6, d6, by omega, rfl, HK.out, Hk7.out, HP6.out, Hb.out⟩
    case round =>
      obtain ⟨k, P, A, n, c', B, m, d, hk, rfl, hh, hk7, hP, hb⟩ := hrel
      have Hhh := Lib.hid hh
      have HPk := Lib.hid hP
      have Hbk := Lib.hid hb
      have Hkk := Lib.hid hk7
      clear hh hP hb
      by_cases hlt : k < 5
      · have e1 : decide ((k : Int) < (5 : Int)) = true := by simp; omega
        obtain ⟨Q, hQ, hask⟩ := HA3.out P (k : Int) (by omega) (by omega) Hhh.out
        have HQ := Lib.hid hQ
        have Hask := Lib.hid hask
        obtain ⟨x0, x1, _, _⟩ := two_cells hk7
        clear hk7 hQ hask
        go_wp2_with fail
        refine (Hask.out _ _ ⟨_, _, _, _, _, _, rfl, HPk.out⟩ (HR.out.below Hbk.out)).mono ?_
        rintro e w9 ⟨v9, rfl, ⟨A9, n9, c9, B9, m9, d9, rfl, hP9⟩, hb9⟩
        dsimp only at hP9 ⊢
        have ha9 := al2 w9 (.cells #[.int .i64 0, .string none0] 23) (.cells #[.slice A9 n9 c9, .slice B9 m9 d9] 27)
        have hk9 := heap_alloc_new (w9.alloc (.cells #[.int .i64 0, .string none0] 23)) (.cells #[.slice A9 n9 c9, .slice B9 m9 d9] 27)
        rw [World.size_alloc] at hk9
        have hb9c := Below.chain hb9 ha9
        replace Hkk := hblk_below Hkk hb9c
        replace Hbk := Lib.hid (Hbk.out.trans (hb9c.mono Hbk.out.size))
        have HP9 := Lib.hid (hP9.below ha9)
        have hlt9 := cell_lt_of Hkk.out
        clear hb9 ha9 hb9c x0 x1 hP9
        obtain ⟨w10, hw10⟩ : ∃ w10, w10 = (w9.alloc (.cells #[.int .i64 0, .string none0] 23)).alloc (.cells #[.slice A9 n9 c9, .slice B9 m9 d9] 27) := ⟨_, rfl⟩
        have Hw10 := Lib.hid hw10
        rw [← hw10] at hk9 Hkk Hbk HP9 hlt9
        obtain ⟨x0, x1, x2, x3⟩ := two_cells Hkk.out
        obtain ⟨y0, y1, _, _⟩ := two_cells hk9
        clear hw10 hk9
        go_upto_region 15 with fail
        rw [← Hw10.out]
        clear Hw10
        go_wp2_with fail
        go_roundw
        case rel => exact ⟨k + 1, Q, A9, n9, c9, B9, m9, d9, by omega, by go_num, HQ.out, two_set Hkk.out _ _, HP9.out.two Hkk.out, two_by Hbk.out Hwg.out _ _⟩
        case measure => simp [intOf]; omega
      · obtain rfl : k = 5 := by omega
        have e1 : decide (((5 : Nat) : Int) < (5 : Int)) = false := by simp
        obtain ⟨x0, x1, _, _⟩ := two_cells hk7
        go_wp2_with fail
        refine (HA4.out P Hhh.out _ _ ⟨_, _, _, _, _, _, rfl, HPk.out⟩ (HR.out.below Hbk.out)).mono ?_
        rintro e w9 ⟨v9, rfl, ⟨A9, n9, c9, B9, m9, d9, rfl, hP9⟩, hb9⟩
        dsimp only at hP9 ⊢
        have hb9c := Below.chain hb9 (al2 w9 (.cells #[.int .i64 0, .string none0] 23) (.cells #[.slice A9 n9 c9, .slice B9 m9 d9] 27))
        go_wp2_with fail
        go_ret
        exact ⟨rfl, Hbk.out.trans (hb9c.mono Hbk.out.size)⟩
end Go.Proofs.YtniglledpjheaaaGreatDoor
