/-
  Contracts of the document's platter (keyholeref13): Same of a disk and itself; Big, with what it is when it is not.
-/
import Derived.Test.YtgkihdhjafmnnaaGreatDoorPw
import Derived.Test.YtgkihdhjafmnnaaGreatDoorTxt
import Derived.StillTailTactics
import Derived.Deep.Cut
namespace Go.Proofs.YtgkihdhjafmnnaaGreatDoor
open Go.RowKit
set_option linter.unusedVariables false
set_option linter.unusedSimpArgs false
set_option maxRecDepth 100000
set_option maxHeartbeats 4000000

theorem same13_any (v1 v2 : Value) (P : Plat) (w : World) (h1 : PlV w v1 P) (h2 : PlV w v2 P) (hl1 : P.ss.length ≤ 100000) (hl2 : P.cs.length ≤ 100000) :
    Calls Tryz.prog 29 #[v1, v2] w fun e w' => e = .returned (.bool true) ∧ Below w.heap.size w w' := by
  obtain ⟨A, n, c, B, m, d, rfl, h1⟩ := h1
  obtain ⟨A2, n2, c2, B2, m2, d2, rfl, h2⟩ := h2
  obtain rfl : n2 = n := by rw [h1.hn, h2.hn]
  obtain rfl : m2 = m := by rw [h1.hm, h2.hm]
  have x1 := heap_alloc_new w (.cells #[.slice A n2 c, .slice B m2 d] 37)
  have x2 := heap_alloc_new (w.alloc (.cells #[.slice A n2 c, .slice B m2 d] 37)) (.cells #[.slice A2 n2 c2, .slice B2 m2 d2] 37)
  have b1 := (Below.refl w.heap.size w).alloc (Nat.le_refl _) (.cells #[.slice A n2 c, .slice B m2 d] 37)
  have b2 := (Below.refl (w.alloc (.cells #[.slice A n2 c, .slice B m2 d] 37)).heap.size (w.alloc (.cells #[.slice A n2 c, .slice B m2 d] 37))).alloc (Nat.le_refl _) (.cells #[.slice A2 n2 c2, .slice B2 m2 d2] 37)
  simp only [World.size_alloc] at x2
  have HX := Lib.hid (cells_below x1 b2)
  have HY := Lib.hid x2
  have HB := Lib.hid (Below.chain b1 b2)
  have HP := Lib.hid (h1.below HB.out)
  have HQ := Lib.hid (h2.below HB.out)
  have hn : n2 ≤ 100000 := by rw [h1.hn]; exact hl1
  have hm : m2 ≤ 100000 := by rw [h1.hm]; exact hl2
  clear x1 x2 b1 b2 h1 h2 hl1 hl2
  obtain ⟨a0, a1, _, _⟩ := two_cells HX.out
  obtain ⟨e0, e1, _, _⟩ := two_cells HY.out
  have d1 : ((m2 : Int) != (m2 : Int)) = false := by simp
  go_enter Tryz.func29, Tryz.ntmps29
  go_wp2_with fail
  refine (texts_any P.ss P.ss A A2 n2 c n2 c2 _ HP.out.rs HQ.out.rs HP.out.hn HP.out.hn (by rw [← HP.out.hn]; exact hn)).mono ?_
  rintro e w1 ⟨rfl, hb⟩
  rw [decide_eq_true rfl]
  replace HX := hblk_below HX hb
  replace HY := hblk_below HY hb
  replace HP := Lib.hid (HP.out.below hb)
  replace HQ := Lib.hid (HQ.out.below hb)
  replace HB := Lib.hid (HB.out.trans (hb.mono HB.out.size))
  clear hb a0 a1 e0 e1
  obtain ⟨a0, a1, _, _⟩ := two_cells HX.out
  obtain ⟨e0, e1, _, _⟩ := two_cells HY.out
  go_wp2_with fail
  go_loopw [5] (fun x wr => ∃ k : Nat, k ≤ m2 ∧ x = .int .i64 (k : Nat) ∧ Below w1.heap.size w1 wr) (fun x _ => m2 - (intOf x).toNat)
  case atStart => exact ⟨0, by omega, rfl, Below.refl _ _⟩
  case round =>
    obtain ⟨k, hk, rfl, hW⟩ := hrel
    clear a0 a1 e0 e1
    obtain ⟨a0, a1, _, _⟩ := two_cells (cells_below HX.out hW)
    obtain ⟨e0, e1, _, _⟩ := two_cells (cells_below HY.out hW)
    by_cases hlt : k < m2
    · have hil : k < P.cs.length := by rw [← HP.out.hm]; exact hlt
      obtain ⟨b, off, hB, p0, p1⟩ := puts_at (HP.out.below hW).rc hil
      obtain ⟨b2, off2, hB2, q1, q2⟩ := puts_at (HQ.out.below hW).rc hil
      subst hB hB2
      generalize P.cs[k] = q at p0 p1 q1 q2
      obtain ⟨qi, qs⟩ := q
      simp only at p0 p1 q1 q2
      have e3 : decide ((k : Int) < (m2 : Int)) = true := by simp; omega
      have e2 : (k : Int) < (m2 : Int) := by omega
      have d2 : (qs.toList == qs.toList) = true := beq_self_eq_true _
      have R0 := Lib.hid p0
      have R1 := Lib.hid p1
      have R2 := Lib.hid q1
      have R3 := Lib.hid q2
      clear hil p0 p1 q1 q2
      go_wp2_with fail
      have r0 := R0.out
      have r1 := R1.out
      have r2 := R2.out
      have r3 := R3.out
      go_quiet (fail)
      rename_i nq
      have HBn := below_drewN hW nq
      go_wp2_with fail
      go_roundw
      case rel => exact ⟨k + 1, by omega, by go_num, HBn⟩
      case measure => simp [intOf]; omega
    · obtain rfl : k = m2 := by omega
      have e3 : decide ((k : Int) < (k : Int)) = false := by simp
      go_wp2_with fail
      go_ret
      exact ⟨rfl, HB.out.trans (hW.mono HB.out.size)⟩
theorem big13_lt (A B : Option Addr) (n c m d : Nat) (P : Plat) (w : World) (h : PB w A n B m P) (hn9 : n ≤ maxLen) (hm9 : m ≤ maxLen) :
    Calls Tryz.prog 23 #[.agg #[.slice A n c, .slice B m d]] w fun e w' => ∃ b, e = .returned (.bool b) ∧ (b = false → n ≤ 300 ∧ m ≤ 200) ∧ Below w.heap.size w w' := by
  have hbA := (Below.refl w.heap.size w).alloc (Nat.le_refl _) (.cells #[.slice A n c, .slice B m d] 37)
  have HP := Lib.hid (h.below hbA)
  have HB := Lib.hid hbA
  have HN := Lib.hid h.hn
  have HM := Lib.hid h.hm
  unfold maxLen at hn9 hm9
  obtain ⟨a0, a1, _, _⟩ := two_cells (heap_alloc_new w (.cells #[.slice A n c, .slice B m d] 37))
  clear h hbA
  by_cases hn : n ≤ 300
  · have d1 : decide ((300 : Int) < (n : Int)) = false := by simp; omega
    have d1' : ¬ 300 < n := by omega
    by_cases hm : m ≤ 200
    · have d2 : decide ((200 : Int) < (m : Int)) = false := by simp; omega
      have d2' : ¬ 200 < m := by omega
      go_enter Tryz.func23, Tryz.ntmps23
      go_wp2_with fail
      go_loopw [3] (fun x wr => ∃ k : Nat, k ≤ n ∧ x = .int .i64 (k : Nat) ∧ wr = w.alloc (.cells #[.slice A n c, .slice B m d] 37)) (fun x _ => n - (intOf x).toNat)
      case atStart => exact ⟨0, by omega, rfl, rfl⟩
      case round =>
        obtain ⟨k, hk, rfl, rfl⟩ := hrel
        by_cases hlt : k < n
        · have hil : k < P.ss.length := by rw [← HN.out]; exact hlt
          obtain ⟨b, off, hA, c0⟩ := texts_at HP.out.rs hil
          subst hA
          generalize P.ss[k] = s at c0
          have e1 : decide ((k : Int) < (n : Int)) = true := by simp; omega
          have e2 : (k : Int) < (n : Int) := by omega
          clear hil
          go_wp2_with fail
          · go_ret
            exact ⟨true, rfl, fun h => Bool.noConfusion h, HB.out⟩
          · go_roundw
            case rel => exact ⟨k + 1, by omega, by go_num, trivial⟩
            case measure => simp [intOf]; omega
        · obtain rfl : k = n := by omega
          have e1 : decide ((k : Int) < (k : Int)) = false := by simp
          go_wp2_with fail
          go_loopw [4] (fun x wr => ∃ j : Nat, j ≤ m ∧ x = .int .i64 (j : Nat) ∧ wr = w.alloc (.cells #[.slice A k c, .slice B m d] 37)) (fun x _ => m - (intOf x).toNat)
          case atStart => exact ⟨0, by omega, rfl, rfl⟩
          case round =>
            obtain ⟨j, hj, rfl, rfl⟩ := hrel
            by_cases hlt2 : j < m
            · have hil : j < P.cs.length := by rw [← HM.out]; exact hlt2
              obtain ⟨b, off, hB, c0, c1⟩ := puts_at HP.out.rc hil
              subst hB
              generalize P.cs[j] = q at c0 c1
              obtain ⟨i, s⟩ := q
              simp only at c0 c1
              have e1 : decide ((j : Int) < (m : Int)) = true := by simp; omega
              have e2 : (j : Int) < (m : Int) := by omega
              clear hil
              go_wp2_with fail
              · go_ret
                exact ⟨true, rfl, fun h => Bool.noConfusion h, HB.out⟩
              · go_roundw
                case rel => exact ⟨j + 1, by omega, by go_num, trivial⟩
                case measure => simp [intOf]; omega
            · obtain rfl : j = m := by omega
              have e1 : decide ((j : Int) < (j : Int)) = false := by simp
              go_wp2_with fail
              go_ret
              exact ⟨false, rfl, fun _ => ⟨by omega, by omega⟩, HB.out⟩
    · have d2 : decide ((200 : Int) < (m : Int)) = true := by simp; omega
      have d2' : 200 < m := by omega
      go_enter Tryz.func23, Tryz.ntmps23
      go_wp2_with fail
      go_ret
      exact ⟨true, rfl, fun h => Bool.noConfusion h, HB.out⟩
  · have d1 : decide ((300 : Int) < (n : Int)) = true := by simp; omega
    have d1' : 300 < n := by omega
    go_enter Tryz.func23, Tryz.ntmps23
    go_wp2_with fail
    go_ret
    exact ⟨true, rfl, fun h => Bool.noConfusion h, HB.out⟩
end Go.Proofs.YtgkihdhjafmnnaaGreatDoor
