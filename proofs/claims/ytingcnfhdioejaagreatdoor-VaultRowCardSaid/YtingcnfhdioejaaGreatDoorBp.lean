/-
  Contract of the document's Big at any disk.
  Contracts of the vault's law: Same of volumes, far.
-/
import Derived.Test.YtingcnfhdioejaaGreatDoorPw
import Derived.Test.YtingcnfhdioejaaGreatDoorVoL
import Derived.Test.YtingcnfhdioejaaGreatDoorVh
import Derived.Test.YtingcnfhdioejaaGreatDoorTxt
namespace Go.Proofs.YtingcnfhdioejaaGreatDoor
/- BigP -/
open Go.RowKit
set_option linter.unusedVariables false
set_option linter.unusedSimpArgs false
set_option maxRecDepth 100000
set_option maxHeartbeats 2000000

theorem big13_any (A B : Option Addr) (n c m d : Nat) (P : Plat) (w : World) (h : PB w A n B m P) (hn9 : n ≤ maxLen) (hm9 : m ≤ maxLen) :
    Calls Tryz.prog 26 #[.agg #[.slice A n c, .slice B m d]] w (AnyB w) := by
  have hbA := (Below.refl w.heap.size w).alloc (Nat.le_refl _) (.cells #[.slice A n c, .slice B m d] 25)
  have HP := Lib.hid (h.below hbA)
  have HB := Lib.hid hbA
  have HN := Lib.hid h.hn
  have HM := Lib.hid h.hm
  unfold maxLen at hn9 hm9
  obtain ⟨a0, a1, _, _⟩ := two_cells (heap_alloc_new w (.cells #[.slice A n c, .slice B m d] 25))
  clear h hbA
  by_cases hn : n ≤ 300
  · have d1 : decide ((300 : Int) < (n : Int)) = false := by simp; omega
    have d1' : ¬ 300 < n := by omega
    by_cases hm : m ≤ 200
    · have d2 : decide ((200 : Int) < (m : Int)) = false := by simp; omega
      have d2' : ¬ 200 < m := by omega
      go_enter Tryz.func26, Tryz.ntmps26
      go_wp2_with fail
      go_loopw [3] (fun x wr => ∃ k : Nat, k ≤ n ∧ x = .int .i64 (k : Nat) ∧ wr = w.alloc (.cells #[.slice A n c, .slice B m d] 25)) (fun x _ => n - (intOf x).toNat)
      case atStart => exact ⟨0, by omega, rfl, rfl⟩
      case round =>
        obtain ⟨k, hk, rfl, rfl⟩ := hrel
        by_cases hlt : k < n
        · have hil : k < P.ss.length := by rw [← HN.out]; exact hlt
          obtain ⟨b, off, hA, c0⟩ := texts_at HP.out.rs hil
          subst hA
          generalize P.ss[k] = s at c0
          have e1 : decide ((k : Int) < (n : Int)) = true := by simp; omega
          have e2 : (k : Int) < (n : Int) := by omega
          clear hil
          go_wp2_with fail
          · go_ret
            exact ⟨_, rfl, HB.out⟩
          · go_roundw
            case rel => exact ⟨k + 1, by omega, by go_num, trivial⟩
            case measure => simp [intOf]; omega
        · obtain rfl : k = n := by omega
          have e1 : decide ((k : Int) < (k : Int)) = false := by simp
          go_wp2_with fail
          go_loopw [4] (fun x wr => ∃ j : Nat, j ≤ m ∧ x = .int .i64 (j : Nat) ∧ wr = w.alloc (.cells #[.slice A k c, .slice B m d] 25)) (fun x _ => m - (intOf x).toNat)
          case atStart => exact ⟨0, by omega, rfl, rfl⟩
          case round =>
            obtain ⟨j, hj, rfl, rfl⟩ := hrel
            by_cases hlt2 : j < m
            · have hil : j < P.cs.length := by rw [← HM.out]; exact hlt2
              obtain ⟨b, off, hB, c0, c1⟩ := puts_at HP.out.rc hil
              subst hB
              generalize P.cs[j] = q at c0 c1
              obtain ⟨i, s⟩ := q
              simp only at c0 c1
              have e1 : decide ((j : Int) < (m : Int)) = true := by simp; omega
              have e2 : (j : Int) < (m : Int) := by omega
              clear hil
              go_wp2_with fail
              · go_ret
                exact ⟨_, rfl, HB.out⟩
              · go_roundw
                case rel => exact ⟨j + 1, by omega, by go_num, trivial⟩
                case measure => simp [intOf]; omega
            · obtain rfl : j = m := by omega
              have e1 : decide ((j : Int) < (j : Int)) = false := by simp
              go_wp2_with fail
              go_ret
              exact ⟨_, rfl, HB.out⟩
    · have d2 : decide ((200 : Int) < (m : Int)) = true := by simp; omega
      have d2' : 200 < m := by omega
      go_enter Tryz.func26, Tryz.ntmps26
      go_wp2_with fail
      go_ret
      exact ⟨_, rfl, HB.out⟩
  · have d1 : decide ((300 : Int) < (n : Int)) = true := by simp; omega
    have d1' : 300 < n := by omega
    go_enter Tryz.func26, Tryz.ntmps26
    go_wp2_with fail
    go_ret
    exact ⟨_, rfl, HB.out⟩

/- VaL -/
open Go.RowKit
set_option linter.unusedVariables false
set_option linter.unusedSimpArgs false
set_option maxRecDepth 100000
set_option maxHeartbeats 2000000

/-- Are two volumes the same? -/
def sameV (a b : Vol) : Bool := decide (a.bl = b.bl) && decide (a.rt = b.rt)
theorem sameV_true {a b : Vol} : sameV a b = true ↔ a = b := by
  obtain ⟨l, s⟩ := a
  obtain ⟨m, u⟩ := b
  simp [sameV]
theorem same16_any (v1 v2 : Value) (V1 V2 : Vol) (w : World) (h1 : VV w v1 V1) (h2 : VV w v2 V2) (hl : V1.bl.length ≤ 100000) :
    Calls Tryz.prog 17 #[v1, v2] w fun e w' => e = .returned (.bool (sameV V1 V2)) ∧ Below w.heap.size w w' := by
  obtain ⟨A1, n1, c1, rfl, r1, k1⟩ := h1
  obtain ⟨A2, n2, c2, rfl, r2, k2⟩ := h2
  obtain ⟨l, a⟩ := V1
  obtain ⟨m, b⟩ := V2
  simp only at r1 k1 r2 k2 hl ⊢
  obtain ⟨x1, x2, kb, ksz⟩ := va_al2 w (.cells #[.slice A1 n1 c1, .string a] 27) (.cells #[.slice A2 n2 c2, .string b] 27)
  have HT := Lib.hid (fun W h h' => texts_any l m A1 A2 n1 c1 n2 c2 W h h' k1 k2 hl)
  have HR1 := Lib.hid (r1.below kb)
  have HR2 := Lib.hid (r2.below kb)
  have HB := Lib.hid kb
  have HX := Lib.hid x1
  have HY := Lib.hid x2
  obtain ⟨a0, a1⟩ := vtwo_cells x1
  obtain ⟨b0, b1⟩ := vtwo_cells x2
  clear r1 r2 k1 k2 x1 x2 kb ksz hl
  by_cases hlm : l = m
  · rw [decide_eq_true hlm] at HT
    by_cases hab : a = b
    · rw [show sameV ⟨l, a⟩ ⟨m, b⟩ = true by simp [sameV, hlm, hab]]
      subst hab
      have d1 : (a.toList == a.toList) = true := beq_self_eq_true _
      clear hlm
      go_enter Tryz.func17, Tryz.ntmps17
      go_wp2_with fail
      refine (HT.out _ HR1.out HR2.out).mono ?_
      rintro e w1 ⟨rfl, hb1⟩
      have HB1 := Lib.hid (HB.out.trans (hb1.mono HB.out.size))
      obtain ⟨_, a1'⟩ := vtwo_cells (cells_below HX.out hb1)
      obtain ⟨_, b1'⟩ := vtwo_cells (cells_below HY.out hb1)
      clear hb1 a0 a1 b0 b1
      go_wp2_with fail
      go_ret
      exact ⟨rfl, HB1.out⟩
    · rw [show sameV ⟨l, a⟩ ⟨m, b⟩ = false by simp [sameV, hab]]
      have d1 := text_ne' hab
      clear hlm hab
      go_enter Tryz.func17, Tryz.ntmps17
      go_wp2_with fail
      refine (HT.out _ HR1.out HR2.out).mono ?_
      rintro e w1 ⟨rfl, hb1⟩
      have HB1 := Lib.hid (HB.out.trans (hb1.mono HB.out.size))
      obtain ⟨_, a1'⟩ := vtwo_cells (cells_below HX.out hb1)
      obtain ⟨_, b1'⟩ := vtwo_cells (cells_below HY.out hb1)
      clear hb1 a0 a1 b0 b1
      go_wp2_with fail
      go_ret
      exact ⟨rfl, HB1.out⟩
  · rw [decide_eq_false hlm] at HT
    rw [show sameV ⟨l, a⟩ ⟨m, b⟩ = false by simp [sameV, hlm]]
    clear hlm
    go_enter Tryz.func17, Tryz.ntmps17
    go_wp2_with fail
    refine (HT.out _ HR1.out HR2.out).mono ?_
    rintro e w1 ⟨rfl, hb1⟩
    have HB1 := Lib.hid (HB.out.trans (hb1.mono HB.out.size))
    clear hb1 a0 a1 b0 b1
    go_wp2_with fail
    go_ret
    exact ⟨rfl, HB1.out⟩
theorem far26_any (A B : Option Addr) (n c m d : Nat) (P : Plat) (v : Value) (V : Vol) (w : World) (h : PB w A n B m P) (hn : n ≤ maxLen) (hm : m ≤ maxLen) (hv : VV w v V) (hl : V.bl.length ≤ maxLen) :
    Calls Tryz.prog 8 #[.agg #[.slice A n c, .slice B m d], v] w (AnyB w) := by
  have HV0 := Lib.hid hv
  obtain ⟨A2, n2, c2, rfl, r2, k2⟩ := hv
  obtain ⟨x1, x2, kb, ksz⟩ := va_al2 w (.cells #[.slice A n c, .slice B m d] 25) (.cells #[.slice A2 n2 c2, .string V.rt] 27)
  have HBg := Lib.hid (fun W h => big13_any A B n c m d P W h hn hm)
  have HBv := Lib.hid (fun W h => big16_any (.agg #[.slice A2 n2 c2, .string V.rt]) V W h hl)
  have HP := Lib.hid (h.below kb)
  have HV := Lib.hid (HV0.out.below kb)
  have HB := Lib.hid kb
  have HX := Lib.hid x1
  have HY := Lib.hid x2
  have hnm : n ≤ 9223372036854775807 := hn
  obtain ⟨a0, a1⟩ := vtwo_cells x1
  obtain ⟨b0, b1⟩ := vtwo_cells x2
  clear r2 k2 x1 x2 kb ksz hl h hn hm
  go_enter Tryz.func8, Tryz.ntmps8
  go_wp2_with fail
  refine (HBg.out _ HP.out).mono ?_
  rintro e w1 ⟨b1', rfl, hb1⟩
  have HB1 := Lib.hid (HB.out.trans (hb1.mono HB.out.size))
  have HV1 := Lib.hid (HV.out.below hb1)
  have HX1 := Lib.hid (cells_below HX.out hb1)
  obtain ⟨y0, y1⟩ := vtwo_cells (cells_below HY.out hb1)
  obtain ⟨z0, z1⟩ := vtwo_cells HX1.out
  clear hb1 a0 a1 b0 b1
  cases b1' with
  | true =>
    go_wp2_with fail
    go_ret
    exact ⟨_, rfl, HB1.out⟩
  | false =>
    go_wp2_with fail
    refine (HBv.out _ HV1.out).mono ?_
    rintro e w2 ⟨b2', rfl, hb2⟩
    have HB2 := Lib.hid (HB1.out.trans (hb2.mono HB1.out.size))
    obtain ⟨t0, t1⟩ := vtwo_cells (cells_below HX1.out hb2)
    clear hb2 y0 y1 z0 z1
    cases b2' with
    | true =>
      go_wp2_with fail
      go_ret
      exact ⟨_, rfl, HB2.out⟩
    | false =>
      by_cases h25 : 25 < n
      · have g1 : decide ((n : Int) > 25) = true := decide_eq_true (by omega)
        go_wp2_with fail
        go_ret
        exact ⟨_, rfl, HB2.out⟩
      · have g1 : decide ((n : Int) > 25) = false := decide_eq_false (by omega)
        go_wp2_with fail
        go_ret
        exact ⟨_, rfl, HB2.out⟩

end Go.Proofs.YtingcnfhdioejaaGreatDoor
