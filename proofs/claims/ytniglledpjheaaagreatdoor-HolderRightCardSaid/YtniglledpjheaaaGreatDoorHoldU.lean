/-
  Contracts of keyholeref13.Big, keyholelaw21.far.
-/
import Derived.Test.YtniglledpjheaaaGreatDoorPw
namespace Go.Proofs.YtniglledpjheaaaGreatDoor
open Go.RowKit
set_option linter.unusedVariables false
set_option maxRecDepth 100000
set_option maxHeartbeats 1000000

theorem big_any (A B : Option Addr) (n c m d : Nat) (P : Plat) (w : World) (h : PB w A n B m P) (hc : checkB P = true) :
    Calls Tryz.prog 20 #[.agg #[.slice A n c, .slice B m d]] w fun e w' => e = .returned (.bool false) ∧ Below w.heap.size w w' := by
  have hbA := (Below.refl w.heap.size w).alloc (Nat.le_refl _) (.cells #[.slice A n c, .slice B m d] 27)
  have HP := Lib.hid (h.below hbA)
  obtain ⟨hk1, hk2, hk3, hk4, hk5⟩ := check_parts hc
  have hn : n ≤ 200 := by rw [h.hn]; exact hk2
  have hm : m ≤ 100 := by rw [h.hm]; exact hk3
  have HN := Lib.hid h.hn
  have HM := Lib.hid h.hm
  have H4 := Lib.hid hk4
  have H5 := Lib.hid hk5
  have d1 : decide ((300 : Int) < (n : Int)) = false := by simp; omega
  have d2 : decide ((200 : Int) < (m : Int)) = false := by simp; omega
  obtain ⟨a0, a1, _, _⟩ := two_cells (heap_alloc_new w (.cells #[.slice A n c, .slice B m d] 27))
  clear h hc hk1 hk2 hk3 hk4 hk5
  go_enter Tryz.func20, Tryz.ntmps20
  go_wp2_with fail
  go_loopw [3] (fun x wr => ∃ k : Nat, k ≤ n ∧ x = .int .i64 (k : Nat) ∧ wr = w.alloc (.cells #[.slice A n c, .slice B m d] 27)) (fun x _ => n - (intOf x).toNat)
  case atStart => exact ⟨0, by omega, rfl, rfl⟩
  case round =>
    obtain ⟨k, hk, rfl, rfl⟩ := hrel
    by_cases hlt : k < n
    · have hil : k < P.ss.length := by rw [← HN.out]; exact hlt
      obtain ⟨b, off, hA, c0⟩ := texts_at HP.out.rs hil
      subst hA
      have hz := H4.out _ (List.getElem_mem hil)
      generalize P.ss[k] = s at c0 hz
      have e1 : decide ((k : Int) < (n : Int)) = true := by simp; omega
      have e2 : (k : Int) < (n : Int) := by omega
      have e3 : decide ((300 : Int) < (s.size : Int)) = false := by simp; omega
      go_wp2_with fail
      go_roundw
      case rel => exact ⟨k + 1, by omega, by go_num, trivial⟩
      case measure => simp [intOf]; omega
    · obtain rfl : k = n := by omega
      have e1 : decide ((k : Int) < (k : Int)) = false := by simp
      go_wp2_with fail
      go_loopw [4] (fun x wr => ∃ j : Nat, j ≤ m ∧ x = .int .i64 (j : Nat) ∧ wr = w.alloc (.cells #[.slice A k c, .slice B m d] 27)) (fun x _ => m - (intOf x).toNat)
      case atStart => exact ⟨0, by omega, rfl, rfl⟩
      case round =>
        obtain ⟨j, hj, rfl, rfl⟩ := hrel
        by_cases hlt2 : j < m
        · have hil : j < P.cs.length := by rw [← HM.out]; exact hlt2
          obtain ⟨b, off, hB, c0, c1⟩ := puts_at HP.out.rc hil
          subst hB
          have hz := (H5.out _ (List.getElem_mem hil)).1
          generalize P.cs[j] = q at c0 c1 hz
          obtain ⟨i, s⟩ := q
          simp only at c0 c1 hz
          have e1 : decide ((j : Int) < (m : Int)) = true := by simp; omega
          have e2 : (j : Int) < (m : Int) := by omega
          have e3 : decide ((300 : Int) < (s.size : Int)) = false := by simp; omega
          go_wp2_with fail
          go_roundw
          case rel => exact ⟨j + 1, by omega, by go_num, trivial⟩
          case measure => simp [intOf]; omega
        · obtain rfl : j = m := by omega
          have e1 : decide ((j : Int) < (j : Int)) = false := by simp
          go_wp2_with fail
          go_ret
          exact ⟨rfl, hbA⟩
theorem far21_any (A B D : Option Addr) (n c m d N cd : Nat) (P : Plat) (l : List ByteArray) (w : World) (h : PB w A n B m P) (hc : checkB P = true) (hD : Rd w D (textsV l)) (hN : N = l.length) (hN9 : N ≤ 100) :
    Calls Tryz.prog 6 #[.agg #[.slice A n c, .slice B m d], .slice D N cd] w fun e w' => e = .returned (.bool (l.any (fun s => decide (200 < s.size)))) ∧ Below w.heap.size w w' := by
  have hbA := (Below.refl w.heap.size w).alloc (Nat.le_refl _) (.cells #[.slice A n c, .slice B m d] 27)
  have HP := Lib.hid (h.below hbA)
  have HD := Lib.hid (hD.below hbA)
  have HN := Lib.hid hN
  have HC := Lib.hid hc
  have HB := Lib.hid hbA
  obtain ⟨a0, a1, _, _⟩ := two_cells (heap_alloc_new w (.cells #[.slice A n c, .slice B m d] 27))
  obtain ⟨r, hr⟩ : ∃ r, r = l.any (fun s => decide (200 < s.size)) := ⟨_, rfl⟩
  have HR := Lib.hid hr
  rw [← hr]
  clear h hc hD hN hbA hr
  go_enter Tryz.func6, Tryz.ntmps6
  go_wp2_with fail
  go_loopw [5] (fun x wr => ∃ k : Nat, k ≤ N ∧ x = .int .i64 (k : Nat) ∧ (l.take k).any (fun s => decide (200 < s.size)) = false ∧ wr = w.alloc (.cells #[.slice A n c, .slice B m d] 27)) (fun x _ => N - (intOf x).toNat)
  case atStart => exact ⟨0, by omega, rfl, by simp, rfl⟩
  case round =>
    obtain ⟨k, hk, rfl, hf, rfl⟩ := hrel
    have HF := Lib.hid hf
    clear hf
    by_cases hlt : k < N
    · have hil : k < l.length := by rw [← HN.out]; exact hlt
      obtain ⟨b, off, hA, c0⟩ := texts_at HD.out hil
      subst hA
      have Hx := Lib.hid (show l.take (k + 1) = l.take k ++ [l[k]] from List.take_succ_eq_append_getElem hil)
      have Hm := Lib.hid (List.getElem_mem hil)
      generalize l[k] = s at c0 Hx Hm
      have e1 : decide ((k : Int) < (N : Int)) = true := by simp; omega
      have e2 : (k : Int) < (N : Int) := by omega
      by_cases hs : 200 < s.size
      · have e3 : decide ((200 : Int) < (s.size : Int)) = true := by simp; omega
        have Hr := Lib.hid (show r = true by rw [HR.out]; exact List.any_eq_true.2 ⟨s, Hm.out, by simpa using hs⟩)
        go_wp2_with fail
        go_ret
        rw [Hr.out]
        exact ⟨rfl, HB.out⟩
      · have e3 : decide ((200 : Int) < (s.size : Int)) = false := by simp; omega
        go_wp2_with fail
        go_roundw
        case rel => exact ⟨k + 1, by omega, by go_num, by rw [Hx.out, List.any_append, HF.out]; simp; omega, trivial⟩
        case measure => simp [intOf]; omega
    · obtain rfl : k = N := by omega
      have e1 : decide ((k : Int) < (k : Int)) = false := by simp
      have Hr := Lib.hid (show r = false by
        rw [HR.out]
        have := HF.out
        rw [List.take_of_length_le (by rw [HN.out]; exact Nat.le_refl _)] at this
        exact this)
      go_wp2_with fail
      refine (big_any A B n c m d P _ HP.out HC.out).mono ?_
      rintro e w2 ⟨rfl, hb2⟩
      go_wp2_with fail
      go_ret
      rw [Hr.out]
      exact ⟨rfl, HB.out.trans (hb2.mono HB.out.size)⟩
end Go.Proofs.YtniglledpjheaaaGreatDoor
