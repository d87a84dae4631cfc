/-
  The walk of the law EscrowEach.
-/
import Derived.Test.YtidnlginjjgmjaaDoorPapers
namespace Go.Proofs.YtidnlginjjgmjaaDoor
open Go.RowKit
set_option linter.unusedVariables false
set_option maxRecDepth 100000
set_option maxHeartbeats 1000000

theorem expT_ne (s t : List UInt8) (m i j : Nat) (hi : i < 255) (hj : j < 255) (h : j ≠ i) : ¬ expT s t m j = expT s t m i := fun e => by
  have h1 := get_pick s t m i hi
  have h2 := get_pick s t m j hj
  rw [e, h1] at h2
  injection h2 with h2
  have := congrArg Prod.fst h2
  simp only [pick] at this
  omega
theorem get_expT (s t : List UInt8) (m i : Nat) (hi : i < 255) : getShareRes (expT s t m i).data.toList = some (((i + 1 : Nat) : Int), shareL s t m i) := by
  have := getShare_putE (x := ((i + 1 : Nat) : Int)) (b := shareL s t m i) (by omega) (by omega) (shareL_len _ _ _ _)
  simp only [Int.toNat_natCast] at this
  exact this
theorem read_exp (s t : List UInt8) (n m : Nat) (hn : n ≤ 255) : (readL (getAll ((List.range n).map (expT s t m)))).length = n := by
  rw [getAll_exp s t m _ (fun i hi => by have := List.mem_range.1 hi; omega), readL_nodup _ (pick_nodup s t m _ List.nodup_range)]
  simp

theorem escrowEach_yes (a0 a3 : ByteArray) (N m : Nat) (w : World) (hT : ArmTabs w) (h0 : a0.size = 32) (h3 : a3.size = 32 * m) (hN : N ≤ 20) (hm : m + 1 ≤ N) (h600 : a3.size ≤ 600) :
    Calls Tryd.prog 5 #[.string a0, .int .i64 (N : Int), .int .i64 ((m + 1 : Nat) : Int), .string a3] w fun e w' => e = .returned (.bool true) ∧ Below w.heap.size w w' := by
  have HT := Lib.hid hT
  have H0 := Lib.hid h0
  have H3 := Lib.hid h3
  obtain ⟨k, hk⟩ : ∃ k, k = m + 1 := ⟨_, rfl⟩
  rw [← hk]
  have Hk := Lib.hid hk
  have d1 : decide ((100 : Int) < (a0.size : Int)) = false := by simp; omega
  have d2 : decide ((600 : Int) < (a3.size : Int)) = false := by simp; omega
  have d3 : decide ((20 : Int) < (N : Int)) = false := by simp; omega
  have HE := Lib.hid (exportL_eq a0.data.toList a3.data.toList N m (by omega))
  have HEl := Lib.hid (exportL_len a0.data.toList a3.data.toList N m (by omega))
  have Hne := Lib.hid (fun i j hi hj => expT_ne a0.data.toList a3.data.toList m i j hi hj)
  have Hge := Lib.hid (fun i hi => get_expT a0.data.toList a3.data.toList m i hi)
  have Hre := Lib.hid (read_exp a0.data.toList a3.data.toList N m (by omega))
  have Hsz := Lib.hid (fun i => expT_size a0.data.toList a3.data.toList m i)
  have Hsl := Lib.hid (fun i => shareL_len a0.data.toList a3.data.toList m i)
  clear hT h0 h3 hk
  go_enter Tryd.func5, Tryd.ntmps5
  go_wp2_with fail
  refine Calls.mono (Hk.out ▸ export_yes a0 a3 N m w HT.out.rounds H0.out H3.out (by omega) hm) ?_
  rintro e w1 ⟨B, cap, rfl, ho1, hb1⟩
  rw [HEl.out] at ho1 ⊢
  rw [HE.out] at ho1
  have Hrd := Lib.hid (own_rd ho1)
  have HT1 := Lib.hid (HT.out.below hb1)
  have HB1 := Lib.hid hb1
  clear ho1 HE HEl d1 d2 d3 hb1
  obtain ⟨f, hf⟩ : ∃ f, f = expT a0.data.toList a3.data.toList m := ⟨_, rfl⟩
  rw [← hf] at Hrd Hre
  have Hf := Lib.hid hf
  have Hne2 : Hid (∀ i j, i < 255 → j < 255 → j ≠ i → ¬ f j = f i) := Lib.hid (by rw [hf]; exact Hne.out)
  have Hge2 : Hid (∀ i, i < 255 → getShareRes (f i).data.toList = some (((i + 1 : Nat) : Int), shareL a0.data.toList a3.data.toList m i)) := Lib.hid (by rw [hf]; exact Hge.out)
  have Hsz2 : Hid (∀ i, (f i).size ≤ 1000000) := Lib.hid (by rw [hf]; exact Hsz.out)
  clear hf Hne Hge Hsz
  go_wp2_with fail
  go_loopw [11] (fun x wr => ∃ i : Nat, i ≤ N ∧ x = .int .i64 (i : Nat) ∧ Below w1.heap.size w1 wr) (fun x _ => N - (intOf x).toNat)
  case atStart => exact ⟨0, by omega, rfl, Below.refl _ _⟩
  case round =>
    obtain ⟨i, hi, rfl, hW⟩ := hrel
    by_cases hlt : i < N
    · obtain ⟨b, off, hB, hc⟩ := (Hrd.out.below hW) i (.string (f i)) (by simp [textsV, hlt])
      subst hB
      have hiI : (i : Int) < (N : Int) := by omega
      have HW := Lib.hid hW
      have Hgi := Lib.hid (Hge2.out i (by omega))
      have Hszi := Lib.hid (Hsz2.out i)
      clear hW
      obtain ⟨fi, hfi⟩ : ∃ fi, fi = f i := ⟨_, rfl⟩
      rw [← hfi] at hc Hgi Hszi
      have Hfi := Lib.hid hfi
      clear hfi
      go_wp2_with fail
      refine (getShare_any fi _ (HT1.out.below HW.out) Hszi.out).mono ?_
      rintro e w2 ⟨rfl, hb2⟩
      rw [Hgi.out]
      simp only [shareOr, shareV]
      have Hbz := Lib.hid (show (bs (shareL a0.data.toList a3.data.toList m i)).size = 32 by rw [bs_size]; exact Hsl.out i)
      generalize bs (shareL a0.data.toList a3.data.toList m i) = bb at Hbz ⊢
      rw [show ((i + 1 : Nat) : Int) = (i : Int) + 1 by omega]
      have e1 : ((i : Int) + 1 != (i : Int) + 1) = false := by simp
      have e2 : ((bb.size : Int) != 32) = false := by rw [Hbz.out]; rfl
      have HW2 := Lib.hid ((Below.chain HW.out hb2).alloc (Below.chain HW.out hb2).size (.cells #[.int .i64 ((i : Int) + 1), .string bb] 31))
      clear hb2 hc
      go_wp2_with fail
      go_loopw [14] (fun x wj => ∃ j : Nat, j ≤ i ∧ x = .int .i64 (j : Nat) ∧ Below w1.heap.size w1 wj) (fun x _ => i - (intOf x).toNat)
      case atStart => exact ⟨0, by omega, rfl, HW2.out⟩
      case round =>
        obtain ⟨j, hj, rfl, hWj⟩ := hrel
        by_cases hlt2 : j < i
        · obtain ⟨b1, off1, hB1, c1⟩ := (Hrd.out.below hWj) i (.string (f i)) (by simp [textsV, hlt])
          obtain ⟨b2, off2, hB2, c2⟩ := (Hrd.out.below hWj) j (.string (f j)) (by simp [textsV, show j < N by omega])
          injection hB1 with hB1
          injection hB1 with q1 q2
          subst q1 q2
          injection hB2 with hB2
          injection hB2 with q1 q2
          subst q1 q2
          have hne := text_ne' (Hne2.out i j (by omega) (by omega) (by omega))
          have hjI : (j : Int) < (N : Int) := by omega
          generalize f i = x1 at c1 hne
          generalize f j = x2 at c2 hne
          have C1 := Lib.hid c1
          have C2 := Lib.hid c2
          clear c1 c2
          go_wp2_with fail
          have c1 := C1.out
          have c2 := C2.out
          go_quiet (fail)
          rename_i nq
          have HB := below_drewN hWj nq
          generalize wr.drewN nq = wq at HB ⊢
          go_wp2_with fail
          go_roundw
          case rel => exact ⟨j + 1, by omega, by go_num, HB⟩
          case measure => simp [intOf]; omega
        · obtain rfl : j = i := by omega
          go_wp2_with fail
          go_roundw
          case rel => exact ⟨j + 1, by omega, by go_num, hWj⟩
          case measure => simp [intOf]; omega
    · obtain rfl : i = N := by omega
      have HB := Lib.hid (Below.chain HB1.out hW)
      go_wp2_with fail
      refine (papers_any _ (HT.out.below HB.out)).mono ?_
      rintro e w3 ⟨rfl, hb3⟩
      have HB3 := Lib.hid (Below.chain HB.out hb3)
      have Hrd3 := Lib.hid ((Hrd.out.below hW).below hb3)
      go_wp2_with fail
      refine (read_any ((List.range i).map f) _ i cap _ Hrd3.out (by simp) (by simp; omega) (HT.out.below HB3.out) (fun p hp => by obtain ⟨q, _, rfl⟩ := List.mem_map.1 hp; exact Hsz2.out q)).mono ?_
      rintro e w4 ⟨B4, cap4, rfl, _, hb4⟩
      rw [Hre.out]
      have HB4 := Lib.hid (Below.chain HB3.out hb4)
      go_wp2_with fail
      go_ret
      exact ⟨by simp, HB4.out⟩

theorem escrowEach_law (a0 : ByteArray) (w0 : a0.size ≤ maxLen) (a1 a2 : Int) (a3 : ByteArray) (w3 : a3.size ≤ maxLen) (w : World) (hT : ArmTabs w) :
    Calls Tryd.prog 5 #[.string a0, .int .i64 a1, .int .i64 a2, .string a3] w fun e w' => e = .returned (.bool true) ∧ Below w.heap.size w w' := by
  clear w0 w3
  by_cases h100 : 100 < a0.size
  · have d1 : decide ((100 : Int) < (a0.size : Int)) = true := by simp; omega
    clear hT h100
    go_enter Tryd.func5, Tryd.ntmps5
    go_wp2_with fail
    go_ret
    exact ⟨rfl, Below.refl _ _⟩
  have d1 : decide ((100 : Int) < (a0.size : Int)) = false := by simp; omega
  by_cases h600 : 600 < a3.size
  · have d2 : decide ((600 : Int) < (a3.size : Int)) = true := by simp; omega
    clear hT h100 h600
    go_enter Tryd.func5, Tryd.ntmps5
    go_wp2_with fail
    go_ret
    exact ⟨rfl, Below.refl _ _⟩
  have d2 : decide ((600 : Int) < (a3.size : Int)) = false := by simp; omega
  by_cases h20 : 20 < a1 ∧ a1 ≤ 255
  · have d3 : decide (20 < a1) = true := by simp; omega
    have d4 : decide (a1 ≤ 255) = true := by simp; omega
    clear hT h100 h600 h20
    go_enter Tryd.func5, Tryd.ntmps5
    go_wp2_with fail
    go_ret
    exact ⟨rfl, Below.refl _ _⟩
  by_cases hs : splitOK a0 a3 a1 a2 = true
  · obtain ⟨N, m, rfl, rfl, q1, q2, q3, q4⟩ := split_is a0 a3 a1 a2 hs
    exact escrowEach_yes a0 a3 N m w hT q1 q2 (by omega) q4 (by omega)
  · have Hs := Lib.hid (show splitOK a0 a3 a1 a2 = false by simpa using hs)
    have HT := Lib.hid hT
    clear hs hT h100 h600
    by_cases h1 : 20 < a1
    · have d3 : decide (20 < a1) = true := by simp; omega
      have d4 : decide (a1 ≤ 255) = false := by simp; omega
      clear h20
      go_enter Tryd.func5, Tryd.ntmps5
      go_wp2_with fail
      refine (export_no a0 a3 a1 a2 _ Hs.out).mono ?_
      rintro e w1 ⟨rfl, hb1⟩
      go_wp2_with fail
      refine (papers_any _ (HT.out.below hb1)).mono ?_
      rintro e w2 ⟨rfl, hb2⟩
      have hb := Below.chain hb1 hb2
      go_wp2_with fail
      go_ret
      exact ⟨by simp, hb⟩
    · have d3 : decide (20 < a1) = false := by simp; omega
      clear h20
      go_enter Tryd.func5, Tryd.ntmps5
      go_wp2_with fail
      refine (export_no a0 a3 a1 a2 _ Hs.out).mono ?_
      rintro e w1 ⟨rfl, hb1⟩
      go_wp2_with fail
      refine (papers_any _ (HT.out.below hb1)).mono ?_
      rintro e w2 ⟨rfl, hb2⟩
      have hb := Below.chain hb1 hb2
      go_wp2_with fail
      go_ret
      exact ⟨by simp, hb⟩
end Go.Proofs.YtidnlginjjgmjaaDoor
