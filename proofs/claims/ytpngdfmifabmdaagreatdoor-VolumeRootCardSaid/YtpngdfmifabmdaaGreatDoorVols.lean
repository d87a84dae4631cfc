/-
  Contract of the law's volumes: the document's rows.
-/
import Derived.Test.YtpngdfmifabmdaaGreatDoorVoL
namespace Go.Proofs.YtpngdfmifabmdaaGreatDoor
open Go.RowKit
set_option linter.unusedVariables false
set_option linter.unusedSimpArgs false
set_option maxRecDepth 100000
set_option maxHeartbeats 4000000

theorem volumes_any (w : World) (hR : Rounds w) (hT : Turns w) :
    Calls Tryz.prog 6 #[] w fun e w' => e = .returned (.bool true) ∧ Below w.heap.size w w' := by
  have HR := Lib.hid hR
  have HT := Lib.hid hT
  have zk : keyV.size ≤ maxLen := by rw [show keyV.size = 32 from vrep_size 32 1]; decide
  have zn : nonV.size ≤ maxLen := by rw [show nonV.size = 12 from vrep_size 12 2]; decide
  have M1 := Lib.hid (fun W => show Calls Tryz.prog 13 #[.int .u8 1, .int .i64 32] W fun e w' => e = .returned (.string keyV) ∧ Below W.heap.size W w' from many_any 1 32 W (by omega))
  have M2 := Lib.hid (fun W => show Calls Tryz.prog 13 #[.int .u8 2, .int .i64 12] W fun e w' => e = .returned (.string nonV) ∧ Below W.heap.size W w' from many_any 2 12 W (by omega))
  have HF := Lib.hid (fun W h => show Calls Tryz.prog 14 #[.int .i64 2] W (VolE W (rooted bl0) 0) from format_any 2 W h)
  have R01 := Lib.hid (fun v W (h : VV W v (rooted bl0)) h1 h2 => show Calls Tryz.prog 5 #[v, .string keyV, .int .i64 1] W fun e w' => e = .returned (.tuple #[.string ⟨#[]⟩, .int .i64 0]) ∧ Below W.heap.size W w' from by
    have h3 := read_any v (rooted bl0) keyV 1 W h zk h1 h2
    rw [read01.1, read01.2] at h3
    exact h3)
  have WR := Lib.hid (fun v W (h : VV W v (rooted bl0)) h1 h2 => show Calls Tryz.prog 15 #[v, .string keyV, .string nonV, .int .i64 1, .string ⟨#[97, 98, 99]⟩] W (VolE W (rooted bl1) 0) from by
    have h3 := write_any v (rooted bl0) keyV nonV 1 abcT W h zk zn (by decide) h1 h2
    rw [write0.1, write0.2.1] at h3
    exact h3)
  have R11 := Lib.hid (fun v W (h : VV W v (rooted bl1)) h1 h2 => show Calls Tryz.prog 5 #[v, .string keyV, .int .i64 1] W fun e w' => e = .returned (.tuple #[.string ⟨#[97, 98, 99]⟩, .int .i64 0]) ∧ Below W.heap.size W w' from by
    have h3 := read_any v (rooted bl1) keyV 1 W h zk h1 h2
    rw [read11.1, read11.2] at h3
    exact h3)
  have R10 := Lib.hid (fun v W (h : VV W v (rooted bl1)) h1 h2 => show Calls Tryz.prog 5 #[v, .string keyV, .int .i64 0] W fun e w' => e = .returned (.tuple #[.string ⟨#[]⟩, .int .i64 0]) ∧ Below W.heap.size W w' from by
    have h3 := read_any v (rooted bl1) keyV 0 W h zk h1 h2
    rw [read10.1, read10.2] at h3
    exact h3)
  have R12 := Lib.hid (fun v W (h : VV W v (rooted bl1)) h1 h2 => show Calls Tryz.prog 5 #[v, .string keyV, .int .i64 2] W fun e w' => e = .returned (.tuple #[.string (readS (rooted bl1) keyV 2), .int .i64 1]) ∧ Below W.heap.size W w' from by
    have h3 := read_any v (rooted bl1) keyV 2 W h zk h1 h2
    rw [read12] at h3
    exact h3)
  have RX := Lib.hid (fun v W (h : VV W v volX) h1 h2 => show Calls Tryz.prog 5 #[v, .string keyV, .int .i64 1] W fun e w' => e = .returned (.tuple #[.string (readS volX keyV 1), .int .i64 161]) ∧ Below W.heap.size W w' from by
    have h3 := read_any v volX keyV 1 W h zk h1 h2
    rw [readX] at h3
    exact h3)
  have CK := Lib.hid (fun v W (h : VV W v (rooted bl0)) => show Calls Tryz.prog 16 #[v] W fun e w' => e = .returned (.bool true) ∧ Below W.heap.size W w' from by
    have h3 := vcheck_any v (rooted bl0) W h
    rw [check0V] at h3
    exact h3)
  generalize readS (rooted bl1) keyV 2 = s12 at R12
  generalize readS volX keyV 1 = sX at RX
  clear hR hT zk zn
  go_enter Tryz.func6, Tryz.ntmps6
  go_wp2_with fail
  refine (M1.out _).mono ?_
  rintro e w1 ⟨rfl, hb1⟩
  go_wp2_with fail
  refine (M2.out _).mono ?_
  rintro e w2 ⟨rfl, hb2⟩
  have B2 := Lib.hid (Below.chain hb1 hb2)
  clear hb1 hb2
  go_wp2_with fail
  refine (HF.out _ (HR.out.below B2.out)).mono ?_
  rintro e w3 ⟨v, rfl, ⟨A, n, c, rfl, hr, hn⟩, hb3⟩
  have B3 := Lib.hid (B2.out.trans (hb3.mono B2.out.size))
  obtain ⟨R0, hR0⟩ : ∃ R0, R0 = (rooted bl0).rt := ⟨_, rfl⟩
  rw [← hR0]
  have HV3 := Lib.hid (show VV w3 (.agg #[.slice A n c, .string R0]) (rooted bl0) from ⟨A, n, c, by rw [hR0], hr.1, hn⟩)
  have HR0 := Lib.hid hR0
  have G3 := Lib.hid ((Below.refl w3.heap.size w3).alloc (Nat.le_refl _) (.cells #[.slice A n c, .string R0] 24))
  have HX := Lib.hid (heap_alloc_new w3 (.cells #[.slice A n c, .string R0] 24))
  clear hr hn hb3 hR0 B2
  have x0 := rf_at HX.out 0 _ rfl
  have x1 := rf_at HX.out 1 _ rfl
  go_wp2_with fail
  refine (R01.out _ _ (HV3.out.below G3.out) (HR.out.below (B3.out.trans (G3.out.mono B3.out.size))) (HT.out.below (B3.out.trans (G3.out.mono B3.out.size)))).mono ?_
  rintro e w4 ⟨rfl, hb4⟩
  clear x0 x1
  replace HX := Lib.hid (cells_below HX.out hb4)
  replace G3 := Lib.hid (G3.out.trans (hb4.mono G3.out.size))
  clear hb4
  have x0 := rf_at HX.out 0 _ rfl
  have x1 := rf_at HX.out 1 _ rfl
  go_wp2_with fail
  refine (WR.out _ _ (HV3.out.below G3.out) (HR.out.below (B3.out.trans (G3.out.mono B3.out.size))) (HT.out.below (B3.out.trans (G3.out.mono B3.out.size)))).mono ?_
  rintro e w5 ⟨v7, rfl, ⟨A7, n7, c7, rfl, hr7, hn7⟩, hb5⟩
  clear x0 x1
  replace HX := Lib.hid (cells_below HX.out hb5)
  replace G3 := Lib.hid (G3.out.trans (hb5.mono G3.out.size))
  obtain ⟨R1, hR1⟩ : ∃ R1, R1 = (rooted bl1).rt := ⟨_, rfl⟩
  rw [← hR1]
  have HV5 := Lib.hid (show VV w5 (.agg #[.slice A7 n7 c7, .string R1]) (rooted bl1) from ⟨A7, n7, c7, by rw [hR1], hr7.1, hn7⟩)
  have HVX := Lib.hid (show VV w5 (.agg #[.slice A7 n7 c7, .string R0]) volX from ⟨A7, n7, c7, by rw [HR0.out]; rfl, hr7.1, hn7⟩)
  have al5 := (Below.refl w5.heap.size w5).alloc (Nat.le_refl _) (.cells #[.slice A7 n7 c7, .string R1] 24)
  have HY := Lib.hid (heap_alloc_new w5 (.cells #[.slice A7 n7 c7, .string R1] 24))
  have G7 := Lib.hid al5
  have hne := Lib.hid (Nat.ne_of_lt (cell_lt_of HX.out))
  replace HX := Lib.hid (cells_below HX.out al5)
  replace G3 := Lib.hid (G3.out.trans (al5.mono G3.out.size))
  have hle5 := Lib.hid (show w3.heap.size ≤ w5.heap.size by have := cell_lt_of HX.out; have h2 := hne.out; have h3 := G3.out.size; simp at this h3; omega)
  clear hr7 hn7 hb5 al5 hR1
  have y0 := rf_at HY.out 0 _ rfl
  have y1 := rf_at HY.out 1 _ rfl
  go_wp2_with fail
  refine (R11.out _ _ (HV5.out.below G7.out) (HR.out.below (B3.out.trans (G3.out.mono B3.out.size))) (HT.out.below (B3.out.trans (G3.out.mono B3.out.size)))).mono ?_
  rintro e w6 ⟨rfl, hb6⟩
  clear y0 y1
  replace HX := Lib.hid (cells_below HX.out hb6)
  replace G3 := Lib.hid (G3.out.trans (hb6.mono G3.out.size))
  replace HY := Lib.hid (cells_below HY.out hb6)
  replace G7 := Lib.hid (G7.out.trans (hb6.mono G7.out.size))
  clear hb6
  have y0 := rf_at HY.out 0 _ rfl
  have y1 := rf_at HY.out 1 _ rfl
  go_wp2_with fail
  refine (R10.out _ _ (HV5.out.below G7.out) (HR.out.below (B3.out.trans (G3.out.mono B3.out.size))) (HT.out.below (B3.out.trans (G3.out.mono B3.out.size)))).mono ?_
  rintro e w7 ⟨rfl, hb7⟩
  clear y0 y1
  replace HX := Lib.hid (cells_below HX.out hb7)
  replace G3 := Lib.hid (G3.out.trans (hb7.mono G3.out.size))
  replace HY := Lib.hid (cells_below HY.out hb7)
  replace G7 := Lib.hid (G7.out.trans (hb7.mono G7.out.size))
  clear hb7
  have y0 := rf_at HY.out 0 _ rfl
  have y1 := rf_at HY.out 1 _ rfl
  go_wp2_with fail
  refine (R12.out _ _ (HV5.out.below G7.out) (HR.out.below (B3.out.trans (G3.out.mono B3.out.size))) (HT.out.below (B3.out.trans (G3.out.mono B3.out.size)))).mono ?_
  rintro e w8 ⟨rfl, hb8⟩
  clear y0 y1
  replace HX := Lib.hid (cells_below HX.out hb8)
  replace G3 := Lib.hid (G3.out.trans (hb8.mono G3.out.size))
  replace HY := Lib.hid (cells_below HY.out hb8)
  replace G7 := Lib.hid (G7.out.trans (hb8.mono G7.out.size))
  clear hb8
  have x0 := rf_at HX.out 0 _ rfl
  have x1 := rf_at HX.out 1 _ rfl
  have y0 := rf_at HY.out 0 _ rfl
  have y1 := rf_at HY.out 1 _ rfl
  have f1 := rf_fr HY.out 1
  have hset := blk_set HY.out 1 (.string R0)
  simp only [List.setIfInBounds_toArray, List.set_cons_zero, List.set_cons_succ] at hset
  have HY9 := Lib.hid hset
  have z0 := rf_at hset 0 _ rfl
  have z1 := rf_at hset 1 _ rfl
  have HX9 := Lib.hid ((Below.heap_setCell w8 ⟨w5.heap.size, 1, none⟩ (.string R0) w3.heap.size hne.out).trans HX.out)
  have G39 := Lib.hid (G3.out.setCell (p := ⟨w5.heap.size, 1, none⟩) hle5.out (.string R0))
  have G79 := Lib.hid (G7.out.setCell (p := ⟨w5.heap.size, 1, none⟩) (Nat.le_refl _) (.string R0))
  clear hset
  go_wp2_with fail
  refine (RX.out _ _ (HVX.out.below G79.out) (HR.out.below (B3.out.trans (G39.out.mono B3.out.size))) (HT.out.below (B3.out.trans (G39.out.mono B3.out.size)))).mono ?_
  rintro e w10 ⟨rfl, hb10⟩
  clear x0 x1 y0 y1 z0 z1 f1
  have HX10 := Lib.hid (cells_below HX9.out hb10)
  have G310 := Lib.hid (G39.out.trans (hb10.mono G39.out.size))
  clear hb10
  have x0 := rf_at HX10.out 0 _ rfl
  have x1 := rf_at HX10.out 1 _ rfl
  go_wp2_with fail
  refine (CK.out _ _ (HV3.out.below G310.out)).mono ?_
  rintro e w11 ⟨rfl, hb11⟩
  go_wp2_with fail
  go_ret
  exact ⟨rfl, B3.out.trans ((G310.out.trans (hb11.mono G310.out.size)).mono B3.out.size)⟩
end Go.Proofs.YtpngdfmifabmdaaGreatDoor
