/-
  Contract of keyholeref21.Now, of a holder that has a share.
-/
import Derived.Test.YtniglledpjheaaaGreatDoorHr
import Derived.Test.YtniglledpjheaaaGreatDoorRa
namespace Go.Proofs.YtniglledpjheaaaGreatDoor
open Go.RowKit
set_option linter.unusedVariables false
set_option maxRecDepth 100000
set_option maxHeartbeats 2000000
set_option linter.unusedSimpArgs false

theorem ch_a {w w' : World} (h : Below w.drew.heap.size w.drew w') : Below w.heap.size w w' := Below.chain ((Below.refl _ w).drew) h
theorem ch_b {w w' : World} {o : Obj} (h : Below (w.alloc o).drew.heap.size (w.alloc o).drew w') : Below w.heap.size w w' := Below.chain (((Below.refl _ w).alloc (Nat.le_refl _) o).drew) h
theorem ch_c {w w' : World} {a b : Value} {t : TypeId} (h : Below (w.alloc (.cells #[a, b] t)).drew.heap.size (w.alloc (.cells #[a, b] t)).drew w') : w'.heap[w.heap.size]? = some (.cells #[a, b] t (0, 0)) := cells_below (W := (w.alloc (.cells #[a, b] t)).drew) (heap_alloc_new w _) h

theorem kp2_below {W w' : World} {p q : Addr} {u v : Value} (h : W.cell? p = some u ∧ W.cell? q = some v) (hb : Below W.heap.size W w') : w'.cell? p = some u ∧ w'.cell? q = some v := keep2_below h hb
theorem kp4_below {W w' : World} {p q r s : Addr} {u v x y : Value} (h : (W.cell? p = some u ∧ W.cell? q = some v) ∧ (W.cell? r = some x ∧ W.cell? s = some y)) (hb : Below W.heap.size W w') : (w'.cell? p = some u ∧ w'.cell? q = some v) ∧ (w'.cell? r = some x ∧ w'.cell? s = some y) := ⟨keep2_below h.1 hb, keep2_below h.2 hb⟩
theorem kp4_alloc {W : World} {o : Obj} {p q r s : Addr} {u v x y : Value} (h : (W.cell? p = some u ∧ W.cell? q = some v) ∧ (W.cell? r = some x ∧ W.cell? s = some y)) : ((W.alloc o).cell? p = some u ∧ (W.alloc o).cell? q = some v) ∧ ((W.alloc o).cell? r = some x ∧ (W.alloc o).cell? s = some y) := ⟨keep2_alloc h.1, keep2_alloc h.2⟩
theorem kp4_drew {W : World} {p q r s : Addr} {u v x y : Value} (h : (W.cell? p = some u ∧ W.cell? q = some v) ∧ (W.cell? r = some x ∧ W.cell? s = some y)) : (W.drew.cell? p = some u ∧ W.drew.cell? q = some v) ∧ (W.drew.cell? r = some x ∧ W.drew.cell? s = some y) := h
theorem four21 (n : Int) (w : World) (h : wordB n = true) : Calls Tryz.prog 33 #[.int .i64 n] w fun e w' => e = .returned (.string (bs (fourL n))) ∧ Below w.heap.size w w' := by
  have h' := h
  simp only [wordB, Bool.and_eq_true, decide_eq_true_eq] at h'
  obtain ⟨x, rfl⟩ := Int.eq_ofNat_of_zero_le h'.1
  rw [fourL, if_pos h, joinL_one]
  have HT := Lib.hid (fun W => told1 x true W (by omega))
  clear h h'
  go_enter Tryz.func33, Tryz.ntmps33
  go_wp2_with fail
  refine (HT.out _).mono ?_
  rintro e w1 ⟨rfl, hb1⟩
  go_wp2_with fail
  go_ret
  exact ⟨rfl, hb1⟩
theorem conv2 {W : World} {g : Nat} {x y : UInt8} {t : TypeId} (h : W.heap[g]? = some (.cells #[.int .u8 (x.toNat : Int), .int .u8 (y.toNat : Int)] t (0, 0))) : (convert 70 9 (.slice (some ⟨g, 0, none⟩) 2 2)).run Tryz.prog W = .ok (.string (bs [x, y])) W :=
  conv_rd (l := [x, y]) (fun i u hu => ⟨g, 0, rfl, by
    rw [Nat.zero_add, cell_of_row W g i _ _ _ h]
    simpa [bytesV] using hu⟩) 2 2 rfl
theorem now21_parts (F TX S L C : ByteArray) : bs (F.data.toList ++ TX.data.toList ++ S.data.toList ++ L.data.toList ++ C.data.toList) = F ++ TX ++ S ++ L ++ C := by
  simp only [← bs_cat, bs_of]
theorem now21_any (h0 h1 h2 : Int) (h3 h4 h5 : ByteArray) (h6 h7 : Int) (h8 h9 : ByteArray) (w : World) (hw : wordB h0 = true) (hx : h2 ≠ 0) (hb : h3.size ≤ 100000) (hs : h4.size ≤ 100000) (hc : h5.size ≤ 100000) :
    Calls Tryz.prog 14 #[.agg #[.int .i64 h0, .int .i64 h1, .int .i64 h2, .string h3, .string h4, .string h5, .int .i64 h6, .int .i64 h7, .string h8, .string h9]] w fun e w' => e = .returned (.string (nowB ⟨h0, h1, h2, h3, h4, h5, h6, h7, h8, h9⟩)) ∧ Below w.heap.size w w' := by
  obtain ⟨F, hF⟩ : ∃ F, F = bs (fourL h0) := ⟨_, rfl⟩
  obtain ⟨T, hT⟩ : ∃ T, T = bs [u8 h1, u8 h2] := ⟨_, rfl⟩
  have hFs : F.size ≤ 4 := by rw [hF, bs_size, fourL, if_pos hw, joinL_length]; simp
  have hTs : T.size = 2 := by rw [hT]; rfl
  have HN := Lib.hid (show nowB ⟨h0, h1, h2, h3, h4, h5, h6, h7, h8, h9⟩ = F ++ T ++ h3 ++ h4 ++ h5 by
    rw [← now21_parts, nowB, hF, hT]
    simp only [hx, if_false]
    simp [bs])
  have HF4 := Lib.hid (show ∀ W, Calls Tryz.prog 33 #[.int .i64 h0] W fun e w' => e = .returned (.string F) ∧ Below W.heap.size W w' from fun W => by rw [hF]; exact four21 h0 W hw)
  have hwr1 := hu8_wrap h1
  have hwr2 := hu8_wrap h2
  obtain ⟨x1, hx1⟩ : ∃ x, x = u8 h1 := ⟨_, rfl⟩
  obtain ⟨x2, hx2⟩ : ∃ x, x = u8 h2 := ⟨_, rfl⟩
  rw [← hx1] at hwr1 hT
  rw [← hx2] at hwr2 hT
  have HT := Lib.hid hT
  have al := (Below.refl w.heap.size w).alloc (Nat.le_refl _) (.cells #[.int .i64 h0, .int .i64 h1, .int .i64 h2, .string h3, .string h4, .string h5, .int .i64 h6, .int .i64 h7, .string h8, .string h9] 39)
  have H0 := Lib.hid (heap_alloc_new w (.cells #[.int .i64 h0, .int .i64 h1, .int .i64 h2, .string h3, .string h4, .string h5, .int .i64 h6, .int .i64 h7, .string h8, .string h9] 39))
  have HB := Lib.hid al
  have d1 : (h2 == 0) = false := by simpa using hx
  have s1 : ¬ 9223372036854775807 < F.size + T.size := by omega
  have s2 : ¬ 9223372036854775807 < F.size + T.size + h3.size := by omega
  have s3 : ¬ 9223372036854775807 < F.size + T.size + h3.size + h4.size := by omega
  have s4 : ¬ 9223372036854775807 < F.size + T.size + h3.size + h4.size + h5.size := by omega
  clear hF hT hx1 hx2 al hx hw hTs hFs
  obtain ⟨w1, hw1⟩ : ∃ w1, w1 = w.alloc (.cells #[.int .i64 h0, .int .i64 h1, .int .i64 h2, .string h3, .string h4, .string h5, .int .i64 h6, .int .i64 h7, .string h8, .string h9] 39) := ⟨_, rfl⟩
  have Hw1 := Lib.hid hw1
  rw [← hw1] at H0 HB
  go_enter Tryz.func14, Tryz.ntmps14
  obtain ⟨⟨e0, e1, e2, e3, e4, e5, _⟩, ef⟩ := ten_cells (hw1 ▸ H0.out)
  clear hw1
  go_upto_region 6 with fail
  rw [← Hw1.out]
  clear e0 e1 e2 e3 e4 e5 ef Hw1
  have hlt := cell_lt_of H0.out
  obtain ⟨⟨e0, e1, e2, e3, e4, e5, _⟩, ef⟩ := ten_cells H0.out
  have hA := heap_alloc_new w1 (.cells #[.int .u8 (x1.toNat : Int), .int .u8 (x2.toNat : Int)] 5)
  have cv1 := conv2 (W := (w1.alloc (.cells #[.int .u8 (x1.toNat : Int), .int .u8 (x2.toNat : Int)] 5)).drew) hA
  rw [← HT.out] at cv1
  have cv3 := conv2 (W := w1.drew.alloc (.cells #[.int .u8 (x1.toNat : Int), .int .u8 (x2.toNat : Int)] 5)) hA
  rw [← HT.out] at cv3
  have cv4 := conv2 (W := w1.alloc (.cells #[.int .u8 (x1.toNat : Int), .int .u8 (x2.toNat : Int)] 5)) hA
  rw [← HT.out] at cv4
  clear hA ef
  have q0 : (w1.cell? ⟨w.heap.size, 0, none⟩ = some (.int .i64 h0) ∧ w1.cell? ⟨w.heap.size, 1, none⟩ = some (.int .i64 h1)) ∧ (w1.cell? ⟨w.heap.size, 2, none⟩ = some (.int .i64 h2) ∧ w1.cell? ⟨w.heap.size, 5, none⟩ = some (.string h5)) := ⟨⟨e0, e1⟩, ⟨e2, e5⟩⟩
  clear e0 e1 e2 e3 e4 e5
  refine wp_region_held_drew (S := fun w' => (w'.cell? ⟨w.heap.size, 0, none⟩ = some (.int .i64 h0) ∧ w'.cell? ⟨w.heap.size, 1, none⟩ = some (.int .i64 h1)) ∧ (w'.cell? ⟨w.heap.size, 2, none⟩ = some (.int .i64 h2) ∧ w'.cell? ⟨w.heap.size, 5, none⟩ = some (.string h5))) (by kernel_rfl) (by exact kp4_drew q0) (fun hHeld => ?_)
  refine wpAnyH_take (i := 0) (oi := _) (v := ?_) rfl (by kernel_rfl) (by kernel_rfl) (by kernel_rfl) (fun _ _ _ h => h) (Or.inl ⟨by rfl, ?_⟩) hHeld ?_
  rotate_left
  · (intro w9 hS9; (try dsimp only at hS9); obtain ⟨⟨q0, q1⟩, ⟨q2, q5⟩⟩ := hS9; go_simp; try with_reducible rfl)
  try simp only [Act.put, List.setIfInBounds_toArray, List.set_cons_zero, List.set_cons_succ]
  refine wpAnyH_take (i := 1) (oi := _) (v := ?_) rfl (by kernel_rfl) (by kernel_rfl) (by kernel_rfl) (fun _ _ _ h => h) (Or.inl ⟨by rfl, ?_⟩) hHeld ?_
  rotate_left
  · (intro w9 hS9; (try dsimp only at hS9); obtain ⟨⟨q0, q1⟩, ⟨q2, q5⟩⟩ := hS9; go_simp; try with_reducible rfl)
  try simp only [Act.put, List.setIfInBounds_toArray, List.set_cons_zero, List.set_cons_succ]
  refine wpAnyH_take (i := 3) (oi := _) (v := ?_) rfl (by kernel_rfl) (by kernel_rfl) (by kernel_rfl) (fun _ _ _ h => h) (Or.inl ⟨by rfl, ?_⟩) hHeld ?_
  rotate_left
  · (intro w9 hS9; (try dsimp only at hS9); obtain ⟨⟨q0, q1⟩, ⟨q2, q5⟩⟩ := hS9; go_simp; try with_reducible rfl)
  try simp only [Act.put, List.setIfInBounds_toArray, List.set_cons_zero, List.set_cons_succ]
  refine wpAnyH_take (i := 4) (oi := _) (v := ?_) rfl (by kernel_rfl) (by kernel_rfl) (by kernel_rfl) (fun _ _ _ h => h) (Or.inl ⟨by rfl, ?_⟩) hHeld ?_
  rotate_left
  · (intro w9 hS9; (try dsimp only at hS9); obtain ⟨⟨q0, q1⟩, ⟨q2, q5⟩⟩ := hS9; go_simp; try with_reducible rfl)
  try simp only [Act.put, List.setIfInBounds_toArray, List.set_cons_zero, List.set_cons_succ]
  refine wpAnyH_take (i := 5) (oi := _) (v := ?_) rfl (by kernel_rfl) (by kernel_rfl) (by kernel_rfl) (fun _ _ _ h => h) (Or.inl ⟨by rfl, ?_⟩) hHeld ?_
  rotate_left
  · (intro w9 hS9; (try dsimp only at hS9); obtain ⟨⟨q0, q1⟩, ⟨q2, q5⟩⟩ := hS9; go_simp; try with_reducible rfl)
  try simp only [Act.put, List.setIfInBounds_toArray, List.set_cons_zero, List.set_cons_succ]
  refine wpAnyH_take (i := 6) (oi := _) (v := ?_) rfl (by kernel_rfl) (by kernel_rfl) (by kernel_rfl) (fun _ _ _ h => h) (Or.inl ⟨by rfl, ?_⟩) hHeld ?_
  rotate_left
  · (intro w9 hS9; (try dsimp only at hS9); obtain ⟨⟨q0, q1⟩, ⟨q2, q5⟩⟩ := hS9; go_simp; try with_reducible rfl)
  try simp only [Act.put, List.setIfInBounds_toArray, List.set_cons_zero, List.set_cons_succ]
  refine wpAnyH_take (i := 7) (oi := _) (v := ?_) rfl (by kernel_rfl) (by kernel_rfl) (by kernel_rfl) (fun _ _ _ h => h) (Or.inl ⟨by rfl, ?_⟩) hHeld ?_
  rotate_left
  · (intro w9 hS9; (try dsimp only at hS9); obtain ⟨⟨q0, q1⟩, ⟨q2, q5⟩⟩ := hS9; go_simp; try with_reducible rfl)
  try simp only [Act.put, List.setIfInBounds_toArray, List.set_cons_zero, List.set_cons_succ]
  refine wpAnyH_take (i := 8) (oi := _) (v := ?_) rfl (by kernel_rfl) (by kernel_rfl) (by kernel_rfl) (fun _ _ _ h => h) (Or.inl ⟨by rfl, ?_⟩) hHeld ?_
  rotate_left
  · (intro w9 hS9; (try dsimp only at hS9); obtain ⟨⟨q0, q1⟩, ⟨q2, q5⟩⟩ := hS9; go_simp; try with_reducible rfl)
  try simp only [Act.put, List.setIfInBounds_toArray, List.set_cons_zero, List.set_cons_succ]
  refine wpAnyH_take (i := 9) (oi := _) (v := ?_) rfl (by kernel_rfl) (by kernel_rfl) (by kernel_rfl) (fun _ _ _ h => h) (Or.inl ⟨by rfl, ?_⟩) hHeld ?_
  rotate_left
  · (intro w9 hS9; (try dsimp only at hS9); obtain ⟨⟨q0, q1⟩, ⟨q2, q5⟩⟩ := hS9; go_simp; try with_reducible rfl)
  try simp only [Act.put, List.setIfInBounds_toArray, List.set_cons_zero, List.set_cons_succ]
  refine wpAnyH_take (i := 13) (oi := _) (v := ?_) rfl (by kernel_rfl) (by kernel_rfl) (by kernel_rfl) (fun _ _ _ h => h) (Or.inl ⟨by rfl, ?_⟩) hHeld ?_
  rotate_left
  · (intro w9 hS9; (try dsimp only at hS9); obtain ⟨⟨q0, q1⟩, ⟨q2, q5⟩⟩ := hS9; go_simp; try with_reducible rfl)
  try simp only [Act.put, List.setIfInBounds_toArray, List.set_cons_zero, List.set_cons_succ]
  refine wpAnyH_take (i := 15) (oi := _) (v := ?_) rfl (by kernel_rfl) (by kernel_rfl) (by kernel_rfl) (fun _ _ _ h => h) (Or.inl ⟨by rfl, ?_⟩) hHeld ?_
  rotate_left
  · (intro w9 hS9; (try dsimp only at hS9); obtain ⟨⟨q0, q1⟩, ⟨q2, q5⟩⟩ := hS9; go_simp; try with_reducible rfl)
  try simp only [Act.put, List.setIfInBounds_toArray, List.set_cons_zero, List.set_cons_succ]
  refine wpAnyH_take (i := 17) (oi := _) (v := ?_) rfl (by kernel_rfl) (by kernel_rfl) (by kernel_rfl) (fun _ _ _ h => h) (Or.inl ⟨by rfl, ?_⟩) hHeld ?_
  rotate_left
  · (intro w9 hS9; (try dsimp only at hS9); obtain ⟨⟨q0, q1⟩, ⟨q2, q5⟩⟩ := hS9; go_simp; try with_reducible rfl)
  try simp only [Act.put, List.setIfInBounds_toArray, List.set_cons_zero, List.set_cons_succ]
  refine wpAnyH_take (i := 18) (oi := _) (v := ?_) rfl (by kernel_rfl) (by kernel_rfl) (by kernel_rfl) (fun _ _ _ h => h) (Or.inl ⟨by rfl, ?_⟩) hHeld ?_
  rotate_left
  · (intro w9 hS9; (try dsimp only at hS9); obtain ⟨⟨q0, q1⟩, ⟨q2, q5⟩⟩ := hS9; go_simp; try with_reducible rfl)
  try simp only [Act.put, List.setIfInBounds_toArray, List.set_cons_zero, List.set_cons_succ]
  refine wpAnyH_ready (rs := [2, 10]) (by kernel_rfl) (by simp) ?_
  refine AllReadyH.cons rfl (fun K hK => ?_) ?_
  · go_simp
    go_at_call 33
    refine (HF4.out _).mono ?_
    rintro _ w4 ⟨rfl, hb4'⟩
    have K4 := Lib.hid (ch_a hb4')
    have q4 := kp4_below q0 K4.out
    refine hK.out _ _ q4 (fun hHeld => ?_)
    clear hK K hb4'
    try simp only [Act.put, List.setIfInBounds_toArray, List.set_cons_zero, List.set_cons_succ]
    refine wpAnyH_ready (rs := [10]) (by kernel_rfl) (by simp) ?_
    refine AllReadyH.cons rfl (fun K hK => ?_) ?_
    · go_simp
      have hz4 := heap_alloc_new w4 (.cells #[.int .u8 (x1.toNat : Int), .int .u8 (x2.toNat : Int)] 5)
      replace K4 := Lib.hid (Below.chain K4.out ((Below.refl _ _).alloc (Nat.le_refl _) (.cells #[.int .u8 (x1.toNat : Int), .int .u8 (x2.toNat : Int)] 5)))
      replace q4 := kp4_alloc (o := .cells #[.int .u8 (x1.toNat : Int), .int .u8 (x2.toNat : Int)] 5) q4
      refine hK.out _ _ q4 (fun hHeld => ?_)
      clear hK K
      try simp only [Act.put, List.setIfInBounds_toArray, List.set_cons_zero, List.set_cons_succ]
      refine wpAnyH_ready (rs := [11]) (by kernel_rfl) (by simp) ?_
      refine AllReadyH.cons rfl (fun K hK => ?_) ?_
      · have cv2 := conv2 hz4
        rw [← HT.out] at cv2
        go_simp
        refine hK.out _ _ q4 (fun hHeld => ?_)
        clear hK K
        try simp only [Act.put, List.setIfInBounds_toArray, List.set_cons_zero, List.set_cons_succ]
        refine wpAnyH_take (i := 12) (oi := _) (v := ?_) rfl (by kernel_rfl) (by kernel_rfl) (by kernel_rfl) (fun _ _ _ h => h) (Or.inl ⟨by rfl, ?_⟩) hHeld ?_
        rotate_left
        · (intro w9 hS9; (try dsimp only at hS9); obtain ⟨⟨q0, q1⟩, ⟨q2, q5⟩⟩ := hS9; go_simp; try with_reducible rfl)
        try simp only [Act.put, List.setIfInBounds_toArray, List.set_cons_zero, List.set_cons_succ]
        refine wpAnyH_take (i := 14) (oi := _) (v := ?_) rfl (by kernel_rfl) (by kernel_rfl) (by kernel_rfl) (fun _ _ _ h => h) (Or.inl ⟨by rfl, ?_⟩) hHeld ?_
        rotate_left
        · (intro w9 hS9; (try dsimp only at hS9); obtain ⟨⟨q0, q1⟩, ⟨q2, q5⟩⟩ := hS9; go_simp; try with_reducible rfl)
        try simp only [Act.put, List.setIfInBounds_toArray, List.set_cons_zero, List.set_cons_succ]
        refine wpAnyH_take (i := 16) (oi := _) (v := ?_) rfl (by kernel_rfl) (by kernel_rfl) (by kernel_rfl) (fun _ _ _ h => h) (Or.inl ⟨by rfl, ?_⟩) hHeld ?_
        rotate_left
        · (intro w9 hS9; (try dsimp only at hS9); obtain ⟨⟨q0, q1⟩, ⟨q2, q5⟩⟩ := hS9; go_simp; try with_reducible rfl)
        try simp only [Act.put, List.setIfInBounds_toArray, List.set_cons_zero, List.set_cons_succ]
        refine wpAnyH_ready (rs := [19]) (by kernel_rfl) (by simp) ?_
        refine AllReadyH.cons rfl (fun K hK => ?_) AllReadyH.nil
        go_simp
        refine hK.out _ _ hHeld (fun hHeld => ?_)
        clear hK K
        try simp only [Act.put, List.setIfInBounds_toArray, List.set_cons_zero, List.set_cons_succ]
        refine wpAnyH_ready (rs := [20]) (by kernel_rfl) (by simp) ?_
        refine AllReadyH.cons rfl (fun K hK => ?_) AllReadyH.nil
        go_simp
        refine hK.out _ _ hHeld (fun hHeld => ?_)
        clear hK K
        try simp only [Act.put, List.setIfInBounds_toArray, List.set_cons_zero, List.set_cons_succ]
        refine wpAnyH_done (by kernel_rfl) ?_ _
        go_wp2_with fail
        go_ret
        rw [HN.out]
        exact ⟨rfl, Below.chain HB.out K4.out⟩
      exact AllReadyH.nil
    exact AllReadyH.nil
  refine AllReadyH.cons rfl (fun K hK => ?_) ?_
  · go_simp
    refine hK.out _ _ (kp4_drew (kp4_alloc q0)) (fun hHeld => ?_)
    clear hK K
    try simp only [Act.put, List.setIfInBounds_toArray, List.set_cons_zero, List.set_cons_succ]
    refine wpAnyH_ready (rs := [2, 11]) (by kernel_rfl) (by simp) ?_
    refine AllReadyH.cons rfl (fun K hK => ?_) ?_
    · go_simp
      go_at_call 33
      refine (HF4.out _).mono ?_
      rintro _ w4 ⟨rfl, hb4'⟩
      have K4 := Lib.hid (ch_b hb4')
      have hz4 := ch_c hb4'
      have q4 := kp4_below q0 K4.out
      refine hK.out _ _ q4 (fun hHeld => ?_)
      clear hK K hb4'
      try simp only [Act.put, List.setIfInBounds_toArray, List.set_cons_zero, List.set_cons_succ]
      refine wpAnyH_ready (rs := [11]) (by kernel_rfl) (by simp) ?_
      refine AllReadyH.cons rfl (fun K hK => ?_) ?_
      · have cv2 := conv2 hz4
        rw [← HT.out] at cv2
        go_simp
        refine hK.out _ _ q4 (fun hHeld => ?_)
        clear hK K
        try simp only [Act.put, List.setIfInBounds_toArray, List.set_cons_zero, List.set_cons_succ]
        refine wpAnyH_take (i := 12) (oi := _) (v := ?_) rfl (by kernel_rfl) (by kernel_rfl) (by kernel_rfl) (fun _ _ _ h => h) (Or.inl ⟨by rfl, ?_⟩) hHeld ?_
        rotate_left
        · (intro w9 hS9; (try dsimp only at hS9); obtain ⟨⟨q0, q1⟩, ⟨q2, q5⟩⟩ := hS9; go_simp; try with_reducible rfl)
        try simp only [Act.put, List.setIfInBounds_toArray, List.set_cons_zero, List.set_cons_succ]
        refine wpAnyH_take (i := 14) (oi := _) (v := ?_) rfl (by kernel_rfl) (by kernel_rfl) (by kernel_rfl) (fun _ _ _ h => h) (Or.inl ⟨by rfl, ?_⟩) hHeld ?_
        rotate_left
        · (intro w9 hS9; (try dsimp only at hS9); obtain ⟨⟨q0, q1⟩, ⟨q2, q5⟩⟩ := hS9; go_simp; try with_reducible rfl)
        try simp only [Act.put, List.setIfInBounds_toArray, List.set_cons_zero, List.set_cons_succ]
        refine wpAnyH_take (i := 16) (oi := _) (v := ?_) rfl (by kernel_rfl) (by kernel_rfl) (by kernel_rfl) (fun _ _ _ h => h) (Or.inl ⟨by rfl, ?_⟩) hHeld ?_
        rotate_left
        · (intro w9 hS9; (try dsimp only at hS9); obtain ⟨⟨q0, q1⟩, ⟨q2, q5⟩⟩ := hS9; go_simp; try with_reducible rfl)
        try simp only [Act.put, List.setIfInBounds_toArray, List.set_cons_zero, List.set_cons_succ]
        refine wpAnyH_ready (rs := [19]) (by kernel_rfl) (by simp) ?_
        refine AllReadyH.cons rfl (fun K hK => ?_) AllReadyH.nil
        go_simp
        refine hK.out _ _ hHeld (fun hHeld => ?_)
        clear hK K
        try simp only [Act.put, List.setIfInBounds_toArray, List.set_cons_zero, List.set_cons_succ]
        refine wpAnyH_ready (rs := [20]) (by kernel_rfl) (by simp) ?_
        refine AllReadyH.cons rfl (fun K hK => ?_) AllReadyH.nil
        go_simp
        refine hK.out _ _ hHeld (fun hHeld => ?_)
        clear hK K
        try simp only [Act.put, List.setIfInBounds_toArray, List.set_cons_zero, List.set_cons_succ]
        refine wpAnyH_done (by kernel_rfl) ?_ _
        go_wp2_with fail
        go_ret
        rw [HN.out]
        exact ⟨rfl, Below.chain HB.out K4.out⟩
      exact AllReadyH.nil
    refine AllReadyH.cons rfl (fun K hK => ?_) ?_
    · go_simp
      refine hK.out _ _ (kp4_drew (kp4_alloc q0)) (fun hHeld => ?_)
      clear hK K
      try simp only [Act.put, List.setIfInBounds_toArray, List.set_cons_zero, List.set_cons_succ]
      refine wpAnyH_ready (rs := [2]) (by kernel_rfl) (by simp) ?_
      refine AllReadyH.cons rfl (fun K hK => ?_) ?_
      · go_simp
        go_at_call 33
        refine (HF4.out _).mono ?_
        rintro _ w4 ⟨rfl, hb4'⟩
        have K4 := Lib.hid (ch_b hb4')
        have hz4 := ch_c hb4'
        have q4 := kp4_below q0 K4.out
        refine hK.out _ _ q4 (fun hHeld => ?_)
        clear hK K hb4'
        try simp only [Act.put, List.setIfInBounds_toArray, List.set_cons_zero, List.set_cons_succ]
        refine wpAnyH_take (i := 12) (oi := _) (v := ?_) rfl (by kernel_rfl) (by kernel_rfl) (by kernel_rfl) (fun _ _ _ h => h) (Or.inl ⟨by rfl, ?_⟩) hHeld ?_
        rotate_left
        · (intro w9 hS9; (try dsimp only at hS9); obtain ⟨⟨q0, q1⟩, ⟨q2, q5⟩⟩ := hS9; go_simp; try with_reducible rfl)
        try simp only [Act.put, List.setIfInBounds_toArray, List.set_cons_zero, List.set_cons_succ]
        refine wpAnyH_take (i := 14) (oi := _) (v := ?_) rfl (by kernel_rfl) (by kernel_rfl) (by kernel_rfl) (fun _ _ _ h => h) (Or.inl ⟨by rfl, ?_⟩) hHeld ?_
        rotate_left
        · (intro w9 hS9; (try dsimp only at hS9); obtain ⟨⟨q0, q1⟩, ⟨q2, q5⟩⟩ := hS9; go_simp; try with_reducible rfl)
        try simp only [Act.put, List.setIfInBounds_toArray, List.set_cons_zero, List.set_cons_succ]
        refine wpAnyH_take (i := 16) (oi := _) (v := ?_) rfl (by kernel_rfl) (by kernel_rfl) (by kernel_rfl) (fun _ _ _ h => h) (Or.inl ⟨by rfl, ?_⟩) hHeld ?_
        rotate_left
        · (intro w9 hS9; (try dsimp only at hS9); obtain ⟨⟨q0, q1⟩, ⟨q2, q5⟩⟩ := hS9; go_simp; try with_reducible rfl)
        try simp only [Act.put, List.setIfInBounds_toArray, List.set_cons_zero, List.set_cons_succ]
        refine wpAnyH_ready (rs := [19]) (by kernel_rfl) (by simp) ?_
        refine AllReadyH.cons rfl (fun K hK => ?_) AllReadyH.nil
        go_simp
        refine hK.out _ _ hHeld (fun hHeld => ?_)
        clear hK K
        try simp only [Act.put, List.setIfInBounds_toArray, List.set_cons_zero, List.set_cons_succ]
        refine wpAnyH_ready (rs := [20]) (by kernel_rfl) (by simp) ?_
        refine AllReadyH.cons rfl (fun K hK => ?_) AllReadyH.nil
        go_simp
        refine hK.out _ _ hHeld (fun hHeld => ?_)
        clear hK K
        try simp only [Act.put, List.setIfInBounds_toArray, List.set_cons_zero, List.set_cons_succ]
        refine wpAnyH_done (by kernel_rfl) ?_ _
        go_wp2_with fail
        go_ret
        rw [HN.out]
        exact ⟨rfl, Below.chain HB.out K4.out⟩
      exact AllReadyH.nil
    exact AllReadyH.nil
  exact AllReadyH.nil
end Go.Proofs.YtniglledpjheaaaGreatDoor
