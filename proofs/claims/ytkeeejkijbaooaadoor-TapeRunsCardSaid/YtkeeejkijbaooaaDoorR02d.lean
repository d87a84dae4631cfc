/-
  Contract of keyholeref02.Sum: the same function as digest.Sum.
-/
import Derived.Test.YtkeeejkijbaooaaDoorR02c
import Derived.Test.YtkeeejkijbaooaaDoorSum
namespace Go.Proofs.YtkeeejkijbaooaaDoor
open Go.RowKit
set_option linter.unusedVariables false
set_option maxRecDepth 100000
set_option linter.unusedSimpArgs false

theorem start2 (w : World) : Calls Tryd.prog 74 #[] w fun e w' => e = .returned (.agg (ints startL).toArray) ∧ Below w.heap.size w w' := by
  go_enter Tryd.func74, Tryd.ntmps74
  go_wp2_with fail
  refine bodyPost_ret (v := .agg (ints startL).toArray) (by simp [results, Tryd.results74, go_sem, ints, startL]) rfl ⟨rfl, (Below.refl _ _).alloc (Nat.le_refl _) _⟩

abbrev C8 (W : World) (B : Nat) (x0 x1 x2 x3 x4 x5 x6 x7 : Int) : Prop :=
  W.cell? ⟨B, 0, none⟩ = some (.int .i64 x0) ∧ W.cell? ⟨B, 1, none⟩ = some (.int .i64 x1) ∧ W.cell? ⟨B, 2, none⟩ = some (.int .i64 x2) ∧ W.cell? ⟨B, 3, none⟩ = some (.int .i64 x3) ∧ W.cell? ⟨B, 4, none⟩ = some (.int .i64 x4) ∧ W.cell? ⟨B, 5, none⟩ = some (.int .i64 x5) ∧ W.cell? ⟨B, 6, none⟩ = some (.int .i64 x6) ∧ W.cell? ⟨B, 7, none⟩ = some (.int .i64 x7)
theorem C8.below {W W' : World} {B : Nat} {x0 x1 x2 x3 x4 x5 x6 x7 : Int} (h : C8 W B x0 x1 x2 x3 x4 x5 x6 x7) (hb : Below W.heap.size W W') : C8 W' B x0 x1 x2 x3 x4 x5 x6 x7 := by
  have k : ∀ {p u}, W.cell? p = some u → W'.cell? p = some u := fun h => (hb.cell (cell_lt h)).trans h
  obtain ⟨h0, h1, h2, h3, h4, h5, h6, h7⟩ := h
  exact ⟨k h0, k h1, k h2, k h3, k h4, k h5, k h6, k h7⟩
theorem C8.alloc {W : World} {B : Nat} {x0 x1 x2 x3 x4 x5 x6 x7 : Int} (h : C8 W B x0 x1 x2 x3 x4 x5 x6 x7) (o : Obj) : C8 (W.alloc o) B x0 x1 x2 x3 x4 x5 x6 x7 := h.below ((Below.refl _ _).alloc (Nat.le_refl _) o)
theorem C8_set8 {W : World} {B g : Nat} {x0 x1 x2 x3 x4 x5 x6 x7 a b c d e f i h : Int} (h8 : C8 W B x0 x1 x2 x3 x4 x5 x6 x7) (hne : B ≠ g) : C8 (set8 W g a b c d e f i h) B x0 x1 x2 x3 x4 x5 x6 x7 := by
  have hG := set8_by W g a b c d e f i h
  have k : ∀ {o u}, W.cell? ⟨B, o, none⟩ = some u → (set8 W g a b c d e f i h).cell? ⟨B, o, none⟩ = some u := fun {o u} hc => by
    rw [← hc]
    unfold World.cell?
    simp only [hG.block B (cell_lt hc) (fun e => hne (Option.some.inj e))]
  obtain ⟨h0, h1, h2, h3, h4, h5, h6, h7⟩ := h8
  exact ⟨k h0, k h1, k h2, k h3, k h4, k h5, k h6, k h7⟩
theorem C8_sets {W : World} {B g : Nat} {x0 x1 x2 x3 x4 x5 x6 x7 a b c d e f i h : Int} (h8 : C8 W B x0 x1 x2 x3 x4 x5 x6 x7) (hne : B ≠ g) :
    C8 ((((((((W.setCell ⟨g, 0, none⟩ (.int .i64 a)).setCell ⟨g, 1, none⟩ (.int .i64 b)).setCell ⟨g, 2, none⟩ (.int .i64 c)).setCell ⟨g, 3, none⟩ (.int .i64 d)).setCell ⟨g, 4, none⟩ (.int .i64 e)).setCell ⟨g, 5, none⟩ (.int .i64 f)).setCell ⟨g, 6, none⟩ (.int .i64 i)).setCell ⟨g, 7, none⟩ (.int .i64 h)) B x0 x1 x2 x3 x4 x5 x6 x7 := C8_set8 h8 hne
theorem bs_app (s : ByteArray) (l : List UInt8) : s ++ bs l = bs (s.data.toList ++ l) := by
  apply ByteArray.ext
  rw [ByteArray.data_append]
  simp [bs]

theorem stTo_words (l : List UInt8) : ∀ k, Words8 (stTo l k)
  | 0 => start_words
  | k + 1 => stepL_words (stTo_words l k) _
theorem ext_list (l : List UInt8) (P : Nat) : (bs l).extract P (P + 64) = bs ((l.drop P).take 64) := by
  rw [extract_bs, bs_data, List.drop_take, Nat.add_sub_cancel_left]
theorem ext_size (T : ByteArray) (P : Nat) (h : P + 64 ≤ T.size) : (T.extract P (P + 64)).size = 64 := by
  rw [ByteArray.size_extract]; omega
theorem step2_lit {x0 x1 x2 x3 x4 x5 x6 x7 y0 y1 y2 y3 y4 y5 y6 y7 : Int} (s : ByteArray) (w : World) (hst : Words8 [x0, x1, x2, x3, x4, x5, x6, x7]) (hs : s.size = 64) (hy : stepL [x0, x1, x2, x3, x4, x5, x6, x7] s.data.toList = [y0, y1, y2, y3, y4, y5, y6, y7]) :
    Calls Tryd.prog 75 #[.agg #[.int .i64 x0, .int .i64 x1, .int .i64 x2, .int .i64 x3, .int .i64 x4, .int .i64 x5, .int .i64 x6, .int .i64 x7], .string s] w fun e w' => e = .returned (.tuple #[.agg #[.int .i64 y0, .int .i64 y1, .int .i64 y2, .int .i64 y3, .int .i64 y4, .int .i64 y5, .int .i64 y6, .int .i64 y7], .bool true]) ∧ Below w.heap.size w w' := by
  have := step2 _ s w hst hs
  rw [hy] at this
  exact this
theorem step7_below {wr W W' : World} {B : Nat} {o : Obj} (h : W.heap[B]? = some o ∧ Below wr.heap.size wr W) (hb : Below W.heap.size W W') : W'.heap[B]? = some o ∧ Below wr.heap.size wr W' := ⟨cells_below h.1 hb, Below.chain h.2 hb⟩
theorem step7_alloc {wr W : World} {B : Nat} {o : Obj} (h : W.heap[B]? = some o ∧ Below wr.heap.size wr W) (o' : Obj) : (W.alloc o').heap[B]? = some o ∧ Below wr.heap.size wr (W.alloc o') := step7_below h ((Below.refl _ _).alloc (Nat.le_refl _) _)
theorem step7_store {wr W W' : World} {B g : Nat} {o : Obj} (h : W.heap[B]? = some o ∧ Below wr.heap.size wr W) (hG : W.grownBy W' (some g)) (hne : B ≠ g) (hle : wr.heap.size ≤ g) : W'.heap[B]? = some o ∧ Below wr.heap.size wr W' :=
  ⟨(hG.block B (cell_lt_of h.1) (fun e => hne (Option.some.inj e))).trans h.1, h.2.trans (grownBy_below' hG hle h.2.size)⟩
set_option maxHeartbeats 1000000 in
theorem sum2 (s : ByteArray) (w : World) (hs : s.size ≤ 1000000) :
    Calls Tryd.prog 43 #[.string s] w fun e w' => e = .returned (.string (bs (sumL s.data.toList))) ∧ Below w.heap.size w w' := by
  obtain ⟨N, hN⟩ := pad_64 s.size
  have hp : (padL s.size).length ≤ 100 := by rw [padL_len]; unfold padZ; omega
  have HN := Lib.hid hN
  clear hN
  go_enter Tryd.func43, Tryd.ntmps43
  go_wp2_with fail
  refine (pad2 s.size _ (by omega)).mono ?_
  rintro e w1 ⟨rfl, hb1⟩
  have hsz : ¬ 9223372036854775807 < s.size + (bs (padL s.size)).size := by rw [bs_size]; omega
  go_wp2_with fail
  rw [bs_app]
  refine (start2 _).mono ?_
  rintro e w2 ⟨rfl, hb2⟩
  have HB2 := Lib.hid (Below.chain hb1 hb2)
  clear hb1 hb2 hsz
  rw [show (ints startL).toArray = #[.int .i64 1779033703, .int .i64 3144134277, .int .i64 1013904242, .int .i64 2773480762, .int .i64 1359893119, .int .i64 2600822924, .int .i64 528734635, .int .i64 1541459225] from rfl]
  go_wp2_with fail
  have HT := Lib.hid (show sumL s.data.toList = joinL (stTo (s.data.toList ++ padL s.size) N) true by
    rw [sumL, len_data]
    congr 2
    have := HN.out
    omega)
  have HL := Lib.hid (show (bs (s.data.toList ++ padL s.size)).size = 64 * N by
    rw [bs_size, List.length_append, len_data]; exact HN.out)
  have hNb : N ≤ 20000 := by have := HN.out; omega
  clear hp HN
  generalize s.data.toList ++ padL s.size = all at HT HL ⊢
  have H6 := Lib.hid (heap_alloc_new w2 (.cells (ints startL).toArray 73))
  have HB3 := Lib.hid (HB2.out.alloc HB2.out.size (.cells (ints startL).toArray 73))
  have hle := HB2.out.size
  obtain ⟨B6, hB6⟩ : ∃ B, B = w2.heap.size := ⟨_, rfl⟩
  rw [← hB6] at H6 hle ⊢
  change Hid ((w2.alloc (.cells #[.int .i64 1779033703, .int .i64 3144134277, .int .i64 1013904242, .int .i64 2773480762, .int .i64 1359893119, .int .i64 2600822924, .int .i64 528734635, .int .i64 1541459225] 73)).heap[B6]? = some (.cells (ints startL).toArray 73 (0, 0))) at H6
  change Hid (Below w.heap.size w (w2.alloc (.cells #[.int .i64 1779033703, .int .i64 3144134277, .int .i64 1013904242, .int .i64 2773480762, .int .i64 1359893119, .int .i64 2600822924, .int .i64 528734635, .int .i64 1541459225] 73))) at HB3
  generalize w2.alloc (.cells #[.int .i64 1779033703, .int .i64 3144134277, .int .i64 1013904242, .int .i64 2773480762, .int .i64 1359893119, .int .i64 2600822924, .int .i64 528734635, .int .i64 1541459225] 73) = w3 at H6 HB3 ⊢
  clear hB6 HB2
  obtain ⟨T, hT⟩ : ∃ T, T = bs all := ⟨_, rfl⟩
  rw [← hT] at HL ⊢
  have HTe := Lib.hid hT
  clear hT
  go_loopw [7] (fun x wr => ∃ k : Nat, k ≤ N ∧ x = .int .i64 ((64 * k : Nat) : Int) ∧ wr.heap[B6]? = some (.cells (ints (stTo all k)).toArray 73 (0, 0)) ∧ Below w.heap.size w wr) (fun x _ => 64 * N - (intOf x).toNat)
  case atStart => exact ⟨0, by omega, rfl, H6.out, HB3.out⟩
  case round =>
    obtain ⟨k, hk, rfl, h6, hB⟩ := hrel
    clear H6 HB3
    have Hw8 := Lib.hid (stTo_words all k)
    obtain ⟨x0, x1, x2, x3, x4, x5, x6, x7, hx, _⟩ := words8_open (stTo_words all k)
    have HB := Lib.hid hB
    clear hB
    have hL := HL.out
    by_cases hlt : k < N
    · obtain ⟨P, hP⟩ : ∃ P, P = 64 * k := ⟨_, rfl⟩
      rw [← hP]
      have hPi : (P : Int) < (T.size : Int) := by omega
      have hPb : P ≤ 10000000 := by omega
      have hP4 : (P : Int) + 64 ≤ (T.size : Int) := by omega
      have hP0 : (0 : Int) ≤ (P : Int) := by omega
      have e64 : IntKind.i64.wrap ((P : Int) + 64) = (P : Int) + 64 := IntWalk.i64_in _ (by omega)
      have hPn : (0 : Int) ≤ (P : Int) + 64 := by omega
      have hPP : (P : Int) ≤ (P : Int) + 64 := by omega
      have hPt : ((P : Int) + 64).toNat = P + 64 := by omega
      have hE := ext_size T P (by omega)
      have HE := Lib.hid hE
      have Hst := Lib.hid (show stTo all (k + 1) = stepL (stTo all k) (T.extract P (P + 64)).data.toList by
        rw [HTe.out, ext_list, bs_data, hP]
        rfl)
      have HP := Lib.hid hP
      clear hE hL hP
      rw [hx] at h6 Hst Hw8
      obtain ⟨y0, y1, y2, y3, y4, y5, y6, y7, hy, _⟩ := words8_open (stepL_words Hw8.out (T.extract P (P + 64)).data.toList)
      have Hy := Lib.hid (hy)
      rw [hy] at Hst
      have H6 := Lib.hid h6
      have hlt6 := cell_lt_of h6
      have hC : C8 wr B6 x0 x1 x2 x3 x4 x5 x6 x7 := (eight_cells h6).1
      have HC := Lib.hid hC
      clear h6 hx hy hC
      clear HC
      go_wp2_with fail
      -- REGION7
      refine wp_region_held_drew (S := fun w' => w'.heap[B6]? = some (.cells (ints [x0, x1, x2, x3, x4, x5, x6, x7]).toArray 73 (0, 0)) ∧ Below wr.heap.size wr w') (by kernel_rfl) (by exact ⟨H6.out, (Below.refl _ _).drew⟩) (fun hHeld => ?_)
      refine wpAnyH_take (i := 0) (oi := _) (v := ?_) rfl (by kernel_rfl) (by kernel_rfl) (by kernel_rfl) (fun _ _ _ h => h) (Or.inl ⟨by rfl, ?_⟩) hHeld ?_
      rotate_left
      · (intro w9 hS9; (try dsimp only at hS9); obtain ⟨⟨q0, q1, q2, q3, q4, q5, q6, q7⟩, _⟩ := eight_cells hS9.1; go_simp; try with_reducible rfl)
      try simp only [Act.put, List.setIfInBounds_toArray, List.set_cons_zero, List.set_cons_succ]
      refine wpAnyH_take (i := 1) (oi := _) (v := ?_) rfl (by kernel_rfl) (by kernel_rfl) (by kernel_rfl) (fun _ _ _ h => h) (Or.inl ⟨by rfl, ?_⟩) hHeld ?_
      rotate_left
      · (intro w9 hS9; (try dsimp only at hS9); go_simp; try with_reducible rfl)
      try simp only [Act.put, List.setIfInBounds_toArray, List.set_cons_zero, List.set_cons_succ]
      refine wpAnyH_take (i := 2) (oi := _) (v := ?_) rfl (by kernel_rfl) (by kernel_rfl) (by kernel_rfl) (fun _ _ _ h => h) (Or.inl ⟨by rfl, ?_⟩) hHeld ?_
      rotate_left
      · (intro w9 hS9; (try dsimp only at hS9); go_simp; try with_reducible rfl)
      try simp only [Act.put, List.setIfInBounds_toArray, List.set_cons_zero, List.set_cons_succ]
      refine wpAnyH_take (i := 3) (oi := _) (v := ?_) rfl (by kernel_rfl) (by kernel_rfl) (by kernel_rfl) (fun _ _ _ h => h) (Or.inl ⟨by rfl, ?_⟩) hHeld ?_
      rotate_left
      · (intro w9 hS9; (try dsimp only at hS9); go_simp; try with_reducible rfl)
      try simp only [Act.put, List.setIfInBounds_toArray, List.set_cons_zero, List.set_cons_succ]
      refine wpAnyH_take (i := 4) (oi := _) (v := ?_) rfl (by kernel_rfl) (by kernel_rfl) (by kernel_rfl) (fun _ _ _ h => h) (Or.inl ⟨by rfl, ?_⟩) hHeld ?_
      rotate_left
      · (intro w9 hS9; (try dsimp only at hS9); go_simp; try with_reducible rfl)
      try simp only [Act.put, List.setIfInBounds_toArray, List.set_cons_zero, List.set_cons_succ]
      refine wpAnyH_take (i := 5) (oi := _) (v := ?_) rfl (by kernel_rfl) (by kernel_rfl) (by kernel_rfl) (fun _ _ _ h => h) (Or.inl ⟨by rfl, ?_⟩) hHeld ?_
      rotate_left
      · (intro w9 hS9; (try dsimp only at hS9); go_simp; try with_reducible rfl)
      try simp only [Act.put, List.setIfInBounds_toArray, List.set_cons_zero, List.set_cons_succ]
      refine wpAnyH_ready (rs := [6, 10]) (by kernel_rfl) (by simp) ?_
      refine AllReadyH.cons rfl (fun K hK => ?_) ?_
      · go_simp
        go_at_call 75
        refine (step2_lit _ _ Hw8.out HE.out Hy.out).mono ?_
        rintro _ w' ⟨rfl, hb9⟩
        have hlt9 : wr.heap.size ≤ w'.heap.size := hb9.size
        have hS9 := step7_below hHeld hb9
        refine hK.out _ _ hS9 (fun hHeld => ?_)
        clear hK K hb9 hS9
        try simp only [Act.put, List.setIfInBounds_toArray, List.set_cons_zero, List.set_cons_succ]
        refine wpAnyH_take (i := 7) (oi := _) (v := ?_) rfl (by kernel_rfl) (by kernel_rfl) (by kernel_rfl) (fun _ _ _ h => h) (Or.inl ⟨by rfl, ?_⟩) hHeld ?_
        rotate_left
        · (intro w9 hS9; (try dsimp only at hS9); go_simp; try with_reducible rfl)
        try simp only [Act.put, List.setIfInBounds_toArray, List.set_cons_zero, List.set_cons_succ]
        refine wpAnyH_take (i := 8) (oi := _) (v := ?_) rfl (by kernel_rfl) (by kernel_rfl) (by kernel_rfl) (fun _ _ _ h => h) (Or.inl ⟨by rfl, ?_⟩) hHeld ?_
        rotate_left
        · (intro w9 hS9; (try dsimp only at hS9); go_simp; try with_reducible rfl)
        try simp only [Act.put, List.setIfInBounds_toArray, List.set_cons_zero, List.set_cons_succ]
        refine wpAnyH_take (i := 9) (oi := _) (v := ?_) rfl (by kernel_rfl) (by kernel_rfl) (by kernel_rfl) (fun _ _ _ h => h) (Or.inl ⟨by rfl, ?_⟩) hHeld ?_
        rotate_left
        · (intro w9 hS9; (try dsimp only at hS9); go_simp; try with_reducible rfl)
        try simp only [Act.put, List.setIfInBounds_toArray, List.set_cons_zero, List.set_cons_succ]
        refine wpAnyH_ready (rs := [10]) (by kernel_rfl) (by simp) ?_
        refine AllReadyH.cons rfl (fun K hK => ?_) ?_
        · go_simp
          have hz9 := heap_alloc_new w' (.cells zeros8 73)
          refine hK.out _ _ (step7_alloc hHeld _) (fun hHeld => ?_)
          clear hK K
          try simp only [Act.put, List.setIfInBounds_toArray, List.set_cons_zero, List.set_cons_succ]
          refine wpAnyH_ready (rs := [11]) (by kernel_rfl) (by simp) ?_
          refine AllReadyH.cons rfl (fun K hK => ?_) ?_
          · rw [if_pos (by rfl)]
            refine wp_store_whole 73 _ _ rfl (w'.heap.size) (ints [y0, y1, y2, y3, y4, y5, y6, y7]).toArray rfl rfl zeros8 73 hz9 rfl (by kernel_rfl) (ints_one _) ?_
            intro w10 h10 hG10
            refine hK.out _ _ (step7_store hHeld hG10 (by omega) (by omega)) (fun hHeld => ?_)
            clear hK K hG10 hz9
            try simp only [Act.put, List.setIfInBounds_toArray, List.set_cons_zero, List.set_cons_succ]
            refine wpAnyH_take (i := 12) (oi := _) (v := ?_) rfl (by kernel_rfl) (by kernel_rfl) (by kernel_rfl) (fun _ _ _ h => h) (Or.inl ⟨by rfl, ?_⟩) hHeld ?_
            rotate_left
            · (intro w9 hS9; (try dsimp only at hS9); go_simp; try with_reducible rfl)
            try simp only [Act.put, List.setIfInBounds_toArray, List.set_cons_zero, List.set_cons_succ]
            refine wpAnyH_done (by kernel_rfl) ?_ _
            obtain ⟨⟨c0, c1, c2, c3, c4, c5, c6, c7⟩, e0, e1, e2, e3, e4, e5, e6, e7⟩ := eight_cells h10
            obtain ⟨⟨d0, d1, d2, d3, d4, d5, d6, d7⟩, f0, f1, f2, f3, f4, f5, f6, f7⟩ := eight_cells hHeld.1
            have HH := Lib.hid hHeld
            clear h10 hHeld
            go_wp2_with fail
            have h11 := set8_at (xs := [x0, x1, x2, x3, x4, x5, x6, x7]) rfl HH.out.1 y0 y1 y2 y3 y4 y5 y6 y7
            have hB9 := (HB.out.trans (HH.out.2.mono HB.out.size)).trans (grownBy_below' (set8_by w10 B6 y0 y1 y2 y3 y4 y5 y6 y7) hle (Nat.le_trans HB.out.size HH.out.2.size))
            have Hend := Lib.hid (And.intro h11 hB9)
            clear h11 hB9 c0 c1 c2 c3 c4 c5 c6 c7 d0 d1 d2 d3 d4 d5 d6 d7 e0 e1 e2 e3 e4 e5 e6 e7 f0 f1 f2 f3 f4 f5 f6 f7
            go_roundw
            case rel => exact ⟨k + 1, by omega, by have := HP.out; go_num, by rw [Hst.out]; exact Hend.out.1, Hend.out.2⟩
            case measure => have := HP.out; simp [intOf]; omega
          exact AllReadyH.nil
        exact AllReadyH.nil
      refine AllReadyH.cons rfl (fun K hK => ?_) ?_
      · go_simp
        refine hK.out _ _ (step7_alloc hHeld _) (fun hHeld => ?_)
        clear hK K
        try simp only [Act.put, List.setIfInBounds_toArray, List.set_cons_zero, List.set_cons_succ]
        refine wpAnyH_ready (rs := [6]) (by kernel_rfl) (by simp) ?_
        refine AllReadyH.cons rfl (fun K hK => ?_) ?_
        · go_simp
          go_at_call 75
          refine (step2_lit _ _ Hw8.out HE.out Hy.out).mono ?_
          rintro _ w' ⟨rfl, hb9⟩
          have hz9 : w'.heap[wr.heap.size]? = some (.cells zeros8 73 (0, 0)) := (hb9.block wr.heap.size (by simp)).trans (heap_alloc_new wr _)
          have hlt9 : wr.heap.size < w'.heap.size := cell_lt_of hz9
          have hS9 := step7_below hHeld hb9
          refine hK.out _ _ hS9 (fun hHeld => ?_)
          clear hK K hb9 hS9
          try simp only [Act.put, List.setIfInBounds_toArray, List.set_cons_zero, List.set_cons_succ]
          refine wpAnyH_take (i := 7) (oi := _) (v := ?_) rfl (by kernel_rfl) (by kernel_rfl) (by kernel_rfl) (fun _ _ _ h => h) (Or.inl ⟨by rfl, ?_⟩) hHeld ?_
          rotate_left
          · (intro w9 hS9; (try dsimp only at hS9); go_simp; try with_reducible rfl)
          try simp only [Act.put, List.setIfInBounds_toArray, List.set_cons_zero, List.set_cons_succ]
          refine wpAnyH_take (i := 8) (oi := _) (v := ?_) rfl (by kernel_rfl) (by kernel_rfl) (by kernel_rfl) (fun _ _ _ h => h) (Or.inl ⟨by rfl, ?_⟩) hHeld ?_
          rotate_left
          · (intro w9 hS9; (try dsimp only at hS9); go_simp; try with_reducible rfl)
          try simp only [Act.put, List.setIfInBounds_toArray, List.set_cons_zero, List.set_cons_succ]
          refine wpAnyH_take (i := 9) (oi := _) (v := ?_) rfl (by kernel_rfl) (by kernel_rfl) (by kernel_rfl) (fun _ _ _ h => h) (Or.inl ⟨by rfl, ?_⟩) hHeld ?_
          rotate_left
          · (intro w9 hS9; (try dsimp only at hS9); go_simp; try with_reducible rfl)
          try simp only [Act.put, List.setIfInBounds_toArray, List.set_cons_zero, List.set_cons_succ]
          refine wpAnyH_ready (rs := [11]) (by kernel_rfl) (by simp) ?_
          refine AllReadyH.cons rfl (fun K hK => ?_) ?_
          · rw [if_pos (by rfl)]
            refine wp_store_whole 73 _ _ rfl (wr.heap.size) (ints [y0, y1, y2, y3, y4, y5, y6, y7]).toArray rfl rfl zeros8 73 hz9 rfl (by kernel_rfl) (ints_one _) ?_
            intro w10 h10 hG10
            refine hK.out _ _ (step7_store hHeld hG10 (by omega) (by omega)) (fun hHeld => ?_)
            clear hK K hG10 hz9
            try simp only [Act.put, List.setIfInBounds_toArray, List.set_cons_zero, List.set_cons_succ]
            refine wpAnyH_take (i := 12) (oi := _) (v := ?_) rfl (by kernel_rfl) (by kernel_rfl) (by kernel_rfl) (fun _ _ _ h => h) (Or.inl ⟨by rfl, ?_⟩) hHeld ?_
            rotate_left
            · (intro w9 hS9; (try dsimp only at hS9); go_simp; try with_reducible rfl)
            try simp only [Act.put, List.setIfInBounds_toArray, List.set_cons_zero, List.set_cons_succ]
            refine wpAnyH_done (by kernel_rfl) ?_ _
            obtain ⟨⟨c0, c1, c2, c3, c4, c5, c6, c7⟩, e0, e1, e2, e3, e4, e5, e6, e7⟩ := eight_cells h10
            obtain ⟨⟨d0, d1, d2, d3, d4, d5, d6, d7⟩, f0, f1, f2, f3, f4, f5, f6, f7⟩ := eight_cells hHeld.1
            have HH := Lib.hid hHeld
            clear h10 hHeld
            go_wp2_with fail
            have h11 := set8_at (xs := [x0, x1, x2, x3, x4, x5, x6, x7]) rfl HH.out.1 y0 y1 y2 y3 y4 y5 y6 y7
            have hB9 := (HB.out.trans (HH.out.2.mono HB.out.size)).trans (grownBy_below' (set8_by w10 B6 y0 y1 y2 y3 y4 y5 y6 y7) hle (Nat.le_trans HB.out.size HH.out.2.size))
            have Hend := Lib.hid (And.intro h11 hB9)
            clear h11 hB9 c0 c1 c2 c3 c4 c5 c6 c7 d0 d1 d2 d3 d4 d5 d6 d7 e0 e1 e2 e3 e4 e5 e6 e7 f0 f1 f2 f3 f4 f5 f6 f7
            go_roundw
            case rel => exact ⟨k + 1, by omega, by have := HP.out; go_num, by rw [Hst.out]; exact Hend.out.1, Hend.out.2⟩
            case measure => have := HP.out; simp [intOf]; omega
          exact AllReadyH.nil
        exact AllReadyH.nil
      exact AllReadyH.nil
      -- END7
    · obtain rfl : k = N := by omega
      have hni : ¬ ((64 * k : Nat) : Int) < (T.size : Int) := by omega
      have HRd := Lib.hid (show Rd wr (some ⟨B6, 0, none⟩) (ints (stTo all k)) from fun j u hu => by
        have hj : j < (stTo all k).length := by
          rcases Nat.lt_or_ge j (stTo all k).length with h | h
          · exact h
          · simp [ints, h] at hu
        refine ⟨B6, 0, rfl, ?_⟩
        rw [Nat.zero_add, (ints_cell h6 hj).1]
        simpa [ints, hj] using hu)
      obtain ⟨Q, hQ⟩ : ∃ Q, Q = 64 * k := ⟨_, rfl⟩
      rw [← hQ] at hni ⊢
      clear hL hQ h6 hx
      go_wp2_with fail
      refine (join1 (stTo all k) _ _ _ true _ HRd.out (by rw [Hw8.out.1]) (by rw [Hw8.out.1]; decide) Hw8.out.2).mono ?_
      rintro e w9 ⟨rfl, hb9⟩
      have HB9 := Lib.hid (Below.chain HB.out hb9)
      clear hb9
      go_wp2_with fail
      go_ret
      exact ⟨by rw [HT.out]; rfl, HB9.out⟩
end Go.Proofs.YtkeeejkijbaooaaDoor
