/-
  Contract of digest.Sum.
-/
import Derived.Test.YtkeeejkijbaooaaDoorBlocks
namespace Go.Proofs.YtkeeejkijbaooaaDoor
open Go.RowKit Go.Shelf
set_option linter.unusedVariables false
attribute [local go_sem] Oper.semAt_some

def stepsL (pre : List Blk) : List Int := pre.foldl (fun st b => stepL st b.1.data.toList) startL
theorem stepsL_snoc (pre : List Blk) (x : Blk) : stepsL (pre ++ [x]) = stepL (stepsL pre) x.1.data.toList := by simp [stepsL]
theorem steps_words : ∀ (pre : List Blk) {st : List Int}, Words8 st → Words8 (pre.foldl (fun st b => stepL st b.1.data.toList) st)
  | [], _, h => h
  | x :: pre, st, h => steps_words pre (stepL_words h _)
theorem stepsL_words (pre : List Blk) : Words8 (stepsL pre) := steps_words pre start_words
/-- The state behind k parts. -/
def stTo (l : List UInt8) : Nat → List Int
  | 0 => startL
  | k + 1 => stepL (stTo l k) ((l.drop (64 * k)).take 64)
theorem stepsL_to (l : List UInt8) : ∀ k, 64 * k ≤ l.length → stepsL (blksTo l k) = stTo l k
  | 0, _ => rfl
  | k + 1, h => by
    rw [blksTo_succ, stepsL_snoc, stepsL_to l k (by omega), blkOf_eq (by omega), stTo]
    rfl
/-- The digest of bytes. -/
def sumL (s : List UInt8) : List UInt8 := joinL (stTo (s ++ padL s.length) ((s.length + (padL s.length).length) / 64)) true
theorem pad_64 (n : Nat) : ∃ N, n + (padL n).length = 64 * N := by
  rw [padL_len]
  exact ⟨(n + (9 + padZ n)) / 64, by unfold padZ; omega⟩

theorem own_block (b : Nat) (t : TypeId) (f : List Blk → Array Value) : Own (fun pre W => W.heap[b]? = some (.cells (f pre) t (0, 0))) := fun s A B row hs hg hr => by
  refine (hg.block b (cell_lt_of hs) (fun e => ?_)).trans hs
  obtain ⟨o, ho, hc⟩ := hr b e.symm
  rw [hs] at ho
  obtain rfl := Option.some.inj ho
  cases hc

set_option maxRecDepth 100000 in
set_option maxHeartbeats 1000000 in
theorem sum_any (s : ByteArray) (w : World) (hR : Rounds w) (hs : s.size ≤ 1000000000) :
    Calls Tryd.prog 11 #[.string s] w fun e w' => e = .returned (.string (bs (sumL s.data.toList))) ∧ Below w.heap.size w w' := by
  have HR := Lib.hid hR
  obtain ⟨N, hN⟩ := pad_64 s.size
  have HN := Lib.hid hN
  clear hR hN
  refine (callsIn_wide (n := 3)).1 ?_
  refine callsIn_of_wp_marks Tryd.func11 rfl trivial ?_ rfl
  simp only [Tryd.ntmps11, List.size_toArray, List.length_cons, List.length_nil, Nat.reduceAdd, Nat.reduceSub, Array.replicate_succ, Array.replicate_zero, List.push_toArray, List.append_toArray, List.nil_append, List.cons_append]
  gi_wp2_with (first
    | (refine ⟨trivial, ?_⟩; gi_at_call 36; refine (callsIn_wide.2 (pad_any s.size _ hs)).mono ?_; rintro e w1 ⟨rfl, hw1⟩)
    | (refine ⟨trivial, ?_⟩; gi_at_call 37; refine (callsIn_wide.2 (start_any _)).mono ?_; rintro e w2 ⟨rfl, hw2⟩; rw [show (ints startL).toArray = #[.int .i64 1779033703, .int .i64 3144134277, .int .i64 1013904242, .int .i64 2773480762, .int .i64 1359893119, .int .i64 2600822924, .int .i64 528734635, .int .i64 1541459225] from rfl])
    | (refine ⟨trivial, ?_⟩; gi_at_call 38; refine (blocks_in Fence.wide _ trivial rfl _ _ _).mono ?_; rintro e w3 ⟨rfl, rfl⟩))
  have HW2 := Lib.hid (Below.chain hw1 hw2)
  clear hw1 hw2
  obtain ⟨t, ht⟩ : ∃ t, t = bs (padL s.size) := ⟨_, rfl⟩
  rw [← ht]
  have hts : s.size + t.size = 64 * N := by rw [ht, bs_size]; exact HN.out
  have htl : t.size ≤ 1000 := by rw [ht, bs_size, padL_len]; unfold padZ; omega
  have Ht := Lib.hid ht
  obtain ⟨B5, hB5⟩ : ∃ B, B = w2.heap.size := ⟨_, rfl⟩
  have h5 := heap_alloc_new w2 (.cells (ints startL).toArray 73)
  have hs5 := heap_alloc_new (w2.alloc (.cells (ints startL).toArray 73)) (.cells #[.string s] 9)
  have hb5 := heap_alloc_new ((w2.alloc (.cells (ints startL).toArray 73)).alloc (.cells #[.string s] 9)) (.cells #[.string t] 9)
  simp only [World.size_alloc] at hs5 hb5
  rw [← hB5] at h5 hs5 hb5
  have hW3 : Below w.heap.size w (((w2.alloc (.cells (ints startL).toArray 73)).alloc (.cells #[.string s] 9)).alloc (.cells #[.string t] 9)) := ((HW2.out.alloc HW2.out.size _).alloc (by have := HW2.out.size; simp; omega) _).alloc (by have := HW2.out.size; simp; omega) _
  have h5' := (Below.heap_alloc ((w2.alloc (.cells (ints startL).toArray 73)).alloc (.cells #[.string s] 9)) (.cells #[.string t] 9) B5 (by simp; omega)).trans ((Below.heap_alloc (w2.alloc (.cells (ints startL).toArray 73)) (.cells #[.string s] 9) B5 (by simp; omega)).trans h5)
  have hs5' := (Below.heap_alloc ((w2.alloc (.cells (ints startL).toArray 73)).alloc (.cells #[.string s] 9)) (.cells #[.string t] 9) (B5 + 1) (by simp; omega)).trans hs5
  have hsz : (((w2.alloc (.cells (ints startL).toArray 73)).alloc (.cells #[.string s] 9)).alloc (.cells #[.string t] 9)).heap.size = B5 + 1 + 1 + 1 := by simp [hB5]
  have hle5 : w.heap.size ≤ B5 := by rw [hB5]; exact HW2.out.size
  change Code.wpIn _ _ _ _ _ _ (((w2.alloc (.cells (ints startL).toArray 73)).alloc (.cells #[.string s] 9)).alloc (.cells #[.string t] 9))
  simp only [← hB5]
  generalize ((w2.alloc (.cells (ints startL).toArray 73)).alloc (.cells #[.string s] 9)).alloc (.cells #[.string t] 9) = w3 at hW3 h5' hs5' hb5 hsz ⊢
  clear h5 hs5 ht hB5
  have Hsz := Lib.hid hsz
  refine wpIn_rangeFunc_ownF rfl (by omega) (gf := 67) (lb := #[.pointer (some ⟨B5 + 1, 0, none⟩), .pointer (some ⟨B5 + 1 + 1, 0, none⟩)]) rfl trivial (enters_of Tryd.func67 (by kernel_rfl) rfl)
    (encs := fun x : Blk => #[.string x.1]) (Kp := KeepB [B5 + 1 + 1]) (S := fun ys => ys = blksTo (s.data.toList ++ t.data.toList) N) (Sp := fun _ => True) (N := N) (w0 := w3)
    (fun l J Jx W hW _ _ hY h0 => blocks1_in Fence.wide 2 trivial rfl (by omega) l (B5 + 1) (B5 + 1 + 1) N s t hs hts htl J Jx hY W (cell_of_one (cells_below hs5' hW)) (cell_of_one (cells_below hb5 hW)) h0)
    keepB_t (keepB_b (by simp [hsz])) (Below.refl _ _) (fun _ => rfl)
    (fun pre W => W.heap[B5]? = some (.cells (ints (stepsL pre)).toArray 73 (0, 0)) ∧ Below w.heap.size w W ∧ B5 + 1 + 1 < W.heap.size)
    (fun _ _ _ => False)
    (OwnFrom.and (Own.from (own_block _ _ _) _) (OwnFrom.and (ownFrom_below (Nat.le_refl _) (by omega)) (fun _ _ _ _ hs hg _ => Nat.lt_of_lt_of_le hs hg.size)))
    (fun _ _ _ _ _ hs _ _ => hs)
    ⟨h5', hW3, by omega⟩ ?a1 ?assign ?body ?done ?stop
  case assign =>
    intro l x W K hK
    gi_wp2
    exact hK
  case body =>
    rintro l pre x W ⟨h5, hB, hWs⟩ hlen
    have Hsn := Lib.hid (stepsL_snoc pre x)
    obtain ⟨y0, y1, y2, y3, y4, y5, y6, y7, hy, _⟩ := words8_open (stepL_words (stepsL_words pre) x.1.data.toList)
    have Hy := Lib.hid hy
    have hws := stepsL_words pre
    have Hws := Lib.hid hws
    obtain ⟨x0, x1, x2, x3, x4, x5, x6, x7, hx, _⟩ := words8_open hws
    rw [hx] at h5
    have Hx := Lib.hid hx
    obtain ⟨⟨c0, c1, c2, c3, c4, c5, c6, c7⟩, f0, f1, f2, f3, f4, f5, f6, f7⟩ := eight_cells h5
    have H5 := Lib.hid h5
    clear h5 hy hx hws
    have hd : 1 ≤ 3 - 1 - 1 := by omega
    gi_wp2_with (refine ⟨trivial, ?_⟩; gi_at_call 39; refine (CallsIn.inRound l (callsIn_wide.2 (by have := step_any (stepsL pre) x.1 W (HR.out.below hB) Hws.out x.2; rw [Hx.out] at this; exact this))).mono ?_; rintro e w' ⟨rfl, hb⟩; have H5' := hblk_below H5 hb; clear c0 c1 c2 c3 c4 c5 c6 c7 f0 f1 f2 f3 f4 f5 f6 f7; obtain ⟨⟨c0, c1, c2, c3, c4, c5, c6, c7⟩, f0, f1, f2, f3, f4, f5, f6, f7⟩ := eight_cells H5'.out; rw [show (ints (stepL [x0, x1, x2, x3, x4, x5, x6, x7] x.1.data.toList)).toArray = #[.int .i64 y0, .int .i64 y1, .int .i64 y2, .int .i64 y3, .int .i64 y4, .int .i64 y5, .int .i64 y6, .int .i64 y7] by rw [← Hx.out, Hy.out]; rfl])
    rename_i w'
    have hG := gb_trans (gb_of_below hb (some B5)) (set8_by w' B5 y0 y1 y2 y3 y4 y5 y6 y7)
    have h8 := set8_at (xs := [x0, x1, x2, x3, x4, x5, x6, x7]) rfl H5'.out y0 y1 y2 y3 y4 y5 y6 y7
    have hGs := hG.size
    refine ⟨KeepsOthers.of_grownBy hG (fun j o e ho => ?_), keepB_gb ?_ ?_ hG, ?_, ?_, Nat.lt_of_lt_of_le hWs hGs⟩
    · obtain rfl := Option.some.inj e
      rw [H5.out] at ho
      obtain rfl := Option.some.inj ho
      rfl
    · simp; omega
    · simp; omega
    · rw [Hsn.out, Hy.out]; exact h8
    · exact hB.trans (grownBy_below' hG hle5 hB.size)
  case done =>
    rintro D ys W hD rfl ⟨h5, hB, _⟩ hK
    have hN2 := HN.out
    have Hto := Lib.hid (stepsL_to (s.data.toList ++ t.data.toList) N (by rw [List.length_append, len_data, len_data]; omega))
    have Hws := Lib.hid (stepsL_words (blksTo (s.data.toList ++ t.data.toList) N))
    generalize stepsL (blksTo (s.data.toList ++ t.data.toList) N) = st at h5 Hto Hws
    have HRd : Hid (Rd W (some ⟨B5, 0, none⟩) (ints st)) := Lib.hid (by
      intro j u hu
      have hj : j < st.length := by
        rcases Nat.lt_or_ge j st.length with h | h
        · exact h
        · simp [ints, h] at hu
      refine ⟨B5, 0, rfl, ?_⟩
      rw [Nat.zero_add, (ints_cell h5 hj).1]
      simpa [ints, hj] using hu)
    have HK := Lib.hid hK
    clear h5 hK
    gi_wp2_with (refine ⟨trivial, ?_⟩; gi_at_call 35; refine (callsIn_wide.2 (join_true _ _ _ st _ HRd.out Hws.out.1.symm (by rw [Hws.out.1]; decide) (all_wd Hws.out.2))).mono ?_; rintro e w' ⟨rfl, hb⟩)
    have hK' := cells_below HK.out hb
    refine ⟨by simp, .inl ⟨_, _, rfl, run_takeDeferred hK', ?_⟩⟩
    refine ⟨_, results_tmp rfl _ _ _, ?_, (Below.chain hB hb).trans (belowK_b (w := w) (Nat.le_refl _) _ D _ _ (by omega) hK' rfl rfl)⟩
    rw [Hto.out, sumL]
    show Ending.returned (.string (bs (joinL (stTo (s.data.toList ++ t.data.toList) N) true))) = _
    have e1 : padL s.data.toList.length = t.data.toList := by rw [Ht.out]; rfl
    have e2 : (s.data.toList.length + t.data.toList.length) / 64 = N := by rw [len_data, len_data]; omega
    rw [e1, e2]
  case stop =>
    rintro D c pre W _ _ h _
    exact h.elim
theorem joinL_len (xs : List Int) (high : Bool) : (joinL xs high).length = 4 * xs.length := joinL_length xs high
theorem sumL_len (s : List UInt8) : (sumL s).length = 32 := by
  rw [sumL, joinL_length]
  have : ∀ l k, (stTo l k).length = 8 := fun l k => by
    cases k with
    | zero => rfl
    | succ k => exact addsTo_len _ _ _
  rw [this]
end Go.Proofs.YtkeeejkijbaooaaDoor
