/-
  Contract of digest.spread: the 64 words of a block.
-/
import Derived.Test.YtkeeejkijbaooaaDoorGen
import Derived.Test.YtkeeejkijbaooaaDoorSha
import Derived.Deep.RegionLaw
namespace Go.Proofs.YtkeeejkijbaooaaDoor
open Go.RowKit
set_option linter.unusedVariables false

set_option maxHeartbeats 2000000 in
set_option maxRecDepth 100000 in
theorem spread_any (s : ByteArray) (w : World) (hs : s.size = 64) :
    Calls Tryd.prog 68 #[.string s] w fun e w' => e = .returned (.agg (ints (wTo (cutL s.data.toList true 16) 48)).toArray) ∧ Below w.heap.size w w' := by
  have Hs := Lib.hid hs
  clear hs
  go_enter Tryd.func68, Tryd.ntmps68
  go_wp2_with fail
  refine (cut_true s _ (by rw [Hs.out]) (by rw [Hs.out]; decide)).mono ?_
  rintro e w2 ⟨g, rfl, hg, hrow, hw2⟩
  rw [len_data, Hs.out] at hrow
  rw [len_data, Hs.out]
  have HR : Hid (w2.heap[w.heap.size]? = some (.cells zeros64 119 (0, 0))) := keep_two hw2
  have hlt0 : w.heap.size + 1 < w2.heap.size := by have := hw2.size; simp at this; omega
  have HS : Hid (w2.heap[w.heap.size + 1]? = some (.cells zeros64 119 (0, 0))) := by
    exact keep_one' hw2 (by simp)
  have HW := Lib.hid (below_two hw2)
  have Hrow := Lib.hid hrow
  clear hrow hw2 hg
  obtain ⟨S, hS⟩ : ∃ S, S = w.heap.size + 1 := ⟨_, rfl⟩
  rw [← hS] at HS hlt0 ⊢
  have hRS : w.heap.size ≠ S := by omega
  have hle : w.heap.size ≤ S := by omega
  clear hS
  obtain ⟨w3, hcp, hS3, hk3⟩ := copy_first (w := w2) 64 64 _ (cutL s.data.toList true 16) HS.out (rd_cut Hrow.out (by rw [len_data, Hs.out])) (by simp [cutL, zeros64]) (show 16 = _ by simp [cutL]) (by omega)
  have HW3 := Lib.hid (HW.out.trans (grownBy_below' hk3 (by omega) HW.out.size))
  have HR3 := Lib.hid ((hk3.block w.heap.size (cell_lt_of HR.out) (fun e => by injection e; omega)).trans HR.out)
  have HS3 : Hid (w3.heap[S]? = some (.cells (ints (wTo (cutL s.data.toList true 16) 0)).toArray 119 (0, 0))) := by
    have h := hS3
    rw [show (ints (cutL s.data.toList true 16) ++ zeros64.toList.drop (cutL s.data.toList true 16).length) = ints (wTo (cutL s.data.toList true 16) 0) by simp [wTo, ints, cutL, zeros64]] at h
    exact h
  have Hl : Hid ((cutL s.data.toList true 16).length = 16) := Lib.hid (by simp [cutL])
  have Hwd := Lib.hid (cutL_words s.data.toList true 16)
  generalize hle' : cutL s.data.toList true 16 = l at HS3 Hl Hwd
  have Hle' := Lib.hid hle'
  clear hle'
  clear hS3 hk3 HR HS HW Hrow
  go_wp2_with fail
  go_loopw [6] (fun i wr => ∃ k : Nat, k ≤ 48 ∧ i = .int .i64 ((16 + k : Nat) : Int) ∧ wr.heap[S]? = some (.cells (ints (wTo l k)).toArray 119 (0, 0)) ∧ wr.heap[w.heap.size]? = some (.cells zeros64 119 (0, 0)) ∧ Below w.heap.size w wr) (fun i _ => 64 - (intOf i).toNat)
  case atStart => exact ⟨0, by omega, rfl, HS3.out, HR3.out, HW3.out⟩
  case round =>
    obtain ⟨k, hk, rfl, hSr, hRr, hWr⟩ := hrel
    have hSl := cell_lt_of hSr
    by_cases hlt : k < 48
    · have hlen := wTo_len l Hl.out k
      have hwd := wTo_wd l Hwd.out k
      obtain ⟨j, hj⟩ : ∃ j, j = 16 + k := ⟨_, rfl⟩
      obtain ⟨a16, h16⟩ : ∃ a, a = j - 16 := ⟨_, rfl⟩
      obtain ⟨a15, h15⟩ : ∃ a, a = j - 15 := ⟨_, rfl⟩
      obtain ⟨a7, h7⟩ : ∃ a, a = j - 7 := ⟨_, rfl⟩
      obtain ⟨a2, h2⟩ : ∃ a, a = j - 2 := ⟨_, rfl⟩
      have c16 := (ints_cell hSr (i := a16) (by omega)).1
      have c15 := (ints_cell hSr (i := a15) (by omega)).1
      have c7 := (ints_cell hSr (i := a7) (by omega)).1
      have c2 := (ints_cell hSr (i := a2) (by omega)).1
      have Hstep := Lib.hid (show wTo l (k + 1) = (wTo l k).set j (addI [(wTo l k).getD a16 0, s0I ((wTo l k).getD a15 0), (wTo l k).getD a7 0, s1I ((wTo l k).getD a2 0)]) by
        rw [wTo, wNext, ← hj, ← h16, ← h15, ← h7, ← h2])
      have W16 := Lib.hid (wd_get hwd a16)
      have W15 := Lib.hid (wd_get hwd a15)
      have W7 := Lib.hid (wd_get hwd a7)
      have W2 := Lib.hid (wd_get hwd a2)
      generalize (wTo l k).getD a16 0 = x16 at c16 Hstep W16
      generalize (wTo l k).getD a15 0 = x15 at c15 Hstep W15
      generalize (wTo l k).getD a7 0 = x7 at c7 Hstep W7
      generalize (wTo l k).getD a2 0 = x2 at c2 Hstep W2
      rw [← hj]
      have b16 : IntKind.i64.wrap ((j : Int) - 16) = (a16 : Int) := by rw [IntWalk.i64_in _ (by omega)]; omega
      have b15 : IntKind.i64.wrap ((j : Int) - 15) = (a15 : Int) := by rw [IntWalk.i64_in _ (by omega)]; omega
      have b7 : IntKind.i64.wrap ((j : Int) - 7) = (a7 : Int) := by rw [IntWalk.i64_in _ (by omega)]; omega
      have b2 : IntKind.i64.wrap ((j : Int) - 2) = (a2 : Int) := by rw [IntWalk.i64_in _ (by omega)]; omega
      have d16 : (a16 : Int) < 64 := by omega
      have d15 : (a15 : Int) < 64 := by omega
      have d7 : (a7 : Int) < 64 := by omega
      have d2 : (a2 : Int) < 64 := by omega
      have dj : (j : Int) < 64 := by omega
      have n16 : (⟨S, j, none⟩ : Addr) ≠ ⟨S, a16, none⟩ := fun e => by injection e with _ e; omega
      have n7 : (⟨S, j, none⟩ : Addr) ≠ ⟨S, a7, none⟩ := fun e => by injection e with _ e; omega
      have HSr := Lib.hid hSr
      have HRr := Lib.hid hRr
      have HB := hWr
      have Hlen := Lib.hid hlen
      have hj16 : 16 ≤ j := by omega
      have Hj := Lib.hid hj
      clear hSr hRr hWr hwd hlen h16 h15 h7 h2 hj
      go_wp2_with fail
      go_quiet (fail)
      rename_i nq
      replace HB := below_drewN HB nq
      replace HSr : Hid ((wr.drewN nq).heap[S]? = _) := HSr
      replace HRr : Hid ((wr.drewN nq).heap[w.heap.size]? = _) := HRr
      replace c16 : (wr.drewN nq).cell? _ = _ := c16
      replace c7 : (wr.drewN nq).cell? _ = _ := c7
      clear c15 c2
      generalize wr.drewN nq = wq at HB HSr HRr c16 c7 ⊢
      go_wp2_with fail
      replace HB := HB.drew
      replace HSr : Hid (wq.drew.heap[S]? = _) := HSr
      replace HRr : Hid (wq.drew.heap[w.heap.size]? = _) := HRr
      go_region_held3 (fun w' => w'.cell? ⟨S, a16, none⟩ = some (.int .i64 x16) ∧ w'.cell? ⟨S, a7, none⟩ = some (.int .i64 x7))
        (first | exact ⟨c16, c7⟩ | exact keep2_below (by assumption) (by assumption) | exact keep2_alloc (by assumption) | exact keep2_set (by assumption) n16 n7)
        (first
          | (go_at_call 71; refine (back_any _ _ _ (by first | exact W15.out | exact W2.out) (by omega) (by omega)).mono ?_; rintro e w' ⟨rfl, hb⟩; replace HSr := hblk_below HSr hb; replace HRr := hblk_below HRr hb; replace HB := Below.chain HB hb)
          | (go_at_call 91; refine (fall_any _ _ _ (by first | exact W15.out | exact W2.out) (by omega) (by omega)).mono ?_; rintro e w' ⟨rfl, hb⟩; replace HSr := hblk_below HSr hb; replace HRr := hblk_below HRr hb; replace HB := Below.chain HB hb)
          | (go_at_call 70; refine (dxor_any _ _ _ [_, _, _] _ (by exact rd_new' _ _ _ _ (by simp)) rfl (by simp) (by first | exact wd3 (wd_rot _ W15.out) (wd_rot _ W15.out) (wd_fall _ W15.out) | exact wd3 (wd_rot _ W2.out) (wd_rot _ W2.out) (wd_fall _ W2.out))).mono ?_; rintro e w' ⟨rfl, hb⟩; replace HSr := hblk_alloc HSr hb; replace HRr := hblk_alloc HRr hb; replace HB := Below.chain_alloc HB hb)
          | (go_at_call 69; refine (dadd_any _ _ _ [_, _, _, _] _ (by exact rd_new' _ _ _ _ (by simp)) rfl (by simp) (by exact wd4 W16.out (wd_s0 W15.out) W7.out (wd_s1 W2.out))).mono ?_; rintro e w' ⟨rfl, hb⟩; replace HSr := hblk_alloc HSr hb; replace HRr := hblk_alloc HRr hb; replace HB := Below.chain_alloc HB hb; have hcj := (ints_cell HSr.out (i := j) (by have := Hlen.out; omega)).1; have hfj := (ints_cell HSr.out (i := j) (by have := Hlen.out; omega)).2))
      rename_i W
      go_wp2_with fail
      have e1 := ints_set HSr.out j (addI [x16, s0I x15, x7, s1I x2])
      rw [← Hstep.out] at e1
      have e2 := (Below.heap_setCell _ ⟨S, j, none⟩ (.int .i64 (addI [x16, s0I x15, x7, s1I x2])) w.heap.size hRS).trans HRr.out
      have e3 := HB.setCell (p := ⟨S, j, none⟩) (by simp only; omega) (.int .i64 (addI [x16, s0I x15, x7, s1I x2]))
      go_roundw
      case rel => exact ⟨k + 1, by omega, by rw [Hj.out]; go_num, e1, e2, e3⟩
      case measure => have := Hj.out; simp [intOf]; omega
    · obtain rfl : k = 48 := by omega
      have Hsz := Lib.hid (show (Tryd.prog.info? 119).map (·.size) = some (ints (wTo l 48)).toArray.size by rw [ints_size, wTo_len l Hl.out]; kernel_rfl)
      have Hs0 := Lib.hid (show (ints (wTo l 48)).toArray.size = zeros64.size by rw [ints_size, wTo_len l Hl.out]; rfl)
      have H1c := Lib.hid (ints_one (wTo l 48))
      have HSr := Lib.hid hSr
      have HRr := Lib.hid hRr
      have HWr := Lib.hid hWr
      clear hSr hRr hWr
      obtain ⟨arr, harr⟩ : ∃ arr, arr = (ints (wTo l 48)).toArray := ⟨_, rfl⟩
      rw [← harr] at Hsz Hs0 H1c HSr
      have Harr := Lib.hid harr
      clear harr
      go_wp2_with (first
        | (refine wpList_load_row (by rfl) 119 (.tmp 3) (by rfl) S (by rfl) 119 arr (0, 0) _ HSr.out Tryd.underlying119 rfl Hsz.out ?_)
        | (refine wpList_store_whole (by rfl) 119 (.tmp 2) (.tmp 57) (by rfl) w.heap.size arr (by rfl) (by rfl) _ 119 (by exact HRr.out) (by exact Hs0.out) Hsz.out H1c.out ?_))
      intro w4 hR4 hG4
      have HR4 := Lib.hid hR4
      clear hR4
      go_wp2_with fail
      have hR4 := HR4.out
      have hr : w4.rangeAt w.heap.size 0 arr.toList := by simpa using World.rangeAt_of_block hR4 0 arr.size
      have hl := run_loadVar_mid (P := Tryd.prog) _ w.heap.size 0 119 arr.toList _ hr Tryd.underlying119 rfl (by simpa using Hsz.out)
      refine bodyPost_ret (res_cell1 rfl _ _ w.heap.size rfl _ hl) rfl ?_
      exact ⟨by rw [Harr.out, Hle'.out], HWr.out.trans (grownBy_below' hG4 (Nat.le_refl _) HWr.out.size)⟩
end Go.Proofs.YtkeeejkijbaooaaDoor
