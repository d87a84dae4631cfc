/-
  Contracts of package digest: the small functions, and the words of a block.
  Contract of digest.spread: the 64 words of a block.
  Contract of digest.Step: the state behind one block.
-/
import Derived.Test.YtieekajjoikepaaGreatDoorGen
import Derived.Test.YtieekajjoikepaaGreatDoorWd
import Derived.Deep.DrawnRows
import Derived.Deep.RegionLaw
namespace Go.Proofs.YtieekajjoikepaaGreatDoor
/- Sha -/
open Go.RowKit
set_option linter.unusedVariables false

theorem dadd_eq (A : Option Addr) (n c : Nat) (xs : List Int) (w : World) (h : Rd w A (ints xs)) (hn : n = xs.length) (hl : xs.length ≤ 9223372036854775807) (hw : wordsB xs = true) :
    Calls Tryz.prog 154 #[.slice A n c] w fun e w' => e = .returned (.int .i64 (addI xs)) ∧ w = w' := by
  have H := Lib.hid h
  have HW := Lib.hid hw
  have HN := Lib.hid hn
  clear h hw hn
  go_enter Tryz.func154, Tryz.ntmps154
  go_wp2_with fail
  refine (add_any A n c xs w H.out HN.out hl HW.out).mono ?_
  rintro e w' ⟨rfl, rfl⟩
  go_wp2_with fail
  go_ret
  exact ⟨rfl, rfl⟩
theorem dadd_any (A : Option Addr) (n c : Nat) (xs : List Int) (w : World) (h : Rd w A (ints xs)) (hn : n = xs.length) (hl : xs.length ≤ 9223372036854775807) (hw : wordsB xs = true) :
    Calls Tryz.prog 154 #[.slice A n c] w fun e w' => e = .returned (.int .i64 (addI xs)) ∧ Below w.heap.size w w' :=
  (dadd_eq A n c xs w h hn hl hw).mono fun _ _ h => ⟨h.1, below_of_eq h.2⟩
theorem dand_any (a b : Int) (w : World) (ha : Wd a) (hb : Wd b) :
    Calls Tryz.prog 157 #[.int .i64 a, .int .i64 b] w fun e w' => e = .returned (.int .i64 (andI a b)) ∧ Below w.heap.size w w' := by
  have HA := Lib.hid ha
  have HB := Lib.hid hb
  clear ha hb
  go_enter Tryz.func157, Tryz.ntmps157
  go_wp2_with fail
  refine (and_any a b w (wordsB2.2 ⟨HA.out, HB.out⟩)).mono ?_
  rintro e w' ⟨rfl, hb⟩
  go_wp2_with fail
  go_ret
  exact ⟨rfl, hb⟩
theorem back_any (x n : Int) (w : World) (hx : Wd x) (h0 : 0 ≤ n) (h1 : n ≤ 32) :
    Calls Tryz.prog 156 #[.int .i64 x, .int .i64 n] w fun e w' => e = .returned (.int .i64 (rotI x (32 - n))) ∧ Below w.heap.size w w' := by
  have HX := Lib.hid hx
  clear hx
  go_enter Tryz.func156, Tryz.ntmps156
  go_wp2_with fail
  refine (rot_any x (32 - n) w (wordsB1.2 HX.out) (by omega) (by omega)).mono ?_
  rintro e w' ⟨rfl, hb⟩
  go_wp2_with fail
  go_ret
  exact ⟨rfl, hb⟩

theorem fall_any (x n : Int) (w : World) (hx : Wd x) (hn : 0 ≤ n) (h1 : n ≤ 32) :
    Calls Tryz.prog 172 #[.int .i64 x, .int .i64 n] w fun e w' => e = .returned (.int .i64 (fallI x n)) ∧ Below w.heap.size w w' := by
  have h0 := hx.1
  have h2 := hx.2
  obtain ⟨m, rfl⟩ := Int.eq_ofNat_of_zero_le hn
  go_enter Tryz.func172, Tryz.ntmps172
  go_wp2_with fail
  go_ret
  refine ⟨ret_int ?_, Below.refl _ _⟩
  have hm : min m 64 = m := Nat.min_eq_left (by omega)
  have hf := wd_fall m hx
  unfold fallI Wd at hf
  unfold fallI
  first
    | (simp; done)
    | (rw [IntWalk.i64_in _ (by simp [hm] at hf ⊢; omega)]; simp [hm])

set_option maxHeartbeats 400000 in
theorem dxor_any (A : Option Addr) (n c : Nat) (xs : List Int) (w : World) (h : Rd w A (ints xs)) (hn : n = xs.length) (hl : xs.length ≤ 1000) (hw : wordsB xs = true) :
    Calls Tryz.prog 155 #[.slice A n c] w fun e w' => e = .returned (.int .i64 (xorL xs)) ∧ Below w.heap.size w w' := by
  subst hn
  have H := Lib.hid h
  have HW := Lib.hid (wd_all hw)
  clear h hw
  go_enter Tryz.func155, Tryz.ntmps155
  go_wp2
  go_loopw [3, 8] (fun s i wr => ∃ k : Nat, k ≤ xs.length ∧ i = .int .i64 k ∧ s = .int .i64 (xorL (xs.take k)) ∧ Below w.heap.size w wr) (fun _ i _ => xs.length - (intOf i).toNat)
  case atStart => exact ⟨0, Nat.zero_le _, rfl, rfl, Below.refl _ _⟩
  case round =>
    obtain ⟨k, hk, rfl, rfl, hb⟩ := hrel
    have HB := Lib.hid hb
    clear hb
    by_cases hlt : k < xs.length
    · obtain ⟨b, off, rfl, hc⟩ := (H.out.below HB.out).int_at hlt
      have Hs := Lib.hid (show xorL (xs.take (k + 1)) = xorI (xorL (xs.take k)) (xs.getD k 0) by
        rw [List.take_succ_eq_append_getElem hlt, xorL, List.foldl_append]
        simp [xorL, hlt])
      have Hx := Lib.hid (show Wd (xs.getD k 0) from by
        have : xs.getD k 0 = xs[k] := by simp [hlt]
        rw [this]
        exact HW.out _ (List.getElem_mem hlt))
      have Hp := Lib.hid (show Wd (xorL (xs.take k)) from wd_xorL fun x hx => HW.out x (List.mem_of_mem_take hx))
      generalize xs.getD k 0 = x at hc Hs Hx
      generalize xorL (xs.take k) = s at Hs Hp
      go_wp2_with fail
      refine (xor_any s x wr (wordsB2.2 ⟨Hp.out, Hx.out⟩)).mono ?_
      rintro e w' ⟨rfl, hb⟩
      have HB2 := Lib.hid (Below.chain HB.out hb)
      clear hb
      go_wp2_with fail
      go_roundw
      case rel => exact ⟨k + 1, by omega, by go_num, by rw [Hs.out], HB2.out⟩
      case measure => simp [intOf]; omega
    · go_wp2
      go_ret
      exact ⟨ret_int (by rw [List.take_of_length_le (by omega)]), HB.out⟩
/-- The same at a row that was just laid: two words, three words. -/
theorem dxor2_any (a b : Int) (c g : Nat) (w : World) (hg : w.heap.size = g) (ha : Wd a) (hb : Wd b) :
    Calls Tryz.prog 155 #[.slice (some ⟨g, 0, none⟩) 2 c] (w.alloc (.cells #[.int .i64 a, .int .i64 b] 3)) fun e w' => e = .returned (.int .i64 (xorL [a, b])) ∧ Below (w.alloc (.cells #[.int .i64 a, .int .i64 b] 3)).heap.size (w.alloc (.cells #[.int .i64 a, .int .i64 b] 3)) w' :=
  dxor_any _ _ _ [a, b] _ (rd_new' _ _ _ _ hg) rfl (by simp) (wordsB2.2 ⟨ha, hb⟩)
theorem dxor3_any (a b d : Int) (c g : Nat) (w : World) (hg : w.heap.size = g) (ha : Wd a) (hb : Wd b) (hd : Wd d) :
    Calls Tryz.prog 155 #[.slice (some ⟨g, 0, none⟩) 3 c] (w.alloc (.cells #[.int .i64 a, .int .i64 b, .int .i64 d] 3)) fun e w' => e = .returned (.int .i64 (xorL [a, b, d])) ∧ Below (w.alloc (.cells #[.int .i64 a, .int .i64 b, .int .i64 d] 3)).heap.size (w.alloc (.cells #[.int .i64 a, .int .i64 b, .int .i64 d] 3)) w' :=
  dxor_any _ _ _ [a, b, d] _ (rd_new' _ _ _ _ hg) rfl (by simp) (wd3 ha hb hd)
theorem dadd2_any (a b : Int) (c g : Nat) (w : World) (hg : w.heap.size = g) (ha : Wd a) (hb : Wd b) :
    Calls Tryz.prog 154 #[.slice (some ⟨g, 0, none⟩) 2 c] (w.alloc (.cells #[.int .i64 a, .int .i64 b] 3)) fun e w' => e = .returned (.int .i64 (addI [a, b])) ∧ Below (w.alloc (.cells #[.int .i64 a, .int .i64 b] 3)).heap.size (w.alloc (.cells #[.int .i64 a, .int .i64 b] 3)) w' :=
  dadd_any _ _ _ [a, b] _ (rd_new' _ _ _ _ hg) rfl (by simp) (wordsB2.2 ⟨ha, hb⟩)

/- Sha2 -/
open Go.RowKit
set_option linter.unusedVariables false

set_option maxHeartbeats 2000000 in
set_option maxRecDepth 100000 in
theorem spread_any (s : ByteArray) (w : World) (hs : s.size = 64) :
    Calls Tryz.prog 153 #[.string s] w fun e w' => e = .returned (.agg (ints (wTo (cutL s.data.toList true 16) 48)).toArray) ∧ Below w.heap.size w w' := by
  have Hs := Lib.hid hs
  clear hs
  go_enter Tryz.func153, Tryz.ntmps153
  go_wp2_with fail
  refine (cut_true s _ (by rw [Hs.out]) (by rw [Hs.out]; decide)).mono ?_
  rintro e w2 ⟨g, rfl, hg, hrow, hw2⟩
  rw [len_data, Hs.out] at hrow
  rw [len_data, Hs.out]
  have HR : Hid (w2.heap[w.heap.size]? = some (.cells zeros64 182 (0, 0))) := keep_two hw2
  have hlt0 : w.heap.size + 1 < w2.heap.size := by have := hw2.size; simp at this; omega
  have HS : Hid (w2.heap[w.heap.size + 1]? = some (.cells zeros64 182 (0, 0))) := by
    exact keep_one' hw2 (by simp)
  have HW := Lib.hid (below_two hw2)
  have Hrow := Lib.hid hrow
  clear hrow hw2 hg
  obtain ⟨S, hS⟩ : ∃ S, S = w.heap.size + 1 := ⟨_, rfl⟩
  rw [← hS] at HS hlt0 ⊢
  have hRS : w.heap.size ≠ S := by omega
  have hle : w.heap.size ≤ S := by omega
  clear hS
  obtain ⟨w3, hcp, hS3, hk3⟩ := copy_first (w := w2) 64 64 _ (cutL s.data.toList true 16) HS.out (rd_cut Hrow.out (by rw [len_data, Hs.out])) (by simp [cutL, zeros64]) (show 16 = _ by simp [cutL]) (by omega)
  have HW3 := Lib.hid (HW.out.trans (grownBy_below' hk3 (by omega) HW.out.size))
  have HR3 := Lib.hid ((hk3.block w.heap.size (cell_lt_of HR.out) (fun e => by injection e; omega)).trans HR.out)
  have HS3 : Hid (w3.heap[S]? = some (.cells (ints (wTo (cutL s.data.toList true 16) 0)).toArray 182 (0, 0))) := by
    have h := hS3
    rw [show (ints (cutL s.data.toList true 16) ++ zeros64.toList.drop (cutL s.data.toList true 16).length) = ints (wTo (cutL s.data.toList true 16) 0) by simp [wTo, ints, cutL, zeros64]] at h
    exact h
  have Hl : Hid ((cutL s.data.toList true 16).length = 16) := Lib.hid (by simp [cutL])
  have Hwd := Lib.hid (cutL_words s.data.toList true 16)
  generalize hle' : cutL s.data.toList true 16 = l at HS3 Hl Hwd
  have Hle' := Lib.hid hle'
  clear hle'
  clear hS3 hk3 HR HS HW Hrow
  go_wp2_with fail
  go_loopw [6] (fun i wr => ∃ k : Nat, k ≤ 48 ∧ i = .int .i64 ((16 + k : Nat) : Int) ∧ wr.heap[S]? = some (.cells (ints (wTo l k)).toArray 182 (0, 0)) ∧ wr.heap[w.heap.size]? = some (.cells zeros64 182 (0, 0)) ∧ Below w.heap.size w wr) (fun i _ => 64 - (intOf i).toNat)
  case atStart => exact ⟨0, by omega, rfl, HS3.out, HR3.out, HW3.out⟩
  case round =>
    obtain ⟨k, hk, rfl, hSr, hRr, hWr⟩ := hrel
    have hSl := cell_lt_of hSr
    by_cases hlt : k < 48
    · have hlen := wTo_len l Hl.out k
      have hwd := wTo_wd l Hwd.out k
      obtain ⟨j, hj⟩ : ∃ j, j = 16 + k := ⟨_, rfl⟩
      obtain ⟨a16, h16⟩ : ∃ a, a = j - 16 := ⟨_, rfl⟩
      obtain ⟨a15, h15⟩ : ∃ a, a = j - 15 := ⟨_, rfl⟩
      obtain ⟨a7, h7⟩ : ∃ a, a = j - 7 := ⟨_, rfl⟩
      obtain ⟨a2, h2⟩ : ∃ a, a = j - 2 := ⟨_, rfl⟩
      have c16 := (ints_cell hSr (i := a16) (by omega)).1
      have c15 := (ints_cell hSr (i := a15) (by omega)).1
      have c7 := (ints_cell hSr (i := a7) (by omega)).1
      have c2 := (ints_cell hSr (i := a2) (by omega)).1
      have Hstep := Lib.hid (show wTo l (k + 1) = (wTo l k).set j (addI [(wTo l k).getD a16 0, s0I ((wTo l k).getD a15 0), (wTo l k).getD a7 0, s1I ((wTo l k).getD a2 0)]) by
        rw [wTo, wNext, ← hj, ← h16, ← h15, ← h7, ← h2])
      have W16 := Lib.hid (wd_get hwd a16)
      have W15 := Lib.hid (wd_get hwd a15)
      have W7 := Lib.hid (wd_get hwd a7)
      have W2 := Lib.hid (wd_get hwd a2)
      generalize (wTo l k).getD a16 0 = x16 at c16 Hstep W16
      generalize (wTo l k).getD a15 0 = x15 at c15 Hstep W15
      generalize (wTo l k).getD a7 0 = x7 at c7 Hstep W7
      generalize (wTo l k).getD a2 0 = x2 at c2 Hstep W2
      rw [← hj]
      have b16 : IntKind.i64.wrap ((j : Int) - 16) = (a16 : Int) := by rw [IntWalk.i64_in _ (by omega)]; omega
      have b15 : IntKind.i64.wrap ((j : Int) - 15) = (a15 : Int) := by rw [IntWalk.i64_in _ (by omega)]; omega
      have b7 : IntKind.i64.wrap ((j : Int) - 7) = (a7 : Int) := by rw [IntWalk.i64_in _ (by omega)]; omega
      have b2 : IntKind.i64.wrap ((j : Int) - 2) = (a2 : Int) := by rw [IntWalk.i64_in _ (by omega)]; omega
      have d16 : (a16 : Int) < 64 := by omega
      have d15 : (a15 : Int) < 64 := by omega
      have d7 : (a7 : Int) < 64 := by omega
      have d2 : (a2 : Int) < 64 := by omega
      have dj : (j : Int) < 64 := by omega
      have n16 : (⟨S, j, none⟩ : Addr) ≠ ⟨S, a16, none⟩ := fun e => by injection e with _ e; omega
      have n7 : (⟨S, j, none⟩ : Addr) ≠ ⟨S, a7, none⟩ := fun e => by injection e with _ e; omega
      have HSr := Lib.hid hSr
      have HRr := Lib.hid hRr
      have HB := hWr
      have Hlen := Lib.hid hlen
      have hj16 : 16 ≤ j := by omega
      have Hj := Lib.hid hj
      clear hSr hRr hWr hwd hlen h16 h15 h7 h2 hj
      go_wp2_with fail
      go_quiet (fail)
      rename_i nq
      replace HB := below_drewN HB nq
      replace HSr : Hid ((wr.drewN nq).heap[S]? = _) := HSr
      replace HRr : Hid ((wr.drewN nq).heap[w.heap.size]? = _) := HRr
      replace c16 : (wr.drewN nq).cell? _ = _ := c16
      replace c7 : (wr.drewN nq).cell? _ = _ := c7
      clear c15 c2
      generalize wr.drewN nq = wq at HB HSr HRr c16 c7 ⊢
      go_wp2_with fail
      replace HB := HB.drew
      replace HSr : Hid (wq.drew.heap[S]? = _) := HSr
      replace HRr : Hid (wq.drew.heap[w.heap.size]? = _) := HRr
      go_region_held3 (fun w' => w'.cell? ⟨S, a16, none⟩ = some (.int .i64 x16) ∧ w'.cell? ⟨S, a7, none⟩ = some (.int .i64 x7))
        (first | exact ⟨c16, c7⟩ | exact keep2_below (by assumption) (by assumption) | exact keep2_alloc (by assumption) | exact keep2_set (by assumption) n16 n7)
        (first
          | (go_at_call 156; refine (back_any _ _ _ (by first | exact W15.out | exact W2.out) (by omega) (by omega)).mono ?_; rintro e w' ⟨rfl, hb⟩; replace HSr := hblk_below HSr hb; replace HRr := hblk_below HRr hb; replace HB := Below.chain HB hb)
          | (go_at_call 172; refine (fall_any _ _ _ (by first | exact W15.out | exact W2.out) (by omega) (by omega)).mono ?_; rintro e w' ⟨rfl, hb⟩; replace HSr := hblk_below HSr hb; replace HRr := hblk_below HRr hb; replace HB := Below.chain HB hb)
          | (go_at_call 155; refine (dxor_any _ _ _ [_, _, _] _ (by exact rd_new' _ _ _ _ (by simp)) rfl (by simp) (by first | exact wd3 (wd_rot _ W15.out) (wd_rot _ W15.out) (wd_fall _ W15.out) | exact wd3 (wd_rot _ W2.out) (wd_rot _ W2.out) (wd_fall _ W2.out))).mono ?_; rintro e w' ⟨rfl, hb⟩; replace HSr := hblk_alloc HSr hb; replace HRr := hblk_alloc HRr hb; replace HB := Below.chain_alloc HB hb)
          | (go_at_call 154; refine (dadd_any _ _ _ [_, _, _, _] _ (by exact rd_new' _ _ _ _ (by simp)) rfl (by simp) (by exact wd4 W16.out (wd_s0 W15.out) W7.out (wd_s1 W2.out))).mono ?_; rintro e w' ⟨rfl, hb⟩; replace HSr := hblk_alloc HSr hb; replace HRr := hblk_alloc HRr hb; replace HB := Below.chain_alloc HB hb; have hcj := (ints_cell HSr.out (i := j) (by have := Hlen.out; omega)).1; have hfj := (ints_cell HSr.out (i := j) (by have := Hlen.out; omega)).2))
      rename_i W
      go_wp2_with fail
      have e1 := ints_set HSr.out j (addI [x16, s0I x15, x7, s1I x2])
      rw [← Hstep.out] at e1
      have e2 := (Below.heap_setCell _ ⟨S, j, none⟩ (.int .i64 (addI [x16, s0I x15, x7, s1I x2])) w.heap.size hRS).trans HRr.out
      have e3 := HB.setCell (p := ⟨S, j, none⟩) (by simp only; omega) (.int .i64 (addI [x16, s0I x15, x7, s1I x2]))
      go_roundw
      case rel => exact ⟨k + 1, by omega, by rw [Hj.out]; go_num, e1, e2, e3⟩
      case measure => have := Hj.out; simp [intOf]; omega
    · obtain rfl : k = 48 := by omega
      have Hsz := Lib.hid (show (Tryz.prog.info? 182).map (·.size) = some (ints (wTo l 48)).toArray.size by rw [ints_size, wTo_len l Hl.out]; kernel_rfl)
      have Hs0 := Lib.hid (show (ints (wTo l 48)).toArray.size = zeros64.size by rw [ints_size, wTo_len l Hl.out]; rfl)
      have H1c := Lib.hid (ints_one (wTo l 48))
      have HSr := Lib.hid hSr
      have HRr := Lib.hid hRr
      have HWr := Lib.hid hWr
      clear hSr hRr hWr
      obtain ⟨arr, harr⟩ : ∃ arr, arr = (ints (wTo l 48)).toArray := ⟨_, rfl⟩
      rw [← harr] at Hsz Hs0 H1c HSr
      have Harr := Lib.hid harr
      clear harr
      go_wp2_with (first
        | (refine wpList_load_row (by rfl) 182 (.tmp 3) (by rfl) S (by rfl) 182 arr (0, 0) _ HSr.out Tryz.underlying182 rfl Hsz.out ?_)
        | (refine wpList_store_whole (by rfl) 182 (.tmp 2) (.tmp 57) (by rfl) w.heap.size arr (by rfl) (by rfl) _ 182 (by exact HRr.out) (by exact Hs0.out) Hsz.out H1c.out ?_))
      intro w4 hR4 hG4
      have HR4 := Lib.hid hR4
      clear hR4
      go_wp2_with fail
      have hR4 := HR4.out
      have hr : w4.rangeAt w.heap.size 0 arr.toList := by simpa using World.rangeAt_of_block hR4 0 arr.size
      have hl := run_loadVar_mid (P := Tryz.prog) _ w.heap.size 0 182 arr.toList _ hr Tryz.underlying182 rfl (by simpa using Hsz.out)
      refine bodyPost_ret (res_cell1 rfl _ _ w.heap.size rfl _ hl) rfl ?_
      exact ⟨by rw [Harr.out, Hle'.out], HWr.out.trans (grownBy_below' hG4 (Nat.le_refl _) HWr.out.size)⟩

/- Sha3 -/
open Go.RowKit
set_option linter.unusedVariables false

def S1I (e : Int) : Int := xorL [rotI e 26, rotI e 21, rotI e 7]
def S0I (a : Int) : Int := xorL [rotI a 30, rotI a 19, rotI a 10]
def chI (e f g : Int) : Int := xorL [andI e f, andI (4294967295 - e) g]
def majI (a b c : Int) : Int := xorL [andI a b, andI a c, andI b c]
def uI (K W e f g h : Int) : Int := addI [h, S1I e, chI e f g, K, W]
def vI (a b c : Int) : Int := addI [S0I a, majI a b c]
theorem wd_not {e : Int} (h : Wd e) : Wd (4294967295 - e) := ⟨by have := h.2; omega, by have := h.1; omega⟩
theorem wd_S1 {p : Int} (h : Wd p) : Wd (S1I p) := wd_xorL (by simp; exact ⟨wd_rot _ h, wd_rot _ h, wd_rot _ h⟩)
theorem wd_S0 {p : Int} (h : Wd p) : Wd (S0I p) := wd_xorL (by simp; exact ⟨wd_rot _ h, wd_rot _ h, wd_rot _ h⟩)
theorem wd_ch {e f g : Int} (he : Wd e) (hf : Wd f) (hg : Wd g) : Wd (chI e f g) := wd_xorL (by simp; exact ⟨wd_and he hf, wd_and (wd_not he) hg⟩)
theorem wd_maj {a b c : Int} (ha : Wd a) (hb : Wd b) (hc : Wd c) : Wd (majI a b c) := wd_xorL (by simp; exact ⟨wd_and ha hb, wd_and ha hc, wd_and hb hc⟩)

/-- One round. -/
def rnd (K W : Int) : List Int → List Int
  | [a, b, c, d, e, f, g, h] => [addI [uI K W e f g h, vI a b c], a, b, c, addI [d, uI K W e f g h], e, f, g]
  | l => l
/-- The words of the rounds. -/
def roundsT : List Int := [0x428a2f98, 0x71374491, 0xb5c0fbcf, 0xe9b5dba5, 0x3956c25b, 0x59f111f1, 0x923f82a4, 0xab1c5ed5,
  0xd807aa98, 0x12835b01, 0x243185be, 0x550c7dc3, 0x72be5d74, 0x80deb1fe, 0x9bdc06a7, 0xc19bf174,
  0xe49b69c1, 0xefbe4786, 0x0fc19dc6, 0x240ca1cc, 0x2de92c6f, 0x4a7484aa, 0x5cb0a9dc, 0x76f988da,
  0x983e5152, 0xa831c66d, 0xb00327c8, 0xbf597fc7, 0xc6e00bf3, 0xd5a79147, 0x06ca6351, 0x14292967,
  0x27b70a85, 0x2e1b2138, 0x4d2c6dfc, 0x53380d13, 0x650a7354, 0x766a0abb, 0x81c2c92e, 0x92722c85,
  0xa2bfe8a1, 0xa81a664b, 0xc24b8b70, 0xc76c51a3, 0xd192e819, 0xd6990624, 0xf40e3585, 0x106aa070,
  0x19a4c116, 0x1e376c08, 0x2748774c, 0x34b0bcb5, 0x391c0cb3, 0x4ed8aa4a, 0x5b9cca4f, 0x682e6ff3,
  0x748f82ee, 0x78a5636f, 0x84c87814, 0x8cc70208, 0x90befffa, 0xa4506ceb, 0xbef9a3f7, 0xc67178f2]
theorem roundsT_wd : ∀ x ∈ roundsT, Wd x := by
  have h : roundsT.all (fun x => decide (0 ≤ x) && decide (x ≤ 4294967295)) = true := by decide +kernel
  intro x hx
  have := List.all_eq_true.1 h x hx
  simpa [Wd] using this
theorem roundsT_len : roundsT.length = 64 := rfl
/-- The table of the rounds lies in memory. -/
def Rounds (w : World) : Prop := w.rangeAt 1 0 (ints roundsT)
theorem Rounds.below {w w' : World} (h : Rounds w) (hb : Below w.heap.size w w') : Rounds w' := fun j v hv =>
  (hb.cell (p := ⟨1, 0 + j, none⟩) (cell_lt (h j v hv))).trans (h j v hv)
theorem Rounds.cell {w : World} (h : Rounds w) {k : Nat} (hk : k < 64) : w.cell? ⟨1, k, none⟩ = some (.int .i64 (roundsT.getD k 0)) := by
  have := h k (.int .i64 (roundsT.getD k 0)) (by
    have hk' : k < roundsT.length := hk
    rw [ints, List.getElem?_map]
    simp [List.getElem?_eq_getElem hk'])
  rwa [Nat.zero_add] at this

def rndsTo (ws st : List Int) : Nat → List Int
  | 0 => st
  | i + 1 => rnd (roundsT.getD i 0) (ws.getD i 0) (rndsTo ws st i)
def Words8 (st : List Int) : Prop := st.length = 8 ∧ ∀ x ∈ st, Wd x
theorem words8_open {st : List Int} (h : Words8 st) : ∃ a b c d e f g i, st = [a, b, c, d, e, f, g, i] ∧ Wd a ∧ Wd b ∧ Wd c ∧ Wd d ∧ Wd e ∧ Wd f ∧ Wd g ∧ Wd i := by
  match st, h.1 with
  | [a, b, c, d, e, f, g, i], _ => exact ⟨a, b, c, d, e, f, g, i, rfl, h.2 _ (by simp), h.2 _ (by simp), h.2 _ (by simp), h.2 _ (by simp), h.2 _ (by simp), h.2 _ (by simp), h.2 _ (by simp), h.2 _ (by simp)⟩
theorem words8_mk {a b c d e f g i : Int} (ha : Wd a) (hb : Wd b) (hc : Wd c) (hd : Wd d) (he : Wd e) (hf : Wd f) (hg : Wd g) (hi : Wd i) : Words8 [a, b, c, d, e, f, g, i] :=
  ⟨rfl, by simp; exact ⟨ha, hb, hc, hd, he, hf, hg, hi⟩⟩
theorem rnd_words {K W : Int} {st : List Int} (h : Words8 st) : Words8 (rnd K W st) := by
  obtain ⟨a, b, c, d, e, f, g, i, rfl, ha, hb, hc, hd, he, hf, hg, hi⟩ := words8_open h
  exact words8_mk (wd_add _) ha hb hc (wd_add _) he hf hg
theorem rnds_words {ws st : List Int} (h : Words8 st) : ∀ i, Words8 (rndsTo ws st i)
  | 0 => h
  | i + 1 => rnd_words (rnds_words h i)
/-- The sums of two states, the first i of them done. -/
def addsTo (st fin : List Int) (i : Nat) : List Int := (List.range 8).map fun j => if j < i then addI [st.getD j 0, fin.getD j 0] else fin.getD j 0
theorem addsTo_len (st fin : List Int) (i : Nat) : (addsTo st fin i).length = 8 := by simp [addsTo]
theorem addsTo_zero (st fin : List Int) (h : fin.length = 8) : addsTo st fin 0 = fin := by
  apply List.ext_getElem
  · simp [addsTo, h]
  · intro j h1 h2
    simp [addsTo, h2]
theorem addsTo_at (st fin : List Int) (i : Nat) (h : i < 8) : (addsTo st fin i).getD i 0 = fin.getD i 0 := by
  simp [addsTo, h]
theorem addsTo_set (st fin : List Int) (i : Nat) (h : i < 8) : (addsTo st fin i).set i (addI [st.getD i 0, fin.getD i 0]) = addsTo st fin (i + 1) := by
  apply List.ext_getElem
  · simp [addsTo]
  · intro j h1 h2
    rw [List.getElem_set]
    simp only [addsTo, List.getElem_map, List.getElem_range]
    by_cases e : i = j
    · subst e
      rw [if_pos rfl, if_pos (by omega)]
    · rw [if_neg e]
      by_cases e2 : j < i
      · rw [if_pos e2, if_pos (by omega)]
      · rw [if_neg e2, if_neg (by omega)]
theorem addsTo_words (st fin : List Int) (h : ∀ x ∈ fin, Wd x) (i : Nat) : Words8 (addsTo st fin i) := by
  refine ⟨addsTo_len _ _ _, fun x hx => ?_⟩
  obtain ⟨j, hj, rfl⟩ := List.mem_map.1 hx
  split
  · exact wd_add _
  · exact wd_get h j

/-- The state behind one block. -/
def stepL (st : List Int) (block : List UInt8) : List Int := addsTo st (rndsTo (wTo (cutL block true 16) 48) st 64) 8
theorem stepL_words {st : List Int} (h : Words8 st) (block : List UInt8) : Words8 (stepL st block) := addsTo_words _ _ (rnds_words h 64).2 8
def zeros8 : Array Value := #[.int .i64 0, .int .i64 0, .int .i64 0, .int .i64 0, .int .i64 0, .int .i64 0, .int .i64 0, .int .i64 0]

/-- Eight words in a block: its cells; and when all of them are written anew. -/
theorem eight_cells {w : World} {g : Nat} {t : TypeId} {a b c d e f i h : Int} (hg : w.heap[g]? = some (.cells (ints [a, b, c, d, e, f, i, h]).toArray t (0, 0))) :
    (w.cell? ⟨g, 0, none⟩ = some (.int .i64 a) ∧ w.cell? ⟨g, 1, none⟩ = some (.int .i64 b) ∧ w.cell? ⟨g, 2, none⟩ = some (.int .i64 c) ∧ w.cell? ⟨g, 3, none⟩ = some (.int .i64 d) ∧ w.cell? ⟨g, 4, none⟩ = some (.int .i64 e) ∧ w.cell? ⟨g, 5, none⟩ = some (.int .i64 f) ∧ w.cell? ⟨g, 6, none⟩ = some (.int .i64 i) ∧ w.cell? ⟨g, 7, none⟩ = some (.int .i64 h)) ∧
    w.frozen? ⟨g, 0, none⟩ = false ∧ w.frozen? ⟨g, 1, none⟩ = false ∧ w.frozen? ⟨g, 2, none⟩ = false ∧ w.frozen? ⟨g, 3, none⟩ = false ∧ w.frozen? ⟨g, 4, none⟩ = false ∧ w.frozen? ⟨g, 5, none⟩ = false ∧ w.frozen? ⟨g, 6, none⟩ = false ∧ w.frozen? ⟨g, 7, none⟩ = false :=
  have p := fun k (hk : k < 8) => ints_cell hg (i := k) hk
  ⟨⟨(p 0 (by omega)).1, (p 1 (by omega)).1, (p 2 (by omega)).1, (p 3 (by omega)).1, (p 4 (by omega)).1, (p 5 (by omega)).1, (p 6 (by omega)).1, (p 7 (by omega)).1⟩,
    (p 0 (by omega)).2, (p 1 (by omega)).2, (p 2 (by omega)).2, (p 3 (by omega)).2, (p 4 (by omega)).2, (p 5 (by omega)).2, (p 6 (by omega)).2, (p 7 (by omega)).2⟩
def set8 (w : World) (g : Nat) (a b c d e f i h : Int) : World :=
  (((((((w.setCell ⟨g, 0, none⟩ (.int .i64 a)).setCell ⟨g, 1, none⟩ (.int .i64 b)).setCell ⟨g, 2, none⟩ (.int .i64 c)).setCell ⟨g, 3, none⟩ (.int .i64 d)).setCell ⟨g, 4, none⟩ (.int .i64 e)).setCell ⟨g, 5, none⟩ (.int .i64 f)).setCell ⟨g, 6, none⟩ (.int .i64 i)).setCell ⟨g, 7, none⟩ (.int .i64 h)
theorem set8_at {w : World} {g : Nat} {t : TypeId} {xs : List Int} (hx : xs.length = 8) (hg : w.heap[g]? = some (.cells (ints xs).toArray t (0, 0))) (a b c d e f i h : Int) :
    (set8 w g a b c d e f i h).heap[g]? = some (.cells (ints [a, b, c, d, e, f, i, h]).toArray t (0, 0)) := by
  have := ints_set (ints_set (ints_set (ints_set (ints_set (ints_set (ints_set (ints_set hg 0 a) 1 b) 2 c) 3 d) 4 e) 5 f) 6 i) 7 h
  match xs, hx with
  | [x0, x1, x2, x3, x4, x5, x6, x7], _ => exact this
theorem gb_refl (w : World) (g : Nat) : w.grownBy w (some g) := ⟨rfl, rfl, rfl, Nat.le_refl _, fun _ _ _ => rfl⟩
theorem gb_set {w0 w : World} {g : Nat} (h : w0.grownBy w (some g)) (i : Nat) (v : Value) : w0.grownBy (w.setCell ⟨g, i, none⟩ v) (some g) :=
  ⟨h.os, h.tape, h.output, by simpa [World.setCell] using h.size, fun k hk hne => (Below.heap_setCell _ _ _ _ (fun e => hne (by rw [e]))).trans (h.block k hk hne)⟩
theorem set8_by (w : World) (g : Nat) (a b c d e f i h : Int) : w.grownBy (set8 w g a b c d e f i h) (some g) :=
  gb_set (gb_set (gb_set (gb_set (gb_set (gb_set (gb_set (gb_set (gb_refl w g) 0 _) 1 _) 2 _) 3 _) 4 _) 5 _) 6 _) 7 _

theorem set8_all {w W : World} {B7 B6 B2 B4 B : Nat} {t : TypeId} {o6 o2 o4 : Obj} {xs : List Int} (hx : xs.length = 8) (h7 : W.heap[B7]? = some (.cells (ints xs).toArray t (0, 0))) (h6 : W.heap[B6]? = some o6) (h2 : W.heap[B2]? = some o2) (h4 : W.heap[B4]? = some o4) (hB : Below B w W)
    (n6 : B6 ≠ B7) (n2 : B2 ≠ B7) (n4 : B4 ≠ B7) (hle : B ≤ B7) (hw : B ≤ W.heap.size) (a b c d e f i h : Int) :
    (set8 W B7 a b c d e f i h).heap[B7]? = some (.cells (ints [a, b, c, d, e, f, i, h]).toArray t (0, 0)) ∧ (set8 W B7 a b c d e f i h).heap[B6]? = some o6 ∧ (set8 W B7 a b c d e f i h).heap[B2]? = some o2 ∧ (set8 W B7 a b c d e f i h).heap[B4]? = some o4 ∧ Below B w (set8 W B7 a b c d e f i h) :=
  have hG := set8_by W B7 a b c d e f i h
  ⟨set8_at hx h7 a b c d e f i h, (hG.block _ (cell_lt_of h6) (fun e => n6 (Option.some.inj e))).trans h6, (hG.block _ (cell_lt_of h2) (fun e => n2 (Option.some.inj e))).trans h2, (hG.block _ (cell_lt_of h4) (fun e => n4 (Option.some.inj e))).trans h4, hB.trans (grownBy_below' hG hle hw)⟩

set_option maxHeartbeats 1000000 in
set_option maxRecDepth 100000 in
theorem step_ws (ws st : List Int) (s : ByteArray) (w : World) (hR : Rounds w) (hst : Words8 st) (hs : s.size = 64) (hwl : ws.length = 64) (hww : ∀ x ∈ ws, Wd x)
    (hsp : ∀ W, Calls Tryz.prog 153 #[.string s] W fun e w' => e = .returned (.agg (ints ws).toArray) ∧ Below W.heap.size W w') :
    Calls Tryz.prog 132 #[.agg (ints st).toArray, .string s] w fun e w' => e = .returned (.tuple #[.agg (ints (addsTo st (rndsTo ws st 64) 8)).toArray, .bool true]) ∧ Below w.heap.size w w' := by
  have Hsp := Lib.hid hsp
  have Hwl := Lib.hid hwl
  have Hww := Lib.hid hww
  clear hwl hww hsp
  have h64 : ((s.size : Int) != 64) = false := by simp [hs]
  have Hs := Lib.hid hs
  have HR := Lib.hid hR
  have Hst := Lib.hid hst
  obtain ⟨s0, s1, s2, s3, s4, s5, s6, s7, hst', _⟩ := words8_open hst
  have Hst' := Lib.hid hst'
  have HW := Lib.hid (all_wd hst.2)
  rw [show (ints st).toArray = #[.int .i64 s0, .int .i64 s1, .int .i64 s2, .int .i64 s3, .int .i64 s4, .int .i64 s5, .int .i64 s6, .int .i64 s7] by rw [hst']; rfl]
  clear hs hR hst hst'
  go_enter Tryz.func132, Tryz.ntmps132
  go_wp2_with fail
  refine (is_b _ _ _ st _ (by rw [Hst'.out]; exact (rd_new w _ _).below ((Below.refl _ _).alloc (Nat.le_refl _) _)) (by rw [Hst'.out]; rfl) (by rw [Hst'.out]; simp)).mono ?_
  rintro e w1 ⟨rfl, hw⟩
  rw [HW.out]
  have H2 := Lib.hid (keep_two hw)
  have H4 : Hid (w1.heap[w.heap.size + 1]? = some (.cells zeros8 155 (0, 0))) := keep_one' hw (by simp)
  have HB := Lib.hid (below_two hw)
  clear hw
  go_wp2_with fail
  refine (Hsp.out w1).mono ?_
  rintro e w2 ⟨rfl, hw2⟩
  replace H2 := hblk_below H2 hw2
  replace H4 := hblk_below H4 hw2
  replace HB := Lib.hid (Below.chain HB.out hw2)
  clear hw2
  have Hsz := Lib.hid (show (Tryz.prog.info? 182).map (·.size) = some (ints ws).toArray.size by rw [ints_size, Hwl.out]; kernel_rfl)
  have Hs0 := Lib.hid (show (ints ws).toArray.size = 64 by rw [ints_size, Hwl.out])
  have H1c := Lib.hid (ints_one ws)
  have hlt4 : w.heap.size + 1 < w2.heap.size := cell_lt_of H4.out
  obtain ⟨arr, harr⟩ : ∃ arr, arr = (ints ws).toArray := ⟨_, rfl⟩
  rw [← harr] at Hsz Hs0 H1c ⊢
  have Harr := Lib.hid harr
  clear harr
  go_wp2_with (refine wpList_store_whole (by rfl) 182 (.tmp 6) (.tmp 30) (by rfl) w2.heap.size arr (by rfl) (by rfl) _ 182 (by exact heap_alloc_new w2 _) (by exact Hs0.out) Hsz.out H1c.out ?_)
  intro w3 hS3 hG3
  rw [Harr.out] at hS3
  have hb3 : Below w2.heap.size w2 w3 := ((Below.refl _ _).alloc (Nat.le_refl _) _).trans (grownBy_below' hG3 (Nat.le_refl _) (by simp))
  obtain ⟨B6, hB6⟩ : ∃ B, B = w2.heap.size := ⟨_, rfl⟩
  rw [← hB6] at hS3 hlt4 ⊢
  have H6 := Lib.hid hS3
  have hlt6 : B6 < w3.heap.size := cell_lt_of hS3
  replace H2 := hblk_below H2 hb3
  replace H4 := hblk_below H4 hb3
  replace HB := Lib.hid (Below.chain HB.out hb3)
  clear hS3 hG3 hb3 hB6 Hsz Hs0 H1c
  have c20 : w3.cell? ⟨w.heap.size, 0, none⟩ = some (.int .i64 s0) := by unfold World.cell?; simp only [H2.out]; rfl
  have c21 : w3.cell? ⟨w.heap.size, 1, none⟩ = some (.int .i64 s1) := by unfold World.cell?; simp only [H2.out]; rfl
  have c22 : w3.cell? ⟨w.heap.size, 2, none⟩ = some (.int .i64 s2) := by unfold World.cell?; simp only [H2.out]; rfl
  have c23 : w3.cell? ⟨w.heap.size, 3, none⟩ = some (.int .i64 s3) := by unfold World.cell?; simp only [H2.out]; rfl
  have c24 : w3.cell? ⟨w.heap.size, 4, none⟩ = some (.int .i64 s4) := by unfold World.cell?; simp only [H2.out]; rfl
  have c25 : w3.cell? ⟨w.heap.size, 5, none⟩ = some (.int .i64 s5) := by unfold World.cell?; simp only [H2.out]; rfl
  have c26 : w3.cell? ⟨w.heap.size, 6, none⟩ = some (.int .i64 s6) := by unfold World.cell?; simp only [H2.out]; rfl
  have c27 : w3.cell? ⟨w.heap.size, 7, none⟩ = some (.int .i64 s7) := by unfold World.cell?; simp only [H2.out]; rfl
  go_wp2_with fail
  have H7 : Hid ((w3.alloc (.cells #[.int .i64 s0, .int .i64 s1, .int .i64 s2, .int .i64 s3, .int .i64 s4, .int .i64 s5, .int .i64 s6, .int .i64 s7] 155)).heap[w3.heap.size]? = some (.cells (ints st).toArray 155 (0, 0))) := by
    rw [Hst'.out]
    exact heap_alloc_new w3 _
  have hb4 : Below w3.heap.size w3 (w3.alloc (.cells #[.int .i64 s0, .int .i64 s1, .int .i64 s2, .int .i64 s3, .int .i64 s4, .int .i64 s5, .int .i64 s6, .int .i64 s7] 155)) := (Below.refl _ _).alloc (Nat.le_refl _) _
  rw [show #[Value.int .i64 s0, .int .i64 s1, .int .i64 s2, .int .i64 s3, .int .i64 s4, .int .i64 s5, .int .i64 s6, .int .i64 s7] = (ints st).toArray by rw [Hst'.out]; rfl] at H2
  replace H2 := hblk_below H2 hb4
  replace H4 := hblk_below H4 hb4
  replace H6 := hblk_below H6 hb4
  replace HB := Lib.hid (Below.chain HB.out hb4)
  obtain ⟨B7, hB7⟩ : ∃ B, B = w3.heap.size := ⟨_, rfl⟩
  rw [← hB7] at H7 hlt6 ⊢
  generalize w3.alloc (.cells #[.int .i64 s0, .int .i64 s1, .int .i64 s2, .int .i64 s3, .int .i64 s4, .int .i64 s5, .int .i64 s6, .int .i64 s7] 155) = w4 at H2 H4 H6 H7 HB ⊢
  clear hb4 c20 c21 c22 c23 c24 c25 c26 c27 hB7
  go_loopw [32] (fun i wr => ∃ k : Nat, k ≤ 64 ∧ i = .int .i64 k ∧ wr.heap[B7]? = some (.cells (ints (rndsTo ws st k)).toArray 155 (0, 0)) ∧ wr.heap[B6]? = some (.cells (ints ws).toArray 182 (0, 0)) ∧ wr.heap[w.heap.size]? = some (.cells (ints st).toArray 155 (0, 0)) ∧ wr.heap[w.heap.size + 1]? = some (.cells zeros8 155 (0, 0)) ∧ Below w.heap.size w wr) (fun i _ => 64 - (intOf i).toNat)
  case atStart => exact ⟨0, by omega, rfl, H7.out, H6.out, H2.out, H4.out, HB.out⟩
  case round =>
    obtain ⟨k, hk, rfl, h7, h6, h2, h4, hB⟩ := hrel
    replace H7 := Lib.hid h7
    replace H6 := Lib.hid h6
    replace H2 := Lib.hid h2
    replace H4 := Lib.hid h4
    replace HB := Lib.hid hB
    clear h7 h6 h2 h4 hB
    by_cases hlt : k < 64
    · obtain ⟨a, b, c, d, e, f, g, h, hnow, ha, hb, hc, hd, he, hf, hg, hh⟩ := words8_open (rnds_words (ws := ws) Hst.out k)
      have Wa := Lib.hid ha
      have Wb := Lib.hid hb
      have Wc := Lib.hid hc
      have Wd' := Lib.hid hd
      have We := Lib.hid he
      have Wf := Lib.hid hf
      have Wg := Lib.hid hg
      have Wh := Lib.hid hh
      have Hnext := Lib.hid (show rndsTo ws st (k + 1) = rnd (roundsT.getD k 0) (ws.getD k 0) [a, b, c, d, e, f, g, h] by rw [rndsTo, hnow])
      rw [hnow] at H7
      have hb' := he.1
      have hb'' := he.2
      clear ha hb hc hd he hf hg hh hnow
      have cK := (HR.out.below HB.out).cell hlt
      have cW := (ints_cell H6.out (i := k) (by rw [Hwl.out]; exact hlt)).1
      have WK := Lib.hid (wd_get roundsT_wd k)
      have WW := Lib.hid (wd_get Hww.out k)
      generalize roundsT.getD k 0 = K at cK WK Hnext
      generalize ws.getD k 0 = X at cW WW Hnext
      have CK := Lib.hid cK
      have CW := Lib.hid cW
      clear cK cW
      go_wp2_with fail
      have c0 : wr.cell? ⟨B7, 0, none⟩ = some (.int .i64 a) := (ints_cell H7.out (i := 0) (by simp)).1
      have c1 : wr.cell? ⟨B7, 1, none⟩ = some (.int .i64 b) := (ints_cell H7.out (i := 1) (by simp)).1
      have c2 : wr.cell? ⟨B7, 2, none⟩ = some (.int .i64 c) := (ints_cell H7.out (i := 2) (by simp)).1
      have c3 : wr.cell? ⟨B7, 3, none⟩ = some (.int .i64 d) := (ints_cell H7.out (i := 3) (by simp)).1
      go_quiet (fail)
      clear c0 c1 c2 c3
      replace H7 : Hid ((wr.drewN nq).heap[B7]? = _) := H7
      replace H6 : Hid ((wr.drewN nq).heap[B6]? = _) := H6
      replace H2 : Hid ((wr.drewN nq).heap[w.heap.size]? = _) := H2
      replace H4 : Hid ((wr.drewN nq).heap[w.heap.size + 1]? = _) := H4
      replace CK : Hid ((wr.drewN nq).cell? _ = _) := CK
      replace CW : Hid ((wr.drewN nq).cell? _ = _) := CW
      replace HB := Lib.hid (below_drewN HB.out nq)
      generalize wr.drewN nq = wq at H7 H6 H2 H4 HB CK CW ⊢
      go_wp2_with fail
      have c4 : wq.cell? ⟨B7, 4, none⟩ = some (.int .i64 e) := (ints_cell H7.out (i := 4) (by simp)).1
      have c5 : wq.cell? ⟨B7, 5, none⟩ = some (.int .i64 f) := (ints_cell H7.out (i := 5) (by simp)).1
      have c6 : wq.cell? ⟨B7, 6, none⟩ = some (.int .i64 g) := (ints_cell H7.out (i := 6) (by simp)).1
      have c7 : wq.cell? ⟨B7, 7, none⟩ = some (.int .i64 h) := (ints_cell H7.out (i := 7) (by simp)).1
      go_quiet (fail)
      clear c4 c5 c6 c7
      replace H7 : Hid ((wq.drewN nq).heap[B7]? = _) := H7
      replace H6 : Hid ((wq.drewN nq).heap[B6]? = _) := H6
      replace H2 : Hid ((wq.drewN nq).heap[w.heap.size]? = _) := H2
      replace H4 : Hid ((wq.drewN nq).heap[w.heap.size + 1]? = _) := H4
      replace CK : Hid ((wq.drewN nq).cell? _ = _) := CK
      replace CW : Hid ((wq.drewN nq).cell? _ = _) := CW
      replace HB := Lib.hid (below_drewN HB.out nq)
      generalize wq.drewN nq = wx at H7 H6 H2 H4 HB CK CW ⊢
      go_wp2_with fail
      have HX : Below wx.heap.size wx wx.drew := (Below.refl _ _).drew
      have cK := CK.out
      have cW := CW.out
      have dk : (k : Int) < 64 := by omega
      have hne : IntKind.i64.wrap (4294967295 - e) = 4294967295 - e := IntWalk.i64_in _ (by omega)
      go_region_held3 (fun w' => w'.cell? ⟨1, k, none⟩ = some (.int .i64 K) ∧ w'.cell? ⟨B6, k, none⟩ = some (.int .i64 X))
        (first | exact ⟨cK, cW⟩ | exact keep2_below (by assumption) (by assumption) | exact keep2_alloc (by assumption))
        (first
          | (go_at_call 156; refine (back_any _ _ _ (by exact We.out) (by omega) (by omega)).mono ?_; rintro _ w' ⟨rfl, hb⟩; replace HX := Below.chain HX hb)
          | (go_at_call 157; refine (dand_any _ _ _ (by first | exact We.out | exact wd_not We.out) (by first | exact Wf.out | exact Wg.out)).mono ?_; rintro _ w' ⟨rfl, hb⟩; replace HX := Below.chain HX hb)
          | (go_at_call 155; (first | (with_reducible refine (dxor3_any _ _ _ _ _ _ (by simp) (by exact wd_rot _ We.out) (by exact wd_rot _ We.out) (by exact wd_rot _ We.out)).mono ?_) | (with_reducible refine (dxor2_any _ _ _ _ _ (by simp) (by exact wd_and We.out Wf.out) (by exact wd_and (wd_not We.out) Wg.out)).mono ?_)); rintro _ w' ⟨rfl, hb⟩; replace HX := Below.chain_alloc HX hb)
          | (go_at_call 154; refine (dadd_any _ _ _ [_, _, _, _, _] _ (by exact rd_new' _ _ _ _ (by simp)) rfl (by simp) (by exact wd5 Wh.out (wd_S1 We.out) (wd_ch We.out Wf.out Wg.out) WK.out WW.out)).mono ?_; rintro _ w' ⟨rfl, hb⟩; replace HX := Below.chain_alloc HX hb))
      clear cK cW
      go_wp2_with (first
          | (go_at_call 156; refine (back_any _ _ _ (by exact Wa.out) (by omega) (by omega)).mono ?_; rintro _ w' ⟨rfl, hb⟩; replace HX := Below.chain HX hb)
          | (go_at_call 157; refine (dand_any _ _ _ (by first | exact Wa.out | exact Wb.out) (by first | exact Wb.out | exact Wc.out)).mono ?_; rintro _ w' ⟨rfl, hb⟩; replace HX := Below.chain HX hb)
          | (go_at_call 155; refine (dxor3_any _ _ _ _ _ _ (by simp) (by first | exact wd_rot _ Wa.out | exact wd_and Wa.out Wb.out) (by first | exact wd_rot _ Wa.out | exact wd_and Wa.out Wc.out) (by first | exact wd_rot _ Wa.out | exact wd_and Wb.out Wc.out)).mono ?_; rintro _ w' ⟨rfl, hb⟩; replace HX := Below.chain_alloc HX hb)
          | (go_at_call 154; refine (dadd2_any _ _ _ _ _ (by simp) (by first | exact wd_S0 Wa.out | exact Wd'.out | exact wd_add _) (by first | exact wd_maj Wa.out Wb.out Wc.out | exact wd_add _)).mono ?_; rintro _ w' ⟨rfl, hb⟩; replace HX := Below.chain_alloc HX hb; obtain ⟨⟨c0, c1, c2, c3, c4, c5, c6, c7⟩, f0, f1, f2, f3, f4, f5, f6, f7⟩ := eight_cells (cells_below H7.out HX)))
      have hB := Below.chain HB.out HX
      have hall := set8_all (xs := [a, b, c, d, e, f, g, h]) rfl (cells_below H7.out HX) (cells_below H6.out HX) (cells_below H2.out HX) (cells_below H4.out HX) hB (by omega) (by omega) (by omega) (by omega) hB.size (addI [uI K X e f g h, vI a b c]) a b c (addI [d, uI K X e f g h]) e f g
      have Hall := Lib.hid hall
      clear hall c0 c1 c2 c3 c4 c5 c6 c7 f0 f1 f2 f3 f4 f5 f6 f7 hB
      go_roundw
      case rel =>
        refine ⟨k + 1, by omega, by go_num, ?_⟩
        rw [Hnext.out]
        exact Hall.out
      case measure => simp [intOf]; omega
    · obtain rfl : k = 64 := by omega
      have Hfw := Lib.hid (rnds_words (ws := ws) Hst.out 64)
      generalize hfin : rndsTo ws st 64 = fin at H7 Hfw
      have Hfin := Lib.hid hfin
      clear hfin
      go_wp2_with fail
      obtain ⟨wo, hwo⟩ : ∃ wo : World, wo = wr := ⟨_, rfl⟩
      rw [← hwo] at H7 H6 H2 H4 HB ⊢
      clear hwo
      go_loopw [114] (fun i wr => ∃ k : Nat, k ≤ 8 ∧ i = .int .i64 k ∧ wr.heap[B7]? = some (.cells (ints (addsTo st fin k)).toArray 155 (0, 0)) ∧ wr.heap[w.heap.size]? = some (.cells (ints st).toArray 155 (0, 0)) ∧ wr.heap[w.heap.size + 1]? = some (.cells zeros8 155 (0, 0)) ∧ Below w.heap.size w wr) (fun i _ => 8 - (intOf i).toNat)
      case atStart => exact ⟨0, by omega, rfl, by rw [addsTo_zero st fin Hfw.out.1]; exact H7.out, H2.out, H4.out, HB.out⟩
      case round =>
        obtain ⟨i, hi, rfl, hSi, hS0i, hZi, hWi⟩ := hrel
        clear H7 H6 H2 H4 HB
        by_cases hi8 : i < 8
        · have s0 := (ints_cell hSi (i := i) (by rw [addsTo_len]; exact hi8)).1
          have f0 := (ints_cell hSi (i := i) (by rw [addsTo_len]; exact hi8)).2
          have t0 := (ints_cell hS0i (i := i) (by rw [Hst.out.1]; exact hi8)).1
          rw [addsTo_at st fin i hi8] at s0
          have hxw : Wd (fin.getD i 0) := wd_get Hfw.out.2 i
          have hyw : Wd (st.getD i 0) := wd_get Hst.out.2 i
          have Hset := Lib.hid (addsTo_set st fin i hi8)
          have Hww' := Lib.hid (wordsB2.2 ⟨hyw, hxw⟩)
          generalize fin.getD i 0 = x at s0 Hset Hww'
          generalize st.getD i 0 = y at t0 Hset Hww'
          have HSi := Lib.hid hSi
          have HS0i := Lib.hid hS0i
          have HZi := Lib.hid hZi
          have HWi := Lib.hid hWi
          have ii : (i : Int) < 8 := by omega
          have hSl := cell_lt_of hSi
          have hS0l := cell_lt_of hS0i
          clear hSi hS0i hWi hxw hyw hZi
          go_wp2_with fail
          go_region_law (first | (go_simp; go_at_call 154; refine (dadd_eq _ _ _ [y, x] _ (by exact rd_new' _ _ _ _ (by simp)) rfl (by simp) Hww'.out).mono ?_; rintro e w' ⟨rfl, rfl⟩))
          all_goals
            go_wp2_with fail
            have e1 := ints_set HSi.out i (addI [y, x])
            rw [Hset.out] at e1
            have e2 := (Below.heap_setCell wr ⟨B7, i, none⟩ (.int .i64 (addI [y, x])) w.heap.size (by simp only; omega)).trans HS0i.out
            have e4 := (Below.heap_setCell wr ⟨B7, i, none⟩ (.int .i64 (addI [y, x])) (w.heap.size + 1) (by simp only; omega)).trans HZi.out
            have e3 := HWi.out.setCell (p := ⟨B7, i, none⟩) (by simp only; omega) (.int .i64 (addI [y, x]))
            refine ⟨?_, by simp [intOf]; omega⟩
            repeat apply Exists.intro
            refine ⟨⟨i + 1, by omega, by go_num, ?_, ?_, ?_, ?_⟩, rfl⟩
            · exact (Below.heap_alloc _ _ _ (cell_lt_of e1)).trans e1
            · exact (Below.heap_alloc _ _ _ (cell_lt_of e2)).trans e2
            · exact (Below.heap_alloc _ _ _ (cell_lt_of e4)).trans e4
            · exact (e3.alloc e3.size _).drew
        · obtain rfl : i = 8 := by omega
          obtain ⟨x0, x1, x2, x3, x4, x5, x6, x7, hx, _⟩ := words8_open (addsTo_words st fin Hfw.out.2 8)
          rw [hx] at hSi
          obtain ⟨⟨c0, c1, c2, c3, c4, c5, c6, c7⟩, f0, f1, f2, f3, f4, f5, f6, f7⟩ := eight_cells hSi
          have hz : wr.heap[w.heap.size + 1]? = some (.cells (ints [0, 0, 0, 0, 0, 0, 0, 0]).toArray 155 (0, 0)) := hZi
          obtain ⟨⟨z0, z1, z2, z3, z4, z5, z6, z7⟩, g0, g1, g2, g3, g4, g5, g6, g7⟩ := eight_cells hz
          have Hz := Lib.hid hz
          have HWi := Lib.hid hWi
          have Hx := Lib.hid hx
          clear hSi hS0i hZi hz hWi hx
          go_wp2_with fail
          have h8 := set8_at (xs := [0, 0, 0, 0, 0, 0, 0, 0]) rfl Hz.out x0 x1 x2 x3 x4 x5 x6 x7
          have hG := set8_by wr (w.heap.size + 1) x0 x1 x2 x3 x4 x5 x6 x7
          have hr := World.rangeAt_of_block h8 0 8
          have hl := run_loadVar_mid (P := Tryz.prog) _ (w.heap.size + 1) 0 155 _ _ hr Tryz.underlying155 rfl (by kernel_rfl)
          refine bodyPost_ret (res_cell_tmp rfl _ _ (w.heap.size + 1) rfl _ hl) rfl ?_
          refine ⟨?_, HWi.out.trans (grownBy_below' hG (by omega) HWi.out.size)⟩
          rw [Hfin.out, Hx.out]
          rfl

theorem step_any (st : List Int) (s : ByteArray) (w : World) (hR : Rounds w) (hst : Words8 st) (hs : s.size = 64) :
    Calls Tryz.prog 132 #[.agg (ints st).toArray, .string s] w fun e w' => e = .returned (.tuple #[.agg (ints (stepL st s.data.toList)).toArray, .bool true]) ∧ Below w.heap.size w w' :=
  step_ws _ st s w hR hst hs (wTo_len _ (by simp [cutL]) _) (wTo_wd _ (cutL_words _ _ _) _) fun W => spread_any s W hs

end Go.Proofs.YtieekajjoikepaaGreatDoor
