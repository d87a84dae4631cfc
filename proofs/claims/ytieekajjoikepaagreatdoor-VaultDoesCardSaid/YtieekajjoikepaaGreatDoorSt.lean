/-
  Contracts of package stream: mix, Turn, first.
  Contracts of stream.first where it refuses, and of stream.Block.
  Contract of stream.Block.
-/
import Derived.Test.YtieekajjoikepaaGreatDoorGen
import Derived.Test.YtieekajjoikepaaGreatDoorWd
import Derived.Deep.RegionLaw
namespace Go.Proofs.YtieekajjoikepaaGreatDoor
/- Stream -/
open Go.RowKit
set_option linter.unusedVariables false

set_option maxHeartbeats 400000 in
theorem mix_any (a b c n : Int) (w : World) (ha : Wd a) (hb : Wd b) (hc : Wd c) (hn0 : 0 ≤ n) (hn1 : n ≤ 32) :
    Calls Tryz.prog 166 #[.int .i64 a, .int .i64 b, .int .i64 c, .int .i64 n] w fun e w' => e = .returned (.tuple #[.int .i64 (mixA a b), .int .i64 (mixC a b c n)]) ∧ Below w.heap.size w w' := by
  have HA := Lib.hid ha
  have HB := Lib.hid hb
  have HC := Lib.hid hc
  clear ha hb hc
  go_enter Tryz.func166, Tryz.ntmps166
  go_wp2_with fail
  refine (add_b _ _ _ [a, b] _ (rd_new w _ _) rfl (by simp) (wordsB2.2 ⟨HA.out, HB.out⟩)).mono ?_
  rintro e w1 ⟨rfl, hw⟩
  replace hw := Below.chain_alloc (Below.refl _ _) hw
  go_wp2_with fail
  refine (xor_any c (addI [a, b]) _ (wordsB2.2 ⟨HC.out, wd_add _⟩)).mono ?_
  rintro e w2 ⟨rfl, hw2⟩
  replace hw := Below.chain hw hw2
  clear hw2
  go_wp2_with fail
  refine (rot_any (xorI c (addI [a, b])) n _ (wordsB1.2 (xorI_range HC.out (wd_add _))) hn0 hn1).mono ?_
  rintro e w3 ⟨rfl, hw3⟩
  replace hw := Below.chain hw hw3
  clear hw3
  go_wp2_with fail
  go_ret2
  exact ⟨rfl, hw⟩

set_option maxHeartbeats 1000000 in
theorem turn_any (a b c d : Int) (w : World) (ha : Wd a) (hb : Wd b) (hc : Wd c) (hd : Wd d) :
    Calls Tryz.prog 138 #[.int .i64 a, .int .i64 b, .int .i64 c, .int .i64 d] w fun e w' =>
      e = .returned (.tuple #[.int .i64 (turnI a b c d).1, .int .i64 (turnI a b c d).2.1, .int .i64 (turnI a b c d).2.2.1, .int .i64 (turnI a b c d).2.2.2, .bool true]) ∧ Below w.heap.size w w' := by
  have HA := Lib.hid ha
  have HB := Lib.hid hb
  have HC := Lib.hid hc
  have HD := Lib.hid hd
  have Hw := Lib.hid (show wordsB [a, b, c, d] = true by
    have h1 := ha; have h2 := hb; have h3 := hc; have h4 := hd
    unfold Wd at h1 h2 h3 h4
    simp [wordsB, wordB, h1, h2, h3, h4])
  clear ha hb hc hd
  go_enter Tryz.func138, Tryz.ntmps138
  go_wp2_with fail
  refine (is_b _ _ _ [a, b, c, d] _ (rd_new w _ _) rfl (by simp)).mono ?_
  rintro e w0 ⟨rfl, hw⟩
  rw [Hw.out]
  replace hw := Below.chain_alloc (Below.refl _ _) hw
  go_wp2_with fail
  refine (mix_any a b d 16 _ HA.out HB.out HD.out (by omega) (by omega)).mono ?_
  rintro e w1 ⟨rfl, hw1⟩
  replace hw := Below.chain hw hw1
  clear hw1
  go_wp2_with fail
  refine (mix_any c (mixC a b d 16) b 12 _ HC.out (wd_mixC _ HD.out) HB.out (by omega) (by omega)).mono ?_
  rintro e w2 ⟨rfl, hw2⟩
  replace hw := Below.chain hw hw2
  clear hw2
  go_wp2_with fail
  refine (mix_any (mixA a b) (mixC c (mixC a b d 16) b 12) (mixC a b d 16) 8 _ (wd_mixA _ _) (wd_mixC _ HB.out) (wd_mixC _ HD.out) (by omega) (by omega)).mono ?_
  rintro e w3 ⟨rfl, hw3⟩
  replace hw := Below.chain hw hw3
  clear hw3
  go_wp2_with fail
  refine (mix_any (mixA c (mixC a b d 16)) (mixC (mixA a b) (mixC c (mixC a b d 16) b 12) (mixC a b d 16) 8) (mixC c (mixC a b d 16) b 12) 7 _ (wd_mixA _ _) (wd_mixC _ (wd_mixC _ HD.out)) (wd_mixC _ HB.out) (by omega) (by omega)).mono ?_
  rintro e w4 ⟨rfl, hw4⟩
  replace hw := Below.chain hw hw4
  clear hw4
  go_wp2_with fail
  refine bodyPost_ret (res5 rfl _ _ _) rfl ?_
  exact ⟨rfl, hw⟩

set_option maxHeartbeats 400000 in
theorem first_yes (key nonce : ByteArray) (n : Int) (w : World) (hk : key.size = 32) (ho : nonce.size = 12) (hn : Wd n) :
    Calls Tryz.prog 122 #[.string key, .string nonce, .int .i64 n] w fun e w' => e = .returned (.tuple #[.agg (ints (firstL key.data.toList nonce.data.toList n)).toArray, .bool true]) ∧ Below w.heap.size w w' := by
  have h1 : ((key.size : Int) != 32) = false := by simp [hk]
  have h2 : ((nonce.size : Int) != 12) = false := by simp [ho]
  have Hk := Lib.hid hk
  have Ho := Lib.hid ho
  have HN := Lib.hid hn
  clear hk ho hn
  go_enter Tryz.func122, Tryz.ntmps122
  go_wp2_with fail
  refine (is_b _ _ _ [n] _ (by exact rd_new' _ _ _ _ (by simp)) rfl (by simp)).mono ?_
  rintro e w1 ⟨rfl, hw⟩
  rw [wordsB1.2 HN.out]
  have hz := keep_two hw
  replace hw := below_two hw
  have HZ := Lib.hid hz
  clear hz
  go_wp2_with fail
  refine (cut_false key _ (by rw [Hk.out]) (by rw [Hk.out]; decide)).mono ?_
  rintro e w2 ⟨g, rfl, hg, hrow, hw2⟩
  have hS := keep_one hw2
  rw [len_data, Hk.out] at hrow
  rw [len_data, Hk.out]
  have hlt := hrow.lt
  have hgS : w1.heap.size < g := by simp at hg; omega
  have hwr := (hw2.block w.heap.size (by have := hw.size; have := cell_lt_of HZ.out; simp; omega)).trans ((Below.heap_alloc _ _ _ (cell_lt_of HZ.out)).trans HZ.out)
  replace hw := Below.chain_alloc hw hw2
  have HR := Lib.hid hrow
  have HS := Lib.hid hS
  have HZ2 := Lib.hid hwr
  have hZS : w.heap.size < w1.heap.size := cell_lt_of HZ.out
  clear hrow hS hg hwr hw2 HZ
  obtain ⟨w3, hcp, hS3, hk3⟩ := copy_in (w := w2) 4 12 _ (cutL key.data.toList false 8) HS.out (rd_cut HR.out (by rw [len_data, Hk.out])) (by simp [cutL]) (show 8 = _ by simp [cutL])
  have hw3 : Below w.heap.size w w3 := hw.trans (grownBy_below' hk3 (by omega) hw.size)
  have HS3 := Lib.hid hS3
  have HW3 := Lib.hid hw3
  have HZ3 := Lib.hid ((hk3.block w.heap.size (cell_lt_of HZ2.out) (fun e => by injection e; omega)).trans HZ2.out)
  have hc3 : w3.cell? ⟨w1.heap.size, 12, none⟩ = some (.int .i64 0) := by
    unfold World.cell?; simp only [HS3.out]; rfl
  have hf3 : w3.frozen? ⟨w1.heap.size, 12, none⟩ = false := by
    unfold World.frozen?; simp only [HS3.out]; rfl
  clear hS3 hk3 hw3 HR HS HZ2 hw
  go_wp2_with fail
  have hS4 := blk_set HS3.out 12 (.int .i64 n)
  have hZ4 : (w3.setCell ⟨w1.heap.size, 12, none⟩ (.int .i64 n)).heap[w.heap.size]? = _ := (Below.heap_setCell _ _ _ _ (by simp only; omega)).trans HZ3.out
  have hw4 : Below w.heap.size w (w3.setCell ⟨w1.heap.size, 12, none⟩ (.int .i64 n)) := HW3.out.setCell (by simp only; omega) _
  generalize w3.setCell ⟨w1.heap.size, 12, none⟩ (.int .i64 n) = w4 at hS4 hZ4 hw4 ⊢
  have HS4 := Lib.hid hS4
  have HZ4 := Lib.hid hZ4
  have HW4 := Lib.hid hw4
  clear hS4 hZ4 hw4 HS3 HW3 HZ3 hc3 hf3 hcp
  refine (cut_false nonce _ (by rw [Ho.out]) (by rw [Ho.out]; decide)).mono ?_
  rintro e w5 ⟨g2, rfl, hg2, hrow, hw5⟩
  rw [len_data, Ho.out] at hrow
  rw [len_data, Ho.out]
  have HR := Lib.hid hrow
  have HS5 := Lib.hid ((hw5.block w1.heap.size (cell_lt_of HS4.out)).trans HS4.out)
  have HZ5 := Lib.hid ((hw5.block w.heap.size (cell_lt_of HZ4.out)).trans HZ4.out)
  have HW5 := Lib.hid (Below.chain HW4.out hw5)
  clear hrow hg2 hw5 HS4 HZ4 HW4
  obtain ⟨w6, hcp, hS6, hk6⟩ := copy_in (w := w5) 13 3 _ (cutL nonce.data.toList false 3) HS5.out (rd_cut HR.out (by rw [len_data, Ho.out])) (by simp [cutL, ints]) (show 3 = _ by simp [cutL])
  have HS6 := Lib.hid hS6
  have HW6 := Lib.hid (HW5.out.trans (grownBy_below' hk6 (by omega) HW5.out.size))
  have HZ6 := Lib.hid ((hk6.block w.heap.size (cell_lt_of HZ5.out) (fun e => by injection e; omega)).trans HZ5.out)
  clear hS6 hk6 HR HS5 HZ5 HW5
  obtain ⟨arr, harr⟩ : ∃ arr, arr = (ints (firstL key.data.toList nonce.data.toList n)).toArray := ⟨_, rfl⟩
  have HS7 : Hid (w6.heap[w1.heap.size]? = some (.cells arr 143 (0, 0))) := by
    rw [harr]
    exact HS6.out
  have Harr := Lib.hid harr
  have hsz : (Tryz.prog.info? 143).map (·.size) = some arr.size := by
    rw [harr]
    simp only [ints, firstL, cutL, List.size_toArray, List.length_map, List.length_append, List.length_range]
    kernel_rfl
  have h1c : arr.all (·.oneCell') = true := by
    rw [harr, Array.all_eq_true']
    intro v hv
    obtain ⟨x, _, rfl⟩ := List.mem_map.1 (by simpa [ints] using hv : v ∈ (ints (firstL key.data.toList nonce.data.toList n)))
    rfl
  have Hsz := Lib.hid hsz
  have H1c := Lib.hid h1c
  clear harr hsz h1c HS6
  go_wp2_with (first
    | (refine wpList_load_row (by rfl) 143 (.tmp 8) (by rfl) w1.heap.size (by rfl) 143 arr (0, 0) _ HS7.out Tryz.underlying143 rfl Hsz.out ?_)
    | (refine wpList_store_mid (by rfl) 143 (.tmp 6) (.tmp 47) (by rfl) w.heap.size 0 arr (by rfl) (by rfl) ?_ Hsz.out H1c.out ?_))
  · exact there_blk HZ6.out (Nat.le_of_eq (by
      have h := Hsz.out
      rw [show (Tryz.prog.info? 143).map (·.size) = some 16 by kernel_rfl] at h
      exact (Option.some.inj h).symm))
  · have ht : w6.there w.heap.size 0 arr.toList.length := there_blk HZ6.out (Nat.le_of_eq (by
      have h := Hsz.out
      rw [show (Tryz.prog.info? 143).map (·.size) = some 16 by kernel_rfl] at h
      simp [← Option.some.inj h]))
    have hr := World.rangeAt_setCells_same w6 w.heap.size 0 arr.toList ht
    have hl := run_loadVar_mid (P := Tryz.prog) _ w.heap.size 0 143 arr.toList _ hr Tryz.underlying143 rfl (by simpa using Hsz.out)
    refine bodyPost_ret (res_cell_tmp rfl _ _ w.heap.size rfl _ hl) rfl ?_
    refine ⟨?_, below_setCells (Nat.le_refl _) _ _ _ HW6.out⟩
    rw [← Harr.out]
    rfl

/- Block -/
open Go.RowKit
set_option linter.unusedVariables false

set_option maxHeartbeats 400000 in
theorem first_no (key nonce : ByteArray) (n : Int) (w : World) (hk1 : key.size ≤ 9223372036854775807) (ho1 : nonce.size ≤ 9223372036854775807) (h : ¬ (key.size = 32 ∧ nonce.size = 12 ∧ Wd n)) :
    Calls Tryz.prog 122 #[.string key, .string nonce, .int .i64 n] w fun e w' => e = .returned (.tuple #[.agg zeros16, .bool false]) ∧ Below w.heap.size w w' := by
  by_cases hk : key.size = 32
  · by_cases ho : nonce.size = 12
    · have hn : wordsB [n] = false := by
        rw [Bool.eq_false_iff]
        exact fun e => h ⟨hk, ho, wordsB1.1 e⟩
      have h1 : ((key.size : Int) != 32) = false := by simp [hk]
      have h2 : ((nonce.size : Int) != 12) = false := by simp [ho]
      have HN := Lib.hid hn
      clear h hk ho hn
      go_enter Tryz.func122, Tryz.ntmps122
      go_wp2_with fail
      refine (is_b _ _ _ [n] _ (by exact rd_new' _ _ _ _ (by simp)) rfl (by simp)).mono ?_
      rintro e w1 ⟨rfl, hw⟩
      rw [HN.out]
      have hz := keep_two hw
      replace hw := below_two hw
      have HZ : Hid (w1.heap[w.heap.size]? = some (.cells zeros16 143 (0, 0))) := hz
      clear hz
      go_wp2_with (refine wpList_store_mid (by rfl) 143 (.tmp 6) (.tmp 27) (by rfl) w.heap.size 0 zeros16 (by rfl) (by rfl) ?_ (by kernel_rfl) (by kernel_rfl) ?_)
      · exact there_blk HZ.out (Nat.le_refl _)
      · have hr := World.rangeAt_setCells_same w1 w.heap.size 0 zeros16.toList (there_blk HZ.out (Nat.le_refl _))
        have hl := run_loadVar_mid (P := Tryz.prog) _ w.heap.size 0 143 zeros16.toList _ hr Tryz.underlying143 rfl (by kernel_rfl)
        exact bodyPost_ret (res_cell_tmp rfl _ _ w.heap.size rfl _ hl) rfl ⟨rfl, below_setCells (Nat.le_refl _) _ _ _ hw⟩
    · have h1 : ((key.size : Int) != 32) = false := by simp [hk]
      have h2 : ((nonce.size : Int) != 12) = true := by rw [bne_iff_ne]; omega
      have HZ : Hid ((w.alloc (.cells zeros16 143)).heap[w.heap.size]? = some (.cells zeros16 143 (0, 0))) := heap_alloc_new w _
      clear h hk ho
      go_enter Tryz.func122, Tryz.ntmps122
      go_wp2_with (refine wpList_store_mid (by rfl) 143 (.tmp 6) (.tmp 27) (by rfl) w.heap.size 0 zeros16 (by rfl) (by rfl) ?_ (by kernel_rfl) (by kernel_rfl) ?_)
      · exact there_blk HZ.out (Nat.le_refl _)
      · have hr := World.rangeAt_setCells_same _ w.heap.size 0 zeros16.toList (there_blk HZ.out (Nat.le_refl _))
        have hl := run_loadVar_mid (P := Tryz.prog) _ w.heap.size 0 143 zeros16.toList _ hr Tryz.underlying143 rfl (by kernel_rfl)
        exact bodyPost_ret (res_cell_tmp rfl _ _ w.heap.size rfl _ hl) rfl ⟨rfl, below_setCells (Nat.le_refl _) _ _ _ ((Below.refl _ _).alloc (Nat.le_refl _) _)⟩
  · have h1 : ((key.size : Int) != 32) = true := by rw [bne_iff_ne]; omega
    have HZ : Hid ((w.alloc (.cells zeros16 143)).heap[w.heap.size]? = some (.cells zeros16 143 (0, 0))) := heap_alloc_new w _
    clear h hk
    go_enter Tryz.func122, Tryz.ntmps122
    go_wp2_with (refine wpList_store_mid (by rfl) 143 (.tmp 6) (.tmp 27) (by rfl) w.heap.size 0 zeros16 (by rfl) (by rfl) ?_ (by kernel_rfl) (by kernel_rfl) ?_)
    · exact there_blk HZ.out (Nat.le_refl _)
    · have hr := World.rangeAt_setCells_same _ w.heap.size 0 zeros16.toList (there_blk HZ.out (Nat.le_refl _))
      have hl := run_loadVar_mid (P := Tryz.prog) _ w.heap.size 0 143 zeros16.toList _ hr Tryz.underlying143 rfl (by kernel_rfl)
      exact bodyPost_ret (res_cell_tmp rfl _ _ w.heap.size rfl _ hl) rfl ⟨rfl, below_setCells (Nat.le_refl _) _ _ _ ((Below.refl _ _).alloc (Nat.le_refl _) _)⟩

def Turns (w : World) : Prop := w.rangeAt 0 0 turnsL

theorem Turns.below {w w' : World} (h : Turns w) (hb : Below w.heap.size w w') : Turns w' := fun j v hv =>
  (hb.cell (p := ⟨0, 0 + j, none⟩) (cell_lt (h j v hv))).trans (h j v hv)

theorem turns_index (j : Nat) (hj : j < 8) : ∃ p, turnsT[j]? = some p ∧ pOk p = true ∧ ∀ W, (Instr.index 161 (.agg turnsL.toArray) (.int .i64 (j : Int))).run Tryz.prog W = .ok (.agg (turnV p).toArray) W := by
  match j, hj with
  | 0, _ => exact ⟨_, rfl, rfl, fun _ => by kernel_rfl⟩
  | 1, _ => exact ⟨_, rfl, rfl, fun _ => by kernel_rfl⟩
  | 2, _ => exact ⟨_, rfl, rfl, fun _ => by kernel_rfl⟩
  | 3, _ => exact ⟨_, rfl, rfl, fun _ => by kernel_rfl⟩
  | 4, _ => exact ⟨_, rfl, rfl, fun _ => by kernel_rfl⟩
  | 5, _ => exact ⟨_, rfl, rfl, fun _ => by kernel_rfl⟩
  | 6, _ => exact ⟨_, rfl, rfl, fun _ => by kernel_rfl⟩
  | 7, _ => exact ⟨_, rfl, rfl, fun _ => by kernel_rfl⟩

/-- A state in memory. -/
def StAt (w : World) (g : Nat) (st : List Int) : Prop := w.heap[g]? = some (.cells (ints st).toArray 143 (0, 0)) ∧ st.length = 16 ∧ ∀ x ∈ st, Wd x

/- Block2 -/
open Go.RowKit
set_option linter.unusedVariables false

set_option maxHeartbeats 2000000 in
set_option maxRecDepth 100000 in
theorem block_yes (key nonce : ByteArray) (n : Int) (w : World) (hT : Turns w) (hk : key.size = 32) (ho : nonce.size = 12) (hn : Wd n) :
    Calls Tryz.prog 121 #[.string key, .string nonce, .int .i64 n] w fun e w' => e = .returned (.tuple #[.string (bs (blockL key.data.toList nonce.data.toList n)), .int .i64 0]) ∧ Below w.heap.size w w' := by
  have HT := Lib.hid hT
  have Hk := Lib.hid hk
  have Ho := Lib.hid ho
  have HN := Lib.hid hn
  clear hT hk ho hn
  go_enter Tryz.func121, Tryz.ntmps121
  go_wp2_with fail
  refine (first_yes key nonce n w Hk.out Ho.out HN.out).mono ?_
  rintro e w1 ⟨rfl, hw⟩
  obtain ⟨st, hst⟩ : ∃ st, st = firstL key.data.toList nonce.data.toList n := ⟨_, rfl⟩
  rw [← hst]
  have hl16 : st.length = 16 := by rw [hst]; simp [firstL, cutL]
  have Hsz := Lib.hid (show (Tryz.prog.info? 143).map (·.size) = some (ints st).toArray.size by rw [ints_size, hl16]; kernel_rfl)
  have Hs0 := Lib.hid (show (ints st).toArray.size = 16 by rw [ints_size, hl16])
  have H1c := Lib.hid (ints_one st)
  have HSt := Lib.hid hst
  have Hl := Lib.hid hl16
  clear hst hl16
  obtain ⟨arr, harr⟩ : ∃ arr, arr = (ints st).toArray := ⟨_, rfl⟩
  rw [← harr] at Hsz Hs0 H1c ⊢
  have Harr := Lib.hid harr
  clear harr
  go_wp2_with (refine wpList_store_whole (by rfl) 143 (.tmp 8) (.tmp 26) (by rfl) w1.heap.size arr (by rfl) (by rfl) _ 143 (by exact heap_alloc_new w1 _) (by exact Hs0.out) Hsz.out H1c.out ?_)
  intro w2 hS0 hG2
  have hw2 : Below w.heap.size w w2 := (hw.alloc hw.size _).trans (grownBy_below' hG2 hw.size (by have := hw.size; simp; omega))
  have hsz2 := hG2.size
  have HW2 := Lib.hid hw2
  have HS0 := Lib.hid hS0
  have hlt2 : w1.heap.size < w2.heap.size := by simp at hsz2; omega
  have hle1 := hw.size
  clear hw hw2 hS0 hG2 hsz2
  go_wp2_with (first
    | (refine wpList_load_row (by rfl) 143 (.tmp 8) (by rfl) w1.heap.size (by rfl) 143 arr (0, 0) _ HS0.out Tryz.underlying143 rfl Hsz.out ?_)
    | (refine wpList_store_whole (by rfl) 143 (.tmp 10) (.tmp 30) (by rfl) w2.heap.size arr (by rfl) (by rfl) _ 143 (by exact heap_alloc_new w2 _) (by exact Hs0.out) Hsz.out H1c.out ?_))
  intro w3 hS3 hG3
  have hw3 : Below w2.heap.size w2 w3 := ((Below.refl _ _).alloc (Nat.le_refl _) _).trans (grownBy_below' hG3 (Nat.le_refl _) (by simp))
  have hlt3 := hG3.size
  have HW3 := Lib.hid (Below.chain HW2.out hw3)
  have HS3 := Lib.hid hS3
  have HS03 := Lib.hid ((hw3.block w1.heap.size hlt2).trans HS0.out)
  simp at hlt3
  clear hS3 hG3 hw3
  go_wp2_with fail
  obtain ⟨S, hS⟩ : ∃ S, S = w2.heap.size := ⟨_, rfl⟩
  obtain ⟨S0, hS0⟩ : ∃ S0, S0 = w1.heap.size := ⟨_, rfl⟩
  rw [← hS] at HS3 ⊢
  rw [← hS0] at HS03 ⊢
  rw [← hS, ← hS0] at hlt2
  rw [← hS0] at hle1
  rw [Harr.out] at HS3
  have HWd : Hid (Words16 st) := by rw [HSt.out]; exact first_words _ _ _ HN.out
  clear hS hS0 HS0 HW2 hlt3
  go_loopw [31] (fun i wr => ∃ k : Nat, k ≤ 10 ∧ i = .int .i64 k ∧ wr.heap[S]? = some (.cells (ints (roundsTo st k)).toArray 143 (0, 0)) ∧ wr.heap[S0]? = some (.cells arr 143 (0, 0)) ∧ Below w.heap.size w wr) (fun i _ => 10 - (intOf i).toNat)
  case atStart => exact ⟨0, by omega, rfl, HS3.out, HS03.out, HW3.out⟩
  case round =>
    obtain ⟨k, hk, rfl, hSr, hS0r, hWr⟩ := hrel
    have HSr := Lib.hid hSr
    have HS0r := Lib.hid hS0r
    have HWr := Lib.hid hWr
    have HWk := Lib.hid (rounds_words HWd.out k)
    clear hSr hS0r hWr
    by_cases hlt : k < 10
    · obtain ⟨wo, hwo⟩ : ∃ wo : World, wo = wr := ⟨_, rfl⟩
      rw [← hwo] at HSr HS0r HWr ⊢
      clear hwo
      go_wp2_with (refine wpList_load_mid (by rfl) 161 (.global 0) (by rfl) 0 0 (by rfl) turnsL _ (by exact HT.out.below HWr.out) Tryz.underlying161 rfl (by kernel_rfl) ?_)
      have hle := HWr.out.size
      go_loopw [34] (fun j wi => ∃ m : Nat, m ≤ 8 ∧ j = .int .i64 m ∧ wi.heap[S]? = some (.cells (ints (turnsTo (roundsTo st k) m)).toArray 143 (0, 0)) ∧ wi.heap[S0]? = some (.cells arr 143 (0, 0)) ∧ Below w.heap.size w wi) (fun j _ => 8 - (intOf j).toNat)
      case atStart => exact ⟨0, by omega, rfl, HSr.out, HS0r.out, HWr.out⟩
      case round =>
        obtain ⟨m, hm, rfl, hSi, hS0i, hWi⟩ := hrel
        by_cases hm8 : m < 8
        · obtain ⟨⟨a, b, c, d⟩, hp, hpo, hidx⟩ := turns_index m hm8
          have hstep := turnsTo_succ (roundsTo st k) hp
          have hws : Words16 (turnsTo (roundsTo st k) m) := turns_words _ HWk.out
          simp only [pOk, Bool.and_eq_true, decide_eq_true_eq] at hpo
          obtain ⟨⟨⟨⟨⟨⟨⟨⟨⟨ha, hb⟩, hc⟩, hd⟩, hab⟩, hac⟩, had⟩, hbc⟩, hbd⟩, hcd⟩ := hpo
          obtain ⟨sv, hsv⟩ : ∃ sv, sv = turnsTo (roundsTo st k) m := ⟨_, rfl⟩
          rw [← hsv] at hSi hstep hws
          have hidx' : ∀ W, (Instr.index 161 (.agg turnsL.toArray) (.int .i64 (m : Int))).run Tryz.prog W = .ok (.agg #[.int .i64 (a : Nat), .int .i64 (b : Nat), .int .i64 (c : Nat), .int .i64 (d : Nat)]) W := hidx
          have hSlt := cell_lt_of hSi
          have HSi := Lib.hid hSi
          have HS0i := Lib.hid hS0i
          have HWi := Lib.hid hWi
          have Hstep := Lib.hid hstep
          have Hws := Lib.hid hws
          have Hsv := Lib.hid hsv
          have hPS : S ≠ wr.heap.size := by omega
          clear hp hidx hSi hS0i hWi hstep hws hsv
          go_wp2_with fail
          have hP := heap_alloc_new wr (Obj.cells #[.int .i64 (a : Nat), .int .i64 (b : Nat), .int .i64 (c : Nat), .int .i64 (d : Nat)] 160)
          have hSa := (Below.heap_alloc wr (Obj.cells #[.int .i64 (a : Nat), .int .i64 (b : Nat), .int .i64 (c : Nat), .int .i64 (d : Nat)] 160) S hSlt).trans HSi.out
          have hS0a := (Below.heap_alloc wr (Obj.cells #[.int .i64 (a : Nat), .int .i64 (b : Nat), .int .i64 (c : Nat), .int .i64 (d : Nat)] 160) S0 (cell_lt_of HS0i.out)).trans HS0i.out
          have hWa := HWi.out.alloc HWi.out.size (Obj.cells #[.int .i64 (a : Nat), .int .i64 (b : Nat), .int .i64 (c : Nat), .int .i64 (d : Nat)] 160)
          obtain ⟨Pb, hPb⟩ : ∃ Pb, Pb = wr.heap.size := ⟨_, rfl⟩
          rw [← hPb] at hP hPS ⊢
          generalize wr.alloc (Obj.cells #[.int .i64 (a : Nat), .int .i64 (b : Nat), .int .i64 (c : Nat), .int .i64 (d : Nat)] 160) = wa at hP hSa hS0a hWa ⊢
          have hl := Hws.out.1
          have c0 : ∀ y : Later wa, y.x.cell? ⟨Pb, 0, none⟩ = some (.int .i64 (a : Nat)) := fun y => y.cell (by unfold World.cell?; simp only [hP]; rfl)
          have c1 : ∀ y : Later wa, y.x.cell? ⟨Pb, 1, none⟩ = some (.int .i64 (b : Nat)) := fun y => y.cell (by unfold World.cell?; simp only [hP]; rfl)
          have c2 : ∀ y : Later wa, y.x.cell? ⟨Pb, 2, none⟩ = some (.int .i64 (c : Nat)) := fun y => y.cell (by unfold World.cell?; simp only [hP]; rfl)
          have c3 : ∀ y : Later wa, y.x.cell? ⟨Pb, 3, none⟩ = some (.int .i64 (d : Nat)) := fun y => y.cell (by unfold World.cell?; simp only [hP]; rfl)
          have s0 : ∀ y : Later wa, y.x.cell? ⟨S, a, none⟩ = some (.int .i64 (sv.getD a 0)) := fun y => y.cell (ints_cell hSa (by omega)).1
          have s1 : ∀ y : Later wa, y.x.cell? ⟨S, b, none⟩ = some (.int .i64 (sv.getD b 0)) := fun y => y.cell (ints_cell hSa (by omega)).1
          have s2 : ∀ y : Later wa, y.x.cell? ⟨S, c, none⟩ = some (.int .i64 (sv.getD c 0)) := fun y => y.cell (ints_cell hSa (by omega)).1
          have s3 : ∀ y : Later wa, y.x.cell? ⟨S, d, none⟩ = some (.int .i64 (sv.getD d 0)) := fun y => y.cell (ints_cell hSa (by omega)).1
          have HWs := Lib.hid Hws.out.2
          generalize hxa : sv.getD a 0 = xa at s0
          generalize hxb : sv.getD b 0 = xb at s1
          generalize hxc : sv.getD c 0 = xc at s2
          generalize hxd : sv.getD d 0 = xd at s3
          have hcall : ∀ y : Later wa, Calls Tryz.prog 138 #[.int .i64 xa, .int .i64 xb, .int .i64 xc, .int .i64 xd] y.x fun e w' =>
              e = .returned (.tuple #[.int .i64 (turnI xa xb xc xd).1, .int .i64 (turnI xa xb xc xd).2.1, .int .i64 (turnI xa xb xc xd).2.2.1, .int .i64 (turnI xa xb xc xd).2.2.2, .bool true]) ∧ ∃ z : Later wa, w' = z.x := fun y =>
            later_call (turn_any xa xb xc xd y.x (hxa ▸ wd_getD HWs.out a) (hxb ▸ wd_getD HWs.out b) (hxc ▸ wd_getD HWs.out c) (hxd ▸ wd_getD HWs.out d))
          have HC := Lib.hid hcall
          have HSa := Lib.hid hSa
          have HS0a := Lib.hid hS0a
          have HWa := Lib.hid hWa
          have HPb := Lib.hid hP
          have Ha := Lib.hid hxa
          have Hb := Lib.hid hxb
          have Hc := Lib.hid hxc
          have Hd := Lib.hid hxd
          have Hlen := Lib.hid hl
          have HPe := Lib.hid hPb
          clear hcall hSa hS0a hWa hP hxa hxb hxc hxd hl hPb
          have ia : (a : Int) < 16 := by omega
          have ib : (b : Int) < 16 := by omega
          have ic : (c : Int) < 16 := by omega
          have id' : (d : Int) < 16 := by omega
          refine wp_region_later (by kernel_rfl) (by kernel_rfl) ?_
          repeat (go_big_quiet_step (exact HC.out _))
          refine wpQuiet_nil ?_
          rintro _ ⟨y, rfl⟩
          go_wp2_with fail
          have hy := y.ok
          have hSy := (hy.block S (cell_lt_of HSa.out)).trans HSa.out
          have hPy := (hy.block Pb (cell_lt_of HPb.out)).trans HPb.out
          have HS0y := Lib.hid ((hy.block S0 (cell_lt_of HS0a.out)).trans HS0a.out)
          have HWy := Lib.hid (HWa.out.trans (hy.mono HWa.out.size))
          replace c0 := c0 y
          replace c1 := c1 y
          replace c2 := c2 y
          replace c3 := c3 y
          replace s0 := s0 y
          replace s1 := s1 y
          replace s2 := s2 y
          replace s3 := s3 y
          have f0 : y.x.frozen? ⟨S, a, none⟩ = false := (ints_cell hSy (by have := Hlen.out; omega)).2
          have f1 : y.x.frozen? ⟨S, b, none⟩ = false := (ints_cell hSy (by have := Hlen.out; omega)).2
          have f2 : y.x.frozen? ⟨S, c, none⟩ = false := (ints_cell hSy (by have := Hlen.out; omega)).2
          have f3 : y.x.frozen? ⟨S, d, none⟩ = false := (ints_cell hSy (by have := Hlen.out; omega)).2
          have HSy := Lib.hid hSy
          clear hSy hPy hy HC HSa HPb HWa HS0a hidx'
          generalize y.x = wy at *
          have hSP : Pb ≠ S := fun e => hPS e.symm
          go_region_held3 (fun w' => w'.cell? ⟨Pb, 0, none⟩ = some (.int .i64 (a : Nat)) ∧ w'.cell? ⟨Pb, 1, none⟩ = some (.int .i64 (b : Nat)) ∧ w'.cell? ⟨Pb, 2, none⟩ = some (.int .i64 (c : Nat)) ∧ w'.cell? ⟨Pb, 3, none⟩ = some (.int .i64 (d : Nat))) (go_keep) (fail)
          go_wp2_with fail
          refine ⟨⟨m + 1, by omega, by go_num, ?_, ?_, ?_⟩, by simp [intOf]; omega⟩
          · have h := ints_set (ints_set (ints_set (ints_set HSy.out a (turnI xa xb xc xd).1) b (turnI xa xb xc xd).2.1) c (turnI xa xb xc xd).2.2.1) d (turnI xa xb xc xd).2.2.2
            have e : turnsTo (roundsTo st k) (m + 1) = (((sv.set a (turnI xa xb xc xd).1).set b (turnI xa xb xc xd).2.1).set c (turnI xa xb xc xd).2.2.1).set d (turnI xa xb xc xd).2.2.2 := by
              rw [Hstep.out]
              simp only [turnAt, Ha.out, Hb.out, Hc.out, Hd.out]
            rw [e]
            exact h
          · have hne : S0 ≠ S := by omega
            exact (Below.heap_setCell _ _ _ _ hne).trans ((Below.heap_setCell _ _ _ _ hne).trans ((Below.heap_setCell _ _ _ _ hne).trans ((Below.heap_setCell _ _ _ _ hne).trans HS0y.out)))
          · exact ((((HWy.out.setCell (by simp only; omega) _).setCell (by simp only; omega) _).setCell (by simp only; omega) _).setCell (by simp only; omega) _).drew
        · obtain rfl : m = 8 := by omega
          have HSi := Lib.hid hSi
          have HS0i := Lib.hid hS0i
          have HWi := Lib.hid hWi
          clear hSi hS0i hWi
          go_wp2_with fail
          exact ⟨⟨k + 1, by omega, by go_num, HSi.out, HS0i.out, HWi.out⟩, by simp [intOf]; omega⟩
    · obtain rfl : k = 10 := by omega
      go_wp2_with fail
      obtain ⟨fin, hfin⟩ : ∃ fin, fin = roundsTo st 10 := ⟨_, rfl⟩
      rw [← hfin] at HSr HWk
      rw [Harr.out] at HS0r
      have hfl := HWk.out.1
      have hsl := Hl.out
      have Hfin := Lib.hid hfin
      clear hfin
      go_loopw [78] (fun i wi => ∃ k : Nat, k ≤ 16 ∧ i = .int .i64 k ∧ wi.heap[S]? = some (.cells (ints (sumsTo fin st k)).toArray 143 (0, 0)) ∧ wi.heap[S0]? = some (.cells (ints st).toArray 143 (0, 0)) ∧ Below w.heap.size w wi) (fun i _ => 16 - (intOf i).toNat)
      case atStart => exact ⟨0, by omega, rfl, by rw [sumsTo_zero fin st hfl]; exact HSr.out, HS0r.out, HWr.out⟩
      case round =>
        obtain ⟨i, hi, rfl, hSi, hS0i, hWi⟩ := hrel
        by_cases hi16 : i < 16
        · have s0 := (ints_cell hSi (i := i) (by rw [sumsTo_len]; exact hi16)).1
          have f0 := (ints_cell hSi (i := i) (by rw [sumsTo_len]; exact hi16)).2
          have t0 := (ints_cell hS0i (i := i) (by omega)).1
          rw [sumsTo_at fin st i hi16] at s0
          have hxw : Wd (fin.getD i 0) := wd_getD HWk.out.2 i
          have hyw : Wd (st.getD i 0) := wd_getD HWd.out.2 i
          have Hset := Lib.hid (sumsTo_set fin st i hi16)
          have Hww := Lib.hid (wordsB2.2 ⟨hxw, hyw⟩)
          generalize fin.getD i 0 = x at s0 Hset Hww
          generalize st.getD i 0 = y at t0 Hset Hww
          have HSi := Lib.hid hSi
          have HS0i := Lib.hid hS0i
          have HWi := Lib.hid hWi
          have ii : (i : Int) < 16 := by omega
          have hSl := cell_lt_of hSi
          have hS0l := cell_lt_of hS0i
          clear hSi hS0i hWi hxw hyw
          go_wp2_with fail
          go_region_law (first | (go_simp; go_at_call 139; refine (add_any _ _ _ [x, y] _ (by exact rd_new' _ _ _ _ (by simp)) rfl (by simp) Hww.out).mono ?_; rintro e w' ⟨rfl, rfl⟩))
          all_goals
            go_wp2_with fail
            have hne : S0 ≠ S := by omega
            have e1 := ints_set HSi.out i (addI [x, y])
            rw [Hset.out] at e1
            have e2 := (Below.heap_setCell wr ⟨S, i, none⟩ (.int .i64 (addI [x, y])) S0 hne).trans HS0i.out
            have e3 := HWi.out.setCell (p := ⟨S, i, none⟩) (by simp only; omega) (.int .i64 (addI [x, y]))
            refine ⟨?_, by simp [intOf]; omega⟩
            repeat apply Exists.intro
            refine ⟨⟨i + 1, by omega, by go_num, ?_, ?_, ?_⟩, rfl⟩
            · exact (Below.heap_alloc _ _ _ (cell_lt_of e1)).trans e1
            · exact (Below.heap_alloc _ _ _ (cell_lt_of e2)).trans e2
            · exact (e3.alloc e3.size _).drew
        · obtain rfl : i = 16 := by omega
          have HRd : Hid (Rd wr (some ⟨S, 0, none⟩) (ints (sumsTo fin st 16))) := by
            intro j u hu
            have hj : j < (sumsTo fin st 16).length := by
              rcases Nat.lt_or_ge j (sumsTo fin st 16).length with h | h
              · exact h
              · simp [ints, h] at hu
            refine ⟨S, 0, rfl, ?_⟩
            rw [Nat.zero_add, (ints_cell hSi hj).1]
            simpa [ints, hj] using hu
          have HWi := Lib.hid hWi
          have Hws : Hid (wordsB (sumsTo fin st 16) = true) := by
            show wordsB (sumsTo fin st 16) = true
            rw [wordsB, List.all_eq_true]
            intro x hx
            obtain ⟨j, hj, rfl⟩ := List.mem_map.1 hx
            rw [if_pos (by simpa using hj)]
            have hz := wd_add [fin.getD j 0, st.getD j 0]
            generalize addI [fin.getD j 0, st.getD j 0] = z at hz ⊢
            unfold Wd at hz
            simp [wordB, hz]
          clear hSi hS0i hWi
          go_wp2_with fail
          refine (join_false _ _ _ (sumsTo fin st 16) _ HRd.out (by rw [sumsTo_len]) (by rw [sumsTo_len]; omega) Hws.out).mono ?_
          rintro e w5 ⟨rfl, hw5⟩
          have HW5 := Lib.hid (Below.chain HWi.out hw5)
          clear hw5
          go_wp2_with fail
          go_ret2
          refine ⟨?_, HW5.out⟩
          rw [Hfin.out, HSt.out]
          rfl

set_option maxHeartbeats 400000 in
set_option maxRecDepth 100000 in
theorem block_no (key nonce : ByteArray) (n : Int) (w : World) (hk1 : key.size ≤ 9223372036854775807) (ho1 : nonce.size ≤ 9223372036854775807) (h : ¬ (key.size = 32 ∧ nonce.size = 12 ∧ Wd n)) :
    Calls Tryz.prog 121 #[.string key, .string nonce, .int .i64 n] w fun e w' => e = .returned (.tuple #[.string (bs []), .int .i64 1]) ∧ Below w.heap.size w w' := by
  have H := Lib.hid h
  clear h
  go_enter Tryz.func121, Tryz.ntmps121
  go_wp2_with fail
  refine (first_no key nonce n w hk1 ho1 H.out).mono ?_
  rintro e w1 ⟨rfl, hw⟩
  go_wp2_with (refine wpList_store_whole (by rfl) 143 (.tmp 8) (.tmp 26) (by rfl) w1.heap.size zeros16 (by rfl) (by rfl) _ 143 (by exact heap_alloc_new w1 _) (by rfl) (by kernel_rfl) (by kernel_rfl) ?_)
  intro w2 hS0 hG2
  have hw2 : Below w.heap.size w w2 := (hw.alloc hw.size _).trans (grownBy_below' hG2 hw.size (by have := hw.size; simp; omega))
  have HW2 := Lib.hid hw2
  clear hw hw2 hS0 hG2
  go_wp2_with fail
  go_ret2
  exact ⟨rfl, HW2.out⟩

end Go.Proofs.YtieekajjoikepaaGreatDoor
