/-
  Contracts of package stream: mix, Turn, first.
-/
import Derived.Test.YtkeeejkijbaooaaDoorGen
import Derived.Test.YtkeeejkijbaooaaDoorJoin
import Derived.Test.YtkeeejkijbaooaaDoorArr
namespace Go.Proofs.YtkeeejkijbaooaaDoor
open Go.RowKit
set_option linter.unusedVariables false

set_option maxHeartbeats 400000 in
theorem mix_any (a b c n : Int) (w : World) (ha : Wd a) (hb : Wd b) (hc : Wd c) (hn0 : 0 ≤ n) (hn1 : n ≤ 32) :
    Calls Tryd.prog 65 #[.int .i64 a, .int .i64 b, .int .i64 c, .int .i64 n] w fun e w' => e = .returned (.tuple #[.int .i64 (mixA a b), .int .i64 (mixC a b c n)]) ∧ Below w.heap.size w w' := by
  have HA := Lib.hid ha
  have HB := Lib.hid hb
  have HC := Lib.hid hc
  clear ha hb hc
  go_enter Tryd.func65, Tryd.ntmps65
  go_wp2_with fail
  refine (add_b _ _ _ [a, b] _ (rd_new w _ _) rfl (by simp) (wordsB2.2 ⟨HA.out, HB.out⟩)).mono ?_
  rintro e w1 ⟨rfl, hw⟩
  replace hw := Below.chain_alloc (Below.refl _ _) hw
  go_wp2_with fail
  refine (xor_any c (addI [a, b]) _ (wordsB2.2 ⟨HC.out, wd_add _⟩)).mono ?_
  rintro e w2 ⟨rfl, hw2⟩
  replace hw := Below.chain hw hw2
  clear hw2
  go_wp2_with fail
  refine (rot_any (xorI c (addI [a, b])) n _ (wordsB1.2 (xorI_range HC.out (wd_add _))) hn0 hn1).mono ?_
  rintro e w3 ⟨rfl, hw3⟩
  replace hw := Below.chain hw hw3
  clear hw3
  go_wp2_with fail
  go_ret2
  exact ⟨rfl, hw⟩

set_option maxHeartbeats 1000000 in
theorem turn_any (a b c d : Int) (w : World) (ha : Wd a) (hb : Wd b) (hc : Wd c) (hd : Wd d) :
    Calls Tryd.prog 33 #[.int .i64 a, .int .i64 b, .int .i64 c, .int .i64 d] w fun e w' =>
      e = .returned (.tuple #[.int .i64 (turnI a b c d).1, .int .i64 (turnI a b c d).2.1, .int .i64 (turnI a b c d).2.2.1, .int .i64 (turnI a b c d).2.2.2, .bool true]) ∧ Below w.heap.size w w' := by
  have HA := Lib.hid ha
  have HB := Lib.hid hb
  have HC := Lib.hid hc
  have HD := Lib.hid hd
  have Hw := Lib.hid (show wordsB [a, b, c, d] = true by
    have h1 := ha; have h2 := hb; have h3 := hc; have h4 := hd
    unfold Wd at h1 h2 h3 h4
    simp [wordsB, wordB, h1, h2, h3, h4])
  clear ha hb hc hd
  go_enter Tryd.func33, Tryd.ntmps33
  go_wp2_with fail
  refine (is_b _ _ _ [a, b, c, d] _ (rd_new w _ _) rfl (by simp)).mono ?_
  rintro e w0 ⟨rfl, hw⟩
  rw [Hw.out]
  replace hw := Below.chain_alloc (Below.refl _ _) hw
  go_wp2_with fail
  refine (mix_any a b d 16 _ HA.out HB.out HD.out (by omega) (by omega)).mono ?_
  rintro e w1 ⟨rfl, hw1⟩
  replace hw := Below.chain hw hw1
  clear hw1
  go_wp2_with fail
  refine (mix_any c (mixC a b d 16) b 12 _ HC.out (wd_mixC _ HD.out) HB.out (by omega) (by omega)).mono ?_
  rintro e w2 ⟨rfl, hw2⟩
  replace hw := Below.chain hw hw2
  clear hw2
  go_wp2_with fail
  refine (mix_any (mixA a b) (mixC c (mixC a b d 16) b 12) (mixC a b d 16) 8 _ (wd_mixA _ _) (wd_mixC _ HB.out) (wd_mixC _ HD.out) (by omega) (by omega)).mono ?_
  rintro e w3 ⟨rfl, hw3⟩
  replace hw := Below.chain hw hw3
  clear hw3
  go_wp2_with fail
  refine (mix_any (mixA c (mixC a b d 16)) (mixC (mixA a b) (mixC c (mixC a b d 16) b 12) (mixC a b d 16) 8) (mixC c (mixC a b d 16) b 12) 7 _ (wd_mixA _ _) (wd_mixC _ (wd_mixC _ HD.out)) (wd_mixC _ HB.out) (by omega) (by omega)).mono ?_
  rintro e w4 ⟨rfl, hw4⟩
  replace hw := Below.chain hw hw4
  clear hw4
  go_wp2_with fail
  refine bodyPost_ret (res5 rfl _ _ _) rfl ?_
  exact ⟨rfl, hw⟩

set_option maxHeartbeats 400000 in
theorem first_yes (key nonce : ByteArray) (n : Int) (w : World) (hk : key.size = 32) (ho : nonce.size = 12) (hn : Wd n) :
    Calls Tryd.prog 32 #[.string key, .string nonce, .int .i64 n] w fun e w' => e = .returned (.tuple #[.agg (ints (firstL key.data.toList nonce.data.toList n)).toArray, .bool true]) ∧ Below w.heap.size w w' := by
  have h1 : ((key.size : Int) != 32) = false := by simp [hk]
  have h2 : ((nonce.size : Int) != 12) = false := by simp [ho]
  have Hk := Lib.hid hk
  have Ho := Lib.hid ho
  have HN := Lib.hid hn
  clear hk ho hn
  go_enter Tryd.func32, Tryd.ntmps32
  go_wp2_with fail
  refine (is_b _ _ _ [n] _ (by exact rd_new' _ _ _ _ (by simp)) rfl (by simp)).mono ?_
  rintro e w1 ⟨rfl, hw⟩
  rw [wordsB1.2 HN.out]
  have hz := keep_two hw
  replace hw := below_two hw
  have HZ := Lib.hid hz
  clear hz
  go_wp2_with fail
  refine (cut_false key _ (by rw [Hk.out]) (by rw [Hk.out]; decide)).mono ?_
  rintro e w2 ⟨g, rfl, hg, hrow, hw2⟩
  have hS := keep_one hw2
  rw [len_data, Hk.out] at hrow
  rw [len_data, Hk.out]
  have hlt := hrow.lt
  have hgS : w1.heap.size < g := by simp at hg; omega
  have hwr := (hw2.block w.heap.size (by have := hw.size; have := cell_lt_of HZ.out; simp; omega)).trans ((Below.heap_alloc _ _ _ (cell_lt_of HZ.out)).trans HZ.out)
  replace hw := Below.chain_alloc hw hw2
  have HR := Lib.hid hrow
  have HS := Lib.hid hS
  have HZ2 := Lib.hid hwr
  have hZS : w.heap.size < w1.heap.size := cell_lt_of HZ.out
  clear hrow hS hg hwr hw2 HZ
  obtain ⟨w3, hcp, hS3, hk3⟩ := copy_in (w := w2) 4 12 _ (cutL key.data.toList false 8) HS.out (rd_cut HR.out (by rw [len_data, Hk.out])) (by simp [cutL]) (show 8 = _ by simp [cutL])
  have hw3 : Below w.heap.size w w3 := hw.trans (grownBy_below' hk3 (by omega) hw.size)
  have HS3 := Lib.hid hS3
  have HW3 := Lib.hid hw3
  have HZ3 := Lib.hid ((hk3.block w.heap.size (cell_lt_of HZ2.out) (fun e => by injection e; omega)).trans HZ2.out)
  have hc3 : w3.cell? ⟨w1.heap.size, 12, none⟩ = some (.int .i64 0) := by
    unfold World.cell?; simp only [HS3.out]; rfl
  have hf3 : w3.frozen? ⟨w1.heap.size, 12, none⟩ = false := by
    unfold World.frozen?; simp only [HS3.out]; rfl
  clear hS3 hk3 hw3 HR HS HZ2 hw
  go_wp2_with fail
  have hS4 := blk_set HS3.out 12 (.int .i64 n)
  have hZ4 : (w3.setCell ⟨w1.heap.size, 12, none⟩ (.int .i64 n)).heap[w.heap.size]? = _ := (Below.heap_setCell _ _ _ _ (by simp only; omega)).trans HZ3.out
  have hw4 : Below w.heap.size w (w3.setCell ⟨w1.heap.size, 12, none⟩ (.int .i64 n)) := HW3.out.setCell (by simp only; omega) _
  generalize w3.setCell ⟨w1.heap.size, 12, none⟩ (.int .i64 n) = w4 at hS4 hZ4 hw4 ⊢
  have HS4 := Lib.hid hS4
  have HZ4 := Lib.hid hZ4
  have HW4 := Lib.hid hw4
  clear hS4 hZ4 hw4 HS3 HW3 HZ3 hc3 hf3 hcp
  refine (cut_false nonce _ (by rw [Ho.out]) (by rw [Ho.out]; decide)).mono ?_
  rintro e w5 ⟨g2, rfl, hg2, hrow, hw5⟩
  rw [len_data, Ho.out] at hrow
  rw [len_data, Ho.out]
  have HR := Lib.hid hrow
  have HS5 := Lib.hid ((hw5.block w1.heap.size (cell_lt_of HS4.out)).trans HS4.out)
  have HZ5 := Lib.hid ((hw5.block w.heap.size (cell_lt_of HZ4.out)).trans HZ4.out)
  have HW5 := Lib.hid (Below.chain HW4.out hw5)
  clear hrow hg2 hw5 HS4 HZ4 HW4
  obtain ⟨w6, hcp, hS6, hk6⟩ := copy_in (w := w5) 13 3 _ (cutL nonce.data.toList false 3) HS5.out (rd_cut HR.out (by rw [len_data, Ho.out])) (by simp [cutL, ints]) (show 3 = _ by simp [cutL])
  have HS6 := Lib.hid hS6
  have HW6 := Lib.hid (HW5.out.trans (grownBy_below' hk6 (by omega) HW5.out.size))
  have HZ6 := Lib.hid ((hk6.block w.heap.size (cell_lt_of HZ5.out) (fun e => by injection e; omega)).trans HZ5.out)
  clear hS6 hk6 HR HS5 HZ5 HW5
  obtain ⟨arr, harr⟩ : ∃ arr, arr = (ints (firstL key.data.toList nonce.data.toList n)).toArray := ⟨_, rfl⟩
  have HS7 : Hid (w6.heap[w1.heap.size]? = some (.cells arr 60 (0, 0))) := by
    rw [harr]
    exact HS6.out
  have Harr := Lib.hid harr
  have hsz : (Tryd.prog.info? 60).map (·.size) = some arr.size := by
    rw [harr]
    simp only [ints, firstL, cutL, List.size_toArray, List.length_map, List.length_append, List.length_range]
    kernel_rfl
  have h1c : arr.all (·.oneCell') = true := by
    rw [harr, Array.all_eq_true']
    intro v hv
    obtain ⟨x, _, rfl⟩ := List.mem_map.1 (by simpa [ints] using hv : v ∈ (ints (firstL key.data.toList nonce.data.toList n)))
    rfl
  have Hsz := Lib.hid hsz
  have H1c := Lib.hid h1c
  clear harr hsz h1c HS6
  go_wp2_with (first
    | (refine wpList_load_row (by rfl) 60 (.tmp 8) (by rfl) w1.heap.size (by rfl) 60 arr (0, 0) _ HS7.out Tryd.underlying60 rfl Hsz.out ?_)
    | (refine wpList_store_mid (by rfl) 60 (.tmp 6) (.tmp 47) (by rfl) w.heap.size 0 arr (by rfl) (by rfl) ?_ Hsz.out H1c.out ?_))
  · exact there_blk HZ6.out (Nat.le_of_eq (by
      have h := Hsz.out
      rw [show (Tryd.prog.info? 60).map (·.size) = some 16 by kernel_rfl] at h
      exact (Option.some.inj h).symm))
  · have ht : w6.there w.heap.size 0 arr.toList.length := there_blk HZ6.out (Nat.le_of_eq (by
      have h := Hsz.out
      rw [show (Tryd.prog.info? 60).map (·.size) = some 16 by kernel_rfl] at h
      simp [← Option.some.inj h]))
    have hr := World.rangeAt_setCells_same w6 w.heap.size 0 arr.toList ht
    have hl := run_loadVar_mid (P := Tryd.prog) _ w.heap.size 0 60 arr.toList _ hr Tryd.underlying60 rfl (by simpa using Hsz.out)
    refine bodyPost_ret (res_cell_tmp rfl _ _ w.heap.size rfl _ hl) rfl ?_
    refine ⟨?_, below_setCells (Nat.le_refl _) _ _ _ HW6.out⟩
    rw [← Harr.out]
    rfl
end Go.Proofs.YtkeeejkijbaooaaDoor
