/-
  Contract of poly.Weights, whole.
-/
import Derived.Test.YtidnlginjjgmjaaDoorWeights2
namespace Go.Proofs.YtidnlginjjgmjaaDoor
open Go.RowKit
set_option linter.unusedVariables false
set_option maxRecDepth 100000
set_option maxHeartbeats 1000000

theorem gb_rd' {w w' : World} {G : Nat} {A : Option Addr} {xs : List Value} (h : w.grownBy w' (some G)) (hr : Rd w A xs) (hne : ∀ b off, A = some ⟨b, off, none⟩ → b ≠ G) : Rd w' A xs := by
  intro i u hu
  obtain ⟨b, off, hA, hc⟩ := hr i u hu
  refine ⟨b, off, hA, ?_⟩
  have := h.block b (cell_lt hc) (fun e => by injection e with e; exact hne b off hA e)
  unfold World.cell? at hc ⊢
  rw [this]
  exact hc
theorem gb_heap' {w w' : World} {G k : Nat} {o : Obj} (h : w.grownBy w' (some G)) (hk : w.heap[k]? = some o) (hne : k ≠ G) : w'.heap[k]? = some o :=
  (h.block k (cell_lt_of hk) (fun e => by injection e; omega)).trans hk
theorem gb_field' {w w' : World} {G g : Nat} (h : w.grownBy w' (some G)) (hk : IsField w g) (hne : g ≠ G) : IsField w' g := by
  obtain ⟨L, h1, h2⟩ := hk
  exact ⟨L, gb_heap' h h1 hne, h2⟩

theorem weights_fold (xs : List UInt8) (x : UInt8) (i : Nat) (A : Option Addr) (n c : Nat) (w : World) (g gk gi' gf gx ga : Nat) (hr : Rd w A (ints (nums xs))) (hn : n = xs.length) (hl : xs.length ≤ 255) (hnd : xs.Nodup) (hil : i < xs.length)
    (hk : Box w gk 3 (.int .i64 (-1))) (hi : Box w gi' 3 (.int .i64 (i : Int))) (hf : Box w gf 74 (.pointer (some ⟨g, 0, none⟩))) (hx : Box w gx 3 (dig x)) (ha : Box w ga 3 (dig (xs.getD i 0))) (hF : IsField w g)
    (hni : gi' ≠ gk) (hnf : gf ≠ gk) (hnx : gx ≠ gk) (hna : ga ≠ gk) (hng : g ≠ gk) (hnA : ∀ b off, A = some ⟨b, off, none⟩ → b ≠ gk) :
    Calls Tryd.prog 36 #[.slice A n c, .int .i64 1, .func (.func 66) #[] #[.pointer (some ⟨gk, 0, none⟩), .pointer (some ⟨gi', 0, none⟩), .pointer (some ⟨gf, 0, none⟩), .pointer (some ⟨gx, 0, none⟩), .pointer (some ⟨ga, 0, none⟩)]] w fun e w' => e = .returned (dig (wP (xs.getD i 0) x (xs.eraseIdx i) 1)) ∧ w.grownBy w' (some gk) := by
  refine (fold_ii (nums xs) A n c (.int .i64 1) 66 _ w (fun k v W => k ≤ xs.length ∧ v = dig (skipTo (xs.getD i 0) x xs i k) ∧ Box W gk 3 (.int .i64 ((k : Int) - 1)) ∧ w.grownBy W (some gk)) (by rw [nums_len]; exact hn) (by rw [nums_len]; omega) (enters_of Tryd.func66 (by kernel_rfl) rfl) ⟨by omega, rfl, by rw [show ((0 : Nat) : Int) - 1 = -1 from rfl]; exact hk, World.grownBy.refl _ _⟩ (fun k v W h => gb_rd' h.2.2.2 hr hnA) ?_).mono ?_
  · rintro k v W hkl ⟨_, rfl, hb, hG⟩
    have hkl' : k < xs.length := by rw [nums_len] at hkl; exact hkl
    rw [nums_at xs k hkl']
    by_cases e : k = i
    · subst e
      refine (weights1_same _ (xs.getD k 0) x (xs.getD k 0) (k : Int) W g gk gi' gf gx ga hb (gb_heap' hG hi hni) hni ⟨by omega, by omega⟩).mono ?_
      rintro e w' ⟨rfl, hb', hG'⟩
      exact ⟨_, rfl, by omega, by rw [skipTo, if_pos rfl], by rw [show ((k + 1 : Nat) : Int) - 1 = (k : Int) by omega]; exact hb', gbb_trans hG hG'⟩
    · have hne : xs.getD i 0 ≠ xs.getD k 0 := by
        rw [getD_at xs i hil, getD_at xs k hkl']
        rcases Nat.lt_or_gt_of_ne e with h | h
        · exact fun e2 => (List.pairwise_iff_getElem.1 hnd k i hkl' hil h) e2.symm
        · exact List.pairwise_iff_getElem.1 hnd i k hil hkl' h
      refine (weights1_other _ (xs.getD k 0) x (xs.getD i 0) (k : Int) (i : Int) W g gk gi' gf gx ga hb (gb_heap' hG hi hni) (gb_heap' hG hf hnf) (gb_heap' hG hx hnx) (gb_heap' hG ha hna) (gb_field' hG hF hng) hni hnf hnx hna hng ⟨by omega, by omega⟩ (by omega) hne).mono ?_
      rintro e' w' ⟨rfl, hb', hG'⟩
      exact ⟨_, rfl, by omega, by rw [skipTo, if_neg e], by rw [show ((k + 1 : Nat) : Int) - 1 = (k : Int) by omega]; exact hb', gbb_trans hG hG'⟩
  · rintro e w' ⟨v, rfl, _, rfl, _, hG⟩
    refine ⟨?_, hG⟩
    rw [nums_len, skipTo_erase _ _ _ _ _ (Nat.le_refl _), List.take_of_length_le (Nat.le_refl _)]

/-- How much each of xs counts at x. -/
def weightsL (xs : List UInt8) (x : UInt8) : List UInt8 := (List.range xs.length).map fun i => wP (xs.getD i 0) x (xs.eraseIdx i) 1
theorem weightsL_len (xs : List UInt8) (x : UInt8) : (weightsL xs x).length = xs.length := by simp [weightsL]

def weightsTo (xs : List UInt8) (x : UInt8) (i : Nat) : List UInt8 := (List.range xs.length).map fun j => if j < i then wP (xs.getD j 0) x (xs.eraseIdx j) 1 else 0
theorem weightsTo_len (xs : List UInt8) (x : UInt8) (i : Nat) : (weightsTo xs x i).length = xs.length := by simp [weightsTo]
theorem weightsTo_set (xs : List UInt8) (x : UInt8) (i : Nat) (hi : i < xs.length) : (weightsTo xs x i).set i (wP (xs.getD i 0) x (xs.eraseIdx i) 1) = weightsTo xs x (i + 1) := by
  apply List.ext_getElem
  · simp [weightsTo]
  · intro j h1 h2
    rw [List.getElem_set]
    simp only [weightsTo, List.getElem_map, List.getElem_range]
    by_cases e : i = j
    · subst e
      rw [if_pos rfl, if_pos (by omega)]
    · rw [if_neg e]
      by_cases e2 : j < i
      · rw [if_pos e2, if_pos (by omega)]
      · rw [if_neg e2, if_neg (by omega)]
theorem weightsTo_all (xs : List UInt8) (x : UInt8) : weightsTo xs x xs.length = weightsL xs x := by
  apply List.map_congr_left
  intro j hj
  rw [if_pos (by simpa using hj)]
theorem heap_new3 (w : World) (o o2 o3 : Obj) : (((w.alloc o).alloc o2).alloc o3).heap[w.heap.size + 1 + 1]? = some o3 := by
  have := heap_alloc_new ((w.alloc o).alloc o2) o3
  simpa using this
theorem keep1_set {W : World} {g i b o : Nat} {u v : Value} (h : W.cell? ⟨b, o, none⟩ = some v) (hne : b ≠ g) : (W.setCell ⟨g, i, none⟩ u).cell? ⟨b, o, none⟩ = some v := (World.cell?_setCell_other _ _ _ _ (fun e => hne (by injection e with e _; exact e.symm))).trans h
theorem gb_two {w w1 w2 : World} {G gk : Nat} (h : w.grownBy w1 (some G)) (h2 : w1.grownBy w2 (some gk)) (hk : w.heap.size ≤ gk) : w.grownBy w2 (some G) :=
  ⟨h2.os.trans h.os, h2.tape.trans h.tape, h2.output.trans h.output, Nat.le_trans h.size h2.size, fun i hi hr => (h2.block i (Nat.lt_of_lt_of_le hi h.size) (fun e => by injection e with e; omega)).trans (h.block i hi hr)⟩
theorem gb_cell {w w1 : World} {G : Nat} (h : w.grownBy w1 (some G)) (G' i : Nat) (v : Value) (e : G' = G := by rfl) : w.grownBy (w1.setCell ⟨G', i, none⟩ v) (some G) := by
  subst e
  exact ⟨h.os, h.tape, h.output, by simpa using h.size, fun k hk hne => (Below.heap_setCell _ _ _ _ (fun e => hne (by rw [e]))).trans (h.block k hk hne)⟩
theorem weights_yes (xs : List UInt8) (x : UInt8) (A : Option Addr) (n c : Nat) (w : World) (hr : Rd w A (ints (nums xs))) (hn : n = xs.length) (h1 : 1 ≤ xs.length) (h2 : xs.length ≤ 255) (hnd : xs.Nodup) :
    Calls Tryd.prog 44 #[.slice A n c, dig x] w fun e w' => ∃ G, e = .returned (.tuple #[.slice (some ⟨G, 0, none⟩) n n, .bool true]) ∧ w'.ownsRow w.heap.size 3 1 (.slice (some ⟨G, 0, none⟩) n n) n (ints (nums (weightsL xs x))) ∧ Below w.heap.size w w' := by
  have HR := Lib.hid hr
  have HN := Lib.hid hn
  have HL' := Lib.hid h2
  have HND := Lib.hid hnd
  have hn2 : n ≤ 255 := by omega
  have HX := Lib.hid (show [(x.toNat : Int)].all digB = true from nums_all [x])
  have hA : Hid (∀ b off, A = some ⟨b, off, none⟩ → b < w.heap.size) := Lib.hid fun b off e => by
    obtain ⟨b', off', e', hc⟩ := hr.int_at (i := 0) (by rw [nums_len]; omega)
    rw [e] at e'
    injection e' with e'
    injection e' with e'
    have := cell_lt hc
    simp only at this
    omega
  obtain ⟨iI, hI0, hI1, hI2, hI3⟩ := info_parts int_info
  clear hr hn hnd
  go_enter Tryd.func44, Tryd.ntmps44
  go_wp2_with fail
  refine (pright_yes xs A n c _ (HR.out.below ((Below.refl _ _).alloc (Nat.le_refl _) _)) HN.out h1 h2 HND.out).mono ?_
  rintro e w1 ⟨rfl, hb1⟩
  have bx1 := keep_one hb1
  replace hb1 := Below.chain_alloc (Below.refl _ _) hb1
  have cx := one_cell bx1
  have Bx1 := Lib.hid bx1
  clear bx1
  go_wp2_with fail
  refine (digits_any [(x.toNat : Int)] _ 1 1 _ (by exact rd_new' _ _ _ _ (by simp)) rfl (by simp)).mono ?_
  rintro e w2 ⟨rfl, rfl⟩
  rw [HX.out]
  go_wp2_with fail
  refine (new_field _).mono ?_
  rintro e w3 ⟨g, rfl, hF, _, hb3⟩
  have hb13 := Below.chain_alloc (Below.refl _ _) hb3
  have Bx3 := Lib.hid (cells_below Bx1.out hb13)
  replace hb3 := Below.chain hb1 hb13
  have HF3 := Lib.hid hF
  clear hb1 hb13 cx Bx1 hF
  obtain ⟨F0, hF0⟩ : ∃ F0, F0 = w3.heap.size := ⟨_, rfl⟩
  have hxlt := cell_lt_of Bx3.out
  have hglt := HF3.out.lt
  go_wp2_with (refine wpList_make_full _ (by rfl) (.tmp 22) (.tmp 22) 22 (by rfl) w.heap.size 3 iI (.int .i64 0) 1 Tryd.underlying22 hI0 hI1 hI2 .i64 .i64 _ _ n (by rfl) (by rfl) rfl rfl (by rw [hI3]; omega) (by unfold maxLen; omega) (by have := hb3.size; simp; omega) ?_)
  intro w5 ho5 hg5
  try simp only [Nat.mul_one] at ho5
  rw [made_ints, show List.replicate n (0 : Int) = nums (weightsTo xs x 0) by rw [HN.out]; simp [nums, weightsTo, List.map_const']] at ho5
  obtain ⟨w4, hw4⟩ : ∃ w4, w4 = w3.alloc (.cells #[.pointer (some ⟨g, 0, none⟩)] 74) := ⟨_, rfl⟩
  rw [← hw4] at hg5
  have h34 : Below w3.heap.size w3 w4 := by rw [hw4]; exact (Below.refl _ _).alloc (Nat.le_refl _) _
  have hb35 := Below.chain h34 (below_grown hg5 (Nat.le_refl _))
  have HF5 := Lib.hid (HF3.out.keep hb35)
  have Bx5 := Lib.hid (cells_below Bx3.out hb35)
  have Bf5 : Hid (Box w5 F0 74 (.pointer (some ⟨g, 0, none⟩))) := Lib.hid (cells_below (by rw [hw4, hF0]; exact heap_alloc_new w3 _) (below_grown hg5 (Nat.le_refl _)))
  have HW5 := Lib.hid (Below.chain hb3 hb35)
  rw [← hF0] at ho5 hxlt hglt ⊢
  obtain ⟨G, hG⟩ : ∃ G, G = F0 + 1 := ⟨_, rfl⟩
  rw [← hG] at ho5 ⊢
  have HO5 := Lib.hid (own_blk ho5).1
  have hGB := (own_blk ho5).2
  have hxG : w.heap.size ≠ G := by omega
  have hgG : g ≠ G := by omega
  have hfG : F0 ≠ G := by omega
  have hwF : w.heap.size < F0 := hxlt
  clear ho5 hg5 hw4 h34 hb35 HF3 Bx3 hb3 hF0 hG
  go_wp2_with fail
  go_loopw [26] (fun v wr => ∃ i : Nat, i ≤ n ∧ v = .int .i64 (i : Nat) ∧ w5.grownBy wr (some G) ∧ wr.heap[G]? = some (.cells (ints (nums (weightsTo xs x i))).toArray 3 (0, 0))) (fun v _ => n - (intOf v).toNat)
  case atStart => exact ⟨0, by omega, rfl, World.grownBy.refl _ _, HO5.out⟩
  case round =>
    clear HO5
    obtain ⟨i, hi, rfl, hG1, hL⟩ := hrel
    have HG1 := Lib.hid hG1
    have HL := Lib.hid hL
    clear hG1 hL
    by_cases hlt : i < n
    · have hil : i < xs.length := by rw [← HN.out]; exact hlt
      have hW : Below w.heap.size w wr := HW5.out.trans (grownBy_below' HG1.out hGB HW5.out.size)
      obtain ⟨b, off, hA', hc⟩ := (HR.out.below hW).int_at (i := i) (by rw [nums_len]; exact hil)
      rw [nums_at xs i hil] at hc
      subst hA'
      have HFr := Lib.hid (gb_field' HG1.out HF5.out hgG)
      have Bxr := Lib.hid (gb_heap' HG1.out Bx5.out hxG)
      have Bfr := Lib.hid (gb_heap' HG1.out Bf5.out hfG)
      have Hset := Lib.hid (weightsTo_set xs x i hil)
      have hGl := cell_lt_of HL.out
      have HLl := Lib.hid (weightsTo_len xs x i)
      have HWr := Lib.hid hW
      obtain ⟨a, hae⟩ : ∃ a, a = xs.getD i 0 := ⟨_, rfl⟩
      rw [← hae] at hc
      have Hae := Lib.hid hae
      clear hW hae
      go_wp2_with fail
      obtain ⟨w6, hw6⟩ : ∃ w6, w6 = ((wr.alloc (.cells #[.int .i64 (i : Int)] 3)).alloc (.cells #[dig a] 3)).alloc (.cells #[.int .i64 (-1)] 3) := ⟨_, rfl⟩
      have hb6 : Below wr.heap.size wr w6 := by rw [hw6]; exact (((Below.refl _ _).alloc (Nat.le_refl _) _).alloc (by simp) _).alloc (by simp; omega) _
      have bi6 : Box w6 wr.heap.size 3 (.int .i64 (i : Int)) := by
        rw [hw6]
        exact (Below.heap_alloc _ _ _ (by simp; omega)).trans ((Below.heap_alloc _ _ _ (by simp)).trans (heap_alloc_new wr _))
      have ba6 : Box w6 (wr.heap.size + 1) 3 (dig a) := by
        rw [hw6]
        exact (Below.heap_alloc _ _ _ (by simp)).trans (heap_new2 wr _ _)
      have bk6 : Box w6 (wr.heap.size + 1 + 1) 3 (.int .i64 (-1)) := by
        rw [hw6]
        exact heap_new3 wr _ _ _
      rw [← hw6]
      obtain ⟨gk, hgk⟩ : ∃ gk, gk = wr.heap.size + 1 + 1 := ⟨_, rfl⟩
      rw [← hgk] at bk6 ⊢
      have hgkG : G ≠ gk := by omega
      have hb9 : b < w.heap.size := hA.out b off rfl
      have hwr := HWr.out.size
      have hgr : g < wr.heap.size := HFr.out.lt
      have hfr : F0 < wr.heap.size := cell_lt_of Bfr.out
      have HC := Lib.hid (weights_fold xs x i (some ⟨b, off, none⟩) n c w6.drew g gk wr.heap.size F0 w.heap.size (wr.heap.size + 1) ((HR.out.below HWr.out).below hb6.drew) HN.out HL'.out HND.out hil bk6 bi6 (cells_below Bfr.out hb6.drew) (cells_below Bxr.out hb6.drew) (by rw [← Hae.out]; exact ba6) (HFr.out.keep hb6.drew) (by omega) (by omega) (by omega) (by omega) (by omega) (fun b' off' e => by injection e with e; injection e with e; omega))
      rw [← Hae.out] at HC Hset
      generalize wP a x (xs.eraseIdx i) 1 = wt at HC Hset
      have K6 : w6.drew.cell? ⟨wr.heap.size, 0, none⟩ = some (.int .i64 (i : Int)) := one_cell bi6
      have HL6 : Hid (w6.drew.heap[G]? = some (.cells (ints (nums (weightsTo xs x i))).toArray 3 (0, 0))) := Lib.hid (cells_below HL.out hb6.drew)
      have HG6 := Lib.hid (gb_next' HG1.out hb6.drew)
      have hn7 : wr.heap.size ≠ gk := by omega
      have hkge : wr.heap.size ≤ gk := by omega
      have hnG : wr.heap.size ≠ G := by omega
      have HL7 : Hid (∀ w7, w6.drew.grownBy w7 (some gk) → w7.heap[G]? = some (.cells (ints (nums (weightsTo xs x i))).toArray 3 (0, 0))) := Lib.hid fun w7 h => gb_heap' h HL6.out hgkG
      have HK7 : Hid (∀ w7, w6.drew.grownBy w7 (some gk) → w7.cell? ⟨wr.heap.size, 0, none⟩ = some (.int .i64 (i : Int))) := Lib.hid fun w7 h => one_cell (gb_heap' h (show w6.drew.heap[wr.heap.size]? = _ from bi6) hn7)
      have HC7 : Hid (∀ w7, w6.drew.grownBy w7 (some gk) → w7.cell? ⟨G, i, none⟩ = some (.int .i64 ((nums (weightsTo xs x i)).getD i 0)) ∧ w7.frozen? ⟨G, i, none⟩ = false) := Lib.hid fun w7 h => ints_cell (HL7.out w7 h) (by rw [nums_len, HLl.out]; exact hil)
      have hiI : (i : Int) < (n : Int) := by omega
      clear bi6 ba6 bk6 hw6 hc hgk
      go_region_held3 (fun w' => w'.cell? ⟨wr.heap.size, 0, none⟩ = some (.int .i64 (i : Int)))
        (first | assumption | exact keep1_set (by assumption) hnG)
        (first | (go_at_call 36; refine Calls.mono HC.out ?_; rintro e w7 ⟨rfl, hG7⟩; have K7 := HK7.out w7 hG7; obtain ⟨c7, f7⟩ := HC7.out w7 hG7))
      have e1 := ints_set (HL7.out w7 hG7) i (wt.toNat : Int)
      rw [show (nums (weightsTo xs x i)).set i (wt.toNat : Int) = nums (weightsTo xs x (i + 1)) by rw [← Hset.out]; simp [nums]] at e1
      have HE1 := Lib.hid e1
      have HE2 := Lib.hid (gb_cell (gb_two HG6.out hG7 (show w5.heap.size ≤ gk by have h2 := HG1.out.size; omega)) G i (.int .i64 (wt.toNat : Int)))
      clear e1 c7 f7 K7 hG7
      go_wp2_with fail
      go_roundw
      case rel => exact ⟨i + 1, by omega, by go_num, HE2.out, HE1.out⟩
      case measure => simp [intOf]; omega
    · obtain rfl : i = n := by omega
      rw [HN.out, weightsTo_all] at HL
      have HO := Lib.hid (blk_own HL.out hGB (show (ints (nums (weightsL xs x))).length = i * 1 by rw [HN.out]; simp [ints, nums, weightsL]) (by omega))
      have HW := Lib.hid (HW5.out.trans (grownBy_below' HG1.out hGB HW5.out.size))
      go_wp2_with fail
      go_ret2
      exact ⟨G, rfl, HO.out, HW.out⟩
end Go.Proofs.YtidnlginjjgmjaaDoor
