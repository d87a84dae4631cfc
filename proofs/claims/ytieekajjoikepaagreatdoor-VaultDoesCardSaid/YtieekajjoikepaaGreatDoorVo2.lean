/-
  Contracts of volume: work.fit, work.has, copied, work.rooted, Format, Read, Write.
-/
import Derived.Test.YtieekajjoikepaaGreatDoorVo
import Derived.Test.YtieekajjoikepaaGreatDoorCopyA
import Derived.Deep.RegionHeld3
namespace Go.Proofs.YtieekajjoikepaaGreatDoor
open Go.RowKit
set_option linter.unusedVariables false
set_option linter.unusedSimpArgs false
set_option maxRecDepth 100000
set_option maxHeartbeats 2000000

theorem vtextsV_one (l : List ByteArray) : ∀ u ∈ textsV l, u.oneCell' = true := by
  intro u hu
  obtain ⟨p, _, rfl⟩ := List.mem_map.1 hu
  rfl
theorem vtextsV_len (l : List ByteArray) : (textsV l).length = l.length := by simp [textsV]
theorem vtwo_cells {w : World} {g : Nat} {a b : Value} {t : TypeId} (h : w.heap[g]? = some (.cells #[a, b] t (0, 0))) : w.cell? ⟨g, 0, none⟩ = some a ∧ w.cell? ⟨g, 1, none⟩ = some b := ⟨rf_at h 0 _ rfl, rf_at h 1 _ rfl⟩
theorem roots_ok {l : List ByteArray} (h : mayB l.length = true) : rootsE l = 0 ∧ rootsS l = rootT l := by
  unfold rootsE rootsS
  rw [if_pos h, if_pos h]
  exact ⟨rfl, rfl⟩
theorem has_any (g : Nat) (A : Option Addr) (n c : Nat) (V : Vol) (i : Int) (w : World) (hX : w.heap[g]? = some (.cells #[.slice A n c, .string V.rt] 76 (0, 0))) (hn : n = V.bl.length) :
    Calls Tryz.prog 69 #[.pointer (some ⟨g, 0, none⟩), .int .i64 i] w fun e w' => e = .returned (.bool (hasV V i)) ∧ w' = w := by
  have hd : hasV V i = (decide (0 ≤ i) && decide (i < (n : Int))) := by unfold hasV; rw [hn]
  rw [hd]
  have x0 := rf_at hX 0 _ rfl
  clear hX hn hd
  by_cases h1 : 0 ≤ i
  · have e1 : decide (i ≥ 0) = true := by simpa using h1
    have e1' : decide (0 ≤ i) = true := by simpa using h1
    rw [e1']
    go_enter Tryz.func69, Tryz.ntmps69
    go_wp2_with fail
    go_ret
    exact ⟨rfl, rfl⟩
  · have e1 : decide (i ≥ 0) = false := by simpa using h1
    have e1' : decide (0 ≤ i) = false := by simpa using h1
    rw [e1']
    go_enter Tryz.func69, Tryz.ntmps69
    go_wp2_with fail
    go_ret
    exact ⟨rfl, rfl⟩
theorem fit_any (g : Nat) (A : Option Addr) (n c : Nat) (V : Vol) (t : Bool) (w : World) (hX : w.heap[g]? = some (.cells #[.slice A n c, .string V.rt] 76 (0, 0))) (hr : Rd w A (textsV V.bl)) (hn : n = V.bl.length) (hR : Rounds w) :
    Calls Tryz.prog 68 #[.pointer (some ⟨g, 0, none⟩), .int .i64 0, .bool t] w fun e w' => e = .returned (.int .i64 (fitE V t : Nat)) ∧ Below w.heap.size w w' := by
  have HC := Lib.hid (vcheck_any (.agg #[.slice A n c, .string V.rt]) V w ⟨A, n, c, rfl, hr, hn⟩)
  have HX := Lib.hid hX
  have HRd := Lib.hid hr
  have HN := Lib.hid hn
  have HR := Lib.hid hR
  have x0 := rf_at hX 0 _ rfl
  have x1 := rf_at hX 1 _ rfl
  clear hX hr hn hR
  cases hc : checkV V with
  | false =>
    have hE : fitE V t = 160 := by unfold fitE; rw [if_pos hc]
    rw [hE]
    rw [hc] at HC
    clear hE hc
    go_enter Tryz.func68, Tryz.ntmps68
    go_wp2_with fail
    refine (HC.out).mono ?_
    rintro e w1 ⟨rfl, hb⟩
    go_wp2_with fail
    go_ret
    exact ⟨rfl, hb⟩
  | true =>
  rw [hc] at HC
  have hcn : ¬ checkV V = false := by rw [hc]; simp
  cases t with
  | false =>
    have hE : fitE V false = 1 := by unfold fitE; rw [if_neg hcn, if_pos rfl]
    rw [hE]
    clear hE hc hcn
    go_enter Tryz.func68, Tryz.ntmps68
    go_wp2_with fail
    refine (HC.out).mono ?_
    rintro e w1 ⟨rfl, hb⟩
    go_wp2_with fail
    go_ret
    exact ⟨rfl, hb⟩
  | true =>
  obtain ⟨p1, p2, p3⟩ := vol_parts hc
  obtain ⟨r1, r2⟩ := roots_ok (count_may p1)
  have hE : fitE V true = if rootT V.bl = V.rt then 0 else 161 := by unfold fitE; rw [if_neg hcn, if_neg (by simp)]
  rw [hE]
  have HRt := Lib.hid (fun W h1 h2 => troot_any A n c V.bl W h1 HN.out (by have := (count_le p1).2; have := HN.out; omega) (fun s hs => by have := p3 s hs; omega) h2)
  rw [r1, r2] at HRt
  clear hE hc hcn p1 p2 p3 r1 r2
  by_cases heq : rootT V.bl = V.rt
  · rw [if_pos heq]
    rw [heq] at HRt
    generalize V.rt = rt at HC HX x0 x1 HRt
    have d1 : (rt.toList != rt.toList) = false := by simp
    have d2 : (((0 : Nat) : Int) != 0) = false := rfl
    clear heq
    go_enter Tryz.func68, Tryz.ntmps68
    go_wp2_with fail
    refine (HC.out).mono ?_
    rintro e w1 ⟨rfl, hb⟩
    have Hb := Lib.hid hb
    have X1 := Lib.hid (cells_below HX.out hb)
    clear hb x0 x1
    have x0 := rf_at X1.out 0 _ rfl
    have x1 := rf_at X1.out 1 _ rfl
    go_wp2_with fail
    refine (HRt.out _ (HRd.out.below Hb.out) (HR.out.below Hb.out)).mono ?_
    rintro e w2 ⟨rfl, hb2⟩
    have x2 := rf_at (cells_below X1.out hb2) 1 _ rfl
    have Hb2 := Lib.hid (Hb.out.trans (hb2.mono Hb.out.size))
    clear hb2 x0 x1
    go_wp2_with fail
    go_ret
    exact ⟨rfl, Hb2.out⟩
  · rw [if_neg heq]
    have d1 := text_ne' heq
    generalize rootT V.bl = r at d1 HRt
    generalize V.rt = rt at HC HX x0 x1 d1
    have d2 : (((0 : Nat) : Int) != 0) = false := rfl
    clear heq
    go_enter Tryz.func68, Tryz.ntmps68
    go_wp2_with fail
    refine (HC.out).mono ?_
    rintro e w1 ⟨rfl, hb⟩
    have Hb := Lib.hid hb
    have X1 := Lib.hid (cells_below HX.out hb)
    clear hb x0 x1
    have x0 := rf_at X1.out 0 _ rfl
    have x1 := rf_at X1.out 1 _ rfl
    go_wp2_with fail
    refine (HRt.out _ (HRd.out.below Hb.out) (HR.out.below Hb.out)).mono ?_
    rintro e w2 ⟨rfl, hb2⟩
    have x2 := rf_at (cells_below X1.out hb2) 1 _ rfl
    have Hb2 := Lib.hid (Hb.out.trans (hb2.mono Hb.out.size))
    clear hb2 x0 x1
    go_wp2_with fail
    go_ret
    exact ⟨rfl, Hb2.out⟩
theorem vcopied_any (A : Option Addr) (n c : Nat) (bl : List ByteArray) (rt : ByteArray) (w : World) (hr : Rd w A (textsV bl)) (hn : n = bl.length) (hm : n ≤ 1000000) :
    Calls Tryz.prog 71 #[.agg #[.slice A n c, .string rt]] w fun e w' => ∃ g A' cap, e = .returned (.pointer (some ⟨g, 0, none⟩)) ∧ w'.heap[g]? = some (.cells #[.slice A' n cap, .string rt] 76 (0, 0)) ∧ w.heap.size ≤ g ∧ w'.ownsRow w.heap.size 9 1 (.slice A' n cap) n (textsV bl) ∧ Below w.heap.size w w' := by
  have hbA := (Below.refl w.heap.size w).alloc (Nat.le_refl _) (.cells #[.slice A n c, .string rt] 27)
  have HRd := Lib.hid (hr.below hbA)
  have HN := Lib.hid hn
  have x0 := (vtwo_cells (heap_alloc_new w (.cells #[.slice A n c, .string rt] 27))).1
  have x1 := (vtwo_cells (heap_alloc_new w (.cells #[.slice A n c, .string rt] 27))).2
  have HbA := Lib.hid hbA
  clear hbA hr hn
  go_enter Tryz.func71, Tryz.ntmps71
  go_wp2_with fail
  go_region_held3 (fun w' => w'.cell? ⟨w.heap.size, 0, none⟩ = some (.slice A n c) ∧ w'.cell? ⟨w.heap.size, 1, none⟩ = some (.string rt))
    (first | assumption | exact ⟨x0, x1⟩ | exact keep2_alloc (by assumption) | exact keep2_below ⟨x0, x1⟩ (by assumption) | exact keep2_below (by assumption) (by assumption))
    (first
      | (refine step_append_copy (by rfl) _ _ 22 (by rfl) w.heap.size 9 (.string ⟨#[]⟩) 1 16 Tryz.underlying22 string_info rfl (by omega) (by rfl) A n c (by rfl) (textsV bl) (by exact HRd.out) (by rw [vtextsV_len, ← HN.out, Nat.mul_one]) (vtextsV_one _) (by omega) (by omega) (by exact HbA.out.size) ?_; intro A1 cap1 w1 ho1 hb1'; have hb1 := Below.chain ((Below.refl _ (w.alloc (.cells #[.slice A n c, .string rt] 27))).drew) hb1'; clear hb1'))
  go_wp2_with fail
  go_ret
  have hb3 := (Below.refl _ w1).alloc (Nat.le_refl _) (.cells #[.slice A1 n cap1, .string rt] 76)
  exact ⟨w1.heap.size, A1, cap1, rfl, heap_alloc_new w1 _, Nat.le_trans HbA.out.size hb1.size, own_keep ho1 hb3, Below.chain (Below.chain HbA.out hb1) hb3⟩
theorem load_vol {w : World} {g : Nat} {a b : Value} {t : TypeId} (h : w.heap[g]? = some (.cells #[a, b] t (0, 0))) : (loadVar 27 ⟨g, 0, none⟩).run Tryz.prog w = .ok (.agg #[a, b]) w := by
  have := run_loadVar_mid (P := Tryz.prog) w g 0 27 [a, b] _ (fun j v hj => by
    rw [Nat.zero_add, cell_of_row w g j _ _ _ h]
    simpa using hj) Tryz.underlying27 rfl (by kernel_rfl)
  simpa using this
theorem vol_set {W : World} {g : Nat} {t : TypeId} {a b : Value} (h : W.heap[g]? = some (.cells #[a, b] t (0, 0))) (u v : Value) : ((W.setCell ⟨g, 0, none⟩ u).setCell ⟨g, 1, none⟩ v).heap[g]? = some (.cells #[u, v] t (0, 0)) := by
  have := blk_set (blk_set h 0 u) 1 v
  simp only [List.setIfInBounds_toArray, List.set_cons_zero, List.set_cons_succ] at this
  exact this
theorem rooted_any (g : Nat) (A : Option Addr) (n c : Nat) (l : List ByteArray) (rt : ByteArray) (B : Nat) (w : World) (hX : w.heap[g]? = some (.cells #[.slice A n c, .string rt] 76 (0, 0))) (hr : Rd w A (textsV l)) (hn : n = l.length) (hm : mayB l.length = true) (hz : ∀ s ∈ l, s.size ≤ 1000) (hR : Rounds w) (hB : B ≤ g) :
    Calls Tryz.prog 43 #[.pointer (some ⟨g, 0, none⟩)] w fun e w' => e = .returned (.tuple #[.agg #[.slice A n c, .string (rootT l)], .int .i64 0]) ∧ Below B w w' ∧ (∀ k, k < w.heap.size → k ≠ g → w'.heap[k]? = w.heap[k]?) := by
  obtain ⟨r1, r2⟩ := roots_ok hm
  have HRt := Lib.hid (fun W h1 h2 => troot_any A n c l W h1 hn (by have : mayB l.length = true := hm; simp only [mayB, Bool.and_eq_true, decide_eq_true_eq] at this; omega) (fun s hs => by have := hz s hs; omega) h2)
  rw [r1, r2] at HRt
  generalize rootT l = r at HRt ⊢
  have al := (Below.refl w.heap.size w).alloc (Nat.le_refl _) (.cells #[.slice none 0 0, .string ⟨#[]⟩] 27)
  have HX := Lib.hid (cells_below hX al)
  have HY := Lib.hid (heap_alloc_new w (.cells #[.slice none 0 0, .string ⟨#[]⟩] 27))
  have HRd := Lib.hid (hr.below al)
  have HR := Lib.hid (hR.below al)
  have Hb := Lib.hid al
  have hglt := cell_lt_of hX
  have x0 := rf_at HX.out 0 _ rfl
  have d2 : (((0 : Nat) : Int) != 0) = false := rfl
  clear hX hr hn hm hz hR al r1 r2
  go_enter Tryz.func43, Tryz.ntmps43
  go_wp2_with fail
  refine (HRt.out _ HRd.out HR.out).mono ?_
  rintro e w2 ⟨rfl, hb2⟩
  have X2 := Lib.hid (cells_below HX.out hb2)
  have Y2 := Lib.hid (cells_below HY.out hb2)
  have Hb2 := Lib.hid (Hb.out.trans (hb2.mono Hb.out.size))
  clear hb2 x0
  have y1 := rf_at X2.out 1 _ rfl
  have f1 := rf_fr X2.out 1
  have s1 := blk_set X2.out 1 (.string r)
  simp only [List.setIfInBounds_toArray, List.set_cons_zero, List.set_cons_succ] at s1
  have S1 := Lib.hid s1
  have Y3 := Lib.hid ((Below.heap_setCell w2 ⟨g, 1, none⟩ (.string r) w.heap.size (by dsimp only; omega)).trans Y2.out)
  have a0 := rf_at S1.out 0 _ rfl
  have a1 := rf_at S1.out 1 _ rfl
  have b0 := rf_at Y3.out 0 _ rfl
  have b1 := rf_at Y3.out 1 _ rfl
  have f2 := rf_fr Y3.out 0
  have f3 := rf_fr Y3.out 1
  clear s1
  go_wp2_with fail
  refine bodyPost_ret (res_cell_tmp rfl _ _ w.heap.size (by rfl) _ (load_vol (vol_set Y3.out _ _))) rfl ?_
  refine ⟨rfl, (((Hb2.out.mono (by omega)).setCell (p := ⟨g, 1, none⟩) hB _).setCell (p := ⟨w.heap.size, 0, none⟩) (by dsimp only; omega) _).setCell (p := ⟨w.heap.size, 1, none⟩) (by dsimp only; omega) _, fun k hk hne => ?_⟩
  rw [Below.heap_setCell _ _ _ _ (by dsimp only; omega), Below.heap_setCell _ _ _ _ (by dsimp only; omega), Below.heap_setCell _ _ _ _ (by dsimp only; omega)]
  exact Hb2.out.block k hk
end Go.Proofs.YtieekajjoikepaaGreatDoor
