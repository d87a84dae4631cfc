/-
  Contracts of holder.zeros, epochOf, readNow, readNext.
  Contract of holder.readNow.
  Contract of holder.readNext. (Printed by gen_next.py.)
  Contract of holder.Get. (Printed by gen_hget.py.)
-/
import Derived.Test.YtkbjmmigjjdfpaaGreatDoorHf
import Derived.Test.YtkbjmmigjjdfpaaGreatDoorShelf
namespace Go.Proofs.YtkbjmmigjjdfpaaGreatDoor
/- HoldN -/
open Go.RowKit
set_option linter.unusedVariables false
set_option maxRecDepth 100000
set_option maxHeartbeats 1000000

theorem ten_set {w : World} {g : Nat} {t : TypeId} {a0 a1 a2 a3 a4 a5 a6 a7 a8 a9 : Value} (h : w.heap[g]? = some (.cells #[a0, a1, a2, a3, a4, a5, a6, a7, a8, a9] t (0, 0))) (b0 b1 b2 b3 b4 b5 b6 b7 b8 b9 : Value) :
    ((((((((((w.setCell ⟨g, 0, none⟩ b0).setCell ⟨g, 1, none⟩ b1).setCell ⟨g, 2, none⟩ b2).setCell ⟨g, 3, none⟩ b3).setCell ⟨g, 4, none⟩ b4).setCell ⟨g, 5, none⟩ b5).setCell ⟨g, 6, none⟩ b6).setCell ⟨g, 7, none⟩ b7).setCell ⟨g, 8, none⟩ b8).setCell ⟨g, 9, none⟩ b9).heap[g]? = some (.cells #[b0, b1, b2, b3, b4, b5, b6, b7, b8, b9] t (0, 0)) := by
  have := blk_set (blk_set (blk_set (blk_set (blk_set (blk_set (blk_set (blk_set (blk_set (blk_set h 0 b0) 1 b1) 2 b2) 3 b3) 4 b4) 5 b5) 6 b6) 7 b7) 8 b8) 9 b9
  simp only [List.setIfInBounds_toArray, List.set_cons_zero, List.set_cons_succ] at this
  exact this
theorem ten_by {w : World} {B g : Nat} (hB : B ≤ g) (b0 b1 b2 b3 b4 b5 b6 b7 b8 b9 : Value) :
    Below B w ((((((((((w.setCell ⟨g, 0, none⟩ b0).setCell ⟨g, 1, none⟩ b1).setCell ⟨g, 2, none⟩ b2).setCell ⟨g, 3, none⟩ b3).setCell ⟨g, 4, none⟩ b4).setCell ⟨g, 5, none⟩ b5).setCell ⟨g, 6, none⟩ b6).setCell ⟨g, 7, none⟩ b7).setCell ⟨g, 8, none⟩ b8).setCell ⟨g, 9, none⟩ b9) :=
  (((((((((by_set hB b0).trans (by_set hB b1)).trans (by_set hB b2)).trans (by_set hB b3)).trans (by_set hB b4)).trans (by_set hB b5)).trans (by_set hB b6)).trans (by_set hB b7)).trans (by_set hB b8)).trans (by_set hB b9)
theorem ten_far {w : World} {g k : Nat} (hne : k ≠ g) (b0 b1 b2 b3 b4 b5 b6 b7 b8 b9 : Value) :
    ((((((((((w.setCell ⟨g, 0, none⟩ b0).setCell ⟨g, 1, none⟩ b1).setCell ⟨g, 2, none⟩ b2).setCell ⟨g, 3, none⟩ b3).setCell ⟨g, 4, none⟩ b4).setCell ⟨g, 5, none⟩ b5).setCell ⟨g, 6, none⟩ b6).setCell ⟨g, 7, none⟩ b7).setCell ⟨g, 8, none⟩ b8).setCell ⟨g, 9, none⟩ b9).heap[k]? = w.heap[k]? := by
  iterate 10 rw [Below.heap_setCell _ ⟨g, _, none⟩ _ k hne]
/-- A holder's value out of its block. -/
theorem load_hd {w : World} {g : Nat} {C : Array Value} {t : TypeId} (h : w.heap[g]? = some (.cells C t (0, 0))) (hc : C.size = 10) : (loadVar 102 ⟨g, 0, none⟩).run Tryz.prog w = .ok (.agg C) w := by
  have := run_loadVar_mid (P := Tryz.prog) w g 0 102 C.toList _ (fun j v hj => by
    rw [Nat.zero_add, cell_of_row w g j _ _ _ h]
    simpa using hj) Tryz.underlying102 rfl (by rw [show C.toList.length = 10 by simpa using hc]; kernel_rfl)
  simpa using this
theorem epochOf_any (x : Int) (w : World) : Calls Tryz.prog 149 #[.int .i64 x] w fun e w' => e = .returned (.bool (epochB x)) ∧ w' = w := by
  by_cases h : 1 ≤ x
  · have d1 : decide (1 ≤ x) = true := by simpa using h
    go_enter Tryz.func149, Tryz.ntmps149
    go_wp2_with fail
    go_ret
    exact ⟨ret_bool (by simp [epochB, h]), rfl⟩
  · have d1 : decide (1 ≤ x) = false := by simpa using h
    go_enter Tryz.func149, Tryz.ntmps149
    go_wp2_with fail
    go_ret
    exact ⟨ret_bool (by simp [epochB]; intro; omega), rfl⟩
theorem hrepeat_zero (n : Nat) : (⟨(Lib.repeatL [0] n).toArray⟩ : ByteArray) = zerosB n := by
  have : ∀ n, Lib.repeatL [(0 : UInt8)] n = List.replicate n 0 := fun n => by
    induction n with
    | zero => rfl
    | succ n ih => rw [Lib.repeatL, ih, List.replicate_succ]; rfl
  rw [this]
  rfl
theorem hzeros_any (n : Nat) (w : World) (hn : n ≤ 1000) : Calls Tryz.prog 88 #[.int .i64 (n : Nat)] w fun e w' => e = .returned (.string (zerosB n)) ∧ Below w.heap.size w w' := by
  go_enter Tryz.func88, Tryz.ntmps88
  go_wp2_with fail
  refine (repeat_b ⟨#[0]⟩ n _ (by omega) (by rw [show (⟨#[0]⟩ : ByteArray).size = 1 from rfl]; omega)).mono ?_
  rintro e w1 ⟨rfl, hb⟩
  go_wp2_with fail
  go_ret
  exact ⟨by rw [← hrepeat_zero]; rfl, hb⟩
abbrev zH : Array Value := #[.int .i64 0, .int .i64 0, .int .i64 0, .string ⟨#[]⟩, .string ⟨#[]⟩, .string ⟨#[]⟩, .int .i64 0, .int .i64 0, .string ⟨#[]⟩, .string ⟨#[]⟩]
/-- The memory of a text's reading, as it begins. -/
theorem five_new (w : World) (a b c d f : Array Value) (ta tb tc td tf : TypeId) :
    (((((w.alloc (.cells a ta)).alloc (.cells b tb)).alloc (.cells c tc)).alloc (.cells d td)).alloc (.cells f tf)).heap[w.heap.size]? = some (.cells a ta (0, 0)) ∧ (((((w.alloc (.cells a ta)).alloc (.cells b tb)).alloc (.cells c tc)).alloc (.cells d td)).alloc (.cells f tf)).heap[w.heap.size + 1]? = some (.cells b tb (0, 0)) ∧
    (((((w.alloc (.cells a ta)).alloc (.cells b tb)).alloc (.cells c tc)).alloc (.cells d td)).alloc (.cells f tf)).heap[w.heap.size + 1 + 1]? = some (.cells c tc (0, 0)) ∧ (((((w.alloc (.cells a ta)).alloc (.cells b tb)).alloc (.cells c tc)).alloc (.cells d td)).alloc (.cells f tf)).heap[w.heap.size + 1 + 1 + 1]? = some (.cells d td (0, 0)) ∧
    (((((w.alloc (.cells a ta)).alloc (.cells b tb)).alloc (.cells c tc)).alloc (.cells d td)).alloc (.cells f tf)).heap[w.heap.size + 1 + 1 + 1 + 1]? = some (.cells f tf (0, 0)) ∧
    Below w.heap.size w (((((w.alloc (.cells a ta)).alloc (.cells b tb)).alloc (.cells c tc)).alloc (.cells d td)).alloc (.cells f tf)) := by
  obtain ⟨h0, h1, h2, h3, hb⟩ := four_new w a b c d ta tb tc td
  have hs : ((((w.alloc (.cells a ta)).alloc (.cells b tb)).alloc (.cells c tc)).alloc (.cells d td)).heap.size = w.heap.size + 1 + 1 + 1 + 1 := by simp
  generalize (((w.alloc (.cells a ta)).alloc (.cells b tb)).alloc (.cells c tc)).alloc (.cells d td) = w5 at h0 h1 h2 h3 hb hs ⊢
  have hba := (Below.refl w5.heap.size w5).alloc (Nat.le_refl _) (.cells f tf)
  have h4 := heap_alloc_new w5 (.cells f tf)
  rw [hs] at h4
  exact ⟨cells_below h0 hba, cells_below h1 hba, cells_below h2 hba, cells_below h3 hba, h4, Below.chain hb hba⟩
def nowV (bp bh : Nat) : List Value := [140, 142, 144, 145, 147, 148].map fun f => Value.func (.func f) #[] #[.pointer (some ⟨bp, 0, none⟩), .pointer (some ⟨bh, 0, none⟩)]
theorem nowV_ok (bp br bh : Nat) : ∀ (i : Nat) (v : Value) (f : HR → HR), (nowV bp bh)[i]? = some v → nowF[i]? = some f → FieldV bp br bh v f := by
  intro i v f hv hf
  match i with
  | 0 => simp [nowV, nowF] at hv hf; subst hv hf; exact ⟨_, rfl, enters_of Tryz.func140 (by kernel_rfl) rfl, fun p W h => fN0_any bp br bh p W h⟩
  | 1 => simp [nowV, nowF] at hv hf; subst hv hf; exact ⟨_, rfl, enters_of Tryz.func142 (by kernel_rfl) rfl, fun p W h => fN1_any bp br bh p W h⟩
  | 2 => simp [nowV, nowF] at hv hf; subst hv hf; exact ⟨_, rfl, enters_of Tryz.func144 (by kernel_rfl) rfl, fun p W h => fN2_any bp br bh p W h⟩
  | 3 => simp [nowV, nowF] at hv hf; subst hv hf; exact ⟨_, rfl, enters_of Tryz.func145 (by kernel_rfl) rfl, fun p W h => fN3_any bp br bh p W h⟩
  | 4 => simp [nowV, nowF] at hv hf; subst hv hf; exact ⟨_, rfl, enters_of Tryz.func147 (by kernel_rfl) rfl, fun p W h => fN4_any bp br bh p W h⟩
  | 5 => simp [nowV, nowF] at hv hf; subst hv hf; exact ⟨_, rfl, enters_of Tryz.func148 (by kernel_rfl) rfl, fun p W h => fN5_any bp br bh p W h⟩
  | k + 6 => simp [nowF] at hf
def nextV (bp bh : Nat) : List Value := [150, 151, 152, 153].map fun f => Value.func (.func f) #[] #[.pointer (some ⟨bp, 0, none⟩), .pointer (some ⟨bh, 0, none⟩)]
theorem nextV_ok (bp br bh : Nat) : ∀ (i : Nat) (v : Value) (f : HR → HR), (nextV bp bh)[i]? = some v → nextF[i]? = some f → FieldV bp br bh v f := by
  intro i v f hv hf
  match i with
  | 0 => simp [nextV, nextF] at hv hf; subst hv hf; exact ⟨_, rfl, enters_of Tryz.func150 (by kernel_rfl) rfl, fun p W h => fX0_any bp br bh p W h⟩
  | 1 => simp [nextV, nextF] at hv hf; subst hv hf; exact ⟨_, rfl, enters_of Tryz.func151 (by kernel_rfl) rfl, fun p W h => fX1_any bp br bh p W h⟩
  | 2 => simp [nextV, nextF] at hv hf; subst hv hf; exact ⟨_, rfl, enters_of Tryz.func152 (by kernel_rfl) rfl, fun p W h => fX2_any bp br bh p W h⟩
  | 3 => simp [nextV, nextF] at hv hf; subst hv hf; exact ⟨_, rfl, enters_of Tryz.func153 (by kernel_rfl) rfl, fun p W h => fX3_any bp br bh p W h⟩
  | k + 4 => simp [nextF] at hf

/- HoldNow -/
open Go.RowKit
set_option linter.unusedVariables false
set_option maxRecDepth 100000
set_option maxHeartbeats 1000000

def HdPost (w : World) (r : Hd × Bool) (e : Ending) (w' : World) : Prop := e = .returned (.tuple #[.agg (hdV r.1), .bool r.2]) ∧ Below w.heap.size w w'
theorem readNow_any (s : ByteArray) (w : World) (hs : s.size ≤ 1000) :
    Calls Tryz.prog 92 #[.string s] w (HdPost w (readNowL s)) := by
  obtain ⟨q, hq⟩ : ∃ q, q = runF nowF (noHd, ⟨s, false⟩) := ⟨_, rfl⟩
  have Hq := Lib.hid hq
  have HR := Lib.hid (show readNowL s = nowEnd q.1 (fineR q.2) by rw [readNowL, hq])
  obtain ⟨g0, g1, g2, g3, g4, hb⟩ := five_new w zH zH #[.string s, .bool false] #[.pointer (some ⟨w.heap.size + 1 + 1, 0, none⟩)] (nowV (w.heap.size + 1 + 1 + 1) (w.heap.size + 1)).toArray 102 102 217 215 1
  have HW := Lib.hid hb
  have HC := Lib.hid (readF_any (w.heap.size + 1 + 1 + 1) (w.heap.size + 1 + 1) (w.heap.size + 1) (w.heap.size + 1 + 1 + 1 + 1) 6 (nowV (w.heap.size + 1 + 1 + 1) (w.heap.size + 1)) 1 nowF (noHd, ⟨s, false⟩) _ ⟨g3, g2, g1⟩ g4 (by omega) (by omega) rfl rfl (nowV_ok _ _ _) (by omega))
  have H0 := Lib.hid g0
  clear hq g0 g1 g2 g3 g4 hb
  go_enter Tryz.func92, Tryz.ntmps92
  go_wp2_with fail
  refine Calls.mono HC.out ?_
  rintro e w1 ⟨rfl, hf1, ht1⟩
  rw [← Hq.out] at hf1 ⊢
  obtain ⟨⟨h0, h1, h2, h3, h4, h5, h6, h7, h8, h9⟩, r⟩ := q
  replace H0 := Lib.hid ((ht1.block w.heap.size (cell_lt_of H0.out) (by omega) (by omega)).trans H0.out)
  have HB := Lib.hid (HW.out.trans (ht1.below (by omega) (by omega) HW.out.size))
  have H1 := Lib.hid (show w1.heap[w.heap.size + 1]? = some (.cells #[.int .i64 h0, .int .i64 h1, .int .i64 h2, .string h3, .string h4, .string h5, .int .i64 h6, .int .i64 h7, .string h8, .string h9] 102 (0, 0)) from hf1.hh)
  obtain ⟨⟨c0, c1, c2, c3, c4, c5, c6, c7, c8, c9⟩, cf⟩ := ten_cells H1.out
  obtain ⟨⟨z0, z1, z2, z3, z4, z5, z6, z7, z8, z9⟩, zf⟩ := ten_cells H0.out
  have f0 := zf 0
  have f1 := zf 1
  have f2 := zf 2
  have f3 := zf 3
  have f4 := zf 4
  have f5 := zf 5
  have f6 := zf 6
  have f7 := zf 7
  have f8 := zf 8
  have f9 := zf 9
  have k2 := cf 2
  have k3 := cf 3
  have k4 := cf 4
  have hlt1 := cell_lt_of H1.out
  clear ht1 hf1 HC zf cf
  simp only at HR
  cases hok : fineR r with
  | false =>
    have HE := Lib.hid (show readNowL s = (noHd, false) by rw [HR.out, hok, nowEnd, if_pos (.inl rfl)])
    clear hok
    go_wp2_with fail
    refine bodyPost_ret (res_cell_tmp rfl _ _ w.heap.size (by rfl) _ (load_hd (ten_set H0.out _ _ _ _ _ _ _ _ _ _) rfl)) rfl ?_
    rw [HE.out]
    exact ⟨rfl, HB.out.trans (ten_by (Nat.le_refl _) _ _ _ _ _ _ _ _ _ _)⟩
  | true =>
    have Hok := Lib.hid hok
    clear hok
    by_cases h5t : 5 < h1
    · have HE := Lib.hid (show readNowL s = (noHd, false) by rw [HR.out, nowEnd, if_pos (.inr h5t)])
      have d1 : decide (5 < h1) = true := by simpa using h5t
      go_wp2_with fail
      refine bodyPost_ret (res_cell_tmp rfl _ _ w.heap.size (by rfl) _ (load_hd (ten_set H0.out _ _ _ _ _ _ _ _ _ _) rfl)) rfl ?_
      rw [HE.out]
      exact ⟨rfl, HB.out.trans (ten_by (Nat.le_refl _) _ _ _ _ _ _ _ _ _ _)⟩
    · have d1 : decide (5 < h1) = false := by simpa using h5t
      have HR2 := Lib.hid (show readNowL s = if h2 ≠ 0 then (if epochB h0 then (⟨h0, h1, h2, h3, h4, h5, h6, h7, h8, h9⟩, true) else (noHd, false)) else if h0 ≠ 0 ∨ h3 ≠ zerosB 32 ∨ h4 ≠ zerosB 16 then (noHd, false) else (⟨h0, h1, 0, none0, none0, h5, h6, h7, h8, h9⟩, true) by
        rw [HR.out, nowEnd, if_neg (by rw [Hok.out]; simp; simpa using h5t)])
      clear h5t
      by_cases hx : h2 = 0
      · have HR3 := Lib.hid (show readNowL s = if h0 ≠ 0 ∨ h3 ≠ zerosB 32 ∨ h4 ≠ zerosB 16 then (noHd, false) else (⟨h0, h1, 0, none0, none0, h5, h6, h7, h8, h9⟩, true) by rw [HR2.out, if_neg (by rw [hx]; simp)])
        have d2 : (h2 != 0) = false := by simpa using hx
        have cy0 : ∀ y : Later w1, y.x.cell? ⟨w.heap.size + 1, 0, none⟩ = some (.int .i64 h0) := fun y => y.cell c0
        have cy3 : ∀ y : Later w1, y.x.cell? ⟨w.heap.size + 1, 3, none⟩ = some (.string h3) := fun y => y.cell c3
        have cy4 : ∀ y : Later w1, y.x.cell? ⟨w.heap.size + 1, 4, none⟩ = some (.string h4) := fun y => y.cell c4
        have Z32 : Hid (∀ y : Later w1, Calls Tryz.prog 88 #[.int .i64 32] y.x fun e w' => e = .returned (.string (zerosB 32)) ∧ ∃ z : Later w1, w' = z.x) := Lib.hid fun y => later_call (hzeros_any 32 y.x (by omega))
        have Z16 : Hid (∀ y : Later w1, Calls Tryz.prog 88 #[.int .i64 16] y.x fun e w' => e = .returned (.string (zerosB 16)) ∧ ∃ z : Later w1, w' = z.x) := Lib.hid fun y => later_call (hzeros_any 16 y.x (by omega))
        clear hx
        by_cases he : h0 = 0
        · have d3 : (h0 != 0) = false := by simpa using he
          by_cases hb3 : h3 = zerosB 32
          · by_cases hb4 : h4 = zerosB 16
            · have HE := Lib.hid (show readNowL s = (⟨h0, h1, 0, none0, none0, h5, h6, h7, h8, h9⟩, true) by rw [HR3.out, if_neg (by simp [he, hb3, hb4])])
              have d4 : (h3.toList == (zerosB 32).toList) = true := by rw [hb3]; exact beq_self_eq_true _
              have d5 : (h4.toList == (zerosB 16).toList) = true := by rw [hb4]; exact beq_self_eq_true _
              clear he hb3 hb4
              go_wp2_with fail
              refine wp_region_later (by kernel_rfl) (by kernel_rfl) ?_
              repeat (go_big_quiet_step (first | with_reducible exact Z32.out _ | with_reducible exact Z16.out _))
              refine wpQuiet_nil ?_
              rintro _ ⟨y, rfl⟩
              replace H0 := hblk_below H0 y.ok
              replace H1 := hblk_below H1 y.ok
              replace HB := Lib.hid (HB.out.trans (y.ok.mono HB.out.size))
              obtain ⟨⟨z0, z1, z2, z3, z4, z5, z6, z7, z8, z9⟩, zf⟩ := ten_cells H0.out
              have f0 := zf 0
              have f1 := zf 1
              have f2 := zf 2
              have f3 := zf 3
              have f4 := zf 4
              have f5 := zf 5
              have f6 := zf 6
              have f7 := zf 7
              have f8 := zf 8
              have f9 := zf 9
              obtain ⟨⟨c0, c1, c2, c3, c4, c5, c6, c7, c8, c9⟩, cf⟩ := ten_cells H1.out
              have k2 := cf 2
              have k3 := cf 3
              have k4 := cf 4
              clear cy0 cy3 cy4
              go_wp2_with fail
              have q0 := (Below.heap_setCell (((y.x.setCell ⟨w.heap.size + 1, 2, none⟩ (.int .i64 0)).setCell ⟨w.heap.size + 1, 3, none⟩ (.string ⟨#[]⟩))) ⟨w.heap.size + 1, 4, none⟩ (.string ⟨#[]⟩) w.heap.size (by simp)).trans ((Below.heap_setCell (y.x.setCell ⟨w.heap.size + 1, 2, none⟩ (.int .i64 0)) ⟨w.heap.size + 1, 3, none⟩ (.string ⟨#[]⟩) w.heap.size (by simp)).trans ((Below.heap_setCell y.x ⟨w.heap.size + 1, 2, none⟩ (.int .i64 0) w.heap.size (by simp)).trans H0.out))
              refine bodyPost_ret (res_cell_tmp rfl _ _ w.heap.size (by rfl) _ (load_hd (ten_set q0 _ _ _ _ _ _ _ _ _ _) rfl)) rfl ?_
              rw [HE.out]
              exact ⟨rfl, (((HB.out.trans (by_set (by omega) _)).trans (by_set (by omega) _)).trans (by_set (by omega) _)).trans (ten_by (Nat.le_refl _) _ _ _ _ _ _ _ _ _ _)⟩
            · have HE := Lib.hid (show readNowL s = (noHd, false) by rw [HR3.out, if_pos (.inr (.inr hb4))])
              have d4 : (h3.toList == (zerosB 32).toList) = true := by rw [hb3]; exact beq_self_eq_true _
              have d5 : (h4.toList == (zerosB 16).toList) = false := text_ne' hb4
              clear he hb3 hb4
              go_wp2_with fail
              refine wp_region_later (by kernel_rfl) (by kernel_rfl) ?_
              repeat (go_big_quiet_step (first | with_reducible exact Z32.out _ | with_reducible exact Z16.out _))
              refine wpQuiet_nil ?_
              rintro _ ⟨y, rfl⟩
              replace H0 := hblk_below H0 y.ok
              replace H1 := hblk_below H1 y.ok
              replace HB := Lib.hid (HB.out.trans (y.ok.mono HB.out.size))
              obtain ⟨⟨z0, z1, z2, z3, z4, z5, z6, z7, z8, z9⟩, zf⟩ := ten_cells H0.out
              have f0 := zf 0
              have f1 := zf 1
              have f2 := zf 2
              have f3 := zf 3
              have f4 := zf 4
              have f5 := zf 5
              have f6 := zf 6
              have f7 := zf 7
              have f8 := zf 8
              have f9 := zf 9
              obtain ⟨⟨c0, c1, c2, c3, c4, c5, c6, c7, c8, c9⟩, cf⟩ := ten_cells H1.out
              have k2 := cf 2
              have k3 := cf 3
              have k4 := cf 4
              clear cy0 cy3 cy4
              go_wp2_with fail
              refine bodyPost_ret (res_cell_tmp rfl _ _ w.heap.size (by rfl) _ (load_hd (ten_set H0.out _ _ _ _ _ _ _ _ _ _) rfl)) rfl ?_
              rw [HE.out]
              exact ⟨rfl, HB.out.trans (ten_by (Nat.le_refl _) _ _ _ _ _ _ _ _ _ _)⟩
          · have HE := Lib.hid (show readNowL s = (noHd, false) by rw [HR3.out, if_pos (.inr (.inl hb3))])
            have d4 : (h3.toList == (zerosB 32).toList) = false := text_ne' hb3
            clear he hb3
            go_wp2_with fail
            refine wp_region_later (by kernel_rfl) (by kernel_rfl) ?_
            repeat (go_big_quiet_step (first | with_reducible exact Z32.out _ | with_reducible exact Z16.out _))
            refine wpQuiet_nil ?_
            rintro _ ⟨y, rfl⟩
            replace H0 := hblk_below H0 y.ok
            replace H1 := hblk_below H1 y.ok
            replace HB := Lib.hid (HB.out.trans (y.ok.mono HB.out.size))
            obtain ⟨⟨z0, z1, z2, z3, z4, z5, z6, z7, z8, z9⟩, zf⟩ := ten_cells H0.out
            have f0 := zf 0
            have f1 := zf 1
            have f2 := zf 2
            have f3 := zf 3
            have f4 := zf 4
            have f5 := zf 5
            have f6 := zf 6
            have f7 := zf 7
            have f8 := zf 8
            have f9 := zf 9
            obtain ⟨⟨c0, c1, c2, c3, c4, c5, c6, c7, c8, c9⟩, cf⟩ := ten_cells H1.out
            have k2 := cf 2
            have k3 := cf 3
            have k4 := cf 4
            clear cy0 cy3 cy4
            go_wp2_with fail
            refine bodyPost_ret (res_cell_tmp rfl _ _ w.heap.size (by rfl) _ (load_hd (ten_set H0.out _ _ _ _ _ _ _ _ _ _) rfl)) rfl ?_
            rw [HE.out]
            exact ⟨rfl, HB.out.trans (ten_by (Nat.le_refl _) _ _ _ _ _ _ _ _ _ _)⟩
        · have d3 : (h0 != 0) = true := by simpa using he
          have HE := Lib.hid (show readNowL s = (noHd, false) by rw [HR3.out, if_pos (.inl he)])
          clear he
          go_wp2_with fail
          refine wp_region_later (by kernel_rfl) (by kernel_rfl) ?_
          repeat (go_big_quiet_step (first | with_reducible exact Z32.out _ | with_reducible exact Z16.out _))
          refine wpQuiet_nil ?_
          rintro _ ⟨y, rfl⟩
          replace H0 := hblk_below H0 y.ok
          replace H1 := hblk_below H1 y.ok
          replace HB := Lib.hid (HB.out.trans (y.ok.mono HB.out.size))
          obtain ⟨⟨z0, z1, z2, z3, z4, z5, z6, z7, z8, z9⟩, zf⟩ := ten_cells H0.out
          have f0 := zf 0
          have f1 := zf 1
          have f2 := zf 2
          have f3 := zf 3
          have f4 := zf 4
          have f5 := zf 5
          have f6 := zf 6
          have f7 := zf 7
          have f8 := zf 8
          have f9 := zf 9
          obtain ⟨⟨c0, c1, c2, c3, c4, c5, c6, c7, c8, c9⟩, cf⟩ := ten_cells H1.out
          have k2 := cf 2
          have k3 := cf 3
          have k4 := cf 4
          clear cy0 cy3 cy4
          go_wp2_with fail
          refine bodyPost_ret (res_cell_tmp rfl _ _ w.heap.size (by rfl) _ (load_hd (ten_set H0.out _ _ _ _ _ _ _ _ _ _) rfl)) rfl ?_
          rw [HE.out]
          exact ⟨rfl, HB.out.trans (ten_by (Nat.le_refl _) _ _ _ _ _ _ _ _ _ _)⟩
      · have d2 : (h2 != 0) = true := by simpa using hx
        have Hx := Lib.hid hx
        clear hx
        go_wp2_with fail
        refine (epochOf_any h0 _).mono ?_
        rintro e w2 ⟨rfl, rfl⟩
        cases he : epochB h0 with
        | false =>
          have HE := Lib.hid (show readNowL s = (noHd, false) by rw [HR2.out, if_pos Hx.out, he]; rfl)
          clear he
          go_wp2_with fail
          refine bodyPost_ret (res_cell_tmp rfl _ _ w.heap.size (by rfl) _ (load_hd (ten_set H0.out _ _ _ _ _ _ _ _ _ _) rfl)) rfl ?_
          rw [HE.out]
          exact ⟨rfl, HB.out.trans (ten_by (Nat.le_refl _) _ _ _ _ _ _ _ _ _ _)⟩
        | true =>
          have HE := Lib.hid (show readNowL s = (⟨h0, h1, h2, h3, h4, h5, h6, h7, h8, h9⟩, true) by rw [HR2.out, if_pos Hx.out, he]; rfl)
          clear he
          go_wp2_with fail
          refine bodyPost_ret (res_cell_tmp rfl _ _ w.heap.size (by rfl) _ (load_hd (ten_set H0.out _ _ _ _ _ _ _ _ _ _) rfl)) rfl ?_
          rw [HE.out]
          exact ⟨rfl, HB.out.trans (ten_by (Nat.le_refl _) _ _ _ _ _ _ _ _ _ _)⟩

/- HoldNext -/
open Go.RowKit
set_option linter.unusedVariables false
set_option maxRecDepth 100000
set_option maxHeartbeats 1000000

theorem readNext_any (h : Hd) (s : ByteArray) (w : World) (hs : s.size ≤ 1000) :
    Calls Tryz.prog 93 #[.agg (hdV h), .string s] w (HdPost w (readNextL h s)) := by
  by_cases hz : s.size = 0
  · have HE := Lib.hid (show readNextL h s = (h, true) by rw [readNextL, if_pos hz])
    have e1 := (toList_nil s).2 hz
    obtain ⟨h0, h1, h2, h3, h4, h5, h6, h7, h8, h9⟩ := h
    have g0 := heap_alloc_new w (.cells (hdV ⟨h0, h1, h2, h3, h4, h5, h6, h7, h8, h9⟩) 102)
    have b0 := (Below.refl w.heap.size w).alloc (Nat.le_refl _) (.cells (hdV ⟨h0, h1, h2, h3, h4, h5, h6, h7, h8, h9⟩) 102)
    have HB0 := Lib.hid b0
    have hX := heap_alloc_new (w.alloc (.cells (hdV ⟨h0, h1, h2, h3, h4, h5, h6, h7, h8, h9⟩) 102)) (.cells (hdV ⟨h0, h1, h2, h3, h4, h5, h6, h7, h8, h9⟩) 102)
    rw [World.size_alloc] at hX
    have HX := Lib.hid hX
    clear b0 hX
    unfold hdV
    go_enter Tryz.func93, Tryz.ntmps93
    go_wp2_with fail
    refine bodyPost_ret (res_cell_tmp rfl _ _ (w.heap.size + 1) (by rfl) _ (load_hd HX.out rfl)) rfl ?_
    rw [HE.out]
    exact ⟨rfl, HB0.out.alloc HB0.out.size _⟩
  · have e1 : s.toList.isEmpty = false := toList_some s hz
    have e2 : ¬ s.toList = [] := fun e => hz ((toList_nil s).1 e)
    obtain ⟨q, hq⟩ : ∃ q, q = runF nextF (h, ⟨s, false⟩) := ⟨_, rfl⟩
    have Hq := Lib.hid hq
    have HR := Lib.hid (show readNextL h s = nextEnd q.1 (fineR q.2) by rw [readNextL, if_neg hz, hq])
    obtain ⟨g0, g1, g2, g3, g4, hb⟩ := five_new w (hdV h) zH #[.string s, .bool false] #[.pointer (some ⟨w.heap.size + 1 + 1, 0, none⟩)] (nextV (w.heap.size + 1 + 1 + 1) w.heap.size).toArray 102 102 217 215 1
    have HW := Lib.hid hb
    have HC := Lib.hid (readF_any (w.heap.size + 1 + 1 + 1) (w.heap.size + 1 + 1) w.heap.size (w.heap.size + 1 + 1 + 1 + 1) 4 (nextV (w.heap.size + 1 + 1 + 1) w.heap.size) 1 nextF (h, ⟨s, false⟩) _ ⟨g3, g2, g0⟩ g4 (by omega) (by omega) rfl rfl (nextV_ok _ _ _) (by omega))
    have H0 := Lib.hid g1
    obtain ⟨a0, a1, a2, a3, a4, a5, a6, a7, a8, a9⟩ := h
    clear hq g0 g1 g2 g3 g4 hb hz
    unfold hdV at HC
    show Calls Tryz.prog 93 #[.agg #[.int .i64 a0, .int .i64 a1, .int .i64 a2, .string a3, .string a4, .string a5, .int .i64 a6, .int .i64 a7, .string a8, .string a9], .string s] w _
    go_enter Tryz.func93, Tryz.ntmps93
    go_wp2_with fail
    refine Calls.mono HC.out ?_
    rintro e w1 ⟨rfl, hf1, ht1⟩
    rw [← Hq.out] at hf1 ⊢
    obtain ⟨⟨h0, h1, h2, h3, h4, h5, h6, h7, h8, h9⟩, r⟩ := q
    replace H0 := Lib.hid ((ht1.block (w.heap.size + 1) (cell_lt_of H0.out) (by omega) (by omega)).trans H0.out)
    have HB := Lib.hid (HW.out.trans (ht1.below (by omega) (by omega) HW.out.size))
    have H1 := Lib.hid (show w1.heap[w.heap.size]? = some (.cells #[.int .i64 h0, .int .i64 h1, .int .i64 h2, .string h3, .string h4, .string h5, .int .i64 h6, .int .i64 h7, .string h8, .string h9] 102 (0, 0)) from hf1.hh)
    obtain ⟨⟨c0, c1, c2, c3, c4, c5, c6, c7, c8, c9⟩, cf⟩ := ten_cells H1.out
    obtain ⟨⟨z0, z1, z2, z3, z4, z5, z6, z7, z8, z9⟩, zf⟩ := ten_cells H0.out
    have f0 := zf 0
    have f1 := zf 1
    have f2 := zf 2
    have f3 := zf 3
    have f4 := zf 4
    have f5 := zf 5
    have f6 := zf 6
    have f7 := zf 7
    have f8 := zf 8
    have f9 := zf 9
    have hlt1 := cell_lt_of H0.out
    clear ht1 hf1 HC zf cf
    simp only at HR
    cases hok : fineR r with
    | false =>
      have HE := Lib.hid (show readNextL ⟨a0, a1, a2, a3, a4, a5, a6, a7, a8, a9⟩ s = (noHd, false) by rw [HR.out, hok, nextEnd, if_pos (.inl rfl)])
      clear hok
      go_wp2_with fail
      refine bodyPost_ret (res_cell_tmp rfl _ _ (w.heap.size + 1) (by rfl) _ (load_hd (ten_set H0.out _ _ _ _ _ _ _ _ _ _) rfl)) rfl ?_
      rw [HE.out]
      exact ⟨rfl, HB.out.trans (ten_by (by omega) _ _ _ _ _ _ _ _ _ _)⟩
    | true =>
      have Hok := Lib.hid hok
      clear hok
      have hr : ∀ b : Bool, (epochB h6 = false ∨ h7 = 0) = (b = true) → nextEnd ⟨h0, h1, h2, h3, h4, h5, h6, h7, h8, h9⟩ (fineR r) = if b then (noHd, false) else (⟨h0, h1, h2, h3, h4, h5, h6, h7, h8, h9⟩, true) := by
        intro b hb
        rw [nextEnd, Hok.out]
        cases b with
        | true => rw [if_pos (.inr (by rw [hb]))]; rfl
        | false => rw [if_neg (by rintro (h | h); cases h; rw [hb] at h; cases h)]; rfl
      have Hr := Lib.hid hr
      clear hr
      go_wp2_with fail
      refine (epochOf_any h6 _).mono ?_
      rintro e w2 ⟨rfl, rfl⟩
      cases he : epochB h6 with
      | false =>
        have HE := Lib.hid (show readNextL ⟨a0, a1, a2, a3, a4, a5, a6, a7, a8, a9⟩ s = (noHd, false) by rw [HR.out, Hr.out true (by simp [he])]; rfl)
        clear he
        go_wp2_with fail
        refine bodyPost_ret (res_cell_tmp rfl _ _ (w.heap.size + 1) (by rfl) _ (load_hd (ten_set H0.out _ _ _ _ _ _ _ _ _ _) rfl)) rfl ?_
        rw [HE.out]
        exact ⟨rfl, HB.out.trans (ten_by (by omega) _ _ _ _ _ _ _ _ _ _)⟩
      | true =>
        by_cases hx : h7 = 0
        · have HE := Lib.hid (show readNextL ⟨a0, a1, a2, a3, a4, a5, a6, a7, a8, a9⟩ s = (noHd, false) by rw [HR.out, Hr.out true (by simp [hx])]; rfl)
          have d2 : (h7 == 0) = true := by simpa using hx
          clear he hx
          go_wp2_with fail
          refine bodyPost_ret (res_cell_tmp rfl _ _ (w.heap.size + 1) (by rfl) _ (load_hd (ten_set H0.out _ _ _ _ _ _ _ _ _ _) rfl)) rfl ?_
          rw [HE.out]
          exact ⟨rfl, HB.out.trans (ten_by (by omega) _ _ _ _ _ _ _ _ _ _)⟩
        · have HE := Lib.hid (show readNextL ⟨a0, a1, a2, a3, a4, a5, a6, a7, a8, a9⟩ s = (⟨h0, h1, h2, h3, h4, h5, h6, h7, h8, h9⟩, true) by rw [HR.out, Hr.out false (by simp [he, hx])]; rfl)
          have d2 : (h7 == 0) = false := by simpa using hx
          clear he hx
          go_wp2_with fail
          refine bodyPost_ret (res_cell_tmp rfl _ _ (w.heap.size + 1) (by rfl) _ (load_hd (ten_set H0.out _ _ _ _ _ _ _ _ _ _) rfl)) rfl ?_
          rw [HE.out]
          exact ⟨rfl, HB.out.trans (ten_by (by omega) _ _ _ _ _ _ _ _ _ _)⟩

/- HoldG -/
open Go.RowKit
set_option linter.unusedVariables false
set_option maxRecDepth 100000
set_option maxHeartbeats 1000000

def HeldPost (w : World) (r : Hd × Int) (e : Ending) (w' : World) : Prop := e = .returned (.tuple #[.agg (hdV r.1), .int .i64 r.2]) ∧ Below w.heap.size w w'
theorem getP_size {P : Plat} {i : Int} (h : (getP P i).2.2 = 0) : (getP P i).1.size ≤ 128 := by
  have hr := getP_read h
  unfold getP at h ⊢
  split
  · exact Nat.zero_le _
  · rename_i hn
    rw [if_neg hn] at h
    split
    · exact Nat.zero_le _
    · rename_i far hf
      rw [hf] at h
      exact read_size h
theorem hget_any (v : Value) (P : Plat) (w : World) (h : PlV w v P) : Calls Tryz.prog 52 #[v] w (HeldPost w (getH P)) := by
  obtain ⟨A, n, c, B, m, d, rfl, h⟩ := h
  have h0 := heap_alloc_new w (.cells #[.slice A n c, .slice B m d] 68)
  have b0 := (Below.refl w.heap.size w).alloc (Nat.le_refl _) (.cells #[.slice A n c, .slice B m d] 68)
  have h1 := heap_alloc_new (w.alloc (.cells #[.slice A n c, .slice B m d] 68)) (.cells zH 102)
  have b1 := (Below.refl (w.alloc (.cells #[.slice A n c, .slice B m d] 68)).heap.size (w.alloc (.cells #[.slice A n c, .slice B m d] 68))).alloc (Nat.le_refl _) (.cells zH 102)
  rw [World.size_alloc] at h1
  have HX := Lib.hid h1
  have HA := Lib.hid (cells_below h0 b1)
  have HB := Lib.hid (Below.chain b0 b1)
  have HP := Lib.hid ((h.below b0).below b1)
  obtain ⟨q1, hq1⟩ : ∃ q, q = getP P 0 := ⟨_, rfl⟩
  have HG : Hid (getH P = if q1.2.2 ≠ 0 then (noHd, q1.2.2) else if q1.2.1 = false then (noHd, 212) else if (readNowL q1.1).2 = false then (noHd, 140) else if (getP P 3).2.2 ≠ 0 then (noHd, (getP P 3).2.2)
    else if (getP P 3).2.1 = false then ((readNowL q1.1).1, 0) else if (readNextL (readNowL q1.1).1 (getP P 3).1).2 = false then (noHd, 140) else ((readNextL (readNowL q1.1).1 (getP P 3).1).1, 0)) := Lib.hid (by rw [hq1]; rfl)
  have HS1 := Lib.hid (show q1.2.2 = 0 → q1.1.size ≤ 128 by rw [hq1]; exact getP_size)
  have Hq1 := Lib.hid hq1
  obtain ⟨s1, ok1, e1⟩ := q1
  simp only at HG HS1
  clear h h0 h1 b0 b1 hq1
  go_enter Tryz.func52, Tryz.ntmps52
  go_wp2_with fail
  refine (tget_any A B n c m d P 0 _ HP.out (by omega)).mono ?_
  rintro e w1 ⟨rfl, hb1⟩
  rw [← Hq1.out]
  replace HP := Lib.hid (HP.out.below hb1)
  replace HX := hblk_below HX hb1
  replace HA := hblk_below HA hb1
  replace HB := Lib.hid (HB.out.trans (hb1.mono HB.out.size))
  clear hb1
  obtain ⟨a0, a1, _, _⟩ := two_cells HA.out
  obtain ⟨⟨z0, z1, z2, z3, z4, z5, z6, z7, z8, z9⟩, zf⟩ := ten_cells HX.out
  have f0 := zf 0
  have f1 := zf 1
  have f2 := zf 2
  have f3 := zf 3
  have f4 := zf 4
  have f5 := zf 5
  have f6 := zf 6
  have f7 := zf 7
  have f8 := zf 8
  have f9 := zf 9
  have hltX := cell_lt_of HX.out
  by_cases he1 : e1 = 0
  · subst he1
    have hs1 := HS1.out rfl
    cases ok1 with
    | false =>
      have HE := Lib.hid (show getH P = (noHd, 212) by rw [HG.out]; rfl)
      go_wp2_with fail
      refine bodyPost_ret (res_cell_tmp rfl _ _ (w.heap.size + 1) (by rfl) _ (load_hd (ten_set HX.out _ _ _ _ _ _ _ _ _ _) rfl)) rfl ?_
      rw [HE.out]
      exact ⟨rfl, HB.out.trans (ten_by (by omega) _ _ _ _ _ _ _ _ _ _)⟩
    | true =>
      obtain ⟨q2, hq2⟩ : ∃ q, q = readNowL s1 := ⟨_, rfl⟩
      rw [← hq2] at HG
      have Hq2 := Lib.hid hq2
      obtain ⟨⟨h0, h1, h2, h3, h4, h5, h6, h7, h8, h9⟩, r1⟩ := q2
      simp only at HG
      clear hq2
      go_wp2_with fail
      refine (readNow_any s1 _ (by omega)).mono ?_
      rintro e w2 ⟨rfl, hb2⟩
      rw [← Hq2.out]
      replace HP := Lib.hid (HP.out.below hb2)
      replace HX := hblk_below HX hb2
      replace HA := hblk_below HA hb2
      replace HB := Lib.hid (HB.out.trans (hb2.mono HB.out.size))
      clear hb2
      clear a0 a1 z0 z1 z2 z3 z4 z5 z6 z7 z8 z9 zf f0 f1 f2 f3 f4 f5 f6 f7 f8 f9 hltX
      have hb3 := (Below.refl w2.heap.size w2).alloc (Nat.le_refl _) (.cells #[.int .i64 h0, .int .i64 h1, .int .i64 h2, .string h3, .string h4, .string h5, .int .i64 h6, .int .i64 h7, .string h8, .string h9] 102)
      have H3 := Lib.hid (heap_alloc_new w2 (.cells #[.int .i64 h0, .int .i64 h1, .int .i64 h2, .string h3, .string h4, .string h5, .int .i64 h6, .int .i64 h7, .string h8, .string h9] 102))
      obtain ⟨a0, a1, _, _⟩ := two_cells HA.out
      obtain ⟨⟨z0, z1, z2, z3, z4, z5, z6, z7, z8, z9⟩, zf⟩ := ten_cells HX.out
      have f0 := zf 0
      have f1 := zf 1
      have f2 := zf 2
      have f3 := zf 3
      have f4 := zf 4
      have f5 := zf 5
      have f6 := zf 6
      have f7 := zf 7
      have f8 := zf 8
      have f9 := zf 9
      have hltX := cell_lt_of HX.out
      have hne : w2.heap.size ≠ w.heap.size + 1 := by omega
      unfold hdV
      cases r1 with
      | false =>
        have HE := Lib.hid (show getH P = (noHd, 140) by rw [HG.out]; rfl)
        go_wp2_with fail
        refine bodyPost_ret (res_cell_tmp rfl _ _ (w.heap.size + 1) (by rfl) _ (load_hd (cells_below (ten_set HX.out _ _ _ _ _ _ _ _ _ _) ((Below.refl _ _).alloc (Nat.le_refl _) _)) rfl)) rfl ?_
        rw [HE.out]
        have hB := HB.out.trans (ten_by (w := w2) (B := w.heap.size) (g := w.heap.size + 1) (by omega) (.int .i64 0) (.int .i64 0) (.int .i64 0) (.string ⟨#[]⟩) (.string ⟨#[]⟩) (.string ⟨#[]⟩) (.int .i64 0) (.int .i64 0) (.string ⟨#[]⟩) (.string ⟨#[]⟩))
        exact ⟨rfl, hB.alloc hB.size _⟩
      | true =>
        replace HP := Lib.hid (HP.out.below hb3)
        replace HX := hblk_below HX hb3
        replace HA := hblk_below HA hb3
        replace HB := Lib.hid (HB.out.trans (hb3.mono HB.out.size))
        clear hb3
        clear a0 a1 z0 z1 z2 z3 z4 z5 z6 z7 z8 z9 zf f0 f1 f2 f3 f4 f5 f6 f7 f8 f9
        obtain ⟨a0, a1, _, _⟩ := two_cells HA.out
        obtain ⟨⟨z0, z1, z2, z3, z4, z5, z6, z7, z8, z9⟩, zf⟩ := ten_cells HX.out
        have f0 := zf 0
        have f1 := zf 1
        have f2 := zf 2
        have f3 := zf 3
        have f4 := zf 4
        have f5 := zf 5
        have f6 := zf 6
        have f7 := zf 7
        have f8 := zf 8
        have f9 := zf 9
        have hltX := cell_lt_of HX.out
        have HS2 := Lib.hid (show (getP P 3).2.2 = 0 → (getP P 3).1.size ≤ 128 from getP_size)
        obtain ⟨q3, hq3⟩ : ∃ q, q = getP P 3 := ⟨_, rfl⟩
        rw [← hq3] at HG HS2
        have Hq3 := Lib.hid hq3
        obtain ⟨s3, ok3, e3⟩ := q3
        simp only at HG HS2
        clear hq3
        go_wp2_with fail
        refine (tget_any A B n c m d P 3 _ HP.out (by omega)).mono ?_
        rintro e w3 ⟨rfl, hb4⟩
        rw [← Hq3.out]
        replace H3 := hblk_below H3 hb4
        replace HP := Lib.hid (HP.out.below hb4)
        replace HX := hblk_below HX hb4
        replace HA := hblk_below HA hb4
        replace HB := Lib.hid (HB.out.trans (hb4.mono HB.out.size))
        clear hb4
        clear a0 a1 z0 z1 z2 z3 z4 z5 z6 z7 z8 z9 zf f0 f1 f2 f3 f4 f5 f6 f7 f8 f9
        obtain ⟨a0, a1, _, _⟩ := two_cells HA.out
        obtain ⟨⟨z0, z1, z2, z3, z4, z5, z6, z7, z8, z9⟩, zf⟩ := ten_cells HX.out
        have f0 := zf 0
        have f1 := zf 1
        have f2 := zf 2
        have f3 := zf 3
        have f4 := zf 4
        have f5 := zf 5
        have f6 := zf 6
        have f7 := zf 7
        have f8 := zf 8
        have f9 := zf 9
        have hltX := cell_lt_of HX.out
        obtain ⟨⟨d0, d1, d2, d3, d4, d5, d6, d7, d8, d9⟩, df⟩ := ten_cells H3.out
        have df0 := df 0
        have df1 := df 1
        have df2 := df 2
        have df3 := df 3
        have df4 := df 4
        have df5 := df 5
        have df6 := df 6
        have df7 := df 7
        have df8 := df 8
        have df9 := df 9
        by_cases he3 : e3 = 0
        · subst he3
          have hs3 := HS2.out rfl
          cases ok3 with
          | false =>
            have HE := Lib.hid (show getH P = (⟨h0, h1, h2, h3, h4, h5, h6, h7, h8, h9⟩, 0) by rw [HG.out]; rfl)
            go_wp2_with fail
            refine bodyPost_ret (res_cell_tmp rfl _ _ (w.heap.size + 1) (by rfl) _ (load_hd (ten_set HX.out _ _ _ _ _ _ _ _ _ _) rfl)) rfl ?_
            rw [HE.out]
            exact ⟨rfl, HB.out.trans (ten_by (by omega) _ _ _ _ _ _ _ _ _ _)⟩
          | true =>
            have HN := Lib.hid (readNext_any ⟨h0, h1, h2, h3, h4, h5, h6, h7, h8, h9⟩ s3 w3 (by omega))
            obtain ⟨q4, hq4⟩ : ∃ q, q = readNextL ⟨h0, h1, h2, h3, h4, h5, h6, h7, h8, h9⟩ s3 := ⟨_, rfl⟩
            rw [← hq4] at HG HN
            obtain ⟨⟨k0, k1, k2, k3, k4, k5, k6, k7, k8, k9⟩, r4⟩ := q4
            simp only at HG
            unfold hdV at HN
            clear hq4
            go_wp2_with fail
            refine Calls.mono HN.out ?_
            rintro e w4 ⟨rfl, hb5⟩
            replace H3 := hblk_below H3 hb5
            replace HP := Lib.hid (HP.out.below hb5)
            replace HX := hblk_below HX hb5
            replace HA := hblk_below HA hb5
            replace HB := Lib.hid (HB.out.trans (hb5.mono HB.out.size))
            clear hb5 d0 d1 d2 d3 d4 d5 d6 d7 d8 d9 df df0 df1 df2 df3 df4 df5 df6 df7 df8 df9
            clear a0 a1 z0 z1 z2 z3 z4 z5 z6 z7 z8 z9 zf f0 f1 f2 f3 f4 f5 f6 f7 f8 f9
            obtain ⟨a0, a1, _, _⟩ := two_cells HA.out
            obtain ⟨⟨z0, z1, z2, z3, z4, z5, z6, z7, z8, z9⟩, zf⟩ := ten_cells HX.out
            have f0 := zf 0
            have f1 := zf 1
            have f2 := zf 2
            have f3 := zf 3
            have f4 := zf 4
            have f5 := zf 5
            have f6 := zf 6
            have f7 := zf 7
            have f8 := zf 8
            have f9 := zf 9
            have hltX := cell_lt_of HX.out
            obtain ⟨⟨d0, d1, d2, d3, d4, d5, d6, d7, d8, d9⟩, df⟩ := ten_cells H3.out
            have df0 := df 0
            have df1 := df 1
            have df2 := df 2
            have df3 := df 3
            have df4 := df 4
            have df5 := df 5
            have df6 := df 6
            have df7 := df 7
            have df8 := df 8
            have df9 := df 9
            unfold hdV
            cases r4 with
            | false =>
              have HE := Lib.hid (show getH P = (noHd, 140) by rw [HG.out]; rfl)
              go_wp2_with fail
              refine bodyPost_ret (res_cell_tmp rfl _ _ (w.heap.size + 1) (by rfl) _ (load_hd (ten_set ((ten_far (g := w2.heap.size) (k := w.heap.size + 1) (by omega) _ _ _ _ _ _ _ _ _ _).trans HX.out) _ _ _ _ _ _ _ _ _ _) rfl)) rfl ?_
              rw [HE.out]
              exact ⟨rfl, (HB.out.trans (ten_by (by omega) _ _ _ _ _ _ _ _ _ _)).trans (ten_by (by omega) _ _ _ _ _ _ _ _ _ _)⟩
            | true =>
              have HE := Lib.hid (show getH P = (⟨k0, k1, k2, k3, k4, k5, k6, k7, k8, k9⟩, 0) by rw [HG.out]; rfl)
              go_wp2_with fail
              refine bodyPost_ret (res_cell_tmp rfl _ _ (w.heap.size + 1) (by rfl) _ (load_hd (ten_set ((ten_far (g := w2.heap.size) (k := w.heap.size + 1) (by omega) _ _ _ _ _ _ _ _ _ _).trans HX.out) _ _ _ _ _ _ _ _ _ _) rfl)) rfl ?_
              rw [HE.out]
              exact ⟨rfl, (HB.out.trans (ten_by (by omega) _ _ _ _ _ _ _ _ _ _)).trans (ten_by (by omega) _ _ _ _ _ _ _ _ _ _)⟩
        · have dd : (e3 != 0) = true := by simpa using he3
          have HE := Lib.hid (show getH P = (noHd, e3) by rw [HG.out]; simp [he3])
          clear he3
          go_wp2_with fail
          refine bodyPost_ret (res_cell_tmp rfl _ _ (w.heap.size + 1) (by rfl) _ (load_hd (ten_set HX.out _ _ _ _ _ _ _ _ _ _) rfl)) rfl ?_
          rw [HE.out]
          exact ⟨rfl, HB.out.trans (ten_by (by omega) _ _ _ _ _ _ _ _ _ _)⟩
  · have dd : (e1 != 0) = true := by simpa using he1
    have HE := Lib.hid (show getH P = (noHd, e1) by rw [HG.out]; simp [he1])
    clear he1
    go_wp2_with fail
    refine bodyPost_ret (res_cell_tmp rfl _ _ (w.heap.size + 1) (by rfl) _ (load_hd (ten_set HX.out _ _ _ _ _ _ _ _ _ _) rfl)) rfl ?_
    rw [HE.out]
    exact ⟨rfl, HB.out.trans (ten_by (by omega) _ _ _ _ _ _ _ _ _ _)⟩

end Go.Proofs.YtkbjmmigjjdfpaaGreatDoor
