/-
  The walk of the law TopUnlock, and what it wants.
-/
import Derived.Test.YtkbjmmigjjdfpaaGreatDoorHq
import Derived.Deep.CutRange
import Derived.Test.YtkbjmmigjjdfpaaGreatDoorOt
import Derived.Test.YtkbjmmigjjdfpaaGreatDoorPm
import Derived.Test.YtkbjmmigjjdfpaaGreatDoorOd2
import Derived.Test.YtkbjmmigjjdfpaaGreatDoorRound
import Derived.Test.YtkbjmmigjjdfpaaGreatDoorCyn
import Derived.Test.YtkbjmmigjjdfpaaGreatDoorOv
import Derived.Deep.Grids
import Derived.Deep.Strs
import Derived.Deep.Slices
import Derived.Deep.Fields
import Derived.ChangeSame
import Derived.SliceStrings
import Derived.Lib.SmallJoins
import Derived.WalkKit
import Derived.ProofKit
import Derived.Test.YtkbjmmigjjdfpaaGreatDoorOw4
import Derived.Test.YtkbjmmigjjdfpaaGreatDoorTxt
import Derived.BigQuiet
import Derived.Deep.AppendLies
namespace Go.Proofs.YtkbjmmigjjdfpaaGreatDoor
section
open Go.RowKit
set_option linter.unusedVariables false
set_option maxRecDepth 100000
set_option maxHeartbeats 2000000
set_option linter.unusedSimpArgs false

def AskR (w : World) (r : Told) (e : Ending) (w' : World) : Prop := ∃ v, e = .returned (.tuple #[.agg #[.int .i64 r.x, .string r.b], .string r.salt, v, .int .i64 r.e]) ∧ PlV w' v r.p ∧ Below w.heap.size w w'
theorem res_ask {P : Program} {fn : Func} {a b t u : Tmp} {ta tb : TypeId} (h : fn.results = #[.cell a ta, .tmp t, .cell b tb, .tmp u]) (tmps : Array Value) (w : World) (g k : Nat) (ha : tmps.getD a undef = .pointer (some ⟨g, 0, none⟩)) (hb : tmps.getD b undef = .pointer (some ⟨k, 0, none⟩)) (x y : Value)
    (hl : (loadVar ta ⟨g, 0, none⟩).run P w = .ok x w) (hk : (loadVar tb ⟨k, 0, none⟩).run P w = .ok y w) : (results fn tmps).run P w = .ok (.tuple #[x, tmps.getD t undef, y, tmps.getD u undef]) w := by
  have ha' : tmps[a]?.getD undef = .pointer (some ⟨g, 0, none⟩) := by simpa using ha
  have hb' : tmps[b]?.getD undef = .pointer (some ⟨k, 0, none⟩) := by simpa using hb
  simp [results, h, asAddr, ha', hb', hl, hk]
theorem load_share {w : World} {g : Nat} {a b : Value} {t : TypeId} (h : w.heap[g]? = some (.cells #[a, b] t (0, 0))) : (loadVar 43 ⟨g, 0, none⟩).run Tryz.prog w = .ok (.agg #[a, b]) w :=
  run_loadVar_mid (P := Tryz.prog) w g 0 43 [a, b] _ (fun j v hj => by
    cases j with
    | zero => simp at hj; subst hj; exact (two_cells h).1
    | succ j => cases j with
      | zero => simp at hj; subst hj; exact (two_cells h).2.1
      | succ j => simp at hj) Tryz.underlying43 rfl (by kernel_rfl)
theorem PB.two_two {w : World} {A B : Option Addr} {n m : Nat} {P : Plat} (h : PB w A n B m P) {g k : Nat} {a b c d : Value} {t : TypeId} (hg : w.heap[g]? = some (.cells #[a, b] t (0, 0))) (hk : w.heap[k]? = some (.cells #[c, d] 68 (0, 0))) (h1 : t ≠ 9) (h2 : t ≠ 243) (hne : g ≠ k) (x y p q : Value) :
    PB ((((w.setCell ⟨g, 0, none⟩ x).setCell ⟨g, 1, none⟩ y).setCell ⟨k, 0, none⟩ p).setCell ⟨k, 1, none⟩ q) A n B m P := by
  have e2 : ((w.setCell ⟨g, 0, none⟩ x).setCell ⟨g, 1, none⟩ y).heap[k]? = some (.cells #[c, d] 68 (0, 0)) := (Below.heap_setCell _ ⟨g, 1, none⟩ y k (Ne.symm hne)).trans ((Below.heap_setCell w ⟨g, 0, none⟩ x k (Ne.symm hne)).trans hk)
  exact (((h.setT hg h1 h2 0 x).setT (blk_set hg 0 x) h1 h2 1 y).setT e2 (by decide) (by decide) 0 p).setT (blk_set e2 0 p) (by decide) (by decide) 1 q
theorem keep2_drew {W : World} {p q : Addr} {u v : Value} (h : W.cell? p = some u ∧ W.cell? q = some v) : W.drew.cell? p = some u ∧ W.drew.cell? q = some v := h
theorem keep4_drew {W : World} {p q r s : Addr} {u v x y : Value} (h : (W.cell? p = some u ∧ W.cell? q = some v) ∧ (W.cell? r = some x ∧ W.cell? s = some y)) : (W.drew.cell? p = some u ∧ W.drew.cell? q = some v) ∧ (W.drew.cell? r = some x ∧ W.drew.cell? s = some y) := h
theorem keep2_set2 {W : World} {g b i j : Nat} {a c u v : Value} (hne : g ≠ b) (h : W.cell? ⟨b, i, none⟩ = some u ∧ W.cell? ⟨b, j, none⟩ = some v) : ((W.setCell ⟨g, 0, none⟩ a).setCell ⟨g, 1, none⟩ c).cell? ⟨b, i, none⟩ = some u ∧ ((W.setCell ⟨g, 0, none⟩ a).setCell ⟨g, 1, none⟩ c).cell? ⟨b, j, none⟩ = some v :=
  keep2_set (keep2_set h (by simp [hne]) (by simp [hne])) (by simp [hne]) (by simp [hne])
theorem keep4_set2 {W : World} {g b k i j m n : Nat} {a c u v x y : Value} (hne : g ≠ b) (hne2 : g ≠ k) (h : (W.cell? ⟨b, i, none⟩ = some u ∧ W.cell? ⟨b, j, none⟩ = some v) ∧ (W.cell? ⟨k, m, none⟩ = some x ∧ W.cell? ⟨k, n, none⟩ = some y)) :
    (((W.setCell ⟨g, 0, none⟩ a).setCell ⟨g, 1, none⟩ c).cell? ⟨b, i, none⟩ = some u ∧ ((W.setCell ⟨g, 0, none⟩ a).setCell ⟨g, 1, none⟩ c).cell? ⟨b, j, none⟩ = some v) ∧ (((W.setCell ⟨g, 0, none⟩ a).setCell ⟨g, 1, none⟩ c).cell? ⟨k, m, none⟩ = some x ∧ ((W.setCell ⟨g, 0, none⟩ a).setCell ⟨g, 1, none⟩ c).cell? ⟨k, n, none⟩ = some y) := ⟨keep2_set2 hne h.1, keep2_set2 hne2 h.2⟩
abbrev zS : Array Value := #[.int .i64 0, .string ⟨#[]⟩]
theorem two_two {w : World} {g k : Nat} {t u : TypeId} {a b c d : Value} (hne : g ≠ k) (hg : w.heap[g]? = some (.cells #[a, b] t (0, 0))) (hk : w.heap[k]? = some (.cells #[c, d] u (0, 0))) (x y p q : Value) :
    ((((w.setCell ⟨g, 0, none⟩ x).setCell ⟨g, 1, none⟩ y).setCell ⟨k, 0, none⟩ p).setCell ⟨k, 1, none⟩ q).heap[g]? = some (.cells #[x, y] t (0, 0)) ∧ ((((w.setCell ⟨g, 0, none⟩ x).setCell ⟨g, 1, none⟩ y).setCell ⟨k, 0, none⟩ p).setCell ⟨k, 1, none⟩ q).heap[k]? = some (.cells #[p, q] u (0, 0)) ∧ ((w.setCell ⟨g, 0, none⟩ x).setCell ⟨g, 1, none⟩ y).heap[k]? = some (.cells #[c, d] u (0, 0)) := by
  have h1 := two_set hg x y
  have h2 : ((w.setCell ⟨g, 0, none⟩ x).setCell ⟨g, 1, none⟩ y).heap[k]? = some (.cells #[c, d] u (0, 0)) := (Below.heap_setCell _ ⟨g, 1, none⟩ y k (Ne.symm hne)).trans ((Below.heap_setCell w ⟨g, 0, none⟩ x k (Ne.symm hne)).trans hk)
  exact ⟨(Below.heap_setCell _ ⟨k, 1, none⟩ q g hne).trans ((Below.heap_setCell _ ⟨k, 0, none⟩ p g hne).trans h1), two_set h2 p q, h2⟩
theorem hask_any (v : Value) (P : Plat) (cred : ByteArray) (deeds : Int) (w : World) (h : PlV w v P) (hR : Rounds w) (hdd : deeds ≤ 9223372036854775807) :
    Calls Tryz.prog 26 #[v, .string cred, .int .i64 deeds] w (AskR w (askH P (sumB cred) deeds)) := by
  obtain ⟨A, n, c, B, m, d, rfl, h⟩ := h
  obtain ⟨hA, hS, hX, hbA⟩ := three_new w #[.slice A n c, .slice B m d] zS zP 68 43 68
  have HA := Lib.hid hA
  have HS := Lib.hid hS
  have HX := Lib.hid hX
  have HB := Lib.hid hbA
  have HP := Lib.hid (h.below hbA)
  have HRw := Lib.hid hR
  have HR := Lib.hid hR
  have HBr := Lib.hid hbA
  have hep := Lib.hid (getH_w P)
  obtain ⟨sm, hsm⟩ : ∃ sm, sm = sumB cred := ⟨_, rfl⟩
  have Hsm := Lib.hid hsm
  rw [← hsm]
  obtain ⟨q, hq⟩ : ∃ q, q = getH P := ⟨_, rfl⟩
  have HG : Hid (askH P sm deeds = if q.2 ≠ 0 then nothing noPlat q.2 else if q.1.x = 0 then nothing noPlat 212 else if 5 ≤ q.1.tries then nothing noPlat 210
    else if (rowP P deeds [(0, nowB { q.1 with tries := q.1.tries + 1 })]).2 ≠ 0 then nothing (rowP P deeds [(0, nowB { q.1 with tries := q.1.tries + 1 })]).1 (rowP P deeds [(0, nowB { q.1 with tries := q.1.tries + 1 })]).2
    else if q.1.cred ≠ sm then nothing (rowP P deeds [(0, nowB { q.1 with tries := q.1.tries + 1 })]).1 211
    else if (rowP (rowP P deeds [(0, nowB { q.1 with tries := q.1.tries + 1 })]).1 (if 4 ≤ deeds then deeds - 4 else deeds) [(0, nowB { q.1 with tries := 0 })]).2 ≠ 0 then nothing (rowP (rowP P deeds [(0, nowB { q.1 with tries := q.1.tries + 1 })]).1 (if 4 ≤ deeds then deeds - 4 else deeds) [(0, nowB { q.1 with tries := 0 })]).1 (rowP (rowP P deeds [(0, nowB { q.1 with tries := q.1.tries + 1 })]).1 (if 4 ≤ deeds then deeds - 4 else deeds) [(0, nowB { q.1 with tries := 0 })]).2
    else ⟨q.1.x, q.1.b, q.1.salt, (rowP (rowP P deeds [(0, nowB { q.1 with tries := q.1.tries + 1 })]).1 (if 4 ≤ deeds then deeds - 4 else deeds) [(0, nowB { q.1 with tries := 0 })]).1, 0⟩) := Lib.hid (by rw [hq]; rfl)
  rw [← hq] at hep
  have Hq := Lib.hid hq
  obtain ⟨⟨h0, h1, h2, h3, h4, h5, h6, h7, h8, h9⟩, er⟩ := q
  simp only at HG hep
  clear h hA hS hX hbA hq hsm hR
  go_enter Tryz.func26, Tryz.ntmps26
  go_wp2_with fail
  refine (hget_any _ P _ ⟨_, _, _, _, _, _, rfl, HP.out⟩).mono ?_
  rintro e w1 ⟨rfl, hb1⟩
  rw [← Hq.out]
  replace HX := hblk_below HX hb1
  replace HA := hblk_below HA hb1
  replace HS := hblk_below HS hb1
  replace HB := Lib.hid (HB.out.trans (hb1.mono HB.out.size))
  replace HP := Lib.hid (HP.out.below hb1)
  replace HR := Lib.hid ((HR.out.below (HBr.out)).below hb1)
  have hltX := cell_lt_of HX.out
  clear hb1
  have al : ∀ C : Array Value, Below w1.heap.size w1 (w1.alloc (.cells C 102)) := fun C => (Below.refl w1.heap.size w1).alloc (Nat.le_refl _) _
  have hb2 := al #[.int .i64 h0, .int .i64 h1, .int .i64 h2, .string h3, .string h4, .string h5, .int .i64 h6, .int .i64 h7, .string h8, .string h9]
  have HX2 := hblk_below HX hb2
  have HA2 := hblk_below HA hb2
  have HS2 := hblk_below HS hb2
  have HB2 := Lib.hid (HB.out.trans (hb2.mono HB.out.size))
  have H4 := Lib.hid (heap_alloc_new w1 (.cells #[.int .i64 h0, .int .i64 h1, .int .i64 h2, .string h3, .string h4, .string h5, .int .i64 h6, .int .i64 h7, .string h8, .string h9] 102))
  obtain ⟨x0, x1, x2, x3⟩ := two_cells HX2.out
  obtain ⟨s0, s1, s2, s3⟩ := two_cells HS2.out
  obtain ⟨a0, a1, _, _⟩ := two_cells HA2.out
  obtain ⟨⟨e0, e1, e2, e3, e4, e5, e6, e7, e8, e9⟩, ef⟩ := ten_cells H4.out
  have ef1 := ef 1
  clear hb2 ef
  unfold hdV
  by_cases her : er = 0
  · subst her
    by_cases hx : h2 = 0
    · have HE := Lib.hid (show askH P sm deeds = nothing noPlat 212 by rw [HG.out, if_neg (by simp), if_pos hx])
      have d1 : (h2 == 0) = true := by simpa using hx
      clear hx
      go_wp2_with fail
      obtain ⟨k1, k2, k3⟩ := two_two (show w.heap.size + 1 ≠ w.heap.size + 1 + 1 by omega) HS2.out HX2.out (.int .i64 0) (.string ⟨#[]⟩) (.slice none 0 0) (.slice none 0 0)
      try simp only [Exit.inBlock, Exit.then]
      refine bodyPost_ret (res_ask rfl _ _ (w.heap.size + 1) (w.heap.size + 1 + 1) (by rfl) (by rfl) _ _ (load_share k1) (load_plat_new k2)) rfl ?_
      rw [HE.out]
      exact ⟨_, rfl, PlV.no _, two_by (two_by HB2.out (by omega) _ _) (by omega) _ _⟩
    · have d1 : (h2 == 0) = false := by simpa using hx
      by_cases ht : 5 ≤ h1
      · have HE := Lib.hid (show askH P sm deeds = nothing noPlat 210 by rw [HG.out, if_neg (by simp), if_neg hx, if_pos ht])
        have d2 : decide (5 ≤ h1) = true := by simpa using ht
        clear hx ht
        go_wp2_with fail
        obtain ⟨k1, k2, k3⟩ := two_two (show w.heap.size + 1 ≠ w.heap.size + 1 + 1 by omega) HS2.out HX2.out (.int .i64 0) (.string ⟨#[]⟩) (.slice none 0 0) (.slice none 0 0)
        try simp only [Exit.inBlock, Exit.then]
        refine bodyPost_ret (res_ask rfl _ _ (w.heap.size + 1) (w.heap.size + 1 + 1) (by rfl) (by rfl) _ _ (load_share k1) (load_plat_new k2)) rfl ?_
        rw [HE.out]
        exact ⟨_, rfl, PlV.no _, two_by (two_by HB2.out (by omega) _ _) (by omega) _ _⟩
      · have d2 : decide (5 ≤ h1) = false := by simpa using ht
        have ht0 := hep.out.t0
        simp only at ht0
        have hb3 := al #[.int .i64 h0, .int .i64 (h1 + 1), .int .i64 h2, .string h3, .string h4, .string h5, .int .i64 h6, .int .i64 h7, .string h8, .string h9]
        replace HX2 := hblk_below HX hb3
        replace HA2 := hblk_below HA hb3
        replace HS2 := hblk_below HS hb3
        replace HB2 := Lib.hid (HB.out.trans (hb3.mono HB.out.size))
        have HP2 := Lib.hid (HP.out.below hb3)
        replace HR := Lib.hid (HR.out.below hb3)
        replace H4 := Lib.hid (heap_alloc_new w1 (.cells #[.int .i64 h0, .int .i64 (h1 + 1), .int .i64 h2, .string h3, .string h4, .string h5, .int .i64 h6, .int .i64 h7, .string h8, .string h9] 102))
        clear hb3 s0 s1 s2 s3 x0 x1 x2 x3
        obtain ⟨tx, htx⟩ : ∃ tx, tx = nowB ⟨h0, h1 + 1, h2, h3, h4, h5, h6, h7, h8, h9⟩ := ⟨_, rfl⟩
        have HNT := Lib.hid (show ∀ W, Calls Tryz.prog 51 #[.agg #[.int .i64 h0, .int .i64 (h1 + 1), .int .i64 h2, .string h3, .string h4, .string h5, .int .i64 h6, .int .i64 h7, .string h8, .string h9]] W fun e w' => e = .returned (.string tx) ∧ Below W.heap.size W w' from fun W => by rw [htx]; exact nowText_any ⟨h0, h1 + 1, h2, h3, h4, h5, h6, h7, h8, h9⟩ W hep.out.epoch (Nat.le_trans hep.out.b (by omega)) (Nat.le_trans hep.out.s (by omega)) (Nat.le_trans hep.out.c (by omega)))
        have Htx := Lib.hid htx
        clear htx a0 a1 e0 e1 e2 e3 e4 e5 e6 e7 e8 e9 ef1
        have ef1 := (ten_cells (heap_alloc_new w1 (.cells #[.int .i64 h0, .int .i64 h1, .int .i64 h2, .string h3, .string h4, .string h5, .int .i64 h6, .int .i64 h7, .string h8, .string h9] 102))).2 1
        obtain ⟨⟨_, e1, e2, _⟩, _⟩ := ten_cells (heap_alloc_new w1 (.cells #[.int .i64 h0, .int .i64 h1, .int .i64 h2, .string h3, .string h4, .string h5, .int .i64 h6, .int .i64 h7, .string h8, .string h9] 102))
        go_wp2_with fail
        obtain ⟨w2, hw2⟩ : ∃ w2, w2 = w1.alloc (.cells #[.int .i64 h0, .int .i64 (h1 + 1), .int .i64 h2, .string h3, .string h4, .string h5, .int .i64 h6, .int .i64 h7, .string h8, .string h9] 102) := ⟨_, rfl⟩
        rw [← hw2] at HX2 HA2 HS2 HB2 HP2 HR H4 ⊢
        clear hw2 e1 e2 ef1
        have hlt2 := cell_lt_of H4.out
        obtain ⟨a0, a1, _, _⟩ := two_cells HA2.out
        obtain ⟨⟨e0, e1, e2, e3, e4, e5, e6, e7, e8, e9⟩, _⟩ := ten_cells H4.out
        have HR0 := HRw
        go_cut [11] from 40 to 49 (fun v wc => ∃ (er : Int) (Qx : Plat) (A1 : Option Addr) (n1 c1 : Nat) (B1 : Option Addr) (m1 d1 : Nat), v = .int .i64 er ∧ rowP P deeds [(0, tx)] = (Qx, er) ∧ wc.heap[w.heap.size]? = some (.cells #[.slice A1 n1 c1, .slice B1 m1 d1] 68 (0, 0)) ∧ wc.heap[w.heap.size + 1]? = some (.cells zS 43 (0, 0)) ∧ wc.heap[w.heap.size + 1 + 1]? = some (.cells zP 68 (0, 0)) ∧ wc.heap[w1.heap.size]? = some (.cells #[.int .i64 h0, .int .i64 (h1 + 1), .int .i64 h2, .string h3, .string h4, .string h5, .int .i64 h6, .int .i64 h7, .string h8, .string h9] 102 (0, 0)) ∧ PB wc A1 n1 B1 m1 Qx ∧ Below w.heap.size w wc ∧ Rounds wc)
        case first =>
          go_region_law (first
            | (go_simp; go_at_call 51; refine Calls.mono (HNT.out _) ?_; rintro _ w4 ⟨rfl, hb4'⟩; have hb4 := Below.chain ((Below.refl _ w2).drew) hb4'; clear hb4'; replace HA2 := hblk_below HA2 hb4; replace HS2 := hblk_below HS2 hb4; replace HX2 := hblk_below HX2 hb4; replace H4 := hblk_below H4 hb4; replace HB2 := Lib.hid (HB2.out.trans (hb4.mono HB2.out.size)); replace HP2 := Lib.hid (HP2.out.below hb4); replace HR := Lib.hid (HR.out.below hb4); have hba := (Below.refl w4.heap.size w4).alloc (Nat.le_refl _) (.cells #[.int .i64 0, .string tx] 104); obtain ⟨b0, b1, _, _⟩ := two_cells HA2.out; obtain ⟨f0, f1, _, _⟩ := two_cells (cells_below HA2.out hba))
            | (go_simp; go_at_call 50; refine (row_any _ _ 1 1 deeds P [(0, tx)] _ ⟨_, _, _, _, _, _, rfl, HP2.out.below hba⟩ (by exact rd_new' w4 _ _ _ rfl) rfl (by simp) (by omega) (by omega)).mono ?_; rintro _ w5 ⟨v5, rfl, hv5, hb5'⟩; have hb5 := Below.chain hba hb5'; replace HA2 := hblk_below HA2 hb5; replace HS2 := hblk_below HS2 hb5; replace HX2 := hblk_below HX2 hb5; replace H4 := hblk_below H4 hb5; replace HB2 := Lib.hid (HB2.out.trans (hb5.mono HB2.out.size)); replace HR := Lib.hid (HR.out.below hb5); obtain ⟨A6, n6, c6, B6, m6, d6, rfl, hO6⟩ := hv5; obtain ⟨y0, y1, y2, y3⟩ := two_cells HA2.out))

          all_goals
            go_wp2_with fail
            go_meet
            case rel =>
              obtain ⟨q, hq⟩ : ∃ q, q = rowP P deeds [(0, tx)] := ⟨_, rfl⟩
              rw [← hq] at hO6 ⊢
              obtain ⟨Qx, er1⟩ := q
              have hsets := two_by (w0 := w) (w := w5) HB2.out (Nat.le_refl w.heap.size) (.slice A6 n6 c6) (.slice B6 m6 d6)
              refine ⟨er1, Qx, A6, n6, c6, B6, m6, d6, rfl, rfl, two_set HA2.out _ _, (Below.heap_setCell _ ⟨w.heap.size, 1, none⟩ _ (w.heap.size + 1) (by simp)).trans ((Below.heap_setCell _ ⟨w.heap.size, 0, none⟩ _ (w.heap.size + 1) (by simp)).trans HS2.out), (Below.heap_setCell _ ⟨w.heap.size, 1, none⟩ _ (w.heap.size + 1 + 1) (by simp; omega)).trans ((Below.heap_setCell _ ⟨w.heap.size, 0, none⟩ _ (w.heap.size + 1 + 1) (by simp; omega)).trans HX2.out), (Below.heap_setCell _ ⟨w.heap.size, 1, none⟩ _ w1.heap.size (by simp; omega)).trans ((Below.heap_setCell _ ⟨w.heap.size, 0, none⟩ _ w1.heap.size (by simp; omega)).trans H4.out), hO6.two HA2.out, hsets, HR0.out.below hsets⟩
        case rest =>
          obtain ⟨er, Q1, A1, n1, c1, B1, m1, d1', rfl, hrow, hA', hS', hX', hH', hP', hB', hR'⟩ := hcut
          have HAc := Lib.hid hA'
          have HSc := Lib.hid hS'
          have HXc := Lib.hid hX'
          have Hhc := Lib.hid hH'
          have HPc := Lib.hid hP'
          have HBc := Lib.hid hB'
          have HRc := Lib.hid hR'
          have HG3 := Lib.hid (show askH P sm deeds = if er ≠ 0 then nothing Q1 er else if h5 ≠ sm then nothing Q1 211 else if (rowP Q1 (if 4 ≤ deeds then deeds - 4 else deeds) [(0, nowB ⟨h0, 0, h2, h3, h4, h5, h6, h7, h8, h9⟩)]).2 ≠ 0 then nothing (rowP Q1 (if 4 ≤ deeds then deeds - 4 else deeds) [(0, nowB ⟨h0, 0, h2, h3, h4, h5, h6, h7, h8, h9⟩)]).1 (rowP Q1 (if 4 ≤ deeds then deeds - 4 else deeds) [(0, nowB ⟨h0, 0, h2, h3, h4, h5, h6, h7, h8, h9⟩)]).2
            else ⟨h2, h3, h4, (rowP Q1 (if 4 ≤ deeds then deeds - 4 else deeds) [(0, nowB ⟨h0, 0, h2, h3, h4, h5, h6, h7, h8, h9⟩)]).1, 0⟩ by rw [HG.out, if_neg (by simp), if_neg hx, if_neg (show ¬ 5 ≤ h1 by omega), ← Htx.out, hrow])
          clear a0 a1 e0 e1 e2 e3 e4 e5 e6 e7 e8 e9 d1 d2
          obtain ⟨p0, p1, _, _⟩ := two_cells hA'
          obtain ⟨s0, s1, s2, s3⟩ := two_cells hS'
          obtain ⟨x0, x1, x2, x3⟩ := two_cells hX'
          obtain ⟨⟨e0, e1, e2, e3, e4, e5, e6, e7, e8, e9⟩, ef⟩ := ten_cells hH'
          have ef1 := ef 1
          clear hA' hS' hX' hH' hP' hB' hR' ef HNT hrow
          by_cases hee : er = 0
          · subst hee
            clear e0 e1 e2 e3 e4 e6 e7 e8 e9 p0 p1
            have HG4 := Lib.hid (show askH P sm deeds = if h5 ≠ sm then nothing Q1 211 else if (rowP Q1 (if 4 ≤ deeds then deeds - 4 else deeds) [(0, nowB ⟨h0, 0, h2, h3, h4, h5, h6, h7, h8, h9⟩)]).2 ≠ 0 then nothing (rowP Q1 (if 4 ≤ deeds then deeds - 4 else deeds) [(0, nowB ⟨h0, 0, h2, h3, h4, h5, h6, h7, h8, h9⟩)]).1 (rowP Q1 (if 4 ≤ deeds then deeds - 4 else deeds) [(0, nowB ⟨h0, 0, h2, h3, h4, h5, h6, h7, h8, h9⟩)]).2
              else ⟨h2, h3, h4, (rowP Q1 (if 4 ≤ deeds then deeds - 4 else deeds) [(0, nowB ⟨h0, 0, h2, h3, h4, h5, h6, h7, h8, h9⟩)]).1, 0⟩ by rw [HG3.out, if_neg (by simp)])
            go_wp2_with fail
            go_region_held3 (fun w' => w'.cell? ⟨w1.heap.size, 5, none⟩ = some (.string h5) ∧ w'.cell? ⟨w1.heap.size, 5, none⟩ = some (.string h5))
              (first | with_reducible assumption | with_reducible exact keep2_drew ⟨e5, e5⟩ | with_reducible exact keep2_below (keep2_drew ⟨e5, e5⟩) (by assumption))
              (first
                | ((go_at_call 33; refine (dsum_any cred _ (by exact HRc.out)).mono ?_); rintro _ w6 ⟨rfl, hb6'⟩; rw [← Hsm.out]; have hb6 := Below.chain ((Below.refl _ wc).drew) hb6')
                | ((go_at_call 53; refine (dsame_any h5 sm _).mono ?_); rintro _ w7 ⟨rfl, rfl⟩))
            replace HAc := hblk_below HAc hb6
            replace HSc := hblk_below HSc hb6
            replace HXc := hblk_below HXc hb6
            replace Hhc := hblk_below Hhc hb6
            replace HPc := Lib.hid (HPc.out.below hb6)
            replace HBc := Lib.hid (HBc.out.trans (hb6.mono HBc.out.size))
            replace HRc := Lib.hid (HRc.out.below hb6)
            clear s0 s1 s2 s3 x0 x1 x2 x3 e5 ef1
            obtain ⟨p0, p1, _, _⟩ := two_cells HAc.out
            obtain ⟨s0, s1, s2, s3⟩ := two_cells HSc.out
            obtain ⟨x0, x1, x2, x3⟩ := two_cells HXc.out
            by_cases hcr : h5 = sm
            · have dd : decide (h5 = sm) = true := by simpa using hcr
              have HG5 := Lib.hid (show askH P sm deeds = if (rowP Q1 (if 4 ≤ deeds then deeds - 4 else deeds) [(0, nowB ⟨h0, 0, h2, h3, h4, h5, h6, h7, h8, h9⟩)]).2 ≠ 0 then nothing (rowP Q1 (if 4 ≤ deeds then deeds - 4 else deeds) [(0, nowB ⟨h0, 0, h2, h3, h4, h5, h6, h7, h8, h9⟩)]).1 (rowP Q1 (if 4 ≤ deeds then deeds - 4 else deeds) [(0, nowB ⟨h0, 0, h2, h3, h4, h5, h6, h7, h8, h9⟩)]).2
                else ⟨h2, h3, h4, (rowP Q1 (if 4 ≤ deeds then deeds - 4 else deeds) [(0, nowB ⟨h0, 0, h2, h3, h4, h5, h6, h7, h8, h9⟩)]).1, 0⟩ by rw [HG4.out, if_neg (by simpa using hcr)])
              clear HG HG3 HG4 hcr p0 p1 s0 s1 s2 s3 x0 x1 x2 x3 HBr
              simp only [dd, Bool.not_true]
              clear dd
              obtain ⟨dd7, hdd7⟩ : ∃ y, y = (if 4 ≤ deeds then deeds - 4 else deeds) := ⟨_, rfl⟩
              have hdl : dd7 ≤ 9223372036854775807 := by rw [hdd7]; split <;> omega
              rw [← hdd7] at HG5
              have Hdd7 := Lib.hid hdd7
              clear hdd7
              iterate 7 go_step
              go_cut [2] from 63 to 66 (fun v wc => v = .int .i64 dd7 ∧ wc = w7)
              case first =>
                by_cases h4d : 4 ≤ deeds
                · have d4 : decide (deeds ≥ 4) = true := by simpa using h4d
                  have e5 : dd7 = deeds - 4 := by rw [Hdd7.out, if_pos h4d]
                  go_wp2_with fail
                  go_meet
                  case rel => exact ⟨by rw [e5], rfl⟩
                · have d4 : decide (deeds ≥ 4) = false := by simpa using h4d
                  have e5 : dd7 = deeds := by rw [Hdd7.out, if_neg h4d]
                  go_wp2_with fail
                  go_meet
                  case rel => exact ⟨by rw [e5], rfl⟩
              case rest =>
                obtain ⟨rfl, rfl⟩ := hcut
                obtain ⟨⟨_, e1, _⟩, ef⟩ := ten_cells Hhc.out
                have ef1 := ef 1
                clear ef
                go_upto_region 17 with fail
                clear e1 ef1
                have HA2 := Lib.hid ((Below.heap_setCell wc ⟨w1.heap.size, 1, none⟩ (.int .i64 0) w.heap.size (by simp; omega)).trans HAc.out)
                have HS2 := Lib.hid ((Below.heap_setCell wc ⟨w1.heap.size, 1, none⟩ (.int .i64 0) (w.heap.size + 1) (by simp; omega)).trans HSc.out)
                have HX2 := Lib.hid ((Below.heap_setCell wc ⟨w1.heap.size, 1, none⟩ (.int .i64 0) (w.heap.size + 1 + 1) (by simp; omega)).trans HXc.out)
                have hh4 := blk_set Hhc.out 1 (.int .i64 0)
                simp only [List.setIfInBounds_toArray, List.set_cons_zero, List.set_cons_succ] at hh4
                have H4 := Lib.hid hh4
                have HB2 := Lib.hid (HBc.out.trans (by_set (show w.heap.size ≤ w1.heap.size by omega) (i := 1) (w := wc) (.int .i64 0)))
                have HP2 := Lib.hid (HPc.out.setT Hhc.out (by decide) (by decide) 1 (.int .i64 0))
                clear hh4
                obtain ⟨w8, hw8⟩ : ∃ w8, w8 = wc.setCell ⟨w1.heap.size, 1, none⟩ (.int .i64 0) := ⟨_, rfl⟩
                rw [← hw8] at HA2 HS2 HX2 H4 HB2 HP2 ⊢
                clear hw8 HAc HSc HXc Hhc HPc HBc HRc Htx HX HA HS HB HP
                have HR := Lib.hid (HRw.out.below HB2.out)
                have HR0 := HRw
                have hlt2 := cell_lt_of H4.out
                obtain ⟨tx, htx⟩ : ∃ tx, tx = nowB ⟨h0, 0, h2, h3, h4, h5, h6, h7, h8, h9⟩ := ⟨_, rfl⟩
                have HNT := Lib.hid (show ∀ W, Calls Tryz.prog 51 #[.agg #[.int .i64 h0, .int .i64 0, .int .i64 h2, .string h3, .string h4, .string h5, .int .i64 h6, .int .i64 h7, .string h8, .string h9]] W fun e w' => e = .returned (.string tx) ∧ Below W.heap.size W w' from fun W => by rw [htx]; exact nowText_any ⟨h0, 0, h2, h3, h4, h5, h6, h7, h8, h9⟩ W hep.out.epoch (Nat.le_trans hep.out.b (by omega)) (Nat.le_trans hep.out.s (by omega)) (Nat.le_trans hep.out.c (by omega)))
                rw [← htx] at HG5
                clear htx hep
                obtain ⟨a0, a1, _, _⟩ := two_cells HA2.out
                obtain ⟨⟨e0, e1, e2, e3, e4, e5, e6, e7, e8, e9⟩, _⟩ := ten_cells H4.out
                go_cut [11] from 68 to 77 (fun v wc => ∃ (er : Int) (Qx : Plat) (A1 : Option Addr) (n1 c1 : Nat) (B1 : Option Addr) (m1 d1 : Nat), v = .int .i64 er ∧ rowP Q1 dd7 [(0, tx)] = (Qx, er) ∧ wc.heap[w.heap.size]? = some (.cells #[.slice A1 n1 c1, .slice B1 m1 d1] 68 (0, 0)) ∧ wc.heap[w.heap.size + 1]? = some (.cells zS 43 (0, 0)) ∧ wc.heap[w.heap.size + 1 + 1]? = some (.cells zP 68 (0, 0)) ∧ wc.heap[w1.heap.size]? = some (.cells #[.int .i64 h0, .int .i64 0, .int .i64 h2, .string h3, .string h4, .string h5, .int .i64 h6, .int .i64 h7, .string h8, .string h9] 102 (0, 0)) ∧ PB wc A1 n1 B1 m1 Qx ∧ Below w.heap.size w wc ∧ Rounds wc)
                case first =>
                  go_region_law (first
                    | (go_simp; go_at_call 51; refine Calls.mono (HNT.out _) ?_; rintro _ w4 ⟨rfl, hb4'⟩; have hb4 := Below.chain ((Below.refl _ w8).drew) hb4'; clear hb4'; replace HA2 := hblk_below HA2 hb4; replace HS2 := hblk_below HS2 hb4; replace HX2 := hblk_below HX2 hb4; replace H4 := hblk_below H4 hb4; replace HB2 := Lib.hid (HB2.out.trans (hb4.mono HB2.out.size)); replace HP2 := Lib.hid (HP2.out.below hb4); replace HR := Lib.hid (HR.out.below hb4); have hba := (Below.refl w4.heap.size w4).alloc (Nat.le_refl _) (.cells #[.int .i64 0, .string tx] 104); obtain ⟨b0, b1, _, _⟩ := two_cells HA2.out; obtain ⟨f0, f1, _, _⟩ := two_cells (cells_below HA2.out hba))
                    | (go_simp; go_at_call 50; refine (row_any _ _ 1 1 dd7 Q1 [(0, tx)] _ ⟨_, _, _, _, _, _, rfl, HP2.out.below hba⟩ (by exact rd_new' w4 _ _ _ rfl) rfl (by simp) (by omega) (by omega)).mono ?_; rintro _ w5 ⟨v5, rfl, hv5, hb5'⟩; have hb5 := Below.chain hba hb5'; replace HA2 := hblk_below HA2 hb5; replace HS2 := hblk_below HS2 hb5; replace HX2 := hblk_below HX2 hb5; replace H4 := hblk_below H4 hb5; replace HB2 := Lib.hid (HB2.out.trans (hb5.mono HB2.out.size)); replace HR := Lib.hid (HR.out.below hb5); obtain ⟨A6, n6, c6, B6, m6, d6, rfl, hO6⟩ := hv5; obtain ⟨y0, y1, y2, y3⟩ := two_cells HA2.out))

                  all_goals
                    go_wp2_with fail
                    go_meet
                    case rel =>
                      obtain ⟨q, hq⟩ : ∃ q, q = rowP Q1 dd7 [(0, tx)] := ⟨_, rfl⟩
                      rw [← hq] at hO6 ⊢
                      obtain ⟨Qx, er1⟩ := q
                      have hsets := two_by (w0 := w) (w := w5) HB2.out (Nat.le_refl w.heap.size) (.slice A6 n6 c6) (.slice B6 m6 d6)
                      refine ⟨er1, Qx, A6, n6, c6, B6, m6, d6, rfl, rfl, two_set HA2.out _ _, (Below.heap_setCell _ ⟨w.heap.size, 1, none⟩ _ (w.heap.size + 1) (by simp)).trans ((Below.heap_setCell _ ⟨w.heap.size, 0, none⟩ _ (w.heap.size + 1) (by simp)).trans HS2.out), (Below.heap_setCell _ ⟨w.heap.size, 1, none⟩ _ (w.heap.size + 1 + 1) (by simp; omega)).trans ((Below.heap_setCell _ ⟨w.heap.size, 0, none⟩ _ (w.heap.size + 1 + 1) (by simp; omega)).trans HX2.out), (Below.heap_setCell _ ⟨w.heap.size, 1, none⟩ _ w1.heap.size (by simp; omega)).trans ((Below.heap_setCell _ ⟨w.heap.size, 0, none⟩ _ w1.heap.size (by simp; omega)).trans H4.out), hO6.two HA2.out, hsets, HR0.out.below hsets⟩
                case rest =>
                  obtain ⟨er, Q2, A2, n2, c2, B2, m2, d2', rfl, hrow, hA', hS', hX', hH', hP', hB', hR'⟩ := hcut
                  have HAc := Lib.hid hA'
                  have HSc := Lib.hid hS'
                  have HXc := Lib.hid hX'
                  have Hhc := Lib.hid hH'
                  have HPc := Lib.hid hP'
                  have HBc := Lib.hid hB'
                  rw [hrow] at HG5
                  clear a0 a1 e0 e1 e2 e3 e4 e5 e6 e7 e8 e9
                  obtain ⟨p0, p1, _, _⟩ := two_cells hA'
                  obtain ⟨s0, s1, s2, s3⟩ := two_cells hS'
                  obtain ⟨x0, x1, x2, x3⟩ := two_cells hX'
                  obtain ⟨⟨_, _, e2, e3, e4, _⟩, _⟩ := ten_cells hH'
                  clear hA' hS' hX' hH' hP' hB' hR' HNT hrow
                  by_cases hee : er = 0
                  · subst hee
                    have HE := Lib.hid (show askH P sm deeds = ⟨h2, h3, h4, Q2, 0⟩ by rw [HG5.out]; simp)
                    go_upto_region 20 with fail
                    have q10 : w.heap.size + 1 ≠ w.heap.size := by omega
                    have q20 : w.heap.size + 1 + 1 ≠ w.heap.size := by omega
                    have q1h : w.heap.size + 1 ≠ w1.heap.size := by omega
                    have q2h : w.heap.size + 1 + 1 ≠ w1.heap.size := by omega
                    go_region_held3 (fun w' => ((w'.cell? ⟨w.heap.size, 0, none⟩ = some (.slice A2 n2 c2) ∧ w'.cell? ⟨w.heap.size, 1, none⟩ = some (.slice B2 m2 d2')) ∧ (w'.cell? ⟨w1.heap.size, 2, none⟩ = some (.int .i64 h2) ∧ w'.cell? ⟨w1.heap.size, 3, none⟩ = some (.string h3))) ∧ (w'.cell? ⟨w1.heap.size, 4, none⟩ = some (.string h4) ∧ w'.cell? ⟨w1.heap.size, 4, none⟩ = some (.string h4)))
                      (first | with_reducible assumption | with_reducible exact ⟨keep4_drew ⟨⟨p0, p1⟩, ⟨e2, e3⟩⟩, keep2_drew ⟨e4, e4⟩⟩ | with_reducible exact ⟨keep4_drew (keep4_set2 q20 q2h (keep4_set2 q10 q1h ⟨⟨p0, p1⟩, ⟨e2, e3⟩⟩)), keep2_drew (keep2_set2 q2h (keep2_set2 q1h ⟨e4, e4⟩))⟩ | with_reducible exact ⟨keep4_drew (keep4_set2 q10 q1h ⟨⟨p0, p1⟩, ⟨e2, e3⟩⟩), keep2_drew (keep2_set2 q1h ⟨e4, e4⟩)⟩)
                      (fail)
                    all_goals
                      go_wp2_with fail
                      obtain ⟨k1, k2, k3⟩ := two_two (show w.heap.size + 1 ≠ w.heap.size + 1 + 1 by omega) HSc.out HXc.out (.int .i64 h2) (.string h3) (.slice A2 n2 c2) (.slice B2 m2 d2')
                      have hW := (two_by (two_by HBc.out (show w.heap.size ≤ w.heap.size + 1 by omega) (.int .i64 h2) (.string h3)) (show w.heap.size ≤ w.heap.size + 1 + 1 by omega) (.slice A2 n2 c2) (.slice B2 m2 d2')).drew
                      have hQ := HPc.out.two_two HSc.out HXc.out (by decide) (by decide) (by omega) (.int .i64 h2) (.string h3) (.slice A2 n2 c2) (.slice B2 m2 d2')
                      refine bodyPost_ret (res_ask rfl _ _ (w.heap.size + 1) (w.heap.size + 1 + 1) (by rfl) (by rfl) _ _ (load_share (w := World.drew _) k1) (load_plat_new (w := World.drew _) k2)) rfl ?_
                      rw [HE.out]
                      exact ⟨_, rfl, ⟨_, _, _, _, _, _, rfl, hQ.below ((Below.refl _ _).drew)⟩, hW⟩
                  · have dd : (er != 0) = true := by simpa using hee
                    have HE := Lib.hid (show askH P sm deeds = nothing Q2 er by rw [HG5.out, if_pos hee])
                    have p0d : wc.drew.cell? ⟨w.heap.size, 0, none⟩ = some (.slice A2 n2 c2) := p0
                    have p1d : wc.drew.cell? ⟨w.heap.size, 1, none⟩ = some (.slice B2 m2 d2') := p1
                    clear hee e2 e3 e4
                    go_upto_region 19 with fail
                    go_region_held3 (fun w' => w'.cell? ⟨w.heap.size, 0, none⟩ = some (.slice A2 n2 c2) ∧ w'.cell? ⟨w.heap.size, 1, none⟩ = some (.slice B2 m2 d2'))
                      (first | with_reducible assumption | with_reducible exact keep2_drew ⟨p0, p1⟩ | with_reducible exact keep2_drew (keep2_set (keep2_set (keep2_set (keep2_set ⟨p0, p1⟩ (by simp) (by simp)) (by simp) (by simp)) (by simp) (by simp)) (by simp) (by simp)) | with_reducible exact keep2_drew (keep2_set (keep2_set ⟨p0, p1⟩ (by simp) (by simp)) (by simp) (by simp)))
                      (fail)
                    all_goals
                      go_wp2_with fail
                      obtain ⟨k1, k2, k3⟩ := two_two (show w.heap.size + 1 ≠ w.heap.size + 1 + 1 by omega) HSc.out HXc.out (.int .i64 0) (.string ⟨#[]⟩) (.slice A2 n2 c2) (.slice B2 m2 d2')
                      have hW := (two_by (two_by HBc.out (show w.heap.size ≤ w.heap.size + 1 by omega) (.int .i64 0) (.string ⟨#[]⟩)) (show w.heap.size ≤ w.heap.size + 1 + 1 by omega) (.slice A2 n2 c2) (.slice B2 m2 d2')).drew
                      have hQ := HPc.out.two_two HSc.out HXc.out (by decide) (by decide) (by omega) (.int .i64 0) (.string ⟨#[]⟩) (.slice A2 n2 c2) (.slice B2 m2 d2')
                      refine bodyPost_ret (res_ask rfl _ _ (w.heap.size + 1) (w.heap.size + 1 + 1) (by rfl) (by rfl) _ _ (load_share (w := World.drew _) k1) (load_plat_new (w := World.drew _) k2)) rfl ?_
                      rw [HE.out]
                      exact ⟨_, rfl, ⟨_, _, _, _, _, _, rfl, hQ.below ((Below.refl _ _).drew)⟩, hW⟩

            · have dd : decide (h5 = sm) = false := by simpa using hcr
              have HE := Lib.hid (show askH P sm deeds = nothing Q1 211 by rw [HG4.out, if_pos hcr])
              clear hcr
              clear HG HG3 HG4 hep HBr
              simp only [dd, Bool.not_false]
              clear dd
              go_wp2_with fail
              go_region_held3 (fun w' => w'.cell? ⟨w.heap.size, 0, none⟩ = some (.slice A1 n1 c1) ∧ w'.cell? ⟨w.heap.size, 1, none⟩ = some (.slice B1 m1 d1'))
                (first | with_reducible assumption | with_reducible exact keep2_drew ⟨p0, p1⟩ | with_reducible exact keep2_drew (keep2_set (keep2_set (keep2_set (keep2_set ⟨p0, p1⟩ (by simp) (by simp)) (by simp) (by simp)) (by simp) (by simp)) (by simp) (by simp)) | with_reducible exact keep2_drew (keep2_set (keep2_set ⟨p0, p1⟩ (by simp) (by simp)) (by simp) (by simp)))
                (fail)
              all_goals
                go_wp2_with fail
                obtain ⟨k1, k2, k3⟩ := two_two (show w.heap.size + 1 ≠ w.heap.size + 1 + 1 by omega) HSc.out HXc.out (.int .i64 0) (.string ⟨#[]⟩) (.slice A1 n1 c1) (.slice B1 m1 d1')
                have hW := (two_by (two_by HBc.out (show w.heap.size ≤ w.heap.size + 1 by omega) (.int .i64 0) (.string ⟨#[]⟩)) (show w.heap.size ≤ w.heap.size + 1 + 1 by omega) (.slice A1 n1 c1) (.slice B1 m1 d1')).drew
                have hQ := HPc.out.two_two HSc.out HXc.out (by decide) (by decide) (by omega) (.int .i64 0) (.string ⟨#[]⟩) (.slice A1 n1 c1) (.slice B1 m1 d1')
                refine bodyPost_ret (res_ask rfl _ _ (w.heap.size + 1) (w.heap.size + 1 + 1) (by rfl) (by rfl) _ _ (load_share (w := World.drew _) k1) (load_plat_new (w := World.drew _) k2)) rfl ?_
                rw [HE.out]
                exact ⟨_, rfl, ⟨_, _, _, _, _, _, rfl, hQ.below ((Below.refl _ _).drew)⟩, hW⟩
          · have dd : (er != 0) = true := by simpa using hee
            have HE := Lib.hid (show askH P sm deeds = nothing Q1 er by rw [HG3.out, if_pos hee])
            have p0d : wc.drew.cell? ⟨w.heap.size, 0, none⟩ = some (.slice A1 n1 c1) := p0
            have p1d : wc.drew.cell? ⟨w.heap.size, 1, none⟩ = some (.slice B1 m1 d1') := p1
            clear hee e0 e1 e2 e3 e4 e5 e6 e7 e8 e9 ef1
            go_wp2_with fail
            go_region_held3 (fun w' => w'.cell? ⟨w.heap.size, 0, none⟩ = some (.slice A1 n1 c1) ∧ w'.cell? ⟨w.heap.size, 1, none⟩ = some (.slice B1 m1 d1'))
              (first | with_reducible assumption | with_reducible exact keep2_drew ⟨p0, p1⟩ | with_reducible exact keep2_drew (keep2_set (keep2_set (keep2_set (keep2_set ⟨p0, p1⟩ (by simp) (by simp)) (by simp) (by simp)) (by simp) (by simp)) (by simp) (by simp)) | with_reducible exact keep2_drew (keep2_set (keep2_set ⟨p0, p1⟩ (by simp) (by simp)) (by simp) (by simp)))
              (fail)
            all_goals
              go_wp2_with fail
              obtain ⟨k1, k2, k3⟩ := two_two (show w.heap.size + 1 ≠ w.heap.size + 1 + 1 by omega) HSc.out HXc.out (.int .i64 0) (.string ⟨#[]⟩) (.slice A1 n1 c1) (.slice B1 m1 d1')
              have hW := (two_by (two_by HBc.out (show w.heap.size ≤ w.heap.size + 1 by omega) (.int .i64 0) (.string ⟨#[]⟩)) (show w.heap.size ≤ w.heap.size + 1 + 1 by omega) (.slice A1 n1 c1) (.slice B1 m1 d1')).drew
              have hQ := HPc.out.two_two HSc.out HXc.out (by decide) (by decide) (by omega) (.int .i64 0) (.string ⟨#[]⟩) (.slice A1 n1 c1) (.slice B1 m1 d1')
              refine bodyPost_ret (res_ask rfl _ _ (w.heap.size + 1) (w.heap.size + 1 + 1) (by rfl) (by rfl) _ _ (load_share (w := World.drew _) k1) (load_plat_new (w := World.drew _) k2)) rfl ?_
              rw [HE.out]
              exact ⟨_, rfl, ⟨_, _, _, _, _, _, rfl, hQ.below ((Below.refl _ _).drew)⟩, hW⟩
  · have HE := Lib.hid (show askH P sm deeds = nothing noPlat er by rw [HG.out, if_pos her])
    have d1 : (er != 0) = true := by simpa using her
    clear her
    go_wp2_with fail
    obtain ⟨k1, k2, k3⟩ := two_two (show w.heap.size + 1 ≠ w.heap.size + 1 + 1 by omega) HS2.out HX2.out (.int .i64 0) (.string ⟨#[]⟩) (.slice none 0 0) (.slice none 0 0)
    try simp only [Exit.inBlock, Exit.then]
    refine bodyPost_ret (res_ask rfl _ _ (w.heap.size + 1) (w.heap.size + 1 + 1) (by rfl) (by rfl) _ _ (load_share k1) (load_plat_new k2)) rfl ?_
    rw [HE.out]
    exact ⟨_, rfl, PlV.no _, two_by (two_by HB2.out (by omega) _ _) (by omega) _ _⟩
end

section
open Go.RowKit
set_option linter.unusedVariables false
set_option linter.unusedSimpArgs false

def neB (D : Deal) (a : Ans) : Bool := !decide ((a.x, a.b) = D.sh.getD (a.x - 1).toNat (0, noneT))
def blamed (D : Deal) (ls : List Ans) : Option Ans := ((selS D.r noneT true ls).map Subtype.val).find? (neB D)
def blP (D : Deal) (a : Ans) : ByteArray := witP (D.sa.getD (a.x - 1).toNat noneT) (D.sh.getD (a.x - 1).toNat (0, noneT)) a.salt (a.x, a.b)
def blQ (D : Deal) (a : Ans) : ByteArray := witQ (D.sa.getD (a.x - 1).toNat noneT) (D.sh.getD (a.x - 1).toNat (0, noneT)) a.salt (a.x, a.b)
def blB (D : Deal) (a : Ans) : Bool := witB (D.sa.getD (a.x - 1).toNat noneT) (D.sh.getD (a.x - 1).toNat (0, noneT)) a.salt (a.x, a.b)
def BlameR (w : World) (D : Deal) (o : Option Ans) (e : Ending) (w' : World) : Prop :=
  Below w.heap.size w w' ∧ match o with
  | none => e = .returned (.tuple #[.string ⟨#[]⟩, .string ⟨#[]⟩, .bool false])
  | some a => e = .returned (.tuple #[.string (blP D a), .string (blQ D a), .bool (blB D a)])
theorem blamed_none {D : Deal} {ls : List Ans} (h : ∀ x ∈ selS D.r noneT true ls, neB D x.1 = false) : blamed D ls = none := by
  unfold blamed
  rw [List.find?_eq_none]
  intro a ha
  obtain ⟨x, hx, rfl⟩ := List.mem_map.1 ha
  rw [h x hx]
  simp
theorem blamed_some {D : Deal} {ls : List Ans} {pre : List (FA D.r noneT true)} {x : FA D.r noneT true} (h : pre ++ [x] <+: selS D.r noneT true ls) (h1 : ∀ y ∈ pre, neB D y.1 = false) (h2 : neB D x.1 = true) : blamed D ls = some x.1 := by
  obtain ⟨t, ht⟩ := h
  unfold blamed
  rw [← ht, List.map_append, List.map_append, List.append_assoc, List.find?_append]
  have : (pre.map Subtype.val).find? (neB D) = none := by
    rw [List.find?_eq_none]
    intro a ha
    obtain ⟨y, hy, rfl⟩ := List.mem_map.1 ha
    rw [h1 y hy]
    simp
  rw [this, List.map_cons, List.map_nil, List.singleton_append, List.find?_cons_of_pos h2]
  rfl
theorem dealt_or {D : Deal} {ls : List Ans} : (∀ a ∈ ls, fitB D.r a = true → (a.x, a.b) = D.sh.getD (a.x - 1).toNat (0, noneT)) ∨ ∃ a, blamed D ls = some a ∧ fitB D.r a = true ∧ neB D a = true := by
  cases h : blamed D ls with
  | none =>
    left
    intro a ha hf
    unfold blamed at h
    rw [sel_val, List.find?_eq_none] at h
    have := h a (List.mem_filter.2 ⟨ha, by simp [tells, hf]⟩)
    unfold neB at this
    simpa using this
  | some a =>
    right
    refine ⟨a, rfl, ?_, List.find?_some h⟩
    have hm := List.mem_of_find?_eq_some h
    rw [sel_val] at hm
    have := (List.mem_filter.1 hm).2
    simpa [tells] using this
theorem btext_inj {s o : ByteArray} {p q : Shr} (h1 : brightB s p = true) (h2 : brightB o q = true) (h : btextB s p = btextB o q) : s = o ∧ p = q := by
  obtain ⟨a1, a2, a3, a4⟩ := bright_is h1
  obtain ⟨b1, b2, b3, b4⟩ := bright_is h2
  have h' := congrArg (fun x : ByteArray => x.data.toList) h
  simp only [btextB, ByteArray.data_append, Array.toList_append] at h'
  have e1 := List.append_inj h' (by simp [len_data, a1, b1, bs_data])
  have e2 := List.append_inj e1.1 (by simp [len_data, a1, b1])
  have e3 := List.append_inj e2.1 rfl
  obtain ⟨x, y⟩ := p
  obtain ⟨z, u⟩ := q
  simp only at a2 a3 a4 b2 b3 b4 e1 e2 ⊢
  have e4 : UInt8.ofNat x.toNat = UInt8.ofNat z.toNat := by
    have := e2.2
    rw [bs_data, bs_data] at this
    injection this
  have e5 := congrArg UInt8.toNat e4
  rw [UInt8.toNat_ofNat', UInt8.toNat_ofNat'] at e5
  have hx : x = z := by omega
  have hs : s = o := by rw [← bs_of s, ← bs_of o, e3.2]
  have hy : y = u := by rw [← bs_of y, ← bs_of u, e1.2]
  exact ⟨hs, by rw [hx, hy]⟩
theorem blamed_shows {D : Deal} {m : Nat} {t : List UInt8} (g : Good D m t) {a : Ans} (hf : fitB D.r a = true) (hn : neB D a = true) : blB D a = true ∧ blP D a ≠ blQ D a ∧ bs (sumL (blP D a).data.toList) = bs (sumL (blQ D a).data.toList) := by
  obtain ⟨hp, hx, hck⟩ := fit_parts hf
  obtain ⟨l1, l2, -, -, -⟩ := place_le D.r a.nm hp
  have hi : placeN D.r a.nm - 1 < D.r.ns.length := by omega
  have hix : (a.x - 1).toNat = placeN D.r a.nm - 1 := by omega
  unfold neB at hn
  rw [hix, good_sh g hi] at hn
  have hne : (a.x, a.b) ≠ pick D.sec.data.toList t m (placeN D.r a.nm - 1) := by simpa using hn
  rw [checkP, g.pl _ hi, Bool.and_eq_true, decide_eq_true_eq] at hck
  have hb := g.br _ hi
  have hw : witB (D.sa.getD (placeN D.r a.nm - 1) noneT) (pick D.sec.data.toList t m (placeN D.r a.nm - 1)) a.salt (a.x, a.b) = true := by
    unfold witB
    rw [hb, hck.1, hck.2, decide_eq_false (p := pick _ _ _ _ = _) (fun e => hne e.symm)]
    simp
  unfold blB blP blQ
  rw [hix, good_sh g hi, hw]
  unfold witP witQ
  rw [if_pos hw, if_pos hw]
  exact ⟨rfl, fun e => hne (btext_inj hb hck.1 e).2.symm, hck.2.symm⟩
end

section
open Go.RowKit
set_option linter.unusedVariables false
set_option linter.unusedSimpArgs false
set_option maxRecDepth 100000
set_option maxHeartbeats 4000000
attribute [local go_sem] Oper.semAt_some

structure BI (w : World) (CD : Array Value) (x y : ByteArray) (z : Bool) (W : World) : Prop where
  g0 : W.heap[w.heap.size]? = some (.cells CD 29 (0, 0))
  g1 : W.heap[w.heap.size + 1]? = some (.cells #[.string x] 9 (0, 0))
  g2 : W.heap[w.heap.size + 1 + 1]? = some (.cells #[.string y] 9 (0, 0))
  g3 : W.heap[w.heap.size + 1 + 1 + 1]? = some (.cells #[.bool z] 4 (0, 0))
  hb : Below w.heap.size w W
  hz : w.heap.size + 8 ≤ W.heap.size
theorem BI.kept {w : World} {CD : Array Value} {x y : ByteArray} {z : Bool} {W W' : World} {row : Option Nat} (h : BI w CD x y z W) (hg : W.grownBy W' row) (hr : ∀ r, row = some r → w.heap.size ≤ r ∧ ∃ o : Obj, W.heap[r]? = some o ∧ o.isCells = false) : BI w CD x y z W' :=
  have hr2 : ∀ r, row = some r → ∃ o : Obj, W.heap[r]? = some o ∧ o.isCells = false := fun r e => (hr r e).2
  ⟨rf_c h.g0 hg hr2, rf_c h.g1 hg hr2, rf_c h.g2 hg hr2, rf_c h.g3 hg hr2, h.hb.grown hg (Below.size h.hb) (fun k e => (hr k e).1), Nat.le_trans h.hz hg.size⟩
theorem BI.below {w : World} {CD : Array Value} {x y : ByteArray} {z : Bool} {W W' : World} (h : BI w CD x y z W) (hb : Below W.heap.size W W') : BI w CD x y z W' :=
  ⟨cells_below h.g0 hb, cells_below h.g1 hb, cells_below h.g2 hb, cells_below h.g3 hb, h.hb.trans (hb.mono h.hb.size), Nat.le_trans h.hz hb.size⟩
theorem BI.setA {w : World} {CD : Array Value} {x y : ByteArray} {z : Bool} {W : World} (h : BI w CD x y z W) (u : ByteArray) : BI w CD u y z (W.setCell ⟨w.heap.size + 1, 0, none⟩ (.string u)) :=
  ⟨(Below.heap_setCell _ _ _ _ (by dsimp only; omega)).trans h.g0, by have := blk_set h.g1 0 (.string u); simpa using this, (Below.heap_setCell _ _ _ _ (by dsimp only; omega)).trans h.g2, (Below.heap_setCell _ _ _ _ (by dsimp only; omega)).trans h.g3, h.hb.setCell (by dsimp only; omega) _, by simpa using h.hz⟩
theorem BI.setB {w : World} {CD : Array Value} {x y : ByteArray} {z : Bool} {W : World} (h : BI w CD x y z W) (u : ByteArray) : BI w CD x u z (W.setCell ⟨w.heap.size + 1 + 1, 0, none⟩ (.string u)) :=
  ⟨(Below.heap_setCell _ _ _ _ (by dsimp only; omega)).trans h.g0, (Below.heap_setCell _ _ _ _ (by dsimp only; omega)).trans h.g1, by have := blk_set h.g2 0 (.string u); simpa using this, (Below.heap_setCell _ _ _ _ (by dsimp only; omega)).trans h.g3, h.hb.setCell (by dsimp only; omega) _, by simpa using h.hz⟩
theorem BI.setC {w : World} {CD : Array Value} {x y : ByteArray} {z : Bool} {W : World} (h : BI w CD x y z W) (u : Bool) : BI w CD x y u (W.setCell ⟨w.heap.size + 1 + 1 + 1, 0, none⟩ (.bool u)) :=
  ⟨(Below.heap_setCell _ _ _ _ (by dsimp only; omega)).trans h.g0, (Below.heap_setCell _ _ _ _ (by dsimp only; omega)).trans h.g1, (Below.heap_setCell _ _ _ _ (by dsimp only; omega)).trans h.g2, by have := blk_set h.g3 0 (.bool u); simpa using this, h.hb.setCell (by dsimp only; omega) _, by simpa using h.hz⟩
theorem res_three {P : Program} {fn : Func} {a b c : Tmp} {ta tb tc : TypeId} (h : fn.results = #[.cell a ta, .cell b tb, .cell c tc]) (tmps : Array Value) (w : World) (g k m : Nat) (ha : tmps.getD a undef = .pointer (some ⟨g, 0, none⟩)) (hb : tmps.getD b undef = .pointer (some ⟨k, 0, none⟩)) (hc : tmps.getD c undef = .pointer (some ⟨m, 0, none⟩)) (x y z : Value)
    (hl : (loadVar ta ⟨g, 0, none⟩).run P w = .ok x w) (hk : (loadVar tb ⟨k, 0, none⟩).run P w = .ok y w) (hm : (loadVar tc ⟨m, 0, none⟩).run P w = .ok z w) : (results fn tmps).run P w = .ok (.tuple #[x, y, z]) w := by
  have ha' : tmps[a]?.getD undef = .pointer (some ⟨g, 0, none⟩) := by simpa using ha
  have hb' : tmps[b]?.getD undef = .pointer (some ⟨k, 0, none⟩) := by simpa using hb
  have hc' : tmps[c]?.getD undef = .pointer (some ⟨m, 0, none⟩) := by simpa using hc
  simp [results, h, asAddr, ha', hb', hc', hl, hk, hm]
theorem bl_load_str {w : World} {g : Nat} {s : ByteArray} (h : w.cell? ⟨g, 0, none⟩ = some (.string s)) : (loadVar 9 ⟨g, 0, none⟩).run Tryz.prog w = .ok (.string s) w := by
  go_simp
theorem bl_load_bool {w : World} {g : Nat} {s : Bool} (h : w.cell? ⟨g, 0, none⟩ = some (.bool s)) : (loadVar 4 ⟨g, 0, none⟩).run Tryz.prog w = .ok (.bool s) w := by
  go_simp
theorem blame_end {w : World} {CD : Array Value} {x y : ByteArray} {z : Bool} {D1 : Nat} {W : World} (h : BI w CD x y z W) (hD : w.heap.size + 8 ≤ D1) (hK : W.heap[D1]? = some (.deferred (some []))) (tmps : Array Value) (ha : tmps.getD 4 undef = .pointer (some ⟨w.heap.size + 1, 0, none⟩)) (hb : tmps.getD 5 undef = .pointer (some ⟨w.heap.size + 1 + 1, 0, none⟩)) (hc : tmps.getD 6 undef = .pointer (some ⟨w.heap.size + 1 + 1 + 1, 0, none⟩)) {R : Ending → World → Prop}
    (hR : ∀ W', Below w.heap.size w W' → R (.returned (.tuple #[.string x, .string y, .bool z])) W') : LeavesInM Fence.wide 4 Tryz.prog Tryz.f16 tmps R (marks [D1]) .returning W :=
  leaves_marks w.heap.size [D1] W (by simp) (fun D hD2 => by rw [List.mem_singleton] at hD2; subst hD2; exact ⟨by omega, hK⟩) fun W' hS => ⟨_, res_three rfl _ _ _ _ _ ha hb hc _ _ _ (bl_load_str (rf_at (hS.hc _ _ _ h.g1) 0 _ rfl)) (bl_load_str (rf_at (hS.hc _ _ _ h.g2) 0 _ rfl)) (bl_load_bool (rf_at (hS.hc _ _ _ h.g3) 0 _ rfl)), hR W' (h.hb.trans hS.hb)⟩
structure BA (w : World) (CD : Array Value) (D : Deal) (pre : List (FA D.r noneT true)) (W : World) : Prop where
  no : ∀ y ∈ pre, neB D y.1 = false
  bi : BI w CD ⟨#[]⟩ ⟨#[]⟩ false W
structure BX (w : World) (CD : Array Value) (D : Deal) (cd : Code) (pre : List (FA D.r noneT true)) (W : World) : Prop where
  ex : ∃ (p0 : List (FA D.r noneT true)) (x : FA D.r noneT true), pre = p0 ++ [x] ∧ (∀ y ∈ p0, neB D y.1 = false) ∧ neB D x.1 = true ∧ cd = .ret ∧ BI w CD (blP D x.1) (blQ D x.1) (blB D x.1) W
def S8 (g bE iE bC iC Bx : Nat) (vE vC vs px pb xs xx xb : Value) (W : World) : Prop := (W.cell? ⟨g, 6, none⟩ = some vE ∧ W.cell? ⟨g, 5, none⟩ = some vC) ∧ (W.cell? ⟨bE, iE, none⟩ = some vs ∧ W.cell? ⟨bC, iC, none⟩ = some px) ∧ (W.cell? ⟨bC, iC + 1, none⟩ = some pb ∧ W.cell? ⟨Bx, 1, none⟩ = some xs) ∧ (W.cell? ⟨Bx, 2, none⟩ = some xx ∧ W.cell? ⟨Bx, 3, none⟩ = some xb)
theorem S8.below {g bE iE bC iC Bx : Nat} {vE vC vs px pb xs xx xb : Value} {W W' : World} (h : S8 g bE iE bC iC Bx vE vC vs px pb xs xx xb W) (hb : Below W.heap.size W W') : S8 g bE iE bC iC Bx vE vC vs px pb xs xx xb W' :=
  ⟨keep2_below h.1 hb, keep2_below h.2.1 hb, keep2_below h.2.2.1 hb, keep2_below h.2.2.2 hb⟩
theorem addr_ne {b b' o o' : Nat} (h : b ≠ b') : (⟨b, o, none⟩ : Addr) ≠ ⟨b', o', none⟩ := fun e => h (congrArg Addr.block e)
theorem S8.set {g bE iE bC iC Bx : Nat} {vE vC vs px pb xs xx xb : Value} {W : World} (h : S8 g bE iE bC iC Bx vE vC vs px pb xs xx xb W) {r i : Nat} (u : Value) (h1 : r ≠ g) (h2 : r ≠ bE) (h3 : r ≠ bC) (h4 : r ≠ Bx) : S8 g bE iE bC iC Bx vE vC vs px pb xs xx xb (W.setCell ⟨r, i, none⟩ u) :=
  ⟨keep2_set h.1 (addr_ne h1) (addr_ne h1), keep2_set h.2.1 (addr_ne h2) (addr_ne h3), keep2_set h.2.2.1 (addr_ne h3) (addr_ne h4), keep2_set h.2.2.2 (addr_ne h4) (addr_ne h4)⟩
theorem blame_any (v : Value) (D : Deal) (A : Option Addr) (m c : Nat) (ls : List Ans) (w : World) (hv : DV w v D) (hsh : D.sh.length = D.r.ns.length) (hsa : D.sa.length = D.r.ns.length) (h16 : D.r.ns.length ≤ 16) (hr : Rd w A (answersV ls)) (hm : m = ls.length) (hl : m ≤ 1000) (hR : Rounds w) :
    Calls Tryz.prog 16 #[v, .slice A m c] w (BlameR w D (blamed D ls)) := by
  obtain ⟨A1, n1, c1, A2, n2, c2, C, p, q, E, s, t, rfl, hA1, hn1, hA2, hn2, hC, hp, hE, hs⟩ := hv
  obtain rfl : p = n1 := by omega
  obtain rfl : s = p := by omega
  have HV := Lib.hid (show RV w (.agg #[.int .i64 D.r.e, .int .i64 D.r.k, .slice A1 s c1, .slice A2 n2 c2]) D.r from ⟨_, _, _, _, _, _, rfl, hA1, hn1, hA2, hn2⟩)
  have kA := al4' w (.cells #[.int .i64 D.r.e, .int .i64 D.r.k, .slice A1 s c1, .slice A2 n2 c2, .string D.sec, .slice C s q, .slice E s t] 29) (.cells #[.string ⟨#[]⟩] 9) (.cells #[.string ⟨#[]⟩] 9) (.cells #[.bool false] 4)
  obtain ⟨k0, k1, k2, k3, kb, ksz⟩ := kA
  have HRd := Lib.hid hr
  have HR := Lib.hid hR
  have HC := Lib.hid hC
  have HE := Lib.hid hE
  have HM := Lib.hid hm
  have x0 := rf_at k0 0 _ rfl
  have x1 := rf_at k0 1 _ rfl
  have x2 := rf_at k0 2 _ rfl
  have x3 := rf_at k0 3 _ rfl
  have x5 := rf_at k0 5 _ rfl
  have x6 := rf_at k0 6 _ rfl
  have e0 : ((s : Int) != (s : Int)) = false := by simp
  have HS := Lib.hid hs
  have HP := Lib.hid hp
  have HN := Lib.hid hn1
  have hs16 : s ≤ 16 := by rw [hn1]; exact h16
  clear hA1 hA2 hn2 hC hE hr hR hm hs hp hn1 h16 hsh hsa
  refine (callsIn_wide (n := 4)).1 ?_
  refine callsIn_of_wp_marks Tryz.func16 rfl trivial ?_ rfl
  simp only [Tryz.ntmps16, List.size_toArray, List.length_cons, List.length_nil, Nat.reduceAdd, Nat.reduceSub, Array.replicate_succ, Array.replicate_zero, List.push_toArray, List.append_toArray, List.nil_append, List.cons_append]
  gi_wp2_with (refine ⟨trivial, ?_⟩; gi_at_call 32; refine (fitting_in _ _ _ _ _ _ _ _ _ _ _).mono ?_; rintro e w4 ⟨rfl, rfl⟩)
  clear x0 x1 x2 x3 x5 x6 e0
  obtain ⟨W0, hW0⟩ : ∃ W0, W0 = ((((w.alloc (.cells #[.int .i64 D.r.e, .int .i64 D.r.k, .slice A1 s c1, .slice A2 n2 c2, .string D.sec, .slice C s q, .slice E s t] 29)).alloc (.cells #[.string ⟨#[]⟩] 9)).alloc (.cells #[.string ⟨#[]⟩] 9)).alloc (.cells #[.bool false] 4)) := ⟨_, rfl⟩
  rw [← hW0] at k0 k1 k2 k3 kb ksz ⊢
  have kA := al4' W0 (.cells #[.int .i64 D.r.e, .int .i64 D.r.k, .slice A1 s c1, .slice A2 n2 c2] 26) (.cells #[.slice A m c] 40) (.cells #[.string ⟨#[]⟩] 9) (.cells #[.bool true] 4)
  obtain ⟨kR, kL, kN, kT, kb4, ksz4⟩ := kA
  rw [ksz] at kR kL kN kT kb4 ksz4
  obtain ⟨w4, hw4⟩ : ∃ w4, w4 = (((W0.alloc (.cells #[.int .i64 D.r.e, .int .i64 D.r.k, .slice A1 s c1, .slice A2 n2 c2] 26)).alloc (.cells #[.slice A m c] 40)).alloc (.cells #[.string ⟨#[]⟩] 9)).alloc (.cells #[.bool true] 4) := ⟨_, rfl⟩
  rw [← hw4] at kR kL kN kT kb4 ksz4 ⊢
  clear hw4
  rw [← ksz] at kb4
  have HBI4 : Hid (BI w #[.int .i64 D.r.e, .int .i64 D.r.k, .slice A1 s c1, .slice A2 n2 c2, .string D.sec, .slice C s q, .slice E s t] ⟨#[]⟩ ⟨#[]⟩ false w4) := Lib.hid ⟨cells_below k0 kb4, cells_below k1 kb4, cells_below k2 kb4, cells_below k3 kb4, kb.trans (kb4.mono (by omega)), by omega⟩
  clear k0 k1 k2 k3 hW0 kb kb4
  refine wpIn_rangeFunc_ownH rfl (by omega) (gf := 61) (lb := #[.pointer (some ⟨w.heap.size + 4 + 1, 0, none⟩), .pointer (some ⟨w.heap.size + 4 + 1 + 1 + 1, 0, none⟩), .pointer (some ⟨w.heap.size + 4 + 1 + 1, 0, none⟩), .pointer (some ⟨w.heap.size + 4, 0, none⟩)]) rfl trivial (enters_of Tryz.func61 (by kernel_rfl) rfl)
    (encs := fun x : FA D.r noneT true => #[.agg #[.string x.1.nm, .string x.1.salt, .int .i64 x.1.x, .string x.1.b]]) (Kp := KpT w.heap.size [w.heap.size + 4 + 1, w.heap.size + 4 + 1 + 1 + 1, w.heap.size + 4 + 1 + 1, w.heap.size + 4]) (S := fun ys => ys = selS D.r noneT true ls) (Sp := fun pre => pre <+: selS D.r noneT true ls) (N := (selS D.r noneT true ls).length) (w0 := w4)
    (fun l J Jx W hW hJ _ hY h0 => fitting1_in 3 (by omega) l _ _ _ _ w.heap.size A m c ls noneT true D.r _ _ _ _ w W rfl (HBI4.out.hb.trans (hW.mono (by omega))) HV.out HRd.out HM.out hl HR.out (cells_below kL hW) (cells_below kT hW) (cells_below kN hW) (cells_below kR hW) J Jx hJ hY h0)
    kpT_t (kpT_b (by omega) (by simp; omega)) (Below.refl _ _) (fun _ => rfl)
    (BA w #[.int .i64 D.r.e, .int .i64 D.r.k, .slice A1 s c1, .slice A2 n2 c2, .string D.sec, .slice C s q, .slice E s t] D) (BX w #[.int .i64 D.r.e, .int .i64 D.r.k, .slice A1 s c1, .slice A2 n2 c2, .string D.sec, .slice C s q, .slice E s t] D)
    (fun s X Y row h hg hr => ⟨h.no, h.bi.kept hg (fun r e => ⟨by have := (hr r e).1; omega, (hr r e).2⟩)⟩) (fun cd s X Y row h hg hr => by obtain ⟨p0, x, t1, t2, t3, t4, t5⟩ := h.ex; exact ⟨⟨p0, x, t1, t2, t3, t4, t5.kept hg (fun r e => ⟨by have := (hr r e).1; omega, (hr r e).2⟩)⟩⟩)
    ⟨by simp, HBI4.out⟩
    (fun x a' W => ∃ Bx, w.heap.size + 4 ≤ Bx ∧ W.heap[Bx]? = some (.cells #[.string x.1.nm, .string x.1.salt, .int .i64 x.1.x, .string x.1.b] 45 (0, 0)) ∧ a' = { tmps := #[.agg #[.int .i64 D.r.e, .int .i64 D.r.k, .slice A1 s c1, .slice A2 n2 c2, .string D.sec, .slice C s q, .slice E s t], .slice A m c, .pointer (some ⟨w.heap.size, 0, none⟩), undef, .pointer (some ⟨w.heap.size + 1, 0, none⟩), .pointer (some ⟨w.heap.size + 1 + 1, 0, none⟩), .pointer (some ⟨w.heap.size + 1 + 1 + 1, 0, none⟩), .int .i64 s, .pointer (some ⟨Bx, 0, none⟩), undef, .pointer (some ⟨w.heap.size, 0, none⟩), .pointer (some ⟨w.heap.size, 2, none⟩), .slice A1 s c1, .int .i64 s, .pointer (some ⟨w.heap.size, 5, none⟩), .slice C s q, .int .i64 s, .int .i64 s, .bool false, .bool false, .pointer (some ⟨w.heap.size, 6, none⟩), .slice E s t, .int .i64 s, .int .i64 s, .bool false, .bool false, .pointer (some ⟨w.heap.size, 0, none⟩), .agg #[.int .i64 D.r.e, .int .i64 D.r.k, .slice A1 s c1, .slice A2 n2 c2], .slice A m c, .func (.func 61) #[] #[.pointer (some ⟨w.heap.size + 4 + 1, 0, none⟩), .pointer (some ⟨w.heap.size + 4 + 1 + 1 + 1, 0, none⟩), .pointer (some ⟨w.heap.size + 4 + 1 + 1, 0, none⟩), .pointer (some ⟨w.heap.size + 4, 0, none⟩)], .agg #[.string x.1.nm, .string x.1.salt, .int .i64 x.1.x, .string x.1.b], undef, undef, undef, undef, undef, undef, undef, undef, undef, undef, undef, undef, undef, undef, undef, undef, undef, undef, undef, undef, undef, undef, undef, undef, undef, undef, undef, undef, undef, undef], defers := [] })
    (fun x a' _ X Y row hs hg hr => by obtain ⟨Bx, t0, t1, t2⟩ := hs; exact ⟨Bx, t0, rf_c t1 hg (fun r e => (hr r e).2), t2⟩)
    ?assign ?body ?done ?stop
  case assign =>
    rintro l pre x W K hI hK
    have al := (Below.refl W.heap.size W).alloc (Nat.le_refl _) (.cells #[.string x.1.nm, .string x.1.salt, .int .i64 x.1.x, .string x.1.b] 45)
    have hn := heap_alloc_new W (.cells #[.string x.1.nm, .string x.1.salt, .int .i64 x.1.x, .string x.1.b] 45)
    have hz := hI.bi.hz
    gi_wp2
    refine hK _ _ ((KeepsOthers.alloc _ _).from _) ⟨(Below.refl _ W).alloc (by omega) _, keepB_below (by simp; omega) al⟩ ⟨hI.no, hI.bi.below al⟩ ⟨W.heap.size, by omega, hn, rfl⟩
  case body =>
    rintro l pre x a' W hl' ⟨r', hr'⟩ ⟨hno, bi⟩ ⟨Bx, hBx, bX, rfl⟩ hlt'
    obtain ⟨⟨xn, xs, xx, xb⟩, hxt⟩ := x
    simp only at bX
    have hft : fitB D.r ⟨xn, xs, xx, xb⟩ = true := by simpa [tells] using hxt
    obtain ⟨hpl, hx, -⟩ := fit_parts hft
    obtain ⟨l1, l2, -, -, -⟩ := place_le D.r xn hpl
    obtain ⟨y, hy⟩ : ∃ y, placeN D.r xn = y + 1 := ⟨placeN D.r xn - 1, by omega⟩
    simp only at hx
    rw [hy] at hx l2
    have hys : y < s := by rw [HN.out]; omega
    have hyI : (y : Int) < (s : Int) := by omega
    have hw1 : IntKind.i64.wrap (xx - 1) = (y : Int) := by rw [hx, IntWalk.i64_in _ (by omega)]; omega
    have hyS : y < D.sh.length := by rw [← HP.out]; exact hys
    have hyA : y < D.sa.length := by rw [← HS.out]; exact hys
    obtain ⟨bC, oC, hbC, p0, -⟩ := HC.out.shr hyS
    obtain ⟨bE, oE, hbE, q0⟩ := texts_at HE.out hyA
    subst hbC hbE
    have ltC := cell_lt p0
    have ltE := cell_lt q0
    clear p0 q0
    obtain ⟨bC', oC', hbC, p0, p1⟩ := (HC.out.below bi.hb).shr hyS
    injection hbC with t1
    injection t1 with t1 t2
    subst t1 t2
    obtain ⟨bE', oE', hbE, q0⟩ := texts_at (HE.out.below bi.hb) hyA
    injection hbE with t1
    injection t1 with t1 t2
    subst t1 t2
    have hix : (xx - 1).toNat = y := by omega
    have Hno := Lib.hid hno
    have Hne := Lib.hid (show neB D ⟨xn, xs, xx, xb⟩ = !decide ((xx, xb) = D.sh[y]) from by
      unfold neB
      simp only
      rw [hix, List.getD_eq_getElem?_getD, List.getElem?_eq_getElem hyS]
      rfl)
    have e1 : D.sa.getD y noneT = D.sa[y] := getD_eq hyA
    have e2 : D.sh.getD y (0, noneT) = D.sh[y] := by rw [List.getD_eq_getElem?_getD, List.getElem?_eq_getElem hyS]; rfl
    have HbP := Lib.hid (show blP D ⟨xn, xs, xx, xb⟩ = witP D.sa[y] D.sh[y] xs (xx, xb) from by unfold blP; simp only; rw [hix, e1, e2])
    have HbQ := Lib.hid (show blQ D ⟨xn, xs, xx, xb⟩ = witQ D.sa[y] D.sh[y] xs (xx, xb) from by unfold blQ; simp only; rw [hix, e1, e2])
    have HbB := Lib.hid (show blB D ⟨xn, xs, xx, xb⟩ = witB D.sa[y] D.sh[y] xs (xx, xb) from by unfold blB; simp only; rw [hix, e1, e2])
    clear e1 e2
    generalize D.sh[y] = sp at p0 p1 Hne HbP HbQ HbB
    generalize D.sa[y] = sl at q0 HbP HbQ HbB
    obtain ⟨px, pb⟩ := sp
    simp only at p0 p1
    have x5 := rf_at bi.g0 5 _ rfl
    have x6 := rf_at bi.g0 6 _ rfl
    have y1 := rf_at bX 1 _ rfl
    have y2 := rf_at bX 2 _ rfl
    have y3 := rf_at bX 3 _ rfl
    have Bi := Lib.hid bi
    have BX' := Lib.hid bX
    clear bi bX hno hft hpl hx l1 l2 hy hix hyS hyA hr' hl' hlt'
    by_cases k1 : xx = px ∧ xb = pb
    · obtain ⟨rfl, rfl⟩ := k1
      have d1 : (xb.toList == xb.toList) = true := beq_self_eq_true _
      have Hn := Lib.hid (show neB D ⟨xn, xs, xx, xb⟩ = false by rw [Hne.out]; simp)
      gi_wp2
      refine round_quiet (by kernel_rfl) (by kernel_rfl) (by kernel_rfl) ?_
      repeat (go_big_quiet_step (fail))
      refine wpQuiet_nil ?_
      rintro _ ⟨nq, rfl⟩
      gi_wp2
      exact ⟨⟨Nat.le_refl _, fun k o _ h _ => h⟩, ⟨below_drewN (Below.refl _ _) nq, fun b _ => rfl⟩, ⟨fun z hz => by
        rcases List.mem_append.1 hz with h | h
        · exact Hno.out z h
        · rw [List.mem_singleton] at h
          subst h
          exact Hn.out, Bi.out.below (below_drewN (Below.refl _ _) nq)⟩⟩
    · have Hn := Lib.hid (show neB D ⟨xn, xs, xx, xb⟩ = true by rw [Hne.out, decide_eq_false (fun e => k1 ⟨congrArg Prod.fst e, congrArg Prod.snd e⟩)]; rfl)
      by_cases k2 : xx = px
      · obtain rfl := k2
        have d3 := text_ne' (fun e : xb = pb => k1 ⟨rfl, e⟩)
        clear k1
        gi_wp2
        refine round_quiet (by kernel_rfl) (by kernel_rfl) (by kernel_rfl) ?_
        repeat (go_big_quiet_step (fail))
        refine wpQuiet_nil ?_
        rintro _ ⟨nq, rfl⟩
        gi_wp2
        have bi1 := Bi.out.below (below_drewN (Below.refl W.heap.size W) nq).drew
        have hk1 := (below_drewN (Below.refl W.heap.size W) nq).drew
        have S6 := rf_at bi1.g0 6 _ rfl
        have S5 := rf_at bi1.g0 5 _ rfl
        have hS : S8 w.heap.size bE (oE + y) bC (oC + y * 2) Bx (.slice (some ⟨bE, oE, none⟩) s t) (.slice (some ⟨bC, oC, none⟩) s q) (.string sl) (.int .i64 xx) (.string pb) (.string xs) (.int .i64 xx) (.string xb) ((W.drewN nq).drew) := ⟨⟨S6, S5⟩, ⟨q0, p0⟩, ⟨p1, y1⟩, y2, y3⟩
        clear S6 S5 x5 x6 y1 y2 y3 p0 p1 q0
        refine round_held (S := S8 w.heap.size bE (oE + y) bC (oC + y * 2) Bx (.slice (some ⟨bE, oE, none⟩) s t) (.slice (some ⟨bC, oC, none⟩) s q) (.string sl) (.int .i64 xx) (.string pb) (.string xs) (.int .i64 xx) (.string xb)) (by kernel_rfl) (by kernel_rfl) ?_
        change wpAnyH _ _ _ _ _ _ _ _ ((W.drewN nq).drew)
        obtain ⟨W1, hW1⟩ : ∃ W1, W1 = (W.drewN nq).drew := ⟨_, rfl⟩
        rw [← hW1] at bi1 hk1 hS ⊢
        clear hW1
        have HWt := Lib.hid (fun W' h => wit_any sl xx pb xs xx xb W' h)
        generalize witP sl (xx, pb) xs (xx, xb) = rP at HbP HWt
        generalize witQ sl (xx, pb) xs (xx, xb) = rQ at HbQ HWt
        generalize witB sl (xx, pb) xs (xx, xb) = rB at HbB HWt
        have Bi1 := Lib.hid bi1
        have Hk1 := Lib.hid hk1
        clear bi1 hk1
        refine wpAnyH_take (i := 0) (v := .pointer (some ⟨w.heap.size, 6, none⟩)) rfl (by kernel_rfl) (by kernel_rfl) (by kernel_rfl) (fun _ _ _ h => h) (Or.inl ⟨by rfl, ?_⟩) hS ?_
        · intro W7 hSw
          unfold S8 at hSw
          go_simp
        try simp only [Act.put, List.setIfInBounds_toArray, List.set_cons_zero, List.set_cons_succ]
        refine wpAnyH_take (i := 1) (v := .slice (some ⟨bE, oE, none⟩) s t) rfl (by kernel_rfl) (by kernel_rfl) (by kernel_rfl) (fun _ _ _ h => h) (Or.inl ⟨by rfl, ?_⟩) hS ?_
        · intro W7 hSw
          unfold S8 at hSw
          go_simp
        try simp only [Act.put, List.setIfInBounds_toArray, List.set_cons_zero, List.set_cons_succ]
        refine wpAnyH_take (i := 2) (v := .int .i64 (y : Nat)) rfl (by kernel_rfl) (by kernel_rfl) (by kernel_rfl) (fun _ _ _ h => h) (Or.inl ⟨by rfl, ?_⟩) hS ?_
        · intro W7 hSw
          unfold S8 at hSw
          go_simp
        try simp only [Act.put, List.setIfInBounds_toArray, List.set_cons_zero, List.set_cons_succ]
        refine wpAnyH_take (i := 3) (v := .pointer (some ⟨bE, oE + y, none⟩)) rfl (by kernel_rfl) (by kernel_rfl) (by kernel_rfl) (fun _ _ _ h => h) (Or.inl ⟨by rfl, ?_⟩) hS ?_
        · intro W7 hSw
          unfold S8 at hSw
          go_simp
        try simp only [Act.put, List.setIfInBounds_toArray, List.set_cons_zero, List.set_cons_succ]
        refine wpAnyH_take (i := 4) (v := .string sl) rfl (by kernel_rfl) (by kernel_rfl) (by kernel_rfl) (fun _ _ _ h => h) (Or.inl ⟨by rfl, ?_⟩) hS ?_
        · intro W7 hSw
          unfold S8 at hSw
          go_simp
        try simp only [Act.put, List.setIfInBounds_toArray, List.set_cons_zero, List.set_cons_succ]
        refine wpAnyH_take (i := 5) (v := .pointer (some ⟨w.heap.size, 5, none⟩)) rfl (by kernel_rfl) (by kernel_rfl) (by kernel_rfl) (fun _ _ _ h => h) (Or.inl ⟨by rfl, ?_⟩) hS ?_
        · intro W7 hSw
          unfold S8 at hSw
          go_simp
        try simp only [Act.put, List.setIfInBounds_toArray, List.set_cons_zero, List.set_cons_succ]
        refine wpAnyH_take (i := 6) (v := .slice (some ⟨bC, oC, none⟩) s q) rfl (by kernel_rfl) (by kernel_rfl) (by kernel_rfl) (fun _ _ _ h => h) (Or.inl ⟨by rfl, ?_⟩) hS ?_
        · intro W7 hSw
          unfold S8 at hSw
          go_simp
        try simp only [Act.put, List.setIfInBounds_toArray, List.set_cons_zero, List.set_cons_succ]
        refine wpAnyH_take (i := 7) (v := .int .i64 (y : Nat)) rfl (by kernel_rfl) (by kernel_rfl) (by kernel_rfl) (fun _ _ _ h => h) (Or.inl ⟨by rfl, ?_⟩) hS ?_
        · intro W7 hSw
          unfold S8 at hSw
          go_simp
        try simp only [Act.put, List.setIfInBounds_toArray, List.set_cons_zero, List.set_cons_succ]
        refine wpAnyH_take (i := 8) (v := .pointer (some ⟨bC, oC + y * 2, none⟩)) rfl (by kernel_rfl) (by kernel_rfl) (by kernel_rfl) (fun _ _ _ h => h) (Or.inl ⟨by rfl, ?_⟩) hS ?_
        · intro W7 hSw
          unfold S8 at hSw
          go_simp
        try simp only [Act.put, List.setIfInBounds_toArray, List.set_cons_zero, List.set_cons_succ]
        refine wpAnyH_take (i := 9) (v := .agg #[.int .i64 xx, .string pb]) rfl (by kernel_rfl) (by kernel_rfl) (by kernel_rfl) (fun _ _ _ h => h) (Or.inl ⟨by rfl, ?_⟩) hS ?_
        · intro W7 hSw
          unfold S8 at hSw
          go_simp
        try simp only [Act.put, List.setIfInBounds_toArray, List.set_cons_zero, List.set_cons_succ]
        refine wpAnyH_take (i := 10) (v := .pointer (some ⟨Bx, 1, none⟩)) rfl (by kernel_rfl) (by kernel_rfl) (by kernel_rfl) (fun _ _ _ h => h) (Or.inl ⟨by rfl, ?_⟩) hS ?_
        · intro W7 hSw
          unfold S8 at hSw
          go_simp
        try simp only [Act.put, List.setIfInBounds_toArray, List.set_cons_zero, List.set_cons_succ]
        refine wpAnyH_take (i := 11) (v := .string xs) rfl (by kernel_rfl) (by kernel_rfl) (by kernel_rfl) (fun _ _ _ h => h) (Or.inl ⟨by rfl, ?_⟩) hS ?_
        · intro W7 hSw
          unfold S8 at hSw
          go_simp
        try simp only [Act.put, List.setIfInBounds_toArray, List.set_cons_zero, List.set_cons_succ]
        refine wpAnyH_take (i := 12) (v := .pointer (some ⟨Bx, 2, none⟩)) rfl (by kernel_rfl) (by kernel_rfl) (by kernel_rfl) (fun _ _ _ h => h) (Or.inl ⟨by rfl, ?_⟩) hS ?_
        · intro W7 hSw
          unfold S8 at hSw
          go_simp
        try simp only [Act.put, List.setIfInBounds_toArray, List.set_cons_zero, List.set_cons_succ]
        refine wpAnyH_take (i := 13) (v := .agg #[.int .i64 xx, .string xb]) rfl (by kernel_rfl) (by kernel_rfl) (by kernel_rfl) (fun _ _ _ h => h) (Or.inl ⟨by rfl, ?_⟩) hS ?_
        · intro W7 hSw
          unfold S8 at hSw
          go_simp
        try simp only [Act.put, List.setIfInBounds_toArray, List.set_cons_zero, List.set_cons_succ]
        refine wpAnyH_ready (rs := [14]) (by kernel_rfl) (by simp) ?_
        refine AllReadyH.cons rfl (fun K hK => ?_) AllReadyH.nil
        go_simp
        refine (HWt.out _ (HR.out.below Bi1.out.hb)).mono ?_
        rintro e w5 ⟨rfl, hb5⟩
        refine hK.out _ _ (hS.below hb5) (fun hS' => ?_)
        clear hK K
        replace hS := hS'
        clear hS'
        try simp only [Act.put, List.setIfInBounds_toArray, List.set_cons_zero, List.set_cons_succ]
        have Bi5 := Lib.hid (Bi1.out.below hb5)
        have hk5 := (Hk1.out.trans (hb5.mono Hk1.out.size))
        have Hk5 := Lib.hid hk5
        clear hb5 hk5
        refine wpAnyH_take (i := 15) (v := .string rP) rfl (by kernel_rfl) (by kernel_rfl) (by kernel_rfl) (fun _ _ _ h => h) (Or.inl ⟨by rfl, ?_⟩) hS ?_
        · intro W7 hSw
          unfold S8 at hSw
          go_simp
        try simp only [Act.put, List.setIfInBounds_toArray, List.set_cons_zero, List.set_cons_succ]
        refine wpAnyH_take (i := 16) (v := .string rQ) rfl (by kernel_rfl) (by kernel_rfl) (by kernel_rfl) (fun _ _ _ h => h) (Or.inl ⟨by rfl, ?_⟩) hS ?_
        · intro W7 hSw
          unfold S8 at hSw
          go_simp
        try simp only [Act.put, List.setIfInBounds_toArray, List.set_cons_zero, List.set_cons_succ]
        refine wpAnyH_take (i := 17) (v := .bool rB) rfl (by kernel_rfl) (by kernel_rfl) (by kernel_rfl) (fun _ _ _ h => h) (Or.inl ⟨by rfl, ?_⟩) hS ?_
        · intro W7 hSw
          unfold S8 at hSw
          go_simp
        try simp only [Act.put, List.setIfInBounds_toArray, List.set_cons_zero, List.set_cons_succ]
        have ga0 := rf_at Bi5.out.g1 0 _ rfl
        have gaf := rf_fr Bi5.out.g1 0
        refine wpAnyH_ready (rs := [18]) (by kernel_rfl) (by simp) ?_
        refine AllReadyH.cons rfl (fun K hK => ?_) AllReadyH.nil
        go_simp
        refine hK.out _ _ (hS.set _ (by omega) (by omega) (by omega) (by omega)) (fun hS' => ?_)
        clear hK K
        replace hS := hS'
        clear hS'
        try simp only [Act.put, List.setIfInBounds_toArray, List.set_cons_zero, List.set_cons_succ]
        have Bi6 := Lib.hid (Bi5.out.setA rP)
        clear ga0 gaf
        have ga0 := rf_at Bi6.out.g2 0 _ rfl
        have gaf := rf_fr Bi6.out.g2 0
        refine wpAnyH_ready (rs := [19]) (by kernel_rfl) (by simp) ?_
        refine AllReadyH.cons rfl (fun K hK => ?_) AllReadyH.nil
        go_simp
        refine hK.out _ _ (hS.set _ (by omega) (by omega) (by omega) (by omega)) (fun hS' => ?_)
        clear hK K
        replace hS := hS'
        clear hS'
        try simp only [Act.put, List.setIfInBounds_toArray, List.set_cons_zero, List.set_cons_succ]
        have Bi7 := Lib.hid (Bi6.out.setB rQ)
        clear ga0 gaf
        have ga0 := rf_at Bi7.out.g3 0 _ rfl
        have gaf := rf_fr Bi7.out.g3 0
        refine wpAnyH_ready (rs := [20]) (by kernel_rfl) (by simp) ?_
        refine AllReadyH.cons rfl (fun K hK => ?_) AllReadyH.nil
        go_simp
        refine hK.out _ _ (hS.set _ (by omega) (by omega) (by omega) (by omega)) (fun hS' => ?_)
        clear hK K
        replace hS := hS'
        clear hS'
        try simp only [Act.put, List.setIfInBounds_toArray, List.set_cons_zero, List.set_cons_succ]
        have Bi8 := Lib.hid (Bi7.out.setC rB)
        clear ga0 gaf
        refine wpAnyH_done (by kernel_rfl) ?_ _
        simp only [NormalQ]
        gi_wp2
        refine ⟨⟨?_, fun k o hk ho hc => ?_⟩, ⟨pre, ⟨⟨xn, xs, xx, xb⟩, hxt⟩, rfl, Hno.out, Hn.out, rfl, ?_⟩⟩
        · have := Hk5.out.size
          simp
          exact this
        · have h1 := (Hk5.out.block k (cell_lt_of ho)).trans ho
          rw [Below.heap_setCell _ _ _ _ (by dsimp only; omega), Below.heap_setCell _ _ _ _ (by dsimp only; omega), Below.heap_setCell _ _ _ _ (by dsimp only; omega)]
          exact h1
        · rw [HbP.out, HbQ.out, HbB.out]
          exact Bi8.out
      have d3 : (xx == px) = false := beq_eq_false_iff_ne.2 k2
      clear k1 k2
      gi_wp2
      refine round_quiet (by kernel_rfl) (by kernel_rfl) (by kernel_rfl) ?_
      repeat (go_big_quiet_step (fail))
      refine wpQuiet_nil ?_
      rintro _ ⟨nq, rfl⟩
      gi_wp2
      have bi1 := Bi.out.below (below_drewN (Below.refl W.heap.size W) nq).drew
      have hk1 := (below_drewN (Below.refl W.heap.size W) nq).drew
      have S6 := rf_at bi1.g0 6 _ rfl
      have S5 := rf_at bi1.g0 5 _ rfl
      have hS : S8 w.heap.size bE (oE + y) bC (oC + y * 2) Bx (.slice (some ⟨bE, oE, none⟩) s t) (.slice (some ⟨bC, oC, none⟩) s q) (.string sl) (.int .i64 px) (.string pb) (.string xs) (.int .i64 xx) (.string xb) ((W.drewN nq).drew) := ⟨⟨S6, S5⟩, ⟨q0, p0⟩, ⟨p1, y1⟩, y2, y3⟩
      clear S6 S5 x5 x6 y1 y2 y3 p0 p1 q0
      refine round_held (S := S8 w.heap.size bE (oE + y) bC (oC + y * 2) Bx (.slice (some ⟨bE, oE, none⟩) s t) (.slice (some ⟨bC, oC, none⟩) s q) (.string sl) (.int .i64 px) (.string pb) (.string xs) (.int .i64 xx) (.string xb)) (by kernel_rfl) (by kernel_rfl) ?_
      change wpAnyH _ _ _ _ _ _ _ _ ((W.drewN nq).drew)
      obtain ⟨W1, hW1⟩ : ∃ W1, W1 = (W.drewN nq).drew := ⟨_, rfl⟩
      rw [← hW1] at bi1 hk1 hS ⊢
      clear hW1
      have HWt := Lib.hid (fun W' h => wit_any sl px pb xs xx xb W' h)
      generalize witP sl (px, pb) xs (xx, xb) = rP at HbP HWt
      generalize witQ sl (px, pb) xs (xx, xb) = rQ at HbQ HWt
      generalize witB sl (px, pb) xs (xx, xb) = rB at HbB HWt
      have Bi1 := Lib.hid bi1
      have Hk1 := Lib.hid hk1
      clear bi1 hk1
      refine wpAnyH_take (i := 0) (v := .pointer (some ⟨w.heap.size, 6, none⟩)) rfl (by kernel_rfl) (by kernel_rfl) (by kernel_rfl) (fun _ _ _ h => h) (Or.inl ⟨by rfl, ?_⟩) hS ?_
      · intro W7 hSw
        unfold S8 at hSw
        go_simp
      try simp only [Act.put, List.setIfInBounds_toArray, List.set_cons_zero, List.set_cons_succ]
      refine wpAnyH_take (i := 1) (v := .slice (some ⟨bE, oE, none⟩) s t) rfl (by kernel_rfl) (by kernel_rfl) (by kernel_rfl) (fun _ _ _ h => h) (Or.inl ⟨by rfl, ?_⟩) hS ?_
      · intro W7 hSw
        unfold S8 at hSw
        go_simp
      try simp only [Act.put, List.setIfInBounds_toArray, List.set_cons_zero, List.set_cons_succ]
      refine wpAnyH_take (i := 2) (v := .int .i64 (y : Nat)) rfl (by kernel_rfl) (by kernel_rfl) (by kernel_rfl) (fun _ _ _ h => h) (Or.inl ⟨by rfl, ?_⟩) hS ?_
      · intro W7 hSw
        unfold S8 at hSw
        go_simp
      try simp only [Act.put, List.setIfInBounds_toArray, List.set_cons_zero, List.set_cons_succ]
      refine wpAnyH_take (i := 3) (v := .pointer (some ⟨bE, oE + y, none⟩)) rfl (by kernel_rfl) (by kernel_rfl) (by kernel_rfl) (fun _ _ _ h => h) (Or.inl ⟨by rfl, ?_⟩) hS ?_
      · intro W7 hSw
        unfold S8 at hSw
        go_simp
      try simp only [Act.put, List.setIfInBounds_toArray, List.set_cons_zero, List.set_cons_succ]
      refine wpAnyH_take (i := 4) (v := .string sl) rfl (by kernel_rfl) (by kernel_rfl) (by kernel_rfl) (fun _ _ _ h => h) (Or.inl ⟨by rfl, ?_⟩) hS ?_
      · intro W7 hSw
        unfold S8 at hSw
        go_simp
      try simp only [Act.put, List.setIfInBounds_toArray, List.set_cons_zero, List.set_cons_succ]
      refine wpAnyH_take (i := 5) (v := .pointer (some ⟨w.heap.size, 5, none⟩)) rfl (by kernel_rfl) (by kernel_rfl) (by kernel_rfl) (fun _ _ _ h => h) (Or.inl ⟨by rfl, ?_⟩) hS ?_
      · intro W7 hSw
        unfold S8 at hSw
        go_simp
      try simp only [Act.put, List.setIfInBounds_toArray, List.set_cons_zero, List.set_cons_succ]
      refine wpAnyH_take (i := 6) (v := .slice (some ⟨bC, oC, none⟩) s q) rfl (by kernel_rfl) (by kernel_rfl) (by kernel_rfl) (fun _ _ _ h => h) (Or.inl ⟨by rfl, ?_⟩) hS ?_
      · intro W7 hSw
        unfold S8 at hSw
        go_simp
      try simp only [Act.put, List.setIfInBounds_toArray, List.set_cons_zero, List.set_cons_succ]
      refine wpAnyH_take (i := 7) (v := .int .i64 (y : Nat)) rfl (by kernel_rfl) (by kernel_rfl) (by kernel_rfl) (fun _ _ _ h => h) (Or.inl ⟨by rfl, ?_⟩) hS ?_
      · intro W7 hSw
        unfold S8 at hSw
        go_simp
      try simp only [Act.put, List.setIfInBounds_toArray, List.set_cons_zero, List.set_cons_succ]
      refine wpAnyH_take (i := 8) (v := .pointer (some ⟨bC, oC + y * 2, none⟩)) rfl (by kernel_rfl) (by kernel_rfl) (by kernel_rfl) (fun _ _ _ h => h) (Or.inl ⟨by rfl, ?_⟩) hS ?_
      · intro W7 hSw
        unfold S8 at hSw
        go_simp
      try simp only [Act.put, List.setIfInBounds_toArray, List.set_cons_zero, List.set_cons_succ]
      refine wpAnyH_take (i := 9) (v := .agg #[.int .i64 px, .string pb]) rfl (by kernel_rfl) (by kernel_rfl) (by kernel_rfl) (fun _ _ _ h => h) (Or.inl ⟨by rfl, ?_⟩) hS ?_
      · intro W7 hSw
        unfold S8 at hSw
        go_simp
      try simp only [Act.put, List.setIfInBounds_toArray, List.set_cons_zero, List.set_cons_succ]
      refine wpAnyH_take (i := 10) (v := .pointer (some ⟨Bx, 1, none⟩)) rfl (by kernel_rfl) (by kernel_rfl) (by kernel_rfl) (fun _ _ _ h => h) (Or.inl ⟨by rfl, ?_⟩) hS ?_
      · intro W7 hSw
        unfold S8 at hSw
        go_simp
      try simp only [Act.put, List.setIfInBounds_toArray, List.set_cons_zero, List.set_cons_succ]
      refine wpAnyH_take (i := 11) (v := .string xs) rfl (by kernel_rfl) (by kernel_rfl) (by kernel_rfl) (fun _ _ _ h => h) (Or.inl ⟨by rfl, ?_⟩) hS ?_
      · intro W7 hSw
        unfold S8 at hSw
        go_simp
      try simp only [Act.put, List.setIfInBounds_toArray, List.set_cons_zero, List.set_cons_succ]
      refine wpAnyH_take (i := 12) (v := .pointer (some ⟨Bx, 2, none⟩)) rfl (by kernel_rfl) (by kernel_rfl) (by kernel_rfl) (fun _ _ _ h => h) (Or.inl ⟨by rfl, ?_⟩) hS ?_
      · intro W7 hSw
        unfold S8 at hSw
        go_simp
      try simp only [Act.put, List.setIfInBounds_toArray, List.set_cons_zero, List.set_cons_succ]
      refine wpAnyH_take (i := 13) (v := .agg #[.int .i64 xx, .string xb]) rfl (by kernel_rfl) (by kernel_rfl) (by kernel_rfl) (fun _ _ _ h => h) (Or.inl ⟨by rfl, ?_⟩) hS ?_
      · intro W7 hSw
        unfold S8 at hSw
        go_simp
      try simp only [Act.put, List.setIfInBounds_toArray, List.set_cons_zero, List.set_cons_succ]
      refine wpAnyH_ready (rs := [14]) (by kernel_rfl) (by simp) ?_
      refine AllReadyH.cons rfl (fun K hK => ?_) AllReadyH.nil
      go_simp
      refine (HWt.out _ (HR.out.below Bi1.out.hb)).mono ?_
      rintro e w5 ⟨rfl, hb5⟩
      refine hK.out _ _ (hS.below hb5) (fun hS' => ?_)
      clear hK K
      replace hS := hS'
      clear hS'
      try simp only [Act.put, List.setIfInBounds_toArray, List.set_cons_zero, List.set_cons_succ]
      have Bi5 := Lib.hid (Bi1.out.below hb5)
      have hk5 := (Hk1.out.trans (hb5.mono Hk1.out.size))
      have Hk5 := Lib.hid hk5
      clear hb5 hk5
      refine wpAnyH_take (i := 15) (v := .string rP) rfl (by kernel_rfl) (by kernel_rfl) (by kernel_rfl) (fun _ _ _ h => h) (Or.inl ⟨by rfl, ?_⟩) hS ?_
      · intro W7 hSw
        unfold S8 at hSw
        go_simp
      try simp only [Act.put, List.setIfInBounds_toArray, List.set_cons_zero, List.set_cons_succ]
      refine wpAnyH_take (i := 16) (v := .string rQ) rfl (by kernel_rfl) (by kernel_rfl) (by kernel_rfl) (fun _ _ _ h => h) (Or.inl ⟨by rfl, ?_⟩) hS ?_
      · intro W7 hSw
        unfold S8 at hSw
        go_simp
      try simp only [Act.put, List.setIfInBounds_toArray, List.set_cons_zero, List.set_cons_succ]
      refine wpAnyH_take (i := 17) (v := .bool rB) rfl (by kernel_rfl) (by kernel_rfl) (by kernel_rfl) (fun _ _ _ h => h) (Or.inl ⟨by rfl, ?_⟩) hS ?_
      · intro W7 hSw
        unfold S8 at hSw
        go_simp
      try simp only [Act.put, List.setIfInBounds_toArray, List.set_cons_zero, List.set_cons_succ]
      have ga0 := rf_at Bi5.out.g1 0 _ rfl
      have gaf := rf_fr Bi5.out.g1 0
      refine wpAnyH_ready (rs := [18]) (by kernel_rfl) (by simp) ?_
      refine AllReadyH.cons rfl (fun K hK => ?_) AllReadyH.nil
      go_simp
      refine hK.out _ _ (hS.set _ (by omega) (by omega) (by omega) (by omega)) (fun hS' => ?_)
      clear hK K
      replace hS := hS'
      clear hS'
      try simp only [Act.put, List.setIfInBounds_toArray, List.set_cons_zero, List.set_cons_succ]
      have Bi6 := Lib.hid (Bi5.out.setA rP)
      clear ga0 gaf
      have ga0 := rf_at Bi6.out.g2 0 _ rfl
      have gaf := rf_fr Bi6.out.g2 0
      refine wpAnyH_ready (rs := [19]) (by kernel_rfl) (by simp) ?_
      refine AllReadyH.cons rfl (fun K hK => ?_) AllReadyH.nil
      go_simp
      refine hK.out _ _ (hS.set _ (by omega) (by omega) (by omega) (by omega)) (fun hS' => ?_)
      clear hK K
      replace hS := hS'
      clear hS'
      try simp only [Act.put, List.setIfInBounds_toArray, List.set_cons_zero, List.set_cons_succ]
      have Bi7 := Lib.hid (Bi6.out.setB rQ)
      clear ga0 gaf
      have ga0 := rf_at Bi7.out.g3 0 _ rfl
      have gaf := rf_fr Bi7.out.g3 0
      refine wpAnyH_ready (rs := [20]) (by kernel_rfl) (by simp) ?_
      refine AllReadyH.cons rfl (fun K hK => ?_) AllReadyH.nil
      go_simp
      refine hK.out _ _ (hS.set _ (by omega) (by omega) (by omega) (by omega)) (fun hS' => ?_)
      clear hK K
      replace hS := hS'
      clear hS'
      try simp only [Act.put, List.setIfInBounds_toArray, List.set_cons_zero, List.set_cons_succ]
      have Bi8 := Lib.hid (Bi7.out.setC rB)
      clear ga0 gaf
      refine wpAnyH_done (by kernel_rfl) ?_ _
      simp only [NormalQ]
      gi_wp2
      refine ⟨⟨?_, fun k o hk ho hc => ?_⟩, ⟨pre, ⟨⟨xn, xs, xx, xb⟩, hxt⟩, rfl, Hno.out, Hn.out, rfl, ?_⟩⟩
      · have := Hk5.out.size
        simp
        exact this
      · have h1 := (Hk5.out.block k (cell_lt_of ho)).trans ho
        rw [Below.heap_setCell _ _ _ _ (by dsimp only; omega), Below.heap_setCell _ _ _ _ (by dsimp only; omega), Below.heap_setCell _ _ _ _ (by dsimp only; omega)]
        exact h1
      · rw [HbP.out, HbQ.out, HbB.out]
        exact Bi8.out

  case done =>
    rintro D1 ys W hD hys ⟨hno, bi⟩ hK
    have Hres := Lib.hid (blamed_none (D := D) (ls := ls) (by rw [← hys]; exact hno))
    have Bi := Lib.hid bi
    have HK := Lib.hid hK
    have hD8 : w.heap.size + 8 ≤ D1 := by omega
    have ga0 := rf_at bi.g1 0 _ rfl
    have gaf := rf_fr bi.g1 0
    have gb0 := rf_at (bi.setA ⟨#[]⟩).g2 0 _ rfl
    have gbf := rf_fr (bi.setA ⟨#[]⟩).g2 0
    have gc0 := rf_at ((bi.setA ⟨#[]⟩).setB ⟨#[]⟩).g3 0 _ rfl
    have gcf := rf_fr ((bi.setA ⟨#[]⟩).setB ⟨#[]⟩).g3 0
    clear bi hK hys hno
    gi_wp2
    refine blame_end ((((Bi.out.setA ⟨#[]⟩).setB ⟨#[]⟩).setC false)) hD8 ?_ _ rfl rfl rfl (fun W' hW' => ?_)
    · rw [Below.heap_setCell _ _ _ _ (by dsimp only; omega), Below.heap_setCell _ _ _ _ (by dsimp only; omega), Below.heap_setCell _ _ _ _ (by dsimp only; omega)]
      exact HK.out
    · rw [Hres.out]
      exact ⟨hW', rfl⟩
  case stop =>
    rintro D1 cd pre W hD hpre hX hK
    obtain ⟨p0, x, rfl, hno, hyes, rfl, bi⟩ := hX.ex
    have Hres := Lib.hid (blamed_some hpre hno hyes)
    have Bi := Lib.hid bi
    have HK := Lib.hid hK
    have hD8 : w.heap.size + 8 ≤ D1 := by omega
    clear bi hK hno hyes hpre hX
    gi_wp2
    refine blame_end Bi.out hD8 HK.out _ rfl rfl rfl (fun W' hW' => ?_)
    rw [Hres.out]
    exact ⟨hW', rfl⟩
end

section
open Go.RowKit
set_option linter.unusedVariables false

def picks (ws : List Bool) (i : Nat) : List Nat := (List.range i).filter fun j => ws.getD j false
theorem picks_len (ws : List Bool) (i : Nat) : (picks ws i).length ≤ i := by
  have := List.length_filter_le (fun j => ws.getD j false) (List.range i)
  simpa [picks] using this
theorem picks_yes {ws : List Bool} {i : Nat} (h : ws.getD i false = true) : picks ws (i + 1) = picks ws i ++ [i] := by
  unfold picks
  rw [List.range_succ, List.filter_append]
  congr 1
  rw [List.filter_cons, if_pos h]
  rfl
theorem picks_no {ws : List Bool} {i : Nat} (h : ws.getD i false = false) : picks ws (i + 1) = picks ws i := by
  unfold picks
  rw [List.range_succ, List.filter_append]
  rw [List.filter_cons, if_neg (by rw [h]; simp)]
  simp
def allA (D : Deal) (ls : List Ans) (ws : List Bool) (i : Nat) : List Ans := ls ++ (picks ws i).map (ansD D)
theorem allA_len (D : Deal) (ls : List Ans) (ws : List Bool) (i : Nat) : (allA D ls ws i).length = ls.length + (picks ws i).length := by simp [allA]
theorem allA_yes {D : Deal} {ls : List Ans} {ws : List Bool} {i : Nat} (h : ws.getD i false = true) : allA D ls ws (i + 1) = allA D ls ws i ++ [ansD D i] := by
  unfold allA
  rw [picks_yes h, List.map_append, ← List.append_assoc]
  rfl
theorem allA_no {D : Deal} {ls : List Ans} {ws : List Bool} {i : Nat} (h : ws.getD i false = false) : allA D ls ws (i + 1) = allA D ls ws i := by
  unfold allA
  rw [picks_no h]
theorem picks_hits {D : Deal} {m : Nat} {t : List UInt8} (g : Good D m t) (ls : List Ans) (ws : List Bool) {i : Nat} (hi : i ≤ D.r.ns.length) : (picks ws i).length ≤ (hits D.r (allA D ls ws i) D.r.ns.length).length := by
  unfold hits
  have h1 : (picks ws i).length ≤ ((List.range i).filter (hit D.r (allA D ls ws i))).length := by
    unfold picks
    rw [← List.countP_eq_length_filter, ← List.countP_eq_length_filter]
    refine List.countP_mono_left fun j hj hw => ?_
    have hji := List.mem_range.1 hj
    refine hit_of (a := ansD D j) ?_ (fit_own g (by omega)) rfl
    unfold allA picks
    exact List.mem_append.2 (.inr (List.mem_map.2 ⟨j, List.mem_filter.2 ⟨hj, hw⟩, rfl⟩))
  refine Nat.le_trans h1 ?_
  rw [← List.countP_eq_length_filter, ← List.countP_eq_length_filter]
  exact (List.range_sublist.2 hi).countP_le
theorem opens_law {D : Deal} {m : Nat} {t : List UInt8} (g : Good D m t) (ls : List Ans) (ws : List Bool) {i : Nat} (hi : i ≤ D.r.ns.length) (hk : ¬ ((picks ws i).length : Int) < D.r.k) {nonce master : ByteArray} (hw : wrapE D.sec nonce master = 0) :
    (unlE D.r (allA D ls ws i) (wrapS D.sec nonce master) = 0 ∧ unlS D.r (allA D ls ws i) (wrapS D.sec nonce master) = master) ∨
    ∃ a, blamed D (allA D ls ws i) = some a ∧ blB D a = true ∧ blP D a ≠ blQ D a ∧ bs (sumL (blP D a).data.toList) = bs (sumL (blQ D a).data.toList) := by
  rcases dealt_or (D := D) (ls := allA D ls ws i) with h | ⟨a, h1, h2, h3⟩
  · left
    refine opens g h ?_ hw
    have := picks_hits g ls ws hi
    have hkk := g.kk
    omega
  · exact .inr ⟨a, h1, blamed_shows g h2 h3⟩
theorem wit_size (s : ByteArray) (p : Shr) (o : ByteArray) (q : Shr) : (witP s p o q).size ≤ 1000 ∧ (witQ s p o q).size ≤ 1000 := by
  unfold witP witQ
  cases h : witB s p o q with
  | false => exact ⟨by rw [if_neg (by simp)]; exact Nat.zero_le _, by rw [if_neg (by simp)]; exact Nat.zero_le _⟩
  | true =>
    rw [if_pos rfl, if_pos rfl]
    have h2 := h
    unfold witB at h2
    simp only [Bool.and_eq_true] at h2
    obtain ⟨a1, a2, a3, a4⟩ := bright_is h2.1.1.1
    obtain ⟨b1, b2, b3, b4⟩ := bright_is h2.1.1.2
    have hpt : pledgeT.size = 6 := rfl
    constructor
    · simp only [btextB, ByteArray.size_append, bs_size, List.length_cons, List.length_nil, a1, a4, hpt]; omega
    · simp only [btextB, ByteArray.size_append, bs_size, List.length_cons, List.length_nil, b1, b4, hpt]; omega
end

section
open Go.RowKit
set_option linter.unusedVariables false
set_option linter.unusedSimpArgs false
set_option maxRecDepth 20000

def startC (c : ByteArray) : Plat := (startH (sumB c)).1
theorem startC_zero (c : ByteArray) : (startH (sumB c)).2 = 0 := (start_fresh (sumB_size c)).1
theorem startC_fresh (c : ByteArray) : Fresh (startC c) (sumB c) := (start_fresh (sumB_size c)).2
theorem cred_len {c : ByteArray} (h : c.size ≤ 1000000000) : (sumB c).size = 32 := by
  unfold sumB
  rw [if_pos h]
  exact sumL_len _
theorem startC_old (c : ByteArray) (hc : c.size ≤ 1000000000) (n : Nat) {i : Nat} (hi : i < n) {g : Gift} (hg : g.e = 1) : OldD g (sumB c) ((List.replicate n (startC c)).getD i noPlat) := by
  rw [List.getD_eq_getElem?_getD, List.getElem?_replicate, if_pos hi]
  exact fresh_old (startC_fresh c) (cred_len hc) hg
theorem whole_spread {seed : ByteArray} {ns : List ByteArray} {k e : Int} (h : cOK seed ns k e = true) {cred : ByteArray} {l : List Plat} (hl : l.length = ns.length) (ho : ∀ i, i < ns.length → ∀ g : Gift, g.e = e → OldD g cred (l.getD i noPlat)) :
    ∃ L, spreadC (dealC seed ns k e) l (-1) = (L, true, 0) ∧ L.length = ns.length ∧ ∀ i, i < ns.length → (giftD (dealC seed ns k e) i).ok ∧ (giftD (dealC seed ns k e) i).e = e ∧ CommZ (giftD (dealC seed ns k e) i) cred (L.getD i noPlat) := by
  obtain ⟨m, hm, hm1, h16, _, hgd, he, hns⟩ := cOK_good h
  generalize dealC seed ns k e = D at hgd he hns ⊢
  have hgo : ∀ i, i < ns.length → (giftD D i).ok := fun i hi => good_gift hgd (by rw [hns]; exact hi)
  obtain ⟨L, done, s1, s2, s3, s4, _⟩ := spread_crash (g := giftD D) (cred := cred) (l := l) (fun i hi => hgo i (by rw [← hl]; exact hi)) (fun i hi => ho i (by rw [← hl]; exact hi) _ he) (-1)
  have hd := s3 (by omega)
  subst hd
  refine ⟨L, ?_, by rw [s2, hl], fun i hi => ⟨hgo i hi, he, s4 rfl i (by rw [hl]; exact hi)⟩⟩
  unfold spreadC
  rw [if_pos ⟨good_right hgd, by rw [hl, hns]⟩]
  exact s1
theorem row_one (P : Plat) (a : Int × ByteArray) : rowP P (-1) [a] = rowL [a] P ((4 : Nat) : Int) := by
  unfold rowP
  congr 1
theorem comm_ask {g : Gift} {cred : ByteArray} {P : Plat} (hg : g.ok) (h : CommZ g cred P) : ∃ Q, askH P cred (-1) = ⟨g.x, g.b, g.salt, Q, 0⟩ := by
  have hget := comm_gets hg h
  have hx := hg.fit.1
  have h1 : (nowB { hold g.e 0 g.x g.b g.salt cred with tries := 0 + 1 }).size ≤ 128 := now_size (h := hold g.e 1 g.x g.b g.salt cred) (hold_good ⟨hg.e0, hg.e1⟩ ⟨by omega, by omega⟩ hg.fit h.2)
  have h2 : (nowB { hold g.e 0 g.x g.b g.salt cred with tries := 0 }).size ≤ 128 := now_size (h := hold g.e 0 g.x g.b g.salt cred) (hold_good ⟨hg.e0, hg.e1⟩ ⟨by omega, by omega⟩ hg.fit h.2)
  generalize hs1 : nowB { hold g.e 0 g.x g.b g.salt cred with tries := 0 + 1 } = s1 at h1
  generalize hs2 : nowB { hold g.e 0 g.x g.b g.salt cred with tries := 0 } = s2 at h2
  obtain ⟨X, x1, x2, _⟩ := hs_row [(0, s1)] P _ _ h.1 (fun c hc => by rw [List.mem_singleton] at hc; subst hc; exact ⟨.inl rfl, h1⟩) 4 (by simp)
  have hX := x2 rfl
  obtain ⟨Y, y1, _, _⟩ := hs_row [(0, s2)] X _ _ hX (fun c hc => by rw [List.mem_singleton] at hc; subst hc; exact ⟨.inl rfl, h2⟩) 4 (by simp)
  have x1' : rowP P (-1) [(0, s1)] = (X, 0) := by rw [row_one, x1]; rfl
  have y1' : rowP X (-1) [(0, s2)] = (Y, 0) := by rw [row_one, y1]; rfl
  refine ⟨Y, ?_⟩
  unfold askH
  rw [hget, if_neg (by simp), if_neg (show ¬ (hold g.e 0 g.x g.b g.salt cred, (0 : Int)).1.x = 0 from (by show ¬ g.x = 0; omega)), if_neg (show ¬ (5 : Int) ≤ (hold g.e 0 g.x g.b g.salt cred, (0 : Int)).1.tries from (by show ¬ (5 : Int) ≤ 0; omega))]
  simp only
  rw [show nowB { hold g.e 0 g.x g.b g.salt cred with tries := (hold g.e 0 g.x g.b g.salt cred).tries + 1 } = s1 from hs1, x1']
  simp only [ne_eq, not_true_eq_false, if_false]
  rw [if_neg (show ¬ ¬ (hold g.e 0 g.x g.b g.salt cred).cred = cred from fun e => e rfl), if_neg (show ¬ (4 : Int) ≤ -1 by omega), hs2, y1']
  simp only [ne_eq, not_true_eq_false, if_false]
  rfl
end

section
open Go.RowKit Go.ChangeShapes Go.WideShapes Go.Deep
set_option linter.unusedVariables false
set_option maxRecDepth 100000

theorem oa_add_none {x : Addr} (h : x.spot = none) (k : Nat) : x.add k = ⟨x.block, x.off + k, none⟩ := by
  unfold Addr.add
  split
  · rename_i h0; subst h0; obtain ⟨b, o, sp⟩ := x; simp_all
  · obtain ⟨b, o, sp⟩ := x; simp_all
theorem answersV_len (l : List Ans) : (answersV l).length = l.length * 4 := by
  induction l with
  | nil => rfl
  | cons a l ih => rw [answersV_cons, List.length_append, ih, List.length_cons]; simp [ansV]; omega
theorem rd_of_ans {w : World} {x : Addr} (V : Nat → Ans) (l : Nat) (h : ∀ i, i < l → w.cell? (x.add (i * 4 + 0)) = some (.string (V i).nm) ∧ w.cell? (x.add (i * 4 + 1)) = some (.string (V i).salt) ∧ w.cell? (x.add (i * 4 + 2)) = some (.int .i64 (V i).x) ∧ w.cell? (x.add (i * 4 + 3)) = some (.string (V i).b)) : Rd w (some x) (answersV ((List.range l).map V)) := by
  intro q u hu
  have hq : q < l * 4 := by
    have := (List.getElem?_eq_some_iff.1 hu).1
    rw [answersV_len] at this
    simpa using this
  have hs : x.spot = none := by
    have h0 := (h 0 (by omega)).1
    unfold World.cell? at h0
    obtain ⟨b, o, sp⟩ := x
    cases sp with
    | none => rfl
    | some v => simp only [Addr.add] at h0; split at h0 <;> simp at h0
  refine ⟨x.block, x.off, by rw [← hs], ?_⟩
  have hi : q / 4 < l := by omega
  obtain ⟨c0, c1, c2, c3⟩ := h (q / 4) hi
  obtain ⟨g0, g1, g2, g3⟩ := answersV_at ((List.range l).map V) (q / 4) (V (q / 4)) (by simp [hi])
  rw [oa_add_none hs] at c0 c1 c2 c3
  have hm : q % 4 = 0 ∨ q % 4 = 1 ∨ q % 4 = 2 ∨ q % 4 = 3 := by omega
  rcases hm with hm | hm | hm | hm
  · rw [show q / 4 * 4 = q by omega, hu] at g0
    rw [show q / 4 * 4 + 0 = q by omega] at c0
    rw [Option.some.inj g0]; exact c0
  · rw [show q / 4 * 4 + 1 = q by omega, hu] at g1
    rw [show q / 4 * 4 + 1 = q by omega] at c1
    rw [Option.some.inj g1]; exact c1
  · rw [show q / 4 * 4 + 2 = q by omega, hu] at g2
    rw [show q / 4 * 4 + 2 = q by omega] at c2
    rw [Option.some.inj g2]; exact c2
  · rw [show q / 4 * 4 + 3 = q by omega, hu] at g3
    rw [show q / 4 * 4 + 3 = q by omega] at c3
    rw [Option.some.inj g3]; exact c3
theorem open_answers {H : Type} {enc : TypeId × Value → H} {W : World} {base : Nat} {spare : Nat → Bool} {held : Bool} {a : Option Addr} {len cap : Nat} {d : DataW H} {p : List MemPlace} (h : DataW.Trod enc Tryz.prog W base spare held 40 (.slice a len cap) d p) :
    ∃ zs : List Ans, len = zs.length ∧ zs.length ≤ maxLen ∧ Rd W a (answersV zs) ∧ ∀ o ∈ zs, o.nm.size ≤ maxLen ∧ o.salt.size ≤ maxLen ∧ o.b.size ≤ maxLen := by
  obtain ⟨fuel, hf⟩ := h
  rcases open_slice Tryz.underlying40 hf with ⟨hcs, _⟩ | ⟨x, l, c, m, n, D, Pl, hcs, _, hl, hm, hmm, _, hi⟩
  · simp [Value.cells] at hcs
    obtain ⟨rfl, rfl, rfl⟩ := hcs
    exact ⟨[], rfl, Nat.zero_le _, Rd.nil _ _, by simp⟩
  · simp [Value.cells] at hcs
    obtain ⟨rfl, rfl, rfl⟩ := hcs
    have hml : len ≤ m := by rw [hmm]; split <;> omega
    have hC : Tryz.prog.cellsOf 45 = 4 := by kernel_rfl
    have hC1 : Tryz.prog.cellsOf 9 = 1 := by kernel_rfl
    have hC2 : Tryz.prog.cellsOf 43 = 2 := by kernel_rfl
    have hC3 : Tryz.prog.cellsOf 3 = 1 := by kernel_rfl
    rw [hC] at hi
    have key : ∀ i, ∃ o : Ans, i < len → (W.cell? (x.add (i * 4 + 0)) = some (.string o.nm) ∧ W.cell? (x.add (i * 4 + 1)) = some (.string o.salt) ∧ W.cell? (x.add (i * 4 + 2)) = some (.int .i64 o.x) ∧ W.cell? (x.add (i * 4 + 3)) = some (.string o.b)) ∧ o.nm.size ≤ maxLen ∧ o.salt.size ≤ maxLen ∧ o.b.size ≤ maxLen := fun i => by
      by_cases hil : i < len
      · obtain ⟨cs', hc, ht'⟩ := hi i (by omega)
        obtain ⟨_, hcl, hat⟩ := World.cells?_some hc
        obtain ⟨y0, y1, y2, n', _, _, t0, t1, t2⟩ := trod_struct3 Tryz.underlying45 ht'
        match cs', hcl with
        | [v0, v1, v2, v3], _ =>
          simp only [hC1, hC2, List.drop_zero, List.drop_succ_cons, List.take_succ_cons, List.take_zero] at t0 t1 t2
          obtain ⟨z0, z1, n2, _, _, s0, s1⟩ := trod_struct2 Tryz.underlying43 t2
          simp only [hC1, hC3, List.drop_zero, List.drop_succ_cons, List.take_succ_cons, List.take_zero] at s0 s1
          obtain ⟨x0, hx0, _, h0⟩ := DataW.trod_string Tryz.underlying9 t0
          obtain ⟨x1, hx1, _, h1⟩ := DataW.trod_string Tryz.underlying9 t1
          obtain ⟨x2, hx2, _, _⟩ := DataW.trod_int Tryz.underlying3 s0
          obtain ⟨x3, hx3, _, h3⟩ := DataW.trod_string Tryz.underlying9 s1
          obtain rfl : v0 = .string x0 := by simpa using hx0
          obtain rfl : v1 = .string x1 := by simpa using hx1
          obtain rfl : v2 = .int .i64 x2 := by simpa using hx2
          obtain rfl : v3 = .string x3 := by simpa using hx3
          have c0 := hat 0 (by simp)
          have c1 := hat 1 (by simp)
          have c2 := hat 2 (by simp)
          have c3 := hat 3 (by simp)
          rw [Go.Deep.add_add] at c0 c1 c2 c3
          exact ⟨⟨x0, x1, x2, x3⟩, fun _ => ⟨⟨c0, c1, c2, c3⟩, h0, h1, h3⟩⟩
      · exact ⟨⟨⟨#[]⟩, ⟨#[]⟩, 0, ⟨#[]⟩⟩, fun h => absurd h hil⟩
    refine ⟨(List.range len).map fun i => Classical.choose (key i), by simp, by simp; omega, rd_of_ans _ len (fun i hil => (Classical.choose_spec (key i) hil).1), fun o ho => ?_⟩
    obtain ⟨i, hir, rfl⟩ := List.mem_map.1 ho
    exact (Classical.choose_spec (key i) (List.mem_range.1 hir)).2
def boolsV (l : List Bool) : List Value := l.map Value.bool
theorem open_flags {H : Type} {enc : TypeId × Value → H} {W : World} {base : Nat} {held : Bool} {a : Option Addr} {len cap : Nat} {d : DataW H} {p : List MemPlace} (h : DataW.Trod enc Tryz.prog W base (fun _ => true) held 41 (.slice a len cap) d p) :
    ∃ zs : List Bool, len = zs.length ∧ zs.length ≤ maxLen ∧ Rd W a (boolsV zs) := by
  obtain ⟨fuel, hf⟩ := h
  rcases open_bools Tryz.underlying41 Tryz.underlying4 (by kernel_rfl) hf with ⟨hcs, _⟩ | ⟨x, l, c, B, hcs, _, hl, hm, _, hcell⟩
  · simp [Value.cells] at hcs
    obtain ⟨rfl, rfl, rfl⟩ := hcs
    exact ⟨[], rfl, Nat.zero_le _, Rd.nil _ _⟩
  · simp [Value.cells] at hcs
    obtain ⟨rfl, rfl, rfl⟩ := hcs
    refine ⟨(List.range len).map B, by simp, by simp; omega, fun q u hu => ?_⟩
    have hq : q < len := by
      have := (List.getElem?_eq_some_iff.1 hu).1
      simpa [boolsV] using this
    have hs : x.spot = none := by
      have h0 := hcell 0 (by omega)
      unfold World.cell? at h0
      obtain ⟨b, o, sp⟩ := x
      cases sp with
      | none => rfl
      | some v => simp only [Addr.add] at h0; split at h0 <;> simp at h0
    refine ⟨x.block, x.off, by rw [← hs], ?_⟩
    have hc := hcell q (by omega)
    rw [oa_add_none hs] at hc
    rw [hc]
    have : (boolsV ((List.range len).map B))[q]? = some (.bool (B q)) := by simp [boolsV, hq]
    rw [this] at hu
    exact hu
end

section
open Go.RowKit
set_option linter.unusedVariables false
set_option linter.unusedSimpArgs false
set_option maxRecDepth 100000
set_option maxHeartbeats 8000000

theorem short_any (A : Option Addr) (n c : Nat) (l : List ByteArray) (w : World) (hr : Rd w A (textsV l)) (hn : n = l.length) (hn9 : n ≤ maxLen) :
    Calls Tryz.prog 5 #[.slice A n c] w fun e w' => ∃ b, e = .returned (.bool b) ∧ (b = true → ∀ x ∈ l, x.size ≤ 200) ∧ w' = w := by
  have HR := Lib.hid hr
  have HN := Lib.hid hn
  unfold maxLen at hn9
  clear hr hn
  go_enter Tryz.func5, Tryz.ntmps5
  go_wp2_with fail
  go_loopw [3] (fun x wr => ∃ k : Nat, k ≤ n ∧ x = .int .i64 (k : Nat) ∧ (∀ j (hj : j < l.length), j < k → l[j].size ≤ 200) ∧ wr = w) (fun x _ => n - (intOf x).toNat)
  case atStart => exact ⟨0, by omega, rfl, fun j _ h => by omega, rfl⟩
  case round =>
    obtain ⟨k, hk, rfl, hs, rfl⟩ := hrel
    have HS := Lib.hid hs
    clear hs
    by_cases hlt : k < n
    · have d1 : decide ((k : Int) < (n : Int)) = true := by simp; omega
      have e1 : (k : Int) < (n : Int) := by omega
      have hkl : k < l.length := by rw [← HN.out]; exact hlt
      obtain ⟨b, off, rfl, c1⟩ := texts_at HR.out hkl
      have HX := Lib.hid (show l[k].size ≤ 200 → ∀ j (hj : j < l.length), j < k + 1 → l[j].size ≤ 200 from fun hb j hj hjk => by
        by_cases e : j < k
        · exact HS.out j hj e
        · obtain rfl : j = k := by omega
          exact hb)
      generalize l[k] = t at c1 HX
      by_cases hz : (200 : Int) < (t.size : Int)
      · have d3 : (t.size : Int) > 200 := hz
        go_wp2_with fail
        go_ret
        exact ⟨false, rfl, fun h => Bool.noConfusion h, rfl⟩
      · have d3 : ¬ (t.size : Int) > 200 := hz
        have HZ := Lib.hid (HX.out (by omega))
        go_wp2_with fail
        go_roundw
        case rel => exact ⟨k + 1, by omega, by go_num, HZ.out, by trivial⟩
        case measure => simp [intOf]; omega
    · obtain rfl : k = n := by omega
      have d1 : decide ((k : Int) < (k : Int)) = false := by simp
      go_wp2_with fail
      go_ret
      exact ⟨true, rfl, fun _ x hx => by
        obtain ⟨j, hj, rfl⟩ := List.mem_iff_getElem.1 hx
        exact HS.out j hj (by rw [HN.out]; exact hj), rfl⟩
theorem fewT_any (A : Option Addr) (n c : Nat) (l : List ByteArray) (w : World) (hr : Rd w A (textsV l)) (hn : n = l.length) (hn9 : n ≤ maxLen) :
    Calls Tryz.prog 6 #[.slice A n c] w fun e w' => ∃ b, e = .returned (.bool b) ∧ (b = true → n ≤ 6 ∧ ∀ x ∈ l, x.size ≤ 200) ∧ w' = w := by
  have HS := Lib.hid (short_any A n c l w hr hn hn9)
  unfold maxLen at hn9
  clear hr hn
  by_cases h6 : n ≤ 6
  · have d1 : decide ((n : Int) ≤ 6) = true := by simp; omega
    go_enter Tryz.func6, Tryz.ntmps6
    go_wp2_with fail
    refine HS.out.mono ?_
    rintro e w1 ⟨b, rfl, hb, hw⟩
    subst w1
    have HBb := Lib.hid hb
    clear hb
    go_wp2_with fail
    go_ret
    exact ⟨b, rfl, fun h => ⟨h6, HBb.out h⟩, rfl⟩
  · have d1 : decide ((n : Int) ≤ 6) = false := by simp; omega
    go_enter Tryz.func6, Tryz.ntmps6
    go_wp2_with fail
    go_ret
    exact ⟨false, rfl, fun h => Bool.noConfusion h, rfl⟩
theorem startsT_any (n : Nat) (cred : ByteArray) (w : World) (hn : n ≤ 100000) (hR : Rounds w) :
    Calls Tryz.prog 11 #[.int .i64 (n : Nat), .string cred] w fun E w' => ∃ A cap l, E = .returned (.slice A n cap) ∧ OwnD w' w.heap.size A n cap l ∧ plats l = List.replicate n (startC cred) ∧ Below w.heap.size w w' := by
  have HS := Lib.hid (show ∀ W, Rounds W → Calls Tryz.prog 25 #[.string cred] W (PlR W ((startC cred), 0)) from fun W h => by
    have := hstart_any cred W h
    rw [show startH (sumB cred) = ((startC cred), 0) from by rw [← startC_zero cred]; rfl] at this
    exact this)
  have HR := Lib.hid hR
  clear hR
  go_enter Tryz.func11, Tryz.ntmps11
  go_wp2_with fail
  go_loopw [5, 6] (fun v x wr => ∃ (k : Nat) (A : Option Addr) (cap : Nat) (l : List Dk), k ≤ n ∧ x = .int .i64 (k : Nat) ∧ v = .slice A k cap ∧ OwnD wr w.heap.size A k cap l ∧ plats l = List.replicate k (startC cred) ∧ Below w.heap.size w wr) (fun _ x _ => n - (intOf x).toNat)
  case atStart => exact ⟨0, none, 0, [], by omega, rfl, rfl, OwnD.nil _ _, rfl, Below.refl _ _⟩
  case round =>
    obtain ⟨k, A, cap, l, hk, rfl, rfl, ho, hp, hB⟩ := hrel
    have HO := Lib.hid ho
    have HP := Lib.hid hp
    have HB := Lib.hid hB
    clear ho hp hB
    by_cases hlt : k < n
    · have e1 : (k : Int) < (n : Int) := by omega
      go_wp2_with fail
      refine (HS.out _ (HR.out.below HB.out)).mono ?_
      rintro E w1 ⟨v, rfl, hv, hb⟩
      obtain ⟨xA, xn, xc, xB, xm, xd, rfl, hpb⟩ := hv
      have hO1 := HO.out.below hb
      have hB1 := HB.out.trans (hb.mono HB.out.size)
      have al := (Below.refl w1.heap.size w1).alloc (Nat.le_refl _) (.cells #[.slice xA xn xc, .slice xB xm xd] 68)
      have hO2 := Lib.hid (hO1.below al)
      have hB2 := Lib.hid (hB1.alloc hB1.size (.cells #[.slice xA xn xc, .slice xB xm xd] 68))
      have hP2 := Lib.hid (hpb.below al)
      have HX := Lib.hid (heap_alloc_new w1 (.cells #[.slice xA xn xc, .slice xB xm xd] 68))
      obtain ⟨u, hu⟩ : ∃ u, u = w1.alloc (.cells #[.slice xA xn xc, .slice xB xm xd] 68) := ⟨_, rfl⟩
      have Hu := Lib.hid hu
      rw [← hu] at hO2 hB2 hP2 HX
      clear hb al hu hO1 hB1 hpb HO HB
      go_upto_region 6 with fail
      rw [← Hu.out]
      clear Hu
      generalize w1.heap.size = gx at *
      obtain ⟨x0, x1, _, _⟩ := two_cells HX.out
      have hba := (Below.refl u.heap.size u).alloc (Nat.le_refl _) (.cells #[.slice xA xn xc, .slice xB xm xd] 68)
      have HO3 := Lib.hid (hO2.out.below hba)
      have HP3 : Hid ((⟨xA, xn, xc, xB, xm, xd, (startC cred)⟩ : Dk).ok (u.alloc (.cells #[.slice xA xn xc, .slice xB xm xd] 68))) := Lib.hid (PB.below hP2.out hba)
      have HB3 := Lib.hid (hB2.out.trans (hba.mono hB2.out.size))
      have HY := Lib.hid (heap_alloc_new u (.cells #[.slice xA xn xc, .slice xB xm xd] 68))
      clear hba
      go_wp2_with (at_builtin; refine wpList_append_dk (by rfl) (.tmp 19) (.tmp 21) (by rfl) _ (by rfl) HO3.out ⟨xA, xn, xc, xB, xm, xd, (startC cred)⟩ HP3.out u.heap.size (by rfl) 68 HY.out (by omega) HB3.out.size ?_; intro g cap' w4 ho4 hg4 hlt4)
      have hB4 : Below w.heap.size w w4 := by
        refine ⟨hg4.os.trans HB3.out.os, hg4.tape.trans HB3.out.tape, hg4.output.trans HB3.out.output, Nat.le_trans HB3.out.size hg4.size, fun k hk => (hg4.block k (Nat.lt_of_lt_of_le hk HB3.out.size) fun e => ?_).trans (HB3.out.block k hk)⟩
        have := (HO3.out.os.lt k e.symm).1
        omega
      go_roundw
      case rel => exact ⟨k + 1, _, _, l ++ [⟨xA, xn, xc, xB, xm, xd, (startC cred)⟩], by omega, by go_num, rfl, ho4, by rw [plats, List.map_append, ← plats, HP.out, List.replicate_succ']; rfl, hB4⟩
      case measure => simp [intOf]; omega
    · obtain rfl : k = n := by omega
      have e1 : ¬ (k : Int) < (k : Int) := by omega
      go_wp2_with fail
      go_ret
      exact ⟨_, _, rfl, l, HO.out, HP.out, HB.out⟩
theorem shown_any (a b : ByteArray) (ok : Bool) (w : World) (hR : Rounds w) (ha : a.size ≤ 1000000000) (hb : b.size ≤ 1000000000) :
    Calls Tryz.prog 17 #[.string a, .string b, .bool ok] w fun e w' => ∃ r, e = .returned (.bool r) ∧ (ok = true ∧ a ≠ b ∧ bs (sumL a.data.toList) = bs (sumL b.data.toList) → r = true) ∧ Below w.heap.size w w' := by
  have HR := Lib.hid hR
  have HSa := Lib.hid (fun W h => sum_any a W h ha)
  have HSb := Lib.hid (fun W h => sum_any b W h hb)
  clear hR ha hb
  generalize bs (sumL a.data.toList) = sa at HSa ⊢
  generalize bs (sumL b.data.toList) = sb at HSb ⊢
  cases ok with
  | false =>
    go_enter Tryz.func17, Tryz.ntmps17
    go_wp2_with fail
    go_ret
    exact ⟨false, rfl, fun h => Bool.noConfusion h.1, Below.refl _ _⟩
  | true =>
  by_cases hab : a = b
  · have d1 : (a.toList == b.toList) = true := by rw [hab]; exact beq_self_eq_true _
    have Hab := Lib.hid hab
    clear hab
    go_enter Tryz.func17, Tryz.ntmps17
    go_wp2_with fail
    go_ret
    exact ⟨false, rfl, fun h => absurd Hab.out h.2.1, Below.refl _ _⟩
  · have d1 : (a.toList == b.toList) = false := text_ne' hab
    clear hab
    go_enter Tryz.func17, Tryz.ntmps17
    go_wp2_with fail
    refine (HSa.out _ HR.out).mono ?_
    rintro e w1 ⟨rfl, hb1⟩
    have HB1 := Lib.hid hb1
    clear hb1
    go_wp2_with fail
    refine (HSb.out _ (HR.out.below HB1.out)).mono ?_
    rintro e w2 ⟨rfl, hb2⟩
    have HB2 := Lib.hid (Below.chain HB1.out hb2)
    clear hb2
    by_cases hs : sa = sb
    · have d2 : (sa.toList == sb.toList) = true := by rw [hs]; exact beq_self_eq_true _
      clear hs
      go_wp2_with fail
      go_ret
      exact ⟨true, rfl, fun _ => rfl, HB2.out⟩
    · have d2 : (sa.toList == sb.toList) = false := text_ne' hs
      have Hs := Lib.hid hs
      clear hs
      go_wp2_with fail
      go_ret
      exact ⟨false, rfl, fun h => absurd h.2.2 Hs.out, HB2.out⟩
theorem dealtT_any (w : World) (hT : Turns w) (hR : Rounds w) :
    Calls Tryz.prog 9 #[] w fun E w' => E = .returned (.bool true) ∧ Below w.heap.size w w' := by
  obtain ⟨r1, r2, r3, r4, L, M, _, _, hL, _, _, _, _, _, _, _, hL2, _⟩ := doc_law
  have HR := Lib.hid hR
  have HT := Lib.hid hT
  have hDE : dealE seedT [ann2, bob2] 2 1 = 0 := by unfold dealE; rw [if_pos cOK2]
  have HD1 := Lib.hid (show ∀ (W : World) (g : Nat), W.heap[g]? = some (.cells #[.string ann2, .string bob2] 9 (0, 0)) → Turns W → Rounds W → Calls Tryz.prog 7 #[.string seedT, .slice (some ⟨g, 0, none⟩) 2 2, .int .i64 2, .int .i64 1] W (CDealR W docD 0) from fun W g hg h1 h2 => by
    have := cdeal_any seedT [ann2, bob2] (some ⟨g, 0, none⟩) 2 2 2 1 W (rd_of_blk hg) rfl (by unfold maxLen; omega) h1 h2
    rw [hDE] at this
    exact this)
  have HSt := Lib.hid (fun W h => startsT_any 2 wordT W (by omega) h)
  have HL := Lib.hid (show spreadC docD (List.replicate 2 (startC wordT)) (-1) = (L, true, 0) from hL)
  have HE := Lib.hid (And.intro r1 (And.intro r2 r3))
  have HL2 := Lib.hid hL2
  have hsm : smallP (startC wordT) := old_small (g := ⟨1, 0, none0, none0⟩) (fresh_old (startC_fresh wordT) word_len rfl)
  have HSm := Lib.hid hsm
  clear hL2 hsm
  generalize docD = D at *
  unfold seedT ann2 bob2 at HD1
  unfold wordT at HSt HL HSm
  clear hDE hT hR hL r1 r2 r3 r4
  go_enter Tryz.func9, Tryz.ntmps9
  go_wp2_with fail
  have al0 := (Below.refl w.heap.size w).alloc (Nat.le_refl _) (.cells #[.string ann2, .string bob2] 9)
  refine Calls.mono (HD1.out _ w.heap.size (heap_alloc_new w _) (HT.out.below al0) (HR.out.below al0)) ?_
  rintro e w1 ⟨v, rfl, hv, hb1⟩
  obtain ⟨A, n, c, B, m, d, C, p, q, E, s, t, rfl, k1, k2, k3, k4, k5, k6, k7, k8⟩ := hv
  have hv : DV w1 (.agg #[.int .i64 D.r.e, .int .i64 D.r.k, .slice A n c, .slice B m d, .string D.sec, .slice C p q, .slice E s t]) D := ⟨A, n, c, B, m, d, C, p, q, E, s, t, rfl, k1, k2, k3, k4, k5, k6, k7, k8⟩
  have hbw := Below.chain al0 hb1
  have al := (Below.refl w1.heap.size w1).alloc (Nat.le_refl _) (.cells #[.int .i64 D.r.e, .int .i64 D.r.k, .slice A n c, .slice B m d, .string D.sec, .slice C p q, .slice E s t] 29)
  have HB := Lib.hid (Below.chain hbw al)
  have HV := Lib.hid (hv.below al)
  have HX := Lib.hid (heap_alloc_new w1 (.cells #[.int .i64 D.r.e, .int .i64 D.r.k, .slice A n c, .slice B m d, .string D.sec, .slice C p q, .slice E s t] 29))
  obtain ⟨u, hu⟩ : ∃ u, u = w1.alloc (.cells #[.int .i64 D.r.e, .int .i64 D.r.k, .slice A n c, .slice B m d, .string D.sec, .slice C p q, .slice E s t] 29) := ⟨_, rfl⟩
  have Hu := Lib.hid hu
  rw [← hu] at HB HV HX
  clear hu al hbw al0 hb1 hv k1 k2 k3 k4 k5 k6 k7 k8 HD1
  go_upto_region 2 with fail
  rw [← Hu.out]
  clear Hu
  generalize w1.heap.size = X at *
  obtain ⟨⟨z0, z1, z2, z3, z4, z5, z6⟩, zf⟩ := seven_cells HX.out
  have z := And.intro (And.intro (And.intro z0 z1) (And.intro z2 z3)) (And.intro (And.intro z4 z5) z6)
  clear z0 z1 z2 z3 z4 z5 z6 zf
  have HBu := Lib.hid HB.out.drew
  go_wp2_with fail
  go_region_held3 (fun w' => ((w'.cell? ⟨X, 0, none⟩ = some (.int .i64 D.r.e) ∧ w'.cell? ⟨X, 1, none⟩ = some (.int .i64 D.r.k)) ∧ (w'.cell? ⟨X, 2, none⟩ = some (.slice A n c) ∧ w'.cell? ⟨X, 3, none⟩ = some (.slice B m d))) ∧ (w'.cell? ⟨X, 4, none⟩ = some (.string D.sec) ∧ w'.cell? ⟨X, 5, none⟩ = some (.slice C p q)) ∧ w'.cell? ⟨X, 6, none⟩ = some (.slice E s t))
    (first | with_reducible assumption | exact z | exact keep7_below z hb3 | exact keep7_below z hb5)
    (first
      | (go_at_call 11; refine Calls.mono (HSt.out _ (HR.out.below HBu.out)) ?_; rintro _ w2 ⟨A3, cap3, l3, rfl, ho3, hp3, hb2⟩; have hb3 := Below.chain ((Below.refl u.heap.size u).drew) hb2)
      | (go_at_call 10; refine Calls.mono (cspread_any A3 2 cap3 l3 _ D (-1) _ ho3.rd ho3.hn (by omega) (fun x hx => by have := dk_of_plats ho3 hp3 x hx; have := HSm.out; unfold smallP at this; omega) (HV.out.below hb3) (HR.out.below (Below.chain HB.out hb3))) ?_; rw [hp3, HL.out]; rintro _ w4 ⟨A4, n4, cap4, l4, rfl, hn4, hp4, hr4, hb4, ho4⟩; clear ho4; replace hn4 := Lib.hid hn4; have hb5 := Below.chain hb3 hb4))
  rename_i hheld
  have HX5 := hblk_below HX hb5
  have HB5 := Lib.hid (Below.chain HB.out hb5)
  have HV5 := Lib.hid (HV.out.below hb5)
  have h24 : n4 = 2 := by
    have h2 : (plats l4).length = 2 := by rw [hp4, HL2.out]
    rw [plats_len, ← hn4.out] at h2
    exact h2
  clear hheld hb5 hb4 hr4 hb2 hb3 ho3 hp3 hn4 hp4 HX HB HV HBu z HSt HL
  subst h24
  obtain ⟨⟨z0, z1, z2, z3, z4, z5, z6⟩, zf⟩ := seven_cells HX5.out
  have HCk := Lib.hid (rcheck_any _ D w4 HV5.out (HR.out.below HB5.out))
  rw [HE.out.1] at HCk
  clear zf
  go_wp2_with fail
  refine HCk.out.mono ?_
  rintro e w6 ⟨rfl, hb6⟩
  have HB6 := Lib.hid (Below.chain HB5.out hb6)
  clear hb6
  go_wp2_with fail
  go_ret
  exact ⟨rfl, HB6.out⟩
end

section
open Go.RowKit
set_option linter.unusedVariables false
set_option linter.unusedSimpArgs false
set_option maxRecDepth 100000
set_option maxHeartbeats 16000000

theorem ans_infoT : (Tryz.prog.info? 45).map (fun i => (i.zero, i.size, i.bytes)) = some (some (.agg #[.string ⟨#[]⟩, .string ⟨#[]⟩, .int .i64 0, .string ⟨#[]⟩]), 4, 56) := by kernel_rfl
theorem ta_app (a b : List Ans) : answersV (a ++ b) = answersV a ++ answersV b := by simp [answersV]
theorem ta_bools {w : World} {A : Option Addr} {l : List Bool} {i : Nat} (h : Rd w A (boolsV l)) (hi : i < l.length) : ∃ b off, A = some ⟨b, off, none⟩ ∧ w.cell? ⟨b, off + i, none⟩ = some (.bool l[i]) :=
  h i (.bool l[i]) (by simp [boolsV, hi])
theorem k3_below {W w' : World} {p q r : Addr} {u v x : Value} (h : W.cell? p = some u ∧ (W.cell? q = some v ∧ W.cell? r = some x)) (hb : Below W.heap.size W w') : w'.cell? p = some u ∧ (w'.cell? q = some v ∧ w'.cell? r = some x) :=
  ⟨(hb.cell (cell_lt h.1)).trans h.1, keep2_below h.2 hb⟩
theorem k3_ad {W : World} {o : Obj} {p q r : Addr} {u v x : Value} (h : W.cell? p = some u ∧ (W.cell? q = some v ∧ W.cell? r = some x)) : (W.alloc o).drew.cell? p = some u ∧ ((W.alloc o).drew.cell? q = some v ∧ (W.alloc o).drew.cell? r = some x) :=
  k3_below h ((Below.refl _ _).alloc (Nat.le_refl _) o).drew
theorem ta_keep {w u W' : World} {o : Obj} {b oo G B : Nat} {s : ByteArray} {x y : Value} {t : TypeId} {e : TypeId} {size : Nat} {v : Value} {n : Nat} {xs : List Value} (h : (u.alloc o).drew.cell? ⟨b, oo, none⟩ = some (.string s) ∧ ((u.alloc o).drew.cell? ⟨G, 0, none⟩ = some x ∧ (u.alloc o).drew.cell? ⟨G, 1, none⟩ = some y))
    (ho : (u.alloc o).drew.ownsRow B e size v n xs) (hg : (u.alloc o).drew.grownBy W' v.ownBlock) (hc : w.cell? ⟨b, oo, none⟩ = some (.string s)) (hb : Below w.heap.size w W') (hX : u.heap[G]? = some (.cells #[x, y] t (0, 0))) (hne : t ≠ e) :
    W'.cell? ⟨b, oo, none⟩ = some (.string s) ∧ (W'.cell? ⟨G, 0, none⟩ = some x ∧ W'.cell? ⟨G, 1, none⟩ = some y) := by
  have hX2 : ((u.alloc o).drew).heap[G]? = some (.cells #[x, y] t (0, 0)) := cells_below hX (((Below.refl u.heap.size u).alloc (Nat.le_refl _) o).drew)
  have hX3 : W'.heap[G]? = some (.cells #[x, y] t (0, 0)) := (hg.block G (cell_lt_of hX2) (own_far hX2 ho hne)).trans hX2
  exact ⟨(hb.cell (cell_lt hc)).trans hc, cell_in hX3 0 _ rfl, cell_in hX3 1 _ rfl⟩
theorem asked_any (A : Option Addr) (n c : Nat) (l : List Dk) (a1 : Option Addr) (c1 : Nat) (ns : List ByteArray) (cred : ByteArray) (AW : Option Addr) (wn cw : Nat) (ws : List Bool) (D : Deal) (w : World) (h : RdD w A l) (hn : n = l.length) (hr : Rd w a1 (textsV ns)) (hns : n = ns.length) (hrw : Rd w AW (boolsV ws)) (hwn : wn = ws.length) (hwm : wn ≤ 9223372036854775807) (hn6 : n ≤ 1000) (hDn : D.r.ns = ns)
    (hask : ∀ i, i < n → ∃ Q, askH ((plats l).getD i noPlat) (sumB cred) (-1) = ⟨(D.sh.getD i (0, noneT)).1, (D.sh.getD i (0, noneT)).2, D.sa.getD i noneT, Q, 0⟩) (hR : Rounds w) :
    Calls Tryz.prog 12 #[.slice A n c, .slice a1 n c1, .string cred, .slice AW wn cw] w fun e w' => ∃ X cp, e = .returned (.slice X (picks ws (min n wn)).length cp) ∧ w'.ownsRow w.heap.size 45 4 (.slice X (picks ws (min n wn)).length cp) (picks ws (min n wn)).length (answersV (allA D [] ws (min n wn))) ∧ Below w.heap.size w w' := by
  have HD := Lib.hid h
  have HN := Lib.hid hn
  have HNm := Lib.hid hr
  have HNs := Lib.hid hns
  have HRw := Lib.hid hrw
  have HWn := Lib.hid hwn
  have HDn := Lib.hid hDn
  have HAs := Lib.hid hask
  have HR := Lib.hid hR
  clear h hn hr hns hrw hwn hDn hask hR
  go_enter Tryz.func12, Tryz.ntmps12
  go_wp2_with fail
  go_loopw [9, 10] (fun va x wr => ∃ (i : Nat) (X : Option Addr) (cp : Nat), i ≤ n ∧ i ≤ wn ∧ x = .int .i64 (i : Nat) ∧ va = .slice X (picks ws i).length cp ∧ wr.ownsRow w.heap.size 45 4 (.slice X (picks ws i).length cp) (picks ws i).length (answersV (allA D [] ws i)) ∧ Below w.heap.size w wr) (fun _ x _ => n - (intOf x).toNat)
  case atStart => exact ⟨0, none, 0, by omega, by omega, rfl, rfl, World.ownsRow_nil _ _ _ _, Below.refl _ _⟩
  case round =>
    obtain ⟨i, X, cp, hi, hi2, rfl, rfl, ho, hW⟩ := hrel
    have HO := Lib.hid ho
    have HW := Lib.hid hW
    have hpl := picks_len ws i
    clear ho hW
    by_cases hlt : i < n ∧ i < wn
    · have e1 : i < n := hlt.1
      have e2 : i < wn := hlt.2
      have hin : (i : Int) < (n : Int) := by omega
      have hiw : (i : Int) < (wn : Int) := by omega
      have hiw2 : i < ws.length := by rw [← HWn.out]; omega
      obtain ⟨bW, oW, hbW, c0⟩ := ta_bools (HRw.out.below HW.out) hiw2
      subst hbW
      have Hbv := Lib.hid (show ws.getD i false = ws[i] by rw [List.getD_eq_getElem?_getD, List.getElem?_eq_getElem hiw2]; rfl)
      generalize ws[i] = bv at c0 Hbv
      clear hiw2 hlt
      cases bv with
      | false =>
        have Hpk := Lib.hid (picks_no Hbv.out)
        have Hal := Lib.hid (allA_no (D := D) (ls := []) Hbv.out)
        go_wp2_with fail
        go_roundw
        case rel => exact ⟨i + 1, X, cp, by omega, by omega, by go_num, by rw [Hpk.out], by rw [Hpk.out, Hal.out]; exact HO.out, HW.out⟩
        case measure => simp [intOf]; omega
      | true =>
        have Hpk := Lib.hid (show (picks ws (i + 1)).length = (picks ws i).length + 1 by rw [picks_yes Hbv.out]; simp)
        have hxl : i < l.length := by rw [← HN.out]; exact e1
        have hni : i < ns.length := by rw [← HNs.out]; exact e1
        have hsn : D.r.ns.getD i noneT = ns[i] := by rw [HDn.out, List.getD_eq_getElem?_getD, List.getElem?_eq_getElem hni]; rfl
        have Hal := Lib.hid (show answersV (allA D [] ws (i + 1)) = answersV (allA D [] ws i) ++ [.string ns[i], .string (D.sa.getD i noneT), .int .i64 (D.sh.getD i (0, noneT)).1, .string (D.sh.getD i (0, noneT)).2] by rw [allA_yes Hbv.out, ta_app, ← hsn]; rfl)
        obtain ⟨b, off, hA, c1⟩ := texts_at HNm.out hni
        obtain ⟨bD, oD, hAD, d0, d1⟩ := dk_at (HD.out.below HW.out).rd hxl
        subst hA hAD
        have hxok := (HD.out.below HW.out).ok _ (List.getElem_mem hxl)
        obtain ⟨Q, hq⟩ := HAs.out i e1
        rw [plats_at hxl] at hq
        generalize l[i] = x at d0 d1 hxok hq
        generalize ns[i] = nm at c1 Hal
        generalize D.sa.getD i noneT = sl at hq Hal
        generalize D.sh.getD i (0, noneT) = sh at hq Hal
        obtain ⟨sx, sb⟩ := sh
        obtain ⟨xA, xn, xc, xB, xm, xd, xP⟩ := x
        simp only at d0 d1 hq Hal
        have HXo := Lib.hid (show PB wr xA xn xB xm xP from hxok)
        have HAk := Lib.hid (fun W (h : PB W xA xn xB xm xP) h2 => hask_any (.agg #[.slice xA xn xc, .slice xB xm xd]) xP cred (-1) W ⟨_, _, _, _, _, _, rfl, h⟩ h2 (by omega))
        rw [hq] at HAk
        have C1 := Lib.hid c1
        clear c1 hxok hq hsn hxl hni
        go_wp2_with fail
        refine (HAk.out _ HXo.out (HR.out.below HW.out)).mono ?_
        rintro e w1 ⟨v, rfl, ⟨yA, yn, yc, yB, ym, yd, rfl, hy⟩, hb1⟩
        simp only
        have al1 := (Below.refl w1.heap.size w1).alloc (Nat.le_refl _) (.cells #[.int .i64 sx, .string sb] 43)
        have hx1 := heap_alloc_new w1 (.cells #[.int .i64 sx, .string sb] 43)
        have al2 := (Below.refl (w1.alloc (.cells #[.int .i64 sx, .string sb] 43)).heap.size (w1.alloc (.cells #[.int .i64 sx, .string sb] 43))).alloc (Nat.le_refl _) (.cells #[.slice yA yn yc, .slice yB ym yd] 68)
        have hbu := Below.chain hb1 (Below.chain al1 al2)
        have HX := Lib.hid (cells_below hx1 al2)
        have HO8 := Lib.hid (own_keep HO.out hbu)
        have HW8 := Lib.hid (HW.out.trans (hbu.mono HW.out.size))
        obtain ⟨u, hu⟩ : ∃ u, u = ((w1.alloc (.cells #[.int .i64 sx, .string sb] 43)).alloc (.cells #[.slice yA yn yc, .slice yB ym yd] 68)) := ⟨_, rfl⟩
        have Hu := Lib.hid hu
        rw [← hu] at HX HO8 HW8
        clear hu al1 al2 hx1 hb1 hbu hy HAk HXo d0 d1 c0
        go_upto_region 8 with fail
        rw [← Hu.out]
        clear Hu
        generalize w1.heap.size = G at *
        have QU := Lib.hid (show u.cell? ⟨b, off + i, none⟩ = some (.string nm) ∧ (u.cell? ⟨G, 0, none⟩ = some (.int .i64 sx) ∧ u.cell? ⟨G, 1, none⟩ = some (.string sb)) from And.intro ((HW8.out.cell (cell_lt C1.out)).trans C1.out) (And.intro (cell_in HX.out 0 _ rfl) (cell_in HX.out 1 _ rfl)))
        have q0 := QU.out
        have q1 := k3_below QU.out ((Below.refl u.heap.size u).drew)
        have hz8 := HW8.out.size
        obtain ⟨iA, hA0, hA1, hA2, hA3⟩ := info_parts ans_infoT
        generalize hpn : (picks ws i).length = pn at HO8 Hpk hpl ⊢
        clear HO
        go_wp2_with fail
        go_region_held3 (fun w' => w'.cell? ⟨b, off + i, none⟩ = some (.string nm) ∧ (w'.cell? ⟨G, 0, none⟩ = some (.int .i64 sx) ∧ w'.cell? ⟨G, 1, none⟩ = some (.string sb)))
          (first | with_reducible assumption | with_reducible exact k3_ad q0)
          (first
            | (refine step_append_lies _ (by rfl) (.tmp 51) (.tmp 59) 40 (by rfl) w.heap.size 45 iA (.agg #[.string ⟨#[]⟩, .string ⟨#[]⟩, .int .i64 0, .string ⟨#[]⟩]) 4 56 Tryz.underlying40 hA0 hA1 hA2 hA3 rfl (by omega) (.slice X pn cp) pn (answersV (allA D [] ws i)) (by rfl) ((HO8.out.alloc (.cells #[.string nm, .string sl, .int .i64 sx, .string sb] 45)).drew) ⟨u.heap.size, 0, none⟩ 1 1 [.string nm, .string sl, .int .i64 sx, .string sb] (by rfl) (by rfl) (World.news_of_block (show ((u.alloc (.cells #[.string nm, .string sl, .int .i64 sx, .string sb] 45)).drew).heap[u.heap.size]? = some (.cells #[.string nm, .string sl, .int .i64 sx, .string sb] 45 (0, 0)) from heap_alloc_new u _)) (by simp [Value.oneCell']) (by omega) (by unfold maxLen; omega) (by omega) (by simp; omega) _ rfl ?_; intro g4 cap4 w4 ho4 hg4 hat hlt4; have hb4 := by_row ((HO8.out.alloc (.cells #[.string nm, .string sl, .int .i64 sx, .string sb] 45)).drew) hg4 (by simp; omega); have hb9 := HW8.out.trans ((((Below.refl u.heap.size u).alloc (Nat.le_refl _) (.cells #[.string nm, .string sl, .int .i64 sx, .string sb] 45)).drew).mono hz8 |>.trans hb4); have q4 : w4.cell? ⟨b, off + i, none⟩ = some (.string nm) ∧ (w4.cell? ⟨G, 0, none⟩ = some (.int .i64 sx) ∧ w4.cell? ⟨G, 1, none⟩ = some (.string sb)) := ta_keep (k3_ad q0) (HO8.out.alloc _).drew hg4 C1.out hb9 HX.out (by decide)))
        have HA4 := Lib.hid ho4
        have HW4 := Lib.hid hb9
        clear ho4 hg4 hat hlt4 hb4 hb9 q4 q0 q1 HO8 hz8 HW8 HX QU
        go_wp2_with fail
        go_roundw
        case rel =>
          refine ⟨i + 1, some ⟨g4, 0, none⟩, cap4, by omega, by omega, by go_num, by rw [Hpk.out], ?_, HW4.out⟩
          rw [Hpk.out, Hal.out]; exact HA4.out
        case measure => simp [intOf]; omega
    · have hmin : min n wn = i := by omega
      have hex : ¬ i < n ∨ (i < n ∧ ¬ i < wn) := by
        by_cases h : i < n
        · exact .inr ⟨h, fun h2 => hlt ⟨h, h2⟩⟩
        · exact .inl h
      have Hmin := Lib.hid hmin
      clear hmin hlt
      have e0 : decide ((i : Int) < (l.length : Int)) = decide ((i : Int) < (l.length : Int)) := rfl
      clear e0
      rcases hex with hx1 | ⟨hx1, hx2⟩
      · go_wp2_with fail
        go_ret
        exact ⟨X, cp, by rw [Hmin.out]; rfl, by rw [Hmin.out]; exact HO.out, HW.out⟩
      · go_wp2_with fail
        go_ret
        exact ⟨X, cp, by rw [Hmin.out]; rfl, by rw [Hmin.out]; exact HO.out, HW.out⟩
end

section
open Go.RowKit
set_option linter.unusedVariables false
set_option linter.unusedSimpArgs false
set_option maxRecDepth 100000
set_option maxHeartbeats 8000000

theorem fine_any (A : Option Addr) (n c : Nat) (l : List Ans) (w : World) (hr : Rd w A (answersV l)) (hn : n = l.length) (hn9 : n ≤ maxLen) :
    Calls Tryz.prog 15 #[.slice A n c] w fun e w' => ∃ b, e = .returned (.bool b) ∧ (b = true → n ≤ 12) ∧ Below w.heap.size w w' := by
  have HRd := Lib.hid hr
  have HN := Lib.hid hn
  unfold maxLen at hn9
  clear hr hn
  go_enter Tryz.func15, Tryz.ntmps15
  go_wp2_with fail
  go_loopw [3] (fun x wr => ∃ k : Nat, k ≤ n ∧ x = .int .i64 (k : Nat) ∧ Below w.heap.size w wr) (fun x _ => n - (intOf x).toNat)
  case atStart => exact ⟨0, by omega, rfl, Below.refl _ _⟩
  case round =>
    obtain ⟨k, hk, rfl, hW⟩ := hrel
    have HW := Lib.hid hW
    clear hW
    by_cases hlt : k < n
    · have d1 : decide ((k : Int) < (n : Int)) = true := by simp; omega
      have e1 : (k : Int) < (n : Int) := by omega
      have hkl : k < l.length := by rw [← HN.out]; exact hlt
      obtain ⟨b, off, hA, c0, c1, c2, c3⟩ := (HRd.out.below HW.out).ans hkl
      subst hA
      generalize l[k] = x at c0 c1 c2 c3
      obtain ⟨a0, a1, a2, a3⟩ := x
      simp only at c0 c1 c2 c3
      have q0 : wr.cell? ⟨b, off + k * 4, none⟩ = some (.string a0) ∧ (wr.cell? ⟨b, off + k * 4 + 1, none⟩ = some (.string a1) ∧ wr.cell? ⟨b, off + k * 4 + 2 + 1, none⟩ = some (.string a3)) := ⟨c0, c1, c3⟩
      have q1 := k3_below q0 ((Below.refl wr.heap.size wr).drew)
      clear c0 c1 c2 c3
      go_wp2_with fail
      go_region_held3 (fun w' => w'.cell? ⟨b, off + k * 4, none⟩ = some (.string a0) ∧ (w'.cell? ⟨b, off + k * 4 + 1, none⟩ = some (.string a1) ∧ w'.cell? ⟨b, off + k * 4 + 2 + 1, none⟩ = some (.string a3)))
        (first | with_reducible assumption | with_reducible exact k3_ad q0)
        (first
          | (go_at_call 5; refine Calls.mono (short_any _ 3 3 [a0, a1, a3] _ (rd_of_blk (show ((wr.alloc (.cells #[.string a0, .string a1, .string a3] 9)).drew).heap[wr.heap.size]? = some (.cells #[.string a0, .string a1, .string a3] 9 (0, 0)) from heap_alloc_new wr _)) rfl (by unfold maxLen; omega)) ?_; rintro _ w2 ⟨rb, rfl, hrb, hw2⟩; subst hw2))
      rename_i hheld
      have HB := Lib.hid (HW.out.trans ((((Below.refl wr.heap.size wr).alloc (Nat.le_refl _) (.cells #[.string a0, .string a1, .string a3] 9)).drew).mono HW.out.size))
      clear hheld hrb q0 q1
      cases rb with
      | true =>
        go_wp2_with fail
        go_roundw
        case rel => exact ⟨k + 1, by omega, by go_num, HB.out⟩
        case measure => simp [intOf]; omega
      | false =>
        go_wp2_with fail
        go_ret
        exact ⟨false, rfl, fun h => Bool.noConfusion h, HB.out⟩
    · obtain rfl : k = n := by omega
      have d1 : decide ((k : Int) < (k : Int)) = false := by simp
      by_cases h12 : k ≤ 12
      · have d2 : decide ((k : Int) ≤ 12) = true := by simp; omega
        go_wp2_with fail
        go_ret
        exact ⟨true, rfl, fun _ => h12, HW.out⟩
      · have d2 : decide ((k : Int) ≤ 12) = false := by simp; omega
        go_wp2_with fail
        go_ret
        exact ⟨false, rfl, fun h => Bool.noConfusion h, HW.out⟩
end

section
open Go.RowKit
set_option linter.unusedVariables false
set_option linter.unusedSimpArgs false

theorem run_append_more {P : Program} (w : World) (t ty : TypeId) (B : Nat) (e : TypeId) (z : Value) (size bytes : Nat) (ht : P.underlying t = some (.slice e)) (hi : (P.info? e).map (fun i => (i.zero, i.size, i.bytes)) = some (some z, size, bytes)) (hzs : z.cells.size = size) (hsz : 0 < size)
    (A0 : Option Addr) (n c0 : Nat) (xs : List Value) (hown : w.ownsRow B e size (.slice A0 n c0) n xs) (A : Option Addr) (m c : Nat) (news : List Value) (hr : Rd w A news) (hl : news.length = m * size) (h1 : ∀ u ∈ news, u.oneCell' = true) (h63 : n + m ≤ 1000000000) (hbytes : bytes ≤ 1000) (hB : B ≤ w.heap.size) :
    ∃ A' cap w', (Builtin.append_ #[t, t] ty #[.slice A0 n c0, .slice A m c]).run P w = .ok (.slice A' (n + m) cap) w' ∧ w'.ownsRow B e size (.slice A' (n + m) cap) (n + m) (xs ++ news) ∧ Below B w w' := by
  obtain ⟨i, hi0, hi1, hi2, hi3⟩ := info_parts hi
  by_cases hm : m = 0
  · subst hm
    rw [Nat.zero_mul] at hl
    obtain rfl : news = [] := List.eq_nil_of_length_eq_zero hl
    refine ⟨A0, c0, w, ?_, by rw [List.append_nil]; exact hown, Below.refl _ _⟩
    have hle : n ≤ c0 := own_cap hown
    cases A with
    | none => exact run_append_nothing w t t ty e i ht hi0 A0 n c0 hle _ (Src.ofNil w ht c)
    | some a => exact run_append_nothing w t t ty e i ht hi0 A0 n c0 hle _ (Src.ofSlice w ht a 0 c [] (by simp) (by simp) (by simp))
  · have hlen : 0 < news.length := by rw [hl]; exact Nat.mul_pos (by omega) hsz
    obtain ⟨b, off, hA, _⟩ := hr 0 news[0] (by simp [hlen])
    subst hA
    obtain ⟨g, cap, w', hrun, ho, hg, hat, hlt⟩ := run_append_lies (P := P) w t ty B e i z size bytes ht hi0 hi1 hi2 hi3 hzs hsz (.slice A0 n c0) n xs hown ⟨b, off, none⟩ m c news hl
      (fun j u hu => by
        obtain ⟨b', off', hA, hc⟩ := hr j u hu
        injection hA with hA
        injection hA with e1 e2
        subst e1 e2
        rw [cadd_none, hc]) h1 (by omega) (by unfold maxLen; omega) (by
          have : (n + m) * bytes ≤ 1000000000 * 1000 := Nat.mul_le_mul (by omega) hbytes
          omega) hB _ rfl
    exact ⟨some ⟨g, 0, none⟩, cap, w', hrun, ho, by_row hown hg hB⟩
theorem wpList_append_more {P : Program} {ops : Array Oper} {rest : List Oper} {o : Oper} {a : Act} {w : World} {Q : Exit → Act → World → Prop} (hgd : o.guard = none) (s x : Operand) (t : TypeId)
    (ho : o.op = .call { callee := .builtin .append, args := #[s, x], argTypes := #[t, t] })
    (B : Nat) (e : TypeId) (z : Value) (size bytes : Nat) (ht : P.underlying t = some (.slice e)) (hi : (P.info? e).map (fun i => (i.zero, i.size, i.bytes)) = some (some z, size, bytes)) (hzs : z.cells.size = size) (hsz : 0 < size)
    (A0 : Option Addr) (n c0 : Nat) (xs : List Value) (hs : a.eval s = .slice A0 n c0) (hown : w.ownsRow B e size (.slice A0 n c0) n xs) (A : Option Addr) (m c : Nat) (hx : a.eval x = .slice A m c) (news : List Value) (hr : Rd w A news) (hl : news.length = m * size) (h1 : ∀ u ∈ news, u.oneCell' = true) (h63 : n + m ≤ 1000000000) (hbytes : bytes ≤ 1000) (hB : B ≤ w.heap.size)
    (h : ∀ A' cap w', w'.ownsRow B e size (.slice A' (n + m) cap) (n + m) (xs ++ news) → Below B w w' → wpList P ops Q rest (a.put o.dst (.slice A' (n + m) cap)) w') :
    wpList P ops Q (o :: rest) a w := by
  refine wpList_plain hgd fun K hK => ?_
  obtain ⟨A', cap, w', hrun, h2, h3⟩ := run_append_more (P := P) w t o.type B e z size bytes ht hi hzs hsz A0 n c0 xs hown A m c news hr hl h1 h63 hbytes hB
  unfold Oper.wp execOp
  simp only [ho, resolve, invoke, builtin, Sem.run_bind, Sem.run_pure, Result.andThen_ok, List.map_toArray, List.map_cons, List.map_nil, hs, hx, hrun]
  exact hK _ _ (h A' cap w' h2 h3)
theorem ta_one (l : List Ans) (u : Value) (h : u ∈ answersV l) : u.oneCell' = true := by
  obtain ⟨a, _, hu⟩ := List.mem_flatMap.1 h
  simp only [ansV, List.mem_cons, List.not_mem_nil, or_false] at hu
  rcases hu with rfl | rfl | rfl | rfl <;> rfl
theorem allA_two (D : Deal) (ls : List Ans) (ws : List Bool) (i : Nat) : answersV ls ++ answersV (allA D [] ws i) = answersV (allA D ls ws i) := by rw [← ta_app]; simp [allA]
theorem blame_xyz (v : Value) (D : Deal) (A : Option Addr) (m c : Nat) (ls : List Ans) (w : World) (hv : DV w v D) (hsh : D.sh.length = D.r.ns.length) (hsa : D.sa.length = D.r.ns.length) (h16 : D.r.ns.length ≤ 16) (hr : Rd w A (answersV ls)) (hm : m = ls.length) (hl : m ≤ 1000) (hR : Rounds w) :
    Calls Tryz.prog 16 #[v, .slice A m c] w fun e w' => ∃ x y ok, e = .returned (.tuple #[.string x, .string y, .bool ok]) ∧ x.size ≤ 1000 ∧ y.size ≤ 1000 ∧ ((∃ a, blamed D ls = some a ∧ blB D a = true ∧ blP D a ≠ blQ D a ∧ bs (sumL (blP D a).data.toList) = bs (sumL (blQ D a).data.toList)) → ok = true ∧ x ≠ y ∧ bs (sumL x.data.toList) = bs (sumL y.data.toList)) ∧ Below w.heap.size w w' := by
  refine (blame_any v D A m c ls w hv hsh hsa h16 hr hm hl hR).mono ?_
  rintro e w' ⟨hb, he⟩
  cases hbl : blamed D ls with
  | none =>
    rw [hbl] at he
    exact ⟨_, _, _, he, by decide, by decide, (fun ⟨a, h, _⟩ => by cases h), hb⟩
  | some a =>
    rw [hbl] at he
    exact ⟨_, _, _, he, (wit_size (D.sa.getD (a.x - 1).toNat noneT) (D.sh.getD (a.x - 1).toNat (0, noneT)) a.salt (a.x, a.b)).1, (wit_size (D.sa.getD (a.x - 1).toNat noneT) (D.sh.getD (a.x - 1).toNat (0, noneT)) a.salt (a.x, a.b)).2, fun ⟨a', h, h2, h3, h4⟩ => by
      injection h with h
      subst h
      exact ⟨h2, h3, h4⟩, hb⟩
end

section
open Go.RowKit
set_option linter.unusedVariables false
set_option linter.unusedSimpArgs false
set_option maxRecDepth 100000
set_option maxHeartbeats 16000000

theorem topUnlock_law (seed : ByteArray) (_ : seed.size ≤ maxLen) (cred : ByteArray) (_ : cred.size ≤ maxLen) (master : ByteArray) (_ : master.size ≤ maxLen) (nonce : ByteArray) (_ : nonce.size ≤ maxLen) (a4 : Option Addr) (n c4 : Nat) (ns : List ByteArray) (hn : n = ns.length) (hn9 : ns.length ≤ maxLen) (hnz : ∀ x ∈ ns, x.size ≤ maxLen) (k : Int) (AW : Option Addr) (wn cw : Nat) (ws : List Bool) (hwn : wn = ws.length) (hwm : ws.length ≤ maxLen) (AL : Option Addr) (m cL : Nat) (ls : List Ans) (hm : m = ls.length) (hlm : ls.length ≤ maxLen)
    (w : World) (hT : Turns w) (hR : Rounds w) (hr4 : Rd w a4 (textsV ns)) (hrw : Rd w AW (boolsV ws)) (hrl : Rd w AL (answersV ls)) :
    Calls Tryz.prog 4 #[.string seed, .string cred, .string master, .string nonce, .slice a4 n c4, .int .i64 k, .slice AW wn cw, .slice AL m cL] w fun e w' => e = .returned (.bool true) ∧ Below w.heap.size w w' := by
  have HT := Lib.hid hT
  have HR := Lib.hid hR
  have HN := Lib.hid hn
  have HN9 : Hid (n ≤ maxLen) := Lib.hid (by rw [hn]; exact hn9)
  have HM9 : Hid (m ≤ maxLen) := Lib.hid (by rw [hm]; exact hlm)
  have HNm := Lib.hid hr4
  have HRw := Lib.hid hrw
  have HWn := Lib.hid hwn
  have HRl := Lib.hid hrl
  have HM := Lib.hid hm
  have hn9' : n ≤ 9223372036854775807 ∧ wn ≤ 9223372036854775807 ∧ m ≤ 9223372036854775807 := by rw [hwn]; have h1 := HN9.out; have h2 := HM9.out; unfold maxLen at *; omega
  obtain ⟨hn91, hn92, hn93⟩ := hn9'
  clear hT hR hr4 hrw hrl hn hn9 hwn hwm hm hlm hnz
  go_enter Tryz.func4, Tryz.ntmps4
  go_wp2_with fail
  have al0 := (Below.refl w.heap.size w).alloc (Nat.le_refl _) (.cells #[.string seed, .string cred, .string master, .string nonce] 9)
  refine Calls.mono (short_any _ 4 4 [seed, cred, master, nonce] _ (rd_of_blk (heap_alloc_new w _)) rfl (by unfold maxLen; omega)) ?_
  rintro e w1 ⟨b1, rfl, hb1, hw1⟩
  subst w1
  have HB0 := Lib.hid al0
  clear al0
  generalize w.alloc (.cells #[.string seed, .string cred, .string master, .string nonce] 9) = w0 at *
  cases b1 with
  | false =>
    clear hb1
    go_wp2_with fail
    go_ret
    exact ⟨rfl, HB0.out⟩
  | true =>
  have hz := hb1 rfl
  have hz1 : seed.size ≤ 200 := hz _ (by simp)
  have hz2 : cred.size ≤ 200 := hz _ (by simp)
  have hz3 : master.size ≤ 200 := hz _ (by simp)
  have hz4 : nonce.size ≤ 200 := hz _ (by simp)
  clear hb1 hz
  go_wp2_with fail
  refine (fewT_any a4 n c4 ns w0 (HNm.out.below HB0.out) HN.out HN9.out).mono ?_
  rintro e w1 ⟨b1, rfl, hb1, hw1⟩
  subst w1
  cases b1 with
  | false =>
    clear hb1
    go_wp2_with fail
    go_ret
    exact ⟨rfl, HB0.out⟩
  | true =>
  have hn6 : n ≤ 6 := (hb1 rfl).1
  clear hb1
  go_wp2_with fail
  refine (fine_any AL m cL ls w0 (HRl.out.below HB0.out) HM.out HM9.out).mono ?_
  rintro e w1 ⟨b1, rfl, hb1, hbb⟩
  have HB1 := Lib.hid (Below.chain HB0.out hbb)
  clear hbb HB0
  cases b1 with
  | false =>
    clear hb1
    go_wp2_with fail
    go_ret
    exact ⟨rfl, HB1.out⟩
  | true =>
  have hm12 : m ≤ 12 := hb1 rfl
  clear hb1
  have HDe := Lib.hid (cdeal_any seed ns a4 n c4 k 1 w1 (HNm.out.below HB1.out) HN.out HN9.out (HT.out.below HB1.out) (HR.out.below HB1.out))
  have HDt := Lib.hid (fun (W : World) (h : Below w.heap.size w W) => dealtT_any W (HT.out.below h) (HR.out.below h))
  cases hok : cOK seed ns k 1 with
  | false =>
    have hE : dealE seed ns k 1 = 180 := by unfold dealE; rw [if_neg (by rw [hok]; decide)]
    have hD : dealC seed ns k 1 = noDeal := by unfold dealC; rw [if_neg (by rw [hok]; decide)]
    rw [hE, hD] at HDe
    clear hok hE hD
    go_wp2_with fail
    refine Calls.mono HDe.out ?_
    rintro e w3 ⟨v3, rfl, hv3, hb3⟩
    obtain ⟨aA, an, ac, aB, am, ad, aC, ap, aq, aE, es, et, rfl, hrest⟩ := hv3
    simp only [noDeal]
    have al := (Below.refl w3.heap.size w3).alloc (Nat.le_refl _) (.cells #[.int .i64 0, .int .i64 0, .slice aA an ac, .slice aB am ad, .string ⟨#[]⟩, .slice aC ap aq, .slice aE es et] 29)
    have HB4 := Lib.hid (Below.chain HB1.out (Below.chain hb3 al))
    have HX := Lib.hid (heap_alloc_new w3 (.cells #[.int .i64 0, .int .i64 0, .slice aA an ac, .slice aB am ad, .string ⟨#[]⟩, .slice aC ap aq, .slice aE es et] 29))
    clear hrest hb3 HDe al
    go_wp2_with fail
    refine Calls.mono (wrap_any ⟨#[]⟩ nonce master _ (HT.out.below HB4.out) (by decide) (by unfold maxLen; omega) (by unfold maxLen; omega)) ?_
    rintro e w4 ⟨rfl, hb5⟩
    have HB5 := Lib.hid (Below.chain HB4.out hb5)
    clear hb5 HB4
    go_wp2_with fail
    refine Calls.mono (HDt.out _ HB5.out) ?_
    rintro e w5 ⟨rfl, hb6⟩
    have HB6 := Lib.hid (Below.chain HB5.out hb6)
    clear hb6
    go_wp2_with fail
    go_ret
    exact ⟨rfl, HB6.out⟩
  | true =>
  have hE : dealE seed ns k 1 = 0 := by unfold dealE; rw [if_pos hok]
  obtain ⟨mm, q1, q2, q3, q4, q5, q6, q7⟩ := cOK_good hok
  rw [hE] at HDe
  have HG := Lib.hid q5
  have HDn := Lib.hid q7
  have hkk := Lib.hid q5.kk
  have hq1 := Lib.hid q1
  have hq3 := Lib.hid q3
  have HWs := Lib.hid (whole_spread hok (cred := sumB cred) (l := List.replicate n (startC cred)) (by rw [List.length_replicate]; exact HN.out) (fun i hi g hg => startC_old cred (by omega) n (by rw [HN.out]; exact hi) hg))
  clear hok hE q1 q2 q3 q4 q5 q6 q7
  go_wp2_with fail
  refine Calls.mono HDe.out ?_
  rintro e w3 ⟨v3, rfl, hv3, hb3⟩
  generalize dealC seed ns k 1 = D at HDe HG HDn hv3 hkk HWs
  generalize (cRest (tapeOf seed) mm).data.toList = tt at HG
  have hv3' := hv3
  obtain ⟨aA, an, ac, aB, am, ad, aC, ap, aq, aE, es, et, rfl, k1, k2, k3, k4, k5, k6, k7, k8⟩ := hv3
  have HDk := Lib.hid (show D.r.k = k by rw [hkk.out, hq1.out])
  have HLs := Lib.hid (show D.sh.length = n by rw [HG.out.sh, List.length_map, List.length_range, HDn.out, HN.out])
  have HLa := Lib.hid (show D.sa.length = n by rw [HG.out.sl, HDn.out, HN.out])
  have HLn := Lib.hid (show D.r.ns.length = n by rw [HDn.out, HN.out])
  obtain rfl : n = ap := by rw [k6]; exact HLs.out.symm
  obtain rfl : n = es := by rw [k8]; exact HLa.out.symm
  have al := (Below.refl w3.heap.size w3).alloc (Nat.le_refl _) (.cells #[.int .i64 D.r.e, .int .i64 D.r.k, .slice aA an ac, .slice aB am ad, .string D.sec, .slice aC n aq, .slice aE n et] 29)
  have hb4 := Below.chain hb3 al
  have HB := Lib.hid (Below.chain HB1.out hb4)
  have HX := Lib.hid (heap_alloc_new w3 (.cells #[.int .i64 D.r.e, .int .i64 D.r.k, .slice aA an ac, .slice aB am ad, .string D.sec, .slice aC n aq, .slice aE n et] 29))
  have HV := Lib.hid (hv3'.below al)
  have HRc := Lib.hid (show RV _ (.agg #[.int .i64 D.r.e, .int .i64 D.r.k, .slice aA an ac, .slice aB am ad]) D.r from ⟨_, _, _, _, _, _, rfl, k1.below al, k2, k3.below al, k4⟩)
  obtain ⟨u, hu⟩ : ∃ u, u = w3.alloc (.cells #[.int .i64 D.r.e, .int .i64 D.r.k, .slice aA an ac, .slice aB am ad, .string D.sec, .slice aC n aq, .slice aE n et] 29) := ⟨_, rfl⟩
  have Hu := Lib.hid hu
  rw [← hu] at HB HX HV HRc
  clear hu al hb3 hb4 hv3' k1 k2 k3 k4 k5 k6 k7 k8 HDe hkk hq1 HB1
  go_upto_region 4 with fail
  rw [← Hu.out]
  clear Hu
  generalize w3.heap.size = X at *
  have HWr := Lib.hid (wrap_any D.sec nonce master u (HT.out.below HB.out) (by rw [HG.out.sz]; unfold maxLen; omega) (by unfold maxLen; omega) (by unfold maxLen; omega))
  have HLw := Lib.hid (fun (hk : ¬ ((picks ws (min n wn)).length : Int) < D.r.k) (h0 : wrapE D.sec nonce master = 0) => opens_law HG.out ls ws (i := min n wn) (by rw [HLn.out]; omega) hk h0)
  rw [HDk.out] at HLw
  have hn16 : n ≤ 16 := by omega
  obtain ⟨⟨z0, z1, z2, z3, z4, z5, z6⟩, zf⟩ := seven_cells HX.out
  clear zf hq3
  go_wp2_with fail
  refine Calls.mono HWr.out ?_
  rintro e w4 ⟨rfl, hb4⟩
  generalize wrapE D.sec nonce master = we at *
  generalize wrapS D.sec nonce master = wp at *
  have HB4 := Lib.hid (Below.chain HB.out hb4)
  have HX4 := hblk_below HX hb4
  have HV4 := Lib.hid (HV.out.below hb4)
  have HRc4 := Lib.hid (HRc.out.below hb4)
  clear hb4 HWr z0 z1 z2 z3 z4 z5 z6 HB HX HV HRc
  by_cases hw0 : we = 0
  case neg =>
    have hwne : ((we : Int) != 0) = true := by simp; omega
    clear HLw hw0
    go_wp2_with fail
    refine Calls.mono (HDt.out _ HB4.out) ?_
    rintro e w5 ⟨rfl, hb6⟩
    have HB6 := Lib.hid (Below.chain HB4.out hb6)
    clear hb6
    go_wp2_with fail
    go_ret
    exact ⟨rfl, HB6.out⟩
  subst hw0
  have HSt := Lib.hid (fun W h => startsT_any n cred W (by omega) h)
  obtain ⟨L, hL, hL2, hL3⟩ := HWs.out
  have HL := Lib.hid hL
  have HL2 := Lib.hid (show L.length = n by rw [hL2, HN.out])
  have HL3 := Lib.hid hL3
  have HSm : Hid (smallP (startC cred)) := Lib.hid (old_small (g := ⟨1, 0, none0, none0⟩) (fresh_old (startC_fresh cred) (cred_len (by omega)) rfl))
  clear hL hL2 hL3 HWs
  obtain ⟨⟨z0, z1, z2, z3, z4, z5, z6⟩, zf⟩ := seven_cells HX4.out
  have z := And.intro (And.intro (And.intro z0 z1) (And.intro z2 z3)) (And.intro (And.intro z4 z5) z6)
  clear z0 z1 z2 z3 z4 z5 z6 zf
  have HBu := Lib.hid HB4.out.drew
  go_wp2_with fail
  go_region_held3 (fun w' => ((w'.cell? ⟨X, 0, none⟩ = some (.int .i64 D.r.e) ∧ w'.cell? ⟨X, 1, none⟩ = some (.int .i64 D.r.k)) ∧ (w'.cell? ⟨X, 2, none⟩ = some (.slice aA an ac) ∧ w'.cell? ⟨X, 3, none⟩ = some (.slice aB am ad))) ∧ (w'.cell? ⟨X, 4, none⟩ = some (.string D.sec) ∧ w'.cell? ⟨X, 5, none⟩ = some (.slice aC n aq)) ∧ w'.cell? ⟨X, 6, none⟩ = some (.slice aE n et))
    (first | with_reducible assumption | exact z | exact keep7_below z hb3 | exact keep7_below z hb5)
    (first
      | (go_at_call 11; refine Calls.mono (HSt.out _ (HR.out.below HBu.out)) ?_; rintro _ w2 ⟨A3, cap3, l3, rfl, ho3, hp3, hb2⟩; have hb3 := Below.chain ((Below.refl w4.heap.size w4).drew) hb2)
      | (go_at_call 10; refine Calls.mono (cspread_any A3 n cap3 l3 _ D (-1) _ ho3.rd ho3.hn (by omega) (fun x hx => by have := dk_of_plats ho3 hp3 x hx; have := HSm.out; unfold smallP at this; omega) (HV4.out.below hb3) (HR.out.below (Below.chain HB4.out hb3))) ?_; rw [hp3, HL.out]; rintro _ w5 ⟨A4, n4, cap4, l4, rfl, hn4, hp4, hr4, hb4, ho4⟩; clear ho4; replace hn4 := Lib.hid hn4; have hb5 := Below.chain hb3 hb4))
  rename_i hheld
  have HX5 := hblk_below HX4 hb5
  have HB5 := Lib.hid (Below.chain HB4.out hb5)
  have HV5 := Lib.hid (HV4.out.below hb5)
  have HRc5 := Lib.hid (HRc4.out.below hb5)
  have h24 : n4 = n := by
    have h2 : (plats l4).length = n := by rw [hp4, HL2.out]
    rw [plats_len, ← hn4.out] at h2
    exact h2
  have HAs := Lib.hid (asked_any A4 n cap4 l4 a4 c4 ns cred AW wn cw ws D w5 hr4 (by rw [← h24]; exact hn4.out) (HNm.out.below HB5.out) HN.out (HRw.out.below HB5.out) HWn.out hn92 (by omega) HDn.out (fun i hi => by
    rw [hp4]
    obtain ⟨g1, g2, g3⟩ := HL3.out i (by rw [← HN.out]; exact hi)
    exact comm_ask g1 g3) (HR.out.below HB5.out))
  have Hpn := Lib.hid (show (picks ws (min n wn)).length = (picks ws (min n wn)).length from rfl)
  have HpL := Lib.hid (picks_len ws (min n wn))
  clear hheld hb5 hb4 hr4 hb2 hb3 ho3 hp3 hn4 hp4 HX4 HB4 HV4 HRc4 HBu z HSt HL HL2 HL3 HSm
  subst h24
  go_wp2_with fail
  refine Calls.mono HAs.out ?_
  rintro e w6 ⟨X1, cp1, rfl, ho1, hb6⟩
  have HO := Lib.hid ho1
  have HB6 := Lib.hid (Below.chain HB5.out hb6)
  have HX6 := hblk_below HX5 hb6
  have HV6 := Lib.hid (HV5.out.below hb6)
  have HRc6 := Lib.hid (HRc5.out.below hb6)
  clear ho1 hb6 HAs HX5 HB5 HV5 HRc5
  have HAl := Lib.hid (show (allA D [] ws (min n4 wn)).length = (picks ws (min n4 wn)).length by rw [allA_len]; simp)
  have HAa := Lib.hid (allA_two D ls ws (min n4 wn))
  have HAn := Lib.hid (show (allA D ls ws (min n4 wn)).length = m + (picks ws (min n4 wn)).length by rw [allA_len, HM.out])
  generalize allA D [] ws (min n4 wn) = al0 at *
  generalize allA D ls ws (min n4 wn) = al1 at *
  obtain ⟨pn, hpn⟩ : ∃ pn, pn = (picks ws (min n4 wn)).length := ⟨_, rfl⟩
  rw [← hpn] at HO HAl HAn HLw HpL ⊢
  replace Hpn := Lib.hid hpn
  clear hpn
  have hpn6 : pn ≤ 6 := by have := HpL.out; omega
  go_wp2_with fail
  go_loopw [25, 26] (fun vc x wr => ∃ i : Nat, i ≤ n4 ∧ i ≤ wn ∧ x = .int .i64 (i : Nat) ∧ vc = .int .i64 ((picks ws i).length : Nat) ∧ wr = w6) (fun _ x _ => n4 - (intOf x).toNat)
  case atStart => exact ⟨0, by omega, by omega, rfl, rfl, rfl⟩
  case round =>
    obtain ⟨i, hi, hi2, rfl, rfl, rfl⟩ := hrel
    have hpl := picks_len ws i
    by_cases hlt : i < n4 ∧ i < wn
    · have e1 : i < n4 := hlt.1
      have e2 : i < wn := hlt.2
      have hin : (i : Int) < (n4 : Int) := by omega
      have hiw : (i : Int) < (wn : Int) := by omega
      have hiw2 : i < ws.length := by rw [← HWn.out]; omega
      obtain ⟨bW, oW, hbW, c0⟩ := ta_bools (HRw.out.below HB6.out) hiw2
      subst hbW
      have Hbv := Lib.hid (show ws.getD i false = ws[i] by rw [List.getD_eq_getElem?_getD, List.getElem?_eq_getElem hiw2]; rfl)
      generalize ws[i] = bv at c0 Hbv
      clear hiw2 hlt
      cases bv with
      | false =>
        have Hpk := Lib.hid (picks_no Hbv.out)
        go_wp2_with fail
        go_roundw
        case rel => exact ⟨i + 1, by omega, by omega, by go_num, by rw [Hpk.out], by trivial⟩
        case measure => simp [intOf]; omega
      | true =>
        have Hpk := Lib.hid (show (picks ws (i + 1)).length = (picks ws i).length + 1 by rw [picks_yes Hbv.out]; simp)
        generalize hq : (picks ws i).length = q at Hpk hpl ⊢
        go_wp2_with fail
        go_roundw
        case rel => exact ⟨i + 1, by omega, by omega, by go_num, by rw [Hpk.out]; go_num, by trivial⟩
        case measure => simp [intOf]; omega
    · have hmin : min n4 wn = i := by omega
      have hex : ¬ i < wn ∨ (i < wn ∧ ¬ i < n4) := by
        by_cases h : i < wn
        · exact .inr ⟨h, fun h2 => hlt ⟨h2, h⟩⟩
        · exact .inl h
      have hpp : (picks ws i).length = pn := by rw [Hpn.out, hmin]
      clear hmin hlt Hpn
      rw [hpp]
      clear hpl hpp HpL
      have hne : ((pn : Int) != (pn : Int)) = false := by simp
      generalize min n4 wn = mn at *
      rcases hex with hx1 | ⟨hx1, hx2⟩
      · by_cases hk : (pn : Int) < k
        · have d6 : decide ((pn : Int) < k) = true := by simpa using hk
          clear hk
          go_wp2_with fail
          refine Calls.mono (HDt.out _ HB6.out) ?_
          rintro e w7 ⟨rfl, hb7⟩
          have HB7 := Lib.hid (Below.chain HB6.out hb7)
          clear hb7
          go_wp2_with fail
          go_ret
          exact ⟨rfl, HB7.out⟩
        have d6 : decide ((pn : Int) < k) = false := by simpa using hk
        have Hlaw := Lib.hid (HLw.out (by omega) (by trivial))
        clear hk HLw
        have hpn9 : pn ≤ 1000 := by omega
        go_wp2_with (at_builtin; refine wpList_append_copy (by rfl) (.tmp 121) (.tmp 122) 40 (by rfl) wr.heap.size 45 (.agg #[.string ⟨#[]⟩, .string ⟨#[]⟩, .int .i64 0, .string ⟨#[]⟩]) 4 56 Tryz.underlying40 ans_infoT rfl (by omega) (by rfl) AL m cL (by rfl) (answersV ls) (HRl.out.below HB6.out) (by rw [answersV_len, ← HM.out]) (ta_one ls) (by omega) (by omega) (by omega) ?_)
        intro X2 cap2 w7 ho7 hb7
        have HO7 := Lib.hid ho7
        have HP7 := Lib.hid (own_rd (own_keep HO.out hb7))
        have HW7 := Lib.hid hb7
        have hz7 := hb7.size
        clear ho7 hb7 HO
        go_wp2_with (at_builtin; refine wpList_append_more (by rfl) (.tmp 124) (.tmp 125) 40 (by rfl) wr.heap.size 45 (.agg #[.string ⟨#[]⟩, .string ⟨#[]⟩, .int .i64 0, .string ⟨#[]⟩]) 4 56 Tryz.underlying40 ans_infoT rfl (by omega) X2 m cap2 (answersV ls) (by rfl) HO7.out X1 pn cp1 (by rfl) (answersV al0) HP7.out (by rw [answersV_len, HAl.out]) (ta_one al0) (by omega) (by omega) (by omega) ?_)
        intro X3 cap3 w8 ho8 hb8
        rw [HAa.out] at ho8
        have HO8 := Lib.hid ho8
        have HW8 := Lib.hid (HW7.out.trans hb8)
        have HX8 := hblk_below HX6 HW8.out
        have HB8 := Lib.hid (HB6.out.trans (HW8.out.mono HB6.out.size))
        have HV8 := Lib.hid (HV6.out.below HW8.out)
        have HU8 := Lib.hid (unlock_any (.agg #[.int .i64 D.r.e, .int .i64 D.r.k, .slice aA an ac, .slice aB am ad]) D.r X3 (m + pn) cap3 al1 wp w8 (HRc6.out.below HW8.out) (own_rd HO8.out) HAn.out.symm (by omega) (HR.out.below HB8.out) (HT.out.below HB8.out))
        clear ho8 hb8 hz7 HO7 HP7 HW7 HW8 HX6 HV6 HRc6
        generalize unlE D.r al1 wp = ue at HU8 Hlaw
        generalize unlS D.r al1 wp = us at HU8 Hlaw
        obtain ⟨⟨x0, x1, x2, x3, x4, x5, x6⟩, _⟩ := seven_cells HX8.out
        go_wp2_with fail
        refine HU8.out.mono ?_
        rintro e w9 ⟨rfl, hb9⟩
        have HX9 := hblk_below HX8 hb9
        have HB9 := Lib.hid (Below.chain HB8.out hb9)
        have HBl := Lib.hid (blame_xyz (.agg #[.int .i64 D.r.e, .int .i64 D.r.k, .slice aA an ac, .slice aB am ad, .string D.sec, .slice aC n4 aq, .slice aE n4 et]) D X3 (m + pn) cap3 al1 w9 (HV8.out.below hb9) (by rw [HLs.out, HLn.out]) (by rw [HLa.out, HLn.out]) (by rw [HLn.out]; omega) (own_rd (own_keep HO8.out hb9)) HAn.out.symm (by omega) (HR.out.below HB9.out))
        clear hb9 x0 x1 x2 x3 x4 x5 x6 HU8 HX8 HB8 HV8 HO8
        obtain ⟨⟨x0, x1, x2, x3, x4, x5, x6⟩, _⟩ := seven_cells HX9.out
        go_wp2_with fail
        refine HBl.out.mono ?_
        rintro e w10 ⟨bx, by', bk, rfl, hz1, hz2, hbl, hb10⟩
        have HB10 := Lib.hid (Below.chain HB9.out hb10)
        have Hbl := Lib.hid hbl
        have HSn := Lib.hid (fun W h => shown_any bx by' bk W h (by omega) (by omega))
        clear hb10 x0 x1 x2 x3 x4 x5 x6 HBl HX9 HB9 hbl hz1 hz2
        go_wp2_with fail
        refine Calls.mono (HDt.out _ HB10.out) ?_
        rintro e w11 ⟨rfl, hb11⟩
        have HB11 := Lib.hid (Below.chain HB10.out hb11)
        clear hb11 HB10
        by_cases hu : ue = 0
        · subst hu
          by_cases hs : us = master
          · subst hs
            have d7 : (us.toList == us.toList) = true := beq_self_eq_true _
            clear Hlaw
            go_wp2_with fail
            go_ret
            exact ⟨rfl, HB11.out⟩
          · have d7 := text_ne' hs
            have Hex := Lib.hid (Hbl.out (Hlaw.out.resolve_left (fun e => hs e.2)))
            clear hs Hlaw
            go_wp2_with fail
            refine (HSn.out _ (HR.out.below HB11.out)).mono ?_
            rintro e w12 ⟨r, rfl, hr, hb12⟩
            obtain rfl := hr Hex.out
            have HB12 := Lib.hid (Below.chain HB11.out hb12)
            clear hb12 hr
            go_wp2_with fail
            go_ret
            exact ⟨rfl, HB12.out⟩
        · have d7 : ((ue : Int) == 0) = false := by simp; omega
          have Hex := Lib.hid (Hbl.out (Hlaw.out.resolve_left (fun e => hu e.1)))
          clear hu Hlaw
          go_wp2_with fail
          refine (HSn.out _ (HR.out.below HB11.out)).mono ?_
          rintro e w12 ⟨r, rfl, hr, hb12⟩
          obtain rfl := hr Hex.out
          have HB12 := Lib.hid (Below.chain HB11.out hb12)
          clear hb12 hr
          go_wp2_with fail
          go_ret
          exact ⟨rfl, HB12.out⟩
      · by_cases hk : (pn : Int) < k
        · have d6 : decide ((pn : Int) < k) = true := by simpa using hk
          clear hk
          go_wp2_with fail
          refine Calls.mono (HDt.out _ HB6.out) ?_
          rintro e w7 ⟨rfl, hb7⟩
          have HB7 := Lib.hid (Below.chain HB6.out hb7)
          clear hb7
          go_wp2_with fail
          go_ret
          exact ⟨rfl, HB7.out⟩
        have d6 : decide ((pn : Int) < k) = false := by simpa using hk
        have Hlaw := Lib.hid (HLw.out (by omega) (by trivial))
        clear hk HLw
        have hpn9 : pn ≤ 1000 := by omega
        go_wp2_with (at_builtin; refine wpList_append_copy (by rfl) (.tmp 121) (.tmp 122) 40 (by rfl) wr.heap.size 45 (.agg #[.string ⟨#[]⟩, .string ⟨#[]⟩, .int .i64 0, .string ⟨#[]⟩]) 4 56 Tryz.underlying40 ans_infoT rfl (by omega) (by rfl) AL m cL (by rfl) (answersV ls) (HRl.out.below HB6.out) (by rw [answersV_len, ← HM.out]) (ta_one ls) (by omega) (by omega) (by omega) ?_)
        intro X2 cap2 w7 ho7 hb7
        have HO7 := Lib.hid ho7
        have HP7 := Lib.hid (own_rd (own_keep HO.out hb7))
        have HW7 := Lib.hid hb7
        have hz7 := hb7.size
        clear ho7 hb7 HO
        go_wp2_with (at_builtin; refine wpList_append_more (by rfl) (.tmp 124) (.tmp 125) 40 (by rfl) wr.heap.size 45 (.agg #[.string ⟨#[]⟩, .string ⟨#[]⟩, .int .i64 0, .string ⟨#[]⟩]) 4 56 Tryz.underlying40 ans_infoT rfl (by omega) X2 m cap2 (answersV ls) (by rfl) HO7.out X1 pn cp1 (by rfl) (answersV al0) HP7.out (by rw [answersV_len, HAl.out]) (ta_one al0) (by omega) (by omega) (by omega) ?_)
        intro X3 cap3 w8 ho8 hb8
        rw [HAa.out] at ho8
        have HO8 := Lib.hid ho8
        have HW8 := Lib.hid (HW7.out.trans hb8)
        have HX8 := hblk_below HX6 HW8.out
        have HB8 := Lib.hid (HB6.out.trans (HW8.out.mono HB6.out.size))
        have HV8 := Lib.hid (HV6.out.below HW8.out)
        have HU8 := Lib.hid (unlock_any (.agg #[.int .i64 D.r.e, .int .i64 D.r.k, .slice aA an ac, .slice aB am ad]) D.r X3 (m + pn) cap3 al1 wp w8 (HRc6.out.below HW8.out) (own_rd HO8.out) HAn.out.symm (by omega) (HR.out.below HB8.out) (HT.out.below HB8.out))
        clear ho8 hb8 hz7 HO7 HP7 HW7 HW8 HX6 HV6 HRc6
        generalize unlE D.r al1 wp = ue at HU8 Hlaw
        generalize unlS D.r al1 wp = us at HU8 Hlaw
        obtain ⟨⟨x0, x1, x2, x3, x4, x5, x6⟩, _⟩ := seven_cells HX8.out
        go_wp2_with fail
        refine HU8.out.mono ?_
        rintro e w9 ⟨rfl, hb9⟩
        have HX9 := hblk_below HX8 hb9
        have HB9 := Lib.hid (Below.chain HB8.out hb9)
        have HBl := Lib.hid (blame_xyz (.agg #[.int .i64 D.r.e, .int .i64 D.r.k, .slice aA an ac, .slice aB am ad, .string D.sec, .slice aC n4 aq, .slice aE n4 et]) D X3 (m + pn) cap3 al1 w9 (HV8.out.below hb9) (by rw [HLs.out, HLn.out]) (by rw [HLa.out, HLn.out]) (by rw [HLn.out]; omega) (own_rd (own_keep HO8.out hb9)) HAn.out.symm (by omega) (HR.out.below HB9.out))
        clear hb9 x0 x1 x2 x3 x4 x5 x6 HU8 HX8 HB8 HV8 HO8
        obtain ⟨⟨x0, x1, x2, x3, x4, x5, x6⟩, _⟩ := seven_cells HX9.out
        go_wp2_with fail
        refine HBl.out.mono ?_
        rintro e w10 ⟨bx, by', bk, rfl, hz1, hz2, hbl, hb10⟩
        have HB10 := Lib.hid (Below.chain HB9.out hb10)
        have Hbl := Lib.hid hbl
        have HSn := Lib.hid (fun W h => shown_any bx by' bk W h (by omega) (by omega))
        clear hb10 x0 x1 x2 x3 x4 x5 x6 HBl HX9 HB9 hbl hz1 hz2
        go_wp2_with fail
        refine Calls.mono (HDt.out _ HB10.out) ?_
        rintro e w11 ⟨rfl, hb11⟩
        have HB11 := Lib.hid (Below.chain HB10.out hb11)
        clear hb11 HB10
        by_cases hu : ue = 0
        · subst hu
          by_cases hs : us = master
          · subst hs
            have d7 : (us.toList == us.toList) = true := beq_self_eq_true _
            clear Hlaw
            go_wp2_with fail
            go_ret
            exact ⟨rfl, HB11.out⟩
          · have d7 := text_ne' hs
            have Hex := Lib.hid (Hbl.out (Hlaw.out.resolve_left (fun e => hs e.2)))
            clear hs Hlaw
            go_wp2_with fail
            refine (HSn.out _ (HR.out.below HB11.out)).mono ?_
            rintro e w12 ⟨r, rfl, hr, hb12⟩
            obtain rfl := hr Hex.out
            have HB12 := Lib.hid (Below.chain HB11.out hb12)
            clear hb12 hr
            go_wp2_with fail
            go_ret
            exact ⟨rfl, HB12.out⟩
        · have d7 : ((ue : Int) == 0) = false := by simp; omega
          have Hex := Lib.hid (Hbl.out (Hlaw.out.resolve_left (fun e => hu e.1)))
          clear hu Hlaw
          go_wp2_with fail
          refine (HSn.out _ (HR.out.below HB11.out)).mono ?_
          rintro e w12 ⟨r, rfl, hr, hb12⟩
          obtain rfl := hr Hex.out
          have HB12 := Lib.hid (Below.chain HB11.out hb12)
          clear hb12 hr
          go_wp2_with fail
          go_ret
          exact ⟨rfl, HB12.out⟩
end

end Go.Proofs.YtkbjmmigjjdfpaaGreatDoor
