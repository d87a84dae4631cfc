/-
  Contract of holder.Ask. (Printed by gen_ask.py.)
-/
import Derived.Test.YtniglledpjheaaaGreatDoorHoldC
import Derived.Deep.CutRange
namespace Go.Proofs.YtniglledpjheaaaGreatDoor
open Go.RowKit
set_option linter.unusedVariables false
set_option maxRecDepth 100000
set_option maxHeartbeats 2000000
set_option linter.unusedSimpArgs false

/-- What is told who asks is handed back. -/
def AskR (w : World) (r : Told) (e : Ending) (w' : World) : Prop := ∃ v, e = .returned (.tuple #[.agg #[.int .i64 r.x, .string r.b], .string r.salt, v, .int .i64 r.e]) ∧ PlV w' v r.p ∧ Below w.heap.size w w'
theorem res_ask {P : Program} {fn : Func} {a b t u : Tmp} {ta tb : TypeId} (h : fn.results = #[.cell a ta, .tmp t, .cell b tb, .tmp u]) (tmps : Array Value) (w : World) (g k : Nat) (ha : tmps.getD a undef = .pointer (some ⟨g, 0, none⟩)) (hb : tmps.getD b undef = .pointer (some ⟨k, 0, none⟩)) (x y : Value)
    (hl : (loadVar ta ⟨g, 0, none⟩).run P w = .ok x w) (hk : (loadVar tb ⟨k, 0, none⟩).run P w = .ok y w) : (results fn tmps).run P w = .ok (.tuple #[x, tmps.getD t undef, y, tmps.getD u undef]) w := by
  have ha' : tmps[a]?.getD undef = .pointer (some ⟨g, 0, none⟩) := by simpa using ha
  have hb' : tmps[b]?.getD undef = .pointer (some ⟨k, 0, none⟩) := by simpa using hb
  simp [results, h, asAddr, ha', hb', hl, hk]
theorem load_share {w : World} {g : Nat} {a b : Value} {t : TypeId} (h : w.heap[g]? = some (.cells #[a, b] t (0, 0))) : (loadVar 23 ⟨g, 0, none⟩).run Tryz.prog w = .ok (.agg #[a, b]) w :=
  run_loadVar_mid (P := Tryz.prog) w g 0 23 [a, b] _ (fun j v hj => by
    cases j with
    | zero => simp at hj; subst hj; exact (two_cells h).1
    | succ j => cases j with
      | zero => simp at hj; subst hj; exact (two_cells h).2.1
      | succ j => simp at hj) Tryz.underlying23 rfl (by kernel_rfl)
theorem PB.two_two {w : World} {A B : Option Addr} {n m : Nat} {P : Plat} (h : PB w A n B m P) {g k : Nat} {a b c d : Value} {t : TypeId} (hg : w.heap[g]? = some (.cells #[a, b] t (0, 0))) (hk : w.heap[k]? = some (.cells #[c, d] 27 (0, 0))) (h1 : t ≠ 9) (h2 : t ≠ 78) (hne : g ≠ k) (x y p q : Value) :
    PB ((((w.setCell ⟨g, 0, none⟩ x).setCell ⟨g, 1, none⟩ y).setCell ⟨k, 0, none⟩ p).setCell ⟨k, 1, none⟩ q) A n B m P := by
  have e2 : ((w.setCell ⟨g, 0, none⟩ x).setCell ⟨g, 1, none⟩ y).heap[k]? = some (.cells #[c, d] 27 (0, 0)) := (Below.heap_setCell _ ⟨g, 1, none⟩ y k (Ne.symm hne)).trans ((Below.heap_setCell w ⟨g, 0, none⟩ x k (Ne.symm hne)).trans hk)
  exact (((h.setT hg h1 h2 0 x).setT (blk_set hg 0 x) h1 h2 1 y).setT e2 (by decide) (by decide) 0 p).setT (blk_set e2 0 p) (by decide) (by decide) 1 q
theorem keep2_drew {W : World} {p q : Addr} {u v : Value} (h : W.cell? p = some u ∧ W.cell? q = some v) : W.drew.cell? p = some u ∧ W.drew.cell? q = some v := h
theorem keep4_drew {W : World} {p q r s : Addr} {u v x y : Value} (h : (W.cell? p = some u ∧ W.cell? q = some v) ∧ (W.cell? r = some x ∧ W.cell? s = some y)) : (W.drew.cell? p = some u ∧ W.drew.cell? q = some v) ∧ (W.drew.cell? r = some x ∧ W.drew.cell? s = some y) := h
theorem keep2_set2 {W : World} {g b i j : Nat} {a c u v : Value} (hne : g ≠ b) (h : W.cell? ⟨b, i, none⟩ = some u ∧ W.cell? ⟨b, j, none⟩ = some v) : ((W.setCell ⟨g, 0, none⟩ a).setCell ⟨g, 1, none⟩ c).cell? ⟨b, i, none⟩ = some u ∧ ((W.setCell ⟨g, 0, none⟩ a).setCell ⟨g, 1, none⟩ c).cell? ⟨b, j, none⟩ = some v :=
  keep2_set (keep2_set h (by simp [hne]) (by simp [hne])) (by simp [hne]) (by simp [hne])
theorem keep4_set2 {W : World} {g b k i j m n : Nat} {a c u v x y : Value} (hne : g ≠ b) (hne2 : g ≠ k) (h : (W.cell? ⟨b, i, none⟩ = some u ∧ W.cell? ⟨b, j, none⟩ = some v) ∧ (W.cell? ⟨k, m, none⟩ = some x ∧ W.cell? ⟨k, n, none⟩ = some y)) :
    (((W.setCell ⟨g, 0, none⟩ a).setCell ⟨g, 1, none⟩ c).cell? ⟨b, i, none⟩ = some u ∧ ((W.setCell ⟨g, 0, none⟩ a).setCell ⟨g, 1, none⟩ c).cell? ⟨b, j, none⟩ = some v) ∧ (((W.setCell ⟨g, 0, none⟩ a).setCell ⟨g, 1, none⟩ c).cell? ⟨k, m, none⟩ = some x ∧ ((W.setCell ⟨g, 0, none⟩ a).setCell ⟨g, 1, none⟩ c).cell? ⟨k, n, none⟩ = some y) := ⟨keep2_set2 hne h.1, keep2_set2 hne2 h.2⟩
abbrev zS : Array Value := #[.int .i64 0, .string ⟨#[]⟩]
/-- Two blocks of two cells stored into, one behind the other. -/
theorem two_two {w : World} {g k : Nat} {t u : TypeId} {a b c d : Value} (hne : g ≠ k) (hg : w.heap[g]? = some (.cells #[a, b] t (0, 0))) (hk : w.heap[k]? = some (.cells #[c, d] u (0, 0))) (x y p q : Value) :
    ((((w.setCell ⟨g, 0, none⟩ x).setCell ⟨g, 1, none⟩ y).setCell ⟨k, 0, none⟩ p).setCell ⟨k, 1, none⟩ q).heap[g]? = some (.cells #[x, y] t (0, 0)) ∧ ((((w.setCell ⟨g, 0, none⟩ x).setCell ⟨g, 1, none⟩ y).setCell ⟨k, 0, none⟩ p).setCell ⟨k, 1, none⟩ q).heap[k]? = some (.cells #[p, q] u (0, 0)) ∧ ((w.setCell ⟨g, 0, none⟩ x).setCell ⟨g, 1, none⟩ y).heap[k]? = some (.cells #[c, d] u (0, 0)) := by
  have h1 := two_set hg x y
  have h2 : ((w.setCell ⟨g, 0, none⟩ x).setCell ⟨g, 1, none⟩ y).heap[k]? = some (.cells #[c, d] u (0, 0)) := (Below.heap_setCell _ ⟨g, 1, none⟩ y k (Ne.symm hne)).trans ((Below.heap_setCell w ⟨g, 0, none⟩ x k (Ne.symm hne)).trans hk)
  exact ⟨(Below.heap_setCell _ ⟨k, 1, none⟩ q g hne).trans ((Below.heap_setCell _ ⟨k, 0, none⟩ p g hne).trans h1), two_set h2 p q, h2⟩
theorem hask_any (v : Value) (P : Plat) (cred : ByteArray) (deeds : Int) (w : World) (h : PlV w v P) (hR : Rounds w) (hdd : deeds ≤ 9223372036854775807) :
    Calls Tryz.prog 11 #[v, .string cred, .int .i64 deeds] w (AskR w (askH P (sumB cred) deeds)) := by
  obtain ⟨A, n, c, B, m, d, rfl, h⟩ := h
  obtain ⟨hA, hS, hX, hbA⟩ := three_new w #[.slice A n c, .slice B m d] zS zP 27 23 27
  have HA := Lib.hid hA
  have HS := Lib.hid hS
  have HX := Lib.hid hX
  have HB := Lib.hid hbA
  have HP := Lib.hid (h.below hbA)
  have HRw := Lib.hid hR
  have HR := Lib.hid hR
  have HBr := Lib.hid hbA
  have hep := Lib.hid (getH_w P)
  obtain ⟨sm, hsm⟩ : ∃ sm, sm = sumB cred := ⟨_, rfl⟩
  have Hsm := Lib.hid hsm
  rw [← hsm]
  obtain ⟨q, hq⟩ : ∃ q, q = getH P := ⟨_, rfl⟩
  have HG : Hid (askH P sm deeds = if q.2 ≠ 0 then nothing noPlat q.2 else if q.1.x = 0 then nothing noPlat 212 else if 5 ≤ q.1.tries then nothing noPlat 210
    else if (rowP P deeds [(0, nowB { q.1 with tries := q.1.tries + 1 })]).2 ≠ 0 then nothing (rowP P deeds [(0, nowB { q.1 with tries := q.1.tries + 1 })]).1 (rowP P deeds [(0, nowB { q.1 with tries := q.1.tries + 1 })]).2
    else if q.1.cred ≠ sm then nothing (rowP P deeds [(0, nowB { q.1 with tries := q.1.tries + 1 })]).1 211
    else if (rowP (rowP P deeds [(0, nowB { q.1 with tries := q.1.tries + 1 })]).1 (if 4 ≤ deeds then deeds - 4 else deeds) [(0, nowB { q.1 with tries := 0 })]).2 ≠ 0 then nothing (rowP (rowP P deeds [(0, nowB { q.1 with tries := q.1.tries + 1 })]).1 (if 4 ≤ deeds then deeds - 4 else deeds) [(0, nowB { q.1 with tries := 0 })]).1 (rowP (rowP P deeds [(0, nowB { q.1 with tries := q.1.tries + 1 })]).1 (if 4 ≤ deeds then deeds - 4 else deeds) [(0, nowB { q.1 with tries := 0 })]).2
    else ⟨q.1.x, q.1.b, q.1.salt, (rowP (rowP P deeds [(0, nowB { q.1 with tries := q.1.tries + 1 })]).1 (if 4 ≤ deeds then deeds - 4 else deeds) [(0, nowB { q.1 with tries := 0 })]).1, 0⟩) := Lib.hid (by rw [hq]; rfl)
  rw [← hq] at hep
  have Hq := Lib.hid hq
  obtain ⟨⟨h0, h1, h2, h3, h4, h5, h6, h7, h8, h9⟩, er⟩ := q
  simp only at HG hep
  clear h hA hS hX hbA hq hsm hR
  go_enter Tryz.func11, Tryz.ntmps11
  go_wp2_with fail
  refine (hget_any _ P _ ⟨_, _, _, _, _, _, rfl, HP.out⟩).mono ?_
  rintro e w1 ⟨rfl, hb1⟩
  rw [← Hq.out]
  replace HX := hblk_below HX hb1
  replace HA := hblk_below HA hb1
  replace HS := hblk_below HS hb1
  replace HB := Lib.hid (HB.out.trans (hb1.mono HB.out.size))
  replace HP := Lib.hid (HP.out.below hb1)
  replace HR := Lib.hid ((HR.out.below (HBr.out)).below hb1)
  have hltX := cell_lt_of HX.out
  clear hb1
  have al : ∀ C : Array Value, Below w1.heap.size w1 (w1.alloc (.cells C 39)) := fun C => (Below.refl w1.heap.size w1).alloc (Nat.le_refl _) _
  have hb2 := al #[.int .i64 h0, .int .i64 h1, .int .i64 h2, .string h3, .string h4, .string h5, .int .i64 h6, .int .i64 h7, .string h8, .string h9]
  have HX2 := hblk_below HX hb2
  have HA2 := hblk_below HA hb2
  have HS2 := hblk_below HS hb2
  have HB2 := Lib.hid (HB.out.trans (hb2.mono HB.out.size))
  have H4 := Lib.hid (heap_alloc_new w1 (.cells #[.int .i64 h0, .int .i64 h1, .int .i64 h2, .string h3, .string h4, .string h5, .int .i64 h6, .int .i64 h7, .string h8, .string h9] 39))
  obtain ⟨x0, x1, x2, x3⟩ := two_cells HX2.out
  obtain ⟨s0, s1, s2, s3⟩ := two_cells HS2.out
  obtain ⟨a0, a1, _, _⟩ := two_cells HA2.out
  obtain ⟨⟨e0, e1, e2, e3, e4, e5, e6, e7, e8, e9⟩, ef⟩ := ten_cells H4.out
  have ef1 := ef 1
  clear hb2 ef
  unfold hdV
  by_cases her : er = 0
  · subst her
    by_cases hx : h2 = 0
    · have HE := Lib.hid (show askH P sm deeds = nothing noPlat 212 by rw [HG.out, if_neg (by simp), if_pos hx])
      have d1 : (h2 == 0) = true := by simpa using hx
      clear hx
      go_wp2_with fail
      obtain ⟨k1, k2, k3⟩ := two_two (show w.heap.size + 1 ≠ w.heap.size + 1 + 1 by omega) HS2.out HX2.out (.int .i64 0) (.string ⟨#[]⟩) (.slice none 0 0) (.slice none 0 0)
      try simp only [Exit.inBlock, Exit.then]
      refine bodyPost_ret (res_ask rfl _ _ (w.heap.size + 1) (w.heap.size + 1 + 1) (by rfl) (by rfl) _ _ (load_share k1) (load_plat_new k2)) rfl ?_
      rw [HE.out]
      exact ⟨_, rfl, PlV.no _, two_by (two_by HB2.out (by omega) _ _) (by omega) _ _⟩
    · have d1 : (h2 == 0) = false := by simpa using hx
      by_cases ht : 5 ≤ h1
      · have HE := Lib.hid (show askH P sm deeds = nothing noPlat 210 by rw [HG.out, if_neg (by simp), if_neg hx, if_pos ht])
        have d2 : decide (5 ≤ h1) = true := by simpa using ht
        clear hx ht
        go_wp2_with fail
        obtain ⟨k1, k2, k3⟩ := two_two (show w.heap.size + 1 ≠ w.heap.size + 1 + 1 by omega) HS2.out HX2.out (.int .i64 0) (.string ⟨#[]⟩) (.slice none 0 0) (.slice none 0 0)
        try simp only [Exit.inBlock, Exit.then]
        refine bodyPost_ret (res_ask rfl _ _ (w.heap.size + 1) (w.heap.size + 1 + 1) (by rfl) (by rfl) _ _ (load_share k1) (load_plat_new k2)) rfl ?_
        rw [HE.out]
        exact ⟨_, rfl, PlV.no _, two_by (two_by HB2.out (by omega) _ _) (by omega) _ _⟩
      · have d2 : decide (5 ≤ h1) = false := by simpa using ht
        have ht0 := hep.out.t0
        simp only at ht0
        have hb3 := al #[.int .i64 h0, .int .i64 (h1 + 1), .int .i64 h2, .string h3, .string h4, .string h5, .int .i64 h6, .int .i64 h7, .string h8, .string h9]
        replace HX2 := hblk_below HX hb3
        replace HA2 := hblk_below HA hb3
        replace HS2 := hblk_below HS hb3
        replace HB2 := Lib.hid (HB.out.trans (hb3.mono HB.out.size))
        have HP2 := Lib.hid (HP.out.below hb3)
        replace HR := Lib.hid (HR.out.below hb3)
        replace H4 := Lib.hid (heap_alloc_new w1 (.cells #[.int .i64 h0, .int .i64 (h1 + 1), .int .i64 h2, .string h3, .string h4, .string h5, .int .i64 h6, .int .i64 h7, .string h8, .string h9] 39))
        clear hb3 s0 s1 s2 s3 x0 x1 x2 x3
        obtain ⟨tx, htx⟩ : ∃ tx, tx = nowB ⟨h0, h1 + 1, h2, h3, h4, h5, h6, h7, h8, h9⟩ := ⟨_, rfl⟩
        have HNT := Lib.hid (show ∀ W, Calls Tryz.prog 18 #[.agg #[.int .i64 h0, .int .i64 (h1 + 1), .int .i64 h2, .string h3, .string h4, .string h5, .int .i64 h6, .int .i64 h7, .string h8, .string h9]] W fun e w' => e = .returned (.string tx) ∧ Below W.heap.size W w' from fun W => by rw [htx]; exact nowText_any ⟨h0, h1 + 1, h2, h3, h4, h5, h6, h7, h8, h9⟩ W hep.out.epoch (Nat.le_trans hep.out.b (by omega)) (Nat.le_trans hep.out.s (by omega)) (Nat.le_trans hep.out.c (by omega)))
        have Htx := Lib.hid htx
        clear htx a0 a1 e0 e1 e2 e3 e4 e5 e6 e7 e8 e9 ef1
        have ef1 := (ten_cells (heap_alloc_new w1 (.cells #[.int .i64 h0, .int .i64 h1, .int .i64 h2, .string h3, .string h4, .string h5, .int .i64 h6, .int .i64 h7, .string h8, .string h9] 39))).2 1
        obtain ⟨⟨_, e1, e2, _⟩, _⟩ := ten_cells (heap_alloc_new w1 (.cells #[.int .i64 h0, .int .i64 h1, .int .i64 h2, .string h3, .string h4, .string h5, .int .i64 h6, .int .i64 h7, .string h8, .string h9] 39))
        go_wp2_with fail
        obtain ⟨w2, hw2⟩ : ∃ w2, w2 = w1.alloc (.cells #[.int .i64 h0, .int .i64 (h1 + 1), .int .i64 h2, .string h3, .string h4, .string h5, .int .i64 h6, .int .i64 h7, .string h8, .string h9] 39) := ⟨_, rfl⟩
        rw [← hw2] at HX2 HA2 HS2 HB2 HP2 HR H4 ⊢
        clear hw2 e1 e2 ef1
        have hlt2 := cell_lt_of H4.out
        obtain ⟨a0, a1, _, _⟩ := two_cells HA2.out
        obtain ⟨⟨e0, e1, e2, e3, e4, e5, e6, e7, e8, e9⟩, _⟩ := ten_cells H4.out
        have HR0 := HRw
        go_cut [11] from 40 to 49 (fun v wc => ∃ (er : Int) (Qx : Plat) (A1 : Option Addr) (n1 c1 : Nat) (B1 : Option Addr) (m1 d1 : Nat), v = .int .i64 er ∧ rowP P deeds [(0, tx)] = (Qx, er) ∧ wc.heap[w.heap.size]? = some (.cells #[.slice A1 n1 c1, .slice B1 m1 d1] 27 (0, 0)) ∧ wc.heap[w.heap.size + 1]? = some (.cells zS 23 (0, 0)) ∧ wc.heap[w.heap.size + 1 + 1]? = some (.cells zP 27 (0, 0)) ∧ wc.heap[w1.heap.size]? = some (.cells #[.int .i64 h0, .int .i64 (h1 + 1), .int .i64 h2, .string h3, .string h4, .string h5, .int .i64 h6, .int .i64 h7, .string h8, .string h9] 39 (0, 0)) ∧ PB wc A1 n1 B1 m1 Qx ∧ Below w.heap.size w wc ∧ Rounds wc)
        case first =>
          go_region_law (first
            | (go_simp; go_at_call 18; refine Calls.mono (HNT.out _) ?_; rintro _ w4 ⟨rfl, hb4'⟩; have hb4 := Below.chain ((Below.refl _ w2).drew) hb4'; clear hb4'; replace HA2 := hblk_below HA2 hb4; replace HS2 := hblk_below HS2 hb4; replace HX2 := hblk_below HX2 hb4; replace H4 := hblk_below H4 hb4; replace HB2 := Lib.hid (HB2.out.trans (hb4.mono HB2.out.size)); replace HP2 := Lib.hid (HP2.out.below hb4); replace HR := Lib.hid (HR.out.below hb4); have hba := (Below.refl w4.heap.size w4).alloc (Nat.le_refl _) (.cells #[.int .i64 0, .string tx] 51); obtain ⟨b0, b1, _, _⟩ := two_cells HA2.out; obtain ⟨f0, f1, _, _⟩ := two_cells (cells_below HA2.out hba))
            | (go_simp; go_at_call 17; refine (row_any _ _ 1 1 deeds P [(0, tx)] _ ⟨_, _, _, _, _, _, rfl, HP2.out.below hba⟩ (by exact rd_new' w4 _ _ _ rfl) rfl (by simp) (by omega) (by omega)).mono ?_; rintro _ w5 ⟨v5, rfl, hv5, hb5'⟩; have hb5 := Below.chain hba hb5'; replace HA2 := hblk_below HA2 hb5; replace HS2 := hblk_below HS2 hb5; replace HX2 := hblk_below HX2 hb5; replace H4 := hblk_below H4 hb5; replace HB2 := Lib.hid (HB2.out.trans (hb5.mono HB2.out.size)); replace HR := Lib.hid (HR.out.below hb5); obtain ⟨A6, n6, c6, B6, m6, d6, rfl, hO6⟩ := hv5; obtain ⟨y0, y1, y2, y3⟩ := two_cells HA2.out))

          all_goals
            go_wp2_with fail
            go_meet
            case rel =>
              obtain ⟨q, hq⟩ : ∃ q, q = rowP P deeds [(0, tx)] := ⟨_, rfl⟩
              rw [← hq] at hO6 ⊢
              obtain ⟨Qx, er1⟩ := q
              have hsets := two_by (w0 := w) (w := w5) HB2.out (Nat.le_refl w.heap.size) (.slice A6 n6 c6) (.slice B6 m6 d6)
              refine ⟨er1, Qx, A6, n6, c6, B6, m6, d6, rfl, rfl, two_set HA2.out _ _, (Below.heap_setCell _ ⟨w.heap.size, 1, none⟩ _ (w.heap.size + 1) (by simp)).trans ((Below.heap_setCell _ ⟨w.heap.size, 0, none⟩ _ (w.heap.size + 1) (by simp)).trans HS2.out), (Below.heap_setCell _ ⟨w.heap.size, 1, none⟩ _ (w.heap.size + 1 + 1) (by simp; omega)).trans ((Below.heap_setCell _ ⟨w.heap.size, 0, none⟩ _ (w.heap.size + 1 + 1) (by simp; omega)).trans HX2.out), (Below.heap_setCell _ ⟨w.heap.size, 1, none⟩ _ w1.heap.size (by simp; omega)).trans ((Below.heap_setCell _ ⟨w.heap.size, 0, none⟩ _ w1.heap.size (by simp; omega)).trans H4.out), hO6.two HA2.out, hsets, HR0.out.below hsets⟩
        case rest =>
          obtain ⟨er, Q1, A1, n1, c1, B1, m1, d1', rfl, hrow, hA', hS', hX', hH', hP', hB', hR'⟩ := hcut
          have HAc := Lib.hid hA'
          have HSc := Lib.hid hS'
          have HXc := Lib.hid hX'
          have Hhc := Lib.hid hH'
          have HPc := Lib.hid hP'
          have HBc := Lib.hid hB'
          have HRc := Lib.hid hR'
          have HG3 := Lib.hid (show askH P sm deeds = if er ≠ 0 then nothing Q1 er else if h5 ≠ sm then nothing Q1 211 else if (rowP Q1 (if 4 ≤ deeds then deeds - 4 else deeds) [(0, nowB ⟨h0, 0, h2, h3, h4, h5, h6, h7, h8, h9⟩)]).2 ≠ 0 then nothing (rowP Q1 (if 4 ≤ deeds then deeds - 4 else deeds) [(0, nowB ⟨h0, 0, h2, h3, h4, h5, h6, h7, h8, h9⟩)]).1 (rowP Q1 (if 4 ≤ deeds then deeds - 4 else deeds) [(0, nowB ⟨h0, 0, h2, h3, h4, h5, h6, h7, h8, h9⟩)]).2
            else ⟨h2, h3, h4, (rowP Q1 (if 4 ≤ deeds then deeds - 4 else deeds) [(0, nowB ⟨h0, 0, h2, h3, h4, h5, h6, h7, h8, h9⟩)]).1, 0⟩ by rw [HG.out, if_neg (by simp), if_neg hx, if_neg (show ¬ 5 ≤ h1 by omega), ← Htx.out, hrow])
          clear a0 a1 e0 e1 e2 e3 e4 e5 e6 e7 e8 e9 d1 d2
          obtain ⟨p0, p1, _, _⟩ := two_cells hA'
          obtain ⟨s0, s1, s2, s3⟩ := two_cells hS'
          obtain ⟨x0, x1, x2, x3⟩ := two_cells hX'
          obtain ⟨⟨e0, e1, e2, e3, e4, e5, e6, e7, e8, e9⟩, ef⟩ := ten_cells hH'
          have ef1 := ef 1
          clear hA' hS' hX' hH' hP' hB' hR' ef HNT hrow
          by_cases hee : er = 0
          · subst hee
            clear e0 e1 e2 e3 e4 e6 e7 e8 e9 p0 p1
            have HG4 := Lib.hid (show askH P sm deeds = if h5 ≠ sm then nothing Q1 211 else if (rowP Q1 (if 4 ≤ deeds then deeds - 4 else deeds) [(0, nowB ⟨h0, 0, h2, h3, h4, h5, h6, h7, h8, h9⟩)]).2 ≠ 0 then nothing (rowP Q1 (if 4 ≤ deeds then deeds - 4 else deeds) [(0, nowB ⟨h0, 0, h2, h3, h4, h5, h6, h7, h8, h9⟩)]).1 (rowP Q1 (if 4 ≤ deeds then deeds - 4 else deeds) [(0, nowB ⟨h0, 0, h2, h3, h4, h5, h6, h7, h8, h9⟩)]).2
              else ⟨h2, h3, h4, (rowP Q1 (if 4 ≤ deeds then deeds - 4 else deeds) [(0, nowB ⟨h0, 0, h2, h3, h4, h5, h6, h7, h8, h9⟩)]).1, 0⟩ by rw [HG3.out, if_neg (by simp)])
            go_wp2_with fail
            go_region_held3 (fun w' => w'.cell? ⟨w1.heap.size, 5, none⟩ = some (.string h5) ∧ w'.cell? ⟨w1.heap.size, 5, none⟩ = some (.string h5))
              (first | with_reducible assumption | with_reducible exact keep2_drew ⟨e5, e5⟩ | with_reducible exact keep2_below (keep2_drew ⟨e5, e5⟩) (by assumption))
              (first
                | ((go_at_call 19; refine (dsum_any cred _ (by exact HRc.out)).mono ?_); rintro _ w6 ⟨rfl, hb6'⟩; rw [← Hsm.out]; have hb6 := Below.chain ((Below.refl _ wc).drew) hb6')
                | ((go_at_call 27; refine (dsame_any h5 sm _).mono ?_); rintro _ w7 ⟨rfl, rfl⟩))
            replace HAc := hblk_below HAc hb6
            replace HSc := hblk_below HSc hb6
            replace HXc := hblk_below HXc hb6
            replace Hhc := hblk_below Hhc hb6
            replace HPc := Lib.hid (HPc.out.below hb6)
            replace HBc := Lib.hid (HBc.out.trans (hb6.mono HBc.out.size))
            replace HRc := Lib.hid (HRc.out.below hb6)
            clear s0 s1 s2 s3 x0 x1 x2 x3 e5 ef1
            obtain ⟨p0, p1, _, _⟩ := two_cells HAc.out
            obtain ⟨s0, s1, s2, s3⟩ := two_cells HSc.out
            obtain ⟨x0, x1, x2, x3⟩ := two_cells HXc.out
            by_cases hcr : h5 = sm
            · have dd : decide (h5 = sm) = true := by simpa using hcr
              have HG5 := Lib.hid (show askH P sm deeds = if (rowP Q1 (if 4 ≤ deeds then deeds - 4 else deeds) [(0, nowB ⟨h0, 0, h2, h3, h4, h5, h6, h7, h8, h9⟩)]).2 ≠ 0 then nothing (rowP Q1 (if 4 ≤ deeds then deeds - 4 else deeds) [(0, nowB ⟨h0, 0, h2, h3, h4, h5, h6, h7, h8, h9⟩)]).1 (rowP Q1 (if 4 ≤ deeds then deeds - 4 else deeds) [(0, nowB ⟨h0, 0, h2, h3, h4, h5, h6, h7, h8, h9⟩)]).2
                else ⟨h2, h3, h4, (rowP Q1 (if 4 ≤ deeds then deeds - 4 else deeds) [(0, nowB ⟨h0, 0, h2, h3, h4, h5, h6, h7, h8, h9⟩)]).1, 0⟩ by rw [HG4.out, if_neg (by simpa using hcr)])
              clear HG HG3 HG4 hcr p0 p1 s0 s1 s2 s3 x0 x1 x2 x3 HBr
              simp only [dd, Bool.not_true]
              clear dd
              obtain ⟨dd7, hdd7⟩ : ∃ y, y = (if 4 ≤ deeds then deeds - 4 else deeds) := ⟨_, rfl⟩
              have hdl : dd7 ≤ 9223372036854775807 := by rw [hdd7]; split <;> omega
              rw [← hdd7] at HG5
              have Hdd7 := Lib.hid hdd7
              clear hdd7
              iterate 7 go_step
              go_cut [2] from 63 to 66 (fun v wc => v = .int .i64 dd7 ∧ wc = w7)
              case first =>
                by_cases h4d : 4 ≤ deeds
                · have d4 : decide (deeds ≥ 4) = true := by simpa using h4d
                  have e5 : dd7 = deeds - 4 := by rw [Hdd7.out, if_pos h4d]
                  go_wp2_with fail
                  go_meet
                  case rel => exact ⟨by rw [e5], rfl⟩
                · have d4 : decide (deeds ≥ 4) = false := by simpa using h4d
                  have e5 : dd7 = deeds := by rw [Hdd7.out, if_neg h4d]
                  go_wp2_with fail
                  go_meet
                  case rel => exact ⟨by rw [e5], rfl⟩
              case rest =>
                obtain ⟨rfl, rfl⟩ := hcut
                obtain ⟨⟨_, e1, _⟩, ef⟩ := ten_cells Hhc.out
                have ef1 := ef 1
                clear ef
                go_upto_region 17 with fail
                clear e1 ef1
                have HA2 := Lib.hid ((Below.heap_setCell wc ⟨w1.heap.size, 1, none⟩ (.int .i64 0) w.heap.size (by simp; omega)).trans HAc.out)
                have HS2 := Lib.hid ((Below.heap_setCell wc ⟨w1.heap.size, 1, none⟩ (.int .i64 0) (w.heap.size + 1) (by simp; omega)).trans HSc.out)
                have HX2 := Lib.hid ((Below.heap_setCell wc ⟨w1.heap.size, 1, none⟩ (.int .i64 0) (w.heap.size + 1 + 1) (by simp; omega)).trans HXc.out)
                have hh4 := blk_set Hhc.out 1 (.int .i64 0)
                simp only [List.setIfInBounds_toArray, List.set_cons_zero, List.set_cons_succ] at hh4
                have H4 := Lib.hid hh4
                have HB2 := Lib.hid (HBc.out.trans (by_set (show w.heap.size ≤ w1.heap.size by omega) (i := 1) (w := wc) (.int .i64 0)))
                have HP2 := Lib.hid (HPc.out.setT Hhc.out (by decide) (by decide) 1 (.int .i64 0))
                clear hh4
                obtain ⟨w8, hw8⟩ : ∃ w8, w8 = wc.setCell ⟨w1.heap.size, 1, none⟩ (.int .i64 0) := ⟨_, rfl⟩
                rw [← hw8] at HA2 HS2 HX2 H4 HB2 HP2 ⊢
                clear hw8 HAc HSc HXc Hhc HPc HBc HRc Htx HX HA HS HB HP
                have HR := Lib.hid (HRw.out.below HB2.out)
                have HR0 := HRw
                have hlt2 := cell_lt_of H4.out
                obtain ⟨tx, htx⟩ : ∃ tx, tx = nowB ⟨h0, 0, h2, h3, h4, h5, h6, h7, h8, h9⟩ := ⟨_, rfl⟩
                have HNT := Lib.hid (show ∀ W, Calls Tryz.prog 18 #[.agg #[.int .i64 h0, .int .i64 0, .int .i64 h2, .string h3, .string h4, .string h5, .int .i64 h6, .int .i64 h7, .string h8, .string h9]] W fun e w' => e = .returned (.string tx) ∧ Below W.heap.size W w' from fun W => by rw [htx]; exact nowText_any ⟨h0, 0, h2, h3, h4, h5, h6, h7, h8, h9⟩ W hep.out.epoch (Nat.le_trans hep.out.b (by omega)) (Nat.le_trans hep.out.s (by omega)) (Nat.le_trans hep.out.c (by omega)))
                rw [← htx] at HG5
                clear htx hep
                obtain ⟨a0, a1, _, _⟩ := two_cells HA2.out
                obtain ⟨⟨e0, e1, e2, e3, e4, e5, e6, e7, e8, e9⟩, _⟩ := ten_cells H4.out
                go_cut [11] from 68 to 77 (fun v wc => ∃ (er : Int) (Qx : Plat) (A1 : Option Addr) (n1 c1 : Nat) (B1 : Option Addr) (m1 d1 : Nat), v = .int .i64 er ∧ rowP Q1 dd7 [(0, tx)] = (Qx, er) ∧ wc.heap[w.heap.size]? = some (.cells #[.slice A1 n1 c1, .slice B1 m1 d1] 27 (0, 0)) ∧ wc.heap[w.heap.size + 1]? = some (.cells zS 23 (0, 0)) ∧ wc.heap[w.heap.size + 1 + 1]? = some (.cells zP 27 (0, 0)) ∧ wc.heap[w1.heap.size]? = some (.cells #[.int .i64 h0, .int .i64 0, .int .i64 h2, .string h3, .string h4, .string h5, .int .i64 h6, .int .i64 h7, .string h8, .string h9] 39 (0, 0)) ∧ PB wc A1 n1 B1 m1 Qx ∧ Below w.heap.size w wc ∧ Rounds wc)
                case first =>
                  go_region_law (first
                    | (go_simp; go_at_call 18; refine Calls.mono (HNT.out _) ?_; rintro _ w4 ⟨rfl, hb4'⟩; have hb4 := Below.chain ((Below.refl _ w8).drew) hb4'; clear hb4'; replace HA2 := hblk_below HA2 hb4; replace HS2 := hblk_below HS2 hb4; replace HX2 := hblk_below HX2 hb4; replace H4 := hblk_below H4 hb4; replace HB2 := Lib.hid (HB2.out.trans (hb4.mono HB2.out.size)); replace HP2 := Lib.hid (HP2.out.below hb4); replace HR := Lib.hid (HR.out.below hb4); have hba := (Below.refl w4.heap.size w4).alloc (Nat.le_refl _) (.cells #[.int .i64 0, .string tx] 51); obtain ⟨b0, b1, _, _⟩ := two_cells HA2.out; obtain ⟨f0, f1, _, _⟩ := two_cells (cells_below HA2.out hba))
                    | (go_simp; go_at_call 17; refine (row_any _ _ 1 1 dd7 Q1 [(0, tx)] _ ⟨_, _, _, _, _, _, rfl, HP2.out.below hba⟩ (by exact rd_new' w4 _ _ _ rfl) rfl (by simp) (by omega) (by omega)).mono ?_; rintro _ w5 ⟨v5, rfl, hv5, hb5'⟩; have hb5 := Below.chain hba hb5'; replace HA2 := hblk_below HA2 hb5; replace HS2 := hblk_below HS2 hb5; replace HX2 := hblk_below HX2 hb5; replace H4 := hblk_below H4 hb5; replace HB2 := Lib.hid (HB2.out.trans (hb5.mono HB2.out.size)); replace HR := Lib.hid (HR.out.below hb5); obtain ⟨A6, n6, c6, B6, m6, d6, rfl, hO6⟩ := hv5; obtain ⟨y0, y1, y2, y3⟩ := two_cells HA2.out))

                  all_goals
                    go_wp2_with fail
                    go_meet
                    case rel =>
                      obtain ⟨q, hq⟩ : ∃ q, q = rowP Q1 dd7 [(0, tx)] := ⟨_, rfl⟩
                      rw [← hq] at hO6 ⊢
                      obtain ⟨Qx, er1⟩ := q
                      have hsets := two_by (w0 := w) (w := w5) HB2.out (Nat.le_refl w.heap.size) (.slice A6 n6 c6) (.slice B6 m6 d6)
                      refine ⟨er1, Qx, A6, n6, c6, B6, m6, d6, rfl, rfl, two_set HA2.out _ _, (Below.heap_setCell _ ⟨w.heap.size, 1, none⟩ _ (w.heap.size + 1) (by simp)).trans ((Below.heap_setCell _ ⟨w.heap.size, 0, none⟩ _ (w.heap.size + 1) (by simp)).trans HS2.out), (Below.heap_setCell _ ⟨w.heap.size, 1, none⟩ _ (w.heap.size + 1 + 1) (by simp; omega)).trans ((Below.heap_setCell _ ⟨w.heap.size, 0, none⟩ _ (w.heap.size + 1 + 1) (by simp; omega)).trans HX2.out), (Below.heap_setCell _ ⟨w.heap.size, 1, none⟩ _ w1.heap.size (by simp; omega)).trans ((Below.heap_setCell _ ⟨w.heap.size, 0, none⟩ _ w1.heap.size (by simp; omega)).trans H4.out), hO6.two HA2.out, hsets, HR0.out.below hsets⟩
                case rest =>
                  obtain ⟨er, Q2, A2, n2, c2, B2, m2, d2', rfl, hrow, hA', hS', hX', hH', hP', hB', hR'⟩ := hcut
                  have HAc := Lib.hid hA'
                  have HSc := Lib.hid hS'
                  have HXc := Lib.hid hX'
                  have Hhc := Lib.hid hH'
                  have HPc := Lib.hid hP'
                  have HBc := Lib.hid hB'
                  rw [hrow] at HG5
                  clear a0 a1 e0 e1 e2 e3 e4 e5 e6 e7 e8 e9
                  obtain ⟨p0, p1, _, _⟩ := two_cells hA'
                  obtain ⟨s0, s1, s2, s3⟩ := two_cells hS'
                  obtain ⟨x0, x1, x2, x3⟩ := two_cells hX'
                  obtain ⟨⟨_, _, e2, e3, e4, _⟩, _⟩ := ten_cells hH'
                  clear hA' hS' hX' hH' hP' hB' hR' HNT hrow
                  by_cases hee : er = 0
                  · subst hee
                    have HE := Lib.hid (show askH P sm deeds = ⟨h2, h3, h4, Q2, 0⟩ by rw [HG5.out]; simp)
                    go_upto_region 20 with fail
                    have q10 : w.heap.size + 1 ≠ w.heap.size := by omega
                    have q20 : w.heap.size + 1 + 1 ≠ w.heap.size := by omega
                    have q1h : w.heap.size + 1 ≠ w1.heap.size := by omega
                    have q2h : w.heap.size + 1 + 1 ≠ w1.heap.size := by omega
                    go_region_held3 (fun w' => ((w'.cell? ⟨w.heap.size, 0, none⟩ = some (.slice A2 n2 c2) ∧ w'.cell? ⟨w.heap.size, 1, none⟩ = some (.slice B2 m2 d2')) ∧ (w'.cell? ⟨w1.heap.size, 2, none⟩ = some (.int .i64 h2) ∧ w'.cell? ⟨w1.heap.size, 3, none⟩ = some (.string h3))) ∧ (w'.cell? ⟨w1.heap.size, 4, none⟩ = some (.string h4) ∧ w'.cell? ⟨w1.heap.size, 4, none⟩ = some (.string h4)))
                      (first | with_reducible assumption | with_reducible exact ⟨keep4_drew ⟨⟨p0, p1⟩, ⟨e2, e3⟩⟩, keep2_drew ⟨e4, e4⟩⟩ | with_reducible exact ⟨keep4_drew (keep4_set2 q20 q2h (keep4_set2 q10 q1h ⟨⟨p0, p1⟩, ⟨e2, e3⟩⟩)), keep2_drew (keep2_set2 q2h (keep2_set2 q1h ⟨e4, e4⟩))⟩ | with_reducible exact ⟨keep4_drew (keep4_set2 q10 q1h ⟨⟨p0, p1⟩, ⟨e2, e3⟩⟩), keep2_drew (keep2_set2 q1h ⟨e4, e4⟩)⟩)
                      (fail)
                    all_goals
                      go_wp2_with fail
                      obtain ⟨k1, k2, k3⟩ := two_two (show w.heap.size + 1 ≠ w.heap.size + 1 + 1 by omega) HSc.out HXc.out (.int .i64 h2) (.string h3) (.slice A2 n2 c2) (.slice B2 m2 d2')
                      have hW := (two_by (two_by HBc.out (show w.heap.size ≤ w.heap.size + 1 by omega) (.int .i64 h2) (.string h3)) (show w.heap.size ≤ w.heap.size + 1 + 1 by omega) (.slice A2 n2 c2) (.slice B2 m2 d2')).drew
                      have hQ := HPc.out.two_two HSc.out HXc.out (by decide) (by decide) (by omega) (.int .i64 h2) (.string h3) (.slice A2 n2 c2) (.slice B2 m2 d2')
                      refine bodyPost_ret (res_ask rfl _ _ (w.heap.size + 1) (w.heap.size + 1 + 1) (by rfl) (by rfl) _ _ (load_share (w := World.drew _) k1) (load_plat_new (w := World.drew _) k2)) rfl ?_
                      rw [HE.out]
                      exact ⟨_, rfl, ⟨_, _, _, _, _, _, rfl, hQ.below ((Below.refl _ _).drew)⟩, hW⟩
                  · have dd : (er != 0) = true := by simpa using hee
                    have HE := Lib.hid (show askH P sm deeds = nothing Q2 er by rw [HG5.out, if_pos hee])
                    have p0d : wc.drew.cell? ⟨w.heap.size, 0, none⟩ = some (.slice A2 n2 c2) := p0
                    have p1d : wc.drew.cell? ⟨w.heap.size, 1, none⟩ = some (.slice B2 m2 d2') := p1
                    clear hee e2 e3 e4
                    go_upto_region 19 with fail
                    go_region_held3 (fun w' => w'.cell? ⟨w.heap.size, 0, none⟩ = some (.slice A2 n2 c2) ∧ w'.cell? ⟨w.heap.size, 1, none⟩ = some (.slice B2 m2 d2'))
                      (first | with_reducible assumption | with_reducible exact keep2_drew ⟨p0, p1⟩ | with_reducible exact keep2_drew (keep2_set (keep2_set (keep2_set (keep2_set ⟨p0, p1⟩ (by simp) (by simp)) (by simp) (by simp)) (by simp) (by simp)) (by simp) (by simp)) | with_reducible exact keep2_drew (keep2_set (keep2_set ⟨p0, p1⟩ (by simp) (by simp)) (by simp) (by simp)))
                      (fail)
                    all_goals
                      go_wp2_with fail
                      obtain ⟨k1, k2, k3⟩ := two_two (show w.heap.size + 1 ≠ w.heap.size + 1 + 1 by omega) HSc.out HXc.out (.int .i64 0) (.string ⟨#[]⟩) (.slice A2 n2 c2) (.slice B2 m2 d2')
                      have hW := (two_by (two_by HBc.out (show w.heap.size ≤ w.heap.size + 1 by omega) (.int .i64 0) (.string ⟨#[]⟩)) (show w.heap.size ≤ w.heap.size + 1 + 1 by omega) (.slice A2 n2 c2) (.slice B2 m2 d2')).drew
                      have hQ := HPc.out.two_two HSc.out HXc.out (by decide) (by decide) (by omega) (.int .i64 0) (.string ⟨#[]⟩) (.slice A2 n2 c2) (.slice B2 m2 d2')
                      refine bodyPost_ret (res_ask rfl _ _ (w.heap.size + 1) (w.heap.size + 1 + 1) (by rfl) (by rfl) _ _ (load_share (w := World.drew _) k1) (load_plat_new (w := World.drew _) k2)) rfl ?_
                      rw [HE.out]
                      exact ⟨_, rfl, ⟨_, _, _, _, _, _, rfl, hQ.below ((Below.refl _ _).drew)⟩, hW⟩

            · have dd : decide (h5 = sm) = false := by simpa using hcr
              have HE := Lib.hid (show askH P sm deeds = nothing Q1 211 by rw [HG4.out, if_pos hcr])
              clear hcr
              clear HG HG3 HG4 hep HBr
              simp only [dd, Bool.not_false]
              clear dd
              go_wp2_with fail
              go_region_held3 (fun w' => w'.cell? ⟨w.heap.size, 0, none⟩ = some (.slice A1 n1 c1) ∧ w'.cell? ⟨w.heap.size, 1, none⟩ = some (.slice B1 m1 d1'))
                (first | with_reducible assumption | with_reducible exact keep2_drew ⟨p0, p1⟩ | with_reducible exact keep2_drew (keep2_set (keep2_set (keep2_set (keep2_set ⟨p0, p1⟩ (by simp) (by simp)) (by simp) (by simp)) (by simp) (by simp)) (by simp) (by simp)) | with_reducible exact keep2_drew (keep2_set (keep2_set ⟨p0, p1⟩ (by simp) (by simp)) (by simp) (by simp)))
                (fail)
              all_goals
                go_wp2_with fail
                obtain ⟨k1, k2, k3⟩ := two_two (show w.heap.size + 1 ≠ w.heap.size + 1 + 1 by omega) HSc.out HXc.out (.int .i64 0) (.string ⟨#[]⟩) (.slice A1 n1 c1) (.slice B1 m1 d1')
                have hW := (two_by (two_by HBc.out (show w.heap.size ≤ w.heap.size + 1 by omega) (.int .i64 0) (.string ⟨#[]⟩)) (show w.heap.size ≤ w.heap.size + 1 + 1 by omega) (.slice A1 n1 c1) (.slice B1 m1 d1')).drew
                have hQ := HPc.out.two_two HSc.out HXc.out (by decide) (by decide) (by omega) (.int .i64 0) (.string ⟨#[]⟩) (.slice A1 n1 c1) (.slice B1 m1 d1')
                refine bodyPost_ret (res_ask rfl _ _ (w.heap.size + 1) (w.heap.size + 1 + 1) (by rfl) (by rfl) _ _ (load_share (w := World.drew _) k1) (load_plat_new (w := World.drew _) k2)) rfl ?_
                rw [HE.out]
                exact ⟨_, rfl, ⟨_, _, _, _, _, _, rfl, hQ.below ((Below.refl _ _).drew)⟩, hW⟩
          · have dd : (er != 0) = true := by simpa using hee
            have HE := Lib.hid (show askH P sm deeds = nothing Q1 er by rw [HG3.out, if_pos hee])
            have p0d : wc.drew.cell? ⟨w.heap.size, 0, none⟩ = some (.slice A1 n1 c1) := p0
            have p1d : wc.drew.cell? ⟨w.heap.size, 1, none⟩ = some (.slice B1 m1 d1') := p1
            clear hee e0 e1 e2 e3 e4 e5 e6 e7 e8 e9 ef1
            go_wp2_with fail
            go_region_held3 (fun w' => w'.cell? ⟨w.heap.size, 0, none⟩ = some (.slice A1 n1 c1) ∧ w'.cell? ⟨w.heap.size, 1, none⟩ = some (.slice B1 m1 d1'))
              (first | with_reducible assumption | with_reducible exact keep2_drew ⟨p0, p1⟩ | with_reducible exact keep2_drew (keep2_set (keep2_set (keep2_set (keep2_set ⟨p0, p1⟩ (by simp) (by simp)) (by simp) (by simp)) (by simp) (by simp)) (by simp) (by simp)) | with_reducible exact keep2_drew (keep2_set (keep2_set ⟨p0, p1⟩ (by simp) (by simp)) (by simp) (by simp)))
              (fail)
            all_goals
              go_wp2_with fail
              obtain ⟨k1, k2, k3⟩ := two_two (show w.heap.size + 1 ≠ w.heap.size + 1 + 1 by omega) HSc.out HXc.out (.int .i64 0) (.string ⟨#[]⟩) (.slice A1 n1 c1) (.slice B1 m1 d1')
              have hW := (two_by (two_by HBc.out (show w.heap.size ≤ w.heap.size + 1 by omega) (.int .i64 0) (.string ⟨#[]⟩)) (show w.heap.size ≤ w.heap.size + 1 + 1 by omega) (.slice A1 n1 c1) (.slice B1 m1 d1')).drew
              have hQ := HPc.out.two_two HSc.out HXc.out (by decide) (by decide) (by omega) (.int .i64 0) (.string ⟨#[]⟩) (.slice A1 n1 c1) (.slice B1 m1 d1')
              refine bodyPost_ret (res_ask rfl _ _ (w.heap.size + 1) (w.heap.size + 1 + 1) (by rfl) (by rfl) _ _ (load_share (w := World.drew _) k1) (load_plat_new (w := World.drew _) k2)) rfl ?_
              rw [HE.out]
              exact ⟨_, rfl, ⟨_, _, _, _, _, _, rfl, hQ.below ((Below.refl _ _).drew)⟩, hW⟩
  · have HE := Lib.hid (show askH P sm deeds = nothing noPlat er by rw [HG.out, if_pos her])
    have d1 : (er != 0) = true := by simpa using her
    clear her
    go_wp2_with fail
    obtain ⟨k1, k2, k3⟩ := two_two (show w.heap.size + 1 ≠ w.heap.size + 1 + 1 by omega) HS2.out HX2.out (.int .i64 0) (.string ⟨#[]⟩) (.slice none 0 0) (.slice none 0 0)
    try simp only [Exit.inBlock, Exit.then]
    refine bodyPost_ret (res_ask rfl _ _ (w.heap.size + 1) (w.heap.size + 1 + 1) (by rfl) (by rfl) _ _ (load_share k1) (load_plat_new k2)) rfl ?_
    rw [HE.out]
    exact ⟨_, rfl, PlV.no _, two_by (two_by HB2.out (by omega) _ _) (by omega) _ _⟩
end Go.Proofs.YtniglledpjheaaaGreatDoor
