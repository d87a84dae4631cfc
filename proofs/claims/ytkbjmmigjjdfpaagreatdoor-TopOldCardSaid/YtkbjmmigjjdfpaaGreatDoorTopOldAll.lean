/-
  Contract of holder.Ask. (Printed by gen_ask.py.)
  Plain: whom Blame shows.
  Contract of owner.Blame.
  Plain: what OwnerOpens says.
  Plain: what the statements of the top say of an epoch that was spread whole: who asks is told; an epoch's old answers unlock nothing, or two texts with one Sum are shown.
  Arguments that are a record, a row of answers (one field of each holds two cells), or a row of booleans, opened.
  Contracts of the top's small functions: short, few, fine, starts, dealt, shown.
  Contracts of the top's asked (who asks is told), fine and sums.
  Contracts of the top's fine and sums.
  A row of one's own with the elements of another row behind it (append(l, more...)).
  Plain: two epochs spread whole one behind the other, as the law TopOld asks them; rows of booleans.
  The law TopOld, walked.
-/
import Derived.Test.YtkbjmmigjjdfpaaGreatDoorHq
import Derived.Deep.CutRange
import Derived.Test.YtkbjmmigjjdfpaaGreatDoorOt
import Derived.Test.YtkbjmmigjjdfpaaGreatDoorPm
import Derived.Test.YtkbjmmigjjdfpaaGreatDoorOd2
import Derived.Test.YtkbjmmigjjdfpaaGreatDoorRound
import Derived.Test.YtkbjmmigjjdfpaaGreatDoorCyn
import Derived.Test.YtkbjmmigjjdfpaaGreatDoorOv
import Derived.Deep.Grids
import Derived.Deep.Strs
import Derived.Deep.Slices
import Derived.Deep.Fields
import Derived.ChangeSame
import Derived.SliceStrings
import Derived.Lib.SmallJoins
import Derived.WalkKit
import Derived.ProofKit
import Derived.Test.YtkbjmmigjjdfpaaGreatDoorOw4
import Derived.Test.YtkbjmmigjjdfpaaGreatDoorTxt
import Derived.BigQuiet
import Derived.Deep.AppendLies
namespace Go.Proofs.YtkbjmmigjjdfpaaGreatDoor
/- HoldA -/
section
open Go.RowKit
set_option linter.unusedVariables false
set_option maxRecDepth 100000
set_option maxHeartbeats 2000000
set_option linter.unusedSimpArgs false

/-- What is told who asks is handed back. -/
def AskR (w : World) (r : Told) (e : Ending) (w' : World) : Prop := ∃ v, e = .returned (.tuple #[.agg #[.int .i64 r.x, .string r.b], .string r.salt, v, .int .i64 r.e]) ∧ PlV w' v r.p ∧ Below w.heap.size w w'
theorem res_ask {P : Program} {fn : Func} {a b t u : Tmp} {ta tb : TypeId} (h : fn.results = #[.cell a ta, .tmp t, .cell b tb, .tmp u]) (tmps : Array Value) (w : World) (g k : Nat) (ha : tmps.getD a undef = .pointer (some ⟨g, 0, none⟩)) (hb : tmps.getD b undef = .pointer (some ⟨k, 0, none⟩)) (x y : Value)
    (hl : (loadVar ta ⟨g, 0, none⟩).run P w = .ok x w) (hk : (loadVar tb ⟨k, 0, none⟩).run P w = .ok y w) : (results fn tmps).run P w = .ok (.tuple #[x, tmps.getD t undef, y, tmps.getD u undef]) w := by
  have ha' : tmps[a]?.getD undef = .pointer (some ⟨g, 0, none⟩) := by simpa using ha
  have hb' : tmps[b]?.getD undef = .pointer (some ⟨k, 0, none⟩) := by simpa using hb
  simp [results, h, asAddr, ha', hb', hl, hk]
theorem load_share {w : World} {g : Nat} {a b : Value} {t : TypeId} (h : w.heap[g]? = some (.cells #[a, b] t (0, 0))) : (loadVar 43 ⟨g, 0, none⟩).run Tryz.prog w = .ok (.agg #[a, b]) w :=
  run_loadVar_mid (P := Tryz.prog) w g 0 43 [a, b] _ (fun j v hj => by
    cases j with
    | zero => simp at hj; subst hj; exact (two_cells h).1
    | succ j => cases j with
      | zero => simp at hj; subst hj; exact (two_cells h).2.1
      | succ j => simp at hj) Tryz.underlying43 rfl (by kernel_rfl)
theorem PB.two_two {w : World} {A B : Option Addr} {n m : Nat} {P : Plat} (h : PB w A n B m P) {g k : Nat} {a b c d : Value} {t : TypeId} (hg : w.heap[g]? = some (.cells #[a, b] t (0, 0))) (hk : w.heap[k]? = some (.cells #[c, d] 68 (0, 0))) (h1 : t ≠ 9) (h2 : t ≠ 243) (hne : g ≠ k) (x y p q : Value) :
    PB ((((w.setCell ⟨g, 0, none⟩ x).setCell ⟨g, 1, none⟩ y).setCell ⟨k, 0, none⟩ p).setCell ⟨k, 1, none⟩ q) A n B m P := by
  have e2 : ((w.setCell ⟨g, 0, none⟩ x).setCell ⟨g, 1, none⟩ y).heap[k]? = some (.cells #[c, d] 68 (0, 0)) := (Below.heap_setCell _ ⟨g, 1, none⟩ y k (Ne.symm hne)).trans ((Below.heap_setCell w ⟨g, 0, none⟩ x k (Ne.symm hne)).trans hk)
  exact (((h.setT hg h1 h2 0 x).setT (blk_set hg 0 x) h1 h2 1 y).setT e2 (by decide) (by decide) 0 p).setT (blk_set e2 0 p) (by decide) (by decide) 1 q
theorem keep2_drew {W : World} {p q : Addr} {u v : Value} (h : W.cell? p = some u ∧ W.cell? q = some v) : W.drew.cell? p = some u ∧ W.drew.cell? q = some v := h
theorem keep4_drew {W : World} {p q r s : Addr} {u v x y : Value} (h : (W.cell? p = some u ∧ W.cell? q = some v) ∧ (W.cell? r = some x ∧ W.cell? s = some y)) : (W.drew.cell? p = some u ∧ W.drew.cell? q = some v) ∧ (W.drew.cell? r = some x ∧ W.drew.cell? s = some y) := h
theorem keep2_set2 {W : World} {g b i j : Nat} {a c u v : Value} (hne : g ≠ b) (h : W.cell? ⟨b, i, none⟩ = some u ∧ W.cell? ⟨b, j, none⟩ = some v) : ((W.setCell ⟨g, 0, none⟩ a).setCell ⟨g, 1, none⟩ c).cell? ⟨b, i, none⟩ = some u ∧ ((W.setCell ⟨g, 0, none⟩ a).setCell ⟨g, 1, none⟩ c).cell? ⟨b, j, none⟩ = some v :=
  keep2_set (keep2_set h (by simp [hne]) (by simp [hne])) (by simp [hne]) (by simp [hne])
theorem keep4_set2 {W : World} {g b k i j m n : Nat} {a c u v x y : Value} (hne : g ≠ b) (hne2 : g ≠ k) (h : (W.cell? ⟨b, i, none⟩ = some u ∧ W.cell? ⟨b, j, none⟩ = some v) ∧ (W.cell? ⟨k, m, none⟩ = some x ∧ W.cell? ⟨k, n, none⟩ = some y)) :
    (((W.setCell ⟨g, 0, none⟩ a).setCell ⟨g, 1, none⟩ c).cell? ⟨b, i, none⟩ = some u ∧ ((W.setCell ⟨g, 0, none⟩ a).setCell ⟨g, 1, none⟩ c).cell? ⟨b, j, none⟩ = some v) ∧ (((W.setCell ⟨g, 0, none⟩ a).setCell ⟨g, 1, none⟩ c).cell? ⟨k, m, none⟩ = some x ∧ ((W.setCell ⟨g, 0, none⟩ a).setCell ⟨g, 1, none⟩ c).cell? ⟨k, n, none⟩ = some y) := ⟨keep2_set2 hne h.1, keep2_set2 hne2 h.2⟩
abbrev zS : Array Value := #[.int .i64 0, .string ⟨#[]⟩]
/-- Two blocks of two cells stored into, one behind the other. -/
theorem two_two {w : World} {g k : Nat} {t u : TypeId} {a b c d : Value} (hne : g ≠ k) (hg : w.heap[g]? = some (.cells #[a, b] t (0, 0))) (hk : w.heap[k]? = some (.cells #[c, d] u (0, 0))) (x y p q : Value) :
    ((((w.setCell ⟨g, 0, none⟩ x).setCell ⟨g, 1, none⟩ y).setCell ⟨k, 0, none⟩ p).setCell ⟨k, 1, none⟩ q).heap[g]? = some (.cells #[x, y] t (0, 0)) ∧ ((((w.setCell ⟨g, 0, none⟩ x).setCell ⟨g, 1, none⟩ y).setCell ⟨k, 0, none⟩ p).setCell ⟨k, 1, none⟩ q).heap[k]? = some (.cells #[p, q] u (0, 0)) ∧ ((w.setCell ⟨g, 0, none⟩ x).setCell ⟨g, 1, none⟩ y).heap[k]? = some (.cells #[c, d] u (0, 0)) := by
  have h1 := two_set hg x y
  have h2 : ((w.setCell ⟨g, 0, none⟩ x).setCell ⟨g, 1, none⟩ y).heap[k]? = some (.cells #[c, d] u (0, 0)) := (Below.heap_setCell _ ⟨g, 1, none⟩ y k (Ne.symm hne)).trans ((Below.heap_setCell w ⟨g, 0, none⟩ x k (Ne.symm hne)).trans hk)
  exact ⟨(Below.heap_setCell _ ⟨k, 1, none⟩ q g hne).trans ((Below.heap_setCell _ ⟨k, 0, none⟩ p g hne).trans h1), two_set h2 p q, h2⟩
theorem hask_any (v : Value) (P : Plat) (cred : ByteArray) (deeds : Int) (w : World) (h : PlV w v P) (hR : Rounds w) (hdd : deeds ≤ 9223372036854775807) :
    Calls Tryz.prog 26 #[v, .string cred, .int .i64 deeds] w (AskR w (askH P (sumB cred) deeds)) := by
  obtain ⟨A, n, c, B, m, d, rfl, h⟩ := h
  obtain ⟨hA, hS, hX, hbA⟩ := three_new w #[.slice A n c, .slice B m d] zS zP 68 43 68
  have HA := Lib.hid hA
  have HS := Lib.hid hS
  have HX := Lib.hid hX
  have HB := Lib.hid hbA
  have HP := Lib.hid (h.below hbA)
  have HRw := Lib.hid hR
  have HR := Lib.hid hR
  have HBr := Lib.hid hbA
  have hep := Lib.hid (getH_w P)
  obtain ⟨sm, hsm⟩ : ∃ sm, sm = sumB cred := ⟨_, rfl⟩
  have Hsm := Lib.hid hsm
  rw [← hsm]
  obtain ⟨q, hq⟩ : ∃ q, q = getH P := ⟨_, rfl⟩
  have HG : Hid (askH P sm deeds = if q.2 ≠ 0 then nothing noPlat q.2 else if q.1.x = 0 then nothing noPlat 212 else if 5 ≤ q.1.tries then nothing noPlat 210
    else if (rowP P deeds [(0, nowB { q.1 with tries := q.1.tries + 1 })]).2 ≠ 0 then nothing (rowP P deeds [(0, nowB { q.1 with tries := q.1.tries + 1 })]).1 (rowP P deeds [(0, nowB { q.1 with tries := q.1.tries + 1 })]).2
    else if q.1.cred ≠ sm then nothing (rowP P deeds [(0, nowB { q.1 with tries := q.1.tries + 1 })]).1 211
    else if (rowP (rowP P deeds [(0, nowB { q.1 with tries := q.1.tries + 1 })]).1 (if 4 ≤ deeds then deeds - 4 else deeds) [(0, nowB { q.1 with tries := 0 })]).2 ≠ 0 then nothing (rowP (rowP P deeds [(0, nowB { q.1 with tries := q.1.tries + 1 })]).1 (if 4 ≤ deeds then deeds - 4 else deeds) [(0, nowB { q.1 with tries := 0 })]).1 (rowP (rowP P deeds [(0, nowB { q.1 with tries := q.1.tries + 1 })]).1 (if 4 ≤ deeds then deeds - 4 else deeds) [(0, nowB { q.1 with tries := 0 })]).2
    else ⟨q.1.x, q.1.b, q.1.salt, (rowP (rowP P deeds [(0, nowB { q.1 with tries := q.1.tries + 1 })]).1 (if 4 ≤ deeds then deeds - 4 else deeds) [(0, nowB { q.1 with tries := 0 })]).1, 0⟩) := Lib.hid (by rw [hq]; rfl)
  rw [← hq] at hep
  have Hq := Lib.hid hq
  obtain ⟨⟨h0, h1, h2, h3, h4, h5, h6, h7, h8, h9⟩, er⟩ := q
  simp only at HG hep
  clear h hA hS hX hbA hq hsm hR
  go_enter Tryz.func26, Tryz.ntmps26
  go_wp2_with fail
  refine (hget_any _ P _ ⟨_, _, _, _, _, _, rfl, HP.out⟩).mono ?_
  rintro e w1 ⟨rfl, hb1⟩
  rw [← Hq.out]
  replace HX := hblk_below HX hb1
  replace HA := hblk_below HA hb1
  replace HS := hblk_below HS hb1
  replace HB := Lib.hid (HB.out.trans (hb1.mono HB.out.size))
  replace HP := Lib.hid (HP.out.below hb1)
  replace HR := Lib.hid ((HR.out.below (HBr.out)).below hb1)
  have hltX := cell_lt_of HX.out
  clear hb1
  have al : ∀ C : Array Value, Below w1.heap.size w1 (w1.alloc (.cells C 102)) := fun C => (Below.refl w1.heap.size w1).alloc (Nat.le_refl _) _
  have hb2 := al #[.int .i64 h0, .int .i64 h1, .int .i64 h2, .string h3, .string h4, .string h5, .int .i64 h6, .int .i64 h7, .string h8, .string h9]
  have HX2 := hblk_below HX hb2
  have HA2 := hblk_below HA hb2
  have HS2 := hblk_below HS hb2
  have HB2 := Lib.hid (HB.out.trans (hb2.mono HB.out.size))
  have H4 := Lib.hid (heap_alloc_new w1 (.cells #[.int .i64 h0, .int .i64 h1, .int .i64 h2, .string h3, .string h4, .string h5, .int .i64 h6, .int .i64 h7, .string h8, .string h9] 102))
  obtain ⟨x0, x1, x2, x3⟩ := two_cells HX2.out
  obtain ⟨s0, s1, s2, s3⟩ := two_cells HS2.out
  obtain ⟨a0, a1, _, _⟩ := two_cells HA2.out
  obtain ⟨⟨e0, e1, e2, e3, e4, e5, e6, e7, e8, e9⟩, ef⟩ := ten_cells H4.out
  have ef1 := ef 1
  clear hb2 ef
  unfold hdV
  by_cases her : er = 0
  · subst her
    by_cases hx : h2 = 0
    · have HE := Lib.hid (show askH P sm deeds = nothing noPlat 212 by rw [HG.out, if_neg (by simp), if_pos hx])
      have d1 : (h2 == 0) = true := by simpa using hx
      clear hx
      go_wp2_with fail
      obtain ⟨k1, k2, k3⟩ := two_two (show w.heap.size + 1 ≠ w.heap.size + 1 + 1 by omega) HS2.out HX2.out (.int .i64 0) (.string ⟨#[]⟩) (.slice none 0 0) (.slice none 0 0)
      try simp only [Exit.inBlock, Exit.then]
      refine bodyPost_ret (res_ask rfl _ _ (w.heap.size + 1) (w.heap.size + 1 + 1) (by rfl) (by rfl) _ _ (load_share k1) (load_plat_new k2)) rfl ?_
      rw [HE.out]
      exact ⟨_, rfl, PlV.no _, two_by (two_by HB2.out (by omega) _ _) (by omega) _ _⟩
    · have d1 : (h2 == 0) = false := by simpa using hx
      by_cases ht : 5 ≤ h1
      · have HE := Lib.hid (show askH P sm deeds = nothing noPlat 210 by rw [HG.out, if_neg (by simp), if_neg hx, if_pos ht])
        have d2 : decide (5 ≤ h1) = true := by simpa using ht
        clear hx ht
        go_wp2_with fail
        obtain ⟨k1, k2, k3⟩ := two_two (show w.heap.size + 1 ≠ w.heap.size + 1 + 1 by omega) HS2.out HX2.out (.int .i64 0) (.string ⟨#[]⟩) (.slice none 0 0) (.slice none 0 0)
        try simp only [Exit.inBlock, Exit.then]
        refine bodyPost_ret (res_ask rfl _ _ (w.heap.size + 1) (w.heap.size + 1 + 1) (by rfl) (by rfl) _ _ (load_share k1) (load_plat_new k2)) rfl ?_
        rw [HE.out]
        exact ⟨_, rfl, PlV.no _, two_by (two_by HB2.out (by omega) _ _) (by omega) _ _⟩
      · have d2 : decide (5 ≤ h1) = false := by simpa using ht
        have ht0 := hep.out.t0
        simp only at ht0
        have hb3 := al #[.int .i64 h0, .int .i64 (h1 + 1), .int .i64 h2, .string h3, .string h4, .string h5, .int .i64 h6, .int .i64 h7, .string h8, .string h9]
        replace HX2 := hblk_below HX hb3
        replace HA2 := hblk_below HA hb3
        replace HS2 := hblk_below HS hb3
        replace HB2 := Lib.hid (HB.out.trans (hb3.mono HB.out.size))
        have HP2 := Lib.hid (HP.out.below hb3)
        replace HR := Lib.hid (HR.out.below hb3)
        replace H4 := Lib.hid (heap_alloc_new w1 (.cells #[.int .i64 h0, .int .i64 (h1 + 1), .int .i64 h2, .string h3, .string h4, .string h5, .int .i64 h6, .int .i64 h7, .string h8, .string h9] 102))
        clear hb3 s0 s1 s2 s3 x0 x1 x2 x3
        obtain ⟨tx, htx⟩ : ∃ tx, tx = nowB ⟨h0, h1 + 1, h2, h3, h4, h5, h6, h7, h8, h9⟩ := ⟨_, rfl⟩
        have HNT := Lib.hid (show ∀ W, Calls Tryz.prog 51 #[.agg #[.int .i64 h0, .int .i64 (h1 + 1), .int .i64 h2, .string h3, .string h4, .string h5, .int .i64 h6, .int .i64 h7, .string h8, .string h9]] W fun e w' => e = .returned (.string tx) ∧ Below W.heap.size W w' from fun W => by rw [htx]; exact nowText_any ⟨h0, h1 + 1, h2, h3, h4, h5, h6, h7, h8, h9⟩ W hep.out.epoch (Nat.le_trans hep.out.b (by omega)) (Nat.le_trans hep.out.s (by omega)) (Nat.le_trans hep.out.c (by omega)))
        have Htx := Lib.hid htx
        clear htx a0 a1 e0 e1 e2 e3 e4 e5 e6 e7 e8 e9 ef1
        have ef1 := (ten_cells (heap_alloc_new w1 (.cells #[.int .i64 h0, .int .i64 h1, .int .i64 h2, .string h3, .string h4, .string h5, .int .i64 h6, .int .i64 h7, .string h8, .string h9] 102))).2 1
        obtain ⟨⟨_, e1, e2, _⟩, _⟩ := ten_cells (heap_alloc_new w1 (.cells #[.int .i64 h0, .int .i64 h1, .int .i64 h2, .string h3, .string h4, .string h5, .int .i64 h6, .int .i64 h7, .string h8, .string h9] 102))
        go_wp2_with fail
        obtain ⟨w2, hw2⟩ : ∃ w2, w2 = w1.alloc (.cells #[.int .i64 h0, .int .i64 (h1 + 1), .int .i64 h2, .string h3, .string h4, .string h5, .int .i64 h6, .int .i64 h7, .string h8, .string h9] 102) := ⟨_, rfl⟩
        rw [← hw2] at HX2 HA2 HS2 HB2 HP2 HR H4 ⊢
        clear hw2 e1 e2 ef1
        have hlt2 := cell_lt_of H4.out
        obtain ⟨a0, a1, _, _⟩ := two_cells HA2.out
        obtain ⟨⟨e0, e1, e2, e3, e4, e5, e6, e7, e8, e9⟩, _⟩ := ten_cells H4.out
        have HR0 := HRw
        go_cut [11] from 40 to 49 (fun v wc => ∃ (er : Int) (Qx : Plat) (A1 : Option Addr) (n1 c1 : Nat) (B1 : Option Addr) (m1 d1 : Nat), v = .int .i64 er ∧ rowP P deeds [(0, tx)] = (Qx, er) ∧ wc.heap[w.heap.size]? = some (.cells #[.slice A1 n1 c1, .slice B1 m1 d1] 68 (0, 0)) ∧ wc.heap[w.heap.size + 1]? = some (.cells zS 43 (0, 0)) ∧ wc.heap[w.heap.size + 1 + 1]? = some (.cells zP 68 (0, 0)) ∧ wc.heap[w1.heap.size]? = some (.cells #[.int .i64 h0, .int .i64 (h1 + 1), .int .i64 h2, .string h3, .string h4, .string h5, .int .i64 h6, .int .i64 h7, .string h8, .string h9] 102 (0, 0)) ∧ PB wc A1 n1 B1 m1 Qx ∧ Below w.heap.size w wc ∧ Rounds wc)
        case first =>
          go_region_law (first
            | (go_simp; go_at_call 51; refine Calls.mono (HNT.out _) ?_; rintro _ w4 ⟨rfl, hb4'⟩; have hb4 := Below.chain ((Below.refl _ w2).drew) hb4'; clear hb4'; replace HA2 := hblk_below HA2 hb4; replace HS2 := hblk_below HS2 hb4; replace HX2 := hblk_below HX2 hb4; replace H4 := hblk_below H4 hb4; replace HB2 := Lib.hid (HB2.out.trans (hb4.mono HB2.out.size)); replace HP2 := Lib.hid (HP2.out.below hb4); replace HR := Lib.hid (HR.out.below hb4); have hba := (Below.refl w4.heap.size w4).alloc (Nat.le_refl _) (.cells #[.int .i64 0, .string tx] 104); obtain ⟨b0, b1, _, _⟩ := two_cells HA2.out; obtain ⟨f0, f1, _, _⟩ := two_cells (cells_below HA2.out hba))
            | (go_simp; go_at_call 50; refine (row_any _ _ 1 1 deeds P [(0, tx)] _ ⟨_, _, _, _, _, _, rfl, HP2.out.below hba⟩ (by exact rd_new' w4 _ _ _ rfl) rfl (by simp) (by omega) (by omega)).mono ?_; rintro _ w5 ⟨v5, rfl, hv5, hb5'⟩; have hb5 := Below.chain hba hb5'; replace HA2 := hblk_below HA2 hb5; replace HS2 := hblk_below HS2 hb5; replace HX2 := hblk_below HX2 hb5; replace H4 := hblk_below H4 hb5; replace HB2 := Lib.hid (HB2.out.trans (hb5.mono HB2.out.size)); replace HR := Lib.hid (HR.out.below hb5); obtain ⟨A6, n6, c6, B6, m6, d6, rfl, hO6⟩ := hv5; obtain ⟨y0, y1, y2, y3⟩ := two_cells HA2.out))

          all_goals
            go_wp2_with fail
            go_meet
            case rel =>
              obtain ⟨q, hq⟩ : ∃ q, q = rowP P deeds [(0, tx)] := ⟨_, rfl⟩
              rw [← hq] at hO6 ⊢
              obtain ⟨Qx, er1⟩ := q
              have hsets := two_by (w0 := w) (w := w5) HB2.out (Nat.le_refl w.heap.size) (.slice A6 n6 c6) (.slice B6 m6 d6)
              refine ⟨er1, Qx, A6, n6, c6, B6, m6, d6, rfl, rfl, two_set HA2.out _ _, (Below.heap_setCell _ ⟨w.heap.size, 1, none⟩ _ (w.heap.size + 1) (by simp)).trans ((Below.heap_setCell _ ⟨w.heap.size, 0, none⟩ _ (w.heap.size + 1) (by simp)).trans HS2.out), (Below.heap_setCell _ ⟨w.heap.size, 1, none⟩ _ (w.heap.size + 1 + 1) (by simp; omega)).trans ((Below.heap_setCell _ ⟨w.heap.size, 0, none⟩ _ (w.heap.size + 1 + 1) (by simp; omega)).trans HX2.out), (Below.heap_setCell _ ⟨w.heap.size, 1, none⟩ _ w1.heap.size (by simp; omega)).trans ((Below.heap_setCell _ ⟨w.heap.size, 0, none⟩ _ w1.heap.size (by simp; omega)).trans H4.out), hO6.two HA2.out, hsets, HR0.out.below hsets⟩
        case rest =>
          obtain ⟨er, Q1, A1, n1, c1, B1, m1, d1', rfl, hrow, hA', hS', hX', hH', hP', hB', hR'⟩ := hcut
          have HAc := Lib.hid hA'
          have HSc := Lib.hid hS'
          have HXc := Lib.hid hX'
          have Hhc := Lib.hid hH'
          have HPc := Lib.hid hP'
          have HBc := Lib.hid hB'
          have HRc := Lib.hid hR'
          have HG3 := Lib.hid (show askH P sm deeds = if er ≠ 0 then nothing Q1 er else if h5 ≠ sm then nothing Q1 211 else if (rowP Q1 (if 4 ≤ deeds then deeds - 4 else deeds) [(0, nowB ⟨h0, 0, h2, h3, h4, h5, h6, h7, h8, h9⟩)]).2 ≠ 0 then nothing (rowP Q1 (if 4 ≤ deeds then deeds - 4 else deeds) [(0, nowB ⟨h0, 0, h2, h3, h4, h5, h6, h7, h8, h9⟩)]).1 (rowP Q1 (if 4 ≤ deeds then deeds - 4 else deeds) [(0, nowB ⟨h0, 0, h2, h3, h4, h5, h6, h7, h8, h9⟩)]).2
            else ⟨h2, h3, h4, (rowP Q1 (if 4 ≤ deeds then deeds - 4 else deeds) [(0, nowB ⟨h0, 0, h2, h3, h4, h5, h6, h7, h8, h9⟩)]).1, 0⟩ by rw [HG.out, if_neg (by simp), if_neg hx, if_neg (show ¬ 5 ≤ h1 by omega), ← Htx.out, hrow])
          clear a0 a1 e0 e1 e2 e3 e4 e5 e6 e7 e8 e9 d1 d2
          obtain ⟨p0, p1, _, _⟩ := two_cells hA'
          obtain ⟨s0, s1, s2, s3⟩ := two_cells hS'
          obtain ⟨x0, x1, x2, x3⟩ := two_cells hX'
          obtain ⟨⟨e0, e1, e2, e3, e4, e5, e6, e7, e8, e9⟩, ef⟩ := ten_cells hH'
          have ef1 := ef 1
          clear hA' hS' hX' hH' hP' hB' hR' ef HNT hrow
          by_cases hee : er = 0
          · subst hee
            clear e0 e1 e2 e3 e4 e6 e7 e8 e9 p0 p1
            have HG4 := Lib.hid (show askH P sm deeds = if h5 ≠ sm then nothing Q1 211 else if (rowP Q1 (if 4 ≤ deeds then deeds - 4 else deeds) [(0, nowB ⟨h0, 0, h2, h3, h4, h5, h6, h7, h8, h9⟩)]).2 ≠ 0 then nothing (rowP Q1 (if 4 ≤ deeds then deeds - 4 else deeds) [(0, nowB ⟨h0, 0, h2, h3, h4, h5, h6, h7, h8, h9⟩)]).1 (rowP Q1 (if 4 ≤ deeds then deeds - 4 else deeds) [(0, nowB ⟨h0, 0, h2, h3, h4, h5, h6, h7, h8, h9⟩)]).2
              else ⟨h2, h3, h4, (rowP Q1 (if 4 ≤ deeds then deeds - 4 else deeds) [(0, nowB ⟨h0, 0, h2, h3, h4, h5, h6, h7, h8, h9⟩)]).1, 0⟩ by rw [HG3.out, if_neg (by simp)])
            go_wp2_with fail
            go_region_held3 (fun w' => w'.cell? ⟨w1.heap.size, 5, none⟩ = some (.string h5) ∧ w'.cell? ⟨w1.heap.size, 5, none⟩ = some (.string h5))
              (first | with_reducible assumption | with_reducible exact keep2_drew ⟨e5, e5⟩ | with_reducible exact keep2_below (keep2_drew ⟨e5, e5⟩) (by assumption))
              (first
                | ((go_at_call 33; refine (dsum_any cred _ (by exact HRc.out)).mono ?_); rintro _ w6 ⟨rfl, hb6'⟩; rw [← Hsm.out]; have hb6 := Below.chain ((Below.refl _ wc).drew) hb6')
                | ((go_at_call 53; refine (dsame_any h5 sm _).mono ?_); rintro _ w7 ⟨rfl, rfl⟩))
            replace HAc := hblk_below HAc hb6
            replace HSc := hblk_below HSc hb6
            replace HXc := hblk_below HXc hb6
            replace Hhc := hblk_below Hhc hb6
            replace HPc := Lib.hid (HPc.out.below hb6)
            replace HBc := Lib.hid (HBc.out.trans (hb6.mono HBc.out.size))
            replace HRc := Lib.hid (HRc.out.below hb6)
            clear s0 s1 s2 s3 x0 x1 x2 x3 e5 ef1
            obtain ⟨p0, p1, _, _⟩ := two_cells HAc.out
            obtain ⟨s0, s1, s2, s3⟩ := two_cells HSc.out
            obtain ⟨x0, x1, x2, x3⟩ := two_cells HXc.out
            by_cases hcr : h5 = sm
            · have dd : decide (h5 = sm) = true := by simpa using hcr
              have HG5 := Lib.hid (show askH P sm deeds = if (rowP Q1 (if 4 ≤ deeds then deeds - 4 else deeds) [(0, nowB ⟨h0, 0, h2, h3, h4, h5, h6, h7, h8, h9⟩)]).2 ≠ 0 then nothing (rowP Q1 (if 4 ≤ deeds then deeds - 4 else deeds) [(0, nowB ⟨h0, 0, h2, h3, h4, h5, h6, h7, h8, h9⟩)]).1 (rowP Q1 (if 4 ≤ deeds then deeds - 4 else deeds) [(0, nowB ⟨h0, 0, h2, h3, h4, h5, h6, h7, h8, h9⟩)]).2
                else ⟨h2, h3, h4, (rowP Q1 (if 4 ≤ deeds then deeds - 4 else deeds) [(0, nowB ⟨h0, 0, h2, h3, h4, h5, h6, h7, h8, h9⟩)]).1, 0⟩ by rw [HG4.out, if_neg (by simpa using hcr)])
              clear HG HG3 HG4 hcr p0 p1 s0 s1 s2 s3 x0 x1 x2 x3 HBr
              simp only [dd, Bool.not_true]
              clear dd
              obtain ⟨dd7, hdd7⟩ : ∃ y, y = (if 4 ≤ deeds then deeds - 4 else deeds) := ⟨_, rfl⟩
              have hdl : dd7 ≤ 9223372036854775807 := by rw [hdd7]; split <;> omega
              rw [← hdd7] at HG5
              have Hdd7 := Lib.hid hdd7
              clear hdd7
              iterate 7 go_step
              go_cut [2] from 63 to 66 (fun v wc => v = .int .i64 dd7 ∧ wc = w7)
              case first =>
                by_cases h4d : 4 ≤ deeds
                · have d4 : decide (deeds ≥ 4) = true := by simpa using h4d
                  have e5 : dd7 = deeds - 4 := by rw [Hdd7.out, if_pos h4d]
                  go_wp2_with fail
                  go_meet
                  case rel => exact ⟨by rw [e5], rfl⟩
                · have d4 : decide (deeds ≥ 4) = false := by simpa using h4d
                  have e5 : dd7 = deeds := by rw [Hdd7.out, if_neg h4d]
                  go_wp2_with fail
                  go_meet
                  case rel => exact ⟨by rw [e5], rfl⟩
              case rest =>
                obtain ⟨rfl, rfl⟩ := hcut
                obtain ⟨⟨_, e1, _⟩, ef⟩ := ten_cells Hhc.out
                have ef1 := ef 1
                clear ef
                go_upto_region 17 with fail
                clear e1 ef1
                have HA2 := Lib.hid ((Below.heap_setCell wc ⟨w1.heap.size, 1, none⟩ (.int .i64 0) w.heap.size (by simp; omega)).trans HAc.out)
                have HS2 := Lib.hid ((Below.heap_setCell wc ⟨w1.heap.size, 1, none⟩ (.int .i64 0) (w.heap.size + 1) (by simp; omega)).trans HSc.out)
                have HX2 := Lib.hid ((Below.heap_setCell wc ⟨w1.heap.size, 1, none⟩ (.int .i64 0) (w.heap.size + 1 + 1) (by simp; omega)).trans HXc.out)
                have hh4 := blk_set Hhc.out 1 (.int .i64 0)
                simp only [List.setIfInBounds_toArray, List.set_cons_zero, List.set_cons_succ] at hh4
                have H4 := Lib.hid hh4
                have HB2 := Lib.hid (HBc.out.trans (by_set (show w.heap.size ≤ w1.heap.size by omega) (i := 1) (w := wc) (.int .i64 0)))
                have HP2 := Lib.hid (HPc.out.setT Hhc.out (by decide) (by decide) 1 (.int .i64 0))
                clear hh4
                obtain ⟨w8, hw8⟩ : ∃ w8, w8 = wc.setCell ⟨w1.heap.size, 1, none⟩ (.int .i64 0) := ⟨_, rfl⟩
                rw [← hw8] at HA2 HS2 HX2 H4 HB2 HP2 ⊢
                clear hw8 HAc HSc HXc Hhc HPc HBc HRc Htx HX HA HS HB HP
                have HR := Lib.hid (HRw.out.below HB2.out)
                have HR0 := HRw
                have hlt2 := cell_lt_of H4.out
                obtain ⟨tx, htx⟩ : ∃ tx, tx = nowB ⟨h0, 0, h2, h3, h4, h5, h6, h7, h8, h9⟩ := ⟨_, rfl⟩
                have HNT := Lib.hid (show ∀ W, Calls Tryz.prog 51 #[.agg #[.int .i64 h0, .int .i64 0, .int .i64 h2, .string h3, .string h4, .string h5, .int .i64 h6, .int .i64 h7, .string h8, .string h9]] W fun e w' => e = .returned (.string tx) ∧ Below W.heap.size W w' from fun W => by rw [htx]; exact nowText_any ⟨h0, 0, h2, h3, h4, h5, h6, h7, h8, h9⟩ W hep.out.epoch (Nat.le_trans hep.out.b (by omega)) (Nat.le_trans hep.out.s (by omega)) (Nat.le_trans hep.out.c (by omega)))
                rw [← htx] at HG5
                clear htx hep
                obtain ⟨a0, a1, _, _⟩ := two_cells HA2.out
                obtain ⟨⟨e0, e1, e2, e3, e4, e5, e6, e7, e8, e9⟩, _⟩ := ten_cells H4.out
                go_cut [11] from 68 to 77 (fun v wc => ∃ (er : Int) (Qx : Plat) (A1 : Option Addr) (n1 c1 : Nat) (B1 : Option Addr) (m1 d1 : Nat), v = .int .i64 er ∧ rowP Q1 dd7 [(0, tx)] = (Qx, er) ∧ wc.heap[w.heap.size]? = some (.cells #[.slice A1 n1 c1, .slice B1 m1 d1] 68 (0, 0)) ∧ wc.heap[w.heap.size + 1]? = some (.cells zS 43 (0, 0)) ∧ wc.heap[w.heap.size + 1 + 1]? = some (.cells zP 68 (0, 0)) ∧ wc.heap[w1.heap.size]? = some (.cells #[.int .i64 h0, .int .i64 0, .int .i64 h2, .string h3, .string h4, .string h5, .int .i64 h6, .int .i64 h7, .string h8, .string h9] 102 (0, 0)) ∧ PB wc A1 n1 B1 m1 Qx ∧ Below w.heap.size w wc ∧ Rounds wc)
                case first =>
                  go_region_law (first
                    | (go_simp; go_at_call 51; refine Calls.mono (HNT.out _) ?_; rintro _ w4 ⟨rfl, hb4'⟩; have hb4 := Below.chain ((Below.refl _ w8).drew) hb4'; clear hb4'; replace HA2 := hblk_below HA2 hb4; replace HS2 := hblk_below HS2 hb4; replace HX2 := hblk_below HX2 hb4; replace H4 := hblk_below H4 hb4; replace HB2 := Lib.hid (HB2.out.trans (hb4.mono HB2.out.size)); replace HP2 := Lib.hid (HP2.out.below hb4); replace HR := Lib.hid (HR.out.below hb4); have hba := (Below.refl w4.heap.size w4).alloc (Nat.le_refl _) (.cells #[.int .i64 0, .string tx] 104); obtain ⟨b0, b1, _, _⟩ := two_cells HA2.out; obtain ⟨f0, f1, _, _⟩ := two_cells (cells_below HA2.out hba))
                    | (go_simp; go_at_call 50; refine (row_any _ _ 1 1 dd7 Q1 [(0, tx)] _ ⟨_, _, _, _, _, _, rfl, HP2.out.below hba⟩ (by exact rd_new' w4 _ _ _ rfl) rfl (by simp) (by omega) (by omega)).mono ?_; rintro _ w5 ⟨v5, rfl, hv5, hb5'⟩; have hb5 := Below.chain hba hb5'; replace HA2 := hblk_below HA2 hb5; replace HS2 := hblk_below HS2 hb5; replace HX2 := hblk_below HX2 hb5; replace H4 := hblk_below H4 hb5; replace HB2 := Lib.hid (HB2.out.trans (hb5.mono HB2.out.size)); replace HR := Lib.hid (HR.out.below hb5); obtain ⟨A6, n6, c6, B6, m6, d6, rfl, hO6⟩ := hv5; obtain ⟨y0, y1, y2, y3⟩ := two_cells HA2.out))

                  all_goals
                    go_wp2_with fail
                    go_meet
                    case rel =>
                      obtain ⟨q, hq⟩ : ∃ q, q = rowP Q1 dd7 [(0, tx)] := ⟨_, rfl⟩
                      rw [← hq] at hO6 ⊢
                      obtain ⟨Qx, er1⟩ := q
                      have hsets := two_by (w0 := w) (w := w5) HB2.out (Nat.le_refl w.heap.size) (.slice A6 n6 c6) (.slice B6 m6 d6)
                      refine ⟨er1, Qx, A6, n6, c6, B6, m6, d6, rfl, rfl, two_set HA2.out _ _, (Below.heap_setCell _ ⟨w.heap.size, 1, none⟩ _ (w.heap.size + 1) (by simp)).trans ((Below.heap_setCell _ ⟨w.heap.size, 0, none⟩ _ (w.heap.size + 1) (by simp)).trans HS2.out), (Below.heap_setCell _ ⟨w.heap.size, 1, none⟩ _ (w.heap.size + 1 + 1) (by simp; omega)).trans ((Below.heap_setCell _ ⟨w.heap.size, 0, none⟩ _ (w.heap.size + 1 + 1) (by simp; omega)).trans HX2.out), (Below.heap_setCell _ ⟨w.heap.size, 1, none⟩ _ w1.heap.size (by simp; omega)).trans ((Below.heap_setCell _ ⟨w.heap.size, 0, none⟩ _ w1.heap.size (by simp; omega)).trans H4.out), hO6.two HA2.out, hsets, HR0.out.below hsets⟩
                case rest =>
                  obtain ⟨er, Q2, A2, n2, c2, B2, m2, d2', rfl, hrow, hA', hS', hX', hH', hP', hB', hR'⟩ := hcut
                  have HAc := Lib.hid hA'
                  have HSc := Lib.hid hS'
                  have HXc := Lib.hid hX'
                  have Hhc := Lib.hid hH'
                  have HPc := Lib.hid hP'
                  have HBc := Lib.hid hB'
                  rw [hrow] at HG5
                  clear a0 a1 e0 e1 e2 e3 e4 e5 e6 e7 e8 e9
                  obtain ⟨p0, p1, _, _⟩ := two_cells hA'
                  obtain ⟨s0, s1, s2, s3⟩ := two_cells hS'
                  obtain ⟨x0, x1, x2, x3⟩ := two_cells hX'
                  obtain ⟨⟨_, _, e2, e3, e4, _⟩, _⟩ := ten_cells hH'
                  clear hA' hS' hX' hH' hP' hB' hR' HNT hrow
                  by_cases hee : er = 0
                  · subst hee
                    have HE := Lib.hid (show askH P sm deeds = ⟨h2, h3, h4, Q2, 0⟩ by rw [HG5.out]; simp)
                    go_upto_region 20 with fail
                    have q10 : w.heap.size + 1 ≠ w.heap.size := by omega
                    have q20 : w.heap.size + 1 + 1 ≠ w.heap.size := by omega
                    have q1h : w.heap.size + 1 ≠ w1.heap.size := by omega
                    have q2h : w.heap.size + 1 + 1 ≠ w1.heap.size := by omega
                    go_region_held3 (fun w' => ((w'.cell? ⟨w.heap.size, 0, none⟩ = some (.slice A2 n2 c2) ∧ w'.cell? ⟨w.heap.size, 1, none⟩ = some (.slice B2 m2 d2')) ∧ (w'.cell? ⟨w1.heap.size, 2, none⟩ = some (.int .i64 h2) ∧ w'.cell? ⟨w1.heap.size, 3, none⟩ = some (.string h3))) ∧ (w'.cell? ⟨w1.heap.size, 4, none⟩ = some (.string h4) ∧ w'.cell? ⟨w1.heap.size, 4, none⟩ = some (.string h4)))
                      (first | with_reducible assumption | with_reducible exact ⟨keep4_drew ⟨⟨p0, p1⟩, ⟨e2, e3⟩⟩, keep2_drew ⟨e4, e4⟩⟩ | with_reducible exact ⟨keep4_drew (keep4_set2 q20 q2h (keep4_set2 q10 q1h ⟨⟨p0, p1⟩, ⟨e2, e3⟩⟩)), keep2_drew (keep2_set2 q2h (keep2_set2 q1h ⟨e4, e4⟩))⟩ | with_reducible exact ⟨keep4_drew (keep4_set2 q10 q1h ⟨⟨p0, p1⟩, ⟨e2, e3⟩⟩), keep2_drew (keep2_set2 q1h ⟨e4, e4⟩)⟩)
                      (fail)
                    all_goals
                      go_wp2_with fail
                      obtain ⟨k1, k2, k3⟩ := two_two (show w.heap.size + 1 ≠ w.heap.size + 1 + 1 by omega) HSc.out HXc.out (.int .i64 h2) (.string h3) (.slice A2 n2 c2) (.slice B2 m2 d2')
                      have hW := (two_by (two_by HBc.out (show w.heap.size ≤ w.heap.size + 1 by omega) (.int .i64 h2) (.string h3)) (show w.heap.size ≤ w.heap.size + 1 + 1 by omega) (.slice A2 n2 c2) (.slice B2 m2 d2')).drew
                      have hQ := HPc.out.two_two HSc.out HXc.out (by decide) (by decide) (by omega) (.int .i64 h2) (.string h3) (.slice A2 n2 c2) (.slice B2 m2 d2')
                      refine bodyPost_ret (res_ask rfl _ _ (w.heap.size + 1) (w.heap.size + 1 + 1) (by rfl) (by rfl) _ _ (load_share (w := World.drew _) k1) (load_plat_new (w := World.drew _) k2)) rfl ?_
                      rw [HE.out]
                      exact ⟨_, rfl, ⟨_, _, _, _, _, _, rfl, hQ.below ((Below.refl _ _).drew)⟩, hW⟩
                  · have dd : (er != 0) = true := by simpa using hee
                    have HE := Lib.hid (show askH P sm deeds = nothing Q2 er by rw [HG5.out, if_pos hee])
                    have p0d : wc.drew.cell? ⟨w.heap.size, 0, none⟩ = some (.slice A2 n2 c2) := p0
                    have p1d : wc.drew.cell? ⟨w.heap.size, 1, none⟩ = some (.slice B2 m2 d2') := p1
                    clear hee e2 e3 e4
                    go_upto_region 19 with fail
                    go_region_held3 (fun w' => w'.cell? ⟨w.heap.size, 0, none⟩ = some (.slice A2 n2 c2) ∧ w'.cell? ⟨w.heap.size, 1, none⟩ = some (.slice B2 m2 d2'))
                      (first | with_reducible assumption | with_reducible exact keep2_drew ⟨p0, p1⟩ | with_reducible exact keep2_drew (keep2_set (keep2_set (keep2_set (keep2_set ⟨p0, p1⟩ (by simp) (by simp)) (by simp) (by simp)) (by simp) (by simp)) (by simp) (by simp)) | with_reducible exact keep2_drew (keep2_set (keep2_set ⟨p0, p1⟩ (by simp) (by simp)) (by simp) (by simp)))
                      (fail)
                    all_goals
                      go_wp2_with fail
                      obtain ⟨k1, k2, k3⟩ := two_two (show w.heap.size + 1 ≠ w.heap.size + 1 + 1 by omega) HSc.out HXc.out (.int .i64 0) (.string ⟨#[]⟩) (.slice A2 n2 c2) (.slice B2 m2 d2')
                      have hW := (two_by (two_by HBc.out (show w.heap.size ≤ w.heap.size + 1 by omega) (.int .i64 0) (.string ⟨#[]⟩)) (show w.heap.size ≤ w.heap.size + 1 + 1 by omega) (.slice A2 n2 c2) (.slice B2 m2 d2')).drew
                      have hQ := HPc.out.two_two HSc.out HXc.out (by decide) (by decide) (by omega) (.int .i64 0) (.string ⟨#[]⟩) (.slice A2 n2 c2) (.slice B2 m2 d2')
                      refine bodyPost_ret (res_ask rfl _ _ (w.heap.size + 1) (w.heap.size + 1 + 1) (by rfl) (by rfl) _ _ (load_share (w := World.drew _) k1) (load_plat_new (w := World.drew _) k2)) rfl ?_
                      rw [HE.out]
                      exact ⟨_, rfl, ⟨_, _, _, _, _, _, rfl, hQ.below ((Below.refl _ _).drew)⟩, hW⟩

            · have dd : decide (h5 = sm) = false := by simpa using hcr
              have HE := Lib.hid (show askH P sm deeds = nothing Q1 211 by rw [HG4.out, if_pos hcr])
              clear hcr
              clear HG HG3 HG4 hep HBr
              simp only [dd, Bool.not_false]
              clear dd
              go_wp2_with fail
              go_region_held3 (fun w' => w'.cell? ⟨w.heap.size, 0, none⟩ = some (.slice A1 n1 c1) ∧ w'.cell? ⟨w.heap.size, 1, none⟩ = some (.slice B1 m1 d1'))
                (first | with_reducible assumption | with_reducible exact keep2_drew ⟨p0, p1⟩ | with_reducible exact keep2_drew (keep2_set (keep2_set (keep2_set (keep2_set ⟨p0, p1⟩ (by simp) (by simp)) (by simp) (by simp)) (by simp) (by simp)) (by simp) (by simp)) | with_reducible exact keep2_drew (keep2_set (keep2_set ⟨p0, p1⟩ (by simp) (by simp)) (by simp) (by simp)))
                (fail)
              all_goals
                go_wp2_with fail
                obtain ⟨k1, k2, k3⟩ := two_two (show w.heap.size + 1 ≠ w.heap.size + 1 + 1 by omega) HSc.out HXc.out (.int .i64 0) (.string ⟨#[]⟩) (.slice A1 n1 c1) (.slice B1 m1 d1')
                have hW := (two_by (two_by HBc.out (show w.heap.size ≤ w.heap.size + 1 by omega) (.int .i64 0) (.string ⟨#[]⟩)) (show w.heap.size ≤ w.heap.size + 1 + 1 by omega) (.slice A1 n1 c1) (.slice B1 m1 d1')).drew
                have hQ := HPc.out.two_two HSc.out HXc.out (by decide) (by decide) (by omega) (.int .i64 0) (.string ⟨#[]⟩) (.slice A1 n1 c1) (.slice B1 m1 d1')
                refine bodyPost_ret (res_ask rfl _ _ (w.heap.size + 1) (w.heap.size + 1 + 1) (by rfl) (by rfl) _ _ (load_share (w := World.drew _) k1) (load_plat_new (w := World.drew _) k2)) rfl ?_
                rw [HE.out]
                exact ⟨_, rfl, ⟨_, _, _, _, _, _, rfl, hQ.below ((Below.refl _ _).drew)⟩, hW⟩
          · have dd : (er != 0) = true := by simpa using hee
            have HE := Lib.hid (show askH P sm deeds = nothing Q1 er by rw [HG3.out, if_pos hee])
            have p0d : wc.drew.cell? ⟨w.heap.size, 0, none⟩ = some (.slice A1 n1 c1) := p0
            have p1d : wc.drew.cell? ⟨w.heap.size, 1, none⟩ = some (.slice B1 m1 d1') := p1
            clear hee e0 e1 e2 e3 e4 e5 e6 e7 e8 e9 ef1
            go_wp2_with fail
            go_region_held3 (fun w' => w'.cell? ⟨w.heap.size, 0, none⟩ = some (.slice A1 n1 c1) ∧ w'.cell? ⟨w.heap.size, 1, none⟩ = some (.slice B1 m1 d1'))
              (first | with_reducible assumption | with_reducible exact keep2_drew ⟨p0, p1⟩ | with_reducible exact keep2_drew (keep2_set (keep2_set (keep2_set (keep2_set ⟨p0, p1⟩ (by simp) (by simp)) (by simp) (by simp)) (by simp) (by simp)) (by simp) (by simp)) | with_reducible exact keep2_drew (keep2_set (keep2_set ⟨p0, p1⟩ (by simp) (by simp)) (by simp) (by simp)))
              (fail)
            all_goals
              go_wp2_with fail
              obtain ⟨k1, k2, k3⟩ := two_two (show w.heap.size + 1 ≠ w.heap.size + 1 + 1 by omega) HSc.out HXc.out (.int .i64 0) (.string ⟨#[]⟩) (.slice A1 n1 c1) (.slice B1 m1 d1')
              have hW := (two_by (two_by HBc.out (show w.heap.size ≤ w.heap.size + 1 by omega) (.int .i64 0) (.string ⟨#[]⟩)) (show w.heap.size ≤ w.heap.size + 1 + 1 by omega) (.slice A1 n1 c1) (.slice B1 m1 d1')).drew
              have hQ := HPc.out.two_two HSc.out HXc.out (by decide) (by decide) (by omega) (.int .i64 0) (.string ⟨#[]⟩) (.slice A1 n1 c1) (.slice B1 m1 d1')
              refine bodyPost_ret (res_ask rfl _ _ (w.heap.size + 1) (w.heap.size + 1 + 1) (by rfl) (by rfl) _ _ (load_share (w := World.drew _) k1) (load_plat_new (w := World.drew _) k2)) rfl ?_
              rw [HE.out]
              exact ⟨_, rfl, ⟨_, _, _, _, _, _, rfl, hQ.below ((Below.refl _ _).drew)⟩, hW⟩
  · have HE := Lib.hid (show askH P sm deeds = nothing noPlat er by rw [HG.out, if_pos her])
    have d1 : (er != 0) = true := by simpa using her
    clear her
    go_wp2_with fail
    obtain ⟨k1, k2, k3⟩ := two_two (show w.heap.size + 1 ≠ w.heap.size + 1 + 1 by omega) HS2.out HX2.out (.int .i64 0) (.string ⟨#[]⟩) (.slice none 0 0) (.slice none 0 0)
    try simp only [Exit.inBlock, Exit.then]
    refine bodyPost_ret (res_ask rfl _ _ (w.heap.size + 1) (w.heap.size + 1 + 1) (by rfl) (by rfl) _ _ (load_share k1) (load_plat_new k2)) rfl ?_
    rw [HE.out]
    exact ⟨_, rfl, PlV.no _, two_by (two_by HB2.out (by omega) _ _) (by omega) _ _⟩
end

/- BlT -/
section
open Go.RowKit
set_option linter.unusedVariables false
set_option linter.unusedSimpArgs false

/-- It is not as it was dealt. -/
def neB (D : Deal) (a : Ans) : Bool := !decide ((a.x, a.b) = D.sh.getD (a.x - 1).toNat (0, noneT))
def blP (D : Deal) (a : Ans) : ByteArray := witP (D.sa.getD (a.x - 1).toNat noneT) (D.sh.getD (a.x - 1).toNat (0, noneT)) a.salt (a.x, a.b)
def blQ (D : Deal) (a : Ans) : ByteArray := witQ (D.sa.getD (a.x - 1).toNat noneT) (D.sh.getD (a.x - 1).toNat (0, noneT)) a.salt (a.x, a.b)
def blB (D : Deal) (a : Ans) : Bool := witB (D.sa.getD (a.x - 1).toNat noneT) (D.sh.getD (a.x - 1).toNat (0, noneT)) a.salt (a.x, a.b)
theorem btext_inj {s o : ByteArray} {p q : Shr} (h1 : brightB s p = true) (h2 : brightB o q = true) (h : btextB s p = btextB o q) : s = o ∧ p = q := by
  obtain ⟨a1, a2, a3, a4⟩ := bright_is h1
  obtain ⟨b1, b2, b3, b4⟩ := bright_is h2
  have h' := congrArg (fun x : ByteArray => x.data.toList) h
  simp only [btextB, ByteArray.data_append, Array.toList_append] at h'
  have e1 := List.append_inj h' (by simp [len_data, a1, b1, bs_data])
  have e2 := List.append_inj e1.1 (by simp [len_data, a1, b1])
  have e3 := List.append_inj e2.1 rfl
  obtain ⟨x, y⟩ := p
  obtain ⟨z, u⟩ := q
  simp only at a2 a3 a4 b2 b3 b4 e1 e2 ⊢
  have e4 : UInt8.ofNat x.toNat = UInt8.ofNat z.toNat := by
    have := e2.2
    rw [bs_data, bs_data] at this
    injection this
  have e5 := congrArg UInt8.toNat e4
  rw [UInt8.toNat_ofNat', UInt8.toNat_ofNat'] at e5
  have hx : x = z := by omega
  have hs : s = o := by rw [← bs_of s, ← bs_of o, e3.2]
  have hy : y = u := by rw [← bs_of y, ← bs_of u, e1.2]
  exact ⟨hs, by rw [hx, hy]⟩
end

/- Bl -/
section
open Go.RowKit
set_option linter.unusedVariables false
set_option linter.unusedSimpArgs false
set_option maxRecDepth 100000
set_option maxHeartbeats 4000000
attribute [local go_sem] Oper.semAt_some

/-- What Blame's memory holds: the deal's box, the three results' boxes. -/
structure BI (w : World) (CD : Array Value) (x y : ByteArray) (z : Bool) (W : World) : Prop where
  g0 : W.heap[w.heap.size]? = some (.cells CD 29 (0, 0))
  g1 : W.heap[w.heap.size + 1]? = some (.cells #[.string x] 9 (0, 0))
  g2 : W.heap[w.heap.size + 1 + 1]? = some (.cells #[.string y] 9 (0, 0))
  g3 : W.heap[w.heap.size + 1 + 1 + 1]? = some (.cells #[.bool z] 4 (0, 0))
  hb : Below w.heap.size w W
  hz : w.heap.size + 8 ≤ W.heap.size
theorem BI.below {w : World} {CD : Array Value} {x y : ByteArray} {z : Bool} {W W' : World} (h : BI w CD x y z W) (hb : Below W.heap.size W W') : BI w CD x y z W' :=
  ⟨cells_below h.g0 hb, cells_below h.g1 hb, cells_below h.g2 hb, cells_below h.g3 hb, h.hb.trans (hb.mono h.hb.size), Nat.le_trans h.hz hb.size⟩
/-- All are as they were dealt. -/
structure BA (w : World) (CD : Array Value) (D : Deal) (pre : List (FA D.r noneT true)) (W : World) : Prop where
  no : ∀ y ∈ pre, neB D y.1 = false
  bi : BI w CD ⟨#[]⟩ ⟨#[]⟩ false W
/-- One was not. -/
structure BX (w : World) (CD : Array Value) (D : Deal) (cd : Code) (pre : List (FA D.r noneT true)) (W : World) : Prop where
  ex : ∃ (p0 : List (FA D.r noneT true)) (x : FA D.r noneT true), pre = p0 ++ [x] ∧ (∀ y ∈ p0, neB D y.1 = false) ∧ neB D x.1 = true ∧ cd = .ret ∧ BI w CD (blP D x.1) (blQ D x.1) (blB D x.1) W
/-- The cells that the body's second drawn region reads. -/
def S8 (g bE iE bC iC Bx : Nat) (vE vC vs px pb xs xx xb : Value) (W : World) : Prop := (W.cell? ⟨g, 6, none⟩ = some vE ∧ W.cell? ⟨g, 5, none⟩ = some vC) ∧ (W.cell? ⟨bE, iE, none⟩ = some vs ∧ W.cell? ⟨bC, iC, none⟩ = some px) ∧ (W.cell? ⟨bC, iC + 1, none⟩ = some pb ∧ W.cell? ⟨Bx, 1, none⟩ = some xs) ∧ (W.cell? ⟨Bx, 2, none⟩ = some xx ∧ W.cell? ⟨Bx, 3, none⟩ = some xb)
theorem S8.below {g bE iE bC iC Bx : Nat} {vE vC vs px pb xs xx xb : Value} {W W' : World} (h : S8 g bE iE bC iC Bx vE vC vs px pb xs xx xb W) (hb : Below W.heap.size W W') : S8 g bE iE bC iC Bx vE vC vs px pb xs xx xb W' :=
  ⟨keep2_below h.1 hb, keep2_below h.2.1 hb, keep2_below h.2.2.1 hb, keep2_below h.2.2.2 hb⟩
theorem addr_ne {b b' o o' : Nat} (h : b ≠ b') : (⟨b, o, none⟩ : Addr) ≠ ⟨b', o', none⟩ := fun e => h (congrArg Addr.block e)
theorem S8.set {g bE iE bC iC Bx : Nat} {vE vC vs px pb xs xx xb : Value} {W : World} (h : S8 g bE iE bC iC Bx vE vC vs px pb xs xx xb W) {r i : Nat} (u : Value) (h1 : r ≠ g) (h2 : r ≠ bE) (h3 : r ≠ bC) (h4 : r ≠ Bx) : S8 g bE iE bC iC Bx vE vC vs px pb xs xx xb (W.setCell ⟨r, i, none⟩ u) :=
  ⟨keep2_set h.1 (addr_ne h1) (addr_ne h1), keep2_set h.2.1 (addr_ne h2) (addr_ne h3), keep2_set h.2.2.1 (addr_ne h3) (addr_ne h4), keep2_set h.2.2.2 (addr_ne h4) (addr_ne h4)⟩
end

/- OpT -/
section
open Go.RowKit
set_option linter.unusedVariables false

def picks (ws : List Bool) (i : Nat) : List Nat := (List.range i).filter fun j => ws.getD j false
theorem picks_len (ws : List Bool) (i : Nat) : (picks ws i).length ≤ i := by
  have := List.length_filter_le (fun j => ws.getD j false) (List.range i)
  simpa [picks] using this
theorem picks_yes {ws : List Bool} {i : Nat} (h : ws.getD i false = true) : picks ws (i + 1) = picks ws i ++ [i] := by
  unfold picks
  rw [List.range_succ, List.filter_append]
  congr 1
  rw [List.filter_cons, if_pos h]
  rfl
theorem picks_no {ws : List Bool} {i : Nat} (h : ws.getD i false = false) : picks ws (i + 1) = picks ws i := by
  unfold picks
  rw [List.range_succ, List.filter_append]
  rw [List.filter_cons, if_neg (by rw [h]; simp)]
  simp
def allA (D : Deal) (ls : List Ans) (ws : List Bool) (i : Nat) : List Ans := ls ++ (picks ws i).map (ansD D)
theorem allA_yes {D : Deal} {ls : List Ans} {ws : List Bool} {i : Nat} (h : ws.getD i false = true) : allA D ls ws (i + 1) = allA D ls ws i ++ [ansD D i] := by
  unfold allA
  rw [picks_yes h, List.map_append, ← List.append_assoc]
  rfl
theorem allA_no {D : Deal} {ls : List Ans} {ws : List Bool} {i : Nat} (h : ws.getD i false = false) : allA D ls ws (i + 1) = allA D ls ws i := by
  unfold allA
  rw [picks_no h]
theorem wit_size (s : ByteArray) (p : Shr) (o : ByteArray) (q : Shr) : (witP s p o q).size ≤ 1000 ∧ (witQ s p o q).size ≤ 1000 := by
  unfold witP witQ
  cases h : witB s p o q with
  | false => exact ⟨by rw [if_neg (by simp)]; exact Nat.zero_le _, by rw [if_neg (by simp)]; exact Nat.zero_le _⟩
  | true =>
    rw [if_pos rfl, if_pos rfl]
    have h2 := h
    unfold witB at h2
    simp only [Bool.and_eq_true] at h2
    obtain ⟨a1, a2, a3, a4⟩ := bright_is h2.1.1.1
    obtain ⟨b1, b2, b3, b4⟩ := bright_is h2.1.1.2
    have hpt : pledgeT.size = 6 := rfl
    constructor
    · simp only [btextB, ByteArray.size_append, bs_size, List.length_cons, List.length_nil, a1, a4, hpt]; omega
    · simp only [btextB, ByteArray.size_append, bs_size, List.length_cons, List.length_nil, b1, b4, hpt]; omega
end

/- TpT -/
section
open Go.RowKit
set_option linter.unusedVariables false
set_option linter.unusedSimpArgs false
set_option maxRecDepth 20000

def startC (c : ByteArray) : Plat := (startH (sumB c)).1
theorem startC_zero (c : ByteArray) : (startH (sumB c)).2 = 0 := (start_fresh (sumB_size c)).1
theorem startC_fresh (c : ByteArray) : Fresh (startC c) (sumB c) := (start_fresh (sumB_size c)).2
theorem cred_len {c : ByteArray} (h : c.size ≤ 1000000000) : (sumB c).size = 32 := by
  unfold sumB
  rw [if_pos h]
  exact sumL_len _
theorem startC_old (c : ByteArray) (hc : c.size ≤ 1000000000) (n : Nat) {i : Nat} (hi : i < n) {g : Gift} (hg : g.e = 1) : OldD g (sumB c) ((List.replicate n (startC c)).getD i noPlat) := by
  rw [List.getD_eq_getElem?_getD, List.getElem?_replicate, if_pos hi]
  exact fresh_old (startC_fresh c) (cred_len hc) hg
/-- Spread whole. -/
theorem whole_spread {seed : ByteArray} {ns : List ByteArray} {k e : Int} (h : cOK seed ns k e = true) {cred : ByteArray} {l : List Plat} (hl : l.length = ns.length) (ho : ∀ i, i < ns.length → ∀ g : Gift, g.e = e → OldD g cred (l.getD i noPlat)) :
    ∃ L, spreadC (dealC seed ns k e) l (-1) = (L, true, 0) ∧ L.length = ns.length ∧ ∀ i, i < ns.length → (giftD (dealC seed ns k e) i).ok ∧ (giftD (dealC seed ns k e) i).e = e ∧ CommZ (giftD (dealC seed ns k e) i) cred (L.getD i noPlat) := by
  obtain ⟨m, hm, hm1, h16, _, hgd, he, hns⟩ := cOK_good h
  generalize dealC seed ns k e = D at hgd he hns ⊢
  have hgo : ∀ i, i < ns.length → (giftD D i).ok := fun i hi => good_gift hgd (by rw [hns]; exact hi)
  obtain ⟨L, done, s1, s2, s3, s4, _⟩ := spread_crash (g := giftD D) (cred := cred) (l := l) (fun i hi => hgo i (by rw [← hl]; exact hi)) (fun i hi => ho i (by rw [← hl]; exact hi) _ he) (-1)
  have hd := s3 (by omega)
  subst hd
  refine ⟨L, ?_, by rw [s2, hl], fun i hi => ⟨hgo i hi, he, s4 rfl i (by rw [hl]; exact hi)⟩⟩
  unfold spreadC
  rw [if_pos ⟨good_right hgd, by rw [hl, hns]⟩]
  exact s1
theorem row_one (P : Plat) (a : Int × ByteArray) : rowP P (-1) [a] = rowL [a] P ((4 : Nat) : Int) := by
  unfold rowP
  congr 1
/-- Who asks with the right credential is told, and the disk is as ready as it was. -/
theorem comm_ask {g : Gift} {cred : ByteArray} {P : Plat} (hg : g.ok) (h : CommZ g cred P) : ∃ Q, askH P cred (-1) = ⟨g.x, g.b, g.salt, Q, 0⟩ := by
  have hget := comm_gets hg h
  have hx := hg.fit.1
  have h1 : (nowB { hold g.e 0 g.x g.b g.salt cred with tries := 0 + 1 }).size ≤ 128 := now_size (h := hold g.e 1 g.x g.b g.salt cred) (hold_good ⟨hg.e0, hg.e1⟩ ⟨by omega, by omega⟩ hg.fit h.2)
  have h2 : (nowB { hold g.e 0 g.x g.b g.salt cred with tries := 0 }).size ≤ 128 := now_size (h := hold g.e 0 g.x g.b g.salt cred) (hold_good ⟨hg.e0, hg.e1⟩ ⟨by omega, by omega⟩ hg.fit h.2)
  generalize hs1 : nowB { hold g.e 0 g.x g.b g.salt cred with tries := 0 + 1 } = s1 at h1
  generalize hs2 : nowB { hold g.e 0 g.x g.b g.salt cred with tries := 0 } = s2 at h2
  obtain ⟨X, x1, x2, _⟩ := hs_row [(0, s1)] P _ _ h.1 (fun c hc => by rw [List.mem_singleton] at hc; subst hc; exact ⟨.inl rfl, h1⟩) 4 (by simp)
  have hX := x2 rfl
  obtain ⟨Y, y1, _, _⟩ := hs_row [(0, s2)] X _ _ hX (fun c hc => by rw [List.mem_singleton] at hc; subst hc; exact ⟨.inl rfl, h2⟩) 4 (by simp)
  have x1' : rowP P (-1) [(0, s1)] = (X, 0) := by rw [row_one, x1]; rfl
  have y1' : rowP X (-1) [(0, s2)] = (Y, 0) := by rw [row_one, y1]; rfl
  refine ⟨Y, ?_⟩
  unfold askH
  rw [hget, if_neg (by simp), if_neg (show ¬ (hold g.e 0 g.x g.b g.salt cred, (0 : Int)).1.x = 0 from (by show ¬ g.x = 0; omega)), if_neg (show ¬ (5 : Int) ≤ (hold g.e 0 g.x g.b g.salt cred, (0 : Int)).1.tries from (by show ¬ (5 : Int) ≤ 0; omega))]
  simp only
  rw [show nowB { hold g.e 0 g.x g.b g.salt cred with tries := (hold g.e 0 g.x g.b g.salt cred).tries + 1 } = s1 from hs1, x1']
  simp only [ne_eq, not_true_eq_false, if_false]
  rw [if_neg (show ¬ ¬ (hold g.e 0 g.x g.b g.salt cred).cred = cred from fun e => e rfl), if_neg (show ¬ (4 : Int) ≤ -1 by omega), hs2, y1']
  simp only [ne_eq, not_true_eq_false, if_false]
  rfl
theorem hit_anyT (r : Rec) (ls : List Ans) (i : Nat) : hit r ls i = ls.any fun q => decide (q.nm = r.ns.getD i noneT) && fitB r q := by
  unfold hit firstF
  rw [Option.isSome_map, Bool.eq_iff_iff, List.find?_isSome, List.any_eq_true]
  simp [tells]
/-- The answers of a deal's places. -/
def oldA (D : Deal) (i : Nat) : List Ans := (List.range i).map (ansD D)
theorem oldA_succ (D : Deal) (i : Nat) : oldA D (i + 1) = oldA D i ++ [ansD D i] := by simp [oldA, List.range_succ]
theorem oldA_len (D : Deal) (i : Nat) : (oldA D i).length = i := by simp [oldA]
/-- Is one place dealt the same in two deals? -/
def sameB (D C : Deal) (i : Nat) : Bool := decide (D.sh.getD i (0, noneT) = C.sh.getD i (0, noneT)) && decide (D.sa.getD i noneT = C.sa.getD i noneT)
def sameTo (D C : Deal) (i : Nat) : Bool := (List.range i).any (sameB D C)
theorem sameTo_succ (D C : Deal) (i : Nat) : sameTo D C (i + 1) = (sameTo D C i || sameB D C i) := by
  unfold sameTo
  rw [List.range_succ, List.any_append]
  simp
/-- What a place shows. -/
def showB (D C : Deal) (i : Nat) : Prop := witB (C.sa.getD i noneT) (C.sh.getD i (0, noneT)) (D.sa.getD i noneT) (D.sh.getD i (0, noneT)) = true ∧
  witP (C.sa.getD i noneT) (C.sh.getD i (0, noneT)) (D.sa.getD i noneT) (D.sh.getD i (0, noneT)) ≠ witQ (C.sa.getD i noneT) (C.sh.getD i (0, noneT)) (D.sa.getD i noneT) (D.sh.getD i (0, noneT)) ∧
  bs (sumL (witP (C.sa.getD i noneT) (C.sh.getD i (0, noneT)) (D.sa.getD i noneT) (D.sh.getD i (0, noneT))).data.toList) = bs (sumL (witQ (C.sa.getD i noneT) (C.sh.getD i (0, noneT)) (D.sa.getD i noneT) (D.sh.getD i (0, noneT))).data.toList)
theorem ans_x {D : Deal} {m : Nat} {t : List UInt8} (g : Good D m t) {i : Nat} (hi : i < D.r.ns.length) : (ansD D i).x = ((i + 1 : Nat) : Int) := by
  show (D.sh.getD i (0, noneT)).1 = _
  rw [good_sh g hi]
  rfl
theorem old_law {D C : Deal} {m m' : Nat} {t t' : List UInt8} (g : Good D m t) (g' : Good C m' t') (hns : D.r.ns = C.r.ns) (wp : ByteArray) :
    unlE C.r (oldA D C.r.ns.length) wp = 220 ∨ sameTo D C C.r.ns.length = true ∨ ∃ i, i < C.r.ns.length ∧ showB D C i := by
  by_cases hf : ∃ i, i < C.r.ns.length ∧ fitB C.r (ansD D i) = true
  · obtain ⟨i, hi, hfit⟩ := hf
    right
    have hiD : i < D.r.ns.length := by rw [hns]; exact hi
    obtain ⟨hp, hx, hck⟩ := fit_parts hfit
    have hnm : (ansD D i).nm = C.r.ns[i] := by
      show D.r.ns.getD i noneT = _
      rw [hns, getD_eq hi]
    have hpl := place_at g'.ck i hi
    rw [hnm, hpl.2, Nat.add_sub_cancel] at hck
    by_cases hsm : sameB D C i = true
    · left
      unfold sameTo
      rw [List.any_eq_true]
      exact ⟨i, List.mem_range.2 hi, hsm⟩
    · right
      refine ⟨i, hi, ?_⟩
      have hb := g'.br i hi
      rw [← good_sh g' hi] at hb
      have hsh : ((ansD D i).x, (ansD D i).b) = D.sh.getD i (0, noneT) := rfl
      have hsa : (ansD D i).salt = D.sa.getD i noneT := rfl
      rw [hsh, hsa, checkP, g'.pl i hi, ← good_sh g' hi, Bool.and_eq_true, decide_eq_true_eq] at hck
      have hw : witB (C.sa.getD i noneT) (C.sh.getD i (0, noneT)) (D.sa.getD i noneT) (D.sh.getD i (0, noneT)) = true := by
        unfold witB
        rw [hb, hck.1, hck.2]
        simp only [Bool.true_and, decide_true, Bool.and_true, Bool.not_eq_true', Bool.and_eq_false_iff, decide_eq_false_iff_not]
        by_cases e1 : C.sa.getD i noneT = D.sa.getD i noneT
        · right
          intro e2
          apply hsm
          unfold sameB
          rw [e1, e2]
          simp
        · exact .inl e1
      refine ⟨hw, ?_, ?_⟩
      · unfold witP witQ
        rw [if_pos hw, if_pos hw]
        intro e
        obtain ⟨e1, e2⟩ := btext_inj hb hck.1 e
        apply hsm
        unfold sameB
        rw [e1, e2]
        simp
      · unfold witP witQ
        rw [if_pos hw, if_pos hw]
        exact hck.2.symm
  · left
    have hh : hits C.r (oldA D C.r.ns.length) C.r.ns.length = [] := by
      unfold hits
      rw [List.filter_eq_nil_iff]
      intro i hi
      rw [hit_anyT]
      intro ha
      obtain ⟨q, hq, hq2⟩ := List.any_eq_true.1 ha
      obtain ⟨j, hj, rfl⟩ := List.mem_map.1 hq
      simp only [Bool.and_eq_true] at hq2
      exact hf ⟨j, List.mem_range.1 hj, hq2.2⟩
    exact (few g'.ck (by rw [hh, g'.kk]; simp) wp).1
end

/- OpenAns -/
section
open Go.RowKit Go.ChangeShapes Go.WideShapes Go.Deep
set_option linter.unusedVariables false
set_option maxRecDepth 100000

def boolsV (l : List Bool) : List Value := l.map Value.bool
end

/- TpW -/
section
open Go.RowKit
set_option linter.unusedVariables false
set_option linter.unusedSimpArgs false
set_option maxRecDepth 100000
set_option maxHeartbeats 8000000

theorem short_any (A : Option Addr) (n c : Nat) (l : List ByteArray) (w : World) (hr : Rd w A (textsV l)) (hn : n = l.length) (hn9 : n ≤ maxLen) :
    Calls Tryz.prog 5 #[.slice A n c] w fun e w' => ∃ b, e = .returned (.bool b) ∧ (b = true → ∀ x ∈ l, x.size ≤ 200) ∧ w' = w := by
  have HR := Lib.hid hr
  have HN := Lib.hid hn
  unfold maxLen at hn9
  clear hr hn
  go_enter Tryz.func5, Tryz.ntmps5
  go_wp2_with fail
  go_loopw [3] (fun x wr => ∃ k : Nat, k ≤ n ∧ x = .int .i64 (k : Nat) ∧ (∀ j (hj : j < l.length), j < k → l[j].size ≤ 200) ∧ wr = w) (fun x _ => n - (intOf x).toNat)
  case atStart => exact ⟨0, by omega, rfl, fun j _ h => by omega, rfl⟩
  case round =>
    obtain ⟨k, hk, rfl, hs, rfl⟩ := hrel
    have HS := Lib.hid hs
    clear hs
    by_cases hlt : k < n
    · have d1 : decide ((k : Int) < (n : Int)) = true := by simp; omega
      have e1 : (k : Int) < (n : Int) := by omega
      have hkl : k < l.length := by rw [← HN.out]; exact hlt
      obtain ⟨b, off, rfl, c1⟩ := texts_at HR.out hkl
      have HX := Lib.hid (show l[k].size ≤ 200 → ∀ j (hj : j < l.length), j < k + 1 → l[j].size ≤ 200 from fun hb j hj hjk => by
        by_cases e : j < k
        · exact HS.out j hj e
        · obtain rfl : j = k := by omega
          exact hb)
      generalize l[k] = t at c1 HX
      by_cases hz : (200 : Int) < (t.size : Int)
      · have d3 : (t.size : Int) > 200 := hz
        go_wp2_with fail
        go_ret
        exact ⟨false, rfl, fun h => Bool.noConfusion h, rfl⟩
      · have d3 : ¬ (t.size : Int) > 200 := hz
        have HZ := Lib.hid (HX.out (by omega))
        go_wp2_with fail
        go_roundw
        case rel => exact ⟨k + 1, by omega, by go_num, HZ.out, by trivial⟩
        case measure => simp [intOf]; omega
    · obtain rfl : k = n := by omega
      have d1 : decide ((k : Int) < (k : Int)) = false := by simp
      go_wp2_with fail
      go_ret
      exact ⟨true, rfl, fun _ x hx => by
        obtain ⟨j, hj, rfl⟩ := List.mem_iff_getElem.1 hx
        exact HS.out j hj (by rw [HN.out]; exact hj), rfl⟩
theorem fewT_any (A : Option Addr) (n c : Nat) (l : List ByteArray) (w : World) (hr : Rd w A (textsV l)) (hn : n = l.length) (hn9 : n ≤ maxLen) :
    Calls Tryz.prog 6 #[.slice A n c] w fun e w' => ∃ b, e = .returned (.bool b) ∧ (b = true → n ≤ 6 ∧ ∀ x ∈ l, x.size ≤ 200) ∧ w' = w := by
  have HS := Lib.hid (short_any A n c l w hr hn hn9)
  unfold maxLen at hn9
  clear hr hn
  by_cases h6 : n ≤ 6
  · have d1 : decide ((n : Int) ≤ 6) = true := by simp; omega
    go_enter Tryz.func6, Tryz.ntmps6
    go_wp2_with fail
    refine HS.out.mono ?_
    rintro e w1 ⟨b, rfl, hb, hw⟩
    subst w1
    have HBb := Lib.hid hb
    clear hb
    go_wp2_with fail
    go_ret
    exact ⟨b, rfl, fun h => ⟨h6, HBb.out h⟩, rfl⟩
  · have d1 : decide ((n : Int) ≤ 6) = false := by simp; omega
    go_enter Tryz.func6, Tryz.ntmps6
    go_wp2_with fail
    go_ret
    exact ⟨false, rfl, fun h => Bool.noConfusion h, rfl⟩
theorem startsT_any (n : Nat) (cred : ByteArray) (w : World) (hn : n ≤ 100000) (hR : Rounds w) :
    Calls Tryz.prog 11 #[.int .i64 (n : Nat), .string cred] w fun E w' => ∃ A cap l, E = .returned (.slice A n cap) ∧ OwnD w' w.heap.size A n cap l ∧ plats l = List.replicate n (startC cred) ∧ Below w.heap.size w w' := by
  have HS := Lib.hid (show ∀ W, Rounds W → Calls Tryz.prog 25 #[.string cred] W (PlR W ((startC cred), 0)) from fun W h => by
    have := hstart_any cred W h
    rw [show startH (sumB cred) = ((startC cred), 0) from by rw [← startC_zero cred]; rfl] at this
    exact this)
  have HR := Lib.hid hR
  clear hR
  go_enter Tryz.func11, Tryz.ntmps11
  go_wp2_with fail
  go_loopw [5, 6] (fun v x wr => ∃ (k : Nat) (A : Option Addr) (cap : Nat) (l : List Dk), k ≤ n ∧ x = .int .i64 (k : Nat) ∧ v = .slice A k cap ∧ OwnD wr w.heap.size A k cap l ∧ plats l = List.replicate k (startC cred) ∧ Below w.heap.size w wr) (fun _ x _ => n - (intOf x).toNat)
  case atStart => exact ⟨0, none, 0, [], by omega, rfl, rfl, OwnD.nil _ _, rfl, Below.refl _ _⟩
  case round =>
    obtain ⟨k, A, cap, l, hk, rfl, rfl, ho, hp, hB⟩ := hrel
    have HO := Lib.hid ho
    have HP := Lib.hid hp
    have HB := Lib.hid hB
    clear ho hp hB
    by_cases hlt : k < n
    · have e1 : (k : Int) < (n : Int) := by omega
      go_wp2_with fail
      refine (HS.out _ (HR.out.below HB.out)).mono ?_
      rintro E w1 ⟨v, rfl, hv, hb⟩
      obtain ⟨xA, xn, xc, xB, xm, xd, rfl, hpb⟩ := hv
      have hO1 := HO.out.below hb
      have hB1 := HB.out.trans (hb.mono HB.out.size)
      have al := (Below.refl w1.heap.size w1).alloc (Nat.le_refl _) (.cells #[.slice xA xn xc, .slice xB xm xd] 68)
      have hO2 := Lib.hid (hO1.below al)
      have hB2 := Lib.hid (hB1.alloc hB1.size (.cells #[.slice xA xn xc, .slice xB xm xd] 68))
      have hP2 := Lib.hid (hpb.below al)
      have HX := Lib.hid (heap_alloc_new w1 (.cells #[.slice xA xn xc, .slice xB xm xd] 68))
      obtain ⟨u, hu⟩ : ∃ u, u = w1.alloc (.cells #[.slice xA xn xc, .slice xB xm xd] 68) := ⟨_, rfl⟩
      have Hu := Lib.hid hu
      rw [← hu] at hO2 hB2 hP2 HX
      clear hb al hu hO1 hB1 hpb HO HB
      go_upto_region 6 with fail
      rw [← Hu.out]
      clear Hu
      generalize w1.heap.size = gx at *
      obtain ⟨x0, x1, _, _⟩ := two_cells HX.out
      have hba := (Below.refl u.heap.size u).alloc (Nat.le_refl _) (.cells #[.slice xA xn xc, .slice xB xm xd] 68)
      have HO3 := Lib.hid (hO2.out.below hba)
      have HP3 : Hid ((⟨xA, xn, xc, xB, xm, xd, (startC cred)⟩ : Dk).ok (u.alloc (.cells #[.slice xA xn xc, .slice xB xm xd] 68))) := Lib.hid (PB.below hP2.out hba)
      have HB3 := Lib.hid (hB2.out.trans (hba.mono hB2.out.size))
      have HY := Lib.hid (heap_alloc_new u (.cells #[.slice xA xn xc, .slice xB xm xd] 68))
      clear hba
      go_wp2_with (at_builtin; refine wpList_append_dk (by rfl) (.tmp 19) (.tmp 21) (by rfl) _ (by rfl) HO3.out ⟨xA, xn, xc, xB, xm, xd, (startC cred)⟩ HP3.out u.heap.size (by rfl) 68 HY.out (by omega) HB3.out.size ?_; intro g cap' w4 ho4 hg4 hlt4)
      have hB4 : Below w.heap.size w w4 := by
        refine ⟨hg4.os.trans HB3.out.os, hg4.tape.trans HB3.out.tape, hg4.output.trans HB3.out.output, Nat.le_trans HB3.out.size hg4.size, fun k hk => (hg4.block k (Nat.lt_of_lt_of_le hk HB3.out.size) fun e => ?_).trans (HB3.out.block k hk)⟩
        have := (HO3.out.os.lt k e.symm).1
        omega
      go_roundw
      case rel => exact ⟨k + 1, _, _, l ++ [⟨xA, xn, xc, xB, xm, xd, (startC cred)⟩], by omega, by go_num, rfl, ho4, by rw [plats, List.map_append, ← plats, HP.out, List.replicate_succ']; rfl, hB4⟩
      case measure => simp [intOf]; omega
    · obtain rfl : k = n := by omega
      have e1 : ¬ (k : Int) < (k : Int) := by omega
      go_wp2_with fail
      go_ret
      exact ⟨_, _, rfl, l, HO.out, HP.out, HB.out⟩
theorem shown_any (a b : ByteArray) (ok : Bool) (w : World) (hR : Rounds w) (ha : a.size ≤ 1000000000) (hb : b.size ≤ 1000000000) :
    Calls Tryz.prog 17 #[.string a, .string b, .bool ok] w fun e w' => ∃ r, e = .returned (.bool r) ∧ (ok = true ∧ a ≠ b ∧ bs (sumL a.data.toList) = bs (sumL b.data.toList) → r = true) ∧ Below w.heap.size w w' := by
  have HR := Lib.hid hR
  have HSa := Lib.hid (fun W h => sum_any a W h ha)
  have HSb := Lib.hid (fun W h => sum_any b W h hb)
  clear hR ha hb
  generalize bs (sumL a.data.toList) = sa at HSa ⊢
  generalize bs (sumL b.data.toList) = sb at HSb ⊢
  cases ok with
  | false =>
    go_enter Tryz.func17, Tryz.ntmps17
    go_wp2_with fail
    go_ret
    exact ⟨false, rfl, fun h => Bool.noConfusion h.1, Below.refl _ _⟩
  | true =>
  by_cases hab : a = b
  · have d1 : (a.toList == b.toList) = true := by rw [hab]; exact beq_self_eq_true _
    have Hab := Lib.hid hab
    clear hab
    go_enter Tryz.func17, Tryz.ntmps17
    go_wp2_with fail
    go_ret
    exact ⟨false, rfl, fun h => absurd Hab.out h.2.1, Below.refl _ _⟩
  · have d1 : (a.toList == b.toList) = false := text_ne' hab
    clear hab
    go_enter Tryz.func17, Tryz.ntmps17
    go_wp2_with fail
    refine (HSa.out _ HR.out).mono ?_
    rintro e w1 ⟨rfl, hb1⟩
    have HB1 := Lib.hid hb1
    clear hb1
    go_wp2_with fail
    refine (HSb.out _ (HR.out.below HB1.out)).mono ?_
    rintro e w2 ⟨rfl, hb2⟩
    have HB2 := Lib.hid (Below.chain HB1.out hb2)
    clear hb2
    by_cases hs : sa = sb
    · have d2 : (sa.toList == sb.toList) = true := by rw [hs]; exact beq_self_eq_true _
      clear hs
      go_wp2_with fail
      go_ret
      exact ⟨true, rfl, fun _ => rfl, HB2.out⟩
    · have d2 : (sa.toList == sb.toList) = false := text_ne' hs
      have Hs := Lib.hid hs
      clear hs
      go_wp2_with fail
      go_ret
      exact ⟨false, rfl, fun h => absurd h.2.2 Hs.out, HB2.out⟩
theorem dealtT_any (w : World) (hT : Turns w) (hR : Rounds w) :
    Calls Tryz.prog 9 #[] w fun E w' => E = .returned (.bool true) ∧ Below w.heap.size w w' := by
  obtain ⟨r1, r2, r3, r4, L, M, _, _, hL, _, _, _, _, _, _, _, hL2, _⟩ := doc_law
  have HR := Lib.hid hR
  have HT := Lib.hid hT
  have hDE : dealE seedT [ann2, bob2] 2 1 = 0 := by unfold dealE; rw [if_pos cOK2]
  have HD1 := Lib.hid (show ∀ (W : World) (g : Nat), W.heap[g]? = some (.cells #[.string ann2, .string bob2] 9 (0, 0)) → Turns W → Rounds W → Calls Tryz.prog 7 #[.string seedT, .slice (some ⟨g, 0, none⟩) 2 2, .int .i64 2, .int .i64 1] W (CDealR W docD 0) from fun W g hg h1 h2 => by
    have := cdeal_any seedT [ann2, bob2] (some ⟨g, 0, none⟩) 2 2 2 1 W (rd_of_blk hg) rfl (by unfold maxLen; omega) h1 h2
    rw [hDE] at this
    exact this)
  have HSt := Lib.hid (fun W h => startsT_any 2 wordT W (by omega) h)
  have HL := Lib.hid (show spreadC docD (List.replicate 2 (startC wordT)) (-1) = (L, true, 0) from hL)
  have HE := Lib.hid (And.intro r1 (And.intro r2 r3))
  have HL2 := Lib.hid hL2
  have hsm : smallP (startC wordT) := old_small (g := ⟨1, 0, none0, none0⟩) (fresh_old (startC_fresh wordT) word_len rfl)
  have HSm := Lib.hid hsm
  clear hL2 hsm
  generalize docD = D at *
  unfold seedT ann2 bob2 at HD1
  unfold wordT at HSt HL HSm
  clear hDE hT hR hL r1 r2 r3 r4
  go_enter Tryz.func9, Tryz.ntmps9
  go_wp2_with fail
  have al0 := (Below.refl w.heap.size w).alloc (Nat.le_refl _) (.cells #[.string ann2, .string bob2] 9)
  refine Calls.mono (HD1.out _ w.heap.size (heap_alloc_new w _) (HT.out.below al0) (HR.out.below al0)) ?_
  rintro e w1 ⟨v, rfl, hv, hb1⟩
  obtain ⟨A, n, c, B, m, d, C, p, q, E, s, t, rfl, k1, k2, k3, k4, k5, k6, k7, k8⟩ := hv
  have hv : DV w1 (.agg #[.int .i64 D.r.e, .int .i64 D.r.k, .slice A n c, .slice B m d, .string D.sec, .slice C p q, .slice E s t]) D := ⟨A, n, c, B, m, d, C, p, q, E, s, t, rfl, k1, k2, k3, k4, k5, k6, k7, k8⟩
  have hbw := Below.chain al0 hb1
  have al := (Below.refl w1.heap.size w1).alloc (Nat.le_refl _) (.cells #[.int .i64 D.r.e, .int .i64 D.r.k, .slice A n c, .slice B m d, .string D.sec, .slice C p q, .slice E s t] 29)
  have HB := Lib.hid (Below.chain hbw al)
  have HV := Lib.hid (hv.below al)
  have HX := Lib.hid (heap_alloc_new w1 (.cells #[.int .i64 D.r.e, .int .i64 D.r.k, .slice A n c, .slice B m d, .string D.sec, .slice C p q, .slice E s t] 29))
  obtain ⟨u, hu⟩ : ∃ u, u = w1.alloc (.cells #[.int .i64 D.r.e, .int .i64 D.r.k, .slice A n c, .slice B m d, .string D.sec, .slice C p q, .slice E s t] 29) := ⟨_, rfl⟩
  have Hu := Lib.hid hu
  rw [← hu] at HB HV HX
  clear hu al hbw al0 hb1 hv k1 k2 k3 k4 k5 k6 k7 k8 HD1
  go_upto_region 2 with fail
  rw [← Hu.out]
  clear Hu
  generalize w1.heap.size = X at *
  obtain ⟨⟨z0, z1, z2, z3, z4, z5, z6⟩, zf⟩ := seven_cells HX.out
  have z := And.intro (And.intro (And.intro z0 z1) (And.intro z2 z3)) (And.intro (And.intro z4 z5) z6)
  clear z0 z1 z2 z3 z4 z5 z6 zf
  have HBu := Lib.hid HB.out.drew
  go_wp2_with fail
  go_region_held3 (fun w' => ((w'.cell? ⟨X, 0, none⟩ = some (.int .i64 D.r.e) ∧ w'.cell? ⟨X, 1, none⟩ = some (.int .i64 D.r.k)) ∧ (w'.cell? ⟨X, 2, none⟩ = some (.slice A n c) ∧ w'.cell? ⟨X, 3, none⟩ = some (.slice B m d))) ∧ (w'.cell? ⟨X, 4, none⟩ = some (.string D.sec) ∧ w'.cell? ⟨X, 5, none⟩ = some (.slice C p q)) ∧ w'.cell? ⟨X, 6, none⟩ = some (.slice E s t))
    (first | with_reducible assumption | exact z | exact keep7_below z hb3 | exact keep7_below z hb5)
    (first
      | (go_at_call 11; refine Calls.mono (HSt.out _ (HR.out.below HBu.out)) ?_; rintro _ w2 ⟨A3, cap3, l3, rfl, ho3, hp3, hb2⟩; have hb3 := Below.chain ((Below.refl u.heap.size u).drew) hb2)
      | (go_at_call 10; refine Calls.mono (cspread_any A3 2 cap3 l3 _ D (-1) _ ho3.rd ho3.hn (by omega) (fun x hx => by have := dk_of_plats ho3 hp3 x hx; have := HSm.out; unfold smallP at this; omega) (HV.out.below hb3) (HR.out.below (Below.chain HB.out hb3))) ?_; rw [hp3, HL.out]; rintro _ w4 ⟨A4, n4, cap4, l4, rfl, hn4, hp4, hr4, hb4, ho4⟩; clear ho4; replace hn4 := Lib.hid hn4; have hb5 := Below.chain hb3 hb4))
  rename_i hheld
  have HX5 := hblk_below HX hb5
  have HB5 := Lib.hid (Below.chain HB.out hb5)
  have HV5 := Lib.hid (HV.out.below hb5)
  have h24 : n4 = 2 := by
    have h2 : (plats l4).length = 2 := by rw [hp4, HL2.out]
    rw [plats_len, ← hn4.out] at h2
    exact h2
  clear hheld hb5 hb4 hr4 hb2 hb3 ho3 hp3 hn4 hp4 HX HB HV HBu z HSt HL
  subst h24
  obtain ⟨⟨z0, z1, z2, z3, z4, z5, z6⟩, zf⟩ := seven_cells HX5.out
  have HCk := Lib.hid (rcheck_any _ D w4 HV5.out (HR.out.below HB5.out))
  rw [HE.out.1] at HCk
  clear zf
  go_wp2_with fail
  refine HCk.out.mono ?_
  rintro e w6 ⟨rfl, hb6⟩
  have HB6 := Lib.hid (Below.chain HB5.out hb6)
  clear hb6
  go_wp2_with fail
  go_ret
  exact ⟨rfl, HB6.out⟩
end

/- TpA -/
section
open Go.RowKit
set_option linter.unusedVariables false
set_option linter.unusedSimpArgs false
set_option maxRecDepth 100000
set_option maxHeartbeats 16000000

theorem ans_infoT : (Tryz.prog.info? 45).map (fun i => (i.zero, i.size, i.bytes)) = some (some (.agg #[.string ⟨#[]⟩, .string ⟨#[]⟩, .int .i64 0, .string ⟨#[]⟩]), 4, 56) := by kernel_rfl
theorem ta_app (a b : List Ans) : answersV (a ++ b) = answersV a ++ answersV b := by simp [answersV]
theorem ta_bools {w : World} {A : Option Addr} {l : List Bool} {i : Nat} (h : Rd w A (boolsV l)) (hi : i < l.length) : ∃ b off, A = some ⟨b, off, none⟩ ∧ w.cell? ⟨b, off + i, none⟩ = some (.bool l[i]) :=
  h i (.bool l[i]) (by simp [boolsV, hi])
theorem k3_below {W w' : World} {p q r : Addr} {u v x : Value} (h : W.cell? p = some u ∧ (W.cell? q = some v ∧ W.cell? r = some x)) (hb : Below W.heap.size W w') : w'.cell? p = some u ∧ (w'.cell? q = some v ∧ w'.cell? r = some x) :=
  ⟨(hb.cell (cell_lt h.1)).trans h.1, keep2_below h.2 hb⟩
theorem k3_ad {W : World} {o : Obj} {p q r : Addr} {u v x : Value} (h : W.cell? p = some u ∧ (W.cell? q = some v ∧ W.cell? r = some x)) : (W.alloc o).drew.cell? p = some u ∧ ((W.alloc o).drew.cell? q = some v ∧ (W.alloc o).drew.cell? r = some x) :=
  k3_below h ((Below.refl _ _).alloc (Nat.le_refl _) o).drew
theorem ta_keep {w u W' : World} {o : Obj} {b oo G B : Nat} {s : ByteArray} {x y : Value} {t : TypeId} {e : TypeId} {size : Nat} {v : Value} {n : Nat} {xs : List Value} (h : (u.alloc o).drew.cell? ⟨b, oo, none⟩ = some (.string s) ∧ ((u.alloc o).drew.cell? ⟨G, 0, none⟩ = some x ∧ (u.alloc o).drew.cell? ⟨G, 1, none⟩ = some y))
    (ho : (u.alloc o).drew.ownsRow B e size v n xs) (hg : (u.alloc o).drew.grownBy W' v.ownBlock) (hc : w.cell? ⟨b, oo, none⟩ = some (.string s)) (hb : Below w.heap.size w W') (hX : u.heap[G]? = some (.cells #[x, y] t (0, 0))) (hne : t ≠ e) :
    W'.cell? ⟨b, oo, none⟩ = some (.string s) ∧ (W'.cell? ⟨G, 0, none⟩ = some x ∧ W'.cell? ⟨G, 1, none⟩ = some y) := by
  have hX2 : ((u.alloc o).drew).heap[G]? = some (.cells #[x, y] t (0, 0)) := cells_below hX (((Below.refl u.heap.size u).alloc (Nat.le_refl _) o).drew)
  have hX3 : W'.heap[G]? = some (.cells #[x, y] t (0, 0)) := (hg.block G (cell_lt_of hX2) (own_far hX2 ho hne)).trans hX2
  exact ⟨(hb.cell (cell_lt hc)).trans hc, cell_in hX3 0 _ rfl, cell_in hX3 1 _ rfl⟩
theorem asked_any (A : Option Addr) (n c : Nat) (l : List Dk) (a1 : Option Addr) (c1 : Nat) (ns : List ByteArray) (cred : ByteArray) (AW : Option Addr) (wn cw : Nat) (ws : List Bool) (D : Deal) (w : World) (h : RdD w A l) (hn : n = l.length) (hr : Rd w a1 (textsV ns)) (hns : n = ns.length) (hrw : Rd w AW (boolsV ws)) (hwn : wn = ws.length) (hwm : wn ≤ 9223372036854775807) (hn6 : n ≤ 1000) (hDn : D.r.ns = ns)
    (hask : ∀ i, i < n → ∃ Q, askH ((plats l).getD i noPlat) (sumB cred) (-1) = ⟨(D.sh.getD i (0, noneT)).1, (D.sh.getD i (0, noneT)).2, D.sa.getD i noneT, Q, 0⟩) (hR : Rounds w) :
    Calls Tryz.prog 12 #[.slice A n c, .slice a1 n c1, .string cred, .slice AW wn cw] w fun e w' => ∃ X cp, e = .returned (.slice X (picks ws (min n wn)).length cp) ∧ w'.ownsRow w.heap.size 45 4 (.slice X (picks ws (min n wn)).length cp) (picks ws (min n wn)).length (answersV (allA D [] ws (min n wn))) ∧ Below w.heap.size w w' := by
  have HD := Lib.hid h
  have HN := Lib.hid hn
  have HNm := Lib.hid hr
  have HNs := Lib.hid hns
  have HRw := Lib.hid hrw
  have HWn := Lib.hid hwn
  have HDn := Lib.hid hDn
  have HAs := Lib.hid hask
  have HR := Lib.hid hR
  clear h hn hr hns hrw hwn hDn hask hR
  go_enter Tryz.func12, Tryz.ntmps12
  go_wp2_with fail
  go_loopw [9, 10] (fun va x wr => ∃ (i : Nat) (X : Option Addr) (cp : Nat), i ≤ n ∧ i ≤ wn ∧ x = .int .i64 (i : Nat) ∧ va = .slice X (picks ws i).length cp ∧ wr.ownsRow w.heap.size 45 4 (.slice X (picks ws i).length cp) (picks ws i).length (answersV (allA D [] ws i)) ∧ Below w.heap.size w wr) (fun _ x _ => n - (intOf x).toNat)
  case atStart => exact ⟨0, none, 0, by omega, by omega, rfl, rfl, World.ownsRow_nil _ _ _ _, Below.refl _ _⟩
  case round =>
    obtain ⟨i, X, cp, hi, hi2, rfl, rfl, ho, hW⟩ := hrel
    have HO := Lib.hid ho
    have HW := Lib.hid hW
    have hpl := picks_len ws i
    clear ho hW
    by_cases hlt : i < n ∧ i < wn
    · have e1 : i < n := hlt.1
      have e2 : i < wn := hlt.2
      have hin : (i : Int) < (n : Int) := by omega
      have hiw : (i : Int) < (wn : Int) := by omega
      have hiw2 : i < ws.length := by rw [← HWn.out]; omega
      obtain ⟨bW, oW, hbW, c0⟩ := ta_bools (HRw.out.below HW.out) hiw2
      subst hbW
      have Hbv := Lib.hid (show ws.getD i false = ws[i] by rw [List.getD_eq_getElem?_getD, List.getElem?_eq_getElem hiw2]; rfl)
      generalize ws[i] = bv at c0 Hbv
      clear hiw2 hlt
      cases bv with
      | false =>
        have Hpk := Lib.hid (picks_no Hbv.out)
        have Hal := Lib.hid (allA_no (D := D) (ls := []) Hbv.out)
        go_wp2_with fail
        go_roundw
        case rel => exact ⟨i + 1, X, cp, by omega, by omega, by go_num, by rw [Hpk.out], by rw [Hpk.out, Hal.out]; exact HO.out, HW.out⟩
        case measure => simp [intOf]; omega
      | true =>
        have Hpk := Lib.hid (show (picks ws (i + 1)).length = (picks ws i).length + 1 by rw [picks_yes Hbv.out]; simp)
        have hxl : i < l.length := by rw [← HN.out]; exact e1
        have hni : i < ns.length := by rw [← HNs.out]; exact e1
        have hsn : D.r.ns.getD i noneT = ns[i] := by rw [HDn.out, List.getD_eq_getElem?_getD, List.getElem?_eq_getElem hni]; rfl
        have Hal := Lib.hid (show answersV (allA D [] ws (i + 1)) = answersV (allA D [] ws i) ++ [.string ns[i], .string (D.sa.getD i noneT), .int .i64 (D.sh.getD i (0, noneT)).1, .string (D.sh.getD i (0, noneT)).2] by rw [allA_yes Hbv.out, ta_app, ← hsn]; rfl)
        obtain ⟨b, off, hA, c1⟩ := texts_at HNm.out hni
        obtain ⟨bD, oD, hAD, d0, d1⟩ := dk_at (HD.out.below HW.out).rd hxl
        subst hA hAD
        have hxok := (HD.out.below HW.out).ok _ (List.getElem_mem hxl)
        obtain ⟨Q, hq⟩ := HAs.out i e1
        rw [plats_at hxl] at hq
        generalize l[i] = x at d0 d1 hxok hq
        generalize ns[i] = nm at c1 Hal
        generalize D.sa.getD i noneT = sl at hq Hal
        generalize D.sh.getD i (0, noneT) = sh at hq Hal
        obtain ⟨sx, sb⟩ := sh
        obtain ⟨xA, xn, xc, xB, xm, xd, xP⟩ := x
        simp only at d0 d1 hq Hal
        have HXo := Lib.hid (show PB wr xA xn xB xm xP from hxok)
        have HAk := Lib.hid (fun W (h : PB W xA xn xB xm xP) h2 => hask_any (.agg #[.slice xA xn xc, .slice xB xm xd]) xP cred (-1) W ⟨_, _, _, _, _, _, rfl, h⟩ h2 (by omega))
        rw [hq] at HAk
        have C1 := Lib.hid c1
        clear c1 hxok hq hsn hxl hni
        go_wp2_with fail
        refine (HAk.out _ HXo.out (HR.out.below HW.out)).mono ?_
        rintro e w1 ⟨v, rfl, ⟨yA, yn, yc, yB, ym, yd, rfl, hy⟩, hb1⟩
        simp only
        have al1 := (Below.refl w1.heap.size w1).alloc (Nat.le_refl _) (.cells #[.int .i64 sx, .string sb] 43)
        have hx1 := heap_alloc_new w1 (.cells #[.int .i64 sx, .string sb] 43)
        have al2 := (Below.refl (w1.alloc (.cells #[.int .i64 sx, .string sb] 43)).heap.size (w1.alloc (.cells #[.int .i64 sx, .string sb] 43))).alloc (Nat.le_refl _) (.cells #[.slice yA yn yc, .slice yB ym yd] 68)
        have hbu := Below.chain hb1 (Below.chain al1 al2)
        have HX := Lib.hid (cells_below hx1 al2)
        have HO8 := Lib.hid (own_keep HO.out hbu)
        have HW8 := Lib.hid (HW.out.trans (hbu.mono HW.out.size))
        obtain ⟨u, hu⟩ : ∃ u, u = ((w1.alloc (.cells #[.int .i64 sx, .string sb] 43)).alloc (.cells #[.slice yA yn yc, .slice yB ym yd] 68)) := ⟨_, rfl⟩
        have Hu := Lib.hid hu
        rw [← hu] at HX HO8 HW8
        clear hu al1 al2 hx1 hb1 hbu hy HAk HXo d0 d1 c0
        go_upto_region 8 with fail
        rw [← Hu.out]
        clear Hu
        generalize w1.heap.size = G at *
        have QU := Lib.hid (show u.cell? ⟨b, off + i, none⟩ = some (.string nm) ∧ (u.cell? ⟨G, 0, none⟩ = some (.int .i64 sx) ∧ u.cell? ⟨G, 1, none⟩ = some (.string sb)) from And.intro ((HW8.out.cell (cell_lt C1.out)).trans C1.out) (And.intro (cell_in HX.out 0 _ rfl) (cell_in HX.out 1 _ rfl)))
        have q0 := QU.out
        have q1 := k3_below QU.out ((Below.refl u.heap.size u).drew)
        have hz8 := HW8.out.size
        obtain ⟨iA, hA0, hA1, hA2, hA3⟩ := info_parts ans_infoT
        generalize hpn : (picks ws i).length = pn at HO8 Hpk hpl ⊢
        clear HO
        go_wp2_with fail
        go_region_held3 (fun w' => w'.cell? ⟨b, off + i, none⟩ = some (.string nm) ∧ (w'.cell? ⟨G, 0, none⟩ = some (.int .i64 sx) ∧ w'.cell? ⟨G, 1, none⟩ = some (.string sb)))
          (first | with_reducible assumption | with_reducible exact k3_ad q0)
          (first
            | (refine step_append_lies _ (by rfl) (.tmp 51) (.tmp 59) 40 (by rfl) w.heap.size 45 iA (.agg #[.string ⟨#[]⟩, .string ⟨#[]⟩, .int .i64 0, .string ⟨#[]⟩]) 4 56 Tryz.underlying40 hA0 hA1 hA2 hA3 rfl (by omega) (.slice X pn cp) pn (answersV (allA D [] ws i)) (by rfl) ((HO8.out.alloc (.cells #[.string nm, .string sl, .int .i64 sx, .string sb] 45)).drew) ⟨u.heap.size, 0, none⟩ 1 1 [.string nm, .string sl, .int .i64 sx, .string sb] (by rfl) (by rfl) (World.news_of_block (show ((u.alloc (.cells #[.string nm, .string sl, .int .i64 sx, .string sb] 45)).drew).heap[u.heap.size]? = some (.cells #[.string nm, .string sl, .int .i64 sx, .string sb] 45 (0, 0)) from heap_alloc_new u _)) (by simp [Value.oneCell']) (by omega) (by unfold maxLen; omega) (by omega) (by simp; omega) _ rfl ?_; intro g4 cap4 w4 ho4 hg4 hat hlt4; have hb4 := by_row ((HO8.out.alloc (.cells #[.string nm, .string sl, .int .i64 sx, .string sb] 45)).drew) hg4 (by simp; omega); have hb9 := HW8.out.trans ((((Below.refl u.heap.size u).alloc (Nat.le_refl _) (.cells #[.string nm, .string sl, .int .i64 sx, .string sb] 45)).drew).mono hz8 |>.trans hb4); have q4 : w4.cell? ⟨b, off + i, none⟩ = some (.string nm) ∧ (w4.cell? ⟨G, 0, none⟩ = some (.int .i64 sx) ∧ w4.cell? ⟨G, 1, none⟩ = some (.string sb)) := ta_keep (k3_ad q0) (HO8.out.alloc _).drew hg4 C1.out hb9 HX.out (by decide)))
        have HA4 := Lib.hid ho4
        have HW4 := Lib.hid hb9
        clear ho4 hg4 hat hlt4 hb4 hb9 q4 q0 q1 HO8 hz8 HW8 HX QU
        go_wp2_with fail
        go_roundw
        case rel =>
          refine ⟨i + 1, some ⟨g4, 0, none⟩, cap4, by omega, by omega, by go_num, by rw [Hpk.out], ?_, HW4.out⟩
          rw [Hpk.out, Hal.out]; exact HA4.out
        case measure => simp [intOf]; omega
    · have hmin : min n wn = i := by omega
      have hex : ¬ i < n ∨ (i < n ∧ ¬ i < wn) := by
        by_cases h : i < n
        · exact .inr ⟨h, fun h2 => hlt ⟨h, h2⟩⟩
        · exact .inl h
      have Hmin := Lib.hid hmin
      clear hmin hlt
      have e0 : decide ((i : Int) < (l.length : Int)) = decide ((i : Int) < (l.length : Int)) := rfl
      clear e0
      rcases hex with hx1 | ⟨hx1, hx2⟩
      · go_wp2_with fail
        go_ret
        exact ⟨X, cp, by rw [Hmin.out]; rfl, by rw [Hmin.out]; exact HO.out, HW.out⟩
      · go_wp2_with fail
        go_ret
        exact ⟨X, cp, by rw [Hmin.out]; rfl, by rw [Hmin.out]; exact HO.out, HW.out⟩
end

/- TpB -/
section
open Go.RowKit
set_option linter.unusedVariables false
set_option linter.unusedSimpArgs false
set_option maxRecDepth 100000
set_option maxHeartbeats 8000000

def SumsR (X : Nat) (w : World) (D C : Deal) (n : Nat) (e : Ending) (w' : World) : Prop := ∃ b, e = .returned (.bool b) ∧ ((∃ i, i < n ∧ showB D C i) → b = true) ∧ Below X w w'
theorem sums_any (v : Value) (C : Deal) (D : Deal) (A : Option Addr) (n c : Nat) (w : World) (hv : DV w v C) (hr : Rd w A (answersV (oldA D n))) (hn : n ≤ 1000) (hsh : C.sh.length = n) (hsa : C.sa.length = n) (hR : Rounds w) :
    Calls Tryz.prog 14 #[v, .slice A n c] w (SumsR w.heap.size w D C n) := by
  obtain ⟨aA, an, ac, aB, am, ad, aC, ap, aq, aE, es, et, rfl, k1, k2, k3, k4, k5, k6, k7, k8⟩ := hv
  obtain rfl : n = ap := by rw [k6, hsh]
  obtain rfl : n = es := by rw [k8, hsa]
  have b1 := (Below.refl w.heap.size w).alloc (Nat.le_refl _) (.cells #[.int .i64 C.r.e, .int .i64 C.r.k, .slice aA an ac, .slice aB am ad, .string C.sec, .slice aC n aq, .slice aE n et] 29)
  have HX := Lib.hid (heap_alloc_new w (.cells #[.int .i64 C.r.e, .int .i64 C.r.k, .slice aA an ac, .slice aB am ad, .string C.sec, .slice aC n aq, .slice aE n et] 29))
  have HSh := Lib.hid (k5.below b1)
  have HSa := Lib.hid (k7.below b1)
  have HOl := Lib.hid (hr.below b1)
  have HR := Lib.hid (hR.below b1)
  have HB := Lib.hid b1
  have HLs := Lib.hid hsh
  have HLa := Lib.hid hsa
  clear k1 k2 k3 k4 k5 k6 k7 k8 b1 hr hR hsh hsa
  go_enter Tryz.func14, Tryz.ntmps14
  go_upto_region 1 with fail
  obtain ⟨u, hu⟩ : ∃ u, u = w.alloc (.cells #[.int .i64 C.r.e, .int .i64 C.r.k, .slice aA an ac, .slice aB am ad, .string C.sec, .slice aC n aq, .slice aE n et] 29) := ⟨_, rfl⟩
  rw [← hu] at HX HSh HSa HOl HR HB ⊢
  clear hu
  have hXs := HB.out.size
  generalize hXw : w.heap.size = X at *
  clear hXw
  go_wp2_with fail
  go_loopw [5] (fun x wr => ∃ i : Nat, i ≤ n ∧ x = .int .i64 (i : Nat) ∧ (∀ j, j < i → ¬ showB D C j) ∧ Below u.heap.size u wr) (fun x _ => n - (intOf x).toNat)
  case atStart => exact ⟨0, by omega, rfl, fun j h => by omega, Below.refl _ _⟩
  case round =>
    obtain ⟨i, hi, rfl, hno, hW⟩ := hrel
    have HNo := Lib.hid hno
    have HW := Lib.hid hW
    clear hno hW
    by_cases hlt : i < n
    · have e1 : (i : Int) < (n : Int) := by omega
      have hxi : i < C.sh.length := by rw [HLs.out]; exact hlt
      have hai : i < C.sa.length := by rw [HLa.out]; exact hlt
      have hoi : i < (oldA D n).length := by rw [oldA_len]; exact hlt
      obtain ⟨bE, oE, hE, c2⟩ := texts_at (HSa.out.below HW.out) hai
      obtain ⟨bC, oC, hC⟩ : ∃ b o, aC = some ⟨b, o, none⟩ := by
        obtain ⟨b, o, h, _⟩ := HSh.out.shr hxi
        exact ⟨b, o, h⟩
      obtain ⟨b, off, hA, c5, c6, c7, c8⟩ := (HOl.out.below HW.out).ans hoi
      subst hE hC hA
      obtain ⟨c3, c4⟩ := shr_at' (HSh.out.below HW.out) hxi
      have hol : (oldA D n)[i] = ansD D i := by simp [oldA]
      rw [hol] at c5 c6 c7 c8
      have hsa : C.sa[i] = C.sa.getD i noneT := by rw [List.getD_eq_getElem?_getD, List.getElem?_eq_getElem hai]; rfl
      rw [hsa] at c2
      have hsz := wit_size (C.sa.getD i noneT) (C.sh.getD i (0, noneT)) (D.sa.getD i noneT) (D.sh.getD i (0, noneT))
      have HSw := Lib.hid (show showB D C i ↔ witB (C.sa.getD i noneT) (C.sh.getD i (0, noneT)) (D.sa.getD i noneT) (D.sh.getD i (0, noneT)) = true ∧
  witP (C.sa.getD i noneT) (C.sh.getD i (0, noneT)) (D.sa.getD i noneT) (D.sh.getD i (0, noneT)) ≠ witQ (C.sa.getD i noneT) (C.sh.getD i (0, noneT)) (D.sa.getD i noneT) (D.sh.getD i (0, noneT)) ∧
  bs (sumL (witP (C.sa.getD i noneT) (C.sh.getD i (0, noneT)) (D.sa.getD i noneT) (D.sh.getD i (0, noneT))).data.toList) = bs (sumL (witQ (C.sa.getD i noneT) (C.sh.getD i (0, noneT)) (D.sa.getD i noneT) (D.sh.getD i (0, noneT))).data.toList) from Iff.rfl)
      unfold ansD at c5 c6 c7 c8
      simp only at c5 c6 c7 c8
      generalize C.sa.getD i noneT = s0 at c2 HSw hsz
      generalize C.sh.getD i (0, noneT) = p0 at c3 c4 HSw hsz
      generalize D.sa.getD i noneT = s1 at c6 HSw hsz
      generalize D.sh.getD i (0, noneT) = p1 at c7 c8 HSw hsz
      obtain ⟨x0, t0⟩ := p0
      obtain ⟨x1, t1⟩ := p1
      simp only at c3 c4 c7 c8
      have HWt := Lib.hid (fun y : Later wr => later_call (y := y) (wit_any s0 x0 t0 s1 x1 t1 y.x (HR.out.below (HW.out.trans (y.ok.mono HW.out.size)))))
      generalize witP s0 (x0, t0) s1 (x1, t1) = wp at HWt HSw hsz
      generalize witQ s0 (x0, t0) s1 (x1, t1) = wq at HWt HSw hsz
      generalize witB s0 (x0, t0) s1 (x1, t1) = wb at HWt HSw
      have HSz := Lib.hid hsz
      have p2 := fun y : Later wr => y.cell c2
      have p3 := fun y : Later wr => y.cell c3
      have p4 := fun y : Later wr => y.cell c4
      have p6 := fun y : Later wr => y.cell c6
      have p7 := fun y : Later wr => y.cell c7
      have p8 := fun y : Later wr => y.cell c8
      have p8' := fun y : Later wr => y.cell (show wr.cell? ⟨b, off + i * 4 + 2 + 1, none⟩ = some (.string t1) from c8)
      have p9 := fun y : Later wr => y.cell (cell_in (cells_below HX.out HW.out) 5 _ rfl)
      have p10 := fun y : Later wr => y.cell (cell_in (cells_below HX.out HW.out) 6 _ rfl)
      clear c2 c3 c4 c5 c6 c7 c8 hsa hol hoi hxi hai hsz
      go_wp2_with fail
      refine wp_region_later (by kernel_rfl) (by kernel_rfl) ?_
      repeat (go_big_quiet_step (first | with_reducible exact HWt.out _))
      refine wpQuiet_nil ?_
      rintro _ ⟨y, rfl⟩
      have HW1 := Lib.hid (Below.chain HW.out y.ok)
      have HSo := Lib.hid (shown_any wp wq wb y.x (HR.out.below HW1.out) (by have := HSz.out.1; omega) (by have := HSz.out.2; omega))
      clear p2 p3 p4 p6 p7 p8 p8' p9 p10 HWt
      generalize y.x = w1 at *
      go_wp2_with fail
      refine HSo.out.mono ?_
      rintro e w2 ⟨rb, rfl, hrb, hb2⟩
      have HW2 := Lib.hid (Below.chain HW1.out hb2)
      have Hrb := Lib.hid hrb
      clear hb2 hrb HSo
      cases rb with
      | true =>
        go_wp2_with fail
        go_ret
        exact ⟨true, rfl, fun _ => rfl, HB.out.trans (HW2.out.mono hXs)⟩
      | false =>
        go_wp2_with fail
        go_roundw
        case rel =>
          refine ⟨i + 1, by omega, by go_num, fun j hj => ?_, HW2.out⟩
          by_cases e : j < i
          · exact HNo.out j e
          · obtain rfl : j = i := by omega
            exact fun h => Bool.noConfusion (Hrb.out (HSw.out.1 h))
        case measure => simp [intOf]; omega
    · obtain rfl : i = n := by omega
      have e1 : ¬ (i : Int) < (i : Int) := by omega
      go_wp2_with fail
      go_ret
      exact ⟨false, rfl, fun h => by
        obtain ⟨j, hj, h2⟩ := h
        exact absurd h2 (HNo.out j hj), HB.out.trans (HW.out.mono hXs)⟩
end

/- TpU -/
section
open Go.RowKit
set_option linter.unusedVariables false
set_option linter.unusedSimpArgs false

end

/- TpO -/
section
open Go.RowKit
set_option linter.unusedVariables false
set_option linter.unusedSimpArgs false
set_option maxRecDepth 20000

theorem dealE_ok {seed : ByteArray} {ns : List ByteArray} {k e : Int} (h : dealE seed ns k e = 0) : cOK seed ns k e = true := by
  unfold dealE at h
  by_cases hc : cOK seed ns k e = true
  · exact hc
  · rw [if_neg hc] at h
    exact absurd h (by decide)
theorem deal_sec (seed : ByteArray) (ns : List ByteArray) (k e : Int) : (dealC seed ns k e).sec.size ≤ 32 := by
  by_cases hc : cOK seed ns k e = true
  · obtain ⟨m, _, _, _, _, hg, _⟩ := cOK_good hc
    rw [hg.sz]
    exact Nat.le_refl _
  · unfold dealC
    rw [if_neg hc]
    decide
/-- Two epochs of the same names. -/
structure OldP (D C : Deal) (ns : List ByteArray) (n : Nat) (cred : ByteArray) (L M : List Plat) : Prop where
  sp : spreadC D (List.replicate n (startC cred)) (-1) = (L, true, 0)
  hL : L.length = n
  sm : ∀ P ∈ L, smallP P
  sp2 : spreadC C L (-1) = (M, true, 0)
  hM : M.length = n
  ask : ∀ i, i < n → ∃ Q, askH (M.getD i noPlat) (sumB cred) (-1) = ⟨(C.sh.getD i (0, noneT)).1, (C.sh.getD i (0, noneT)).2, C.sa.getD i noneT, Q, 0⟩
  n1 : 1 ≤ n
  n16 : n ≤ 16
  dsh : D.sh.length = n
  dsa : D.sa.length = n
  csh : C.sh.length = n
  csa : C.sa.length = n
  dns : D.r.ns = ns
  cns : C.r.ns = ns
  dx : ∀ i, i < n → (D.sh.getD i (0, noneT)).1 = ((i + 1 : Nat) : Int)
  cx : ∀ i, i < n → (C.sh.getD i (0, noneT)).1 = ((i + 1 : Nat) : Int)
  law : ∀ wp, unlE C.r (oldA D n) wp = 220 ∨ sameTo D C n = true ∨ ∃ i, i < n ∧ showB D C i
theorem old_plain {seed next cred : ByteArray} {ns : List ByteArray} {k j : Int} {n : Nat} (hn : n = ns.length) (hc : cred.size ≤ 1000000000) (h1 : dealE seed ns k 1 = 0) (h2 : dealE next ns j 2 = 0) :
    ∃ L M, OldP (dealC seed ns k 1) (dealC next ns j 2) ns n cred L M := by
  have ok1 := dealE_ok h1
  have ok2 := dealE_ok h2
  obtain ⟨m, a1, a2, a3, a4, ga, ae, an⟩ := cOK_good ok1
  obtain ⟨m', b1, b2, b3, b4, gb, be, bn⟩ := cOK_good ok2
  obtain ⟨L, hL, hL2, hL3⟩ := whole_spread ok1 (cred := sumB cred) (l := List.replicate n (startC cred)) (by rw [List.length_replicate, hn]) (fun i hi g hg => startC_old cred hc n (by rw [hn]; exact hi) hg)
  obtain ⟨M, hM, hM2, hM3⟩ := whole_spread ok2 (cred := sumB cred) (l := L) hL2 (fun i hi g hg => by
    obtain ⟨g1, g2, g3⟩ := hL3 i hi
    exact comm_old g1 g3 (by rw [g2, hg]; rfl))
  refine ⟨L, M, hL, by rw [hL2, hn], fun P hP => ?_, hM, by rw [hM2, hn], fun i hi => ?_, by omega, by omega, ?_, ?_, ?_, ?_, an, bn, fun i hi => ?_, fun i hi => ?_, fun wp => ?_⟩
  · obtain ⟨i, hi, rfl⟩ := List.mem_iff_getElem.1 hP
    obtain ⟨g1, g2, g3⟩ := hL3 i (by omega)
    have := chk_small g3.1.chk
    rw [List.getD_eq_getElem?_getD, List.getElem?_eq_getElem hi] at this
    exact this
  · obtain ⟨g1, g2, g3⟩ := hM3 i (by omega)
    exact comm_ask g1 g3
  · rw [ga.sh, List.length_map, List.length_range, an, hn]
  · rw [ga.sl, an, hn]
  · rw [gb.sh, List.length_map, List.length_range, bn, hn]
  · rw [gb.sl, bn, hn]
  · exact ans_x ga (by rw [an]; omega)
  · exact ans_x gb (by rw [bn]; omega)
  · have := old_law ga gb (by rw [an, bn]) wp
    rw [bn, ← hn] at this
    exact this
def truesTo (n k : Nat) : List Bool := List.replicate k true ++ List.replicate (n - k) false
theorem truesTo_len {n k : Nat} (h : k ≤ n) : (truesTo n k).length = n := by simp [truesTo]; omega
theorem truesTo_all (n : Nat) : truesTo n n = List.replicate n true := by simp [truesTo]
theorem truesTo_set {m k : Nat} (h : k < m) : (truesTo m k).set k true = truesTo m (k + 1) := by
  unfold truesTo
  rw [List.set_append_right _ _ (by simp), List.length_replicate, Nat.sub_self, show m - k = (m - (k + 1)) + 1 by omega, List.replicate_succ, List.set_cons_zero, List.replicate_succ' (n := k), List.append_assoc]
  rfl
theorem bools_cell {w : World} {g : Nat} {t : TypeId} {xs : List Bool} (h : w.heap[g]? = some (.cells (boolsV xs).toArray t (0, 0))) {i : Nat} (hi : i < xs.length) :
    w.cell? ⟨g, i, none⟩ = some (.bool xs[i]) ∧ w.frozen? ⟨g, i, none⟩ = false := by
  refine ⟨?_, ?_⟩
  · unfold World.cell?
    simp only [h]
    simp [boolsV, hi]
  · unfold World.frozen?
    simp only [h]
    simp
theorem bools_set {w : World} {g : Nat} {t : TypeId} {xs : List Bool} (h : w.heap[g]? = some (.cells (boolsV xs).toArray t (0, 0))) (i : Nat) (x : Bool) :
    (w.setCell ⟨g, i, none⟩ (.bool x)).heap[g]? = some (.cells (boolsV (xs.set i x)).toArray t (0, 0)) := by
  rw [blk_set h]
  simp [boolsV]
theorem picks_all (n : Nat) : ∀ i, i ≤ n → picks (List.replicate n true) i = List.range i := fun i hi => by
  unfold picks
  rw [List.filter_eq_self]
  intro j hj
  rw [List.mem_range] at hj
  rw [List.getD_eq_getElem?_getD, List.getElem?_replicate, if_pos (by omega)]
  rfl
theorem allA_all (C : Deal) (n : Nat) : allA C [] (List.replicate n true) n = oldA C n := by
  unfold allA oldA
  rw [picks_all n n (Nat.le_refl _), List.nil_append]
theorem bool_infoT : (Tryz.prog.info? 4).map (fun i => (i.zero, i.size, i.bytes)) = some (some (.bool false), 1, 1) := by kernel_rfl
theorem to6_below {W w' : World} {p q r s t z : Addr} {u v x y a b : Value} (h : ((W.cell? p = some u ∧ W.cell? q = some v) ∧ (W.cell? r = some x ∧ W.cell? s = some y)) ∧ (W.cell? t = some a ∧ W.cell? z = some b)) (hb : Below W.heap.size W w') : ((w'.cell? p = some u ∧ w'.cell? q = some v) ∧ (w'.cell? r = some x ∧ w'.cell? s = some y)) ∧ (w'.cell? t = some a ∧ w'.cell? z = some b) :=
  ⟨⟨keep2_below h.1.1 hb, keep2_below h.1.2 hb⟩, keep2_below h.2 hb⟩
theorem to6_ad {W : World} {o : Obj} {p q r s t z : Addr} {u v x y a b : Value} (h : ((W.cell? p = some u ∧ W.cell? q = some v) ∧ (W.cell? r = some x ∧ W.cell? s = some y)) ∧ (W.cell? t = some a ∧ W.cell? z = some b)) : (((W.alloc o).drew.cell? p = some u ∧ (W.alloc o).drew.cell? q = some v) ∧ ((W.alloc o).drew.cell? r = some x ∧ (W.alloc o).drew.cell? s = some y)) ∧ ((W.alloc o).drew.cell? t = some a ∧ (W.alloc o).drew.cell? z = some b) :=
  to6_below h ((Below.refl _ _).alloc (Nat.le_refl _) o).drew
theorem bools_keep {u W' : World} {o : Obj} {G B : Nat} {cs : Array Value} {t e : TypeId} {size : Nat} {v : Value} {n : Nat} {xs : List Value}
    (ho : (u.alloc o).drew.ownsRow B e size v n xs) (hg : (u.alloc o).drew.grownBy W' v.ownBlock) (hX : u.heap[G]? = some (.cells cs t (0, 0))) (hne : t ≠ e) : W'.heap[G]? = some (.cells cs t (0, 0)) := by
  have hX2 : ((u.alloc o).drew).heap[G]? = some (.cells cs t (0, 0)) := cells_below hX (((Below.refl u.heap.size u).alloc (Nat.le_refl _) o).drew)
  exact (hg.block G (cell_lt_of hX2) (own_far hX2 ho hne)).trans hX2
end

/- TopOld -/
section
open Go.RowKit
set_option linter.unusedVariables false
set_option linter.unusedSimpArgs false
set_option maxRecDepth 100000
set_option maxHeartbeats 32000000

theorem topOld_law (seed : ByteArray) (_ : seed.size ≤ maxLen) (next : ByteArray) (_ : next.size ≤ maxLen) (cred : ByteArray) (_ : cred.size ≤ maxLen) (master : ByteArray) (_ : master.size ≤ maxLen) (nonce : ByteArray) (_ : nonce.size ≤ maxLen) (a5 : Option Addr) (n c5 : Nat) (ns : List ByteArray) (hn : n = ns.length) (hn9 : ns.length ≤ maxLen) (hnz : ∀ x ∈ ns, x.size ≤ maxLen) (k j : Int)
    (w : World) (hT : Turns w) (hR : Rounds w) (hr5 : Rd w a5 (textsV ns)) :
    Calls Tryz.prog 3 #[.string seed, .string next, .string cred, .string master, .string nonce, .slice a5 n c5, .int .i64 k, .int .i64 j] w fun e w' => e = .returned (.bool true) ∧ Below w.heap.size w w' := by
  have HT := Lib.hid hT
  have HR := Lib.hid hR
  have HN := Lib.hid hn
  have HN9 : Hid (n ≤ maxLen) := Lib.hid (by rw [hn]; exact hn9)
  have HNm := Lib.hid hr5
  have hn91 : n ≤ 9223372036854775807 := by have h1 := HN9.out; unfold maxLen at h1; omega
  clear hT hR hr5 hn hn9 hnz
  go_enter Tryz.func3, Tryz.ntmps3
  go_wp2_with fail
  have al0 := (Below.refl w.heap.size w).alloc (Nat.le_refl _) (.cells #[.string seed, .string next, .string cred, .string master, .string nonce] 9)
  refine Calls.mono (short_any _ 5 5 [seed, next, cred, master, nonce] _ (rd_of_blk (heap_alloc_new w _)) rfl (by unfold maxLen; omega)) ?_
  rintro e w1 ⟨b1, rfl, hb1, hw1⟩
  subst w1
  have HB0 := Lib.hid al0
  clear al0
  generalize w.alloc (.cells #[.string seed, .string next, .string cred, .string master, .string nonce] 9) = w0 at *
  cases b1 with
  | false =>
    clear hb1
    go_wp2_with fail
    go_ret
    exact ⟨rfl, HB0.out⟩
  | true =>
  have hz := hb1 rfl
  have hz2 : cred.size ≤ 200 := hz _ (by simp)
  have hz3 : master.size ≤ 200 := hz _ (by simp)
  have hz4 : nonce.size ≤ 200 := hz _ (by simp)
  clear hb1 hz
  go_wp2_with fail
  refine (fewT_any a5 n c5 ns w0 (HNm.out.below HB0.out) HN.out HN9.out).mono ?_
  rintro e w1 ⟨b1, rfl, hb1, hw1⟩
  subst w1
  cases b1 with
  | false =>
    clear hb1
    go_wp2_with fail
    go_ret
    exact ⟨rfl, HB0.out⟩
  | true =>
  have hn6 : n ≤ 6 := (hb1 rfl).1
  clear hb1
  have HDt := Lib.hid (fun (W : World) (h : Below w.heap.size w W) => dealtT_any W (HT.out.below h) (HR.out.below h))
  have HD1 := Lib.hid (cdeal_any seed ns a5 n c5 k 1 w0 (HNm.out.below HB0.out) HN.out HN9.out (HT.out.below HB0.out) (HR.out.below HB0.out))
  have HD2 := Lib.hid (fun (W : World) (h : Below w.heap.size w W) => cdeal_any next ns a5 n c5 j 2 W (HNm.out.below h) HN.out HN9.out (HT.out.below h) (HR.out.below h))
  have HP := Lib.hid (fun h1 h2 => old_plain (seed := seed) (next := next) (cred := cred) (k := k) (j := j) HN.out (by omega) h1 h2)
  have HSc := Lib.hid (deal_sec next ns j 2)
  generalize dealE seed ns k 1 = e1 at HD1 HP
  generalize dealE next ns j 2 = e2 at HD2 HP
  generalize dealC seed ns k 1 = D at HD1 HP
  generalize dealC next ns j 2 = C at HD2 HP HSc
  go_wp2_with fail
  refine Calls.mono HD1.out ?_
  rintro e w3 ⟨v3, rfl, hv3, hb3⟩
  have hv3' := hv3
  obtain ⟨aA, an, ac, aB, am, ad, aC, ap, aq, aE, es, et, rfl, k1, k2, k3, k4, k5, k6, k7, k8⟩ := hv3
  have al := (Below.refl w3.heap.size w3).alloc (Nat.le_refl _) (.cells #[.int .i64 D.r.e, .int .i64 D.r.k, .slice aA an ac, .slice aB am ad, .string D.sec, .slice aC ap aq, .slice aE es et] 29)
  have hb4 := Below.chain hb3 al
  have HB1 := Lib.hid (Below.chain HB0.out hb4)
  have HX1 := Lib.hid (heap_alloc_new w3 (.cells #[.int .i64 D.r.e, .int .i64 D.r.k, .slice aA an ac, .slice aB am ad, .string D.sec, .slice aC ap aq, .slice aE es et] 29))
  have HV1 := Lib.hid (hv3'.below al)
  have HSh1 := Lib.hid (k5.below al)
  have HSa1 := Lib.hid (k7.below al)
  have Hap := Lib.hid k6
  have Hes := Lib.hid k8
  obtain ⟨u, hu⟩ : ∃ u, u = w3.alloc (.cells #[.int .i64 D.r.e, .int .i64 D.r.k, .slice aA an ac, .slice aB am ad, .string D.sec, .slice aC ap aq, .slice aE es et] 29) := ⟨_, rfl⟩
  have Hu := Lib.hid hu
  rw [← hu] at HB1 HX1 HV1 HSh1 HSa1
  clear hu al hb3 hb4 hv3' k1 k2 k3 k4 k5 k6 k7 k8 HD1 HB0
  go_upto_region 4 with fail
  rw [← Hu.out]
  clear Hu
  generalize w3.heap.size = X at *
  have HD3 := Lib.hid (HD2.out u HB1.out)
  go_wp2_with fail
  refine Calls.mono HD3.out ?_
  rintro e w4 ⟨v4, rfl, hv4, hb3⟩
  have hv4' := hv4
  obtain ⟨bA, bn, bc, bB, bm, bd, bC, bp, bq, bE, fs, ft, rfl, k1, k2, k3, k4, k5, k6, k7, k8⟩ := hv4
  have al := (Below.refl w4.heap.size w4).alloc (Nat.le_refl _) (.cells #[.int .i64 C.r.e, .int .i64 C.r.k, .slice bA bn bc, .slice bB bm bd, .string C.sec, .slice bC bp bq, .slice bE fs ft] 29)
  have hb4 := Below.chain hb3 al
  have HB2 := Lib.hid (Below.chain HB1.out hb4)
  have HX2 := hblk_below HX1 hb4
  have HV2 := Lib.hid (HV1.out.below hb4)
  have HSh2 := Lib.hid (HSh1.out.below hb4)
  have HSa2 := Lib.hid (HSa1.out.below hb4)
  have HY2 := Lib.hid (heap_alloc_new w4 (.cells #[.int .i64 C.r.e, .int .i64 C.r.k, .slice bA bn bc, .slice bB bm bd, .string C.sec, .slice bC bp bq, .slice bE fs ft] 29))
  have HU2 := Lib.hid (hv4'.below al)
  have HRc2 := Lib.hid (show RV _ (.agg #[.int .i64 C.r.e, .int .i64 C.r.k, .slice bA bn bc, .slice bB bm bd]) C.r from ⟨_, _, _, _, _, _, rfl, k1.below al, k2, k3.below al, k4⟩)
  have HTh2 := Lib.hid (k5.below al)
  have HTa2 := Lib.hid (k7.below al)
  have Hbp := Lib.hid k6
  have Hfs := Lib.hid k8
  obtain ⟨u2, hu⟩ : ∃ u2, u2 = w4.alloc (.cells #[.int .i64 C.r.e, .int .i64 C.r.k, .slice bA bn bc, .slice bB bm bd, .string C.sec, .slice bC bp bq, .slice bE fs ft] 29) := ⟨_, rfl⟩
  have Hu := Lib.hid hu
  rw [← hu] at HB2 HX2 HV2 HSh2 HSa2 HY2 HU2 HRc2 HTh2 HTa2
  clear hu al hb3 hb4 hv4' k1 k2 k3 k4 k5 k6 k7 k8 HD2 HD3 HB1 HX1 HV1 HSh1 HSa1
  go_upto_region 5 with fail
  rw [← Hu.out]
  clear Hu
  generalize w4.heap.size = Y at *
  have HWr := Lib.hid (wrap_any C.sec nonce master u2 (HT.out.below HB2.out) (by have := HSc.out; unfold maxLen; omega) (by unfold maxLen; omega) (by unfold maxLen; omega))
  obtain ⟨⟨z0, z1, z2, z3, z4, z5, z6⟩, zf⟩ := seven_cells HY2.out
  clear zf
  go_wp2_with fail
  refine Calls.mono HWr.out ?_
  rintro e w5 ⟨rfl, hb4⟩
  generalize wrapE C.sec nonce master = we at *
  generalize wrapS C.sec nonce master = wp at *
  have HB5 := Lib.hid (Below.chain HB2.out hb4)
  have HX5 := hblk_below HX2 hb4
  have HV5 := Lib.hid (HV2.out.below hb4)
  have HSh5 := Lib.hid (HSh2.out.below hb4)
  have HSa5 := Lib.hid (HSa2.out.below hb4)
  have HY5 := hblk_below HY2 hb4
  have HU5 := Lib.hid (HU2.out.below hb4)
  have HRc5 := Lib.hid (HRc2.out.below hb4)
  have HTh5 := Lib.hid (HTh2.out.below hb4)
  have HTa5 := Lib.hid (HTa2.out.below hb4)
  clear hb4 HWr z0 z1 z2 z3 z4 z5 z6 HB2 HX2 HV2 HSh2 HSa2 HY2 HU2 HRc2 HTh2 HTa2
  by_cases he1 : e1 = 0
  case neg =>
    have hne1 : (e1 != 0) = true := by simpa using he1
    clear HP he1
    go_wp2_with fail
    refine Calls.mono (HDt.out _ HB5.out) ?_
    rintro e w6 ⟨rfl, hb6⟩
    have HB6 := Lib.hid (Below.chain HB5.out hb6)
    clear hb6
    go_wp2_with fail
    go_ret
    exact ⟨rfl, HB6.out⟩
  subst he1
  by_cases he2 : e2 = 0
  case neg =>
    have hne2 : (e2 != 0) = true := by simpa using he2
    clear HP he2
    go_wp2_with fail
    refine Calls.mono (HDt.out _ HB5.out) ?_
    rintro e w6 ⟨rfl, hb6⟩
    have HB6 := Lib.hid (Below.chain HB5.out hb6)
    clear hb6
    go_wp2_with fail
    go_ret
    exact ⟨rfl, HB6.out⟩
  subst he2
  by_cases hw0 : we = 0
  case neg =>
    have hwne : ((we : Int) != 0) = true := by simp; omega
    clear HP hw0
    go_wp2_with fail
    refine Calls.mono (HDt.out _ HB5.out) ?_
    rintro e w6 ⟨rfl, hb6⟩
    have HB6 := Lib.hid (Below.chain HB5.out hb6)
    clear hb6
    go_wp2_with fail
    go_ret
    exact ⟨rfl, HB6.out⟩
  subst hw0
  obtain ⟨L, M, hO⟩ := HP.out rfl rfl
  have HO := Lib.hid hO
  clear HP hO
  obtain rfl : n = ap := by rw [Hap.out]; exact HO.out.dsh.symm
  obtain rfl : n = es := by rw [Hes.out]; exact HO.out.dsa.symm
  obtain rfl : n = bp := by rw [Hbp.out]; exact HO.out.csh.symm
  obtain rfl : n = fs := by rw [Hfs.out]; exact HO.out.csa.symm
  clear Hap Hes Hbp Hfs HSc
  have hn1 : 1 ≤ n := HO.out.n1
  have HSt := Lib.hid (fun W h => startsT_any n cred W (by omega) h)
  have HSm : Hid (smallP (startC cred)) := Lib.hid (old_small (g := ⟨1, 0, none0, none0⟩) (fresh_old (startC_fresh cred) (cred_len (by omega)) rfl))
  obtain ⟨⟨z0, z1, z2, z3, z4, z5, z6⟩, zf⟩ := seven_cells HX5.out
  have z := And.intro (And.intro (And.intro z0 z1) (And.intro z2 z3)) (And.intro (And.intro z4 z5) z6)
  clear z0 z1 z2 z3 z4 z5 z6 zf
  have HBu := Lib.hid HB5.out.drew
  go_wp2_with fail
  go_region_held3 (fun w' => ((w'.cell? ⟨X, 0, none⟩ = some (.int .i64 D.r.e) ∧ w'.cell? ⟨X, 1, none⟩ = some (.int .i64 D.r.k)) ∧ (w'.cell? ⟨X, 2, none⟩ = some (.slice aA an ac) ∧ w'.cell? ⟨X, 3, none⟩ = some (.slice aB am ad))) ∧ (w'.cell? ⟨X, 4, none⟩ = some (.string D.sec) ∧ w'.cell? ⟨X, 5, none⟩ = some (.slice aC n aq)) ∧ w'.cell? ⟨X, 6, none⟩ = some (.slice aE n et))
    (first | with_reducible assumption | exact z | exact keep7_below z hb3 | exact keep7_below z hb5)
    (first
      | (go_at_call 11; refine Calls.mono (HSt.out _ (HR.out.below HBu.out)) ?_; rintro _ w2 ⟨A3, cap3, l3, rfl, ho3, hp3, hb2⟩; have hb3 := Below.chain ((Below.refl w5.heap.size w5).drew) hb2)
      | (go_at_call 10; refine Calls.mono (cspread_any A3 n cap3 l3 _ D (-1) _ ho3.rd ho3.hn (by omega) (fun x hx => by have := dk_of_plats ho3 hp3 x hx; have := HSm.out; unfold smallP at this; omega) (HV5.out.below hb3) (HR.out.below (Below.chain HB5.out hb3))) ?_; rw [hp3, HO.out.sp]; rintro _ w6 ⟨A4, n4, cap4, l4, rfl, hn4, hp4, hr4, hb4, ho4⟩; clear ho4; replace hn4 := Lib.hid hn4; have hb5 := Below.chain hb3 hb4))
  rename_i hheld
  have HX6 := hblk_below HX5 hb5
  have HB6 := Lib.hid (Below.chain HB5.out hb5)
  have HSh6 := Lib.hid (HSh5.out.below hb5)
  have HSa6 := Lib.hid (HSa5.out.below hb5)
  have HY6 := hblk_below HY5 hb5
  have HU6 := Lib.hid (HU5.out.below hb5)
  have HRc6 := Lib.hid (HRc5.out.below hb5)
  have HTh6 := Lib.hid (HTh5.out.below hb5)
  have HTa6 := Lib.hid (HTa5.out.below hb5)
  have h24 : n4 = n := by
    have h2 : (plats l4).length = n := by rw [hp4, HO.out.hL]
    rw [plats_len, ← hn4.out] at h2
    exact h2
  have HS2 := Lib.hid (cspread_any A4 n4 cap4 l4 _ C (-1) w6 hr4 hn4.out (by omega) (fun x hx => by
    have hxp : x.P ∈ L := by rw [← hp4]; unfold plats; exact List.mem_map_of_mem hx
    have h1 := HO.out.sm _ hxp
    have h3 := hr4.ok x hx
    unfold smallP at h1
    exact ⟨by rw [h3.hn]; exact h1.1, by rw [h3.hm]; exact h1.2⟩) HU6.out (HR.out.below HB6.out))
  rw [hp4, HO.out.sp2] at HS2
  clear hheld hb5 hb4 hr4 hb2 hb3 ho3 hp3 hn4 hp4 HX5 HB5 HV5 HSh5 HSa5 HY5 HU5 HRc5 HTh5 HTa5 HBu z HSt HSm
  subst h24
  obtain ⟨⟨z0, z1, z2, z3, z4, z5, z6⟩, zf⟩ := seven_cells HY6.out
  clear zf
  go_wp2_with fail
  refine Calls.mono HS2.out ?_
  rintro e w7 ⟨A6, n6, cap6, l6, rfl, hn6', hp6, hr6, hb6, ho6⟩
  have HX7 := hblk_below HX6 hb6
  have HB7 := Lib.hid (Below.chain HB6.out hb6)
  have HSh7 := Lib.hid (HSh6.out.below hb6)
  have HSa7 := Lib.hid (HSa6.out.below hb6)
  have HY7 := hblk_below HY6 hb6
  have HU7 := Lib.hid (HU6.out.below hb6)
  have HRc7 := Lib.hid (HRc6.out.below hb6)
  have HTh7 := Lib.hid (HTh6.out.below hb6)
  have HTa7 := Lib.hid (HTa6.out.below hb6)
  have h26 : n6 = n4 := by
    have h2 : (plats l6).length = n4 := by rw [hp6, HO.out.hM]
    rw [plats_len, ← hn6'] at h2
    exact h2
  have HR6 := Lib.hid hr6
  have HN6 := Lib.hid (show n4 = l6.length by rw [← h26]; exact hn6')
  have HP6 := Lib.hid hp6
  clear hn6' hp6 hr6 hb6 ho6 z0 z1 z2 z3 z4 z5 z6 HS2 HX6 HB6 HSh6 HSa6 HY6 HU6 HRc6 HTh6 HTa6
  subst h26
  have hmk := fun W => run_make_row' (P := Tryz.prog) 41 4 (.bool false) 1 Tryz.underlying41 bool_infoT rfl .i64 .i64 n6 (by omega) (by omega) W
  have hmade : madeCells #[Value.bool false] n6 = (boolsV (truesTo n6 0)).toArray := by
    apply Array.ext'
    rw [toList_madeCells_one]
    simp [boolsV, truesTo]
  have al := (Below.refl w7.heap.size w7).alloc (Nat.le_refl _) (.cells (boolsV (truesTo n6 0)).toArray 4)
  have hE7 := heap_alloc_new w7 (.cells (boolsV (truesTo n6 0)).toArray 4)
  go_upto_region 14 with fail
  have HE7 := Lib.hid hE7
  have HAl := Lib.hid al
  clear al hE7 hmk hmade
  obtain ⟨w8, hw8⟩ : ∃ w8, w8 = w7.alloc (.cells (boolsV (truesTo n6 0)).toArray 4) := ⟨_, rfl⟩
  rw [← hw8] at HE7 HAl ⊢
  clear hw8
  have hxs : X < w7.heap.size ∧ Y < w7.heap.size := ⟨cell_lt_of HX7.out, cell_lt_of HY7.out⟩
  go_wp2_with fail
  go_loopw [29, 31, 32] (fun va vs x wr => ∃ (i : Nat) (X1 : Option Addr) (cp1 : Nat), i ≤ n6 ∧ x = .int .i64 (i : Nat) ∧ va = .slice X1 i cp1 ∧ vs = .bool (sameTo D C i) ∧ wr.ownsRow w7.heap.size 45 4 (.slice X1 i cp1) i (answersV (oldA D i)) ∧ wr.heap[w7.heap.size]? = some (.cells (boolsV (truesTo n6 i)).toArray 4 (0, 0)) ∧ Below w7.heap.size w7 wr) (fun _ _ x _ => n6 - (intOf x).toNat)
  case atStart => exact ⟨0, none, 0, by omega, rfl, rfl, rfl, World.ownsRow_nil _ _ _ _, HE7.out, HAl.out⟩
  case round =>
    obtain ⟨i, X1, cp1, hi, rfl, rfl, rfl, ho, hE, hW⟩ := hrel
    have HO1 := Lib.hid ho
    have HE := Lib.hid hE
    have HW := Lib.hid hW
    clear ho hE hW HE7 HAl
    by_cases hlt : i < n6
    · have hin : (i : Int) < (n6 : Int) := by omega
      have hxi : i < D.sh.length := by rw [HO.out.dsh]; exact hlt
      have hai : i < D.sa.length := by rw [HO.out.dsa]; exact hlt
      have hyi : i < C.sh.length := by rw [HO.out.csh]; exact hlt
      have hbi : i < C.sa.length := by rw [HO.out.csa]; exact hlt
      have hni : i < ns.length := by rw [← HN.out]; exact hlt
      obtain ⟨b, off, hA, c1⟩ := texts_at (HNm.out.below HB7.out) hni
      obtain ⟨bE', oE, hE', c2⟩ := texts_at HSa7.out hai
      obtain ⟨bC', oC, hC'⟩ : ∃ b o, aC = some ⟨b, o, none⟩ := by
        obtain ⟨b, o, h, _⟩ := HSh7.out.shr hxi
        exact ⟨b, o, h⟩
      obtain ⟨bF, oF, hF, c5⟩ := texts_at HTa7.out hbi
      obtain ⟨bG, oG, hG⟩ : ∃ b o, bC = some ⟨b, o, none⟩ := by
        obtain ⟨b, o, h, _⟩ := HTh7.out.shr hyi
        exact ⟨b, o, h⟩
      subst hA hE' hC' hF hG
      obtain ⟨c3, c4⟩ := shr_at' HSh7.out hxi
      obtain ⟨c6, c7⟩ := shr_at' HTh7.out hyi
      have hsa : D.sa[i] = D.sa.getD i noneT := by rw [List.getD_eq_getElem?_getD, List.getElem?_eq_getElem hai]; rfl
      have hsb : C.sa[i] = C.sa.getD i noneT := by rw [List.getD_eq_getElem?_getD, List.getElem?_eq_getElem hbi]; rfl
      have hsn : ns[i] = D.r.ns.getD i noneT := by rw [HO.out.dns, List.getD_eq_getElem?_getD, List.getElem?_eq_getElem hni]; rfl
      have hol : answersV (oldA D (i + 1)) = answersV (oldA D i) ++ [.string (D.r.ns.getD i noneT), .string (D.sa.getD i noneT), .int .i64 (D.sh.getD i (0, noneT)).1, .string (D.sh.getD i (0, noneT)).2] := by rw [oldA_succ, ta_app]; rfl
      have hst := sameTo_succ D C i
      unfold sameB at hst
      have hdx := HO.out.dx i hlt
      have hcx := HO.out.cx i hlt
      rw [hsn] at c1
      rw [hsa] at c2
      rw [hsb] at c5
      generalize D.sh.getD i (0, noneT) = p0 at c3 c4 hol hst hdx
      generalize C.sh.getD i (0, noneT) = p1 at c6 c7 hst hcx
      generalize D.sa.getD i noneT = s0 at c2 hol hst
      generalize C.sa.getD i noneT = s1 at c5 hst
      generalize D.r.ns.getD i noneT = nm at c1 hol
      obtain ⟨x0, t0⟩ := p0
      obtain ⟨x1, t1⟩ := p1
      simp only at hdx hcx c3 c4 c6 c7 hol
      subst hdx hcx
      simp only [Prod.mk.injEq, true_and] at hst
      have Hol := Lib.hid hol
      have Hst := Lib.hid hst
      generalize ((i + 1 : Nat) : Int) = xx at *
      have QU := Lib.hid (show ((w7.cell? ⟨b, off + i, none⟩ = some (.string nm) ∧ w7.cell? ⟨bE', oE + i, none⟩ = some (.string s0)) ∧ (w7.cell? ⟨bC', oC + i * 2, none⟩ = some (.int .i64 xx) ∧ w7.cell? ⟨bC', oC + i * 2 + 1, none⟩ = some (.string t0))) ∧ (w7.cell? ⟨X, 5, none⟩ = some (.slice (some ⟨bC', oC, none⟩) n6 aq) ∧ w7.cell? ⟨X, 6, none⟩ = some (.slice (some ⟨bE', oE, none⟩) n6 et)) from And.intro (And.intro (And.intro c1 c2) (And.intro c3 c4)) (And.intro (cell_in HX7.out 5 _ rfl) (cell_in HX7.out 6 _ rfl)))
      have QV := Lib.hid (show ((w7.cell? ⟨bF, oF + i, none⟩ = some (.string s1) ∧ w7.cell? ⟨bF, oF + i, none⟩ = some (.string s1)) ∧ (w7.cell? ⟨bG, oG + i * 2, none⟩ = some (.int .i64 xx) ∧ w7.cell? ⟨bG, oG + i * 2 + 1, none⟩ = some (.string t1))) ∧ (w7.cell? ⟨Y, 5, none⟩ = some (.slice (some ⟨bG, oG, none⟩) n6 bq) ∧ w7.cell? ⟨Y, 6, none⟩ = some (.slice (some ⟨bF, oF, none⟩) n6 ft)) from And.intro (And.intro (And.intro c5 c5) (And.intro c6 c7)) (And.intro (cell_in HY7.out 5 _ rfl) (cell_in HY7.out 6 _ rfl)))
      clear hsa hsb hsn hol hst hxi hai hyi hbi hni c1 c2 c3 c4 c5 c6 c7
      have q0 := to6_below QU.out HW.out
      have q1 := to6_below q0 ((Below.refl wr.heap.size wr).drew)
      have hz8 := HW.out.size
      obtain ⟨iA, hA0, hA1, hA2, hA3⟩ := info_parts ans_infoT
      go_wp2_with fail
      go_region_held3 (fun w' => ((w'.cell? ⟨b, off + i, none⟩ = some (.string nm) ∧ w'.cell? ⟨bE', oE + i, none⟩ = some (.string s0)) ∧ (w'.cell? ⟨bC', oC + i * 2, none⟩ = some (.int .i64 xx) ∧ w'.cell? ⟨bC', oC + i * 2 + 1, none⟩ = some (.string t0))) ∧ (w'.cell? ⟨X, 5, none⟩ = some (.slice (some ⟨bC', oC, none⟩) n6 aq) ∧ w'.cell? ⟨X, 6, none⟩ = some (.slice (some ⟨bE', oE, none⟩) n6 et)))
        (first | with_reducible assumption | with_reducible exact to6_ad q0)
        (first
          | (refine step_append_lies _ (by rfl) (.tmp 123) (.tmp 139) 40 (by rfl) w7.heap.size 45 iA (.agg #[.string ⟨#[]⟩, .string ⟨#[]⟩, .int .i64 0, .string ⟨#[]⟩]) 4 56 Tryz.underlying40 hA0 hA1 hA2 hA3 rfl (by omega) (.slice X1 i cp1) i (answersV (oldA D i)) (by rfl) ((HO1.out.alloc (.cells #[.string nm, .string s0, .int .i64 xx, .string t0] 45)).drew) ⟨wr.heap.size, 0, none⟩ 1 1 [.string nm, .string s0, .int .i64 xx, .string t0] (by rfl) (by rfl) (World.news_of_block (show ((wr.alloc (.cells #[.string nm, .string s0, .int .i64 xx, .string t0] 45)).drew).heap[wr.heap.size]? = some (.cells #[.string nm, .string s0, .int .i64 xx, .string t0] 45 (0, 0)) from heap_alloc_new wr _)) (by simp [Value.oneCell']) (by omega) (by unfold maxLen; omega) (by omega) (by simp; omega) _ rfl ?_; intro g4 cap4 w9 ho4 hg4 hat hlt4; have hb4 := by_row ((HO1.out.alloc (.cells #[.string nm, .string s0, .int .i64 xx, .string t0] 45)).drew) hg4 (by simp; omega); have hb9 := HW.out.trans ((((Below.refl wr.heap.size wr).alloc (Nat.le_refl _) (.cells #[.string nm, .string s0, .int .i64 xx, .string t0] 45)).drew).mono hz8 |>.trans hb4); have q4 := to6_below QU.out hb9; have hE9 := bools_keep ((HO1.out.alloc (.cells #[.string nm, .string s0, .int .i64 xx, .string t0] 45)).drew) hg4 HE.out (by decide)))
      have HA4 := Lib.hid ho4
      have HW4 := Lib.hid hb9
      have HE4 := Lib.hid hE9
      clear ho4 hg4 hat hlt4 hb4 hb9 q4 q0 q1 HO1 hz8 HW HE hE9
      rw [← Hol.out] at HA4
      obtain ⟨y0, y1⟩ := bools_cell HE4.out (i := i) (by rw [truesTo_len (by omega)]; exact hlt)
      generalize (truesTo n6 i)[i]'(by rw [truesTo_len (by omega)]; exact hlt) = oldb at y0
      have HE5 := Lib.hid (bools_set HE4.out i true)
      rw [truesTo_set hlt] at HE5
      have HA5 := Lib.hid (ownsRow_setCell_other HA4.out (fun e => own_far HE4.out HA4.out (by decide) e.symm) (a := ⟨w7.heap.size, i, none⟩) (.bool true))
      have HW5 := Lib.hid (HW4.out.trans (by_set (w := w9) (i := i) (Nat.le_refl w7.heap.size) (.bool true)))
      obtain ⟨w10, hw10⟩ : ∃ w10, w10 = w9.setCell ⟨w7.heap.size, i, none⟩ (.bool true) := ⟨_, rfl⟩
      have Hw10 := Lib.hid hw10
      rw [← hw10] at HE5 HA5 HW5
      clear hw10
      go_upto_region 20 with fail
      rw [← Hw10.out]
      clear Hw10 y0 y1 HA4 HW4 HE4
      cases hs : sameTo D C i with
      | true =>
        rw [hs] at Hst
        simp only [Bool.true_or] at Hst
        go_wp2_with fail
        refine wp_region_later (by kernel_rfl) (by kernel_rfl) ?_
        repeat (go_big_quiet_step (fail))
        refine wpQuiet_nil ?_
        rintro _ ⟨y, rfl⟩
        have HA6 := Lib.hid (own_keep HA5.out y.ok)
        have HE6 := hblk_below HE5 y.ok
        have HW6 := Lib.hid (HW5.out.trans (y.ok.mono HW5.out.size))
        generalize y.x = wy at *
        clear HA5 HE5 HW5
        go_wp2_with fail
        go_roundw
        case rel => exact ⟨i + 1, some ⟨g4, 0, none⟩, cap4, by omega, by go_num, rfl, by rw [Hst.out], HA6.out, HE6.out, HW6.out⟩
        case measure => simp [intOf]; omega
      | false =>
        rw [hs] at Hst
        simp only [Bool.false_or] at Hst
        have q5 := to6_below QU.out HW5.out
        have q6 := to6_below QV.out HW5.out
        have p0 := fun y : Later w10 => y.cell q5.1.1.2
        have p1 := fun y : Later w10 => y.cell q5.1.2.1
        have p2 := fun y : Later w10 => y.cell q5.1.2.2
        have p3 := fun y : Later w10 => y.cell q5.2.1
        have p4 := fun y : Later w10 => y.cell q5.2.2
        have p5 := fun y : Later w10 => y.cell q6.1.1.2
        have p6 := fun y : Later w10 => y.cell q6.1.2.1
        have p7 := fun y : Later w10 => y.cell q6.1.2.2
        have p8 := fun y : Later w10 => y.cell q6.2.1
        have p9 := fun y : Later w10 => y.cell q6.2.2
        clear q5 q6
        by_cases ht : t0 = t1
        · subst ht
          have d5 : (t0.toList == t0.toList) = true := beq_self_eq_true _
          by_cases hs2 : s0 = s1
          · subst hs2
            have d6 : (s0.toList == s0.toList) = true := beq_self_eq_true _
            simp only [decide_true, Bool.true_and] at Hst
            go_wp2_with fail
            refine wp_region_later (by kernel_rfl) (by kernel_rfl) ?_
            repeat (go_big_quiet_step (fail))
            refine wpQuiet_nil ?_
            rintro _ ⟨y, rfl⟩
            have HA6 := Lib.hid (own_keep HA5.out y.ok)
            have HE6 := hblk_below HE5 y.ok
            have HW6 := Lib.hid (HW5.out.trans (y.ok.mono HW5.out.size))
            generalize y.x = wy at *
            clear HA5 HE5 HW5
            go_wp2_with fail
            go_roundw
            case rel => exact ⟨i + 1, some ⟨g4, 0, none⟩, cap4, by omega, by go_num, rfl, by rw [Hst.out], HA6.out, HE6.out, HW6.out⟩
            case measure => simp [intOf]; omega
          · have d6 := text_ne' hs2
            simp only [hs2, decide_true, decide_false, Bool.and_false] at Hst
            clear hs2
            go_wp2_with fail
            refine wp_region_later (by kernel_rfl) (by kernel_rfl) ?_
            repeat (go_big_quiet_step (fail))
            refine wpQuiet_nil ?_
            rintro _ ⟨y, rfl⟩
            have HA6 := Lib.hid (own_keep HA5.out y.ok)
            have HE6 := hblk_below HE5 y.ok
            have HW6 := Lib.hid (HW5.out.trans (y.ok.mono HW5.out.size))
            generalize y.x = wy at *
            clear HA5 HE5 HW5
            go_wp2_with fail
            go_roundw
            case rel => exact ⟨i + 1, some ⟨g4, 0, none⟩, cap4, by omega, by go_num, rfl, by rw [Hst.out], HA6.out, HE6.out, HW6.out⟩
            case measure => simp [intOf]; omega
        · have d5 := text_ne' ht
          simp only [ht, decide_false, Bool.false_and] at Hst
          clear ht
          go_wp2_with fail
          refine wp_region_later (by kernel_rfl) (by kernel_rfl) ?_
          repeat (go_big_quiet_step (fail))
          refine wpQuiet_nil ?_
          rintro _ ⟨y, rfl⟩
          have HA6 := Lib.hid (own_keep HA5.out y.ok)
          have HE6 := hblk_below HE5 y.ok
          have HW6 := Lib.hid (HW5.out.trans (y.ok.mono HW5.out.size))
          generalize y.x = wy at *
          clear HA5 HE5 HW5
          go_wp2_with fail
          go_roundw
          case rel => exact ⟨i + 1, some ⟨g4, 0, none⟩, cap4, by omega, by go_num, rfl, by rw [Hst.out], HA6.out, HE6.out, HW6.out⟩
          case measure => simp [intOf]; omega
    · obtain rfl : i = n6 := by omega
      have e1 : ¬ (i : Int) < (i : Int) := by omega
      rw [truesTo_all] at HE
      have HBr := Lib.hid (HB7.out.trans (HW.out.mono HB7.out.size))
      have HAs := Lib.hid (asked_any A6 i cap6 l6 a5 c5 ns cred (some ⟨w7.heap.size, 0, none⟩) i i (List.replicate i true) C wr (HR6.out.below HW.out) HN6.out (HNm.out.below HBr.out) HN.out (by have := rd_of_blk HE.out; simpa using this) (by simp) (by omega) (by omega) HO.out.cns (fun i hi => by
        rw [HP6.out]
        exact HO.out.ask i hi) (HR.out.below HBr.out))
      rw [Nat.min_self, allA_all, picks_all i i (Nat.le_refl _), List.length_range] at HAs
      have HXr := hblk_below HX7 HW.out
      have HYr := hblk_below HY7 HW.out
      have HUr := Lib.hid (HU7.out.below HW.out)
      have HRr := Lib.hid (HRc7.out.below HW.out)
      have HThr := Lib.hid (HTh7.out.below HW.out)
      have HTar := Lib.hid (HTa7.out.below HW.out)
      go_wp2_with fail
      refine Calls.mono HAs.out ?_
      rintro e w9 ⟨X2, cp2, rfl, ho2, hb9⟩
      have HN2 := Lib.hid (own_rd ho2)
      have HB9 := Lib.hid (Below.chain HBr.out hb9)
      have HY9 := hblk_below HYr hb9
      have HU9 := Lib.hid (HUr.out.below hb9)
      have HR9 := Lib.hid (HRr.out.below hb9)
      have HTh9 := Lib.hid (HThr.out.below hb9)
      have HTa9 := Lib.hid (HTar.out.below hb9)
      have HO9 := Lib.hid (own_rd (own_keep HO1.out hb9))
      clear ho2 hb9 HAs HXr HYr HUr HRr HThr HTar HBr HO1 HE HW HX7 HB7 HSh7 HSa7 HY7 HU7 HRc7 HTh7 HTa7 HR6 HN6 HP6
      have hl9 := HO.out.law wp
      have Hl9 := Lib.hid hl9
      clear hl9
      generalize sameTo D C i = st at Hl9 ⊢
      go_wp2_with fail
      go_loopw [34] (fun x wr => ∃ q : Nat, q ≤ i ∧ x = .int .i64 (q : Nat) ∧ Below w9.heap.size w9 wr) (fun x _ => i - (intOf x).toNat)
      case atStart => exact ⟨0, by omega, rfl, Below.refl _ _⟩
      case round =>
        obtain ⟨q, hq, rfl, hZ⟩ := hrel
        have HZ := Lib.hid hZ
        clear hZ
        by_cases hlt2 : q < i
        · have hin : (q : Int) < (i : Int) := by omega
          have hyi : q < C.sh.length := by rw [HO.out.csh]; exact hlt2
          have hbi : q < C.sa.length := by rw [HO.out.csa]; exact hlt2
          have hoi : q < (oldA C i).length := by rw [oldA_len]; exact hlt2
          obtain ⟨bF, oF, hF, c5⟩ := texts_at (HTa9.out.below HZ.out) hbi
          obtain ⟨bG, oG, hG⟩ : ∃ b o, bC = some ⟨b, o, none⟩ := by
            obtain ⟨b, o, h, _⟩ := HTh9.out.shr hyi
            exact ⟨b, o, h⟩
          obtain ⟨b, off, hA, k0, k1, k2, k3⟩ := (HN2.out.below HZ.out).ans hoi
          subst hF hG hA
          obtain ⟨c6, c7⟩ := shr_at' (HTh9.out.below HZ.out) hyi
          have hol : (oldA C i)[q] = ansD C q := by simp [oldA]
          rw [hol] at k0 k1 k2 k3
          have hsb : C.sa[q] = C.sa.getD q noneT := by rw [List.getD_eq_getElem?_getD, List.getElem?_eq_getElem hbi]; rfl
          rw [hsb] at c5
          unfold ansD at k1 k2 k3
          simp only at k1 k2 k3
          generalize C.sa.getD q noneT = s1 at c5 k1
          generalize C.sh.getD q (0, noneT) = p1 at c6 c7 k2 k3
          obtain ⟨x1, t1⟩ := p1
          simp only at c6 c7 k2 k3
          have p0 := fun y : Later wr => y.cell k1
          have p1 := fun y : Later wr => y.cell k2
          have p2 := fun y : Later wr => y.cell k3
          have p2' := fun y : Later wr => y.cell (show wr.cell? ⟨b, off + q * 4 + 2 + 1, none⟩ = some (.string t1) from k3)
          have p5 := fun y : Later wr => y.cell c5
          have p6 := fun y : Later wr => y.cell c6
          have p7 := fun y : Later wr => y.cell c7
          have p8 := fun y : Later wr => y.cell (cell_in (cells_below HY9.out HZ.out) 5 _ rfl)
          have p9 := fun y : Later wr => y.cell (cell_in (cells_below HY9.out HZ.out) 6 _ rfl)
          have d5 : (t1.toList == t1.toList) = true := beq_self_eq_true _
          have d6 : (s1.toList == s1.toList) = true := beq_self_eq_true _
          clear k0 k1 k2 k3 c5 c6 c7 hol hsb hyi hbi hoi
          go_wp2_with fail
          refine wp_region_later (by kernel_rfl) (by kernel_rfl) ?_
          repeat (go_big_quiet_step (fail))
          refine wpQuiet_nil ?_
          rintro _ ⟨y, rfl⟩
          have HZ2 := Lib.hid (HZ.out.trans (y.ok.mono HZ.out.size))
          generalize y.x = wy at *
          go_wp2_with fail
          go_roundw
          case rel => exact ⟨q + 1, by omega, by go_num, HZ2.out⟩
          case measure => simp [intOf]; omega
        · obtain rfl : q = i := by omega
          have e2 : ¬ (q : Int) < (q : Int) := by omega
          have HBz := Lib.hid (HB9.out.trans (HZ.out.mono HB9.out.size))
          have HYz := hblk_below HY9 HZ.out
          have HUn := Lib.hid (unlock_any (.agg #[.int .i64 C.r.e, .int .i64 C.r.k, .slice bA bn bc, .slice bB bm bd]) C.r X1 q cp1 (oldA D q) wp wr (HR9.out.below HZ.out) (HO9.out.below HZ.out) (by rw [oldA_len]) (by omega) (HR.out.below HBz.out) (HT.out.below HBz.out))
          have HUz := Lib.hid (HU9.out.below HZ.out)
          have HOz := Lib.hid (HO9.out.below HZ.out)
          generalize unlE C.r (oldA D q) wp = ue at HUn Hl9
          generalize unlS C.r (oldA D q) wp = us at HUn
          obtain ⟨⟨x0, x1, x2, x3, x4, x5, x6⟩, _⟩ := seven_cells HYz.out
          go_wp2_with fail
          refine HUn.out.mono ?_
          rintro e wa ⟨rfl, hba⟩
          have HBa := Lib.hid (Below.chain HBz.out hba)
          have HYa := hblk_below HYz hba
          have HUa := Lib.hid (HUz.out.below hba)
          have HOa := Lib.hid (HOz.out.below hba)
          clear hba x0 x1 x2 x3 x4 x5 x6 HBz HYz HUz HOz HUn HZ
          go_wp2_with fail
          refine Calls.mono (HDt.out _ HBa.out) ?_
          rintro e wb ⟨rfl, hbb⟩
          have HBb := Lib.hid (Below.chain HBa.out hbb)
          have HYb := hblk_below HYa hbb
          have HUb := Lib.hid (HUa.out.below hbb)
          have HOb := Lib.hid (HOa.out.below hbb)
          clear hbb HBa HYa HUa HOa
          by_cases h220 : ue = 220
          · subst h220
            go_wp2_with fail
            go_ret
            exact ⟨rfl, HBb.out⟩
          have d7 : ((ue : Int) == 220) = false := by simp; omega
          cases st with
          | true =>
            go_wp2_with fail
            go_ret
            exact ⟨rfl, HBb.out⟩
          | false =>
          have Hsh := Lib.hid (show ∃ i, i < q ∧ showB D C i from (Hl9.out.resolve_left h220).resolve_left (by decide))
          have HSu := Lib.hid (sums_any (.agg #[.int .i64 C.r.e, .int .i64 C.r.k, .slice bA bn bc, .slice bB bm bd, .string C.sec, .slice bC q bq, .slice bE q ft]) C D X1 q cp1 wb HUb.out HOb.out (by omega) HO.out.csh HO.out.csa (HR.out.below HBb.out))
          obtain ⟨⟨x0, x1, x2, x3, x4, x5, x6⟩, _⟩ := seven_cells HYb.out
          clear h220 Hl9
          go_wp2_with fail
          refine HSu.out.mono ?_
          rintro e wc ⟨r, rfl, hr, hbc⟩
          obtain rfl := hr Hsh.out
          have HBc := Lib.hid (Below.chain HBb.out hbc)
          clear hbc x0 x1 x2 x3 x4 x5 x6 hr
          go_wp2_with fail
          go_ret
          exact ⟨rfl, HBc.out⟩
end

end Go.Proofs.YtkbjmmigjjdfpaaGreatDoor
