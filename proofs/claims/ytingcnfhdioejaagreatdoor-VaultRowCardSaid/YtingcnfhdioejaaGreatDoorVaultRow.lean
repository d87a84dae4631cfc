/-
  The walk of the law VaultRow.
-/
import Derived.Test.YtingcnfhdioejaaGreatDoorVaV
import Derived.Test.YtingcnfhdioejaaGreatDoorRw
import Derived.Deep.Cut
import Derived.Deep.CutRange
namespace Go.Proofs.YtingcnfhdioejaaGreatDoor
open Go.RowKit
set_option linter.unusedVariables false
set_option linter.unusedSimpArgs false
set_option maxRecDepth 100000
set_option maxHeartbeats 16000000

theorem four_cells {w : World} {g : Nat} {t : TypeId} {a b c d : Value} (h : w.heap[g]? = some (.cells #[a, b, c, d] t (0, 0))) : w.cell? ⟨g, 0, none⟩ = some a ∧ w.cell? ⟨g, 1, none⟩ = some b ∧ w.cell? ⟨g, 2, none⟩ = some c ∧ w.cell? ⟨g, 3, none⟩ = some d := ⟨rf_at h 0 _ rfl, rf_at h 1 _ rfl, rf_at h 2 _ rfl, rf_at h 3 _ rfl⟩

theorem vr_bad (n : Int) (key : ByteArray) (hzk : key.size ≤ maxLen) (A : Option Addr) (m c : Nat) (ls : List StepM) (hm : m = ls.length) (hml : ls.length ≤ maxLen) (w : World) (hT : Turns w) (hR : Rounds w) (hr : Rd w A (stepsV ls)) (hst : ∀ o ∈ ls, StepOK w o) (hbad : n < 1 ∨ 8 < n ∨ key.size ≠ 32 ∨ 12 < m) :
    Calls Tryz.prog 7 #[.int .i64 n, .string key, .slice A m c] w fun e w' => e = .returned (.bool true) ∧ Below w.heap.size w w' := by
  have HVl := Lib.hid (fun W h1 h2 => vaults_any W h1 h2)
  have HR := Lib.hid hR
  have HT := Lib.hid hT
  have hmm : m ≤ 9223372036854775807 := by unfold maxLen at hml; omega
  clear hR hT hr hm hml hst
  by_cases c0 : n < 1
  case pos =>
    have d0 : decide (n < 1) = true := decide_eq_true (by omega)
    clear hbad
    go_enter Tryz.func7, Tryz.ntmps7
    go_wp2_with fail
    refine (HVl.out _ HR.out HT.out).mono ?_
    rintro e w1 ⟨rfl, hb1⟩
    go_wp2_with fail
    go_ret
    exact ⟨rfl, hb1⟩
  have d0 : decide (n < 1) = false := decide_eq_false (by omega)
  by_cases c1 : 8 < n
  case pos =>
    have d1 : decide (n > 8) = true := decide_eq_true (by omega)
    clear hbad
    go_enter Tryz.func7, Tryz.ntmps7
    go_wp2_with fail
    refine (HVl.out _ HR.out HT.out).mono ?_
    rintro e w1 ⟨rfl, hb1⟩
    go_wp2_with fail
    go_ret
    exact ⟨rfl, hb1⟩
  have d1 : decide (n > 8) = false := decide_eq_false (by omega)
  by_cases c2 : key.size ≠ 32
  case pos =>
    have d2 : ((key.size : Int) != 32) = true := by simp; omega
    clear hbad
    go_enter Tryz.func7, Tryz.ntmps7
    go_wp2_with fail
    refine (HVl.out _ HR.out HT.out).mono ?_
    rintro e w1 ⟨rfl, hb1⟩
    go_wp2_with fail
    go_ret
    exact ⟨rfl, hb1⟩
  have d2 : ((key.size : Int) != 32) = false := by simp; omega
  have c3 : 12 < m := by simp only [c0, c1, c2, false_or] at hbad; omega
  have d3 : decide ((m : Int) > 12) = true := decide_eq_true (by omega)
  clear hbad
  go_enter Tryz.func7, Tryz.ntmps7
  go_wp2_with fail
  refine (HVl.out _ HR.out HT.out).mono ?_
  rintro e w1 ⟨rfl, hb1⟩
  go_wp2_with fail
  go_ret
  exact ⟨rfl, hb1⟩

def VrI (key : ByteArray) (n gp m : Nat) (w : World) (x : Value) (wr : World) : Prop :=
  ∃ (i : Nat) (P : Plat) (A : Option Addr) (a c : Nat) (B : Option Addr) (b d : Nat), i ≤ m ∧ x = .int .i64 (i : Nat) ∧ wr.heap[gp]? = some (.cells #[.slice A a c, .slice B b d] 25 (0, 0)) ∧ PB wr A a B b P ∧ RowI key n i P ∧ Below w.heap.size w wr
theorem vr_stay {key : ByteArray} {n i : Nat} {P : Plat} (h : RowI key n i P) : P.ss.length ≤ maxLen := by
  obtain ⟨gen, area, bl, want, hv, _⟩ := h.ex
  have h1 := hv.len
  have h2 := (count_le hv.cnt).2
  unfold maxLen
  omega
theorem vr_u8 (i : Nat) (h : i < 12) : IntKind.u8.wrap (i : Int) = (i : Int) := by
  have : i = 0 ∨ i = 1 ∨ i = 2 ∨ i = 3 ∨ i = 4 ∨ i = 5 ∨ i = 6 ∨ i = 7 ∨ i = 8 ∨ i = 9 ∨ i = 10 ∨ i = 11 := by omega
  rcases this with rfl | rfl | rfl | rfl | rfl | rfl | rfl | rfl | rfl | rfl | rfl | rfl <;> rfl
def nonI (i : Nat) : ByteArray := bs (List.replicate 12 (UInt8.ofNat i))
theorem nonI_size (i : Nat) : (nonI i).size = 12 := by unfold nonI; rw [bs_size, List.length_replicate]
theorem nonI_many (i : Nat) (h : i < 12) (W : World) : Calls Tryz.prog 24 #[.int .u8 (i : Int), .int .i64 12] W fun e w' => e = .returned (.string (nonI i)) ∧ Below W.heap.size W w' := by
  have := many_any (UInt8.ofNat i) 12 W (by omega)
  rw [show (((UInt8.ofNat i).toNat : Nat) : Int) = (i : Int) by rw [UInt8.toNat_ofNat']; omega] at this
  exact this

theorem vaultRow_law (n : Int) (key : ByteArray) (hzk : key.size ≤ maxLen) (A : Option Addr) (m c : Nat) (ls : List StepM) (hm : m = ls.length) (hml : ls.length ≤ maxLen) (w : World) (hT : Turns w) (hR : Rounds w) (hr : Rd w A (stepsV ls)) (hst : ∀ o ∈ ls, StepOK w o) :
    Calls Tryz.prog 7 #[.int .i64 n, .string key, .slice A m c] w fun e w' => e = .returned (.bool true) ∧ Below w.heap.size w w' := by
  by_cases hbad : n < 1 ∨ 8 < n ∨ key.size ≠ 32 ∨ 12 < m
  · exact vr_bad n key hzk A m c ls hm hml w hT hR hr hst hbad
  simp only [not_or, Int.not_lt, Decidable.not_not, Nat.not_lt] at hbad
  obtain ⟨b0, b1, b2, b4⟩ := hbad
  obtain ⟨k, rfl⟩ := Int.eq_ofNat_of_zero_le (show 0 ≤ n by omega)
  have d0 : decide ((k : Int) < 1) = false := decide_eq_false (by omega)
  have d1 : decide ((k : Int) > 8) = false := decide_eq_false (by omega)
  have d2 : ((key.size : Int) != 32) = false := by simp; omega
  have d4 : decide ((m : Int) > 12) = false := decide_eq_false (by omega)
  have k1 : 1 ≤ k := by omega
  have k8 : k ≤ 8 := by omega
  have HVl := Lib.hid (fun W h1 h2 => vaults_any W h1 h2)
  have HN := Lib.hid hm
  have HRd := Lib.hid hr
  have HR := Lib.hid hR
  have HT := Lib.hid hT
  have Hzk := Lib.hid hzk
  have Hst := Lib.hid hst
  have Hk32 := Lib.hid b2
  clear hzk hst hm hml hR hT hr b0 b1 b2
  cases hc : countB k with
  | false =>
    have HF := Lib.hid (fun W h => vformat_no k W hc h)
    have q1 : ((k : Int) != 1) = true := by
      have : k ≠ 1 := by rintro rfl; exact absurd hc (by decide)
      simp; omega
    have q2 : ((k : Int) != 2) = true := by
      have : k ≠ 2 := by rintro rfl; exact absurd hc (by decide)
      simp; omega
    have q4 : ((k : Int) != 4) = true := by
      have : k ≠ 4 := by rintro rfl; exact absurd hc (by decide)
      simp; omega
    have q8 : ((k : Int) != 8) = true := by
      have : k ≠ 8 := by rintro rfl; exact absurd hc (by decide)
      simp; omega
    clear hc
    go_enter Tryz.func7, Tryz.ntmps7
    go_wp2_with fail
    refine (HF.out _ HR.out).mono ?_
    rintro e w1 ⟨v1, rfl, ⟨A1, n1, c1, B1, m1, e1, rfl, -⟩, hb1⟩
    have HB := Lib.hid (hb1.alloc hb1.size (.cells #[.slice A1 n1 c1, .slice B1 m1 e1] 25))
    clear hb1
    go_wp2_with fail
    refine (HVl.out _ (HR.out.below HB.out) (HT.out.below HB.out)).mono ?_
    rintro e w2 ⟨rfl, hb2⟩
    go_wp2_with fail
    go_ret
    exact ⟨rfl, HB.out.trans (hb2.mono HB.out.size)⟩
  | true =>
  obtain ⟨rs1, rs2⟩ := row_start key hc
  have HF := Lib.hid (fun W h => vformat_any k W hc h)
  obtain ⟨P0, hP0⟩ : ∃ P, formatP k = (P, 0) := ⟨(formatP k).1, by rw [← rs1]⟩
  rw [hP0] at HF
  rw [hP0] at rs2
  have HI0 := Lib.hid rs2
  clear hc rs1 rs2 hP0
  have e00 : ((0 : Int) != 0) = false := rfl
  go_enter Tryz.func7, Tryz.ntmps7
  go_wp2_with fail
  refine (HF.out _ HR.out).mono ?_
  rintro e w1 ⟨v1, rfl, ⟨A1, n1, c1, B1, m1, e1, rfl, hp1⟩, hb1⟩
  simp only at hp1 ⊢
  have al := (Below.refl w1.heap.size w1).alloc (Nat.le_refl _) (.cells #[.slice A1 n1 c1, .slice B1 m1 e1] 25)
  have HX := Lib.hid (heap_alloc_new w1 (.cells #[.slice A1 n1 c1, .slice B1 m1 e1] 25))
  have HP := Lib.hid (PB.below (show PB w1 A1 n1 B1 m1 P0 from hp1) al)
  have HB := Lib.hid (hb1.trans (al.mono hb1.size))
  have hgp : w.heap.size ≤ w1.heap.size := hb1.size
  obtain ⟨u1, hu1⟩ : ∃ u, u = w1.alloc (.cells #[.slice A1 n1 c1, .slice B1 m1 e1] 25) := ⟨_, rfl⟩
  have Hu1 := Lib.hid hu1
  rw [← hu1] at HX HP HB
  clear al hb1 hp1 hu1
  go_upto_region 4 with fail
  rw [← Hu1.out]
  clear Hu1
  generalize hgq : w1.heap.size = gp at *
  clear hgq
  go_wp2_with fail
  go_loopw [9] (fun x wr => VrI key k gp m w x wr) (fun x _ => m - (intOf x).toNat)
  case atStart => exact ⟨0, P0, A1, n1, c1, B1, m1, e1, by omega, rfl, HX.out, HP.out, HI0.out, HB.out⟩
  case round =>
    clear HX HP HI0 HB HF
    obtain ⟨i, P, A2, n2, c2, B2, m2, f2, hi, rfl, hX, hP, hI, hB⟩ := hrel
    have HI := Lib.hid hI
    by_cases hlt : i < m
    case neg =>
      obtain rfl : i = m := by omega
      have HB := Lib.hid hB
      clear hX hP hI hB hlt
      go_wp2_with fail
      refine (HVl.out _ (HR.out.below HB.out) (HT.out.below HB.out)).mono ?_
      rintro e w2 ⟨rfl, hb2⟩
      go_wp2_with fail
      go_ret
      exact ⟨rfl, HB.out.trans (hb2.mono HB.out.size)⟩
    have e1 : decide ((i : Int) < (m : Int)) = true := by simp; omega
    have him : (i : Int) < (m : Int) := by omega
    have hi12 : i < 12 := by omega
    have hil : i < ls.length := by rw [← HN.out]; exact hlt
    obtain ⟨bA, oA, hbA, s0, s1, s2, s3⟩ := step_at (HRd.out.below hB) hil
    subst hbA
    have hso := (Hst.out _ (List.getElem_mem hil)).below hB
    generalize ls[i] = q at s0 s1 s2 s3 hso
    obtain ⟨qi, qs, qd, qF, qn, qc, qfs⟩ := q
    simp only at s0 s1 s2 s3
    have al := (Below.refl wr.heap.size wr).alloc (Nat.le_refl _) (.cells #[.int .i64 qi, .string qs, .int .i64 qd, .slice qF qn qc] 48)
    have HQ := Lib.hid (heap_alloc_new wr (.cells #[.int .i64 qi, .string qs, .int .i64 qd, .slice qF qn qc] 48))
    have HX := Lib.hid (cells_below hX al)
    have HP := Lib.hid (hP.below al)
    have HB := Lib.hid (hB.trans (al.mono hB.size))
    have Hso := Lib.hid (hso.below al)
    obtain ⟨u0, hu0⟩ : ∃ u, u = wr.alloc (.cells #[.int .i64 qi, .string qs, .int .i64 qd, .slice qF qn qc] 48) := ⟨_, rfl⟩
    have Hu0 := Lib.hid hu0
    rw [← hu0] at HQ HX HP HB Hso
    have hzs : qs.size ≤ maxLen := Hso.out.sz
    have hqn : qn ≤ 9223372036854775807 := Hso.out.nm
    have hsz0 : wr.heap.size < u0.heap.size := cell_lt_of HQ.out
    have hgpw : gp < wr.heap.size := cell_lt_of hX
    clear hX hP hI hB al hu0 hso
    go_upto_region 10 with fail
    rw [← Hu0.out]
    clear Hu0 s0 s1 s2 s3
    generalize hgq : wr.heap.size = gq at *
    clear hgq
    obtain ⟨o0, o1, o2, o3⟩ := four_cells HQ.out
    by_cases g0 : 64 < qs.size
    case pos =>
      have j0 : decide ((qs.size : Int) > 64) = true := decide_eq_true (by omega)
      go_wp2_with fail
      refine (HVl.out _ (HR.out.below HB.out) (HT.out.below HB.out)).mono ?_
      rintro e w2 ⟨rfl, hb2⟩
      go_wp2_with fail
      go_ret
      exact ⟨rfl, HB.out.trans (hb2.mono HB.out.size)⟩
    have j0 : decide ((qs.size : Int) > 64) = false := decide_eq_false (by omega)
    by_cases g1 : qi < 0
    case pos =>
      have j1 : decide (qi < 0) = true := decide_eq_true (by omega)
      go_wp2_with fail
      refine (HVl.out _ (HR.out.below HB.out) (HT.out.below HB.out)).mono ?_
      rintro e w2 ⟨rfl, hb2⟩
      go_wp2_with fail
      go_ret
      exact ⟨rfl, HB.out.trans (hb2.mono HB.out.size)⟩
    have j1 : decide (qi < 0) = false := decide_eq_false (by omega)
    by_cases g2 : (k : Int) ≤ qi
    case pos =>
      have j2 : decide (qi ≥ (k : Int)) = true := decide_eq_true (by omega)
      go_wp2_with fail
      refine (HVl.out _ (HR.out.below HB.out) (HT.out.below HB.out)).mono ?_
      rintro e w2 ⟨rfl, hb2⟩
      go_wp2_with fail
      go_ret
      exact ⟨rfl, HB.out.trans (hb2.mono HB.out.size)⟩
    have j2 : decide (qi ≥ (k : Int)) = false := decide_eq_false (by omega)
    by_cases g3 : 200 < qn
    case pos =>
      have j3 : decide ((qn : Int) > 200) = true := decide_eq_true (by omega)
      go_wp2_with fail
      refine (HVl.out _ (HR.out.below HB.out) (HT.out.below HB.out)).mono ?_
      rintro e w2 ⟨rfl, hb2⟩
      go_wp2_with fail
      go_ret
      exact ⟨rfl, HB.out.trans (hb2.mono HB.out.size)⟩
    have j3 : decide ((qn : Int) > 200) = false := decide_eq_false (by omega)
    obtain ⟨kk, rfl⟩ := Int.eq_ofNat_of_zero_le (show 0 ≤ qi by omega)
    have hkk : kk < k := by omega
    have h64 : qs.size ≤ 64 := by omega
    obtain ⟨gen, area, V, V', Q, done, R, hS⟩ := row_step HI.out Hk32.out (nonI_size i) (by omega) hkk h64 qd qfs
    have Hqi := Lib.hid hkk
    have hlP := vr_stay HI.out
    have hlR : R.ss.length ≤ maxLen := by rw [hS.rl]; unfold maxLen; omega
    have hV8 : V.bl.length ≤ 100000 := by rw [hS.vl]; omega
    have hV8' : V'.bl.length ≤ 100000 := by rw [hS.vl']; omega
    have hgen : gen ≤ 1000 := Nat.le_trans hS.gn (by omega)
    have HLd := Lib.hid (show ∀ v W, PlV W v P → Rounds W → Calls Tryz.prog 12 #[v] W (LoadR W (⟨k, gen, area, V⟩, 0)) from fun v W h1 h2 => by
      have := vload_any v P W h1 hlP h2
      rw [hS.op] at this
      exact this)
    have HWt := Lib.hid (show ∀ v W, VV W v V → Rounds W → Turns W → Calls Tryz.prog 23 #[v, .string key, .string (nonI i), .int .i64 (kk : Nat), .string qs] W (VolE W V' 0) from fun v W h1 h2 h3 => by
      have := vwrite_any v V key (nonI i) (kk : Nat) qs W h1 Hzk.out (by rw [nonI_size]; decide) hzs h2 h3
      rw [hS.wv, hS.we] at this
      exact this)
    have HSt := Lib.hid (show ∀ v vv W, PlV W v P → VV W vv V' → Rounds W → Calls Tryz.prog 14 #[v, vv, .int .i64 qd] W (DoR W (Q, done, 0)) from fun v vv W h1 h2 h3 => by
      have := vstore_any v vv P V' qd W h1 h2 hlP (Nat.le_trans hV8' (by unfold maxLen; omega)) h3
      rw [hS.st] at this
      exact this)
    have HCr := Lib.hid (show ∀ v W, PlV W v Q → Rd W qF (ints qfs) → Calls Tryz.prog 21 #[v, .slice qF qn qc] W (PlR W (R, 0)) from fun v W h1 h2 => by
      have := crash_any v Q qF qn qc qfs W h1 h2 Hso.out.nf Hso.out.nm Hso.out.fi
      rw [hS.cr] at this
      exact this)
    have HLr := Lib.hid (show ∀ v W, PlV W v R → Rounds W → Calls Tryz.prog 12 #[v] W (LoadR W (openP R)) from fun v W h1 h2 => vload_any v R W h1 hlR h2)
    have HMn := Lib.hid (nonI_many i hi12)
    have hw8 := vr_u8 i hi12
    have Hor := Lib.hid hS.or_
    have HI1 := Lib.hid hS.ri
    have HqF := Lib.hid Hso.out.rd
    clear hS HI hlP hlR
    have x0 := (two_cells HX.out).1
    have x1 := (two_cells HX.out).2.1
    go_wp2_with fail
    refine (HLd.out _ _ ⟨_, _, _, _, _, _, rfl, HP.out⟩ (HR.out.below HB.out)).mono ?_
    rintro e w2 ⟨A3, c3, rfl, ⟨hr3, -⟩, hb⟩
    simp only at hr3 ⊢
    generalize hnV : V.bl.length = nV at *
    have al := (Below.refl w2.heap.size w2).alloc (Nat.le_refl _) (.cells #[.slice A3 nV c3, .string V.rt] 27)
    have hb2 := Below.chain hb al
    replace HX := hblk_below HX hb2
    replace HQ := hblk_below HQ hb2
    replace HP := Lib.hid (HP.out.below hb2)
    replace HqF := Lib.hid (HqF.out.below hb2)
    replace HB := Lib.hid (HB.out.trans (hb2.mono HB.out.size))
    have HVb := Lib.hid (heap_alloc_new w2 (.cells #[.slice A3 nV c3, .string V.rt] 27))
    have HVv := Lib.hid (show VV _ (.agg #[.slice A3 nV c3, .string V.rt]) V from ⟨A3, _, c3, rfl, hr3.below al, hnV.symm⟩)
    have hsz2 : u0.heap.size ≤ w2.heap.size := hb.size
    obtain ⟨u2, hu2⟩ : ∃ u, u = w2.alloc (.cells #[.slice A3 nV c3, .string V.rt] 27) := ⟨_, rfl⟩
    have Hu2 := Lib.hid hu2
    rw [← hu2] at HX HQ HP HqF HB HVb HVv
    clear hb al hb2 hu2 x0 x1 o0 o1 o2 o3 hr3
    go_upto_region 13 with fail
    rw [← Hu2.out]
    clear Hu2
    have hsz3 : w2.heap.size < u2.heap.size := cell_lt_of HVb.out
    generalize hgv : w2.heap.size = gv at *
    clear hgv
    obtain ⟨o0, o1, o2, o3⟩ := four_cells HQ.out
    obtain ⟨v0, v1, _, _⟩ := two_cells HVb.out
    have S0 := kp4_pair v0 v1 o0 o1
    have HW := Lib.hid (fun W (h : Below u2.heap.size u2 W) => HWt.out _ W (HVv.out.below h) ((HR.out.below HB.out).below h) ((HT.out.below HB.out).below h))
    have nn1 : u2.heap.size ≠ gv := by omega
    have nn2 : u2.heap.size ≠ gq := by omega
    have ne4a : ∀ k, u2.heap.size ≤ k → k ≠ gv := fun k hk => by omega
    have ne4b : ∀ k, u2.heap.size ≤ k → k ≠ gq := fun k hk => by omega
    go_cut [14, 15] from 107 to 119 (fun v u wc => CutV u2 V' 0 v u wc)
    case first =>
      go_region_held3 (fun w' => (w'.cell? ⟨gv, 0, none⟩ = some (.slice A3 nV c3) ∧ w'.cell? ⟨gv, 1, none⟩ = some (.string V.rt)) ∧ (w'.cell? ⟨gq, 0, none⟩ = some (.int .i64 (kk : Nat)) ∧ w'.cell? ⟨gq, 1, none⟩ = some (.string qs)))
        (first | with_reducible assumption | with_reducible exact S0 | with_reducible exact kp4_drew S0 | with_reducible exact kp4_drew (kp4_alloc S0) | with_reducible exact kp4_alloc Q4 | with_reducible exact kp4_alloc Q5 | with_reducible exact kp4_two Q5 nn1 nn2 | with_reducible exact kp4_two Q5 (ne4a _ K4.out.size) (ne4b _ K4.out.size))
        (first
          | ((go_at_call 24; with_reducible refine (HMn.out _).mono ?_); rintro _ w4 ⟨rfl, hb4⟩; (first | (have K4 := Lib.hid (by with_reducible exact vch_a hb4); have Q4 := kp4_below (kp4_drew S0) hb4) | (have K4 := Lib.hid (by with_reducible exact vch_b hb4); have Q4 := kp4_below (kp4_drew (kp4_alloc S0)) hb4; have Z4 := Lib.hid (by with_reducible exact vch_c hb4))); clear hb4)
          | (go_at_call 23; (with_reducible refine (HW.out _ K4.out).mono ?_); rintro _ w5 ⟨v5, rfl, ⟨A5, n5, c5, rfl, ⟨hr5, hA5⟩, hn5⟩, hb5⟩; have K5 := Lib.hid (vz_a K4.out K4.out.size hb5); have Q5 := kp4_below Q4 hb5; have HA5 := Lib.hid hA5; have Z5 := hblk_below Z4 hb5; obtain ⟨z0, z1, z2, z3⟩ := two_cells Z5.out; have lt5 := cell_lt_of Z4.out; have HR5 := Lib.hid hr5; have HN5 := Lib.hid hn5; clear hb5 hr5 hA5 hn5)
          | (go_at_call 23; (with_reducible refine (HW.out _ K4.out).mono ?_); rintro _ w5 ⟨v5, rfl, ⟨A5, n5, c5, rfl, ⟨hr5, hA5⟩, hn5⟩, hb5⟩; have K5 := Lib.hid (vz_a K4.out K4.out.size hb5); have Q5 := kp4_below Q4 hb5; have HA5 := Lib.hid hA5; have HR5 := Lib.hid hr5; have HN5 := Lib.hid hn5; clear hb5 hr5 hA5 hn5)
          | (go_at_call 23; (with_reducible refine (HW.out _ (K4.out.alloc K4.out.size _)).mono ?_); rintro _ w5 ⟨v5, rfl, ⟨A5, n5, c5, rfl, ⟨hr5, hA5⟩, hn5⟩, hb5⟩; have K5 := Lib.hid (vz_b K4.out K4.out.size hb5); have Q5 := kp4_below (kp4_alloc Q4) hb5; have HA5 := Lib.hid (show ∀ b o, A5 = some ⟨b, o, none⟩ → w4.heap.size + 1 ≤ b from fun b o e => by have := hA5 b o e; simp at this; exact this); have Z5 := Lib.hid (vz_c hb5); obtain ⟨z0, z1, z2, z3⟩ := two_cells Z5.out; have HR5 := Lib.hid hr5; have HN5 := Lib.hid hn5; clear hb5 hr5 hA5 hn5))
      all_goals
        go_wp2_with fail
        go_meet
        case rel =>
          have k4 := K4.out.size
          first
            | exact cutV_new K5.out HR5.out (fun b o e => by have := HA5.out b o e; omega) HN5.out
            | exact cutV_set Z5.out K5.out (Nat.le_refl _) HR5.out (fun b o e => by have := HA5.out b o e; omega) HN5.out
            | exact cutV_set Z5.out K5.out k4 HR5.out (fun b o e => by have := HA5.out b o e; omega) HN5.out
    case rest =>
    obtain ⟨gw, rfl, rfl, hgw, ⟨A5, n5, c5, hbx, hr5, hA5, hn5⟩, hb⟩ := hcut
    rename World => u3
    clear S0 HW nn1 nn2 o0 o1 o2 o3 v0 v1
    replace HX := hblk_below HX hb
    replace HQ := hblk_below HQ hb
    replace HP := Lib.hid (HP.out.below hb)
    replace HqF := Lib.hid (HqF.out.below hb)
    replace HB := Lib.hid (HB.out.trans (hb.mono HB.out.size))
    replace HVb := hblk_below HVb hb
    replace HVv := Lib.hid (HVv.out.below hb)
    have HWb := Lib.hid hbx
    have HVw := Lib.hid (show VV u3 (.agg #[.slice A5 n5 c5, .string V'.rt]) V' from ⟨A5, _, c5, rfl, hr5, hn5⟩)
    have hsz4 : u2.heap.size ≤ u3.heap.size := hb.size
    clear hb hbx hr5 hA5 hn5
    obtain ⟨o0, o1, o2, o3⟩ := four_cells HQ.out
    obtain ⟨x0, x1, _, _⟩ := two_cells HX.out
    obtain ⟨y0, y1, _, _⟩ := two_cells HWb.out
    go_wp2_with fail
    refine (HSt.out _ _ _ ⟨_, _, _, _, _, _, rfl, HP.out⟩ HVw.out (HR.out.below HB.out)).mono ?_
    rintro e w4 ⟨v4, rfl, ⟨A6, n6, c6, B6, m6, f6, rfl, hp6⟩, hb⟩
    simp only at hp6 ⊢
    have al := (Below.refl w4.heap.size w4).alloc (Nat.le_refl _) (.cells #[.slice A6 n6 c6, .slice B6 m6 f6] 25)
    have hb2 := Below.chain hb al
    replace HX := hblk_below HX hb2
    replace HQ := hblk_below HQ hb2
    replace HqF := Lib.hid (HqF.out.below hb2)
    replace HB := Lib.hid (HB.out.trans (hb2.mono HB.out.size))
    replace HVb := hblk_below HVb hb2
    replace HVv := Lib.hid (HVv.out.below hb2)
    replace HWb := hblk_below HWb hb2
    replace HVw := Lib.hid (HVw.out.below hb2)
    have HZ := Lib.hid (heap_alloc_new w4 (.cells #[.slice A6 n6 c6, .slice B6 m6 f6] 25))
    have HPq := Lib.hid (PB.below (show PB w4 A6 n6 B6 m6 Q from hp6) al)
    obtain ⟨u4, hu4⟩ : ∃ u, u = w4.alloc (.cells #[.slice A6 n6 c6, .slice B6 m6 f6] 25) := ⟨_, rfl⟩
    have Hu4 := Lib.hid hu4
    rw [← hu4] at HX HQ HqF HB HVb HVv HWb HVw HZ HPq
    clear hb al hb2 hu4 o0 o1 o2 o3 x0 x1 y0 y1 hp6 HP
    go_upto_region 15 with fail
    rw [← Hu4.out]
    clear Hu4
    generalize w4.heap.size = g4 at *
    obtain ⟨o0, o1, o2, o3⟩ := four_cells HQ.out
    obtain ⟨z0, z1, _, _⟩ := two_cells HZ.out
    go_wp2_with fail
    refine (HCr.out _ _ ⟨_, _, _, _, _, _, rfl, HPq.out⟩ HqF.out).mono ?_
    rintro e w5 ⟨v5, rfl, ⟨A7, n7, c7, B7, m7, f7, rfl, hp7⟩, hb⟩
    simp only at hp7 ⊢
    have al := (Below.refl w5.heap.size w5).alloc (Nat.le_refl _) (.cells #[.slice A7 n7 c7, .slice B7 m7 f7] 25)
    have hb2 := Below.chain hb al
    replace HX := hblk_below HX hb2
    replace HQ := hblk_below HQ hb2
    replace HB := Lib.hid (HB.out.trans (hb2.mono HB.out.size))
    replace HVb := hblk_below HVb hb2
    replace HVv := Lib.hid (HVv.out.below hb2)
    replace HWb := hblk_below HWb hb2
    replace HVw := Lib.hid (HVw.out.below hb2)
    have HRb := Lib.hid (heap_alloc_new w5 (.cells #[.slice A7 n7 c7, .slice B7 m7 f7] 25))
    have HPr := Lib.hid (PB.below (show PB w5 A7 n7 B7 m7 R from hp7) al)
    obtain ⟨u5, hu5⟩ : ∃ u, u = w5.alloc (.cells #[.slice A7 n7 c7, .slice B7 m7 f7] 25) := ⟨_, rfl⟩
    have Hu5 := Lib.hid hu5
    rw [← hu5] at HX HQ HB HVb HVv HWb HVw HRb HPr
    clear hb al hb2 hu5 o0 o1 o2 o3 z0 z1 hp7 HqF HZ HPq
    go_upto_region 16 with fail
    rw [← Hu5.out]
    clear Hu5
    generalize w5.heap.size = g5 at *
    have hxg : w.heap.size ≤ gp := hgp
    rcases Hor.out with ⟨hop, hre, hrs⟩ | ⟨hdn, hop, hre⟩
    · rw [hop] at HLr
      obtain ⟨nx, hnx⟩ : ∃ nx, nx = gen + 1 := ⟨_, rfl⟩
      rw [← hnx] at HLr
      have e3 : IntKind.i64.wrap ((nx : Int) - 1) = (gen : Int) := by rw [IntWalk.i64_in _ (by omega)]; omega
      have e4 : ((gen : Int) == (gen : Int)) = true := beq_self_eq_true _
      have e5 : ((nx : Int) == (gen : Int)) = false := by simp; omega
      have e6 : (qs.toList == qs.toList) = true := beq_self_eq_true _
      have e7 : (qs.toList != qs.toList) = false := by simp
      have HRe := Lib.hid (show ∀ v W, VV W v V' → Rounds W → Turns W → Calls Tryz.prog 25 #[v, .string key, .int .i64 (kk : Nat)] W fun e w' => e = .returned (.tuple #[.string qs, .int .i64 0]) ∧ Below W.heap.size W w' from fun v W h1 h2 h3 => by
        have := read_any v V' key (kk : Nat) W h1 Hzk.out h2 h3
        rw [hre, hrs] at this
        exact this)
      have HSm := Lib.hid (fun v1 v2 W (h1 : VV W v1 V') (h2 : VV W v2 V') => same16_any v1 v2 V' V' W h1 h2 hV8')
      rw [sameV_true.2 rfl] at HSm
      clear hop hre hrs Hor hnx
      obtain ⟨r0, r1, _, _⟩ := two_cells HRb.out
      go_wp2_with fail
      refine (HLr.out _ _ ⟨_, _, _, _, _, _, rfl, HPr.out⟩ (HR.out.below HB.out)).mono ?_
      rintro e w6 ⟨A8, c8, rfl, ⟨hr8, -⟩, hb⟩
      simp only at hr8 ⊢
      generalize hn8 : V'.bl.length = n8 at *
      have al := (Below.refl w6.heap.size w6).alloc (Nat.le_refl _) (.cells #[.slice A8 n8 c8, .string V'.rt] 27)
      have hb2 := Below.chain hb al
      replace HX := hblk_below HX hb2
      replace HQ := hblk_below HQ hb2
      replace HB := Lib.hid (HB.out.trans (hb2.mono HB.out.size))
      replace HVb := hblk_below HVb hb2
      replace HVv := Lib.hid (HVv.out.below hb2)
      replace HWb := hblk_below HWb hb2
      replace HVw := Lib.hid (HVw.out.below hb2)
      replace HRb := hblk_below HRb hb2
      replace HPr := Lib.hid (HPr.out.below hb2)
      have HU := Lib.hid (heap_alloc_new w6 (.cells #[.slice A8 n8 c8, .string V'.rt] 27))
      have HVu := Lib.hid (show VV _ (.agg #[.slice A8 n8 c8, .string V'.rt]) V' from ⟨A8, _, c8, rfl, hr8.below al, hn8.symm⟩)
      obtain ⟨u6, hu6⟩ : ∃ u, u = w6.alloc (.cells #[.slice A8 n8 c8, .string V'.rt] 27) := ⟨_, rfl⟩
      have Hu6 := Lib.hid hu6
      rw [← hu6] at HX HQ HB HVb HVv HWb HVw HRb HPr HU HVu
      clear hb al hb2 hu6 r0 r1 hr8
      go_upto_region 17 with fail
      rw [← Hu6.out]
      clear Hu6
      generalize w6.heap.size = g6 at *
      obtain ⟨t0, t1, _, _⟩ := two_cells HU.out
      obtain ⟨y0, y1, _, _⟩ := two_cells HWb.out
      go_wp2_with fail
      refine (HSm.out _ _ _ HVu.out HVw.out).mono ?_
      rintro e w7 ⟨rfl, hb⟩
      replace HX := hblk_below HX hb
      replace HQ := hblk_below HQ hb
      replace HB := Lib.hid (HB.out.trans (hb.mono HB.out.size))
      replace HRb := hblk_below HRb hb
      replace HPr := Lib.hid (HPr.out.below hb)
      replace HU := hblk_below HU hb
      replace HVu := Lib.hid (HVu.out.below hb)
      clear hb t0 t1 y0 y1
      obtain ⟨t0, t1, _, _⟩ := two_cells HU.out
      obtain ⟨o0, o1, o2, o3⟩ := four_cells HQ.out
      go_wp2_with fail
      refine (HRe.out _ _ HVu.out (HR.out.below HB.out) (HT.out.below HB.out)).mono ?_
      rintro e w8 ⟨rfl, hb⟩
      replace HX := hblk_below HX hb
      replace HQ := hblk_below HQ hb
      replace HB := Lib.hid (HB.out.trans (hb.mono HB.out.size))
      replace HRb := hblk_below HRb hb
      replace HPr := Lib.hid (HPr.out.below hb)
      clear hb t0 t1 o0 o1 o2 o3
      obtain ⟨o0, o1, o2, o3⟩ := four_cells HQ.out
      obtain ⟨r0, r1, _, _⟩ := two_cells HRb.out
      obtain ⟨x0, x1, x2, x3⟩ := two_cells HX.out
      go_wp2_with fail
      go_roundw
      case rel => exact ⟨i + 1, R, A7, n7, c7, B7, m7, f7, by omega, by go_num, two_set HX.out _ _, HPr.out.two HX.out, HI1.out, two_by HB.out hxg _ _⟩
      case measure => simp [intOf]; omega
    · subst hdn
      rw [hop] at HLr
      have e3 : IntKind.i64.wrap ((gen : Int) - 1) = (gen : Int) - 1 := IntWalk.i64_in _ (by omega)
      have e4 : ((gen : Int) == (gen : Int)) = true := beq_self_eq_true _
      have e5 : (((gen : Int) - 1) == (gen : Int)) = false := by simp; omega
      have HRe := Lib.hid (show ∀ v W, VV W v V → Rounds W → Turns W → Calls Tryz.prog 25 #[v, .string key, .int .i64 (kk : Nat)] W fun e w' => e = .returned (.tuple #[.string (vreadS V key (kk : Nat)), .int .i64 0]) ∧ Below W.heap.size W w' from fun v W h1 h2 h3 => by
        have := read_any v V key (kk : Nat) W h1 Hzk.out h2 h3
        rw [hre] at this
        exact this)
      generalize vreadS V key (kk : Nat) = rs at HRe
      have HSm := Lib.hid (fun v1 v2 W (h1 : VV W v1 V) (h2 : VV W v2 V) => same16_any v1 v2 V V W h1 h2 (by rw [hnV]; exact hV8))
      rw [sameV_true.2 rfl] at HSm
      clear hop hre Hor
      obtain ⟨r0, r1, _, _⟩ := two_cells HRb.out
      go_wp2_with fail
      refine (HLr.out _ _ ⟨_, _, _, _, _, _, rfl, HPr.out⟩ (HR.out.below HB.out)).mono ?_
      rintro e w6 ⟨A8, c8, rfl, ⟨hr8, -⟩, hb⟩
      simp only at hr8 ⊢
      generalize hn8 : V.bl.length = n8 at *
      subst hnV
      have al := (Below.refl w6.heap.size w6).alloc (Nat.le_refl _) (.cells #[.slice A8 n8 c8, .string V.rt] 27)
      have hb2 := Below.chain hb al
      replace HX := hblk_below HX hb2
      replace HQ := hblk_below HQ hb2
      replace HB := Lib.hid (HB.out.trans (hb2.mono HB.out.size))
      replace HVb := hblk_below HVb hb2
      replace HVv := Lib.hid (HVv.out.below hb2)
      replace HWb := hblk_below HWb hb2
      replace HVw := Lib.hid (HVw.out.below hb2)
      replace HRb := hblk_below HRb hb2
      replace HPr := Lib.hid (HPr.out.below hb2)
      have HU := Lib.hid (heap_alloc_new w6 (.cells #[.slice A8 n8 c8, .string V.rt] 27))
      have HVu := Lib.hid (show VV _ (.agg #[.slice A8 n8 c8, .string V.rt]) V from ⟨A8, _, c8, rfl, hr8.below al, hn8.symm⟩)
      obtain ⟨u6, hu6⟩ : ∃ u, u = w6.alloc (.cells #[.slice A8 n8 c8, .string V.rt] 27) := ⟨_, rfl⟩
      have Hu6 := Lib.hid hu6
      rw [← hu6] at HX HQ HB HVb HVv HWb HVw HRb HPr HU HVu
      clear hb al hb2 hu6 r0 r1 hr8
      go_upto_region 17 with fail
      rw [← Hu6.out]
      clear Hu6
      generalize w6.heap.size = g6 at *
      obtain ⟨t0, t1, _, _⟩ := two_cells HU.out
      obtain ⟨y0, y1, _, _⟩ := two_cells HVb.out
      go_wp2_with fail
      refine (HSm.out _ _ _ HVu.out HVv.out).mono ?_
      rintro e w7 ⟨rfl, hb⟩
      replace HX := hblk_below HX hb
      replace HQ := hblk_below HQ hb
      replace HB := Lib.hid (HB.out.trans (hb.mono HB.out.size))
      replace HRb := hblk_below HRb hb
      replace HPr := Lib.hid (HPr.out.below hb)
      replace HU := hblk_below HU hb
      replace HVu := Lib.hid (HVu.out.below hb)
      clear hb t0 t1 y0 y1
      obtain ⟨t0, t1, _, _⟩ := two_cells HU.out
      obtain ⟨o0, o1, o2, o3⟩ := four_cells HQ.out
      go_wp2_with fail
      refine (HRe.out _ _ HVu.out (HR.out.below HB.out) (HT.out.below HB.out)).mono ?_
      rintro e w8 ⟨rfl, hb⟩
      replace HX := hblk_below HX hb
      replace HQ := hblk_below HQ hb
      replace HB := Lib.hid (HB.out.trans (hb.mono HB.out.size))
      replace HRb := hblk_below HRb hb
      replace HPr := Lib.hid (HPr.out.below hb)
      clear hb t0 t1 o0 o1 o2 o3
      obtain ⟨o0, o1, o2, o3⟩ := four_cells HQ.out
      obtain ⟨r0, r1, _, _⟩ := two_cells HRb.out
      obtain ⟨x0, x1, x2, x3⟩ := two_cells HX.out
      go_wp2_with fail
      go_roundw
      case rel => exact ⟨i + 1, R, A7, n7, c7, B7, m7, f7, by omega, by go_num, two_set HX.out _ _, HPr.out.two HX.out, HI1.out, two_by HB.out hxg _ _⟩
      case measure => simp [intOf]; omega
end Go.Proofs.YtingcnfhdioejaaGreatDoor
