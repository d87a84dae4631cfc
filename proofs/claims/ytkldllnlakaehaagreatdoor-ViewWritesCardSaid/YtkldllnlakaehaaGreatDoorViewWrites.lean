/-
  The walk of the law ViewWrites.
-/
import Derived.Test.YtkldllnlakaehaaGreatDoorVwW
namespace Go.Proofs.YtkldllnlakaehaaGreatDoor
open Go.RowKit
set_option linter.unusedVariables false
set_option linter.unusedSimpArgs false
set_option maxRecDepth 100000
set_option maxHeartbeats 4000000

/-- The number is bad, or the error is told. -/
theorem vww_bad (n : Int) (key : ByteArray) (hzk : key.size ≤ maxLen) (other : ByteArray) (hzn : other.size ≤ maxLen) (A : Option Addr) (m c : Nat) (ls : List Wri3) (hm : m = ls.length) (hml : ls.length ≤ maxLen) (w : World) (hT : Turns w) (hR : Rounds w) (hr : Rd w A (wrs3V ls)) (V : Vol) (er : Nat) (HF : ∀ W, Rounds W → Calls Tryz.prog 9 #[.int .i64 n] W (VolE W V er)) (hbad : er ≠ 0 ∨ 8 < n ∨ key.size ≠ 32 ∨ other.size ≠ 32 ∨ 20 < m) :
    Calls Tryz.prog 4 #[.int .i64 n, .string key, .string other, .slice A m c] w fun e w' => e = .returned (.bool true) ∧ Below w.heap.size w w' := by
  have HVl := Lib.hid (fun W => views_any W)
  have HF := Lib.hid HF
  have HR := Lib.hid hR
  have hmm : m ≤ 9223372036854775807 := by unfold maxLen at hml; omega
  clear hR hT hr hm hml
  by_cases c0 : er ≠ 0
  case pos =>
    have d0 : ((er : Int) != 0) = true := by simp; omega
    clear hbad
    go_enter Tryz.func4, Tryz.ntmps4
    go_wp2_with fail
    refine (HF.out _ HR.out).mono ?_
    rintro e w1 ⟨v, rfl, ⟨A1, n1, c1', rfl, -, -⟩, hb1⟩
    have HB := Lib.hid (hb1.alloc hb1.size (.cells #[.slice A1 n1 c1', .string V.rt] 37))
    clear hb1
    go_wp2_with fail
    refine (HVl.out _).mono ?_
    rintro e w2 ⟨rfl, hb2⟩
    go_wp2_with fail
    go_ret
    exact ⟨rfl, HB.out.trans (hb2.mono HB.out.size)⟩
  have d0 : ((er : Int) != 0) = false := by simp; omega
  by_cases c1 : 8 < n
  case pos =>
    have d1 : decide (n > 8) = true := decide_eq_true (by omega)
    clear hbad
    go_enter Tryz.func4, Tryz.ntmps4
    go_wp2_with fail
    refine (HF.out _ HR.out).mono ?_
    rintro e w1 ⟨v, rfl, ⟨A1, n1, c1', rfl, -, -⟩, hb1⟩
    have HB := Lib.hid (hb1.alloc hb1.size (.cells #[.slice A1 n1 c1', .string V.rt] 37))
    clear hb1
    go_wp2_with fail
    refine (HVl.out _).mono ?_
    rintro e w2 ⟨rfl, hb2⟩
    go_wp2_with fail
    go_ret
    exact ⟨rfl, HB.out.trans (hb2.mono HB.out.size)⟩
  have d1 : decide (n > 8) = false := decide_eq_false (by omega)
  by_cases c2 : key.size ≠ 32
  case pos =>
    have d2 : ((key.size : Int) != 32) = true := by simp; omega
    clear hbad
    go_enter Tryz.func4, Tryz.ntmps4
    go_wp2_with fail
    refine (HF.out _ HR.out).mono ?_
    rintro e w1 ⟨v, rfl, ⟨A1, n1, c1', rfl, -, -⟩, hb1⟩
    have HB := Lib.hid (hb1.alloc hb1.size (.cells #[.slice A1 n1 c1', .string V.rt] 37))
    clear hb1
    go_wp2_with fail
    refine (HVl.out _).mono ?_
    rintro e w2 ⟨rfl, hb2⟩
    go_wp2_with fail
    go_ret
    exact ⟨rfl, HB.out.trans (hb2.mono HB.out.size)⟩
  have d2 : ((key.size : Int) != 32) = false := by simp; omega
  by_cases c3 : other.size ≠ 32
  case pos =>
    have d3 : ((other.size : Int) != 32) = true := by simp; omega
    clear hbad
    go_enter Tryz.func4, Tryz.ntmps4
    go_wp2_with fail
    refine (HF.out _ HR.out).mono ?_
    rintro e w1 ⟨v, rfl, ⟨A1, n1, c1', rfl, -, -⟩, hb1⟩
    have HB := Lib.hid (hb1.alloc hb1.size (.cells #[.slice A1 n1 c1', .string V.rt] 37))
    clear hb1
    go_wp2_with fail
    refine (HVl.out _).mono ?_
    rintro e w2 ⟨rfl, hb2⟩
    go_wp2_with fail
    go_ret
    exact ⟨rfl, HB.out.trans (hb2.mono HB.out.size)⟩
  have d3 : ((other.size : Int) != 32) = false := by simp; omega
  have c4 : 20 < m := by simp only [c0, c1, c2, c3, false_or] at hbad; omega
  have d4 : decide ((m : Int) > 20) = true := decide_eq_true (by omega)
  clear hbad
  go_enter Tryz.func4, Tryz.ntmps4
  go_wp2_with fail
  refine (HF.out _ HR.out).mono ?_
  rintro e w1 ⟨v, rfl, ⟨A1, n1, c1', rfl, -, -⟩, hb1⟩
  have HB := Lib.hid (hb1.alloc hb1.size (.cells #[.slice A1 n1 c1', .string V.rt] 37))
  clear hb1
  go_wp2_with fail
  refine (HVl.out _).mono ?_
  rintro e w2 ⟨rfl, hb2⟩
  go_wp2_with fail
  go_ret
  exact ⟨rfl, HB.out.trans (hb2.mono HB.out.size)⟩
/-- Between two rounds. -/
def WwI (n1 gV gW m : Nat) (w : World) (x : Value) (wr : World) : Prop :=
  ∃ (i : Nat) (bl bl' : List ByteArray) (A2 A3 : Option Addr) (c2 c3 : Nat), i ≤ m ∧ x = .int .i64 (i : Nat) ∧ wr.heap[gV]? = some (.cells #[.slice A2 n1 c2, .string (rooted bl).rt] 37 (0, 0)) ∧ wr.heap[gW]? = some (.cells #[.slice A3 n1 c3, .string (rooted bl').rt] 37 (0, 0)) ∧ Rd wr A2 (textsV bl) ∧ Rd wr A3 (textsV bl') ∧ (∀ b o, A2 = some ⟨b, o, none⟩ → b ≠ gV ∧ b ≠ gW) ∧ (∀ b o, A3 = some ⟨b, o, none⟩ → b ≠ gV ∧ b ≠ gW) ∧ n1 = bl.length ∧ Alike bl bl' ∧ Below w.heap.size w wr
theorem viewWrites_law (n : Int) (key : ByteArray) (hzk : key.size ≤ maxLen) (other : ByteArray) (hzn : other.size ≤ maxLen) (A : Option Addr) (m c : Nat) (ls : List Wri3) (hm : m = ls.length) (hml : ls.length ≤ maxLen) (hzs : ∀ o ∈ ls, o.a.size ≤ maxLen ∧ o.b.size ≤ maxLen) (w : World) (hT : Turns w) (hR : Rounds w) (hr : Rd w A (wrs3V ls)) :
    Calls Tryz.prog 4 #[.int .i64 n, .string key, .string other, .slice A m c] w fun e w' => e = .returned (.bool true) ∧ Below w.heap.size w w' := by
  by_cases hn0 : n < 1
  · exact vww_bad n key hzk other hzn A m c ls hm hml w hT hR hr vol0 1 (fun W _ => format_neg n W hn0) (.inl (by simp))
  obtain ⟨k, rfl⟩ := Int.eq_ofNat_of_zero_le (show 0 ≤ n by omega)
  by_cases hcb : countB k = false
  · exact vww_bad k key hzk other hzn A m c ls hm hml w hT hR hr vol0 1 (fun W h => by have := format_any k W h; rw [hcb] at this; exact this) (.inl (by simp))
  have hc : countB k = true := by simpa using hcb
  by_cases hbad : 8 < (k : Int) ∨ key.size ≠ 32 ∨ other.size ≠ 32 ∨ 20 < m
  · exact vww_bad k key hzk other hzn A m c ls hm hml w hT hR hr (rooted (List.replicate k noT)) 0 (fun W h => by have := format_any k W h; rw [hc] at this; exact this) (.inr hbad)
  simp only [not_or, Int.not_lt, Decidable.not_not, Nat.not_lt] at hbad
  obtain ⟨b1, b2, b3, b4⟩ := hbad
  have HF := Lib.hid (show ∀ W, Rounds W → Calls Tryz.prog 9 #[.int .i64 (k : Nat)] W (VolE W (rooted (List.replicate k noT)) 0) from fun W h => by have := format_any k W h; rw [hc] at this; exact this)
  have d0 : (((0 : Nat) : Int) != 0) = false := rfl
  have d1 : decide ((k : Int) > 8) = false := decide_eq_false (by omega)
  have d2 : ((key.size : Int) != 32) = false := by simp; omega
  have d3 : ((other.size : Int) != 32) = false := by simp; omega
  have d4 : decide ((m : Int) > 20) = false := decide_eq_false (by omega)
  have k1 : 1 ≤ k := by omega
  have k8 : k ≤ 8 := by omega
  have HVl := Lib.hid (fun W => views_any W)
  have HN := Lib.hid hm
  have HRd := Lib.hid hr
  have HR := Lib.hid hR
  have HT := Lib.hid hT
  have Hzk := Lib.hid hzk
  have Hzn := Lib.hid hzn
  have Hzs := Lib.hid hzs
  have Hk32 := Lib.hid b2
  have Hn32 := Lib.hid b3
  have Hcnt := Lib.hid hc
  clear hzk hzn hzs hm hml hR hT hr b1 b2 b3 hn0 hcb hc
  go_enter Tryz.func4, Tryz.ntmps4
  go_wp2_with fail
  refine (HF.out _ HR.out).mono ?_
  rintro e w1 ⟨v, rfl, ⟨A1, n1, c1, rfl, ⟨hr1, -⟩, hn1⟩, hb1⟩
  have hn1' : n1 = k := by rw [hn1]; simp [rooted]
  subst hn1'
  have al1 := hb1.alloc hb1.size (.cells #[.slice A1 n1 c1, .string (rooted (List.replicate n1 noT)).rt] 37)
  have HA1 := Lib.hid (show ∀ b o, A1 = some ⟨b, o, none⟩ → b < w1.heap.size from fun b o e => by
    obtain ⟨b', o', e', hc⟩ := texts_at hr1 (i := 0) (by rw [← hn1]; omega)
    rw [e] at e'
    injection e' with e'
    injection e' with e1 e2
    subst e1
    exact cell_lt hc)
  have hs1 := hb1.size
  have bz := (Below.refl w1.heap.size w1).alloc (Nat.le_refl _) (.cells #[.slice A1 n1 c1, .string (rooted (List.replicate n1 noT)).rt] 37)
  have by2 := (Below.refl (w1.alloc (.cells #[.slice A1 n1 c1, .string (rooted (List.replicate n1 noT)).rt] 37)).heap.size (w1.alloc (.cells #[.slice A1 n1 c1, .string (rooted (List.replicate n1 noT)).rt] 37))).alloc (Nat.le_refl _) (.cells #[.slice A1 n1 c1, .string (rooted (List.replicate n1 noT)).rt] 37)
  have hx := heap_alloc_new w1 (.cells #[.slice A1 n1 c1, .string (rooted (List.replicate n1 noT)).rt] 37)
  have x0 := rf_at hx 0 _ rfl
  have x1 := rf_at hx 1 _ rfl
  have HX := Lib.hid (cells_below hx by2)
  have hy := heap_alloc_new (w1.alloc (.cells #[.slice A1 n1 c1, .string (rooted (List.replicate n1 noT)).rt] 37)) (.cells #[.slice A1 n1 c1, .string (rooted (List.replicate n1 noT)).rt] 37)
  rw [World.size_alloc] at hy
  have HY := Lib.hid hy
  have HRd1 := Lib.hid ((hr1.below bz).below by2)
  have HB := Lib.hid (al1.trans (by2.mono al1.size))
  clear hb1 al1 hr1 hn1 bz by2 hx hy
  go_wp2_with fail
  obtain ⟨gW, hgW⟩ : ∃ gW, gW = w1.heap.size + 1 := ⟨_, rfl⟩
  obtain ⟨gV, hgV⟩ : ∃ gV, gV = w1.heap.size := ⟨_, rfl⟩
  rw [← hgW] at HY ⊢
  rw [← hgV] at HX HA1 hs1 hgW ⊢
  have hWV : gV < gW := by omega
  clear hgV hgW x0 x1
  go_loopw [12] (fun x wr => WwI n1 gV gW m w x wr) (fun x _ => m - (intOf x).toNat)
  case atStart => exact ⟨0, _, _, A1, A1, c1, c1, by omega, rfl, HX.out, HY.out, HRd1.out, HRd1.out, fun b o e => by have := HA1.out b o e; omega, fun b o e => by have := HA1.out b o e; omega, by simp [rooted], alike_new Hcnt.out, HB.out⟩
  case round =>
    clear HX HRd1 HA1 HY HB
    obtain ⟨i, bl, bl', A2, A3, c2, c3, hi, rfl, hX, hY, hRd, hRd', hA2, hA3, hn2, hK, hB⟩ := hrel
    have HX := Lib.hid hX
    have HY := Lib.hid hY
    have HRb := Lib.hid hRd
    have HRb' := Lib.hid hRd'
    have HA2 := Lib.hid hA2
    have HA3 := Lib.hid hA3
    have Hn2 := Lib.hid hn2
    have HK := Lib.hid hK
    have HB := Lib.hid hB
    have hgVl := cell_lt_of hX
    have hgWl := cell_lt_of hY
    have HV := Lib.hid (show ∀ W, Below wr.heap.size wr W → VV W (.agg #[.slice A2 n1 c2, .string (rooted bl).rt]) (rooted bl) from fun W h => ⟨A2, n1, c2, rfl, hRd.below h, hn2⟩)
    have HW := Lib.hid (show ∀ W, Below wr.heap.size wr W → VV W (.agg #[.slice A3 n1 c3, .string (rooted bl').rt]) (rooted bl') from fun W h => ⟨A3, n1, c3, rfl, hRd'.below h, by rw [hn2]; exact hK.len⟩)
    clear hX hY hRd hRd' hA2 hA3 hn2 hK hB
    rename World => W0
    by_cases hlt : i < m
    · have e1 : decide ((i : Int) < (m : Int)) = true := by simp; omega
      have him : (i : Int) < (m : Int) := by omega
      have hil : i < ls.length := by rw [← HN.out]; exact hlt
      obtain ⟨bA, oA, hbA, s0, s1, s2⟩ := wr3_cells (HRd.out.below HB.out) hil
      subst hbA
      obtain ⟨zs1, zs2⟩ := Hzs.out _ (List.getElem_mem hil)
      generalize ls[i] = q at s0 s1 s2 zs1 zs2
      obtain ⟨qi, qa, qb⟩ := q
      simp only at s0 s1 s2 zs1 zs2
      have HNo := Lib.hid (fun W => bytes_any i W (by omega))
      have hbl := cell_lt s0
      go_wp2_with fail
      refine (HNo.out _).mono ?_
      rintro e w3 ⟨⟨nn, rfl, hnn⟩, hb3⟩
      have t0 := (hb3.cell hbl).trans s0
      have t1 := (hb3.cell hbl).trans s1
      have t2 := (hb3.cell hbl).trans s2
      have HC3 := Lib.hid hb3
      have Hnn := Lib.hid hnn
      clear hb3 hnn s0 s1 s2
      by_cases hz : qa.size ≠ qb.size
      · have g0 : ((qa.size : Int) != (qb.size : Int)) = true := by simp; omega
        go_wp2_with fail
        go_quiet (fail)
        have HCq := Lib.hid (HB.out.trans ((below_drewN HC3.out nq).mono HB.out.size))
        go_wp2_with fail
        refine (HVl.out _).mono ?_
        rintro e w4 ⟨rfl, hb4⟩
        go_wp2_with fail
        go_ret
        exact ⟨rfl, HCq.out.trans (hb4.mono HCq.out.size)⟩
      have g0 : ((qa.size : Int) != (qb.size : Int)) = false := by simp; omega
      by_cases hz2 : 64 < qa.size
      · have g1 : decide ((qa.size : Int) > 64) = true := decide_eq_true (by omega)
        go_wp2_with fail
        go_quiet (fail)
        have HCq := Lib.hid (HB.out.trans ((below_drewN HC3.out nq).mono HB.out.size))
        go_wp2_with fail
        refine (HVl.out _).mono ?_
        rintro e w4 ⟨rfl, hb4⟩
        go_wp2_with fail
        go_ret
        exact ⟨rfl, HCq.out.trans (hb4.mono HCq.out.size)⟩
      have g1 : decide ((qa.size : Int) > 64) = false := decide_eq_false (by omega)
      go_wp2_with fail
      go_quiet (fail)
      have HCq := Lib.hid (below_drewN HC3.out nq)
      go_wp2_with fail
      obtain ⟨wq, hwq⟩ : ∃ wq, wq = w3.drewN nq := ⟨_, rfl⟩
      have u0 : wq.cell? ⟨bA, oA + i * 3, none⟩ = some (.int .i64 qi) := by rw [hwq]; exact t0
      have u1 : wq.cell? ⟨bA, oA + i * 3 + 1, none⟩ = some (.string qa) := by rw [hwq]; exact t1
      have u2 : wq.cell? ⟨bA, oA + i * 3 + 2, none⟩ = some (.string qb) := by rw [hwq]; exact t2
      rw [← hwq] at HCq ⊢
      clear hwq t0 t1 t2 HC3
      have hXq := cells_below HX.out HCq.out
      have hYq := cells_below HY.out HCq.out
      have HXq := Lib.hid hXq
      have HYq := Lib.hid hYq
      have HBq := Lib.hid (HB.out.trans (HCq.out.mono HB.out.size))
      obtain ⟨x0, x1, _, _⟩ := two_cells hXq
      have hgVq := cell_lt_of hXq
      have hgWq := cell_lt_of hYq
      have hbq : bA < wq.heap.size := cell_lt u0
      clear hXq hYq
      obtain ⟨hE, hW⟩ := alike_write HK.out (key := key) (key' := other) (nonce := nn) (i := qi) (s := qa) (s' := qb) (by omega) (by omega) Hk32.out Hn32.out Hnn.out
      obtain ⟨er, her⟩ : ∃ er, er = writeE (rooted bl) key nn qi qa := ⟨_, rfl⟩
      obtain ⟨V1, hV1⟩ : ∃ V1, V1 = writeV (rooted bl) key nn qi qa := ⟨_, rfl⟩
      obtain ⟨V2, hV2⟩ : ∃ V2, V2 = writeV (rooted bl') other nn qi qb := ⟨_, rfl⟩
      have HW1 := Lib.hid (show ∀ W, Below wq.heap.size wq W → Calls Tryz.prog 11 #[.agg #[.slice A2 n1 c2, .string (rooted bl).rt], .string key, .string nn, .int .i64 qi, .string qa] W (VolE W V1 er) from fun W h => by
        rw [hV1, her]
        exact vwrite_any _ (rooted bl) key nn qi qa W (HV.out W (HCq.out.trans (h.mono HCq.out.size))) Hzk.out (by rw [Hnn.out]; decide) zs1 (HR.out.below (HBq.out.trans (h.mono HBq.out.size))) (HT.out.below (HBq.out.trans (h.mono HBq.out.size))))
      have HW2 := Lib.hid (show ∀ W, Below wq.heap.size wq W → Calls Tryz.prog 11 #[.agg #[.slice A3 n1 c3, .string (rooted bl').rt], .string other, .string nn, .int .i64 qi, .string qb] W (VolE W V2 er) from fun W h => by
        rw [hV2, her, hE]
        exact vwrite_any _ (rooted bl') other nn qi qb W (HW.out W (HCq.out.trans (h.mono HCq.out.size))) Hzn.out (by rw [Hnn.out]; decide) zs2 (HR.out.below (HBq.out.trans (h.mono HBq.out.size))) (HT.out.below (HBq.out.trans (h.mono HBq.out.size))))
      have HAl := Lib.hid (show er = 0 → ∃ b b', V1 = rooted b ∧ V2 = rooted b' ∧ b.length = bl.length ∧ Alike b b' from fun h => by rw [hV1, hV2]; exact hW (her ▸ h))
      clear hE hW her hV1 hV2
      obtain ⟨R1, hR1⟩ : ∃ R1, R1 = (rooted bl).rt := ⟨_, rfl⟩
      obtain ⟨R2, hR2⟩ : ∃ R2, R2 = (rooted bl').rt := ⟨_, rfl⟩
      rw [← hR1] at HX HXq HW1 HV x1
      rw [← hR2] at HY HYq HW2 HW
      have HR1 := Lib.hid hR1
      have HR2 := Lib.hid hR2
      clear hR1 hR2
      go_cut [15, 16] from 81 to 97 (fun v u wc => CutV wq V1 er v u wc)
      case first =>
        have nn1 : wq.heap.size ≠ gV := by omega
        have nn2 : wq.heap.size ≠ bA := by omega
        go_region_held3 (fun w' => (w'.cell? ⟨gV, 0, none⟩ = some (.slice A2 n1 c2) ∧ w'.cell? ⟨gV, 1, none⟩ = some (.string R1)) ∧ (w'.cell? ⟨bA, oA + i * 3, none⟩ = some (.int .i64 qi) ∧ w'.cell? ⟨bA, oA + i * 3 + 1, none⟩ = some (.string qa)))
          (first | with_reducible assumption | with_reducible exact kp4_drew ⟨⟨x0, x1⟩, ⟨u0, u1⟩⟩ | with_reducible exact kp4_drew (kp4_alloc ⟨⟨x0, x1⟩, ⟨u0, u1⟩⟩) | with_reducible exact kp4_alloc Q5 | with_reducible exact kp4_two Q5 nn1 nn2 | with_reducible exact kp4_drew (kp4_two Q5 nn1 nn2))
          (first
            | ((go_at_call 11; with_reducible refine (HW1.out _ ((Below.refl _ wq).drew)).mono ?_); rintro _ w5 ⟨v5, rfl, ⟨A5, n5, c5, rfl, ⟨hr5, hA5⟩, hn5⟩, hb5'⟩; have K5 := Lib.hid (vch_a hb5'); have Q5 := kp4_below (kp4_drew ⟨⟨x0, x1⟩, ⟨u0, u1⟩⟩) hb5'; have HA5 := Lib.hid hA5; have HN5 := Lib.hid hn5; have HR5 := Lib.hid hr5; clear hb5' hA5 hn5 hr5)
            | ((go_at_call 11; with_reducible refine (HW1.out _ (((Below.refl _ wq).alloc (Nat.le_refl _) _).drew)).mono ?_); rintro _ w5 ⟨v5, rfl, ⟨A5, n5, c5, rfl, ⟨hr5, hA5⟩, hn5⟩, hb5'⟩; have K5 := Lib.hid (vch_b hb5'); have Z5 := Lib.hid (vch_c hb5'); obtain ⟨z0, z1, z2, z3⟩ := two_cells Z5.out; have Q5 := kp4_below (kp4_drew (kp4_alloc ⟨⟨x0, x1⟩, ⟨u0, u1⟩⟩)) hb5'; have HA5 := Lib.hid hA5; have HN5 := Lib.hid hn5; have HR5 := Lib.hid hr5; clear hb5' hA5 hn5 hr5))
        all_goals
          go_wp2_with fail
          go_meet
          case rel =>
            first
              | exact cutV_new K5.out HR5.out HA5.out HN5.out
              | exact cutV_set Z5.out K5.out (Nat.le_refl _) HR5.out (fun b o e => by have := HA5.out b o e; simp at this; omega) HN5.out

      case rest =>
        obtain ⟨g1, rfl, rfl, hg1, hv1, hb6⟩ := hcut
        have HV1 := Lib.hid hv1
        have HB6 := Lib.hid hb6
        have Hg1 := Lib.hid hg1
        rename World => wr1
        obtain ⟨y0, y1, _, _⟩ := two_cells (cells_below HYq.out hb6)
        have s0 := (hb6.cell (cell_lt u0)).trans u0
        have s2 := (hb6.cell (cell_lt u2)).trans u2
        have HW2' := Lib.hid (fun W (h : Below wr1.heap.size wr1 W) => HW2.out W (HB6.out.trans (h.mono HB6.out.size)))
        have hz6 := hb6.size
        clear hv1 hg1 u0 u1 u2 x0 x1 hb6 HW2 HW1
        go_wp2_with fail
        go_cut [17, 18] from 98 to 114 (fun v u wc => CutV wr1 V2 er v u wc)
        case first =>
          have nn1 : wr1.heap.size ≠ gW := by omega
          have nn2 : wr1.heap.size ≠ bA := by omega
          go_region_held3 (fun w' => (w'.cell? ⟨gW, 0, none⟩ = some (.slice A3 n1 c3) ∧ w'.cell? ⟨gW, 1, none⟩ = some (.string R2)) ∧ (w'.cell? ⟨bA, oA + i * 3, none⟩ = some (.int .i64 qi) ∧ w'.cell? ⟨bA, oA + i * 3 + 2, none⟩ = some (.string qb)))
            (first | with_reducible assumption | with_reducible exact kp4_drew ⟨⟨y0, y1⟩, ⟨s0, s2⟩⟩ | with_reducible exact kp4_drew (kp4_alloc ⟨⟨y0, y1⟩, ⟨s0, s2⟩⟩) | with_reducible exact kp4_alloc Q5 | with_reducible exact kp4_two Q5 nn1 nn2 | with_reducible exact kp4_drew (kp4_two Q5 nn1 nn2))
            (first
              | ((go_at_call 11; with_reducible refine (HW2'.out _ ((Below.refl _ wr1).drew)).mono ?_); rintro _ w5 ⟨v5, rfl, ⟨A5, n5, c5, rfl, ⟨hr5, hA5⟩, hn5⟩, hb5'⟩; have K5 := Lib.hid (vch_a hb5'); have Q5 := kp4_below (kp4_drew ⟨⟨y0, y1⟩, ⟨s0, s2⟩⟩) hb5'; have HA5 := Lib.hid hA5; have HN5 := Lib.hid hn5; have HR5 := Lib.hid hr5; clear hb5' hA5 hn5 hr5)
              | ((go_at_call 11; with_reducible refine (HW2'.out _ (((Below.refl _ wr1).alloc (Nat.le_refl _) _).drew)).mono ?_); rintro _ w5 ⟨v5, rfl, ⟨A5, n5, c5, rfl, ⟨hr5, hA5⟩, hn5⟩, hb5'⟩; have K5 := Lib.hid (vch_b hb5'); have Z5 := Lib.hid (vch_c hb5'); obtain ⟨z0, z1, z2, z3⟩ := two_cells Z5.out; have Q5 := kp4_below (kp4_drew (kp4_alloc ⟨⟨y0, y1⟩, ⟨s0, s2⟩⟩)) hb5'; have HA5 := Lib.hid hA5; have HN5 := Lib.hid hn5; have HR5 := Lib.hid hr5; clear hb5' hA5 hn5 hr5))
          all_goals
            go_wp2_with fail
            go_meet
            case rel =>
              first
                | exact cutV_new K5.out HR5.out HA5.out HN5.out
                | exact cutV_set Z5.out K5.out (Nat.le_refl _) HR5.out (fun b o e => by have := HA5.out b o e; simp at this; omega) HN5.out
  
        case rest =>
          obtain ⟨g2, rfl, rfl, hg2, hv2, hb7⟩ := hcut
          have HX7 := Lib.hid (cells_below (cells_below HXq.out HB6.out) hb7)
          have HY7 := Lib.hid (cells_below (cells_below HYq.out HB6.out) hb7)
          have HBt := Lib.hid (HBq.out.trans ((HB6.out.trans (hb7.mono HB6.out.size)).mono HBq.out.size))
          have HC7 := Lib.hid (HCq.out.trans ((HB6.out.trans (hb7.mono HB6.out.size)).mono HCq.out.size))
          have E0 : ((er : Int) != (er : Int)) = false := by simp
          clear y0 y1 s0 s2 HW2'
          by_cases h0 : er = 0
          · subst h0
            obtain ⟨b, b', rfl, rfl, hbl, hal⟩ := HAl.out rfl
            obtain ⟨X1, m1, e1', hx1, hrx, hX1, hm1⟩ := HV1.out
            obtain ⟨X2, m2, e2', hx2, hry, hX2, hm2⟩ := hv2
            replace hx1 := cells_below hx1 hb7
            replace hrx := hrx.below hb7
            obtain rfl : m1 = n1 := by rw [hm1, Hn2.out]; exact hbl
            obtain rfl : m2 = m1 := by rw [hm2, Hn2.out, ← hbl]; exact hal.len.symm
            have Hal := Lib.hid hal
            have Hbl := Lib.hid (show m2 = b.length from hm1)
            have hq1 := Hg1.out
            have nV1 : gV ≠ g1 := by omega
            have nV2 : gV ≠ g2 := by omega
            have nVW : gV ≠ gW := by omega
            have nW1 : gW ≠ gV := by omega
            obtain ⟨T1, hT1⟩ : ∃ T1, T1 = (rooted b).rt := ⟨_, rfl⟩
            obtain ⟨T2, hT2⟩ : ∃ T2, T2 = (rooted b').rt := ⟨_, rfl⟩
            rw [← hT1] at hx1
            rw [← hT2] at hx2
            have HT1 := Lib.hid hT1
            have HT2 := Lib.hid hT2
            obtain ⟨x0, x1, _, _⟩ := two_cells hx1
            obtain ⟨v0, v1, v2, v3⟩ := two_cells HX7.out
            have k2 := cells_two (x := .slice X1 m2 e1') (y := .string T1) hx2 nV2
            obtain ⟨y0, y1, _, _⟩ := two_cells k2
            have kW := cells_two (x := .slice X1 m2 e1') (y := .string T1) HY7.out nVW
            obtain ⟨u0, u1, u2, u3⟩ := two_cells kW
            have HXn := Lib.hid (cells_two (x := .slice X2 m2 e2') (y := .string T2) (vol_set HX7.out (.slice X1 m2 e1') (.string T1)) nW1)
            have HYn := Lib.hid (vol_set kW (.slice X2 m2 e2') (.string T2))
            have HRx := Lib.hid (rd_two (g := gW) (x := .slice X2 m2 e2') (y := .string T2) (rd_two (g := gV) (x := .slice X1 m2 e1') (y := .string T1) hrx hgVq hX1) hgWq hX1)
            have HRy := Lib.hid (rd_two (g := gW) (x := .slice X2 m2 e2') (y := .string T2) (rd_two (g := gV) (x := .slice X1 m2 e1') (y := .string T1) hry (show gV < wr1.heap.size by omega) hX2) (show gW < wr1.heap.size by omega) hX2)
            have HBn := Lib.hid (two_by (two_by HBt.out (show w.heap.size ≤ gV by omega) (.slice X1 m2 e1') (.string T1)) (show w.heap.size ≤ gW by omega) (.slice X2 m2 e2') (.string T2))
            have HX1 := Lib.hid hX1
            have HX2 := Lib.hid hX2
            have E1 : (((0 : Nat) : Int) == 0) = true := rfl
            clear hT1 hT2 hx1 hx2 k2 kW hrx hry hX1 hX2 hal hbl hm1 hm2 HX7 HY7 hb7 hg2
            go_wp2_with fail
            go_roundw
            case rel => exact ⟨i + 1, b, b', X1, X2, e1', e2', by omega, by go_num, by rw [← HT1.out]; exact HXn.out, by rw [← HT2.out]; exact HYn.out, HRx.out, HRy.out, fun b o e => by have := HX1.out b o e; omega, fun b o e => by have := HX2.out b o e; omega, Hbl.out, Hal.out, HBn.out⟩
            case measure => simp [intOf]; omega
          · have E1 : ((er : Int) == 0) = false := by simp; omega
            clear hv2 hb7 hg2
            go_wp2_with fail
            go_roundw
            case rel => exact ⟨i + 1, bl, bl', A2, A3, c2, c3, by omega, by go_num, by rw [← HR1.out]; exact HX7.out, by rw [← HR2.out]; exact HY7.out, HRb.out.below HC7.out, HRb'.out.below HC7.out, HA2.out, HA3.out, Hn2.out, HK.out, HBt.out⟩
            case measure => simp [intOf]; omega
    · obtain rfl : i = m := by omega
      have e1 : decide ((i : Int) < (i : Int)) = false := by simp
      obtain ⟨L, hL⟩ : ∃ L, L = bl.map seen12 := ⟨_, rfl⟩
      have hLl : n1 = L.length := by rw [hL, List.length_map]; exact Hn2.out
      have HSv := Lib.hid (show ∀ W, Below W0.heap.size W0 W → Calls Tryz.prog 13 #[.agg #[.slice A2 n1 c2, .string (rooted bl).rt]] W fun e w' => (∃ X cap, e = .returned (.slice X n1 cap) ∧ Rd w' X (textsV L)) ∧ Below W.heap.size W w' from fun W h => by
        have := vseen_any _ (rooted bl) W (HV.out W h) (by show bl.length ≤ 1000; rw [← Hn2.out]; omega) (fun x hx => by have := (vol_parts HK.out.c1).2.2 x hx; omega)
        rw [show (rooted bl).bl = bl from rfl, ← Hn2.out, ← hL] at this
        exact this)
      have HSw := Lib.hid (show ∀ W, Below W0.heap.size W0 W → Calls Tryz.prog 13 #[.agg #[.slice A3 n1 c3, .string (rooted bl').rt]] W fun e w' => (∃ X cap, e = .returned (.slice X n1 cap) ∧ Rd w' X (textsV L)) ∧ Below W.heap.size W w' from fun W h => by
        have := vseen_any _ (rooted bl') W (HW.out W h) (by show bl'.length ≤ 1000; rw [← HK.out.len, ← Hn2.out]; omega) (fun x hx => by have := (vol_parts HK.out.c2).2.2 x hx; omega)
        rw [show (rooted bl').bl = bl' from rfl, ← HK.out.eq, ← HK.out.len, ← Hn2.out, ← hL] at this
        exact this)
      have HTx := Lib.hid (fun X Y W c c' (h : Rd W X (textsV L)) (h' : Rd W Y (textsV L)) => show Calls Tryz.prog 12 #[.slice X n1 c, .slice Y n1 c'] W fun e w' => e = .returned (.bool true) ∧ Below W.heap.size W w' from by
        have := texts_any L L X Y n1 c n1 c' W h h' hLl hLl (by omega)
        rw [decide_eq_true rfl] at this
        exact this)
      clear hL hLl
      generalize (rooted bl).rt = R1 at HX HSv HV
      generalize (rooted bl').rt = R2 at HY HSw HW
      obtain ⟨x0, x1, _, _⟩ := two_cells HX.out
      obtain ⟨y0, y1, _, _⟩ := two_cells HY.out
      have d5 : ((n1 : Int) == (n1 : Int)) = true := by simp
      go_wp2_with fail
      have HC := Lib.hid ((Below.refl W0.heap.size W0).drew)
      go_region_held3 (fun w' => (w'.cell? ⟨gV, 0, none⟩ = some (.slice A2 n1 c2) ∧ w'.cell? ⟨gV, 1, none⟩ = some (.string R1)) ∧ (w'.cell? ⟨gW, 0, none⟩ = some (.slice A3 n1 c3) ∧ w'.cell? ⟨gW, 1, none⟩ = some (.string R2)))
        (first | with_reducible assumption | with_reducible exact kp4_drew ⟨⟨x0, x1⟩, ⟨y0, y1⟩⟩ | exact kp4_below (by assumption) (by assumption))
        (first
          | ((go_at_call 6; with_reducible refine (HVl.out _).mono ?_); rintro _ w5 ⟨rfl, hb5⟩; replace HC := Lib.hid (HC.out.trans (hb5.mono HC.out.size)))
          | ((go_at_call 13; with_reducible refine (HSv.out _ HC.out).mono ?_); rintro _ w5 ⟨⟨XV, cV, rfl, hrV⟩, hb5⟩; have HO1 := Lib.hid hrV; clear hrV; replace HC := Lib.hid (HC.out.trans (hb5.mono HC.out.size)); try replace HO2 := Lib.hid (HO2.out.below hb5))
          | ((go_at_call 13; with_reducible refine (HSw.out _ HC.out).mono ?_); rintro _ w5 ⟨⟨XW, cW, rfl, hrW⟩, hb5⟩; have HO2 := Lib.hid hrW; clear hrW; replace HC := Lib.hid (HC.out.trans (hb5.mono HC.out.size)); try replace HO1 := Lib.hid (HO1.out.below hb5))
          | ((go_at_call 12; with_reducible refine (HTx.out _ _ _ _ _ HO1.out HO2.out).mono ?_); rintro _ w5 ⟨rfl, hb5⟩; replace HC := Lib.hid (HC.out.trans (hb5.mono HC.out.size))))
      all_goals
        go_wp2_with fail
        go_ret
        exact ⟨rfl, HB.out.trans (HC.out.mono HB.out.size)⟩
end Go.Proofs.YtkldllnlakaehaaGreatDoor
