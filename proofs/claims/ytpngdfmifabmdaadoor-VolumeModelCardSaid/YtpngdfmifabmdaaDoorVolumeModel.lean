/-
  The walk of the law VolumeModel.
-/
import Derived.Test.YtpngdfmifabmdaaDoorVols
import Derived.Test.YtpngdfmifabmdaaDoorWr
import Derived.BigQuiet
namespace Go.Proofs.YtpngdfmifabmdaaDoor
open Go.RowKit
set_option linter.unusedVariables false
set_option linter.unusedSimpArgs false
set_option maxRecDepth 100000
set_option maxHeartbeats 4000000

theorem textsV_append' (l m : List ByteArray) : textsV (l ++ m) = textsV l ++ textsV m := by simp [textsV]
theorem own_set {w : World} {B gA n cap m g i : Nat} {xs : List Value} (h : w.ownsRow B 9 1 (.slice (some ⟨gA, 0, none⟩) n cap) m xs) (hne : gA ≠ g) (u : Value) : (w.setCell ⟨g, i, none⟩ u).ownsRow B 9 1 (.slice (some ⟨gA, 0, none⟩) n cap) m xs := by
  refine ⟨h.1, ?_⟩
  rcases h.2 with ⟨hv, _⟩ | ⟨g', cap', cur, hv, hB, hg, hr⟩
  · cases hv
  · refine .inr ⟨g', cap', cur, hv, hB, (Below.heap_setCell w ⟨g, i, none⟩ u g' ?_).trans hg, hr⟩
    injection hv with hv
    injection hv with hv
    injection hv with e1
    rw [← e1]
    exact hne
theorem vm_bad (n : Int) (key : ByteArray) (hzk : key.size ≤ maxLen) (next : ByteArray) (hzn : next.size ≤ maxLen) (A : Option Addr) (m c : Nat) (ls : List Wri) (hm : m = ls.length) (hml : ls.length ≤ maxLen) (w : World) (hT : Turns w) (hR : Rounds w) (hr : Rd w A (wrsV ls)) (hbad : n < 1 ∨ 8 < n ∨ key.size ≠ 32 ∨ next.size ≠ 32 ∨ 30 < m) :
    Calls Tryd.prog 4 #[.int .i64 n, .string key, .string next, .slice A m c] w fun e w' => e = .returned (.bool true) ∧ Below w.heap.size w w' := by
  have HVl := Lib.hid (fun W h1 h2 => volumes_any W h1 h2)
  have HR := Lib.hid hR
  have HT := Lib.hid hT
  have hmm : m ≤ 9223372036854775807 := by unfold maxLen at hml; omega
  clear hR hT hr hm hml
  by_cases c0 : n < 1
  case pos =>
    have d0 : decide (n < 1) = true := decide_eq_true (by omega)
    clear hbad
    go_enter Tryd.func4, Tryd.ntmps4
    go_wp2_with fail
    refine (HVl.out _ HR.out HT.out).mono ?_
    rintro e w1 ⟨rfl, hb1⟩
    go_wp2_with fail
    go_ret
    exact ⟨rfl, hb1⟩
  have d0 : decide (n < 1) = false := decide_eq_false (by omega)
  by_cases c1 : 8 < n
  case pos =>
    have d1 : decide (n > 8) = true := decide_eq_true (by omega)
    clear hbad
    go_enter Tryd.func4, Tryd.ntmps4
    go_wp2_with fail
    refine (HVl.out _ HR.out HT.out).mono ?_
    rintro e w1 ⟨rfl, hb1⟩
    go_wp2_with fail
    go_ret
    exact ⟨rfl, hb1⟩
  have d1 : decide (n > 8) = false := decide_eq_false (by omega)
  by_cases c2 : key.size ≠ 32
  case pos =>
    have d2 : ((key.size : Int) != 32) = true := by simp; omega
    clear hbad
    go_enter Tryd.func4, Tryd.ntmps4
    go_wp2_with fail
    refine (HVl.out _ HR.out HT.out).mono ?_
    rintro e w1 ⟨rfl, hb1⟩
    go_wp2_with fail
    go_ret
    exact ⟨rfl, hb1⟩
  have d2 : ((key.size : Int) != 32) = false := by simp; omega
  by_cases c3 : next.size ≠ 32
  case pos =>
    have d3 : ((next.size : Int) != 32) = true := by simp; omega
    clear hbad
    go_enter Tryd.func4, Tryd.ntmps4
    go_wp2_with fail
    refine (HVl.out _ HR.out HT.out).mono ?_
    rintro e w1 ⟨rfl, hb1⟩
    go_wp2_with fail
    go_ret
    exact ⟨rfl, hb1⟩
  have d3 : ((next.size : Int) != 32) = false := by simp; omega
  have c4 : 30 < m := by simp only [c0, c1, c2, c3, false_or] at hbad; omega
  have d4 : decide ((m : Int) > 30) = true := decide_eq_true (by omega)
  clear hbad
  go_enter Tryd.func4, Tryd.ntmps4
  go_wp2_with fail
  refine (HVl.out _ HR.out HT.out).mono ?_
  rintro e w1 ⟨rfl, hb1⟩
  go_wp2_with fail
  go_ret
  exact ⟨rfl, hb1⟩

def VmI (key : ByteArray) (n1 gV gW m : Nat) (w : World) (x : Value) (wr : World) : Prop :=
  ∃ (i : Nat) (bl want : List ByteArray) (A2 : Option Addr) (c2 : Nat), i ≤ m ∧ x = .int .i64 (i : Nat) ∧ wr.heap[gV]? = some (.cells #[.slice A2 n1 c2, .string (rooted bl).rt] 24 (0, 0)) ∧ Rd wr A2 (textsV bl) ∧ (∀ b o, A2 = some ⟨b, o, none⟩ → b ≠ gV ∧ b ≠ gW) ∧ n1 = bl.length ∧ Keeps key bl want ∧ wr.ownsRow gW 9 1 (.slice (some ⟨gW, 0, none⟩) n1 n1) n1 (textsV want) ∧ Below w.heap.size w wr
theorem volumeModel_law (n : Int) (key : ByteArray) (hzk : key.size ≤ maxLen) (next : ByteArray) (hzn : next.size ≤ maxLen) (A : Option Addr) (m c : Nat) (ls : List Wri) (hm : m = ls.length) (hml : ls.length ≤ maxLen) (hzs : ∀ o ∈ ls, o.s.size ≤ maxLen) (w : World) (hT : Turns w) (hR : Rounds w) (hr : Rd w A (wrsV ls)) :
    Calls Tryd.prog 4 #[.int .i64 n, .string key, .string next, .slice A m c] w fun e w' => e = .returned (.bool true) ∧ Below w.heap.size w w' := by
  by_cases hbad : n < 1 ∨ 8 < n ∨ key.size ≠ 32 ∨ next.size ≠ 32 ∨ 30 < m
  · exact vm_bad n key hzk next hzn A m c ls hm hml w hT hR hr hbad
  simp only [not_or, Int.not_lt, Decidable.not_not, Nat.not_lt] at hbad
  obtain ⟨b0, b1, b2, b3, b4⟩ := hbad
  obtain ⟨k, rfl⟩ := Int.eq_ofNat_of_zero_le (show 0 ≤ n by omega)
  have d0 : decide ((k : Int) < 1) = false := decide_eq_false (by omega)
  have d1 : decide ((k : Int) > 8) = false := decide_eq_false (by omega)
  have d2 : ((key.size : Int) != 32) = false := by simp; omega
  have d3 : ((next.size : Int) != 32) = false := by simp; omega
  have d4 : decide ((m : Int) > 30) = false := decide_eq_false (by omega)
  have k1 : 1 ≤ k := by omega
  have k8 : k ≤ 8 := by omega
  have HVl := Lib.hid (fun W h1 h2 => volumes_any W h1 h2)
  have HF := Lib.hid (fun W h => format_any k W h)
  have HN := Lib.hid hm
  have HRd := Lib.hid hr
  have HR := Lib.hid hR
  have HT := Lib.hid hT
  have Hzk := Lib.hid hzk
  have Hzn := Lib.hid hzn
  have Hzs := Lib.hid hzs
  have Hk32 := Lib.hid b2
  have Hn32 := Lib.hid b3
  clear hzk hzn hzs hm hml hR hT hr b0 b1 b2 b3
  have al0 := Below.refl w.heap.size w
  cases hc : countB k with
  | false =>
    rw [hc] at HF
    have q1 : ((k : Int) != 1) = true := by
      have : k ≠ 1 := by rintro rfl; exact absurd hc (by decide)
      simp; omega
    have q2 : ((k : Int) != 2) = true := by
      have : k ≠ 2 := by rintro rfl; exact absurd hc (by decide)
      simp; omega
    have q4 : ((k : Int) != 4) = true := by
      have : k ≠ 4 := by rintro rfl; exact absurd hc (by decide)
      simp; omega
    have q8 : ((k : Int) != 8) = true := by
      have : k ≠ 8 := by rintro rfl; exact absurd hc (by decide)
      simp; omega
    clear hc
    go_enter Tryd.func4, Tryd.ntmps4
    go_wp2_with fail
    refine (HF.out _ HR.out).mono ?_
    rintro e w1 ⟨v, rfl, ⟨A1, n1, c1, rfl, -, -⟩, hb1⟩
    have HB := Lib.hid (hb1.alloc hb1.size (.cells #[.slice A1 n1 c1, .string (if false = true then rooted (List.replicate k noT) else vol0).rt] 24))
    clear hb1
    rw [if_neg (by simp)] at HB ⊢
    rw [if_neg (by simp)]
    go_wp2_with fail
    refine (HVl.out _ (HR.out.below HB.out) (HT.out.below HB.out)).mono ?_
    rintro e w2 ⟨rfl, hb2⟩
    go_wp2_with fail
    go_ret
    exact ⟨rfl, HB.out.trans (hb2.mono HB.out.size)⟩
  | true =>
  have Hcnt := Lib.hid hc
  rw [if_pos hc, if_pos hc] at HF
  clear hc
  have e0 : (((0 : Nat) : Int) != 0) = false := rfl
  have e00 : (((0 : Nat) : Int) == 0) = true := rfl
  obtain ⟨iS, hS0, hS1, hS2, hS3⟩ := info_parts string_info
  go_enter Tryd.func4, Tryd.ntmps4
  go_wp2_with fail
  refine (HF.out _ HR.out).mono ?_
  rintro e w1 ⟨v, rfl, ⟨A1, n1, c1, rfl, ⟨hr1, -⟩, hn1⟩, hb1⟩
  have hn1' : n1 = k := by rw [hn1]; simp [rooted]
  subst hn1'
  have al1 := hb1.alloc hb1.size (.cells #[.slice A1 n1 c1, .string (rooted (List.replicate n1 noT)).rt] 24)
  have HB := Lib.hid al1
  have hA1 : ∀ b o, A1 = some ⟨b, o, none⟩ → b < w1.heap.size := fun b o e => by
    obtain ⟨b', o', e', hc⟩ := texts_at hr1 (i := 0) (by rw [← hn1]; omega)
    rw [e] at e'
    injection e' with e'
    injection e' with e1 e2
    subst e1
    exact cell_lt hc
  have HA1 := Lib.hid hA1
  have HX := Lib.hid (heap_alloc_new w1 (.cells #[.slice A1 n1 c1, .string (rooted (List.replicate n1 noT)).rt] 24))
  have HRd1 := Lib.hid (hr1.below ((Below.refl w1.heap.size w1).alloc (Nat.le_refl _) (.cells #[.slice A1 n1 c1, .string (rooted (List.replicate n1 noT)).rt] 24)))
  have hs1 := hb1.size
  clear hb1 al1 hr1 hn1 hA1
  go_wp2_with (refine wpList_make_full _ (by rfl) (.tmp 75) (.tmp 75) 22 (by rfl) (w1.heap.size + 1) 9 iS (.string ⟨#[]⟩) 1 Tryd.underlying22 hS0 hS1 hS2 .i64 .i64 _ _ n1 (by rfl) (by rfl) rfl rfl (by rw [hS3]; omega) (by unfold maxLen; omega) (by simp) ?_)
  intro w2 ho2 hg2
  have hmk : (madeCells #[Value.string ⟨#[]⟩] n1).toList = textsV (List.replicate n1 noT) := by
    rw [toList_madeCells_one]
    simp [textsV, noT]
  rw [hmk] at ho2
  have HO := Lib.hid ho2
  have bg2 := Below.refl (w1.heap.size + 1) (w1.alloc (.cells #[.slice A1 n1 c1, .string (rooted (List.replicate n1 noT)).rt] 24))
  replace bg2 := bg2.grown hg2 (by simp) (fun k e => by cases e)
  replace HB := Lib.hid (HB.out.trans (bg2.mono (by omega)))
  replace HX := Lib.hid (cells_below HX.out (by simpa using bg2))
  replace HRd1 := Lib.hid (HRd1.out.below (by simpa using bg2))
  clear ho2 hg2 hmk bg2
  obtain ⟨gW, hgW⟩ : ∃ gW, gW = w1.heap.size + 1 := ⟨_, rfl⟩
  obtain ⟨gV, hgV⟩ : ∃ gV, gV = w1.heap.size := ⟨_, rfl⟩
  rw [← hgW] at HO ⊢
  rw [← hgV] at HX HA1 hs1 hgW ⊢
  have hWV : gV < gW := by omega
  clear hgV hgW
  go_wp2_with fail
  go_loopw [12] (fun x wr => VmI key n1 gV gW m w x wr) (fun x _ => m - (intOf x).toNat)
  case atStart => exact ⟨0, _, _, A1, c1, by omega, rfl, HX.out, HRd1.out, fun b o e => by have := HA1.out b o e; omega, by simp [rooted], keeps_new key Hcnt.out, HO.out, HB.out⟩
  case round =>
    clear HX HRd1 HA1 HO HB
    obtain ⟨i, bl, want, A2, c2, hi, rfl, hX, hRd, hA2, hn2, hK, hO, hB⟩ := hrel
    have HX := Lib.hid hX
    have HRb := Lib.hid hRd
    have HA2 := Lib.hid hA2
    have Hn2 := Lib.hid hn2
    have HK := Lib.hid hK
    have HO := Lib.hid hO
    have HB := Lib.hid hB
    have Hwl := Lib.hid (show n1 = want.length by rw [hK.len, hn2])
    have HV := Lib.hid (show ∀ W, Below wr.heap.size wr W → VV W (.agg #[.slice A2 n1 c2, .string (rooted bl).rt]) (rooted bl) from fun W h => ⟨A2, n1, c2, rfl, hRd.below h, hn2⟩)
    have hgVl := cell_lt_of hX
    obtain ⟨gA', eA', -, hgWl, -, -, -⟩ := own_text_set hO (by omega : 0 < n1) (by rw [hK.len, hn2])
    injection eA' with eA'
    injection eA' with eA'
    subst eA'
    clear hX hRd hA2 hn2 hK hO hB
    by_cases hlt : i < m
    · have e1 : decide ((i : Int) < (m : Int)) = true := by simp; omega
      have him : (i : Int) < (m : Int) := by omega
      have hil : i < ls.length := by rw [← HN.out]; exact hlt
      obtain ⟨bA, oA, hbA, s0, s1⟩ := wr_cells (HRd.out.below HB.out) hil
      subst hbA
      have zs := Hzs.out _ (List.getElem_mem hil)
      generalize ls[i] = q at s0 s1 zs
      obtain ⟨qi, qs⟩ := q
      simp only at s0 s1 zs
      have al := (Below.refl wr.heap.size wr).alloc (Nat.le_refl _) (.cells #[.int .i64 qi, .string qs] 37)
      have HQ := Lib.hid (heap_alloc_new wr (.cells #[.int .i64 qi, .string qs] 37))
      have HC := Lib.hid al
      have HNo := Lib.hid (fun W => bytes_any i W (by omega))
      clear al
      go_wp2_with fail
      refine (HNo.out _).mono ?_
      rintro e w3 ⟨⟨nn, rfl, hnn⟩, hb3⟩
      have HQ3 := Lib.hid (cells_below HQ.out hb3)
      have HC3 := Lib.hid (HC.out.trans (hb3.mono HC.out.size))
      have HX3 := Lib.hid (cells_below HX.out HC3.out)
      have HWr := Lib.hid (fun v W h h1 h2 => write_any v (rooted bl) key nn qi qs W h Hzk.out (by rw [hnn]; decide) zs h1 h2)
      have Hnn := Lib.hid hnn
      have x0 := rf_at HX3.out 0 _ rfl
      have x1 := rf_at HX3.out 1 _ rfl
      have o0 := rf_at HQ3.out 0 _ rfl
      have o1 := rf_at HQ3.out 1 _ rfl
      clear hb3 HQ HC hnn s0 s1
      go_wp2_with fail
      refine (HWr.out _ _ (HV.out _ HC3.out) (HR.out.below (HB.out.trans (HC3.out.mono HB.out.size))) (HT.out.below (HB.out.trans (HC3.out.mono HB.out.size)))).mono ?_
      rintro e w4 ⟨v4, rfl, ⟨A4, n4, c4, rfl, ⟨hr4, hf4⟩, hn4⟩, hb4⟩
      have al4 := (Below.refl w4.heap.size w4).alloc (Nat.le_refl _) (.cells #[.slice A4 n4 c4, .string (writeV (rooted bl) key nn qi qs).rt] 24)
      have HC4 := Lib.hid ((HC3.out.trans (hb4.mono HC3.out.size)).trans (al4.mono (by have h1 := HC3.out.size; have h2 := hb4.size; omega)))
      have HQ4 := Lib.hid (cells_below (cells_below HQ3.out hb4) al4)
      have hs4 : wr.heap.size ≤ w4.heap.size := by have h1 := HC3.out.size; have h2 := hb4.size; omega
      have hs3 : wr.heap.size ≤ w3.heap.size := HC3.out.size
      have HY := Lib.hid (heap_alloc_new w4 (.cells #[.slice A4 n4 c4, .string (writeV (rooted bl) key nn qi qs).rt] 24))
      have Hr4 := Lib.hid (hr4.below al4)
      have Hf4 := Lib.hid hf4
      have Hn4 := Lib.hid hn4
      have HB4 := Lib.hid (HB.out.trans (HC4.out.mono HB.out.size))
      have o0 := rf_at HQ4.out 0 _ rfl
      have o1 := rf_at HQ4.out 1 _ rfl
      clear hb4 al4 hr4 hf4 hn4 x0 x1 HQ3 HC3 HWr
      by_cases hbad : qi < 0 ∨ (n1 : Int) ≤ qi ∨ 64 < qs.size
      · have hwb : writeE (rooted bl) key nn qi qs ≠ 0 := write_bad (by rw [← Hn2.out]; exact hbad)
        generalize writeE (rooted bl) key nn qi qs = we at hwb ⊢
        have d5 : ((we : Int) == 0) = false := by simp; omega
        have hX' := cells_below HX.out HC4.out
        have hRd' := HRb.out.below HC4.out
        have hO' := own_keep HO.out HC4.out
        have Hrel := Lib.hid (show ∀ x, x = .int .i64 ((i + 1 : Nat) : Int) → VmI key n1 gV gW m w x _ from fun x hx => ⟨i + 1, bl, want, A2, c2, by omega, hx, hX', hRd', HA2.out, Hn2.out, HK.out, hO', HB4.out⟩)
        clear hwb hX' hRd' hO'
        by_cases c0 : qi < 0
        · have f0 : decide (qi < 0) = true := decide_eq_true c0
          go_wp2_with fail
          go_roundw
          case rel => exact Hrel.out _ (by go_num)
          case measure => simp [intOf]; omega
        have f0 : decide (qi < 0) = false := decide_eq_false c0
        by_cases c1 : (n1 : Int) ≤ qi
        · have f1 : decide (qi ≥ (n1 : Int)) = true := decide_eq_true c1
          go_wp2_with fail
          go_roundw
          case rel => exact Hrel.out _ (by go_num)
          case measure => simp [intOf]; omega
        have f1 : decide (qi ≥ (n1 : Int)) = false := decide_eq_false c1
        have f2 : decide ((qs.size : Int) > 64) = true := decide_eq_true (by omega)
        go_wp2_with fail
        go_roundw
        case rel => exact Hrel.out _ (by go_num)
        case measure => simp [intOf]; omega
      · simp only [not_or, Int.not_lt, Int.not_le, Nat.not_lt] at hbad
        obtain ⟨c0, c1, c2'⟩ := hbad
        obtain ⟨j, rfl⟩ := Int.eq_ofNat_of_zero_le c0
        have hj : j < n1 := by omega
        obtain ⟨kw1, kw2, kw3⟩ := keeps_write (nonce := nn) (s := qs) HK.out (i := j) (by rw [← Hn2.out]; exact hj) c2' Hk32.out Hnn.out
        rw [kw1]
        rw [kw2] at HY HC4 HQ4 Hr4 Hn4 HB4 o0 o1 ⊢
        have HKw := Lib.hid kw3
        generalize bl.set j (hideS key nn (j : Int) qs) = bl4 at HY HC4 HQ4 Hr4 Hn4 HB4 HKw o0 o1 ⊢
        clear kw1 kw2 kw3
        have f0 : decide ((j : Int) < 0) = false := decide_eq_false (by omega)
        have f1 : decide ((j : Int) ≥ (n1 : Int)) = false := decide_eq_false (by omega)
        have f2 : decide ((qs.size : Int) > 64) = false := decide_eq_false (by omega)
        have hn4' : n4 = n1 := by
          have h1 := Hn4.out
          have h2 := HKw.out.len
          rw [List.length_set, ← Hwl.out] at h2
          rw [h1]
          exact h2.symm
        subst hn4'
        obtain ⟨gA, eA, hA0, hA1, ⟨u, hu⟩, hfr, hset⟩ := own_text_set (own_keep HO.out HC4.out) hj Hwl.out
        injection eA with eA
        injection eA with eA
        subst eA
        have Hset := Lib.hid (hset qs)
        have hX' := (Below.heap_setCell _ ⟨gW, j, none⟩ (.string qs) gV (by dsimp only; omega)).trans (cells_below HX.out HC4.out)
        have hY' := (Below.heap_setCell _ ⟨gW, j, none⟩ (.string qs) w4.heap.size (by dsimp only; omega)).trans HY.out
        have HX' := Lib.hid hX'
        have x0 := rf_at hX' 0 _ rfl
        have x1 := rf_at hX' 1 _ rfl
        have fx0 := rf_fr hX' 0
        have fx1 := rf_fr hX' 1
        have y0 := rf_at hY' 0 _ rfl
        have y1 := rf_at hY' 1 _ rfl
        have hf4 := Hf4.out
        have hge : w.heap.size ≤ w3.heap.size := by omega
        clear hX' hY' hset hA0 hA1
        go_wp2_with fail
        go_roundw
        case rel =>
          have hne : ∀ b o, A4 = some ⟨b, o, none⟩ → gV ≠ b ∧ gW ≠ b := fun b o e => by have := hf4 b o e; omega
          exact ⟨i + 1, bl4, want.set j qs, A4, c4, by omega, by go_num, vol_set HX'.out _ _, rd_set (rd_set (rd_set Hr4.out (fun b o e => (hne b o e).2) _) (fun b o e => (hne b o e).1) _) (fun b o e => (hne b o e).1) _, fun b o e => ⟨(hne b o e).1.symm, (hne b o e).2.symm⟩, Hn4.out, HKw.out, own_set (own_set Hset.out (by omega) _) (by omega) _, ((HB4.out.setCell (p := ⟨gW, j, none⟩) (by dsimp only; omega) _).setCell (p := ⟨gV, 0, none⟩) hs1 _).setCell (p := ⟨gV, 1, none⟩) hs1 _⟩
        case measure => simp [intOf]; omega
    · obtain rfl : i = m := by omega
      have e1 : decide ((i : Int) < (i : Int)) = false := by simp
      rename World => W0
      go_wp2_with fail
      go_loopw [18, 19] (fun u x wq => ∃ (p : Nat) (X : Option Addr) (cap : Nat) (ns : List ByteArray), p ≤ n1 ∧ x = .int .i64 (p : Nat) ∧ u = .slice X p cap ∧ ns.length = p ∧ (∀ s ∈ ns, s.size = 12) ∧ wq.ownsRow W0.heap.size 9 1 (.slice X p cap) p (textsV ns) ∧ Below W0.heap.size W0 wq) (fun _ x _ => n1 - (intOf x).toNat)
      case atStart => exact ⟨0, none, 0, [], by omega, rfl, rfl, rfl, by simp, ⟨rfl, .inl ⟨rfl, rfl⟩⟩, Below.refl _ _⟩
      case round =>
        obtain ⟨p, X, cap, ns, hp, rfl, rfl, hnl, hn12, hNO, hC⟩ := hrel
        have HC := Lib.hid hC
        have HNO := Lib.hid hNO
        have Hn12 := Lib.hid hn12
        have Hnl := Lib.hid hnl
        clear hC hNO hn12 hnl
        by_cases hlt2 : p < n1
        · have f1 : decide ((p : Int) < (n1 : Int)) = true := by simp; omega
          have HNo := Lib.hid (fun W => bytes_any (1000 + p) W (by omega))
          go_wp2_with fail
          refine (HNo.out _).mono ?_
          rintro e w5 ⟨⟨nn, rfl, hnn⟩, hb5⟩
          have Hnn := Lib.hid hnn
          have HC5 := Lib.hid (Below.chain HC.out hb5)
          have HO5 := Lib.hid (own_keep HNO.out hb5)
          clear hb5 hnn
          go_wp2_with (refine wpList_append_new (by rfl) (.tmp 140) (.tmp 142) 22 (by rfl) W0.heap.size 9 (.string ⟨#[]⟩) 1 16 Tryd.underlying22 string_info rfl (by omega) w5 _ _ _ _ _ (by rfl) HO5.out _ 1 1 (by rfl) (by rfl) (by rfl) (by rfl) (by omega) (by omega) (by omega) (by exact HC5.out.size) ?_)
          intro g6 cap6 w6 ho6 hb6 _ _ _
          have HO6 := Lib.hid ho6
          have HC6 := Lib.hid (HC5.out.trans hb6)
          clear ho6 hb6
          go_wp2_with fail
          go_roundw
          case rel => exact ⟨p + 1, some ⟨g6, 0, none⟩, cap6, ns ++ [nn], by omega, by go_num, rfl, by rw [List.length_append, Hnl.out]; rfl, fun s hs => by
            rcases List.mem_append.1 hs with hs | hs
            · exact Hn12.out s hs
            · rw [List.mem_singleton.1 hs]; exact Hnn.out, by rw [textsV_append']; exact HO6.out, HC6.out⟩
          case measure => simp [intOf]; omega
        · obtain rfl : p = n1 := by omega
          have f1 : decide ((p : Int) < (p : Int)) = false := by simp
          have HX2 := Lib.hid (cells_below HX.out HC.out)
          have x0 := rf_at HX2.out 0 _ rfl
          have x1 := rf_at HX2.out 1 _ rfl
          have HB2 := Lib.hid (HB.out.trans (HC.out.mono HB.out.size))
          have HRk := Lib.hid (fun v W h1 h2 h3 h4 => rekey_any v (rooted bl) key next X p cap ns W h1 h2 Hnl.out.symm (by omega) Hzk.out Hzn.out (fun s hs => by rw [Hn12.out s hs]; decide) h3 h4)
          have hg12 : ∀ i, i < bl.length → (ns.getD i noT).size = 12 := fun i hi => by
            have hi2 : i < ns.length := by rw [Hnl.out, Hn2.out]; exact hi
            rw [List.getD_eq_getElem?_getD, List.getElem?_eq_getElem hi2]
            exact Hn12.out _ (List.getElem_mem hi2)
          obtain ⟨kr1, l, kr2, kr3, kr4⟩ := keeps_rekey HK.out Hn32.out (by rw [Hnl.out, Hn2.out]) hg12
          rw [kr1, kr2] at HRk
          have HKl := Lib.hid kr4
          have Hll := Lib.hid kr3
          clear kr1 kr2 kr3 kr4 hg12
          go_wp2_with fail
          refine (HRk.out _ _ (HV.out _ HC.out) (own_rd HNO.out) (HR.out.below HB2.out) (HT.out.below HB2.out)).mono ?_
          rintro e w7 ⟨v7, rfl, ⟨A7, n7, c7, rfl, ⟨hr7, -⟩, hn7⟩, hb7⟩
          have al7 := (Below.refl w7.heap.size w7).alloc (Nat.le_refl _) (.cells #[.slice A7 n7 c7, .string (rooted l).rt] 24)
          have HY := Lib.hid (heap_alloc_new w7 (.cells #[.slice A7 n7 c7, .string (rooted l).rt] 24))
          have HC7 := Lib.hid ((Below.chain HC.out hb7).trans (al7.mono (Below.chain HC.out hb7).size))
          have HV7 := Lib.hid (show ∀ W, Below (w7.alloc (.cells #[.slice A7 n7 c7, .string (rooted l).rt] 24)).heap.size (w7.alloc (.cells #[.slice A7 n7 c7, .string (rooted l).rt] 24)) W → VV W (.agg #[.slice A7 n7 c7, .string (rooted l).rt]) (rooted l) from fun W h => ⟨A7, n7, c7, rfl, (hr7.below al7).below h, hn7⟩)
          clear x0 x1 hr7 hn7 hb7 al7 HX2 HB2
          go_wp2_with fail
          go_loopw [24] (fun x wq => ∃ p' : Nat, p' ≤ p ∧ x = .int .i64 (p' : Nat) ∧ Below (w7.alloc (.cells #[.slice A7 n7 c7, .string (rooted l).rt] 24)).heap.size (w7.alloc (.cells #[.slice A7 n7 c7, .string (rooted l).rt] 24)) wq) (fun x _ => p - (intOf x).toNat)
          case atStart => exact ⟨0, by omega, rfl, Below.refl _ _⟩
          case round =>
            obtain ⟨j, hj, rfl, hD⟩ := hrel
            have HD := Lib.hid hD
            have HCq := Lib.hid (Below.chain HC7.out hD)
            have HBq := Lib.hid (HB.out.trans (HCq.out.mono HB.out.size))
            have HXq := Lib.hid (cells_below HX.out HCq.out)
            have HYq := Lib.hid (cells_below HY.out hD)
            have x0 := rf_at HXq.out 0 _ rfl
            have x1 := rf_at HXq.out 1 _ rfl
            clear hD
            by_cases hlt3 : j < p
            · have g1 : decide ((j : Int) < (p : Int)) = true := by simp; omega
              have HRa := Lib.hid (fun v W h1 h2 h3 => read_any v (rooted bl) key (j : Int) W h1 Hzk.out h2 h3)
              have HRb2 := Lib.hid (fun v W h1 h2 h3 => read_any v (rooted l) next (j : Int) W h1 Hzn.out h2 h3)
              obtain ⟨ra1, ra2⟩ := keeps_read HK.out (i := j) (by rw [← Hn2.out]; exact hlt3)
              obtain ⟨rb1, rb2⟩ := keeps_read HKl.out (i := j) (by rw [Hll.out, ← Hn2.out]; exact hlt3)
              rw [ra1, ra2] at HRa
              rw [rb1, rb2] at HRb2
              have hjw : j < want.length := by rw [← Hwl.out]; exact hlt3
              have hgd : want.getD j noT = want[j] := by rw [List.getD_eq_getElem?_getD, List.getElem?_eq_getElem hjw]; rfl
              rw [hgd] at HRa HRb2
              have Htx := Lib.hid (show ∀ W, Below W0.heap.size W0 W → W.cell? ⟨gW, 0 + j, none⟩ = some (.string want[j]) from fun W h => by
                obtain ⟨b', o', e', hc⟩ := texts_at (own_rd (own_keep HO.out h)) hjw
                injection e' with e'
                injection e' with e1 e2
                subst e1 e2
                exact hc)
              generalize want[j] = tx at HRa HRb2 Htx
              have d9 : (tx.toList != tx.toList) = false := by simp
              have hjn : (j : Int) < (p : Int) := by omega
              clear ra1 ra2 rb1 rb2 hjw hgd
              go_wp2_with fail
              refine (HRa.out _ _ (HV.out _ HCq.out) (HR.out.below HBq.out) (HT.out.below HBq.out)).mono ?_
              rintro e w8 ⟨rfl, hb8⟩
              have HD8 := Lib.hid (Below.chain HD.out hb8)
              have HC8 := Lib.hid (Below.chain HCq.out hb8)
              have HB8 := Lib.hid (HBq.out.trans (hb8.mono HBq.out.size))
              have HY8 := Lib.hid (cells_below HYq.out hb8)
              have y0 := rf_at HY8.out 0 _ rfl
              have y1 := rf_at HY8.out 1 _ rfl
              clear hb8 x0 x1
              go_wp2_with fail
              refine (HRb2.out _ _ (HV7.out _ HD8.out) (HR.out.below HB8.out) (HT.out.below HB8.out)).mono ?_
              rintro e w9 ⟨rfl, hb9⟩
              have HD9 := Lib.hid (Below.chain HD8.out hb9)
              have ht9 := Htx.out _ (Below.chain HC8.out hb9)
              clear hb9 y0 y1
              rw [Nat.zero_add] at ht9
              go_wp2_with fail
              go_roundw
              case rel => exact ⟨j + 1, by omega, by go_num, HD9.out⟩
              case measure => simp [intOf]; omega
            · obtain rfl : j = p := by omega
              have g1 : decide ((j : Int) < (j : Int)) = false := by simp
              go_wp2_with fail
              refine (HVl.out _ (HR.out.below HBq.out) (HT.out.below HBq.out)).mono ?_
              rintro e w8 ⟨rfl, hb8⟩
              go_wp2_with fail
              go_ret
              exact ⟨rfl, HBq.out.trans (hb8.mono HBq.out.size)⟩
end Go.Proofs.YtpngdfmifabmdaaDoor
