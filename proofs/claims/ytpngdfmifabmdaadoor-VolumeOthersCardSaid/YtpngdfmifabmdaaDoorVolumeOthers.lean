/-
  The walk of the law VolumeOthers.
-/
import Derived.Test.YtpngdfmifabmdaaDoorVols
import Derived.BigQuiet
namespace Go.Proofs.YtpngdfmifabmdaaDoor
open Go.RowKit
set_option linter.unusedVariables false
set_option linter.unusedSimpArgs false
set_option maxRecDepth 100000
set_option maxHeartbeats 4000000

theorem volumeOthers_law (v : Value) (V : Vol) (hvl : V.bl.length ≤ maxLen) (key : ByteArray) (hzk : key.size ≤ maxLen) (nonce : ByteArray) (hzn : nonce.size ≤ maxLen) (i : Int) (s : ByteArray) (hzs : s.size ≤ maxLen) (w : World) (hT : Turns w) (hR : Rounds w) (hv : VV w v V) :
    Calls Tryd.prog 3 #[v, .string key, .string nonce, .int .i64 i, .string s] w fun e w' => e = .returned (.bool true) ∧ Below w.heap.size w w' := by
  have HV := Lib.hid hv
  have HWr := Lib.hid (fun v W h h1 h2 => write_any v V key nonce i s W h hzk hzn hzs h1 h2)
  have HBg := Lib.hid (fun v W h => big16_any v V W h hvl)
  have HVl := Lib.hid (fun W h1 h2 => volumes_any W h1 h2)
  have HR := Lib.hid hR
  have HT := Lib.hid hT
  obtain ⟨A, n, c, rfl, hr, hn⟩ := hv
  have HN := Lib.hid hn
  have HRd := Lib.hid hr
  have HX := Lib.hid (heap_alloc_new w (.cells #[.slice A n c, .string V.rt] 24))
  have HB := Lib.hid ((Below.refl w.heap.size w).alloc (Nat.le_refl _) (.cells #[.slice A n c, .string V.rt] 24))
  have Hkm := Lib.hid hzk
  have hnm : n ≤ 9223372036854775807 := by unfold maxLen at hvl; omega
  clear hR hT hr hn hvl hzk hzn hzs
  have x0 := rf_at HX.out 0 _ rfl
  have x1 := rf_at HX.out 1 _ rfl
  go_enter Tryd.func3, Tryd.ntmps3
  go_wp2_with fail
  refine (HBg.out _ _ (HV.out.below HB.out)).mono ?_
  rintro e w1 ⟨b1, rfl, hb1⟩
  replace HX := Lib.hid (cells_below HX.out hb1)
  replace HB := Lib.hid (HB.out.trans (hb1.mono HB.out.size))
  clear hb1 x0 x1
  cases b1 with
  | true =>
    go_wp2_with fail
    go_ret
    exact ⟨rfl, HB.out⟩
  | false =>
  have al1 := (Below.refl w1.heap.size w1).alloc (Nat.le_refl _) (.cells #[.string key, .string nonce, .string s] 9)
  have HFr := Lib.hid (far_any (some ⟨w1.heap.size, 0, none⟩) 3 3 [key, nonce, s] (w1.alloc (.cells #[.string key, .string nonce, .string s] 9)) (by exact rd_new' _ _ _ _ (by simp [textsV])) rfl (by omega))
  replace HX := Lib.hid (cells_below HX.out al1)
  replace HB := Lib.hid (HB.out.trans (al1.mono HB.out.size))
  clear al1
  go_wp2_with fail
  refine (HFr.out).mono ?_
  rintro e w2 ⟨b2, rfl, hb2⟩
  replace HX := Lib.hid (cells_below HX.out hb2)
  replace HB := Lib.hid (HB.out.trans (hb2.mono HB.out.size))
  clear hb2 HFr
  cases b2 with
  | true =>
    go_wp2_with fail
    go_ret
    exact ⟨rfl, HB.out⟩
  | false =>
  have x0 := rf_at HX.out 0 _ rfl
  have x1 := rf_at HX.out 1 _ rfl
  go_wp2_with fail
  refine (HWr.out _ _ (HV.out.below HB.out) (HR.out.below HB.out) (HT.out.below HB.out)).mono ?_
  rintro e w3 ⟨v2, rfl, ⟨A2, n2, c2, rfl, hr2, hn2⟩, hb3⟩
  replace HX := Lib.hid (cells_below HX.out hb3)
  replace HB := Lib.hid (HB.out.trans (hb3.mono HB.out.size))
  clear hb3 x0 x1
  obtain ⟨we, hwe⟩ : ∃ we, we = writeE V key nonce i s := ⟨_, rfl⟩
  rw [← hwe]
  by_cases h0 : we = 0
  case neg =>
    have hS : writeV V key nonce i s = vol0 := by unfold writeV; rw [if_neg (by rw [← hwe]; exact h0)]
    rw [hS] at hn2 ⊢
    obtain rfl : n2 = 0 := hn2
    have d1 : ((we : Int) != 0) = true := by simp; omega
    have hY := heap_alloc_new w3 (.cells #[.slice A2 0 c2, .string ⟨#[]⟩] 24)
    have HY := Lib.hid hY
    have al3 := (Below.refl w3.heap.size w3).alloc (Nat.le_refl _) (.cells #[.slice A2 0 c2, .string ⟨#[]⟩] 24)
    have HB3 := Lib.hid (HB.out.trans (al3.mono HB.out.size))
    clear hS h0 hwe hr2 hY al3 HX
    rw [show vol0.rt = ⟨#[]⟩ from rfl]
    go_wp2_with fail
    refine (HVl.out _ (HR.out.below HB3.out) (HT.out.below HB3.out)).mono ?_
    rintro e w4 ⟨rfl, hb4⟩
    have y0 := rf_at (cells_below HY.out hb4) 0 _ rfl
    have y1 := rf_at (cells_below HY.out hb4) 1 _ rfl
    have HB4 := Lib.hid (HB3.out.trans (hb4.mono HB3.out.size))
    clear hb4
    go_wp2_with fail
    go_ret
    exact ⟨rfl, HB4.out⟩
  subst h0
  obtain ⟨c1, c2', hh, hS, hck⟩ := write_is hwe.symm
  have hi := c2'
  unfold hasV at hi
  simp only [Bool.and_eq_true, decide_eq_true_eq] at hi
  obtain ⟨k, rfl⟩ := Int.eq_ofNat_of_zero_le hi.1
  have hkl : k < V.bl.length := by omega
  have hkn : (k : Int) < (n : Int) := by rw [HN.out]; exact hi.2
  obtain ⟨e1, e2, e3, e4⟩ := hide_show hh
  rw [Int.toNat_natCast] at hS
  rw [hS] at hr2 hn2 hck ⊢
  obtain ⟨st, hst⟩ : ∃ st, st = hideS key nonce (k : Int) s := ⟨_, rfl⟩
  rw [← hst] at hr2 hn2 hck e1 e2 e3 ⊢
  have hn64 : n ≤ 64 := by rw [HN.out]; exact (count_le (vol_parts c1).1).2
  obtain rfl : n2 = n := by rw [hn2, HN.out]; show (V.bl.set k st).length = _; rw [List.length_set]
  have hro := read_ok (key := key) hck (i := k) (show k < (V.bl.set k st).length by rw [List.length_set]; exact hkl)
  rw [List.getElem_set_self] at hro
  rw [e1, e2] at hro
  obtain ⟨R2, hR2⟩ : ∃ R2, R2 = (rooted (V.bl.set k st)).rt := ⟨_, rfl⟩
  rw [← hR2]
  have HV3 := Lib.hid (show VV w3 (.agg #[.slice A2 n2 c2, .string R2]) (rooted (V.bl.set k st)) from ⟨A2, n2, c2, by rw [hR2], hr2, hn2⟩)
  have HRe := Lib.hid (fun v W (h : VV W v (rooted (V.bl.set k st))) h1 h2 => show Calls Tryd.prog 9 #[v, .string key, .int .i64 (k : Int)] W fun e w' => e = .returned (.tuple #[.string s, .int .i64 0]) ∧ Below W.heap.size W w' from by
    have h3 := read_any v (rooted (V.bl.set k st)) key (k : Int) W h Hkm.out h1 h2
    rw [hro.1, hro.2] at h3
    exact h3)
  have HCk := Lib.hid (fun v W (h : VV W v (rooted (V.bl.set k st))) => show Calls Tryd.prog 10 #[v] W fun e w' => e = .returned (.bool true) ∧ Below W.heap.size W w' from by
    have h3 := vcheck_any v (rooted (V.bl.set k st)) W h
    rw [hck] at h3
    exact h3)
  have HR2 := Lib.hid (show Rd w3 A2 (textsV (V.bl.set k st)) from hr2)
  have Hot := Lib.hid (show ∀ j (hj : j < V.bl.length), j ≠ k → (V.bl.set k st)[j]? = some V.bl[j] from fun j hj hne => by rw [List.getElem?_set_ne (Ne.symm hne), List.getElem?_eq_getElem hj])
  have Hat := Lib.hid (show (V.bl.set k st)[k]? = some st from List.getElem?_set_self hkl)
  have Hlen := Lib.hid (show (V.bl.set k st).length = V.bl.length from List.length_set)
  have hz1 : st.size = 28 + s.size := e3
  have hz2 : s.size ≤ 64 := e4
  have Hkl := Lib.hid hkl
  generalize V.bl.set k st = nb at HV3 HRe HCk HR2 Hot Hat Hlen
  have al3 := (Below.refl w3.heap.size w3).alloc (Nat.le_refl _) (.cells #[.slice A2 n2 c2, .string R2] 24)
  have HY := Lib.hid (heap_alloc_new w3 (.cells #[.slice A2 n2 c2, .string R2] 24))
  have H3 := Lib.hid al3
  have HB3 := Lib.hid (HB.out.trans (al3.mono HB.out.size))
  replace HX := Lib.hid (cells_below HX.out al3)
  have d1 : (((0 : Nat) : Int) != 0) = false := rfl
  have d2 : ((n2 : Int) != (n2 : Int)) = false := by simp
  have x0 := rf_at HX.out 0 _ rfl
  have y0 := rf_at HY.out 0 _ rfl
  clear c1 c2' hh hS hck hi hkl e1 e2 e3 e4 hro hr2 hn2 hst hwe al3 HB hR2 HWr HBg
  go_wp2_with fail
  clear x0 y0
  go_loopw [13] (fun x wr => ∃ j : Nat, j ≤ n2 ∧ x = .int .i64 (j : Nat) ∧ wr.heap[w.heap.size]? = some (.cells #[.slice A n2 c, .string V.rt] 24 (0, 0)) ∧ wr.heap[w3.heap.size]? = some (.cells #[.slice A2 n2 c2, .string R2] 24 (0, 0)) ∧ Below w.heap.size w wr ∧ Below w3.heap.size w3 wr) (fun x _ => n2 - (intOf x).toNat)
  case atStart => exact ⟨0, by omega, rfl, HX.out, HY.out, HB3.out, H3.out⟩
  case round =>
    clear HX HY HB3 H3
    obtain ⟨j, hj, rfl, hX, hY, hB, h3⟩ := hrel
    have HX := Lib.hid hX
    have HY := Lib.hid hY
    have HB := Lib.hid hB
    have H3 := Lib.hid h3
    have x0 := rf_at hX 0 _ rfl
    clear hX hY hB h3
    by_cases hlt : j < n2
    · have e1 : decide ((j : Int) < (n2 : Int)) = true := by simp; omega
      have hjn : (j : Int) < (n2 : Int) := by omega
      by_cases hjk : j = k
      · have d3 : ((j : Int) != (k : Int)) = false := by simp; omega
        clear hjk
        go_wp2_with fail
        go_quiet (fail)
        have HQ := Lib.hid (below_drewN HB.out nq)
        have HQ3 := Lib.hid (below_drewN H3.out nq)
        go_wp2_with fail
        go_roundw
        case rel => exact ⟨j + 1, by omega, by go_num, HX.out, HY.out, HQ.out, HQ3.out⟩
        case measure => simp [intOf]; omega
      · have d3 : ((j : Int) != (k : Int)) = true := by simp; omega
        have hjl : j < V.bl.length := by rw [← HN.out]; exact hlt
        have hjl2 : j < nb.length := by rw [Hlen.out]; exact hjl
        obtain ⟨bA, oA, hbA, q0⟩ := texts_at (HRd.out.below HB.out) hjl
        obtain ⟨bB, oB, hbB, q1⟩ := texts_at (HR2.out.below H3.out) hjl2
        have hq := Hot.out j hjl hjk
        rw [List.getElem?_eq_getElem hjl2] at hq
        rw [Option.some.inj hq] at q1
        clear hq
        subst hbA hbB
        generalize V.bl[j] = tx at q0 q1
        have d4 : (tx.toList != tx.toList) = false := by simp
        have y0 := rf_at HY.out 0 _ rfl
        clear hjk hjl hjl2
        go_wp2_with fail
        go_quiet (fail)
        have HQ := Lib.hid (below_drewN HB.out nq)
        have HQ3 := Lib.hid (below_drewN H3.out nq)
        go_wp2_with fail
        go_roundw
        case rel => exact ⟨j + 1, by omega, by go_num, HX.out, HY.out, HQ.out, HQ3.out⟩
        case measure => simp [intOf]; omega
    · obtain rfl : j = n2 := by omega
      have e1 : decide ((j : Int) < (j : Int)) = false := by simp
      have y0 := rf_at HY.out 0 _ rfl
      have y1 := rf_at HY.out 1 _ rfl
      go_wp2_with fail
      refine (HRe.out _ _ (HV3.out.below H3.out) (HR.out.below HB.out) (HT.out.below HB.out)).mono ?_
      rintro e w5 ⟨rfl, hb5⟩
      have HY5 := Lib.hid (cells_below HY.out hb5)
      have HB5 := Lib.hid (HB.out.trans (hb5.mono HB.out.size))
      have H35 := Lib.hid (H3.out.trans (hb5.mono H3.out.size))
      clear hb5 x0 y0 y1
      go_wp2_with fail
      refine (HVl.out _ (HR.out.below HB5.out) (HT.out.below HB5.out)).mono ?_
      rintro e w6 ⟨rfl, hb6⟩
      have HY6 := Lib.hid (cells_below HY5.out hb6)
      have HB6 := Lib.hid (HB5.out.trans (hb6.mono HB5.out.size))
      have H36 := Lib.hid (H35.out.trans (hb6.mono H35.out.size))
      clear hb6
      have y0 := rf_at HY6.out 0 _ rfl
      have y1 := rf_at HY6.out 1 _ rfl
      go_wp2_with fail
      refine (HCk.out _ _ (HV3.out.below H36.out)).mono ?_
      rintro e w7 ⟨rfl, hb7⟩
      have HY7 := Lib.hid (cells_below HY6.out hb7)
      have HB7 := Lib.hid (HB6.out.trans (hb7.mono HB6.out.size))
      have H37 := Lib.hid (H36.out.trans (hb7.mono H36.out.size))
      clear hb7 y0 y1
      have y0 := rf_at HY7.out 0 _ rfl
      have hknb : k < nb.length := by rw [Hlen.out]; exact Hkl.out
      obtain ⟨bB, oB, hbB, q1⟩ := texts_at (HR2.out.below H37.out) hknb
      have hq := Hat.out
      rw [List.getElem?_eq_getElem hknb] at hq
      rw [Option.some.inj hq] at q1
      clear hq hknb
      subst hbB
      have d5 : (s.toList == s.toList) = true := beq_self_eq_true _
      have d6 : IntKind.i64.wrap (28 + (s.size : Int)) = 28 + (s.size : Int) := IntWalk.i64_in _ (by omega)
      have d7 : ((st.size : Int) == 28 + (s.size : Int)) = true := by simp; omega
      have hk0 : (0 : Int) ≤ (k : Int) := by omega
      go_wp2_with fail
      go_ret
      exact ⟨rfl, HB7.out⟩
end Go.Proofs.YtpngdfmifabmdaaDoor
