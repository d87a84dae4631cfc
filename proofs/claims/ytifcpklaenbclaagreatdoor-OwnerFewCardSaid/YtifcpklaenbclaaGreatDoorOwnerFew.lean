/-
  The walk of the law OwnerFew.
-/
import Derived.Test.YtifcpklaenbclaaGreatDoorOu
import Derived.BigQuiet
namespace Go.Proofs.YtifcpklaenbclaaGreatDoor
open Go.RowKit
set_option linter.unusedVariables false
set_option linter.unusedSimpArgs false
set_option maxRecDepth 100000
set_option maxHeartbeats 20000000

def named (r : Rec) (ls : List Ans) (i : Nat) : Bool := ls.any fun a => decide (a.nm = r.ns.getD i noneT)
def cntN (r : Rec) (ls : List Ans) (i : Nat) : Nat := ((List.range i).filter (named r ls)).length
theorem cnt_succ (r : Rec) (ls : List Ans) (i : Nat) : cntN r ls (i + 1) = cntN r ls i + (if named r ls i = true then 1 else 0) := by
  unfold cntN
  rw [List.range_succ, List.filter_append, List.length_append]
  congr 1
  by_cases h : named r ls i = true
  · rw [List.filter_cons, if_pos h, if_pos h]; rfl
  · rw [List.filter_cons, if_neg h, if_neg h]; rfl
theorem cnt_le (r : Rec) (ls : List Ans) (i : Nat) : cntN r ls i ≤ i := by
  unfold cntN
  have := List.length_filter_le (named r ls) (List.range i)
  simpa using this
theorem hits_cnt (r : Rec) (ls : List Ans) (n : Nat) : (hits r ls n).length ≤ cntN r ls n := by
  unfold hits cntN
  rw [← List.countP_eq_length_filter, ← List.countP_eq_length_filter]
  refine List.countP_mono_left fun i _ h => ?_
  rw [hit_any] at h
  obtain ⟨a, ha, h2⟩ := List.any_eq_true.1 h
  rw [Bool.and_eq_true] at h2
  exact List.any_eq_true.2 ⟨a, ha, h2.1⟩
theorem chosen_get {r : Rec} {ls : List Ans} (hc : checkR r = true) {i : Nat} (hi : i < (chosenL r ls).length) : ∃ q, (((hits r ls r.ns.length).take r.k.toNat))[i]? = some q ∧ q < r.ns.length ∧ ((chosenL r ls)[i]).1 = ((q + 1 : Nat) : Int) := by
  have h1 := congrArg (fun l => l[i]?) (chosen_fst (ls := ls) hc)
  simp only [List.getElem?_map, List.getElem?_eq_getElem hi, Option.map_some] at h1
  cases h2 : ((hits r ls r.ns.length).take r.k.toNat)[i]? with
  | none => rw [h2] at h1; cases h1
  | some q =>
    rw [h2] at h1
    refine ⟨q, rfl, hits_lt r ls _ q (List.mem_of_mem_take (List.mem_of_getElem? h2)), ?_⟩
    exact Option.some.inj h1
theorem chosen_up {r : Rec} {ls : List Ans} (hc : checkR r = true) {i : Nat} (hi : i + 1 < (chosenL r ls).length) : ((chosenL r ls)[i]'(by omega)).1 < ((chosenL r ls)[i + 1]).1 := by
  obtain ⟨p, hp, _, ep⟩ := chosen_get (ls := ls) hc (i := i) (by omega)
  obtain ⟨q, hq, _, eq⟩ := chosen_get hc hi
  have hpw := (hits_pw r ls r.ns.length).sublist (List.take_sublist r.k.toNat _)
  obtain ⟨h1, e1⟩ := List.getElem?_eq_some_iff.1 hp
  obtain ⟨h2, e2⟩ := List.getElem?_eq_some_iff.1 hq
  have := List.pairwise_iff_getElem.1 hpw i (i + 1) h1 h2 (by omega)
  rw [e1, e2] at this
  rw [ep, eq]
  omega
theorem any_succ {ls : List Ans} {k : Nat} (hk : k < ls.length) (nm : ByteArray) : (ls.take (k + 1)).any (fun a => decide (a.nm = nm)) = ((ls.take k).any (fun a => decide (a.nm = nm)) || decide (ls[k].nm = nm)) := by
  rw [List.take_succ_eq_append_getElem hk, List.any_append]
  simp
theorem ownerFew_law (v : Value) (r : Rec) (hl1 : r.ns.length ≤ maxLen) (hl2 : r.ps.length ≤ maxLen) (A : Option Addr) (m c : Nat) (ls : List Ans) (hm : m = ls.length) (hl3 : ls.length ≤ maxLen) (wp : ByteArray) (hwp : wp.size ≤ maxLen) (w : World) (hT : Turns w) (hR : Rounds w) (hv : RV w v r) (hr : Rd w A (answersV ls)) :
    Calls Tryz.prog 3 #[v, .slice A m c, .string wp] w fun e w' => e = .returned (.bool true) ∧ Below w.heap.size w w' := by
  have HV := Lib.hid hv
  obtain ⟨A1, n1, c1, A2, n2, c2, rfl, hA1, hn1, hA2, hn2⟩ := hv
  have HBig := Lib.hid (fun W h => big_any (.agg #[.int .i64 r.e, .int .i64 r.k, .slice A1 n1 c1, .slice A2 n2 c2]) r W h hl1 hl2)
  have HMany := Lib.hid (fun W h => many22_any A m c ls W h hm hl3)
  have HRd := Lib.hid hr
  have HR := Lib.hid hR
  have HT := Lib.hid hT
  have HM := Lib.hid hm
  have HN := Lib.hid hn1
  have HA1 := Lib.hid hA1
  have HX := Lib.hid (heap_alloc_new w (.cells #[.int .i64 r.e, .int .i64 r.k, .slice A1 n1 c1, .slice A2 n2 c2] 24))
  have HB := Lib.hid ((Below.refl w.heap.size w).alloc (Nat.le_refl _) (.cells #[.int .i64 r.e, .int .i64 r.k, .slice A1 n1 c1, .slice A2 n2 c2] 24))
  clear hA1 hn1 hA2 hn2 hr hR hT hm hl1 hl2 hl3
  go_enter Tryz.func3, Tryz.ntmps3
  go_wp2_with fail
  refine (HBig.out _ (HV.out.below HB.out)).mono ?_
  rintro e w1 ⟨b1, rfl, hnb, hb1⟩
  replace HX := Lib.hid (cells_below HX.out hb1)
  replace HB := Lib.hid (HB.out.trans (hb1.mono HB.out.size))
  clear hb1
  cases b1 with
  | true =>
    go_wp2_with fail
    go_ret
    exact ⟨rfl, HB.out⟩
  | false =>
  have Hnb := Lib.hid (hnb rfl)
  clear hnb
  go_wp2_with fail
  refine (HMany.out _ (HRd.out.below HB.out)).mono ?_
  rintro e w2 ⟨b2, rfl, hnm, hb2⟩
  replace HX := Lib.hid (cells_below HX.out hb2)
  replace HB := Lib.hid (HB.out.trans (hb2.mono HB.out.size))
  clear hb2
  cases b2 with
  | true =>
    go_wp2_with fail
    go_ret
    exact ⟨rfl, HB.out⟩
  | false =>
  have hm30 : m ≤ 30 := by have h1 := hnm rfl; have h2 := HM.out; unfold notMany at h1; omega
  have hn30 : n1 ≤ 30 := by have h1 := Hnb.out.1; have h2 := HN.out; omega
  clear hnm
  by_cases h200 : (200 : Int) < (wp.size : Int)
  · have d0 : decide ((wp.size : Int) > 200) = true := by simpa using h200
    go_wp2_with fail
    go_ret
    exact ⟨rfl, HB.out⟩
  have d0 : decide ((wp.size : Int) > 200) = false := by simpa using h200
  clear h200
  go_wp2_with fail
  clear d0
  go_loopw [7, 8] (fun u x wr => ∃ i : Nat, i ≤ n1 ∧ x = .int .i64 (i : Nat) ∧ u = .int .i64 (cntN r ls i : Nat) ∧ wr.heap[w.heap.size]? = some (.cells #[.int .i64 r.e, .int .i64 r.k, .slice A1 n1 c1, .slice A2 n2 c2] 24 (0, 0)) ∧ Below w.heap.size w wr) (fun _ x _ => n1 - (intOf x).toNat)
  case atStart => exact ⟨0, by omega, rfl, rfl, HX.out, HB.out⟩
  case round =>
    clear HX HB
    obtain ⟨i, hi, rfl, rfl, hX, hB⟩ := hrel
    have HX := Lib.hid hX
    have HB := Lib.hid hB
    have x2 := rf_at HX.out 2 _ rfl
    have hci := cnt_le r ls i
    clear hX hB
    by_cases hlt : i < n1
    · have e1 : decide ((i : Int) < (n1 : Int)) = true := by simp; omega
      have hil : i < r.ns.length := by rw [← HN.out]; exact hlt
      obtain ⟨bA, oA, hbA, -⟩ := texts_at (HA1.out.below HB.out) hil
      subst hbA
      have Hnm := Lib.hid (show ∀ W, Below w.heap.size w W → W.cell? ⟨bA, oA + i, none⟩ = some (.string (r.ns.getD i noneT)) from fun W h => by
        obtain ⟨b', o', h1, h2⟩ := texts_at (HA1.out.below h) hil
        injection h1 with h1
        injection h1 with h1 h3
        subst h1 h3
        rw [h2, getD_eq hil])
      have Hcs := Lib.hid (cnt_succ r ls i)
      have Hnd := Lib.hid (show named r ls i = ls.any (fun a => decide (a.nm = r.ns.getD i noneT)) from rfl)
      generalize r.ns.getD i noneT = nm at Hnm Hnd
      generalize named r ls i = ndi at Hcs Hnd
      clear hil
      go_wp2_with fail
      clear x2 e1
      go_loopw [9, 10] (fun u x wr => ∃ k : Nat, k ≤ m ∧ x = .int .i64 (k : Nat) ∧ u = .bool ((ls.take k).any (fun a => decide (a.nm = nm))) ∧ wr.heap[w.heap.size]? = some (.cells #[.int .i64 r.e, .int .i64 r.k, .slice (some ⟨bA, oA, none⟩) n1 c1, .slice A2 n2 c2] 24 (0, 0)) ∧ Below w.heap.size w wr) (fun _ x _ => m - (intOf x).toNat)
      case atStart => exact ⟨0, by omega, rfl, rfl, HX.out, HB.out⟩
      case round =>
        clear HX HB
        obtain ⟨k, hk, rfl, rfl, hX, hB⟩ := hrel
        have HX := Lib.hid hX
        have HB := Lib.hid hB
        clear hX hB
        by_cases hkl : k < m
        · have e2 : decide ((k : Int) < (m : Int)) = true := by simp; omega
          have hkm : (k : Int) < (m : Int) := by omega
          have hin : (i : Int) < (n1 : Int) := by omega
          have hkl2 : k < ls.length := by rw [← HM.out]; exact hkl
          obtain ⟨bL, oL, hbL, c0, -, -, -⟩ := (HRd.out.below HB.out).ans hkl2
          subst hbL
          have Has := Lib.hid (any_succ hkl2 nm)
          generalize ls[k].nm = an at c0 Has
          generalize (ls.take k).any (fun a => decide (a.nm = nm)) = ib at Has ⊢
          have C0 := Lib.hid c0
          clear c0 hkl2
          cases ib with
          | true =>
            go_wp2_with fail
            go_quiet (fail)
            rename_i nq
            have HQ := Lib.hid (below_drewN HB.out nq)
            go_wp2_with fail
            go_roundw
            case rel => exact ⟨k + 1, by omega, by go_num, by rw [Has.out]; rfl, HX.out, HQ.out⟩
            case measure => simp [intOf]; omega
          | false =>
            have hdec := text_dec3 an nm
            by_cases hnn : an = nm
            · have d1 : (an.toList == nm.toList) = true := by rw [hdec]; simpa using hnn
              have Has2 := Lib.hid (show (ls.take (k + 1)).any (fun a => decide (a.nm = nm)) = true by rw [Has.out, decide_eq_true hnn]; rfl)
              clear hdec hnn
              go_wp2_with fail
              have c0 := C0.out
              have c1' := Hnm.out _ HB.out
              have x2 := rf_at HX.out 2 _ rfl
              go_quiet (fail)
              rename_i nq
              have HQ := Lib.hid (below_drewN HB.out nq)
              go_wp2_with fail
              go_roundw
              case rel => exact ⟨k + 1, by omega, by go_num, by rw [Has2.out], HX.out, HQ.out⟩
              case measure => simp [intOf]; omega
            · have d1 : (an.toList == nm.toList) = false := by rw [hdec]; simpa using hnn
              have Has2 := Lib.hid (show (ls.take (k + 1)).any (fun a => decide (a.nm = nm)) = false by rw [Has.out, decide_eq_false hnn]; rfl)
              clear hdec hnn
              go_wp2_with fail
              have c0 := C0.out
              have c1' := Hnm.out _ HB.out
              have x2 := rf_at HX.out 2 _ rfl
              go_quiet (fail)
              rename_i nq
              have HQ := Lib.hid (below_drewN HB.out nq)
              go_wp2_with fail
              go_roundw
              case rel => exact ⟨k + 1, by omega, by go_num, by rw [Has2.out], HX.out, HQ.out⟩
              case measure => simp [intOf]; omega
        · obtain rfl : k = m := by omega
          have e2 : decide ((k : Int) < (k : Int)) = false := by simp
          rw [show (ls.take k).any (fun a => decide (a.nm = nm)) = ndi by rw [Hnd.out, HM.out, List.take_of_length_le (Nat.le_refl _)]]
          cases ndi with
          | true =>
            go_wp2_with fail
            go_roundw
            case rel => exact ⟨i + 1, by omega, by go_num, by rw [Hcs.out]; go_num, HX.out, HB.out⟩
            case measure => simp [intOf]; omega
          | false =>
            go_wp2_with fail
            go_roundw
            case rel => exact ⟨i + 1, by omega, by go_num, by rw [Hcs.out]; rfl, HX.out, HB.out⟩
            case measure => simp [intOf]; omega
    · obtain rfl : i = n1 := by omega
      have e1 : decide ((i : Int) < (i : Int)) = false := by simp
      obtain ⟨cn, hcn⟩ : ∃ cn, cn = cntN r ls i := ⟨_, rfl⟩
      rw [← hcn] at hci ⊢
      have Hcn := Lib.hid (show cn = cntN r ls r.ns.length by rw [hcn, HN.out])
      clear hcn
      have HU := Lib.hid (fun W h1 h2 h3 h4 => unlock_any (.agg #[.int .i64 r.e, .int .i64 r.k, .slice A1 i c1, .slice A2 n2 c2]) r A m c ls wp W h1 h2 HM.out (by omega) h3 h4)
      have HCk := Lib.hid (fun W h => check18_any (.agg #[.int .i64 r.e, .int .i64 r.k, .slice A1 i c1, .slice A2 n2 c2]) r W h (fun s hs => by have := Hnb.out.2.2.1 s hs; omega))
      have HCh := Lib.hid (fun W h1 h2 h3 => chosen_any (.int .i64 r.e) (.int .i64 r.k) (.slice A1 i c1) (.slice A2 n2 c2) r A m c ls W h1 h2 HM.out (by omega) h3)
      have HUl := Lib.hid (fun W h1 h2 => unlocks_any W h1 h2)
      have x0 := rf_at HX.out 0 _ rfl
      have x1 := rf_at HX.out 1 _ rfl
      have x3 := rf_at HX.out 3 _ rfl
      go_wp2_with fail
      refine (HU.out _ (HV.out.below HB.out) (HRd.out.below HB.out) (HR.out.below HB.out) (HT.out.below HB.out)).mono ?_
      rintro e w3 ⟨rfl, hb3⟩
      replace HX := Lib.hid (cells_below HX.out hb3)
      replace HB := Lib.hid (HB.out.trans (hb3.mono HB.out.size))
      clear hb3 x0 x1 x2 x3
      obtain ⟨ue, hue⟩ : ∃ ue, ue = unlE r ls wp := ⟨_, rfl⟩
      rw [← hue]
      generalize unlS r ls wp = us
      have Hue := Lib.hid hue
      clear hue
      have x0 := rf_at HX.out 0 _ rfl
      have x1 := rf_at HX.out 1 _ rfl
      have x2 := rf_at HX.out 2 _ rfl
      have x3 := rf_at HX.out 3 _ rfl
      go_wp2_with fail
      refine (HCk.out _ (HV.out.below HB.out)).mono ?_
      rintro e w4 ⟨rfl, hb4⟩
      replace HX := Lib.hid (cells_below HX.out hb4)
      replace HB := Lib.hid (HB.out.trans (hb4.mono HB.out.size))
      clear hb4 x0 x1 x2 x3
      cases hck : checkR r with
      | false =>
        have h180 : ue = 180 := by rw [Hue.out]; unfold unlE; rw [if_pos hck]
        subst h180
        clear hck
        go_wp2_with fail
        refine (HUl.out _ (HR.out.below HB.out) (HT.out.below HB.out)).mono ?_
        rintro e w5 ⟨rfl, hb5⟩
        go_wp2_with fail
        go_ret
        exact ⟨rfl, HB.out.trans (hb5.mono HB.out.size)⟩
      | true =>
        have Hck := Lib.hid hck
        have Hch := check_head hck
        have Hl16 := Lib.hid Hch
        clear hck Hch
        have x0 := rf_at HX.out 0 _ rfl
        have x1 := rf_at HX.out 1 _ rfl
        have x2 := rf_at HX.out 2 _ rfl
        have x3 := rf_at HX.out 3 _ rfl
        go_wp2_with fail
        refine (HCh.out _ (HV.out.below HB.out) (HRd.out.below HB.out) (HR.out.below HB.out)).mono ?_
        rintro e w5 ⟨C, q, cap, rfl, hq, hrC, hb5⟩
        replace HX := Lib.hid (cells_below HX.out hb5)
        replace HB := Lib.hid (HB.out.trans (hb5.mono HB.out.size))
        have HC5 := Lib.hid hrC
        have Hq := Lib.hid hq
        have B5 := Lib.hid (Below.refl w5.heap.size w5)
        have hq16 : q ≤ 16 := by
          have h1 := chosen_len (ls := ls) Hck.out
          have h2 := hits_cnt r ls r.ns.length
          have h3 := cnt_le r ls r.ns.length
          have h4 := Hl16.out.2.2.2.1
          omega
        have hqk : (q : Int) ≤ r.k := by
          have h1 := chosen_len (ls := ls) Hck.out
          have h2 := Hl16.out.2.2.2.2.2.1
          omega
        have hqn : q ≤ cn := by
          have h1 := chosen_len (ls := ls) Hck.out
          have h2 := hits_cnt r ls r.ns.length
          have h3 := Hcn.out
          omega
        clear hb5 x0 x1 x2 x3 hrC hq
        go_wp2_with fail
        go_loopw [14] (fun x wr => ∃ j : Nat, j ≤ q ∧ x = .int .i64 (j : Nat) ∧ wr.heap[w.heap.size]? = some (.cells #[.int .i64 r.e, .int .i64 r.k, .slice A1 i c1, .slice A2 n2 c2] 24 (0, 0)) ∧ Below w.heap.size w wr ∧ Below w5.heap.size w5 wr) (fun x _ => q - (intOf x).toNat)
        case atStart => exact ⟨0, by omega, rfl, HX.out, HB.out, B5.out⟩
        case round =>
          clear HX HB B5
          obtain ⟨j, hj, rfl, hX, hB, h5⟩ := hrel
          have HX := Lib.hid hX
          have HB := Lib.hid hB
          have B5 := Lib.hid h5
          clear hX hB h5
          by_cases hjq : j < q
          · have e2 : decide ((j : Int) < (q : Int)) = true := by simp; omega
            have hjI : (j : Int) < (q : Int) := by omega
            have hjc : j < (chosenL r ls).length := by rw [← Hq.out]; exact hjq
            obtain ⟨bC, oC, hbC, p0, -⟩ := (HC5.out.below B5.out).shr hjc
            subst hbC
            obtain ⟨y, -, hy, hye⟩ := chosen_get Hck.out hjc
            rw [hye] at p0
            have hyn : y < i := by rw [HN.out]; exact hy
            obtain ⟨z0, hz0⟩ : ∃ z0 : Int, z0 = ((y + 1 : Nat) : Int) := ⟨_, rfl⟩
            rw [← hz0] at p0
            have k1 : decide (z0 < 1) = false := by simp; omega
            have k2 : decide (z0 > (i : Int)) = false := by simp; omega
            have k1' : ¬ (z0 < 1) := by omega
            have k2' : ¬ ((i : Int) < z0) := by omega
            by_cases hj0 : j = 0
            · have k3 : decide ((j : Int) > 0) = false := by simp; omega
              have k3' : decide (0 < j) = false := by simp; omega
              have k3'' : ¬ 0 < j := by omega
              have P0 := Lib.hid p0
              clear hj0 hy hye hjc p0 hz0 hyn
              go_wp2_with fail
              have p0 := P0.out
              have x2 := rf_at HX.out 2 _ rfl
              go_quiet (fail)
              rename_i nq
              have HQ := Lib.hid (below_drewN HB.out nq)
              have HQ5 := Lib.hid (below_drewN B5.out nq)
              go_wp2_with fail
              go_roundw
              case rel => exact ⟨j + 1, by omega, by go_num, HX.out, HQ.out, HQ5.out⟩
              case measure => simp [intOf]; omega
            · obtain ⟨g, rfl⟩ : ∃ g, j = g + 1 := ⟨j - 1, by omega⟩
              have hup := chosen_up Hck.out hjc
              obtain ⟨bC', oC', hbC', p1, -⟩ := (HC5.out.below B5.out).shr (show g < (chosenL r ls).length by omega)
              injection hbC' with t1
              injection t1 with t1 t2
              subst t1 t2
              rw [hye] at hup
              generalize (chosenL r ls)[g].1 = z at p1 hup
              have k3 : decide (((g + 1 : Nat) : Int) > 0) = true := decide_eq_true (by omega)
              have k3' : decide (0 < g + 1) = true := by simp
              have k3'' : 0 < g + 1 := by omega
              have k4 : decide (z0 ≤ z) = false := by simp; omega
              have hgI : (g : Int) < (q : Int) := by omega
              have P0 := Lib.hid p0
              have P1 := Lib.hid p1
              clear hj0 hy hye hjc hup p0 p1 hz0 hyn
              go_wp2_with fail
              have p0 := P0.out
              have p1 := P1.out
              have x2 := rf_at HX.out 2 _ rfl
              go_quiet (fail)
              rename_i nq
              have HQ := Lib.hid (below_drewN HB.out nq)
              have HQ5 := Lib.hid (below_drewN B5.out nq)
              go_wp2_with fail
              go_roundw
              case rel => exact ⟨g + 1 + 1, by omega, by go_num, HX.out, HQ.out, HQ5.out⟩
              case measure => simp [intOf]; omega
          · obtain rfl : j = q := by omega
            have e2 : decide ((j : Int) < (j : Int)) = false := by simp
            have d1 : decide ((j : Int) ≤ r.k) = true := by simpa using hqk
            have d2 : decide ((j : Int) ≤ (cn : Int)) = true := by simp; omega
            by_cases hck2 : (cn : Int) ≥ r.k
            · have d3 : decide ((cn : Int) ≥ r.k) = true := by simpa using hck2
              have d3' : decide (r.k ≤ (cn : Int)) = true := by simpa using hck2
              clear hck2
              go_wp2_with fail
              refine (HUl.out _ (HR.out.below HB.out) (HT.out.below HB.out)).mono ?_
              rintro e w6 ⟨rfl, hb6⟩
              have y1 := rf_at (cells_below HX.out hb6) 1 _ rfl
              replace HB := Lib.hid (HB.out.trans (hb6.mono HB.out.size))
              clear hb6
              go_wp2_with fail
              go_ret
              exact ⟨rfl, HB.out⟩
            · have d3 : decide ((cn : Int) ≥ r.k) = false := by simpa using hck2
              have d3' : decide (r.k ≤ (cn : Int)) = false := by simpa using hck2
              have h220 : ue = 220 := by
                rw [Hue.out]
                refine (few Hck.out ?_ wp).1
                have h2 := hits_cnt r ls r.ns.length
                have h3 := Hcn.out
                omega
              subst h220
              clear hck2
              go_wp2_with fail
              refine (HUl.out _ (HR.out.below HB.out) (HT.out.below HB.out)).mono ?_
              rintro e w6 ⟨rfl, hb6⟩
              have y1 := rf_at (cells_below HX.out hb6) 1 _ rfl
              replace HB := Lib.hid (HB.out.trans (hb6.mono HB.out.size))
              clear hb6
              go_wp2_with fail
              go_ret
              exact ⟨rfl, HB.out⟩
end Go.Proofs.YtifcpklaenbclaaGreatDoor
