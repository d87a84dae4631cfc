/-
  The walk of the law OwnerOrder.
-/
import Derived.Test.YtifcpklaenbclaaGreatDoorOu
import Derived.Test.YtifcpklaenbclaaGreatDoorOrdT
import Derived.Deep.RegionHeld3
import Derived.BigQuiet
namespace Go.Proofs.YtifcpklaenbclaaGreatDoor
open Go.RowKit
set_option linter.unusedVariables false
set_option linter.unusedSimpArgs false
set_option maxRecDepth 100000
set_option maxHeartbeats 20000000

theorem ans_info : (Tryz.prog.info? 31).map (fun i => (i.zero, i.size, i.bytes)) = some (some (.agg #[.string ⟨#[]⟩, .string ⟨#[]⟩, .int .i64 0, .string ⟨#[]⟩]), 4, 56) := by kernel_rfl
def nmAt (ls : List Ans) (a : Nat) : ByteArray := (ls.map Ans.nm).getD a noneT
theorem nmAt_eq {ls : List Ans} {a : Nat} (h : a < ls.length) : nmAt ls a = ls[a].nm := by
  unfold nmAt
  rw [getD_eq (by simpa using h), List.getElem_map]
def Unlike (ls : List Ans) (i : Nat) : Prop := ∀ b, i ≤ b → b < ls.length → ∀ a, a < b → nmAt ls a ≠ nmAt ls b
theorem unlike_all {ls : List Ans} (h : Unlike ls 0) : ls.Pairwise fun a b => a.nm ≠ b.nm := by
  rw [List.pairwise_iff_getElem]
  intro i j hi hj hij
  have := h j (by omega) hj i hij
  rwa [nmAt_eq hi, nmAt_eq hj] at this
theorem unlike_step {ls : List Ans} {k : Nat} (h : Unlike ls (k + 1)) (hk : ∀ a, a < k → nmAt ls a ≠ nmAt ls k) : Unlike ls k := fun b hb hl a ha => by
  by_cases e : b = k
  · subst e; exact hk a ha
  · exact h b (by omega) hl a ha
theorem answersV_app (a b : List Ans) : answersV (a ++ b) = answersV a ++ answersV b := by simp [answersV]
theorem back_step {ls : List Ans} {k : Nat} (hk : k < ls.length) : answersV (ls.drop k).reverse = answersV (ls.drop (k + 1)).reverse ++ [.string ls[k].nm, .string ls[k].salt, .int .i64 ls[k].x, .string ls[k].b] := by
  rw [List.drop_eq_getElem_cons hk, List.reverse_cons, answersV_app]
  rfl
theorem k4_below {W W' : World} {p q r s : Addr} {u v x y : Value} (h : (W.cell? p = some u ∧ W.cell? q = some v) ∧ W.cell? r = some x ∧ W.cell? s = some y) (hb : Below W.heap.size W W') : (W'.cell? p = some u ∧ W'.cell? q = some v) ∧ W'.cell? r = some x ∧ W'.cell? s = some y :=
  ⟨keep2_below h.1 hb, keep2_below h.2 hb⟩
theorem ownerOrder_law (v : Value) (r : Rec) (hl1 : r.ns.length ≤ maxLen) (hl2 : r.ps.length ≤ maxLen) (A : Option Addr) (m c : Nat) (ls : List Ans) (hm : m = ls.length) (hl3 : ls.length ≤ maxLen) (wp : ByteArray) (hwp : wp.size ≤ maxLen) (w : World) (hT : Turns w) (hR : Rounds w) (hv : RV w v r) (hr : Rd w A (answersV ls)) :
    Calls Tryz.prog 4 #[v, .slice A m c, .string wp] w fun e w' => e = .returned (.bool true) ∧ Below w.heap.size w w' := by
  have HV := Lib.hid hv
  obtain ⟨A1, n1, c1, A2, n2, c2, rfl, hA1, hn1, hA2, hn2⟩ := hv
  have HBig := Lib.hid (fun W h => big_any (.agg #[.int .i64 r.e, .int .i64 r.k, .slice A1 n1 c1, .slice A2 n2 c2]) r W h hl1 hl2)
  have HMany := Lib.hid (fun W h => many22_any A m c ls W h hm hl3)
  have HRd := Lib.hid hr
  have HR := Lib.hid hR
  have HT := Lib.hid hT
  have HM := Lib.hid hm
  have HX := Lib.hid (heap_alloc_new w (.cells #[.int .i64 r.e, .int .i64 r.k, .slice A1 n1 c1, .slice A2 n2 c2] 24))
  have HB := Lib.hid ((Below.refl w.heap.size w).alloc (Nat.le_refl _) (.cells #[.int .i64 r.e, .int .i64 r.k, .slice A1 n1 c1, .slice A2 n2 c2] 24))
  clear hA1 hn1 hA2 hn2 hr hR hT hm hl1 hl2 hl3
  go_enter Tryz.func4, Tryz.ntmps4
  go_wp2_with fail
  refine (HBig.out _ (HV.out.below HB.out)).mono ?_
  rintro e w1 ⟨b1, rfl, hnb, hb1⟩
  replace HX := Lib.hid (cells_below HX.out hb1)
  replace HB := Lib.hid (HB.out.trans (hb1.mono HB.out.size))
  clear hb1 hnb
  cases b1 with
  | true =>
    go_wp2_with fail
    go_ret
    exact ⟨rfl, HB.out⟩
  | false =>
  go_wp2_with fail
  refine (HMany.out _ (HRd.out.below HB.out)).mono ?_
  rintro e w2 ⟨b2, rfl, hnm, hb2⟩
  replace HX := Lib.hid (cells_below HX.out hb2)
  replace HB := Lib.hid (HB.out.trans (hb2.mono HB.out.size))
  clear hb2
  cases b2 with
  | true =>
    go_wp2_with fail
    go_ret
    exact ⟨rfl, HB.out⟩
  | false =>
  have hm30 : m ≤ 30 := by have h1 := hnm rfl; have h2 := HM.out; unfold notMany at h1; omega
  clear hnm
  have HU := Lib.hid (fun W h1 h2 h3 h4 => unlock_any (.agg #[.int .i64 r.e, .int .i64 r.k, .slice A1 n1 c1, .slice A2 n2 c2]) r A m c ls wp W h1 h2 HM.out (by omega) h3 h4)
  have HCh := Lib.hid (fun W h1 h2 h3 => chosen_any (.int .i64 r.e) (.int .i64 r.k) (.slice A1 n1 c1) (.slice A2 n2 c2) r A m c ls W h1 h2 HM.out (by omega) h3)
  have HUl := Lib.hid (fun W h1 h2 => unlocks_any W h1 h2)
  have HUb := Lib.hid (fun X cap W h1 (h2 : Rd W X (answersV ls.reverse)) h3 h4 => unlock_any (.agg #[.int .i64 r.e, .int .i64 r.k, .slice A1 n1 c1, .slice A2 n2 c2]) r X m cap ls.reverse wp W h1 h2 (by rw [List.length_reverse]; exact HM.out) (by omega) h3 h4)
  have HCb := Lib.hid (fun X cap W h1 (h2 : Rd W X (answersV ls.reverse)) h3 => chosen_any (.int .i64 r.e) (.int .i64 r.k) (.slice A1 n1 c1) (.slice A2 n2 c2) r X m cap ls.reverse W h1 h2 (by rw [List.length_reverse]; exact HM.out) (by omega) h3)
  by_cases h200 : (200 : Int) < (wp.size : Int)
  · have d0 : decide ((wp.size : Int) > 200) = true := by simpa using h200
    go_wp2_with fail
    go_ret
    exact ⟨rfl, HB.out⟩
  have d0 : decide ((wp.size : Int) > 200) = false := by simpa using h200
  clear h200
  have hw1 : IntKind.i64.wrap ((m : Int) - 1) = (m : Int) - 1 := IntWalk.i64_in _ (by omega)
  go_wp2_with fail
  clear d0
  go_loopw [7, 8] (fun u x wr => ∃ (i j : Nat) (X : Option Addr) (cap : Nat), i + j = m ∧ x = .int .i64 ((i : Int) - 1) ∧ u = .slice X j cap ∧ Unlike ls i ∧ wr.ownsRow (w.heap.size + 1) 31 4 (.slice X j cap) j (answersV (ls.drop i).reverse) ∧ wr.heap[w.heap.size]? = some (.cells #[.int .i64 r.e, .int .i64 r.k, .slice A1 n1 c1, .slice A2 n2 c2] 24 (0, 0)) ∧ Below w.heap.size w wr) (fun _ x _ => ((intOf x) + 1).toNat)
  case atStart => exact ⟨m, 0, none, 0, by omega, by first | rfl | rw [hw1], rfl, (fun b hb hl => by have := HM.out; omega), (by rw [HM.out, List.drop_length]; exact World.ownsRow_nil _ _ _ _), HX.out, HB.out⟩
  case round =>
    clear HX HB hw1
    obtain ⟨i, j, X, cap, hij, hx, rfl, hun, hown, hX, hB⟩ := hrel
    have HX := Lib.hid hX
    have HB := Lib.hid hB
    have HO := Lib.hid hown
    have HUn := Lib.hid hun
    clear hX hB hown hun
    cases i with
    | succ k =>
      obtain rfl := hx.trans (show Value.int .i64 (((k + 1 : Nat) : Int) - 1) = .int .i64 (k : Int) by congr 1; omega)
      have e1 : decide ((k : Int) ≥ 0) = true := by simp
      have hkl : k < ls.length := by rw [← HM.out]; omega
      have hkm : (k : Int) < (m : Int) := by omega
      clear hx
      go_wp2_with fail
      clear e1
      go_loopw [9] (fun x wr => ∃ q : Nat, q ≤ k ∧ x = .int .i64 (q : Nat) ∧ (∀ a, a < q → nmAt ls a ≠ nmAt ls k) ∧ wr.ownsRow (w.heap.size + 1) 31 4 (.slice X j cap) j (answersV (ls.drop (k + 1)).reverse) ∧ wr.heap[w.heap.size]? = some (.cells #[.int .i64 r.e, .int .i64 r.k, .slice A1 n1 c1, .slice A2 n2 c2] 24 (0, 0)) ∧ Below w.heap.size w wr) (fun x _ => k - (intOf x).toNat)
      case atStart => exact ⟨0, by omega, rfl, fun a ha => absurd ha (Nat.not_lt_zero a), HO.out, HX.out, HB.out⟩
      case round =>
        clear HX HB HO
        obtain ⟨q, hq, rfl, hne, hown, hX, hB⟩ := hrel
        have HX := Lib.hid hX
        have HB := Lib.hid hB
        have HO := Lib.hid hown
        have HNe := Lib.hid hne
        clear hX hB hown hne
        by_cases hqk : q < k
        · have e2 : decide ((q : Int) < (k : Int)) = true := by simp; omega
          have hqm : (q : Int) < (m : Int) := by omega
          have hql : q < ls.length := by omega
          obtain ⟨bL, oL, hbL, c0, -, -, -⟩ := (HRd.out.below HB.out).ans hkl
          subst hbL
          have c1 : wr.cell? ⟨bL, oL + q * 4, none⟩ = some (.string ls[q].nm) := by
            obtain ⟨b', o', h1, h2, -, -, -⟩ := (HRd.out.below HB.out).ans hql
            injection h1 with h1
            injection h1 with h1 h3
            subst h1 h3
            exact h2
          have HnK := Lib.hid (nmAt_eq hkl)
          have HnQ := Lib.hid (nmAt_eq hql)
          generalize ls[k].nm = sk at c0 HnK
          generalize ls[q].nm = sq at c1 HnQ
          have hdec := text_dec3 sq sk
          have C0 := Lib.hid c0
          have C1 := Lib.hid c1
          clear c0 c1
          by_cases hnn : sq = sk
          · have d1 : (sq.toList == sk.toList) = true := by rw [hdec]; simpa using hnn
            clear hdec hnn
            go_wp2_with fail
            have c0 := C0.out
            have c1 := C1.out
            go_quiet (fail)
            have HQ := Lib.hid (below_drewN HB.out nq)
            go_wp2_with fail
            refine (HUl.out _ (HR.out.below HQ.out) (HT.out.below HQ.out)).mono ?_
            rintro e w5 ⟨rfl, hb5⟩
            go_wp2_with fail
            go_ret
            exact ⟨rfl, HQ.out.trans (hb5.mono HQ.out.size)⟩
          · have d1 : (sq.toList == sk.toList) = false := by rw [hdec]; simpa using hnn
            have HNe2 := Lib.hid (show ∀ a, a < q + 1 → nmAt ls a ≠ nmAt ls k from fun a ha => by
              by_cases e : a = q
              · subst e; rw [HnQ.out, HnK.out]; exact hnn
              · exact HNe.out a (by omega))
            clear hdec hnn
            go_wp2_with fail
            have c0 := C0.out
            have c1 := C1.out
            go_quiet (fail)
            have HQ := Lib.hid (below_drewN HB.out nq)
            have HO2 := Lib.hid (own_keep HO.out (below_drewN (Below.refl _ _) nq))
            go_wp2_with fail
            go_roundw
            case rel => exact ⟨q + 1, by omega, by go_num, HNe2.out, HO2.out, HX.out, HQ.out⟩
            case measure => simp [intOf]; omega
        · obtain rfl : q = k := by omega
          have e2 : decide ((q : Int) < (q : Int)) = false := by simp
          have HUn2 := Lib.hid (unlike_step HUn.out HNe.out)
          have Hbs := Lib.hid (back_step hkl)
          have hw2 : IntKind.i64.wrap ((q : Int) - 1) = (q : Int) - 1 := IntWalk.i64_in _ (by omega)
          obtain ⟨bL, oL, hbL, c0, c1, c2, c3⟩ := (HRd.out.below HB.out).ans hkl
          subst hbL
          generalize ls[q].nm = a0 at c0 Hbs
          generalize ls[q].salt = a1 at c1 Hbs
          generalize ls[q].x = a2 at c2 Hbs
          generalize ls[q].b = a3 at c3 Hbs
          have hbA := (Below.refl wr.heap.size wr).alloc (Nat.le_refl _) (.cells #[.string a0, .string a1, .int .i64 a2, .string a3] 31)
          have hj30 : j ≤ 30 := by omega
          go_wp2_with (at_builtin; refine wpList_append_new (by rfl) (.tmp 49) (.tmp 54) 25 (by rfl) (w.heap.size + 1) 31 (.agg #[.string ⟨#[]⟩, .string ⟨#[]⟩, .int .i64 0, .string ⟨#[]⟩]) 4 56 Tryz.underlying25 ans_info rfl (by omega) wr #[.string a0, .string a1, .int .i64 a2, .string a3] 31 (.slice X j cap) j (answersV (ls.drop (q + 1)).reverse) (by rfl) HO.out wr.heap.size 1 1 (by rfl) (by rfl) (by rfl) (by rfl) (by omega) (by omega) (by omega) (by have := cell_lt_of HX.out; omega) ?_)
          intro g2 cap2 w3 ho3 hb3 _ _ _
          have HO3 := Lib.hid ho3
          have HX3 := Lib.hid ((hb3.block w.heap.size (by omega)).trans HX.out)
          have HB3 := Lib.hid (HB.out.trans (hb3.mono (by omega)))
          clear ho3 hb3 hbA c0 c1 c2 c3 e2
          go_wp2_with fail
          go_roundw
          case rel =>
            refine ⟨q, j + 1, some ⟨g2, 0, none⟩, cap2, by omega, by first | rfl | rw [hw2], rfl, HUn2.out, ?_, HX3.out, HB3.out⟩
            rw [Hbs.out]
            exact HO3.out
          case measure => (simp [intOf] <;> omega)
    | zero =>
      obtain rfl := hx.trans (show Value.int .i64 (((0 : Nat) : Int) - 1) = .int .i64 (-1) by rfl)
      obtain rfl : j = m := by omega
      have e1 : decide ((-1 : Int) ≥ 0) = false := by decide
      have Hpw := Lib.hid (unlike_all HUn.out)
      rw [List.drop_zero] at HO
      have x0 := rf_at HX.out 0 _ rfl
      have x1 := rf_at HX.out 1 _ rfl
      have x2 := rf_at HX.out 2 _ rfl
      have x3 := rf_at HX.out 3 _ rfl
      clear hx HUn
      go_wp2_with fail
      refine (HU.out _ (HV.out.below HB.out) (HRd.out.below HB.out) (HR.out.below HB.out) (HT.out.below HB.out)).mono ?_
      rintro e w3 ⟨rfl, hb3⟩
      replace HO := Lib.hid (own_keep HO.out hb3)
      replace HX := Lib.hid (cells_below HX.out hb3)
      replace HB := Lib.hid (HB.out.trans (hb3.mono HB.out.size))
      clear hb3 x0 x1 x2 x3
      have x0 := rf_at HX.out 0 _ rfl
      have x1 := rf_at HX.out 1 _ rfl
      have x2 := rf_at HX.out 2 _ rfl
      have x3 := rf_at HX.out 3 _ rfl
      go_wp2_with fail
      refine (HUb.out X cap _ (HV.out.below HB.out) (own_rd HO.out) (HR.out.below HB.out) (HT.out.below HB.out)).mono ?_
      rintro e w4 ⟨rfl, hb4⟩
      replace HO := Lib.hid (own_keep HO.out hb4)
      replace HX := Lib.hid (cells_below HX.out hb4)
      replace HB := Lib.hid (HB.out.trans (hb4.mono HB.out.size))
      clear hb4 x0 x1 x2 x3
      rw [(unl_rev Hpw.out r wp).1, (unl_rev Hpw.out r wp).2]
      generalize unlE r ls wp = ue
      generalize unlS r ls wp = us
      have HCl := Lib.hid (show (chosenL r ls).length ≤ 100000 by
        cases hck : checkR r with
        | false => rw [chosenL, hck]; simp
        | true =>
          have h1 := chosen_len (ls := ls) hck
          have h2 : (hits r ls r.ns.length).length ≤ (List.range r.ns.length).length := List.length_filter_le _ _
          rw [List.length_range] at h2
          have h4 := (check_head hck).2.2.2.1
          omega)
      have Hcr := Lib.hid (chosen_rev Hpw.out r)
      have HX4 := Lib.hid (show w4.drew.heap[w.heap.size]? = _ from HX.out)
      have q : (w4.drew.cell? ⟨w.heap.size, 0, none⟩ = some (.int .i64 r.e) ∧ w4.drew.cell? ⟨w.heap.size, 1, none⟩ = some (.int .i64 r.k)) ∧ w4.drew.cell? ⟨w.heap.size, 2, none⟩ = some (.slice A1 n1 c1) ∧ w4.drew.cell? ⟨w.heap.size, 3, none⟩ = some (.slice A2 n2 c2) := ⟨⟨rf_at HX4.out 0 _ rfl, rf_at HX4.out 1 _ rfl⟩, rf_at HX4.out 2 _ rfl, rf_at HX4.out 3 _ rfl⟩
      have BB := HB.out.drew
      have OO := own_keep HO.out ((Below.refl w4.heap.size w4).drew)
      clear HX HX4 HB HO
      go_wp2_with fail
      go_region_held3 (fun w' => (w'.cell? ⟨w.heap.size, 0, none⟩ = some (.int .i64 r.e) ∧ w'.cell? ⟨w.heap.size, 1, none⟩ = some (.int .i64 r.k)) ∧ w'.cell? ⟨w.heap.size, 2, none⟩ = some (.slice A1 n1 c1) ∧ w'.cell? ⟨w.heap.size, 3, none⟩ = some (.slice A2 n2 c2))
        (first | with_reducible assumption)
        (first
          | (go_at_call 10; refine (HUl.out _ (HR.out.below BB) (HT.out.below BB)).mono ?_; rintro _ w5 ⟨rfl, hb⟩; replace BB := Below.chain BB hb; replace q := k4_below q hb; replace OO := own_keep OO hb; clear hb)
          | (go_at_call 11; have _seen := HCa; refine (HCb.out X cap _ (HV.out.below BB) (own_rd OO) (HR.out.below BB)).mono ?_; rintro _ w7 ⟨Cb, qb, pb, rfl, hqb, hrb, hb⟩; have HCb2 := Lib.hid hrb; have HQb := Lib.hid hqb; replace HCa := Lib.hid (HCa.out.below hb); clear hrb hqb; replace BB := Below.chain BB hb; replace q := k4_below q hb; clear hb)
          | (go_at_call 11; refine (HCh.out _ (HV.out.below BB) (HRd.out.below BB) (HR.out.below BB)).mono ?_; rintro _ w6 ⟨Ca, qa, pa, rfl, hqa, hra, hb⟩; have HCa := Lib.hid hra; have HQa := Lib.hid hqa; clear hra hqa; replace BB := Below.chain BB hb; replace q := k4_below q hb; replace OO := own_keep OO hb; clear hb)
          | (go_at_call 12; refine (same09_any (chosenL r ls) (chosenL r ls) _ _ _ _ _ _ _ HCa.out (by rw [← Hcr.out]; exact HCb2.out) HQa.out (by rw [← Hcr.out]; exact HQb.out) HCl.out).mono ?_; rintro _ w8 ⟨rfl, hb⟩; replace BB := Below.chain BB hb; replace q := k4_below q hb; clear hb; rw [decide_eq_true rfl]))
      go_wp2_with fail
      go_ret
      exact ⟨rfl, BB⟩
end Go.Proofs.YtifcpklaenbclaaGreatDoor
