/-
  The walk of the law OwnerOpens.
-/
import Derived.Test.YtifcpklaenbclaaGreatDoorOu
import Derived.Test.YtifcpklaenbclaaGreatDoorBl
import Derived.Test.YtifcpklaenbclaaGreatDoorOpT
import Derived.Test.YtifcpklaenbclaaGreatDoorCopyA
import Derived.Test.YtifcpklaenbclaaGreatDoorOpenAns
import Derived.BigQuiet
namespace Go.Proofs.YtifcpklaenbclaaGreatDoor
open Go.RowKit
set_option linter.unusedVariables false
set_option linter.unusedSimpArgs false
set_option maxRecDepth 100000
set_option maxHeartbeats 8000000

theorem oo_info : (Tryz.prog.info? 31).map (fun i => (i.zero, i.size, i.bytes)) = some (some (.agg #[.string ⟨#[]⟩, .string ⟨#[]⟩, .int .i64 0, .string ⟨#[]⟩]), 4, 56) := by kernel_rfl
theorem oo_app (a b : List Ans) : answersV (a ++ b) = answersV a ++ answersV b := by simp [answersV]
theorem oo_one (l : List Ans) (u : Value) (h : u ∈ answersV l) : u.oneCell' = true := by
  obtain ⟨a, _, hu⟩ := List.mem_flatMap.1 h
  simp only [ansV, List.mem_cons, List.not_mem_nil, or_false] at hu
  rcases hu with rfl | rfl | rfl | rfl <;> rfl
theorem bools_at {w : World} {A : Option Addr} {l : List Bool} {i : Nat} (h : Rd w A (boolsV l)) (hi : i < l.length) : ∃ b off, A = some ⟨b, off, none⟩ ∧ w.cell? ⟨b, off + i, none⟩ = some (.bool l[i]) :=
  h i (.bool l[i]) (by simp [boolsV, hi])
theorem ownerOpens_law (sec : ByteArray) (hz0 : sec.size ≤ maxLen) (master : ByteArray) (hz1 : master.size ≤ maxLen) (nonce : ByteArray) (hz2 : nonce.size ≤ maxLen) (AN : Option Addr) (nn cn : Nat) (ns : List ByteArray) (hnn : nn = ns.length) (hnm : ns.length ≤ maxLen) (hnz : ∀ x ∈ ns, x.size ≤ maxLen) (k : Int) (tape : ByteArray) (hz3 : tape.size ≤ maxLen)
    (AS : Option Addr) (sn cs : Nat) (sa : List ByteArray) (hsn : sn = sa.length) (hsm : sa.length ≤ maxLen) (hsz : ∀ x ∈ sa, x.size ≤ maxLen) (A : Option Addr) (m c : Nat) (ls : List Ans) (hm : m = ls.length) (hlm : ls.length ≤ maxLen) (AW : Option Addr) (wn cw : Nat) (ws : List Bool) (hwn : wn = ws.length) (hwm : ws.length ≤ maxLen)
    (w : World) (hT : Turns w) (hR : Rounds w) (hrn : Rd w AN (textsV ns)) (hrs : Rd w AS (textsV sa)) (hr : Rd w A (answersV ls)) (hrw : Rd w AW (boolsV ws)) :
    Calls Tryz.prog 5 #[.string sec, .string master, .string nonce, .slice AN nn cn, .int .i64 k, .string tape, .slice AS sn cs, .slice A m c, .slice AW wn cw] w fun e w' => e = .returned (.bool true) ∧ Below w.heap.size w w' := by
  have HMany := Lib.hid (fun W h => many22_any A m c ls W h hm hlm)
  have HRn := Lib.hid hrn
  have HRs := Lib.hid hrs
  have HRd := Lib.hid hr
  have HRw := Lib.hid hrw
  have HR := Lib.hid hR
  have HT := Lib.hid hT
  have HM := Lib.hid hm
  have HN := Lib.hid hnn
  have HS := Lib.hid hsn
  have HWn := Lib.hid hwn
  have HZn := Lib.hid (fun (x : ByteArray) (hx : x ∈ ns) => (show x.size ≤ 9223372036854775807 from by have := hnz x hx; unfold maxLen at this; omega))
  have HWr := Lib.hid (fun W h => wrap_any sec nonce master W h hz0 hz2 hz1)
  have HUl := Lib.hid (fun W h1 h2 => unlocks_any W h1 h2)
  have HB := Lib.hid (Below.refl w.heap.size w)
  clear hrn hrs hr hrw hR hT hm hnn hsn hwn hnm hsm hlm hwm hnz hsz hz0 hz1 hz2 hz3
  go_enter Tryz.func5, Tryz.ntmps5
  cases d0 : decide (wrap64 (wrap64 ((sec.size : Int) + (master.size : Int)) + (nonce.size : Int)) > 200) with
  | true =>
    go_wp2_with fail
    go_ret
    exact ⟨rfl, HB.out⟩
  | false =>
  by_cases h16 : (16 : Int) < (nn : Int)
  · have d1 : decide ((nn : Int) > 16) = true := by simp; omega
    go_wp2_with fail
    go_ret
    exact ⟨rfl, HB.out⟩
  have d1 : decide ((nn : Int) > 16) = false := by simp; omega
  by_cases h17 : (16 : Int) < (sn : Int)
  · have d2 : decide ((sn : Int) > 16) = true := by simp; omega
    go_wp2_with fail
    go_ret
    exact ⟨rfl, HB.out⟩
  have d2 : decide ((sn : Int) > 16) = false := by simp; omega
  by_cases h600 : (600 : Int) < (tape.size : Int)
  · have d3 : decide ((tape.size : Int) > 600) = true := by simpa using h600
    go_wp2_with fail
    go_ret
    exact ⟨rfl, HB.out⟩
  have d3 : decide ((tape.size : Int) > 600) = false := by simpa using h600
  have hn16 : nn ≤ 16 := by omega
  have hs16 : sn ≤ 16 := by omega
  clear h16 h17 h600
  go_wp2_with fail
  refine (HMany.out _ (HRd.out)).mono ?_
  rintro e w2 ⟨b2, rfl, hnm, hb2⟩
  replace HB := Lib.hid hb2
  clear hb2 d0 d1 d2 d3
  cases b2 with
  | true =>
    go_wp2_with fail
    go_ret
    exact ⟨rfl, HB.out⟩
  | false =>
  have hm30 : m ≤ 30 := by have h1 := hnm rfl; have h2 := HM.out; unfold notMany at h1; omega
  clear hnm
  by_cases h30 : (30 : Int) < (wn : Int)
  · have d4 : decide ((wn : Int) > 30) = true := by simp; omega
    go_wp2_with fail
    go_ret
    exact ⟨rfl, HB.out⟩
  have d4 : decide ((wn : Int) > 30) = false := by simp; omega
  have hw30 : wn ≤ 30 := by omega
  clear h30
  go_wp2_with fail
  clear d4
  go_loopw [19] (fun x wr => ∃ i : Nat, i ≤ nn ∧ x = .int .i64 (i : Nat) ∧ Below w.heap.size w wr) (fun x _ => nn - (intOf x).toNat)
  case atStart => exact ⟨0, by omega, rfl, HB.out⟩
  case round =>
    clear HB
    obtain ⟨i, hi, rfl, hB⟩ := hrel
    have HB := Lib.hid hB
    clear hB
    by_cases hlt : i < nn ∧ i < sn
    · have e1 : decide ((i : Int) < (nn : Int)) = true := by simp; omega
      have e2 : decide ((i : Int) < (sn : Int)) = true := by simp; omega
      have hin : (i : Int) < (nn : Int) := by omega
      have his : (i : Int) < (sn : Int) := by omega
      have hin2 : i < ns.length := by rw [← HN.out]; omega
      have his2 : i < sa.length := by rw [← HS.out]; omega
      obtain ⟨bN, oN, hbN, q0⟩ := texts_at (HRn.out.below HB.out) hin2
      obtain ⟨bS, oS, hbS, q1⟩ := texts_at (HRs.out.below HB.out) his2
      subst hbN hbS
      generalize ns[i] = nm at q0
      generalize sa[i] = sl at q1
      have hi17 : i ≤ 17 := by omega
      go_wp2_with fail
      go_quiet (fail)
      have HQ := Lib.hid (below_drewN HB.out nq)
      go_wp2_with fail
      · go_ret
        exact ⟨rfl, HQ.out⟩
      · go_roundw
        case rel => exact ⟨i + 1, by omega, by go_num, HQ.out⟩
        case measure => simp [intOf]; omega
    · have hex : ¬ i < nn ∨ (i < nn ∧ ¬ i < sn) := by
        by_cases h : i < nn
        · exact .inr ⟨h, fun h2 => hlt ⟨h, h2⟩⟩
        · exact .inl h
      have HDl := Lib.hid (fun W h1 h2 h3 => deal_any sec ns k tape sa AN AS nn cn sn cs W h1 HN.out h2 HS.out h3 (by omega) HZn.out)
      obtain ⟨D, hD⟩ : ∃ D, D = dealD sec ns k tape sa := ⟨_, rfl⟩
      have HDns := Lib.hid (show D.r.ns = ns by rw [hD]; rfl)
      have HDk := Lib.hid (show D.r.k = k by rw [hD]; rfl)
      have HDsec := Lib.hid (show D.sec = sec by rw [hD]; rfl)
      rw [← hD] at HDl
      have HGood := Lib.hid (show dealB sec ns k tape sa = true → Good D (k - 1).toNat tape.data.toList by rw [hD]; exact deal_good)
      clear hD hlt
      generalize dealB sec ns k tape sa = ok at HDl HGood
      rcases hex with hx1 | ⟨hx1, hx2⟩
      · go_wp2_with fail
        refine (HDl.out _ (HRn.out.below HB.out) (HRs.out.below HB.out) (HR.out.below HB.out)).mono ?_
        rintro e w5 ⟨v, rfl, hDV, hb5⟩
        obtain ⟨A1, n1, c1, A2, n2, c2, C, p, q, E2, s2, t2, rfl, hA1, hn1, hA2, hn2, hC, hp, hE, hs2⟩ := hDV
        have HDV5 := Lib.hid (show DV w5 (.agg #[.int .i64 D.r.e, .int .i64 D.r.k, .slice A1 n1 c1, .slice A2 n2 c2, .string D.sec, .slice C p q, .slice E2 s2 t2]) D from ⟨_, _, _, _, _, _, _, _, _, _, _, _, rfl, hA1, hn1, hA2, hn2, hC, hp, hE, hs2⟩)
        have HRV5 := Lib.hid (show RV w5 (.agg #[.int .i64 D.r.e, .int .i64 D.r.k, .slice A1 n1 c1, .slice A2 n2 c2]) D.r from ⟨_, _, _, _, _, _, rfl, hA1, hn1, hA2, hn2⟩)
        have HB5 := Lib.hid (HB.out.trans (hb5.mono HB.out.size))
        have H5 := Lib.hid ((Below.refl w5.heap.size w5).alloc (Nat.le_refl _) (.cells #[.int .i64 D.r.e, .int .i64 D.r.k, .slice A1 n1 c1, .slice A2 n2 c2, .string D.sec, .slice C p q, .slice E2 s2 t2] 42))
        have HX := Lib.hid (heap_alloc_new w5 (.cells #[.int .i64 D.r.e, .int .i64 D.r.k, .slice A1 n1 c1, .slice A2 n2 c2, .string D.sec, .slice C p q, .slice E2 s2 t2] 42))
        clear hA1 hn1 hA2 hn2 hC hp hE hs2 hb5 HB HDl
        go_wp2_with fail
        refine (HWr.out _ (HT.out.below (HB5.out.trans (H5.out.mono HB5.out.size)))).mono ?_
        rintro e w6 ⟨rfl, hb6⟩
        replace HX := Lib.hid (cells_below HX.out hb6)
        replace H5 := Lib.hid (H5.out.trans (hb6.mono H5.out.size))
        clear hb6
        obtain ⟨we, hwe⟩ : ∃ we, we = wrapE sec nonce master := ⟨_, rfl⟩
        obtain ⟨wp, hwp⟩ : ∃ wp, wp = wrapS sec nonce master := ⟨_, rfl⟩
        rw [← hwe, ← hwp]
        have HWe := Lib.hid hwe
        have HWs := Lib.hid hwp
        clear hwe hwp HWr
        cases ok with
        | false =>
          go_wp2_with fail
          refine (HUl.out _ (HR.out.below (HB5.out.trans (H5.out.mono HB5.out.size))) (HT.out.below (HB5.out.trans (H5.out.mono HB5.out.size)))).mono ?_
          rintro e w7 ⟨rfl, hb7⟩
          go_wp2_with fail
          go_ret
          exact ⟨rfl, HB5.out.trans ((H5.out.trans (hb7.mono H5.out.size)).mono HB5.out.size)⟩
        | true =>
        by_cases hw0 : we = 0
        case neg =>
          have hwne : ((we : Int) != 0) = true := by simp; omega
          go_wp2_with fail
          refine (HUl.out _ (HR.out.below (HB5.out.trans (H5.out.mono HB5.out.size))) (HT.out.below (HB5.out.trans (H5.out.mono HB5.out.size)))).mono ?_
          rintro e w7 ⟨rfl, hb7⟩
          go_wp2_with fail
          go_ret
          exact ⟨rfl, HB5.out.trans ((H5.out.trans (hb7.mono H5.out.size)).mono HB5.out.size)⟩
        subst hw0
        have Hg := Lib.hid (HGood.out rfl)
        have Hsa := Lib.hid (show D.sa.length = nn by rw [HN.out, ← HDns.out]; exact Hg.out.sl)
        have Hsh := Lib.hid (show D.sh.length = nn by rw [HN.out, ← HDns.out, Hg.out.sh, List.length_map, List.length_range])
        have Hns := Lib.hid (show D.r.ns.length = nn by rw [HDns.out, ← HN.out])
        clear HGood
        have hlt5 := cell_lt_of HX.out
        go_wp2_with (at_builtin; refine wpList_append_copy (by rfl) (.tmp 112) (.tmp 113) 25 (by rfl) (w5.heap.size + 1) 31 (.agg #[.string ⟨#[]⟩, .string ⟨#[]⟩, .int .i64 0, .string ⟨#[]⟩]) 4 56 Tryz.underlying25 oo_info rfl (by omega) (by rfl) A m c (by rfl) (answersV ls) (HRd.out.below (HB5.out.trans (H5.out.mono HB5.out.size))) (by rw [answersV_len, ← HM.out]) (oo_one ls) (by omega) (by omega) (by omega) ?_)
        intro X cap w7 ho hb7
        have HO := Lib.hid ho
        replace HX := Lib.hid (cells_below HX.out hb7)
        replace H5 := Lib.hid (H5.out.trans (hb7.mono H5.out.size))
        clear ho hb7 hlt5
        go_wp2_with fail
        go_loopw [24, 25, 26] (fun u v x wr => ∃ (i : Nat) (X : Option Addr) (cap : Nat), i ≤ nn ∧ i ≤ wn ∧ x = .int .i64 (i : Nat) ∧ v = .int .i64 ((picks ws i).length : Nat) ∧ u = .slice X (m + (picks ws i).length) cap ∧ wr.ownsRow (w5.heap.size + 1) 31 4 (.slice X (m + (picks ws i).length) cap) (m + (picks ws i).length) (answersV (allA D ls ws i)) ∧ wr.heap[w5.heap.size]? = some (.cells #[.int .i64 D.r.e, .int .i64 D.r.k, .slice A1 n1 c1, .slice A2 n2 c2, .string D.sec, .slice C p q, .slice E2 s2 t2] 42 (0, 0)) ∧ Below w5.heap.size w5 wr) (fun _ _ x _ => nn - (intOf x).toNat)
        case atStart => exact ⟨0, X, cap, by omega, by omega, rfl, rfl, rfl, by
          rw [show allA D ls ws 0 = ls from List.append_nil _]
          exact HO.out, HX.out, H5.out⟩
        case round =>
          clear HX H5 HO
          obtain ⟨i, X, cap, hi, hi2, rfl, rfl, rfl, hO, hX, h5⟩ := hrel
          have HO := Lib.hid hO
          have HX := Lib.hid hX
          have H5 := Lib.hid h5
          have hpl := picks_len ws i
          clear hO hX h5
          by_cases hlt : i < nn ∧ i < wn
          · have e1 : i < nn := hlt.1
            have e2 : i < wn := hlt.2
            have hin : (i : Int) < (nn : Int) := by omega
            have hiw : (i : Int) < (wn : Int) := by omega
            have hiw2 : i < ws.length := by rw [← HWn.out]; omega
            obtain ⟨bW, oW, hbW, q0⟩ := bools_at (HRw.out.below (HB5.out.trans (H5.out.mono HB5.out.size))) hiw2
            subst hbW
            have Hbv := Lib.hid (show ws.getD i false = ws[i] by rw [List.getD_eq_getElem?_getD, List.getElem?_eq_getElem hiw2]; rfl)
            generalize ws[i] = bv at q0 Hbv
            clear hiw2 hlt
            cases bv with
            | false =>
              have Hpk := Lib.hid (picks_no Hbv.out)
              have Hal := Lib.hid (allA_no (D := D) (ls := ls) Hbv.out)
              go_wp2_with fail
              go_roundw
              case rel => exact ⟨i + 1, X, cap, by omega, by omega, by go_num, by rw [Hpk.out], by rw [Hpk.out], by rw [Hpk.out, Hal.out]; exact HO.out, HX.out, H5.out⟩
              case measure => simp [intOf]; omega
            | true =>
              have Hpk := Lib.hid (show (picks ws (i + 1)).length = (picks ws i).length + 1 by rw [picks_yes Hbv.out]; simp)
              have Hal := Lib.hid (show answersV (allA D ls ws (i + 1)) = answersV (allA D ls ws i) ++ ansV (ansD D i) by rw [allA_yes Hbv.out, oo_app]; simp [answersV])
              have HAn := Lib.hid (fun W h => ans_any (.agg #[.int .i64 D.r.e, .int .i64 D.r.k, .slice A1 n1 c1, .slice A2 n2 c2, .string D.sec, .slice C p q, .slice E2 s2 t2]) D i W h (by rw [Hns.out]; omega) (by rw [Hsa.out]; omega) (by rw [Hsh.out]; omega) (by rw [Hns.out]; omega))
              unfold ansA at HAn
              unfold ansV at Hal
              generalize (ansD D i).nm = a0 at HAn Hal
              generalize (ansD D i).salt = a1 at HAn Hal
              generalize (ansD D i).x = a2 at HAn Hal
              generalize (ansD D i).b = a3 at HAn Hal
              generalize hpn : (picks ws i).length = pn at HO Hpk hpl ⊢
              have x0 := rf_at HX.out 0 _ rfl
              have x1 := rf_at HX.out 1 _ rfl
              have x2 := rf_at HX.out 2 _ rfl
              have x3 := rf_at HX.out 3 _ rfl
              have x4 := rf_at HX.out 4 _ rfl
              have x5 := rf_at HX.out 5 _ rfl
              have x6 := rf_at HX.out 6 _ rfl
              go_wp2_with fail
              refine (HAn.out _ (HDV5.out.below H5.out)).mono ?_
              rintro e w8 ⟨rfl, hb8⟩
              replace HX := Lib.hid (cells_below HX.out hb8)
              replace H5 := Lib.hid (H5.out.trans (hb8.mono H5.out.size))
              replace HO := Lib.hid (own_keep HO.out hb8)
              clear hb8 x0 x1 x2 x3 x4 x5 x6 q0
              have hlt5 := cell_lt_of HX.out
              go_wp2_with (at_builtin; refine wpList_append_new (by rfl) (.tmp 131) (.tmp 135) 25 (by rfl) (w5.heap.size + 1) 31 (.agg #[.string ⟨#[]⟩, .string ⟨#[]⟩, .int .i64 0, .string ⟨#[]⟩]) 4 56 Tryz.underlying25 oo_info rfl (by omega) w8 #[.string a0, .string a1, .int .i64 a2, .string a3] 31 (.slice X (m + pn) cap) (m + pn) (answersV (allA D ls ws i)) (by rfl) HO.out w8.heap.size 1 1 (by rfl) (by rfl) (by rfl) (by rfl) (by omega) (by omega) (by omega) (by omega) ?_)
              intro g2 cap2 w9 ho9 hb9 _ _ _
              have HO9 := Lib.hid ho9
              have HX9 := Lib.hid ((hb9.block w5.heap.size (by omega)).trans HX.out)
              have H59 := Lib.hid (H5.out.trans (hb9.mono (by omega)))
              clear ho9 hb9 hlt5
              go_wp2_with fail
              go_roundw
              case rel =>
                refine ⟨i + 1, some ⟨g2, 0, none⟩, cap2, by omega, by omega, by go_num, by rw [Hpk.out]; go_num, by rw [Hpk.out]; rfl, ?_, HX9.out, H59.out⟩
                rw [Hpk.out, Hal.out]
                exact HO9.out
              case measure => simp [intOf]; omega
          · have hex2 : ¬ i < nn ∨ (i < nn ∧ ¬ i < wn) := by
              by_cases h : i < nn
              · exact .inr ⟨h, fun h2 => hlt ⟨h, h2⟩⟩
              · exact .inl h
            have HU := Lib.hid (fun W h1 (h2 : Rd W X (answersV (allA D ls ws i))) h3 h4 => unlock_any (.agg #[.int .i64 D.r.e, .int .i64 D.r.k, .slice A1 n1 c1, .slice A2 n2 c2]) D.r X (m + (picks ws i).length) cap (allA D ls ws i) wp W h1 h2 (by rw [allA_len, ← HM.out]) (by omega) h3 h4)
            have HBl := Lib.hid (fun W h1 (h2 : Rd W X (answersV (allA D ls ws i))) h3 => blame_any (.agg #[.int .i64 D.r.e, .int .i64 D.r.k, .slice A1 n1 c1, .slice A2 n2 c2, .string D.sec, .slice C p q, .slice E2 s2 t2]) D X (m + (picks ws i).length) cap (allA D ls ws i) W h1 (by rw [Hsh.out, Hns.out]) (by rw [Hsa.out, Hns.out]) (by rw [Hns.out]; omega) h2 (by rw [allA_len, ← HM.out]) (by omega) h3)
            have Hlaw := Lib.hid (opens_law Hg.out ls ws (i := i) (by rw [Hns.out]; omega))
            rw [HDsec.out, HDk.out] at Hlaw
            have Hlaw2 := Lib.hid (fun hk => Hlaw.out hk HWe.out.symm)
            rw [← HWs.out] at Hlaw2
            clear Hlaw hlt
            generalize (picks ws i).length = pn at HO HU HBl Hlaw2 hpl ⊢
            rcases hex2 with hy1 | ⟨hy1, hy2⟩
            · have x0 := rf_at HX.out 0 _ rfl
              have x1 := rf_at HX.out 1 _ rfl
              have x2 := rf_at HX.out 2 _ rfl
              have x3 := rf_at HX.out 3 _ rfl
              have x4 := rf_at HX.out 4 _ rfl
              have x5 := rf_at HX.out 5 _ rfl
              have x6 := rf_at HX.out 6 _ rfl
              go_wp2_with fail
              refine (HU.out _ (HRV5.out.below H5.out) (own_rd HO.out) (HR.out.below (HB5.out.trans (H5.out.mono HB5.out.size))) (HT.out.below (HB5.out.trans (H5.out.mono HB5.out.size)))).mono ?_
              rintro e w8 ⟨rfl, hb8⟩
              replace HX := Lib.hid (cells_below HX.out hb8)
              replace H5 := Lib.hid (H5.out.trans (hb8.mono H5.out.size))
              replace HO := Lib.hid (own_keep HO.out hb8)
              clear hb8 x0 x1 x2 x3 x4 x5 x6 HU
              generalize unlE D.r (allA D ls ws i) wp = ue at Hlaw2 ⊢
              generalize unlS D.r (allA D ls ws i) wp = us at Hlaw2 ⊢
              by_cases hk : (pn : Int) < k
              · have d6 : decide ((pn : Int) < k) = true := by simpa using hk
                clear hk
                go_wp2_with fail
                refine (HUl.out _ (HR.out.below (HB5.out.trans (H5.out.mono HB5.out.size))) (HT.out.below (HB5.out.trans (H5.out.mono HB5.out.size)))).mono ?_
                rintro e w7 ⟨rfl, hb7⟩
                go_wp2_with fail
                go_ret
                exact ⟨rfl, HB5.out.trans ((H5.out.trans (hb7.mono H5.out.size)).mono HB5.out.size)⟩
              have d6 : decide ((pn : Int) < k) = false := by simpa using hk
              have hlw := Hlaw2.out (by omega)
              clear hk Hlaw2
              have Hlw := Lib.hid hlw
              clear hlw
              by_cases hu : ue = 0
              · subst hu
                by_cases hs : us = master
                · subst hs
                  have d7 : (us.toList == us.toList) = true := beq_self_eq_true _
                  clear Hlw
                  go_wp2_with fail
                  refine (HUl.out _ (HR.out.below (HB5.out.trans (H5.out.mono HB5.out.size))) (HT.out.below (HB5.out.trans (H5.out.mono HB5.out.size)))).mono ?_
                  rintro e w7 ⟨rfl, hb7⟩
                  go_wp2_with fail
                  go_ret
                  exact ⟨rfl, HB5.out.trans ((H5.out.trans (hb7.mono H5.out.size)).mono HB5.out.size)⟩
                · have d7 := text_ne' hs
                  have Hbl : Hid (∃ a, blamed D (allA D ls ws i) = some a ∧ blB D a = true ∧ blP D a ≠ blQ D a ∧ bs (sumL (blP D a).data.toList) = bs (sumL (blQ D a).data.toList)) := Lib.hid (Hlw.out.resolve_left (fun e => hs e.2))
                  clear hs Hlw
                  obtain ⟨a, hb1, hb2, hb3, hb4⟩ := Hbl.out
                  have z1 := (wit_size (D.sa.getD (a.x - 1).toNat noneT) (D.sh.getD (a.x - 1).toNat (0, noneT)) a.salt (a.x, a.b)).1
                  have z2 := (wit_size (D.sa.getD (a.x - 1).toNat noneT) (D.sh.getD (a.x - 1).toNat (0, noneT)) a.salt (a.x, a.b)).2
                  have HSp := Lib.hid (fun W h => sum_any (blP D a) W h (Nat.le_trans z1 (by omega)))
                  have HSq := Lib.hid (fun W h => sum_any (blQ D a) W h (Nat.le_trans z2 (by omega)))
                  rw [← hb4] at HSq
                  generalize bs (sumL (blP D a).data.toList) = ss at HSp HSq
                  have hss : (ss.toList == ss.toList) = true := beq_self_eq_true _
                  have hne := text_ne' hb3
                  have Hb1 := Lib.hid hb1
                  have Hb2 := Lib.hid hb2
                  clear z1 z2 hb1 hb2 hb3 hb4 Hbl
                  have x0 := rf_at HX.out 0 _ rfl
                  have x1 := rf_at HX.out 1 _ rfl
                  have x2 := rf_at HX.out 2 _ rfl
                  have x3 := rf_at HX.out 3 _ rfl
                  have x4 := rf_at HX.out 4 _ rfl
                  have x5 := rf_at HX.out 5 _ rfl
                  have x6 := rf_at HX.out 6 _ rfl
                  go_wp2_with fail
                  refine (HBl.out _ (HDV5.out.below H5.out) (own_rd HO.out) (HR.out.below (HB5.out.trans (H5.out.mono HB5.out.size)))).mono ?_
                  rintro e w9 ⟨hb9, he⟩
                  rw [Hb1.out] at he
                  simp only [Hb2.out] at he
                  subst he
                  replace H5 := Lib.hid (H5.out.trans (hb9.mono H5.out.size))
                  clear hb9 x0 x1 x2 x3 x4 x5 x6 HBl HX HO
                  generalize blP D a = rP at HSp hne ⊢
                  generalize blQ D a = rQ at HSq hne ⊢
                  go_wp2_with fail
                  refine (HUl.out _ (HR.out.below (HB5.out.trans (H5.out.mono HB5.out.size))) (HT.out.below (HB5.out.trans (H5.out.mono HB5.out.size)))).mono ?_
                  rintro e w10 ⟨rfl, hb10⟩
                  replace H5 := Lib.hid (H5.out.trans (hb10.mono H5.out.size))
                  clear hb10
                  go_wp2_with fail
                  refine (HSp.out _ (HR.out.below (HB5.out.trans (H5.out.mono HB5.out.size)))).mono ?_
                  rintro e w11 ⟨rfl, hb11⟩
                  replace H5 := Lib.hid (H5.out.trans (hb11.mono H5.out.size))
                  clear hb11
                  go_wp2_with fail
                  refine (HSq.out _ (HR.out.below (HB5.out.trans (H5.out.mono HB5.out.size)))).mono ?_
                  rintro e w12 ⟨rfl, hb12⟩
                  replace H5 := Lib.hid (H5.out.trans (hb12.mono H5.out.size))
                  clear hb12
                  go_wp2_with fail
                  go_ret
                  exact ⟨rfl, HB5.out.trans (H5.out.mono HB5.out.size)⟩
              · have d7 : ((ue : Int) == 0) = false := by simp; omega
                have Hbl : Hid (∃ a, blamed D (allA D ls ws i) = some a ∧ blB D a = true ∧ blP D a ≠ blQ D a ∧ bs (sumL (blP D a).data.toList) = bs (sumL (blQ D a).data.toList)) := Lib.hid (Hlw.out.resolve_left (fun e => hu e.1))
                clear hu Hlw
                obtain ⟨a, hb1, hb2, hb3, hb4⟩ := Hbl.out
                have z1 := (wit_size (D.sa.getD (a.x - 1).toNat noneT) (D.sh.getD (a.x - 1).toNat (0, noneT)) a.salt (a.x, a.b)).1
                have z2 := (wit_size (D.sa.getD (a.x - 1).toNat noneT) (D.sh.getD (a.x - 1).toNat (0, noneT)) a.salt (a.x, a.b)).2
                have HSp := Lib.hid (fun W h => sum_any (blP D a) W h (Nat.le_trans z1 (by omega)))
                have HSq := Lib.hid (fun W h => sum_any (blQ D a) W h (Nat.le_trans z2 (by omega)))
                rw [← hb4] at HSq
                generalize bs (sumL (blP D a).data.toList) = ss at HSp HSq
                have hss : (ss.toList == ss.toList) = true := beq_self_eq_true _
                have hne := text_ne' hb3
                have Hb1 := Lib.hid hb1
                have Hb2 := Lib.hid hb2
                clear z1 z2 hb1 hb2 hb3 hb4 Hbl
                have x0 := rf_at HX.out 0 _ rfl
                have x1 := rf_at HX.out 1 _ rfl
                have x2 := rf_at HX.out 2 _ rfl
                have x3 := rf_at HX.out 3 _ rfl
                have x4 := rf_at HX.out 4 _ rfl
                have x5 := rf_at HX.out 5 _ rfl
                have x6 := rf_at HX.out 6 _ rfl
                go_wp2_with fail
                refine (HBl.out _ (HDV5.out.below H5.out) (own_rd HO.out) (HR.out.below (HB5.out.trans (H5.out.mono HB5.out.size)))).mono ?_
                rintro e w9 ⟨hb9, he⟩
                rw [Hb1.out] at he
                simp only [Hb2.out] at he
                subst he
                replace H5 := Lib.hid (H5.out.trans (hb9.mono H5.out.size))
                clear hb9 x0 x1 x2 x3 x4 x5 x6 HBl HX HO
                generalize blP D a = rP at HSp hne ⊢
                generalize blQ D a = rQ at HSq hne ⊢
                go_wp2_with fail
                refine (HUl.out _ (HR.out.below (HB5.out.trans (H5.out.mono HB5.out.size))) (HT.out.below (HB5.out.trans (H5.out.mono HB5.out.size)))).mono ?_
                rintro e w10 ⟨rfl, hb10⟩
                replace H5 := Lib.hid (H5.out.trans (hb10.mono H5.out.size))
                clear hb10
                go_wp2_with fail
                refine (HSp.out _ (HR.out.below (HB5.out.trans (H5.out.mono HB5.out.size)))).mono ?_
                rintro e w11 ⟨rfl, hb11⟩
                replace H5 := Lib.hid (H5.out.trans (hb11.mono H5.out.size))
                clear hb11
                go_wp2_with fail
                refine (HSq.out _ (HR.out.below (HB5.out.trans (H5.out.mono HB5.out.size)))).mono ?_
                rintro e w12 ⟨rfl, hb12⟩
                replace H5 := Lib.hid (H5.out.trans (hb12.mono H5.out.size))
                clear hb12
                go_wp2_with fail
                go_ret
                exact ⟨rfl, HB5.out.trans (H5.out.mono HB5.out.size)⟩
            · have x0 := rf_at HX.out 0 _ rfl
              have x1 := rf_at HX.out 1 _ rfl
              have x2 := rf_at HX.out 2 _ rfl
              have x3 := rf_at HX.out 3 _ rfl
              have x4 := rf_at HX.out 4 _ rfl
              have x5 := rf_at HX.out 5 _ rfl
              have x6 := rf_at HX.out 6 _ rfl
              go_wp2_with fail
              refine (HU.out _ (HRV5.out.below H5.out) (own_rd HO.out) (HR.out.below (HB5.out.trans (H5.out.mono HB5.out.size))) (HT.out.below (HB5.out.trans (H5.out.mono HB5.out.size)))).mono ?_
              rintro e w8 ⟨rfl, hb8⟩
              replace HX := Lib.hid (cells_below HX.out hb8)
              replace H5 := Lib.hid (H5.out.trans (hb8.mono H5.out.size))
              replace HO := Lib.hid (own_keep HO.out hb8)
              clear hb8 x0 x1 x2 x3 x4 x5 x6 HU
              generalize unlE D.r (allA D ls ws i) wp = ue at Hlaw2 ⊢
              generalize unlS D.r (allA D ls ws i) wp = us at Hlaw2 ⊢
              by_cases hk : (pn : Int) < k
              · have d6 : decide ((pn : Int) < k) = true := by simpa using hk
                clear hk
                go_wp2_with fail
                refine (HUl.out _ (HR.out.below (HB5.out.trans (H5.out.mono HB5.out.size))) (HT.out.below (HB5.out.trans (H5.out.mono HB5.out.size)))).mono ?_
                rintro e w7 ⟨rfl, hb7⟩
                go_wp2_with fail
                go_ret
                exact ⟨rfl, HB5.out.trans ((H5.out.trans (hb7.mono H5.out.size)).mono HB5.out.size)⟩
              have d6 : decide ((pn : Int) < k) = false := by simpa using hk
              have hlw := Hlaw2.out (by omega)
              clear hk Hlaw2
              have Hlw := Lib.hid hlw
              clear hlw
              by_cases hu : ue = 0
              · subst hu
                by_cases hs : us = master
                · subst hs
                  have d7 : (us.toList == us.toList) = true := beq_self_eq_true _
                  clear Hlw
                  go_wp2_with fail
                  refine (HUl.out _ (HR.out.below (HB5.out.trans (H5.out.mono HB5.out.size))) (HT.out.below (HB5.out.trans (H5.out.mono HB5.out.size)))).mono ?_
                  rintro e w7 ⟨rfl, hb7⟩
                  go_wp2_with fail
                  go_ret
                  exact ⟨rfl, HB5.out.trans ((H5.out.trans (hb7.mono H5.out.size)).mono HB5.out.size)⟩
                · have d7 := text_ne' hs
                  have Hbl : Hid (∃ a, blamed D (allA D ls ws i) = some a ∧ blB D a = true ∧ blP D a ≠ blQ D a ∧ bs (sumL (blP D a).data.toList) = bs (sumL (blQ D a).data.toList)) := Lib.hid (Hlw.out.resolve_left (fun e => hs e.2))
                  clear hs Hlw
                  obtain ⟨a, hb1, hb2, hb3, hb4⟩ := Hbl.out
                  have z1 := (wit_size (D.sa.getD (a.x - 1).toNat noneT) (D.sh.getD (a.x - 1).toNat (0, noneT)) a.salt (a.x, a.b)).1
                  have z2 := (wit_size (D.sa.getD (a.x - 1).toNat noneT) (D.sh.getD (a.x - 1).toNat (0, noneT)) a.salt (a.x, a.b)).2
                  have HSp := Lib.hid (fun W h => sum_any (blP D a) W h (Nat.le_trans z1 (by omega)))
                  have HSq := Lib.hid (fun W h => sum_any (blQ D a) W h (Nat.le_trans z2 (by omega)))
                  rw [← hb4] at HSq
                  generalize bs (sumL (blP D a).data.toList) = ss at HSp HSq
                  have hss : (ss.toList == ss.toList) = true := beq_self_eq_true _
                  have hne := text_ne' hb3
                  have Hb1 := Lib.hid hb1
                  have Hb2 := Lib.hid hb2
                  clear z1 z2 hb1 hb2 hb3 hb4 Hbl
                  have x0 := rf_at HX.out 0 _ rfl
                  have x1 := rf_at HX.out 1 _ rfl
                  have x2 := rf_at HX.out 2 _ rfl
                  have x3 := rf_at HX.out 3 _ rfl
                  have x4 := rf_at HX.out 4 _ rfl
                  have x5 := rf_at HX.out 5 _ rfl
                  have x6 := rf_at HX.out 6 _ rfl
                  go_wp2_with fail
                  refine (HBl.out _ (HDV5.out.below H5.out) (own_rd HO.out) (HR.out.below (HB5.out.trans (H5.out.mono HB5.out.size)))).mono ?_
                  rintro e w9 ⟨hb9, he⟩
                  rw [Hb1.out] at he
                  simp only [Hb2.out] at he
                  subst he
                  replace H5 := Lib.hid (H5.out.trans (hb9.mono H5.out.size))
                  clear hb9 x0 x1 x2 x3 x4 x5 x6 HBl HX HO
                  generalize blP D a = rP at HSp hne ⊢
                  generalize blQ D a = rQ at HSq hne ⊢
                  go_wp2_with fail
                  refine (HUl.out _ (HR.out.below (HB5.out.trans (H5.out.mono HB5.out.size))) (HT.out.below (HB5.out.trans (H5.out.mono HB5.out.size)))).mono ?_
                  rintro e w10 ⟨rfl, hb10⟩
                  replace H5 := Lib.hid (H5.out.trans (hb10.mono H5.out.size))
                  clear hb10
                  go_wp2_with fail
                  refine (HSp.out _ (HR.out.below (HB5.out.trans (H5.out.mono HB5.out.size)))).mono ?_
                  rintro e w11 ⟨rfl, hb11⟩
                  replace H5 := Lib.hid (H5.out.trans (hb11.mono H5.out.size))
                  clear hb11
                  go_wp2_with fail
                  refine (HSq.out _ (HR.out.below (HB5.out.trans (H5.out.mono HB5.out.size)))).mono ?_
                  rintro e w12 ⟨rfl, hb12⟩
                  replace H5 := Lib.hid (H5.out.trans (hb12.mono H5.out.size))
                  clear hb12
                  go_wp2_with fail
                  go_ret
                  exact ⟨rfl, HB5.out.trans (H5.out.mono HB5.out.size)⟩
              · have d7 : ((ue : Int) == 0) = false := by simp; omega
                have Hbl : Hid (∃ a, blamed D (allA D ls ws i) = some a ∧ blB D a = true ∧ blP D a ≠ blQ D a ∧ bs (sumL (blP D a).data.toList) = bs (sumL (blQ D a).data.toList)) := Lib.hid (Hlw.out.resolve_left (fun e => hu e.1))
                clear hu Hlw
                obtain ⟨a, hb1, hb2, hb3, hb4⟩ := Hbl.out
                have z1 := (wit_size (D.sa.getD (a.x - 1).toNat noneT) (D.sh.getD (a.x - 1).toNat (0, noneT)) a.salt (a.x, a.b)).1
                have z2 := (wit_size (D.sa.getD (a.x - 1).toNat noneT) (D.sh.getD (a.x - 1).toNat (0, noneT)) a.salt (a.x, a.b)).2
                have HSp := Lib.hid (fun W h => sum_any (blP D a) W h (Nat.le_trans z1 (by omega)))
                have HSq := Lib.hid (fun W h => sum_any (blQ D a) W h (Nat.le_trans z2 (by omega)))
                rw [← hb4] at HSq
                generalize bs (sumL (blP D a).data.toList) = ss at HSp HSq
                have hss : (ss.toList == ss.toList) = true := beq_self_eq_true _
                have hne := text_ne' hb3
                have Hb1 := Lib.hid hb1
                have Hb2 := Lib.hid hb2
                clear z1 z2 hb1 hb2 hb3 hb4 Hbl
                have x0 := rf_at HX.out 0 _ rfl
                have x1 := rf_at HX.out 1 _ rfl
                have x2 := rf_at HX.out 2 _ rfl
                have x3 := rf_at HX.out 3 _ rfl
                have x4 := rf_at HX.out 4 _ rfl
                have x5 := rf_at HX.out 5 _ rfl
                have x6 := rf_at HX.out 6 _ rfl
                go_wp2_with fail
                refine (HBl.out _ (HDV5.out.below H5.out) (own_rd HO.out) (HR.out.below (HB5.out.trans (H5.out.mono HB5.out.size)))).mono ?_
                rintro e w9 ⟨hb9, he⟩
                rw [Hb1.out] at he
                simp only [Hb2.out] at he
                subst he
                replace H5 := Lib.hid (H5.out.trans (hb9.mono H5.out.size))
                clear hb9 x0 x1 x2 x3 x4 x5 x6 HBl HX HO
                generalize blP D a = rP at HSp hne ⊢
                generalize blQ D a = rQ at HSq hne ⊢
                go_wp2_with fail
                refine (HUl.out _ (HR.out.below (HB5.out.trans (H5.out.mono HB5.out.size))) (HT.out.below (HB5.out.trans (H5.out.mono HB5.out.size)))).mono ?_
                rintro e w10 ⟨rfl, hb10⟩
                replace H5 := Lib.hid (H5.out.trans (hb10.mono H5.out.size))
                clear hb10
                go_wp2_with fail
                refine (HSp.out _ (HR.out.below (HB5.out.trans (H5.out.mono HB5.out.size)))).mono ?_
                rintro e w11 ⟨rfl, hb11⟩
                replace H5 := Lib.hid (H5.out.trans (hb11.mono H5.out.size))
                clear hb11
                go_wp2_with fail
                refine (HSq.out _ (HR.out.below (HB5.out.trans (H5.out.mono HB5.out.size)))).mono ?_
                rintro e w12 ⟨rfl, hb12⟩
                replace H5 := Lib.hid (H5.out.trans (hb12.mono H5.out.size))
                clear hb12
                go_wp2_with fail
                go_ret
                exact ⟨rfl, HB5.out.trans (H5.out.mono HB5.out.size)⟩
      · go_wp2_with fail
        refine (HDl.out _ (HRn.out.below HB.out) (HRs.out.below HB.out) (HR.out.below HB.out)).mono ?_
        rintro e w5 ⟨v, rfl, hDV, hb5⟩
        obtain ⟨A1, n1, c1, A2, n2, c2, C, p, q, E2, s2, t2, rfl, hA1, hn1, hA2, hn2, hC, hp, hE, hs2⟩ := hDV
        have HDV5 := Lib.hid (show DV w5 (.agg #[.int .i64 D.r.e, .int .i64 D.r.k, .slice A1 n1 c1, .slice A2 n2 c2, .string D.sec, .slice C p q, .slice E2 s2 t2]) D from ⟨_, _, _, _, _, _, _, _, _, _, _, _, rfl, hA1, hn1, hA2, hn2, hC, hp, hE, hs2⟩)
        have HRV5 := Lib.hid (show RV w5 (.agg #[.int .i64 D.r.e, .int .i64 D.r.k, .slice A1 n1 c1, .slice A2 n2 c2]) D.r from ⟨_, _, _, _, _, _, rfl, hA1, hn1, hA2, hn2⟩)
        have HB5 := Lib.hid (HB.out.trans (hb5.mono HB.out.size))
        have H5 := Lib.hid ((Below.refl w5.heap.size w5).alloc (Nat.le_refl _) (.cells #[.int .i64 D.r.e, .int .i64 D.r.k, .slice A1 n1 c1, .slice A2 n2 c2, .string D.sec, .slice C p q, .slice E2 s2 t2] 42))
        have HX := Lib.hid (heap_alloc_new w5 (.cells #[.int .i64 D.r.e, .int .i64 D.r.k, .slice A1 n1 c1, .slice A2 n2 c2, .string D.sec, .slice C p q, .slice E2 s2 t2] 42))
        clear hA1 hn1 hA2 hn2 hC hp hE hs2 hb5 HB HDl
        go_wp2_with fail
        refine (HWr.out _ (HT.out.below (HB5.out.trans (H5.out.mono HB5.out.size)))).mono ?_
        rintro e w6 ⟨rfl, hb6⟩
        replace HX := Lib.hid (cells_below HX.out hb6)
        replace H5 := Lib.hid (H5.out.trans (hb6.mono H5.out.size))
        clear hb6
        obtain ⟨we, hwe⟩ : ∃ we, we = wrapE sec nonce master := ⟨_, rfl⟩
        obtain ⟨wp, hwp⟩ : ∃ wp, wp = wrapS sec nonce master := ⟨_, rfl⟩
        rw [← hwe, ← hwp]
        have HWe := Lib.hid hwe
        have HWs := Lib.hid hwp
        clear hwe hwp HWr
        cases ok with
        | false =>
          go_wp2_with fail
          refine (HUl.out _ (HR.out.below (HB5.out.trans (H5.out.mono HB5.out.size))) (HT.out.below (HB5.out.trans (H5.out.mono HB5.out.size)))).mono ?_
          rintro e w7 ⟨rfl, hb7⟩
          go_wp2_with fail
          go_ret
          exact ⟨rfl, HB5.out.trans ((H5.out.trans (hb7.mono H5.out.size)).mono HB5.out.size)⟩
        | true =>
        by_cases hw0 : we = 0
        case neg =>
          have hwne : ((we : Int) != 0) = true := by simp; omega
          go_wp2_with fail
          refine (HUl.out _ (HR.out.below (HB5.out.trans (H5.out.mono HB5.out.size))) (HT.out.below (HB5.out.trans (H5.out.mono HB5.out.size)))).mono ?_
          rintro e w7 ⟨rfl, hb7⟩
          go_wp2_with fail
          go_ret
          exact ⟨rfl, HB5.out.trans ((H5.out.trans (hb7.mono H5.out.size)).mono HB5.out.size)⟩
        subst hw0
        have Hg := Lib.hid (HGood.out rfl)
        have Hsa := Lib.hid (show D.sa.length = nn by rw [HN.out, ← HDns.out]; exact Hg.out.sl)
        have Hsh := Lib.hid (show D.sh.length = nn by rw [HN.out, ← HDns.out, Hg.out.sh, List.length_map, List.length_range])
        have Hns := Lib.hid (show D.r.ns.length = nn by rw [HDns.out, ← HN.out])
        clear HGood
        have hlt5 := cell_lt_of HX.out
        go_wp2_with (at_builtin; refine wpList_append_copy (by rfl) (.tmp 112) (.tmp 113) 25 (by rfl) (w5.heap.size + 1) 31 (.agg #[.string ⟨#[]⟩, .string ⟨#[]⟩, .int .i64 0, .string ⟨#[]⟩]) 4 56 Tryz.underlying25 oo_info rfl (by omega) (by rfl) A m c (by rfl) (answersV ls) (HRd.out.below (HB5.out.trans (H5.out.mono HB5.out.size))) (by rw [answersV_len, ← HM.out]) (oo_one ls) (by omega) (by omega) (by omega) ?_)
        intro X cap w7 ho hb7
        have HO := Lib.hid ho
        replace HX := Lib.hid (cells_below HX.out hb7)
        replace H5 := Lib.hid (H5.out.trans (hb7.mono H5.out.size))
        clear ho hb7 hlt5
        go_wp2_with fail
        go_loopw [24, 25, 26] (fun u v x wr => ∃ (i : Nat) (X : Option Addr) (cap : Nat), i ≤ nn ∧ i ≤ wn ∧ x = .int .i64 (i : Nat) ∧ v = .int .i64 ((picks ws i).length : Nat) ∧ u = .slice X (m + (picks ws i).length) cap ∧ wr.ownsRow (w5.heap.size + 1) 31 4 (.slice X (m + (picks ws i).length) cap) (m + (picks ws i).length) (answersV (allA D ls ws i)) ∧ wr.heap[w5.heap.size]? = some (.cells #[.int .i64 D.r.e, .int .i64 D.r.k, .slice A1 n1 c1, .slice A2 n2 c2, .string D.sec, .slice C p q, .slice E2 s2 t2] 42 (0, 0)) ∧ Below w5.heap.size w5 wr) (fun _ _ x _ => nn - (intOf x).toNat)
        case atStart => exact ⟨0, X, cap, by omega, by omega, rfl, rfl, rfl, by
          rw [show allA D ls ws 0 = ls from List.append_nil _]
          exact HO.out, HX.out, H5.out⟩
        case round =>
          clear HX H5 HO
          obtain ⟨i, X, cap, hi, hi2, rfl, rfl, rfl, hO, hX, h5⟩ := hrel
          have HO := Lib.hid hO
          have HX := Lib.hid hX
          have H5 := Lib.hid h5
          have hpl := picks_len ws i
          clear hO hX h5
          by_cases hlt : i < nn ∧ i < wn
          · have e1 : i < nn := hlt.1
            have e2 : i < wn := hlt.2
            have hin : (i : Int) < (nn : Int) := by omega
            have hiw : (i : Int) < (wn : Int) := by omega
            have hiw2 : i < ws.length := by rw [← HWn.out]; omega
            obtain ⟨bW, oW, hbW, q0⟩ := bools_at (HRw.out.below (HB5.out.trans (H5.out.mono HB5.out.size))) hiw2
            subst hbW
            have Hbv := Lib.hid (show ws.getD i false = ws[i] by rw [List.getD_eq_getElem?_getD, List.getElem?_eq_getElem hiw2]; rfl)
            generalize ws[i] = bv at q0 Hbv
            clear hiw2 hlt
            cases bv with
            | false =>
              have Hpk := Lib.hid (picks_no Hbv.out)
              have Hal := Lib.hid (allA_no (D := D) (ls := ls) Hbv.out)
              go_wp2_with fail
              go_roundw
              case rel => exact ⟨i + 1, X, cap, by omega, by omega, by go_num, by rw [Hpk.out], by rw [Hpk.out], by rw [Hpk.out, Hal.out]; exact HO.out, HX.out, H5.out⟩
              case measure => simp [intOf]; omega
            | true =>
              have Hpk := Lib.hid (show (picks ws (i + 1)).length = (picks ws i).length + 1 by rw [picks_yes Hbv.out]; simp)
              have Hal := Lib.hid (show answersV (allA D ls ws (i + 1)) = answersV (allA D ls ws i) ++ ansV (ansD D i) by rw [allA_yes Hbv.out, oo_app]; simp [answersV])
              have HAn := Lib.hid (fun W h => ans_any (.agg #[.int .i64 D.r.e, .int .i64 D.r.k, .slice A1 n1 c1, .slice A2 n2 c2, .string D.sec, .slice C p q, .slice E2 s2 t2]) D i W h (by rw [Hns.out]; omega) (by rw [Hsa.out]; omega) (by rw [Hsh.out]; omega) (by rw [Hns.out]; omega))
              unfold ansA at HAn
              unfold ansV at Hal
              generalize (ansD D i).nm = a0 at HAn Hal
              generalize (ansD D i).salt = a1 at HAn Hal
              generalize (ansD D i).x = a2 at HAn Hal
              generalize (ansD D i).b = a3 at HAn Hal
              generalize hpn : (picks ws i).length = pn at HO Hpk hpl ⊢
              have x0 := rf_at HX.out 0 _ rfl
              have x1 := rf_at HX.out 1 _ rfl
              have x2 := rf_at HX.out 2 _ rfl
              have x3 := rf_at HX.out 3 _ rfl
              have x4 := rf_at HX.out 4 _ rfl
              have x5 := rf_at HX.out 5 _ rfl
              have x6 := rf_at HX.out 6 _ rfl
              go_wp2_with fail
              refine (HAn.out _ (HDV5.out.below H5.out)).mono ?_
              rintro e w8 ⟨rfl, hb8⟩
              replace HX := Lib.hid (cells_below HX.out hb8)
              replace H5 := Lib.hid (H5.out.trans (hb8.mono H5.out.size))
              replace HO := Lib.hid (own_keep HO.out hb8)
              clear hb8 x0 x1 x2 x3 x4 x5 x6 q0
              have hlt5 := cell_lt_of HX.out
              go_wp2_with (at_builtin; refine wpList_append_new (by rfl) (.tmp 131) (.tmp 135) 25 (by rfl) (w5.heap.size + 1) 31 (.agg #[.string ⟨#[]⟩, .string ⟨#[]⟩, .int .i64 0, .string ⟨#[]⟩]) 4 56 Tryz.underlying25 oo_info rfl (by omega) w8 #[.string a0, .string a1, .int .i64 a2, .string a3] 31 (.slice X (m + pn) cap) (m + pn) (answersV (allA D ls ws i)) (by rfl) HO.out w8.heap.size 1 1 (by rfl) (by rfl) (by rfl) (by rfl) (by omega) (by omega) (by omega) (by omega) ?_)
              intro g2 cap2 w9 ho9 hb9 _ _ _
              have HO9 := Lib.hid ho9
              have HX9 := Lib.hid ((hb9.block w5.heap.size (by omega)).trans HX.out)
              have H59 := Lib.hid (H5.out.trans (hb9.mono (by omega)))
              clear ho9 hb9 hlt5
              go_wp2_with fail
              go_roundw
              case rel =>
                refine ⟨i + 1, some ⟨g2, 0, none⟩, cap2, by omega, by omega, by go_num, by rw [Hpk.out]; go_num, by rw [Hpk.out]; rfl, ?_, HX9.out, H59.out⟩
                rw [Hpk.out, Hal.out]
                exact HO9.out
              case measure => simp [intOf]; omega
          · have hex2 : ¬ i < nn ∨ (i < nn ∧ ¬ i < wn) := by
              by_cases h : i < nn
              · exact .inr ⟨h, fun h2 => hlt ⟨h, h2⟩⟩
              · exact .inl h
            have HU := Lib.hid (fun W h1 (h2 : Rd W X (answersV (allA D ls ws i))) h3 h4 => unlock_any (.agg #[.int .i64 D.r.e, .int .i64 D.r.k, .slice A1 n1 c1, .slice A2 n2 c2]) D.r X (m + (picks ws i).length) cap (allA D ls ws i) wp W h1 h2 (by rw [allA_len, ← HM.out]) (by omega) h3 h4)
            have HBl := Lib.hid (fun W h1 (h2 : Rd W X (answersV (allA D ls ws i))) h3 => blame_any (.agg #[.int .i64 D.r.e, .int .i64 D.r.k, .slice A1 n1 c1, .slice A2 n2 c2, .string D.sec, .slice C p q, .slice E2 s2 t2]) D X (m + (picks ws i).length) cap (allA D ls ws i) W h1 (by rw [Hsh.out, Hns.out]) (by rw [Hsa.out, Hns.out]) (by rw [Hns.out]; omega) h2 (by rw [allA_len, ← HM.out]) (by omega) h3)
            have Hlaw := Lib.hid (opens_law Hg.out ls ws (i := i) (by rw [Hns.out]; omega))
            rw [HDsec.out, HDk.out] at Hlaw
            have Hlaw2 := Lib.hid (fun hk => Hlaw.out hk HWe.out.symm)
            rw [← HWs.out] at Hlaw2
            clear Hlaw hlt
            generalize (picks ws i).length = pn at HO HU HBl Hlaw2 hpl ⊢
            rcases hex2 with hy1 | ⟨hy1, hy2⟩
            · have x0 := rf_at HX.out 0 _ rfl
              have x1 := rf_at HX.out 1 _ rfl
              have x2 := rf_at HX.out 2 _ rfl
              have x3 := rf_at HX.out 3 _ rfl
              have x4 := rf_at HX.out 4 _ rfl
              have x5 := rf_at HX.out 5 _ rfl
              have x6 := rf_at HX.out 6 _ rfl
              go_wp2_with fail
              refine (HU.out _ (HRV5.out.below H5.out) (own_rd HO.out) (HR.out.below (HB5.out.trans (H5.out.mono HB5.out.size))) (HT.out.below (HB5.out.trans (H5.out.mono HB5.out.size)))).mono ?_
              rintro e w8 ⟨rfl, hb8⟩
              replace HX := Lib.hid (cells_below HX.out hb8)
              replace H5 := Lib.hid (H5.out.trans (hb8.mono H5.out.size))
              replace HO := Lib.hid (own_keep HO.out hb8)
              clear hb8 x0 x1 x2 x3 x4 x5 x6 HU
              generalize unlE D.r (allA D ls ws i) wp = ue at Hlaw2 ⊢
              generalize unlS D.r (allA D ls ws i) wp = us at Hlaw2 ⊢
              by_cases hk : (pn : Int) < k
              · have d6 : decide ((pn : Int) < k) = true := by simpa using hk
                clear hk
                go_wp2_with fail
                refine (HUl.out _ (HR.out.below (HB5.out.trans (H5.out.mono HB5.out.size))) (HT.out.below (HB5.out.trans (H5.out.mono HB5.out.size)))).mono ?_
                rintro e w7 ⟨rfl, hb7⟩
                go_wp2_with fail
                go_ret
                exact ⟨rfl, HB5.out.trans ((H5.out.trans (hb7.mono H5.out.size)).mono HB5.out.size)⟩
              have d6 : decide ((pn : Int) < k) = false := by simpa using hk
              have hlw := Hlaw2.out (by omega)
              clear hk Hlaw2
              have Hlw := Lib.hid hlw
              clear hlw
              by_cases hu : ue = 0
              · subst hu
                by_cases hs : us = master
                · subst hs
                  have d7 : (us.toList == us.toList) = true := beq_self_eq_true _
                  clear Hlw
                  go_wp2_with fail
                  refine (HUl.out _ (HR.out.below (HB5.out.trans (H5.out.mono HB5.out.size))) (HT.out.below (HB5.out.trans (H5.out.mono HB5.out.size)))).mono ?_
                  rintro e w7 ⟨rfl, hb7⟩
                  go_wp2_with fail
                  go_ret
                  exact ⟨rfl, HB5.out.trans ((H5.out.trans (hb7.mono H5.out.size)).mono HB5.out.size)⟩
                · have d7 := text_ne' hs
                  have Hbl : Hid (∃ a, blamed D (allA D ls ws i) = some a ∧ blB D a = true ∧ blP D a ≠ blQ D a ∧ bs (sumL (blP D a).data.toList) = bs (sumL (blQ D a).data.toList)) := Lib.hid (Hlw.out.resolve_left (fun e => hs e.2))
                  clear hs Hlw
                  obtain ⟨a, hb1, hb2, hb3, hb4⟩ := Hbl.out
                  have z1 := (wit_size (D.sa.getD (a.x - 1).toNat noneT) (D.sh.getD (a.x - 1).toNat (0, noneT)) a.salt (a.x, a.b)).1
                  have z2 := (wit_size (D.sa.getD (a.x - 1).toNat noneT) (D.sh.getD (a.x - 1).toNat (0, noneT)) a.salt (a.x, a.b)).2
                  have HSp := Lib.hid (fun W h => sum_any (blP D a) W h (Nat.le_trans z1 (by omega)))
                  have HSq := Lib.hid (fun W h => sum_any (blQ D a) W h (Nat.le_trans z2 (by omega)))
                  rw [← hb4] at HSq
                  generalize bs (sumL (blP D a).data.toList) = ss at HSp HSq
                  have hss : (ss.toList == ss.toList) = true := beq_self_eq_true _
                  have hne := text_ne' hb3
                  have Hb1 := Lib.hid hb1
                  have Hb2 := Lib.hid hb2
                  clear z1 z2 hb1 hb2 hb3 hb4 Hbl
                  have x0 := rf_at HX.out 0 _ rfl
                  have x1 := rf_at HX.out 1 _ rfl
                  have x2 := rf_at HX.out 2 _ rfl
                  have x3 := rf_at HX.out 3 _ rfl
                  have x4 := rf_at HX.out 4 _ rfl
                  have x5 := rf_at HX.out 5 _ rfl
                  have x6 := rf_at HX.out 6 _ rfl
                  go_wp2_with fail
                  refine (HBl.out _ (HDV5.out.below H5.out) (own_rd HO.out) (HR.out.below (HB5.out.trans (H5.out.mono HB5.out.size)))).mono ?_
                  rintro e w9 ⟨hb9, he⟩
                  rw [Hb1.out] at he
                  simp only [Hb2.out] at he
                  subst he
                  replace H5 := Lib.hid (H5.out.trans (hb9.mono H5.out.size))
                  clear hb9 x0 x1 x2 x3 x4 x5 x6 HBl HX HO
                  generalize blP D a = rP at HSp hne ⊢
                  generalize blQ D a = rQ at HSq hne ⊢
                  go_wp2_with fail
                  refine (HUl.out _ (HR.out.below (HB5.out.trans (H5.out.mono HB5.out.size))) (HT.out.below (HB5.out.trans (H5.out.mono HB5.out.size)))).mono ?_
                  rintro e w10 ⟨rfl, hb10⟩
                  replace H5 := Lib.hid (H5.out.trans (hb10.mono H5.out.size))
                  clear hb10
                  go_wp2_with fail
                  refine (HSp.out _ (HR.out.below (HB5.out.trans (H5.out.mono HB5.out.size)))).mono ?_
                  rintro e w11 ⟨rfl, hb11⟩
                  replace H5 := Lib.hid (H5.out.trans (hb11.mono H5.out.size))
                  clear hb11
                  go_wp2_with fail
                  refine (HSq.out _ (HR.out.below (HB5.out.trans (H5.out.mono HB5.out.size)))).mono ?_
                  rintro e w12 ⟨rfl, hb12⟩
                  replace H5 := Lib.hid (H5.out.trans (hb12.mono H5.out.size))
                  clear hb12
                  go_wp2_with fail
                  go_ret
                  exact ⟨rfl, HB5.out.trans (H5.out.mono HB5.out.size)⟩
              · have d7 : ((ue : Int) == 0) = false := by simp; omega
                have Hbl : Hid (∃ a, blamed D (allA D ls ws i) = some a ∧ blB D a = true ∧ blP D a ≠ blQ D a ∧ bs (sumL (blP D a).data.toList) = bs (sumL (blQ D a).data.toList)) := Lib.hid (Hlw.out.resolve_left (fun e => hu e.1))
                clear hu Hlw
                obtain ⟨a, hb1, hb2, hb3, hb4⟩ := Hbl.out
                have z1 := (wit_size (D.sa.getD (a.x - 1).toNat noneT) (D.sh.getD (a.x - 1).toNat (0, noneT)) a.salt (a.x, a.b)).1
                have z2 := (wit_size (D.sa.getD (a.x - 1).toNat noneT) (D.sh.getD (a.x - 1).toNat (0, noneT)) a.salt (a.x, a.b)).2
                have HSp := Lib.hid (fun W h => sum_any (blP D a) W h (Nat.le_trans z1 (by omega)))
                have HSq := Lib.hid (fun W h => sum_any (blQ D a) W h (Nat.le_trans z2 (by omega)))
                rw [← hb4] at HSq
                generalize bs (sumL (blP D a).data.toList) = ss at HSp HSq
                have hss : (ss.toList == ss.toList) = true := beq_self_eq_true _
                have hne := text_ne' hb3
                have Hb1 := Lib.hid hb1
                have Hb2 := Lib.hid hb2
                clear z1 z2 hb1 hb2 hb3 hb4 Hbl
                have x0 := rf_at HX.out 0 _ rfl
                have x1 := rf_at HX.out 1 _ rfl
                have x2 := rf_at HX.out 2 _ rfl
                have x3 := rf_at HX.out 3 _ rfl
                have x4 := rf_at HX.out 4 _ rfl
                have x5 := rf_at HX.out 5 _ rfl
                have x6 := rf_at HX.out 6 _ rfl
                go_wp2_with fail
                refine (HBl.out _ (HDV5.out.below H5.out) (own_rd HO.out) (HR.out.below (HB5.out.trans (H5.out.mono HB5.out.size)))).mono ?_
                rintro e w9 ⟨hb9, he⟩
                rw [Hb1.out] at he
                simp only [Hb2.out] at he
                subst he
                replace H5 := Lib.hid (H5.out.trans (hb9.mono H5.out.size))
                clear hb9 x0 x1 x2 x3 x4 x5 x6 HBl HX HO
                generalize blP D a = rP at HSp hne ⊢
                generalize blQ D a = rQ at HSq hne ⊢
                go_wp2_with fail
                refine (HUl.out _ (HR.out.below (HB5.out.trans (H5.out.mono HB5.out.size))) (HT.out.below (HB5.out.trans (H5.out.mono HB5.out.size)))).mono ?_
                rintro e w10 ⟨rfl, hb10⟩
                replace H5 := Lib.hid (H5.out.trans (hb10.mono H5.out.size))
                clear hb10
                go_wp2_with fail
                refine (HSp.out _ (HR.out.below (HB5.out.trans (H5.out.mono HB5.out.size)))).mono ?_
                rintro e w11 ⟨rfl, hb11⟩
                replace H5 := Lib.hid (H5.out.trans (hb11.mono H5.out.size))
                clear hb11
                go_wp2_with fail
                refine (HSq.out _ (HR.out.below (HB5.out.trans (H5.out.mono HB5.out.size)))).mono ?_
                rintro e w12 ⟨rfl, hb12⟩
                replace H5 := Lib.hid (H5.out.trans (hb12.mono H5.out.size))
                clear hb12
                go_wp2_with fail
                go_ret
                exact ⟨rfl, HB5.out.trans (H5.out.mono HB5.out.size)⟩
            · have x0 := rf_at HX.out 0 _ rfl
              have x1 := rf_at HX.out 1 _ rfl
              have x2 := rf_at HX.out 2 _ rfl
              have x3 := rf_at HX.out 3 _ rfl
              have x4 := rf_at HX.out 4 _ rfl
              have x5 := rf_at HX.out 5 _ rfl
              have x6 := rf_at HX.out 6 _ rfl
              go_wp2_with fail
              refine (HU.out _ (HRV5.out.below H5.out) (own_rd HO.out) (HR.out.below (HB5.out.trans (H5.out.mono HB5.out.size))) (HT.out.below (HB5.out.trans (H5.out.mono HB5.out.size)))).mono ?_
              rintro e w8 ⟨rfl, hb8⟩
              replace HX := Lib.hid (cells_below HX.out hb8)
              replace H5 := Lib.hid (H5.out.trans (hb8.mono H5.out.size))
              replace HO := Lib.hid (own_keep HO.out hb8)
              clear hb8 x0 x1 x2 x3 x4 x5 x6 HU
              generalize unlE D.r (allA D ls ws i) wp = ue at Hlaw2 ⊢
              generalize unlS D.r (allA D ls ws i) wp = us at Hlaw2 ⊢
              by_cases hk : (pn : Int) < k
              · have d6 : decide ((pn : Int) < k) = true := by simpa using hk
                clear hk
                go_wp2_with fail
                refine (HUl.out _ (HR.out.below (HB5.out.trans (H5.out.mono HB5.out.size))) (HT.out.below (HB5.out.trans (H5.out.mono HB5.out.size)))).mono ?_
                rintro e w7 ⟨rfl, hb7⟩
                go_wp2_with fail
                go_ret
                exact ⟨rfl, HB5.out.trans ((H5.out.trans (hb7.mono H5.out.size)).mono HB5.out.size)⟩
              have d6 : decide ((pn : Int) < k) = false := by simpa using hk
              have hlw := Hlaw2.out (by omega)
              clear hk Hlaw2
              have Hlw := Lib.hid hlw
              clear hlw
              by_cases hu : ue = 0
              · subst hu
                by_cases hs : us = master
                · subst hs
                  have d7 : (us.toList == us.toList) = true := beq_self_eq_true _
                  clear Hlw
                  go_wp2_with fail
                  refine (HUl.out _ (HR.out.below (HB5.out.trans (H5.out.mono HB5.out.size))) (HT.out.below (HB5.out.trans (H5.out.mono HB5.out.size)))).mono ?_
                  rintro e w7 ⟨rfl, hb7⟩
                  go_wp2_with fail
                  go_ret
                  exact ⟨rfl, HB5.out.trans ((H5.out.trans (hb7.mono H5.out.size)).mono HB5.out.size)⟩
                · have d7 := text_ne' hs
                  have Hbl : Hid (∃ a, blamed D (allA D ls ws i) = some a ∧ blB D a = true ∧ blP D a ≠ blQ D a ∧ bs (sumL (blP D a).data.toList) = bs (sumL (blQ D a).data.toList)) := Lib.hid (Hlw.out.resolve_left (fun e => hs e.2))
                  clear hs Hlw
                  obtain ⟨a, hb1, hb2, hb3, hb4⟩ := Hbl.out
                  have z1 := (wit_size (D.sa.getD (a.x - 1).toNat noneT) (D.sh.getD (a.x - 1).toNat (0, noneT)) a.salt (a.x, a.b)).1
                  have z2 := (wit_size (D.sa.getD (a.x - 1).toNat noneT) (D.sh.getD (a.x - 1).toNat (0, noneT)) a.salt (a.x, a.b)).2
                  have HSp := Lib.hid (fun W h => sum_any (blP D a) W h (Nat.le_trans z1 (by omega)))
                  have HSq := Lib.hid (fun W h => sum_any (blQ D a) W h (Nat.le_trans z2 (by omega)))
                  rw [← hb4] at HSq
                  generalize bs (sumL (blP D a).data.toList) = ss at HSp HSq
                  have hss : (ss.toList == ss.toList) = true := beq_self_eq_true _
                  have hne := text_ne' hb3
                  have Hb1 := Lib.hid hb1
                  have Hb2 := Lib.hid hb2
                  clear z1 z2 hb1 hb2 hb3 hb4 Hbl
                  have x0 := rf_at HX.out 0 _ rfl
                  have x1 := rf_at HX.out 1 _ rfl
                  have x2 := rf_at HX.out 2 _ rfl
                  have x3 := rf_at HX.out 3 _ rfl
                  have x4 := rf_at HX.out 4 _ rfl
                  have x5 := rf_at HX.out 5 _ rfl
                  have x6 := rf_at HX.out 6 _ rfl
                  go_wp2_with fail
                  refine (HBl.out _ (HDV5.out.below H5.out) (own_rd HO.out) (HR.out.below (HB5.out.trans (H5.out.mono HB5.out.size)))).mono ?_
                  rintro e w9 ⟨hb9, he⟩
                  rw [Hb1.out] at he
                  simp only [Hb2.out] at he
                  subst he
                  replace H5 := Lib.hid (H5.out.trans (hb9.mono H5.out.size))
                  clear hb9 x0 x1 x2 x3 x4 x5 x6 HBl HX HO
                  generalize blP D a = rP at HSp hne ⊢
                  generalize blQ D a = rQ at HSq hne ⊢
                  go_wp2_with fail
                  refine (HUl.out _ (HR.out.below (HB5.out.trans (H5.out.mono HB5.out.size))) (HT.out.below (HB5.out.trans (H5.out.mono HB5.out.size)))).mono ?_
                  rintro e w10 ⟨rfl, hb10⟩
                  replace H5 := Lib.hid (H5.out.trans (hb10.mono H5.out.size))
                  clear hb10
                  go_wp2_with fail
                  refine (HSp.out _ (HR.out.below (HB5.out.trans (H5.out.mono HB5.out.size)))).mono ?_
                  rintro e w11 ⟨rfl, hb11⟩
                  replace H5 := Lib.hid (H5.out.trans (hb11.mono H5.out.size))
                  clear hb11
                  go_wp2_with fail
                  refine (HSq.out _ (HR.out.below (HB5.out.trans (H5.out.mono HB5.out.size)))).mono ?_
                  rintro e w12 ⟨rfl, hb12⟩
                  replace H5 := Lib.hid (H5.out.trans (hb12.mono H5.out.size))
                  clear hb12
                  go_wp2_with fail
                  go_ret
                  exact ⟨rfl, HB5.out.trans (H5.out.mono HB5.out.size)⟩
              · have d7 : ((ue : Int) == 0) = false := by simp; omega
                have Hbl : Hid (∃ a, blamed D (allA D ls ws i) = some a ∧ blB D a = true ∧ blP D a ≠ blQ D a ∧ bs (sumL (blP D a).data.toList) = bs (sumL (blQ D a).data.toList)) := Lib.hid (Hlw.out.resolve_left (fun e => hu e.1))
                clear hu Hlw
                obtain ⟨a, hb1, hb2, hb3, hb4⟩ := Hbl.out
                have z1 := (wit_size (D.sa.getD (a.x - 1).toNat noneT) (D.sh.getD (a.x - 1).toNat (0, noneT)) a.salt (a.x, a.b)).1
                have z2 := (wit_size (D.sa.getD (a.x - 1).toNat noneT) (D.sh.getD (a.x - 1).toNat (0, noneT)) a.salt (a.x, a.b)).2
                have HSp := Lib.hid (fun W h => sum_any (blP D a) W h (Nat.le_trans z1 (by omega)))
                have HSq := Lib.hid (fun W h => sum_any (blQ D a) W h (Nat.le_trans z2 (by omega)))
                rw [← hb4] at HSq
                generalize bs (sumL (blP D a).data.toList) = ss at HSp HSq
                have hss : (ss.toList == ss.toList) = true := beq_self_eq_true _
                have hne := text_ne' hb3
                have Hb1 := Lib.hid hb1
                have Hb2 := Lib.hid hb2
                clear z1 z2 hb1 hb2 hb3 hb4 Hbl
                have x0 := rf_at HX.out 0 _ rfl
                have x1 := rf_at HX.out 1 _ rfl
                have x2 := rf_at HX.out 2 _ rfl
                have x3 := rf_at HX.out 3 _ rfl
                have x4 := rf_at HX.out 4 _ rfl
                have x5 := rf_at HX.out 5 _ rfl
                have x6 := rf_at HX.out 6 _ rfl
                go_wp2_with fail
                refine (HBl.out _ (HDV5.out.below H5.out) (own_rd HO.out) (HR.out.below (HB5.out.trans (H5.out.mono HB5.out.size)))).mono ?_
                rintro e w9 ⟨hb9, he⟩
                rw [Hb1.out] at he
                simp only [Hb2.out] at he
                subst he
                replace H5 := Lib.hid (H5.out.trans (hb9.mono H5.out.size))
                clear hb9 x0 x1 x2 x3 x4 x5 x6 HBl HX HO
                generalize blP D a = rP at HSp hne ⊢
                generalize blQ D a = rQ at HSq hne ⊢
                go_wp2_with fail
                refine (HUl.out _ (HR.out.below (HB5.out.trans (H5.out.mono HB5.out.size))) (HT.out.below (HB5.out.trans (H5.out.mono HB5.out.size)))).mono ?_
                rintro e w10 ⟨rfl, hb10⟩
                replace H5 := Lib.hid (H5.out.trans (hb10.mono H5.out.size))
                clear hb10
                go_wp2_with fail
                refine (HSp.out _ (HR.out.below (HB5.out.trans (H5.out.mono HB5.out.size)))).mono ?_
                rintro e w11 ⟨rfl, hb11⟩
                replace H5 := Lib.hid (H5.out.trans (hb11.mono H5.out.size))
                clear hb11
                go_wp2_with fail
                refine (HSq.out _ (HR.out.below (HB5.out.trans (H5.out.mono HB5.out.size)))).mono ?_
                rintro e w12 ⟨rfl, hb12⟩
                replace H5 := Lib.hid (H5.out.trans (hb12.mono H5.out.size))
                clear hb12
                go_wp2_with fail
                go_ret
                exact ⟨rfl, HB5.out.trans (H5.out.mono HB5.out.size)⟩
end Go.Proofs.YtifcpklaenbclaaGreatDoor
