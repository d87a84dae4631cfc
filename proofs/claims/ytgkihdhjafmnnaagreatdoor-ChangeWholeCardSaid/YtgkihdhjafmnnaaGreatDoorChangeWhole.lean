/-
  The law ChangeWhole, walked.
-/
import Derived.Test.YtgkihdhjafmnnaaGreatDoorCn
import Derived.Test.YtgkihdhjafmnnaaGreatDoorOpenDk
namespace Go.Proofs.YtgkihdhjafmnnaaGreatDoor
open Go.RowKit
set_option linter.unusedVariables false
set_option linter.unusedSimpArgs false
set_option maxRecDepth 100000
set_option maxHeartbeats 32000000

/-- The fates of a disk, as the law picks them. -/
def fateF (zs : List FtM) (i : Nat) : List Int := match zs[i]? with
  | some o => if o.nf ≤ 200 then o.fs else []
  | none => []
theorem changeWhole_law (a0 : ByteArray) (_ : a0.size ≤ maxLen) (a1 : ByteArray) (_ : a1.size ≤ maxLen) (a2 : Option Addr) (n c2 : Nat) (z2 : List ByteArray) (hn : n = z2.length) (hn9 : z2.length ≤ maxLen) (_ : ∀ x ∈ z2, x.size ≤ maxLen) (k j : Int) (b : Bool) (deeds : Int) (a7 : Option Addr) (nf cf : Nat) (z7 : List FtM) (hnf : nf = z7.length) (hnf9 : z7.length ≤ maxLen)
    (w : World) (hT : Turns w) (hR : Rounds w) (hr2 : Rd w a2 (textsV z2)) (hr7 : Rd w a7 (z7.map ftV)) (ho7 : ∀ o ∈ z7, o.ok w) :
    Calls Tryz.prog 4 #[.string a0, .string a1, .slice a2 n c2, .int .i64 k, .int .i64 j, .bool b, .int .i64 deeds, .slice a7 nf cf] w fun e w' => e = .returned (.bool true) ∧ Below w.heap.size w w' := by
  have HT := Lib.hid hT
  have HR := Lib.hid hR
  have HN := Lib.hid hn
  have HN9 : Hid (n ≤ maxLen) := Lib.hid (by rw [hn]; exact hn9)
  have HNm := Lib.hid hr2
  have HF := Lib.hid hr7
  have HFo := Lib.hid ho7
  have HNf := Lib.hid hnf
  have HFw := Lib.hid (few_any z2 a2 n c2 w hr2 hn HN9.out)
  have HCh := Lib.hid changes_any
  have hn9' : n ≤ 9223372036854775807 ∧ nf ≤ 9223372036854775807 := by unfold maxLen at *; omega
  obtain ⟨hn91, hn92⟩ := hn9'
  clear hT hR hr2 hr7 ho7 hnf hnf9 hn hn9
  cases d1 : decide (wrap64 ((a0.size : Int) + (a1.size : Int)) > 200) with
  | true =>
    go_enter Tryz.func4, Tryz.ntmps4
    go_wp2_with fail
    go_ret
    exact ⟨rfl, Below.refl _ _⟩
  | false =>
  go_enter Tryz.func4, Tryz.ntmps4
  go_wp2_with fail
  refine HFw.out.mono ?_
  rintro e wf ⟨fb, rfl, hfb, hwf⟩
  subst wf
  cases fb with
  | false =>
    clear hfb
    go_wp2_with fail
    go_ret
    exact ⟨rfl, Below.refl _ _⟩
  | true =>
  have hn20 : n ≤ 20 := hfb rfl
  by_cases h30 : (30 : Int) < (nf : Int)
  · have d2 : decide ((nf : Int) > 30) = true := decide_eq_true h30
    go_wp2_with fail
    go_ret
    exact ⟨rfl, Below.refl _ _⟩
  have d2 : decide ((nf : Int) > 30) = false := decide_eq_false h30
  have hnf30 : nf ≤ 30 := by omega
  clear h30 hfb HFw
  have HSt := Lib.hid (starts_any n w (by omega) HR.out)
  go_wp2_with fail
  refine HSt.out.mono ?_
  rintro e w2 ⟨A17, c17, l17, rfl, ho17, hp17, hb17⟩
  have HB := Lib.hid hb17
  have HLn := Lib.hid ho17.hn
  have HRd := Lib.hid ho17.rd
  have HSm := Lib.hid (show ∀ x ∈ l17, x.n ≤ 1000000 ∧ x.m ≤ 1000000 from fun x hx => by have := dk_of_plats ho17 hp17 x hx; have := start_len; omega)
  have HOl : Hid (Olds (sumB wordT) 1 z2.length (plats l17)) := Lib.hid (by rw [hp17, HN.out]; exact starts_olds _)
  have HP17 := Lib.hid hp17
  clear ho17 hp17 hb17 HSt
  cases b with
  | false =>
    have HDe := Lib.hid (fun W h1 h2 h3 => cdeal_any a0 z2 a2 n c2 k 1 W h1 HN.out HN9.out h2 h3)
    cases hok : cOK a0 z2 k 1 with
    | false =>
      have hE : dealE a0 z2 k 1 = 180 := by unfold dealE; rw [if_neg (by rw [hok]; decide)]
      rw [hE] at HDe
      clear hok hE
      go_wp2_with fail
      refine Calls.mono (HDe.out _ (HNm.out.below HB.out) (HT.out.below HB.out) (HR.out.below HB.out)) ?_
      rintro e w3 ⟨v3, rfl, ⟨aA, an, ac, aB, am, ad, aC, ap, aq, aE, es, et, rfl, hrest⟩, hb3⟩
      have HB3 := Lib.hid ((Below.chain HB.out hb3).alloc (Below.chain HB.out hb3).size (.cells #[.int .i64 (dealC a0 z2 k 1).r.e, .int .i64 (dealC a0 z2 k 1).r.k, .slice aA an ac, .slice aB am ad, .string (dealC a0 z2 k 1).sec, .slice aC ap aq, .slice aE es et] 47))
      clear hrest hb3 HDe
      generalize dealC a0 z2 k 1 = D at HB3 ⊢
      go_wp2_with fail
      refine Calls.mono (HCh.out _ (HT.out.below HB3.out) (HR.out.below HB3.out)) ?_
      rintro e w4 ⟨rfl, hb4⟩
      have HB4 := Lib.hid (Below.chain HB3.out hb4)
      clear hb4
      go_wp2_with fail
      go_ret
      exact ⟨rfl, HB4.out⟩
    | true =>
      have hE : dealE a0 z2 k 1 = 0 := by unfold dealE; rw [if_pos hok]
      obtain ⟨L, done, L1, L2, L3, L4, L5, L6⟩ := whole_law (e := 1) hok HOl.out deeds
      rw [hE] at HDe
      have HL1 := Lib.hid L1
      have HL5 := Lib.hid L5
      have HL6 := Lib.hid (L6 (fateF z7))
      have HL2 := Lib.hid L2
      rw [← HN.out] at L3 L4
      clear hok hE L1 L2 L5 L6
      go_wp2_with fail
      refine Calls.mono (HDe.out _ (HNm.out.below HB.out) (HT.out.below HB.out) (HR.out.below HB.out)) ?_
      rintro e w3 ⟨v3, rfl, hv3, hb3⟩
      generalize dealC a0 z2 k 1 = D at HDe HL1 HL5 HL6 hv3
      have hv3' := hv3
      obtain ⟨aA, an, ac, aB, am, ad, aC, ap, aq, aE, es, et, rfl, k1, k2, k3, k4, k5, k6, k7, k8⟩ := hv3
      have HSh := Lib.hid k5
      have HShl := Lib.hid k6
      have al := (Below.refl w3.heap.size w3).alloc (Nat.le_refl _) (.cells #[.int .i64 D.r.e, .int .i64 D.r.k, .slice aA an ac, .slice aB am ad, .string D.sec, .slice aC ap aq, .slice aE es et] 47)
      have hb4 := Below.chain hb3 al
      have HB4 := Lib.hid (Below.chain HB.out hb4)
      have HV4 := Lib.hid (hv3'.below al)
      have HX := Lib.hid (heap_alloc_new w3 (.cells #[.int .i64 D.r.e, .int .i64 D.r.k, .slice aA an ac, .slice aB am ad, .string D.sec, .slice aC ap aq, .slice aE es et] 47))
      have HSh4 := Lib.hid (HSh.out.below al)
      have HRd4 := Lib.hid (HRd.out.below hb4)
      obtain ⟨u, hu⟩ : ∃ u, u = w3.alloc (.cells #[.int .i64 D.r.e, .int .i64 D.r.k, .slice aA an ac, .slice aB am ad, .string D.sec, .slice aC ap aq, .slice aE es et] 47) := ⟨_, rfl⟩
      have Hu := Lib.hid hu
      rw [← hu] at HB4 HV4 HX HSh4 HRd4
      clear hu al hb3 hb4 hv3' k1 k2 k3 k4 k5 k6 k7 k8 HSh HDe
      go_upto_region 13 with fail
      rw [← Hu.out]
      clear Hu
      generalize w3.heap.size = X at *
      obtain ⟨⟨z0, z1, z2', z3, z4, z5, z6⟩, zf⟩ := seven_cells HX.out
      go_wp2_with fail
      refine Calls.mono (cspread_any _ _ _ _ _ D deeds _ HRd4.out HLn.out (by omega) HSm.out HV4.out (HR.out.below HB4.out)) ?_
      rw [HL1.out]
      rintro e w5 ⟨A5, n5, c5, l5, rfl, hn5, hp5, -, hb5, ho5⟩
      simp only at hp5
      have h5n : n5 = n := by
        have h2 : (plats l5).length = n := by rw [hp5, HL2.out, HN.out]
        rw [plats_len, ← hn5] at h2
        exact h2
      replace HX := hblk_below HX hb5
      have HB5 := Lib.hid (Below.chain HB4.out hb5)
      have HSh5 := Lib.hid (HSh4.out.below hb5)
      have HO5 := Lib.hid (show OwnD w5 w.heap.size A5 n5 c5 l5 from ⟨ho5.hn, own_le ho5.os HB4.out.size, ho5.sl, ho5.ok⟩)
      have HP5 := Lib.hid hp5
      clear hn5 hp5 hb5 ho5 z0 z1 z2' z3 z4 z5 z6 zf HV4 HSh4 HRd4 HB4
      subst h5n
      obtain ⟨g, cap', hv5, hgB, hgw5⟩ := HO5.out.os.form (by omega)
      injection hv5 with q1 q2 q3
      subst q1
      have hXg : X ≠ g := fun e => own_far HX.out HO5.out.os (by decide) (by rw [e]; rfl)
      clear q2 q3 hgw5
      go_wp2_with fail
      go_loopw [29] (fun x wr => ∃ (i : Nat) (lm : List Dk), i ≤ n5 ∧ x = .int .i64 (i : Nat) ∧ OwnD wr w.heap.size (some ⟨g, 0, none⟩) n5 c5 lm ∧ (∀ q, q < n5 → (plats lm).getD q noPlat = if q < i then (crashP (fateF z7 q) (L.getD q noPlat)).1 else L.getD q noPlat) ∧
        wr.heap[X]? = some (.cells #[.int .i64 D.r.e, .int .i64 D.r.k, .slice aA an ac, .slice aB am ad, .string D.sec, .slice aC ap aq, .slice aE es et] 47 (0, 0)) ∧ Rd wr aC (sharesV D.sh) ∧ Below w.heap.size w wr) (fun x _ => n5 - (intOf x).toNat)
      case atStart => exact ⟨0, l5, by omega, rfl, HO5.out, fun q hq => by rw [HP5.out, if_neg (by omega)], HX.out, HSh5.out, HB5.out⟩
      case round =>
        obtain ⟨i, lm, hi, rfl, hoi, hpi, hxi, hsi, hBi⟩ := hrel
        have HOi := Lib.hid hoi
        have Hpi := Lib.hid hpi
        have HXx := Lib.hid hxi
        have HSi := Lib.hid hsi
        have HBi := Lib.hid hBi
        clear hoi hpi hxi hsi hBi HO5 HP5 HX HSh5 HB5
        by_cases hlt : i < n5
        · have e1 : (i : Int) < (n5 : Int) := by omega
          have hgw : g < wr.heap.size := (HOi.out.os.lt g rfl).2
          have hil : i < lm.length := by rw [← HOi.out.hn]; exact hlt
          obtain ⟨b, off, hA, c0, c1⟩ := dk_at HOi.out.rd.rd hil
          injection hA with hA
          injection hA with hA1 hA2
          subst hA1 hA2
          rw [Nat.zero_add] at c0 c1
          have hxok := HOi.out.ok _ (List.getElem_mem hil)
          have hxe : lm[i].P = L.getD i noPlat := by
            have := Hpi.out i hlt
            rw [if_neg (Nat.lt_irrefl _), plats_at hil] at this
            exact this
          generalize lm[i] = x at c0 c1 hxok hxe
          obtain ⟨xA, xn, xc, xB, xm, xd, xP⟩ := x
          simp only at c0 c1 hxe
          have HXi := Lib.hid (show PB wr xA xn xB xm xP from hxok)
          have Hxe := Lib.hid hxe.symm
          clear hxok hxe hil
          by_cases hinf : i < nf
          · have e2 : decide ((i : Int) < (nf : Int)) = true := by simp; omega
            have e2' : (i : Int) < (nf : Int) := by omega
            have hiz : i < z7.length := by rw [← HNf.out]; exact hinf
            obtain ⟨b7, o7, ha7, c7⟩ := (HF.out.below HBi.out) i (ftV z7[i]) (by simp [hiz])
            have hok7 := HFo.out _ (List.getElem_mem hiz)
            have HFf := Lib.hid (show fateF z7 i = if z7[i].nf ≤ 200 then z7[i].fs else [] by unfold fateF; rw [List.getElem?_eq_getElem hiz])
            subst ha7
            generalize z7[i] = o at c7 hok7 HFf
            obtain ⟨F, fn, fc, fs⟩ := o
            simp only [ftV] at c7 HFf
            have HFr := Lib.hid (show Rd w F (ints fs) from hok7.rd)
            have HFn := Lib.hid (show fn = fs.length from hok7.nf)
            have HFm := Lib.hid (show fn ≤ maxLen from hok7.nm)
            have HFi := Lib.hid (show ∀ x ∈ fs, x ≤ 9223372036854775807 from hok7.fi)
            clear hok7 hiz
            by_cases h200 : fn ≤ 200
            · have e3 : decide ((fn : Int) ≤ 200) = true := by simp; omega
              have hfe : fateF z7 i = fs := by rw [HFf.out, if_pos h200]
              have hcr := HL6.out.1 i (by rw [← HN.out]; exact hlt)
              rw [hfe] at hcr
              have HCr := Lib.hid (fun W (hW : Below w.heap.size w W) (h : PB W xA xn xB xm xP) => crash_any (.agg #[.slice xA xn xc, .slice xB xm xd]) xP F fn fc fs W ⟨_, _, _, _, _, _, rfl, h⟩ (HFr.out.below hW) HFn.out HFm.out HFi.out)
              obtain ⟨rr, hrr⟩ : ∃ rr, rr = crashP fs xP := ⟨_, rfl⟩
              have hx2 : (crashP fs (L.getD i noPlat)) = rr := by rw [hrr, Hxe.out]
              rw [hx2] at hcr
              rw [← hrr] at HCr
              have HFe := Lib.hid (show (crashP (fateF z7 i) (L.getD i noPlat)).1 = rr.1 by rw [hfe, hx2])
              clear hfe hrr hx2
              obtain ⟨Q, ce⟩ := rr
              simp only at hcr HFe
              subst hcr
              go_wp2_with fail
              refine (HCr.out _ HBi.out HXi.out).mono ?_
              rintro E w6 ⟨v6, rfl, ⟨A6, n6, c6, B6, m6, d6, rfl, hp6⟩, hb6⟩
              have al := (Below.refl w6.heap.size w6).alloc (Nat.le_refl _) (.cells #[.slice A6 n6 c6, .slice B6 m6 d6] 37)
              have hb7 := Below.chain hb6 al
              have HO7 := Lib.hid (HOi.out.below hb7)
              have HB7 := Lib.hid (HBi.out.trans (hb7.mono HBi.out.size))
              have HX7 := hblk_below HXx hb7
              have HS7 := Lib.hid (HSi.out.below hb7)
              have HY := Lib.hid (heap_alloc_new w6 (.cells #[.slice A6 n6 c6, .slice B6 m6 d6] 37))
              have HP7 := Lib.hid (PB.below (show PB w6 A6 n6 B6 m6 Q from hp6) al)
              have hg6 : g < w6.heap.size := Nat.lt_of_lt_of_le hgw hb6.size
              obtain ⟨u7, hu7⟩ : ∃ u, u = w6.alloc (.cells #[.slice A6 n6 c6, .slice B6 m6 d6] 37) := ⟨_, rfl⟩
              have Hu7 := Lib.hid hu7
              rw [← hu7] at HO7 HB7 HX7 HS7 HY HP7
              clear hb6 hb7 al hu7 hp6 HCr c0 c1
              go_upto_region 25 with fail
              rw [← Hu7.out]
              clear Hu7
              generalize w6.heap.size = gy at *
              obtain ⟨y0, y1, _, _⟩ := two_cells HY.out
              have p0 := HO7.out.os.cellAt (i * 2) (by omega)
              have p1 := HO7.out.os.frozenAt (i * 2)
              have p2 := HO7.out.os.cellAt (i * 2 + 1) (by omega)
              have p3 := HO7.out.os.frozenAt (i * 2 + 1)
              have hil : i < lm.length := by rw [← HO7.out.hn]; exact hlt
              rw [(dksV_at lm i _ (List.getElem?_eq_getElem hil)).1] at p0
              rw [(dksV_at lm i _ (List.getElem?_eq_getElem hil)).2] at p2
              have hset := HO7.out.set hlt (x := ⟨A6, n6, c6, B6, m6, d6, Q⟩) HP7.out
              have HSt := Lib.hid hset
              have HBf := Lib.hid (HB7.out.trans (gb_by hset.2 (HO7.out.os.lt g rfl).1 HB7.out.size))
              have HXf := Lib.hid (gb_blk' hset.2 HX7.out hXg)
              have HSf := Lib.hid (rd_grown HS7.out (shares_sl _) (HO7.out.sl g 0 rfl) hset.2)
              generalize lm[i] = old at p0 p2
              clear hset hil
              go_wp2_with fail
              go_roundw
              case rel =>
                refine ⟨i + 1, lm.set i ⟨A6, n6, c6, B6, m6, d6, Q⟩, by omega, by go_num, HSt.out.1, fun q hq => ?_, HXf.out, HSf.out, HBf.out⟩
                rw [plats_set, plGetD (by rw [plats_len, ← HO7.out.hn]; exact hlt)]
                by_cases hqi : i = q
                · subst hqi
                  rw [if_pos rfl, if_pos (by omega), HFe.out]
                · rw [if_neg hqi, Hpi.out q hq]
                  by_cases hq2 : q < i
                  · rw [if_pos hq2, if_pos (by omega)]
                  · rw [if_neg hq2, if_neg (by omega)]
              case measure => simp [intOf]; omega

            · have e3 : decide ((fn : Int) ≤ 200) = false := by simp; omega
              have hfe : fateF z7 i = [] := by rw [HFf.out, if_neg h200]
              have hcr := HL6.out.1 i (by rw [← HN.out]; exact hlt)
              rw [hfe] at hcr
              have HCr := Lib.hid (fun W (hW : Below w.heap.size w W) (h : PB W xA xn xB xm xP) => crash_any (.agg #[.slice xA xn xc, .slice xB xm xd]) xP none 0 0 [] W ⟨_, _, _, _, _, _, rfl, h⟩ (Rd.nil _ _) rfl (Nat.zero_le _) (by simp))
              obtain ⟨rr, hrr⟩ : ∃ rr, rr = crashP [] xP := ⟨_, rfl⟩
              have hx2 : (crashP [] (L.getD i noPlat)) = rr := by rw [hrr, Hxe.out]
              rw [hx2] at hcr
              rw [← hrr] at HCr
              have HFe := Lib.hid (show (crashP (fateF z7 i) (L.getD i noPlat)).1 = rr.1 by rw [hfe, hx2])
              clear hfe hrr hx2
              obtain ⟨Q, ce⟩ := rr
              simp only at hcr HFe
              subst hcr
              go_wp2_with fail
              refine (HCr.out _ HBi.out HXi.out).mono ?_
              rintro E w6 ⟨v6, rfl, ⟨A6, n6, c6, B6, m6, d6, rfl, hp6⟩, hb6⟩
              have al := (Below.refl w6.heap.size w6).alloc (Nat.le_refl _) (.cells #[.slice A6 n6 c6, .slice B6 m6 d6] 37)
              have hb7 := Below.chain hb6 al
              have HO7 := Lib.hid (HOi.out.below hb7)
              have HB7 := Lib.hid (HBi.out.trans (hb7.mono HBi.out.size))
              have HX7 := hblk_below HXx hb7
              have HS7 := Lib.hid (HSi.out.below hb7)
              have HY := Lib.hid (heap_alloc_new w6 (.cells #[.slice A6 n6 c6, .slice B6 m6 d6] 37))
              have HP7 := Lib.hid (PB.below (show PB w6 A6 n6 B6 m6 Q from hp6) al)
              have hg6 : g < w6.heap.size := Nat.lt_of_lt_of_le hgw hb6.size
              obtain ⟨u7, hu7⟩ : ∃ u, u = w6.alloc (.cells #[.slice A6 n6 c6, .slice B6 m6 d6] 37) := ⟨_, rfl⟩
              have Hu7 := Lib.hid hu7
              rw [← hu7] at HO7 HB7 HX7 HS7 HY HP7
              clear hb6 hb7 al hu7 hp6 HCr c0 c1
              go_upto_region 25 with fail
              rw [← Hu7.out]
              clear Hu7
              generalize w6.heap.size = gy at *
              obtain ⟨y0, y1, _, _⟩ := two_cells HY.out
              have p0 := HO7.out.os.cellAt (i * 2) (by omega)
              have p1 := HO7.out.os.frozenAt (i * 2)
              have p2 := HO7.out.os.cellAt (i * 2 + 1) (by omega)
              have p3 := HO7.out.os.frozenAt (i * 2 + 1)
              have hil : i < lm.length := by rw [← HO7.out.hn]; exact hlt
              rw [(dksV_at lm i _ (List.getElem?_eq_getElem hil)).1] at p0
              rw [(dksV_at lm i _ (List.getElem?_eq_getElem hil)).2] at p2
              have hset := HO7.out.set hlt (x := ⟨A6, n6, c6, B6, m6, d6, Q⟩) HP7.out
              have HSt := Lib.hid hset
              have HBf := Lib.hid (HB7.out.trans (gb_by hset.2 (HO7.out.os.lt g rfl).1 HB7.out.size))
              have HXf := Lib.hid (gb_blk' hset.2 HX7.out hXg)
              have HSf := Lib.hid (rd_grown HS7.out (shares_sl _) (HO7.out.sl g 0 rfl) hset.2)
              generalize lm[i] = old at p0 p2
              clear hset hil
              go_wp2_with fail
              go_roundw
              case rel =>
                refine ⟨i + 1, lm.set i ⟨A6, n6, c6, B6, m6, d6, Q⟩, by omega, by go_num, HSt.out.1, fun q hq => ?_, HXf.out, HSf.out, HBf.out⟩
                rw [plats_set, plGetD (by rw [plats_len, ← HO7.out.hn]; exact hlt)]
                by_cases hqi : i = q
                · subst hqi
                  rw [if_pos rfl, if_pos (by omega), HFe.out]
                · rw [if_neg hqi, Hpi.out q hq]
                  by_cases hq2 : q < i
                  · rw [if_pos hq2, if_pos (by omega)]
                  · rw [if_neg hq2, if_neg (by omega)]
              case measure => simp [intOf]; omega

          · have e2 : decide ((i : Int) < (nf : Int)) = false := by simp; omega
            have hfe : fateF z7 i = [] := by unfold fateF; rw [List.getElem?_eq_none (by rw [← HNf.out]; omega)]
            have hcr := HL6.out.1 i (by rw [← HN.out]; exact hlt)
            rw [hfe] at hcr
            have HCr := Lib.hid (fun W (hW : Below w.heap.size w W) (h : PB W xA xn xB xm xP) => crash_any (.agg #[.slice xA xn xc, .slice xB xm xd]) xP none 0 0 [] W ⟨_, _, _, _, _, _, rfl, h⟩ (Rd.nil _ _) rfl (Nat.zero_le _) (by simp))
            obtain ⟨rr, hrr⟩ : ∃ rr, rr = crashP [] xP := ⟨_, rfl⟩
            have hx2 : (crashP [] (L.getD i noPlat)) = rr := by rw [hrr, Hxe.out]
            rw [hx2] at hcr
            rw [← hrr] at HCr
            have HFe := Lib.hid (show (crashP (fateF z7 i) (L.getD i noPlat)).1 = rr.1 by rw [hfe, hx2])
            clear hfe hrr hx2
            obtain ⟨Q, ce⟩ := rr
            simp only at hcr HFe
            subst hcr
            go_wp2_with fail
            refine (HCr.out _ HBi.out HXi.out).mono ?_
            rintro E w6 ⟨v6, rfl, ⟨A6, n6, c6, B6, m6, d6, rfl, hp6⟩, hb6⟩
            have al := (Below.refl w6.heap.size w6).alloc (Nat.le_refl _) (.cells #[.slice A6 n6 c6, .slice B6 m6 d6] 37)
            have hb7 := Below.chain hb6 al
            have HO7 := Lib.hid (HOi.out.below hb7)
            have HB7 := Lib.hid (HBi.out.trans (hb7.mono HBi.out.size))
            have HX7 := hblk_below HXx hb7
            have HS7 := Lib.hid (HSi.out.below hb7)
            have HY := Lib.hid (heap_alloc_new w6 (.cells #[.slice A6 n6 c6, .slice B6 m6 d6] 37))
            have HP7 := Lib.hid (PB.below (show PB w6 A6 n6 B6 m6 Q from hp6) al)
            have hg6 : g < w6.heap.size := Nat.lt_of_lt_of_le hgw hb6.size
            obtain ⟨u7, hu7⟩ : ∃ u, u = w6.alloc (.cells #[.slice A6 n6 c6, .slice B6 m6 d6] 37) := ⟨_, rfl⟩
            have Hu7 := Lib.hid hu7
            rw [← hu7] at HO7 HB7 HX7 HS7 HY HP7
            clear hb6 hb7 al hu7 hp6 HCr c0 c1
            go_upto_region 25 with fail
            rw [← Hu7.out]
            clear Hu7
            generalize w6.heap.size = gy at *
            obtain ⟨y0, y1, _, _⟩ := two_cells HY.out
            have p0 := HO7.out.os.cellAt (i * 2) (by omega)
            have p1 := HO7.out.os.frozenAt (i * 2)
            have p2 := HO7.out.os.cellAt (i * 2 + 1) (by omega)
            have p3 := HO7.out.os.frozenAt (i * 2 + 1)
            have hil : i < lm.length := by rw [← HO7.out.hn]; exact hlt
            rw [(dksV_at lm i _ (List.getElem?_eq_getElem hil)).1] at p0
            rw [(dksV_at lm i _ (List.getElem?_eq_getElem hil)).2] at p2
            have hset := HO7.out.set hlt (x := ⟨A6, n6, c6, B6, m6, d6, Q⟩) HP7.out
            have HSt := Lib.hid hset
            have HBf := Lib.hid (HB7.out.trans (gb_by hset.2 (HO7.out.os.lt g rfl).1 HB7.out.size))
            have HXf := Lib.hid (gb_blk' hset.2 HX7.out hXg)
            have HSf := Lib.hid (rd_grown HS7.out (shares_sl _) (HO7.out.sl g 0 rfl) hset.2)
            generalize lm[i] = old at p0 p2
            clear hset hil
            go_wp2_with fail
            go_roundw
            case rel =>
              refine ⟨i + 1, lm.set i ⟨A6, n6, c6, B6, m6, d6, Q⟩, by omega, by go_num, HSt.out.1, fun q hq => ?_, HXf.out, HSf.out, HBf.out⟩
              rw [plats_set, plGetD (by rw [plats_len, ← HO7.out.hn]; exact hlt)]
              by_cases hqi : i = q
              · subst hqi
                rw [if_pos rfl, if_pos (by omega), HFe.out]
              · rw [if_neg hqi, Hpi.out q hq]
                by_cases hq2 : q < i
                · rw [if_pos hq2, if_pos (by omega)]
                · rw [if_neg hq2, if_neg (by omega)]
            case measure => simp [intOf]; omega

        · obtain rfl : i = n5 := by omega
          have e1 : ¬ (i : Int) < (i : Int) := by omega
          have hlm : (plats lm).length = z2.length := by rw [plats_len, ← HOi.out.hn, HN.out]
          obtain ⟨hsm, s, hse, hwh⟩ := HL6.out.2 (plats lm) hlm (fun q hq => by
            have := Hpi.out q (by rw [HN.out]; exact hq)
            rw [if_pos (by rw [HN.out]; exact hq)] at this
            exact this)
          have HSe := Lib.hid (settle_any2 (some ⟨g, 0, none⟩) i c5 lm 1 wr HOi.out.rd HOi.out.hn (by omega) (fun x hx => by
            have h1 := hsm _ (mem_plats hx)
            have h2 := HOi.out.ok x hx
            have h3 := h2.hn
            have h4 := h2.hm
            unfold smallP at h1
            omega))
          rw [hse] at HSe
          have HWh := Lib.hid hwh
          clear hlm hsm hse hwh
          go_wp2_with fail
          refine HSe.out.mono ?_
          rintro _ w8 ⟨A8, n8, c8, l8, rfl, hn8, hp8, hr8, hb8⟩
          simp only at hp8
          have h8n : n8 = i := by
            have h2 : (plats l8).length = i := by rw [hp8, HWh.out.1, HN.out]
            rw [plats_len, ← hn8] at h2
            exact h2
          have HN8 := Lib.hid hn8
          have HP8 := Lib.hid hp8
          have HR8 := Lib.hid hr8
          have HX8 := hblk_below HXx hb8
          have HS8 := Lib.hid (HSi.out.below hb8)
          have HB8 := Lib.hid (Below.chain HBi.out hb8)
          clear hn8 hp8 hr8 hb8 HSe HOi HXx HSi HBi
          subst h8n
          have hD : (D.sh.length = n8) := by rw [HL5.out, HN.out]
          have HDl := Lib.hid hD
          have hap : ap = n8 := by rw [HShl.out, hD]
          subst hap
          clear hD
          rcases HWh.out.2 with hold | hnew
          · have HWo := Lib.hid hold
            clear hold
            go_wp2_with fail
            go_loopw [35, 36] (fun sx x wr => ∃ i : Nat, i ≤ ap ∧ x = .int .i64 (i : Nat) ∧ sx = .int .i64 0 ∧ RdD wr A8 l8 ∧ wr.heap[X]? = some (.cells #[.int .i64 D.r.e, .int .i64 D.r.k, .slice aA an ac, .slice aB am ad, .string D.sec, .slice aC ap aq, .slice aE es et] 47 (0, 0)) ∧ Rd wr aC (sharesV D.sh) ∧ Below w.heap.size w wr) (fun _ x _ => ap - (intOf x).toNat)
            case atStart => exact ⟨0, by omega, rfl, rfl, HR8.out, HX8.out, HS8.out, HB8.out⟩
            case round =>
              obtain ⟨i, hi, rfl, rfl, hri, hxi, hsi, hBi⟩ := hrel
              have HRi := Lib.hid hri
              have HXi := Lib.hid hxi
              have HSi := Lib.hid hsi
              have HBi := Lib.hid hBi
              clear hri hxi hsi hBi HR8 HX8 HS8 HB8
              by_cases hlt : i < ap
              · have e1 : (i : Int) < (ap : Int) := by omega
                have hil : i < l8.length := by rw [← HN8.out]; exact hlt
                have his : i < D.sh.length := by rw [HDl.out]; exact hlt
                obtain ⟨b, off, hA, c0, c1⟩ := dk_at HRi.out.rd hil
                subst hA
                have hxok := HRi.out.ok _ (List.getElem_mem hil)
                have hw := HWo.out i (by rw [← HN.out]; exact hlt)
                rw [← HP8.out, plats_at hil] at hw

                generalize l8[i] = x at c0 c1 hxok hw
                obtain ⟨xA, xn, xc, xB, xm, xd, xP⟩ := x
                simp only at c0 c1 hw
                have HXo := Lib.hid (show PB wr xA xn xB xm xP from hxok)
                have HGt := Lib.hid (fun W (h : PB W xA xn xB xm xP) => hget_any (.agg #[.slice xA xn xc, .slice xB xm xd]) xP W ⟨_, _, _, _, _, _, rfl, h⟩)
                obtain ⟨rg, hrg⟩ : ∃ rg, rg = getH xP := ⟨_, rfl⟩
                rw [← hrg] at hw
                obtain ⟨⟨h0, h1, h2, h3, h4, h5, h6, h7, h8, h9⟩, ge⟩ := rg
                simp only at hw
                obtain ⟨hge, he0⟩ := hw
                have he1 : h0 = 0 := by omega
                subst hge he1
                clear he0
                have HGt := Lib.hid (show ∀ W, PB W xA xn xB xm xP → Calls Tryz.prog 9 #[.agg #[.slice xA xn xc, .slice xB xm xd]] W (fun e w' => e = .returned (.tuple #[.agg #[.int .i64 0, .int .i64 h1, .int .i64 h2, .string h3, .string h4, .string h5, .int .i64 h6, .int .i64 h7, .string h8, .string h9], .int .i64 0]) ∧ Below W.heap.size W w') from fun W h => by
                  have := hget_any (.agg #[.slice xA xn xc, .slice xB xm xd]) xP W ⟨_, _, _, _, _, _, rfl, h⟩
                  rw [← hrg] at this
                  exact this)
                clear hxok hrg his hil
                go_wp2_with fail
                refine (HGt.out _ HXo.out).mono ?_
                rintro E w9 ⟨rfl, hb9⟩
                have al := (Below.refl w9.heap.size w9).alloc (Nat.le_refl _) (.cells #[.int .i64 0, .int .i64 h1, .int .i64 h2, .string h3, .string h4, .string h5, .int .i64 h6, .int .i64 h7, .string h8, .string h9] 31)
                have hb10 := Below.chain hb9 al
                have HR9 := Lib.hid (HRi.out.below hb10)
                have HX9 := hblk_below HXi hb10
                have HS9 := Lib.hid (HSi.out.below hb10)
                have HB9 := Lib.hid (Below.chain HBi.out hb10)
                have HH := Lib.hid (heap_alloc_new w9 (.cells #[.int .i64 0, .int .i64 h1, .int .i64 h2, .string h3, .string h4, .string h5, .int .i64 h6, .int .i64 h7, .string h8, .string h9] 31))
                obtain ⟨u9, hu9⟩ : ∃ u, u = w9.alloc (.cells #[.int .i64 0, .int .i64 h1, .int .i64 h2, .string h3, .string h4, .string h5, .int .i64 h6, .int .i64 h7, .string h8, .string h9] 31) := ⟨_, rfl⟩
                have Hu9 := Lib.hid hu9
                rw [← hu9] at HR9 HX9 HS9 HB9 HH
                clear hb9 al hb10 hu9 HGt HXo c0 c1
                go_upto_region 36 with fail
                rw [← Hu9.out]
                clear Hu9
                generalize w9.heap.size = G at *
                have y0 := fun y : Later u9 => y.cell (cell_in HH.out 0 _ rfl)
                refine wp_region_later (by kernel_rfl) (by kernel_rfl) ?_
                repeat (go_big_quiet_step (fail))
                refine wpQuiet_nil ?_
                rintro _ ⟨y, rfl⟩
                have g0 := y0 y
                go_wp2_with fail
                go_roundw
                case rel => exact ⟨i + 1, by omega, by go_num, rfl, HR9.out.below y.ok, cells_below HX9.out y.ok, HS9.out.below y.ok, Below.chain HB9.out y.ok⟩
                case measure => simp [intOf]; omega
              · obtain rfl : i = ap := by omega
                have e1 : ¬ (i : Int) < (i : Int) := by omega
                have f1 : ((i : Int) == 0) = false := by simp; omega
                have f2 : ((i : Int) == (i : Int)) = true := beq_self_eq_true _
                go_wp2_with fail
                refine Calls.mono (HCh.out _ (HT.out.below HBi.out) (HR.out.below HBi.out)) ?_
                rintro e wz ⟨rfl, hbz⟩
                have HBz := Lib.hid (Below.chain HBi.out hbz)
                clear hbz
                go_wp2_with fail
                go_ret
                exact ⟨rfl, HBz.out⟩

          · have HWn := Lib.hid hnew
            clear hnew
            go_wp2_with fail
            go_loopw [35, 36] (fun sx x wr => ∃ i : Nat, i ≤ ap ∧ x = .int .i64 (i : Nat) ∧ sx = .int .i64 (i : Nat) ∧ RdD wr A8 l8 ∧ wr.heap[X]? = some (.cells #[.int .i64 D.r.e, .int .i64 D.r.k, .slice aA an ac, .slice aB am ad, .string D.sec, .slice aC ap aq, .slice aE es et] 47 (0, 0)) ∧ Rd wr aC (sharesV D.sh) ∧ Below w.heap.size w wr) (fun _ x _ => ap - (intOf x).toNat)
            case atStart => exact ⟨0, by omega, rfl, rfl, HR8.out, HX8.out, HS8.out, HB8.out⟩
            case round =>
              obtain ⟨i, hi, rfl, rfl, hri, hxi, hsi, hBi⟩ := hrel
              have HRi := Lib.hid hri
              have HXi := Lib.hid hxi
              have HSi := Lib.hid hsi
              have HBi := Lib.hid hBi
              clear hri hxi hsi hBi HR8 HX8 HS8 HB8
              by_cases hlt : i < ap
              · have e1 : (i : Int) < (ap : Int) := by omega
                have hil : i < l8.length := by rw [← HN8.out]; exact hlt
                have his : i < D.sh.length := by rw [HDl.out]; exact hlt
                obtain ⟨b, off, hA, c0, c1⟩ := dk_at HRi.out.rd hil
                subst hA
                have hxok := HRi.out.ok _ (List.getElem_mem hil)
                have hw := HWn.out i (by rw [← HN.out]; exact hlt)
                rw [← HP8.out, plats_at hil] at hw

                generalize l8[i] = x at c0 c1 hxok hw
                obtain ⟨xA, xn, xc, xB, xm, xd, xP⟩ := x
                simp only at c0 c1 hw
                have HXo := Lib.hid (show PB wr xA xn xB xm xP from hxok)
                have HGt := Lib.hid (fun W (h : PB W xA xn xB xm xP) => hget_any (.agg #[.slice xA xn xc, .slice xB xm xd]) xP W ⟨_, _, _, _, _, _, rfl, h⟩)
                obtain ⟨bC, oC, hC⟩ : ∃ b o, aC = some ⟨b, o, none⟩ := by
                  obtain ⟨b, o, h, _⟩ := HSi.out.shr his
                  exact ⟨b, o, h⟩
                subst hC
                obtain ⟨g2, g3⟩ := shr_at' HSi.out his
                obtain ⟨rg, hrg⟩ : ∃ rg, rg = getH xP := ⟨_, rfl⟩
                rw [← hrg] at hw
                obtain ⟨⟨h0, h1, h2, h3, h4, h5, h6, h7, h8, h9⟩, ge⟩ := rg
                simp only at hw
                obtain ⟨hge, he1, hsh⟩ := hw
                rw [← hsh] at g2 g3
                simp only at g2 g3
                subst hge he1
                clear hsh
                have G2 := Lib.hid g2
                have G3 := Lib.hid g3
                clear g2 g3
                have HGt := Lib.hid (show ∀ W, PB W xA xn xB xm xP → Calls Tryz.prog 9 #[.agg #[.slice xA xn xc, .slice xB xm xd]] W (fun e w' => e = .returned (.tuple #[.agg #[.int .i64 1, .int .i64 h1, .int .i64 h2, .string h3, .string h4, .string h5, .int .i64 h6, .int .i64 h7, .string h8, .string h9], .int .i64 0]) ∧ Below W.heap.size W w') from fun W h => by
                  have := hget_any (.agg #[.slice xA xn xc, .slice xB xm xd]) xP W ⟨_, _, _, _, _, _, rfl, h⟩
                  rw [← hrg] at this
                  exact this)
                clear hxok hrg his hil
                go_wp2_with fail
                refine (HGt.out _ HXo.out).mono ?_
                rintro E w9 ⟨rfl, hb9⟩
                have al := (Below.refl w9.heap.size w9).alloc (Nat.le_refl _) (.cells #[.int .i64 1, .int .i64 h1, .int .i64 h2, .string h3, .string h4, .string h5, .int .i64 h6, .int .i64 h7, .string h8, .string h9] 31)
                have hb10 := Below.chain hb9 al
                have HR9 := Lib.hid (HRi.out.below hb10)
                have HX9 := hblk_below HXi hb10
                have HS9 := Lib.hid (HSi.out.below hb10)
                have HB9 := Lib.hid (Below.chain HBi.out hb10)
                have HH := Lib.hid (heap_alloc_new w9 (.cells #[.int .i64 1, .int .i64 h1, .int .i64 h2, .string h3, .string h4, .string h5, .int .i64 h6, .int .i64 h7, .string h8, .string h9] 31))
                have G2' := Lib.hid ((hb10.cell (cell_lt G2.out)).trans G2.out)
                have G3' := Lib.hid ((hb10.cell (cell_lt G3.out)).trans G3.out)
                obtain ⟨u9, hu9⟩ : ∃ u, u = w9.alloc (.cells #[.int .i64 1, .int .i64 h1, .int .i64 h2, .string h3, .string h4, .string h5, .int .i64 h6, .int .i64 h7, .string h8, .string h9] 31) := ⟨_, rfl⟩
                have Hu9 := Lib.hid hu9
                rw [← hu9] at HR9 HX9 HS9 HB9 HH G2' G3'
                clear hb9 al hb10 hu9 HGt HXo c0 c1
                go_upto_region 36 with fail
                rw [← Hu9.out]
                clear Hu9
                generalize w9.heap.size = G at *
                have y0 := fun y : Later u9 => y.cell (cell_in HH.out 0 _ rfl)
                have y2 := fun y : Later u9 => y.cell (cell_in HH.out 2 _ rfl)
                have y3 := fun y : Later u9 => y.cell (cell_in HH.out 3 _ rfl)
                have y5 := fun y : Later u9 => y.cell (cell_in HX9.out 5 _ rfl)
                have y6 := fun y : Later u9 => y.cell G2'.out
                have y7 := fun y : Later u9 => y.cell G3'.out
                have f3 : (h2 != h2) = false := by simp
                have f4 : (h3.toList != h3.toList) = false := by simp
                have f5 : (h2 == h2) = true := beq_self_eq_true _
                have f6 : (h3.toList == h3.toList) = true := beq_self_eq_true _
                refine wp_region_later (by kernel_rfl) (by kernel_rfl) ?_
                repeat (go_big_quiet_step (fail))
                refine wpQuiet_nil ?_
                rintro _ ⟨y, rfl⟩
                have g0 := y0 y
                go_wp2_with fail
                go_roundw
                case rel => exact ⟨i + 1, by omega, by go_num, by go_num, HR9.out.below y.ok, cells_below HX9.out y.ok, HS9.out.below y.ok, Below.chain HB9.out y.ok⟩
                case measure => simp [intOf]; omega
              · obtain rfl : i = ap := by omega
                have e1 : ¬ (i : Int) < (i : Int) := by omega
                have f1 : ((i : Int) == 0) = false := by simp; omega
                have f2 : ((i : Int) == (i : Int)) = true := beq_self_eq_true _
                go_wp2_with fail
                refine Calls.mono (HCh.out _ (HT.out.below HBi.out) (HR.out.below HBi.out)) ?_
                rintro e wz ⟨rfl, hbz⟩
                have HBz := Lib.hid (Below.chain HBi.out hbz)
                clear hbz
                go_wp2_with fail
                go_ret
                exact ⟨rfl, HBz.out⟩
  | true =>
    have HDf := Lib.hid (fun W h1 h2 h3 => cdeal_any a1 z2 a2 n c2 j 1 W h1 HN.out HN9.out h2 h3)
    cases hok1 : cOK a1 z2 j 1 with
    | false =>
      have hE : dealE a1 z2 j 1 = 180 := by unfold dealE; rw [if_neg (by rw [hok1]; decide)]
      have hDc : dealC a1 z2 j 1 = noDeal := by unfold dealC; rw [if_neg (by rw [hok1]; decide)]
      have hNo : ∀ l, spreadC noDeal l (-1) = ([], false, 1) := fun l => by
        unfold spreadC
        rw [if_neg fun h => absurd (check_head (right_parts h.1).1).1 (by decide)]
      rw [hE, hDc] at HDf
      clear hok1 hE hDc
      generalize noDeal = D0 at HDf hNo
      have HNo := Lib.hid hNo
      clear hNo
      go_wp2_with fail
      refine Calls.mono (HDf.out _ (HNm.out.below HB.out) (HT.out.below HB.out) (HR.out.below HB.out)) ?_
      rintro e w3 ⟨v3, rfl, hv3, hb3⟩
      have hv3' := hv3
      obtain ⟨aA, an, ac, aB, am, ad, aC, ap, aq, aE, es, et, rfl, hrest⟩ := hv3
      clear hrest
      have al := (Below.refl w3.heap.size w3).alloc (Nat.le_refl _) (.cells #[.int .i64 D0.r.e, .int .i64 D0.r.k, .slice aA an ac, .slice aB am ad, .string D0.sec, .slice aC ap aq, .slice aE es et] 47)
      have hb4 := Below.chain hb3 al
      have HB4 := Lib.hid (Below.chain HB.out hb4)
      have HV4 := Lib.hid (hv3'.below al)
      have HX := Lib.hid (heap_alloc_new w3 (.cells #[.int .i64 D0.r.e, .int .i64 D0.r.k, .slice aA an ac, .slice aB am ad, .string D0.sec, .slice aC ap aq, .slice aE es et] 47))
      have HRd4 := Lib.hid (HRd.out.below hb4)
      obtain ⟨u, hu⟩ : ∃ u, u = w3.alloc (.cells #[.int .i64 D0.r.e, .int .i64 D0.r.k, .slice aA an ac, .slice aB am ad, .string D0.sec, .slice aC ap aq, .slice aE es et] 47) := ⟨_, rfl⟩
      have Hu := Lib.hid hu
      rw [← hu] at HB4 HV4 HX HRd4
      clear hu al hb3 hb4 hv3' HDf
      go_upto_region 7 with fail
      rw [← Hu.out]
      clear Hu
      generalize w3.heap.size = X0 at *
      obtain ⟨⟨z0, z1, z2', z3, z4, z5, z6⟩, zf⟩ := seven_cells HX.out
      go_wp2_with fail
      refine Calls.mono (cspread_any _ _ _ _ _ D0 (-1) _ HRd4.out HLn.out (by omega) HSm.out HV4.out (HR.out.below HB4.out)) ?_
      clear z0 z1 z2' z3 z4 z5 z6 zf HX
      rw [HNo.out]
      rintro e w5 ⟨A5, n5, c5, l5, rfl, hn5, -, -, hb5, -⟩
      have HB5 := Lib.hid (Below.chain HB4.out hb5)
      clear hb5 hn5 HRd4 HV4
      go_wp2_with fail
      refine Calls.mono (HCh.out _ (HT.out.below HB5.out) (HR.out.below HB5.out)) ?_
      rintro e w6 ⟨rfl, hb6⟩
      have HB6 := Lib.hid (Below.chain HB5.out hb6)
      clear hb6
      go_wp2_with fail
      go_ret
      exact ⟨rfl, HB6.out⟩
    | true =>
      have hE : dealE a1 z2 j 1 = 0 := by unfold dealE; rw [if_pos hok1]
      obtain ⟨L0, hL0, hOl0⟩ := first_law hok1
      rw [← HN.out] at hL0
      rw [hE] at HDf
      clear hok1 hE
      generalize dealC a1 z2 j 1 = D0 at HDf hL0
      have HL0 := Lib.hid hL0
      have HOl0 := Lib.hid hOl0
      clear hL0 hOl0
      go_wp2_with fail
      refine Calls.mono (HDf.out _ (HNm.out.below HB.out) (HT.out.below HB.out) (HR.out.below HB.out)) ?_
      rintro e w3 ⟨v3, rfl, hv3, hb3⟩
      have hv3' := hv3
      obtain ⟨aA, an, ac, aB, am, ad, aC, ap, aq, aE, es, et, rfl, hrest⟩ := hv3
      clear hrest
      have al := (Below.refl w3.heap.size w3).alloc (Nat.le_refl _) (.cells #[.int .i64 D0.r.e, .int .i64 D0.r.k, .slice aA an ac, .slice aB am ad, .string D0.sec, .slice aC ap aq, .slice aE es et] 47)
      have hb4 := Below.chain hb3 al
      have HB4 := Lib.hid (Below.chain HB.out hb4)
      have HV4 := Lib.hid (hv3'.below al)
      have HX := Lib.hid (heap_alloc_new w3 (.cells #[.int .i64 D0.r.e, .int .i64 D0.r.k, .slice aA an ac, .slice aB am ad, .string D0.sec, .slice aC ap aq, .slice aE es et] 47))
      have HRd4 := Lib.hid (HRd.out.below hb4)
      obtain ⟨u, hu⟩ : ∃ u, u = w3.alloc (.cells #[.int .i64 D0.r.e, .int .i64 D0.r.k, .slice aA an ac, .slice aB am ad, .string D0.sec, .slice aC ap aq, .slice aE es et] 47) := ⟨_, rfl⟩
      have Hu := Lib.hid hu
      rw [← hu] at HB4 HV4 HX HRd4
      clear hu al hb3 hb4 hv3' HDf
      go_upto_region 7 with fail
      rw [← Hu.out]
      clear Hu
      generalize w3.heap.size = X0 at *
      obtain ⟨⟨z0, z1, z2', z3, z4, z5, z6⟩, zf⟩ := seven_cells HX.out
      go_wp2_with fail
      refine Calls.mono (cspread_any _ _ _ _ _ D0 (-1) _ HRd4.out HLn.out (by omega) HSm.out HV4.out (HR.out.below HB4.out)) ?_
      clear z0 z1 z2' z3 z4 z5 z6 zf HX
      rw [HP17.out, HL0.out]
      rintro e w5 ⟨A20, n20, c20, l20, rfl, hn20', hp20, hr20, hb20, -⟩
      simp only at hp20
      have h20n : n = n20 := by
        have h2 : (plats l20).length = n := by rw [hp20, HOl0.out.1, HN.out]
        rw [plats_len, ← hn20'] at h2
        exact h2.symm
      clear HLn HRd HSm HOl HB HP17
      have HB := Lib.hid (Below.chain HB4.out hb20)
      have HLn : Hid (n = l20.length) := Lib.hid (h20n.trans hn20')
      have HRd := Lib.hid hr20
      have HOl : Hid (Olds (sumB wordT) 2 z2.length (plats l20)) := Lib.hid (by rw [hp20]; exact HOl0.out)
      have HSm := Lib.hid (show ∀ x ∈ l20, x.n ≤ 1000000 ∧ x.m ≤ 1000000 from fun x hx => by
        have h1 := HOl.out.small _ (mem_plats hx)
        have h2 := hr20.ok x hx
        have h3 := h2.hn
        have h4 := h2.hm
        unfold smallP at h1
        omega)
      clear hn20' hp20 hr20 hb20 HB4 HV4 HRd4 HOl0 HL0
      subst h20n
      have HDe := Lib.hid (fun W h1 h2 h3 => cdeal_any a0 z2 a2 n c2 k 2 W h1 HN.out HN9.out h2 h3)
      cases hok : cOK a0 z2 k 2 with
      | false =>
        have hE : dealE a0 z2 k 2 = 180 := by unfold dealE; rw [if_neg (by rw [hok]; decide)]
        rw [hE] at HDe
        clear hok hE
        go_wp2_with fail
        refine Calls.mono (HDe.out _ (HNm.out.below HB.out) (HT.out.below HB.out) (HR.out.below HB.out)) ?_
        rintro e w3 ⟨v3, rfl, ⟨aA, an, ac, aB, am, ad, aC, ap, aq, aE, es, et, rfl, hrest⟩, hb3⟩
        have HB3 := Lib.hid ((Below.chain HB.out hb3).alloc (Below.chain HB.out hb3).size (.cells #[.int .i64 (dealC a0 z2 k 2).r.e, .int .i64 (dealC a0 z2 k 2).r.k, .slice aA an ac, .slice aB am ad, .string (dealC a0 z2 k 2).sec, .slice aC ap aq, .slice aE es et] 47))
        clear hrest hb3 HDe
        generalize dealC a0 z2 k 2 = D at HB3 ⊢
        go_wp2_with fail
        refine Calls.mono (HCh.out _ (HT.out.below HB3.out) (HR.out.below HB3.out)) ?_
        rintro e w4 ⟨rfl, hb4⟩
        have HB4 := Lib.hid (Below.chain HB3.out hb4)
        clear hb4
        go_wp2_with fail
        go_ret
        exact ⟨rfl, HB4.out⟩
      | true =>
        have hE : dealE a0 z2 k 2 = 0 := by unfold dealE; rw [if_pos hok]
        obtain ⟨L, done, L1, L2, L3, L4, L5, L6⟩ := whole_law (e := 2) hok HOl.out deeds
        rw [hE] at HDe
        have HL1 := Lib.hid L1
        have HL5 := Lib.hid L5
        have HL6 := Lib.hid (L6 (fateF z7))
        have HL2 := Lib.hid L2
        rw [← HN.out] at L3 L4
        clear hok hE L1 L2 L5 L6
        go_wp2_with fail
        refine Calls.mono (HDe.out _ (HNm.out.below HB.out) (HT.out.below HB.out) (HR.out.below HB.out)) ?_
        rintro e w3 ⟨v3, rfl, hv3, hb3⟩
        generalize dealC a0 z2 k 2 = D at HDe HL1 HL5 HL6 hv3
        have hv3' := hv3
        obtain ⟨aA, an, ac, aB, am, ad, aC, ap, aq, aE, es, et, rfl, k1, k2, k3, k4, k5, k6, k7, k8⟩ := hv3
        have HSh := Lib.hid k5
        have HShl := Lib.hid k6
        have al := (Below.refl w3.heap.size w3).alloc (Nat.le_refl _) (.cells #[.int .i64 D.r.e, .int .i64 D.r.k, .slice aA an ac, .slice aB am ad, .string D.sec, .slice aC ap aq, .slice aE es et] 47)
        have hb4 := Below.chain hb3 al
        have HB4 := Lib.hid (Below.chain HB.out hb4)
        have HV4 := Lib.hid (hv3'.below al)
        have HX := Lib.hid (heap_alloc_new w3 (.cells #[.int .i64 D.r.e, .int .i64 D.r.k, .slice aA an ac, .slice aB am ad, .string D.sec, .slice aC ap aq, .slice aE es et] 47))
        have HSh4 := Lib.hid (HSh.out.below al)
        have HRd4 := Lib.hid (HRd.out.below hb4)
        obtain ⟨u, hu⟩ : ∃ u, u = w3.alloc (.cells #[.int .i64 D.r.e, .int .i64 D.r.k, .slice aA an ac, .slice aB am ad, .string D.sec, .slice aC ap aq, .slice aE es et] 47) := ⟨_, rfl⟩
        have Hu := Lib.hid hu
        rw [← hu] at HB4 HV4 HX HSh4 HRd4
        clear hu al hb3 hb4 hv3' k1 k2 k3 k4 k5 k6 k7 k8 HSh HDe
        go_upto_region 13 with fail
        rw [← Hu.out]
        clear Hu
        generalize w3.heap.size = X at *
        obtain ⟨⟨z0, z1, z2', z3, z4, z5, z6⟩, zf⟩ := seven_cells HX.out
        go_wp2_with fail
        refine Calls.mono (cspread_any _ _ _ _ _ D deeds _ HRd4.out HLn.out (by omega) HSm.out HV4.out (HR.out.below HB4.out)) ?_
        rw [HL1.out]
        rintro e w5 ⟨A5, n5, c5, l5, rfl, hn5, hp5, -, hb5, ho5⟩
        simp only at hp5
        have h5n : n5 = n := by
          have h2 : (plats l5).length = n := by rw [hp5, HL2.out, HN.out]
          rw [plats_len, ← hn5] at h2
          exact h2
        replace HX := hblk_below HX hb5
        have HB5 := Lib.hid (Below.chain HB4.out hb5)
        have HSh5 := Lib.hid (HSh4.out.below hb5)
        have HO5 := Lib.hid (show OwnD w5 w.heap.size A5 n5 c5 l5 from ⟨ho5.hn, own_le ho5.os HB4.out.size, ho5.sl, ho5.ok⟩)
        have HP5 := Lib.hid hp5
        clear hn5 hp5 hb5 ho5 z0 z1 z2' z3 z4 z5 z6 zf HV4 HSh4 HRd4 HB4
        subst h5n
        obtain ⟨g, cap', hv5, hgB, hgw5⟩ := HO5.out.os.form (by omega)
        injection hv5 with q1 q2 q3
        subst q1
        have hXg : X ≠ g := fun e => own_far HX.out HO5.out.os (by decide) (by rw [e]; rfl)
        clear q2 q3 hgw5
        go_wp2_with fail
        go_loopw [29] (fun x wr => ∃ (i : Nat) (lm : List Dk), i ≤ n5 ∧ x = .int .i64 (i : Nat) ∧ OwnD wr w.heap.size (some ⟨g, 0, none⟩) n5 c5 lm ∧ (∀ q, q < n5 → (plats lm).getD q noPlat = if q < i then (crashP (fateF z7 q) (L.getD q noPlat)).1 else L.getD q noPlat) ∧
          wr.heap[X]? = some (.cells #[.int .i64 D.r.e, .int .i64 D.r.k, .slice aA an ac, .slice aB am ad, .string D.sec, .slice aC ap aq, .slice aE es et] 47 (0, 0)) ∧ Rd wr aC (sharesV D.sh) ∧ Below w.heap.size w wr) (fun x _ => n5 - (intOf x).toNat)
        case atStart => exact ⟨0, l5, by omega, rfl, HO5.out, fun q hq => by rw [HP5.out, if_neg (by omega)], HX.out, HSh5.out, HB5.out⟩
        case round =>
          obtain ⟨i, lm, hi, rfl, hoi, hpi, hxi, hsi, hBi⟩ := hrel
          have HOi := Lib.hid hoi
          have Hpi := Lib.hid hpi
          have HXx := Lib.hid hxi
          have HSi := Lib.hid hsi
          have HBi := Lib.hid hBi
          clear hoi hpi hxi hsi hBi HO5 HP5 HX HSh5 HB5
          by_cases hlt : i < n5
          · have e1 : (i : Int) < (n5 : Int) := by omega
            have hgw : g < wr.heap.size := (HOi.out.os.lt g rfl).2
            have hil : i < lm.length := by rw [← HOi.out.hn]; exact hlt
            obtain ⟨b, off, hA, c0, c1⟩ := dk_at HOi.out.rd.rd hil
            injection hA with hA
            injection hA with hA1 hA2
            subst hA1 hA2
            rw [Nat.zero_add] at c0 c1
            have hxok := HOi.out.ok _ (List.getElem_mem hil)
            have hxe : lm[i].P = L.getD i noPlat := by
              have := Hpi.out i hlt
              rw [if_neg (Nat.lt_irrefl _), plats_at hil] at this
              exact this
            generalize lm[i] = x at c0 c1 hxok hxe
            obtain ⟨xA, xn, xc, xB, xm, xd, xP⟩ := x
            simp only at c0 c1 hxe
            have HXi := Lib.hid (show PB wr xA xn xB xm xP from hxok)
            have Hxe := Lib.hid hxe.symm
            clear hxok hxe hil
            by_cases hinf : i < nf
            · have e2 : decide ((i : Int) < (nf : Int)) = true := by simp; omega
              have e2' : (i : Int) < (nf : Int) := by omega
              have hiz : i < z7.length := by rw [← HNf.out]; exact hinf
              obtain ⟨b7, o7, ha7, c7⟩ := (HF.out.below HBi.out) i (ftV z7[i]) (by simp [hiz])
              have hok7 := HFo.out _ (List.getElem_mem hiz)
              have HFf := Lib.hid (show fateF z7 i = if z7[i].nf ≤ 200 then z7[i].fs else [] by unfold fateF; rw [List.getElem?_eq_getElem hiz])
              subst ha7
              generalize z7[i] = o at c7 hok7 HFf
              obtain ⟨F, fn, fc, fs⟩ := o
              simp only [ftV] at c7 HFf
              have HFr := Lib.hid (show Rd w F (ints fs) from hok7.rd)
              have HFn := Lib.hid (show fn = fs.length from hok7.nf)
              have HFm := Lib.hid (show fn ≤ maxLen from hok7.nm)
              have HFi := Lib.hid (show ∀ x ∈ fs, x ≤ 9223372036854775807 from hok7.fi)
              clear hok7 hiz
              by_cases h200 : fn ≤ 200
              · have e3 : decide ((fn : Int) ≤ 200) = true := by simp; omega
                have hfe : fateF z7 i = fs := by rw [HFf.out, if_pos h200]
                have hcr := HL6.out.1 i (by rw [← HN.out]; exact hlt)
                rw [hfe] at hcr
                have HCr := Lib.hid (fun W (hW : Below w.heap.size w W) (h : PB W xA xn xB xm xP) => crash_any (.agg #[.slice xA xn xc, .slice xB xm xd]) xP F fn fc fs W ⟨_, _, _, _, _, _, rfl, h⟩ (HFr.out.below hW) HFn.out HFm.out HFi.out)
                obtain ⟨rr, hrr⟩ : ∃ rr, rr = crashP fs xP := ⟨_, rfl⟩
                have hx2 : (crashP fs (L.getD i noPlat)) = rr := by rw [hrr, Hxe.out]
                rw [hx2] at hcr
                rw [← hrr] at HCr
                have HFe := Lib.hid (show (crashP (fateF z7 i) (L.getD i noPlat)).1 = rr.1 by rw [hfe, hx2])
                clear hfe hrr hx2
                obtain ⟨Q, ce⟩ := rr
                simp only at hcr HFe
                subst hcr
                go_wp2_with fail
                refine (HCr.out _ HBi.out HXi.out).mono ?_
                rintro E w6 ⟨v6, rfl, ⟨A6, n6, c6, B6, m6, d6, rfl, hp6⟩, hb6⟩
                have al := (Below.refl w6.heap.size w6).alloc (Nat.le_refl _) (.cells #[.slice A6 n6 c6, .slice B6 m6 d6] 37)
                have hb7 := Below.chain hb6 al
                have HO7 := Lib.hid (HOi.out.below hb7)
                have HB7 := Lib.hid (HBi.out.trans (hb7.mono HBi.out.size))
                have HX7 := hblk_below HXx hb7
                have HS7 := Lib.hid (HSi.out.below hb7)
                have HY := Lib.hid (heap_alloc_new w6 (.cells #[.slice A6 n6 c6, .slice B6 m6 d6] 37))
                have HP7 := Lib.hid (PB.below (show PB w6 A6 n6 B6 m6 Q from hp6) al)
                have hg6 : g < w6.heap.size := Nat.lt_of_lt_of_le hgw hb6.size
                obtain ⟨u7, hu7⟩ : ∃ u, u = w6.alloc (.cells #[.slice A6 n6 c6, .slice B6 m6 d6] 37) := ⟨_, rfl⟩
                have Hu7 := Lib.hid hu7
                rw [← hu7] at HO7 HB7 HX7 HS7 HY HP7
                clear hb6 hb7 al hu7 hp6 HCr c0 c1
                go_upto_region 25 with fail
                rw [← Hu7.out]
                clear Hu7
                generalize w6.heap.size = gy at *
                obtain ⟨y0, y1, _, _⟩ := two_cells HY.out
                have p0 := HO7.out.os.cellAt (i * 2) (by omega)
                have p1 := HO7.out.os.frozenAt (i * 2)
                have p2 := HO7.out.os.cellAt (i * 2 + 1) (by omega)
                have p3 := HO7.out.os.frozenAt (i * 2 + 1)
                have hil : i < lm.length := by rw [← HO7.out.hn]; exact hlt
                rw [(dksV_at lm i _ (List.getElem?_eq_getElem hil)).1] at p0
                rw [(dksV_at lm i _ (List.getElem?_eq_getElem hil)).2] at p2
                have hset := HO7.out.set hlt (x := ⟨A6, n6, c6, B6, m6, d6, Q⟩) HP7.out
                have HSt := Lib.hid hset
                have HBf := Lib.hid (HB7.out.trans (gb_by hset.2 (HO7.out.os.lt g rfl).1 HB7.out.size))
                have HXf := Lib.hid (gb_blk' hset.2 HX7.out hXg)
                have HSf := Lib.hid (rd_grown HS7.out (shares_sl _) (HO7.out.sl g 0 rfl) hset.2)
                generalize lm[i] = old at p0 p2
                clear hset hil
                go_wp2_with fail
                go_roundw
                case rel =>
                  refine ⟨i + 1, lm.set i ⟨A6, n6, c6, B6, m6, d6, Q⟩, by omega, by go_num, HSt.out.1, fun q hq => ?_, HXf.out, HSf.out, HBf.out⟩
                  rw [plats_set, plGetD (by rw [plats_len, ← HO7.out.hn]; exact hlt)]
                  by_cases hqi : i = q
                  · subst hqi
                    rw [if_pos rfl, if_pos (by omega), HFe.out]
                  · rw [if_neg hqi, Hpi.out q hq]
                    by_cases hq2 : q < i
                    · rw [if_pos hq2, if_pos (by omega)]
                    · rw [if_neg hq2, if_neg (by omega)]
                case measure => simp [intOf]; omega

              · have e3 : decide ((fn : Int) ≤ 200) = false := by simp; omega
                have hfe : fateF z7 i = [] := by rw [HFf.out, if_neg h200]
                have hcr := HL6.out.1 i (by rw [← HN.out]; exact hlt)
                rw [hfe] at hcr
                have HCr := Lib.hid (fun W (hW : Below w.heap.size w W) (h : PB W xA xn xB xm xP) => crash_any (.agg #[.slice xA xn xc, .slice xB xm xd]) xP none 0 0 [] W ⟨_, _, _, _, _, _, rfl, h⟩ (Rd.nil _ _) rfl (Nat.zero_le _) (by simp))
                obtain ⟨rr, hrr⟩ : ∃ rr, rr = crashP [] xP := ⟨_, rfl⟩
                have hx2 : (crashP [] (L.getD i noPlat)) = rr := by rw [hrr, Hxe.out]
                rw [hx2] at hcr
                rw [← hrr] at HCr
                have HFe := Lib.hid (show (crashP (fateF z7 i) (L.getD i noPlat)).1 = rr.1 by rw [hfe, hx2])
                clear hfe hrr hx2
                obtain ⟨Q, ce⟩ := rr
                simp only at hcr HFe
                subst hcr
                go_wp2_with fail
                refine (HCr.out _ HBi.out HXi.out).mono ?_
                rintro E w6 ⟨v6, rfl, ⟨A6, n6, c6, B6, m6, d6, rfl, hp6⟩, hb6⟩
                have al := (Below.refl w6.heap.size w6).alloc (Nat.le_refl _) (.cells #[.slice A6 n6 c6, .slice B6 m6 d6] 37)
                have hb7 := Below.chain hb6 al
                have HO7 := Lib.hid (HOi.out.below hb7)
                have HB7 := Lib.hid (HBi.out.trans (hb7.mono HBi.out.size))
                have HX7 := hblk_below HXx hb7
                have HS7 := Lib.hid (HSi.out.below hb7)
                have HY := Lib.hid (heap_alloc_new w6 (.cells #[.slice A6 n6 c6, .slice B6 m6 d6] 37))
                have HP7 := Lib.hid (PB.below (show PB w6 A6 n6 B6 m6 Q from hp6) al)
                have hg6 : g < w6.heap.size := Nat.lt_of_lt_of_le hgw hb6.size
                obtain ⟨u7, hu7⟩ : ∃ u, u = w6.alloc (.cells #[.slice A6 n6 c6, .slice B6 m6 d6] 37) := ⟨_, rfl⟩
                have Hu7 := Lib.hid hu7
                rw [← hu7] at HO7 HB7 HX7 HS7 HY HP7
                clear hb6 hb7 al hu7 hp6 HCr c0 c1
                go_upto_region 25 with fail
                rw [← Hu7.out]
                clear Hu7
                generalize w6.heap.size = gy at *
                obtain ⟨y0, y1, _, _⟩ := two_cells HY.out
                have p0 := HO7.out.os.cellAt (i * 2) (by omega)
                have p1 := HO7.out.os.frozenAt (i * 2)
                have p2 := HO7.out.os.cellAt (i * 2 + 1) (by omega)
                have p3 := HO7.out.os.frozenAt (i * 2 + 1)
                have hil : i < lm.length := by rw [← HO7.out.hn]; exact hlt
                rw [(dksV_at lm i _ (List.getElem?_eq_getElem hil)).1] at p0
                rw [(dksV_at lm i _ (List.getElem?_eq_getElem hil)).2] at p2
                have hset := HO7.out.set hlt (x := ⟨A6, n6, c6, B6, m6, d6, Q⟩) HP7.out
                have HSt := Lib.hid hset
                have HBf := Lib.hid (HB7.out.trans (gb_by hset.2 (HO7.out.os.lt g rfl).1 HB7.out.size))
                have HXf := Lib.hid (gb_blk' hset.2 HX7.out hXg)
                have HSf := Lib.hid (rd_grown HS7.out (shares_sl _) (HO7.out.sl g 0 rfl) hset.2)
                generalize lm[i] = old at p0 p2
                clear hset hil
                go_wp2_with fail
                go_roundw
                case rel =>
                  refine ⟨i + 1, lm.set i ⟨A6, n6, c6, B6, m6, d6, Q⟩, by omega, by go_num, HSt.out.1, fun q hq => ?_, HXf.out, HSf.out, HBf.out⟩
                  rw [plats_set, plGetD (by rw [plats_len, ← HO7.out.hn]; exact hlt)]
                  by_cases hqi : i = q
                  · subst hqi
                    rw [if_pos rfl, if_pos (by omega), HFe.out]
                  · rw [if_neg hqi, Hpi.out q hq]
                    by_cases hq2 : q < i
                    · rw [if_pos hq2, if_pos (by omega)]
                    · rw [if_neg hq2, if_neg (by omega)]
                case measure => simp [intOf]; omega

            · have e2 : decide ((i : Int) < (nf : Int)) = false := by simp; omega
              have hfe : fateF z7 i = [] := by unfold fateF; rw [List.getElem?_eq_none (by rw [← HNf.out]; omega)]
              have hcr := HL6.out.1 i (by rw [← HN.out]; exact hlt)
              rw [hfe] at hcr
              have HCr := Lib.hid (fun W (hW : Below w.heap.size w W) (h : PB W xA xn xB xm xP) => crash_any (.agg #[.slice xA xn xc, .slice xB xm xd]) xP none 0 0 [] W ⟨_, _, _, _, _, _, rfl, h⟩ (Rd.nil _ _) rfl (Nat.zero_le _) (by simp))
              obtain ⟨rr, hrr⟩ : ∃ rr, rr = crashP [] xP := ⟨_, rfl⟩
              have hx2 : (crashP [] (L.getD i noPlat)) = rr := by rw [hrr, Hxe.out]
              rw [hx2] at hcr
              rw [← hrr] at HCr
              have HFe := Lib.hid (show (crashP (fateF z7 i) (L.getD i noPlat)).1 = rr.1 by rw [hfe, hx2])
              clear hfe hrr hx2
              obtain ⟨Q, ce⟩ := rr
              simp only at hcr HFe
              subst hcr
              go_wp2_with fail
              refine (HCr.out _ HBi.out HXi.out).mono ?_
              rintro E w6 ⟨v6, rfl, ⟨A6, n6, c6, B6, m6, d6, rfl, hp6⟩, hb6⟩
              have al := (Below.refl w6.heap.size w6).alloc (Nat.le_refl _) (.cells #[.slice A6 n6 c6, .slice B6 m6 d6] 37)
              have hb7 := Below.chain hb6 al
              have HO7 := Lib.hid (HOi.out.below hb7)
              have HB7 := Lib.hid (HBi.out.trans (hb7.mono HBi.out.size))
              have HX7 := hblk_below HXx hb7
              have HS7 := Lib.hid (HSi.out.below hb7)
              have HY := Lib.hid (heap_alloc_new w6 (.cells #[.slice A6 n6 c6, .slice B6 m6 d6] 37))
              have HP7 := Lib.hid (PB.below (show PB w6 A6 n6 B6 m6 Q from hp6) al)
              have hg6 : g < w6.heap.size := Nat.lt_of_lt_of_le hgw hb6.size
              obtain ⟨u7, hu7⟩ : ∃ u, u = w6.alloc (.cells #[.slice A6 n6 c6, .slice B6 m6 d6] 37) := ⟨_, rfl⟩
              have Hu7 := Lib.hid hu7
              rw [← hu7] at HO7 HB7 HX7 HS7 HY HP7
              clear hb6 hb7 al hu7 hp6 HCr c0 c1
              go_upto_region 25 with fail
              rw [← Hu7.out]
              clear Hu7
              generalize w6.heap.size = gy at *
              obtain ⟨y0, y1, _, _⟩ := two_cells HY.out
              have p0 := HO7.out.os.cellAt (i * 2) (by omega)
              have p1 := HO7.out.os.frozenAt (i * 2)
              have p2 := HO7.out.os.cellAt (i * 2 + 1) (by omega)
              have p3 := HO7.out.os.frozenAt (i * 2 + 1)
              have hil : i < lm.length := by rw [← HO7.out.hn]; exact hlt
              rw [(dksV_at lm i _ (List.getElem?_eq_getElem hil)).1] at p0
              rw [(dksV_at lm i _ (List.getElem?_eq_getElem hil)).2] at p2
              have hset := HO7.out.set hlt (x := ⟨A6, n6, c6, B6, m6, d6, Q⟩) HP7.out
              have HSt := Lib.hid hset
              have HBf := Lib.hid (HB7.out.trans (gb_by hset.2 (HO7.out.os.lt g rfl).1 HB7.out.size))
              have HXf := Lib.hid (gb_blk' hset.2 HX7.out hXg)
              have HSf := Lib.hid (rd_grown HS7.out (shares_sl _) (HO7.out.sl g 0 rfl) hset.2)
              generalize lm[i] = old at p0 p2
              clear hset hil
              go_wp2_with fail
              go_roundw
              case rel =>
                refine ⟨i + 1, lm.set i ⟨A6, n6, c6, B6, m6, d6, Q⟩, by omega, by go_num, HSt.out.1, fun q hq => ?_, HXf.out, HSf.out, HBf.out⟩
                rw [plats_set, plGetD (by rw [plats_len, ← HO7.out.hn]; exact hlt)]
                by_cases hqi : i = q
                · subst hqi
                  rw [if_pos rfl, if_pos (by omega), HFe.out]
                · rw [if_neg hqi, Hpi.out q hq]
                  by_cases hq2 : q < i
                  · rw [if_pos hq2, if_pos (by omega)]
                  · rw [if_neg hq2, if_neg (by omega)]
              case measure => simp [intOf]; omega

          · obtain rfl : i = n5 := by omega
            have e1 : ¬ (i : Int) < (i : Int) := by omega
            have hlm : (plats lm).length = z2.length := by rw [plats_len, ← HOi.out.hn, HN.out]
            obtain ⟨hsm, s, hse, hwh⟩ := HL6.out.2 (plats lm) hlm (fun q hq => by
              have := Hpi.out q (by rw [HN.out]; exact hq)
              rw [if_pos (by rw [HN.out]; exact hq)] at this
              exact this)
            have HSe := Lib.hid (settle_any2 (some ⟨g, 0, none⟩) i c5 lm 2 wr HOi.out.rd HOi.out.hn (by omega) (fun x hx => by
              have h1 := hsm _ (mem_plats hx)
              have h2 := HOi.out.ok x hx
              have h3 := h2.hn
              have h4 := h2.hm
              unfold smallP at h1
              omega))
            rw [hse] at HSe
            have HWh := Lib.hid hwh
            clear hlm hsm hse hwh
            go_wp2_with fail
            refine HSe.out.mono ?_
            rintro _ w8 ⟨A8, n8, c8, l8, rfl, hn8, hp8, hr8, hb8⟩
            simp only at hp8
            have h8n : n8 = i := by
              have h2 : (plats l8).length = i := by rw [hp8, HWh.out.1, HN.out]
              rw [plats_len, ← hn8] at h2
              exact h2
            have HN8 := Lib.hid hn8
            have HP8 := Lib.hid hp8
            have HR8 := Lib.hid hr8
            have HX8 := hblk_below HXx hb8
            have HS8 := Lib.hid (HSi.out.below hb8)
            have HB8 := Lib.hid (Below.chain HBi.out hb8)
            clear hn8 hp8 hr8 hb8 HSe HOi HXx HSi HBi
            subst h8n
            have hD : (D.sh.length = n8) := by rw [HL5.out, HN.out]
            have HDl := Lib.hid hD
            have hap : ap = n8 := by rw [HShl.out, hD]
            subst hap
            clear hD
            rcases HWh.out.2 with hold | hnew
            · have HWo := Lib.hid hold
              clear hold
              go_wp2_with fail
              go_loopw [35, 36] (fun sx x wr => ∃ i : Nat, i ≤ ap ∧ x = .int .i64 (i : Nat) ∧ sx = .int .i64 0 ∧ RdD wr A8 l8 ∧ wr.heap[X]? = some (.cells #[.int .i64 D.r.e, .int .i64 D.r.k, .slice aA an ac, .slice aB am ad, .string D.sec, .slice aC ap aq, .slice aE es et] 47 (0, 0)) ∧ Rd wr aC (sharesV D.sh) ∧ Below w.heap.size w wr) (fun _ x _ => ap - (intOf x).toNat)
              case atStart => exact ⟨0, by omega, rfl, rfl, HR8.out, HX8.out, HS8.out, HB8.out⟩
              case round =>
                obtain ⟨i, hi, rfl, rfl, hri, hxi, hsi, hBi⟩ := hrel
                have HRi := Lib.hid hri
                have HXi := Lib.hid hxi
                have HSi := Lib.hid hsi
                have HBi := Lib.hid hBi
                clear hri hxi hsi hBi HR8 HX8 HS8 HB8
                by_cases hlt : i < ap
                · have e1 : (i : Int) < (ap : Int) := by omega
                  have hil : i < l8.length := by rw [← HN8.out]; exact hlt
                  have his : i < D.sh.length := by rw [HDl.out]; exact hlt
                  obtain ⟨b, off, hA, c0, c1⟩ := dk_at HRi.out.rd hil
                  subst hA
                  have hxok := HRi.out.ok _ (List.getElem_mem hil)
                  have hw := HWo.out i (by rw [← HN.out]; exact hlt)
                  rw [← HP8.out, plats_at hil] at hw

                  generalize l8[i] = x at c0 c1 hxok hw
                  obtain ⟨xA, xn, xc, xB, xm, xd, xP⟩ := x
                  simp only at c0 c1 hw
                  have HXo := Lib.hid (show PB wr xA xn xB xm xP from hxok)
                  have HGt := Lib.hid (fun W (h : PB W xA xn xB xm xP) => hget_any (.agg #[.slice xA xn xc, .slice xB xm xd]) xP W ⟨_, _, _, _, _, _, rfl, h⟩)
                  obtain ⟨rg, hrg⟩ : ∃ rg, rg = getH xP := ⟨_, rfl⟩
                  rw [← hrg] at hw
                  obtain ⟨⟨h0, h1, h2, h3, h4, h5, h6, h7, h8, h9⟩, ge⟩ := rg
                  simp only at hw
                  obtain ⟨hge, he0⟩ := hw
                  have he1 : h0 = 1 := by omega
                  subst hge he1
                  clear he0
                  have HGt := Lib.hid (show ∀ W, PB W xA xn xB xm xP → Calls Tryz.prog 9 #[.agg #[.slice xA xn xc, .slice xB xm xd]] W (fun e w' => e = .returned (.tuple #[.agg #[.int .i64 1, .int .i64 h1, .int .i64 h2, .string h3, .string h4, .string h5, .int .i64 h6, .int .i64 h7, .string h8, .string h9], .int .i64 0]) ∧ Below W.heap.size W w') from fun W h => by
                    have := hget_any (.agg #[.slice xA xn xc, .slice xB xm xd]) xP W ⟨_, _, _, _, _, _, rfl, h⟩
                    rw [← hrg] at this
                    exact this)
                  clear hxok hrg his hil
                  go_wp2_with fail
                  refine (HGt.out _ HXo.out).mono ?_
                  rintro E w9 ⟨rfl, hb9⟩
                  have al := (Below.refl w9.heap.size w9).alloc (Nat.le_refl _) (.cells #[.int .i64 1, .int .i64 h1, .int .i64 h2, .string h3, .string h4, .string h5, .int .i64 h6, .int .i64 h7, .string h8, .string h9] 31)
                  have hb10 := Below.chain hb9 al
                  have HR9 := Lib.hid (HRi.out.below hb10)
                  have HX9 := hblk_below HXi hb10
                  have HS9 := Lib.hid (HSi.out.below hb10)
                  have HB9 := Lib.hid (Below.chain HBi.out hb10)
                  have HH := Lib.hid (heap_alloc_new w9 (.cells #[.int .i64 1, .int .i64 h1, .int .i64 h2, .string h3, .string h4, .string h5, .int .i64 h6, .int .i64 h7, .string h8, .string h9] 31))
                  obtain ⟨u9, hu9⟩ : ∃ u, u = w9.alloc (.cells #[.int .i64 1, .int .i64 h1, .int .i64 h2, .string h3, .string h4, .string h5, .int .i64 h6, .int .i64 h7, .string h8, .string h9] 31) := ⟨_, rfl⟩
                  have Hu9 := Lib.hid hu9
                  rw [← hu9] at HR9 HX9 HS9 HB9 HH
                  clear hb9 al hb10 hu9 HGt HXo c0 c1
                  go_upto_region 36 with fail
                  rw [← Hu9.out]
                  clear Hu9
                  generalize w9.heap.size = G at *
                  have y0 := fun y : Later u9 => y.cell (cell_in HH.out 0 _ rfl)
                  refine wp_region_later (by kernel_rfl) (by kernel_rfl) ?_
                  repeat (go_big_quiet_step (fail))
                  refine wpQuiet_nil ?_
                  rintro _ ⟨y, rfl⟩
                  have g0 := y0 y
                  go_wp2_with fail
                  go_roundw
                  case rel => exact ⟨i + 1, by omega, by go_num, rfl, HR9.out.below y.ok, cells_below HX9.out y.ok, HS9.out.below y.ok, Below.chain HB9.out y.ok⟩
                  case measure => simp [intOf]; omega
                · obtain rfl : i = ap := by omega
                  have e1 : ¬ (i : Int) < (i : Int) := by omega
                  have f1 : ((i : Int) == 0) = false := by simp; omega
                  have f2 : ((i : Int) == (i : Int)) = true := beq_self_eq_true _
                  go_wp2_with fail
                  refine Calls.mono (HCh.out _ (HT.out.below HBi.out) (HR.out.below HBi.out)) ?_
                  rintro e wz ⟨rfl, hbz⟩
                  have HBz := Lib.hid (Below.chain HBi.out hbz)
                  clear hbz
                  go_wp2_with fail
                  go_ret
                  exact ⟨rfl, HBz.out⟩

            · have HWn := Lib.hid hnew
              clear hnew
              go_wp2_with fail
              go_loopw [35, 36] (fun sx x wr => ∃ i : Nat, i ≤ ap ∧ x = .int .i64 (i : Nat) ∧ sx = .int .i64 (i : Nat) ∧ RdD wr A8 l8 ∧ wr.heap[X]? = some (.cells #[.int .i64 D.r.e, .int .i64 D.r.k, .slice aA an ac, .slice aB am ad, .string D.sec, .slice aC ap aq, .slice aE es et] 47 (0, 0)) ∧ Rd wr aC (sharesV D.sh) ∧ Below w.heap.size w wr) (fun _ x _ => ap - (intOf x).toNat)
              case atStart => exact ⟨0, by omega, rfl, rfl, HR8.out, HX8.out, HS8.out, HB8.out⟩
              case round =>
                obtain ⟨i, hi, rfl, rfl, hri, hxi, hsi, hBi⟩ := hrel
                have HRi := Lib.hid hri
                have HXi := Lib.hid hxi
                have HSi := Lib.hid hsi
                have HBi := Lib.hid hBi
                clear hri hxi hsi hBi HR8 HX8 HS8 HB8
                by_cases hlt : i < ap
                · have e1 : (i : Int) < (ap : Int) := by omega
                  have hil : i < l8.length := by rw [← HN8.out]; exact hlt
                  have his : i < D.sh.length := by rw [HDl.out]; exact hlt
                  obtain ⟨b, off, hA, c0, c1⟩ := dk_at HRi.out.rd hil
                  subst hA
                  have hxok := HRi.out.ok _ (List.getElem_mem hil)
                  have hw := HWn.out i (by rw [← HN.out]; exact hlt)
                  rw [← HP8.out, plats_at hil] at hw

                  generalize l8[i] = x at c0 c1 hxok hw
                  obtain ⟨xA, xn, xc, xB, xm, xd, xP⟩ := x
                  simp only at c0 c1 hw
                  have HXo := Lib.hid (show PB wr xA xn xB xm xP from hxok)
                  have HGt := Lib.hid (fun W (h : PB W xA xn xB xm xP) => hget_any (.agg #[.slice xA xn xc, .slice xB xm xd]) xP W ⟨_, _, _, _, _, _, rfl, h⟩)
                  obtain ⟨bC, oC, hC⟩ : ∃ b o, aC = some ⟨b, o, none⟩ := by
                    obtain ⟨b, o, h, _⟩ := HSi.out.shr his
                    exact ⟨b, o, h⟩
                  subst hC
                  obtain ⟨g2, g3⟩ := shr_at' HSi.out his
                  obtain ⟨rg, hrg⟩ : ∃ rg, rg = getH xP := ⟨_, rfl⟩
                  rw [← hrg] at hw
                  obtain ⟨⟨h0, h1, h2, h3, h4, h5, h6, h7, h8, h9⟩, ge⟩ := rg
                  simp only at hw
                  obtain ⟨hge, he1, hsh⟩ := hw
                  rw [← hsh] at g2 g3
                  simp only at g2 g3
                  subst hge he1
                  clear hsh
                  have G2 := Lib.hid g2
                  have G3 := Lib.hid g3
                  clear g2 g3
                  have HGt := Lib.hid (show ∀ W, PB W xA xn xB xm xP → Calls Tryz.prog 9 #[.agg #[.slice xA xn xc, .slice xB xm xd]] W (fun e w' => e = .returned (.tuple #[.agg #[.int .i64 2, .int .i64 h1, .int .i64 h2, .string h3, .string h4, .string h5, .int .i64 h6, .int .i64 h7, .string h8, .string h9], .int .i64 0]) ∧ Below W.heap.size W w') from fun W h => by
                    have := hget_any (.agg #[.slice xA xn xc, .slice xB xm xd]) xP W ⟨_, _, _, _, _, _, rfl, h⟩
                    rw [← hrg] at this
                    exact this)
                  clear hxok hrg his hil
                  go_wp2_with fail
                  refine (HGt.out _ HXo.out).mono ?_
                  rintro E w9 ⟨rfl, hb9⟩
                  have al := (Below.refl w9.heap.size w9).alloc (Nat.le_refl _) (.cells #[.int .i64 2, .int .i64 h1, .int .i64 h2, .string h3, .string h4, .string h5, .int .i64 h6, .int .i64 h7, .string h8, .string h9] 31)
                  have hb10 := Below.chain hb9 al
                  have HR9 := Lib.hid (HRi.out.below hb10)
                  have HX9 := hblk_below HXi hb10
                  have HS9 := Lib.hid (HSi.out.below hb10)
                  have HB9 := Lib.hid (Below.chain HBi.out hb10)
                  have HH := Lib.hid (heap_alloc_new w9 (.cells #[.int .i64 2, .int .i64 h1, .int .i64 h2, .string h3, .string h4, .string h5, .int .i64 h6, .int .i64 h7, .string h8, .string h9] 31))
                  have G2' := Lib.hid ((hb10.cell (cell_lt G2.out)).trans G2.out)
                  have G3' := Lib.hid ((hb10.cell (cell_lt G3.out)).trans G3.out)
                  obtain ⟨u9, hu9⟩ : ∃ u, u = w9.alloc (.cells #[.int .i64 2, .int .i64 h1, .int .i64 h2, .string h3, .string h4, .string h5, .int .i64 h6, .int .i64 h7, .string h8, .string h9] 31) := ⟨_, rfl⟩
                  have Hu9 := Lib.hid hu9
                  rw [← hu9] at HR9 HX9 HS9 HB9 HH G2' G3'
                  clear hb9 al hb10 hu9 HGt HXo c0 c1
                  go_upto_region 36 with fail
                  rw [← Hu9.out]
                  clear Hu9
                  generalize w9.heap.size = G at *
                  have y0 := fun y : Later u9 => y.cell (cell_in HH.out 0 _ rfl)
                  have y2 := fun y : Later u9 => y.cell (cell_in HH.out 2 _ rfl)
                  have y3 := fun y : Later u9 => y.cell (cell_in HH.out 3 _ rfl)
                  have y5 := fun y : Later u9 => y.cell (cell_in HX9.out 5 _ rfl)
                  have y6 := fun y : Later u9 => y.cell G2'.out
                  have y7 := fun y : Later u9 => y.cell G3'.out
                  have f3 : (h2 != h2) = false := by simp
                  have f4 : (h3.toList != h3.toList) = false := by simp
                  have f5 : (h2 == h2) = true := beq_self_eq_true _
                  have f6 : (h3.toList == h3.toList) = true := beq_self_eq_true _
                  refine wp_region_later (by kernel_rfl) (by kernel_rfl) ?_
                  repeat (go_big_quiet_step (fail))
                  refine wpQuiet_nil ?_
                  rintro _ ⟨y, rfl⟩
                  have g0 := y0 y
                  go_wp2_with fail
                  go_roundw
                  case rel => exact ⟨i + 1, by omega, by go_num, by go_num, HR9.out.below y.ok, cells_below HX9.out y.ok, HS9.out.below y.ok, Below.chain HB9.out y.ok⟩
                  case measure => simp [intOf]; omega
                · obtain rfl : i = ap := by omega
                  have e1 : ¬ (i : Int) < (i : Int) := by omega
                  have f1 : ((i : Int) == 0) = false := by simp; omega
                  have f2 : ((i : Int) == (i : Int)) = true := beq_self_eq_true _
                  go_wp2_with fail
                  refine Calls.mono (HCh.out _ (HT.out.below HBi.out) (HR.out.below HBi.out)) ?_
                  rintro e wz ⟨rfl, hbz⟩
                  have HBz := Lib.hid (Below.chain HBi.out hbz)
                  clear hbz
                  go_wp2_with fail
                  go_ret
                  exact ⟨rfl, HBz.out⟩
end Go.Proofs.YtgkihdhjafmnnaaGreatDoor
