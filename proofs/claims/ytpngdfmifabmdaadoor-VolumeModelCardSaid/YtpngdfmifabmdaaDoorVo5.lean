/-
  Contract of volume.Rekey.
-/
import Derived.Test.YtpngdfmifabmdaaDoorVo4
import Derived.BigQuiet
import Derived.Deep.RegionHeld3
namespace Go.Proofs.YtpngdfmifabmdaaDoor
open Go.RowKit
set_option linter.unusedVariables false
set_option linter.unusedSimpArgs false
set_option maxRecDepth 100000
set_option maxHeartbeats 4000000

theorem crypt_le (key nonce s : ByteArray) (n : Int) : (cryptS key nonce s n).size ≤ s.size := by
  by_cases h : cryptB key nonce s n = 0
  · rw [crypt_len key nonce s n h]
    exact Nat.le_refl _
  · unfold cryptS
    rw [if_neg h]
    exact Nat.zero_le _
theorem showS_le (key : ByteArray) (i : Int) (st : ByteArray) : (showS key i st).size ≤ st.size := by
  unfold showS
  split
  · exact Nat.zero_le _
  · unfold openS
    split
    · refine Nat.le_trans (crypt_le _ _ _ _) ?_
      rw [headB_size, ByteArray.size_extract]
      omega
    · exact Nat.zero_le _
theorem rk_get (bl : List ByteArray) (old key : ByteArray) (ns : List ByteArray) : ∀ i, (rkL bl old key ns i).1 = 0 → ∀ j, i ≤ j → (rkL bl old key ns i).2.getD j noT = bl.getD j noT
  | 0, _, j, _ => rfl
  | i + 1, h, j, hj => by
    by_cases h0 : (rkL bl old key ns i).1 ≠ 0
    · rw [rkL, if_pos h0] at h
      exact absurd h h0
    · have h0' := Decidable.not_not.1 h0
      by_cases hs : (stepR old key ns i (bl.getD i noT)).1 ≠ 0
      · rw [rkL, if_neg h0, if_pos hs] at h
        exact absurd h hs
      · rw [rk_good h0' (Decidable.not_not.1 hs)]
        simp only
        rw [List.getD_eq_getElem?_getD, List.getElem?_set_ne (by omega), ← List.getD_eq_getElem?_getD]
        exact rk_get bl old key ns i h0' j (by omega)
theorem rk_same {bl : List ByteArray} {old key : ByteArray} {ns : List ByteArray} {i : Nat} (h : (rkL bl old key ns i).1 = 0) (hi : i < bl.length) (hb : (bl.getD i noT).size = 0) : rkL bl old key ns (i + 1) = (0, (rkL bl old key ns i).2) := by
  have hs : stepR old key ns i (bl.getD i noT) = (0, bl.getD i noT) := by unfold stepR; rw [if_pos hb]
  rw [rk_good h (by rw [hs]), hs]
  have hg := rk_get bl old key ns i h i (Nat.le_refl _)
  have hil : i < (rkL bl old key ns i).2.length := by rw [rk_len]; exact hi
  rw [List.getD_eq_getElem?_getD, List.getElem?_eq_getElem hil] at hg
  simp only
  rw [← hg]
  congr 1
  exact List.set_getElem_self hil
theorem rk_size {bl : List ByteArray} {old key : ByteArray} {ns : List ByteArray} (hb : ∀ x ∈ bl, x.size ≤ 92) : ∀ i, (rkL bl old key ns i).1 = 0 → ∀ x ∈ (rkL bl old key ns i).2, x.size ≤ 92
  | 0, _ => hb
  | i + 1, h => by
    by_cases h0 : (rkL bl old key ns i).1 ≠ 0
    · rw [rkL, if_pos h0] at h
      exact absurd h h0
    · have h0' := Decidable.not_not.1 h0
      by_cases hs : (stepR old key ns i (bl.getD i noT)).1 ≠ 0
      · rw [rkL, if_neg h0, if_pos hs] at h
        exact absurd h hs
      · have hs' := Decidable.not_not.1 hs
        rw [rk_good h0' hs']
        intro x hx
        rcases List.mem_or_eq_of_mem_set hx with hx | rfl
        · exact rk_size hb i h0' x hx
        · unfold stepR at hs' ⊢
          split
          · rename_i hz; simp only; omega
          · rename_i hz
            rw [if_neg hz] at hs'
            split
            · exact Nat.zero_le _
            · rename_i hq
              rw [if_neg hq] at hs'
              have := hide_show hs'
              simp only
              omega
theorem vaddr_ne {b b' o o' : Nat} (h : b ≠ b') : (⟨b, o, none⟩ : Addr) ≠ ⟨b', o', none⟩ := fun e => h (congrArg Addr.block e)
theorem rekey_any (v : Value) (V : Vol) (old key : ByteArray) (A2 : Option Addr) (n2 c2 : Nat) (ns : List ByteArray) (w : World) (hv : VV w v V) (hr2 : Rd w A2 (textsV ns)) (hn2 : n2 = ns.length) (hl2 : n2 ≤ 9223372036854775807) (hko : old.size ≤ maxLen) (hk : key.size ≤ maxLen) (hnz : ∀ x ∈ ns, x.size ≤ maxLen) (hR : Rounds w) (hT : Turns w) :
    Calls Tryd.prog 13 #[v, .string old, .string key, .slice A2 n2 c2] w (VolE w (rekeyV V old key ns) (rekeyE V old key ns)) := by
  obtain ⟨A, n, c, rfl, hr, hn⟩ := hv
  obtain ⟨k1, k2, k3, k4⟩ := three_boxes w (.slice A n c) (.string V.rt) (.slice none 0 0) (.string ⟨#[]⟩)
  obtain ⟨tb, htb⟩ : ∃ tb, tb = decide (ns.length = V.bl.length) := ⟨_, rfl⟩
  have hq : ((n2 : Int) == (n : Int)) = tb := by
    rw [htb, hn2, hn]
    by_cases h : ns.length = V.bl.length
    · rw [decide_eq_true h, h]; simp
    · rw [decide_eq_false h]; simp; omega
  have HF := Lib.hid (fun W h1 h2 h3 => fit_any (w.heap.size + 1 + 1) A n c V tb W h1 h2 hn h3)
  have HRd := Lib.hid hr
  have HR2 := Lib.hid hr2
  have HN := Lib.hid hn
  have HN2 := Lib.hid hn2
  have HR := Lib.hid hR
  have HT := Lib.hid hT
  obtain ⟨W1, hW1⟩ : ∃ W1, W1 = ((w.alloc (.cells #[.slice A n c, .string V.rt] 24)).alloc (.cells #[.slice none 0 0, .string ⟨#[]⟩] 24)).alloc (.cells #[.slice A n c, .string V.rt] 42) := ⟨_, rfl⟩
  have HW1 := Lib.hid hW1
  have p0 := (Below.heap_alloc (w.alloc (.cells #[.slice A n c, .string V.rt] 24)) (.cells #[.slice none 0 0, .string ⟨#[]⟩] 24) w.heap.size (by simp)).trans (heap_alloc_new w (.cells #[.slice A n c, .string V.rt] 24))
  have a0 := rf_at p0 0 _ rfl
  have a1 := rf_at p0 1 _ rfl
  have aa0 := rf_at k1 0 _ rfl
  rw [← hW1] at k1 k2 k3 k4
  have HX := Lib.hid k1
  have HZ := Lib.hid k2
  have HY := Lib.hid k3
  have Hb := Lib.hid k4
  clear hr hn hR hT k1 k2 k3 k4 hW1 p0 hr2 hn2
  obtain ⟨fe, hfe⟩ : ∃ fe, fe = fitE V tb := ⟨_, rfl⟩
  rw [← hfe] at HF
  have hfe2 : fe = fitE V (decide (ns.length = V.bl.length)) := by rw [← htb]; exact hfe
  by_cases h0 : fe = 0
  case neg =>
    have hE : rekeyE V old key ns = fe := by unfold rekeyE; rw [if_pos (by rw [← hfe2]; exact h0), hfe2]
    have hS : rekeyV V old key ns = vol0 := by unfold rekeyV; rw [if_neg (by rw [hE]; exact h0)]
    rw [hE, hS]
    have d2 : ((fe : Int) != 0) = true := by simp; omega
    clear hE hS h0 hfe hfe2 hk hko hnz htb
    go_enter Tryd.func13, Tryd.ntmps13
    go_wp2_with fail
    rw [← HW1.out]
    refine (HF.out _ HY.out (HRd.out.below Hb.out) (HR.out.below Hb.out)).mono ?_
    rintro e w3 ⟨rfl, hb3⟩
    have HZ3 := Lib.hid (cells_below HZ.out hb3)
    have Hb3 := Lib.hid (Hb.out.trans (hb3.mono Hb.out.size))
    have b0 := rf_at HZ3.out 0 _ rfl
    have b1 := rf_at HZ3.out 1 _ rfl
    have f0 := rf_fr HZ3.out 0
    have f1 := rf_fr HZ3.out 1
    clear hb3 a0 a1 aa0
    go_wp2_with fail
    refine bodyPost_ret (res_cell_tmp rfl _ _ (w.heap.size + 1) (by rfl) _ (load_vol (vol_set HZ3.out _ _))) rfl ?_
    exact ⟨_, rfl, ⟨none, 0, 0, rfl, ⟨Rd.nil _ _, fun _ _ h => by cases h⟩, rfl⟩, (Hb3.out.setCell (p := ⟨w.heap.size + 1, 0, none⟩) (by dsimp only; omega) _).setCell (p := ⟨w.heap.size + 1, 1, none⟩) (by dsimp only; omega) _⟩
  have hz : fitE V tb = 0 := by rw [← hfe]; exact h0
  have hz2 : fitE V (decide (ns.length = V.bl.length)) = 0 := by rw [← hfe2]; exact h0
  subst h0
  obtain ⟨c1, ct, c3⟩ := fit_zero hz
  have hlen : ns.length = V.bl.length := by rw [htb] at ct; exact of_decide_eq_true ct
  obtain rfl : n2 = n := by rw [HN2.out, HN.out]; exact hlen
  clear hq htb hfe hfe2
  obtain rfl : tb = true := ct
  have hq : ((n2 : Int) == (n2 : Int)) = true := by simp
  obtain ⟨p1, p2, p3⟩ := vol_parts c1
  have hn64 : n2 ≤ 64 := by rw [HN.out]; exact (count_le p1).2
  have hn1 : 1 ≤ n2 := by rw [HN.out]; exact (count_le p1).1
  have d2 : (((0 : Nat) : Int) != 0) = false := rfl
  have HE := Lib.hid (show rekeyE V old key ns = (rkL V.bl old key ns n2).1 by unfold rekeyE; rw [if_neg (by rw [hz2]; simp), ← HN.out])
  have HV := Lib.hid (show rekeyV V old key ns = if (rkL V.bl old key ns n2).1 = 0 then rooted (rkL V.bl old key ns n2).2 else vol0 by unfold rekeyV; rw [HE.out, ← HN.out])
  rw [HE.out, HV.out]
  have Hmay := Lib.hid (count_may p1)
  have Hsz := Lib.hid p3
  have Hko := Lib.hid hko
  have Hk := Lib.hid hk
  have Hnz := Lib.hid hnz
  obtain ⟨bl, rt⟩ := V
  simp only at HF HRd HN HX HY HW1 a0 a1 aa0 Hmay Hsz HE HV ⊢
  have Hlen := Lib.hid hlen
  obtain ⟨re, hre⟩ : ∃ re, re = (rkL bl old key ns n2).1 := ⟨_, rfl⟩
  obtain ⟨rv, hrv⟩ : ∃ rv, rv = if re = 0 then rooted (rkL bl old key ns n2).2 else vol0 := ⟨_, rfl⟩
  rw [← hre]
  rw [← hrv]
  have Hre := Lib.hid hre
  have Hrv := Lib.hid hrv
  clear hre hrv
  clear hz hz2 hk hko hnz c1 c3 p1 p2 p3 hlen HE HV
  go_enter Tryd.func13, Tryd.ntmps13
  go_wp2_with fail
  rw [← HW1.out]
  refine (HF.out _ HY.out (HRd.out.below Hb.out) (HR.out.below Hb.out)).mono ?_
  rintro e w3 ⟨rfl, hb3⟩
  have HZ3 := Lib.hid (cells_below HZ.out hb3)
  have HX3 := Lib.hid (cells_below HX.out hb3)
  have Hb3 := Lib.hid (Hb.out.trans (hb3.mono Hb.out.size))
  have x0 := rf_at HX3.out 0 _ rfl
  have x1 := rf_at HX3.out 1 _ rfl
  clear hb3 a0 a1 aa0 hq
  go_wp2_with fail
  refine (vcopied_any A n2 c bl rt w3 (HRd.out.below Hb3.out) HN.out (by omega)).mono ?_
  rintro e w5 ⟨g, A', cap, rfl, hg, hgB, hown, hb5⟩
  obtain ⟨gA, rfl, hgA, hlt, -, -, -⟩ := own_text_set hown (by omega : 0 < n2) HN.out
  have hne := own_ne_work hown hg
  have HZ5 := Lib.hid (cells_below HZ3.out hb5)
  have HX5 := Lib.hid (cells_below HX3.out hb5)
  have Hb5 := Lib.hid (Hb3.out.trans (hb5.mono Hb3.out.size))
  have HG := Lib.hid hg
  have HO := Lib.hid hown
  have hz3 := cell_lt_of HZ3.out
  have hs3 := Hb3.out.size
  obtain ⟨B0, hB0⟩ : ∃ B0, B0 = w3.heap.size := ⟨_, rfl⟩
  rw [← hB0] at hgB hgA HO hz3 hs3
  have Hlt5 := Lib.hid hlt
  clear hg hown hb5 x0 x1 hB0 hlt
  have x0 := rf_at HX5.out 0 _ rfl
  go_wp2_with fail
  clear x0
  go_loopw [35] (fun x wr => ∃ i : Nat, i ≤ n2 ∧ x = .int .i64 (i : Nat) ∧ (rkL bl old key ns i).1 = 0 ∧ wr.heap[g]? = some (.cells #[.slice (some ⟨gA, 0, none⟩) n2 cap, .string rt] 42 (0, 0)) ∧ wr.ownsRow B0 9 1 (.slice (some ⟨gA, 0, none⟩) n2 cap) n2 (textsV (rkL bl old key ns i).2) ∧ wr.heap[w.heap.size + 1]? = some (.cells #[.slice none 0 0, .string ⟨#[]⟩] 24 (0, 0)) ∧ Below w.heap.size w wr) (fun x _ => n2 - (intOf x).toNat)
  case atStart => exact ⟨0, by omega, rfl, rfl, HG.out, HO.out, HZ5.out, Hb5.out⟩
  case round =>
    clear HG HO HZ5 Hb5 HX5
    obtain ⟨i, hi, rfl, hrk, hg, hown, hz, hb⟩ := hrel
    have Hrk := Lib.hid hrk
    have HG := Lib.hid hg
    have HO := Lib.hid hown
    have HZr := Lib.hid hz
    have Hbr := Lib.hid hb
    clear hrk hg hown hz hb
    by_cases hlt : i < n2
    · have e1 : decide ((i : Int) < (n2 : Int)) = true := by simp; omega
      have hil : i < bl.length := by rw [← HN.out]; exact hlt
      have hil2 : i < ns.length := by rw [Hlen.out]; exact hil
      have hin : (i : Int) < (n2 : Int) := by omega
      obtain ⟨bA, oA, hbA, c1⟩ := texts_at (HRd.out.below Hbr.out) hil
      subst hbA
      obtain ⟨bN, oN, hbN, c0⟩ := texts_at HR2.out hil2
      have hbNlt := cell_lt c0
      obtain ⟨bN', oN', hbN', c2⟩ := texts_at (HR2.out.below Hbr.out) hil2
      rw [hbN] at hbN'
      injection hbN' with t1
      injection t1 with t1 t2
      subst t1 t2
      clear c0
      subst hbN
      have hbi : bl.getD i noT = bl[i] := by rw [List.getD_eq_getElem?_getD, List.getElem?_eq_getElem hil]; rfl
      have hni : ns.getD i noT = ns[i] := by rw [List.getD_eq_getElem?_getD, List.getElem?_eq_getElem hil2]; rfl
      have z92 := Hsz.out _ (List.getElem_mem hil)
      have zn := Hnz.out _ (List.getElem_mem hil2)
      have Hsame := Lib.hid (fun h => rk_same (old := old) (key := key) (ns := ns) Hrk.out hil h)
      have Hbad := Lib.hid (fun h => rk_bad (bl := bl) (old := old) (key := key) (ns := ns) (i := i) Hrk.out h hlt)
      have Hgood := Lib.hid (fun h => rk_good (bl := bl) (old := old) (key := key) (ns := ns) (i := i) Hrk.out h)
      have Hst : Hid (∀ b : ByteArray, b.size ≠ 0 → stepR old key ns i b = if showE old (i : Int) b ≠ 0 then (showE old (i : Int) b, noT) else (hideE key ns[i] (i : Int) (showS old (i : Int) b), hideS key ns[i] (i : Int) (showS old (i : Int) b))) := Lib.hid (fun b hb => by
        unfold stepR
        rw [if_neg hb, hni])
      have hrl := rk_len bl old key ns i
      have Hrl := Lib.hid (show n2 = (rkL bl old key ns i).2.length by rw [hrl]; exact HN.out)
      rw [hbi] at Hsame Hbad Hgood
      generalize bl[i] = b at c1 z92 Hsame Hbad Hgood
      generalize ns[i] = nn at c2 zn Hst
      clear hil hil2 hbi hni hrl
      by_cases hb0 : b.size = 0
      · have Hs := Lib.hid (Hsame.out hb0)
        obtain rfl : b = ⟨#[]⟩ := by
          apply ByteArray.ext
          exact Array.eq_empty_of_size_eq_zero hb0
        clear Hsame Hbad Hgood Hst hb0
        go_wp2_with fail
        go_roundw
        case rel => exact ⟨i + 1, by omega, by go_num, by rw [Hs.out], HG.out, by rw [Hs.out]; exact HO.out, HZr.out, Hbr.out⟩
        case measure => simp [intOf]; omega
      have d0 : b.toList.isEmpty = false := by
        rw [ByteArray.toList_eq]
        cases hl : b.data.toList with
        | nil => exact absurd (by rw [← len_data, hl]; rfl) hb0
        | cons a l => rfl
      have hst := Hst.out b hb0
      have zs : (showS old (i : Int) b).size ≤ maxLen := Nat.le_trans (showS_le _ _ _) (Nat.le_trans z92 (by decide))
      have HSh := Lib.hid (fun W h => show_any old (i : Int) b W h Hko.out (Nat.le_trans z92 (by decide)))
      have HHd := Lib.hid (fun W h => hide_any key nn (i : Int) (showS old (i : Int) b) W h Hk.out zn zs)
      generalize showE old (i : Int) b = se at hst HSh
      generalize showS old (i : Int) b = ss at hst HSh HHd
      clear Hst Hsame hb0 z92 zn zs
      by_cases hse : se = 0
      case neg =>
        rw [if_pos hse] at hst
        have he9 := Lib.hid (show re = se by rw [Hre.out, Hbad.out (by rw [hst]; exact hse), hst])
        have hv9 := Lib.hid (show rv = vol0 by rw [Hrv.out, if_neg (by rw [he9.out]; exact hse)])
        have d3 : ((se : Int) != 0) = true := by simp; omega
        clear hst hse Hbad Hgood HHd
        go_wp2_with fail
        refine (HSh.out _ (HT.out.below Hbr.out)).mono ?_
        rintro e w6 ⟨rfl, hb6⟩
        have HZ6 := Lib.hid (cells_below HZr.out hb6)
        have Hb6 := Lib.hid (Hbr.out.trans (hb6.mono Hbr.out.size))
        have b0 := rf_at HZ6.out 0 _ rfl
        have b1 := rf_at HZ6.out 1 _ rfl
        have f0 := rf_fr HZ6.out 0
        have f1 := rf_fr HZ6.out 1
        clear hb6 c1 c2
        go_wp2_with fail
        refine bodyPost_ret (res_cell_tmp rfl _ _ (w.heap.size + 1) (by rfl) _ (load_vol (vol_set HZ6.out _ _))) rfl ?_
        rw [he9.out, hv9.out]
        exact ⟨_, rfl, ⟨none, 0, 0, rfl, ⟨Rd.nil _ _, fun _ _ h => by cases h⟩, rfl⟩, (Hb6.out.setCell (p := ⟨w.heap.size + 1, 0, none⟩) (by dsimp only; omega) _).setCell (p := ⟨w.heap.size + 1, 1, none⟩) (by dsimp only; omega) _⟩
      subst hse
      rw [if_neg (by simp)] at hst
      generalize hideE key nn (i : Int) ss = he at hst HHd
      generalize hideS key nn (i : Int) ss = st at hst HHd
      have Hst := Lib.hid hst
      clear hst
      go_wp2_with fail
      refine (HSh.out _ (HT.out.below Hbr.out)).mono ?_
      rintro e w6 ⟨rfl, hb6⟩
      have BB := (Hbr.out.trans (hb6.mono Hbr.out.size)).drew
      have OO := own_keep (own_keep HO.out hb6) ((Below.refl w6.heap.size w6).drew)
      have G6 := cells_below HG.out hb6
      have GG := cells_below G6 ((Below.refl w6.heap.size w6).drew)
      have ZZ := cells_below (cells_below HZr.out hb6) ((Below.refl w6.heap.size w6).drew)
      have q6 : w6.drew.cell? ⟨g, 0, none⟩ = some (.slice (some ⟨gA, 0, none⟩) n2 cap) ∧ w6.drew.cell? ⟨bN, oN + i, none⟩ = some (.string nn) := ⟨rf_at GG 0 _ rfl, (hb6.cell (cell_lt c2)).trans c2⟩
      clear hb6 c1 c2 G6 HSh
      have hgn : gA ≠ bN := by omega
      go_wp2_with fail
      go_region_held3 (fun w' => w'.cell? ⟨g, 0, none⟩ = some (.slice (some ⟨gA, 0, none⟩) n2 cap) ∧ w'.cell? ⟨bN, oN + i, none⟩ = some (.string nn))
        (first | with_reducible assumption | with_reducible exact keep2_set q7 (vaddr_ne hne) (vaddr_ne hgn))
        (first
          | ((go_at_call 16; refine (HHd.out _ (HT.out.below BB)).mono ?_); rintro _ w7 ⟨rfl, hb7⟩; have q7 := keep2_below q6 hb7; obtain ⟨gA', eA, hA7, hl7, ⟨u7, hu7⟩, hf7, hset7⟩ := own_text_set (own_keep OO hb7) hlt Hrl.out; injection eA with eA; injection eA with eA; subst eA; have B7 := Below.chain BB hb7; have GG7 := cells_below GG hb7; have ZZ7 := cells_below ZZ hb7; clear hb7))
      have HG8 := Lib.hid ((Below.heap_setCell w7 ⟨gA, i, none⟩ (.string st) g (by dsimp only; omega)).trans GG7)
      have HZ8 := Lib.hid ((Below.heap_setCell w7 ⟨gA, i, none⟩ (.string st) (w.heap.size + 1) (by dsimp only; omega)).trans ZZ7)
      have HO8 := Lib.hid (hset7 st)
      have Hb8 := Lib.hid (B7.setCell (p := ⟨gA, i, none⟩) (by dsimp only; omega) (.string st))
      clear GG7 ZZ7 hset7 B7 q6 q7 BB OO GG ZZ hu7 hf7 hl7 hA7
      by_cases hh : he = 0
      · subst hh
        have Hs := Lib.hid (Hgood.out (by rw [Hst.out]))
        rw [Hst.out] at Hs
        clear Hbad Hgood HHd
        go_wp2_with fail
        go_roundw
        case rel => exact ⟨i + 1, by omega, by go_num, by rw [Hs.out], HG8.out, by rw [Hs.out]; exact HO8.out, HZ8.out, Hb8.out⟩
        case measure => simp [intOf]; omega
      · have he9 := Lib.hid (show re = he by rw [Hre.out, Hbad.out (by rw [Hst.out]; exact hh), Hst.out])
        have hv9 := Lib.hid (show rv = vol0 by rw [Hrv.out, if_neg (by rw [he9.out]; exact hh)])
        have d3 : ((he : Int) != 0) = true := by simp; omega
        have b0 := rf_at HZ8.out 0 _ rfl
        have b1 := rf_at HZ8.out 1 _ rfl
        have f0 := rf_fr HZ8.out 0
        have f1 := rf_fr HZ8.out 1
        clear hh Hbad Hgood HHd
        go_wp2_with fail
        refine bodyPost_ret (res_cell_tmp rfl _ _ (w.heap.size + 1) (by rfl) _ (load_vol (vol_set HZ8.out _ _))) rfl ?_
        rw [he9.out, hv9.out]
        exact ⟨_, rfl, ⟨none, 0, 0, rfl, ⟨Rd.nil _ _, fun _ _ h => by cases h⟩, rfl⟩, (Hb8.out.setCell (p := ⟨w.heap.size + 1, 0, none⟩) (by dsimp only; omega) _).setCell (p := ⟨w.heap.size + 1, 1, none⟩) (by dsimp only; omega) _⟩
    · obtain rfl : i = n2 := by omega
      have e1 : decide ((i : Int) < (i : Int)) = false := by simp
      have hlr := rk_len bl old key ns i
      have HRo := Lib.hid (rooted_any g (some ⟨gA, 0, none⟩) i cap (rkL bl old key ns i).2 rt (w.heap.size + 1 + 1) _ HG.out (own_rd HO.out) (by rw [hlr]; exact HN.out) (by rw [hlr]; exact Hmay.out) (fun x hx => by have := rk_size Hsz.out i Hrk.out x hx; omega) (HR.out.below Hbr.out) (by omega))
      have HRd7 := Lib.hid (own_rd HO.out)
      have he9 := Lib.hid (Hre.out.trans Hrk.out)
      have hv9 := Lib.hid (show rv = rooted (rkL bl old key ns i).2 by rw [Hrv.out, if_pos he9.out])
      go_wp2_with fail
      refine (HRo.out).mono ?_
      rintro e w7 ⟨rfl, hb7, hk7⟩
      have HZ7 := Lib.hid ((hb7.block (w.heap.size + 1) (by omega)).trans HZr.out)
      have Hb7 := Lib.hid (Hbr.out.trans (hb7.mono (by omega)))
      have Rd7 := Lib.hid (show Rd w7 (some ⟨gA, 0, none⟩) (textsV (rkL bl old key ns i).2) from rd_keep HRd7.out fun b o e hlt' => by
        injection e with e
        injection e with e1 e2
        subst e1
        exact hk7 _ hlt' hne)
      have b0 := rf_at HZ7.out 0 _ rfl
      have b1 := rf_at HZ7.out 1 _ rfl
      have f0 := rf_fr HZ7.out 0
      have f1 := rf_fr HZ7.out 1
      clear hb7 hk7
      go_wp2_with fail
      refine bodyPost_ret (res_cell_tmp rfl _ _ (w.heap.size + 1) (by rfl) _ (load_vol (vol_set HZ7.out _ _))) rfl ?_
      rw [he9.out, hv9.out]
      exact ⟨_, rfl, ⟨_, _, _, rfl, ⟨rd_set (rd_set Rd7.out (fun b o e => by injection e with e; injection e with e1 e2; omega) _) (fun b o e => by injection e with e; injection e with e1 e2; omega) _, (fun b o e => by injection e with e; injection e with e1 e2; omega)⟩, by show i = (rkL bl old key ns i).2.length; rw [hlr]; exact HN.out⟩, (Hb7.out.setCell (p := ⟨w.heap.size + 1, 0, none⟩) (by dsimp only; omega) _).setCell (p := ⟨w.heap.size + 1, 1, none⟩) (by dsimp only; omega) _⟩
end Go.Proofs.YtpngdfmifabmdaaDoor
