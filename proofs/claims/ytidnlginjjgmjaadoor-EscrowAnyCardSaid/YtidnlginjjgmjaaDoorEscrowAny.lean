/-
  The walk of the law EscrowAny.
-/
import Derived.Test.YtidnlginjjgmjaaDoorEscrowReads
namespace Go.Proofs.YtidnlginjjgmjaaDoor
open Go.RowKit
set_option linter.unusedVariables false
set_option maxRecDepth 100000
set_option maxHeartbeats 2000000

theorem readTo_app (l m : List Shr) : ∀ i, i ≤ l.length → readTo (l ++ m) i = readTo l i
  | 0, _ => rfl
  | i + 1, hi => by
    have h1 : (l ++ m).getD i (0, ⟨#[]⟩) = l.getD i (0, ⟨#[]⟩) := by simp [List.getD_eq_getElem?_getD, List.getElem?_append_left (show i < l.length by omega)]
    have h2 : (l ++ m).take i = l.take i := List.take_append_of_le_length (by omega)
    rw [readTo, readTo, h1, h2, readTo_app l m i (by omega)]
theorem readL_snoc (l : List Shr) (p : Shr) : readL (l ++ [p]) = if seenB l p.1 = true then readL l else readL l ++ [p] := by
  have h1 : (l ++ [p]).getD l.length (0, ⟨#[]⟩) = p := by simp
  have h2 : (l ++ [p]).take l.length = l := by simp
  rw [readL, List.length_append, List.length_cons, List.length_nil, Nat.zero_add, readTo, h1, h2, readTo_app l [p] _ (Nat.le_refl _), ← readL]
/-- The places that are asked for, those there are. -/
def validP (N : Nat) (o : Int) : Option Nat := if 0 ≤ o ∧ o < (N : Int) then some o.toNat else none
def vpos (N : Nat) (os : List Int) : List Nat := os.filterMap (validP N)
theorem vpos_snoc (N : Nat) (os : List Int) (k : Nat) (h : k < os.length) : vpos N (os.take (k + 1)) = vpos N (os.take k) ++ (validP N os[k]).toList := filterMap_snoc (validP N) os k h
theorem vpos_lt (N : Nat) (os : List Int) : ∀ q ∈ vpos N os, q < N := by
  intro q hq
  obtain ⟨o, _, h⟩ := List.mem_filterMap.1 hq
  unfold validP at h
  split at h
  · injection h with h
    omega
  · cases h
theorem seen_pick (s t : List UInt8) (m : Nat) (ps : List Nat) (q : Nat) : seenB (ps.map (pick s t m)) (pick s t m q).1 = decide (q ∈ ps) := by
  rw [seenB, List.any_map]
  by_cases h : q ∈ ps
  · rw [decide_eq_true h]
    exact List.any_eq_true.2 ⟨q, h, by simp⟩
  · rw [decide_eq_false h, List.any_eq_false]
    intro r hr hc
    have e : (pick s t m r).1 = (pick s t m q).1 := by simpa using hc
    simp only [pick] at e
    have : r = q := by omega
    exact h (this ▸ hr)
/-- Whatever places were asked for: recovered, or too few. -/
theorem recover_pick (s t : List UInt8) (N m : Nat) (vs : List Nat) (al : List ByteArray) (hg : getAll al = vs.map (pick s t m)) (hv : ∀ q ∈ vs, q < N) (hN : N ≤ 255) (hm : m + 1 ≤ N) (hs : s.length = 32) :
    recoverV al ((m + 1 : Nat) : Int) = if (readL (vs.map (pick s t m))).length < m + 1 then .tuple #[.string ⟨#[]⟩, .int .i64 240] else .tuple #[.string (bs s), .int .i64 0] := by
  obtain ⟨f1, f2, _⟩ := readL_facts (vs.map (pick s t m))
  rw [recoverV, if_neg (by omega), hg]
  generalize readL (vs.map (pick s t m)) = rs at f1 f2
  by_cases h : rs.length < m + 1
  · rw [if_pos (by omega), if_pos h]
  · rw [if_neg (by omega), if_neg h]
    have e1 : rs.take (((m + 1 : Nat) : Int)).toNat = ((rs.take (m + 1)).map fun p => p.1.toNat - 1).map (pick s t m) := by
      rw [Int.toNat_natCast, List.map_map]
      conv => lhs; rw [← List.map_id (rs.take (m + 1))]
      refine List.map_congr_left fun p hp => ?_
      obtain ⟨q, _, hq⟩ := List.mem_map.1 (f1 p (List.mem_of_mem_take hp))
      subst hq
      show pick s t m q = pick s t m ((((q + 1 : Nat) : Int)).toNat - 1)
      rw [Int.toNat_natCast]
      rfl
    have hin : ∀ p ∈ rs.take (m + 1), ∃ q, q < N ∧ p = pick s t m q := fun p hp => by
      obtain ⟨q, hq, e⟩ := List.mem_map.1 (f1 p (List.mem_of_mem_take hp))
      exact ⟨q, hv q hq, e.symm⟩
    have hlen : ((rs.take (m + 1)).map fun p => p.1.toNat - 1).length = m + 1 := by
      rw [List.length_map, List.length_take]
      omega
    have f3 : ((rs.take (m + 1)).map Prod.fst).Nodup := by
      rw [List.map_take]
      exact f2.sublist (List.take_sublist _ _)
    have g1 : ∀ i ∈ (rs.take (m + 1)).map (fun p => p.1.toNat - 1), i < N := fun i hi => by
      obtain ⟨p, hp, rfl⟩ := List.mem_map.1 hi
      obtain ⟨q, hq, rfl⟩ := hin p hp
      show (((q + 1 : Nat) : Int)).toNat - 1 < N
      rw [Int.toNat_natCast]
      omega
    have g2 : ((rs.take (m + 1)).map (fun p => p.1.toNat - 1)).Nodup := by
      refine List.pairwise_map.2 (List.Pairwise.imp_of_mem (fun {a b} ha hb hne e => hne ?_) (List.pairwise_map.1 f3))
      obtain ⟨q, _, rfl⟩ := hin a ha
      obtain ⟨r, _, rfl⟩ := hin b hb
      have e' : (((q + 1 : Nat) : Int)).toNat - 1 = (((r + 1 : Nat) : Int)).toNat - 1 := e
      rw [Int.toNat_natCast, Int.toNat_natCast] at e'
      show ((q + 1 : Nat) : Int) = ((r + 1 : Nat) : Int)
      omega
    rw [e1, at_split s t N m _ hN g1 g2 hlen hs]
theorem bool_info : (Tryd.prog.info? 4).map (fun i => (i.zero, i.size, i.bytes)) = some (some (.bool false), 1, 1) := by kernel_rfl
theorem there_row {w : World} {g n : Nat} {t : TypeId} {vs : List Nat} {q : Nat} (h : w.rowIs g t n (fun x => .bool (decide (x ∈ vs)))) : (w.setCell ⟨g, q, none⟩ (.bool true)).rowIs g t n (fun x => .bool (decide (x ∈ vs ++ [q]))) := by
  refine (h.set q (.bool true)).congr fun j hj => ?_
  by_cases e : j = q
  · subst e
    simp
  · rw [if_neg e]
    simp [e]
theorem row_below {w w' : World} {g n B : Nat} {t : TypeId} {f : Nat → Value} (h : w.rowIs g t n f) (hb : Below B w w') (hg : g < B) : w'.rowIs g t n f := h.of_block (hb.block g hg)

theorem escrowAny_yes (a0 a3 : ByteArray) (N m : Nat) (A : Option Addr) (len cap : Nat) (os : List Int) (hn : len = os.length) (A2 : Option Addr) (len2 cap2 : Nat) (zs : List ByteArray) (hn2 : len2 = zs.length) (w : World) (hT : ArmTabs w) (hr : Rd w A (ints os)) (hr2 : Rd w A2 (textsV zs))
    (h0 : a0.size = 32) (h3 : a3.size = 32 * m) (hN : N ≤ 20) (hm : m + 1 ≤ N) (h600 : a3.size ≤ 600) (h40 : os.length ≤ 40) (hfar : farB zs = false) :
    Calls Tryd.prog 3 #[.string a0, .int .i64 (N : Int), .int .i64 ((m + 1 : Nat) : Int), .string a3, .slice A len cap, .slice A2 len2 cap2] w fun e w' => e = .returned (.bool true) ∧ Below w.heap.size w w' := by
  have hf2 : zs.length ≤ 30 ∧ ∀ s ∈ zs, s.size ≤ 300 := by
    have := hfar
    simp [farB] at this
    exact this
  have HT := Lib.hid hT
  have HR := Lib.hid hr
  have HR2 := Lib.hid hr2
  have HN := Lib.hid hn
  have HN2 := Lib.hid hn2
  have HF := Lib.hid hfar
  have H0 := Lib.hid h0
  have H3 := Lib.hid h3
  have HZ := Lib.hid hf2.2
  have hl2 : len2 ≤ 30 := by omega
  have hl1 : len ≤ 40 := by omega
  have Hfl := Lib.hid (show zs.length ≤ 9223372036854775807 by omega)
  obtain ⟨k, hk⟩ : ∃ k, k = m + 1 := ⟨_, rfl⟩
  rw [← hk]
  have Hk := Lib.hid hk
  have hk20 : k ≤ 20 := by omega
  have d1 : decide ((100 : Int) < (a0.size : Int)) = false := by simp; omega
  have d2 : decide ((600 : Int) < (a3.size : Int)) = false := by simp; omega
  have d3 : decide ((20 : Int) < (N : Int)) = false := by simp; omega
  have d4 : decide ((40 : Int) < (len : Int)) = false := by simp; omega
  have HE := Lib.hid (exportL_eq a0.data.toList a3.data.toList N m (by omega))
  have HEl := Lib.hid (exportL_len a0.data.toList a3.data.toList N m (by omega))
  have hmk := fun W => run_make_row' (P := Tryd.prog) 29 4 (.bool false) 1 Tryd.underlying29 bool_info rfl .i64 .i64 N (by omega) (by omega) W
  clear hT hr hr2 hn hn2 hfar h0 h3 hf2 hk
  go_enter Tryd.func3, Tryd.ntmps3
  go_wp2_with fail
  refine (efar_any zs A2 len2 cap2 _ HR2.out HN2.out Hfl.out).mono ?_
  rintro e w0 ⟨rfl, rfl⟩
  rw [HF.out]
  go_wp2_with fail
  refine Calls.mono (Hk.out ▸ export_yes a0 a3 N m w0 HT.out.rounds H0.out H3.out (by omega) hm) ?_
  rintro e w1 ⟨B, capE, rfl, ho1, hb1⟩
  rw [HEl.out] at ho1 ⊢
  rw [HE.out] at ho1
  have HO1 := Lib.hid ho1
  have HB1 := Lib.hid hb1
  clear ho1 hb1 HE HEl d1 d2 d3 d4
  go_wp2_with fail
  obtain ⟨w2, hw2⟩ : ∃ w2, w2 = w1.alloc (.cells (madeCells #[.bool false] N) 4) := ⟨_, rfl⟩
  have h12 : Below w1.heap.size w1 w2 := by rw [hw2]; exact (Below.refl _ _).alloc (Nat.le_refl _) _
  obtain ⟨G, hG⟩ : ∃ G, G = w1.heap.size := ⟨_, rfl⟩
  have HG0 : Hid (w2.rowIs G 4 N (fun x => .bool (decide (x ∈ vpos N (os.take 0))))) := Lib.hid (by
    rw [hw2, hG]
    exact (World.rowIs_made w1 (.bool false) N 4).congr fun j _ => by simp [vpos])
  have hG2 : G < w2.heap.size := by rw [hw2, hG]; simp
  have HB2 := Lib.hid (Below.chain HB1.out h12)
  have HRl := Lib.hid ((own_rd HO1.out).below h12)
  have HBG : Hid (∀ b off, B = some ⟨b, off, none⟩ → b ≠ G) := Lib.hid fun b off e => by
    rcases HO1.out.2 with ⟨e1, _⟩ | ⟨g1, _, _, e1, _, h3, _⟩
    · injection e1 with e1
      rw [e1] at e
      cases e
    · injection e1 with e1
      rw [e1] at e
      injection e with e
      injection e with e
      have := cell_lt_of h3
      omega
  have HAG : Hid (∀ b off, A = some ⟨b, off, none⟩ → 0 < len → b ≠ G) := Lib.hid fun b off e hl => by
    obtain ⟨b', off', e', hc⟩ := HR.out.int_at (i := 0) (by rw [← HN.out]; exact hl)
    rw [e] at e'
    injection e' with e'
    injection e' with e'
    have h1 := cell_lt hc
    have h2 := HB1.out.size
    simp only at h1
    omega
  have hGw : w0.heap.size ≤ G := by rw [hG]; exact HB1.out.size
  rw [← hG]
  have HW2 := Lib.hid hw2
  have Hval := Lib.hid (fun vs al hg hv => recover_pick a0.data.toList a3.data.toList N m vs al hg hv (by omega) hm (by rw [len_data]; exact H0.out))
  have Hget : Hid (∀ q, q < N → getOne (expT a0.data.toList a3.data.toList m q) = some (pick a0.data.toList a3.data.toList m q)) := Lib.hid fun q hq => get_pick _ _ _ q (by omega)
  have Hsee := Lib.hid (fun ps q => seen_pick a0.data.toList a3.data.toList m ps q)
  have Hsz := Lib.hid (fun i => expT_size a0.data.toList a3.data.toList m i)
  obtain ⟨pk, hpk⟩ : ∃ pk, pk = pick a0.data.toList a3.data.toList m := ⟨_, rfl⟩
  obtain ⟨f, hf⟩ : ∃ f, f = expT a0.data.toList a3.data.toList m := ⟨_, rfl⟩
  rw [← hpk] at Hval Hget Hsee
  rw [← hf] at Hget Hsz HRl
  clear hw2 h12 hG HO1 hmk hpk hf
  go_loopw [16, 17, 18] (fun mv v x wr => ∃ (i capA : Nat) (Ba : Option Addr) (al : List ByteArray), i ≤ len ∧ x = .int .i64 (i : Nat) ∧ mv = .int .i64 ((readL ((vpos N (os.take i)).map pk)).length : Nat) ∧ v = .slice Ba al.length capA ∧ wr.ownsRow w2.heap.size 9 1 v al.length (textsV al) ∧ al.length ≤ 2 * i ∧ (∀ s ∈ al, s.size ≤ 1000000) ∧ getAll al = (vpos N (os.take i)).map pk ∧ wr.rowIs G 4 N (fun x => .bool (decide (x ∈ vpos N (os.take i)))) ∧ w2.grownBy wr (some G)) (fun _ _ x _ => len - (intOf x).toNat)
  case atStart => exact ⟨0, 0, none, [], by omega, rfl, rfl, rfl, ⟨rfl, .inl ⟨rfl, rfl⟩⟩, by simp, by simp, rfl, HW2.out ▸ HG0.out, HW2.out ▸ World.grownBy.refl _ _⟩
  case round =>
    clear HG0
    obtain ⟨i, capA, Ba, al, hi, rfl, rfl, rfl, ho, hal, has, hga, hth, hgr⟩ := hrel
    have HO := Lib.hid ho
    have Has := Lib.hid has
    have Hga := Lib.hid hga
    have HTh := Lib.hid hth
    have HGr := Lib.hid hgr
    clear ho has hga hth hgr
    by_cases hlt : i < len
    · have hil : i < os.length := by rw [← HN.out]; exact hlt
      by_cases hi2 : i < len2
      · have hi2' : i < zs.length := by rw [← HN2.out]; exact hi2
        have g1 : decide (i < len2) = true := by simp; omega
        have gI : (i : Int) < (len2 : Int) := by omega
        have hiL0 : (i : Int) < (len : Int) := by omega
        have HWr := Lib.hid (HB2.out.trans (grownBy_below' HGr.out hGw HB2.out.size))
        obtain ⟨bz, offz, hAz, cz⟩ := (HR2.out.below HWr.out) i (.string zs[i]) (by simp [textsV, hi2'])
        subst hAz
        have Hzs := Lib.hid (HZ.out zs[i] (List.getElem_mem hi2'))
        generalize zs[i] = sz at cz Hzs
        have Cz := Lib.hid cz
        go_wp2_with fail
        refine (getShare_any sz _ (HT.out.below HWr.out) (by have := Hzs.out; omega)).mono ?_
        rintro e w3 ⟨rfl, hb3⟩
        cases hres : getShareRes sz.data.toList with
        | some qq =>
          obtain ⟨qx, qb⟩ := qq
          simp only [shareOr, shareV]
          have HW3 := Lib.hid (Below.chain HWr.out hb3)
          clear hres hb3
          go_wp2_with fail
          refine (papers_any _ (HT.out.below (HW3.out.alloc HW3.out.size _))).mono ?_
          rintro e w5 ⟨rfl, hb5⟩
          have hb := Below.chain_alloc HW3.out hb5
          go_wp2_with fail
          try rw [Exit.noGoto_ret]
          go_ret
          exact ⟨rfl, hb⟩
        | none =>
          have Hno := Lib.hid (show getOne sz = none by rw [getOne, hres]; rfl)
          simp only [shareOr, shareV]
          obtain ⟨wS, hwS⟩ : ∃ wS, wS = w3.alloc (.cells #[.int .i64 0, .string (bs [])] 31) := ⟨_, rfl⟩
          have hbS : Below wr.heap.size wr wS := by rw [hwS]; exact hb3.alloc hb3.size _
          have czS : wS.cell? ⟨bz, offz + i, none⟩ = some (.string sz) := (hbS.cell (cell_lt Cz.out)).trans Cz.out
          have HOS := Lib.hid (own_keep HO.out hbS)
          have HThS := Lib.hid (row_below HTh.out hbS HTh.out.lt)
          have HGS := Lib.hid (gb_next' HGr.out hbS)
          have hWS := HGS.out.size
          have hal1 : al.length ≤ 100 := by omega
          rw [hwS] at czS HOS
          clear hres hb3 cz hbS
          go_wp2_with (at_builtin; refine wpList_append_new (by rfl) (.tmp 88) (.tmp 93) 23 (by rfl) w2.heap.size 9 (.string ⟨#[]⟩) 1 16 Tryd.underlying23 string_info rfl (by omega) (w3.alloc (.cells #[.int .i64 0, .string (bs [])] 31)) _ _ _ _ _ (by rfl) HOS.out _ 1 1 (by rfl) (by simp) (by rfl) (by rfl) (by omega) (by omega) (by omega) (by rw [← hwS]; exact hWS) ?_)
          intro g6 cap6 w6 ho6 hb6 _ _ _
          rw [← hwS] at hb6
          have HOx := Lib.hid (show w6.ownsRow w2.heap.size 9 1 (.slice (some ⟨g6, 0, none⟩) (al ++ [sz]).length cap6) (al ++ [sz]).length (textsV (al ++ [sz])) by
            rw [textsV_append]
            simp only [List.length_append, List.length_cons, List.length_nil]
            exact ho6)
          have Hax := Lib.hid (show ∀ s ∈ al ++ [sz], s.size ≤ 1000000 from fun s hs => by
            rcases List.mem_append.1 hs with hs | hs
            · exact Has.out s hs
            · simp at hs; rw [hs]; have := Hzs.out; omega)
          have Hgx := Lib.hid (show getAll (al ++ [sz]) = (vpos N (os.take i)).map pk by
            rw [getAll, List.filterMap_append, ← getAll, Hga.out]
            simp [Hno.out])
          have HThx := Lib.hid (row_below HThS.out hb6 hG2)
          have HGx := Lib.hid (gb_weak HGS.out (fun k _ hk => hb6.block k hk) hb6 (Nat.le_refl _))
          have halx : (al ++ [sz]).length ≤ 2 * i + 1 := by simp; omega
          rw [show al.length + 1 = (al ++ [sz]).length by simp]
          clear ho6 hb6 HOS HThS HGS HO HTh HGr Has Hga hwS czS
          generalize al ++ [sz] = alx at HOx Hax Hgx halx ⊢
          obtain ⟨b, off, hA, hc⟩ := (gb_rd' HGx.out (HR.out.below HB2.out) (fun b off e => HAG.out b off e (by omega))).int_at (i := i) hil
          subst hA
          have hos : os.getD i 0 = os[i] := by simp [hil]
          rw [hos] at hc
          have Hvs := Lib.hid (vpos_snoc N os i hil)
          generalize os[i] = o at hc Hvs
          have hiL : (i : Int) < (len : Int) := by omega
          clear hos
          by_cases ho0 : o < 0
          · have e1 : decide (o < 0) = true := by simp; omega
            have Hv2 := Lib.hid (show vpos N (os.take (i + 1)) = vpos N (os.take i) by rw [Hvs.out, validP, if_neg (by omega)]; simp)
            go_wp2_with fail
            go_roundw
            case rel => exact ⟨i + 1, cap6, some ⟨g6, 0, none⟩, alx, by omega, by go_num, by rw [Hv2.out], rfl, HOx.out, by omega, Hax.out, by rw [Hv2.out]; exact Hgx.out, by rw [Hv2.out]; exact HThx.out, HGx.out⟩
            case measure => simp [intOf]; omega
          have e1 : decide (o < 0) = false := by simp; omega
          by_cases hoN : (N : Int) ≤ o
          · have e2 : decide ((N : Int) ≤ o) = true := by simp; omega
            have Hv2 := Lib.hid (show vpos N (os.take (i + 1)) = vpos N (os.take i) by rw [Hvs.out, validP, if_neg (by omega)]; simp)
            go_wp2_with fail
            go_roundw
            case rel => exact ⟨i + 1, cap6, some ⟨g6, 0, none⟩, alx, by omega, by go_num, by rw [Hv2.out], rfl, HOx.out, by omega, Hax.out, by rw [Hv2.out]; exact Hgx.out, by rw [Hv2.out]; exact HThx.out, HGx.out⟩
            case measure => simp [intOf]; omega
          obtain ⟨q, rfl⟩ : ∃ q : Nat, o = (q : Int) := ⟨o.toNat, by omega⟩
          have hqN : q < N := by omega
          have e2 : decide ((N : Int) ≤ (q : Int)) = false := by simp; omega
          have e3 : decide (N ≤ q) = false := by simp; omega
          have hqI : (q : Int) < (N : Int) := by omega
          have Hv2 := Lib.hid (show vpos N (os.take (i + 1)) = vpos N (os.take i) ++ [q] by rw [Hvs.out, validP, if_pos (by omega)]; simp)
          have hvl : (readL ((vpos N (os.take i)).map pk)).length ≤ i := by
            have h1 := readTo_len ((vpos N (os.take i)).map pk) ((vpos N (os.take i)).map pk).length
            have h2 := List.length_filterMap_le (validP N) (os.take i)
            unfold readL
            simp only [List.length_map, List.length_take] at h1 h2 ⊢
            unfold vpos at *
            omega
          have Hrl := Lib.hid (readL_snoc ((vpos N (os.take i)).map pk) (pk q))
          rw [Hsee.out] at Hrl
          have Hgq := Lib.hid (Hget.out q hqN)
          have cth := HThx.out.cell (i := q) hqN
          have fth := HThx.out.frozen q
          obtain ⟨bl, offl, hBl, cl⟩ := (gb_rd' HGx.out HRl.out HBG.out) q (.string (f q)) (by simp [textsV, hqN])
          subst hBl
          have hblG : bl ≠ G := HBG.out bl offl rfl
          have clG : (w6.setCell ⟨G, q, none⟩ (.bool true)).cell? ⟨bl, offl + q, none⟩ = some (.string (f q)) := keep1_set cl hblG
          have hbG : b ≠ G := HAG.out b off rfl (by omega)
          have ccG : (w6.setCell ⟨G, q, none⟩ (.bool true)).cell? ⟨b, off + i, none⟩ = some (.int .i64 (q : Int)) := keep1_set hc hbG
          have HTh2 := Lib.hid (there_row (q := q) HThx.out)
          rw [← Hv2.out] at HTh2
          have HO2 := Lib.hid (own_set_other HOx.out ⟨G, q, none⟩ (.bool true) hG2)
          have HG2 := Lib.hid (gb_cell HGx.out G q (.bool true))
          have Hfz := Lib.hid (Hsz.out q)
          generalize f q = fq at cl clG Hgq Hfz
          have hal2 : (alx).length ≤ 200 := by omega
          have hWs := HGx.out.size
          by_cases hin : q ∈ vpos N (os.take i)
          · rw [decide_eq_true hin] at cth Hrl
            rw [if_pos rfl] at Hrl
            clear hin
            go_wp2_with (at_builtin; refine wpList_append_new (by rfl) (.tmp 125) (.tmp 133) 23 (by rfl) w2.heap.size 9 (.string ⟨#[]⟩) 1 16 Tryd.underlying23 string_info rfl (by omega) (w6.setCell ⟨G, q, none⟩ (.bool true)) _ _ _ _ _ (by rfl) HO2.out _ 1 1 (by rfl) (by simp) (by rfl) (by rfl) (by omega) (by omega) (by omega) (by simpa using hWs) ?_)
            intro g8 cap8 w8 ho8 hb8 _ _ _
            have HO8 := Lib.hid ho8
            have HTh8 := Lib.hid (row_below HTh2.out hb8 hG2)
            have HG8 := Lib.hid (gb_weak HG2.out (fun k _ hk => hb8.block k hk) hb8 (Nat.le_refl _))
            clear ho8 hb8
            go_wp2_with fail
            go_roundw
            case rel =>
              refine ⟨i + 1, cap8, some ⟨g8, 0, none⟩, alx ++ [fq], by omega, by go_num, ?_, by simp, ?_, by simp; omega, ?_, ?_, HTh8.out, HG8.out⟩
              · rw [Hv2.out, List.map_append, List.map_cons, List.map_nil, Hrl.out]
              · rw [textsV_append]
                simp only [List.length_append, List.length_cons, List.length_nil]
                exact HO8.out
              · intro s hs
                rcases List.mem_append.1 hs with hs | hs
                · exact Hax.out s hs
                · simp at hs; rw [hs]; exact Hfz.out
              · rw [getAll, List.filterMap_append, ← getAll, Hgx.out, Hv2.out, List.map_append]
                simp [Hgq.out]
            case measure => simp [intOf]; omega
          · rw [decide_eq_false hin] at cth Hrl
            rw [if_neg (by decide)] at Hrl
            clear hin
            go_wp2_with (at_builtin; refine wpList_append_new (by rfl) (.tmp 125) (.tmp 133) 23 (by rfl) w2.heap.size 9 (.string ⟨#[]⟩) 1 16 Tryd.underlying23 string_info rfl (by omega) (w6.setCell ⟨G, q, none⟩ (.bool true)) _ _ _ _ _ (by rfl) HO2.out _ 1 1 (by rfl) (by simp) (by rfl) (by rfl) (by omega) (by omega) (by omega) (by simpa using hWs) ?_)
            intro g8 cap8 w8 ho8 hb8 _ _ _
            have HO8 := Lib.hid ho8
            have HTh8 := Lib.hid (row_below HTh2.out hb8 hG2)
            have HG8 := Lib.hid (gb_weak HG2.out (fun k _ hk => hb8.block k hk) hb8 (Nat.le_refl _))
            clear ho8 hb8
            go_wp2_with fail
            go_roundw
            case rel =>
              refine ⟨i + 1, cap8, some ⟨g8, 0, none⟩, alx ++ [fq], by omega, by go_num, ?_, by simp, ?_, by simp; omega, ?_, ?_, HTh8.out, HG8.out⟩
              · rw [Hv2.out, List.map_append, List.map_cons, List.map_nil, Hrl.out, List.length_append]
                simp
              · rw [textsV_append]
                simp only [List.length_append, List.length_cons, List.length_nil]
                exact HO8.out
              · intro s hs
                rcases List.mem_append.1 hs with hs | hs
                · exact Hax.out s hs
                · simp at hs; rw [hs]; exact Hfz.out
              · rw [getAll, List.filterMap_append, ← getAll, Hgx.out, Hv2.out, List.map_append]
                simp [Hgq.out]
            case measure => simp [intOf]; omega
      · have g1 : decide (i < len2) = false := by simp; omega
        have HOx := HO
        have Hax := Has
        have Hgx := Hga
        have HThx := HTh
        have HGx := HGr
        have halx : al.length ≤ 2 * i + 1 := by omega
        obtain ⟨b, off, hA, hc⟩ := (gb_rd' HGx.out (HR.out.below HB2.out) (fun b off e => HAG.out b off e (by omega))).int_at (i := i) hil
        subst hA
        have hos : os.getD i 0 = os[i] := by simp [hil]
        rw [hos] at hc
        have Hvs := Lib.hid (vpos_snoc N os i hil)
        generalize os[i] = o at hc Hvs
        have hiL : (i : Int) < (len : Int) := by omega
        clear hos
        by_cases ho0 : o < 0
        · have e1 : decide (o < 0) = true := by simp; omega
          have Hv2 := Lib.hid (show vpos N (os.take (i + 1)) = vpos N (os.take i) by rw [Hvs.out, validP, if_neg (by omega)]; simp)
          go_wp2_with fail
          go_roundw
          case rel => exact ⟨i + 1, capA, Ba, al, by omega, by go_num, by rw [Hv2.out], rfl, HOx.out, by omega, Hax.out, by rw [Hv2.out]; exact Hgx.out, by rw [Hv2.out]; exact HThx.out, HGx.out⟩
          case measure => simp [intOf]; omega
        have e1 : decide (o < 0) = false := by simp; omega
        by_cases hoN : (N : Int) ≤ o
        · have e2 : decide ((N : Int) ≤ o) = true := by simp; omega
          have Hv2 := Lib.hid (show vpos N (os.take (i + 1)) = vpos N (os.take i) by rw [Hvs.out, validP, if_neg (by omega)]; simp)
          go_wp2_with fail
          go_roundw
          case rel => exact ⟨i + 1, capA, Ba, al, by omega, by go_num, by rw [Hv2.out], rfl, HOx.out, by omega, Hax.out, by rw [Hv2.out]; exact Hgx.out, by rw [Hv2.out]; exact HThx.out, HGx.out⟩
          case measure => simp [intOf]; omega
        obtain ⟨q, rfl⟩ : ∃ q : Nat, o = (q : Int) := ⟨o.toNat, by omega⟩
        have hqN : q < N := by omega
        have e2 : decide ((N : Int) ≤ (q : Int)) = false := by simp; omega
        have e3 : decide (N ≤ q) = false := by simp; omega
        have hqI : (q : Int) < (N : Int) := by omega
        have Hv2 := Lib.hid (show vpos N (os.take (i + 1)) = vpos N (os.take i) ++ [q] by rw [Hvs.out, validP, if_pos (by omega)]; simp)
        have hvl : (readL ((vpos N (os.take i)).map pk)).length ≤ i := by
          have h1 := readTo_len ((vpos N (os.take i)).map pk) ((vpos N (os.take i)).map pk).length
          have h2 := List.length_filterMap_le (validP N) (os.take i)
          unfold readL
          simp only [List.length_map, List.length_take] at h1 h2 ⊢
          unfold vpos at *
          omega
        have Hrl := Lib.hid (readL_snoc ((vpos N (os.take i)).map pk) (pk q))
        rw [Hsee.out] at Hrl
        have Hgq := Lib.hid (Hget.out q hqN)
        have cth := HThx.out.cell (i := q) hqN
        have fth := HThx.out.frozen q
        obtain ⟨bl, offl, hBl, cl⟩ := (gb_rd' HGx.out HRl.out HBG.out) q (.string (f q)) (by simp [textsV, hqN])
        subst hBl
        have hblG : bl ≠ G := HBG.out bl offl rfl
        have clG : (wr.setCell ⟨G, q, none⟩ (.bool true)).cell? ⟨bl, offl + q, none⟩ = some (.string (f q)) := keep1_set cl hblG
        have hbG : b ≠ G := HAG.out b off rfl (by omega)
        have ccG : (wr.setCell ⟨G, q, none⟩ (.bool true)).cell? ⟨b, off + i, none⟩ = some (.int .i64 (q : Int)) := keep1_set hc hbG
        have HTh2 := Lib.hid (there_row (q := q) HThx.out)
        rw [← Hv2.out] at HTh2
        have HO2 := Lib.hid (own_set_other HOx.out ⟨G, q, none⟩ (.bool true) hG2)
        have HG2 := Lib.hid (gb_cell HGx.out G q (.bool true))
        have Hfz := Lib.hid (Hsz.out q)
        generalize f q = fq at cl clG Hgq Hfz
        have hal2 : (al).length ≤ 200 := by omega
        have hWs := HGx.out.size
        by_cases hin : q ∈ vpos N (os.take i)
        · rw [decide_eq_true hin] at cth Hrl
          rw [if_pos rfl] at Hrl
          clear hin
          go_wp2_with (at_builtin; refine wpList_append_new (by rfl) (.tmp 125) (.tmp 133) 23 (by rfl) w2.heap.size 9 (.string ⟨#[]⟩) 1 16 Tryd.underlying23 string_info rfl (by omega) (wr.setCell ⟨G, q, none⟩ (.bool true)) _ _ _ _ _ (by rfl) HO2.out _ 1 1 (by rfl) (by simp) (by rfl) (by rfl) (by omega) (by omega) (by omega) (by simpa using hWs) ?_)
          intro g8 cap8 w8 ho8 hb8 _ _ _
          have HO8 := Lib.hid ho8
          have HTh8 := Lib.hid (row_below HTh2.out hb8 hG2)
          have HG8 := Lib.hid (gb_weak HG2.out (fun k _ hk => hb8.block k hk) hb8 (Nat.le_refl _))
          clear ho8 hb8
          go_wp2_with fail
          go_roundw
          case rel =>
            refine ⟨i + 1, cap8, some ⟨g8, 0, none⟩, al ++ [fq], by omega, by go_num, ?_, by simp, ?_, by simp; omega, ?_, ?_, HTh8.out, HG8.out⟩
            · rw [Hv2.out, List.map_append, List.map_cons, List.map_nil, Hrl.out]
            · rw [textsV_append]
              simp only [List.length_append, List.length_cons, List.length_nil]
              exact HO8.out
            · intro s hs
              rcases List.mem_append.1 hs with hs | hs
              · exact Hax.out s hs
              · simp at hs; rw [hs]; exact Hfz.out
            · rw [getAll, List.filterMap_append, ← getAll, Hgx.out, Hv2.out, List.map_append]
              simp [Hgq.out]
          case measure => simp [intOf]; omega
        · rw [decide_eq_false hin] at cth Hrl
          rw [if_neg (by decide)] at Hrl
          clear hin
          go_wp2_with (at_builtin; refine wpList_append_new (by rfl) (.tmp 125) (.tmp 133) 23 (by rfl) w2.heap.size 9 (.string ⟨#[]⟩) 1 16 Tryd.underlying23 string_info rfl (by omega) (wr.setCell ⟨G, q, none⟩ (.bool true)) _ _ _ _ _ (by rfl) HO2.out _ 1 1 (by rfl) (by simp) (by rfl) (by rfl) (by omega) (by omega) (by omega) (by simpa using hWs) ?_)
          intro g8 cap8 w8 ho8 hb8 _ _ _
          have HO8 := Lib.hid ho8
          have HTh8 := Lib.hid (row_below HTh2.out hb8 hG2)
          have HG8 := Lib.hid (gb_weak HG2.out (fun k _ hk => hb8.block k hk) hb8 (Nat.le_refl _))
          clear ho8 hb8
          go_wp2_with fail
          go_roundw
          case rel =>
            refine ⟨i + 1, cap8, some ⟨g8, 0, none⟩, al ++ [fq], by omega, by go_num, ?_, by simp, ?_, by simp; omega, ?_, ?_, HTh8.out, HG8.out⟩
            · rw [Hv2.out, List.map_append, List.map_cons, List.map_nil, Hrl.out, List.length_append]
              simp
            · rw [textsV_append]
              simp only [List.length_append, List.length_cons, List.length_nil]
              exact HO8.out
            · intro s hs
              rcases List.mem_append.1 hs with hs | hs
              · exact Hax.out s hs
              · simp at hs; rw [hs]; exact Hfz.out
            · rw [getAll, List.filterMap_append, ← getAll, Hgx.out, Hv2.out, List.map_append]
              simp [Hgq.out]
          case measure => simp [intOf]; omega
    · obtain rfl : i = len := by omega
      have hta : os.take i = os := List.take_of_length_le (by rw [HN.out]; exact Nat.le_refl _)
      rw [hta] at Hga HTh ⊢
      have HWr := Lib.hid (HB2.out.trans (grownBy_below' HGr.out hGw HB2.out.size))
      have Hrv := Lib.hid (Hval.out (vpos N os) al Hga.out (vpos_lt N os))
      rw [← Hk.out] at Hrv
      generalize (readL ((vpos N os).map pk)).length = M at Hrv ⊢
      have Hbs := Lib.hid (show bs a0.data.toList = a0 from rfl)
      rw [Hbs.out] at Hrv
      clear hta
      go_wp2_with fail
      refine (recover_any al (k : Int) Ba _ capA _ (own_rd HO.out) rfl (by omega) (HT.out.below HWr.out) Has.out).mono ?_
      rintro e w5 ⟨rfl, hb5⟩
      rw [Hrv.out]
      have HW5 := Lib.hid (Below.chain HWr.out hb5)
      by_cases hMk : M < k
      · rw [if_pos hMk]
        have g1 : decide (M < k) = true := by simp; omega
        go_wp2_with fail
        refine (papers_any _ (HT.out.below HW5.out)).mono ?_
        rintro e w6 ⟨rfl, hb6⟩
        have hb := Below.chain HW5.out hb6
        go_wp2_with fail
        go_ret
        exact ⟨by simp, hb⟩
      · rw [if_neg hMk]
        have g1 : decide (M < k) = false := by simp; omega
        go_wp2_with fail
        refine (papers_any _ (HT.out.below HW5.out)).mono ?_
        rintro e w6 ⟨rfl, hb6⟩
        have hb := Below.chain HW5.out hb6
        go_wp2_with fail
        go_ret
        exact ⟨by simp, hb⟩
-- END ROUND
theorem escrowAny_law (a0 : ByteArray) (w0 : a0.size ≤ maxLen) (a1 a2 : Int) (a3 : ByteArray) (w3 : a3.size ≤ maxLen) (A : Option Addr) (len cap : Nat) (os : List Int) (hn : len = os.length) (hl : os.length ≤ maxLen) (hwf : ∀ n ∈ os, (Lit.int .i64 n).wf = true) (A2 : Option Addr) (len2 cap2 : Nat) (zs : List ByteArray) (hn2 : len2 = zs.length) (hl2 : zs.length ≤ maxLen) (hsz : ∀ s ∈ zs, s.size ≤ maxLen) (w : World) (hT : ArmTabs w) (hr : Rd w A (ints os)) (hr2 : Rd w A2 (textsV zs)) :
    Calls Tryd.prog 3 #[.string a0, .int .i64 a1, .int .i64 a2, .string a3, .slice A len cap, .slice A2 len2 cap2] w fun e w' => e = .returned (.bool true) ∧ Below w.heap.size w w' := by
  have Hfl := Lib.hid (show zs.length ≤ 9223372036854775807 by unfold maxLen at hl2; omega)
  have HR2 := Lib.hid hr2
  have HN2 := Lib.hid hn2
  clear w0 w3 hwf hl hl2 hsz
  by_cases h100 : 100 < a0.size
  · have d1 : decide ((100 : Int) < (a0.size : Int)) = true := by simp; omega
    clear hT h100 hr hr2 hn hn2
    go_enter Tryd.func3, Tryd.ntmps3
    go_wp2_with fail
    go_ret
    exact ⟨rfl, Below.refl _ _⟩
  have d1 : decide ((100 : Int) < (a0.size : Int)) = false := by simp; omega
  by_cases h600 : 600 < a3.size
  · have d2 : decide ((600 : Int) < (a3.size : Int)) = true := by simp; omega
    clear hT h100 h600 hr hr2 hn hn2
    go_enter Tryd.func3, Tryd.ntmps3
    go_wp2_with fail
    go_ret
    exact ⟨rfl, Below.refl _ _⟩
  have d2 : decide ((600 : Int) < (a3.size : Int)) = false := by simp; omega
  by_cases h20 : 20 < a1 ∧ a1 ≤ 255
  · have d3 : decide (20 < a1) = true := by simp; omega
    have d4 : decide (a1 ≤ 255) = true := by simp; omega
    clear hT h100 h600 h20 hr hr2 hn hn2
    go_enter Tryd.func3, Tryd.ntmps3
    go_wp2_with fail
    go_ret
    exact ⟨rfl, Below.refl _ _⟩
  have e3 : (decide (20 < a1) = true ∧ decide (a1 ≤ 255) = false) ∨ decide (20 < a1) = false := by
    by_cases h : 20 < a1
    · left; simp; omega
    · right; simp; omega
  by_cases h40 : 40 < len
  · have d5 : decide ((40 : Int) < (len : Int)) = true := by simp; omega
    clear hT h100 h600 h20 hr hr2 hn hn2 h40
    rcases e3 with ⟨d3, d4⟩ | d3
    · go_enter Tryd.func3, Tryd.ntmps3
      go_wp2_with fail
      go_ret
      exact ⟨rfl, Below.refl _ _⟩
    · go_enter Tryd.func3, Tryd.ntmps3
      go_wp2_with fail
      go_ret
      exact ⟨rfl, Below.refl _ _⟩
  have d5 : decide ((40 : Int) < (len : Int)) = false := by simp; omega
  by_cases hfar : farB zs = true
  · have HF := Lib.hid hfar
    clear hT h100 h600 h20 hr hr2 hn hn2 h40 hfar
    rcases e3 with ⟨d3, d4⟩ | d3
    · go_enter Tryd.func3, Tryd.ntmps3
      go_wp2_with fail
      refine (efar_any zs A2 len2 cap2 _ HR2.out HN2.out Hfl.out).mono ?_
      rintro e w1 ⟨rfl, rfl⟩
      rw [HF.out]
      go_wp2_with fail
      go_ret
      exact ⟨rfl, Below.refl _ _⟩
    · go_enter Tryd.func3, Tryd.ntmps3
      go_wp2_with fail
      refine (efar_any zs A2 len2 cap2 _ HR2.out HN2.out Hfl.out).mono ?_
      rintro e w1 ⟨rfl, rfl⟩
      rw [HF.out]
      go_wp2_with fail
      go_ret
      exact ⟨rfl, Below.refl _ _⟩
  have hfar : farB zs = false := by simpa using hfar
  by_cases hs : splitOK a0 a3 a1 a2 = true
  · obtain ⟨N, m, rfl, rfl, q1, q2, q3, q4⟩ := split_is a0 a3 a1 a2 hs
    exact escrowAny_yes a0 a3 N m A len cap os hn A2 len2 cap2 zs hn2 w hT hr hr2 q1 q2 (by omega) q4 (by omega) (by omega) hfar
  · have Hs := Lib.hid (show splitOK a0 a3 a1 a2 = false by simpa using hs)
    have HT := Lib.hid hT
    have HF := Lib.hid hfar
    clear hs hT h100 h600 h20 hr hr2 hn hn2 h40 hfar
    rcases e3 with ⟨d3, d4⟩ | d3
    · go_enter Tryd.func3, Tryd.ntmps3
      go_wp2_with fail
      refine (efar_any zs A2 len2 cap2 _ HR2.out HN2.out Hfl.out).mono ?_
      rintro e w0 ⟨rfl, rfl⟩
      rw [HF.out]
      go_wp2_with fail
      refine (export_no a0 a3 a1 a2 _ Hs.out).mono ?_
      rintro e w1 ⟨rfl, hb1⟩
      go_wp2_with fail
      refine (papers_any _ (HT.out.below hb1)).mono ?_
      rintro e w2 ⟨rfl, hb2⟩
      have hb := Below.chain hb1 hb2
      go_wp2_with fail
      go_ret
      exact ⟨by simp, hb⟩
    · go_enter Tryd.func3, Tryd.ntmps3
      go_wp2_with fail
      refine (efar_any zs A2 len2 cap2 _ HR2.out HN2.out Hfl.out).mono ?_
      rintro e w0 ⟨rfl, rfl⟩
      rw [HF.out]
      go_wp2_with fail
      refine (export_no a0 a3 a1 a2 _ Hs.out).mono ?_
      rintro e w1 ⟨rfl, hb1⟩
      go_wp2_with fail
      refine (papers_any _ (HT.out.below hb1)).mono ?_
      rintro e w2 ⟨rfl, hb2⟩
      have hb := Below.chain hb1 hb2
      go_wp2_with fail
      go_ret
      exact ⟨by simp, hb⟩
end Go.Proofs.YtidnlginjjgmjaaDoor
