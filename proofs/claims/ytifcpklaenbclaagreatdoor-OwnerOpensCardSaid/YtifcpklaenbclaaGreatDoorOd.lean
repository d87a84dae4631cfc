/-
  Contracts of the law's deal and answer.
-/
import Derived.Test.YtifcpklaenbclaaGreatDoorOt
import Derived.Test.YtifcpklaenbclaaGreatDoorRo2
import Derived.Deep.Cut
import Derived.Deep.CutRange
import Derived.StillTailTactics
namespace Go.Proofs.YtifcpklaenbclaaGreatDoor
open Go.RowKit
set_option linter.unusedVariables false
set_option linter.unusedSimpArgs false
set_option maxRecDepth 100000
set_option maxHeartbeats 2000000

/-- A deal, as a value. -/
def DV (w : World) (v : Value) (D : Deal) : Prop := ∃ A n c B m d C p q E s t, v = .agg #[.int .i64 D.r.e, .int .i64 D.r.k, .slice A n c, .slice B m d, .string D.sec, .slice C p q, .slice E s t] ∧ Rd w A (textsV D.r.ns) ∧ n = D.r.ns.length ∧ Rd w B (textsV D.r.ps) ∧ m = D.r.ps.length ∧ Rd w C (sharesV D.sh) ∧ p = D.sh.length ∧ Rd w E (textsV D.sa) ∧ s = D.sa.length
theorem DV.below {w w' : World} {v : Value} {D : Deal} (h : DV w v D) (hb : Below w.heap.size w w') : DV w' v D := by
  obtain ⟨A, n, c, B, m, d, C, p, q, E, s, t, rfl, h1, h2, h3, h4, h5, h6, h7, h8⟩ := h
  exact ⟨A, n, c, B, m, d, C, p, q, E, s, t, rfl, h1.below hb, h2, h3.below hb, h4, h5.below hb, h6, h7.below hb, h8⟩
def DealR (w : World) (D : Deal) (b : Bool) (e : Ending) (w' : World) : Prop := ∃ v, e = .returned (.tuple #[v, .bool b]) ∧ DV w' v D ∧ Below w.heap.size w w'
theorem split_any (s t : ByteArray) (N : Nat) (k : Int) (w : World) :
    Calls Tryz.prog 25 #[.string s, .int .i64 (N : Int), .int .i64 k, .string t] w fun e w' => ∃ A n cap, e = .returned (.tuple #[.slice A n cap, .int .i64 (if splitOK s t N k = true then 0 else 1 : Nat)]) ∧ n = (dealSh s t N k).length ∧ w'.ownsRow w.heap.size 29 2 (.slice A n cap) n (sharesV (dealSh s t N k)) ∧ Below w.heap.size w w' := by
  unfold dealSh
  by_cases h : splitOK s t (N : Int) k = true
  · obtain ⟨N', m, h1, h2, h3, h4, h5, h6⟩ := split_is s t _ _ h
    obtain rfl : N = N' := by omega
    rw [if_pos h, if_pos h, show (k - 1).toNat = m by omega, h2]
    refine (split_yes s t N m w h3 h4 h5 h6).mono ?_
    rintro e w' ⟨g, rfl, ho, hb⟩
    exact ⟨_, _, _, rfl, by simp [splitL], ho, hb⟩
  · rw [if_neg h, if_neg h]
    refine (split_no s t _ k w (by simpa using h)).mono ?_
    rintro e w' ⟨rfl, hb⟩
    exact ⟨none, 0, 0, rfl, rfl, ⟨rfl, .inl ⟨rfl, rfl⟩⟩, hb⟩
theorem gb_one (w : World) (b i : Nat) (v : Value) : w.grownBy (w.setCell ⟨b, i, none⟩ v) (some b) :=
  ⟨rfl, rfl, rfl, by simp, fun k hk hne => Below.heap_setCell w ⟨b, i, none⟩ v k (by simp; exact fun e => hne (by rw [e]))⟩
theorem gb_tr {w w1 w2 : World} {r : Option Nat} (h : w.grownBy w1 r) (h' : w1.grownBy w2 r) : w.grownBy w2 r :=
  ⟨h'.os.trans h.os, h'.tape.trans h.tape, h'.output.trans h.output, Nat.le_trans h.size h'.size, fun k hk hne => (h'.block k (Nat.lt_of_lt_of_le hk h.size) hne).trans (h.block k hk hne)⟩
theorem seven_set {W : World} {g : Nat} {t : TypeId} {a0 a1 a2 a3 a4 a5 a6 : Value} (h : W.heap[g]? = some (.cells #[a0, a1, a2, a3, a4, a5, a6] t (0, 0))) (b0 b1 b2 b3 b4 b5 b6 : Value) :
    (((((((W.setCell ⟨g, 0, none⟩ b0).setCell ⟨g, 1, none⟩ b1).setCell ⟨g, 2, none⟩ b2).setCell ⟨g, 3, none⟩ b3).setCell ⟨g, 4, none⟩ b4).setCell ⟨g, 5, none⟩ b5).setCell ⟨g, 6, none⟩ b6).heap[g]? = some (.cells #[b0, b1, b2, b3, b4, b5, b6] t (0, 0)) := by
  have := blk_set (blk_set (blk_set (blk_set (blk_set (blk_set (blk_set h 0 b0) 1 b1) 2 b2) 3 b3) 4 b4) 5 b5) 6 b6
  simp only [List.setIfInBounds_toArray, List.set_cons_zero, List.set_cons_succ] at this
  exact this
theorem seven_gb (W : World) (g : Nat) (b0 b1 b2 b3 b4 b5 b6 : Value) : W.grownBy (((((((W.setCell ⟨g, 0, none⟩ b0).setCell ⟨g, 1, none⟩ b1).setCell ⟨g, 2, none⟩ b2).setCell ⟨g, 3, none⟩ b3).setCell ⟨g, 4, none⟩ b4).setCell ⟨g, 5, none⟩ b5).setCell ⟨g, 6, none⟩ b6) (some g) :=
  gb_tr (gb_tr (gb_tr (gb_tr (gb_tr (gb_tr (gb_one _ _ _ _) (gb_one _ _ _ _)) (gb_one _ _ _ _)) (gb_one _ _ _ _)) (gb_one _ _ _ _)) (gb_one _ _ _ _)) (gb_one _ _ _ _)
theorem own_far {w w' : World} {B g : Nat} {e : TypeId} {size : Nat} {v : Value} {n : Nat} {xs : List Value} (h : w.ownsRow B e size v n xs) (hg : w.grownBy w' (some g)) (hB : g < B) : w'.ownsRow B e size v n xs := by
  refine h.kept hg ?_
  rcases h.2 with ⟨rfl, _⟩ | ⟨g', cap, cur, rfl, hb, _⟩
  · exact .inl rfl
  · right
    intro e'
    injection e' with e'
    simp only at e'
    omega
theorem heap_drew {w : World} {g : Nat} {o : Option Obj} (h : w.heap[g]? = o) : w.drew.heap[g]? = o := h
theorem DV.drew {w : World} {v : Value} {D : Deal} (h : DV w v D) : DV w.drew v D := h.below ((Below.refl _ _).drew)
theorem load_deal {w : World} {g : Nat} {a0 a1 a2 a3 a4 a5 a6 : Value} {t : TypeId} (h : w.heap[g]? = some (.cells #[a0, a1, a2, a3, a4, a5, a6] t (0, 0))) : (loadVar 42 ⟨g, 0, none⟩).run Tryz.prog w = .ok (.agg #[a0, a1, a2, a3, a4, a5, a6]) w := by
  have := run_loadVar_mid (P := Tryz.prog) w g 0 42 [a0, a1, a2, a3, a4, a5, a6] _ (fun j v hj => by
    rw [Nat.zero_add, cell_of_row w g j _ _ _ h]
    simpa using hj) Tryz.underlying42 rfl (by kernel_rfl)
  simpa using this
theorem deal_any (sec : ByteArray) (ns : List ByteArray) (k : Int) (tape : ByteArray) (sa : List ByteArray) (A E : Option Addr) (n c s t : Nat) (w : World) (hn : Rd w A (textsV ns)) (hnl : n = ns.length) (hs : Rd w E (textsV sa)) (hsl : s = sa.length) (hR : Rounds w) (h1000 : n ≤ 1000) (hz : ∀ x ∈ ns, x.size ≤ 9223372036854775807) :
    Calls Tryz.prog 13 #[.string sec, .slice A n c, .int .i64 k, .string tape, .slice E s t] w (DealR w (dealD sec ns k tape sa) (dealB sec ns k tape sa)) := by
  have HN := Lib.hid hn
  have HNl := Lib.hid hnl
  have HS := Lib.hid hs
  have HSl := Lib.hid hsl
  have HR := Lib.hid hR
  have HZ := Lib.hid hz
  have hT := heap_alloc_new w (.cells #[.int .i64 0, .int .i64 0, .slice none 0 0, .slice none 0 0, .string ⟨#[]⟩, .slice none 0 0, .slice none 0 0] 42)
  have hbT := (Below.refl w.heap.size w).alloc (Nat.le_refl _) (.cells #[.int .i64 0, .int .i64 0, .slice none 0 0, .slice none 0 0, .string ⟨#[]⟩, .slice none 0 0, .slice none 0 0] 42)
  have HT := Lib.hid hT
  have HbT := Lib.hid hbT
  have HSp := Lib.hid (fun W => split_any sec tape n k W)
  have hshl : (dealSh sec tape n k).length ≤ 1000 := by
    unfold dealSh
    split
    · simp [splitL]; exact h1000
    · exact Nat.zero_le _
  have HAl := Lib.hid (fun A2 p c2 W h1 h2 h3 h4 => all_any sa (dealSh sec tape n k) E A2 s t p c2 W h1 h2 hsl h3 hshl h4)
  have HD := Lib.hid (show dealD sec ns k tape sa = ⟨⟨1, k, ns, allL sa (dealSh sec tape n k)⟩, sec, dealSh sec tape n k, sa⟩ by rw [hnl]; rfl)
  have HB := Lib.hid (show dealB sec ns k tape sa = (splitOK sec tape (n : Int) k && decide (allE sa (dealSh sec tape n k) = 0) && checkR ⟨1, k, ns, allL sa (dealSh sec tape n k)⟩) by rw [hnl]; rfl)
  rw [HD.out, HB.out]
  generalize dealSh sec tape n k = sh at HSp HAl
  obtain ⟨es, hes⟩ : ∃ es : Nat, es = if splitOK sec tape (n : Int) k = true then 0 else 1 := ⟨_, rfl⟩
  rw [← hes] at HSp
  generalize splitOK sec tape (n : Int) k = ok at hes ⊢
  have Hes := Lib.hid (show ok = decide (es = 0) by rw [hes]; cases ok <;> rfl)
  rw [Hes.out]
  clear Hes hes
  generalize allE sa sh = ae at HAl
  generalize hpl : allL sa sh = pl at HAl
  have Hpl := Lib.hid hpl
  clear hn hnl hs hsl hR hz hT hbT hshl HD HB hpl
  go_enter Tryz.func13, Tryz.ntmps13
  go_wp2_with fail
  refine (HSp.out _).mono ?_
  rintro e w1 ⟨C, p, q, rfl, hp, hrC, hb1⟩
  have HbA := Lib.hid (HbT.out.trans (hb1.mono HbT.out.size))
  have HTA := Lib.hid (cells_below HT.out hb1)
  have HP := Lib.hid hp
  rw [World.size_alloc] at hrC
  have HC := Lib.hid hrC
  have hw1 : w.heap.size + 1 ≤ w1.heap.size := by have := hb1.size; simpa using this
  clear hb1 hp hrC
  go_wp2_with fail
  refine (HAl.out _ _ _ _ (HS.out.below HbA.out) (own_rd HC.out) HP.out (HR.out.below HbA.out)).mono ?_
  rintro e w2 ⟨B, m, d, rfl, hm, hrB, hb2⟩
  have HM := Lib.hid hm
  have hbW := hb2.alloc hb2.size (.cells #[.int .i64 1, .int .i64 k, .slice A n c, .slice B m d, .string sec, .slice C p q, .slice E s t] 42)
  have hX := heap_alloc_new w2 (.cells #[.int .i64 1, .int .i64 k, .slice A n c, .slice B m d, .string sec, .slice C p q, .slice E s t] 42)
  obtain ⟨W3, hW3⟩ : ∃ W3, W3 = w2.alloc (.cells #[.int .i64 1, .int .i64 k, .slice A n c, .slice B m d, .string sec, .slice C p q, .slice E s t] 42) := ⟨_, rfl⟩
  rw [← hW3] at hbW hX
  have HX := Lib.hid hX
  have HBr := Lib.hid (own_keep hrB (by rw [hW3]; exact (Below.refl _ _).alloc (Nat.le_refl _) _ : Below w2.heap.size w2 W3))
  have HC3 := Lib.hid (own_keep HC.out hbW)
  have HbW := Lib.hid (HbA.out.trans (hbW.mono HbA.out.size))
  have HT3 := Lib.hid (cells_below HTA.out hbW)
  have HW3 := Lib.hid hW3
  clear hm hrB hb2 hbW hX hW3 HTA HbT HT
  go_upto_region 4 with fail
  rw [← HW3.out]
  obtain ⟨G, hG⟩ : ∃ G, G = w2.heap.size := ⟨_, rfl⟩
  rw [← hG] at HX ⊢
  have HRV := Lib.hid (show ∀ W, Below W3.heap.size W3 W → RV W (.agg #[.int .i64 1, .int .i64 k, .slice A n c, .slice B m d]) ⟨1, k, ns, pl⟩ from fun W h => ⟨A, n, c, B, m, d, rfl, (HN.out.below HbW.out).below h, HNl.out, own_rd (own_keep HBr.out h), HM.out⟩)
  have HFin := Lib.hid (show ∀ W, Below W3.heap.size W3 W → (((((((W.setCell ⟨w.heap.size, 0, none⟩ (.int .i64 1)).setCell ⟨w.heap.size, 1, none⟩ (.int .i64 k)).setCell ⟨w.heap.size, 2, none⟩ (.slice A n c)).setCell ⟨w.heap.size, 3, none⟩ (.slice B m d)).setCell ⟨w.heap.size, 4, none⟩ (.string sec)).setCell ⟨w.heap.size, 5, none⟩ (.slice C p q)).setCell ⟨w.heap.size, 6, none⟩ (.slice E s t)).heap[w.heap.size]? = some (.cells #[.int .i64 1, .int .i64 k, .slice A n c, .slice B m d, .string sec, .slice C p q, .slice E s t] 42 (0, 0)) ∧ Below w.heap.size w (((((((W.setCell ⟨w.heap.size, 0, none⟩ (.int .i64 1)).setCell ⟨w.heap.size, 1, none⟩ (.int .i64 k)).setCell ⟨w.heap.size, 2, none⟩ (.slice A n c)).setCell ⟨w.heap.size, 3, none⟩ (.slice B m d)).setCell ⟨w.heap.size, 4, none⟩ (.string sec)).setCell ⟨w.heap.size, 5, none⟩ (.slice C p q)).setCell ⟨w.heap.size, 6, none⟩ (.slice E s t)) ∧ DV (((((((W.setCell ⟨w.heap.size, 0, none⟩ (.int .i64 1)).setCell ⟨w.heap.size, 1, none⟩ (.int .i64 k)).setCell ⟨w.heap.size, 2, none⟩ (.slice A n c)).setCell ⟨w.heap.size, 3, none⟩ (.slice B m d)).setCell ⟨w.heap.size, 4, none⟩ (.string sec)).setCell ⟨w.heap.size, 5, none⟩ (.slice C p q)).setCell ⟨w.heap.size, 6, none⟩ (.slice E s t)) (.agg #[.int .i64 1, .int .i64 k, .slice A n c, .slice B m d, .string sec, .slice C p q, .slice E s t]) ⟨⟨1, k, ns, pl⟩, sec, sh, sa⟩ from fun W h => by
    have hT4 := cells_below HT3.out h
    have hB4 := own_keep HBr.out h
    have hC4 := own_keep HC3.out h
    have hgb := seven_gb W w.heap.size (.int .i64 1) (.int .i64 k) (.slice A n c) (.slice B m d) (.string sec) (.slice C p q) (.slice E s t)
    have hbl : Below w.heap.size w (((((((W.setCell ⟨w.heap.size, 0, none⟩ (.int .i64 1)).setCell ⟨w.heap.size, 1, none⟩ (.int .i64 k)).setCell ⟨w.heap.size, 2, none⟩ (.slice A n c)).setCell ⟨w.heap.size, 3, none⟩ (.slice B m d)).setCell ⟨w.heap.size, 4, none⟩ (.string sec)).setCell ⟨w.heap.size, 5, none⟩ (.slice C p q)).setCell ⟨w.heap.size, 6, none⟩ (.slice E s t)) := (HbW.out.trans (h.mono HbW.out.size)).grown hgb (by have := HbW.out.size; have := h.size; omega) (fun k' e => by cases e; exact Nat.le_refl _)
    refine ⟨seven_set hT4 _ _ _ _ _ _ _, hbl, ⟨A, n, c, B, m, d, C, p, q, E, s, t, rfl, HN.out.below hbl, HNl.out, own_rd (own_far hB4 hgb (by omega)), HM.out, own_rd (own_far hC4 hgb (by omega)), HP.out, HS.out.below hbl, HSl.out⟩⟩)
  clear HW3 hG HN HNl HBr HM HC3 HC HP HS HSl HSp HAl HbA hw1
  have hlt := cell_lt_of HT3.out
  have m0 := rf_at HX.out 0 _ rfl
  have m1 := rf_at HX.out 1 _ rfl
  have m2 := rf_at HX.out 2 _ rfl
  have m3 := rf_at HX.out 3 _ rfl
  have m4 := rf_at HX.out 4 _ rfl
  have m5 := rf_at HX.out 5 _ rfl
  have m6 := rf_at HX.out 6 _ rfl
  go_cut [11] from 40 to 51 (fun v11 wc => v11 = .bool (decide (es = 0) && decide (ae = 0) && checkR ⟨1, k, ns, pl⟩) ∧ wc.heap[w.heap.size]? = some (.cells #[.int .i64 1, .int .i64 k, .slice A n c, .slice B m d, .string sec, .slice C p q, .slice E s t] 42 (0, 0)) ∧ Below w.heap.size w wc ∧ DV wc (.agg #[.int .i64 1, .int .i64 k, .slice A n c, .slice B m d, .string sec, .slice C p q, .slice E s t]) ⟨⟨1, k, ns, pl⟩, sec, sh, sa⟩)
  case first =>
    have t0 := rf_at HT3.out 0 _ rfl
    have t1 := rf_at HT3.out 1 _ rfl
    have t2 := rf_at HT3.out 2 _ rfl
    have t3 := rf_at HT3.out 3 _ rfl
    have t4 := rf_at HT3.out 4 _ rfl
    have t5 := rf_at HT3.out 5 _ rfl
    have t6 := rf_at HT3.out 6 _ rfl
    have f0 := rf_fr HT3.out 0
    have f1 := rf_fr HT3.out 1
    have f2 := rf_fr HT3.out 2
    have f3 := rf_fr HT3.out 3
    have f4 := rf_fr HT3.out 4
    have f5 := rf_fr HT3.out 5
    have f6 := rf_fr HT3.out 6
    by_cases hes : es = 0
    · by_cases hae : ae = 0
      · have e1 : ((es : Int) == 0) = true := by simp; omega
        have e2 : ((ae : Int) == 0) = true := by simp; omega
        have HV := Lib.hid (show (decide (es = 0) && decide (ae = 0) && checkR ⟨1, k, ns, pl⟩) = checkR ⟨1, k, ns, pl⟩ by rw [decide_eq_true hes, decide_eq_true hae]; rfl)
        have HCk := Lib.hid (fun W h => check18_any (.agg #[.int .i64 1, .int .i64 k, .slice A n c, .slice B m d]) ⟨1, k, ns, pl⟩ W h HZ.out)
        clear hes hae
        go_region_law (first | (go_simp; go_at_call 9; refine (HCk.out _ (HRV.out _ ((Below.refl _ _).drew))).mono ?_; rintro e w5 ⟨rfl, hb5⟩; have K5 := Lib.hid (show Below W3.heap.size W3 w5 from ((Below.refl W3.heap.size W3).drew).trans hb5); have T5 := cells_below HT3.out K5.out; have X5 := cells_below HX.out K5.out; have n0 := rf_at X5 0 _ rfl; have n1' := rf_at X5 1 _ rfl; have n2' := rf_at X5 2 _ rfl; have n3 := rf_at X5 3 _ rfl; have n4 := rf_at X5 4 _ rfl; have n5 := rf_at X5 5 _ rfl; have n6 := rf_at X5 6 _ rfl; have u0 := rf_at T5 0 _ rfl; have u1 := rf_at T5 1 _ rfl; have u2 := rf_at T5 2 _ rfl; have u3 := rf_at T5 3 _ rfl; have u4 := rf_at T5 4 _ rfl; have u5 := rf_at T5 5 _ rfl; have u6 := rf_at T5 6 _ rfl; have g0 := rf_fr T5 0; have g1 := rf_fr T5 1; have g2 := rf_fr T5 2; have g3 := rf_fr T5 3; have g4 := rf_fr T5 4; have g5 := rf_fr T5 5; have g6 := rf_fr T5 6; clear T5 X5 hb5))
        all_goals
          go_wp2_with fail
          go_meet
          case rel =>
            have hf := HFin.out w5 K5.out
            exact ⟨by rw [HV.out], hf.1, hf.2.1, hf.2.2⟩
      · have e1 : ((es : Int) == 0) = true := by simp; omega
        have e2 : ((ae : Int) == 0) = false := by simp; omega
        have HV := Lib.hid (show (decide (es = 0) && decide (ae = 0) && checkR ⟨1, k, ns, pl⟩) = false by rw [decide_eq_false hae]; simp)
        clear hes hae
        go_region
        all_goals
          go_wp2_with fail
          go_meet
          case rel =>
            have hf := HFin.out W3 (Below.refl _ _)
            exact ⟨by rw [HV.out], heap_drew hf.1, hf.2.1.drew, hf.2.2.drew⟩
    · have e1 : ((es : Int) == 0) = false := by simp; omega
      have HV := Lib.hid (show (decide (es = 0) && decide (ae = 0) && checkR ⟨1, k, ns, pl⟩) = false by rw [decide_eq_false hes]; simp)
      clear hes
      go_region
      all_goals
        go_wp2_with fail
        go_meet
        case rel =>
          have hf := HFin.out W3 (Below.refl _ _)
          exact ⟨by rw [HV.out], heap_drew hf.1, hf.2.1.drew, hf.2.2.drew⟩
  case rest =>
    obtain ⟨rfl, hD, hb, hDV⟩ := hcut
    go_wp2_with fail
    refine bodyPost_ret (res_cell_tmp rfl _ _ w.heap.size (by rfl) _ (load_deal hD)) rfl ?_
    exact ⟨_, rfl, hDV, hb⟩
end Go.Proofs.YtifcpklaenbclaaGreatDoor
