/-
  Contract of keyholeref02.Step.
-/
import Derived.Test.YtkeeejkijbaooaaDoorR02b
import Derived.Test.YtkeeejkijbaooaaDoorHeldK
namespace Go.Proofs.YtkeeejkijbaooaaDoor
open Go.RowKit
set_option linter.unusedVariables false
set_option maxRecDepth 100000
set_option linter.unusedSimpArgs false

theorem maj_x {a b c : Int} (ha : Wd a) (hb : Wd b) : xorL [andI a b, andI a c, andI b c] = majI a b c := rfl
theorem ch_x {e f g : Int} (he : Wd e) (hf : Wd f) : xorI (andI e f) (andI (4294967295 - e) g) = chI e f g := (xorL2 (wd_and he hf)).symm
theorem addI_comm2 (a b : Int) : addI [a, b] = addI [b, a] := by rw [addI2, addI2, Int.add_comm]

theorem Rd.gb {w w' : World} {g off t : Nat} {xs : List Value} (h : Rd w (some ⟨g, off, none⟩) xs) (hG : w.grownBy w' (some t)) (hne : g ≠ t) : Rd w' (some ⟨g, off, none⟩) xs := fun i u hu => by
  obtain ⟨b, o, hA, hc⟩ := h i u hu
  refine ⟨b, o, hA, ?_⟩
  injection hA with hA
  injection hA with h1 h2
  subst h1 h2
  rw [← hc]
  unfold World.cell?
  simp only [hG.block _ (cell_lt hc) (fun e => hne (Option.some.inj e))]
theorem keep3_alloc {W : World} {o : Obj} {p q r : Addr} {u v x : Value} (h : W.cell? p = some u ∧ W.cell? q = some v ∧ W.cell? r = some x) : (W.alloc o).cell? p = some u ∧ (W.alloc o).cell? q = some v ∧ (W.alloc o).cell? r = some x :=
  ⟨(keep2_alloc ⟨h.1, h.2.1⟩).1, (keep2_alloc ⟨h.1, h.2.1⟩).2, (keep2_alloc h.2).2⟩
theorem wp_store_whole {P : Program} {op : Oper} {a : Act} {w : World} {K : Act → World → Prop} {Q : Exit → Act → World → Prop} (ty : TypeId) (x y : Operand) (ho : op.op = .store ty x y)
    (g : Nat) (arr : Array Value) (hx : a.eval x = .pointer (some ⟨g, 0, none⟩)) (hy : a.eval y = .agg arr) (cs : Array Value) (t : TypeId) (hg : w.heap[g]? = some (.cells cs t (0, 0))) (hsz : arr.size = cs.size)
    (hi : (P.info? ty).map (·.size) = some arr.size) (h1 : arr.all (·.oneCell') = true)
    (h : ∀ w', w'.heap[g]? = some (.cells arr t (0, 0)) → w.grownBy w' (some g) → K (a.put op.dst undef) w') : op.wp P a w K Q := by
  refine wp_store_mid ty x y ho g 0 arr hx hy (there_blk hg (Nat.le_of_eq hsz)) hi h1 (h _ ?_ ?_)
  · obtain ⟨ds, hd, hs, he⟩ := setCells_block g t (0, 0) arr.toList 0 w cs hg (by simp [hsz])
    have : ds = arr := by
      apply Array.ext_getElem?
      intro i
      rw [he i]
      by_cases hlt : i < arr.size
      · rw [if_pos (by simp; omega)]
        simp
      · rw [if_neg (by simp; omega), Array.getElem?_eq_none (by omega), Array.getElem?_eq_none (by omega)]
    rw [hd, this]
  · obtain ⟨e1, e2, e3⟩ := setCells_os g arr.toList 0 w
    exact ⟨e1, e2, e3, Nat.le_of_eq (setCells_size g _ _ _).symm, fun i hi hne => setCells_other g i (fun e => hne (by rw [e])) _ _ _⟩
theorem step2_end {w W T w10 : World} {B8 B7 g6 B2 B4 : Nat} {o8 o7 o2 o4 : Obj} {xs : List Value} (h10 : w10.heap[B8]? = some o8) (hG : T.grownBy w10 (some B8)) (hT : Below W.heap.size W T)
    (h7 : W.heap[B7]? = some o7) (h6 : Rd W (some ⟨g6, 0, none⟩) xs) (h2 : W.heap[B2]? = some o2) (h4 : W.heap[B4]? = some o4) (hB : Below w.heap.size w W) (n7 : B7 ≠ B8) (n6 : g6 ≠ B8) (n2 : B2 ≠ B8) (n4 : B4 ≠ B8) (hle : w.heap.size ≤ B8) :
    w10.heap[B8]? = some o8 ∧ w10.heap[B7]? = some o7 ∧ Rd w10 (some ⟨g6, 0, none⟩) xs ∧ w10.heap[B2]? = some o2 ∧ w10.heap[B4]? = some o4 ∧ Below w.heap.size w w10 :=
  have k := fun {i : Nat} {o : Obj} (h : W.heap[i]? = some o) (hne : i ≠ B8) => (hG.block i (cell_lt_of (cells_below h hT)) (fun e => hne (Option.some.inj e))).trans (cells_below h hT)
  ⟨h10, k h7 n7, (h6.below hT).gb hG n6, k h2 n2, k h4 n4, (hB.trans (hT.mono hB.size)).trans (grownBy_below' hG hle (Nat.le_trans hB.size hT.size))⟩
set_option maxHeartbeats 2000000 in
theorem step2_ws (ws st : List Int) (s : ByteArray) (w : World) (hst : Words8 st) (hs : s.size = 64) (hwl : ws.length = 64) (hww : ∀ x ∈ ws, Wd x)
    (hsp : ∀ W, Calls Tryd.prog 94 #[.string s] W fun e w' => ∃ g cap, e = .returned (.slice (some ⟨g, 0, none⟩) 64 cap) ∧ w'.ownsRow W.heap.size 3 1 (.slice (some ⟨g, 0, none⟩) 64 cap) 64 (ints ws) ∧ Below W.heap.size W w') :
    Calls Tryd.prog 75 #[.agg (ints st).toArray, .string s] w fun e w' => e = .returned (.tuple #[.agg (ints (addsTo st (rndsTo ws st 64) 8)).toArray, .bool true]) ∧ Below w.heap.size w w' := by
  have Hsp := Lib.hid hsp
  have Hwl := Lib.hid hwl
  have Hww := Lib.hid hww
  clear hwl hww hsp
  have h64 : ((s.size : Int) != 64) = false := by simp [hs]
  have Hs := Lib.hid hs
  have Hst := Lib.hid hst
  obtain ⟨s0, s1, s2, s3, s4, s5, s6, s7, hst', _⟩ := words8_open hst
  have Hst' := Lib.hid hst'
  rw [show (ints st).toArray = #[.int .i64 s0, .int .i64 s1, .int .i64 s2, .int .i64 s3, .int .i64 s4, .int .i64 s5, .int .i64 s6, .int .i64 s7] by rw [hst']; rfl]
  clear hs hst hst'
  go_enter Tryd.func75, Tryd.ntmps75
  go_wp2_with fail
  refine (all1 st _ _ _ _ (by rw [Hst'.out]; exact (rd_new w _ _).below ((Below.refl _ _).alloc (Nat.le_refl _) _)) (by rw [Hst'.out]; rfl) (by rw [Hst'.out]; simp) Hst.out.2).mono ?_
  rintro e w1 ⟨rfl, hw⟩
  obtain rfl := hw.symm
  clear hw
  have H2 := Lib.hid (keep_two (Below.refl _ ((w.alloc (.cells #[.int .i64 s0, .int .i64 s1, .int .i64 s2, .int .i64 s3, .int .i64 s4, .int .i64 s5, .int .i64 s6, .int .i64 s7] 73)).alloc (.cells zeros8 73))))
  have H4 := Lib.hid (show ((w.alloc (.cells #[.int .i64 s0, .int .i64 s1, .int .i64 s2, .int .i64 s3, .int .i64 s4, .int .i64 s5, .int .i64 s6, .int .i64 s7] 73)).alloc (.cells zeros8 73)).heap[w.heap.size + 1]? = some (.cells zeros8 73 (0, 0)) from keep_one' (Below.refl _ _) (by simp))
  have HB := Lib.hid (below_two (Below.refl _ ((w.alloc (.cells #[.int .i64 s0, .int .i64 s1, .int .i64 s2, .int .i64 s3, .int .i64 s4, .int .i64 s5, .int .i64 s6, .int .i64 s7] 73)).alloc (.cells zeros8 73))))
  go_wp2_with fail
  refine (Hsp.out _).mono ?_
  rintro e w2 ⟨g6, cap6, rfl, ho6, hw2⟩
  replace H2 := hblk_below H2 hw2
  replace H4 := hblk_below H4 hw2
  replace HB := Lib.hid (Below.chain HB.out hw2)
  have HR6 := Lib.hid (own_rd ho6)
  clear hw2 ho6
  have hlt4 : w.heap.size + 1 < w2.heap.size := cell_lt_of H4.out
  go_wp2_with fail
  refine (words2 _).mono ?_
  rintro e w3 ⟨rfl, hw3⟩
  have hb3 : Below w2.heap.size w2 w3 := by rw [hw3]; exact (Below.refl _ _).alloc (Nat.le_refl _) _
  have H7 : Hid (w3.heap[w2.heap.size]? = some (.cells (ints roundsT).toArray 3 (0, 0))) := Lib.hid (by rw [hw3]; exact heap_alloc_new w2 _)
  replace H2 := hblk_below H2 hb3
  replace H4 := hblk_below H4 hb3
  replace HB := Lib.hid (Below.chain HB.out hb3)
  replace HR6 := Lib.hid (HR6.out.below hb3)
  obtain ⟨B7, hB7⟩ : ∃ B, B = w2.heap.size := ⟨_, rfl⟩
  rw [← hB7] at H7 hlt4 ⊢
  clear hw3 hb3 hB7
  have c20 : w3.cell? ⟨w.heap.size, 0, none⟩ = some (.int .i64 s0) := by unfold World.cell?; simp only [H2.out]; rfl
  have c21 : w3.cell? ⟨w.heap.size, 1, none⟩ = some (.int .i64 s1) := by unfold World.cell?; simp only [H2.out]; rfl
  have c22 : w3.cell? ⟨w.heap.size, 2, none⟩ = some (.int .i64 s2) := by unfold World.cell?; simp only [H2.out]; rfl
  have c23 : w3.cell? ⟨w.heap.size, 3, none⟩ = some (.int .i64 s3) := by unfold World.cell?; simp only [H2.out]; rfl
  have c24 : w3.cell? ⟨w.heap.size, 4, none⟩ = some (.int .i64 s4) := by unfold World.cell?; simp only [H2.out]; rfl
  have c25 : w3.cell? ⟨w.heap.size, 5, none⟩ = some (.int .i64 s5) := by unfold World.cell?; simp only [H2.out]; rfl
  have c26 : w3.cell? ⟨w.heap.size, 6, none⟩ = some (.int .i64 s6) := by unfold World.cell?; simp only [H2.out]; rfl
  have c27 : w3.cell? ⟨w.heap.size, 7, none⟩ = some (.int .i64 s7) := by unfold World.cell?; simp only [H2.out]; rfl
  have hlt7 : B7 < w3.heap.size := cell_lt_of H7.out
  have hw6 : g6 < w3.heap.size := by
    obtain ⟨b, off, hA, hc⟩ := HR6.out.int_at (i := 0) (by rw [Hwl.out]; decide)
    injection hA with hA
    injection hA with h1 h2
    subst h1
    exact cell_lt hc
  go_wp2_with fail
  have H8 : Hid ((w3.alloc (.cells #[.int .i64 s0, .int .i64 s1, .int .i64 s2, .int .i64 s3, .int .i64 s4, .int .i64 s5, .int .i64 s6, .int .i64 s7] 73)).heap[w3.heap.size]? = some (.cells (ints st).toArray 73 (0, 0))) := by
    rw [Hst'.out]
    exact heap_alloc_new w3 _
  have hb4 : Below w3.heap.size w3 (w3.alloc (.cells #[.int .i64 s0, .int .i64 s1, .int .i64 s2, .int .i64 s3, .int .i64 s4, .int .i64 s5, .int .i64 s6, .int .i64 s7] 73)) := (Below.refl _ _).alloc (Nat.le_refl _) _
  rw [show #[Value.int .i64 s0, .int .i64 s1, .int .i64 s2, .int .i64 s3, .int .i64 s4, .int .i64 s5, .int .i64 s6, .int .i64 s7] = (ints st).toArray by rw [Hst'.out]; rfl] at H2
  replace H2 := hblk_below H2 hb4
  replace H4 := hblk_below H4 hb4
  replace H7 := hblk_below H7 hb4
  replace HR6 := Lib.hid (HR6.out.below hb4)
  replace HB := Lib.hid (Below.chain HB.out hb4)
  obtain ⟨B8, hB8⟩ : ∃ B, B = w3.heap.size := ⟨_, rfl⟩
  rw [← hB8] at H8 hlt7 hw6 ⊢
  generalize w3.alloc (.cells #[.int .i64 s0, .int .i64 s1, .int .i64 s2, .int .i64 s3, .int .i64 s4, .int .i64 s5, .int .i64 s6, .int .i64 s7] 73) = w4 at H2 H4 H8 H7 HB HR6 ⊢
  clear hb4 c20 c21 c22 c23 c24 c25 c26 c27 hB8
  go_loopw [9] (fun i wr => ∃ k : Nat, k ≤ 64 ∧ i = .int .i64 k ∧ wr.heap[B8]? = some (.cells (ints (rndsTo ws st k)).toArray 73 (0, 0)) ∧ wr.heap[B7]? = some (.cells (ints roundsT).toArray 3 (0, 0)) ∧ Rd wr (some ⟨g6, 0, none⟩) (ints ws) ∧ wr.heap[w.heap.size]? = some (.cells (ints st).toArray 73 (0, 0)) ∧ wr.heap[w.heap.size + 1]? = some (.cells zeros8 73 (0, 0)) ∧ Below w.heap.size w wr) (fun i _ => 64 - (intOf i).toNat)
  case atStart => exact ⟨0, by omega, rfl, H8.out, H7.out, HR6.out, H2.out, H4.out, HB.out⟩
  case round =>
    obtain ⟨k, hk, rfl, h8, h7, hr6, h2, h4, hB⟩ := hrel
    replace H8 := Lib.hid h8
    replace H7 := Lib.hid h7
    replace HR6 := Lib.hid hr6
    replace H2 := Lib.hid h2
    replace H4 := Lib.hid h4
    replace HB := Lib.hid hB
    clear h8 h7 hr6 h2 h4 hB
    by_cases hlt : k < 64
    · obtain ⟨a, b, c, d, e, f, g, h, hnow, ha, hb, hc, hd, he, hf, hg, hh⟩ := words8_open (rnds_words (ws := ws) Hst.out k)
      have Wa := Lib.hid ha
      have Wb := Lib.hid hb
      have Wc := Lib.hid hc
      have Wd' := Lib.hid hd
      have We := Lib.hid he
      have Wf := Lib.hid hf
      have Wg := Lib.hid hg
      have Wh := Lib.hid hh
      have Hnext := Lib.hid (show rndsTo ws st (k + 1) = rnd (roundsT.getD k 0) (ws.getD k 0) [a, b, c, d, e, f, g, h] by rw [rndsTo, hnow])
      rw [hnow] at H8
      have hb' := he.1
      have hb'' := he.2
      clear ha hb hc hd he hf hg hh hnow
      have cK := (ints_cell H7.out (i := k) hlt).1
      have cW : wr.cell? ⟨g6, k, none⟩ = some (.int .i64 (ws.getD k 0)) := by
        obtain ⟨b', off, hA, hc⟩ := HR6.out.int_at (i := k) (by rw [Hwl.out]; exact hlt)
        injection hA with hA
        injection hA with h1 h2
        subst h1 h2
        rw [Nat.zero_add] at hc
        exact hc
      have WK := Lib.hid (wd_get roundsT_wd k)
      have WW := Lib.hid (wd_get Hww.out k)
      generalize roundsT.getD k 0 = K at cK WK Hnext
      generalize ws.getD k 0 = X at cW WW Hnext
      have CK := Lib.hid cK
      have CW := Lib.hid cW
      clear cK cW
      have kI : (k : Int) < 64 := by omega
      have hne : IntKind.i64.wrap (4294967295 - e) = 4294967295 - e := IntWalk.i64_in _ (by omega)
      obtain ⟨⟨c0, c1, c2, c3, c4, c5, c6, c7⟩, f0, f1, f2, f3, f4, f5, f6, f7⟩ := eight_cells H8.out
      clear f0 f1 f2 f3 f4 f5 f6 f7
      go_wp2_with fail
      go_quiet ((first
        | (go_at_call 97; exact Calls.quiet_of_same (both1 _ _ _ (by first | exact We.out | exact wd_not We.out) (by first | exact Wf.out | exact Wg.out)))
        | (go_at_call 96; exact Calls.quiet_of_same (unlike1 _ _ _ (by exact wd_and We.out Wf.out) (by exact wd_and (wd_not We.out) Wg.out)))))
      clear c0 c1 c2 c3 c4 c5 c6 c7
      rw [ch_x We.out Wf.out]
      replace H8 : Hid ((wr.drewN nq).heap[B8]? = _) := H8
      replace H7 : Hid ((wr.drewN nq).heap[B7]? = _) := H7
      replace HR6 : Hid (Rd (wr.drewN nq) _ _) := HR6
      replace H2 : Hid ((wr.drewN nq).heap[w.heap.size]? = _) := H2
      replace H4 : Hid ((wr.drewN nq).heap[w.heap.size + 1]? = _) := H4
      replace CK : Hid ((wr.drewN nq).cell? _ = _) := CK
      replace CW : Hid ((wr.drewN nq).cell? _ = _) := CW
      replace HB := Lib.hid (below_drewN HB.out nq)
      generalize wr.drewN nq = wq at H8 H7 HR6 H2 H4 HB CK CW ⊢
      go_wp2_with fail
      obtain ⟨⟨c0, c1, c2, c3, c4, c5, c6, c7⟩, f0, f1, f2, f3, f4, f5, f6, f7⟩ := eight_cells H8.out
      clear f0 f1 f2 f3 f4 f5 f6 f7
      go_quiet ((first
        | (go_at_call 97; exact Calls.quiet_of_same (both1 _ _ _ (by first | exact Wa.out | exact Wb.out) (by first | exact Wb.out | exact Wc.out)))
        | (go_at_call 98; exact Calls.quiet_of_same ((three2 _ _ _ _ (by exact wd_and Wa.out Wb.out) (by exact wd_and Wa.out Wc.out) (by exact wd_and Wb.out Wc.out)).mono fun _ _ h => ⟨h.1, h.2.symm⟩))))
      clear c0 c1 c2 c3 c4 c5 c6 c7
      replace H8 : Hid ((wq.drewN nq).heap[B8]? = _) := H8
      replace H7 : Hid ((wq.drewN nq).heap[B7]? = _) := H7
      replace HR6 : Hid (Rd (wq.drewN nq) _ _) := HR6
      replace H2 : Hid ((wq.drewN nq).heap[w.heap.size]? = _) := H2
      replace H4 : Hid ((wq.drewN nq).heap[w.heap.size + 1]? = _) := H4
      replace CK : Hid ((wq.drewN nq).cell? _ = _) := CK
      replace CW : Hid ((wq.drewN nq).cell? _ = _) := CW
      replace HB := Lib.hid (below_drewN HB.out nq)
      generalize wq.drewN nq = wx at H8 H7 HR6 H2 H4 HB CK CW ⊢
      go_wp2_with fail
      have HX : Below wx.heap.size wx wx.drew := (Below.refl _ _).drew
      have cK := CK.out
      have cW := CW.out
      have c7 : wx.cell? ⟨B8, 7, none⟩ = some (.int .i64 h) := (ints_cell H8.out (i := 7) (by simp)).1
      go_region_held3 (fun w' => w'.cell? ⟨B7, k, none⟩ = some (.int .i64 K) ∧ w'.cell? ⟨g6, k, none⟩ = some (.int .i64 X) ∧ w'.cell? ⟨B8, 7, none⟩ = some (.int .i64 h))
        (first | assumption | exact ⟨cK, cW, c7⟩ | exact keep3_alloc (by assumption))
        (first
          | ((go_at_call 100; refine (back2 _ _ _ (by exact We.out) (by omega) (by omega)).mono ?_); rintro _ w' ⟨rfl, rfl⟩)
          | ((go_at_call 98; refine (three2 _ _ _ _ (by exact wd_rot _ We.out) (by exact wd_rot _ We.out) (by exact wd_rot _ We.out)).mono ?_); rintro _ w' ⟨rfl, rfl⟩)
          | ((go_at_call 99; refine (add2 _ _ _ [_, _, _, _, _] _ (by exact rd_new' _ _ _ _ (by simp)) rfl (by simp) (by exact wd5 Wh.out (wd_S1 We.out) (wd_ch We.out Wf.out Wg.out) WK.out WW.out)).mono ?_); rintro _ w' ⟨rfl, rfl⟩))
      clear cK cW c7
      go_wp2_with (first
          | ((go_at_call 100; refine (back2 _ _ _ (by exact Wa.out) (by omega) (by omega)).mono ?_); rintro _ w' ⟨rfl, rfl⟩)
          | ((go_at_call 98; refine (three2 _ _ _ _ (by exact wd_rot _ Wa.out) (by exact wd_rot _ Wa.out) (by exact wd_rot _ Wa.out)).mono ?_); rintro _ w' ⟨rfl, rfl⟩)
          | ((go_at_call 99; refine (add2 _ _ _ [_, _] _ (by exact rd_new' _ _ _ _ (by simp)) rfl (by simp) (by exact wordsB2.2 ⟨wd_S0 Wa.out, wd_maj Wa.out Wb.out Wc.out⟩)).mono ?_); rintro _ w' ⟨rfl, rfl⟩))
      have hW2 : ∀ o1 o2, Below wx.heap.size wx ((wx.alloc o1).alloc o2).drew := fun o1 o2 => (((Below.refl _ _).alloc (Nat.le_refl _) o1).alloc (by simp) o2).drew
      have WU : Hid (Wd (addI [h, xorL [rotI e 26, rotI e 21, rotI e 7], chI e f g, K, X])) := Lib.hid (wd_add _)
      have WV : Hid (Wd (addI [xorL [rotI a 30, rotI a 19, rotI a 10], xorL [andI a b, andI a c, andI b c]])) := Lib.hid (wd_add _)
      replace Hnext : Hid (rndsTo ws st (k + 1) = [addI [addI [h, xorL [rotI e 26, rotI e 21, rotI e 7], chI e f g, K, X], addI [xorL [rotI a 30, rotI a 19, rotI a 10], xorL [andI a b, andI a c, andI b c]]], a, b, c, addI [d, addI [h, xorL [rotI e 26, rotI e 21, rotI e 7], chI e f g, K, X]], e, f, g]) := Hnext
      generalize addI [h, xorL [rotI e 26, rotI e 21, rotI e 7], chI e f g, K, X] = U at Hnext WU ⊢
      generalize addI [xorL [rotI a 30, rotI a 19, rotI a 10], xorL [andI a b, andI a c, andI b c]] = V at Hnext WV ⊢
      generalize hWe : ((wx.alloc (Obj.cells #[Value.int IntKind.i64 h, Value.int IntKind.i64 (xorL [rotI e 26, rotI e 21, rotI e 7]), Value.int IntKind.i64 (chI e f g), Value.int IntKind.i64 K, Value.int IntKind.i64 X] 3)).alloc (Obj.cells #[Value.int IntKind.i64 (xorL [rotI a 30, rotI a 19, rotI a 10]), Value.int IntKind.i64 (xorL [andI a b, andI a c, andI b c])] 3)).drew = W
      have hbW : Below wx.heap.size wx W := hWe ▸ hW2 _ _
      replace H8 := hblk_below H8 hbW
      replace H7 := hblk_below H7 hbW
      replace HR6 := Lib.hid (HR6.out.below hbW)
      replace H2 := hblk_below H2 hbW
      replace H4 := hblk_below H4 hbW
      replace HB := Lib.hid (Below.chain HB.out hbW)
      clear hWe hbW hW2 HX CK CW
      -- REGION15
      refine wp_region_k (S := fun w' => w'.heap[B8]? = some (.cells (ints [a, b, c, d, e, f, g, h]).toArray 73 (0, 0)) ∧ Below W.heap.size W w') 20 (by kernel_rfl) (by exact ⟨H8.out, (Below.refl _ _).drew⟩) (fun hHeld => ?_)
      refine wpAnyK_take 0 (oi := _) (v := ?_) rfl (by decide) (by kernel_rfl) (by kernel_rfl) (by kernel_rfl) (by kernel_rfl) (fun _ _ _ h => h) (Or.inl ⟨by rfl, ?_⟩) hHeld ?_
      rotate_left
      · (intro w9 hS9; (try dsimp only at hS9); go_simp; try with_reducible rfl)
      try simp only [Act.put, List.setIfInBounds_toArray, List.set_cons_zero, List.set_cons_succ]
      refine wpAnyK_take 1 (oi := _) (v := ?_) rfl (by decide) (by kernel_rfl) (by kernel_rfl) (by kernel_rfl) (by kernel_rfl) (fun _ _ _ h => h) (Or.inl ⟨by rfl, ?_⟩) hHeld ?_
      rotate_left
      · (intro w9 hS9; (try dsimp only at hS9); go_simp; try with_reducible rfl)
      try simp only [Act.put, List.setIfInBounds_toArray, List.set_cons_zero, List.set_cons_succ]
      refine wpAnyK_take 4 (oi := _) (v := ?_) rfl (by decide) (by kernel_rfl) (by kernel_rfl) (by kernel_rfl) (by kernel_rfl) (fun _ _ _ h => h) (Or.inl ⟨by rfl, ?_⟩) hHeld ?_
      rotate_left
      · (intro w9 hS9; (try dsimp only at hS9); go_simp; try with_reducible rfl)
      try simp only [Act.put, List.setIfInBounds_toArray, List.set_cons_zero, List.set_cons_succ]
      refine wpAnyK_take 5 (oi := _) (v := ?_) rfl (by decide) (by kernel_rfl) (by kernel_rfl) (by kernel_rfl) (by kernel_rfl) (fun _ _ _ h => h) (Or.inl ⟨by rfl, ?_⟩) hHeld ?_
      rotate_left
      · (intro w9 hS9; (try dsimp only at hS9); go_simp; try with_reducible rfl)
      try simp only [Act.put, List.setIfInBounds_toArray, List.set_cons_zero, List.set_cons_succ]
      refine wpAnyK_take 6 (oi := _) (v := ?_) rfl (by decide) (by kernel_rfl) (by kernel_rfl) (by kernel_rfl) (by kernel_rfl) (fun _ _ _ h => h) (Or.inl ⟨by rfl, ?_⟩) hHeld ?_
      rotate_left
      · (intro w9 hS9; (try dsimp only at hS9); have q9 := (ints_cell hS9.1 (i := 1) (by simp)).1; simp only [List.getD_cons_succ, List.getD_cons_zero] at q9; go_simp; try with_reducible rfl)
      try simp only [Act.put, List.setIfInBounds_toArray, List.set_cons_zero, List.set_cons_succ]
      refine wpAnyK_take 7 (oi := _) (v := ?_) rfl (by decide) (by kernel_rfl) (by kernel_rfl) (by kernel_rfl) (by kernel_rfl) (fun _ _ _ h => h) (Or.inl ⟨by rfl, ?_⟩) hHeld ?_
      rotate_left
      · (intro w9 hS9; (try dsimp only at hS9); go_simp; try with_reducible rfl)
      try simp only [Act.put, List.setIfInBounds_toArray, List.set_cons_zero, List.set_cons_succ]
      refine wpAnyK_take 8 (oi := _) (v := ?_) rfl (by decide) (by kernel_rfl) (by kernel_rfl) (by kernel_rfl) (by kernel_rfl) (fun _ _ _ h => h) (Or.inl ⟨by rfl, ?_⟩) hHeld ?_
      rotate_left
      · (intro w9 hS9; (try dsimp only at hS9); have q9 := (ints_cell hS9.1 (i := 2) (by simp)).1; simp only [List.getD_cons_succ, List.getD_cons_zero] at q9; go_simp; try with_reducible rfl)
      try simp only [Act.put, List.setIfInBounds_toArray, List.set_cons_zero, List.set_cons_succ]
      refine wpAnyK_take 9 (oi := _) (v := ?_) rfl (by decide) (by kernel_rfl) (by kernel_rfl) (by kernel_rfl) (by kernel_rfl) (fun _ _ _ h => h) (Or.inl ⟨by rfl, ?_⟩) hHeld ?_
      rotate_left
      · (intro w9 hS9; (try dsimp only at hS9); go_simp; try with_reducible rfl)
      try simp only [Act.put, List.setIfInBounds_toArray, List.set_cons_zero, List.set_cons_succ]
      refine wpAnyK_take 10 (oi := _) (v := ?_) rfl (by decide) (by kernel_rfl) (by kernel_rfl) (by kernel_rfl) (by kernel_rfl) (fun _ _ _ h => h) (Or.inl ⟨by rfl, ?_⟩) hHeld ?_
      rotate_left
      · (intro w9 hS9; (try dsimp only at hS9); have q9 := (ints_cell hS9.1 (i := 3) (by simp)).1; simp only [List.getD_cons_succ, List.getD_cons_zero] at q9; go_simp; try with_reducible rfl)
      try simp only [Act.put, List.setIfInBounds_toArray, List.set_cons_zero, List.set_cons_succ]
      refine wpAnyK_take 11 (oi := _) (v := ?_) rfl (by decide) (by kernel_rfl) (by kernel_rfl) (by kernel_rfl) (by kernel_rfl) (fun _ _ _ h => h) (Or.inl ⟨by rfl, ?_⟩) hHeld ?_
      rotate_left
      · (intro w9 hS9; (try dsimp only at hS9); go_simp; try with_reducible rfl)
      try simp only [Act.put, List.setIfInBounds_toArray, List.set_cons_zero, List.set_cons_succ]
      refine wpAnyK_take 14 (oi := _) (v := ?_) rfl (by decide) (by kernel_rfl) (by kernel_rfl) (by kernel_rfl) (by kernel_rfl) (fun _ _ _ h => h) (Or.inl ⟨by rfl, ?_⟩) hHeld ?_
      rotate_left
      · (intro w9 hS9; (try dsimp only at hS9); go_simp; try with_reducible rfl)
      try simp only [Act.put, List.setIfInBounds_toArray, List.set_cons_zero, List.set_cons_succ]
      refine wpAnyK_take 15 (oi := _) (v := ?_) rfl (by decide) (by kernel_rfl) (by kernel_rfl) (by kernel_rfl) (by kernel_rfl) (fun _ _ _ h => h) (Or.inl ⟨by rfl, ?_⟩) hHeld ?_
      rotate_left
      · (intro w9 hS9; (try dsimp only at hS9); go_simp; try with_reducible rfl)
      try simp only [Act.put, List.setIfInBounds_toArray, List.set_cons_zero, List.set_cons_succ]
      refine wpAnyK_take 16 (oi := _) (v := ?_) rfl (by decide) (by kernel_rfl) (by kernel_rfl) (by kernel_rfl) (by kernel_rfl) (fun _ _ _ h => h) (Or.inl ⟨by rfl, ?_⟩) hHeld ?_
      rotate_left
      · (intro w9 hS9; (try dsimp only at hS9); have q9 := (ints_cell hS9.1 (i := 5) (by simp)).1; simp only [List.getD_cons_succ, List.getD_cons_zero] at q9; go_simp; try with_reducible rfl)
      try simp only [Act.put, List.setIfInBounds_toArray, List.set_cons_zero, List.set_cons_succ]
      refine wpAnyK_take 17 (oi := _) (v := ?_) rfl (by decide) (by kernel_rfl) (by kernel_rfl) (by kernel_rfl) (by kernel_rfl) (fun _ _ _ h => h) (Or.inl ⟨by rfl, ?_⟩) hHeld ?_
      rotate_left
      · (intro w9 hS9; (try dsimp only at hS9); go_simp; try with_reducible rfl)
      try simp only [Act.put, List.setIfInBounds_toArray, List.set_cons_zero, List.set_cons_succ]
      refine wpAnyK_take 18 (oi := _) (v := ?_) rfl (by decide) (by kernel_rfl) (by kernel_rfl) (by kernel_rfl) (by kernel_rfl) (fun _ _ _ h => h) (Or.inl ⟨by rfl, ?_⟩) hHeld ?_
      rotate_left
      · (intro w9 hS9; (try dsimp only at hS9); have q9 := (ints_cell hS9.1 (i := 6) (by simp)).1; simp only [List.getD_cons_succ, List.getD_cons_zero] at q9; go_simp; try with_reducible rfl)
      try simp only [Act.put, List.setIfInBounds_toArray, List.set_cons_zero, List.set_cons_succ]
      refine wpAnyK_ready (rs := [2, 12]) (by kernel_rfl) (by simp) (by kernel_rfl) ?_
      refine ReadyK.cons rfl (fun K hK => ?_) ?_
      · go_simp
        refine hK.out _ _ ?_ (fun hHeld => ?_)
        · exact ⟨(Below.heap_alloc _ _ _ (cell_lt_of hHeld.1)).trans hHeld.1, hHeld.2.alloc hHeld.2.size _⟩
        clear hK K
        try simp only [Act.put, List.setIfInBounds_toArray, List.set_cons_zero, List.set_cons_succ]
        refine wpAnyK_ready (rs := [3, 12]) (by kernel_rfl) (by simp) (by kernel_rfl) ?_
        refine ReadyK.cons rfl (fun K hK => ?_) ?_
        · go_simp
          go_at_call 99
          refine (add2 _ _ _ [U, V] _ (by first | exact rd_new' _ _ _ _ (by first | rfl | simp) | exact (rd_new' _ _ _ _ (by first | rfl | simp)).below (by exact ((Below.refl _ _).alloc (Nat.le_refl _) _).drew)) rfl (by simp) (by exact wordsB2.2 ⟨WU.out, WV.out⟩)).mono ?_
          rintro _ w' ⟨rfl, rfl⟩
          go_simp
          refine hK.out _ _ ?_ (fun hHeld => ?_)
          · exact hHeld
          clear hK K
          try simp only [Act.put, List.setIfInBounds_toArray, List.set_cons_zero, List.set_cons_succ]
          refine wpAnyK_ready (rs := [12]) (by kernel_rfl) (by simp) (by kernel_rfl) ?_
          refine ReadyK.cons rfl (fun K hK => ?_) ?_
          · go_simp
            refine hK.out _ _ ?_ (fun hHeld => ?_)
            · exact ⟨(Below.heap_alloc _ _ _ (cell_lt_of hHeld.1)).trans hHeld.1, hHeld.2.alloc hHeld.2.size _⟩
            clear hK K
            try simp only [Act.put, List.setIfInBounds_toArray, List.set_cons_zero, List.set_cons_succ]
            refine wpAnyK_ready (rs := [13]) (by kernel_rfl) (by simp) (by kernel_rfl) ?_
            refine ReadyK.cons rfl (fun K hK => ?_) ?_
            · go_simp
              go_at_call 99
              refine (add2 _ _ _ [d, U] _ (by first | exact rd_new' _ _ _ _ (by first | rfl | simp) | exact (rd_new' _ _ _ _ (by first | rfl | simp)).below (by exact ((Below.refl _ _).alloc (Nat.le_refl _) _).drew)) rfl (by simp) (by exact wordsB2.2 ⟨Wd'.out, WU.out⟩)).mono ?_
              rintro _ w' ⟨rfl, rfl⟩
              go_simp
              refine hK.out _ _ ?_ (fun hHeld => ?_)
              · exact hHeld
              clear hK K
              try simp only [Act.put, List.setIfInBounds_toArray, List.set_cons_zero, List.set_cons_succ]
              refine wpAnyK_take 19 (oi := _) (v := ?_) rfl (by decide) (by kernel_rfl) (by kernel_rfl) (by kernel_rfl) (by kernel_rfl) (fun _ _ _ h => h) (Or.inl ⟨by rfl, ?_⟩) hHeld ?_
              rotate_left
              · (intro w9 hS9; (try dsimp only at hS9); go_simp; try with_reducible rfl)
              try simp only [Act.put, List.setIfInBounds_toArray, List.set_cons_zero, List.set_cons_succ]
              refine wpAnyK_last (by kernel_rfl) rfl (by kernel_rfl) (fun K hK => ?_)
              rw [if_pos (by rfl)]
              refine wp_store_whole 73 _ _ rfl B8 (ints [addI [U, V], a, b, c, addI [d, U], e, f, g]).toArray rfl rfl _ 73 hHeld.1 rfl (by kernel_rfl) (ints_one _) ?_
              intro w10 h10 hG10
              refine hK.out _ _ ?_
              clear hK K
              try simp only [Act.put, List.setIfInBounds_toArray, List.set_cons_zero, List.set_cons_succ]
              have hE := Lib.hid (step2_end h10 hG10 hHeld.2 H7.out HR6.out H2.out H4.out HB.out (by omega) (by omega) (by omega) (by omega) (by omega))
              clear h10 hG10 hHeld
              go_wp2_with fail
              go_roundw
              case rel => exact ⟨k + 1, by omega, by go_num, by rw [Hnext.out]; exact hE.out⟩
              case measure => simp [intOf]; omega
            exact ReadyK.nil
          exact ReadyK.nil
        refine ReadyK.cons rfl (fun K hK => ?_) ?_
        · go_simp
          refine hK.out _ _ ?_ (fun hHeld => ?_)
          · exact ⟨(Below.heap_alloc _ _ _ (cell_lt_of hHeld.1)).trans hHeld.1, hHeld.2.alloc hHeld.2.size _⟩
          clear hK K
          try simp only [Act.put, List.setIfInBounds_toArray, List.set_cons_zero, List.set_cons_succ]
          refine wpAnyK_ready (rs := [3]) (by kernel_rfl) (by simp) (by kernel_rfl) ?_
          refine ReadyK.cons rfl (fun K hK => ?_) ?_
          · go_simp
            go_at_call 99
            refine (add2 _ _ _ [U, V] _ (by first | exact rd_new' _ _ _ _ (by first | rfl | simp) | exact (rd_new' _ _ _ _ (by first | rfl | simp)).below (by exact ((Below.refl _ _).alloc (Nat.le_refl _) _).drew)) rfl (by simp) (by exact wordsB2.2 ⟨WU.out, WV.out⟩)).mono ?_
            rintro _ w' ⟨rfl, rfl⟩
            go_simp
            refine hK.out _ _ ?_ (fun hHeld => ?_)
            · exact hHeld
            clear hK K
            try simp only [Act.put, List.setIfInBounds_toArray, List.set_cons_zero, List.set_cons_succ]
            refine wpAnyK_ready (rs := [13]) (by kernel_rfl) (by simp) (by kernel_rfl) ?_
            refine ReadyK.cons rfl (fun K hK => ?_) ?_
            · go_simp
              go_at_call 99
              refine (add2 _ _ _ [d, U] _ (by first | exact rd_new' _ _ _ _ (by first | rfl | simp) | exact (rd_new' _ _ _ _ (by first | rfl | simp)).below (by exact ((Below.refl _ _).alloc (Nat.le_refl _) _).drew)) rfl (by simp) (by exact wordsB2.2 ⟨Wd'.out, WU.out⟩)).mono ?_
              rintro _ w' ⟨rfl, rfl⟩
              go_simp
              refine hK.out _ _ ?_ (fun hHeld => ?_)
              · exact hHeld
              clear hK K
              try simp only [Act.put, List.setIfInBounds_toArray, List.set_cons_zero, List.set_cons_succ]
              refine wpAnyK_take 19 (oi := _) (v := ?_) rfl (by decide) (by kernel_rfl) (by kernel_rfl) (by kernel_rfl) (by kernel_rfl) (fun _ _ _ h => h) (Or.inl ⟨by rfl, ?_⟩) hHeld ?_
              rotate_left
              · (intro w9 hS9; (try dsimp only at hS9); go_simp; try with_reducible rfl)
              try simp only [Act.put, List.setIfInBounds_toArray, List.set_cons_zero, List.set_cons_succ]
              refine wpAnyK_last (by kernel_rfl) rfl (by kernel_rfl) (fun K hK => ?_)
              rw [if_pos (by rfl)]
              refine wp_store_whole 73 _ _ rfl B8 (ints [addI [U, V], a, b, c, addI [d, U], e, f, g]).toArray rfl rfl _ 73 hHeld.1 rfl (by kernel_rfl) (ints_one _) ?_
              intro w10 h10 hG10
              refine hK.out _ _ ?_
              clear hK K
              try simp only [Act.put, List.setIfInBounds_toArray, List.set_cons_zero, List.set_cons_succ]
              have hE := Lib.hid (step2_end h10 hG10 hHeld.2 H7.out HR6.out H2.out H4.out HB.out (by omega) (by omega) (by omega) (by omega) (by omega))
              clear h10 hG10 hHeld
              go_wp2_with fail
              go_roundw
              case rel => exact ⟨k + 1, by omega, by go_num, by rw [Hnext.out]; exact hE.out⟩
              case measure => simp [intOf]; omega
            exact ReadyK.nil
          exact ReadyK.nil
        exact ReadyK.nil
      refine ReadyK.cons rfl (fun K hK => ?_) ?_
      · go_simp
        refine hK.out _ _ ?_ (fun hHeld => ?_)
        · exact ⟨(Below.heap_alloc _ _ _ (cell_lt_of hHeld.1)).trans hHeld.1, hHeld.2.alloc hHeld.2.size _⟩
        clear hK K
        try simp only [Act.put, List.setIfInBounds_toArray, List.set_cons_zero, List.set_cons_succ]
        refine wpAnyK_ready (rs := [2]) (by kernel_rfl) (by simp) (by kernel_rfl) ?_
        refine ReadyK.cons rfl (fun K hK => ?_) ?_
        · go_simp
          refine hK.out _ _ ?_ (fun hHeld => ?_)
          · exact ⟨(Below.heap_alloc _ _ _ (cell_lt_of hHeld.1)).trans hHeld.1, hHeld.2.alloc hHeld.2.size _⟩
          clear hK K
          try simp only [Act.put, List.setIfInBounds_toArray, List.set_cons_zero, List.set_cons_succ]
          refine wpAnyK_ready (rs := [3]) (by kernel_rfl) (by simp) (by kernel_rfl) ?_
          refine ReadyK.cons rfl (fun K hK => ?_) ?_
          · go_simp
            go_at_call 99
            refine (add2 _ _ _ [U, V] _ (by first | exact rd_new' _ _ _ _ (by first | rfl | simp) | exact (rd_new' _ _ _ _ (by first | rfl | simp)).below (by exact ((Below.refl _ _).alloc (Nat.le_refl _) _).drew)) rfl (by simp) (by exact wordsB2.2 ⟨WU.out, WV.out⟩)).mono ?_
            rintro _ w' ⟨rfl, rfl⟩
            go_simp
            refine hK.out _ _ ?_ (fun hHeld => ?_)
            · exact hHeld
            clear hK K
            try simp only [Act.put, List.setIfInBounds_toArray, List.set_cons_zero, List.set_cons_succ]
            refine wpAnyK_ready (rs := [13]) (by kernel_rfl) (by simp) (by kernel_rfl) ?_
            refine ReadyK.cons rfl (fun K hK => ?_) ?_
            · go_simp
              go_at_call 99
              refine (add2 _ _ _ [d, U] _ (by first | exact rd_new' _ _ _ _ (by first | rfl | simp) | exact (rd_new' _ _ _ _ (by first | rfl | simp)).below (by exact ((Below.refl _ _).alloc (Nat.le_refl _) _).drew)) rfl (by simp) (by exact wordsB2.2 ⟨Wd'.out, WU.out⟩)).mono ?_
              rintro _ w' ⟨rfl, rfl⟩
              go_simp
              refine hK.out _ _ ?_ (fun hHeld => ?_)
              · exact hHeld
              clear hK K
              try simp only [Act.put, List.setIfInBounds_toArray, List.set_cons_zero, List.set_cons_succ]
              refine wpAnyK_take 19 (oi := _) (v := ?_) rfl (by decide) (by kernel_rfl) (by kernel_rfl) (by kernel_rfl) (by kernel_rfl) (fun _ _ _ h => h) (Or.inl ⟨by rfl, ?_⟩) hHeld ?_
              rotate_left
              · (intro w9 hS9; (try dsimp only at hS9); go_simp; try with_reducible rfl)
              try simp only [Act.put, List.setIfInBounds_toArray, List.set_cons_zero, List.set_cons_succ]
              refine wpAnyK_last (by kernel_rfl) rfl (by kernel_rfl) (fun K hK => ?_)
              rw [if_pos (by rfl)]
              refine wp_store_whole 73 _ _ rfl B8 (ints [addI [U, V], a, b, c, addI [d, U], e, f, g]).toArray rfl rfl _ 73 hHeld.1 rfl (by kernel_rfl) (ints_one _) ?_
              intro w10 h10 hG10
              refine hK.out _ _ ?_
              clear hK K
              try simp only [Act.put, List.setIfInBounds_toArray, List.set_cons_zero, List.set_cons_succ]
              have hE := Lib.hid (step2_end h10 hG10 hHeld.2 H7.out HR6.out H2.out H4.out HB.out (by omega) (by omega) (by omega) (by omega) (by omega))
              clear h10 hG10 hHeld
              go_wp2_with fail
              go_roundw
              case rel => exact ⟨k + 1, by omega, by go_num, by rw [Hnext.out]; exact hE.out⟩
              case measure => simp [intOf]; omega
            exact ReadyK.nil
          exact ReadyK.nil
        exact ReadyK.nil
      exact ReadyK.nil
      -- END15
    · obtain rfl : k = 64 := by omega
      have Hfw := Lib.hid (rnds_words (ws := ws) Hst.out 64)
      generalize hfin : rndsTo ws st 64 = fin at H8 Hfw
      have Hfin := Lib.hid hfin
      clear hfin
      go_wp2_with fail
      obtain ⟨wo, hwo⟩ : ∃ wo : World, wo = wr := ⟨_, rfl⟩
      rw [← hwo] at H8 H7 H2 H4 HB ⊢
      clear hwo
      go_loopw [16] (fun i wr => ∃ k : Nat, k ≤ 8 ∧ i = .int .i64 k ∧ wr.heap[B8]? = some (.cells (ints (addsTo st fin k)).toArray 73 (0, 0)) ∧ wr.heap[w.heap.size]? = some (.cells (ints st).toArray 73 (0, 0)) ∧ wr.heap[w.heap.size + 1]? = some (.cells zeros8 73 (0, 0)) ∧ Below w.heap.size w wr) (fun i _ => 8 - (intOf i).toNat)
      case atStart => exact ⟨0, by omega, rfl, by rw [addsTo_zero st fin Hfw.out.1]; exact H8.out, H2.out, H4.out, HB.out⟩
      case round =>
        obtain ⟨i, hi, rfl, hSi, hS0i, hZi, hWi⟩ := hrel
        clear H8 H7 H2 H4 HB HR6
        by_cases hi8 : i < 8
        · have s0 := (ints_cell hSi (i := i) (by rw [addsTo_len]; exact hi8)).1
          have f0 := (ints_cell hSi (i := i) (by rw [addsTo_len]; exact hi8)).2
          have t0 := (ints_cell hS0i (i := i) (by rw [Hst.out.1]; exact hi8)).1
          rw [addsTo_at st fin i hi8] at s0
          have hxw : Wd (fin.getD i 0) := wd_get Hfw.out.2 i
          have hyw : Wd (st.getD i 0) := wd_get Hst.out.2 i
          have Hset := Lib.hid (addsTo_set st fin i hi8)
          have Hww' := Lib.hid (wordsB2.2 ⟨hxw, hyw⟩)
          generalize fin.getD i 0 = x at s0 Hset Hww'
          generalize st.getD i 0 = y at t0 Hset Hww'
          rw [addI_comm2] at Hset
          have HSi := Lib.hid hSi
          have HS0i := Lib.hid hS0i
          have HZi := Lib.hid hZi
          have HWi := Lib.hid hWi
          have ii : (i : Int) < 8 := by omega
          have hSl := cell_lt_of hSi
          have hS0l := cell_lt_of hS0i
          clear hSi hS0i hWi hxw hyw hZi
          go_wp2_with fail
          go_region_law (first | (go_simp; go_at_call 99; refine (add2 _ _ _ [x, y] _ (by exact rd_new' _ _ _ _ (by simp)) rfl (by simp) Hww'.out).mono ?_; rintro e w' ⟨rfl, rfl⟩))
          all_goals
            go_wp2_with fail
            have e1 := ints_set HSi.out i (addI [x, y])
            rw [Hset.out] at e1
            have e2 := (Below.heap_setCell wr ⟨B8, i, none⟩ (.int .i64 (addI [x, y])) w.heap.size (by simp only; omega)).trans HS0i.out
            have e4 := (Below.heap_setCell wr ⟨B8, i, none⟩ (.int .i64 (addI [x, y])) (w.heap.size + 1) (by simp only; omega)).trans HZi.out
            have e3 := HWi.out.setCell (p := ⟨B8, i, none⟩) (by simp only; omega) (.int .i64 (addI [x, y]))
            refine ⟨?_, by simp [intOf]; omega⟩
            repeat apply Exists.intro
            refine ⟨⟨i + 1, by omega, by go_num, ?_, ?_, ?_, ?_⟩, rfl⟩
            · exact (Below.heap_alloc _ _ _ (cell_lt_of e1)).trans e1
            · exact (Below.heap_alloc _ _ _ (cell_lt_of e2)).trans e2
            · exact (Below.heap_alloc _ _ _ (cell_lt_of e4)).trans e4
            · exact (e3.alloc e3.size _).drew
        · obtain rfl : i = 8 := by omega
          obtain ⟨x0, x1, x2, x3, x4, x5, x6, x7, hx, _⟩ := words8_open (addsTo_words st fin Hfw.out.2 8)
          rw [hx] at hSi
          obtain ⟨⟨c0, c1, c2, c3, c4, c5, c6, c7⟩, f0, f1, f2, f3, f4, f5, f6, f7⟩ := eight_cells hSi
          have hz : wr.heap[w.heap.size + 1]? = some (.cells (ints [0, 0, 0, 0, 0, 0, 0, 0]).toArray 73 (0, 0)) := hZi
          obtain ⟨⟨z0, z1, z2, z3, z4, z5, z6, z7⟩, g0, g1, g2, g3, g4, g5, g6', g7⟩ := eight_cells hz
          have Hz := Lib.hid hz
          have HWi := Lib.hid hWi
          have Hx := Lib.hid hx
          clear hSi hS0i hZi hz hWi hx
          go_wp2_with fail
          have h8 := set8_at (xs := [0, 0, 0, 0, 0, 0, 0, 0]) rfl Hz.out x0 x1 x2 x3 x4 x5 x6 x7
          have hG := set8_by wr (w.heap.size + 1) x0 x1 x2 x3 x4 x5 x6 x7
          have hr := World.rangeAt_of_block h8 0 8
          have hl := run_loadVar_mid (P := Tryd.prog) _ (w.heap.size + 1) 0 73 _ _ hr Tryd.underlying73 rfl (by kernel_rfl)
          refine bodyPost_ret (res_cell_tmp rfl _ _ (w.heap.size + 1) rfl _ hl) rfl ?_
          refine ⟨?_, HWi.out.trans (grownBy_below' hG (by omega) HWi.out.size)⟩
          rw [Hfin.out, Hx.out]
          rfl
theorem step2 (st : List Int) (s : ByteArray) (w : World) (hst : Words8 st) (hs : s.size = 64) :
    Calls Tryd.prog 75 #[.agg (ints st).toArray, .string s] w fun e w' => e = .returned (.tuple #[.agg (ints (stepL st s.data.toList)).toArray, .bool true]) ∧ Below w.heap.size w w' :=
  step2_ws _ st s w hst hs (wTo_len _ (by simp [cutL]) _) (wTo_wd _ (cutL_words _ _ _) _) fun W => spread2 s W hs
end Go.Proofs.YtkeeejkijbaooaaDoor
