/-
  Contract of share.Tape where it tells a tape.
-/
import Derived.Test.YtkldllnlakaehaaGreatDoorTapeS
import Derived.Deep.Cut
import Derived.Deep.CutRange
namespace Go.Proofs.YtkldllnlakaehaaGreatDoor
open Go.RowKit
set_option linter.unusedVariables false
set_option maxRecDepth 100000
set_option maxHeartbeats 2000000

theorem keep1_alloc {W : World} {o : Obj} {p : Addr} {v : Value} (h : W.cell? p = some v) : (W.alloc o).cell? p = some v := (((Below.refl _ _).alloc (Nat.le_refl _) o).cell (cell_lt h)).trans h
theorem keep1_cells {W : World} {b g o i : Nat} {vs : List Value} {v : Value} (h : W.cell? ⟨b, i, none⟩ = some v) (hne : b ≠ g) : (W.setCells g o vs).cell? ⟨b, i, none⟩ = some v := by
  unfold World.cell? at h ⊢
  rw [setCells_other g b hne]
  exact h
theorem line_there (W : World) (t : TypeId) : (W.alloc (.cells zeroLine t)).there W.heap.size 0 32 := there_blk (heap_alloc_new W _) (by decide)
theorem bytesV_at (l : List UInt8) (j : Nat) (h : j < l.length) : (bytesV l)[j]? = some (.int .u8 ((l.getD j 0).toNat : Int)) := by simp [bytesV, h]
theorem keep1_below {W w' : World} (hb : Below W.heap.size W w') {p : Addr} {v : Value} (h : W.cell? p = some v) : w'.cell? p = some v := (hb.cell (cell_lt h)).trans h
theorem there_below {W w' : World} {b o n : Nat} (hb : Below W.heap.size W w') (h : W.there b o n) : w'.there b o n := fun j hj => by
  obtain ⟨h1, h2⟩ := h j hj
  obtain ⟨v, hv⟩ := Option.isSome_iff_exists.1 h1
  exact ⟨by rw [keep1_below hb hv]; rfl, (hb.frozen (cell_lt hv)).trans h2⟩
theorem ne_below {W w' : World} {k : Nat} (hb : Below W.heap.size W w') (h : k < W.heap.size) : k ≠ w'.heap.size := by have := hb.size; omega
theorem conv_all (s : ByteArray) : ∃ (capF : World → Nat) (wF : World → World), ∀ W, (convert 9 64 (.string s)).run Tryz.prog W = .ok (.slice (some ⟨W.heap.size, 0, none⟩) s.size (capF W)) (wF W) ∧ (wF W).rangeAt W.heap.size 0 (bytesV s.data.toList) ∧ Below W.heap.size W (wF W) := by
  refine ⟨fun W => (conv_new W s _ rfl).choose, fun W => (conv_new W s _ rfl).choose_spec.choose, fun W => ?_⟩
  obtain ⟨h1, h2, h3, _⟩ := (conv_new W s _ rfl).choose_spec.choose_spec
  refine ⟨h1, fun j v hv => ?_, h3⟩
  have hj : j < s.data.toList.length := by
    rcases Nat.lt_or_ge j s.data.toList.length with h | h
    · exact h
    · rw [List.getElem?_eq_none (by rw [bytesV_length]; exact h)] at hv; cases hv
  rw [Nat.zero_add, (h2 j hj).1, ← hv, bytesV_at _ _ hj]
theorem there_len {w : World} {b o n m : Nat} (h : w.there b o n) (e : n = m) : w.there b o m := e ▸ h
theorem tape_fin3 {w9 E w11 : World} {Gr : Nat} {t : TypeId} {res : List UInt8} (h0 : Below w9.heap.size w9 E) (hG : w9.heap.size ≤ Gr) (hz : E.heap[Gr]? = some (.cells zeroLine t (0, 0))) (hb : Below E.heap.size E w11) (hr : res.length = 32) :
    ∃ Gr', Value.pointer (some ⟨Gr, 0, none⟩) = .pointer (some ⟨Gr', 0, none⟩) ∧ w9.heap.size ≤ Gr' ∧ (w11.setCells Gr 0 (bytesV res)).heap[Gr']? = some (.cells (bytesV res).toArray t (0, 0)) ∧ Below w9.heap.size w9 (w11.setCells Gr 0 (bytesV res)) := by
  refine ⟨Gr, rfl, hG, ?_, below_setCells hG _ _ _ (Below.chain h0 hb)⟩
  obtain ⟨ds, hd, hs, hi⟩ := setCells_block Gr t (0, 0) (bytesV res) 0 _ _ (cells_below hz hb) (by rw [bytesV_length, hr]; decide)
  have : ds = (bytesV res).toArray := by
    apply Array.ext_getElem?
    intro p
    rw [hi p, bytesV_length, hr]
    by_cases c : p < 32
    · rw [if_pos (by omega)]
      simp
    · rw [if_neg (by omega), Array.getElem?_eq_none (by show 32 ≤ p; omega), Array.getElem?_eq_none (by simp [bytesV, hr]; omega)]
  rw [hd, this]
theorem tape_fin1 {w9 E w11 : World} {t : TypeId} {res : List UInt8} (h0 : Below w9.heap.size w9 E) (hb : Below E.heap.size E w11) (hr : res.length = 32) :
    ∃ Gr', Value.pointer (some ⟨w11.heap.size, 0, none⟩) = .pointer (some ⟨Gr', 0, none⟩) ∧ w9.heap.size ≤ Gr' ∧ ((w11.alloc (.cells zeroLine t)).setCells w11.heap.size 0 (bytesV res)).heap[Gr']? = some (.cells (bytesV res).toArray t (0, 0)) ∧ Below w9.heap.size w9 ((w11.alloc (.cells zeroLine t)).setCells w11.heap.size 0 (bytesV res)) :=
  have h := Below.chain h0 hb
  ⟨w11.heap.size, rfl, h.size, heap_setLine hr, below_setLine h h.size res⟩
theorem tape_yes (s : ByteArray) (l : List Shr) (A : Option Addr) (n c : Nat) (w : World) (hs : s.size = 32) (hr : Rd w A (sharesV l)) (hn : n = l.length) (h : rightB l 1 = true) (hl : l.length < 255) :
    Calls Tryz.prog 36 #[.string s, .slice A n c] w fun e w' => e = .returned (.tuple #[.string (bs (tapeOut s.data.toList l)), .int .i64 0]) ∧ Below w.heap.size w w' := by
  have e1 : ((s.size : Int) != 32) = false := by simp; omega
  have e2 : ((n : Int) == 255) = false := by simp; omega
  obtain ⟨q1, q2, q3, q4, q5, q6⟩ := right_digits h (by omega)
  have Hx := Lib.hid q1
  have H32 := Lib.hid q2
  have Hnd := Lib.hid q3
  have H0 := Lib.hid (q6 (by omega))
  have HR := Lib.hid hr
  have HN := Lib.hid hn
  have H1 := Lib.hid h
  have Hs := Lib.hid hs
  have hn1 : 1 ≤ n := by omega
  have hn2 : n < 255 := by omega
  have Hxl := Lib.hid (show n = (xsOf l).length by rw [hn]; simp [xsOf])
  clear hs hr hn h hl q1 q2 q3 q4 q5 q6
  obtain ⟨iL, hL0, hL1, hL2, hL3⟩ := info_parts line_info
  go_enter Tryz.func36, Tryz.ntmps36
  go_wp2_with fail
  refine (right_any l 1 A n c _ HR.out HN.out (by omega)).mono ?_
  rintro e w1 ⟨rfl, hb1⟩
  rw [H1.out]
  go_wp2_with fail
  refine (new_field _).mono ?_
  rintro e w2 ⟨g, rfl, hF, _, hb2⟩
  replace hb2 := Below.chain hb1 hb2
  clear hb1
  go_wp2_with fail
  refine (places_any l A n c _ (HR.out.below hb2) HN.out (by have := HN.out; omega)).mono ?_
  rintro e w3 ⟨gx, rfl, hox, hb3⟩
  rw [Hx.out] at hox
  have HF3 := Lib.hid (hF.keep hb3)
  have HOx := Lib.hid hox
  replace hb3 := Below.chain hb2 hb3
  clear hb2 hF hox
  go_wp2_with fail
  refine (zeros_any (xsOf l) _ n n g _ HF3.out (own_rd HOx.out) Hxl.out (by rw [← Hxl.out]; omega)).mono ?_
  rintro e w4 ⟨gz, capz, rfl, hoz, hb4⟩
  have HF4 := Lib.hid (HF3.out.keep hb4)
  have HOz := Lib.hid hoz
  replace hb4 := Below.chain hb3 hb4
  clear hb3 HF3 HOx hoz
  go_wp2_with (refine wpList_make_full _ (by rfl) (.tmp 45) (.tmp 45) 98 (by rfl) w.heap.size 102 iL (.agg zeroLine) 32 Tryz.underlying98 hL0 hL1 hL2 .i64 .i64 _ _ n (by rfl) (by rfl) rfl rfl (by rw [hL3]; omega) (by unfold maxLen; omega) (by exact hb4.size) ?_)
  intro w5 ho5 hg5
  rw [made_lines] at ho5
  obtain ⟨G, hG⟩ : ∃ G, G = w4.heap.size := ⟨_, rfl⟩
  rw [← hG] at ho5 ⊢
  have hbl := own_blk ho5
  have hB45 := below_grown hg5 (Nat.le_refl _)
  have HF5 := Lib.hid (HF4.out.keep hB45)
  have HOz5 := Lib.hid (own_keep HOz.out hB45)
  have HW5 := Lib.hid (Below.chain hb4 hB45)
  have hGB : w.heap.size ≤ G := hbl.2
  have HL5 := Lib.hid hbl.1
  rw [show n = l.length from HN.out, ← accL_start s.data.toList l, ← HN.out] at HL5
  have hgG : g ≠ G := by have := HF4.out.lt; omega
  have hzG : gz ≠ G := by
    have := cell_lt_of (own_heap HOz.out)
    omega
  clear ho5 hg5 hbl hB45 HF4 HOz hb4 hG e1 e2
  go_wp2_with fail
  go_loopw [49] (fun x wr => ∃ i : Nat, i ≤ n ∧ x = .int .i64 (i : Nat) ∧ w5.grownBy wr (some G) ∧ wr.heap[G]? = some (.cells (bytesV ((List.range (n * 32)).map (accL s.data.toList l i 0))).toArray 102 (0, 0))) (fun x _ => n - (intOf x).toNat)
  case atStart => exact ⟨0, by omega, rfl, World.grownBy.refl _ _, HL5.out⟩
  case round =>
    clear HL5
    obtain ⟨i, hi, rfl, hG1, hL⟩ := hrel
    have HG1 := Lib.hid hG1
    have HL := Lib.hid hL
    clear hG1 hL
    by_cases hlt : i < n
    · have hil : i < l.length := by rw [← HN.out]; exact hlt
      have hW : Below w.heap.size w wr := HW5.out.trans (grownBy_below' HG1.out hGB HW5.out.size)
      obtain ⟨b, off, hA, c1, c2⟩ := (HR.out.below hW).shr hil
      subst hA
      have HFr := Lib.hid (gb_field HG1.out HF5.out hgG)
      have HZr := Lib.hid (gb_own HG1.out HOz5.out hzG)
      have Hst := Lib.hid (fun t j (ht : t < l.length) => accF_step s.data.toList l i t j hil ht)
      obtain ⟨p, hp⟩ : ∃ p, p = l[i] := ⟨_, rfl⟩
      have hpm : p ∈ l := by rw [hp]; exact List.getElem_mem hil
      have Hb32 := Lib.hid (H32.out p hpm)
      have hx1 : p.1 = ((UInt8.ofNat p.1.toNat).toNat : Int) ∧ UInt8.ofNat p.1.toNat ∈ xsOf l := by
        have hm : UInt8.ofNat p.1.toNat ∈ xsOf l := List.mem_map.2 ⟨p, hpm, rfl⟩
        refine ⟨?_, hm⟩
        have h5 := congrArg (fun z : List Int => z[i]?) Hx.out
        simp [nums, xsOf, hil, ← hp] at h5
        rw [UInt8.toNat_ofNat']
        omega
      rw [← hp] at c1 c2 Hst
      clear hp hpm
      obtain ⟨x, bb⟩ := p
      simp only at c1 c2 Hst Hb32 hx1
      obtain ⟨hx1, hx2⟩ := hx1
      generalize UInt8.ofNat x.toNat = xd at hx1 hx2 Hst
      subst hx1
      have Hxm := Lib.hid hx2
      have HW := Lib.hid hW
      have Hql := Lib.hid (show (zerosP (xsOf l)).length = n + 1 by rw [zerosP_len, ← Hxl.out])
      have hGl := cell_lt_of HL.out
      clear hx2 hW
      have Hnz := Lib.hid (show gm (evalP (quoZ (xsOf l) xd) xd) xd ≠ 0 from fun e0 => by
        have h1 := quoZ_self (xsOf l) Hnd.out Hxm.out
        have h2 := gm_eq_zero e0 h1
        rw [h2] at Hxm
        exact H0.out Hxm.out)
      have Hqz := Lib.hid (show quoP xd (zerosP (xsOf l)) = quoZ (xsOf l) xd from rfl)
      have Hqn := Lib.hid (show n = (quoZ (xsOf l) xd).length by rw [quoZ_len, ← Hxl.out])
      go_wp2_with fail
      refine (without_any (zerosP (xsOf l)) xd _ (n + 1) n capz g _ (HFr.out.keep ((Below.refl _ _).alloc (Nat.le_refl _) _)) (own_rd (own_keep HZr.out ((Below.refl _ _).alloc (Nat.le_refl _) _))) Hql.out.symm Hql.out (by omega)).mono ?_
      rintro e w6 ⟨gq, rfl, hoq, hb6⟩
      rw [Hqz.out] at hoq
      generalize quoZ (xsOf l) xd = q at hoq Hst Hnz Hqn
      clear Hqz Hxm Hql c1 c2
      have hS6 := keep_one hb6
      have hb06 := Below.chain_alloc (Below.refl _ _) hb6
      have HOq := Lib.hid hoq
      have HF6 := Lib.hid (HFr.out.keep hb06)
      clear hoq hb6 HFr
      obtain ⟨c0, c1, f0, f1⟩ := two_cells hS6
      have HS6 := Lib.hid hS6
      clear hS6 c1 f0 f1
      go_wp2_with fail
      refine (eval_dig q xd _ n n _ (own_rd HOq.out) Hqn.out (by rw [← Hqn.out]; omega)).mono ?_
      rintro e w7 ⟨rfl, hb7⟩
      have HS7 := Lib.hid (cells_below HS6.out hb7)
      have HF7 := Lib.hid (HF6.out.keep hb7)
      have HOq7 := Lib.hid (own_keep HOq.out hb7)
      have hb07 := Below.chain hb06 hb7
      clear c0 hb7 HS6 HF6 hb06
      obtain ⟨c0, c1, f0, f1⟩ := two_cells HS7.out
      clear c1 f0 f1
      generalize evalP q xd = ev at Hst Hnz ⊢
      go_wp2_with fail
      refine (mul_dig ev xd _ g HF7.out).mono ?_
      rintro e w8 ⟨rfl, hb8⟩
      have HS8 := Lib.hid (cells_below HS7.out hb8)
      have HF8 := Lib.hid (HF7.out.keep hb8)
      have HOq8 := Lib.hid (own_keep HOq7.out hb8)
      have hb08 := Below.chain hb07 hb8
      clear c0 hb8 HS7 HF7 hb07 HOq7
      generalize gm ev xd = sc0 at Hst Hnz ⊢
      go_wp2_with fail
      refine (inv_dig sc0 _ g HF8.out Hnz.out).mono ?_
      rintro e w9 ⟨rfl, hb9⟩
      have HS9 := Lib.hid (cells_below HS8.out hb9)
      have HF9 := Lib.hid (HF8.out.keep hb9)
      have HOq9 := Lib.hid (own_keep HOq8.out hb9)
      have hb09 := Below.chain hb08 hb9
      clear hb9 HS8 HF8 hb08 HOq8
      generalize gi sc0 = sc at Hst ⊢
      go_wp2_with fail
      have Hres := Lib.hid (show (addP s.data.toList bb.data.toList).length = 32 by rw [addP, List.length_zipWith, len_data, len_data, Hs.out, Hb32.out]; rfl)
      go_cut [17] from 50 to 118 (fun v wc => ∃ Gr : Nat, v = .pointer (some ⟨Gr, 0, none⟩) ∧ w9.heap.size ≤ Gr ∧ wc.heap[Gr]? = some (.cells (bytesV (addP s.data.toList bb.data.toList)).toArray 102 (0, 0)) ∧ Below w9.heap.size w9 wc)
      case first =>
        obtain ⟨capF, wF, hwF⟩ := conv_all s
        rw [Hs.out] at hwF
        have hcv := fun W => (hwF W).1
        have hrg := fun W => (hwF W).2.1
        have hbw := fun W => (hwF W).2.2
        obtain ⟨_, K9, _, _⟩ := two_cells HS9.out
        have K9d : w9.drew.cell? ⟨wr.heap.size, 1, none⟩ = some (.string bb) := K9
        have L9 : wr.heap.size < w9.heap.size := cell_lt K9
        have hu := Tryz.underlying102
        have hi0 : (Tryz.prog.info? 102).map (·.size) = some (bytesV s.data.toList).length := by
          have := line_size s.data.toList (by rw [len_data]; exact Hs.out)
          simpa using this
        have hi1 : (Tryz.prog.info? 102).map (·.size) = some (bytesV (addP s.data.toList bb.data.toList)).length := by
          have := line_size _ Hres.out
          rw [List.size_toArray] at this
          exact this
        have h1c : ∀ v ∈ bytesV (addP s.data.toList bb.data.toList), v.oneCell' = true := List.all_eq_true.1 (bytesV_one _)
        have hl32 : (bytesV (addP s.data.toList bb.data.toList)).length = 32 := by rw [bytesV_length]; exact Hres.out
        have Hl32 := Lib.hid (show 32 = (bytesV (addP s.data.toList bb.data.toList)).toArray.size by rw [List.size_toArray, hl32])
        have Hi1a := Lib.hid (line_size _ Hres.out)
        clear hl32 hi1
        have R1 := hrg w9.drew
        have R2 := World.rangeAt_alloc (hrg w9.drew) (.cells zeroLine 102)
        have R3 : (wF ((w9.alloc (.cells zeroLine 102)).drew)).rangeAt (w9.heap.size + 1) 0 (bytesV s.data.toList) := by
          have := hrg ((w9.alloc (.cells zeroLine 102)).drew)
          simpa using this
        have B1 : Below w9.heap.size w9 (wF w9.drew) := ((Below.refl w9.heap.size w9).drew).trans (hbw w9.drew)
        have B2 : Below w9.heap.size w9 ((wF w9.drew).alloc (.cells zeroLine 102)) := B1.alloc B1.size _
        have B30 : Below (w9.heap.size + 1) ((w9.alloc (.cells zeroLine 102)).drew) (wF ((w9.alloc (.cells zeroLine 102)).drew)) := by
          have := hbw ((w9.alloc (.cells zeroLine 102)).drew)
          simpa using this
        have B3 : Below w9.heap.size w9 (wF ((w9.alloc (.cells zeroLine 102)).drew)) := (((Below.refl w9.heap.size w9).alloc (Nat.le_refl _) _).drew).trans (B30.mono (by omega))
        have Z2 : ((wF w9.drew).alloc (.cells zeroLine 102)).heap[(wF w9.drew).heap.size]? = some (.cells zeroLine 102 (0, 0)) := heap_alloc_new _ _
        have Z3 : (wF ((w9.alloc (.cells zeroLine 102)).drew)).heap[w9.heap.size]? = some (.cells zeroLine 102 (0, 0)) := (B30.block _ (by omega)).trans (heap_alloc_new w9 _)
        have T2 := there_blk Z2 (n := 32) (by decide)
        have T3 := there_blk Z3 (n := 32) (by decide)
        have HB1 := Lib.hid B1
        have HB2 := Lib.hid B2
        have HB3 := Lib.hid B3
        have HZ2 := Lib.hid Z2
        have HZ3 := Lib.hid Z3
        have HT2 := Lib.hid T2
        have HT3 := Lib.hid T3
        have M1 := Lib.hid (show wr.heap.size < (wF w9.drew).heap.size by have := B1.size; omega)
        have M2 := Lib.hid (show wr.heap.size < ((wF w9.drew).alloc (.cells zeroLine 102)).heap.size by have := B2.size; omega)
        have M3 := Lib.hid (show wr.heap.size < (wF ((w9.alloc (.cells zeroLine 102)).drew)).heap.size by have := B3.size; omega)
        have N1 : wr.heap.size ≠ w9.heap.size := by omega
        have N2 : wr.heap.size ≠ (wF w9.drew).heap.size := by have := B1.size; omega
        have harr : ∀ (W : World) (cc gg : Nat), (Instr.arrayAt 102 (.slice (some ⟨gg, 0, none⟩) 32 cc)).run Tryz.prog W = .ok (.pointer (some ⟨gg, 0, none⟩)) W := fun W cc gg => by
          simp [Instr.arrayAt, go_sem]
        have HK1 := Lib.hid (fun W => keep1_below (hbw W) (p := ⟨wr.heap.size, 1, none⟩) (v := .string bb))
        clear hbw hrg hwF B1 B2 B3 B30 Z2 Z3 T2 T3 K9
        -- REGION16
        refine wp_region_held_drew (S := fun w' => w'.cell? ⟨wr.heap.size, 1, none⟩ = some (.string bb)) (by kernel_rfl) (by exact K9d) (fun hHeld => ?_)
        refine wpAnyH_take (i := 0) (oi := { dst := some 79, op := Op.move (Operand.tmp 0), type := 9, pos := "share.go:148", after := #[], guard := none }) (v := ?_) rfl (by kernel_rfl) (by kernel_rfl) (by kernel_rfl) (fun _ _ _ h => h) (Or.inl ⟨by rfl, ?_⟩) hHeld ?_
        rotate_left
        · (intro w hSw; (try dsimp only at hSw); go_simp; try with_reducible rfl)
        try simp only [Act.put, List.setIfInBounds_toArray, List.set_cons_zero, List.set_cons_succ]
        refine wpAnyH_take (i := 4) (oi := { dst := some 83, op := Op.fieldAddr 77 (Operand.tmp 11) 1, type := 0, pos := "share.go:148", after := #[], guard := none }) (v := ?_) rfl (by kernel_rfl) (by kernel_rfl) (by kernel_rfl) (fun _ _ _ h => h) (Or.inl ⟨by rfl, ?_⟩) hHeld ?_
        rotate_left
        · (intro w hSw; (try dsimp only at hSw); go_simp; try with_reducible rfl)
        try simp only [Act.put, List.setIfInBounds_toArray, List.set_cons_zero, List.set_cons_succ]
        refine wpAnyH_take (i := 5) (oi := { dst := some 84, op := Op.load 9 (Operand.tmp 83), type := 9, pos := "share.go:148", after := #[{ on := 4, ground := Ground.data }], guard := none }) (v := ?_) rfl (by kernel_rfl) (by kernel_rfl) (by kernel_rfl) (fun _ _ _ h => h) (Or.inl ⟨by rfl, ?_⟩) hHeld ?_
        rotate_left
        · (intro w hSw; (try dsimp only at hSw); go_simp; try with_reducible rfl)
        try simp only [Act.put, List.setIfInBounds_toArray, List.set_cons_zero, List.set_cons_succ]
        refine wpAnyH_ready (rs := [1, 7]) (by kernel_rfl) (by simp) ?_
        refine AllReadyH.cons rfl (fun K hK => ?_) ?_
        · go_simp
          refine hK.out _ _ ?_ (fun hHeld => ?_)
          · exact HK1.out _ hHeld
          clear hK K
          try simp only [Act.put, List.setIfInBounds_toArray, List.set_cons_zero, List.set_cons_succ]
          refine wpAnyH_ready (rs := [2, 7]) (by kernel_rfl) (by simp) ?_
          refine AllReadyH.cons rfl (fun K hK => ?_) ?_
          · go_simp
            refine hK.out _ _ ?_ (fun hHeld => ?_)
            · exact hHeld
            clear hK K
            try simp only [Act.put, List.setIfInBounds_toArray, List.set_cons_zero, List.set_cons_succ]
            refine wpAnyH_ready (rs := [3, 7]) (by kernel_rfl) (by simp) ?_
            refine AllReadyH.cons rfl (fun K hK => ?_) ?_
            · rw [if_pos (by rfl)]
              refine wp_load_mid _ _ rfl _ _ rfl _ _ R1 hu rfl hi0 ?_
              simp only [Act.put, List.setIfInBounds_toArray]
              refine hK.out _ _ ?_ (fun hHeld => ?_)
              · exact hHeld
              clear hK K
              try simp only [Act.put, List.setIfInBounds_toArray, List.set_cons_zero, List.set_cons_succ]
              refine wpAnyH_ready (rs := [6, 7]) (by kernel_rfl) (by simp) ?_
              refine AllReadyH.cons rfl (fun K hK => ?_) ?_
              · go_simp
                go_at_call 63
                refine (plus_line s.data.toList bb _ (by rw [len_data]; exact Hs.out) Hb32.out).mono ?_
                rintro e w11 ⟨rfl, hb11⟩
                have hth := line_there w11 102
                have hne := ne_below hb11 M1.out
                try go_wp2_with fail
                refine hK.out _ _ ?_ (fun hHeld => ?_)
                · exact keep1_below hb11 hHeld
                clear hK K
                try simp only [Act.put, List.setIfInBounds_toArray, List.set_cons_zero, List.set_cons_succ]
                refine wpAnyH_ready (rs := [7]) (by kernel_rfl) (by simp) ?_
                refine AllReadyH.cons rfl (fun K hK => ?_) ?_
                · go_simp
                  refine hK.out _ _ ?_ (fun hHeld => ?_)
                  · exact keep1_alloc hHeld
                  clear hK K
                  try simp only [Act.put, List.setIfInBounds_toArray, List.set_cons_zero, List.set_cons_succ]
                  refine wpAnyH_ready (rs := [8]) (by kernel_rfl) (by simp) ?_
                  refine AllReadyH.cons rfl (fun K hK => ?_) ?_
                  · rw [if_pos (by rfl)]
                    refine wp_store_mid _ _ _ rfl _ _ (List.toArray _) rfl rfl (there_len hth Hl32.out) Hi1a.out (all_oneCell_toArray h1c) ?_
                    simp only [Act.put, List.setIfInBounds_toArray]
                    refine hK.out _ _ ?_ (fun hHeld => ?_)
                    · exact keep1_cells hHeld hne
                    clear hK K
                    try simp only [Act.put, List.setIfInBounds_toArray, List.set_cons_zero, List.set_cons_succ]
                    refine wpAnyH_done (by kernel_rfl) ?_ _
                    try go_wp2_with fail
                    go_meet
                    exact tape_fin1 HB1.out hb11 Hres.out
                  exact AllReadyH.nil
                exact AllReadyH.nil
              refine AllReadyH.cons rfl (fun K hK => ?_) ?_
              · go_simp
                refine hK.out _ _ ?_ (fun hHeld => ?_)
                · exact keep1_alloc hHeld
                clear hK K
                try simp only [Act.put, List.setIfInBounds_toArray, List.set_cons_zero, List.set_cons_succ]
                refine wpAnyH_ready (rs := [6]) (by kernel_rfl) (by simp) ?_
                refine AllReadyH.cons rfl (fun K hK => ?_) ?_
                · go_simp
                  go_at_call 63
                  refine (plus_line s.data.toList bb _ (by rw [len_data]; exact Hs.out) Hb32.out).mono ?_
                  rintro e w11 ⟨rfl, hb11⟩
                  have hth := there_below hb11 HT2.out
                  have hne := ne_below hb11 M2.out
                  try go_wp2_with fail
                  refine hK.out _ _ ?_ (fun hHeld => ?_)
                  · exact keep1_below hb11 hHeld
                  clear hK K
                  try simp only [Act.put, List.setIfInBounds_toArray, List.set_cons_zero, List.set_cons_succ]
                  refine wpAnyH_ready (rs := [8]) (by kernel_rfl) (by simp) ?_
                  refine AllReadyH.cons rfl (fun K hK => ?_) ?_
                  · rw [if_pos (by rfl)]
                    refine wp_store_mid _ _ _ rfl _ _ (List.toArray _) rfl rfl (there_len hth Hl32.out) Hi1a.out (all_oneCell_toArray h1c) ?_
                    simp only [Act.put, List.setIfInBounds_toArray]
                    refine hK.out _ _ ?_ (fun hHeld => ?_)
                    · exact keep1_cells hHeld N2
                    clear hK K
                    try simp only [Act.put, List.setIfInBounds_toArray, List.set_cons_zero, List.set_cons_succ]
                    refine wpAnyH_done (by kernel_rfl) ?_ _
                    try go_wp2_with fail
                    go_meet
                    exact tape_fin3 HB2.out HB1.out.size HZ2.out hb11 Hres.out
                  exact AllReadyH.nil
                exact AllReadyH.nil
              exact AllReadyH.nil
            refine AllReadyH.cons rfl (fun K hK => ?_) ?_
            · go_simp
              refine hK.out _ _ ?_ (fun hHeld => ?_)
              · exact keep1_alloc hHeld
              clear hK K
              try simp only [Act.put, List.setIfInBounds_toArray, List.set_cons_zero, List.set_cons_succ]
              refine wpAnyH_ready (rs := [3]) (by kernel_rfl) (by simp) ?_
              refine AllReadyH.cons rfl (fun K hK => ?_) ?_
              · rw [if_pos (by rfl)]
                refine wp_load_mid _ _ rfl _ _ rfl _ _ R2 hu rfl hi0 ?_
                simp only [Act.put, List.setIfInBounds_toArray]
                refine hK.out _ _ ?_ (fun hHeld => ?_)
                · exact hHeld
                clear hK K
                try simp only [Act.put, List.setIfInBounds_toArray, List.set_cons_zero, List.set_cons_succ]
                refine wpAnyH_ready (rs := [6]) (by kernel_rfl) (by simp) ?_
                refine AllReadyH.cons rfl (fun K hK => ?_) ?_
                · go_simp
                  go_at_call 63
                  refine (plus_line s.data.toList bb _ (by rw [len_data]; exact Hs.out) Hb32.out).mono ?_
                  rintro e w11 ⟨rfl, hb11⟩
                  have hth := there_below hb11 HT2.out
                  have hne := ne_below hb11 M2.out
                  try go_wp2_with fail
                  refine hK.out _ _ ?_ (fun hHeld => ?_)
                  · exact keep1_below hb11 hHeld
                  clear hK K
                  try simp only [Act.put, List.setIfInBounds_toArray, List.set_cons_zero, List.set_cons_succ]
                  refine wpAnyH_ready (rs := [8]) (by kernel_rfl) (by simp) ?_
                  refine AllReadyH.cons rfl (fun K hK => ?_) ?_
                  · rw [if_pos (by rfl)]
                    refine wp_store_mid _ _ _ rfl _ _ (List.toArray _) rfl rfl (there_len hth Hl32.out) Hi1a.out (all_oneCell_toArray h1c) ?_
                    simp only [Act.put, List.setIfInBounds_toArray]
                    refine hK.out _ _ ?_ (fun hHeld => ?_)
                    · exact keep1_cells hHeld N2
                    clear hK K
                    try simp only [Act.put, List.setIfInBounds_toArray, List.set_cons_zero, List.set_cons_succ]
                    refine wpAnyH_done (by kernel_rfl) ?_ _
                    try go_wp2_with fail
                    go_meet
                    exact tape_fin3 HB2.out HB1.out.size HZ2.out hb11 Hres.out
                  exact AllReadyH.nil
                exact AllReadyH.nil
              exact AllReadyH.nil
            exact AllReadyH.nil
          refine AllReadyH.cons rfl (fun K hK => ?_) ?_
          · go_simp
            refine hK.out _ _ ?_ (fun hHeld => ?_)
            · exact keep1_alloc hHeld
            clear hK K
            try simp only [Act.put, List.setIfInBounds_toArray, List.set_cons_zero, List.set_cons_succ]
            refine wpAnyH_ready (rs := [2]) (by kernel_rfl) (by simp) ?_
            refine AllReadyH.cons rfl (fun K hK => ?_) ?_
            · go_simp
              refine hK.out _ _ ?_ (fun hHeld => ?_)
              · exact hHeld
              clear hK K
              try simp only [Act.put, List.setIfInBounds_toArray, List.set_cons_zero, List.set_cons_succ]
              refine wpAnyH_ready (rs := [3]) (by kernel_rfl) (by simp) ?_
              refine AllReadyH.cons rfl (fun K hK => ?_) ?_
              · rw [if_pos (by rfl)]
                refine wp_load_mid _ _ rfl _ _ rfl _ _ R2 hu rfl hi0 ?_
                simp only [Act.put, List.setIfInBounds_toArray]
                refine hK.out _ _ ?_ (fun hHeld => ?_)
                · exact hHeld
                clear hK K
                try simp only [Act.put, List.setIfInBounds_toArray, List.set_cons_zero, List.set_cons_succ]
                refine wpAnyH_ready (rs := [6]) (by kernel_rfl) (by simp) ?_
                refine AllReadyH.cons rfl (fun K hK => ?_) ?_
                · go_simp
                  go_at_call 63
                  refine (plus_line s.data.toList bb _ (by rw [len_data]; exact Hs.out) Hb32.out).mono ?_
                  rintro e w11 ⟨rfl, hb11⟩
                  have hth := there_below hb11 HT2.out
                  have hne := ne_below hb11 M2.out
                  try go_wp2_with fail
                  refine hK.out _ _ ?_ (fun hHeld => ?_)
                  · exact keep1_below hb11 hHeld
                  clear hK K
                  try simp only [Act.put, List.setIfInBounds_toArray, List.set_cons_zero, List.set_cons_succ]
                  refine wpAnyH_ready (rs := [8]) (by kernel_rfl) (by simp) ?_
                  refine AllReadyH.cons rfl (fun K hK => ?_) ?_
                  · rw [if_pos (by rfl)]
                    refine wp_store_mid _ _ _ rfl _ _ (List.toArray _) rfl rfl (there_len hth Hl32.out) Hi1a.out (all_oneCell_toArray h1c) ?_
                    simp only [Act.put, List.setIfInBounds_toArray]
                    refine hK.out _ _ ?_ (fun hHeld => ?_)
                    · exact keep1_cells hHeld N2
                    clear hK K
                    try simp only [Act.put, List.setIfInBounds_toArray, List.set_cons_zero, List.set_cons_succ]
                    refine wpAnyH_done (by kernel_rfl) ?_ _
                    try go_wp2_with fail
                    go_meet
                    exact tape_fin3 HB2.out HB1.out.size HZ2.out hb11 Hres.out
                  exact AllReadyH.nil
                exact AllReadyH.nil
              exact AllReadyH.nil
            exact AllReadyH.nil
          exact AllReadyH.nil
        refine AllReadyH.cons rfl (fun K hK => ?_) ?_
        · go_simp
          refine hK.out _ _ ?_ (fun hHeld => ?_)
          · exact keep1_alloc hHeld
          clear hK K
          try simp only [Act.put, List.setIfInBounds_toArray, List.set_cons_zero, List.set_cons_succ]
          refine wpAnyH_ready (rs := [1]) (by kernel_rfl) (by simp) ?_
          refine AllReadyH.cons rfl (fun K hK => ?_) ?_
          · go_simp
            refine hK.out _ _ ?_ (fun hHeld => ?_)
            · exact HK1.out _ hHeld
            clear hK K
            try simp only [Act.put, List.setIfInBounds_toArray, List.set_cons_zero, List.set_cons_succ]
            refine wpAnyH_ready (rs := [2]) (by kernel_rfl) (by simp) ?_
            refine AllReadyH.cons rfl (fun K hK => ?_) ?_
            · go_simp
              refine hK.out _ _ ?_ (fun hHeld => ?_)
              · exact hHeld
              clear hK K
              try simp only [Act.put, List.setIfInBounds_toArray, List.set_cons_zero, List.set_cons_succ]
              refine wpAnyH_ready (rs := [3]) (by kernel_rfl) (by simp) ?_
              refine AllReadyH.cons rfl (fun K hK => ?_) ?_
              · rw [if_pos (by rfl)]
                refine wp_load_mid _ _ rfl _ _ rfl _ _ R3 hu rfl hi0 ?_
                simp only [Act.put, List.setIfInBounds_toArray]
                refine hK.out _ _ ?_ (fun hHeld => ?_)
                · exact hHeld
                clear hK K
                try simp only [Act.put, List.setIfInBounds_toArray, List.set_cons_zero, List.set_cons_succ]
                refine wpAnyH_ready (rs := [6]) (by kernel_rfl) (by simp) ?_
                refine AllReadyH.cons rfl (fun K hK => ?_) ?_
                · go_simp
                  go_at_call 63
                  refine (plus_line s.data.toList bb _ (by rw [len_data]; exact Hs.out) Hb32.out).mono ?_
                  rintro e w11 ⟨rfl, hb11⟩
                  have hth := there_below hb11 HT3.out
                  have hne := ne_below hb11 M3.out
                  try go_wp2_with fail
                  refine hK.out _ _ ?_ (fun hHeld => ?_)
                  · exact keep1_below hb11 hHeld
                  clear hK K
                  try simp only [Act.put, List.setIfInBounds_toArray, List.set_cons_zero, List.set_cons_succ]
                  refine wpAnyH_ready (rs := [8]) (by kernel_rfl) (by simp) ?_
                  refine AllReadyH.cons rfl (fun K hK => ?_) ?_
                  · rw [if_pos (by rfl)]
                    refine wp_store_mid _ _ _ rfl _ _ (List.toArray _) rfl rfl (there_len hth Hl32.out) Hi1a.out (all_oneCell_toArray h1c) ?_
                    simp only [Act.put, List.setIfInBounds_toArray]
                    refine hK.out _ _ ?_ (fun hHeld => ?_)
                    · exact keep1_cells hHeld N1
                    clear hK K
                    try simp only [Act.put, List.setIfInBounds_toArray, List.set_cons_zero, List.set_cons_succ]
                    refine wpAnyH_done (by kernel_rfl) ?_ _
                    try go_wp2_with fail
                    go_meet
                    exact tape_fin3 HB3.out (Nat.le_refl _) HZ3.out hb11 Hres.out
                  exact AllReadyH.nil
                exact AllReadyH.nil
              exact AllReadyH.nil
            exact AllReadyH.nil
          exact AllReadyH.nil
        exact AllReadyH.nil
        -- END16
      case rest =>
        obtain ⟨Gr, rfl, hGr, hRr, hbc⟩ := hcut
        have hb0c := Below.chain hb09 hbc
        have HFc := Lib.hid (HF9.out.keep hbc)
        have HOc := Lib.hid (own_keep HOq9.out hbc)
        have HLc := Lib.hid (cells_below HL.out hb0c)
        have HGc := Lib.hid (gb_next HG1.out hb0c)
        have HRc := Lib.hid hRr
        have hw9 : wr.heap.size ≤ w9.heap.size := hb09.size
        have hGrG : Gr ≠ G := by omega
        have hgqG : gq ≠ G := by
          have := own_base HOq9.out
          simp at this
          omega
        generalize hres : addP s.data.toList bb.data.toList = res at Hres HRc
        have Hst2 : Hid (∀ t j, t < n → accF s.data.toList l (i + 1) t j = accF s.data.toList l i t j ^^^ gm (gm (q.getD t 0) sc) (s.data.toList.getD j 0 ^^^ bb.data.toList.getD j 0)) := Lib.hid fun t j ht => Hst.out t j (by rw [← HN.out]; exact ht)
        have Hresj : Hid (∀ j, j < 32 → res.getD j 0 = s.data.toList.getD j 0 ^^^ bb.data.toList.getD j 0) := Lib.hid fun j hj => by
          have h1 : j < s.data.toList.length := by rw [len_data, Hs.out]; exact hj
          have h2 : j < bb.data.toList.length := by rw [len_data, Hb32.out]; exact hj
          rw [← hres, addP, getD_at _ j (by rw [List.length_zipWith]; omega), getD_at _ j h1, getD_at _ j h2, List.getElem_zipWith]
        clear hres hRr hbc hb0c hGr HF9 HOq9 hb09 hw9 HS9 Hst HL HG1 Hnz
        go_wp2_with fail
        go_loopw [88] (fun x wi => ∃ t : Nat, t ≤ n ∧ x = .int .i64 (t : Nat) ∧ wc.grownBy wi (some G) ∧ wi.heap[G]? = some (.cells (bytesV ((List.range (n * 32)).map (accL s.data.toList l i t))).toArray 102 (0, 0))) (fun x _ => n - (intOf x).toNat)
        case atStart => exact ⟨0, by omega, rfl, World.grownBy.refl _ _, HLc.out⟩
        case round =>
          clear HLc
          obtain ⟨t, ht, rfl, hGi, hLi⟩ := hrel
          have HGi := Lib.hid hGi
          have HLi := Lib.hid hLi
          clear hGi hLi
          by_cases hlt2 : t < n
          · have HOi := Lib.hid (gb_own HGi.out HOc.out hgqG)
            have HFi := Lib.hid (gb_field HGi.out HFc.out hgG)
            have HRi := Lib.hid (gb_heap HGi.out HRc.out hGrG)
            have cq := (own_cell HOi.out (i := t) hlt2 (nums_get q t (by rw [← Hqn.out]; exact hlt2))).1
            have Hst3 := Lib.hid (fun j => Hst2.out t j hlt2)
            generalize q.getD t 0 = d at cq Hst3
            go_wp2_with fail
            refine (mul_dig d sc _ g HFi.out).mono ?_
            rintro e w12 ⟨rfl, hb12⟩
            have HF12 := Lib.hid (HFi.out.keep hb12)
            have HR12 := Lib.hid (cells_below HRi.out hb12)
            have HL12 := Lib.hid (cells_below HLi.out hb12)
            have HG12 := Lib.hid (gb_next HGi.out hb12)
            clear hb12 cq HOi HFi HRi HLi HGi
            generalize gm d sc = wt at Hst3 ⊢
            have Hsz := Lib.hid (line_size res Hres.out)
            go_wp2_with (refine wpList_load_row (by rfl) 102 (.tmp 17) (by rfl) Gr (by rfl) 102 (bytesV res).toArray (0, 0) _ HR12.out Tryz.underlying102 rfl Hsz.out ?_)
            refine (text_line res _ Hres.out).mono ?_
            rintro e w13 ⟨rfl, hb13⟩
            have HF13 := Lib.hid (HF12.out.keep hb13)
            have HL13 := Lib.hid (cells_below HL12.out hb13)
            have HG13 := Lib.hid (gb_next HG12.out hb13)
            clear hb13 HF12 HR12 HL12 HG12
            go_wp2_with fail
            refine (bytes_dig wt (bs res) _ g HF13.out (by rw [bs_size, Hres.out]; omega)).mono ?_
            rintro e w14 ⟨rfl, hb14⟩
            rw [bs_data]
            have HL14 := Lib.hid (cells_below HL13.out hb14)
            have HG14 := Lib.hid (gb_next HG13.out hb14)
            clear hb14 HF13 HL13 HG13
            have Hpl := Lib.hid (show (bs (res.map (gm wt))).size = 32 by rw [bs_size, List.length_map, Hres.out])
            have Hpj := Lib.hid (show ∀ j, j < 32 → (res.map (gm wt)).getD j 0 = gm wt (res.getD j 0) from fun j hj => by
              have hj2 : j < res.length := by rw [Hres.out]; exact hj
              rw [getD_at _ j (by simpa using hj2), getD_at _ j hj2, List.getElem_map])
            generalize res.map (gm wt) = part at Hpl Hpj ⊢
            obtain ⟨row, hrow⟩ : ∃ row, row = (List.range 32).map fun j => accL s.data.toList l i t (t * 32 + j) := ⟨_, rfl⟩
            have hrl : row.length = 32 := by rw [hrow]; simp
            have Hrg := Lib.hid (show w14.rangeAt G (t * 32) (bytesV row) by
              have := World.rangeAt_of_block HL14.out (t * 32) 32
              rw [line_of _ n t hlt2, ← hrow] at this
              exact this)
            have Hrl := Lib.hid hrl
            have Hrz := Lib.hid (show (Tryz.prog.info? 102).map (·.size) = some (bytesV row).length by have := line_size row hrl; rw [List.size_toArray] at this; exact this)
            have Hrow := Lib.hid hrow
            clear hrow hrl
            go_wp2_with (refine wpList_load_mid (by rfl) 102 (.tmp 112) (by rfl) G (t * 32) (by rfl) (bytesV row) _ (by exact Hrg.out) Tryz.underlying102 rfl Hrz.out ?_)
            refine (plus_line row (bs part) _ Hrl.out Hpl.out).mono ?_
            rintro e w15 ⟨rfl, hb15⟩
            rw [bs_data]
            have HL15 := Lib.hid (cells_below HL14.out hb15)
            have HG15 := Lib.hid (gb_next HG14.out hb15)
            have Hnl := Lib.hid (show (addP row part).length = 32 by have := Hpl.out; rw [bs_size] at this; rw [addP, List.length_zipWith, Hrl.out, this]; rfl)
            have Hnew := Lib.hid (show ∀ j, j < 32 → (addP row part).getD j 0 = accL s.data.toList l i (t + 1) (t * 32 + j) from fun j hj => by
              have h1 : j < row.length := by rw [Hrl.out]; exact hj
              have h2 : j < part.length := by have := Hpl.out; rw [bs_size] at this; omega
              rw [addP, getD_at _ j (by rw [List.length_zipWith]; omega), List.getElem_zipWith, ← getD_at row j h1, ← getD_at part j h2, Hpj.out j hj, Hresj.out j hj, Hrow.out, getD_at _ j (by simpa using hj)]
              simp only [List.getElem_map, List.getElem_range]
              rw [accL, accL, if_neg (by omega), if_pos (by omega), show (t * 32 + j) / 32 = t by omega, show (t * 32 + j) % 32 = j by omega, Hst3.out])
            clear hb15 HL14 HG14 Hrg Hrz Hrow Hpj
            generalize addP row part = nrow at Hnl Hnew ⊢
            have Hnz := Lib.hid (line_size nrow Hnl.out)
            have Hn1 := Lib.hid (bytesV_one' nrow)
            have Hth := Lib.hid (there_mid HL15.out (o := t * 32) (n := (bytesV nrow).toArray.size) (by rw [List.size_toArray, List.size_toArray, bytesV_length, bytesV_length, Hnl.out]; simp; omega))
            have HL16 := Lib.hid (set_line HL15.out hlt2 Hnl.out Hnew.out (fun p hp => by
              rw [accL, accL]
              by_cases c : p / 32 < t
              · rw [if_pos c, if_pos (by omega)]
              · rw [if_neg c, if_neg (by omega)]))
            have HG16 := Lib.hid (setCells_gb HG15.out (o := t * 32) (bytesV nrow))
            go_wp2_with (refine wpList_store_mid (by rfl) 102 (.tmp 116) (.tmp 115) (by rfl) G (t * 32) (bytesV nrow).toArray (by rfl) (by rfl) Hth.out Hnz.out Hn1.out ?_)
            go_roundw
            case rel => exact ⟨t + 1, by omega, by go_num, HG16.out, HL16.out⟩
            case measure => simp [intOf]; omega
          · obtain rfl : t = n := by omega
            rw [show (List.range (t * 32)).map (accL s.data.toList l i t) = (List.range (t * 32)).map (accL s.data.toList l (i + 1) 0) from List.map_congr_left fun p hp => by
              have hp' : p < t * 32 := by simpa using hp
              have e := HN.out
              rw [e] at hp' ⊢
              exact accL_next _ _ _ _ hp'] at HLi
            have HGn := Lib.hid (gbb_trans HGc.out HGi.out)
            clear HGi HGc
            go_wp2_with fail
            go_roundw
            case rel => exact ⟨i + 1, by omega, by go_num, HGn.out, HLi.out⟩
            case measure => simp [intOf]; omega
    · obtain rfl : i = n := by omega
      rw [show (List.range (i * 32)).map (accL s.data.toList l i 0) = tapeOut s.data.toList l by rw [HN.out]; exact accL_end _ _] at HL
      have HW : Hid (Below w.heap.size w wr) := Lib.hid (HW5.out.trans (grownBy_below' HG1.out hGB HW5.out.size))
      have Htl := Lib.hid (show (tapeOut s.data.toList l).length = i * 32 by rw [HN.out]; simp [tapeOut])
      obtain ⟨T, hTe⟩ : ∃ T, T = tapeOut s.data.toList l := ⟨_, rfl⟩
      rw [← hTe] at HL Htl
      have HTe := Lib.hid hTe
      clear hTe
      clear HG1 HF5 HOz5 HW5
      go_wp2_with fail
      go_loopw [24, 121] (fun v x wi => ∃ (t cap : Nat) (A : Option Addr), t ≤ i ∧ x = .int .i64 (t : Nat) ∧ v = .slice A (t * 32) cap ∧ wi.ownsRow w.heap.size 5 1 v (t * 32) (bytesV (T.take (t * 32))) ∧ (∀ b off, A = some ⟨b, off, none⟩ → b ≠ G) ∧ wi.heap[G]? = some (.cells (bytesV T).toArray 102 (0, 0)) ∧ Below w.heap.size w wi) (fun _ x _ => i - (intOf x).toNat)
      case atStart => exact ⟨0, 0, none, by omega, rfl, by simp, ⟨by simp [bytesV], .inl ⟨rfl, by simp⟩⟩, by simp, HL.out, HW.out⟩
      case round =>
        clear HL HW
        obtain ⟨t, cap, A, ht, rfl, rfl, ho, hAG, hL, hW⟩ := hrel
        have HO := Lib.hid ho
        have HAG := Lib.hid hAG
        have HL := Lib.hid hL
        have HW := Lib.hid hW
        clear ho hAG hL hW
        by_cases hlt : t < i
        · obtain ⟨row, hrow⟩ : ∃ row, row = (T.drop (t * 32)).take 32 := ⟨_, rfl⟩
          have hrl : row.length = 32 := by rw [hrow, List.length_take, List.length_drop, Htl.out]; omega
          have Hrg := Lib.hid (show wr.rangeAt G (t * 32) (bytesV row) by
            have := World.rangeAt_of_block HL.out (t * 32) 32
            rw [show ((bytesV T).toArray.extract (t * 32) (t * 32 + 32)).toList = bytesV row by rw [hrow]; simp [bytesV, List.map_take, List.map_drop]] at this
            exact this)
          have Hnx := Lib.hid (show T.take ((t + 1) * 32) = T.take (t * 32) ++ row by rw [hrow, Nat.succ_mul, List.take_add])
          have Hrl := Lib.hid hrl
          have Hrz := Lib.hid (line_size row hrl)
          have Hr1 := Lib.hid (bytesV_one' row)
          have Hs0 := Lib.hid (show (bytesV row).toArray.size = zeroLine.size by rw [List.size_toArray, bytesV_length, hrl]; rfl)
          clear hrow hrl
          go_wp2_with (first
            | (refine wpList_load_mid (by rfl) 102 (.tmp 123) (by rfl) G (t * 32) (by rfl) (bytesV row) _ (by exact Hrg.out) Tryz.underlying102 rfl (by have := Hrz.out; rw [List.size_toArray] at this; exact this) ?_)
            | (refine wpList_store_whole (by rfl) 102 (.tmp 26) (.tmp 124) (by rfl) wr.heap.size (bytesV row).toArray (by rfl) (by rfl) zeroLine 102 (by exact heap_alloc_new wr _) (by exact Hs0.out) Hrz.out Hr1.out ?_))
          intro w7 hR7 hG7
          have hb7 : Below wr.heap.size wr w7 := ((Below.refl _ _).alloc (Nat.le_refl _) _).trans (grownBy_below' hG7 (Nat.le_refl _) (by simp))
          have HR7 := Lib.hid hR7
          have HO7 := Lib.hid (own_keep HO.out hb7)
          have HL7 := Lib.hid (cells_below HL.out hb7)
          have HW7 := Lib.hid (Below.chain HW.out hb7)
          have hGw : G < w7.heap.size := cell_lt_of HL7.out
          have hGr : G < wr.heap.size := cell_lt_of HL.out
          have Hrd := Lib.hid (show Rd w7 (some ⟨wr.heap.size, 0, none⟩) (bytesV row) from fun j u hu => ⟨_, _, rfl, by
            unfold World.cell?
            simp only [HR7.out]
            rw [Nat.zero_add]
            simpa using hu⟩)
          clear hR7 hG7 hb7 HO HL HW HR7
          have htb : t * 32 ≤ 100000 := by omega
          go_wp2_with (refine wpList_append_from (by rfl) (.tmp 125) (.tmp 126) 64 (by rfl) w.heap.size 5 (.int .u8 0) 1 1 Tryz.underlying64 uint8_info rfl (by omega) w7 (bytesV row) _ (t * 32) _ (by rfl) HO7.out ⟨wr.heap.size, 0, none⟩ 32 32 (by rfl) (by exact Hrd.out) (by rw [bytesV_length, Hrl.out]) (fun u hu => List.all_eq_true.1 (bytesV_one row) u hu) (by omega) (by omega) (by omega) (by exact HW7.out.size) ?_)
          intro g2 cap2 w8 ho8 hb8 hk8 hat8 hlt8
          rw [← bytesV_append, ← Hnx.out] at ho8
          have HO8 := Lib.hid ho8
          have HL8 := Lib.hid ((hk8 G hGw (fun e => by
            cases A with
            | none => cases e
            | some a =>
              have h3 : a.spot = none := by
                rcases HO7.out.2 with ⟨e1, _⟩ | ⟨_, _, _, e1, _⟩
                · cases e1
                · injection e1 with e1
                  injection e1 with e1
                  rw [e1]
              have h4 := HAG.out a.block a.off (by rw [← h3])
              injection e with e
              exact h4 e.symm)).trans HL7.out)
          have HG2 : Hid (g2 ≠ G) := Lib.hid (by
            rcases hat8 with h | h
            · cases A with
              | none => cases h
              | some a =>
                have h3 : a.spot = none := by
                  rcases HO7.out.2 with ⟨e1, _⟩ | ⟨_, _, _, e1, _⟩
                  · cases e1
                  · injection e1 with e1
                    injection e1 with e1
                    rw [e1]
                have h4 := HAG.out a.block a.off (by rw [← h3])
                injection h with h
                intro e
                exact h4 (h.trans e)
            · omega)
          have HW8 := Lib.hid (HW7.out.trans hb8)
          clear ho8 hb8 hk8 hat8 hlt8 HO7 HL7 HW7 Hrd HAG
          obtain ⟨T2, hT2⟩ : ∃ T2, T2 = t * 32 + 32 := ⟨_, rfl⟩
          rw [← hT2] at HO8 ⊢
          have HT2 := Lib.hid hT2
          clear hT2
          go_wp2_with fail
          go_roundw
          case rel =>
            refine ⟨t + 1, cap2, some ⟨g2, 0, none⟩, by omega, by go_num, by rw [HT2.out, Nat.succ_mul], ?_, fun b off e => ?_, HL8.out, HW8.out⟩
            · have := HO8.out
              rw [HT2.out, ← Nat.succ_mul] at this
              rw [HT2.out, ← Nat.succ_mul]
              exact this
            · injection e with e
              injection e with e
              rw [← e]
              exact HG2.out
          case measure => simp [intOf]; omega
        · obtain rfl : t = i := by omega
          have hta : T.take (t * 32) = T := List.take_of_length_le (by rw [Htl.out]; exact Nat.le_refl _)
          rw [hta] at HO
          clear hta
          obtain ⟨a, rfl⟩ : ∃ a, A = some a := by
            rcases HO.out.2 with ⟨e1, e2⟩ | ⟨g1, _, _, e1, _⟩
            · omega
            · injection e1 with e1
              exact ⟨_, e1⟩
          have hcv := conv_rd (own_rd HO.out) cap (t * 32) Htl.out.symm
          go_wp2_with fail
          go_ret2
          exact ⟨by rw [← HTe.out]; rfl, HW.out⟩
end Go.Proofs.YtkldllnlakaehaaGreatDoor
