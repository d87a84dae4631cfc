/-
  Contracts of share.At and share.Combine.
-/
import Derived.Test.YtkbjmmigjjdfpaaGreatDoorWe
import Derived.Test.YtkbjmmigjjdfpaaGreatDoorShr
namespace Go.Proofs.YtkbjmmigjjdfpaaGreatDoor
open Go.RowKit
set_option linter.unusedVariables false
set_option maxRecDepth 100000
set_option maxHeartbeats 1000000

/-- The sum's bytes, i shares done. -/
def sumTo (l : List Shr) (x : UInt8) (i : Nat) : List UInt8 := (List.range 32).map fun j => sumX ((List.range i).map fun q => gm ((weightsL (xsOf l) x).getD q 0) ((ysOf l j).getD q 0))
/-- What a share at x has. -/
def atL (l : List Shr) (x : UInt8) : List UInt8 := (List.range 32).map fun j => atP (xsOf l) (ysOf l j) x
theorem sumTo_len (l : List Shr) (x : UInt8) (i : Nat) : (sumTo l x i).length = 32 := by simp [sumTo]
theorem sumX_snoc (l : List UInt8) (a : UInt8) : sumX (l ++ [a]) = sumX l ^^^ a := by simp [sumX, List.foldl_append]
theorem sumTo_step (l : List Shr) (x : UInt8) (i : Nat) (hi : i < l.length) (h32 : l[i].2.size = 32) : addP (sumTo l x i) (l[i].2.data.toList.map (gm ((weightsL (xsOf l) x).getD i 0))) = sumTo l x (i + 1) := by
  apply List.ext_getElem
  · simp [addP, sumTo, h32]
  · intro j h1 h2
    have hj : j < 32 := by simpa [sumTo] using h2
    simp only [addP, sumTo, List.getElem_zipWith, List.getElem_map, List.getElem_range]
    rw [show List.range (i + 1) = List.range i ++ [i] from List.range_succ, List.map_append, List.map_cons, List.map_nil, sumX_snoc]
    congr 2
    have hsz : j < l[i].2.data.size := by have e : l[i].2.data.size = l[i].2.size := rfl; omega
    simp [ysOf, hi]
    rw [Array.getElem?_eq_getElem hsz]
    rfl
theorem sumTo_all (l : List Shr) (x : UInt8) : sumTo l x l.length = atL l x := by
  apply List.map_congr_left
  intro j _
  rw [atP]
  have e : (xsOf l).length = l.length := by simp [xsOf]
  rw [e]
  congr 1
  apply List.map_congr_left
  intro q hq
  have hq : q < l.length := by simpa using hq
  congr 1
  rw [getD_at _ q (by rw [weightsL_len, e]; exact hq)]
  simp [weightsL]

theorem gb_own' {w w' : World} {G g B : Nat} {e : TypeId} {size n cap : Nat} {xs : List Value} (h : w.grownBy w' (some G)) (hk : w.ownsRow B e size (.slice (some ⟨g, 0, none⟩) n cap) n xs) (hne : g ≠ G) : w'.ownsRow B e size (.slice (some ⟨g, 0, none⟩) n cap) n xs := by
  refine ⟨hk.1, ?_⟩
  rcases hk.2 with hk | ⟨g1, cap1, cur, hv, hB, hg, hr⟩
  · exact .inl hk
  · have hv' := hv
    injection hv' with e1 e2 e3
    injection e1 with e1
    injection e1 with e1
    exact .inr ⟨g1, cap1, cur, hv, hB, gb_heap' h hg (by omega), hr⟩
theorem own_cell' {w : World} {B : Nat} {e : TypeId} {g n cap : Nat} {xs : List Value} (h : w.ownsRow B e 1 (.slice (some ⟨g, 0, none⟩) n cap) n xs) {i : Nat} (hi : i < n) {v : Value} (hv : xs[i]? = some v) : w.cell? ⟨g, i, none⟩ = some v ∧ w.frozen? ⟨g, i, none⟩ = false := by
  rcases h.2 with ⟨e1, _⟩ | ⟨g1, cap1, cur, e1, hB, hg, h1, h2, h3, h4⟩
  · cases e1
  · injection e1 with e1 e2 e3
    injection e1 with e1
    injection e1 with e1
    subst e1 e3
    rw [← h4, List.getElem?_take_of_lt (by omega), Array.getElem?_toList] at hv
    refine ⟨?_, ?_⟩
    · unfold World.cell?
      simp [hg, hv]
    · unfold World.frozen?
      simp [hg]
theorem nums_get' (l : List UInt8) (i : Nat) (h : i < l.length) : (ints (nums l))[i]? = some (dig (l.getD i 0)) := by simp [nums, ints, h]
theorem at_yes (l : List Shr) (x : UInt8) (A : Option Addr) (n c : Nat) (w : World) (hr : Rd w A (sharesV l)) (hn : n = l.length) (h : rightB l 0 = true) :
    Calls Tryz.prog 56 #[.slice A n c, dig x] w fun e w' => e = .returned (.tuple #[.string (bs (atL l x)), .int .i64 0]) ∧ Below w.heap.size w w' := by
  obtain ⟨q1, q2, q3, q4, q5, q6⟩ := right_digits h (by omega)
  have HR := Lib.hid hr
  have HN := Lib.hid hn
  have H1 := Lib.hid h
  have Hx := Lib.hid q1
  have H32 := Lib.hid q2
  have Hnd := Lib.hid q3
  have hn2 : n ≤ 255 := by omega
  have hxe : (xsOf l).length = l.length := by simp [xsOf]
  have Hxl := Lib.hid (show n = (xsOf l).length by rw [hn, hxe])
  have Hx1 := Lib.hid (show 1 ≤ (xsOf l).length by omega)
  have Hx2 := Lib.hid (show (xsOf l).length ≤ 255 by omega)
  clear hr hn h q1 q2 q3 q4 q5 q6 hxe
  go_enter Tryz.func56, Tryz.ntmps56
  go_wp2_with fail
  refine (right_any l 0 A n c _ HR.out HN.out (by omega)).mono ?_
  rintro e w1 ⟨rfl, hb1⟩
  rw [H1.out]
  go_wp2_with fail
  refine (places_any l A n c _ (HR.out.below hb1) HN.out (by rw [← HN.out]; omega)).mono ?_
  rintro e w2 ⟨gx, rfl, hox, hb2⟩
  rw [Hx.out] at hox
  have HOx := Lib.hid hox
  replace hb2 := Below.chain hb1 hb2
  clear hb1 hox
  go_wp2_with fail
  refine (weights_yes (xsOf l) x _ n n _ (own_rd HOx.out) Hxl.out Hx1.out Hx2.out Hnd.out).mono ?_
  rintro e w3 ⟨gw, rfl, how, hb3⟩
  have HOw := Lib.hid how
  replace hb3 := Below.chain hb2 hb3
  clear hb2 how HOx
  go_wp2_with fail
  refine (new_field _).mono ?_
  rintro e w4 ⟨g, rfl, hF, _, hb4⟩
  have HOw4 := Lib.hid (own_keep HOw.out hb4)
  have HF4 := Lib.hid hF
  replace hb4 := Below.chain hb3 hb4
  clear hb3 hF HOw
  go_wp2_with fail
  obtain ⟨G, hG⟩ : ∃ G, G = w4.heap.size := ⟨_, rfl⟩
  obtain ⟨w5, hw5⟩ : ∃ w5, w5 = w4.alloc (.cells zeroLine 141) := ⟨_, rfl⟩
  have h45 : Below w4.heap.size w4 w5 := by rw [hw5]; exact (Below.refl _ _).alloc (Nat.le_refl _) _
  have HL5 : Hid (w5.heap[G]? = some (.cells (bytesV (sumTo l x 0)).toArray 141 (0, 0))) := Lib.hid (by
    rw [show bytesV (sumTo l x 0) = bytesV (List.replicate 32 0) by simp [sumTo, sumX, List.map_const'], hw5, hG]
    exact heap_alloc_new w4 _)
  have HOw5 := Lib.hid (own_keep HOw4.out h45)
  have HF5 := Lib.hid (HF4.out.keep h45)
  have HW5 := Lib.hid (Below.chain hb4 h45)
  have hgG : g ≠ G := by have := HF4.out.lt; omega
  have hGB : w.heap.size ≤ G := by rw [hG]; exact hb4.size
  have hwG : gw ≠ G := by
    rcases HOw4.out.2 with ⟨e1, _⟩ | ⟨g1, _, _, e1, _, h3, _⟩
    · cases e1
    · injection e1 with e1
      injection e1 with e1
      injection e1 with e1
      have := cell_lt_of h3
      omega
  rw [← hG]
  have HGe := Lib.hid hG
  have HW5e := Lib.hid hw5
  clear hG hw5
  go_loopw [29] (fun v wr => ∃ i : Nat, i ≤ n ∧ v = .int .i64 (i : Nat) ∧ w5.grownBy wr (some G) ∧ wr.heap[G]? = some (.cells (bytesV (sumTo l x i)).toArray 141 (0, 0))) (fun v _ => n - (intOf v).toNat)
  case atStart => exact ⟨0, by omega, rfl, HW5e.out ▸ World.grownBy.refl _ _, HW5e.out ▸ HL5.out⟩
  case round =>
    clear HL5
    obtain ⟨i, hi, rfl, hG1, hL⟩ := hrel
    have HG1 := Lib.hid hG1
    have HL := Lib.hid hL
    clear hG1 hL
    have hW : Below w.heap.size w wr := HW5.out.trans (grownBy_below' HG1.out hGB HW5.out.size)
    by_cases hlt : i < n
    · have hil : i < l.length := by rw [← HN.out]; exact hlt
      obtain ⟨b, off, hA, c1, c2'⟩ := (HR.out.below hW).shr hil
      subst hA
      have HFr := Lib.hid (gb_field' HG1.out HF5.out hgG)
      have how := gb_own' HG1.out HOw5.out hwG
      have hwl : (weightsL (xsOf l) x).length = n := by rw [weightsL_len, ← Hxl.out]
      have cw := (own_cell' how (i := i) hlt (nums_get' _ _ (by rw [hwl]; exact hlt))).1
      have Hstep := Lib.hid (sumTo_step l x i hil (H32.out _ (List.getElem_mem hil)))
      have Hb32 := Lib.hid (H32.out _ (List.getElem_mem hil))
      generalize (weightsL (xsOf l) x).getD i 0 = wt at cw Hstep
      generalize l[i] = p at c1 c2' Hstep Hb32
      obtain ⟨X, bb⟩ := p
      simp only at c1 c2' Hstep Hb32
      obtain ⟨wa, hwa⟩ : ∃ wa, wa = wr.alloc (.cells #[.int .i64 X, .string bb] 43) := ⟨_, rfl⟩
      have hba : Below wr.heap.size wr wa := by rw [hwa]; exact (Below.refl _ _).alloc (Nat.le_refl _) _
      have hS : wa.heap[wr.heap.size]? = some (.cells #[.int .i64 X, .string bb] 43 (0, 0)) := by rw [hwa]; exact heap_alloc_new wr _
      have cwy : ∀ y : Later wa, y.x.cell? ⟨gw, i, none⟩ = some (dig wt) := fun y => y.cell ((hba.cell (cell_lt cw)).trans cw)
      have cby : ∀ y : Later wa, y.x.cell? ⟨wr.heap.size, 1, none⟩ = some (.string bb) := fun y => y.cell (two_cells hS).2.1
      have HC : Hid (∀ y : Later wa, Calls Tryz.prog 97 #[.pointer (some ⟨g, 0, none⟩), dig wt, .string bb] y.x fun e w' => e = .returned (.tuple #[.string (bs (bb.data.toList.map (gm wt))), .bool true]) ∧ ∃ z : Later wa, w' = z.x) :=
        Lib.hid fun y => later_call (bytes_dig wt bb y.x g ((HFr.out.keep hba).keep y.ok) (by rw [Hb32.out]; omega))
      have Hpl := Lib.hid (show (bs (bb.data.toList.map (gm wt))).size = 32 by rw [bs_size, List.length_map, len_data, Hb32.out])
      have Hpd := Lib.hid (show (bs (bb.data.toList.map (gm wt))).data.toList = bb.data.toList.map (gm wt) from rfl)
      generalize bs (bb.data.toList.map (gm wt)) = part at HC Hpl Hpd
      rw [← Hpd.out] at Hstep
      have hiI : (i : Int) < (n : Int) := by omega
      have HLa := Lib.hid (cells_below HL.out hba)
      have HGa := Lib.hid (gb_next' HG1.out hba)
      clear how cw hba hS hwl HL HG1 hW
      go_wp2_with fail
      rw [← hwa]
      refine wp_region_later (by kernel_rfl) (by kernel_rfl) ?_
      repeat (go_big_quiet_step (exact HC.out _))
      refine wpQuiet_nil ?_
      rintro _ ⟨y, rfl⟩
      have HLy := Lib.hid (cells_below HLa.out y.ok)
      have HGy := Lib.hid (gb_next' HGa.out y.ok)
      have hsl := sumTo_len l x i
      have Hsl := Lib.hid hsl
      have Hsz := Lib.hid (line_size _ hsl)
      generalize sumTo l x i = sm at HLy Hstep Hsl Hsz
      clear hsl cwy cby HLa HGa
      go_wp2_with (refine wpList_load_row (by rfl) 141 (.tmp 9) (by rfl) G (by rfl) 141 (bytesV sm).toArray (0, 0) _ HLy.out Tryz.underlying141 rfl Hsz.out ?_)
      refine (plus_line sm part _ Hsl.out Hpl.out).mono ?_
      rintro e w7 ⟨rfl, hb7⟩
      rw [Hstep.out]
      have HL7 := Lib.hid (cells_below HLy.out hb7)
      have HG7 := Lib.hid (gb_next' HGy.out hb7)
      have hs7 := sumTo_len l x (i + 1)
      have Hz7 := Lib.hid (line_size _ hs7)
      have H17 := Lib.hid (bytesV_one' (sumTo l x (i + 1)))
      have Hs0 := Lib.hid (show (bytesV (sumTo l x (i + 1))).toArray.size = (bytesV sm).toArray.size by rw [List.size_toArray, List.size_toArray, bytesV_length, bytesV_length, hs7, Hsl.out])
      clear hb7 HLy HGy hs7
      obtain ⟨sm2, hsm2⟩ : ∃ sm2, sm2 = sumTo l x (i + 1) := ⟨_, rfl⟩
      rw [← hsm2] at Hz7 H17 Hs0 ⊢
      have Hsm2 := Lib.hid hsm2
      clear hsm2
      go_wp2_with (refine wpList_store_whole (by rfl) 141 (.tmp 9) (.tmp 47) (by rfl) G (bytesV sm2).toArray (by rfl) (by rfl) _ 141 (by exact HL7.out) (by exact Hs0.out) Hz7.out H17.out ?_)
      intro w8 hR8 hG8
      have HR8 := Lib.hid hR8
      have HG8 := Lib.hid (gbb_trans HG7.out hG8)
      clear hR8 hG8
      go_wp2_with fail
      go_roundw
      case rel => exact ⟨i + 1, by omega, by go_num, HG8.out, by rw [← Hsm2.out]; exact HR8.out⟩
      case measure => simp [intOf]; omega
    · obtain rfl : i = n := by omega
      rw [HN.out, sumTo_all] at HL
      have hal : (atL l x).length = 32 := by simp [atL]
      have Hal := Lib.hid hal
      have Hsz := Lib.hid (line_size _ hal)
      have HW := Lib.hid hW
      obtain ⟨sm, hsm⟩ : ∃ sm, sm = atL l x := ⟨_, rfl⟩
      rw [← hsm] at HL Hal Hsz
      have Hsm := Lib.hid hsm
      clear hal hW hsm
      go_wp2_with (refine wpList_load_row (by rfl) 141 (.tmp 9) (by rfl) G (by rfl) 141 (bytesV sm).toArray (0, 0) _ HL.out Tryz.underlying141 rfl Hsz.out ?_)
      refine (text_line sm _ Hal.out).mono ?_
      rintro e w7 ⟨rfl, hb7⟩
      have hb := Below.chain HW.out hb7
      go_wp2_with fail
      go_ret2
      exact ⟨by rw [← Hsm.out]; rfl, hb⟩

theorem right_one {l : List Shr} (h : rightB l 1 = true) : rightB l 0 = true := by
  simp only [rightB, Bool.and_eq_true, List.all_eq_true] at h ⊢
  refine ⟨⟨h.1.1, fun p hp => ?_⟩, h.2⟩
  have := h.1.2 p hp
  simp [okS] at this ⊢
  omega
theorem combine_yes (l : List Shr) (A : Option Addr) (n c : Nat) (w : World) (hr : Rd w A (sharesV l)) (hn : n = l.length) (h : rightB l 1 = true) :
    Calls Tryz.prog 29 #[.slice A n c] w fun e w' => e = .returned (.tuple #[.string (bs (atL l 0)), .int .i64 0]) ∧ Below w.heap.size w w' := by
  have HR := Lib.hid hr
  have HN := Lib.hid hn
  have H := Lib.hid h
  clear hr hn h
  go_enter Tryz.func29, Tryz.ntmps29
  go_wp2_with fail
  refine (right_any l 1 A n c _ HR.out HN.out (by omega)).mono ?_
  rintro e w1 ⟨rfl, hb1⟩
  rw [H.out]
  go_wp2_with fail
  refine Calls.mono (by exact at_yes l 0 A n c _ (HR.out.below hb1) HN.out (right_one H.out)) ?_
  rintro e w2 ⟨rfl, hb2⟩
  have hb := Below.chain hb1 hb2
  go_wp2_with fail
  go_ret2
  exact ⟨rfl, hb⟩
theorem combine_no (l : List Shr) (A : Option Addr) (n c : Nat) (w : World) (hr : Rd w A (sharesV l)) (hn : n = l.length) (h : rightB l 1 = false) :
    Calls Tryz.prog 29 #[.slice A n c] w fun e w' => e = .returned (.tuple #[.string ⟨#[]⟩, .int .i64 90]) ∧ Below w.heap.size w w' := by
  have HR := Lib.hid hr
  have HN := Lib.hid hn
  have H := Lib.hid h
  clear hr hn h
  go_enter Tryz.func29, Tryz.ntmps29
  go_wp2_with fail
  refine (right_any l 1 A n c _ HR.out HN.out (by omega)).mono ?_
  rintro e w1 ⟨rfl, hb1⟩
  rw [H.out]
  go_wp2_with fail
  go_ret2
  exact ⟨rfl, hb1⟩
end Go.Proofs.YtkbjmmigjjdfpaaGreatDoor
