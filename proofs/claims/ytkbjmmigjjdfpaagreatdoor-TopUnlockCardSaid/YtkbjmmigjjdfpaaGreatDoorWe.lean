/-
  Contracts of poly.right, field.Div, poly.Weights, at digits no two of which are the same.
  Contract of poly.Weights.
  Contract of poly.Weights, whole.
-/
import Derived.Test.YtkbjmmigjjdfpaaGreatDoorRight
import Derived.Test.YtkbjmmigjjdfpaaGreatDoorPa
import Derived.Maps.OwnSet
import Derived.Maps.OwnOps
import Derived.Maps.Views
namespace Go.Proofs.YtkbjmmigjjdfpaaGreatDoor
/- Weights -/
open Go.RowKit Go.Maps Go.WideMaps
set_option linter.unusedVariables false
set_option maxRecDepth 100000
set_option maxHeartbeats 2000000

theorem int_law : Keyed Tryz.prog 3 := int_keyed Tryz.underlying3
/-- The map that poly.right makes, k elements put. -/
def placeM (xs : List UInt8) : Nat → DataW Unit
  | 0 => .map []
  | k + 1 => (placeM xs k).put (.int .i64 ((xs.getD k 0).toNat : Int)) (.lit (.int .i64 (k : Int)))
theorem placeM_ok (xs : List UInt8) (hn : xs.Nodup) : ∀ k, k ≤ xs.length → Tidy (placeM xs k) ∧ Maps.size (placeM xs k) = k ∧ ∀ a : UInt8, a ∉ xs.take k → Maps.has (placeM xs k) (.int .i64 (a.toNat : Int)) = false
  | 0, _ => ⟨tidy_empty, rfl, fun a _ => rfl⟩
  | k + 1, hk => by
    obtain ⟨h1, h2, h3⟩ := placeM_ok xs hn k (by omega)
    have hx : xs.getD k 0 = xs[k] := getD_at xs k (by omega)
    have hnot : xs.getD k 0 ∉ xs.take k := by
      rw [hx]
      intro hm
      obtain ⟨j, hj, e⟩ := List.mem_iff_getElem.1 hm
      rw [List.getElem_take] at e
      have hjk : j < k := by
        have := hj
        simp at this
        omega
      exact (List.pairwise_iff_getElem.1 hn j k (by omega) (by omega) hjk) e
    refine ⟨h1.put (show WideAt.IsKeyLit (.int .i64 ((xs.getD k 0).toNat : Int)) from trivial) _, ?_, fun a ha => ?_⟩
    · rw [placeM, size_put h1, h3 _ hnot, h2]
      rfl
    · rw [List.take_succ_eq_append_getElem (by omega : k < xs.length), List.mem_append, not_or] at ha
      have hne : (Lit.int .i64 (a.toNat : Int)) ≠ .int .i64 ((xs.getD k 0).toNat : Int) := fun e => by
        injection e with _ e
        apply ha.2
        rw [hx] at e
        have : a = xs[k] := UInt8.toNat_inj.1 (by omega)
        rw [this]
        simp
      rw [placeM, has_put_other hne]
      exact h3 a ha.1

theorem small_wf (k : Nat) (h : k ≤ 1000000) : (Lit.int .i64 (k : Int)).wf = true := by
  have e : IntKind.i64.min = -9223372036854775808 := rfl
  have e2 : IntKind.i64.max = 9223372036854775807 := rfl
  simp [Lit.wf, e]
  omega
theorem dig_wf (a : UInt8) : (Lit.int .i64 (a.toNat : Int)).wf = true := small_wf _ (by have := a.toNat_lt; omega)

theorem pright_yes (xs : List UInt8) (A : Option Addr) (n c : Nat) (w : World) (hr : Rd w A (ints (nums xs))) (hn : n = xs.length) (h1 : 1 ≤ xs.length) (h2 : xs.length ≤ 255) (hnd : xs.Nodup) :
    Calls Tryz.prog 154 #[.slice A n c] w fun e w' => e = .returned (.bool true) ∧ Below w.heap.size w w' := by
  have HR := Lib.hid hr
  have HN := Lib.hid hn
  have HA := Lib.hid (nums_all xs)
  have HP := Lib.hid (placeM_ok xs hnd)
  have HN2 := Lib.hid (show n = (nums xs).length by rw [nums_len]; exact hn)
  have d1 : decide ((n : Int) < 1) = false := by simp; omega
  have d2 : decide ((255 : Int) < (n : Int)) = false := by simp; omega
  have hn2 : n ≤ 255 := by omega
  have hmm := @run_makeMap Tryz.prog
  clear hr hn hnd
  go_enter Tryz.func154, Tryz.ntmps154
  go_wp2_with fail
  refine (digits_any (nums xs) A n c _ HR.out HN2.out (by rw [nums_len]; omega)).mono ?_
  rintro e w1 ⟨rfl, rfl⟩
  rw [HA.out]
  go_wp2_with fail
  go_loopw [22] (fun i wr => ∃ k : Nat, k ≤ n ∧ i = .int .i64 (k : Nat) ∧ wr.ownsMap Tryz.prog 3 (plainElem Tryz.prog 3) w1.heap.size k (placeM xs k) ∧ Below w1.heap.size w1 wr) (fun i _ => n - (intOf i).toNat)
  case atStart => exact ⟨0, Nat.zero_le _, rfl, World.ownsMap_made _ _ _ _, (Below.refl _ _).alloc (Nat.le_refl _) _⟩
  case round =>
    obtain ⟨k, hk, rfl, hown, hnx⟩ := hrel
    by_cases hlt : k < n
    · have hkl : k < xs.length := by rw [← HN.out]; exact hlt
      obtain ⟨b, off, hA, hc⟩ := (HR.out.below hnx).int_at (i := k) (by rw [nums_len]; exact hkl)
      rw [nums_at xs k hkl] at hc
      subst hA
      have HM := Lib.hid (show placeM xs (k + 1) = (placeM xs k).put (.int .i64 ((xs.getD k 0).toNat : Int)) (.lit (.int .i64 (k : Int))) from rfl)
      generalize xs.getD k 0 = a at hc HM
      generalize placeM xs k = D at hown HM
      have hwk : (Lit.int .i64 (k : Int)).wf = true := small_wf k (by omega)
      go_wp2_with (first
        | (at_mapUpdate; refine wpList_mapUpdate_own _ rfl _ _ _ 252 rfl 3 3 int_law Tryz.underlying252 (plainElem (H := Unit) Tryz.prog 3) w1.heap.size k _ rfl hown (by unfold maxLen; omega) _ _ _ rfl rfl (keyOf_int_mk Tryz.underlying3 (dig_wf a)) _ [] (plainElem_int Tryz.underlying3 hwk) ?_; intro w2 hown2 hgrow2))
      have HO2 := Lib.hid hown2
      go_roundw
      case rel => exact ⟨k + 1, by omega, by go_num, by rw [HM.out]; exact HO2.out, hnx.trans (grownBy_below' hgrow2 (Nat.le_refl _) hnx.size)⟩
      case measure => simp [intOf]; omega
    · obtain rfl : k = n := by omega
      have hsz := (HP.out k (by rw [HN.out]; exact Nat.le_refl _)).2.1
      generalize placeM xs k = D at hown hsz
      go_wp2_with (first
        | (at_len; refine wpList_len_own _ rfl _ 252 rfl 3 3 Tryz.underlying252 _ w1.heap.size k _ rfl hown ?_))
      go_ret
      exact ⟨by simp, hnx⟩

theorem div_dig (a b : UInt8) (w : World) (g : Nat) (h : IsField w g) (hb : b ≠ 0) : Calls Tryz.prog 156 #[.pointer (some ⟨g, 0, none⟩), dig a, dig b] w fun e w' => e = .returned (.tuple #[dig (gm a (gi b)), .bool true]) ∧ Below w.heap.size w w' := by
  have H := Lib.hid h
  have HB := Lib.hid hb
  clear h hb
  go_enter Tryz.func156, Tryz.ntmps156
  go_wp2_with fail
  refine (inv_dig b _ g H.out HB.out).mono ?_
  rintro e w1 ⟨rfl, hb1⟩
  go_wp2_with fail
  refine (mul_dig a (gi b) _ g (H.out.keep hb1)).mono ?_
  rintro e w2 ⟨rfl, hb2⟩
  have hb := Below.chain hb1 hb2
  go_wp2_with fail
  go_ret2
  exact ⟨rfl, hb⟩

/-- The product of all but one, j of them looked at. -/
def skipTo (at' x : UInt8) (xs : List UInt8) (i : Nat) : Nat → UInt8
  | 0 => 1
  | j + 1 => if j = i then skipTo at' x xs i j else gm (skipTo at' x xs i j) (gm (x ^^^ xs.getD j 0) (gi (at' ^^^ xs.getD j 0)))
theorem skipTo_erase (at' x : UInt8) (xs : List UInt8) (i : Nat) : ∀ j, j ≤ xs.length → skipTo at' x xs i j = wP at' x ((xs.take j).eraseIdx i) 1
  | 0, _ => by simp [skipTo, wP]
  | j + 1, hj => by
    have ih := skipTo_erase at' x xs i j (by omega)
    have hlen : (xs.take j).length = j := by simp; omega
    rw [skipTo, List.take_succ_eq_append_getElem (by omega : j < xs.length)]
    by_cases e : j = i
    · subst e
      rw [if_pos rfl, ih, List.eraseIdx_append_of_length_le (by omega), hlen, Nat.sub_self]
      rw [List.eraseIdx_of_length_le (by omega)]
      simp
    · rw [if_neg e, ih, getD_at xs j (by omega)]
      by_cases c : i < j
      · rw [List.eraseIdx_append_of_lt_length (by omega), wP, wP, List.foldl_append]
        rfl
      · rw [List.eraseIdx_append_of_length_le (by omega), List.eraseIdx_of_length_le (by omega : (xs.take j).length ≤ i), List.eraseIdx_of_length_le (by simp; omega), wP, wP, List.foldl_append]
        rfl

theorem weights1_same (p o x at' : UInt8) (k : Int) (w : World) (g gk gi' gf gx ga : Nat) (hk : Box w gk 3 (.int .i64 (k - 1))) (hi : Box w gi' 3 (.int .i64 k)) (hne : gi' ≠ gk) (hkb : 0 ≤ k ∧ k ≤ 1000) :
    Calls Tryz.prog 155 #[dig p, dig o, .pointer (some ⟨gk, 0, none⟩), .pointer (some ⟨gi', 0, none⟩), .pointer (some ⟨gf, 0, none⟩), .pointer (some ⟨gx, 0, none⟩), .pointer (some ⟨ga, 0, none⟩)] w fun e w' => e = .returned (dig p) ∧ Box w' gk 3 (.int .i64 k) ∧ w.grownBy w' (some gk) := by
  have ck := one_cell hk
  have fk := box_free hk
  have ci := one_cell hi
  have Hk := Lib.hid (box_set hk (.int .i64 k))
  have hk1 : k - 1 + 1 = k := by omega
  obtain ⟨h0, h1⟩ := hkb
  clear hk hi
  go_enter Tryz.func155, Tryz.ntmps155
  go_wp2_with fail
  go_ret
  exact ⟨rfl, Hk.out, ⟨rfl, rfl, rfl, by simp, fun i hi hne => Below.heap_setCell _ _ _ _ (fun e => hne (by rw [e]))⟩⟩

/- Weights2 -/
open Go.RowKit
set_option linter.unusedVariables false
set_option maxRecDepth 100000
set_option maxHeartbeats 600000

theorem gb_next' {w w1 w2 : World} {r : Option Nat} (h : w.grownBy w1 r) (hb : Below w1.heap.size w1 w2) : w.grownBy w2 r :=
  ⟨hb.os.trans h.os, hb.tape.trans h.tape, hb.output.trans h.output, Nat.le_trans h.size hb.size, fun i hi hr => (hb.block i (Nat.lt_of_lt_of_le hi h.size)).trans (h.block i hi hr)⟩
theorem weights1_other (p o x at' : UInt8) (k i : Int) (w : World) (g gk gi' gf gx ga : Nat) (hk : Box w gk 3 (.int .i64 (k - 1))) (hi : Box w gi' 3 (.int .i64 i)) (hf : Box w gf 168 (.pointer (some ⟨g, 0, none⟩))) (hx : Box w gx 3 (dig x)) (ha : Box w ga 3 (dig at')) (hF : IsField w g)
    (hni : gi' ≠ gk) (hnf : gf ≠ gk) (hnx : gx ≠ gk) (hna : ga ≠ gk) (hng : g ≠ gk) (hkb : 0 ≤ k ∧ k ≤ 1000) (hki : k ≠ i) (hao : at' ≠ o) :
    Calls Tryz.prog 155 #[dig p, dig o, .pointer (some ⟨gk, 0, none⟩), .pointer (some ⟨gi', 0, none⟩), .pointer (some ⟨gf, 0, none⟩), .pointer (some ⟨gx, 0, none⟩), .pointer (some ⟨ga, 0, none⟩)] w fun e w' => e = .returned (dig (gm p (gm (x ^^^ o) (gi (at' ^^^ o))))) ∧ Box w' gk 3 (.int .i64 k) ∧ w.grownBy w' (some gk) := by
  obtain ⟨w1, hw1⟩ : ∃ w1, w1 = w.setCell ⟨gk, 0, none⟩ (.int .i64 k) := ⟨_, rfl⟩
  have kk : ∀ b o, w.heap[b]? = some o → b ≠ gk → w1.heap[b]? = some o := fun b o h hne => by rw [hw1]; exact (Below.heap_setCell _ _ _ _ hne).trans h
  have hf1 : Box w1 gf 168 (.pointer (some ⟨g, 0, none⟩)) := kk _ _ hf hnf
  have hx1 : Box w1 gx 3 (dig x) := kk _ _ hx hnx
  have ha1 : Box w1 ga 3 (dig at') := kk _ _ ha hna
  have hF1 : IsField w1 g := by
    obtain ⟨L, h1, h2⟩ := hF
    exact ⟨L, kk _ _ h1 hng, h2⟩
  have Hk1 := Lib.hid (show Box w1 gk 3 (.int .i64 k) by rw [hw1]; exact box_set hk _)
  have HG := Lib.hid (show w.grownBy w1 (some gk) by rw [hw1]; exact ⟨rfl, rfl, rfl, by simp, fun i hi hne => Below.heap_setCell _ _ _ _ (fun e => hne (by rw [e]))⟩)
  have ck := one_cell hk
  have fk := box_free hk
  have ci := one_cell hi
  have cf : ∀ y : Later w1, y.x.cell? ⟨gf, 0, none⟩ = some (.pointer (some ⟨g, 0, none⟩)) := fun y => y.cell (one_cell hf1)
  have cx : ∀ y : Later w1, y.x.cell? ⟨gx, 0, none⟩ = some (dig x) := fun y => y.cell (one_cell hx1)
  have ca : ∀ y : Later w1, y.x.cell? ⟨ga, 0, none⟩ = some (dig at') := fun y => y.cell (one_cell ha1)
  have H1 : Hid (∀ y : Later w1, Calls Tryz.prog 120 #[dig x, dig o] y.x fun e w' => e = .returned (dig (x ^^^ o)) ∧ ∃ z : Later w1, w' = z.x) := Lib.hid fun y => (padd_dig x o y.x).mono fun e w' ⟨h1, h2⟩ => ⟨h1, y, h2⟩
  have H2 : Hid (∀ y : Later w1, Calls Tryz.prog 120 #[dig at', dig o] y.x fun e w' => e = .returned (dig (at' ^^^ o)) ∧ ∃ z : Later w1, w' = z.x) := Lib.hid fun y => (padd_dig at' o y.x).mono fun e w' ⟨h1, h2⟩ => ⟨h1, y, h2⟩
  have H3 : Hid (∀ y : Later w1, Calls Tryz.prog 156 #[.pointer (some ⟨g, 0, none⟩), dig (x ^^^ o), dig (at' ^^^ o)] y.x fun e w' => e = .returned (.tuple #[dig (gm (x ^^^ o) (gi (at' ^^^ o))), .bool true]) ∧ ∃ z : Later w1, w' = z.x) :=
    Lib.hid fun y => later_call (div_dig _ _ y.x g (hF1.keep y.ok) (x_ne hao))
  have HF1 := Lib.hid hF1
  have hk1 : k - 1 + 1 = k := by omega
  have eki : (k == i) = false := by simpa using hki
  obtain ⟨h0, h1⟩ := hkb
  have Hf1 := Lib.hid hf1
  clear hk hi hf hx ha hF hf1 hx1 ha1 hF1 kk hki
  generalize x ^^^ o = xo at H1 H3 ⊢
  generalize at' ^^^ o = ao at H2 H3 ⊢
  generalize gm xo (gi ao) = qq at H3 ⊢
  go_enter Tryz.func155, Tryz.ntmps155
  go_wp2_with fail
  rw [← hw1]
  refine wp_region_later (by kernel_rfl) (by kernel_rfl) ?_
  repeat (go_big_quiet_step (first | with_reducible exact H1.out _ | with_reducible exact H2.out _ | with_reducible exact H3.out _))
  refine wpQuiet_nil ?_
  rintro _ ⟨y, rfl⟩
  have cfy := cf y
  go_wp2_with fail
  refine (pmul_dig p qq _ g (HF1.out.keep y.ok)).mono ?_
  rintro e w2 ⟨rfl, hb2⟩
  have hb := Below.chain y.ok hb2
  go_wp2_with fail
  go_ret
  exact ⟨rfl, cells_below Hk1.out hb, gb_next' HG.out hb⟩

/- Weights3 -/
open Go.RowKit
set_option linter.unusedVariables false
set_option maxRecDepth 100000
set_option maxHeartbeats 1000000

theorem gb_rd' {w w' : World} {G : Nat} {A : Option Addr} {xs : List Value} (h : w.grownBy w' (some G)) (hr : Rd w A xs) (hne : ∀ b off, A = some ⟨b, off, none⟩ → b ≠ G) : Rd w' A xs := by
  intro i u hu
  obtain ⟨b, off, hA, hc⟩ := hr i u hu
  refine ⟨b, off, hA, ?_⟩
  have := h.block b (cell_lt hc) (fun e => by injection e with e; exact hne b off hA e)
  unfold World.cell? at hc ⊢
  rw [this]
  exact hc
theorem gb_heap' {w w' : World} {G k : Nat} {o : Obj} (h : w.grownBy w' (some G)) (hk : w.heap[k]? = some o) (hne : k ≠ G) : w'.heap[k]? = some o :=
  (h.block k (cell_lt_of hk) (fun e => by injection e; omega)).trans hk
theorem gb_field' {w w' : World} {G g : Nat} (h : w.grownBy w' (some G)) (hk : IsField w g) (hne : g ≠ G) : IsField w' g := by
  obtain ⟨L, h1, h2⟩ := hk
  exact ⟨L, gb_heap' h h1 hne, h2⟩

theorem weights_fold (xs : List UInt8) (x : UInt8) (i : Nat) (A : Option Addr) (n c : Nat) (w : World) (g gk gi' gf gx ga : Nat) (hr : Rd w A (ints (nums xs))) (hn : n = xs.length) (hl : xs.length ≤ 255) (hnd : xs.Nodup) (hil : i < xs.length)
    (hk : Box w gk 3 (.int .i64 (-1))) (hi : Box w gi' 3 (.int .i64 (i : Int))) (hf : Box w gf 168 (.pointer (some ⟨g, 0, none⟩))) (hx : Box w gx 3 (dig x)) (ha : Box w ga 3 (dig (xs.getD i 0))) (hF : IsField w g)
    (hni : gi' ≠ gk) (hnf : gf ≠ gk) (hnx : gx ≠ gk) (hna : ga ≠ gk) (hng : g ≠ gk) (hnA : ∀ b off, A = some ⟨b, off, none⟩ → b ≠ gk) :
    Calls Tryz.prog 118 #[.slice A n c, .int .i64 1, .func (.func 155) #[] #[.pointer (some ⟨gk, 0, none⟩), .pointer (some ⟨gi', 0, none⟩), .pointer (some ⟨gf, 0, none⟩), .pointer (some ⟨gx, 0, none⟩), .pointer (some ⟨ga, 0, none⟩)]] w fun e w' => e = .returned (dig (wP (xs.getD i 0) x (xs.eraseIdx i) 1)) ∧ w.grownBy w' (some gk) := by
  refine (fold_ii (nums xs) A n c (.int .i64 1) 155 _ w (fun k v W => k ≤ xs.length ∧ v = dig (skipTo (xs.getD i 0) x xs i k) ∧ Box W gk 3 (.int .i64 ((k : Int) - 1)) ∧ w.grownBy W (some gk)) (by rw [nums_len]; exact hn) (by rw [nums_len]; omega) (enters_of Tryz.func155 (by kernel_rfl) rfl) ⟨by omega, rfl, by rw [show ((0 : Nat) : Int) - 1 = -1 from rfl]; exact hk, World.grownBy.refl _ _⟩ (fun k v W h => gb_rd' h.2.2.2 hr hnA) ?_).mono ?_
  · rintro k v W hkl ⟨_, rfl, hb, hG⟩
    have hkl' : k < xs.length := by rw [nums_len] at hkl; exact hkl
    rw [nums_at xs k hkl']
    by_cases e : k = i
    · subst e
      refine (weights1_same _ (xs.getD k 0) x (xs.getD k 0) (k : Int) W g gk gi' gf gx ga hb (gb_heap' hG hi hni) hni ⟨by omega, by omega⟩).mono ?_
      rintro e w' ⟨rfl, hb', hG'⟩
      exact ⟨_, rfl, by omega, by rw [skipTo, if_pos rfl], by rw [show ((k + 1 : Nat) : Int) - 1 = (k : Int) by omega]; exact hb', gbb_trans hG hG'⟩
    · have hne : xs.getD i 0 ≠ xs.getD k 0 := by
        rw [getD_at xs i hil, getD_at xs k hkl']
        rcases Nat.lt_or_gt_of_ne e with h | h
        · exact fun e2 => (List.pairwise_iff_getElem.1 hnd k i hkl' hil h) e2.symm
        · exact List.pairwise_iff_getElem.1 hnd i k hil hkl' h
      refine (weights1_other _ (xs.getD k 0) x (xs.getD i 0) (k : Int) (i : Int) W g gk gi' gf gx ga hb (gb_heap' hG hi hni) (gb_heap' hG hf hnf) (gb_heap' hG hx hnx) (gb_heap' hG ha hna) (gb_field' hG hF hng) hni hnf hnx hna hng ⟨by omega, by omega⟩ (by omega) hne).mono ?_
      rintro e' w' ⟨rfl, hb', hG'⟩
      exact ⟨_, rfl, by omega, by rw [skipTo, if_neg e], by rw [show ((k + 1 : Nat) : Int) - 1 = (k : Int) by omega]; exact hb', gbb_trans hG hG'⟩
  · rintro e w' ⟨v, rfl, _, rfl, _, hG⟩
    refine ⟨?_, hG⟩
    rw [nums_len, skipTo_erase _ _ _ _ _ (Nat.le_refl _), List.take_of_length_le (Nat.le_refl _)]

/-- How much each of xs counts at x. -/
def weightsL (xs : List UInt8) (x : UInt8) : List UInt8 := (List.range xs.length).map fun i => wP (xs.getD i 0) x (xs.eraseIdx i) 1
theorem weightsL_len (xs : List UInt8) (x : UInt8) : (weightsL xs x).length = xs.length := by simp [weightsL]

def weightsTo (xs : List UInt8) (x : UInt8) (i : Nat) : List UInt8 := (List.range xs.length).map fun j => if j < i then wP (xs.getD j 0) x (xs.eraseIdx j) 1 else 0
theorem weightsTo_len (xs : List UInt8) (x : UInt8) (i : Nat) : (weightsTo xs x i).length = xs.length := by simp [weightsTo]
theorem weightsTo_set (xs : List UInt8) (x : UInt8) (i : Nat) (hi : i < xs.length) : (weightsTo xs x i).set i (wP (xs.getD i 0) x (xs.eraseIdx i) 1) = weightsTo xs x (i + 1) := by
  apply List.ext_getElem
  · simp [weightsTo]
  · intro j h1 h2
    rw [List.getElem_set]
    simp only [weightsTo, List.getElem_map, List.getElem_range]
    by_cases e : i = j
    · subst e
      rw [if_pos rfl, if_pos (by omega)]
    · rw [if_neg e]
      by_cases e2 : j < i
      · rw [if_pos e2, if_pos (by omega)]
      · rw [if_neg e2, if_neg (by omega)]
theorem weightsTo_all (xs : List UInt8) (x : UInt8) : weightsTo xs x xs.length = weightsL xs x := by
  apply List.map_congr_left
  intro j hj
  rw [if_pos (by simpa using hj)]
theorem heap_new3 (w : World) (o o2 o3 : Obj) : (((w.alloc o).alloc o2).alloc o3).heap[w.heap.size + 1 + 1]? = some o3 := by
  have := heap_alloc_new ((w.alloc o).alloc o2) o3
  simpa using this
theorem keep1_set {W : World} {g i b o : Nat} {u v : Value} (h : W.cell? ⟨b, o, none⟩ = some v) (hne : b ≠ g) : (W.setCell ⟨g, i, none⟩ u).cell? ⟨b, o, none⟩ = some v := (World.cell?_setCell_other _ _ _ _ (fun e => hne (by injection e with e _; exact e.symm))).trans h
theorem gb_two {w w1 w2 : World} {G gk : Nat} (h : w.grownBy w1 (some G)) (h2 : w1.grownBy w2 (some gk)) (hk : w.heap.size ≤ gk) : w.grownBy w2 (some G) :=
  ⟨h2.os.trans h.os, h2.tape.trans h.tape, h2.output.trans h.output, Nat.le_trans h.size h2.size, fun i hi hr => (h2.block i (Nat.lt_of_lt_of_le hi h.size) (fun e => by injection e with e; omega)).trans (h.block i hi hr)⟩
theorem gb_cell {w w1 : World} {G : Nat} (h : w.grownBy w1 (some G)) (G' i : Nat) (v : Value) (e : G' = G := by rfl) : w.grownBy (w1.setCell ⟨G', i, none⟩ v) (some G) := by
  subst e
  exact ⟨h.os, h.tape, h.output, by simpa using h.size, fun k hk hne => (Below.heap_setCell _ _ _ _ (fun e => hne (by rw [e]))).trans (h.block k hk hne)⟩
theorem weights_yes (xs : List UInt8) (x : UInt8) (A : Option Addr) (n c : Nat) (w : World) (hr : Rd w A (ints (nums xs))) (hn : n = xs.length) (h1 : 1 ≤ xs.length) (h2 : xs.length ≤ 255) (hnd : xs.Nodup) :
    Calls Tryz.prog 94 #[.slice A n c, dig x] w fun e w' => ∃ G, e = .returned (.tuple #[.slice (some ⟨G, 0, none⟩) n n, .bool true]) ∧ w'.ownsRow w.heap.size 3 1 (.slice (some ⟨G, 0, none⟩) n n) n (ints (nums (weightsL xs x))) ∧ Below w.heap.size w w' := by
  have HR := Lib.hid hr
  have HN := Lib.hid hn
  have HL' := Lib.hid h2
  have HND := Lib.hid hnd
  have hn2 : n ≤ 255 := by omega
  have HX := Lib.hid (show [(x.toNat : Int)].all digB = true from nums_all [x])
  have hA : Hid (∀ b off, A = some ⟨b, off, none⟩ → b < w.heap.size) := Lib.hid fun b off e => by
    obtain ⟨b', off', e', hc⟩ := hr.int_at (i := 0) (by rw [nums_len]; omega)
    rw [e] at e'
    injection e' with e'
    injection e' with e'
    have := cell_lt hc
    simp only at this
    omega
  obtain ⟨iI, hI0, hI1, hI2, hI3⟩ := info_parts int_info
  clear hr hn hnd
  go_enter Tryz.func94, Tryz.ntmps94
  go_wp2_with fail
  refine (pright_yes xs A n c _ (HR.out.below ((Below.refl _ _).alloc (Nat.le_refl _) _)) HN.out h1 h2 HND.out).mono ?_
  rintro e w1 ⟨rfl, hb1⟩
  have bx1 := keep_one hb1
  replace hb1 := Below.chain_alloc (Below.refl _ _) hb1
  have cx := one_cell bx1
  have Bx1 := Lib.hid bx1
  clear bx1
  go_wp2_with fail
  refine (digits_any [(x.toNat : Int)] _ 1 1 _ (by exact rd_new' _ _ _ _ (by simp)) rfl (by simp)).mono ?_
  rintro e w2 ⟨rfl, rfl⟩
  rw [HX.out]
  go_wp2_with fail
  refine (new_field _).mono ?_
  rintro e w3 ⟨g, rfl, hF, _, hb3⟩
  have hb13 := Below.chain_alloc (Below.refl _ _) hb3
  have Bx3 := Lib.hid (cells_below Bx1.out hb13)
  replace hb3 := Below.chain hb1 hb13
  have HF3 := Lib.hid hF
  clear hb1 hb13 cx Bx1 hF
  obtain ⟨F0, hF0⟩ : ∃ F0, F0 = w3.heap.size := ⟨_, rfl⟩
  have hxlt := cell_lt_of Bx3.out
  have hglt := HF3.out.lt
  go_wp2_with (refine wpList_make_full _ (by rfl) (.tmp 22) (.tmp 22) 127 (by rfl) w.heap.size 3 iI (.int .i64 0) 1 Tryz.underlying127 hI0 hI1 hI2 .i64 .i64 _ _ n (by rfl) (by rfl) rfl rfl (by rw [hI3]; omega) (by unfold maxLen; omega) (by have := hb3.size; simp; omega) ?_)
  intro w5 ho5 hg5
  try simp only [Nat.mul_one] at ho5
  rw [made_ints, show List.replicate n (0 : Int) = nums (weightsTo xs x 0) by rw [HN.out]; simp [nums, weightsTo, List.map_const']] at ho5
  obtain ⟨w4, hw4⟩ : ∃ w4, w4 = w3.alloc (.cells #[.pointer (some ⟨g, 0, none⟩)] 168) := ⟨_, rfl⟩
  rw [← hw4] at hg5
  have h34 : Below w3.heap.size w3 w4 := by rw [hw4]; exact (Below.refl _ _).alloc (Nat.le_refl _) _
  have hb35 := Below.chain h34 (below_grown hg5 (Nat.le_refl _))
  have HF5 := Lib.hid (HF3.out.keep hb35)
  have Bx5 := Lib.hid (cells_below Bx3.out hb35)
  have Bf5 : Hid (Box w5 F0 168 (.pointer (some ⟨g, 0, none⟩))) := Lib.hid (cells_below (by rw [hw4, hF0]; exact heap_alloc_new w3 _) (below_grown hg5 (Nat.le_refl _)))
  have HW5 := Lib.hid (Below.chain hb3 hb35)
  rw [← hF0] at ho5 hxlt hglt ⊢
  obtain ⟨G, hG⟩ : ∃ G, G = F0 + 1 := ⟨_, rfl⟩
  rw [← hG] at ho5 ⊢
  have HO5 := Lib.hid (own_blk ho5).1
  have hGB := (own_blk ho5).2
  have hxG : w.heap.size ≠ G := by omega
  have hgG : g ≠ G := by omega
  have hfG : F0 ≠ G := by omega
  have hwF : w.heap.size < F0 := hxlt
  clear ho5 hg5 hw4 h34 hb35 HF3 Bx3 hb3 hF0 hG
  go_wp2_with fail
  go_loopw [26] (fun v wr => ∃ i : Nat, i ≤ n ∧ v = .int .i64 (i : Nat) ∧ w5.grownBy wr (some G) ∧ wr.heap[G]? = some (.cells (ints (nums (weightsTo xs x i))).toArray 3 (0, 0))) (fun v _ => n - (intOf v).toNat)
  case atStart => exact ⟨0, by omega, rfl, World.grownBy.refl _ _, HO5.out⟩
  case round =>
    clear HO5
    obtain ⟨i, hi, rfl, hG1, hL⟩ := hrel
    have HG1 := Lib.hid hG1
    have HL := Lib.hid hL
    clear hG1 hL
    by_cases hlt : i < n
    · have hil : i < xs.length := by rw [← HN.out]; exact hlt
      have hW : Below w.heap.size w wr := HW5.out.trans (grownBy_below' HG1.out hGB HW5.out.size)
      obtain ⟨b, off, hA', hc⟩ := (HR.out.below hW).int_at (i := i) (by rw [nums_len]; exact hil)
      rw [nums_at xs i hil] at hc
      subst hA'
      have HFr := Lib.hid (gb_field' HG1.out HF5.out hgG)
      have Bxr := Lib.hid (gb_heap' HG1.out Bx5.out hxG)
      have Bfr := Lib.hid (gb_heap' HG1.out Bf5.out hfG)
      have Hset := Lib.hid (weightsTo_set xs x i hil)
      have hGl := cell_lt_of HL.out
      have HLl := Lib.hid (weightsTo_len xs x i)
      have HWr := Lib.hid hW
      obtain ⟨a, hae⟩ : ∃ a, a = xs.getD i 0 := ⟨_, rfl⟩
      rw [← hae] at hc
      have Hae := Lib.hid hae
      clear hW hae
      go_wp2_with fail
      obtain ⟨w6, hw6⟩ : ∃ w6, w6 = ((wr.alloc (.cells #[.int .i64 (i : Int)] 3)).alloc (.cells #[dig a] 3)).alloc (.cells #[.int .i64 (-1)] 3) := ⟨_, rfl⟩
      have hb6 : Below wr.heap.size wr w6 := by rw [hw6]; exact (((Below.refl _ _).alloc (Nat.le_refl _) _).alloc (by simp) _).alloc (by simp; omega) _
      have bi6 : Box w6 wr.heap.size 3 (.int .i64 (i : Int)) := by
        rw [hw6]
        exact (Below.heap_alloc _ _ _ (by simp; omega)).trans ((Below.heap_alloc _ _ _ (by simp)).trans (heap_alloc_new wr _))
      have ba6 : Box w6 (wr.heap.size + 1) 3 (dig a) := by
        rw [hw6]
        exact (Below.heap_alloc _ _ _ (by simp)).trans (heap_new2 wr _ _)
      have bk6 : Box w6 (wr.heap.size + 1 + 1) 3 (.int .i64 (-1)) := by
        rw [hw6]
        exact heap_new3 wr _ _ _
      rw [← hw6]
      obtain ⟨gk, hgk⟩ : ∃ gk, gk = wr.heap.size + 1 + 1 := ⟨_, rfl⟩
      rw [← hgk] at bk6 ⊢
      have hgkG : G ≠ gk := by omega
      have hb9 : b < w.heap.size := hA.out b off rfl
      have hwr := HWr.out.size
      have hgr : g < wr.heap.size := HFr.out.lt
      have hfr : F0 < wr.heap.size := cell_lt_of Bfr.out
      have HC := Lib.hid (weights_fold xs x i (some ⟨b, off, none⟩) n c w6.drew g gk wr.heap.size F0 w.heap.size (wr.heap.size + 1) ((HR.out.below HWr.out).below hb6.drew) HN.out HL'.out HND.out hil bk6 bi6 (cells_below Bfr.out hb6.drew) (cells_below Bxr.out hb6.drew) (by rw [← Hae.out]; exact ba6) (HFr.out.keep hb6.drew) (by omega) (by omega) (by omega) (by omega) (by omega) (fun b' off' e => by injection e with e; injection e with e; omega))
      rw [← Hae.out] at HC Hset
      generalize wP a x (xs.eraseIdx i) 1 = wt at HC Hset
      have K6 : w6.drew.cell? ⟨wr.heap.size, 0, none⟩ = some (.int .i64 (i : Int)) := one_cell bi6
      have HL6 : Hid (w6.drew.heap[G]? = some (.cells (ints (nums (weightsTo xs x i))).toArray 3 (0, 0))) := Lib.hid (cells_below HL.out hb6.drew)
      have HG6 := Lib.hid (gb_next' HG1.out hb6.drew)
      have hn7 : wr.heap.size ≠ gk := by omega
      have hkge : wr.heap.size ≤ gk := by omega
      have hnG : wr.heap.size ≠ G := by omega
      have HL7 : Hid (∀ w7, w6.drew.grownBy w7 (some gk) → w7.heap[G]? = some (.cells (ints (nums (weightsTo xs x i))).toArray 3 (0, 0))) := Lib.hid fun w7 h => gb_heap' h HL6.out hgkG
      have HK7 : Hid (∀ w7, w6.drew.grownBy w7 (some gk) → w7.cell? ⟨wr.heap.size, 0, none⟩ = some (.int .i64 (i : Int))) := Lib.hid fun w7 h => one_cell (gb_heap' h (show w6.drew.heap[wr.heap.size]? = _ from bi6) hn7)
      have HC7 : Hid (∀ w7, w6.drew.grownBy w7 (some gk) → w7.cell? ⟨G, i, none⟩ = some (.int .i64 ((nums (weightsTo xs x i)).getD i 0)) ∧ w7.frozen? ⟨G, i, none⟩ = false) := Lib.hid fun w7 h => ints_cell (HL7.out w7 h) (by rw [nums_len, HLl.out]; exact hil)
      have hiI : (i : Int) < (n : Int) := by omega
      clear bi6 ba6 bk6 hw6 hc hgk
      go_region_held3 (fun w' => w'.cell? ⟨wr.heap.size, 0, none⟩ = some (.int .i64 (i : Int)))
        (first | assumption | exact keep1_set (by assumption) hnG)
        (first | (go_at_call 118; refine Calls.mono HC.out ?_; rintro e w7 ⟨rfl, hG7⟩; have K7 := HK7.out w7 hG7; obtain ⟨c7, f7⟩ := HC7.out w7 hG7))
      have e1 := ints_set (HL7.out w7 hG7) i (wt.toNat : Int)
      rw [show (nums (weightsTo xs x i)).set i (wt.toNat : Int) = nums (weightsTo xs x (i + 1)) by rw [← Hset.out]; simp [nums]] at e1
      have HE1 := Lib.hid e1
      have HE2 := Lib.hid (gb_cell (gb_two HG6.out hG7 (show w5.heap.size ≤ gk by have h2 := HG1.out.size; omega)) G i (.int .i64 (wt.toNat : Int)))
      clear e1 c7 f7 K7 hG7
      go_wp2_with fail
      go_roundw
      case rel => exact ⟨i + 1, by omega, by go_num, HE2.out, HE1.out⟩
      case measure => simp [intOf]; omega
    · obtain rfl : i = n := by omega
      rw [HN.out, weightsTo_all] at HL
      have HO := Lib.hid (blk_own HL.out hGB (show (ints (nums (weightsL xs x))).length = i * 1 by rw [HN.out]; simp [ints, nums, weightsL]) (by omega))
      have HW := Lib.hid (HW5.out.trans (grownBy_below' HG1.out hGB HW5.out.size))
      go_wp2_with fail
      go_ret2
      exact ⟨G, rfl, HO.out, HW.out⟩

end Go.Proofs.YtkbjmmigjjdfpaaGreatDoor
