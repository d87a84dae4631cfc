/-
  Contracts of poly.right, field.Div, poly.Weights, at digits no two of which are the same.
-/
import Derived.Test.YtidnlginjjgmjaaDoorRight
import Derived.Test.YtidnlginjjgmjaaDoorLagT
import Derived.Maps.OwnSet
import Derived.Maps.OwnOps
import Derived.Maps.Views
namespace Go.Proofs.YtidnlginjjgmjaaDoor
open Go.RowKit Go.Maps Go.WideMaps
set_option linter.unusedVariables false
set_option maxRecDepth 100000
set_option maxHeartbeats 2000000

theorem int_law : Keyed Tryd.prog 3 := int_keyed Tryd.underlying3
/-- The map that poly.right makes, k elements put. -/
def placeM (xs : List UInt8) : Nat → DataW Unit
  | 0 => .map []
  | k + 1 => (placeM xs k).put (.int .i64 ((xs.getD k 0).toNat : Int)) (.lit (.int .i64 (k : Int)))
theorem placeM_ok (xs : List UInt8) (hn : xs.Nodup) : ∀ k, k ≤ xs.length → Tidy (placeM xs k) ∧ Maps.size (placeM xs k) = k ∧ ∀ a : UInt8, a ∉ xs.take k → Maps.has (placeM xs k) (.int .i64 (a.toNat : Int)) = false
  | 0, _ => ⟨tidy_empty, rfl, fun a _ => rfl⟩
  | k + 1, hk => by
    obtain ⟨h1, h2, h3⟩ := placeM_ok xs hn k (by omega)
    have hx : xs.getD k 0 = xs[k] := getD_at xs k (by omega)
    have hnot : xs.getD k 0 ∉ xs.take k := by
      rw [hx]
      intro hm
      obtain ⟨j, hj, e⟩ := List.mem_iff_getElem.1 hm
      rw [List.getElem_take] at e
      have hjk : j < k := by
        have := hj
        simp at this
        omega
      exact (List.pairwise_iff_getElem.1 hn j k (by omega) (by omega) hjk) e
    refine ⟨h1.put (show WideAt.IsKeyLit (.int .i64 ((xs.getD k 0).toNat : Int)) from trivial) _, ?_, fun a ha => ?_⟩
    · rw [placeM, size_put h1, h3 _ hnot, h2]
      rfl
    · rw [List.take_succ_eq_append_getElem (by omega : k < xs.length), List.mem_append, not_or] at ha
      have hne : (Lit.int .i64 (a.toNat : Int)) ≠ .int .i64 ((xs.getD k 0).toNat : Int) := fun e => by
        injection e with _ e
        apply ha.2
        rw [hx] at e
        have : a = xs[k] := UInt8.toNat_inj.1 (by omega)
        rw [this]
        simp
      rw [placeM, has_put_other hne]
      exact h3 a ha.1

theorem small_wf (k : Nat) (h : k ≤ 1000000) : (Lit.int .i64 (k : Int)).wf = true := by
  have e : IntKind.i64.min = -9223372036854775808 := rfl
  have e2 : IntKind.i64.max = 9223372036854775807 := rfl
  simp [Lit.wf, e]
  omega
theorem dig_wf (a : UInt8) : (Lit.int .i64 (a.toNat : Int)).wf = true := small_wf _ (by have := a.toNat_lt; omega)

theorem pright_yes (xs : List UInt8) (A : Option Addr) (n c : Nat) (w : World) (hr : Rd w A (ints (nums xs))) (hn : n = xs.length) (h1 : 1 ≤ xs.length) (h2 : xs.length ≤ 255) (hnd : xs.Nodup) :
    Calls Tryd.prog 65 #[.slice A n c] w fun e w' => e = .returned (.bool true) ∧ Below w.heap.size w w' := by
  have HR := Lib.hid hr
  have HN := Lib.hid hn
  have HA := Lib.hid (nums_all xs)
  have HP := Lib.hid (placeM_ok xs hnd)
  have HN2 := Lib.hid (show n = (nums xs).length by rw [nums_len]; exact hn)
  have d1 : decide ((n : Int) < 1) = false := by simp; omega
  have d2 : decide ((255 : Int) < (n : Int)) = false := by simp; omega
  have hn2 : n ≤ 255 := by omega
  have hmm := @run_makeMap Tryd.prog
  clear hr hn hnd
  go_enter Tryd.func65, Tryd.ntmps65
  go_wp2_with fail
  refine (digits_any (nums xs) A n c _ HR.out HN2.out (by rw [nums_len]; omega)).mono ?_
  rintro e w1 ⟨rfl, rfl⟩
  rw [HA.out]
  go_wp2_with fail
  go_loopw [22] (fun i wr => ∃ k : Nat, k ≤ n ∧ i = .int .i64 (k : Nat) ∧ wr.ownsMap Tryd.prog 3 (plainElem Tryd.prog 3) w1.heap.size k (placeM xs k) ∧ Below w1.heap.size w1 wr) (fun i _ => n - (intOf i).toNat)
  case atStart => exact ⟨0, Nat.zero_le _, rfl, World.ownsMap_made _ _ _ _, (Below.refl _ _).alloc (Nat.le_refl _) _⟩
  case round =>
    obtain ⟨k, hk, rfl, hown, hnx⟩ := hrel
    by_cases hlt : k < n
    · have hkl : k < xs.length := by rw [← HN.out]; exact hlt
      obtain ⟨b, off, hA, hc⟩ := (HR.out.below hnx).int_at (i := k) (by rw [nums_len]; exact hkl)
      rw [nums_at xs k hkl] at hc
      subst hA
      have HM := Lib.hid (show placeM xs (k + 1) = (placeM xs k).put (.int .i64 ((xs.getD k 0).toNat : Int)) (.lit (.int .i64 (k : Int))) from rfl)
      generalize xs.getD k 0 = a at hc HM
      generalize placeM xs k = D at hown HM
      have hwk : (Lit.int .i64 (k : Int)).wf = true := small_wf k (by omega)
      go_wp2_with (first
        | (at_mapUpdate; refine wpList_mapUpdate_own _ rfl _ _ _ 47 rfl 3 3 int_law Tryd.underlying47 (plainElem (H := Unit) Tryd.prog 3) w1.heap.size k _ rfl hown (by unfold maxLen; omega) _ _ _ rfl rfl (keyOf_int_mk Tryd.underlying3 (dig_wf a)) _ [] (plainElem_int Tryd.underlying3 hwk) ?_; intro w2 hown2 hgrow2))
      have HO2 := Lib.hid hown2
      go_roundw
      case rel => exact ⟨k + 1, by omega, by go_num, by rw [HM.out]; exact HO2.out, hnx.trans (grownBy_below' hgrow2 (Nat.le_refl _) hnx.size)⟩
      case measure => simp [intOf]; omega
    · obtain rfl : k = n := by omega
      have hsz := (HP.out k (by rw [HN.out]; exact Nat.le_refl _)).2.1
      generalize placeM xs k = D at hown hsz
      go_wp2_with (first
        | (at_len; refine wpList_len_own _ rfl _ 47 rfl 3 3 Tryd.underlying47 _ w1.heap.size k _ rfl hown ?_))
      go_ret
      exact ⟨by simp, hnx⟩

theorem div_dig (a b : UInt8) (w : World) (g : Nat) (h : IsField w g) (hb : b ≠ 0) : Calls Tryd.prog 67 #[.pointer (some ⟨g, 0, none⟩), dig a, dig b] w fun e w' => e = .returned (.tuple #[dig (gm a (gi b)), .bool true]) ∧ Below w.heap.size w w' := by
  have H := Lib.hid h
  have HB := Lib.hid hb
  clear h hb
  go_enter Tryd.func67, Tryd.ntmps67
  go_wp2_with fail
  refine (inv_dig b _ g H.out HB.out).mono ?_
  rintro e w1 ⟨rfl, hb1⟩
  go_wp2_with fail
  refine (mul_dig a (gi b) _ g (H.out.keep hb1)).mono ?_
  rintro e w2 ⟨rfl, hb2⟩
  have hb := Below.chain hb1 hb2
  go_wp2_with fail
  go_ret2
  exact ⟨rfl, hb⟩

/-- The product of all but one, j of them looked at. -/
def skipTo (at' x : UInt8) (xs : List UInt8) (i : Nat) : Nat → UInt8
  | 0 => 1
  | j + 1 => if j = i then skipTo at' x xs i j else gm (skipTo at' x xs i j) (gm (x ^^^ xs.getD j 0) (gi (at' ^^^ xs.getD j 0)))
theorem skipTo_erase (at' x : UInt8) (xs : List UInt8) (i : Nat) : ∀ j, j ≤ xs.length → skipTo at' x xs i j = wP at' x ((xs.take j).eraseIdx i) 1
  | 0, _ => by simp [skipTo, wP]
  | j + 1, hj => by
    have ih := skipTo_erase at' x xs i j (by omega)
    have hlen : (xs.take j).length = j := by simp; omega
    rw [skipTo, List.take_succ_eq_append_getElem (by omega : j < xs.length)]
    by_cases e : j = i
    · subst e
      rw [if_pos rfl, ih, List.eraseIdx_append_of_length_le (by omega), hlen, Nat.sub_self]
      rw [List.eraseIdx_of_length_le (by omega)]
      simp
    · rw [if_neg e, ih, getD_at xs j (by omega)]
      by_cases c : i < j
      · rw [List.eraseIdx_append_of_lt_length (by omega), wP, wP, List.foldl_append]
        rfl
      · rw [List.eraseIdx_append_of_length_le (by omega), List.eraseIdx_of_length_le (by omega : (xs.take j).length ≤ i), List.eraseIdx_of_length_le (by simp; omega), wP, wP, List.foldl_append]
        rfl

theorem weights1_same (p o x at' : UInt8) (k : Int) (w : World) (g gk gi' gf gx ga : Nat) (hk : Box w gk 3 (.int .i64 (k - 1))) (hi : Box w gi' 3 (.int .i64 k)) (hne : gi' ≠ gk) (hkb : 0 ≤ k ∧ k ≤ 1000) :
    Calls Tryd.prog 66 #[dig p, dig o, .pointer (some ⟨gk, 0, none⟩), .pointer (some ⟨gi', 0, none⟩), .pointer (some ⟨gf, 0, none⟩), .pointer (some ⟨gx, 0, none⟩), .pointer (some ⟨ga, 0, none⟩)] w fun e w' => e = .returned (dig p) ∧ Box w' gk 3 (.int .i64 k) ∧ w.grownBy w' (some gk) := by
  have ck := one_cell hk
  have fk := box_free hk
  have ci := one_cell hi
  have Hk := Lib.hid (box_set hk (.int .i64 k))
  have hk1 : k - 1 + 1 = k := by omega
  obtain ⟨h0, h1⟩ := hkb
  clear hk hi
  go_enter Tryd.func66, Tryd.ntmps66
  go_wp2_with fail
  go_ret
  exact ⟨rfl, Hk.out, ⟨rfl, rfl, rfl, by simp, fun i hi hne => Below.heap_setCell _ _ _ _ (fun e => hne (by rw [e]))⟩⟩
end Go.Proofs.YtidnlginjjgmjaaDoor
