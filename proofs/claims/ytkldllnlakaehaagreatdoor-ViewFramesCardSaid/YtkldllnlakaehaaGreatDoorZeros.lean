/-
  Contracts of share.zeros and share.without.
-/
import Derived.Test.YtkldllnlakaehaaGreatDoorRight
import Derived.Test.YtkldllnlakaehaaGreatDoorPa
namespace Go.Proofs.YtkldllnlakaehaaGreatDoor
open Go.RowKit
set_option linter.unusedVariables false
set_option maxRecDepth 100000
set_option maxHeartbeats 4000000

/-- An element of a row of the call's own: read, and written. -/
theorem own_cell {w : World} {B : Nat} {e : TypeId} {g n cap : Nat} {xs : List Value} (h : w.ownsRow B e 1 (.slice (some ⟨g, 0, none⟩) n cap) n xs) {i : Nat} (hi : i < n) {v : Value} (hv : xs[i]? = some v) : w.cell? ⟨g, i, none⟩ = some v ∧ w.frozen? ⟨g, i, none⟩ = false := by
  rcases h.2 with ⟨e1, _⟩ | ⟨g1, cap1, cur, e1, hB, hg, h1, h2, h3, h4⟩
  · cases e1
  · injection e1 with e1 e2 e3
    injection e1 with e1
    injection e1 with e1
    subst e1 e3
    rw [← h4, List.getElem?_take_of_lt (by omega), Array.getElem?_toList] at hv
    refine ⟨?_, ?_⟩
    · unfold World.cell?
      simp [hg, hv]
    · unfold World.frozen?
      simp [hg]
theorem own_put {w : World} {B : Nat} {e : TypeId} {g n cap : Nat} {xs : List Value} (h : w.ownsRow B e 1 (.slice (some ⟨g, 0, none⟩) n cap) n xs) (i : Nat) (v : Value) : (w.setCell ⟨g, i, none⟩ v).ownsRow B e 1 (.slice (some ⟨g, 0, none⟩) n cap) n (xs.set i v) := by
  refine ⟨by rw [List.length_set]; exact h.1, ?_⟩
  rcases h.2 with ⟨e1, _⟩ | ⟨g1, cap1, cur, e1, hB, hg, h1, h2, h3, h4⟩
  · cases e1
  · injection e1 with e1 e2 e3
    injection e1 with e1
    injection e1 with e1
    subst e1 e3
    refine .inr ⟨_, _, cur.setIfInBounds i v, rfl, hB, blk_set hg i v, h1, h2, by simpa using h3, ?_⟩
    rw [← h4]
    simp [List.take_set]
theorem own_base {w : World} {B : Nat} {e : TypeId} {size g n cap : Nat} {xs : List Value} (h : w.ownsRow B e size (.slice (some ⟨g, 0, none⟩) n cap) n xs) : B ≤ g := by
  rcases h.2 with ⟨e1, _⟩ | ⟨g1, cap1, cur, e1, hB, _⟩
  · cases e1
  · injection e1 with e1 e2 e3
    injection e1 with e1
    injection e1 with e1
    omega

theorem nums_set (l : List UInt8) (i : Nat) (x : UInt8) : ints (nums (l.set i x)) = (ints (nums l)).set i (.int .i64 (x.toNat : Int)) := by simp [nums, ints]
theorem nums_get (l : List UInt8) (i : Nat) (h : i < l.length) : (ints (nums l))[i]? = some (dig (l.getD i 0)) := by simp [nums, ints, h]

theorem mapTo_after (f : Nat → UInt8) (l : List UInt8) (k p : Nat) (h : k ≤ p) (hp : p < l.length) : (mapTo f l k).getD p 0 = l.getD p 0 := by
  have : ¬ p < k := by omega
  simp [mapTo, hp, this]
def zeroF (l : List UInt8) (x : UInt8) (p : Nat) : UInt8 := (0 :: l).getD p 0 ^^^ gm (l.getD p 0) x
theorem zero_step (l : List UInt8) (x : UInt8) : mapTo (zeroF l x) (0 :: l) l.length = zeroStep l x := by
  apply List.ext_getElem
  · simp [mapTo, zeroStep, addP, scaleP]
  · intro p h1 h2
    have hp : p < l.length + 1 := by simpa [mapTo] using h1
    simp only [mapTo, List.getElem_map, List.getElem_range, zeroStep, addP, List.getElem_zipWith, scaleP]
    by_cases e : p < l.length
    · rw [if_pos e, zeroF, List.getElem_append_left (by simpa using e)]
      rw [gm_comm]
      simp [hp, e]
    · have hpl : p = l.length := by omega
      subst hpl
      rw [if_neg (by omega), List.getElem_append_right (by simp)]
      simp

theorem zeros_any (xs : List UInt8) (A : Option Addr) (n c g : Nat) (w : World) (hF : IsField w g) (hr : Rd w A (ints (nums xs))) (hn : n = xs.length) (hl : xs.length ≤ 255) :
    Calls Tryz.prog 59 #[.pointer (some ⟨g, 0, none⟩), .slice A n c] w fun e w' => ∃ G cap, e = .returned (.slice (some ⟨G, 0, none⟩) (n + 1) cap) ∧ w'.ownsRow w.heap.size 3 1 (.slice (some ⟨G, 0, none⟩) (n + 1) cap) (n + 1) (ints (nums (zerosP xs))) ∧ Below w.heap.size w w' := by
  have HF := Lib.hid hF
  have HR := Lib.hid hr
  have HN := Lib.hid hn
  have hn2 : n ≤ 255 := by omega
  clear hF hr hn
  have HO0 := Lib.hid (own_new (w := w) (B := w.heap.size) (e := 3) (size := 1) (n := 1) (cs := (ints (nums [1])).toArray) (Nat.le_refl _) rfl (by decide))
  go_enter Tryz.func59, Tryz.ntmps59
  go_wp2_with fail
  go_loopw [5, 14] (fun v x wr => ∃ (i G cap : Nat), i ≤ n ∧ x = .int .i64 (i : Nat) ∧ v = .slice (some ⟨G, 0, none⟩) (i + 1) cap ∧ wr.ownsRow w.heap.size 3 1 v (i + 1) (ints (nums (zerosP (xs.take i)))) ∧ Below w.heap.size w wr) (fun _ x _ => n - (intOf x).toNat)
  case atStart => exact ⟨0, _, _, by omega, rfl, rfl, HO0.out, (Below.refl _ _).alloc (Nat.le_refl _) _⟩
  case round =>
    clear HO0
    obtain ⟨i, G, cap, hi, rfl, rfl, ho, hb⟩ := hrel
    have HO := Lib.hid ho
    clear ho
    by_cases hlt : i < n
    · have hil : i < xs.length := by rw [← HN.out]; exact hlt
      obtain ⟨b, off, hA, hc⟩ := (HR.out.below hb).int_at (i := i) (by rw [nums_len]; exact hil)
      rw [nums_at xs i hil] at hc
      subst hA
      have Hz := Lib.hid (show zerosP (xs.take (i + 1)) = zeroStep (zerosP (xs.take i)) (xs.getD i 0) by
        rw [zerosP, List.take_succ_eq_append_getElem hil, List.foldl_append]
        simp [zerosP, hil])
      have Hzl := Lib.hid (show (zerosP (xs.take i)).length = i + 1 by rw [zerosP_len]; simp; omega)
      generalize zerosP (xs.take i) = l0 at HO Hz Hzl
      generalize xs.getD i 0 = x at hc Hz
      have HO1 := Lib.hid (own_new (w := wr) (B := w.heap.size) (e := 3) (size := 1) (n := 1) (cs := #[.int .i64 0]) hb.size rfl (by decide))
      have HR1 := Lib.hid ((own_rd HO.out).below ((Below.refl _ _).alloc (Nat.le_refl _) (.cells #[.int .i64 0] 3)))
      have hi1 : i + 1 ≤ 1000 := by omega
      go_wp2_with (refine wpList_append_from (by rfl) (.tmp 18) (.tmp 19) 96 (by rfl) w.heap.size 3 (.int .i64 0) 1 8 Tryz.underlying96 int_info rfl (by omega) (wr.alloc (.cells #[.int .i64 0] 3)) (ints (nums l0)) _ 1 _ (by rfl) HO1.out ⟨G, 0, none⟩ (i + 1) cap (by rfl) (by exact HR1.out) (by simp [ints, nums, Hzl.out]) (by intro u hu; obtain ⟨y, _, rfl⟩ := List.mem_map.1 hu; rfl) (by omega) (by omega) (by omega) (by have := hb.size; simp; omega) ?_)
      intro g2 cap2 w2 ho2 hb2 _ _ _
      obtain ⟨T, hT⟩ : ∃ T, T = 1 + (i + 1) := ⟨_, rfl⟩
      rw [← hT] at ho2 ⊢
      have HO2 := Lib.hid (show w2.ownsRow w.heap.size 3 1 (.slice (some ⟨g2, 0, none⟩) T cap2) T (ints (nums (mapTo (zeroF l0 x) (0 :: l0) 0))) by rw [mapTo_zero]; exact ho2)
      have HB2 := Lib.hid ((hb.alloc hb.size _).trans hb2)
      have hT2 : (T : Int) = (i : Int) + 2 := by omega
      have HT := Lib.hid hT
      clear ho2 hb2 HO1 HR1 HO hc hb hT
      have hT1 : IntKind.i64.wrap ((T : Int) - 1) = (i : Int) + 1 := by rw [IntWalk.i64_in _ (by omega)]; omega
      have hT3 : (T : Int) - 1 = (i : Int) + 1 := by omega
      have HT2 := Lib.hid hT2
      clear hT2
      go_wp2_with fail
      clear hT1 hT3
      go_loopw [24] (fun y wr => ∃ t : Nat, t ≤ i + 1 ∧ y = .int .i64 (t : Nat) ∧ wr.ownsRow w.heap.size 3 1 (.slice (some ⟨g2, 0, none⟩) T cap2) T (ints (nums (mapTo (zeroF l0 x) (0 :: l0) t))) ∧ Below w.heap.size w wr) (fun y _ => i + 1 - (intOf y).toNat)
      case atStart => exact ⟨0, by omega, rfl, HO2.out, HB2.out⟩
      case round =>
        clear HO2 HB2
        obtain ⟨t, ht, rfl, ho, hb⟩ := hrel
        have hT := HT.out
        by_cases hlt2 : t < i + 1
        · have hl0 := Hzl.out
          have hml : (mapTo (zeroF l0 x) (0 :: l0) t).length = T := by rw [mapTo_len, List.length_cons, hl0]; omega
          have gA : (mapTo (zeroF l0 x) (0 :: l0) t).getD (t + 1) 0 = l0.getD t 0 := by
            rw [mapTo_after _ _ _ _ (by omega) (by simp; omega)]
            rfl
          have gB : (mapTo (zeroF l0 x) (0 :: l0) t).getD t 0 = (0 :: l0).getD t 0 := mapTo_at _ _ _ (by simp; omega)
          have Hset := Lib.hid (mapTo_set (zeroF l0 x) (0 :: l0) t (by simp; omega))
          rw [zeroF] at Hset
          generalize l0.getD t 0 = a at gA Hset
          generalize (0 :: l0).getD t 0 = b at gB Hset
          generalize mapTo (zeroF l0 x) (0 :: l0) t = L at ho hml gA gB Hset
          have HO := Lib.hid ho
          have Hlt := Lib.hid (show t < T by omega)
          have cA := (own_cell ho (i := t + 1) (by omega) (nums_get _ _ (by rw [hml]; omega))).1
          rw [gA] at cA
          have hTi : (t : Int) + 1 < (T : Int) := by omega
          have hTi2 : (t : Int) < (T : Int) := by omega
          have Hml := Lib.hid hml
          have HB := Lib.hid (own_base ho)
          have GB := Lib.hid gB
          clear ho gA gB hml hl0 hT
          go_wp2_with fail
          refine (mul_dig a x _ g (HF.out.keep hb)).mono ?_
          rintro e w3 ⟨rfl, hb3⟩
          have HO3 := Lib.hid (own_keep HO.out hb3)
          obtain ⟨cB, fB⟩ := own_cell HO3.out (i := t) Hlt.out (nums_get _ _ (by rw [Hml.out]; exact Hlt.out))
          rw [GB.out] at cB
          go_wp2_with fail
          refine (add_dig b (gm a x) _).mono ?_
          rintro e w4 ⟨rfl, rfl⟩
          have ho4 := own_put HO3.out t (dig (b ^^^ gm a x))
          rw [← nums_set, Hset.out] at ho4
          have HO4 := Lib.hid ho4
          have HW4 := Lib.hid ((Below.chain hb hb3).setCell (p := ⟨g2, t, none⟩) HB.out (dig (b ^^^ gm a x)))
          clear ho4
          go_wp2_with fail
          go_roundw
          case rel => exact ⟨t + 1, by omega, by go_num, HO4.out, HW4.out⟩
          case measure => simp [intOf]; omega
        · obtain rfl : t = i + 1 := by omega
          rw [← Hzl.out, zero_step, ← Hz.out] at ho
          have HO := Lib.hid ho
          clear ho hT
          go_wp2_with fail
          go_roundw
          case rel => exact ⟨i + 1, g2, cap2, by omega, by go_num, by rw [HT.out]; congr 1; omega, by have hT := HT.out; rw [hT, show 1 + (i + 1) = i + 1 + 1 by omega] at HO; rw [hT, show 1 + (i + 1) = i + 1 + 1 by omega]; exact HO.out, hb⟩
          case measure => simp [intOf]; omega
    · obtain rfl : i = n := by omega
      rw [HN.out, List.take_of_length_le (Nat.le_refl _), ← HN.out] at HO
      go_wp2_with fail
      go_ret
      exact ⟨G, cap, rfl, HO.out, hb⟩
end Go.Proofs.YtkldllnlakaehaaGreatDoor
