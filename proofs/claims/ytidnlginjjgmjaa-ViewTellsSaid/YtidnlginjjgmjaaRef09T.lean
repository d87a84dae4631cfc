/-
  Contracts of keyholeref09.Right, zero, places, times, basis, at right shares and digits.
-/
import Derived.Test.YtidnlginjjgmjaaRef09
import Derived.Test.YtidnlginjjgmjaaTapeR
import Derived.Test.YtidnlginjjgmjaaZeros
namespace Go.Proofs.Ytidnlginjjgmjaa
open Go.RowKit
set_option linter.unusedVariables false
set_option maxRecDepth 100000
set_option maxHeartbeats 2000000

theorem right_parts {l : List Shr} (h : rightB l 1 = true) : (1 ≤ l.length ∧ l.length ≤ 255) ∧ ∀ i (hi : i < l.length), (1 ≤ l[i].1 ∧ l[i].1 ≤ 255 ∧ l[i].2.size = 32) ∧ ∀ k (hk : k < i), l[k].1 ≠ l[i].1 := by
  simp only [rightB, Bool.and_eq_true, decide_eq_true_eq, List.all_eq_true] at h
  obtain ⟨⟨⟨h1, h2⟩, h3⟩, h4⟩ := h
  refine ⟨⟨h1, h2⟩, fun i hi => ⟨?_, fun k hk e => ?_⟩⟩
  · have := h3 l[i] (List.getElem_mem hi)
    simp [okS] at this
    omega
  · have := List.pairwise_iff_getElem.1 h4 k i (by simp; omega) (by simpa using hi) hk
    simp at this
    exact this e
theorem shr_at {w : World} {b off : Nat} {l : List Shr} {i : Nat} (h : Rd w (some ⟨b, off, none⟩) (sharesV l)) (hi : i < l.length) :
    w.cell? ⟨b, off + i * 2, none⟩ = some (.int .i64 l[i].1) ∧ w.cell? ⟨b, off + i * 2 + 1, none⟩ = some (.string l[i].2) := by
  obtain ⟨b', off', hA, c1, c2⟩ := h.shr hi
  injection hA with hA
  injection hA with e1 e2
  subst e1 e2
  exact ⟨c1, c2⟩

theorem right9 (l : List Shr) (A : Option Addr) (n c : Nat) (w : World) (hr : Rd w A (sharesV l)) (hn : n = l.length) (h : rightB l 1 = true) :
    Calls Try.prog 51 #[.slice A n c] w fun e w' => e = .returned (.bool true) ∧ Below w.heap.size w w' := by
  obtain ⟨⟨h1, h2⟩, hp⟩ := right_parts h
  have HR := Lib.hid hr
  have HN := Lib.hid hn
  have HP := Lib.hid hp
  have hn1 : 1 ≤ n := by omega
  have hn2 : n ≤ 255 := by omega
  clear hr hn hp h h1 h2
  go_enter Try.func51, Try.ntmps51
  go_wp2_with fail
  go_loopw [3] (fun x wr => ∃ i : Nat, i ≤ n ∧ x = .int .i64 (i : Nat) ∧ Below w.heap.size w wr) (fun x _ => n - (intOf x).toNat)
  case atStart => exact ⟨0, by omega, rfl, Below.refl _ _⟩
  case round =>
    obtain ⟨i, hi, rfl, hW⟩ := hrel
    by_cases hlt : i < n
    · have hil : i < l.length := by rw [← HN.out]; exact hlt
      obtain ⟨b, off, hA, z1, z2⟩ := (HR.out.below hW).shr hil
      clear z1 z2
      subst hA
      obtain ⟨c1, c2⟩ := shr_at (HR.out.below hW) hil
      obtain ⟨⟨p1, p2, p3⟩, p4⟩ := HP.out i hil
      have P4 := Lib.hid p4
      have HCi : Hid (∀ W, Below w.heap.size w W → W.cell? ⟨b, off + i * 2, none⟩ = some (.int .i64 l[i].1)) := Lib.hid fun W hb => (shr_at (HR.out.below hb) hil).1
      clear p4
      obtain ⟨x, hx⟩ : ∃ x, x = l[i].1 := ⟨_, rfl⟩
      obtain ⟨bb, hbb⟩ : ∃ bb, bb = l[i].2 := ⟨_, rfl⟩
      rw [← hx] at c1 p1 p2 P4 HCi
      rw [← hbb] at c2 p3
      clear hx hbb
      have d1 : decide (x < 0) = false := by simp; omega
      have d2 : decide (255 < x) = false := by simp; omega
      have d3 : ((bb.size : Int) != 32) = false := by simp; omega
      have hiI : (i : Int) < (n : Int) := by omega
      have HW := Lib.hid hW
      clear hW
      go_wp2_with fail
      clear c1 c2 d1 d2 d3
      go_loopw [4] (fun v wj => ∃ k : Nat, k ≤ i ∧ v = .int .i64 (k : Nat) ∧ Below w.heap.size w wj) (fun v _ => i - (intOf v).toNat)
      case atStart => exact ⟨0, by omega, rfl, HW.out⟩
      case round =>
        obtain ⟨k, hk, rfl, hW2⟩ := hrel
        by_cases hlt2 : k < i
        · have hkl : k < l.length := by omega
          have C1 := Lib.hid (HCi.out _ hW2)
          have C3 := Lib.hid (shr_at (HR.out.below hW2) hkl).1
          have hne : (l[k].1 == x) = false := by simpa using P4.out k hlt2
          generalize l[k].1 = z at C3 hne
          have hkn : (k : Int) < (n : Int) := by omega
          have HW2 := Lib.hid hW2
          clear hW2
          go_wp2_with fail
          have c1 := C1.out
          have c3 := C3.out
          go_quiet (fail)
          rename_i nq
          have HB := below_drewN HW2.out nq
          go_wp2_with fail
          go_roundw
          case rel => exact ⟨k + 1, by omega, by go_num, HB⟩
          case measure => simp [intOf]; omega
        · obtain rfl : k = i := by omega
          go_wp2_with fail
          go_roundw
          case rel => exact ⟨k + 1, by omega, by go_num, hW2⟩
          case measure => simp [intOf]; omega
    · obtain rfl : i = n := by omega
      have d1 : decide ((1 : Int) ≤ (i : Int)) = true := by simp; omega
      have d2 : decide ((i : Int) ≤ 255) = true := by simp; omega
      go_wp2_with fail
      go_ret
      exact ⟨rfl, hW⟩

theorem zero9 (l : List Shr) (A : Option Addr) (n c : Nat) (w : World) (hr : Rd w A (sharesV l)) (hn : n = l.length) (h : rightB l 1 = true) :
    Calls Try.prog 52 #[.slice A n c] w fun e w' => e = .returned (.bool false) ∧ w' = w := by
  obtain ⟨⟨h1, h2⟩, hp⟩ := right_parts h
  have HR := Lib.hid hr
  have HN := Lib.hid hn
  have HP := Lib.hid hp
  have hn2 : n ≤ 255 := by omega
  clear hr hn hp h h1 h2
  go_enter Try.func52, Try.ntmps52
  go_wp2_with fail
  go_loopw [3] (fun x wr => ∃ i : Nat, i ≤ n ∧ x = .int .i64 (i : Nat) ∧ wr = w) (fun x _ => n - (intOf x).toNat)
  case atStart => exact ⟨0, by omega, rfl, rfl⟩
  case round =>
    obtain ⟨i, hi, rfl, rfl⟩ := hrel
    by_cases hlt : i < n
    · have hil : i < l.length := by rw [← HN.out]; exact hlt
      obtain ⟨b, off, hA, c1, _⟩ := HR.out.shr hil
      subst hA
      have p1 := (HP.out i hil).1.1
      generalize l[i].1 = x at c1 p1
      have hiI : (i : Int) < (n : Int) := by omega
      have d1 : (x == 0) = false := by simp; omega
      go_wp2_with fail
      go_roundw
      case rel => exact ⟨i + 1, by omega, by go_num, by trivial⟩
      case measure => simp [intOf]; omega
    · obtain rfl : i = n := by omega
      go_wp2_with fail
      go_ret
      exact ⟨rfl, rfl⟩

theorem places9 (l : List Shr) (A : Option Addr) (n c : Nat) (w : World) (hr : Rd w A (sharesV l)) (hn : n = l.length) (hl : l.length ≤ 1000) :
    Calls Try.prog 53 #[.slice A n c] w fun e w' => ∃ B cap, e = .returned (.slice B n cap) ∧ w'.ownsRow w.heap.size 3 1 (.slice B n cap) n (ints (l.map Prod.fst)) ∧ Below w.heap.size w w' := by
  have HR := Lib.hid hr
  have HN := Lib.hid hn
  have hn2 : n ≤ 1000 := by omega
  clear hr hn
  go_enter Try.func53, Try.ntmps53
  go_wp2_with fail
  go_loopw [3, 4] (fun v x wr => ∃ (i cap : Nat) (B : Option Addr), i ≤ n ∧ x = .int .i64 (i : Nat) ∧ v = .slice B i cap ∧ wr.ownsRow w.heap.size 3 1 v i (ints ((l.take i).map Prod.fst)) ∧ Below w.heap.size w wr) (fun _ x _ => n - (intOf x).toNat)
  case atStart => exact ⟨0, 0, none, by omega, rfl, rfl, ⟨rfl, .inl ⟨rfl, rfl⟩⟩, Below.refl _ _⟩
  case round =>
    obtain ⟨i, cap, B, hi, rfl, rfl, ho, hW⟩ := hrel
    have HO := Lib.hid ho
    have HW := Lib.hid hW
    by_cases hlt : i < n
    · have hil : i < l.length := by rw [← HN.out]; exact hlt
      obtain ⟨b, off, hA, c1, _⟩ := (HR.out.below hW).shr hil
      subst hA
      have Hsn := Lib.hid (show (l.take (i + 1)).map Prod.fst = (l.take i).map Prod.fst ++ [l[i].1] by rw [List.take_succ_eq_append_getElem hil, List.map_append]; rfl)
      generalize l[i].1 = x at c1 Hsn
      generalize (l.take i).map Prod.fst = ps at HO Hsn
      have hiI : (i : Int) < (n : Int) := by omega
      clear ho hW
      go_wp2_with (at_builtin; refine wpList_append_new (by rfl) (.tmp 11) (.tmp 17) 48 (by rfl) w.heap.size 3 (.int .i64 0) 1 8 Try.underlying48 int_info rfl (by omega) wr _ _ _ _ _ (by rfl) HO.out _ 1 1 (by rfl) (by rfl) (by rfl) (by rfl) (by omega) (by omega) (by omega) (by exact HW.out.size) ?_)
      intro g2 cap2 w3 ho3 hb3 _ _ _
      have HO3 := Lib.hid ho3
      have HW3 := Lib.hid (HW.out.trans hb3)
      clear ho3 hb3
      go_wp2_with fail
      go_roundw
      case rel => exact ⟨i + 1, cap2, some ⟨g2, 0, none⟩, by omega, by go_num, rfl, by rw [Hsn.out, ints_append]; exact HO3.out, HW3.out⟩
      case measure => simp [intOf]; omega
    · obtain rfl : i = n := by omega
      have Hall := Lib.hid (show l.take i = l by rw [HN.out, List.take_of_length_le (Nat.le_refl _)])
      rw [Hall.out] at HO
      clear ho hW
      go_wp2_with fail
      go_ret
      exact ⟨B, cap, rfl, HO.out, HW.out⟩

/-- A product while it is made, i digits done. -/
def mulTo (l : List UInt8) (a : UInt8) (i : Nat) : List UInt8 := (List.range (l.length + 1)).map fun p => if p < i then zeroF l a p else if p = i then (0 :: l).getD p 0 else 0
theorem mulTo_len (l : List UInt8) (a : UInt8) (i : Nat) : (mulTo l a i).length = l.length + 1 := by simp [mulTo]
theorem mulTo_zero (l : List UInt8) (a : UInt8) : mulTo l a 0 = List.replicate (l.length + 1) 0 := by
  apply List.ext_getElem
  · simp [mulTo]
  · intro p h1 h2
    simp only [mulTo, List.getElem_map, List.getElem_range, List.getElem_replicate]
    by_cases e : p = 0
    · subst e
      simp
    · rw [if_neg (by omega), if_neg e]
theorem mulTo_at (l : List UInt8) (a : UInt8) (i : Nat) (hi : i < l.length) : (mulTo l a i).getD i 0 = (0 :: l).getD i 0 := by
  have : i < l.length + 1 := by omega
  rw [getD_at _ _ (by rw [mulTo_len]; exact this)]
  simp only [mulTo, List.getElem_map, List.getElem_range]
  rw [if_neg (by omega), if_pos trivial]
theorem mulTo_next (l : List UInt8) (a : UInt8) (i : Nat) (hi : i < l.length) (v : UInt8) : ((mulTo l a i).set i v).getD (i + 1) 0 = 0 := by
  rw [getD_at _ _ (by rw [List.length_set, mulTo_len]; omega), List.getElem_set, if_neg (by omega)]
  simp only [mulTo, List.getElem_map, List.getElem_range]
  rw [if_neg (by omega), if_neg (by omega)]
theorem mulTo_set (l : List UInt8) (a : UInt8) (i : Nat) (hi : i < l.length) : ((mulTo l a i).set i (zeroF l a i)).set (i + 1) (l.getD i 0) = mulTo l a (i + 1) := by
  apply List.ext_getElem
  · simp [mulTo]
  · intro p h1 h2
    rw [List.getElem_set, List.getElem_set]
    simp only [mulTo, List.getElem_map, List.getElem_range]
    by_cases e1 : i + 1 = p
    · subst e1
      rw [if_pos rfl, if_neg (by omega), if_pos rfl]
      simp
    · rw [if_neg e1]
      by_cases e2 : i = p
      · subst e2
        rw [if_pos rfl, if_pos (by omega)]
      · rw [if_neg e2]
        by_cases e3 : p < i
        · rw [if_pos e3, if_pos (by omega)]
        · rw [if_neg e3, if_neg (by omega), if_neg (by omega), if_neg (by omega)]
theorem mulTo_all (l : List UInt8) (a : UInt8) : mulTo l a l.length = zeroStep l a := by
  rw [← zero_step]
  apply List.ext_getElem
  · simp [mulTo, mapTo]
  · intro p h1 h2
    have hp : p < l.length + 1 := by simpa [mulTo] using h1
    simp only [mulTo, mapTo, List.getElem_map, List.getElem_range]
    by_cases e : p < l.length
    · rw [if_pos e, if_pos e]
    · rw [if_neg e, if_pos (by omega), if_neg e]
theorem nums_zero (n : Nat) : nums (List.replicate n 0) = List.replicate n 0 := by simp [nums]

theorem times9 (l : List UInt8) (a : UInt8) (A : Option Addr) (n c : Nat) (w : World) (hr : Rd w A (ints (nums l))) (hn : n = l.length) (hl : l.length ≤ 1000) :
    Calls Try.prog 73 #[.slice A n c, dig a] w fun e w' => ∃ G, e = .returned (.slice (some ⟨G, 0, none⟩) (n + 1) (n + 1)) ∧ w'.ownsRow w.heap.size 3 1 (.slice (some ⟨G, 0, none⟩) (n + 1) (n + 1)) (n + 1) (ints (nums (zeroStep l a))) ∧ Below w.heap.size w w' := by
  have HR := Lib.hid hr
  have HN := Lib.hid hn
  have hn2 : n ≤ 1000 := by omega
  obtain ⟨T, hT⟩ : ∃ T, T = n + 1 := ⟨_, rfl⟩
  have hT1 : (n : Int) + 1 = (T : Int) := by omega
  have hT2 : T ≤ 1001 := by omega
  have HT := Lib.hid hT
  rw [← hT]
  obtain ⟨iI, hI0, hI1, hI2, hI3⟩ := info_parts int_info
  clear hr hn hT
  go_enter Try.func73, Try.ntmps73
  go_wp2_with (refine wpList_make_full _ (by rfl) (.tmp 9) (.tmp 9) 48 (by rfl) w.heap.size 3 iI (.int .i64 0) 1 Try.underlying48 hI0 hI1 hI2 .i64 .i64 _ _ T (by rfl) (by rfl) rfl rfl (by rw [hI3]; omega) (by unfold maxLen; omega) (by omega) ?_)
  intro w2 ho2 hg2
  try simp only [Nat.mul_one] at ho2
  rw [made_ints, ← nums_zero, HT.out, HN.out, ← mulTo_zero l a, ← HN.out, ← HT.out] at ho2
  have HO2 := Lib.hid ho2
  have HW2 := Lib.hid (below_grown hg2 (Nat.le_refl _))
  have HG2 := Lib.hid (own_base ho2)
  clear ho2 hg2 hT1
  go_wp2_with fail
  go_loopw [6] (fun x wr => ∃ i : Nat, i ≤ n ∧ x = .int .i64 (i : Nat) ∧ wr.ownsRow w.heap.size 3 1 (.slice (some ⟨w.heap.size, 0, none⟩) T T) T (ints (nums (mulTo l a i))) ∧ Below w.heap.size w wr) (fun x _ => n - (intOf x).toNat)
  case atStart => exact ⟨0, by omega, rfl, HO2.out, HW2.out⟩
  case round =>
    clear HO2 HW2
    obtain ⟨i, hi, rfl, ho, hW⟩ := hrel
    by_cases hlt : i < n
    · have hil : i < l.length := by rw [← HN.out]; exact hlt
      have hTn := HT.out
      have hTI : (i : Int) + 1 < (T : Int) := by omega
      have hTI2 : (i : Int) < (T : Int) := by omega
      obtain ⟨b, off, hA, hc⟩ := (HR.out.below hW).int_at (i := i) (by rw [nums_len]; exact hil)
      rw [nums_at l i hil] at hc
      subst hA
      have HR2 : Hid (∀ W, Below w.heap.size w W → W.cell? ⟨b, off + i, none⟩ = some (dig (l.getD i 0))) := Lib.hid fun W hb => by
        obtain ⟨b', off', hA', hc'⟩ := (HR.out.below hb).int_at (i := i) (by rw [nums_len]; exact hil)
        rw [nums_at l i hil] at hc'
        injection hA' with e
        injection e with e1 e2
        subst e1 e2
        exact hc'
      have hml : (mulTo l a i).length = T := by rw [mulTo_len, ← HN.out, HT.out]
      have g1 := mulTo_at l a i hil
      have g2 := mulTo_next l a i hil
      have Hset := Lib.hid (mulTo_set l a i hil)
      rw [zeroF] at Hset
      generalize mulTo l a i = L at ho hml g1 g2 Hset
      generalize (0 :: l).getD i 0 = u at g1 Hset
      generalize l.getD i 0 = v at hc HR2 Hset
      obtain ⟨c1, f1⟩ := own_cell ho (i := i) (by omega) (nums_get _ _ (by rw [hml]; omega))
      rw [g1] at c1
      have ho3 := own_put ho i (dig (u ^^^ gm v a))
      rw [← nums_set] at ho3
      have HO3 := Lib.hid ho3
      have Hml := Lib.hid (show (L.set i (u ^^^ gm v a)).length = T by rw [List.length_set, hml])
      have G2 := Lib.hid (g2 (u ^^^ gm v a))
      have HW3 := Lib.hid (hW.setCell (p := ⟨w.heap.size, i, none⟩) (Nat.le_refl _) (dig (u ^^^ gm v a)))
      have hiI : (i : Int) < (n : Int) := by omega
      have hw1 : IntKind.i64.wrap ((i : Int) + 1) = (i : Int) + 1 := IntWalk.i64_in _ (by omega)
      have HTn := Lib.hid hTn
      clear ho ho3 hml g1 g2 hW hTn
      go_wp2_with fail
      go_still_tail 14, (by kernel_rfl)
      still_call (times7 v a _)
      repeat still_step
      still_call (sum7 u (gm v a) _)
      repeat still_step
      try refine wpStill_nil ?_
      change wpList _ _ _ _ _ wr.drew
      generalize u ^^^ gm v a = z at HO3 Hml G2 HW3 Hset ⊢
      clear hc
      go_wp2_with fail
      have HO4 : Hid ((wr.setCell ⟨w.heap.size, i, none⟩ (dig z)).drew.ownsRow w.heap.size 3 1 (.slice (some ⟨w.heap.size, 0, none⟩) T T) T (ints (nums (L.set i z)))) := HO3
      have HW4 : Hid (Below w.heap.size w (wr.setCell ⟨w.heap.size, i, none⟩ (dig z)).drew) := Lib.hid HW3.out.drew
      generalize (wr.setCell ⟨w.heap.size, i, none⟩ (dig z)).drew = w4 at HO4 HW4 ⊢
      obtain ⟨c4, f4⟩ := own_cell HO4.out (i := i + 1) (by have := HTn.out; omega) (nums_get _ _ (by rw [Hml.out]; have := HTn.out; omega))
      rw [G2.out] at c4
      obtain ⟨o, hoz⟩ : ∃ o : UInt8, o = 0 := ⟨_, rfl⟩
      rw [← hoz] at c4
      have c5 := HR2.out _ HW4.out
      have ho5 := own_put HO4.out (i + 1) (dig v)
      rw [← nums_set, Hset.out] at ho5
      have HO5 := Lib.hid ho5
      have HW5 := Lib.hid (HW4.out.setCell (p := ⟨w.heap.size, i + 1, none⟩) (Nat.le_refl _) (dig v))
      have Hz := Lib.hid (show o ^^^ v = v by rw [hoz, zero_x])
      have h01 : (0 : Int) ≤ (i : Int) + 1 := by omega
      clear hoz ho5 HO4 HO3 HW3 HW4 Hset c1 f1
      go_still_tail 14, (by kernel_rfl)
      still_call (sum7 o v _)
      repeat still_step
      try refine wpStill_nil ?_
      rw [Hz.out]
      change wpList _ _ _ _ _ w4.drew
      go_wp2_with fail
      go_roundw
      case rel => exact ⟨i + 1, by omega, by go_num, HO5.out, HW5.out.drew⟩
      case measure => simp [intOf]; omega
    · obtain rfl : i = n := by omega
      rw [HN.out, mulTo_all] at ho
      have HO := Lib.hid ho
      clear ho
      go_wp2_with fail
      go_ret
      exact ⟨_, rfl, HO.out, hW⟩
end Go.Proofs.Ytidnlginjjgmjaa
