/-
  Contract of share.without.
-/
import Derived.Test.YtkldllnlakaehaaGreatDoorZeros
namespace Go.Proofs.YtkldllnlakaehaaGreatDoor
open Go.RowKit
set_option linter.unusedVariables false
set_option maxRecDepth 100000
set_option maxHeartbeats 4000000

/-- The quotient's digits, the last r of them laid. -/
def quoTo (l : List UInt8) (x : UInt8) (M r : Nat) : List UInt8 := (List.range M).map fun p => if M ≤ p + r then evalP (l.drop (p + 1)) x else 0
theorem quoTo_len (l : List UInt8) (x : UInt8) (M r : Nat) : (quoTo l x M r).length = M := by simp [quoTo]
theorem quoTo_zero (l : List UInt8) (x : UInt8) (M : Nat) : quoTo l x M 0 = List.replicate M 0 := by
  apply List.ext_getElem
  · simp [quoTo]
  · intro p h1 h2
    have : p < M := by simpa using h2
    simp [quoTo]
    omega
theorem quoTo_set (l : List UInt8) (x : UInt8) (M r t : Nat) (h : t + r + 1 = M) : (quoTo l x M r).set t (evalP (l.drop (t + 1)) x) = quoTo l x M (r + 1) := by
  apply List.ext_getElem
  · simp [quoTo]
  · intro p h1 h2
    have hp : p < M := by simpa [quoTo] using h2
    rw [List.getElem_set]
    simp only [quoTo, List.getElem_map, List.getElem_range]
    by_cases e : t = p
    · subst e
      rw [if_pos rfl, if_pos (by omega)]
    · rw [if_neg e]
      by_cases e2 : M ≤ p + r
      · rw [if_pos e2, if_pos (by omega)]
      · rw [if_neg e2, if_neg (by omega)]
theorem quoP_at (x : UInt8) : ∀ (l : List UInt8) (p : Nat) (h : p < (quoP x l).length), (quoP x l)[p] = evalP (l.drop (p + 1)) x
  | [], p, h => by simp [quoP] at h
  | [_], p, h => by simp [quoP] at h
  | c :: b :: l, 0, h => by simp [quoP]
  | c :: b :: l, p + 1, h => by
    have := quoP_at x (b :: l) p (by simpa [quoP] using h)
    simpa [quoP] using this
theorem quoTo_all (l : List UInt8) (x : UInt8) (M : Nat) (h : l.length = M + 1) : quoTo l x M M = quoP x l := by
  apply List.ext_getElem
  · simp [quoTo, quoP_len, h]
  · intro p h1 h2
    rw [quoP_at]
    simp [quoTo]
theorem eval_drop (l : List UInt8) (x : UInt8) (t : Nat) (h : t < l.length) : evalP (l.drop t) x = l.getD t 0 ^^^ gm (evalP (l.drop (t + 1)) x) x := by
  rw [List.drop_eq_getElem_cons h, evalP, gm_comm x]
  simp [h]

theorem without_any (l : List UInt8) (x : UInt8) (A : Option Addr) (n M c g : Nat) (w : World) (hF : IsField w g) (hr : Rd w A (ints (nums l))) (hn : n = l.length) (hl : l.length = M + 1) (hM : M ≤ 255) :
    Calls Tryz.prog 60 #[.pointer (some ⟨g, 0, none⟩), .slice A n c, dig x] w fun e w' => ∃ G, e = .returned (.slice (some ⟨G, 0, none⟩) M M) ∧ w'.ownsRow w.heap.size 3 1 (.slice (some ⟨G, 0, none⟩) M M) M (ints (nums (quoP x l))) ∧ Below w.heap.size w w' := by
  have HF := Lib.hid hF
  have HR := Lib.hid hr
  have HL := Lib.hid hl
  have hn2 : (n : Int) - 1 = (M : Int) := by omega
  have hn3 : n = M + 1 := by omega
  obtain ⟨iI, hI0, hI1, hI2, hI3⟩ := info_parts int_info
  clear hF hr hn hl
  subst hn3
  go_enter Tryz.func60, Tryz.ntmps60
  go_wp2_with (refine wpList_make_full _ (by rfl) (.tmp 14) (.tmp 14) 96 (by rfl) w.heap.size 3 iI (.int .i64 0) 1 Tryz.underlying96 hI0 hI1 hI2 .i64 .i64 _ _ M (by rfl) (by rfl) (by omega) (by omega) (by rw [hI3]; omega) (by unfold maxLen; omega) (by omega) ?_)
  intro w2 ho2 hg2
  try simp only [Nat.mul_one] at ho2
  rw [made_ints, show List.replicate M (0 : Int) = nums (quoTo l x M 0) by rw [quoTo_zero]; simp [nums]] at ho2
  have HO2 := Lib.hid ho2
  have HW2 := Lib.hid (below_grown hg2 (Nat.le_refl _))
  clear ho2 hg2 hn2
  obtain ⟨G, hG⟩ : ∃ G, G = w.heap.size := ⟨_, rfl⟩
  rw [← hG] at HO2 ⊢
  have HG := Lib.hid hG
  clear hG
  go_wp2_with fail
  go_loopw [8, 9] (fun ov tv wr => ∃ r : Nat, r ≤ M ∧ ov = dig (evalP (l.drop (M + 1 - r)) x) ∧ tv = .int .i64 ((M : Int) - 1 - r) ∧ wr.ownsRow G 3 1 (.slice (some ⟨G, 0, none⟩) M M) M (ints (nums (quoTo l x M r))) ∧ Below w.heap.size w wr) (fun _ tv _ => (intOf tv + 1).toNat)
  case atStart => exact ⟨0, by omega, by rw [Nat.sub_zero, List.drop_of_length_le (by rw [HL.out]; exact Nat.le_refl _)]; rfl, by simp, HO2.out, HW2.out⟩
  case round =>
    clear HO2 HW2
    obtain ⟨r, hr, rfl, rfl, ho, hb⟩ := hrel
    by_cases hlt : r < M
    · obtain ⟨t, ht⟩ : ∃ t, t = M - 1 - r := ⟨_, rfl⟩
      have hte : (M : Int) - 1 - (r : Int) = (t : Int) := by omega
      rw [hte, show M + 1 - r = t + 1 + 1 by omega]
      have Hed := Lib.hid (eval_drop l x (t + 1) (by rw [HL.out]; omega))
      have Hset := Lib.hid (quoTo_set l x M r t (by omega))
      rw [Hed.out] at Hset
      have Hover := Lib.hid (show evalP (l.drop (M + 1 - (r + 1))) x = evalP (l.drop (t + 1)) x by rw [show M + 1 - (r + 1) = t + 1 by omega])
      rw [Hed.out] at Hover
      have Hql := Lib.hid (quoTo_len l x M r)
      generalize quoTo l x M r = L at ho Hset Hql
      generalize evalP (l.drop (t + 1 + 1)) x = ov at Hset Hover ⊢
      obtain ⟨b, off, hA, hc⟩ := (HR.out.below hb).int_at (i := t + 1) (by rw [nums_len, HL.out]; omega)
      rw [nums_at l _ (by rw [HL.out]; omega)] at hc
      subst hA
      generalize l.getD (t + 1) 0 = a at hc Hset Hover
      have HO := Lib.hid ho
      have Hte := Lib.hid hte
      have htI : (t : Int) < (M : Int) := by omega
      have htI2 : (t : Int) + 1 < ((M + 1 : Nat) : Int) := by omega
      have Htr := Lib.hid ht
      have htM : t < M := by omega
      clear ho hte ht Hed
      have Hc := Lib.hid hc
      clear hc
      go_wp2_with fail
      refine (mul_dig ov x _ g (HF.out.keep hb)).mono ?_
      rintro e w3 ⟨rfl, hb3⟩
      have hc3 := (hb3.cell (cell_lt Hc.out)).trans Hc.out
      have HO3 := Lib.hid (own_keep HO.out hb3)
      obtain ⟨cB, fB⟩ := own_cell HO3.out (i := t) htM (nums_get _ _ (by rw [Hql.out]; exact htM))
      have ho4 := own_put HO3.out t (dig (a ^^^ gm ov x))
      rw [← nums_set, Hset.out] at ho4
      have HO4 := Lib.hid ho4
      have HW4 := Lib.hid ((Below.chain hb hb3).setCell (p := ⟨G, t, none⟩) (by rw [HG.out]; exact Nat.le_refl _) (dig (a ^^^ gm ov x)))
      clear ho4
      go_wp2_with fail
      refine (add_dig a (gm ov x) _).mono ?_
      rintro e w4 ⟨rfl, rfl⟩
      go_wp2_with fail
      go_roundw
      case rel => exact ⟨r + 1, by omega, by rw [Hover.out], by have := Hte.out; congr 1; omega, HO4.out, HW4.out⟩
      case measure => simp [intOf]
    · obtain rfl : r = M := by omega
      rw [quoTo_all l x r HL.out] at ho
      have HO := Lib.hid ho
      clear ho
      go_wp2_with fail
      go_ret
      exact ⟨G, rfl, by rw [HG.out] at HO ⊢; exact HO.out, hb⟩
end Go.Proofs.YtkldllnlakaehaaGreatDoor
