/-
  Contracts of view.has, view.Shares.
-/
import Derived.Test.YtkldllnlakaehaaGreatDoorTapeS2
namespace Go.Proofs.YtkldllnlakaehaaGreatDoor
open Go.RowKit
set_option linter.unusedVariables false
set_option maxRecDepth 100000
set_option maxHeartbeats 2000000

def bools (ws : List Bool) : List Value := ws.map Value.bool
/-- Those of l at the places ps. -/
def gets (l : List Shr) (ps : List Nat) : List Shr := ps.map fun i => l.getD i (0, ⟨#[]⟩)
/-- Those places below i that ws has. -/
def hasPos (ws : List Bool) (i : Nat) : List Nat := (List.range i).filter fun j => ws.getD j false
theorem hasPos_succ (ws : List Bool) (i : Nat) : hasPos ws (i + 1) = hasPos ws i ++ (if ws.getD i false then [i] else []) := by
  rw [hasPos, List.range_succ, List.filter_append, ← hasPos]
  by_cases h : ws.getD i false = true
  · rw [if_pos h]
    simp at h
    simp [h]
  · rw [if_neg h]
    simp at h
    simp [h]
theorem gets_snoc (l : List Shr) (ps : List Nat) (i : Nat) (h : i < l.length) : gets l (ps ++ [i]) = gets l ps ++ [l[i]] := by simp [gets, h]
theorem gets_len (l : List Shr) (ps : List Nat) : (gets l ps).length = ps.length := by simp [gets]
theorem sharesV_append (l m : List Shr) : sharesV (l ++ m) = sharesV l ++ sharesV m := by simp [sharesV]
theorem hasPos_len (ws : List Bool) (i : Nat) : (hasPos ws i).length ≤ i := by
  have := List.length_filter_le (fun j => ws.getD j false) (List.range i)
  simpa [hasPos] using this

theorem whas_any (ws : List Bool) (i : Nat) (A : Option Addr) (n c : Nat) (w : World) (hr : Rd w A (bools ws)) (hn : n = ws.length) (hn2 : n ≤ 1000000) (hi : i ≤ 1000000) :
    Calls Tryz.prog 35 #[.slice A n c, .int .i64 (i : Int)] w fun e w' => e = .returned (.bool (ws.getD i false)) ∧ w' = w := by
  by_cases h : i < n
  · have hl : i < ws.length := by omega
    obtain ⟨b, off, hA, hc⟩ := hr i (.bool (ws.getD i false)) (by simp [bools, hl])
    subst hA
    generalize ws.getD i false = x at hc
    have hI : (i : Int) < (n : Int) := by omega
    clear hr hn hl
    go_enter Tryz.func35, Tryz.ntmps35
    go_wp2_with fail
    go_ret
    exact ⟨rfl, rfl⟩
  · have hf : ws.getD i false = false := by
      have : ws.length ≤ i := by omega
      simp [this]
    rw [hf]
    have d1 : decide ((i : Int) < (n : Int)) = false := by simp; omega
    clear hr hn hf
    go_enter Tryz.func35, Tryz.ntmps35
    go_wp2_with fail
    go_ret
    exact ⟨rfl, rfl⟩

theorem vshares_any (l : List Shr) (ws : List Bool) (A A2 : Option Addr) (n c n2 c2 : Nat) (w : World) (hr : Rd w A (sharesV l)) (hn : n = l.length) (hl : l.length ≤ 1000) (hr2 : Rd w A2 (bools ws)) (hn2 : n2 = ws.length) (hl2 : ws.length ≤ 1000) :
    Calls Tryz.prog 34 #[.slice A n c, .slice A2 n2 c2] w fun e w' => ∃ B cap, e = .returned (.slice B (hasPos ws n).length cap) ∧ w'.ownsRow w.heap.size 77 2 (.slice B (hasPos ws n).length cap) (hasPos ws n).length (sharesV (gets l (hasPos ws n))) ∧ Below w.heap.size w w' := by
  have HR := Lib.hid hr
  have HR2 := Lib.hid hr2
  have HN := Lib.hid hn
  have HN2 := Lib.hid hn2
  have hnl : n ≤ 1000 := by omega
  have hnl2 : n2 ≤ 1000 := by omega
  clear hr hr2 hn hn2
  go_enter Tryz.func34, Tryz.ntmps34
  go_wp2_with fail
  go_loopw [5, 10] (fun v x wr => ∃ (i cap : Nat) (B : Option Addr), i ≤ n ∧ x = .int .i64 (i : Nat) ∧ v = .slice B (hasPos ws i).length cap ∧ wr.ownsRow w.heap.size 77 2 v (hasPos ws i).length (sharesV (gets l (hasPos ws i))) ∧ Below w.heap.size w wr) (fun _ x _ => n - (intOf x).toNat)
  case atStart => exact ⟨0, 0, none, by omega, rfl, rfl, ⟨rfl, .inl ⟨rfl, rfl⟩⟩, Below.refl _ _⟩
  case round =>
    obtain ⟨i, cap, B, hi, rfl, rfl, ho, hW⟩ := hrel
    have HO := Lib.hid ho
    have HW := Lib.hid hW
    by_cases hlt : i < n
    · have hil : i < l.length := by rw [← HN.out]; exact hlt
      obtain ⟨b, off, hA, c1, c2'⟩ := (HR.out.below hW).shr hil
      subst hA
      have Hsn := Lib.hid (hasPos_succ ws i)
      have Hgs := Lib.hid (gets_snoc l (hasPos ws i) i hil)
      have hpl := hasPos_len ws i
      generalize hasPos ws i = ps at HO Hsn Hgs hpl
      generalize l[i] = p at c1 c2' Hgs
      obtain ⟨x, bb⟩ := p
      simp only at c1 c2'
      have hbA := (Below.refl wr.heap.size wr).alloc (Nat.le_refl _) (.cells #[.int .i64 x, .string bb] 77)
      clear ho hW
      by_cases hh : ws.getD i false = true
      · rw [if_pos hh] at Hsn
        have Hh := Lib.hid hh
        clear hh
        go_wp2_with fail
        refine (whas_any ws i A2 n2 c2 _ (HR2.out.below (HW.out.alloc HW.out.size _)) HN2.out (by omega) (by omega)).mono ?_
        rintro e w2 ⟨rfl, rfl⟩
        rw [Hh.out]
        have HO1 := Lib.hid (own_keep HO.out hbA)
        have hp2 : ps.length ≤ 1000 := by omega
        go_wp2_with (refine wpList_append_new (by rfl) (.tmp 18) (.tmp 20) 72 (by rfl) w.heap.size 77 (.agg #[.int .i64 0, .string ⟨#[]⟩]) 2 24 Tryz.underlying72 share_info rfl (by omega) (wr.alloc (.cells #[.int .i64 x, .string bb] 77)) _ _ _ _ _ (by rfl) HO1.out _ 1 1 (by rfl) (by simp) (by rfl) (by rfl) (by omega) (by omega) (by omega) (by have := HW.out.size; simp; omega) ?_)
        intro g2 cap2 w3 ho3 hb3 _ _ _
        have HO3 := Lib.hid ho3
        have HW3 := Lib.hid ((HW.out.alloc HW.out.size _).trans hb3)
        clear ho3 hb3
        have hT : ps.length + 1 = (hasPos ws (i + 1)).length := by rw [Hsn.out]; simp
        rw [hT] at HO3 ⊢
        have HT := Lib.hid hT
        clear hT
        generalize hq : (hasPos ws (i + 1)).length = Q at HO3 HT ⊢
        have HQ := Lib.hid hq
        clear hq
        go_wp2_with fail
        go_roundw
        case rel =>
          refine ⟨i + 1, cap2, _, by omega, by go_num, by rw [HQ.out], ?_, HW3.out⟩
          rw [HQ.out, Hsn.out, Hgs.out, sharesV_append]
          exact HO3.out
        case measure => simp [intOf]; omega
      · rw [if_neg hh, List.append_nil] at Hsn
        have Hh := Lib.hid (show ws.getD i false = false by simpa using hh)
        clear hh
        go_wp2_with fail
        refine (whas_any ws i A2 n2 c2 _ (HR2.out.below (HW.out.alloc HW.out.size _)) HN2.out (by omega) (by omega)).mono ?_
        rintro e w2 ⟨rfl, rfl⟩
        rw [Hh.out]
        go_wp2_with fail
        go_roundw
        case rel => exact ⟨i + 1, cap, B, by omega, by go_num, by rw [Hsn.out], by rw [Hsn.out]; exact own_keep HO.out hbA, HW.out.alloc HW.out.size _⟩
        case measure => simp [intOf]; omega
    · obtain rfl : i = n := by omega
      clear ho hW
      go_wp2_with fail
      go_ret
      exact ⟨B, cap, rfl, HO.out, HW.out⟩
end Go.Proofs.YtkldllnlakaehaaGreatDoor
