/-
  Contracts of the laws' views, far, and of keyholeref09.Same.
-/
import Derived.Test.YtidnlginjjgmjaaFront
import Derived.Test.YtidnlginjjgmjaaViewT
namespace Go.Proofs.Ytidnlginjjgmjaa
open Go.RowKit
set_option linter.unusedVariables false
set_option maxRecDepth 100000
set_option maxHeartbeats 2000000

theorem far5 : (bs (List.replicate 32 (5 : UInt8))).size = 32 := by rfl
theorem remap_two : remapV (List.replicate 32 5) (List.replicate 32 5) (List.replicate 32 5) 3 1 [true, true] = .tuple #[.string ⟨#[]⟩, .int .i64 90] := by
  rw [remapV, if_pos (by left; decide)]
theorem remap_one : remapV (List.replicate 32 5) (List.replicate 32 5) (List.replicate 32 5) 3 1 [true] = .tuple #[.string (bs (List.replicate 32 5)), .int .i64 0] := by
  rw [remapV, if_neg (by decide)]
  have h := pos_facts [true] 3 1 (by omega) (by decide)
  rw [tape_back (List.replicate 32 5) (List.replicate 32 5) 3 1 _ (by omega) h.1 h.2.1 h.2.2.1 (by simp)]

theorem views_any (w : World) : Calls Try.prog 9 #[] w fun e w' => e = .returned (.bool true) ∧ Below w.heap.size w w' := by
  obtain ⟨s, hs⟩ : ∃ s, s = bs (List.replicate 32 (5 : UInt8)) := ⟨_, rfl⟩
  have Hs32 := Lib.hid (show s.size = 32 by rw [hs]; rfl)
  have Hsd := Lib.hid (show s.data.toList = List.replicate 32 5 by rw [hs]; rfl)
  have Hm := Lib.hid (many_any 5 32 w (by omega))
  rw [← hs] at Hm
  have Hs := Lib.hid hs
  clear hs
  go_enter Try.func9, Try.ntmps9
  go_wp2_with fail
  refine Calls.mono (by exact Hm.out) ?_
  rintro e w1 ⟨rfl, hb1⟩
  go_wp2_with fail
  refine Calls.mono (by exact remap_yes s s s 3 1 [true, true] _ 2 2 _ Hs32.out Hs32.out (by rw [Hs32.out]) (by omega) (by omega) (rd_new _ _ _) rfl (by simp)) ?_
  rintro e w2 ⟨rfl, hb2⟩
  rw [Hsd.out, remap_two]
  replace hb2 := Below.chain_alloc hb1 hb2
  clear hb1
  go_wp2_with fail
  refine Calls.mono (by exact remap_yes s s s 3 1 [true] _ 1 1 _ Hs32.out Hs32.out (by rw [Hs32.out]) (by omega) (by omega) (rd_new _ _ _) rfl (by simp)) ?_
  rintro e w3 ⟨rfl, hb3⟩
  rw [Hsd.out, remap_one, ← Hs.out]
  replace hb3 := Below.chain_alloc hb2 hb3
  clear hb2
  go_wp2_with fail
  refine (block_any _ _ (by decide)).mono ?_
  rintro e w4 ⟨rfl, hb4⟩
  replace hb4 := Below.chain hb3 hb4
  clear hb3
  rw [show bs (frontL 12 (⟨#[49, 50, 51, 52, 53, 54, 55, 56, 57, 48, 49, 50, 97, 98, 99]⟩ : ByteArray).data.toList) = ⟨#[49, 50, 51, 52, 53, 54, 55, 56, 57, 48, 49, 50, 0, 0, 0]⟩ by rfl]
  go_wp2_with fail
  refine (frame_any _ _ (by decide)).mono ?_
  rintro e w5 ⟨rfl, hb5⟩
  replace hb5 := Below.chain hb4 hb5
  clear hb4
  rw [show bs (frontL 8 (⟨#[49, 50, 51, 52, 53, 54, 55, 56, 120]⟩ : ByteArray).data.toList) = ⟨#[49, 50, 51, 52, 53, 54, 55, 56, 0]⟩ by rfl]
  go_wp2_with fail
  refine (frame_any _ _ (by decide)).mono ?_
  rintro e w6 ⟨rfl, hb6⟩
  replace hb6 := Below.chain hb5 hb6
  clear hb5
  rw [show bs (frontL 8 (⟨#[97, 98, 99]⟩ : ByteArray).data.toList) = ⟨#[97, 98, 99]⟩ by rfl]
  go_wp2_with fail
  go_ret
  exact ⟨by simp, hb6⟩

theorem same_eq (l : List Shr) (A A2 : Option Addr) (n c c2 : Nat) (w : World) (hr : Rd w A (sharesV l)) (hr2 : Rd w A2 (sharesV l)) (hn : n = l.length) (hl : l.length ≤ 100000) :
    Calls Try.prog 10 #[.slice A n c, .slice A2 n c2] w fun e w' => e = .returned (.bool true) ∧ Below w.heap.size w w' := by
  have HR := Lib.hid hr
  have HR2 := Lib.hid hr2
  have HN := Lib.hid hn
  have hn1 : n ≤ 100000 := by omega
  clear hr hr2 hn
  go_enter Try.func10, Try.ntmps10
  go_wp2_with fail
  go_loopw [5] (fun x wr => ∃ i : Nat, i ≤ n ∧ x = .int .i64 (i : Nat) ∧ Below w.heap.size w wr) (fun x _ => n - (intOf x).toNat)
  case atStart => exact ⟨0, by omega, rfl, Below.refl _ _⟩
  case round =>
    obtain ⟨i, hi, rfl, hW⟩ := hrel
    by_cases hlt : i < n
    · have hil : i < l.length := by rw [← HN.out]; exact hlt
      obtain ⟨b, off, hA, c1, c2'⟩ := (HR.out.below hW).shr hil
      obtain ⟨b2, off2, hA2, d1, d2⟩ := (HR2.out.below hW).shr hil
      subst hA hA2
      generalize l[i] = p at c1 c2' d1 d2
      obtain ⟨x, bb⟩ := p
      simp only at c1 c2' d1 d2
      have hi2 : (i : Int) < (n : Int) := by omega
      have C1 := Lib.hid c1
      have C2 := Lib.hid c2'
      have D1 := Lib.hid d1
      have D2 := Lib.hid d2
      clear c1 c2' d1 d2
      go_wp2_with fail
      have c1 := C1.out
      have c2' := C2.out
      have d1 := D1.out
      have d2 := D2.out
      go_quiet (fail)
      rename_i nq
      have HB := below_drewN hW nq
      go_wp2_with fail
      go_roundw
      case rel => exact ⟨i + 1, by omega, by go_num, HB⟩
      case measure => simp [intOf]; omega
    · obtain rfl : i = n := by omega
      go_wp2_with fail
      go_ret
      exact ⟨rfl, hW⟩
end Go.Proofs.Ytidnlginjjgmjaa
