/-
  Contracts of package digest: the small functions, and the words of a block.
-/
import Derived.Test.YtkeeejkijbaooaaDoorGen
import Derived.Test.YtkeeejkijbaooaaDoorJoin
import Derived.Test.YtkeeejkijbaooaaDoorArr2
import Derived.Deep.DrawnRows
namespace Go.Proofs.YtkeeejkijbaooaaDoor
open Go.RowKit
set_option linter.unusedVariables false

theorem dadd_eq (A : Option Addr) (n c : Nat) (xs : List Int) (w : World) (h : Rd w A (ints xs)) (hn : n = xs.length) (hl : xs.length ≤ 9223372036854775807) (hw : wordsB xs = true) :
    Calls Tryd.prog 69 #[.slice A n c] w fun e w' => e = .returned (.int .i64 (addI xs)) ∧ w = w' := by
  have H := Lib.hid h
  have HW := Lib.hid hw
  have HN := Lib.hid hn
  clear h hw hn
  go_enter Tryd.func69, Tryd.ntmps69
  go_wp2_with fail
  refine (add_any A n c xs w H.out HN.out hl HW.out).mono ?_
  rintro e w' ⟨rfl, rfl⟩
  go_wp2_with fail
  go_ret
  exact ⟨rfl, rfl⟩
theorem dadd_any (A : Option Addr) (n c : Nat) (xs : List Int) (w : World) (h : Rd w A (ints xs)) (hn : n = xs.length) (hl : xs.length ≤ 9223372036854775807) (hw : wordsB xs = true) :
    Calls Tryd.prog 69 #[.slice A n c] w fun e w' => e = .returned (.int .i64 (addI xs)) ∧ Below w.heap.size w w' :=
  (dadd_eq A n c xs w h hn hl hw).mono fun _ _ h => ⟨h.1, below_of_eq h.2⟩
theorem dand_any (a b : Int) (w : World) (ha : Wd a) (hb : Wd b) :
    Calls Tryd.prog 72 #[.int .i64 a, .int .i64 b] w fun e w' => e = .returned (.int .i64 (andI a b)) ∧ Below w.heap.size w w' := by
  have HA := Lib.hid ha
  have HB := Lib.hid hb
  clear ha hb
  go_enter Tryd.func72, Tryd.ntmps72
  go_wp2_with fail
  refine (and_any a b w (wordsB2.2 ⟨HA.out, HB.out⟩)).mono ?_
  rintro e w' ⟨rfl, hb⟩
  go_wp2_with fail
  go_ret
  exact ⟨rfl, hb⟩
theorem back_any (x n : Int) (w : World) (hx : Wd x) (h0 : 0 ≤ n) (h1 : n ≤ 32) :
    Calls Tryd.prog 71 #[.int .i64 x, .int .i64 n] w fun e w' => e = .returned (.int .i64 (rotI x (32 - n))) ∧ Below w.heap.size w w' := by
  have HX := Lib.hid hx
  clear hx
  go_enter Tryd.func71, Tryd.ntmps71
  go_wp2_with fail
  refine (rot_any x (32 - n) w (wordsB1.2 HX.out) (by omega) (by omega)).mono ?_
  rintro e w' ⟨rfl, hb⟩
  go_wp2_with fail
  go_ret
  exact ⟨rfl, hb⟩

theorem fall_any (x n : Int) (w : World) (hx : Wd x) (hn : 0 ≤ n) (h1 : n ≤ 32) :
    Calls Tryd.prog 91 #[.int .i64 x, .int .i64 n] w fun e w' => e = .returned (.int .i64 (fallI x n)) ∧ Below w.heap.size w w' := by
  have h0 := hx.1
  have h2 := hx.2
  obtain ⟨m, rfl⟩ := Int.eq_ofNat_of_zero_le hn
  go_enter Tryd.func91, Tryd.ntmps91
  go_wp2_with fail
  go_ret
  refine ⟨ret_int ?_, Below.refl _ _⟩
  have hm : min m 64 = m := Nat.min_eq_left (by omega)
  have hf := wd_fall m hx
  unfold fallI Wd at hf
  unfold fallI
  first
    | (simp; done)
    | (rw [IntWalk.i64_in _ (by simp [hm] at hf ⊢; omega)]; simp [hm])

set_option maxHeartbeats 400000 in
theorem dxor_any (A : Option Addr) (n c : Nat) (xs : List Int) (w : World) (h : Rd w A (ints xs)) (hn : n = xs.length) (hl : xs.length ≤ 1000) (hw : wordsB xs = true) :
    Calls Tryd.prog 70 #[.slice A n c] w fun e w' => e = .returned (.int .i64 (xorL xs)) ∧ Below w.heap.size w w' := by
  subst hn
  have H := Lib.hid h
  have HW := Lib.hid (wd_all hw)
  clear h hw
  go_enter Tryd.func70, Tryd.ntmps70
  go_wp2
  go_loopw [3, 8] (fun s i wr => ∃ k : Nat, k ≤ xs.length ∧ i = .int .i64 k ∧ s = .int .i64 (xorL (xs.take k)) ∧ Below w.heap.size w wr) (fun _ i _ => xs.length - (intOf i).toNat)
  case atStart => exact ⟨0, Nat.zero_le _, rfl, rfl, Below.refl _ _⟩
  case round =>
    obtain ⟨k, hk, rfl, rfl, hb⟩ := hrel
    have HB := Lib.hid hb
    clear hb
    by_cases hlt : k < xs.length
    · obtain ⟨b, off, rfl, hc⟩ := (H.out.below HB.out).int_at hlt
      have Hs := Lib.hid (show xorL (xs.take (k + 1)) = xorI (xorL (xs.take k)) (xs.getD k 0) by
        rw [List.take_succ_eq_append_getElem hlt, xorL, List.foldl_append]
        simp [xorL, hlt])
      have Hx := Lib.hid (show Wd (xs.getD k 0) from by
        have : xs.getD k 0 = xs[k] := by simp [hlt]
        rw [this]
        exact HW.out _ (List.getElem_mem hlt))
      have Hp := Lib.hid (show Wd (xorL (xs.take k)) from wd_xorL fun x hx => HW.out x (List.mem_of_mem_take hx))
      generalize xs.getD k 0 = x at hc Hs Hx
      generalize xorL (xs.take k) = s at Hs Hp
      go_wp2_with fail
      refine (xor_any s x wr (wordsB2.2 ⟨Hp.out, Hx.out⟩)).mono ?_
      rintro e w' ⟨rfl, hb⟩
      have HB2 := Lib.hid (Below.chain HB.out hb)
      clear hb
      go_wp2_with fail
      go_roundw
      case rel => exact ⟨k + 1, by omega, by go_num, by rw [Hs.out], HB2.out⟩
      case measure => simp [intOf]; omega
    · go_wp2
      go_ret
      exact ⟨ret_int (by rw [List.take_of_length_le (by omega)]), HB.out⟩
/-- The same at a row that was just laid: two words, three words. -/
theorem dxor2_any (a b : Int) (c g : Nat) (w : World) (hg : w.heap.size = g) (ha : Wd a) (hb : Wd b) :
    Calls Tryd.prog 70 #[.slice (some ⟨g, 0, none⟩) 2 c] (w.alloc (.cells #[.int .i64 a, .int .i64 b] 3)) fun e w' => e = .returned (.int .i64 (xorL [a, b])) ∧ Below (w.alloc (.cells #[.int .i64 a, .int .i64 b] 3)).heap.size (w.alloc (.cells #[.int .i64 a, .int .i64 b] 3)) w' :=
  dxor_any _ _ _ [a, b] _ (rd_new' _ _ _ _ hg) rfl (by simp) (wordsB2.2 ⟨ha, hb⟩)
theorem dxor3_any (a b d : Int) (c g : Nat) (w : World) (hg : w.heap.size = g) (ha : Wd a) (hb : Wd b) (hd : Wd d) :
    Calls Tryd.prog 70 #[.slice (some ⟨g, 0, none⟩) 3 c] (w.alloc (.cells #[.int .i64 a, .int .i64 b, .int .i64 d] 3)) fun e w' => e = .returned (.int .i64 (xorL [a, b, d])) ∧ Below (w.alloc (.cells #[.int .i64 a, .int .i64 b, .int .i64 d] 3)).heap.size (w.alloc (.cells #[.int .i64 a, .int .i64 b, .int .i64 d] 3)) w' :=
  dxor_any _ _ _ [a, b, d] _ (rd_new' _ _ _ _ hg) rfl (by simp) (wd3 ha hb hd)
theorem dadd2_any (a b : Int) (c g : Nat) (w : World) (hg : w.heap.size = g) (ha : Wd a) (hb : Wd b) :
    Calls Tryd.prog 69 #[.slice (some ⟨g, 0, none⟩) 2 c] (w.alloc (.cells #[.int .i64 a, .int .i64 b] 3)) fun e w' => e = .returned (.int .i64 (addI [a, b])) ∧ Below (w.alloc (.cells #[.int .i64 a, .int .i64 b] 3)).heap.size (w.alloc (.cells #[.int .i64 a, .int .i64 b] 3)) w' :=
  dadd_any _ _ _ [a, b] _ (rd_new' _ _ _ _ hg) rfl (by simp) (wordsB2.2 ⟨ha, hb⟩)
end Go.Proofs.YtkeeejkijbaooaaDoor
