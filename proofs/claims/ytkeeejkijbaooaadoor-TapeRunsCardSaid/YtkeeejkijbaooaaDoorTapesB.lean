/-
  The examples of chapter 12: keyholelaw12.tapes returns true; Number where it refuses.
-/
import Derived.Test.YtkeeejkijbaooaaDoorTapeB
namespace Go.Proofs.YtkeeejkijbaooaaDoor
open Go.RowKit
set_option linter.unusedVariables false

set_option maxHeartbeats 400000 in
theorem number_bad (t : Nat) (b : Int) (w : World) (hb : b < 1 ∨ 16777216 < b) :
    Calls Tryd.prog 29 #[.pointer (some ⟨t, 0, none⟩), .int .i64 b] w fun e w' => e = .returned (.tuple #[.int .i64 0, .int .i64 1]) ∧ w = w' := by
  by_cases h1 : b < 1
  · clear hb
    go_enter Tryd.func29, Tryd.ntmps29
    go_wp2_with fail
    go_ret2
    exact ⟨rfl, rfl⟩
  · have h2 : 16777216 < b := by omega
    have h3 : 1 ≤ b := by omega
    clear hb h1
    go_enter Tryd.func29, Tryd.ntmps29
    go_wp2_with fail
    go_ret2
    exact ⟨rfl, rfl⟩
set_option maxHeartbeats 400000 in
theorem number_more {B0 : Nat} (t : Nat) (L : List UInt8) (k : Nat) (b : Int) (w : World) (h : IsTape B0 w t L k) (hn : L.length < k + 3) (hb1 : 1 ≤ b) (hb2 : b ≤ 16777216) :
    Calls Tryd.prog 29 #[.pointer (some ⟨t, 0, none⟩), .int .i64 b] w fun e w' => e = .returned (.tuple #[.int .i64 0, .int .i64 120]) ∧ Below w.heap.size w w' := by
  have H := Lib.hid h
  clear h
  go_enter Tryd.func29, Tryd.ntmps29
  go_wp2_with fail
  refine (take_more t L k 3 w H.out (by omega)).mono ?_
  rintro e w2 ⟨rfl, hG⟩
  have HG := Lib.hid hG
  clear hG
  go_wp2_with fail
  go_ret2
  exact ⟨rfl, HG.out⟩

theorem grownBy_below {w w' : World} {t B : Nat} (h : w.grownBy w' (some t)) (hB : B ≤ t) (hB2 : B ≤ w.heap.size) : Below B w w' :=
  ⟨h.os, h.tape, h.output, h.size, fun i hi => h.block i (by omega) (fun e => by injection e with e; omega)⟩
theorem IsTape.lt {B0 : Nat} {w : World} {t : Nat} {L : List UInt8} {k : Nat} (h : IsTape B0 w t L k) : t < w.heap.size := cell_lt (h.cells.1)

set_option maxHeartbeats 1000000 in
theorem tapes_any (w : World) :
    Calls Tryd.prog 8 #[] w fun e w' => e = .returned (.bool true) ∧ Below w.heap.size w w' := by
  have E1 := Lib.hid (show bs ((([97, 98, 99, 100, 101] : List UInt8).drop 0).take 2) = ⟨#[97, 98]⟩ from rfl)
  have E2 := Lib.hid (show bs ((([97, 98, 99, 100, 101] : List UInt8).drop 2).take 3) = ⟨#[99, 100, 101]⟩ from rfl)
  have E3 := Lib.hid (show ((num3 ((([0, 1, 2] : List UInt8).drop 0).take 3) : Nat) : Int) % 100 = 58 from by decide +kernel)
  go_enter Tryd.func8, Tryd.ntmps8
  go_wp2_with fail
  refine (of_any w.heap.size ⟨#[97, 98, 99, 100, 101]⟩ w (by decide) (Nat.le_refl _)).mono ?_
  rintro e w1 ⟨t, rfl, ht, hT, hb⟩
  have HT : Hid (IsTape w.heap.size w1 t [97, 98, 99, 100, 101] 0) := hT
  clear hT
  go_wp2_with fail
  refine (of_any w.heap.size ⟨#[0, 1, 2]⟩ w1 (by decide) hb.size).mono ?_
  rintro e w2 ⟨u, rfl, hu, hU, hb2⟩
  have HU : Hid (IsTape w.heap.size w2 u [0, 1, 2] 0) := hU
  have hut : t < u := Nat.lt_of_lt_of_le HT.out.lt hu
  replace HT := Lib.hid (HT.out.below hb2)
  replace hb := Below.chain hb hb2
  clear hb2 hU hu
  go_wp2_with fail
  refine (take_any t _ 0 2 w2 HT.out (by decide)).mono ?_
  rintro e w3 ⟨rfl, hT, hG⟩
  rw [E1.out]
  replace HU := Lib.hid (HU.out.other HT.out (by omega) hG)
  replace hb := hb.trans (grownBy_below hG ht hb.size)
  replace HT := Lib.hid hT
  clear hT hG
  go_wp2_with fail
  refine (take_more t _ 2 4 w3 HT.out (by decide)).mono ?_
  rintro e w4 ⟨rfl, hb4⟩
  replace HU := Lib.hid (HU.out.below hb4)
  replace HT := Lib.hid (HT.out.below hb4)
  replace hb := Below.chain hb hb4
  clear hb4
  go_wp2_with fail
  refine (take_any t _ 2 3 w4 HT.out (by decide)).mono ?_
  rintro e w5 ⟨rfl, hT, hG⟩
  rw [E2.out]
  replace HU := Lib.hid (HU.out.other HT.out (by omega) hG)
  replace hb := hb.trans (grownBy_below hG ht hb.size)
  replace HT := Lib.hid hT
  clear hT hG
  go_wp2_with fail
  refine (number_any u _ 0 100 w5 HU.out (by decide) (by decide) (by decide)).mono ?_
  rintro e w6 ⟨rfl, hU, hG⟩
  rw [E3.out]
  replace HT := Lib.hid (HT.out.other HU.out (by omega) hG)
  replace hb := hb.trans (grownBy_below hG (by omega) hb.size)
  clear hU hG
  go_wp2_with fail
  refine (taken_any t _ 5 w6 HT.out).mono ?_
  rintro e w7 ⟨rfl, rfl⟩
  go_wp2_with fail
  go_ret
  exact ⟨rfl, hb⟩
end Go.Proofs.YtkeeejkijbaooaaDoor
