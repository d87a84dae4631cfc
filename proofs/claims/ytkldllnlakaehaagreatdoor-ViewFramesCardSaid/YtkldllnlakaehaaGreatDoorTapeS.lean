/-
  Contract of share.Tape.
-/
import Derived.Test.YtkldllnlakaehaaGreatDoorTapePlain
namespace Go.Proofs.YtkldllnlakaehaaGreatDoor
open Go.RowKit
set_option linter.unusedVariables false
set_option maxRecDepth 100000
set_option maxHeartbeats 1000000

theorem below_setLine {w0 w : World} {B : Nat} {t : TypeId} (h : Below B w0 w) (hB : B ≤ w.heap.size) (res : List UInt8) : Below B w0 ((w.alloc (.cells zeroLine t)).setCells w.heap.size 0 (bytesV res)) :=
  below_setCells hB _ _ _ (h.alloc hB _)
theorem heap_setLine {w : World} {t : TypeId} {res : List UInt8} (hr : res.length = 32) : ((w.alloc (.cells zeroLine t)).setCells w.heap.size 0 (bytesV res)).heap[w.heap.size]? = some (.cells (bytesV res).toArray t (0, 0)) := by
  have h := heap_alloc_new w (.cells zeroLine t)
  obtain ⟨ds, hd, hs, hi⟩ := setCells_block w.heap.size t (0, 0) (bytesV res) 0 _ _ h (by rw [bytesV_length, hr]; decide)
  have : ds = (bytesV res).toArray := by
    apply Array.ext_getElem?
    intro p
    rw [hi p, bytesV_length, hr]
    by_cases c : p < 32
    · rw [if_pos (by omega)]
      simp
    · rw [if_neg (by omega), Array.getElem?_eq_none (by show 32 ≤ p; omega), Array.getElem?_eq_none (by simp [bytesV, hr]; omega)]
  rw [hd, this]

theorem tape_arg (s : ByteArray) (A : Option Addr) (n c : Nat) (w : World) (hs : s.size ≠ 32) :
    Calls Tryz.prog 36 #[.string s, .slice A n c] w fun e w' => e = .returned (.tuple #[.string ⟨#[]⟩, .int .i64 1]) ∧ Below w.heap.size w w' := by
  have e1 : ((s.size : Int) != 32) = true := by simp; omega
  clear hs
  go_enter Tryz.func36, Tryz.ntmps36
  go_wp2_with fail
  go_ret2
  exact ⟨rfl, Below.refl _ _⟩
theorem tape_shares (s : ByteArray) (l : List Shr) (A : Option Addr) (n c : Nat) (w : World) (hs : s.size = 32) (hr : Rd w A (sharesV l)) (hn : n = l.length) (h : rightB l 1 = false ∨ l.length = 255) :
    Calls Tryz.prog 36 #[.string s, .slice A n c] w fun e w' => e = .returned (.tuple #[.string ⟨#[]⟩, .int .i64 90]) ∧ Below w.heap.size w w' := by
  have e1 : ((s.size : Int) != 32) = false := by simp; omega
  have HR := Lib.hid hr
  have HN := Lib.hid hn
  clear hs hr hn
  by_cases h1 : rightB l 1 = true
  · have H1 := Lib.hid h1
    have hl : n = 255 := by
      rcases h with h | h
      · rw [h1] at h; cases h
      · rw [HN.out, h]
    have e2 : ((n : Int) == 255) = true := by simp; omega
    clear h h1 hl
    go_enter Tryz.func36, Tryz.ntmps36
    go_wp2_with fail
    refine (right_any l 1 A n c _ HR.out HN.out (by omega)).mono ?_
    rintro e w1 ⟨rfl, hb⟩
    rw [H1.out]
    go_wp2_with fail
    go_ret2
    exact ⟨rfl, hb⟩
  · have H1 := Lib.hid (show rightB l 1 = false by simpa using h1)
    clear h h1
    go_enter Tryz.func36, Tryz.ntmps36
    go_wp2_with fail
    refine (right_any l 1 A n c _ HR.out HN.out (by omega)).mono ?_
    rintro e w1 ⟨rfl, hb⟩
    rw [H1.out]
    go_wp2_with fail
    go_ret2
    exact ⟨rfl, hb⟩
end Go.Proofs.YtkldllnlakaehaaGreatDoor
