/-
  Contract of poly.Eval, at digits.
-/
import Derived.Test.YtidnlginjjgmjaaFold
namespace Go.Proofs.Ytidnlginjjgmjaa
open Go.RowKit
set_option linter.unusedVariables false
set_option maxRecDepth 100000
set_option maxHeartbeats 2000000

theorem eval_dig (l : List UInt8) (x : UInt8) (A : Option Addr) (n c : Nat) (w : World) (hr : Rd w A (ints (nums l))) (hn : n = l.length) (hl : l.length ≤ 255) :
    Calls Try.prog 26 #[.slice A n c, dig x] w fun e w' => e = .returned (.tuple #[dig (evalP l x), .bool true]) ∧ Below w.heap.size w w' := by
  have H := Lib.hid hr
  have HN := Lib.hid (show n = (nums l).length by rw [nums_len, hn])
  have hn' : n ≤ 255 := by omega
  have HL : Hid ((nums l).length ≤ 255) := Lib.hid (by rw [nums_len]; omega)
  have HA := Lib.hid (nums_all l)
  have HX := Lib.hid (show [(x.toNat : Int)].all digB = true from nums_all [x])
  clear hr hn
  go_enter Try.func26, Try.ntmps26
  go_wp2_with fail
  refine (digits_any (nums l) A n c _ (H.out.below ((Below.refl _ _).alloc (Nat.le_refl _) _)) HN.out (Nat.le_trans HL.out (by omega))).mono ?_
  rintro e w1 ⟨rfl, rfl⟩
  rw [HA.out]
  go_wp2_with fail
  refine (digits_any [(x.toNat : Int)] _ 1 1 _ (by exact rd_new' _ _ _ _ (by simp)) rfl (by simp)).mono ?_
  rintro e w1 ⟨rfl, rfl⟩
  rw [HX.out]
  go_wp2_with fail
  refine (new_field _).mono ?_
  rintro e w1 ⟨g, rfl, hF, hg, hb1⟩
  have hx1 : Box w1 w.heap.size 3 (dig x) := by
    rw [Box, hb1.block _ (by simp; omega)]
    exact (Below.heap_alloc _ _ _ (by simp)).trans (heap_alloc_new w _)
  have hW1 : Below w.heap.size w w1 := Below.chain (((Below.refl _ _).alloc (Nat.le_refl _) _).alloc (by simp) _) hb1
  have Hx1 := Lib.hid hx1
  have HF := Lib.hid hF
  have HW1 := Lib.hid hW1
  clear hx1 hF hb1 hg hW1
  go_wp2_with fail
  obtain ⟨w2, hw2⟩ : ∃ w2, w2 = (w1.alloc (.cells #[.pointer (some ⟨g, 0, none⟩)] 61)).alloc (.cells #[dig 1] 3) := ⟨_, rfl⟩
  have hB12 : Below w1.heap.size w1 w2 := by rw [hw2]; exact ((Below.refl _ _).alloc (Nat.le_refl _) _).alloc (by simp) _
  have hW2 := Below.chain HW1.out hB12
  have hf2 : Box w2 w1.heap.size 61 (.pointer (some ⟨g, 0, none⟩)) := by
    rw [Box, hw2]
    exact (Below.heap_alloc _ _ _ (by simp)).trans (heap_alloc_new w1 _)
  have hp2 : Box w2 (w1.heap.size + 1) 3 (dig 1) := by
    rw [Box, hw2]
    have := heap_alloc_new (w1.alloc (.cells #[.pointer (some ⟨g, 0, none⟩)] 61)) (.cells #[dig 1] 3)
    simpa using this
  have hx2 := cells_below Hx1.out hB12
  have hF2 := HF.out.keep hB12
  have hsz2 : w1.heap.size + 1 + 1 = w2.heap.size := by rw [hw2]; simp
  have hxl := cell_lt_of Hx1.out
  have hge : w.heap.size ≤ w1.heap.size := HW1.out.size
  have hR2 := H.out.below hW2
  refine Calls.mono (hw2 ▸ fold_ii (nums l) A n c (.int .i64 0) 45 #[.pointer (some ⟨w1.heap.size, 0, none⟩), .pointer (some ⟨w1.heap.size + 1, 0, none⟩), .pointer (some ⟨w.heap.size, 0, none⟩)] w2
    (fun k v W => k ≤ l.length ∧ v = dig (evalP (l.take k) x) ∧ Box W (w1.heap.size + 1) 3 (dig (pw x k)) ∧ w2.grownBy W (some (w1.heap.size + 1))) HN.out (Nat.le_trans HL.out (by omega)) (enters_of Try.func45 (by kernel_rfl) rfl) ⟨by omega, by simp [evalP], hp2, World.grownBy.refl _ _⟩ ?rd ?st) ?fin
  case rd =>
    rintro k v W ⟨_, _, _, hG⟩
    exact fun i u hu => by
      obtain ⟨b, off, hA, hc⟩ := H.out i u hu
      have hblt := cell_lt hc
      have hc2 : w2.cell? ⟨b, off + i, none⟩ = some u := (hW2.cell hblt).trans hc
      refine ⟨b, off, hA, ?_⟩
      have hne : b ≠ w1.heap.size + 1 := by simp only at hblt; omega
      have := hG.block b (by simp only at hblt; omega) (fun e => by injection e; omega)
      unfold World.cell? at hc2 ⊢
      rw [this]
      exact hc2
  case st =>
    rintro k v W hk ⟨hkl, rfl, hbox, hG⟩
    have hk' : k < l.length := by rw [nums_len] at hk; exact hk
    have kk : ∀ i o, i < w2.heap.size → i ≠ w1.heap.size + 1 → w2.heap[i]? = some o → W.heap[i]? = some o := fun i o hi hne ho => (hG.block i hi (fun e => by injection e; omega)).trans ho
    have hFW : IsField W g := by
      obtain ⟨L, e1, e2⟩ := hF2
      have : g < w1.heap.size := HF.out.lt
      exact ⟨L, kk g _ (by omega) (by omega) e1, e2⟩
    have hfW : Box W w1.heap.size 61 (.pointer (some ⟨g, 0, none⟩)) := kk _ _ (by omega) (by omega) hf2
    have hxW : Box W w.heap.size 3 (dig x) := kk _ _ (by omega) (by omega) hx2
    rw [nums_at l k hk']
    refine (eval1_any _ (l.getD k 0) (pw x k) x W g _ _ _ hFW hfW hbox hxW).mono ?_
    rintro e w' ⟨rfl, hb', hG'⟩
    exact ⟨_, rfl, by omega, by rw [eval_snoc' l x k hk'], hb', gbb_trans hG hG'⟩
  case fin =>
    rintro e w3 ⟨v, rfl, _, rfl, _, hG⟩
    rw [nums_len, List.take_of_length_le (Nat.le_refl _)]
    rw [← hw2] at hG
    have hW3 : Below w.heap.size w w3 := hW2.trans (grownBy_below' hG (by omega) (by omega))
    go_wp2_with fail
    go_ret2
    exact ⟨rfl, hW3⟩
end Go.Proofs.Ytidnlginjjgmjaa
