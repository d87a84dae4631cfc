/-
  Contract of poly.Weights.
-/
import Derived.Test.YtidnlginjjgmjaaDoorWeights
namespace Go.Proofs.YtidnlginjjgmjaaDoor
open Go.RowKit
set_option linter.unusedVariables false
set_option maxRecDepth 100000
set_option maxHeartbeats 600000

theorem gb_next' {w w1 w2 : World} {r : Option Nat} (h : w.grownBy w1 r) (hb : Below w1.heap.size w1 w2) : w.grownBy w2 r :=
  ⟨hb.os.trans h.os, hb.tape.trans h.tape, hb.output.trans h.output, Nat.le_trans h.size hb.size, fun i hi hr => (hb.block i (Nat.lt_of_lt_of_le hi h.size)).trans (h.block i hi hr)⟩
theorem weights1_other (p o x at' : UInt8) (k i : Int) (w : World) (g gk gi' gf gx ga : Nat) (hk : Box w gk 3 (.int .i64 (k - 1))) (hi : Box w gi' 3 (.int .i64 i)) (hf : Box w gf 74 (.pointer (some ⟨g, 0, none⟩))) (hx : Box w gx 3 (dig x)) (ha : Box w ga 3 (dig at')) (hF : IsField w g)
    (hni : gi' ≠ gk) (hnf : gf ≠ gk) (hnx : gx ≠ gk) (hna : ga ≠ gk) (hng : g ≠ gk) (hkb : 0 ≤ k ∧ k ≤ 1000) (hki : k ≠ i) (hao : at' ≠ o) :
    Calls Tryd.prog 66 #[dig p, dig o, .pointer (some ⟨gk, 0, none⟩), .pointer (some ⟨gi', 0, none⟩), .pointer (some ⟨gf, 0, none⟩), .pointer (some ⟨gx, 0, none⟩), .pointer (some ⟨ga, 0, none⟩)] w fun e w' => e = .returned (dig (gm p (gm (x ^^^ o) (gi (at' ^^^ o))))) ∧ Box w' gk 3 (.int .i64 k) ∧ w.grownBy w' (some gk) := by
  obtain ⟨w1, hw1⟩ : ∃ w1, w1 = w.setCell ⟨gk, 0, none⟩ (.int .i64 k) := ⟨_, rfl⟩
  have kk : ∀ b o, w.heap[b]? = some o → b ≠ gk → w1.heap[b]? = some o := fun b o h hne => by rw [hw1]; exact (Below.heap_setCell _ _ _ _ hne).trans h
  have hf1 : Box w1 gf 74 (.pointer (some ⟨g, 0, none⟩)) := kk _ _ hf hnf
  have hx1 : Box w1 gx 3 (dig x) := kk _ _ hx hnx
  have ha1 : Box w1 ga 3 (dig at') := kk _ _ ha hna
  have hF1 : IsField w1 g := by
    obtain ⟨L, h1, h2⟩ := hF
    exact ⟨L, kk _ _ h1 hng, h2⟩
  have Hk1 := Lib.hid (show Box w1 gk 3 (.int .i64 k) by rw [hw1]; exact box_set hk _)
  have HG := Lib.hid (show w.grownBy w1 (some gk) by rw [hw1]; exact ⟨rfl, rfl, rfl, by simp, fun i hi hne => Below.heap_setCell _ _ _ _ (fun e => hne (by rw [e]))⟩)
  have ck := one_cell hk
  have fk := box_free hk
  have ci := one_cell hi
  have cf : ∀ y : Later w1, y.x.cell? ⟨gf, 0, none⟩ = some (.pointer (some ⟨g, 0, none⟩)) := fun y => y.cell (one_cell hf1)
  have cx : ∀ y : Later w1, y.x.cell? ⟨gx, 0, none⟩ = some (dig x) := fun y => y.cell (one_cell hx1)
  have ca : ∀ y : Later w1, y.x.cell? ⟨ga, 0, none⟩ = some (dig at') := fun y => y.cell (one_cell ha1)
  have H1 : Hid (∀ y : Later w1, Calls Tryd.prog 38 #[dig x, dig o] y.x fun e w' => e = .returned (dig (x ^^^ o)) ∧ ∃ z : Later w1, w' = z.x) := Lib.hid fun y => (padd_dig x o y.x).mono fun e w' ⟨h1, h2⟩ => ⟨h1, y, h2⟩
  have H2 : Hid (∀ y : Later w1, Calls Tryd.prog 38 #[dig at', dig o] y.x fun e w' => e = .returned (dig (at' ^^^ o)) ∧ ∃ z : Later w1, w' = z.x) := Lib.hid fun y => (padd_dig at' o y.x).mono fun e w' ⟨h1, h2⟩ => ⟨h1, y, h2⟩
  have H3 : Hid (∀ y : Later w1, Calls Tryd.prog 67 #[.pointer (some ⟨g, 0, none⟩), dig (x ^^^ o), dig (at' ^^^ o)] y.x fun e w' => e = .returned (.tuple #[dig (gm (x ^^^ o) (gi (at' ^^^ o))), .bool true]) ∧ ∃ z : Later w1, w' = z.x) :=
    Lib.hid fun y => later_call (div_dig _ _ y.x g (hF1.keep y.ok) (x_ne hao))
  have HF1 := Lib.hid hF1
  have hk1 : k - 1 + 1 = k := by omega
  have eki : (k == i) = false := by simpa using hki
  obtain ⟨h0, h1⟩ := hkb
  have Hf1 := Lib.hid hf1
  clear hk hi hf hx ha hF hf1 hx1 ha1 hF1 kk hki
  generalize x ^^^ o = xo at H1 H3 ⊢
  generalize at' ^^^ o = ao at H2 H3 ⊢
  generalize gm xo (gi ao) = qq at H3 ⊢
  go_enter Tryd.func66, Tryd.ntmps66
  go_wp2_with fail
  rw [← hw1]
  refine wp_region_later (by kernel_rfl) (by kernel_rfl) ?_
  repeat (go_big_quiet_step (first | with_reducible exact H1.out _ | with_reducible exact H2.out _ | with_reducible exact H3.out _))
  refine wpQuiet_nil ?_
  rintro _ ⟨y, rfl⟩
  have cfy := cf y
  go_wp2_with fail
  refine (pmul_dig p qq _ g (HF1.out.keep y.ok)).mono ?_
  rintro e w2 ⟨rfl, hb2⟩
  have hb := Below.chain y.ok hb2
  go_wp2_with fail
  go_ret
  exact ⟨rfl, cells_below Hk1.out hb, gb_next' HG.out hb⟩
end Go.Proofs.YtidnlginjjgmjaaDoor
