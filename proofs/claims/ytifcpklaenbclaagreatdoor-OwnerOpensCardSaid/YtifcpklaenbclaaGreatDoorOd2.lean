/-
  Contract of the law's answer.
-/
import Derived.Test.YtifcpklaenbclaaGreatDoorOd
namespace Go.Proofs.YtifcpklaenbclaaGreatDoor
open Go.RowKit
set_option linter.unusedVariables false
set_option linter.unusedSimpArgs false
set_option maxRecDepth 100000
set_option maxHeartbeats 2000000

theorem load_ans {w : World} {g : Nat} {a0 a1 a2 a3 : Value} {t : TypeId} (h : w.heap[g]? = some (.cells #[a0, a1, a2, a3] t (0, 0))) : (loadVar 31 ⟨g, 0, none⟩).run Tryz.prog w = .ok (.agg #[a0, a1, a2, a3]) w := by
  have := run_loadVar_mid (P := Tryz.prog) w g 0 31 [a0, a1, a2, a3] _ (fun j v hj => by
    rw [Nat.zero_add, cell_of_row w g j _ _ _ h]
    simpa using hj) Tryz.underlying31 rfl (by kernel_rfl)
  simpa using this
theorem four_set {W : World} {g : Nat} {t : TypeId} {a0 a1 a2 a3 : Value} (h : W.heap[g]? = some (.cells #[a0, a1, a2, a3] t (0, 0))) (b0 b1 b2 b3 : Value) :
    ((((W.setCell ⟨g, 0, none⟩ b0).setCell ⟨g, 1, none⟩ b1).setCell ⟨g, 2, none⟩ b2).setCell ⟨g, 3, none⟩ b3).heap[g]? = some (.cells #[b0, b1, b2, b3] t (0, 0)) := by
  have := blk_set (blk_set (blk_set (blk_set h 0 b0) 1 b1) 2 b2) 3 b3
  simp only [List.setIfInBounds_toArray, List.set_cons_zero, List.set_cons_succ] at this
  exact this
def ansA (a : Ans) : Value := .agg #[.string a.nm, .string a.salt, .int .i64 a.x, .string a.b]
theorem ans_any (v : Value) (D : Deal) (i : Nat) (w : World) (hv : DV w v D) (h1 : i < D.r.ns.length) (h2 : i < D.sa.length) (h3 : i < D.sh.length) (h16 : D.r.ns.length ≤ 1000) :
    Calls Tryz.prog 15 #[v, .int .i64 (i : Nat)] w fun e w' => e = .returned (ansA (ansD D i)) ∧ Below w.heap.size w w' := by
  obtain ⟨A, n, c, B, m, d, C, p, q, E, s, t, rfl, hA, hn, hB, hm, hC, hp, hE, hs⟩ := hv
  have hO1 : Obj := .cells #[.int .i64 D.r.e, .int .i64 D.r.k, .slice A n c, .slice B m d, .string D.sec, .slice C p q, .slice E s t] 42
  have hX := heap_alloc_new w (.cells #[.int .i64 D.r.e, .int .i64 D.r.k, .slice A n c, .slice B m d, .string D.sec, .slice C p q, .slice E s t] 42)
  have hY := heap_alloc_new (w.alloc (.cells #[.int .i64 D.r.e, .int .i64 D.r.k, .slice A n c, .slice B m d, .string D.sec, .slice C p q, .slice E s t] 42)) (.cells #[.string ⟨#[]⟩, .string ⟨#[]⟩, .int .i64 0, .string ⟨#[]⟩] 31)
  have hX2 := (Below.heap_alloc (w.alloc (.cells #[.int .i64 D.r.e, .int .i64 D.r.k, .slice A n c, .slice B m d, .string D.sec, .slice C p q, .slice E s t] 42)) (.cells #[.string ⟨#[]⟩, .string ⟨#[]⟩, .int .i64 0, .string ⟨#[]⟩] 31) w.heap.size (by simp)).trans hX
  have hb := ((Below.refl w.heap.size w).alloc (Nat.le_refl _) (.cells #[.int .i64 D.r.e, .int .i64 D.r.k, .slice A n c, .slice B m d, .string D.sec, .slice C p q, .slice E s t] 42)).alloc (by simp) (.cells #[.string ⟨#[]⟩, .string ⟨#[]⟩, .int .i64 0, .string ⟨#[]⟩] 31)
  rw [World.size_alloc] at hY
  obtain ⟨b0, o0, hA0, k0⟩ := texts_at (hA.below hb) h1
  obtain ⟨b1, o1, hE0, k1⟩ := texts_at (hE.below hb) h2
  obtain ⟨b2, o2, hC0, k2, k3⟩ := (hC.below hb).shr h3
  subst hA0 hE0 hC0
  have Hv := Lib.hid (show ansA (ansD D i) = .agg #[.string D.r.ns[i], .string D.sa[i], .int .i64 D.sh[i].1, .string D.sh[i].2] by
    unfold ansA ansD
    rw [getD_eq h1, getD_eq h2, List.getD_eq_getElem?_getD, List.getElem?_eq_getElem h3]
    rfl)
  rw [Hv.out]
  generalize D.r.ns[i] = nm at k0 ⊢
  generalize D.sa[i] = sl at k1 ⊢
  generalize D.sh[i] = sh at k2 k3 ⊢
  obtain ⟨x, y⟩ := sh
  simp only at k2 k3 ⊢
  have i1 : (i : Int) < (n : Int) := by omega
  have i2 : (i : Int) < (s : Int) := by omega
  have i3 : (i : Int) < (p : Int) := by omega
  have i4 : i < 1001 := by omega
  obtain ⟨W0, hW0⟩ : ∃ W0, W0 = (w.alloc (.cells #[.int .i64 D.r.e, .int .i64 D.r.k, .slice (some ⟨b0, o0, none⟩) n c, .slice B m d, .string D.sec, .slice (some ⟨b2, o2, none⟩) p q, .slice (some ⟨b1, o1, none⟩) s t] 42)).alloc (.cells #[.string ⟨#[]⟩, .string ⟨#[]⟩, .int .i64 0, .string ⟨#[]⟩] 31) := ⟨_, rfl⟩
  rw [← hW0] at hX2 hY hb k0 k1 k2 k3
  have HW0 := Lib.hid hW0
  have HY := Lib.hid hY
  have HX := Lib.hid hX2
  have Hb := Lib.hid hb
  clear hA hn hB hm hC hp hE hs hX hX2 hY hb h1 h2 h3 h16 Hv hO1 hW0
  go_enter Tryz.func15, Tryz.ntmps15
  go_upto_region 1 with fail
  rw [← HW0.out]
  have x2 := rf_at HX.out 2 _ rfl
  have x5 := rf_at HX.out 5 _ rfl
  have x6 := rf_at HX.out 6 _ rfl
  have y0 := rf_at HY.out 0 _ rfl
  have y1 := rf_at HY.out 1 _ rfl
  have y2 := rf_at HY.out 2 _ rfl
  have y3 := rf_at HY.out 3 _ rfl
  have f0 := rf_fr HY.out 0
  have f1 := rf_fr HY.out 1
  have f2 := rf_fr HY.out 2
  have f3 := rf_fr HY.out 3
  go_still_tail 17, (by kernel_rfl)
  go_wp2_with fail
  refine bodyPost_ret (res_cell1 rfl _ _ (w.heap.size + 1) (by rfl) _ (load_ans (four_set (heap_drew HY.out) _ _ _ _))) rfl ?_
  exact ⟨rfl, (((Hb.out.drew.setCell (by simp) _).setCell (by simp) _).setCell (by simp) _).setCell (by simp) _⟩
end Go.Proofs.YtifcpklaenbclaaGreatDoor
