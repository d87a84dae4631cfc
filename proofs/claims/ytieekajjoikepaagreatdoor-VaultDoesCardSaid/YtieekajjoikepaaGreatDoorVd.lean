/-
  Contracts of vault's deeds: the steps that lay blocks, told one by one.
  Contracts of vault's deeds: the iterator that tells the steps.
-/
import Derived.Test.YtieekajjoikepaaGreatDoorVh
import Derived.Test.YtieekajjoikepaaGreatDoorTl
import Derived.Test.YtieekajjoikepaaGreatDoorRfn
import Derived.Test.YtieekajjoikepaaGreatDoorVt
namespace Go.Proofs.YtieekajjoikepaaGreatDoor
/- Va5 -/
open Go.RowKit
set_option linter.unusedVariables false
set_option linter.unusedSimpArgs false
set_option maxRecDepth 100000
set_option maxHeartbeats 2000000

/-- The chest in its box: how many blocks, which area counts. -/
def ChA (w : World) (b : Nat) (N area : Nat) : Prop := ∃ x y z, w.heap[b]? = some (.cells #[.int .i64 (N : Nat), .int .i64 (area : Nat), x, y, z] 51 (0, 0))
theorem ChA.below {w w' : World} {b N area : Nat} (h : ChA w b N area) (hb : Below w.heap.size w w') : ChA w' b N area := by
  obtain ⟨x, y, z, h⟩ := h
  exact ⟨x, y, z, cells_below h hb⟩
/-- The cells that a step's region reads. -/
abbrev K6 (g bC bi bs' : Nat) (a b c1 c2 d e : Value) (W : World) : Prop := (W.cell? ⟨g, 0, none⟩ = some a ∧ W.cell? ⟨g, 1, none⟩ = some b) ∧ (W.cell? ⟨bC, 0, none⟩ = some c1 ∧ W.cell? ⟨bC, 1, none⟩ = some c2) ∧ (W.cell? ⟨bi, 0, none⟩ = some d ∧ W.cell? ⟨bs', 0, none⟩ = some e)
section
variable {g bC bi bs' : Nat} {a b c1 c2 d e : Value} {W W' : World}
theorem k6_below (h : K6 g bC bi bs' a b c1 c2 d e W) (hb : Below W.heap.size W W') : K6 g bC bi bs' a b c1 c2 d e W' := ⟨keep2_below h.1 hb, keep2_below h.2.1 hb, keep2_below h.2.2 hb⟩
theorem k6_drew (h : K6 g bC bi bs' a b c1 c2 d e W) : K6 g bC bi bs' a b c1 c2 d e W.drew := k6_below h ((Below.refl _ _).drew)
theorem va_ne {b b' o o' : Nat} (h : b ≠ b') : (⟨b, o, none⟩ : Addr) ≠ ⟨b', o', none⟩ := fun e => h (congrArg Addr.block e)
theorem k6_set (h : K6 g bC bi bs' a b c1 c2 d e W) {r i : Nat} (n1 : r ≠ g) (n2 : r ≠ bC) (n3 : r ≠ bi) (n4 : r ≠ bs') (u : Value) : K6 g bC bi bs' a b c1 c2 d e (W.setCell ⟨r, i, none⟩ u) :=
  ⟨keep2_set h.1 (va_ne n1) (va_ne n1), keep2_set h.2.1 (va_ne n2) (va_ne n2), keep2_set h.2.2 (va_ne n3) (va_ne n4)⟩
theorem k6_two (h : K6 g bC bi bs' a b c1 c2 d e W) {r : Nat} (n1 : r ≠ g) (n2 : r ≠ bC) (n3 : r ≠ bi) (n4 : r ≠ bs') (u v : Value) : K6 g bC bi bs' a b c1 c2 d e ((W.setCell ⟨r, 0, none⟩ u).setCell ⟨r, 1, none⟩ v) := k6_set (k6_set h n1 n2 n3 n4 u) n1 n2 n3 n4 v
end
/-- A step that lays a block, called. -/
theorem vlay_any (v : Value) (P : Plat) (bC bi bs' : Nat) (N area i : Nat) (s : ByteArray) (w : World) (h : PlV w v P) (hC : ChA w bC N area) (hi : w.cell? ⟨bi, 0, none⟩ = some (.int .i64 (i : Nat))) (hs : w.cell? ⟨bs', 0, none⟩ = some (.string s)) (hN : N ≤ 64) (ha : area ≤ 1) (hi64 : i ≤ 64) :
    Calls Tryz.prog 64 #[v, .pointer (some ⟨bC, 0, none⟩), .pointer (some ⟨bi, 0, none⟩), .pointer (some ⟨bs', 0, none⟩)] w (PlR w (writeP ((3 + (1 - area) * N + i : Nat) : Int) s P)) := by
  obtain ⟨A, n, c, B, m, d, rfl, h⟩ := h
  obtain ⟨x, y, z, hC⟩ := hC
  obtain ⟨hX, hA, hbA⟩ := two_new w #[.slice A n c, .slice B m d] 25
  have HP := Lib.hid (h.below hbA)
  have HX := Lib.hid hX
  have HB := Lib.hid hbA
  have lc := cell_lt_of hC
  have li := cell_lt hi
  have ls := cell_lt hs
  simp only at li ls
  obtain ⟨p0, p1, _, _⟩ := two_cells hA
  obtain ⟨⟨c0, c1, _, _, _⟩, _⟩ := ch5_cells (cells_below hC hbA)
  have i0 := cell_below hi hbA
  have s0 := cell_below hs hbA
  have HSe := Lib.hid (fun W => sector_any N (1 - area) area i W hN (by omega) hi64)
  have hw3 : (1 : Int) - (area : Int) = ((1 - area : Nat) : Int) := by omega
  have hw : IntKind.i64.wrap ((1 - area : Nat) : Int) = ((1 - area : Nat) : Int) := IntWalk.i64_in _ (by omega)
  generalize 3 + (1 - area) * N + i = ix at HSe ⊢
  have HW := Lib.hid (fun W (hW : PB W A n B m P) => write_any (.agg #[.slice A n c, .slice B m d]) P (ix : Nat) s W ⟨_, _, _, _, _, _, rfl, hW⟩)
  obtain ⟨r, hr⟩ : ∃ r, r = writeP (ix : Nat) s P := ⟨_, rfl⟩
  rw [← hr] at HW ⊢
  clear h hX hA hbA hC hi hs hr
  go_enter Tryz.func64, Tryz.ntmps64
  go_upto_region 1 with fail
  obtain ⟨W0, hW0⟩ : ∃ W0, W0 = ((w.alloc (.cells #[.slice A n c, .slice B m d] 25)).alloc (.cells zP 25)) := ⟨_, rfl⟩
  rw [← hW0] at HP HX HB p0 p1 c0 c1 i0 s0 ⊢
  have K0 : K6 w.heap.size bC bi bs' (.slice A n c) (.slice B m d) (.int .i64 (N : Nat)) (.int .i64 (area : Nat)) (.int .i64 (i : Nat)) (.string s) W0 := ⟨⟨p0, p1⟩, ⟨c0, c1⟩, ⟨i0, s0⟩⟩
  have n1 : w.heap.size + 1 ≠ w.heap.size := by omega
  have n2 : w.heap.size + 1 ≠ bC := by omega
  have n3 : w.heap.size + 1 ≠ bi := by omega
  have n4 : w.heap.size + 1 ≠ bs' := by omega
  clear hW0 p0 p1 c0 c1 i0 s0 lc li ls
  go_region_held3 (fun W => (W.cell? ⟨w.heap.size, 0, none⟩ = some (.slice A n c) ∧ W.cell? ⟨w.heap.size, 1, none⟩ = some (.slice B m d)) ∧ (W.cell? ⟨bC, 0, none⟩ = some (.int .i64 (N : Nat)) ∧ W.cell? ⟨bC, 1, none⟩ = some (.int .i64 (area : Nat))) ∧ (W.cell? ⟨bi, 0, none⟩ = some (.int .i64 (i : Nat)) ∧ W.cell? ⟨bs', 0, none⟩ = some (.string s)))
    (first | with_reducible assumption | with_reducible exact k6_drew K0 | with_reducible exact k6_two Q5 n1 n2 n3 n4 _ _)
    (first
      | ((go_at_call 60; with_reducible refine (HSe.out _).mono ?_); rintro _ w4 ⟨rfl, hb4'⟩; have hb4 := Below.chain ((Below.refl _ W0).drew) hb4'; have Q4 := k6_below (k6_drew K0) hb4'; clear hb4'; replace HX := hblk_below HX hb4; replace HP := Lib.hid (HP.out.below hb4); replace HB := Lib.hid (HB.out.trans (hb4.mono HB.out.size)))
      | ((go_at_call 49; with_reducible refine (HW.out _ HP.out).mono ?_); rintro _ w5 ⟨v5, rfl, ⟨A5, n5, c5, B5, m5, d5, rfl, hO5⟩, hb5⟩; have Q5 := k6_below Q4 hb5; replace HX := hblk_below HX hb5; replace HB := Lib.hid (HB.out.trans (hb5.mono HB.out.size)); obtain ⟨x0, x1, x2, x3⟩ := two_cells HX.out))
  all_goals
    go_wp2_with fail
    refine bodyPost_ret (res_cell_tmp rfl _ _ (w.heap.size + 1) (by rfl) _ (load_plat_new (two_set HX.out _ _))) rfl ?_
    exact ⟨_, rfl, ⟨_, _, _, _, _, _, rfl, hO5.two HX.out⟩, two_by HB.out (by omega) _ _⟩

/- Va6 -/
open Go.RowKit
set_option linter.unusedVariables false
set_option linter.unusedSimpArgs false
set_option maxRecDepth 100000
set_option maxHeartbeats 2000000

/-- Step k of a Store, as a value. -/
def DeedW (bC N area : Nat) (V : Vol) (k : Nat) (w : World) (v : Value) : Prop :=
  (k = N ∧ v = .func (.func 52) #[] #[]) ∨
  (k < N ∧ ∃ bi bs', v = .func (.func 64) #[] #[.pointer (some ⟨bC, 0, none⟩), .pointer (some ⟨bi, 0, none⟩), .pointer (some ⟨bs', 0, none⟩)] ∧ w.heap[bi]? = some (.cells #[.int .i64 (k : Nat)] 3 (0, 0)) ∧ w.heap[bs']? = some (.cells #[.string (V.bl.getD k noT)] 9 (0, 0)) ∧ ChA w bC N area)
theorem DeedW.kept {bC N area : Nat} {V : Vol} {k : Nat} {X Y : World} {v : Value} {row : Option Nat} (h : DeedW bC N area V k X v) (hg : X.grownBy Y row) (hr : ∀ r, row = some r → ∃ o : Obj, X.heap[r]? = some o ∧ o.isCells = false) : DeedW bC N area V k Y v := by
  rcases h with h | ⟨hk, bi, bs', h1, h2, h3, x, y, z, h4⟩
  · exact .inl h
  · exact .inr ⟨hk, bi, bs', h1, rf_c h2 hg hr, rf_c h3 hg hr, x, y, z, rf_c h4 hg hr⟩
/-- What step k does. -/
def deedF (V : Vol) (N area k : Nat) : Plat → Plat × Int := if k < N then layF V N area k else syncP
theorem deed_snoc {V : Vol} {N area k : Nat} (hk : k ≤ N) : (deedV V N area).take (k + 1) = (deedV V N area).take k ++ [deedF V N area k] := by
  rw [List.take_add_one]
  congr 1
  unfold deedV deedF
  by_cases h : k < N
  · rw [if_pos h, List.getElem?_append_left (by rw [layL_len]; exact h), layL, List.getElem?_map, List.getElem?_range h]
    rfl
  · have : k = N := by omega
    subst this
    rw [if_neg h, List.getElem?_append_right (by rw [layL_len]; exact Nat.le_refl _), layL_len, Nat.sub_self]
    rfl
theorem deed_any (v x : Value) (P : Plat) (bC N area : Nat) (V : Vol) (k : Nat) (w : World) (h : PlV w v P) (hD : DeedW bC N area V k w x) (hN : N ≤ 64) (ha : area ≤ 1) :
    ∃ f caps, x = .func (.func f) #[] caps ∧ (f = 52 ∨ f = 64) ∧ Calls Tryz.prog f (#[v] ++ caps) w (PlR w (deedF V N area k P)) := by
  rcases hD with ⟨hk, rfl⟩ | ⟨hk, bi, bs', rfl, h2, h3, h4⟩
  · refine ⟨52, #[], rfl, .inl rfl, ?_⟩
    unfold deedF
    rw [if_neg (by omega)]
    exact sync_any v P w h
  · refine ⟨64, _, rfl, .inr rfl, ?_⟩
    unfold deedF
    rw [if_pos hk]
    exact vlay_any v P bC bi bs' N area k (V.bl.getD k noT) w h h4 (rf_at h2 0 _ rfl) (rf_at h3 0 _ rfl) hN ha (by omega)

theorem deeds1_in (n : Nat) (hn : 1 ≤ n) (yl bV bC T : Nat) (N area nV cV : Nat) (AV : Option Addr) (V : Vol) (x y z : Value) (w1 W : World) (hT : T = w1.heap.size) (hw1 : Below T w1 W) (hr : Rd w1 AV (textsV V.bl)) (hm : nV = V.bl.length) (hN : N = nV) (hl : nV ≤ 64)
    (bv : W.heap[bV]? = some (.cells #[.slice AV nV cV, .string V.rt] 27 (0, 0))) (bc : W.heap[bC]? = some (.cells #[.int .i64 (N : Nat), .int .i64 (area : Nat), x, y, z] 51 (0, 0)))
    (J Jx : List Value → World → Prop) (hJ : AbidesFrom W.heap.size J)
    (hY : ∀ pre x W', J pre W' → DeedW bC N area V pre.length W' x → YieldAt Fence.wide (n - 1) Tryz.prog yl #[x] W' fun e W2 => (e = .returned (.bool true) ∧ J (pre ++ [x]) W2 ∧ KpT T [bV, bC] W' W2) ∨ (e = .returned (.bool false) ∧ Jx (pre ++ [x]) W2)) (h0 : J [] W) :
    CallsIn Fence.wide n Tryz.prog 63 #[.func (.yield yl) #[] #[], .pointer (some ⟨bV, 0, none⟩), .pointer (some ⟨bC, 0, none⟩)] W fun e W' => (∃ v, e = .returned v) ∧ ((∃ xs : List Value, xs.length = N + 1 ∧ J xs W') ∨ (∃ pre : List Value, True ∧ Jx pre W')) := by
  have HY := Lib.hid hY
  have HM := Lib.hid hm
  have HRd := Lib.hid hr
  have HJa := Lib.hid hJ
  subst hT hN
  have hw1s : w1.heap.size ≤ W.heap.size := hw1.size
  clear hY hm hr hJ
  have c1 := (two_cells bv).1
  refine callsIn_of_wp Tryz.func63 rfl trivial ?_ rfl
  simp only [Tryz.ntmps63, List.size_toArray, List.length_cons, List.length_nil, Nat.reduceAdd, Nat.reduceSub, Array.replicate_succ, Array.replicate_zero, List.push_toArray, List.append_toArray, List.nil_append, List.cons_append]
  gi_wp2
  gi_loopw [10] (fun u wr => ∃ (i : Nat) (pre : List Value), i ≤ N ∧ u = .int .i64 (i : Nat) ∧ pre.length = i ∧ wr.heap[bV]? = some (.cells #[.slice AV N cV, .string V.rt] 27 (0, 0)) ∧ wr.heap[bC]? = some (.cells #[.int .i64 (N : Nat), .int .i64 (area : Nat), x, y, z] 51 (0, 0)) ∧ Below w1.heap.size w1 wr ∧ W.heap.size ≤ wr.heap.size ∧ J pre wr) (fun u _ => N - (intOf u).toNat)
  case atStart => exact ⟨0, [], by omega, rfl, rfl, bv, bc, hw1, Nat.le_refl _, h0⟩
  case round =>
    clear c1 bv bc hw1 h0
    obtain ⟨i, pre, hi, rfl, hpre, bv, bc, hb, hsz, hJ⟩ := hrel
    by_cases hlt : i < N
    · have e1 : decide ((i : Int) < (N : Int)) = true := by simp; omega
      have hil : i < V.bl.length := by rw [← HM.out]; exact hlt
      obtain ⟨bb, off, hA, k0⟩ := texts_at (HRd.out.below hb) hil
      subst hA
      have Hs := Lib.hid (show V.bl.getD i noT = V.bl[i] by rw [List.getD_eq_getElem?_getD, List.getElem?_eq_getElem hil]; rfl)
      generalize V.bl[i] = s at k0 Hs
      obtain ⟨kI, kS, kb, ksz⟩ := va_al2 wr (.cells #[.int .i64 (i : Nat)] 3) (.cells #[.string s] 9)
      have BV2 := Lib.hid (cells_below bv kb)
      have BC2 := Lib.hid (cells_below bc kb)
      have hJ2 := HJa.out _ _ _ none hJ (gb_of_below kb none) (fun r e => by cases e)
      have HB2 := Lib.hid (hb.trans (kb.mono hb.size))
      have HS2 := Lib.hid (Nat.le_trans hsz kb.size)
      have hD : DeedW bC N area V pre.length ((wr.alloc (.cells #[.int .i64 (i : Nat)] 3)).alloc (.cells #[.string s] 9)) (.func (.func 64) #[] #[.pointer (some ⟨bC, 0, none⟩), .pointer (some ⟨wr.heap.size, 0, none⟩), .pointer (some ⟨wr.heap.size + 1, 0, none⟩)]) :=
        .inr ⟨by omega, wr.heap.size, wr.heap.size + 1, rfl, by rw [hpre]; exact kI, by rw [hpre, Hs.out]; exact kS, x, y, z, BC2.out⟩
      obtain ⟨fn, tmps, assign, body, hy, hR⟩ := HY.out pre _ _ hJ2 hD
      have HR2 := Lib.hid hR
      have Hpre := Lib.hid hpre
      have q0 := (two_cells bv).1
      clear hR hD hJ2 hJ kI kS kb ksz bv bc hb hsz hpre hil
      gi_wp2
      refine HR2.out.mono ?_
      rintro e W3 (⟨rfl, hJ4, hk4⟩ | ⟨rfl, hJx4⟩)
      · have HJ4 := Lib.hid hJ4
        have BV4 := Lib.hid ((hk4.2 bV (by simp)).trans BV2.out)
        have BC4 := Lib.hid ((hk4.2 bC (by simp)).trans BC2.out)
        have HB4 := Lib.hid (HB2.out.trans hk4.1)
        have HS4 := Lib.hid (Nat.le_trans HS2.out hk4.1.size)
        clear hJ4 hk4 q0
        gi_wp2
        go_roundw
        case rel => exact ⟨i + 1, _, by omega, by go_num, by rw [List.length_append, Hpre.out]; rfl, BV4.out, BC4.out, HB4.out, HS4.out, HJ4.out⟩
        case measure => simp [intOf]; omega
      · have HJx4 := Lib.hid hJx4
        clear hJx4 q0
        gi_wp2
        refine bodyPost_ret (results_none rfl _ _ _) rfl ?_
        exact ⟨⟨_, rfl⟩, .inr ⟨_, trivial, HJx4.out⟩⟩
    · obtain rfl : i = N := by omega
      have e1 : decide ((i : Int) < (i : Int)) = false := by simp
      have hD : DeedW bC i area V pre.length wr (.func (.func 52) #[] #[]) := .inl ⟨hpre, rfl⟩
      obtain ⟨fn, tmps, assign, body, hy, hR⟩ := HY.out pre _ _ hJ hD
      have HR2 := Lib.hid hR
      have Hpre := Lib.hid hpre
      clear hR hD hJ bv bc hb hsz hpre
      gi_wp2
      refine HR2.out.mono ?_
      rintro e W3 (⟨rfl, hJ4, hk4⟩ | ⟨rfl, hJx4⟩)
      · have HJ4 := Lib.hid hJ4
        clear hJ4 hk4
        gi_wp2
        go_end0
        exact ⟨⟨_, rfl⟩, .inl ⟨_, by rw [List.length_append, Hpre.out]; rfl, HJ4.out⟩⟩
      · have HJx4 := Lib.hid hJx4
        clear hJx4
        gi_wp2
        go_end0
        exact ⟨⟨_, rfl⟩, .inr ⟨_, trivial, HJx4.out⟩⟩
theorem deeds_in (n : Nat) (c0 c1 c2 c3 c4 v0 v1 : Value) (w : World) :
    CallsIn Fence.wide n Tryz.prog 30 #[.agg #[c0, c1, c2, c3, c4], .agg #[v0, v1]] w fun e w' => e = .returned (.func (.func 63) #[] #[.pointer (some ⟨w.heap.size + 1, 0, none⟩), .pointer (some ⟨w.heap.size, 0, none⟩)]) ∧
      w' = (w.alloc (.cells #[c0, c1, c2, c3, c4] 51)).alloc (.cells #[v0, v1] 27) := by
  refine callsIn_of_wp Tryz.func30 rfl trivial ?_ rfl
  simp only [Tryz.ntmps30, List.size_toArray, List.length_cons, List.length_nil, Nat.reduceAdd, Nat.reduceSub, Array.replicate_succ, Array.replicate_zero, List.push_toArray, List.append_toArray, List.nil_append, List.cons_append]
  gi_wp2
  go_ret
  exact ⟨rfl, rfl⟩

end Go.Proofs.YtieekajjoikepaaGreatDoor
