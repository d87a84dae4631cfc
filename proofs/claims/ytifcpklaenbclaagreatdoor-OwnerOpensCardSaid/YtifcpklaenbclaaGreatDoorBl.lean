/-
  Contract of owner.Blame.
-/
import Derived.Test.YtifcpklaenbclaaGreatDoorOd2
import Derived.Test.YtifcpklaenbclaaGreatDoorBlT
import Derived.Test.YtifcpklaenbclaaGreatDoorRound
namespace Go.Proofs.YtifcpklaenbclaaGreatDoor
open Go.RowKit
set_option linter.unusedVariables false
set_option linter.unusedSimpArgs false
set_option maxRecDepth 100000
set_option maxHeartbeats 4000000
attribute [local go_sem] Oper.semAt_some

/-- What Blame's memory holds: the deal's box, the three results' boxes. -/
structure BI (w : World) (CD : Array Value) (x y : ByteArray) (z : Bool) (W : World) : Prop where
  g0 : W.heap[w.heap.size]? = some (.cells CD 42 (0, 0))
  g1 : W.heap[w.heap.size + 1]? = some (.cells #[.string x] 9 (0, 0))
  g2 : W.heap[w.heap.size + 1 + 1]? = some (.cells #[.string y] 9 (0, 0))
  g3 : W.heap[w.heap.size + 1 + 1 + 1]? = some (.cells #[.bool z] 4 (0, 0))
  hb : Below w.heap.size w W
  hz : w.heap.size + 8 ≤ W.heap.size
theorem BI.kept {w : World} {CD : Array Value} {x y : ByteArray} {z : Bool} {W W' : World} {row : Option Nat} (h : BI w CD x y z W) (hg : W.grownBy W' row) (hr : ∀ r, row = some r → w.heap.size ≤ r ∧ ∃ o : Obj, W.heap[r]? = some o ∧ o.isCells = false) : BI w CD x y z W' :=
  have hr2 : ∀ r, row = some r → ∃ o : Obj, W.heap[r]? = some o ∧ o.isCells = false := fun r e => (hr r e).2
  ⟨rf_c h.g0 hg hr2, rf_c h.g1 hg hr2, rf_c h.g2 hg hr2, rf_c h.g3 hg hr2, h.hb.grown hg (Below.size h.hb) (fun k e => (hr k e).1), Nat.le_trans h.hz hg.size⟩
theorem BI.below {w : World} {CD : Array Value} {x y : ByteArray} {z : Bool} {W W' : World} (h : BI w CD x y z W) (hb : Below W.heap.size W W') : BI w CD x y z W' :=
  ⟨cells_below h.g0 hb, cells_below h.g1 hb, cells_below h.g2 hb, cells_below h.g3 hb, h.hb.trans (hb.mono h.hb.size), Nat.le_trans h.hz hb.size⟩
theorem BI.setA {w : World} {CD : Array Value} {x y : ByteArray} {z : Bool} {W : World} (h : BI w CD x y z W) (u : ByteArray) : BI w CD u y z (W.setCell ⟨w.heap.size + 1, 0, none⟩ (.string u)) :=
  ⟨(Below.heap_setCell _ _ _ _ (by dsimp only; omega)).trans h.g0, by have := blk_set h.g1 0 (.string u); simpa using this, (Below.heap_setCell _ _ _ _ (by dsimp only; omega)).trans h.g2, (Below.heap_setCell _ _ _ _ (by dsimp only; omega)).trans h.g3, h.hb.setCell (by dsimp only; omega) _, by simpa using h.hz⟩
theorem BI.setB {w : World} {CD : Array Value} {x y : ByteArray} {z : Bool} {W : World} (h : BI w CD x y z W) (u : ByteArray) : BI w CD x u z (W.setCell ⟨w.heap.size + 1 + 1, 0, none⟩ (.string u)) :=
  ⟨(Below.heap_setCell _ _ _ _ (by dsimp only; omega)).trans h.g0, (Below.heap_setCell _ _ _ _ (by dsimp only; omega)).trans h.g1, by have := blk_set h.g2 0 (.string u); simpa using this, (Below.heap_setCell _ _ _ _ (by dsimp only; omega)).trans h.g3, h.hb.setCell (by dsimp only; omega) _, by simpa using h.hz⟩
theorem BI.setC {w : World} {CD : Array Value} {x y : ByteArray} {z : Bool} {W : World} (h : BI w CD x y z W) (u : Bool) : BI w CD x y u (W.setCell ⟨w.heap.size + 1 + 1 + 1, 0, none⟩ (.bool u)) :=
  ⟨(Below.heap_setCell _ _ _ _ (by dsimp only; omega)).trans h.g0, (Below.heap_setCell _ _ _ _ (by dsimp only; omega)).trans h.g1, (Below.heap_setCell _ _ _ _ (by dsimp only; omega)).trans h.g2, by have := blk_set h.g3 0 (.bool u); simpa using this, h.hb.setCell (by dsimp only; omega) _, by simpa using h.hz⟩
theorem res_three {P : Program} {fn : Func} {a b c : Tmp} {ta tb tc : TypeId} (h : fn.results = #[.cell a ta, .cell b tb, .cell c tc]) (tmps : Array Value) (w : World) (g k m : Nat) (ha : tmps.getD a undef = .pointer (some ⟨g, 0, none⟩)) (hb : tmps.getD b undef = .pointer (some ⟨k, 0, none⟩)) (hc : tmps.getD c undef = .pointer (some ⟨m, 0, none⟩)) (x y z : Value)
    (hl : (loadVar ta ⟨g, 0, none⟩).run P w = .ok x w) (hk : (loadVar tb ⟨k, 0, none⟩).run P w = .ok y w) (hm : (loadVar tc ⟨m, 0, none⟩).run P w = .ok z w) : (results fn tmps).run P w = .ok (.tuple #[x, y, z]) w := by
  have ha' : tmps[a]?.getD undef = .pointer (some ⟨g, 0, none⟩) := by simpa using ha
  have hb' : tmps[b]?.getD undef = .pointer (some ⟨k, 0, none⟩) := by simpa using hb
  have hc' : tmps[c]?.getD undef = .pointer (some ⟨m, 0, none⟩) := by simpa using hc
  simp [results, h, asAddr, ha', hb', hc', hl, hk, hm]
theorem bl_load_str {w : World} {g : Nat} {s : ByteArray} (h : w.cell? ⟨g, 0, none⟩ = some (.string s)) : (loadVar 9 ⟨g, 0, none⟩).run Tryz.prog w = .ok (.string s) w := by
  go_simp
theorem bl_load_bool {w : World} {g : Nat} {s : Bool} (h : w.cell? ⟨g, 0, none⟩ = some (.bool s)) : (loadVar 4 ⟨g, 0, none⟩).run Tryz.prog w = .ok (.bool s) w := by
  go_simp
theorem blame_end {w : World} {CD : Array Value} {x y : ByteArray} {z : Bool} {D1 : Nat} {W : World} (h : BI w CD x y z W) (hD : w.heap.size + 8 ≤ D1) (hK : W.heap[D1]? = some (.deferred (some []))) (tmps : Array Value) (ha : tmps.getD 4 undef = .pointer (some ⟨w.heap.size + 1, 0, none⟩)) (hb : tmps.getD 5 undef = .pointer (some ⟨w.heap.size + 1 + 1, 0, none⟩)) (hc : tmps.getD 6 undef = .pointer (some ⟨w.heap.size + 1 + 1 + 1, 0, none⟩)) {R : Ending → World → Prop}
    (hR : ∀ W', Below w.heap.size w W' → R (.returned (.tuple #[.string x, .string y, .bool z])) W') : LeavesInM Fence.wide 4 Tryz.prog Tryz.f16 tmps R (marks [D1]) .returning W :=
  leaves_marks w.heap.size [D1] W (by simp) (fun D hD2 => by rw [List.mem_singleton] at hD2; subst hD2; exact ⟨by omega, hK⟩) fun W' hS => ⟨_, res_three rfl _ _ _ _ _ ha hb hc _ _ _ (bl_load_str (rf_at (hS.hc _ _ _ h.g1) 0 _ rfl)) (bl_load_str (rf_at (hS.hc _ _ _ h.g2) 0 _ rfl)) (bl_load_bool (rf_at (hS.hc _ _ _ h.g3) 0 _ rfl)), hR W' (h.hb.trans hS.hb)⟩
/-- All are as they were dealt. -/
structure BA (w : World) (CD : Array Value) (D : Deal) (pre : List (FA D.r noneT true)) (W : World) : Prop where
  no : ∀ y ∈ pre, neB D y.1 = false
  bi : BI w CD ⟨#[]⟩ ⟨#[]⟩ false W
/-- One was not. -/
structure BX (w : World) (CD : Array Value) (D : Deal) (cd : Code) (pre : List (FA D.r noneT true)) (W : World) : Prop where
  ex : ∃ (p0 : List (FA D.r noneT true)) (x : FA D.r noneT true), pre = p0 ++ [x] ∧ (∀ y ∈ p0, neB D y.1 = false) ∧ neB D x.1 = true ∧ cd = .ret ∧ BI w CD (blP D x.1) (blQ D x.1) (blB D x.1) W
/-- The cells that the body's second drawn region reads. -/
def S8 (g bE iE bC iC Bx : Nat) (vE vC vs px pb xs xx xb : Value) (W : World) : Prop := (W.cell? ⟨g, 6, none⟩ = some vE ∧ W.cell? ⟨g, 5, none⟩ = some vC) ∧ (W.cell? ⟨bE, iE, none⟩ = some vs ∧ W.cell? ⟨bC, iC, none⟩ = some px) ∧ (W.cell? ⟨bC, iC + 1, none⟩ = some pb ∧ W.cell? ⟨Bx, 1, none⟩ = some xs) ∧ (W.cell? ⟨Bx, 2, none⟩ = some xx ∧ W.cell? ⟨Bx, 3, none⟩ = some xb)
theorem S8.below {g bE iE bC iC Bx : Nat} {vE vC vs px pb xs xx xb : Value} {W W' : World} (h : S8 g bE iE bC iC Bx vE vC vs px pb xs xx xb W) (hb : Below W.heap.size W W') : S8 g bE iE bC iC Bx vE vC vs px pb xs xx xb W' :=
  ⟨keep2_below h.1 hb, keep2_below h.2.1 hb, keep2_below h.2.2.1 hb, keep2_below h.2.2.2 hb⟩
theorem addr_ne {b b' o o' : Nat} (h : b ≠ b') : (⟨b, o, none⟩ : Addr) ≠ ⟨b', o', none⟩ := fun e => h (congrArg Addr.block e)
theorem S8.set {g bE iE bC iC Bx : Nat} {vE vC vs px pb xs xx xb : Value} {W : World} (h : S8 g bE iE bC iC Bx vE vC vs px pb xs xx xb W) {r i : Nat} (u : Value) (h1 : r ≠ g) (h2 : r ≠ bE) (h3 : r ≠ bC) (h4 : r ≠ Bx) : S8 g bE iE bC iC Bx vE vC vs px pb xs xx xb (W.setCell ⟨r, i, none⟩ u) :=
  ⟨keep2_set h.1 (addr_ne h1) (addr_ne h1), keep2_set h.2.1 (addr_ne h2) (addr_ne h3), keep2_set h.2.2.1 (addr_ne h3) (addr_ne h4), keep2_set h.2.2.2 (addr_ne h4) (addr_ne h4)⟩
theorem blame_any (v : Value) (D : Deal) (A : Option Addr) (m c : Nat) (ls : List Ans) (w : World) (hv : DV w v D) (hsh : D.sh.length = D.r.ns.length) (hsa : D.sa.length = D.r.ns.length) (h16 : D.r.ns.length ≤ 16) (hr : Rd w A (answersV ls)) (hm : m = ls.length) (hl : m ≤ 1000) (hR : Rounds w) :
    Calls Tryz.prog 16 #[v, .slice A m c] w (BlameR w D (blamed D ls)) := by
  obtain ⟨A1, n1, c1, A2, n2, c2, C, p, q, E, s, t, rfl, hA1, hn1, hA2, hn2, hC, hp, hE, hs⟩ := hv
  obtain rfl : p = n1 := by omega
  obtain rfl : s = p := by omega
  have HV := Lib.hid (show RV w (.agg #[.int .i64 D.r.e, .int .i64 D.r.k, .slice A1 s c1, .slice A2 n2 c2]) D.r from ⟨_, _, _, _, _, _, rfl, hA1, hn1, hA2, hn2⟩)
  have kA := al4' w (.cells #[.int .i64 D.r.e, .int .i64 D.r.k, .slice A1 s c1, .slice A2 n2 c2, .string D.sec, .slice C s q, .slice E s t] 42) (.cells #[.string ⟨#[]⟩] 9) (.cells #[.string ⟨#[]⟩] 9) (.cells #[.bool false] 4)
  obtain ⟨k0, k1, k2, k3, kb, ksz⟩ := kA
  have HRd := Lib.hid hr
  have HR := Lib.hid hR
  have HC := Lib.hid hC
  have HE := Lib.hid hE
  have HM := Lib.hid hm
  have x0 := rf_at k0 0 _ rfl
  have x1 := rf_at k0 1 _ rfl
  have x2 := rf_at k0 2 _ rfl
  have x3 := rf_at k0 3 _ rfl
  have x5 := rf_at k0 5 _ rfl
  have x6 := rf_at k0 6 _ rfl
  have e0 : ((s : Int) != (s : Int)) = false := by simp
  have HS := Lib.hid hs
  have HP := Lib.hid hp
  have HN := Lib.hid hn1
  have hs16 : s ≤ 16 := by rw [hn1]; exact h16
  clear hA1 hA2 hn2 hC hE hr hR hm hs hp hn1 h16 hsh hsa
  refine (callsIn_wide (n := 4)).1 ?_
  refine callsIn_of_wp_marks Tryz.func16 rfl trivial ?_ rfl
  simp only [Tryz.ntmps16, List.size_toArray, List.length_cons, List.length_nil, Nat.reduceAdd, Nat.reduceSub, Array.replicate_succ, Array.replicate_zero, List.push_toArray, List.append_toArray, List.nil_append, List.cons_append]
  gi_wp2_with (refine ⟨trivial, ?_⟩; gi_at_call 24; refine (fitting_in _ _ _ _ _ _ _ _ _ _ _).mono ?_; rintro e w4 ⟨rfl, rfl⟩)
  clear x0 x1 x2 x3 x5 x6 e0
  obtain ⟨W0, hW0⟩ : ∃ W0, W0 = ((((w.alloc (.cells #[.int .i64 D.r.e, .int .i64 D.r.k, .slice A1 s c1, .slice A2 n2 c2, .string D.sec, .slice C s q, .slice E s t] 42)).alloc (.cells #[.string ⟨#[]⟩] 9)).alloc (.cells #[.string ⟨#[]⟩] 9)).alloc (.cells #[.bool false] 4)) := ⟨_, rfl⟩
  rw [← hW0] at k0 k1 k2 k3 kb ksz ⊢
  have kA := al4' W0 (.cells #[.int .i64 D.r.e, .int .i64 D.r.k, .slice A1 s c1, .slice A2 n2 c2] 24) (.cells #[.slice A m c] 25) (.cells #[.string ⟨#[]⟩] 9) (.cells #[.bool true] 4)
  obtain ⟨kR, kL, kN, kT, kb4, ksz4⟩ := kA
  rw [ksz] at kR kL kN kT kb4 ksz4
  obtain ⟨w4, hw4⟩ : ∃ w4, w4 = (((W0.alloc (.cells #[.int .i64 D.r.e, .int .i64 D.r.k, .slice A1 s c1, .slice A2 n2 c2] 24)).alloc (.cells #[.slice A m c] 25)).alloc (.cells #[.string ⟨#[]⟩] 9)).alloc (.cells #[.bool true] 4) := ⟨_, rfl⟩
  rw [← hw4] at kR kL kN kT kb4 ksz4 ⊢
  clear hw4
  rw [← ksz] at kb4
  have HBI4 : Hid (BI w #[.int .i64 D.r.e, .int .i64 D.r.k, .slice A1 s c1, .slice A2 n2 c2, .string D.sec, .slice C s q, .slice E s t] ⟨#[]⟩ ⟨#[]⟩ false w4) := Lib.hid ⟨cells_below k0 kb4, cells_below k1 kb4, cells_below k2 kb4, cells_below k3 kb4, kb.trans (kb4.mono (by omega)), by omega⟩
  clear k0 k1 k2 k3 hW0 kb kb4
  refine wpIn_rangeFunc_ownH rfl (by omega) (gf := 40) (lb := #[.pointer (some ⟨w.heap.size + 4 + 1, 0, none⟩), .pointer (some ⟨w.heap.size + 4 + 1 + 1 + 1, 0, none⟩), .pointer (some ⟨w.heap.size + 4 + 1 + 1, 0, none⟩), .pointer (some ⟨w.heap.size + 4, 0, none⟩)]) rfl trivial (enters_of Tryz.func40 (by kernel_rfl) rfl)
    (encs := fun x : FA D.r noneT true => #[.agg #[.string x.1.nm, .string x.1.salt, .int .i64 x.1.x, .string x.1.b]]) (Kp := KpT w.heap.size [w.heap.size + 4 + 1, w.heap.size + 4 + 1 + 1 + 1, w.heap.size + 4 + 1 + 1, w.heap.size + 4]) (S := fun ys => ys = selS D.r noneT true ls) (Sp := fun pre => pre <+: selS D.r noneT true ls) (N := (selS D.r noneT true ls).length) (w0 := w4)
    (fun l J Jx W hW hJ _ hY h0 => fitting1_in 3 (by omega) l _ _ _ _ w.heap.size A m c ls noneT true D.r _ _ _ _ w W rfl (HBI4.out.hb.trans (hW.mono (by omega))) HV.out HRd.out HM.out hl HR.out (cells_below kL hW) (cells_below kT hW) (cells_below kN hW) (cells_below kR hW) J Jx hJ hY h0)
    kpT_t (kpT_b (by omega) (by simp; omega)) (Below.refl _ _) (fun _ => rfl)
    (BA w #[.int .i64 D.r.e, .int .i64 D.r.k, .slice A1 s c1, .slice A2 n2 c2, .string D.sec, .slice C s q, .slice E s t] D) (BX w #[.int .i64 D.r.e, .int .i64 D.r.k, .slice A1 s c1, .slice A2 n2 c2, .string D.sec, .slice C s q, .slice E s t] D)
    (fun s X Y row h hg hr => ⟨h.no, h.bi.kept hg (fun r e => ⟨by have := (hr r e).1; omega, (hr r e).2⟩)⟩) (fun cd s X Y row h hg hr => by obtain ⟨p0, x, t1, t2, t3, t4, t5⟩ := h.ex; exact ⟨⟨p0, x, t1, t2, t3, t4, t5.kept hg (fun r e => ⟨by have := (hr r e).1; omega, (hr r e).2⟩)⟩⟩)
    ⟨by simp, HBI4.out⟩
    (fun x a' W => ∃ Bx, w.heap.size + 4 ≤ Bx ∧ W.heap[Bx]? = some (.cells #[.string x.1.nm, .string x.1.salt, .int .i64 x.1.x, .string x.1.b] 31 (0, 0)) ∧ a' = { tmps := #[.agg #[.int .i64 D.r.e, .int .i64 D.r.k, .slice A1 s c1, .slice A2 n2 c2, .string D.sec, .slice C s q, .slice E s t], .slice A m c, .pointer (some ⟨w.heap.size, 0, none⟩), undef, .pointer (some ⟨w.heap.size + 1, 0, none⟩), .pointer (some ⟨w.heap.size + 1 + 1, 0, none⟩), .pointer (some ⟨w.heap.size + 1 + 1 + 1, 0, none⟩), .int .i64 s, .pointer (some ⟨Bx, 0, none⟩), undef, .pointer (some ⟨w.heap.size, 0, none⟩), .pointer (some ⟨w.heap.size, 2, none⟩), .slice A1 s c1, .int .i64 s, .pointer (some ⟨w.heap.size, 5, none⟩), .slice C s q, .int .i64 s, .int .i64 s, .bool false, .bool false, .pointer (some ⟨w.heap.size, 6, none⟩), .slice E s t, .int .i64 s, .int .i64 s, .bool false, .bool false, .pointer (some ⟨w.heap.size, 0, none⟩), .agg #[.int .i64 D.r.e, .int .i64 D.r.k, .slice A1 s c1, .slice A2 n2 c2], .slice A m c, .func (.func 40) #[] #[.pointer (some ⟨w.heap.size + 4 + 1, 0, none⟩), .pointer (some ⟨w.heap.size + 4 + 1 + 1 + 1, 0, none⟩), .pointer (some ⟨w.heap.size + 4 + 1 + 1, 0, none⟩), .pointer (some ⟨w.heap.size + 4, 0, none⟩)], .agg #[.string x.1.nm, .string x.1.salt, .int .i64 x.1.x, .string x.1.b], undef, undef, undef, undef, undef, undef, undef, undef, undef, undef, undef, undef, undef, undef, undef, undef, undef, undef, undef, undef, undef, undef, undef, undef, undef, undef, undef, undef, undef, undef], defers := [] })
    (fun x a' _ X Y row hs hg hr => by obtain ⟨Bx, t0, t1, t2⟩ := hs; exact ⟨Bx, t0, rf_c t1 hg (fun r e => (hr r e).2), t2⟩)
    ?assign ?body ?done ?stop
  case assign =>
    rintro l pre x W K hI hK
    have al := (Below.refl W.heap.size W).alloc (Nat.le_refl _) (.cells #[.string x.1.nm, .string x.1.salt, .int .i64 x.1.x, .string x.1.b] 31)
    have hn := heap_alloc_new W (.cells #[.string x.1.nm, .string x.1.salt, .int .i64 x.1.x, .string x.1.b] 31)
    have hz := hI.bi.hz
    gi_wp2
    refine hK _ _ ((KeepsOthers.alloc _ _).from _) ⟨(Below.refl _ W).alloc (by omega) _, keepB_below (by simp; omega) al⟩ ⟨hI.no, hI.bi.below al⟩ ⟨W.heap.size, by omega, hn, rfl⟩
  case body =>
    rintro l pre x a' W hl' ⟨r', hr'⟩ ⟨hno, bi⟩ ⟨Bx, hBx, bX, rfl⟩ hlt'
    obtain ⟨⟨xn, xs, xx, xb⟩, hxt⟩ := x
    simp only at bX
    have hft : fitB D.r ⟨xn, xs, xx, xb⟩ = true := by simpa [tells] using hxt
    obtain ⟨hpl, hx, -⟩ := fit_parts hft
    obtain ⟨l1, l2, -, -, -⟩ := place_le D.r xn hpl
    obtain ⟨y, hy⟩ : ∃ y, placeN D.r xn = y + 1 := ⟨placeN D.r xn - 1, by omega⟩
    simp only at hx
    rw [hy] at hx l2
    have hys : y < s := by rw [HN.out]; omega
    have hyI : (y : Int) < (s : Int) := by omega
    have hw1 : IntKind.i64.wrap (xx - 1) = (y : Int) := by rw [hx, IntWalk.i64_in _ (by omega)]; omega
    have hyS : y < D.sh.length := by rw [← HP.out]; exact hys
    have hyA : y < D.sa.length := by rw [← HS.out]; exact hys
    obtain ⟨bC, oC, hbC, p0, -⟩ := HC.out.shr hyS
    obtain ⟨bE, oE, hbE, q0⟩ := texts_at HE.out hyA
    subst hbC hbE
    have ltC := cell_lt p0
    have ltE := cell_lt q0
    clear p0 q0
    obtain ⟨bC', oC', hbC, p0, p1⟩ := (HC.out.below bi.hb).shr hyS
    injection hbC with t1
    injection t1 with t1 t2
    subst t1 t2
    obtain ⟨bE', oE', hbE, q0⟩ := texts_at (HE.out.below bi.hb) hyA
    injection hbE with t1
    injection t1 with t1 t2
    subst t1 t2
    have hix : (xx - 1).toNat = y := by omega
    have Hno := Lib.hid hno
    have Hne := Lib.hid (show neB D ⟨xn, xs, xx, xb⟩ = !decide ((xx, xb) = D.sh[y]) from by
      unfold neB
      simp only
      rw [hix, List.getD_eq_getElem?_getD, List.getElem?_eq_getElem hyS]
      rfl)
    have e1 : D.sa.getD y noneT = D.sa[y] := getD_eq hyA
    have e2 : D.sh.getD y (0, noneT) = D.sh[y] := by rw [List.getD_eq_getElem?_getD, List.getElem?_eq_getElem hyS]; rfl
    have HbP := Lib.hid (show blP D ⟨xn, xs, xx, xb⟩ = witP D.sa[y] D.sh[y] xs (xx, xb) from by unfold blP; simp only; rw [hix, e1, e2])
    have HbQ := Lib.hid (show blQ D ⟨xn, xs, xx, xb⟩ = witQ D.sa[y] D.sh[y] xs (xx, xb) from by unfold blQ; simp only; rw [hix, e1, e2])
    have HbB := Lib.hid (show blB D ⟨xn, xs, xx, xb⟩ = witB D.sa[y] D.sh[y] xs (xx, xb) from by unfold blB; simp only; rw [hix, e1, e2])
    clear e1 e2
    generalize D.sh[y] = sp at p0 p1 Hne HbP HbQ HbB
    generalize D.sa[y] = sl at q0 HbP HbQ HbB
    obtain ⟨px, pb⟩ := sp
    simp only at p0 p1
    have x5 := rf_at bi.g0 5 _ rfl
    have x6 := rf_at bi.g0 6 _ rfl
    have y1 := rf_at bX 1 _ rfl
    have y2 := rf_at bX 2 _ rfl
    have y3 := rf_at bX 3 _ rfl
    have Bi := Lib.hid bi
    have BX' := Lib.hid bX
    clear bi bX hno hft hpl hx l1 l2 hy hix hyS hyA hr' hl' hlt'
    by_cases k1 : xx = px ∧ xb = pb
    · obtain ⟨rfl, rfl⟩ := k1
      have d1 : (xb.toList == xb.toList) = true := beq_self_eq_true _
      have Hn := Lib.hid (show neB D ⟨xn, xs, xx, xb⟩ = false by rw [Hne.out]; simp)
      gi_wp2
      refine round_quiet (by kernel_rfl) (by kernel_rfl) (by kernel_rfl) ?_
      repeat (go_big_quiet_step (fail))
      refine wpQuiet_nil ?_
      rintro _ ⟨nq, rfl⟩
      gi_wp2
      exact ⟨⟨Nat.le_refl _, fun k o _ h _ => h⟩, ⟨below_drewN (Below.refl _ _) nq, fun b _ => rfl⟩, ⟨fun z hz => by
        rcases List.mem_append.1 hz with h | h
        · exact Hno.out z h
        · rw [List.mem_singleton] at h
          subst h
          exact Hn.out, Bi.out.below (below_drewN (Below.refl _ _) nq)⟩⟩
    · have Hn := Lib.hid (show neB D ⟨xn, xs, xx, xb⟩ = true by rw [Hne.out, decide_eq_false (fun e => k1 ⟨congrArg Prod.fst e, congrArg Prod.snd e⟩)]; rfl)
      by_cases k2 : xx = px
      · obtain rfl := k2
        have d3 := text_ne' (fun e : xb = pb => k1 ⟨rfl, e⟩)
        clear k1
        gi_wp2
        refine round_quiet (by kernel_rfl) (by kernel_rfl) (by kernel_rfl) ?_
        repeat (go_big_quiet_step (fail))
        refine wpQuiet_nil ?_
        rintro _ ⟨nq, rfl⟩
        gi_wp2
        have bi1 := Bi.out.below (below_drewN (Below.refl W.heap.size W) nq).drew
        have hk1 := (below_drewN (Below.refl W.heap.size W) nq).drew
        have S6 := rf_at bi1.g0 6 _ rfl
        have S5 := rf_at bi1.g0 5 _ rfl
        have hS : S8 w.heap.size bE (oE + y) bC (oC + y * 2) Bx (.slice (some ⟨bE, oE, none⟩) s t) (.slice (some ⟨bC, oC, none⟩) s q) (.string sl) (.int .i64 xx) (.string pb) (.string xs) (.int .i64 xx) (.string xb) ((W.drewN nq).drew) := ⟨⟨S6, S5⟩, ⟨q0, p0⟩, ⟨p1, y1⟩, y2, y3⟩
        clear S6 S5 x5 x6 y1 y2 y3 p0 p1 q0
        refine round_held (S := S8 w.heap.size bE (oE + y) bC (oC + y * 2) Bx (.slice (some ⟨bE, oE, none⟩) s t) (.slice (some ⟨bC, oC, none⟩) s q) (.string sl) (.int .i64 xx) (.string pb) (.string xs) (.int .i64 xx) (.string xb)) (by kernel_rfl) (by kernel_rfl) ?_
        change wpAnyH _ _ _ _ _ _ _ _ ((W.drewN nq).drew)
        obtain ⟨W1, hW1⟩ : ∃ W1, W1 = (W.drewN nq).drew := ⟨_, rfl⟩
        rw [← hW1] at bi1 hk1 hS ⊢
        clear hW1
        have HWt := Lib.hid (fun W' h => wit_any sl xx pb xs xx xb W' h)
        generalize witP sl (xx, pb) xs (xx, xb) = rP at HbP HWt
        generalize witQ sl (xx, pb) xs (xx, xb) = rQ at HbQ HWt
        generalize witB sl (xx, pb) xs (xx, xb) = rB at HbB HWt
        have Bi1 := Lib.hid bi1
        have Hk1 := Lib.hid hk1
        clear bi1 hk1
        refine wpAnyH_take (i := 0) (v := .pointer (some ⟨w.heap.size, 6, none⟩)) rfl (by kernel_rfl) (by kernel_rfl) (by kernel_rfl) (fun _ _ _ h => h) (Or.inl ⟨by rfl, ?_⟩) hS ?_
        · intro W7 hSw
          unfold S8 at hSw
          go_simp
        try simp only [Act.put, List.setIfInBounds_toArray, List.set_cons_zero, List.set_cons_succ]
        refine wpAnyH_take (i := 1) (v := .slice (some ⟨bE, oE, none⟩) s t) rfl (by kernel_rfl) (by kernel_rfl) (by kernel_rfl) (fun _ _ _ h => h) (Or.inl ⟨by rfl, ?_⟩) hS ?_
        · intro W7 hSw
          unfold S8 at hSw
          go_simp
        try simp only [Act.put, List.setIfInBounds_toArray, List.set_cons_zero, List.set_cons_succ]
        refine wpAnyH_take (i := 2) (v := .int .i64 (y : Nat)) rfl (by kernel_rfl) (by kernel_rfl) (by kernel_rfl) (fun _ _ _ h => h) (Or.inl ⟨by rfl, ?_⟩) hS ?_
        · intro W7 hSw
          unfold S8 at hSw
          go_simp
        try simp only [Act.put, List.setIfInBounds_toArray, List.set_cons_zero, List.set_cons_succ]
        refine wpAnyH_take (i := 3) (v := .pointer (some ⟨bE, oE + y, none⟩)) rfl (by kernel_rfl) (by kernel_rfl) (by kernel_rfl) (fun _ _ _ h => h) (Or.inl ⟨by rfl, ?_⟩) hS ?_
        · intro W7 hSw
          unfold S8 at hSw
          go_simp
        try simp only [Act.put, List.setIfInBounds_toArray, List.set_cons_zero, List.set_cons_succ]
        refine wpAnyH_take (i := 4) (v := .string sl) rfl (by kernel_rfl) (by kernel_rfl) (by kernel_rfl) (fun _ _ _ h => h) (Or.inl ⟨by rfl, ?_⟩) hS ?_
        · intro W7 hSw
          unfold S8 at hSw
          go_simp
        try simp only [Act.put, List.setIfInBounds_toArray, List.set_cons_zero, List.set_cons_succ]
        refine wpAnyH_take (i := 5) (v := .pointer (some ⟨w.heap.size, 5, none⟩)) rfl (by kernel_rfl) (by kernel_rfl) (by kernel_rfl) (fun _ _ _ h => h) (Or.inl ⟨by rfl, ?_⟩) hS ?_
        · intro W7 hSw
          unfold S8 at hSw
          go_simp
        try simp only [Act.put, List.setIfInBounds_toArray, List.set_cons_zero, List.set_cons_succ]
        refine wpAnyH_take (i := 6) (v := .slice (some ⟨bC, oC, none⟩) s q) rfl (by kernel_rfl) (by kernel_rfl) (by kernel_rfl) (fun _ _ _ h => h) (Or.inl ⟨by rfl, ?_⟩) hS ?_
        · intro W7 hSw
          unfold S8 at hSw
          go_simp
        try simp only [Act.put, List.setIfInBounds_toArray, List.set_cons_zero, List.set_cons_succ]
        refine wpAnyH_take (i := 7) (v := .int .i64 (y : Nat)) rfl (by kernel_rfl) (by kernel_rfl) (by kernel_rfl) (fun _ _ _ h => h) (Or.inl ⟨by rfl, ?_⟩) hS ?_
        · intro W7 hSw
          unfold S8 at hSw
          go_simp
        try simp only [Act.put, List.setIfInBounds_toArray, List.set_cons_zero, List.set_cons_succ]
        refine wpAnyH_take (i := 8) (v := .pointer (some ⟨bC, oC + y * 2, none⟩)) rfl (by kernel_rfl) (by kernel_rfl) (by kernel_rfl) (fun _ _ _ h => h) (Or.inl ⟨by rfl, ?_⟩) hS ?_
        · intro W7 hSw
          unfold S8 at hSw
          go_simp
        try simp only [Act.put, List.setIfInBounds_toArray, List.set_cons_zero, List.set_cons_succ]
        refine wpAnyH_take (i := 9) (v := .agg #[.int .i64 xx, .string pb]) rfl (by kernel_rfl) (by kernel_rfl) (by kernel_rfl) (fun _ _ _ h => h) (Or.inl ⟨by rfl, ?_⟩) hS ?_
        · intro W7 hSw
          unfold S8 at hSw
          go_simp
        try simp only [Act.put, List.setIfInBounds_toArray, List.set_cons_zero, List.set_cons_succ]
        refine wpAnyH_take (i := 10) (v := .pointer (some ⟨Bx, 1, none⟩)) rfl (by kernel_rfl) (by kernel_rfl) (by kernel_rfl) (fun _ _ _ h => h) (Or.inl ⟨by rfl, ?_⟩) hS ?_
        · intro W7 hSw
          unfold S8 at hSw
          go_simp
        try simp only [Act.put, List.setIfInBounds_toArray, List.set_cons_zero, List.set_cons_succ]
        refine wpAnyH_take (i := 11) (v := .string xs) rfl (by kernel_rfl) (by kernel_rfl) (by kernel_rfl) (fun _ _ _ h => h) (Or.inl ⟨by rfl, ?_⟩) hS ?_
        · intro W7 hSw
          unfold S8 at hSw
          go_simp
        try simp only [Act.put, List.setIfInBounds_toArray, List.set_cons_zero, List.set_cons_succ]
        refine wpAnyH_take (i := 12) (v := .pointer (some ⟨Bx, 2, none⟩)) rfl (by kernel_rfl) (by kernel_rfl) (by kernel_rfl) (fun _ _ _ h => h) (Or.inl ⟨by rfl, ?_⟩) hS ?_
        · intro W7 hSw
          unfold S8 at hSw
          go_simp
        try simp only [Act.put, List.setIfInBounds_toArray, List.set_cons_zero, List.set_cons_succ]
        refine wpAnyH_take (i := 13) (v := .agg #[.int .i64 xx, .string xb]) rfl (by kernel_rfl) (by kernel_rfl) (by kernel_rfl) (fun _ _ _ h => h) (Or.inl ⟨by rfl, ?_⟩) hS ?_
        · intro W7 hSw
          unfold S8 at hSw
          go_simp
        try simp only [Act.put, List.setIfInBounds_toArray, List.set_cons_zero, List.set_cons_succ]
        refine wpAnyH_ready (rs := [14]) (by kernel_rfl) (by simp) ?_
        refine AllReadyH.cons rfl (fun K hK => ?_) AllReadyH.nil
        go_simp
        refine (HWt.out _ (HR.out.below Bi1.out.hb)).mono ?_
        rintro e w5 ⟨rfl, hb5⟩
        refine hK.out _ _ (hS.below hb5) (fun hS' => ?_)
        clear hK K
        replace hS := hS'
        clear hS'
        try simp only [Act.put, List.setIfInBounds_toArray, List.set_cons_zero, List.set_cons_succ]
        have Bi5 := Lib.hid (Bi1.out.below hb5)
        have hk5 := (Hk1.out.trans (hb5.mono Hk1.out.size))
        have Hk5 := Lib.hid hk5
        clear hb5 hk5
        refine wpAnyH_take (i := 15) (v := .string rP) rfl (by kernel_rfl) (by kernel_rfl) (by kernel_rfl) (fun _ _ _ h => h) (Or.inl ⟨by rfl, ?_⟩) hS ?_
        · intro W7 hSw
          unfold S8 at hSw
          go_simp
        try simp only [Act.put, List.setIfInBounds_toArray, List.set_cons_zero, List.set_cons_succ]
        refine wpAnyH_take (i := 16) (v := .string rQ) rfl (by kernel_rfl) (by kernel_rfl) (by kernel_rfl) (fun _ _ _ h => h) (Or.inl ⟨by rfl, ?_⟩) hS ?_
        · intro W7 hSw
          unfold S8 at hSw
          go_simp
        try simp only [Act.put, List.setIfInBounds_toArray, List.set_cons_zero, List.set_cons_succ]
        refine wpAnyH_take (i := 17) (v := .bool rB) rfl (by kernel_rfl) (by kernel_rfl) (by kernel_rfl) (fun _ _ _ h => h) (Or.inl ⟨by rfl, ?_⟩) hS ?_
        · intro W7 hSw
          unfold S8 at hSw
          go_simp
        try simp only [Act.put, List.setIfInBounds_toArray, List.set_cons_zero, List.set_cons_succ]
        have ga0 := rf_at Bi5.out.g1 0 _ rfl
        have gaf := rf_fr Bi5.out.g1 0
        refine wpAnyH_ready (rs := [18]) (by kernel_rfl) (by simp) ?_
        refine AllReadyH.cons rfl (fun K hK => ?_) AllReadyH.nil
        go_simp
        refine hK.out _ _ (hS.set _ (by omega) (by omega) (by omega) (by omega)) (fun hS' => ?_)
        clear hK K
        replace hS := hS'
        clear hS'
        try simp only [Act.put, List.setIfInBounds_toArray, List.set_cons_zero, List.set_cons_succ]
        have Bi6 := Lib.hid (Bi5.out.setA rP)
        clear ga0 gaf
        have ga0 := rf_at Bi6.out.g2 0 _ rfl
        have gaf := rf_fr Bi6.out.g2 0
        refine wpAnyH_ready (rs := [19]) (by kernel_rfl) (by simp) ?_
        refine AllReadyH.cons rfl (fun K hK => ?_) AllReadyH.nil
        go_simp
        refine hK.out _ _ (hS.set _ (by omega) (by omega) (by omega) (by omega)) (fun hS' => ?_)
        clear hK K
        replace hS := hS'
        clear hS'
        try simp only [Act.put, List.setIfInBounds_toArray, List.set_cons_zero, List.set_cons_succ]
        have Bi7 := Lib.hid (Bi6.out.setB rQ)
        clear ga0 gaf
        have ga0 := rf_at Bi7.out.g3 0 _ rfl
        have gaf := rf_fr Bi7.out.g3 0
        refine wpAnyH_ready (rs := [20]) (by kernel_rfl) (by simp) ?_
        refine AllReadyH.cons rfl (fun K hK => ?_) AllReadyH.nil
        go_simp
        refine hK.out _ _ (hS.set _ (by omega) (by omega) (by omega) (by omega)) (fun hS' => ?_)
        clear hK K
        replace hS := hS'
        clear hS'
        try simp only [Act.put, List.setIfInBounds_toArray, List.set_cons_zero, List.set_cons_succ]
        have Bi8 := Lib.hid (Bi7.out.setC rB)
        clear ga0 gaf
        refine wpAnyH_done (by kernel_rfl) ?_ _
        simp only [NormalQ]
        gi_wp2
        refine ⟨⟨?_, fun k o hk ho hc => ?_⟩, ⟨pre, ⟨⟨xn, xs, xx, xb⟩, hxt⟩, rfl, Hno.out, Hn.out, rfl, ?_⟩⟩
        · have := Hk5.out.size
          simp
          exact this
        · have h1 := (Hk5.out.block k (cell_lt_of ho)).trans ho
          rw [Below.heap_setCell _ _ _ _ (by dsimp only; omega), Below.heap_setCell _ _ _ _ (by dsimp only; omega), Below.heap_setCell _ _ _ _ (by dsimp only; omega)]
          exact h1
        · rw [HbP.out, HbQ.out, HbB.out]
          exact Bi8.out
      have d3 : (xx == px) = false := beq_eq_false_iff_ne.2 k2
      clear k1 k2
      gi_wp2
      refine round_quiet (by kernel_rfl) (by kernel_rfl) (by kernel_rfl) ?_
      repeat (go_big_quiet_step (fail))
      refine wpQuiet_nil ?_
      rintro _ ⟨nq, rfl⟩
      gi_wp2
      have bi1 := Bi.out.below (below_drewN (Below.refl W.heap.size W) nq).drew
      have hk1 := (below_drewN (Below.refl W.heap.size W) nq).drew
      have S6 := rf_at bi1.g0 6 _ rfl
      have S5 := rf_at bi1.g0 5 _ rfl
      have hS : S8 w.heap.size bE (oE + y) bC (oC + y * 2) Bx (.slice (some ⟨bE, oE, none⟩) s t) (.slice (some ⟨bC, oC, none⟩) s q) (.string sl) (.int .i64 px) (.string pb) (.string xs) (.int .i64 xx) (.string xb) ((W.drewN nq).drew) := ⟨⟨S6, S5⟩, ⟨q0, p0⟩, ⟨p1, y1⟩, y2, y3⟩
      clear S6 S5 x5 x6 y1 y2 y3 p0 p1 q0
      refine round_held (S := S8 w.heap.size bE (oE + y) bC (oC + y * 2) Bx (.slice (some ⟨bE, oE, none⟩) s t) (.slice (some ⟨bC, oC, none⟩) s q) (.string sl) (.int .i64 px) (.string pb) (.string xs) (.int .i64 xx) (.string xb)) (by kernel_rfl) (by kernel_rfl) ?_
      change wpAnyH _ _ _ _ _ _ _ _ ((W.drewN nq).drew)
      obtain ⟨W1, hW1⟩ : ∃ W1, W1 = (W.drewN nq).drew := ⟨_, rfl⟩
      rw [← hW1] at bi1 hk1 hS ⊢
      clear hW1
      have HWt := Lib.hid (fun W' h => wit_any sl px pb xs xx xb W' h)
      generalize witP sl (px, pb) xs (xx, xb) = rP at HbP HWt
      generalize witQ sl (px, pb) xs (xx, xb) = rQ at HbQ HWt
      generalize witB sl (px, pb) xs (xx, xb) = rB at HbB HWt
      have Bi1 := Lib.hid bi1
      have Hk1 := Lib.hid hk1
      clear bi1 hk1
      refine wpAnyH_take (i := 0) (v := .pointer (some ⟨w.heap.size, 6, none⟩)) rfl (by kernel_rfl) (by kernel_rfl) (by kernel_rfl) (fun _ _ _ h => h) (Or.inl ⟨by rfl, ?_⟩) hS ?_
      · intro W7 hSw
        unfold S8 at hSw
        go_simp
      try simp only [Act.put, List.setIfInBounds_toArray, List.set_cons_zero, List.set_cons_succ]
      refine wpAnyH_take (i := 1) (v := .slice (some ⟨bE, oE, none⟩) s t) rfl (by kernel_rfl) (by kernel_rfl) (by kernel_rfl) (fun _ _ _ h => h) (Or.inl ⟨by rfl, ?_⟩) hS ?_
      · intro W7 hSw
        unfold S8 at hSw
        go_simp
      try simp only [Act.put, List.setIfInBounds_toArray, List.set_cons_zero, List.set_cons_succ]
      refine wpAnyH_take (i := 2) (v := .int .i64 (y : Nat)) rfl (by kernel_rfl) (by kernel_rfl) (by kernel_rfl) (fun _ _ _ h => h) (Or.inl ⟨by rfl, ?_⟩) hS ?_
      · intro W7 hSw
        unfold S8 at hSw
        go_simp
      try simp only [Act.put, List.setIfInBounds_toArray, List.set_cons_zero, List.set_cons_succ]
      refine wpAnyH_take (i := 3) (v := .pointer (some ⟨bE, oE + y, none⟩)) rfl (by kernel_rfl) (by kernel_rfl) (by kernel_rfl) (fun _ _ _ h => h) (Or.inl ⟨by rfl, ?_⟩) hS ?_
      · intro W7 hSw
        unfold S8 at hSw
        go_simp
      try simp only [Act.put, List.setIfInBounds_toArray, List.set_cons_zero, List.set_cons_succ]
      refine wpAnyH_take (i := 4) (v := .string sl) rfl (by kernel_rfl) (by kernel_rfl) (by kernel_rfl) (fun _ _ _ h => h) (Or.inl ⟨by rfl, ?_⟩) hS ?_
      · intro W7 hSw
        unfold S8 at hSw
        go_simp
      try simp only [Act.put, List.setIfInBounds_toArray, List.set_cons_zero, List.set_cons_succ]
      refine wpAnyH_take (i := 5) (v := .pointer (some ⟨w.heap.size, 5, none⟩)) rfl (by kernel_rfl) (by kernel_rfl) (by kernel_rfl) (fun _ _ _ h => h) (Or.inl ⟨by rfl, ?_⟩) hS ?_
      · intro W7 hSw
        unfold S8 at hSw
        go_simp
      try simp only [Act.put, List.setIfInBounds_toArray, List.set_cons_zero, List.set_cons_succ]
      refine wpAnyH_take (i := 6) (v := .slice (some ⟨bC, oC, none⟩) s q) rfl (by kernel_rfl) (by kernel_rfl) (by kernel_rfl) (fun _ _ _ h => h) (Or.inl ⟨by rfl, ?_⟩) hS ?_
      · intro W7 hSw
        unfold S8 at hSw
        go_simp
      try simp only [Act.put, List.setIfInBounds_toArray, List.set_cons_zero, List.set_cons_succ]
      refine wpAnyH_take (i := 7) (v := .int .i64 (y : Nat)) rfl (by kernel_rfl) (by kernel_rfl) (by kernel_rfl) (fun _ _ _ h => h) (Or.inl ⟨by rfl, ?_⟩) hS ?_
      · intro W7 hSw
        unfold S8 at hSw
        go_simp
      try simp only [Act.put, List.setIfInBounds_toArray, List.set_cons_zero, List.set_cons_succ]
      refine wpAnyH_take (i := 8) (v := .pointer (some ⟨bC, oC + y * 2, none⟩)) rfl (by kernel_rfl) (by kernel_rfl) (by kernel_rfl) (fun _ _ _ h => h) (Or.inl ⟨by rfl, ?_⟩) hS ?_
      · intro W7 hSw
        unfold S8 at hSw
        go_simp
      try simp only [Act.put, List.setIfInBounds_toArray, List.set_cons_zero, List.set_cons_succ]
      refine wpAnyH_take (i := 9) (v := .agg #[.int .i64 px, .string pb]) rfl (by kernel_rfl) (by kernel_rfl) (by kernel_rfl) (fun _ _ _ h => h) (Or.inl ⟨by rfl, ?_⟩) hS ?_
      · intro W7 hSw
        unfold S8 at hSw
        go_simp
      try simp only [Act.put, List.setIfInBounds_toArray, List.set_cons_zero, List.set_cons_succ]
      refine wpAnyH_take (i := 10) (v := .pointer (some ⟨Bx, 1, none⟩)) rfl (by kernel_rfl) (by kernel_rfl) (by kernel_rfl) (fun _ _ _ h => h) (Or.inl ⟨by rfl, ?_⟩) hS ?_
      · intro W7 hSw
        unfold S8 at hSw
        go_simp
      try simp only [Act.put, List.setIfInBounds_toArray, List.set_cons_zero, List.set_cons_succ]
      refine wpAnyH_take (i := 11) (v := .string xs) rfl (by kernel_rfl) (by kernel_rfl) (by kernel_rfl) (fun _ _ _ h => h) (Or.inl ⟨by rfl, ?_⟩) hS ?_
      · intro W7 hSw
        unfold S8 at hSw
        go_simp
      try simp only [Act.put, List.setIfInBounds_toArray, List.set_cons_zero, List.set_cons_succ]
      refine wpAnyH_take (i := 12) (v := .pointer (some ⟨Bx, 2, none⟩)) rfl (by kernel_rfl) (by kernel_rfl) (by kernel_rfl) (fun _ _ _ h => h) (Or.inl ⟨by rfl, ?_⟩) hS ?_
      · intro W7 hSw
        unfold S8 at hSw
        go_simp
      try simp only [Act.put, List.setIfInBounds_toArray, List.set_cons_zero, List.set_cons_succ]
      refine wpAnyH_take (i := 13) (v := .agg #[.int .i64 xx, .string xb]) rfl (by kernel_rfl) (by kernel_rfl) (by kernel_rfl) (fun _ _ _ h => h) (Or.inl ⟨by rfl, ?_⟩) hS ?_
      · intro W7 hSw
        unfold S8 at hSw
        go_simp
      try simp only [Act.put, List.setIfInBounds_toArray, List.set_cons_zero, List.set_cons_succ]
      refine wpAnyH_ready (rs := [14]) (by kernel_rfl) (by simp) ?_
      refine AllReadyH.cons rfl (fun K hK => ?_) AllReadyH.nil
      go_simp
      refine (HWt.out _ (HR.out.below Bi1.out.hb)).mono ?_
      rintro e w5 ⟨rfl, hb5⟩
      refine hK.out _ _ (hS.below hb5) (fun hS' => ?_)
      clear hK K
      replace hS := hS'
      clear hS'
      try simp only [Act.put, List.setIfInBounds_toArray, List.set_cons_zero, List.set_cons_succ]
      have Bi5 := Lib.hid (Bi1.out.below hb5)
      have hk5 := (Hk1.out.trans (hb5.mono Hk1.out.size))
      have Hk5 := Lib.hid hk5
      clear hb5 hk5
      refine wpAnyH_take (i := 15) (v := .string rP) rfl (by kernel_rfl) (by kernel_rfl) (by kernel_rfl) (fun _ _ _ h => h) (Or.inl ⟨by rfl, ?_⟩) hS ?_
      · intro W7 hSw
        unfold S8 at hSw
        go_simp
      try simp only [Act.put, List.setIfInBounds_toArray, List.set_cons_zero, List.set_cons_succ]
      refine wpAnyH_take (i := 16) (v := .string rQ) rfl (by kernel_rfl) (by kernel_rfl) (by kernel_rfl) (fun _ _ _ h => h) (Or.inl ⟨by rfl, ?_⟩) hS ?_
      · intro W7 hSw
        unfold S8 at hSw
        go_simp
      try simp only [Act.put, List.setIfInBounds_toArray, List.set_cons_zero, List.set_cons_succ]
      refine wpAnyH_take (i := 17) (v := .bool rB) rfl (by kernel_rfl) (by kernel_rfl) (by kernel_rfl) (fun _ _ _ h => h) (Or.inl ⟨by rfl, ?_⟩) hS ?_
      · intro W7 hSw
        unfold S8 at hSw
        go_simp
      try simp only [Act.put, List.setIfInBounds_toArray, List.set_cons_zero, List.set_cons_succ]
      have ga0 := rf_at Bi5.out.g1 0 _ rfl
      have gaf := rf_fr Bi5.out.g1 0
      refine wpAnyH_ready (rs := [18]) (by kernel_rfl) (by simp) ?_
      refine AllReadyH.cons rfl (fun K hK => ?_) AllReadyH.nil
      go_simp
      refine hK.out _ _ (hS.set _ (by omega) (by omega) (by omega) (by omega)) (fun hS' => ?_)
      clear hK K
      replace hS := hS'
      clear hS'
      try simp only [Act.put, List.setIfInBounds_toArray, List.set_cons_zero, List.set_cons_succ]
      have Bi6 := Lib.hid (Bi5.out.setA rP)
      clear ga0 gaf
      have ga0 := rf_at Bi6.out.g2 0 _ rfl
      have gaf := rf_fr Bi6.out.g2 0
      refine wpAnyH_ready (rs := [19]) (by kernel_rfl) (by simp) ?_
      refine AllReadyH.cons rfl (fun K hK => ?_) AllReadyH.nil
      go_simp
      refine hK.out _ _ (hS.set _ (by omega) (by omega) (by omega) (by omega)) (fun hS' => ?_)
      clear hK K
      replace hS := hS'
      clear hS'
      try simp only [Act.put, List.setIfInBounds_toArray, List.set_cons_zero, List.set_cons_succ]
      have Bi7 := Lib.hid (Bi6.out.setB rQ)
      clear ga0 gaf
      have ga0 := rf_at Bi7.out.g3 0 _ rfl
      have gaf := rf_fr Bi7.out.g3 0
      refine wpAnyH_ready (rs := [20]) (by kernel_rfl) (by simp) ?_
      refine AllReadyH.cons rfl (fun K hK => ?_) AllReadyH.nil
      go_simp
      refine hK.out _ _ (hS.set _ (by omega) (by omega) (by omega) (by omega)) (fun hS' => ?_)
      clear hK K
      replace hS := hS'
      clear hS'
      try simp only [Act.put, List.setIfInBounds_toArray, List.set_cons_zero, List.set_cons_succ]
      have Bi8 := Lib.hid (Bi7.out.setC rB)
      clear ga0 gaf
      refine wpAnyH_done (by kernel_rfl) ?_ _
      simp only [NormalQ]
      gi_wp2
      refine ⟨⟨?_, fun k o hk ho hc => ?_⟩, ⟨pre, ⟨⟨xn, xs, xx, xb⟩, hxt⟩, rfl, Hno.out, Hn.out, rfl, ?_⟩⟩
      · have := Hk5.out.size
        simp
        exact this
      · have h1 := (Hk5.out.block k (cell_lt_of ho)).trans ho
        rw [Below.heap_setCell _ _ _ _ (by dsimp only; omega), Below.heap_setCell _ _ _ _ (by dsimp only; omega), Below.heap_setCell _ _ _ _ (by dsimp only; omega)]
        exact h1
      · rw [HbP.out, HbQ.out, HbB.out]
        exact Bi8.out

  case done =>
    rintro D1 ys W hD hys ⟨hno, bi⟩ hK
    have Hres := Lib.hid (blamed_none (D := D) (ls := ls) (by rw [← hys]; exact hno))
    have Bi := Lib.hid bi
    have HK := Lib.hid hK
    have hD8 : w.heap.size + 8 ≤ D1 := by omega
    have ga0 := rf_at bi.g1 0 _ rfl
    have gaf := rf_fr bi.g1 0
    have gb0 := rf_at (bi.setA ⟨#[]⟩).g2 0 _ rfl
    have gbf := rf_fr (bi.setA ⟨#[]⟩).g2 0
    have gc0 := rf_at ((bi.setA ⟨#[]⟩).setB ⟨#[]⟩).g3 0 _ rfl
    have gcf := rf_fr ((bi.setA ⟨#[]⟩).setB ⟨#[]⟩).g3 0
    clear bi hK hys hno
    gi_wp2
    refine blame_end ((((Bi.out.setA ⟨#[]⟩).setB ⟨#[]⟩).setC false)) hD8 ?_ _ rfl rfl rfl (fun W' hW' => ?_)
    · rw [Below.heap_setCell _ _ _ _ (by dsimp only; omega), Below.heap_setCell _ _ _ _ (by dsimp only; omega), Below.heap_setCell _ _ _ _ (by dsimp only; omega)]
      exact HK.out
    · rw [Hres.out]
      exact ⟨hW', rfl⟩
  case stop =>
    rintro D1 cd pre W hD hpre hX hK
    obtain ⟨p0, x, rfl, hno, hyes, rfl, bi⟩ := hX.ex
    have Hres := Lib.hid (blamed_some hpre hno hyes)
    have Bi := Lib.hid bi
    have HK := Lib.hid hK
    have hD8 : w.heap.size + 8 ≤ D1 := by omega
    clear bi hK hno hyes hpre hX
    gi_wp2
    refine blame_end Bi.out hD8 HK.out _ rfl rfl rfl (fun W' hW' => ?_)
    rw [Hres.out]
    exact ⟨hW', rfl⟩
end Go.Proofs.YtifcpklaenbclaaGreatDoor
