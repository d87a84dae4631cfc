/-
  Contracts of spread's told, commit, prepare.
  Contract of spread's prepare.
-/
import Derived.Test.YtkbjmmigjjdfpaaGreatDoorCs
import Derived.Test.YtkbjmmigjjdfpaaGreatDoorCd
import Derived.Deep.RegionHeld3
namespace Go.Proofs.YtkbjmmigjjdfpaaGreatDoor
/- ChP -/
open Go.RowKit
set_option linter.unusedVariables false
set_option linter.unusedSimpArgs false
set_option maxRecDepth 100000
set_option maxHeartbeats 8000000

/-- What a deal's slices are. -/
structure Sl7 where
  A : Option Addr
  n : Nat
  c : Nat
  B : Option Addr
  m : Nat
  d : Nat
  C : Option Addr
  p : Nat
  q : Nat
  E : Option Addr
  s : Nat
  t : Nat
theorem shares_sl (l : List Shr) : ∀ u ∈ sharesV l, isSl u = false := by
  intro u hu
  obtain ⟨p, _, hp⟩ := List.mem_flatMap.1 hu
  simp [shrV] at hp
  rcases hp with rfl | rfl <;> rfl
/-- A spread in memory: its disks are of the call's own. -/
structure Spr (B0 S g n cap : Nat) (l : List Dk) (D : Deal) (y : Sl7) (w : World) : Prop where
  blk : w.heap[S]? = some (.cells #[.slice (some ⟨g, 0, none⟩) n cap, .int .i64 D.r.e, .int .i64 D.r.k, .slice y.A y.n y.c, .slice y.B y.m y.d, .string D.sec, .slice y.C y.p y.q, .slice y.E y.s y.t] 61 (0, 0))
  own : OwnD w B0 (some ⟨g, 0, none⟩) n cap l
  sh : Rd w y.C (sharesV D.sh)
  sa : Rd w y.E (textsV D.sa)
  hp : y.p = D.sh.length
  hs : y.s = D.sa.length
theorem Spr.below {B0 S g n cap : Nat} {l : List Dk} {D : Deal} {y : Sl7} {w w' : World} (h : Spr B0 S g n cap l D y w) (hb : Below w.heap.size w w') : Spr B0 S g n cap l D y w' :=
  ⟨cells_below h.blk hb, h.own.below hb, h.sh.below hb, h.sa.below hb, h.hp, h.hs⟩
theorem Spr.ne {B0 S g n cap : Nat} {l : List Dk} {D : Deal} {y : Sl7} {w : World} (h : Spr B0 S g n cap l D y w) : S ≠ g := fun e => own_far h.blk h.own.os (by decide) (by rw [e]; rfl)
theorem Spr.set {B0 S g n cap : Nat} {l : List Dk} {D : Deal} {y : Sl7} {w : World} (h : Spr B0 S g n cap l D y w) {i : Nat} (hi : i < n) {x : Dk} (hx : x.ok w) :
    Spr B0 S g n cap (l.set i x) D y ((w.setCell ⟨g, i * 2, none⟩ (.slice x.A x.n x.c)).setCell ⟨g, i * 2 + 1, none⟩ (.slice x.B x.m x.d)) := by
  obtain ⟨o, hg⟩ := h.own.set hi hx
  exact ⟨gb_blk hg h.blk h.ne, o, rd_grown h.sh (shares_sl _) (h.own.sl g 0 rfl) hg, rd_grown h.sa (texts_sl _) (h.own.sl g 0 rfl) hg, h.hp, h.hs⟩
theorem below_gb {w w' : World} {r : Option Nat} (h : Below w.heap.size w w') : w.grownBy w' r := ⟨h.os, h.tape, h.output, h.size, fun k hk _ => h.block k hk⟩
def toldD (l : List Dk) (i : Nat) (x : Dk) (e : Int) : List Dk := if e = 0 ∨ e = 230 then l.set i x else l
theorem stold_any (B0 S g n cap : Nat) (l : List Dk) (D : Deal) (y : Sl7) (i : Nat) (x : Dk) (e : Int) (w : World) (h : Spr B0 S g n cap l D y w) (hi : i < n) (hx : x.ok w) (hB : B0 ≤ w.heap.size) :
    Calls Tryz.prog 47 #[.pointer (some ⟨S, 0, none⟩), .int .i64 (i : Nat), dkA x, .int .i64 e] w fun E w' => E = .returned (.int .i64 e) ∧ Spr B0 S g n cap (toldD l i x e) D y w' ∧ w.grownBy w' (some g) := by
  have hX := heap_alloc_new w (.cells #[.slice x.A x.n x.c, .slice x.B x.m x.d] 68)
  have hb := (Below.refl w.heap.size w).alloc (Nat.le_refl _) (.cells #[.slice x.A x.n x.c, .slice x.B x.m x.d] 68)
  obtain ⟨u, hu⟩ : ∃ u, u = w.alloc (.cells #[.slice x.A x.n x.c, .slice x.B x.m x.d] 68) := ⟨_, rfl⟩
  rw [← hu] at hX hb
  have HX := Lib.hid hX
  have HS := Lib.hid (h.below hb)
  have HO := Lib.hid (hx.below hb)
  have HB : Hid (w.grownBy u (some g)) := Lib.hid (below_gb hb)
  have hgw : g < w.heap.size := (h.own.os.lt _ rfl).2
  have hne : S ≠ g := h.ne
  have hSw : S < w.heap.size := cell_lt_of h.blk
  have Hu := Lib.hid hu
  clear hX hb h hx hu
  obtain ⟨xA, xn, xc, xB, xm, xd, xP⟩ := x
  simp only [dkA] at *
  by_cases h0 : e = 0
  · subst h0
    have d1 : ((0 : Int) == 0) = true := rfl
    go_enter Tryz.func47, Tryz.ntmps47
    go_upto_region 2 with fail
    rw [← Hu.out]
    clear Hu
    generalize hgx : w.heap.size = gx at *
    clear hgx
    obtain ⟨x0, x1, _, _⟩ := two_cells HX.out
    have s0 := cell_in HS.out.blk 0 _ rfl
    have p0 := HS.out.own.os.cellAt (i * 2) (by omega)
    have p1 := HS.out.own.os.frozenAt (i * 2)
    have p2 := HS.out.own.os.cellAt (i * 2 + 1) (by omega)
    have p3 := HS.out.own.os.frozenAt (i * 2 + 1)
    have hil : i < l.length := by rw [← HS.out.own.hn]; exact hi
    rw [(dksV_at l i _ (List.getElem?_eq_getElem hil)).1] at p0
    rw [(dksV_at l i _ (List.getElem?_eq_getElem hil)).2] at p2
    generalize l[i] = old at p0 p2
    have hgg := (HS.out.own.set hi (x := ⟨xA, xn, xc, xB, xm, xd, xP⟩) HO.out).2
    have HBf := Lib.hid (gb_tr HB.out hgg)
    have HSf := Lib.hid (HS.out.set hi (x := ⟨xA, xn, xc, xB, xm, xd, xP⟩) HO.out)
    have hxf := (two_cells (gb_blk hgg HX.out (by omega)))
    have sf0 := cell_in HSf.out.blk 0 _ rfl
    clear hgg hil
    have hi' : (i : Int) < (n : Int) := by omega
    go_wp2_with fail
    go_region_held3 (fun w' => w'.cell? ⟨S, 0, none⟩ = some (.slice (some ⟨g, 0, none⟩) n cap) ∧ (w'.cell? ⟨gx, 0, none⟩ = some (.slice xA xn xc) ∧ w'.cell? ⟨gx, 1, none⟩ = some (.slice xB xm xd)))
      (first | assumption | exact ⟨s0, x0, x1⟩ | exact ⟨sf0, hxf.1, hxf.2.1⟩)
      (fail)
    all_goals
      go_wp2_with fail
      go_ret
      exact ⟨rfl, HSf.out.below ((Below.refl _ _).drew), gb_tr HBf.out (below_gb ((Below.refl _ _).drew))⟩
  · have d1 : (e == 0) = false := by simpa using h0
    by_cases h1 : e = 230
    · subst h1
      have d2 : ((230 : Int) == 230) = true := rfl
      go_enter Tryz.func47, Tryz.ntmps47
      go_upto_region 2 with fail
      rw [← Hu.out]
      clear Hu
      generalize hgx : w.heap.size = gx at *
      clear hgx
      obtain ⟨x0, x1, _, _⟩ := two_cells HX.out
      have s0 := cell_in HS.out.blk 0 _ rfl
      have p0 := HS.out.own.os.cellAt (i * 2) (by omega)
      have p1 := HS.out.own.os.frozenAt (i * 2)
      have p2 := HS.out.own.os.cellAt (i * 2 + 1) (by omega)
      have p3 := HS.out.own.os.frozenAt (i * 2 + 1)
      have hil : i < l.length := by rw [← HS.out.own.hn]; exact hi
      rw [(dksV_at l i _ (List.getElem?_eq_getElem hil)).1] at p0
      rw [(dksV_at l i _ (List.getElem?_eq_getElem hil)).2] at p2
      generalize l[i] = old at p0 p2
      have hgg := (HS.out.own.set hi (x := ⟨xA, xn, xc, xB, xm, xd, xP⟩) HO.out).2
      have HBf := Lib.hid (gb_tr HB.out hgg)
      have HSf := Lib.hid (HS.out.set hi (x := ⟨xA, xn, xc, xB, xm, xd, xP⟩) HO.out)
      have hxf := (two_cells (gb_blk hgg HX.out (by omega)))
      have sf0 := cell_in HSf.out.blk 0 _ rfl
      clear hgg hil
      have hi' : (i : Int) < (n : Int) := by omega
      go_wp2_with fail
      go_region_held3 (fun w' => w'.cell? ⟨S, 0, none⟩ = some (.slice (some ⟨g, 0, none⟩) n cap) ∧ (w'.cell? ⟨gx, 0, none⟩ = some (.slice xA xn xc) ∧ w'.cell? ⟨gx, 1, none⟩ = some (.slice xB xm xd)))
        (first | assumption | exact ⟨s0, x0, x1⟩ | exact ⟨sf0, hxf.1, hxf.2.1⟩)
        (fail)
      all_goals
        go_wp2_with fail
        go_ret
        exact ⟨rfl, HSf.out.below ((Below.refl _ _).drew), gb_tr HBf.out (below_gb ((Below.refl _ _).drew))⟩
    · have d2 : (e == 230) = false := by simpa using h1
      have HE := Lib.hid (show toldD l i ⟨xA, xn, xc, xB, xm, xd, xP⟩ e = l by unfold toldD; rw [if_neg (by omega)])
      go_enter Tryz.func47, Tryz.ntmps47
      go_wp2_with fail
      rw [← Hu.out, HE.out]
      go_ret
      exact ⟨rfl, HS.out, HB.out⟩
def StepR (B0 S g n cap : Nat) (l : List Dk) (D : Deal) (y : Sl7) (i : Nat) (w : World) (r : Plat × Int) (E : Ending) (w' : World) : Prop :=
  E = .returned (.int .i64 r.2) ∧ ∃ l', Spr B0 S g n cap l' D y w' ∧ plats l' = (if r.2 = 0 ∨ r.2 = 230 then (plats l).set i r.1 else plats l) ∧ w.grownBy w' (some g)
theorem stepR_of {B0 S g n cap : Nat} {l : List Dk} {D : Deal} {y : Sl7} {i : Nat} {w w1 w' : World} {P : Plat} {c : Int} {x : Dk} (hxP : x.P = P) {E : Ending} (hE : E = .returned (.int .i64 c)) (h : Spr B0 S g n cap (toldD l i x c) D y w') (hb1 : w.grownBy w1 (some g)) (hb : w1.grownBy w' (some g)) : StepR B0 S g n cap l D y i w (P, c) E w' := by
  refine ⟨hE, _, h, ?_, gb_tr hb1 hb⟩
  subst hxP
  unfold toldD
  simp only
  split
  · rw [plats_set]
  · rfl
/-- The step's own block that is stored into: what is told there. -/
theorem two_own {w w5 : World} {B0 S g n cap : Nat} {l : List Dk} {D : Deal} {y : Sl7} {A5 B5 : Option Addr} {n5 c5 m5 d5 : Nat} {Q : Plat} (hS : Spr B0 S g n cap l D y w) (hb : Below w.heap.size w w5) (hp5 : PB w5 A5 n5 B5 m5 Q)
    (hz : w5.heap[w.heap.size]? = some (.cells #[.slice none 0 0, .slice none 0 0] 68 (0, 0))) :
    ∃ W, W = (w5.setCell ⟨w.heap.size, 0, none⟩ (.slice A5 n5 c5)).setCell ⟨w.heap.size, 1, none⟩ (.slice B5 m5 d5) ∧ W.cell? ⟨w.heap.size, 0, none⟩ = some (.slice A5 n5 c5) ∧ W.cell? ⟨w.heap.size, 1, none⟩ = some (.slice B5 m5 d5) ∧
      Below w.heap.size w W ∧ Spr B0 S g n cap l D y W ∧ PB W A5 n5 B5 m5 Q := by
  have hg2 := gb_tr (gb_one w5 w.heap.size 0 (.slice A5 n5 c5)) (gb_one _ w.heap.size 1 (.slice B5 m5 d5))
  have hbw := hb.trans (gb_by' hg2 (Nat.le_refl _) hb.size)
  obtain ⟨z0, z1, _, _⟩ := two_cells (two_set hz (.slice A5 n5 c5) (.slice B5 m5 d5))
  refine ⟨_, rfl, z0, z1, hbw, hS.below hbw, PB.grown hp5 hz (by decide) (by decide) (fun j u hu => ?_) hg2⟩
  rw [cell_of_row _ _ j _ _ _ hz] at hu
  match j, hu with
  | 0, hu => cases hu; rfl
  | 1, hu => cases hu; rfl
  | j + 2, hu => simp at hu
theorem two_new5 {w w5 : World} {B0 S g n cap : Nat} {l : List Dk} {D : Deal} {y : Sl7} {A5 B5 : Option Addr} {n5 c5 m5 d5 : Nat} {Q : Plat} (hS : Spr B0 S g n cap l D y w) (hb : Below w.heap.size w w5) (hp5 : PB w5 A5 n5 B5 m5 Q) :
    ∃ W, W = w5.alloc (.cells #[.slice A5 n5 c5, .slice B5 m5 d5] 68) ∧ W.cell? ⟨w5.heap.size, 0, none⟩ = some (.slice A5 n5 c5) ∧ W.cell? ⟨w5.heap.size, 1, none⟩ = some (.slice B5 m5 d5) ∧
      Below w.heap.size w W ∧ Spr B0 S g n cap l D y W ∧ PB W A5 n5 B5 m5 Q := by
  have al := (Below.refl w5.heap.size w5).alloc (Nat.le_refl _) (.cells #[.slice A5 n5 c5, .slice B5 m5 d5] 68)
  obtain ⟨z0, z1, _, _⟩ := two_cells (heap_alloc_new w5 (.cells #[.slice A5 n5 c5, .slice B5 m5 d5] 68))
  have hbw := Below.chain hb al
  exact ⟨_, rfl, z0, z1, hbw, hS.below hbw, hp5.below al⟩
theorem scommit_any (B0 S g n cap : Nat) (l : List Dk) (D : Deal) (y : Sl7) (i : Nat) (deeds : Int) (w : World) (h : Spr B0 S g n cap l D y w) (hi : i < n) (hB : B0 ≤ w.heap.size) :
    Calls Tryz.prog 24 #[.pointer (some ⟨S, 0, none⟩), .int .i64 (i : Nat), .int .i64 deeds] w (StepR B0 S g n cap l D y i w (commitH ((plats l).getD i noPlat) D.r.e deeds)) := by
  have hil : i < l.length := by rw [← h.own.hn]; exact hi
  rw [plats_at hil]
  have hO := h.own.ok _ (List.getElem_mem hil)
  have p0 := h.own.os.cellAt (i * 2) (by omega)
  have p2 := h.own.os.cellAt (i * 2 + 1) (by omega)
  rw [(dksV_at l i _ (List.getElem?_eq_getElem hil)).1] at p0
  rw [(dksV_at l i _ (List.getElem?_eq_getElem hil)).2] at p2
  generalize l[i] = x at p0 p2 hO ⊢
  obtain ⟨xA, xn, xc, xB, xm, xd, xP⟩ := x
  simp only at p0 p2 ⊢
  have HCm := Lib.hid (fun W (h : PB W xA xn xB xm xP) => hcommit_any (.agg #[.slice xA xn xc, .slice xB xm xd]) xP D.r.e deeds W ⟨_, _, _, _, _, _, rfl, h⟩)
  have HO := Lib.hid (show PB w xA xn xB xm xP from hO)
  generalize commitH xP D.r.e deeds = r at HCm ⊢
  obtain ⟨Q, ce⟩ := r
  have HS := Lib.hid h
  have HB := Lib.hid hB
  have s0 : w.cell? ⟨S, 0, none⟩ = some (.slice (some ⟨g, 0, none⟩) n cap) := cell_in h.blk 0 _ rfl
  have s1 : w.cell? ⟨S, 1, none⟩ = some (.int .i64 D.r.e) := cell_in h.blk 1 _ rfl
  have hi' : (i : Int) < (n : Int) := by omega
  have HT := Lib.hid (fun x e W hS hx hb => stold_any B0 S g n cap l D y i x e W hS hi hx hb)
  have hSw : S < w.heap.size := cell_lt_of h.blk
  have hgw : g < w.heap.size := (h.own.os.lt g rfl).2
  have K2 : ∀ (W : World) (a b : Value), ((W.cell? ⟨S, 0, none⟩ = some (.slice (some ⟨g, 0, none⟩) n cap) ∧ W.cell? ⟨S, 1, none⟩ = some (.int .i64 D.r.e)) ∧ (W.cell? ⟨g, i * 2, none⟩ = some (.slice xA xn xc) ∧ W.cell? ⟨g, i * 2 + 1, none⟩ = some (.slice xB xm xd))) →
      ((((W.setCell ⟨w.heap.size, 0, none⟩ a).setCell ⟨w.heap.size, 1, none⟩ b).cell? ⟨S, 0, none⟩ = some (.slice (some ⟨g, 0, none⟩) n cap) ∧ ((W.setCell ⟨w.heap.size, 0, none⟩ a).setCell ⟨w.heap.size, 1, none⟩ b).cell? ⟨S, 1, none⟩ = some (.int .i64 D.r.e)) ∧ (((W.setCell ⟨w.heap.size, 0, none⟩ a).setCell ⟨w.heap.size, 1, none⟩ b).cell? ⟨g, i * 2, none⟩ = some (.slice xA xn xc) ∧ ((W.setCell ⟨w.heap.size, 0, none⟩ a).setCell ⟨w.heap.size, 1, none⟩ b).cell? ⟨g, i * 2 + 1, none⟩ = some (.slice xB xm xd))) := by
    intro W a b hW
    have e1 : w.heap.size ≠ S := by omega
    have e2 : w.heap.size ≠ g := by omega
    exact keep4_set (keep4_set hW (by simp [e1]) (by simp [e1]) (by simp [e2]) (by simp [e2])) (by simp [e1]) (by simp [e1]) (by simp [e2]) (by simp [e2])
  clear h hO hil hB
  go_enter Tryz.func24, Tryz.ntmps24
  go_wp2_with fail
  go_region_held3 (fun w' => (w'.cell? ⟨S, 0, none⟩ = some (.slice (some ⟨g, 0, none⟩) n cap) ∧ w'.cell? ⟨S, 1, none⟩ = some (.int .i64 D.r.e)) ∧ (w'.cell? ⟨g, i * 2, none⟩ = some (.slice xA xn xc) ∧ w'.cell? ⟨g, i * 2 + 1, none⟩ = some (.slice xB xm xd)))
    (first | assumption | exact ⟨⟨s0, s1⟩, p0, p2⟩ | exact keep4_alloc (by assumption) | exact keep4_alloc (keep4_drew ⟨⟨s0, s1⟩, p0, p2⟩) | exact keep4_alloc ⟨⟨s0, s1⟩, p0, p2⟩ | exact K2 _ _ _ (by assumption))
    (first
      | (go_at_call 48; refine Calls.mono (HCm.out _ (HO.out.below ((Below.refl _ _).drew))) ?_; rintro _ w5 ⟨v5, rfl, ⟨A5, n5, c5, B5, m5, d5, rfl, hp5⟩, hb5⟩; have hb6 := Below.chain ((Below.refl w.heap.size w).drew) hb5; have k5 := keep4_below ⟨⟨s0, s1⟩, p0, p2⟩ hb6)
      | (go_at_call 48; refine Calls.mono (HCm.out _ (HO.out.below (((Below.refl w.heap.size w).alloc (Nat.le_refl _) (.cells #[.slice none 0 0, .slice none 0 0] 68)).drew))) ?_; rintro _ w5 ⟨v5, rfl, ⟨A5, n5, c5, B5, m5, d5, rfl, hp5⟩, hb5⟩; have hb6 := Below.chain (((Below.refl w.heap.size w).alloc (Nat.le_refl _) (.cells #[.slice none 0 0, .slice none 0 0] 68)).drew) hb5; have k5 := keep4_below ⟨⟨s0, s1⟩, p0, p2⟩ hb6; have hz := cells_below (W := (w.alloc (.cells #[.slice none 0 0, .slice none 0 0] 68)).drew) (heap_alloc_new w _) hb5; obtain ⟨z0, z1, zf0, zf1⟩ := two_cells hz))
  all_goals
    clear p0 p2 s0 s1 K2 k5
    first
      | (obtain ⟨W, hW, t0, t1, hbw, hsw, hpw⟩ := two_own (c5 := c5) (d5 := d5) HS.out hb6 hp5 hz; clear hz z0 z1 zf0 zf1)
      | obtain ⟨W, hW, t0, t1, hbw, hsw, hpw⟩ := two_new5 (c5 := c5) (d5 := d5) HS.out hb6 hp5
    rw [← hW]
    have HS2 := Lib.hid hsw
    have HP2 := Lib.hid hpw
    have Hbw := Lib.hid hbw
    clear hW hsw hpw hbw hb6 hp5 hb5 HS HO HCm
    go_wp2_with fail
    refine (HT.out ⟨A5, n5, c5, B5, m5, d5, Q⟩ ce W HS2.out HP2.out (Nat.le_trans HB.out Hbw.out.size)).mono ?_
    rintro E w6 ⟨rfl, hs6, hb6'⟩
    have HS6 := Lib.hid hs6
    have HB6 := Lib.hid hb6'
    clear hs6 hb6'
    go_wp2_with fail
    go_ret
    exact stepR_of rfl rfl HS6.out (below_gb Hbw.out) HB6.out

/- ChP2 -/
open Go.RowKit
set_option linter.unusedVariables false
set_option linter.unusedSimpArgs false
set_option maxRecDepth 100000
set_option maxHeartbeats 16000000

theorem keep9_below {W w' : World} {p q r s a b c d e : Addr} {u v x y u2 v2 x2 y2 z : Value} (h : ((W.cell? p = some u ∧ W.cell? q = some v) ∧ (W.cell? r = some x ∧ W.cell? s = some y)) ∧ ((W.cell? a = some u2 ∧ W.cell? b = some v2) ∧ (W.cell? c = some x2 ∧ W.cell? d = some y2)) ∧ W.cell? e = some z) (hb : Below W.heap.size W w') :
    ((w'.cell? p = some u ∧ w'.cell? q = some v) ∧ (w'.cell? r = some x ∧ w'.cell? s = some y)) ∧ ((w'.cell? a = some u2 ∧ w'.cell? b = some v2) ∧ (w'.cell? c = some x2 ∧ w'.cell? d = some y2)) ∧ w'.cell? e = some z :=
  ⟨keep4_below h.1 hb, keep4_below h.2.1 hb, (hb.cell (cell_lt h.2.2)).trans h.2.2⟩
theorem keep9_alloc {W : World} {o : Obj} {p q r s a b c d e : Addr} {u v x y u2 v2 x2 y2 z : Value} (h : ((W.cell? p = some u ∧ W.cell? q = some v) ∧ (W.cell? r = some x ∧ W.cell? s = some y)) ∧ ((W.cell? a = some u2 ∧ W.cell? b = some v2) ∧ (W.cell? c = some x2 ∧ W.cell? d = some y2)) ∧ W.cell? e = some z) :
    (((W.alloc o).cell? p = some u ∧ (W.alloc o).cell? q = some v) ∧ ((W.alloc o).cell? r = some x ∧ (W.alloc o).cell? s = some y)) ∧ (((W.alloc o).cell? a = some u2 ∧ (W.alloc o).cell? b = some v2) ∧ ((W.alloc o).cell? c = some x2 ∧ (W.alloc o).cell? d = some y2)) ∧ (W.alloc o).cell? e = some z :=
  keep9_below h ((Below.refl _ _).alloc (Nat.le_refl _) _)
theorem keep9_drew {W : World} {p q r s a b c d e : Addr} {u v x y u2 v2 x2 y2 z : Value} (h : ((W.cell? p = some u ∧ W.cell? q = some v) ∧ (W.cell? r = some x ∧ W.cell? s = some y)) ∧ ((W.cell? a = some u2 ∧ W.cell? b = some v2) ∧ (W.cell? c = some x2 ∧ W.cell? d = some y2)) ∧ W.cell? e = some z) :
    ((W.drew.cell? p = some u ∧ W.drew.cell? q = some v) ∧ (W.drew.cell? r = some x ∧ W.drew.cell? s = some y)) ∧ ((W.drew.cell? a = some u2 ∧ W.drew.cell? b = some v2) ∧ (W.drew.cell? c = some x2 ∧ W.drew.cell? d = some y2)) ∧ W.drew.cell? e = some z :=
  keep9_below h ((Below.refl _ _).drew)
theorem sprepare_any (B0 S g n cap : Nat) (l : List Dk) (D : Deal) (y : Sl7) (i : Nat) (deeds : Int) (w : World) (h : Spr B0 S g n cap l D y w) (hi : i < n) (hB : B0 ≤ w.heap.size) (hsh : n = D.sh.length) (hsa : n = D.sa.length) (hx9 : (giftD D i).b.size ≤ maxLen) (hs9 : (giftD D i).salt.size ≤ maxLen) :
    Calls Tryz.prog 23 #[.pointer (some ⟨S, 0, none⟩), .int .i64 (i : Nat), .int .i64 deeds] w (StepR B0 S g n cap l D y i w (prepF (giftD D) i ((plats l).getD i noPlat) deeds)) := by
  have hil : i < l.length := by rw [← h.own.hn]; exact hi
  rw [plats_at hil]
  have hO := h.own.ok _ (List.getElem_mem hil)
  have p0 := h.own.os.cellAt (i * 2) (by omega)
  have p2 := h.own.os.cellAt (i * 2 + 1) (by omega)
  rw [(dksV_at l i _ (List.getElem?_eq_getElem hil)).1] at p0
  rw [(dksV_at l i _ (List.getElem?_eq_getElem hil)).2] at p2
  generalize l[i] = x at p0 p2 hO ⊢
  obtain ⟨xA, xn, xc, xB, xm, xd, xP⟩ := x
  simp only at p0 p2 ⊢
  have his : i < D.sh.length := by omega
  have hia : i < D.sa.length := by omega
  have hib : i < y.s := by have := h.hs; omega
  have hic : i < y.p := by have := h.hp; omega
  obtain ⟨b1, o1, e1, c1⟩ := texts_at h.sa hia
  obtain ⟨b2, o2, e2⟩ : ∃ b o, y.C = some ⟨b, o, none⟩ := by
    obtain ⟨b, o, h, _⟩ := h.sh.shr his
    exact ⟨b, o, h⟩
  have hsh' := h.sh
  rw [e2] at hsh'
  obtain ⟨c2, c3⟩ := shr_at' hsh' his
  have hg : prepF (giftD D) i xP deeds = prepH xP D.r.e (D.sh.getD i (0, noneT)).1 (D.sh.getD i (0, noneT)).2 (D.sa.getD i noneT) deeds := rfl
  have hsai : D.sa[i] = D.sa.getD i noneT := by rw [List.getD_eq_getElem?_getD, List.getElem?_eq_getElem hia]; rfl
  rw [hsai] at c1
  have hx9' : (D.sh.getD i (0, noneT)).2.size ≤ maxLen := hx9
  have hs9' : (D.sa.getD i noneT).size ≤ maxLen := hs9
  rw [hg]
  generalize D.sa.getD i noneT = sl at c1 hs9' ⊢
  generalize D.sh.getD i (0, noneT) = sp at c2 c3 hx9' ⊢
  obtain ⟨z, b⟩ := sp
  simp only at c2 c3 hx9' ⊢
  have HCm := Lib.hid (fun W (h : PB W xA xn xB xm xP) => hprep_any (.agg #[.slice xA xn xc, .slice xB xm xd]) xP D.r.e z b sl deeds W ⟨_, _, _, _, _, _, rfl, h⟩ hx9' hs9')
  have HO := Lib.hid (show PB w xA xn xB xm xP from hO)
  generalize prepH xP D.r.e z b sl deeds = r at HCm ⊢
  obtain ⟨Q, ce⟩ := r
  have HS := Lib.hid h
  have HB := Lib.hid hB
  have s0 : w.cell? ⟨S, 0, none⟩ = some (.slice (some ⟨g, 0, none⟩) n cap) := cell_in h.blk 0 _ rfl
  have s1 : w.cell? ⟨S, 1, none⟩ = some (.int .i64 D.r.e) := cell_in h.blk 1 _ rfl
  have s6 : w.cell? ⟨S, 6, none⟩ = some (.slice (some ⟨b2, o2, none⟩) y.p y.q) := by
    have := cell_in h.blk 6 _ rfl
    rw [← e2]
    exact this
  have s7 : w.cell? ⟨S, 7, none⟩ = some (.slice (some ⟨b1, o1, none⟩) y.s y.t) := by
    have := cell_in h.blk 7 _ rfl
    rw [← e1]
    exact this
  have hi' : (i : Int) < (n : Int) := by omega
  have hib' : (i : Int) < (y.s : Int) := by omega
  have hic' : (i : Int) < (y.p : Int) := by omega
  have HT := Lib.hid (fun x e W hS hx hb => stold_any B0 S g n cap l D y i x e W hS hi hx hb)
  have hSw : S < w.heap.size := cell_lt_of h.blk
  have hgw : g < w.heap.size := (h.own.os.lt g rfl).2
  have hb1 : b1 < w.heap.size := cell_lt c1
  have hb2 : b2 < w.heap.size := cell_lt c2
  have K0 : ((w.cell? ⟨S, 0, none⟩ = some (.slice (some ⟨g, 0, none⟩) n cap) ∧ w.cell? ⟨S, 1, none⟩ = some (.int .i64 D.r.e)) ∧ (w.cell? ⟨S, 6, none⟩ = some (.slice (some ⟨b2, o2, none⟩) y.p y.q) ∧ w.cell? ⟨S, 7, none⟩ = some (.slice (some ⟨b1, o1, none⟩) y.s y.t))) ∧
      ((w.cell? ⟨g, i * 2, none⟩ = some (.slice xA xn xc) ∧ w.cell? ⟨g, i * 2 + 1, none⟩ = some (.slice xB xm xd)) ∧ (w.cell? ⟨b2, o2 + i * 2, none⟩ = some (.int .i64 z) ∧ w.cell? ⟨b2, o2 + i * 2 + 1, none⟩ = some (.string b))) ∧ w.cell? ⟨b1, o1 + i, none⟩ = some (.string sl) := ⟨⟨⟨s0, s1⟩, s6, s7⟩, ⟨⟨p0, p2⟩, c2, c3⟩, c1⟩
  have HK2 := Lib.hid (show ∀ (W : World) (u v : Value), (((W.cell? ⟨S, 0, none⟩ = some (.slice (some ⟨g, 0, none⟩) n cap) ∧ W.cell? ⟨S, 1, none⟩ = some (.int .i64 D.r.e)) ∧ (W.cell? ⟨S, 6, none⟩ = some (.slice (some ⟨b2, o2, none⟩) y.p y.q) ∧ W.cell? ⟨S, 7, none⟩ = some (.slice (some ⟨b1, o1, none⟩) y.s y.t))) ∧
      ((W.cell? ⟨g, i * 2, none⟩ = some (.slice xA xn xc) ∧ W.cell? ⟨g, i * 2 + 1, none⟩ = some (.slice xB xm xd)) ∧ (W.cell? ⟨b2, o2 + i * 2, none⟩ = some (.int .i64 z) ∧ W.cell? ⟨b2, o2 + i * 2 + 1, none⟩ = some (.string b))) ∧ W.cell? ⟨b1, o1 + i, none⟩ = some (.string sl)) →
      ∀ V, V = (W.setCell ⟨w.heap.size, 0, none⟩ u).setCell ⟨w.heap.size, 1, none⟩ v → ((V.cell? ⟨S, 0, none⟩ = some (.slice (some ⟨g, 0, none⟩) n cap) ∧ V.cell? ⟨S, 1, none⟩ = some (.int .i64 D.r.e)) ∧ (V.cell? ⟨S, 6, none⟩ = some (.slice (some ⟨b2, o2, none⟩) y.p y.q) ∧ V.cell? ⟨S, 7, none⟩ = some (.slice (some ⟨b1, o1, none⟩) y.s y.t))) ∧
      ((V.cell? ⟨g, i * 2, none⟩ = some (.slice xA xn xc) ∧ V.cell? ⟨g, i * 2 + 1, none⟩ = some (.slice xB xm xd)) ∧ (V.cell? ⟨b2, o2 + i * 2, none⟩ = some (.int .i64 z) ∧ V.cell? ⟨b2, o2 + i * 2 + 1, none⟩ = some (.string b))) ∧ V.cell? ⟨b1, o1 + i, none⟩ = some (.string sl) by
    intro W u v hW V hV
    subst hV
    have e1 : w.heap.size ≠ S := by omega
    have e2 : w.heap.size ≠ g := by omega
    have e3 : w.heap.size ≠ b1 := by omega
    have e4 : w.heap.size ≠ b2 := by omega
    exact ⟨keep4_set (keep4_set hW.1 (by simp [e1]) (by simp [e1]) (by simp [e1]) (by simp [e1])) (by simp [e1]) (by simp [e1]) (by simp [e1]) (by simp [e1]),
      keep4_set (keep4_set hW.2.1 (by simp [e2]) (by simp [e2]) (by simp [e4]) (by simp [e4])) (by simp [e2]) (by simp [e2]) (by simp [e4]) (by simp [e4]),
      (World.cell?_setCell_other _ _ _ _ (by simp [e3])).trans ((World.cell?_setCell_other _ _ _ _ (by simp [e3])).trans hW.2.2)⟩)
  clear h hO hil hB hg hsai hx9 hs9 hx9' hs9' e1 e2 hsh' his hia hsh hsa hib hic hb1 hb2 s0 s1 s6 s7 p0 p2 c1 c2 c3
  go_enter Tryz.func23, Tryz.ntmps23
  go_wp2_with fail
  go_region_held3 (fun w' => ((w'.cell? ⟨S, 0, none⟩ = some (.slice (some ⟨g, 0, none⟩) n cap) ∧ w'.cell? ⟨S, 1, none⟩ = some (.int .i64 D.r.e)) ∧ (w'.cell? ⟨S, 6, none⟩ = some (.slice (some ⟨b2, o2, none⟩) y.p y.q) ∧ w'.cell? ⟨S, 7, none⟩ = some (.slice (some ⟨b1, o1, none⟩) y.s y.t))) ∧
      ((w'.cell? ⟨g, i * 2, none⟩ = some (.slice xA xn xc) ∧ w'.cell? ⟨g, i * 2 + 1, none⟩ = some (.slice xB xm xd)) ∧ (w'.cell? ⟨b2, o2 + i * 2, none⟩ = some (.int .i64 z) ∧ w'.cell? ⟨b2, o2 + i * 2 + 1, none⟩ = some (.string b))) ∧ w'.cell? ⟨b1, o1 + i, none⟩ = some (.string sl))
    (first | assumption | exact K0 | exact keep9_alloc (by assumption) | exact keep9_alloc (keep9_drew K0) | exact keep9_alloc K0 | exact HK2.out _ _ _ (by assumption) _ rfl)
    (first
      | (go_at_call 46; refine Calls.mono (HCm.out _ (HO.out.below ((Below.refl _ _).drew))) ?_; rintro _ w5 ⟨v5, rfl, ⟨A5, n5, c5, B5, m5, d5, rfl, hp5⟩, hb5⟩; have hb6 := Below.chain ((Below.refl w.heap.size w).drew) hb5; have k5 := keep9_below K0 hb6)
      | (go_at_call 46; refine Calls.mono (HCm.out _ (HO.out.below (((Below.refl w.heap.size w).alloc (Nat.le_refl _) (.cells #[.slice none 0 0, .slice none 0 0] 68)).drew))) ?_; rintro _ w5 ⟨v5, rfl, ⟨A5, n5, c5, B5, m5, d5, rfl, hp5⟩, hb5⟩; have hb6 := Below.chain (((Below.refl w.heap.size w).alloc (Nat.le_refl _) (.cells #[.slice none 0 0, .slice none 0 0] 68)).drew) hb5; have k5 := keep9_below K0 hb6; have hz := cells_below (W := (w.alloc (.cells #[.slice none 0 0, .slice none 0 0] 68)).drew) (heap_alloc_new w _) hb5; obtain ⟨z0, z1, zf0, zf1⟩ := two_cells hz))
  all_goals
    clear K0 HK2 k5
    first
      | (obtain ⟨W, hW, t0, t1, hbw, hsw, hpw⟩ := two_own (c5 := c5) (d5 := d5) HS.out hb6 hp5 hz; clear hz z0 z1 zf0 zf1)
      | obtain ⟨W, hW, t0, t1, hbw, hsw, hpw⟩ := two_new5 (c5 := c5) (d5 := d5) HS.out hb6 hp5
    rw [← hW]
    have HS2 := Lib.hid hsw
    have HP2 := Lib.hid hpw
    have Hbw := Lib.hid hbw
    clear hW hsw hpw hbw hb6 hp5 hb5 HS HO HCm
    go_wp2_with fail
    refine (HT.out ⟨A5, n5, c5, B5, m5, d5, Q⟩ ce W HS2.out HP2.out (Nat.le_trans HB.out Hbw.out.size)).mono ?_
    rintro E w6 ⟨rfl, hs6, hb6'⟩
    have HS6 := Lib.hid hs6
    have HB6 := Lib.hid hb6'
    clear hs6 hb6'
    go_wp2_with fail
    go_ret
    exact stepR_of rfl rfl HS6.out (below_gb Hbw.out) HB6.out

end Go.Proofs.YtkbjmmigjjdfpaaGreatDoor
