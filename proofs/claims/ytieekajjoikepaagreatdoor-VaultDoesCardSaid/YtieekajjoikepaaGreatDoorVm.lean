/-
  The Store's memory; what it hands back behind a range over a function.
  Small facts for the Store's rounds: one-cell boxes beside a disk's rows; what a round touches.
-/
import Derived.Test.YtieekajjoikepaaGreatDoorVd
import Derived.Test.YtieekajjoikepaaGreatDoorVt
import Derived.Deep.RegionHeld3
import Derived.RangeFuncLeaves
import Derived.Test.YtieekajjoikepaaGreatDoorTl
import Derived.Test.YtieekajjoikepaaGreatDoorRound
namespace Go.Proofs.YtieekajjoikepaaGreatDoor
/- Va7 -/
open Go.RowKit
set_option linter.unusedVariables false
set_option linter.unusedSimpArgs false
set_option maxRecDepth 100000
set_option maxHeartbeats 2000000

/-- Store's boxes: the disk, the volume, the deeds, the three results. -/
structure ST (w : World) (p0 p1 v0 v1 : Value) (D : Int) (r0 r1 : Value) (z : Bool) (x : Int) (W : World) : Prop where
  gp : W.heap[w.heap.size]? = some (.cells #[p0, p1] 25 (0, 0))
  gv : W.heap[w.heap.size + 1]? = some (.cells #[v0, v1] 27 (0, 0))
  gd : W.heap[w.heap.size + 1 + 1]? = some (.cells #[.int .i64 D] 3 (0, 0))
  gr : W.heap[w.heap.size + 1 + 1 + 1]? = some (.cells #[r0, r1] 25 (0, 0))
  gb : W.heap[w.heap.size + 1 + 1 + 1 + 1]? = some (.cells #[.bool z] 4 (0, 0))
  ge : W.heap[w.heap.size + 1 + 1 + 1 + 1 + 1]? = some (.cells #[.int .i64 x] 30 (0, 0))
  hb : Below w.heap.size w W
  hz : w.heap.size + 6 ≤ W.heap.size
section
variable {w W W' : World} {p0 p1 v0 v1 r0 r1 : Value} {D x : Int} {z : Bool}
theorem ST.below (h : ST w p0 p1 v0 v1 D r0 r1 z x W) (hb : Below W.heap.size W W') : ST w p0 p1 v0 v1 D r0 r1 z x W' :=
  ⟨cells_below h.gp hb, cells_below h.gv hb, cells_below h.gd hb, cells_below h.gr hb, cells_below h.gb hb, cells_below h.ge hb, h.hb.trans (hb.mono h.hb.size), Nat.le_trans h.hz hb.size⟩
theorem ST.kept {row : Option Nat} (h : ST w p0 p1 v0 v1 D r0 r1 z x W) (hg : W.grownBy W' row) (hr : ∀ r, row = some r → w.heap.size ≤ r ∧ ∃ o : Obj, W.heap[r]? = some o ∧ o.isCells = false) : ST w p0 p1 v0 v1 D r0 r1 z x W' :=
  have hr2 : ∀ r, row = some r → ∃ o : Obj, W.heap[r]? = some o ∧ o.isCells = false := fun r e => (hr r e).2
  ⟨rf_c h.gp hg hr2, rf_c h.gv hg hr2, rf_c h.gd hg hr2, rf_c h.gr hg hr2, rf_c h.gb hg hr2, rf_c h.ge hg hr2, h.hb.grown hg (Below.size h.hb) (fun k e => (hr k e).1), Nat.le_trans h.hz hg.size⟩
theorem ST.far (h : ST w p0 p1 v0 v1 D r0 r1 z x W) {g i : Nat} (hg : w.heap.size + 6 ≤ g) (u : Value) : ST w p0 p1 v0 v1 D r0 r1 z x (W.setCell ⟨g, i, none⟩ u) :=
  ⟨blk_oth h.gp (by omega) _, blk_oth h.gv (by omega) _, blk_oth h.gd (by omega) _, blk_oth h.gr (by omega) _, blk_oth h.gb (by omega) _, blk_oth h.ge (by omega) _, h.hb.setCell (by dsimp only; omega) _, by simpa using h.hz⟩
theorem ST.setP (h : ST w p0 p1 v0 v1 D r0 r1 z x W) (a b : Value) : ST w a b v0 v1 D r0 r1 z x ((W.setCell ⟨w.heap.size, 0, none⟩ a).setCell ⟨w.heap.size, 1, none⟩ b) :=
  ⟨two_set h.gp a b, blk_oth (blk_oth h.gv (by omega) _) (by omega) _, blk_oth (blk_oth h.gd (by omega) _) (by omega) _, blk_oth (blk_oth h.gr (by omega) _) (by omega) _, blk_oth (blk_oth h.gb (by omega) _) (by omega) _, blk_oth (blk_oth h.ge (by omega) _) (by omega) _, two_by h.hb (Nat.le_refl _) _ _, by simpa using h.hz⟩
theorem ST.setD (h : ST w p0 p1 v0 v1 D r0 r1 z x W) (u : Int) : ST w p0 p1 v0 v1 u r0 r1 z x (W.setCell ⟨w.heap.size + 1 + 1, 0, none⟩ (.int .i64 u)) :=
  ⟨blk_oth h.gp (by omega) _, blk_oth h.gv (by omega) _, by have := blk_set h.gd 0 (.int .i64 u); simpa using this, blk_oth h.gr (by omega) _, blk_oth h.gb (by omega) _, blk_oth h.ge (by omega) _, h.hb.setCell (by dsimp only; omega) _, by simpa using h.hz⟩
theorem ST.setR (h : ST w p0 p1 v0 v1 D r0 r1 z x W) (a b : Value) (z' : Bool) (x' : Int) : ST w p0 p1 v0 v1 D a b z' x' ((((W.setCell ⟨w.heap.size + 1 + 1 + 1, 0, none⟩ a).setCell ⟨w.heap.size + 1 + 1 + 1, 1, none⟩ b).setCell ⟨w.heap.size + 1 + 1 + 1 + 1, 0, none⟩ (.bool z')).setCell ⟨w.heap.size + 1 + 1 + 1 + 1 + 1, 0, none⟩ (.int .i64 x')) := by
  have h4 : ∀ {k : Nat} {o : Obj}, W.heap[k]? = some o → k < w.heap.size + 3 → ((((W.setCell ⟨w.heap.size + 1 + 1 + 1, 0, none⟩ a).setCell ⟨w.heap.size + 1 + 1 + 1, 1, none⟩ b).setCell ⟨w.heap.size + 1 + 1 + 1 + 1, 0, none⟩ (.bool z')).setCell ⟨w.heap.size + 1 + 1 + 1 + 1 + 1, 0, none⟩ (.int .i64 x')).heap[k]? = some o :=
    fun hk hl => blk_oth (blk_oth (blk_oth (blk_oth hk (by omega) _) (by omega) _) (by omega) _) (by omega) _
  refine ⟨h4 h.gp (by omega), h4 h.gv (by omega), h4 h.gd (by omega), blk_oth (blk_oth (two_set h.gr a b) (by omega) _) (by omega) _, ?_, ?_, (((h.hb.setCell (by dsimp only; omega) _).setCell (by dsimp only; omega) _).setCell (by dsimp only; omega) _).setCell (by dsimp only; omega) _, by simpa using h.hz⟩
  · refine blk_oth ?_ (by omega) _
    have := blk_set (blk_oth (blk_oth h.gb (show w.heap.size + 1 + 1 + 1 + 1 ≠ w.heap.size + 1 + 1 + 1 by omega) (i := 0) a) (show w.heap.size + 1 + 1 + 1 + 1 ≠ w.heap.size + 1 + 1 + 1 by omega) (i := 1) b) 0 (.bool z')
    simpa using this
  · have := blk_set (blk_oth (blk_oth (blk_oth h.ge (show w.heap.size + 1 + 1 + 1 + 1 + 1 ≠ w.heap.size + 1 + 1 + 1 by omega) (i := 0) a) (show w.heap.size + 1 + 1 + 1 + 1 + 1 ≠ w.heap.size + 1 + 1 + 1 by omega) (i := 1) b) (show w.heap.size + 1 + 1 + 1 + 1 + 1 ≠ w.heap.size + 1 + 1 + 1 + 1 by omega) (i := 0) (.bool z')) 0 (.int .i64 x')
    simpa using this
end
theorem st_new (w : World) (p0 p1 v0 v1 : Value) (D : Int) : ST w p0 p1 v0 v1 D (.slice none 0 0) (.slice none 0 0) false 0 ((((((w.alloc (.cells #[p0, p1] 25)).alloc (.cells #[v0, v1] 27)).alloc (.cells #[.int .i64 D] 3)).alloc (.cells zP 25)).alloc (.cells #[.bool false] 4)).alloc (.cells #[.int .i64 0] 30)) := by
  have e : ∀ (W : World) (o : Obj) (k : Nat), W.heap.size = k → (W.alloc o).heap[k]? = some o := fun W o k h => by subst h; exact heap_alloc_new W o
  refine ⟨va_lift (va_lift (va_lift (va_lift (va_lift (heap_alloc_new w _) _) _) _) _) _, va_lift (va_lift (va_lift (va_lift (e _ _ _ (by simp)) _) _) _) _, va_lift (va_lift (va_lift (e _ _ _ (by simp)) _) _) _, va_lift (va_lift (e _ _ _ (by simp)) _) _, va_lift (e _ _ _ (by simp)) _, e _ _ _ (by simp), ?_, by simp⟩
  exact ((((((Below.refl _ _).alloc (Nat.le_refl _) _).alloc (by simp) _).alloc (by simp; omega) _).alloc (by simp; omega) _).alloc (by simp; omega) _).alloc (by simp; omega) _

/-- Marks of ranges over functions. -/
def vmarks (Ds : List Nat) : List Deferred := Ds.map fun D => { target := .collected D, args := #[] }
/-- Blocks of marks are shut; cells stay. -/
structure ShutV (B : Nat) (W W' : World) : Prop where
  hb : Below B W W'
  hc : ∀ (k : Nat) (o : Obj), W.heap[k]? = some o → o.isCells = true → W'.heap[k]? = some o
theorem vleaves {F : Fence} {n : Nat} {P : Program} {fn : Func} {tmps : Array Value} {R : Ending → World → Prop} (B : Nat) : ∀ (Ds : List Nat) (W : World), Ds.Nodup → (∀ D ∈ Ds, B ≤ D ∧ W.heap[D]? = some (.deferred (some []))) →
    (∀ W', ShutV B W W' → ∃ v, (results fn tmps).run P W' = .ok v W' ∧ R (.returned v) W') → LeavesInM F n P fn tmps R (vmarks Ds) .returning W
  | [], W, _, _, hR => hR W ⟨Below.refl _ _, fun _ _ h _ => h⟩
  | D :: Ds, W, hnd, hD, hR => by
    obtain ⟨h1, h2⟩ := hD D (by simp)
    rw [List.nodup_cons] at hnd
    have hlt : D < W.heap.size := cell_lt_of h2
    have hb : Below B W (W.putObj D (.deferred none)) := (Below.refl B W).grown (grownBy_putObj' W D (.deferred none)) (by omega) (fun k e => by cases e; omega)
    refine ⟨by simp, .inl ⟨D, _, rfl, run_takeDeferred h2, vleaves B Ds _ hnd.2 (fun D' hD' => ⟨(hD D' (by simp [hD'])).1, ?_⟩) fun W' hW' => hR W' ⟨hb.trans hW'.hb, fun k o hk ho => hW'.hc k o ?_ ho⟩⟩⟩
    · rw [World.putObj_heap_other (fun e => hnd.1 (by rw [e] at hD'; exact hD'))]
      exact (hD D' (by simp [hD'])).2
    · rw [World.putObj_heap_other (fun e => by subst e; rw [h2] at hk; cases hk; cases ho)]
      exact hk
theorem rd_shut {B : Nat} {W W' : World} {A : Option Addr} {xs : List Value} (h : Rd W A xs) (hs : ShutV B W W') : Rd W' A xs := by
  intro j u hu
  obtain ⟨b, off, hA, hc⟩ := h j u hu
  refine ⟨b, off, hA, ?_⟩
  cases ho : W.heap[b]? with
  | none => unfold World.cell? at hc; simp [ho] at hc
  | some o =>
    have hco : o.isCells = true := by
      unfold World.cell? at hc
      cases o <;> simp [ho, Obj.isCells] at hc ⊢
    exact (World.cell?_of_block ((hs.hc b o ho hco).trans ho.symm)).trans hc
theorem PlV.shut {B : Nat} {W W' : World} {v : Value} {P : Plat} (h : PlV W v P) (hs : ShutV B W W') : PlV W' v P := by
  obtain ⟨A, n, c, B', m, d, rfl, h⟩ := h
  exact ⟨A, n, c, B', m, d, rfl, ⟨h.hn, h.hm, rd_shut h.rs hs, rd_shut h.rc hs, trivial, trivial⟩⟩
theorem va_res3 {P : Program} {fn : Func} {a b c : Tmp} {ta tb tc : TypeId} (h : fn.results = #[.cell a ta, .cell b tb, .cell c tc]) (tmps : Array Value) (w : World) (g k m : Nat) (ha : tmps.getD a undef = .pointer (some ⟨g, 0, none⟩)) (hb : tmps.getD b undef = .pointer (some ⟨k, 0, none⟩)) (hc : tmps.getD c undef = .pointer (some ⟨m, 0, none⟩)) (x y z : Value)
    (hl : (loadVar ta ⟨g, 0, none⟩).run P w = .ok x w) (hk : (loadVar tb ⟨k, 0, none⟩).run P w = .ok y w) (hm : (loadVar tc ⟨m, 0, none⟩).run P w = .ok z w) : (results fn tmps).run P w = .ok (.tuple #[x, y, z]) w := by
  have ha' : tmps[a]?.getD undef = .pointer (some ⟨g, 0, none⟩) := by simpa using ha
  have hb' : tmps[b]?.getD undef = .pointer (some ⟨k, 0, none⟩) := by simpa using hb
  have hc' : tmps[c]?.getD undef = .pointer (some ⟨m, 0, none⟩) := by simpa using hc
  simp [results, h, asAddr, ha', hb', hc', hl, hk, hm]
theorem va_load_bool {w : World} {g : Nat} {s : Bool} (h : w.cell? ⟨g, 0, none⟩ = some (.bool s)) : (loadVar 4 ⟨g, 0, none⟩).run Tryz.prog w = .ok (.bool s) w := by
  go_simp
theorem va_load_err {w : World} {g : Nat} {s : Int} (h : w.cell? ⟨g, 0, none⟩ = some (.int .i64 s)) : (loadVar 30 ⟨g, 0, none⟩).run Tryz.prog w = .ok (.int .i64 s) w := by
  go_simp
theorem store_end {w W : World} {p0 p1 v0 v1 r0 r1 : Value} {D x : Int} {z : Bool} (h : ST w p0 p1 v0 v1 D r0 r1 z x W) {r : Plat × Bool × Int} (hP : PlV W (.agg #[r0, r1]) r.1) (hz : z = r.2.1) (hx : x = r.2.2) (Ds : List Nat) (hn : Ds.Nodup) (hD : ∀ D ∈ Ds, w.heap.size ≤ D ∧ W.heap[D]? = some (.deferred (some []))) (tmps : Array Value)
    (ha : tmps.getD 6 undef = .pointer (some ⟨w.heap.size + 1 + 1 + 1, 0, none⟩)) (hb : tmps.getD 7 undef = .pointer (some ⟨w.heap.size + 1 + 1 + 1 + 1, 0, none⟩)) (hc : tmps.getD 8 undef = .pointer (some ⟨w.heap.size + 1 + 1 + 1 + 1 + 1, 0, none⟩)) :
    LeavesInM Fence.wide 4 Tryz.prog Tryz.f10 tmps (DoR w r) (vmarks Ds) .returning W :=
  vleaves w.heap.size Ds W hn hD fun W' hS => ⟨_, va_res3 rfl _ _ _ _ _ ha hb hc _ _ _ (load_plat_new (hS.hc _ _ h.gr rfl)) (va_load_bool (rf_at (hS.hc _ _ h.gb rfl) 0 _ rfl)) (va_load_err (rf_at (hS.hc _ _ h.ge rfl) 0 _ rfl)), by
    subst hz hx
    exact ⟨_, rfl, hP.shut hS, h.hb.trans hS.hb⟩⟩
/-- Store's memory while it lays: the boxes, the disk so far, the chest, the error. -/
structure SU (w : World) (gc gx : Nat) (cC : Array Value) (v0 v1 : Value) (D : Int) (er : Int) (A1 : Option Addr) (n1 c1 : Nat) (B1 : Option Addr) (m1 d1 : Nat) (Q : Plat) (W : World) : Prop where
  st : ST w (.slice A1 n1 c1) (.slice B1 m1 d1) v0 v1 D (.slice none 0 0) (.slice none 0 0) false 0 W
  pb : PB W A1 n1 B1 m1 Q
  hc : W.heap[gc]? = some (.cells cC 51 (0, 0))
  hx : W.heap[gx]? = some (.cells #[.int .i64 er] 30 (0, 0))
section
variable {w W W' : World} {gc gx : Nat} {cC : Array Value} {v0 v1 : Value} {D er : Int} {A1 B1 : Option Addr} {n1 c1 m1 d1 : Nat} {Q : Plat}
theorem SU.below (h : SU w gc gx cC v0 v1 D er A1 n1 c1 B1 m1 d1 Q W) (hb : Below W.heap.size W W') : SU w gc gx cC v0 v1 D er A1 n1 c1 B1 m1 d1 Q W' := ⟨h.st.below hb, h.pb.below hb, cells_below h.hc hb, cells_below h.hx hb⟩
theorem SU.drew (h : SU w gc gx cC v0 v1 D er A1 n1 c1 B1 m1 d1 Q W) : SU w gc gx cC v0 v1 D er A1 n1 c1 B1 m1 d1 Q W.drew := h.below ((Below.refl _ _).drew)
theorem rd_cells {A : Option Addr} {xs : List Value} (h : Rd W A xs) (hc : ∀ (k : Nat) (o : Obj), W.heap[k]? = some o → o.isCells = true → W'.heap[k]? = some o) : Rd W' A xs := by
  intro j u hu
  obtain ⟨b, off, hA, hcc⟩ := h j u hu
  refine ⟨b, off, hA, ?_⟩
  cases ho : W.heap[b]? with
  | none => unfold World.cell? at hcc; simp [ho] at hcc
  | some o =>
    have hco : o.isCells = true := by
      unfold World.cell? at hcc
      cases o <;> simp [ho, Obj.isCells] at hcc ⊢
    exact (World.cell?_of_block ((hc b o ho hco).trans ho.symm)).trans hcc
theorem kept_cells {row : Option Nat} (hg : W.grownBy W' row) (hr : ∀ r, row = some r → ∃ o : Obj, W.heap[r]? = some o ∧ o.isCells = false) : ∀ (k : Nat) (o : Obj), W.heap[k]? = some o → o.isCells = true → W'.heap[k]? = some o := fun k o hk ho => by
  refine (hg.block k (cell_lt_of hk) (fun e => ?_)).trans hk
  obtain ⟨o', ho', hc⟩ := hr k e.symm
  rw [hk] at ho'
  obtain rfl := Option.some.inj ho'
  rw [ho] at hc
  cases hc
theorem PB.kept {A B : Option Addr} {n m : Nat} {P : Plat} {row : Option Nat} (h : PB W A n B m P) (hg : W.grownBy W' row) (hr : ∀ r, row = some r → ∃ o : Obj, W.heap[r]? = some o ∧ o.isCells = false) : PB W' A n B m P :=
  ⟨h.hn, h.hm, rd_cells h.rs (kept_cells hg hr), rd_cells h.rc (kept_cells hg hr), trivial, trivial⟩
theorem SU.kept {row : Option Nat} (h : SU w gc gx cC v0 v1 D er A1 n1 c1 B1 m1 d1 Q W) (hg : W.grownBy W' row) (hr : ∀ r, row = some r → w.heap.size ≤ r ∧ ∃ o : Obj, W.heap[r]? = some o ∧ o.isCells = false) : SU w gc gx cC v0 v1 D er A1 n1 c1 B1 m1 d1 Q W' :=
  ⟨h.st.kept hg hr, h.pb.kept hg (fun r e => (hr r e).2), rf_c h.hc hg (fun r e => (hr r e).2), rf_c h.hx hg (fun r e => (hr r e).2)⟩
end
/-- What holds between two steps of a Store. -/
structure SI (w : World) (gc gx : Nat) (cC : Array Value) (v0 v1 : Value) (D : Nat) (l : List (Plat → Plat × Int)) (P : Plat) (pre : List Value) (W : World) : Prop where
  ex : ∃ A1 n1 c1 B1 m1 d1 Q, runL (l.take pre.length) P = (Q, 0) ∧ pre.length ≤ D ∧ SU w gc gx cC v0 v1 ((D - pre.length : Nat) : Int) 0 A1 n1 c1 B1 m1 d1 Q W
/-- A step has left. -/
structure SX (w : World) (r : Plat × Bool × Int) (cd : Code) (W : World) : Prop where
  ex : cd = .ret ∧ ∃ p0 p1 v0 v1 D r0 r1 z x, ST w p0 p1 v0 v1 D r0 r1 z x W ∧ PlV W (.agg #[r0, r1]) r.1 ∧ z = r.2.1 ∧ x = r.2.2
theorem SI.kept {w : World} {gc gx : Nat} {cC : Array Value} {v0 v1 : Value} {D : Nat} {l : List (Plat → Plat × Int)} {P : Plat} {pre : List Value} {W W' : World} {row : Option Nat} (h : SI w gc gx cC v0 v1 D l P pre W) (hg : W.grownBy W' row) (hr : ∀ r, row = some r → w.heap.size ≤ r ∧ ∃ o : Obj, W.heap[r]? = some o ∧ o.isCells = false) : SI w gc gx cC v0 v1 D l P pre W' := by
  obtain ⟨A1, n1, c1, B1, m1, d1, Q, h1, h2, h3⟩ := h.ex
  exact ⟨A1, n1, c1, B1, m1, d1, Q, h1, h2, h3.kept hg hr⟩
theorem SX.kept {w : World} {r : Plat × Bool × Int} {cd : Code} {W W' : World} {row : Option Nat} (h : SX w r cd W) (hg : W.grownBy W' row) (hr : ∀ r, row = some r → w.heap.size ≤ r ∧ ∃ o : Obj, W.heap[r]? = some o ∧ o.isCells = false) : SX w r cd W' := by
  obtain ⟨h1, p0, p1, v0, v1, D, r0, r1, z, x, h2, ⟨A, n, c, B, m, d, e, h3⟩, h4, h5⟩ := h.ex
  exact ⟨h1, p0, p1, v0, v1, D, r0, r1, z, x, h2.kept hg hr, ⟨A, n, c, B, m, d, e, h3.kept hg (fun r e => (hr r e).2)⟩, h4, h5⟩
/-- Where a function with ranges over functions returns (the post is 'False at a panic'). -/
theorem ret_m {F : Fence} {n : Nat} {P : Program} {fn : Func} {R : Ending → World → Prop} {tmps : Array Value} {ds : List Deferred} {W : World} (h : LeavesInM F n P fn tmps R ds .returning W) : NoPanic (bodyPostM F n P fn R) .ret { tmps := tmps, defers := ds } W := h

/- Va9 -/
open Go.RowKit
set_option linter.unusedVariables false
set_option linter.unusedSimpArgs false

theorem rd_off {W : World} {A : Option Addr} {xs : List Value} (h : Rd W A xs) {g : Nat} (hne : xs ≠ [] → ∀ b o, A = some ⟨b, o, none⟩ → b ≠ g) (i : Nat) (v : Value) : Rd (W.setCell ⟨g, i, none⟩ v) A xs := by
  intro j u hu
  obtain ⟨b, off, hA, hc⟩ := h j u hu
  have hn : xs ≠ [] := by rintro rfl; simp at hu
  exact ⟨b, off, hA, (World.cell?_of_block (Below.heap_setCell W ⟨g, i, none⟩ v b (hne hn b off hA))).trans hc⟩
/-- A store into a box of one cell that holds no text. -/
theorem PB.one {W : World} {A B : Option Addr} {n m : Nat} {P : Plat} (h : PB W A n B m P) {g : Nat} {u : Value} {t : TypeId} (hg : W.heap[g]? = some (.cells #[u] t (0, 0))) (hu : ∀ s, u ≠ .string s) (v : Value) : PB (W.setCell ⟨g, 0, none⟩ v) A n B m P := by
  refine ⟨h.hn, h.hm, rd_off h.rs (fun hne b o hA e => ?_) 0 v, rd_off h.rc (fun hne b o hA e => ?_) 0 v, trivial, trivial⟩
  · subst e
    cases hss : P.ss with
    | nil => rw [hss] at hne; exact hne rfl
    | cons s l =>
      obtain ⟨b', o', hA', hc⟩ := h.rs 0 (.string s) (by rw [hss]; rfl)
      rw [hA] at hA'
      injection hA' with hA'
      injection hA' with e1 e2
      subst e1 e2
      rw [cell_of_row W b _ _ _ _ hg] at hc
      match o with
      | 0 => simp at hc; exact hu s hc
      | k + 1 => simp at hc
  · subst e
    cases hss : P.cs with
    | nil => rw [hss] at hne; exact hne rfl
    | cons s l =>
      obtain ⟨b', o', hA', hc⟩ := h.rc 1 (.string s.2) (by rw [hss]; rfl)
      rw [hA] at hA'
      injection hA' with hA'
      injection hA' with e1 e2
      subst e1 e2
      rw [cell_of_row W b _ _ _ _ hg] at hc
      simp at hc

/-- What a round touches: the six boxes, the error. -/
structure TC (w : World) (gx : Nat) (X Y : World) : Prop where
  hb : Below w.heap.size X Y
  blk : ∀ k, k < X.heap.size → w.heap.size + 6 ≤ k → k ≠ gx → Y.heap[k]? = X.heap[k]?
theorem TC.refl (w : World) (gx : Nat) (X : World) : TC w gx X X := ⟨Below.refl _ _, fun _ _ _ _ => rfl⟩
theorem TC.below {w : World} {gx : Nat} {X Y Z : World} (h : TC w gx X Y) (hz : w.heap.size ≤ Y.heap.size) (hb : Below Y.heap.size Y Z) : TC w gx X Z :=
  ⟨h.hb.trans (hb.mono hz), fun k hk h6 hx => (hb.block k (Nat.lt_of_lt_of_le hk h.hb.size)).trans (h.blk k hk h6 hx)⟩
theorem TC.set {w : World} {gx : Nat} {X Y : World} (h : TC w gx X Y) {g i : Nat} (hg : w.heap.size ≤ g ∧ g < w.heap.size + 6 ∨ g = gx ∧ w.heap.size ≤ gx) (u : Value) : TC w gx X (Y.setCell ⟨g, i, none⟩ u) :=
  ⟨h.hb.setCell (by dsimp only; omega) u, fun k hk h6 hx => (Below.heap_setCell Y ⟨g, i, none⟩ u k (by dsimp only; omega)).trans (h.blk k hk h6 hx)⟩
theorem TC.keeps {w : World} {gx : Nat} {X Y : World} (h : TC w gx X Y) {B : Nat} (h6 : w.heap.size + 6 ≤ B) (hx : gx < B) : KeepsFrom B X Y :=
  ⟨h.hb.size, fun k o hk ho _ => (h.blk k (cell_lt_of ho) (by omega) (by omega)).trans ho⟩
theorem TC.kpt {w : World} {gx : Nat} {X Y : World} (h : TC w gx X Y) {a b : Nat} (ha : w.heap.size + 6 ≤ a ∧ a ≠ gx ∧ a < X.heap.size) (hb : w.heap.size + 6 ≤ b ∧ b ≠ gx ∧ b < X.heap.size) : KpT w.heap.size [a, b] X Y :=
  ⟨h.hb, fun k hk => by
    simp only [List.mem_cons, List.mem_nil_iff, or_false] at hk
    rcases hk with rfl | rfl
    · exact h.blk _ ha.2.2 ha.1 ha.2.1
    · exact h.blk _ hb.2.2 hb.1 hb.2.1⟩
/-- Six cells. -/
abbrev KA (a1 a2 a3 a4 a5 a6 : Addr) (v1 v2 v3 v4 v5 v6 : Value) (W : World) : Prop := (W.cell? a1 = some v1 ∧ W.cell? a2 = some v2) ∧ (W.cell? a3 = some v3 ∧ W.cell? a4 = some v4) ∧ (W.cell? a5 = some v5 ∧ W.cell? a6 = some v6)
section
variable {a1 a2 a3 a4 a5 a6 : Addr} {v1 v2 v3 v4 v5 v6 : Value} {W W' : World}
theorem ka_below (h : KA a1 a2 a3 a4 a5 a6 v1 v2 v3 v4 v5 v6 W) (hb : Below W.heap.size W W') : KA a1 a2 a3 a4 a5 a6 v1 v2 v3 v4 v5 v6 W' := ⟨keep2_below h.1 hb, keep2_below h.2.1 hb, keep2_below h.2.2 hb⟩
theorem ka_drew (h : KA a1 a2 a3 a4 a5 a6 v1 v2 v3 v4 v5 v6 W) : KA a1 a2 a3 a4 a5 a6 v1 v2 v3 v4 v5 v6 W.drew := ka_below h ((Below.refl _ _).drew)
theorem ka_set (h : KA a1 a2 a3 a4 a5 a6 v1 v2 v3 v4 v5 v6 W) {r i : Nat} (hr : r ≠ a1.block ∧ r ≠ a2.block ∧ r ≠ a3.block ∧ r ≠ a4.block ∧ r ≠ a5.block ∧ r ≠ a6.block) (u : Value) : KA a1 a2 a3 a4 a5 a6 v1 v2 v3 v4 v5 v6 (W.setCell ⟨r, i, none⟩ u) :=
  ⟨keep2_set h.1 (fun e => hr.1 (congrArg Addr.block e)) (fun e => hr.2.1 (congrArg Addr.block e)), keep2_set h.2.1 (fun e => hr.2.2.1 (congrArg Addr.block e)) (fun e => hr.2.2.2.1 (congrArg Addr.block e)), keep2_set h.2.2 (fun e => hr.2.2.2.2.1 (congrArg Addr.block e)) (fun e => hr.2.2.2.2.2 (congrArg Addr.block e))⟩
end
/-- The error's cell. -/
def SE (gx : Nat) (er : Int) (W : World) : Prop := W.cell? ⟨gx, 0, none⟩ = some (.int .i64 er)
theorem SE.set {gx : Nat} {er : Int} {W : World} (h : SE gx er W) {r i : Nat} (hr : r ≠ gx) (u : Value) : SE gx er (W.setCell ⟨r, i, none⟩ u) :=
  (World.cell?_of_block (Below.heap_setCell W ⟨r, i, none⟩ u gx (by dsimp only; omega))).trans h
theorem run_more {l : List (Plat → Plat × Int)} {P : Plat} {D k : Nat} {er : Int} (hk : k ≤ D) (h : runL (l.take k) P = (noPlat, er)) (he : er ≠ 0) : runL (l.take D) P = (noPlat, er) := by
  rw [take_parts l hk, runL_stop _ _ _ (by rw [h]; exact he), h]

end Go.Proofs.YtieekajjoikepaaGreatDoor
