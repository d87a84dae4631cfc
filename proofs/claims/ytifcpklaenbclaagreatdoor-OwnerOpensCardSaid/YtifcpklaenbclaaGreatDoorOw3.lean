/-
  Contract of owner.Chosen.
-/
import Derived.Test.YtifcpklaenbclaaGreatDoorOw2
import Derived.Laws.AppendOwn
namespace Go.Proofs.YtifcpklaenbclaaGreatDoor
open Go.RowKit
set_option linter.unusedVariables false
set_option linter.unusedSimpArgs false
set_option maxRecDepth 100000
set_option maxHeartbeats 2000000
attribute [local go_sem] Oper.semAt_some

/-- The share of the first answer of a name that fits. -/
def firstF (r : Rec) (l : List Ans) (nm : ByteArray) : Option Shr := (l.find? (tells r nm false)).map fun a => (a.x, a.b)
def firstsL (r : Rec) (l : List Ans) (i : Nat) : List Shr := (r.ns.take i).filterMap (firstF r l)
def chosenL (r : Rec) (l : List Ans) : List Shr := if checkR r = true then (firstsL r l r.ns.length).take r.k.toNat else []
/-- What is handed back: a row of shares. -/
def SharesR (w : World) (l : List Shr) (e : Ending) (w' : World) : Prop := ∃ A n cap, e = .returned (.slice A n cap) ∧ n = l.length ∧ Rd w' A (sharesV l) ∧ Below w.heap.size w w'

theorem firsts_snoc {r : Rec} {ls : List Ans} {i : Nat} (hi : i < r.ns.length) : firstsL r ls (i + 1) = firstsL r ls i ++ (firstF r ls r.ns[i]).toList := by
  rw [firstsL, List.take_succ_eq_append_getElem hi, List.filterMap_append, ← firstsL]
  congr 1
theorem firsts_pre (r : Rec) (ls : List Ans) (i : Nat) (hi : i ≤ r.ns.length) : firstsL r ls i <+: firstsL r ls r.ns.length := by
  unfold firstsL
  rw [List.take_length]
  conv => rhs; rw [← List.take_append_drop i r.ns]
  rw [List.filterMap_append]
  exact List.prefix_append _ _
theorem firsts_full {r : Rec} {ls : List Ans} {i : Nat} (hi : i ≤ r.ns.length) (h : (firstsL r ls i).length = r.k.toNat) : (firstsL r ls r.ns.length).take r.k.toNat = firstsL r ls i := by
  rw [← h]
  exact (List.prefix_iff_eq_take.1 (firsts_pre r ls i hi)).symm
theorem sel_find {r : Rec} {nm : ByteArray} {ls : List Ans} : ((selS r nm false ls).map Subtype.val).head? = ls.find? (tells r nm false) := by
  rw [sel_val, List.head?_filter]
theorem sel_none {r : Rec} {nm : ByteArray} {ls : List Ans} (h : selS r nm false ls = []) : firstF r ls nm = none := by
  rw [firstF, ← sel_find, h]
  rfl
theorem sel_some {r : Rec} {nm : ByteArray} {ls : List Ans} {x : FA r nm false} (h : [x] <+: selS r nm false ls) : firstF r ls nm = some (x.1.x, x.1.b) := by
  obtain ⟨t, ht⟩ := h
  rw [firstF, ← sel_find, ← ht]
  rfl

/-- Marks of ranges over functions. -/
def marks (Ds : List Nat) : List Deferred := Ds.map fun D => { target := .collected D, args := #[] }
/-- Blocks of marks are shut; cells stay. -/
structure ShutK (B : Nat) (W W' : World) : Prop where
  hb : Below B W W'
  hc : ∀ (k : Nat) (cs : Array Value) (t : TypeId), W.heap[k]? = some (.cells cs t (0, 0)) → W'.heap[k]? = some (.cells cs t (0, 0))
theorem leaves_marks {F : Fence} {n : Nat} {P : Program} {fn : Func} {tmps : Array Value} {R : Ending → World → Prop} (B : Nat) : ∀ (Ds : List Nat) (W : World), Ds.Nodup → (∀ D ∈ Ds, B ≤ D ∧ W.heap[D]? = some (.deferred (some []))) →
    (∀ W', ShutK B W W' → ∃ v, (results fn tmps).run P W' = .ok v W' ∧ R (.returned v) W') → LeavesInM F n P fn tmps R (marks Ds) .returning W
  | [], W, _, _, hR => hR W ⟨Below.refl _ _, fun _ _ _ h => h⟩
  | D :: Ds, W, hnd, hD, hR => by
    obtain ⟨h1, h2⟩ := hD D (by simp)
    rw [List.nodup_cons] at hnd
    have hlt : D < W.heap.size := cell_lt_of h2
    have hb : Below B W (W.putObj D (.deferred none)) := (Below.refl B W).grown (grownBy_putObj' W D (.deferred none)) (by omega) (fun k e => by cases e; omega)
    refine ⟨by simp, .inl ⟨D, _, rfl, run_takeDeferred h2, leaves_marks B Ds _ hnd.2 (fun D' hD' => ⟨(hD D' (by simp [hD'])).1, ?_⟩) fun W' hW' => hR W' ⟨hb.trans hW'.hb, fun k cs t hk => hW'.hc k cs t ?_⟩⟩⟩
    · rw [World.putObj_heap_other (fun e => hnd.1 (by rw [e] at hD'; exact hD'))]
      exact (hD D' (by simp [hD'])).2
    · rw [World.putObj_heap_other (fun e => by subst e; rw [h2] at hk; cases hk)]
      exact hk
/-- What holds between two names. -/
structure CS (w w1 : World) (C : Array Value) (Ds : List Nat) (Z : Nat) (v : Value) (out : List Shr) (W : World) : Prop where
  g0 : W.heap[w.heap.size]? = some (.cells C 24 (0, 0))
  gG : Boxed W w1.heap.size 36 v
  ow : W.ownsRow w1.heap.size 29 2 v out.length (sharesV out)
  hb : Below w1.heap.size w1 W
  nd : Ds.Nodup
  md : ∀ D ∈ Ds, w1.heap.size ≤ D ∧ D < Z ∧ W.heap[D]? = some (.deferred (some []))
  hz : Z ≤ W.heap.size
theorem CS.kept {w w1 : World} {C : Array Value} {Ds : List Nat} {Z : Nat} {v : Value} {out : List Shr} {W W' : World} {row : Option Nat} (h : CS w w1 C Ds Z v out W) (hg : W.grownBy W' row) (hB : w1.heap.size ≤ Z)
    (hr : ∀ r, row = some r → Z ≤ r ∧ ∃ o : Obj, W.heap[r]? = some o ∧ o.isCells = false) : CS w w1 C Ds Z v out W' := by
  have hr2 : ∀ r, row = some r → ∃ o : Obj, W.heap[r]? = some o ∧ o.isCells = false := fun r e => (hr r e).2
  refine ⟨rf_c h.g0 hg hr2, rf_c h.gG hg hr2, h.ow.kept hg ?_, h.hb.grown hg (Nat.le_trans hB h.hz) (fun k e => Nat.le_trans hB (hr k e).1), h.nd, fun D hD => ?_, Nat.le_trans h.hz hg.size⟩
  · rcases h.ow.2 with ⟨rfl, _⟩ | ⟨g, cap, cur, rfl, _, hgb, _⟩
    · exact .inl rfl
    · right
      intro e
      obtain ⟨o, ho, hc⟩ := hr2 g e.symm
      rw [hgb] at ho
      obtain rfl := Option.some.inj ho
      cases hc
  · obtain ⟨h1, h2, h3⟩ := h.md D hD
    refine ⟨h1, h2, (hg.block D (cell_lt_of h3) (fun e => ?_)).trans h3⟩
    have := (hr D e.symm).1
    omega
theorem CS.more {w w1 : World} {C : Array Value} {Ds : List Nat} {Z Z' : Nat} {v : Value} {out : List Shr} {W : World} (h : CS w w1 C Ds Z v out W) (h1 : Z ≤ Z') (h2 : Z' ≤ W.heap.size) : CS w w1 C Ds Z' v out W :=
  ⟨h.g0, h.gG, h.ow, h.hb, h.nd, fun D hD => ⟨(h.md D hD).1, by have := (h.md D hD).2.1; omega, (h.md D hD).2.2⟩, h2⟩
/-- One more mark. -/
theorem CS.mark {w w1 : World} {C : Array Value} {Ds : List Nat} {Z D : Nat} {v : Value} {out : List Shr} {W : World} (h : CS w w1 C Ds Z v out W) (hB : w1.heap.size ≤ Z) (hD : Z ≤ D) (hK : W.heap[D]? = some (.deferred (some []))) : CS w w1 C (D :: Ds) W.heap.size v out W :=
  ⟨h.g0, h.gG, h.ow, h.hb, List.nodup_cons.2 ⟨fun e => by have := (h.md D e).2.1; omega, h.nd⟩, fun D' hD' => by
    rcases List.mem_cons.1 hD' with rfl | hD'
    · exact ⟨by omega, cell_lt_of hK, hK⟩
    · have := h.md D' hD'
      exact ⟨this.1, Nat.lt_of_lt_of_le this.2.1 h.hz, this.2.2⟩, Nat.le_refl _⟩
/-- A round has left. -/
structure CX (w w1 : World) (C : Array Value) (Ds : List Nat) (Z : Nat) (out : List Shr) (K : Int) (r : Rec) (nm : ByteArray) (cd : Code) (pre : List (FA r nm false)) (W : World) : Prop where
  ex : ∃ (x : FA r nm false) (B : Option Addr) (cap : Nat), pre = [x] ∧ CS w w1 C Ds Z (.slice B (out.length + 1) cap) (out ++ [(x.1.x, x.1.b)]) W ∧ ((cd = .exit 0 ∧ (out.length : Int) + 1 = K) ∨ (cd = .exit 1 ∧ ¬ (out.length : Int) + 1 = K))
structure CI (w w1 : World) (C : Array Value) (Ds : List Nat) (Z : Nat) (v : Value) (out : List Shr) (r : Rec) (nm : ByteArray) (pre : List (FA r nm false)) (W : World) : Prop where
  hp : pre = []
  cs : CS w w1 C Ds Z v out W
theorem own_shut {w w' : World} {B0 B : Nat} {e : TypeId} {size : Nat} {v : Value} {n : Nat} {xs : List Value} (h : w.ownsRow B e size v n xs) (hs : ShutK B0 w w') : w'.ownsRow B e size v n xs := by
  refine ⟨h.1, ?_⟩
  rcases h.2 with h | ⟨g, cap, cur, hv, hB, hg, hr⟩
  · exact .inl h
  · exact .inr ⟨g, cap, cur, hv, hB, hs.hc _ _ _ hg, hr⟩
theorem chosen_end {w w1 : World} {C : Array Value} {Ds : List Nat} {Z : Nat} {B : Option Addr} {cap : Nat} {out : List Shr} {W : World} (cs : CS w w1 C Ds Z (.slice B out.length cap) out W) (hw : Below w.heap.size w w1) (tmps : Array Value) (ht : tmps.getD 4 undef = .slice B out.length cap) :
    LeavesInM Fence.wide 4 Tryz.prog Tryz.f11 tmps (SharesR w out) (marks Ds) .returning W :=
  leaves_marks w1.heap.size Ds W cs.nd (fun D hD => ⟨(cs.md D hD).1, (cs.md D hD).2.2⟩) fun W' hS => ⟨_, results_tmp rfl _ _ _, by
    rw [ht]
    exact ⟨B, out.length, cap, rfl, rfl, own_rd (own_shut cs.ow hS), hw.trans ((cs.hb.trans hS.hb).mono hw.size)⟩⟩
theorem sharesV_snoc (l : List Shr) (p : Shr) : sharesV (l ++ [p]) = sharesV l ++ [.int .i64 p.1, .string p.2] := by simp [sharesV, shrV]
theorem two_new (w : World) (x y : Value) (t : TypeId) : ∀ j u, [x, y][j]? = some u → (w.alloc (.cells #[x, y] t)).cell? ((⟨w.heap.size, 0, none⟩ : Addr).add j) = some u := by
  intro j u hj
  match j, hj with
  | 0, hj => simp at hj; subst hj; simp [Addr.add]
  | 1, hj => simp at hj; subst hj; simp [Addr.add]
theorem chosen_yes (v0 v1 v2 v3 : Value) (r : Rec) (A : Option Addr) (m c : Nat) (ls : List Ans) (w : World) (hv : RV w (.agg #[v0, v1, v2, v3]) r) (hr : Rd w A (answersV ls)) (hm : m = ls.length) (hl : m ≤ 1000) (hR : Rounds w) (hc : checkR r = true) :
    Calls Tryz.prog 11 #[.agg #[v0, v1, v2, v3], .slice A m c] w (SharesR w ((firstsL r ls r.ns.length).take r.k.toNat)) := by
  have HV := Lib.hid hv
  have HC := Lib.hid (fun W h => ch_any (.agg #[v0, v1, v2, v3]) r W h)
  rw [hc] at HC
  obtain ⟨A1, n1, c1, A2, n2, c2, hve, hA1, hn1, hA2, hn2⟩ := hv
  injection hve with hve
  obtain ⟨rfl, rfl, rfl, rfl⟩ : v0 = .int .i64 r.e ∧ v1 = .int .i64 r.k ∧ v2 = .slice A1 n1 c1 ∧ v3 = .slice A2 n2 c2 := by simpa using hve
  have HRd := Lib.hid hr
  have HR := Lib.hid hR
  have HN := Lib.hid hA1
  have HNl := Lib.hid hn1
  have HM := Lib.hid hm
  have hW := (Below.refl w.heap.size w).alloc (Nat.le_refl _) (.cells #[.int .i64 r.e, .int .i64 r.k, .slice A1 n1 c1, .slice A2 n2 c2] 24)
  have hX := heap_alloc_new w (.cells #[.int .i64 r.e, .int .i64 r.k, .slice A1 n1 c1, .slice A2 n2 c2] 24)
  have HW := Lib.hid hW
  have HX := Lib.hid hX
  clear hve hA1 hn1 hA2 hn2 hr hR hW hX hm
  refine (callsIn_wide (n := 4)).1 ?_
  refine callsIn_of_wp_marks Tryz.func11 rfl trivial ?_ rfl
  simp only [Tryz.ntmps11, List.size_toArray, List.length_cons, List.length_nil, Nat.reduceAdd, Nat.reduceSub, Array.replicate_succ, Array.replicate_zero, List.push_toArray, List.append_toArray, List.nil_append, List.cons_append]
  gi_wp2
  refine wpIn_wide.2 (wp_scope_straight ((wpIn_wide (n := 4)).1 ?_))
  gi_wp2_with (refine ⟨trivial, ?_⟩; gi_at_call 18; refine (callsIn_wide.2 (HC.out _ (HV.out.below HW.out))).mono ?_; rintro e w1 ⟨rfl, hb1⟩; have HX1 := Lib.hid (cells_below HX.out hb1); have HW1 := Lib.hid (HW.out.trans (hb1.mono HW.out.size)); clear hb1; have hlt1 := cell_lt_of HX1.out; have x2 := rf_at ((Below.heap_alloc w1 (.cells #[.slice none 0 0] 36) w.heap.size hlt1).trans HX1.out) 2 _ rfl)
  refine wpIn_label ?_
  gi_wp2
  clear x2
  have hw1lt : w.heap.size < w1.heap.size := hlt1
  have HBox := Lib.hid (Boxed.new w1 36 (.slice none 0 0))
  have HCS0 : Hid (CS w w1 #[.int .i64 r.e, .int .i64 r.k, .slice A1 n1 c1, .slice A2 n2 c2] [] (w1.heap.size + 1) (.slice none 0 0) [] (w1.alloc (.cells #[.slice none 0 0] 36))) := Lib.hid ⟨(Below.heap_alloc w1 _ _ hlt1).trans HX1.out, HBox.out, ⟨rfl, .inl ⟨rfl, rfl⟩⟩, (Below.refl _ _).alloc (Nat.le_refl _) _, List.nodup_nil, fun D hD => by simp at hD, by rw [World.size_alloc]; exact Nat.le_refl _⟩
  obtain ⟨h1e, h2e, h3e, h4e, h5e, h6e, h7e⟩ := check_head hc
  have HK0 := Lib.hid h6e
  have HV1 := Lib.hid (HV.out.below HW1.out)
  have HRd1 := Lib.hid (HRd.out.below HW1.out)
  have HR1 := Lib.hid (HR.out.below HW1.out)
  have HN16 := Lib.hid h4e
  obtain ⟨iS, hS0, hS1, hS2, hS3⟩ := info_parts share_info
  clear h1e h2e h3e h4e h5e h6e h7e hlt1 HBox HX HX1 HRd HR hc
  refine wpIn_loop (fun a wr => ∃ (i : Nat) (u7 u16 u17 u18 u19 u20 u21 u22 u34 : Value) (Ds : List Nat) (Z : Nat) (B : Option Addr) (cap : Nat) (out : List Shr), a = { tmps := #[.agg #[.int .i64 r.e, .int .i64 r.k, .slice A1 n1 c1, .slice A2 n2 c2], .slice A m c, .pointer (some ⟨w.heap.size, 0, none⟩), undef, .slice none 0 0, .pointer (some ⟨w1.heap.size, 0, none⟩), undef, u7, undef, .agg #[.int .i64 r.e, .int .i64 r.k, .slice A1 n1 c1, .slice A2 n2 c2], .bool true, .bool false, .pointer (some ⟨w.heap.size, 2, none⟩), .slice A1 n1 c1, .int .i64 n1, .int .i64 (i : Nat), u16, u17, u18, u19, u20, u21, u22, undef, undef, undef, undef, undef, undef, undef, undef, undef, undef, undef, u34, undef], defers := marks Ds } ∧ i ≤ n1 ∧ w1.heap.size ≤ Z ∧ out = firstsL r ls i ∧ (out.length : Int) < r.k ∧ CS w w1 #[.int .i64 r.e, .int .i64 r.k, .slice A1 n1 c1, .slice A2 n2 c2] Ds Z (.slice B out.length cap) out wr) (fun a _ => n1 - (intOf (a.tmps.getD 15 undef)).toNat) ?_ ?_
  · exact ⟨0, _, _, _, _, _, _, _, _, _, [], _, none, 0, [], rfl, by omega, Nat.le_succ _, rfl, by have := HK0.out; simp; omega, HCS0.out⟩
  · clear HCS0
    rintro _ wr ⟨i, u7, u16, u17, u18, u19, u20, u21, u22, u34, Ds, Z, B, cap, out, rfl, hi, hZ, hout, hlen, hcs⟩
    have Hcs := Lib.hid hcs
    have Hout := Lib.hid hout
    have Hlen := Lib.hid hlen
    have HZ := Lib.hid hZ
    clear hcs hout hlen hZ
    by_cases hlt : i < n1
    · have e1 : decide ((i : Int) < (n1 : Int)) = true := by simp; omega
      have hil : i < r.ns.length := by rw [← HNl.out]; exact hlt
      have hb01 := HW1.out.trans (Hcs.out.hb.mono HW1.out.size)
      obtain ⟨b0, off0, hbA, k0⟩ := texts_at (HN.out.below hb01) hil
      subst hbA
      have Hsn := Lib.hid (firsts_snoc (r := r) (ls := ls) hil)
      have Hpi := Lib.hid (show i + 1 ≤ r.ns.length from hil)
      generalize r.ns[i] = nm at k0 Hsn
      have q0 := rf_at Hcs.out.g0 0 _ rfl
      have q1 := rf_at Hcs.out.g0 1 _ rfl
      have q2 := rf_at Hcs.out.g0 2 _ rfl
      have q3 := rf_at Hcs.out.g0 3 _ rfl
      gi_wp2_with (refine ⟨trivial, ?_⟩; gi_at_call 24; refine (fitting_in _ _ _ _ _ _ _ _ _ _ _).mono ?_; rintro e w4 ⟨rfl, rfl⟩)
      have hn16 : n1 ≤ 16 := by have h1 := HN16.out; have h2 := HNl.out; omega
      have kA := al4' wr (.cells #[.int .i64 r.e, .int .i64 r.k, .slice (some ⟨b0, off0, none⟩) n1 c1, .slice A2 n2 c2] 24) (.cells #[.slice A m c] 25) (.cells #[.string nm] 9) (.cells #[.bool false] 4)
      obtain ⟨kR, kL, kN, kA, kb, ksz⟩ := kA
      clear q0 q1 q2 q3 k0
      obtain ⟨w4, hw4⟩ : ∃ w4, w4 = (((wr.alloc (.cells #[.int .i64 r.e, .int .i64 r.k, .slice (some ⟨b0, off0, none⟩) n1 c1, .slice A2 n2 c2] 24)).alloc (.cells #[.slice A m c] 25)).alloc (.cells #[.string nm] 9)).alloc (.cells #[.bool false] 4) := ⟨_, rfl⟩
      rw [← hw4] at kR kL kN kA kb ksz ⊢
      clear hw4
      have hZr : w1.heap.size ≤ wr.heap.size := Nat.le_trans HZ.out Hcs.out.hz
      have hcs4 := (Hcs.out.kept (gb_of_below kb none) HZ.out (fun r e => by cases e)).more (Z' := w4.heap.size) (Nat.le_trans Hcs.out.hz kb.size) (Nat.le_refl _)
      have HC4 := Lib.hid hcs4
      have hZ4 : w1.heap.size ≤ w4.heap.size := by omega
      clear hcs4
      refine wpIn_rangeFunc_ownH rfl (by omega) (gf := 40) (lb := #[.pointer (some ⟨wr.heap.size + 1, 0, none⟩), .pointer (some ⟨wr.heap.size + 1 + 1 + 1, 0, none⟩), .pointer (some ⟨wr.heap.size + 1 + 1, 0, none⟩), .pointer (some ⟨wr.heap.size, 0, none⟩)]) rfl trivial (enters_of Tryz.func40 (by kernel_rfl) rfl)
        (encs := fun x : FA r nm false => #[.agg #[.string x.1.nm, .string x.1.salt, .int .i64 x.1.x, .string x.1.b]]) (Kp := KpT w1.heap.size [wr.heap.size + 1, wr.heap.size + 1 + 1 + 1, wr.heap.size + 1 + 1, wr.heap.size]) (S := fun ys => ys = selS r nm false ls) (Sp := fun pre => pre <+: selS r nm false ls) (N := (selS r nm false ls).length) (w0 := w4)
        (fun l J Jx W hW hJ _ hY h0 => fitting1_in 3 (by omega) l _ _ _ _ w1.heap.size A m c ls nm false r _ _ _ _ w1 W rfl (HC4.out.hb.trans (hW.mono hZ4)) HV1.out HRd1.out HM.out hl HR1.out (cells_below kL hW) (cells_below kA hW) (cells_below kN hW) (cells_below kR hW) J Jx hJ hY h0)
        kpT_t (kpT_b hZ4 (by simp; omega)) (Below.refl _ _) (fun _ => rfl)
        (CI w w1 #[.int .i64 r.e, .int .i64 r.k, .slice (some ⟨b0, off0, none⟩) n1 c1, .slice A2 n2 c2] Ds w4.heap.size (.slice B out.length cap) out r nm) (CX w w1 #[.int .i64 r.e, .int .i64 r.k, .slice (some ⟨b0, off0, none⟩) n1 c1, .slice A2 n2 c2] Ds w4.heap.size out r.k r nm)
        (fun s X Y row h hg hr => ⟨h.hp, h.cs.kept hg hZ4 hr⟩) (fun cd s X Y row h hg hr => by obtain ⟨x, B', cap', t1, t2, t3⟩ := h.ex; exact ⟨⟨x, B', cap', t1, t2.kept hg hZ4 hr, t3⟩⟩)
        ⟨rfl, HC4.out⟩
        (fun x a' W => ∃ Bx, w1.heap.size ≤ Bx ∧ W.heap[Bx]? = some (.cells #[.string x.1.nm, .string x.1.salt, .int .i64 x.1.x, .string x.1.b] 31 (0, 0)) ∧ a' = { tmps := #[.agg #[.int .i64 r.e, .int .i64 r.k, .slice (some ⟨b0, off0, none⟩) n1 c1, .slice A2 n2 c2], .slice A m c, .pointer (some ⟨w.heap.size, 0, none⟩), undef, .slice none 0 0, .pointer (some ⟨w1.heap.size, 0, none⟩), undef, (.string nm), .pointer (some ⟨Bx, 0, none⟩), .agg #[.int .i64 r.e, .int .i64 r.k, .slice (some ⟨b0, off0, none⟩) n1 c1, .slice A2 n2 c2], .bool true, .bool false, .pointer (some ⟨w.heap.size, 2, none⟩), .slice (some ⟨b0, off0, none⟩) n1 c1, .int .i64 n1, .int .i64 (i : Nat), (.bool true), .pointer (some ⟨b0, off0 + i, none⟩), (.string nm), (.agg #[.int .i64 r.e, .int .i64 r.k, .slice (some ⟨b0, off0, none⟩) n1 c1, .slice A2 n2 c2]), (.slice A m c), (.string nm), (.func (.func 40) #[] #[.pointer (some ⟨wr.heap.size + 1, 0, none⟩), .pointer (some ⟨wr.heap.size + 1 + 1 + 1, 0, none⟩), .pointer (some ⟨wr.heap.size + 1 + 1, 0, none⟩), .pointer (some ⟨wr.heap.size, 0, none⟩)]), (.agg #[.string x.1.nm, .string x.1.salt, .int .i64 x.1.x, .string x.1.b]), undef, undef, undef, undef, undef, undef, undef, undef, undef, undef, u34, undef], defers := [] })
        (fun x a' _ X Y row hs hg hr => by obtain ⟨Bx, t0, t1, t2⟩ := hs; exact ⟨Bx, t0, rf_c t1 hg (fun r e => (hr r e).2), t2⟩)
        ?assign ?body ?done ?stop
      case assign =>
        rintro l pre x W K hI hK
        have al := (Below.refl W.heap.size W).alloc (Nat.le_refl _) (.cells #[.string x.1.nm, .string x.1.salt, .int .i64 x.1.x, .string x.1.b] 31)
        have hn := heap_alloc_new W (.cells #[.string x.1.nm, .string x.1.salt, .int .i64 x.1.x, .string x.1.b] 31)
        have hz := hI.cs.hz
        gi_wp2
        refine hK _ _ ((KeepsOthers.alloc _ _).from _) ⟨(Below.refl _ W).alloc (by omega) _, keepB_below (by simp; omega) al⟩ ⟨hI.hp, hI.cs.kept (gb_of_below al none) hZ4 (fun r e => by cases e)⟩ ⟨W.heap.size, by omega, hn, rfl⟩
      case body =>
        rintro l pre x a' W hl' ⟨r', hr'⟩ ⟨rfl, cs⟩ ⟨Bx, hBx, bX, rfl⟩ hlt'
        obtain ⟨⟨xn, xs, xx, xb⟩, hxt⟩ := x
        simp only at bX
        have y2 := rf_at bX 2 _ rfl
        have y3 := rf_at bX 3 _ rfl
        have q5 := cs.gG.cell
        have Cs := Lib.hid cs
        have Hkw := Lib.hid (show w1.heap.size ≤ W.heap.size by have := cs.hz; omega)
        have Hx1 := Lib.hid (fun (W2 : World) (h2 : Below w1.heap.size W W2) => rf_at ((h2.block w.heap.size hw1lt).trans cs.g0) 1 _ rfl)
        have HolI := Lib.hid Hlen.out
        have hol : out.length ≤ 16 := by
          have h1 : out.length = (firstsL r ls i).length := by rw [← Hout.out]
          have h2 := List.length_filterMap_le (firstF r ls) (r.ns.take i)
          have h3 := HN16.out
          rw [List.length_take] at h2
          unfold firstsL at h1
          omega
        have Hmk := Lib.hid (fun (W2 : World) (B2 : Option Addr) (cap2 : Nat) (hg : Boxed W2 w1.heap.size 36 (.slice B2 (out.length + 1) cap2)) (hw : W2.ownsRow w1.heap.size 29 2 (.slice B2 (out.length + 1) cap2) (out.length + 1) (sharesV out ++ [.int .i64 xx, .string xb])) (hk : KeepsOthers W W2) (hb : Below w1.heap.size W W2) =>
          (⟨(hb.block w.heap.size hw1lt).trans cs.g0, hg, by rw [sharesV_snoc, List.length_append]; exact hw, cs.hb.trans hb, cs.nd, fun D hD => ⟨(cs.md D hD).1, (cs.md D hD).2.1, hk.same D _ (cs.md D hD).2.2 rfl⟩, Nat.le_trans cs.hz hb.size⟩ : CS w w1 #[.int .i64 r.e, .int .i64 r.k, .slice (some ⟨b0, off0, none⟩) n1 c1, .slice A2 n2 c2] Ds w4.heap.size (.slice B2 (out.length + 1) cap2) (out ++ [(xx, xb)]) W2))
        clear cs bX hr' hl'
        by_cases hKk : (out.length : Int) + 1 = r.k
        · have d1 : ((out.length : Int) + 1 == r.k) = true := by simpa using hKk
          have HKk := Lib.hid hKk
          clear hKk
          gi_wp2_with (gi_at_builtin; refine wpListIn_append_own _ rfl (.tmp 24) (.tmp 27) 36 rfl w1.heap.size 29 iS (.agg #[.int .i64 0, .string ⟨#[]⟩]) 2 24 Tryz.underlying36 hS0 hS1 hS2 hS3 rfl (by decide) (.slice B out.length cap) out.length (sharesV out) rfl (Cs.out.ow.alloc _) ⟨W.heap.size, 0, none⟩ 1 1 [.int .i64 xx, .string xb] rfl rfl (two_new _ _ _ _) (by simp [Value.oneCell']) (by unfold maxLen; omega) (by omega) (by have := Hkw.out; simp; omega) ?_; intro v' w5 hown' hgrow _; obtain ⟨g', cap', rfl⟩ := ownsRow_succ hown'; obtain ⟨hv1, hv2, hr2, hk2, hb2⟩ := Boxed.appended Cs.out.gG (by decide) Cs.out.ow Hkw.out (Nat.le_refl _) hown' hgrow; have hc1 := hv1.cell; have hf1 := hv1.frozen; have x1 := Hx1.out _ hb2)
          have Hfin := Lib.hid (Hmk.out _ _ _ hv2 hr2 hk2 hb2)
          refine ⟨hk2.from _, ⟨⟨⟨⟨xn, xs, xx, xb⟩, hxt⟩, _, _, rfl, Hfin.out, .inl ⟨rfl, HKk.out⟩⟩⟩⟩
        · have d1 : ((out.length : Int) + 1 == r.k) = false := by simpa using hKk
          have HKk := Lib.hid hKk
          clear hKk
          gi_wp2_with (gi_at_builtin; refine wpListIn_append_own _ rfl (.tmp 24) (.tmp 27) 36 rfl w1.heap.size 29 iS (.agg #[.int .i64 0, .string ⟨#[]⟩]) 2 24 Tryz.underlying36 hS0 hS1 hS2 hS3 rfl (by decide) (.slice B out.length cap) out.length (sharesV out) rfl (Cs.out.ow.alloc _) ⟨W.heap.size, 0, none⟩ 1 1 [.int .i64 xx, .string xb] rfl rfl (two_new _ _ _ _) (by simp [Value.oneCell']) (by unfold maxLen; omega) (by omega) (by have := Hkw.out; simp; omega) ?_; intro v' w5 hown' hgrow _; obtain ⟨g', cap', rfl⟩ := ownsRow_succ hown'; obtain ⟨hv1, hv2, hr2, hk2, hb2⟩ := Boxed.appended Cs.out.gG (by decide) Cs.out.ow Hkw.out (Nat.le_refl _) hown' hgrow; have hc1 := hv1.cell; have hf1 := hv1.frozen; have x1 := Hx1.out _ hb2)
          have Hfin := Lib.hid (Hmk.out _ _ _ hv2 hr2 hk2 hb2)
          refine ⟨hk2.from _, ⟨⟨⟨⟨xn, xs, xx, xb⟩, hxt⟩, _, _, rfl, Hfin.out, .inr ⟨rfl, HKk.out⟩⟩⟩⟩
      case done =>
        rintro D ys W hD hys ⟨rfl, cs⟩ hK
        have hfn := sel_none hys.symm
        have Hnx := Lib.hid (show out = firstsL r ls (i + 1) by rw [Hsn.out, hfn, Option.toList_none, List.append_nil]; exact Hout.out)
        have Hcm := Lib.hid (cs.mark hZ4 hD hK)
        have hWz : w1.heap.size ≤ W.heap.size := Nat.le_trans hZ4 cs.hz
        clear cs hfn hys hK
        gi_wp2
        exact ⟨⟨i + 1, _, _, _, _, _, _, _, _, _, D :: Ds, W.heap.size, B, cap, out, rfl, by omega, hWz, Hnx.out, Hlen.out, Hcm.out⟩, by simp [intOf]; omega⟩
      case stop =>
        rintro D cd pre W hD hpre hX hK
        obtain ⟨x, B', cap', rfl, cs, hcd⟩ := hX.ex
        have hfs := sel_some hpre
        have Hnx := Lib.hid (show out ++ [(x.1.x, x.1.b)] = firstsL r ls (i + 1) by rw [Hsn.out, hfs, Option.toList_some, ← Hout.out])
        have hl2 : (out ++ [(x.1.x, x.1.b)]).length = out.length + 1 := by rw [List.length_append]; rfl
        rw [← hl2] at cs
        have Hcm := Lib.hid (cs.mark hZ4 hD hK)
        have hWz : w1.heap.size ≤ W.heap.size := Nat.le_trans hZ4 cs.hz
        have q5 := cs.gG.cell
        clear cs hfs hpre hK hX
        rcases hcd with ⟨rfl, hKk⟩ | ⟨rfl, hKk⟩
        · have HKk := Lib.hid hKk
          clear hKk
          have HFull := Lib.hid (show (firstsL r ls r.ns.length).take r.k.toNat = out ++ [(x.1.x, x.1.b)] by rw [Hnx.out]; exact firsts_full Hpi.out (by rw [← Hnx.out, hl2]; have := HKk.out; omega))
          gi_wp2
          rw [HFull.out]
          exact chosen_end Hcm.out HW1.out _ (by rw [hl2]; rfl)
        · have HKk := Lib.hid hKk
          clear hKk
          gi_wp2
          exact ⟨⟨i + 1, _, _, _, _, _, _, _, _, _, D :: Ds, W.heap.size, _, _, _, rfl, by omega, hWz, Hnx.out, by rw [hl2]; have h1 := Hlen.out; have h2 := HKk.out; omega, Hcm.out⟩, by simp [intOf]; omega⟩
    · obtain rfl : i = n1 := by omega
      have e1 : decide ((i : Int) < (i : Int)) = false := by simp
      have q5 := Hcs.out.gG.cell
      have HFull := Lib.hid (show (firstsL r ls r.ns.length).take r.k.toNat = out by rw [Hout.out, ← HNl.out, List.take_of_length_le (by have h1 := Hlen.out; rw [Hout.out] at h1; omega)])
      gi_wp2
      rw [HFull.out]
      exact chosen_end Hcs.out HW1.out _ rfl
end Go.Proofs.YtifcpklaenbclaaGreatDoor
