/-
  Contracts of tree: Leaf, Node, mayRoot, rows.top, rows.rise, rowsOf, rows.root, Root.
-/
import Derived.Test.YtieekajjoikepaaGreatDoorTrT
import Derived.Test.YtieekajjoikepaaGreatDoorRfn
import Derived.StillTailTactics
import Derived.BigQuiet
namespace Go.Proofs.YtieekajjoikepaaGreatDoor
open Go.RowKit
set_option linter.unusedVariables false
set_option linter.unusedSimpArgs false
set_option maxRecDepth 100000
set_option maxHeartbeats 2000000

theorem leaf_any (s : ByteArray) (w : World) (hR : Rounds w) (hs : s.size ≤ 1000000) :
    Calls Tryz.prog 102 #[.string s] w fun e w' => e = .returned (.string (leafT s)) ∧ Below w.heap.size w w' := by
  have HX : Hid (∀ W, Calls Tryz.prog 116 #[.string s] W fun e w' => e = .returned (.string (leafX s)) ∧ w' = W) := Lib.hid fun W => by
    go_enter Tryz.func116, Tryz.ntmps116
    go_wp2_with fail
    go_ret
    exact ⟨rfl, rfl⟩
  have HS := Lib.hid (fun W h => sum_any (leafX s) W h (by unfold leafX; rw [ByteArray.size_append]; have : (⟨#[0]⟩ : ByteArray).size = 1 := rfl; omega))
  have HR := Lib.hid hR
  show Calls _ _ _ _ fun e w' => e = .returned (.string (bs (sumL (leafX s).data.toList))) ∧ Below w.heap.size w w'
  generalize bs (sumL (leafX s).data.toList) = r at HS ⊢
  generalize leafX s = x at HX HS
  clear hR hs
  go_enter Tryz.func102, Tryz.ntmps102
  go_wp2_with fail
  refine (HX.out _).mono ?_
  rintro e w1 ⟨rfl, rfl⟩
  go_wp2_with fail
  refine (HS.out _ HR.out).mono ?_
  rintro e w1 ⟨rfl, hb⟩
  go_wp2_with fail
  go_ret
  exact ⟨rfl, hb⟩
theorem node_any (a b : ByteArray) (w : World) (hR : Rounds w) (ha : a.size ≤ 1000000) (hb : b.size ≤ 1000000) :
    Calls Tryz.prog 117 #[.string a, .string b] w fun e w' => e = .returned (.string (nodeT a b)) ∧ Below w.heap.size w w' := by
  have HX : Hid (∀ W, Calls Tryz.prog 133 #[.string a, .string b] W fun e w' => e = .returned (.string (nodeX a b)) ∧ w' = W) := Lib.hid fun W => by
    go_enter Tryz.func133, Tryz.ntmps133
    go_wp2_with fail
    go_ret
    exact ⟨rfl, rfl⟩
  have HS := Lib.hid (fun W h => sum_any (nodeX a b) W h (by unfold nodeX; rw [ByteArray.size_append, ByteArray.size_append]; have : (⟨#[1]⟩ : ByteArray).size = 1 := rfl; omega))
  have HR := Lib.hid hR
  show Calls _ _ _ _ fun e w' => e = .returned (.string (bs (sumL (nodeX a b).data.toList))) ∧ Below w.heap.size w w'
  generalize bs (sumL (nodeX a b).data.toList) = r at HS ⊢
  generalize nodeX a b = x at HX HS
  clear hR ha hb
  go_enter Tryz.func117, Tryz.ntmps117
  go_wp2_with fail
  refine (HX.out _).mono ?_
  rintro e w1 ⟨rfl, rfl⟩
  go_wp2_with fail
  refine (HS.out _ HR.out).mono ?_
  rintro e w1 ⟨rfl, hb⟩
  go_wp2_with fail
  go_ret
  exact ⟨rfl, hb⟩
theorem and_pow (n : Nat) (h1 : 1 ≤ n) (h2 : n ≤ 1024) : bits .and .i64 (n : Int) ((n : Int) - 1) = ((n &&& (n - 1) : Nat) : Int) := by
  obtain ⟨k, rfl⟩ : ∃ k, n = k + 1 := ⟨n - 1, by omega⟩
  rw [show (((k + 1 : Nat) : Int) - 1) = (k : Int) by omega]
  show IntKind.i64.wrap ((BitVec.ofInt 64 (((k + 1 : Nat)) : Int) &&& BitVec.ofInt 64 (k : Int)).toNat : Int) = _
  rw [BitVec.toNat_and, toNat_ofInt64 (k + 1) (by omega), toNat_ofInt64 k (by omega), IntKind.wrap_i64, Nat.add_sub_cancel]
  have : (k + 1) &&& k ≤ k := Nat.and_le_right
  omega
theorem may_any (n : Nat) (w : World) (h0 : n ≤ 9223372036854775807) : Calls Tryz.prog 86 #[.int .i64 (n : Nat)] w fun e w' => e = .returned (.bool (mayB n)) ∧ w' = w := by
  by_cases h1 : 1 ≤ n
  · by_cases h2 : n ≤ 1024
    · have e1 : decide ((n : Int) ≥ 1) = true := by simp; omega
      have e2 : decide ((n : Int) ≤ 1024) = true := by simp; omega
      have ha := and_pow n h1 h2
      have hm : mayB n = decide (n &&& (n - 1) = 0) := by unfold mayB; rw [decide_eq_true h1, decide_eq_true h2]; rfl
      rw [hm]
      cases hq : decide (n &&& (n - 1) = 0) with
      | true =>
        have hq2 : n &&& (n - 1) = 0 := of_decide_eq_true hq
        rw [hq2] at ha
        clear hq hq2 hm
        go_enter Tryz.func86, Tryz.ntmps86
        go_wp2_with fail
        go_ret
        exact ⟨rfl, rfl⟩
      | false =>
        have hq2 : ¬ n &&& (n - 1) = 0 := of_decide_eq_false hq
        obtain ⟨y, hy⟩ : ∃ y, y = n &&& (n - 1) := ⟨_, rfl⟩
        rw [← hy] at ha hq2
        have e3 : ((y : Int) == 0) = false := by simp; omega
        clear hq hm hy
        go_enter Tryz.func86, Tryz.ntmps86
        go_wp2_with fail
        go_ret
        exact ⟨rfl, rfl⟩
    · have e1 : decide ((n : Int) ≥ 1) = true := by simp; omega
      have e2 : decide ((n : Int) ≤ 1024) = false := by simp; omega
      have hm : mayB n = false := by unfold mayB; rw [decide_eq_false h2]; simp
      rw [hm]
      clear hm
      go_enter Tryz.func86, Tryz.ntmps86
      go_wp2_with fail
      go_ret
      exact ⟨rfl, rfl⟩
  · have e1 : decide ((n : Int) ≥ 1) = false := by simp; omega
    have hm : mayB n = false := by unfold mayB; rw [decide_eq_false h1]; rfl
    rw [hm]
    clear hm
    go_enter Tryz.func86, Tryz.ntmps86
    go_wp2_with fail
    go_ret
    exact ⟨rfl, rfl⟩
/-- A row of digests, as a slice in a block of texts. -/
def LevB (W : World) (sv : Value) (l : List ByteArray) : Prop := ∃ b off n c cs, sv = .slice (some ⟨b, off, none⟩) n c ∧ W.heap[b]? = some (.cells cs 9 (0, 0)) ∧ n = l.length ∧ Rd W (some ⟨b, off, none⟩) (textsV l)
theorem LevB.keep {W W' : World} {sv : Value} {l : List ByteArray} (h : LevB W sv l) (hk : ∀ (k : Nat) (cs : Array Value), W.heap[k]? = some (.cells cs 9 (0, 0)) → W'.heap[k]? = W.heap[k]?) : LevB W' sv l := by
  obtain ⟨b, off, n, c, cs, h1, h2, h3, h4⟩ := h
  refine ⟨b, off, n, c, cs, h1, (hk b cs h2).trans h2, h3, fun i u hu => ?_⟩
  obtain ⟨b', o', e, hc⟩ := h4 i u hu
  refine ⟨b', o', e, ?_⟩
  injection e with e
  injection e with e1 e2
  subst e1
  unfold World.cell? at hc ⊢
  simp only [hk _ cs h2]
  exact hc
theorem LevB.below {W W' : World} {sv : Value} {l : List ByteArray} (h : LevB W sv l) (hb : Below W.heap.size W W') : LevB W' sv l :=
  h.keep fun k cs hk => hb.block k (cell_lt_of hk)
theorem lev_of_own {W : World} {B g n cap : Nat} {l : List ByteArray} (h : W.ownsRow B 9 1 (.slice (some ⟨g, 0, none⟩) n cap) n (textsV l)) (hn : n = l.length) : LevB W (.slice (some ⟨g, 0, none⟩) n cap) l := by
  have hr := own_rd h
  rcases h.2 with ⟨hv, _⟩ | ⟨g', cap', cur, hv, hB, hg, _⟩
  · cases hv
  · injection hv with hv
    injection hv with hv
    injection hv with e1
    subst e1
    exact ⟨_, _, _, _, _, rfl, hg, hn, hr⟩
theorem top_any (g : Nat) (A : Option Addr) (n c : Nat) (X : Option Addr) (m cap k : Nat) (svs : List Value) (b off nt ct : Nat) (w : World) (hX : w.heap[g]? = some (.cells #[.slice A n c, .slice X m cap] 120 (0, 0)))
    (hr : Rd w X svs) (hm : m = k + 1) (hm2 : m ≤ 1000) (hs : svs[k]? = some (.slice (some ⟨b, off, none⟩) nt ct)) :
    Calls Tryz.prog 103 #[.pointer (some ⟨g, 0, none⟩)] w fun e w' => e = .returned (.slice (some ⟨b, off, none⟩) nt ct) ∧ Below w.heap.size w w' := by
  obtain ⟨bX, oX, hbX, c1⟩ := hr k _ hs
  subst hbX
  have x1 := rf_at hX 1 _ rfl
  have hw1 : IntKind.i64.wrap ((m : Int) - 1) = (k : Int) := by rw [IntWalk.i64_in _ (by omega)]; omega
  have hkm : (k : Int) < (m : Int) := by omega
  clear hX hr hs hm hm2
  go_enter Tryz.func103, Tryz.ntmps103
  go_wp2_with fail
  go_quiet (fail)
  go_wp2_with fail
  go_ret
  exact ⟨rfl, below_drewN (Below.refl _ _) nq⟩
theorem rows_info : (Tryz.prog.info? 22).map (fun i => (i.zero, i.size, i.bytes)) = some (some (.slice none 0 0), 1, 24) := by kernel_rfl
/-- The rows of digests up to height h, in the box g; base B. -/
structure RowsB (W : World) (B g : Nat) (A : Option Addr) (n c : Nat) (l : List ByteArray) (h : Nat) (X : Option Addr) (cap : Nat) (svs : List Value) : Prop where
  box : W.heap[g]? = some (.cells #[.slice A n c, .slice X (h + 1) cap] 120 (0, 0))
  own : W.ownsRow B 22 1 (.slice X (h + 1) cap) (h + 1) svs
  lev : ∀ k, k ≤ h → ∃ sv, svs[k]? = some sv ∧ LevB W sv (lev l k)
theorem RowsB.below {W W' : World} {B g : Nat} {A : Option Addr} {n c : Nat} {l : List ByteArray} {h : Nat} {X : Option Addr} {cap : Nat} {svs : List Value} (r : RowsB W B g A n c l h X cap svs) (hb : Below W.heap.size W W') : RowsB W' B g A n c l h X cap svs :=
  ⟨cells_below r.box hb, own_keep r.own hb, fun k hk => by obtain ⟨sv, h1, h2⟩ := r.lev k hk; exact ⟨sv, h1, h2.below hb⟩⟩
theorem own_not_text {W : World} {B : Nat} {v : Value} {m : Nat} {xs : List Value} (h : W.ownsRow B 22 1 v m xs) {k : Nat} {cs : Array Value} (hk : W.heap[k]? = some (.cells cs 9 (0, 0))) : some k ≠ v.ownBlock := by
  intro e
  rcases h.2 with ⟨rfl, _⟩ | ⟨g, cap, cur, rfl, _, hg, _⟩
  · cases e
  · injection e with e
    subst e
    rw [hg] at hk
    injection hk with hk
    injection hk with _ h2 _
    cases h2
theorem own_not_rows {W : World} {B : Nat} {v : Value} {m : Nat} {xs : List Value} (h : W.ownsRow B 22 1 v m xs) {k : Nat} {cs : Array Value} (hk : W.heap[k]? = some (.cells cs 120 (0, 0))) : some k ≠ v.ownBlock := by
  intro e
  rcases h.2 with ⟨rfl, _⟩ | ⟨g, cap, cur, rfl, _, hg, _⟩
  · cases e
  · injection e with e
    subst e
    rw [hg] at hk
    injection hk with hk
    injection hk with _ h2 _
    cases h2
theorem own_set_rows {W : World} {B : Nat} {v : Value} {m : Nat} {xs : List Value} (h : W.ownsRow B 22 1 v m xs) {g i : Nat} {cs : Array Value} (hg : W.heap[g]? = some (.cells cs 120 (0, 0))) (u : Value) : (W.setCell ⟨g, i, none⟩ u).ownsRow B 22 1 v m xs := by
  have hn := own_not_rows h hg
  refine ⟨h.1, ?_⟩
  rcases h.2 with h2 | ⟨g', cap, cur, hv, hB, hg', hr⟩
  · exact .inl h2
  · refine .inr ⟨g', cap, cur, hv, hB, (Below.heap_setCell _ _ _ _ (fun e => hn ?_)).trans hg', hr⟩
    rw [hv]
    simp only at e
    rw [e]
    rfl
theorem LevB.set {W : World} {sv : Value} {l : List ByteArray} (h : LevB W sv l) {g i : Nat} {cs : Array Value} (hg : W.heap[g]? = some (.cells cs 120 (0, 0))) (u : Value) : LevB (W.setCell ⟨g, i, none⟩ u) sv l :=
  h.keep fun k cs' hk => Below.heap_setCell _ _ _ _ (fun e => by
    simp only at e
    subst e
    rw [hg] at hk
    injection hk with hk
    injection hk with _ h2 _
    cases h2)
theorem tr_below {W W' : World} {B : Nat} {e : TypeId} {size : Nat} {v : Value} {n : Nat} {xs : List Value} (ho : W.ownsRow B e size v n xs) (hg : W.grownBy W' v.ownBlock) (hB : B ≤ W.heap.size) : Below B W W' :=
  (Below.refl B W).grown hg hB fun k ek => by
    rcases ho.2 with ⟨rfl, _⟩ | ⟨g, cap, cur, rfl, hb, _⟩
    · cases ek
    · injection ek with ek
      simp only at ek
      omega
theorem rise_any (B g : Nat) (A : Option Addr) (n c : Nat) (l : List ByteArray) (h : Nat) (X : Option Addr) (cap : Nat) (svs : List Value) (w : World) (hr : RowsB w B g A n c l h X cap svs) (hB : B ≤ g) (hh : h ≤ 100) (hl : (lev l h).length ≤ 100000) (hR : Rounds w) :
    Calls Tryz.prog 104 #[.pointer (some ⟨g, 0, none⟩)] w fun e w' => e = .returned (.tuple #[]) ∧ (Below B w w' ∧ w.heap.size ≤ w'.heap.size) ∧ ∃ X' cap' svs', RowsB w' B g A n c l (h + 1) X' cap' svs' := by
  obtain ⟨sv, hsv, b, off, nt, ct, cs, rfl, hbk, hnt, hrd⟩ := hr.lev h (Nat.le_refl _)
  have HTop := Lib.hid (top_any g A n c X (h + 1) cap h svs b off nt ct w hr.box (own_rd hr.own) rfl (by omega) hsv)
  have Hr := Lib.hid hr
  have HRd := Lib.hid hrd
  have HN := Lib.hid hnt
  have HR := Lib.hid hR
  have Hlev := Lib.hid (show lev l (h + 1) = pairs (lev l h) from rfl)
  have Hsz := Lib.hid (lev_size l h)
  have hglt := cell_lt_of hr.box
  have hbw0 := cell_lt_of hbk
  rw [← hnt] at hl
  obtain ⟨top, htop⟩ : ∃ top, top = lev l h := ⟨_, rfl⟩
  rw [← htop] at HRd HN Hlev Hsz
  obtain ⟨iS, hS0, hS1, hS2, hS3⟩ := info_parts string_info
  clear hr hsv hbk hnt hrd hR htop
  go_enter Tryz.func104, Tryz.ntmps104
  go_wp2_with fail
  refine (HTop.out).mono ?_
  rintro e w1 ⟨rfl, hb1⟩
  have Hb1 := Lib.hid hb1
  clear hb1
  go_wp2_with (refine wpList_make_own _ (by rfl) (.const (.int .i64 0)) (.tmp 9) 22 (by rfl) w.heap.size 9 iS (.string ⟨#[]⟩) 1 Tryz.underlying22 hS0 hS1 hS2 .i64 .i64 _ (nt / 2) (by rfl) (by rfl) (by first | rfl | omega) (by rw [hS3]; omega) (by unfold maxLen; omega) (by exact Hb1.out.size) ?_)
  intro w2 ho2 hg2
  have HO2 := Lib.hid ho2
  have Hb2 := Lib.hid (Hb1.out.grown hg2 Hb1.out.size (fun k e => by cases e))
  clear ho2 hg2
  go_wp2_with fail
  go_loopw [3, 4] (fun v x wr => ∃ (q j gN cN : Nat), j = 2 * q ∧ q ≤ nt / 2 ∧ x = .int .i64 (j : Nat) ∧ v = .slice (some ⟨gN, 0, none⟩) q cN ∧ wr.ownsRow w.heap.size 9 1 (.slice (some ⟨gN, 0, none⟩) q cN) q (textsV ((pairs top).take q)) ∧ Below w.heap.size w wr) (fun _ x _ => nt + 1 - (intOf x).toNat)
  case atStart => exact ⟨0, 0, w1.heap.size, nt / 2, rfl, by omega, rfl, rfl, HO2.out, Hb2.out⟩
  case round =>
    clear HO2 Hb2
    obtain ⟨q, j, gN, cN, hj, hq, rfl, rfl, ho, hb⟩ := hrel
    have HO := Lib.hid ho
    have Hb := Lib.hid hb
    clear ho hb
    have hj2 : j ≤ 100000 := by omega
    by_cases hlt : j + 1 < nt
    · have e1 : decide ((j : Int) + 1 < (nt : Int)) = true := by simp; omega
      have hw1 : IntKind.i64.wrap ((j : Int) + 1) = (j : Int) + 1 := IntWalk.i64_in _ (by omega)
      have i4 : (0 : Int) ≤ (j : Int) + 1 := by omega
      have i5 : ((j : Int) + 1).toNat = j + 1 := by omega
      have i1 : (j : Int) < (nt : Int) := by omega
      have i2 : ((j + 1 : Nat) : Int) < (nt : Int) := by omega
      have i3 : (j : Int) + 1 < (nt : Int) := by omega
      have ht1 : j < top.length := by rw [← HN.out]; omega
      have ht2 : j + 1 < top.length := by rw [← HN.out]; omega
      obtain ⟨b', off', e0, c1⟩ := texts_at (HRd.out.below Hb.out) ht1
      injection e0 with e0
      injection e0 with t1 t2
      subst t1 t2
      obtain ⟨b', off', e0, c2⟩ := texts_at (HRd.out.below Hb.out) ht2
      injection e0 with e0
      injection e0 with t1 t2
      subst t1 t2
      subst hj
      have Hsn := Lib.hid (pairs_snoc top q ht2)
      have z1 := Hsz.out _ (List.getElem_mem ht1)
      have z2 := Hsz.out _ (List.getElem_mem ht2)
      generalize top[2 * q] = ta at c1 Hsn z1
      generalize top[2 * q + 1] = tb at c2 Hsn z2
      have HNd := Lib.hid (fun W h => node_any ta tb W h (by omega) (by omega))
      generalize nodeT ta tb = nd at HNd Hsn
      obtain ⟨j, hj⟩ : ∃ j, j = 2 * q := ⟨_, rfl⟩
      rw [← hj] at c1 c2 hw1 i1 i2 i3 i4 i5 e1 hlt hj2 ⊢
      have hq100 : q ≤ 100000 := by omega
      have Hj := Lib.hid hj
      clear ht1 ht2 z1 z2 hj
      have hbw : b < w.heap.size := hbw0
      have q1 : wr.drew.cell? ⟨b, off + j, none⟩ = some (.string ta) ∧ wr.drew.cell? ⟨b, off + (j + 1), none⟩ = some (.string tb) := ⟨c1, c2⟩
      have BB := Hb.out.drew
      have OO := own_keep HO.out ((Below.refl wr.heap.size wr).drew)
      clear c1 c2
      go_wp2_with fail
      go_region_held3 (fun w' => w'.cell? ⟨b, off + j, none⟩ = some (.string ta) ∧ w'.cell? ⟨b, off + (j + 1), none⟩ = some (.string tb))
        (first | with_reducible assumption | with_reducible exact keep2_alloc q1)
        (first
          | ((go_at_call 117; refine (HNd.out _ (HR.out.below BB)).mono ?_); rintro _ w3 ⟨rfl, hb3⟩; replace q1 := keep2_below q1 hb3; replace OO := own_keep OO hb3; replace BB := Below.chain BB hb3; clear hb3)
          | (refine step_append_lies _ (by rfl) (.tmp 18) (.tmp 29) 22 (by rfl) w.heap.size 9 iS (.string ⟨#[]⟩) 1 16 Tryz.underlying22 hS0 hS1 hS2 hS3 rfl (by omega) (.slice (some ⟨gN, 0, none⟩) q cN) q (textsV ((pairs top).take q)) (by rfl) (OO.alloc _) ⟨w3.heap.size, 0, none⟩ 1 1 [.string nd] (by rfl) (by rfl) (World.news_of_block (heap_alloc_new w3 _)) (by simp [Value.oneCell']) (by omega) (by unfold maxLen; omega) (by omega) (by have := BB.size; simp; omega) _ rfl ?_; intro g4 cap4 w4 ho4 hg4 hat hlt4; have hb4 := tr_below (OO.alloc _) hg4 (by have := BB.size; simp; omega); have q4 : w4.cell? ⟨b, off + j, none⟩ = some (.string ta) ∧ w4.cell? ⟨b, off + (j + 1), none⟩ = some (.string tb) := ⟨(hb4.cell hbw).trans (keep2_alloc q1).1, (hb4.cell hbw).trans (keep2_alloc q1).2⟩))
      have HO4 := Lib.hid ho4
      have Hb4 := Lib.hid (BB.trans (((Below.refl w3.heap.size w3).alloc (Nat.le_refl _) _).mono BB.size |>.trans hb4))
      clear ho4 hg4 hat hlt4 hb4 q4 q1 OO BB
      go_wp2_with fail
      go_roundw
      case rel =>
        refine ⟨q + 1, j + 2, g4, cap4, by have := Hj.out; omega, by have := Hj.out; omega, by go_num, rfl, ?_, Hb4.out⟩
        rw [Hsn.out, textsV_append]
        exact HO4.out
      case measure => (simp [intOf]; omega)
    · have e1 : decide ((j : Int) + 1 < (nt : Int)) = false := by simp; omega
      have hqe : q = nt / 2 := by omega
      have Hlen := Lib.hid (show q = (pairs top).length by rw [pairs_len, ← HN.out]; exact hqe)
      rw [List.take_of_length_le (by rw [← Hlen.out]; exact Nat.le_refl _)] at HO
      have rb := Hr.out.below Hb.out
      have x1 := rf_at rb.box 1 _ rfl
      have hbz := Hb.out.size
      clear hqe hj hq
      go_wp2_with (at_builtin; refine wpList_append_new (by rfl) (.tmp 35) (.tmp 37) 118 (by rfl) B 22 (.slice none 0 0) 1 24 Tryz.underlying118 rows_info rfl (by omega) wr #[.slice (some ⟨gN, 0, none⟩) q cN] 22 (.slice X (h + 1) cap) (h + 1) svs (by rfl) rb.own wr.heap.size 1 1 (by rfl) (by rfl) (by rfl) (by rfl) (by omega) (by omega) (by omega) (by omega) ?_)
      intro g5 cap5 w5 ho5 hb5 hk5 hat5 hlt5
      have box5 := (hk5 g (by omega) (own_not_rows rb.own rb.box)).trans rb.box
      have Lv5 := Lib.hid (show ∀ k, k ≤ h + 1 → ∃ sv, (svs ++ [.slice (some ⟨gN, 0, none⟩) q cN])[k]? = some sv ∧ LevB w5 sv (lev l k) from fun k hk => by
        have hsl : svs.length = h + 1 := by have := rb.own.1; omega
        by_cases e : k ≤ h
        · obtain ⟨sv, s1, s2⟩ := rb.lev k e
          exact ⟨sv, by rw [List.getElem?_append_left (by omega)]; exact s1, s2.keep fun k' cs' hk' => hk5 k' (cell_lt_of hk') (own_not_text rb.own hk')⟩
        · obtain rfl : k = h + 1 := by omega
          refine ⟨_, by rw [List.getElem?_append_right (by omega), hsl, Nat.sub_self]; rfl, ?_⟩
          rw [Hlev.out]
          exact (lev_of_own HO.out Hlen.out).keep fun k' cs' hk' => hk5 k' (cell_lt_of hk') (own_not_text rb.own hk'))
      have Own5 := Lib.hid ho5
      have Box5 := Lib.hid box5
      have y1 := rf_at box5 1 _ rfl
      have f1 := rf_fr box5 1
      have hset := blk_set box5 1 (.slice (some ⟨g5, 0, none⟩) (h + 1 + 1) cap5)
      simp only [List.setIfInBounds_toArray, List.set_cons_zero, List.set_cons_succ] at hset
      have Hset := Lib.hid hset
      have Hfin := Lib.hid (((Hb.out.mono (by omega : B ≤ w.heap.size)).trans hb5).setCell (p := ⟨g, 1, none⟩) hB (.slice (some ⟨g5, 0, none⟩) (h + 1 + 1) cap5))
      clear ho5 hb5 hk5 hat5 hlt5 hset box5 rb x1
      go_wp2_with fail
      go_end0
      exact ⟨rfl, ⟨Hfin.out, Hfin.out.size⟩, _, _, _, ⟨Hset.out, own_set_rows Own5.out Box5.out _, fun k hk => by obtain ⟨sv, s1, s2⟩ := Lv5.out k hk; exact ⟨sv, s1, s2.set Box5.out _⟩⟩⟩
end Go.Proofs.YtieekajjoikepaaGreatDoor
