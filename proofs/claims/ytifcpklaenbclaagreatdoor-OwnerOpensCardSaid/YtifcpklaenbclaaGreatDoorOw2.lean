/-
  Contract of owner.fitting and its iterator.
-/
import Derived.Test.YtifcpklaenbclaaGreatDoorOw
import Derived.Test.YtifcpklaenbclaaGreatDoorRfn
namespace Go.Proofs.YtifcpklaenbclaaGreatDoor
open Go.RowKit
set_option linter.unusedVariables false
set_option linter.unusedSimpArgs false
set_option maxRecDepth 100000
set_option maxHeartbeats 2000000

def answersV (l : List Ans) : List Value := l.flatMap ansV
theorem answersV_cons (p : Ans) (l : List Ans) : answersV (p :: l) = ansV p ++ answersV l := rfl
theorem answersV_at (l : List Ans) (i : Nat) (p : Ans) (h : l[i]? = some p) : (answersV l)[i * 4]? = some (.string p.nm) ∧ (answersV l)[i * 4 + 1]? = some (.string p.salt) ∧ (answersV l)[i * 4 + 2]? = some (.int .i64 p.x) ∧ (answersV l)[i * 4 + 3]? = some (.string p.b) := by
  induction l generalizing i with
  | nil => simp at h
  | cons a l ih =>
    cases i with
    | zero =>
      simp at h
      subst h
      exact ⟨rfl, rfl, rfl, rfl⟩
    | succ i =>
      have := ih i (by simpa using h)
      rw [answersV_cons]
      have e : (ansV a).length = 4 := rfl
      refine ⟨?_, ?_, ?_, ?_⟩
      · rw [List.getElem?_append_right (by omega), e, show (i + 1) * 4 - 4 = i * 4 by omega]; exact this.1
      · rw [List.getElem?_append_right (by omega), e, show (i + 1) * 4 + 1 - 4 = i * 4 + 1 by omega]; exact this.2.1
      · rw [List.getElem?_append_right (by omega), e, show (i + 1) * 4 + 2 - 4 = i * 4 + 2 by omega]; exact this.2.2.1
      · rw [List.getElem?_append_right (by omega), e, show (i + 1) * 4 + 3 - 4 = i * 4 + 3 by omega]; exact this.2.2.2
theorem Rd.ans {w : World} {A : Option Addr} {l : List Ans} {i : Nat} (h : Rd w A (answersV l)) (hi : i < l.length) :
    ∃ b off, A = some ⟨b, off, none⟩ ∧ w.cell? ⟨b, off + i * 4, none⟩ = some (.string l[i].nm) ∧ w.cell? ⟨b, off + i * 4 + 1, none⟩ = some (.string l[i].salt) ∧ w.cell? ⟨b, off + i * 4 + 2, none⟩ = some (.int .i64 l[i].x) ∧ w.cell? ⟨b, off + i * 4 + 3, none⟩ = some (.string l[i].b) := by
  obtain ⟨h0, h1, h2, h3⟩ := answersV_at l i l[i] (List.getElem?_eq_getElem hi)
  obtain ⟨b, off, hA, c0⟩ := h _ _ h0
  have hh : ∀ k u, (answersV l)[k]? = some u → w.cell? ⟨b, off + k, none⟩ = some u := fun k u hk => by
    obtain ⟨b', off', hA', c⟩ := h _ _ hk
    rw [hA] at hA'
    injection hA' with e
    injection e with e1 e2
    subst e1 e2
    exact c
  exact ⟨b, off, hA, c0, by rw [Nat.add_assoc]; exact hh _ _ h1, by rw [Nat.add_assoc]; exact hh _ _ h2, by rw [Nat.add_assoc]; exact hh _ _ h3⟩

/-- Which answers are told: those that fit, of one name if any is false. -/
def tells (r : Rec) (name : ByteArray) (any : Bool) (a : Ans) : Bool := (any || decide (a.nm = name)) && fitB r a
abbrev FA (r : Rec) (name : ByteArray) (any : Bool) := { a : Ans // tells r name any a = true }
def selS (r : Rec) (name : ByteArray) (any : Bool) (l : List Ans) : List (FA r name any) := l.filterMap fun a => if h : tells r name any a = true then some ⟨a, h⟩ else none
theorem sel_val (r : Rec) (name : ByteArray) (any : Bool) (l : List Ans) : (selS r name any l).map Subtype.val = l.filter (tells r name any) := by
  induction l with
  | nil => rfl
  | cons a l ih =>
    rw [selS, List.filterMap_cons, List.filter_cons]
    by_cases h : tells r name any a = true
    · rw [dif_pos h, if_pos h, List.map_cons, ← selS, ih]
    · rw [dif_neg h, if_neg h, ← selS, ih]
theorem sel_snoc {r : Rec} {name : ByteArray} {any : Bool} {l : List Ans} {i : Nat} (hi : i < l.length) : selS r name any (l.take (i + 1)) = selS r name any (l.take i) ++ (if h : tells r name any l[i] = true then [⟨l[i], h⟩] else []) := by
  rw [List.take_succ_eq_append_getElem hi, selS, List.filterMap_append, ← selS]
  congr 1
  rw [List.filterMap_cons]
  split
  · rename_i h; split at h
    · cases h
    · rw [dif_neg (by assumption)]; rfl
  · rename_i h; split at h
    · rw [dif_pos (by assumption)]
      obtain rfl := Option.some.inj h
      rfl
    · cases h
theorem sel_pre (r : Rec) (name : ByteArray) (any : Bool) (l : List Ans) (i : Nat) : selS r name any (l.take i) <+: selS r name any l := by
  rw [show selS r name any l = selS r name any (l.take i ++ l.drop i) by rw [List.take_append_drop]]
  rw [selS, selS, List.filterMap_append]
  exact List.prefix_append _ _
theorem fitting1_in (n : Nat) (hn : 1 ≤ n) (yl BL BA BN BR T : Nat) (A : Option Addr) (m c : Nat) (ls : List Ans) (name : ByteArray) (any : Bool) (r : Rec) (v0 v1 v2 v3 : Value) (w1 W : World) (hT : T = w1.heap.size) (hw1 : Below T w1 W) (hv : RV w1 (.agg #[v0, v1, v2, v3]) r) (hr : Rd w1 A (answersV ls)) (hm : m = ls.length) (hl : m ≤ 1000) (hR : Rounds w1)
    (bL : W.heap[BL]? = some (.cells #[.slice A m c] 25 (0, 0))) (bA : W.heap[BA]? = some (.cells #[.bool any] 4 (0, 0))) (bN : W.heap[BN]? = some (.cells #[.string name] 9 (0, 0))) (bR : W.heap[BR]? = some (.cells #[v0, v1, v2, v3] 24 (0, 0)))
    (J Jx : List (FA r name any) → World → Prop) (hJ : AbidesFrom W.heap.size J)
    (hY : ∀ pre x W', J pre W' → pre.length < (selS r name any ls).length → YieldAt Fence.wide (n - 1) Tryz.prog yl #[.agg #[.string x.1.nm, .string x.1.salt, .int .i64 x.1.x, .string x.1.b]] W' fun e W2 =>
      (e = .returned (.bool true) ∧ J (pre ++ [x]) W2 ∧ KpT T [BL, BA, BN, BR] W' W2) ∨ (e = .returned (.bool false) ∧ Jx (pre ++ [x]) W2)) (h0 : J [] W) :
    CallsIn Fence.wide n Tryz.prog 40 #[.func (.yield yl) #[] #[], .pointer (some ⟨BL, 0, none⟩), .pointer (some ⟨BA, 0, none⟩), .pointer (some ⟨BN, 0, none⟩), .pointer (some ⟨BR, 0, none⟩)] W fun e W' => (∃ v, e = .returned v) ∧
      ((∃ ys, ys = selS r name any ls ∧ J ys W') ∨ (∃ pre, pre <+: selS r name any ls ∧ Jx pre W')) := by
  have HY := Lib.hid hY
  have HM := Lib.hid hm
  have HRd := Lib.hid hr
  have HV := Lib.hid hv
  have HR := Lib.hid hR
  have HJa := Lib.hid hJ
  have hw1s : w1.heap.size ≤ W.heap.size := hw1.size
  subst hT
  clear hY hm hr hv hR hJ
  have c1 := cell_of_one bL
  refine callsIn_of_wp Tryz.func40 rfl trivial ?_ rfl
  simp only [Tryz.ntmps40, List.size_toArray, List.length_cons, List.length_nil, Nat.reduceAdd, Nat.reduceSub, Array.replicate_succ, Array.replicate_zero, List.push_toArray, List.append_toArray, List.nil_append, List.cons_append]
  gi_wp2
  gi_loopw [10] (fun u wr => ∃ i : Nat, i ≤ m ∧ u = .int .i64 (i : Nat) ∧ wr.heap[BL]? = some (.cells #[.slice A m c] 25 (0, 0)) ∧ wr.heap[BA]? = some (.cells #[.bool any] 4 (0, 0)) ∧ wr.heap[BN]? = some (.cells #[.string name] 9 (0, 0)) ∧ wr.heap[BR]? = some (.cells #[v0, v1, v2, v3] 24 (0, 0)) ∧ Below w1.heap.size w1 wr ∧ W.heap.size ≤ wr.heap.size ∧ J (selS r name any (ls.take i)) wr) (fun u _ => m - (intOf u).toNat)
  case atStart => exact ⟨0, by omega, rfl, bL, bA, bN, bR, hw1, Nat.le_refl _, h0⟩
  case round =>
    clear c1 bL bA bN bR hw1 h0
    obtain ⟨i, hi, rfl, bL, bA, bN, bR, hb, hsz, hJ⟩ := hrel
    by_cases hlt : i < m
    · have e1 : decide ((i : Int) < (m : Int)) = true := by simp; omega
      have hil : i < ls.length := by rw [← HM.out]; exact hlt
      obtain ⟨bb, off, hA, k0, k1, k2, k3⟩ := (HRd.out.below hb).ans hil
      subst hA
      have Hsn := Lib.hid (sel_snoc (r := r) (name := name) (any := any) hil)
      have Hpre := Lib.hid (sel_pre r name any ls (i + 1))
      generalize ls[i] = a at k0 k1 k2 k3 Hsn
      obtain ⟨nm, salt, x, b⟩ := a
      simp only at k0 k1 k2 k3
      have hal := (Below.refl wr.heap.size wr).alloc (Nat.le_refl _) (.cells #[.string nm, .string salt, .int .i64 x, .string b] 31)
      have bA2 := cells_below bA hal
      have bN2 := cells_below bN hal
      have bR2 := cells_below bR hal
      have bL2 := cells_below bL hal
      have bY := heap_alloc_new wr (.cells #[.string nm, .string salt, .int .i64 x, .string b] 31)
      have q0 := cell_of_one bL
      have q1 := cell_of_one bA2
      have q2 := cell_of_one bN2
      have q3 := rf_at bR2 0 _ rfl
      have q4 := rf_at bR2 1 _ rfl
      have q5 := rf_at bR2 2 _ rfl
      have q6 := rf_at bR2 3 _ rfl
      have hb2 := hb.alloc (Nat.le_trans hw1s hsz) (.cells #[.string nm, .string salt, .int .i64 x, .string b] 31)
      have hsz2 : W.heap.size ≤ (wr.alloc (.cells #[.string nm, .string salt, .int .i64 x, .string b] 31)).heap.size := by rw [World.size_alloc]; omega
      have hJ2 := HJa.out _ _ (wr.alloc (.cells #[.string nm, .string salt, .int .i64 x, .string b] 31)) none hJ (gb_of_below hal none) (fun r e => by cases e)
      have HB := Lib.hid hb2
      have HS := Lib.hid hsz2
      have HJ := Lib.hid hJ2
      have BL2 := Lib.hid bL2
      have BA2 := Lib.hid bA2
      have BN2 := Lib.hid bN2
      have BR2 := Lib.hid bR2
      have BY := Lib.hid bY
      have HF := Lib.hid (fun W h1 h2 => fit_any (.agg #[v0, v1, v2, v3]) r ⟨nm, salt, x, b⟩ W h1 h2)
      simp only at HF
      clear bL bA bN bR hb hsz hJ hal bA2 bN2 bR2 bL2 bY hb2 hsz2 hJ2
      cases any with
      | true =>
        cases hfit : fitB r ⟨nm, salt, x, b⟩ with
        | false =>
          have Ht := Lib.hid (show ¬ tells r name true ⟨nm, salt, x, b⟩ = true by rw [tells, hfit]; simp)
          have Hs2 := Lib.hid (show selS r name true (ls.take (i + 1)) = selS r name true (ls.take i) by rw [Hsn.out, dif_neg Ht.out, List.append_nil])
          have HFv := Lib.hid hfit
          clear hfit Hsn
          gi_wp2_with (refine ⟨trivial, ?_⟩; gi_at_call 23; refine (callsIn_wide.2 (HF.out _ (HV.out.below HB.out) (HR.out.below HB.out))).mono ?_; rintro e w2 ⟨rfl, hb2⟩; rw [HFv.out]; have BL3 := Lib.hid (cells_below BL2.out hb2); have BA3 := Lib.hid (cells_below BA2.out hb2); have BN3 := Lib.hid (cells_below BN2.out hb2); have BR3 := Lib.hid (cells_below BR2.out hb2); have BY3 := cells_below BY.out hb2; have y0 := rf_at BY3 0 _ rfl; have y1 := rf_at BY3 1 _ rfl; have y2 := rf_at BY3 2 _ rfl; have y3 := rf_at BY3 3 _ rfl; have HB3 := Lib.hid (HB.out.trans (hb2.mono HB.out.size)); have HS3 := Lib.hid (Nat.le_trans HS.out hb2.size); have HJ3 := Lib.hid (HJa.out _ _ w2 none HJ.out (gb_of_below hb2 none) (fun r e => by cases e)); clear hb2 BY3 q1 q2 q3 q4 q5 q6; rw [← Hs2.out] at HJ3)
          refine ⟨fun f hf => (by cases hf), ?_⟩
          gi_wp2
          go_roundw
          case rel => exact ⟨i + 1, by omega, by go_num, BL3.out, BA3.out, BN3.out, BR3.out, HB3.out, HS3.out, HJ3.out⟩
          case measure => simp [intOf]; omega
        | true =>
          have ht : tells r name true ⟨nm, salt, x, b⟩ = true := by rw [tells, hfit]; rfl
          have Hs2 := Lib.hid (show selS r name true (ls.take (i + 1)) = selS r name true (ls.take i) ++ [⟨⟨nm, salt, x, b⟩, ht⟩] by rw [Hsn.out, dif_pos ht])
          have HLn := Lib.hid (show (selS r name true (ls.take i)).length < (selS r name true ls).length by
            have h1 := Hpre.out.length_le
            rw [Hs2.out, List.length_append] at h1
            simp at h1
            omega)
          have HFv := Lib.hid hfit
          clear hfit Hsn
          gi_wp2_with (refine ⟨trivial, ?_⟩; gi_at_call 23; refine (callsIn_wide.2 (HF.out _ (HV.out.below HB.out) (HR.out.below HB.out))).mono ?_; rintro e w2 ⟨rfl, hb2⟩; rw [HFv.out]; have BL3 := Lib.hid (cells_below BL2.out hb2); have BA3 := Lib.hid (cells_below BA2.out hb2); have BN3 := Lib.hid (cells_below BN2.out hb2); have BR3 := Lib.hid (cells_below BR2.out hb2); have BY3 := cells_below BY.out hb2; have y0 := rf_at BY3 0 _ rfl; have y1 := rf_at BY3 1 _ rfl; have y2 := rf_at BY3 2 _ rfl; have y3 := rf_at BY3 3 _ rfl; have HB3 := Lib.hid (HB.out.trans (hb2.mono HB.out.size)); have HS3 := Lib.hid (Nat.le_trans HS.out hb2.size); have HJ3 := Lib.hid (HJa.out _ _ w2 none HJ.out (gb_of_below hb2 none) (fun r e => by cases e)); clear hb2 BY3 q1 q2 q3 q4 q5 q6; obtain ⟨fn, tmps, assign, body, hy, hR⟩ := HY.out _ ⟨⟨nm, salt, x, b⟩, ht⟩ w2 HJ3.out HLn.out; simp only at hy; have HR2 := Lib.hid hR; clear hR HJ3)
          refine HR2.out.mono ?_
          rintro e W3 (⟨rfl, hJ4, hk4⟩ | ⟨rfl, hJx4⟩)
          · rw [← Hs2.out] at hJ4
            have HJ4 := Lib.hid hJ4
            have BL4 := Lib.hid ((hk4.2 BL (by simp)).trans BL3.out)
            have BA4 := Lib.hid ((hk4.2 BA (by simp)).trans BA3.out)
            have BN4 := Lib.hid ((hk4.2 BN (by simp)).trans BN3.out)
            have BR4 := Lib.hid ((hk4.2 BR (by simp)).trans BR3.out)
            have HB4 := Lib.hid (HB3.out.trans hk4.1)
            have HS4 := Lib.hid (Nat.le_trans HS3.out hk4.1.size)
            clear hJ4 hk4
            gi_wp2
            go_roundw
            case rel => exact ⟨i + 1, by omega, by go_num, BL4.out, BA4.out, BN4.out, BR4.out, HB4.out, HS4.out, HJ4.out⟩
            case measure => simp [intOf]; omega
          · have HJx4 := Lib.hid hJx4
            clear hJx4
            gi_wp2
            refine bodyPost_ret (results_none rfl _ _ _) rfl ?_
            refine ⟨⟨_, rfl⟩, .inr ⟨_, ?_, HJx4.out⟩⟩
            rw [← Hs2.out]
            exact Hpre.out
      | false =>
        by_cases hnm : nm = name
        · have d1 : (nm.toList == name.toList) = true := by rw [hnm]; exact beq_self_eq_true _
          have hnm' : decide (nm = name) = true := decide_eq_true hnm
          have Hnm := Lib.hid hnm'
          clear hnm hnm'
          cases hfit : fitB r ⟨nm, salt, x, b⟩ with
          | false =>
            have Ht := Lib.hid (show ¬ tells r name false ⟨nm, salt, x, b⟩ = true by rw [tells, hfit]; simp)
            have Hs2 := Lib.hid (show selS r name false (ls.take (i + 1)) = selS r name false (ls.take i) by rw [Hsn.out, dif_neg Ht.out, List.append_nil])
            have HFv := Lib.hid hfit
            clear hfit Hsn
            gi_wp2_with (refine ⟨trivial, ?_⟩; gi_at_call 23; refine (callsIn_wide.2 (HF.out _ (HV.out.below HB.out) (HR.out.below HB.out))).mono ?_; rintro e w2 ⟨rfl, hb2⟩; rw [HFv.out]; have BL3 := Lib.hid (cells_below BL2.out hb2); have BA3 := Lib.hid (cells_below BA2.out hb2); have BN3 := Lib.hid (cells_below BN2.out hb2); have BR3 := Lib.hid (cells_below BR2.out hb2); have BY3 := cells_below BY.out hb2; have y0 := rf_at BY3 0 _ rfl; have y1 := rf_at BY3 1 _ rfl; have y2 := rf_at BY3 2 _ rfl; have y3 := rf_at BY3 3 _ rfl; have HB3 := Lib.hid (HB.out.trans (hb2.mono HB.out.size)); have HS3 := Lib.hid (Nat.le_trans HS.out hb2.size); have HJ3 := Lib.hid (HJa.out _ _ w2 none HJ.out (gb_of_below hb2 none) (fun r e => by cases e)); clear hb2 BY3 q1 q2 q3 q4 q5 q6; rw [← Hs2.out] at HJ3)
            refine ⟨fun f hf => (by cases hf), ?_⟩
            gi_wp2
            go_roundw
            case rel => exact ⟨i + 1, by omega, by go_num, BL3.out, BA3.out, BN3.out, BR3.out, HB3.out, HS3.out, HJ3.out⟩
            case measure => simp [intOf]; omega
          | true =>
            have ht : tells r name false ⟨nm, salt, x, b⟩ = true := by rw [tells, hfit]; rw [Hnm.out]; rfl
            have Hs2 := Lib.hid (show selS r name false (ls.take (i + 1)) = selS r name false (ls.take i) ++ [⟨⟨nm, salt, x, b⟩, ht⟩] by rw [Hsn.out, dif_pos ht])
            have HLn := Lib.hid (show (selS r name false (ls.take i)).length < (selS r name false ls).length by
              have h1 := Hpre.out.length_le
              rw [Hs2.out, List.length_append] at h1
              simp at h1
              omega)
            have HFv := Lib.hid hfit
            clear hfit Hsn
            gi_wp2_with (refine ⟨trivial, ?_⟩; gi_at_call 23; refine (callsIn_wide.2 (HF.out _ (HV.out.below HB.out) (HR.out.below HB.out))).mono ?_; rintro e w2 ⟨rfl, hb2⟩; rw [HFv.out]; have BL3 := Lib.hid (cells_below BL2.out hb2); have BA3 := Lib.hid (cells_below BA2.out hb2); have BN3 := Lib.hid (cells_below BN2.out hb2); have BR3 := Lib.hid (cells_below BR2.out hb2); have BY3 := cells_below BY.out hb2; have y0 := rf_at BY3 0 _ rfl; have y1 := rf_at BY3 1 _ rfl; have y2 := rf_at BY3 2 _ rfl; have y3 := rf_at BY3 3 _ rfl; have HB3 := Lib.hid (HB.out.trans (hb2.mono HB.out.size)); have HS3 := Lib.hid (Nat.le_trans HS.out hb2.size); have HJ3 := Lib.hid (HJa.out _ _ w2 none HJ.out (gb_of_below hb2 none) (fun r e => by cases e)); clear hb2 BY3 q1 q2 q3 q4 q5 q6; obtain ⟨fn, tmps, assign, body, hy, hR⟩ := HY.out _ ⟨⟨nm, salt, x, b⟩, ht⟩ w2 HJ3.out HLn.out; simp only at hy; have HR2 := Lib.hid hR; clear hR HJ3)
            refine HR2.out.mono ?_
            rintro e W3 (⟨rfl, hJ4, hk4⟩ | ⟨rfl, hJx4⟩)
            · rw [← Hs2.out] at hJ4
              have HJ4 := Lib.hid hJ4
              have BL4 := Lib.hid ((hk4.2 BL (by simp)).trans BL3.out)
              have BA4 := Lib.hid ((hk4.2 BA (by simp)).trans BA3.out)
              have BN4 := Lib.hid ((hk4.2 BN (by simp)).trans BN3.out)
              have BR4 := Lib.hid ((hk4.2 BR (by simp)).trans BR3.out)
              have HB4 := Lib.hid (HB3.out.trans hk4.1)
              have HS4 := Lib.hid (Nat.le_trans HS3.out hk4.1.size)
              clear hJ4 hk4
              gi_wp2
              go_roundw
              case rel => exact ⟨i + 1, by omega, by go_num, BL4.out, BA4.out, BN4.out, BR4.out, HB4.out, HS4.out, HJ4.out⟩
              case measure => simp [intOf]; omega
            · have HJx4 := Lib.hid hJx4
              clear hJx4
              gi_wp2
              refine bodyPost_ret (results_none rfl _ _ _) rfl ?_
              refine ⟨⟨_, rfl⟩, .inr ⟨_, ?_, HJx4.out⟩⟩
              rw [← Hs2.out]
              exact Hpre.out
        · have d1 := text_ne' hnm
          have Ht := Lib.hid (show ¬ tells r name false ⟨nm, salt, x, b⟩ = true by rw [tells, decide_eq_false hnm]; simp)
          have Hs2 := Lib.hid (show selS r name false (ls.take (i + 1)) = selS r name false (ls.take i) by rw [Hsn.out, dif_neg Ht.out, List.append_nil])
          clear hnm Hsn
          rw [← Hs2.out] at HJ
          gi_wp2
          refine ⟨trivial, ?_⟩
          gi_wp2
          refine ⟨fun f hf => (by cases hf), ?_⟩
          gi_wp2
          go_roundw
          case rel => exact ⟨i + 1, by omega, by go_num, BL2.out, BA2.out, BN2.out, BR2.out, HB.out, HS.out, HJ.out⟩
          case measure => simp [intOf]; omega
    · obtain rfl : i = m := by omega
      have e1 : decide ((i : Int) < (i : Int)) = false := by simp
      rw [HM.out, List.take_of_length_le (Nat.le_refl _)] at hJ
      clear bL bA bN bR
      gi_wp2
      go_end0
      exact ⟨⟨_, rfl⟩, .inl ⟨_, rfl, hJ⟩⟩
theorem fitting_in (n : Nat) (v0 v1 v2 v3 : Value) (A : Option Addr) (m c : Nat) (name : ByteArray) (any : Bool) (w : World) :
    CallsIn Fence.wide n Tryz.prog 24 #[.agg #[v0, v1, v2, v3], .slice A m c, .string name, .bool any] w fun e w' => e = .returned (.func (.func 40) #[] #[.pointer (some ⟨w.heap.size + 1, 0, none⟩), .pointer (some ⟨w.heap.size + 1 + 1 + 1, 0, none⟩), .pointer (some ⟨w.heap.size + 1 + 1, 0, none⟩), .pointer (some ⟨w.heap.size, 0, none⟩)]) ∧
      w' = (((w.alloc (.cells #[v0, v1, v2, v3] 24)).alloc (.cells #[.slice A m c] 25)).alloc (.cells #[.string name] 9)).alloc (.cells #[.bool any] 4) := by
  refine callsIn_of_wp Tryz.func24 rfl trivial ?_ rfl
  simp only [Tryz.ntmps24, List.size_toArray, List.length_cons, List.length_nil, Nat.reduceAdd, Nat.reduceSub, Array.replicate_succ, Array.replicate_zero, List.push_toArray, List.append_toArray, List.nil_append, List.cons_append]
  gi_wp2
  go_ret
  exact ⟨rfl, rfl⟩
end Go.Proofs.YtifcpklaenbclaaGreatDoor
