/-
  Contracts of armour.fives and armour.Put.
-/
import Derived.Test.YtidnlginjjgmjaaDoorLetters
import Derived.Test.YtidnlginjjgmjaaDoorIter
import Derived.Test.YtidnlginjjgmjaaDoorSum
namespace Go.Proofs.YtidnlginjjgmjaaDoor
open Go.RowKit Go.Shelf
set_option linter.unusedVariables false
attribute [local go_sem] Oper.semAt_some

/-- A part: one to five bytes. -/
abbrev Five := { b : ByteArray // 1 ≤ b.size ∧ b.size ≤ 5 }
def fiveOf (l : List UInt8) (i : Nat) : Five :=
  if h : 1 ≤ ((l.drop (5 * i)).take 5).length ∧ ((l.drop (5 * i)).take 5).length ≤ 5 then ⟨bs ((l.drop (5 * i)).take 5), h⟩ else ⟨bs [0], by decide⟩
theorem fiveOf_eq {l : List UInt8} {i : Nat} (h : 5 * i < l.length) : (fiveOf l i).1 = bs ((l.drop (5 * i)).take 5) := by
  have : 1 ≤ ((l.drop (5 * i)).take 5).length ∧ ((l.drop (5 * i)).take 5).length ≤ 5 := by
    rw [List.length_take, List.length_drop]
    omega
  simp only [fiveOf, this, and_self, dif_pos]
def fivesTo (l : List UInt8) (k : Nat) : List Five := (List.range k).map (fiveOf l)
theorem fivesTo_succ (l : List UInt8) (k : Nat) : fivesTo l (k + 1) = fivesTo l k ++ [fiveOf l k] := by simp [fivesTo, List.range_succ]
theorem fivesTo_len (l : List UInt8) (k : Nat) : (fivesTo l k).length = k := by simp [fivesTo]

set_option maxRecDepth 100000 in
set_option maxHeartbeats 1000000 in
theorem fives1_in (F : Fence) (n : Nat) (hf : F.fn 48) (hro : F.round = none) (hn : 1 ≤ n) (l Bs N : Nat) (s : ByteArray) (hs : s.size ≤ 1000000) (hN : N = (s.size + 4) / 5) (J Jx : List Five → World → Prop)
    (hY : ∀ pre x W, J pre W → pre.length < N → YieldAt F (n - 1) Tryd.prog l #[.string x.1] W fun e W' =>
      (e = .returned (.bool true) ∧ J (pre ++ [x]) W' ∧ KeepB [Bs] W W') ∨ (e = .returned (.bool false) ∧ Jx (pre ++ [x]) W'))
    (W : World) (hBs : W.cell? ⟨Bs, 0, none⟩ = some (.string s)) (h0 : J [] W) :
    CallsIn F n Tryd.prog 48 #[.func (.yield l) #[] #[], .pointer (some ⟨Bs, 0, none⟩)] W fun e W' => (∃ v, e = .returned v) ∧
      ((∃ ys, ys = fivesTo s.data.toList N ∧ J ys W') ∨ (∃ pre, True ∧ Jx pre W')) := by
  have HY := Lib.hid hY
  have HN := Lib.hid hN
  clear hY hN
  refine callsIn_of_wp Tryd.func48 rfl hf ?_ hro
  simp only [Tryd.ntmps48, List.size_toArray, List.length_cons, List.length_nil, Nat.reduceAdd, Nat.reduceSub, Array.replicate_succ, Array.replicate_zero, List.push_toArray, List.append_toArray, List.nil_append, List.cons_append]
  gi_wp2
  gi_loopw [3] (fun v wr => ∃ (k : Nat), k ≤ N ∧ v = .int .i64 ((5 * k : Nat) : Int) ∧ wr.cell? ⟨Bs, 0, none⟩ = some (.string s) ∧ J (fivesTo s.data.toList k) wr) (fun v _ => 5000000 - (intOf v).toNat)
  case atStart => exact ⟨0, by omega, rfl, hBs, h0⟩
  case round =>
    obtain ⟨k, hk, rfl, hcb, hJ⟩ := hrel
    by_cases hlt : k < N
    · obtain ⟨i, hi⟩ : ∃ i, i = 5 * k := ⟨_, rfl⟩
      have hil : i < s.size := by have := HN.out; omega
      obtain ⟨hi5, hh⟩ : ∃ h, h = min (i + 5) s.size := ⟨_, rfl⟩
      have hm : min ((i : Int) + 5) (s.size : Int) = (hi5 : Int) := by omega
      have hx : (fiveOf s.data.toList k).1 = s.extract i hi5 := by
        rw [fiveOf_eq (by rw [len_data]; omega), extract_bs, ← hi, List.drop_take]
        congr 1
        apply List.take_eq_take_iff.2
        rw [List.length_drop, len_data]
        omega
      have h1 : (i : Int) ≤ (hi5 : Int) := by omega
      have h2 : (hi5 : Int) ≤ (s.size : Int) := by omega
      obtain ⟨fn, tmps, assign, body, hy, hR⟩ := HY.out _ (fiveOf s.data.toList k) wr hJ (by rw [fivesTo_len]; exact hlt)
      rw [hx] at hy
      have HR := Lib.hid hR
      have Hi := Lib.hid hi
      rw [← hi]
      clear hR hx hh hi
      gi_wp2
      refine HR.out.mono ?_
      rintro e W3 (⟨rfl, hJ3, hk3⟩ | ⟨rfl, hJx3⟩)
      · have hcb3 : W3.cell? ⟨Bs, 0, none⟩ = some (.string s) := (World.cell?_of_block (hk3 Bs (by simp))).trans hcb
        gi_wp2
        go_roundw
        case rel => exact ⟨k + 1, by omega, by rw [Hi.out]; go_num, hcb3, by rw [fivesTo_succ]; exact hJ3⟩
        case measure => have := Hi.out; simp [intOf]; omega
      · gi_wp2
        refine bodyPost_ret (results_none rfl _ _ _) rfl ?_
        exact ⟨⟨_, rfl⟩, .inr ⟨_, trivial, hJx3⟩⟩
    · obtain rfl : k = N := by omega
      have hge : ¬ (((5 * k : Nat) : Int) < (s.size : Int)) := by have := HN.out; omega
      have hge2 : ¬ (5 * k < s.size) := by have := HN.out; omega
      gi_wp2
      go_end0
      first | exact ⟨⟨_, rfl⟩, .inl hJ⟩ | exact ⟨⟨_, rfl⟩, .inl ⟨_, rfl, hJ⟩⟩

theorem fives_in (F : Fence) (n : Nat) (hf : F.fn 27) (hro : F.round = none) (s : ByteArray) (w : World) :
    CallsIn F n Tryd.prog 27 #[.string s] w fun e w' => e = .returned (.func (.func 48) #[] #[.pointer (some ⟨w.heap.size, 0, none⟩)]) ∧ w' = w.alloc (.cells #[.string s] 9) := by
  refine callsIn_of_wp Tryd.func27 rfl hf ?_ hro
  simp only [Tryd.ntmps27, List.size_toArray, List.length_cons, List.length_nil, Nat.reduceAdd, Nat.reduceSub, Array.replicate_succ, Array.replicate_zero, List.push_toArray, List.append_toArray, List.nil_append, List.cons_append]
  gi_wp2
  go_ret
  exact ⟨rfl, rfl⟩

/-- Parts, one behind the other, with a - between two. -/
def dashed (pre : List Five) : List UInt8 := pre.foldl (fun acc p => if 0 < acc.length then acc ++ [45] ++ p.1.data.toList else acc ++ p.1.data.toList) []
theorem dashed_snoc (pre : List Five) (x : Five) : dashed (pre ++ [x]) = if 0 < (dashed pre).length then dashed pre ++ [45] ++ x.1.data.toList else dashed pre ++ x.1.data.toList := by simp [dashed]
theorem dashed_len : ∀ (pre : List Five) (acc : List UInt8), (pre.foldl (fun acc p => if 0 < acc.length then acc ++ [45] ++ p.1.data.toList else acc ++ p.1.data.toList) acc).length ≤ acc.length + 6 * pre.length
  | [], acc => by simp
  | x :: pre, acc => by
    refine Nat.le_trans (dashed_len pre _) ?_
    have hx := x.2.2
    have hl := len_data x.1
    simp only [List.length_cons]
    split
    · simp only [List.length_append, List.length_cons, List.length_nil]
      omega
    · simp only [List.length_append]
      omega
/-- What is put: the letters of a text and of three bytes of its Sum, in parts of five. -/
def putL (s : List UInt8) : List UInt8 := dashed (fivesTo (lettersL (s ++ (sumL s).take 3)) (((lettersL (s ++ (sumL s).take 3)).length + 4) / 5))

theorem own_bld (B b : Nat) (f : List Five → List UInt8) : Own (fun pre W => Bld W B b (f pre)) := fun s A B' row hs hg hr => by
  refine bld_blocks hs (hg.block b (bld_lt hs).1 (fun e => ?_)) (fun g cs fz hh => hg.block g (cell_lt_of hh) (fun e => ?_))
  · obtain ⟨o, ho, hc⟩ := hr b e.symm
    have : ∃ cs t fr, A.heap[b]? = some (.cells cs t fr) := by
      rcases hs with ⟨_, v, hb, _⟩ | ⟨_, v, hb, _⟩ <;> exact ⟨_, _, _, hb⟩
    obtain ⟨cs, t, fr, h⟩ := this
    rw [h] at ho
    obtain rfl := Option.some.inj ho
    cases hc
  · obtain ⟨o, ho, hc⟩ := hr g e.symm
    rw [hh] at ho
    obtain rfl := Option.some.inj ho
    cases hc
theorem own_cellsF (b : Nat) (o : List Five → Array Value) (t : TypeId) : Own (fun pre W => W.heap[b]? = some (.cells (o pre) t (0, 0))) := fun s A B row hs hg hr => by
  refine (hg.block b (cell_lt_of hs) (fun e => ?_)).trans hs
  obtain ⟨o, ho, hc⟩ := hr b e.symm
  rw [hs] at ho
  obtain rfl := Option.some.inj ho
  cases hc
theorem bld_cells {w : World} {B b : Nat} {l : List UInt8} (h : Bld w B b l) : ∃ cs t fr, w.heap[b]? = some (.cells cs t fr) := by
  rcases h with ⟨_, v, hb, _⟩ | ⟨_, v, hb, _⟩ <;> exact ⟨_, _, _, hb⟩
theorem keepsOthers_of {W W' : World} {B b : Nat} {l : List UInt8} (h : Bld W B b l) (ho : Lib.OthersKept 5 (some b) W W') (hs : W.heap.size ≤ W'.heap.size) : KeepsOthers W W' :=
  ⟨hs, fun k o hk hc => ho k o hk (fun e => by
    obtain rfl := Option.some.inj e
    obtain ⟨cs, t, fr, hb⟩ := bld_cells h
    rw [hk] at hb
    obtain rfl := Option.some.inj hb
    cases hc) (fun c fz e => by subst e; cases hc)⟩

set_option maxRecDepth 100000 in
set_option maxHeartbeats 1000000 in
theorem put_yes (s : ByteArray) (w : World) (hR : Rounds w) (hs : s.size ≤ 200) :
    Calls Tryd.prog 19 #[.string s] w fun e w' => e = .returned (.tuple #[.string (bs (putL s.data.toList)), .int .i64 0]) ∧ Below w.heap.size w w' := by
  have HR := Lib.hid hR
  have Hsl := Lib.hid (sumL_len s.data.toList)
  clear hR
  refine (callsIn_wide (n := 3)).1 ?_
  refine callsIn_of_wp_marks Tryd.func19 rfl trivial ?_ rfl
  simp only [Tryd.ntmps19, List.size_toArray, List.length_cons, List.length_nil, Nat.reduceAdd, Nat.reduceSub, Array.replicate_succ, Array.replicate_zero, List.push_toArray, List.append_toArray, List.nil_append, List.cons_append]
  have hbs : (bs (sumL s.data.toList)).size = 32 := Hsl.out
  gi_wp2_with fail
  refine ⟨trivial, ?_⟩
  refine (callsIn_wide.2 (sum_any s _ (HR.out.below ((Below.refl _ _).alloc (Nat.le_refl _) _)) (by omega))).mono ?_
  rintro e w2 ⟨rfl, hb2⟩
  have hB2 : Bld w2 w.heap.size w.heap.size [] := bld_below (bld_new (Nat.le_refl _)) hb2
  have hW2 : Below w.heap.size w w2 := Below.chain_alloc (Below.refl _ _) hb2
  have HB := Lib.hid hB2
  have HW := Lib.hid hW2
  clear hb2 hB2 hW2
  gi_wp2_with fail
  refine ⟨trivial, ?_⟩
  have Htl := Lib.hid (show (s ++ (bs (sumL s.data.toList)).extract 0 3).data.toList = s.data.toList ++ (sumL s.data.toList).take 3 by
    rw [extract_bs]
    simp [bs])
  have hts : (s ++ (bs (sumL s.data.toList)).extract 0 3).size ≤ 1000 := by
    rw [← len_data, Htl.out, List.length_append, len_data, List.length_take]
    omega
  generalize s ++ (bs (sumL s.data.toList)).extract 0 3 = t at Htl hts ⊢
  refine (callsIn_wide.2 (letters_any t w2 (by omega))).mono ?_
  rintro e w3 ⟨rfl, hb3⟩
  replace HB := Lib.hid (bld_below HB.out hb3)
  replace HW := Lib.hid (Below.chain HW.out hb3)
  have hbw : w.heap.size < w3.heap.size := (bld_lt HB.out).1
  clear hb3
  have hll : (bs (lettersL t.data.toList)).size ≤ 10000 := by
    rw [bs_size, lettersL, List.length_map]
    have h1 := grp_length_le 5 (padded5 t.data.toList)
    have h2 : (padded5 t.data.toList).length ≤ 8 * t.data.toList.length + 5 := by
      rw [padded5, List.length_append, flat_length, List.length_replicate, byteN, List.length_map]
      omega
    rw [len_data] at h2
    rw [lettersV]
    omega
  generalize hlt : bs (lettersL t.data.toList) = ls at hll ⊢
  have Hlt := Lib.hid hlt
  clear hlt
  gi_wp2_with (refine ⟨trivial, ?_⟩; gi_at_call 27; refine (fives_in Fence.wide _ trivial rfl _ _).mono ?_; rintro e w4 ⟨rfl, rfl⟩)
  obtain ⟨Bw, hBw⟩ : ∃ B, B = w3.heap.size := ⟨_, rfl⟩
  have h5 := heap_alloc_new w3 (.cells #[.string ls] 9)
  have hB4 := bld_below HB.out ((Below.refl _ w3).alloc (Nat.le_refl _) (.cells #[.string ls] 9))
  have hW4 := HW.out.alloc HW.out.size (.cells #[.string ls] 9)
  have hsz : (w3.alloc (.cells #[.string ls] 9)).heap.size = Bw + 1 := by simp [hBw]
  simp only [← hBw] at h5 hbw ⊢
  generalize w3.alloc (.cells #[.string ls] 9) = w4 at h5 hB4 hW4 hsz ⊢
  clear hBw HB HW
  obtain ⟨N, hN⟩ : ∃ N, N = (ls.size + 4) / 5 := ⟨_, rfl⟩
  have hN1 : N ≤ 3000 := by omega
  refine wpIn_rangeFunc_ownF rfl (by omega) (gf := 48) (lb := #[.pointer (some ⟨Bw, 0, none⟩)]) rfl trivial (enters_of Tryd.func48 (by kernel_rfl) rfl)
    (encs := fun x : Five => #[.string x.1]) (Kp := KeepB [Bw]) (S := fun ys => ys = fivesTo ls.data.toList N) (Sp := fun _ => True) (N := N) (w0 := w4)
    (fun l J Jx W hW _ _ hY h0 => fives1_in Fence.wide 2 trivial rfl (by omega) l Bw N ls (by omega) hN J Jx hY W (cell_of_one (cells_below h5 hW)) h0)
    keepB_t (keepB_b (by simp [hsz])) (Below.refl _ _) (fun _ => rfl)
    (fun pre W => Bld W w.heap.size w.heap.size (dashed pre) ∧ W.heap[Bw]? = some (.cells #[.string ls] 9 (0, 0)) ∧ Below w.heap.size w W)
    (fun _ _ _ => False)
    (OwnFrom.and (Own.from (own_bld _ _ _) _) (OwnFrom.and (Own.from (own_cellsF _ (fun _ => #[.string ls]) _) _) (ownFrom_below (Nat.le_refl _) (by omega))))
    (fun _ _ _ _ _ hs _ _ => hs)
    ⟨hB4, h5, hW4⟩ ?a1 ?assign ?body ?done ?stop
  case assign =>
    intro l x W K hK
    gi_wp2
    exact hK
  case body =>
    rintro l pre x W ⟨hB, hw, hbel⟩ hlen
    have hdl : (dashed pre).length ≤ 20000 := by
      have := dashed_len pre []
      have e : (dashed pre).length ≤ 0 + 6 * pre.length := this
      omega
    have Hsn := Lib.hid (dashed_snoc pre x)
    have hxs := x.2.2
    have HB := Lib.hid hB
    have Hw := Lib.hid hw
    have hd : 1 ≤ 3 - 1 - 1 := by omega
    clear hB hw
    gi_wp2_with fail
    refine ⟨trivial, ?_⟩
    refine (CallsIn.inRound l (callsIn_wide.2 (len_l w.heap.size w.heap.size _ W HB.out))).mono ?_
    rintro e w5 ⟨rfl, rfl⟩
    generalize hdp : dashed pre = dp at HB Hsn hdl ⊢
    clear hdp
    by_cases h0 : 0 < dp.length
    · rw [if_pos h0] at Hsn
      gi_wp2_with fail
      refine ⟨trivial, ?_⟩
      refine (CallsIn.inRound l (callsIn_wide.2 (writeByte_n w.heap.size w.heap.size dp 45 (by omega) W HB.out (by omega) hbel.size))).mono ?_
      rintro e w6 ⟨rfl, hB6, hb6, hO6⟩
      have HB6 := Lib.hid hB6
      have hbel6 := hbel.trans hb6
      have hw6 := others_at hO6 Hw.out (by decide) (by omega)
      have Hk6 := Lib.hid (keepsOthers_of HB.out hO6 hb6.size)
      have Hw6 := Lib.hid hw6
      clear hB6 hO6 hw6
      gi_wp2_with fail
      refine ⟨trivial, ?_⟩
      refine (CallsIn.inRound l (callsIn_wide.2 (writeString_l w.heap.size w.heap.size _ x.1 w6 HB6.out (by simp; omega) hbel6.size))).mono ?_
      rintro e w7 ⟨rfl, hB7, hb7, hO7⟩
      have hw7 := others_at hO7 Hw6.out (by decide) (by omega)
      have hk7 := Hk6.out.trans (keepsOthers_of HB6.out hO7 hb7.size)
      have HB7 := Lib.hid hB7
      have Hw7 := Lib.hid hw7
      have Hk7 := Lib.hid hk7
      clear hB7 hO7 hw7 hk7
      gi_wp2_with fail
      refine ⟨Hk7.out, fun b hb => ?_, ?_, Hw7.out, hbel6.trans hb7⟩
      · obtain rfl : b = Bw := by simpa using hb
        rw [Hw7.out, Hw.out]
      · rw [Hsn.out]; exact HB7.out
    · rw [if_neg h0] at Hsn
      gi_wp2_with fail
      refine ⟨trivial, ?_⟩
      refine (CallsIn.inRound l (callsIn_wide.2 (writeString_l w.heap.size w.heap.size _ x.1 W HB.out (by omega) hbel.size))).mono ?_
      rintro e w7 ⟨rfl, hB7, hb7, hO7⟩
      have hw7 := others_at hO7 Hw.out (by decide) (by omega)
      have hk7 := keepsOthers_of HB.out hO7 hb7.size
      have HB7 := Lib.hid hB7
      have Hw7 := Lib.hid hw7
      have Hk7 := Lib.hid hk7
      clear hB7 hO7 hw7 hk7
      gi_wp2_with fail
      refine ⟨Hk7.out, fun b hb => ?_, ?_, Hw7.out, hbel.trans hb7⟩
      · obtain rfl : b = Bw := by simpa using hb
        rw [Hw7.out, Hw.out]
      · rw [Hsn.out]; exact HB7.out
  case done =>
    rintro D ys W hD rfl ⟨hB, hw, hbel⟩ hK
    have HB := Lib.hid hB
    have HK := Lib.hid hK
    clear hB hK hw
    gi_wp2_with fail
    refine ⟨trivial, ?_⟩
    refine (callsIn_wide.2 (string_k w.heap.size w.heap.size _ W HB.out hbel.size)).mono ?_
    rintro e w7 ⟨rfl, hb7, hO7⟩
    have HK7 := Lib.hid (hO7 D _ HK.out (by intro e; have := Option.some.inj e; omega) (fun _ _ e => by cases e))
    clear hO7
    gi_wp2_with fail
    refine ⟨by simp, .inl ⟨_, _, rfl, run_takeDeferred HK7.out, ?_⟩⟩
    refine ⟨_, results_tmp2 rfl _ _ _, ?_, (hbel.trans hb7).trans (belowK_b (w := w) (Nat.le_refl _) _ D _ _ (by omega) HK7.out rfl rfl)⟩
    have e : lettersL t.data.toList = ls.data.toList := by rw [← Hlt.out]; rfl
    rw [putL, ← Htl.out, e, len_data]
    rfl
  case stop =>
    rintro D c pre W _ _ h _
    exact h.elim
end Go.Proofs.YtidnlginjjgmjaaDoor
