/-
  The walk of the law TapeRuns' own helpers: far, do.
-/
import Derived.Test.YtkeeejkijbaooaaDoorR12b
namespace Go.Proofs.YtkeeejkijbaooaaDoor
open Go.RowKit
set_option linter.unusedVariables false
set_option maxRecDepth 100000
set_option linter.unusedSimpArgs false

/-- A step of a script. -/
structure POp where
  kind : Int
  n : Int
  name : ByteArray
def opV (o : POp) : List Value := [.int .i64 o.kind, .int .i64 o.n, .string o.name]
def opsV (l : List POp) : List Value := l.flatMap opV
theorem opsV_get : ∀ (l : List POp) (i f : Nat) (o : POp), l[i]? = some o → f < 3 → (opsV l)[i * 3 + f]? = (opV o)[f]?
  | [], i, f, o, h, _ => by simp at h
  | x :: l, 0, f, o, h, hf => by
    simp only [List.getElem?_cons_zero, Option.some.injEq] at h
    subst h
    rw [opsV, List.flatMap_cons, Nat.zero_mul, Nat.zero_add, List.getElem?_append_left (by simp [opV]; omega)]
  | x :: l, i + 1, f, o, h, hf => by
    simp only [List.getElem?_cons_succ] at h
    rw [opsV, List.flatMap_cons, List.getElem?_append_right (by simp [opV]; omega)]
    have := opsV_get l i f o h hf
    rw [← this, opsV]
    congr 1
    simp [opV]
    omega
theorem op_cells {w : World} {A : Option Addr} {l : List POp} {i : Nat} (h : Rd w A (opsV l)) (hi : i < l.length) :
    ∃ b off o, A = some ⟨b, off, none⟩ ∧ l[i]? = some o ∧ w.cell? ⟨b, off + i * 3, none⟩ = some (.int .i64 o.kind) ∧ w.cell? ⟨b, off + i * 3 + 1, none⟩ = some (.int .i64 o.n) ∧ w.cell? ⟨b, off + i * 3 + 2, none⟩ = some (.string o.name) := by
  have ho : l[i]? = some l[i] := List.getElem?_eq_getElem hi
  obtain ⟨b, off, hA, h0⟩ := h (i * 3 + 0) _ (opsV_get l i 0 _ ho (by omega))
  obtain ⟨b1, off1, hA1, h1⟩ := h (i * 3 + 1) _ (opsV_get l i 1 _ ho (by omega))
  obtain ⟨b2, off2, hA2, h2⟩ := h (i * 3 + 2) _ (opsV_get l i 2 _ ho (by omega))
  rw [hA] at hA1 hA2
  injection hA1 with hA1
  injection hA2 with hA2
  injection hA1 with e1 e2
  injection hA2 with e3 e4
  subst e1 e2 e3 e4
  exact ⟨b, off, _, hA, ho, h0, h1, h2⟩

/-- What is known between two steps. -/
structure Both (B0 : Nat) (w wr : World) (t m : Nat) (L : List UInt8) (k : Nat) : Prop where
  tape : IsTape B0 wr t L k
  ref : RTape wr m L k
  tabs : Tabs B0 wr
  below : Below B0 w wr
  t0 : B0 ≤ t
  m0 : B0 ≤ m
  ne : t ≠ m
  size : B0 ≤ wr.heap.size
theorem Both.later {B0 : Nat} {w wr w' : World} {t m : Nat} {L : List UInt8} {k : Nat} (h : Both B0 w wr t m L k) (hb : Below wr.heap.size wr w') : Both B0 w w' t m L k :=
  ⟨h.tape.below hb, h.ref.below hb, h.tabs.below hb, h.below.trans (hb.mono h.size), h.t0, h.m0, h.ne, Nat.le_trans h.size hb.size⟩
theorem notTape_ref {B0 : Nat} {w : World} {t : Nat} {cs : Array Value} {fr : Nat × Nat} (h : NotTape B0 w t) (hB : B0 ≤ t) (hh : w.heap[t]? = some (.cells cs 42 fr)) : False := by
  rcases h with h | h
  · omega
  · exact h _ _ _ (by unfold TapeTy; decide) hh
/-- Both stay while the document's tape is taken from. -/
theorem IsTape.ref {B0 : Nat} {w w' : World} {t u : Nat} {L M : List UInt8} {k m : Nat} (h : IsTape B0 w u L k) (ht : RTape w t M m) (hB : B0 ≤ t) (hne : t ≠ u) (hg : w.grownBy w' (some t)) : IsTape B0 w' u L k := by
  obtain ⟨fn, cap, hh, hs, hk⟩ := h
  obtain ⟨_, _, _, hh', _⟩ := ht
  exact ⟨fn, cap, (hg.block u (heap_lt hh) (fun e => hne (by injection e with e; exact e.symm))).trans hh, hs.keep (fun i hi hn => hg.block i hi (fun e => by injection e with e; subst e; exact notTape_ref hn hB hh')) hg.size, hk⟩
theorem Tabs.ref {B0 : Nat} {w w' : World} {t : Nat} {L : List UInt8} {k : Nat} (h : Tabs B0 w) (ht : RTape w t L k) (hB : B0 ≤ t) (hg : w.grownBy w' (some t)) : Tabs B0 w' := by
  obtain ⟨_, _, _, hh, _⟩ := ht
  exact h.kept fun i hi hn => hg.block i hi (fun e => by injection e with e; subst e; exact notTape_ref hn hB hh)
/-- Both taken from: the program's tape first, then the document's. -/
theorem Both.took {B0 : Nat} {w wr w1 w2 : World} {t m : Nat} {L : List UInt8} {k j : Nat} (h : Both B0 w wr t m L k) (h1 : IsTape B0 w1 t L (k + j)) (g1 : wr.grownBy w1 (some t)) (h2 : RTape w2 m L (k + j)) (g2 : w1.grownBy w2 (some m)) : Both B0 w w2 t m L (k + j) := by
  have hr1 := h.ref.other g1 (Ne.symm h.ne)
  have hs1 := Nat.le_trans h.size g1.size
  exact ⟨h1.ref hr1 h.m0 (Ne.symm h.ne) g2, h2, (h.tabs.tape h.tape g1).ref hr1 h.m0 g2, (h.below.trans (grownBy_below' g1 h.t0 h.size)).trans (grownBy_below' g2 h.m0 hs1), h.t0, h.m0, h.ne, Nat.le_trans hs1 g2.size⟩
def DoPost (B0 : Nat) (w : World) (e : Ending) (w' : World) : Prop :=
  ∃ t' m' L' k', e = .returned (.tuple #[.pointer (some ⟨t', 0, none⟩), .pointer (some ⟨m', 0, none⟩), .bool true]) ∧ Both B0 w w' t' m' L' k'
theorem three_cells {w : World} {t : Nat} {a b c : Value} {T : TypeId} (h : w.heap[t]? = some (.cells #[a, b, c] T (0, 0))) :
    w.cell? ⟨t, 0, none⟩ = some a ∧ w.cell? ⟨t, 1, none⟩ = some b ∧ w.cell? ⟨t, 2, none⟩ = some c := by
  refine ⟨?_, ?_, ?_⟩ <;> (unfold World.cell?; simp only [h]; rfl)
theorem gb_block {w w' : World} {t i : Nat} {o : Obj} (h : Hid (w.heap[i]? = some o)) (hg : w.grownBy w' (some t)) (hne : i ≠ t) : Hid (w'.heap[i]? = some o) :=
  Lib.hid ((hg.block i (cell_lt_of h.out) (fun e => hne (Option.some.inj e))).trans h.out)
set_option maxHeartbeats 1000000 in
theorem do_take (B0 : Nat) (w wr : World) (t m : Nat) (L : List UInt8) (k : Nat) (h : Both B0 w wr t m L k) (N : Int) (name : ByteArray) :
    Calls Tryd.prog 19 #[.pointer (some ⟨t, 0, none⟩), .pointer (some ⟨m, 0, none⟩), .agg #[.int .i64 1, .int .i64 N, .string name]] wr (DoPost B0 w) := by
  have hX := heap_alloc_new wr (.cells #[.int .i64 1, .int .i64 N, .string name] 40)
  have HA := Lib.hid (h.later ((Below.refl _ _).alloc (Nat.le_refl _) (.cells #[.int .i64 1, .int .i64 N, .string name] 40)))
  have htl := h.tape.lt
  have hml := h.ref.lt
  have HX := Lib.hid hX
  obtain ⟨hkL, hL9⟩ := h.tape.cells.2.2
  clear h hX
  by_cases h0 : N < 0
  · go_enter Tryd.func19, Tryd.ntmps19
    go_wp2_with fail
    refine (take_neg t N _ h0).mono ?_
    rintro e w1 ⟨rfl, rfl⟩
    go_wp2_with fail
    refine (rtake_neg m N _ h0).mono ?_
    rintro e w1 ⟨rfl, rfl⟩
    go_wp2_with fail
    go_ret3
    exact ⟨t, m, L, k, rfl, HA.out⟩
  · obtain ⟨n, rfl⟩ := Int.eq_ofNat_of_zero_le (show 0 ≤ N by omega)
    by_cases h1 : k + n ≤ L.length
    · go_enter Tryd.func19, Tryd.ntmps19
      go_wp2_with fail
      refine (take_any t L k n _ HA.out.tape h1).mono ?_
      rintro e w1 ⟨rfl, hT1, hG1⟩
      replace HX := gb_block HX hG1 (by omega)
      obtain ⟨x0, x1, x2⟩ := three_cells HX.out
      have HR1 := Lib.hid (HA.out.ref.other hG1 (Ne.symm HA.out.ne))
      have HT1 := Lib.hid hT1
      have HG1 := Lib.hid hG1
      clear hT1 hG1
      go_wp2_with fail
      refine (rtake m L k n _ HR1.out h1).mono ?_
      rintro e w2 ⟨rfl, hR2, hG2⟩
      have HF := Lib.hid (HA.out.took HT1.out HG1.out hR2 hG2)
      clear hR2 hG2 x0 x1 x2
      go_wp2_with fail
      go_ret3
      exact ⟨t, m, L, k + n, rfl, HF.out⟩
    · go_enter Tryd.func19, Tryd.ntmps19
      go_wp2_with fail
      refine (take_more t L k n _ HA.out.tape (by omega)).mono ?_
      rintro e w1 ⟨rfl, hb1⟩
      replace HX := hblk_below HX hb1
      replace HA := Lib.hid (HA.out.later hb1)
      obtain ⟨x0, x1, x2⟩ := three_cells HX.out
      clear hb1
      go_wp2_with fail
      refine (rtake_more m L k n _ HA.out.ref (by omega)).mono ?_
      rintro e w2 ⟨rfl, hb2⟩
      replace HA := Lib.hid (HA.out.later hb2)
      clear hb2 x0 x1 x2
      go_wp2_with fail
      go_ret3
      exact ⟨t, m, L, k, rfl, HA.out⟩
set_option maxHeartbeats 1000000 in
theorem do_number (B0 : Nat) (w wr : World) (t m : Nat) (L : List UInt8) (k : Nat) (h : Both B0 w wr t m L k) (N : Int) (name : ByteArray) :
    Calls Tryd.prog 19 #[.pointer (some ⟨t, 0, none⟩), .pointer (some ⟨m, 0, none⟩), .agg #[.int .i64 2, .int .i64 N, .string name]] wr (DoPost B0 w) := by
  have hX := heap_alloc_new wr (.cells #[.int .i64 2, .int .i64 N, .string name] 40)
  have HA := Lib.hid (h.later ((Below.refl _ _).alloc (Nat.le_refl _) (.cells #[.int .i64 2, .int .i64 N, .string name] 40)))
  have htl := h.tape.lt
  have hml := h.ref.lt
  have HX := Lib.hid hX
  obtain ⟨hkL, hL9⟩ := h.tape.cells.2.2
  clear h hX
  by_cases h0 : N < 1 ∨ 16777216 < N
  · go_enter Tryd.func19, Tryd.ntmps19
    go_wp2_with fail
    refine (number_bad t N _ h0).mono ?_
    rintro e w1 ⟨rfl, rfl⟩
    go_wp2_with fail
    refine (rnumber_bad m N _ h0).mono ?_
    rintro e w1 ⟨rfl, rfl⟩
    go_wp2_with fail
    go_ret3
    exact ⟨t, m, L, k, rfl, HA.out⟩
  · have b1 : 1 ≤ N := by omega
    have b2 : N ≤ 16777216 := by omega
    clear h0
    by_cases h1 : k + 3 ≤ L.length
    · go_enter Tryd.func19, Tryd.ntmps19
      go_wp2_with fail
      refine (number_any t L k N _ HA.out.tape h1 b1 b2).mono ?_
      rintro e w1 ⟨rfl, hT1, hG1⟩
      replace HX := gb_block HX hG1 (by omega)
      obtain ⟨x0, x1, x2⟩ := three_cells HX.out
      have HR1 := Lib.hid (HA.out.ref.other hG1 (Ne.symm HA.out.ne))
      have HT1 := Lib.hid hT1
      have HG1 := Lib.hid hG1
      clear hT1 hG1
      generalize hv : (num3 ((L.drop k).take 3) : Int) % N = v
      have Hv := Lib.hid hv
      clear hv
      go_wp2_with fail
      refine (rnumber m L k N _ HR1.out h1 b1 b2).mono ?_
      rintro e w2 ⟨rfl, hR2, hG2⟩
      rw [Hv.out]
      have HF := Lib.hid (HA.out.took HT1.out HG1.out hR2 hG2)
      clear hR2 hG2 x0 x1 x2
      go_wp2_with fail
      go_ret3
      exact ⟨t, m, L, k + 3, rfl, HF.out⟩
    · go_enter Tryd.func19, Tryd.ntmps19
      go_wp2_with fail
      refine (number_more t L k N _ HA.out.tape (by omega) b1 b2).mono ?_
      rintro e w1 ⟨rfl, hb1⟩
      replace HX := hblk_below HX hb1
      replace HA := Lib.hid (HA.out.later hb1)
      obtain ⟨x0, x1, x2⟩ := three_cells HX.out
      clear hb1
      go_wp2_with fail
      refine (rnumber_more m L k N _ HA.out.ref (by omega) b1 b2).mono ?_
      rintro e w2 ⟨rfl, hb2⟩
      replace HA := Lib.hid (HA.out.later hb2)
      clear hb2 x0 x1 x2
      go_wp2_with fail
      go_ret3
      exact ⟨t, m, L, k, rfl, HA.out⟩
set_option maxHeartbeats 1000000 in
theorem do_fork (B0 : Nat) (w wr : World) (t m : Nat) (L : List UInt8) (k : Nat) (h : Both B0 w wr t m L k) (N : Int) (name : ByteArray) (hs : name.size ≤ 100) :
    Calls Tryd.prog 19 #[.pointer (some ⟨t, 0, none⟩), .pointer (some ⟨m, 0, none⟩), .agg #[.int .i64 3, .int .i64 N, .string name]] wr (DoPost B0 w) := by
  have hX := heap_alloc_new wr (.cells #[.int .i64 3, .int .i64 N, .string name] 40)
  have HA := Lib.hid (h.later ((Below.refl _ _).alloc (Nat.le_refl _) (.cells #[.int .i64 3, .int .i64 N, .string name] 40)))
  have htl := h.tape.lt
  have hml := h.ref.lt
  have HX := Lib.hid hX
  obtain ⟨hkL, hL9⟩ := h.tape.cells.2.2
  clear h hX
  by_cases h1 : k + 32 ≤ L.length
  · go_enter Tryd.func19, Tryd.ntmps19
    go_wp2_with fail
    refine (fork_any t L k name _ HA.out.tabs HA.out.tape h1 (by omega) HA.out.size).mono ?_
    rintro e w1 ⟨u, w0, rfl, hT1, hG1, hu, hb1⟩
    replace HX := hblk_below (gb_block HX hG1 (by omega)) hb1
    obtain ⟨x0, x1, x2⟩ := three_cells HX.out
    have HR1 := Lib.hid ((HA.out.ref.other hG1 (Ne.symm HA.out.ne)).below hb1)
    have HTb := Lib.hid ((HA.out.tabs.tape HA.out.tape hG1).below hb1)
    have HT1 := Lib.hid hT1
    have HB1 := Lib.hid ((HA.out.below.trans (grownBy_below' hG1 HA.out.t0 HA.out.size)).trans (hb1.mono (Nat.le_trans HA.out.size hG1.size)))
    have hs1 : B0 ≤ w0.heap.size := Nat.le_trans HA.out.size hG1.size
    have hs2 : w0.heap.size ≤ w1.heap.size := hb1.size
    have hm1 : m < w0.heap.size := by
      have := hG1.size
      simp at this
      omega
    clear hT1 hG1 hb1
    go_wp2_with fail
    refine (rfork m L k name _ HR1.out h1 (by omega)).mono ?_
    rintro e w3 ⟨v, w2, rfl, hR3, hG2, hv, hb3⟩
    have hu1 : u < w1.heap.size := HT1.out.lt
    have hF : Both B0 w w3 u v (madeL (sumL ((L.drop k).take 32 ++ name.data.toList))) 0 :=
      ⟨(HT1.out.ref HR1.out HA.out.m0 (by omega) hG2).below hb3, hR3, (HTb.out.ref HR1.out HA.out.m0 hG2).below hb3, (HB1.out.trans (grownBy_below' hG2 HA.out.m0 (by omega))).trans (hb3.mono (by have := hG2.size; omega)), by omega, by have := hG2.size; omega, by have := hG2.size; omega, by have := hG2.size; have := hb3.size; omega⟩
    have HF := Lib.hid hF
    clear hF hR3 hG2 hb3 x0 x1 x2
    go_wp2_with fail
    go_ret3
    exact ⟨u, v, _, 0, rfl, HF.out⟩
  · go_enter Tryd.func19, Tryd.ntmps19
    go_wp2_with fail
    refine (fork_more t L k name _ HA.out.tape (by omega)).mono ?_
    rintro e w1 ⟨rfl, hb1⟩
    replace HX := hblk_below HX hb1
    replace HA := Lib.hid (HA.out.later hb1)
    obtain ⟨x0, x1, x2⟩ := three_cells HX.out
    clear hb1
    go_wp2_with fail
    refine (rfork_more m L k name _ HA.out.ref (by omega)).mono ?_
    rintro e w2 ⟨rfl, hb2⟩
    replace HA := Lib.hid (HA.out.later hb2)
    clear hb2 x0 x1 x2
    go_wp2_with fail
    go_ret3
    exact ⟨t, m, L, k, rfl, HA.out⟩
theorem do_any (B0 : Nat) (w wr : World) (t m : Nat) (L : List UInt8) (k : Nat) (h : Both B0 w wr t m L k) (kind N : Int) (name : ByteArray) (hs : name.size ≤ 100) :
    Calls Tryd.prog 19 #[.pointer (some ⟨t, 0, none⟩), .pointer (some ⟨m, 0, none⟩), .agg #[.int .i64 kind, .int .i64 N, .string name]] wr (DoPost B0 w) := by
  by_cases h1 : kind = 1
  · subst h1; exact do_take B0 w wr t m L k h N name
  · by_cases h2 : kind = 2
    · subst h2; exact do_number B0 w wr t m L k h N name
    · by_cases h3 : kind = 3
      · subst h3; exact do_fork B0 w wr t m L k h N name hs
      · have HA := Lib.hid (h.later ((Below.refl _ _).alloc (Nat.le_refl _) (.cells #[.int .i64 kind, .int .i64 N, .string name] 40)))
        have e1 : (kind == 1) = false := by simpa using h1
        have e2 : (kind == 2) = false := by simpa using h2
        have e3 : (kind == 3) = false := by simpa using h3
        clear h h1 h2 h3
        go_enter Tryd.func19, Tryd.ntmps19
        go_wp2_with fail
        go_ret3
        exact ⟨t, m, L, k, rfl, HA.out⟩
end Go.Proofs.YtkeeejkijbaooaaDoor
