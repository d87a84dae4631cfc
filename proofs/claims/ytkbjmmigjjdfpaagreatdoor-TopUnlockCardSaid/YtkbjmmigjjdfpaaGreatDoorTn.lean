/-
  Contracts of package tape: tapes of a text (Of).
  Contracts of tape.New and Fork: a made tape's bytes are the stream's blocks.
-/
import Derived.Test.YtkbjmmigjjdfpaaGreatDoorProg
import Derived.Test.YtkbjmmigjjdfpaaGreatDoorBase
import Derived.Test.YtkbjmmigjjdfpaaGreatDoorShelf
import Derived.Test.YtkbjmmigjjdfpaaGreatDoorBits
import Derived.Test.YtkbjmmigjjdfpaaGreatDoorSm
import Derived.Test.YtkbjmmigjjdfpaaGreatDoorSt
namespace Go.Proofs.YtkbjmmigjjdfpaaGreatDoor
/- TapeB -/
open Go.RowKit
set_option linter.unusedVariables false

/-- block j of bytes -/
def blockAt (L : List UInt8) (j : Nat) : List UInt8 := (L.drop (64 * j)).take 64

set_option maxHeartbeats 400000 in
theorem ofBlock_any (s : ByteArray) (j p : Nat) (w : World) (hs : s.size ≤ 100000) (hj : 64 * j < s.size) (hp : w.cell? ⟨p, 0, none⟩ = some (.string s)) :
    Calls Tryz.prog 116 #[.int .i64 j, .pointer (some ⟨p, 0, none⟩)] w fun e w' => e = .returned (.string (bs (blockAt s.data.toList j))) ∧ w = w' := by
  obtain ⟨hi, hhi⟩ : ∃ hi, hi = min (64 * j + 64) s.size := ⟨_, rfl⟩
  have H1 := Lib.hid (show s.extract (64 * j) hi = bs (blockAt s.data.toList j) by
    have hl := len_data s
    rw [extract_bs, blockAt, List.drop_take]
    congr 1
    apply List.take_eq_take_iff.2
    rw [List.length_drop, hl]
    omega)
  have h1 : (64 : Int) * (j : Int) ≤ (hi : Int) := by omega
  have h2 : (hi : Int) ≤ (s.size : Int) := by omega
  have h3 : (0 : Int) ≤ 64 * (j : Int) := by omega
  have h4 : min ((64 : Int) * (j : Int) + 64) (s.size : Int) = (hi : Int) := by omega
  clear hhi
  go_enter Tryz.func116, Tryz.ntmps116
  go_wp2
  go_ret
  exact ⟨congrArg (fun x => Ending.returned (.string x)) H1.out, rfl⟩

/-- The types of tapes (the program's, and the document's). -/
def TapeTy (t : TypeId) : Prop := t = 134
theorem tapeTy : TapeTy 134 := by unfold TapeTy; decide
theorem tapeTy_string : ¬ TapeTy 9 := by unfold TapeTy; decide
/-- Block i is no tape: it lay there at first (below B0), or it is something else. -/
def NotTape (B0 : Nat) (w : World) (i : Nat) : Prop := i < B0 ∨ ∀ cs ty fr, TapeTy ty → w.heap[i]? ≠ some (.cells cs ty fr)
/-- A function value that serves the blocks of L, whatever becomes of tapes and of what is new. -/
def Serves (B0 : Nat) (w0 : World) (fn : FuncId) (cap : Array Value) (L : List UInt8) : Prop :=
  ∀ W : World, (∀ i, i < w0.heap.size → NotTape B0 w0 i → W.heap[i]? = w0.heap[i]?) → w0.heap.size ≤ W.heap.size → ∀ j : Nat, 64 * j < L.length →
    Calls Tryz.prog fn (#[.int .i64 j] ++ cap) W fun e W' => e = .returned (.string (bs (blockAt L j))) ∧ Below W.heap.size W W'

/-- Block t is a tape of the bytes L of which k are taken. -/
def IsTape (B0 : Nat) (w : World) (t : Nat) (L : List UInt8) (k : Nat) : Prop :=
  ∃ fn cap, w.heap[t]? = some (.cells #[.int .i64 L.length, .int .i64 k, .func (.func fn) #[] cap] 134 (0, 0)) ∧ Serves B0 w fn cap L ∧ k ≤ L.length ∧ L.length ≤ 100000 ∧ (∀ args W, (callFunc fn args).run Tryz.prog W = .ok (.enter fn args) W) ∧ B0 ≤ t

/-- The same, the function and what it captured told. -/
def TapeF (B0 : Nat) (w : World) (t : Nat) (L : List UInt8) (k : Nat) (fn : FuncId) (cap : Array Value) : Prop :=
  w.heap[t]? = some (.cells #[.int .i64 L.length, .int .i64 k, .func (.func fn) #[] cap] 134 (0, 0)) ∧ Serves B0 w fn cap L ∧ k ≤ L.length ∧ L.length ≤ 100000 ∧ (∀ args W, (callFunc fn args).run Tryz.prog W = .ok (.enter fn args) W) ∧ B0 ≤ t
theorem TapeF.is {B0 : Nat} {w : World} {t : Nat} {L : List UInt8} {k : Nat} {fn : FuncId} {cap : Array Value} (h : TapeF B0 w t L k fn cap) : IsTape B0 w t L k := ⟨fn, cap, h⟩

theorem notTape_ne {B0 : Nat} {w : World} {t : Nat} {cs : Array Value} {fr : Nat × Nat} (h : NotTape B0 w t) (hB : B0 ≤ t) (hh : w.heap[t]? = some (.cells cs 134 fr)) : False := by
  rcases h with h | h
  · omega
  · exact h _ _ _ tapeTy hh

theorem Serves.keep {B0 : Nat} {w w' : World} {fn : FuncId} {cap : Array Value} {L : List UInt8} (h : Serves B0 w fn cap L) (hk : ∀ i, i < w.heap.size → NotTape B0 w i → w'.heap[i]? = w.heap[i]?) (hs : w.heap.size ≤ w'.heap.size) : Serves B0 w' fn cap L :=
  fun W hW hz j hj => h W (fun i hi hne => (hW i (by omega) (hne.imp id fun hne cs ty fr hty e => hne cs ty fr hty ((hk i hi (.inr hne)).symm.trans e))).trans (hk i hi hne)) (by omega) j hj

theorem heap_lt {w : World} {t : Nat} {o : Obj} (h : w.heap[t]? = some o) : t < w.heap.size := by
  rcases Nat.lt_or_ge t w.heap.size with hlt | hge
  · exact hlt
  · rw [Array.getElem?_eq_none hge] at h; cases h

theorem IsTape.below {B0 : Nat} {w w' : World} {t : Nat} {L : List UInt8} {k : Nat} (h : IsTape B0 w t L k) (hb : Below w.heap.size w w') : IsTape B0 w' t L k := by
  obtain ⟨fn, cap, hh, hs, hk⟩ := h
  exact ⟨fn, cap, (hb.block t (heap_lt hh)).trans hh, hs.keep (fun i hi _ => hb.block i hi) hb.size, hk⟩
theorem TapeF.below {B0 : Nat} {w w' : World} {t : Nat} {L : List UInt8} {k : Nat} {fn : FuncId} {cap : Array Value} (h : TapeF B0 w t L k fn cap) (hb : Below w.heap.size w w') : TapeF B0 w' t L k fn cap := by
  obtain ⟨hh, hs, hk⟩ := h
  exact ⟨(hb.block t (heap_lt hh)).trans hh, hs.keep (fun i hi _ => hb.block i hi) hb.size, hk⟩
/-- A tape, from a world further back: only it, and what is newer, has changed. -/
theorem TapeF.re {B0 : Nat} {w w' : World} {t : Nat} {L : List UInt8} {k k' : Nat} {fn : FuncId} {cap : Array Value} (h : TapeF B0 w t L k fn cap) (hw : ∀ i, i < w.heap.size → i ≠ t → w'.heap[i]? = w.heap[i]?) (ht : w'.heap[t]? = some (.cells #[.int .i64 L.length, .int .i64 k', .func (.func fn) #[] cap] 134 (0, 0))) (hs : w.heap.size ≤ w'.heap.size) (hk : k' ≤ L.length) : TapeF B0 w' t L k' fn cap := by
  obtain ⟨hh, h2, _, h4, h5, h6⟩ := h
  exact ⟨ht, h2.keep (fun i hi hn => hw i hi (fun e => by subst e; exact notTape_ne hn h6 hh)) hs, hk, h4, h5, h6⟩
/-- A tape stays while another one is taken from. -/
theorem IsTape.other {B0 : Nat} {w w' : World} {t u : Nat} {L M : List UInt8} {k m : Nat} (h : IsTape B0 w u L k) (ht : IsTape B0 w t M m) (hne : t ≠ u) (hg : w.grownBy w' (some t)) : IsTape B0 w' u L k := by
  obtain ⟨fn, cap, hh, hs, hk⟩ := h
  obtain ⟨fn', cap', hh', _, _, _, _, hB⟩ := ht
  exact ⟨fn, cap, (hg.block u (heap_lt hh) (fun e => hne (by injection e with e; exact e.symm))).trans hh, hs.keep (fun i hi hn => hg.block i hi (fun e => by injection e with e; subst e; exact notTape_ne hn hB hh')) hg.size, hk⟩

def OfPost (B0 : Nat) (L : List UInt8) (w : World) (e : Ending) (w' : World) : Prop :=
  ∃ t, e = .returned (.pointer (some ⟨t, 0, none⟩)) ∧ w.heap.size ≤ t ∧ IsTape B0 w' t L 0 ∧ Below w.heap.size w w'

set_option maxHeartbeats 400000 in
theorem of_any (B0 : Nat) (s : ByteArray) (w : World) (hs : s.size ≤ 100000) (hB0 : B0 ≤ w.heap.size) :
    Calls Tryz.prog 70 #[.string s] w (OfPost B0 s.data.toList w) := by
  go_enter Tryz.func70, Tryz.ntmps70
  go_wp2
  go_ret
  have hsz : ((w.alloc (Obj.cells #[Value.string s] 9)).alloc (Obj.cells #[Value.int IntKind.i64 s.size, Value.int IntKind.i64 0, Value.func (Fn.func 116) #[] #[Value.pointer (some ⟨w.heap.size, 0, none⟩)]] 134)).heap.size = w.heap.size + 2 := by simp
  refine ⟨w.heap.size + 1, rfl, by omega, ⟨116, #[Value.pointer (some ⟨w.heap.size, 0, none⟩)], ?_, ?_, Nat.zero_le _, hs, enters_of Tryz.func116 (by kernel_rfl) rfl, by omega⟩, ((Below.refl _ _).alloc (Nat.le_refl _) _).alloc (by simp) _⟩
  · have h := heap_alloc_new (w.alloc (Obj.cells #[Value.string s] 9)) (Obj.cells #[Value.int IntKind.i64 s.size, Value.int IntKind.i64 0, Value.func (Fn.func 116) #[] #[Value.pointer (some ⟨w.heap.size, 0, none⟩)]] 134)
    rw [show (w.alloc (Obj.cells #[Value.string s] 9)).heap.size = w.heap.size + 1 by simp] at h
    exact h
  · intro W hW hz j hj
    refine (ofBlock_any s j w.heap.size W hs hj ?_).mono fun e w' h => ⟨h.1, below_of_eq h.2⟩
    have h2 : (w.alloc (Obj.cells #[Value.string s] 9)).heap[w.heap.size]? = some (Obj.cells #[Value.string s] 9 (0, 0)) := heap_alloc_new w _
    have h3 : ((w.alloc (Obj.cells #[Value.string s] 9)).alloc (Obj.cells #[Value.int IntKind.i64 s.size, Value.int IntKind.i64 0, Value.func (Fn.func 116) #[] #[Value.pointer (some ⟨w.heap.size, 0, none⟩)]] 134)).heap[w.heap.size]? = some (Obj.cells #[Value.string s] 9 (0, 0)) := (Below.heap_alloc _ _ _ (by simp)).trans h2
    have h1 := (hW w.heap.size (by omega) (.inr fun cs ty fr hty e => by rw [h3] at e; simp at e; rw [← e.2.1] at hty; exact tapeTy_string hty)).trans h3
    unfold World.cell?
    simp only [h1]
    rfl

theorem tape_cells {w : World} {t : Nat} {n k : Int} {f : Value} {T : TypeId} (h : w.heap[t]? = some (.cells #[.int .i64 n, .int .i64 k, f] T (0, 0))) :
    w.cell? ⟨t, 0, none⟩ = some (.int .i64 n) ∧ w.cell? ⟨t, 1, none⟩ = some (.int .i64 k) ∧ w.cell? ⟨t, 2, none⟩ = some f ∧ w.frozen? ⟨t, 1, none⟩ = false := by
  refine ⟨?_, ?_, ?_, ?_⟩
  · unfold World.cell?; simp only [h]; rfl
  · unfold World.cell?; simp only [h]; rfl
  · unfold World.cell?; simp only [h]; rfl
  · unfold World.frozen?; simp only [h]; rfl

set_option maxHeartbeats 400000 in
theorem left_any (t : Nat) (n k : Int) (w : World) (h0 : w.cell? ⟨t, 0, none⟩ = some (.int .i64 n)) (h1 : w.cell? ⟨t, 1, none⟩ = some (.int .i64 k)) (hk : 0 ≤ k) (hkn : k ≤ n) (hn : n ≤ 100000) :
    Calls Tryz.prog 72 #[.pointer (some ⟨t, 0, none⟩)] w fun e w' => e = .returned (.int .i64 (n - k)) ∧ Below w.heap.size w w' := by
  have hw : IntKind.i64.wrap (n - k) = n - k := IntWalk.i64_in _ (by omega)
  go_enter Tryz.func72, Tryz.ntmps72
  go_wp2_with fail
  go_quiet (fail)
  go_wp2_with fail
  go_ret
  exact ⟨rfl, below_drewN (Below.refl _ _) _⟩

/-- The next part that draw takes: what is left of a block, at most m bytes. -/
def partAt (L : List UInt8) (k m : Nat) : List UInt8 := ((blockAt L (k / 64)).drop (k % 64)).take m
theorem partAt_len (L : List UInt8) (k m : Nat) (hk : k < L.length) : (partAt L k m).length = min m (min (64 - k % 64) (L.length - k)) := by
  simp [partAt, blockAt]; omega
theorem partAt_eq (L : List UInt8) (k m : Nat) : partAt L k m = (L.drop k).take (min m (64 - k % 64)) := by
  unfold partAt blockAt
  rw [List.drop_take, List.drop_drop, List.take_take, show 64 * (k / 64) + k % 64 = k by omega]
theorem part_step (L : List UInt8) (k m n : Nat) (hk : k + m < L.length) (hm : m < n) (hn : k + n ≤ L.length) :
    (L.drop k).take m ++ partAt L (k + m) (n - m) = (L.drop k).take (m + (partAt L (k + m) (n - m)).length) := by
  rw [partAt_len _ _ _ hk, partAt_eq, List.take_add, List.drop_drop]
  congr 1
  apply List.take_eq_take_iff.2
  simp

def DrawPost (B0 t : Nat) (L : List UInt8) (k n : Nat) (w : World) (e : Ending) (w' : World) : Prop :=
  e = .returned (.string (bs ((L.drop k).take n))) ∧ IsTape B0 w' t L (k + n) ∧ w.grownBy w' (some t)

theorem ownsRow_of_blocks {w w' : World} {B : Nat} {e : TypeId} {size n : Nat} {v : Value} {xs : List Value} (h : w.ownsRow B e size v n xs) (hk : ∀ g, B ≤ g → g < w.heap.size → w'.heap[g]? = w.heap[g]?) : w'.ownsRow B e size v n xs := by
  obtain ⟨h1, h2⟩ := h
  refine ⟨h1, ?_⟩
  rcases h2 with h2 | ⟨g, cap, cur, hv, hg, hh, r⟩
  · exact .inl h2
  · have hlt : g < w.heap.size := by
      rcases Nat.lt_or_ge g w.heap.size with hlt | hge
      · exact hlt
      · rw [Array.getElem?_eq_none hge] at hh; cases hh
    exact .inr ⟨g, cap, cur, hv, hg, (hk g hg hlt).trans hh, r⟩
theorem isBuilder_of_blocks {w w' : World} {T e : TypeId} {B b : Nat} {xs : List Value} (h : Lib.IsBuilder T e B b xs w) (hk : ∀ g, B ≤ g → g < w.heap.size → w'.heap[g]? = w.heap[g]?) : Lib.IsBuilder T e B b xs w' := by
  have key : ∀ p, Lib.BuilderAt T e B b p xs w → Lib.BuilderAt T e B b p xs w' := by
    rintro p ⟨hB, v, hb, hown, hne⟩
    have hlt : b < w.heap.size := by
      rcases Nat.lt_or_ge b w.heap.size with hlt | hge
      · exact hlt
      · rw [Array.getElem?_eq_none hge] at hb; cases hb
    exact ⟨hB, v, (hk b hB hlt).trans hb, ownsRow_of_blocks hown hk, hne⟩
  rcases h with h | h
  · exact .inl (key _ h)
  · exact .inr (key _ h)

theorem part_text (L : List UInt8) (q rr r : Nat) (h : rr ≤ (blockAt L q).length) :
    ((bs (blockAt L q)).extract rr (bs (blockAt L q)).size).extract 0 (min (r : Int) (((bs (blockAt L q)).size - rr : Nat) : Int)).toNat = bs (((blockAt L q).drop rr).take r) := by
  rw [extract_bs, extract_bs, bs_data, bs_data, bs_size, List.drop_zero, List.take_of_length_le (Nat.le_refl (blockAt L q).length)]
  congr 1
  apply List.take_eq_take_iff.2
  rw [List.length_drop]
  omega

set_option maxHeartbeats 1000000 in
theorem draw_f {B0 : Nat} (t : Nat) (L : List UInt8) (k n : Nat) (fn : FuncId) (cap : Array Value) (w : World) (h : TapeF B0 w t L k fn cap) (hn : k + n ≤ L.length) :
    Calls Tryz.prog 73 #[.pointer (some ⟨t, 0, none⟩), .int .i64 n] w fun e w' => e = .returned (.string (bs ((L.drop k).take n))) ∧ TapeF B0 w' t L (k + n) fn cap ∧ w.grownBy w' (some t) := by
  obtain ⟨hh, hs, hk, hL, hent, hB0⟩ := h
  have ht : t < w.heap.size := by
    rcases Nat.lt_or_ge t w.heap.size with hlt | hge
    · exact hlt
    · rw [Array.getElem?_eq_none hge] at hh; cases hh
  have HH := Lib.hid hh
  have HS := Lib.hid hs
  clear hh hs
  go_enter Tryz.func73, Tryz.ntmps73
  go_wp2_with fail
  refine (grow_b w.heap.size w.heap.size n _ (Nat.le_refl _) (heap_alloc_new w _) (by simp) (by omega)).mono ?_
  rintro e w1 ⟨rfl, hb1, hl1⟩
  have HB := Lib.hid hb1
  have HL1 := Lib.hid hl1
  clear hb1 hl1
  go_wp2_with fail
  go_loopw [1, 6] (fun r _ wr => ∃ m r' : Nat, m + r' = n ∧ r = .int .i64 r' ∧ Lib.IsBuilder 184 5 w.heap.size w.heap.size (Lib.byteCells ((L.drop k).take m)) wr ∧
      wr.heap[t]? = some (.cells #[.int .i64 L.length, .int .i64 (k + m : Nat), .func (.func fn) #[] cap] 134 (0, 0)) ∧ w.grownBy wr (some t)) (fun r _ _ => (intOf r).toNat)
  case atStart =>
    refine ⟨0, n, Nat.zero_add _, rfl, .inr HB.out, ?_, ?_⟩
    · exact (HL1.out.block t ht).trans ((Below.heap_alloc _ _ _ ht).trans HH.out)
    · have hb := Below.trans ((Below.refl w.heap.size w).alloc (Nat.le_refl _) _) HL1.out
      exact ⟨hb.os, hb.tape, hb.output, hb.size, fun i hi _ => hb.block i hi⟩
  case round =>
    obtain ⟨m, r, hmr, rfl, hB, hT, hG⟩ := hrel
    by_cases hr : 0 < r
    · obtain ⟨km, hkm⟩ : ∃ km, km = k + m := ⟨_, rfl⟩
      obtain ⟨q, hq⟩ : ∃ q, q = km / 64 := ⟨_, rfl⟩
      obtain ⟨rr, hrr⟩ : ∃ rr, rr = km % 64 := ⟨_, rfl⟩
      have hlt : km < L.length := by omega
      have hrb : r ≤ 100000 := by omega
      rw [← hkm] at hT
      obtain ⟨d0, d1, d2, d3⟩ := tape_cells hT
      have c1 : ∀ y : Later wr, y.x.cell? ⟨t, 1, none⟩ = some (.int .i64 (km : Nat)) := fun y => y.cell d1
      have c2 : ∀ y : Later wr, y.x.cell? ⟨t, 2, none⟩ = some (.func (.func fn) #[] cap) := fun y => y.cell d2
      have hw1 : IntKind.i64.wrap ((km : Int) / 64) = (q : Int) := by rw [IntWalk.i64_in _ (by omega)]; omega
      have hw2 : (km : Int).tmod 64 = (rr : Int) := by rw [Int.tmod_eq_emod_of_nonneg (by omega)]; omega
      obtain ⟨s1, hs1⟩ : ∃ s1, s1 = bs (blockAt L q) := ⟨_, rfl⟩
      have hsz : s1.size = min 64 (L.length - 64 * q) := by rw [hs1, bs_size]; simp [blockAt]
      have hcall : ∀ y : Later wr, Calls Tryz.prog fn (#[.int .i64 q] ++ cap) y.x fun e w' => e = .returned (.string s1) ∧ ∃ z : Later wr, w' = z.x := fun y => by
        refine later_call ?_
        rw [hs1]
        refine HS.out y.x (fun i hi hne => ?_) ?_ q (by omega)
        · have hb := y.ok
          exact (hb.block i (Nat.lt_of_lt_of_le hi hG.size)).trans (hG.block i hi (fun e => by injection e with e; subst e; exact notTape_ne hne hB0 HH.out))
        · exact Nat.le_trans hG.size y.ok.size
      have h1 : (rr : Int) ≤ (s1.size : Int) := by omega
      have HC := Lib.hid hcall
      have HHB := Lib.hid hB
      have HT := Lib.hid hT
      have HG := Lib.hid hG
      have Hkm := Lib.hid hkm
      have Hq := Lib.hid hq
      have Hrr := Lib.hid hrr
      have Hs1 := Lib.hid hs1
      have Hsz := Lib.hid hsz
      have Hmr := Lib.hid hmr
      clear hcall hB hT hG hkm hq hrr hs1 hsz hmr d0 d1 d2
      go_wp2_with fail
      refine wp_region_later (by kernel_rfl) (by kernel_rfl) ?_
      repeat (go_big_quiet_step (exact HC.out _))
      refine wpQuiet_nil ?_
      rintro _ ⟨y, rfl⟩
      go_wp2_with fail
      have hp : (s1.extract rr s1.size).extract 0 (min (r : Int) ((s1.size - rr : Nat) : Int)).toNat = bs (partAt L km r) := by
        have h2 := Hsz.out
        have h3 := Hs1.out
        rw [h3] at h2 ⊢
        rw [bs_size] at h2
        rw [part_text L q rr r (by have := Hq.out; have := Hrr.out; omega), partAt, Hq.out, Hrr.out]
      rw [hp]
      have hpl := partAt_len L km r hlt
      have Hst := Lib.hid (part_step L k m n (by have := Hkm.out; omega) (by have := Hmr.out; omega) hn)
      have hnm : n - m = r := by have := Hmr.out; omega
      rw [hnm, ← Hkm.out] at Hst
      obtain ⟨pt, hpt⟩ : ∃ pt, pt = partAt L km r := ⟨_, rfl⟩
      rw [← hpt] at hpl Hst ⊢
      have hbsz : (bs pt).size = pt.length := rfl
      have Hrr' := Hrr.out
      have hp1 : 1 ≤ pt.length := by omega
      have hpr : pt.length ≤ r := by omega
      have hpk : km + pt.length ≤ L.length := by omega
      have Hbs := Lib.hid hbsz
      have hz1 : (bs pt).size ≤ r := by omega
      have hz2 : km + (bs pt).size ≤ L.length := by omega
      clear hp hpl hnm hpt hbsz Hrr'
      have hyz := y.ok.size
      refine (writeString_b w.heap.size w.heap.size _ (bs pt) _ (isBuilder_of_blocks HHB.out (fun g _ hg => y.ok.block g hg)) (by
        have := Hmr.out; rw [Lib.byteCells_length, Hbs.out, List.length_take]; omega) (by have := HG.out.size; omega)).mono ?_
      rintro e w2 ⟨rfl, hB2, hL2⟩
      have hT2 : w2.heap[t]? = some (.cells #[.int .i64 L.length, .int .i64 (km : Nat), .func (.func fn) #[] cap] 134 (0, 0)) :=
        (hL2.block t ht).trans ((y.ok.block t (by have := HG.out.size; omega)).trans HT.out)
      obtain ⟨e0, e1, e2, e3⟩ := tape_cells hT2
      have HB2 := Lib.hid hB2
      have HL2 := Lib.hid hL2
      have HT2 := Lib.hid hT2
      rw [Hbs.out]
      clear hB2 hL2 hT2 e0 e2 c1 c2 d3
      go_wp2_with fail
      refine ⟨⟨m + pt.length, r - pt.length, by have := Hmr.out; omega, ?_, ?_, ?_, ?_⟩, ?_⟩
      · rw [Hbs.out]; go_num
      · rw [← Hst.out, Lib.byteCells_append]
        refine isBuilder_of_blocks (.inr HB2.out) (fun g hg _ => Below.heap_setCell _ _ _ _ (by simp only; omega))
      · have : (km : Int) + ((bs pt).size : Int) = ((k + (m + pt.length) : Nat) : Int) := by rw [Hbs.out, Hkm.out]; omega
        rw [this]
        have h := HT2.out
        simp [World.setCell, Array.getElem?_modify, h]
      · have h1 := HG.out
        have h2 := y.ok
        have h3 := HL2.out
        refine ⟨h3.os.trans (h2.os.trans h1.os), h3.tape.trans (h2.tape.trans h1.tape), h3.output.trans (h2.output.trans h1.output), ?_, fun i hi hne => ?_⟩
        · have e1 := h1.size
          have e2 := h2.size
          have e3 := h3.size
          simp [World.setCell]
          omega
        · rw [Below.heap_setCell _ _ _ _ (by simp only; exact fun e => hne (by rw [e])), h3.block i hi, h2.block i (Nat.lt_of_lt_of_le hi h1.size), h1.block i hi hne]
      · have := Hbs.out; simp [intOf]; omega
    · have hr0 : r = 0 := by omega
      subst hr0
      have HHB := Lib.hid hB
      have HT := Lib.hid hT
      have HG := Lib.hid hG
      have Hmr := Lib.hid hmr
      clear hB hT hG hmr
      go_wp2_with fail
      refine (string_b w.heap.size w.heap.size _ _ HHB.out HG.out.size).mono ?_
      rintro e w2 ⟨rfl, hL2⟩
      have HL2 := Lib.hid hL2
      clear hL2
      go_wp2_with fail
      go_ret
      obtain rfl : m = n := by have := Hmr.out; omega
      refine ⟨rfl, ⟨(HL2.out.block t ht).trans HT.out, ?_, hn, hL, hent, hB0⟩, ?_⟩
      · exact HS.out.keep (fun i hi hne => (HL2.out.block i hi).trans (HG.out.block i hi (fun e => by injection e with e; subst e; exact notTape_ne hne hB0 HH.out))) (Nat.le_trans HG.out.size HL2.out.size)
      · have h1 := HG.out
        have h3 := HL2.out
        exact ⟨h3.os.trans h1.os, h3.tape.trans h1.tape, h3.output.trans h1.output, Nat.le_trans h1.size h3.size, fun i hi hne => (h3.block i hi).trans (h1.block i hi hne)⟩

theorem draw_any {B0 : Nat} (t : Nat) (L : List UInt8) (k n : Nat) (w : World) (h : IsTape B0 w t L k) (hn : k + n ≤ L.length) :
    Calls Tryz.prog 73 #[.pointer (some ⟨t, 0, none⟩), .int .i64 n] w (DrawPost B0 t L k n w) := by
  obtain ⟨fn, cap, h⟩ := h
  exact (draw_f t L k n fn cap w h hn).mono fun e w' ⟨a, b, c⟩ => ⟨a, ⟨fn, cap, b⟩, c⟩
def TakePost (B0 t : Nat) (L : List UInt8) (k n : Nat) (w : World) (e : Ending) (w' : World) : Prop :=
  e = .returned (.tuple #[.string (bs ((L.drop k).take n)), .int .i64 0]) ∧ IsTape B0 w' t L (k + n) ∧ w.grownBy w' (some t)

theorem IsTape.cells {B0 : Nat} {w : World} {t : Nat} {L : List UInt8} {k : Nat} (h : IsTape B0 w t L k) : w.cell? ⟨t, 0, none⟩ = some (.int .i64 L.length) ∧ w.cell? ⟨t, 1, none⟩ = some (.int .i64 k) ∧ k ≤ L.length ∧ L.length ≤ 100000 := by
  obtain ⟨fn, cap, hh, hs, hk, hL, hent, hB0⟩ := h
  obtain ⟨a, b, _⟩ := tape_cells hh
  exact ⟨a, b, hk, hL⟩

set_option maxHeartbeats 400000 in
theorem take_f {B0 : Nat} (t : Nat) (L : List UInt8) (k n : Nat) (fn : FuncId) (cap : Array Value) (w : World) (h : TapeF B0 w t L k fn cap) (hn : k + n ≤ L.length) :
    Calls Tryz.prog 36 #[.pointer (some ⟨t, 0, none⟩), .int .i64 n] w fun e w' => e = .returned (.tuple #[.string (bs ((L.drop k).take n)), .int .i64 0]) ∧ TapeF B0 w' t L (k + n) fn cap ∧ w.grownBy w' (some t) := by
  obtain ⟨c0, c1, hk, hL⟩ := h.is.cells
  have H := Lib.hid h
  clear h
  go_enter Tryz.func36, Tryz.ntmps36
  go_wp2_with fail
  refine (left_any t L.length k w c0 c1 (by omega) (by omega) (by omega)).mono ?_
  rintro e w1 ⟨rfl, hb1⟩
  have HB := Lib.hid hb1
  clear hb1 c0 c1
  go_wp2_with fail
  refine (draw_f t L k n fn cap w1 (H.out.below HB.out) hn).mono ?_
  rintro e w2 ⟨rfl, hT, hG⟩
  have HT := Lib.hid hT
  have HG := Lib.hid hG
  clear hT hG
  go_wp2_with fail
  go_ret2
  refine ⟨rfl, HT.out, ?_⟩
  have h1 := HB.out
  have h2 := HG.out
  exact ⟨h2.os.trans h1.os, h2.tape.trans h1.tape, h2.output.trans h1.output, Nat.le_trans h1.size h2.size, fun i hi hne => (h2.block i (Nat.lt_of_lt_of_le hi h1.size) hne).trans (h1.block i hi)⟩
theorem take_any {B0 : Nat} (t : Nat) (L : List UInt8) (k n : Nat) (w : World) (h : IsTape B0 w t L k) (hn : k + n ≤ L.length) :
    Calls Tryz.prog 36 #[.pointer (some ⟨t, 0, none⟩), .int .i64 n] w (TakePost B0 t L k n w) := by
  obtain ⟨fn, cap, h⟩ := h
  exact (take_f t L k n fn cap w h hn).mono fun e w' ⟨a, b, c⟩ => ⟨a, ⟨fn, cap, b⟩, c⟩
set_option maxHeartbeats 400000 in
theorem take_neg (t : Nat) (n : Int) (w : World) (hn : n < 0) :
    Calls Tryz.prog 36 #[.pointer (some ⟨t, 0, none⟩), .int .i64 n] w fun e w' => e = .returned (.tuple #[.string (bs []), .int .i64 1]) ∧ w = w' := by
  go_enter Tryz.func36, Tryz.ntmps36
  go_wp2_with fail
  go_ret2
  exact ⟨rfl, rfl⟩
set_option maxHeartbeats 400000 in
theorem take_more {B0 : Nat} (t : Nat) (L : List UInt8) (k : Nat) (n : Int) (w : World) (h : IsTape B0 w t L k) (hn : (L.length : Int) - k < n) :
    Calls Tryz.prog 36 #[.pointer (some ⟨t, 0, none⟩), .int .i64 n] w fun e w' => e = .returned (.tuple #[.string (bs []), .int .i64 120]) ∧ Below w.heap.size w w' := by
  obtain ⟨c0, c1, hk, hL⟩ := h.cells
  go_enter Tryz.func36, Tryz.ntmps36
  go_wp2_with fail
  refine (left_any t L.length k w c0 c1 (by omega) (by omega) (by omega)).mono ?_
  rintro e w1 ⟨rfl, hb1⟩
  have HB := Lib.hid hb1
  clear hb1 c0 c1
  go_wp2_with fail
  go_ret2
  exact ⟨rfl, HB.out⟩

def NumberPost (B0 t : Nat) (L : List UInt8) (k : Nat) (b : Int) (w : World) (e : Ending) (w' : World) : Prop :=
  e = .returned (.tuple #[.int .i64 ((num3 ((L.drop k).take 3) : Int) % b), .int .i64 0]) ∧ IsTape B0 w' t L (k + 3) ∧ w.grownBy w' (some t)
/- TapeNew -/
open Go.RowKit
set_option linter.unusedVariables false

def nonce0 : List UInt8 := List.replicate 12 0
theorem flat_len {α : Type} {f : Nat → List α} {m : Nat} (hf : ∀ j, (f j).length = m) : ∀ n, ((List.range n).flatMap f).length = m * n
  | 0 => rfl
  | n + 1 => by
    rw [List.range_succ, List.flatMap_append, List.length_append, flat_len hf n]
    simp [hf, Nat.mul_succ]
theorem flat_at {α : Type} {f : Nat → List α} {m : Nat} (hf : ∀ j, (f j).length = m) : ∀ n j, j < n → (((List.range n).flatMap f).drop (m * j)).take m = f j
  | 0, j, h => by omega
  | n + 1, j, h => by
    rw [List.range_succ, List.flatMap_append]
    have hl := flat_len hf n
    by_cases e : j < n
    · have hle : m * j + m ≤ m * n := by rw [← Nat.mul_succ]; exact Nat.mul_le_mul_left _ e
      rw [List.drop_append_of_le_length (by rw [hl]; omega), List.take_append_of_le_length (by rw [List.length_drop, hl]; omega)]
      exact flat_at hf n j e
    · obtain rfl : j = n := by omega
      rw [← hl, List.drop_left, List.flatMap_cons, List.flatMap_nil, List.append_nil, List.take_of_length_le (Nat.le_of_eq (hf j))]
theorem blockL_len (key nonce : List UInt8) (n : Int) : (blockL key nonce n).length = 64 := by
  rw [blockL, joinL_length, sumsTo_len]
/-- The bytes of a made tape. -/
def madeL (key : List UInt8) : List UInt8 := (List.range 1024).flatMap fun j => blockL key nonce0 ((j : Nat) : Int)
theorem madeL_len (key : List UInt8) : (madeL key).length = 65536 := flat_len (fun j => blockL_len _ _ _) 1024
theorem madeL_at (key : List UInt8) (j : Nat) (h : j < 1024) : blockAt (madeL key) j = blockL key nonce0 (j : Nat) := flat_at (fun j => blockL_len _ _ _) 1024 j h
theorem rep0 : Lib.repeatL (⟨#[0]⟩ : ByteArray).data.toList 12 = nonce0 := by decide +kernel

set_option maxHeartbeats 400000 in
theorem newBlock_any (key nonce : ByteArray) (n : Int) (p q : Nat) (w : World) (hT : Turns w) (hk : key.size = 32) (ho : nonce.size = 12) (hn : Wd n) (hp : w.cell? ⟨p, 0, none⟩ = some (.string key)) (hq : w.cell? ⟨q, 0, none⟩ = some (.string nonce)) :
    Calls Tryz.prog 71 #[.int .i64 n, .pointer (some ⟨p, 0, none⟩), .pointer (some ⟨q, 0, none⟩)] w fun e w' => e = .returned (.string (bs (blockL key.data.toList nonce.data.toList n))) ∧ Below w.heap.size w w' := by
  have HT := Lib.hid hT
  have Hk := Lib.hid hk
  have Ho := Lib.hid ho
  have HN := Lib.hid hn
  clear hT hk ho hn
  go_enter Tryz.func71, Tryz.ntmps71
  go_wp2_with fail
  refine (block_yes key nonce n w HT.out Hk.out Ho.out HN.out).mono ?_
  rintro e w1 ⟨rfl, hb⟩
  go_wp2_with fail
  go_ret
  exact ⟨rfl, hb⟩

/-- The tables of packages stream and digest lie in memory, below B0. -/
structure Tabs (B0 : Nat) (w : World) : Prop where
  turns : Turns w
  rounds : Rounds w
  tt : 1 < B0
  rt : 0 < B0
theorem Tabs.below {B0 : Nat} {w w' : World} (h : Tabs B0 w) (hb : Below w.heap.size w w') : Tabs B0 w' := ⟨h.turns.below hb, h.rounds.below hb, h.tt, h.rt⟩
theorem Tabs.lt {B0 : Nat} {w : World} (h : Tabs B0 w) : 1 < w.heap.size ∧ 0 < w.heap.size :=
  ⟨cell_lt (p := ⟨1, 0 + 0, none⟩) (h.turns 0 _ rfl), cell_lt (p := ⟨0, 0 + 0, none⟩) (h.rounds 0 _ rfl)⟩
theorem Tabs.kept {B0 : Nat} {w W : World} (h : Tabs B0 w) (hk : ∀ i, i < w.heap.size → NotTape B0 w i → W.heap[i]? = w.heap[i]?) : Tabs B0 W :=
  ⟨fun j v hv => (World.cell?_of_block (hk _ h.lt.1 (.inl h.tt))).trans (h.turns j v hv), fun j v hv => (World.cell?_of_block (hk _ h.lt.2 (.inl h.rt))).trans (h.rounds j v hv), h.tt, h.rt⟩
/-- They stay while a tape is taken from. -/
theorem Tabs.tape {B0 : Nat} {w w' : World} {t : Nat} {L : List UInt8} {k : Nat} (h : Tabs B0 w) (ht : IsTape B0 w t L k) (hg : w.grownBy w' (some t)) : Tabs B0 w' := by
  obtain ⟨fn, cap, hh, _, _, _, _, hB⟩ := ht
  exact h.kept fun i hi hn => hg.block i hi (fun e => by injection e with e; subst e; exact notTape_ne hn hB hh)
theorem Tabs.of {w : World} (h : Turns w) (k : Rounds w) : Tabs w.heap.size w :=
  ⟨h, k, cell_lt (p := ⟨1, 0 + 0, none⟩) (h 0 _ rfl), cell_lt (p := ⟨0, 0 + 0, none⟩) (k 0 _ rfl)⟩

set_option maxHeartbeats 400000 in
theorem new_any (B0 : Nat) (seed : ByteArray) (w : World) (hT : Tabs B0 w) (hs : seed.size ≤ 1000000000) (hB0 : B0 ≤ w.heap.size) :
    Calls Tryz.prog 34 #[.string seed] w (OfPost B0 (madeL (sumL seed.data.toList)) w) := by
  have HT := Lib.hid hT
  have Hkl := Lib.hid (sumL_len seed.data.toList)
  clear hT
  go_enter Tryz.func34, Tryz.ntmps34
  go_wp2_with fail
  refine (sum_any seed w HT.out.rounds hs).mono ?_
  rintro e w1 ⟨rfl, hb1⟩
  generalize hkey : sumL seed.data.toList = key at Hkl ⊢
  have Hkey := Lib.hid hkey
  have HB := Lib.hid hb1
  clear hb1 hkey
  go_wp2_with fail
  refine (repeat_b ⟨#[0]⟩ 12 _ (by decide) (by decide)).mono ?_
  rintro e w2 ⟨rfl, hb2⟩
  rw [rep0]
  have hk2 := keep_one hb2
  have hlt2 : w1.heap.size < w2.heap.size := cell_lt_of hk2
  have ck : w2.cell? ⟨w1.heap.size, 0, none⟩ = some (.string (bs key)) := cell_of_one hk2
  have HK2 := Lib.hid hk2
  replace HB := Lib.hid (Below.chain_alloc HB.out hb2)
  clear hk2 hb2
  have hne : w2.heap.size ≠ w1.heap.size := by omega
  go_wp2_with fail
  refine (block_yes (bs key) (bs nonce0) 0 _ ((HT.out.turns.below HB.out).below ((Below.refl _ _).alloc (Nat.le_refl _) _)) Hkl.out rfl wd_zero).mono ?_
  rintro e w3 ⟨rfl, hb3⟩
  go_wp2_with fail
  go_ret
  have h1 : w3.heap[w1.heap.size]? = some (.cells #[.string (bs key)] 9 (0, 0)) := cells_below ((Below.heap_alloc _ _ _ hlt2).trans HK2.out) hb3
  have h2 : w3.heap[w2.heap.size]? = some (.cells #[.string (bs nonce0)] 9 (0, 0)) := keep_one hb3
  have hb := Below.chain_alloc HB.out hb3
  have hT3 := HT.out.below hb
  rw [Hkey.out]
  refine ⟨w3.heap.size, rfl, hb.size, ⟨71, #[.pointer (some ⟨w1.heap.size, 0, none⟩), .pointer (some ⟨w2.heap.size, 0, none⟩)], ?_, ?_, Nat.zero_le _, by rw [madeL_len]; omega, enters_of Tryz.func71 (by kernel_rfl) rfl, Nat.le_trans hB0 hb.size⟩, hb.alloc hb.size _⟩
  · rw [madeL_len]
    exact heap_alloc_new w3 _
  · intro W hW hz j hj
    rw [madeL_len] at hj
    rw [madeL_at key j (by omega)]
    have hlt3 := hT3.below ((Below.refl _ w3).alloc (Nat.le_refl _) (.cells #[.int .i64 65536, .int .i64 0, .func (.func 71) #[] #[.pointer (some ⟨w1.heap.size, 0, none⟩), .pointer (some ⟨w2.heap.size, 0, none⟩)]] 134))
    have e1 := (Below.heap_alloc w3 (.cells #[.int .i64 65536, .int .i64 0, .func (.func 71) #[] #[.pointer (some ⟨w1.heap.size, 0, none⟩), .pointer (some ⟨w2.heap.size, 0, none⟩)]] 134) _ (cell_lt_of h1)).trans h1
    have e2 := (Below.heap_alloc w3 (.cells #[.int .i64 65536, .int .i64 0, .func (.func 71) #[] #[.pointer (some ⟨w1.heap.size, 0, none⟩), .pointer (some ⟨w2.heap.size, 0, none⟩)]] 134) _ (cell_lt_of h2)).trans h2
    have k1 := (hW _ (cell_lt_of e1) (.inr fun cs ty fr hty e => by rw [e1] at e; simp at e; rw [← e.2.1] at hty; exact tapeTy_string hty)).trans e1
    have k2 := (hW _ (cell_lt_of e2) (.inr fun cs ty fr hty e => by rw [e2] at e; simp at e; rw [← e.2.1] at hty; exact tapeTy_string hty)).trans e2
    exact newBlock_any (bs key) (bs nonce0) j w1.heap.size w2.heap.size W (hlt3.kept hW).turns Hkl.out rfl ⟨by omega, by omega⟩ (cell_of_one k1) (cell_of_one k2)

end Go.Proofs.YtkbjmmigjjdfpaaGreatDoor
