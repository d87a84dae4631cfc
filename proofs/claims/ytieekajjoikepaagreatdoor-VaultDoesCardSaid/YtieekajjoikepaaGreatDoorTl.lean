/-
  A range over a function whose elements are told together with what is so of them in the world (a closure and its boxes).
  A range over a function that tells one value a round, which is stored into one slot.
-/
import Derived.RangeFuncNested
namespace Go.Proofs.YtieekajjoikepaaGreatDoor
/- Tells -/
open Go.RowKit
set_option linter.unusedVariables false

/-- The walk that yields each element and, with it, what is so of that element there. -/
def Tells {α : Type} (F : Fence) (n : Nat) (P : Program) (g : Nat) (lb : Array Value) (encs : α → Array Value) (E : List α → α → World → Prop) (Kp : World → World → Prop) (S Sp : List α → Prop) (w : World) : Prop :=
  ∀ (l : Nat) (J Jx : List α → World → Prop) (W : World), Below w.heap.size w W → AbidesFrom W.heap.size J → AbidesFrom W.heap.size Jx →
    (∀ pre x X, J pre X → E pre x X → YieldAt F (n - 1) P l (encs x) X fun e Y => e = .returned (.bool true) ∧ J (pre ++ [x]) Y ∧ Kp X Y ∨ e = .returned (.bool false) ∧ Jx (pre ++ [x]) Y) →
    J [] W → CallsIn F n P g (#[.func (.yield l) #[] #[]] ++ lb) W fun e Y => (∃ v, e = .returned v) ∧ ((∃ xs, S xs ∧ J xs Y) ∨ ∃ pre, Sp pre ∧ Jx pre Y)

/-- How a round's body ends, at the record r of loop l: the round goes on, or leaves by a jump. -/
def RoundEnd (l : Nat) (r : Loop) (R : Option Code → World → Prop) : Exit → Act → World → Prop
  | .normal, _, X => X.heap[l]? = some (.loop { r with state := .busy }) ∧ R none (X.putObj l (.loop { r with state := .ready, pending := none }))
  | .ret, _, X => X.heap[l]? = some (.loop { r with state := .busy }) ∧ R (some .ret) (X.putObj l (.loop { r with state := .done, pending := some .ret }))
  | .exit i, _, X => X.heap[l]? = some (.loop { r with state := .busy }) ∧ R (some (.exit i)) (X.putObj l (.loop { r with state := .done, pending := some (.exit i) }))
  | .goto i, _, X => X.heap[l]? = some (.loop { r with state := .busy }) ∧ R (some (.goto i)) (X.putObj l (.loop { r with state := .done, pending := some (.goto i) }))
  | .panic _, _, _ => False
  | .outgrown, _, _ => False

/-- One call of yield, out of the walk of the round. -/
theorem yield_of {F : Fence} {m : Nat} {P : Program} {l : Nat} {r : Loop} {args : Array Value} {X : World} {R : Ending → World → Prop} (hl : X.heap[l]? = some (.loop r)) (hr : r.state = .ready) (hs : args.size = r.params.size) (hf : F.fn r.fn)
    (h : r.assign.wpIn (F.inRound l) m P (Exit.then (fun a Y => Y.heap[l]? = some (.loop r) ∧ r.body.wpIn (F.inRound l) m P (RoundEnd l r fun j Z => R (.returned (.bool j.isNone)) Z) a (Y.putObj l (.loop { r with state := .busy }))) (fun _ _ _ => False))
      { tmps := (r.params.zip args).foldl (fun t (p, v) => t.setIfInBounds p v) r.tmps, defers := [] } X) : YieldAt F m P l args X R := by
  refine ⟨_, _, _, _, run_yield hl hs, roundIn_of_wpIn hf (wpIn_mono h ?_)⟩
  intro e a Y hy
  match e, hy with
  | .normal, ⟨hY, hb⟩ =>
    refine ⟨_, run_beginRound hY hr, wpIn_mono hb ?_⟩
    intro e2 a2 Z hz
    match e2, hz with
    | .normal, ⟨hZ, hR⟩ => exact ⟨_, _, run_endRound none hZ, hR⟩
    | .ret, ⟨hZ, hR⟩ => exact ⟨_, _, run_endRound (some .ret) hZ, hR⟩
    | .exit i, ⟨hZ, hR⟩ => exact ⟨_, _, run_endRound (some (.exit i)) hZ, hR⟩
    | .goto i, ⟨hZ, hR⟩ => exact ⟨_, _, run_endRound (some (.goto i)) hZ, hR⟩

/-- What the body of a round shows: what it keeps of the law's two blocks (from B on), and its own invariant. -/
def BodyEnd {α : Type} (B : Nat) (Kp : World → World → Prop) (I : List α → World → Prop) (Ix : Code → List α → World → Prop) (xs : List α) (X : World) : Exit → Act → World → Prop
  | .normal, _, Y => KeepsFrom B X Y ∧ Kp X Y ∧ I xs Y
  | .ret, _, Y => KeepsFrom B X Y ∧ Ix .ret xs Y
  | .exit i, _, Y => KeepsFrom B X Y ∧ Ix (.exit i) xs Y
  | .goto i, _, Y => KeepsFrom B X Y ∧ Ix (.goto i) xs Y
  | .panic _, _, _ => False
  | .outgrown, _, _ => False

/-- The statement, over a function that tells its elements. -/
theorem wpIn_rangeFunc_tells {F : Fence} {n : Nat} {P : Program} {w : World} {α : Type} {g : Operand} {ps : Array Tmp} {assign body : Code} {Q : Exit → Act → World → Prop} {a : Act}
    (hro : F.round = none) (h1 : 1 ≤ n) {gf : Nat} {lb : Array Value} (hg : a.eval g = .func (.func gf) #[] lb) (hFg : F.fn gf) (eg : ∀ args w, (callFunc gf args).run P w = .ok (.enter gf args) w)
    {encs : α → Array Value} {E : List α → α → World → Prop} {Kp : World → World → Prop} {S Sp : List α → Prop} {w0 : World} (hseq : Tells F (n - 1) P gf lb encs E Kp S Sp w0) (hb0 : Below w0.heap.size w0 w)
    (hKt : ∀ {A B C : World}, Kp A B → Kp B C → Kp A C) (hKb : ∀ (X : World) (l : Nat) (o o' : Obj), w.heap.size ≤ l → X.heap[l]? = some o → o.isCells = false → o.isWalk = false → Kp X (X.putObj l o')) (hps : ∀ x, (encs x).size = ps.size)
    (I : List α → World → Prop) (Ix : Code → List α → World → Prop) (hI : OwnFrom w.heap.size I) (hIx : ∀ c, OwnFrom w.heap.size (Ix c)) (h0 : I [] w) (Ax : List α → α → Act → World → Prop) (hAx : ∀ pre x b, OwnFrom w.heap.size (fun (_ : Unit) X => Ax pre x b X))
    (hassign : ∀ (l : Nat) (pre : List α) (x : α) (X : World) (K : Act → World → Prop), I pre X → E pre x X → (∀ b Y, KeepsFrom w.heap.size X Y → Kp X Y → I pre Y → Ax pre x b Y → K b Y) →
      assign.wpIn (F.inRound l) (n - 1 - 1) P (Exit.then K (fun _ _ _ => False)) { tmps := (ps.zip (encs x)).foldl (fun t (p, v) => t.setIfInBounds p v) a.tmps, defers := [] } X)
    (hbody : ∀ (l : Nat) (pre : List α) (x : α) (b : Act) (X : World), w.heap.size ≤ l → (∃ r, X.heap[l]? = some (.loop r)) → I pre X → Ax pre x b X → body.wpIn (F.inRound l) (n - 1 - 1) P (BodyEnd w.heap.size Kp I Ix (pre ++ [x]) X) b X)
    (hdone : ∀ (D : Nat) (xs : List α) (X : World), w.heap.size ≤ D → S xs → I xs X → X.heap[D]? = some (.deferred (some [])) → Q .normal { a with defers := { target := .collected D, args := #[] } :: a.defers } X)
    (hstop : ∀ (D : Nat) (c : Code) (pre : List α) (X : World), w.heap.size ≤ D → Sp pre → Ix c pre X → X.heap[D]? = some (.deferred (some [])) → c.wpIn F n P Q { a with defers := { target := .collected D, args := #[] } :: a.defers } X) :
    (Code.rangeFunc g ps assign body).wpIn F n P Q a w := by
  refine wpIn_rangeFunc fun fn hfn => ?_
  rw [hro]
  -- the record, and the world in which the function is called
  obtain ⟨rec, hrec⟩ : ∃ rec : LoopState → Option Code → Loop, ∀ s p, rec s p = { state := s, pending := p, fn := fn, tmps := a.tmps, params := ps, assign := assign, body := body, defers := w.heap.size } := ⟨_, fun _ _ => rfl⟩
  obtain ⟨d, hd⟩ : ∃ d, d = w.heap.size := ⟨_, rfl⟩
  obtain ⟨V, hV⟩ : ∃ V, V = (w.alloc (.deferred (some []))).alloc (.loop (rec .ready none)) := ⟨_, rfl⟩
  have vs : V.heap.size = d + 2 := by rw [hV, hd]; simp
  have vl : V.heap[d + 1]? = some (.loop (rec .ready none)) := by
    rw [hV, hd]
    have := World.alloc_heap_new (w.alloc (.deferred (some []))) (.loop (rec .ready none))
    rwa [World.size_alloc] at this
  have vd : V.heap[d]? = some (.deferred (some [])) := by
    rw [hV, hd]
    exact (Below.heap_alloc _ _ _ (by simp)).trans (World.alloc_heap_new w _)
  have vb : Below w.heap.size w V := by rw [hV]; exact ((Below.refl _ w).alloc (Nat.le_refl _) _).alloc (by simp) _
  have vi : I [] V := by rw [hV]; exact hI.alloc _ (hI.alloc _ h0)
  -- the two blocks, as a fact of their own
  obtain ⟨Two, hTwo⟩ : ∃ Two : LoopState → Option Code → World → Prop, ∀ s p X, Two s p X ↔ X.heap[d + 1]? = some (.loop (rec s p)) ∧ X.heap[d]? = some (.deferred (some [])) := ⟨fun s p X => X.heap[d + 1]? = some (.loop (rec s p)) ∧ X.heap[d]? = some (.deferred (some [])), fun _ _ _ => Iff.rfl⟩
  have two_own : ∀ s p {X Y : World} {row : Option Nat}, Two s p X → X.grownBy Y row → (∀ r, row = some r → ∃ o : Obj, X.heap[r]? = some o ∧ o.isWalk = true) → Two s p Y := by
    intro s p X Y row ht hgr hrow
    rw [hTwo] at ht ⊢
    exact ⟨(grownBy_keeps hgr hrow ht.1 rfl).trans ht.1, (grownBy_keeps hgr hrow ht.2 rfl).trans ht.2⟩
  have two_put : ∀ s p s' p' {X : World}, Two s p X → Two s' p' (X.putObj (d + 1) (.loop (rec s' p'))) := by
    intro s p s' p' X ht
    rw [hTwo] at ht ⊢
    exact ⟨World.putObj_heap_same (Array.getElem?_eq_some_iff.1 ht.1).1, (World.putObj_heap_other (by omega)).trans ht.2⟩
  have two_keep : ∀ s p {X Y : World}, Two s p X → KeepsFrom w.heap.size X Y → Two s p Y := by
    intro s p X Y ht hk
    rw [hTwo] at ht ⊢
    exact ⟨hk.same _ _ (by omega) ht.1 rfl, hk.same _ _ (by omega) ht.2 rfl⟩
  have far : ∀ {X : World} {row : Option Nat}, (∀ r, row = some r → V.heap.size ≤ r ∧ ∃ o : Obj, X.heap[r]? = some o ∧ o.isWalk = true) → ∀ r, row = some r → w.heap.size ≤ r ∧ ∃ o : Obj, X.heap[r]? = some o ∧ o.isCells = false := by
    intro X row h r e
    obtain ⟨hB, o, ho, hw⟩ := h r e
    exact ⟨by omega, o, ho, Obj.not_cells_of_walk hw⟩
  refine ⟨d + 1, [{ target := .collected d, args := #[] }], V, { target := .fn (.func gf) lb, args := #[.func (.yield (d + 1)) #[] #[]] }, V, gf, #[.func (.yield (d + 1)) #[] #[]] ++ lb, V, ?_, ?_, ?_, ?_, fun _ => h1, ?_⟩
  · have := run_enterLoop_outer (P := P) (w := w) fn a.tmps ps assign body
    rw [hV, hd, hrec]
    exact this
  · simp only [resolve, hg]
    simp [go_sem]
  · intro f' hf'
    simp [Target.leads] at hf'
    subst hf'
    exact hFg
  · simp [invoke, go_sem, eg]
  refine (hseq (d + 1) (fun pre X => I pre X ∧ Two .ready none X) (fun pre X => ∃ c, Ix c pre X ∧ Two .done (some c) X) V (hb0.trans (vb.mono hb0.size))
    (fun s X Y row hs hgr hrow => ⟨hI s X Y row hs.1 hgr (far hrow), two_own _ _ hs.2 hgr fun r e => (hrow r e).2⟩)
    (fun s X Y row ⟨c, hc, ht⟩ hgr hrow => ⟨c, hIx c s X Y row hc hgr (far hrow), two_own _ _ ht hgr fun r e => (hrow r e).2⟩)
    ?_ ⟨vi, (hTwo _ _ _).2 ⟨vl, vd⟩⟩).mono ?_
  · -- a round
    rintro pre x X ⟨hi, ht⟩ hE
    have hl := ((hTwo _ _ _).1 ht).1
    refine yield_of hl (by rw [hrec]) (by rw [hrec]; exact hps x) (by rw [hrec]; exact hfn) ?_
    have hass := hassign (d + 1) pre x X (fun b Y => Y.heap[d + 1]? = some (.loop (rec .ready none)) ∧ body.wpIn (F.inRound (d + 1)) (n - 1 - 1) P (RoundEnd (d + 1) (rec .ready none) fun j Z => (.returned (.bool j.isNone) : Ending) = .returned (.bool true) ∧ (I (pre ++ [x]) Z ∧ Two .ready none Z) ∧ Kp X Z ∨ (.returned (.bool j.isNone) : Ending) = .returned (.bool false) ∧ ∃ c, Ix c (pre ++ [x]) Z ∧ Two .done (some c) Z) b (Y.putObj (d + 1) (.loop (rec .busy none)))) hi hE ?_
    · rw [hrec] at hass ⊢
      simp only [hrec] at hass ⊢
      exact hass
    intro b Y hkf hkp hiY hax
    have htY := two_keep _ _ ht hkf
    have hlY := ((hTwo _ _ _).1 htY).1
    refine ⟨hlY, ?_⟩
    have htB := two_put _ _ .busy none htY
    have hk1 : Kp Y (Y.putObj (d + 1) (.loop (rec .busy none))) := hKb _ _ _ _ (by omega) hlY rfl rfl
    refine wpIn_mono (hbody (d + 1) pre x b _ (by omega) ⟨_, ((hTwo _ _ _).1 htB).1⟩ (hI.putObj _ hiY (by omega) hlY rfl) ((hAx pre x b).putObj (s := ()) _ hax (by omega) hlY rfl)) ?_
    have hrb : ∀ s p, ({ rec .ready none with state := s, pending := p } : Loop) = rec s p := fun s p => by rw [hrec, hrec]
    have hrb' : ({ rec .ready none with state := .busy } : Loop) = rec .busy none := by rw [hrec, hrec]
    have left : ∀ (c : Code) {Z : World}, KeepsFrom w.heap.size (Y.putObj (d + 1) (.loop (rec .busy none))) Z → Ix c (pre ++ [x]) Z → Z.heap[d + 1]? = some (.loop { rec .ready none with state := .busy }) ∧ ∃ c', Ix c' (pre ++ [x]) (Z.putObj (d + 1) (.loop { rec .ready none with state := .done, pending := some c })) ∧ Two .done (some c') (Z.putObj (d + 1) (.loop { rec .ready none with state := .done, pending := some c })) := by
      intro c Z hk hx
      have htZ := two_keep _ _ htB hk
      have hlZ := ((hTwo _ _ _).1 htZ).1
      rw [hrb', hrb]
      exact ⟨hlZ, c, (hIx c).putObj _ hx (by omega) hlZ rfl, two_put _ _ _ _ htZ⟩
    intro e b2 Z hz
    match e, hz with
    | .normal, ⟨hk, hkp2, hiZ⟩ =>
      have htZ := two_keep _ _ htB hk
      have hlZ := ((hTwo _ _ _).1 htZ).1
      show Z.heap[d + 1]? = some (.loop { rec .ready none with state := .busy }) ∧ _
      rw [hrb', hrb]
      exact ⟨hlZ, .inl ⟨rfl, ⟨hI.putObj _ hiZ (by omega) hlZ rfl, two_put _ _ _ _ htZ⟩, hKt hkp (hKt (hKt hk1 hkp2) (hKb _ _ _ _ (by omega) hlZ rfl rfl))⟩⟩
    | .ret, ⟨hk, hx⟩ => exact ⟨(left _ hk hx).1, .inr ⟨rfl, (left _ hk hx).2⟩⟩
    | .exit i, ⟨hk, hx⟩ => exact ⟨(left _ hk hx).1, .inr ⟨rfl, (left _ hk hx).2⟩⟩
    | .goto i, ⟨hk, hx⟩ => exact ⟨(left _ hk hx).1, .inr ⟨rfl, (left _ hk hx).2⟩⟩
  · -- behind the function
    rintro e X ⟨⟨v, rfl⟩, ⟨xs, hS, hi, ht⟩ | ⟨pre, hSp, c, hx, ht⟩⟩
    · obtain ⟨hl, hk⟩ := (hTwo _ _ _).1 ht
      have hend := run_endLoop (P := P) hl (by rw [hrec]; simp)
      have hp : (rec .ready none).pending = none := by rw [hrec]
      rw [hp] at hend
      exact ⟨none, _, hend, hdone d xs _ (by omega) hS (hI.putObj _ hi (by omega) hl rfl) ((World.putObj_heap_other (by omega)).trans hk)⟩
    · obtain ⟨hl, hk⟩ := (hTwo _ _ _).1 ht
      have hend := run_endLoop (P := P) hl (by rw [hrec]; simp)
      have hp : (rec .done (some c)).pending = some c := by rw [hrec]
      rw [hp] at hend
      exact ⟨some c, _, hend, hstop d c pre _ (by omega) hSp ((hIx c).putObj _ hx (by omega) hl rfl) ((World.putObj_heap_other (by omega)).trans hk)⟩

/- Tells1 -/
open Go.RowKit
set_option linter.unusedVariables false

theorem wpIn_rangeFunc_tells1 {F : Fence} {n : Nat} {P : Program} {w : World} {g : Operand} {p t : Tmp} {assign body : Code} {Q : Exit → Act → World → Prop} {a : Act}
    (hro : F.round = none) (h1 : 1 ≤ n) {gf : Nat} {lb : Array Value} (hg : a.eval g = .func (.func gf) #[] lb) (hFg : F.fn gf) (eg : ∀ args w, (callFunc gf args).run P w = .ok (.enter gf args) w)
    {E : List Value → Value → World → Prop} {Kp : World → World → Prop} {S Sp : List Value → Prop} (hseq : Tells F (n - 1) P gf lb (fun x : Value => #[x]) E Kp S Sp w)
    (hKt : ∀ {A B C : World}, Kp A B → Kp B C → Kp A C) (hKr : ∀ X, Kp X X) (hKb : ∀ (X : World) (l : Nat) (o o' : Obj), w.heap.size ≤ l → X.heap[l]? = some o → o.isCells = false → o.isWalk = false → Kp X (X.putObj l o'))
    (I : List Value → World → Prop) (Ix : Code → List Value → World → Prop) (hI : OwnFrom w.heap.size I) (hIx : ∀ c, OwnFrom w.heap.size (Ix c)) (h0 : I [] w) (hE : ∀ pre x, OwnFrom w.heap.size (fun (_ : Unit) X => E pre x X))
    (hassign : ∀ (l : Nat) (x : Value) (X : World) (K : Act → World → Prop), K { tmps := (a.tmps.setIfInBounds p x).setIfInBounds t x, defers := [] } X → assign.wpIn (F.inRound l) (n - 1 - 1) P (Exit.then K (fun _ _ _ => False)) { tmps := a.tmps.setIfInBounds p x, defers := [] } X)
    (hbody : ∀ (l : Nat) (pre : List Value) (x : Value) (X : World), w.heap.size ≤ l → (∃ r, X.heap[l]? = some (.loop r)) → I pre X → E pre x X → body.wpIn (F.inRound l) (n - 1 - 1) P (BodyEnd w.heap.size Kp I Ix (pre ++ [x]) X) { tmps := (a.tmps.setIfInBounds p x).setIfInBounds t x, defers := [] } X)
    (hdone : ∀ (D : Nat) (xs : List Value) (X : World), w.heap.size ≤ D → S xs → I xs X → X.heap[D]? = some (.deferred (some [])) → Q .normal { a with defers := { target := .collected D, args := #[] } :: a.defers } X)
    (hstop : ∀ (D : Nat) (c : Code) (pre : List Value) (X : World), w.heap.size ≤ D → Sp pre → Ix c pre X → X.heap[D]? = some (.deferred (some [])) → c.wpIn F n P Q { a with defers := { target := .collected D, args := #[] } :: a.defers } X) :
    (Code.rangeFunc g #[p] assign body).wpIn F n P Q a w :=
  wpIn_rangeFunc_tells hro h1 hg hFg eg hseq (Below.refl _ _) hKt hKb (fun _ => rfl) I Ix hI hIx h0
    (fun pre x b X => b = { tmps := (a.tmps.setIfInBounds p x).setIfInBounds t x, defers := [] } ∧ E pre x X)
    (fun pre x b s X Y row h hg hr => ⟨h.1, hE pre x () X Y row h.2 hg hr⟩)
    (fun l pre x X K hi he hK => by
      have := hassign l x X K (hK _ _ ⟨Nat.le_refl _, fun k o _ h _ => h⟩ (hKr X) hi ⟨rfl, he⟩)
      simpa using this)
    (fun l pre x b X hl hr hi hb => by
      obtain ⟨rfl, he⟩ := hb
      exact hbody l pre x X hl hr hi he)
    hdone hstop

end Go.Proofs.YtieekajjoikepaaGreatDoor
