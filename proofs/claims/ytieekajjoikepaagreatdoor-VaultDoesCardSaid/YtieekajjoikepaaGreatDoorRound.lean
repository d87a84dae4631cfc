/-
  Regions that draw their order, in the body of a loop over a function (a fence in a round): what is shown of the region in the plain calculus serves there.
-/
import Derived.Test.YtieekajjoikepaaGreatDoorBase
import Derived.OrdersIn
import Derived.OrdersHeld
import Derived.Deep.RegionHeld3
import Derived.RangeFuncCalls
import Derived.TacticsIn
import Derived.BigQuiet
namespace Go.Proofs.YtieekajjoikepaaGreatDoor
open Go.RowKit
set_option linter.unusedVariables false

/-- Q at a normal exit, False else. -/
def NormalQ (Q : Exit → Act → World → Prop) : Exit → Act → World → Prop
  | .normal, a, w => Q .normal a w
  | _, _, _ => False
theorem not_lets (Q : Exit → Act → World → Prop) : ¬ LetsOut (NormalQ Q) := fun ⟨_, _, h⟩ => h
def noDeferO (o : Oper) : Bool := match o.op with | .defer _ => false | _ => true
/-- No operation is a defer statement. -/
def noDefer (ops : Array Oper) : Bool := ops.toList.all noDeferO
theorem noDefer_at {ops : Array Oper} (h : noDefer ops = true) {i : Nat} {o : Oper} (hi : ops[i]? = some o) : ∀ c, o.op ≠ .defer c := by
  intro c e
  have hm : o ∈ ops.toList := by
    have := Array.mem_of_getElem? hi
    simpa using this
  have := List.all_eq_true.1 h o hm
  unfold noDeferO at this
  rw [e] at this
  cases this
section
variable {P : Program} {ops : Array Oper} {md : Region.Mode} {l n : Nat} {Q : Exit → Act → World → Prop}
theorem round_op {o : Oper} {a : Act} {w : World} {K K' : Act → World → Prop} (hd : ∀ c, o.op ≠ .defer c) (hK : ∀ a w, K a w → K' a w) (h : o.wp P a w K (NormalQ Q)) : o.wpIn (Fence.wide.inRound l) n P a w K' Q := by
  unfold Oper.wpIn
  unfold Oper.wp at h
  refine ⟨fun _ _ => trivial, ?_⟩
  rw [show (Fence.wide.inRound l).round = some l from rfl, Oper.semAt_some l _ _ hd]
  generalize (execOp a.eval o).run P w = r at *
  cases r with
  | ok x w' =>
    cases x <;> simp only [Oper.upon] at h <;> simp only [Oper.uponIn]
    case value => exact hK _ _ h
    case skip => exact hK _ _ h
    case defer => exact hK _ _ h
    case enter f args =>
      refine ⟨fun hh => (by cases hh), ?_⟩
      refine (CallsIn.inRound l (callsIn_wide.2 h)).mono fun e w'' he => ?_
      cases e with
      | returned v => exact hK _ _ he
      | panicked c => exact he.elim
      | outgrown => exact (not_lets Q he).elim
    case row row args =>
      refine ⟨fun hh => (by cases hh), fun c cs _ => ?_⟩
      obtain ⟨v, w'', hv, hs⟩ := h c cs
      exact ⟨v, w'', hK _ _ hv, stepsIn_wide.2 hs⟩
  | halt x w' => cases x <;> simp only [Oper.upon] at h <;> exact h.elim
theorem round_any (hd : noDefer ops = true) :
    ∀ (fuel : Nat) (listed : Array Bool) (a : Act) (w : World), wpAny P md ops (NormalQ Q) fuel listed a w → wpAnyIn (Fence.wide.inRound l) n P md ops Q fuel listed a w
  | 0, _, _, _, h => ⟨h.1, h.2⟩
  | fuel + 1, listed, a, w, h => ⟨fun h0 => h.1 h0, fun i hi => by
    have h1 := h.2 i hi
    unfold wpOp at h1
    unfold wpOpIn
    split
    · rename_i ho
      simp only [ho] at h1
      exact round_any hd fuel _ _ _ h1
    · rename_i o ho
      simp only [ho] at h1
      split
      · rename_i hw
        simp only [hw, if_true] at h1
        rcases h1 with h1 | h1
        · exact round_op (noDefer_at hd ho) (fun a' w' h' => round_any hd fuel _ _ _ h') h1
        · exact (not_lets Q h1.2).elim
      · rename_i hw
        simp only [hw] at h1
        exact ⟨fun _ _ => trivial, round_any hd fuel _ _ _ h1⟩⟩
theorem round_region {id : Nat} {a : Act} {w : World} (hd : noDefer ops = true) (hm : P.follows .mixedOrders = true)
    (h : wpAny P .any ops (NormalQ Q) ops.size (Array.replicate ops.size false) a { w with drawn := w.drawn + 1 }) : (Code.region id ops true).wpIn (Fence.wide.inRound l) n P Q a w :=
  wpIn_region_any hm (round_any hd _ _ _ _ h)
theorem round_quiet {id : Nat} {a : Act} {w : World} {os : List Oper} (hd : noDefer os.toArray = true) (hm : P.follows .mixedOrders = true) (hB : Region.lexB .any os.toArray = true)
    (h : wpQuiet P os.toArray (fun w' => ∃ n, w' = w.drewN n) (fun a' => ∀ w', (∃ n, w' = w.drewN n) → Q .normal a' w') os a) : (Code.region id os.toArray true).wpIn (Fence.wide.inRound l) n P Q a w := by
  simp only [Region.lexB, Bool.and_eq_true] at hB
  refine round_region hd hm (wpAny_of_quiet (C := fun w' => ∃ n, w' = w.drewN n) (Q' := NormalQ Q) (Q := fun a' => ∀ w', (∃ n, w' = w.drewN n) → Q .normal a' w') (fun _ w' hw' h => h w' hw') _ _ _ _ ⟨1, rfl⟩ ?_)
  have := wpAnyQ_lex (P := P) (C := fun w' => ∃ n, w' = w.drewN n) (md := .any) hB.1 os 0 (Array.replicate os.toArray.size false) a (by simp) (by simpa using hB.2) h
  simpa using this
theorem round_held {id : Nat} {a : Act} {w : World} {S : World → Prop} (hd : noDefer ops = true) (hm : P.follows .mixedOrders = true)
    (h : wpAnyH P .any ops (NormalQ Q) S ops.size (Array.replicate ops.size false) a { w with drawn := w.drawn + 1 }) : (Code.region id ops true).wpIn (Fence.wide.inRound l) n P Q a w :=
  round_region hd hm (wpAny_of_held _ _ _ _ h)
end
end Go.Proofs.YtieekajjoikepaaGreatDoor
