/-
  A region that draws its order: loads are taken first under a condition S on the world that is shown anew behind every operation but the last one, which waits for all others.
-/
import Derived.Deep.RegionHeld
import Derived.WalkKit
import Derived.Lib.Hide
namespace Go.Proofs.YtkeeejkijbaooaaDoor
open Go Go.RowKit

section
variable {P : Program} {ops : Array Oper} {Q : Exit → Act → World → Prop} {md : Region.Mode} {S : World → Prop} {n : Nat}

/-- Whatever order is picked from here on, S holding behind every operation but the last. -/
def wpAnyK (P : Program) (md : Region.Mode) (ops : Array Oper) (Q : Exit → Act → World → Prop) (S : World → Prop) (n : Nat) : Nat → Array Bool → Act → World → Prop
  | 0, _, _, _ => False
  | fuel + 1, listed, a, w =>
    Region.ready md ops listed ≠ [] ∧
    ∀ i ∈ Region.ready md ops listed, (i ≠ n → wpOp P ops Q i (fun a' w' => S w' ∧ wpAnyK P md ops Q S n fuel (listed.setIfInBounds i true) a' w') a w) ∧
      (i = n → wpOp P ops Q i (wpAny P md ops Q fuel (listed.setIfInBounds i true)) a w)

theorem wpAny_of_k : ∀ (fuel : Nat) (listed : Array Bool) (a : Act) (w : World), wpAnyK P md ops Q S n fuel listed a w → wpAny P md ops Q fuel listed a w
  | 0, _, _, _, h => h.elim
  | fuel + 1, _, _, _, h => ⟨fun h0 => absurd h0 h.1, fun i hi => by
      by_cases e : i = n
      · exact (h.2 i hi).2 e
      · exact wpOp_mono (fun a' w' h' => wpAny_of_k fuel _ a' w' h'.2) ((h.2 i hi).1 e)⟩

/-- The last operation waits for number i. -/
def Region.lastWaits (md : Region.Mode) (ops : Array Oper) (n i : Nat) : Bool :=
  match ops[n]? with
  | some o => o.after.any fun e => Region.binds md e && e.on == i
  | none => false

theorem wpAnyK_first {i : Nat} {oi : Oper} {v : Value} (hi : ops[i]? = some oi) (hin : i ≠ n) (hlast : Region.lastWaits md ops n i = true) (hsel : ∀ (j : Nat) (o : Oper) cs b, ops[j]? = some o → o.op ≠ .select cs b)
    (hQ : ∀ c a w, Q (.panic c) (a.put oi.dst v) w → Q (.panic c) a w) :
    ∀ (fuel : Nat) (listed : Array Bool) (a : Act) (w : World),
      (∀ j oj, ops[j]? = some oj → j ≠ i → listed.getD j true = false → (∀ e ∈ oj.after, Region.binds md e = true → e.on ≠ i) → oi.apart ops oj = true) →
      i ∈ Region.ready md ops listed → YieldsIf P ops S oi v a → S w →
      wpAnyK P md ops Q S n fuel (listed.setIfInBounds i true) (a.put oi.dst v) w → wpAnyK P md ops Q S n (fuel + 1) listed a w := by
  intro fuel
  induction fuel with
  | zero => intro listed a w _ _ _ _ H; exact H.elim
  | succ fuel ih =>
    intro listed a w hfree hr hy hS H
    have hun := (mem_ready.1 hr).1
    have nolist : listed.getD i false = false := by
      rcases Nat.lt_or_ge i listed.size with h' | h'
      · simp [h'] at hun ⊢; exact hun
      · simp [Array.getElem?_eq_none h'] at hun
    refine ⟨fun h => (by rw [h] at hr; cases hr), fun j hj => ?_⟩
    obtain ⟨hjun, oj, hoj, hall⟩ := mem_ready.1 hj
    have hnot : ∀ e ∈ oj.after, Region.binds md e = true → e.on ≠ i := fun e he hb heq => by
      have h1 := hall e he hb
      rw [heq, nolist] at h1
      cases h1
    have hjn : j ≠ n := fun e => by
      subst e
      unfold Region.lastWaits at hlast
      rw [hoj] at hlast
      obtain ⟨e, he, hb⟩ := Array.any_eq_true'.1 hlast
      simp only [Bool.and_eq_true, beq_iff_eq] at hb
      exact hnot e he hb.1 hb.2
    refine ⟨fun _ => ?_, fun e => absurd e hjn⟩
    by_cases hji : j = i
    · subst hji; exact hy.wpOp hi hS ⟨hS, H⟩
    · have h1 := (H.2 j (ready_mono hj hji)).1 hjn
      have h2 := wpOp_putIf hoj (hfree j oj hoj hji hjun hnot) (fun cs b => hsel i oi cs b hi) (fun cs b => hsel j oj cs b hoj) hQ hy h1
      have hfree' : ∀ k ok, ops[k]? = some ok → k ≠ i → (listed.setIfInBounds j true).getD k true = false →
          (∀ e ∈ ok.after, Region.binds md e = true → e.on ≠ i) → oi.apart ops ok = true := fun k ok hk hki hun hno => by
        refine hfree k ok hk hki ?_ hno
        by_cases hjk : j = k
        · subst hjk; exact hjun
        · rw [getD_set_ne true hjk] at hun; exact hun
      refine wpOp_mono (fun a' w' h3 => ⟨h3.2.1, ih (listed.setIfInBounds j true) a' w' hfree' (ready_mono hr (Ne.symm hji)) h3.1 h3.2.1 ?_⟩) h2
      rw [Array.setIfInBounds_comm _ _ hji]
      exact h3.2.2

theorem wpAnyK_take {oi : Oper} {v : Value} {fuel : Nat} {listed : Array Bool} {a : Act} {w : World} (i : Nat) (hi : ops[i]? = some oi) (hin : i ≠ n) (hlast : Region.lastWaits md ops n i = true)
    (hs : Region.noSelect ops = true) (hf : Region.free md ops listed i = true) (hr : (Region.ready md ops listed).contains i = true)
    (hQ : ∀ c a w, Q (.panic c) (a.put oi.dst v) w → Q (.panic c) a w) (hy : YieldsIf P ops S oi v a) (hS : S w)
    (h : wpAnyK P md ops Q S n fuel (listed.setIfInBounds i true) (a.put oi.dst v) w) : wpAnyK P md ops Q S n (fuel + 1) listed a w :=
  wpAnyK_first hi hin hlast (Region.noSelect_spec hs) hQ fuel listed a w (Region.free_spec hi hf) (by simpa using hr) hy hS h

/-- What comes up next is one of rs. -/
def ReadyK (P : Program) (md : Region.Mode) (ops : Array Oper) (Q : Exit → Act → World → Prop) (S : World → Prop) (n fuel : Nat) (listed : Array Bool) (a : Act) (w : World) (rs : List Nat) : Prop :=
  ∀ i ∈ rs, wpOp P ops Q i (fun a' w' => S w' ∧ wpAnyK P md ops Q S n fuel (listed.setIfInBounds i true) a' w') a w
theorem ReadyK.nil {fuel : Nat} {listed : Array Bool} {a : Act} {w : World} : ReadyK P md ops Q S n fuel listed a w [] := fun _ h => by cases h
theorem ReadyK.cons {i : Nat} {rs : List Nat} {oi : Oper} {fuel : Nat} {listed : Array Bool} {a : Act} {w : World} (ho : ops[i]? = some oi)
    (h : ∀ K : Act → World → Prop, Hid (∀ a' w', S w' → (S w' → wpAnyK P md ops Q S n fuel (listed.setIfInBounds i true) a' w') → K a' w') → if Region.wanted oi (yielded ops a.tmps) = true then Oper.wp P oi a w K Q else K (a.put oi.dst undef) w)
    (hs : ReadyK P md ops Q S n fuel listed a w rs) : ReadyK P md ops Q S n fuel listed a w (i :: rs) := fun j hj => by
  rcases List.mem_cons.1 hj with rfl | hj
  · have := h (fun a' w' => S w' ∧ wpAnyK P md ops Q S n fuel (listed.setIfInBounds j true) a' w') (Lib.hid (fun a' w' hS hW => ⟨hS, hW hS⟩))
    unfold wpOp
    simp only [ho]
    split
    · rename_i hw; rw [if_pos hw] at this; exact .inl this
    · rename_i hw; rw [if_neg hw] at this; exact this
  · exact hs j hj
theorem wpAnyK_ready {rs : List Nat} {fuel : Nat} {listed : Array Bool} {a : Act} {w : World} (hr : Region.ready md ops listed = rs) (hne : rs ≠ []) (hn : rs.contains n = false)
    (h : ReadyK P md ops Q S n fuel listed a w rs) : wpAnyK P md ops Q S n (fuel + 1) listed a w :=
  ⟨fun h0 => hne (hr ▸ h0), fun i hi => ⟨fun _ => h i (hr ▸ hi), fun e => by
    rw [hr] at hi
    subst e
    rw [List.contains_eq_mem] at hn
    simp [hi] at hn⟩⟩
/-- The last operation. -/
theorem wpAnyK_last {o : Oper} {listed : Array Bool} {a : Act} {w : World} {fuel : Nat} (hr : Region.ready md ops listed = [n]) (ho : ops[n]? = some o) (hdone : Region.ready md ops (listed.setIfInBounds n true) = [])
    (h : ∀ K : Act → World → Prop, Hid (∀ a' w', Q .normal a' w' → K a' w') → if Region.wanted o (yielded ops a.tmps) = true then Oper.wp P o a w K Q else K (a.put o.dst undef) w) : wpAnyK P md ops Q S n (fuel + 1) listed a w := by
  refine ⟨by rw [hr]; simp, fun i hi => ?_⟩
  rw [hr] at hi
  obtain rfl : i = n := by simpa using hi
  refine ⟨fun e => absurd rfl e, fun _ => ?_⟩
  have := h (wpAny P md ops Q fuel (listed.setIfInBounds i true)) (Lib.hid (fun a' w' hq => by
    cases fuel with
    | zero => exact ⟨hdone, hq⟩
    | succ fuel => exact ⟨fun _ => hq, fun j hj => by rw [hdone] at hj; cases hj⟩))
  unfold wpOp
  simp only [ho]
  split
  · rename_i hw; rw [if_pos hw] at this; exact .inl this
  · rename_i hw; rw [if_neg hw] at this; exact this
theorem wp_region_k {id : Nat} {a : Act} {w : World} (n : Nat) (hm : P.follows .mixedOrders = true) (hS : S w.drew)
    (h : S w.drew → wpAnyK P .any ops Q S n ops.size (Array.replicate ops.size false) a w.drew) : (Code.region id ops true).wp P Q a w :=
  wp_region_any hm (wpAny_of_k _ _ _ _ (h hS))
end
end Go.Proofs.YtkeeejkijbaooaaDoor
