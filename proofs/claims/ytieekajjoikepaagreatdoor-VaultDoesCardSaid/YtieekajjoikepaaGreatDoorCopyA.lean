/-
  append(nil, l...): a copy of its own (turned out of the plain text of platters).
-/
import Derived.Test.YtieekajjoikepaaGreatDoorTxt
import Derived.Deep.Upon
import Derived.Test.YtieekajjoikepaaGreatDoorGen
import Derived.Maps.OwnSet
namespace Go.Proofs.YtieekajjoikepaaGreatDoor
open Go.RowKit
set_option linter.unusedVariables false
set_option linter.unusedSimpArgs false

theorem cadd_none (b off j : Nat) : (⟨b, off, none⟩ : Addr).add j = ⟨b, off + j, none⟩ := by
  unfold Addr.add
  split
  · rename_i h; subst h; rfl
  · rfl
theorem run_append_copy {P : Program} (w : World) (t ty : TypeId) (B : Nat) (e : TypeId) (z : Value) (size bytes : Nat) (ht : P.underlying t = some (.slice e)) (hi : (P.info? e).map (fun i => (i.zero, i.size, i.bytes)) = some (some z, size, bytes)) (hzs : z.cells.size = size) (hsz : 0 < size)
    (A : Option Addr) (m c : Nat) (news : List Value) (hr : Rd w A news) (hl : news.length = m * size) (h1 : ∀ u ∈ news, u.oneCell' = true) (h63 : m ≤ 1000000000) (hbytes : bytes ≤ 1000) (hB : B ≤ w.heap.size) :
    ∃ A' cap w', (Builtin.append_ #[t, t] ty #[.slice none 0 0, .slice A m c]).run P w = .ok (.slice A' m cap) w' ∧ w'.ownsRow B e size (.slice A' m cap) m news ∧ Below w.heap.size w w' := by
  obtain ⟨i, hi0, hi1, hi2, hi3⟩ := info_parts hi
  by_cases hm : m = 0
  · subst hm
    rw [Nat.zero_mul] at hl
    obtain rfl : news = [] := List.eq_nil_of_length_eq_zero hl
    refine ⟨none, 0, w, ?_, World.ownsRow_nil w B e size, Below.refl _ _⟩
    cases A with
    | none => exact run_append_nothing w t t ty e i ht hi0 none 0 0 (Nat.le_refl _) _ (Src.ofNil w ht c)
    | some a => exact run_append_nothing w t t ty e i ht hi0 none 0 0 (Nat.le_refl _) _ (Src.ofSlice w ht a 0 c [] (by simp) (by simp) (by simp))
  · have hlen : 0 < news.length := by rw [hl]; exact Nat.mul_pos (by omega) hsz
    obtain ⟨b, off, hA, _⟩ := hr 0 news[0] (by simp [hlen])
    subst hA
    obtain ⟨g, cap, w', hrun, ho, hg, hat, hlt⟩ := run_append_lies (P := P) w t ty B e i z size bytes ht hi0 hi1 hi2 hi3 hzs hsz (.slice none 0 0) 0 [] (World.ownsRow_nil w B e size) ⟨b, off, none⟩ m c news hl
      (fun j u hu => by
        obtain ⟨b', off', hA, hc⟩ := hr j u hu
        injection hA with hA
        injection hA with e1 e2
        subst e1 e2
        rw [cadd_none, hc]) h1 (by omega) (by unfold maxLen; omega) (by
          have : (0 + m) * bytes ≤ 1000000000 * 1000 := Nat.mul_le_mul (by omega) hbytes
          omega) hB _ rfl
    rw [Nat.zero_add] at hrun ho
    exact ⟨some ⟨g, 0, none⟩, cap, w', hrun, ho, ⟨hg.os, hg.tape, hg.output, hg.size, fun k hk => hg.block k hk (by simp [Value.ownBlock])⟩⟩

/-- At a step of a region that draws. -/
theorem step_append_copy {P : Program} {ops : Array Oper} {o : Oper} {a : Act} {w : World} {K : Act → World → Prop} {Q : Exit → Act → World → Prop} {E : Prop} (hgd : o.guard = none) (s x : Operand) (t : TypeId)
    (ho : o.op = .call { callee := .builtin .append, args := #[s, x], argTypes := #[t, t] })
    (B : Nat) (e : TypeId) (z : Value) (size bytes : Nat) (ht : P.underlying t = some (.slice e)) (hi : (P.info? e).map (fun i => (i.zero, i.size, i.bytes)) = some (some z, size, bytes)) (hzs : z.cells.size = size) (hsz : 0 < size)
    (hs : a.eval s = .slice none 0 0) (A : Option Addr) (m c : Nat) (hx : a.eval x = .slice A m c) (news : List Value) (hr : Rd w A news) (hl : news.length = m * size) (h1 : ∀ u ∈ news, u.oneCell' = true) (h63 : m ≤ 1000000000) (hbytes : bytes ≤ 1000) (hB : B ≤ w.heap.size)
    (h : ∀ A' cap w', w'.ownsRow B e size (.slice A' m cap) m news → Below w.heap.size w w' → K (a.put o.dst (.slice A' m cap)) w') :
    if Region.wanted o (yielded ops a.tmps) = true then Oper.wp P o a w K Q else E := by
  have hw : Region.wanted o (yielded ops a.tmps) = true := by simp [Region.wanted, hgd]
  rw [if_pos hw]
  obtain ⟨A', cap, w', hrun, h2, h3⟩ := run_append_copy (P := P) w t o.type B e z size bytes ht hi hzs hsz A m c news hr hl h1 h63 hbytes hB
  unfold Oper.wp execOp
  simp only [ho, resolve, invoke, builtin, Sem.run_bind, Sem.run_pure, Result.andThen_ok, List.map_toArray, List.map_cons, List.map_nil, hs, hx, hrun]
  exact h A' cap w' h2 h3
/-- In a plain region. -/
theorem wpList_append_copy {P : Program} {ops : Array Oper} {rest : List Oper} {o : Oper} {a : Act} {w : World} {Q : Exit → Act → World → Prop} (hgd : o.guard = none) (s x : Operand) (t : TypeId)
    (ho : o.op = .call { callee := .builtin .append, args := #[s, x], argTypes := #[t, t] })
    (B : Nat) (e : TypeId) (z : Value) (size bytes : Nat) (ht : P.underlying t = some (.slice e)) (hi : (P.info? e).map (fun i => (i.zero, i.size, i.bytes)) = some (some z, size, bytes)) (hzs : z.cells.size = size) (hsz : 0 < size)
    (hs : a.eval s = .slice none 0 0) (A : Option Addr) (m c : Nat) (hx : a.eval x = .slice A m c) (news : List Value) (hr : Rd w A news) (hl : news.length = m * size) (h1 : ∀ u ∈ news, u.oneCell' = true) (h63 : m ≤ 1000000000) (hbytes : bytes ≤ 1000) (hB : B ≤ w.heap.size)
    (h : ∀ A' cap w', w'.ownsRow B e size (.slice A' m cap) m news → Below w.heap.size w w' → wpList P ops Q rest (a.put o.dst (.slice A' m cap)) w') :
    wpList P ops Q (o :: rest) a w := by
  refine wpList_plain hgd fun K hK => ?_
  obtain ⟨A', cap, w', hrun, h2, h3⟩ := run_append_copy (P := P) w t o.type B e z size bytes ht hi hzs hsz A m c news hr hl h1 h63 hbytes hB
  unfold Oper.wp execOp
  simp only [ho, resolve, invoke, builtin, Sem.run_bind, Sem.run_pure, Result.andThen_ok, List.map_toArray, List.map_cons, List.map_nil, hs, hx, hrun]
  exact hK _ _ (h A' cap w' h2 h3)
end Go.Proofs.YtieekajjoikepaaGreatDoor
