/-
  Plain: whom Blame shows.
-/
import Derived.Test.YtifcpklaenbclaaGreatDoorOt
import Derived.Test.YtifcpklaenbclaaGreatDoorPl3
namespace Go.Proofs.YtifcpklaenbclaaGreatDoor
open Go.RowKit
set_option linter.unusedVariables false

/-- It is not as it was dealt. -/
def neB (D : Deal) (a : Ans) : Bool := !decide ((a.x, a.b) = D.sh.getD (a.x - 1).toNat (0, noneT))
def blamed (D : Deal) (ls : List Ans) : Option Ans := ((selS D.r noneT true ls).map Subtype.val).find? (neB D)
def blP (D : Deal) (a : Ans) : ByteArray := witP (D.sa.getD (a.x - 1).toNat noneT) (D.sh.getD (a.x - 1).toNat (0, noneT)) a.salt (a.x, a.b)
def blQ (D : Deal) (a : Ans) : ByteArray := witQ (D.sa.getD (a.x - 1).toNat noneT) (D.sh.getD (a.x - 1).toNat (0, noneT)) a.salt (a.x, a.b)
def blB (D : Deal) (a : Ans) : Bool := witB (D.sa.getD (a.x - 1).toNat noneT) (D.sh.getD (a.x - 1).toNat (0, noneT)) a.salt (a.x, a.b)
/-- What Blame hands back. -/
def BlameR (w : World) (D : Deal) (o : Option Ans) (e : Ending) (w' : World) : Prop :=
  Below w.heap.size w w' ∧ match o with
  | none => e = .returned (.tuple #[.string ⟨#[]⟩, .string ⟨#[]⟩, .bool false])
  | some a => e = .returned (.tuple #[.string (blP D a), .string (blQ D a), .bool (blB D a)])
theorem blamed_none {D : Deal} {ls : List Ans} (h : ∀ x ∈ selS D.r noneT true ls, neB D x.1 = false) : blamed D ls = none := by
  unfold blamed
  rw [List.find?_eq_none]
  intro a ha
  obtain ⟨x, hx, rfl⟩ := List.mem_map.1 ha
  rw [h x hx]
  simp
theorem blamed_some {D : Deal} {ls : List Ans} {pre : List (FA D.r noneT true)} {x : FA D.r noneT true} (h : pre ++ [x] <+: selS D.r noneT true ls) (h1 : ∀ y ∈ pre, neB D y.1 = false) (h2 : neB D x.1 = true) : blamed D ls = some x.1 := by
  obtain ⟨t, ht⟩ := h
  unfold blamed
  rw [← ht, List.map_append, List.map_append, List.append_assoc, List.find?_append]
  have : (pre.map Subtype.val).find? (neB D) = none := by
    rw [List.find?_eq_none]
    intro a ha
    obtain ⟨y, hy, rfl⟩ := List.mem_map.1 ha
    rw [h1 y hy]
    simp
  rw [this, List.map_cons, List.map_nil, List.singleton_append, List.find?_cons_of_pos h2]
  rfl
/-- Whoever fits is as dealt, or someone is blamed. -/
theorem dealt_or {D : Deal} {ls : List Ans} : (∀ a ∈ ls, fitB D.r a = true → (a.x, a.b) = D.sh.getD (a.x - 1).toNat (0, noneT)) ∨ ∃ a, blamed D ls = some a ∧ fitB D.r a = true ∧ neB D a = true := by
  cases h : blamed D ls with
  | none =>
    left
    intro a ha hf
    unfold blamed at h
    rw [sel_val, List.find?_eq_none] at h
    have := h a (List.mem_filter.2 ⟨ha, by simp [tells, hf]⟩)
    unfold neB at this
    simpa using this
  | some a =>
    right
    refine ⟨a, rfl, ?_, List.find?_some h⟩
    have hm := List.mem_of_find?_eq_some h
    rw [sel_val] at hm
    have := (List.mem_filter.1 hm).2
    simpa [tells] using this
theorem btext_inj {s o : ByteArray} {p q : Shr} (h1 : brightB s p = true) (h2 : brightB o q = true) (h : btextB s p = btextB o q) : s = o ∧ p = q := by
  obtain ⟨a1, a2, a3, a4⟩ := bright_is h1
  obtain ⟨b1, b2, b3, b4⟩ := bright_is h2
  have h' := congrArg (fun x : ByteArray => x.data.toList) h
  simp only [btextB, ByteArray.data_append, Array.toList_append] at h'
  have e1 := List.append_inj h' (by simp [len_data, a1, b1, bs_data])
  have e2 := List.append_inj e1.1 (by simp [len_data, a1, b1])
  have e3 := List.append_inj e2.1 rfl
  obtain ⟨x, y⟩ := p
  obtain ⟨z, u⟩ := q
  simp only at a2 a3 a4 b2 b3 b4 e1 e2 ⊢
  have e4 : UInt8.ofNat x.toNat = UInt8.ofNat z.toNat := by
    have := e2.2
    rw [bs_data, bs_data] at this
    injection this
  have e5 := congrArg UInt8.toNat e4
  rw [UInt8.toNat_ofNat', UInt8.toNat_ofNat'] at e5
  have hx : x = z := by omega
  have hs : s = o := by rw [← bs_of s, ← bs_of o, e3.2]
  have hy : y = u := by rw [← bs_of y, ← bs_of u, e1.2]
  exact ⟨hs, by rw [hx, hy]⟩
/-- Who is blamed shows two texts with one Sum. -/
theorem blamed_shows {D : Deal} {m : Nat} {t : List UInt8} (g : Good D m t) {a : Ans} (hf : fitB D.r a = true) (hn : neB D a = true) : blB D a = true ∧ blP D a ≠ blQ D a ∧ bs (sumL (blP D a).data.toList) = bs (sumL (blQ D a).data.toList) := by
  obtain ⟨hp, hx, hck⟩ := fit_parts hf
  obtain ⟨l1, l2, -, -, -⟩ := place_le D.r a.nm hp
  have hi : placeN D.r a.nm - 1 < D.r.ns.length := by omega
  have hix : (a.x - 1).toNat = placeN D.r a.nm - 1 := by omega
  unfold neB at hn
  rw [hix, good_sh g hi] at hn
  have hne : (a.x, a.b) ≠ pick D.sec.data.toList t m (placeN D.r a.nm - 1) := by simpa using hn
  rw [checkP, g.pl _ hi, Bool.and_eq_true, decide_eq_true_eq] at hck
  have hb := g.br _ hi
  have hw : witB (D.sa.getD (placeN D.r a.nm - 1) noneT) (pick D.sec.data.toList t m (placeN D.r a.nm - 1)) a.salt (a.x, a.b) = true := by
    unfold witB
    rw [hb, hck.1, hck.2, decide_eq_false (p := pick _ _ _ _ = _) (fun e => hne e.symm)]
    simp
  unfold blB blP blQ
  rw [hix, good_sh g hi, hw]
  unfold witP witQ
  rw [if_pos hw, if_pos hw]
  exact ⟨rfl, fun e => hne (btext_inj hb hck.1 e).2.symm, hck.2.symm⟩
end Go.Proofs.YtifcpklaenbclaaGreatDoor
