/-
  Plain: names, records, places.
-/
import Derived.Test.YtifcpklaenbclaaGreatDoorTxt
namespace Go.Proofs.YtifcpklaenbclaaGreatDoor
open Go.RowKit
set_option linter.unusedVariables false
set_option linter.unusedSimpArgs false

def noneT : ByteArray := ⟨#[]⟩
/-- A record. -/
structure Rec where
  e : Int
  k : Int
  ns : List ByteArray
  ps : List ByteArray
/-- Is it a letter or a digit? -/
def okC (c : UInt8) : Bool := (decide (97 ≤ c.toNat) && decide (c.toNat ≤ 122)) || (decide (48 ≤ c.toNat) && decide (c.toNat ≤ 57))
def nameB (s : ByteArray) : Bool := decide (1 ≤ s.size) && decide (s.size ≤ 20) && s.data.toList.all okC
def lessB (a b : ByteArray) : Bool := Op.bytesLess a.toList b.toList
def headR (r : Rec) : Bool := decide (1 ≤ r.e) && decide (r.e ≤ 1000000) && decide (1 ≤ r.ns.length) && decide (r.ns.length ≤ 16) && decide (r.ps.length = r.ns.length) && decide (1 ≤ r.k) && decide (r.k ≤ r.ns.length)
def okE (r : Rec) (i : Nat) : Bool := nameB (r.ns.getD i noneT) && decide ((r.ps.getD i noneT).size = 32) && (decide (i = 0) || lessB (r.ns.getD (i - 1) noneT) (r.ns.getD i noneT))
def checkR (r : Rec) : Bool := headR r && (List.range r.ns.length).all (okE r)

theorem less_list (x : List UInt8) : ∀ y, Op.bytesLess x y = true ↔ x < y := by
  induction x with
  | nil => intro y; cases y <;> simp [Op.bytesLess]
  | cons a x ih =>
    intro y
    cases y with
    | nil => simp [Op.bytesLess]
    | cons b y => simp [Op.bytesLess, List.cons_lt_cons_iff, ih y]
theorem less_eq (a b : ByteArray) : lessB a b = decide (a.data.toList < b.data.toList) := by
  unfold lessB
  rw [Bool.eq_iff_iff, less_list, ByteArray.toList_eq, ByteArray.toList_eq, decide_eq_true_eq]
theorem data_inj {a b : ByteArray} (h : a.data.toList = b.data.toList) : a = b := ByteArray.ext (Array.toList_inj.1 h)
/-- `name <= before` is just: not before < name. -/
theorem leq_less (a b : ByteArray) : (Op.bytesLess a.toList b.toList || a.toList == b.toList) = !lessB b a := by
  have h1 : Op.bytesLess a.toList b.toList = decide (a.data.toList < b.data.toList) := less_eq a b
  have h2 : (a.toList == b.toList) = decide (a.data.toList = b.data.toList) := by
    rw [ByteArray.toList_eq, ByteArray.toList_eq]
    rw [Bool.eq_iff_iff, beq_iff_eq, decide_eq_true_eq]
  rw [h1, h2, less_eq]
  generalize a.data.toList = x
  generalize b.data.toList = y
  rw [Bool.eq_iff_iff]
  simp only [Bool.or_eq_true, decide_eq_true_eq, Bool.not_eq_true', decide_eq_false_iff_not]
  constructor
  · rintro (h | h)
    · exact fun h' => List.lt_asymm h h'
    · rw [h]; exact List.lt_irrefl y
  · intro h
    by_cases e : x = y
    · exact .inr e
    · left
      have := List.not_lt.1 h
      rcases List.le_iff_lt_or_eq.1 this with h | h
      · exact h
      · exact absurd h e
theorem less_trans {a b c : ByteArray} (h : lessB a b = true) (h' : lessB b c = true) : lessB a c = true := by
  rw [less_eq, decide_eq_true_eq] at h h' ⊢
  exact List.lt_trans h h'
theorem less_ne {a b : ByteArray} (h : lessB a b = true) : a ≠ b := by
  rintro rfl
  rw [less_eq, decide_eq_true_eq] at h
  exact List.lt_irrefl _ h
theorem check_head {r : Rec} (h : checkR r = true) : 1 ≤ r.e ∧ r.e ≤ 1000000 ∧ 1 ≤ r.ns.length ∧ r.ns.length ≤ 16 ∧ r.ps.length = r.ns.length ∧ 1 ≤ r.k ∧ r.k ≤ r.ns.length := by
  simp only [checkR, headR, Bool.and_eq_true, decide_eq_true_eq] at h
  obtain ⟨⟨⟨⟨⟨⟨⟨h1, h2⟩, h3⟩, h4⟩, h5⟩, h6⟩, h7⟩, _⟩ := h
  exact ⟨h1, h2, h3, h4, h5, h6, h7⟩
theorem check_at {r : Rec} (h : checkR r = true) (i : Nat) (hi : i < r.ns.length) : okE r i = true := by
  simp only [checkR, Bool.and_eq_true] at h
  exact List.all_eq_true.1 h.2 i (List.mem_range.2 hi)
theorem check_sorted {r : Rec} (h : checkR r = true) : ∀ (d i : Nat), i + d + 1 < r.ns.length → lessB (r.ns.getD i noneT) (r.ns.getD (i + d + 1) noneT) = true
  | 0, i, hi => by
    have := check_at h (i + 1) hi
    simp only [okE, Bool.and_eq_true, Bool.or_eq_true, decide_eq_true_eq] at this
    rcases this.2 with e | e
    · omega
    · exact e
  | d + 1, i, hi => by
    have h1 := check_sorted h d i (by omega)
    have := check_at h (i + (d + 1) + 1) hi
    simp only [okE, Bool.and_eq_true, Bool.or_eq_true, decide_eq_true_eq] at this
    rcases this.2 with e | e
    · omega
    · exact less_trans h1 e
theorem check_nodup {r : Rec} (h : checkR r = true) : r.ns.Nodup := by
  refine List.pairwise_iff_getElem.2 fun i j hi hj hij => ?_
  have h1 := check_sorted h (j - i - 1) i (by omega)
  have h2 := less_ne h1
  rw [show i + (j - i - 1) + 1 = j by omega] at h2
  simpa [List.getD_eq_getElem?_getD, hi, hj] using h2

/-- A name's place, from 1 on; 0: none. -/
def placeB (r : Rec) (name : ByteArray) : Bool := checkR r && r.ns.any fun n => decide (n = name)
def placeN (r : Rec) (name : ByteArray) : Nat := if placeB r name = true then r.ns.findIdx (fun n => decide (n = name)) + 1 else 0
theorem any_mem {l : List ByteArray} {x : ByteArray} : (l.any fun n => decide (n = x)) = true ↔ x ∈ l := by simp [List.any_eq_true]
theorem idx_eq {l : List ByteArray} {x : ByteArray} {i : Nat} (hi : i < l.length) (h : l[i] = x) (hn : x ∉ l.take i) : l.findIdx (fun n => decide (n = x)) = i := by
  rw [List.findIdx_eq hi]
  refine ⟨by simpa using h, fun j hj => ?_⟩
  rw [decide_eq_false_iff_not]
  intro e
  exact hn (List.mem_iff_getElem.2 ⟨j, by simp; omega, by rw [List.getElem_take]; exact e⟩)
theorem take_next {l : List ByteArray} {x : ByteArray} {i : Nat} (hi : i < l.length) (h : l[i] ≠ x) (hn : x ∉ l.take i) : x ∉ l.take (i + 1) := by
  rw [List.take_succ_eq_append_getElem hi]
  simp only [List.mem_append, List.mem_singleton, not_or]
  exact ⟨hn, fun e => h e.symm⟩
/-- A row's place is found by its name. -/
theorem place_at {r : Rec} (h : checkR r = true) (i : Nat) (hi : i < r.ns.length) : placeB r r.ns[i] = true ∧ placeN r r.ns[i] = i + 1 := by
  have hp : placeB r r.ns[i] = true := by rw [placeB, h, any_mem.2 (List.getElem_mem hi)]; rfl
  refine ⟨hp, ?_⟩
  rw [placeN, if_pos hp, idx_eq hi rfl]
  intro hm
  obtain ⟨j, hj, e⟩ := List.mem_iff_getElem.1 hm
  rw [List.getElem_take] at e
  have hji : j < i := by simp at hj; omega
  have := List.pairwise_iff_getElem.1 (check_nodup h) j i (by omega) hi hji
  exact this e
theorem place_le (r : Rec) (name : ByteArray) (h : placeB r name = true) : 1 ≤ placeN r name ∧ placeN r name ≤ r.ns.length ∧ checkR r = true ∧ r.ns.getD (placeN r name - 1) noneT = name ∧ name ∈ r.ns := by
  have h2 := h
  simp only [placeB, Bool.and_eq_true] at h2
  have hm := any_mem.1 h2.2
  rw [placeN, if_pos h]
  have hl : r.ns.findIdx (fun n => decide (n = name)) < r.ns.length := List.findIdx_lt_length_of_exists ⟨name, hm, by simp⟩
  refine ⟨by omega, by omega, h2.1, ?_, hm⟩
  have := List.findIdx_getElem (p := fun n => decide (n = name)) (w := hl)
  rw [Nat.add_sub_cancel, List.getD_eq_getElem?_getD, List.getElem?_eq_getElem hl, Option.getD_some]
  exact of_decide_eq_true this
end Go.Proofs.YtifcpklaenbclaaGreatDoor
