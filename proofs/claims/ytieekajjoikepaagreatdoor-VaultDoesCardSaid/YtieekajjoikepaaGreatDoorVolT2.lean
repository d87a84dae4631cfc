/-
  Plain: rekeyed volumes; what a block holds.
-/
import Derived.Test.YtieekajjoikepaaGreatDoorVolT
namespace Go.Proofs.YtieekajjoikepaaGreatDoor
open Go.RowKit
set_option linter.unusedVariables false

/-- One block, rekeyed: the error, and the block. -/
def stepR (old key : ByteArray) (ns : List ByteArray) (i : Nat) (b : ByteArray) : Nat × ByteArray :=
  if b.size = 0 then (0, b) else if showE old i b ≠ 0 then (showE old i b, noT) else (hideE key (ns.getD i noT) i (showS old i b), hideS key (ns.getD i noT) i (showS old i b))
/-- The first i blocks, rekeyed. -/
def rkL (bl : List ByteArray) (old key : ByteArray) (ns : List ByteArray) : Nat → Nat × List ByteArray
  | 0 => (0, bl)
  | i + 1 => if (rkL bl old key ns i).1 ≠ 0 then rkL bl old key ns i else if (stepR old key ns i (bl.getD i noT)).1 ≠ 0 then ((stepR old key ns i (bl.getD i noT)).1, bl) else (0, (rkL bl old key ns i).2.set i (stepR old key ns i (bl.getD i noT)).2)
def rekeyE (v : Vol) (old key : ByteArray) (ns : List ByteArray) : Nat := if fitE v (decide (ns.length = v.bl.length)) ≠ 0 then fitE v (decide (ns.length = v.bl.length)) else (rkL v.bl old key ns v.bl.length).1
def rekeyV (v : Vol) (old key : ByteArray) (ns : List ByteArray) : Vol := if rekeyE v old key ns = 0 then rooted (rkL v.bl old key ns v.bl.length).2 else vol0
theorem rk_stay {bl : List ByteArray} {old key : ByteArray} {ns : List ByteArray} {i : Nat} (h : (rkL bl old key ns i).1 ≠ 0) : ∀ d, rkL bl old key ns (i + d) = rkL bl old key ns i
  | 0 => rfl
  | d + 1 => by
    have ih := rk_stay h d
    show rkL bl old key ns (i + d + 1) = _
    rw [rkL, ih, if_pos h]
theorem rk_bad {bl : List ByteArray} {old key : ByteArray} {ns : List ByteArray} {i : Nat} (h : (rkL bl old key ns i).1 = 0) (hs : (stepR old key ns i (bl.getD i noT)).1 ≠ 0) {n : Nat} (hn : i < n) : (rkL bl old key ns n).1 = (stepR old key ns i (bl.getD i noT)).1 := by
  have h1 : rkL bl old key ns (i + 1) = ((stepR old key ns i (bl.getD i noT)).1, bl) := by rw [rkL, if_neg (by rw [h]; simp), if_pos hs]
  have h2 := rk_stay (bl := bl) (old := old) (key := key) (ns := ns) (i := i + 1) (by rw [h1]; exact hs) (n - (i + 1))
  rw [show i + 1 + (n - (i + 1)) = n by omega] at h2
  rw [h2, h1]
theorem rk_good {bl : List ByteArray} {old key : ByteArray} {ns : List ByteArray} {i : Nat} (h : (rkL bl old key ns i).1 = 0) (hs : (stepR old key ns i (bl.getD i noT)).1 = 0) : rkL bl old key ns (i + 1) = (0, (rkL bl old key ns i).2.set i (stepR old key ns i (bl.getD i noT)).2) := by
  rw [rkL, if_neg (by rw [h]; simp), if_neg (by rw [hs]; simp)]
theorem rk_len (bl : List ByteArray) (old key : ByteArray) (ns : List ByteArray) : ∀ i, (rkL bl old key ns i).2.length = bl.length
  | 0 => rfl
  | i + 1 => by
    rw [rkL]
    split
    · exact rk_len bl old key ns i
    · split
      · rfl
      · rw [List.length_set]; exact rk_len bl old key ns i
/-- Block i holds a text. -/
def Holds (key : ByteArray) (i : Nat) (b want : ByteArray) : Prop := (b = noT ∧ want = noT) ∨ ∃ nonce, hideE key nonce i want = 0 ∧ b = hideS key nonce i want
theorem holds_shows {key : ByteArray} {i : Nat} {b want : ByteArray} (hi : i < 64) (h : Holds key i b want) : showE key i b = 0 ∧ showS key i b = want ∧ b.size ≤ 92 ∧ want.size ≤ 64 := by
  have hp : inVol (i : Int) = true := by simp only [inVol, Bool.and_eq_true, decide_eq_true_eq]; omega
  rcases h with ⟨rfl, rfl⟩ | ⟨nonce, h1, rfl⟩
  · obtain ⟨e1, e2⟩ := show_empty (key := key) hp
    exact ⟨e1, e2, Nat.zero_le _, Nat.zero_le _⟩
  · obtain ⟨e1, e2, e3, e4⟩ := hide_show h1
    exact ⟨e1, e2, by omega, e4⟩
theorem holds_rekey {old key : ByteArray} {ns : List ByteArray} {i : Nat} {b want : ByteArray} (hi : i < 64) (h : Holds old i b want) (hk : key.size = 32) (hn : (ns.getD i noT).size = 12) : (stepR old key ns i b).1 = 0 ∧ Holds key i (stepR old key ns i b).2 want := by
  have hp : inVol (i : Int) = true := by simp only [inVol, Bool.and_eq_true, decide_eq_true_eq]; omega
  obtain ⟨e1, e2, e3, e4⟩ := holds_shows hi h
  unfold stepR
  by_cases hb : b.size = 0
  · rw [if_pos hb]
    refine ⟨rfl, ?_⟩
    rcases h with ⟨rfl, rfl⟩ | ⟨nonce, h1, rfl⟩
    · exact .inl ⟨rfl, rfl⟩
    · have := (hide_show h1).2.2.1
      omega
  · rw [if_neg hb, if_neg (by rw [e1]; simp), e2]
    have h2 := hide_ok (key := key) (nonce := ns.getD i noT) hp e4 hk hn
    exact ⟨h2, .inr ⟨_, h2, rfl⟩⟩
/-- A volume that holds texts, block for block. -/
structure Keeps (key : ByteArray) (bl want : List ByteArray) : Prop where
  cnt : countB bl.length = true
  len : want.length = bl.length
  at_ : ∀ i, i < bl.length → Holds key i (bl.getD i noT) (want.getD i noT)
theorem keeps_check {key : ByteArray} {bl want : List ByteArray} (h : Keeps key bl want) : checkV (rooted bl) = true := by
  refine check_rooted h.cnt fun b hb => ?_
  obtain ⟨i, hi, rfl⟩ := List.getElem_of_mem hb
  have h1 := h.at_ i hi
  have h64 := (count_le h.cnt).2
  have := (holds_shows (by omega) h1).2.2.1
  rw [List.getD_eq_getElem?_getD, List.getElem?_eq_getElem hi] at this
  exact this
theorem keeps_read {key : ByteArray} {bl want : List ByteArray} (h : Keeps key bl want) {i : Nat} (hi : i < bl.length) : readE (rooted bl) key (i : Int) = 0 ∧ vreadS (rooted bl) key (i : Int) = want.getD i noT := by
  have h64 := (count_le h.cnt).2
  obtain ⟨e1, e2, _, _⟩ := holds_shows (by omega) (h.at_ i hi)
  rw [List.getD_eq_getElem?_getD, List.getElem?_eq_getElem hi] at e1 e2
  obtain ⟨r1, r2⟩ := vread_ok (key := key) (keeps_check h) hi
  exact ⟨r1.trans e1, r2.trans e2⟩
theorem keeps_new {n : Nat} (key : ByteArray) (h : countB n = true) : Keeps key (List.replicate n noT) (List.replicate n noT) := by
  refine ⟨by rw [List.length_replicate]; exact h, by simp, fun i hi => .inl ⟨?_, ?_⟩⟩ <;>
  · rw [List.length_replicate] at hi
    rw [List.getD_eq_getElem?_getD, List.getElem?_replicate, if_pos hi]
    rfl
theorem keeps_write {key nonce : ByteArray} {bl want : List ByteArray} (h : Keeps key bl want) {i : Nat} (hi : i < bl.length) {s : ByteArray} (hs : s.size ≤ 64) (hk : key.size = 32) (hn : nonce.size = 12) :
    writeE (rooted bl) key nonce i s = 0 ∧ writeV (rooted bl) key nonce i s = rooted (bl.set i (hideS key nonce i s)) ∧ Keeps key (bl.set i (hideS key nonce i s)) (want.set i s) := by
  have h64 := (count_le h.cnt).2
  have hp : inVol (i : Int) = true := by simp only [inVol, Bool.and_eq_true, decide_eq_true_eq]; omega
  have h2 := hide_ok (key := key) (nonce := nonce) hp hs hk hn
  have hh : hasV (rooted bl) (i : Int) = true := by
    unfold hasV rooted
    simp only [Bool.and_eq_true, decide_eq_true_eq]
    omega
  have hf : fitE (rooted bl) (hasV (rooted bl) (i : Int)) = 0 := by rw [hh]; exact fit_ok (keeps_check h) rfl
  have hw : writeE (rooted bl) key nonce i s = 0 := by unfold writeE; rw [if_neg (by rw [hf]; simp)]; exact h2
  refine ⟨hw, by unfold writeV; rw [if_pos hw]; rfl, ⟨by rw [List.length_set]; exact h.cnt, by rw [List.length_set, List.length_set]; exact h.len, fun j hj => ?_⟩⟩
  rw [List.length_set] at hj
  by_cases e : j = i
  · subst e
    have hjw : j < want.length := by rw [h.len]; exact hj
    rw [List.getD_eq_getElem?_getD, List.getElem?_set_self hj, List.getD_eq_getElem?_getD, List.getElem?_set_self hjw]
    exact .inr ⟨nonce, h2, rfl⟩
  · rw [List.getD_eq_getElem?_getD, List.getElem?_set_ne (Ne.symm e), List.getD_eq_getElem?_getD, List.getElem?_set_ne (Ne.symm e), ← List.getD_eq_getElem?_getD, ← List.getD_eq_getElem?_getD]
    exact h.at_ j hj
theorem write_bad {bl : List ByteArray} {key nonce : ByteArray} {i : Int} {s : ByteArray} (h : i < 0 ∨ (bl.length : Int) ≤ i ∨ 64 < s.size) : writeE (rooted bl) key nonce i s ≠ 0 := by
  intro hw
  obtain ⟨_, h2, h3, _, _⟩ := write_is hw
  have h4 := (hide_parts h3).2.1
  unfold hasV rooted at h2
  simp only [Bool.and_eq_true, decide_eq_true_eq] at h2
  omega
theorem keeps_rk {old key : ByteArray} {ns bl want : List ByteArray} (h : Keeps old bl want) (hk : key.size = 32) (hn : ∀ i, i < bl.length → (ns.getD i noT).size = 12) : ∀ i, i ≤ bl.length → (rkL bl old key ns i).1 = 0 ∧ ∀ j, j < bl.length → (j < i → Holds key j ((rkL bl old key ns i).2.getD j noT) (want.getD j noT))
  | 0, _ => ⟨rfl, fun j _ hj => absurd hj (Nat.not_lt_zero j)⟩
  | i + 1, hi => by
    have h64 := (count_le h.cnt).2
    obtain ⟨ih1, ih2⟩ := keeps_rk h hk hn i (by omega)
    obtain ⟨s1, s2⟩ := holds_rekey (ns := ns) (by omega) (h.at_ i (by omega)) hk (hn i (by omega))
    rw [rk_good ih1 s1]
    refine ⟨rfl, fun j hj hji => ?_⟩
    by_cases e : j = i
    · subst e
      rw [List.getD_eq_getElem?_getD, List.getElem?_set_self (by rw [rk_len]; omega)]
      exact s2
    · rw [List.getD_eq_getElem?_getD, List.getElem?_set_ne (Ne.symm e), ← List.getD_eq_getElem?_getD]
      exact ih2 j hj (by omega)
theorem keeps_rekey {old key : ByteArray} {ns bl want : List ByteArray} (h : Keeps old bl want) (hk : key.size = 32) (hl : ns.length = bl.length) (hn : ∀ i, i < bl.length → (ns.getD i noT).size = 12) :
    rekeyE (rooted bl) old key ns = 0 ∧ ∃ l, rekeyV (rooted bl) old key ns = rooted l ∧ l.length = bl.length ∧ Keeps key l want := by
  have hf : fitE (rooted bl) (decide (ns.length = (rooted bl).bl.length)) = 0 := by
    rw [decide_eq_true (show ns.length = (rooted bl).bl.length from hl)]
    exact fit_ok (keeps_check h) rfl
  obtain ⟨r1, r2⟩ := keeps_rk (ns := ns) h hk hn bl.length (Nat.le_refl _)
  have he : rekeyE (rooted bl) old key ns = 0 := by unfold rekeyE; rw [if_neg (by rw [hf]; simp)]; exact r1
  have hlen := rk_len bl old key ns bl.length
  refine ⟨he, (rkL bl old key ns bl.length).2, by unfold rekeyV; rw [if_pos he]; rfl, hlen, ⟨by rw [hlen]; exact h.cnt, by rw [hlen]; exact h.len, fun i hi => ?_⟩⟩
  rw [hlen] at hi
  exact r2 i hi hi
end Go.Proofs.YtieekajjoikepaaGreatDoor
