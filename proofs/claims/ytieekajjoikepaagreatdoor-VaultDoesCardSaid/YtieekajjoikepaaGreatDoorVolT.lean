/-
  Plain: volumes (hide, show, read, write, rekey).
-/
import Derived.Test.YtieekajjoikepaaGreatDoorTrT
import Derived.Test.YtieekajjoikepaaGreatDoorSealT
import Derived.Shelf.Strconv.Itoa1
namespace Go.Proofs.YtieekajjoikepaaGreatDoor
open Go.RowKit
set_option linter.unusedVariables false
set_option linter.unusedSimpArgs false

def noT : ByteArray := ⟨#[]⟩
def blockT : ByteArray := ⟨#[98, 108, 111, 99, 107, 32]⟩
def digT (i : Nat) : ByteArray := ⟨(Lib.decDigits i).toArray⟩
def besT (i : Int) : ByteArray := blockT ++ digT i.toNat
def inVol (i : Int) : Bool := decide (0 ≤ i) && decide (i < 64)
theorem digT_size {i : Nat} (h : i < 64) : (digT i).size ≤ 2 := by
  have key : ∀ n, n < 64 → (Lib.decDigits n).length ≤ 2 := by decide +kernel
  exact key i h
theorem besT_size {i : Int} (h : inVol i = true) : (besT i).size ≤ 8 := by
  simp only [inVol, Bool.and_eq_true, decide_eq_true_eq] at h
  have h2 := digT_size (i := i.toNat) (by omega)
  unfold besT
  rw [ByteArray.size_append, show blockT.size = 6 from rfl]
  omega
def hideE (key nonce : ByteArray) (i : Int) (s : ByteArray) : Nat := if inVol i = false then 1 else if 64 < s.size then 2 else sealE key nonce (besT i) s
def hideS (key nonce : ByteArray) (i : Int) (s : ByteArray) : ByteArray := if hideE key nonce i s = 0 then nonce ++ sealS key nonce (besT i) s else noT
def showE (key : ByteArray) (i : Int) (st : ByteArray) : Nat := if inVol i = false then 1 else if st.size = 0 then 0 else if st.size < 12 then 60 else openE key (st.extract 0 12) (besT i) (st.extract 12 st.size)
def showS (key : ByteArray) (i : Int) (st : ByteArray) : ByteArray := if inVol i = false ∨ st.size = 0 ∨ st.size < 12 then noT else openS key (st.extract 0 12) (besT i) (st.extract 12 st.size)
theorem hide_parts {key nonce : ByteArray} {i : Int} {s : ByteArray} (h : hideE key nonce i s = 0) : inVol i = true ∧ s.size ≤ 64 ∧ sealE key nonce (besT i) s = 0 ∧ nonce.size = 12 ∧ hideS key nonce i s = nonce ++ sealS key nonce (besT i) s := by
  have hs : hideS key nonce i s = nonce ++ sealS key nonce (besT i) s := by unfold hideS; rw [if_pos h]
  unfold hideE at h
  by_cases h1 : inVol i = false
  · rw [if_pos h1] at h; cases h
  rw [if_neg h1] at h
  by_cases h2 : 64 < s.size
  · rw [if_pos h2] at h; cases h
  rw [if_neg h2] at h
  have hn : nonce.size = 12 := by
    unfold sealE at h
    split at h
    · cases h
    · rename_i h1
      have h3 : onceE key nonce = 0 := Decidable.not_not.1 h1
      unfold onceE at h3
      split at h3
      · rename_i hk; exact hk.2
      · cases h3
  exact ⟨by simpa using h1, by omega, h, hn, hs⟩
/-- What was hidden is shown. -/
theorem hide_show {key nonce : ByteArray} {i : Int} {s : ByteArray} (h : hideE key nonce i s = 0) : showE key i (hideS key nonce i s) = 0 ∧ showS key i (hideS key nonce i s) = s ∧ (hideS key nonce i s).size = 28 + s.size ∧ s.size ≤ 64 := by
  obtain ⟨h1, h2, h3, h4, h5⟩ := hide_parts h
  obtain ⟨o1, o2, o3⟩ := open_seal h3
  have hz : (hideS key nonce i s).size = 28 + s.size := by rw [h5, ByteArray.size_append]; omega
  have x1 : (hideS key nonce i s).extract 0 12 = nonce := by
    rw [h5, extract_bs, ByteArray.data_append, Array.toList_append, List.drop_zero, List.take_append_of_le_length (by rw [len_data]; omega), List.take_of_length_le (by rw [len_data]; omega)]
    rfl
  have x2 : (hideS key nonce i s).extract 12 (hideS key nonce i s).size = sealS key nonce (besT i) s := by
    rw [hz, h5, extract_bs, ByteArray.data_append, Array.toList_append, List.take_of_length_le (by rw [List.length_append, len_data, len_data]; omega), List.drop_append_of_le_length (by rw [len_data]; omega), List.drop_of_length_le (by rw [len_data]; omega), List.nil_append]
    rfl
  have hp : ¬ inVol i = false := by rw [h1]; simp
  refine ⟨?_, ?_, hz, h2⟩
  · unfold showE
    rw [if_neg hp, if_neg (by omega), if_neg (by omega), x1, x2]
    exact o1
  · unfold showS
    rw [if_neg (by rintro (h | h | h); exact hp h; omega; omega), x1, x2]
    exact o2
theorem hide_ok {key nonce : ByteArray} {i : Int} {s : ByteArray} (h1 : inVol i = true) (h2 : s.size ≤ 64) (h3 : key.size = 32) (h4 : nonce.size = 12) : hideE key nonce i s = 0 := by
  have hb := besT_size h1
  have ho : onceE key nonce = 0 := by unfold onceE; rw [if_pos ⟨h3, h4⟩]
  unfold hideE sealE
  rw [if_neg (by rw [h1]; simp), if_neg (by omega), if_neg (by rw [ho]; simp), if_neg (by omega)]
theorem show_empty {key : ByteArray} {i : Int} (h1 : inVol i = true) : showE key i noT = 0 ∧ showS key i noT = noT := by
  unfold showE showS
  rw [if_neg (by rw [h1]; simp), if_pos (show noT.size = 0 from rfl), if_pos (.inr (.inl rfl))]
  exact ⟨rfl, rfl⟩

structure Vol where
  bl : List ByteArray
  rt : ByteArray
def vol0 : Vol := ⟨[], noT⟩
def countB (n : Nat) : Bool := decide (1 ≤ n) && decide (n ≤ 64) && decide (n &&& (n - 1) = 0)
theorem count_may {n : Nat} (h : countB n = true) : mayB n = true := by
  simp only [countB, mayB, Bool.and_eq_true, decide_eq_true_eq] at h ⊢
  exact ⟨⟨h.1.1, by omega⟩, h.2⟩
theorem count_le {n : Nat} (h : countB n = true) : 1 ≤ n ∧ n ≤ 64 := by
  simp only [countB, Bool.and_eq_true, decide_eq_true_eq] at h
  exact h.1
def checkV (v : Vol) : Bool := countB v.bl.length && decide (v.rt.size = 32) && v.bl.all fun b => decide (b.size ≤ 92)
def fitE (v : Vol) (there : Bool) : Nat := if checkV v = false then 160 else if there = false then 1 else if rootT v.bl = v.rt then 0 else 161
def hasV (v : Vol) (i : Int) : Bool := decide (0 ≤ i) && decide (i < (v.bl.length : Int))
def readE (v : Vol) (key : ByteArray) (i : Int) : Nat := if fitE v (hasV v i) ≠ 0 then fitE v (hasV v i) else showE key i (v.bl.getD i.toNat noT)
def vreadS (v : Vol) (key : ByteArray) (i : Int) : ByteArray := if fitE v (hasV v i) ≠ 0 then noT else showS key i (v.bl.getD i.toNat noT)
def writeE (v : Vol) (key nonce : ByteArray) (i : Int) (s : ByteArray) : Nat := if fitE v (hasV v i) ≠ 0 then fitE v (hasV v i) else hideE key nonce i s
def rooted (l : List ByteArray) : Vol := ⟨l, rootT l⟩
def writeV (v : Vol) (key nonce : ByteArray) (i : Int) (s : ByteArray) : Vol := if writeE v key nonce i s = 0 then rooted (v.bl.set i.toNat (hideS key nonce i s)) else vol0
theorem fit_zero {v : Vol} {t : Bool} (h : fitE v t = 0) : checkV v = true ∧ t = true ∧ rootT v.bl = v.rt := by
  unfold fitE at h
  by_cases h1 : checkV v = false
  · rw [if_pos h1] at h; cases h
  rw [if_neg h1] at h
  by_cases h2 : t = false
  · rw [if_pos h2] at h; cases h
  rw [if_neg h2] at h
  by_cases h3 : rootT v.bl = v.rt
  · exact ⟨by simpa using h1, by simpa using h2, h3⟩
  · rw [if_neg h3] at h; cases h
theorem fit_ok {v : Vol} (h1 : checkV v = true) (h2 : rootT v.bl = v.rt) : fitE v true = 0 := by
  unfold fitE
  rw [if_neg (by rw [h1]; simp), if_neg (by simp), if_pos h2]
theorem vol_parts {v : Vol} (h : checkV v = true) : countB v.bl.length = true ∧ v.rt.size = 32 ∧ ∀ b ∈ v.bl, b.size ≤ 92 := by
  simp only [checkV, Bool.and_eq_true, decide_eq_true_eq, List.all_eq_true] at h
  exact ⟨h.1.1, h.1.2, h.2⟩
theorem check_rooted {l : List ByteArray} (h1 : countB l.length = true) (h2 : ∀ b ∈ l, b.size ≤ 92) : checkV (rooted l) = true := by
  unfold checkV rooted
  simp only [Bool.and_eq_true, decide_eq_true_eq, List.all_eq_true]
  exact ⟨⟨h1, rootT_size (count_may h1)⟩, h2⟩
/-- What a Write that went well leaves. -/
theorem write_is {v : Vol} {key nonce : ByteArray} {i : Int} {s : ByteArray} (h : writeE v key nonce i s = 0) :
    checkV v = true ∧ hasV v i = true ∧ hideE key nonce i s = 0 ∧ writeV v key nonce i s = rooted (v.bl.set i.toNat (hideS key nonce i s)) ∧ checkV (writeV v key nonce i s) = true := by
  have hv : writeV v key nonce i s = rooted (v.bl.set i.toNat (hideS key nonce i s)) := by unfold writeV; rw [if_pos h]
  unfold writeE at h
  by_cases h1 : fitE v (hasV v i) ≠ 0
  · rw [if_pos h1] at h; exact absurd h h1
  rw [if_neg h1] at h
  obtain ⟨c1, c2, c3⟩ := fit_zero (Decidable.not_not.1 h1)
  obtain ⟨p1, p2, p3⟩ := vol_parts c1
  refine ⟨c1, c2, h, hv, ?_⟩
  rw [hv]
  refine check_rooted (by rw [List.length_set]; exact p1) fun b hb => ?_
  rcases List.mem_or_eq_of_mem_set hb with hb | rfl
  · exact p3 b hb
  · have := hide_show h; omega
theorem vread_ok {l : List ByteArray} {key : ByteArray} {i : Nat} (h1 : checkV (rooted l) = true) (hi : i < l.length) : readE (rooted l) key (i : Int) = showE key (i : Int) l[i] ∧ vreadS (rooted l) key (i : Int) = showS key (i : Int) l[i] := by
  have hh : hasV (rooted l) (i : Int) = true := by
    unfold hasV rooted
    simp only [Bool.and_eq_true, decide_eq_true_eq]
    omega
  have hf : fitE (rooted l) (hasV (rooted l) (i : Int)) = 0 := by rw [hh]; exact fit_ok h1 rfl
  have hg : (rooted l).bl.getD ((i : Int)).toNat noT = l[i] := by
    show l.getD i noT = l[i]
    rw [List.getD_eq_getElem?_getD, List.getElem?_eq_getElem hi]
    rfl
  unfold readE vreadS
  rw [if_neg (by rw [hf]; simp), if_neg (by rw [hf]; simp), hg]
  exact ⟨rfl, rfl⟩
end Go.Proofs.YtieekajjoikepaaGreatDoor
