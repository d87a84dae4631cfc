/-
  The vault, plainly: heads, what a disk tells, what a Store lays; no program in sight.
  The vault, plainly: what a Store leaves, whatever deed it is stopped at, and however it crashes.
  The vault, plainly: Store there and back, stopped and crashed; Format.
-/
import Derived.Test.YtieekajjoikepaaGreatDoorPu
import Derived.Test.YtieekajjoikepaaGreatDoorVolT2
namespace Go.Proofs.YtieekajjoikepaaGreatDoor
/- VaT -/
set_option linter.unusedVariables false
set_option linter.unusedSimpArgs false

/-- How many blocks a vault of m sectors has; 0: it is none. -/
def sizeN (m : Nat) : Nat := if m = 5 then 1 else if m = 7 then 2 else if m = 11 then 4 else if m = 19 then 8 else if m = 35 then 16 else if m = 67 then 32 else if m = 131 then 64 else 0
theorem sizeN_len {m : Nat} (h : sizeN m ≠ 0) : m = 3 + 2 * sizeN m ∧ 1 ≤ sizeN m ∧ sizeN m ≤ 64 ∧ countB (sizeN m) = true := by
  revert h
  unfold sizeN
  repeat' split
  all_goals first | (rename_i e; subst e; intro _; decide) | (intro h; exact absurd rfl h)
theorem sizeN_of {n : Nat} (h : countB n = true) : sizeN (3 + 2 * n) = n := by
  have hl := (count_le h)
  have hall : ∀ k, k ≤ 64 → countB k = true → sizeN (3 + 2 * k) = k := by decide
  exact hall n hl.2 h

def vhB (gen area : Int) (root : ByteArray) : Bool := decide (0 ≤ gen) && decide (gen ≤ 1000000000) && decide (0 ≤ area) && decide (area ≤ 1) && decide (root.size = 32)
/-- The bytes of a head. -/
def headS (gen area : Int) (root : ByteArray) : ByteArray := if vhB gen area root then bs (fourL gen ++ [u8 area] ++ root.data.toList) else none0
/-- A head that is told: generation, area, Root; is it one? -/
structure Hdr where
  gen : Nat
  area : Nat
  root : ByteArray
  ok : Bool
def hdrB (s : ByteArray) : Bool := decide (s.size = 37) && decide (cutAcc (s.data.toList.take 4) true 4 0 ≤ 1000000000) && decide ((s.data.toList.getD 4 0).toNat ≤ 1)
def rdHdr (s : ByteArray) : Hdr := if hdrB s then ⟨cutAcc (s.data.toList.take 4) true 4 0, (s.data.toList.getD 4 0).toNat, s.extract 5 s.size, true⟩ else ⟨0, 0, none0, false⟩
theorem vh_parts {gen area : Int} {root : ByteArray} (h : vhB gen area root = true) : 0 ≤ gen ∧ gen ≤ 1000000000 ∧ 0 ≤ area ∧ area ≤ 1 ∧ root.size = 32 := by
  simp only [vhB, Bool.and_eq_true, decide_eq_true_eq] at h
  exact ⟨h.1.1.1.1, h.1.1.1.2, h.1.1.2, h.1.2, h.2⟩
theorem four_len {n : Int} (h : wordB n = true) : (fourL n).length = 4 := by
  rw [fourL, if_pos h, joinL_length]; rfl
theorem vh_size {gen area : Int} {root : ByteArray} (h : vhB gen area root = true) : (headS gen area root).size = 37 := by
  obtain ⟨h0, h1, h2, h3, h4⟩ := vh_parts h
  have hw : wordB gen = true := by simp [wordB]; omega
  rw [headS, if_pos h, bs_size, List.length_append, List.length_append, four_len hw, len_data, h4]
  rfl
theorem vh_small (gen area : Int) (root : ByteArray) : (headS gen area root).size ≤ 128 := by
  by_cases h : vhB gen area root = true
  · rw [vh_size h]; decide
  · rw [headS, if_neg h]; decide
theorem rdHdr_head {gen area : Nat} {root : ByteArray} (h : vhB gen area root = true) : rdHdr (headS gen area root) = ⟨gen, area, root, true⟩ := by
  obtain ⟨h0, h1, h2, h3, h4⟩ := vh_parts h
  have hw : wordB gen = true := by simp [wordB]; omega
  have hz := vh_size h
  have hl : (headS gen area root).data.toList = fourL gen ++ ([u8 area] ++ root.data.toList) := by rw [headS, if_pos h, bs_data, List.append_assoc]
  have h4' := four_len hw
  have e1 : (headS gen area root).data.toList.take 4 = fourL gen := by rw [hl, List.take_append_of_le_length (by omega), List.take_of_length_le (by omega)]
  have e2 : (headS gen area root).data.toList.getD 4 0 = u8 area := by
    rw [hl, List.getD_eq_getElem?_getD, List.getElem?_append_right (by omega), h4']; rfl
  have e3 : cutAcc (fourL gen) true 4 0 = gen := by have := cut_four hw; omega
  have e4 : (u8 (area : Int)).toNat = area := by have := u8_nat (n := (area : Int)) (by omega) (by omega); omega
  have e5 : (headS gen area root).extract 5 (headS gen area root).size = root := by
    have hL : (fourL (gen : Int) ++ ([u8 area] ++ root.data.toList)).length = 37 := by rw [List.length_append, List.length_append, h4', len_data, h4]; rfl
    have hF : (fourL (gen : Int) ++ [u8 area]).length = 5 := by rw [List.length_append, h4']; rfl
    rw [extract_bs, hl, hz, List.take_of_length_le (by omega), ← List.append_assoc, List.drop_append_of_le_length (by omega), List.drop_of_length_le (by omega), List.nil_append]
    rfl
  have hb : hdrB (headS gen area root) = true := by
    rw [hdrB, e1, e2, e3, e4, hz]
    simp
    omega
  rw [rdHdr, if_pos hb, e1, e2, e3, e4, e5]
theorem hdr_parts {s : ByteArray} (h : (rdHdr s).ok = true) : hdrB s = true ∧ (rdHdr s).gen ≤ 1000000000 ∧ (rdHdr s).area ≤ 1 ∧ (rdHdr s).root.size = 32 := by
  unfold rdHdr at h ⊢
  by_cases hb : hdrB s = true
  · rw [if_pos hb]
    have hb' := hb
    simp only [hdrB, Bool.and_eq_true, decide_eq_true_eq] at hb'
    refine ⟨hb, hb'.1.2, hb'.2, ?_⟩
    show (s.extract 5 s.size).size = 32
    rw [ByteArray.size_extract]
    omega
  · rw [if_neg hb] at h
    cases h

/-- A vault that is open. -/
structure Vst where
  n : Nat
  gen : Nat
  area : Nat
  V : Vol
def noVst : Vst := ⟨0, 0, 0, vol0⟩
def blkAt (P : Plat) (n area : Nat) : List ByteArray := (List.range n).map fun i => readS P ((3 + area * n + i : Nat) : Int)
def volAt (P : Plat) : Vol := ⟨blkAt P (sizeN P.ss.length) (rdHdr (getP P 0).1).area, (rdHdr (getP P 0).1).root⟩
def openP (P : Plat) : Vst × Int :=
  if sizeN P.ss.length = 0 then (noVst, 160)
  else if (getP P 0).2.2 ≠ 0 then (noVst, (getP P 0).2.2)
  else if (getP P 0).2.1 = false ∨ (rdHdr (getP P 0).1).ok = false then (noVst, 160)
  else if checkV (volAt P) = false then (noVst, 160)
  else if rootT (volAt P).bl ≠ (volAt P).rt then (noVst, 161)
  else (⟨sizeN P.ss.length, (rdHdr (getP P 0).1).gen, (rdHdr (getP P 0).1).area, volAt P⟩, 0)
def layF (V : Vol) (n area : Nat) (i : Nat) : Plat → Plat × Int := writeP ((3 + (1 - area) * n + i : Nat) : Int) (V.bl.getD i noT)
def layL (V : Vol) (n area : Nat) : List (Plat → Plat × Int) := (List.range n).map (layF V n area)
def deedV (V : Vol) (n area : Nat) : List (Plat → Plat × Int) := layL V n area ++ [syncP]
def allN (n : Nat) (deeds : Int) : Nat := if deeds < 0 ∨ ((n + 5 : Nat) : Int) < deeds then n + 5 else deeds.toNat
def endP (r : Plat × Int) (c : Vst) (V : Vol) (D : Nat) : Plat × Bool × Int :=
  if r.2 ≠ 0 then (noPlat, false, r.2) else if D < c.n + 1 then (r.1, false, 0) else putP r.1 0 (headS ((c.gen + 1 : Nat) : Int) ((1 - c.area : Nat) : Int) V.rt) ((D - (c.n + 1) : Nat) : Int)
def storeP (P : Plat) (V : Vol) (deeds : Int) : Plat × Bool × Int :=
  if (openP P).2 ≠ 0 then (noPlat, false, (openP P).2)
  else if checkV V = false ∨ V.bl.length ≠ (openP P).1.n then (noPlat, false, 160)
  else if rootT V.bl ≠ V.rt then (noPlat, false, 161)
  else if (openP P).1.gen = 1000000000 then (noPlat, false, 260)
  else endP (runL ((deedV V (openP P).1.n (openP P).1.area).take (allN (openP P).1.n deeds)) P) (openP P).1 V (allN (openP P).1.n deeds)
def formatP (n : Nat) : Plat × Int := ((putP (newP (3 + 2 * n)) 0 (headS 0 0 (rootT (List.replicate n noT))) (-1)).1, (putP (newP (3 + 2 * n)) 0 (headS 0 0 (rootT (List.replicate n noT))) (-1)).2.2)

/-- What a vault's disk tells. -/
structure Vt (P : Plat) (n gen area : Nat) (V : Vol) : Prop where
  chk : checkB P = true
  len : P.ss.length = 3 + 2 * n
  cnt : countB n = true
  mark : readS P 0 = mark0 ∨ readS P 0 = mark1
  head : readS P (if readS P 0 = mark0 then 1 else 2) = headS gen area V.rt
  hb : vhB gen area V.rt = true
  bl : V.bl = blkAt P n area
  cv : checkV V = true
  rt : rootT V.bl = V.rt
theorem blkAt_len (P : Plat) (n area : Nat) : (blkAt P n area).length = n := by simp [blkAt]
theorem Vt.blen {P : Plat} {n gen area : Nat} {V : Vol} (h : Vt P n gen area V) : V.bl.length = n := by rw [h.bl, blkAt_len]
theorem Vt.get {P : Plat} {n gen area : Nat} {V : Vol} (h : Vt P n gen area V) : getP P 0 = (headS gen area V.rt, true, 0) := by
  have hl := h.len
  have h1 := (count_le h.cnt).1
  have r0 : readP P 0 = (readS P 0, 0) := readP_in (i := 0) h.chk (by omega)
  have r1 : readP P 1 = (readS P 1, 0) := readP_in (i := 1) h.chk (by omega)
  have r2 : readP P 2 = (readS P 2, 0) := readP_in (i := 2) h.chk (by omega)
  have hh := h.head
  unfold getP
  rw [r0]
  rcases h.mark with e | e
  · rw [e, if_pos rfl] at hh
    simp [e, mark_ne, body0, r1, hh]
  · rw [e, if_neg mark_ne.2.2] at hh
    simp [e, mark_ne, body1, r2, hh]
theorem Vt.open {P : Plat} {n gen area : Nat} {V : Vol} (h : Vt P n gen area V) : openP P = (⟨n, gen, area, V⟩, 0) := by
  have hs : sizeN P.ss.length = n := by rw [h.len, sizeN_of h.cnt]
  have h1 := (count_le h.cnt).1
  have hv : volAt P = V := by
    unfold volAt
    rw [hs, h.get, rdHdr_head h.hb, ← h.bl]
  unfold openP
  rw [hs, h.get, hv, rdHdr_head h.hb, h.cv, if_neg (by omega), if_neg (by simp), if_neg (by simp), if_neg (by simp), if_neg (by simpa using h.rt)]
theorem get_there {P : Plat} (h : (getP P 0).2.2 = 0) (ht : (getP P 0).2.1 = true) : checkB P = true ∧ (readS P 0 = mark0 ∨ readS P 0 = mark1) ∧ (getP P 0).1 = readS P (if readS P 0 = mark0 then 1 else 2) := by
  have hr := read_ok (getP_read h)
  have r0 : readP P 0 = (readS P 0, 0) := by simp [readP, hr.1, hr.2]
  unfold getP at h ht ⊢
  rw [r0] at h ht ⊢
  by_cases hn : readS P 0 = none0
  · simp [hn] at ht
  · simp only [hn, ne_eq, not_true_eq_false, or_self, if_false] at h ht ⊢
    by_cases e0 : readS P 0 = mark0
    · rw [e0, body0] at h ht ⊢
      simp only [if_true] at h ht ⊢
      have h1 := read_ok (P := P) (i := 0 + 1) h
      have h12 : hasB P.ss.length 1 = true := h1.2
      exact ⟨hr.1, .inl trivial, by simp [readP, h1.1, h12]⟩
    · by_cases e1 : readS P 0 = mark1
      · rw [e1, body1] at h ht ⊢
        simp only [mark_ne.2.2, if_false] at h ht ⊢
        have h1 := read_ok (P := P) (i := 0 + 2) h
        have h12 : hasB P.ss.length 2 = true := h1.2
        exact ⟨hr.1, .inr trivial, by simp [readP, h1.1, h12]⟩
      · simp [bodyO, e0, e1] at h
theorem join_cut {l : List UInt8} (h : l.length = 4) : joinL [((cutAcc l true 4 0 : Nat) : Int)] true = l := by
  match l, h with
  | [a, b, c, d], _ =>
    have e := cutAcc_word [a, b, c, d] true 0 (by simp)
    rw [show [a, b, c, d].length = 4 from rfl] at e
    rw [joinL_one, e]
    have ha := a.toNat_lt
    have hb := b.toNat_lt
    have hc := c.toNat_lt
    have hd := d.toNat_lt
    simp only [wordN, toldL, if_true, Nat.mul_zero, Nat.zero_add, Nat.add_zero, List.getD_cons_zero, List.getD_cons_succ]
    simp only [List.cons.injEq, and_true]
    refine ⟨?_, ?_, ?_, ?_⟩
    all_goals
      apply UInt8.toNat_inj.1
      rw [UInt8.toNat_ofNat']
      omega
theorem five_parts : ∀ l : List UInt8, 5 ≤ l.length → l.take 4 ++ [l.getD 4 0] ++ l.drop 5 = l
  | [], h => by simp at h
  | [_], h => by simp at h
  | [_, _], h => by simp at h
  | [_, _, _], h => by simp at h
  | [_, _, _, _], h => by simp at h
  | _ :: _ :: _ :: _ :: _ :: _, _ => rfl
theorem vh_of {s : ByteArray} (h : (rdHdr s).ok = true) : vhB (rdHdr s).gen (rdHdr s).area (rdHdr s).root = true ∧ s = headS (rdHdr s).gen (rdHdr s).area (rdHdr s).root := by
  obtain ⟨hb, h1, h2, h3⟩ := hdr_parts h
  have hB : vhB (rdHdr s).gen (rdHdr s).area (rdHdr s).root = true := by
    simp [vhB, h3]; omega
  refine ⟨hB, ?_⟩
  rw [headS, if_pos hB]
  have hb' := hb
  simp only [hdrB, Bool.and_eq_true, decide_eq_true_eq] at hb'
  obtain ⟨⟨hz, hg⟩, ha⟩ := hb'
  have hl : s.data.toList.length = 37 := by rw [len_data]; exact hz
  have e : rdHdr s = ⟨cutAcc (s.data.toList.take 4) true 4 0, (s.data.toList.getD 4 0).toNat, s.extract 5 s.size, true⟩ := by rw [rdHdr, if_pos hb]
  rw [e]
  show s = bs (fourL ((cutAcc (s.data.toList.take 4) true 4 0 : Nat) : Int) ++ [u8 (((s.data.toList.getD 4 0).toNat : Nat) : Int)] ++ (s.extract 5 s.size).data.toList)
  have e2 : u8 (((s.data.toList.getD 4 0).toNat : Nat) : Int) = s.data.toList.getD 4 0 := by
    have := u8_nat (n := (((s.data.toList.getD 4 0).toNat : Nat) : Int)) (by omega) (by omega)
    exact UInt8.toNat_inj.1 (by omega)
  have e1 : fourL ((cutAcc (s.data.toList.take 4) true 4 0 : Nat) : Int) = s.data.toList.take 4 := by
    have hw : wordB ((cutAcc (s.data.toList.take 4) true 4 0 : Nat) : Int) = true := by simp [wordB]; omega
    rw [fourL, if_pos hw]
    exact join_cut (by simp; omega)
  rw [e1, e2, extract_bs, bs_data, List.take_of_length_le (l := s.data.toList) (i := s.size) (by omega), five_parts _ (by omega)]
  rfl
theorem vt_of_open {P : Plat} (h : (openP P).2 = 0) : Vt P (openP P).1.n (openP P).1.gen (openP P).1.area (openP P).1.V := by
  unfold openP at h ⊢
  split at h
  · cases h
  rename_i h0
  rw [if_neg h0]
  split at h
  · rename_i h1; exact absurd h h1
  rename_i h1
  rw [if_neg h1]
  split at h
  · cases h
  rename_i h2
  rw [if_neg h2]
  split at h
  · cases h
  rename_i h3
  rw [if_neg h3]
  split at h
  · cases h
  rename_i h4
  rw [if_neg h4]
  simp only [not_or, Bool.not_eq_false] at h2
  simp only [ne_eq, Decidable.not_not] at h1 h4
  obtain ⟨g1, g2, g3⟩ := get_there h1 h2.1
  obtain ⟨s1, s2, s3, s4⟩ := sizeN_len h0
  obtain ⟨k1, k2⟩ := vh_of h2.2
  exact ⟨g1, s1, s4, g2, g3.symm.trans k2, k1, rfl, by simpa using h3, h4⟩

/- VaT2 -/
set_option linter.unusedVariables false
set_option linter.unusedSimpArgs false

/-- The writes that lay k blocks. -/
def layC (V : Vol) (n area k : Nat) : List PutP := (List.range k).map fun i => (((3 + (1 - area) * n + i : Nat) : Int), V.bl.getD i noT)
theorem layC_len (V : Vol) (n area k : Nat) : (layC V n area k).length = k := by simp [layC]
theorem layC_snoc (V : Vol) (n area k : Nat) : layC V n area (k + 1) = layC V n area k ++ [(((3 + (1 - area) * n + k : Nat) : Int), V.bl.getD k noT)] := by
  simp [layC, List.range_succ]
theorem layC_mem {V : Vol} {n area k : Nat} {c : PutP} (h : c ∈ layC V n area k) : ∃ i, i < k ∧ c.1 = ((3 + (1 - area) * n + i : Nat) : Int) ∧ c.2 = V.bl.getD i noT := by
  simp only [layC, List.mem_map, List.mem_range] at h
  obtain ⟨i, hi, rfl⟩ := h
  exact ⟨i, hi, rfl, rfl⟩
theorem layC_read (V : Vol) (n area : Nat) : ∀ k j, lastS (layC V n area k) ((3 + (1 - area) * n + j : Nat) : Int) = if j < k then some (V.bl.getD j noT) else none
  | 0, j => by simp [layC, lastS]
  | k + 1, j => by
    rw [layC_snoc, lastS_snoc, layC_read V n area k j]
    by_cases h : j = k
    · subst h; simp
    · have h1 : ¬ (((3 + (1 - area) * n + k : Nat) : Int) = ((3 + (1 - area) * n + j : Nat) : Int)) := by omega
      rw [if_neg h1]
      by_cases h2 : j < k
      · rw [if_pos h2, if_pos (by omega)]
      · rw [if_neg h2, if_neg (by omega)]
theorem area_le {area n : Nat} (ha : area ≤ 1) : (1 - area) * n ≤ n := by
  have h : area = 0 ∨ area = 1 := by omega
  rcases h with rfl | rfl <;> simp
theorem bl_size {V : Vol} (hv : checkV V = true) (i : Nat) : (V.bl.getD i noT).size ≤ 128 := by
  rw [List.getD_eq_getElem?_getD]
  cases h : V.bl[i]? with
  | none => decide
  | some b =>
    have := (vol_parts hv).2.2 b (List.mem_of_getElem? h)
    show b.size ≤ 128
    omega
theorem check_lay {P : Plat} (h : checkB P = true) {V : Vol} (hv : checkV V = true) {n area k : Nat} (hl : P.ss.length = 3 + 2 * n) (ha : area ≤ 1) (hk : k ≤ n) (hc : P.cs.length + k ≤ 100) : checkB ⟨P.ss, P.cs ++ layC V n area k⟩ = true := by
  have hn := area_le (n := n) ha
  simp only [checkB, Bool.and_eq_true, decide_eq_true_eq, List.all_eq_true, List.length_append, layC_len] at h ⊢
  refine ⟨⟨⟨h.1.1.1, hc⟩, h.1.2⟩, fun c hc' => ?_⟩
  rcases List.mem_append.1 hc' with m | m
  · exact h.2 c m
  · obtain ⟨i, hi, e1, e2⟩ := layC_mem m
    have := bl_size hv i
    simp only [putB, hasB, Bool.and_eq_true, decide_eq_true_eq, e1, e2]
    omega
theorem layL_len (V : Vol) (n area : Nat) : (layL V n area).length = n := by simp [layL]
theorem layL_snoc {V : Vol} {n area k : Nat} (hk : k < n) : (layL V n area).take (k + 1) = (layL V n area).take k ++ [layF V n area k] := by
  rw [List.take_add_one]
  congr 1
  rw [layL, List.getElem?_map, List.getElem?_range hk]
  rfl
theorem lay_run {P : Plat} (h : checkB P = true) {V : Vol} (hv : checkV V = true) {n area : Nat} (hl : P.ss.length = 3 + 2 * n) (ha : area ≤ 1) : ∀ k, k ≤ n →
    runL ((layL V n area).take k) P = if P.cs.length + k ≤ 100 then (⟨P.ss, P.cs ++ layC V n area k⟩, 0) else (noPlat, 260)
  | 0, _ => by
    have := (check_parts h).2.2.1
    rw [if_pos (by omega)]
    simp [layC, runL]
  | k + 1, hk => by
    have ih := lay_run h hv hl ha k (by omega)
    have hn := area_le (n := n) ha
    rw [layL_snoc (by omega)]
    by_cases hc : P.cs.length + k ≤ 100
    · rw [if_pos hc] at ih
      rw [runL_snoc _ _ _ _ ih]
      have hk1 := check_lay h hv (area := area) hl ha (k := k) (by omega) hc
      have hh : hasB P.ss.length ((3 + (1 - area) * n + k : Nat) : Int) = true := has_nat (by omega)
      have hz := bl_size hv k
      by_cases hd : P.cs.length + (k + 1) ≤ 100
      · have hw : layF V n area k ⟨P.ss, P.cs ++ layC V n area k⟩ = (⟨P.ss, P.cs ++ layC V n area (k + 1)⟩, 0) := by
          unfold layF writeP
          rw [if_neg (by simp [hk1]), if_neg (by rw [hh]; decide), if_neg (by omega), if_neg (by simp [layC_len]; omega), layC_snoc, List.append_assoc]
        rw [hw, if_neg (by simp), if_pos hd]
      · have hw : layF V n area k ⟨P.ss, P.cs ++ layC V n area k⟩ = (noPlat, 260) := by
          unfold layF writeP
          rw [if_neg (by simp [hk1]), if_neg (by rw [hh]; decide), if_neg (by omega), if_pos (by simp [layC_len]; omega)]
        rw [hw, if_pos (by simp), if_neg hd]
    · rw [if_neg hc] at ih
      rw [runL_stop _ _ _ (by rw [ih]; simp), ih, if_neg (by omega)]
theorem deedV_take {V : Vol} {n area D : Nat} (h : D ≤ n) : (deedV V n area).take D = (layL V n area).take D := by
  rw [deedV, List.take_append_of_le_length (by rw [layL_len]; exact h)]
theorem deedV_all {V : Vol} {n area D : Nat} (h : n + 1 ≤ D) : (deedV V n area).take D = deedV V n area := by
  rw [List.take_of_length_le]
  rw [deedV, List.length_append, layL_len]; simpa using h
/-- The disk when all is laid and synced. -/
structure Laid1 (P : Plat) (n area : Nat) (V : Vol) (Q : Plat) : Prop where
  cs : Q.cs = []
  len : Q.ss.length = P.ss.length
  chk : checkB Q = true
  out : ∀ i : Nat, i < P.ss.length → i < 3 + (1 - area) * n ∨ 3 + (1 - area) * n + n ≤ i → readS Q (i : Int) = readS P (i : Int)
  inn : ∀ j : Nat, j < n → readS Q ((3 + (1 - area) * n + j : Nat) : Int) = V.bl.getD j noT
theorem lay_out {P : Plat} {V : Vol} {n area k i : Nat} (hk : k ≤ n) (hi : i < 3 + (1 - area) * n ∨ 3 + (1 - area) * n + n ≤ i) : readS ⟨P.ss, P.cs ++ layC V n area k⟩ (i : Int) = readS P (i : Int) := by
  have : lastS (layC V n area k) (i : Int) = none := lastS_out fun c hc => by
    obtain ⟨j, hj, e, _⟩ := layC_mem hc
    omega
  simp only [readS, lastS_app, this, Option.none_or]
theorem lay_all {P : Plat} (h : checkB P = true) {V : Vol} (hv : checkV V = true) {n area : Nat} (hl : P.ss.length = 3 + 2 * n) (ha : area ≤ 1) :
    (∃ Q, runL (deedV V n area) P = (Q, 0) ∧ Laid1 P n area V Q ∧ P.cs.length + n ≤ 100) ∨ (runL (deedV V n area) P = (noPlat, 260) ∧ 100 < P.cs.length + n) := by
  have r := lay_run h hv (area := area) hl ha n (Nat.le_refl _)
  have hn := area_le (n := n) ha
  rw [List.take_of_length_le (by rw [layL_len]; exact Nat.le_refl _)] at r
  by_cases hc : P.cs.length + n ≤ 100
  · rw [if_pos hc] at r
    left
    obtain ⟨Q, q1, q2, q3, q4, q5⟩ := sync_is (check_lay h hv (area := area) hl ha (Nat.le_refl n) hc)
    refine ⟨Q, ?_, ⟨q2, q3, q4, ?_, ?_⟩, hc⟩
    · rw [deedV, runL_snoc _ _ _ _ r, q1]
      simp
    · intro i hi ho
      rw [q5 i hi, lay_out (Nat.le_refl n) ho]
    · intro j hj
      rw [q5 _ (by show _ < P.ss.length; omega)]
      simp only [readS, lastS_app, layC_read, if_pos hj, Option.some_or, Option.getD_some]
  · rw [if_neg hc] at r
    right
    refine ⟨?_, by omega⟩
    rw [deedV, runL_stop _ _ _ (by rw [r]; simp), r]

theorem Vt.same {P Q : Plat} {n gen area : Nat} {V : Vol} (h : Vt P n gen area V) (hc : checkB Q = true) (hl : Q.ss.length = P.ss.length) (h0 : readS Q 0 = readS P 0)
    (h1 : readS Q (if readS P 0 = mark0 then 1 else 2) = readS P (if readS P 0 = mark0 then 1 else 2))
    (hb : ∀ i, i < n → readS Q ((3 + area * n + i : Nat) : Int) = readS P ((3 + area * n + i : Nat) : Int)) : Vt Q n gen area V := by
  refine ⟨hc, hl.trans h.len, h.cnt, by rw [h0]; exact h.mark, by rw [h0, h1]; exact h.head, h.hb, ?_, h.cv, h.rt⟩
  rw [h.bl]
  unfold blkAt
  exact List.map_congr_left fun i hi => (hb i (List.mem_range.1 hi)).symm
theorem Vt.area {P : Plat} {n gen area : Nat} {V : Vol} (h : Vt P n gen area V) : area ≤ 1 ∧ gen ≤ 1000000000 := by
  have := vh_parts h.hb
  omega
/-- The other body is where a Put writes. -/
theorem far_is {P : Plat} {n gen area : Nat} {V : Vol} (h : Vt P n gen area V) : ∃ f b : Nat, farN (readS P 0) = (f : Int) ∧ (if readS P 0 = mark0 then (1 : Int) else 2) = (b : Int) ∧ 1 ≤ f ∧ f ≤ 2 ∧ 1 ≤ b ∧ b ≤ 2 ∧ f ≠ b ∧ (markN (readS P 0) = mark0 ∨ markN (readS P 0) = mark1) ∧ (if markN (readS P 0) = mark0 then (1 : Int) else 2) = (f : Int) ∧ (markN (readS P 0)).size = 1 ∧ (readS P 0).size = 1 := by
  rcases h.mark with e | e
  · rw [e]
    exact ⟨2, 1, by simp [farN], by simp, by omega, by omega, by omega, by omega, by omega, by simp [markN], by simp [markN, mark_ne], by simp [markN, mark_len], by simp [mark_len]⟩
  · rw [e]
    exact ⟨1, 2, by simp [farN, mark_ne], by simp [mark_ne], by omega, by omega, by omega, by omega, by omega, by simp [markN, mark_ne], by simp [markN, mark_ne], by simp [markN, mark_ne, mark_len], by simp [mark_len]⟩
theorem blk_other {area n i : Nat} (ha : area ≤ 1) (hi : i < n) : (3 + area * n + i < 3 + (1 - area) * n ∨ 3 + (1 - area) * n + n ≤ 3 + area * n + i) ∧ 3 + area * n + i < 3 + 2 * n := by
  have h : area = 0 ∨ area = 1 := by omega
  rcases h with rfl | rfl <;> simp <;> omega
/-- Laid and synced, a vault tells what it told. -/
theorem laid_old {P Q : Plat} {n gen area : Nat} {V0 V : Vol} (h : Vt P n gen area V0) (hq : Laid1 P n area V Q) : Vt Q n gen area V0 := by
  have ha := h.area.1
  have hl := h.len
  have h1 := (count_le h.cnt).1
  refine h.same hq.chk hq.len (hq.out 0 (by omega) (.inl (by omega))) ?_ fun i hi => ?_
  · split
    · exact hq.out 1 (by omega) (.inl (by omega))
    · exact hq.out 2 (by omega) (.inl (by omega))
  · have := blk_other (area := area) (n := n) ha hi
    exact hq.out _ (by omega) this.1
/-- The disks of a Put whose place is a vault's head. -/
def putQ (Q : Plat) (f : Nat) (s m : ByteArray) : Nat → Plat
  | 0 => Q
  | 1 => ⟨Q.ss, [((f : Nat), s)]⟩
  | 2 => ⟨Q.ss.set f s, []⟩
  | 3 => ⟨Q.ss.set f s, [(0, m)]⟩
  | _ => ⟨(Q.ss.set f s).set 0 m, []⟩
theorem put_steps {Q : Plat} {n gen area : Nat} {V : Vol} (h : Vt Q n gen area V) (hc : Q.cs = []) {s : ByteArray} (hs : s.size ≤ 128) {f : Nat} (hf : farN (readS Q 0) = (f : Int)) (hf2 : f ≤ 2) {d : Nat} (hd : d ≤ 4) :
    putP Q 0 s (d : Int) = (putQ Q f s (markN (readS Q 0)) d, decide (d = 4), 0) ∧ checkB (putQ Q f s (markN (readS Q 0)) d) = true := by
  have hl := h.len
  have h1 := (count_le h.cnt).1
  have hm : (markN (readS Q 0)).size ≤ 128 := by unfold markN; split <;> decide
  have r0 : readP Q 0 = (readS Q 0, 0) := readP_in (i := 0) h.chk (by omega)
  have hg : (getP Q 0).2.2 = 0 := by rw [h.get]
  have hp : ∀ (T : List ByteArray) (i : Nat) (t : ByteArray), checkB ⟨T, []⟩ = true → i < T.length → t.size ≤ 128 → writeP (i : Int) t ⟨T, []⟩ = (⟨T, [((i : Int), t)]⟩, 0) ∧ checkB ⟨T, [((i : Int), t)]⟩ = true ∧ syncP ⟨T, [((i : Int), t)]⟩ = (⟨T.set i t, []⟩, 0) ∧ checkB ⟨T.set i t, []⟩ = true := by
    intro T i t hT hi ht
    have hh : hasB T.length (i : Int) = true := has_nat hi
    have hk : checkB ⟨T, [((i : Int), t)]⟩ = true := by
      have h' := hT
      simp only [checkB, Bool.and_eq_true, decide_eq_true_eq, List.all_nil] at h' ⊢
      simp only [List.all_cons, List.all_nil, putB, hh, Bool.and_true, decide_eq_true_eq, List.length_cons, List.length_nil]
      exact ⟨⟨⟨h'.1.1.1, by omega⟩, h'.1.2⟩, ht⟩
    refine ⟨?_, hk, ?_, set_check (P := ⟨T, []⟩) hT rfl i ht⟩
    · simp [writeP, hT, hh]; omega
    · simp [syncP, settleP, hk, fallTo, fallS]
  obtain ⟨T, cs⟩ := Q
  simp only at hc
  subst hc
  simp only at hl
  have hT : checkB ⟨T, []⟩ = true := h.chk
  obtain ⟨w1, c1, y1, c2⟩ := hp T f s hT (by omega) hs
  obtain ⟨w2, c3, y2, c4⟩ := hp (T.set f s) 0 (markN (readS ⟨T, []⟩ 0)) c2 (by simp; omega) hm
  unfold putP doP
  rw [if_neg (by rw [hg]; simp), r0]
  have e4 : (deedsL 0 s (readS ⟨T, []⟩ 0)).length = 4 := rfl
  have ed : mostN (d : Int) 4 = d := by unfold mostN; rw [if_neg (by omega)]; simp
  rw [e4, ed, deedsL, hf]
  simp only [Int.zero_add]
  have hz : writeP (0 : Int) (markN (readS ⟨T, []⟩ 0)) ⟨T.set f s, []⟩ = (⟨T.set f s, [(0, markN (readS ⟨T, []⟩ 0))]⟩, 0) := w2
  have hz2 : syncP ⟨T.set f s, [(0, markN (readS ⟨T, []⟩ 0))]⟩ = (⟨(T.set f s).set 0 (markN (readS ⟨T, []⟩ 0)), []⟩, 0) := y2
  match d, hd with
  | 0, _ => exact ⟨by simp [runL, putQ], hT⟩
  | 1, _ => exact ⟨by simp [runL, putQ, w1], c1⟩
  | 2, _ => exact ⟨by simp [runL, putQ, w1, y1], c2⟩
  | 3, _ => exact ⟨by simp [runL, putQ, w1, y1, hz], c3⟩
  | 4, _ => exact ⟨by simp [runL, putQ, w1, y1, hz, hz2], c4⟩

/- VaT3 -/
set_option linter.unusedVariables false
set_option linter.unusedSimpArgs false

/-- What a crash leaves of the disks of a Put. -/
theorem putq_reads {Q : Plat} {n gen area : Nat} {V0 : Vol} (h : Vt Q n gen area V0) (hc : Q.cs = []) {s : ByteArray} (hs : s.size ≤ 128) {f : Nat} (hf : farN (readS Q 0) = (f : Int)) (hf1 : 1 ≤ f) (hf2 : f ≤ 2) {d : Nat} (hd : d ≤ 4) (fates : List Int) :
    ∃ R, crashP fates (putQ Q f s (markN (readS Q 0)) d) = (R, 0) ∧ R.cs = [] ∧ checkB R = true ∧ R.ss.length = Q.ss.length ∧ (∀ i : Nat, i ≠ 0 → i ≠ f → readS R (i : Int) = readS Q (i : Int)) ∧
      ((readS R 0 = readS Q 0 ∧ d ≠ 4) ∨ (readS R 0 = markN (readS Q 0) ∧ readS R (f : Int) = s)) := by
  have hl := h.len
  have h1 := (count_le h.cnt).1
  obtain ⟨_, _, _, _, _, _, _, _, _, _, _, hm1, ho1⟩ := far_is h
  obtain ⟨ps, pc⟩ := put_steps h hc hs hf hf2 hd
  obtain ⟨R, r1, r2, r3, r4, r5, r6⟩ := crash_is pc fates
  have r7 : ∀ i : Nat, readS R (i : Int) = R.ss.getD i none0 := readS_clean r3
  have r70 : readS R 0 = R.ss.getD 0 none0 := r7 0
  have q7 : ∀ i : Nat, readS Q (i : Int) = Q.ss.getD i none0 := readS_clean hc
  have q70 : readS Q 0 = Q.ss.getD 0 none0 := q7 0
  generalize readS Q 0 = old at *
  generalize hmm : markN old = m at *
  obtain ⟨T, cs⟩ := Q
  simp only at hc hl q7 q70
  subst hc
  refine ⟨R, r1, r3, r5, ?_, ?_, ?_⟩
  · rw [r4]
    match d, hd with
    | 0, _ => rfl
    | 1, _ => rfl
    | 2, _ => simp [putQ]
    | 3, _ => simp [putQ]
    | 4, _ => simp [putQ]
  · intro i hi0 hif
    rw [q7]
    match d, hd with
    | 0, _ => exact r6 i (by simp [putQ])
    | 1, _ => exact r6 i (by simp [putQ]; omega)
    | 2, _ =>
      rw [r6 i (by simp [putQ])]
      simp only [putQ]
      rw [getD_setd, if_neg (by omega)]
    | 3, _ =>
      rw [r6 i (by simp [putQ]; omega)]
      simp only [putQ]
      rw [getD_setd, if_neg (by omega)]
    | 4, _ =>
      rw [r6 i (by simp [putQ])]
      simp only [putQ]
      rw [getD_setd, if_neg (by omega), getD_setd, if_neg (by omega)]
  · match d, hd with
    | 0, _ => exact .inl ⟨(r6 0 (by simp [putQ])).trans q70.symm, by omega⟩
    | 1, _ => exact .inl ⟨(r6 0 (by simp [putQ]; omega)).trans q70.symm, by omega⟩
    | 2, _ =>
      refine .inl ⟨(r6 0 (by simp [putQ])).trans ?_, by omega⟩
      simp only [putQ]
      rw [getD_setd, if_neg (by omega), q70]
    | 3, _ =>
      have e : R.ss = fallS (T.set f s) (0, m) (fates.getD 0 0) := by rw [r2]; rfl
      have ef : readS R (f : Int) = s := by
        rw [r7, e, fallS_out (by simp; omega), getD_setd, if_pos ⟨rfl, by omega⟩]
      have eo : (T.set f s).getD 0 none0 = old := by rw [getD_setd, if_neg (by omega), q70]
      have e0 : readS R 0 = (fallS (T.set f s) (0, m) (fates.getD 0 0)).getD 0 none0 := by rw [r70, e]
      unfold fallS at e0
      split at e0
      · exact .inl ⟨e0.trans eo, by omega⟩
      · split at e0
        · refine .inr ⟨?_, ef⟩
          rw [e0, getD_setd, if_pos ⟨by simp, by simp; omega⟩]
        · have e1 : readS R 0 = beginS old m (fates.getD 0 0 - 2).toNat := by
            rw [e0, getD_setd, if_pos ⟨by simp, by simp; omega⟩]
            congr 1
          by_cases hk : (fates.getD 0 0 - 2).toNat = 0
          · left
            refine ⟨?_, by omega⟩
            rw [e1, hk, beginS, List.take_zero, List.drop_zero, List.nil_append, bs_of]
          · right
            refine ⟨?_, ef⟩
            rw [e1, beginS, List.take_of_length_le (by rw [len_data]; omega), List.drop_of_length_le (by rw [len_data]; omega), List.append_nil, bs_of]
    | 4, _ =>
      right
      constructor
      · rw [show readS R 0 = _ from r6 0 (by simp [putQ])]
        simp only [putQ]
        rw [getD_setd, if_pos ⟨rfl, by simp; omega⟩]
      · rw [r6 f (by simp [putQ])]
        simp only [putQ]
        rw [getD_setd, if_neg (by omega), getD_setd, if_pos ⟨rfl, by omega⟩]
/-- May this volume be stored? -/
structure Good (V : Vol) (n gen : Nat) : Prop where
  cv : checkV V = true
  len : V.bl.length = n
  rt : rootT V.bl = V.rt
  gen : gen < 1000000000
theorem vt_new {Q R : Plat} {n gen area : Nat} {V0 V : Vol} (h : Vt Q n gen area V0) (g : Good V n gen) (hc : checkB R = true) (hl : R.ss.length = Q.ss.length)
    (h0 : readS R 0 = markN (readS Q 0)) (h1 : readS R (farN (readS Q 0)) = headS ((gen + 1 : Nat) : Int) ((1 - area : Nat) : Int) V.rt)
    (hb : ∀ i, i < n → readS R ((3 + (1 - area) * n + i : Nat) : Int) = V.bl.getD i noT) : Vt R n (gen + 1) (1 - area) V := by
  obtain ⟨f, b, e1, e2, _, _, _, _, _, hm, hmf, _, _⟩ := far_is h
  have hv := (vol_parts g.cv).2.1
  have hg := g.gen
  refine ⟨hc, hl.trans h.len, h.cnt, by rw [h0]; exact hm, ?_, ?_, ?_, g.cv, g.rt⟩
  · rw [h0, hmf, ← e1, h1]
  · simp [vhB, hv]; omega
  · apply List.ext_getElem
    · rw [blkAt_len, g.len]
    · intro i hi hj
      have := hb i (by rw [← g.len]; exact hi)
      simp only [blkAt, List.getElem_map, List.getElem_range]
      rw [this, List.getD_eq_getElem?_getD, List.getElem?_eq_getElem hi]
      rfl
theorem vt_old {Q R : Plat} {n gen area : Nat} {V0 : Vol} (h : Vt Q n gen area V0) (hc : checkB R = true) (hl : R.ss.length = Q.ss.length) (h0 : readS R 0 = readS Q 0) {f : Nat} (hf : farN (readS Q 0) = (f : Int)) (ho : ∀ i : Nat, i ≠ 0 → i ≠ f → readS R (i : Int) = readS Q (i : Int)) : Vt R n gen area V0 := by
  obtain ⟨f', b, e1, e2, _, f2, b1, _, nb, _, _, _, _⟩ := far_is h
  have hff : f' = f := by omega
  subst hff
  refine h.same hc hl h0 ?_ fun i hi => ho _ (by omega) (by omega)
  rw [e2]
  exact ho b (by omega) (by omega)

theorem store_eq {P : Plat} {n gen area : Nat} {V0 : Vol} (h : Vt P n gen area V0) (V : Vol) (deeds : Int) :
    storeP P V deeds = if checkV V = false ∨ V.bl.length ≠ n then (noPlat, false, 160) else if rootT V.bl ≠ V.rt then (noPlat, false, 161) else if gen = 1000000000 then (noPlat, false, 260) else endP (runL ((deedV V n area).take (allN n deeds)) P) ⟨n, gen, area, V0⟩ V (allN n deeds) := by
  unfold storeP
  rw [h.open]
  simp
theorem store_good {P : Plat} {n gen area : Nat} {V0 : Vol} (h : Vt P n gen area V0) {V : Vol} (g : Good V n gen) (deeds : Int) :
    storeP P V deeds = endP (runL ((deedV V n area).take (allN n deeds)) P) ⟨n, gen, area, V0⟩ V (allN n deeds) := by
  have hg := g.gen
  rw [store_eq h, if_neg (by simp [g.cv, g.len]), if_neg (by simp [g.rt]), if_neg (by omega)]
theorem store_inv {P : Plat} {V : Vol} {deeds : Int} (h : (storeP P V deeds).2.2 = 0) : ∃ n gen area V0, Vt P n gen area V0 ∧ Good V n gen := by
  by_cases ho : (openP P).2 = 0
  · have hv := vt_of_open ho
    refine ⟨_, _, _, _, hv, ?_⟩
    rw [store_eq hv] at h
    split at h
    · cases h
    rename_i h1
    split at h
    · cases h
    rename_i h2
    split at h
    · cases h
    rename_i h3
    simp only [not_or, Bool.not_eq_false, ne_eq, Decidable.not_not] at h1 h2
    have := hv.area.2
    exact ⟨h1.1, h1.2, h2, by omega⟩
  · unfold storeP at h
    rw [if_pos ho] at h
    exact absurd h ho
theorem all_le (n : Nat) (deeds : Int) : allN n deeds ≤ n + 5 := by
  unfold allN
  split <;> omega
theorem store_few {P : Plat} {n gen area : Nat} {V0 : Vol} (h : Vt P n gen area V0) {V : Vol} (g : Good V n gen) {deeds : Int} (hd : allN n deeds ≤ n) :
    storeP P V deeds = if P.cs.length + allN n deeds ≤ 100 then (⟨P.ss, P.cs ++ layC V n area (allN n deeds)⟩, false, 0) else (noPlat, false, 260) := by
  rw [store_good h g, deedV_take hd, lay_run h.chk g.cv h.len h.area.1 _ hd]
  split
  · rw [endP, if_neg (by simp), if_pos (by show _ < n + 1; omega)]
  · rw [endP, if_pos (by simp)]
theorem head_small {gen area : Nat} {V : Vol} : (headS (gen : Int) (area : Int) V.rt).size ≤ 128 := vh_small _ _ _
theorem store_many {P : Plat} {n gen area : Nat} {V0 : Vol} (h : Vt P n gen area V0) {V : Vol} (g : Good V n gen) {deeds : Int} (hd : n + 1 ≤ allN n deeds) :
    (∃ Q f, Laid1 P n area V Q ∧ Vt Q n gen area V0 ∧ P.cs.length + n ≤ 100 ∧ farN (readS Q 0) = ((f : Nat) : Int) ∧ 1 ≤ f ∧ f ≤ 2 ∧
      storeP P V deeds = (putQ Q f (headS ((gen + 1 : Nat) : Int) ((1 - area : Nat) : Int) V.rt) (markN (readS Q 0)) (allN n deeds - (n + 1)), decide (allN n deeds - (n + 1) = 4), 0)) ∨
    (storeP P V deeds = (noPlat, false, 260) ∧ 100 < P.cs.length + n) := by
  have hle := all_le n deeds
  rw [store_good h g, deedV_all hd]
  rcases lay_all h.chk g.cv h.len h.area.1 with ⟨Q, q1, q2, q3⟩ | ⟨q1, q2⟩
  · left
    have hq := laid_old h q2
    obtain ⟨f, b, e1, e2, f1, f2, _, _, _, _, _, _, _⟩ := far_is hq
    have := put_steps hq q2.cs (s := headS ((gen + 1 : Nat) : Int) ((1 - area : Nat) : Int) V.rt) (vh_small _ _ _) e1 f2 (d := allN n deeds - (n + 1)) (by omega)
    refine ⟨Q, f, q2, hq, q3, e1, f1, f2, ?_⟩
    rw [q1, endP, if_neg (by simp), if_neg (by show ¬ _ < n + 1; omega), ← this.1]
  · right
    rw [q1, endP, if_pos (by simp)]
    exact ⟨rfl, q2⟩
theorem dec_not {d : Nat} {done : Bool} (h : done = decide (d = 4)) (hd : d ≠ 4) : done = false := by
  rw [h]; simp [hd]
/-- Behind a Store that was stopped at any deed, and any crash: the new volume or the old one; the area's sectors stay. -/
theorem store_crash {P : Plat} {n gen area : Nat} {V0 : Vol} (h : Vt P n gen area V0) (hc : P.cs = []) {V : Vol} {deeds : Int} {Q : Plat} {done : Bool} (hs : storeP P V deeds = (Q, done, 0)) (fates : List Int) :
    ∃ R, crashP fates Q = (R, 0) ∧ R.cs = [] ∧ R.ss.length = P.ss.length ∧ (∀ i, i < n → R.ss.getD (3 + area * n + i) none0 = P.ss.getD (3 + area * n + i) none0) ∧ (Vt R n (gen + 1) (1 - area) V ∨ (done = false ∧ Vt R n gen area V0)) := by
  obtain ⟨n', gen', area', V0', h', g⟩ := store_inv (P := P) (V := V) (deeds := deeds) (by rw [hs])
  have eo := h.open.symm.trans h'.open
  simp only [Prod.mk.injEq, Vst.mk.injEq, and_true] at eo
  obtain ⟨rfl, rfl, rfl, rfl⟩ := eo
  have ha := h.area.1
  have hl := h.len
  have h1 := (count_le h.cnt).1
  by_cases hd : allN n deeds ≤ n
  · have e := store_few h g hd
    have hv := (count_le h.cnt).2
    rw [hs, if_pos (by rw [hc]; simp; omega)] at e
    simp only [Prod.mk.injEq, and_true] at e
    obtain ⟨rfl, rfl⟩ := e
    have hk := check_lay h.chk g.cv (area := area) h.len ha hd (by rw [hc]; simp; omega)
    obtain ⟨R, r1, r2, r3, r4, r5, r6⟩ := crash_is hk fates
    have ho : ∀ i : Nat, i < 3 + (1 - area) * n ∨ 3 + (1 - area) * n + n ≤ i → readS R (i : Int) = P.ss.getD i none0 := fun i hi => r6 i fun c hc' => by
      simp only [hc, List.nil_append] at hc'
      obtain ⟨j, hj, e, _⟩ := layC_mem hc'
      omega
    refine ⟨R, r1, r3, r4, fun i hi => ?_, .inr ⟨rfl, h.same r5 r4 ?_ ?_ fun i hi => ?_⟩⟩
    · rw [← readS_clean r3, ho _ (blk_other ha hi).1]
    · exact (ho 0 (.inl (by omega))).trans (readS_clean hc 0).symm
    · split
      · exact (ho 1 (.inl (by omega))).trans (readS_clean hc 1).symm
      · exact (ho 2 (.inl (by omega))).trans (readS_clean hc 2).symm
    · exact (ho _ (blk_other ha hi).1).trans (readS_clean hc _).symm
  · rcases store_many h g (deeds := deeds) (by omega) with ⟨Q1, f, q1, q2, q3, q4, q5, q6, e⟩ | ⟨e, _⟩
    · rw [hs] at e
      simp only [Prod.mk.injEq, and_true] at e
      obtain ⟨rfl, hdone⟩ := e
      have hle := all_le n deeds
      obtain ⟨R, r1, r2, r3, r4, r5, r6⟩ := putq_reads q2 q1.cs (s := headS ((gen + 1 : Nat) : Int) ((1 - area : Nat) : Int) V.rt) (vh_small _ _ _) q4 q5 q6 (d := allN n deeds - (n + 1)) (by omega) fates
      refine ⟨R, r1, r2, r4.trans q1.len, fun i hi => ?_, ?_⟩
      · have hb := blk_other ha hi
        rw [← readS_clean r2, r5 _ (by omega) (by omega), q1.out _ (by omega) hb.1, readS_clean hc]
      · rcases r6 with ⟨e0, hn⟩ | ⟨e0, e1⟩
        · exact .inr ⟨dec_not hdone hn, vt_old q2 r3 r4 e0 q4 r5⟩
        · refine .inl (vt_new q2 g r3 r4 e0 (by rw [q4]; exact e1) fun i hi => ?_)
          rw [r5 _ (by omega) (by omega), q1.inn i hi]
    · rw [hs] at e
      cases e
/-- What was stored whole is told, one generation later. -/
theorem store_back {P : Plat} {n gen area : Nat} {V0 : Vol} (h : Vt P n gen area V0) {V : Vol} {Q : Plat} {done : Bool} (hs : storeP P V (-1) = (Q, done, 0)) : done = true ∧ Vt Q n (gen + 1) (1 - area) V := by
  obtain ⟨n', gen', area', V0', h', g⟩ := store_inv (P := P) (V := V) (deeds := -1) (by rw [hs])
  have eo := h.open.symm.trans h'.open
  simp only [Prod.mk.injEq, Vst.mk.injEq, and_true] at eo
  obtain ⟨rfl, rfl, rfl, rfl⟩ := eo
  have hall : allN n (-1) = n + 5 := by unfold allN; rw [if_pos (.inl (by omega))]
  rcases store_many h g (deeds := -1) (by omega) with ⟨Q1, f, q1, q2, q3, q4, q5, q6, e⟩ | ⟨e, _⟩
  · rw [hs] at e
    simp only [Prod.mk.injEq, and_true] at e
    obtain ⟨rfl, hdone⟩ := e
    rw [hall, show n + 5 - (n + 1) = 4 by omega] at hdone ⊢
    have hl := q2.len
    have hck := (put_steps q2 q1.cs (s := headS ((gen + 1 : Nat) : Int) ((1 - area : Nat) : Int) V.rt) (vh_small _ _ _) q4 q6 (Nat.le_refl 4)).2
    refine ⟨hdone, vt_new q2 g hck ?_ ?_ ?_ fun i hi => ?_⟩
    · simp [putQ]
    · rw [show readS (putQ Q1 f _ (markN (readS Q1 0)) 4) 0 = _ from readS_clean rfl 0]
      simp only [putQ]
      rw [getD_setd, if_pos ⟨rfl, by simp; omega⟩]
    · rw [q4, readS_clean rfl]
      simp only [putQ]
      rw [getD_setd, if_neg (by omega), getD_setd, if_pos ⟨rfl, by omega⟩]
    · rw [← q1.inn i hi, readS_clean rfl, readS_clean q1.cs]
      simp only [putQ]
      rw [getD_setd, if_neg (by omega), getD_setd, if_neg (by omega)]
  · rw [hs] at e
    cases e
/-- A right volume is stored on a disk where nothing waits. -/
theorem store_ok {P : Plat} {n gen area : Nat} {V0 : Vol} (h : Vt P n gen area V0) (hc : P.cs = []) {V : Vol} (g : Good V n gen) (deeds : Int) : (storeP P V deeds).2.2 = 0 := by
  have hv := (count_le h.cnt).2
  by_cases hd : allN n deeds ≤ n
  · rw [store_few h g hd, if_pos (by rw [hc]; simp; omega)]
  · rcases store_many h g (deeds := deeds) (by omega) with ⟨Q1, f, q1, q2, q3, q4, q5, q6, e⟩ | ⟨e, hx⟩
    · rw [e]
    · rw [hc] at hx
      simp at hx
      omega
/-- What is refused hands back no disk. -/
theorem store_no {P : Plat} {V : Vol} {deeds : Int} (h : (storeP P V deeds).2.2 ≠ 0) : (storeP P V deeds).1 = noPlat ∧ (storeP P V deeds).2.1 = false := by
  by_cases ho : (openP P).2 = 0
  · have hv := vt_of_open ho
    revert h
    rw [store_eq hv]
    split
    · exact fun _ => ⟨rfl, rfl⟩
    split
    · exact fun _ => ⟨rfl, rfl⟩
    split
    · exact fun _ => ⟨rfl, rfl⟩
    unfold endP
    split
    · exact fun _ => ⟨rfl, rfl⟩
    split
    · exact fun h => absurd rfl h
    unfold putP doP
    split
    · exact fun _ => ⟨rfl, rfl⟩
    split
    · exact fun _ => ⟨rfl, rfl⟩
    · exact fun h => absurd rfl h
  · unfold storeP
    rw [if_pos ho]
    exact ⟨rfl, rfl⟩
/-- A new vault. -/
theorem format_vt {n : Nat} (h : countB n = true) : (formatP n).2 = 0 ∧ (formatP n).1.cs = [] ∧ Vt (formatP n).1 n 0 0 (rooted (List.replicate n noT)) := by
  have hn := count_le h
  have hk := keeps_check (keeps_new noT h)
  have hN : checkB (newP (3 + 2 * n)) = true := by
    have hz0 : none0.size = 0 := rfl
    simp [checkB, newP]
    omega
  have hg0 : ∀ i : Nat, (newP (3 + 2 * n)).ss.getD i none0 = none0 := by
    intro i
    rw [List.getD_eq_getElem?_getD, newP]
    simp only [List.getElem?_replicate]
    split <;> rfl
  have hr : readP (newP (3 + 2 * n)) 0 = (none0, 0) := by
    have := read_clean (P := newP (3 + 2 * n)) hN rfl (i := 0) (by simp [newP]; omega)
    rw [hg0] at this
    exact this
  have hgt : getP (newP (3 + 2 * n)) 0 = (none0, false, 0) := by
    unfold getP
    rw [hr]
    simp
  have hp := put_clean (P := newP (3 + 2 * n)) hN rfl (i := 0) (by simp [newP]; omega) (s := headS 0 0 (rootT (List.replicate n noT))) (vh_small _ _ _) (by rw [show ((0 : Nat) : Int) = 0 from rfl, hgt])
  have e41 : ∀ s, putP (newP (3 + 2 * n)) 0 s (-1) = putP (newP (3 + 2 * n)) 0 s 4 := by
    intro s
    unfold putP doP
    have a : ∀ m, mostN (-1) (deedsL 0 s m).length = 4 := fun m => rfl
    have b : ∀ m, mostN 4 (deedsL 0 s m).length = 4 := fun m => rfl
    rw [a, b]
  rw [hg0, show ((0 : Nat) : Int) = 0 from rfl, ← e41, show farN none0 = 1 from by simp [farN, Ne.symm mark_ne.1], show markN none0 = mark0 from by simp [markN, Ne.symm mark_ne.1]] at hp
  have eF : (formatP n).1 = ⟨((newP (3 + 2 * n)).ss.set 1 (headS 0 0 (rootT (List.replicate n noT)))).set 0 mark0, []⟩ := by
    unfold formatP
    rw [hp]
    rfl
  have eF2 : (formatP n).2 = 0 := by
    unfold formatP
    rw [hp]
  have hc1 := set_check hN rfl 1 (vh_small 0 0 (rootT (List.replicate n noT)))
  have hc2 := set_check (P := ⟨_, []⟩) hc1 rfl 0 (s := mark0) (by decide)
  have hv := (vol_parts hk).2.1
  rw [eF]
  refine ⟨eF2, rfl, ⟨hc2, by simp [newP], h, .inl ?_, ?_, ?_, ?_, hk, rfl⟩⟩
  · rw [show readS _ 0 = _ from readS_clean rfl 0]
    simp only
    rw [getD_setd, if_pos ⟨rfl, by simp [newP]; omega⟩]
  · have h0 : readS ⟨((newP (3 + 2 * n)).ss.set 1 (headS 0 0 (rootT (List.replicate n noT)))).set 0 mark0, []⟩ 0 = mark0 := by
      rw [show readS _ 0 = _ from readS_clean rfl 0]
      simp only
      rw [getD_setd, if_pos ⟨rfl, by simp [newP]; omega⟩]
    rw [h0, if_pos rfl, show readS _ 1 = _ from readS_clean rfl 1]
    simp only
    rw [getD_setd, if_neg (by omega), getD_setd, if_pos ⟨rfl, by simp [newP]; omega⟩]
    rfl
  · have hv' : (rootT (List.replicate n noT)).size = 32 := hv
    simp [vhB, rooted, hv']
  · apply List.ext_getElem
    · rw [blkAt_len]; simp [rooted]
    · intro i hi hj
      simp only [blkAt, List.getElem_map, List.getElem_range, rooted, List.getElem_replicate]
      rw [readS_clean rfl]
      simp only
      rw [getD_setd, if_neg (by omega), getD_setd, if_neg (by omega), hg0]
      rfl

end Go.Proofs.YtieekajjoikepaaGreatDoor
