/-
  Contracts of armour.Put where it refuses, and of armour.Get; what is put is got.
-/
import Derived.Test.YtidnlginjjgmjaaDoorPut
import Derived.Test.YtidnlginjjgmjaaDoorArmBytes
namespace Go.Proofs.YtidnlginjjgmjaaDoor
open Go.RowKit
set_option linter.unusedVariables false

def noDash (l : List UInt8) : List UInt8 := l.filter fun x => x != 45
theorem filter_take {c : UInt8} {s : List UInt8} {i : Nat} (h : ∀ k, k < i → s[k]? ≠ some c) : (s.take i).filter (fun x => x != c) = s.take i := by
  rw [List.filter_eq_self]
  intro x hx
  obtain ⟨k, hk, rfl⟩ := List.mem_iff_getElem.1 hx
  have hk2 : k < i ∧ k < s.length := by simp at hk; omega
  have := h k hk2.1
  rw [List.getElem?_eq_getElem hk2.2] at this
  simp only [List.getElem_take, bne_iff_ne, ne_eq]
  exact fun e => this (by rw [e])
theorem replaceK_filter (c : UInt8) : ∀ (n : Nat) (s : List UInt8), s.length ≤ n → Lib.replaceK [c] [] (Lib.count s [c]) s = s.filter fun x => x != c
  | 0, s, h => by
    have : s = [] := List.eq_nil_of_length_eq_zero (by omega)
    subst this
    have h0 : Lib.index [] [c] = -1 := by rw [Lib.index_one]; rfl
    rw [Lib.count_miss h0]
    rfl
  | n + 1, s, h => by
    have hge := Lib.index_ge s [c]
    by_cases hm : Lib.index s [c] = -1
    · rw [Lib.count_miss hm, Lib.replaceK]
      rw [Lib.index_one] at hm
      have := Lib.indexByte_none hm
      have h2 := filter_take (i := s.length) (c := c) (s := s) (fun k _ => this k)
      rw [List.take_length] at h2
      exact h2.symm
    · obtain ⟨i, hi⟩ : ∃ i : Nat, Lib.index s [c] = i := ⟨(Lib.index s [c]).toNat, by omega⟩
      rw [Lib.count_hit (by simp) hi, Nat.add_comm, Lib.replaceK_hit _ _ _ _ i hi]
      rw [Lib.index_one] at hi
      obtain ⟨h1, h2⟩ := Lib.indexByte_some hi
      obtain ⟨hlt, he⟩ := List.getElem?_eq_some_iff.1 h1
      have ih := replaceK_filter c n (s.drop (i + 1)) (by rw [List.length_drop]; omega)
      rw [show i + [c].length = i + 1 from rfl, ih, List.append_nil]
      conv => rhs; rw [← List.take_append_drop i s, List.filter_append, filter_take h2, List.drop_eq_getElem_cons hlt, he, List.filter_cons]
      simp
theorem replace_dash (s : List UInt8) : Lib.replaceAll s [45] [] = noDash s := by
  rw [Lib.replaceAll, Lib.replace, if_neg (by decide), Lib.replaceNum, if_pos (.inl (by decide))]
  exact replaceK_filter 45 s.length s (Nat.le_refl _)

theorem letterC_ne (v : Nat) (h : v < 32) : letterC v ≠ 45 := by
  have : (List.range 32).all (fun v => decide (letterC v ≠ 45)) = true := by decide +kernel
  have := List.all_eq_true.1 this v (by simpa using h)
  simpa using this
theorem padded5_dig (s : List UInt8) : ∀ x ∈ padded5 s, x < 2 := fun x hx => by
  rcases List.mem_append.1 hx with h | h
  · exact flat_dig 8 _ x h
  · rw [(List.mem_replicate.1 h).2]; omega
theorem lettersV_lt (s : List UInt8) : ∀ v ∈ lettersV s, v < 2 ^ 5 := grpF_lt 5 _ _ (padded5_dig s)
theorem padded5_len (s : List UInt8) : (padded5 s).length % 5 = 0 := by
  rw [padded5, List.length_append, flat_length, List.length_replicate, byteN, List.length_map]
  omega
/-- The digits of the letters are those of the bytes, and fewer than five 0 behind them. -/
theorem letters_digits (s : List UInt8) : flat 5 (lettersV s) = padded5 s := by
  obtain ⟨r, h, hr⟩ := flat_grp 5 (by omega) (padded5 s) (padded5_dig s)
  have hl := congrArg List.length h
  have h5 := padded5_len s
  rw [List.length_append, flat_length] at hl
  have : r = [] := List.eq_nil_of_length_eq_zero (by omega)
  rw [this, List.append_nil] at h
  exact h.symm
theorem lettersV_len (s : List UInt8) : (lettersV s).length = (8 * s.length + 4) / 5 := by
  have h := congrArg List.length (letters_digits s)
  rw [flat_length, padded5, List.length_append, flat_length, List.length_replicate, byteN, List.length_map] at h
  omega
theorem lettersL_len (s : List UInt8) : (lettersL s).length = (8 * s.length + 4) / 5 := by rw [lettersL, List.length_map, lettersV_len]
theorem lettersL_noDash (s : List UInt8) : noDash (lettersL s) = lettersL s := by
  rw [noDash, List.filter_eq_self]
  intro x hx
  obtain ⟨v, hv, rfl⟩ := List.mem_map.1 hx
  have := letterC_ne v (lettersV_lt s v hv)
  simpa using this
theorem valsOf_letters (s : List UInt8) : valsOf (lettersL s) = lettersV s := by
  rw [valsOf, lettersL, List.map_map]
  conv => rhs; rw [← List.map_id (lettersV s)]
  apply List.map_congr_left
  intro v hv
  simp [val_letter v (lettersV_lt s v hv)]
theorem allLetters_letters (s : List UInt8) : allLetters (lettersL s) = true := by
  rw [allLetters, List.all_eq_true]
  intro x hx
  obtain ⟨v, hv, rfl⟩ := List.mem_map.1 hx
  simp [val_letter v (lettersV_lt s v hv)]
theorem ofNat_toNat (s : List UInt8) : (byteN s).map UInt8.ofNat = s := by
  rw [byteN, List.map_map]
  conv => rhs; rw [← List.map_id s]
  apply List.map_congr_left
  intro x _
  simp
/-- The bytes of a text's letters are the text. -/
theorem bytes_letters (s : List UInt8) : bytesRes (lettersL s) = some s := by
  have hd : flat 5 (valsOf (lettersL s)) = flat 8 (byteN s) ++ List.replicate ((5 - 8 * s.length % 5) % 5) 0 := by rw [valsOf_letters, letters_digits]; rfl
  have hg : grp 8 (flat 5 (valsOf (lettersL s))) = byteN s := by
    rw [hd]
    exact grp_flat 8 (by omega) _ _ (byteN_lt s) (by rw [List.length_replicate]; omega)
  have hr : restOK (lettersL s) = true := by
    have hl := lettersL_len s
    obtain ⟨p, hp⟩ : ∃ p, p = (5 - 8 * s.length % 5) % 5 := ⟨_, rfl⟩
    have hp5 : p < 5 := by omega
    have h5 : 5 * (lettersL s).length = 8 * s.length + p := by omega
    rw [restOK, hd, show 8 * (5 * (lettersL s).length / 8) = (flat 8 (byteN s)).length by rw [flat_length, byteN, List.length_map]; omega, List.drop_left, numOf_zero, h5]
    clear hp h5 hl hd hg
    simp
    omega
  rw [bytesRes, allLetters_letters, hr, hg, ofNat_toNat]
  rfl
/-- Unlike texts have unlike letters. -/
theorem letters_inj {s t : List UInt8} (h : lettersL s = lettersL t) : s = t := by
  have h1 := bytes_letters s
  rw [h, bytes_letters t] at h1
  exact (Option.some.inj h1).symm

theorem dashed_filter : ∀ (pre : List Five) (acc : List UInt8), noDash (pre.foldl (fun acc p => if 0 < acc.length then acc ++ [45] ++ p.1.data.toList else acc ++ p.1.data.toList) acc) = noDash acc ++ noDash (pre.flatMap fun p => p.1.data.toList)
  | [], acc => by simp [noDash]
  | x :: pre, acc => by
    rw [List.foldl_cons, dashed_filter pre]
    split
    · simp [noDash, List.filter_append]
    · simp [noDash, List.filter_append]
theorem fives_join (l : List UInt8) : ∀ k, 5 * k ≤ l.length + 4 → (fivesTo l k).flatMap (fun p => p.1.data.toList) = l.take (5 * k)
  | 0, _ => by simp [fivesTo]
  | k + 1, h => by
    rw [fivesTo_succ, List.flatMap_append, fives_join l k (by omega)]
    simp only [List.flatMap_cons, List.flatMap_nil, List.append_nil]
    rw [fiveOf_eq (by omega), bs_data, Nat.mul_succ, List.take_add]
theorem put_noDash (s : List UInt8) : noDash (putL s) = lettersL (s ++ (sumL s).take 3) := by
  have hn := lettersL_noDash (s ++ (sumL s).take 3)
  rw [putL]
  generalize lettersL (s ++ (sumL s).take 3) = l at hn ⊢
  have h := dashed_filter (fivesTo l ((l.length + 4) / 5)) []
  rw [fives_join _ _ (by omega), List.take_of_length_le (by omega), hn] at h
  exact h
theorem take_sum_len (s : List UInt8) : ((sumL s).take 3).length = 3 := by rw [List.length_take, sumL_len]; rfl
theorem put_inj {s t : List UInt8} (h : putL s = putL t) : s = t := by
  have h1 := letters_inj (by rw [← put_noDash, h, put_noDash] : lettersL (s ++ (sumL s).take 3) = lettersL (t ++ (sumL t).take 3))
  have hl := congrArg List.length h1
  rw [List.length_append, List.length_append, take_sum_len, take_sum_len] at hl
  exact (List.append_inj h1 (by omega)).1

/-- What was put, or none. -/
def getRes (w : List UInt8) : Option (List UInt8) :=
  match bytesRes (noDash w) with
  | none => none
  | some b => if 3 ≤ b.length ∧ b.length - 3 ≤ 200 ∧ putL (b.take (b.length - 3)) = w then some (b.take (b.length - 3)) else none
theorem get_put (s : List UInt8) (h : s.length ≤ 200) : getRes (putL s) = some s := by
  have e : (s ++ (sumL s).take 3).length - 3 = s.length := by rw [List.length_append, take_sum_len]; omega
  have e2 : (s ++ (sumL s).take 3).take s.length = s := by rw [List.take_left]
  rw [getRes, put_noDash, bytes_letters]
  simp only [e, e2]
  rw [if_pos ⟨by rw [List.length_append, take_sum_len]; omega, h, trivial⟩]
theorem put_get {w s : List UInt8} (h : getRes w = some s) : s.length ≤ 200 ∧ putL s = w := by
  unfold getRes at h
  split at h
  · cases h
  · split at h
    · rename_i b _ hc
      obtain rfl := Option.some.inj h
      exact ⟨by rw [List.length_take]; omega, hc.2.2⟩
    · cases h

theorem put_no (s : ByteArray) (w : World) (hs : 200 < s.size) (hs2 : s.size ≤ 9223372036854775807) :
    Calls Tryd.prog 19 #[.string s] w fun e w' => e = .returned (.tuple #[.string (bs []), .int .i64 2]) ∧ Below w.heap.size w w' := by
  go_enter Tryd.func19, Tryd.ntmps19
  go_wp2_with fail
  go_ret2
  exact ⟨rfl, Below.refl _ _⟩
end Go.Proofs.YtidnlginjjgmjaaDoor
