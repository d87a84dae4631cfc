/-
  Disks, plainly: a Sync lays what is read; a crash leaves what no waiting write names.
-/
import Derived.Test.YtingcnfhdioejaaGreatDoorTw
namespace Go.Proofs.YtingcnfhdioejaaGreatDoor
set_option linter.unusedVariables false
set_option linter.unusedSimpArgs false

theorem has_nat {n : Nat} {i : Nat} (h : i < n) : hasB n (i : Int) = true := by simp [hasB]; omega
theorem readP_in {P : Plat} (h : checkB P = true) {i : Nat} (hi : i < P.ss.length) : readP P (i : Int) = (readS P (i : Int), 0) := by
  simp [readP, h, has_nat hi]
theorem lastS_snoc (cs : List PutP) (c : PutP) (i : Int) : lastS (cs ++ [c]) i = if c.1 = i then some c.2 else lastS cs i := by
  unfold lastS
  rw [List.reverse_append, List.reverse_singleton, List.singleton_append, List.find?_cons]
  by_cases h : c.1 = i
  · have hb : (c.1 == i) = true := by simpa using h
    rw [hb, if_pos h]; rfl
  · have hb : (c.1 == i) = false := by simpa using h
    rw [hb, if_neg h]
theorem lastS_out {cs : List PutP} {i : Int} (h : ∀ c ∈ cs, c.1 ≠ i) : lastS cs i = none :=
  lastS_none fun q hq => h q (List.mem_reverse.1 hq)
theorem lastS_app (cs ds : List PutP) (i : Int) : lastS (cs ++ ds) i = (lastS ds i).or (lastS cs i) := by
  unfold lastS
  rw [List.reverse_append, List.find?_append]
  cases List.find? (fun c : PutP => c.1 == i) ds.reverse <;> rfl
theorem getD_setd {α : Type} (l : List α) (i j : Nat) (a d : α) : (l.set i a).getD j d = if i = j ∧ i < l.length then a else l.getD j d := by
  rw [List.getD_eq_getElem?_getD, List.getD_eq_getElem?_getD, List.getElem?_set]
  by_cases h : i = j
  · subst h
    by_cases h2 : i < l.length
    · simp [h2]
    · simp [h2]
  · simp [h]
theorem fallS_out {ss : List ByteArray} {c : PutP} {fate : Int} {i : Nat} (h : c.1.toNat ≠ i) : (fallS ss c fate).getD i none0 = ss.getD i none0 := by
  unfold fallS
  split
  · rfl
  · split
    · rw [getD_setd, if_neg (fun e => h e.1)]
    · rw [getD_setd, if_neg (fun e => h e.1)]
theorem putB_parts {P : Plat} (h : checkB P = true) {k : Nat} (hk : k < P.cs.length) : P.cs.getD k (0, none0) ∈ P.cs ∧ 0 ≤ (P.cs.getD k (0, none0)).1 ∧ (P.cs.getD k (0, none0)).1 < P.ss.length := by
  have hm : P.cs.getD k (0, none0) ∈ P.cs := by
    rw [List.getD_eq_getElem?_getD, List.getElem?_eq_getElem hk]
    exact List.getElem_mem hk
  have := (check_parts h).2.2.2.2 _ hm
  exact ⟨hm, this.2⟩
/-- A crash leaves the sectors that no waiting write names. -/
theorem fall_out {P : Plat} (h : checkB P = true) (f : Nat → Int) {i : Nat} (hi : ∀ c ∈ P.cs, c.1 ≠ (i : Int)) : ∀ k, k ≤ P.cs.length → (fallTo P f k).getD i none0 = P.ss.getD i none0
  | 0, _ => rfl
  | k + 1, hk => by
    obtain ⟨hm, h0, h1⟩ := putB_parts h (k := k) (by omega)
    have := hi _ hm
    rw [fallTo, fallS_out (by omega), fall_out h f hi k (by omega)]
/-- A Sync lays what is read. -/
theorem sync_take {P : Plat} (h : checkB P = true) {i : Nat} (hi : i < P.ss.length) : ∀ k, k ≤ P.cs.length → (fallTo P (fun _ => 1) k).getD i none0 = (lastS (P.cs.take k) (i : Int)).getD (P.ss.getD i none0)
  | 0, _ => by simp [fallTo, lastS]
  | k + 1, hk => by
    obtain ⟨hm, h0, h1⟩ := putB_parts h (k := k) (by omega)
    have e : P.cs.take (k + 1) = P.cs.take k ++ [P.cs.getD k (0, none0)] := by
      rw [List.take_add_one, List.getD_eq_getElem?_getD, List.getElem?_eq_getElem (by omega)]
      rfl
    rw [e, lastS_snoc, fallTo]
    show ((fallTo P (fun _ => 1) k).set _ _).getD i none0 = _
    rw [getD_setd, fallTo_len]
    by_cases hx : (P.cs.getD k (0, none0)).1 = (i : Int)
    · rw [if_pos hx, if_pos ⟨by omega, by omega⟩]; rfl
    · rw [if_neg hx, if_neg (by omega), sync_take h hi k (by omega)]
theorem sync_is {P : Plat} (h : checkB P = true) : ∃ Q, syncP P = (Q, 0) ∧ Q.cs = [] ∧ Q.ss.length = P.ss.length ∧ checkB Q = true ∧ ∀ i, i < P.ss.length → readS Q (i : Int) = readS P (i : Int) := by
  refine ⟨⟨fallTo P (fun _ => 1) P.cs.length, []⟩, by simp [syncP, settleP, h], rfl, fallTo_len P _ _, ?_, ?_⟩
  · obtain ⟨h1, h2, h3, h4, h5⟩ := check_parts h
    have := fallTo_size h (fun _ => 1) P.cs.length (Nat.le_refl _)
    simp only [checkB, Bool.and_eq_true, decide_eq_true_eq, List.all_nil, List.all_eq_true, fallTo_len]
    exact ⟨⟨⟨⟨h1, h2⟩, by simp⟩, this⟩, trivial⟩
  · intro i hi
    have := sync_take h hi P.cs.length (Nat.le_refl _)
    rw [List.take_length] at this
    simp only [readS, Int.toNat_natCast]
    rw [this]
    simp [lastS]
theorem crash_is {P : Plat} (h : checkB P = true) (fates : List Int) : ∃ R, crashP fates P = (R, 0) ∧ R.ss = fallTo P (fun i => fates.getD i 0) P.cs.length ∧ R.cs = [] ∧ R.ss.length = P.ss.length ∧ checkB R = true ∧ ∀ i : Nat, (∀ c ∈ P.cs, c.1 ≠ (i : Int)) → readS R (i : Int) = P.ss.getD i none0 := by
  refine ⟨⟨fallTo P (fun i => fates.getD i 0) P.cs.length, []⟩, by simp [crashP, settleP, h], rfl, rfl, fallTo_len P _ _, ?_, ?_⟩
  · obtain ⟨h1, h2, h3, h4, h5⟩ := check_parts h
    have := fallTo_size h (fun i => fates.getD i 0) P.cs.length (Nat.le_refl _)
    simp only [checkB, Bool.and_eq_true, decide_eq_true_eq, List.all_nil, List.all_eq_true, fallTo_len]
    exact ⟨⟨⟨⟨h1, h2⟩, by simp⟩, this⟩, trivial⟩
  · intro i hi
    simp only [readS, Int.toNat_natCast]
    rw [fall_out h _ hi P.cs.length (Nat.le_refl _)]
    simp [lastS]
theorem readS_out {P : Plat} {i : Nat} (hi : ∀ c ∈ P.cs, c.1 ≠ (i : Int)) : readS P (i : Int) = P.ss.getD i none0 := by
  simp only [readS, Int.toNat_natCast]
  rw [lastS_out hi]; rfl
theorem readS_clean {P : Plat} (h : P.cs = []) (i : Nat) : readS P (i : Int) = P.ss.getD i none0 := readS_out (by rw [h]; intro c hc; cases hc)

end Go.Proofs.YtingcnfhdioejaaGreatDoor
