/-
  Disks, plainly: a Sync lays what is read; a crash leaves what no waiting write names.
  Disks, plainly: a Put that is done whole, on any disk; a Commit; settled twice it is as settled once.
-/
import Derived.Test.YtieekajjoikepaaGreatDoorTw
namespace Go.Proofs.YtieekajjoikepaaGreatDoor
/- PtT -/
set_option linter.unusedVariables false
set_option linter.unusedSimpArgs false

theorem has_nat {n : Nat} {i : Nat} (h : i < n) : hasB n (i : Int) = true := by simp [hasB]; omega
theorem readP_in {P : Plat} (h : checkB P = true) {i : Nat} (hi : i < P.ss.length) : readP P (i : Int) = (readS P (i : Int), 0) := by
  simp [readP, h, has_nat hi]
theorem lastS_snoc (cs : List PutP) (c : PutP) (i : Int) : lastS (cs ++ [c]) i = if c.1 = i then some c.2 else lastS cs i := by
  unfold lastS
  rw [List.reverse_append, List.reverse_singleton, List.singleton_append, List.find?_cons]
  by_cases h : c.1 = i
  · have hb : (c.1 == i) = true := by simpa using h
    rw [hb, if_pos h]; rfl
  · have hb : (c.1 == i) = false := by simpa using h
    rw [hb, if_neg h]
theorem lastS_out {cs : List PutP} {i : Int} (h : ∀ c ∈ cs, c.1 ≠ i) : lastS cs i = none :=
  lastS_none fun q hq => h q (List.mem_reverse.1 hq)
theorem lastS_app (cs ds : List PutP) (i : Int) : lastS (cs ++ ds) i = (lastS ds i).or (lastS cs i) := by
  unfold lastS
  rw [List.reverse_append, List.find?_append]
  cases List.find? (fun c : PutP => c.1 == i) ds.reverse <;> rfl
theorem getD_setd {α : Type} (l : List α) (i j : Nat) (a d : α) : (l.set i a).getD j d = if i = j ∧ i < l.length then a else l.getD j d := by
  rw [List.getD_eq_getElem?_getD, List.getD_eq_getElem?_getD, List.getElem?_set]
  by_cases h : i = j
  · subst h
    by_cases h2 : i < l.length
    · simp [h2]
    · simp [h2]
  · simp [h]
theorem fallS_out {ss : List ByteArray} {c : PutP} {fate : Int} {i : Nat} (h : c.1.toNat ≠ i) : (fallS ss c fate).getD i none0 = ss.getD i none0 := by
  unfold fallS
  split
  · rfl
  · split
    · rw [getD_setd, if_neg (fun e => h e.1)]
    · rw [getD_setd, if_neg (fun e => h e.1)]
theorem putB_parts {P : Plat} (h : checkB P = true) {k : Nat} (hk : k < P.cs.length) : P.cs.getD k (0, none0) ∈ P.cs ∧ 0 ≤ (P.cs.getD k (0, none0)).1 ∧ (P.cs.getD k (0, none0)).1 < P.ss.length := by
  have hm : P.cs.getD k (0, none0) ∈ P.cs := by
    rw [List.getD_eq_getElem?_getD, List.getElem?_eq_getElem hk]
    exact List.getElem_mem hk
  have := (check_parts h).2.2.2.2 _ hm
  exact ⟨hm, this.2⟩
/-- A crash leaves the sectors that no waiting write names. -/
theorem fall_out {P : Plat} (h : checkB P = true) (f : Nat → Int) {i : Nat} (hi : ∀ c ∈ P.cs, c.1 ≠ (i : Int)) : ∀ k, k ≤ P.cs.length → (fallTo P f k).getD i none0 = P.ss.getD i none0
  | 0, _ => rfl
  | k + 1, hk => by
    obtain ⟨hm, h0, h1⟩ := putB_parts h (k := k) (by omega)
    have := hi _ hm
    rw [fallTo, fallS_out (by omega), fall_out h f hi k (by omega)]
/-- A Sync lays what is read. -/
theorem sync_take {P : Plat} (h : checkB P = true) {i : Nat} (hi : i < P.ss.length) : ∀ k, k ≤ P.cs.length → (fallTo P (fun _ => 1) k).getD i none0 = (lastS (P.cs.take k) (i : Int)).getD (P.ss.getD i none0)
  | 0, _ => by simp [fallTo, lastS]
  | k + 1, hk => by
    obtain ⟨hm, h0, h1⟩ := putB_parts h (k := k) (by omega)
    have e : P.cs.take (k + 1) = P.cs.take k ++ [P.cs.getD k (0, none0)] := by
      rw [List.take_add_one, List.getD_eq_getElem?_getD, List.getElem?_eq_getElem (by omega)]
      rfl
    rw [e, lastS_snoc, fallTo]
    show ((fallTo P (fun _ => 1) k).set _ _).getD i none0 = _
    rw [getD_setd, fallTo_len]
    by_cases hx : (P.cs.getD k (0, none0)).1 = (i : Int)
    · rw [if_pos hx, if_pos ⟨by omega, by omega⟩]; rfl
    · rw [if_neg hx, if_neg (by omega), sync_take h hi k (by omega)]
theorem sync_is {P : Plat} (h : checkB P = true) : ∃ Q, syncP P = (Q, 0) ∧ Q.cs = [] ∧ Q.ss.length = P.ss.length ∧ checkB Q = true ∧ ∀ i, i < P.ss.length → readS Q (i : Int) = readS P (i : Int) := by
  refine ⟨⟨fallTo P (fun _ => 1) P.cs.length, []⟩, by simp [syncP, settleP, h], rfl, fallTo_len P _ _, ?_, ?_⟩
  · obtain ⟨h1, h2, h3, h4, h5⟩ := check_parts h
    have := fallTo_size h (fun _ => 1) P.cs.length (Nat.le_refl _)
    simp only [checkB, Bool.and_eq_true, decide_eq_true_eq, List.all_nil, List.all_eq_true, fallTo_len]
    exact ⟨⟨⟨⟨h1, h2⟩, by simp⟩, this⟩, trivial⟩
  · intro i hi
    have := sync_take h hi P.cs.length (Nat.le_refl _)
    rw [List.take_length] at this
    simp only [readS, Int.toNat_natCast]
    rw [this]
    simp [lastS]
theorem crash_is {P : Plat} (h : checkB P = true) (fates : List Int) : ∃ R, crashP fates P = (R, 0) ∧ R.ss = fallTo P (fun i => fates.getD i 0) P.cs.length ∧ R.cs = [] ∧ R.ss.length = P.ss.length ∧ checkB R = true ∧ ∀ i : Nat, (∀ c ∈ P.cs, c.1 ≠ (i : Int)) → readS R (i : Int) = P.ss.getD i none0 := by
  refine ⟨⟨fallTo P (fun i => fates.getD i 0) P.cs.length, []⟩, by simp [crashP, settleP, h], rfl, rfl, fallTo_len P _ _, ?_, ?_⟩
  · obtain ⟨h1, h2, h3, h4, h5⟩ := check_parts h
    have := fallTo_size h (fun i => fates.getD i 0) P.cs.length (Nat.le_refl _)
    simp only [checkB, Bool.and_eq_true, decide_eq_true_eq, List.all_nil, List.all_eq_true, fallTo_len]
    exact ⟨⟨⟨⟨h1, h2⟩, by simp⟩, this⟩, trivial⟩
  · intro i hi
    simp only [readS, Int.toNat_natCast]
    rw [fall_out h _ hi P.cs.length (Nat.le_refl _)]
    simp [lastS]
theorem readS_out {P : Plat} {i : Nat} (hi : ∀ c ∈ P.cs, c.1 ≠ (i : Int)) : readS P (i : Int) = P.ss.getD i none0 := by
  simp only [readS, Int.toNat_natCast]
  rw [lastS_out hi]; rfl
theorem readS_clean {P : Plat} (h : P.cs = []) (i : Nat) : readS P (i : Int) = P.ss.getD i none0 := readS_out (by rw [h]; intro c hc; cases hc)

/- PuT -/
set_option linter.unusedVariables false
set_option linter.unusedSimpArgs false

theorem pwrite_is {P Q : Plat} {i : Int} {s : ByteArray} (h : writeP i s P = (Q, 0)) : checkB P = true ∧ hasB P.ss.length i = true ∧ s.size ≤ 128 ∧ Q = ⟨P.ss, P.cs ++ [(i, s)]⟩ ∧ checkB Q = true := by
  unfold writeP at h
  split at h
  · simp at h
  rename_i h1
  split at h
  · simp at h
  rename_i h2
  split at h
  · simp at h
  rename_i h3
  split at h
  · simp at h
  rename_i h4
  simp only [Prod.mk.injEq, and_true] at h
  subst h
  have hc : checkB P = true := by simpa using h1
  have hh : hasB P.ss.length i = true := by simpa using h2
  refine ⟨hc, hh, by omega, rfl, ?_⟩
  have h' := hc
  simp only [checkB, Bool.and_eq_true, decide_eq_true_eq] at h' ⊢
  simp only [List.all_append, List.all_cons, List.all_nil, putB, hh, Bool.and_true, decide_eq_true_eq, List.length_append, List.length_cons, List.length_nil, Bool.and_eq_true]
  exact ⟨⟨⟨h'.1.1.1, by omega⟩, h'.1.2⟩, h'.2, by omega⟩
theorem readS_snoc (P : Plat) (i : Int) (s : ByteArray) (k : Int) : readS ⟨P.ss, P.cs ++ [(i, s)]⟩ k = if i = k then s else readS P k := by
  simp only [readS, lastS_snoc]
  split <;> rfl
theorem runL_cons {f : Plat → Plat × Int} {l : List (Plat → Plat × Int)} {P Q : Plat} (h : runL (f :: l) P = (Q, 0)) : ∃ P1, f P = (P1, 0) ∧ runL l P1 = (Q, 0) := by
  rw [runL] at h
  split at h
  · rename_i h1; simp only [Prod.mk.injEq] at h; exact absurd h.2 h1
  · rename_i h1
    exact ⟨(f P).1, Prod.ext rfl (Decidable.not_not.1 h1), h⟩
theorem far_nat (old : ByteArray) : ∃ f : Nat, (f = 1 ∨ f = 2) ∧ farN old = (f : Int) := by
  unfold farN
  split
  · exact ⟨2, .inr rfl, rfl⟩
  · exact ⟨1, .inl rfl, rfl⟩
theorem has_lt {n k : Nat} (h : hasB n (k : Int) = true) : k < n := by
  simp only [hasB, Bool.and_eq_true, decide_eq_true_eq] at h
  omega
/-- A Put that is done whole. -/
theorem put_is {P Q : Plat} {i : Nat} {s : ByteArray} {d : Bool} (h : putP P (i : Int) s 4 = (Q, d, 0)) :
    d = true ∧ Q.cs = [] ∧ checkB Q = true ∧ checkB P = true ∧ Q.ss.length = P.ss.length ∧ s.size ≤ 128 ∧ ∃ f : Nat, (f = 1 ∨ f = 2) ∧ farN (readS P (i : Int)) = (f : Int) ∧ i + f < P.ss.length ∧
      ∀ k : Nat, k < P.ss.length → readS Q (k : Int) = if k = i then markN (readS P (i : Int)) else if k = i + f then s else readS P (k : Int) := by
  unfold putP at h
  split at h
  · rename_i h0; simp only [Prod.mk.injEq] at h; exact absurd h.2.2 h0
  rename_i h0
  have hr := read_ok (getP_read (Decidable.not_not.1 h0))
  have e0 : readP P (i : Int) = (readS P (i : Int), 0) := by simp [readP, hr.1, hr.2]
  rw [e0] at h
  obtain ⟨f, hf, hf2⟩ := far_nat (readS P (i : Int))
  simp only at h
  generalize hold : readS P (i : Int) = old at *
  unfold doP at h
  have e4 : (deedsL (i : Int) s old).length = 4 := rfl
  have ed : mostN 4 4 = 4 := by decide
  rw [e4, ed, List.take_of_length_le (by rw [e4]; exact Nat.le_refl _)] at h
  split at h
  · rename_i h1; simp only [Prod.mk.injEq] at h; exact absurd h.2.2 h1
  rename_i h1
  simp only [Prod.mk.injEq, and_true, decide_true] at h
  obtain ⟨hQ, hd⟩ := h
  have hrun : runL (deedsL (i : Int) s old) P = (Q, 0) := Prod.ext hQ (Decidable.not_not.1 h1)
  rw [deedsL, hf2] at hrun
  obtain ⟨P1, p1, hrun⟩ := runL_cons hrun
  obtain ⟨P2, p2, hrun⟩ := runL_cons hrun
  obtain ⟨P3, p3, hrun⟩ := runL_cons hrun
  obtain ⟨P4, p4, hrun⟩ := runL_cons hrun
  simp only [runL, Prod.mk.injEq, and_true] at hrun
  subst hrun
  obtain ⟨c1, c2, c3, c4, c5⟩ := pwrite_is p1
  obtain ⟨Q1, q1, q2, q3, q4, q5⟩ := sync_is c5
  rw [q1] at p2
  simp only [Prod.mk.injEq, and_true] at p2
  subst p2
  obtain ⟨d1, d2, d3, d4, d5⟩ := pwrite_is p3
  obtain ⟨Q2, r1, r2, r3, r4, r5⟩ := sync_is d5
  rw [r1] at p4
  simp only [Prod.mk.injEq, and_true] at p4
  subst p4
  subst c4 d4
  simp only at q3 q5 r3 r5
  have hlt : i + f < P.ss.length := has_lt (k := i + f) (by simpa using c2)
  refine ⟨hd.symm, r2, r4, c1, by rw [r3, q3], c3, f, hf, hf2, hlt, fun k hk => ?_⟩
  rw [r5 k (by omega), readS_snoc]
  by_cases hki : k = i
  · subst hki
    rw [if_pos rfl, if_pos rfl]
  · rw [if_neg (by omega), if_neg hki, q5 k hk, readS_snoc]
    by_cases hkf : k = i + f
    · subst hkf
      rw [if_pos (by omega), if_pos rfl]
    · rw [if_neg (by omega), if_neg hkf]
theorem readP_same {P Q : Plat} (hp : checkB P = true) (hq : checkB Q = true) (hl : Q.ss.length = P.ss.length) (k : Nat) (h : k < P.ss.length → readS Q (k : Int) = readS P (k : Int)) : readP Q (k : Int) = readP P (k : Int) := by
  unfold readP
  rw [hp, hq, hl]
  by_cases hh : hasB P.ss.length (k : Int) = true
  · rw [hh, h (has_lt hh)]
  · have : hasB P.ss.length (k : Int) = false := by simpa using hh
    rw [this]
    simp
theorem getP_same {P Q : Plat} (j : Nat) (h : ∀ k : Nat, j ≤ k → k ≤ j + 2 → readP Q (k : Int) = readP P (k : Int)) : getP Q (j : Int) = getP P (j : Int) := by
  have h0 := h j (by omega) (by omega)
  have h1 := h (j + 1) (by omega) (by omega)
  have h2 := h (j + 2) (by omega) (by omega)
  have e1 : ((j + 1 : Nat) : Int) = (j : Int) + 1 := by omega
  have e2 : ((j + 2 : Nat) : Int) = (j : Int) + 2 := by omega
  rw [e1] at h1
  rw [e2] at h2
  unfold getP
  rw [h0]
  by_cases hx : (readP P (j : Int)).2 ≠ 0 ∨ (readP P (j : Int)).1 = none0
  · rw [if_pos hx, if_pos hx]
  · rw [if_neg hx, if_neg hx]
    unfold bodyO
    by_cases a : (readP P (j : Int)).1 = mark0
    · rw [if_pos a]; simp only [h1]
    · rw [if_neg a]
      by_cases b : (readP P (j : Int)).1 = mark1
      · rw [if_pos b]; simp only [h2]
      · rw [if_neg b]
theorem mark_far (old : ByteArray) : bodyO (markN old) = some (farN old) ∧ markN old ≠ none0 := by
  unfold markN farN
  by_cases h : old = mark0
  · rw [if_pos h, if_pos h]; exact ⟨body1, mark_ne.2.1⟩
  · rw [if_neg h, if_neg h]; exact ⟨body0, mark_ne.1⟩
/-- What was put is got; the others stay. -/
theorem get_put {P Q : Plat} {i : Nat} {s : ByteArray} {d : Bool} (h : putP P (i : Int) s 4 = (Q, d, 0)) :
    getP Q (i : Int) = (s, true, 0) ∧ ∀ j : Nat, (j + 2 < i ∨ i + 2 < j) → getP Q (j : Int) = getP P (j : Int) := by
  obtain ⟨_, hcs, hq, hp, hl, hz, f, hf, hf2, hlt, hrd⟩ := put_is h
  obtain ⟨hb, hn⟩ := mark_far (readS P (i : Int))
  have r0 : readP Q (i : Int) = (markN (readS P (i : Int)), 0) := by
    rw [readP_in hq (by omega), hrd i (by omega), if_pos rfl]
  have r1 : readP Q ((i + f : Nat) : Int) = (s, 0) := by
    rw [readP_in hq (by omega), hrd (i + f) (by omega), if_neg (by omega), if_pos rfl]
  constructor
  · unfold getP
    rw [r0, if_neg (by simp [hn])]
    simp only [hb, hf2]
    rw [show (i : Int) + (f : Int) = ((i + f : Nat) : Int) by omega, r1]
    rfl
  · intro j hj
    refine getP_same j fun k k1 k2 => readP_same hp hq hl k fun hk => ?_
    rw [hrd k hk, if_neg (by omega), if_neg (by omega)]

theorem takeR_fine {n : Nat} {r : Rdr} (h : (takeR n r).2.bad = false) : r.bad = false ∧ (takeR n r).1.size = n := by
  unfold takeR at h ⊢
  split at h
  · cases h
  · rename_i hn
    rw [if_neg hn]
    refine ⟨h, ?_⟩
    rw [ByteArray.size_extract]
    omega
theorem digitR_fine {r : Rdr} (h : (digitR r).2.bad = false) : r.bad = false := (takeR_fine (n := 1) h).1
theorem numberR_fine {r : Rdr} (h : (numberR r).2.bad = false) : r.bad = false := by
  unfold numberR at h
  split at h
  · exact (takeR_fine h).1
  · cases h
theorem fine_bad {r : Rdr} (h : fineR r = true) : r.bad = false := by
  simp only [fineR, Bool.and_eq_true, Bool.not_eq_true'] at h
  exact h.1
theorem runN_is (h : Hd) (r : Rdr) : ∃ h' q, runF nowF (h, r) = (h', q) ∧ h'.next = h.next ∧ (q.bad = false → h'.cred.size = 32) := by
  have e : runF nowF (h, r) = fN5 (fN4 (fN3 (fN2 (fN1 (fN0 (h, r)))))) := rfl
  have e2 : (fN4 (fN3 (fN2 (fN1 (fN0 (h, r)))))).1.next = h.next := rfl
  rw [e]
  generalize fN4 (fN3 (fN2 (fN1 (fN0 (h, r))))) = p at e2
  exact ⟨_, (takeR 32 p.2).2, rfl, e2, fun hb => (takeR_fine hb).2⟩
theorem runX_is (h : Hd) (r : Rdr) : ∃ n nx nb ns q, runF nextF (h, r) = ({ h with next := n, nx := nx, nb := nb, nsalt := ns }, q) ∧ (0 ≤ nx ∧ nx ≤ 255) ∧ (q.bad = false → nb.size = 32 ∧ ns.size = 16) := by
  have e : runF nextF (h, r) = fX3 (fX2 (fX1 (fX0 (h, r)))) := rfl
  rw [e]
  unfold fX0
  generalize numberR (h, r).2 = a
  unfold fX1
  have hd := digitR_w a.2
  simp only
  generalize digitR a.2 = b at hd
  unfold fX2
  simp only
  have hc := @takeR_fine 32 b.2
  generalize takeR 32 b.2 = c at hc
  unfold fX3
  simp only
  have hs := @takeR_fine 16 c.2
  generalize takeR 16 c.2 = d at hs
  exact ⟨a.1, b.1, c.1, d.1, d.2, rfl, hd, fun hb => ⟨(hc (hs hb).1).2, (hs hb).2⟩⟩
theorem nowEnd_cred {h : Hd} {ok : Bool} (he : (nowEnd h ok).2 = true) (hc : ok = true → h.cred.size = 32) : (nowEnd h ok).1.cred.size = 32 := by
  unfold nowEnd at he ⊢
  split at he
  · cases he
  rename_i h1
  simp only [not_or, Bool.not_eq_false] at h1
  rw [if_neg (by simp [h1])]
  have := hc h1.1
  split at he
  · rename_i h2
    rw [if_pos h2]
    split at he
    · rename_i h3; rw [if_pos h3]; exact this
    · cases he
  · rename_i h2
    rw [if_neg h2]
    split at he
    · cases he
    · rename_i h3; rw [if_neg h3]; exact this
theorem nowR_parts {s : ByteArray} (h : (readNowL s).2 = true) : (readNowL s).1.cred.size = 32 ∧ (readNowL s).1.next = 0 := by
  unfold readNowL at h ⊢
  obtain ⟨h', q, e, e1, e2⟩ := runN_is noHd ⟨s, false⟩
  rw [e] at h ⊢
  simp only at h ⊢
  refine ⟨nowEnd_cred h fun hf => e2 (fine_bad hf), ?_⟩
  have e3 : h'.next = 0 := e1
  unfold nowEnd
  split
  · rfl
  split
  · split
    · exact e3
    · rfl
  split
  · rfl
  · exact e3
theorem now_cred {s : ByteArray} (h : (readNowL s).2 = true) : (readNowL s).1.cred.size = 32 := (nowR_parts h).1
/-- What is read of what comes next. -/
theorem nextR_parts {h : Hd} {s : ByteArray} (hr : (readNextL h s).2 = true) :
    (readNextL h s).1.epoch = h.epoch ∧ (readNextL h s).1.cred = h.cred ∧ (readNextL h s).1.x = h.x ∧ (readNextL h s).1.b = h.b ∧ (readNextL h s).1.salt = h.salt ∧ (readNextL h s).1.tries = h.tries ∧
      (s.size = 0 ∧ (readNextL h s).1 = h ∨ 1 ≤ (readNextL h s).1.next ∧ (readNextL h s).1.next ≤ 1000000 ∧ fitX (readNextL h s).1.nx (readNextL h s).1.nb (readNextL h s).1.nsalt) := by
  unfold readNextL at hr ⊢
  by_cases hs : s.size = 0
  · rw [if_pos hs]
    exact ⟨rfl, rfl, rfl, rfl, rfl, rfl, .inl ⟨hs, rfl⟩⟩
  rw [if_neg hs] at hr ⊢
  obtain ⟨n, nx, nb, ns, q, e, hx, hz⟩ := runX_is h ⟨s, false⟩
  rw [e] at hr ⊢
  unfold nextEnd at hr ⊢
  split at hr
  · cases hr
  rename_i h1
  rw [if_neg h1]
  simp only [not_or, Bool.not_eq_false] at h1
  obtain ⟨h2, h3, h4⟩ := h1
  obtain ⟨s1, s2⟩ := hz (fine_bad h2)
  simp only [epochB, Bool.and_eq_true, decide_eq_true_eq] at h3
  exact ⟨rfl, rfl, rfl, rfl, rfl, rfl, .inr ⟨h3.1, h3.2, by simp only; omega, hx.2, s1, s2⟩⟩
/-- What getH tells, opened. -/
theorem getH_parts {P : Plat} (h : (getH P).2 = 0) : (getP P 0).2.2 = 0 ∧ (getP P 0).2.1 = true ∧ (readNowL (getP P 0).1).2 = true ∧ (getP P 3).2.2 = 0 ∧
    ((getP P 3).2.1 = false ∧ (getH P).1 = (readNowL (getP P 0).1).1 ∨ (getP P 3).2.1 = true ∧ (readNextL (readNowL (getP P 0).1).1 (getP P 3).1).2 = true ∧ (getH P).1 = (readNextL (readNowL (getP P 0).1).1 (getP P 3).1).1) := by
  unfold getH at h ⊢
  generalize getP P 0 = a at *
  generalize getP P 3 = b at *
  generalize readNowL a.1 = n at *
  generalize readNextL n.1 b.1 = m at *
  split at h
  · rename_i h1; exact absurd h h1
  rename_i h1
  rw [if_neg h1]
  split at h
  · cases h
  rename_i h2
  rw [if_neg h2]
  split at h
  · cases h
  rename_i h3
  rw [if_neg h3]
  split at h
  · rename_i h4; exact absurd h h4
  rename_i h4
  rw [if_neg h4]
  simp only [ne_eq, Decidable.not_not, Bool.not_eq_false] at h1 h2 h3 h4
  refine ⟨h1, h2, h3, h4, ?_⟩
  split at h
  · rename_i h5
    rw [if_pos h5]
    exact .inl ⟨h5, rfl⟩
  rename_i h5
  rw [if_neg h5]
  split at h
  · cases h
  rename_i h6
  rw [if_neg h6]
  exact .inr ⟨by simpa using h5, by simpa using h6, rfl⟩
theorem rowL_cons {a : Int} {s : ByteArray} {l : List (Int × ByteArray)} {P Q : Plat} {d : Int} (hd : 4 ≤ d) (h : rowL ((a, s) :: l) P d = (Q, 0)) : ∃ R, putP P a s 4 = (R, true, 0) ∧ rowL l R (d - 4) = (Q, 0) := by
  rw [rowL, Int.min_eq_right hd] at h
  split at h
  · rename_i h1; simp only [Prod.mk.injEq] at h; exact absurd h.2 h1
  rename_i h1
  split at h
  · rename_i h2
    exact ⟨(putP P a s 4).1, Prod.ext rfl (Prod.ext h2 (Decidable.not_not.1 h1)), h⟩
  · simp at h
/-- A disk behind a Commit: now tells epoch e; next tells nothing. -/
structure Done (Q : Plat) (e : Int) (t : ByteArray) : Prop where
  chk : checkB Q = true
  cs : Q.cs = []
  len : 5 < Q.ss.length
  g0 : getP Q 0 = (t, true, 0)
  rd : (readNowL t).2 = true
  ep : (readNowL t).1.epoch = e
  g3 : getP Q 3 = (none0, true, 0)
theorem none_next (h : Hd) : readNextL h none0 = (h, true) := by
  unfold readNextL
  rw [if_pos (show none0.size = 0 from rfl)]
theorem Done.get {Q : Plat} {e : Int} {t : ByteArray} (h : Done Q e t) : getH Q = ((readNowL t).1, 0) := by
  unfold getH
  rw [h.g0, h.g3]
  simp only [ne_eq, not_true_eq_false, if_false, Bool.true_eq_false, h.rd, none_next]
/-- Two Puts at one place: all its sectors are there. -/
theorem put_twice {P Q R : Plat} {i : Nat} {s t : ByteArray} (h1 : putP P (i : Int) s 4 = (Q, true, 0)) (h2 : putP Q (i : Int) t 4 = (R, true, 0)) : i + 2 < R.ss.length := by
  obtain ⟨_, _, _, _, l1, _, f, hf, e1, b1, r1⟩ := put_is h1
  obtain ⟨_, _, _, _, l2, _, g, hg, e2, b2, r2⟩ := put_is h2
  rw [r1 i (by omega), if_pos rfl] at e2
  unfold markN farN at e2
  unfold farN at e1
  by_cases h : readS P (i : Int) = mark0
  · rw [if_pos h] at e1; omega
  · rw [if_neg h, if_pos rfl] at e2; omega
theorem rowP_none {P Q : Plat} {e : Int} {t : ByteArray} (h : rowL [(3, none0), (3, none0)] P 8 = (Q, 0)) (h0 : getP P 0 = (t, true, 0)) (hr : (readNowL t).2 = true) (he : (readNowL t).1.epoch = e) : Done Q e t := by
  obtain ⟨R, p1, h⟩ := rowL_cons (by omega) h
  obtain ⟨S, p2, h⟩ := rowL_cons (by omega) h
  simp only [rowL, Prod.mk.injEq, and_true] at h
  subst h
  have hl := put_twice (i := 3) p1 p2
  obtain ⟨_, c1, c2, _⟩ := put_is (i := 3) p2
  have g1 := get_put (i := 3) p1
  have g2 := get_put (i := 3) p2
  have a1 := g1.2 0 (.inl (by omega))
  have a2 := g2.2 0 (.inl (by omega))
  exact ⟨c2, c1, hl, (a2.trans a1).trans h0, hr, he, g2.1⟩
theorem commit_done {P Q : Plat} {e : Int} (h : commitH P e (-1) = (Q, 0)) : ∃ t, Done Q e t := by
  unfold commitH at h
  have hparts := getH_parts (P := P)
  generalize getH P = G at h hparts
  split at h
  · rename_i h0; simp only [Prod.mk.injEq] at h; exact absurd h.2 h0
  rename_i h0
  have h0' := Decidable.not_not.1 h0
  obtain ⟨g1, g2, g3, g4, g5⟩ := hparts h0'
  have g0 : getP P 0 = ((getP P 0).1, true, 0) := Prod.ext rfl (Prod.ext g2 g1)
  generalize (getP P 0).1 = t0 at *
  split at h
  · rename_i h1
    rw [rowP, rowN1] at h
    refine ⟨t0, rowP_none h g0 g3 ?_⟩
    rcases g5 with ⟨_, e1⟩ | ⟨_, k, e1⟩
    · rw [← e1]; exact h1.2
    · rw [← h1.2, e1]; exact ((nextR_parts k).1).symm
  rename_i h1
  split at h
  · simp at h
  rename_i h2
  simp only [not_or, ne_eq, Decidable.not_not] at h2
  have key : 1 ≤ G.1.next ∧ G.1.next ≤ 1000000 ∧ fitX G.1.nx G.1.nb G.1.nsalt ∧ G.1.cred.size = 32 := by
    have hc := now_cred g3
    rcases g5 with ⟨_, e1⟩ | ⟨_, k, e1⟩
    · exfalso
      have hz := (nowR_parts g3).2
      rw [← e1] at hz
      omega
    · obtain ⟨a1, a2, _, _, _, _, a3⟩ := nextR_parts k
      rw [← e1] at a1 a2 a3
      rcases a3 with ⟨_, a3⟩ | a3
      · exfalso
        have hz := (nowR_parts g3).2
        rw [← a3] at hz
        omega
      · exact ⟨a3.1, a3.2.1, a3.2.2, by rw [a2]; exact hc⟩
  obtain ⟨k1, k2, k3, k4⟩ := key
  have hg : ({ noHd with epoch := G.1.next, x := G.1.nx, b := G.1.nb, salt := G.1.nsalt, cred := G.1.cred } : Hd).good := ⟨k1, k2, Int.le_refl 0, show (0 : Int) ≤ 5 by omega, k3.1, k3.2.1, k3.2.2.1, k3.2.2.2, k4⟩
  have hrd := read_now hg
  simp only [rowP, rowN1, List.length_cons, List.length_nil] at h
  obtain ⟨R, p1, h⟩ := rowL_cons (by omega) h
  obtain ⟨S, p2, h⟩ := rowL_cons (by omega) h
  have q2 := get_put (i := 0) p2
  refine ⟨_, rowP_none h q2.1 ?_ ?_⟩
  · rw [hrd]
  · rw [hrd]; exact h2.2
/-- Committed again it tells the same. -/
theorem done_again {Q : Plat} {e : Int} {t : ByteArray} (h : Done Q e t) (he : e ≠ 0) : ∃ R, commitH Q e (-1) = (R, 0) ∧ Done R e t := by
  have hg := h.get
  have hl := h.len
  have e3 : (getP Q ((3 : Nat) : Int)).2.2 = 0 := congrArg (fun p => p.2.2) h.g3
  obtain ⟨R, p1⟩ : ∃ R, putP Q ((3 : Nat) : Int) none0 4 = (R, true, 0) := ⟨_, put_clean (i := 3) h.chk h.cs (by omega) (s := none0) (by decide) e3⟩
  have g1 := get_put (i := 3) p1
  obtain ⟨_, c1, c2, _, l1, _⟩ := put_is (i := 3) p1
  obtain ⟨S, p2⟩ : ∃ S, putP R ((3 : Nat) : Int) none0 4 = (S, true, 0) := ⟨_, put_clean (i := 3) c2 c1 (by omega) (s := none0) (by decide) (by rw [g1.1])⟩
  have p1' : putP Q 3 none0 4 = (R, true, 0) := p1
  have p2' : putP R 3 none0 4 = (S, true, 0) := p2
  have hrow : rowL [(3, none0), (3, none0)] Q 8 = (S, 0) := by
    rw [rowL, show min (8 : Int) 4 = 4 from rfl, p1']
    simp only [ne_eq, not_true_eq_false, if_false, if_true]
    rw [rowL, show min (8 - 4 : Int) 4 = 4 from rfl, p2']
    simp only [ne_eq, not_true_eq_false, if_false, if_true]
    rfl
  refine ⟨S, ?_, rowP_none hrow h.g0 h.rd h.ep⟩
  unfold commitH
  have e8 : (4 : Int) * ((List.length [((3 : Int), none0), ((3 : Int), none0)] : Nat) : Int) = 8 := by simp
  have hep := h.ep
  generalize (readNowL t).1 = X at hg hep
  rw [hg, if_neg (fun hh => hh rfl), if_pos ⟨he, hep⟩, rowP, rowN1, e8]
  exact hrow

/-- Settle, plainly. -/
def thereB (e : Int) (l : List Plat) : Bool := l.any fun P => decide ((getH P).1.epoch = e)
def firstE {α : Type} (f : α → Int) : List α → Int
  | [] => 0
  | a :: l => if f a ≠ 0 then f a else firstE f l
def settleL (l : List Plat) (e : Int) : List Plat × Int :=
  if e < 1 ∨ 1000000 < e then ([], 1)
  else if firstE (fun P => (getH P).2) l ≠ 0 then ([], firstE (fun P => (getH P).2) l)
  else if thereB e l = false then (l, 0)
  else if firstE (fun P => (commitH P e (-1)).2) l ≠ 0 then ([], firstE (fun P => (commitH P e (-1)).2) l)
  else (l.map fun P => (commitH P e (-1)).1, 0)
theorem firstE_zero {α : Type} {f : α → Int} : ∀ {l : List α}, firstE f l = 0 ↔ ∀ a ∈ l, f a = 0
  | [] => ⟨fun _ a h => by simp at h, fun _ => rfl⟩
  | a :: l => by
    rw [firstE]
    by_cases h : f a = 0
    · rw [if_neg (by simpa using h), firstE_zero]
      exact ⟨fun g b hb => by rcases List.mem_cons.1 hb with rfl | hb; exact h; exact g b hb, fun g b hb => g b (List.mem_cons_of_mem _ hb)⟩
    · rw [if_pos h]
      exact ⟨fun g => absurd g h, fun g => absurd (g a (by simp)) h⟩
set_option maxHeartbeats 1000000 in
/-- Settled, and again. -/
theorem settle_twice {l a : List Plat} {e : Int} (h : settleL l e = (a, 0)) : a.length = l.length ∧ ∃ b, settleL a e = (b, 0) ∧ b.length = a.length ∧ (∀ i, i < a.length → (getH (a.getD i noPlat)).2 = 0 ∧ getH (b.getD i noPlat) = getH (a.getD i noPlat)) ∧
    ((thereB e l = false ∧ a = l ∧ ∀ i, i < a.length → (getH (a.getD i noPlat)).1.epoch ≠ e) ∨ ∀ i, i < a.length → (getH (a.getD i noPlat)).1.epoch = e) := by
  unfold settleL at h
  split at h
  · simp at h
  rename_i h1
  split at h
  · rename_i h2; simp only [Prod.mk.injEq] at h; exact absurd h.2 h2
  rename_i h2
  have z2 := firstE_zero.1 (Decidable.not_not.1 h2)
  have gd : ∀ (l : List Plat) i, i < l.length → l.getD i noPlat ∈ l := fun l i hi => by
    rw [List.getD_eq_getElem?_getD, List.getElem?_eq_getElem hi]
    exact List.getElem_mem hi
  split at h
  · rename_i h3
    simp only [Prod.mk.injEq, and_true] at h
    subst h
    refine ⟨rfl, l, ?_, rfl, fun i hi => ⟨z2 _ (gd l i hi), rfl⟩, .inl ⟨h3, rfl, fun i hi he => ?_⟩⟩
    · unfold settleL
      rw [if_neg h1, if_neg h2, if_pos h3]
    · unfold thereB at h3
      rw [List.any_eq_false] at h3
      exact h3 _ (gd l i hi) (decide_eq_true he)
  rename_i h3
  split at h
  · rename_i h4; simp only [Prod.mk.injEq] at h; exact absurd h.2 h4
  rename_i h4
  have z4 := firstE_zero.1 (Decidable.not_not.1 h4)
  simp only [Prod.mk.injEq, and_true] at h
  subst h
  have he : e ≠ 0 := by omega
  have hd : ∀ P ∈ l, ∃ t, Done (commitH P e (-1)).1 e t := fun P hP => commit_done (Prod.ext rfl (z4 P hP))
  have hda : ∀ Q ∈ l.map (fun P => (commitH P e (-1)).1), ∃ t, Done Q e t := fun Q hQ => by
    obtain ⟨P, hP, rfl⟩ := List.mem_map.1 hQ
    exact hd P hP
  generalize hA : l.map (fun P => (commitH P e (-1)).1) = A at hda
  have hlA : A.length = l.length := by rw [← hA, List.length_map]
  have hg : ∀ Q ∈ A, (getH Q).2 = 0 ∧ (getH Q).1.epoch = e := fun Q hQ => by
    obtain ⟨t, ht⟩ := hda Q hQ
    have hq := ht.get
    have he := ht.ep
    generalize (readNowL t).1 = X at hq he
    rw [hq]
    exact ⟨rfl, he⟩
  have ha : ∀ Q ∈ A, (commitH Q e (-1)).2 = 0 ∧ getH (commitH Q e (-1)).1 = getH Q := fun Q hQ => by
    obtain ⟨t, ht⟩ := hda Q hQ
    obtain ⟨R, r1, r2⟩ := done_again ht he
    have hq := ht.get
    have hr := r2.get
    exact ⟨by rw [r1], by rw [r1, hr, hq]⟩
  refine ⟨hlA, ?_⟩
  by_cases hn : thereB e A = false
  · have hnil : A = [] := by
      unfold thereB at hn
      rw [List.any_eq_false] at hn
      cases A with
      | nil => rfl
      | cons Q A => exact absurd (decide_eq_true (hg Q (List.mem_cons_self ..)).2) (hn Q (List.mem_cons_self ..))
    subst hnil
    refine ⟨[], ?_, rfl, fun i hi => by simp at hi, .inr fun i hi => by simp at hi⟩
    unfold settleL
    rw [if_neg h1, if_neg (by simp [firstE]), if_pos hn]
  · refine ⟨A.map fun P => (commitH P e (-1)).1, ?_, by rw [List.length_map], fun i hi => ?_, .inr fun i hi => (hg _ (gd A i hi)).2⟩
    · unfold settleL
      rw [if_neg h1, if_neg (fun hne => hne (firstE_zero.2 fun Q hQ => (hg Q hQ).1)), if_neg hn, if_neg (fun hne => hne (firstE_zero.2 fun Q hQ => (ha Q hQ).1))]
    · refine ⟨(hg _ (gd A i hi)).1, ?_⟩
      have : (A.map fun P => (commitH P e (-1)).1).getD i noPlat = (commitH (A.getD i noPlat) e (-1)).1 := by
        rw [List.getD_eq_getElem?_getD, List.getElem?_map, List.getElem?_eq_getElem hi, List.getD_eq_getElem?_getD, List.getElem?_eq_getElem hi]
        rfl
      rw [this]
      exact (ha _ (gd A i hi)).2

end Go.Proofs.YtieekajjoikepaaGreatDoor
