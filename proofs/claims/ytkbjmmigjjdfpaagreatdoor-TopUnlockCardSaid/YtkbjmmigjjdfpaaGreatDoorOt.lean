/-
  Plain law of owner: what is chosen; a deal's shares unlock.
-/
import Derived.Test.YtkbjmmigjjdfpaaGreatDoorOw4
import Derived.Test.YtkbjmmigjjdfpaaGreatDoorPm
import Derived.Test.YtkbjmmigjjdfpaaGreatDoorPick
namespace Go.Proofs.YtkbjmmigjjdfpaaGreatDoor
set_option linter.unusedVariables false
set_option linter.unusedSimpArgs false
set_option maxRecDepth 100000

theorem fit_parts {r : Rec} {a : Ans} (h : fitB r a = true) : placeB r a.nm = true ∧ a.x = (placeN r a.nm : Nat) ∧ checkP (r.ps.getD (placeN r a.nm - 1) noneT) a.salt (a.x, a.b) = true := by
  simp only [fitB, Bool.and_eq_true, decide_eq_true_eq] at h
  exact ⟨h.1.1, h.1.2, h.2⟩
theorem tells_parts {r : Rec} {nm : ByteArray} {a : Ans} (h : tells r nm false a = true) : a.nm = nm ∧ fitB r a = true := by
  simpa [tells] using h
/-- The first answer of name i that fits, if any, is of place i + 1. -/
theorem first_at {r : Rec} {ls : List Ans} (hc : checkR r = true) {i : Nat} (hi : i < r.ns.length) {p : Shr} (h : firstF r ls r.ns[i] = some p) : p.1 = ((i + 1 : Nat) : Int) ∧ ∃ a ∈ ls, a.nm = r.ns[i] ∧ fitB r a = true ∧ p = (a.x, a.b) := by
  unfold firstF at h
  obtain ⟨a, ha, rfl⟩ := Option.map_eq_some_iff.1 h
  have hm := List.mem_of_find?_eq_some ha
  obtain ⟨hn, hf⟩ := tells_parts (List.find?_some ha)
  obtain ⟨_, hx, _⟩ := fit_parts hf
  refine ⟨?_, a, hm, hn, hf, rfl⟩
  rw [hn, (place_at hc i hi).2] at hx
  exact hx
def hit (r : Rec) (ls : List Ans) (i : Nat) : Bool := (firstF r ls (r.ns.getD i noneT)).isSome
def hits (r : Rec) (ls : List Ans) (n : Nat) : List Nat := (List.range n).filter (hit r ls)
theorem hits_snoc (r : Rec) (ls : List Ans) (n : Nat) : hits r ls (n + 1) = hits r ls n ++ (if hit r ls n = true then [n] else []) := by
  unfold hits
  rw [List.range_succ, List.filter_append]
  congr 1
  by_cases h : hit r ls n = true
  · rw [List.filter_cons, if_pos h, if_pos h]; rfl
  · rw [List.filter_cons, if_neg h, if_neg h]; rfl
theorem getD_eq {l : List ByteArray} {i : Nat} (hi : i < l.length) : l.getD i noneT = l[i] := by rw [List.getD_eq_getElem?_getD, List.getElem?_eq_getElem hi]; rfl
/-- What the first ones are, if each is told by its number. -/
theorem firsts_map {r : Rec} {ls : List Ans} (f : Nat → Shr) (hf : ∀ i (hi : i < r.ns.length) p, firstF r ls r.ns[i] = some p → p = f i) : ∀ n, n ≤ r.ns.length → firstsL r ls n = (hits r ls n).map f
  | 0, _ => rfl
  | n + 1, hn => by
    have hi : n < r.ns.length := by omega
    rw [firsts_snoc hi, hits_snoc, firsts_map f hf n (by omega), List.map_append]
    congr 1
    unfold hit
    rw [getD_eq hi]
    cases h : firstF r ls r.ns[n] with
    | none => rfl
    | some p => rw [hf n hi p h]; rfl
theorem firsts_fst {r : Rec} {ls : List Ans} (hc : checkR r = true) : ∀ n, n ≤ r.ns.length → (firstsL r ls n).map Prod.fst = (hits r ls n).map fun i => ((i + 1 : Nat) : Int)
  | 0, _ => rfl
  | n + 1, hn => by
    have hi : n < r.ns.length := by omega
    rw [firsts_snoc hi, hits_snoc, List.map_append, List.map_append, firsts_fst hc n (by omega)]
    congr 1
    unfold hit
    rw [getD_eq hi]
    cases h : firstF r ls r.ns[n] with
    | none => rfl
    | some p => rw [Option.toList_some, List.map_cons, (first_at hc hi h).1]; rfl
theorem firsts_len {r : Rec} {ls : List Ans} (hc : checkR r = true) : (firstsL r ls r.ns.length).length = (hits r ls r.ns.length).length := by
  have := congrArg List.length (firsts_fst (ls := ls) hc r.ns.length (Nat.le_refl _))
  simpa using this
theorem hits_lt (r : Rec) (ls : List Ans) (n : Nat) : ∀ i ∈ hits r ls n, i < n := fun i hi => List.mem_range.1 (List.mem_filter.1 hi).1
theorem hits_pw (r : Rec) (ls : List Ans) (n : Nat) : (hits r ls n).Pairwise (· < ·) := List.Pairwise.filter _ List.pairwise_lt_range
theorem hits_nodup (r : Rec) (ls : List Ans) (n : Nat) : (hits r ls n).Nodup := (hits_pw r ls n).imp fun h => Nat.ne_of_lt h
theorem chosen_fst {r : Rec} {ls : List Ans} (hc : checkR r = true) : (chosenL r ls).map Prod.fst = ((hits r ls r.ns.length).take r.k.toNat).map fun i => ((i + 1 : Nat) : Int) := by
  rw [chosenL, if_pos hc, List.map_take, firsts_fst hc _ (Nat.le_refl _), List.map_take]
theorem chosen_len {r : Rec} {ls : List Ans} (hc : checkR r = true) : (chosenL r ls).length = min r.k.toNat (hits r ls r.ns.length).length := by
  rw [chosenL, if_pos hc, List.length_take, firsts_len hc]
/-- A name that has a fitting answer is hit. -/
theorem hit_of {r : Rec} {ls : List Ans} {a : Ans} (ha : a ∈ ls) (hf : fitB r a = true) {i : Nat} (hn : a.nm = r.ns.getD i noneT) : hit r ls i = true := by
  unfold hit firstF
  rw [Option.isSome_map, List.find?_isSome]
  exact ⟨a, ha, by simp [tells, hf, hn]⟩

/-! ### A deal -/
structure Deal where
  r : Rec
  sec : ByteArray
  sh : List Shr
  sa : List ByteArray
def dealSh (sec tape : ByteArray) (n : Nat) (k : Int) : List Shr := if splitOK sec tape (n : Int) k = true then splitL sec.data.toList tape.data.toList n (k - 1).toNat else []
def dealD (sec : ByteArray) (ns : List ByteArray) (k : Int) (tape : ByteArray) (sa : List ByteArray) : Deal :=
  ⟨⟨1, k, ns, allL sa (dealSh sec tape ns.length k)⟩, sec, dealSh sec tape ns.length k, sa⟩
def dealB (sec : ByteArray) (ns : List ByteArray) (k : Int) (tape : ByteArray) (sa : List ByteArray) : Bool :=
  splitOK sec tape (ns.length : Int) k && decide (allE sa (dealSh sec tape ns.length k) = 0) && checkR (dealD sec ns k tape sa).r
/-- The answer of a place, from 0 on. -/
def ansD (D : Deal) (i : Nat) : Ans := ⟨D.r.ns.getD i noneT, D.sa.getD i noneT, (D.sh.getD i (0, noneT)).1, (D.sh.getD i (0, noneT)).2⟩
/-- What a good deal is. -/
structure Good (D : Deal) (m : Nat) (t : List UInt8) : Prop where
  ck : checkR D.r = true
  kk : D.r.k = ((m + 1 : Nat) : Int)
  hm : m + 1 ≤ D.r.ns.length
  sz : D.sec.size = 32
  sh : D.sh = (List.range D.r.ns.length).map (pick D.sec.data.toList t m)
  sl : D.sa.length = D.r.ns.length
  br : ∀ i, i < D.r.ns.length → brightB (D.sa.getD i noneT) (pick D.sec.data.toList t m i) = true
  pl : ∀ i, i < D.r.ns.length → D.r.ps.getD i noneT = sumT (D.sa.getD i noneT) (pick D.sec.data.toList t m i)
theorem deal_good {sec : ByteArray} {ns : List ByteArray} {k : Int} {tape : ByteArray} {sa : List ByteArray} (h : dealB sec ns k tape sa = true) : Good (dealD sec ns k tape sa) (k - 1).toNat tape.data.toList := by
  simp only [dealB, Bool.and_eq_true, decide_eq_true_eq] at h
  obtain ⟨⟨h1, h2⟩, h3⟩ := h
  obtain ⟨N, m, e1, e2, e3, e4, e5, e6⟩ := split_is sec tape _ _ h1
  have hN : N = ns.length := by omega
  subst hN
  have hm : (k - 1).toNat = m := by omega
  have hsh : dealSh sec tape ns.length k = (List.range ns.length).map (pick sec.data.toList tape.data.toList m) := by rw [dealSh, if_pos h1, hm]; rfl
  rw [hm]
  rw [hsh] at h2
  have hlen : sa.length = ns.length := by
    by_cases hl : sa.length = ((List.range ns.length).map (pick sec.data.toList tape.data.toList m)).length
    · simpa using hl
    · unfold allE at h2; rw [if_pos hl] at h2; cases h2
  have hall : pairsOK sa ((List.range ns.length).map (pick sec.data.toList tape.data.toList m)) = true := by
    unfold allE at h2
    rw [if_neg (show ¬ sa.length ≠ _ by simpa using hlen)] at h2
    by_cases hp : pairsOK sa ((List.range ns.length).map (pick sec.data.toList tape.data.toList m)) = true
    · exact hp
    · rw [if_neg hp] at h2; cases h2
  have hps : (dealD sec ns k tape sa).r.ps = pairsL sa ((List.range ns.length).map (pick sec.data.toList tape.data.toList m)) := by
    show allL sa (dealSh sec tape ns.length k) = _
    rw [hsh, allL, if_pos h2]
  have hz : ∀ i (hi : i < ns.length), (sa.zip ((List.range ns.length).map (pick sec.data.toList tape.data.toList m)))[i]? = some (sa.getD i noneT, pick sec.data.toList tape.data.toList m i) := fun i hi => by
    have h1 : i < sa.length := by omega
    have h2 : i < ((List.range ns.length).map (pick sec.data.toList tape.data.toList m)).length := by simpa using hi
    rw [List.getElem?_eq_getElem (by rw [List.length_zip]; omega), List.getElem_zip, getD_eq h1]
    simp
  refine ⟨h3, e2, e6, e3, hsh, hlen, fun i hi => ?_, fun i hi => ?_⟩
  · have := List.all_eq_true.1 hall _ (List.mem_of_getElem? (hz i hi))
    exact this
  · rw [hps, pairsL, List.getD_eq_getElem?_getD, List.getElem?_map, hz i hi]
    rfl
theorem good_sh {D : Deal} {m : Nat} {t : List UInt8} (g : Good D m t) {i : Nat} (hi : i < D.r.ns.length) : D.sh.getD i (0, noneT) = pick D.sec.data.toList t m i := by
  rw [g.sh, List.getD_eq_getElem?_getD, List.getElem?_map, List.getElem?_range hi]
  rfl
/-- A deal's own answer fits. -/
theorem fit_own {D : Deal} {m : Nat} {t : List UInt8} (g : Good D m t) {i : Nat} (hi : i < D.r.ns.length) : fitB D.r (ansD D i) = true := by
  have hp := place_at g.ck i hi
  have hn : (ansD D i).nm = D.r.ns[i] := getD_eq hi
  unfold fitB
  rw [hn, hp.1, hp.2]
  have hx : (ansD D i).x = ((i + 1 : Nat) : Int) := by
    show (D.sh.getD i (0, noneT)).1 = _
    rw [good_sh g hi]
    rfl
  have hsh : ((ansD D i).x, (ansD D i).b) = pick D.sec.data.toList t m i := by
    show ((D.sh.getD i (0, noneT)).1, (D.sh.getD i (0, noneT)).2) = _
    rw [good_sh g hi]
  rw [hsh, hx, Nat.add_sub_cancel, g.pl i hi]
  show (true && decide _ && checkP _ (D.sa.getD i noneT) _) = true
  rw [checkP, g.br i hi]
  simp
theorem pick_right {s t : List UInt8} {m N : Nat} {ps : List Nat} (hN : N ≤ 255) (h1 : 1 ≤ ps.length) (hlt : ∀ i ∈ ps, i < N) (hnd : ps.Nodup) (hl : ps.length ≤ 255) : rightB (ps.map (pick s t m)) 1 = true := by
  unfold rightB
  rw [List.length_map, decide_eq_true h1, decide_eq_true hl, decide_eq_true (pick_nodup s t m ps hnd), Bool.and_true, Bool.true_and, Bool.true_and, List.all_eq_true]
  intro p hp
  obtain ⟨i, hi, rfl⟩ := List.mem_map.1 hp
  have := hlt i hi
  have hz : (bs (shareL s t m i)).size = 32 := by rw [bs_size, shareL_len]
  show (decide ((1 : Int) ≤ ((i + 1 : Nat) : Int)) && decide (((i + 1 : Nat) : Int) ≤ 255) && decide ((bs (shareL s t m i)).size = 32)) = true
  rw [decide_eq_true (by omega), decide_eq_true (by omega), decide_eq_true hz]
  rfl
/-- Are all fitting answers as they were dealt, K hits unlock. -/
theorem opens {D : Deal} {m : Nat} {t : List UInt8} (g : Good D m t) {ls : List Ans} (hd : ∀ a ∈ ls, fitB D.r a = true → (a.x, a.b) = D.sh.getD (a.x - 1).toNat (0, noneT)) (hk : m + 1 ≤ (hits D.r ls D.r.ns.length).length)
    {nonce master : ByteArray} (hw : wrapE D.sec nonce master = 0) : unlE D.r ls (wrapS D.sec nonce master) = 0 ∧ unlS D.r ls (wrapS D.sec nonce master) = master := by
  have hN := (check_head g.ck).2.2.2.1
  have hf : ∀ i (hi : i < D.r.ns.length) p, firstF D.r ls D.r.ns[i] = some p → p = pick D.sec.data.toList t m i := fun i hi p h => by
    obtain ⟨h1, a, ha, hn, hfit, rfl⟩ := first_at g.ck hi h
    rw [hd a ha hfit]
    have : (a.x - 1).toNat = i := by
      have h1' : a.x = ((i + 1 : Nat) : Int) := h1
      omega
    rw [this, good_sh g hi]
  have hfs := firsts_map _ hf D.r.ns.length (Nat.le_refl _)
  have hch : chosenL D.r ls = ((hits D.r ls D.r.ns.length).take (m + 1)).map (pick D.sec.data.toList t m) := by
    rw [chosenL, if_pos g.ck, hfs, g.kk, Int.toNat_natCast, List.map_take]
  have htl : ((hits D.r ls D.r.ns.length).take (m + 1)).length = m + 1 := by rw [List.length_take]; omega
  have hcl : (chosenL D.r ls).length = m + 1 := by rw [hch, List.length_map, htl]
  have hlt : ∀ i ∈ (hits D.r ls D.r.ns.length).take (m + 1), i < D.r.ns.length := fun i hi => hits_lt _ _ _ i (List.mem_of_mem_take hi)
  have hnd : ((hits D.r ls D.r.ns.length).take (m + 1)).Nodup := (hits_nodup _ _ _).sublist (List.take_sublist _ _)
  have hrt : rightB (chosenL D.r ls) 1 = true := by rw [hch]; exact pick_right (N := D.r.ns.length) (by omega) (by omega) hlt hnd (by have := g.hm; omega)
  have hat : bs (atL (chosenL D.r ls) 0) = D.sec := by
    rw [hch, at_split D.sec.data.toList t D.r.ns.length m _ (by omega) hlt hnd htl (by rw [len_data]; exact g.sz)]
    rfl
  have hun : unwrapE D.sec (wrapS D.sec nonce master) = 0 ∧ unwrapS D.sec (wrapS D.sec nonce master) = master := by
    have h32 : master.size = 32 := by
      unfold wrapE at hw
      split at hw
      · cases hw
      · rename_i h; simpa using h
    have hs : sealE D.sec nonce masterT master = 0 := by
      unfold wrapE at hw
      rw [if_neg (by simpa using h32)] at hw
      exact hw
    obtain ⟨o1, o2, o3⟩ := open_seal hs
    have hn12 := (seal_zero hs).2.1
    have hws : wrapS D.sec nonce master = nonce ++ sealS D.sec nonce masterT master := by unfold wrapS; rw [if_pos hw]
    have hsz : (wrapS D.sec nonce master).size = 60 := by rw [hws, ByteArray.size_append]; omega
    have x1 : (wrapS D.sec nonce master).extract 0 12 = nonce := by
      rw [hws, extract_bs, ByteArray.data_append, Array.toList_append, List.drop_zero, List.take_append_of_le_length (by rw [len_data]; omega), List.take_of_length_le (by rw [len_data]; omega)]
      rfl
    have x2 : (wrapS D.sec nonce master).extract 12 (wrapS D.sec nonce master).size = sealS D.sec nonce masterT master := by
      rw [hsz, hws, extract_bs, ByteArray.data_append, Array.toList_append, List.take_of_length_le (by rw [List.length_append, len_data, len_data]; omega), List.drop_append_of_le_length (by rw [len_data]; omega), List.drop_of_length_le (by rw [len_data]; omega), List.nil_append]
      rfl
    unfold unwrapE unwrapS
    rw [if_neg (by simpa using hsz), if_neg (by simpa using hsz), x1, x2]
    exact ⟨o1, o2⟩
  have hnk : ¬ ((chosenL D.r ls).length : Int) < D.r.k := by rw [hcl, g.kk]; omega
  have h0 : ¬ (true = false) := by simp
  refine ⟨?_, ?_⟩
  · unfold unlE
    rw [g.ck, if_neg h0, if_neg hnk, hrt, if_neg h0, hat]
    exact hun.1
  · unfold unlS
    rw [g.ck, if_neg h0, if_neg hnk, hrt, if_neg h0, hat]
    exact hun.2
/-- Fewer hits than K unlock nothing. -/
theorem few {r : Rec} {ls : List Ans} (hc : checkR r = true) (h : ((hits r ls r.ns.length).length : Int) < r.k) (wp : ByteArray) : unlE r ls wp = 220 ∧ unlS r ls wp = ⟨#[]⟩ := by
  have hl : ((chosenL r ls).length : Int) < r.k := by rw [chosen_len hc]; omega
  have h0 : ¬ (true = false) := by simp
  refine ⟨?_, ?_⟩
  · unfold unlE
    rw [hc, if_neg h0, if_pos hl]
  · unfold unlS
    rw [hc, if_neg h0, if_pos hl]
end Go.Proofs.YtkbjmmigjjdfpaaGreatDoor
