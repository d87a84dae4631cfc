/-
  Plain: names, records, places.
  Contracts of member.Name, Check, Place.
  Contract of member.Place.
-/
import Derived.Test.YtkbjmmigjjdfpaaGreatDoorTxt
import Derived.Laws.Cover1
namespace Go.Proofs.YtkbjmmigjjdfpaaGreatDoor
/- MemT -/
open Go.RowKit
set_option linter.unusedVariables false
set_option linter.unusedSimpArgs false

def noneT : ByteArray := ⟨#[]⟩
/-- A record. -/
structure Rec where
  e : Int
  k : Int
  ns : List ByteArray
  ps : List ByteArray
/-- Is it a letter or a digit? -/
def okC (c : UInt8) : Bool := (decide (97 ≤ c.toNat) && decide (c.toNat ≤ 122)) || (decide (48 ≤ c.toNat) && decide (c.toNat ≤ 57))
def nameB (s : ByteArray) : Bool := decide (1 ≤ s.size) && decide (s.size ≤ 20) && s.data.toList.all okC
def lessB (a b : ByteArray) : Bool := Op.bytesLess a.toList b.toList
def headR (r : Rec) : Bool := decide (1 ≤ r.e) && decide (r.e ≤ 1000000) && decide (1 ≤ r.ns.length) && decide (r.ns.length ≤ 16) && decide (r.ps.length = r.ns.length) && decide (1 ≤ r.k) && decide (r.k ≤ r.ns.length)
def okE (r : Rec) (i : Nat) : Bool := nameB (r.ns.getD i noneT) && decide ((r.ps.getD i noneT).size = 32) && (decide (i = 0) || lessB (r.ns.getD (i - 1) noneT) (r.ns.getD i noneT))
def checkR (r : Rec) : Bool := headR r && (List.range r.ns.length).all (okE r)

theorem less_list (x : List UInt8) : ∀ y, Op.bytesLess x y = true ↔ x < y := by
  induction x with
  | nil => intro y; cases y <;> simp [Op.bytesLess]
  | cons a x ih =>
    intro y
    cases y with
    | nil => simp [Op.bytesLess]
    | cons b y => simp [Op.bytesLess, List.cons_lt_cons_iff, ih y]
theorem less_eq (a b : ByteArray) : lessB a b = decide (a.data.toList < b.data.toList) := by
  unfold lessB
  rw [Bool.eq_iff_iff, less_list, ByteArray.toList_eq, ByteArray.toList_eq, decide_eq_true_eq]
theorem data_inj {a b : ByteArray} (h : a.data.toList = b.data.toList) : a = b := ByteArray.ext (Array.toList_inj.1 h)
/-- `name <= before` is just: not before < name. -/
theorem leq_less (a b : ByteArray) : (Op.bytesLess a.toList b.toList || a.toList == b.toList) = !lessB b a := by
  have h1 : Op.bytesLess a.toList b.toList = decide (a.data.toList < b.data.toList) := less_eq a b
  have h2 : (a.toList == b.toList) = decide (a.data.toList = b.data.toList) := by
    rw [ByteArray.toList_eq, ByteArray.toList_eq]
    rw [Bool.eq_iff_iff, beq_iff_eq, decide_eq_true_eq]
  rw [h1, h2, less_eq]
  generalize a.data.toList = x
  generalize b.data.toList = y
  rw [Bool.eq_iff_iff]
  simp only [Bool.or_eq_true, decide_eq_true_eq, Bool.not_eq_true', decide_eq_false_iff_not]
  constructor
  · rintro (h | h)
    · exact fun h' => List.lt_asymm h h'
    · rw [h]; exact List.lt_irrefl y
  · intro h
    by_cases e : x = y
    · exact .inr e
    · left
      have := List.not_lt.1 h
      rcases List.le_iff_lt_or_eq.1 this with h | h
      · exact h
      · exact absurd h e
theorem less_trans {a b c : ByteArray} (h : lessB a b = true) (h' : lessB b c = true) : lessB a c = true := by
  rw [less_eq, decide_eq_true_eq] at h h' ⊢
  exact List.lt_trans h h'
theorem less_ne {a b : ByteArray} (h : lessB a b = true) : a ≠ b := by
  rintro rfl
  rw [less_eq, decide_eq_true_eq] at h
  exact List.lt_irrefl _ h
theorem check_head {r : Rec} (h : checkR r = true) : 1 ≤ r.e ∧ r.e ≤ 1000000 ∧ 1 ≤ r.ns.length ∧ r.ns.length ≤ 16 ∧ r.ps.length = r.ns.length ∧ 1 ≤ r.k ∧ r.k ≤ r.ns.length := by
  simp only [checkR, headR, Bool.and_eq_true, decide_eq_true_eq] at h
  obtain ⟨⟨⟨⟨⟨⟨⟨h1, h2⟩, h3⟩, h4⟩, h5⟩, h6⟩, h7⟩, _⟩ := h
  exact ⟨h1, h2, h3, h4, h5, h6, h7⟩
theorem check_at {r : Rec} (h : checkR r = true) (i : Nat) (hi : i < r.ns.length) : okE r i = true := by
  simp only [checkR, Bool.and_eq_true] at h
  exact List.all_eq_true.1 h.2 i (List.mem_range.2 hi)
theorem check_sorted {r : Rec} (h : checkR r = true) : ∀ (d i : Nat), i + d + 1 < r.ns.length → lessB (r.ns.getD i noneT) (r.ns.getD (i + d + 1) noneT) = true
  | 0, i, hi => by
    have := check_at h (i + 1) hi
    simp only [okE, Bool.and_eq_true, Bool.or_eq_true, decide_eq_true_eq] at this
    rcases this.2 with e | e
    · omega
    · exact e
  | d + 1, i, hi => by
    have h1 := check_sorted h d i (by omega)
    have := check_at h (i + (d + 1) + 1) hi
    simp only [okE, Bool.and_eq_true, Bool.or_eq_true, decide_eq_true_eq] at this
    rcases this.2 with e | e
    · omega
    · exact less_trans h1 e
theorem check_nodup {r : Rec} (h : checkR r = true) : r.ns.Nodup := by
  refine List.pairwise_iff_getElem.2 fun i j hi hj hij => ?_
  have h1 := check_sorted h (j - i - 1) i (by omega)
  have h2 := less_ne h1
  rw [show i + (j - i - 1) + 1 = j by omega] at h2
  simpa [List.getD_eq_getElem?_getD, hi, hj] using h2

/-- A name's place, from 1 on; 0: none. -/
def placeB (r : Rec) (name : ByteArray) : Bool := checkR r && r.ns.any fun n => decide (n = name)
def placeN (r : Rec) (name : ByteArray) : Nat := if placeB r name = true then r.ns.findIdx (fun n => decide (n = name)) + 1 else 0
theorem any_mem {l : List ByteArray} {x : ByteArray} : (l.any fun n => decide (n = x)) = true ↔ x ∈ l := by simp [List.any_eq_true]
theorem idx_eq {l : List ByteArray} {x : ByteArray} {i : Nat} (hi : i < l.length) (h : l[i] = x) (hn : x ∉ l.take i) : l.findIdx (fun n => decide (n = x)) = i := by
  rw [List.findIdx_eq hi]
  refine ⟨by simpa using h, fun j hj => ?_⟩
  rw [decide_eq_false_iff_not]
  intro e
  exact hn (List.mem_iff_getElem.2 ⟨j, by simp; omega, by rw [List.getElem_take]; exact e⟩)
theorem take_next {l : List ByteArray} {x : ByteArray} {i : Nat} (hi : i < l.length) (h : l[i] ≠ x) (hn : x ∉ l.take i) : x ∉ l.take (i + 1) := by
  rw [List.take_succ_eq_append_getElem hi]
  simp only [List.mem_append, List.mem_singleton, not_or]
  exact ⟨hn, fun e => h e.symm⟩
/-- A row's place is found by its name. -/
theorem place_at {r : Rec} (h : checkR r = true) (i : Nat) (hi : i < r.ns.length) : placeB r r.ns[i] = true ∧ placeN r r.ns[i] = i + 1 := by
  have hp : placeB r r.ns[i] = true := by rw [placeB, h, any_mem.2 (List.getElem_mem hi)]; rfl
  refine ⟨hp, ?_⟩
  rw [placeN, if_pos hp, idx_eq hi rfl]
  intro hm
  obtain ⟨j, hj, e⟩ := List.mem_iff_getElem.1 hm
  rw [List.getElem_take] at e
  have hji : j < i := by simp at hj; omega
  have := List.pairwise_iff_getElem.1 (check_nodup h) j i (by omega) hi hji
  exact this e
theorem place_le (r : Rec) (name : ByteArray) (h : placeB r name = true) : 1 ≤ placeN r name ∧ placeN r name ≤ r.ns.length ∧ checkR r = true ∧ r.ns.getD (placeN r name - 1) noneT = name ∧ name ∈ r.ns := by
  have h2 := h
  simp only [placeB, Bool.and_eq_true] at h2
  have hm := any_mem.1 h2.2
  rw [placeN, if_pos h]
  have hl : r.ns.findIdx (fun n => decide (n = name)) < r.ns.length := List.findIdx_lt_length_of_exists ⟨name, hm, by simp⟩
  refine ⟨by omega, by omega, h2.1, ?_, hm⟩
  have := List.findIdx_getElem (p := fun n => decide (n = name)) (w := hl)
  rw [Nat.add_sub_cancel, List.getD_eq_getElem?_getD, List.getElem?_eq_getElem hl, Option.getD_some]
  exact of_decide_eq_true this

/- Mem -/
open Go.RowKit
set_option linter.unusedVariables false
set_option linter.unusedSimpArgs false
set_option maxRecDepth 100000
set_option maxHeartbeats 1000000

theorem okC_parts (c : UInt8) : okC c = ((decide ((c.toNat : Int) ≥ 97) && decide ((c.toNat : Int) ≤ 122)) || (decide ((c.toNat : Int) ≥ 48) && decide ((c.toNat : Int) ≤ 57))) := by
  unfold okC
  simp only [ge_iff_le]
  rw [Bool.eq_iff_iff]
  simp only [Bool.or_eq_true, Bool.and_eq_true, decide_eq_true_eq]
  omega
theorem all_bad {l : List UInt8} {i : Nat} (hi : i < l.length) (h : okC l[i] = false) : l.all okC = false := List.all_eq_false.2 ⟨l[i], List.getElem_mem hi, by simp [h]⟩
theorem name_any (s : ByteArray) (w : World) :
    Calls Tryz.prog 54 #[.string s] w fun e w' => e = .returned (.bool (nameB s)) ∧ w' = w := by
  by_cases h1 : s.size < 1
  · have d1 : decide ((s.size : Int) < 1) = true := by simp; omega
    have HE := Lib.hid (show nameB s = false by simp [nameB]; omega)
    clear h1
    go_enter Tryz.func54, Tryz.ntmps54
    go_wp2_with fail
    go_ret
    rw [HE.out]
    exact ⟨rfl, rfl⟩
  have d1 : decide ((s.size : Int) < 1) = false := by simp; omega
  by_cases h2 : 20 < s.size
  · have d2 : decide ((s.size : Int) > 20) = true := by simp; omega
    have HE := Lib.hid (show nameB s = false by simp [nameB]; omega)
    clear h1 h2
    go_enter Tryz.func54, Tryz.ntmps54
    go_wp2_with fail
    go_ret
    rw [HE.out]
    exact ⟨rfl, rfl⟩
  have d2 : decide ((s.size : Int) > 20) = false := by simp; omega
  have HE := Lib.hid (show nameB s = s.data.toList.all okC by simp [nameB, show 1 ≤ s.size by omega, show s.size ≤ 20 by omega])
  have hs20 : s.size ≤ 20 := by omega
  clear h1 h2
  go_enter Tryz.func54, Tryz.ntmps54
  go_wp2_with fail
  go_loopw [16] (fun x wr => ∃ k : Nat, k ≤ s.size ∧ x = .int .i64 (k : Nat) ∧ (s.data.toList.take k).all okC = true ∧ wr = w) (fun x _ => s.size - (intOf x).toNat)
  case atStart => exact ⟨0, by omega, rfl, rfl, rfl⟩
  case round =>
    obtain ⟨k, hk, rfl, hall, rfl⟩ := hrel
    have Hall := Lib.hid hall
    clear hall d1 d2
    by_cases hlt : k < s.size
    · have e1 : decide ((k : Int) < (s.size : Int)) = true := by simp; omega
      have hck : s.data.toList[k]'(by rw [len_data]; exact hlt) = s[k] := rfl
      have Ht := Lib.hid (show s.data.toList.take (k + 1) = s.data.toList.take k ++ [s[k]] by rw [List.take_succ_eq_append_getElem (by rw [len_data]; exact hlt)]; rfl)
      have Hcp := Lib.hid (okC_parts s[k])
      clear hck
      by_cases p1 : (97 : Int) ≤ (s[k].toNat : Int)
      · have p3 : (48 : Int) ≤ (s[k].toNat : Int) := by omega
        have p4 : ¬ (s[k].toNat : Int) ≤ 57 := by omega
        by_cases p2 : (s[k].toNat : Int) ≤ 122
        · have Hc := Lib.hid (show okC s[k] = true by rw [Hcp.out]; simp; omega)
          go_wp2_with fail
          go_roundw
          case rel => exact ⟨k + 1, by omega, by go_num, by rw [Ht.out, List.all_append, Hall.out, List.all_cons, Hc.out]; rfl, trivial⟩
          case measure => simp [intOf]; omega
        · have Hc := Lib.hid (show okC s[k] = false by rw [Hcp.out]; simp; omega)
          have Hf := Lib.hid (all_bad (l := s.data.toList) (i := k) (by rw [len_data]; exact hlt) Hc.out)
          go_wp2_with fail
          try rw [Exit.noGoto_ret]
          go_ret
          exact ⟨by rw [HE.out, Hf.out]; rfl, rfl⟩
      · by_cases p3 : (48 : Int) ≤ (s[k].toNat : Int)
        · by_cases p4 : (s[k].toNat : Int) ≤ 57
          · have Hc := Lib.hid (show okC s[k] = true by rw [Hcp.out]; simp; omega)
            go_wp2_with fail
            go_roundw
            case rel => exact ⟨k + 1, by omega, by go_num, by rw [Ht.out, List.all_append, Hall.out, List.all_cons, Hc.out]; rfl, trivial⟩
            case measure => simp [intOf]; omega
          · have Hc := Lib.hid (show okC s[k] = false by rw [Hcp.out]; simp; omega)
            have Hf := Lib.hid (all_bad (l := s.data.toList) (i := k) (by rw [len_data]; exact hlt) Hc.out)
            go_wp2_with fail
            try rw [Exit.noGoto_ret]
            go_ret
            exact ⟨by rw [HE.out, Hf.out]; rfl, rfl⟩
        · have Hc := Lib.hid (show okC s[k] = false by rw [Hcp.out]; simp; omega)
          have Hf := Lib.hid (all_bad (l := s.data.toList) (i := k) (by rw [len_data]; exact hlt) Hc.out)
          go_wp2_with fail
          try rw [Exit.noGoto_ret]
          go_ret
          exact ⟨by rw [HE.out, Hf.out]; rfl, rfl⟩
    · obtain rfl : k = s.size := by omega
      have e1 : decide ((s.size : Int) < (s.size : Int)) = false := by simp
      have Hf := Lib.hid (show s.data.toList.all okC = true by have h := Hall.out; rwa [List.take_of_length_le (by rw [len_data]; exact Nat.le_refl _)] at h)
      go_wp2_with fail
      go_ret
      exact ⟨by rw [HE.out, Hf.out]; rfl, rfl⟩
/-- A record, as a value. -/
def RV (w : World) (v : Value) (r : Rec) : Prop := ∃ A n c B m d, v = .agg #[.int .i64 r.e, .int .i64 r.k, .slice A n c, .slice B m d] ∧ Rd w A (textsV r.ns) ∧ n = r.ns.length ∧ Rd w B (textsV r.ps) ∧ m = r.ps.length
theorem RV.below {w w' : World} {v : Value} {r : Rec} (h : RV w v r) (hb : Below w.heap.size w w') : RV w' v r := by
  obtain ⟨A, n, c, B, m, d, rfl, h1, h2, h3, h4⟩ := h
  exact ⟨A, n, c, B, m, d, rfl, h1.below hb, h2, h3.below hb, h4⟩
theorem check_bad {r : Rec} (i : Nat) (hi : i < r.ns.length) (h : okE r i = false) : checkR r = false := by
  have : (List.range r.ns.length).all (okE r) = false := List.all_eq_false.2 ⟨i, List.mem_range.2 hi, by simp [h]⟩
  rw [checkR, this, Bool.and_false]
theorem check_all {r : Rec} (h : headR r = true) (ha : ∀ j, j < r.ns.length → okE r j = true) : checkR r = true := by
  rw [checkR, h, List.all_eq_true.2 fun j hj => ha j (List.mem_range.1 hj)]
  rfl
theorem cell_in {w : World} {g : Nat} {t : TypeId} {cs : Array Value} (h : w.heap[g]? = some (.cells cs t (0, 0))) (i : Nat) (u : Value) (hu : cs[i]? = some u) : w.cell? ⟨g, i, none⟩ = some u := by
  unfold World.cell?
  simp [h, hu]
theorem ch_any (v : Value) (r : Rec) (w : World) (hv : RV w v r) :
    Calls Tryz.prog 27 #[v] w fun e w' => e = .returned (.bool (checkR r)) ∧ Below w.heap.size w w' := by
  obtain ⟨A, n, c, B, m, d, rfl, hA, hn, hB, hm⟩ := hv
  obtain ⟨ee, kk, ns, ps⟩ := r
  simp only at hA hn hB hm ⊢
  have HA := Lib.hid hA
  have HB := Lib.hid hB
  have HN := Lib.hid hn
  have HM := Lib.hid hm
  obtain ⟨rec, hrec⟩ : ∃ rec : Rec, rec = ⟨ee, kk, ns, ps⟩ := ⟨_, rfl⟩
  rw [← hrec]
  have Hns := Lib.hid (show rec.ns = ns by rw [hrec])
  have Hps := Lib.hid (show rec.ps = ps by rw [hrec])
  have hW := (Below.refl w.heap.size w).alloc (Nat.le_refl _) (.cells #[.int .i64 ee, .int .i64 kk, .slice A n c, .slice B m d] 26)
  have HW := Lib.hid hW
  have HH := Lib.hid (show headR rec = (decide (1 ≤ ee) && decide (ee ≤ 1000000) && decide (1 ≤ n) && decide (n ≤ 16) && decide (m = n) && decide (1 ≤ kk) && decide (kk ≤ n)) by rw [hrec, hm, hn]; rfl)
  have Hno := Lib.hid (show headR rec = false → checkR rec = false from fun h => by rw [checkR, h]; rfl)
  clear hA hn hB hm hW hrec
  by_cases q1 : ee < 1
  · have d1 : decide (ee < 1) = true := by simpa using q1
    have Hf := Lib.hid (Hno.out (by rw [HH.out]; simp; omega))
    clear q1
    go_enter Tryz.func27, Tryz.ntmps27
    go_wp2_with fail
    go_ret
    exact ⟨by rw [Hf.out]; rfl, HW.out⟩
  have d1 : decide (ee < 1) = false := by simpa using q1
  by_cases q2 : ee > 1000000
  · have d2 : decide (ee > 1000000) = true := by simpa using q2
    have Hf := Lib.hid (Hno.out (by rw [HH.out]; simp; omega))
    clear q1 q2
    go_enter Tryz.func27, Tryz.ntmps27
    go_wp2_with fail
    go_ret
    exact ⟨by rw [Hf.out]; rfl, HW.out⟩
  have d2 : decide (ee > 1000000) = false := by simpa using q2
  by_cases q3 : n < 1
  · have d3 : decide ((n : Int) < 1) = true := by simp; omega
    have Hf := Lib.hid (Hno.out (by rw [HH.out]; simp; omega))
    clear q1 q2 q3
    go_enter Tryz.func27, Tryz.ntmps27
    go_wp2_with fail
    go_ret
    exact ⟨by rw [Hf.out]; rfl, HW.out⟩
  have d3 : decide ((n : Int) < 1) = false := by simp; omega
  by_cases q4 : n > 16
  · have d4 : decide ((n : Int) > 16) = true := by simp; omega
    have Hf := Lib.hid (Hno.out (by rw [HH.out]; simp; omega))
    clear q1 q2 q3 q4
    go_enter Tryz.func27, Tryz.ntmps27
    go_wp2_with fail
    go_ret
    exact ⟨by rw [Hf.out]; rfl, HW.out⟩
  have d4 : decide ((n : Int) > 16) = false := by simp; omega
  by_cases q5 : m = n
  · by_cases q6 : kk < 1
    · have d5 : ((m : Int) != (n : Int)) = false := by simp; omega
      have d6 : decide (kk < 1) = true := by simpa using q6
      have Hf := Lib.hid (Hno.out (by rw [HH.out]; simp; omega))
      clear q1 q2 q3 q4 q5 q6
      go_enter Tryz.func27, Tryz.ntmps27
      go_wp2_with fail
      go_ret
      exact ⟨by rw [Hf.out]; rfl, HW.out⟩
    have d6 : decide (kk < 1) = false := by simpa using q6
    by_cases q7 : (n : Int) < kk
    · have d5 : ((m : Int) != (n : Int)) = false := by simp; omega
      have d7 : decide ((n : Int) < kk) = true := by simpa using q7
      have Hf := Lib.hid (Hno.out (by rw [HH.out]; simp; omega))
      clear q1 q2 q3 q4 q5 q6 q7
      go_enter Tryz.func27, Tryz.ntmps27
      go_wp2_with fail
      go_ret
      exact ⟨by rw [Hf.out]; rfl, HW.out⟩
    have d7 : decide ((n : Int) < kk) = false := by simpa using q7
    have Hy := Lib.hid (show headR rec = true by rw [HH.out]; simp; omega)
    obtain rfl := q5
    have hn16 : m ≤ 16 := by omega
    clear q1 q2 q3 q4 q6 q7 HH Hno
    have hX := heap_alloc_new w (.cells #[.int .i64 ee, .int .i64 kk, .slice A m c, .slice B m d] 26)
    have HX := Lib.hid hX
    clear hX
    go_enter Tryz.func27, Tryz.ntmps27
    go_wp2_with fail
    go_loopw [44] (fun x wr => ∃ i : Nat, i ≤ m ∧ x = .int .i64 (i : Nat) ∧ (∀ j, j < i → okE rec j = true) ∧ wr.heap[w.heap.size]? = some (.cells #[.int .i64 ee, .int .i64 kk, .slice A m c, .slice B m d] 26 (0, 0)) ∧ Below w.heap.size w wr) (fun x _ => m - (intOf x).toNat)
    case atStart => exact ⟨0, by omega, rfl, fun j hj => by omega, HX.out, HW.out⟩
    case round =>
      obtain ⟨i, hi, rfl, hall, hX, hW⟩ := hrel
      have Hall := Lib.hid hall
      replace HX := Lib.hid hX
      replace HW := Lib.hid hW
      clear hall hX hW d1 d2 d3 d4 d6 d7
      by_cases hlt : i < m
      · have e1 : decide ((i : Int) < (m : Int)) = true := by simp; omega
        have hin : i < ns.length := by rw [← HN.out]; exact hlt
        have hip : i < ps.length := by rw [← HM.out]; exact hlt
        have hirec : i < rec.ns.length := by rw [Hns.out]; exact hin
        obtain ⟨b, off, hbA, c1⟩ := texts_at (HA.out.below HW.out) hin
        obtain ⟨b2, off2, hbB, c2⟩ := texts_at (HB.out.below HW.out) hip
        have Hok := Lib.hid (show okE rec i = (nameB ns[i] && decide (ps[i].size = 32) && (decide (i = 0) || lessB (ns.getD (i - 1) noneT) ns[i])) by
          unfold okE
          rw [Hns.out, Hps.out, List.getD_eq_getElem?_getD, List.getD_eq_getElem?_getD, List.getElem?_eq_getElem hin, List.getElem?_eq_getElem hip]
          rfl)
        have Hbad := Lib.hid (check_bad (r := rec) i hirec)
        have Hnext := Lib.hid (show okE rec i = true → ∀ j, j < i + 1 → okE rec j = true from fun h j hj => by
          rcases Nat.lt_or_eq_of_le (Nat.le_of_lt_succ hj) with h2 | h2
          · exact Hall.out j h2
          · rw [h2]; exact h)
        subst hbA hbB
        have Hc3 := Lib.hid (show ∀ j, i = j + 1 → wr.cell? ⟨b, off + j, none⟩ = some (.string (ns.getD j noneT)) from fun j hj => by
          have hjn : j < ns.length := by omega
          obtain ⟨b', off', hbA', c3⟩ := texts_at (HA.out.below HW.out) hjn
          injection hbA' with h1
          injection h1 with h1 h2
          subst h1 h2
          rw [c3, List.getD_eq_getElem?_getD, List.getElem?_eq_getElem hjn]
          rfl)
        generalize ns[i] = nm at c1 Hok
        generalize ps[i] = pl at c2 Hok
        have x2 := cell_in HX.out 2 _ rfl
        have x3 := cell_in HX.out 3 _ rfl
        clear hin hip hirec
        have HNm := Lib.hid (fun W => name_any nm W)
        cases hnb : nameB nm with
        | false =>
          rw [hnb] at HNm
          have Hf := Lib.hid (Hbad.out (by rw [Hok.out, hnb]; rfl))
          clear hnb
          go_wp2_with fail
          refine (HNm.out _).mono ?_
          rintro e w2 ⟨rfl, rfl⟩
          go_wp2_with fail
          try rw [Exit.noGoto_ret]
          go_ret
          exact ⟨by rw [Hf.out]; rfl, HW.out⟩
        | true =>
          rw [hnb] at HNm
          by_cases h32 : pl.size = 32
          · have d2 : ((pl.size : Int) != 32) = false := by simp; omega
            by_cases h0 : i = 0
            · have d3 : ¬ 0 < i := by omega
              have Hx := Lib.hid (Hnext.out (by rw [Hok.out, hnb, h32, h0]; rfl))
              clear hnb h32 h0
              go_wp2_with fail
              refine (HNm.out _).mono ?_
              rintro e w2 ⟨rfl, rfl⟩
              go_wp2_with fail
              go_roundw
              case rel => exact ⟨i + 1, by omega, by go_num, Hx.out, HX.out, HW.out⟩
              case measure => simp [intOf]; omega
            · obtain ⟨j, rfl⟩ : ∃ j, i = j + 1 := ⟨i - 1, by omega⟩
              have d3 : 0 < j + 1 := by omega
              have c3 := Hc3.out j rfl
              have Hok2 := Lib.hid (show okE rec (j + 1) = lessB (ns.getD j noneT) nm by rw [Hok.out, hnb, h32]; rfl)
              generalize ns.getD j noneT = pv at c3 Hok2
              have hle := leq_less nm pv
              cases hls : lessB pv nm with
              | false =>
                rw [hls] at hle Hok2
                have Hf := Lib.hid (Hbad.out Hok2.out)
                clear hnb h32 h0 hls
                go_wp2_with fail
                refine (HNm.out _).mono ?_
                rintro e w2 ⟨rfl, rfl⟩
                go_wp2_with fail
                try rw [Exit.noGoto_ret]
                go_ret
                exact ⟨by rw [Hf.out]; rfl, HW.out⟩
              | true =>
                rw [hls] at hle Hok2
                have Hx := Lib.hid (Hnext.out Hok2.out)
                clear hnb h32 h0 hls
                go_wp2_with fail
                refine (HNm.out _).mono ?_
                rintro e w2 ⟨rfl, rfl⟩
                go_wp2_with fail
                go_roundw
                case rel => exact ⟨j + 1 + 1, by omega, by go_num, Hx.out, HX.out, HW.out⟩
                case measure => simp [intOf]; omega
          · have d2 : ((pl.size : Int) != 32) = true := by simp; omega
            have Hf := Lib.hid (Hbad.out (by rw [Hok.out, decide_eq_false h32]; simp))
            clear hnb h32
            go_wp2_with fail
            refine (HNm.out _).mono ?_
            rintro e w2 ⟨rfl, rfl⟩
            go_wp2_with fail
            try rw [Exit.noGoto_ret]
            go_ret
            exact ⟨by rw [Hf.out]; rfl, HW.out⟩
      · obtain rfl : i = m := by omega
        have e1 : decide ((i : Int) < (i : Int)) = false := by simp
        have Hf := Lib.hid (check_all Hy.out (by rw [Hns.out, ← HN.out]; exact Hall.out))
        go_wp2_with fail
        go_ret
        exact ⟨by rw [Hf.out]; rfl, HW.out⟩
  · have d5 : ((m : Int) != (n : Int)) = true := by simp; omega
    have Hf := Lib.hid (Hno.out (by rw [HH.out]; simp; omega))
    clear q1 q2 q3 q4 q5
    go_enter Tryz.func27, Tryz.ntmps27
    go_wp2_with fail
    go_ret
    exact ⟨by rw [Hf.out]; rfl, HW.out⟩

/- Mem2 -/
open Go.RowKit
set_option linter.unusedVariables false
set_option linter.unusedSimpArgs false
set_option maxRecDepth 100000
set_option maxHeartbeats 1000000

theorem place_any (v : Value) (r : Rec) (name : ByteArray) (w : World) (hv : RV w v r) :
    Calls Tryz.prog 100 #[v, .string name] w fun e w' => e = .returned (.tuple #[.int .i64 (placeN r name : Nat), .bool (placeB r name)]) ∧ Below w.heap.size w w' := by
  have HV := Lib.hid hv
  obtain ⟨A, n, c, B, m, d, rfl, hA, hn, hB, hm⟩ := hv
  have HA := Lib.hid hA
  have HN := Lib.hid hn
  have hW := (Below.refl w.heap.size w).alloc (Nat.le_refl _) (.cells #[.int .i64 r.e, .int .i64 r.k, .slice A n c, .slice B m d] 26)
  have hX := heap_alloc_new w (.cells #[.int .i64 r.e, .int .i64 r.k, .slice A n c, .slice B m d] 26)
  have HW := Lib.hid hW
  have HX := Lib.hid hX
  have HC := Lib.hid (fun W h => ch_any (.agg #[.int .i64 r.e, .int .i64 r.k, .slice A n c, .slice B m d]) r W h)
  cases hc : checkR r with
  | false =>
    rw [hc] at HC
    have Hb := Lib.hid (show placeB r name = false by rw [placeB, hc]; rfl)
    have Hp := Lib.hid (show placeN r name = 0 by rw [placeN, if_neg (by rw [Hb.out]; simp)])
    clear hA hn hB hm hW hX hc
    go_enter Tryz.func100, Tryz.ntmps100
    go_wp2_with fail
    refine (HC.out _ (HV.out.below HW.out)).mono ?_
    rintro e w2 ⟨rfl, hb2⟩
    go_wp2_with fail
    go_ret2
    rw [Hb.out, Hp.out]
    exact ⟨rfl, HW.out.trans (hb2.mono HW.out.size)⟩
  | true =>
    rw [hc] at HC
    have Hc := Lib.hid hc
    have hmx : n ≤ 16 := by have := check_head hc; omega
    clear hA hn hB hm hW hX hc
    go_enter Tryz.func100, Tryz.ntmps100
    go_wp2_with fail
    refine (HC.out _ (HV.out.below HW.out)).mono ?_
    rintro e w2 ⟨rfl, hb2⟩
    have x2 := cell_in (cells_below HX.out hb2) 2 _ rfl
    have HW2 := Lib.hid (HW.out.trans (hb2.mono HW.out.size))
    clear hb2
    go_wp2_with fail
    clear x2
    go_loopw [14] (fun x wr => ∃ i : Nat, i ≤ n ∧ x = .int .i64 (i : Nat) ∧ name ∉ r.ns.take i ∧ Below w.heap.size w wr) (fun x _ => n - (intOf x).toNat)
    case atStart => exact ⟨0, by omega, rfl, by simp, HW2.out⟩
    case round =>
      obtain ⟨i, hi, rfl, hnt, hW⟩ := hrel
      have Hnt := Lib.hid hnt
      replace HW2 := Lib.hid hW
      clear hnt hW
      by_cases hlt : i < n
      · have e1 : decide ((i : Int) < (n : Int)) = true := by simp; omega
        have hin : i < r.ns.length := by rw [← HN.out]; exact hlt
        obtain ⟨b, off, hbA, c1⟩ := texts_at (HA.out.below HW2.out) hin
        have Hpl := Lib.hid (place_at Hc.out i hin)
        have Hnx := Lib.hid (show r.ns[i] ≠ name → name ∉ r.ns.take (i + 1) from fun h => take_next hin h Hnt.out)
        subst hbA
        generalize r.ns[i] = nm at c1 Hpl Hnx
        by_cases hnm : nm = name
        · have d1 : (nm.toList == name.toList) = true := by rw [hnm]; exact beq_self_eq_true _
          have Hb := Lib.hid (show placeB r name = true by rw [← hnm]; exact Hpl.out.1)
          have Hp := Lib.hid (show placeN r name = i + 1 by rw [← hnm]; exact Hpl.out.2)
          clear hnm hin
          go_wp2_with fail
          try rw [Exit.noGoto_ret]
          go_ret2
          rw [Hb.out, Hp.out]
          exact ⟨rfl, HW2.out⟩
        · have d1 := text_ne' hnm
          have Hx := Lib.hid (Hnx.out hnm)
          clear hnm hin
          go_wp2_with fail
          go_roundw
          case rel => exact ⟨i + 1, by omega, by go_num, Hx.out, HW2.out⟩
          case measure => simp [intOf]; omega
      · obtain rfl : i = n := by omega
        have e1 : decide ((i : Int) < (i : Int)) = false := by simp
        have hno : name ∉ r.ns := by have h := Hnt.out; rwa [HN.out, List.take_of_length_le (Nat.le_refl _)] at h
        have Hb := Lib.hid (show placeB r name = false by
          rw [placeB, Hc.out, Bool.true_and]
          exact Bool.eq_false_iff.2 fun h => hno (any_mem.1 h))
        have Hp := Lib.hid (show placeN r name = 0 by rw [placeN, if_neg (by rw [Hb.out]; simp)])
        clear hno
        go_wp2_with fail
        go_ret2
        rw [Hb.out, Hp.out]
        exact ⟨rfl, HW2.out⟩

end Go.Proofs.YtkbjmmigjjdfpaaGreatDoor
