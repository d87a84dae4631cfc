/-
  The walk of the law ViewFrames.
-/
import Derived.Test.YtkldllnlakaehaaGreatDoorVwW
import Derived.Test.YtkldllnlakaehaaGreatDoorSes
namespace Go.Proofs.YtkldllnlakaehaaGreatDoor
open Go.RowKit
set_option linter.unusedVariables false
set_option linter.unusedSimpArgs false
set_option maxRecDepth 100000
set_option maxHeartbeats 16000000

/-- What is seen of a frame. -/
def frmT (j : Nat) (z : Nat) : ByteArray := bs ((nbB j).data.toList ++ List.replicate z 0)
theorem frm_seen (j : Nat) (s : ByteArray) : bs (frontL 8 (nbB j ++ s).data.toList) = frmT j s.size := by
  unfold frmT
  congr 1
  have ha : (nbB j).data.toList.length = 8 := by rw [len_data]; exact nbB_size j
  rw [ByteArray.data_append, Array.toList_append, frontL, List.length_append, ha, len_data]
  split
  · have h0 : s.size = 0 := by omega
    rw [h0]
    have : s.data.toList = [] := List.eq_nil_of_length_eq_zero (by rw [len_data]; exact h0)
    rw [this]
    rfl
  · rw [show List.take 8 ((nbB j).data.toList ++ s.data.toList) = (nbB j).data.toList by rw [← ha, List.take_left], show 8 + s.size - 8 = s.size by omega]
theorem frm_size (j z : Nat) : (frmT j z).size = 8 + z := by
  rw [frmT, bs_size, List.length_append, len_data, nbB_size, List.length_replicate]
theorem kp5_below {W W' : World} {p q r s t : Addr} {u v x y a : Value} (h : ((W.cell? p = some u ∧ W.cell? q = some v) ∧ (W.cell? r = some x ∧ W.cell? s = some y)) ∧ W.cell? t = some a) (hb : Below W.heap.size W W') : ((W'.cell? p = some u ∧ W'.cell? q = some v) ∧ (W'.cell? r = some x ∧ W'.cell? s = some y)) ∧ W'.cell? t = some a := ⟨kp4_below h.1 hb, ks1_below h.2 hb⟩
theorem kp5_alloc {W : World} {o : Obj} {p q r s t : Addr} {u v x y a : Value} (h : ((W.cell? p = some u ∧ W.cell? q = some v) ∧ (W.cell? r = some x ∧ W.cell? s = some y)) ∧ W.cell? t = some a) : (((W.alloc o).cell? p = some u ∧ (W.alloc o).cell? q = some v) ∧ ((W.alloc o).cell? r = some x ∧ (W.alloc o).cell? s = some y)) ∧ (W.alloc o).cell? t = some a := kp5_below h ((Below.refl _ _).alloc (Nat.le_refl _) _)
theorem kp5_drew {W : World} {p q r s t : Addr} {u v x y a : Value} (h : ((W.cell? p = some u ∧ W.cell? q = some v) ∧ (W.cell? r = some x ∧ W.cell? s = some y)) ∧ W.cell? t = some a) : ((W.drew.cell? p = some u ∧ W.drew.cell? q = some v) ∧ (W.drew.cell? r = some x ∧ W.drew.cell? s = some y)) ∧ W.drew.cell? t = some a := h
theorem kp5_four {W : World} {g b1 b2 : Nat} {i j k l m : Nat} {z0 z1 z2 z3 u v x y a : Value} (h : ((W.cell? ⟨b1, i, none⟩ = some u ∧ W.cell? ⟨b1, j, none⟩ = some v) ∧ (W.cell? ⟨b1, k, none⟩ = some x ∧ W.cell? ⟨b1, l, none⟩ = some y)) ∧ W.cell? ⟨b2, m, none⟩ = some a) (h1 : g ≠ b1) (h2 : g ≠ b2) :
    ((((((W.setCell ⟨g, 0, none⟩ z0).setCell ⟨g, 1, none⟩ z1).setCell ⟨g, 2, none⟩ z2).setCell ⟨g, 3, none⟩ z3).cell? ⟨b1, i, none⟩ = some u ∧ ((((W.setCell ⟨g, 0, none⟩ z0).setCell ⟨g, 1, none⟩ z1).setCell ⟨g, 2, none⟩ z2).setCell ⟨g, 3, none⟩ z3).cell? ⟨b1, j, none⟩ = some v) ∧ (((((W.setCell ⟨g, 0, none⟩ z0).setCell ⟨g, 1, none⟩ z1).setCell ⟨g, 2, none⟩ z2).setCell ⟨g, 3, none⟩ z3).cell? ⟨b1, k, none⟩ = some x ∧ ((((W.setCell ⟨g, 0, none⟩ z0).setCell ⟨g, 1, none⟩ z1).setCell ⟨g, 2, none⟩ z2).setCell ⟨g, 3, none⟩ z3).cell? ⟨b1, l, none⟩ = some y)) ∧ ((((W.setCell ⟨g, 0, none⟩ z0).setCell ⟨g, 1, none⟩ z1).setCell ⟨g, 2, none⟩ z2).setCell ⟨g, 3, none⟩ z3).cell? ⟨b2, m, none⟩ = some a := by
  have a1 : ∀ (n m : Nat), (⟨g, n, none⟩ : Addr) ≠ ⟨b1, m, none⟩ := fun n m e => h1 (congrArg Addr.block e)
  have a2 : ∀ (n m : Nat), (⟨g, n, none⟩ : Addr) ≠ ⟨b2, m, none⟩ := fun n m e => h2 (congrArg Addr.block e)
  have b : ((((W.setCell ⟨g, 0, none⟩ z0).setCell ⟨g, 1, none⟩ z1).setCell ⟨g, 2, none⟩ z2).setCell ⟨g, 3, none⟩ z3).cell? ⟨b2, m, none⟩ = some a ∧ ((((W.setCell ⟨g, 0, none⟩ z0).setCell ⟨g, 1, none⟩ z1).setCell ⟨g, 2, none⟩ z2).setCell ⟨g, 3, none⟩ z3).cell? ⟨b2, m, none⟩ = some a := keep2_set (keep2_set (keep2_set (keep2_set ⟨h.2, h.2⟩ (a2 _ _) (a2 _ _)) (a2 _ _) (a2 _ _)) (a2 _ _) (a2 _ _)) (a2 _ _) (a2 _ _)
  exact ⟨⟨keep2_set (keep2_set (keep2_set (keep2_set h.1.1 (a1 _ _) (a1 _ _)) (a1 _ _) (a1 _ _)) (a1 _ _) (a1 _ _)) (a1 _ _) (a1 _ _), keep2_set (keep2_set (keep2_set (keep2_set h.1.2 (a1 _ _) (a1 _ _)) (a1 _ _) (a1 _ _)) (a1 _ _) (a1 _ _)) (a1 _ _) (a1 _ _)⟩, b.1⟩
/-- A frame that was sent, and the session behind it, in a box of its own. -/
def CutF (wq : World) (key : ByteArray) (j z : Nat) (v g u : Value) (wc : World) : Prop := ∃ (sd : ByteArray) (b : Nat), v = .string (nbB j ++ sd) ∧ sd.size = z ∧ g = .pointer (some ⟨b, 0, none⟩) ∧ u = .int .i64 0 ∧ wq.heap.size ≤ b ∧ wc.heap[b]? = some (.cells #[.string key, .int .i64 0, .int .i64 (j : Nat), .int .i64 0] 24 (0, 0)) ∧ Below wq.heap.size wq wc
theorem cutF_new {wq w4 : World} {key sd : ByteArray} {j : Nat} (hb : Below wq.heap.size wq w4) :
    CutF wq key j sd.size (.string (nbB j ++ sd)) (.pointer (some ⟨w4.heap.size, 0, none⟩)) (.int .i64 0) (w4.alloc (.cells #[.string key, .int .i64 0, .int .i64 (j : Nat), .int .i64 0] 24)) :=
  ⟨sd, _, rfl, rfl, rfl, rfl, hb.size, heap_alloc_new w4 _, hb.trans (((Below.refl w4.heap.size w4).alloc (Nat.le_refl _) _).mono hb.size)⟩
theorem cutF_set {wq w4 : World} {key sd : ByteArray} {j g : Nat} {a b c d : Value} (hz : w4.heap[g]? = some (.cells #[a, b, c, d] 24 (0, 0))) (hb : Below wq.heap.size wq w4) (hg : wq.heap.size ≤ g) :
    CutF wq key j sd.size (.string (nbB j ++ sd)) (.pointer (some ⟨g, 0, none⟩)) (.int .i64 0) ((((w4.setCell ⟨g, 0, none⟩ (.string key)).setCell ⟨g, 1, none⟩ (.int .i64 0)).setCell ⟨g, 2, none⟩ (.int .i64 (j : Nat))).setCell ⟨g, 3, none⟩ (.int .i64 0)) :=
  ⟨sd, g, rfl, rfl, rfl, rfl, hg, four_set hz _ _ _ _, four_by hb hg _ _ _ _⟩
theorem sch_c {w w' : World} {a : Array Value} {t : TypeId} (h : Below (w.alloc (.cells a t)).drew.heap.size (w.alloc (.cells a t)).drew w') : w'.heap[w.heap.size]? = some (.cells a t (0, 0)) := cells_below (W := (w.alloc (.cells a t)).drew) (heap_alloc_new w _) h
theorem two_alS (w : World) (a b : Array Value) (t : TypeId) : ((w.alloc (.cells a t)).alloc (.cells b t)).heap[w.heap.size]? = some (.cells a t (0, 0)) ∧ Below w.heap.size w ((w.alloc (.cells a t)).alloc (.cells b t)) :=
  ⟨(Below.heap_alloc _ _ _ (by simp)).trans (heap_alloc_new w _), ((Below.refl _ _).alloc (Nat.le_refl _) _).alloc (by simp) _⟩
/-- What a Pair tells, whatever the key. -/
def PairV (w : World) (E : Nat) (e : Ending) (w' : World) : Prop := (∃ (s s' : ByteArray) (x y z x' y' z' : Int), e = .returned (.tuple #[.agg #[.string s, .int .i64 x, .int .i64 y, .int .i64 z], .agg #[.string s', .int .i64 x', .int .i64 y', .int .i64 z'], .int .i64 (E : Nat)])) ∧ Below w.heap.size w w'
theorem pair_e (key salt : ByteArray) (w : World) (hs : salt.size ≤ 64) (hR : Rounds w) : Calls Tryz.prog 5 #[.string key, .string salt] w (PairV w (if key.size = 32 then 0 else 1)) := by
  by_cases h : key.size = 32
  · rw [if_pos h]
    refine (pair_any key salt w h hs hR).mono ?_
    rintro e w' ⟨⟨sh, _, rfl⟩, hb⟩
    exact ⟨⟨_, _, _, _, _, _, _, _, rfl⟩, hb⟩
  · rw [if_neg h]
    refine (pair_bad key salt w h).mono ?_
    rintro e w' ⟨rfl, hb⟩
    exact ⟨⟨_, _, _, _, _, _, _, _, rfl⟩, hb⟩
/-- A key is bad, or the row is long. -/
theorem vwf_bad (key other : ByteArray) (A : Option Addr) (m c : Nat) (hm : m ≤ maxLen) (w : World) (E1 E2 : Nat) (HP1 : Calls Tryz.prog 5 #[.string key, .string ⟨#[120]⟩] w (PairV w E1)) (HP2 : ∀ W, Below w.heap.size w W → Calls Tryz.prog 5 #[.string other, .string ⟨#[121]⟩] W (PairV W E2)) (hbad : E1 ≠ 0 ∨ E2 ≠ 0 ∨ 20 < m) :
    Calls Tryz.prog 3 #[.string key, .string other, .slice A m c] w fun e w' => e = .returned (.bool true) ∧ Below w.heap.size w w' := by
  have HVl := Lib.hid (fun W => views_any W)
  have HP1 := Lib.hid HP1
  have HP2 := Lib.hid HP2
  have hmm : m ≤ 9223372036854775807 := by unfold maxLen at hm; omega
  clear hm
  by_cases c0 : E1 ≠ 0
  case pos =>
    have d0 : ((E1 : Int) != 0) = true := by simp; omega
    clear hbad
    go_enter Tryz.func3, Tryz.ntmps3
    go_wp2_with fail
    refine HP1.out.mono ?_
    rintro e w1 ⟨⟨s, s', x, y, z, x', y', z', rfl⟩, hb1⟩
    have HB := Lib.hid hb1
    clear hb1
    have HBa := Lib.hid ((HB.out.alloc HB.out.size (.cells #[.string s, .int .i64 x, .int .i64 y, .int .i64 z] 24)).alloc (by rw [World.size_alloc]; have := HB.out.size; omega) (.cells #[.string s', .int .i64 x', .int .i64 y', .int .i64 z'] 24))
    go_wp2_with fail
    refine (HP2.out _ HBa.out).mono ?_
    rintro e w2 ⟨⟨q, q', u, v, r, u', v', r', rfl⟩, hb2⟩
    have HC := Lib.hid (HBa.out.trans (hb2.mono HBa.out.size))
    clear hb2
    have HCa := Lib.hid ((HC.out.alloc HC.out.size (.cells #[.string q, .int .i64 u, .int .i64 v, .int .i64 r] 24)).alloc (by rw [World.size_alloc]; have := HC.out.size; omega) (.cells #[.string q', .int .i64 u', .int .i64 v', .int .i64 r'] 24))
    go_wp2_with fail
    refine (HVl.out _).mono ?_
    rintro e w3 ⟨rfl, hb3⟩
    go_wp2_with fail
    go_ret
    exact ⟨rfl, HCa.out.trans (hb3.mono HCa.out.size)⟩
  have d0 : ((E1 : Int) != 0) = false := by simp; omega
  by_cases c1 : E2 ≠ 0
  case pos =>
    have d1 : ((E2 : Int) != 0) = true := by simp; omega
    clear hbad
    go_enter Tryz.func3, Tryz.ntmps3
    go_wp2_with fail
    refine HP1.out.mono ?_
    rintro e w1 ⟨⟨s, s', x, y, z, x', y', z', rfl⟩, hb1⟩
    have HB := Lib.hid hb1
    clear hb1
    have HBa := Lib.hid ((HB.out.alloc HB.out.size (.cells #[.string s, .int .i64 x, .int .i64 y, .int .i64 z] 24)).alloc (by rw [World.size_alloc]; have := HB.out.size; omega) (.cells #[.string s', .int .i64 x', .int .i64 y', .int .i64 z'] 24))
    go_wp2_with fail
    refine (HP2.out _ HBa.out).mono ?_
    rintro e w2 ⟨⟨q, q', u, v, r, u', v', r', rfl⟩, hb2⟩
    have HC := Lib.hid (HBa.out.trans (hb2.mono HBa.out.size))
    clear hb2
    have HCa := Lib.hid ((HC.out.alloc HC.out.size (.cells #[.string q, .int .i64 u, .int .i64 v, .int .i64 r] 24)).alloc (by rw [World.size_alloc]; have := HC.out.size; omega) (.cells #[.string q', .int .i64 u', .int .i64 v', .int .i64 r'] 24))
    go_wp2_with fail
    refine (HVl.out _).mono ?_
    rintro e w3 ⟨rfl, hb3⟩
    go_wp2_with fail
    go_ret
    exact ⟨rfl, HCa.out.trans (hb3.mono HCa.out.size)⟩
  have d1 : ((E2 : Int) != 0) = false := by simp; omega
  have c2 : 20 < m := by simp only [c0, c1, false_or] at hbad; exact hbad
  have d2 : decide ((m : Int) > 20) = true := decide_eq_true (by omega)
  clear hbad
  go_enter Tryz.func3, Tryz.ntmps3
  go_wp2_with fail
  refine HP1.out.mono ?_
  rintro e w1 ⟨⟨s, s', x, y, z, x', y', z', rfl⟩, hb1⟩
  have HB := Lib.hid hb1
  clear hb1
  have HBa := Lib.hid ((HB.out.alloc HB.out.size (.cells #[.string s, .int .i64 x, .int .i64 y, .int .i64 z] 24)).alloc (by rw [World.size_alloc]; have := HB.out.size; omega) (.cells #[.string s', .int .i64 x', .int .i64 y', .int .i64 z'] 24))
  go_wp2_with fail
  refine (HP2.out _ HBa.out).mono ?_
  rintro e w2 ⟨⟨q, q', u, v, r, u', v', r', rfl⟩, hb2⟩
  have HC := Lib.hid (HBa.out.trans (hb2.mono HBa.out.size))
  clear hb2
  have HCa := Lib.hid ((HC.out.alloc HC.out.size (.cells #[.string q, .int .i64 u, .int .i64 v, .int .i64 r] 24)).alloc (by rw [World.size_alloc]; have := HC.out.size; omega) (.cells #[.string q', .int .i64 u', .int .i64 v', .int .i64 r'] 24))
  go_wp2_with fail
  refine (HVl.out _).mono ?_
  rintro e w3 ⟨rfl, hb3⟩
  go_wp2_with fail
  go_ret
  exact ⟨rfl, HCa.out.trans (hb3.mono HCa.out.size)⟩
/-- Between two rounds. -/
def FrI (ka kb : ByteArray) (gA gB m : Nat) (w : World) (x : Value) (wr : World) : Prop :=
  ∃ (i : Nat), i ≤ m ∧ x = .int .i64 (i : Nat) ∧ wr.heap[gA]? = some (.cells #[.string ka, .int .i64 0, .int .i64 (i : Nat), .int .i64 0] 24 (0, 0)) ∧ wr.heap[gB]? = some (.cells #[.string kb, .int .i64 0, .int .i64 (i : Nat), .int .i64 0] 24 (0, 0)) ∧ Below w.heap.size w wr
theorem viewFrames_law (key : ByteArray) (hzk : key.size ≤ maxLen) (other : ByteArray) (hzn : other.size ≤ maxLen) (A : Option Addr) (m c : Nat) (ls : List Wri3) (hm : m = ls.length) (hml : ls.length ≤ maxLen) (hzs : ∀ o ∈ ls, o.a.size ≤ maxLen ∧ o.b.size ≤ maxLen) (w : World) (hT : Turns w) (hR : Rounds w) (hr : Rd w A (wrs3V ls)) :
    Calls Tryz.prog 3 #[.string key, .string other, .slice A m c] w fun e w' => e = .returned (.bool true) ∧ Below w.heap.size w w' := by
  by_cases hbad : key.size ≠ 32 ∨ other.size ≠ 32 ∨ 20 < m
  · exact vwf_bad key other A m c (hm ▸ hml) w _ _ (pair_e key _ w (by decide) hR) (fun W h => pair_e other _ W (by decide) (hR.below h)) (by
      rcases hbad with h | h | h
      · exact .inl (by rw [if_neg h]; simp)
      · exact .inr (.inl (by rw [if_neg h]; simp))
      · exact .inr (.inr h))
  simp only [not_or, Decidable.not_not, Nat.not_lt] at hbad
  obtain ⟨b2, b3, b4⟩ := hbad
  have d0 : (((0 : Nat) : Int) != 0) = false := rfl
  have d4 : decide ((m : Int) > 20) = false := decide_eq_false (by omega)
  have HVl := Lib.hid (fun W => views_any W)
  have HP1 := Lib.hid (pair_any key ⟨#[120]⟩ w b2 (by decide) hR)
  have HP2 := Lib.hid (fun W (h : Below w.heap.size w W) => pair_any other ⟨#[121]⟩ W b3 (by decide) (hR.below h))
  have HN := Lib.hid hm
  have HRd := Lib.hid hr
  have HT := Lib.hid hT
  have Hzs := Lib.hid hzs
  have Hk32 := Lib.hid b2
  clear hzk hzn hzs hm hml hR hT hr b2 b3
  go_enter Tryz.func3, Tryz.ntmps3
  go_wp2_with fail
  refine HP1.out.mono ?_
  rintro e w1 ⟨⟨ka, hka, rfl⟩, hb1⟩
  obtain ⟨hA, hAb⟩ := two_alS w1 #[.string ka, .int .i64 0, .int .i64 0, .int .i64 0] #[.string ka, .int .i64 1, .int .i64 0, .int .i64 0] 24
  have hs1 := hb1.size
  have HB := Lib.hid (hb1.trans (hAb.mono hb1.size))
  have Hka := Lib.hid hka
  clear hb1 hAb hka HP1
  go_wp2_with fail
  refine (HP2.out _ HB.out).mono ?_
  rintro e w2 ⟨⟨kb, hkb, rfl⟩, hb2⟩
  obtain ⟨hB, hBb⟩ := two_alS w2 #[.string kb, .int .i64 0, .int .i64 0, .int .i64 0] #[.string kb, .int .i64 1, .int .i64 0, .int .i64 0] 24
  have HA := Lib.hid (cells_below (cells_below hA hb2) hBb)
  have hs2 := hb2.size
  have hlA := cell_lt_of hA
  rw [World.size_alloc, World.size_alloc] at hs2
  replace HB := Lib.hid (HB.out.trans ((hb2.trans (hBb.mono hb2.size)).mono HB.out.size))
  have HBb := Lib.hid hB
  have Hkb := Lib.hid hkb
  clear hb2 hBb hA hB hkb HP2
  go_wp2_with fail
  obtain ⟨gA, hgA⟩ : ∃ gA, gA = w1.heap.size := ⟨_, rfl⟩
  obtain ⟨gB, hgB⟩ : ∃ gB, gB = w2.heap.size := ⟨_, rfl⟩
  rw [← hgA] at HA hs1 hs2 ⊢
  rw [← hgB] at HBb hs2 ⊢
  have hAB : gA < gB := by omega
  clear hgA hgB hs2 hlA
  go_loopw [13] (fun x wr => FrI ka kb gA gB m w x wr) (fun x _ => m - (intOf x).toNat)
  case atStart => exact ⟨0, by omega, rfl, HA.out, HBb.out, HB.out⟩
  case round =>
    clear HA HBb HB
    obtain ⟨i, hi, rfl, hX, hY, hB⟩ := hrel
    have HX := Lib.hid hX
    have HY := Lib.hid hY
    have HB := Lib.hid hB
    have hgAl := cell_lt_of hX
    have hgBl := cell_lt_of hY
    clear hX hY hB
    rename World => W0
    by_cases hlt : i < m
    · have e1 : decide ((i : Int) < (m : Int)) = true := by simp; omega
      have him : (i : Int) < (m : Int) := by omega
      have hil : i < ls.length := by rw [← HN.out]; exact hlt
      obtain ⟨bA, oA, hbA, s0, s1, s2⟩ := wr3_cells (HRd.out.below HB.out) hil
      subst hbA
      obtain ⟨zs1, zs2⟩ := Hzs.out _ (List.getElem_mem hil)
      generalize ls[i] = q at s0 s1 s2 zs1 zs2
      obtain ⟨qi, qa, qb⟩ := q
      simp only at s0 s1 s2 zs1 zs2
      have hbl := cell_lt s0
      clear s0
      by_cases hz : qa.size ≠ qb.size
      · have g0 : ((qa.size : Int) != (qb.size : Int)) = true := by simp; omega
        go_wp2_with fail
        go_quiet (fail)
        have HCq := Lib.hid (below_drewN HB.out nq)
        go_wp2_with fail
        refine (HVl.out _).mono ?_
        rintro e w4 ⟨rfl, hb4⟩
        go_wp2_with fail
        go_ret
        exact ⟨rfl, HCq.out.trans (hb4.mono HCq.out.size)⟩
      have g0 : ((qa.size : Int) != (qb.size : Int)) = false := by simp; omega
      by_cases hz2 : 300 < qa.size
      · have g1 : decide ((qa.size : Int) > 300) = true := decide_eq_true (by omega)
        go_wp2_with fail
        go_quiet (fail)
        have HCq := Lib.hid (below_drewN HB.out nq)
        go_wp2_with fail
        refine (HVl.out _).mono ?_
        rintro e w4 ⟨rfl, hb4⟩
        go_wp2_with fail
        go_ret
        exact ⟨rfl, HCq.out.trans (hb4.mono HCq.out.size)⟩
      have g1 : decide ((qa.size : Int) > 300) = false := decide_eq_false (by omega)
      go_wp2_with fail
      go_quiet (fail)
      go_wp2_with fail
      obtain ⟨wq, hwq⟩ : ∃ wq, wq = W0.drewN nq := ⟨_, rfl⟩
      have u1 : wq.cell? ⟨bA, oA + i * 3 + 1, none⟩ = some (.string qa) := by rw [hwq]; exact s1
      have u2 : wq.cell? ⟨bA, oA + i * 3 + 2, none⟩ = some (.string qb) := by rw [hwq]; exact s2
      have hXq : wq.heap[gA]? = some (.cells #[.string ka, .int .i64 0, .int .i64 (i : Nat), .int .i64 0] 24 (0, 0)) := by rw [hwq]; exact HX.out
      have hYq : wq.heap[gB]? = some (.cells #[.string kb, .int .i64 0, .int .i64 (i : Nat), .int .i64 0] 24 (0, 0)) := by rw [hwq]; exact HY.out
      have HBq : Hid (Below w.heap.size w wq) := Lib.hid (by rw [hwq]; exact below_drewN HB.out nq)
      rw [← hwq]
      have hgAq := cell_lt_of hXq
      have hgBq := cell_lt_of hYq
      have hbq : bA < wq.heap.size := cell_lt u1
      clear hwq s1 s2 HX HY HB hgAl hgBl hbl
      have HXq := Lib.hid hXq
      have HYq := Lib.hid hYq
      obtain ⟨⟨x0, x1, x2, x3⟩, _⟩ := ses_cells hXq
      clear hXq hYq
      have HS1 := Lib.hid (show ∀ W, Below wq.heap.size wq W → Calls Tryz.prog 7 #[.agg #[.string ka, .int .i64 0, .int .i64 (i : Nat), .int .i64 0], .string qa] W fun e w' => (∃ sd : ByteArray, e = .returned (.tuple #[.string (nbB (i + 1) ++ sd), .agg #[.string ka, .int .i64 0, .int .i64 ((i + 1 : Nat) : Int), .int .i64 0], .int .i64 0]) ∧ sd.size = qa.size + 16) ∧ Below W.heap.size W w' from fun W h => send_any ka i qa W Hka.out (by omega) (by omega) (HT.out.below (HBq.out.trans (h.mono HBq.out.size))))
      have HS2 := Lib.hid (show ∀ W, Below wq.heap.size wq W → Calls Tryz.prog 7 #[.agg #[.string kb, .int .i64 0, .int .i64 (i : Nat), .int .i64 0], .string qb] W fun e w' => (∃ sd : ByteArray, e = .returned (.tuple #[.string (nbB (i + 1) ++ sd), .agg #[.string kb, .int .i64 0, .int .i64 ((i + 1 : Nat) : Int), .int .i64 0], .int .i64 0]) ∧ sd.size = qb.size + 16) ∧ Below W.heap.size W w' from fun W h => send_any kb i qb W Hkb.out (by omega) (by omega) (HT.out.below (HBq.out.trans (h.mono HBq.out.size))))
      go_cut [14, 15, 16] from 73 to 83 (fun v g u wc => CutF wq ka (i + 1) (qa.size + 16) v g u wc)
      case first =>
        have nn1 : wq.heap.size ≠ gA := by omega
        have nn2 : wq.heap.size ≠ bA := by omega
        go_region_held3 (fun w' => ((w'.cell? ⟨gA, 0, none⟩ = some (.string ka) ∧ w'.cell? ⟨gA, 1, none⟩ = some (.int .i64 0)) ∧ (w'.cell? ⟨gA, 2, none⟩ = some (.int .i64 (i : Nat)) ∧ w'.cell? ⟨gA, 3, none⟩ = some (.int .i64 0))) ∧ w'.cell? ⟨bA, oA + i * 3 + 1, none⟩ = some (.string qa))
          (first | with_reducible assumption | with_reducible exact kp5_drew ⟨⟨⟨x0, x1⟩, ⟨x2, x3⟩⟩, u1⟩ | with_reducible exact kp5_drew (kp5_alloc ⟨⟨⟨x0, x1⟩, ⟨x2, x3⟩⟩, u1⟩) | with_reducible exact kp5_alloc Q5 | with_reducible exact kp5_four Q5 nn1 nn2 | with_reducible exact kp5_drew (kp5_four Q5 nn1 nn2))
          (first
            | ((go_at_call 7; with_reducible refine (HS1.out _ ((Below.refl _ wq).drew)).mono ?_); rintro _ w5 ⟨⟨sd, rfl, hsd⟩, hb5'⟩; have K5 := Lib.hid (vch_a hb5'); have Q5 := kp5_below (kp5_drew ⟨⟨⟨x0, x1⟩, ⟨x2, x3⟩⟩, u1⟩) hb5'; have HSD := Lib.hid hsd; clear hb5' hsd)
            | ((go_at_call 7; with_reducible refine (HS1.out _ (((Below.refl _ wq).alloc (Nat.le_refl _) _).drew)).mono ?_); rintro _ w5 ⟨⟨sd, rfl, hsd⟩, hb5'⟩; have K5 := Lib.hid (vch_b hb5'); have Z5 := Lib.hid (sch_c hb5'); obtain ⟨⟨z0, z1, z2, z3⟩, zf⟩ := ses_cells Z5.out; have z4 := zf 0; have z5 := zf 1; have z6 := zf 2; have z7 := zf 3; have Q5 := kp5_below (kp5_drew (kp5_alloc ⟨⟨⟨x0, x1⟩, ⟨x2, x3⟩⟩, u1⟩)) hb5'; have HSD := Lib.hid hsd; clear hb5' hsd zf))
        all_goals
          go_wp2_with fail
          go_meet
          case rel =>
            rw [← HSD.out]
            first
              | exact cutF_new K5.out
              | exact cutF_set Z5.out K5.out (Nat.le_refl _)
      case rest =>
        obtain ⟨sa, ga, rfl, hsa, rfl, rfl, hga, hxa, hb6⟩ := hcut
        have HB6 := Lib.hid hb6
        have Hga := Lib.hid hga
        have Hxa := Lib.hid hxa
        have Hsa := Lib.hid hsa
        rename World => wr1
        obtain ⟨⟨y0, y1, y2, y3⟩, _⟩ := ses_cells (cells_below HYq.out hb6)
        have s2 := (hb6.cell (cell_lt u2)).trans u2
        have HS2' := Lib.hid (fun W (h : Below wr1.heap.size wr1 W) => HS2.out W (HB6.out.trans (h.mono HB6.out.size)))
        have hz6 := hb6.size
        clear hxa hga hsa u1 u2 x0 x1 x2 x3 hb6 HS2 HS1
        go_wp2_with fail
        go_cut [17, 18, 19] from 84 to 94 (fun v g u wc => CutF wr1 kb (i + 1) (qb.size + 16) v g u wc)
        case first =>
          have nn1 : wr1.heap.size ≠ gB := by omega
          have nn2 : wr1.heap.size ≠ bA := by omega
          go_region_held3 (fun w' => ((w'.cell? ⟨gB, 0, none⟩ = some (.string kb) ∧ w'.cell? ⟨gB, 1, none⟩ = some (.int .i64 0)) ∧ (w'.cell? ⟨gB, 2, none⟩ = some (.int .i64 (i : Nat)) ∧ w'.cell? ⟨gB, 3, none⟩ = some (.int .i64 0))) ∧ w'.cell? ⟨bA, oA + i * 3 + 2, none⟩ = some (.string qb))
            (first | with_reducible assumption | with_reducible exact kp5_drew ⟨⟨⟨y0, y1⟩, ⟨y2, y3⟩⟩, s2⟩ | with_reducible exact kp5_drew (kp5_alloc ⟨⟨⟨y0, y1⟩, ⟨y2, y3⟩⟩, s2⟩) | with_reducible exact kp5_alloc Q5 | with_reducible exact kp5_four Q5 nn1 nn2 | with_reducible exact kp5_drew (kp5_four Q5 nn1 nn2))
            (first
              | ((go_at_call 7; with_reducible refine (HS2'.out _ ((Below.refl _ wr1).drew)).mono ?_); rintro _ w5 ⟨⟨sd, rfl, hsd⟩, hb5'⟩; have K5 := Lib.hid (vch_a hb5'); have Q5 := kp5_below (kp5_drew ⟨⟨⟨y0, y1⟩, ⟨y2, y3⟩⟩, s2⟩) hb5'; have HSD := Lib.hid hsd; clear hb5' hsd)
              | ((go_at_call 7; with_reducible refine (HS2'.out _ (((Below.refl _ wr1).alloc (Nat.le_refl _) _).drew)).mono ?_); rintro _ w5 ⟨⟨sd, rfl, hsd⟩, hb5'⟩; have K5 := Lib.hid (vch_b hb5'); have Z5 := Lib.hid (sch_c hb5'); obtain ⟨⟨z0, z1, z2, z3⟩, zf⟩ := ses_cells Z5.out; have z4 := zf 0; have z5 := zf 1; have z6 := zf 2; have z7 := zf 3; have Q5 := kp5_below (kp5_drew (kp5_alloc ⟨⟨⟨y0, y1⟩, ⟨y2, y3⟩⟩, s2⟩)) hb5'; have HSD := Lib.hid hsd; clear hb5' hsd zf))
          all_goals
            go_wp2_with fail
            go_meet
            case rel =>
              rw [← HSD.out]
              first
                | exact cutF_new K5.out
                | exact cutF_set Z5.out K5.out (Nat.le_refl _)
        case rest =>
          obtain ⟨sb, gb, rfl, hsb, rfl, rfl, hgb, hxb, hb7⟩ := hcut
          rename World => wr2
          have Hxa2 := Lib.hid (cells_below Hxa.out hb7)
          have Hxb := Lib.hid hxb
          have HA7 := Lib.hid (cells_below (cells_below HXq.out HB6.out) hb7)
          have HB7 := Lib.hid (cells_below (cells_below HYq.out HB6.out) hb7)
          have HBt := Lib.hid (HBq.out.trans ((HB6.out.trans (hb7.mono HB6.out.size)).mono HBq.out.size))
          have hga' := Hga.out
          have hz7 : ga < wr1.heap.size := cell_lt_of Hxa.out
          obtain ⟨T, hT⟩ : ∃ T, T = frmT (i + 1) sa.size := ⟨_, rfl⟩
          have hss : sb.size = sa.size := by have := Hsa.out; omega
          have hTs : T.size = 8 + sa.size := by rw [hT, frm_size]
          have hP1 : (nbB (i + 1) ++ sa).size = 8 + sa.size := by rw [ByteArray.size_append, nbB_size]
          have hP2 : (nbB (i + 1) ++ sb).size = 8 + sa.size := by rw [ByteArray.size_append, nbB_size, hss]
          have hsm : sa.size ≤ 316 := by have := Hsa.out; omega
          have HF1 := Lib.hid (show ∀ W, Calls Tryz.prog 8 #[.string (nbB (i + 1) ++ sa)] W fun e w' => e = .returned (.string T) ∧ Below W.heap.size W w' from fun W => by have := frame_any (nbB (i + 1) ++ sa) W (by omega); rw [frm_seen, ← hT] at this; exact this)
          have HF2 := Lib.hid (show ∀ W, Calls Tryz.prog 8 #[.string (nbB (i + 1) ++ sb)] W fun e w' => e = .returned (.string T) ∧ Below W.heap.size W w' from fun W => by have := frame_any (nbB (i + 1) ++ sb) W (by omega); rw [frm_seen, hss, ← hT] at this; exact this)
          clear hP2
          generalize nbB (i + 1) ++ sa = P1 at hP1 HF1 ⊢
          generalize nbB (i + 1) ++ sb = P2 at HF2 ⊢
          have D1 : (T.toList != T.toList) = false := by simp
          have D2 : ((T.size : Int) != (P1.size : Int)) = false := by simp; omega
          have HW := Lib.hid (Below.refl wr2.heap.size wr2)
          have h2s := hb7.size
          clear hT hTs hP1 hsm hss hxb hb7 y0 y1 y2 y3 s2 HS2' HXq HYq Hxa
          go_wp2_with fail
          refine (HF1.out _).mono ?_
          rintro e w5 ⟨rfl, h5⟩
          replace HW := Lib.hid (HW.out.trans (h5.mono HW.out.size))
          clear h5
          go_wp2_with fail
          refine (HF2.out _).mono ?_
          rintro e w6 ⟨rfl, h6⟩
          replace HW := Lib.hid (HW.out.trans (h6.mono HW.out.size))
          clear h6
          go_wp2_with fail
          refine (HF1.out _).mono ?_
          rintro e w7 ⟨rfl, h7⟩
          replace HW := Lib.hid (HW.out.trans (h7.mono HW.out.size))
          clear h7
          have kA := cells_below HA7.out HW.out
          have kB := cells_below HB7.out HW.out
          have ka2 := cells_below Hxa2.out HW.out
          have kb2 := cells_below Hxb.out HW.out
          have HBf := Lib.hid (HBt.out.trans (HW.out.mono HBt.out.size))
          obtain ⟨⟨x0, x1, x2, x3⟩, _⟩ := ses_cells ka2
          obtain ⟨⟨y0, y1, y2, y3⟩, yf⟩ := ses_cells kA
          have y4 := yf 0
          have y5 := yf 1
          have y6 := yf 2
          have y7 := yf 3
          have KA := Lib.hid kA
          have KB := Lib.hid kB
          have Kb2 := Lib.hid kb2
          clear kA kB ka2 kb2 yf HA7 HB7 Hxa2 Hxb HBt HW HF1 HF2
          go_upto_region 14 with (fail)
          rename World => wr3
          go_cut [] from 116 to 116 (fun wc => wc.heap[gA]? = some (.cells #[.string ka, .int .i64 0, .int .i64 ((i + 1 : Nat) : Int), .int .i64 0] 24 (0, 0)) ∧ wc.heap[gB]? = some (.cells #[.string kb, .int .i64 0, .int .i64 (i : Nat), .int .i64 0] 24 (0, 0)) ∧ wc.heap[gb]? = some (.cells #[.string kb, .int .i64 0, .int .i64 ((i + 1 : Nat) : Int), .int .i64 0] 24 (0, 0)) ∧ Below w.heap.size w wc)
          case first =>
            go_wp2_with fail
            go_meet
            case rel => exact ⟨four_set KA.out _ _ _ _, four_oth (g := gA) KB.out (by omega) _ _ _ _, four_oth (g := gA) Kb2.out (by omega) _ _ _ _, four_by HBf.out (show w.heap.size ≤ gA by omega) _ _ _ _⟩
          case rest =>
            obtain ⟨cA, cB, cb, cW⟩ := hcut
            have CA := Lib.hid cA
            have CB := Lib.hid cB
            have CW := Lib.hid cW
            clear x0 x1 x2 x3 y0 y1 y2 y3 y4 y5 y6 y7
            obtain ⟨⟨r0, r1, r2, r3⟩, _⟩ := ses_cells cb
            obtain ⟨⟨v0, v1, v2, v3⟩, vf⟩ := ses_cells cB
            have v4 := vf 0
            have v5 := vf 1
            have v6 := vf 2
            have v7 := vf 3
            clear cA cB cb cW vf
            go_wp2_with fail
            go_roundw
            case rel => exact ⟨i + 1, by omega, by go_num, four_oth (g := gB) CA.out (by omega) _ _ _ _, four_set CB.out _ _ _ _, four_by CW.out (show w.heap.size ≤ gB by omega) _ _ _ _⟩
            case measure => simp [intOf]; omega
    · obtain rfl : i = m := by omega
      have e1 : decide ((i : Int) < (i : Int)) = false := by simp
      go_wp2_with fail
      refine (HVl.out _).mono ?_
      rintro e w4 ⟨rfl, hb4⟩
      go_wp2_with fail
      go_ret
      exact ⟨rfl, HB.out.trans (hb4.mono HB.out.size)⟩
end Go.Proofs.YtkldllnlakaehaaGreatDoor
