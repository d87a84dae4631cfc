/-
  Contracts of package field: New, Add, made, Mul, Inv, at digits.
  Contract of field.Bytes.
  Contracts of poly.fold, poly.digits, poly.add, poly.mul.
  Contract of poly.Eval, at digits.
  Contracts of share.line: text, plus.
-/
import Derived.Test.YtkbjmmigjjdfpaaGreatDoorGen
import Derived.Test.YtkbjmmigjjdfpaaGreatDoorPa
import Derived.Laws.EntriesVeiled
namespace Go.Proofs.YtkbjmmigjjdfpaaGreatDoor
/- Field -/
open Go.RowKit
set_option linter.unusedVariables false
set_option maxRecDepth 100000
set_option maxHeartbeats 2000000

/-- A digit as a value. -/
abbrev dig (a : UInt8) : Value := .int .i64 (a.toNat : Int)

theorem xor_small (a b : Nat) (ha : a < 65536) (hb : b < 65536) : bits .xor .i64 (a : Int) (b : Int) = ((a ^^^ b : Nat) : Int) := by
  have := xor_word (a : Int) (b : Int) (wordsB2.2 ⟨⟨by omega, by omega⟩, ⟨by omega, by omega⟩⟩)
  rw [this]
  simp [xorI]

theorem double_any (a : Nat) (w : World) (ha : a < 256) : Calls Tryz.prog 157 #[.int .i64 (a : Int)] w fun e w' => e = .returned (.int .i64 ((dbl a : Nat) : Int)) ∧ w' = w := by
  have Hx := Lib.hid (xor_small (2 * a - 256) 27 (by omega) (by omega))
  by_cases h : 2 * a < 256
  · go_enter Tryz.func157, Tryz.ntmps157
    go_wp2_with fail
    go_ret
    refine ⟨ret_int ?_, rfl⟩
    rw [dbl, if_pos h]
    omega
  · go_enter Tryz.func157, Tryz.ntmps157
    go_wp2_with fail
    go_ret
    refine ⟨ret_int ?_, rfl⟩
    rw [dbl, if_neg h, ← Hx.out]
    congr 1
    omega

theorem isDigit_any (x : Int) (w : World) : Calls Tryz.prog 158 #[.int .i64 x] w fun e w' => e = .returned (.bool (decide (0 ≤ x) && decide (x ≤ 255))) ∧ w' = w := by
  by_cases h : 0 ≤ x
  · go_enter Tryz.func158, Tryz.ntmps158
    go_wp2_with fail
    go_ret
    exact ⟨by simp [h], rfl⟩
  · go_enter Tryz.func158, Tryz.ntmps158
    go_wp2_with fail
    go_ret
    exact ⟨by simp; omega, rfl⟩
theorem isDigit_dig (a : UInt8) (w : World) : Calls Tryz.prog 158 #[dig a] w fun e w' => e = .returned (.bool true) ∧ w' = w :=
  (isDigit_any _ w).mono fun e w' ⟨h1, h2⟩ => ⟨by rw [h1]; have := a.toNat_lt; simp; omega, h2⟩

theorem add_dig (a b : UInt8) (w : World) : Calls Tryz.prog 176 #[dig a, dig b] w fun e w' => e = .returned (.tuple #[dig (a ^^^ b), .bool true]) ∧ w' = w := by
  have Hx := Lib.hid (xor_small a.toNat b.toNat (by have := a.toNat_lt; omega) (by have := b.toNat_lt; omega))
  go_enter Tryz.func176, Tryz.ntmps176
  go_wp2_with fail
  refine (isDigit_dig a _).mono ?_
  rintro e w' ⟨rfl, rfl⟩
  go_wp2_with fail
  refine (isDigit_dig b _).mono ?_
  rintro e w' ⟨rfl, rfl⟩
  go_wp2_with fail
  go_ret2
  refine ⟨?_, rfl⟩
  rw [Hx.out]
  simp [UInt8.toNat_xor]

/-- A field that New made. -/
def IsField (w : World) (g : Nat) : Prop := ∃ L : List Int, w.heap[g]? = some (.cells (ints L).toArray 224 (0, 0)) ∧ L.length = 511 ∧ (∀ a, a ≠ 0 → a < 256 → L.getD a 0 = (numT a : Nat)) ∧ ∀ i, i < 255 → L.getD (256 + i) 0 = (trips i 1 : Nat)
theorem IsField.keep {w w' : World} {g : Nat} (h : IsField w g) (hb : Below w.heap.size w w') : IsField w' g := by
  obtain ⟨L, h1, h2⟩ := h
  exact ⟨L, cells_below h1 hb, h2⟩
theorem IsField.lt {w : World} {g : Nat} (h : IsField w g) : g < w.heap.size := by
  obtain ⟨L, h1, h2⟩ := h
  exact cell_lt_of h1

def FieldTo (L : List Int) (k : Nat) : Prop := L.length = 511 ∧ ∀ j, j < k → L.getD (256 + j) 0 = (trips j 1 : Nat) ∧ L.getD (trips j 1) 0 = (j : Int)
theorem getD_set_self {L : List Int} {i : Nat} {x : Int} (h : i < L.length) : (L.set i x).getD i 0 = x := by simp [h]
theorem getD_set_ne {L : List Int} {i j : Nat} {x : Int} (h : i ≠ j) : (L.set i x).getD j 0 = L.getD j 0 := by simp [List.getElem?_set_ne h]
theorem fieldTo_next {L : List Int} {k : Nat} (h : FieldTo L k) (hk : k < 255) : FieldTo ((L.set (trips k 1) (k : Int)).set (256 + k) (trips k 1 : Nat)) (k + 1) := by
  obtain ⟨hl, h⟩ := h
  have h3 := trips_lt k 1 (by omega)
  refine ⟨by simp [hl], fun j hj => ?_⟩
  by_cases e : j = k
  · subst e
    refine ⟨getD_set_self (by simp; omega), ?_⟩
    rw [getD_set_ne (by omega), getD_set_self (by omega)]
  · have hj' : j < k := by omega
    obtain ⟨h1, h2⟩ := h j hj'
    have h4 := trips_lt j 1 (by omega)
    refine ⟨?_, ?_⟩
    · rw [getD_set_ne (by omega), getD_set_ne (by omega), h1]
    · have : trips k 1 ≠ trips j 1 := fun e2 => e (by rw [← num_trips j (by omega), ← e2, num_trips k (by omega)])
      rw [getD_set_ne (by omega), getD_set_ne this, h2]
theorem field_of {w : World} {g : Nat} {L : List Int} (h : w.heap[g]? = some (.cells (ints L).toArray 224 (0, 0))) (hl : FieldTo L 255) : IsField w g := by
  refine ⟨L, h, hl.1, fun a h0 ha => ?_, fun i hi => (hl.2 i hi).1⟩
  obtain ⟨h1, h2⟩ := trips_num a h0 ha
  have := (hl.2 _ h2).2
  rw [h1] at this
  exact this
def zeros511 : Array Value := (ints (List.replicate 511 0)).toArray
theorem trips_succ (k : Nat) : trips (k + 1) 1 = trips k 1 ^^^ dbl (trips k 1) := by
  rw [trips_add k 1]
  rfl
theorem dbl_lt (a : Nat) (h : a < 256) : dbl a < 256 := by
  have : (List.range 256).all (fun a => decide (dbl a < 256)) = true := by decide +kernel
  simpa using bytes_all this a h

theorem new_field (w : World) : Calls Tryz.prog 96 #[] w fun e w' => ∃ g, e = .returned (.pointer (some ⟨g, 0, none⟩)) ∧ IsField w' g ∧ w.heap.size ≤ g ∧ Below w.heap.size w w' := by
  go_enter Tryz.func96, Tryz.ntmps96
  go_wp2_with fail
  go_loopw [2, 3, 5] (fun x _ i wr => ∃ (k : Nat) (L : List Int), k ≤ 255 ∧ x = .int .i64 (trips k 1 : Nat) ∧ i = .int .i64 (k : Nat) ∧ wr.heap[w.heap.size]? = some (.cells (ints L).toArray 224 (0, 0)) ∧ FieldTo L k ∧ Below w.heap.size w wr) (fun _ _ i _ => 255 - (intOf i).toNat)
  case atStart => exact ⟨0, List.replicate 511 0, by omega, rfl, rfl, heap_alloc_new w _, ⟨by simp, fun j hj => by omega⟩, (Below.refl _ _).alloc (Nat.le_refl _) _⟩
  case round =>
    obtain ⟨k, L, hk, rfl, rfl, hL, hT, hW⟩ := hrel
    by_cases hlt : k < 255
    · have hx := trips_lt k 1 (by omega)
      have HN := Lib.hid (fieldTo_next hT hlt)
      have HS := Lib.hid (trips_succ k)
      generalize trips k 1 = x at hx HN HS
      have hlen := hT.1
      obtain ⟨hc1, hf1⟩ := ints_cell hL (i := x) (by omega)
      have hL1 := ints_set hL x (k : Int)
      obtain ⟨hc2, hf2⟩ := ints_cell hL1 (i := 256 + k) (by simp; omega)
      have hL2 := ints_set hL1 (256 + k) (x : Int)
      have hW2 := (hW.setCell (p := ⟨w.heap.size, x, none⟩) (Nat.le_refl _) (.int .i64 (k : Int))).setCell (p := ⟨w.heap.size, 256 + k, none⟩) (Nat.le_refl _) (.int .i64 (x : Int))
      have HL2 := Lib.hid hL2
      have Hx := Lib.hid (xor_small x (dbl x) (by omega) (by have := dbl_lt x hx; omega))
      clear hL hL1 hL2 hT
      have hb1 : (x : Int) < 256 := by omega
      go_wp2_with fail
      refine (double_any x _ hx).mono ?_
      rintro e w' ⟨rfl, rfl⟩
      go_wp2_with fail
      go_roundw
      case rel => exact ⟨k + 1, _, by omega, by rw [Hx.out, HS.out], by go_num, HL2.out, HN.out, hW2⟩
      case measure => simp [intOf]; omega
    · obtain rfl : k = 255 := by omega
      have Hf := Lib.hid (field_of hL hT)
      clear hL hT
      go_wp2_with fail
      go_ret
      exact ⟨_, rfl, Hf.out, Nat.le_refl _, hW⟩

theorem field_cells {w : World} {g : Nat} (h : IsField w g) : (∀ a, a ≠ 0 → a < 256 → w.cell? ⟨g, a, none⟩ = some (.int .i64 (numT a : Nat))) ∧ ∀ i, i < 255 → w.cell? ⟨g, 256 + i, none⟩ = some (.int .i64 (trips i 1 : Nat)) := by
  obtain ⟨L, h1, h2, h3, h4⟩ := h
  exact ⟨fun a h0 ha => by rw [(ints_cell h1 (by omega)).1, h3 a h0 ha], fun i hi => by rw [(ints_cell h1 (by omega)).1, h4 i hi]⟩
theorem made_any (w : World) (g : Nat) (h : IsField w g) : Calls Tryz.prog 159 #[.pointer (some ⟨g, 0, none⟩)] w fun e w' => e = .returned (.pointer (some ⟨g, 0, none⟩)) ∧ w' = w := by
  have hc : w.cell? ⟨g, 256, none⟩ = some (.int .i64 1) := (field_cells h).2 0 (by omega)
  clear h
  go_enter Tryz.func159, Tryz.ntmps159
  go_wp2_with fail
  go_ret
  exact ⟨rfl, rfl⟩

theorem mul_dig (a b : UInt8) (w : World) (g : Nat) (h : IsField w g) : Calls Tryz.prog 160 #[.pointer (some ⟨g, 0, none⟩), dig a, dig b] w fun e w' => e = .returned (.tuple #[dig (gm a b), .bool true]) ∧ Below w.heap.size w w' := by
  have H := Lib.hid h
  clear h
  have Hz := Lib.hid (zero_gm b)
  have Hz2 := Lib.hid (gm_zero a)
  have ha := a.toNat_lt
  have hb := b.toNat_lt
  by_cases h0 : a.toNat = 0
  · obtain rfl : a = 0 := UInt8.toNat_inj.1 h0
    go_enter Tryz.func160, Tryz.ntmps160
    go_wp2_with fail
    refine (isDigit_dig 0 _).mono ?_
    rintro e w' ⟨rfl, rfl⟩
    go_wp2_with fail
    refine (isDigit_dig b _).mono ?_
    rintro e w' ⟨rfl, rfl⟩
    go_wp2_with fail
    go_ret2
    refine ⟨?_, Below.refl _ _⟩
    rw [Hz.out]
    rfl
  · by_cases h1 : b.toNat = 0
    · obtain rfl : b = 0 := UInt8.toNat_inj.1 h1
      go_enter Tryz.func160, Tryz.ntmps160
      go_wp2_with fail
      refine (isDigit_dig a _).mono ?_
      rintro e w' ⟨rfl, rfl⟩
      go_wp2_with fail
      refine (isDigit_dig 0 _).mono ?_
      rintro e w' ⟨rfl, rfl⟩
      go_wp2_with fail
      go_ret2
      refine ⟨?_, Below.refl _ _⟩
      rw [Hz2.out]
      rfl
    · have e1 : ((a.toNat : Int) == 0) = false := by simp; omega
      have e2 : ((b.toNat : Int) == 0) = false := by simp; omega
      go_enter Tryz.func160, Tryz.ntmps160
      go_wp2_with fail
      refine (isDigit_dig a _).mono ?_
      rintro e w' ⟨rfl, rfl⟩
      go_wp2_with fail
      refine (isDigit_dig b _).mono ?_
      rintro e w' ⟨rfl, rfl⟩
      go_wp2_with fail
      refine (made_any _ g H.out).mono ?_
      rintro e w' ⟨rfl, rfl⟩
      go_wp2_with fail
      obtain ⟨hn, ht⟩ := field_cells H.out
      have c1 := hn _ h0 ha
      have c2 := hn _ h1 hb
      have Hp := Lib.hid (gm_nat a b)
      have Hp2 := Lib.hid (mulG_pow _ _ h0 h1 ha hb)
      have n1 := (trips_num _ h0 ha).2
      have n2 := (trips_num _ h1 hb).2
      clear hn
      generalize numT a.toNat = x at c1 n1 Hp2
      generalize numT b.toNat = y at c2 n2 Hp2
      have hm := Nat.mod_lt (x + y) (show 0 < 255 by omega)
      obtain ⟨z, hz⟩ : ∃ z, z = (x + y) % 255 := ⟨_, rfl⟩
      rw [← hz] at hm Hp2
      have c3 := ht z hm
      clear ht
      have hz' : (IntKind.i64.wrap ((x : Int) + (y : Int))).tmod 255 = (z : Int) := by
        rw [IntWalk.i64_in _ (by omega), Int.tmod_eq_emod_of_nonneg (by omega)]
        omega
      have hz'' : (((x : Int) + (y : Int))).tmod 255 = (z : Int) := by
        rw [Int.tmod_eq_emod_of_nonneg (by omega)]
        omega
      clear hz
      go_quiet (fail)
      rename_i nq
      have HB := below_drewN (Below.refl w'.heap.size w') nq
      go_wp2_with fail
      go_ret2
      refine ⟨?_, HB⟩
      simp only [dig, Hp.out, Hp2.out]
      rfl

theorem inv_dig (a : UInt8) (w : World) (g : Nat) (h : IsField w g) (h0 : a ≠ 0) : Calls Tryz.prog 185 #[.pointer (some ⟨g, 0, none⟩), dig a] w fun e w' => e = .returned (.tuple #[dig (gi a), .bool true]) ∧ Below w.heap.size w w' := by
  have H := Lib.hid h
  clear h
  have ha := a.toNat_lt
  have h0 : a.toNat ≠ 0 := fun e => h0 (UInt8.toNat_inj.1 e)
  have e1 : ((a.toNat : Int) == 0) = false := by simp; omega
  go_enter Tryz.func185, Tryz.ntmps185
  go_wp2_with fail
  refine (isDigit_dig a _).mono ?_
  rintro e w' ⟨rfl, rfl⟩
  go_wp2_with fail
  refine (made_any _ g H.out).mono ?_
  rintro e w' ⟨rfl, rfl⟩
  go_wp2_with fail
  obtain ⟨hn, ht⟩ := field_cells H.out
  have c1 := hn _ h0 ha
  have Hp := Lib.hid (gi_nat a)
  have Hp2 := Lib.hid (show invG a.toNat = trips ((255 - numT a.toNat) % 255) 1 from rfl)
  have n1 := (trips_num _ h0 ha).2
  clear hn
  generalize numT a.toNat = x at c1 n1 Hp2
  have hm := Nat.mod_lt (255 - x) (show 0 < 255 by omega)
  obtain ⟨z, hz⟩ : ∃ z, z = (255 - x) % 255 := ⟨_, rfl⟩
  rw [← hz] at hm Hp2
  have c3 := ht z hm
  clear ht
  have hz'' : ((255 - (x : Int))).tmod 255 = (z : Int) := by
    rw [Int.tmod_eq_emod_of_nonneg (by omega)]
    omega
  clear hz
  go_quiet (fail)
  rename_i nq
  have HB := below_drewN (Below.refl w'.heap.size w') nq
  go_wp2_with fail
  go_ret2
  refine ⟨?_, HB⟩
  simp only [dig, Hp.out, Hp2.out]
  rfl

theorem bytes1_any (a x : UInt8) (w : World) (gp ga g : Nat) (h : IsField w g) (hp : w.cell? ⟨gp, 0, none⟩ = some (.func (.func 160) #[.pointer (some ⟨g, 0, none⟩)] #[])) (ha : w.cell? ⟨ga, 0, none⟩ = some (dig a)) :
    Calls Tryz.prog 161 #[.int .u8 (x.toNat : Int), .pointer (some ⟨gp, 0, none⟩), .pointer (some ⟨ga, 0, none⟩)] w fun e w' => e = .returned (.int .u8 ((gm a x).toNat : Int)) ∧ Below w.heap.size w w' := by
  have H := Lib.hid h
  clear h
  have hx := x.toNat_lt
  have hg := (gm a x).toNat_lt
  go_enter Tryz.func161, Tryz.ntmps161
  go_wp2_with fail
  refine (mul_dig a x _ g H.out).mono ?_
  rintro e w' ⟨rfl, hb⟩
  go_wp2_with fail
  go_ret
  exact ⟨rfl, hb⟩

/- FBytes -/
open Go.RowKit
set_option linter.unusedVariables false
set_option maxRecDepth 100000
set_option maxHeartbeats 2000000

/-- l with the first k bytes times a. -/
def timesTo (a : UInt8) (l : List UInt8) (k : Nat) : List UInt8 := (l.take k).map (gm a) ++ l.drop k
theorem timesTo_len (a : UInt8) (l : List UInt8) (k : Nat) : (timesTo a l k).length = l.length := by simp [timesTo]; omega
theorem timesTo_zero (a : UInt8) (l : List UInt8) : timesTo a l 0 = l := by simp [timesTo]
theorem timesTo_all (a : UInt8) (l : List UInt8) : timesTo a l l.length = l.map (gm a) := by simp [timesTo]
theorem timesTo_at (a : UInt8) (l : List UInt8) (k : Nat) (h : k < l.length) : (timesTo a l k).getD k 0 = l.getD k 0 := by
  have : ((l.take k).map (gm a)).length = k := by simp; omega
  simp only [timesTo, List.getD_eq_getElem?_getD]
  rw [List.getElem?_append_right (by omega), this]
  simp
theorem timesTo_set (a : UInt8) (l : List UInt8) (k : Nat) (h : k < l.length) : (timesTo a l k).set k (gm a (l.getD k 0)) = timesTo a l (k + 1) := by
  have hl : ((l.take k).map (gm a)).length = k := by simp; omega
  simp only [timesTo]
  rw [List.set_append_right _ _ (by omega), hl, Nat.sub_self, List.drop_eq_getElem_cons h, List.set_cons_zero, List.take_succ_eq_append_getElem h, List.map_append]
  simp [h]

theorem one_cell {w : World} {g : Nat} {t : TypeId} {v : Value} (h : w.heap[g]? = some (.cells #[v] t (0, 0))) : w.cell? ⟨g, 0, none⟩ = some v := by
  unfold World.cell?; simp only [h]; rfl

theorem bytes_dig (a : UInt8) (s : ByteArray) (w : World) (g : Nat) (h : IsField w g) (hs : s.size ≤ 100000) : Calls Tryz.prog 97 #[.pointer (some ⟨g, 0, none⟩), dig a, .string s] w fun e w' => e = .returned (.tuple #[.string (bs (s.data.toList.map (gm a))), .bool true]) ∧ Below w.heap.size w w' := by
  have H := Lib.hid h
  clear h
  go_enter Tryz.func97, Tryz.ntmps97
  go_wp2_with fail
  refine (isDigit_dig a _).mono ?_
  rintro e w' ⟨rfl, rfl⟩
  go_wp2_with fail
  refine (made_any _ g (H.out.keep ((Below.refl _ _).alloc (Nat.le_refl _) _))).mono ?_
  rintro e w' ⟨rfl, rfl⟩
  obtain ⟨w1, hw1⟩ : ∃ w1, w1 = (w.alloc (.cells #[dig a] 3)).alloc (.cells #[.func (.func 160) #[.pointer (some ⟨g, 0, none⟩)] #[]] 220) := ⟨_, rfl⟩
  obtain ⟨cap, w2, hcv, hB2, hW2, hs2⟩ := conv_new w1 s (w.heap.size + 1 + 1) (by rw [hw1]; simp)
  have hs1 : w1.heap.size = w.heap.size + 1 + 1 := by rw [hw1]; simp
  have hc1 : w2.heap[w.heap.size]? = some (.cells #[dig a] 3 (0, 0)) := by
    rw [hW2.block _ (by omega), hw1]
    exact (Below.heap_alloc _ _ _ (by simp)).trans (heap_alloc_new w _)
  have hc2 : w2.heap[w.heap.size + 1]? = some (.cells #[.func (.func 160) #[.pointer (some ⟨g, 0, none⟩)] #[]] 220 (0, 0)) := by
    rw [hW2.block _ (by omega), hw1]
    have := heap_alloc_new (w.alloc (.cells #[dig a] 3)) (.cells #[.func (.func 160) #[.pointer (some ⟨g, 0, none⟩)] #[]] 220)
    simpa using this
  have hWw : Below w.heap.size w w2 := by
    have h1 : Below w.heap.size w w1 := by rw [hw1]; exact ((Below.refl _ _).alloc (Nat.le_refl _) _).alloc (by simp) _
    exact Below.chain h1 hW2
  rw [hw1] at hcv
  have HB2 := Lib.hid hB2
  have Hc1 := Lib.hid hc1
  have Hc2 := Lib.hid hc2
  have HWw := Lib.hid hWw
  clear hB2 hc1 hc2 hWw hW2 hs2 hs1 hw1
  go_wp2_with fail
  go_loopw [11, 12, 28] (fun _ _ i wr => ∃ k : Nat, k ≤ s.size ∧ i = .int .i64 (k : Nat) ∧ BytAt wr (w.heap.size + 1 + 1) (timesTo a s.data.toList k) ∧ wr.heap[w.heap.size]? = some (.cells #[dig a] 3 (0, 0)) ∧ wr.heap[w.heap.size + 1]? = some (.cells #[.func (.func 160) #[.pointer (some ⟨g, 0, none⟩)] #[]] 220 (0, 0)) ∧ Below w.heap.size w wr) (fun _ _ i _ => s.size - (intOf i).toNat)
  case atStart => exact ⟨0, by omega, rfl, by rw [timesTo_zero]; exact HB2.out, Hc1.out, Hc2.out, HWw.out⟩
  case round =>
    obtain ⟨k, hk, rfl, hB, hA, hP, hW⟩ := hrel
    by_cases hlt : k < s.size
    · have hl : k < (timesTo a s.data.toList k).length := by rw [timesTo_len]; exact hlt
      obtain ⟨hc, hf⟩ := hB k hl
      have Hset := Lib.hid (timesTo_set a s.data.toList k hlt)
      rw [timesTo_at a _ k hlt] at hc
      generalize s.data.toList.getD k 0 = x at hc Hset
      have HB := Lib.hid hB
      have HA := Lib.hid hA
      have HP := Lib.hid hP
      have HF := Lib.hid (H.out.keep hW)
      have HW := Lib.hid hW
      have Hl := Lib.hid hl
      clear hB hA hP hW hf hl
      go_wp2_with fail
      refine (bytes1_any a x _ _ _ g HF.out (one_cell HP.out) (one_cell HA.out)).mono ?_
      rintro e w3 ⟨rfl, hb⟩
      have hB3 := HB.out.below hb
      obtain ⟨hc3, hf3⟩ := hB3 k Hl.out
      have HB3 := Lib.hid (hB3.set k (gm a x))
      rw [Hset.out] at HB3
      have HA3 := Lib.hid ((Below.heap_setCell _ ⟨w.heap.size + 1 + 1, k, none⟩ (.int .u8 ((gm a x).toNat : Int)) w.heap.size (by simp only; omega)).trans (cells_below HA.out hb))
      have HP3 := Lib.hid ((Below.heap_setCell _ ⟨w.heap.size + 1 + 1, k, none⟩ (.int .u8 ((gm a x).toNat : Int)) (w.heap.size + 1) (by simp only; omega)).trans (cells_below HP.out hb))
      have HW3 := Lib.hid ((Below.chain HW.out hb).setCell (p := ⟨w.heap.size + 1 + 1, k, none⟩) (by simp only; omega) (.int .u8 ((gm a x).toNat : Int)))
      clear hB3
      go_wp2_with fail
      go_roundw
      case rel => exact ⟨k + 1, by omega, by go_num, HB3.out, HA3.out, HP3.out, HW3.out⟩
      case measure => simp [intOf]; omega
    · obtain rfl : k = s.size := by omega
      have hcvb := conv_byt hB cap s.size (by rw [timesTo_len]; rfl)
      have Hall := Lib.hid (timesTo_all a s.data.toList)
      rw [len_data] at Hall
      have HW := Lib.hid hW
      clear hB hA hP hW
      go_wp2_with fail
      go_ret2
      exact ⟨by rw [Hall.out]; rfl, HW.out⟩

/- Fold -/
open Go.RowKit
set_option linter.unusedVariables false
set_option maxRecDepth 100000
set_option maxHeartbeats 2000000

theorem fold_ii (xs : List Int) (A : Option Addr) (n c : Nat) (start : Value) (fn : FuncId) (cap : Array Value) (w : World) (I : Nat → Value → World → Prop) (hn : n = xs.length) (hl : xs.length ≤ 1000000)
    (hent : ∀ args W, (callFunc fn args).run Tryz.prog W = .ok (.enter fn args) W)
    (h0 : I 0 start w) (hrd : ∀ k v W, I k v W → Rd W A (ints xs))
    (hstep : ∀ k v W, k < xs.length → I k v W → Calls Tryz.prog fn (#[v, .int .i64 (xs.getD k 0)] ++ cap) W fun e W' => ∃ v', e = .returned v' ∧ I (k + 1) v' W') :
    Calls Tryz.prog 118 #[.slice A n c, start, .func (.func fn) #[] cap] w fun e w' => ∃ v, e = .returned v ∧ I xs.length v w' := by
  subst hn
  have H0 := Lib.hid h0
  have HR := Lib.hid hrd
  have HS := Lib.hid hstep
  clear h0 hrd hstep
  go_enter Tryz.func118, Tryz.ntmps118
  go_wp2_with fail
  go_loopw [1, 8, 11] (fun s _ i wr => ∃ k : Nat, k ≤ xs.length ∧ i = .int .i64 (k : Nat) ∧ I k s wr) (fun _ _ i _ => xs.length - (intOf i).toNat)
  case atStart => exact ⟨0, by omega, rfl, H0.out⟩
  case round =>
    obtain ⟨k, hk, rfl, hI⟩ := hrel
    by_cases hlt : k < xs.length
    · obtain ⟨b, off, hA, hc⟩ := (HR.out _ _ _ hI).int_at hlt
      subst hA
      have HI := Lib.hid hI
      clear hI
      generalize hx : xs.getD k 0 = x at hc
      have Hx := Lib.hid hx
      clear hx
      go_wp2_with fail
      refine Calls.mono (Hx.out ▸ HS.out k _ _ hlt HI.out) ?_
      rintro e w3 ⟨v', rfl, hI'⟩
      have HI' := Lib.hid hI'
      clear hI'
      go_wp2_with fail
      go_roundw
      case rel => exact ⟨k + 1, by omega, by go_num, HI'.out⟩
      case measure => simp [intOf]; omega
    · obtain rfl : k = xs.length := by omega
      have HI := Lib.hid hI
      clear hI
      go_wp2_with fail
      go_ret
      exact ⟨_, rfl, HI.out⟩
theorem fold_ib (xs : List Int) (A : Option Addr) (n c : Nat) (start : Value) (fn : FuncId) (cap : Array Value) (w : World) (I : Nat → Value → World → Prop) (hn : n = xs.length) (hl : xs.length ≤ 1000000)
    (hent : ∀ args W, (callFunc fn args).run Tryz.prog W = .ok (.enter fn args) W)
    (h0 : I 0 start w) (hrd : ∀ k v W, I k v W → Rd W A (ints xs))
    (hstep : ∀ k v W, k < xs.length → I k v W → Calls Tryz.prog fn (#[v, .int .i64 (xs.getD k 0)] ++ cap) W fun e W' => ∃ v', e = .returned v' ∧ I (k + 1) v' W') :
    Calls Tryz.prog 174 #[.slice A n c, start, .func (.func fn) #[] cap] w fun e w' => ∃ v, e = .returned v ∧ I xs.length v w' := by
  subst hn
  have H0 := Lib.hid h0
  have HR := Lib.hid hrd
  have HS := Lib.hid hstep
  clear h0 hrd hstep
  go_enter Tryz.func174, Tryz.ntmps174
  go_wp2_with fail
  go_loopw [1, 8, 11] (fun s _ i wr => ∃ k : Nat, k ≤ xs.length ∧ i = .int .i64 (k : Nat) ∧ I k s wr) (fun _ _ i _ => xs.length - (intOf i).toNat)
  case atStart => exact ⟨0, by omega, rfl, H0.out⟩
  case round =>
    obtain ⟨k, hk, rfl, hI⟩ := hrel
    by_cases hlt : k < xs.length
    · obtain ⟨b, off, hA, hc⟩ := (HR.out _ _ _ hI).int_at hlt
      subst hA
      have HI := Lib.hid hI
      clear hI
      generalize hx : xs.getD k 0 = x at hc
      have Hx := Lib.hid hx
      clear hx
      go_wp2_with fail
      refine Calls.mono (Hx.out ▸ HS.out k _ _ hlt HI.out) ?_
      rintro e w3 ⟨v', rfl, hI'⟩
      have HI' := Lib.hid hI'
      clear hI'
      go_wp2_with fail
      go_roundw
      case rel => exact ⟨k + 1, by omega, by go_num, HI'.out⟩
      case measure => simp [intOf]; omega
    · obtain rfl : k = xs.length := by omega
      have HI := Lib.hid hI
      clear hI
      go_wp2_with fail
      go_ret
      exact ⟨_, rfl, HI.out⟩

/-- Is x a digit? -/
def digB (x : Int) : Bool := decide (0 ≤ x) && decide (x ≤ 255)
theorem digits1_any (b : Bool) (x : Int) (w : World) : Calls Tryz.prog 175 #[.bool b, .int .i64 x] w fun e w' => e = .returned (.bool (b && digB x)) ∧ w' = w := by
  cases b
  · go_enter Tryz.func175, Tryz.ntmps175
    go_wp2_with fail
    go_ret
    exact ⟨rfl, rfl⟩
  · by_cases h : 0 ≤ x
    · go_enter Tryz.func175, Tryz.ntmps175
      go_wp2_with fail
      go_ret
      exact ⟨by simp [digB, h], rfl⟩
    · go_enter Tryz.func175, Tryz.ntmps175
      go_wp2_with fail
      go_ret
      exact ⟨by simp [digB]; omega, rfl⟩
theorem digB_snoc (xs : List Int) (k : Nat) (h : k < xs.length) : (xs.take (k + 1)).all digB = ((xs.take k).all digB && digB (xs.getD k 0)) := by
  rw [List.take_succ_eq_append_getElem h, List.all_append]
  simp [h]
theorem digits_any (xs : List Int) (A : Option Addr) (n c : Nat) (w : World) (hr : Rd w A (ints xs)) (hn : n = xs.length) (hl : xs.length ≤ 1000000) :
    Calls Tryz.prog 117 #[.slice A n c] w fun e w' => e = .returned (.bool (xs.all digB)) ∧ w' = w := by
  have H := Lib.hid hr
  have HN := Lib.hid hn
  clear hr hn
  go_enter Tryz.func117, Tryz.ntmps117
  go_wp2_with fail
  refine (fold_ib xs A n c (.bool true) 175 #[] w (fun k v W => v = .bool ((xs.take k).all digB) ∧ W = w) HN.out hl (enters_of Tryz.func175 (by kernel_rfl) rfl) ⟨rfl, rfl⟩ (fun k v W h => h.2 ▸ H.out) ?_).mono ?_
  · rintro k v W hk ⟨rfl, rfl⟩
    refine (digits1_any _ _ W).mono ?_
    rintro e w' ⟨rfl, rfl⟩
    exact ⟨_, rfl, by rw [digB_snoc xs k hk], rfl⟩
  · rintro e w' ⟨v, rfl, rfl, rfl⟩
    go_wp2_with fail
    go_ret
    exact ⟨by simp, rfl⟩

theorem padd_dig (a b : UInt8) (w : World) : Calls Tryz.prog 120 #[dig a, dig b] w fun e w' => e = .returned (dig (a ^^^ b)) ∧ w' = w := by
  go_enter Tryz.func120, Tryz.ntmps120
  go_wp2_with fail
  refine (add_dig a b _).mono ?_
  rintro e w' ⟨rfl, rfl⟩
  go_wp2_with fail
  go_ret
  exact ⟨rfl, rfl⟩
theorem pmul_dig (a b : UInt8) (w : World) (g : Nat) (h : IsField w g) : Calls Tryz.prog 121 #[.pointer (some ⟨g, 0, none⟩), dig a, dig b] w fun e w' => e = .returned (dig (gm a b)) ∧ Below w.heap.size w w' := by
  have H := Lib.hid h
  clear h
  go_enter Tryz.func121, Tryz.ntmps121
  go_wp2_with fail
  refine (mul_dig a b _ g H.out).mono ?_
  rintro e w' ⟨rfl, hb⟩
  go_wp2_with fail
  go_ret
  exact ⟨rfl, hb⟩

/-- Digits as numbers. -/
def nums (l : List UInt8) : List Int := l.map fun a => (a.toNat : Int)
theorem nums_len (l : List UInt8) : (nums l).length = l.length := by simp [nums]
theorem nums_all (l : List UInt8) : (nums l).all digB = true := by
  rw [List.all_eq_true]
  intro x hx
  obtain ⟨a, _, rfl⟩ := List.mem_map.1 hx
  have := a.toNat_lt
  simp [digB]
  omega
theorem nums_at (l : List UInt8) (k : Nat) (h : k < l.length) : (nums l).getD k 0 = ((l.getD k 0).toNat : Int) := by simp [nums, h]
/-- x times itself, k times. -/
def pw (x : UInt8) : Nat → UInt8
  | 0 => 1
  | k + 1 => gm (pw x k) x
theorem eval_append (x : UInt8) : ∀ (l m : List UInt8), evalP (l ++ m) x = evalP l x ^^^ gm (pw x l.length) (evalP m x)
  | [], m => by simp [evalP, pw, one_gm]
  | a :: l, m => by
    rw [List.cons_append, evalP, evalP, eval_append x l m, gm_add, x_assoc, List.length_cons, pw, gm_comm (pw x l.length) x, gm_assoc]
theorem eval_snoc' (l : List UInt8) (x : UInt8) (k : Nat) (h : k < l.length) : evalP (l.take (k + 1)) x = evalP (l.take k) x ^^^ gm (l.getD k 0) (pw x k) := by
  rw [List.take_succ_eq_append_getElem h, eval_append]
  have : (l.take k).length = k := by simp; omega
  rw [this, gm_comm (l.getD k 0)]
  simp [evalP, gm_zero, h]

theorem gbb_trans {a w w' : World} {row : Option Nat} (h : a.grownBy w row) (k : w.grownBy w' row) : a.grownBy w' row :=
  ⟨k.os.trans h.os, k.tape.trans h.tape, k.output.trans h.output, Nat.le_trans h.size k.size, fun i hi hr => (k.block i (Nat.lt_of_lt_of_le hi h.size) hr).trans (h.block i hi hr)⟩
/-- A variable of its own. -/
abbrev Box (w : World) (g : Nat) (t : TypeId) (v : Value) : Prop := w.heap[g]? = some (.cells #[v] t (0, 0))
theorem box_set {w : World} {g : Nat} {t : TypeId} {v : Value} (h : Box w g t v) (u : Value) : Box (w.setCell ⟨g, 0, none⟩ u) g t u := blk_set h 0 u
theorem box_free {w : World} {g : Nat} {t : TypeId} {v : Value} (h : Box w g t v) : w.frozen? ⟨g, 0, none⟩ = false := by
  unfold World.frozen?; simp only [h]; rfl

theorem eval1_any (s a p x : UInt8) (w : World) (g gf gp gx : Nat) (h : IsField w g) (hf : Box w gf 168 (.pointer (some ⟨g, 0, none⟩))) (hp : Box w gp 3 (dig p)) (hx : Box w gx 3 (dig x)) :
    Calls Tryz.prog 119 #[dig s, dig a, .pointer (some ⟨gf, 0, none⟩), .pointer (some ⟨gp, 0, none⟩), .pointer (some ⟨gx, 0, none⟩)] w fun e w' => e = .returned (dig (s ^^^ gm a p)) ∧ Box w' gp 3 (dig (gm p x)) ∧ w.grownBy w' (some gp) := by
  have H := Lib.hid h
  have Hf := Lib.hid hf
  have Hp := Lib.hid hp
  have Hx := Lib.hid hx
  have cf := one_cell hf
  have cp := one_cell hp
  clear h hf hp hx
  go_enter Tryz.func119, Tryz.ntmps119
  go_wp2_with fail
  refine (pmul_dig a p _ g H.out).mono ?_
  rintro e w1 ⟨rfl, hb1⟩
  go_wp2_with fail
  refine (padd_dig s (gm a p) _).mono ?_
  rintro e w1' ⟨rfl, rfl⟩
  clear cf cp
  have cf := one_cell (cells_below Hf.out hb1)
  have cp := one_cell (cells_below Hp.out hb1)
  have cx := one_cell (cells_below Hx.out hb1)
  go_wp2_with fail
  refine (pmul_dig p x _ g (H.out.keep hb1)).mono ?_
  rintro e w2 ⟨rfl, hb2⟩
  have hb := Below.chain hb1 hb2
  have bp := cells_below Hp.out hb
  clear cf cp cx
  have cp := one_cell bp
  have cp' := box_free bp
  have Hbp := Lib.hid (box_set bp (dig (gm p x)))
  have Hg : Hid (w.grownBy (w2.setCell ⟨gp, 0, none⟩ (dig (gm p x))) (some gp)) := Lib.hid ⟨hb.os, hb.tape, hb.output, by simpa using hb.size, fun i hi hne => (Below.heap_setCell _ _ _ _ (fun e => hne (by rw [e]))).trans (hb.block i hi)⟩
  clear bp
  go_wp2_with fail
  go_ret
  exact ⟨rfl, Hbp.out, Hg.out⟩

/- Eval -/
open Go.RowKit
set_option linter.unusedVariables false
set_option maxRecDepth 100000
set_option maxHeartbeats 2000000

theorem eval_dig (l : List UInt8) (x : UInt8) (A : Option Addr) (n c : Nat) (w : World) (hr : Rd w A (ints (nums l))) (hn : n = l.length) (hl : l.length ≤ 255) :
    Calls Tryz.prog 75 #[.slice A n c, dig x] w fun e w' => e = .returned (.tuple #[dig (evalP l x), .bool true]) ∧ Below w.heap.size w w' := by
  have H := Lib.hid hr
  have HN := Lib.hid (show n = (nums l).length by rw [nums_len, hn])
  have hn' : n ≤ 255 := by omega
  have HL : Hid ((nums l).length ≤ 255) := Lib.hid (by rw [nums_len]; omega)
  have HA := Lib.hid (nums_all l)
  have HX := Lib.hid (show [(x.toNat : Int)].all digB = true from nums_all [x])
  clear hr hn
  go_enter Tryz.func75, Tryz.ntmps75
  go_wp2_with fail
  refine (digits_any (nums l) A n c _ (H.out.below ((Below.refl _ _).alloc (Nat.le_refl _) _)) HN.out (Nat.le_trans HL.out (by omega))).mono ?_
  rintro e w1 ⟨rfl, rfl⟩
  rw [HA.out]
  go_wp2_with fail
  refine (digits_any [(x.toNat : Int)] _ 1 1 _ (by exact rd_new' _ _ _ _ (by simp)) rfl (by simp)).mono ?_
  rintro e w1 ⟨rfl, rfl⟩
  rw [HX.out]
  go_wp2_with fail
  refine (new_field _).mono ?_
  rintro e w1 ⟨g, rfl, hF, hg, hb1⟩
  have hx1 : Box w1 w.heap.size 3 (dig x) := by
    rw [Box, hb1.block _ (by simp; omega)]
    exact (Below.heap_alloc _ _ _ (by simp)).trans (heap_alloc_new w _)
  have hW1 : Below w.heap.size w w1 := Below.chain (((Below.refl _ _).alloc (Nat.le_refl _) _).alloc (by simp) _) hb1
  have Hx1 := Lib.hid hx1
  have HF := Lib.hid hF
  have HW1 := Lib.hid hW1
  clear hx1 hF hb1 hg hW1
  go_wp2_with fail
  obtain ⟨w2, hw2⟩ : ∃ w2, w2 = (w1.alloc (.cells #[.pointer (some ⟨g, 0, none⟩)] 168)).alloc (.cells #[dig 1] 3) := ⟨_, rfl⟩
  have hB12 : Below w1.heap.size w1 w2 := by rw [hw2]; exact ((Below.refl _ _).alloc (Nat.le_refl _) _).alloc (by simp) _
  have hW2 := Below.chain HW1.out hB12
  have hf2 : Box w2 w1.heap.size 168 (.pointer (some ⟨g, 0, none⟩)) := by
    rw [Box, hw2]
    exact (Below.heap_alloc _ _ _ (by simp)).trans (heap_alloc_new w1 _)
  have hp2 : Box w2 (w1.heap.size + 1) 3 (dig 1) := by
    rw [Box, hw2]
    have := heap_alloc_new (w1.alloc (.cells #[.pointer (some ⟨g, 0, none⟩)] 168)) (.cells #[dig 1] 3)
    simpa using this
  have hx2 := cells_below Hx1.out hB12
  have hF2 := HF.out.keep hB12
  have hsz2 : w1.heap.size + 1 + 1 = w2.heap.size := by rw [hw2]; simp
  have hxl := cell_lt_of Hx1.out
  have hge : w.heap.size ≤ w1.heap.size := HW1.out.size
  have hR2 := H.out.below hW2
  refine Calls.mono (hw2 ▸ fold_ii (nums l) A n c (.int .i64 0) 119 #[.pointer (some ⟨w1.heap.size, 0, none⟩), .pointer (some ⟨w1.heap.size + 1, 0, none⟩), .pointer (some ⟨w.heap.size, 0, none⟩)] w2
    (fun k v W => k ≤ l.length ∧ v = dig (evalP (l.take k) x) ∧ Box W (w1.heap.size + 1) 3 (dig (pw x k)) ∧ w2.grownBy W (some (w1.heap.size + 1))) HN.out (Nat.le_trans HL.out (by omega)) (enters_of Tryz.func119 (by kernel_rfl) rfl) ⟨by omega, by simp [evalP], hp2, World.grownBy.refl _ _⟩ ?rd ?st) ?fin
  case rd =>
    rintro k v W ⟨_, _, _, hG⟩
    exact fun i u hu => by
      obtain ⟨b, off, hA, hc⟩ := H.out i u hu
      have hblt := cell_lt hc
      have hc2 : w2.cell? ⟨b, off + i, none⟩ = some u := (hW2.cell hblt).trans hc
      refine ⟨b, off, hA, ?_⟩
      have hne : b ≠ w1.heap.size + 1 := by simp only at hblt; omega
      have := hG.block b (by simp only at hblt; omega) (fun e => by injection e; omega)
      unfold World.cell? at hc2 ⊢
      rw [this]
      exact hc2
  case st =>
    rintro k v W hk ⟨hkl, rfl, hbox, hG⟩
    have hk' : k < l.length := by rw [nums_len] at hk; exact hk
    have kk : ∀ i o, i < w2.heap.size → i ≠ w1.heap.size + 1 → w2.heap[i]? = some o → W.heap[i]? = some o := fun i o hi hne ho => (hG.block i hi (fun e => by injection e; omega)).trans ho
    have hFW : IsField W g := by
      obtain ⟨L, e1, e2⟩ := hF2
      have : g < w1.heap.size := HF.out.lt
      exact ⟨L, kk g _ (by omega) (by omega) e1, e2⟩
    have hfW : Box W w1.heap.size 168 (.pointer (some ⟨g, 0, none⟩)) := kk _ _ (by omega) (by omega) hf2
    have hxW : Box W w.heap.size 3 (dig x) := kk _ _ (by omega) (by omega) hx2
    rw [nums_at l k hk']
    refine (eval1_any _ (l.getD k 0) (pw x k) x W g _ _ _ hFW hfW hbox hxW).mono ?_
    rintro e w' ⟨rfl, hb', hG'⟩
    exact ⟨_, rfl, by omega, by rw [eval_snoc' l x k hk'], hb', gbb_trans hG hG'⟩
  case fin =>
    rintro e w3 ⟨v, rfl, _, rfl, _, hG⟩
    rw [nums_len, List.take_of_length_le (Nat.le_refl _)]
    rw [← hw2] at hG
    have hW3 : Below w.heap.size w w3 := hW2.trans (grownBy_below' hG (by omega) (by omega))
    go_wp2_with fail
    go_ret2
    exact ⟨rfl, hW3⟩

/- Line -/
open Go.RowKit
set_option linter.unusedVariables false
set_option maxRecDepth 100000
set_option maxHeartbeats 2000000

/-- A line as a value. -/
abbrev lineV (l : List UInt8) : Value := .agg (bytesV l).toArray

theorem text_line (l : List UInt8) (w : World) (hl : l.length = 32) : Calls Tryz.prog 76 #[lineV l] w fun e w' => e = .returned (.string (bs l)) ∧ Below w.heap.size w w' := by
  obtain ⟨arr, harr⟩ : ∃ arr, arr = (bytesV l).toArray := ⟨_, rfl⟩
  have hcv := conv_rd (w := w.alloc (.cells (bytesV l).toArray 141)) (A := ⟨w.heap.size, 0, none⟩) (l := l) (rd_new w _ _) 32 32 hl.symm
  rw [lineV, ← harr]
  go_enter Tryz.func76, Tryz.ntmps76
  go_wp2_with fail
  go_ret
  exact ⟨rfl, (Below.refl _ _).alloc (Nat.le_refl _) _⟩

/-- l with its first k bytes made by f. -/
def mapTo (f : Nat → UInt8) (l : List UInt8) (k : Nat) : List UInt8 := (List.range l.length).map fun i => if i < k then f i else l.getD i 0
theorem mapTo_len (f : Nat → UInt8) (l : List UInt8) (k : Nat) : (mapTo f l k).length = l.length := by simp [mapTo]
theorem mapTo_zero (f : Nat → UInt8) (l : List UInt8) : mapTo f l 0 = l := by
  apply List.ext_getElem
  · simp [mapTo]
  · intro j h1 h2
    simp [mapTo, h2]
theorem mapTo_at (f : Nat → UInt8) (l : List UInt8) (k : Nat) (h : k < l.length) : (mapTo f l k).getD k 0 = l.getD k 0 := by simp [mapTo, h]
theorem mapTo_set (f : Nat → UInt8) (l : List UInt8) (k : Nat) (h : k < l.length) : (mapTo f l k).set k (f k) = mapTo f l (k + 1) := by
  apply List.ext_getElem
  · simp [mapTo]
  · intro j h1 h2
    rw [List.getElem_set]
    simp only [mapTo, List.getElem_map, List.getElem_range]
    by_cases e : k = j
    · subst e
      rw [if_pos rfl, if_pos (by omega)]
    · rw [if_neg e]
      by_cases e2 : j < k
      · rw [if_pos e2, if_pos (by omega)]
      · rw [if_neg e2, if_neg (by omega)]
theorem mapTo_all (f : Nat → UInt8) (l : List UInt8) : mapTo f l l.length = (List.range l.length).map f := by
  apply List.map_congr_left
  intro i hi
  rw [if_pos (by simpa using hi)]
theorem mapTo_xor (l m : List UInt8) (h : l.length = m.length) : mapTo (fun i => l.getD i 0 ^^^ m.getD i 0) l l.length = addP l m := by
  rw [mapTo_all]
  apply List.ext_getElem
  · simp [addP, h]
  · intro j h1 h2
    have hj : j < l.length := by simpa using h1
    have hj2 : j < m.length := by omega
    simp [addP, hj, hj2]

theorem str_at (s : ByteArray) (k : Nat) (h : k < s.size) : s[k] = s.data.toList.getD k 0 := by
  have h2 : k < s.data.size := h
  rw [ByteArray.getElem_eq_getElem_data, List.getD_eq_getElem?_getD, Array.getElem?_toList, Array.getElem?_eq_getElem h2]
  rfl
theorem heap_new2 (w : World) (o o2 : Obj) : ((w.alloc o).alloc o2).heap[w.heap.size + 1]? = some o2 := by
  have := heap_alloc_new (w.alloc o) o2
  simpa using this

theorem blk_byt {w : World} {g : Nat} {t : TypeId} {l : List UInt8} (h : w.heap[g]? = some (.cells (bytesV l).toArray t (0, 0))) {i : Nat} (hi : i < l.length) :
    w.cell? ⟨g, i, none⟩ = some (.int .u8 ((l.getD i 0).toNat : Int)) ∧ w.frozen? ⟨g, i, none⟩ = false := by
  refine ⟨?_, ?_⟩
  · unfold World.cell?
    simp only [h]
    simp [bytesV, hi]
  · unfold World.frozen?
    simp only [h]
    simp
theorem blk_byt_set {w : World} {g : Nat} {t : TypeId} {l : List UInt8} (h : w.heap[g]? = some (.cells (bytesV l).toArray t (0, 0))) (i : Nat) (x : UInt8) :
    (w.setCell ⟨g, i, none⟩ (.int .u8 (x.toNat : Int))).heap[g]? = some (.cells (bytesV (l.set i x)).toArray t (0, 0)) := by
  rw [blk_set h]
  simp [bytesV]
def zeroLine : Array Value := (bytesV (List.replicate 32 0)).toArray
theorem bytesV_one' (l : List UInt8) : (bytesV l).toArray.all (·.oneCell') = true := by
  have := bytesV_one l
  simpa using this
theorem line_size (l : List UInt8) (h : l.length = 32) : (Tryz.prog.info? 141).map (·.size) = some (bytesV l).toArray.size := by
  rw [List.size_toArray, bytesV_length, h]
  kernel_rfl

theorem plus_line (l : List UInt8) (s : ByteArray) (w : World) (hl : l.length = 32) (hs : s.size = 32) : Calls Tryz.prog 98 #[lineV l, .string s] w fun e w' => e = .returned (lineV (addP l s.data.toList)) ∧ Below w.heap.size w w' := by
  obtain ⟨arr, harr⟩ : ∃ arr, arr = (bytesV l).toArray := ⟨_, rfl⟩
  have Hl := Lib.hid hl
  rw [show lineV l = .agg arr by rw [harr]]
  have Harr := Lib.hid harr
  clear harr
  go_enter Tryz.func98, Tryz.ntmps98
  go_wp2_with fail
  go_loopw [5, 6] (fun _ i wr => ∃ k : Nat, k ≤ 32 ∧ i = .int .i64 (k : Nat) ∧ wr.heap[w.heap.size]? = some (.cells (bytesV (mapTo (fun i => l.getD i 0 ^^^ s.data.toList.getD i 0) l k)).toArray 141 (0, 0)) ∧ wr.heap[w.heap.size + 1]? = some (.cells zeroLine 141 (0, 0)) ∧ Below w.heap.size w wr) (fun _ i _ => 32 - (intOf i).toNat)
  case atStart =>
    refine ⟨0, by omega, rfl, ?_, ?_, ?_⟩
    · rw [mapTo_zero, ← Harr.out]
      exact (Below.heap_alloc _ _ _ (by simp)).trans (heap_alloc_new w _)
    · exact heap_new2 w _ _
    · exact ((Below.refl _ _).alloc (Nat.le_refl _) _).alloc (by simp) _
  case round =>
    obtain ⟨k, hk, rfl, hB, hZ, hW⟩ := hrel
    by_cases hlt : k < 32
    · obtain ⟨hc, hf⟩ := blk_byt hB (i := k) (by rw [mapTo_len]; omega)
      rw [mapTo_at _ _ _ (by omega)] at hc
      have Hset := Lib.hid (show (mapTo (fun i => l.getD i 0 ^^^ s.data.toList.getD i 0) l k).set k (l.getD k 0 ^^^ s.data.toList.getD k 0) = mapTo (fun i => l.getD i 0 ^^^ s.data.toList.getD i 0) l (k + 1) from mapTo_set _ l k (by omega))
      have Hsx := Lib.hid (str_at s k (by omega))
      have HB := Lib.hid hB
      have HZ := Lib.hid hZ
      have HW := Lib.hid hW
      have hks : (k : Int) < (s.size : Int) := by omega
      have hk32 : (k : Int) < 32 := by omega
      generalize l.getD k 0 = u at hc Hset
      clear hB hZ hW
      go_wp2_with fail
      go_still_tail 8, (by kernel_rfl)
      rw [xor_u8, Hsx.out]
      change wpList _ _ _ _ _ wr.drew
      generalize hv : u ^^^ s.data.toList.getD k 0 = v at Hset ⊢
      clear hv
      go_wp2
      go_roundw
      case rel =>
        refine ⟨k + 1, by omega, by go_num, ?_, ?_, (HW.out.setCell (p := ⟨w.heap.size, k, none⟩) (Nat.le_refl _) _).drew⟩
        · have h := blk_byt_set HB.out k v
          rw [Hset.out] at h
          exact h
        · exact (Below.heap_setCell _ _ _ _ (by simp only; omega)).trans HZ.out
      case measure => simp [intOf]; omega
    · obtain rfl : k = 32 := by omega
      have hln : (addP l s.data.toList).length = 32 := by rw [addP, List.length_zipWith, hl, len_data, hs]; rfl
      have hxx := mapTo_xor l s.data.toList (by rw [hl, len_data, hs])
      rw [Hl.out] at hxx
      rw [hxx] at hB
      obtain ⟨res, hres⟩ : ∃ res, res = addP l s.data.toList := ⟨_, rfl⟩
      rw [← hres] at hB hln
      have Hres := Lib.hid hres
      have Hsz := Lib.hid (line_size res hln)
      have H1c := Lib.hid (bytesV_one' res)
      have Hs0 := Lib.hid (show (bytesV res).toArray.size = zeroLine.size by rw [List.size_toArray, bytesV_length, hln]; rfl)
      have HB := Lib.hid hB
      have HZ := Lib.hid hZ
      have HW := Lib.hid hW
      clear hB hZ hW hres hxx hln
      obtain ⟨ar, har⟩ : ∃ ar, ar = (bytesV res).toArray := ⟨_, rfl⟩
      rw [← har] at Hsz H1c Hs0 HB
      have Har := Lib.hid har
      clear har
      go_wp2_with (first
        | (refine wpList_load_row (by rfl) 141 (.tmp 2) (by rfl) w.heap.size (by rfl) 141 ar (0, 0) _ HB.out Tryz.underlying141 rfl Hsz.out ?_)
        | (refine wpList_store_whole (by rfl) 141 (.tmp 4) (.tmp 18) (by rfl) (w.heap.size + 1) ar (by rfl) (by rfl) _ 141 (by exact HZ.out) (by exact Hs0.out) Hsz.out H1c.out ?_))
      intro w4 hR4 hG4
      have HR4 := Lib.hid hR4
      clear hR4
      go_wp2_with fail
      have hR4 := HR4.out
      have hr : w4.rangeAt (w.heap.size + 1) 0 ar.toList := by simpa using World.rangeAt_of_block hR4 0 ar.size
      have hl := run_loadVar_mid (P := Tryz.prog) _ (w.heap.size + 1) 0 141 ar.toList _ hr Tryz.underlying141 rfl (by simpa using Hsz.out)
      refine bodyPost_ret (res_cell1 rfl _ _ (w.heap.size + 1) rfl _ hl) rfl ?_
      exact ⟨by rw [Har.out, Hres.out], HW.out.trans (grownBy_below' hG4 (by omega) HW.out.size)⟩

end Go.Proofs.YtkbjmmigjjdfpaaGreatDoor
