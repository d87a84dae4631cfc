/-
  Contracts of package field: New, Add, made, Mul, Inv, at digits.
-/
import Derived.Test.YtidnlginjjgmjaaGen
import Derived.Test.YtidnlginjjgmjaaPolyT
namespace Go.Proofs.Ytidnlginjjgmjaa
open Go.RowKit
set_option linter.unusedVariables false
set_option maxRecDepth 100000
set_option maxHeartbeats 2000000

/-- A digit as a value. -/
abbrev dig (a : UInt8) : Value := .int .i64 (a.toNat : Int)

theorem xor_small (a b : Nat) (ha : a < 65536) (hb : b < 65536) : bits .xor .i64 (a : Int) (b : Int) = ((a ^^^ b : Nat) : Int) := by
  have := xor_word (a : Int) (b : Int) (wordsB2.2 ⟨⟨by omega, by omega⟩, ⟨by omega, by omega⟩⟩)
  rw [this]
  simp [xorI]

theorem double_any (a : Nat) (w : World) (ha : a < 256) : Calls Try.prog 57 #[.int .i64 (a : Int)] w fun e w' => e = .returned (.int .i64 ((dbl a : Nat) : Int)) ∧ w' = w := by
  have Hx := Lib.hid (xor_small (2 * a - 256) 27 (by omega) (by omega))
  by_cases h : 2 * a < 256
  · go_enter Try.func57, Try.ntmps57
    go_wp2_with fail
    go_ret
    refine ⟨ret_int ?_, rfl⟩
    rw [dbl, if_pos h]
    omega
  · go_enter Try.func57, Try.ntmps57
    go_wp2_with fail
    go_ret
    refine ⟨ret_int ?_, rfl⟩
    rw [dbl, if_neg h, ← Hx.out]
    congr 1
    omega

theorem isDigit_any (x : Int) (w : World) : Calls Try.prog 59 #[.int .i64 x] w fun e w' => e = .returned (.bool (decide (0 ≤ x) && decide (x ≤ 255))) ∧ w' = w := by
  by_cases h : 0 ≤ x
  · go_enter Try.func59, Try.ntmps59
    go_wp2_with fail
    go_ret
    exact ⟨by simp [h], rfl⟩
  · go_enter Try.func59, Try.ntmps59
    go_wp2_with fail
    go_ret
    exact ⟨by simp; omega, rfl⟩
theorem isDigit_dig (a : UInt8) (w : World) : Calls Try.prog 59 #[dig a] w fun e w' => e = .returned (.bool true) ∧ w' = w :=
  (isDigit_any _ w).mono fun e w' ⟨h1, h2⟩ => ⟨by rw [h1]; have := a.toNat_lt; simp; omega, h2⟩

theorem add_dig (a b : UInt8) (w : World) : Calls Try.prog 58 #[dig a, dig b] w fun e w' => e = .returned (.tuple #[dig (a ^^^ b), .bool true]) ∧ w' = w := by
  have Hx := Lib.hid (xor_small a.toNat b.toNat (by have := a.toNat_lt; omega) (by have := b.toNat_lt; omega))
  go_enter Try.func58, Try.ntmps58
  go_wp2_with fail
  refine (isDigit_dig a _).mono ?_
  rintro e w' ⟨rfl, rfl⟩
  go_wp2_with fail
  refine (isDigit_dig b _).mono ?_
  rintro e w' ⟨rfl, rfl⟩
  go_wp2_with fail
  go_ret2
  refine ⟨?_, rfl⟩
  rw [Hx.out]
  simp [UInt8.toNat_xor]

/-- A field that New made. -/
def IsField (w : World) (g : Nat) : Prop := ∃ L : List Int, w.heap[g]? = some (.cells (ints L).toArray 82 (0, 0)) ∧ L.length = 511 ∧ (∀ a, a ≠ 0 → a < 256 → L.getD a 0 = (numT a : Nat)) ∧ ∀ i, i < 255 → L.getD (256 + i) 0 = (trips i 1 : Nat)
theorem IsField.keep {w w' : World} {g : Nat} (h : IsField w g) (hb : Below w.heap.size w w') : IsField w' g := by
  obtain ⟨L, h1, h2⟩ := h
  exact ⟨L, cells_below h1 hb, h2⟩
theorem IsField.lt {w : World} {g : Nat} (h : IsField w g) : g < w.heap.size := by
  obtain ⟨L, h1, h2⟩ := h
  exact cell_lt_of h1

def FieldTo (L : List Int) (k : Nat) : Prop := L.length = 511 ∧ ∀ j, j < k → L.getD (256 + j) 0 = (trips j 1 : Nat) ∧ L.getD (trips j 1) 0 = (j : Int)
theorem getD_set_self {L : List Int} {i : Nat} {x : Int} (h : i < L.length) : (L.set i x).getD i 0 = x := by simp [h]
theorem getD_set_ne {L : List Int} {i j : Nat} {x : Int} (h : i ≠ j) : (L.set i x).getD j 0 = L.getD j 0 := by simp [List.getElem?_set_ne h]
theorem fieldTo_next {L : List Int} {k : Nat} (h : FieldTo L k) (hk : k < 255) : FieldTo ((L.set (trips k 1) (k : Int)).set (256 + k) (trips k 1 : Nat)) (k + 1) := by
  obtain ⟨hl, h⟩ := h
  have h3 := trips_lt k 1 (by omega)
  refine ⟨by simp [hl], fun j hj => ?_⟩
  by_cases e : j = k
  · subst e
    refine ⟨getD_set_self (by simp; omega), ?_⟩
    rw [getD_set_ne (by omega), getD_set_self (by omega)]
  · have hj' : j < k := by omega
    obtain ⟨h1, h2⟩ := h j hj'
    have h4 := trips_lt j 1 (by omega)
    refine ⟨?_, ?_⟩
    · rw [getD_set_ne (by omega), getD_set_ne (by omega), h1]
    · have : trips k 1 ≠ trips j 1 := fun e2 => e (by rw [← num_trips j (by omega), ← e2, num_trips k (by omega)])
      rw [getD_set_ne (by omega), getD_set_ne this, h2]
theorem field_of {w : World} {g : Nat} {L : List Int} (h : w.heap[g]? = some (.cells (ints L).toArray 82 (0, 0))) (hl : FieldTo L 255) : IsField w g := by
  refine ⟨L, h, hl.1, fun a h0 ha => ?_, fun i hi => (hl.2 i hi).1⟩
  obtain ⟨h1, h2⟩ := trips_num a h0 ha
  have := (hl.2 _ h2).2
  rw [h1] at this
  exact this
def zeros511 : Array Value := (ints (List.replicate 511 0)).toArray
theorem trips_succ (k : Nat) : trips (k + 1) 1 = trips k 1 ^^^ dbl (trips k 1) := by
  rw [trips_add k 1]
  rfl
theorem dbl_lt (a : Nat) (h : a < 256) : dbl a < 256 := by
  have : (List.range 256).all (fun a => decide (dbl a < 256)) = true := by decide +kernel
  simpa using bytes_all this a h

theorem new_field (w : World) : Calls Try.prog 35 #[] w fun e w' => ∃ g, e = .returned (.pointer (some ⟨g, 0, none⟩)) ∧ IsField w' g ∧ w.heap.size ≤ g ∧ Below w.heap.size w w' := by
  go_enter Try.func35, Try.ntmps35
  go_wp2_with fail
  go_loopw [2, 3, 5] (fun x _ i wr => ∃ (k : Nat) (L : List Int), k ≤ 255 ∧ x = .int .i64 (trips k 1 : Nat) ∧ i = .int .i64 (k : Nat) ∧ wr.heap[w.heap.size]? = some (.cells (ints L).toArray 82 (0, 0)) ∧ FieldTo L k ∧ Below w.heap.size w wr) (fun _ _ i _ => 255 - (intOf i).toNat)
  case atStart => exact ⟨0, List.replicate 511 0, by omega, rfl, rfl, heap_alloc_new w _, ⟨by simp, fun j hj => by omega⟩, (Below.refl _ _).alloc (Nat.le_refl _) _⟩
  case round =>
    obtain ⟨k, L, hk, rfl, rfl, hL, hT, hW⟩ := hrel
    by_cases hlt : k < 255
    · have hx := trips_lt k 1 (by omega)
      have HN := Lib.hid (fieldTo_next hT hlt)
      have HS := Lib.hid (trips_succ k)
      generalize trips k 1 = x at hx HN HS
      have hlen := hT.1
      obtain ⟨hc1, hf1⟩ := ints_cell hL (i := x) (by omega)
      have hL1 := ints_set hL x (k : Int)
      obtain ⟨hc2, hf2⟩ := ints_cell hL1 (i := 256 + k) (by simp; omega)
      have hL2 := ints_set hL1 (256 + k) (x : Int)
      have hW2 := (hW.setCell (p := ⟨w.heap.size, x, none⟩) (Nat.le_refl _) (.int .i64 (k : Int))).setCell (p := ⟨w.heap.size, 256 + k, none⟩) (Nat.le_refl _) (.int .i64 (x : Int))
      have HL2 := Lib.hid hL2
      have Hx := Lib.hid (xor_small x (dbl x) (by omega) (by have := dbl_lt x hx; omega))
      clear hL hL1 hL2 hT
      have hb1 : (x : Int) < 256 := by omega
      go_wp2_with fail
      refine (double_any x _ hx).mono ?_
      rintro e w' ⟨rfl, rfl⟩
      go_wp2_with fail
      go_roundw
      case rel => exact ⟨k + 1, _, by omega, by rw [Hx.out, HS.out], by go_num, HL2.out, HN.out, hW2⟩
      case measure => simp [intOf]; omega
    · obtain rfl : k = 255 := by omega
      have Hf := Lib.hid (field_of hL hT)
      clear hL hT
      go_wp2_with fail
      go_ret
      exact ⟨_, rfl, Hf.out, Nat.le_refl _, hW⟩

theorem field_cells {w : World} {g : Nat} (h : IsField w g) : (∀ a, a ≠ 0 → a < 256 → w.cell? ⟨g, a, none⟩ = some (.int .i64 (numT a : Nat))) ∧ ∀ i, i < 255 → w.cell? ⟨g, 256 + i, none⟩ = some (.int .i64 (trips i 1 : Nat)) := by
  obtain ⟨L, h1, h2, h3, h4⟩ := h
  exact ⟨fun a h0 ha => by rw [(ints_cell h1 (by omega)).1, h3 a h0 ha], fun i hi => by rw [(ints_cell h1 (by omega)).1, h4 i hi]⟩
theorem made_any (w : World) (g : Nat) (h : IsField w g) : Calls Try.prog 60 #[.pointer (some ⟨g, 0, none⟩)] w fun e w' => e = .returned (.pointer (some ⟨g, 0, none⟩)) ∧ w' = w := by
  have hc : w.cell? ⟨g, 256, none⟩ = some (.int .i64 1) := (field_cells h).2 0 (by omega)
  clear h
  go_enter Try.func60, Try.ntmps60
  go_wp2_with fail
  go_ret
  exact ⟨rfl, rfl⟩

theorem mul_dig (a b : UInt8) (w : World) (g : Nat) (h : IsField w g) : Calls Try.prog 39 #[.pointer (some ⟨g, 0, none⟩), dig a, dig b] w fun e w' => e = .returned (.tuple #[dig (gm a b), .bool true]) ∧ Below w.heap.size w w' := by
  have H := Lib.hid h
  clear h
  have Hz := Lib.hid (zero_gm b)
  have Hz2 := Lib.hid (gm_zero a)
  have ha := a.toNat_lt
  have hb := b.toNat_lt
  by_cases h0 : a.toNat = 0
  · obtain rfl : a = 0 := UInt8.toNat_inj.1 h0
    go_enter Try.func39, Try.ntmps39
    go_wp2_with fail
    refine (isDigit_dig 0 _).mono ?_
    rintro e w' ⟨rfl, rfl⟩
    go_wp2_with fail
    refine (isDigit_dig b _).mono ?_
    rintro e w' ⟨rfl, rfl⟩
    go_wp2_with fail
    go_ret2
    refine ⟨?_, Below.refl _ _⟩
    rw [Hz.out]
    rfl
  · by_cases h1 : b.toNat = 0
    · obtain rfl : b = 0 := UInt8.toNat_inj.1 h1
      go_enter Try.func39, Try.ntmps39
      go_wp2_with fail
      refine (isDigit_dig a _).mono ?_
      rintro e w' ⟨rfl, rfl⟩
      go_wp2_with fail
      refine (isDigit_dig 0 _).mono ?_
      rintro e w' ⟨rfl, rfl⟩
      go_wp2_with fail
      go_ret2
      refine ⟨?_, Below.refl _ _⟩
      rw [Hz2.out]
      rfl
    · have e1 : ((a.toNat : Int) == 0) = false := by simp; omega
      have e2 : ((b.toNat : Int) == 0) = false := by simp; omega
      go_enter Try.func39, Try.ntmps39
      go_wp2_with fail
      refine (isDigit_dig a _).mono ?_
      rintro e w' ⟨rfl, rfl⟩
      go_wp2_with fail
      refine (isDigit_dig b _).mono ?_
      rintro e w' ⟨rfl, rfl⟩
      go_wp2_with fail
      refine (made_any _ g H.out).mono ?_
      rintro e w' ⟨rfl, rfl⟩
      go_wp2_with fail
      obtain ⟨hn, ht⟩ := field_cells H.out
      have c1 := hn _ h0 ha
      have c2 := hn _ h1 hb
      have Hp := Lib.hid (gm_nat a b)
      have Hp2 := Lib.hid (mulG_pow _ _ h0 h1 ha hb)
      have n1 := (trips_num _ h0 ha).2
      have n2 := (trips_num _ h1 hb).2
      clear hn
      generalize numT a.toNat = x at c1 n1 Hp2
      generalize numT b.toNat = y at c2 n2 Hp2
      have hm := Nat.mod_lt (x + y) (show 0 < 255 by omega)
      obtain ⟨z, hz⟩ : ∃ z, z = (x + y) % 255 := ⟨_, rfl⟩
      rw [← hz] at hm Hp2
      have c3 := ht z hm
      clear ht
      have hz' : (IntKind.i64.wrap ((x : Int) + (y : Int))).tmod 255 = (z : Int) := by
        rw [IntWalk.i64_in _ (by omega), Int.tmod_eq_emod_of_nonneg (by omega)]
        omega
      have hz'' : (((x : Int) + (y : Int))).tmod 255 = (z : Int) := by
        rw [Int.tmod_eq_emod_of_nonneg (by omega)]
        omega
      clear hz
      go_quiet (fail)
      rename_i nq
      have HB := below_drewN (Below.refl w'.heap.size w') nq
      go_wp2_with fail
      go_ret2
      refine ⟨?_, HB⟩
      simp only [dig, Hp.out, Hp2.out]
      rfl

theorem inv_dig (a : UInt8) (w : World) (g : Nat) (h : IsField w g) (h0 : a ≠ 0) : Calls Try.prog 40 #[.pointer (some ⟨g, 0, none⟩), dig a] w fun e w' => e = .returned (.tuple #[dig (gi a), .bool true]) ∧ Below w.heap.size w w' := by
  have H := Lib.hid h
  clear h
  have ha := a.toNat_lt
  have h0 : a.toNat ≠ 0 := fun e => h0 (UInt8.toNat_inj.1 e)
  have e1 : ((a.toNat : Int) == 0) = false := by simp; omega
  go_enter Try.func40, Try.ntmps40
  go_wp2_with fail
  refine (isDigit_dig a _).mono ?_
  rintro e w' ⟨rfl, rfl⟩
  go_wp2_with fail
  refine (made_any _ g H.out).mono ?_
  rintro e w' ⟨rfl, rfl⟩
  go_wp2_with fail
  obtain ⟨hn, ht⟩ := field_cells H.out
  have c1 := hn _ h0 ha
  have Hp := Lib.hid (gi_nat a)
  have Hp2 := Lib.hid (show invG a.toNat = trips ((255 - numT a.toNat) % 255) 1 from rfl)
  have n1 := (trips_num _ h0 ha).2
  clear hn
  generalize numT a.toNat = x at c1 n1 Hp2
  have hm := Nat.mod_lt (255 - x) (show 0 < 255 by omega)
  obtain ⟨z, hz⟩ : ∃ z, z = (255 - x) % 255 := ⟨_, rfl⟩
  rw [← hz] at hm Hp2
  have c3 := ht z hm
  clear ht
  have hz'' : ((255 - (x : Int))).tmod 255 = (z : Int) := by
    rw [Int.tmod_eq_emod_of_nonneg (by omega)]
    omega
  clear hz
  go_quiet (fail)
  rename_i nq
  have HB := below_drewN (Below.refl w'.heap.size w') nq
  go_wp2_with fail
  go_ret2
  refine ⟨?_, HB⟩
  simp only [dig, Hp.out, Hp2.out]
  rfl

theorem bytes1_any (a x : UInt8) (w : World) (gp ga g : Nat) (h : IsField w g) (hp : w.cell? ⟨gp, 0, none⟩ = some (.func (.func 39) #[.pointer (some ⟨g, 0, none⟩)] #[])) (ha : w.cell? ⟨ga, 0, none⟩ = some (dig a)) :
    Calls Try.prog 61 #[.int .u8 (x.toNat : Int), .pointer (some ⟨gp, 0, none⟩), .pointer (some ⟨ga, 0, none⟩)] w fun e w' => e = .returned (.int .u8 ((gm a x).toNat : Int)) ∧ Below w.heap.size w w' := by
  have H := Lib.hid h
  clear h
  have hx := x.toNat_lt
  have hg := (gm a x).toNat_lt
  go_enter Try.func61, Try.ntmps61
  go_wp2_with fail
  refine (mul_dig a x _ g H.out).mono ?_
  rintro e w' ⟨rfl, hb⟩
  go_wp2_with fail
  go_ret
  exact ⟨rfl, hb⟩
end Go.Proofs.Ytidnlginjjgmjaa
