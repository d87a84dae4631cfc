/-
  Contracts of keyholeref12: the document's tape.
-/
import Derived.Test.YtkeeejkijbaooaaDoorR04b
import Derived.Test.YtkeeejkijbaooaaDoorR02d
import Derived.Test.YtkeeejkijbaooaaDoorTapeNew
import Derived.Test.YtkeeejkijbaooaaDoorTapesB
import Derived.Test.YtkeeejkijbaooaaDoorMany
namespace Go.Proofs.YtkeeejkijbaooaaDoor
open Go.RowKit
set_option linter.unusedVariables false
set_option maxRecDepth 100000
set_option linter.unusedSimpArgs false

/-- Block t is the document's tape of the bytes L, k of them taken. -/
def RTape (w : World) (t : Nat) (L : List UInt8) (k : Nat) : Prop :=
  ∃ (seed : ByteArray) (made : Bool) (s : ByteArray), w.heap[t]? = some (.cells #[.string seed, .bool made, .string s, .int .i64 (k : Nat)] 42 (0, 0)) ∧ k ≤ L.length ∧ L.length ≤ 100000 ∧
    ((made = true ∧ seed.size = 32 ∧ L = madeL seed.data.toList) ∨ (made = false ∧ L = s.data.toList))
theorem RTape.below {w w' : World} {t : Nat} {L : List UInt8} {k : Nat} (h : RTape w t L k) (hb : Below w.heap.size w w') : RTape w' t L k := by
  obtain ⟨a, b, c, h1, h2⟩ := h
  exact ⟨a, b, c, cells_below h1 hb, h2⟩
theorem RTape.other {w w' : World} {t u : Nat} {L : List UInt8} {k : Nat} (h : RTape w t L k) (hg : w.grownBy w' (some u)) (hne : t ≠ u) : RTape w' t L k := by
  obtain ⟨a, b, c, h1, h2⟩ := h
  exact ⟨a, b, c, (hg.block t (cell_lt_of h1) (fun e => hne (Option.some.inj e))).trans h1, h2⟩
theorem RTape.lt {w : World} {t : Nat} {L : List UInt8} {k : Nat} (h : RTape w t L k) : t < w.heap.size := by
  obtain ⟨a, b, c, h1, h2⟩ := h
  exact cell_lt_of h1
theorem four_cells {w : World} {t : Nat} {a b c d : Value} {T : TypeId} (h : w.heap[t]? = some (.cells #[a, b, c, d] T (0, 0))) :
    w.cell? ⟨t, 0, none⟩ = some a ∧ w.cell? ⟨t, 1, none⟩ = some b ∧ w.cell? ⟨t, 2, none⟩ = some c ∧ w.cell? ⟨t, 3, none⟩ = some d ∧ w.frozen? ⟨t, 3, none⟩ = false := by
  refine ⟨?_, ?_, ?_, ?_, ?_⟩ <;> first | (unfold World.cell?; simp only [h]; rfl) | (unfold World.frozen?; simp only [h]; rfl)

theorem rof (s : ByteArray) (w : World) (hs : s.size ≤ 100000) : Calls Tryd.prog 17 #[.string s] w fun e w' => e = .returned (.pointer (some ⟨w.heap.size, 0, none⟩)) ∧ RTape w' w.heap.size s.data.toList 0 ∧ Below w.heap.size w w' := by
  go_enter Tryd.func17, Tryd.ntmps17
  go_wp2_with fail
  go_ret
  exact ⟨rfl, ⟨_, _, _, heap_alloc_new w _, Nat.zero_le _, hs, .inr ⟨rfl, rfl⟩⟩, (Below.refl _ _).alloc (Nat.le_refl _) _⟩
theorem rnew (s : ByteArray) (w : World) (hs : s.size ≤ 1000000) : Calls Tryd.prog 18 #[.string s] w fun e w' => ∃ t, e = .returned (.pointer (some ⟨t, 0, none⟩)) ∧ w.heap.size ≤ t ∧ RTape w' t (madeL (sumL s.data.toList)) 0 ∧ Below w.heap.size w w' := by
  go_enter Tryd.func18, Tryd.ntmps18
  go_wp2_with fail
  refine (sum2 s _ hs).mono ?_
  rintro e w1 ⟨rfl, hb⟩
  go_wp2_with fail
  go_ret
  refine ⟨_, rfl, hb.size, ⟨_, _, _, heap_alloc_new w1 _, Nat.zero_le _, ?_, .inl ⟨rfl, sumL_len _, rfl⟩⟩, hb.alloc hb.size _⟩
  rw [madeL_len]; decide

theorem rleft (t : Nat) (L : List UInt8) (k : Nat) (w : World) (h : RTape w t L k) : Calls Tryd.prog 77 #[.pointer (some ⟨t, 0, none⟩)] w fun e w' => e = .returned (.int .i64 ((L.length : Int) - k)) ∧ Below w.heap.size w w' := by
  obtain ⟨seed, made, s, h1, hk, hL, hm⟩ := h
  obtain ⟨c0, c1, c2, c3, _⟩ := four_cells h1
  rcases hm with ⟨rfl, hs, hLm⟩ | ⟨rfl, hLm⟩
  · have e1 : L.length = 65536 := by rw [hLm, madeL_len]
    have HE := Lib.hid e1
    have hk' : k ≤ 65536 := by omega
    clear hLm e1 h1
    go_enter Tryd.func77, Tryd.ntmps77
    go_wp2_with fail
    go_ret
    exact ⟨ret_int (by rw [HE.out]; rfl), Below.refl _ _⟩
  · have e1 : L.length = s.size := by rw [hLm]; rfl
    have HE := Lib.hid e1
    have hk' : k ≤ s.size := by omega
    have hs' : s.size ≤ 100000 := by omega
    clear hLm e1 h1
    go_enter Tryd.func77, Tryd.ntmps77
    go_wp2_with fail
    have e64 : IntKind.i64.wrap ((s.size : Int) - (k : Int)) = (s.size : Int) - (k : Int) := IntWalk.i64_in _ (by omega)
    go_quiet (fail)
    go_wp2_with fail
    go_ret
    exact ⟨ret_int (by rw [HE.out]), below_drewN (Below.refl _ _) _⟩
theorem keep1_below' {W w' : World} {p : Addr} {u : Value} (h : W.cell? p = some u) (hb : Below W.heap.size W w') : w'.cell? p = some u := (hb.cell (cell_lt h)).trans h
theorem rblock (t : Nat) (L : List UInt8) (k i : Nat) (w : World) (seed s : ByteArray) (h1 : w.heap[t]? = some (.cells #[.string seed, .bool true, .string s, .int .i64 (k : Nat)] 42 (0, 0))) (hs : seed.size = 32) (hL : L = madeL seed.data.toList) (hi : i < 65536) :
    Calls Tryd.prog 78 #[.pointer (some ⟨t, 0, none⟩), .int .i64 (i : Nat)] w fun e w' => e = .returned (.string (bs (blockAt L (i / 64)))) ∧ Below w.heap.size w w' := by
  have Hb := Lib.hid (show blockAt L (i / 64) = blockL seed.data.toList nonce0 ((i / 64 : Nat) : Int) by rw [hL, madeL_at _ _ (by omega)])
  obtain ⟨c0, c1, c2, c3, _⟩ := four_cells h1
  have Hs := Lib.hid hs
  have hdiv : (i : Int) / 64 = ((i / 64 : Nat) : Int) := by omega
  have HC := Lib.hid c0
  obtain ⟨q, hq⟩ : ∃ q, q = i / 64 := ⟨_, rfl⟩
  rw [← hq] at hdiv
  have Hb' : Hid (blockAt L (i / 64) = blockL seed.data.toList nonce0 (q : Int)) := Lib.hid (by rw [Hb.out, hq])
  clear Hb
  have e1 : (i : Int).tdiv 64 = (q : Int) := by rw [Int.tdiv_eq_ediv_of_nonneg (by omega)]; exact hdiv
  have e2 : IntKind.i64.wrap (q : Int) = (q : Int) := IntWalk.i64_in _ (by omega)
  have hq9 : q < 1024 := by omega
  clear hs h1 c1 c2 c3 hq hdiv
  go_enter Tryd.func78, Tryd.ntmps78
  go_wp2_with fail
  go_region_held3 (fun w' => w'.cell? ⟨t, 0, none⟩ = some (.string seed))
    (first | assumption | exact HC.out | exact keep1_below' (by assumption) (by assumption))
    (first
      | ((go_at_call 12; refine (many_any 0 12 _ (by omega)).mono ?_); rintro _ w' ⟨rfl, hb1⟩)
      | ((go_at_call 102; refine (block4 seed (bs nonce0) (q : Int) _ Hs.out rfl ⟨by omega, by omega⟩).mono ?_); rintro _ w2 ⟨rfl, hb2⟩))
  go_wp2_with fail
  go_ret
  exact ⟨by rw [Hb'.out]; rfl, Below.chain (Below.chain ((Below.refl _ _).drew) hb1) hb2⟩
end Go.Proofs.YtkeeejkijbaooaaDoor
