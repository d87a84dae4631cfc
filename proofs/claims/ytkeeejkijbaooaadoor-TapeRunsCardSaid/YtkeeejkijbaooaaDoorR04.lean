/-
  Contracts of keyholeref04: mixed, turn, places, Block: the same function as stream.Block.
-/
import Derived.Test.YtkeeejkijbaooaaDoorR02
import Derived.Test.YtkeeejkijbaooaaDoorGen
import Derived.Deep.RegionLaw
namespace Go.Proofs.YtkeeejkijbaooaaDoor
open Go.RowKit
set_option linter.unusedVariables false
set_option maxRecDepth 100000
set_option linter.unusedSimpArgs false

theorem mixed4 (x y n : Int) (w : World) (hx : Wd x) (hy : Wd y) (h0 : 0 ≤ n) (h1 : n ≤ 32) : Calls Tryd.prog 122 #[.int .i64 x, .int .i64 y, .int .i64 n] w fun e w' => e = .returned (.int .i64 (rotI (xorI x y) n)) ∧ w = w' := by
  have HX := Lib.hid hx
  have HY := Lib.hid hy
  clear hx hy
  go_enter Tryd.func122, Tryd.ntmps122
  go_wp2_with fail
  refine (unlike1 x y _ HX.out HY.out).mono ?_
  rintro e w' ⟨rfl, rfl⟩
  go_wp2_with fail
  refine (turned1 _ n _ (wd_xor HX.out HY.out) h0 h1).mono ?_
  rintro e w' ⟨rfl, rfl⟩
  go_wp2_with fail
  go_ret
  exact ⟨rfl, rfl⟩
theorem turn4 (a b c d : Int) (A : Option Addr) (n cap : Nat) (w : World) (hr : Rd w A (ints [a, b, c, d])) (hn : n = 4) (ha : Wd a) (hb : Wd b) (hc : Wd c) (hd : Wd d) :
    Calls Tryd.prog 116 #[.slice A n cap] w fun e w' => e = .returned (.slice (some ⟨w.heap.size, 0, none⟩) 4 4) ∧ w' = w.alloc (.cells (ints [(turnI a b c d).1, (turnI a b c d).2.1, (turnI a b c d).2.2.1, (turnI a b c d).2.2.2]).toArray 3) := by
  subst hn
  obtain ⟨g, off, hA, c0⟩ := hr.int_at (i := 0) (by simp)
  subst hA
  have cc : ∀ i, i < 4 → w.cell? ⟨g, off + i, none⟩ = some (.int .i64 ([a, b, c, d].getD i 0)) := fun i hi => by
    obtain ⟨b', o', hA, hc⟩ := hr.int_at (i := i) (by simpa using hi)
    injection hA with hA
    injection hA with h1 h2
    subst h1 h2
    exact hc
  have c0 : w.cell? ⟨g, off, none⟩ = some (.int .i64 a) := cc 0 (by omega)
  have c1 : w.cell? ⟨g, off + 1, none⟩ = some (.int .i64 b) := cc 1 (by omega)
  have c2 : w.cell? ⟨g, off + 2, none⟩ = some (.int .i64 c) := cc 2 (by omega)
  have c3 : w.cell? ⟨g, off + 3, none⟩ = some (.int .i64 d) := cc 3 (by omega)
  have HA := Lib.hid ha
  have HB := Lib.hid hb
  have HC := Lib.hid hc
  have HD := Lib.hid hd
  clear cc hr ha hb hc hd
  go_enter Tryd.func116, Tryd.ntmps116
  go_wp2_with fail
  refine (sum1 a b _ HA.out HB.out).mono ?_
  rintro e w' ⟨rfl, rfl⟩
  go_wp2_with fail
  refine (mixed4 d (mixA a b) 16 _ HD.out (wd_mixA _ _) (by omega) (by omega)).mono ?_
  rintro e w' ⟨rfl, rfl⟩
  go_wp2_with fail
  refine (sum1 c (mixC a b d 16) _ HC.out (wd_mixC _ HD.out)).mono ?_
  rintro e w' ⟨rfl, rfl⟩
  go_wp2_with fail
  refine (mixed4 b (mixA c (mixC a b d 16)) 12 _ HB.out (wd_mixA _ _) (by omega) (by omega)).mono ?_
  rintro e w' ⟨rfl, rfl⟩
  go_wp2_with fail
  refine (sum1 (mixA a b) (mixC c (mixC a b d 16) b 12) _ (wd_mixA _ _) (wd_mixC _ HB.out)).mono ?_
  rintro e w' ⟨rfl, rfl⟩
  go_wp2_with fail
  refine (mixed4 (mixC a b d 16) (mixA (mixA a b) (mixC c (mixC a b d 16) b 12)) 8 _ (wd_mixC _ HD.out) (wd_mixA _ _) (by omega) (by omega)).mono ?_
  rintro e w' ⟨rfl, rfl⟩
  go_wp2_with fail
  refine (sum1 (mixA c (mixC a b d 16)) (mixC (mixA a b) (mixC c (mixC a b d 16) b 12) (mixC a b d 16) 8) _ (wd_mixA _ _) (wd_mixC _ (wd_mixC _ HD.out))).mono ?_
  rintro e w' ⟨rfl, rfl⟩
  go_wp2_with fail
  refine (mixed4 (mixC c (mixC a b d 16) b 12) (mixA (mixA c (mixC a b d 16)) (mixC (mixA a b) (mixC c (mixC a b d 16) b 12) (mixC a b d 16) 8)) 7 _ (wd_mixC _ HB.out) (wd_mixA _ _) (by omega) (by omega)).mono ?_
  rintro e w' ⟨rfl, rfl⟩
  go_wp2_with fail
  go_ret
  exact ⟨rfl, rfl⟩

/-- The rows of places lie from block g on. -/
def Places (w : World) (g : Nat) : Prop := ∀ j p, turnsT[j]? = some p → w.cell? ⟨g + 8, j, none⟩ = some (.slice (some ⟨g + j, 0, none⟩) 4 4) ∧ w.heap[g + j]? = some (.cells (turnV p).toArray 3 (0, 0)) ∧ g + 8 < w.heap.size
theorem Places.keep {w w' : World} {g : Nat} (h : Places w g) (hs : w.heap.size ≤ w'.heap.size) (hk : ∀ i, g ≤ i → i < g + 9 → w'.heap[i]? = w.heap[i]?) : Places w' g := fun j p hp => by
  obtain ⟨h1, h2, h3⟩ := h j p hp
  have hj : j < 8 := by
    rcases Nat.lt_or_ge j 8 with h | h
    · exact h
    · rw [List.getElem?_eq_none (by exact h)] at hp; cases hp
  refine ⟨?_, (hk _ (by omega) (by omega)).trans h2, by omega⟩
  rw [← h1]
  unfold World.cell?
  simp only [hk (g + 8) (by omega) (by omega)]
theorem Places.below {w w' : World} {g : Nat} (h : Places w g) (hb : Below w.heap.size w w') : Places w' g :=
  h.keep hb.size fun i _ hi => hb.block i (by have := (h 0 _ rfl).2.2; omega)
def allocs (w : World) : List Obj → World
  | [] => w
  | o :: r => allocs (w.alloc o) r
theorem allocs_old : ∀ (os : List Obj) (w : World) (i : Nat), i < w.heap.size → (allocs w os).heap[i]? = w.heap[i]?
  | [], _, _, _ => rfl
  | o :: r, w, i, h => by
    rw [allocs, allocs_old r _ _ (by simp; omega)]
    exact Below.heap_alloc _ _ _ h
theorem allocs_at : ∀ (os : List Obj) (w : World) (j : Nat) (o : Obj), os[j]? = some o → (allocs w os).heap[w.heap.size + j]? = some o
  | [], _, _, _, h => by simp at h
  | x :: r, w, 0, o, h => by
    simp only [List.getElem?_cons_zero, Option.some.injEq] at h
    subst h
    rw [allocs, allocs_old r _ _ (by simp)]
    exact heap_alloc_new w _
  | x :: r, w, j + 1, o, h => by
    simp only [List.getElem?_cons_succ] at h
    have := allocs_at r (w.alloc x) j o h
    rw [allocs, ← this]
    congr 1
    simp
    omega
theorem allocs_size : ∀ (os : List Obj) (w : World), (allocs w os).heap.size = w.heap.size + os.length
  | [], _ => rfl
  | o :: r, w => by
    rw [allocs, allocs_size r]
    simp
    omega
theorem below_allocs : ∀ (os : List Obj) (w w' : World), Below w.heap.size w w' → Below w.heap.size w (allocs w' os)
  | [], _, _, h => h
  | o :: r, w, w', h => below_allocs r w _ (h.alloc h.size o)
def placesO (g : Nat) : List Obj := [.cells #[.int .i64 0, .int .i64 4, .int .i64 8, .int .i64 12] 3, .cells #[.int .i64 1, .int .i64 5, .int .i64 9, .int .i64 13] 3, .cells #[.int .i64 2, .int .i64 6, .int .i64 10, .int .i64 14] 3, .cells #[.int .i64 3, .int .i64 7, .int .i64 11, .int .i64 15] 3,
  .cells #[.int .i64 0, .int .i64 5, .int .i64 10, .int .i64 15] 3, .cells #[.int .i64 1, .int .i64 6, .int .i64 11, .int .i64 12] 3, .cells #[.int .i64 2, .int .i64 7, .int .i64 8, .int .i64 13] 3, .cells #[.int .i64 3, .int .i64 4, .int .i64 9, .int .i64 14] 3,
  .cells #[.slice (some ⟨g, 0, none⟩) 4 4, .slice (some ⟨g + 1, 0, none⟩) 4 4, .slice (some ⟨g + 2, 0, none⟩) 4 4, .slice (some ⟨g + 3, 0, none⟩) 4 4, .slice (some ⟨g + 4, 0, none⟩) 4 4, .slice (some ⟨g + 5, 0, none⟩) 4 4, .slice (some ⟨g + 6, 0, none⟩) 4 4, .slice (some ⟨g + 7, 0, none⟩) 4 4] 71]
theorem places_allocs (w : World) : Places (allocs w (placesO w.heap.size)) w.heap.size := fun j p hp => by
  have hA := allocs_at (placesO w.heap.size) w
  have h8 := hA 8 _ rfl
  have hs := allocs_size (placesO w.heap.size) w
  have hz : w.heap.size + 8 < (allocs w (placesO w.heap.size)).heap.size := by rw [hs]; simp [placesO]
  have hc : ∀ j v, #[Value.slice (some ⟨w.heap.size, 0, none⟩) 4 4, .slice (some ⟨w.heap.size + 1, 0, none⟩) 4 4, .slice (some ⟨w.heap.size + 2, 0, none⟩) 4 4, .slice (some ⟨w.heap.size + 3, 0, none⟩) 4 4, .slice (some ⟨w.heap.size + 4, 0, none⟩) 4 4, .slice (some ⟨w.heap.size + 5, 0, none⟩) 4 4, .slice (some ⟨w.heap.size + 6, 0, none⟩) 4 4, .slice (some ⟨w.heap.size + 7, 0, none⟩) 4 4][j]? = some v → (allocs w (placesO w.heap.size)).cell? ⟨w.heap.size + 8, j, none⟩ = some v := fun j v hv => by
    unfold World.cell?
    simp only [h8]
    exact hv
  match j with
  | 0 => cases hp; exact ⟨hc 0 _ rfl, hA 0 _ rfl, hz⟩
  | 1 => cases hp; exact ⟨hc 1 _ rfl, hA 1 _ rfl, hz⟩
  | 2 => cases hp; exact ⟨hc 2 _ rfl, hA 2 _ rfl, hz⟩
  | 3 => cases hp; exact ⟨hc 3 _ rfl, hA 3 _ rfl, hz⟩
  | 4 => cases hp; exact ⟨hc 4 _ rfl, hA 4 _ rfl, hz⟩
  | 5 => cases hp; exact ⟨hc 5 _ rfl, hA 5 _ rfl, hz⟩
  | 6 => cases hp; exact ⟨hc 6 _ rfl, hA 6 _ rfl, hz⟩
  | 7 => cases hp; exact ⟨hc 7 _ rfl, hA 7 _ rfl, hz⟩
  | j + 8 => simp [turnsT] at hp
theorem places4 (w : World) : Calls Tryd.prog 115 #[] w fun e w' => e = .returned (.slice (some ⟨w.heap.size + 8, 0, none⟩) 8 8) ∧ Places w' w.heap.size ∧ Below w.heap.size w w' := by
  go_enter Tryd.func115, Tryd.ntmps115
  go_wp2_with fail
  go_ret
  exact ⟨rfl, places_allocs w, below_allocs (placesO w.heap.size) w w (Below.refl _ _)⟩
end Go.Proofs.YtkeeejkijbaooaaDoor
