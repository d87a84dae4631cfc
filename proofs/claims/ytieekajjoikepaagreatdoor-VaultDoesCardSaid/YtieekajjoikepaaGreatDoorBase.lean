/-
  Words for memory used by the walks of this claim: a slice that reads as a list, a block known whole, small facts on worlds.
-/
import Derived.WalkKit
import Derived.Lib.Hide
import Derived.Deep.Draws
import Derived.Deep.QuietTactic
import Derived.BigQuiet
import Derived.Shelf.Strings.Builder1
import Derived.Shelf.Strings.Builder2
namespace Go.Proofs.YtieekajjoikepaaGreatDoor
open Go.RowKit

/-- The slice that begins at A holds the values xs (one cell each). -/
def Rd (w : World) (A : Option Addr) (xs : List Value) : Prop :=
  ∀ i u, xs[i]? = some u → ∃ b off, A = some ⟨b, off, none⟩ ∧ w.cell? ⟨b, off + i, none⟩ = some u

/-- The numbers of a list as values of type int. -/
def ints (xs : List Int) : List Value := xs.map (Value.int .i64)

theorem Rd.nil (w : World) (A : Option Addr) : Rd w A [] := fun i u h => by simp at h

theorem cell_lt {w : World} {p : Addr} {u : Value} (h : w.cell? p = some u) : p.block < w.heap.size := by
  rcases Nat.lt_or_ge p.block w.heap.size with hlt | hge
  · exact hlt
  · unfold World.cell? at h; rw [Array.getElem?_eq_none hge] at h; cases h

theorem Rd.below {w w' : World} {A : Option Addr} {xs : List Value} (h : Rd w A xs) (hb : Below w.heap.size w w') : Rd w' A xs :=
  fun i u hu => by
    obtain ⟨b, off, hA, hc⟩ := h i u hu
    exact ⟨b, off, hA, (hb.cell (p := ⟨b, off + i, none⟩) (cell_lt hc)).trans hc⟩

theorem Rd.at_ {w : World} {A : Option Addr} {xs : List Value} {i : Nat} {u : Value} (h : Rd w A xs) (hu : xs[i]? = some u) :
    ∃ b off, A = some ⟨b, off, none⟩ ∧ w.cell? ⟨b, off + i, none⟩ = some u := h i u hu

theorem Rd.int_at {w : World} {A : Option Addr} {xs : List Int} {i : Nat} (h : Rd w A (ints xs)) (hi : i < xs.length) :
    ∃ b off, A = some ⟨b, off, none⟩ ∧ w.cell? ⟨b, off + i, none⟩ = some (.int .i64 (xs.getD i 0)) :=
  h i _ (by simp [ints, hi])

/-- A new block's cells. -/
theorem rd_new (w : World) (t : TypeId) (cs : Array Value) : Rd (w.alloc (.cells cs t)) (some ⟨w.heap.size, 0, none⟩) cs.toList := by
  intro i u hu
  refine ⟨_, _, rfl, ?_⟩
  have h : (w.alloc (.cells cs t)).heap[w.heap.size]? = some (.cells cs t (0, 0)) := heap_alloc_new w _
  unfold World.cell?
  simp only [h]
  rw [Nat.zero_add, ← hu, Array.getElem?_toList]
  rfl

theorem rd_new' (w : World) (t : TypeId) (cs : Array Value) (g : Nat) (hg : w.heap.size = g) : Rd (w.alloc (.cells cs t)) (some ⟨g, 0, none⟩) cs.toList := by
  subst hg
  exact rd_new w t cs
theorem rd_of_cells {w : World} {x : Addr} {zs : List Int} (h : ∀ i, i < zs.length → w.cell? (x.add i) = some (.int .i64 (zs.getD i 0))) (l : Nat) : Rd w (some x) (ints (zs.take l)) := by
  intro i u hu
  have hi : i < zs.length := by
    rcases Nat.lt_or_ge i zs.length with h | h
    · exact h
    · simp [ints, List.getElem?_take, h] at hu
  have hil : i < l := by
    rcases Nat.lt_or_ge i l with h | h
    · exact h
    · simp [ints, List.getElem?_take, Nat.not_lt.2 h] at hu
  have hc := h i hi
  have hs : x.spot = none := by
    have h0 := h 0 (by omega)
    unfold World.cell? at h0
    obtain ⟨b, o, sp⟩ := x
    cases sp with
    | none => rfl
    | some v => simp only [Addr.add] at h0; split at h0 <;> simp at h0
  refine ⟨x.block, x.off, by rw [← hs], ?_⟩
  have hu' : u = .int .i64 (zs.getD i 0) := by simpa [ints, hil, hi, eq_comm] using hu
  rw [hu', ← hc]
  congr 1
  unfold Addr.add
  split
  · rename_i h0; subst h0; obtain ⟨b, o, sp⟩ := x; simp_all
  · rfl

theorem below_drewN {B : Nat} {a w : World} (h : Below B a w) (n : Nat) : Below B a (w.drewN n) := ⟨h.os, h.tape, h.output, h.size, h.block⟩

theorem Below.chain {w w1 w2 : World} (h : Below w.heap.size w w1) (h' : Below w1.heap.size w1 w2) : Below w.heap.size w w2 := h.trans (h'.mono h.size)
theorem Below.chain_alloc {w w1 w2 : World} {o : Obj} (h : Below w.heap.size w w1) (h' : Below (w1.alloc o).heap.size (w1.alloc o) w2) : Below w.heap.size w w2 :=
  Below.chain (h.alloc h.size o) h'
theorem below_of_eq {w w' : World} (h : w = w') : Below w.heap.size w w' := h ▸ Below.refl _ _

theorem ret_bool {a b : Bool} (h : a = b) : Ending.returned (.bool a) = .returned (.bool b) := by rw [h]
theorem ret_int {k : IntKind} {a b : Int} (h : a = b) : Ending.returned (.int k a) = .returned (.int k b) := by rw [h]

/-- A list of bytes as a text. -/
def bs (l : List UInt8) : ByteArray := ⟨l.toArray⟩
theorem bs_data (l : List UInt8) : (bs l).data.toList = l := rfl
theorem bs_size (l : List UInt8) : (bs l).size = l.length := rfl
theorem len_data (s : ByteArray) : s.data.toList.length = s.size := rfl
theorem bs_of (s : ByteArray) : bs s.data.toList = s := rfl
theorem bs_inj {l m : List UInt8} (h : bs l = bs m) : l = m := by
  have := congrArg (fun x : ByteArray => x.data.toList) h
  exact this
theorem extract_bs (s : ByteArray) (a b : Nat) : s.extract a b = bs ((s.data.toList.take b).drop a) := by
  apply ByteArray.ext
  rw [ByteArray.data_extract]
  apply Array.ext'
  simp [bs, List.drop_take]

/-- A world that has only grown since w. -/
structure Later (w : World) where
  x : World
  ok : Below w.heap.size w x

instance later_some (w : World) : Nonempty (Later w) := ⟨⟨w, Below.refl _ _⟩⟩

/-- A region that draws its order, whose operations read old memory and whose callees only make new memory: one walk in the order of the text. -/
theorem wp_region_later {P : Program} {id : Nat} {Q : Exit → Act → World → Prop} {a : Act} {w : World} {l : List Oper} (hm : P.follows .mixedOrders = true) (hB : Region.lexB .any l.toArray = true)
    (h : wpQuiet P l.toArray (fun W => ∃ y : Later w, W = y.x) (fun a' => ∀ W, (∃ y : Later w, W = y.x) → Q .normal a' W) l a) : (Code.region id l.toArray true).wp P Q a w :=
  wp_region_quiet (C := fun W => ∃ y : Later w, W = y.x) hm hB ⟨⟨w.drew, (Below.refl _ _).drew⟩, rfl⟩ (by simpa using h)
theorem later_call {P : Program} {f : FuncId} {args : Array Value} {w : World} {y : Later w} {v : Value} (h : Calls P f args y.x fun e w' => e = .returned v ∧ Below y.x.heap.size y.x w') :
    Calls P f args y.x fun e w' => e = .returned v ∧ ∃ z : Later w, w' = z.x :=
  h.mono fun _ _ ⟨he, hb⟩ => ⟨he, ⟨⟨_, Below.chain y.ok hb⟩, rfl⟩⟩
theorem Later.cell {w : World} (y : Later w) {p : Addr} {v : Value} (h : w.cell? p = some v) : y.x.cell? p = some v := (y.ok.cell (cell_lt h)).trans h

end Go.Proofs.YtieekajjoikepaaGreatDoor
