/-
  strings.Builder beside other blocks of the call's own: the kit's contracts at this program's numbers.
-/
import Derived.Test.YtieekajjoikepaaGreatDoorShelf
import Derived.Test.YtieekajjoikepaaGreatDoorSm
import Derived.Shelf.Strings.BuilderK
namespace Go.Proofs.YtieekajjoikepaaGreatDoor
open Go.RowKit Go.Shelf
set_option linter.unusedVariables false

/-- Block b is a builder that holds the bytes l; its rows lie from B on. -/
def Bld (w : World) (B b : Nat) (l : List UInt8) : Prop := Lib.IsBuilderF 174 5 B b (Lib.byteCells l) w
theorem bld_new {w : World} {B : Nat} (hB : B ≤ w.heap.size) : Bld (w.alloc (.cells #[.pointer none, .slice none 0 0] 174)) B w.heap.size [] :=
  .inl ⟨hB, .slice none 0 0, heap_alloc_new w _, ⟨rfl, .inl ⟨rfl, rfl⟩⟩, by simp [Value.ownBlock]⟩
theorem bld_blocks {w w' : World} {B b : Nat} {l : List UInt8} (h : Bld w B b l) (hb : w'.heap[b]? = w.heap[b]?) (hr : ∀ (g : Nat) (cs : Array Value) (fz : Nat × Nat), w.heap[g]? = some (.cells cs 5 fz) → w'.heap[g]? = w.heap[g]?) : Bld w' B b l := by
  have key : ∀ p, Lib.BuilderAtF 174 5 B b p (Lib.byteCells l) w → Lib.BuilderAtF 174 5 B b p (Lib.byteCells l) w' := by
    rintro p ⟨hB, v, hb', ⟨hl, hown⟩, hne⟩
    refine ⟨hB, v, hb.trans hb', ⟨hl, ?_⟩, hne⟩
    rcases hown with h | ⟨g, cap, cur, fz, hv, hg, hh, r⟩
    · exact .inl h
    · exact .inr ⟨g, cap, cur, fz, hv, hg, (hr g cur fz hh).trans hh, r⟩
  rcases h with h | h
  · exact .inl (key _ h)
  · exact .inr (key _ h)
theorem bld_lt {w : World} {B b : Nat} {l : List UInt8} (h : Bld w B b l) : b < w.heap.size ∧ B ≤ b := by
  rcases h with ⟨hB, v, hb, _⟩ | ⟨hB, v, hb, _⟩ <;> exact ⟨cell_lt_of hb, hB⟩
theorem bld_below {w w' : World} {B b : Nat} {l : List UInt8} (h : Bld w B b l) (hb : Below w.heap.size w w') : Bld w' B b l :=
  bld_blocks h (hb.block b (bld_lt h).1) (fun g cs fz hg => hb.block g (cell_lt_of hg))
/-- It stays while another block is turned that is no row of bytes. -/
theorem bld_gb {w w' : World} {B b R : Nat} {l : List UInt8} {cs : Array Value} {t : TypeId} {fr : Nat × Nat} (h : Bld w B b l) (hg : w.grownBy w' (some R)) (hR : w.heap[R]? = some (.cells cs t fr)) (ht : t ≠ 5) (hb : R ≠ b) : Bld w' B b l :=
  bld_blocks h (hg.block b (bld_lt h).1 (fun e => hb (Option.some.inj e).symm)) (fun g c fz hh => hg.block g (cell_lt_of hh) (fun e => by
    obtain rfl := Option.some.inj e
    rw [hR] at hh
    injection hh with hh
    injection hh with _ h2 _
    exact ht h2))
/-- A block that is neither the builder's nor a row of bytes stays. -/
theorem others_at {w w' : World} {b R : Nat} {cs : Array Value} {t : TypeId} {fr : Nat × Nat} (h : Lib.OthersKept 5 (some b) w w') (hR : w.heap[R]? = some (.cells cs t fr)) (ht : t ≠ 5) (hb : R ≠ b) : w'.heap[R]? = some (.cells cs t fr) :=
  h R _ hR (fun e => hb (Option.some.inj e)) (fun c fz e => by injection e with _ h2 _; exact ht h2)

theorem writeByte_l (B b : Nat) (l : List UInt8) (x : UInt8) (w : World) (h : Bld w B b l) (hlen : l.length ≤ 1000000000) (hBw : B ≤ w.heap.size) :
    Calls Tryz.prog 149 #[.pointer (some ⟨b, 0, none⟩), .int .u8 (x.toNat : Int)] w fun e w' => e = .returned .nilIface ∧ Bld w' B b (l ++ [x]) ∧ Below B w w' ∧ Lib.OthersKept 5 (some b) w w' :=
  (Any.Builder_WriteByte_k lays167 builderExtra B b (Lib.byteCells l) (x.toNat : Int) w h (by rw [Lib.byteCells_length]; omega) hBw).mono fun e w' ⟨he, h1, h2, h3⟩ => by
    refine ⟨he, .inr ?_, h2, h3⟩
    rw [Lib.byteCells_append]
    exact h1
theorem writeByte_n (B b : Nat) (l : List UInt8) (v : Nat) (hv : v < 256) (w : World) (h : Bld w B b l) (hlen : l.length ≤ 1000000000) (hBw : B ≤ w.heap.size) :
    Calls Tryz.prog 149 #[.pointer (some ⟨b, 0, none⟩), .int .u8 (v : Int)] w fun e w' => e = .returned .nilIface ∧ Bld w' B b (l ++ [UInt8.ofNat v]) ∧ Below B w w' ∧ Lib.OthersKept 5 (some b) w w' := by
  have := writeByte_l B b l (UInt8.ofNat v) w h hlen hBw
  rwa [show (UInt8.ofNat v).toNat = v by simp; omega] at this
theorem writeString_l (B b : Nat) (l : List UInt8) (s : ByteArray) (w : World) (h : Bld w B b l) (hlen : l.length + s.size ≤ 1000000000) (hBw : B ≤ w.heap.size) :
    Calls Tryz.prog 147 #[.pointer (some ⟨b, 0, none⟩), .string s] w fun e w' => e = .returned (.tuple #[.int .i64 s.size, .nilIface]) ∧ Bld w' B b (l ++ s.data.toList) ∧ Below B w w' ∧ Lib.OthersKept 5 (some b) w w' :=
  (Any.Builder_WriteString_k lays166 builderExtra B b (Lib.byteCells l) s w h (by rw [Lib.byteCells_length]; omega) hBw).mono fun e w' ⟨he, h1, h2, h3⟩ => by
    refine ⟨he, .inr ?_, h2, h3⟩
    rw [Lib.byteCells_append]
    exact h1
theorem len_l (B b : Nat) (l : List UInt8) (w : World) (h : Bld w B b l) :
    Calls Tryz.prog 148 #[.pointer (some ⟨b, 0, none⟩)] w fun e w' => e = .returned (.int .i64 l.length) ∧ w = w' :=
  (Any.Builder_Len_f lays170 B b (Lib.byteCells l) w h).mono fun e w' ⟨he, hw⟩ => ⟨by rw [he, Lib.byteCells_length], hw.symm⟩
theorem string_k (B b : Nat) (l : List UInt8) (w : World) (h : Bld w B b l) (hBw : B ≤ w.heap.size) :
    Calls Tryz.prog 150 #[.pointer (some ⟨b, 0, none⟩)] w fun e w' => e = .returned (.string (bs l)) ∧ Below B w w' ∧ Lib.OthersKept 5 (some b) w w' := by
  by_cases hl : l = []
  · subst hl
    exact (Any.Builder_String_empty_k lays169 builderExtra B b w h hBw).mono fun e w' ⟨he, _, h2, h3⟩ => ⟨he, h2, h3⟩
  · exact (Any.Builder_String_k lays169 builderExtra B b l w h hl).mono fun e w' ⟨he, _, h2, h3⟩ => ⟨he, h2, h3⟩
theorem string_l (B b : Nat) (l : List UInt8) (w : World) (h : Bld w B b l) (hBw : B ≤ w.heap.size) :
    Calls Tryz.prog 150 #[.pointer (some ⟨b, 0, none⟩)] w fun e w' => e = .returned (.string (bs l)) ∧ Below B w w' := by
  by_cases hl : l = []
  · subst hl
    exact (Any.Builder_String_empty_k lays169 builderExtra B b w h hBw).mono fun e w' ⟨he, _, h2, _⟩ => ⟨he, h2⟩
  · exact (Any.Builder_String_k lays169 builderExtra B b l w h hl).mono fun e w' ⟨he, _, h2, _⟩ => ⟨he, h2⟩
end Go.Proofs.YtieekajjoikepaaGreatDoor
