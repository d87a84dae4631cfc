/-
  General facts, of no function of the program (moved here by split_gen.py).
-/
import Derived.StillTailTactics
import Derived.Deep.OwnRows
import Derived.Deep.RegionHeld3
import Derived.Deep.RegionLaw
import Derived.Deep.DrawnRows
import Derived.Deep.AppendLies
import Derived.OwnWalk
import Derived.Test.YtieekajjoikepaaGreatDoorBase
import Derived.Test.YtieekajjoikepaaGreatDoorBits
import Derived.Test.YtieekajjoikepaaGreatDoorProg
namespace Go.Proofs.YtieekajjoikepaaGreatDoor
open Go.RowKit
set_option linter.unusedVariables false

/-- Is x a word? -/
def wordB (x : Int) : Bool := decide (0 ≤ x) && decide (x ≤ 4294967295)
/-- Is each of xs a word? -/
def wordsB (xs : List Int) : Bool := xs.all wordB

theorem wordsB_snoc (xs : List Int) (k : Nat) (h : k < xs.length) : wordsB (xs.take (k + 1)) = (wordsB (xs.take k) && wordB (xs.getD k 0)) := by
  rw [List.take_succ_eq_append_getElem h, wordsB, wordsB, List.all_append]
  simp [h]
theorem wordsB_of_not (xs : List Int) (k : Nat) (h : k < xs.length) (hx : wordB (xs.getD k 0) = false) : wordsB xs = false := by
  rw [wordsB, List.all_eq_false]
  refine ⟨xs[k], List.getElem_mem h, ?_⟩
  simp [h] at hx
  simp [hx]

/-- The digits in which just one of both is 1. -/
def xorI (a b : Int) : Int := ((a.toNat ^^^ b.toNat : Nat) : Int)
/-- The digits in which both are 1. -/
def andI (a b : Int) : Int := ((a.toNat &&& b.toNat : Nat) : Int)

theorem xor_word (a b : Int) (h : wordsB [a, b] = true) : bits .xor .i64 a b = xorI a b := by
  simp [wordsB, wordB] at h
  obtain ⟨x, rfl⟩ := Int.eq_ofNat_of_zero_le h.1.1
  obtain ⟨y, rfl⟩ := Int.eq_ofNat_of_zero_le h.2.1
  have hx : x ^^^ y < 2 ^ 32 := Nat.xor_lt_two_pow (by omega) (by omega)
  show IntKind.i64.wrap ((BitVec.ofInt 64 (x : Int) ^^^ BitVec.ofInt 64 (y : Int)).toNat : Int) = _
  rw [BitVec.toNat_xor, toNat_ofInt64 x (by omega), toNat_ofInt64 y (by omega), IntKind.wrap_i64]
  simp only [xorI, Int.toNat_natCast]
  omega
theorem and_word (a b : Int) (h : wordsB [a, b] = true) : bits .and .i64 a b = andI a b := by
  simp [wordsB, wordB] at h
  obtain ⟨x, rfl⟩ := Int.eq_ofNat_of_zero_le h.1.1
  obtain ⟨y, rfl⟩ := Int.eq_ofNat_of_zero_le h.2.1
  have hx : x &&& y < 2 ^ 32 := Nat.and_lt_two_pow _ (by omega)
  show IntKind.i64.wrap ((BitVec.ofInt 64 (x : Int) &&& BitVec.ofInt 64 (y : Int)).toNat : Int) = _
  rw [BitVec.toNat_and, toNat_ofInt64 x (by omega), toNat_ofInt64 y (by omega), IntKind.wrap_i64]
  simp only [andI, Int.toNat_natCast]
  omega

theorem and_max (a : Int) (h0 : 0 ≤ a) (h1 : a ≤ 9223372036854775807) : bits .and .i64 a 4294967295 = a % 4294967296 := by
  obtain ⟨x, rfl⟩ := Int.eq_ofNat_of_zero_le h0
  have hx : x &&& 4294967295 = x % 4294967296 := Nat.and_two_pow_sub_one_eq_mod x 32
  show IntKind.i64.wrap ((BitVec.ofInt 64 (x : Int) &&& BitVec.ofInt 64 ((4294967295 : Nat) : Int)).toNat : Int) = _
  rw [BitVec.toNat_and, toNat_ofInt64 x (by omega), toNat_ofInt64 4294967295 (by omega), IntKind.wrap_i64, hx]
  omega

/-- The sum of words, as a word. -/
def addI (xs : List Int) : Int := xs.sum % 4294967296
theorem addI_snoc (xs : List Int) (k : Nat) (h : k < xs.length) : addI (xs.take (k + 1)) = (addI (xs.take k) + xs.getD k 0) % 4294967296 := by
  rw [List.take_succ_eq_append_getElem h, addI, addI, List.sum_append]
  simp [h]
theorem addI_range (xs : List Int) : 0 ≤ addI xs ∧ addI xs < 4294967296 := by unfold addI; omega
theorem wordsB_at {xs : List Int} {k : Nat} (hw : wordsB xs = true) (h : k < xs.length) : 0 ≤ xs.getD k 0 ∧ xs.getD k 0 ≤ 4294967295 := by
  rw [wordsB, List.all_eq_true] at hw
  have := hw _ (List.getElem_mem h)
  simp [wordB] at this
  simpa [h] using this

/-- x with its digits n places higher up, those that fall out coming in below. -/
def rotI (x n : Int) : Int := (((x.toNat <<< (n.toNat % 32)) % 4294967296 ||| x.toNat >>> (32 - n.toNat % 32) : Nat) : Int)

theorem rotI_range (x n : Int) (h0 : 0 ≤ x) (h1 : x ≤ 4294967295) : 0 ≤ rotI x n ∧ rotI x n ≤ 4294967295 := by
  have h2 : x.toNat >>> (32 - n.toNat % 32) < 4294967296 := by
    have := Nat.shiftRight_le x.toNat (32 - n.toNat % 32)
    omega
  have h3 : (x.toNat <<< (n.toNat % 32)) % 4294967296 ||| x.toNat >>> (32 - n.toNat % 32) < 2 ^ 32 := Nat.or_lt_two_pow (by omega) (by omega)
  unfold rotI
  omega
theorem and_31 (n : Nat) (h : n < 4294967296) : bits .and .u64 (n : Int) 31 = ((n % 32 : Nat) : Int) := by
  have hx : n &&& 31 = n % 32 := Nat.and_two_pow_sub_one_eq_mod n 5
  show IntKind.u64.wrap ((BitVec.ofInt 64 (n : Int) &&& BitVec.ofInt 64 ((31 : Nat) : Int)).toNat : Int) = _
  rw [BitVec.toNat_and, toNat_ofInt64 n (by omega), toNat_ofInt64 31 (by omega), IntKind.wrap_u64, hx]
  omega
theorem or_u32 (a b : Nat) (ha : a < 4294967296) (hb : b < 4294967296) : bits .or .u32 (a : Int) (b : Int) = ((a ||| b : Nat) : Int) := by
  have hx : a ||| b < 2 ^ 32 := Nat.or_lt_two_pow (by omega) (by omega)
  show IntKind.u32.wrap ((BitVec.ofInt 32 (a : Int) ||| BitVec.ofInt 32 (b : Int)).toNat : Int) = _
  rw [BitVec.toNat_or, toNat_ofInt32 a ha, toNat_ofInt32 b hb, IntKind.wrap_u32]
  omega
theorem shl_u32 (x s : Nat) (hs : s < 32) : IntKind.u32.wrap ((x : Int) * 2 ^ min (s : Int).toNat IntKind.u32.bits) = (((x <<< s) % 4294967296 : Nat) : Int) := by
  rw [IntKind.wrap_u32, Int.toNat_natCast, Nat.min_eq_left (by show s ≤ 32; omega), Nat.shiftLeft_eq]
  simp
theorem shr_u32 (x s : Nat) (hs : s ≤ 32) : (x : Int) / 2 ^ min (s : Int).toNat IntKind.u32.bits = ((x >>> s : Nat) : Int) := by
  rw [Int.toNat_natCast, Nat.min_eq_left (by show s ≤ 32; omega), Nat.shiftRight_eq_div_pow]
  simp

/-- how many digits are below the byte i of a word -/
def placeI (high : Bool) (i : Nat) : Nat := if high then 24 - 8 * i else 8 * i

/-- What is in word j once i bytes are laid down. -/
def cutAcc (s : List UInt8) (high : Bool) : Nat → Nat → Nat
  | 0, _ => 0
  | i + 1, j => if i / 4 = j then cutAcc s high i j ||| ((s.getD i 0).toNat <<< placeI high (i % 4)) else cutAcc s high i j

theorem placeI_le (high : Bool) (i : Nat) (h : i < 4) : placeI high i ≤ 24 := by unfold placeI; split <;> omega
theorem shl_byte_lt (x : UInt8) (p : Nat) (h : p ≤ 24) : x.toNat <<< p < 4294967296 := by
  have h2 : x.toNat < 2 ^ 8 := x.toNat_lt
  rw [Nat.shiftLeft_eq]
  have h3 : x.toNat * 2 ^ p < 2 ^ 8 * 2 ^ p := Nat.mul_lt_mul_of_pos_right h2 (Nat.two_pow_pos _)
  have h4 : 2 ^ 8 * 2 ^ p ≤ 2 ^ 8 * 2 ^ 24 := Nat.mul_le_mul_left _ (Nat.pow_le_pow_right (by omega) h)
  omega
theorem cutAcc_lt (s : List UInt8) (high : Bool) (i j : Nat) : cutAcc s high i j < 4294967296 := by
  induction i with
  | zero => simp [cutAcc]
  | succ i ih =>
    unfold cutAcc
    split
    · exact Nat.or_lt_two_pow (n := 32) ih (shl_byte_lt _ _ (placeI_le _ _ (by omega)))
    · exact ih

def CutPost (s : List UInt8) (high : Bool) (w : World) (e : Ending) (w' : World) : Prop :=
  ∃ g, e = .returned (.tuple #[.slice (some ⟨g, 0, none⟩) (s.length / 4) (s.length / 4), .bool true]) ∧ w.heap.size ≤ g ∧ w'.rowIs g 3 (s.length / 4) (fun j => .int .i64 (cutAcc s high s.length j : Nat)) ∧ Below w.heap.size w w'

theorem int_info : (Tryz.prog.info? 3).map (fun i => (i.zero, i.size, i.bytes)) = some (some (.int .i64 0), 1, 8) := by kernel_rfl

theorem shl_i64 (x : UInt8) (p : Nat) (h : p ≤ 24) : IntKind.i64.wrap ((x.toNat : Int) * 2 ^ min p 64) = ((x.toNat <<< p : Nat) : Int) := by
  have h2 := shl_byte_lt x p h
  rw [Nat.min_eq_left (by omega), Nat.shiftLeft_eq] at *
  rw [IntWalk.i64_in _ (by
    have e : (x.toNat : Int) * 2 ^ p = ((x.toNat * 2 ^ p : Nat) : Int) := by simp
    rw [e]; omega)]
  simp

/-- Byte i of the words xs. -/
def joinB (xs : List Int) (high : Bool) (i : Nat) : Nat := ((xs.getD (i / 4) 0).toNat >>> placeI high (i % 4)) % 256
/-- The bytes of the words xs. -/
def joinL (xs : List Int) (high : Bool) : List UInt8 := (List.range (4 * xs.length)).map fun i => UInt8.ofNat (joinB xs high i)
theorem joinL_length (xs : List Int) (high : Bool) : (joinL xs high).length = 4 * xs.length := by simp [joinL]

theorem byte_info : (Tryz.prog.info? 5).map (fun i => (i.zero, i.size, i.bytes)) = some (some (.int .u8 0), 1, 1) := by kernel_rfl

theorem shr_byte (x p : Nat) (h : p ≤ 24) : IntKind.u8.wrap ((x : Int) / 2 ^ min p 64) = ((x >>> p % 256 : Nat) : Int) := by
  rw [Nat.min_eq_left (by omega), Nat.shiftRight_eq_div_pow, IntKind.wrap_u8]
  simp

theorem row_bytes {w : World} {g n : Nat} {t : TypeId} {l : List UInt8} (h : w.rowIs g t n (fun j => .int .u8 ((l.getD j 0).toNat : Nat))) (hn : n = l.length) :
    ∀ j (hj : j < l.length), w.cell? ((⟨g, 0, none⟩ : Addr).add j) = some (.int .u8 (l[j].toNat : Int)) := by
  intro j hj
  have e : (⟨g, 0, none⟩ : Addr).add j = ⟨g, j, none⟩ := by
    unfold Addr.add
    split
    · rename_i h; rw [h]
    · simp
  rw [e, h.cell (by omega)]
  simp [hj]

theorem wordsB1 {a : Int} : wordsB [a] = true ↔ (0 ≤ a ∧ a ≤ 4294967295) := by simp [wordsB, wordB]
theorem wordsB2 {a b : Int} : wordsB [a, b] = true ↔ (0 ≤ a ∧ a ≤ 4294967295) ∧ (0 ≤ b ∧ b ≤ 4294967295) := by simp [wordsB, wordB]
theorem xorI_range {a b : Int} (ha : 0 ≤ a ∧ a ≤ 4294967295) (hb : 0 ≤ b ∧ b ≤ 4294967295) : 0 ≤ xorI a b ∧ xorI a b ≤ 4294967295 := by
  have : a.toNat ^^^ b.toNat < 2 ^ 32 := Nat.xor_lt_two_pow (by omega) (by omega)
  unfold xorI
  omega
/-- x is a word -/
def Wd (x : Int) : Prop := 0 ≤ x ∧ x ≤ 4294967295
theorem wd_add (xs : List Int) : Wd (addI xs) := by have := addI_range xs; exact ⟨this.1, by omega⟩

theorem res5 {fn : Func} {t u v x y : Tmp} (h : fn.results = #[.tmp t, .tmp u, .tmp v, .tmp x, .tmp y]) (tmps : Array Value) (P : Program) (w : World) :
    (results fn tmps).run P w = .ok (.tuple #[tmps.getD t undef, tmps.getD u undef, tmps.getD v undef, tmps.getD x undef, tmps.getD y undef]) w := by simp [results, h]


/-- The words of a text of n words, the lowest byte first. -/
def cutL (s : List UInt8) (high : Bool) (n : Nat) : List Int := (List.range n).map fun j => ((cutAcc s high s.length j : Nat) : Int)

theorem keep_two {w w1 : World} {o o2 : Obj} (h : Below ((w.alloc o).alloc o2).heap.size ((w.alloc o).alloc o2) w1) : w1.heap[w.heap.size]? = some o :=
  (h.block w.heap.size (by simp; omega)).trans ((Below.heap_alloc _ _ _ (by simp)).trans (heap_alloc_new w o))
theorem below_two {w w1 : World} {o o2 : Obj} (h : Below ((w.alloc o).alloc o2).heap.size ((w.alloc o).alloc o2) w1) : Below w.heap.size w w1 :=
  Below.chain_alloc ((Below.refl _ _).alloc (Nat.le_refl _) _) h

theorem cell_lt_of {w : World} {t : Nat} {o : Obj} (h : w.heap[t]? = some o) : t < w.heap.size := by
  rcases Nat.lt_or_ge t w.heap.size with hlt | hge
  · exact hlt
  · rw [Array.getElem?_eq_none hge] at h; cases h
theorem keep_one {w w1 : World} {o : Obj} (h : Below (w.alloc o).heap.size (w.alloc o) w1) : w1.heap[w.heap.size]? = some o :=
  (h.block w.heap.size (by simp)).trans (heap_alloc_new w o)

theorem grownBy_below' {w w' : World} {t B : Nat} (h : w.grownBy w' (some t)) (hB : B ≤ t) (hB2 : B ≤ w.heap.size) : Below B w w' :=
  ⟨h.os, h.tape, h.output, h.size, fun i hi => h.block i (by omega) (fun e => by injection e with e; omega)⟩
/-- The words that Cut laid, as a row that is read. -/
theorem rd_cut {w : World} {g n : Nat} {s : List UInt8} {high : Bool} {t : TypeId} {m : Nat} (h : w.rowIs g t n (fun j => .int .i64 (cutAcc s high m j : Nat))) (hm : m = s.length) :
    ∀ j v, (ints (cutL s high n))[j]? = some v → w.cell? ((⟨g, 0, none⟩ : Addr).add j) = some v := by
  subst hm
  intro j v hv
  have hj : j < n := by
    rcases Nat.lt_or_ge j n with h | h
    · exact h
    · simp [ints, cutL, h] at hv
  have e : (⟨g, 0, none⟩ : Addr).add j = ⟨g, j, none⟩ := by
    unfold Addr.add
    split
    · rename_i h; rw [h]
    · simp
  rw [e, h.cell hj]
  simpa [ints, cutL, hj] using hv
/-- Words copied into the middle of a block. -/
theorem copy_in {w : World} {S g : Nat} (o dCap : Nat) (cur : Array Value) {t : TypeId} {n : Nat} (xs : List Int) (hS : w.heap[S]? = some (.cells cur t (0, 0))) (hsrc : ∀ j v, (ints xs)[j]? = some v → w.cell? ((⟨g, 0, none⟩ : Addr).add j) = some v)
    (hfit : o + xs.length ≤ cur.size) (hn : n = xs.length) :
    ∃ w', (Builtin.copy_ #[71, 71] 3 #[.slice (some ⟨S, o, none⟩) n dCap, .slice (some ⟨g, 0, none⟩) n n]).run Tryz.prog w = .ok (.int .i64 n) w' ∧
      w'.heap[S]? = some (.cells (cur.toList.take o ++ ints xs ++ cur.toList.drop (o + xs.length)).toArray t (0, 0)) ∧ w.grownBy w' (some S) := by
  subst hn
  have hl : (ints xs).length = xs.length := by simp [ints]
  have h := run_copy_row (P := Tryz.prog) w 71 71 3 3 S o xs.length dCap ⟨g, 0, none⟩ xs.length xs.length cur t (ints xs) Tryz.underlying71 (by kernel_rfl) hS (by rw [hl]; exact (Nat.min_self _).symm) hsrc (by rw [hl]; exact hfit) (by
    intro v hv
    obtain ⟨x, _, rfl⟩ := List.mem_map.1 hv
    rfl)
  rw [hl] at h
  refine ⟨_, h, setRow_heap w S cur _ t (0, 0) hS, ⟨rfl, rfl, rfl, by simp, fun i hi hne => setRow_other w S i _ (fun e => hne (by rw [e]))⟩⟩

theorem blk_set {w : World} {g : Nat} {t : TypeId} {cs : Array Value} (h : w.heap[g]? = some (.cells cs t (0, 0))) (i : Nat) (u : Value) : (w.setCell ⟨g, i, none⟩ u).heap[g]? = some (.cells (cs.setIfInBounds i u) t (0, 0)) := by
  simp [World.setCell, Array.getElem?_modify, h]


theorem there_blk {w : World} {g n : Nat} {t : TypeId} {cs : Array Value} (h : w.heap[g]? = some (.cells cs t (0, 0))) (hn : n ≤ cs.size) : w.there g 0 n := by
  intro j hj
  have e : (0 : Nat) + j = j := Nat.zero_add j
  refine ⟨?_, ?_⟩
  · unfold World.cell?
    simp only [h, e]
    have : cs[j]? = some cs[j] := Array.getElem?_eq_getElem (by omega)
    simp [this]
  · unfold World.frozen?
    simp only [h]
    simp
theorem res_cell_tmp {P : Program} {fn : Func} {a t : Tmp} {ty : TypeId} (h : fn.results = #[.cell a ty, .tmp t]) (tmps : Array Value) (w : World) (g : Nat) (ha : tmps.getD a undef = .pointer (some ⟨g, 0, none⟩)) (v : Value)
    (hl : (loadVar ty ⟨g, 0, none⟩).run P w = .ok v w) : (results fn tmps).run P w = .ok (.tuple #[v, tmps.getD t undef]) w := by
  have ha' : tmps[a]?.getD undef = .pointer (some ⟨g, 0, none⟩) := by simpa using ha
  simp [results, h, asAddr, ha', hl]
theorem below_setCells {B b : Nat} {w0 : World} (hb : B ≤ b) : ∀ (vs : List Value) (o : Nat) (w : World), Below B w0 w → Below B w0 (w.setCells b o vs)
  | [], _, _, h => h
  | v :: r, o, w, h => by
    rw [World.setCells]
    exact below_setCells hb r _ _ (h.setCell (p := ⟨b, o, none⟩) hb v)
theorem setCells_size (b : Nat) : ∀ (vs : List Value) (o : Nat) (w : World), (w.setCells b o vs).heap.size = w.heap.size
  | [], _, _ => rfl
  | v :: r, o, w => by
    rw [World.setCells, setCells_size b r]
    simp [World.setCell]
theorem setCells_other (b k : Nat) (hk : k ≠ b) : ∀ (vs : List Value) (o : Nat) (w : World), (w.setCells b o vs).heap[k]? = w.heap[k]?
  | [], _, _ => rfl
  | v :: r, o, w => by
    rw [World.setCells, setCells_other b k hk r]
    exact Below.heap_setCell _ _ _ _ hk
theorem setCells_os (b : Nat) : ∀ (vs : List Value) (o : Nat) (w : World), (w.setCells b o vs).os = w.os ∧ (w.setCells b o vs).tape = w.tape ∧ (w.setCells b o vs).output = w.output
  | [], _, _ => ⟨rfl, rfl, rfl⟩
  | v :: r, o, w => by
    rw [World.setCells]
    exact setCells_os b r _ _
theorem setCells_block (b : Nat) (t : TypeId) (fr : Nat × Nat) : ∀ (vs : List Value) (o : Nat) (w : World) (cs : Array Value), w.heap[b]? = some (.cells cs t fr) → o + vs.length ≤ cs.size →
    ∃ ds : Array Value, (w.setCells b o vs).heap[b]? = some (.cells ds t fr) ∧ ds.size = cs.size ∧ ∀ i, ds[i]? = if o ≤ i ∧ i < o + vs.length then vs[i - o]? else cs[i]?
  | [], o, w, cs, h, _ => ⟨cs, h, rfl, fun i => by rw [if_neg (by simp only [List.length_nil]; omega)]⟩
  | v :: r, o, w, cs, h, hl => by
    simp only [List.length_cons] at hl
    rw [World.setCells]
    have h1 : (w.setCell ⟨b, o, none⟩ v).heap[b]? = some (.cells (cs.setIfInBounds o v) t fr) := by
      simp [World.setCell, Array.getElem?_modify, h]
    obtain ⟨ds, hd, hs, hi⟩ := setCells_block b t fr r (o + 1) _ _ h1 (by simp; omega)
    refine ⟨ds, hd, by simpa using hs, fun i => ?_⟩
    rw [hi i, Array.getElem?_setIfInBounds]
    by_cases e : o = i
    · subst e
      rw [if_neg (by omega), if_pos rfl, if_pos (by omega), if_pos (by simp)]
      simp
    · by_cases e2 : o ≤ i ∧ i < o + (v :: r).length
      · simp only [List.length_cons] at e2
        rw [if_pos (by omega), if_pos (by simp; omega), show i - o = (i - (o + 1)) + 1 by omega]
        simp
      · simp only [List.length_cons] at e2
        rw [if_neg (by omega), if_neg e, if_neg (by simp; omega)]

theorem wpList_store_whole {P : Program} {ops : Array Oper} {rest : List Oper} {op : Oper} {a : Act} {w : World} {Q : Exit → Act → World → Prop} (hgd : op.guard = none) (ty : TypeId) (x y : Operand) (ho : op.op = .store ty x y)
    (g : Nat) (arr : Array Value) (hx : a.eval x = .pointer (some ⟨g, 0, none⟩)) (hy : a.eval y = .agg arr) (cs : Array Value) (t : TypeId) (hg : w.heap[g]? = some (.cells cs t (0, 0))) (hsz : arr.size = cs.size)
    (hi : (P.info? ty).map (·.size) = some arr.size) (h1 : arr.all (·.oneCell') = true)
    (h : ∀ w', w'.heap[g]? = some (.cells arr t (0, 0)) → w.grownBy w' (some g) → wpList P ops Q rest (a.put op.dst undef) w') : wpList P ops Q (op :: rest) a w := by
  refine wpList_store_mid hgd ty x y ho g 0 arr hx hy (there_blk hg (Nat.le_of_eq hsz)) hi h1 (h _ ?_ ?_)
  · obtain ⟨ds, hd, hs, he⟩ := setCells_block g t (0, 0) arr.toList 0 w cs hg (by simp [hsz])
    have : ds = arr := by
      apply Array.ext_getElem?
      intro i
      rw [he i]
      by_cases hlt : i < arr.size
      · rw [if_pos (by simp; omega)]
        simp
      · rw [if_neg (by simp; omega), Array.getElem?_eq_none (by omega), Array.getElem?_eq_none (by omega)]
    rw [hd, this]
  · obtain ⟨e1, e2, e3⟩ := setCells_os g arr.toList 0 w
    exact ⟨e1, e2, e3, Nat.le_of_eq (setCells_size g _ _ _).symm, fun i hi hne => setCells_other g i (fun e => hne (by rw [e])) _ _ _⟩

theorem ints_one (xs : List Int) : (ints xs).toArray.all (·.oneCell') = true := by
  rw [Array.all_eq_true']
  intro v hv
  obtain ⟨x, _, rfl⟩ := List.mem_map.1 (by simpa [ints] using hv : v ∈ ints xs)
  rfl
theorem ints_size (xs : List Int) : (ints xs).toArray.size = xs.length := by simp [ints]
/-- A block of ints: its cells. -/
theorem ints_cell {w : World} {g : Nat} {t : TypeId} {xs : List Int} (h : w.heap[g]? = some (.cells (ints xs).toArray t (0, 0))) {i : Nat} (hi : i < xs.length) :
    w.cell? ⟨g, i, none⟩ = some (.int .i64 (xs.getD i 0)) ∧ w.frozen? ⟨g, i, none⟩ = false := by
  refine ⟨?_, ?_⟩
  · unfold World.cell?
    simp only [h]
    simp [ints, hi]
  · unfold World.frozen?
    simp only [h]
    simp
theorem ints_set {w : World} {g : Nat} {t : TypeId} {xs : List Int} (h : w.heap[g]? = some (.cells (ints xs).toArray t (0, 0))) (i : Nat) (x : Int) :
    (w.setCell ⟨g, i, none⟩ (.int .i64 x)).heap[g]? = some (.cells (ints (xs.set i x)).toArray t (0, 0)) := by
  rw [blk_set h]
  simp [ints]
def mixA (a b : Int) : Int := addI [a, b]
def mixC (a b c n : Int) : Int := rotI (xorI c (addI [a, b])) n

theorem wd_mixA (a b : Int) : Wd (mixA a b) := wd_add _
theorem wd_mixC {a b c : Int} (n : Int) (hc : Wd c) : Wd (mixC a b c n) := rotI_range _ _ (xorI_range hc (wd_add _)).1 (xorI_range hc (wd_add _)).2

/-- Four words, turned. -/
def turnI (a b c d : Int) : Int × Int × Int × Int :=
  let a1 := mixA a b; let d1 := mixC a b d 16; let c1 := mixA c d1; let b1 := mixC c d1 b 12
  let a2 := mixA a1 b1; let d2 := mixC a1 b1 d1 8; let c2 := mixA c1 d2; let b2 := mixC c1 d2 b1 7
  (a2, b2, c2, d2)

/-- The state of a key, a nonce and a counter. -/
def firstL (key nonce : List UInt8) (n : Int) : List Int := [1634760805, 857760878, 2036477234, 1797285236] ++ cutL key false 8 ++ [n] ++ cutL nonce false 3

def zeros16 : Array Value := #[.int .i64 0, .int .i64 0, .int .i64 0, .int .i64 0, .int .i64 0, .int .i64 0, .int .i64 0, .int .i64 0, .int .i64 0, .int .i64 0, .int .i64 0, .int .i64 0, .int .i64 0, .int .i64 0, .int .i64 0, .int .i64 0]

/-- Which words are turned, one behind the other. -/
def turnsT : List (Nat × Nat × Nat × Nat) := [(0, 4, 8, 12), (1, 5, 9, 13), (2, 6, 10, 14), (3, 7, 11, 15), (0, 5, 10, 15), (1, 6, 11, 12), (2, 7, 8, 13), (3, 4, 9, 14)]
def turnV (p : Nat × Nat × Nat × Nat) : List Value := [.int .i64 (p.1 : Nat), .int .i64 (p.2.1 : Nat), .int .i64 (p.2.2.1 : Nat), .int .i64 (p.2.2.2 : Nat)]
/-- The table as it lies in memory. -/
def turnsL : List Value := turnsT.flatMap turnV
/-- One turn of four words of a state. -/
def turnAt (st : List Int) (p : Nat × Nat × Nat × Nat) : List Int :=
  let t := turnI (st.getD p.1 0) (st.getD p.2.1 0) (st.getD p.2.2.1 0) (st.getD p.2.2.2 0)
  (((st.set p.1 t.1).set p.2.1 t.2.1).set p.2.2.1 t.2.2.1).set p.2.2.2 t.2.2.2

def pOk (p : Nat × Nat × Nat × Nat) : Bool := decide (p.1 < 16) && decide (p.2.1 < 16) && decide (p.2.2.1 < 16) && decide (p.2.2.2 < 16) && decide (p.1 ≠ p.2.1) && decide (p.1 ≠ p.2.2.1) && decide (p.1 ≠ p.2.2.2) && decide (p.2.1 ≠ p.2.2.1) && decide (p.2.1 ≠ p.2.2.2) && decide (p.2.2.1 ≠ p.2.2.2)

def turnsTo (st : List Int) (j : Nat) : List Int := (turnsT.take j).foldl turnAt st
def roundsTo (st : List Int) : Nat → List Int
  | 0 => st
  | i + 1 => turnsTo (roundsTo st i) 8

theorem turnAt_len (st : List Int) (p : Nat × Nat × Nat × Nat) : (turnAt st p).length = st.length := by simp [turnAt]
theorem wd_turn {a b c d : Int} (ha : Wd a) (hb : Wd b) (hc : Wd c) (hd : Wd d) : Wd (turnI a b c d).1 ∧ Wd (turnI a b c d).2.1 ∧ Wd (turnI a b c d).2.2.1 ∧ Wd (turnI a b c d).2.2.2 :=
  ⟨wd_mixA _ _, wd_mixC _ (wd_mixC _ hb), wd_mixA _ _, wd_mixC _ (wd_mixC _ hd)⟩
theorem wd_getD {st : List Int} (h : ∀ x ∈ st, Wd x) (i : Nat) : Wd (st.getD i 0) := by
  by_cases hi : i < st.length
  · have : st.getD i 0 = st[i] := by simp [hi]
    rw [this]
    exact h _ (List.getElem_mem hi)
  · have : st.getD i 0 = 0 := by simp [Nat.not_lt.1 hi]
    rw [this]
    exact ⟨by omega, by omega⟩
theorem wd_set {st : List Int} (h : ∀ x ∈ st, Wd x) (i : Nat) {y : Int} (hy : Wd y) : ∀ x ∈ st.set i y, Wd x := by
  intro x hx
  rcases List.mem_or_eq_of_mem_set hx with h1 | h1
  · exact h x h1
  · exact h1 ▸ hy
theorem turnAt_wd {st : List Int} (h : ∀ x ∈ st, Wd x) (p : Nat × Nat × Nat × Nat) : ∀ x ∈ turnAt st p, Wd x := by
  obtain ⟨h1, h2, h3, h4⟩ := wd_turn (wd_getD h p.1) (wd_getD h p.2.1) (wd_getD h p.2.2.1) (wd_getD h p.2.2.2)
  exact wd_set (wd_set (wd_set (wd_set h _ h1) _ h2) _ h3) _ h4
def Words16 (st : List Int) : Prop := st.length = 16 ∧ ∀ x ∈ st, Wd x
theorem turns_words : ∀ (l : List (Nat × Nat × Nat × Nat)) {st : List Int}, Words16 st → Words16 (l.foldl turnAt st)
  | [], _, h => h
  | p :: l, st, h => turns_words l ⟨(turnAt_len st p).trans h.1, turnAt_wd h.2 p⟩
theorem turnsTo_succ (st : List Int) {j : Nat} {p : Nat × Nat × Nat × Nat} (h : turnsT[j]? = some p) : turnsTo st (j + 1) = turnAt (turnsTo st j) p := by
  have hj : j < turnsT.length := (List.getElem?_eq_some_iff.1 h).1
  have e : turnsT[j] = p := (List.getElem?_eq_some_iff.1 h).2
  rw [turnsTo, List.take_succ_eq_append_getElem hj, List.foldl_append, e]
  rfl
theorem rounds_words {st : List Int} (h : Words16 st) : ∀ i, Words16 (roundsTo st i)
  | 0 => h
  | i + 1 => turns_words _ (rounds_words h i)
theorem cutL_wd (s : List UInt8) (high : Bool) (n : Nat) : ∀ x ∈ cutL s high n, Wd x := by
  intro x hx
  obtain ⟨j, _, rfl⟩ := List.mem_map.1 hx
  have := cutAcc_lt s high s.length j
  exact ⟨by omega, by omega⟩
theorem first_words (key nonce : List UInt8) (n : Int) (hn : Wd n) : Words16 (firstL key nonce n) := by
  refine ⟨by simp [firstL, cutL], fun x hx => ?_⟩
  simp only [firstL, List.mem_append, List.mem_cons, List.not_mem_nil, or_false] at hx
  rcases hx with ((h | h) | h) | h
  · rcases h with h | h | h | h <;> subst h <;> exact ⟨by omega, by omega⟩
  · exact cutL_wd _ _ _ x h
  · exact h ▸ hn
  · exact cutL_wd _ _ _ x h

/-- The sums of two states, the first i of them done. -/
def sumsTo (fin st : List Int) (i : Nat) : List Int := (List.range 16).map fun j => if j < i then addI [fin.getD j 0, st.getD j 0] else fin.getD j 0
theorem sumsTo_len (fin st : List Int) (i : Nat) : (sumsTo fin st i).length = 16 := by simp [sumsTo]
theorem sumsTo_zero (fin st : List Int) (h : fin.length = 16) : sumsTo fin st 0 = fin := by
  apply List.ext_getElem
  · simp [sumsTo, h]
  · intro j h1 h2
    simp [sumsTo, h2]
theorem sumsTo_at (fin st : List Int) (i : Nat) (h : i < 16) : (sumsTo fin st i).getD i 0 = fin.getD i 0 := by
  simp [sumsTo, h]
theorem sumsTo_set (fin st : List Int) (i : Nat) (h : i < 16) : (sumsTo fin st i).set i (addI [fin.getD i 0, st.getD i 0]) = sumsTo fin st (i + 1) := by
  apply List.ext_getElem
  · simp [sumsTo]
  · intro j h1 h2
    rw [List.getElem_set]
    simp only [sumsTo, List.getElem_map, List.getElem_range]
    by_cases e : i = j
    · subst e
      rw [if_pos rfl, if_pos (by omega)]
    · rw [if_neg e]
      by_cases e2 : j < i
      · rw [if_pos e2, if_pos (by omega)]
      · rw [if_neg e2, if_neg (by omega)]

/-- The bytes of a key, a nonce and a counter. -/
def blockL (key nonce : List UInt8) (n : Int) : List UInt8 := joinL (sumsTo (roundsTo (firstL key nonce n) 10) (firstL key nonce n) 16) false

/-- The digits in which an odd number of words have 1. -/
def xorL (xs : List Int) : Int := xs.foldl xorI 0
theorem wd_xor {a b : Int} (ha : Wd a) (hb : Wd b) : Wd (xorI a b) := xorI_range ha hb
theorem wd_and {a b : Int} (ha : Wd a) (hb : Wd b) : Wd (andI a b) := by
  have h1 := ha.1; have h2 := ha.2
  have : a.toNat &&& b.toNat ≤ a.toNat := Nat.and_le_left
  unfold andI Wd
  omega
theorem wd_rot {x : Int} (n : Int) (hx : Wd x) : Wd (rotI x n) := rotI_range _ _ hx.1 hx.2
theorem wd_zero : Wd 0 := ⟨by omega, by omega⟩
theorem wd_xors : ∀ (xs : List Int) (a : Int), Wd a → (∀ x ∈ xs, Wd x) → Wd (xs.foldl xorI a)
  | [], _, ha, _ => ha
  | x :: xs, a, ha, h => wd_xors xs _ (wd_xor ha (h x (by simp))) fun y hy => h y (by simp [hy])
theorem wd_xorL {xs : List Int} (h : ∀ x ∈ xs, Wd x) : Wd (xorL xs) := wd_xors xs 0 wd_zero h
theorem wd_all {xs : List Int} (h : wordsB xs = true) : ∀ x ∈ xs, Wd x := by
  intro x hx
  have := List.all_eq_true.1 h x hx
  simpa [wordB, Wd] using this
theorem all_wd {xs : List Int} (h : ∀ x ∈ xs, Wd x) : wordsB xs = true := by
  rw [wordsB, List.all_eq_true]
  intro x hx
  have := h x hx
  unfold Wd at this
  simp [wordB, this]
theorem wd3 {a b c : Int} (ha : Wd a) (hb : Wd b) (hc : Wd c) : wordsB [a, b, c] = true := all_wd (by simp; exact ⟨ha, hb, hc⟩)
theorem wd4 {a b c d : Int} (ha : Wd a) (hb : Wd b) (hc : Wd c) (hd : Wd d) : wordsB [a, b, c, d] = true := all_wd (by simp; exact ⟨ha, hb, hc, hd⟩)
theorem wd5 {a b c d e : Int} (ha : Wd a) (hb : Wd b) (hc : Wd c) (hd : Wd d) (he : Wd e) : wordsB [a, b, c, d, e] = true := all_wd (by simp; exact ⟨ha, hb, hc, hd, he⟩)

/-- x without its n lowest digits -/
def fallI (x n : Int) : Int := x / 2 ^ n.toNat
theorem wd_fall {x : Int} (n : Int) (hx : Wd x) : Wd (fallI x n) := by
  obtain ⟨h0, h1⟩ := hx
  obtain ⟨y, rfl⟩ := Int.eq_ofNat_of_zero_le h0
  have e : fallI (y : Int) n = ((y / 2 ^ n.toNat : Nat) : Int) := by simp [fallI]
  have : y / 2 ^ n.toNat ≤ y := Nat.div_le_self _ _
  rw [e]
  exact ⟨Int.natCast_nonneg _, by omega⟩
def s0I (p : Int) : Int := xorL [rotI p 25, rotI p 14, fallI p 3]
def s1I (q : Int) : Int := xorL [rotI q 15, rotI q 13, fallI q 10]
def wNext (l : List Int) (i : Nat) : Int := addI [l.getD (i - 16) 0, s0I (l.getD (i - 15) 0), l.getD (i - 7) 0, s1I (l.getD (i - 2) 0)]
/-- The 64 words, k of them made. -/
def wTo (l : List Int) : Nat → List Int
  | 0 => l ++ List.replicate 48 0
  | k + 1 => (wTo l k).set (16 + k) (wNext (wTo l k) (16 + k))
theorem wTo_len (l : List Int) (h : l.length = 16) : ∀ k, (wTo l k).length = 64
  | 0 => by simp [wTo, h]
  | k + 1 => by simp [wTo, wTo_len l h k]
theorem wd_get {st : List Int} (h : ∀ x ∈ st, Wd x) (i : Nat) : Wd (st.getD i 0) := by
  by_cases hi : i < st.length
  · have : st.getD i 0 = st[i] := by simp [hi]
    rw [this]
    exact h _ (List.getElem_mem hi)
  · have : st.getD i 0 = 0 := by simp [Nat.not_lt.1 hi]
    rw [this]
    exact wd_zero
theorem wd_s0 {p : Int} (h : Wd p) : Wd (s0I p) := wd_xorL (by simp; exact ⟨wd_rot _ h, wd_rot _ h, wd_fall _ h⟩)
theorem wd_s1 {p : Int} (h : Wd p) : Wd (s1I p) := wd_xorL (by simp; exact ⟨wd_rot _ h, wd_rot _ h, wd_fall _ h⟩)
theorem wTo_wd (l : List Int) (h : ∀ x ∈ l, Wd x) : ∀ k, ∀ x ∈ wTo l k, Wd x
  | 0, x, hx => by
    rcases List.mem_append.1 hx with h1 | h1
    · exact h x h1
    · rw [(List.mem_replicate.1 h1).2]; exact wd_zero
  | k + 1, x, hx => by
    rcases List.mem_or_eq_of_mem_set hx with h1 | h1
    · exact wTo_wd l h k x h1
    · rw [h1]; exact wd_add _
theorem cutL_words (s : List UInt8) (high : Bool) (n : Nat) : ∀ x ∈ cutL s high n, Wd x := by
  intro x hx
  obtain ⟨j, _, rfl⟩ := List.mem_map.1 hx
  have := cutAcc_lt s high s.length j
  exact ⟨by omega, by omega⟩

theorem cells_below {W w' : World} {g : Nat} {o : Obj} (h : W.heap[g]? = some o) (hb : Below W.heap.size W w') : w'.heap[g]? = some o := (hb.block g (cell_lt_of h)).trans h
theorem keep2_below {W w' : World} {p q : Addr} {u v : Value} (h : W.cell? p = some u ∧ W.cell? q = some v) (hb : Below W.heap.size W w') : w'.cell? p = some u ∧ w'.cell? q = some v :=
  ⟨(hb.cell (cell_lt h.1)).trans h.1, (hb.cell (cell_lt h.2)).trans h.2⟩
theorem keep2_alloc {W : World} {o : Obj} {p q : Addr} {u v : Value} (h : W.cell? p = some u ∧ W.cell? q = some v) : (W.alloc o).cell? p = some u ∧ (W.alloc o).cell? q = some v :=
  keep2_below h ((Below.refl _ _).alloc (Nat.le_refl _) _)
theorem keep2_set {W : World} {r p q : Addr} {x u v : Value} (h : W.cell? p = some u ∧ W.cell? q = some v) (hp : r ≠ p) (hq : r ≠ q) : (W.setCell r x).cell? p = some u ∧ (W.setCell r x).cell? q = some v :=
  ⟨(World.cell?_setCell_other _ _ _ _ hp).trans h.1, (World.cell?_setCell_other _ _ _ _ hq).trans h.2⟩
theorem hblk_below {W w' : World} {g : Nat} {o : Obj} (h : Hid (W.heap[g]? = some o)) (hb : Below W.heap.size W w') : Hid (w'.heap[g]? = some o) := Lib.hid (cells_below h.out hb)
theorem hblk_alloc {W w' : World} {g : Nat} {o o2 : Obj} (h : Hid (W.heap[g]? = some o)) (hb : Below (W.alloc o2).heap.size (W.alloc o2) w') : Hid (w'.heap[g]? = some o) :=
  hblk_below (Lib.hid ((Below.heap_alloc _ _ _ (cell_lt_of h.out)).trans h.out)) hb

/-- Words copied to the beginning of a block, of which there are fewer. -/
theorem copy_first {w : World} {S g : Nat} (dLen dCap : Nat) (cur : Array Value) {t : TypeId} {n : Nat} (xs : List Int) (hS : w.heap[S]? = some (.cells cur t (0, 0))) (hsrc : ∀ j v, (ints xs)[j]? = some v → w.cell? ((⟨g, 0, none⟩ : Addr).add j) = some v)
    (hfit : xs.length ≤ cur.size) (hn : n = xs.length) (hd : n ≤ dLen) :
    ∃ w', (Builtin.copy_ #[71, 71] 3 #[.slice (some ⟨S, 0, none⟩) dLen dCap, .slice (some ⟨g, 0, none⟩) n n]).run Tryz.prog w = .ok (.int .i64 n) w' ∧
      w'.heap[S]? = some (.cells (ints xs ++ cur.toList.drop xs.length).toArray t (0, 0)) ∧ w.grownBy w' (some S) := by
  subst hn
  have hl : (ints xs).length = xs.length := by simp [ints]
  have h := run_copy_row (P := Tryz.prog) w 71 71 3 3 S 0 dLen dCap ⟨g, 0, none⟩ xs.length xs.length cur t (ints xs) Tryz.underlying71 (by kernel_rfl) hS (by rw [hl]; exact (Nat.min_eq_left hd).symm) hsrc (by rw [hl]; omega) (by
    intro v hv
    obtain ⟨x, _, rfl⟩ := List.mem_map.1 hv
    rfl)
  rw [hl] at h
  refine ⟨_, h, ?_, ⟨rfl, rfl, rfl, by simp, fun i hi hne => setRow_other w S i _ (fun e => hne (by rw [e]))⟩⟩
  rw [setRow_heap w S cur _ t (0, 0) hS]
  simp
theorem res_cell1 {P : Program} {fn : Func} {a : Tmp} {ty : TypeId} (h : fn.results = #[.cell a ty]) (tmps : Array Value) (w : World) (g : Nat) (ha : tmps.getD a undef = .pointer (some ⟨g, 0, none⟩)) (v : Value)
    (hl : (loadVar ty ⟨g, 0, none⟩).run P w = .ok v w) : (results fn tmps).run P w = .ok v w := by
  have ha' : tmps[a]?.getD undef = .pointer (some ⟨g, 0, none⟩) := by simpa using ha
  simp [results, h, asAddr, ha', hl]

theorem keep_one' {w w1 : World} {o : Obj} {g : Nat} (h : Below (w.alloc o).heap.size (w.alloc o) w1) (hg : w.heap.size = g) : w1.heap[g]? = some o := hg ▸ keep_one h

def zeros64 : Array Value := (List.replicate 64 (Value.int .i64 0)).toArray

/-- v is a row of the call's own that holds the cells xs, n elements. -/
abbrev OwnR (w : World) (B : Nat) (e : TypeId) (size : Nat) (v : Value) (n : Nat) (xs : List Value) : Prop := w.ownsRow B e size v n xs

theorem wpList_append_new {P : Program} {ops : Array Oper} {rest : List Oper} {o : Oper} {a : Act} {Q : Exit → Act → World → Prop} (hgd : o.guard = none) (s x : Operand) (t : TypeId)
    (ho : o.op = .call { callee := .builtin .append, args := #[s, x], argTypes := #[t, t] })
    (B : Nat) (e : TypeId) (z : Value) (size bytes : Nat) (ht : P.underlying t = some (.slice e)) (hi : (P.info? e).map (fun i => (i.zero, i.size, i.bytes)) = some (some z, size, bytes)) (hzs : z.cells.size = size) (hsz : 0 < size)
    (w0 : World) (news : Array Value) (tb : TypeId) (v : Value) (n : Nat) (xs : List Value) (hs : a.eval s = v) (hown : w0.ownsRow B e size v n xs)
    (g0 m c : Nat) (hx : a.eval x = .slice (some ⟨g0, 0, none⟩) m c) (hg0 : w0.heap.size = g0) (hl : news.size = m * size) (h1 : news.toList.all (·.oneCell') = true)
    (hm : 0 < m) (h63 : n + m ≤ 1000000000) (hbytes : bytes ≤ 1000) (hB : B ≤ w0.heap.size)
    (h : ∀ g cap w', w'.ownsRow B e size (.slice (some ⟨g, 0, none⟩) (n + m) cap) (n + m) (xs ++ news.toList) → Below B w0 w' → (∀ k, k < w0.heap.size → some k ≠ v.ownBlock → w'.heap[k]? = w0.heap[k]?) → (v.ownBlock = some g ∨ w0.heap.size < g) → g < w'.heap.size → wpList P ops Q rest (a.put o.dst (.slice (some ⟨g, 0, none⟩) (n + m) cap)) w') :
    wpList P ops Q (o :: rest) a (w0.alloc (.cells news tb)) := by
  subst hg0
  obtain ⟨i, hi0, hi1, hi2, hi3⟩ := info_parts hi
  have hown' : (w0.alloc (.cells news tb)).ownsRow B e size v n xs := hown.alloc _
  refine wpList_append_lies (w0.alloc (.cells news tb)) hgd s x t ho B e i z size bytes ht hi0 hi1 hi2 hi3 hzs hsz v n xs hs hown' ⟨w0.heap.size, 0, none⟩ m c news.toList hx (by simpa using hl) (World.news_of_block (heap_alloc_new w0 _)) (fun u hu => List.all_eq_true.1 h1 u hu) hm (by unfold maxLen; omega) (by
    have : (n + m) * bytes ≤ 1000000000 * 1000 := Nat.mul_le_mul h63 hbytes
    omega) (by simp; omega) _ rfl ?_
  intro g cap w' ho hg hat hlt
  have hgr : ∀ k, k < w0.heap.size → some k ≠ v.ownBlock → w'.heap[k]? = w0.heap[k]? := fun k hk hne => (hg.block k (by simp; omega) hne).trans (Below.heap_alloc _ _ _ hk)
  refine h g cap w' ho ⟨hg.os, hg.tape, hg.output, ?_, fun k hk => hgr k (by omega) (fun e => ?_)⟩ hgr ?_ hlt
  · have := hg.size
    simp at this
    omega
  · rcases hown.2 with ⟨hv, _⟩ | ⟨g1, cap1, cur, hv, hb, _⟩
    · rw [hv] at e; cases e
    · rw [hv] at e
      injection e with e
      simp only at e
      omega
  · rcases hat with h | h
    · exact .inl h
    · right; simp at h; omega

/-- The same from a row that is read. -/
theorem wpList_append_from {P : Program} {ops : Array Oper} {rest : List Oper} {o : Oper} {a : Act} {Q : Exit → Act → World → Prop} (hgd : o.guard = none) (s x : Operand) (t : TypeId)
    (ho : o.op = .call { callee := .builtin .append, args := #[s, x], argTypes := #[t, t] })
    (B : Nat) (e : TypeId) (z : Value) (size bytes : Nat) (ht : P.underlying t = some (.slice e)) (hi : (P.info? e).map (fun i => (i.zero, i.size, i.bytes)) = some (some z, size, bytes)) (hzs : z.cells.size = size) (hsz : 0 < size)
    (w0 : World) (news : List Value) (v : Value) (n : Nat) (xs : List Value) (hs : a.eval s = v) (hown : w0.ownsRow B e size v n xs)
    (ad : Addr) (m c : Nat) (hx : a.eval x = .slice (some ad) m c) (hnews : Rd w0 (some ad) news) (hl : news.length = m * size) (h1 : ∀ u ∈ news, u.oneCell' = true)
    (hm : 0 < m) (h63 : n + m ≤ 1000000000) (hbytes : bytes ≤ 1000) (hB : B ≤ w0.heap.size)
    (h : ∀ g cap w', w'.ownsRow B e size (.slice (some ⟨g, 0, none⟩) (n + m) cap) (n + m) (xs ++ news) → Below B w0 w' → (∀ k, k < w0.heap.size → some k ≠ v.ownBlock → w'.heap[k]? = w0.heap[k]?) → (v.ownBlock = some g ∨ w0.heap.size ≤ g) → g < w'.heap.size → wpList P ops Q rest (a.put o.dst (.slice (some ⟨g, 0, none⟩) (n + m) cap)) w') :
    wpList P ops Q (o :: rest) a w0 := by
  obtain ⟨i, hi0, hi1, hi2, hi3⟩ := info_parts hi
  refine wpList_append_lies w0 hgd s x t ho B e i z size bytes ht hi0 hi1 hi2 hi3 hzs hsz v n xs hs hown ad m c news hx hl (fun j u hu => ?_) h1 hm (by unfold maxLen; omega) (by
    have : (n + m) * bytes ≤ 1000000000 * 1000 := Nat.mul_le_mul h63 hbytes
    omega) hB _ rfl ?_
  · obtain ⟨b, off, hA, hc⟩ := hnews j u hu
    injection hA with hA
    subst hA
    have e : (⟨b, off, none⟩ : Addr).add j = ⟨b, off + j, none⟩ := by
      unfold Addr.add
      split
      · rename_i h; subst h; rfl
      · rfl
    rw [e, hc]
  · intro g cap w' ho hg hat hlt
    have hgr : ∀ k, k < w0.heap.size → some k ≠ v.ownBlock → w'.heap[k]? = w0.heap[k]? := fun k hk hne => hg.block k hk hne
    refine h g cap w' ho ⟨hg.os, hg.tape, hg.output, hg.size, fun k hk => hgr k (by omega) (fun e => ?_)⟩ hgr ?_ hlt
    · rcases hown.2 with ⟨hv, _⟩ | ⟨g1, cap1, cur, hv, hb, _⟩
      · rw [hv] at e; cases e
      · rw [hv] at e
        injection e with e
        simp only at e
        omega
    · rcases hat with h | h
      · exact .inl h
      · right; omega
theorem own_keep {w w' : World} {B : Nat} {e : TypeId} {size : Nat} {v : Value} {n : Nat} {xs : List Value} (h : w.ownsRow B e size v n xs) (hb : Below w.heap.size w w') : w'.ownsRow B e size v n xs := by
  refine ⟨h.1, ?_⟩
  rcases h.2 with h | ⟨g, cap, cur, hv, hB, hg, hr⟩
  · exact .inl h
  · exact .inr ⟨g, cap, cur, hv, hB, cells_below hg hb, hr⟩
/-- What such a row reads as. -/
theorem own_rd {w : World} {B : Nat} {e : TypeId} {size : Nat} {A : Option Addr} {m cap : Nat} {n : Nat} {xs : List Value} (h : w.ownsRow B e size (.slice A m cap) n xs) : Rd w A xs := by
  rcases h.2 with ⟨hv, hn⟩ | ⟨g, cap, cur, hv, hB, hg, hc1, hc2, hc3, hc4⟩
  · have : xs = [] := List.eq_nil_of_length_eq_zero (by rw [h.1, hn, Nat.zero_mul])
    subst this
    exact Rd.nil _ _
  · injection hv with hA _ _
    subst hA
    intro i u hu
    refine ⟨g, 0, rfl, ?_⟩
    rw [Nat.zero_add]
    unfold World.cell?
    simp only [hg]
    have hi : i < xs.length := by
      rcases Nat.lt_or_ge i xs.length with h | h
      · exact h
      · rw [List.getElem?_eq_none h] at hu; cases hu
    have hi' : i < n * size := by rw [← h.1]; exact hi
    have : cur.toList[i]? = some u := by
      rw [← hc4, List.getElem?_take_of_lt hi'] at hu
      exact hu
    rw [Array.getElem?_toList] at this
    simpa using this
theorem own_new {w : World} {B : Nat} {e : TypeId} {size n : Nat} {cs : Array Value} (hB : B ≤ w.heap.size) (hs : cs.size = n * size) (hn : n ≤ maxLen) : (w.alloc (.cells cs e)).ownsRow B e size (.slice (some ⟨w.heap.size, 0, none⟩) n n) n cs.toList := by
  refine ⟨by simpa using hs, .inr ⟨w.heap.size, n, cs, rfl, hB, heap_alloc_new w _, Nat.le_refl _, hn, hs, ?_⟩⟩
  rw [List.take_of_length_le (by simp; omega)]

/-- Bytes as values. -/
def bytesV (l : List UInt8) : List Value := l.map fun x => Value.int .u8 x.toNat
theorem bytesV_append (l m : List UInt8) : bytesV (l ++ m) = bytesV l ++ bytesV m := by simp [bytesV]
theorem bytesV_length (l : List UInt8) : (bytesV l).length = l.length := by simp [bytesV]
theorem bytesV_one (l : List UInt8) : (bytesV l).all (·.oneCell') = true := by
  rw [List.all_eq_true]
  intro u hu
  obtain ⟨x, _, rfl⟩ := List.mem_map.1 hu
  rfl
theorem uint8_info : (Tryz.prog.info? 5).map (fun i => (i.zero, i.size, i.bytes)) = some (some (.int .u8 0), 1, 1) := by kernel_rfl
/-- string(b) of a row that holds bytes -/
theorem conv_rd {w : World} {A : Addr} {l : List UInt8} (h : Rd w (some A) (bytesV l)) (cap n : Nat) (hn : n = l.length) : (convert 72 9 (.slice (some A) n cap)).run Tryz.prog w = .ok (.string (bs l)) w := by
  subst hn
  refine run_convert_bytes_back (P := Tryz.prog) w 72 9 5 A cap l Tryz.underlying72 Tryz.underlying5 Tryz.underlying9 fun j hj => ?_
  obtain ⟨b, off, hA, hc⟩ := h j (.int .u8 (l[j]).toNat) (by simp [bytesV, hj])
  injection hA with hA
  subst hA
  have e : (⟨b, off, none⟩ : Addr).add j = ⟨b, off + j, none⟩ := by
    unfold Addr.add
    split
    · rename_i h; subst h; rfl
    · rfl
  rw [e, hc]
/-- How long a slice is. -/
def lenOf : Value → Nat
  | .slice _ n _ => n
  | _ => 0
theorem toList_nil (r : ByteArray) : r.toList = [] ↔ r.size = 0 := by rw [ByteArray.toList_eq, List.eq_nil_iff_length_eq_zero, len_data]
theorem toList_empty (r : ByteArray) (h : r.size = 0) : r.toList.isEmpty = true := by rw [(toList_nil r).2 h]; rfl
theorem toList_some (r : ByteArray) (h : r.size ≠ 0) : r.toList.isEmpty = false := by
  rw [← Bool.not_eq_true, List.isEmpty_iff, toList_nil]
  exact h
theorem text_ne' {s t : ByteArray} (h : ¬ s = t) : (s.toList == t.toList) = false := by
  rw [ByteArray.toList_eq, ByteArray.toList_eq]
  refine beq_eq_false_iff_ne.2 fun e => h ?_
  apply ByteArray.ext
  apply Array.ext'
  exact e
/-- A block of two cells: what it holds; both written anew. -/
theorem two_cells {w : World} {g : Nat} {t : TypeId} {a b : Value} (h : w.heap[g]? = some (.cells #[a, b] t (0, 0))) :
    w.cell? ⟨g, 0, none⟩ = some a ∧ w.cell? ⟨g, 1, none⟩ = some b ∧ w.frozen? ⟨g, 0, none⟩ = false ∧ w.frozen? ⟨g, 1, none⟩ = false := by
  refine ⟨?_, ?_, ?_, ?_⟩
  · unfold World.cell?; simp only [h]; rfl
  · unfold World.cell?; simp only [h]; rfl
  · unfold World.frozen?; simp only [h]; rfl
  · unfold World.frozen?; simp only [h]; rfl
theorem two_set {w : World} {g : Nat} {t : TypeId} {a b : Value} (h : w.heap[g]? = some (.cells #[a, b] t (0, 0))) (x y : Value) :
    ((w.setCell ⟨g, 0, none⟩ x).setCell ⟨g, 1, none⟩ y).heap[g]? = some (.cells #[x, y] t (0, 0)) := by
  have := blk_set (blk_set h 0 x) 1 y
  exact this
theorem two_by {w0 w : World} {g B : Nat} (h : Below B w0 w) (hB : B ≤ g) (x y : Value) : Below B w0 ((w.setCell ⟨g, 0, none⟩ x).setCell ⟨g, 1, none⟩ y) :=
  (h.setCell (p := ⟨g, 0, none⟩) hB x).setCell (p := ⟨g, 1, none⟩) hB y
/-- How long a text is. -/
def sizeOfText : Value → Nat
  | .string s => s.size
  | _ => 0
theorem toList_ne {s : ByteArray} (h : ¬ s.size = 0) : ¬ s.toList = [] := by
  intro e
  rw [ByteArray.toList_eq] at e
  exact h (by have := congrArg List.length e; exact this)

/-- The bytes l lie in block g, free to be written. -/
def BytAt (w : World) (g : Nat) (l : List UInt8) : Prop := ∀ i, i < l.length → w.cell? ⟨g, i, none⟩ = some (.int .u8 ((l.getD i 0).toNat : Nat)) ∧ w.frozen? ⟨g, i, none⟩ = false
theorem BytAt.below {w w' : World} {g : Nat} {l : List UInt8} (h : BytAt w g l) (hb : Below w.heap.size w w') : BytAt w' g l := fun i hi => by
  have hlt := cell_lt (h i hi).1
  exact ⟨(hb.cell hlt).trans (h i hi).1, (hb.frozen hlt).trans (h i hi).2⟩
theorem BytAt.set {w : World} {g : Nat} {l : List UInt8} (h : BytAt w g l) (k : Nat) (u : UInt8) : BytAt (w.setCell ⟨g, k, none⟩ (.int .u8 (u.toNat : Nat))) g (l.set k u) := by
  intro i hi
  rw [List.length_set] at hi
  obtain ⟨h1, h2⟩ := h i hi
  refine ⟨?_, ?_⟩
  · by_cases e : i = k
    · subst e
      rw [World.cell?_setCell_same _ _ _ h1]
      simp [hi]
    · rw [World.cell?_setCell_other _ _ _ _ (by intro e2; injection e2 with _ e3; exact e e3.symm), h1]
      have e' : ¬ k = i := fun x => e x.symm
      have : (l.set k u).getD i 0 = l.getD i 0 := by simp [e']
      rw [this]
  · rw [World.frozen?_setCell]
    exact h2
theorem BytAt.drew {w : World} {g : Nat} {l : List UInt8} (h : BytAt w g l) : BytAt w.drew g l := h
/-- What a text that was turned into bytes lies as. -/
theorem bytAt_new (w : World) (s : ByteArray) (cap : Nat) (t : TypeId) (fr : Nat × Nat) (hfr : s.size ≤ fr.1) : BytAt (w.alloc (.cells (bytesRow s cap) t fr)) w.heap.size s.data.toList := by
  have h : (w.alloc (.cells (bytesRow s cap) t fr)).heap[w.heap.size]? = some (.cells (bytesRow s cap) t fr) := heap_alloc_new w _
  intro i hi
  have hi' : i < s.size := hi
  refine ⟨?_, ?_⟩
  · unfold World.cell?
    simp only [h]
    have : (bytesRow s cap)[i]? = some (.int .u8 ((s.data.toList.getD i 0).toNat : Nat)) := by
      unfold bytesRow
      rw [Array.getElem?_append_left (by simpa using hi')]
      simp [hi']
    simpa using this
  · unfold World.frozen?
    simp only [h]
    simp
    omega

theorem conv_byt {w : World} {g : Nat} {l : List UInt8} (h : BytAt w g l) (cap n : Nat) (hn : n = l.length) : (convert 72 9 (.slice (some ⟨g, 0, none⟩) n cap)).run Tryz.prog w = .ok (.string (bs l)) w := by
  subst hn
  refine run_convert_bytes_back (P := Tryz.prog) w 72 9 5 ⟨g, 0, none⟩ cap l Tryz.underlying72 Tryz.underlying5 Tryz.underlying9 fun j hj => ?_
  have e : (⟨g, 0, none⟩ : Addr).add j = ⟨g, j, none⟩ := by
    unfold Addr.add
    split
    · rename_i h; rw [h]
    · simp
  rw [e, (h j hj).1]
  simp [hj]
theorem xor_u8 (a b : UInt8) : bits .xor .u8 (a.toNat : Int) (b.toNat : Int) = (((a ^^^ b).toNat : Nat) : Int) := by
  have h1 := a.toNat_lt
  have h2 := b.toNat_lt
  have hx : a.toNat ^^^ b.toNat < 2 ^ 8 := Nat.xor_lt_two_pow (by omega) (by omega)
  have e : ∀ x : Nat, x < 256 → (BitVec.ofInt 8 (x : Int)).toNat = x := fun x hx => by
    rw [BitVec.ofInt_natCast, BitVec.toNat_ofNat]
    exact Nat.mod_eq_of_lt hx
  show IntKind.u8.wrap ((BitVec.ofInt 8 (a.toNat : Int) ^^^ BitVec.ofInt 8 (b.toNat : Int)).toNat : Int) = _
  rw [BitVec.toNat_xor, e _ h1, e _ h2, IntKind.wrap_u8, UInt8.toNat_xor]
  omega

/-- []byte(s): the row that is made. -/
theorem conv_new (w : World) (s : ByteArray) (g : Nat) (hg : w.heap.size = g) : ∃ cap w', (convert 9 72 (.string s)).run Tryz.prog w = .ok (.slice (some ⟨g, 0, none⟩) s.size cap) w' ∧ BytAt w' g s.data.toList ∧ Below w.heap.size w w' ∧ w'.heap.size = w.heap.size + 1 := by
  subst hg
  have hcv := run_bytes_of_string (P := Tryz.prog) w 9 72 5 s Tryz.underlying9 Tryz.underlying72 Tryz.underlying5
  exact ⟨_, _, hcv, bytAt_new w.drew s _ _ _ (by simp [bytesRow]), (Below.refl w.heap.size w).drew.alloc (w := w.drew) (Nat.le_refl _) _, by simp⟩
end Go.Proofs.YtieekajjoikepaaGreatDoor
