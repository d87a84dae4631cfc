/-
  Plain: whom Blame shows.
  Plain: what OwnerOpens says.
  Plain: what ChangeOpens says: enough of a deal's own shares combine to its secret; enough of its own answers unlock.
  Arguments that are a record, a row of answers (one field of each holds two cells), or a row of booleans, opened.
  Contracts of the document's rows of shares and deals (keyholeref09.Own, keyholeref18.Same, keyholeref22.Same of what reads alike). Two rows of unlike elements.
  The law ChangeOpens, walked.
-/
import Derived.Test.YtgkihdhjafmnnaaGreatDoorOt
import Derived.Test.YtgkihdhjafmnnaaGreatDoorPm
import Derived.Test.YtgkihdhjafmnnaaGreatDoorCt
import Derived.Test.YtgkihdhjafmnnaaGreatDoorOv
import Derived.Deep.Grids
import Derived.Deep.Strs
import Derived.Deep.Slices
import Derived.Deep.Fields
import Derived.ChangeSame
import Derived.SliceStrings
import Derived.Lib.SmallJoins
import Derived.WalkKit
import Derived.ProofKit
import Derived.Test.YtgkihdhjafmnnaaGreatDoorRr
import Derived.Test.YtgkihdhjafmnnaaGreatDoorOd
import Derived.Test.YtgkihdhjafmnnaaGreatDoorOd2
import Derived.Test.YtgkihdhjafmnnaaGreatDoorCd
import Derived.Test.YtgkihdhjafmnnaaGreatDoorCopyA
import Derived.Test.YtgkihdhjafmnnaaGreatDoorTxt
import Derived.Test.YtgkihdhjafmnnaaGreatDoorCyn
import Derived.Test.YtgkihdhjafmnnaaGreatDoorOw4
import Derived.Test.YtgkihdhjafmnnaaGreatDoorAt
import Derived.BigQuiet
import Derived.Deep.AppendLies
namespace Go.Proofs.YtgkihdhjafmnnaaGreatDoor
/- BlT -/
section
open Go.RowKit
set_option linter.unusedVariables false
set_option linter.unusedSimpArgs false

/-- It is not as it was dealt. -/
def neB (D : Deal) (a : Ans) : Bool := !decide ((a.x, a.b) = D.sh.getD (a.x - 1).toNat (0, noneT))
def blamed (D : Deal) (ls : List Ans) : Option Ans := ((selS D.r noneT true ls).map Subtype.val).find? (neB D)
def blP (D : Deal) (a : Ans) : ByteArray := witP (D.sa.getD (a.x - 1).toNat noneT) (D.sh.getD (a.x - 1).toNat (0, noneT)) a.salt (a.x, a.b)
def blQ (D : Deal) (a : Ans) : ByteArray := witQ (D.sa.getD (a.x - 1).toNat noneT) (D.sh.getD (a.x - 1).toNat (0, noneT)) a.salt (a.x, a.b)
def blB (D : Deal) (a : Ans) : Bool := witB (D.sa.getD (a.x - 1).toNat noneT) (D.sh.getD (a.x - 1).toNat (0, noneT)) a.salt (a.x, a.b)
/-- What Blame hands back. -/
def BlameR (w : World) (D : Deal) (o : Option Ans) (e : Ending) (w' : World) : Prop :=
  Below w.heap.size w w' ∧ match o with
  | none => e = .returned (.tuple #[.string ⟨#[]⟩, .string ⟨#[]⟩, .bool false])
  | some a => e = .returned (.tuple #[.string (blP D a), .string (blQ D a), .bool (blB D a)])
theorem blamed_none {D : Deal} {ls : List Ans} (h : ∀ x ∈ selS D.r noneT true ls, neB D x.1 = false) : blamed D ls = none := by
  unfold blamed
  rw [List.find?_eq_none]
  intro a ha
  obtain ⟨x, hx, rfl⟩ := List.mem_map.1 ha
  rw [h x hx]
  simp
theorem blamed_some {D : Deal} {ls : List Ans} {pre : List (FA D.r noneT true)} {x : FA D.r noneT true} (h : pre ++ [x] <+: selS D.r noneT true ls) (h1 : ∀ y ∈ pre, neB D y.1 = false) (h2 : neB D x.1 = true) : blamed D ls = some x.1 := by
  obtain ⟨t, ht⟩ := h
  unfold blamed
  rw [← ht, List.map_append, List.map_append, List.append_assoc, List.find?_append]
  have : (pre.map Subtype.val).find? (neB D) = none := by
    rw [List.find?_eq_none]
    intro a ha
    obtain ⟨y, hy, rfl⟩ := List.mem_map.1 ha
    rw [h1 y hy]
    simp
  rw [this, List.map_cons, List.map_nil, List.singleton_append, List.find?_cons_of_pos h2]
  rfl
/-- Whoever fits is as dealt, or someone is blamed. -/
theorem dealt_or {D : Deal} {ls : List Ans} : (∀ a ∈ ls, fitB D.r a = true → (a.x, a.b) = D.sh.getD (a.x - 1).toNat (0, noneT)) ∨ ∃ a, blamed D ls = some a ∧ fitB D.r a = true ∧ neB D a = true := by
  cases h : blamed D ls with
  | none =>
    left
    intro a ha hf
    unfold blamed at h
    rw [sel_val, List.find?_eq_none] at h
    have := h a (List.mem_filter.2 ⟨ha, by simp [tells, hf]⟩)
    unfold neB at this
    simpa using this
  | some a =>
    right
    refine ⟨a, rfl, ?_, List.find?_some h⟩
    have hm := List.mem_of_find?_eq_some h
    rw [sel_val] at hm
    have := (List.mem_filter.1 hm).2
    simpa [tells] using this
theorem btext_inj {s o : ByteArray} {p q : Shr} (h1 : brightB s p = true) (h2 : brightB o q = true) (h : btextB s p = btextB o q) : s = o ∧ p = q := by
  obtain ⟨a1, a2, a3, a4⟩ := bright_is h1
  obtain ⟨b1, b2, b3, b4⟩ := bright_is h2
  have h' := congrArg (fun x : ByteArray => x.data.toList) h
  simp only [btextB, ByteArray.data_append, Array.toList_append] at h'
  have e1 := List.append_inj h' (by simp [len_data, a1, b1, bs_data])
  have e2 := List.append_inj e1.1 (by simp [len_data, a1, b1])
  have e3 := List.append_inj e2.1 rfl
  obtain ⟨x, y⟩ := p
  obtain ⟨z, u⟩ := q
  simp only at a2 a3 a4 b2 b3 b4 e1 e2 ⊢
  have e4 : UInt8.ofNat x.toNat = UInt8.ofNat z.toNat := by
    have := e2.2
    rw [bs_data, bs_data] at this
    injection this
  have e5 := congrArg UInt8.toNat e4
  rw [UInt8.toNat_ofNat', UInt8.toNat_ofNat'] at e5
  have hx : x = z := by omega
  have hs : s = o := by rw [← bs_of s, ← bs_of o, e3.2]
  have hy : y = u := by rw [← bs_of y, ← bs_of u, e1.2]
  exact ⟨hs, by rw [hx, hy]⟩
/-- Who is blamed shows two texts with one Sum. -/
theorem blamed_shows {D : Deal} {m : Nat} {t : List UInt8} (g : Good D m t) {a : Ans} (hf : fitB D.r a = true) (hn : neB D a = true) : blB D a = true ∧ blP D a ≠ blQ D a ∧ bs (sumL (blP D a).data.toList) = bs (sumL (blQ D a).data.toList) := by
  obtain ⟨hp, hx, hck⟩ := fit_parts hf
  obtain ⟨l1, l2, -, -, -⟩ := place_le D.r a.nm hp
  have hi : placeN D.r a.nm - 1 < D.r.ns.length := by omega
  have hix : (a.x - 1).toNat = placeN D.r a.nm - 1 := by omega
  unfold neB at hn
  rw [hix, good_sh g hi] at hn
  have hne : (a.x, a.b) ≠ pick D.sec.data.toList t m (placeN D.r a.nm - 1) := by simpa using hn
  rw [checkP, g.pl _ hi, Bool.and_eq_true, decide_eq_true_eq] at hck
  have hb := g.br _ hi
  have hw : witB (D.sa.getD (placeN D.r a.nm - 1) noneT) (pick D.sec.data.toList t m (placeN D.r a.nm - 1)) a.salt (a.x, a.b) = true := by
    unfold witB
    rw [hb, hck.1, hck.2, decide_eq_false (p := pick _ _ _ _ = _) (fun e => hne e.symm)]
    simp
  unfold blB blP blQ
  rw [hix, good_sh g hi, hw]
  unfold witP witQ
  rw [if_pos hw, if_pos hw]
  exact ⟨rfl, fun e => hne (btext_inj hb hck.1 e).2.symm, hck.2.symm⟩
end

/- OpT -/
section
open Go.RowKit
set_option linter.unusedVariables false

def picks (ws : List Bool) (i : Nat) : List Nat := (List.range i).filter fun j => ws.getD j false
theorem picks_len (ws : List Bool) (i : Nat) : (picks ws i).length ≤ i := by
  have := List.length_filter_le (fun j => ws.getD j false) (List.range i)
  simpa [picks] using this
theorem picks_yes {ws : List Bool} {i : Nat} (h : ws.getD i false = true) : picks ws (i + 1) = picks ws i ++ [i] := by
  unfold picks
  rw [List.range_succ, List.filter_append]
  congr 1
  rw [List.filter_cons, if_pos h]
  rfl
theorem picks_no {ws : List Bool} {i : Nat} (h : ws.getD i false = false) : picks ws (i + 1) = picks ws i := by
  unfold picks
  rw [List.range_succ, List.filter_append]
  rw [List.filter_cons, if_neg (by rw [h]; simp)]
  simp
def allA (D : Deal) (ls : List Ans) (ws : List Bool) (i : Nat) : List Ans := ls ++ (picks ws i).map (ansD D)
theorem allA_len (D : Deal) (ls : List Ans) (ws : List Bool) (i : Nat) : (allA D ls ws i).length = ls.length + (picks ws i).length := by simp [allA]
theorem allA_yes {D : Deal} {ls : List Ans} {ws : List Bool} {i : Nat} (h : ws.getD i false = true) : allA D ls ws (i + 1) = allA D ls ws i ++ [ansD D i] := by
  unfold allA
  rw [picks_yes h, List.map_append, ← List.append_assoc]
  rfl
theorem allA_no {D : Deal} {ls : List Ans} {ws : List Bool} {i : Nat} (h : ws.getD i false = false) : allA D ls ws (i + 1) = allA D ls ws i := by
  unfold allA
  rw [picks_no h]
theorem picks_hits {D : Deal} {m : Nat} {t : List UInt8} (g : Good D m t) (ls : List Ans) (ws : List Bool) {i : Nat} (hi : i ≤ D.r.ns.length) : (picks ws i).length ≤ (hits D.r (allA D ls ws i) D.r.ns.length).length := by
  unfold hits
  have h1 : (picks ws i).length ≤ ((List.range i).filter (hit D.r (allA D ls ws i))).length := by
    unfold picks
    rw [← List.countP_eq_length_filter, ← List.countP_eq_length_filter]
    refine List.countP_mono_left fun j hj hw => ?_
    have hji := List.mem_range.1 hj
    refine hit_of (a := ansD D j) ?_ (fit_own g (by omega)) rfl
    unfold allA picks
    exact List.mem_append.2 (.inr (List.mem_map.2 ⟨j, List.mem_filter.2 ⟨hj, hw⟩, rfl⟩))
  refine Nat.le_trans h1 ?_
  rw [← List.countP_eq_length_filter, ← List.countP_eq_length_filter]
  exact (List.range_sublist.2 hi).countP_le
theorem opens_law {D : Deal} {m : Nat} {t : List UInt8} (g : Good D m t) (ls : List Ans) (ws : List Bool) {i : Nat} (hi : i ≤ D.r.ns.length) (hk : ¬ ((picks ws i).length : Int) < D.r.k) {nonce master : ByteArray} (hw : wrapE D.sec nonce master = 0) :
    (unlE D.r (allA D ls ws i) (wrapS D.sec nonce master) = 0 ∧ unlS D.r (allA D ls ws i) (wrapS D.sec nonce master) = master) ∨
    ∃ a, blamed D (allA D ls ws i) = some a ∧ blB D a = true ∧ blP D a ≠ blQ D a ∧ bs (sumL (blP D a).data.toList) = bs (sumL (blQ D a).data.toList) := by
  rcases dealt_or (D := D) (ls := allA D ls ws i) with h | ⟨a, h1, h2, h3⟩
  · left
    refine opens g h ?_ hw
    have := picks_hits g ls ws hi
    have hkk := g.kk
    omega
  · exact .inr ⟨a, h1, blamed_shows g h2 h3⟩
theorem wit_size (s : ByteArray) (p : Shr) (o : ByteArray) (q : Shr) : (witP s p o q).size ≤ 1000 ∧ (witQ s p o q).size ≤ 1000 := by
  unfold witP witQ
  cases h : witB s p o q with
  | false => exact ⟨by rw [if_neg (by simp)]; exact Nat.zero_le _, by rw [if_neg (by simp)]; exact Nat.zero_le _⟩
  | true =>
    rw [if_pos rfl, if_pos rfl]
    have h2 := h
    unfold witB at h2
    simp only [Bool.and_eq_true] at h2
    obtain ⟨a1, a2, a3, a4⟩ := bright_is h2.1.1.1
    obtain ⟨b1, b2, b3, b4⟩ := bright_is h2.1.1.2
    have hpt : pledgeT.size = 6 := rfl
    constructor
    · simp only [btextB, ByteArray.size_append, bs_size, List.length_cons, List.length_nil, a1, a4, hpt]; omega
    · simp only [btextB, ByteArray.size_append, bs_size, List.length_cons, List.length_nil, b1, b4, hpt]; omega
end

/- ChO -/
section
open Go.RowKit
set_option linter.unusedVariables false

/-- The shares of the places that are picked. -/
def shsA (D : Deal) (ws : List Bool) (i : Nat) : List Shr := (picks ws i).map fun j => D.sh.getD j (0, noneT)
theorem shsA_len (D : Deal) (ws : List Bool) (i : Nat) : (shsA D ws i).length = (picks ws i).length := by simp [shsA]
theorem shsA_yes {D : Deal} {ws : List Bool} {i : Nat} (h : ws.getD i false = true) : shsA D ws (i + 1) = shsA D ws i ++ [D.sh.getD i (0, noneT)] := by
  unfold shsA
  rw [picks_yes h, List.map_append]
  rfl
theorem shsA_no {D : Deal} {ws : List Bool} {i : Nat} (h : ws.getD i false = false) : shsA D ws (i + 1) = shsA D ws i := by
  unfold shsA
  rw [picks_no h]
theorem picks_lt {ws : List Bool} {i j : Nat} (h : j ∈ picks ws i) : j < i := List.mem_range.1 (List.mem_filter.1 h).1
theorem picks_nodup (ws : List Bool) (i : Nat) : (picks ws i).Nodup := (List.Pairwise.filter _ List.pairwise_lt_range).imp fun h => Nat.ne_of_lt h
/-- Any number of places that is enough tells the secret. -/
theorem at_split_more (s t : List UInt8) (N m : Nat) (ps : List Nat) (hN : N ≤ 255) (hlt : ∀ i ∈ ps, i < N) (hnd : ps.Nodup) (hl : m + 1 ≤ ps.length) (hs : s.length = 32) : atL (ps.map (pick s t m)) 0 = s := by
  apply List.ext_getElem
  · simp [atL, hs]
  · intro j h1 h2
    have hj : j < 32 := by omega
    simp only [atL, List.getElem_map, List.getElem_range]
    rw [xsOf_pick, ysOf_pick s t m ps j hj, atP_eval _ _ (xs_nodup N ps hN hlt hnd) (by simp [colL]; omega) (by rw [List.length_map]; omega)]
    rw [colL, evalP, zero_gm, x_zero, getD_at s j h2]
theorem shsA_pick {D : Deal} {m : Nat} {t : List UInt8} (g : Good D m t) (ws : List Bool) {i : Nat} (hi : i ≤ D.r.ns.length) : shsA D ws i = (picks ws i).map (pick D.sec.data.toList t m) :=
  List.map_congr_left fun j hj => good_sh g (Nat.lt_of_lt_of_le (picks_lt hj) hi)
theorem combine_own {D : Deal} {m : Nat} {t : List UInt8} (g : Good D m t) (ws : List Bool) {i : Nat} (hi : i ≤ D.r.ns.length) (hk : ¬ ((picks ws i).length : Int) < D.r.k) : rightB (shsA D ws i) 1 = true ∧ bs (atL (shsA D ws i) 0) = D.sec := by
  have hN := (check_head g.ck).2.2.2.1
  have hkk := g.kk
  have hpl := picks_len ws i
  have hlt : ∀ j ∈ picks ws i, j < D.r.ns.length := fun j hj => Nat.lt_of_lt_of_le (picks_lt hj) hi
  rw [shsA_pick g ws hi]
  refine ⟨pick_right (N := D.r.ns.length) (by omega) (by omega) hlt (picks_nodup ws i) (by omega), ?_⟩
  rw [at_split_more D.sec.data.toList t D.r.ns.length m _ (by omega) hlt (picks_nodup ws i) (by omega) (by rw [len_data]; exact g.sz)]
  rfl
theorem unlock_own {D : Deal} {m : Nat} {t : List UInt8} (g : Good D m t) (ws : List Bool) {i : Nat} (hi : i ≤ D.r.ns.length) (hk : ¬ ((picks ws i).length : Int) < D.r.k) {nonce master : ByteArray} (hw : wrapE D.sec nonce master = 0) :
    unlE D.r (allA D [] ws i) (wrapS D.sec nonce master) = 0 ∧ unlS D.r (allA D [] ws i) (wrapS D.sec nonce master) = master := by
  have hkk := g.kk
  have hh := picks_hits g [] ws hi
  refine opens g (fun a ha _ => ?_) (by omega) hw
  unfold allA at ha
  rw [List.nil_append] at ha
  obtain ⟨j, hj, rfl⟩ := List.mem_map.1 ha
  have hjl : j < D.r.ns.length := Nat.lt_of_lt_of_le (picks_lt hj) hi
  have hx : (ansD D j).x = ((j + 1 : Nat) : Int) := by
    show (D.sh.getD j (0, noneT)).1 = _
    rw [good_sh g hjl]
    rfl
  have hx2 : ((ansD D j).x - 1).toNat = j := by omega
  rw [hx2]
  rfl
end

/- OpenAns -/
section
open Go.RowKit Go.ChangeShapes Go.WideShapes Go.Deep
set_option linter.unusedVariables false
set_option maxRecDepth 100000

theorem oa_add_none {x : Addr} (h : x.spot = none) (k : Nat) : x.add k = ⟨x.block, x.off + k, none⟩ := by
  unfold Addr.add
  split
  · rename_i h0; subst h0; obtain ⟨b, o, sp⟩ := x; simp_all
  · obtain ⟨b, o, sp⟩ := x; simp_all
theorem answersV_len (l : List Ans) : (answersV l).length = l.length * 4 := by
  induction l with
  | nil => rfl
  | cons a l ih => rw [answersV_cons, List.length_append, ih, List.length_cons]; simp [ansV]; omega
theorem rd_of_ans {w : World} {x : Addr} (V : Nat → Ans) (l : Nat) (h : ∀ i, i < l → w.cell? (x.add (i * 4 + 0)) = some (.string (V i).nm) ∧ w.cell? (x.add (i * 4 + 1)) = some (.string (V i).salt) ∧ w.cell? (x.add (i * 4 + 2)) = some (.int .i64 (V i).x) ∧ w.cell? (x.add (i * 4 + 3)) = some (.string (V i).b)) : Rd w (some x) (answersV ((List.range l).map V)) := by
  intro q u hu
  have hq : q < l * 4 := by
    have := (List.getElem?_eq_some_iff.1 hu).1
    rw [answersV_len] at this
    simpa using this
  have hs : x.spot = none := by
    have h0 := (h 0 (by omega)).1
    unfold World.cell? at h0
    obtain ⟨b, o, sp⟩ := x
    cases sp with
    | none => rfl
    | some v => simp only [Addr.add] at h0; split at h0 <;> simp at h0
  refine ⟨x.block, x.off, by rw [← hs], ?_⟩
  have hi : q / 4 < l := by omega
  obtain ⟨c0, c1, c2, c3⟩ := h (q / 4) hi
  obtain ⟨g0, g1, g2, g3⟩ := answersV_at ((List.range l).map V) (q / 4) (V (q / 4)) (by simp [hi])
  rw [oa_add_none hs] at c0 c1 c2 c3
  have hm : q % 4 = 0 ∨ q % 4 = 1 ∨ q % 4 = 2 ∨ q % 4 = 3 := by omega
  rcases hm with hm | hm | hm | hm
  · rw [show q / 4 * 4 = q by omega, hu] at g0
    rw [show q / 4 * 4 + 0 = q by omega] at c0
    rw [Option.some.inj g0]; exact c0
  · rw [show q / 4 * 4 + 1 = q by omega, hu] at g1
    rw [show q / 4 * 4 + 1 = q by omega] at c1
    rw [Option.some.inj g1]; exact c1
  · rw [show q / 4 * 4 + 2 = q by omega, hu] at g2
    rw [show q / 4 * 4 + 2 = q by omega] at c2
    rw [Option.some.inj g2]; exact c2
  · rw [show q / 4 * 4 + 3 = q by omega, hu] at g3
    rw [show q / 4 * 4 + 3 = q by omega] at c3
    rw [Option.some.inj g3]; exact c3
theorem open_answers {H : Type} {enc : TypeId × Value → H} {W : World} {base : Nat} {spare : Nat → Bool} {held : Bool} {a : Option Addr} {len cap : Nat} {d : DataW H} {p : List MemPlace} (h : DataW.Trod enc Tryz.prog W base spare held 60 (.slice a len cap) d p) :
    ∃ zs : List Ans, len = zs.length ∧ zs.length ≤ maxLen ∧ Rd W a (answersV zs) ∧ ∀ o ∈ zs, o.nm.size ≤ maxLen ∧ o.salt.size ≤ maxLen ∧ o.b.size ≤ maxLen := by
  obtain ⟨fuel, hf⟩ := h
  rcases open_slice Tryz.underlying60 hf with ⟨hcs, _⟩ | ⟨x, l, c, m, n, D, Pl, hcs, _, hl, hm, hmm, _, hi⟩
  · simp [Value.cells] at hcs
    obtain ⟨rfl, rfl, rfl⟩ := hcs
    exact ⟨[], rfl, Nat.zero_le _, Rd.nil _ _, by simp⟩
  · simp [Value.cells] at hcs
    obtain ⟨rfl, rfl, rfl⟩ := hcs
    have hml : len ≤ m := by rw [hmm]; split <;> omega
    have hC : Tryz.prog.cellsOf 62 = 4 := by kernel_rfl
    have hC1 : Tryz.prog.cellsOf 9 = 1 := by kernel_rfl
    have hC2 : Tryz.prog.cellsOf 29 = 2 := by kernel_rfl
    have hC3 : Tryz.prog.cellsOf 3 = 1 := by kernel_rfl
    rw [hC] at hi
    have key : ∀ i, ∃ o : Ans, i < len → (W.cell? (x.add (i * 4 + 0)) = some (.string o.nm) ∧ W.cell? (x.add (i * 4 + 1)) = some (.string o.salt) ∧ W.cell? (x.add (i * 4 + 2)) = some (.int .i64 o.x) ∧ W.cell? (x.add (i * 4 + 3)) = some (.string o.b)) ∧ o.nm.size ≤ maxLen ∧ o.salt.size ≤ maxLen ∧ o.b.size ≤ maxLen := fun i => by
      by_cases hil : i < len
      · obtain ⟨cs', hc, ht'⟩ := hi i (by omega)
        obtain ⟨_, hcl, hat⟩ := World.cells?_some hc
        obtain ⟨y0, y1, y2, n', _, _, t0, t1, t2⟩ := trod_struct3 Tryz.underlying62 ht'
        match cs', hcl with
        | [v0, v1, v2, v3], _ =>
          simp only [hC1, hC2, List.drop_zero, List.drop_succ_cons, List.take_succ_cons, List.take_zero] at t0 t1 t2
          obtain ⟨z0, z1, n2, _, _, s0, s1⟩ := trod_struct2 Tryz.underlying29 t2
          simp only [hC1, hC3, List.drop_zero, List.drop_succ_cons, List.take_succ_cons, List.take_zero] at s0 s1
          obtain ⟨x0, hx0, _, h0⟩ := DataW.trod_string Tryz.underlying9 t0
          obtain ⟨x1, hx1, _, h1⟩ := DataW.trod_string Tryz.underlying9 t1
          obtain ⟨x2, hx2, _, _⟩ := DataW.trod_int Tryz.underlying3 s0
          obtain ⟨x3, hx3, _, h3⟩ := DataW.trod_string Tryz.underlying9 s1
          obtain rfl : v0 = .string x0 := by simpa using hx0
          obtain rfl : v1 = .string x1 := by simpa using hx1
          obtain rfl : v2 = .int .i64 x2 := by simpa using hx2
          obtain rfl : v3 = .string x3 := by simpa using hx3
          have c0 := hat 0 (by simp)
          have c1 := hat 1 (by simp)
          have c2 := hat 2 (by simp)
          have c3 := hat 3 (by simp)
          rw [Go.Deep.add_add] at c0 c1 c2 c3
          exact ⟨⟨x0, x1, x2, x3⟩, fun _ => ⟨⟨c0, c1, c2, c3⟩, h0, h1, h3⟩⟩
      · exact ⟨⟨⟨#[]⟩, ⟨#[]⟩, 0, ⟨#[]⟩⟩, fun h => absurd h hil⟩
    refine ⟨(List.range len).map fun i => Classical.choose (key i), by simp, by simp; omega, rd_of_ans _ len (fun i hil => (Classical.choose_spec (key i) hil).1), fun o ho => ?_⟩
    obtain ⟨i, hir, rfl⟩ := List.mem_map.1 ho
    exact (Classical.choose_spec (key i) (List.mem_range.1 hir)).2
theorem open_texts {H : Type} {enc : TypeId × Value → H} {W : World} {base : Nat} {spare : Nat → Bool} {held : Bool} {fuel : Nat} {a : Option Addr} {len cap : Nat} {y : DataW H × List MemPlace} (hf : DataW.trod enc Tryz.prog W base spare held fuel 34 [.slice a len cap] = some y) :
    ∃ zs : List ByteArray, len = zs.length ∧ zs.length ≤ maxLen ∧ Rd W a (textsV zs) ∧ ∀ n ∈ zs, n.size ≤ maxLen := by
  rcases open_strings Tryz.underlying34 Tryz.underlying9 (by kernel_rfl) hf with ⟨hcs, _⟩ | ⟨x, l, c, zs, hcs, _, hl, hm, hz, _, hcell, hwz⟩
  · simp at hcs
    obtain ⟨rfl, rfl, rfl⟩ := hcs
    exact ⟨[], rfl, Nat.zero_le _, Rd.nil _ _, by simp⟩
  · simp at hcs
    obtain ⟨rfl, rfl, rfl⟩ := hcs
    have hlz : len ≤ zs.length := by rw [hz]; split <;> omega
    exact ⟨zs.take len, by simp; omega, by simp; omega, rd_of_texts hcell len, fun n hn => hwz n (List.mem_of_mem_take hn)⟩
theorem open_rec {H : Type} {enc : TypeId × Value → H} {W : World} {base b0 : Nat} {spare : Nat → Bool} {held : Bool} {r : Reach} {v : Value} {d : DataW H} {p : List MemPlace} (hv : Value.okWide Tryz.prog W r b0 44 v) (h : DataW.Trod enc Tryz.prog W base spare held 44 v d p) :
    ∃ R : Rec, RV W v R ∧ R.ns.length ≤ maxLen ∧ R.ps.length ≤ maxLen ∧ (∀ s ∈ R.ns, s.size ≤ maxLen) ∧ ∀ s ∈ R.ps, s.size ≤ maxLen := by
  obtain ⟨v0, v1, v2, v3, y0, y1, y2, y3, n, rfl, -, -, t0, t1, t2, t3⟩ := Joins.open_agg4 Tryz.underlying44 (by kernel_rfl) (by kernel_rfl) hv h
  obtain ⟨x0, hx0, _, _⟩ := DataW.trod_int Tryz.underlying3 t0
  obtain ⟨x1, hx1, _, _⟩ := DataW.trod_int Tryz.underlying3 t1
  obtain rfl : v0 = .int .i64 x0 := by simpa using hx0
  obtain rfl : v1 = .int .i64 x1 := by simpa using hx1
  have s2 : ∃ a l c, v2 = .slice a l c := by
    rcases Go.Deep.open_slice Tryz.underlying34 t2 with ⟨hcs, _⟩ | ⟨x, l, c, _, _, _, _, hcs, _⟩
    · exact ⟨none, 0, 0, by simpa using hcs⟩
    · exact ⟨some x, l, c, by simpa using hcs⟩
  have s3 : ∃ a l c, v3 = .slice a l c := by
    rcases Go.Deep.open_slice Tryz.underlying34 t3 with ⟨hcs, _⟩ | ⟨x, l, c, _, _, _, _, hcs, _⟩
    · exact ⟨none, 0, 0, by simpa using hcs⟩
    · exact ⟨some x, l, c, by simpa using hcs⟩
  obtain ⟨A, l2, c2, rfl⟩ := s2
  obtain ⟨B, l3, c3, rfl⟩ := s3
  obtain ⟨zs, e1, e2, e3, e4⟩ := open_texts t2
  obtain ⟨qs, g1, g2, g3, g4⟩ := open_texts t3
  exact ⟨⟨x0, x1, zs, qs⟩, ⟨A, l2, c2, B, l3, c3, rfl, e3, e1, g3, g1⟩, e2, g2, e4, g4⟩
def boolsV (l : List Bool) : List Value := l.map Value.bool
theorem open_flags {H : Type} {enc : TypeId × Value → H} {W : World} {base : Nat} {held : Bool} {a : Option Addr} {len cap : Nat} {d : DataW H} {p : List MemPlace} (h : DataW.Trod enc Tryz.prog W base (fun _ => true) held 56 (.slice a len cap) d p) :
    ∃ zs : List Bool, len = zs.length ∧ zs.length ≤ maxLen ∧ Rd W a (boolsV zs) := by
  obtain ⟨fuel, hf⟩ := h
  rcases open_bools Tryz.underlying56 Tryz.underlying4 (by kernel_rfl) hf with ⟨hcs, _⟩ | ⟨x, l, c, B, hcs, _, hl, hm, _, hcell⟩
  · simp [Value.cells] at hcs
    obtain ⟨rfl, rfl, rfl⟩ := hcs
    exact ⟨[], rfl, Nat.zero_le _, Rd.nil _ _⟩
  · simp [Value.cells] at hcs
    obtain ⟨rfl, rfl, rfl⟩ := hcs
    refine ⟨(List.range len).map B, by simp, by simp; omega, fun q u hu => ?_⟩
    have hq : q < len := by
      have := (List.getElem?_eq_some_iff.1 hu).1
      simpa [boolsV] using this
    have hs : x.spot = none := by
      have h0 := hcell 0 (by omega)
      unfold World.cell? at h0
      obtain ⟨b, o, sp⟩ := x
      cases sp with
      | none => rfl
      | some v => simp only [Addr.add] at h0; split at h0 <;> simp at h0
    refine ⟨x.block, x.off, by rw [← hs], ?_⟩
    have hc := hcell q (by omega)
    rw [oa_add_none hs] at hc
    rw [hc]
    have : (boolsV ((List.range len).map B))[q]? = some (.bool (B q)) := by simp [boolsV, hq]
    rw [this] at hu
    exact hu
end

/- ChO2 -/
section
open Go.RowKit
set_option linter.unusedVariables false
set_option linter.unusedSimpArgs false
set_option maxRecDepth 100000
set_option maxHeartbeats 4000000

theorem own_apart {w w' : World} {B B' : Nat} {e e' : TypeId} {s s' : Nat} {v v' : Value} {n n' : Nat} {xs xs' : List Value} (h : w.ownsRow B e s v n xs) (h' : w.ownsRow B' e' s' v' n' xs') (hne : e ≠ e') (hk : ∀ k, k < w.heap.size → some k ≠ v.ownBlock → w'.heap[k]? = w.heap[k]?) : w'.ownsRow B' e' s' v' n' xs' := by
  refine ⟨h'.1, ?_⟩
  rcases h'.2 with h2 | ⟨g, cap, cur, hv, hg, hh, r⟩
  · exact .inl h2
  · subst hv
    refine .inr ⟨g, cap, cur, rfl, hg, (hk g (cell_lt_of hh) (fun ek => ?_)).trans hh, r⟩
    obtain ⟨c, hc⟩ := own_cells h g ek.symm
    rw [hh] at hc
    injection hc with hc
    injection hc with _ hc
    exact hne hc.symm
theorem own09_any (A : Option Addr) (n c : Nat) (l : List Shr) (w : World) (hr : Rd w A (sharesV l)) (hn : n = l.length) (hm : n ≤ 1000000) :
    Calls Tryz.prog 20 #[.slice A n c] w fun e w' => ∃ A' cap, e = .returned (.slice A' n cap) ∧ Below w.heap.size w w' := by
  have HR := Lib.hid hr
  have HN := Lib.hid hn
  clear hr hn
  go_enter Tryz.func20, Tryz.ntmps20
  go_wp2_with (at_builtin; refine wpList_append_copy (by rfl) (.tmp 4) (.tmp 5) 45 (by rfl) w.heap.size 29 (.agg #[.int .i64 0, .string ⟨#[]⟩]) 2 24 Tryz.underlying45 share_info rfl (by omega) (by rfl) A n c (by rfl) (sharesV l) (by exact HR.out) (by rw [sharesV_len, ← HN.out]) (sharesV_one _) (by omega) (by omega) (Nat.le_refl _) ?_)
  intro A1 cap1 w1 ho1 hb1
  go_wp2_with fail
  go_ret
  exact ⟨A1, cap1, rfl, hb1⟩
theorem same18_any (v1 v2 : Value) (r : Rec) (w : World) (h1 : RV w v1 r) (h2 : RV w v2 r) (hl1 : r.ns.length ≤ 100000) (hl2 : r.ps.length ≤ 100000) :
    Calls Tryz.prog 37 #[v1, v2] w fun e w' => e = .returned (.bool true) ∧ Below w.heap.size w w' := by
  obtain ⟨A, n, c, B, m, d, rfl, p1, p2, p3, p4⟩ := h1
  obtain ⟨A2, n2, c2, B2, m2, d2, rfl, q1, q2, q3, q4⟩ := h2
  obtain ⟨ee, kk, ns, ps⟩ := r
  simp only at p1 p2 p3 p4 q1 q2 q3 q4 hl1 hl2 ⊢
  have x1 := heap_alloc_new w (.cells #[.int .i64 ee, .int .i64 kk, .slice A n c, .slice B m d] 44)
  have x2 := heap_alloc_new (w.alloc (.cells #[.int .i64 ee, .int .i64 kk, .slice A n c, .slice B m d] 44)) (.cells #[.int .i64 ee, .int .i64 kk, .slice A2 n2 c2, .slice B2 m2 d2] 44)
  have b1 := (Below.refl w.heap.size w).alloc (Nat.le_refl _) (.cells #[.int .i64 ee, .int .i64 kk, .slice A n c, .slice B m d] 44)
  have b2 := (Below.refl (w.alloc (.cells #[.int .i64 ee, .int .i64 kk, .slice A n c, .slice B m d] 44)).heap.size (w.alloc (.cells #[.int .i64 ee, .int .i64 kk, .slice A n c, .slice B m d] 44))).alloc (Nat.le_refl _) (.cells #[.int .i64 ee, .int .i64 kk, .slice A2 n2 c2, .slice B2 m2 d2] 44)
  simp only [World.size_alloc] at x2
  have HX := Lib.hid (cells_below x1 b2)
  have HY := Lib.hid x2
  have HB := Lib.hid (Below.chain b1 b2)
  have P1 := Lib.hid (p1.below HB.out)
  have P3 := Lib.hid (p3.below HB.out)
  have Q1 := Lib.hid (q1.below HB.out)
  have Q3 := Lib.hid (q3.below HB.out)
  have P2 := Lib.hid p2
  have P4 := Lib.hid p4
  have Q2 := Lib.hid q2
  have Q4 := Lib.hid q4
  have HTx := Lib.hid (fun W (h1 : Rd W A (textsV ns)) h2 => texts_any ns ns A A2 n c n2 c2 W h1 h2 P2.out Q2.out hl1)
  have HTy := Lib.hid (fun W (h1 : Rd W B (textsV ps)) h2 => texts_any ps ps B B2 m d m2 d2 W h1 h2 P4.out Q4.out hl2)
  rw [decide_eq_true rfl] at HTx HTy
  clear x1 x2 b1 b2 p1 p2 p3 p4 q1 q2 q3 q4 hl1 hl2
  obtain ⟨a0, a1, a2, a3⟩ := rec_cells HX.out
  obtain ⟨e0, e1, e2, e3⟩ := rec_cells HY.out
  have d1 : (ee == ee) = true := beq_self_eq_true _
  have d2 : (kk == kk) = true := beq_self_eq_true _
  go_enter Tryz.func37, Tryz.ntmps37
  go_wp2_with fail
  refine (HTx.out _ P1.out Q1.out).mono ?_
  rintro e w1 ⟨rfl, hb⟩
  replace HX := hblk_below HX hb
  replace HY := hblk_below HY hb
  replace P3 := Lib.hid (P3.out.below hb)
  replace Q3 := Lib.hid (Q3.out.below hb)
  replace HB := Lib.hid (HB.out.trans (hb.mono HB.out.size))
  clear hb a0 a1 a2 a3 e0 e1 e2 e3
  obtain ⟨a0, a1, a2, a3⟩ := rec_cells HX.out
  obtain ⟨e0, e1, e2, e3⟩ := rec_cells HY.out
  go_wp2_with fail
  refine (HTy.out _ P3.out Q3.out).mono ?_
  rintro e w2 ⟨rfl, hb⟩
  replace HB := Lib.hid (HB.out.trans (hb.mono HB.out.size))
  clear hb a0 a1 a2 a3 e0 e1 e2 e3
  go_wp2_with fail
  go_ret
  exact ⟨rfl, HB.out⟩
theorem same22_any (v1 v2 : Value) (D : Deal) (w : World) (h1 : DV w v1 D) (h2 : DV w v2 D) (hl1 : D.r.ns.length ≤ 100000) (hl2 : D.r.ps.length ≤ 100000) (hl3 : D.sh.length ≤ 100000) (hl4 : D.sa.length ≤ 100000) :
    Calls Tryz.prog 16 #[v1, v2] w fun e w' => e = .returned (.bool true) ∧ Below w.heap.size w w' := by
  obtain ⟨A, n, c, B, m, d, C, p, q, E, s, t, rfl, p1, p2, p3, p4, p5, p6, p7, p8⟩ := h1
  obtain ⟨A2, n2, c2, B2, m2, d2, C2, pp2, qq2, E2, s2, t2, rfl, q1, q2, q3, q4, q5, q6, q7, q8⟩ := h2
  obtain ⟨⟨ee, kk, ns, ps⟩, sec, sh, sa⟩ := D
  simp only at p1 p2 p3 p4 p5 p6 p7 p8 q1 q2 q3 q4 q5 q6 q7 q8 hl1 hl2 hl3 hl4 ⊢
  have x1 := heap_alloc_new w (.cells #[.int .i64 ee, .int .i64 kk, .slice A n c, .slice B m d, .string sec, .slice C p q, .slice E s t] 47)
  have x2 := heap_alloc_new (w.alloc (.cells #[.int .i64 ee, .int .i64 kk, .slice A n c, .slice B m d, .string sec, .slice C p q, .slice E s t] 47)) (.cells #[.int .i64 ee, .int .i64 kk, .slice A2 n2 c2, .slice B2 m2 d2, .string sec, .slice C2 pp2 qq2, .slice E2 s2 t2] 47)
  have b1 := (Below.refl w.heap.size w).alloc (Nat.le_refl _) (.cells #[.int .i64 ee, .int .i64 kk, .slice A n c, .slice B m d, .string sec, .slice C p q, .slice E s t] 47)
  have b2 := (Below.refl (w.alloc (.cells #[.int .i64 ee, .int .i64 kk, .slice A n c, .slice B m d, .string sec, .slice C p q, .slice E s t] 47)).heap.size (w.alloc (.cells #[.int .i64 ee, .int .i64 kk, .slice A n c, .slice B m d, .string sec, .slice C p q, .slice E s t] 47))).alloc (Nat.le_refl _) (.cells #[.int .i64 ee, .int .i64 kk, .slice A2 n2 c2, .slice B2 m2 d2, .string sec, .slice C2 pp2 qq2, .slice E2 s2 t2] 47)
  simp only [World.size_alloc] at x2
  have HX := Lib.hid (cells_below x1 b2)
  have HY := Lib.hid x2
  have HB := Lib.hid (Below.chain b1 b2)
  have HSr := Lib.hid (fun W (hb : Below (w.alloc (.cells #[.int .i64 ee, .int .i64 kk, .slice A n c, .slice B m d, .string sec, .slice C p q, .slice E s t] 47) |>.alloc (.cells #[.int .i64 ee, .int .i64 kk, .slice A2 n2 c2, .slice B2 m2 d2, .string sec, .slice C2 pp2 qq2, .slice E2 s2 t2] 47)).heap.size (w.alloc (.cells #[.int .i64 ee, .int .i64 kk, .slice A n c, .slice B m d, .string sec, .slice C p q, .slice E s t] 47) |>.alloc (.cells #[.int .i64 ee, .int .i64 kk, .slice A2 n2 c2, .slice B2 m2 d2, .string sec, .slice C2 pp2 qq2, .slice E2 s2 t2] 47)) W) =>
    same18_any (.agg #[.int .i64 ee, .int .i64 kk, .slice A n c, .slice B m d]) (.agg #[.int .i64 ee, .int .i64 kk, .slice A2 n2 c2, .slice B2 m2 d2]) ⟨ee, kk, ns, ps⟩ W ⟨_, _, _, _, _, _, rfl, (p1.below HB.out).below hb, p2, (p3.below HB.out).below hb, p4⟩ ⟨_, _, _, _, _, _, rfl, (q1.below HB.out).below hb, q2, (q3.below HB.out).below hb, q4⟩ hl1 hl2)
  have HSr := Lib.hid (HSr.out _ (Below.refl _ _))
  have P5 := Lib.hid (p5.below HB.out)
  have P7 := Lib.hid (p7.below HB.out)
  have Q5 := Lib.hid (q5.below HB.out)
  have Q7 := Lib.hid (q7.below HB.out)
  have P6 := Lib.hid p6
  have P8 := Lib.hid p8
  have Q6 := Lib.hid q6
  have Q8 := Lib.hid q8
  have HSh := Lib.hid (fun W (h1 : Rd W C (sharesV sh)) h2 => same09_any sh sh C C2 p q pp2 qq2 W h1 h2 P6.out Q6.out hl3)
  have HTx := Lib.hid (fun W (h1 : Rd W E (textsV sa)) h2 => texts_any sa sa E E2 s t s2 t2 W h1 h2 P8.out Q8.out hl4)
  rw [decide_eq_true rfl] at HSh HTx
  clear x1 x2 b1 b2 p1 p2 p3 p4 q1 q2 q3 q4 p5 p6 p7 p8 q5 q6 q7 q8 hl1 hl2 hl3 hl4
  obtain ⟨⟨a0, a1, a2, a3, a4, a5, a6⟩, _⟩ := seven_cells HX.out
  obtain ⟨⟨e0, e1, e2, e3, e4, e5, e6⟩, _⟩ := seven_cells HY.out
  have d1 : (sec.toList == sec.toList) = true := beq_self_eq_true _
  go_enter Tryz.func16, Tryz.ntmps16
  go_wp2_with fail
  refine Calls.mono HSr.out ?_
  rintro e w1 ⟨rfl, hb⟩
  replace HX := hblk_below HX hb
  replace HY := hblk_below HY hb
  replace P5 := Lib.hid (P5.out.below hb)
  replace Q5 := Lib.hid (Q5.out.below hb)
  replace P7 := Lib.hid (P7.out.below hb)
  replace Q7 := Lib.hid (Q7.out.below hb)
  replace HB := Lib.hid (HB.out.trans (hb.mono HB.out.size))
  clear hb a0 a1 a2 a3 a4 a5 a6 e0 e1 e2 e3 e4 e5 e6 HSr
  obtain ⟨⟨a0, a1, a2, a3, a4, a5, a6⟩, _⟩ := seven_cells HX.out
  obtain ⟨⟨e0, e1, e2, e3, e4, e5, e6⟩, _⟩ := seven_cells HY.out
  go_wp2_with fail
  refine (HSh.out _ P5.out Q5.out).mono ?_
  rintro e w2 ⟨rfl, hb⟩
  replace HX := hblk_below HX hb
  replace HY := hblk_below HY hb
  replace P7 := Lib.hid (P7.out.below hb)
  replace Q7 := Lib.hid (Q7.out.below hb)
  replace HB := Lib.hid (HB.out.trans (hb.mono HB.out.size))
  clear hb a0 a1 a2 a3 a4 a5 a6 e0 e1 e2 e3 e4 e5 e6
  obtain ⟨⟨a0, a1, a2, a3, a4, a5, a6⟩, _⟩ := seven_cells HX.out
  obtain ⟨⟨e0, e1, e2, e3, e4, e5, e6⟩, _⟩ := seven_cells HY.out
  go_wp2_with fail
  refine (HTx.out _ P7.out Q7.out).mono ?_
  rintro e w3 ⟨rfl, hb⟩
  replace HB := Lib.hid (HB.out.trans (hb.mono HB.out.size))
  clear hb a0 a1 a2 a3 a4 a5 a6 e0 e1 e2 e3 e4 e5 e6
  go_wp2_with fail
  go_ret
  exact ⟨rfl, HB.out⟩
end

/- ChangeOpens -/
section
open Go.RowKit
set_option linter.unusedVariables false
set_option linter.unusedSimpArgs false
set_option maxRecDepth 100000
set_option maxHeartbeats 16000000

theorem ans_infoC : (Tryz.prog.info? 62).map (fun i => (i.zero, i.size, i.bytes)) = some (some (.agg #[.string ⟨#[]⟩, .string ⟨#[]⟩, .int .i64 0, .string ⟨#[]⟩]), 4, 56) := by kernel_rfl
theorem co_app (a b : List Ans) : answersV (a ++ b) = answersV a ++ answersV b := by simp [answersV]
theorem co_sapp (a b : List Shr) : sharesV (a ++ b) = sharesV a ++ sharesV b := by simp [sharesV]
theorem co_bools {w : World} {A : Option Addr} {l : List Bool} {i : Nat} (h : Rd w A (boolsV l)) (hi : i < l.length) : ∃ b off, A = some ⟨b, off, none⟩ ∧ w.cell? ⟨b, off + i, none⟩ = some (.bool l[i]) :=
  h i (.bool l[i]) (by simp [boolsV, hi])
theorem kc6_below {W w' : World} {p q r s t z : Addr} {u v x y a b : Value} (h : ((W.cell? p = some u ∧ W.cell? q = some v) ∧ (W.cell? r = some x ∧ W.cell? s = some y)) ∧ (W.cell? t = some a ∧ W.cell? z = some b)) (hb : Below W.heap.size W w') : ((w'.cell? p = some u ∧ w'.cell? q = some v) ∧ (w'.cell? r = some x ∧ w'.cell? s = some y)) ∧ (w'.cell? t = some a ∧ w'.cell? z = some b) :=
  ⟨⟨keep2_below h.1.1 hb, keep2_below h.1.2 hb⟩, keep2_below h.2 hb⟩
theorem kc6_alloc {W : World} {o : Obj} {p q r s t z : Addr} {u v x y a b : Value} (h : ((W.cell? p = some u ∧ W.cell? q = some v) ∧ (W.cell? r = some x ∧ W.cell? s = some y)) ∧ (W.cell? t = some a ∧ W.cell? z = some b)) : (((W.alloc o).cell? p = some u ∧ (W.alloc o).cell? q = some v) ∧ ((W.alloc o).cell? r = some x ∧ (W.alloc o).cell? s = some y)) ∧ ((W.alloc o).cell? t = some a ∧ (W.alloc o).cell? z = some b) :=
  kc6_below h ((Below.refl _ _).alloc (Nat.le_refl _) o)
theorem kc6_ad {W : World} {o : Obj} {p q r s t z : Addr} {u v x y a b : Value} (h : ((W.cell? p = some u ∧ W.cell? q = some v) ∧ (W.cell? r = some x ∧ W.cell? s = some y)) ∧ (W.cell? t = some a ∧ W.cell? z = some b)) : (((W.alloc o).drew.cell? p = some u ∧ (W.alloc o).drew.cell? q = some v) ∧ ((W.alloc o).drew.cell? r = some x ∧ (W.alloc o).drew.cell? s = some y)) ∧ ((W.alloc o).drew.cell? t = some a ∧ (W.alloc o).drew.cell? z = some b) :=
  kc6_below h ((Below.refl _ _).alloc (Nat.le_refl _) o).drew
theorem co_below {W W' : World} {B : Nat} {e : TypeId} {size : Nat} {v : Value} {n : Nat} {xs : List Value} (ho : W.ownsRow B e size v n xs) (hg : W.grownBy W' v.ownBlock) (hB : B ≤ W.heap.size) : Below B W W' := by_row ho hg hB
theorem changeOpens_law (a0 : ByteArray) (_ : a0.size ≤ maxLen) (a1 : Option Addr) (n c1 : Nat) (ns : List ByteArray) (hn : n = ns.length) (hn9 : ns.length ≤ maxLen) (hnz : ∀ x ∈ ns, x.size ≤ maxLen) (k ep : Int) (nonce : ByteArray) (hz4 : nonce.size ≤ maxLen) (master : ByteArray) (hz5 : master.size ≤ maxLen) (AW : Option Addr) (wn cw : Nat) (ws : List Bool) (hwn : wn = ws.length) (hwm : ws.length ≤ maxLen)
    (w : World) (hT : Turns w) (hR : Rounds w) (hr1 : Rd w a1 (textsV ns)) (hrw : Rd w AW (boolsV ws)) :
    Calls Tryz.prog 5 #[.string a0, .slice a1 n c1, .int .i64 k, .int .i64 ep, .string nonce, .string master, .slice AW wn cw] w fun e w' => e = .returned (.bool true) ∧ Below w.heap.size w w' := by
  have HT := Lib.hid hT
  have HR := Lib.hid hR
  have HN := Lib.hid hn
  have HN9 : Hid (n ≤ maxLen) := Lib.hid (by rw [hn]; exact hn9)
  have HNm := Lib.hid hr1
  have HRw := Lib.hid hrw
  have HWn := Lib.hid hwn
  have HFw := Lib.hid (few_any ns a1 n c1 w hr1 hn HN9.out)
  have HCh := Lib.hid changes_any
  have HZ := Lib.hid (And.intro hz4 hz5)
  have HNz : Hid (∀ x ∈ ns, x.size ≤ 9223372036854775807) := Lib.hid (fun x hx => by have := hnz x hx; unfold maxLen at this; omega)
  have hn9' : n ≤ 9223372036854775807 ∧ wn ≤ 9223372036854775807 := by rw [hwn]; unfold maxLen at *; omega
  obtain ⟨hn91, hn92⟩ := hn9'
  clear hT hR hr1 hrw hn hn9 hwn hwm hz4 hz5 hnz
  cases d0 : decide (wrap64 (wrap64 ((a0.size : Int) + (nonce.size : Int)) + (master.size : Int)) > 200) with
  | true =>
    go_enter Tryz.func5, Tryz.ntmps5
    go_wp2_with fail
    go_ret
    exact ⟨rfl, Below.refl _ _⟩
  | false =>
  go_enter Tryz.func5, Tryz.ntmps5
  go_wp2_with fail
  refine HFw.out.mono ?_
  rintro e wf ⟨fb, rfl, hfb, hwf⟩
  subst wf
  cases fb with
  | false =>
    clear hfb
    go_wp2_with fail
    go_ret
    exact ⟨rfl, Below.refl _ _⟩
  | true =>
  have hn20 : n ≤ 20 := hfb rfl
  by_cases h30 : (30 : Int) < (wn : Int)
  · have d2 : decide ((wn : Int) > 30) = true := decide_eq_true h30
    go_wp2_with fail
    go_ret
    exact ⟨rfl, Below.refl _ _⟩
  have d2 : decide ((wn : Int) > 30) = false := decide_eq_false h30
  have hw30 : wn ≤ 30 := by omega
  clear h30 hfb HFw
  have HDe := Lib.hid (cdeal_any a0 ns a1 n c1 k ep w HNm.out HN.out HN9.out HT.out HR.out)
  cases hok : cOK a0 ns k ep with
  | false =>
    have hE : dealE a0 ns k ep = 180 := by unfold dealE; rw [if_neg (by rw [hok]; decide)]
    have hD : dealC a0 ns k ep = noDeal := by unfold dealC; rw [if_neg (by rw [hok]; decide)]
    rw [hE, hD] at HDe
    clear hok hE hD
    go_wp2_with fail
    refine Calls.mono HDe.out ?_
    rintro e w3 ⟨v3, rfl, hv3, hb3⟩
    have HV3 := Lib.hid hv3
    obtain ⟨aA, an, ac, aB, am, ad, aC, ap, aq, aE, es, et, rfl, hrest⟩ := hv3
    simp only [noDeal] at HV3 ⊢
    have al := (Below.refl w3.heap.size w3).alloc (Nat.le_refl _) (.cells #[.int .i64 0, .int .i64 0, .slice aA an ac, .slice aB am ad, .string ⟨#[]⟩, .slice aC ap aq, .slice aE es et] 47)
    have hb4 := Below.chain hb3 al
    have HB4 := Lib.hid hb4
    have HX := Lib.hid (heap_alloc_new w3 (.cells #[.int .i64 0, .int .i64 0, .slice aA an ac, .slice aB am ad, .string ⟨#[]⟩, .slice aC ap aq, .slice aE es et] 47))
    have HV4 := Lib.hid (HV3.out.below al)
    clear hrest hb3 HDe hb4 al HV3
    go_wp2_with fail
    refine Calls.mono (HCh.out _ (HT.out.below HB4.out) (HR.out.below HB4.out)) ?_
    rintro e w4 ⟨rfl, hb5⟩
    have HB5 := Lib.hid (Below.chain HB4.out hb5)
    replace HX := hblk_below HX hb5
    have HV5 := Lib.hid (HV4.out.below hb5)
    clear hb5 HV4 HB4
    obtain ⟨⟨z0, z1, z2, z3, z4, z5, z6⟩, zf⟩ := seven_cells HX.out
    have HSm := Lib.hid (same22_any _ (.agg #[.int .i64 0, .int .i64 0, .slice none 0 0, .slice none 0 0, .string ⟨#[]⟩, .slice none 0 0, .slice none 0 0]) ⟨⟨0, 0, [], []⟩, ⟨#[]⟩, [], []⟩ w4 HV5.out (DV.zero w4) (by simp) (by simp) (by simp) (by simp))
    clear zf HV5
    go_wp2_with fail
    refine Calls.mono HSm.out ?_
    rintro e w5 ⟨rfl, hb6⟩
    have HB6 := Lib.hid (Below.chain HB5.out hb6)
    clear hb6
    go_wp2_with fail
    go_ret
    exact ⟨rfl, HB6.out⟩
  | true =>
  have hE : dealE a0 ns k ep = 0 := by unfold dealE; rw [if_pos hok]
  obtain ⟨mm, q1, q2, q3, q4, q5, q6, q7⟩ := cOK_good hok
  rw [hE] at HDe
  have HG := Lib.hid q5
  have HDn := Lib.hid q7
  have hkk := Lib.hid q5.kk
  have hq1 := Lib.hid q1
  have hq3 := Lib.hid q3
  clear hok hE q1 q2 q3 q4 q5 q6 q7
  go_wp2_with fail
  refine Calls.mono HDe.out ?_
  rintro e w3 ⟨v3, rfl, hv3, hb3⟩
  generalize dealC a0 ns k ep = D at HDe HG HDn hv3 hkk
  generalize (cRest (tapeOf a0) mm).data.toList = tt at HG
  have hv3' := hv3
  obtain ⟨aA, an, ac, aB, am, ad, aC, ap, aq, aE, es, et, rfl, k1, k2, k3, k4, k5, k6, k7, k8⟩ := hv3
  have HDk := Lib.hid (show D.r.k = k by rw [hkk.out, hq1.out])
  have HLs := Lib.hid (show D.sh.length = n by rw [HG.out.sh, List.length_map, List.length_range, HDn.out, HN.out])
  have HLa := Lib.hid (show D.sa.length = n by rw [HG.out.sl, HDn.out, HN.out])
  have HLn := Lib.hid (show D.r.ns.length = n by rw [HDn.out, HN.out])
  obtain rfl : n = ap := by rw [k6]; exact HLs.out.symm
  obtain rfl : n = es := by rw [k8]; exact HLa.out.symm
  have hn16 : n ≤ 16 := by rw [HN.out]; exact hq3.out
  have al := (Below.refl w3.heap.size w3).alloc (Nat.le_refl _) (.cells #[.int .i64 D.r.e, .int .i64 D.r.k, .slice aA an ac, .slice aB am ad, .string D.sec, .slice aC n aq, .slice aE n et] 47)
  have hb4 := Below.chain hb3 al
  have HB := Lib.hid hb4
  have HX := Lib.hid (heap_alloc_new w3 (.cells #[.int .i64 D.r.e, .int .i64 D.r.k, .slice aA an ac, .slice aB am ad, .string D.sec, .slice aC n aq, .slice aE n et] 47))
  have HV := Lib.hid (hv3'.below al)
  have HRc := Lib.hid (show RV _ (.agg #[.int .i64 D.r.e, .int .i64 D.r.k, .slice aA an ac, .slice aB am ad]) D.r from ⟨_, _, _, _, _, _, rfl, k1.below al, k2, k3.below al, k4⟩)
  have HSh := Lib.hid (k5.below al)
  have HSa := Lib.hid (k7.below al)
  obtain ⟨u, hu⟩ : ∃ u, u = w3.alloc (.cells #[.int .i64 D.r.e, .int .i64 D.r.k, .slice aA an ac, .slice aB am ad, .string D.sec, .slice aC n aq, .slice aE n et] 47) := ⟨_, rfl⟩
  have Hu := Lib.hid hu
  have hXu : w3.heap.size < u.heap.size := by rw [hu, World.size_alloc]; omega
  rw [← hu] at HB HX HV HRc HSh HSa
  clear hu al hb3 hb4 hv3' k1 k2 k3 k4 k5 k6 k7 k8 HDe hkk hq1 hq3
  go_upto_region 6 with fail
  rw [← Hu.out]
  clear Hu
  generalize w3.heap.size = X at *
  have HWr := Lib.hid (wrap_any D.sec nonce master u (HT.out.below HB.out) (by rw [HG.out.sz]; unfold maxLen; omega) HZ.out.1 HZ.out.2)
  have HWe := Lib.hid (fun (h : wrapE D.sec nonce master = 0) i (hi : i ≤ D.r.ns.length) hk => unlock_own (i := i) HG.out ws hi hk h)
  obtain ⟨⟨z0, z1, z2, z3, z4, z5, z6⟩, zf⟩ := seven_cells HX.out
  have d3 : ((n : Int) != (n : Int)) = false := by simp
  clear zf
  go_wp2_with fail
  refine Calls.mono HWr.out ?_
  rintro e w4 ⟨rfl, hb4⟩
  generalize wrapE D.sec nonce master = we at HWe
  generalize wrapS D.sec nonce master = wp at HWe
  have HW4 := Lib.hid hb4
  clear hb4 HWr z0 z1 z2 z3 z4 z5 z6
  go_wp2_with fail
  go_loopw [19, 20, 21] (fun va vb x wr => ∃ (i : Nat) (X1 : Option Addr) (cp1 : Nat) (X2 : Option Addr) (cp2 : Nat), i ≤ n ∧ i ≤ wn ∧ x = .int .i64 (i : Nat) ∧ va = .slice X1 (picks ws i).length cp1 ∧ vb = .slice X2 (picks ws i).length cp2 ∧ wr.ownsRow u.heap.size 29 2 (.slice X1 (picks ws i).length cp1) (picks ws i).length (sharesV (shsA D ws i)) ∧ wr.ownsRow u.heap.size 62 4 (.slice X2 (picks ws i).length cp2) (picks ws i).length (answersV (allA D [] ws i)) ∧ Below u.heap.size u wr) (fun _ _ x _ => n - (intOf x).toNat)
  case atStart => exact ⟨0, none, 0, none, 0, by omega, by omega, rfl, rfl, rfl, World.ownsRow_nil _ _ _ _, World.ownsRow_nil _ _ _ _, HW4.out⟩
  case round =>
    obtain ⟨i, X1, cp1, X2, cp2, hi, hi2, rfl, rfl, rfl, ho1, ho2, hW⟩ := hrel
    have HO1 := Lib.hid ho1
    have HO2 := Lib.hid ho2
    have HW := Lib.hid hW
    have hpl := picks_len ws i
    clear ho1 ho2 hW HW4
    by_cases hlt : i < n ∧ i < wn
    · have e1 : i < n := hlt.1
      have e2 : i < wn := hlt.2
      have hin : (i : Int) < (n : Int) := by omega
      have hiw : (i : Int) < (wn : Int) := by omega
      have hiw2 : i < ws.length := by rw [← HWn.out]; omega
      obtain ⟨bW, oW, hbW, c0⟩ := co_bools (HRw.out.below (HB.out.trans (HW.out.mono HB.out.size))) hiw2
      subst hbW
      have Hbv := Lib.hid (show ws.getD i false = ws[i] by rw [List.getD_eq_getElem?_getD, List.getElem?_eq_getElem hiw2]; rfl)
      generalize ws[i] = bv at c0 Hbv
      clear hiw2 hlt
      cases bv with
      | false =>
        have Hpk := Lib.hid (picks_no Hbv.out)
        have Hal := Lib.hid (allA_no (D := D) (ls := []) Hbv.out)
        have Hsl := Lib.hid (shsA_no (D := D) Hbv.out)
        go_wp2_with fail
        go_roundw
        case rel => exact ⟨i + 1, X1, cp1, X2, cp2, by omega, by omega, by go_num, by rw [Hpk.out], by rw [Hpk.out], by rw [Hpk.out, Hsl.out]; exact HO1.out, by rw [Hpk.out, Hal.out]; exact HO2.out, HW.out⟩
        case measure => simp [intOf]; omega
      | true =>
        have Hpk := Lib.hid (show (picks ws (i + 1)).length = (picks ws i).length + 1 by rw [picks_yes Hbv.out]; simp)
        have hxi : i < D.sh.length := by rw [HLs.out]; exact e1
        have hai : i < D.sa.length := by rw [HLa.out]; exact e1
        have hni : i < ns.length := by rw [← HN.out]; exact e1
        have hsx : D.sh.getD i (0, noneT) = D.sh[i] := by rw [List.getD_eq_getElem?_getD, List.getElem?_eq_getElem hxi]; rfl
        have hsa : D.sa.getD i noneT = D.sa[i] := by rw [List.getD_eq_getElem?_getD, List.getElem?_eq_getElem hai]; rfl
        have hsn : D.r.ns.getD i noneT = ns[i] := by rw [HDn.out, List.getD_eq_getElem?_getD, List.getElem?_eq_getElem hni]; rfl
        have Hal := Lib.hid (show answersV (allA D [] ws (i + 1)) = answersV (allA D [] ws i) ++ [.string ns[i], .string D.sa[i], .int .i64 D.sh[i].1, .string D.sh[i].2] by rw [allA_yes Hbv.out, co_app, ← hsx, ← hsa, ← hsn]; rfl)
        have Hsl := Lib.hid (show sharesV (shsA D ws (i + 1)) = sharesV (shsA D ws i) ++ [.int .i64 D.sh[i].1, .string D.sh[i].2] by rw [shsA_yes Hbv.out, co_sapp, hsx]; rfl)
        obtain ⟨b, off, hA, c1⟩ := texts_at (HNm.out.below HB.out) hni
        obtain ⟨bE, oE, hE, c2⟩ := texts_at HSa.out hai
        obtain ⟨bC, oC, hC⟩ : ∃ b o, aC = some ⟨b, o, none⟩ := by
          obtain ⟨b, o, h, _⟩ := HSh.out.shr hxi
          exact ⟨b, o, h⟩
        subst hA hE hC
        obtain ⟨c3, c4⟩ := shr_at' HSh.out hxi
        rw [hsx] at c3 c4
        generalize ns[i] = nm at c1 Hal
        generalize D.sa[i] = sl at c2 Hal
        generalize D.sh[i] = sh at c3 c4 Hal Hsl
        obtain ⟨sx, sb⟩ := sh
        simp only at c3 c4 Hal Hsl
        have QU := Lib.hid (show ((u.cell? ⟨b, off + i, none⟩ = some (.string nm) ∧ u.cell? ⟨bE, oE + i, none⟩ = some (.string sl)) ∧ (u.cell? ⟨bC, oC + i * 2, none⟩ = some (.int .i64 sx) ∧ u.cell? ⟨bC, oC + i * 2 + 1, none⟩ = some (.string sb))) ∧ (u.cell? ⟨X, 5, none⟩ = some (.slice (some ⟨bC, oC, none⟩) n aq) ∧ u.cell? ⟨X, 6, none⟩ = some (.slice (some ⟨bE, oE, none⟩) n et)) from And.intro (And.intro (And.intro c1 c2) (And.intro c3 c4)) (And.intro (cell_in HX.out 5 _ rfl) (cell_in HX.out 6 _ rfl)))
        clear hsx hsa hsn hxi hai hni c1 c2 c3 c4
        have hus := HW.out.size
        generalize hpn : (picks ws i).length = pn at HO1 HO2 Hpk hpl ⊢
        have hBW := HB.out.size
        obtain ⟨⟨⟨_, _⟩, ⟨c3, c4⟩⟩, ⟨c5, _⟩⟩ := kc6_below QU.out HW.out
        go_wp2_with (at_builtin; refine wpList_append_new (by rfl) (.tmp 99) (.tmp 105) 45 (by rfl) u.heap.size 29 (.agg #[.int .i64 0, .string ⟨#[]⟩]) 2 24 Tryz.underlying45 share_info rfl (by omega) wr #[.int .i64 sx, .string sb] 29 (.slice X1 pn cp1) pn (sharesV (shsA D ws i)) (by rfl) HO1.out wr.heap.size 1 1 (by rfl) (by rfl) (by rfl) (by rfl) (by omega) (by omega) (by omega) (by omega) ?_)
        intro g8 cap8 w8 ho8 hb8 hk8 _ _
        have HO8 := Lib.hid (own_apart HO1.out HO2.out (by decide) hk8)
        have HS8 := Lib.hid ho8
        have HW8 := Lib.hid (HW.out.trans hb8)
        have hz8 := HW8.out.size
        have q0 := kc6_below QU.out HW8.out
        have q1 := kc6_below QU.out HW8.out.drew
        have OO := own_keep HO8.out ((Below.refl w8.heap.size w8).drew)
        have hz9 : u.heap.size ≤ w8.drew.heap.size := hz8
        have BB := HW8.out.drew
        clear ho8 hb8 hk8 c0 c3 c4 c5 HO1 HO2
        obtain ⟨iA, hA0, hA1, hA2, hA3⟩ := info_parts ans_infoC
        go_wp2_with fail
        go_region_held3 (fun w' => ((w'.cell? ⟨b, off + i, none⟩ = some (.string nm) ∧ w'.cell? ⟨bE, oE + i, none⟩ = some (.string sl)) ∧ (w'.cell? ⟨bC, oC + i * 2, none⟩ = some (.int .i64 sx) ∧ w'.cell? ⟨bC, oC + i * 2 + 1, none⟩ = some (.string sb))) ∧ (w'.cell? ⟨X, 5, none⟩ = some (.slice (some ⟨bC, oC, none⟩) n aq) ∧ w'.cell? ⟨X, 6, none⟩ = some (.slice (some ⟨bE, oE, none⟩) n et)))
          (first | with_reducible assumption | with_reducible exact kc6_ad q0)
          (first
            | (refine step_append_lies _ (by rfl) (.tmp 107) (.tmp 123) 60 (by rfl) u.heap.size 62 iA (.agg #[.string ⟨#[]⟩, .string ⟨#[]⟩, .int .i64 0, .string ⟨#[]⟩]) 4 56 Tryz.underlying60 hA0 hA1 hA2 hA3 rfl (by omega) (.slice X2 pn cp2) pn (answersV (allA D [] ws i)) (by rfl) ((HO8.out.alloc (.cells #[.string nm, .string sl, .int .i64 sx, .string sb] 62)).drew) ⟨w8.heap.size, 0, none⟩ 1 1 [.string nm, .string sl, .int .i64 sx, .string sb] (by rfl) (by rfl) (World.news_of_block (show ((w8.alloc (.cells #[.string nm, .string sl, .int .i64 sx, .string sb] 62)).drew).heap[w8.heap.size]? = some (.cells #[.string nm, .string sl, .int .i64 sx, .string sb] 62 (0, 0)) from heap_alloc_new w8 _)) (by simp [Value.oneCell']) (by omega) (by unfold maxLen; omega) (by omega) (by simp; omega) _ rfl ?_; intro g4 cap4 w4 ho4 hg4 hat hlt4; have hb4 := co_below ((HO8.out.alloc (.cells #[.string nm, .string sl, .int .i64 sx, .string sb] 62)).drew) hg4 (by simp; omega); have hb9 := HW8.out.trans ((((Below.refl w8.heap.size w8).alloc (Nat.le_refl _) (.cells #[.string nm, .string sl, .int .i64 sx, .string sb] 62)).drew).mono hz8 |>.trans hb4); have q4 := kc6_below QU.out hb9))
        have HS4 := Lib.hid (own_apart ((HO8.out.alloc (.cells #[.string nm, .string sl, .int .i64 sx, .string sb] 62)).drew) ((HS8.out.alloc (.cells #[.string nm, .string sl, .int .i64 sx, .string sb] 62)).drew) (by decide) (fun k hk hne => hg4.block k hk hne))
        have HA4 := Lib.hid ho4
        have HW4 := Lib.hid hb9
        clear ho4 hg4 hat hlt4 hb4 hb9 q4 q0 q1 OO hz9 BB HO8 HS8 hz8 HW8
        go_wp2_with fail
        go_roundw
        case rel =>
          refine ⟨i + 1, some ⟨g8, 0, none⟩, cap8, some ⟨g4, 0, none⟩, cap4, by omega, by omega, by go_num, by rw [Hpk.out], by rw [Hpk.out], ?_, ?_, HW4.out⟩
          · rw [Hpk.out, Hsl.out]; exact HS4.out
          · rw [Hpk.out, Hal.out]; exact HA4.out
        case measure => simp [intOf]; omega
    · have hex : ¬ i < n ∨ (i < n ∧ ¬ i < wn) := by
        by_cases h : i < n
        · exact .inr ⟨h, fun h2 => hlt ⟨h, h2⟩⟩
        · exact .inl h
      have HRk := Lib.hid (fun W h1 h2 => rcheck_any (.agg #[.int .i64 D.r.e, .int .i64 D.r.k, .slice aA an ac, .slice aB am ad, .string D.sec, .slice aC n aq, .slice aE n et]) D W h1 h2)
      rw [good_right HG.out] at HRk
      have HC18 := Lib.hid (fun W h1 => check18_any (.agg #[.int .i64 D.r.e, .int .i64 D.r.k, .slice aA an ac, .slice aB am ad]) D.r W h1 (by rw [HDn.out]; exact HNz.out))
      rw [HG.out.ck] at HC18
      have HO9 := Lib.hid (fun W h1 => own09_any aC n aq D.sh W h1 HLs.out.symm (by omega))
      have hcv := cells_below HX.out HW.out
      have hBW := HB.out.trans (HW.out.mono HB.out.size)
      have HBW := Lib.hid hBW
      have HXx := Lib.hid hcv
      have HL3 := Lib.hid (fun (hk : ¬ ((picks ws i).length : Int) < D.r.k) => combine_own HG.out ws (i := i) (by rw [HLn.out]; exact hi) (by omega))
      have HU3 := Lib.hid (fun (hk : ¬ ((picks ws i).length : Int) < D.r.k) (h0 : we = 0) => HWe.out h0 i (by rw [HLn.out]; exact hi) (by omega))
      rw [HDk.out] at HL3 HU3
      have HSl := Lib.hid (shsA_len D ws i)
      have HAl := Lib.hid (show (allA D [] ws i).length = (picks ws i).length by rw [allA_len]; simp)
      generalize (picks ws i).length = pn at HO1 HO2 hpl HL3 HU3 HSl HAl ⊢
      generalize shsA D ws i = sl at HO1 HL3 HSl
      generalize allA D [] ws i = al at HO2 HU3 HAl
      clear hcv hBW hlt
      rcases hex with hx1 | ⟨hx1, hx2⟩
      · obtain ⟨⟨x0, x1, x2, x3, x4, x5, x6⟩, _⟩ := seven_cells HXx.out
        go_wp2_with fail
        refine (HRk.out _ (HV.out.below HW.out) (HR.out.below HBW.out)).mono ?_
        rintro e w5 ⟨rfl, hb5⟩
        have HW5 := Lib.hid (HW.out.trans (hb5.mono HW.out.size))
        have HX5 := hblk_below HXx hb5
        have HP5 := Lib.hid (own_keep HO1.out hb5)
        have HA5 := Lib.hid (own_keep HO2.out hb5)
        clear hb5 x0 x1 x2 x3 x4 x5 x6
        obtain ⟨⟨x0, x1, x2, x3, x4, x5, x6⟩, _⟩ := seven_cells HX5.out
        go_wp2_with fail
        refine (HC18.out _ (HRc.out.below HW5.out)).mono ?_
        rintro e w6 ⟨rfl, hb6⟩
        have HW6 := Lib.hid (HW5.out.trans (hb6.mono HW5.out.size))
        have HX6 := hblk_below HX5 hb6
        have HP6 := Lib.hid (own_keep HP5.out hb6)
        have HA6 := Lib.hid (own_keep HA5.out hb6)
        clear hb6 x0 x1 x2 x3 x4 x5 x6
        obtain ⟨⟨x0, x1, x2, x3, x4, x5, x6⟩, _⟩ := seven_cells HX6.out
        go_wp2_with fail
        refine (HO9.out _ (HSh.out.below HW6.out)).mono ?_
        rintro e w7 ⟨A7, c7, rfl, hb7⟩
        have HW7 := Lib.hid (HW6.out.trans (hb7.mono HW6.out.size))
        have HX7 := hblk_below HX6 hb7
        have HP7 := Lib.hid (own_keep HP6.out hb7)
        have HA7 := Lib.hid (own_keep HA6.out hb7)
        have HB7 := Lib.hid (HB.out.trans (HW7.out.mono HB.out.size))
        clear hb7 x0 x1 x2 x3 x4 x5 x6 HRk HC18 HO9 HX5 HX6 HXx HP5 HP6 HA5 HA6
        by_cases hk : (pn : Int) < k
        · have d6 : decide ((pn : Int) < k) = true := by simpa using hk
          clear hk
          go_wp2_with fail
          refine (HCh.out _ (HT.out.below HB7.out) (HR.out.below HB7.out)).mono ?_
          rintro e w8 ⟨rfl, hb8⟩
          go_wp2_with fail
          go_ret
          exact ⟨rfl, Below.chain HB7.out hb8⟩
        · have d6 : decide ((pn : Int) < k) = false := by simpa using hk
          obtain ⟨r1, r2⟩ := HL3.out (by omega)
          by_cases h0 : we = 0
          · obtain ⟨r3, r4⟩ := HU3.out (by omega) h0
            subst h0
            have HCo := Lib.hid (fun W h1 => combine_yes sl X1 pn cp1 W h1 HSl.out.symm r1)
            rw [r2] at HCo
            have HUn := Lib.hid (fun W h1 h2 h3 h4 => unlock_any (.agg #[.int .i64 D.r.e, .int .i64 D.r.k, .slice aA an ac, .slice aB am ad]) D.r X2 pn cp2 al wp W h1 h2 HAl.out.symm (by omega) h3 h4)
            rw [r3, r4] at HUn
            clear r1 r2 r3 r4 hk
            go_wp2_with fail
            refine (HCo.out _ (own_rd HP7.out)).mono ?_
            rintro e w8 ⟨rfl, hb8⟩
            have HW8 := Lib.hid (HW7.out.trans (hb8.mono HW7.out.size))
            have HX8 := hblk_below HX7 hb8
            have HA8 := Lib.hid (own_keep HA7.out hb8)
            have HB8 := Lib.hid (HB.out.trans (HW8.out.mono HB.out.size))
            clear hb8
            obtain ⟨⟨x0, x1, x2, x3, x4, x5, x6⟩, _⟩ := seven_cells HX8.out
            go_wp2_with fail
            refine (HUn.out _ (HRc.out.below HW8.out) (own_rd HA8.out) (HR.out.below HB8.out) (HT.out.below HB8.out)).mono ?_
            rintro e w9 ⟨rfl, hb9⟩
            have HX9 := hblk_below HX8 hb9
            have HB9 := Lib.hid (Below.chain HB8.out hb9)
            clear hb9 x0 x1 x2 x3 x4 x5 x6
            go_wp2_with fail
            refine (HCh.out _ (HT.out.below HB9.out) (HR.out.below HB9.out)).mono ?_
            rintro e w10 ⟨rfl, hb10⟩
            have HX10 := hblk_below HX9 hb10
            have HB10 := Lib.hid (Below.chain HB9.out hb10)
            clear hb10
            obtain ⟨⟨x0, x1, x2, x3, x4, x5, x6⟩, _⟩ := seven_cells HX10.out
            have f1 : (D.sec.toList == D.sec.toList) = true := beq_self_eq_true _
            have f2 : (master.toList == master.toList) = true := beq_self_eq_true _
            go_wp2_with fail
            go_ret
            exact ⟨rfl, HB10.out⟩
          · have d7 : ((we : Int) != 0) = true := by simp; omega
            clear h0 hk r1 r2
            go_wp2_with fail
            refine (HCh.out _ (HT.out.below HB7.out) (HR.out.below HB7.out)).mono ?_
            rintro e w8 ⟨rfl, hb8⟩
            go_wp2_with fail
            go_ret
            exact ⟨rfl, Below.chain HB7.out hb8⟩
      · obtain ⟨⟨x0, x1, x2, x3, x4, x5, x6⟩, _⟩ := seven_cells HXx.out
        go_wp2_with fail
        refine (HRk.out _ (HV.out.below HW.out) (HR.out.below HBW.out)).mono ?_
        rintro e w5 ⟨rfl, hb5⟩
        have HW5 := Lib.hid (HW.out.trans (hb5.mono HW.out.size))
        have HX5 := hblk_below HXx hb5
        have HP5 := Lib.hid (own_keep HO1.out hb5)
        have HA5 := Lib.hid (own_keep HO2.out hb5)
        clear hb5 x0 x1 x2 x3 x4 x5 x6
        obtain ⟨⟨x0, x1, x2, x3, x4, x5, x6⟩, _⟩ := seven_cells HX5.out
        go_wp2_with fail
        refine (HC18.out _ (HRc.out.below HW5.out)).mono ?_
        rintro e w6 ⟨rfl, hb6⟩
        have HW6 := Lib.hid (HW5.out.trans (hb6.mono HW5.out.size))
        have HX6 := hblk_below HX5 hb6
        have HP6 := Lib.hid (own_keep HP5.out hb6)
        have HA6 := Lib.hid (own_keep HA5.out hb6)
        clear hb6 x0 x1 x2 x3 x4 x5 x6
        obtain ⟨⟨x0, x1, x2, x3, x4, x5, x6⟩, _⟩ := seven_cells HX6.out
        go_wp2_with fail
        refine (HO9.out _ (HSh.out.below HW6.out)).mono ?_
        rintro e w7 ⟨A7, c7, rfl, hb7⟩
        have HW7 := Lib.hid (HW6.out.trans (hb7.mono HW6.out.size))
        have HX7 := hblk_below HX6 hb7
        have HP7 := Lib.hid (own_keep HP6.out hb7)
        have HA7 := Lib.hid (own_keep HA6.out hb7)
        have HB7 := Lib.hid (HB.out.trans (HW7.out.mono HB.out.size))
        clear hb7 x0 x1 x2 x3 x4 x5 x6 HRk HC18 HO9 HX5 HX6 HXx HP5 HP6 HA5 HA6
        by_cases hk : (pn : Int) < k
        · have d6 : decide ((pn : Int) < k) = true := by simpa using hk
          clear hk
          go_wp2_with fail
          refine (HCh.out _ (HT.out.below HB7.out) (HR.out.below HB7.out)).mono ?_
          rintro e w8 ⟨rfl, hb8⟩
          go_wp2_with fail
          go_ret
          exact ⟨rfl, Below.chain HB7.out hb8⟩
        · have d6 : decide ((pn : Int) < k) = false := by simpa using hk
          obtain ⟨r1, r2⟩ := HL3.out (by omega)
          by_cases h0 : we = 0
          · obtain ⟨r3, r4⟩ := HU3.out (by omega) h0
            subst h0
            have HCo := Lib.hid (fun W h1 => combine_yes sl X1 pn cp1 W h1 HSl.out.symm r1)
            rw [r2] at HCo
            have HUn := Lib.hid (fun W h1 h2 h3 h4 => unlock_any (.agg #[.int .i64 D.r.e, .int .i64 D.r.k, .slice aA an ac, .slice aB am ad]) D.r X2 pn cp2 al wp W h1 h2 HAl.out.symm (by omega) h3 h4)
            rw [r3, r4] at HUn
            clear r1 r2 r3 r4 hk
            go_wp2_with fail
            refine (HCo.out _ (own_rd HP7.out)).mono ?_
            rintro e w8 ⟨rfl, hb8⟩
            have HW8 := Lib.hid (HW7.out.trans (hb8.mono HW7.out.size))
            have HX8 := hblk_below HX7 hb8
            have HA8 := Lib.hid (own_keep HA7.out hb8)
            have HB8 := Lib.hid (HB.out.trans (HW8.out.mono HB.out.size))
            clear hb8
            obtain ⟨⟨x0, x1, x2, x3, x4, x5, x6⟩, _⟩ := seven_cells HX8.out
            go_wp2_with fail
            refine (HUn.out _ (HRc.out.below HW8.out) (own_rd HA8.out) (HR.out.below HB8.out) (HT.out.below HB8.out)).mono ?_
            rintro e w9 ⟨rfl, hb9⟩
            have HX9 := hblk_below HX8 hb9
            have HB9 := Lib.hid (Below.chain HB8.out hb9)
            clear hb9 x0 x1 x2 x3 x4 x5 x6
            go_wp2_with fail
            refine (HCh.out _ (HT.out.below HB9.out) (HR.out.below HB9.out)).mono ?_
            rintro e w10 ⟨rfl, hb10⟩
            have HX10 := hblk_below HX9 hb10
            have HB10 := Lib.hid (Below.chain HB9.out hb10)
            clear hb10
            obtain ⟨⟨x0, x1, x2, x3, x4, x5, x6⟩, _⟩ := seven_cells HX10.out
            have f1 : (D.sec.toList == D.sec.toList) = true := beq_self_eq_true _
            have f2 : (master.toList == master.toList) = true := beq_self_eq_true _
            go_wp2_with fail
            go_ret
            exact ⟨rfl, HB10.out⟩
          · have d7 : ((we : Int) != 0) = true := by simp; omega
            clear h0 hk r1 r2
            go_wp2_with fail
            refine (HCh.out _ (HT.out.below HB7.out) (HR.out.below HB7.out)).mono ?_
            rintro e w8 ⟨rfl, hb8⟩
            go_wp2_with fail
            go_ret
            exact ⟨rfl, Below.chain HB7.out hb8⟩
end

end Go.Proofs.YtgkihdhjafmnnaaGreatDoor
