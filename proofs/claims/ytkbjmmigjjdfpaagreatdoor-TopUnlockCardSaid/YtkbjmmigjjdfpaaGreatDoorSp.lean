/-
  Contract of share.Split: the digits of a byte (Split$1), and the shares.
  Contract of share.Split.
  Contract of share.Split where it refuses.
-/
import Derived.Test.YtkbjmmigjjdfpaaGreatDoorFd
namespace Go.Proofs.YtkbjmmigjjdfpaaGreatDoor
/- Split -/
open Go.RowKit
set_option linter.unusedVariables false
set_option maxRecDepth 100000
set_option maxHeartbeats 2000000

/-- The digits of byte j: the secret's, and m of the tape. -/
def colL (s t : List UInt8) (j m : Nat) : List UInt8 := s.getD j 0 :: (List.range m).map fun q => t.getD (j + 32 * q) 0
theorem colL_len (s t : List UInt8) (j m : Nat) : (colL s t j m).length = m + 1 := by simp [colL]
theorem colL_snoc (s t : List UInt8) (j m : Nat) : colL s t j (m + 1) = colL s t j m ++ [t.getD (j + 32 * m) 0] := by simp [colL, List.range_succ]
theorem nums_append (l m : List UInt8) : nums (l ++ m) = nums l ++ nums m := by simp [nums]
theorem ints_append (l m : List Int) : ints (l ++ m) = ints l ++ ints m := by simp [ints]

theorem wrap64_u8 (x : UInt8) : wrap64 (x.toNat : Int) = (x.toNat : Int) := by
  have := x.toNat_lt
  exact IntWalk.wrap64_in _ ⟨by omega, by omega⟩

theorem split1_any (s t : ByteArray) (j m gs gt : Nat) (w : World) (hs : Box w gs 9 (.string s)) (ht : Box w gt 9 (.string t)) (hj : j < 32) (hsz : s.size = 32) (htz : t.size = 32 * m) (hm : m ≤ 300) :
    Calls Tryz.prog 74 #[.int .i64 (j : Int), .pointer (some ⟨gs, 0, none⟩), .pointer (some ⟨gt, 0, none⟩)] w fun e w' => ∃ A c, e = .returned (.slice A (m + 1) c) ∧ w'.ownsRow w.heap.size 3 1 (.slice A (m + 1) c) (m + 1) (ints (nums (colL s.data.toList t.data.toList j m))) ∧ Below w.heap.size w w' := by
  have Hs := Lib.hid hs
  have Ht := Lib.hid ht
  have cs := one_cell hs
  have Hsx := Lib.hid (str_at s j (by omega))
  have hjs : (j : Int) < (s.size : Int) := by omega
  clear hs ht
  go_enter Tryz.func74, Tryz.ntmps74
  go_wp2_with fail
  rw [Hsx.out]
  obtain ⟨x, hx⟩ : ∃ x, x = s.data.toList.getD j 0 := ⟨_, rfl⟩
  rw [← hx, wrap64_u8]
  have Hx := Lib.hid hx
  clear hx Hsx
  have HO0 := Lib.hid (own_new (w := w) (B := w.heap.size) (e := 3) (size := 1) (n := 1) (cs := (ints (nums [x])).toArray) (Nat.le_refl _) rfl (by decide))
  go_loopw [5, 6] (fun v a wr => ∃ (q : Nat) (A : Option Addr) (cap : Nat), q ≤ m ∧ a = .int .i64 ((j + 32 * q : Nat) : Int) ∧ v = .slice A (q + 1) cap ∧ wr.ownsRow w.heap.size 3 1 v (q + 1) (ints (nums (colL s.data.toList t.data.toList j q))) ∧ Below w.heap.size w wr) (fun _ a _ => j + 32 * m - (intOf a).toNat)
  case atStart => exact ⟨0, _, _, by omega, by simp, rfl, by rw [show colL s.data.toList t.data.toList j 0 = [x] by rw [Hx.out]; rfl]; exact HO0.out, (Below.refl _ _).alloc (Nat.le_refl _) _⟩
  case round =>
    obtain ⟨q, A, cap, hq, rfl, rfl, ho, hb⟩ := hrel
    have ct := one_cell (cells_below Ht.out hb)
    obtain ⟨T, hT⟩ : ∃ T, T = j + 32 * q := ⟨_, rfl⟩
    rw [← hT]
    by_cases hlt : q < m
    · have hTl : T < t.size := by omega
      have hTi : (T : Int) < (t.size : Int) := by omega
      have hTb : T ≤ 100000 := by omega
      have Htx := Lib.hid (str_at t T hTl)
      have HO := Lib.hid ho
      have HT := Lib.hid hT
      clear ho hT
      go_wp2_with (refine wpList_append_new (by rfl) (.tmp 19) (.tmp 24) 127 (by rfl) w.heap.size 3 (.int .i64 0) 1 8 Tryz.underlying127 int_info rfl (by omega) wr _ _ _ _ _ (by rfl) HO.out _ 1 1 (by rfl) (by rfl) (by rfl) (by rfl) (by omega) (by omega) (by omega) (by exact hb.size) ?_)
      intro g2 cap2 w2 ho2 hb2 _ _ _
      rw [Htx.out, wrap64_u8] at ho2
      have HO2 := Lib.hid ho2
      clear ho2
      go_wp2_with fail
      go_roundw
      case rel =>
        refine ⟨q + 1, _, cap2, by omega, by have := HT.out; go_num, rfl, ?_, hb.trans hb2⟩
        have := HO2.out
        rw [HT.out] at this
        rw [colL_snoc, nums_append, ints_append]
        exact this
      case measure => have := HT.out; simp [intOf]; omega
    · obtain rfl : q = m := by omega
      have HO := Lib.hid ho
      clear ho
      go_wp2_with fail
      go_ret
      exact ⟨A, cap, rfl, HO.out, hb⟩

/- Split2 -/
open Go.RowKit
set_option linter.unusedVariables false
set_option maxRecDepth 100000
set_option maxHeartbeats 4000000

/-- n lines of 32 bytes, of which the columns ahead of j are laid, and of column j the first i bytes. -/
def linesTo (F : Nat → Nat → UInt8) (n j i : Nat) : List UInt8 := (List.range (n * 32)).map fun p => if p % 32 < j ∨ (p % 32 = j ∧ p / 32 < i) then F (p / 32) (p % 32) else 0
theorem linesTo_len (F : Nat → Nat → UInt8) (n j i : Nat) : (linesTo F n j i).length = n * 32 := by simp [linesTo]
theorem linesTo_zero (F : Nat → Nat → UInt8) (n : Nat) : linesTo F n 0 0 = List.replicate (n * 32) 0 := by
  apply List.ext_getElem
  · simp [linesTo]
  · intro p h1 h2
    simp [linesTo]
theorem linesTo_set (F : Nat → Nat → UInt8) (n j i : Nat) (hj : j < 32) (hi : i < n) : (linesTo F n j i).set (i * 32 + j) (F i j) = linesTo F n j (i + 1) := by
  apply List.ext_getElem
  · simp [linesTo]
  · intro p h1 h2
    rw [List.getElem_set]
    simp only [linesTo, List.getElem_map, List.getElem_range]
    by_cases e : i * 32 + j = p
    · subst e
      rw [if_pos rfl, if_pos (by omega)]
      congr 1 <;> omega
    · rw [if_neg e]
      by_cases e2 : p % 32 < j ∨ (p % 32 = j ∧ p / 32 < i)
      · rw [if_pos e2, if_pos (by omega)]
      · rw [if_neg e2, if_neg (by omega)]
theorem linesTo_next (F : Nat → Nat → UInt8) (n j : Nat) : linesTo F n j n = linesTo F n (j + 1) 0 := by
  apply List.map_congr_left
  intro p hp
  rw [List.mem_range] at hp
  by_cases e : p % 32 < j + 1
  · rw [if_pos (by omega), if_pos (by omega)]
  · rw [if_neg (by omega), if_neg (by omega)]
theorem linesTo_row (F : Nat → Nat → UInt8) (n i : Nat) (hi : i < n) : ((linesTo F n 32 0).drop (i * 32)).take 32 = (List.range 32).map (F i) := by
  apply List.ext_getElem
  · simp [linesTo]; omega
  · intro p h1 h2
    have hp : p < 32 := by simpa using h2
    simp only [linesTo, List.getElem_take, List.getElem_drop, List.getElem_map, List.getElem_range]
    rw [if_pos (by omega)]
    congr 1 <;> omega

/-- A share: its place, and its bytes. -/
abbrev Shr := Int × ByteArray
def shrV (p : Shr) : List Value := [.int .i64 p.1, .string p.2]
def sharesV (l : List Shr) : List Value := l.flatMap shrV
theorem sharesV_cons (p : Shr) (l : List Shr) : sharesV (p :: l) = shrV p ++ sharesV l := rfl
theorem sharesV_len (l : List Shr) : (sharesV l).length = l.length * 2 := by
  induction l with
  | nil => rfl
  | cons a l ih => rw [sharesV, List.flatMap_cons, List.length_append, ← sharesV, ih, List.length_cons]; simp [shrV]; omega
theorem sharesV_at (l : List Shr) (i : Nat) (p : Shr) (h : l[i]? = some p) : (sharesV l)[i * 2]? = some (.int .i64 p.1) ∧ (sharesV l)[i * 2 + 1]? = some (.string p.2) := by
  induction l generalizing i with
  | nil => simp at h
  | cons a l ih =>
    cases i with
    | zero =>
      simp at h
      subst h
      exact ⟨rfl, rfl⟩
    | succ i =>
      have := ih i (by simpa using h)
      rw [sharesV, List.flatMap_cons, ← sharesV]
      have e : (shrV a).length = 2 := rfl
      rw [List.getElem?_append_right (by omega), List.getElem?_append_right (by omega), e, show (i + 1) * 2 - 2 = i * 2 by omega, show (i + 1) * 2 + 1 - 2 = i * 2 + 1 by omega]
      exact this
theorem sharesV_set (l : List Shr) (i : Nat) (p : Shr) (h : i < l.length) : ((sharesV l).set (i * 2) (.int .i64 p.1)).set (i * 2 + 1) (.string p.2) = sharesV (l.set i p) := by
  induction l generalizing i with
  | nil => simp at h
  | cons a l ih =>
    cases i with
    | zero => rfl
    | succ i =>
      have := ih i (by simpa using h)
      rw [List.set_cons_succ, sharesV_cons, sharesV_cons, ← this]
      have e : (shrV a).length = 2 := rfl
      rw [List.set_append_right _ _ (by omega), List.set_append_right _ _ (by omega), e, show (i + 1) * 2 - 2 = i * 2 by omega, show (i + 1) * 2 + 1 - 2 = i * 2 + 1 by omega]
theorem sharesV_one (l : List Shr) : ∀ u ∈ sharesV l, u.oneCell' = true := by
  intro u hu
  obtain ⟨p, _, hp⟩ := List.mem_flatMap.1 hu
  simp [shrV] at hp
  rcases hp with rfl | rfl <;> rfl

/-- Byte j of the share at i + 1. -/
def shareB (s t : List UInt8) (m i j : Nat) : UInt8 := evalP (colL s t j m) (UInt8.ofNat (i + 1))
def shareL (s t : List UInt8) (m i : Nat) : List UInt8 := (List.range 32).map (shareB s t m i)
/-- The shares of a secret. -/
def splitL (s t : List UInt8) (n m : Nat) : List Shr := (List.range n).map fun i => (((i + 1 : Nat) : Int), bs (shareL s t m i))
/-- The first i of them. -/
def splitTo (s t : List UInt8) (n m i : Nat) : List Shr := (List.range n).map fun q => if q < i then (((q + 1 : Nat) : Int), bs (shareL s t m q)) else (0, ⟨#[]⟩)
theorem splitTo_all (s t : List UInt8) (n m : Nat) : splitTo s t n m n = splitL s t n m := by
  apply List.map_congr_left
  intro q hq
  rw [if_pos (by simpa using hq)]
theorem splitTo_len (s t : List UInt8) (n m i : Nat) : (splitTo s t n m i).length = n := by simp [splitTo]
theorem splitTo_set (s t : List UInt8) (n m i : Nat) (hi : i < n) : (splitTo s t n m i).set i (((i + 1 : Nat) : Int), bs (shareL s t m i)) = splitTo s t n m (i + 1) := by
  apply List.ext_getElem
  · simp [splitTo]
  · intro j h1 h2
    rw [List.getElem_set]
    simp only [splitTo, List.getElem_map, List.getElem_range]
    by_cases e : i = j
    · subst e
      rw [if_pos rfl, if_pos (by omega)]
    · rw [if_neg e]
      by_cases e2 : j < i
      · rw [if_pos e2, if_pos (by omega)]
      · rw [if_neg e2, if_neg (by omega)]

def zeroLine' : Array Value := (bytesV (List.replicate 32 0)).toArray
theorem line_info : (Tryz.prog.info? 141).map (fun i => (i.zero, i.size, i.bytes)) = some (some (.agg zeroLine), 32, 32) := by kernel_rfl
theorem share_info : (Tryz.prog.info? 43).map (fun i => (i.zero, i.size, i.bytes)) = some (some (.agg #[.int .i64 0, .string ⟨#[]⟩]), 2, 24) := by kernel_rfl
theorem made_lines (n : Nat) : (madeCells zeroLine (n * 32)).toList = bytesV (List.replicate (n * 32) 0) := by
  apply List.ext_getElem
  · simp [madeCells, bytesV]
  · intro p h1 h2
    have hz : zeroLine = Array.replicate 32 (.int .u8 0) := by rfl
    have hp : p % 32 < 32 := Nat.mod_lt _ (by omega)
    simp [madeCells, bytesV, hp, hz]
theorem made_shares (n : Nat) : (madeCells #[.int .i64 0, .string ⟨#[]⟩] (n * 2)).toList = sharesV (List.replicate n (0, ⟨#[]⟩)) := by
  induction n with
  | zero => simp [madeCells, sharesV]
  | succ n ih =>
    rw [List.replicate_succ', sharesV, List.flatMap_append, ← sharesV, ← ih, Nat.succ_mul]
    simp [madeCells, Array.range_succ, shrV, show (n * 2 + 1) % 2 = 1 by omega]

/-- A row that fills its block. -/
theorem own_blk {w : World} {B : Nat} {e : TypeId} {size g n : Nat} {xs : List Value} (h : w.ownsRow B e size (.slice (some ⟨g, 0, none⟩) n n) n xs) : w.heap[g]? = some (.cells xs.toArray e (0, 0)) ∧ B ≤ g := by
  rcases h.2 with ⟨hv, _⟩ | ⟨g1, cap, cur, hv, hB, hg, _, _, hc, ht⟩
  · cases hv
  · injection hv with h1 h2 h3
    injection h1 with h1
    injection h1 with h1
    subst h1 h3
    rw [List.take_of_length_le (by simp [hc])] at ht
    refine ⟨?_, hB⟩
    rw [hg, ← ht]
theorem blk_own {w : World} {B : Nat} {e : TypeId} {size g n : Nat} {xs : List Value} (h : w.heap[g]? = some (.cells xs.toArray e (0, 0))) (hB : B ≤ g) (hl : xs.length = n * size) (hn : n ≤ 1000000) : w.ownsRow B e size (.slice (some ⟨g, 0, none⟩) n n) n xs :=
  ⟨hl, .inr ⟨g, n, xs.toArray, rfl, hB, h, Nat.le_refl _, by unfold maxLen; omega, by simpa using hl, by rw [← hl]; simp⟩⟩
theorem below_grown {w w' : World} {B : Nat} (h : w.grownBy w' none) (hB : B ≤ w.heap.size) : Below B w w' := ⟨h.os, h.tape, h.output, h.size, fun k hk => h.block k (by omega) (by simp)⟩

theorem own_set_other {w : World} {B : Nat} {e : TypeId} {size : Nat} {v : Value} {n : Nat} {xs : List Value} (h : w.ownsRow B e size v n xs) (p : Addr) (u : Value) (hp : p.block < B) : (w.setCell p u).ownsRow B e size v n xs := by
  refine ⟨h.1, ?_⟩
  rcases h.2 with h | ⟨g, cap, cur, hv, hB, hg, hr⟩
  · exact .inl h
  · exact .inr ⟨g, cap, cur, hv, hB, (Below.heap_setCell _ _ _ _ (by omega)).trans hg, hr⟩
theorem two_at {w : World} {g : Nat} {t : TypeId} {cs : Array Value} (h : w.heap[g]? = some (.cells cs t (0, 0))) (i : Nat) (hi : i < cs.size) : w.cell? ⟨g, i, none⟩ = some cs[i] ∧ w.frozen? ⟨g, i, none⟩ = false := by
  refine ⟨?_, ?_⟩
  · unfold World.cell?; simp [h, hi]
  · unfold World.frozen?; simp [h]
theorem split_yes (s t : ByteArray) (n m : Nat) (w : World) (hs : s.size = 32) (ht : t.size = 32 * m) (hn : n ≤ 255) (hm : m + 1 ≤ n) :
    Calls Tryz.prog 38 #[.string s, .int .i64 (n : Int), .int .i64 ((m + 1 : Nat) : Int), .string t] w fun e w' => ∃ g, e = .returned (.tuple #[.slice (some ⟨g, 0, none⟩) n n, .int .i64 0]) ∧ w'.ownsRow w.heap.size 43 2 (.slice (some ⟨g, 0, none⟩) n n) n (sharesV (splitL s.data.toList t.data.toList n m)) ∧ Below w.heap.size w w' := by
  obtain ⟨k, hk⟩ : ∃ k, k = m + 1 := ⟨_, rfl⟩
  rw [← hk]
  have d1 : decide ((n : Int) < 1) = false := by simp; omega
  have d2 : decide ((255 : Int) < (n : Int)) = false := by simp; omega
  have d3 : decide ((k : Int) < 1) = false := by simp; omega
  have hkn : ¬ (n : Int) < (k : Int) := by omega
  have Hs := Lib.hid hs
  have Ht := Lib.hid ht
  have e1 : ((s.size : Int) != 32) = false := by simp; omega
  have e2 : ((t.size : Int) != 32 * ((k : Int) - 1)) = false := by simp; omega
  have Hm := Lib.hid hk
  have hk2 : k ≤ 255 := by omega
  obtain ⟨iL, hL0, hL1, hL2, hL3⟩ := info_parts line_info
  obtain ⟨iS, hS0, hS1, hS2, hS3⟩ := info_parts share_info
  clear hs ht hk
  go_enter Tryz.func38, Tryz.ntmps38
  go_wp2_with (refine wpList_make_full _ (by rfl) (.tmp 49) (.tmp 49) 137 (by rfl) w.heap.size 141 iL (.agg zeroLine) 32 Tryz.underlying137 hL0 hL1 hL2 .i64 .i64 _ _ n (by rfl) (by rfl) rfl rfl (by rw [hL3]; omega) (by unfold maxLen; omega) (by simp; omega) ?_)
  intro w2 ho2 hg2
  clear d1 d2 d3 e1 e2 hkn
  rw [made_lines] at ho2
  have hbl := own_blk ho2
  have hW2 : Below w.heap.size w w2 := (((Below.refl _ _).alloc (Nat.le_refl _) _).alloc (by simp) _).trans (below_grown hg2 (by simp; omega))
  have hbs : Box w2 w.heap.size 9 (.string s) := (hg2.block _ (by simp; omega) (by simp)).trans ((Below.heap_alloc _ _ _ (by simp)).trans (heap_alloc_new w _))
  have hbt : Box w2 (w.heap.size + 1) 9 (.string t) := (hg2.block _ (by simp) (by simp)).trans (heap_new2 w _ _)
  obtain ⟨G, hG⟩ : ∃ G, G = w.heap.size + 1 + 1 := ⟨_, rfl⟩
  rw [← hG] at hbl ⊢
  have hGB : w.heap.size ≤ G := hbl.2
  have hGs : w.heap.size ≠ G := by omega
  have hGt : w.heap.size + 1 ≠ G := by omega
  have HL2 := Lib.hid hbl.1
  rw [← linesTo_zero (shareB s.data.toList t.data.toList m) n] at HL2
  have HW2 := Lib.hid hW2
  have Hbs := Lib.hid hbs
  have Hbt := Lib.hid hbt
  clear ho2 hg2 hbl hW2 hbs hbt hG
  go_wp2_with fail
  go_loopw [51] (fun x wr => ∃ j : Nat, j ≤ 32 ∧ x = .int .i64 (j : Nat) ∧ wr.heap[G]? = some (.cells (bytesV (linesTo (shareB s.data.toList t.data.toList m) n j 0)).toArray 141 (0, 0)) ∧ Box wr w.heap.size 9 (.string s) ∧ Box wr (w.heap.size + 1) 9 (.string t) ∧ Below w.heap.size w wr) (fun x _ => 32 - (intOf x).toNat)
  case atStart => exact ⟨0, by omega, rfl, HL2.out, Hbs.out, Hbt.out, HW2.out⟩
  case round =>
    clear HL2 HW2 Hbs Hbt
    obtain ⟨j, hj, rfl, hL, hS, hT, hW⟩ := hrel
    have HL := Lib.hid hL
    have HS := Lib.hid hS
    have HT := Lib.hid hT
    have HW := Lib.hid hW
    clear hL hS hT hW
    by_cases hlt : j < 32
    · go_wp2_with fail
      refine (split1_any s t j m _ _ _ HS.out HT.out hlt Hs.out Ht.out (by omega)).mono ?_
      rintro e w3 ⟨A, c, rfl, hrd, hb3⟩
      have HL3 := Lib.hid (cells_below HL.out hb3)
      have HS3 := Lib.hid (cells_below HS.out hb3)
      have HT3 := Lib.hid (cells_below HT.out hb3)
      have HW3 := Lib.hid (Below.chain HW.out hb3)
      rw [← Hm.out] at hrd ⊢
      have Hrd := Lib.hid hrd
      have Hcl := Lib.hid (show k = (colL s.data.toList t.data.toList j m).length by rw [colL_len, Hm.out])
      have HGl := Lib.hid (cell_lt_of HL.out)
      generalize wr.heap.size = B3 at Hrd HGl
      clear hrd hb3
      have Hcf := Lib.hid (show ∀ i, shareB s.data.toList t.data.toList m i j = evalP (colL s.data.toList t.data.toList j m) (UInt8.ofNat (i + 1)) from fun _ => rfl)
      generalize colL s.data.toList t.data.toList j m = col at Hrd Hcl Hcf
      have hjI : (j : Int) < 32 := by omega
      go_wp2_with fail
      go_loopw [59] (fun x wi => ∃ i : Nat, i ≤ n ∧ x = .int .i64 (i : Nat) ∧ wi.heap[G]? = some (.cells (bytesV (linesTo (shareB s.data.toList t.data.toList m) n j i)).toArray 141 (0, 0)) ∧ wi.ownsRow B3 3 1 (.slice A k c) k (ints (nums col)) ∧ Box wi w.heap.size 9 (.string s) ∧ Box wi (w.heap.size + 1) 9 (.string t) ∧ Below w.heap.size w wi) (fun x _ => n - (intOf x).toNat)
      case atStart => exact ⟨0, by omega, rfl, HL3.out, Hrd.out, HS3.out, HT3.out, HW3.out⟩
      case round =>
        clear HL3 Hrd HS3 HT3 HW3
        obtain ⟨i, hi, rfl, hL, hR, hS, hT, hW⟩ := hrel
        have HLi := Lib.hid hL
        have HRi := Lib.hid hR
        have HSi := Lib.hid hS
        have HTi := Lib.hid hT
        have HWi := Lib.hid hW
        clear hL hR hS hT hW
        by_cases hlt2 : i < n
        · have hx : (i : Int) + 1 = ((UInt8.ofNat (i + 1)).toNat : Int) := by
            rw [UInt8.toNat_ofNat']
            omega
          have Hset := Lib.hid (linesTo_set (shareB s.data.toList t.data.toList m) n j i hlt hlt2)
          rw [Hcf.out] at Hset
          have Hx := Lib.hid hx
          clear hx
          generalize UInt8.ofNat (i + 1) = xi at Hx Hset
          go_wp2_with fail
          rw [Hx.out]
          refine (eval_dig col xi A k c _ (own_rd HRi.out) Hcl.out (by rw [← Hcl.out]; omega)).mono ?_
          rintro e w5 ⟨rfl, hb5⟩
          have hL5 := cells_below HLi.out hb5
          obtain ⟨hc5, hf5⟩ := blk_byt hL5 (i := i * 32 + j) (by rw [linesTo_len]; omega)
          have HL5 := Lib.hid (blk_byt_set hL5 (i * 32 + j) (evalP col xi))
          rw [Hset.out] at HL5
          clear Hset hL5
          generalize evalP col xi = y at HL5 ⊢
          have HR5 := Lib.hid (own_set_other (own_keep HRi.out hb5) ⟨G, i * 32 + j, none⟩ (.int .u8 (y.toNat : Int)) HGl.out)
          have HS5 := Lib.hid ((Below.heap_setCell _ ⟨G, i * 32 + j, none⟩ (.int .u8 (y.toNat : Int)) w.heap.size hGs).trans (cells_below HSi.out hb5))
          have HT5 := Lib.hid ((Below.heap_setCell _ ⟨G, i * 32 + j, none⟩ (.int .u8 (y.toNat : Int)) (w.heap.size + 1) hGt).trans (cells_below HTi.out hb5))
          have HW5 := Lib.hid ((Below.chain HWi.out hb5).setCell (p := ⟨G, i * 32 + j, none⟩) hGB (.int .u8 (y.toNat : Int)))
          have hy := y.toNat_lt
          clear hb5
          go_wp2_with fail
          go_roundw
          case rel => exact ⟨i + 1, by omega, by go_num, HL5.out, HR5.out, HS5.out, HT5.out, HW5.out⟩
          case measure => simp [intOf]; omega
        · obtain rfl : i = n := by omega
          rw [linesTo_next] at HLi
          go_wp2_with fail
          go_roundw
          case rel => exact ⟨j + 1, by omega, by go_num, HLi.out, HSi.out, HTi.out, HWi.out⟩
          case measure => simp [intOf]; omega
    · obtain rfl : j = 32 := by omega
      have hGlt := cell_lt_of HL.out
      go_wp2_with (refine wpList_make_full _ (by rfl) (.tmp 78) (.tmp 78) 27 (by rfl) w.heap.size 43 iS (.agg #[.int .i64 0, .string ⟨#[]⟩]) 2 Tryz.underlying27 hS0 hS1 hS2 .i64 .i64 _ _ n (by rfl) (by rfl) rfl rfl (by rw [hS3]; omega) (by unfold maxLen; omega) (by exact HW.out.size) ?_)
      intro w6 ho6 hg6
      rw [made_shares] at ho6
      have hbl6 := own_blk ho6
      have HW6 := Lib.hid (HW.out.trans (below_grown hg6 HW.out.size))
      have HL6 := Lib.hid ((hg6.block _ hGlt (by simp)).trans HL.out)
      obtain ⟨G2, hG2⟩ : ∃ G2, G2 = wr.heap.size := ⟨_, rfl⟩
      rw [← hG2] at hbl6 ⊢
      have hG2B : w.heap.size ≤ G2 := hbl6.2
      have hG2G : G ≠ G2 := by omega
      have HS6 := Lib.hid hbl6.1
      rw [show List.replicate n ((0 : Int), (⟨#[]⟩ : ByteArray)) = splitTo s.data.toList t.data.toList n m 0 by simp [splitTo, List.map_const']] at HS6
      clear ho6 hg6 hbl6 HS HT HW HL hGlt hG2
      go_wp2_with fail
      go_loopw [82] (fun x wi => ∃ i : Nat, i ≤ n ∧ x = .int .i64 (i : Nat) ∧ wi.heap[G]? = some (.cells (bytesV (linesTo (shareB s.data.toList t.data.toList m) n 32 0)).toArray 141 (0, 0)) ∧ wi.heap[G2]? = some (.cells (sharesV (splitTo s.data.toList t.data.toList n m i)).toArray 43 (0, 0)) ∧ Below w.heap.size w wi) (fun x _ => n - (intOf x).toNat)
      case atStart => exact ⟨0, by omega, rfl, HL6.out, HS6.out, HW6.out⟩
      case round =>
        clear HL6 HS6 HW6
        obtain ⟨i, hi, rfl, hL, hS, hW⟩ := hrel
        by_cases hlt2 : i < n
        · have hrow : wr.rangeAt G (i * 32) (bytesV (shareL s.data.toList t.data.toList m i)) := by
            have := World.rangeAt_of_block hL (i * 32) 32
            rw [show ((bytesV (linesTo (shareB s.data.toList t.data.toList m) n 32 0)).toArray.extract (i * 32) (i * 32 + 32)).toList = bytesV (shareL s.data.toList t.data.toList m i) by
              rw [shareL, ← linesTo_row _ n i hlt2]
              simp [bytesV, List.map_take, List.map_drop]] at this
            exact this
          have Hrow := Lib.hid hrow
          have Hset := Lib.hid (splitTo_set s.data.toList t.data.toList n m i hlt2)
          have hll : (shareL s.data.toList t.data.toList m i).length = 32 := by simp [shareL]
          generalize shareL s.data.toList t.data.toList m i = sl at Hrow Hset hll
          have HL := Lib.hid hL
          have HS := Lib.hid hS
          have HW := Lib.hid hW
          have Hsz := Lib.hid (line_size sl hll)
          have H1c := Lib.hid (bytesV_one' sl)
          have Hs0 := Lib.hid (show (bytesV sl).toArray.size = zeroLine.size by rw [List.size_toArray, bytesV_length, hll]; rfl)
          have Hll := Lib.hid hll
          have HSl := Lib.hid (splitTo_len s.data.toList t.data.toList n m i)
          clear hrow hll hL hS hW
          go_wp2_with (first
            | (refine wpList_load_mid (by rfl) 141 (.tmp 85) (by rfl) G (i * 32) (by rfl) (bytesV sl) _ (by exact Hrow.out) Tryz.underlying141 rfl (by have := Hsz.out; rw [List.size_toArray] at this; exact this) ?_)
            | (refine wpList_store_whole (by rfl) 141 (.tmp 19) (.tmp 86) (by rfl) wr.heap.size (bytesV sl).toArray (by rfl) (by rfl) zeroLine 141 (by exact heap_alloc_new wr _) (by exact Hs0.out) Hsz.out H1c.out ?_))
          intro w7 hR7 hG7
          have HR7 := Lib.hid hR7
          have hW7 : Below w.heap.size w w7 := (HW.out.alloc HW.out.size _).trans (grownBy_below' hG7 HW.out.size (by have := HW.out.size; simp; omega))
          have HL7 := Lib.hid ((hG7.block G (by simp; have := cell_lt_of HL.out; omega) (fun e => by injection e with e; have := cell_lt_of HL.out; omega)).trans ((Below.heap_alloc _ _ _ (cell_lt_of HL.out)).trans HL.out))
          have HS7 := Lib.hid ((hG7.block G2 (by simp; have := cell_lt_of HS.out; omega) (fun e => by injection e with e; have := cell_lt_of HS.out; omega)).trans ((Below.heap_alloc _ _ _ (cell_lt_of HS.out)).trans HS.out))
          have HW7 := Lib.hid hW7
          clear hR7 hG7 hW7 HL HS HW
          go_wp2_with (refine wpList_load_row (by rfl) 141 (.tmp 19) (by rfl) wr.heap.size (by rfl) 141 (bytesV sl).toArray (0, 0) _ HR7.out Tryz.underlying141 rfl Hsz.out ?_)
          refine (text_line sl _ Hll.out).mono ?_
          rintro e w8 ⟨rfl, hb8⟩
          have HL8 := cells_below HL7.out hb8
          have hS8 := cells_below HS7.out hb8
          have HW8 := Below.chain HW7.out hb8
          obtain ⟨c1, f1⟩ := two_at hS8 (i * 2) (by rw [List.size_toArray, sharesV_len, HSl.out]; omega)
          obtain ⟨c2, f2⟩ := two_at hS8 (i * 2 + 1) (by rw [List.size_toArray, sharesV_len, HSl.out]; omega)
          have hS9 := blk_set (blk_set hS8 (i * 2) (.int .i64 ((i + 1 : Nat) : Int))) (i * 2 + 1) (.string (bs sl))
          rw [show (((sharesV (splitTo s.data.toList t.data.toList n m i)).toArray.setIfInBounds (i * 2) (.int .i64 ((i + 1 : Nat) : Int))).setIfInBounds (i * 2 + 1) (.string (bs sl))) = (sharesV (splitTo s.data.toList t.data.toList n m (i + 1))).toArray by
            rw [← Hset.out, ← sharesV_set _ _ _ (by rw [HSl.out]; exact hlt2)]
            simp] at hS9
          have HS9 := Lib.hid hS9
          clear hS9 hS8
          generalize (sharesV (splitTo s.data.toList t.data.toList n m i)).toArray[i * 2]'(by rw [List.size_toArray, sharesV_len, HSl.out]; omega) = v1 at c1
          generalize (sharesV (splitTo s.data.toList t.data.toList n m i)).toArray[i * 2 + 1]'(by rw [List.size_toArray, sharesV_len, HSl.out]; omega) = v2 at c2
          have HL9 := Lib.hid ((Below.heap_setCell (w8.setCell ⟨G2, i * 2, none⟩ (.int .i64 ((i + 1 : Nat) : Int))) ⟨G2, i * 2 + 1, none⟩ (.string (bs sl)) G hG2G).trans ((Below.heap_setCell w8 ⟨G2, i * 2, none⟩ (.int .i64 ((i + 1 : Nat) : Int)) G hG2G).trans HL8))
          have HW9 := Lib.hid ((HW8.setCell (p := ⟨G2, i * 2, none⟩) hG2B (.int .i64 ((i + 1 : Nat) : Int))).setCell (p := ⟨G2, i * 2 + 1, none⟩) hG2B (.string (bs sl)))
          rw [show ((i + 1 : Nat) : Int) = (i : Int) + 1 by omega] at HS9 HL9 HW9
          clear HL8 HW8 hb8
          go_wp2_with fail
          go_roundw
          case rel => exact ⟨i + 1, by omega, by go_num, HL9.out, HS9.out, HW9.out⟩
          case measure => simp [intOf]; omega
        · obtain rfl : i = n := by omega
          rw [splitTo_all] at hS
          have HO := Lib.hid (blk_own hS hG2B (show (sharesV (splitL s.data.toList t.data.toList i m)).length = i * 2 by rw [sharesV_len]; simp [splitL]) (by omega))
          have HW := Lib.hid hW
          clear hL hS hW
          go_wp2_with fail
          go_ret2
          exact ⟨G2, rfl, HO.out, HW.out⟩

/- Split3 -/
open Go.RowKit
set_option linter.unusedVariables false
set_option maxRecDepth 100000
set_option maxHeartbeats 4000000

def splitOK (s t : ByteArray) (n k : Int) : Bool := decide (s.size = 32) && decide (1 ≤ n) && decide (n ≤ 255) && decide (1 ≤ k) && decide (k ≤ n) && decide ((t.size : Int) = 32 * (k - 1))

theorem split_no (s t : ByteArray) (n k : Int) (w : World) (h : splitOK s t n k = false) :
    Calls Tryz.prog 38 #[.string s, .int .i64 n, .int .i64 k, .string t] w fun e w' => e = .returned (.tuple #[.slice none 0 0, .int .i64 1]) ∧ Below w.heap.size w w' := by
  have hW := ((Below.refl w.heap.size w).alloc (Nat.le_refl _) (.cells #[.string s] 9)).alloc (by simp) (.cells #[.string t] 9)
  by_cases h1 : s.size = 32
  · have e1 : ((s.size : Int) != 32) = false := by simp; omega
    by_cases h2 : n < 1
    · have e2 : decide (n < 1) = true := by simp; omega
      clear h h1
      go_enter Tryz.func38, Tryz.ntmps38
      go_wp2_with fail
      go_ret2
      exact ⟨rfl, hW⟩
    · have e2 : decide (n < 1) = false := by simp; omega
      by_cases h3 : 255 < n
      · have e3 : decide (255 < n) = true := by simp; omega
        clear h h1
        go_enter Tryz.func38, Tryz.ntmps38
        go_wp2_with fail
        go_ret2
        exact ⟨rfl, hW⟩
      · have e3 : decide (255 < n) = false := by simp; omega
        by_cases h4 : k < 1
        · have e4 : decide (k < 1) = true := by simp; omega
          clear h h1
          go_enter Tryz.func38, Tryz.ntmps38
          go_wp2_with fail
          go_ret2
          exact ⟨rfl, hW⟩
        · have e4 : decide (k < 1) = false := by simp; omega
          by_cases h5 : n < k
          · have e5 : decide (n < k) = true := by simp; omega
            clear h h1
            go_enter Tryz.func38, Tryz.ntmps38
            go_wp2_with fail
            go_ret2
            exact ⟨rfl, hW⟩
          · have e5 : decide (n < k) = false := by simp; omega
            have e6 : ((t.size : Int) != 32 * (k - 1)) = true := by
              rw [bne_iff_ne]
              intro e
              have : splitOK s t n k = true := by simp [splitOK]; omega
              rw [h] at this
              cases this
            clear h h1
            go_enter Tryz.func38, Tryz.ntmps38
            go_wp2_with fail
            go_ret2
            exact ⟨rfl, hW⟩
  · have e1 : ((s.size : Int) != 32) = true := by simp; omega
    clear h
    go_enter Tryz.func38, Tryz.ntmps38
    go_wp2_with fail
    go_ret2
    exact ⟨rfl, hW⟩

/-- Split, whatever it is asked. -/
theorem split_is (s t : ByteArray) (n k : Int) (h : splitOK s t n k = true) : ∃ N m : Nat, n = (N : Int) ∧ k = ((m + 1 : Nat) : Int) ∧ s.size = 32 ∧ t.size = 32 * m ∧ N ≤ 255 ∧ m + 1 ≤ N := by
  simp [splitOK] at h
  refine ⟨n.toNat, (k - 1).toNat, ?_, ?_, ?_, ?_, ?_, ?_⟩ <;> omega

end Go.Proofs.YtkbjmmigjjdfpaaGreatDoor
