/-
  Contracts of tape.New and Fork: a made tape's bytes are the stream's blocks.
-/
import Derived.Test.YtkeeejkijbaooaaDoorTapeB
import Derived.Test.YtkeeejkijbaooaaDoorSum
import Derived.Test.YtkeeejkijbaooaaDoorBlock2
namespace Go.Proofs.YtkeeejkijbaooaaDoor
open Go.RowKit
set_option linter.unusedVariables false

def nonce0 : List UInt8 := List.replicate 12 0
theorem flat_len {α : Type} {f : Nat → List α} {m : Nat} (hf : ∀ j, (f j).length = m) : ∀ n, ((List.range n).flatMap f).length = m * n
  | 0 => rfl
  | n + 1 => by
    rw [List.range_succ, List.flatMap_append, List.length_append, flat_len hf n]
    simp [hf, Nat.mul_succ]
theorem flat_at {α : Type} {f : Nat → List α} {m : Nat} (hf : ∀ j, (f j).length = m) : ∀ n j, j < n → (((List.range n).flatMap f).drop (m * j)).take m = f j
  | 0, j, h => by omega
  | n + 1, j, h => by
    rw [List.range_succ, List.flatMap_append]
    have hl := flat_len hf n
    by_cases e : j < n
    · have hle : m * j + m ≤ m * n := by rw [← Nat.mul_succ]; exact Nat.mul_le_mul_left _ e
      rw [List.drop_append_of_le_length (by rw [hl]; omega), List.take_append_of_le_length (by rw [List.length_drop, hl]; omega)]
      exact flat_at hf n j e
    · obtain rfl : j = n := by omega
      rw [← hl, List.drop_left, List.flatMap_cons, List.flatMap_nil, List.append_nil, List.take_of_length_le (Nat.le_of_eq (hf j))]
theorem blockL_len (key nonce : List UInt8) (n : Int) : (blockL key nonce n).length = 64 := by
  rw [blockL, joinL_length, sumsTo_len]
/-- The bytes of a made tape. -/
def madeL (key : List UInt8) : List UInt8 := (List.range 1024).flatMap fun j => blockL key nonce0 ((j : Nat) : Int)
theorem madeL_len (key : List UInt8) : (madeL key).length = 65536 := flat_len (fun j => blockL_len _ _ _) 1024
theorem madeL_at (key : List UInt8) (j : Nat) (h : j < 1024) : blockAt (madeL key) j = blockL key nonce0 (j : Nat) := flat_at (fun j => blockL_len _ _ _) 1024 j h
theorem rep0 : Lib.repeatL (⟨#[0]⟩ : ByteArray).data.toList 12 = nonce0 := by decide +kernel

set_option maxHeartbeats 400000 in
theorem newBlock_any (key nonce : ByteArray) (n : Int) (p q : Nat) (w : World) (hT : Turns w) (hk : key.size = 32) (ho : nonce.size = 12) (hn : Wd n) (hp : w.cell? ⟨p, 0, none⟩ = some (.string key)) (hq : w.cell? ⟨q, 0, none⟩ = some (.string nonce)) :
    Calls Tryd.prog 31 #[.int .i64 n, .pointer (some ⟨p, 0, none⟩), .pointer (some ⟨q, 0, none⟩)] w fun e w' => e = .returned (.string (bs (blockL key.data.toList nonce.data.toList n))) ∧ Below w.heap.size w w' := by
  have HT := Lib.hid hT
  have Hk := Lib.hid hk
  have Ho := Lib.hid ho
  have HN := Lib.hid hn
  clear hT hk ho hn
  go_enter Tryd.func31, Tryd.ntmps31
  go_wp2_with fail
  refine (block_yes key nonce n w HT.out Hk.out Ho.out HN.out).mono ?_
  rintro e w1 ⟨rfl, hb⟩
  go_wp2_with fail
  go_ret
  exact ⟨rfl, hb⟩

/-- The tables of packages stream and digest lie in memory, below B0. -/
structure Tabs (B0 : Nat) (w : World) : Prop where
  turns : Turns w
  rounds : Rounds w
  tt : 0 < B0
  rt : 1 < B0
theorem Tabs.below {B0 : Nat} {w w' : World} (h : Tabs B0 w) (hb : Below w.heap.size w w') : Tabs B0 w' := ⟨h.turns.below hb, h.rounds.below hb, h.tt, h.rt⟩
theorem Tabs.lt {B0 : Nat} {w : World} (h : Tabs B0 w) : 0 < w.heap.size ∧ 1 < w.heap.size :=
  ⟨cell_lt (p := ⟨0, 0 + 0, none⟩) (h.turns 0 _ rfl), cell_lt (p := ⟨1, 0 + 0, none⟩) (h.rounds 0 _ rfl)⟩
theorem Tabs.kept {B0 : Nat} {w W : World} (h : Tabs B0 w) (hk : ∀ i, i < w.heap.size → NotTape B0 w i → W.heap[i]? = w.heap[i]?) : Tabs B0 W :=
  ⟨fun j v hv => (World.cell?_of_block (hk _ h.lt.1 (.inl h.tt))).trans (h.turns j v hv), fun j v hv => (World.cell?_of_block (hk _ h.lt.2 (.inl h.rt))).trans (h.rounds j v hv), h.tt, h.rt⟩
/-- They stay while a tape is taken from. -/
theorem Tabs.tape {B0 : Nat} {w w' : World} {t : Nat} {L : List UInt8} {k : Nat} (h : Tabs B0 w) (ht : IsTape B0 w t L k) (hg : w.grownBy w' (some t)) : Tabs B0 w' := by
  obtain ⟨fn, cap, hh, _, _, _, _, hB⟩ := ht
  exact h.kept fun i hi hn => hg.block i hi (fun e => by injection e with e; subst e; exact notTape_ne hn hB hh)
theorem Tabs.of {w : World} (h : Turns w) (k : Rounds w) : Tabs w.heap.size w :=
  ⟨h, k, cell_lt (p := ⟨0, 0 + 0, none⟩) (h 0 _ rfl), cell_lt (p := ⟨1, 0 + 0, none⟩) (k 0 _ rfl)⟩

set_option maxHeartbeats 400000 in
theorem new_any (B0 : Nat) (seed : ByteArray) (w : World) (hT : Tabs B0 w) (hs : seed.size ≤ 1000000000) (hB0 : B0 ≤ w.heap.size) :
    Calls Tryd.prog 9 #[.string seed] w (OfPost B0 (madeL (sumL seed.data.toList)) w) := by
  have HT := Lib.hid hT
  have Hkl := Lib.hid (sumL_len seed.data.toList)
  clear hT
  go_enter Tryd.func9, Tryd.ntmps9
  go_wp2_with fail
  refine (sum_any seed w HT.out.rounds hs).mono ?_
  rintro e w1 ⟨rfl, hb1⟩
  generalize hkey : sumL seed.data.toList = key at Hkl ⊢
  have Hkey := Lib.hid hkey
  have HB := Lib.hid hb1
  clear hb1 hkey
  go_wp2_with fail
  refine (repeat_b ⟨#[0]⟩ 12 _ (by decide) (by decide)).mono ?_
  rintro e w2 ⟨rfl, hb2⟩
  rw [rep0]
  have hk2 := keep_one hb2
  have hlt2 : w1.heap.size < w2.heap.size := cell_lt_of hk2
  have ck : w2.cell? ⟨w1.heap.size, 0, none⟩ = some (.string (bs key)) := cell_of_one hk2
  have HK2 := Lib.hid hk2
  replace HB := Lib.hid (Below.chain_alloc HB.out hb2)
  clear hk2 hb2
  have hne : w2.heap.size ≠ w1.heap.size := by omega
  go_wp2_with fail
  refine (block_yes (bs key) (bs nonce0) 0 _ ((HT.out.turns.below HB.out).below ((Below.refl _ _).alloc (Nat.le_refl _) _)) Hkl.out rfl wd_zero).mono ?_
  rintro e w3 ⟨rfl, hb3⟩
  go_wp2_with fail
  go_ret
  have h1 : w3.heap[w1.heap.size]? = some (.cells #[.string (bs key)] 9 (0, 0)) := cells_below ((Below.heap_alloc _ _ _ hlt2).trans HK2.out) hb3
  have h2 : w3.heap[w2.heap.size]? = some (.cells #[.string (bs nonce0)] 9 (0, 0)) := keep_one hb3
  have hb := Below.chain_alloc HB.out hb3
  have hT3 := HT.out.below hb
  rw [Hkey.out]
  refine ⟨w3.heap.size, rfl, hb.size, ⟨31, #[.pointer (some ⟨w1.heap.size, 0, none⟩), .pointer (some ⟨w2.heap.size, 0, none⟩)], ?_, ?_, Nat.zero_le _, by rw [madeL_len]; omega, enters_of Tryd.func31 (by kernel_rfl) rfl, Nat.le_trans hB0 hb.size⟩, hb.alloc hb.size _⟩
  · rw [madeL_len]
    exact heap_alloc_new w3 _
  · intro W hW hz j hj
    rw [madeL_len] at hj
    rw [madeL_at key j (by omega)]
    have hlt3 := hT3.below ((Below.refl _ w3).alloc (Nat.le_refl _) (.cells #[.int .i64 65536, .int .i64 0, .func (.func 31) #[] #[.pointer (some ⟨w1.heap.size, 0, none⟩), .pointer (some ⟨w2.heap.size, 0, none⟩)]] 59))
    have e1 := (Below.heap_alloc w3 (.cells #[.int .i64 65536, .int .i64 0, .func (.func 31) #[] #[.pointer (some ⟨w1.heap.size, 0, none⟩), .pointer (some ⟨w2.heap.size, 0, none⟩)]] 59) _ (cell_lt_of h1)).trans h1
    have e2 := (Below.heap_alloc w3 (.cells #[.int .i64 65536, .int .i64 0, .func (.func 31) #[] #[.pointer (some ⟨w1.heap.size, 0, none⟩), .pointer (some ⟨w2.heap.size, 0, none⟩)]] 59) _ (cell_lt_of h2)).trans h2
    have k1 := (hW _ (cell_lt_of e1) (.inr fun cs ty fr hty e => by rw [e1] at e; simp at e; rw [← e.2.1] at hty; exact tapeTy_string hty)).trans e1
    have k2 := (hW _ (cell_lt_of e2) (.inr fun cs ty fr hty e => by rw [e2] at e; simp at e; rw [← e.2.1] at hty; exact tapeTy_string hty)).trans e2
    exact newBlock_any (bs key) (bs nonce0) j w1.heap.size w2.heap.size W (hlt3.kept hW).turns Hkl.out rfl ⟨by omega, by omega⟩ (cell_of_one k1) (cell_of_one k2)
end Go.Proofs.YtkeeejkijbaooaaDoor
