/-
  Contracts of the reference keyholeref10: bits, number, value.
-/
import Derived.Test.YtkeeejkijbaooaaDoorGet
namespace Go.Proofs.YtkeeejkijbaooaaDoor
open Go.RowKit
set_option linter.unusedVariables false

def nats (l : List Nat) : List Value := l.map fun n : Nat => Value.int .i64 (n : Int)
theorem nats_append (l m : List Nat) : nats (l ++ m) = nats l ++ nats m := by simp [nats]
theorem nats_length (l : List Nat) : (nats l).length = l.length := by simp [nats]
theorem nats_one (l : List Nat) : ∀ u ∈ nats l, u.oneCell' = true := fun u hu => by
  obtain ⟨x, _, rfl⟩ := List.mem_map.1 hu
  rfl
theorem bitsN_at : ∀ (m n j : Nat), j < m → (bitsN m n)[j]? = some (n / 2 ^ (m - 1 - j) % 2)
  | 0, n, j, h => by omega
  | m + 1, n, j, h => by
    rw [bitsN]
    by_cases e : j < m
    · rw [List.getElem?_append_left (by rw [bitsN_len]; exact e), bitsN_at m (n / 2) j e, Nat.div_div_eq_div_mul, ← Nat.pow_succ', show (m - 1 - j).succ = m + 1 - 1 - j by omega]
    · obtain rfl : j = m := by omega
      rw [List.getElem?_append_right (by rw [bitsN_len]; omega), bitsN_len]
      simp

def BitsPost (m n : Nat) (w : World) (e : Ending) (w' : World) : Prop :=
  ∃ g, e = .returned (.slice (some ⟨g, 0, none⟩) m m) ∧ Rd w' (some ⟨g, 0, none⟩) (nats (bitsN m n)) ∧ Below w.heap.size w w' ∧ w.heap.size ≤ g

set_option maxHeartbeats 400000 in
theorem bits_any (n m : Nat) (w : World) (hn : n < 1000000) (hm : m ≤ 100) (hm0 : 0 < m) :
    Calls Tryd.prog 54 #[.int .i64 (n : Int), .int .i64 (m : Int)] w (BitsPost m n w) := by
  have hmk := fun W => run_make_row' (P := Tryd.prog) 71 3 (.int .i64 0) 8 Tryd.underlying71 int_info rfl .i64 .i64 m (by omega) (by omega) W
  go_enter Tryd.func54, Tryd.ntmps54
  go_wp2_with fail
  go_loopw [0, 6] (fun x i wr => ∃ k : Nat, k ≤ m ∧ i = .int .i64 ((m : Int) - 1 - (k : Int)) ∧ x = .int .i64 ((n / 2 ^ k : Nat) : Int) ∧ wr.rowIs w.heap.size 3 m (fun j => .int .i64 (if m ≤ j + k then ((n / 2 ^ (m - 1 - j) % 2 : Nat) : Int) else 0)) ∧ Below w.heap.size w wr) (fun x i _ => (intOf i + 1).toNat)
  case atStart =>
    refine ⟨0, Nat.zero_le _, by simp, by simp, ?_, (Below.refl _ _).alloc (Nat.le_refl _) _⟩
    refine (World.rowIs_made _ _ _ _).congr fun j hj => ?_
    rw [if_neg (by omega)]
  case round =>
    obtain ⟨k, hk, rfl, rfl, hrow, hb⟩ := hrel
    by_cases hlt : k < m
    · obtain ⟨i, hi⟩ : ∃ i, i = m - 1 - k := ⟨_, rfl⟩
      have hii : (m : Int) - 1 - (k : Int) = (i : Int) := by omega
      have him : i < m := by omega
      obtain ⟨u, hc⟩ : ∃ u, wr.cell? ⟨w.heap.size, i, none⟩ = some (.int .i64 u) := ⟨_, hrow.cell (i := i) him⟩
      have hf := hrow.frozen i
      have hx : n / 2 ^ k ≤ n := Nat.div_le_self _ _
      have Hxx := Lib.hid (show n / 2 ^ k / 2 = n / 2 ^ (k + 1) by rw [Nat.div_div_eq_div_mul, Nat.pow_succ])
      have Hx2 := Lib.hid (show m - 1 - i = k by omega)
      have Hrow := Lib.hid hrow
      generalize hxe : n / 2 ^ k = x at hx Hxx
      have Hxe := Lib.hid hxe
      clear hxe
      rw [hii]
      have Hii := Lib.hid hii
      clear hrow hi hii
      go_wp2_with fail
      go_roundw
      case rel =>
        refine ⟨k + 1, by omega, ?_, by rw [← Hxx.out]; go_num, ?_, hb.setCell (Nat.le_refl _) _⟩
        · have := Hii.out; go_num
        · refine (Hrow.out.set i _).congr fun j hj => ?_
          have hik := Hii.out
          by_cases e : j = i
          · rw [if_pos e, e, if_pos (by omega), Hx2.out, Hxe.out]
            simp
          · rw [if_neg e]
            by_cases e2 : m ≤ j + k
            · rw [if_pos e2, if_pos (by omega)]
            · rw [if_neg e2, if_neg (by omega)]
      case measure => have := Hii.out; simp [intOf] <;> omega
    · obtain rfl : k = m := by omega
      have hrd : Rd wr (some ⟨w.heap.size, 0, none⟩) (nats (bitsN k n)) := fun j u hu => by
        have hj : j < k := by
          rcases Nat.lt_or_ge j k with h | h
          · exact h
          · rw [List.getElem?_eq_none (by rw [nats_length, bitsN_len]; exact h)] at hu; cases hu
        refine ⟨_, _, rfl, ?_⟩
        rw [Nat.zero_add, hrow.cell hj, if_pos (by omega)]
        rw [nats, List.getElem?_map, bitsN_at k n j hj] at hu
        exact hu
      have Hrd := Lib.hid hrd
      clear hrow hrd
      go_wp2_with fail
      go_ret
      exact ⟨w.heap.size, rfl, Hrd.out, hb, Nat.le_refl _⟩

theorem rd_nat {w : World} {A : Option Addr} {xs : List Nat} {i : Nat} (h : Rd w A (nats xs)) (hi : i < xs.length) :
    ∃ b off, A = some ⟨b, off, none⟩ ∧ w.cell? ⟨b, off + i, none⟩ = some (.int .i64 ((xs.getD i 0 : Nat) : Int)) :=
  h i _ (by simp [nats, hi])
set_option maxHeartbeats 400000 in
theorem number_any10 (A : Option Addr) (c : Nat) (l : List Nat) (w : World) (h : Rd w A (nats l)) (hl : l.length ≤ 20) (hd : ∀ x ∈ l, x < 2) :
    Calls Tryd.prog 55 #[.slice A l.length c] w fun e w' => e = .returned (.int .i64 ((numOf l : Nat) : Int)) ∧ w = w' := by
  have H := Lib.hid h
  have Hd := Lib.hid hd
  clear h hd
  go_enter Tryd.func55, Tryd.ntmps55
  go_wp2
  go_loop [3, 4] (fun x i => ∃ k : Nat, k ≤ l.length ∧ i = .int .i64 k ∧ x = .int .i64 ((numOf (l.take k) : Nat) : Int)) (fun _ i => l.length - (intOf i).toNat)
  case atStart => exact ⟨0, Nat.zero_le _, rfl, rfl⟩
  case round =>
    obtain ⟨k, hk, rfl, rfl⟩ := hrel
    by_cases hlt : k < l.length
    · obtain ⟨b, off, rfl, hc⟩ := rd_nat H.out hlt
      have hb := numOf_lt k (l.take k) (by simp; omega) (fun x hx => Hd.out x (List.mem_of_mem_take hx))
      have hb2 : 2 ^ k ≤ 2 ^ 20 := Nat.pow_le_pow_right (by omega) (by omega)
      have hn : numOf (l.take k) ≤ 1048576 := by omega
      have Hs := Lib.hid (show numOf (l.take (k + 1)) = 2 * numOf (l.take k) + l.getD k 0 by
        rw [List.take_succ_eq_append_getElem hlt, numOf_snoc]
        simp [hlt])
      have hx : l.getD k 0 < 2 := by
        have : l.getD k 0 = l[k] := by simp [hlt]
        rw [this]
        exact Hd.out _ (List.getElem_mem hlt)
      generalize l.getD k 0 = x at hc Hs hx
      generalize numOf (l.take k) = s at Hs hn
      clear hb hb2
      go_wp2
      go_round
      case rel => exact ⟨k + 1, by omega, by go_num, by rw [Hs.out]; go_num⟩
      case measure => simp [intOf]; omega
    · go_wp2
      go_ret
      exact ⟨ret_int (by rw [List.take_of_length_le (by omega)]), rfl⟩

theorem number_n (A : Option Addr) (n c : Nat) (l : List Nat) (w : World) (h : Rd w A (nats l)) (hn : n = l.length) (hl : l.length ≤ 20) (hd : ∀ x ∈ l, x < 2) :
    Calls Tryd.prog 55 #[.slice A n c] w fun e w' => e = .returned (.int .i64 ((numOf l : Nat) : Int)) ∧ w = w' := by
  subst hn
  exact number_any10 A c l w h hl hd
theorem valI_none (c : UInt8) (h : ∀ j, j < 32 → letterC j ≠ c) : valI c = -1 := by
  have h1 := Lib.indexByte_ge lettersT c
  have h2 := valI_lt c
  by_cases h0 : 0 ≤ valI c
  · exact absurd (letter_val c h0) (h _ (by omega))
  · have : -1 ≤ valI c := h1
    omega
set_option maxHeartbeats 400000 in
set_option maxRecDepth 100000 in
theorem value_any (c : UInt8) (w : World) :
    Calls Tryd.prog 53 #[.int .u8 (c.toNat : Int)] w fun e w' => e = .returned (.int .i64 (valI c)) ∧ w = w' := by
  go_enter Tryd.func53, Tryd.ntmps53
  go_wp2
  go_loop [3] (fun i => ∃ k : Nat, k ≤ 32 ∧ i = .int .i64 k ∧ ∀ j, j < k → letterC j ≠ c) (fun i => 32 - (intOf i).toNat)
  case atStart => exact ⟨0, Nat.zero_le _, rfl, fun j h => by omega⟩
  case round =>
    obtain ⟨k, hk, rfl, hall⟩ := hrel
    have Hall := Lib.hid hall
    clear hall
    by_cases hlt : k < 32
    · have hk32 : (k : Int) < 32 := by omega
      by_cases he : letterC k = c
      · have hq : ((⟨#[97, 98, 99, 100, 101, 102, 103, 104, 105, 106, 107, 108, 109, 110, 111, 112, 113, 114, 115, 116, 117, 118, 119, 120, 121, 122, 50, 51, 52, 53, 54, 55]⟩ : ByteArray)[k]'hlt) = c := by rw [lit_letter]; exact he
        have He := Lib.hid (show valI c = k by rw [← he, val_letter k hlt])
        clear he
        go_wp2
        go_ret
        exact ⟨ret_int He.out.symm, rfl⟩
      · have hq : (((⟨#[97, 98, 99, 100, 101, 102, 103, 104, 105, 106, 107, 108, 109, 110, 111, 112, 113, 114, 115, 116, 117, 118, 119, 120, 121, 122, 50, 51, 52, 53, 54, 55]⟩ : ByteArray)[k]'hlt).toNat == c.toNat) = false := by
          rw [lit_letter]
          exact beq_eq_false_iff_ne.2 fun e => he (UInt8.toNat_inj.1 e)
        have hq2 : ((((⟨#[97, 98, 99, 100, 101, 102, 103, 104, 105, 106, 107, 108, 109, 110, 111, 112, 113, 114, 115, 116, 117, 118, 119, 120, 121, 122, 50, 51, 52, 53, 54, 55]⟩ : ByteArray)[k]'hlt).toNat : Int) == (c.toNat : Int)) = false := by
          rw [lit_letter]
          exact beq_eq_false_iff_ne.2 fun e => he (UInt8.toNat_inj.1 (by omega))
        have He := Lib.hid he
        clear he
        go_wp2
        go_round
        case rel => exact ⟨k + 1, by omega, by go_num, fun j hj => by
          by_cases e : j = k
          · rw [e]; exact He.out
          · exact Hall.out j (by omega)⟩
        case measure => simp [intOf]; omega
    · obtain rfl : k = 32 := by omega
      go_wp2
      go_ret
      exact ⟨ret_int (by rw [valI_none c Hall.out]), rfl⟩
end Go.Proofs.YtkeeejkijbaooaaDoor
