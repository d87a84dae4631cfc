/-
  Contracts of keyholeref01.Unlike and Bytes.
-/
import Derived.Test.YtdmppngjmpmigaaDoorStreams
import Derived.Maps.AppendAt
import Derived.Deep.AppendLies
namespace Go.Proofs.YtdmppngjmpmigaaDoor
open Go.RowKit
set_option linter.unusedVariables false

def unlikeTo (a b : Nat) : Nat → Nat
  | 0 => 0
  | i + 1 => unlikeTo a b i + (if (a / 2 ^ i) % 2 = (b / 2 ^ i) % 2 then 0 else 2 ^ i)
theorem unlikeTo_eq (a b : Nat) : ∀ i, unlikeTo a b i = (a ^^^ b) % 2 ^ i
  | 0 => by simp [unlikeTo, Nat.mod_one]
  | i + 1 => by
    have h := Nat.testBit_xor a b i
    rw [Nat.testBit_eq_decide_div_mod_eq, Nat.testBit_eq_decide_div_mod_eq, Nat.testBit_eq_decide_div_mod_eq] at h
    rw [unlikeTo, unlikeTo_eq a b i, Nat.pow_succ, Nat.mod_mul]
    have h1 : a / 2 ^ i % 2 < 2 := Nat.mod_lt _ (by omega)
    have h2 : b / 2 ^ i % 2 < 2 := Nat.mod_lt _ (by omega)
    have h3 : (a ^^^ b) / 2 ^ i % 2 < 2 := Nat.mod_lt _ (by omega)
    generalize a / 2 ^ i % 2 = x at h1 h ⊢
    generalize b / 2 ^ i % 2 = y at h2 h ⊢
    generalize (a ^^^ b) / 2 ^ i % 2 = z at h3 h ⊢
    have hx : x = 0 ∨ x = 1 := by omega
    have hy : y = 0 ∨ y = 1 := by omega
    have hz : z = 0 ∨ z = 1 := by omega
    rcases hx with rfl | rfl <;> rcases hy with rfl | rfl <;> rcases hz with rfl | rfl <;> simp at h ⊢

set_option maxHeartbeats 400000 in
theorem unlike_any (a b : Nat) (w : World) (ha : a < 4294967296) (hb : b < 4294967296) :
    Calls Tryd.prog 14 #[.int .i64 (a : Nat), .int .i64 (b : Nat)] w fun e w' => e = .returned (.int .i64 ((a ^^^ b : Nat) : Int)) ∧ w' = w := by
  go_enter Tryd.func14, Tryd.ntmps14
  go_wp2_with fail
  go_loop [0, 1, 5, 6, 7] (fun x y n p i => ∃ k : Nat, k ≤ 32 ∧ i = .int .i64 k ∧ x = .int .i64 (a / 2 ^ k : Nat) ∧ y = .int .i64 (b / 2 ^ k : Nat) ∧ p = .int .i64 (2 ^ k : Nat) ∧ n = .int .i64 (unlikeTo a b k : Nat)) (fun _ _ _ _ i => 32 - (intOf i).toNat)
  case atStart => exact ⟨0, by omega, rfl, by simp, by simp, rfl, rfl⟩
  case round =>
    obtain ⟨k, hk, rfl, rfl, rfl, rfl, rfl⟩ := hrel
    have hu : unlikeTo a b k < 2 ^ k := by rw [unlikeTo_eq]; exact Nat.mod_lt _ (Nat.two_pow_pos _)
    have hp : 2 ^ k ≤ 2 ^ 32 := Nat.pow_le_pow_right (by omega) hk
    have hx : a / 2 ^ k ≤ a := Nat.div_le_self _ _
    have hy : b / 2 ^ k ≤ b := Nat.div_le_self _ _
    have Hsu := Lib.hid (show unlikeTo a b (k + 1) = unlikeTo a b k + (if (a / 2 ^ k) % 2 = (b / 2 ^ k) % 2 then 0 else 2 ^ k) from rfl)
    have Hx := Lib.hid (show a / 2 ^ (k + 1) = a / 2 ^ k / 2 by rw [Nat.pow_succ, Nat.div_div_eq_div_mul])
    have Hy := Lib.hid (show b / 2 ^ (k + 1) = b / 2 ^ k / 2 by rw [Nat.pow_succ, Nat.div_div_eq_div_mul])
    have Hp := Lib.hid (show 2 ^ (k + 1) = 2 * 2 ^ k by rw [Nat.pow_succ, Nat.mul_comm])
    by_cases hlt : k < 32
    · generalize unlikeTo a b k = u at hu Hsu
      generalize a / 2 ^ k = x at hx Hx Hsu
      generalize b / 2 ^ k = y at hy Hy Hsu
      generalize 2 ^ k = p at hp hu Hp Hsu
      by_cases hxy : x % 2 = y % 2
      · have hB : (((x : Int) % 2) != ((y : Int) % 2)) = false := by
          have : (x : Int) % 2 = (y : Int) % 2 := by omega
          simp [this]
        go_wp2_with fail
        go_round
        case rel =>
          refine ⟨k + 1, by omega, by go_num, ?_, ?_, ?_, ?_⟩
          · rw [Hx.out]; go_num
          · rw [Hy.out]; go_num
          · rw [Hp.out]; go_num
          · rw [Hsu.out, if_pos hxy]; go_num
        case measure => simp [intOf]; omega
      · have hB : (((x : Int) % 2) != ((y : Int) % 2)) = true := by
          rw [bne_iff_ne]
          omega
        go_wp2_with fail
        go_round
        case rel =>
          refine ⟨k + 1, by omega, by go_num, ?_, ?_, ?_, ?_⟩
          · rw [Hx.out]; go_num
          · rw [Hy.out]; go_num
          · rw [Hp.out]; go_num
          · rw [Hsu.out, if_neg hxy]; go_num
        case measure => simp [intOf]; omega
    · obtain rfl : k = 32 := by omega
      have Hf := Lib.hid (show unlikeTo a b 32 = a ^^^ b by
        rw [unlikeTo_eq, Nat.mod_eq_of_lt]
        exact Nat.xor_lt_two_pow (by omega) (by omega))
      clear hu hp hx hy
      go_wp2_with fail
      go_ret
      exact ⟨ret_int (by rw [Hf.out]), rfl⟩

/-- The bytes in which two texts are unlike. -/
def unlikeL (a b : List UInt8) : List UInt8 := (List.range (min a.length b.length)).map fun i => a.getD i 0 ^^^ b.getD i 0
theorem unlikeL_take (a b : List UInt8) (k : Nat) (h : k < min a.length b.length) : (unlikeL a b).take (k + 1) = (unlikeL a b).take k ++ [a.getD k 0 ^^^ b.getD k 0] := by
  rw [List.take_succ_eq_append_getElem (by simpa [unlikeL] using h)]
  simp [unlikeL]
theorem conv_own {w : World} {B n : Nat} {v : Value} {l : List UInt8} (h : w.ownsRow B 5 1 v n (Lib.byteCells l)) (hn : n = l.length) :
    (convert 34 9 v).run Tryd.prog w = .ok (.string (bs l)) w := by
  rcases h.2 with ⟨rfl, h0⟩ | ⟨g, cap, cur, rfl, hg, hh, hnc, hcm, hcs, htk⟩
  · have hl : l = [] := List.eq_nil_of_length_eq_zero (by omega)
    subst hl
    exact run_convert_bytes_nil w 34 5 Tryd.underlying34 Tryd.underlying5 0 0 9 Tryd.underlying9
  · subst hn
    refine run_convert_bytes_back (P := Tryd.prog) w 34 9 5 ⟨g, 0, none⟩ cap l Tryd.underlying34 Tryd.underlying5 Tryd.underlying9 fun j hj => ?_
    have hc := h.cells (g := g) rfl j (.int .u8 (l[j].toNat : Int)) (by simp [Lib.byteCells, hj])
    exact hc

set_option maxHeartbeats 1000000 in
theorem bytes_any (a b : ByteArray) (w : World) (ha : a.size ≤ 100000) (hb : b.size ≤ 100000) :
    Calls Tryd.prog 8 #[.string a, .string b] w fun e w' => e = .returned (.string (bs (unlikeL a.data.toList b.data.toList))) ∧ Below w.heap.size w w' := by
  obtain ⟨i0, hi, hz0, hz1, hz2⟩ := info_parts byte_info
  obtain ⟨m, hm⟩ : ∃ m, m = min a.size b.size := ⟨_, rfl⟩
  have hma : m ≤ a.size := by omega
  have hmb : m ≤ b.size := by omega
  have Hm := Lib.hid hm
  have HI := Lib.hid hi
  have HZ0 := Lib.hid hz0
  have HZ1 := Lib.hid hz1
  have HZ2 := Lib.hid hz2
  have Hml : Hid (m = min a.data.toList.length b.data.toList.length) := hm
  clear hm hi hz0 hz1 hz2
  go_enter Tryd.func8, Tryd.ntmps8
  go_wp2_with fail
  go_loopw [5, 6] (fun v i wr => ∃ k : Nat, k ≤ m ∧ i = .int .i64 k ∧ wr.ownsRow w.heap.size 5 1 v k (Lib.byteCells ((unlikeL a.data.toList b.data.toList).take k)) ∧ Below w.heap.size w wr) (fun _ i _ => m - (intOf i).toNat)
  case atStart => exact ⟨0, Nat.zero_le _, rfl, ⟨by simp [Lib.byteCells], .inl ⟨rfl, rfl⟩⟩, Below.refl _ _⟩
  case round =>
    obtain ⟨k, hk, rfl, hown, hbel⟩ := hrel
    by_cases hlt : k < m
    · have hka : k < a.size := by omega
      have hkb : k < b.size := by omega
      have Hst := Lib.hid (unlikeL_take a.data.toList b.data.toList k (by rw [← Hml.out]; exact hlt))
      have hkaI : (k : Int) < (a.size : Int) := by omega
      have hkbI : (k : Int) < (b.size : Int) := by omega
      have HO := Lib.hid hown
      have HB := Lib.hid hbel
      clear hown hbel
      have hxa : IntKind.i64.wrap (a[k].toNat : Int) = (a[k].toNat : Int) := IntWalk.i64_in _ (by have := a[k].toNat_lt; omega)
      have hxb : IntKind.i64.wrap (b[k].toNat : Int) = (b[k].toNat : Int) := IntWalk.i64_in _ (by have := b[k].toNat_lt; omega)
      obtain ⟨x, hx⟩ : ∃ x, x = a[k] := ⟨_, rfl⟩
      obtain ⟨y, hy⟩ : ∃ y, y = b[k] := ⟨_, rfl⟩
      have hix : ∀ W, (Instr.index 9 (.string a) (.int .i64 (k : Int))).run Tryd.prog W = .ok (.int .u8 (x.toNat : Int)) W := fun W => by
        rw [hx]
        simp [go_sem, hkaI]
      have hiy : ∀ W, (Instr.index 9 (.string b) (.int .i64 (k : Int))).run Tryd.prog W = .ok (.int .u8 (y.toNat : Int)) W := fun W => by
        rw [hy]
        simp [go_sem, hkbI]
      rw [← hx] at hxa
      rw [← hy] at hxb
      have Hxy := Lib.hid (show x ^^^ y = a.data.toList.getD k 0 ^^^ b.data.toList.getD k 0 by
        rw [hx, hy]
        simp [ByteArray.getElem_eq_getElem_data, hka, hkb])
      clear hx hy
      have hcv : IntKind.u8.wrap ((x.toNat ^^^ y.toNat : Nat) : Int) = (((x ^^^ y).toNat : Nat) : Int) := by
        have h1 := x.toNat_lt
        have h2 := y.toNat_lt
        have h3 : x.toNat ^^^ y.toNat < 2 ^ 8 := Nat.xor_lt_two_pow (by omega) (by omega)
        rw [IntKind.wrap_u8, UInt8.toNat_xor]
        omega
      have hbs := HB.out.size
      go_wp2_with fail
      go_region_law (first
        | (refine step_append_lies _ (by rfl) _ _ 34 (by rfl) w.heap.size 5 i0 (.int .u8 0) 1 1 Tryd.underlying34 HI.out HZ0.out HZ1.out HZ2.out rfl (by omega) u5 k _ (by rfl) ((HO.out.alloc _).drew) ⟨wr.heap.size, 0, none⟩ 1 1 [.int .u8 ((x ^^^ y).toNat : Int)] (by rfl) (by rfl) (World.news_of_block (cs := #[.int .u8 ((x ^^^ y).toNat : Int)]) (t := 5) (fr := (0, 0)) (heap_alloc_new wr _)) (by simp [Value.oneCell']) (by omega) (by unfold maxLen; omega) (by omega) (by simp; omega) (wr.heap.size + 1) (by simp) ?_; intro gg cap w1 hown1 hgrow hat hlt1)
        | (go_simp; go_at_call 14; refine (unlike_any x.toNat y.toNat _ (by have := x.toNat_lt; omega) (by have := y.toNat_lt; omega)).mono ?_; rintro e w' ⟨rfl, rfl⟩))
      all_goals
        have HO1 := Lib.hid hown1
        have HB1 := Lib.hid (Below.grown ((HB.out.alloc hbs _).drew) hgrow (by simp; omega) (fun g hg => (HO.out.lt g hg).1))
        clear hown1 hgrow hat
        go_wp2_with fail
        go_roundw
        case rel =>
          refine ⟨k + 1, by omega, by go_num, ?_, HB1.out⟩
          have h := HO1.out
          rw [Hst.out, Lib.byteCells_append]
          rw [Hxy.out] at h
          exact h
        case measure => simp [intOf]; omega
    · obtain rfl : k = m := by omega
      have hke : (unlikeL a.data.toList b.data.toList).take k = unlikeL a.data.toList b.data.toList := List.take_of_length_le (by rw [Hml.out]; simp [unlikeL])
      rw [hke] at hown
      have hcv := conv_own hown (by rw [Hml.out]; simp [unlikeL])
      have HB := Lib.hid hbel
      have hge : ¬ ((k : Int) < a.size ∧ (k : Int) < b.size) := by have := Hm.out; omega
      generalize hres : unlikeL a.data.toList b.data.toList = res at hcv
      have Hres := Lib.hid hres
      clear hres
      clear hown hbel hke
      by_cases hka : (k : Int) < (a.size : Int)
      · have hkb : ¬ (k : Int) < (b.size : Int) := fun e => hge ⟨hka, e⟩
        clear hge
        go_wp2_with fail
        go_ret
        rw [Hres.out]
        exact ⟨rfl, HB.out⟩
      · clear hge
        go_wp2_with fail
        go_ret
        rw [Hres.out]
        exact ⟨rfl, HB.out⟩
end Go.Proofs.YtdmppngjmpmigaaDoor
