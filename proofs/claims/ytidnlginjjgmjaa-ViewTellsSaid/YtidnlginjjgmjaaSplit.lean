/-
  Contract of share.Split: the digits of a byte (Split$1), and the shares.
-/
import Derived.Test.YtidnlginjjgmjaaLine
namespace Go.Proofs.Ytidnlginjjgmjaa
open Go.RowKit
set_option linter.unusedVariables false
set_option maxRecDepth 100000
set_option maxHeartbeats 2000000

/-- The digits of byte j: the secret's, and m of the tape. -/
def colL (s t : List UInt8) (j m : Nat) : List UInt8 := s.getD j 0 :: (List.range m).map fun q => t.getD (j + 32 * q) 0
theorem colL_len (s t : List UInt8) (j m : Nat) : (colL s t j m).length = m + 1 := by simp [colL]
theorem colL_snoc (s t : List UInt8) (j m : Nat) : colL s t j (m + 1) = colL s t j m ++ [t.getD (j + 32 * m) 0] := by simp [colL, List.range_succ]
theorem nums_append (l m : List UInt8) : nums (l ++ m) = nums l ++ nums m := by simp [nums]
theorem ints_append (l m : List Int) : ints (l ++ m) = ints l ++ ints m := by simp [ints]

theorem wrap64_u8 (x : UInt8) : wrap64 (x.toNat : Int) = (x.toNat : Int) := by
  have := x.toNat_lt
  exact IntWalk.wrap64_in _ ⟨by omega, by omega⟩

theorem split1_any (s t : ByteArray) (j m gs gt : Nat) (w : World) (hs : Box w gs 9 (.string s)) (ht : Box w gt 9 (.string t)) (hj : j < 32) (hsz : s.size = 32) (htz : t.size = 32 * m) (hm : m ≤ 300) :
    Calls Try.prog 25 #[.int .i64 (j : Int), .pointer (some ⟨gs, 0, none⟩), .pointer (some ⟨gt, 0, none⟩)] w fun e w' => ∃ A c, e = .returned (.slice A (m + 1) c) ∧ w'.ownsRow w.heap.size 3 1 (.slice A (m + 1) c) (m + 1) (ints (nums (colL s.data.toList t.data.toList j m))) ∧ Below w.heap.size w w' := by
  have Hs := Lib.hid hs
  have Ht := Lib.hid ht
  have cs := one_cell hs
  have Hsx := Lib.hid (str_at s j (by omega))
  have hjs : (j : Int) < (s.size : Int) := by omega
  clear hs ht
  go_enter Try.func25, Try.ntmps25
  go_wp2_with fail
  rw [Hsx.out]
  obtain ⟨x, hx⟩ : ∃ x, x = s.data.toList.getD j 0 := ⟨_, rfl⟩
  rw [← hx, wrap64_u8]
  have Hx := Lib.hid hx
  clear hx Hsx
  have HO0 := Lib.hid (own_new (w := w) (B := w.heap.size) (e := 3) (size := 1) (n := 1) (cs := (ints (nums [x])).toArray) (Nat.le_refl _) rfl (by decide))
  go_loopw [5, 6] (fun v a wr => ∃ (q : Nat) (A : Option Addr) (cap : Nat), q ≤ m ∧ a = .int .i64 ((j + 32 * q : Nat) : Int) ∧ v = .slice A (q + 1) cap ∧ wr.ownsRow w.heap.size 3 1 v (q + 1) (ints (nums (colL s.data.toList t.data.toList j q))) ∧ Below w.heap.size w wr) (fun _ a _ => j + 32 * m - (intOf a).toNat)
  case atStart => exact ⟨0, _, _, by omega, by simp, rfl, by rw [show colL s.data.toList t.data.toList j 0 = [x] by rw [Hx.out]; rfl]; exact HO0.out, (Below.refl _ _).alloc (Nat.le_refl _) _⟩
  case round =>
    obtain ⟨q, A, cap, hq, rfl, rfl, ho, hb⟩ := hrel
    have ct := one_cell (cells_below Ht.out hb)
    obtain ⟨T, hT⟩ : ∃ T, T = j + 32 * q := ⟨_, rfl⟩
    rw [← hT]
    by_cases hlt : q < m
    · have hTl : T < t.size := by omega
      have hTi : (T : Int) < (t.size : Int) := by omega
      have hTb : T ≤ 100000 := by omega
      have Htx := Lib.hid (str_at t T hTl)
      have HO := Lib.hid ho
      have HT := Lib.hid hT
      clear ho hT
      go_wp2_with (refine wpList_append_new (by rfl) (.tmp 19) (.tmp 24) 48 (by rfl) w.heap.size 3 (.int .i64 0) 1 8 Try.underlying48 int_info rfl (by omega) wr _ _ _ _ _ (by rfl) HO.out _ 1 1 (by rfl) (by rfl) (by rfl) (by rfl) (by omega) (by omega) (by omega) (by exact hb.size) ?_)
      intro g2 cap2 w2 ho2 hb2 _ _ _
      rw [Htx.out, wrap64_u8] at ho2
      have HO2 := Lib.hid ho2
      clear ho2
      go_wp2_with fail
      go_roundw
      case rel =>
        refine ⟨q + 1, _, cap2, by omega, by have := HT.out; go_num, rfl, ?_, hb.trans hb2⟩
        have := HO2.out
        rw [HT.out] at this
        rw [colL_snoc, nums_append, ints_append]
        exact this
      case measure => have := HT.out; simp [intOf]; omega
    · obtain rfl : q = m := by omega
      have HO := Lib.hid ho
      clear ho
      go_wp2_with fail
      go_ret
      exact ⟨A, cap, rfl, HO.out, hb⟩
end Go.Proofs.Ytidnlginjjgmjaa
