/-
  Contracts of keyholeref01.Ints and of word.Cut where the length does not fit; the law of the examples of chapter 1.
-/
import Derived.Test.YtdmppngjmpmigaaCut
import Derived.Deep.QuietTactic
import Derived.BigQuiet
namespace Go.Proofs.Ytdmppngjmpmigaa
open Go.RowKit

theorem cut_none (s : ByteArray) (high : Bool) (w : World) (h4 : s.size % 4 ≠ 0) (hs : s.size ≤ 1000000) :
    Calls Try.prog 17 #[.string s, .bool high] w fun e w' => e = .returned (.tuple #[.slice none 0 0, .bool false]) ∧ w = w' := by
  have hq0 : (((s.size : Int) % 4) != 0) = true := by rw [bne_iff_ne]; omega
  go_enter Try.func17, Try.ntmps17
  go_wp2_with fail
  go_ret2
  exact ⟨rfl, rfl⟩

set_option maxHeartbeats 400000 in
/-- two rows of numbers that are the same -/
theorem ints_same (A B : Option Addr) (n c m d : Nat) (xs : List Int) (w : World) (hA : Rd w A (ints xs)) (hB : Rd w B (ints xs)) (hn : n = xs.length) (hm : m = xs.length) (hl : xs.length ≤ 1000000) :
    Calls Try.prog 18 #[.slice A n c, .slice B m d] w fun e w' => e = .returned (.bool true) ∧ Below w.heap.size w w' := by
  subst hn hm
  have HA := Lib.hid hA
  have HB := Lib.hid hB
  clear hA hB
  go_enter Try.func18, Try.ntmps18
  go_wp2
  go_loopw [5] (fun i wr => ∃ k : Nat, k ≤ xs.length ∧ i = .int .i64 k ∧ ∃ nd, wr = w.drewN nd) (fun i _ => xs.length - (intOf i).toNat)
  case atStart => exact ⟨0, Nat.zero_le _, rfl, 0, rfl⟩
  case round =>
    obtain ⟨k, hk, rfl, nd, rfl⟩ := hrel
    by_cases hlt : k < xs.length
    · obtain ⟨b, off, rfl, hc⟩ := HA.out.int_at hlt
      obtain ⟨b', off', rfl, hc'⟩ := HB.out.int_at hlt
      generalize xs.getD k 0 = x at hc hc'
      have h1 : (k : Int) < xs.length := by omega
      go_wp2_with fail
      go_quiet (fail)
      go_wp2_with fail
      go_roundw
      case rel => exact ⟨k + 1, by omega, by go_num, _, rfl⟩
      case measure => simp [intOf]; omega
    · go_wp2
      go_ret
      exact ⟨rfl, below_drewN (Below.refl _ _) _⟩
end Go.Proofs.Ytdmppngjmpmigaa
