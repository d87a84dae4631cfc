/-
  Contract of keyholelaw21.has: does a text have another one in it?
-/
import Derived.Test.YtniglledpjheaaaGreatDoorHr
namespace Go.Proofs.YtniglledpjheaaaGreatDoor
open Go.RowKit
set_option linter.unusedVariables false
set_option maxRecDepth 100000
set_option maxHeartbeats 1000000

def partAt (s p : ByteArray) (i : Nat) : Bool := decide (i + p.size ≤ s.size) && decide (s.extract i (i + p.size) = p)
def partB (s p : ByteArray) : Bool := (List.range (s.size + 1)).any (partAt s p)
theorem part_short {s p : ByteArray} (h : s.size < p.size) : partB s p = false := by
  unfold partB
  rw [List.any_eq_false]
  intro i _
  simp [partAt]
  omega
theorem has_any (s p : ByteArray) (w : World) (hs : s.size ≤ 100000) (hp : p.size ≤ 100000) :
    Calls Tryz.prog 15 #[.string s, .string p] w fun e w' => e = .returned (.bool (partB s p)) ∧ w' = w := by
  obtain ⟨r, hr⟩ : ∃ r, r = partB s p := ⟨_, rfl⟩
  have HR := Lib.hid hr
  rw [← hr]
  clear hr
  go_enter Tryz.func15, Tryz.ntmps15
  go_wp2_with fail
  go_loopw [5] (fun x wr => ∃ k : Nat, k ≤ s.size + 1 ∧ x = .int .i64 (k : Nat) ∧ (List.range k).any (partAt s p) = false ∧ wr = w) (fun x _ => s.size + 1 - (intOf x).toNat)
  case atStart => exact ⟨0, by omega, rfl, by simp, rfl⟩
  case round =>
    obtain ⟨k, hk, rfl, hf, rfl⟩ := hrel
    have HF := Lib.hid hf
    clear hf
    by_cases hlt : k + p.size ≤ s.size
    · have e1 : decide ((k : Int) + (p.size : Int) ≤ (s.size : Int)) = true := by simp; omega
      have hsl : (Instr.slice 9 (.string s) (some (.int .i64 (k : Int))) (some (.int .i64 ((k : Int) + (p.size : Int)))) none).run Tryz.prog wr = .ok (.string (s.extract k (k + p.size))) wr := by
        have h := run_slice_string (P := Tryz.prog) wr 9 s .i64 .i64 (k : Int) ((k : Int) + (p.size : Int)) Tryz.underlying9 (by omega) (by omega) (by omega)
        rw [show ((k : Int) + (p.size : Int)).toNat = k + p.size by omega, Int.toNat_natCast] at h
        exact h
      by_cases he : s.extract k (k + p.size) = p
      · have e2 : ((s.extract k (k + p.size)).toList == p.toList) = true := by rw [text_dec]; simpa using he
        have Hr := Lib.hid (show r = true by rw [HR.out]; exact List.any_eq_true.2 ⟨k, by simp; omega, by simp [partAt, hlt, he]⟩)
        clear he
        go_wp2_with fail
        go_ret
        rw [Hr.out]
        exact ⟨rfl, rfl⟩
      · have e2 : ((s.extract k (k + p.size)).toList == p.toList) = false := by rw [text_dec]; simpa using he
        have Hn := Lib.hid (show (List.range (k + 1)).any (partAt s p) = false by rw [List.range_succ, List.any_append, HF.out]; simp [partAt, he])
        clear he
        go_wp2_with fail
        go_roundw
        case rel => exact ⟨k + 1, by omega, by go_num, Hn.out, trivial⟩
        case measure => simp [intOf]; omega
    · have e1 : decide ((k : Int) + (p.size : Int) ≤ (s.size : Int)) = false := by simp; omega
      have Hr := Lib.hid (show r = false by
        rw [HR.out, partB, List.any_eq_false]
        intro i hi
        by_cases h : i < k
        · exact List.any_eq_false.1 HF.out i (by simpa using h)
        · simp [partAt]; omega)
      go_wp2_with fail
      go_ret
      rw [Hr.out]
      exact ⟨rfl, rfl⟩
end Go.Proofs.YtniglledpjheaaaGreatDoor
