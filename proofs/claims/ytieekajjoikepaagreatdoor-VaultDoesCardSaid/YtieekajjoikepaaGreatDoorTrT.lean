/-
  Plain: trees of digests (rows of Sums), and their root.
-/
import Derived.Test.YtieekajjoikepaaGreatDoorSm
import Derived.Test.YtieekajjoikepaaGreatDoorTxt
namespace Go.Proofs.YtieekajjoikepaaGreatDoor
open Go.RowKit
set_option linter.unusedVariables false

def leafX (s : ByteArray) : ByteArray := ⟨#[0]⟩ ++ s
def nodeX (a b : ByteArray) : ByteArray := ⟨#[1]⟩ ++ a ++ b
def leafT (s : ByteArray) : ByteArray := bs (sumL (leafX s).data.toList)
def nodeT (a b : ByteArray) : ByteArray := bs (sumL (nodeX a b).data.toList)
theorem leafT_size (s : ByteArray) : (leafT s).size = 32 := by unfold leafT; rw [bs_size, sumL_len]
theorem nodeT_size (a b : ByteArray) : (nodeT a b).size = 32 := by unfold nodeT; rw [bs_size, sumL_len]
def mayB (n : Nat) : Bool := decide (1 ≤ n) && decide (n ≤ 1024) && decide (n &&& (n - 1) = 0)
theorem may_pow {n : Nat} (h : mayB n = true) : ∃ H, H ≤ 10 ∧ n = 2 ^ H := by
  have key : ∀ m, m < 1025 → mayB m = true → ∃ H, H < 11 ∧ m = 2 ^ H := by decide +kernel
  have hn : n < 1025 := by
    simp only [mayB, Bool.and_eq_true, decide_eq_true_eq] at h
    omega
  obtain ⟨H, h1, h2⟩ := key n hn h
  exact ⟨H, by omega, h2⟩
/-- The row above. -/
def pairs : List ByteArray → List ByteArray
  | a :: b :: r => nodeT a b :: pairs r
  | _ => []
theorem pairs_len : ∀ l : List ByteArray, (pairs l).length = l.length / 2
  | [] => rfl
  | [_] => by simp [pairs]
  | a :: b :: r => by
    show (pairs r).length + 1 = (r.length + 1 + 1) / 2
    rw [pairs_len r]
    omega
theorem pairs_get : ∀ (l : List ByteArray) (q : Nat) (h : 2 * q + 1 < l.length), (pairs l)[q]? = some (nodeT (l[2 * q]'(by omega)) (l[2 * q + 1]))
  | [], _, h => absurd h (Nat.not_lt_zero _)
  | [_], q, h => by simp at h
  | a :: b :: r, 0, h => rfl
  | a :: b :: r, q + 1, h => by
    have h2 : 2 * q + 1 < r.length := by simp only [List.length_cons] at h; omega
    have := pairs_get r q h2
    show (pairs r)[q]? = _
    rw [this]
    rfl
theorem pairs_snoc (l : List ByteArray) (q : Nat) (h : 2 * q + 1 < l.length) : (pairs l).take (q + 1) = (pairs l).take q ++ [nodeT (l[2 * q]'(by omega)) (l[2 * q + 1])] := by
  have h1 := pairs_get l q h
  rw [List.take_add_one, h1]
  rfl
/-- The rows, from the leaves on. -/
def lev (l : List ByteArray) : Nat → List ByteArray
  | 0 => l.map leafT
  | h + 1 => pairs (lev l h)
theorem lev_len (l : List ByteArray) (h : Nat) : (lev l h).length = l.length / 2 ^ h := by
  induction h with
  | zero => simp [lev]
  | succ h ih => rw [lev, pairs_len, ih, Nat.pow_succ, Nat.div_div_eq_div_mul]
theorem pairs_size : ∀ l : List ByteArray, ∀ s ∈ pairs l, s.size = 32
  | [] => by simp [pairs]
  | [_] => by simp [pairs]
  | a :: b :: r => fun s hs => by
    rcases List.mem_cons.1 hs with rfl | hs
    · exact nodeT_size a b
    · exact pairs_size r s hs
theorem lev_size (l : List ByteArray) (h : Nat) : ∀ s ∈ lev l h, s.size = 32 := by
  cases h with
  | zero =>
    intro s hs
    obtain ⟨x, _, rfl⟩ := List.mem_map.1 hs
    exact leafT_size x
  | succ h => exact pairs_size _
/-- The root of 2 ^ H texts. -/
def rootH (l : List ByteArray) (H : Nat) : ByteArray := (lev l H).getD 0 ⟨#[]⟩
theorem lev_top {l : List ByteArray} {H : Nat} (h : l.length = 2 ^ H) : (lev l H).length = 1 := by rw [lev_len, h, Nat.div_self (Nat.pos_of_ne_zero (by simp))]
theorem rootH_is {l : List ByteArray} {H : Nat} (h : l.length = 2 ^ H) : lev l H = [rootH l H] := by
  have hl := lev_top h
  match hm : lev l H, hl with
  | [x], _ => unfold rootH; rw [hm]; rfl
theorem rootH_size {l : List ByteArray} {H : Nat} (h : l.length = 2 ^ H) : (rootH l H).size = 32 := lev_size l H _ (by rw [rootH_is h]; simp)
def rootT (l : List ByteArray) : ByteArray := rootH l (Nat.log2 l.length)
theorem rootT_is {l : List ByteArray} {H : Nat} (h : l.length = 2 ^ H) : rootT l = rootH l H := by
  unfold rootT
  rw [h, Nat.log2_two_pow]
theorem rootT_size {l : List ByteArray} (h : mayB l.length = true) : (rootT l).size = 32 := by
  obtain ⟨H, _, h2⟩ := may_pow h
  rw [rootT_is h2]
  exact rootH_size h2
end Go.Proofs.YtieekajjoikepaaGreatDoor
