/-
  Contracts of the law's deal and answer.
-/
import Derived.Test.YtkbjmmigjjdfpaaGreatDoorOt
import Derived.Test.YtkbjmmigjjdfpaaGreatDoorRr
import Derived.Deep.Cut
import Derived.Deep.CutRange
import Derived.StillTailTactics
namespace Go.Proofs.YtkbjmmigjjdfpaaGreatDoor
open Go.RowKit
set_option linter.unusedVariables false
set_option linter.unusedSimpArgs false
set_option maxRecDepth 100000
set_option maxHeartbeats 2000000

/-- A deal, as a value. -/
def DV (w : World) (v : Value) (D : Deal) : Prop := ∃ A n c B m d C p q E s t, v = .agg #[.int .i64 D.r.e, .int .i64 D.r.k, .slice A n c, .slice B m d, .string D.sec, .slice C p q, .slice E s t] ∧ Rd w A (textsV D.r.ns) ∧ n = D.r.ns.length ∧ Rd w B (textsV D.r.ps) ∧ m = D.r.ps.length ∧ Rd w C (sharesV D.sh) ∧ p = D.sh.length ∧ Rd w E (textsV D.sa) ∧ s = D.sa.length
theorem DV.below {w w' : World} {v : Value} {D : Deal} (h : DV w v D) (hb : Below w.heap.size w w') : DV w' v D := by
  obtain ⟨A, n, c, B, m, d, C, p, q, E, s, t, rfl, h1, h2, h3, h4, h5, h6, h7, h8⟩ := h
  exact ⟨A, n, c, B, m, d, C, p, q, E, s, t, rfl, h1.below hb, h2, h3.below hb, h4, h5.below hb, h6, h7.below hb, h8⟩
def DealR (w : World) (D : Deal) (b : Bool) (e : Ending) (w' : World) : Prop := ∃ v, e = .returned (.tuple #[v, .bool b]) ∧ DV w' v D ∧ Below w.heap.size w w'
theorem split_any (s t : ByteArray) (N : Nat) (k : Int) (w : World) :
    Calls Tryz.prog 38 #[.string s, .int .i64 (N : Int), .int .i64 k, .string t] w fun e w' => ∃ A n cap, e = .returned (.tuple #[.slice A n cap, .int .i64 (if splitOK s t N k = true then 0 else 1 : Nat)]) ∧ n = (dealSh s t N k).length ∧ w'.ownsRow w.heap.size 43 2 (.slice A n cap) n (sharesV (dealSh s t N k)) ∧ Below w.heap.size w w' := by
  unfold dealSh
  by_cases h : splitOK s t (N : Int) k = true
  · obtain ⟨N', m, h1, h2, h3, h4, h5, h6⟩ := split_is s t _ _ h
    obtain rfl : N = N' := by omega
    rw [if_pos h, if_pos h, show (k - 1).toNat = m by omega, h2]
    refine (split_yes s t N m w h3 h4 h5 h6).mono ?_
    rintro e w' ⟨g, rfl, ho, hb⟩
    exact ⟨_, _, _, rfl, by simp [splitL], ho, hb⟩
  · rw [if_neg h, if_neg h]
    refine (split_no s t _ k w (by simpa using h)).mono ?_
    rintro e w' ⟨rfl, hb⟩
    exact ⟨none, 0, 0, rfl, rfl, ⟨rfl, .inl ⟨rfl, rfl⟩⟩, hb⟩
theorem gb_one (w : World) (b i : Nat) (v : Value) : w.grownBy (w.setCell ⟨b, i, none⟩ v) (some b) :=
  ⟨rfl, rfl, rfl, by simp, fun k hk hne => Below.heap_setCell w ⟨b, i, none⟩ v k (by simp; exact fun e => hne (by rw [e]))⟩
theorem gb_tr {w w1 w2 : World} {r : Option Nat} (h : w.grownBy w1 r) (h' : w1.grownBy w2 r) : w.grownBy w2 r :=
  ⟨h'.os.trans h.os, h'.tape.trans h.tape, h'.output.trans h.output, Nat.le_trans h.size h'.size, fun k hk hne => (h'.block k (Nat.lt_of_lt_of_le hk h.size) hne).trans (h.block k hk hne)⟩
theorem seven_set {W : World} {g : Nat} {t : TypeId} {a0 a1 a2 a3 a4 a5 a6 : Value} (h : W.heap[g]? = some (.cells #[a0, a1, a2, a3, a4, a5, a6] t (0, 0))) (b0 b1 b2 b3 b4 b5 b6 : Value) :
    (((((((W.setCell ⟨g, 0, none⟩ b0).setCell ⟨g, 1, none⟩ b1).setCell ⟨g, 2, none⟩ b2).setCell ⟨g, 3, none⟩ b3).setCell ⟨g, 4, none⟩ b4).setCell ⟨g, 5, none⟩ b5).setCell ⟨g, 6, none⟩ b6).heap[g]? = some (.cells #[b0, b1, b2, b3, b4, b5, b6] t (0, 0)) := by
  have := blk_set (blk_set (blk_set (blk_set (blk_set (blk_set (blk_set h 0 b0) 1 b1) 2 b2) 3 b3) 4 b4) 5 b5) 6 b6
  simp only [List.setIfInBounds_toArray, List.set_cons_zero, List.set_cons_succ] at this
  exact this
theorem seven_gb (W : World) (g : Nat) (b0 b1 b2 b3 b4 b5 b6 : Value) : W.grownBy (((((((W.setCell ⟨g, 0, none⟩ b0).setCell ⟨g, 1, none⟩ b1).setCell ⟨g, 2, none⟩ b2).setCell ⟨g, 3, none⟩ b3).setCell ⟨g, 4, none⟩ b4).setCell ⟨g, 5, none⟩ b5).setCell ⟨g, 6, none⟩ b6) (some g) :=
  gb_tr (gb_tr (gb_tr (gb_tr (gb_tr (gb_tr (gb_one _ _ _ _) (gb_one _ _ _ _)) (gb_one _ _ _ _)) (gb_one _ _ _ _)) (gb_one _ _ _ _)) (gb_one _ _ _ _)) (gb_one _ _ _ _)
theorem odFar {w w' : World} {B g : Nat} {e : TypeId} {size : Nat} {v : Value} {n : Nat} {xs : List Value} (h : w.ownsRow B e size v n xs) (hg : w.grownBy w' (some g)) (hB : g < B) : w'.ownsRow B e size v n xs := by
  refine h.kept hg ?_
  rcases h.2 with ⟨rfl, _⟩ | ⟨g', cap, cur, rfl, hb, _⟩
  · exact .inl rfl
  · right
    intro e'
    injection e' with e'
    simp only at e'
    omega
theorem heap_drew {w : World} {g : Nat} {o : Option Obj} (h : w.heap[g]? = o) : w.drew.heap[g]? = o := h
theorem DV.drew {w : World} {v : Value} {D : Deal} (h : DV w v D) : DV w.drew v D := h.below ((Below.refl _ _).drew)
theorem load_deal {w : World} {g : Nat} {a0 a1 a2 a3 a4 a5 a6 : Value} {t : TypeId} (h : w.heap[g]? = some (.cells #[a0, a1, a2, a3, a4, a5, a6] t (0, 0))) : (loadVar 29 ⟨g, 0, none⟩).run Tryz.prog w = .ok (.agg #[a0, a1, a2, a3, a4, a5, a6]) w := by
  have := run_loadVar_mid (P := Tryz.prog) w g 0 29 [a0, a1, a2, a3, a4, a5, a6] _ (fun j v hj => by
    rw [Nat.zero_add, cell_of_row w g j _ _ _ h]
    simpa using hj) Tryz.underlying29 rfl (by kernel_rfl)
  simpa using this
end Go.Proofs.YtkbjmmigjjdfpaaGreatDoor
