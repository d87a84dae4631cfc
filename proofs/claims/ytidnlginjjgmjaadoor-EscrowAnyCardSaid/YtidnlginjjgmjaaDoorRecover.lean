/-
  Contract of escrow.Recover.
-/
import Derived.Test.YtidnlginjjgmjaaDoorRead
namespace Go.Proofs.YtidnlginjjgmjaaDoor
open Go.RowKit
set_option linter.unusedVariables false
set_option maxRecDepth 100000
set_option maxHeartbeats 1000000

theorem readTo_facts (l : List Shr) : ∀ i, i ≤ l.length → (∀ p ∈ readTo l i, p ∈ l.take i) ∧ ((readTo l i).map Prod.fst).Nodup ∧ ∀ p ∈ l.take i, ∃ q ∈ readTo l i, q.1 = p.1
  | 0, _ => by simp [readTo]
  | i + 1, hi => by
    obtain ⟨h1, h2, h3⟩ := readTo_facts l i (by omega)
    have hil : i < l.length := by omega
    have hg : l.getD i (0, ⟨#[]⟩) = l[i] := by simp [hil]
    rw [readTo, hg, List.take_succ_eq_append_getElem hil]
    by_cases hs : seenB (l.take i) l[i].1 = true
    · rw [if_pos hs]
      obtain ⟨q, hq, hqe⟩ := List.any_eq_true.1 hs
      refine ⟨fun p hp => List.mem_append.2 (.inl (h1 p hp)), h2, fun p hp => ?_⟩
      rcases List.mem_append.1 hp with hp | hp
      · exact h3 p hp
      · simp at hp
        subst hp
        obtain ⟨r, hr, hre⟩ := h3 q hq
        exact ⟨r, hr, by rw [hre]; simpa using hqe⟩
    · rw [if_neg hs]
      refine ⟨fun p hp => ?_, ?_, fun p hp => ?_⟩
      · rcases List.mem_append.1 hp with hp | hp
        · exact List.mem_append.2 (.inl (h1 p hp))
        · exact List.mem_append.2 (.inr hp)
      · rw [List.map_append, List.nodup_append]
        refine ⟨h2, by simp, fun a ha b hb => ?_⟩
        simp only [List.map_cons, List.map_nil, List.mem_singleton] at hb
        subst hb
        intro e
        obtain ⟨r, hr, hre⟩ := List.mem_map.1 ha
        apply hs
        exact List.any_eq_true.2 ⟨r, h1 r hr, by simp [hre, e]⟩
      · rcases List.mem_append.1 hp with hp | hp
        · obtain ⟨q, hq, hqe⟩ := h3 p hp
          exact ⟨q, List.mem_append.2 (.inl hq), hqe⟩
        · simp at hp
          subst hp
          exact ⟨l[i], by simp, rfl⟩
theorem readL_facts (l : List Shr) : (∀ p ∈ readL l, p ∈ l) ∧ ((readL l).map Prod.fst).Nodup ∧ ∀ p ∈ l, ∃ q ∈ readL l, q.1 = p.1 := by
  have := readTo_facts l l.length (Nat.le_refl _)
  rw [List.take_of_length_le (Nat.le_refl _)] at this
  exact this
theorem read_right (l : List ByteArray) (k : Nat) (h1 : 1 ≤ k) (h2 : k ≤ 255) (hk : k ≤ (readL (getAll l)).length) : rightB ((readL (getAll l)).take k) 1 = true := by
  obtain ⟨f1, f2, _⟩ := readL_facts (getAll l)
  simp only [rightB, Bool.and_eq_true, decide_eq_true_eq, List.all_eq_true, List.length_take]
  refine ⟨⟨⟨by omega, by omega⟩, fun p hp => ?_⟩, ?_⟩
  · obtain ⟨⟨a, ha, hx⟩, hb⟩ := getAll_ok l p (f1 p (List.mem_of_mem_take hp))
    have h3 := a.toNat_lt
    have h0 : a.toNat ≠ 0 := fun e => ha (UInt8.toNat_inj.1 e)
    simp [okS, hb]
    omega
  · rw [List.map_take]
    exact f2.sublist (List.take_sublist _ _)

/-- What Recover answers. -/
def recoverV (l : List ByteArray) (k : Int) : Value := if k < 1 ∨ 255 < k then .tuple #[.string ⟨#[]⟩, .int .i64 1] else if ((readL (getAll l)).length : Int) < k then .tuple #[.string ⟨#[]⟩, .int .i64 240] else .tuple #[.string (bs (atL ((readL (getAll l)).take k.toNat) 0)), .int .i64 0]

theorem recover_any' (R : Value) (l : List ByteArray) (k : Int) (A : Option Addr) (n c : Nat) (w : World) (hr : Rd w A (textsV l)) (hn : n = l.length) (hl : l.length ≤ 1000) (hT : ArmTabs w) (hs : ∀ p ∈ l, p.size ≤ 1000000) (hR : R = recoverV l k) :
    Calls Tryd.prog 10 #[.slice A n c, .int .i64 k] w fun e w' => e = .returned R ∧ Below w.heap.size w w' := by
  have HR := Lib.hid hr
  have HN := Lib.hid hn
  have HT := Lib.hid hT
  have HS := Lib.hid hs
  have HV := Lib.hid hR
  clear hr hn hT hs hR
  by_cases h1 : k < 1
  · have d1 : decide (k < 1) = true := by simp; omega
    have H := Lib.hid (show R = .tuple #[.string ⟨#[]⟩, .int .i64 1] by rw [HV.out, recoverV, if_pos (.inl h1)])
    clear h1
    go_enter Tryd.func10, Tryd.ntmps10
    go_wp2_with fail
    go_ret2
    exact ⟨by rw [H.out]; rfl, Below.refl _ _⟩
  have d1 : decide (k < 1) = false := by simp; omega
  by_cases h2 : 255 < k
  · have d2 : decide (255 < k) = true := by simp; omega
    have H := Lib.hid (show R = .tuple #[.string ⟨#[]⟩, .int .i64 1] by rw [HV.out, recoverV, if_pos (.inr h2)])
    clear h1 h2
    go_enter Tryd.func10, Tryd.ntmps10
    go_wp2_with fail
    go_ret2
    exact ⟨by rw [H.out]; rfl, Below.refl _ _⟩
  have d2 : decide (255 < k) = false := by simp; omega
  obtain ⟨K, rfl⟩ : ∃ K : Nat, k = (K : Int) := ⟨k.toNat, by omega⟩
  have HV2 := Lib.hid (show R = if ((readL (getAll l)).length : Int) < (K : Int) then .tuple #[.string ⟨#[]⟩, .int .i64 240] else .tuple #[.string (bs (atL ((readL (getAll l)).take K) 0)), .int .i64 0] by rw [HV.out, recoverV, if_neg (by omega)]; rfl)
  have Hright := Lib.hid (read_right l K (by omega) (by omega))
  go_enter Tryd.func10, Tryd.ntmps10
  go_wp2_with fail
  refine (read_any l A n c _ HR.out HN.out hl HT.out HS.out).mono ?_
  rintro e w1 ⟨B, cap, rfl, ho1, hb1⟩
  have HO1 := Lib.hid ho1
  clear ho1
  have hcap : Hid (∀ x, (readL (getAll l)).length = x → x ≤ cap ∨ x = 0) := Lib.hid fun x hx => by
    rcases HO1.out.2 with ⟨e1, h2⟩ | ⟨g1, cap1, _, e1, _, _, h3, _⟩
    · right; omega
    · injection e1 with _ _ e1
      left; omega
  generalize readL (getAll l) = rs at HO1 HV2 Hright hcap ⊢
  obtain ⟨M, hM⟩ : ∃ M, M = rs.length := ⟨_, rfl⟩
  rw [← hM] at HO1 HV2 Hright hcap ⊢
  have HM := Lib.hid hM
  clear hM
  by_cases h3 : M < K
  · have d3 : decide (M < K) = true := by simp; omega
    have H := Lib.hid (show R = .tuple #[.string ⟨#[]⟩, .int .i64 240] by rw [HV2.out, if_pos (by omega)])
    go_wp2_with fail
    go_ret2
    exact ⟨by rw [H.out]; rfl, hb1⟩
  · have d3 : decide (M < K) = false := by simp; omega
    have hc2 : K ≤ cap := by
      rcases hcap.out M rfl with h | h <;> omega
    have H := Lib.hid (show R = .tuple #[.string (bs (atL (rs.take K) 0)), .int .i64 0] by rw [HV2.out, if_neg (by omega)])
    have hKM : (K : Int) ≤ (M : Int) := by omega
    have hKc : (K : Int) ≤ (cap : Int) := by omega
    have Hrd : Hid (Rd w1 B (sharesV (rs.take K))) := Lib.hid fun j u hu => by
      refine own_rd HO1.out j u ?_
      have e : sharesV rs = sharesV (rs.take K) ++ sharesV (rs.drop K) := by rw [← sharesV_app, List.take_append_drop]
      have hj : j < (sharesV (rs.take K)).length := by
        rcases Nat.lt_or_ge j (sharesV (rs.take K)).length with h | h
        · exact h
        · rw [List.getElem?_eq_none h] at hu; cases hu
      rw [e, List.getElem?_append_left hj]
      exact hu
    have Hkl := Lib.hid (show K = (rs.take K).length by rw [List.length_take, ← HM.out]; omega)
    have Hrt := Lib.hid (Hright.out (by omega))
    go_wp2_with fail
    refine (combine_yes (rs.take K) _ K cap _ Hrd.out Hkl.out Hrt.out).mono ?_
    rintro e w2 ⟨rfl, hb2⟩
    have hb := Below.chain hb1 hb2
    go_wp2_with fail
    go_ret2
    exact ⟨by rw [H.out]; rfl, hb⟩
theorem recover_any (l : List ByteArray) (k : Int) (A : Option Addr) (n c : Nat) (w : World) (hr : Rd w A (textsV l)) (hn : n = l.length) (hl : l.length ≤ 1000) (hT : ArmTabs w) (hs : ∀ p ∈ l, p.size ≤ 1000000) :
    Calls Tryd.prog 10 #[.slice A n c, .int .i64 k] w fun e w' => e = .returned (recoverV l k) ∧ Below w.heap.size w w' := recover_any' _ l k A n c w hr hn hl hT hs rfl
end Go.Proofs.YtidnlginjjgmjaaDoor
