/-
  Contract of the laws' papers.
-/
import Derived.Test.YtidnlginjjgmjaaDoorEscT
import Derived.Test.YtidnlginjjgmjaaDoorMany
namespace Go.Proofs.YtidnlginjjgmjaaDoor
open Go.RowKit
set_option linter.unusedVariables false
set_option maxRecDepth 100000
set_option maxHeartbeats 1000000

theorem putL_lenE (s : List UInt8) (h : s.length ≤ 200) : (putL s).length ≤ 20000 := by
  have e : (putL s).length ≤ 0 + 6 * _ := dashed_len _ []
  rw [fivesTo_len, lettersL_len, List.length_append, take_sum_len] at e
  omega
theorem expT_size (s t : List UInt8) (m i : Nat) : (expT s t m i).size ≤ 1000000 := by
  have := putL_lenE (UInt8.ofNat (i + 1) :: shareL s t m i) (by simp [shareL])
  rw [expT, bs_size]
  omega
def smudge : ByteArray := ⟨#[115, 109, 117, 100, 103, 101]⟩
theorem papers_1 (s t : List UInt8) (hs : s.length = 32) : recoverV [expT s t 1 2, smudge, expT s t 1 0] 2 = .tuple #[.string (bs s), .int .i64 0] := by
  have hg : getAll [expT s t 1 2, smudge, expT s t 1 0] = [2, 0].map (pick s t 1) := by
    have h0 := get_pick s t 1 0 (by omega)
    have h2 := get_pick s t 1 2 (by omega)
    have h1 : getOne smudge = none := smudge_none
    simp [getAll, h0, h1, h2]
  have hr : readL (getAll [expT s t 1 2, smudge, expT s t 1 0]) = [2, 0].map (pick s t 1) := by
    rw [hg]
    exact readL_nodup _ (pick_nodup s t 1 [2, 0] (by decide))
  rw [recoverV, if_neg (by omega), hr, if_neg (by simp)]
  have e : (([2, 0].map (pick s t 1)).take (2 : Int).toNat) = [2, 0].map (pick s t 1) := by rfl
  rw [e, at_split s t 3 1 [2, 0] (by omega) (by decide) (by decide) rfl hs]
theorem papers_2 (s t : List UInt8) : recoverV [expT s t 1 2, expT s t 1 2] 2 = .tuple #[.string ⟨#[]⟩, .int .i64 240] := by
  have hg : getAll [expT s t 1 2, expT s t 1 2] = [pick s t 1 2, pick s t 1 2] := by
    have h2 := get_pick s t 1 2 (by omega)
    simp [getAll, h2]
  have hr : readL (getAll [expT s t 1 2, expT s t 1 2]) = [pick s t 1 2] := by
    rw [hg]
    simp [readL, readTo, seenB]
  rw [recoverV, if_neg (by omega), hr, if_pos (by simp)]

theorem papers_any (w : World) (hT : ArmTabs w) : Calls Tryd.prog 8 #[] w fun e w' => e = .returned (.bool true) ∧ Below w.heap.size w w' := by
  have HT := Lib.hid hT
  obtain ⟨s, hs⟩ : ∃ s, s = bs (List.replicate 32 (5 : UInt8)) := ⟨_, rfl⟩
  obtain ⟨t, ht⟩ : ∃ t, t = bs (List.replicate 32 (2 : UInt8)) := ⟨_, rfl⟩
  have Hs32 := Lib.hid (show s.size = 32 by rw [hs]; rfl)
  have Ht32 := Lib.hid (show t.size = 32 * 1 by rw [ht]; rfl)
  have HmS := Lib.hid (show ∀ W, Calls Tryd.prog 15 #[.int .u8 5, .int .i64 32] W fun e w' => e = .returned (.string s) ∧ Below W.heap.size W w' from fun W => by rw [hs]; exact many_any 5 32 W (by omega))
  have HmT := Lib.hid (show ∀ W, Calls Tryd.prog 15 #[.int .u8 2, .int .i64 32] W fun e w' => e = .returned (.string t) ∧ Below W.heap.size W w' from fun W => by rw [ht]; exact many_any 2 32 W (by omega))
  have HE := Lib.hid (exportL_eq s.data.toList t.data.toList 3 1 (by omega))
  have HEl := Lib.hid (exportL_len s.data.toList t.data.toList 3 1 (by omega))
  have HP1 := Lib.hid (papers_1 s.data.toList t.data.toList (by rw [len_data]; exact Hs32.out))
  have HP2 := Lib.hid (papers_2 s.data.toList t.data.toList)
  have Hz2 := Lib.hid (expT_size s.data.toList t.data.toList 1 2)
  have Hz0 := Lib.hid (expT_size s.data.toList t.data.toList 1 0)
  clear hT hs ht
  go_enter Tryd.func8, Tryd.ntmps8
  go_wp2_with fail
  refine Calls.mono (by exact HmS.out _) ?_
  rintro e w1 ⟨rfl, hb1⟩
  go_wp2_with fail
  refine Calls.mono (by exact HmT.out _) ?_
  rintro e w2 ⟨rfl, hb2⟩
  replace hb2 := Below.chain hb1 hb2
  clear hb1
  go_wp2_with fail
  refine Calls.mono (by exact export_yes s t 3 1 _ (HT.out.below hb2).rounds Hs32.out Ht32.out (by omega) (by omega)) ?_
  rintro e w3 ⟨B, cap, rfl, ho3, hb3⟩
  rw [HEl.out] at ho3 ⊢
  rw [HE.out] at ho3
  replace hb3 := Below.chain hb2 hb3
  have hrd := own_rd ho3
  obtain ⟨b, off, hB, c2⟩ := hrd 2 (.string (expT s.data.toList t.data.toList 1 2)) (by simp [textsV])
  obtain ⟨b', off', hB', c0⟩ := hrd 0 (.string (expT s.data.toList t.data.toList 1 0)) (by simp [textsV])
  rw [hB] at hB'
  injection hB' with hB'
  injection hB' with e1 e2
  subst e1 e2 hB
  rw [Nat.add_zero] at c0
  have HT3 := Lib.hid (HT.out.below hb3)
  generalize expT s.data.toList t.data.toList 1 2 = x2 at c2 HP1 HP2 Hz2
  generalize expT s.data.toList t.data.toList 1 0 = x0 at c0 HP1 Hz0
  have C2 := Lib.hid c2
  have C0 := Lib.hid c0
  have Hbs := Lib.hid (show bs s.data.toList = s from rfl)
  rw [Hbs.out] at HP1
  clear hb2 ho3 hrd c2 c0 HE HEl
  go_wp2_with fail
  have c2 : w3.drew.cell? ⟨b, off + 2, none⟩ = some (.string x2) := C2.out
  have c0 : w3.drew.cell? ⟨b, off, none⟩ = some (.string x0) := C0.out
  have HB := hb3.drew
  replace HT3 : Hid (ArmTabs w3.drew) := Lib.hid (HT3.out.below ((Below.refl w3.heap.size w3).drew))
  go_region_held3 (fun w' => w'.cell? ⟨b, off + 2, none⟩ = some (.string x2) ∧ w'.cell? ⟨b, off, none⟩ = some (.string x0))
    (first | assumption | exact ⟨c2, c0⟩ | exact keep2_below (by assumption) (by assumption) | exact keep2_alloc (by assumption))
    (first
      | (go_at_call 10; refine (recover_any [x2, smudge, x0] 2 _ 3 3 _ (by exact rd_new' _ _ _ _ (by simp)) rfl (by simp) (by exact HT3.out.below ((Below.refl _ _).alloc (Nat.le_refl _) _)) (by intro p hp; simp at hp; rcases hp with rfl | rfl | rfl; exact Hz2.out; decide; exact Hz0.out)).mono ?_; rintro e w' ⟨rfl, hb⟩; replace HT3 := Lib.hid (HT3.out.below (Below.chain_alloc (Below.refl _ _) hb)); replace HB := Below.chain_alloc HB hb; have k2 := keep2_below (keep2_alloc ⟨c2, c0⟩) hb; rw [HP1.out]))
  have K2 := Lib.hid k2
  clear k2 c2 c0
  go_wp2_with fail
  have d2 : w'.drew.cell? ⟨b, off + 2, none⟩ = some (.string x2) := K2.out.1
  replace HB := HB.drew
  replace HT3 : Hid (ArmTabs w'.drew) := Lib.hid (HT3.out.below ((Below.refl w'.heap.size w').drew))
  go_region_held3 (fun w' => w'.cell? ⟨b, off + 2, none⟩ = some (.string x2) ∧ w'.cell? ⟨b, off + 2, none⟩ = some (.string x2))
    (first | assumption | exact ⟨d2, d2⟩ | exact keep2_below (by assumption) (by assumption) | exact keep2_alloc (by assumption))
    (first
      | (go_at_call 10; refine (recover_any [x2, x2] 2 _ 2 2 _ (by exact rd_new' _ _ _ _ (by simp)) rfl (by simp) (by exact HT3.out.below ((Below.refl _ _).alloc (Nat.le_refl _) _)) (by intro p hp; simp at hp; rw [hp]; exact Hz2.out)).mono ?_; rintro e w'' ⟨rfl, hb⟩; replace HB := Below.chain_alloc HB hb; rw [HP2.out]))
  go_wp2_with fail
  go_ret
  exact ⟨by simp, HB⟩
end Go.Proofs.YtidnlginjjgmjaaDoor
