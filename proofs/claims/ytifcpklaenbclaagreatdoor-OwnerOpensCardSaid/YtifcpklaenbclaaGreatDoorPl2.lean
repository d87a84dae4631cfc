/-
  Contracts of pledge.each (of Make) and pledge.All.
-/
import Derived.Test.YtifcpklaenbclaaGreatDoorPl
import Derived.Test.YtifcpklaenbclaaGreatDoorRight
namespace Go.Proofs.YtifcpklaenbclaaGreatDoor
open Go.RowKit
set_option linter.unusedVariables false
set_option linter.unusedSimpArgs false
set_option maxRecDepth 100000
set_option maxHeartbeats 1000000

/-- The pledges of shares, each with its salt. -/
def pairsOK (ss : List ByteArray) (l : List Shr) : Bool := (ss.zip l).all fun q => brightB q.1 q.2
def pairsL (ss : List ByteArray) (l : List Shr) : List ByteArray := (ss.zip l).map fun q => sumT q.1 q.2
def allE (ss : List ByteArray) (l : List Shr) : Nat := if ss.length ≠ l.length then 170 else if pairsOK ss l = true then 0 else 1
def allL (ss : List ByteArray) (l : List Shr) : List ByteArray := if allE ss l = 0 then pairsL ss l else []
/-- What is handed back: a row of texts and an error's number. -/
def TextsE (w : World) (l : List ByteArray) (n : Nat) (e : Ending) (w' : World) : Prop :=
  ∃ A m cap, e = .returned (.tuple #[.slice A m cap, .int .i64 (n : Nat)]) ∧ m = l.length ∧ w'.ownsRow w.heap.size 9 1 (.slice A m cap) m (textsV l) ∧ Below w.heap.size w w'
theorem each_any (ss : List ByteArray) (l : List Shr) (A A2 : Option Addr) (n c m c2 : Nat) (w : World) (hr : Rd w A (textsV ss)) (hr2 : Rd w A2 (sharesV l)) (hn : n = ss.length) (hm : m = l.length) (hl : ss.length = l.length) (hl2 : l.length ≤ 1000) (hR : Rounds w) :
    Calls Tryz.prog 44 #[.slice A n c, .slice A2 m c2, .func (.func 45) #[] #[]] w (TextsE w (if pairsOK ss l = true then pairsL ss l else []) (if pairsOK ss l = true then 0 else 1)) := by
  have HA := Lib.hid hr
  have HA2 := Lib.hid hr2
  have HN := Lib.hid hn
  have HM := Lib.hid hm
  have HL := Lib.hid hl
  have HR := Lib.hid hR
  have hn1 : n ≤ 1000 := by omega
  have HY := Lib.hid (show pairsOK ss l = true → TextsE w (if pairsOK ss l = true then pairsL ss l else []) (if pairsOK ss l = true then 0 else 1) = TextsE w (pairsL ss l) 0 from fun h => by rw [h]; rfl)
  have HF := Lib.hid (show pairsOK ss l = false → TextsE w (if pairsOK ss l = true then pairsL ss l else []) (if pairsOK ss l = true then 0 else 1) = TextsE w [] 1 from fun h => by rw [h]; rfl)
  generalize TextsE w (if pairsOK ss l = true then pairsL ss l else []) (if pairsOK ss l = true then 0 else 1) = Q at HY HF ⊢
  obtain ⟨iS, hS0, hS1, hS2, hS3⟩ := info_parts string_info
  obtain rfl : n = m := by omega
  clear hr hr2 hn hm hl hl2 hR
  go_enter Tryz.func44, Tryz.ntmps44
  go_wp2_with (refine wpList_make_own _ (by rfl) (.const (.int .i64 0)) (.tmp 14) 22 (by rfl) w.heap.size 9 iS (.string ⟨#[]⟩) 1 Tryz.underlying22 hS0 hS1 hS2 .i64 .i64 _ n (by rfl) (by rfl) rfl (by rw [hS3]; omega) (by unfold maxLen; omega) (by omega) ?_)
  intro w2 ho2 hg2
  have HO2 := Lib.hid ho2
  have HW2 := Lib.hid (below_grown hg2 (Nat.le_refl _))
  clear ho2 hg2
  go_wp2_with fail
  go_loopw [8, 18] (fun v x wr => ∃ (i cap : Nat) (B : Option Addr), i ≤ n ∧ x = .int .i64 (i : Nat) ∧ v = .slice B i cap ∧ wr.ownsRow w.heap.size 9 1 v i (textsV (((ss.zip l).take i).map fun q => sumT q.1 q.2)) ∧ ((ss.zip l).take i).all (fun q => brightB q.1 q.2) = true ∧ Below w.heap.size w wr) (fun _ x _ => n - (intOf x).toNat)
  case atStart => exact ⟨0, _, _, by omega, rfl, rfl, HO2.out, rfl, HW2.out⟩
  case round =>
    obtain ⟨i, cap, B, hi, rfl, rfl, ho, hall, hW⟩ := hrel
    have HO := Lib.hid ho
    have HW := Lib.hid hW
    have Hall := Lib.hid hall
    clear ho hW hall
    by_cases hlt : i < n
    · have e1 : decide ((i : Int) < (n : Int)) = true := by simp; omega
      have hil : i < l.length := by rw [← HM.out]; exact hlt
      have his : i < ss.length := by rw [← HN.out]; exact hlt
      have hiz : i < (ss.zip l).length := by rw [List.length_zip]; omega
      obtain ⟨b, off, hbA, c1⟩ := texts_at (HA.out.below HW.out) his
      obtain ⟨b2, off2, hbA2, d1, d2⟩ := (HA2.out.below HW.out).shr hil
      subst hbA hbA2
      have Htk := Lib.hid (show (ss.zip l).take (i + 1) = (ss.zip l).take i ++ [(ss[i], l[i])] by rw [List.take_succ_eq_append_getElem hiz, List.getElem_zip])
      have Hbd := Lib.hid (show brightB ss[i] l[i] = false → pairsOK ss l = false from fun h => List.all_eq_false.2 ⟨(ss.zip l)[i], List.getElem_mem hiz, by rw [List.getElem_zip, h]; simp⟩)
      generalize ss[i] = s at c1 Htk Hbd
      generalize l[i] = p at d1 d2 Htk Hbd
      obtain ⟨x, bb⟩ := p
      simp only at d1 d2
      clear hil his hiz
      have HMk := Lib.hid (fun W hW => make_any s x bb W hW)
      cases hbr : brightB s (x, bb) with
      | false =>
        have HE := Lib.hid (show makeE s (x, bb) = 1 by unfold makeE; rw [hbr]; rfl)
        rw [HE.out] at HMk
        rw [HF.out (Hbd.out hbr)]
        generalize makeS s (x, bb) = ms at HMk
        clear hbr HE
        go_wp2_with fail
        refine (HMk.out _ (HR.out.below HW.out)).mono ?_
        rintro e w3 ⟨rfl, hb3⟩
        go_wp2_with fail
        try rw [Exit.noGoto_ret]
        go_ret2
        exact ⟨none, 0, 0, rfl, rfl, ⟨rfl, .inl ⟨rfl, rfl⟩⟩, Below.chain HW.out hb3⟩
      | true =>
        have HE := Lib.hid (show makeS s (x, bb) = sumT s (x, bb) ∧ makeE s (x, bb) = 0 by unfold makeS makeE; rw [hbr]; exact ⟨rfl, rfl⟩)
        rw [HE.out.1, HE.out.2] at HMk
        have Htk2 := Lib.hid (show ((ss.zip l).take (i + 1)).map (fun q => sumT q.1 q.2) = ((ss.zip l).take i).map (fun q => sumT q.1 q.2) ++ [sumT s (x, bb)] by rw [Htk.out, List.map_append]; rfl)
        have Hall2 := Lib.hid (show ((ss.zip l).take (i + 1)).all (fun q => brightB q.1 q.2) = true by rw [Htk.out, List.all_append, Hall.out]; simp [hbr])
        generalize sumT s (x, bb) = ms at HMk Htk2
        generalize ((ss.zip l).take i).map (fun q => sumT q.1 q.2) = ps at HO Htk2
        clear hbr HE
        go_wp2_with fail
        refine (HMk.out _ (HR.out.below HW.out)).mono ?_
        rintro e w3 ⟨rfl, hb3⟩
        have HO3 := Lib.hid (own_keep HO.out hb3)
        have HW3 := Lib.hid (Below.chain HW.out hb3)
        clear hb3 c1 d1 d2
        go_wp2_with (at_builtin; refine wpList_append_new (by rfl) (.tmp 36) (.tmp 38) 22 (by rfl) w.heap.size 9 (.string ⟨#[]⟩) 1 16 Tryz.underlying22 string_info rfl (by omega) w3 _ _ _ _ _ (by rfl) HO3.out _ 1 1 (by rfl) (by rfl) (by rfl) (by rfl) (by omega) (by omega) (by omega) (by exact HW3.out.size) ?_)
        intro g4 cap4 w4 ho4 hb4 _ _ _
        have HO4 := Lib.hid ho4
        have HW4 := Lib.hid (HW3.out.trans hb4)
        clear ho4 hb4
        go_wp2_with fail
        go_roundw
        case rel => exact ⟨i + 1, cap4, _, by omega, by go_num, rfl, by rw [Htk2.out, textsV_append]; exact HO4.out, Hall2.out, HW4.out⟩
        case measure => simp [intOf]; omega
    · obtain rfl : i = n := by omega
      have e1 : decide ((i : Int) < (i : Int)) = false := by simp
      have hzl : (ss.zip l).length ≤ i := by rw [List.length_zip, ← HN.out]; omega
      rw [List.take_of_length_le hzl] at HO Hall
      have HL2 := Lib.hid (show i = (pairsL ss l).length by rw [pairsL, List.length_map, List.length_zip, ← HN.out, ← HM.out, Nat.min_self])
      clear hzl
      go_wp2_with fail
      rw [HY.out Hall.out]
      exact ⟨B, i, cap, rfl, HL2.out, HO.out, HW.out⟩
theorem all_any (ss : List ByteArray) (l : List Shr) (A A2 : Option Addr) (n c m c2 : Nat) (w : World) (hr : Rd w A (textsV ss)) (hr2 : Rd w A2 (sharesV l)) (hn : n = ss.length) (hm : m = l.length) (hl2 : l.length ≤ 1000) (hR : Rounds w) :
    Calls Tryz.prog 26 #[.slice A n c, .slice A2 m c2] w (TextsE w (allL ss l) (allE ss l)) := by
  by_cases hl : ss.length = l.length
  · have HE := Lib.hid (fun W h1 h2 hR => each_any ss l A A2 n c m c2 W h1 h2 hn hm hl hl2 hR)
    have HA := Lib.hid hr
    have HA2 := Lib.hid hr2
    have HR := Lib.hid hR
    have h1 : (if pairsOK ss l = true then 0 else 1) = allE ss l := by unfold allE; rw [if_neg (show ¬ ss.length ≠ l.length by simpa using hl)]
    have h2 : (if pairsOK ss l = true then pairsL ss l else []) = allL ss l := by
      unfold allL allE
      rw [if_neg (show ¬ ss.length ≠ l.length by simpa using hl)]
      cases pairsOK ss l <;> rfl
    rw [h1, h2] at HE
    obtain rfl : n = m := by omega
    have d1 : ((n : Int) != (n : Int)) = false := by simp
    generalize allL ss l = rl at HE ⊢
    generalize allE ss l = re at HE ⊢
    clear hr hr2 hn hm hl2 hR hl h1 h2
    go_enter Tryz.func26, Tryz.ntmps26
    go_wp2_with fail
    refine (HE.out _ HA.out HA2.out HR.out).mono ?_
    rintro e w1 ⟨B, k, cap, rfl, h1, h2, h3⟩
    go_wp2_with fail
    go_ret2
    exact ⟨B, _, cap, rfl, rfl, (by rw [← h1]; exact h2), h3⟩
  · have h1 : allE ss l = 170 := by rw [allE, if_pos hl]
    have h2 : allL ss l = [] := by rw [allL, h1]; rfl
    rw [h1, h2]
    have d1 : ((n : Int) != (m : Int)) = true := by simp; omega
    clear hr hr2 hn hm hl2 hR hl h1 h2
    go_enter Tryz.func26, Tryz.ntmps26
    go_wp2_with fail
    go_ret2
    exact ⟨none, 0, 0, rfl, rfl, ⟨rfl, .inl ⟨rfl, rfl⟩⟩, Below.refl _ _⟩
end Go.Proofs.YtifcpklaenbclaaGreatDoor
