/-
  The walk of the law ViewShares.
-/
import Derived.Test.YtidnlginjjgmjaaViews
namespace Go.Proofs.Ytidnlginjjgmjaa
open Go.RowKit
set_option linter.unusedVariables false
set_option maxRecDepth 100000
set_option maxHeartbeats 2000000

theorem rd_of_bools {w : World} {x : Addr} (B : Nat → Bool) (l : Nat) (h : ∀ i, i < l → w.cell? (x.add i) = some (.bool (B i))) : Rd w (some x) (bools ((List.range l).map B)) := by
  intro i u hu
  have hi : i < l := by
    rcases Nat.lt_or_ge i l with h | h
    · exact h
    · simp [bools, h] at hu
  have hs : x.spot = none := by
    have h0 := h 0 (by omega)
    unfold World.cell? at h0
    obtain ⟨b, o, sp⟩ := x
    cases sp with
    | none => rfl
    | some v => simp only [Addr.add] at h0; split at h0 <;> simp at h0
  have hc := h i hi
  refine ⟨x.block, x.off, by rw [← hs], ?_⟩
  have hu' : u = .bool (B i) := by
    simp [bools, hi] at hu
    exact hu.symm
  rw [hu', ← hc]
  congr 1
  unfold Addr.add
  split
  · rename_i h0; subst h0; obtain ⟨b, o, sp⟩ := x; simp_all
  · rfl

def texts (l : List ByteArray) : List Value := l.map Value.string
theorem vfar_any (l : List ByteArray) (A : Option Addr) (n c : Nat) (w : World) (hr : Rd w A (texts l)) (hn : n = l.length) (hl : l.length ≤ 1000) :
    Calls Try.prog 6 #[.slice A n c] w fun e w' => e = .returned (.bool (l.any fun s => decide (300 < s.size))) ∧ w' = w := by
  have HR := Lib.hid hr
  have HN := Lib.hid hn
  have hn1 : n ≤ 1000 := by omega
  clear hr hn
  go_enter Try.func6, Try.ntmps6
  go_wp2_with fail
  go_loopw [3] (fun x wr => ∃ i : Nat, i ≤ n ∧ x = .int .i64 (i : Nat) ∧ (l.take i).any (fun s => decide (300 < s.size)) = false ∧ wr = w) (fun x _ => n - (intOf x).toNat)
  case atStart => exact ⟨0, by omega, rfl, rfl, rfl⟩
  case round =>
    obtain ⟨i, hi, rfl, ha, rfl⟩ := hrel
    by_cases hlt : i < n
    · have hil : i < l.length := by rw [← HN.out]; exact hlt
      obtain ⟨b, off, hA, hc⟩ := HR.out i (.string l[i]) (by simp [texts, hil])
      subst hA
      have Hstep := Lib.hid (show (l.take (i + 1)).any (fun s => decide (300 < s.size)) = ((l.take i).any (fun s => decide (300 < s.size)) || decide (300 < l[i].size)) by
        rw [List.take_succ_eq_append_getElem hil, List.any_append]
        simp)
      have Hbad : Hid (300 < l[i].size → l.any (fun s => decide (300 < s.size)) = true) := Lib.hid fun h => List.any_eq_true.2 ⟨l[i], List.getElem_mem hil, by simpa using h⟩
      generalize l[i] = s at hc Hstep Hbad
      have hiI : (i : Int) < (n : Int) := by omega
      have Ha := Lib.hid ha
      clear ha
      by_cases hb : 300 < s.size
      · have d1 : decide ((300 : Int) < (s.size : Int)) = true := by simp; omega
        have Hb := Lib.hid hb
        clear hb
        go_wp2_with fail
        try rw [Exit.noGoto_ret]
        go_ret
        exact ⟨by rw [Hbad.out Hb.out]; rfl, rfl⟩
      · have d1 : decide ((300 : Int) < (s.size : Int)) = false := by simp; omega
        have Hb := Lib.hid hb
        clear hb
        go_wp2_with fail
        go_roundw
        case rel => exact ⟨i + 1, by omega, by go_num, by rw [Hstep.out, Ha.out]; simp; have := Hb.out; omega, by trivial⟩
        case measure => simp [intOf]; omega
    · obtain rfl : i = n := by omega
      rw [HN.out, List.take_of_length_le (Nat.le_refl _)] at ha
      have Ha := Lib.hid ha
      clear ha
      go_wp2_with fail
      go_ret
      exact ⟨by rw [Ha.out]; rfl, rfl⟩

theorem split_any (s t : ByteArray) (n k : Int) (w : World) : Calls Try.prog 8 #[.string s, .int .i64 n, .int .i64 k, .string t] w fun e w' => (∃ v f, e = .returned (.tuple #[v, .int .i64 f])) ∧ Below w.heap.size w w' := by
  by_cases h : splitOK s t n k = true
  · obtain ⟨N, m, rfl, rfl, h1, h2, h3, h4⟩ := split_is s t n k h
    exact (split_yes s t N m w h1 h2 h3 h4).mono fun e w' ⟨g, he, _, hb⟩ => ⟨⟨_, _, he⟩, hb⟩
  · exact (split_no s t n k w (by simpa using h)).mono fun e w' ⟨he, hb⟩ => ⟨⟨_, _, he⟩, hb⟩

/-- Where Remap refuses. -/
theorem viewShares_no (a0 a1 a4 : ByteArray) (a2 a3 E : Int) (A : Option Addr) (len cap : Nat) (w : World) (hf : ([a0, a1, a4].any fun s => decide (300 < s.size)) = false) (hl : len ≤ 60) (hn : ¬ (12 < a2 ∧ a2 ≤ 255)) (hE : E ≠ 0)
    (hc : ∀ W, Below w.heap.size w W → Calls Try.prog 7 #[.string a0, .string a1, .int .i64 a2, .int .i64 a3, .string a4, .slice A len cap] W fun e w' => e = .returned (.tuple #[.string ⟨#[]⟩, .int .i64 E]) ∧ Below W.heap.size W w') :
    Calls Try.prog 3 #[.string a0, .string a1, .int .i64 a2, .int .i64 a3, .string a4, .slice A len cap] w fun e w' => e = .returned (.bool true) ∧ Below w.heap.size w w' := by
  have HF := Lib.hid hf
  have HC := Lib.hid hc
  have d1 : decide ((60 : Int) < (len : Int)) = false := by simp; omega
  have d2 : (decide (12 < a2) && decide (a2 ≤ 255)) = false := by simp; omega
  have e1 : (E != 0) = true := by simpa using hE
  clear hf hc hE
  by_cases h12 : 12 < a2
  · have d3 : decide (12 < a2) = true := by simp; omega
    have d4 : decide (a2 ≤ 255) = false := by simp; omega
    clear hn d2
    go_enter Try.func3, Try.ntmps3
    go_wp2_with fail
    refine (vfar_any [a0, a1, a4] _ 3 3 _ (rd_new _ _ _) rfl (by simp)).mono ?_
    rintro e w1 ⟨rfl, rfl⟩
    rw [HF.out]
    go_wp2_with fail
    refine (HC.out _ ((Below.refl _ _).alloc (Nat.le_refl _) _)).mono ?_
    rintro e w2 ⟨rfl, hb2⟩
    replace hb2 := Below.chain_alloc (Below.refl _ _) hb2
    go_wp2_with fail
    refine (split_any a0 a4 a2 a3 _).mono ?_
    rintro e w3 ⟨⟨v, f, rfl⟩, hb3⟩
    replace hb3 := Below.chain hb2 hb3
    go_wp2_with fail
    refine (views_any _).mono ?_
    rintro e w4 ⟨rfl, hb4⟩
    replace hb4 := Below.chain hb3 hb4
    go_wp2_with fail
    go_ret
    exact ⟨by simp, hb4⟩
  · have d3 : decide (12 < a2) = false := by simp; omega
    clear hn d2
    go_enter Try.func3, Try.ntmps3
    go_wp2_with fail
    refine (vfar_any [a0, a1, a4] _ 3 3 _ (rd_new _ _ _) rfl (by simp)).mono ?_
    rintro e w1 ⟨rfl, rfl⟩
    rw [HF.out]
    go_wp2_with fail
    refine (HC.out _ ((Below.refl _ _).alloc (Nat.le_refl _) _)).mono ?_
    rintro e w2 ⟨rfl, hb2⟩
    replace hb2 := Below.chain_alloc (Below.refl _ _) hb2
    go_wp2_with fail
    refine (split_any a0 a4 a2 a3 _).mono ?_
    rintro e w3 ⟨⟨v, f, rfl⟩, hb3⟩
    replace hb3 := Below.chain hb2 hb3
    go_wp2_with fail
    refine (views_any _).mono ?_
    rintro e w4 ⟨rfl, hb4⟩
    replace hb4 := Below.chain hb3 hb4
    go_wp2_with fail
    go_ret
    exact ⟨by simp, hb4⟩

theorem viewShares_yes (a0 a1 a4 : ByteArray) (N m : Nat) (ws : List Bool) (A : Option Addr) (len cap : Nat) (w : World) (hf : ([a0, a1, a4].any fun s => decide (300 < s.size)) = false) (hl : len ≤ 60) (hn : ¬ (12 < N ∧ N ≤ 255))
    (ho : a1.size = 32) (hs : a0.size = 32) (ht : a4.size = 32 * m) (hN : N ≤ 255) (hm : m + 1 ≤ N) (hr : Rd w A (bools ws)) (hn2 : len = ws.length) (hK : ¬ (m < (hasPos ws N).length ∨ m = 0)) :
    Calls Try.prog 3 #[.string a0, .string a1, .int .i64 (N : Int), .int .i64 ((m + 1 : Nat) : Int), .string a4, .slice A len cap] w fun e w' => e = .returned (.bool true) ∧ Below w.heap.size w w' := by
  have HF := Lib.hid hf
  obtain ⟨q1, q2⟩ := not_or.1 hK
  obtain ⟨p1, p2, p3, p4⟩ := pos_facts ws N m hm (by omega)
  obtain ⟨T, hT⟩ : ∃ T, T = bs (tapeOut a1.data.toList (gets (splitL a0.data.toList a4.data.toList N m) (posTo ws (m - (hasPos ws N).length) N).1)) := ⟨_, rfl⟩
  have hTs : T.size = 32 * m := by rw [hT, bs_size, tapeOut_len, gets_len, p3, Nat.mul_comm]
  have hR1 : remapV a0.data.toList a1.data.toList a4.data.toList N m ws = .tuple #[.string T, .int .i64 0] := by rw [remapV, if_neg hK, hT]
  have hTd : T.data.toList = tapeOut a1.data.toList (gets (splitL a0.data.toList a4.data.toList N m) (posTo ws (m - (hasPos ws N).length) N).1) := by rw [hT]; rfl
  have hfor : ∀ qs, (∀ i ∈ qs, i ∈ (posTo ws (m - (hasPos ws N).length) N).1) → gets (splitL a1.data.toList T.data.toList N m) qs = gets (splitL a0.data.toList a4.data.toList N m) qs := fun qs hq => by
    rw [hTd]
    exact gets_forth _ _ _ N m _ qs hN p1 p2 p3 hq
  have hR2 : remapV a1.data.toList a0.data.toList T.data.toList N m ws = .tuple #[.string a4, .int .i64 0] := by
    rw [remapV, if_neg hK, hfor _ (fun i hi => hi), tape_back a0.data.toList a4.data.toList N m _ hN p1 p2 p3 (by rw [len_data, ht])]
    rfl
  have HR1 := Lib.hid hR1
  have HR2 := Lib.hid hR2
  have Hsame := Lib.hid (hfor (hasPos ws N) p4)
  have HTs := Lib.hid hTs
  have Ho := Lib.hid ho
  have Hs := Lib.hid hs
  have Ht := Lib.hid ht
  have HR := Lib.hid hr
  have HN2 := Lib.hid hn2
  have hw1 : ws.length ≤ 60 := by omega
  obtain ⟨k, hk⟩ : ∃ k, k = m + 1 := ⟨_, rfl⟩
  rw [← hk]
  have Hk := Lib.hid hk
  have d1 : decide ((60 : Int) < (len : Int)) = false := by simp; omega
  have d3 : decide ((12 : Int) < (N : Int)) = false := by simp; omega
  have hKl := hasPos_len ws N
  have HKN := Lib.hid (show (hasPos ws N).length = (gets (splitL a0.data.toList a4.data.toList N m) (hasPos ws N)).length by rw [gets_len])
  clear hf ho hs ht hr hn2 hK hR1 hR2 hfor hTd hTs hT p1 p2 p3 p4 q1 q2 hk hn
  go_enter Try.func3, Try.ntmps3
  go_wp2_with fail
  refine (vfar_any [a0, a1, a4] _ 3 3 _ (rd_new _ _ _) rfl (by simp)).mono ?_
  rintro e w1 ⟨rfl, rfl⟩
  rw [HF.out]
  go_wp2_with fail
  refine Calls.mono (Hk.out ▸ remap_yes a0 a1 a4 N m ws A len cap _ Ho.out Hs.out Ht.out hN hm (HR.out.below ((Below.refl _ _).alloc (Nat.le_refl _) _)) HN2.out (by omega)) ?_
  rintro e w2 ⟨rfl, hb2⟩
  rw [HR1.out]
  replace hb2 := Below.chain_alloc (Below.refl _ _) hb2
  go_wp2_with fail
  refine Calls.mono (Hk.out ▸ split_yes a0 a4 N m _ Hs.out Ht.out hN hm) ?_
  rintro e w3 ⟨g3, rfl, ho3, hb3⟩
  have HO3 := Lib.hid ho3
  replace hb3 := Below.chain hb2 hb3
  clear ho3 hb2
  go_wp2_with fail
  refine Calls.mono (Hk.out ▸ split_yes a1 T N m _ Ho.out HTs.out hN hm) ?_
  rintro e w4 ⟨g4, rfl, ho4, hb4⟩
  have HO4 := Lib.hid ho4
  have HO34 := Lib.hid (own_keep HO3.out hb4)
  replace hb4 := Below.chain hb3 hb4
  clear ho4 hb3 HO3
  go_wp2_with fail
  refine Calls.mono (Hk.out ▸ remap_yes a1 a0 T N m ws A len cap _ Hs.out Ho.out HTs.out hN hm (HR.out.below hb4) HN2.out (by omega)) ?_
  rintro e w5 ⟨rfl, hb5⟩
  rw [HR2.out]
  have HO35 := Lib.hid (own_keep HO34.out hb5)
  have HO45 := Lib.hid (own_keep HO4.out hb5)
  replace hb5 := Below.chain hb4 hb5
  clear hb4 HO34 HO4
  go_wp2_with fail
  refine (views_any _).mono ?_
  rintro e w6 ⟨rfl, hb6⟩
  have HO36 := Lib.hid (own_keep HO35.out hb6)
  have HO46 := Lib.hid (own_keep HO45.out hb6)
  replace hb6 := Below.chain hb5 hb6
  clear hb5 HO35 HO45
  go_wp2_with fail
  refine (vshares_any (splitL a0.data.toList a4.data.toList N m) ws _ A N N len cap _ (own_rd HO36.out) (splitL_len _ _ _ _).symm (by rw [splitL_len]; omega) (HR.out.below hb6) HN2.out (by omega)).mono ?_
  rintro e w7 ⟨B7, cap7, rfl, ho7, hb7⟩
  have HO7 := Lib.hid ho7
  have HO47 := Lib.hid (own_keep HO46.out hb7)
  replace hb7 := Below.chain hb6 hb7
  clear hb6 HO36 HO46 ho7
  go_wp2_with fail
  refine (vshares_any (splitL a1.data.toList T.data.toList N m) ws _ A N N len cap _ (own_rd HO47.out) (splitL_len _ _ _ _).symm (by rw [splitL_len]; omega) (HR.out.below hb7) HN2.out (by omega)).mono ?_
  rintro e w8 ⟨B8, cap8, rfl, ho8, hb8⟩
  rw [Hsame.out] at ho8
  have HO8 := Lib.hid ho8
  have HO78 := Lib.hid (own_keep HO7.out hb8)
  replace hb8 := Below.chain hb7 hb8
  clear hb7 HO7 HO47 ho8
  go_wp2_with fail
  refine (same_eq _ B7 B8 _ cap7 cap8 _ (own_rd HO78.out) (own_rd HO8.out) HKN.out (by rw [← HKN.out]; omega)).mono ?_
  rintro e w9 ⟨rfl, hb9⟩
  replace hb9 := Below.chain hb8 hb9
  go_wp2_with fail
  go_ret
  exact ⟨by simp, hb9⟩

theorem viewShares_law (a0 : ByteArray) (w0 : a0.size ≤ maxLen) (a1 : ByteArray) (w1 : a1.size ≤ maxLen) (a2 a3 : Int) (a4 : ByteArray) (w4 : a4.size ≤ maxLen) (A : Option Addr) (len cap : Nat) (ws : List Bool) (hn : len = ws.length) (hl : ws.length ≤ maxLen) (w : World) (hr : Rd w A (bools ws)) :
    Calls Try.prog 3 #[.string a0, .string a1, .int .i64 a2, .int .i64 a3, .string a4, .slice A len cap] w fun e w' => e = .returned (.bool true) ∧ Below w.heap.size w w' := by
  by_cases hf : ([a0, a1, a4].any fun s => decide (300 < s.size)) = true
  · have HF := Lib.hid hf
    clear hf hr hl
    go_enter Try.func3, Try.ntmps3
    go_wp2_with fail
    refine (vfar_any [a0, a1, a4] _ 3 3 _ (rd_new _ _ _) rfl (by simp)).mono ?_
    rintro e w1 ⟨rfl, rfl⟩
    rw [HF.out]
    go_wp2_with fail
    go_ret
    exact ⟨rfl, (Below.refl _ _).alloc (Nat.le_refl _) _⟩
  have hf : ([a0, a1, a4].any fun s => decide (300 < s.size)) = false := by simpa using hf
  by_cases h60 : 60 < len
  · have HF := Lib.hid hf
    have d1 : decide ((60 : Int) < (len : Int)) = true := by simp; omega
    clear hf hr hl hn
    go_enter Try.func3, Try.ntmps3
    go_wp2_with fail
    refine (vfar_any [a0, a1, a4] _ 3 3 _ (rd_new _ _ _) rfl (by simp)).mono ?_
    rintro e w1 ⟨rfl, rfl⟩
    rw [HF.out]
    go_wp2_with fail
    go_ret
    exact ⟨rfl, (Below.refl _ _).alloc (Nat.le_refl _) _⟩
  by_cases h12 : 12 < a2 ∧ a2 ≤ 255
  · have HF := Lib.hid hf
    have d1 : decide ((60 : Int) < (len : Int)) = false := by simp; omega
    have d3 : decide (12 < a2) = true := by simp; omega
    have d4 : decide (a2 ≤ 255) = true := by simp; omega
    clear hf hr hl hn h12
    go_enter Try.func3, Try.ntmps3
    go_wp2_with fail
    refine (vfar_any [a0, a1, a4] _ 3 3 _ (rd_new _ _ _) rfl (by simp)).mono ?_
    rintro e w1 ⟨rfl, rfl⟩
    rw [HF.out]
    go_wp2_with fail
    go_ret
    exact ⟨rfl, (Below.refl _ _).alloc (Nat.le_refl _) _⟩
  by_cases h32 : a1.size = 32
  · by_cases hs : splitOK a0 a4 a2 a3 = true
    · obtain ⟨N, m, rfl, rfl, h1, h2, h3, h4⟩ := split_is a0 a4 a2 a3 hs
      by_cases hK : m < (hasPos ws N).length ∨ m = 0
      · refine viewShares_no a0 a1 a4 _ _ 90 A len cap w hf (by omega) h12 (by omega) fun W hW => ?_
        have h := remap_yes a0 a1 a4 N m ws A len cap W h32 h1 h2 h3 h4 (hr.below hW) hn (by omega)
        rw [remapV, if_pos hK] at h
        exact h
      · exact viewShares_yes a0 a1 a4 N m ws A len cap w hf (by omega) (by omega) h32 h1 h2 h3 h4 hr hn hK
    · exact viewShares_no a0 a1 a4 _ _ 1 A len cap w hf (by omega) h12 (by omega) fun W _ => remap_split a0 a1 a4 a2 a3 A len cap W h32 (by simpa using hs)
  · exact viewShares_no a0 a1 a4 _ _ 1 A len cap w hf (by omega) h12 (by omega) fun W _ => remap_arg a0 a1 a4 a2 a3 A len cap W h32
end Go.Proofs.Ytidnlginjjgmjaa
