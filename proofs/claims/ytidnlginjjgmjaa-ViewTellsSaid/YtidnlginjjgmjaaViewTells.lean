/-
  The walk of the law ViewTells, with the contracts of keyholeref09.Big and keyholeref16.Big.
-/
import Derived.Test.YtidnlginjjgmjaaRemap27
import Derived.Test.YtidnlginjjgmjaaViewShares
namespace Go.Proofs.Ytidnlginjjgmjaa
open Go.RowKit
set_option linter.unusedVariables false
set_option maxRecDepth 100000
set_option maxHeartbeats 2000000

theorem big9 (l : List Shr) (A : Option Addr) (n c : Nat) (w : World) (hr : Rd w A (sharesV l)) (hn : n = l.length) (hm : l.length ≤ maxLen) :
    Calls Try.prog 15 #[.slice A n c] w fun e w' => ∃ b, e = .returned (.bool b) ∧ (b = false → n ≤ 300) ∧ w' = w := by
  have HR := Lib.hid hr
  have HN := Lib.hid hn
  have hm2 : n ≤ maxLen := by omega
  have hm3 : n ≤ 9223372036854775807 := by unfold maxLen at hm2; omega
  clear hr hn hm hm2
  by_cases h8 : 8 < n ∧ n ≤ 255
  · have d1 : decide ((8 : Int) < (n : Int)) = true := by simp; omega
    have d2 : decide ((n : Int) ≤ 255) = true := by simp; omega
    clear h8
    go_enter Try.func15, Try.ntmps15
    go_wp2_with fail
    go_ret
    exact ⟨true, rfl, by simp, rfl⟩
  by_cases h3 : 300 < n
  · have d1 : decide ((8 : Int) < (n : Int)) = true := by simp; omega
    have d2 : decide ((n : Int) ≤ 255) = false := by simp; omega
    have d3 : decide ((300 : Int) < (n : Int)) = true := by simp; omega
    clear h8 h3
    go_enter Try.func15, Try.ntmps15
    go_wp2_with fail
    go_ret
    exact ⟨true, rfl, by simp, rfl⟩
  have h300 : n ≤ 300 := by omega
  have d0 : (decide ((8 : Int) < (n : Int)) = true ∧ decide ((n : Int) ≤ 255) = false) ∨ decide ((8 : Int) < (n : Int)) = false := by simp; omega
  have d3 : decide ((300 : Int) < (n : Int)) = false := by simp; omega
  clear h8 h3
  rcases d0 with ⟨d1, d2⟩ | d1
  all_goals
    go_enter Try.func15, Try.ntmps15
    go_wp2_with fail
    go_loopw [3] (fun x wr => ∃ i : Nat, i ≤ n ∧ x = .int .i64 (i : Nat) ∧ wr = w) (fun x _ => n - (intOf x).toNat)
    case atStart => exact ⟨0, by omega, rfl, rfl⟩
    case round =>
      obtain ⟨i, hi, rfl, rfl⟩ := hrel
      by_cases hlt : i < n
      · have hil : i < l.length := by rw [← HN.out]; exact hlt
        obtain ⟨b, off, hA, z1, c2⟩ := HR.out.shr hil
        clear z1
        subst hA
        generalize l[i].2 = bb at c2
        have hiI : (i : Int) < (n : Int) := by omega
        by_cases hb : 100 < bb.size
        · have e1 : decide ((100 : Int) < (bb.size : Int)) = true := by simp; omega
          go_wp2_with fail
          go_ret
          exact ⟨true, rfl, by simp, rfl⟩
        · have e1 : decide ((100 : Int) < (bb.size : Int)) = false := by simp; omega
          go_wp2_with fail
          go_roundw
          case rel => exact ⟨i + 1, by omega, by go_num, by trivial⟩
          case measure => simp [intOf]; omega
      · obtain rfl : i = n := by omega
        go_wp2_with fail
        go_ret
        exact ⟨false, rfl, fun _ => by omega, rfl⟩

theorem big16 (l : List ByteArray) (rt : ByteArray) (A : Option Addr) (n c : Nat) (w : World) (hr : Rd w A (textsV l)) (hn : n = l.length) (hm : l.length ≤ maxLen) :
    Calls Try.prog 14 #[.agg #[.slice A n c, .string rt]] w fun e w' => ∃ b, e = .returned (.bool b) ∧ (b = false → n ≤ 100 ∧ ∀ s ∈ l, s.size ≤ 200) ∧ Below w.heap.size w w' := by
  have HR := Lib.hid hr
  have HN := Lib.hid hn
  have hm2 : n ≤ maxLen := by omega
  have hm3 : n ≤ 9223372036854775807 := by unfold maxLen at hm2; omega
  have HB0 := Lib.hid ((Below.refl w.heap.size w).alloc (Nat.le_refl _) (.cells #[.slice A n c, .string rt] 38))
  clear hr hn hm hm2
  by_cases h8 : 8 < n ∧ n ≤ 64
  · have d1 : decide ((8 : Int) < (n : Int)) = true := by simp; omega
    have d2 : decide ((n : Int) ≤ 64) = true := by simp; omega
    clear h8
    go_enter Try.func14, Try.ntmps14
    go_wp2_with fail
    go_ret
    exact ⟨true, rfl, by simp, HB0.out⟩
  by_cases h3 : 100 < n
  · have d1 : decide ((8 : Int) < (n : Int)) = true := by simp; omega
    have d2 : decide ((n : Int) ≤ 64) = false := by simp; omega
    have d3 : decide ((100 : Int) < (n : Int)) = true := by simp; omega
    clear h8 h3
    go_enter Try.func14, Try.ntmps14
    go_wp2_with fail
    go_ret
    exact ⟨true, rfl, by simp, HB0.out⟩
  have h100 : n ≤ 100 := by omega
  have d0 : (decide ((8 : Int) < (n : Int)) = true ∧ decide ((n : Int) ≤ 64) = false) ∨ decide ((8 : Int) < (n : Int)) = false := by simp; omega
  have d3 : decide ((100 : Int) < (n : Int)) = false := by simp; omega
  clear h8 h3
  by_cases hrt : 100 < rt.size
  · have d4 : decide ((100 : Int) < (rt.size : Int)) = true := by simp; omega
    rcases d0 with ⟨d1, d2⟩ | d1
    all_goals
      go_enter Try.func14, Try.ntmps14
      go_wp2_with fail
      go_ret
      exact ⟨true, rfl, by simp, HB0.out⟩
  have d4 : decide ((100 : Int) < (rt.size : Int)) = false := by simp; omega
  rcases d0 with ⟨d1, d2⟩ | d1
  all_goals
    go_enter Try.func14, Try.ntmps14
    go_wp2_with fail
    have HC0 := Lib.hid (two_cells (heap_alloc_new w (.cells #[.slice A n c, .string rt] 38))).1
    generalize hw0 : w.alloc (.cells #[.slice A n c, .string rt] 38) = w0 at HC0 HB0 ⊢
    clear hw0
    go_loopw [3] (fun x wr => ∃ i : Nat, i ≤ n ∧ x = .int .i64 (i : Nat) ∧ (∀ s ∈ l.take i, s.size ≤ 200) ∧ wr = w0) (fun x _ => n - (intOf x).toNat)
    case atStart => exact ⟨0, by omega, rfl, by simp, rfl⟩
    case round =>
      obtain ⟨i, hi, rfl, ha, rfl⟩ := hrel
      have Ha := Lib.hid ha
      have c0 := HC0.out
      clear ha
      by_cases hlt : i < n
      · have hil : i < l.length := by rw [← HN.out]; exact hlt
        obtain ⟨b, off, hA, c2⟩ := texts_at (HR.out.below HB0.out) hil
        subst hA
        have Hsn := Lib.hid (show l.take (i + 1) = l.take i ++ [l[i]] from List.take_succ_eq_append_getElem hil)
        generalize l[i] = bb at c2 Hsn
        have hiI : (i : Int) < (n : Int) := by omega
        by_cases hb : 200 < bb.size
        · have e1 : decide ((200 : Int) < (bb.size : Int)) = true := by simp; omega
          go_wp2_with fail
          go_ret
          exact ⟨true, rfl, by simp, HB0.out⟩
        · have e1 : decide ((200 : Int) < (bb.size : Int)) = false := by simp; omega
          have Hb := Lib.hid (show bb.size ≤ 200 by omega)
          clear hb
          go_wp2_with fail
          go_roundw
          case rel =>
            refine ⟨i + 1, by omega, by go_num, ?_, by trivial⟩
            intro s hs
            rw [Hsn.out] at hs
            rcases List.mem_append.1 hs with h | h
            · exact Ha.out s h
            · rw [List.mem_singleton.1 h]
              exact Hb.out
          case measure => simp [intOf]; omega
      · obtain rfl : i = n := by omega
        have Hall := Lib.hid (show l.take i = l by rw [HN.out, List.take_of_length_le (Nat.le_refl _)])
        rw [Hall.out] at Ha
        go_wp2_with fail
        go_ret
        exact ⟨false, rfl, fun _ => ⟨by omega, Ha.out⟩, HB0.out⟩

/-- Both Remaps answer the same. -/
theorem remap_both (s o t : ByteArray) (n k : Int) (ws : List Bool) (A : Option Addr) (n2 c2 : Nat) (w : World) (hr : Rd w A (bools ws)) (hn2 : n2 = ws.length) (hl2 : ws.length ≤ 1000) :
    ∃ (T : ByteArray) (E : Int), (∀ W, Below w.heap.size w W → Calls Try.prog 7 #[.string s, .string o, .int .i64 n, .int .i64 k, .string t, .slice A n2 c2] W fun e w' => e = .returned (.tuple #[.string T, .int .i64 E]) ∧ Below W.heap.size W w') ∧
      ∀ W, Below w.heap.size w W → Calls Try.prog 16 #[.string s, .string o, .int .i64 n, .int .i64 k, .string t, .slice A n2 c2] W fun e w' => e = .returned (.tuple #[.string T, .int .i64 E]) ∧ Below W.heap.size W w' := by
  by_cases h32 : o.size = 32
  · by_cases hs : splitOK s t n k = true
    · obtain ⟨N, m, rfl, rfl, h1, h2, h3, h4⟩ := split_is s t n k hs
      obtain ⟨T, E, hTE⟩ : ∃ T E, remapV s.data.toList o.data.toList t.data.toList N m ws = .tuple #[.string T, .int .i64 E] := by
        unfold remapV
        split
        · exact ⟨_, _, rfl⟩
        · exact ⟨_, _, rfl⟩
      refine ⟨T, E, fun W hW => ?_, fun W hW => ?_⟩
      · rw [← hTE]
        exact remap_yes s o t N m ws A n2 c2 W h32 h1 h2 h3 h4 (hr.below hW) hn2 hl2
      · rw [← hTE]
        exact remap27_yes s o t N m ws A n2 c2 W h32 h1 h2 h3 h4 (hr.below hW) hn2 hl2
    · exact ⟨_, _, fun W _ => remap_split s o t n k A n2 c2 W h32 (by simpa using hs), fun W _ => remap27_split s o t n k A n2 c2 W h32 (by simpa using hs)⟩
  · exact ⟨_, _, fun W _ => remap_arg s o t n k A n2 c2 W h32, fun W _ => remap27_arg s o t n k A n2 c2 W h32⟩

/-- Where the choice is long. -/
theorem viewTells_long (a0 a4 a5 a8 rt : ByteArray) (a6 a7 : Int) (bl : List ByteArray) (l : List Shr) (ws : List Bool) (A1 A2 A3 : Option Addr) (n1 c1 n2 c2 n3 c3 : Nat) (w : World) (h0 : a0.size ≤ 300)
    (hr1 : Rd w A1 (textsV bl)) (hn1 : n1 = bl.length) (hm1 : bl.length ≤ maxLen) (hr2 : Rd w A2 (sharesV l)) (hn2 : n2 = l.length) (hm2 : l.length ≤ maxLen) (hr3 : Rd w A3 (bools ws)) (hn3 : n3 = ws.length)
    (hf : ([a0, a4, a5, a8].any fun s => decide (300 < s.size)) = false) (h60 : decide ((60 : Int) < (n3 : Int)) = true) :
    Calls Try.prog 5 #[.string a0, .agg #[.slice A1 n1 c1, .string rt], .slice A2 n2 c2, .slice A3 n3 c3, .string a4, .string a5, .int .i64 a6, .int .i64 a7, .string a8] w fun e w' => e = .returned (.bool true) ∧ Below w.heap.size w w' := by
  have HR1 := Lib.hid hr1
  have HR2 := Lib.hid hr2
  have HR3 := Lib.hid hr3
  have HN1 := Lib.hid hn1
  have HN2 := Lib.hid hn2
  have HN3 := Lib.hid hn3
  have HM1 := Lib.hid hm1
  have HM2 := Lib.hid hm2
  have HF := Lib.hid hf
  clear hr1 hr2 hr3 hn1 hn2 hn3 hm1 hm2 hf
  go_enter Try.func5, Try.ntmps5
  go_wp2_with fail
  have K := Lib.hid (two_cells (heap_alloc_new w (.cells #[.slice A1 n1 c1, .string rt] 38)))
  have HB := (Below.refl w.heap.size w).alloc (Nat.le_refl _) (.cells #[.slice A1 n1 c1, .string rt] 38)
  generalize hw0 : w.alloc (.cells #[.slice A1 n1 c1, .string rt] 38) = w0 at K HB ⊢
  have Hw0s := Lib.hid (show w0.heap.size = w.heap.size + 1 by rw [← hw0]; simp)
  have KK : w0.cell? ⟨w.heap.size, 0, none⟩ = some (.slice A1 n1 c1) ∧ w0.cell? ⟨w.heap.size, 1, none⟩ = some (.string rt) := ⟨K.out.1, K.out.2.1⟩
  clear hw0 K
  refine Calls.mono (vfar_any [a0, a4, a5, a8] _ 4 4 _ (by exact rd_new' _ _ _ _ Hw0s.out) rfl (by simp)) ?_
  rintro e w1 ⟨rfl, rfl⟩
  rw [HF.out]
  replace HB := HB.alloc HB.size (.cells #[.string a0, .string a4, .string a5, .string a8] 9)
  replace KK := keep2_alloc (o := .cells #[.string a0, .string a4, .string a5, .string a8] 9) KK
  generalize w0.alloc (.cells #[.string a0, .string a4, .string a5, .string a8] 9) = w1 at HB KK ⊢
  obtain ⟨k0, k1⟩ := KK
  go_wp2_with fail
  refine (big16 bl rt A1 n1 c1 _ (HR1.out.below HB) HN1.out HM1.out).mono ?_
  rintro e w2 ⟨b16, rfl, hb16, hb2⟩
  replace HB := Below.chain HB hb2
  have KK := keep2_below ⟨k0, k1⟩ hb2
  clear k0 k1 hb2
  cases b16 with
  | true =>
    clear hb16
    go_wp2_with fail
    go_ret
    exact ⟨rfl, HB⟩
  | false =>
    obtain ⟨hl1, hs1⟩ := hb16 rfl
    have HS1 := Lib.hid hs1
    clear hs1 hb16
    go_wp2_with fail
    refine (big9 l A2 n2 c2 _ (HR2.out.below HB) HN2.out HM2.out).mono ?_
    rintro e w3 ⟨b9, rfl, hb9, rfl⟩
    cases b9 with
    | true =>
      clear hb9
      go_wp2_with fail
      go_ret
      exact ⟨rfl, HB⟩
    | false =>
      have hl2 := hb9 rfl
      clear hb9
      go_wp2_with fail
      go_ret
      exact ⟨rfl, HB⟩
/-- Where there are many shares. -/
theorem viewTells_many (a0 a4 a5 a8 rt : ByteArray) (a6 a7 : Int) (bl : List ByteArray) (l : List Shr) (ws : List Bool) (A1 A2 A3 : Option Addr) (n1 c1 n2 c2 n3 c3 : Nat) (w : World) (h0 : a0.size ≤ 300)
    (hr1 : Rd w A1 (textsV bl)) (hn1 : n1 = bl.length) (hm1 : bl.length ≤ maxLen) (hr2 : Rd w A2 (sharesV l)) (hn2 : n2 = l.length) (hm2 : l.length ≤ maxLen) (hr3 : Rd w A3 (bools ws)) (hn3 : n3 = ws.length)
    (hf : ([a0, a4, a5, a8].any fun s => decide (300 < s.size)) = false) (h60 : decide ((60 : Int) < (n3 : Int)) = false) (d1 : decide (8 < a6) = true) (d2 : decide (a6 ≤ 255) = true) :
    Calls Try.prog 5 #[.string a0, .agg #[.slice A1 n1 c1, .string rt], .slice A2 n2 c2, .slice A3 n3 c3, .string a4, .string a5, .int .i64 a6, .int .i64 a7, .string a8] w fun e w' => e = .returned (.bool true) ∧ Below w.heap.size w w' := by
  have HR1 := Lib.hid hr1
  have HR2 := Lib.hid hr2
  have HR3 := Lib.hid hr3
  have HN1 := Lib.hid hn1
  have HN2 := Lib.hid hn2
  have HN3 := Lib.hid hn3
  have HM1 := Lib.hid hm1
  have HM2 := Lib.hid hm2
  have HF := Lib.hid hf
  clear hr1 hr2 hr3 hn1 hn2 hn3 hm1 hm2 hf
  go_enter Try.func5, Try.ntmps5
  go_wp2_with fail
  have K := Lib.hid (two_cells (heap_alloc_new w (.cells #[.slice A1 n1 c1, .string rt] 38)))
  have HB := (Below.refl w.heap.size w).alloc (Nat.le_refl _) (.cells #[.slice A1 n1 c1, .string rt] 38)
  generalize hw0 : w.alloc (.cells #[.slice A1 n1 c1, .string rt] 38) = w0 at K HB ⊢
  have Hw0s := Lib.hid (show w0.heap.size = w.heap.size + 1 by rw [← hw0]; simp)
  have KK : w0.cell? ⟨w.heap.size, 0, none⟩ = some (.slice A1 n1 c1) ∧ w0.cell? ⟨w.heap.size, 1, none⟩ = some (.string rt) := ⟨K.out.1, K.out.2.1⟩
  clear hw0 K
  refine Calls.mono (vfar_any [a0, a4, a5, a8] _ 4 4 _ (by exact rd_new' _ _ _ _ Hw0s.out) rfl (by simp)) ?_
  rintro e w1 ⟨rfl, rfl⟩
  rw [HF.out]
  replace HB := HB.alloc HB.size (.cells #[.string a0, .string a4, .string a5, .string a8] 9)
  replace KK := keep2_alloc (o := .cells #[.string a0, .string a4, .string a5, .string a8] 9) KK
  generalize w0.alloc (.cells #[.string a0, .string a4, .string a5, .string a8] 9) = w1 at HB KK ⊢
  obtain ⟨k0, k1⟩ := KK
  go_wp2_with fail
  refine (big16 bl rt A1 n1 c1 _ (HR1.out.below HB) HN1.out HM1.out).mono ?_
  rintro e w2 ⟨b16, rfl, hb16, hb2⟩
  replace HB := Below.chain HB hb2
  have KK := keep2_below ⟨k0, k1⟩ hb2
  clear k0 k1 hb2
  cases b16 with
  | true =>
    clear hb16
    go_wp2_with fail
    go_ret
    exact ⟨rfl, HB⟩
  | false =>
    obtain ⟨hl1, hs1⟩ := hb16 rfl
    have HS1 := Lib.hid hs1
    clear hs1 hb16
    go_wp2_with fail
    refine (big9 l A2 n2 c2 _ (HR2.out.below HB) HN2.out HM2.out).mono ?_
    rintro e w3 ⟨b9, rfl, hb9, rfl⟩
    cases b9 with
    | true =>
      clear hb9
      go_wp2_with fail
      go_ret
      exact ⟨rfl, HB⟩
    | false =>
      have hl2 := hb9 rfl
      clear hb9
      go_wp2_with fail
      go_ret
      exact ⟨rfl, HB⟩
/-- Where texts and rows are short: both answers are the same. -/
theorem viewTells_yes (a0 a4 a5 a8 rt : ByteArray) (a6 a7 : Int) (bl : List ByteArray) (l : List Shr) (ws : List Bool) (A1 A2 A3 : Option Addr) (n1 c1 n2 c2 n3 c3 : Nat) (w : World) (h0 : a0.size ≤ 300)
    (hr1 : Rd w A1 (textsV bl)) (hn1 : n1 = bl.length) (hm1 : bl.length ≤ maxLen) (hr2 : Rd w A2 (sharesV l)) (hn2 : n2 = l.length) (hm2 : l.length ≤ maxLen) (hr3 : Rd w A3 (bools ws)) (hn3 : n3 = ws.length)
    (hf : ([a0, a4, a5, a8].any fun s => decide (300 < s.size)) = false) (hl3 : n3 ≤ 60) (h60 : decide ((60 : Int) < (n3 : Int)) = false) (d0 : (decide (8 < a6) = true ∧ decide (a6 ≤ 255) = false) ∨ decide (8 < a6) = false) :
    Calls Try.prog 5 #[.string a0, .agg #[.slice A1 n1 c1, .string rt], .slice A2 n2 c2, .slice A3 n3 c3, .string a4, .string a5, .int .i64 a6, .int .i64 a7, .string a8] w fun e w' => e = .returned (.bool true) ∧ Below w.heap.size w w' := by
  obtain ⟨T, E, rA, rB⟩ := remap_both a4 a5 a8 a6 a7 ws A3 n3 c3 w hr3 hn3 (by omega)
  have RA := Lib.hid rA
  have RB := Lib.hid rB
  have HR1 := Lib.hid hr1
  have HR2 := Lib.hid hr2
  have HR3 := Lib.hid hr3
  have HN1 := Lib.hid hn1
  have HN2 := Lib.hid hn2
  have HN3 := Lib.hid hn3
  have HM1 := Lib.hid hm1
  have HM2 := Lib.hid hm2
  have HF := Lib.hid hf
  clear hr1 hr2 hr3 hn1 hn2 hn3 hm1 hm2 hf rA rB
  rcases d0 with ⟨d1, d2⟩ | d1
  all_goals
    go_enter Try.func5, Try.ntmps5
    go_wp2_with fail
    have K := Lib.hid (two_cells (heap_alloc_new w (.cells #[.slice A1 n1 c1, .string rt] 38)))
    have HB := (Below.refl w.heap.size w).alloc (Nat.le_refl _) (.cells #[.slice A1 n1 c1, .string rt] 38)
    generalize hw0 : w.alloc (.cells #[.slice A1 n1 c1, .string rt] 38) = w0 at K HB ⊢
    have Hw0s := Lib.hid (show w0.heap.size = w.heap.size + 1 by rw [← hw0]; simp)
    have KK : w0.cell? ⟨w.heap.size, 0, none⟩ = some (.slice A1 n1 c1) ∧ w0.cell? ⟨w.heap.size, 1, none⟩ = some (.string rt) := ⟨K.out.1, K.out.2.1⟩
    clear hw0 K
    refine Calls.mono (vfar_any [a0, a4, a5, a8] _ 4 4 _ (by exact rd_new' _ _ _ _ Hw0s.out) rfl (by simp)) ?_
    rintro e w1 ⟨rfl, rfl⟩
    rw [HF.out]
    replace HB := HB.alloc HB.size (.cells #[.string a0, .string a4, .string a5, .string a8] 9)
    replace KK := keep2_alloc (o := .cells #[.string a0, .string a4, .string a5, .string a8] 9) KK
    generalize w0.alloc (.cells #[.string a0, .string a4, .string a5, .string a8] 9) = w1 at HB KK ⊢
    obtain ⟨k0, k1⟩ := KK
    go_wp2_with fail
    refine (big16 bl rt A1 n1 c1 _ (HR1.out.below HB) HN1.out HM1.out).mono ?_
    rintro e w2 ⟨b16, rfl, hb16, hb2⟩
    replace HB := Below.chain HB hb2
    have KK := keep2_below ⟨k0, k1⟩ hb2
    clear k0 k1 hb2
    cases b16 with
    | true =>
      clear hb16
      go_wp2_with fail
      go_ret
      exact ⟨rfl, HB⟩
    | false =>
      obtain ⟨hl1, hs1⟩ := hb16 rfl
      have HS1 := Lib.hid hs1
      clear hs1 hb16
      go_wp2_with fail
      refine (big9 l A2 n2 c2 _ (HR2.out.below HB) HN2.out HM2.out).mono ?_
      rintro e w3 ⟨b9, rfl, hb9, rfl⟩
      cases b9 with
      | true =>
        clear hb9
        go_wp2_with fail
        go_ret
        exact ⟨rfl, HB⟩
      | false =>
        have hl2 := hb9 rfl
        clear hb9
        go_wp2_with fail
        refine (RA.out _ HB).mono ?_
        rintro e w4 ⟨rfl, hb4⟩
        replace HB := Below.chain HB hb4
        replace KK := keep2_below KK hb4
        clear hb4
        go_wp2_with fail
        refine (RB.out _ HB).mono ?_
        rintro e w5 ⟨rfl, hb5⟩
        replace HB := Below.chain HB hb5
        replace KK := keep2_below KK hb5
        clear hb5 RA RB
        have HKK := Lib.hid KK
        clear KK
        go_wp2_with fail
        replace HB := HB.drew
        obtain ⟨k0, k1⟩ : w5.drew.cell? ⟨w.heap.size, 0, none⟩ = some (.slice A1 n1 c1) ∧ w5.drew.cell? ⟨w.heap.size, 1, none⟩ = some (.string rt) := HKK.out
        go_region_held3 (fun w' => w'.cell? ⟨w.heap.size, 0, none⟩ = some (.slice A1 n1 c1) ∧ w'.cell? ⟨w.heap.size, 1, none⟩ = some (.string rt))
          (first | assumption | exact ⟨k0, k1⟩ | exact keep2_below (by assumption) (by assumption))
          (first
            | (go_at_call 9; refine (views_any _).mono ?_; rintro _ w' ⟨rfl, hb⟩; replace HB := Below.chain HB hb)
            | (go_at_call 12; refine (block_any _ _ (by omega)).mono ?_; rintro _ w' ⟨rfl, hb⟩; replace HB := Below.chain HB hb)
            | (go_at_call 17; refine (block27 _ _ (by omega)).mono ?_; rintro _ w' ⟨rfl, hb⟩; replace HB := Below.chain HB hb)
            | (go_at_call 13; refine (frame_any _ _ (by omega)).mono ?_; rintro _ w' ⟨rfl, hb⟩; replace HB := Below.chain HB hb)
            | (go_at_call 18; refine (frame27 _ _ (by omega)).mono ?_; rintro _ w' ⟨rfl, hb⟩; replace HB := Below.chain HB hb)
            | (go_at_call 20; refine (vvolume_any bl rt A1 n1 c1 _ (HR1.out.below HB) HN1.out (by rw [← HN1.out]; omega) (fun s hs => by have := HS1.out s hs; omega)).mono ?_; rintro _ w' ⟨Bv, cv, rfl, ho, hb⟩; have HOv := Lib.hid ho; clear ho; replace HB := Below.chain HB hb)
            | (go_at_call 21; refine (volume27 bl rt A1 n1 c1 _ (HR1.out.below HB) HN1.out (by rw [← HN1.out]; omega) (fun s hs => by have := HS1.out s hs; omega)).mono ?_; rintro _ w' ⟨Bu, cu, rfl, ho, hb⟩; have HOu := Lib.hid ho; clear ho; replace HOv := Lib.hid (own_keep HOv.out hb); replace HB := Below.chain HB hb)
            | (go_at_call 19; refine (texts_any _ _ _ _ _ _ _ _ _ (own_rd HOv.out) (own_rd HOu.out) (by rw [blocksSeen_len']; exact HN1.out) (by rw [blocksSeen_len']; exact HN1.out) (by rw [blocksSeen_len', ← HN1.out]; omega)).mono ?_; rintro _ w' ⟨rfl, hb⟩; replace HB := Below.chain HB hb; rw [decide_eq_true rfl])
            | (go_at_call 11; refine (vshares_any l ws A2 A3 n2 c2 n3 c3 _ (HR2.out.below HB) HN2.out (by rw [← HN2.out]; omega) (HR3.out.below HB) HN3.out (by rw [← HN3.out]; omega)).mono ?_; rintro _ w' ⟨Bp, cp, rfl, ho, hb⟩; have HOp := Lib.hid ho; clear ho; replace HB := Below.chain HB hb)
            | (go_at_call 22; refine (shares27 l ws A2 A3 n2 c2 n3 c3 _ (HR2.out.below HB) HN2.out (by rw [← HN2.out]; omega) (HR3.out.below HB) HN3.out (by rw [← HN3.out]; omega)).mono ?_; rintro _ w' ⟨Bq, cq, rfl, ho, hb⟩; have HOq := Lib.hid ho; clear ho; replace HOp := Lib.hid (own_keep HOp.out hb); replace HB := Below.chain HB hb)
            | (go_at_call 10; refine (same_eq (gets l (hasPos ws n2)) _ _ _ _ _ _ (own_rd HOp.out) (own_rd HOq.out) (by rw [gets_len]) (by rw [gets_len]; have := hasPos_len ws n2; omega)).mono ?_; rintro _ w' ⟨rfl, hb⟩; replace HB := Below.chain HB hb))
        go_wp2_with fail
        go_ret
        exact ⟨by simp, HB⟩
theorem viewTells_law (a0 a4 a5 a8 rt : ByteArray) (a6 a7 : Int) (bl : List ByteArray) (l : List Shr) (ws : List Bool) (A1 A2 A3 : Option Addr) (n1 c1 n2 c2 n3 c3 : Nat) (w : World)
    (hr1 : Rd w A1 (textsV bl)) (hn1 : n1 = bl.length) (hm1 : bl.length ≤ maxLen) (hr2 : Rd w A2 (sharesV l)) (hn2 : n2 = l.length) (hm2 : l.length ≤ maxLen) (hr3 : Rd w A3 (bools ws)) (hn3 : n3 = ws.length) :
    Calls Try.prog 5 #[.string a0, .agg #[.slice A1 n1 c1, .string rt], .slice A2 n2 c2, .slice A3 n3 c3, .string a4, .string a5, .int .i64 a6, .int .i64 a7, .string a8] w fun e w' => e = .returned (.bool true) ∧ Below w.heap.size w w' := by
  by_cases hf : ([a0, a4, a5, a8].any fun s => decide (300 < s.size)) = true
  · have HF := Lib.hid hf
    clear hf hr1 hr2 hr3 hm1 hm2 hn1 hn2 hn3
    go_enter Try.func5, Try.ntmps5
    go_wp2_with fail
    refine Calls.mono (vfar_any [a0, a4, a5, a8] _ 4 4 _ (by exact rd_new' _ _ _ _ (by simp)) rfl (by simp)) ?_
    rintro e w1 ⟨rfl, rfl⟩
    rw [HF.out]
    go_wp2_with fail
    go_ret
    exact ⟨rfl, ((Below.refl _ _).alloc (Nat.le_refl _) _).alloc (by simp) _⟩
  have hf : ([a0, a4, a5, a8].any fun s => decide (300 < s.size)) = false := by simpa using hf
  have h0 : a0.size ≤ 300 := by
    simp at hf
    omega
  by_cases h60 : 60 < n3
  · exact viewTells_long a0 a4 a5 a8 rt a6 a7 bl l ws A1 A2 A3 n1 c1 n2 c2 n3 c3 w h0 hr1 hn1 hm1 hr2 hn2 hm2 hr3 hn3 hf (by simp; omega)
  by_cases h8 : 8 < a6 ∧ a6 ≤ 255
  · exact viewTells_many a0 a4 a5 a8 rt a6 a7 bl l ws A1 A2 A3 n1 c1 n2 c2 n3 c3 w h0 hr1 hn1 hm1 hr2 hn2 hm2 hr3 hn3 hf (by simp; omega) (by simp; omega) (by simp; omega)
  · exact viewTells_yes a0 a4 a5 a8 rt a6 a7 bl l ws A1 A2 A3 n1 c1 n2 c2 n3 c3 w h0 hr1 hn1 hm1 hr2 hn2 hm2 hr3 hn3 hf (by omega) (by simp; omega) (by simp; omega)
end Go.Proofs.Ytidnlginjjgmjaa
