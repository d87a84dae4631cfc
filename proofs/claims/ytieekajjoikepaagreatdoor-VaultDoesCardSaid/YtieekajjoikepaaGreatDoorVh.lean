/-
  Contracts of vault: Head, readHead, areas.sector, size.
  Contracts of vault: rooted, Format.
  Contract of vault.open.
  Contract of vault.Load.
-/
import Derived.Test.YtieekajjoikepaaGreatDoorVt
import Derived.Test.YtieekajjoikepaaGreatDoorWd
import Derived.WalkMore
import Derived.Test.YtieekajjoikepaaGreatDoorVaT4
import Derived.Test.YtieekajjoikepaaGreatDoorVo4
import Derived.Test.YtieekajjoikepaaGreatDoorTw
namespace Go.Proofs.YtieekajjoikepaaGreatDoor
/- Va1 -/
open Go.RowKit
set_option linter.unusedVariables false
set_option linter.unusedSimpArgs false
set_option maxRecDepth 100000
set_option maxHeartbeats 1000000

theorem va_wrap (n : Int) : IntKind.u8.wrap n = (((u8 n).toNat : Nat) : Int) := by
  rw [IntKind.wrap_u8]
  simp [u8]
  omega
theorem va_conv (x : UInt8) (w : World) (g : Nat) (hg : w.heap.size = g) : (convert 72 9 (.slice (some ⟨g, 0, none⟩) 1 1)).run Tryz.prog (w.alloc (.cells #[.int .u8 (x.toNat : Int)] 5)) = .ok (.string (bs [x])) (w.alloc (.cells #[.int .u8 (x.toNat : Int)] 5)) :=
  conv_rd (l := [x]) (rd_new' w _ _ g hg) 1 1 rfl
theorem vhead_any (gen area : Int) (root : ByteArray) (w : World) (hz : root.size ≤ 1000000000) :
    Calls Tryz.prog 15 #[.int .i64 gen, .int .i64 area, .string root] w fun e w' => e = .returned (.string (headS gen area root)) ∧ Below w.heap.size w w' := by
  have no : vhB gen area root = false → headS gen area root = ⟨#[]⟩ := fun h => by rw [headS, if_neg (by rw [h]; simp)]; rfl
  by_cases h1 : gen < 0
  · rw [no (by simp [vhB]; omega)]
    have d1 : decide (gen < 0) = true := decide_eq_true h1
    go_enter Tryz.func15, Tryz.ntmps15
    go_wp2_with fail
    go_ret
    exact ⟨rfl, Below.refl _ _⟩
  have d1 : decide (gen < 0) = false := decide_eq_false h1
  by_cases h2 : gen > 1000000000
  · rw [no (by simp [vhB]; omega)]
    have d2 : decide (gen > 1000000000) = true := decide_eq_true h2
    go_enter Tryz.func15, Tryz.ntmps15
    go_wp2_with fail
    go_ret
    exact ⟨rfl, Below.refl _ _⟩
  have d2 : decide (gen > 1000000000) = false := decide_eq_false h2
  by_cases h3 : area < 0
  · rw [no (by simp [vhB]; omega)]
    have d3 : decide (area < 0) = true := decide_eq_true h3
    go_enter Tryz.func15, Tryz.ntmps15
    go_wp2_with fail
    go_ret
    exact ⟨rfl, Below.refl _ _⟩
  have d3 : decide (area < 0) = false := decide_eq_false h3
  by_cases h4 : area > 1
  · rw [no (by simp [vhB]; omega)]
    have d4 : decide (area > 1) = true := decide_eq_true h4
    go_enter Tryz.func15, Tryz.ntmps15
    go_wp2_with fail
    go_ret
    exact ⟨rfl, Below.refl _ _⟩
  have d4 : decide (area > 1) = false := decide_eq_false h4
  by_cases h5 : root.size = 32
  · have hb : vhB gen area root = true := by simp [vhB, h5]; omega
    have d5 : ((root.size : Int) != 32) = false := by simp; omega
    have hw : wordB gen = true := by simp [wordB]; omega
    have hws : wordsB [gen] = true := by simp [wordsB, hw]
    obtain ⟨F, hF⟩ : ∃ F, F = bs (joinL [gen] true) := ⟨_, rfl⟩
    have hFs : F.size = 4 := by rw [hF, bs_size, joinL_length]; rfl
    have HS := Lib.hid (show headS gen area root = F ++ bs [u8 area] ++ root by
      rw [headS, if_pos hb, fourL, if_pos hw, hF, ← bs_cat, ← bs_cat, bs_of])
    have hwr := va_wrap area
    have hF' := Lib.hid hF
    have hone : (bs [u8 area]).size = 1 := rfl
    clear no hb hF h1 h2 h3 h4
    go_enter Tryz.func15, Tryz.ntmps15
    go_wp2_with fail
    refine (join_true _ 1 1 [gen] _ (by exact rd_new' _ _ _ _ rfl) rfl (by simp) hws).mono ?_
    rintro e w1 ⟨rfl, hb1⟩
    rw [← hF'.out]
    have hB := Below.chain ((Below.refl w.heap.size w).alloc (Nat.le_refl _) (.cells #[.int .i64 gen] 3)) hb1
    have HB := Lib.hid hB
    have hcv := va_conv (u8 area) w1 w1.heap.size rfl
    have s1 : ¬ 9223372036854775807 < F.size + (bs [u8 area]).size := by omega
    have s2 : ¬ 9223372036854775807 < F.size + (bs [u8 area]).size + root.size := by omega
    clear hb1 hB
    go_wp2_with fail
    go_ret
    rw [HS.out]
    exact ⟨rfl, HB.out.alloc HB.out.size _⟩
  · rw [no (by simp [vhB]; omega)]
    have d5 : ((root.size : Int) != 32) = true := by simp; omega
    go_enter Tryz.func15, Tryz.ntmps15
    go_wp2_with fail
    go_ret
    exact ⟨rfl, Below.refl _ _⟩
theorem va_u8 (x : UInt8) : wrap64 (x.toNat : Int) = (x.toNat : Int) := by
  have := x.toNat_lt
  unfold wrap64
  omega
theorem va_at (s : ByteArray) (k : Nat) (h : k < s.size) : s[k] = s.data.toList.getD k 0 := by
  have h2 : k < s.data.size := h
  rw [ByteArray.getElem_eq_getElem_data, List.getD_eq_getElem?_getD, Array.getElem?_toList, Array.getElem?_eq_getElem h2]
  rfl
theorem res_tmp4 {fn : Func} {t u v x : Tmp} (h : fn.results = #[.tmp t, .tmp u, .tmp v, .tmp x]) (tmps : Array Value) (P : Program) (w : World) :
    (results fn tmps).run P w = .ok (.tuple #[tmps.getD t undef, tmps.getD u undef, tmps.getD v undef, tmps.getD x undef]) w := by
  simp [results, h]
theorem vread_any (s : ByteArray) (w : World) (hz : s.size ≤ 9223372036854775807) :
    Calls Tryz.prog 59 #[.string s] w fun e w' => e = .returned (.tuple #[.int .i64 (rdHdr s).gen, .int .i64 (rdHdr s).area, .string (rdHdr s).root, .bool (rdHdr s).ok]) ∧ Below w.heap.size w w' := by
  by_cases h37 : s.size = 37
  · have d1 : ((s.size : Int) != 37) = false := by simp; omega
    have hx4 : (s.extract 0 4).size = 4 := by rw [ByteArray.size_extract]; omega
    have hxl : (s.extract 0 4).data.toList = s.data.toList.take 4 := by rw [extract_bs, bs_data, List.drop_zero]
    have hl4 : (s.data.toList.take 4).length = 4 := by rw [← hxl, len_data, hx4]
    obtain ⟨v, hv⟩ : ∃ v, v = cutAcc (s.data.toList.take 4) true 4 0 := ⟨_, rfl⟩
    obtain ⟨b, hb⟩ : ∃ b, b = s.data.toList.getD 4 0 := ⟨_, rfl⟩
    have H0 := Lib.hid (show ¬ (v ≤ 1000000000 ∧ b.toNat ≤ 1) → rdHdr s = ⟨0, 0, none0, false⟩ from fun h => by
      rw [rdHdr, if_neg]
      rw [hdrB, ← hv, ← hb]
      simp only [Bool.and_eq_true, decide_eq_true_eq]
      exact fun h' => h ⟨h'.1.2, h'.2⟩)
    have H1 := Lib.hid (show (v ≤ 1000000000 ∧ b.toNat ≤ 1) → rdHdr s = ⟨v, b.toNat, s.extract 5 37, true⟩ from fun h => by
      rw [rdHdr, if_pos]
      · rw [← hv, ← hb, h37]
      · rw [hdrB, ← hv, ← hb]
        simp [h37, h.1, h.2])
    have hs4 := va_at s 4 (by omega)
    rw [← hb] at hs4
    have Hv := Lib.hid hv
    have HX := Lib.hid hx4
    have HL := Lib.hid hxl
    have HL4 := Lib.hid hl4
    have hlt := b.toNat_lt
    have hub := va_u8 b
    clear hv hb hxl hl4
    have hsz : s.size = 37 := h37
    by_cases hc1 : v ≤ 1000000000
    · by_cases hc2 : b.toNat ≤ 1
      · rw [H1.out ⟨hc1, hc2⟩]
        have d2 : decide ((v : Int) > 1000000000) = false := decide_eq_false (by omega)
        have d3 : decide (((b.toNat : Nat) : Int) > 1) = false := decide_eq_false (by omega)
        clear H0 H1
        go_enter Tryz.func59, Tryz.ntmps59
        go_wp2_with fail
        refine (cut_true (s.extract 0 4) _ (by omega) (by omega)).mono ?_
        rintro e w2 ⟨g, rfl, hg, hrow, hb2⟩
        rw [HL.out, HL4.out] at hrow ⊢
        have HB2 := Lib.hid hb2
        have c0 := hrow.cell (i := 0) (by omega)
        rw [← Hv.out] at c0
        clear hb2 hg hrow
        go_wp2_with fail
        go_quiet (fail)
        rename_i nq
        go_wp2_with fail
        ((try simp only [Exit.inBlock, Exit.then]); refine bodyPost_ret (res_tmp4 rfl _ _ _) rfl ?_)
        exact ⟨rfl, below_drewN HB2.out nq⟩
      · rw [H0.out (fun h => hc2 h.2)]
        have d2 : decide ((v : Int) > 1000000000) = false := decide_eq_false (by omega)
        have d3 : decide (((b.toNat : Nat) : Int) > 1) = true := decide_eq_true (by omega)
        clear H0 H1
        go_enter Tryz.func59, Tryz.ntmps59
        go_wp2_with fail
        refine (cut_true (s.extract 0 4) _ (by omega) (by omega)).mono ?_
        rintro e w2 ⟨g, rfl, hg, hrow, hb2⟩
        rw [HL.out, HL4.out] at hrow ⊢
        have HB2 := Lib.hid hb2
        have c0 := hrow.cell (i := 0) (by omega)
        rw [← Hv.out] at c0
        clear hb2 hg hrow
        go_wp2_with fail
        ((try simp only [Exit.inBlock, Exit.then]); refine bodyPost_ret (res_tmp4 rfl _ _ _) rfl ?_)
        exact ⟨rfl, HB2.out⟩
    · rw [H0.out (fun h => hc1 h.1)]
      have d2 : decide ((v : Int) > 1000000000) = true := decide_eq_true (by omega)
      clear H0 H1
      go_enter Tryz.func59, Tryz.ntmps59
      go_wp2_with fail
      refine (cut_true (s.extract 0 4) _ (by omega) (by omega)).mono ?_
      rintro e w2 ⟨g, rfl, hg, hrow, hb2⟩
      rw [HL.out, HL4.out] at hrow ⊢
      have HB2 := Lib.hid hb2
      have c0 := hrow.cell (i := 0) (by omega)
      rw [← Hv.out] at c0
      clear hb2 hg hrow
      go_wp2_with fail
      ((try simp only [Exit.inBlock, Exit.then]); refine bodyPost_ret (res_tmp4 rfl _ _ _) rfl ?_)
      exact ⟨rfl, HB2.out⟩
  · have d1 : ((s.size : Int) != 37) = true := by simp; omega
    rw [show rdHdr s = ⟨0, 0, none0, false⟩ by rw [rdHdr, if_neg]; simp [hdrB, h37]]
    go_enter Tryz.func59, Tryz.ntmps59
    go_wp2_with fail
    ((try simp only [Exit.inBlock, Exit.then]); refine bodyPost_ret (res_tmp4 rfl _ _ _) rfl ?_)
    exact ⟨rfl, Below.refl _ _⟩
theorem sector_any (n area : Nat) (a0 : Nat) (i : Nat) (w : World) (hn : n ≤ 64) (ha : area ≤ 1) (hi : i ≤ 64) :
    Calls Tryz.prog 60 #[.agg #[.int .i64 (n : Nat), .int .i64 (a0 : Nat)], .int .i64 (area : Nat), .int .i64 (i : Nat)] w fun e w' => e = .returned (.int .i64 ((3 + area * n + i : Nat) : Int)) ∧ Below w.heap.size w w' := by
  have hX := heap_alloc_new w (.cells #[.int .i64 (n : Nat), .int .i64 (a0 : Nat)] 49)
  have hA := (Below.refl w.heap.size w).alloc (Nat.le_refl _) (.cells #[.int .i64 (n : Nat), .int .i64 (a0 : Nat)] 49)
  obtain ⟨x0, x1, _, _⟩ := two_cells hX
  have h : area = 0 ∨ area = 1 := by omega
  rcases h with rfl | rfl
  · have e1 : ((0 : Nat) : Int) * (n : Int) = 0 := by simp
    have e2 : ((3 + 0 * n + i : Nat) : Int) = 3 + 0 + (i : Int) := by omega
    rw [e2]
    go_enter Tryz.func60, Tryz.ntmps60
    go_wp2_with fail
    go_ret
    exact ⟨rfl, hA⟩
  · have e1 : ((1 : Nat) : Int) * (n : Int) = (n : Int) := by simp
    have e2 : ((3 + 1 * n + i : Nat) : Int) = 3 + (n : Int) + (i : Int) := by omega
    rw [e2]
    go_enter Tryz.func60, Tryz.ntmps60
    go_wp2_with fail
    go_ret
    exact ⟨rfl, hA⟩
theorem size_end (m j : Nat) (hj : j ≤ 6) (h : m = 3 + 2 * 2 ^ j) : sizeN m = 2 ^ j := by
  subst h
  have : ∀ j, j ≤ 6 → sizeN (3 + 2 * 2 ^ j) = 2 ^ j := by decide
  exact this j hj
theorem size_none (m : Nat) (h : ∀ i, i < 7 → m ≠ 3 + 2 * 2 ^ i) : sizeN m = 0 := by
  have h0 := h 0 (by omega)
  have h1 := h 1 (by omega)
  have h2 := h 2 (by omega)
  have h3 := h 3 (by omega)
  have h4 := h 4 (by omega)
  have h5 := h 5 (by omega)
  have h6 := h 6 (by omega)
  simp only [sizeN]
  simp at h0 h1 h2 h3 h4 h5 h6
  simp [h0, h1, h2, h3, h4, h5, h6]
theorem size_any (m : Nat) (w : World) (hm : m ≤ maxLen) :
    Calls Tryz.prog 58 #[.int .i64 (m : Nat)] w fun e w' => e = .returned (.tuple #[.int .i64 (sizeN m : Nat), .bool (decide (sizeN m ≠ 0))]) ∧ Below w.heap.size w w' := by
  go_enter Tryz.func58, Tryz.ntmps58
  go_wp2_with fail
  go_loopw [4] (fun x wr => ∃ j : Nat, j ≤ 7 ∧ x = .int .i64 ((2 ^ j : Nat) : Int) ∧ (∀ i, i < j → m ≠ 3 + 2 * 2 ^ i) ∧ wr = w) (fun x _ => 200 - (intOf x).toNat)
  case atStart => exact ⟨0, by omega, rfl, fun i hi => by omega, rfl⟩
  case round =>
    obtain ⟨j, hj, rfl, hnot, rfl⟩ := hrel
    by_cases h7 : j = 7
    · subst h7
      have hs := size_none m hnot
      have e1 : decide (((2 ^ 7 : Nat) : Int) ≤ 64) = false := by decide
      go_wp2_with fail
      go_ret2
      rw [hs]
      exact ⟨rfl, Below.refl _ _⟩
    · have hle : ∀ j, j ≤ 6 → 2 ^ j ≤ 64 ∧ 1 ≤ 2 ^ j ∧ 2 ^ (j + 1) = 2 * 2 ^ j := by decide
      obtain ⟨t1, t2, t3⟩ := hle j (by omega)
      have Hend := Lib.hid (size_end m j (by omega))
      have Hnot := Lib.hid hnot
      obtain ⟨t, ht⟩ : ∃ t, t = 2 ^ j := ⟨_, rfl⟩
      have HT := Lib.hid ht
      rw [← ht] at t1 t2 t3 Hend ⊢
      have HT3 := Lib.hid t3
      clear hnot hle ht t3
      have e1 : decide ((t : Int) ≤ 64) = true := decide_eq_true (by omega)
      by_cases hm3 : m = 3 + 2 * t
      · have hs := Hend.out hm3
        have e2 : ((m : Int) == 3 + 2 * (t : Int)) = true := by simp; omega
        have e3 : decide (t ≠ 0) = true := decide_eq_true (by omega)
        go_wp2_with fail
        go_ret2
        rw [hs, e3]
        exact ⟨rfl, Below.refl _ _⟩
      · have e2 : ((m : Int) == 3 + 2 * (t : Int)) = false := by simp; omega
        go_wp2_with fail
        go_roundw
        case rel =>
          refine ⟨j + 1, by omega, ?_, fun i hi => ?_, trivial⟩
          · rw [HT3.out]
            go_num
          · by_cases he : i = j
            · subst he; rw [← HT.out]; exact hm3
            · exact Hnot.out i (by omega)
        case measure => simp [intOf]; omega

/- Va2 -/
open Go.RowKit
set_option linter.unusedVariables false
set_option linter.unusedSimpArgs false
set_option maxRecDepth 100000
set_option maxHeartbeats 2000000

theorem vrooted_any (v : Value) (V : Vol) (w : World) (hv : VV w v V) (hc : checkV V = true) (hR : Rounds w) :
    Calls Tryz.prog 29 #[v] w fun e w' => e = .returned (.bool (decide (rootT V.bl = V.rt))) ∧ Below w.heap.size w w' := by
  obtain ⟨A, n, c, rfl, hA, hn⟩ := hv
  obtain ⟨bl, rt⟩ := V
  simp only at hA hn ⊢
  obtain ⟨p1, p2, p3⟩ := vol_parts hc
  obtain ⟨r1, r2⟩ := roots_ok (count_may p1)
  have hle := (count_le p1).2
  simp only at p1 p2 p3 r1 r2 hle
  have HRt := Lib.hid (fun W h1 h2 => troot_any A n c bl W h1 hn (by omega) (fun s hs => by have := p3 s hs; omega) h2)
  rw [r1, r2] at HRt
  have HA := Lib.hid hA
  have HR := Lib.hid hR
  have HX := Lib.hid (heap_alloc_new w (.cells #[.slice A n c, .string rt] 27))
  have HB := Lib.hid ((Below.refl w.heap.size w).alloc (Nat.le_refl _) (.cells #[.slice A n c, .string rt] 27))
  have x0 := rf_at HX.out 0 _ rfl
  have x1 := rf_at HX.out 1 _ rfl
  clear hA hn hR hc p1 p2 p3 r1 r2 hle
  by_cases heq : rootT bl = rt
  · have d1 : (rt.toList == rt.toList) = true := by simp
    rw [heq] at HRt ⊢
    have e1 : decide (rt = rt) = true := by simp
    rw [e1]
    clear heq
    go_enter Tryz.func29, Tryz.ntmps29
    go_wp2_with fail
    refine (HRt.out _ (HA.out.below HB.out) (HR.out.below HB.out)).mono ?_
    rintro e w2 ⟨rfl, hb2⟩
    have x2 := rf_at (cells_below HX.out hb2) 1 _ rfl
    have HB2 := Lib.hid (HB.out.trans (hb2.mono HB.out.size))
    clear hb2 x0 x1
    go_wp2_with fail
    go_ret
    exact ⟨rfl, HB2.out⟩
  · have d1 := text_ne' heq
    have e1 : decide (rootT bl = rt) = false := by simpa using heq
    rw [e1]
    generalize rootT bl = r at d1 HRt
    clear heq e1
    go_enter Tryz.func29, Tryz.ntmps29
    go_wp2_with fail
    refine (HRt.out _ (HA.out.below HB.out) (HR.out.below HB.out)).mono ?_
    rintro e w2 ⟨rfl, hb2⟩
    have x2 := rf_at (cells_below HX.out hb2) 1 _ rfl
    have HB2 := Lib.hid (HB.out.trans (hb2.mono HB.out.size))
    clear hb2 x0 x1
    go_wp2_with fail
    go_ret
    exact ⟨rfl, HB2.out⟩
/-- Format: the disk, or none. -/
theorem vformat_no (n : Nat) (w : World) (hn : countB n = false) (hR : Rounds w) :
    Calls Tryz.prog 6 #[.int .i64 (n : Nat)] w (PlR w (noPlat, 1)) := by
  have HF := Lib.hid (fun W h => format_any n W h)
  rw [hn, if_neg (by simp), if_neg (by simp)] at HF
  have HX := Lib.hid (heap_alloc_new w (.cells zP 25))
  have HB := Lib.hid ((Below.refl w.heap.size w).alloc (Nat.le_refl _) (.cells zP 25))
  have HR := Lib.hid hR
  clear hR hn
  go_enter Tryz.func6, Tryz.ntmps6
  go_wp2_with fail
  refine (HF.out _ (HR.out.below HB.out)).mono ?_
  rintro e w1 ⟨v, rfl, ⟨A, n1, c, rfl, hr, hn1⟩, hb1⟩
  have b1 := (Below.refl w1.heap.size w1).alloc (Nat.le_refl _) (.cells #[.slice A n1 c, .string vol0.rt] 27)
  have HX2 := hblk_below (hblk_below HX hb1) b1
  have HB2 := Lib.hid (HB.out.trans ((Below.chain hb1 b1).mono HB.out.size))
  clear hb1 b1 hr hn1
  obtain ⟨x0, x1, x2, x3⟩ := two_cells HX2.out
  go_wp2_with fail
  refine bodyPost_ret (res_cell_tmp rfl _ _ w.heap.size (by rfl) _ (load_plat_new (two_set HX2.out _ _))) rfl ?_
  exact ⟨_, rfl, PlV.no _, two_by HB2.out (Nat.le_refl _) _ _⟩
theorem vformat_any (n : Nat) (w : World) (hn : countB n = true) (hR : Rounds w) :
    Calls Tryz.prog 6 #[.int .i64 (n : Nat)] w (PlR w (formatP n)) := by
  have hle := count_le hn
  have HF := Lib.hid (fun W h => format_any n W h)
  rw [hn, if_pos rfl, if_pos rfl] at HF
  have hroot : (rootT (List.replicate n noT)).size = 32 := (vol_parts (keeps_check (keeps_new noT hn))).2.1
  obtain ⟨R, hR0⟩ : ∃ R, R = (rooted (List.replicate n noT)).rt := ⟨_, rfl⟩
  have hRs : R.size = 32 := by rw [hR0]; exact hroot
  have HHd := Lib.hid (fun W => vhead_any 0 0 R W (by omega))
  have HNw := Lib.hid (fun W => show Calls Tryz.prog 21 #[.int .i64 (3 + 2 * (n : Int))] W (PlR W (newP (3 + 2 * n), 0)) from by
    have h := new_any6 (3 + 2 * n) W (by omega) (by omega)
    rw [show ((3 + 2 * n : Nat) : Int) = 3 + 2 * (n : Int) by omega] at h
    exact h)
  have HE := Lib.hid (show formatP n = ((putP (newP (3 + 2 * n)) 0 (headS 0 0 R) (-1)).1, (putP (newP (3 + 2 * n)) 0 (headS 0 0 R) (-1)).2.2) by rw [hR0]; rfl)
  have HX := Lib.hid (heap_alloc_new w (.cells zP 25))
  have HB := Lib.hid ((Below.refl w.heap.size w).alloc (Nat.le_refl _) (.cells zP 25))
  have HR := Lib.hid hR
  have HR0 := Lib.hid hR0
  generalize headS 0 0 R = hd at HHd HE
  clear hR hn hroot hR0 hRs
  have hn64 : n ≤ 64 := hle.2
  clear hle
  go_enter Tryz.func6, Tryz.ntmps6
  go_wp2_with fail
  refine (HF.out _ (HR.out.below HB.out)).mono ?_
  rintro e w1 ⟨v, rfl, ⟨A, n1, c, rfl, hr, hn1⟩, hb1⟩
  rw [← HR0.out]
  have b1 := (Below.refl w1.heap.size w1).alloc (Nat.le_refl _) (.cells #[.slice A n1 c, .string R] 27)
  have HX2 := hblk_below (hblk_below HX hb1) b1
  have HV2 := Lib.hid (heap_alloc_new w1 (.cells #[.slice A n1 c, .string R] 27))
  have HB2 := Lib.hid (HB.out.trans ((Below.chain hb1 b1).mono HB.out.size))
  have hsz1 : w.heap.size < w1.heap.size := by have := hb1.size; simp at this; omega
  clear hb1 b1 hr hn1
  go_wp2_with fail
  refine (HNw.out _).mono ?_
  rintro e w2 ⟨v2, rfl, hv2, hb2⟩
  obtain ⟨A2, n2, c2, B2, m2, d2, rfl, hP2⟩ := hv2
  have b2 := (Below.refl w2.heap.size w2).alloc (Nat.le_refl _) (.cells #[.slice A2 n2 c2, .slice B2 m2 d2] 25)
  replace HX2 := hblk_below (hblk_below HX2 hb2) b2
  replace HV2 := hblk_below (hblk_below HV2 hb2) b2
  have HP2 := Lib.hid (PB.below (show PB w2 A2 n2 B2 m2 (newP (3 + 2 * n)) from hP2) b2)
  have HQ2 := Lib.hid (heap_alloc_new w2 (.cells #[.slice A2 n2 c2, .slice B2 m2 d2] 25))
  replace HB2 := Lib.hid (HB2.out.trans ((Below.chain hb2 b2).mono HB2.out.size))
  have hne : w1.heap.size ≠ w2.heap.size := by have := hb2.size; simp at this; omega
  have hne2 : w.heap.size ≠ w2.heap.size := by have h3 := hb2.size; simp at h3; omega
  have hle2 : w.heap.size ≤ w2.heap.size := by have h3 := hb2.size; simp at h3; omega
  obtain ⟨w3, hw3⟩ : ∃ w3, w3 = w2.alloc (.cells #[.slice A2 n2 c2, .slice B2 m2 d2] 25) := ⟨_, rfl⟩
  have Hw3 := Lib.hid hw3
  rw [← hw3] at HX2 HV2 HP2 HQ2 HB2
  clear hP2 hb2 b2 hw3
  obtain ⟨q0, q1, q2, q3⟩ := two_cells HQ2.out
  obtain ⟨y0, y1, y2, y3⟩ := two_cells HV2.out
  go_wp2_with fail
  rw [← Hw3.out]
  go_region_law (first
    | (go_simp; go_at_call 15; refine Calls.mono (HHd.out _) ?_; rintro _ w4 ⟨rfl, hb4'⟩; have hb4 := Below.chain ((Below.refl _ w3).drew) hb4'; clear hb4'; replace HX2 := hblk_below HX2 hb4; replace HV2 := hblk_below HV2 hb4; replace HQ2 := hblk_below HQ2 hb4; replace HP2 := Lib.hid (HP2.out.below hb4); replace HB2 := Lib.hid (HB2.out.trans (hb4.mono HB2.out.size)); obtain ⟨s0, s1, s2, s3⟩ := two_cells HQ2.out)
    | (go_simp; go_at_call 22; refine (put_any _ (newP (3 + 2 * n)) 0 (-1) hd _ ⟨_, _, _, _, _, _, rfl, HP2.out⟩ (by omega)).mono ?_; rintro _ w5 ⟨v5, rfl, hv5, hb5⟩; replace HX2 := hblk_below HX2 hb5; replace HQ2 := hblk_below HQ2 hb5; replace HB2 := Lib.hid (HB2.out.trans (hb5.mono HB2.out.size)); obtain ⟨A6, n6, c6, B6, m6, d6, rfl, hO6⟩ := hv5; obtain ⟨u0, u1, u2, u3⟩ := two_cells HQ2.out))
  all_goals
    have hx6 := (Below.heap_setCell (w5.setCell ⟨w2.heap.size, 0, none⟩ (.slice A6 n6 c6)) ⟨w2.heap.size, 1, none⟩ (.slice B6 m6 d6) w.heap.size (by simpa using hne2)).trans ((Below.heap_setCell w5 ⟨w2.heap.size, 0, none⟩ (.slice A6 n6 c6) w.heap.size (by simpa using hne2)).trans HX2.out)
    have hq6 := two_set HQ2.out (.slice A6 n6 c6) (.slice B6 m6 d6)
    have hO7 := (show PB ((w5.setCell ⟨w2.heap.size, 0, none⟩ (.slice A6 n6 c6)).setCell ⟨w2.heap.size, 1, none⟩ (.slice B6 m6 d6)) A6 n6 B6 m6 _ from hO6.two HQ2.out)
    obtain ⟨t0, t1, t2, t3⟩ := two_cells hx6
    obtain ⟨r0, r1, r2, r3⟩ := two_cells hq6
    have Hx6 := Lib.hid hx6
    clear hx6 hq6
    go_wp2_with fail
    refine bodyPost_ret (res_cell_tmp rfl _ _ w.heap.size (by rfl) _ (load_plat_new (two_set Hx6.out _ _))) rfl ?_
    rw [HE.out]
    exact ⟨_, rfl, ⟨_, _, _, _, _, _, rfl, hO7.two Hx6.out⟩, two_by (two_by HB2.out hle2 _ _) (Nat.le_refl _) _ _⟩

/- Va3 -/
open Go.RowKit
set_option linter.unusedVariables false
set_option linter.unusedSimpArgs false
set_option maxRecDepth 100000
set_option maxHeartbeats 4000000

abbrev zC : Array Value := #[.int .i64 0, .int .i64 0, .int .i64 0, .slice none 0 0, .string ⟨#[]⟩]
theorem ch5_cells {w : World} {g : Nat} {t : TypeId} {a0 a1 a2 a3 a4 : Value} (h : w.heap[g]? = some (.cells #[a0, a1, a2, a3, a4] t (0, 0))) :
    (w.cell? ⟨g, 0, none⟩ = some a0 ∧ w.cell? ⟨g, 1, none⟩ = some a1 ∧ w.cell? ⟨g, 2, none⟩ = some a2 ∧ w.cell? ⟨g, 3, none⟩ = some a3 ∧ w.cell? ⟨g, 4, none⟩ = some a4) ∧ ∀ i, w.frozen? ⟨g, i, none⟩ = false :=
  ⟨⟨rf_at h 0 _ rfl, rf_at h 1 _ rfl, rf_at h 2 _ rfl, rf_at h 3 _ rfl, rf_at h 4 _ rfl⟩, fun i => rf_fr h i⟩
theorem ch5_set {w : World} {g : Nat} {t : TypeId} {a0 a1 a2 a3 a4 : Value} (h : w.heap[g]? = some (.cells #[a0, a1, a2, a3, a4] t (0, 0))) (b0 b1 b2 b3 b4 : Value) :
    (((((w.setCell ⟨g, 0, none⟩ b0).setCell ⟨g, 1, none⟩ b1).setCell ⟨g, 2, none⟩ b2).setCell ⟨g, 3, none⟩ b3).setCell ⟨g, 4, none⟩ b4).heap[g]? = some (.cells #[b0, b1, b2, b3, b4] t (0, 0)) := by
  have := blk_set (blk_set (blk_set (blk_set (blk_set h 0 b0) 1 b1) 2 b2) 3 b3) 4 b4
  simp only [List.setIfInBounds_toArray, List.set_cons_zero, List.set_cons_succ] at this
  exact this
theorem ch5_by {w0 w : World} {B g : Nat} (h : Below B w0 w) (hB : B ≤ g) (b0 b1 b2 b3 b4 : Value) :
    Below B w0 (((((w.setCell ⟨g, 0, none⟩ b0).setCell ⟨g, 1, none⟩ b1).setCell ⟨g, 2, none⟩ b2).setCell ⟨g, 3, none⟩ b3).setCell ⟨g, 4, none⟩ b4) :=
  ((((h.setCell (p := ⟨g, 0, none⟩) hB b0).setCell (p := ⟨g, 1, none⟩) hB b1).setCell (p := ⟨g, 2, none⟩) hB b2).setCell (p := ⟨g, 3, none⟩) hB b3).setCell (p := ⟨g, 4, none⟩) hB b4
theorem load_chest {w : World} {g : Nat} {a0 a1 a2 a3 a4 : Value} {t : TypeId} (h : w.heap[g]? = some (.cells #[a0, a1, a2, a3, a4] t (0, 0))) : (loadVar 51 ⟨g, 0, none⟩).run Tryz.prog w = .ok (.agg #[a0, a1, a2, a3, a4]) w := by
  have := run_loadVar_mid (P := Tryz.prog) w g 0 51 [a0, a1, a2, a3, a4] _ (fun j v hj => by
    rw [Nat.zero_add, cell_of_row w g j _ _ _ h]
    simpa using hj) Tryz.underlying51 rfl (by kernel_rfl)
  simpa using this
theorem va_al3 (w : World) (o1 o2 o3 : Obj) : (((w.alloc o1).alloc o2).alloc o3).heap[w.heap.size]? = some o1 ∧ (((w.alloc o1).alloc o2).alloc o3).heap[w.heap.size + 1]? = some o2 ∧ (((w.alloc o1).alloc o2).alloc o3).heap[w.heap.size + 1 + 1]? = some o3 ∧ Below w.heap.size w (((w.alloc o1).alloc o2).alloc o3) ∧ (((w.alloc o1).alloc o2).alloc o3).heap.size = w.heap.size + 3 := by
  have h1 := heap_alloc_new w o1
  have h2 := heap_alloc_new (w.alloc o1) o2
  have h3 := heap_alloc_new ((w.alloc o1).alloc o2) o3
  simp only [World.size_alloc] at h2 h3
  refine ⟨?_, ?_, h3, ?_, by simp⟩
  · exact (Below.heap_alloc _ _ _ (by simp only [World.size_alloc]; omega)).trans ((Below.heap_alloc _ _ _ (by simp only [World.size_alloc]; omega)).trans h1)
  · exact (Below.heap_alloc _ _ _ (by simp only [World.size_alloc]; omega)).trans h2
  · exact (((Below.refl _ _).alloc (Nat.le_refl _) _).alloc (by simp) _).alloc (by simp; omega) _
theorem blk_oth {w : World} {g b i : Nat} {o : Obj} (h : w.heap[b]? = some o) (hne : b ≠ g) (u : Value) : (w.setCell ⟨g, i, none⟩ u).heap[b]? = some o := (Below.heap_setCell _ ⟨g, i, none⟩ _ b hne).trans h
theorem get_small {P : Plat} (h : (getP P 0).2.2 = 0) : (getP P 0).1.size ≤ 128 := by
  unfold getP at h ⊢
  split
  · exact Nat.zero_le _
  · rename_i hn
    rw [if_neg hn] at h
    cases hb : bodyO (readP P 0).1 with
    | none => exact Nat.zero_le _
    | some far =>
      rw [hb] at h
      exact read_size h
/-- What open hands back: a chest, and an error's number. -/
def OpenR (w : World) (r : Vst × Int) (e : Ending) (w' : World) : Prop :=
  ∃ A c, e = .returned (.tuple #[.agg #[.int .i64 (r.1.n : Nat), .int .i64 (r.1.area : Nat), .int .i64 (r.1.gen : Nat), .slice A r.1.V.bl.length c, .string r.1.V.rt], .int .i64 r.2]) ∧ (Rd w' A (textsV r.1.V.bl) ∧ ∀ b o, A = some ⟨b, o, none⟩ → w.heap.size ≤ b) ∧ Below w.heap.size w w'
theorem open_no (w w' : World) (x : Int) (h : Below w.heap.size w w') : OpenR w (noVst, x) (.returned (.tuple #[.agg zC, .int .i64 x])) w' :=
  ⟨none, 0, rfl, ⟨Rd.nil _ _, fun _ _ h => by cases h⟩, h⟩
theorem own_low {w : World} {B : Nat} {e : TypeId} {size : Nat} {A : Option Addr} {m cap n : Nat} {xs : List Value} (h : w.ownsRow B e size (.slice A m cap) n xs) : ∀ b o, A = some ⟨b, o, none⟩ → B ≤ b := by
  intro b o hA
  rcases h.2 with ⟨hv, _⟩ | ⟨g, cap', cur, hv, hB, _⟩
  · injection hv with e1
    rw [e1] at hA
    cases hA
  · injection hv with e1
    rw [e1] at hA
    injection hA with hA
    injection hA with hA
    omega
theorem blk_at {P : Plat} {n area i : Nat} (hi : i < n) : (blkAt P n area)[i]? = some (readS P ((3 + area * n + i : Nat) : Int)) := by
  simp [blkAt, hi]
theorem vopen_any (v : Value) (P : Plat) (w : World) (h : PlV w v P) (hl : P.ss.length ≤ maxLen) (hR : Rounds w) :
    Calls Tryz.prog 26 #[v] w (OpenR w (openP P)) := by
  obtain ⟨A, n, c, B, m, d, rfl, h⟩ := h
  have hn := h.hn
  obtain ⟨kp, kx, kc, kb, ksz⟩ := va_al3 w (.cells #[.slice A n c, .slice B m d] 25) (.cells zC 51) (.cells zC 51)
  have HPw := Lib.hid h
  have HRw := Lib.hid hR
  have HB := Lib.hid kb
  have HQ := Lib.hid kp
  have HX := Lib.hid kx
  have HC := Lib.hid kc
  obtain ⟨N, hN⟩ : ∃ N, N = sizeN P.ss.length := ⟨_, rfl⟩
  have HS := Lib.hid (fun W => size_any n W (by rw [hn]; exact hl))
  rw [hn, ← hN, ← hn] at HS
  have hnm : n ≤ 9223372036854775807 := by rw [hn]; exact hl
  obtain ⟨q0, q1, _, _⟩ := two_cells kp
  by_cases h0 : N = 0
  · have HE := Lib.hid (show openP P = (noVst, 160) by unfold openP; rw [if_pos (by rw [← hN]; exact h0)])
    subst h0
    clear h hl hR kp kx kc kb hN hn
    go_enter Tryz.func26, Tryz.ntmps26
    go_wp2_with fail
    refine (HS.out _).mono ?_
    rintro e w2 ⟨rfl, hb2⟩
    have HX2 := hblk_below HX hb2
    have HB2 := Lib.hid (HB.out.trans (hb2.mono HB.out.size))
    obtain ⟨⟨x0, x1, x2, x3, x4⟩, xf⟩ := ch5_cells HX2.out
    have y0 := xf 0
    have y1 := xf 1
    have y2 := xf 2
    have y3 := xf 3
    have y4 := xf 4
    clear hb2 q0 q1 xf
    go_wp2_with fail
    refine bodyPost_ret (res_cell_tmp rfl _ _ (w.heap.size + 1) (by rfl) _ (load_chest (ch5_set HX2.out _ _ _ _ _))) rfl ?_
    rw [HE.out]
    exact open_no _ _ _ (ch5_by HB2.out (by omega) _ _ _ _ _)
  obtain ⟨hs1, hs2, hs3, hs4⟩ := sizeN_len (m := P.ss.length) (by rw [← hN]; exact h0)
  rw [← hN] at hs1 hs2 hs3 hs4
  have hd0 : decide (N ≠ 0) = true := decide_eq_true h0
  rw [hd0] at HS
  obtain ⟨r, hr⟩ : ∃ r, r = getP P 0 := ⟨_, rfl⟩
  have HG := Lib.hid (fun (W : World) (hW : PB W A n B m P) => tget_any A B n c m d P 0 W hW (by omega))
  rw [← hr] at HG
  have Hr := Lib.hid hr
  have HN := Lib.hid hN
  have Hs1 := Lib.hid hs1
  have Hsm := Lib.hid (show r.2.2 = 0 → r.1.size ≤ 128 from fun he => by rw [hr] at he ⊢; exact get_small he)
  obtain ⟨s, there, er⟩ := r
  simp only at HG Hsm
  have HO := Lib.hid (show openP P = if er ≠ 0 then (noVst, er) else if there = false ∨ (rdHdr s).ok = false then (noVst, 160) else if checkV (volAt P) = false then (noVst, 160) else if rootT (volAt P).bl ≠ (volAt P).rt then (noVst, 161) else (⟨N, (rdHdr s).gen, (rdHdr s).area, volAt P⟩, 0) by
    unfold openP
    rw [← hr, ← hN, if_neg h0])
  clear h hl hR kp kx kc kb hN hs1 hd0 hr hn
  have hn64 : N ≤ 64 := hs3
  go_enter Tryz.func26, Tryz.ntmps26
  go_wp2_with fail
  refine (HS.out _).mono ?_
  rintro e w2 ⟨rfl, hb2⟩
  have HX2 := hblk_below HX hb2
  have HQ2 := hblk_below HQ hb2
  have HC2 := hblk_below HC hb2
  have HB2 := Lib.hid (HB.out.trans (hb2.mono HB.out.size))
  clear hb2 q0 q1
  have hset := blk_set HC2.out 0 (.int .i64 (N : Nat))
  simp only [List.setIfInBounds_toArray, List.set_cons_zero, List.set_cons_succ] at hset
  have HC3 := Lib.hid hset
  have HX3 := Lib.hid (blk_oth (g := w.heap.size + 1 + 1) (i := 0) HX2.out (by omega) (.int .i64 (N : Nat)))
  have HQ3 := Lib.hid (blk_oth (g := w.heap.size + 1 + 1) (i := 0) HQ2.out (by omega) (.int .i64 (N : Nat)))
  have HB3 := Lib.hid (HB2.out.setCell (p := ⟨w.heap.size + 1 + 1, 0, none⟩) (by show w.heap.size ≤ w.heap.size + 1 + 1; omega) (.int .i64 (N : Nat)))
  obtain ⟨_, cf⟩ := ch5_cells HC2.out
  have cf0 := cf 0
  obtain ⟨⟨c0, c1, c2, c3, c4⟩, _⟩ := ch5_cells HC2.out
  obtain ⟨q0, q1, _, _⟩ := two_cells HQ3.out
  clear hset cf HX HQ HC HX2 HQ2 HC2
  go_wp2_with fail
  refine (HG.out _ (HPw.out.below HB3.out)).mono ?_
  rintro e w4 ⟨rfl, hb4⟩
  have HX4 := hblk_below HX3 hb4
  have HQ4 := hblk_below HQ3 hb4
  have HC4 := hblk_below HC3 hb4
  have HB4 := Lib.hid (HB3.out.trans (hb4.mono HB3.out.size))
  clear hb4 q0 q1 c0 c1 c2 c3 c4 cf0 HX3 HQ3 HC3 HG
  by_cases her : er = 0
  · subst her
    have Hs := Lib.hid (Hsm.out rfl)
    have HRh := Lib.hid (fun W => vread_any s W (by have := Hs.out; omega))
    obtain ⟨H, hH⟩ : ∃ H, H = rdHdr s := ⟨_, rfl⟩
    rw [← hH] at HRh HO
    have HH := Lib.hid hH
    obtain ⟨gen, area, root, ok⟩ := H
    simp only at HRh HO
    clear hH Hsm
    have d1 : ((0 : Int) != 0) = false := rfl
    go_wp2_with fail
    refine (HRh.out _).mono ?_
    rintro e w5 ⟨rfl, hb5⟩
    have HX5 := hblk_below HX4 hb5
    have HQ5 := hblk_below HQ4 hb5
    have HC5 := hblk_below HC4 hb5
    have HB5 := Lib.hid (HB4.out.trans (hb5.mono HB4.out.size))
    clear hb5 HX4 HQ4 HC4 HB4 HB3 HB2
    obtain ⟨⟨c0, c1, c2, c3, c4⟩, cf⟩ := ch5_cells HC5.out
    have cf1 := cf 1
    have cf2 := cf 2
    have cf4 := cf 4
    have hset := blk_set (blk_set (blk_set HC5.out 2 (.int .i64 (gen : Nat))) 1 (.int .i64 (area : Nat))) 4 (.string root)
    simp only [List.setIfInBounds_toArray, List.set_cons_zero, List.set_cons_succ] at hset
    obtain ⟨w6, hw6⟩ : ∃ w6, w6 = ((w5.setCell ⟨w.heap.size + 1 + 1, 2, none⟩ (.int .i64 (gen : Nat))).setCell ⟨w.heap.size + 1 + 1, 1, none⟩ (.int .i64 (area : Nat))).setCell ⟨w.heap.size + 1 + 1, 4, none⟩ (.string root) := ⟨_, rfl⟩
    have Hw6 := Lib.hid hw6
    have HX6 := Lib.hid (blk_oth (g := w.heap.size + 1 + 1) (i := 4) (blk_oth (g := w.heap.size + 1 + 1) (i := 1) (blk_oth (g := w.heap.size + 1 + 1) (i := 2) HX5.out (by omega) (.int .i64 (gen : Nat))) (by omega) (.int .i64 (area : Nat))) (by omega) (.string root))
    have HQ6 := Lib.hid (blk_oth (g := w.heap.size + 1 + 1) (i := 4) (blk_oth (g := w.heap.size + 1 + 1) (i := 1) (blk_oth (g := w.heap.size + 1 + 1) (i := 2) HQ5.out (by omega) (.int .i64 (gen : Nat))) (by omega) (.int .i64 (area : Nat))) (by omega) (.string root))
    have hle : w.heap.size ≤ w.heap.size + 1 + 1 := by omega
    have HB6 := Lib.hid (((HB5.out.setCell (p := ⟨w.heap.size + 1 + 1, 2, none⟩) hle (.int .i64 (gen : Nat))).setCell (p := ⟨w.heap.size + 1 + 1, 1, none⟩) hle (.int .i64 (area : Nat))).setCell (p := ⟨w.heap.size + 1 + 1, 4, none⟩) hle (.string root))
    rw [← hw6] at hset HX6 HQ6 HB6
    have HC6 := Lib.hid hset
    obtain ⟨⟨x0, x1, x2, x3, x4⟩, xf⟩ := ch5_cells HX6.out
    have y0 := xf 0
    have y1 := xf 1
    have y2 := xf 2
    have y3 := xf 3
    have y4 := xf 4
    obtain ⟨⟨k0, k1, k2, k3, k4⟩, _⟩ := ch5_cells hset
    clear hset hw6 cf xf HX5 HQ5 HC5 HB5 c0 c3
    cases there with
    | false =>
      have HE := Lib.hid (show openP P = (noVst, 160) by rw [HO.out, if_neg (by simp), if_pos (.inl rfl)])
      clear HO
      go_upto_region 10 with (fail)
      rw [← Hw6.out]
      go_wp2_with fail
      refine bodyPost_ret (res_cell_tmp rfl _ _ (w.heap.size + 1) (by rfl) _ (load_chest (ch5_set HX6.out _ _ _ _ _))) rfl ?_
      rw [HE.out]
      exact open_no _ _ _ (ch5_by HB6.out (by omega) _ _ _ _ _)
    | true =>
    cases ok with
    | false =>
      have HE := Lib.hid (show openP P = (noVst, 160) by rw [HO.out, if_neg (by simp), if_pos (.inr rfl)])
      clear HO
      go_upto_region 10 with (fail)
      rw [← Hw6.out]
      go_wp2_with fail
      refine bodyPost_ret (res_cell_tmp rfl _ _ (w.heap.size + 1) (by rfl) _ (load_chest (ch5_set HX6.out _ _ _ _ _))) rfl ?_
      rw [HE.out]
      exact open_no _ _ _ (ch5_by HB6.out (by omega) _ _ _ _ _)
    | true =>
    obtain ⟨hp1, hp2, hp3, hp4⟩ := hdr_parts (s := s) (by rw [← HH.out])
    rw [← HH.out] at hp2 hp3 hp4
    simp only at hp2 hp3 hp4
    have hgt := get_there (P := P) (by rw [← Hr.out]) (by rw [← Hr.out])
    have Hck := Lib.hid hgt.1
    have HV := Lib.hid (show volAt P = ⟨blkAt P N area, root⟩ by
      unfold volAt
      rw [← HN.out, ← Hr.out, ← HH.out])
    have HO2 := Lib.hid (show openP P = if checkV ⟨blkAt P N area, root⟩ = false then (noVst, 160) else if rootT (blkAt P N area) ≠ root then (noVst, 161) else (⟨N, gen, area, ⟨blkAt P N area, root⟩⟩, 0) by
      rw [HO.out, if_neg (by simp), if_neg (by simp), HV.out])
    obtain ⟨bl, hbl⟩ : ∃ bl, bl = blkAt P N area := ⟨_, rfl⟩
    rw [← hbl] at HO2
    have Hbl := Lib.hid hbl
    clear hp1 hp4 hgt HO HV hbl Hs
    go_upto_region 10 with (fail)
    rw [← Hw6.out]
    go_wp2_with fail
    go_loopw [58] (fun x wr => ∃ (i : Nat) (A2 : Option Addr) (cap : Nat), i ≤ N ∧ x = .int .i64 (i : Nat) ∧ wr.heap[w.heap.size]? = some (.cells #[.slice A n c, .slice B m d] 25 (0, 0)) ∧ wr.heap[w.heap.size + 1]? = some (.cells zC 51 (0, 0)) ∧ wr.heap[w.heap.size + 1 + 1]? = some (.cells #[.int .i64 (N : Nat), .int .i64 (area : Nat), .int .i64 (gen : Nat), .slice A2 i cap, .string root] 51 (0, 0)) ∧ wr.ownsRow w.heap.size 9 1 (.slice A2 i cap) i (textsV (bl.take i)) ∧ Below w.heap.size w wr) (fun x _ => N - (intOf x).toNat)
    case atStart => exact ⟨0, none, 0, by omega, rfl, HQ6.out, HX6.out, HC6.out, ⟨rfl, .inl ⟨rfl, rfl⟩⟩, HB6.out⟩
    case round =>
      clear x0 x1 x2 x3 x4 y0 y1 y2 y3 y4 k0 k1 k2 k3 k4 HX6 HQ6 HC6 HB6 Hw6
      obtain ⟨i, A2, cap, hi, rfl, hQ, hX, hC, hO, hB⟩ := hrel
      have HQ := Lib.hid hQ
      have HX := Lib.hid hX
      have HC := Lib.hid hC
      have HOw := Lib.hid hO
      have HB := Lib.hid hB
      clear hQ hX hC hO hB
      by_cases hlt : i < N
      · have e1 : decide ((i : Int) < (N : Int)) = true := by simp; omega
        obtain ⟨st, hst⟩ : ∃ st, st = readS P ((3 + area * N + i : Nat) : Int) := ⟨_, rfl⟩
        have Htk := Lib.hid (show bl.take (i + 1) = bl.take i ++ [st] by
          rw [List.take_add_one, Hbl.out, blk_at hlt, ← hst]
          rfl)
        have hix : 3 + area * N + i < P.ss.length := by
          have h := (blk_other (area := area) (n := N) (i := i) (by omega) hlt).2
          rw [Hs1.out]; exact h
        have hrd : readP P ((3 + area * N + i : Nat) : Int) = (st, 0) := by rw [hst]; exact readP_in Hck.out hix
        have K1 : Hid (∀ y : Later wr, Calls Tryz.prog 60 #[.agg #[.int .i64 (N : Nat), .int .i64 (area : Nat)], .int .i64 (area : Nat), .int .i64 (i : Nat)] y.x fun e w' => e = .returned (.int .i64 ((3 + area * N + i : Nat) : Int)) ∧ ∃ z : Later wr, w' = z.x) := Lib.hid fun y => later_call (sector_any N area area i y.x (by omega) (by omega) (by omega))
        have K2 : Hid (∀ y : Later wr, Calls Tryz.prog 45 #[.agg #[.slice A n c, .slice B m d], .int .i64 ((3 + area * N + i : Nat) : Int)] y.x fun e w' => e = .returned (.tuple #[.string st, .int .i64 0]) ∧ ∃ z : Later wr, w' = z.x) := Lib.hid fun y => later_call (by
          have h := pread_any (.agg #[.slice A n c, .slice B m d]) P ((3 + area * N + i : Nat) : Int) y.x ⟨A, n, c, B, m, d, rfl, HPw.out.below (HB.out.trans (y.ok.mono HB.out.size))⟩
          rw [hrd] at h
          exact h)
        obtain ⟨c0, c1, c2, c3, c4⟩ := (ch5_cells HC.out).1
        obtain ⟨q0, q1, _, _⟩ := two_cells HQ.out
        have cy0 : ∀ y : Later wr, y.x.cell? ⟨w.heap.size + 1 + 1, 0, none⟩ = some (.int .i64 (N : Nat)) := fun y => y.cell c0
        have cy1 : ∀ y : Later wr, y.x.cell? ⟨w.heap.size + 1 + 1, 1, none⟩ = some (.int .i64 (area : Nat)) := fun y => y.cell c1
        have cy2 : ∀ y : Later wr, y.x.cell? ⟨w.heap.size, 0, none⟩ = some (.slice A n c) := fun y => y.cell q0
        have cy3 : ∀ y : Later wr, y.x.cell? ⟨w.heap.size, 1, none⟩ = some (.slice B m d) := fun y => y.cell q1
        have d3 : ((0 : Int) != 0) = false := rfl
        clear c0 c1 c2 c3 c4 q0 q1 hst hix hrd
        generalize 3 + area * N + i = ix at K1 K2
        go_wp2_with fail
        refine wp_region_later (by kernel_rfl) (by kernel_rfl) ?_
        repeat (go_big_quiet_step (first | with_reducible exact K1.out _ | with_reducible exact K2.out _))
        refine wpQuiet_nil ?_
        rintro _ ⟨y, rfl⟩
        have HC2 := Lib.hid (cells_below HC.out y.ok)
        have HX2 := Lib.hid (cells_below HX.out y.ok)
        have HQ2 := Lib.hid (cells_below HQ.out y.ok)
        have HO3 := Lib.hid (own_keep HOw.out y.ok)
        have HB2 := Lib.hid (HB.out.trans (y.ok.mono HB.out.size))
        have HF := Lib.hid (own_far HC2.out HO3.out (by decide))
        have HFx := Lib.hid (own_far HX2.out HO3.out (by decide))
        have HFq := Lib.hid (own_far HQ2.out HO3.out (by decide))
        have c3 := (ch5_cells HC2.out).1.2.2.2.1
        clear cy0 cy1 cy2 cy3 K1 K2
        go_wp2_with (at_builtin; refine wpList_append_new (by rfl) (.tmp 79) (.tmp 81) 22 (by rfl) w.heap.size 9 (.string ⟨#[]⟩) 1 16 Tryz.underlying22 string_info rfl (by omega) y.x _ _ _ _ _ (by rfl) HO3.out _ 1 1 (by rfl) (by rfl) (by rfl) (by rfl) (by omega) (by omega) (by omega) (by exact HB2.out.size) ?_)
        intro g4 cap4 w4 ho4 hb4 hk4 _ _
        have hC4 := (hk4 (w.heap.size + 1 + 1) (cell_lt_of HC2.out) HF.out).trans HC2.out
        have hX4 := (hk4 (w.heap.size + 1) (cell_lt_of HX2.out) HFx.out).trans HX2.out
        have hQ4 := (hk4 w.heap.size (cell_lt_of HQ2.out) HFq.out).trans HQ2.out
        have HC4 := Lib.hid hC4
        have HX4 := Lib.hid hX4
        have HQ4 := Lib.hid hQ4
        have HO4 := Lib.hid ho4
        have HB4 := Lib.hid (HB2.out.trans hb4)
        have c3 := (ch5_cells hC4).1.2.2.2.1
        have cf3 := (ch5_cells hC4).2 3
        have HF4 := Lib.hid (own_far HC4.out HO4.out (by decide))
        have hset := blk_set hC4 3 (.slice (some ⟨g4, 0, none⟩) (i + 1) cap4)
        simp only [List.setIfInBounds_toArray, List.set_cons_zero, List.set_cons_succ] at hset
        have HC5 := Lib.hid hset
        clear ho4 hb4 hk4 hC4 hX4 hQ4 hset
        go_wp2_with fail
        go_roundw
        case rel => exact ⟨i + 1, some ⟨g4, 0, none⟩, cap4, by omega, by go_num, blk_oth HQ4.out (by omega) _, blk_oth HX4.out (by omega) _, HC5.out, by rw [Htk.out, textsV_append]; exact ownsRow_setCell_other HO4.out (fun e => HF4.out e.symm) _, HB4.out.setCell (p := ⟨w.heap.size + 1 + 1, 3, none⟩) (by show w.heap.size ≤ w.heap.size + 1 + 1; omega) _⟩
        case measure => simp [intOf]; omega
      · obtain rfl : i = N := by omega
        have e1 : decide ((i : Int) < (i : Int)) = false := by simp
        have Htk := Lib.hid (show bl.take i = bl by rw [List.take_of_length_le]; rw [Hbl.out, blkAt_len]; exact Nat.le_refl _)
        have Hbln := Lib.hid (show bl.length = i by rw [Hbl.out, blkAt_len])
        rw [Htk.out] at HOw
        obtain ⟨c0, c1, c2, c3, c4⟩ := (ch5_cells HC.out).1
        have HVV := Lib.hid (show VV wr (.agg #[.slice A2 i cap, .string root]) ⟨bl, root⟩ from ⟨A2, i, cap, rfl, own_rd HOw.out, Hbln.out.symm⟩)
        have HCk := Lib.hid (fun W h => vcheck_any (.agg #[.slice A2 i cap, .string root]) ⟨bl, root⟩ W h)
        have HRr := Lib.hid (HRw.out.below HB.out)
        cases hck : checkV ⟨bl, root⟩ with
        | false =>
          rw [hck] at HCk
          have HE := Lib.hid (show openP P = (noVst, 160) by rw [HO2.out, if_pos hck])
          clear hck HO2
          go_wp2_with fail
          refine (HCk.out _ HVV.out).mono ?_
          rintro e w7 ⟨rfl, hb7⟩
          have HX7 := Lib.hid (cells_below HX.out hb7)
          have HB7 := Lib.hid (HB.out.trans (hb7.mono HB.out.size))
          clear hb7 c0 c1 c2 c3 c4
          obtain ⟨⟨x0, x1, x2, x3, x4⟩, xf⟩ := ch5_cells HX7.out
          have y0 := xf 0
          have y1 := xf 1
          have y2 := xf 2
          have y3 := xf 3
          have y4 := xf 4
          clear xf
          go_wp2_with fail
          refine bodyPost_ret (res_cell_tmp rfl _ _ (w.heap.size + 1) (by rfl) _ (load_chest (ch5_set HX7.out _ _ _ _ _))) rfl ?_
          rw [HE.out]
          exact open_no _ _ _ (ch5_by HB7.out (by omega) _ _ _ _ _)
        | true =>
          rw [hck] at HCk
          have HRt := Lib.hid (fun W h1 h3 => vrooted_any (.agg #[.slice A2 i cap, .string root]) ⟨bl, root⟩ W h1 hck h3)
          simp only at HRt
          rw [if_neg (by rw [hck]; simp)] at HO2
          by_cases hrt : rootT bl = root
          · rw [decide_eq_true hrt] at HRt
            have HE := Lib.hid (show openP P = (⟨i, gen, area, ⟨bl, root⟩⟩, 0) by rw [HO2.out, if_neg (by simpa using hrt)])
            clear hck hrt HO2
            go_wp2_with fail
            refine (HCk.out _ HVV.out).mono ?_
            rintro e w7 ⟨rfl, hb7⟩
            have HX7 := Lib.hid (cells_below HX.out hb7)
            have HC7 := Lib.hid (cells_below HC.out hb7)
            have HO7 := Lib.hid (own_keep HOw.out hb7)
            have HB7 := Lib.hid (HB.out.trans (hb7.mono HB.out.size))
            have HV7 := Lib.hid (HVV.out.below hb7)
            have HR7 := Lib.hid (HRr.out.below hb7)
            clear hb7 c0 c1 c2 c3 c4
            obtain ⟨c0, c1, c2, c3, c4⟩ := (ch5_cells HC7.out).1
            go_wp2_with fail
            refine (HRt.out _ HV7.out HR7.out).mono ?_
            rintro e w8 ⟨rfl, hb8⟩
            have HX8 := Lib.hid (cells_below HX7.out hb8)
            have HC8 := Lib.hid (cells_below HC7.out hb8)
            have HO8 := Lib.hid (own_keep HO7.out hb8)
            have HB8 := Lib.hid (HB7.out.trans (hb8.mono HB7.out.size))
            have HFx := Lib.hid (own_far HX8.out HO8.out (by decide))
            clear hb8 c0 c1 c2 c3 c4
            obtain ⟨c0, c1, c2, c3, c4⟩ := (ch5_cells HC8.out).1
            obtain ⟨⟨x0, x1, x2, x3, x4⟩, xf⟩ := ch5_cells HX8.out
            have y0 := xf 0
            have y1 := xf 1
            have y2 := xf 2
            have y3 := xf 3
            have y4 := xf 4
            clear xf
            go_wp2_with fail
            refine bodyPost_ret (res_cell_tmp rfl _ _ (w.heap.size + 1) (by rfl) _ (load_chest (ch5_set HX8.out _ _ _ _ _))) rfl ?_
            rw [HE.out]
            have hne : ∀ b o, A2 = some ⟨b, o, none⟩ → w.heap.size + 1 ≠ b := fun b o e h => HFx.out (by rw [e, h]; rfl)
            refine ⟨A2, cap, ?_, ⟨?_, own_low HO8.out⟩, ch5_by HB8.out (by omega) _ _ _ _ _⟩
            · show _ = Ending.returned (.tuple #[.agg #[.int .i64 (i : Nat), .int .i64 (area : Nat), .int .i64 (gen : Nat), .slice A2 bl.length cap, .string root], .int .i64 0])
              rw [Hbln.out]
              rfl
            · exact vrd_set (vrd_set (vrd_set (vrd_set (vrd_set (own_rd HO8.out) hne _) hne _) hne _) hne _) hne _
          · rw [decide_eq_false hrt] at HRt
            have HE := Lib.hid (show openP P = (noVst, 161) by rw [HO2.out, if_pos hrt])
            clear hck hrt HO2
            go_wp2_with fail
            refine (HCk.out _ HVV.out).mono ?_
            rintro e w7 ⟨rfl, hb7⟩
            have HX7 := Lib.hid (cells_below HX.out hb7)
            have HC7 := Lib.hid (cells_below HC.out hb7)
            have HB7 := Lib.hid (HB.out.trans (hb7.mono HB.out.size))
            have HV7 := Lib.hid (HVV.out.below hb7)
            have HR7 := Lib.hid (HRr.out.below hb7)
            clear hb7 c0 c1 c2 c3 c4
            obtain ⟨c0, c1, c2, c3, c4⟩ := (ch5_cells HC7.out).1
            go_wp2_with fail
            refine (HRt.out _ HV7.out HR7.out).mono ?_
            rintro e w8 ⟨rfl, hb8⟩
            have HX8 := Lib.hid (cells_below HX7.out hb8)
            have HB8 := Lib.hid (HB7.out.trans (hb8.mono HB7.out.size))
            clear hb8 c0 c1 c2 c3 c4
            obtain ⟨⟨x0, x1, x2, x3, x4⟩, xf⟩ := ch5_cells HX8.out
            have y0 := xf 0
            have y1 := xf 1
            have y2 := xf 2
            have y3 := xf 3
            have y4 := xf 4
            clear xf
            go_wp2_with fail
            refine bodyPost_ret (res_cell_tmp rfl _ _ (w.heap.size + 1) (by rfl) _ (load_chest (ch5_set HX8.out _ _ _ _ _))) rfl ?_
            rw [HE.out]
            exact open_no _ _ _ (ch5_by HB8.out (by omega) _ _ _ _ _)
  · have HE := Lib.hid (show openP P = (noVst, er) by rw [HO.out, if_pos her])
    have d1 : (er != 0) = true := by simpa using her
    obtain ⟨⟨x0, x1, x2, x3, x4⟩, xf⟩ := ch5_cells HX4.out
    have y0 := xf 0
    have y1 := xf 1
    have y2 := xf 2
    have y3 := xf 3
    have y4 := xf 4
    clear xf HO her
    go_wp2_with fail
    refine bodyPost_ret (res_cell_tmp rfl _ _ (w.heap.size + 1) (by rfl) _ (load_chest (ch5_set HX4.out _ _ _ _ _))) rfl ?_
    rw [HE.out]
    exact open_no _ _ _ (ch5_by HB4.out (by omega) _ _ _ _ _)

/- Va4 -/
open Go.RowKit
set_option linter.unusedVariables false
set_option linter.unusedSimpArgs false
set_option maxRecDepth 100000
set_option maxHeartbeats 2000000

theorem open_none {P : Plat} (h : (openP P).2 ≠ 0) : (openP P).1 = noVst := by
  unfold openP at h ⊢
  split at h
  · rename_i h0; rw [if_pos h0]
  rename_i h0
  rw [if_neg h0]
  split at h
  · rename_i h1; rw [if_pos h1]
  rename_i h1
  rw [if_neg h1]
  split at h
  · rename_i h2; rw [if_pos h2]
  rename_i h2
  rw [if_neg h2]
  split at h
  · rename_i h3; rw [if_pos h3]
  rename_i h3
  rw [if_neg h3]
  split at h
  · rename_i h4; rw [if_pos h4]
  · exact absurd rfl h
theorem va_lift {w : World} {b : Nat} {o : Obj} (h : w.heap[b]? = some o) (o' : Obj) : (w.alloc o').heap[b]? = some o := (Below.heap_alloc _ _ _ (cell_lt_of h)).trans h
theorem va_al2 (w : World) (o1 o2 : Obj) : ((w.alloc o1).alloc o2).heap[w.heap.size]? = some o1 ∧ ((w.alloc o1).alloc o2).heap[w.heap.size + 1]? = some o2 ∧ Below w.heap.size w ((w.alloc o1).alloc o2) ∧ ((w.alloc o1).alloc o2).heap.size = w.heap.size + 2 := by
  have h2 := heap_alloc_new (w.alloc o1) o2
  simp only [World.size_alloc] at h2
  exact ⟨va_lift (heap_alloc_new w o1) _, h2, ((Below.refl _ _).alloc (Nat.le_refl _) _).alloc (by simp) _, by simp⟩
/-- What Load hands back: a volume, its generation, an error's number. -/
def LoadR (w : World) (r : Vst × Int) (e : Ending) (w' : World) : Prop :=
  ∃ A c, e = .returned (.tuple #[.agg #[.slice A r.1.V.bl.length c, .string r.1.V.rt], .int .i64 (r.1.gen : Nat), .int .i64 r.2]) ∧ (Rd w' A (textsV r.1.V.bl) ∧ ∀ b o, A = some ⟨b, o, none⟩ → w.heap.size ≤ b) ∧ Below w.heap.size w w'
theorem vload_any (v : Value) (P : Plat) (w : World) (h : PlV w v P) (hl : P.ss.length ≤ maxLen) (hR : Rounds w) :
    Calls Tryz.prog 8 #[v] w (LoadR w (openP P)) := by
  obtain ⟨A, n, c, B, m, d, rfl, h⟩ := h
  obtain ⟨kp, kx, kb, ksz⟩ := va_al2 w (.cells #[.slice A n c, .slice B m d] 25) (.cells #[.slice none 0 0, .string ⟨#[]⟩] 27)
  have HP := Lib.hid (h.below kb)
  have HR := Lib.hid (hR.below kb)
  have HB := Lib.hid kb
  have HX := Lib.hid kx
  have HSz := Lib.hid ksz
  have HOp := Lib.hid (fun W h1 h2 => vopen_any (.agg #[.slice A n c, .slice B m d]) P W h1 hl h2)
  have Hn := Lib.hid (fun h => open_none (P := P) h)
  obtain ⟨r, hr⟩ : ∃ r, r = openP P := ⟨_, rfl⟩
  rw [← hr] at HOp Hn ⊢
  obtain ⟨⟨N, gen, area, ⟨bl, rt⟩⟩, er⟩ := r
  simp only at HOp Hn
  obtain ⟨q0, q1, _, _⟩ := two_cells kp
  clear h hl hR kp kx kb ksz hr
  go_enter Tryz.func8, Tryz.ntmps8
  go_wp2_with fail
  refine (HOp.out _ ⟨_, _, _, _, _, _, rfl, HP.out⟩ HR.out).mono ?_
  rintro e w2 ⟨A2, c2, rfl, ⟨hrd, hfar⟩, hb2⟩
  simp only at hrd ⊢
  have HX2 := hblk_below HX hb2
  have HB2 := Lib.hid (HB.out.trans (hb2.mono HB.out.size))
  have hb3 := (Below.refl w2.heap.size w2).alloc (Nat.le_refl _) (.cells #[.int .i64 (N : Nat), .int .i64 (area : Nat), .int .i64 (gen : Nat), .slice A2 bl.length c2, .string rt] 51)
  have HX3 := hblk_below HX2 hb3
  have HC3 := Lib.hid (heap_alloc_new w2 (.cells #[.int .i64 (N : Nat), .int .i64 (area : Nat), .int .i64 (gen : Nat), .slice A2 bl.length c2, .string rt] 51))
  have HB3 := Lib.hid (HB2.out.trans (hb3.mono HB2.out.size))
  have HRd3 := Lib.hid (hrd.below hb3)
  have HFr := Lib.hid (show ∀ b o, A2 = some ⟨b, o, none⟩ → w.heap.size + 2 ≤ b from fun b o e => by have h1 := hfar b o e; rw [HSz.out] at h1; exact h1)
  obtain ⟨w3, hw3⟩ : ∃ w3, w3 = w2.alloc (.cells #[.int .i64 (N : Nat), .int .i64 (area : Nat), .int .i64 (gen : Nat), .slice A2 bl.length c2, .string rt] 51) := ⟨_, rfl⟩
  have Hw3 := Lib.hid hw3
  rw [← hw3] at HX3 HC3 HB3 HRd3
  clear hb2 hb3 hrd hfar q0 q1 HX2 HB2 HX HB HP HR hw3
  go_upto_region 2 with fail
  rw [← Hw3.out]
  obtain ⟨x0, x1, x2, x3⟩ := two_cells HX3.out
  obtain ⟨⟨c0, c1, c2', c3, c4⟩, _⟩ := ch5_cells HC3.out
  by_cases her : er = 0
  · subst her
    have d1 : ((0 : Int) != 0) = false := rfl
    go_upto_region 4 with fail
    go_region_law (fail)
    all_goals
      go_wp2_with fail
      (try simp only [Exit.inBlock, Exit.then])
      refine bodyPost_ret (res_cell_tmp2 rfl _ _ (w.heap.size + 1) (by rfl) _ (load_vol (vol_set (t := 27) HX3.out _ _))) rfl ?_
      refine ⟨A2, c2, rfl, ⟨?_, fun b o e => by have := HFr.out b o e; omega⟩, ?_⟩
      · first
          | exact vrd_set (vrd_set HRd3.out (fun b o e h => by have := HFr.out b o e; omega) _) (fun b o e h => by have := HFr.out b o e; omega) _
          | exact (vrd_set (g := w.heap.size + 1) (i := 1) (vrd_set (g := w.heap.size + 1) (i := 0) HRd3.out (fun b o e h => by have := HFr.out b o e; omega) (.slice A2 bl.length c2)) (fun b o e h => by have := HFr.out b o e; omega) (.string rt)).below ((Below.refl _ _).drew)
      · first
          | exact two_by HB3.out (by omega) _ _
          | exact (two_by (g := w.heap.size + 1) HB3.out (by omega) (.slice A2 bl.length c2) (.string rt)).drew
  · have d1 : (er != 0) = true := by simpa using her
    have hno := Hn.out her
    simp only [noVst, vol0, Vst.mk.injEq, Vol.mk.injEq] at hno
    have Hno := Lib.hid hno
    clear her hno
    go_wp2_with fail
    (try simp only [Exit.inBlock, Exit.then])
    refine bodyPost_ret (res_cell_tmp2 rfl _ _ (w.heap.size + 1) (by rfl) _ (load_vol (vol_set HX3.out _ _))) rfl ?_
    obtain ⟨h1, h2, h3, h4, h5⟩ := Hno.out
    refine ⟨none, 0, ?_, ⟨?_, fun _ _ h => by cases h⟩, two_by HB3.out (by omega) _ _⟩
    · simp only [h2, h4, h5]
      rfl
    · simp only [h4]
      exact Rd.nil _ _

end Go.Proofs.YtieekajjoikepaaGreatDoor
