/-
  Contracts of tree: rows.told, rows.down and its iterator, slices.Equal.
-/
import Derived.Test.YtpngdfmifabmdaaGreatDoorColT
import Derived.Test.YtpngdfmifabmdaaGreatDoorTr2
namespace Go.Proofs.YtpngdfmifabmdaaGreatDoor
open Go.RowKit
set_option linter.unusedVariables false
set_option linter.unusedSimpArgs false
set_option maxRecDepth 100000
set_option maxHeartbeats 4000000
/-- Rows of digests behind a pointer. -/
structure RowsM (W : World) (g : Nat) (A : Option Addr) (n c : Nat) (X : Option Addr) (cap : Nat) (svs : List Value) (l : List ByteArray) (H : Nat) : Prop where
  box : W.heap[g]? = some (.cells #[.slice A n c, .slice X (H + 1) cap] 46 (0, 0))
  rd : Rd W A (textsV l)
  hn : n = l.length
  rx : Rd W X svs
  lv : ∀ k, k ≤ H → ∃ sv, svs[k]? = some sv ∧ LevB W sv (lev l k)
theorem RowsM.below {W W' : World} {g : Nat} {A : Option Addr} {n c : Nat} {X : Option Addr} {cap : Nat} {svs : List Value} {l : List ByteArray} {H : Nat} (h : RowsM W g A n c X cap svs l H) (hb : Below W.heap.size W W') : RowsM W' g A n c X cap svs l H :=
  ⟨cells_below h.box hb, h.rd.below hb, h.hn, h.rx.below hb, fun k hk => by obtain ⟨sv, h1, h2⟩ := h.lv k hk; exact ⟨sv, h1, h2.below hb⟩⟩
theorem ltext_any (s : ByteArray) (W : World) (hs : s.size ≤ 1000000) : Calls Tryz.prog 40 #[.string s] W fun e w' => e = .returned (.string (leafX s)) ∧ w' = W := by
  go_enter Tryz.func40, Tryz.ntmps40
  go_wp2_with fail
  go_ret
  exact ⟨rfl, rfl⟩
theorem ntext_any (a b : ByteArray) (W : World) (ha : a.size ≤ 1000000) (hb : b.size ≤ 1000000) : Calls Tryz.prog 41 #[.string a, .string b] W fun e w' => e = .returned (.string (nodeX a b)) ∧ w' = W := by
  go_enter Tryz.func41, Tryz.ntmps41
  go_wp2_with fail
  go_ret
  exact ⟨rfl, rfl⟩
theorem rtold_any (g : Nat) (A : Option Addr) (n c : Nat) (X : Option Addr) (cap : Nat) (svs : List Value) (l : List ByteArray) (H h j : Nat) (w : World) (hM : RowsM w g A n c X cap svs l H) (hz : ∀ s ∈ l, s.size ≤ 1000000) (hl : l.length = 2 ^ H) (hH : H ≤ 10) (hh : h ≤ H) (hj : j < 2 ^ (H - h)) :
    Calls Tryz.prog 22 #[.pointer (some ⟨g, 0, none⟩), .int .i64 (h : Nat), .int .i64 (j : Nat)] w fun e w' => e = .returned (.string (toldT l h j)) ∧ Below w.heap.size w w' := by
  have hj1024 : j < 1024 := Nat.lt_of_lt_of_le hj (Nat.le_trans (Nat.pow_le_pow_right (by omega) (by omega : H - h ≤ 10)) (by decide))
  have x0 := rf_at hM.box 0 _ rfl
  have x1 := rf_at hM.box 1 _ rfl
  cases h with
  | zero =>
    have hjl : j < l.length := by rw [hl]; simpa using hj
    have hjn : (j : Int) < (n : Int) := by rw [hM.hn]; omega
    obtain ⟨b, off, hA, c1⟩ := texts_at hM.rd hjl
    subst hA
    have HT := Lib.hid (show toldT l 0 j = leafX l[j] by rw [toldT, if_pos rfl, List.getD_eq_getElem?_getD, List.getElem?_eq_getElem hjl]; rfl)
    rw [HT.out]
    have HL := Lib.hid (fun W => ltext_any l[j] W (hz _ (List.getElem_mem hjl)))
    generalize l[j] = t at c1 HL ⊢
    generalize leafX t = lt at HL ⊢
    clear hM HT hl hj hjl hh hz
    go_enter Tryz.func22, Tryz.ntmps22
    go_wp2_with fail
    refine (HL.out _).mono ?_
    rintro e w1 ⟨rfl, rfl⟩
    go_wp2_with fail
    go_ret
    exact ⟨rfl, Below.refl _ _⟩
  | succ h =>
    obtain ⟨sv, hsv, b, off, nt, ct, cs, rfl, hbk, hnt, hrd⟩ := hM.lv h (by omega)
    obtain ⟨bX, oX, hbX, c0⟩ := hM.rx h _ hsv
    subst hbX
    have hp := lev_pow' (h := h) hl (by omega)
    have h2 : 2 ^ (H - h) = 2 * 2 ^ (H - (h + 1)) := by rw [show H - h = (H - (h + 1)) + 1 by omega, Nat.pow_succ]; omega
    have hb1 : 2 * j + 1 < (lev l h).length := by rw [hp, h2]; omega
    have hb0 : 2 * j < (lev l h).length := by omega
    obtain ⟨b', off', e0, c1⟩ := texts_at hrd hb0
    injection e0 with e0
    injection e0 with e1 e2
    subst e1 e2
    obtain ⟨b', off', e0, c2⟩ := texts_at hrd hb1
    injection e0 with e0
    injection e0 with e1 e2
    subst e1 e2
    have HT := Lib.hid (show toldT l (h + 1) j = nodeX (lev l h)[2 * j] (lev l h)[2 * j + 1] by
      rw [toldT, if_neg (by omega), Nat.add_sub_cancel, List.getD_eq_getElem?_getD, List.getElem?_eq_getElem hb0, List.getD_eq_getElem?_getD, List.getElem?_eq_getElem hb1]; rfl)
    rw [HT.out]
    have hb0' := hb0
    have hb1' := hb1
    rw [← hnt] at hb0 hb1
    have HL := Lib.hid (fun W => ntext_any (lev l h)[2 * j] (lev l h)[2 * j + 1] W (by rw [lev_size l h _ (List.getElem_mem hb0')]; decide) (by rw [lev_size l h _ (List.getElem_mem hb1')]; decide))
    generalize (lev l h)[2 * j] = ta at c1 HL ⊢
    generalize (lev l h)[2 * j + 1] = tb at c2 HL ⊢
    generalize nodeX ta tb = lt at HL ⊢
    have q1 : (2 * (j : Int)) < (nt : Int) := by omega
    have q2 : (2 * (j : Int)) + 1 < (nt : Int) := by omega
    have q3 : ((h + 1 : Nat) : Int) = (h : Int) + 1 := by omega
    have q4 : ((h : Int) + 1 == 0) = false := by simp; omega
    have q5 : (2 * (j : Int)).toNat = 2 * j := by omega
    have q6 : (2 * (j : Int) + 1).toNat = 2 * j + 1 := by omega
    have w1 : IntKind.i64.wrap (2 * (j : Int)) = 2 * (j : Int) := IntWalk.i64_in _ (by omega)
    have w2 : IntKind.i64.wrap (2 * (j : Int) + 1) = 2 * (j : Int) + 1 := IntWalk.i64_in _ (by omega)
    rw [q3]
    clear hb0' hb1' hz hM HT hl hj hsv hbk hnt hrd hp h2 q3
    go_enter Tryz.func22, Tryz.ntmps22
    go_wp2_with fail
    go_quiet ((go_at_call 41; exact Calls.quiet_of_same (HL.out _)))
    go_wp2_with fail
    go_ret
    exact ⟨rfl, below_drewN (Below.refl _ _) nq⟩
theorem down_len {H i j : Nat} (hi : i ≤ H) (hj : j < 2 ^ i) : (downL H i ++ (List.range j).map fun q => (H - i, q)) ++ [(H - i, j)] <+: downL H (H + 1) := by
  refine List.IsPrefix.trans ?_ (downL_pre (show i + 1 ≤ H + 1 by omega))
  rw [downL_succ, List.append_assoc]
  refine List.prefix_append_right_inj _ |>.2 ?_
  rw [show [(H - i, j)] = [j].map fun q => (H - i, q) from rfl, ← List.map_append, ← List.range_succ]
  refine List.IsPrefix.map _ ?_
  exact ⟨(List.range (2 ^ i)).drop (j + 1), by rw [show List.range (j + 1) = (List.range (2 ^ i)).take (j + 1) by rw [List.take_range, Nat.min_eq_left (by omega)], List.take_append_drop]⟩
/-- slices.Equal tells whether two rows are the same. -/
theorem equal_any (l m : List ByteArray) (A A2 : Option Addr) (n c n2 c2 : Nat) (w : World) (hr : Rd w A (textsV l)) (hr2 : Rd w A2 (textsV m)) (hn : n = l.length) (hn2 : n2 = m.length) (hl : l.length ≤ 100000) :
    Calls Tryz.prog 18 #[.slice A n c, .slice A2 n2 c2] w fun e w' => e = .returned (.bool (decide (l = m))) ∧ Below w.heap.size w w' := by
  have HR := Lib.hid hr
  have HR2 := Lib.hid hr2
  have HN := Lib.hid hn
  have HN2 := Lib.hid hn2
  have hn1 : n ≤ 100000 := by omega
  by_cases hne : n = n2
  · have d1 : ((n : Int) != (n2 : Int)) = false := by simp; omega
    have Hne := Lib.hid hne
    clear hr hr2 hn hn2 hne
    go_enter Tryz.func18, Tryz.ntmps18
    go_wp2_with fail
    go_loopw [13] (fun x wr => ∃ i : Nat, i ≤ n ∧ x = .int .i64 (i : Nat) ∧ l.take i = m.take i ∧ Below w.heap.size w wr) (fun x _ => n - (intOf x).toNat)
    case atStart => exact ⟨0, by omega, rfl, by simp, Below.refl _ _⟩
    case round =>
      obtain ⟨i, hi, rfl, ht, hW⟩ := hrel
      have HT := Lib.hid ht
      clear ht
      by_cases hlt : i < n
      · have hil : i < l.length := by rw [← HN.out]; exact hlt
        have him : i < m.length := by rw [← HN2.out, ← Hne.out]; exact hlt
        obtain ⟨b, off, hA, c1⟩ := texts_at (HR.out.below hW) hil
        obtain ⟨b2, off2, hA2, d1'⟩ := texts_at (HR2.out.below hW) him
        subst hA hA2
        have hi1 : (i : Int) < (n : Int) := by omega
        have hi2 : (i : Int) < (n2 : Int) := by have := Hne.out; omega
        have hi3 : i < n2 := by omega
        have Hx := Lib.hid (show l.take (i + 1) = l.take i ++ [l[i]] from List.take_succ_eq_append_getElem hil)
        have Hy := Lib.hid (show m.take (i + 1) = m.take i ++ [m[i]] from List.take_succ_eq_append_getElem him)
        by_cases he : l[i] = m[i]
        · rw [← he] at Hy d1'
          clear he
          generalize l[i] = x at c1 Hx Hy d1'
          have C1 := Lib.hid c1
          have D1 := Lib.hid d1'
          clear c1 d1'
          go_wp2_with fail
          have c1 := C1.out
          have d1' := D1.out
          go_quiet (fail)
          rename_i nq
          have HB := below_drewN hW nq
          go_wp2_with fail
          go_roundw
          case rel => exact ⟨i + 1, by omega, by go_num, by rw [Hx.out, Hy.out, HT.out], HB⟩
          case measure => simp [intOf]; omega
        · have Hlm := Lib.hid (show l ≠ m by intro e; subst e; exact he rfl)
          generalize l[i] = x at c1 Hx he
          generalize m[i] = y at d1' Hy he
          have hxy := text_ne' he
          clear he
          have C1 := Lib.hid c1
          have D1 := Lib.hid d1'
          clear c1 d1'
          go_wp2_with fail
          have c1 := C1.out
          have d1' := D1.out
          go_quiet (fail)
          rename_i nq
          have HB := below_drewN hW nq
          go_wp2_with fail
          go_ret
          exact ⟨by rw [decide_eq_false Hlm.out]; rfl, HB⟩
      · obtain rfl : i = n := by omega
        go_wp2_with fail
        go_ret
        refine ⟨?_, hW⟩
        have h1 := HN.out
        have h2 := HN2.out
        have h3 := Hne.out
        have h4 := HT.out
        rw [h1] at h4
        rw [decide_eq_true (eq_of_take (by omega) h4)]
        rfl
  · have d1 : ((n : Int) != (n2 : Int)) = true := by simp; omega
    have Hlm := Lib.hid (show l ≠ m by intro e; subst e; omega)
    clear hr hr2 hn hn2 hne
    go_enter Tryz.func18, Tryz.ntmps18
    go_wp2_with fail
    go_ret
    exact ⟨by rw [decide_eq_false Hlm.out]; rfl, Below.refl _ _⟩
attribute [local go_sem] Oper.semAt_some
theorem down1_in (n : Nat) (hn : 1 ≤ n) (yl Bb T g : Nat) (A : Option Addr) (m c : Nat) (X : Option Addr) (cap : Nat) (svs : List Value) (l : List ByteArray) (H : Nat) (w1 W : World) (hT : T = w1.heap.size) (hw1 : Below T w1 W) (hM : RowsM w1 g A m c X cap svs l H) (hl : l.length = 2 ^ H) (hH : H ≤ 10)
    (bB : W.heap[Bb]? = some (.cells #[.pointer (some ⟨g, 0, none⟩)] 73 (0, 0)))
    (J Jx : List (Nat × Nat) → World → Prop)
    (hY : ∀ pre x W', J pre W' → pre.length < (downL H (H + 1)).length → (x.1 ≤ H ∧ x.2 < 2 ^ (H - x.1)) → YieldAt Fence.wide (n - 1) Tryz.prog yl #[.int .i64 (x.1 : Nat), .int .i64 (x.2 : Nat)] W' fun e W2 =>
      (e = .returned (.bool true) ∧ J (pre ++ [x]) W2 ∧ KpT T [Bb] W' W2) ∨ (e = .returned (.bool false) ∧ Jx (pre ++ [x]) W2)) (h0 : J [] W) :
    CallsIn Fence.wide n Tryz.prog 39 #[.func (.yield yl) #[] #[], .pointer (some ⟨Bb, 0, none⟩)] W fun e W' => (∃ v, e = .returned v) ∧
      ((∃ ys, ys = downL H (H + 1) ∧ J ys W') ∨ (∃ pre, pre <+: downL H (H + 1) ∧ Jx pre W')) := by
  have HY := Lib.hid hY
  have HM := Lib.hid hM
  have HL := Lib.hid hl
  subst hT
  clear hY hM hl
  have c1 := cell_of_one bB
  have x1 := rf_at (HM.out.below hw1).box 1 _ rfl
  refine callsIn_of_wp Tryz.func39 rfl trivial ?_ rfl
  simp only [Tryz.ntmps39, List.size_toArray, List.length_cons, List.length_nil, Nat.reduceAdd, Nat.reduceSub, Array.replicate_succ, Array.replicate_zero, List.push_toArray, List.append_toArray, List.nil_append, List.cons_append]
  gi_wp2
  gi_loopw [3] (fun v wr => ∃ (i : Nat) (x : Int), i ≤ H + 1 ∧ v = .int .i64 x ∧ x = (H : Int) - i ∧ wr.heap[Bb]? = some (.cells #[.pointer (some ⟨g, 0, none⟩)] 73 (0, 0)) ∧ Below w1.heap.size w1 wr ∧ J (downL H i) wr) (fun v _ => (intOf v + 1).toNat)
  case atStart => exact ⟨0, _, by omega, rfl, by simp, bB, hw1, h0⟩
  case round =>
    clear c1 x1 bB hw1 h0
    obtain ⟨i, x, hi, rfl, hx, bB, hb, hJ⟩ := hrel
    have c1 := cell_of_one bB
    have x1 := rf_at (HM.out.below hb).box 1 _ rfl
    by_cases hlt : i < H + 1
    · obtain ⟨h, hh⟩ : ∃ h, h = H - i := ⟨_, rfl⟩
      obtain rfl : x = (h : Int) := by omega
      obtain ⟨sv, hsv, b, off, nt, ct, cs, rfl, hbk, hnt, hrd⟩ := HM.out.lv h (by omega)
      obtain ⟨bX, oX, hbX, c0⟩ := (HM.out.rx.below hb) h _ hsv
      subst hbX
      have hp := lev_pow' (h := h) HL.out (by omega)
      rw [← hnt, show H - h = i by omega] at hp
      have hnt1024 : nt ≤ 1024 := by rw [hp]; exact Nat.le_trans (Nat.pow_le_pow_right (by omega) (by omega : i ≤ 10)) (by decide)
      have hp0 : (0 : Int) ≤ (h : Int) := by omega
      have hhH : (h : Int) < ((H + 1 : Nat) : Int) := by omega
      have d1 : decide ((h : Int) ≥ 0) = true := decide_eq_true hp0
      have HP := Lib.hid hp
      have HH := Lib.hid hh
      clear hx hsv hbk hnt hrd hp hh
      have Hb := Lib.hid hb
      have HB := Lib.hid bB
      have hJ0 : J (downL H i ++ (List.range 0).map fun q => (H - i, q)) wr := by simpa using hJ
      clear hb bB hJ
      gi_wp2
      rename World => W0
      gi_loopw [23] (fun v wr => ∃ j : Nat, j ≤ nt ∧ v = .int .i64 (j : Nat) ∧ wr.heap[Bb]? = some (.cells #[.pointer (some ⟨g, 0, none⟩)] 73 (0, 0)) ∧ Below w1.heap.size w1 wr ∧ J (downL H i ++ (List.range j).map fun q => (H - i, q)) wr) (fun v _ => nt - (intOf v).toNat)
      case atStart => exact ⟨0, by omega, rfl, HB.out, Hb.out, hJ0⟩
      case round =>
        obtain ⟨j, hj, rfl, bB, hb, hJ⟩ := hrel
        by_cases hlt2 : j < nt
        · have d2 : decide ((j : Int) < (nt : Int)) = true := by simp; omega
          have hpre := down_len (H := H) (i := i) (j := j) (by omega) (by rw [← HP.out]; exact hlt2)
          have hlen : (downL H i ++ (List.range j).map fun q => (H - i, q)).length < (downL H (H + 1)).length := by
            have := hpre.length_le
            rw [List.length_append] at this
            simp only [List.length_cons, List.length_nil] at this
            omega
          obtain ⟨fn, tmps, assign, body, hy, hR⟩ := HY.out _ (H - i, j) wr hJ hlen ⟨by simp only; omega, by simp only; rw [show H - (H - i) = i by omega, ← HP.out]; exact hlt2⟩
          have HR2 := Lib.hid hR
          have Hpre := Lib.hid hpre
          have HBk := Lib.hid bB
          have Hbk := Lib.hid hb
          simp only at hy
          rw [← HH.out] at hy
          clear hR hpre hlen hJ hb bB
          gi_wp2
          refine HR2.out.mono ?_
          rintro e W3 (⟨rfl, hJ3, hk3⟩ | ⟨rfl, hJx3⟩)
          · have HJ3 := Lib.hid hJ3
            have hB3 := (hk3.2 Bb (by simp)).trans HBk.out
            have hb3 := Hbk.out.trans hk3.1
            clear hJ3 hk3
            gi_wp2
            go_roundw
            case rel => exact ⟨j + 1, by omega, by go_num, hB3, hb3, by rw [List.range_succ, List.map_append, ← List.append_assoc]; exact HJ3.out⟩
            case measure => simp [intOf]; omega
          · have HJx3 := Lib.hid hJx3
            clear hJx3
            gi_wp2
            refine bodyPost_ret (results_none rfl _ _ _) rfl ?_
            exact ⟨⟨_, rfl⟩, .inr ⟨_, Hpre.out, HJx3.out⟩⟩
        · obtain rfl : j = nt := by omega
          have d2 : decide ((j : Int) < (j : Int)) = false := by simp
          have HJ := Lib.hid hJ
          clear hJ
          gi_wp2
          go_roundw
          case rel => exact ⟨i + 1, _, by omega, rfl, by have := HH.out; omega, bB, hb, by rw [downL_succ, ← HP.out]; exact HJ.out⟩
          case measure => simp [intOf]
    · obtain rfl : i = H + 1 := by omega
      obtain rfl : x = -1 := by omega
      have HJ := Lib.hid hJ
      clear hJ hx
      gi_wp2
      go_end0
      exact ⟨⟨_, rfl⟩, .inl ⟨_, rfl, HJ.out⟩⟩
abbrev DP (H : Nat) := { x : Nat × Nat // x.1 ≤ H ∧ x.2 < 2 ^ (H - x.1) }
theorem down1_in' (n : Nat) (hn : 1 ≤ n) (yl Bb T g : Nat) (A : Option Addr) (m c : Nat) (X : Option Addr) (cap : Nat) (svs : List Value) (l : List ByteArray) (H : Nat) (w1 W : World) (hT : T = w1.heap.size) (hw1 : Below T w1 W) (hM : RowsM w1 g A m c X cap svs l H) (hl : l.length = 2 ^ H) (hH : H ≤ 10)
    (bB : W.heap[Bb]? = some (.cells #[.pointer (some ⟨g, 0, none⟩)] 73 (0, 0)))
    (J Jx : List (DP H) → World → Prop)
    (hY : ∀ pre (x : DP H) W', J pre W' → pre.length < (downL H (H + 1)).length → YieldAt Fence.wide (n - 1) Tryz.prog yl #[.int .i64 (x.1.1 : Nat), .int .i64 (x.1.2 : Nat)] W' fun e W2 =>
      (e = .returned (.bool true) ∧ J (pre ++ [x]) W2 ∧ KpT T [Bb] W' W2) ∨ (e = .returned (.bool false) ∧ Jx (pre ++ [x]) W2)) (h0 : J [] W) :
    CallsIn Fence.wide n Tryz.prog 39 #[.func (.yield yl) #[] #[], .pointer (some ⟨Bb, 0, none⟩)] W fun e W' => (∃ v, e = .returned v) ∧
      ((∃ ys : List (DP H), ys.map Subtype.val = downL H (H + 1) ∧ J ys W') ∨ (∃ pre : List (DP H), pre.map Subtype.val <+: downL H (H + 1) ∧ Jx pre W')) := by
  refine (down1_in n hn yl Bb T g A m c X cap svs l H w1 W hT hw1 hM hl hH bB (fun l W => ∃ l' : List (DP H), l'.map Subtype.val = l ∧ J l' W) (fun l W => ∃ l' : List (DP H), l'.map Subtype.val = l ∧ Jx l' W) ?_ ⟨[], rfl, h0⟩).mono ?_
  · rintro pre x W' ⟨l', rfl, hJ⟩ hlen hb
    obtain ⟨fn, tmps, assign, body, hy, hR⟩ := hY l' ⟨x, hb⟩ W' hJ (by simpa using hlen)
    refine ⟨fn, tmps, assign, body, hy, hR.mono ?_⟩
    rintro e W2 (⟨h1, h2, h3⟩ | ⟨h1, h2⟩)
    · exact .inl ⟨h1, ⟨_, by simp, h2⟩, h3⟩
    · exact .inr ⟨h1, _, by simp, h2⟩
  · rintro e W' ⟨hv, (⟨ys, h1, l', h2, h3⟩ | ⟨pre, h1, l', h2, h3⟩)⟩
    · exact ⟨hv, .inl ⟨l', h2.trans h1, h3⟩⟩
    · exact ⟨hv, .inr ⟨l', by rw [h2]; exact h1, h3⟩⟩
theorem down_in (n : Nat) (g : Nat) (w : World) :
    CallsIn Fence.wide n Tryz.prog 21 #[.pointer (some ⟨g, 0, none⟩)] w fun e w' => e = .returned (.func (.func 39) #[] #[.pointer (some ⟨w.heap.size, 0, none⟩)]) ∧ w' = w.alloc (.cells #[.pointer (some ⟨g, 0, none⟩)] 73) := by
  refine callsIn_of_wp Tryz.func21 rfl trivial ?_ rfl
  simp only [Tryz.ntmps21, List.size_toArray, List.length_cons, List.length_nil, Nat.reduceAdd, Nat.reduceSub, Array.replicate_succ, Array.replicate_zero, List.push_toArray, List.append_toArray, List.nil_append, List.cons_append]
  gi_wp2
  go_ret
  exact ⟨rfl, rfl⟩
end Go.Proofs.YtpngdfmifabmdaaGreatDoor
