/-
  Contracts of holder.four, one, nowText, nextText.
  Contract of holder.row. (Printed by gen_row.py.)
  Contracts of digest.Sum at any text, digest.Same, holder.Start, Prepare.
-/
import Derived.Test.YtkbjmmigjjdfpaaGreatDoorHn
import Derived.Test.YtkbjmmigjjdfpaaGreatDoorWd
import Derived.WalkMore
import Derived.Test.YtkbjmmigjjdfpaaGreatDoorSm
namespace Go.Proofs.YtkbjmmigjjdfpaaGreatDoor
/- HoldW -/
open Go.RowKit
set_option linter.unusedVariables false
set_option maxRecDepth 100000
set_option maxHeartbeats 1000000

theorem four_any (n : Int) (w : World) (h : wordB n = true) : Calls Tryz.prog 89 #[.int .i64 n] w fun e w' => e = .returned (.string (bs (fourL n))) ∧ Below w.heap.size w w' := by
  have hw : wordsB [n] = true := by simp [wordsB, h]
  have HF := Lib.hid (show fourL n = joinL [n] true by rw [fourL, if_pos h])
  go_enter Tryz.func89, Tryz.ntmps89
  go_wp2_with fail
  refine (join_true _ 1 1 [n] _ (by exact rd_new' _ _ _ _ rfl) rfl (by simp) hw).mono ?_
  rintro e w1 ⟨rfl, hb⟩
  have hB := Below.chain ((Below.refl w.heap.size w).alloc (Nat.le_refl _) (.cells #[.int .i64 n] 3)) hb
  clear hb
  go_wp2_with fail
  go_ret
  rw [HF.out]
  exact ⟨rfl, hB⟩
theorem hu8_wrap (n : Int) : IntKind.u8.wrap n = (((u8 n).toNat : Nat) : Int) := by
  rw [IntKind.wrap_u8]
  simp [u8]
  omega
theorem conv1 (x : UInt8) (w : World) (g : Nat) (hg : w.heap.size = g) : (convert 148 9 (.slice (some ⟨g, 0, none⟩) 1 1)).run Tryz.prog (w.alloc (.cells #[.int .u8 (x.toNat : Int)] 5)) = .ok (.string (bs [x])) (w.alloc (.cells #[.int .u8 (x.toNat : Int)] 5)) :=
  conv_rd (l := [x]) (rd_new' w _ _ g hg) 1 1 rfl
theorem one_any (n : Int) (w : World) : Calls Tryz.prog 90 #[.int .i64 n] w fun e w' => e = .returned (.string (bs [u8 n])) ∧ Below w.heap.size w w' := by
  have hwr := hu8_wrap n
  have hcv := conv1 (u8 n) w w.heap.size rfl
  go_enter Tryz.func90, Tryz.ntmps90
  go_wp2_with fail
  go_ret
  exact ⟨rfl, (Below.refl _ w).alloc (Nat.le_refl _) _⟩
theorem now_parts (F T X S L C : ByteArray) : bs (F.data.toList ++ T.data.toList ++ X.data.toList ++ S.data.toList ++ L.data.toList ++ C.data.toList) = F ++ T ++ X ++ S ++ L ++ C := by
  simp only [← bs_cat, bs_of]
theorem nowText_any (h : Hd) (w : World) (hw : wordB h.epoch = true) (hb : h.b.size ≤ 100000) (hs : h.salt.size ≤ 100000) (hc : h.cred.size ≤ 100000) :
    Calls Tryz.prog 51 #[.agg (hdV h)] w fun e w' => e = .returned (.string (nowB h)) ∧ Below w.heap.size w w' := by
  obtain ⟨h0, h1, h2, h3, h4, h5, h6, h7, h8, h9⟩ := h
  simp only at hw hb hs hc
  obtain ⟨F, hF⟩ : ∃ F, F = bs (fourL h0) := ⟨_, rfl⟩
  obtain ⟨T, hT⟩ : ∃ T, T = bs [u8 h1] := ⟨_, rfl⟩
  obtain ⟨X, hX⟩ : ∃ X, X = bs [u8 h2] := ⟨_, rfl⟩
  have hFs : F.size ≤ 4 := by rw [hF, bs_size, fourL, if_pos hw, joinL_length]; simp
  have hTs : T.size = 1 := by rw [hT]; rfl
  have hXs : X.size = 1 := by rw [hX]; rfl
  have HF := Lib.hid hF
  have HT := Lib.hid hT
  have HX := Lib.hid hX
  have al := (Below.refl w.heap.size w).alloc (Nat.le_refl _) (.cells #[.int .i64 h0, .int .i64 h1, .int .i64 h2, .string h3, .string h4, .string h5, .int .i64 h6, .int .i64 h7, .string h8, .string h9] 102)
  have H0 := Lib.hid (heap_alloc_new w (.cells #[.int .i64 h0, .int .i64 h1, .int .i64 h2, .string h3, .string h4, .string h5, .int .i64 h6, .int .i64 h7, .string h8, .string h9] 102))
  have HB := Lib.hid al
  clear hF hT hX al
  unfold hdV
  by_cases hx : h2 = 0
  · have HN := Lib.hid (show nowB ⟨h0, h1, h2, h3, h4, h5, h6, h7, h8, h9⟩ = F ++ T ++ X ++ zerosB 32 ++ zerosB 16 ++ h5 by
      rw [← now_parts, nowB, HF.out, HT.out, HX.out]
      simp only [hx, if_true]
      rfl)
    have z1 : (zerosB 32).size = 32 := by decide
    have z2 : (zerosB 16).size = 16 := by decide
    have d1 : (h2 == 0) = true := by simpa using hx
    clear hx
    obtain ⟨⟨c0, c1, c2, c3, c4, c5, c6, c7, c8, c9⟩, cf⟩ := ten_cells H0.out
    go_enter Tryz.func51, Tryz.ntmps51
    go_wp2_with fail
    go_quiet (fail)
    rename_i nq
    go_wp2_with fail
    refine (hzeros_any 32 _ (by omega)).mono ?_
    rintro e w1 ⟨rfl, hb1⟩
    go_wp2_with fail
    refine (hzeros_any 16 _ (by omega)).mono ?_
    rintro e w2 ⟨rfl, hb2⟩
    have hbb := Below.chain (Below.chain (below_drewN (Below.refl _ (w.alloc (.cells #[.int .i64 h0, .int .i64 h1, .int .i64 h2, .string h3, .string h4, .string h5, .int .i64 h6, .int .i64 h7, .string h8, .string h9] 102))) nq) hb1) hb2
    clear hb1 hb2
    have H2 := Lib.hid (cells_below H0.out hbb)
    have HB2 := Lib.hid (Below.chain HB.out hbb)
    clear hbb
    obtain ⟨⟨e0, e1, e2, e3, e4, e5, e6, e7, e8, e9⟩, ef⟩ := ten_cells H2.out
    have cy0 : ∀ y : Later w2, y.x.cell? ⟨w.heap.size, 0, none⟩ = some (.int .i64 h0) := fun y => y.cell e0
    have cy1 : ∀ y : Later w2, y.x.cell? ⟨w.heap.size, 1, none⟩ = some (.int .i64 h1) := fun y => y.cell e1
    have cy2 : ∀ y : Later w2, y.x.cell? ⟨w.heap.size, 2, none⟩ = some (.int .i64 h2) := fun y => y.cell e2
    have cy5 : ∀ y : Later w2, y.x.cell? ⟨w.heap.size, 5, none⟩ = some (.string h5) := fun y => y.cell e5
    have K1 : Hid (∀ y : Later w2, Calls Tryz.prog 89 #[.int .i64 h0] y.x fun e w' => e = .returned (.string F) ∧ ∃ z : Later w2, w' = z.x) := Lib.hid fun y => later_call (by rw [HF.out]; exact four_any h0 y.x hw)
    have K2 : Hid (∀ y : Later w2, Calls Tryz.prog 90 #[.int .i64 h1] y.x fun e w' => e = .returned (.string T) ∧ ∃ z : Later w2, w' = z.x) := Lib.hid fun y => later_call (by rw [HT.out]; exact one_any h1 y.x)
    have K3 : Hid (∀ y : Later w2, Calls Tryz.prog 90 #[.int .i64 h2] y.x fun e w' => e = .returned (.string X) ∧ ∃ z : Later w2, w' = z.x) := Lib.hid fun y => later_call (by rw [HX.out]; exact one_any h2 y.x)
    have s1 : ¬ 9223372036854775807 < F.size + T.size := by omega
    have s2 : ¬ 9223372036854775807 < F.size + T.size + X.size := by omega
    have s3 : ¬ 9223372036854775807 < F.size + T.size + X.size + (zerosB 32).size := by omega
    have s4 : ¬ 9223372036854775807 < F.size + T.size + X.size + (zerosB 32).size + (zerosB 16).size := by omega
    have s5 : ¬ 9223372036854775807 < F.size + T.size + X.size + (zerosB 32).size + (zerosB 16).size + h5.size := by omega
    clear e0 e1 e2 e3 e4 e5 e6 e7 e8 e9 ef c0 c1 c2 c3 c4 c5 c6 c7 c8 c9 cf
    go_wp2_with fail
    refine wp_region_later (by kernel_rfl) (by kernel_rfl) ?_
    repeat (go_big_quiet_step (first | with_reducible exact K1.out _ | with_reducible exact K2.out _ | with_reducible exact K3.out _))
    refine wpQuiet_nil ?_
    rintro _ ⟨y, rfl⟩
    go_wp2_with fail
    go_ret
    rw [HN.out]
    exact ⟨rfl, Below.chain HB2.out y.ok⟩
  · have HN := Lib.hid (show nowB ⟨h0, h1, h2, h3, h4, h5, h6, h7, h8, h9⟩ = F ++ T ++ X ++ h3 ++ h4 ++ h5 by
      rw [← now_parts, nowB, HF.out, HT.out, HX.out]
      simp only [hx, if_false]
      rfl)
    have d1 : (h2 == 0) = false := by simpa using hx
    clear hx
    obtain ⟨⟨c0, c1, c2, c3, c4, c5, c6, c7, c8, c9⟩, cf⟩ := ten_cells H0.out
    go_enter Tryz.func51, Tryz.ntmps51
    go_wp2_with fail
    go_quiet (fail)
    rename_i nq
    have hbb := below_drewN (Below.refl (w.alloc (.cells #[.int .i64 h0, .int .i64 h1, .int .i64 h2, .string h3, .string h4, .string h5, .int .i64 h6, .int .i64 h7, .string h8, .string h9] 102)).heap.size (w.alloc (.cells #[.int .i64 h0, .int .i64 h1, .int .i64 h2, .string h3, .string h4, .string h5, .int .i64 h6, .int .i64 h7, .string h8, .string h9] 102))) nq
    obtain ⟨w2, hw2⟩ : ∃ w2, w2 = (w.alloc (.cells #[.int .i64 h0, .int .i64 h1, .int .i64 h2, .string h3, .string h4, .string h5, .int .i64 h6, .int .i64 h7, .string h8, .string h9] 102)).drewN nq := ⟨_, rfl⟩
    rw [← hw2] at hbb ⊢
    clear hw2
    have H2 := Lib.hid (cells_below H0.out hbb)
    have HB2 := Lib.hid (Below.chain HB.out hbb)
    clear hbb
    obtain ⟨⟨e0, e1, e2, e3, e4, e5, e6, e7, e8, e9⟩, ef⟩ := ten_cells H2.out
    have cy0 : ∀ y : Later w2, y.x.cell? ⟨w.heap.size, 0, none⟩ = some (.int .i64 h0) := fun y => y.cell e0
    have cy1 : ∀ y : Later w2, y.x.cell? ⟨w.heap.size, 1, none⟩ = some (.int .i64 h1) := fun y => y.cell e1
    have cy2 : ∀ y : Later w2, y.x.cell? ⟨w.heap.size, 2, none⟩ = some (.int .i64 h2) := fun y => y.cell e2
    have cy5 : ∀ y : Later w2, y.x.cell? ⟨w.heap.size, 5, none⟩ = some (.string h5) := fun y => y.cell e5
    have K1 : Hid (∀ y : Later w2, Calls Tryz.prog 89 #[.int .i64 h0] y.x fun e w' => e = .returned (.string F) ∧ ∃ z : Later w2, w' = z.x) := Lib.hid fun y => later_call (by rw [HF.out]; exact four_any h0 y.x hw)
    have K2 : Hid (∀ y : Later w2, Calls Tryz.prog 90 #[.int .i64 h1] y.x fun e w' => e = .returned (.string T) ∧ ∃ z : Later w2, w' = z.x) := Lib.hid fun y => later_call (by rw [HT.out]; exact one_any h1 y.x)
    have K3 : Hid (∀ y : Later w2, Calls Tryz.prog 90 #[.int .i64 h2] y.x fun e w' => e = .returned (.string X) ∧ ∃ z : Later w2, w' = z.x) := Lib.hid fun y => later_call (by rw [HX.out]; exact one_any h2 y.x)
    have s1 : ¬ 9223372036854775807 < F.size + T.size := by omega
    have s2 : ¬ 9223372036854775807 < F.size + T.size + X.size := by omega
    have s3 : ¬ 9223372036854775807 < F.size + T.size + X.size + h3.size := by omega
    have s4 : ¬ 9223372036854775807 < F.size + T.size + X.size + h3.size + h4.size := by omega
    have s5 : ¬ 9223372036854775807 < F.size + T.size + X.size + h3.size + h4.size + h5.size := by omega
    clear e0 e1 e3 e4 e5 e6 e7 e8 e9 ef c0 c1 c2 c3 c4 c5 c6 c7 c8 c9 cf
    go_wp2_with fail
    refine wp_region_later (by kernel_rfl) (by kernel_rfl) ?_
    repeat (go_big_quiet_step (first | with_reducible exact K1.out _ | with_reducible exact K2.out _ | with_reducible exact K3.out _))
    refine wpQuiet_nil ?_
    rintro _ ⟨y, rfl⟩
    go_wp2_with fail
    go_ret
    rw [HN.out]
    exact ⟨rfl, Below.chain HB2.out y.ok⟩
theorem next_parts (F X S L : ByteArray) : bs (F.data.toList ++ X.data.toList ++ S.data.toList ++ L.data.toList) = F ++ X ++ S ++ L := by
  simp only [← bs_cat, bs_of]
theorem nextText_any (epoch x : Int) (b salt : ByteArray) (w : World) (hw : wordB epoch = true) (hb : b.size ≤ 100000) (hs : salt.size ≤ 100000) :
    Calls Tryz.prog 86 #[.int .i64 epoch, .agg #[.int .i64 x, .string b], .string salt] w fun e w' => e = .returned (.string (nextB epoch x b salt)) ∧ Below w.heap.size w w' := by
  obtain ⟨F, hF⟩ : ∃ F, F = bs (fourL epoch) := ⟨_, rfl⟩
  obtain ⟨X, hX⟩ : ∃ X, X = bs [u8 x] := ⟨_, rfl⟩
  have hFs : F.size ≤ 4 := by rw [hF, bs_size, fourL, if_pos hw, joinL_length]; simp
  have hXs : X.size = 1 := by rw [hX]; rfl
  have HN := Lib.hid (show nextB epoch x b salt = F ++ X ++ b ++ salt by rw [← next_parts, nextB, hF, hX]; rfl)
  have al := (Below.refl w.heap.size w).alloc (Nat.le_refl _) (.cells #[.int .i64 x, .string b] 43)
  obtain ⟨e0, e1, _, _⟩ := two_cells (heap_alloc_new w (.cells #[.int .i64 x, .string b] 43))
  have HB := Lib.hid al
  obtain ⟨w2, hw2⟩ : ∃ w2, w2 = w.alloc (.cells #[.int .i64 x, .string b] 43) := ⟨_, rfl⟩
  have Hw2 := Lib.hid hw2
  rw [← hw2] at HB e0 e1
  have cy0 : ∀ y : Later w2, y.x.cell? ⟨w.heap.size, 0, none⟩ = some (.int .i64 x) := fun y => y.cell e0
  have cy1 : ∀ y : Later w2, y.x.cell? ⟨w.heap.size, 1, none⟩ = some (.string b) := fun y => y.cell e1
  have K1 : Hid (∀ y : Later w2, Calls Tryz.prog 89 #[.int .i64 epoch] y.x fun e w' => e = .returned (.string F) ∧ ∃ z : Later w2, w' = z.x) := Lib.hid fun y => later_call (by rw [hF]; exact four_any epoch y.x hw)
  have K2 : Hid (∀ y : Later w2, Calls Tryz.prog 90 #[.int .i64 x] y.x fun e w' => e = .returned (.string X) ∧ ∃ z : Later w2, w' = z.x) := Lib.hid fun y => later_call (by rw [hX]; exact one_any x y.x)
  have s1 : ¬ 9223372036854775807 < F.size + X.size := by omega
  have s2 : ¬ 9223372036854775807 < F.size + X.size + b.size := by omega
  have s3 : ¬ 9223372036854775807 < F.size + X.size + b.size + salt.size := by omega
  clear hF hX al e0 e1 hw2
  go_enter Tryz.func86, Tryz.ntmps86
  go_wp2_with fail
  rw [← Hw2.out]
  refine wp_region_later (by kernel_rfl) (by kernel_rfl) ?_
  repeat (go_big_quiet_step (first | with_reducible exact K1.out _ | with_reducible exact K2.out _))
  refine wpQuiet_nil ?_
  rintro _ ⟨y, rfl⟩
  go_wp2_with fail
  go_ret
  rw [HN.out]
  exact ⟨rfl, Below.chain HB.out y.ok⟩

/- HoldRow -/
open Go.RowKit
set_option linter.unusedVariables false
set_option maxRecDepth 100000
set_option maxHeartbeats 2000000
set_option linter.unusedSimpArgs false

theorem put_done {P : Plat} {a d : Int} {s : ByteArray} (h0 : 0 ≤ d) (h : (putP P a s (min d 4)).2.1 = true) : 4 ≤ d := by
  unfold putP at h
  split at h
  · cases h
  · unfold doP at h
    split at h
    · cases h
    · simp only [decide_eq_true_eq, deedsL, List.length_cons, List.length_nil] at h
      rcases Int.lt_or_le d 4 with hlt | hge
      · rw [Int.min_eq_left (by omega)] at h
        exfalso
        unfold mostN at h
        split at h
        · rename_i hc
          simp at hc
          omega
        · simp at h
          omega
      · exact hge
theorem row_at (A B D : Option Addr) (n c m d cd N : Nat) (deeds d0 : Int) (P : Plat) (l : List PutP) (r : Plat × Int) (w : World) (h : PB w A n B m P) (hD : Rd w D (putsV l)) (hN : N = l.length) (hl : ∀ q ∈ l, q.1 ≤ 9223372036854775000) (hN4 : N ≤ 1000) (hcd : N ≤ cd) (hd0 : d0 = rowN deeds N) (hr : r = rowL l P d0) :
    Calls Tryz.prog 50 #[.agg #[.slice A n c, .slice B m d], .int .i64 deeds, .slice D N cd] w (PlR w r) := by
  obtain ⟨hX, hA, hbA⟩ := two_new w #[.slice A n c, .slice B m d] 68
  have HP := Lib.hid (h.below hbA)
  have HX := Lib.hid hX
  have HA := Lib.hid hA
  have HB := Lib.hid hbA
  have HN := Lib.hid hN
  have HD := Lib.hid hD
  have HL := Lib.hid hl
  have HR := Lib.hid hr
  have hcase : (deeds < 0 ∨ 4 * (N : Int) < deeds) ∧ d0 = 4 * (N : Int) ∨ ¬ deeds < 0 ∧ ¬ 4 * (N : Int) < deeds ∧ d0 = deeds := by
    rw [hd0]
    unfold rowN
    by_cases h : deeds < 0 ∨ 4 * (N : Int) < deeds
    · rw [if_pos h]; exact .inl ⟨h, rfl⟩
    · rw [if_neg h]; exact .inr ⟨fun e => h (.inl e), fun e => h (.inr e), rfl⟩
  clear h hX hA hbA hN hD hl hr hd0
  rcases hcase with ⟨hcs, hd⟩ | ⟨hc1, hc2, hc3⟩
  · have Hd := Lib.hid hd
    clear hd
    rcases Decidable.em (deeds < 0) with hneg | hneg
    · have d1 : decide (deeds < 0) = true := by simpa using hneg
      clear hcs
      go_enter Tryz.func50, Tryz.ntmps50
      go_wp2_with fail
      go_step3
      go_wp2_with fail
      go_step3
      go_wp2_with fail
      go_loopw [1, 8, 28] (fun y z x wr => ∃ (k : Nat) (e : Int) (Q : Plat) (A1 : Option Addr) (n1 c1 : Nat) (B1 : Option Addr) (m1 d1 : Nat), k ≤ N ∧ x = .int .i64 (k : Nat) ∧ y = .int .i64 e ∧ z = .int .i64 0 ∧ 0 ≤ e ∧ e ≤ 4000 ∧ r = rowL (l.drop k) Q e ∧ wr.heap[w.heap.size]? = some (.cells #[.slice A1 n1 c1, .slice B1 m1 d1] 68 (0, 0)) ∧ wr.heap[w.heap.size + 1]? = some (.cells zP 68 (0, 0)) ∧ PB wr A1 n1 B1 m1 Q ∧ Below w.heap.size w wr) (fun _ _ x _ => N - (intOf x).toNat)
      case atStart => exact ⟨0, _, P, A, n, c, B, m, d, by omega, rfl, rfl, rfl, by omega, by omega, by rw [HR.out, Hd.out]; rfl, HA.out, HX.out, HP.out, HB.out⟩
      case round =>
        obtain ⟨k, e0, Q, A1, n1, c1, B1, m1, d1', hk, rfl, rfl, rfl, he0, he1, hrun, hA1, hX1, hP1, hB1⟩ := hrel
        have HA1 := Lib.hid hA1
        have HX1 := Lib.hid hX1
        have HP1 := Lib.hid hP1
        have HB1 := Lib.hid hB1
        have HQ := Lib.hid hrun
        obtain ⟨a0, a1, a2, a3⟩ := two_cells hA1
        obtain ⟨x0, x1, x2, x3⟩ := two_cells hX1
        have hlt1 := cell_lt_of hX1
        clear hA1 hX1 hP1 hB1 hrun
        by_cases hlt : k < N
        · have hkl : k < l.length := by rw [← HN.out]; omega
          obtain ⟨b, off, hDD, c0, c1'⟩ := puts_at (HD.out.below HB1.out) hkl
          subst hDD
          have hq := HL.out _ (List.getElem_mem hkl)
          have Hs := Lib.hid (show r = rowL (l[k] :: l.drop (k + 1)) Q e0 by rw [HQ.out, List.drop_eq_getElem_cons hkl])
          have hk1 : (k : Int) < (N : Int) := by omega
          generalize l[k] = q at c0 c1' hq Hs
          obtain ⟨i, s⟩ := q
          simp only at c0 c1' hq
          have hba := (Below.refl wr.heap.size wr).alloc (Nat.le_refl _) (.cells #[.int .i64 i, .string s] 104)
          replace HA1 := hblk_below HA1 hba
          replace HX1 := hblk_below HX1 hba
          replace HP1 := Lib.hid (HP1.out.below hba)
          replace HB1 := Lib.hid (HB1.out.trans (hba.mono HB1.out.size))
          clear hba
          obtain ⟨b0, b1, b2, b3⟩ := two_cells HA1.out
          go_wp2_with fail
          refine (put_any _ Q i (min e0 4) s _ ⟨_, _, _, _, _, _, rfl, HP1.out⟩ hq).mono ?_
          rintro e w2 ⟨v2, rfl, hv2, hb2⟩
          obtain ⟨A2, n2, c2, B2, m2, d2', rfl, hO2⟩ := hv2
          have HX2 := hblk_below HX1 hb2
          have HA2 := hblk_below HA1 hb2
          have HB2 := Lib.hid (HB1.out.trans (hb2.mono HB1.out.size))
          have hbb := (Below.refl w2.heap.size w2).alloc (Nat.le_refl _) (.cells #[.slice A2 n2 c2, .slice B2 m2 d2'] 68)
          have HX3 := hblk_below HX2 hbb
          have HA3 := hblk_below HA2 hbb
          have HO3 := Lib.hid (hO2.below hbb)
          have HB3 := Lib.hid (HB2.out.trans (hbb.mono HB2.out.size))
          have hlt2 := cell_lt_of HX2.out
          have Hdone := Lib.hid (fun h => put_done (P := Q) (a := i) (s := s) he0 h)
          have Hs2 := Lib.hid (show r = if (putP Q i s (min e0 4)).2.2 ≠ 0 then (noPlat, (putP Q i s (min e0 4)).2.2) else if (putP Q i s (min e0 4)).2.1 = true then rowL (l.drop (k + 1)) (putP Q i s (min e0 4)).1 (e0 - 4) else ((putP Q i s (min e0 4)).1, 230) by rw [Hs.out, rowL])
          obtain ⟨q, hq'⟩ : ∃ q, q = putP Q i s (min e0 4) := ⟨_, rfl⟩
          rw [← hq'] at Hs2 HO3 Hdone ⊢
          obtain ⟨Q2, done, er⟩ := q
          clear hb2 hO2 hbb a0 a1 a2 a3 b0 b1 b2 b3 x0 x1 x2 x3 hq' c0 c1'
          obtain ⟨a0, a1, a2, a3⟩ := two_cells HA3.out
          obtain ⟨x0, x1, x2, x3⟩ := two_cells HX3.out
          obtain ⟨p0, p1, p2, p3⟩ := two_cells HA2.out
          obtain ⟨q0, q1, q2, q3⟩ := two_cells HX2.out
          simp only at Hs2 HO3 Hdone ⊢
          by_cases her : er = 0
          · subst her
            cases done with
            | true =>
              have he4 := Hdone.out rfl
              go_wp2_with fail
              go_roundw
              case rel =>
                refine ⟨k + 1, _, Q2, A2, n2, c2, B2, m2, d2', by omega, by go_num, rfl, rfl, by omega, by omega, by rw [Hs2.out]; rfl, two_set HA3.out _ _, ?_, HO3.out.two HA3.out, two_by HB3.out (Nat.le_refl _) _ _⟩
                exact (Below.heap_setCell _ ⟨w.heap.size, 1, none⟩ _ (w.heap.size + 1) (by simp)).trans ((Below.heap_setCell _ ⟨w.heap.size, 0, none⟩ _ (w.heap.size + 1) (by simp)).trans HX3.out)
              case measure => simp [intOf]; omega
            | false =>
              go_wp2_with fail
              try simp only [Exit.inBlock, Exit.then, Exit.noGoto_ret]
              have hX4 := (Below.heap_setCell ((w2.alloc (.cells #[.slice A2 n2 c2, .slice B2 m2 d2'] 68)).setCell ⟨w.heap.size, 0, none⟩ (.slice A2 n2 c2)) ⟨w.heap.size, 1, none⟩ (.slice B2 m2 d2') (w.heap.size + 1) (by simp)).trans ((Below.heap_setCell (w2.alloc (.cells #[.slice A2 n2 c2, .slice B2 m2 d2'] 68)) ⟨w.heap.size, 0, none⟩ (.slice A2 n2 c2) (w.heap.size + 1) (by simp)).trans HX3.out)
              refine bodyPost_ret (res_cell_tmp rfl _ _ (w.heap.size + 1) (by rfl) _ (load_plat_new (two_set hX4 _ _))) rfl ?_
              rw [Hs2.out]
              exact ⟨_, rfl, ⟨_, _, _, _, _, _, rfl, (HO3.out.two HA3.out).two hX4⟩, two_by (two_by HB3.out (Nat.le_refl _) _ _) (by omega) _ _⟩
          · have d9 : (er != 0) = true := by simpa using her
            have Hne := Lib.hid her
            clear her
            go_wp2_with fail
            try simp only [Exit.inBlock, Exit.then, Exit.noGoto_ret]
            refine bodyPost_ret (res_cell_tmp rfl _ _ (w.heap.size + 1) (by rfl) _ (load_plat_new (cells_below (two_set HX2.out _ _) ((Below.refl _ _).alloc (Nat.le_refl _) _)))) rfl ?_
            have htw := two_by (w0 := w) (w := w2) HB2.out (show w.heap.size ≤ w.heap.size + 1 by omega) (.slice none 0 0) (.slice none 0 0)
            rw [Hs2.out, if_pos Hne.out]
            exact ⟨_, rfl, PlV.no _, htw.alloc htw.size _⟩
        · obtain rfl : k = N := by omega
          have hkk : ¬ (k : Int) < (k : Int) := by omega
          have HE := Lib.hid (show r = (Q, 0) by rw [HQ.out, List.drop_of_length_le (by rw [HN.out]; exact Nat.le_refl _)]; rfl)
          go_wp2_with fail
          try simp only [Exit.inBlock, Exit.then, Exit.noGoto_ret]
          refine bodyPost_ret (res_cell_tmp rfl _ _ (w.heap.size + 1) (by rfl) _ (load_plat_new (two_set HX1.out _ _))) rfl ?_
          rw [HE.out]
          exact ⟨_, rfl, ⟨_, _, _, _, _, _, rfl, HP1.out.two HX1.out⟩, two_by HB1.out (by omega) _ _⟩
    · have d1 : decide (deeds < 0) = false := by simpa using hneg
      have d2 : decide (4 * (N : Int) < deeds) = true := by simpa using hcs.resolve_left hneg
      clear hcs
      go_enter Tryz.func50, Tryz.ntmps50
      go_wp2_with fail
      go_step3
      go_wp2_with fail
      go_step3
      go_wp2_with fail
      go_loopw [1, 8, 28] (fun y z x wr => ∃ (k : Nat) (e : Int) (Q : Plat) (A1 : Option Addr) (n1 c1 : Nat) (B1 : Option Addr) (m1 d1 : Nat), k ≤ N ∧ x = .int .i64 (k : Nat) ∧ y = .int .i64 e ∧ z = .int .i64 0 ∧ 0 ≤ e ∧ e ≤ 4000 ∧ r = rowL (l.drop k) Q e ∧ wr.heap[w.heap.size]? = some (.cells #[.slice A1 n1 c1, .slice B1 m1 d1] 68 (0, 0)) ∧ wr.heap[w.heap.size + 1]? = some (.cells zP 68 (0, 0)) ∧ PB wr A1 n1 B1 m1 Q ∧ Below w.heap.size w wr) (fun _ _ x _ => N - (intOf x).toNat)
      case atStart => exact ⟨0, _, P, A, n, c, B, m, d, by omega, rfl, rfl, rfl, by omega, by omega, by rw [HR.out, Hd.out]; rfl, HA.out, HX.out, HP.out, HB.out⟩
      case round =>
        obtain ⟨k, e0, Q, A1, n1, c1, B1, m1, d1', hk, rfl, rfl, rfl, he0, he1, hrun, hA1, hX1, hP1, hB1⟩ := hrel
        have HA1 := Lib.hid hA1
        have HX1 := Lib.hid hX1
        have HP1 := Lib.hid hP1
        have HB1 := Lib.hid hB1
        have HQ := Lib.hid hrun
        obtain ⟨a0, a1, a2, a3⟩ := two_cells hA1
        obtain ⟨x0, x1, x2, x3⟩ := two_cells hX1
        have hlt1 := cell_lt_of hX1
        clear hA1 hX1 hP1 hB1 hrun
        by_cases hlt : k < N
        · have hkl : k < l.length := by rw [← HN.out]; omega
          obtain ⟨b, off, hDD, c0, c1'⟩ := puts_at (HD.out.below HB1.out) hkl
          subst hDD
          have hq := HL.out _ (List.getElem_mem hkl)
          have Hs := Lib.hid (show r = rowL (l[k] :: l.drop (k + 1)) Q e0 by rw [HQ.out, List.drop_eq_getElem_cons hkl])
          have hk1 : (k : Int) < (N : Int) := by omega
          generalize l[k] = q at c0 c1' hq Hs
          obtain ⟨i, s⟩ := q
          simp only at c0 c1' hq
          have hba := (Below.refl wr.heap.size wr).alloc (Nat.le_refl _) (.cells #[.int .i64 i, .string s] 104)
          replace HA1 := hblk_below HA1 hba
          replace HX1 := hblk_below HX1 hba
          replace HP1 := Lib.hid (HP1.out.below hba)
          replace HB1 := Lib.hid (HB1.out.trans (hba.mono HB1.out.size))
          clear hba
          obtain ⟨b0, b1, b2, b3⟩ := two_cells HA1.out
          go_wp2_with fail
          refine (put_any _ Q i (min e0 4) s _ ⟨_, _, _, _, _, _, rfl, HP1.out⟩ hq).mono ?_
          rintro e w2 ⟨v2, rfl, hv2, hb2⟩
          obtain ⟨A2, n2, c2, B2, m2, d2', rfl, hO2⟩ := hv2
          have HX2 := hblk_below HX1 hb2
          have HA2 := hblk_below HA1 hb2
          have HB2 := Lib.hid (HB1.out.trans (hb2.mono HB1.out.size))
          have hbb := (Below.refl w2.heap.size w2).alloc (Nat.le_refl _) (.cells #[.slice A2 n2 c2, .slice B2 m2 d2'] 68)
          have HX3 := hblk_below HX2 hbb
          have HA3 := hblk_below HA2 hbb
          have HO3 := Lib.hid (hO2.below hbb)
          have HB3 := Lib.hid (HB2.out.trans (hbb.mono HB2.out.size))
          have hlt2 := cell_lt_of HX2.out
          have Hdone := Lib.hid (fun h => put_done (P := Q) (a := i) (s := s) he0 h)
          have Hs2 := Lib.hid (show r = if (putP Q i s (min e0 4)).2.2 ≠ 0 then (noPlat, (putP Q i s (min e0 4)).2.2) else if (putP Q i s (min e0 4)).2.1 = true then rowL (l.drop (k + 1)) (putP Q i s (min e0 4)).1 (e0 - 4) else ((putP Q i s (min e0 4)).1, 230) by rw [Hs.out, rowL])
          obtain ⟨q, hq'⟩ : ∃ q, q = putP Q i s (min e0 4) := ⟨_, rfl⟩
          rw [← hq'] at Hs2 HO3 Hdone ⊢
          obtain ⟨Q2, done, er⟩ := q
          clear hb2 hO2 hbb a0 a1 a2 a3 b0 b1 b2 b3 x0 x1 x2 x3 hq' c0 c1'
          obtain ⟨a0, a1, a2, a3⟩ := two_cells HA3.out
          obtain ⟨x0, x1, x2, x3⟩ := two_cells HX3.out
          obtain ⟨p0, p1, p2, p3⟩ := two_cells HA2.out
          obtain ⟨q0, q1, q2, q3⟩ := two_cells HX2.out
          simp only at Hs2 HO3 Hdone ⊢
          by_cases her : er = 0
          · subst her
            cases done with
            | true =>
              have he4 := Hdone.out rfl
              go_wp2_with fail
              go_roundw
              case rel =>
                refine ⟨k + 1, _, Q2, A2, n2, c2, B2, m2, d2', by omega, by go_num, rfl, rfl, by omega, by omega, by rw [Hs2.out]; rfl, two_set HA3.out _ _, ?_, HO3.out.two HA3.out, two_by HB3.out (Nat.le_refl _) _ _⟩
                exact (Below.heap_setCell _ ⟨w.heap.size, 1, none⟩ _ (w.heap.size + 1) (by simp)).trans ((Below.heap_setCell _ ⟨w.heap.size, 0, none⟩ _ (w.heap.size + 1) (by simp)).trans HX3.out)
              case measure => simp [intOf]; omega
            | false =>
              go_wp2_with fail
              try simp only [Exit.inBlock, Exit.then, Exit.noGoto_ret]
              have hX4 := (Below.heap_setCell ((w2.alloc (.cells #[.slice A2 n2 c2, .slice B2 m2 d2'] 68)).setCell ⟨w.heap.size, 0, none⟩ (.slice A2 n2 c2)) ⟨w.heap.size, 1, none⟩ (.slice B2 m2 d2') (w.heap.size + 1) (by simp)).trans ((Below.heap_setCell (w2.alloc (.cells #[.slice A2 n2 c2, .slice B2 m2 d2'] 68)) ⟨w.heap.size, 0, none⟩ (.slice A2 n2 c2) (w.heap.size + 1) (by simp)).trans HX3.out)
              refine bodyPost_ret (res_cell_tmp rfl _ _ (w.heap.size + 1) (by rfl) _ (load_plat_new (two_set hX4 _ _))) rfl ?_
              rw [Hs2.out]
              exact ⟨_, rfl, ⟨_, _, _, _, _, _, rfl, (HO3.out.two HA3.out).two hX4⟩, two_by (two_by HB3.out (Nat.le_refl _) _ _) (by omega) _ _⟩
          · have d9 : (er != 0) = true := by simpa using her
            have Hne := Lib.hid her
            clear her
            go_wp2_with fail
            try simp only [Exit.inBlock, Exit.then, Exit.noGoto_ret]
            refine bodyPost_ret (res_cell_tmp rfl _ _ (w.heap.size + 1) (by rfl) _ (load_plat_new (cells_below (two_set HX2.out _ _) ((Below.refl _ _).alloc (Nat.le_refl _) _)))) rfl ?_
            have htw := two_by (w0 := w) (w := w2) HB2.out (show w.heap.size ≤ w.heap.size + 1 by omega) (.slice none 0 0) (.slice none 0 0)
            rw [Hs2.out, if_pos Hne.out]
            exact ⟨_, rfl, PlV.no _, htw.alloc htw.size _⟩
        · obtain rfl : k = N := by omega
          have hkk : ¬ (k : Int) < (k : Int) := by omega
          have HE := Lib.hid (show r = (Q, 0) by rw [HQ.out, List.drop_of_length_le (by rw [HN.out]; exact Nat.le_refl _)]; rfl)
          go_wp2_with fail
          try simp only [Exit.inBlock, Exit.then, Exit.noGoto_ret]
          refine bodyPost_ret (res_cell_tmp rfl _ _ (w.heap.size + 1) (by rfl) _ (load_plat_new (two_set HX1.out _ _))) rfl ?_
          rw [HE.out]
          exact ⟨_, rfl, ⟨_, _, _, _, _, _, rfl, HP1.out.two HX1.out⟩, two_by HB1.out (by omega) _ _⟩
  · have d1 : decide (deeds < 0) = false := by simpa using hc1
    have d2 : decide (4 * (N : Int) < deeds) = false := by simpa using hc2
    have Hd := Lib.hid hc3
    clear hc3
    go_enter Tryz.func50, Tryz.ntmps50
    go_wp2_with fail
    go_step3
    go_wp2_with fail
    go_step3
    go_wp2_with fail
    go_loopw [1, 8, 28] (fun y z x wr => ∃ (k : Nat) (e : Int) (Q : Plat) (A1 : Option Addr) (n1 c1 : Nat) (B1 : Option Addr) (m1 d1 : Nat), k ≤ N ∧ x = .int .i64 (k : Nat) ∧ y = .int .i64 e ∧ z = .int .i64 0 ∧ 0 ≤ e ∧ e ≤ 4000 ∧ r = rowL (l.drop k) Q e ∧ wr.heap[w.heap.size]? = some (.cells #[.slice A1 n1 c1, .slice B1 m1 d1] 68 (0, 0)) ∧ wr.heap[w.heap.size + 1]? = some (.cells zP 68 (0, 0)) ∧ PB wr A1 n1 B1 m1 Q ∧ Below w.heap.size w wr) (fun _ _ x _ => N - (intOf x).toNat)
    case atStart => exact ⟨0, _, P, A, n, c, B, m, d, by omega, rfl, rfl, rfl, by omega, by omega, by rw [HR.out, Hd.out]; rfl, HA.out, HX.out, HP.out, HB.out⟩
    case round =>
      obtain ⟨k, e0, Q, A1, n1, c1, B1, m1, d1', hk, rfl, rfl, rfl, he0, he1, hrun, hA1, hX1, hP1, hB1⟩ := hrel
      have HA1 := Lib.hid hA1
      have HX1 := Lib.hid hX1
      have HP1 := Lib.hid hP1
      have HB1 := Lib.hid hB1
      have HQ := Lib.hid hrun
      obtain ⟨a0, a1, a2, a3⟩ := two_cells hA1
      obtain ⟨x0, x1, x2, x3⟩ := two_cells hX1
      have hlt1 := cell_lt_of hX1
      clear hA1 hX1 hP1 hB1 hrun
      by_cases hlt : k < N
      · have hkl : k < l.length := by rw [← HN.out]; omega
        obtain ⟨b, off, hDD, c0, c1'⟩ := puts_at (HD.out.below HB1.out) hkl
        subst hDD
        have hq := HL.out _ (List.getElem_mem hkl)
        have Hs := Lib.hid (show r = rowL (l[k] :: l.drop (k + 1)) Q e0 by rw [HQ.out, List.drop_eq_getElem_cons hkl])
        have hk1 : (k : Int) < (N : Int) := by omega
        generalize l[k] = q at c0 c1' hq Hs
        obtain ⟨i, s⟩ := q
        simp only at c0 c1' hq
        have hba := (Below.refl wr.heap.size wr).alloc (Nat.le_refl _) (.cells #[.int .i64 i, .string s] 104)
        replace HA1 := hblk_below HA1 hba
        replace HX1 := hblk_below HX1 hba
        replace HP1 := Lib.hid (HP1.out.below hba)
        replace HB1 := Lib.hid (HB1.out.trans (hba.mono HB1.out.size))
        clear hba
        obtain ⟨b0, b1, b2, b3⟩ := two_cells HA1.out
        go_wp2_with fail
        refine (put_any _ Q i (min e0 4) s _ ⟨_, _, _, _, _, _, rfl, HP1.out⟩ hq).mono ?_
        rintro e w2 ⟨v2, rfl, hv2, hb2⟩
        obtain ⟨A2, n2, c2, B2, m2, d2', rfl, hO2⟩ := hv2
        have HX2 := hblk_below HX1 hb2
        have HA2 := hblk_below HA1 hb2
        have HB2 := Lib.hid (HB1.out.trans (hb2.mono HB1.out.size))
        have hbb := (Below.refl w2.heap.size w2).alloc (Nat.le_refl _) (.cells #[.slice A2 n2 c2, .slice B2 m2 d2'] 68)
        have HX3 := hblk_below HX2 hbb
        have HA3 := hblk_below HA2 hbb
        have HO3 := Lib.hid (hO2.below hbb)
        have HB3 := Lib.hid (HB2.out.trans (hbb.mono HB2.out.size))
        have hlt2 := cell_lt_of HX2.out
        have Hdone := Lib.hid (fun h => put_done (P := Q) (a := i) (s := s) he0 h)
        have Hs2 := Lib.hid (show r = if (putP Q i s (min e0 4)).2.2 ≠ 0 then (noPlat, (putP Q i s (min e0 4)).2.2) else if (putP Q i s (min e0 4)).2.1 = true then rowL (l.drop (k + 1)) (putP Q i s (min e0 4)).1 (e0 - 4) else ((putP Q i s (min e0 4)).1, 230) by rw [Hs.out, rowL])
        obtain ⟨q, hq'⟩ : ∃ q, q = putP Q i s (min e0 4) := ⟨_, rfl⟩
        rw [← hq'] at Hs2 HO3 Hdone ⊢
        obtain ⟨Q2, done, er⟩ := q
        clear hb2 hO2 hbb a0 a1 a2 a3 b0 b1 b2 b3 x0 x1 x2 x3 hq' c0 c1'
        obtain ⟨a0, a1, a2, a3⟩ := two_cells HA3.out
        obtain ⟨x0, x1, x2, x3⟩ := two_cells HX3.out
        obtain ⟨p0, p1, p2, p3⟩ := two_cells HA2.out
        obtain ⟨q0, q1, q2, q3⟩ := two_cells HX2.out
        simp only at Hs2 HO3 Hdone ⊢
        by_cases her : er = 0
        · subst her
          cases done with
          | true =>
            have he4 := Hdone.out rfl
            go_wp2_with fail
            go_roundw
            case rel =>
              refine ⟨k + 1, _, Q2, A2, n2, c2, B2, m2, d2', by omega, by go_num, rfl, rfl, by omega, by omega, by rw [Hs2.out]; rfl, two_set HA3.out _ _, ?_, HO3.out.two HA3.out, two_by HB3.out (Nat.le_refl _) _ _⟩
              exact (Below.heap_setCell _ ⟨w.heap.size, 1, none⟩ _ (w.heap.size + 1) (by simp)).trans ((Below.heap_setCell _ ⟨w.heap.size, 0, none⟩ _ (w.heap.size + 1) (by simp)).trans HX3.out)
            case measure => simp [intOf]; omega
          | false =>
            go_wp2_with fail
            try simp only [Exit.inBlock, Exit.then, Exit.noGoto_ret]
            have hX4 := (Below.heap_setCell ((w2.alloc (.cells #[.slice A2 n2 c2, .slice B2 m2 d2'] 68)).setCell ⟨w.heap.size, 0, none⟩ (.slice A2 n2 c2)) ⟨w.heap.size, 1, none⟩ (.slice B2 m2 d2') (w.heap.size + 1) (by simp)).trans ((Below.heap_setCell (w2.alloc (.cells #[.slice A2 n2 c2, .slice B2 m2 d2'] 68)) ⟨w.heap.size, 0, none⟩ (.slice A2 n2 c2) (w.heap.size + 1) (by simp)).trans HX3.out)
            refine bodyPost_ret (res_cell_tmp rfl _ _ (w.heap.size + 1) (by rfl) _ (load_plat_new (two_set hX4 _ _))) rfl ?_
            rw [Hs2.out]
            exact ⟨_, rfl, ⟨_, _, _, _, _, _, rfl, (HO3.out.two HA3.out).two hX4⟩, two_by (two_by HB3.out (Nat.le_refl _) _ _) (by omega) _ _⟩
        · have d9 : (er != 0) = true := by simpa using her
          have Hne := Lib.hid her
          clear her
          go_wp2_with fail
          try simp only [Exit.inBlock, Exit.then, Exit.noGoto_ret]
          refine bodyPost_ret (res_cell_tmp rfl _ _ (w.heap.size + 1) (by rfl) _ (load_plat_new (cells_below (two_set HX2.out _ _) ((Below.refl _ _).alloc (Nat.le_refl _) _)))) rfl ?_
          have htw := two_by (w0 := w) (w := w2) HB2.out (show w.heap.size ≤ w.heap.size + 1 by omega) (.slice none 0 0) (.slice none 0 0)
          rw [Hs2.out, if_pos Hne.out]
          exact ⟨_, rfl, PlV.no _, htw.alloc htw.size _⟩
      · obtain rfl : k = N := by omega
        have hkk : ¬ (k : Int) < (k : Int) := by omega
        have HE := Lib.hid (show r = (Q, 0) by rw [HQ.out, List.drop_of_length_le (by rw [HN.out]; exact Nat.le_refl _)]; rfl)
        go_wp2_with fail
        try simp only [Exit.inBlock, Exit.then, Exit.noGoto_ret]
        refine bodyPost_ret (res_cell_tmp rfl _ _ (w.heap.size + 1) (by rfl) _ (load_plat_new (two_set HX1.out _ _))) rfl ?_
        rw [HE.out]
        exact ⟨_, rfl, ⟨_, _, _, _, _, _, rfl, HP1.out.two HX1.out⟩, two_by HB1.out (by omega) _ _⟩
theorem row_any (v : Value) (D : Option Addr) (cd N : Nat) (deeds : Int) (P : Plat) (l : List PutP) (w : World) (h : PlV w v P) (hD : Rd w D (putsV l)) (hN : N = l.length) (hl : ∀ q ∈ l, q.1 ≤ 9223372036854775000) (hN4 : N ≤ 1000) (hcd : N ≤ cd) :
    Calls Tryz.prog 50 #[v, .int .i64 deeds, .slice D N cd] w (PlR w (rowP P deeds l)) := by
  obtain ⟨A, n, c, B, m, d, rfl, h⟩ := h
  exact row_at A B D n c m d cd N deeds _ P l _ w h hD hN hl hN4 hcd rfl (by rw [rowP, hN])

/- HoldS -/
open Go.RowKit
set_option linter.unusedVariables false
set_option maxRecDepth 100000
set_option maxHeartbeats 1000000
set_option linter.unusedSimpArgs false

theorem pad_big (n : Nat) (w : World) (hn : 1000000000 < n) : Calls Tryz.prog 63 #[.int .i64 (n : Nat)] w fun e w' => e = .returned (.tuple #[.string ⟨#[]⟩, .bool false]) ∧ w' = w := by
  have d1 : decide ((n : Int) < 0) = false := by simp
  have d2 : decide ((1000000000 : Int) < (n : Int)) = true := by simp; omega
  go_enter Tryz.func63, Tryz.ntmps63
  go_wp2_with fail
  go_ret2
  exact ⟨rfl, rfl⟩
theorem sum_big (s : ByteArray) (w : World) (hs : 1000000000 < s.size) : Calls Tryz.prog 33 #[.string s] w fun e w' => e = .returned (.string none0) ∧ Below w.heap.size w w' := by
  go_enter Tryz.func33, Tryz.ntmps33
  go_wp2_with fail
  refine (pad_big s.size _ hs).mono ?_
  rintro e w1 ⟨rfl, rfl⟩
  go_wp2_with fail
  go_ret
  exact ⟨rfl, Below.refl _ _⟩
/-- The Sum of any text. -/
def sumB (s : ByteArray) : ByteArray := if s.size ≤ 1000000000 then bs (sumL s.data.toList) else none0
theorem sumB_size (s : ByteArray) : (sumB s).size ≤ 32 := by
  unfold sumB
  split
  · rw [bs_size, sumL_len]; exact Nat.le_refl _
  · exact Nat.zero_le _
theorem dsum_any (s : ByteArray) (w : World) (hR : Rounds w) : Calls Tryz.prog 33 #[.string s] w fun e w' => e = .returned (.string (sumB s)) ∧ Below w.heap.size w w' := by
  by_cases h : s.size ≤ 1000000000
  · rw [sumB, if_pos h]; exact sum_any s w hR h
  · rw [sumB, if_neg h]; exact sum_big s w (by omega)
theorem text_dec (s t : ByteArray) : (s.toList == t.toList) = decide (s = t) := by
  by_cases h : s = t
  · rw [h, decide_eq_true rfl]; exact beq_self_eq_true _
  · rw [decide_eq_false h]; exact text_ne' h
theorem dsame_any (s t : ByteArray) (w : World) : Calls Tryz.prog 53 #[.string s, .string t] w fun e w' => e = .returned (.bool (decide (s = t))) ∧ w' = w := by
  have he := text_dec s t
  have HE := Lib.hid he
  clear he
  go_enter Tryz.func53, Tryz.ntmps53
  go_wp2_with fail
  go_ret
  exact ⟨ret_bool HE.out, rfl⟩
theorem hstart_any (s : ByteArray) (w : World) (hR : Rounds w) : Calls Tryz.prog 25 #[.string s] w (PlR w (startH (sumB s))) := by
  have hX := heap_alloc_new w (.cells zP 68)
  have b0 := (Below.refl w.heap.size w).alloc (Nat.le_refl _) (.cells zP 68)
  have HX := Lib.hid hX
  have HB := Lib.hid b0
  have HR := Lib.hid (hR.below b0)
  obtain ⟨sm, hsm⟩ : ∃ sm, sm = sumB s := ⟨_, rfl⟩
  have hss : sm.size ≤ 32 := by rw [hsm]; exact sumB_size s
  have Hsm := Lib.hid hsm
  rw [← hsm]
  obtain ⟨tx, htx⟩ : ∃ tx, tx = nowB (freshH sm) := ⟨_, rfl⟩
  have HNT : Hid (∀ W, Calls Tryz.prog 51 #[.agg #[.int .i64 0, .int .i64 0, .int .i64 0, .string ⟨#[]⟩, .string ⟨#[]⟩, .string sm, .int .i64 0, .int .i64 0, .string ⟨#[]⟩, .string ⟨#[]⟩]] W fun e w' => e = .returned (.string tx) ∧ Below W.heap.size W w') := Lib.hid fun W => by
    rw [htx]
    exact nowText_any (freshH sm) W (show wordB 0 = true by decide) (Nat.zero_le _) (Nat.zero_le _) (by show sm.size ≤ 100000; omega)
  have HE := Lib.hid (show startH sm = rowP (newP 6) (-1) [(0, tx)] by rw [htx]; rfl)
  clear hX b0 hsm htx hR
  go_enter Tryz.func25, Tryz.ntmps25
  go_wp2_with fail
  refine (new_any6 6 _ (by omega) (by omega)).mono ?_
  rintro e w1 ⟨v1, rfl, hv1, hb1⟩
  obtain ⟨A2, n2, c2, B2, m2, d2, rfl, hP1⟩ := hv1
  have hP1' : PB w1 A2 n2 B2 m2 (newP 6) := hP1
  have b1 := (Below.refl w1.heap.size w1).alloc (Nat.le_refl _) (.cells #[.slice A2 n2 c2, .slice B2 m2 d2] 68)
  replace HX := hblk_below (hblk_below HX hb1) b1
  have H4 := Lib.hid (heap_alloc_new w1 (.cells #[.slice A2 n2 c2, .slice B2 m2 d2] 68))
  replace HB := Lib.hid (HB.out.trans ((Below.chain hb1 b1).mono HB.out.size))
  replace HR := Lib.hid ((HR.out.below hb1).below b1)
  have HP := Lib.hid (hP1'.below b1)
  obtain ⟨x0, x1, _, _⟩ := two_cells H4.out
  have hne : w.heap.size ≠ w1.heap.size := by have := hb1.size; simp at this; omega
  obtain ⟨w2, hw2⟩ : ∃ w2, w2 = w1.alloc (.cells #[.slice A2 n2 c2, .slice B2 m2 d2] 68) := ⟨_, rfl⟩
  have Hw2 := Lib.hid hw2
  rw [← hw2] at HX H4 HB HR HP x0 x1
  clear hP1 hP1' hb1 b1 hw2
  go_wp2_with fail
  rw [← Hw2.out]
  go_region_held3 (fun w' => w'.cell? ⟨w1.heap.size, 0, none⟩ = some (.slice A2 n2 c2) ∧ w'.cell? ⟨w1.heap.size, 1, none⟩ = some (.slice B2 m2 d2))
    (first | assumption | exact ⟨x0, x1⟩ | exact keep2_below (by assumption) hb5' | exact keep2_alloc (by assumption) | exact keep2_below ⟨x0, x1⟩ (by assumption) | exact keep2_below (by assumption) (by assumption) | exact keep2_set (keep2_set (by assumption) (by simp [hne]) (by simp [hne])) (by simp [hne]) (by simp [hne]))
    (first
      | ((go_at_call 33; refine (dsum_any s _ (by exact HR.out)).mono ?_); rintro _ w3 ⟨rfl, hb3'⟩; rw [← Hsm.out]; have hb3 := Below.chain ((Below.refl _ w2).drew) hb3'; clear hb3'; replace HX := hblk_below HX hb3; replace HB := Lib.hid (HB.out.trans (hb3.mono HB.out.size)); replace HP := Lib.hid (HP.out.below hb3))
      | ((go_at_call 51; refine Calls.mono (HNT.out _) ?_); rintro _ w4 ⟨rfl, hb4⟩; replace HX := hblk_below HX hb4; replace HB := Lib.hid (HB.out.trans (hb4.mono HB.out.size)); replace HP := Lib.hid (HP.out.below hb4); have hba := (Below.refl w4.heap.size w4).alloc (Nat.le_refl _) (.cells #[.int .i64 0, .string tx] 104))
      | ((go_at_call 50; refine (row_any _ _ 1 1 (-1) (newP 6) [(0, tx)] _ ⟨_, _, _, _, _, _, rfl, HP.out.below hba⟩ (by exact rd_new' w4 _ _ _ rfl) rfl (by simp) (by omega) (by omega)).mono ?_); rintro _ w5 ⟨v5, rfl, hv5, hb5'⟩; have hb5 := Below.chain hba hb5'; replace HX := hblk_below HX hb5; replace HB := Lib.hid (HB.out.trans (hb5.mono HB.out.size)); rw [← HE.out] at hv5 ⊢; obtain ⟨A6, n6, c6, B6, m6, d6, rfl, hO6⟩ := hv5; obtain ⟨y0, y1, y2, y3⟩ := two_cells HX.out))
  go_wp2_with fail
  refine bodyPost_ret (res_cell_tmp rfl _ _ w.heap.size (by rfl) _ (load_plat_new (two_set HX.out _ _))) rfl ?_
  exact ⟨_, rfl, ⟨_, _, _, _, _, _, rfl, hO6.two HX.out⟩, two_by HB.out (Nat.le_refl _) _ _⟩

end Go.Proofs.YtkbjmmigjjdfpaaGreatDoor
