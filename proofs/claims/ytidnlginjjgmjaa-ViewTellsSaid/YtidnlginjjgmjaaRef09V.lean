/-
  Contract of keyholeref09.Tape: the document's tape is tapeOut.
-/
import Derived.Test.YtidnlginjjgmjaaRef09U
namespace Go.Proofs.Ytidnlginjjgmjaa
open Go.RowKit
set_option linter.unusedVariables false
set_option maxRecDepth 100000
set_option maxHeartbeats 2000000

theorem bytesV_set (l : List UInt8) (i : Nat) (x : UInt8) : bytesV (l.set i x) = (bytesV l).set i (.int .u8 (x.toNat : Nat)) := by simp [bytesV]
theorem bytesV_get (l : List UInt8) (i : Nat) (h : i < l.length) : (bytesV l)[i]? = some (.int .u8 ((l.getD i 0).toNat : Nat)) := by simp [bytesV, h]
theorem made_bytes (n : Nat) : (madeCells #[.int .u8 0] n).toList = bytesV (List.replicate n 0) := by
  apply List.ext_getElem
  · simp [madeCells, bytesV]
  · intro p h1 h2
    simp [madeCells, bytesV, Nat.mod_one]
theorem wrap_i64_u8 (x : UInt8) : IntKind.i64.wrap (x.toNat : Int) = (x.toNat : Int) := by
  have := x.toNat_lt
  exact IntWalk.i64_in _ (by omega)
theorem wrap_u8_u8 (x : UInt8) : IntKind.u8.wrap (x.toNat : Int) = (x.toNat : Int) := by
  have := x.toNat_lt
  exact IntWalk.u8_in _ (by omega)
theorem all_ys (s : ByteArray) (l : List Shr) (i j : Nat) (hi : i < ((0, s) :: l : List Shr).length) : (((0, s) :: l : List Shr)[i]).2.data.toList.getD j 0 = (s.data.toList.getD j 0 :: ysOf l j).getD i 0 := by
  cases i with
  | zero => rfl
  | succ i =>
    have hi' : i < l.length := by simpa using hi
    simp [ysOf, hi']
theorem all_xs (s : ByteArray) (l : List Shr) (h : l.map Prod.fst = nums (xsOf l)) : ((0, s) :: l : List Shr).map Prod.fst = nums (0 :: xsOf l) := by
  rw [List.map_cons, h]
  rfl
theorem all_size (s : ByteArray) (l : List Shr) (hs : s.size = 32) (h : ∀ p ∈ l, p.2.size = 32) (i : Nat) (hi : i < ((0, s) :: l : List Shr).length) : (((0, s) :: l : List Shr)[i]).2.size = 32 := by
  have := List.getElem_mem hi
  rcases List.mem_cons.1 this with e | e
  · rw [e]; exact hs
  · exact h _ e
theorem xs_apart (xs : List UInt8) (hn : xs.Nodup) (h0 : (0 : UInt8) ∉ xs) (i k : Nat) (hi : i < xs.length + 1) (hk : k < xs.length + 1) (hne : k ≠ i) : (0 :: xs).getD i 0 ≠ (0 :: xs).getD k 0 := by
  have hd : (0 :: xs).Nodup := List.nodup_cons.2 ⟨h0, hn⟩
  rw [getD_at _ _ (by simpa using hi), getD_at _ _ (by simpa using hk)]
  have hp := List.pairwise_iff_getElem.1 hd
  intro e
  rcases Nat.lt_or_gt_of_ne hne with c | c
  · exact hp k i (by simpa using hk) (by simpa using hi) c e.symm
  · exact hp i k (by simpa using hi) (by simpa using hk) c e

theorem tape9 (s : ByteArray) (l : List Shr) (A : Option Addr) (n c : Nat) (w : World) (hs : s.size = 32) (hr : Rd w A (sharesV l)) (hn : n = l.length) (h : rightB l 1 = true) (hl : l.length < 255) :
    Calls Try.prog 31 #[.string s, .slice A n c] w fun e w' => e = .returned (.tuple #[.string (bs (tapeOut s.data.toList l)), .int .i64 0]) ∧ Below w.heap.size w w' := by
  obtain ⟨r1, r2, r3, r4, r5, r6⟩ := right_digits h (by omega)
  have r6 := r6 (by omega)
  have HT := Lib.hid (tapeTo_all s.data.toList l r3 r6)
  have HX := Lib.hid (all_xs s l r1)
  have HZ := Lib.hid (all_size s l hs r2)
  have HD := Lib.hid (xs_apart (xsOf l) r3 r6)
  have HR := Lib.hid hr
  have HN := Lib.hid hn
  have HH := Lib.hid h
  have hn1 : 1 ≤ n := by omega
  have hn2 : n < 255 := by omega
  obtain ⟨b, off, hA, z1, z2⟩ := hr.shr (i := 0) (by omega)
  subst hA
  have e1 : ((s.size : Int) != 32) = false := by simp; omega
  have e2 : decide ((255 : Int) ≤ (n : Int)) = false := by simp; omega
  have Hs := Lib.hid hs
  clear z1 z2 hr hn h r1 r2 r3 r4 r5 r6 hs
  go_enter Try.func31, Try.ntmps31
  go_wp2_with fail
  refine (right9 l _ n c _ HR.out HN.out HH.out).mono ?_
  rintro e w1 ⟨rfl, hb1⟩
  go_wp2_with fail
  refine (zero9 l _ n c _ (HR.out.below hb1) HN.out HH.out).mono ?_
  rintro e w2 ⟨rfl, rfl⟩
  have HO1 := Lib.hid (own_new (w := w2) (B := w2.heap.size) (e := 45) (size := 2) (n := 1) (cs := #[.int .i64 0, .string s]) (Nat.le_refl _) rfl (by decide))
  have HR1 := Lib.hid ((HR.out.below hb1).below ((Below.refl _ _).alloc (Nat.le_refl _) (.cells #[.int .i64 0, .string s] 45)))
  go_wp2_with (at_builtin; refine wpList_append_from (by rfl) (.tmp 32) (.tmp 33) 27 (by rfl) w2.heap.size 45 (.agg #[.int .i64 0, .string ⟨#[]⟩]) 2 24 Try.underlying27 share_info rfl (by omega) (w2.alloc (.cells #[.int .i64 0, .string s] 45)) (sharesV l) _ 1 _ (by rfl) HO1.out ⟨b, off, none⟩ n c (by rfl) (by exact HR1.out) (by rw [sharesV_len, HN.out]) (sharesV_one l) (by omega) (by omega) (by omega) (by simp) ?_)
  intro g3 cap3 w3 ho3 hb3 _ _ _
  obtain ⟨M, hM⟩ : ∃ M, M = 1 + n := ⟨_, rfl⟩
  rw [← hM] at ho3 ⊢
  have HO3 := Lib.hid (show w3.ownsRow w2.heap.size 45 2 (.slice (some ⟨g3, 0, none⟩) M cap3) M (sharesV ((0, s) :: l)) from ho3)
  have HW3 := Lib.hid (Below.chain hb1 (((Below.refl w2.heap.size w2).alloc (Nat.le_refl _) _).trans hb3))
  have HM := Lib.hid (show M = ((0, s) :: l : List Shr).length by rw [hM, HN.out, List.length_cons, Nat.add_comm])
  have hM2 : M ≤ 255 := by omega
  have HMn := Lib.hid (show M = n + 1 by omega)
  clear ho3 hb3 hM HO1 HR1 hb1
  go_wp2_with fail
  refine (places9 ((0, s) :: l) _ M cap3 _ (own_rd HO3.out) HM.out (by rw [← HM.out]; omega)).mono ?_
  rintro e w4 ⟨B4, cap4, rfl, ho4, hb4⟩
  rw [HX.out] at ho4
  have HO34 := Lib.hid (own_keep HO3.out hb4)
  have HO4 := Lib.hid ho4
  have HW4 := Lib.hid (Below.chain HW3.out hb4)
  obtain ⟨N8, hN8⟩ : ∃ N8, N8 = 32 * n := ⟨_, rfl⟩
  have hN8e : 32 * (n : Int) = (N8 : Int) := by omega
  have hN8b : N8 ≤ 10000 := by omega
  have HN8 := Lib.hid hN8
  obtain ⟨iI, hI0, hI1, hI2, hI3⟩ := info_parts uint8_info
  clear ho4 hb4 HO3 HW3 hN8 e1 e2
  go_wp2_with (refine wpList_make_full _ (by rfl) (.tmp 39) (.tmp 39) 68 (by rfl) w4.heap.size 5 iI (.int .u8 0) 1 Try.underlying68 hI0 hI1 hI2 .i64 .i64 _ _ N8 (by rfl) (by rfl) rfl rfl (by rw [hI3]; omega) (by unfold maxLen; omega) (by omega) ?_)
  intro w5 ho5 hg5
  try simp only [Nat.mul_one] at ho5
  rw [made_bytes, HN8.out, HN.out, ← tapeTo_zero s.data.toList l, ← HN.out, ← HN8.out] at ho5
  have HO5 := Lib.hid ho5
  have HW5 := Lib.hid (below_grown hg5 (Nat.le_refl _))
  clear ho5 hg5 hN8e hI0 hI1 hI2 hI3
  go_wp2_with fail
  go_loopw [9] (fun x wr => ∃ i : Nat, i ≤ M ∧ x = .int .i64 (i : Nat) ∧ wr.ownsRow w4.heap.size 5 1 (.slice (some ⟨w4.heap.size, 0, none⟩) N8 N8) N8 (bytesV (tapeTo s.data.toList l i 0 1)) ∧ Below w4.heap.size w4 wr) (fun x _ => M - (intOf x).toNat)
  case atStart => exact ⟨0, by omega, rfl, HO5.out, HW5.out⟩
  case round =>
    clear HO5 HW5
    obtain ⟨i, hi, rfl, ho, hW⟩ := hrel
    by_cases hlt : i < M
    · have hiM : (i : Int) < (M : Int) := by omega
      have HO := Lib.hid ho
      have HW := Lib.hid hW
      clear ho hW
      go_wp2_with fail
      refine (basis9 (0 :: xsOf l) i _ M cap4 _ ((own_rd HO4.out).below HW.out) (by rw [HMn.out, HN.out]; simp [xsOf]) (by have := HMn.out; have := HN.out; simp [xsOf]; omega) hlt (fun k hk hne => HD.out i k (by rw [show (xsOf l).length = n by simp [xsOf, HN.out], ← HMn.out]; exact hlt) (by rw [show (xsOf l).length = n by simp [xsOf, HN.out], ← HMn.out]; exact hk) hne)).mono ?_
      rintro e w6 ⟨G6, cap6, rfl, ho6, hb6⟩
      have hlt8 : w4.heap.size < wr.heap.size := by
        rcases HO.out.2 with ⟨e1, _⟩ | ⟨g1, _, _, e1, _, hg, _⟩
        · cases e1
        · injection e1 with e1
          injection e1 with e1
          injection e1 with e1
          rw [e1]
          exact cell_lt_of hg
      obtain ⟨B0, hB0⟩ : ∃ B0, B0 = wr.heap.size := ⟨_, rfl⟩
      rw [← hB0] at ho6 hlt8
      have HO6 := Lib.hid ho6
      have HO8 := Lib.hid (own_keep HO.out hb6)
      have HW6 := Lib.hid (Below.chain HW.out hb6)
      have Hbl := Lib.hid (show (basisTo (0 :: xsOf l) i M).length = M by rw [basis_len, basisN, if_pos hlt])
      have Hstep : Hid (∀ p, p < 32 * l.length → accR s.data.toList l (i + 1) p = accR s.data.toList l i p ^^^ gm ((basisTo (0 :: xsOf l) i M).getD (p / 32 + 1) 0) ((s.data.toList.getD (p % 32) 0 :: ysOf l (p % 32)).getD i 0)) := Lib.hid fun p hp => by
        have := accR_step s.data.toList l i p (by rw [← HN.out, ← HMn.out]; exact hlt) hp
        rw [← HN.out, ← HMn.out] at this
        exact this
      generalize basisTo (0 :: xsOf l) i M = bas at HO6 Hbl Hstep
      clear ho6 hb6 HO HW hB0
      go_wp2_with fail
      go_loopw [11] (fun x wj => ∃ j : Nat, j ≤ 32 ∧ x = .int .i64 (j : Nat) ∧ wj.ownsRow w4.heap.size 5 1 (.slice (some ⟨w4.heap.size, 0, none⟩) N8 N8) N8 (bytesV (tapeTo s.data.toList l i j 1)) ∧ wj.ownsRow B0 3 1 (.slice (some ⟨G6, 0, none⟩) M cap6) M (ints (nums bas)) ∧ Below w4.heap.size w4 wj) (fun x _ => 32 - (intOf x).toNat)
      case atStart => exact ⟨0, by omega, rfl, HO8.out, HO6.out, HW6.out⟩
      case round =>
        clear HO8 HO6 HW6
        obtain ⟨j, hj, rfl, ho8, ho6, hW6⟩ := hrel
        by_cases hlt2 : j < 32
        · have HO8 := Lib.hid ho8
          have HO6 := Lib.hid ho6
          have HW6 := Lib.hid hW6
          have d51 : decide ((j : Int) < 32) = true := by simp; omega
          clear ho8 ho6 hW6
          go_wp2_with fail
          clear d51
          go_loopw [12] (fun x wj => ∃ e : Nat, e ≤ n ∧ x = .int .i64 ((e + 1 : Nat) : Int) ∧ wj.ownsRow w4.heap.size 5 1 (.slice (some ⟨w4.heap.size, 0, none⟩) N8 N8) N8 (bytesV (tapeTo s.data.toList l i j (e + 1))) ∧ wj.ownsRow B0 3 1 (.slice (some ⟨G6, 0, none⟩) M cap6) M (ints (nums bas)) ∧ Below w4.heap.size w4 wj) (fun x _ => n + 1 - (intOf x).toNat)
          case atStart => exact ⟨0, by omega, rfl, HO8.out, HO6.out, HW6.out⟩
          case round =>
            clear HO8 HO6 HW6
            obtain ⟨d, hd, rfl, ho8, ho6, hW6⟩ := hrel
            have hMn := HMn.out
            by_cases hlt3 : d < n
            · have hdM : ((d + 1 : Nat) : Int) < (M : Int) := by omega
              have hdM2 : (d : Int) + 1 < (M : Int) := by omega
              obtain ⟨P, hP⟩ : ∃ P, P = 32 * d + j := ⟨_, rfl⟩
              have hPe : 32 * (((d + 1 : Nat) : Int) - 1) + (j : Int) = (P : Int) := by omega
              have hPe2 : 32 * (d : Int) + (j : Int) = (P : Int) := by omega
              have hP8 : P < N8 := by have := HN8.out; omega
              have hP8i : (P : Int) < (N8 : Int) := by omega
              have hPl : P < 32 * l.length := by have := HN8.out; have := HN.out; omega
              have hdl : d < l.length := by have := HN.out; omega
              have hb20 := Hstep.out P hPl
              rw [show P % 32 = j by omega, show P / 32 = d by omega] at hb20
              have g1 := tapeTo_at s.data.toList l i j d hlt2 hdl
              have Hset := Lib.hid (tapeTo_set s.data.toList l i j d hlt2 hdl)
              have hil : i < ((0, s) :: l : List Shr).length := by rw [← HM.out]; exact hlt
              have Hall := Lib.hid (all_ys s l i j hil)
              have hsz := HZ.out i hil
              have c20 := (shr_at ((own_rd HO34.out).below hW6) hil).2
              rw [Nat.zero_add] at c20
              generalize ((0, s) :: l : List Shr)[i] = pp at hsz Hall c20
              obtain ⟨px, bb⟩ := pp
              simp only at hsz Hall c20
              rw [← Hall.out] at hb20
              rw [← hP] at g1 Hset
              rw [hb20] at Hset
              generalize accR s.data.toList l i P = u at g1 Hset
              obtain ⟨c8, f8⟩ := own_cell ho8 (i := P) hP8 (bytesV_get _ _ (by rw [tapeTo_len]; exact hPl))
              rw [g1] at c8
              obtain ⟨c6, f6⟩ := own_cell ho6 (i := d + 1) (by omega) (nums_get _ _ (by rw [Hbl.out]; omega))
              generalize bas.getD (d + 1) 0 = bd at c6 Hset
              have hx := str_at bb j (by rw [hsz]; exact hlt2)
              have Hx := Lib.hid hx
              obtain ⟨yy, hyy⟩ : ∃ yy, yy = bb.data.toList.getD j 0 := ⟨_, rfl⟩
              rw [← hyy] at Hset hx
              have hjb : (j : Int) < (bb.size : Int) := by omega
              have ho9 := own_put ho8 P (.int .u8 ((u ^^^ gm bd yy).toNat : Nat))
              rw [← bytesV_set, Hset.out] at ho9
              have HO9 := Lib.hid ho9
              have HO6' := Lib.hid (own_set_other ho6 ⟨w4.heap.size, P, none⟩ (.int .u8 ((u ^^^ gm bd yy).toNat : Nat)) hlt8)
              have HW6' := Lib.hid (hW6.setCell (p := ⟨w4.heap.size, P, none⟩) (Nat.le_refl _) (.int .u8 ((u ^^^ gm bd yy).toNat : Nat)))
              have hwu := wrap_i64_u8 u
              have hwy := wrap_i64_u8 yy
              have hwz := wrap_u8_u8 (u ^^^ gm bd yy)
              have HMn' := Lib.hid hMn
              have HPe := Lib.hid hP
              have h01 : (0 : Int) ≤ (d : Int) + 1 := by omega
              have hj32 : (j : Int) < 32 := by omega
              clear ho9 ho8 ho6 hW6 Hset g1 hb20 hyy Hx Hall hP f6 hMn
              go_wp2_with fail
              go_still_tail 23, (by kernel_rfl)
              still_call (times7 bd yy _)
              repeat still_step
              still_call (sum7 u (gm bd yy) _)
              generalize u ^^^ gm bd yy = z at HO9 HO6' HW6' hwz ⊢
              repeat still_step
              try refine wpStill_nil ?_
              change wpList _ _ _ _ _ wr.drew
              clear hwu hwy
              go_wp2_with fail
              go_roundw
              case rel => exact ⟨d + 1, by omega, by go_num, HO9.out, HO6'.out, HW6'.out.drew⟩
              case measure => simp [intOf]; omega
            · obtain rfl : d = n := by omega
              have hdM : ¬ ((d + 1 : Nat) : Int) < (M : Int) := by omega
              have hdM2 : ¬ (d : Int) + 1 < (M : Int) := by omega
              have HO8 := Lib.hid ho8
              have HO6 := Lib.hid ho6
              have HW6 := Lib.hid hW6
              have HE := Lib.hid (tapeTo_row s.data.toList l i j)
              rw [HN.out, HE.out] at HO8
              clear ho8 ho6 hW6
              go_wp2_with fail
              go_roundw
              case rel => exact ⟨j + 1, by omega, by go_num, HO8.out, HO6.out, HW6.out⟩
              case measure => simp [intOf]; omega
        · obtain rfl : j = 32 := by omega
          have HO8 := Lib.hid ho8
          rw [tapeTo_share] at HO8
          clear ho8 ho6
          go_wp2_with fail
          go_roundw
          case rel => exact ⟨i + 1, by omega, by go_num, HO8.out, hW6⟩
          case measure => simp [intOf]; omega
    · obtain rfl : i = M := by omega
      have HE : Hid (tapeTo s.data.toList l i 0 1 = tapeOut s.data.toList l) := Lib.hid (by rw [HMn.out, HN.out]; exact HT.out)
      rw [HE.out] at ho
      have hcv := conv_rd (own_rd ho) N8 N8 (by rw [HN8.out, HN.out]; simp [tapeOut, Nat.mul_comm])
      have HB := Lib.hid (Below.chain HW4.out hW)
      clear ho hW
      go_wp2_with fail
      go_ret2
      exact ⟨rfl, HB.out⟩
end Go.Proofs.Ytidnlginjjgmjaa
