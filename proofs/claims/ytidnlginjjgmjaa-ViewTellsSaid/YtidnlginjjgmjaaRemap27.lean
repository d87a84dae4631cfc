/-
  Contract of keyholeref27.Remap: the document's answer is the program's.
-/
import Derived.Test.YtidnlginjjgmjaaRef09V
namespace Go.Proofs.Ytidnlginjjgmjaa
open Go.RowKit
set_option linter.unusedVariables false
set_option maxRecDepth 100000
set_option maxHeartbeats 2000000

theorem remap27_arg (s o t : ByteArray) (n k : Int) (A : Option Addr) (n2 c2 : Nat) (w : World) (h : o.size ≠ 32) :
    Calls Try.prog 16 #[.string s, .string o, .int .i64 n, .int .i64 k, .string t, .slice A n2 c2] w fun e w' => e = .returned (.tuple #[.string ⟨#[]⟩, .int .i64 1]) ∧ Below w.heap.size w w' := by
  have e1 : ((o.size : Int) != 32) = true := by simp; omega
  clear h
  go_enter Try.func16, Try.ntmps16
  go_wp2_with fail
  go_ret2
  exact ⟨rfl, Below.refl _ _⟩
theorem remap27_split (s o t : ByteArray) (n k : Int) (A : Option Addr) (n2 c2 : Nat) (w : World) (h : o.size = 32) (hs : splitOK s t n k = false) :
    Calls Try.prog 16 #[.string s, .string o, .int .i64 n, .int .i64 k, .string t, .slice A n2 c2] w fun e w' => e = .returned (.tuple #[.string ⟨#[]⟩, .int .i64 1]) ∧ Below w.heap.size w w' := by
  have e1 : ((o.size : Int) != 32) = false := by simp; omega
  have Hs := Lib.hid hs
  clear h hs
  go_enter Try.func16, Try.ntmps16
  go_wp2_with fail
  refine (split9_no s t n k _ Hs.out).mono ?_
  rintro e w1 ⟨rfl, hb⟩
  go_wp2_with fail
  go_ret2
  exact ⟨rfl, hb⟩

theorem remap27_yes' (R : Value) (s o t : ByteArray) (N m : Nat) (ws : List Bool) (A : Option Addr) (n2 c2 : Nat) (w : World) (ho : o.size = 32) (hs : s.size = 32) (ht : t.size = 32 * m) (hN : N ≤ 255) (hm : m + 1 ≤ N) (hr : Rd w A (bools ws)) (hn2 : n2 = ws.length) (hl2 : ws.length ≤ 1000) (hR : R = remapV s.data.toList o.data.toList t.data.toList N m ws) :
    Calls Try.prog 16 #[.string s, .string o, .int .i64 (N : Int), .int .i64 ((m + 1 : Nat) : Int), .string t, .slice A n2 c2] w fun e w' => e = .returned R ∧ Below w.heap.size w w' := by
  have e1 : ((o.size : Int) != 32) = false := by simp; omega
  have HRV := Lib.hid hR
  clear hR
  have Ho := Lib.hid ho
  have Hs := Lib.hid hs
  have Ht := Lib.hid ht
  have HR := Lib.hid hr
  have HN2 := Lib.hid hn2
  have hnl2 : n2 ≤ 1000 := by omega
  have hK := hasPos_len ws N
  obtain ⟨k, hk⟩ : ∃ k, k = m + 1 := ⟨_, rfl⟩
  rw [← hk]
  have Hk := Lib.hid hk
  have hkm : (k : Int) - 1 = (m : Int) := by omega
  have hk1 : k ≤ 255 := by omega
  have hmk : ¬ k = 0 := by omega
  clear ho hs ht hr hn2 hk
  go_enter Try.func16, Try.ntmps16
  go_wp2_with fail
  refine Calls.mono (Hk.out ▸ split9_yes s t N m w Hs.out Ht.out hN hm) ?_
  rintro e w1 ⟨B0, cap0, rfl, hos, hb1⟩
  have HOs := Lib.hid hos
  have HR1 := Lib.hid (HR.out.below hb1)
  clear hos
  go_wp2_with fail
  refine (shares27 (splitL s.data.toList t.data.toList N m) ws _ A N cap0 n2 c2 _ (own_rd HOs.out) (splitL_len _ _ _ _).symm (by rw [splitL_len]; omega) HR1.out HN2.out hl2).mono ?_
  rintro e w2 ⟨B, cap, rfl, _, hb2⟩
  have HOs2 := Lib.hid (own_keep HOs.out hb2)
  have HR2 := Lib.hid (HR1.out.below hb2)
  have hb02 := Below.chain hb1 hb2
  clear hb1 hb2 HOs HR1 HR
  generalize hKe : (hasPos ws N).length = K at hK ⊢
  have HKe := Lib.hid hKe
  clear hKe
  by_cases hc : m < K ∨ m = 0
  · have HC := Lib.hid hc
    by_cases hc1 : m < K
    · have d1 : decide ((m : Int) - (K : Int) < 0) = true := by simp; omega
      clear hc
      go_wp2_with fail
      go_ret2
      exact ⟨by rw [HRV.out, remapV, HKe.out, if_pos HC.out]; rfl, hb02⟩
    · have d1 : decide ((m : Int) - (K : Int) < 0) = false := by simp; omega
      have d2 : ((k : Int) == 1) = true := by simp; omega
      clear hc hc1
      go_wp2_with fail
      go_ret2
      exact ⟨by rw [HRV.out, remapV, HKe.out, if_pos HC.out]; rfl, hb02⟩
  · have HC := Lib.hid hc
    obtain ⟨hc1, hc2⟩ := not_or.1 hc
    obtain ⟨L, hL⟩ : ∃ L, L = m - K := ⟨_, rfl⟩
    have hLe : (m : Int) - (K : Int) = (L : Int) := by omega
    have d2 : ((k : Int) == 1) = false := by simp; omega
    have HL := Lib.hid hL
    clear hc hL
    have d1 : decide ((L : Int) < 0) = false := by simp
    go_wp2_with fail
    go_loopw [16, 17, 18] (fun lf v x wr => ∃ (i cap : Nat) (B : Option Addr), i ≤ N ∧ x = .int .i64 (i : Nat) ∧ lf = .int .i64 ((posTo ws L i).2 : Nat) ∧ v = .slice B (posTo ws L i).1.length cap ∧ wr.ownsRow w2.heap.size 45 2 v (posTo ws L i).1.length (sharesV (gets (splitL s.data.toList t.data.toList N m) (posTo ws L i).1)) ∧ Below w2.heap.size w2 wr) (fun _ _ x _ => N - (intOf x).toNat)
    case atStart => exact ⟨0, 0, none, by omega, rfl, rfl, rfl, ⟨rfl, .inl ⟨rfl, rfl⟩⟩, Below.refl _ _⟩
    case round =>
      obtain ⟨i, cap, B, hi, rfl, rfl, rfl, ho, hW⟩ := hrel
      have HO := Lib.hid ho
      have HW := Lib.hid hW
      by_cases hlt : i < N
      · have e1' : decide ((i : Int) < (N : Int)) = true := by simp; omega
        have hil : i < (splitL s.data.toList t.data.toList N m).length := by rw [splitL_len]; exact hlt
        obtain ⟨b, off, hA, c1, c2'⟩ := ((own_rd HOs2.out).below hW).shr hil
        subst hA
        have Hsn := Lib.hid (show posTo ws L (i + 1) = if ws.getD i false = true then ((posTo ws L i).1 ++ [i], (posTo ws L i).2) else if 0 < (posTo ws L i).2 then ((posTo ws L i).1 ++ [i], (posTo ws L i).2 - 1) else posTo ws L i from rfl)
        have Hgs := Lib.hid (gets_snoc (splitL s.data.toList t.data.toList N m) (posTo ws L i).1 i hil)
        obtain ⟨hpl, hfl⟩ := posTo_len ws L i
        generalize posTo ws L i = st at HO Hsn Hgs hpl hfl
        obtain ⟨ps, lf⟩ := st
        simp only at HO Hsn Hgs hpl hfl ⊢
        generalize (splitL s.data.toList t.data.toList N m)[i] = p at c1 c2' Hgs
        obtain ⟨x, bb⟩ := p
        simp only at c1 c2'
        have hp2 : ps.length ≤ 1000 := by omega
        clear ho hW
        by_cases hh : ws.getD i false = true
        · rw [if_pos hh] at Hsn
          have hin : i < n2 := by
            rcases Nat.lt_or_ge i n2 with h | h
            · exact h
            · have : ws.getD i false = false := by
                have h2 : ws.length ≤ i := by rw [← HN2.out]; exact h
                simp [h2]
              rw [this] at hh
              cases hh
          have e2 : decide ((i : Int) < (n2 : Int)) = true := by simp; omega
          obtain ⟨b2, off2, hA2, c3⟩ := (HR2.out.below HW.out) i (.bool (ws.getD i false)) (by have : i < ws.length := by rw [← HN2.out]; exact hin
                                                                                               simp [bools, this])
          subst hA2
          rw [hh] at c3
          clear hh
          go_wp2_with (at_builtin; refine wpList_append_new (by rfl) (.tmp 72) (.tmp 77) 27 (by rfl) w2.heap.size 45 (.agg #[.int .i64 0, .string ⟨#[]⟩]) 2 24 Try.underlying27 share_info rfl (by omega) wr _ _ _ _ _ (by rfl) HO.out _ 1 1 (by rfl) (by simp) (by rfl) (by rfl) (by omega) (by omega) (by omega) (by exact HW.out.size) ?_)
          intro g2 cap2 w4 ho4 hb4 _ _ _
          have HO4 := Lib.hid ho4
          have HW4 := Lib.hid (HW.out.trans hb4)
          clear ho4 hb4
          go_wp2_with fail
          go_roundw
          case rel =>
            refine ⟨i + 1, cap2, some ⟨g2, 0, none⟩, by omega, by go_num, by rw [Hsn.out], by rw [Hsn.out]; simp, ?_, HW4.out⟩
            rw [Hsn.out, Hgs.out, sharesV_append]
            simp only [List.length_append, List.length_cons, List.length_nil]
            exact HO4.out
          case measure => simp [intOf]; omega
        · rw [if_neg hh] at Hsn
          have hh' : ws.getD i false = false := by simpa using hh
          clear hh
          by_cases hin : i < n2
          · have e2 : decide ((i : Int) < (n2 : Int)) = true := by simp; omega
            obtain ⟨b2, off2, hA2, c3⟩ := (HR2.out.below HW.out) i (.bool (ws.getD i false)) (by have : i < ws.length := by rw [← HN2.out]; exact hin
                                                                                                 simp [bools, this])
            subst hA2
            rw [hh'] at c3
            clear hh'
            by_cases hf : 0 < lf
            · rw [if_pos hf] at Hsn
              have d3 : decide (0 < (lf : Int)) = true := by simp; omega
              go_wp2_with (at_builtin; refine wpList_append_new (by rfl) (.tmp 72) (.tmp 77) 27 (by rfl) w2.heap.size 45 (.agg #[.int .i64 0, .string ⟨#[]⟩]) 2 24 Try.underlying27 share_info rfl (by omega) wr _ _ _ _ _ (by rfl) HO.out _ 1 1 (by rfl) (by simp) (by rfl) (by rfl) (by omega) (by omega) (by omega) (by exact HW.out.size) ?_)
              intro g2 cap2 w4 ho4 hb4 _ _ _
              have HO4 := Lib.hid ho4
              have HW4 := Lib.hid (HW.out.trans hb4)
              clear ho4 hb4
              go_wp2_with fail
              go_roundw
              case rel =>
                refine ⟨i + 1, cap2, some ⟨g2, 0, none⟩, by omega, by go_num, by rw [Hsn.out]; simp only; congr 1; omega, by rw [Hsn.out]; simp, ?_, HW4.out⟩
                rw [Hsn.out, Hgs.out, sharesV_append]
                simp only [List.length_append, List.length_cons, List.length_nil]
                exact HO4.out
              case measure => simp [intOf]; omega
            · rw [if_neg hf] at Hsn
              obtain rfl : lf = 0 := by omega
              go_wp2_with fail
              go_roundw
              case rel => exact ⟨i + 1, cap, B, by omega, by go_num, by rw [Hsn.out], by rw [Hsn.out], by rw [Hsn.out]; exact HO.out, HW.out⟩
              case measure => simp [intOf]; omega
          · have e2 : decide ((i : Int) < (n2 : Int)) = false := by simp; omega
            clear hh'
            by_cases hf : 0 < lf
            · rw [if_pos hf] at Hsn
              have d3 : decide (0 < (lf : Int)) = true := by simp; omega
              go_wp2_with (at_builtin; refine wpList_append_new (by rfl) (.tmp 72) (.tmp 77) 27 (by rfl) w2.heap.size 45 (.agg #[.int .i64 0, .string ⟨#[]⟩]) 2 24 Try.underlying27 share_info rfl (by omega) wr _ _ _ _ _ (by rfl) HO.out _ 1 1 (by rfl) (by simp) (by rfl) (by rfl) (by omega) (by omega) (by omega) (by exact HW.out.size) ?_)
              intro g2 cap2 w4 ho4 hb4 _ _ _
              have HO4 := Lib.hid ho4
              have HW4 := Lib.hid (HW.out.trans hb4)
              clear ho4 hb4
              go_wp2_with fail
              go_roundw
              case rel =>
                refine ⟨i + 1, cap2, some ⟨g2, 0, none⟩, by omega, by go_num, by rw [Hsn.out]; simp only; congr 1; omega, by rw [Hsn.out]; simp, ?_, HW4.out⟩
                rw [Hsn.out, Hgs.out, sharesV_append]
                simp only [List.length_append, List.length_cons, List.length_nil]
                exact HO4.out
              case measure => simp [intOf]; omega
            · rw [if_neg hf] at Hsn
              obtain rfl : lf = 0 := by omega
              go_wp2_with fail
              go_roundw
              case rel => exact ⟨i + 1, cap, B, by omega, by go_num, by rw [Hsn.out], by rw [Hsn.out], by rw [Hsn.out]; exact HO.out, HW.out⟩
              case measure => simp [intOf]; omega
      · obtain rfl : i = N := by omega
        obtain ⟨q1, q2, _⟩ := posTo_count ws L i
        have q3 := posTo_lt ws L i
        have q4 := posTo_nodup ws L i
        have hlm : (posTo ws L i).1.length = m := by
          have := HKe.out
          have h3 := HL.out
          rcases Nat.eq_zero_or_pos (posTo ws L i).2 with h | h
          · omega
          · have := q2 h
            omega
        have Hright := Lib.hid (kept_right s.data.toList t.data.toList i m _ q3 q4 hN (by omega) (by omega))
        have Hgl := Lib.hid (gets_len (splitL s.data.toList t.data.toList i m) (posTo ws L i).1)
        rw [hlm] at Hgl HO ⊢
        have HRV2 := Lib.hid (show R = .tuple #[.string (bs (tapeOut o.data.toList (gets (splitL s.data.toList t.data.toList i m) (posTo ws L i).1))), .int .i64 0] by
          rw [HRV.out, remapV, HKe.out, if_neg HC.out, HL.out])
        generalize gets (splitL s.data.toList t.data.toList i m) (posTo ws L i).1 = kept at Hright Hgl HO HRV2
        clear q1 q2 q3 q4 hlm ho hW
        go_wp2_with fail
        refine (tape9 o kept B m cap _ Ho.out (own_rd HO.out) Hgl.out.symm Hright.out (by rw [Hgl.out]; omega)).mono ?_
        rintro e w3 ⟨rfl, hb3⟩
        have hb03 := Below.chain hb02 (Below.chain HW.out hb3)
        go_wp2_with fail
        go_ret2
        exact ⟨by rw [HRV2.out]; rfl, hb03⟩
theorem remap27_yes (s o t : ByteArray) (N m : Nat) (ws : List Bool) (A : Option Addr) (n2 c2 : Nat) (w : World) (ho : o.size = 32) (hs : s.size = 32) (ht : t.size = 32 * m) (hN : N ≤ 255) (hm : m + 1 ≤ N) (hr : Rd w A (bools ws)) (hn2 : n2 = ws.length) (hl2 : ws.length ≤ 1000) :
    Calls Try.prog 16 #[.string s, .string o, .int .i64 (N : Int), .int .i64 ((m + 1 : Nat) : Int), .string t, .slice A n2 c2] w fun e w' => e = .returned (remapV s.data.toList o.data.toList t.data.toList N m ws) ∧ Below w.heap.size w w' :=
  remap27_yes' _ s o t N m ws A n2 c2 w ho hs ht hN hm hr hn2 hl2 rfl
end Go.Proofs.Ytidnlginjjgmjaa
