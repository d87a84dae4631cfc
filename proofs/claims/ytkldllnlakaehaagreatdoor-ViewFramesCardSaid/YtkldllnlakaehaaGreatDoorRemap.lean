/-
  Contract of view.Remap.
-/
import Derived.Test.YtkldllnlakaehaaGreatDoorView
namespace Go.Proofs.YtkldllnlakaehaaGreatDoor
open Go.RowKit
set_option linter.unusedVariables false
set_option maxRecDepth 100000
set_option maxHeartbeats 2000000

/-- The places kept, i looked at; and how many more may be. -/
def posTo (ws : List Bool) (L : Nat) : Nat → List Nat × Nat
  | 0 => ([], L)
  | i + 1 => if ws.getD i false = true then ((posTo ws L i).1 ++ [i], (posTo ws L i).2) else if 0 < (posTo ws L i).2 then ((posTo ws L i).1 ++ [i], (posTo ws L i).2 - 1) else posTo ws L i
theorem posTo_lt (ws : List Bool) (L : Nat) : ∀ i, ∀ j ∈ (posTo ws L i).1, j < i
  | 0, j, h => by simp [posTo] at h
  | i + 1, j, h => by
    rw [posTo] at h
    have ih := posTo_lt ws L i j
    split at h
    · simp at h
      rcases h with h | h
      · have := ih h; omega
      · omega
    · split at h
      · simp at h
        rcases h with h | h
        · have := ih h; omega
        · omega
      · have := ih h; omega
theorem posTo_nodup (ws : List Bool) (L : Nat) : ∀ i, (posTo ws L i).1.Nodup
  | 0 => by simp [posTo]
  | i + 1 => by
    have ih := posTo_nodup ws L i
    have h2 := posTo_lt ws L i
    have key : ((posTo ws L i).1 ++ [i]).Nodup := by
      rw [List.nodup_append]
      refine ⟨ih, by simp, fun a ha b hb => ?_⟩
      simp at hb
      have := h2 a ha
      omega
    rw [posTo]
    split
    · exact key
    · split
      · exact key
      · exact ih
theorem posTo_count (ws : List Bool) (L : Nat) : ∀ i, (posTo ws L i).1.length + (posTo ws L i).2 = (hasPos ws i).length + L ∧ (0 < (posTo ws L i).2 → (posTo ws L i).1.length = i) ∧ ∀ j ∈ hasPos ws i, j ∈ (posTo ws L i).1
  | 0 => by simp [posTo, hasPos]
  | i + 1 => by
    obtain ⟨h1, h2, h3⟩ := posTo_count ws L i
    rw [posTo, hasPos_succ]
    by_cases hh : ws.getD i false = true
    · rw [if_pos hh, if_pos hh]
      simp only [List.length_append, List.length_cons, List.length_nil, List.mem_append, List.mem_singleton]
      refine ⟨by omega, fun h => by have := h2 h; omega, fun j hj => hj.imp (h3 j) id⟩
    · rw [if_neg hh, if_neg hh, List.append_nil]
      by_cases hl : 0 < (posTo ws L i).2
      · rw [if_pos hl]
        simp only [List.length_append, List.length_cons, List.length_nil, List.mem_append, List.mem_singleton]
        have := h2 hl
        exact ⟨by omega, fun h => by omega, fun j hj => .inl (h3 j hj)⟩
      · rw [if_neg hl]
        exact ⟨h1, fun h => absurd h hl, h3⟩

theorem posTo_len (ws : List Bool) (L : Nat) : ∀ i, (posTo ws L i).1.length ≤ i ∧ (posTo ws L i).2 ≤ L
  | 0 => by simp [posTo]
  | i + 1 => by
    obtain ⟨h1, h2⟩ := posTo_len ws L i
    rw [posTo]
    split
    · simp; omega
    · split
      · simp; omega
      · exact ⟨by omega, h2⟩
/-- What is kept is right shares. -/
theorem splitL_at (s t : List UInt8) (N m i : Nat) (h : i < N) : (splitL s t N m).getD i (0, ⟨#[]⟩) = (((i + 1 : Nat) : Int), bs (shareL s t m i)) := by simp [splitL, h]
theorem splitL_len (s t : List UInt8) (N m : Nat) : (splitL s t N m).length = N := by simp [splitL]
theorem kept_right (s t : List UInt8) (N m : Nat) (ps : List Nat) (hlt : ∀ j ∈ ps, j < N) (hnd : ps.Nodup) (hN : N ≤ 255) (h1 : 1 ≤ ps.length) (h2 : ps.length ≤ 255) : rightB (gets (splitL s t N m) ps) 1 = true := by
  have e : ∀ j ∈ ps, (splitL s t N m).getD j (0, ⟨#[]⟩) = (((j + 1 : Nat) : Int), bs (shareL s t m j)) := fun j hj => splitL_at s t N m j (hlt j hj)
  have hg : gets (splitL s t N m) ps = ps.map fun j => (((j + 1 : Nat) : Int), bs (shareL s t m j)) := List.map_congr_left e
  rw [hg]
  simp only [rightB, Bool.and_eq_true, decide_eq_true_eq, List.length_map, List.all_eq_true]
  refine ⟨⟨⟨h1, h2⟩, fun p hp => ?_⟩, ?_⟩
  · obtain ⟨j, hj, rfl⟩ := List.mem_map.1 hp
    have := hlt j hj
    simp [okS, bs_size, shareL]
    omega
  · rw [List.map_map]
    exact List.pairwise_map.2 (hnd.imp fun h e => h (by simp at e; omega))

theorem remap_arg (s o t : ByteArray) (n k : Int) (A : Option Addr) (n2 c2 : Nat) (w : World) (h : o.size ≠ 32) :
    Calls Tryz.prog 17 #[.string s, .string o, .int .i64 n, .int .i64 k, .string t, .slice A n2 c2] w fun e w' => e = .returned (.tuple #[.string ⟨#[]⟩, .int .i64 1]) ∧ Below w.heap.size w w' := by
  have e1 : ((o.size : Int) != 32) = true := by simp; omega
  clear h
  go_enter Tryz.func17, Tryz.ntmps17
  go_wp2_with fail
  go_ret2
  exact ⟨rfl, Below.refl _ _⟩
theorem remap_split (s o t : ByteArray) (n k : Int) (A : Option Addr) (n2 c2 : Nat) (w : World) (h : o.size = 32) (hs : splitOK s t n k = false) :
    Calls Tryz.prog 17 #[.string s, .string o, .int .i64 n, .int .i64 k, .string t, .slice A n2 c2] w fun e w' => e = .returned (.tuple #[.string ⟨#[]⟩, .int .i64 1]) ∧ Below w.heap.size w w' := by
  have e1 : ((o.size : Int) != 32) = false := by simp; omega
  have Hs := Lib.hid hs
  clear h hs
  go_enter Tryz.func17, Tryz.ntmps17
  go_wp2_with fail
  refine (split_no s t n k _ Hs.out).mono ?_
  rintro e w1 ⟨rfl, hb⟩
  go_wp2_with fail
  go_ret2
  exact ⟨rfl, hb⟩

/-- What Remap answers. -/
def remapV (s o t : List UInt8) (N m : Nat) (ws : List Bool) : Value := if m < (hasPos ws N).length ∨ m = 0 then .tuple #[.string ⟨#[]⟩, .int .i64 90] else .tuple #[.string (bs (tapeOut o (gets (splitL s t N m) (posTo ws (m - (hasPos ws N).length) N).1))), .int .i64 0]
theorem remap_yes' (R : Value) (s o t : ByteArray) (N m : Nat) (ws : List Bool) (A : Option Addr) (n2 c2 : Nat) (w : World) (ho : o.size = 32) (hs : s.size = 32) (ht : t.size = 32 * m) (hN : N ≤ 255) (hm : m + 1 ≤ N) (hr : Rd w A (bools ws)) (hn2 : n2 = ws.length) (hl2 : ws.length ≤ 1000) (hR : R = remapV s.data.toList o.data.toList t.data.toList N m ws) :
    Calls Tryz.prog 17 #[.string s, .string o, .int .i64 (N : Int), .int .i64 ((m + 1 : Nat) : Int), .string t, .slice A n2 c2] w fun e w' => e = .returned R ∧ Below w.heap.size w w' := by
  have e1 : ((o.size : Int) != 32) = false := by simp; omega
  have HRV := Lib.hid hR
  clear hR
  have Ho := Lib.hid ho
  have Hs := Lib.hid hs
  have Ht := Lib.hid ht
  have HR := Lib.hid hr
  have HN2 := Lib.hid hn2
  have hnl2 : n2 ≤ 1000 := by omega
  have hK := hasPos_len ws N
  obtain ⟨k, hk⟩ : ∃ k, k = m + 1 := ⟨_, rfl⟩
  rw [← hk]
  have Hk := Lib.hid hk
  have hkm : (k : Int) - 1 = (m : Int) := by omega
  have hk1 : k ≤ 255 := by omega
  have hmk : ¬ k = 0 := by omega
  clear ho hs ht hr hn2 hk
  go_enter Tryz.func17, Tryz.ntmps17
  go_wp2_with fail
  refine Calls.mono (Hk.out ▸ split_yes s t N m w Hs.out Ht.out hN hm) ?_
  rintro e w1 ⟨g, rfl, hos, hb1⟩
  have HOs := Lib.hid hos
  have HR1 := Lib.hid (HR.out.below hb1)
  clear hos
  go_wp2_with fail
  refine (vshares_any (splitL s.data.toList t.data.toList N m) ws _ A N N n2 c2 _ (own_rd HOs.out) (splitL_len _ _ _ _).symm (by rw [splitL_len]; omega) HR1.out HN2.out hl2).mono ?_
  rintro e w2 ⟨B, cap, rfl, _, hb2⟩
  have HOs2 := Lib.hid (own_keep HOs.out hb2)
  have HR2 := Lib.hid (HR1.out.below hb2)
  have hb02 := Below.chain hb1 hb2
  clear hb1 hb2 HOs HR1 HR
  generalize hKe : (hasPos ws N).length = K at hK ⊢
  have HKe := Lib.hid hKe
  clear hKe
  by_cases hc : m < K ∨ m = 0
  · have HC := Lib.hid hc
    by_cases hc1 : m < K
    · have d1 : decide ((m : Int) - (K : Int) < 0) = true := by simp; omega
      clear hc
      go_wp2_with fail
      go_ret2
      exact ⟨by rw [HRV.out, remapV, HKe.out, if_pos HC.out]; rfl, hb02⟩
    · have d1 : decide ((m : Int) - (K : Int) < 0) = false := by simp; omega
      have d2 : ((k : Int) == 1) = true := by simp; omega
      clear hc hc1
      go_wp2_with fail
      go_ret2
      exact ⟨by rw [HRV.out, remapV, HKe.out, if_pos HC.out]; rfl, hb02⟩
  · have HC := Lib.hid hc
    obtain ⟨hc1, hc2⟩ := not_or.1 hc
    obtain ⟨L, hL⟩ : ∃ L, L = m - K := ⟨_, rfl⟩
    have hLe : (m : Int) - (K : Int) = (L : Int) := by omega
    have d2 : ((k : Int) == 1) = false := by simp; omega
    have HL := Lib.hid hL
    clear hc hL
    have d1 : decide ((L : Int) < 0) = false := by simp
    go_wp2_with fail
    go_loopw [16, 17, 49] (fun lf v x wr => ∃ (i cap : Nat) (B : Option Addr), i ≤ N ∧ x = .int .i64 (i : Nat) ∧ lf = .int .i64 ((posTo ws L i).2 : Nat) ∧ v = .slice B (posTo ws L i).1.length cap ∧ wr.ownsRow w2.heap.size 77 2 v (posTo ws L i).1.length (sharesV (gets (splitL s.data.toList t.data.toList N m) (posTo ws L i).1)) ∧ Below w2.heap.size w2 wr) (fun _ _ x _ => N - (intOf x).toNat)
    case atStart => exact ⟨0, 0, none, by omega, rfl, rfl, rfl, ⟨rfl, .inl ⟨rfl, rfl⟩⟩, Below.refl _ _⟩
    case round =>
      obtain ⟨i, cap, B, hi, rfl, rfl, rfl, ho, hW⟩ := hrel
      have HO := Lib.hid ho
      have HW := Lib.hid hW
      by_cases hlt : i < N
      · have hil : i < (splitL s.data.toList t.data.toList N m).length := by rw [splitL_len]; exact hlt
        obtain ⟨b, off, hA, c1, c2'⟩ := ((own_rd HOs2.out).below hW).shr hil
        injection hA with hA
        injection hA with hA1 hA2
        subst hA1 hA2
        rw [Nat.zero_add] at c1 c2'
        have Hsn := Lib.hid (show posTo ws L (i + 1) = if ws.getD i false = true then ((posTo ws L i).1 ++ [i], (posTo ws L i).2) else if 0 < (posTo ws L i).2 then ((posTo ws L i).1 ++ [i], (posTo ws L i).2 - 1) else posTo ws L i from rfl)
        have Hgs := Lib.hid (gets_snoc (splitL s.data.toList t.data.toList N m) (posTo ws L i).1 i hil)
        obtain ⟨hpl, hfl⟩ := posTo_len ws L i
        generalize posTo ws L i = st at HO Hsn Hgs hpl hfl
        obtain ⟨ps, lf⟩ := st
        simp only at HO Hsn Hgs hpl hfl ⊢
        generalize (splitL s.data.toList t.data.toList N m)[i] = p at c1 c2' Hgs
        obtain ⟨x, bb⟩ := p
        simp only at c1 c2'
        have hbA := (Below.refl wr.heap.size wr).alloc (Nat.le_refl _) (.cells #[.int .i64 x, .string bb] 77)
        have HRr := Lib.hid (HR2.out.below (hW.alloc hW.size (.cells #[.int .i64 x, .string bb] 77)))
        have HO1 := Lib.hid (own_keep HO.out hbA)
        have hp2 : ps.length ≤ 1000 := by omega
        clear ho hW
        by_cases hh : ws.getD i false = true
        · rw [if_pos hh] at Hsn
          have Hh := Lib.hid hh
          clear hh
          go_wp2_with fail
          refine (whas_any ws i A n2 c2 _ HRr.out HN2.out (by omega) (by omega)).mono ?_
          rintro e w3 ⟨rfl, rfl⟩
          rw [Hh.out]
          go_wp2_with (refine wpList_append_new (by rfl) (.tmp 58) (.tmp 60) 72 (by rfl) w2.heap.size 77 (.agg #[.int .i64 0, .string ⟨#[]⟩]) 2 24 Tryz.underlying72 share_info rfl (by omega) (wr.alloc (.cells #[.int .i64 x, .string bb] 77)) _ _ _ _ _ (by rfl) HO1.out _ 1 1 (by rfl) (by simp) (by rfl) (by rfl) (by omega) (by omega) (by omega) (by have := HW.out.size; simp; omega) ?_)
          intro g2 cap2 w4 ho4 hb4 _ _ _
          have HO4 := Lib.hid ho4
          have HW4 := Lib.hid ((HW.out.alloc HW.out.size _).trans hb4)
          clear ho4 hb4
          go_wp2_with fail
          go_roundw
          case rel =>
            refine ⟨i + 1, cap2, some ⟨g2, 0, none⟩, by omega, by go_num, by rw [Hsn.out], by rw [Hsn.out]; simp, ?_, HW4.out⟩
            rw [Hsn.out, Hgs.out, sharesV_append]
            simp only [List.length_append, List.length_cons, List.length_nil]
            exact HO4.out
          case measure => simp [intOf]; omega
        · rw [if_neg hh] at Hsn
          have Hh := Lib.hid (show ws.getD i false = false by simpa using hh)
          clear hh
          by_cases hf : 0 < lf
          · rw [if_pos hf] at Hsn
            have d3 : decide (0 < (lf : Int)) = true := by simp; omega
            go_wp2_with fail
            refine (whas_any ws i A n2 c2 _ HRr.out HN2.out (by omega) (by omega)).mono ?_
            rintro e w3 ⟨rfl, rfl⟩
            rw [Hh.out]
            go_wp2_with (refine wpList_append_new (by rfl) (.tmp 65) (.tmp 67) 72 (by rfl) w2.heap.size 77 (.agg #[.int .i64 0, .string ⟨#[]⟩]) 2 24 Tryz.underlying72 share_info rfl (by omega) (wr.alloc (.cells #[.int .i64 x, .string bb] 77)) _ _ _ _ _ (by rfl) HO1.out _ 1 1 (by rfl) (by simp) (by rfl) (by rfl) (by omega) (by omega) (by omega) (by have := HW.out.size; simp; omega) ?_)
            intro g2 cap2 w4 ho4 hb4 _ _ _
            have HO4 := Lib.hid ho4
            have HW4 := Lib.hid ((HW.out.alloc HW.out.size _).trans hb4)
            clear ho4 hb4
            go_wp2_with fail
            go_roundw
            case rel =>
              refine ⟨i + 1, cap2, some ⟨g2, 0, none⟩, by omega, by go_num, by rw [Hsn.out]; simp only; congr 1; omega, by rw [Hsn.out]; simp, ?_, HW4.out⟩
              rw [Hsn.out, Hgs.out, sharesV_append]
              simp only [List.length_append, List.length_cons, List.length_nil]
              exact HO4.out
            case measure => simp [intOf]; omega
          · rw [if_neg hf] at Hsn
            obtain rfl : lf = 0 := by omega
            go_wp2_with fail
            refine (whas_any ws i A n2 c2 _ HRr.out HN2.out (by omega) (by omega)).mono ?_
            rintro e w3 ⟨rfl, rfl⟩
            rw [Hh.out]
            go_wp2_with fail
            go_roundw
            case rel => exact ⟨i + 1, cap, B, by omega, by go_num, by rw [Hsn.out]; rfl, by rw [Hsn.out], by rw [Hsn.out]; exact HO1.out, HW.out.alloc HW.out.size _⟩
            case measure => simp [intOf]; omega
      · obtain rfl : i = N := by omega
        obtain ⟨q1, q2, _⟩ := posTo_count ws L i
        have q3 := posTo_lt ws L i
        have q4 := posTo_nodup ws L i
        have hlm : (posTo ws L i).1.length = m := by
          have := HKe.out
          have h3 := HL.out
          rcases Nat.eq_zero_or_pos (posTo ws L i).2 with h | h
          · omega
          · have := q2 h
            omega
        have Hright := Lib.hid (kept_right s.data.toList t.data.toList i m _ q3 q4 hN (by omega) (by omega))
        have Hgl := Lib.hid (gets_len (splitL s.data.toList t.data.toList i m) (posTo ws L i).1)
        rw [hlm] at Hgl HO ⊢
        have HRV2 := Lib.hid (show R = .tuple #[.string (bs (tapeOut o.data.toList (gets (splitL s.data.toList t.data.toList i m) (posTo ws L i).1))), .int .i64 0] by
          rw [HRV.out, remapV, HKe.out, if_neg HC.out, HL.out])
        generalize gets (splitL s.data.toList t.data.toList i m) (posTo ws L i).1 = kept at Hright Hgl HO HRV2
        clear q1 q2 q3 q4 hlm ho hW
        go_wp2_with fail
        refine (tape_yes o kept B m cap _ Ho.out (own_rd HO.out) Hgl.out.symm Hright.out (by rw [Hgl.out]; omega)).mono ?_
        rintro e w3 ⟨rfl, hb3⟩
        have hb03 := Below.chain hb02 (Below.chain HW.out hb3)
        go_wp2_with fail
        go_ret2
        exact ⟨by rw [HRV2.out]; rfl, hb03⟩
theorem remap_yes (s o t : ByteArray) (N m : Nat) (ws : List Bool) (A : Option Addr) (n2 c2 : Nat) (w : World) (ho : o.size = 32) (hs : s.size = 32) (ht : t.size = 32 * m) (hN : N ≤ 255) (hm : m + 1 ≤ N) (hr : Rd w A (bools ws)) (hn2 : n2 = ws.length) (hl2 : ws.length ≤ 1000) :
    Calls Tryz.prog 17 #[.string s, .string o, .int .i64 (N : Int), .int .i64 ((m + 1 : Nat) : Int), .string t, .slice A n2 c2] w fun e w' => e = .returned (remapV s.data.toList o.data.toList t.data.toList N m ws) ∧ Below w.heap.size w w' :=
  remap_yes' _ s o t N m ws A n2 c2 w ho hs ht hN hm hr hn2 hl2 rfl
end Go.Proofs.YtkldllnlakaehaaGreatDoor
