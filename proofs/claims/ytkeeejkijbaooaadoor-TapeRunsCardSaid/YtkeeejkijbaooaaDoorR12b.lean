/-
  Contracts of keyholeref12: Take, Number, Fork; and tape.Fork.
-/
import Derived.Test.YtkeeejkijbaooaaDoorR12
namespace Go.Proofs.YtkeeejkijbaooaaDoor
open Go.RowKit
set_option linter.unusedVariables false
set_option maxRecDepth 100000
set_option linter.unusedSimpArgs false

theorem rtake_neg (t : Nat) (n : Int) (w : World) (hn : n < 0) :
    Calls Tryd.prog 44 #[.pointer (some ⟨t, 0, none⟩), .int .i64 n] w fun e w' => e = .returned (.tuple #[.string (bs []), .int .i64 1]) ∧ w = w' := by
  go_enter Tryd.func44, Tryd.ntmps44
  go_wp2_with fail
  go_ret2
  exact ⟨rfl, rfl⟩
theorem rtake_more (t : Nat) (L : List UInt8) (k : Nat) (n : Int) (w : World) (h : RTape w t L k) (hn : (L.length : Int) - k < n) :
    Calls Tryd.prog 44 #[.pointer (some ⟨t, 0, none⟩), .int .i64 n] w fun e w' => e = .returned (.tuple #[.string (bs []), .int .i64 120]) ∧ Below w.heap.size w w' := by
  have hk : k ≤ L.length := by obtain ⟨_, _, _, _, h, _⟩ := h; exact h
  have h0 : ¬ n < 0 := by omega
  have H := Lib.hid h
  clear h
  go_enter Tryd.func44, Tryd.ntmps44
  go_wp2_with fail
  refine (rleft t L k _ H.out).mono ?_
  rintro e w1 ⟨rfl, hb⟩
  go_wp2_with fail
  go_ret2
  exact ⟨rfl, hb⟩
def RTakePost (t : Nat) (L : List UInt8) (k n : Nat) (w : World) (e : Ending) (w' : World) : Prop :=
  e = .returned (.tuple #[.string (bs ((L.drop k).take n)), .int .i64 0]) ∧ RTape w' t L (k + n) ∧ w.grownBy w' (some t)
theorem blockAt_get (L : List UInt8) (i : Nat) (h : i < L.length) : (blockAt L (i / 64)).getD (i % 64) 0 = L.getD i 0 := by
  unfold blockAt
  rw [List.getD_eq_getElem?_getD, List.getElem?_take_of_lt (by omega), List.getElem?_drop, ← List.getD_eq_getElem?_getD, show 64 * (i / 64) + i % 64 = i by omega]
theorem drop_take_snoc (L : List UInt8) (k j : Nat) (h : k + j < L.length) : (L.drop k).take (j + 1) = (L.drop k).take j ++ [L.getD (k + j) 0] := by
  rw [List.take_succ_eq_append_getElem (by rw [List.length_drop]; omega), List.getElem_drop, List.getD_eq_getElem?_getD, List.getElem?_eq_getElem h]
  rfl
theorem gb_chain_set {w w1 : World} {t : Nat} (hb : Below w.heap.size w w1) (i : Nat) (v : Value) : w.grownBy (w1.setCell ⟨t, i, none⟩ v) (some t) :=
  gb_set (gb_of_below hb (some t)) i v
theorem four_set {w : World} {t : Nat} {a b c d : Value} {T : TypeId} (h : w.heap[t]? = some (.cells #[a, b, c, d] T (0, 0))) (x : Int) : (w.setCell ⟨t, 3, none⟩ (.int .i64 x)).heap[t]? = some (.cells #[a, b, c, .int .i64 x] T (0, 0)) := by
  have := blk_set h 3 (.int .i64 x)
  exact this
theorem own_other {W : World} {B t : Nat} {e : TypeId} {size n : Nat} {v : Value} {xs : List Value} (ho : W.ownsRow B e size v n xs) (ht : t < B) : some t ≠ v.ownBlock := fun h => by
  have := (ho.lt t h.symm).1
  omega
theorem conv_own {w : World} {B cap n : Nat} {A : Option Addr} {l : List UInt8} (h : w.ownsRow B 5 1 (.slice A n cap) n (bytesV l)) (hn : l.length = n) : (convert 80 9 (.slice A n cap)).run Tryd.prog w = .ok (.string (bs l)) w := by
  rcases h.2 with ⟨hv, h0⟩ | ⟨g1, cap1, cur, hv, hb, _⟩
  · cases hv
    obtain rfl : l = [] := List.length_eq_zero_iff.1 (by omega)
    kernel_rfl
  · injection hv with h1 h2 h3
    subst h1
    exact conv_rd (own_rd h) cap n hn.symm
set_option maxHeartbeats 1000000 in
theorem rtake (t : Nat) (L : List UInt8) (k n : Nat) (w : World) (h : RTape w t L k) (hn : k + n ≤ L.length) :
    Calls Tryd.prog 44 #[.pointer (some ⟨t, 0, none⟩), .int .i64 (n : Nat)] w (RTakePost t L k n w) := by
  have H := Lib.hid h
  obtain ⟨seed, made, s, h1, hk, hL, hm⟩ := h
  have HC := Lib.hid h1
  have hle : ¬ ((L.length : Int) - (k : Int) < (n : Int)) := by omega
  rcases hm with ⟨rfl, hs, hLm⟩ | ⟨rfl, hLm⟩
  · have Hs := Lib.hid hs
    have HLm := Lib.hid hLm
    have hL6 : L.length = 65536 := by rw [hLm, madeL_len]
    have hkn : k + n ≤ 65536 := by omega
    have HL6 := Lib.hid hL6
    have HTw := Lib.hid (cell_lt_of h1)
    clear h1 hs hLm hL6
    go_enter Tryd.func44, Tryd.ntmps44
    go_wp2_with fail
    refine (rleft t L k _ H.out).mono ?_
    rintro e w1 ⟨rfl, hb⟩
    replace HC := hblk_below HC hb
    have HB := Lib.hid hb
    obtain ⟨c0, c1, c2, c3, f3⟩ := four_cells HC.out
    clear hb
    go_wp2_with fail
    go_loopw [7, 8, 9] (fun v nw x wr => ∃ (j cap : Nat) (B : Option Addr), j ≤ n ∧ x = .int .i64 ((k + j : Nat) : Int) ∧ nw = .string (bs (if j = 0 then [] else blockAt L ((k + j - 1) / 64))) ∧ v = .slice B j cap ∧ wr.ownsRow w.heap.size 5 1 v j (bytesV ((L.drop k).take j)) ∧ wr.heap[t]? = some (.cells #[.string seed, .bool true, .string s, .int .i64 (k : Nat)] 42 (0, 0)) ∧ Below w.heap.size w wr) (fun _ _ x _ => k + n - (intOf x).toNat)
    case atStart => exact ⟨0, 0, none, by omega, rfl, rfl, rfl, ⟨rfl, .inl ⟨rfl, rfl⟩⟩, HC.out, HB.out⟩
    case round =>
      obtain ⟨j, cap, B, hj, rfl, rfl, rfl, ho, h1, hB⟩ := hrel
      clear c0 c1 c2 c3 f3
      replace HC := Lib.hid h1
      replace HB := Lib.hid hB
      have HO := Lib.hid ho
      clear h1 hB ho
      obtain ⟨c0, c1, c2, c3, f3⟩ := four_cells HC.out
      clear c0 c1 c2 f3
      obtain ⟨I, hI⟩ : ∃ I, I = k + j := ⟨_, rfl⟩
      rw [← hI]
      by_cases hlt : j < n
      · have hIl : I < 65536 := by omega
        have Hsn := Lib.hid (show (L.drop k).take (j + 1) = (L.drop k).take j ++ [(blockAt L (I / 64)).getD (I % 64) 0] by
          rw [drop_take_snoc L k j (by rw [HL6.out]; omega), blockAt_get L I (by rw [HL6.out]; exact hIl), hI])
        have Hbl := Lib.hid (show (blockAt L (I / 64)).length = 64 by rw [HLm.out, madeL_at _ _ (by omega), blockL_len])
        have hlt' : (I : Int) < (k : Int) + (n : Int) := by omega
        have HI' := Lib.hid hI
        have hmod : (I : Int) % 64 = ((I % 64 : Nat) : Int) := by omega
        obtain ⟨r, hr⟩ : ∃ r, r = I % 64 := ⟨_, rfl⟩
        rw [← hr] at hmod
        have hx := str1_at (bs (blockAt L (I / 64))) r (by rw [bs_size, Hbl.out]; omega)
        rw [bs_data] at hx
        rw [← hr] at Hsn
        have Hx := Lib.hid hx
        have hbz : (r : Int) < ((bs (blockAt L (I / 64))).size : Int) := by rw [bs_size, Hbl.out]; omega
        have hbz2 : r < (bs (blockAt L (I / 64))).size := by omega
        have hi64 : I / 64 = I / 64 := rfl
        have hj9 : j ≤ 100000 := by omega
        obtain ⟨T, hT⟩ : ∃ T, T = bs (if j = 0 then [] else blockAt L ((I - 1) / 64)) := ⟨_, rfl⟩
        rw [← hT]
        have HR := Lib.hid hr
        have hI1 : 0 < j → 0 < I := by omega
        clear hx hi64 hI hr
        by_cases hj0 : j = 0
        · have hTe : T.toList = [] := by rw [hT, if_pos hj0]; exact (toList_nil _).2 rfl
          have hTi : T.toList.isEmpty = true := by rw [hTe]; rfl
          clear hT hj0
          go_wp2_with fail
          refine (rblock t L k I _ seed s HC.out Hs.out HLm.out hIl).mono ?_
          rintro e w2 ⟨rfl, hb2⟩
          replace HC := hblk_below HC hb2
          replace HO := Lib.hid (own_keep HO.out hb2)
          replace HB := Lib.hid (Below.chain HB.out hb2)
          clear hb2 c3
          obtain ⟨bk, hbk⟩ : ∃ bk, bk = bs (blockAt L (I / 64)) := ⟨_, rfl⟩
          rw [← hbk] at hbz hbz2 ⊢
          have HBK := Lib.hid hbk
          clear hbk
          go_wp2_with (at_builtin; refine wpList_append_new (by rfl) (.tmp 70) (.tmp 75) 80 (by rfl) w.heap.size 5 (.int .u8 0) 1 1 Tryd.underlying80 uint8_info rfl (by omega) w2 _ _ _ _ _ (by rfl) HO.out _ 1 1 (by rfl) (by rfl) (by rfl) (by rfl) (by omega) (by omega) (by omega) (by exact HB.out.size) ?_)
          intro g3 cap3 w3 ho3 hb3 hk3 _ _
          have HO3 := Lib.hid ho3
          have HB3 := Lib.hid (HB.out.trans hb3)
          have HC3 := Lib.hid ((hk3 t (cell_lt_of HC.out) (own_other HO.out (Nat.lt_of_lt_of_le HTw.out (Nat.le_refl _)))).trans HC.out)
          clear ho3 hb3 hk3
          go_wp2_with fail
          go_roundw
          case rel =>
            refine ⟨j + 1, cap3, some ⟨g3, 0, none⟩, by omega, by rw [HI'.out]; go_num, ?_, rfl, ?_, HC3.out, HB3.out⟩
            · rw [if_neg (by omega), show k + (j + 1) - 1 = I by rw [HI'.out]; omega, HBK.out]
            · have := HO3.out
              rw [Hsn.out, bytesV_append]
              obtain rfl := HBK.out
              rw [show bytesV [(blockAt L (I / 64)).getD r 0] = [Value.int .u8 (((bs (blockAt L (I / 64)))[r]).toNat : Int)] by rw [Hx.out]; rfl]
              exact this
          case measure => have := HI'.out; simp [intOf]; omega
        · have hTm : T = bs (blockAt L ((I - 1) / 64)) := by rw [hT, if_neg hj0]
          have hTz : T.size = 64 := by rw [hTm, bs_size, HLm.out, madeL_at _ _ (by omega), blockL_len]
          have hTe : ¬ T.toList = [] := toList_ne (by omega)
          have hTi : T.toList.isEmpty = false := toList_some _ (by omega)
          by_cases hr0 : r = 0
          · have hm0 : ((r : Int) == 0) = true := by simp [hr0]
            clear hT hTm hTz hr0
            go_wp2_with fail
            refine (rblock t L k I _ seed s HC.out Hs.out HLm.out hIl).mono ?_
            rintro e w2 ⟨rfl, hb2⟩
            replace HC := hblk_below HC hb2
            replace HO := Lib.hid (own_keep HO.out hb2)
            replace HB := Lib.hid (Below.chain HB.out hb2)
            clear hb2 c3
            obtain ⟨bk, hbk⟩ : ∃ bk, bk = bs (blockAt L (I / 64)) := ⟨_, rfl⟩
            rw [← hbk] at hbz hbz2 ⊢
            have HBK := Lib.hid hbk
            clear hbk
            go_wp2_with (at_builtin; refine wpList_append_new (by rfl) (.tmp 70) (.tmp 75) 80 (by rfl) w.heap.size 5 (.int .u8 0) 1 1 Tryd.underlying80 uint8_info rfl (by omega) w2 _ _ _ _ _ (by rfl) HO.out _ 1 1 (by rfl) (by rfl) (by rfl) (by rfl) (by omega) (by omega) (by omega) (by exact HB.out.size) ?_)
            intro g3 cap3 w3 ho3 hb3 hk3 _ _
            have HO3 := Lib.hid ho3
            have HB3 := Lib.hid (HB.out.trans hb3)
            have HC3 := Lib.hid ((hk3 t (cell_lt_of HC.out) (own_other HO.out (Nat.lt_of_lt_of_le HTw.out (Nat.le_refl _)))).trans HC.out)
            clear ho3 hb3 hk3
            go_wp2_with fail
            go_roundw
            case rel =>
              refine ⟨j + 1, cap3, some ⟨g3, 0, none⟩, by omega, by rw [HI'.out]; go_num, ?_, rfl, ?_, HC3.out, HB3.out⟩
              · rw [if_neg (by omega), show k + (j + 1) - 1 = I by rw [HI'.out]; omega, HBK.out]
              · have := HO3.out
                rw [Hsn.out, bytesV_append]
                obtain rfl := HBK.out
                rw [show bytesV [(blockAt L (I / 64)).getD r 0] = [Value.int .u8 (((bs (blockAt L (I / 64)))[r]).toNat : Int)] by rw [Hx.out]; rfl]
                exact this
            case measure => have := HI'.out; simp [intOf]; omega
          · have hm0 : ((r : Int) == 0) = false := by simp; omega
            obtain rfl : T = bs (blockAt L (I / 64)) := by rw [hTm, show (I - 1) / 64 = I / 64 by have := HR.out; omega]
            clear hT hTm hTz hr0
            obtain ⟨bk, hbk⟩ : ∃ bk, bk = bs (blockAt L (I / 64)) := ⟨_, rfl⟩
            rw [← hbk] at hbz hbz2 hTe hTi ⊢
            have HBK := Lib.hid hbk
            clear hbk
            go_wp2_with (at_builtin; refine wpList_append_new (by rfl) (.tmp 70) (.tmp 75) 80 (by rfl) w.heap.size 5 (.int .u8 0) 1 1 Tryd.underlying80 uint8_info rfl (by omega) wr _ _ _ _ _ (by rfl) HO.out _ 1 1 (by rfl) (by rfl) (by rfl) (by rfl) (by omega) (by omega) (by omega) (by exact HB.out.size) ?_)
            intro g3 cap3 w3 ho3 hb3 hk3 _ _
            have HO3 := Lib.hid ho3
            have HB3 := Lib.hid (HB.out.trans hb3)
            have HC3 := Lib.hid ((hk3 t (cell_lt_of HC.out) (own_other HO.out (Nat.lt_of_lt_of_le HTw.out (Nat.le_refl _)))).trans HC.out)
            clear ho3 hb3 hk3
            go_wp2_with fail
            go_roundw
            case rel =>
              refine ⟨j + 1, cap3, some ⟨g3, 0, none⟩, by omega, by rw [HI'.out]; go_num, ?_, rfl, ?_, HC3.out, HB3.out⟩
              · rw [if_neg (by omega), show k + (j + 1) - 1 = I by rw [HI'.out]; omega, HBK.out]
              · have := HO3.out
                rw [Hsn.out, bytesV_append]
                obtain rfl := HBK.out
                rw [show bytesV [(blockAt L (I / 64)).getD r 0] = [Value.int .u8 (((bs (blockAt L (I / 64)))[r]).toNat : Int)] by rw [Hx.out]; rfl]
                exact this
            case measure => have := HI'.out; simp [intOf]; omega
      · obtain rfl : j = n := by omega
        have hge : ¬ (I : Int) < (k : Int) + (j : Int) := by omega
        have hO2 := HO.out.kept (gb_set (gb_refl wr t) 3 (.int .i64 ((k : Int) + (j : Int)))) (.inr (Ne.symm (own_other HO.out HTw.out)))
        have hcv := conv_own hO2 (by rw [List.length_take, List.length_drop, HL6.out]; omega)
        clear hO2
        generalize bs (if j = 0 then [] else blockAt L ((I - 1) / 64)) = T
        obtain ⟨c0, c1, c2, c3', f3⟩ := four_cells HC.out
        have HI' := Lib.hid hI
        clear hI c0 c1 c2 c3'
        go_wp2_with fail
        go_ret2
        have hset := four_set HC.out ((k : Int) + (j : Int))
        refine ⟨rfl, ⟨seed, true, s, ?_, by omega, hL, .inl ⟨rfl, Hs.out, HLm.out⟩⟩, gb_chain_set HB.out 3 _⟩
        rw [show (((k + j : Nat) : Int)) = (k : Int) + (j : Int) by omega]
        exact hset
  · have e1 : L.length = s.size := by rw [hLm]; rfl
    have hk' : k ≤ s.size := by omega
    have hkn : (k : Int) + (n : Int) ≤ (s.size : Int) := by omega
    have hs' : s.size ≤ 100000 := by omega
    have Hex := Lib.hid (show s.extract k (k + n) = bs ((L.drop k).take n) by rw [hLm, extract_bs, List.drop_take, Nat.add_sub_cancel_left])
    have HLm := Lib.hid hLm
    have HE := Lib.hid e1
    clear h1 hLm e1
    go_enter Tryd.func44, Tryd.ntmps44
    go_wp2_with fail
    refine (rleft t L k _ H.out).mono ?_
    rintro e w1 ⟨rfl, hb⟩
    replace HC := hblk_below HC hb
    have HB := Lib.hid hb
    obtain ⟨c0, c1, c2, c3, f3⟩ := four_cells HC.out
    clear hb
    have e2 : IntKind.i64.wrap ((k : Int) + (n : Int)) = (k : Int) + (n : Int) := IntWalk.i64_in _ (by omega)
    have e3 : (0 : Int) ≤ (k : Int) + (n : Int) := by omega
    have e4 : (k : Int) ≤ (k : Int) + (n : Int) := by omega
    have e5 : ((k : Int) + (n : Int)).toNat = k + n := by omega
    go_wp2_with fail
    go_quiet (fail)
    rw [Hex.out]
    replace HB := Lib.hid (below_drewN HB.out nq)
    replace HC : Hid ((w1.drewN nq).heap[t]? = _) := HC
    replace c3 : (w1.drewN nq).cell? _ = _ := c3
    replace f3 : (w1.drewN nq).frozen? _ = _ := f3
    generalize w1.drewN nq = w2 at HB HC c3 f3 ⊢
    clear e5 e2
    go_wp2_with fail
    go_ret2
    have hset := four_set HC.out ((k : Int) + (n : Int))
    refine ⟨rfl, ⟨seed, false, s, ?_, by have := HE.out; omega, hL, .inr ⟨rfl, HLm.out⟩⟩, gb_chain_set HB.out 3 _⟩
    rw [show (((k + n : Nat) : Int)) = (k : Int) + (n : Int) by omega]
    exact hset
theorem rnumber_bad (t : Nat) (b : Int) (w : World) (hb : b < 1 ∨ 16777216 < b) :
    Calls Tryd.prog 45 #[.pointer (some ⟨t, 0, none⟩), .int .i64 b] w fun e w' => e = .returned (.tuple #[.int .i64 0, .int .i64 1]) ∧ w = w' := by
  by_cases h1 : b < 1
  · have d1 : decide (b < 1) = true := by simpa using h1
    clear hb
    go_enter Tryd.func45, Tryd.ntmps45
    go_wp2_with fail
    go_ret2
    exact ⟨rfl, rfl⟩
  · have d1 : decide (b < 1) = false := by simpa using h1
    have d2 : decide (16777216 < b) = true := by simp; omega
    clear hb
    go_enter Tryd.func45, Tryd.ntmps45
    go_wp2_with fail
    go_ret2
    exact ⟨rfl, rfl⟩
theorem rnumber_more (t : Nat) (L : List UInt8) (k : Nat) (b : Int) (w : World) (h : RTape w t L k) (hn : L.length < k + 3) (hb1 : 1 ≤ b) (hb2 : b ≤ 16777216) :
    Calls Tryd.prog 45 #[.pointer (some ⟨t, 0, none⟩), .int .i64 b] w fun e w' => e = .returned (.tuple #[.int .i64 0, .int .i64 120]) ∧ Below w.heap.size w w' := by
  have d1 : decide (b < 1) = false := by simp; omega
  have d2 : decide (16777216 < b) = false := by simp; omega
  have H := Lib.hid h
  clear h
  go_enter Tryd.func45, Tryd.ntmps45
  go_wp2_with fail
  refine (rtake_more t L k 3 _ H.out (by omega)).mono ?_
  rintro e w1 ⟨rfl, hb⟩
  go_wp2_with fail
  go_ret2
  exact ⟨rfl, hb⟩
def RNumberPost (t : Nat) (L : List UInt8) (k : Nat) (b : Int) (w : World) (e : Ending) (w' : World) : Prop :=
  e = .returned (.tuple #[.int .i64 ((num3 ((L.drop k).take 3) : Int) % b), .int .i64 0]) ∧ RTape w' t L (k + 3) ∧ w.grownBy w' (some t)
theorem rnumber (t : Nat) (L : List UInt8) (k : Nat) (b : Int) (w : World) (h : RTape w t L k) (hn : k + 3 ≤ L.length) (hb1 : 1 ≤ b) (hb2 : b ≤ 16777216) :
    Calls Tryd.prog 45 #[.pointer (some ⟨t, 0, none⟩), .int .i64 b] w (RNumberPost t L k b w) := by
  have d1 : decide (b < 1) = false := by simp; omega
  have d2 : decide (16777216 < b) = false := by simp; omega
  have hb0 : (b == 0) = false := by rw [beq_eq_false_iff_ne]; omega
  have H := Lib.hid h
  have hl : ((L.drop k).take 3).length = 3 := by rw [List.length_take, List.length_drop]; omega
  obtain ⟨x, y, z, hxyz⟩ : ∃ x y z, (L.drop k).take 3 = [x, y, z] := by
    match (L.drop k).take 3, hl with
    | [x, y, z], _ => exact ⟨x, y, z, rfl⟩
  have Hx := Lib.hid hxyz
  clear h hl hxyz
  go_enter Tryd.func45, Tryd.ntmps45
  go_wp2_with fail
  refine (rtake t L k 3 _ H.out hn).mono ?_
  rintro e w1 ⟨rfl, hR, hG⟩
  rw [Hx.out]
  have HR := Lib.hid hR
  have HG := Lib.hid hG
  clear hR hG
  go_wp2_with fail
  rw [show bs [x, y, z] = ⟨#[x, y, z]⟩ from rfl]
  have bx := x.toNat_lt
  have by' := y.toNat_lt
  have bz := z.toNat_lt
  have Hm := Lib.hid (show (wrap64 (wrap64 (wrap64 (65536 * wrap64 (x.toNat : Int)) + wrap64 (256 * wrap64 (y.toNat : Int))) + wrap64 (z.toNat : Int))).tmod b = (num3 [x, y, z] : Int) % b by
    rw [wrap64_b x, wrap64_b y, wrap64_b z, IntWalk.wrap64_in (65536 * (x.toNat : Int)) ⟨by omega, by omega⟩, IntWalk.wrap64_in (256 * (y.toNat : Int)) ⟨by omega, by omega⟩, IntWalk.wrap64_in (65536 * (x.toNat : Int) + 256 * (y.toNat : Int)) ⟨by omega, by omega⟩, IntWalk.wrap64_in _ ⟨by omega, by omega⟩, Int.tmod_eq_emod_of_nonneg (by omega)]
    congr 1
    simp [num3]
    omega)
  go_quiet (fail)
  go_wp2_with fail
  go_ret2
  refine ⟨?_, HR.out, ⟨HG.out.os, HG.out.tape, HG.out.output, HG.out.size, HG.out.block⟩⟩
  rw [Hx.out]
  exact congrArg (fun v => Ending.returned (.tuple #[.int .i64 v, .int .i64 0])) Hm.out
theorem rfork_more (t : Nat) (L : List UInt8) (k : Nat) (name : ByteArray) (w : World) (h : RTape w t L k) (hn : L.length < k + 32) :
    Calls Tryd.prog 47 #[.pointer (some ⟨t, 0, none⟩), .string name] w fun e w' => e = .returned (.tuple #[.pointer none, .int .i64 120]) ∧ Below w.heap.size w w' := by
  have H := Lib.hid h
  clear h
  go_enter Tryd.func47, Tryd.ntmps47
  go_wp2_with fail
  refine (rtake_more t L k 32 _ H.out (by omega)).mono ?_
  rintro e w1 ⟨rfl, hb⟩
  go_wp2_with fail
  go_ret2
  exact ⟨rfl, hb⟩
theorem rfork (t : Nat) (L : List UInt8) (k : Nat) (name : ByteArray) (w : World) (h : RTape w t L k) (hn : k + 32 ≤ L.length) (hs : name.size ≤ 1000) :
    Calls Tryd.prog 47 #[.pointer (some ⟨t, 0, none⟩), .string name] w fun e w' => ∃ u w1, e = .returned (.tuple #[.pointer (some ⟨u, 0, none⟩), .int .i64 0]) ∧ RTape w' u (madeL (sumL ((L.drop k).take 32 ++ name.data.toList))) 0 ∧ w.grownBy w1 (some t) ∧ w1.heap.size ≤ u ∧ Below w1.heap.size w1 w' := by
  have H := Lib.hid h
  have hl : ((L.drop k).take 32).length ≤ 32 := List.length_take_le _ _
  have hz : ¬ 9223372036854775807 < (bs ((L.drop k).take 32)).size + name.size := by rw [bs_size]; omega
  have Hsz := Lib.hid (show (bs ((L.drop k).take 32) ++ name).size ≤ 1000000 by rw [ByteArray.size_append, bs_size]; omega)
  have Hd := Lib.hid (show (bs ((L.drop k).take 32) ++ name).data.toList = (L.drop k).take 32 ++ name.data.toList by rw [ByteArray.data_append]; simp [bs])
  clear h hl
  go_enter Tryd.func47, Tryd.ntmps47
  go_wp2_with fail
  refine (rtake t L k 32 _ H.out hn).mono ?_
  rintro e w1 ⟨rfl, hR, hG⟩
  have HG := Lib.hid hG
  clear hR hG
  go_wp2_with fail
  refine (rnew _ _ Hsz.out).mono ?_
  rintro e w2 ⟨u, rfl, hu, hR2, hb2⟩
  rw [Hd.out] at hR2
  go_wp2_with fail
  go_ret2
  exact ⟨u, w1, rfl, hR2, HG.out, hu, hb2⟩
theorem fork_more {B0 : Nat} (t : Nat) (L : List UInt8) (k : Nat) (name : ByteArray) (w : World) (h : IsTape B0 w t L k) (hn : L.length < k + 32) :
    Calls Tryd.prog 46 #[.pointer (some ⟨t, 0, none⟩), .string name] w fun e w' => e = .returned (.tuple #[.pointer none, .int .i64 120]) ∧ Below w.heap.size w w' := by
  have H := Lib.hid h
  clear h
  go_enter Tryd.func46, Tryd.ntmps46
  go_wp2_with fail
  refine (take_more t L k 32 _ H.out (by omega)).mono ?_
  rintro e w1 ⟨rfl, hb⟩
  go_wp2_with fail
  go_ret2
  exact ⟨rfl, hb⟩
theorem fork_any {B0 : Nat} (t : Nat) (L : List UInt8) (k : Nat) (name : ByteArray) (w : World) (hT : Tabs B0 w) (h : IsTape B0 w t L k) (hn : k + 32 ≤ L.length) (hs : name.size ≤ 1000) (hB : B0 ≤ w.heap.size) :
    Calls Tryd.prog 46 #[.pointer (some ⟨t, 0, none⟩), .string name] w fun e w' => ∃ u w1, e = .returned (.tuple #[.pointer (some ⟨u, 0, none⟩), .int .i64 0]) ∧ IsTape B0 w' u (madeL (sumL ((L.drop k).take 32 ++ name.data.toList))) 0 ∧ w.grownBy w1 (some t) ∧ w1.heap.size ≤ u ∧ Below w1.heap.size w1 w' := by
  have H := Lib.hid h
  have HT := Lib.hid hT
  have hl : ((L.drop k).take 32).length ≤ 32 := List.length_take_le _ _
  have hz : ¬ 9223372036854775807 < (bs ((L.drop k).take 32)).size + name.size := by rw [bs_size]; omega
  have Hsz := Lib.hid (show (bs ((L.drop k).take 32) ++ name).size ≤ 1000000000 by rw [ByteArray.size_append, bs_size]; omega)
  have Hd := Lib.hid (show (bs ((L.drop k).take 32) ++ name).data.toList = (L.drop k).take 32 ++ name.data.toList by rw [ByteArray.data_append]; simp [bs])
  clear h hl hT
  go_enter Tryd.func46, Tryd.ntmps46
  go_wp2_with fail
  refine (take_any t L k 32 _ H.out hn).mono ?_
  rintro e w1 ⟨rfl, hR, hG⟩
  have HG := Lib.hid hG
  replace HT := Lib.hid (HT.out.tape H.out hG)
  have hB1 : B0 ≤ w1.heap.size := Nat.le_trans hB hG.size
  clear hR hG
  go_wp2_with fail
  refine (new_any B0 _ _ HT.out Hsz.out hB1).mono ?_
  rintro e w2 ⟨u, rfl, hu, hR2, hb2⟩
  rw [Hd.out] at hR2
  go_wp2_with fail
  go_ret2
  exact ⟨u, w1, rfl, hR2, HG.out, hu, hb2⟩
end Go.Proofs.YtkeeejkijbaooaaDoor
