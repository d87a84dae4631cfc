/-
  Contracts of volume: isPlace, isCount, beside, Hide, Show, Check.
-/
import Derived.Test.YtieekajjoikepaaGreatDoorVolT2
import Derived.Test.YtieekajjoikepaaGreatDoorTr2
import Derived.Test.YtieekajjoikepaaGreatDoorShelfI
namespace Go.Proofs.YtieekajjoikepaaGreatDoor
open Go.RowKit
set_option linter.unusedVariables false
set_option linter.unusedSimpArgs false
set_option maxRecDepth 100000
set_option maxHeartbeats 2000000

theorem Later.turns2 {w : World} (y : Later w) (h : Turns w) : Turns y.x := h.below y.ok
theorem itoa_any (i : Nat) (hi : i < 100) (w : World) : Calls Tryz.prog 111 #[.int .i64 (i : Nat)] w fun e w' => e = .returned (.string (digT i)) ∧ w' = w := Any.strconv_Itoa_small lays171 i hi w
theorem place_any (i : Int) (w : World) : Calls Tryz.prog 91 #[.int .i64 i] w fun e w' => e = .returned (.bool (inVol i)) ∧ w' = w := by
  unfold inVol
  by_cases h1 : 0 ≤ i
  · have e1 : decide (i ≥ 0) = true := by simpa using h1
    have e1' : decide (0 ≤ i) = true := by simpa using h1
    rw [e1']
    go_enter Tryz.func91, Tryz.ntmps91
    go_wp2_with fail
    go_ret
    exact ⟨rfl, rfl⟩
  · have e1 : decide (i ≥ 0) = false := by simpa using h1
    have e1' : decide (0 ≤ i) = false := by simpa using h1
    rw [e1']
    go_enter Tryz.func91, Tryz.ntmps91
    go_wp2_with fail
    go_ret
    exact ⟨rfl, rfl⟩
theorem count_any (n : Nat) (w : World) : Calls Tryz.prog 42 #[.int .i64 (n : Nat)] w fun e w' => e = .returned (.bool (countB n)) ∧ w' = w := by
  by_cases h1 : 1 ≤ n
  · by_cases h2 : n ≤ 64
    · have e1 : decide ((n : Int) ≥ 1) = true := by simp; omega
      have e2 : decide ((n : Int) ≤ 64) = true := by simp; omega
      have ha := and_pow n h1 (by omega)
      have hm : countB n = decide (n &&& (n - 1) = 0) := by unfold countB; rw [decide_eq_true h1, decide_eq_true h2]; rfl
      rw [hm]
      cases hq : decide (n &&& (n - 1) = 0) with
      | true =>
        have hq2 : n &&& (n - 1) = 0 := of_decide_eq_true hq
        rw [hq2] at ha
        clear hq hq2 hm
        go_enter Tryz.func42, Tryz.ntmps42
        go_wp2_with fail
        go_ret
        exact ⟨rfl, rfl⟩
      | false =>
        have hq2 : ¬ n &&& (n - 1) = 0 := of_decide_eq_false hq
        obtain ⟨y, hy⟩ : ∃ y, y = n &&& (n - 1) := ⟨_, rfl⟩
        rw [← hy] at ha hq2
        have e3 : ((y : Int) == 0) = false := by simp; omega
        clear hq hm hy
        go_enter Tryz.func42, Tryz.ntmps42
        go_wp2_with fail
        go_ret
        exact ⟨rfl, rfl⟩
    · have e1 : decide ((n : Int) ≥ 1) = true := by simp; omega
      have e2 : decide ((n : Int) ≤ 64) = false := by simp; omega
      have hm : countB n = false := by unfold countB; rw [decide_eq_false h2]; simp
      rw [hm]
      clear hm
      go_enter Tryz.func42, Tryz.ntmps42
      go_wp2_with fail
      go_ret
      exact ⟨rfl, rfl⟩
  · have e1 : decide ((n : Int) ≥ 1) = false := by simp; omega
    have hm : countB n = false := by unfold countB; rw [decide_eq_false h1]; rfl
    rw [hm]
    clear hm
    go_enter Tryz.func42, Tryz.ntmps42
    go_wp2_with fail
    go_ret
    exact ⟨rfl, rfl⟩
theorem beside_any (i : Int) (hi : inVol i = true) (w : World) : Calls Tryz.prog 93 #[.int .i64 i] w fun e w' => e = .returned (.string (besT i)) ∧ w' = w := by
  simp only [inVol, Bool.and_eq_true, decide_eq_true_eq] at hi
  obtain ⟨k, rfl⟩ := Int.eq_ofNat_of_zero_le hi.1
  have HI := Lib.hid (fun W => itoa_any k (by omega) W)
  show Calls _ _ _ _ fun e w' => e = .returned (.string (blockT ++ digT ((k : Int)).toNat)) ∧ w' = w
  rw [Int.toNat_natCast]
  have hz : (digT k).size ≤ 2 := digT_size (by omega)
  generalize digT k = d at HI hz ⊢
  clear hi
  go_enter Tryz.func93, Tryz.ntmps93
  go_wp2_with fail
  refine (HI.out _).mono ?_
  rintro e w1 ⟨rfl, rfl⟩
  go_wp2_with fail
  go_ret
  exact ⟨rfl, rfl⟩
theorem hide_any (key nonce : ByteArray) (i : Int) (s : ByteArray) (w : World) (hT : Turns w) (hk : key.size ≤ maxLen) (ho : nonce.size ≤ maxLen) (hs : s.size ≤ maxLen) :
    Calls Tryz.prog 70 #[.string key, .string nonce, .int .i64 i, .string s] w fun e w' => e = .returned (.tuple #[.string (hideS key nonce i s), .int .i64 (hideE key nonce i s : Nat)]) ∧ Below w.heap.size w w' := by
  have HP := Lib.hid (fun W => place_any i W)
  have HT := Lib.hid hT
  cases hi : inVol i with
  | false =>
    have hE : hideE key nonce i s = 1 := by unfold hideE; rw [if_pos hi]
    have hS : hideS key nonce i s = noT := by unfold hideS; rw [hE]; rfl
    rw [hE, hS]
    rw [hi] at HP
    clear hE hS hi hT hk ho hs
    go_enter Tryz.func70, Tryz.ntmps70
    go_wp2_with fail
    refine (HP.out _).mono ?_
    rintro e w1 ⟨rfl, rfl⟩
    go_wp2_with fail
    go_ret2
    exact ⟨rfl, Below.refl _ _⟩
  | true =>
  rw [hi] at HP
  by_cases h64 : 64 < s.size
  · have hE : hideE key nonce i s = 2 := by unfold hideE; rw [if_neg (by rw [hi]; simp), if_pos h64]
    have hS : hideS key nonce i s = noT := by unfold hideS; rw [hE]; rfl
    have d1 : decide ((s.size : Int) > 64) = true := decide_eq_true (by omega)
    rw [hE, hS]
    clear hE hS hi hT hk ho hs h64
    go_enter Tryz.func70, Tryz.ntmps70
    go_wp2_with fail
    refine (HP.out _).mono ?_
    rintro e w1 ⟨rfl, rfl⟩
    go_wp2_with fail
    go_ret2
    exact ⟨rfl, Below.refl _ _⟩
  have d1 : decide ((s.size : Int) > 64) = false := decide_eq_false (by omega)
  have hE : hideE key nonce i s = sealE key nonce (besT i) s := by unfold hideE; rw [if_neg (by rw [hi]; simp), if_neg h64]
  have HBs := Lib.hid (fun W => beside_any i hi W)
  have HSl := Lib.hid (fun W h => seal_any key nonce (besT i) s W h hk ho (Nat.le_trans (besT_size hi) (by decide)) hs)
  have HZ : Hid (sealE key nonce (besT i) s = 0 → nonce.size ≤ 12 ∧ (sealS key nonce (besT i) s).size ≤ 80) := Lib.hid fun h => by
    have h5 := hide_parts (key := key) (nonce := nonce) (i := i) (s := s) (by rw [hE]; exact h)
    have h6 := (open_seal h).2.2
    omega
  have HS : Hid (hideS key nonce i s = if sealE key nonce (besT i) s = 0 then nonce ++ sealS key nonce (besT i) s else noT) := Lib.hid (by unfold hideS; rw [hE])
  rw [hE, HS.out]
  clear hE HS hi hT hk ho hs h64
  generalize besT i = b at HBs HSl HZ ⊢
  generalize sealE key nonce b s = er at HSl HZ ⊢
  generalize sealS key nonce b s = t at HSl HZ ⊢
  by_cases h0 : er = 0
  · subst h0
    obtain ⟨z1, z2⟩ := HZ.out rfl
    clear HZ
    have d2 : (((0 : Nat) : Int) != 0) = false := rfl
    go_enter Tryz.func70, Tryz.ntmps70
    go_wp2_with fail
    refine (HP.out _).mono ?_
    rintro e w1 ⟨rfl, rfl⟩
    go_wp2_with fail
    refine (HBs.out _).mono ?_
    rintro e w1 ⟨rfl, rfl⟩
    go_wp2_with fail
    refine (HSl.out _ HT.out).mono ?_
    rintro e w1 ⟨rfl, hb⟩
    go_wp2_with fail
    go_ret2
    exact ⟨rfl, hb⟩
  · have d2 : ((er : Int) != 0) = true := by simp; omega
    rw [if_neg h0]
    clear h0
    go_enter Tryz.func70, Tryz.ntmps70
    go_wp2_with fail
    refine (HP.out _).mono ?_
    rintro e w1 ⟨rfl, rfl⟩
    go_wp2_with fail
    refine (HBs.out _).mono ?_
    rintro e w1 ⟨rfl, rfl⟩
    go_wp2_with fail
    refine (HSl.out _ HT.out).mono ?_
    rintro e w1 ⟨rfl, hb⟩
    go_wp2_with fail
    go_ret2
    exact ⟨rfl, hb⟩
/-- A volume, as a value. -/
def VV (w : World) (v : Value) (V : Vol) : Prop := ∃ A n c, v = .agg #[.slice A n c, .string V.rt] ∧ Rd w A (textsV V.bl) ∧ n = V.bl.length
theorem VV.below {w w' : World} {v : Value} {V : Vol} (h : VV w v V) (hb : Below w.heap.size w w') : VV w' v V := by
  obtain ⟨A, n, c, rfl, h1, h2⟩ := h
  exact ⟨A, n, c, rfl, h1.below hb, h2⟩
theorem vcheck_any (v : Value) (V : Vol) (w : World) (hv : VV w v V) :
    Calls Tryz.prog 28 #[v] w fun e w' => e = .returned (.bool (checkV V)) ∧ Below w.heap.size w w' := by
  obtain ⟨A, n, c, rfl, hA, hn⟩ := hv
  obtain ⟨bl, rt⟩ := V
  simp only at hA hn ⊢
  have HC := Lib.hid (fun W => count_any n W)
  have HRd := Lib.hid hA
  have HN := Lib.hid hn
  have HX := Lib.hid (heap_alloc_new w (.cells #[.slice A n c, .string rt] 27))
  have HB := Lib.hid ((Below.refl w.heap.size w).alloc (Nat.le_refl _) (.cells #[.slice A n c, .string rt] 27))
  have Hdef := Lib.hid (show checkV ⟨bl, rt⟩ = (countB n && decide (rt.size = 32) && bl.all fun b => decide (b.size ≤ 92)) by unfold checkV; rw [hn])
  rw [Hdef.out]
  clear hA hn Hdef
  cases hc : countB n with
  | false =>
    rw [hc] at HC
    rw [Bool.false_and, Bool.false_and]
    clear hc
    have x0 := rf_at HX.out 0 _ rfl
    go_enter Tryz.func28, Tryz.ntmps28
    go_wp2_with fail
    refine (HC.out _).mono ?_
    rintro e w1 ⟨rfl, rfl⟩
    go_wp2_with fail
    go_ret
    exact ⟨rfl, HB.out⟩
  | true =>
  rw [hc] at HC
  rw [Bool.true_and]
  have hn64 := (count_le hc).2
  clear hc
  have x0 := rf_at HX.out 0 _ rfl
  have x1 := rf_at HX.out 1 _ rfl
  by_cases h32 : rt.size = 32
  · have d1 : ((rt.size : Int) != 32) = false := by simp; omega
    rw [decide_eq_true h32, Bool.true_and]
    obtain ⟨r, hr⟩ : ∃ r, r = bl.all fun b => decide (b.size ≤ 92) := ⟨_, rfl⟩
    rw [← hr]
    have Hr := Lib.hid hr
    clear h32 hr
    go_enter Tryz.func28, Tryz.ntmps28
    go_wp2_with fail
    refine (HC.out _).mono ?_
    rintro e w1 ⟨rfl, rfl⟩
    go_wp2_with fail
    go_loopw [19] (fun x wr => ∃ i : Nat, i ≤ n ∧ x = .int .i64 (i : Nat) ∧ (bl.take i).all (fun b => decide (b.size ≤ 92)) = true ∧ Below w.heap.size w wr) (fun x _ => n - (intOf x).toNat)
    case atStart => exact ⟨0, by omega, rfl, rfl, HB.out⟩
    case round =>
      clear HB HX x0 x1
      obtain ⟨i, hi, rfl, hal, hb⟩ := hrel
      have Hal := Lib.hid hal
      have HB := Lib.hid hb
      clear hal hb
      by_cases hlt : i < n
      · have e1 : decide ((i : Int) < (n : Int)) = true := by simp; omega
        have hil : i < bl.length := by rw [← HN.out]; exact hlt
        obtain ⟨bA, oA, hbA, c1⟩ := texts_at (HRd.out.below HB.out) hil
        subst hbA
        have Htk := Lib.hid (show (bl.take (i + 1)).all (fun b => decide (b.size ≤ 92)) = ((bl.take i).all (fun b => decide (b.size ≤ 92)) && decide (bl[i].size ≤ 92)) by rw [List.take_succ_eq_append_getElem hil, List.all_append]; simp)
        have Hno := Lib.hid (show decide (bl[i].size ≤ 92) = false → bl.all (fun b => decide (b.size ≤ 92)) = false from fun h => List.all_eq_false.2 ⟨bl[i], List.getElem_mem hil, by simpa using h⟩)
        generalize bl[i] = b at c1 Htk Hno
        clear hil
        by_cases h92 : b.size ≤ 92
        · have d2 : decide ((b.size : Int) > 92) = false := decide_eq_false (by omega)
          have Hx := Lib.hid (show (bl.take (i + 1)).all (fun b => decide (b.size ≤ 92)) = true by rw [Htk.out, Hal.out, decide_eq_true h92]; rfl)
          clear h92
          go_wp2_with fail
          go_roundw
          case rel => exact ⟨i + 1, by omega, by go_num, Hx.out, HB.out⟩
          case measure => simp [intOf]; omega
        · have d2 : decide ((b.size : Int) > 92) = true := decide_eq_true (by omega)
          have Hf := Lib.hid (Hr.out.trans (Hno.out (decide_eq_false h92)))
          clear h92
          go_wp2_with fail
          go_ret
          exact ⟨by rw [Hf.out]; rfl, HB.out⟩
      · obtain rfl : i = n := by omega
        have e1 : decide ((i : Int) < (i : Int)) = false := by simp
        rw [HN.out, List.take_of_length_le (Nat.le_refl _)] at Hal
        have Hf := Lib.hid (Hr.out.trans Hal.out)
        go_wp2_with fail
        go_ret
        exact ⟨by rw [Hf.out]; rfl, HB.out⟩
  · have d1 : ((rt.size : Int) != 32) = true := by simp; omega
    rw [decide_eq_false h32, Bool.false_and]
    clear h32
    go_enter Tryz.func28, Tryz.ntmps28
    go_wp2_with fail
    refine (HC.out _).mono ?_
    rintro e w1 ⟨rfl, rfl⟩
    go_wp2_with fail
    go_ret
    exact ⟨rfl, HB.out⟩
end Go.Proofs.YtieekajjoikepaaGreatDoor
