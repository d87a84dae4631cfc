/-
  Contracts of keyholeref09.basis and Tape: the document's tape is tapeOut.
-/
import Derived.Test.YtidnlginjjgmjaaRef09T
import Derived.Test.YtidnlginjjgmjaaRef27
namespace Go.Proofs.Ytidnlginjjgmjaa
open Go.RowKit
set_option linter.unusedVariables false
set_option maxRecDepth 100000
set_option maxHeartbeats 2000000

theorem basisN_skip (k : Nat) : basisN k (k + 1) = basisN k k := by rw [basisN, basisN, if_pos (by omega), if_neg (by omega)]
theorem basisN_step (at' k : Nat) (h : k ≠ at') : basisN at' (k + 1) = basisN at' k + 1 := by
  rw [basisN, basisN]
  split <;> split <;> omega
theorem basisN_le (at' k : Nat) : basisN at' k ≤ k + 1 := by rw [basisN]; split <;> omega
theorem scale_map (q : UInt8) (Z : List UInt8) : mapTo (fun p => gm (Z.getD p 0) q) Z Z.length = scaleP q Z := by
  rw [mapTo_all, scaleP]
  apply List.ext_getElem
  · simp
  · intro p h1 h2
    have hp : p < Z.length := by simpa using h1
    simp only [List.getElem_map, List.getElem_range]
    rw [getD_at _ _ hp, gm_comm]

theorem basis9 (xs : List UInt8) (at' : Nat) (A : Option Addr) (n c : Nat) (w : World) (hr : Rd w A (ints (nums xs))) (hn : n = xs.length) (hl : xs.length ≤ 300) (ha : at' < n) (hd : ∀ k, k < n → k ≠ at' → xs.getD at' 0 ≠ xs.getD k 0) :
    Calls Try.prog 54 #[.slice A n c, .int .i64 (at' : Int)] w fun e w' => ∃ G cap, e = .returned (.slice (some ⟨G, 0, none⟩) n cap) ∧ w'.ownsRow w.heap.size 3 1 (.slice (some ⟨G, 0, none⟩) n cap) n (ints (nums (basisTo xs at' n))) ∧ Below w.heap.size w w' := by
  have HR := Lib.hid hr
  have HN := Lib.hid hn
  have HD := Lib.hid hd
  have hn2 : n ≤ 300 := by omega
  clear hr hn hd
  have HO0 := Lib.hid (own_new (w := w) (B := w.heap.size) (e := 3) (size := 1) (n := 1) (cs := (ints (nums [1])).toArray) (Nat.le_refl _) rfl (by decide))
  go_enter Try.func54, Try.ntmps54
  go_wp2_with fail
  go_loopw [5, 6] (fun v x wr => ∃ (k cap G : Nat), k ≤ n ∧ x = .int .i64 (k : Nat) ∧ v = .slice (some ⟨G, 0, none⟩) (basisN at' k) cap ∧ wr.ownsRow w.heap.size 3 1 v (basisN at' k) (ints (nums (basisTo xs at' k))) ∧ Below w.heap.size w wr) (fun _ x _ => n - (intOf x).toNat)
  case atStart => exact ⟨0, _, _, by omega, rfl, rfl, HO0.out, (Below.refl _ _).alloc (Nat.le_refl _) _⟩
  case round =>
    clear HO0
    obtain ⟨k, cap, G, hk, rfl, rfl, ho, hW⟩ := hrel
    by_cases hlt : k < n
    · have hiI : (k : Int) < (n : Int) := by omega
      by_cases he : k = at'
      · subst he
        have HO := Lib.hid ho
        rw [← basisN_skip, ← basis_skip] at HO
        have HS := Lib.hid (basisN_skip k)
        rw [← HS.out]
        generalize basisN k (k + 1) = M at HO HS ⊢
        have HS2 := Lib.hid (show M = basisN k (k + 1) by rw [HS.out, basisN_skip])
        clear ho
        go_wp2_with fail
        go_roundw
        case rel => exact ⟨k + 1, cap, G, by omega, by go_num, by rw [HS2.out], by rw [← HS2.out]; exact HO.out, hW⟩
        case measure => simp [intOf]; omega
      · have hkl : k < xs.length := by rw [← HN.out]; exact hlt
        have hal : at' < xs.length := by rw [← HN.out]; exact ha
        have HO := Lib.hid ho
        have HS := Lib.hid (basisN_step at' k he)
        have HB := Lib.hid (basis_step xs at' k he)
        have Hlen := Lib.hid (basis_len xs at' k)
        have hM : basisN at' k ≤ 301 := by have := basisN_le at' k; omega
        have hne := HD.out k hlt he
        obtain ⟨b, off, hA, hc⟩ := (HR.out.below hW).int_at (i := k) (by rw [nums_len]; exact hkl)
        obtain ⟨b', off', hA', hc'⟩ := (HR.out.below hW).int_at (i := at') (by rw [nums_len]; exact hal)
        rw [hA] at hA'
        injection hA' with e
        injection e with e1 e2
        subst e1 e2 hA
        rw [nums_at xs k hkl] at hc
        rw [nums_at xs at' hal] at hc'
        generalize xs.getD k 0 = o at hc HB hne
        generalize xs.getD at' 0 = a at hc' HB hne
        generalize basisTo xs at' k = L at HO HB Hlen
        generalize basisN at' k = M at HO HS Hlen hM ⊢
        have hxo : a ^^^ o ≠ 0 := x_ne hne
        have ck : ∀ y : Later wr, y.x.cell? ⟨b, off + k, none⟩ = some (dig o) := fun y => y.cell hc
        have ca : ∀ y : Later wr, y.x.cell? ⟨b, off + at', none⟩ = some (dig a) := fun y => y.cell hc'
        have H1 : Hid (∀ y : Later wr, Calls Try.prog 55 #[dig a, dig o] y.x fun e w' => e = .returned (dig (a ^^^ o)) ∧ ∃ z : Later wr, w' = z.x) := Lib.hid fun y => (sum7 a o y.x).mono fun e w' ⟨h1, h2⟩ => ⟨h1, y, h2⟩
        have H2 : Hid (∀ y : Later wr, Calls Try.prog 72 #[dig (a ^^^ o)] y.x fun e w' => e = .returned (.tuple #[dig (gi (a ^^^ o)), .bool true]) ∧ ∃ z : Later wr, w' = z.x) := Lib.hid fun y => (inv7 (a ^^^ o) y.x hxo).mono fun e w' ⟨h1, h2⟩ => ⟨h1, y, h2⟩
        have d1 : ((k : Int) == (at' : Int)) = false := by simp; omega
        have haI : (at' : Int) < (n : Int) := by omega
        have HW := Lib.hid hW
        generalize a ^^^ o = ao at H1 H2 HB ⊢
        generalize gi ao = q at H2 HB ⊢
        clear ho hne hxo hc hc' he hW
        go_wp2_with fail
        refine wp_region_later (by kernel_rfl) (by kernel_rfl) ?_
        repeat (go_big_quiet_step (first | with_reducible exact H1.out _ | with_reducible exact H2.out _))
        refine wpQuiet_nil ?_
        rintro _ ⟨y, rfl⟩
        have cky := ck y
        have HOy := Lib.hid (own_keep HO.out y.ok)
        have HWy := Lib.hid (Below.chain HW.out y.ok)
        clear ck ca H1 H2 HO HW
        generalize y.x = wy at cky HOy HWy ⊢
        clear y
        go_wp2_with fail
        refine (times9 L o _ M cap _ (own_rd HOy.out) Hlen.out.symm (by rw [Hlen.out]; omega)).mono ?_
        rintro e w3 ⟨G3, rfl, ho3, hb3⟩
        obtain ⟨T, hT⟩ : ∃ T, T = M + 1 := ⟨_, rfl⟩
        rw [← hT] at ho3 HS ⊢
        have ho3' := own_weak ho3 HWy.out.size
        have HZl := Lib.hid (show (zeroStep L o).length = T by rw [zeroStep_len, Hlen.out, hT])
        generalize zeroStep L o = Z at ho3' HB HZl
        have HO3 := Lib.hid (show w3.ownsRow w.heap.size 3 1 (.slice (some ⟨G3, 0, none⟩) T T) T (ints (nums (mapTo (fun p => gm (Z.getD p 0) q) Z 0))) by rw [mapTo_zero]; exact ho3')
        have HW3 := Lib.hid (Below.chain HWy.out hb3)
        have hT2 : T ≤ 302 := by omega
        have HB3 := Lib.hid (own_base ho3')
        clear ho3 ho3' hb3 hT cky HOy HWy Hlen
        go_wp2_with fail
        go_loopw [10] (fun x wj => ∃ i : Nat, i ≤ T ∧ x = .int .i64 (i : Nat) ∧ wj.ownsRow w.heap.size 3 1 (.slice (some ⟨G3, 0, none⟩) T T) T (ints (nums (mapTo (fun p => gm (Z.getD p 0) q) Z i))) ∧ Below w.heap.size w wj) (fun x _ => T - (intOf x).toNat)
        case atStart => exact ⟨0, by omega, rfl, HO3.out, HW3.out⟩
        case round =>
          clear HO3 HW3
          obtain ⟨i, hi, rfl, ho, hW⟩ := hrel
          by_cases hlt2 : i < T
          · have hiZ : i < Z.length := by rw [HZl.out]; exact hlt2
            have hml : (mapTo (fun p => gm (Z.getD p 0) q) Z i).length = T := by rw [mapTo_len, HZl.out]
            have g1 := mapTo_at (fun p => gm (Z.getD p 0) q) Z i hiZ
            have Hset := Lib.hid (mapTo_set (fun p => gm (Z.getD p 0) q) Z i hiZ)
            try simp only at Hset
            generalize mapTo (fun p => gm (Z.getD p 0) q) Z i = Y at ho hml g1 Hset
            generalize Z.getD i 0 = z at g1 Hset
            obtain ⟨c1, f1⟩ := own_cell ho (i := i) hlt2 (nums_get _ _ (by rw [hml]; exact hlt2))
            rw [g1] at c1
            have ho4 := own_put ho i (dig (gm z q))
            rw [← nums_set, Hset.out] at ho4
            have HO4 := Lib.hid ho4
            have HW4 := Lib.hid (hW.setCell (p := ⟨G3, i, none⟩) HB3.out (dig (gm z q)))
            have hiT : (i : Int) < (T : Int) := by omega
            clear ho ho4 hml g1 hW
            go_wp2_with fail
            refine (times7 z q _).mono ?_
            rintro e w5 ⟨rfl, rfl⟩
            generalize gm z q = u at HO4 HW4 Hset ⊢
            go_wp2_with fail
            go_roundw
            case rel => exact ⟨i + 1, by omega, by go_num, HO4.out, HW4.out⟩
            case measure => simp [intOf]; omega
          · obtain rfl : i = T := by omega
            rw [← HZl.out, scale_map, ← HB.out, HZl.out] at ho
            have HO := Lib.hid ho
            clear ho
            go_wp2_with fail
            go_roundw
            case rel => exact ⟨k + 1, i, G3, by omega, by go_num, by rw [HS.out], by rw [HS.out]; exact HO.out, hW⟩
            case measure => simp [intOf]; omega
    · obtain rfl : k = n := by omega
      have HS := Lib.hid (show basisN at' k = k by rw [basisN, if_pos ha])
      rw [HS.out] at ho ⊢
      have HO := Lib.hid ho
      clear ho
      go_wp2_with fail
      go_ret
      exact ⟨G, cap, rfl, HO.out, hW⟩
end Go.Proofs.Ytidnlginjjgmjaa
