/-
  Contract of keyholeref09.Split.
-/
import Derived.Test.YtidnlginjjgmjaaRef08
import Derived.Test.YtidnlginjjgmjaaSplit3
namespace Go.Proofs.Ytidnlginjjgmjaa
open Go.RowKit
set_option linter.unusedVariables false
set_option maxRecDepth 100000
set_option maxHeartbeats 1000000

theorem sharesV_snoc (l : List Shr) (p : Shr) : sharesV (l ++ [p]) = sharesV l ++ [.int .i64 p.1, .string p.2] := by simp [sharesV, shrV]
theorem splitL_succ (s t : List UInt8) (i m : Nat) : splitL s t (i + 1) m = splitL s t i m ++ [(((i + 1 : Nat) : Int), bs (shareL s t m i))] := by simp [splitL, List.range_succ]

theorem split9_yes (s t : ByteArray) (n m : Nat) (w : World) (hs : s.size = 32) (ht : t.size = 32 * m) (hn : n ≤ 255) (hm : m + 1 ≤ n) :
    Calls Try.prog 30 #[.string s, .int .i64 (n : Int), .int .i64 ((m + 1 : Nat) : Int), .string t] w fun e w' => ∃ B cap, e = .returned (.tuple #[.slice B n cap, .int .i64 0]) ∧ w'.ownsRow w.heap.size 45 2 (.slice B n cap) n (sharesV (splitL s.data.toList t.data.toList n m)) ∧ Below w.heap.size w w' := by
  obtain ⟨k, hk⟩ : ∃ k, k = m + 1 := ⟨_, rfl⟩
  rw [← hk]
  have d1 : decide ((n : Int) < 1) = false := by simp; omega
  have d2 : decide ((255 : Int) < (n : Int)) = false := by simp; omega
  have d3 : decide ((k : Int) < 1) = false := by simp; omega
  have hkn : ¬ (n : Int) < (k : Int) := by omega
  have Hs := Lib.hid hs
  have Ht := Lib.hid ht
  have e1 : ((s.size : Int) != 32) = false := by simp; omega
  have e2 : ((t.size : Int) != 32 * ((k : Int) - 1)) = false := by simp; omega
  have Hk := Lib.hid hk
  have hk2 : k ≤ 255 := by omega
  have hm2 : m ≤ 300 := by omega
  clear hs ht hk
  go_enter Try.func30, Try.ntmps30
  go_wp2_with fail
  clear d1 d2 d3 e1 e2 hkn
  go_loopw [10, 11] (fun v x wr => ∃ (i cap : Nat) (B : Option Addr), i ≤ n ∧ x = .int .i64 ((i + 1 : Nat) : Int) ∧ v = .slice B i cap ∧ wr.ownsRow w.heap.size 45 2 v i (sharesV (splitL s.data.toList t.data.toList i m)) ∧ Below w.heap.size w wr) (fun _ x _ => n + 1 - (intOf x).toNat)
  case atStart => exact ⟨0, 0, none, by omega, rfl, rfl, ⟨rfl, .inl ⟨rfl, rfl⟩⟩, Below.refl _ _⟩
  case round =>
    obtain ⟨i, cap, B, hi, rfl, rfl, ho, hW⟩ := hrel
    by_cases hlt : i < n
    · have HO := Lib.hid ho
      have hlI : ((i + 1 : Nat) : Int) ≤ (n : Int) := by omega
      have hlI2 : (i : Int) + 1 ≤ (n : Int) := by omega
      obtain ⟨X, hX⟩ : ∃ X, X = i + 1 := ⟨_, rfl⟩
      rw [← hX] at hlI ⊢
      have HX := Lib.hid hX
      have hxu : (X : Int) = ((UInt8.ofNat X).toNat : Int) := by rw [UInt8.toNat_ofNat']; omega
      have Hxu := Lib.hid hxu
      clear ho hX hxu
      obtain ⟨B0, hB0⟩ : ∃ B0, B0 = wr.heap.size := ⟨_, rfl⟩
      have HB0 := Lib.hid hB0
      clear hB0
      go_wp2_with fail
      go_loopw [12, 13] (fun v x wj => ∃ (j cap2 : Nat) (B2 : Option Addr), j ≤ 32 ∧ x = .int .i64 (j : Nat) ∧ v = .slice B2 j cap2 ∧ wj.ownsRow B0 5 1 v j (bytesV ((List.range j).map (shareB s.data.toList t.data.toList m i))) ∧ Below wr.heap.size wr wj) (fun _ x _ => 32 - (intOf x).toNat)
      case atStart => exact ⟨0, 0, none, by omega, rfl, rfl, ⟨rfl, .inl ⟨rfl, rfl⟩⟩, Below.refl _ _⟩
      case round =>
        obtain ⟨j, cap2, B2, hj, rfl, rfl, ho2, hW2⟩ := hrel
        by_cases hlt2 : j < 32
        · have HO2 := Lib.hid ho2
          have HW2 := Lib.hid hW2
          clear ho2 hW2
          have Hsn := Lib.hid (show (List.range (j + 1)).map (shareB s.data.toList t.data.toList m i) = (List.range j).map (shareB s.data.toList t.data.toList m i) ++ [evalP (colL s.data.toList t.data.toList j m) (UInt8.ofNat X)] by rw [List.range_succ, List.map_append, HX.out]; rfl)
          have Hcl := Lib.hid (show k = (colL s.data.toList t.data.toList j m).length by rw [colL_len, Hk.out])
          go_wp2_with fail
          refine Calls.mono (Hk.out ▸ row9 s t j m _ hlt2 Hs.out Ht.out hm2) ?_
          rintro e w3 ⟨A3, c3, rfl, ho3, hb3⟩
          have HO3 := Lib.hid ho3
          have HO23 := Lib.hid (own_keep HO2.out hb3)
          have HW3 := Lib.hid (Below.chain HW2.out hb3)
          clear ho3 hb3
          generalize colL s.data.toList t.data.toList j m = col at HO3 Hsn Hcl
          go_wp2_with fail
          rw [Hxu.out]
          refine (eval8 col (UInt8.ofNat X) A3 k c3 _ (own_rd HO3.out) Hcl.out (by rw [← Hcl.out]; omega)).mono ?_
          rintro e w4 ⟨rfl, rfl⟩
          rw [← Hxu.out]
          generalize evalP col (UInt8.ofNat X) = y at Hsn ⊢
          have hy := y.toNat_lt
          generalize (List.range j).map (shareB s.data.toList t.data.toList m i) = bl at HO23 Hsn
          go_wp2_with (at_builtin; refine wpList_append_new (by rfl) (.tmp 63) (.tmp 66) 68 (by rfl) B0 5 (.int .u8 0) 1 1 Try.underlying68 uint8_info rfl (by omega) w4 _ _ _ _ _ (by rfl) HO23.out _ 1 1 (by rfl) (by rfl) (by rfl) (by rfl) (by omega) (by omega) (by omega) (by rw [HB0.out]; exact HW3.out.size) ?_)
          intro g5 cap5 w5 ho5 hb5 _ _ _
          rw [HB0.out] at hb5
          have HO5 := Lib.hid ho5
          have HW5 := Lib.hid (HW3.out.trans hb5)
          clear ho5 hb5
          go_wp2_with fail
          go_roundw
          case rel => exact ⟨j + 1, cap5, some ⟨g5, 0, none⟩, by omega, by go_num, rfl, by rw [Hsn.out, bytesV_append]; exact HO5.out, HW5.out⟩
          case measure => simp [intOf]; omega
        · obtain rfl : j = 32 := by omega
          have HO2 := Lib.hid (own_keep HO.out hW2)
          have HW2 := Lib.hid (Below.chain hW hW2)
          have Hrow := Lib.hid (show w = w from rfl)
          obtain ⟨a2, rfl⟩ : ∃ a2, B2 = some a2 := by
            rcases ho2.2 with ⟨e1, e2⟩ | ⟨g1, _, _, e1, _⟩
            · cases e2
            · injection e1 with e1
              exact ⟨_, e1⟩
          have hcv := conv_rd (own_rd ho2) cap2 32 (by simp)
          obtain ⟨sh, hsh⟩ : ∃ sh, sh = bs ((List.range 32).map (shareB s.data.toList t.data.toList m i)) := ⟨_, rfl⟩
          rw [← hsh] at hcv
          have Hsp := Lib.hid (show splitL s.data.toList t.data.toList (i + 1) m = splitL s.data.toList t.data.toList i m ++ [((X : Int), sh)] by rw [splitL_succ, hsh, HX.out]; rfl)
          clear ho2 hW2 hsh
          generalize splitL s.data.toList t.data.toList i m = sl at HO2 Hsp
          go_wp2_with (at_builtin; refine wpList_append_new (by rfl) (.tmp 68) (.tmp 73) 27 (by rfl) w.heap.size 45 (.agg #[.int .i64 0, .string ⟨#[]⟩]) 2 24 Try.underlying27 share_info rfl (by omega) _ _ _ _ _ _ (by rfl) HO2.out _ 1 1 (by rfl) (by rfl) (by rfl) (by rfl) (by omega) (by omega) (by omega) (by exact HW2.out.size) ?_)
          intro g5 cap5 w5 ho5 hb5 _ _ _
          have HO5 := Lib.hid ho5
          have HW5 := Lib.hid (HW2.out.trans hb5)
          clear ho5 hb5 hcv
          go_wp2_with fail
          go_roundw
          case rel => exact ⟨i + 1, cap5, some ⟨g5, 0, none⟩, by omega, by have := HX.out; go_num, rfl, by rw [Hsp.out, sharesV_snoc]; exact HO5.out, HW5.out⟩
          case measure => have := HX.out; simp [intOf]; omega
    · obtain rfl : i = n := by omega
      have HO := Lib.hid ho
      have hni : ¬ (i : Int) + 1 ≤ (i : Int) := by omega
      clear ho
      go_wp2_with fail
      go_ret2
      exact ⟨B, cap, rfl, HO.out, hW⟩
theorem split9_no (s t : ByteArray) (n k : Int) (w : World) (h : splitOK s t n k = false) :
    Calls Try.prog 30 #[.string s, .int .i64 n, .int .i64 k, .string t] w fun e w' => e = .returned (.tuple #[.slice none 0 0, .int .i64 1]) ∧ Below w.heap.size w w' := by
  have hW := Below.refl w.heap.size w
  by_cases h1 : s.size = 32
  · have e1 : ((s.size : Int) != 32) = false := by simp; omega
    by_cases h2 : n < 1
    · have e2 : decide (n < 1) = true := by simp; omega
      clear h h1
      go_enter Try.func30, Try.ntmps30
      go_wp2_with fail
      go_ret2
      exact ⟨rfl, hW⟩
    · have e2 : decide (n < 1) = false := by simp; omega
      by_cases h3 : 255 < n
      · have e3 : decide (255 < n) = true := by simp; omega
        clear h h1
        go_enter Try.func30, Try.ntmps30
        go_wp2_with fail
        go_ret2
        exact ⟨rfl, hW⟩
      · have e3 : decide (255 < n) = false := by simp; omega
        by_cases h4 : k < 1
        · have e4 : decide (k < 1) = true := by simp; omega
          clear h h1
          go_enter Try.func30, Try.ntmps30
          go_wp2_with fail
          go_ret2
          exact ⟨rfl, hW⟩
        · have e4 : decide (k < 1) = false := by simp; omega
          by_cases h5 : n < k
          · have e5 : decide (n < k) = true := by simp; omega
            clear h h1
            go_enter Try.func30, Try.ntmps30
            go_wp2_with fail
            go_ret2
            exact ⟨rfl, hW⟩
          · have e5 : decide (n < k) = false := by simp; omega
            have e6 : ((t.size : Int) != 32 * (k - 1)) = true := by
              rw [bne_iff_ne]
              intro e
              have : splitOK s t n k = true := by simp [splitOK]; omega
              rw [h] at this
              cases this
            clear h h1
            go_enter Try.func30, Try.ntmps30
            go_wp2_with fail
            go_ret2
            exact ⟨rfl, hW⟩
  · have e1 : ((s.size : Int) != 32) = true := by simp; omega
    clear h
    go_enter Try.func30, Try.ntmps30
    go_wp2_with fail
    go_ret2
    exact ⟨rfl, hW⟩

end Go.Proofs.Ytidnlginjjgmjaa
