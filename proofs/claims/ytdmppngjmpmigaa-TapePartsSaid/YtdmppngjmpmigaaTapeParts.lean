/-
  keyholelaw12.TapeParts and TapeNumbers: the laws' walks.
-/
import Derived.Test.YtdmppngjmpmigaaTapes
namespace Go.Proofs.Ytdmppngjmpmigaa
open Go.RowKit
set_option linter.unusedVariables false

theorem take_extract (s : ByteArray) (k n : Nat) : bs ((s.data.toList.drop k).take n) = s.extract k (k + n) := by
  rw [extract_bs, List.drop_take, Nat.add_sub_cancel_left]
/-- what holds at the head of a round: so many are taken -/
def PartsAt (w : World) (t : Nat) (L : List UInt8) (a : Value) (wr : World) : Prop :=
  ∃ k : Nat, a = .int .i64 k ∧ IsTape wr t L k ∧ Below w.heap.size w wr

set_option maxHeartbeats 2000000 in
set_option maxRecDepth 100000 in
theorem tapeParts_yes (s : ByteArray) (A : Option Addr) (len c : Nat) (zs : List Int) (w : World) (hs : s.size ≤ 1000) (hlen : len = zs.length) (hz : zs.length ≤ 50) (hA : Rd w A (ints zs)) (hwf : ∀ n ∈ zs, (Lit.int .i64 n).wf = true) :
    Calls Try.prog 4 #[.string s, .slice A len c] w fun e w' => e = .returned (.bool true) ∧ Below w.heap.size w w' := by
  subst hlen
  have HA := Lib.hid hA
  have HW := Lib.hid hwf
  clear hA hwf
  go_enter Try.func4, Try.ntmps4
  go_wp2_with fail
  refine (of_any s w (by omega)).mono ?_
  rintro e w1 ⟨t, rfl, ht, hT, hb⟩
  have HT := Lib.hid hT
  have HB := Lib.hid hb
  clear hT hb
  go_wp2_with fail
  go_loopw [6, 7] (fun a i wr => ∃ j : Nat, j ≤ zs.length ∧ i = .int .i64 j ∧ PartsAt w t s.data.toList a wr) (fun _ i _ => zs.length - (intOf i).toNat)
  case atStart => exact ⟨0, Nat.zero_le _, rfl, 0, rfl, HT.out, HB.out⟩
  case round =>
    obtain ⟨j, hj, rfl, k, rfl, hTr, hBr⟩ := hrel
    have HTr := Lib.hid hTr
    have HBr := Lib.hid hBr
    have hks : k ≤ s.size := hTr.cells.2.2.1
    clear hTr hBr
    by_cases hlt : j < zs.length
    · obtain ⟨b, off, rfl, hc⟩ := (HA.out.below HBr.out).int_at hlt
      generalize hxe : zs.getD j 0 = x at hc
      have Hxe := Lib.hid hxe
      clear hxe
      by_cases hx0 : x < 0
      · go_wp2_with fail
        refine (take_neg t x wr hx0).mono ?_
        rintro e w2 ⟨rfl, rfl⟩
        rw [show bs [] = ⟨#[]⟩ from rfl]
        go_wp2_with fail
        go_roundw
        case rel => exact ⟨j + 1, by omega, by go_num, k, rfl, HTr.out, HBr.out⟩
        case measure => simp [intOf]; omega
      · by_cases hx1 : (s.size : Int) - k < x
        · go_wp2_with fail
          refine (take_more t s.data.toList k x wr HTr.out hx1).mono ?_
          rintro e w2 ⟨rfl, hb2⟩
          rw [show bs [] = ⟨#[]⟩ from rfl]
          have hc2 : w2.cell? ⟨b, off + j, none⟩ = some (.int .i64 x) := (hb2.cell (p := ⟨b, off + j, none⟩) (cell_lt hc)).trans hc
          have HT2 := Lib.hid (HTr.out.below hb2)
          have HB2 := Lib.hid (Below.chain HBr.out hb2)
          clear hb2 hc
          go_wp2_with fail
          refine (taken_any t _ k w2 HT2.out).mono ?_
          rintro e w3 ⟨rfl, rfl⟩
          go_wp2_with fail
          go_roundw
          case rel => exact ⟨j + 1, by omega, by go_num, k, rfl, HT2.out, HB2.out⟩
          case measure => simp [intOf]; omega
        · obtain ⟨n, rfl⟩ := Int.eq_ofNat_of_zero_le (show 0 ≤ x by omega)
          have hkn : k + n ≤ s.size := by omega
          go_wp2_with fail
          refine (take_any t s.data.toList k n wr HTr.out hkn).mono ?_
          rintro e w2 ⟨rfl, hT2, hG2⟩
          rw [take_extract]
          have htr := HTr.out.lt
          have HB2 := Lib.hid (HBr.out.trans (grownBy_below hG2 ht HBr.out.size))
          have HT2 := Lib.hid hT2
          have hc2 : w2.cell? ⟨b, off + j, none⟩ = some (.int .i64 n) := by
            obtain ⟨b', off', e', h'⟩ := (HA.out.below HB2.out).int_at hlt
            injection e' with e'
            injection e' with e1 e2
            subst e1 e2
            rw [h', Hxe.out]
          have h1 : (k : Int) ≤ (k : Int) + (n : Int) := by omega
          have h2 : (k : Int) + (n : Int) ≤ (s.size : Int) := by omega
          clear hT2 hG2 hc
          go_wp2_with fail
          go_roundw
          case rel => exact ⟨j + 1, by omega, by go_num, k + n, by go_num, HT2.out, HB2.out⟩
          case measure => simp [intOf]; omega
    · go_wp2_with fail
      refine (tapes_any _).mono ?_
      rintro e w2 ⟨rfl, hb2⟩
      have HT2 := Lib.hid (HTr.out.below hb2)
      have HB2 := Lib.hid (Below.chain HBr.out hb2)
      clear hb2
      go_wp2_with fail
      refine (taken_any t _ k w2 HT2.out).mono ?_
      rintro e w3 ⟨rfl, rfl⟩
      go_wp2_with fail
      go_ret
      exact ⟨rfl, HB2.out⟩

set_option maxHeartbeats 1000000 in
theorem tapeParts_no (s : ByteArray) (A : Option Addr) (len c : Nat) (w : World) (hs : s.size ≤ maxLen) (h : ¬ (s.size ≤ 1000 ∧ len ≤ 50)) :
    Calls Try.prog 4 #[.string s, .slice A len c] w fun e w' => e = .returned (.bool true) ∧ Below w.heap.size w w' := by
  unfold maxLen at hs
  by_cases h1 : 1000 < s.size
  · clear h
    go_enter Try.func4, Try.ntmps4
    go_wp2_with fail
    go_ret
    exact ⟨rfl, Below.refl _ _⟩
  · have h2 : 50 < len := by omega
    have h3 : s.size ≤ 1000 := by omega
    clear h h1
    go_enter Try.func4, Try.ntmps4
    go_wp2_with fail
    go_ret
    exact ⟨rfl, Below.refl _ _⟩
theorem tapeParts_law (s : ByteArray) (hs : s.size ≤ maxLen) (A : Option Addr) (len c : Nat) (zs : List Int) (hlen : len = zs.length) (hz : zs.length ≤ maxLen) (w : World) (hA : Rd w A (ints zs)) (hwf : ∀ n ∈ zs, (Lit.int .i64 n).wf = true) :
    Calls Try.prog 4 #[.string s, .slice A len c] w fun e w' => e = .returned (.bool true) ∧ Below w.heap.size w w' := by
  by_cases h : s.size ≤ 1000 ∧ len ≤ 50
  · exact tapeParts_yes s A len c zs w h.1 hlen (by omega) hA hwf
  · exact tapeParts_no s A len c w hs h

set_option maxHeartbeats 2000000 in
set_option maxRecDepth 100000 in
theorem tapeNumbers_yes (s : ByteArray) (A : Option Addr) (len c : Nat) (zs : List Int) (w : World) (hs : s.size ≤ 300) (hlen : len = zs.length) (hz : zs.length ≤ 120) (hA : Rd w A (ints zs)) :
    Calls Try.prog 5 #[.string s, .slice A len c] w fun e w' => e = .returned (.bool true) ∧ Below w.heap.size w w' := by
  subst hlen
  have HA := Lib.hid hA
  clear hA
  go_enter Try.func5, Try.ntmps5
  go_wp2_with fail
  refine (of_any s w (by omega)).mono ?_
  rintro e w1 ⟨t, rfl, ht, hT, hb⟩
  have HT := Lib.hid hT
  have HB := Lib.hid hb
  clear hT hb
  go_wp2_with fail
  go_loopw [6, 7] (fun a i wr => ∃ j : Nat, j ≤ zs.length ∧ i = .int .i64 j ∧ PartsAt w t s.data.toList a wr) (fun _ i _ => zs.length - (intOf i).toNat)
  case atStart => exact ⟨0, Nat.zero_le _, rfl, 0, rfl, HT.out, HB.out⟩
  case round =>
    obtain ⟨j, hj, rfl, k, rfl, hTr, hBr⟩ := hrel
    have HTr := Lib.hid hTr
    have HBr := Lib.hid hBr
    have hks : k ≤ s.size := hTr.cells.2.2.1
    clear hTr hBr
    by_cases hlt : j < zs.length
    · obtain ⟨b, off, rfl, hc⟩ := (HA.out.below HBr.out).int_at hlt
      generalize hxe : zs.getD j 0 = x at hc
      have Hxe := Lib.hid hxe
      clear hxe
      by_cases hx1 : x < 1
      · go_wp2_with fail
        refine (number_bad t x wr (.inl hx1)).mono ?_
        rintro e w2 ⟨rfl, rfl⟩
        go_wp2_with fail
        refine (taken_any t _ k wr HTr.out).mono ?_
        rintro e w3 ⟨rfl, rfl⟩
        go_wp2_with fail
        go_roundw
        case rel => exact ⟨j + 1, by omega, by go_num, k, rfl, HTr.out, HBr.out⟩
        case measure => simp [intOf]; omega
      · by_cases hx2 : 16777216 < x
        · have hx3 : 1 ≤ x := by omega
          clear hx1
          go_wp2_with fail
          refine (number_bad t x wr (.inr hx2)).mono ?_
          rintro e w2 ⟨rfl, rfl⟩
          go_wp2_with fail
          refine (taken_any t _ k wr HTr.out).mono ?_
          rintro e w3 ⟨rfl, rfl⟩
          go_wp2_with fail
          go_roundw
          case rel => exact ⟨j + 1, by omega, by go_num, k, rfl, HTr.out, HBr.out⟩
          case measure => simp [intOf]; omega
        · have hx3 : 1 ≤ x := by omega
          have hx4 : x ≤ 16777216 := by omega
          clear hx1 hx2
          by_cases h3 : k + 3 ≤ s.size
          · go_wp2_with fail
            refine (number_any t s.data.toList k x wr HTr.out h3 hx3 hx4).mono ?_
            rintro e w2 ⟨rfl, hT2, hG2⟩
            have hv0 := Int.emod_nonneg (num3 ((s.data.toList.drop k).take 3) : Int) (show x ≠ 0 by omega)
            have hv1 := Int.emod_lt_of_pos (num3 ((s.data.toList.drop k).take 3) : Int) (show 0 < x by omega)
            generalize (num3 ((s.data.toList.drop k).take 3) : Int) % x = v at hv0 hv1 ⊢
            have HB2 := Lib.hid (HBr.out.trans (grownBy_below hG2 ht HBr.out.size))
            have HT2 := Lib.hid hT2
            have hc2 : w2.cell? ⟨b, off + j, none⟩ = some (.int .i64 x) := by
              obtain ⟨b', off', e', h'⟩ := (HA.out.below HB2.out).int_at hlt
              injection e' with e'
              injection e' with e1 e2
              subst e1 e2
              rw [h', Hxe.out]
            clear hT2 hG2 hc
            go_wp2_with fail
            refine (taken_any t _ (k + 3) w2 HT2.out).mono ?_
            rintro e w3 ⟨rfl, rfl⟩
            go_wp2_with fail
            go_roundw
            case rel => exact ⟨j + 1, by omega, by go_num, k + 3, by go_num, HT2.out, HB2.out⟩
            case measure => simp [intOf]; omega
          · have h4 : (s.size : Int) - k ≤ 2 := by omega
            go_wp2_with fail
            refine (number_more t s.data.toList k x wr HTr.out (by have := len_data s; omega) hx3 hx4).mono ?_
            rintro e w2 ⟨rfl, hb2⟩
            have HB2 := Lib.hid (Below.chain HBr.out hb2)
            have HT2 := Lib.hid (HTr.out.below hb2)
            have hc2 : w2.cell? ⟨b, off + j, none⟩ = some (.int .i64 x) := (hb2.cell (p := ⟨b, off + j, none⟩) (cell_lt hc)).trans hc
            clear hb2 hc
            go_wp2_with fail
            refine (taken_any t _ k w2 HT2.out).mono ?_
            rintro e w3 ⟨rfl, rfl⟩
            go_wp2_with fail
            go_roundw
            case rel => exact ⟨j + 1, by omega, by go_num, k, rfl, HT2.out, HB2.out⟩
            case measure => simp [intOf]; omega
    · go_wp2_with fail
      refine (tapes_any _).mono ?_
      rintro e w2 ⟨rfl, hb2⟩
      have HB2 := Lib.hid (Below.chain HBr.out hb2)
      clear hb2
      go_wp2_with fail
      go_ret
      exact ⟨rfl, HB2.out⟩
set_option maxHeartbeats 1000000 in
theorem tapeNumbers_no (s : ByteArray) (A : Option Addr) (len c : Nat) (w : World) (hs : s.size ≤ maxLen) (h : ¬ (s.size ≤ 300 ∧ len ≤ 120)) :
    Calls Try.prog 5 #[.string s, .slice A len c] w fun e w' => e = .returned (.bool true) ∧ Below w.heap.size w w' := by
  unfold maxLen at hs
  by_cases h1 : 300 < s.size
  · clear h
    go_enter Try.func5, Try.ntmps5
    go_wp2_with fail
    go_ret
    exact ⟨rfl, Below.refl _ _⟩
  · have h2 : 120 < len := by omega
    have h3 : s.size ≤ 300 := by omega
    clear h h1
    go_enter Try.func5, Try.ntmps5
    go_wp2_with fail
    go_ret
    exact ⟨rfl, Below.refl _ _⟩
theorem tapeNumbers_law (s : ByteArray) (hs : s.size ≤ maxLen) (A : Option Addr) (len c : Nat) (zs : List Int) (hlen : len = zs.length) (hz : zs.length ≤ maxLen) (w : World) (hA : Rd w A (ints zs)) (hwf : ∀ n ∈ zs, (Lit.int .i64 n).wf = true) :
    Calls Try.prog 5 #[.string s, .slice A len c] w fun e w' => e = .returned (.bool true) ∧ Below w.heap.size w w' := by
  by_cases h : s.size ≤ 300 ∧ len ≤ 120
  · exact tapeNumbers_yes s A len c zs w h.1 hlen (by omega) hA
  · exact tapeNumbers_no s A len c w hs h
end Go.Proofs.Ytdmppngjmpmigaa
