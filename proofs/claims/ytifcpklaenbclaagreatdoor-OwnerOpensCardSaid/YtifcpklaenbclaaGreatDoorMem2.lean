/-
  Contract of member.Place.
-/
import Derived.Test.YtifcpklaenbclaaGreatDoorMem
namespace Go.Proofs.YtifcpklaenbclaaGreatDoor
open Go.RowKit
set_option linter.unusedVariables false
set_option linter.unusedSimpArgs false
set_option maxRecDepth 100000
set_option maxHeartbeats 1000000

theorem place_any (v : Value) (r : Rec) (name : ByteArray) (w : World) (hv : RV w v r) :
    Calls Tryz.prog 38 #[v, .string name] w fun e w' => e = .returned (.tuple #[.int .i64 (placeN r name : Nat), .bool (placeB r name)]) ∧ Below w.heap.size w w' := by
  have HV := Lib.hid hv
  obtain ⟨A, n, c, B, m, d, rfl, hA, hn, hB, hm⟩ := hv
  have HA := Lib.hid hA
  have HN := Lib.hid hn
  have hW := (Below.refl w.heap.size w).alloc (Nat.le_refl _) (.cells #[.int .i64 r.e, .int .i64 r.k, .slice A n c, .slice B m d] 24)
  have hX := heap_alloc_new w (.cells #[.int .i64 r.e, .int .i64 r.k, .slice A n c, .slice B m d] 24)
  have HW := Lib.hid hW
  have HX := Lib.hid hX
  have HC := Lib.hid (fun W h => ch_any (.agg #[.int .i64 r.e, .int .i64 r.k, .slice A n c, .slice B m d]) r W h)
  cases hc : checkR r with
  | false =>
    rw [hc] at HC
    have Hb := Lib.hid (show placeB r name = false by rw [placeB, hc]; rfl)
    have Hp := Lib.hid (show placeN r name = 0 by rw [placeN, if_neg (by rw [Hb.out]; simp)])
    clear hA hn hB hm hW hX hc
    go_enter Tryz.func38, Tryz.ntmps38
    go_wp2_with fail
    refine (HC.out _ (HV.out.below HW.out)).mono ?_
    rintro e w2 ⟨rfl, hb2⟩
    go_wp2_with fail
    go_ret2
    rw [Hb.out, Hp.out]
    exact ⟨rfl, HW.out.trans (hb2.mono HW.out.size)⟩
  | true =>
    rw [hc] at HC
    have Hc := Lib.hid hc
    have hmx : n ≤ 16 := by have := check_head hc; omega
    clear hA hn hB hm hW hX hc
    go_enter Tryz.func38, Tryz.ntmps38
    go_wp2_with fail
    refine (HC.out _ (HV.out.below HW.out)).mono ?_
    rintro e w2 ⟨rfl, hb2⟩
    have x2 := cell_in (cells_below HX.out hb2) 2 _ rfl
    have HW2 := Lib.hid (HW.out.trans (hb2.mono HW.out.size))
    clear hb2
    go_wp2_with fail
    clear x2
    go_loopw [14] (fun x wr => ∃ i : Nat, i ≤ n ∧ x = .int .i64 (i : Nat) ∧ name ∉ r.ns.take i ∧ Below w.heap.size w wr) (fun x _ => n - (intOf x).toNat)
    case atStart => exact ⟨0, by omega, rfl, by simp, HW2.out⟩
    case round =>
      obtain ⟨i, hi, rfl, hnt, hW⟩ := hrel
      have Hnt := Lib.hid hnt
      replace HW2 := Lib.hid hW
      clear hnt hW
      by_cases hlt : i < n
      · have e1 : decide ((i : Int) < (n : Int)) = true := by simp; omega
        have hin : i < r.ns.length := by rw [← HN.out]; exact hlt
        obtain ⟨b, off, hbA, c1⟩ := texts_at (HA.out.below HW2.out) hin
        have Hpl := Lib.hid (place_at Hc.out i hin)
        have Hnx := Lib.hid (show r.ns[i] ≠ name → name ∉ r.ns.take (i + 1) from fun h => take_next hin h Hnt.out)
        subst hbA
        generalize r.ns[i] = nm at c1 Hpl Hnx
        by_cases hnm : nm = name
        · have d1 : (nm.toList == name.toList) = true := by rw [hnm]; exact beq_self_eq_true _
          have Hb := Lib.hid (show placeB r name = true by rw [← hnm]; exact Hpl.out.1)
          have Hp := Lib.hid (show placeN r name = i + 1 by rw [← hnm]; exact Hpl.out.2)
          clear hnm hin
          go_wp2_with fail
          try rw [Exit.noGoto_ret]
          go_ret2
          rw [Hb.out, Hp.out]
          exact ⟨rfl, HW2.out⟩
        · have d1 := text_ne' hnm
          have Hx := Lib.hid (Hnx.out hnm)
          clear hnm hin
          go_wp2_with fail
          go_roundw
          case rel => exact ⟨i + 1, by omega, by go_num, Hx.out, HW2.out⟩
          case measure => simp [intOf]; omega
      · obtain rfl : i = n := by omega
        have e1 : decide ((i : Int) < (i : Int)) = false := by simp
        have hno : name ∉ r.ns := by have h := Hnt.out; rwa [HN.out, List.take_of_length_le (Nat.le_refl _)] at h
        have Hb := Lib.hid (show placeB r name = false by
          rw [placeB, Hc.out, Bool.true_and]
          exact Bool.eq_false_iff.2 fun h => hno (any_mem.1 h))
        have Hp := Lib.hid (show placeN r name = 0 by rw [placeN, if_neg (by rw [Hb.out]; simp)])
        clear hno
        go_wp2_with fail
        go_ret2
        rw [Hb.out, Hp.out]
        exact ⟨rfl, HW2.out⟩
end Go.Proofs.YtifcpklaenbclaaGreatDoor
