/-
  The walk of the law EscrowReads, whole.
-/
import Derived.Test.YtidnlginjjgmjaaDoorEscrowReads
namespace Go.Proofs.YtidnlginjjgmjaaDoor
open Go.RowKit
set_option linter.unusedVariables false
set_option maxRecDepth 100000
set_option maxHeartbeats 2000000

theorem any_take_snoc {α : Type} (f : α → Bool) (l : List α) (k : Nat) (h : k < l.length) : (l.take (k + 1)).any f = ((l.take k).any f || f l[k]) := by
  rw [List.take_succ_eq_append_getElem h, List.any_append]
  simp

theorem escrowReads_law (A : Option Addr) (len cap : Nat) (zs : List ByteArray) (hn : len = zs.length) (hl : zs.length ≤ maxLen) (hsz : ∀ s ∈ zs, s.size ≤ maxLen) (w : World) (hT : ArmTabs w) (hr : Rd w A (textsV zs)) :
    Calls Tryd.prog 4 #[.slice A len cap] w fun e w' => e = .returned (.bool true) ∧ Below w.heap.size w w' := by
  have HR := Lib.hid hr
  have HN := Lib.hid hn
  have HT := Lib.hid hT
  have Hl := Lib.hid (show zs.length ≤ 9223372036854775807 by unfold maxLen at hl; omega)
  by_cases hf : farB zs = true
  · have HF := Lib.hid hf
    clear hr hn hT hl hsz hf
    go_enter Tryd.func4, Tryd.ntmps4
    go_wp2_with fail
    refine (efar_any zs A len cap _ HR.out HN.out Hl.out).mono ?_
    rintro e w1 ⟨rfl, rfl⟩
    rw [HF.out]
    go_wp2_with fail
    go_ret
    exact ⟨rfl, Below.refl _ _⟩
  have HF := Lib.hid (show farB zs = false by simpa using hf)
  have hf2 : zs.length ≤ 30 ∧ ∀ s ∈ zs, s.size ≤ 300 := by
    have := HF.out
    simp [farB] at this
    exact this
  have hn30 : len ≤ 30 := by omega
  have HZ := Lib.hid (show ∀ s ∈ zs, s.size ≤ 1000000 from fun s hs => Nat.le_trans (hf2.2 s hs) (by omega))
  have HL2 := Lib.hid (show zs.length ≤ 1000 by omega)
  obtain ⟨rs, hrs⟩ : ∃ rs, rs = readL (getAll zs) := ⟨_, rfl⟩
  have Hnd := Lib.hid (show (rs.map Prod.fst).Nodup by rw [hrs]; exact (readL_facts _).2.1)
  have Htx : Hid (∀ p ∈ rs, ∃ t, putShareRes p.1 p.2.data.toList = some t ∧ zs.any (fun s => decide (s = bs t)) = true) := Lib.hid fun p hp => reads_text zs (by rw [← hrs]; exact hp)
  have Hall : Hid (∀ s ∈ zs, ∀ x b, getShareRes s.data.toList = some (x, b) → rs.any (fun q => decide (q.1 = x)) = true) := Lib.hid fun s hs x b h => by rw [hrs]; exact reads_all zs hs h
  have Hok : Hid (∀ p ∈ rs, p.2.size = 32) := Lib.hid fun p hp => (getAll_ok zs p ((readL_facts (getAll zs)).1 p (by rw [← hrs]; exact hp))).2
  have hrl : rs.length ≤ zs.length := by rw [hrs]; exact reads_len zs
  have Hrs := Lib.hid hrs
  obtain ⟨M, hM⟩ : ∃ M, M = rs.length := ⟨_, rfl⟩
  have hMl : M ≤ len := by omega
  have HM := Lib.hid hM
  clear hr hn hT hl hsz hf hf2 hrs hrl hM
  go_enter Tryd.func4, Tryd.ntmps4
  go_wp2_with fail
  refine (efar_any zs A len cap _ HR.out HN.out Hl.out).mono ?_
  rintro e w1 ⟨rfl, rfl⟩
  rw [HF.out]
  go_wp2_with fail
  refine (read_any zs A len cap _ HR.out HN.out HL2.out HT.out HZ.out).mono ?_
  rintro e w2 ⟨B, cap2, rfl, ho2, hb2⟩
  rw [← Hrs.out, ← HM.out] at ho2 ⊢
  have HRD := Lib.hid (own_rd ho2)
  have HB2 := Lib.hid hb2
  clear ho2 hb2
  go_wp2_with fail
  go_loopw [4] (fun x wr => ∃ i : Nat, i ≤ M ∧ x = .int .i64 (i : Nat) ∧ Below w2.heap.size w2 wr) (fun x _ => M - (intOf x).toNat)
  case atStart => exact ⟨0, by omega, rfl, Below.refl _ _⟩
  case round =>
    obtain ⟨i, hi, rfl, hW⟩ := hrel
    by_cases hlt : i < M
    · have hil : i < rs.length := by rw [← HM.out]; exact hlt
      have hiI : (i : Int) < (M : Int) := by omega
      go_wp2_with fail
      go_loopw [5] (fun x wk => ∃ k : Nat, k ≤ i ∧ x = .int .i64 (k : Nat) ∧ Below w2.heap.size w2 wk) (fun x _ => i - (intOf x).toNat)
      case atStart => exact ⟨0, by omega, rfl, hW⟩
      case round =>
        clear hW
        obtain ⟨k, hk, rfl, hW⟩ := hrel
        by_cases hlt2 : k < i
        · obtain ⟨b1, off1, q1, c1, _⟩ := (HRD.out.below hW).shr hil
          obtain ⟨b2, off2, q2, c2, _⟩ := (HRD.out.below hW).shr (show k < rs.length by omega)
          have hne : rs[k].1 ≠ rs[i].1 := by
            have := List.pairwise_iff_getElem.1 Hnd.out k i (by simp; omega) (by simpa using hil) hlt2
            simpa using this
          rw [q1] at q2
          injection q2 with q2
          injection q2 with q2 q3
          subst q2 q3 q1
          generalize rs[k].1 = x1 at c2 hne
          generalize rs[i].1 = x2 at c1 hne
          have hneB : (x1 == x2) = false := by simpa using hne
          have hkI : (k : Int) < (M : Int) := by omega
          have C1 := Lib.hid c1
          have C2 := Lib.hid c2
          clear c1 c2 hne
          go_wp2_with fail
          have c1 := C1.out
          have c2 := C2.out
          go_quiet (fail)
          rename_i nq
          have HB := below_drewN hW nq
          generalize wr.drewN nq = wq at HB ⊢
          go_wp2_with fail
          go_roundw
          case rel => exact ⟨k + 1, by omega, by go_num, HB⟩
          case measure => simp [intOf]; omega
        · obtain rfl : k = i := by omega
          obtain ⟨b, off, hB, c1, c2⟩ := (HRD.out.below hW).shr hil
          subst hB
          obtain ⟨t, ht, htz⟩ := Htx.out rs[k] (List.getElem_mem hil)
          have Hbz := Lib.hid (Hok.out rs[k] (List.getElem_mem hil))
          have Hput := Lib.hid ht
          have Htz := Lib.hid htz
          generalize rs[k] = p at c1 c2 Hput Hbz
          obtain ⟨x, bb⟩ := p
          simp only at c1 c2 Hput Hbz
          clear ht htz
          go_wp2_with fail
          refine (putShare_any x bb _ ((HT.out.below HB2.out).below hW).rounds (by rw [Hbz.out]; omega)).mono ?_
          rintro e w3 ⟨rfl, hb3⟩
          rw [Hput.out]
          simp only [textOr]
          have HW3 := Lib.hid (Below.chain hW hb3)
          obtain ⟨tx, htx⟩ : ∃ tx, tx = bs t := ⟨_, rfl⟩
          rw [← htx] at Htz ⊢
          clear hb3 c1 c2 hW htx
          go_wp2_with fail
          go_loopw [8, 9] (fun v x wj => ∃ j : Nat, j ≤ len ∧ x = .int .i64 (j : Nat) ∧ v = .bool ((zs.take j).any fun s => decide (s = tx)) ∧ Below w2.heap.size w2 wj) (fun _ x _ => len - (intOf x).toNat)
          case atStart => exact ⟨0, by omega, rfl, rfl, HW3.out⟩
          case round =>
            obtain ⟨j, hj, rfl, rfl, hWj⟩ := hrel
            by_cases hlt3 : j < len
            · have hjl : j < zs.length := by rw [← HN.out]; exact hlt3
              obtain ⟨b9, off9, hA, hc⟩ := (HR.out.below (Below.chain HB2.out hWj)) j (.string zs[j]) (by simp [textsV, hjl])
              subst hA
              have Hst := Lib.hid (any_take_snoc (fun s => decide (s = tx)) zs j hjl)
              generalize zs[j] = sj at hc Hst
              have hjI : (j : Int) < (len : Int) := by omega
              have hte := text_eqD sj tx
              cases hb : (zs.take j).any fun s => decide (s = tx) with
              | true =>
                rw [hb] at Hst
                clear hb
                go_wp2_with fail
                go_roundw
                case rel => exact ⟨j + 1, by omega, by go_num, by rw [Hst.out]; rfl, hWj⟩
                case measure => simp [intOf]; omega
              | false =>
                rw [hb] at Hst
                clear hb
                go_wp2_with fail
                go_roundw
                case rel => exact ⟨j + 1, by omega, by go_num, by rw [Hst.out, Bool.false_or], hWj⟩
                case measure => simp [intOf]; omega
            · obtain rfl : j = len := by omega
              have hta : zs.take j = zs := List.take_of_length_le (by rw [HN.out]; exact Nat.le_refl _)
              rw [hta, Htz.out]
              clear hta
              go_wp2_with fail
              go_roundw
              case rel => exact ⟨k + 1, by omega, by go_num, hWj⟩
              case measure => simp [intOf]; omega
    · obtain rfl : i = M := by omega
      go_wp2_with fail
      go_loopw [10] (fun x wk => ∃ k : Nat, k ≤ len ∧ x = .int .i64 (k : Nat) ∧ Below w2.heap.size w2 wk) (fun x _ => len - (intOf x).toNat)
      case atStart => exact ⟨0, by omega, rfl, hW⟩
      case round =>
        clear hW
        obtain ⟨k, hk, rfl, hW⟩ := hrel
        by_cases hlt2 : k < len
        · have hkl : k < zs.length := by rw [← HN.out]; exact hlt2
          obtain ⟨b9, off9, hA, hc⟩ := (HR.out.below (Below.chain HB2.out hW)) k (.string zs[k]) (by simp [textsV, hkl])
          subst hA
          have Hzk := Lib.hid (HZ.out zs[k] (List.getElem_mem hkl))
          have Halk := Lib.hid (Hall.out zs[k] (List.getElem_mem hkl))
          generalize zs[k] = sk at hc Hzk Halk
          have hkI : (k : Int) < (len : Int) := by omega
          have HW := Lib.hid hW
          clear hW
          go_wp2_with fail
          refine (getShare_any sk _ ((HT.out.below HB2.out).below HW.out) Hzk.out).mono ?_
          rintro e w3 ⟨rfl, hb3⟩
          have HW3 := Lib.hid (Below.chain HW.out hb3)
          clear hb3 hc
          cases hres : getShareRes sk.data.toList with
          | none =>
            simp only [shareOr, shareV]
            generalize bs ([] : List UInt8) = bb
            have HW4 := Lib.hid (HW3.out.alloc HW3.out.size (.cells #[.int .i64 0, .string bb] 31))
            clear hres
            go_wp2_with fail
            go_loopw [13, 14] (fun v x wj => ∃ j : Nat, j ≤ i ∧ x = .int .i64 (j : Nat) ∧ v = .bool true ∧ Below w2.heap.size w2 wj) (fun _ x _ => i - (intOf x).toNat)
            case atStart => exact ⟨0, by omega, rfl, rfl, HW4.out⟩
            case round =>
              obtain ⟨j, hj, rfl, rfl, hWj⟩ := hrel
              by_cases hlt3 : j < i
              · have hjI : (j : Int) < (i : Int) := by omega
                go_wp2_with fail
                go_quiet (fail)
                rename_i nq
                have HB := below_drewN hWj nq
                generalize wr.drewN nq = wq at HB ⊢
                go_wp2_with fail
                go_roundw
                case rel => exact ⟨j + 1, by omega, by go_num, rfl, HB⟩
                case measure => simp [intOf]; omega
              · obtain rfl : j = i := by omega
                go_wp2_with fail
                go_roundw
                case rel => exact ⟨k + 1, by omega, by go_num, hWj⟩
                case measure => simp [intOf]; omega
          | some q =>
            obtain ⟨x, bl⟩ := q
            have Hin := Lib.hid (Halk.out x bl hres)
            simp only [shareOr, shareV]
            generalize bs bl = bb
            obtain ⟨w4, hw4⟩ : ∃ w4, w4 = w3.alloc (.cells #[.int .i64 x, .string bb] 31) := ⟨_, rfl⟩
            have hS4 : w4.heap[w3.heap.size]? = some (.cells #[.int .i64 x, .string bb] 31 (0, 0)) := by rw [hw4]; exact heap_alloc_new w3 _
            have HS4 := Lib.hid hS4
            have HW4 : Hid (Below w2.heap.size w2 w4) := Lib.hid (by rw [hw4]; exact HW3.out.alloc HW3.out.size _)
            clear hres hS4
            go_wp2_with fail
            have Hw4 := Lib.hid hw4
            clear hw4
            go_loopw [13, 14] (fun v x' wj => ∃ j : Nat, j ≤ i ∧ x' = .int .i64 (j : Nat) ∧ v = .bool ((rs.take j).any fun q => decide (q.1 = x)) ∧ Below w4.heap.size w4 wj) (fun _ x' _ => i - (intOf x').toNat)
            case atStart => exact ⟨0, by omega, rfl, rfl, Hw4.out ▸ Below.refl _ _⟩
            case round =>
              obtain ⟨j, hj, rfl, rfl, hWj⟩ := hrel
              have hW2j := Below.chain HW4.out hWj
              by_cases hlt3 : j < i
              · have hjl : j < rs.length := by rw [← HM.out]; exact hlt3
                obtain ⟨b1, off1, q1, c1, _⟩ := (HRD.out.below hW2j).shr hjl
                subst q1
                have Hst := Lib.hid (any_take_snoc (fun q : Shr => decide (q.1 = x)) rs j hjl)
                generalize rs[j] = p at c1 Hst
                obtain ⟨x1, b1'⟩ := p
                simp only at c1 Hst
                have hjI : (j : Int) < (i : Int) := by omega
                have cS := (two_cells (cells_below HS4.out hWj)).1
                have C1 := Lib.hid c1
                have CS := Lib.hid cS
                clear c1 cS
                cases hb : (rs.take j).any fun q => decide (q.1 = x) with
                | true =>
                  rw [hb] at Hst
                  clear hb
                  go_wp2_with fail
                  go_quiet (fail)
                  rename_i nq
                  have HB := below_drewN hWj nq
                  generalize wr.drewN nq = wq at HB ⊢
                  go_wp2_with fail
                  go_roundw
                  case rel => exact ⟨j + 1, by omega, by go_num, by rw [Hst.out]; rfl, HB⟩
                  case measure => simp [intOf]; omega
                | false =>
                  rw [hb] at Hst
                  clear hb
                  go_wp2_with fail
                  have c1 := C1.out
                  have cS := CS.out
                  go_quiet (fail)
                  rename_i nq
                  have HB := below_drewN hWj nq
                  generalize wr.drewN nq = wq at HB ⊢
                  go_wp2_with fail
                  go_roundw
                  case rel => exact ⟨j + 1, by omega, by go_num, by rw [Hst.out, Bool.false_or]; congr 1, HB⟩
                  case measure => simp [intOf]; omega
              · obtain rfl : j = i := by omega
                have hta : rs.take j = rs := List.take_of_length_le (by rw [HM.out]; exact Nat.le_refl _)
                rw [hta, Hin.out]
                clear hta
                go_wp2_with fail
                go_roundw
                case rel => exact ⟨k + 1, by omega, by go_num, hW2j⟩
                case measure => simp [intOf]; omega
        · obtain rfl : k = len := by omega
          have hML : i ≤ k := hMl
          go_wp2_with fail
          have hb2 := Below.chain HB2.out hW
          refine (papers_any _ (HT.out.below hb2)).mono ?_
          rintro e w5 ⟨rfl, hb5⟩
          have hb := Below.chain hb2 hb5
          go_wp2_with fail
          go_ret
          exact ⟨by simp, hb⟩
end Go.Proofs.YtidnlginjjgmjaaDoor
