/-
  Contracts of the document's rows of disks (keyholeref23): Big; Same of a row and one that reads alike.
  Plain: a Settle that is refused hands back no disks; one that is not hands back disks of a size that is known.
  The law ChangeTwice, walked.
-/
import Derived.Test.YtgkihdhjafmnnaaGreatDoorDk
import Derived.Test.YtgkihdhjafmnnaaGreatDoorS13
import Derived.Test.YtgkihdhjafmnnaaGreatDoorCyn
namespace Go.Proofs.YtgkihdhjafmnnaaGreatDoor
/- ChB -/
open Go.RowKit
set_option linter.unusedVariables false
set_option linter.unusedSimpArgs false
set_option maxRecDepth 100000
set_option maxHeartbeats 4000000

theorem big23_any (A : Option Addr) (n c : Nat) (l : List Dk) (w : World) (h : RdD w A l) (hn : n = l.length) (hn9 : n ≤ maxLen) (hl : ∀ x ∈ l, x.n ≤ maxLen ∧ x.m ≤ maxLen) :
    Calls Tryz.prog 6 #[.slice A n c] w fun e w' => ∃ b, e = .returned (.bool b) ∧ (b = false → n ≤ 20 ∧ ∀ x ∈ l, x.n ≤ 300 ∧ x.m ≤ 200) ∧ Below w.heap.size w w' := by
  have HD := Lib.hid h
  have HN := Lib.hid hn
  have HL := Lib.hid hl
  have hn91 : n ≤ 9223372036854775807 := by unfold maxLen at hn9; omega
  clear h hn hl hn9
  by_cases h20 : n ≤ 20
  · have d1 : decide ((n : Int) ≤ 20) = true := by simp; omega
    have d2 : decide ((n : Int) > 20) = false := by simp; omega
    go_enter Tryz.func6, Tryz.ntmps6
    go_wp2_with fail
    go_loopw [3] (fun x wr => ∃ k : Nat, k ≤ n ∧ x = .int .i64 (k : Nat) ∧ (∀ j (hj : j < l.length), j < k → l[j].n ≤ 300 ∧ l[j].m ≤ 200) ∧ Below w.heap.size w wr) (fun x _ => n - (intOf x).toNat)
    case atStart => exact ⟨0, by omega, rfl, fun j _ h => by omega, Below.refl _ _⟩
    case round =>
      obtain ⟨k, hk, rfl, hs, hW⟩ := hrel
      have HS := Lib.hid hs
      have HW := Lib.hid hW
      clear hs hW
      by_cases hlt : k < n
      · have hil : k < l.length := by rw [← HN.out]; exact hlt
        have e1 : decide ((k : Int) < (n : Int)) = true := by simp; omega
        have e2 : (k : Int) < (n : Int) := by omega
        obtain ⟨b, off, hA, c0, c1⟩ := dk_at (HD.out.below HW.out).rd hil
        subst hA
        have hxok := (HD.out.below HW.out).ok _ (List.getElem_mem hil)
        have hxl := HL.out _ (List.getElem_mem hil)
        have HX0 := Lib.hid (show ∀ x : Dk, l[k] = x → (x.n ≤ 300 ∧ x.m ≤ 200) → ∀ j (hj : j < l.length), j < k + 1 → l[j].n ≤ 300 ∧ l[j].m ≤ 200 from fun x hx hb j hj hjk => by
          by_cases e : j < k
          · exact HS.out j hj e
          · obtain rfl : j = k := by omega
            rw [hx]; exact hb)
        have HX := Lib.hid (HX0.out _ rfl)
        clear HX0
        generalize l[k] = x at c0 c1 hxok hxl HX
        obtain ⟨xA, xn, xc, xB, xm, xd, xP⟩ := x
        simp only at c0 c1 hxl HX
        have HBg := Lib.hid (big13_lt xA xB xn xc xm xd xP wr hxok hxl.1 hxl.2)
        clear hxok hxl hil
        go_wp2_with fail
        refine HBg.out.mono ?_
        rintro e w1 ⟨b, rfl, hb, hb1⟩
        have HB1 := Lib.hid (Below.chain HW.out hb1)
        clear hb1 c0 c1
        cases b with
        | true =>
          clear hb
          go_wp2_with fail
          go_ret
          exact ⟨true, rfl, fun h => Bool.noConfusion h, HB1.out⟩
        | false =>
          have Hb := Lib.hid (hb rfl)
          clear hb
          go_wp2_with fail
          go_roundw
          case rel => exact ⟨k + 1, by omega, by go_num, HX.out Hb.out, HB1.out⟩
          case measure => simp [intOf]; omega
      · obtain rfl : k = n := by omega
        have e1 : decide ((k : Int) < (k : Int)) = false := by simp
        go_wp2_with fail
        go_ret
        exact ⟨false, rfl, fun _ => ⟨h20, fun x hx => by
          obtain ⟨j, hj, rfl⟩ := List.mem_iff_getElem.1 hx
          exact HS.out j hj (by rw [HN.out]; exact hj)⟩, HW.out⟩
  · have d1 : decide ((n : Int) ≤ 20) = false := by simp; omega
    have d2 : decide ((n : Int) > 20) = true := by simp; omega
    have d3 : decide ((0 : Int) < (n : Int)) = true := by simp; omega
    go_enter Tryz.func6, Tryz.ntmps6
    go_wp2_with fail
    go_loopw [3] (fun x wr => x = .int .i64 0 ∧ wr = w) (fun x _ => 0)
    case atStart => exact ⟨rfl, rfl⟩
    case round =>
      obtain ⟨rfl, rfl⟩ := hrel
      go_wp2_with fail
      go_ret
      exact ⟨true, rfl, fun h => Bool.noConfusion h, Below.refl _ _⟩
theorem same23_any (A A2 : Option Addr) (n c c2 : Nat) (l m : List Dk) (w : World) (h : RdD w A l) (h2 : RdD w A2 m) (hn : n = l.length) (hp : plats l = plats m) (hn9 : n ≤ 100000) (hl : ∀ x ∈ l, x.n ≤ 100000 ∧ x.m ≤ 100000) :
    Calls Tryz.prog 10 #[.slice A n c, .slice A2 n c2] w fun e w' => e = .returned (.bool true) ∧ Below w.heap.size w w' := by
  have HD := Lib.hid h
  have HD2 := Lib.hid h2
  have HN := Lib.hid hn
  have HL := Lib.hid hl
  have HP := Lib.hid hp
  have hlen : l.length = m.length := by rw [← plats_len l, hp, plats_len]
  have HM := Lib.hid hlen
  have d1 : ((n : Int) != (n : Int)) = false := by simp
  clear h h2 hn hl hp hlen
  go_enter Tryz.func10, Tryz.ntmps10
  go_wp2_with fail
  go_loopw [5] (fun x wr => ∃ k : Nat, k ≤ n ∧ x = .int .i64 (k : Nat) ∧ Below w.heap.size w wr) (fun x _ => n - (intOf x).toNat)
  case atStart => exact ⟨0, by omega, rfl, Below.refl _ _⟩
  case round =>
    obtain ⟨k, hk, rfl, hW⟩ := hrel
    have HW := Lib.hid hW
    clear hW
    by_cases hlt : k < n
    · have hil : k < l.length := by rw [← HN.out]; exact hlt
      have him : k < m.length := by rw [← HM.out]; exact hil
      have e1 : decide ((k : Int) < (n : Int)) = true := by simp; omega
      have e2 : (k : Int) < (n : Int) := by omega
      obtain ⟨b, off, hA, c0, c1⟩ := dk_at (HD.out.below HW.out).rd hil
      obtain ⟨b2, off2, hA2, g0, g1⟩ := dk_at (HD2.out.below HW.out).rd him
      subst hA hA2
      have hxok := (HD.out.below HW.out).ok _ (List.getElem_mem hil)
      have hyok := (HD2.out.below HW.out).ok _ (List.getElem_mem him)
      have hxl := HL.out _ (List.getElem_mem hil)
      have hpp : l[k].P = m[k].P := by rw [← plats_at hil, HP.out, plats_at him]
      generalize l[k] = x at c0 c1 hxok hxl hpp
      generalize m[k] = y at g0 g1 hyok hpp
      obtain ⟨xA, xn, xc, xB, xm, xd, xP⟩ := x
      obtain ⟨yA, yn, yc, yB, ym, yd, yP⟩ := y
      simp only at c0 c1 g0 g1 hxl hpp
      subst hpp
      have HSm := Lib.hid (fun y : Later wr => later_call (y := y) (same13_any (.agg #[.slice xA xn xc, .slice xB xm xd]) (.agg #[.slice yA yn yc, .slice yB ym yd]) xP y.x ⟨_, _, _, _, _, _, rfl, hxok.below y.ok⟩ ⟨_, _, _, _, _, _, rfl, hyok.below y.ok⟩ (by have e : xn = xP.ss.length := hxok.hn; rw [← e]; exact hxl.1) (by have e : xm = xP.cs.length := hxok.hm; rw [← e]; exact hxl.2)))
      have p0 := fun y : Later wr => y.cell c0
      have p1 := fun y : Later wr => y.cell c1
      have p2 := fun y : Later wr => y.cell g0
      have p3 := fun y : Later wr => y.cell g1
      clear hxok hyok hxl hil him c0 c1 g0 g1
      go_wp2_with fail
      refine wp_region_later (by kernel_rfl) (by kernel_rfl) ?_
      repeat (go_big_quiet_step (first | with_reducible exact HSm.out _))
      refine wpQuiet_nil ?_
      rintro _ ⟨y, rfl⟩
      have HB1 := Lib.hid (Below.chain HW.out y.ok)
      go_wp2_with fail
      go_roundw
      case rel => exact ⟨k + 1, by omega, by go_num, HB1.out⟩
      case measure => simp [intOf]; omega
    · obtain rfl : k = n := by omega
      have e1 : decide ((k : Int) < (k : Int)) = false := by simp
      go_wp2_with fail
      go_ret
      exact ⟨rfl, HW.out⟩

/- TwT -/
open Go.RowKit
set_option linter.unusedVariables false

theorem settle_err {l : List Plat} {e : Int} (h : (settleL l e).2 ≠ 0) : (settleL l e).1 = [] := by
  unfold settleL at h ⊢
  split
  · rfl
  · rename_i h1
    rw [if_neg h1] at h
    split
    · rfl
    · rename_i h2
      rw [if_neg h2] at h
      split
      · rename_i h3
        rw [if_pos h3] at h
        exact absurd rfl h
      · rename_i h3
        rw [if_neg h3] at h
        split
        · rfl
        · rename_i h4
          rw [if_neg h4] at h
          exact absurd rfl h
theorem settle_small {l : List Plat} {e : Int} (h : (settleL l e).2 = 0) (hl : ∀ P ∈ l, smallP P) : ∀ P ∈ (settleL l e).1, smallP P := by
  unfold settleL at h ⊢
  split
  · intro P hP; cases hP
  · rename_i h1
    rw [if_neg h1] at h
    split
    · intro P hP; cases hP
    · rename_i h2
      rw [if_neg h2] at h
      split
      · exact hl
      · rename_i h3
        rw [if_neg h3] at h
        split
        · intro P hP; cases hP
        · rename_i h4
          have z4 := firstE_zero.1 (Decidable.not_not.1 h4)
          intro Q hQ
          obtain ⟨P, hP, rfl⟩ := List.mem_map.1 hQ
          obtain ⟨t, ht⟩ := commit_done (Prod.ext rfl (z4 P hP))
          exact chk_small ht.chk
/-- Has one of the first disks the epoch? -/
def tB (a : List Plat) (e : Int) (i : Nat) : Bool := (List.range i).any fun j => decide ((getH (a.getD j noPlat)).1.epoch = e)
theorem tB_succ (a : List Plat) (e : Int) (i : Nat) : tB a e (i + 1) = (tB a e i || decide ((getH (a.getD i noPlat)).1.epoch = e)) := by
  unfold tB
  rw [List.range_succ, List.any_append]
  simp
theorem tw_law {l a : List Plat} {e : Int} (h : settleL l e = (a, 0)) : a.length = l.length ∧ ∃ b, settleL a e = (b, 0) ∧ b.length = l.length ∧ (∀ i, i < l.length → (getH (a.getD i noPlat)).2 = 0 ∧ getH (b.getD i noPlat) = getH (a.getD i noPlat)) ∧
    (tB a e l.length = true → ∀ i, i < l.length → (getH (a.getD i noPlat)).1.epoch = e) ∧ (tB a e l.length = false → a = l) := by
  obtain ⟨h1, b, h2, h3, h4, h5⟩ := settle_twice h
  rw [h1] at h3 h4 h5
  refine ⟨h1, b, h2, h3, h4, ?_, ?_⟩
  · intro ht
    rcases h5 with ⟨_, _, h6⟩ | h6
    · unfold tB at ht
      obtain ⟨j, hj, he⟩ := List.any_eq_true.1 ht
      exact absurd (of_decide_eq_true he) (h6 j (List.mem_range.1 hj))
    · exact h6
  · intro ht
    rcases h5 with ⟨_, h6, _⟩ | h6
    · exact h6
    · unfold tB at ht
      rw [List.any_eq_false] at ht
      by_cases h0 : 0 < l.length
      · exact absurd (decide_eq_true (h6 0 h0)) (ht 0 (List.mem_range.2 h0))
      · have e1 : l = [] := List.length_eq_zero_iff.1 (by omega)
        have e2 : a = [] := List.length_eq_zero_iff.1 (by omega)
        rw [e1, e2]

/- ChangeTwice -/
open Go.RowKit
set_option linter.unusedVariables false
set_option linter.unusedSimpArgs false
set_option maxRecDepth 100000
set_option maxHeartbeats 16000000

theorem get_hd {x : Dk} {h0 h1 h2 : Int} {h3 h4 h5 : ByteArray} {h6 h7 : Int} {h8 h9 : ByteArray} (hg : getH x.P = (⟨h0, h1, h2, h3, h4, h5, h6, h7, h8, h9⟩, 0)) (W : World) (h : PB W x.A x.n x.B x.m x.P) :
    Calls Tryz.prog 9 #[.agg #[.slice x.A x.n x.c, .slice x.B x.m x.d]] W fun e w' => e = .returned (.tuple #[.agg #[.int .i64 h0, .int .i64 h1, .int .i64 h2, .string h3, .string h4, .string h5, .int .i64 h6, .int .i64 h7, .string h8, .string h9], .int .i64 0]) ∧ Below W.heap.size W w' := by
  have := hget_any (.agg #[.slice x.A x.n x.c, .slice x.B x.m x.d]) x.P W ⟨_, _, _, _, _, _, rfl, h⟩
  rw [hg] at this
  exact this
theorem changeTwice_law (A : Option Addr) (n c : Nat) (l : List Dk) (hn : n = l.length) (hn9 : l.length ≤ maxLen) (ep : Int) (w : World) (hT : Turns w) (hR : Rounds w) (h : RdD w A l) (hz : ∀ x ∈ l, x.P.ss.length ≤ maxLen ∧ x.P.cs.length ≤ maxLen) :
    Calls Tryz.prog 3 #[.slice A n c, .int .i64 ep] w fun e w' => e = .returned (.bool true) ∧ Below w.heap.size w w' := by
  have HT := Lib.hid hT
  have HR := Lib.hid hR
  have HD := Lib.hid h
  have HN := Lib.hid hn
  have HBg := Lib.hid (big23_any A n c l w h hn (by rw [hn]; exact hn9) (fun x hx => by
    have h1 := hz x hx
    have h2 := h.ok x hx
    rw [show x.n = x.P.ss.length from h2.hn, show x.m = x.P.cs.length from h2.hm]
    exact h1))
  have HCh := Lib.hid changes_any
  clear hT hR h hz hn hn9
  go_enter Tryz.func3, Tryz.ntmps3
  go_wp2_with fail
  refine HBg.out.mono ?_
  rintro e w1 ⟨b, rfl, hb, hb1⟩
  have HB1 := Lib.hid hb1
  clear hb1 HBg
  cases b with
  | true =>
    clear hb
    go_wp2_with fail
    go_ret
    exact ⟨rfl, HB1.out⟩
  | false =>
  obtain ⟨hn20, hsz⟩ := hb rfl
  have HZ := Lib.hid hsz
  have HSet := Lib.hid (settle_any2 A n c l ep w1 (HD.out.below HB1.out) HN.out (by omega) (fun x hx => by have := HZ.out x hx; omega))
  clear hb hsz
  obtain ⟨r, hr⟩ : ∃ r, r = settleL (plats l) ep := ⟨_, rfl⟩
  rw [← hr] at HSet
  obtain ⟨rl, re⟩ := r
  by_cases hre : re = 0
  case neg =>
    have hnil : rl = [] := by
      have := settle_err (l := plats l) (e := ep) (by rw [← hr]; exact hre)
      rw [← hr] at this
      exact this
    subst hnil
    have e1 : (re != 0) = true := by simpa using hre
    clear hr hre
    go_wp2_with fail
    refine Calls.mono HSet.out ?_
    rintro e w2 ⟨A2, n2, c2, l2, rfl, hn2, hp2, hd2, hb2⟩
    have hn0 : n2 = 0 := by rw [hn2, ← plats_len, hp2]; rfl
    have HB2 := Lib.hid (Below.chain HB1.out hb2)
    clear hn2 hp2 hd2 hb2
    subst hn0
    simp only
    go_wp2_with fail
    refine Calls.mono (HCh.out _ (HT.out.below HB2.out) (HR.out.below HB2.out)) ?_
    rintro e w3 ⟨rfl, hb3⟩
    have HB3 := Lib.hid (Below.chain HB2.out hb3)
    clear hb3
    go_wp2_with fail
    go_ret
    exact ⟨rfl, HB3.out⟩
  subst hre
  obtain ⟨k1, b, k2, k3, k4, k5, k6⟩ := tw_law hr.symm
  have hsm := settle_small (l := plats l) (e := ep) (by rw [← hr]) (fun P hP => by
    obtain ⟨x, hx, rfl⟩ := List.mem_map.1 hP
    have h1 := HZ.out x hx
    have h2 := HD.out.ok x hx
    have e1 : x.n = x.P.ss.length := h2.hn
    have e2 : x.m = x.P.cs.length := h2.hm
    exact ⟨by omega, by omega⟩)
  rw [← hr] at hsm
  rw [plats_len, ← HN.out] at k1 k3 k4 k5 k6
  have K2 := Lib.hid k2
  have K3 := Lib.hid k3
  have K4 := Lib.hid k4
  have K5 := Lib.hid k5
  have K6 := Lib.hid k6
  have HSm := Lib.hid hsm
  have K1 := Lib.hid k1
  clear k1 k2 k3 k4 k5 k6 hsm hr
  go_wp2_with fail
  refine Calls.mono HSet.out ?_
  rintro e w2 ⟨A2, n2, c2, l2, rfl, hn2, hp2, hd2, hb2⟩
  simp only at hp2 ⊢
  obtain rfl : n2 = n := by rw [hn2, ← plats_len, hp2]; exact K1.out
  have HB2 := Lib.hid (Below.chain HB1.out hb2)
  have HN2 := Lib.hid hn2
  have HP2 := Lib.hid hp2
  have HD2 := Lib.hid hd2
  have HSet2 := Lib.hid (settle_any2 A2 n2 c2 l2 ep w2 hd2 hn2 (by omega) (fun x hx => by
    have h1 := HSm.out x.P (by rw [← hp2]; exact List.mem_map_of_mem hx)
    have h2 := hd2.ok x hx
    have e1 : x.n = x.P.ss.length := h2.hn
    have e2 : x.m = x.P.cs.length := h2.hm
    exact ⟨by rw [e1]; exact h1.1, by rw [e2]; exact h1.2⟩))
  rw [hp2, K2.out] at HSet2
  clear hn2 hp2 hd2 hb2 HSet
  go_wp2_with fail
  refine Calls.mono HSet2.out ?_
  rintro e w3 ⟨A3, n3, c3, l3, rfl, hn3, hp3, hd3, hb3⟩
  simp only at hp3 ⊢
  obtain rfl : n3 = n2 := by rw [hn3, ← plats_len, hp3]; exact K3.out
  have HB3 := Lib.hid (Below.chain HB2.out hb3)
  have HN3 := Lib.hid hn3
  have HP3 := Lib.hid hp3
  have HD3 := Lib.hid hd3
  have HD23 := Lib.hid (HD2.out.below hb3)
  have d1 : ((n3 : Int) != (n3 : Int)) = false := by simp
  clear hn3 hp3 hd3 hb3 HSet2 HD2 K2
  go_wp2_with fail
  go_loopw [9, 10] (fun t x wr => ∃ i : Nat, i ≤ n3 ∧ x = .int .i64 (i : Nat) ∧ t = .bool (tB rl ep i) ∧ Below w3.heap.size w3 wr) (fun _ x _ => n3 - (intOf x).toNat)
  case atStart => exact ⟨0, by omega, rfl, rfl, Below.refl _ _⟩
  case round =>
    obtain ⟨i, hi, rfl, rfl, hW⟩ := hrel
    have HW := Lib.hid hW
    clear hW
    by_cases hlt : i < n3
    · have e1 : (i : Int) < (n3 : Int) := by omega
      have hi2 : i < l2.length := by rw [← HN2.out]; exact hlt
      have hi3 : i < l3.length := by rw [← HN3.out]; exact hlt
      obtain ⟨b2, off2, hA2, c0, c1⟩ := dk_at (HD23.out.below HW.out).rd hi2
      obtain ⟨b3, off3, hA3, g0, g1⟩ := dk_at (HD3.out.below HW.out).rd hi3
      subst hA2 hA3
      have hxok := (HD23.out.below HW.out).ok _ (List.getElem_mem hi2)
      have hyok := (HD3.out.below HW.out).ok _ (List.getElem_mem hi3)
      obtain ⟨q1, q2⟩ := K4.out i hlt
      have HTb := Lib.hid (tB_succ rl ep i)
      rw [← HP3.out, ← HP2.out, plats_at hi2, plats_at hi3] at q2
      rw [← HP2.out, plats_at hi2] at q1
      rw [show rl.getD i noPlat = l2[i].P from by rw [← HP2.out, plats_at hi2]] at HTb
      generalize l2[i] = x at c0 c1 hxok q1 q2 HTb
      generalize l3[i] = y at g0 g1 hyok q2
      obtain ⟨rg, hrg⟩ : ∃ rg, rg = getH x.P := ⟨_, rfl⟩
      rw [← hrg] at q1 q2 HTb
      obtain ⟨⟨h0, h1, h2, h3, h4, h5, h6, h7, h8, h9⟩, ge⟩ := rg
      simp only at q1 HTb
      subst q1
      have HGx := Lib.hid (fun W h => get_hd (x := x) hrg.symm W h)
      have HGy := Lib.hid (fun W h => get_hd (x := y) q2 W h)
      obtain ⟨xA, xn, xc, xB, xm, xd, xP⟩ := x
      obtain ⟨yA, yn, yc, yB, ym, yd, yP⟩ := y
      simp only at c0 c1 g0 g1
      have HXo := Lib.hid (show PB wr xA xn xB xm xP from hxok)
      have HYo := Lib.hid (show PB wr yA yn yB ym yP from hyok)
      have G0 := Lib.hid g0
      have G1 := Lib.hid g1
      clear hxok hyok q2 hrg hi2 hi3 g0 g1
      generalize tB rl ep i = b0 at HTb ⊢
      go_wp2_with fail
      refine (HGx.out _ HXo.out).mono ?_
      rintro E w9 ⟨rfl, hb9⟩
      have hb10 := Below.chain hb9 ((Below.refl w9.heap.size w9).alloc (Nat.le_refl _) (.cells #[.int .i64 h0, .int .i64 h1, .int .i64 h2, .string h3, .string h4, .string h5, .int .i64 h6, .int .i64 h7, .string h8, .string h9] 31))
      have HX9 := Lib.hid (heap_alloc_new w9 (.cells #[.int .i64 h0, .int .i64 h1, .int .i64 h2, .string h3, .string h4, .string h5, .int .i64 h6, .int .i64 h7, .string h8, .string h9] 31))
      have HY9 := Lib.hid (HYo.out.below hb10)
      have g0 := (hb10.cell (cell_lt G0.out)).trans G0.out
      have g1 := (hb10.cell (cell_lt G1.out)).trans G1.out
      have HW9 := Lib.hid (Below.chain HW.out hb10)
      clear hb9 hb10 HXo HYo HGx G0 G1 c0 c1
      go_wp2_with fail
      refine (HGy.out _ HY9.out).mono ?_
      rintro E w10 ⟨rfl, hb10⟩
      have al := (Below.refl w10.heap.size w10).alloc (Nat.le_refl _) (.cells #[.int .i64 h0, .int .i64 h1, .int .i64 h2, .string h3, .string h4, .string h5, .int .i64 h6, .int .i64 h7, .string h8, .string h9] 31)
      have hb11 := Below.chain hb10 al
      have HX11 := Lib.hid (cells_below HX9.out hb11)
      have HY11 := Lib.hid (heap_alloc_new w10 (.cells #[.int .i64 h0, .int .i64 h1, .int .i64 h2, .string h3, .string h4, .string h5, .int .i64 h6, .int .i64 h7, .string h8, .string h9] 31))
      have HW11 := Lib.hid (Below.chain HW9.out hb11)
      obtain ⟨u, hu⟩ : ∃ u, u = w10.alloc (.cells #[.int .i64 h0, .int .i64 h1, .int .i64 h2, .string h3, .string h4, .string h5, .int .i64 h6, .int .i64 h7, .string h8, .string h9] 31) := ⟨_, rfl⟩
      have Hu := Lib.hid hu
      rw [← hu] at HX11 HY11 HW11
      clear hu al hb10 hb11 HX9 HY9 HW9 HGy g0 g1
      cases b0 with
      | true =>
        have HT1 := Lib.hid (show tB rl ep (i + 1) = true by rw [HTb.out]; rfl)
        go_upto_region 15 with fail
        rw [← Hu.out]
        clear Hu HTb
        generalize w9.heap.size = G9 at *
        generalize w10.heap.size = G10 at *
        obtain ⟨⟨p0, p1, p2, p3, p4, p5, p6, p7, p8, p9⟩, _⟩ := ten_cells HX11.out
        obtain ⟨⟨r0, r1, r2, r3, r4, r5, r6, r7, r8, r9⟩, _⟩ := ten_cells HY11.out
        have f3 : (h3.toList == h3.toList) = true := beq_self_eq_true _
        have f4 : (h4.toList == h4.toList) = true := beq_self_eq_true _
        have f5 : (h5.toList == h5.toList) = true := beq_self_eq_true _
        have f6 : (h8.toList == h8.toList) = true := beq_self_eq_true _
        have f7 : (h9.toList == h9.toList) = true := beq_self_eq_true _
        go_wp2_with fail
        go_roundw
        case rel => exact ⟨i + 1, by omega, by go_num, by rw [HT1.out], HW11.out⟩
        case measure => simp [intOf]; omega
      | false =>
        rw [Bool.false_or] at HTb
        by_cases hep : h0 = ep
        · have HT1 := Lib.hid (show tB rl ep (i + 1) = true by rw [HTb.out]; exact decide_eq_true hep)
          subst hep
          go_upto_region 15 with fail
          rw [← Hu.out]
          clear Hu HTb
          generalize w9.heap.size = G9 at *
          generalize w10.heap.size = G10 at *
          obtain ⟨⟨p0, p1, p2, p3, p4, p5, p6, p7, p8, p9⟩, _⟩ := ten_cells HX11.out
          obtain ⟨⟨r0, r1, r2, r3, r4, r5, r6, r7, r8, r9⟩, _⟩ := ten_cells HY11.out
          have f3 : (h3.toList == h3.toList) = true := beq_self_eq_true _
          have f4 : (h4.toList == h4.toList) = true := beq_self_eq_true _
          have f5 : (h5.toList == h5.toList) = true := beq_self_eq_true _
          have f6 : (h8.toList == h8.toList) = true := beq_self_eq_true _
          have f7 : (h9.toList == h9.toList) = true := beq_self_eq_true _
          go_wp2_with fail
          go_roundw
          case rel => exact ⟨i + 1, by omega, by go_num, by rw [HT1.out], HW11.out⟩
          case measure => simp [intOf]; omega
        · have HT1 := Lib.hid (show tB rl ep (i + 1) = false by rw [HTb.out]; exact decide_eq_false hep)
          have f9 : (h0 == ep) = false := by simpa using hep
          clear hep
          go_upto_region 15 with fail
          rw [← Hu.out]
          clear Hu HTb
          generalize w9.heap.size = G9 at *
          generalize w10.heap.size = G10 at *
          obtain ⟨⟨p0, p1, p2, p3, p4, p5, p6, p7, p8, p9⟩, _⟩ := ten_cells HX11.out
          obtain ⟨⟨r0, r1, r2, r3, r4, r5, r6, r7, r8, r9⟩, _⟩ := ten_cells HY11.out
          have f3 : (h3.toList == h3.toList) = true := beq_self_eq_true _
          have f4 : (h4.toList == h4.toList) = true := beq_self_eq_true _
          have f5 : (h5.toList == h5.toList) = true := beq_self_eq_true _
          have f6 : (h8.toList == h8.toList) = true := beq_self_eq_true _
          have f7 : (h9.toList == h9.toList) = true := beq_self_eq_true _
          go_wp2_with fail
          go_roundw
          case rel => exact ⟨i + 1, by omega, by go_num, by rw [HT1.out], HW11.out⟩
          case measure => simp [intOf]; omega
    · obtain rfl : i = n3 := by omega
      have e1 : ¬ (i : Int) < (i : Int) := by omega
      generalize htb : tB rl ep i = tb at K5 K6 ⊢
      clear htb
      cases tb with
      | true =>
        have K := Lib.hid (K5.out rfl)
        clear K5 K6
        go_wp2_with fail
        go_loopw [15] (fun x wr => ∃ j : Nat, j ≤ i ∧ x = .int .i64 (j : Nat) ∧ Below w3.heap.size w3 wr) (fun x _ => i - (intOf x).toNat)
        case atStart => exact ⟨0, by omega, rfl, HW.out⟩
        case round =>
          obtain ⟨j, hj, rfl, hV⟩ := hrel
          have HV := Lib.hid hV
          clear hV HW
          by_cases hlt2 : j < i
          · have e2 : (j : Int) < (i : Int) := by omega
            have hj2 : j < l2.length := by rw [← HN2.out]; exact hlt2
            obtain ⟨b2, off2, hA2, c0, c1⟩ := dk_at (HD23.out.below HV.out).rd hj2
            subst hA2
            have hxok := (HD23.out.below HV.out).ok _ (List.getElem_mem hj2)
            obtain ⟨q1, _⟩ := K4.out j hlt2
            rw [← HP2.out, plats_at hj2] at q1
            have q3 := K.out j hlt2
            rw [← HP2.out, plats_at hj2] at q3
            generalize l2[j] = x at c0 c1 hxok q1 q3
            obtain ⟨rg, hrg⟩ : ∃ rg, rg = getH x.P := ⟨_, rfl⟩
            rw [← hrg] at q1 q3
            obtain ⟨⟨h0, h1, h2, h3, h4, h5, h6, h7, h8, h9⟩, ge⟩ := rg
            simp only at q1 q3
            subst q1 q3
            have HGx := Lib.hid (fun W h => get_hd (x := x) hrg.symm W h)
            obtain ⟨xA, xn, xc, xB, xm, xd, xP⟩ := x
            simp only at c0 c1
            have HXo := Lib.hid (show PB wr xA xn xB xm xP from hxok)
            clear hxok hrg hj2
            go_wp2_with fail
            refine (HGx.out _ HXo.out).mono ?_
            rintro E w9 ⟨rfl, hb9⟩
            have hb10 := Below.chain hb9 ((Below.refl w9.heap.size w9).alloc (Nat.le_refl _) (.cells #[.int .i64 h0, .int .i64 h1, .int .i64 h2, .string h3, .string h4, .string h5, .int .i64 h6, .int .i64 h7, .string h8, .string h9] 31))
            have HX9 := Lib.hid (heap_alloc_new w9 (.cells #[.int .i64 h0, .int .i64 h1, .int .i64 h2, .string h3, .string h4, .string h5, .int .i64 h6, .int .i64 h7, .string h8, .string h9] 31))
            have HW9 := Lib.hid (Below.chain HV.out hb10)
            clear hb9 hb10 HXo HGx c0 c1
            obtain ⟨u, hu⟩ : ∃ u, u = w9.alloc (.cells #[.int .i64 h0, .int .i64 h1, .int .i64 h2, .string h3, .string h4, .string h5, .int .i64 h6, .int .i64 h7, .string h8, .string h9] 31) := ⟨_, rfl⟩
            have Hu := Lib.hid hu
            rw [← hu] at HX9 HW9
            clear hu
            go_upto_region 22 with fail
            rw [← Hu.out]
            clear Hu
            generalize w9.heap.size = G9 at *
            obtain ⟨⟨p0, p1, p2, p3, p4, p5, p6, p7, p8, p9⟩, _⟩ := ten_cells HX9.out
            have f9 : (h0 != h0) = false := by simp
            go_wp2_with fail
            go_roundw
            case rel => exact ⟨j + 1, by omega, by go_num, HW9.out⟩
            case measure => simp [intOf]; omega
          · obtain rfl : j = i := by omega
            have e2 : ¬ (j : Int) < (j : Int) := by omega
            have HBV := Lib.hid (HB3.out.trans (HV.out.mono HB3.out.size))
            go_wp2_with fail
            refine Calls.mono (HCh.out _ (HT.out.below HBV.out) (HR.out.below HBV.out)) ?_
            rintro e w12 ⟨rfl, hb12⟩
            have HB12 := Lib.hid (Below.chain HBV.out hb12)
            clear hb12
            go_wp2_with fail
            go_ret
            exact ⟨rfl, HB12.out⟩
      | false =>
        have K := Lib.hid (K6.out rfl)
        clear K5 K6
        go_wp2_with fail
        go_loopw [15] (fun x wr => ∃ j : Nat, j ≤ i ∧ x = .int .i64 (j : Nat) ∧ Below w3.heap.size w3 wr) (fun x _ => i - (intOf x).toNat)
        case atStart => exact ⟨0, by omega, rfl, HW.out⟩
        case round =>
          obtain ⟨j, hj, rfl, hV⟩ := hrel
          have HV := Lib.hid hV
          clear hV HW
          by_cases hlt2 : j < i
          · have e2 : (j : Int) < (i : Int) := by omega
            have hj2 : j < l2.length := by rw [← HN2.out]; exact hlt2
            obtain ⟨b2, off2, hA2, c0, c1⟩ := dk_at (HD23.out.below HV.out).rd hj2
            subst hA2
            have hxok := (HD23.out.below HV.out).ok _ (List.getElem_mem hj2)
            obtain ⟨q1, _⟩ := K4.out j hlt2
            rw [← HP2.out, plats_at hj2] at q1
            generalize l2[j] = x at c0 c1 hxok q1
            obtain ⟨rg, hrg⟩ : ∃ rg, rg = getH x.P := ⟨_, rfl⟩
            rw [← hrg] at q1
            obtain ⟨⟨h0, h1, h2, h3, h4, h5, h6, h7, h8, h9⟩, ge⟩ := rg
            simp only at q1
            subst q1
            have HGx := Lib.hid (fun W h => get_hd (x := x) hrg.symm W h)
            obtain ⟨xA, xn, xc, xB, xm, xd, xP⟩ := x
            simp only at c0 c1
            have HXo := Lib.hid (show PB wr xA xn xB xm xP from hxok)
            clear hxok hrg hj2
            go_wp2_with fail
            refine (HGx.out _ HXo.out).mono ?_
            rintro E w9 ⟨rfl, hb9⟩
            have hb10 := Below.chain hb9 ((Below.refl w9.heap.size w9).alloc (Nat.le_refl _) (.cells #[.int .i64 h0, .int .i64 h1, .int .i64 h2, .string h3, .string h4, .string h5, .int .i64 h6, .int .i64 h7, .string h8, .string h9] 31))
            have HX9 := Lib.hid (heap_alloc_new w9 (.cells #[.int .i64 h0, .int .i64 h1, .int .i64 h2, .string h3, .string h4, .string h5, .int .i64 h6, .int .i64 h7, .string h8, .string h9] 31))
            have HW9 := Lib.hid (Below.chain HV.out hb10)
            clear hb9 hb10 HXo HGx c0 c1
            obtain ⟨u, hu⟩ : ∃ u, u = w9.alloc (.cells #[.int .i64 h0, .int .i64 h1, .int .i64 h2, .string h3, .string h4, .string h5, .int .i64 h6, .int .i64 h7, .string h8, .string h9] 31) := ⟨_, rfl⟩
            have Hu := Lib.hid hu
            rw [← hu] at HX9 HW9
            clear hu
            go_upto_region 22 with fail
            rw [← Hu.out]
            clear Hu
            generalize w9.heap.size = G9 at *
            obtain ⟨⟨p0, p1, p2, p3, p4, p5, p6, p7, p8, p9⟩, _⟩ := ten_cells HX9.out
            go_wp2_with fail
            go_roundw
            case rel => exact ⟨j + 1, by omega, by go_num, HW9.out⟩
            case measure => simp [intOf]; omega
          · obtain rfl : j = i := by omega
            have e2 : ¬ (j : Int) < (j : Int) := by omega
            have HBV := Lib.hid (HB3.out.trans (HV.out.mono HB3.out.size))
            go_wp2_with fail
            refine Calls.mono (HCh.out _ (HT.out.below HBV.out) (HR.out.below HBV.out)) ?_
            rintro e w12 ⟨rfl, hb12⟩
            have HB12 := Lib.hid (Below.chain HBV.out hb12)
            have Hb12 := Lib.hid hb12
            clear hb12
            go_wp2_with fail
            refine Calls.mono (same23_any A2 A j c2 c l2 l w12 (HD23.out.below (HV.out.trans (Hb12.out.mono HV.out.size))) (HD.out.below HB12.out) HN2.out (by rw [HP2.out, K.out]) (by omega) (fun x hx => ?_)) ?_
            · have e3 : plats l2 = plats l := by rw [HP2.out, K.out]
              have hP : x.P ∈ plats l := by rw [← e3]; exact List.mem_map_of_mem hx
              obtain ⟨x2, hx2, e4⟩ := List.mem_map.1 hP
              have h1 := HZ.out x2 hx2
              have h2 := HD.out.ok x2 hx2
              have h3 := HD23.out.ok x hx
              have e5 : x2.n = x2.P.ss.length := h2.hn
              have e6 : x2.m = x2.P.cs.length := h2.hm
              have e7 : x.n = x.P.ss.length := h3.hn
              have e8 : x.m = x.P.cs.length := h3.hm
              rw [← e4, ← e5] at e7
              rw [← e4, ← e6] at e8
              omega
            · rintro e w13 ⟨rfl, hb13⟩
              have HB13 := Lib.hid (Below.chain HB12.out hb13)
              clear hb13
              go_wp2_with fail
              go_ret
              exact ⟨rfl, HB13.out⟩

end Go.Proofs.YtgkihdhjafmnnaaGreatDoor
