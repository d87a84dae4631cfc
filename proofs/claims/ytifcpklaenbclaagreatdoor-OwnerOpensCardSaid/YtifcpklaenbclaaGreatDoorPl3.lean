/-
  Contract of pledge.Witness.
-/
import Derived.Test.YtifcpklaenbclaaGreatDoorPl
import Derived.Laws.StructEq
import Derived.BigQuiet
import Derived.Deep.Cut
import Derived.Deep.CutRange
namespace Go.Proofs.YtifcpklaenbclaaGreatDoor
open Go.RowKit
set_option linter.unusedVariables false
set_option linter.unusedSimpArgs false
set_option maxRecDepth 100000
set_option maxHeartbeats 2000000

theorem cells_three {w : World} {g : Nat} {t : TypeId} {a b c : Value} (h : w.heap[g]? = some (.cells #[a, b, c] t (0, 0))) (y : Later w) :
    y.x.cell? ⟨g, 0, none⟩ = some a ∧ y.x.cell? ⟨g, 1, none⟩ = some b ∧ y.x.cell? ⟨g, 2, none⟩ = some c :=
  have h' := cells_below h y.ok
  ⟨cell_in' h' 0 _ rfl, cell_in' h' 1 _ rfl, cell_in' h' 2 _ rfl⟩
theorem Later.rounds {w : World} (y : Later w) (h : Rounds w) : Rounds y.x := h.below y.ok
/-- Witness: are there two texts of one Sum? -/
def witB (s : ByteArray) (p : Shr) (o : ByteArray) (q : Shr) : Bool := brightB s p && brightB o q && !(decide (s = o) && decide (p = q)) && decide (sumT s p = sumT o q)
def witP (s : ByteArray) (p : Shr) (o : ByteArray) (q : Shr) : ByteArray := if witB s p o q = true then btextB s p else ⟨#[]⟩
def witQ (s : ByteArray) (p : Shr) (o : ByteArray) (q : Shr) : ByteArray := if witB s p o q = true then btextB o q else ⟨#[]⟩
def WitR (w : World) (a b : ByteArray) (c : Bool) (e : Ending) (w' : World) : Prop := e = .returned (.tuple #[.string a, .string b, .bool c]) ∧ Below w.heap.size w w'
theorem wit_no {s o : ByteArray} {p q : Shr} (w : World) (h : witB s p o q = false) : WitR w (witP s p o q) (witQ s p o q) (witB s p o q) = WitR w ⟨#[]⟩ ⟨#[]⟩ false := by unfold witP witQ; rw [h]; rfl
theorem wit_yes {s o : ByteArray} {p q : Shr} (w : World) (h : witB s p o q = true) : WitR w (witP s p o q) (witQ s p o q) (witB s p o q) = WitR w (btextB s p) (btextB o q) true := by unfold witP witQ; rw [h]; rfl
theorem al4 (w : World) (o1 o2 o3 o4 : Obj) : (((((w.alloc o1).alloc o2).alloc o3).alloc o4).drew).heap[w.heap.size + 1 + 1]? = some o3 ∧ (((((w.alloc o1).alloc o2).alloc o3).alloc o4).drew).heap[w.heap.size + 1 + 1 + 1]? = some o4 ∧ Below w.heap.size w ((((w.alloc o1).alloc o2).alloc o3).alloc o4).drew := by
  have h3 := heap_alloc_new ((w.alloc o1).alloc o2) o3
  have h4 := heap_alloc_new (((w.alloc o1).alloc o2).alloc o3) o4
  simp only [World.size_alloc] at h3 h4
  refine ⟨(Below.heap_alloc _ _ _ (by simp)).trans h3, h4, ?_⟩
  exact (((((Below.refl _ _).alloc (Nat.le_refl _) _).alloc (by simp) _).alloc (by simp; omega) _).alloc (by simp; omega) _).drew
theorem wit_any (s : ByteArray) (x : Int) (b : ByteArray) (o : ByteArray) (z : Int) (d : ByteArray) (w : World) (hR : Rounds w) :
    Calls Tryz.prog 28 #[.string s, .agg #[.int .i64 x, .string b], .string o, .agg #[.int .i64 z, .string d]] w (WitR w (witP s (x, b) o (z, d)) (witQ s (x, b) o (z, d)) (witB s (x, b) o (z, d))) := by
  have HR := Lib.hid hR
  have HN := Lib.hid (fun h => wit_no (s := s) (o := o) (p := (x, b)) (q := (z, d)) w h)
  have HY := Lib.hid (fun h => wit_yes (s := s) (o := o) (p := (x, b)) (q := (z, d)) w h)
  generalize WitR w (witP s (x, b) o (z, d)) (witQ s (x, b) o (z, d)) (witB s (x, b) o (z, d)) = Q at HN HY ⊢
  clear hR
  go_enter Tryz.func28, Tryz.ntmps28
  go_wp2_with fail
  go_cut [11, 12] from 13 to 18 (fun v11 v12 wc => ∃ ga gb : Nat, v11 = .pointer (some ⟨ga, 0, none⟩) ∧ v12 = .pointer (some ⟨gb, 0, none⟩) ∧ wc.heap[ga]? = some (.cells #[.string s, .int .i64 x, .string b] 94 (0, 0)) ∧ wc.heap[gb]? = some (.cells #[.string o, .int .i64 z, .string d] 94 (0, 0)) ∧ Below w.heap.size w wc)
  case first =>
    go_region
    all_goals
      go_wp2_with fail
      go_meet
      case rel =>
        first
          | exact ⟨_, _, rfl, rfl, (al4 _ _ _ _ _).1, (al4 _ _ _ _ _).2.1, (al4 _ _ _ _ _).2.2⟩
          | exact ⟨_, _, rfl, rfl, (al4 _ _ _ _ _).2.1, (al4 _ _ _ _ _).1, (al4 _ _ _ _ _).2.2⟩
  case rest =>
    obtain ⟨ga, gb, rfl, rfl, hA, hB, hW⟩ := hcut
    have HA := Lib.hid hA
    have HB := Lib.hid hB
    have HW := Lib.hid hW
    have xa0 := fun y : Later wc => (cells_three hA y).1
    have xa1 := fun y : Later wc => (cells_three hA y).2.1
    have xa2 := fun y : Later wc => (cells_three hA y).2.2
    have xb0 := fun y : Later wc => (cells_three hB y).1
    have xb1 := fun y : Later wc => (cells_three hB y).2.1
    have xb2 := fun y : Later wc => (cells_three hB y).2.2
    have HCa := Lib.hid (fun y : Later wc => later_call (y := y) (bright_any s x b y.x))
    have HCb := Lib.hid (fun y : Later wc => later_call (y := y) (bright_any o z d y.x))
    clear hA hB hW
    cases hra : brightB s (x, b) with
    | false =>
      have HE := Lib.hid (show witB s (x, b) o (z, d) = false by rw [witB, hra]; rfl)
      rw [hra] at HCa
      clear hra
      go_wp2_with fail
      refine wp_region_later (by kernel_rfl) (by kernel_rfl) ?_
      repeat (go_big_quiet_step (first | with_reducible exact HCa.out _ | with_reducible exact HCb.out _))
      refine wpQuiet_nil ?_
      rintro _ ⟨y, rfl⟩
      go_wp2_with fail
      try go_ret3
      rw [HN.out HE.out]
      exact ⟨rfl, HW.out.trans (y.ok.mono HW.out.size)⟩
    | true =>
    have Hra := Lib.hid hra
    rw [hra] at HCa
    cases hrb : brightB o (z, d) with
    | false =>
      have HE := Lib.hid (show witB s (x, b) o (z, d) = false by rw [witB, hra, hrb]; rfl)
      rw [hrb] at HCb
      clear hra hrb
      go_wp2_with fail
      refine wp_region_later (by kernel_rfl) (by kernel_rfl) ?_
      repeat (go_big_quiet_step (first | with_reducible exact HCa.out _ | with_reducible exact HCb.out _))
      refine wpQuiet_nil ?_
      rintro _ ⟨y, rfl⟩
      go_wp2_with fail
      try go_ret3
      rw [HN.out HE.out]
      exact ⟨rfl, HW.out.trans (y.ok.mono HW.out.size)⟩
    | true =>
    have Hrb := Lib.hid hrb
    rw [hrb] at HCb
    have HEq := Lib.hid (show witB s (x, b) o (z, d) = (!(decide (s = o) && decide ((x, b) = (z, d))) && decide (sumT s (x, b) = sumT o (z, d))) by rw [witB, hra, hrb]; rfl)
    have HSa := Lib.hid (fun y : Later wc => later_call (y := y) (psum_any s x b y.x (y.rounds (HR.out.below HW.out)) Hra.out))
    have HSb := Lib.hid (fun y : Later wc => later_call (y := y) (psum_any o z d y.x (y.rounds (HR.out.below HW.out)) Hrb.out))
    clear hra hrb
    by_cases he : s = o ∧ x = z ∧ b = d
    · obtain ⟨rfl, rfl, rfl⟩ := he
      have HE := Lib.hid (show witB s (x, b) s (x, b) = false by rw [HEq.out]; simp)
      have d0 : (s.toList == s.toList) = true := beq_self_eq_true _
      have d1 : (b.toList == b.toList) = true := beq_self_eq_true _
      go_wp2_with fail
      refine wp_region_later (by kernel_rfl) (by kernel_rfl) ?_
      repeat (go_big_quiet_step (first | with_reducible exact HCa.out _ | with_reducible exact HCb.out _))
      refine wpQuiet_nil ?_
      rintro _ ⟨y, rfl⟩
      go_wp2_with fail
      try go_ret3
      rw [HN.out HE.out]
      exact ⟨rfl, HW.out.trans (y.ok.mono HW.out.size)⟩
    have HEq2 := Lib.hid (show witB s (x, b) o (z, d) = decide (sumT s (x, b) = sumT o (z, d)) by
      rw [HEq.out]
      have : (decide (s = o) && decide ((x, b) = (z, d))) = false := by
        simp only [Prod.mk.injEq]
        simpa using he
      rw [this]
      rfl)
    have HK := Lib.hid he
    clear he HEq
    by_cases k1 : s = o
    · obtain rfl := k1
      have d0 : (s.toList == s.toList) = true := beq_self_eq_true _
      by_cases k2 : x = z
      · obtain rfl := k2
        have k3 : b ≠ d := fun e => HK.out ⟨rfl, rfl, e⟩
        have d3 := text_ne' k3
        clear k3 HK
        by_cases hs : sumT s (x, b) = sumT s (x, d)
        · have HE := Lib.hid (show witB s (x, b) s (x, d) = true by rw [HEq2.out, decide_eq_true hs])
          rw [← hs] at HSb
          generalize sumT s (x, b) = ss at HSa HSb
          have d2 : (ss.toList == ss.toList) = true := beq_self_eq_true _
          clear hs HEq2
          go_wp2_with fail
          refine wp_region_later (by kernel_rfl) (by kernel_rfl) ?_
          repeat (go_big_quiet_step (first | with_reducible exact HCa.out _ | with_reducible exact HCb.out _ | with_reducible exact HSa.out _ | with_reducible exact HSb.out _))
          refine wpQuiet_nil ?_
          rintro _ ⟨y, rfl⟩
          go_wp2_with fail
          refine wp_region_later (by kernel_rfl) (by kernel_rfl) ?_
          have xa0 := fun u : Later y.x => (cells_three (cells_below HA.out y.ok) u).1
          have xa1 := fun u : Later y.x => (cells_three (cells_below HA.out y.ok) u).2.1
          have xa2 := fun u : Later y.x => (cells_three (cells_below HA.out y.ok) u).2.2
          have xb0 := fun u : Later y.x => (cells_three (cells_below HB.out y.ok) u).1
          have xb1 := fun u : Later y.x => (cells_three (cells_below HB.out y.ok) u).2.1
          have xb2 := fun u : Later y.x => (cells_three (cells_below HB.out y.ok) u).2.2
          have HTa := Lib.hid (fun u : Later y.x => later_call (y := u) (btext_any s x b u.x Hra.out))
          have HTb := Lib.hid (fun u : Later y.x => later_call (y := u) (btext_any s x d u.x Hrb.out))
          repeat (go_big_quiet_step (first | with_reducible exact HTa.out _ | with_reducible exact HTb.out _))
          refine wpQuiet_nil ?_
          rintro _ ⟨u, rfl⟩
          go_wp2_with fail
          try go_ret3
          rw [HY.out HE.out]
          exact ⟨rfl, HW.out.trans ((Below.chain y.ok u.ok).mono HW.out.size)⟩
        · have HE := Lib.hid (show witB s (x, b) s (x, d) = false by rw [HEq2.out, decide_eq_false hs])
          have d2 := text_ne' hs
          generalize sumT s (x, b) = s1 at HSa d2
          generalize sumT s (x, d) = s2 at HSb d2
          clear hs HEq2
          go_wp2_with fail
          refine wp_region_later (by kernel_rfl) (by kernel_rfl) ?_
          repeat (go_big_quiet_step (first | with_reducible exact HCa.out _ | with_reducible exact HCb.out _ | with_reducible exact HSa.out _ | with_reducible exact HSb.out _))
          refine wpQuiet_nil ?_
          rintro _ ⟨y, rfl⟩
          go_wp2_with fail
          try go_ret3
          rw [HN.out HE.out]
          exact ⟨rfl, HW.out.trans (y.ok.mono HW.out.size)⟩
      · have d3 : (x == z) = false := beq_eq_false_iff_ne.2 k2
        clear k2 HK
        by_cases hs : sumT s (x, b) = sumT s (z, d)
        · have HE := Lib.hid (show witB s (x, b) s (z, d) = true by rw [HEq2.out, decide_eq_true hs])
          rw [← hs] at HSb
          generalize sumT s (x, b) = ss at HSa HSb
          have d2 : (ss.toList == ss.toList) = true := beq_self_eq_true _
          clear hs HEq2
          go_wp2_with fail
          refine wp_region_later (by kernel_rfl) (by kernel_rfl) ?_
          repeat (go_big_quiet_step (first | with_reducible exact HCa.out _ | with_reducible exact HCb.out _ | with_reducible exact HSa.out _ | with_reducible exact HSb.out _))
          refine wpQuiet_nil ?_
          rintro _ ⟨y, rfl⟩
          go_wp2_with fail
          refine wp_region_later (by kernel_rfl) (by kernel_rfl) ?_
          have xa0 := fun u : Later y.x => (cells_three (cells_below HA.out y.ok) u).1
          have xa1 := fun u : Later y.x => (cells_three (cells_below HA.out y.ok) u).2.1
          have xa2 := fun u : Later y.x => (cells_three (cells_below HA.out y.ok) u).2.2
          have xb0 := fun u : Later y.x => (cells_three (cells_below HB.out y.ok) u).1
          have xb1 := fun u : Later y.x => (cells_three (cells_below HB.out y.ok) u).2.1
          have xb2 := fun u : Later y.x => (cells_three (cells_below HB.out y.ok) u).2.2
          have HTa := Lib.hid (fun u : Later y.x => later_call (y := u) (btext_any s x b u.x Hra.out))
          have HTb := Lib.hid (fun u : Later y.x => later_call (y := u) (btext_any s z d u.x Hrb.out))
          repeat (go_big_quiet_step (first | with_reducible exact HTa.out _ | with_reducible exact HTb.out _))
          refine wpQuiet_nil ?_
          rintro _ ⟨u, rfl⟩
          go_wp2_with fail
          try go_ret3
          rw [HY.out HE.out]
          exact ⟨rfl, HW.out.trans ((Below.chain y.ok u.ok).mono HW.out.size)⟩
        · have HE := Lib.hid (show witB s (x, b) s (z, d) = false by rw [HEq2.out, decide_eq_false hs])
          have d2 := text_ne' hs
          generalize sumT s (x, b) = s1 at HSa d2
          generalize sumT s (z, d) = s2 at HSb d2
          clear hs HEq2
          go_wp2_with fail
          refine wp_region_later (by kernel_rfl) (by kernel_rfl) ?_
          repeat (go_big_quiet_step (first | with_reducible exact HCa.out _ | with_reducible exact HCb.out _ | with_reducible exact HSa.out _ | with_reducible exact HSb.out _))
          refine wpQuiet_nil ?_
          rintro _ ⟨y, rfl⟩
          go_wp2_with fail
          try go_ret3
          rw [HN.out HE.out]
          exact ⟨rfl, HW.out.trans (y.ok.mono HW.out.size)⟩
    · have d3 := text_ne' k1
      clear k1 HK
      by_cases hs : sumT s (x, b) = sumT o (z, d)
      · have HE := Lib.hid (show witB s (x, b) o (z, d) = true by rw [HEq2.out, decide_eq_true hs])
        rw [← hs] at HSb
        generalize sumT s (x, b) = ss at HSa HSb
        have d2 : (ss.toList == ss.toList) = true := beq_self_eq_true _
        clear hs HEq2
        go_wp2_with fail
        refine wp_region_later (by kernel_rfl) (by kernel_rfl) ?_
        repeat (go_big_quiet_step (first | with_reducible exact HCa.out _ | with_reducible exact HCb.out _ | with_reducible exact HSa.out _ | with_reducible exact HSb.out _))
        refine wpQuiet_nil ?_
        rintro _ ⟨y, rfl⟩
        go_wp2_with fail
        refine wp_region_later (by kernel_rfl) (by kernel_rfl) ?_
        have xa0 := fun u : Later y.x => (cells_three (cells_below HA.out y.ok) u).1
        have xa1 := fun u : Later y.x => (cells_three (cells_below HA.out y.ok) u).2.1
        have xa2 := fun u : Later y.x => (cells_three (cells_below HA.out y.ok) u).2.2
        have xb0 := fun u : Later y.x => (cells_three (cells_below HB.out y.ok) u).1
        have xb1 := fun u : Later y.x => (cells_three (cells_below HB.out y.ok) u).2.1
        have xb2 := fun u : Later y.x => (cells_three (cells_below HB.out y.ok) u).2.2
        have HTa := Lib.hid (fun u : Later y.x => later_call (y := u) (btext_any s x b u.x Hra.out))
        have HTb := Lib.hid (fun u : Later y.x => later_call (y := u) (btext_any o z d u.x Hrb.out))
        repeat (go_big_quiet_step (first | with_reducible exact HTa.out _ | with_reducible exact HTb.out _))
        refine wpQuiet_nil ?_
        rintro _ ⟨u, rfl⟩
        go_wp2_with fail
        try go_ret3
        rw [HY.out HE.out]
        exact ⟨rfl, HW.out.trans ((Below.chain y.ok u.ok).mono HW.out.size)⟩
      · have HE := Lib.hid (show witB s (x, b) o (z, d) = false by rw [HEq2.out, decide_eq_false hs])
        have d2 := text_ne' hs
        generalize sumT s (x, b) = s1 at HSa d2
        generalize sumT o (z, d) = s2 at HSb d2
        clear hs HEq2
        go_wp2_with fail
        refine wp_region_later (by kernel_rfl) (by kernel_rfl) ?_
        repeat (go_big_quiet_step (first | with_reducible exact HCa.out _ | with_reducible exact HCb.out _ | with_reducible exact HSa.out _ | with_reducible exact HSb.out _))
        refine wpQuiet_nil ?_
        rintro _ ⟨y, rfl⟩
        go_wp2_with fail
        try go_ret3
        rw [HN.out HE.out]
        exact ⟨rfl, HW.out.trans (y.ok.mono HW.out.size)⟩
end Go.Proofs.YtifcpklaenbclaaGreatDoor
