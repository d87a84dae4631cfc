/-
  Contracts of the document's Big (volumes), and of the laws' far, volumes.
  Contract of the document's Big at any disk. Contracts of the vault's law: Same of volumes, far.
  Contracts of the document's volume's and vault's Format; of the law's far with its bounds.
  Contracts of the document's vault (keyholeref26): Store.
  Contract of the vault law's rows. (Printed by gen_vaults.py.)
  Contracts of platter.Write, Sync and twin.Put that tell that the sectors handed back are the call's own (printed by gen_fresh.py).
  Contract of vault.Store that tells that the sectors handed back are the call's own (printed by gen_fresh.py).
  The law VaultDoes, walked.
-/
import Derived.Test.YtieekajjoikepaaGreatDoorVo4
import Derived.Test.YtieekajjoikepaaGreatDoorVolC
import Derived.Test.YtieekajjoikepaaGreatDoorMany
import Derived.Test.YtieekajjoikepaaGreatDoorPw
import Derived.Test.YtieekajjoikepaaGreatDoorVh
import Derived.Test.YtieekajjoikepaaGreatDoorTxt
import Derived.Test.YtieekajjoikepaaGreatDoorVdoesMid
import Derived.Test.YtieekajjoikepaaGreatDoorVa8
import Derived.Test.YtieekajjoikepaaGreatDoorVaT4
import Derived.Test.YtieekajjoikepaaGreatDoorTw
namespace Go.Proofs.YtieekajjoikepaaGreatDoor
/- VoL -/
section
open Go.RowKit
set_option linter.unusedVariables false
set_option linter.unusedSimpArgs false
set_option maxRecDepth 100000
set_option maxHeartbeats 4000000

def AnyB (w : World) (e : Ending) (w' : World) : Prop := ∃ b, e = .returned (.bool b) ∧ Below w.heap.size w w'
theorem big16_any (v : Value) (V : Vol) (w : World) (hv : VV w v V) (hl : V.bl.length ≤ maxLen) : Calls Tryz.prog 18 #[v] w (AnyB w) := by
  obtain ⟨A, n, c, rfl, hA, hn⟩ := hv
  obtain ⟨bl, rt⟩ := V
  simp only at hA hn hl ⊢
  have HA := Lib.hid hA
  have HN := Lib.hid hn
  have hnm : n ≤ 9223372036854775807 := by unfold maxLen at hl; omega
  have HW := Lib.hid ((Below.refl w.heap.size w).alloc (Nat.le_refl _) (.cells #[.slice A n c, .string rt] 27))
  have HX := Lib.hid (heap_alloc_new w (.cells #[.slice A n c, .string rt] 27))
  have x0 := rf_at HX.out 0 _ rfl
  have x1 := rf_at HX.out 1 _ rfl
  clear hA hn hl
  have main : ∀ (a : Prop), True := fun _ => trivial
  by_cases h8 : 8 < n ∧ n ≤ 64
  · have e1 : decide ((n : Int) > 8) = true := decide_eq_true (by omega)
    have e2 : decide ((n : Int) ≤ 64) = true := decide_eq_true (by omega)
    have e3 : 8 < n := h8.1
    have e4 : n ≤ 64 := h8.2
    clear h8
    go_enter Tryz.func18, Tryz.ntmps18
    go_wp2_with fail
    go_ret
    exact ⟨_, rfl, HW.out⟩
  by_cases h100 : 100 < n
  · have e1 : decide ((n : Int) > 8) = true := decide_eq_true (by omega)
    have e2 : decide ((n : Int) ≤ 64) = false := decide_eq_false (by omega)
    have e3 : decide ((n : Int) > 100) = true := decide_eq_true (by omega)
    have e4 : 8 < n := by omega
    have e5 : ¬ n ≤ 64 := by omega
    clear h8
    go_enter Tryz.func18, Tryz.ntmps18
    go_wp2_with fail
    go_ret
    exact ⟨_, rfl, HW.out⟩
  have e3 : decide ((n : Int) > 100) = false := decide_eq_false (by omega)
  have e3' : ¬ 100 < n := h100
  have hn100 : n ≤ 100 := by omega
  have hcase : (decide ((n : Int) > 8) = false ∧ ¬ 8 < n) ∨ (decide ((n : Int) > 8) = true ∧ 8 < n ∧ decide ((n : Int) ≤ 64) = false ∧ ¬ n ≤ 64) := by
    by_cases h : 8 < n
    · exact .inr ⟨decide_eq_true (by omega), h, decide_eq_false (by omega), by omega⟩
    · exact .inl ⟨decide_eq_false (by omega), h⟩
  clear h8 h100 main
  by_cases hr : 100 < rt.size
  · have e4 : decide ((rt.size : Int) > 100) = true := decide_eq_true (by omega)
    clear hr
    rcases hcase with ⟨e1, e1'⟩ | ⟨e1, e1', e2, e2'⟩
    · go_enter Tryz.func18, Tryz.ntmps18
      go_wp2_with fail
      go_ret
      exact ⟨_, rfl, HW.out⟩
    · go_enter Tryz.func18, Tryz.ntmps18
      go_wp2_with fail
      go_ret
      exact ⟨_, rfl, HW.out⟩
  have e4 : decide ((rt.size : Int) > 100) = false := decide_eq_false (by omega)
  clear hr
  rcases hcase with ⟨e1, e1'⟩ | ⟨e1, e1', e2, e2'⟩
  · go_enter Tryz.func18, Tryz.ntmps18
    go_wp2_with fail
    clear x0 x1
    go_loopw [3] (fun x wr => ∃ i : Nat, i ≤ n ∧ x = .int .i64 (i : Nat) ∧ wr.heap[w.heap.size]? = some (.cells #[.slice A n c, .string rt] 27 (0, 0)) ∧ Below w.heap.size w wr) (fun x _ => n - (intOf x).toNat)
    case atStart => exact ⟨0, by omega, rfl, HX.out, HW.out⟩
    case round =>
      clear HX HW
      obtain ⟨i, hi, rfl, hX, hW⟩ := hrel
      have HX := Lib.hid hX
      have HW := Lib.hid hW
      have x0 := rf_at hX 0 _ rfl
      clear hX hW
      by_cases hlt : i < n
      · have d1 : decide ((i : Int) < (n : Int)) = true := by simp; omega
        have hil : i < bl.length := by rw [← HN.out]; exact hlt
        obtain ⟨b, off, hbA, c1⟩ := texts_at (HA.out.below HW.out) hil
        subst hbA
        generalize bl[i] = s at c1
        clear hil
        go_wp2_with fail
        · go_ret
          exact ⟨_, rfl, HW.out⟩
        · go_roundw
          case rel => exact ⟨i + 1, by omega, by go_num, HX.out, HW.out⟩
          case measure => simp [intOf]; omega
      · obtain rfl : i = n := by omega
        have d1 : decide ((i : Int) < (i : Int)) = false := by simp
        go_wp2_with fail
        go_ret
        exact ⟨_, rfl, HW.out⟩
  · go_enter Tryz.func18, Tryz.ntmps18
    go_wp2_with fail
    clear x0 x1
    go_loopw [3] (fun x wr => ∃ i : Nat, i ≤ n ∧ x = .int .i64 (i : Nat) ∧ wr.heap[w.heap.size]? = some (.cells #[.slice A n c, .string rt] 27 (0, 0)) ∧ Below w.heap.size w wr) (fun x _ => n - (intOf x).toNat)
    case atStart => exact ⟨0, by omega, rfl, HX.out, HW.out⟩
    case round =>
      clear HX HW
      obtain ⟨i, hi, rfl, hX, hW⟩ := hrel
      have HX := Lib.hid hX
      have HW := Lib.hid hW
      have x0 := rf_at hX 0 _ rfl
      clear hX hW
      by_cases hlt : i < n
      · have d1 : decide ((i : Int) < (n : Int)) = true := by simp; omega
        have hil : i < bl.length := by rw [← HN.out]; exact hlt
        obtain ⟨b, off, hbA, c1⟩ := texts_at (HA.out.below HW.out) hil
        subst hbA
        generalize bl[i] = s at c1
        clear hil
        go_wp2_with fail
        · go_ret
          exact ⟨_, rfl, HW.out⟩
        · go_roundw
          case rel => exact ⟨i + 1, by omega, by go_num, HX.out, HW.out⟩
          case measure => simp [intOf]; omega
      · obtain rfl : i = n := by omega
        have d1 : decide ((i : Int) < (i : Int)) = false := by simp
        go_wp2_with fail
        go_ret
        exact ⟨_, rfl, HW.out⟩
end

/- Bp -/
section
/- BigP -/
open Go.RowKit
set_option linter.unusedVariables false
set_option linter.unusedSimpArgs false
set_option maxRecDepth 100000
set_option maxHeartbeats 2000000

/- VaL -/
open Go.RowKit
set_option linter.unusedVariables false
set_option linter.unusedSimpArgs false
set_option maxRecDepth 100000
set_option maxHeartbeats 2000000

/-- Are two volumes the same? -/
def sameV (a b : Vol) : Bool := decide (a.bl = b.bl) && decide (a.rt = b.rt)
theorem sameV_true {a b : Vol} : sameV a b = true ↔ a = b := by
  obtain ⟨l, s⟩ := a
  obtain ⟨m, u⟩ := b
  simp [sameV]
theorem same16_any (v1 v2 : Value) (V1 V2 : Vol) (w : World) (h1 : VV w v1 V1) (h2 : VV w v2 V2) (hl : V1.bl.length ≤ 100000) :
    Calls Tryz.prog 13 #[v1, v2] w fun e w' => e = .returned (.bool (sameV V1 V2)) ∧ Below w.heap.size w w' := by
  obtain ⟨A1, n1, c1, rfl, r1, k1⟩ := h1
  obtain ⟨A2, n2, c2, rfl, r2, k2⟩ := h2
  obtain ⟨l, a⟩ := V1
  obtain ⟨m, b⟩ := V2
  simp only at r1 k1 r2 k2 hl ⊢
  obtain ⟨x1, x2, kb, ksz⟩ := va_al2 w (.cells #[.slice A1 n1 c1, .string a] 27) (.cells #[.slice A2 n2 c2, .string b] 27)
  have HT := Lib.hid (fun W h h' => texts_any l m A1 A2 n1 c1 n2 c2 W h h' k1 k2 hl)
  have HR1 := Lib.hid (r1.below kb)
  have HR2 := Lib.hid (r2.below kb)
  have HB := Lib.hid kb
  have HX := Lib.hid x1
  have HY := Lib.hid x2
  obtain ⟨a0, a1⟩ := vtwo_cells x1
  obtain ⟨b0, b1⟩ := vtwo_cells x2
  clear r1 r2 k1 k2 x1 x2 kb ksz hl
  by_cases hlm : l = m
  · rw [decide_eq_true hlm] at HT
    by_cases hab : a = b
    · rw [show sameV ⟨l, a⟩ ⟨m, b⟩ = true by simp [sameV, hlm, hab]]
      subst hab
      have d1 : (a.toList == a.toList) = true := beq_self_eq_true _
      clear hlm
      go_enter Tryz.func13, Tryz.ntmps13
      go_wp2_with fail
      refine (HT.out _ HR1.out HR2.out).mono ?_
      rintro e w1 ⟨rfl, hb1⟩
      have HB1 := Lib.hid (HB.out.trans (hb1.mono HB.out.size))
      obtain ⟨_, a1'⟩ := vtwo_cells (cells_below HX.out hb1)
      obtain ⟨_, b1'⟩ := vtwo_cells (cells_below HY.out hb1)
      clear hb1 a0 a1 b0 b1
      go_wp2_with fail
      go_ret
      exact ⟨rfl, HB1.out⟩
    · rw [show sameV ⟨l, a⟩ ⟨m, b⟩ = false by simp [sameV, hab]]
      have d1 := text_ne' hab
      clear hlm hab
      go_enter Tryz.func13, Tryz.ntmps13
      go_wp2_with fail
      refine (HT.out _ HR1.out HR2.out).mono ?_
      rintro e w1 ⟨rfl, hb1⟩
      have HB1 := Lib.hid (HB.out.trans (hb1.mono HB.out.size))
      obtain ⟨_, a1'⟩ := vtwo_cells (cells_below HX.out hb1)
      obtain ⟨_, b1'⟩ := vtwo_cells (cells_below HY.out hb1)
      clear hb1 a0 a1 b0 b1
      go_wp2_with fail
      go_ret
      exact ⟨rfl, HB1.out⟩
  · rw [decide_eq_false hlm] at HT
    rw [show sameV ⟨l, a⟩ ⟨m, b⟩ = false by simp [sameV, hlm]]
    clear hlm
    go_enter Tryz.func13, Tryz.ntmps13
    go_wp2_with fail
    refine (HT.out _ HR1.out HR2.out).mono ?_
    rintro e w1 ⟨rfl, hb1⟩
    have HB1 := Lib.hid (HB.out.trans (hb1.mono HB.out.size))
    clear hb1 a0 a1 b0 b1
    go_wp2_with fail
    go_ret
    exact ⟨rfl, HB1.out⟩
end

/- R26d -/
section
open Go.RowKit
set_option linter.unusedVariables false
set_option linter.unusedSimpArgs false
set_option maxRecDepth 100000
set_option maxHeartbeats 8000000

theorem big16_long (v : Value) (V : Vol) (w : World) (hv : VV w v V) (h1 : 100 < V.bl.length) (hl : V.bl.length ≤ maxLen) :
    Calls Tryz.prog 18 #[v] w fun e w' => e = .returned (.bool true) ∧ Below w.heap.size w w' := by
  obtain ⟨A, n, c, rfl, hA, hn⟩ := hv
  rw [← hn] at h1 hl
  unfold maxLen at hl
  have hX := heap_alloc_new w (.cells #[.slice A n c, .string V.rt] 27)
  have HB := Lib.hid ((Below.refl w.heap.size w).alloc (Nat.le_refl _) (.cells #[.slice A n c, .string V.rt] 27))
  have x0 := rf_at hX 0 _ rfl
  have x1 := rf_at hX 1 _ rfl
  have d1 : decide ((n : Int) > 8) = true := decide_eq_true (by omega)
  have d2 : decide ((n : Int) ≤ 64) = false := decide_eq_false (by omega)
  have d3 : decide ((n : Int) > 100) = true := decide_eq_true (by omega)
  have e1 : (8 : Int) < (n : Int) := by omega
  have e2 : ¬ (n : Int) ≤ 64 := by omega
  have e3 : (100 : Int) < (n : Int) := by omega
  clear hA hn hX h1
  go_enter Tryz.func18, Tryz.ntmps18
  go_wp2_with fail
  go_ret
  exact ⟨rfl, HB.out⟩
theorem big16_lt (v : Value) (V : Vol) (w : World) (hv : VV w v V) (hl : V.bl.length ≤ maxLen) :
    Calls Tryz.prog 18 #[v] w fun e w' => ∃ b, e = .returned (.bool b) ∧ (b = false → V.bl.length ≤ 100) ∧ Below w.heap.size w w' := by
  by_cases h : V.bl.length ≤ 100
  · exact (big16_any v V w hv hl).mono fun e w' ⟨b, h1, h2⟩ => ⟨b, h1, fun _ => h, h2⟩
  · exact (big16_long v V w hv (by omega) hl).mono fun e w' ⟨h1, h2⟩ => ⟨true, h1, fun h => Bool.noConfusion h, h2⟩
theorem far26_lt (A B : Option Addr) (n c m d : Nat) (P : Plat) (v : Value) (V : Vol) (w : World) (h : PB w A n B m P) (hn : n ≤ maxLen) (hm : m ≤ maxLen) (hv : VV w v V) (hl : V.bl.length ≤ maxLen) :
    Calls Tryz.prog 4 #[.agg #[.slice A n c, .slice B m d], v] w fun e w' => ∃ b, e = .returned (.bool b) ∧ (b = false → n ≤ 300 ∧ m ≤ 200 ∧ V.bl.length ≤ 100) ∧ Below w.heap.size w w' := by
  have HV0 := Lib.hid hv
  obtain ⟨A2, n2, c2, rfl, r2, k2⟩ := hv
  obtain ⟨x1, x2, kb, ksz⟩ := va_al2 w (.cells #[.slice A n c, .slice B m d] 25) (.cells #[.slice A2 n2 c2, .string V.rt] 27)
  have HBg := Lib.hid (fun W h => big13_lt A B n c m d P W h hn hm)
  have HBv := Lib.hid (fun W h => big16_lt (.agg #[.slice A2 n2 c2, .string V.rt]) V W h hl)
  have HP := Lib.hid (h.below kb)
  have HV := Lib.hid (HV0.out.below kb)
  have HB := Lib.hid kb
  have HX := Lib.hid x1
  have HY := Lib.hid x2
  have hnm : n ≤ 9223372036854775807 := hn
  obtain ⟨a0, a1⟩ := vtwo_cells x1
  obtain ⟨b0, b1⟩ := vtwo_cells x2
  clear r2 k2 x1 x2 kb ksz hl h hn hm
  go_enter Tryz.func4, Tryz.ntmps4
  go_wp2_with fail
  refine (HBg.out _ HP.out).mono ?_
  rintro e w1 ⟨b1', rfl, hlt1, hb1⟩
  have Hlt1 := Lib.hid hlt1
  have HB1 := Lib.hid (HB.out.trans (hb1.mono HB.out.size))
  have HV1 := Lib.hid (HV.out.below hb1)
  have HX1 := Lib.hid (cells_below HX.out hb1)
  obtain ⟨y0, y1⟩ := vtwo_cells (cells_below HY.out hb1)
  obtain ⟨z0, z1⟩ := vtwo_cells HX1.out
  clear hb1 hlt1 a0 a1 b0 b1
  cases b1' with
  | true =>
    go_wp2_with fail
    go_ret
    exact ⟨true, rfl, (fun h => Bool.noConfusion h), HB1.out⟩
  | false =>
    go_wp2_with fail
    refine (HBv.out _ HV1.out).mono ?_
    rintro e w2 ⟨b2', rfl, hlt2, hb2⟩
    have Hlt2 := Lib.hid hlt2
    have HB2 := Lib.hid (HB1.out.trans (hb2.mono HB1.out.size))
    obtain ⟨t0, t1⟩ := vtwo_cells (cells_below HX1.out hb2)
    clear hb2 hlt2 y0 y1 z0 z1
    cases b2' with
    | true =>
      go_wp2_with fail
      go_ret
      exact ⟨true, rfl, (fun h => Bool.noConfusion h), HB2.out⟩
    | false =>
      by_cases h25 : 25 < n
      · have g1 : decide ((n : Int) > 25) = true := decide_eq_true (by omega)
        go_wp2_with fail
        go_ret
        exact ⟨_, rfl, (fun _ => ⟨(Hlt1.out (by trivial)).1, (Hlt1.out (by trivial)).2, Hlt2.out (by trivial)⟩), HB2.out⟩
      · have g1 : decide ((n : Int) > 25) = false := decide_eq_false (by omega)
        go_wp2_with fail
        go_ret
        exact ⟨_, rfl, (fun _ => ⟨(Hlt1.out (by trivial)).1, (Hlt1.out (by trivial)).2, Hlt2.out (by trivial)⟩), HB2.out⟩
theorem root16_any (A : Option Addr) (n c : Nat) (l : List ByteArray) (w : World) (hr : Rd w A (textsV l)) (hn : n = l.length) (hl : n ≤ 500) (hz : ∀ s ∈ l, s.size ≤ 1000) :
    Calls Tryz.prog 54 #[.slice A n c] w fun e w' => e = .returned (.string (rootsS l)) ∧ Below w.heap.size w w' := by
  have HR := Lib.hid (root11_any A n c l w hr hn hl hz)
  generalize rootsS l = rs at HR ⊢
  generalize rootsE l = re at HR
  clear hr hn hl hz
  go_enter Tryz.func54, Tryz.ntmps54
  go_wp2_with fail
  refine HR.out.mono ?_
  rintro e w1 ⟨rfl, hb⟩
  have HB := Lib.hid hb
  clear hb
  go_wp2_with fail
  go_ret
  exact ⟨rfl, HB.out⟩
def okN (n : Int) : Bool := decide (1 ≤ n) && countB n.toNat
def formatZ (n : Int) : Plat × Int := if okN n then formatP n.toNat else (noPlat, 1)
theorem format16_no (n : Int) (w : World) (hn : okN n = false) :
    Calls Tryz.prog 23 #[.int .i64 n] w fun e w' => e = .returned (.tuple #[.agg #[.slice none 0 0, .string ⟨#[]⟩], .int .i64 1]) ∧ Below w.heap.size w w' := by
  have HX := Lib.hid (heap_alloc_new w (.cells #[.slice none 0 0, .string ⟨#[]⟩] 27))
  have HB := Lib.hid ((Below.refl w.heap.size w).alloc (Nat.le_refl _) (.cells #[.slice none 0 0, .string ⟨#[]⟩] 27))
  by_cases h1 : n < 1
  · have d1 : decide (n < 1) = true := decide_eq_true h1
    obtain ⟨x0, x1, x2, x3⟩ := two_cells HX.out
    go_enter Tryz.func23, Tryz.ntmps23
    go_wp2_with fail
    refine bodyPost_ret (res_cell_tmp rfl _ _ w.heap.size (by rfl) _ (load_vol (by first | exact vol_set HX.out _ _ | exact HX.out))) rfl ?_
    exact ⟨rfl, by first | exact two_by HB.out (Nat.le_refl _) _ _ | exact HB.out⟩
  have d1 : decide (n < 1) = false := decide_eq_false h1
  by_cases h2 : 64 < n
  · have d2 : decide (n > 64) = true := decide_eq_true h2
    obtain ⟨x0, x1, x2, x3⟩ := two_cells HX.out
    go_enter Tryz.func23, Tryz.ntmps23
    go_wp2_with fail
    refine bodyPost_ret (res_cell_tmp rfl _ _ w.heap.size (by rfl) _ (load_vol (by first | exact vol_set HX.out _ _ | exact HX.out))) rfl ?_
    exact ⟨rfl, by first | exact two_by HB.out (Nat.le_refl _) _ _ | exact HB.out⟩
  have d2 : decide (n > 64) = false := decide_eq_false h2
  obtain ⟨m, rfl⟩ := Int.eq_ofNat_of_zero_le (show 0 ≤ n by omega)
  have hm : mayB m = false := by
    rw [← count_is_may (by omega)]
    unfold okN at hn
    rw [decide_eq_true (show (1 : Int) ≤ (m : Int) by omega)] at hn
    simpa using hn
  have hm64 : m ≤ 64 := by omega
  have hmk := fun W => run_make_row' (P := Tryz.prog) 22 9 (.string ⟨#[]⟩) 16 Tryz.underlying22 string_info rfl .i64 .i64 m (by omega) (by omega) W
  have HMy := Lib.hid (fun A W => may11_any A m m W (by omega))
  rw [hm] at HMy
  have al := (Below.refl (w.alloc (.cells #[.slice none 0 0, .string ⟨#[]⟩] 27)).heap.size (w.alloc (.cells #[.slice none 0 0, .string ⟨#[]⟩] 27))).alloc (Nat.le_refl _) (.cells (madeCells #[.string ⟨#[]⟩] m) 9)
  have HX2 := hblk_below HX al
  have HB2 := Lib.hid (HB.out.trans (al.mono HB.out.size))
  clear hn hm al
  go_enter Tryz.func23, Tryz.ntmps23
  go_wp2_with fail
  refine (HMy.out _ _).mono ?_
  rintro e w1 ⟨rfl, hw1⟩
  subst w1
  obtain ⟨x0, x1, x2, x3⟩ := two_cells HX2.out
  go_wp2_with fail
  refine bodyPost_ret (res_cell_tmp rfl _ _ w.heap.size (by rfl) _ (load_vol (by first | exact vol_set HX2.out _ _ | exact HX2.out))) rfl ?_
  exact ⟨rfl, by first | exact two_by HB2.out (Nat.le_refl _) _ _ | exact HB2.out⟩
theorem rd_made26 {w : World} {g n : Nat} (h : w.heap[g]? = some (.cells (madeCells #[.string ⟨#[]⟩] n) 9 (0, 0))) : Rd w (some ⟨g, 0, none⟩) (textsV (List.replicate n noT)) := fun i u hu => by
  refine ⟨g, 0, rfl, ?_⟩
  rw [Nat.zero_add, cell_of_row w g i _ _ _ h]
  have e : (madeCells #[Value.string ⟨#[]⟩] n).toList = textsV (List.replicate n noT) := by rw [toList_madeCells_one]; simp [textsV, noT]
  rw [← e] at hu
  simpa using hu
theorem format16_yes (n : Nat) (w : World) (hn : countB n = true) :
    Calls Tryz.prog 23 #[.int .i64 (n : Nat)] w fun e w' => ∃ A c, e = .returned (.tuple #[.agg #[.slice A n c, .string (rootT (List.replicate n noT))], .int .i64 0]) ∧ Below w.heap.size w w' := by
  have hle := count_le hn
  have hm := count_may hn
  have HX := Lib.hid (heap_alloc_new w (.cells #[.slice none 0 0, .string ⟨#[]⟩] 27))
  have HB := Lib.hid ((Below.refl w.heap.size w).alloc (Nat.le_refl _) (.cells #[.slice none 0 0, .string ⟨#[]⟩] 27))
  have d1 : decide ((n : Int) < 1) = false := decide_eq_false (by omega)
  have d2 : decide ((n : Int) > 64) = false := decide_eq_false (by omega)
  have hn64 : n ≤ 64 := hle.2
  have hmk := fun W => run_make_row' (P := Tryz.prog) 22 9 (.string ⟨#[]⟩) 16 Tryz.underlying22 string_info rfl .i64 .i64 n (by omega) (by omega) W
  have HMy := Lib.hid (fun A W => may11_any A n n W (by omega))
  rw [hm] at HMy
  have hrs : rootsS (List.replicate n noT) = rootT (List.replicate n noT) := by unfold rootsS; rw [if_pos (by rw [List.length_replicate]; exact hm)]
  have HRt := Lib.hid (fun A W h => root16_any A n n (List.replicate n noT) W h (by simp) (by omega) (fun s hs => by rw [List.eq_of_mem_replicate hs]; decide))
  rw [hrs] at HRt
  generalize rootT (List.replicate n noT) = R at HRt ⊢
  have al := (Below.refl (w.alloc (.cells #[.slice none 0 0, .string ⟨#[]⟩] 27)).heap.size (w.alloc (.cells #[.slice none 0 0, .string ⟨#[]⟩] 27))).alloc (Nat.le_refl _) (.cells (madeCells #[.string ⟨#[]⟩] n) 9)
  have HX2 := hblk_below HX al
  have HB2 := Lib.hid (HB.out.trans (al.mono HB.out.size))
  obtain ⟨u, hu⟩ : ∃ u, u = (w.alloc (.cells #[.slice none 0 0, .string ⟨#[]⟩] 27)).alloc (.cells (madeCells #[.string ⟨#[]⟩] n) 9) := ⟨_, rfl⟩
  have hus : u.heap.size = w.heap.size + 1 + 1 := by rw [hu]; simp
  have Hu := Lib.hid hu
  rw [← hu] at HX2 HB2
  clear hn hm al hrs hle hu
  go_enter Tryz.func23, Tryz.ntmps23
  go_wp2_with fail
  refine (HMy.out _ _).mono ?_
  rintro e w1 ⟨rfl, hw1⟩
  subst w1
  rw [← Hu.out]
  have al2 := (Below.refl u.heap.size u).alloc (Nat.le_refl _) (.cells (madeCells #[.string ⟨#[]⟩] n) 9)
  have HX3 := hblk_below HX2 al2
  have HB3 := Lib.hid (HB2.out.trans (al2.mono HB2.out.size))
  have HM3 := rd_made26 (heap_alloc_new u (.cells (madeCells #[.string ⟨#[]⟩] n) 9))
  rw [hus] at HM3
  replace HM3 := Lib.hid HM3
  clear al2
  go_wp2_with fail
  refine (HRt.out _ _ HM3.out).mono ?_
  rintro e w2 ⟨rfl, hb2⟩
  have HX4 := hblk_below HX3 hb2
  have HB4 := Lib.hid (HB3.out.trans (hb2.mono HB3.out.size))
  obtain ⟨x0, x1, x2, x3⟩ := two_cells HX4.out
  clear hb2
  go_wp2_with fail
  refine bodyPost_ret (res_cell_tmp rfl _ _ w.heap.size (by rfl) _ (load_vol (vol_set HX4.out _ _))) rfl ?_
  exact ⟨_, _, rfl, two_by HB4.out (Nat.le_refl _) _ _⟩
theorem put_four (P : Plat) (i : Int) (s : ByteArray) : putP P i s 4 = putP P i s (-1) := by
  unfold putP doP
  have h : ∀ l : List (Plat → Plat × Int), l.length = 4 → mostN 4 l.length = mostN (-1) l.length := fun l h => by rw [h]; rfl
  rw [h _ rfl]
theorem format26_no (n : Int) (w : World) (hn : okN n = false) : Calls Tryz.prog 7 #[.int .i64 n] w (PlR w (noPlat, 1)) := by
  have HF := Lib.hid (fun W => format16_no n W hn)
  have HX := Lib.hid (heap_alloc_new w (.cells zP 25))
  have HB := Lib.hid ((Below.refl w.heap.size w).alloc (Nat.le_refl _) (.cells zP 25))
  clear hn
  go_enter Tryz.func7, Tryz.ntmps7
  go_wp2_with fail
  refine (HF.out _).mono ?_
  rintro e w1 ⟨rfl, hb1⟩
  have b1 := (Below.refl w1.heap.size w1).alloc (Nat.le_refl _) (.cells #[.slice none 0 0, .string ⟨#[]⟩] 27)
  have HX2 := hblk_below (hblk_below HX hb1) b1
  have HB2 := Lib.hid (HB.out.trans ((Below.chain hb1 b1).mono HB.out.size))
  clear hb1 b1
  obtain ⟨x0, x1, x2, x3⟩ := two_cells HX2.out
  go_wp2_with fail
  refine bodyPost_ret (res_cell_tmp rfl _ _ w.heap.size (by rfl) _ (load_plat_new (two_set HX2.out _ _))) rfl ?_
  exact ⟨_, rfl, PlV.no _, two_by HB2.out (Nat.le_refl _) _ _⟩
theorem format26_yes (n : Nat) (w : World) (hn : countB n = true) : Calls Tryz.prog 7 #[.int .i64 (n : Nat)] w (PlR w (formatP n)) := by
  have hle := count_le hn
  have HF := Lib.hid (fun W => format16_yes n W hn)
  have hroot : (rootT (List.replicate n noT)).size = 32 := (vol_parts (keeps_check (keeps_new noT hn))).2.1
  obtain ⟨R, hR0⟩ : ∃ R, R = rootT (List.replicate n noT) := ⟨_, rfl⟩
  have hRs : R.size = 32 := by rw [hR0]; exact hroot
  have HHd := Lib.hid (fun W => head26_any 0 0 R W (by omega))
  have HNw := Lib.hid (fun W => show Calls Tryz.prog 24 #[.int .i64 (3 + 2 * (n : Int))] W (PlR W (newP (3 + 2 * n), 0)) from by
    have h := new13_any (3 + 2 * n) W (by omega) (by omega)
    rw [show ((3 + 2 * n : Nat) : Int) = 3 + 2 * (n : Int) by omega] at h
    exact h)
  have HE := Lib.hid (show formatP n = ((putP (newP (3 + 2 * n)) 0 (headS 0 0 R) 4).1, (putP (newP (3 + 2 * n)) 0 (headS 0 0 R) 4).2.2) by rw [put_four, hR0]; rfl)
  have hlen : (newP (3 + 2 * n)).ss.length ≤ 1000 ∧ (newP (3 + 2 * n)).cs.length ≤ 1000 := by unfold newP; simp; omega
  have HX := Lib.hid (heap_alloc_new w (.cells zP 25))
  have HB := Lib.hid ((Below.refl w.heap.size w).alloc (Nat.le_refl _) (.cells zP 25))
  rw [← hR0] at HF
  generalize headS 0 0 R = hd at HHd HE
  generalize newP (3 + 2 * n) = NP at HNw HE hlen
  have HPt := Lib.hid (fun W v (hW : PlV W v NP) => put14_any v NP hd 4 W hW (by omega) (by omega))
  obtain ⟨pr, hpr⟩ : ∃ pr, pr = putP NP 0 hd 4 := ⟨_, rfl⟩
  rw [← hpr] at HPt HE
  obtain ⟨rP, rb, re⟩ := pr
  clear hn hroot hR0 hRs hpr hlen
  have hn64 : n ≤ 64 := hle.2
  clear hle
  go_enter Tryz.func7, Tryz.ntmps7
  go_wp2_with fail
  refine (HF.out _).mono ?_
  rintro e w1 ⟨A, c, rfl, hb1⟩
  have b1 := (Below.refl w1.heap.size w1).alloc (Nat.le_refl _) (.cells #[.slice A n c, .string R] 27)
  have HX2 := hblk_below (hblk_below HX hb1) b1
  have HV2 := Lib.hid (heap_alloc_new w1 (.cells #[.slice A n c, .string R] 27))
  have HB2 := Lib.hid (HB.out.trans ((Below.chain hb1 b1).mono HB.out.size))
  have hsz1 : w.heap.size < w1.heap.size := by have := hb1.size; simp at this; omega
  clear hb1 b1
  go_wp2_with fail
  refine (HNw.out _).mono ?_
  rintro e w2 ⟨v2, rfl, hv2, hb2⟩
  obtain ⟨A2, n2, c2, B2, m2, d2, rfl, hP2⟩ := hv2
  have b2 := (Below.refl w2.heap.size w2).alloc (Nat.le_refl _) (.cells #[.slice A2 n2 c2, .slice B2 m2 d2] 25)
  have HX3 := hblk_below (hblk_below HX2 hb2) b2
  have HV3 := hblk_below (hblk_below HV2 hb2) b2
  have HP3 := Lib.hid (PB.below (show PB w2 A2 n2 B2 m2 NP from hP2) b2)
  have HQ3 := Lib.hid (heap_alloc_new w2 (.cells #[.slice A2 n2 c2, .slice B2 m2 d2] 25))
  have HB3 := Lib.hid (HB2.out.trans ((Below.chain hb2 b2).mono HB2.out.size))
  obtain ⟨w3, hw3⟩ : ∃ w3, w3 = w2.alloc (.cells #[.slice A2 n2 c2, .slice B2 m2 d2] 25) := ⟨_, rfl⟩
  have Hw3 := Lib.hid hw3
  rw [← hw3] at HX3 HV3 HP3 HQ3 HB3
  clear hP2 hb2 b2 hw3 HX2 HV2 HB2
  go_upto_region 5 with fail
  rw [← Hw3.out]
  clear Hw3
  generalize w2.heap.size = K at *
  generalize w1.heap.size = G at *
  obtain ⟨t0, t1, _, _⟩ := two_cells HQ3.out
  have q0 : (w3.cell? ⟨K, 0, none⟩ = some (.slice A2 n2 c2) ∧ w3.cell? ⟨K, 1, none⟩ = some (.slice B2 m2 d2)) ∧ (w3.cell? ⟨G, 1, none⟩ = some (.string R) ∧ w3.cell? ⟨G, 1, none⟩ = some (.string R)) := ⟨⟨t0, t1⟩, ⟨rf_at HV3.out 1 _ rfl, rf_at HV3.out 1 _ rfl⟩⟩
  clear t0 t1
  go_cut [8, 9, 10] from 27 to 35 (fun v8 v9 v10 wc => v10 = .int .i64 re ∧ NewD w3 rP v8 wc)
  case first =>
    go_region_held3 (fun W => ((W.cell? ⟨K, 0, none⟩ = some (.slice A2 n2 c2) ∧ W.cell? ⟨K, 1, none⟩ = some (.slice B2 m2 d2)) ∧ (W.cell? ⟨G, 1, none⟩ = some (.string R) ∧ W.cell? ⟨G, 1, none⟩ = some (.string R))) ∧ Below w3.heap.size w3 W)
      (first | with_reducible assumption | with_reducible exact s4_from q0 ((Below.refl _ _).drew) | with_reducible exact s4_from q0 (((Below.refl _ _).alloc (Nat.le_refl _) _).drew) | with_reducible exact s4_from q0 hb8 | with_reducible exact s4_from q0 (hb8.alloc hb8.size _) | with_reducible exact s4_from q0 hb9 | with_reducible exact s4_from q0 (hb9.alloc hb9.size _) | with_reducible exact s4_from q0 (two_by hb9 (Nat.le_refl _) _ _) | with_reducible exact s4_from q0 (two_by hb9 hb8.size _ _))
      (first
        | (go_at_call 16; refine Calls.mono (HHd.out _) ?_; rintro _ w4 ⟨rfl, hb4⟩; have hb8 := below_call (by assumption) hb4)
        | (go_at_call 25; refine Calls.mono (HPt.out _ _ ⟨_, _, _, _, _, _, rfl, HP3.out.below (And.right (by assumption))⟩) ?_; rintro _ w5 ⟨v5, rfl, ⟨A5, n5, c5, B5, m5, d5, rfl, hP5⟩, hb5⟩; have hb9 := below_call (by assumption) hb5; (try (with_reducible refine newd_cps (newd_z2 hb8 hb5) ?_; rintro z0 z1 z2 z3)); (try (with_reducible refine newd_cps (newd_z3 hb4 hb5) ?_; rintro z0 z1 z2 z3))))
    · go_wp2_with fail
      go_meet
      case rel => exact ⟨rfl, newd_b hb9 hP5⟩
    · go_wp2_with fail
      go_meet
      case rel => exact ⟨rfl, newd_c hb8 hb5 hP5⟩
    · go_wp2_with fail
      go_meet
      case rel => exact ⟨rfl, newd_d hb4 hb5 hP5⟩
  case rest =>
  obtain ⟨rfl, g, A5, n5, c5, B5, m5, d5, rfl, hg, hP5, hgl, hb9⟩ := hcut
  rename World => w9
  have HX9 := hblk_below HX3 hb9
  have HB9 := Lib.hid (HB3.out.trans (hb9.mono HB3.out.size))
  obtain ⟨y0, y1, y2, y3⟩ := two_cells hg
  obtain ⟨x0, x1, x2, x3⟩ := two_cells HX9.out
  have HP9 := Lib.hid hP5
  clear hg hP5 hgl hb9 q0
  go_wp2_with fail
  refine bodyPost_ret (res_cell_tmp rfl _ _ w.heap.size (by rfl) _ (load_plat_new (two_set HX9.out _ _))) rfl ?_
  rw [HE.out]
  exact ⟨_, rfl, ⟨_, _, _, _, _, _, rfl, HP9.out.two HX9.out⟩, two_by HB9.out (Nat.le_refl _) _ _⟩
theorem format26_any (n : Int) (w : World) : Calls Tryz.prog 7 #[.int .i64 n] w (PlR w (formatZ n)) := by
  unfold formatZ
  cases h : okN n with
  | false => exact format26_no n w h
  | true =>
    unfold okN at h
    simp only [Bool.and_eq_true, decide_eq_true_eq] at h
    obtain ⟨m, rfl⟩ := Int.eq_ofNat_of_zero_le (show 0 ≤ n by omega)
    exact format26_yes m w h.2
theorem format_neg (n : Int) (w : World) (hn : n < 1) : Calls Tryz.prog 20 #[.int .i64 n] w (VolE w vol0 1) := by
  have HC : Hid (∀ W, Calls Tryz.prog 42 #[.int .i64 n] W fun e w' => e = .returned (.bool false) ∧ w' = W) := Lib.hid fun W => by
    have d1 : decide (n ≥ 1) = false := decide_eq_false (by omega)
    have d2 : ¬ 1 ≤ n := by omega
    go_enter Tryz.func42, Tryz.ntmps42
    go_wp2_with fail
    go_ret
    exact ⟨rfl, rfl⟩
  have HY := Lib.hid (heap_alloc_new w (.cells #[.slice none 0 0, .string ⟨#[]⟩] 27))
  have Hb := Lib.hid ((Below.refl w.heap.size w).alloc (Nat.le_refl _) (.cells #[.slice none 0 0, .string ⟨#[]⟩] 27))
  have b0 := rf_at HY.out 0 _ rfl
  have b1 := rf_at HY.out 1 _ rfl
  have f2 := rf_fr HY.out 0
  have f3 := rf_fr HY.out 1
  go_enter Tryz.func20, Tryz.ntmps20
  go_wp2_with fail
  refine (HC.out _).mono ?_
  rintro e w1 ⟨rfl, rfl⟩
  go_wp2_with fail
  refine bodyPost_ret (res_cell_tmp rfl _ _ w.heap.size (by rfl) _ (load_vol HY.out)) rfl ?_
  exact ⟨_, rfl, ⟨none, 0, 0, rfl, ⟨Rd.nil _ _, fun _ _ h => by cases h⟩, rfl⟩, Hb.out⟩
theorem vformat_neg (n : Int) (w : World) (hn : n < 1) :
    Calls Tryz.prog 6 #[.int .i64 n] w (PlR w (noPlat, 1)) := by
  have HF := Lib.hid (fun W => format_neg n W hn)
  have HX := Lib.hid (heap_alloc_new w (.cells zP 25))
  have HB := Lib.hid ((Below.refl w.heap.size w).alloc (Nat.le_refl _) (.cells zP 25))
  clear hn
  go_enter Tryz.func6, Tryz.ntmps6
  go_wp2_with fail
  refine (HF.out _).mono ?_
  rintro e w1 ⟨v, rfl, ⟨A, n1, c, rfl, hr, hn1⟩, hb1⟩
  have b1 := (Below.refl w1.heap.size w1).alloc (Nat.le_refl _) (.cells #[.slice A n1 c, .string vol0.rt] 27)
  have HX2 := hblk_below (hblk_below HX hb1) b1
  have HB2 := Lib.hid (HB.out.trans ((Below.chain hb1 b1).mono HB.out.size))
  clear hb1 b1 hr hn1
  obtain ⟨x0, x1, x2, x3⟩ := two_cells HX2.out
  go_wp2_with fail
  refine bodyPost_ret (res_cell_tmp rfl _ _ w.heap.size (by rfl) _ (load_plat_new (two_set HX2.out _ _))) rfl ?_
  exact ⟨_, rfl, PlV.no _, two_by HB2.out (Nat.le_refl _) _ _⟩
theorem vformatZ_any (n : Int) (w : World) (hR : Rounds w) : Calls Tryz.prog 6 #[.int .i64 n] w (PlR w (formatZ n)) := by
  by_cases h : n < 1
  · have : formatZ n = (noPlat, 1) := by unfold formatZ okN; rw [decide_eq_false (by omega)]; rfl
    rw [this]
    exact vformat_neg n w h
  · obtain ⟨m, rfl⟩ := Int.eq_ofNat_of_zero_le (show 0 ≤ n by omega)
    cases hc : countB m with
    | false =>
      have : formatZ (m : Int) = (noPlat, 1) := by unfold formatZ okN; rw [show ((m : Int)).toNat = m from rfl, hc]; simp
      rw [this]
      exact vformat_no m w hc hR
    | true =>
      have : formatZ (m : Int) = formatP m := by unfold formatZ okN; rw [show ((m : Int)).toNat = m from rfl, hc, decide_eq_true (show (1 : Int) ≤ (m : Int) by omega)]; rfl
      rw [this]
      exact vformat_any m w hc hR
theorem plat0_len : noPlat.ss.length ≤ 100000 ∧ noPlat.cs.length ≤ 100000 := by decide
theorem chk_len {P : Plat} (h : checkB P = true) : P.ss.length ≤ 100000 ∧ P.cs.length ≤ 100000 := by
  have := check_parts h
  omega
theorem formatZ_len (n : Int) : (formatZ n).1.ss.length ≤ 100000 ∧ (formatZ n).1.cs.length ≤ 100000 := by
  unfold formatZ
  by_cases h : okN n = true
  · rw [if_pos h]
    unfold okN at h
    rw [Bool.and_eq_true] at h
    exact chk_len (format_vt h.2).2.2.chk
  · rw [if_neg h]
    exact plat0_len
theorem open_len (P : Plat) : (openP P).1.V.bl.length ≤ 100000 := by
  by_cases h : (openP P).2 = 0
  · have hv := vt_of_open h
    rw [hv.blen]
    have := (count_le hv.cnt).2
    omega
  · rw [open_none h]
    decide
theorem store_len (P : Plat) (V : Vol) (deeds : Int) : (storeP P V deeds).1.ss.length ≤ 100000 ∧ (storeP P V deeds).1.cs.length ≤ 100000 := by
  by_cases h : (storeP P V deeds).2.2 = 0
  · obtain ⟨n, gen, area, V0, hv, g⟩ := store_inv h
    have hp := chk_len hv.chk
    have hn := (count_le hv.cnt).2
    by_cases hd : allN n deeds ≤ n
    · rw [store_few hv g hd]
      split
      · refine ⟨hp.1, ?_⟩
        rw [List.length_append, layC_len]
        omega
      · exact plat0_len
    · rcases store_many hv g (deeds := deeds) (by omega) with ⟨Q1, f, q1, q2, q3, q4, q5, q6, e⟩ | ⟨e, _⟩
      · rw [e]
        have hle := all_le n deeds
        exact chk_len (put_steps q2 q1.cs (s := headS ((gen + 1 : Nat) : Int) ((1 - area : Nat) : Int) V.rt) (vh_small _ _ _) q4 q6 (d := allN n deeds - (n + 1)) (by omega)).2
      · rw [e]
        exact plat0_len
  · rw [(store_no h).1]
    exact plat0_len
end

/- R26c -/
section
open Go.RowKit
set_option linter.unusedVariables false
set_option linter.unusedSimpArgs false
set_option maxRecDepth 100000
set_option maxHeartbeats 16000000

theorem store26_any (v vv : Value) (P : Plat) (V : Vol) (deeds : Int) (w : World) (h : PlV w v P) (hv : VV w vv V) (hl1 : P.ss.length ≤ 1000) (hl2 : P.cs.length ≤ 1000) (hlv : V.bl.length ≤ 1000) :
    Calls Tryz.prog 11 #[v, vv, .int .i64 deeds] w (DoR w (storeP P V deeds)) := by
  obtain ⟨A, n, c, B, m, d, rfl, h⟩ := h
  obtain ⟨AV, nV, cV, rfl, hrv, hnV⟩ := hv
  obtain ⟨kp, kv, kx, kb, ksz⟩ := va_al3 w (.cells #[.slice A n c, .slice B m d] 25) (.cells #[.slice AV nV cV, .string V.rt] 27) (.cells zP 25)
  have HPw := Lib.hid h
  have HRw := Lib.hid hrv
  have HNV := Lib.hid hnV
  have HPb := Lib.hid (fun (W : World) (hb : Below w.heap.size w W) => show PlV W (.agg #[.slice A n c, .slice B m d]) P from ⟨_, _, _, _, _, _, rfl, HPw.out.below hb⟩)
  have HVb := Lib.hid (fun (W : World) (hb : Below w.heap.size w W) => show VV W (.agg #[.slice AV nV cV, .string V.rt]) V from ⟨_, _, _, rfl, HRw.out.below hb, HNV.out⟩)
  have HLd := Lib.hid (fun W hW => load26_any (.agg #[.slice A n c, .slice B m d]) P W hW (by unfold maxLen; omega) (by unfold maxLen; omega))
  have HSz := Lib.hid (fun W hW => size26_any (.agg #[.slice A n c, .slice B m d]) P W hW (by unfold maxLen; omega))
  have HCk := Lib.hid (fun W hW => check16_any (.agg #[.slice AV nV cV, .string V.rt]) V W hW hlv)
  have HRo := Lib.hid (fun W hW hc => root26_any (.agg #[.slice AV nV cV, .string V.rt]) V W hW hc)
  have HOw := Lib.hid (fun W hW => own13_any A B n c m d P W hW (by have := HPw.out.hn; omega) (by have := HPw.out.hm; omega))
  have Hvt := Lib.hid (fun h => vt_of_open (P := P) h)
  obtain ⟨r, hr⟩ : ∃ r, r = openP P := ⟨_, rfl⟩
  have Hr := Lib.hid hr
  rw [← hr] at HLd Hvt
  obtain ⟨⟨N, gen, area, V0⟩, er⟩ := r
  simp only at Hvt
  have HE := Lib.hid (show storeP P V deeds = if er ≠ 0 then (noPlat, false, er)
      else if checkV V = false ∨ V.bl.length ≠ N then (noPlat, false, 160) else if rootT V.bl ≠ V.rt then (noPlat, false, 161) else if gen = 1000000000 then (noPlat, false, 260)
      else endP (runL ((deedV V N area).take (allN N deeds)) P) ⟨N, gen, area, V0⟩ V (allN N deeds) by
    unfold storeP
    rw [← hr])
  have hnm : nV ≤ 1000 := by rw [hnV]; exact hlv
  have HL1 := Lib.hid hl1
  have HL2 := Lib.hid hl2
  have HQ := Lib.hid kp
  have HV := Lib.hid kv
  have HX := Lib.hid kx
  have HB := Lib.hid kb
  obtain ⟨p0, p1, _, _⟩ := two_cells kp
  clear h hrv hnV hr hl1 hl2 hlv kp kv kx kb ksz
  go_enter Tryz.func11, Tryz.ntmps11
  go_wp2_with fail
  refine (HLd.out _ (HPb.out _ HB.out)).mono ?_
  rintro e w2 ⟨A2, c2, rfl, hrd, hb2⟩
  simp only
  have al := (Below.refl w2.heap.size w2).alloc (Nat.le_refl _) (.cells #[.slice A2 V0.bl.length c2, .string V0.rt] 27)
  have hbb := Below.chain hb2 al
  have HQ3 := hblk_below HQ hbb
  have HV3 := hblk_below HV hbb
  have HX3 := hblk_below HX hbb
  have HB3 := Lib.hid (Below.chain HB.out hbb)
  obtain ⟨w3, hw3⟩ : ∃ w3, w3 = w2.alloc (.cells #[.slice A2 V0.bl.length c2, .string V0.rt] 27) := ⟨_, rfl⟩
  have Hw3 := Lib.hid hw3
  rw [← hw3] at HQ3 HV3 HX3 HB3
  clear hw3 al hbb hb2 hrd p0 p1 HQ HV HX HB HLd
  go_upto_region 2 with fail
  rw [← Hw3.out]
  clear Hw3
  generalize w2.heap.size = G0 at *
  by_cases her : er = 0
  case neg =>
    have d1 : (er != 0) = true := by simpa using her
    have HE1 := Lib.hid (show storeP P V deeds = (noPlat, false, er) by rw [HE.out, if_pos her])
    obtain ⟨x0, x1, x2, x3⟩ := two_cells HX3.out
    clear her HE
    go_wp2_with fail
    refine bodyPost_ret (res_cell_tmp2 rfl _ _ (w.heap.size + 1 + 1) (by rfl) _ (load_plat_new (two_set HX3.out _ _))) rfl ?_
    rw [HE1.out]
    exact ⟨_, rfl, PlV.no _, two_by HB3.out (by omega) _ _⟩
  subst her
  have d1 : ((0 : Int) != 0) = false := rfl
  have Vt0 := Lib.hid (Hvt.out rfl)
  rw [if_neg (fun hh => hh rfl)] at HE
  have hN1 := Vt0.out.area
  have hN2 := count_le Vt0.out.cnt
  obtain ⟨hA1, hG1⟩ := hN1
  obtain ⟨hN0, hN64⟩ := hN2
  have hszN : sizeN P.ss.length = N := by rw [Vt0.out.len]; exact sizeN_of Vt0.out.cnt
  rw [hszN] at HSz
  clear hszN Hvt
  obtain ⟨p0, p1, _, _⟩ := two_cells HQ3.out
  obtain ⟨v0, v1⟩ := vtwo_cells HV3.out
  go_wp2_with fail
  refine (HSz.out _ (HPb.out _ HB3.out)).mono ?_
  rintro e w4 ⟨rfl, hb4⟩
  have HQ4 := hblk_below HQ3 hb4
  have HV4 := hblk_below HV3 hb4
  have HX4 := hblk_below HX3 hb4
  have HB4 := Lib.hid (HB3.out.trans (hb4.mono HB3.out.size))
  clear hb4 p0 p1 v0 v1 HQ3 HV3 HX3 HB3 HSz
  obtain ⟨v0, v1⟩ := vtwo_cells HV4.out
  cases hck : checkV V with
  | false =>
    rw [hck] at HCk
    have HE1 := Lib.hid (show storeP P V deeds = (noPlat, false, 160) by rw [HE.out, if_pos (.inl hck)])
    clear hck HE
    go_wp2_with fail
    refine (HCk.out _ (HVb.out _ HB4.out)).mono ?_
    rintro e w5 ⟨rfl, hb5⟩
    have HX5 := hblk_below HX4 hb5
    have HB5 := Lib.hid (HB4.out.trans (hb5.mono HB4.out.size))
    obtain ⟨x0, x1, x2, x3⟩ := two_cells HX5.out
    clear hb5 v0 v1
    go_wp2_with fail
    refine bodyPost_ret (res_cell_tmp2 rfl _ _ (w.heap.size + 1 + 1) (by rfl) _ (load_plat_new (two_set HX5.out _ _))) rfl ?_
    rw [HE1.out]
    exact ⟨_, rfl, PlV.no _, two_by HB5.out (by omega) _ _⟩
  | true =>
  rw [hck] at HCk
  by_cases hlN : nV = N
  case neg =>
    have d2 : ((nV : Int) != (N : Int)) = true := by simp; omega
    have HE1 := Lib.hid (show storeP P V deeds = (noPlat, false, 160) by rw [HE.out, if_pos (.inr (by rw [← HNV.out]; exact hlN))])
    clear hck HE hlN
    go_wp2_with fail
    refine (HCk.out _ (HVb.out _ HB4.out)).mono ?_
    rintro e w5 ⟨rfl, hb5⟩
    have HX5 := hblk_below HX4 hb5
    have HV5 := hblk_below HV4 hb5
    have HB5 := Lib.hid (HB4.out.trans (hb5.mono HB4.out.size))
    obtain ⟨x0, x1, x2, x3⟩ := two_cells HX5.out
    clear hb5 v0 v1
    obtain ⟨v0, v1⟩ := vtwo_cells HV5.out
    go_wp2_with fail
    refine bodyPost_ret (res_cell_tmp2 rfl _ _ (w.heap.size + 1 + 1) (by rfl) _ (load_plat_new (two_set HX5.out _ _))) rfl ?_
    rw [HE1.out]
    exact ⟨_, rfl, PlV.no _, two_by HB5.out (by omega) _ _⟩
  have hnot : ¬ (checkV V = false ∨ V.bl.length ≠ N) := by
    rintro (hh | hh)
    · rw [hck] at hh; cases hh
    · exact hh (HNV.out.symm.trans hlN)
  rw [if_neg hnot] at HE
  subst hlN
  have d2 : ((nV : Int) != (nV : Int)) = false := by simp
  have hrs : V.rt.size = 32 := (vol_parts hck).2.1
  have HRo2 := Lib.hid (fun W hW => HRo.out W hW hck)
  clear hnot HRo
  go_wp2_with fail
  refine (HCk.out _ (HVb.out _ HB4.out)).mono ?_
  rintro e w5 ⟨rfl, hb5⟩
  have HQ5 := hblk_below HQ4 hb5
  have HV5 := hblk_below HV4 hb5
  have HX5 := hblk_below HX4 hb5
  have HB5 := Lib.hid (HB4.out.trans (hb5.mono HB4.out.size))
  clear hb5 v0 v1 HQ4 HV4 HX4 HB4 HCk
  obtain ⟨v0, v1⟩ := vtwo_cells HV5.out
  go_wp2_with fail
  refine (HRo2.out _ (HVb.out _ HB5.out)).mono ?_
  rintro e w6 ⟨rfl, hb6⟩
  have HQ6 := hblk_below HQ5 hb6
  have HV6 := hblk_below HV5 hb6
  have HX6 := hblk_below HX5 hb6
  have HB6 := Lib.hid (HB5.out.trans (hb6.mono HB5.out.size))
  clear hb6 v0 v1 HQ5 HV5 HX5 HB5 HRo2
  by_cases hrt : rootT V.bl = V.rt
  case neg =>
    have HE1 := Lib.hid (show storeP P V deeds = (noPlat, false, 161) by rw [HE.out, if_pos hrt])
    obtain ⟨x0, x1, x2, x3⟩ := two_cells HX6.out
    rw [decide_eq_false hrt]
    clear hrt HE
    go_wp2_with fail
    refine bodyPost_ret (res_cell_tmp2 rfl _ _ (w.heap.size + 1 + 1) (by rfl) _ (load_plat_new (two_set HX6.out _ _))) rfl ?_
    rw [HE1.out]
    exact ⟨_, rfl, PlV.no _, two_by HB6.out (by omega) _ _⟩
  rw [if_neg (fun hh => hh hrt)] at HE
  rw [decide_eq_true hrt]
  by_cases hgen : gen = 1000000000
  case pos =>
    have HE1 := Lib.hid (show storeP P V deeds = (noPlat, false, 260) by rw [HE.out, if_pos hgen])
    have d3 : decide ((gen : Int) ≥ 1000000000) = true := decide_eq_true (by omega)
    have d4 : (1000000000 : Int) ≤ (gen : Int) := by omega
    obtain ⟨x0, x1, x2, x3⟩ := two_cells HX6.out
    clear hgen HE hrt
    go_wp2_with fail
    refine bodyPost_ret (res_cell_tmp2 rfl _ _ (w.heap.size + 1 + 1) (by rfl) _ (load_plat_new (two_set HX6.out _ _))) rfl ?_
    rw [HE1.out]
    exact ⟨_, rfl, PlV.no _, two_by HB6.out (by omega) _ _⟩
  rw [if_neg hgen] at HE
  have d3 : decide ((gen : Int) ≥ 1000000000) = false := decide_eq_false (by omega)
  have d4 : ¬ (1000000000 : Int) ≤ (gen : Int) := by omega
  clear hgen hrt
  obtain ⟨D, hD⟩ : ∃ D, D = allN nV deeds := ⟨_, rfl⟩
  have HD := Lib.hid hD
  have hDle : D ≤ nV + 5 := by rw [hD]; exact all_le _ _
  go_upto_region 11 with fail
  go_cut [58] from 51 to 58 (fun v wc => v = .bool (decide (deeds < 0 ∨ (nV : Int) + 5 < deeds)) ∧ wc = w6)
  case first =>
    clear hD
    by_cases hneg : deeds < 0
    · have f1 : decide (deeds < 0) = true := decide_eq_true hneg
      have f9 := Lib.hid (decide_eq_true (show deeds < 0 ∨ (nV : Int) + 5 < deeds from .inl hneg))
      clear hneg
      go_wp2_with fail
      go_meet
      case rel => exact ⟨congrArg Value.bool f9.out.symm, rfl⟩
    · have f1 : decide (deeds < 0) = false := decide_eq_false hneg
      by_cases hbig : (nV : Int) + 5 < deeds
      · have f2 : decide (deeds > (nV : Int) + 5) = true := decide_eq_true hbig
        have f9 := Lib.hid (decide_eq_true (show deeds < 0 ∨ (nV : Int) + 5 < deeds from .inr hbig))
        clear hneg hbig
        go_wp2_with fail
        go_meet
        case rel => exact ⟨congrArg Value.bool f9.out.symm, rfl⟩
      · have f2 : decide (deeds > (nV : Int) + 5) = false := decide_eq_false hbig
        have f9 := Lib.hid (decide_eq_false (show ¬ (deeds < 0 ∨ (nV : Int) + 5 < deeds) from by omega))
        clear hneg hbig
        go_wp2_with fail
        go_meet
        case rel => exact ⟨congrArg Value.bool f9.out.symm, rfl⟩
  case rest =>
  obtain ⟨rfl, rfl⟩ := hcut
  rename World => w6
  go_upto_if 58 with fail
  go_cut [2] from 58 to 60 (fun v wc => v = .int .i64 (D : Nat) ∧ wc = w6)
  case first =>
    by_cases hneg : deeds < 0 ∨ (nV : Int) + 5 < deeds
    · rw [decide_eq_true hneg]
      have hDD : (nV : Int) + 5 = ((D : Nat) : Int) := by rw [hD]; unfold allN; rw [if_pos (by omega)]; omega
      have HDD := Lib.hid hDD
      clear hneg hD hDD
      go_wp2_with fail
      go_meet
      case rel => exact ⟨congrArg (Value.int .i64) HDD.out, rfl⟩
    · rw [decide_eq_false hneg]
      have hDD : deeds = ((D : Nat) : Int) := by rw [hD]; unfold allN; rw [if_neg (by omega)]; omega
      have HDD := Lib.hid hDD
      clear hneg hD hDD
      go_wp2_with fail
      go_meet
      case rel => exact ⟨congrArg (Value.int .i64) HDD.out, rfl⟩
  case rest =>
  obtain ⟨rfl, rfl⟩ := hcut
  rename World => w6
  obtain ⟨p0, p1, _, _⟩ := two_cells HQ6.out
  clear hD
  go_wp2_with fail
  refine (HOw.out _ (HPw.out.below HB6.out)).mono ?_
  rintro e w7 ⟨A7, c7, B7, d7, rfl, hO7, hb7⟩
  have al := (Below.refl w7.heap.size w7).alloc (Nat.le_refl _) (.cells #[.slice A7 n c7, .slice B7 m d7] 25)
  have hbb := Below.chain hb7 al
  have HV8 := hblk_below HV6 hbb
  have HX8 := hblk_below HX6 hbb
  have HB8 := Lib.hid (HB6.out.trans (hbb.mono HB6.out.size))
  have HH8 := Lib.hid (heap_alloc_new w7 (.cells #[.slice A7 n c7, .slice B7 m d7] 25))
  have HP8 := Lib.hid (hO7.pb.below al)
  have hH : w.heap.size + 3 ≤ w7.heap.size := by have h1 := cell_lt_of HX6.out; have h2 := hb7.size; omega
  obtain ⟨w8, hw8⟩ : ∃ w8, w8 = w7.alloc (.cells #[.slice A7 n c7, .slice B7 m d7] 25) := ⟨_, rfl⟩
  have Hw8 := Lib.hid hw8
  rw [← hw8] at HV8 HX8 HB8 HH8 HP8
  clear hw8 al hbb hb7 hO7 p0 p1 HQ6 HV6 HX6 HB6 HOw
  go_upto_region 14 with fail
  rw [← Hw8.out]
  clear Hw8
  generalize w7.heap.size = H at *
  obtain ⟨na, hna⟩ : ∃ na, na = 1 - area := ⟨_, rfl⟩
  have hna1 : (1 : Int) - (area : Int) = (na : Int) := by omega
  have hnaw : IntKind.i64.wrap (na : Int) = (na : Int) := IntWalk.i64_in _ (by omega)
  have hna2 : 0 ≤ (na : Int) * (nV : Int) ∧ (na : Int) * (nV : Int) ≤ 64 := by
    rcases (show na = 0 ∨ na = 1 by omega) with h | h <;> subst h <;> simp <;> omega
  obtain ⟨an, han⟩ : ∃ an : Nat, (na : Int) * (nV : Int) = (an : Int) ∧ an = (1 - area) * nV := ⟨na * nV, by simp, by rw [hna]⟩
  have han1 := han.1
  have Han := Lib.hid han.2
  have han64 : an ≤ 64 := by omega
  have Hna := Lib.hid hna
  clear han hna2 hna
  go_wp2_with fail
  go_loopw [15, 16, 17] (fun x v16 v17 wr => ∃ (k : Nat) (Q : Plat) (A1 : Option Addr) (n1 c1 : Nat) (B1 : Option Addr) (m1 d1 : Nat), k ≤ nV ∧ k ≤ D ∧ x = .int .i64 (k : Nat) ∧ runL ((layL V nV area).take k) P = (Q, 0) ∧ Q.ss.length ≤ 1000 ∧ Q.cs.length ≤ 1000 ∧ wr.heap[H]? = some (.cells #[.slice A1 n1 c1, .slice B1 m1 d1] 25 (0, 0)) ∧ PB wr A1 n1 B1 m1 Q ∧ wr.heap[w.heap.size + 1]? = some (.cells #[.slice AV nV cV, .string V.rt] 27 (0, 0)) ∧ wr.heap[w.heap.size + 1 + 1]? = some (.cells zP 25 (0, 0)) ∧ Below w.heap.size w wr) (fun x _ _ _ => nV - (intOf x).toNat)
  case atStart => exact ⟨0, P, A7, n, c7, B7, m, d7, by omega, by omega, rfl, rfl, HL1.out, HL2.out, HH8.out, HP8.out, HV8.out, HX8.out, HB8.out⟩
  case round =>
    clear HH8 HP8 HV8 HX8 HB8
    obtain ⟨k, Q, A1, n1, c1, B1, m1, d1, hk, hkD, rfl, hrun, hq1, hq2, hHb, hPb, hVb, hXb, hBb⟩ := hrel
    have Hrun := Lib.hid hrun
    have HHb := Lib.hid hHb
    have HPq := Lib.hid hPb
    have HVq := Lib.hid hVb
    have HXq := Lib.hid hXb
    have HBq := Lib.hid hBb
    have Hq1 := Lib.hid hq1
    have Hq2 := Lib.hid hq2
    clear hrun hHb hPb hVb hXb hBb hq1 hq2
    by_cases hlt : k < nV ∧ k < D
    · have e1 : (k : Int) < (nV : Int) := by omega
      have e2 : (k : Int) < (D : Int) := by omega
      have hk1 : k < nV := hlt.1
      have hk2 : k < D := hlt.2
      have hkl : k < V.bl.length := by rw [← HNV.out]; exact hk1
      obtain ⟨bV, oV, hbV, c1'⟩ := texts_at (HRw.out.below HBq.out) hkl
      subst hbV
      have hsb : V.bl.getD k noT = V.bl[k] := by rw [List.getD_eq_getElem?_getD, List.getElem?_eq_getElem hkl]; rfl
      have hstep : (layL V nV area).take (k + 1) = (layL V nV area).take k ++ [writeP ((3 + an + k : Nat) : Int) V.bl[k]] := by
        rw [layL_snoc hk1, layF, hsb, Han.out]
      have Hstep := Lib.hid (show runL ((layL V nV area).take (k + 1)) P = if (writeP ((3 + an + k : Nat) : Int) V.bl[k] Q).2 ≠ 0 then (noPlat, (writeP ((3 + an + k : Nat) : Int) V.bl[k] Q).2) else ((writeP ((3 + an + k : Nat) : Int) V.bl[k] Q).1, 0) by
        rw [hstep]
        exact runL_snoc _ _ _ _ Hrun.out)
      have HWl := Lib.hid (fun hw => write_len (i := ((3 + an + k : Nat) : Int)) (s := V.bl[k]'hkl) (P := Q) hw)
      generalize V.bl[k] = tx at c1' Hstep HWl
      obtain ⟨ix, hix⟩ : ∃ ix, ix = 3 + an + k := ⟨_, rfl⟩
      rw [← hix] at Hstep HWl
      have g1 : 3 + (an : Int) + (k : Int) = (ix : Int) := by omega
      have g2 : IntKind.i64.wrap (ix : Int) = (ix : Int) := IntWalk.i64_in _ (by omega)
      have g3 : IntKind.i64.wrap (an : Int) = (an : Int) := IntWalk.i64_in _ (by omega)
      have g4 : IntKind.i64.wrap (3 + (an : Int)) = 3 + (an : Int) := IntWalk.i64_in _ (by omega)
      have HWr := Lib.hid (fun (W : World) (hW : PB W A1 n1 B1 m1 Q) => write13_any (.agg #[.slice A1 n1 c1, .slice B1 m1 d1]) Q (ix : Int) tx W ⟨_, _, _, _, _, _, rfl, hW⟩ (by have := Hq1.out; unfold maxLen; omega) (by have := Hq2.out; unfold maxLen; omega))
      obtain ⟨R, hR⟩ : ∃ R, R = writeP (ix : Int) tx Q := ⟨_, rfl⟩
      rw [← hR] at Hstep HWl HWr
      obtain ⟨Q2, er⟩ := R
      simp only at HWl
      obtain ⟨h0, h1, _, _⟩ := two_cells HHb.out
      have q0 : (wr.cell? ⟨H, 0, none⟩ = some (.slice A1 n1 c1) ∧ wr.cell? ⟨H, 1, none⟩ = some (.slice B1 m1 d1)) ∧ (wr.cell? ⟨w.heap.size + 1, 0, none⟩ = some (.slice (some ⟨bV, oV, none⟩) nV cV) ∧ wr.cell? ⟨bV, oV + k, none⟩ = some (.string tx)) := ⟨⟨h0, h1⟩, ⟨(vtwo_cells HVq.out).1, c1'⟩⟩
      clear hsb hstep hix hR hlt hkl c1' h0 h1
      go_upto_region 17 with fail
      go_cut [16, 17] from 73 to 89 (fun v16 v17 wc => v17 = .int .i64 er ∧ NewD wr Q2 v16 wc)
      case first =>
        go_region_held3 (fun W => ((W.cell? ⟨H, 0, none⟩ = some (.slice A1 n1 c1) ∧ W.cell? ⟨H, 1, none⟩ = some (.slice B1 m1 d1)) ∧ (W.cell? ⟨w.heap.size + 1, 0, none⟩ = some (.slice (some ⟨bV, oV, none⟩) nV cV) ∧ W.cell? ⟨bV, oV + k, none⟩ = some (.string tx))) ∧ Below wr.heap.size wr W)
          (first | with_reducible assumption | with_reducible exact s4_from q0 ((Below.refl _ _).drew) | with_reducible exact s4_from q0 (((Below.refl _ _).alloc (Nat.le_refl _) _).drew) | with_reducible exact s4_from q0 hb9 | with_reducible exact s4_from q0 (hb9.alloc hb9.size _) | with_reducible exact s4_from q0 (two_by hb9 (Nat.le_refl _) _ _))
          (first
            | (go_at_call 34; refine Calls.mono (HWr.out _ (HPq.out.below (And.right (by assumption)))) ?_; rintro _ w5 ⟨v5, rfl, ⟨A5, n5, c5, B5, m5, d5, rfl, hP5⟩, hb5⟩; have hb9 := below_call (by assumption) hb5; (try (with_reducible refine newd_cps (newd_z hb5) ?_; rintro z0 z1 z2 z3))))
        · go_wp2_with fail
          go_meet
          case rel => exact ⟨rfl, newd_b hb9 hP5⟩
        · go_wp2_with fail
          go_meet
          case rel => exact ⟨rfl, newd_a hb5 hP5⟩
      case rest =>
      obtain ⟨rfl, hnew⟩ := hcut
      rename World => w9
      obtain ⟨g, A5, n5, c5, B5, m5, d5, rfl, hg, hP5, hgl, hb9⟩ := hnew
      have HG9 := Lib.hid hg
      have HP9 := Lib.hid hP5
      have HH9 := hblk_below HHb hb9
      have HV9 := hblk_below HVq hb9
      have HX9 := hblk_below HXq hb9
      have HB9 := Lib.hid (HBq.out.trans (hb9.mono HBq.out.size))
      clear hg hP5 hgl hb9 q0 g1 g2 g3 g4 HWr
      obtain ⟨x0, x1, x2, x3⟩ := two_cells HX9.out
      obtain ⟨y0, y1, y2, y3⟩ := two_cells HG9.out
      obtain ⟨u0, u1, u2, u3⟩ := two_cells HH9.out
      by_cases her : er = 0
      · subst her
        have HWl2 := HWl.out rfl
        have hQ1 : Q2.ss.length ≤ 1000 := by rw [HWl2.1]; exact Hq1.out
        have hQ2 : Q2.cs.length ≤ 1000 := by have := HWl2.2; omega
        have HQ1 := Lib.hid hQ1
        have HQ2 := Lib.hid hQ2
        have Hst2 := Lib.hid (show runL ((layL V nV area).take (k + 1)) P = (Q2, 0) by rw [Hstep.out, if_neg (by simp)])
        clear HWl2 hQ1 hQ2 Hstep HWl x0 x1 x2 x3
        go_wp2_with fail
        go_roundw
        case rel =>
          refine ⟨k + 1, Q2, A5, n5, c5, B5, m5, d5, by omega, by omega, by go_num, Hst2.out, HQ1.out, HQ2.out, two_set HH9.out _ _, HP9.out.two HH9.out, blk_oth (blk_oth HV9.out (by omega) _) (by omega) _, blk_oth (blk_oth HX9.out (by omega) _) (by omega) _, two_by HB9.out (by omega) _ _⟩
        case measure => (simp [intOf]; omega)
      · have f1 : (er != 0) = true := by simpa using her
        have HE1 := Lib.hid (show storeP P V deeds = (noPlat, false, er) by
          have hr1 : runL ((deedV V nV area).take (k + 1)) P = (noPlat, er) := by rw [deedV_take (by omega), Hstep.out, if_pos her]
          rw [HE.out, ← HD.out, run_more (by omega) hr1 her, endP, if_pos her])
        clear her Hstep HWl
        go_wp2_with fail
        refine bodyPost_ret (res_cell_tmp2 rfl _ _ (w.heap.size + 1 + 1) (by rfl) _ (load_plat_new (two_set HX9.out _ _))) rfl ?_
        rw [HE1.out]
        exact ⟨_, rfl, PlV.no _, two_by HB9.out (by omega) _ _⟩
    · have hex : ¬ k < nV ∨ (k < nV ∧ ¬ k < D) := by
        by_cases h : k < nV
        · exact .inr ⟨h, fun h2 => hlt ⟨h, h2⟩⟩
        · exact .inl h
      by_cases hDN : D ≤ nV
      · obtain rfl : k = D := by omega
        have HE1 := Lib.hid (show storeP P V deeds = (Q, false, 0) by
          rw [HE.out, ← HD.out, deedV_take hDN, Hrun.out, endP, if_neg (by simp), if_pos (by show _ < nV + 1; omega)])
        have f1 : decide ((k : Int) ≤ (nV : Int)) = true := decide_eq_true (by omega)
        have f2 : (k : Int) ≤ (nV : Int) := by omega
        have e3 : ¬ (k : Int) < (k : Int) := by omega
        obtain ⟨u0, u1, u2, u3⟩ := two_cells HHb.out
        obtain ⟨x0, x1, x2, x3⟩ := two_cells HXq.out
        clear hlt
        rcases hex with hx1 | ⟨hx1, hx2⟩
        · go_wp2_with fail
          refine bodyPost_ret (res_cell_tmp2 rfl _ _ (w.heap.size + 1 + 1) (by rfl) _ (load_plat_new (two_set HXq.out _ _))) rfl ?_
          rw [HE1.out]
          exact ⟨_, rfl, ⟨_, _, _, _, _, _, rfl, HPq.out.two HXq.out⟩, two_by HBq.out (by omega) _ _⟩
        · go_wp2_with fail
          refine bodyPost_ret (res_cell_tmp2 rfl _ _ (w.heap.size + 1 + 1) (by rfl) _ (load_plat_new (two_set HXq.out _ _))) rfl ?_
          rw [HE1.out]
          exact ⟨_, rfl, ⟨_, _, _, _, _, _, rfl, HPq.out.two HXq.out⟩, two_by HBq.out (by omega) _ _⟩
      · obtain rfl : k = nV := by omega
        have hrunN := Hrun.out
        rw [List.take_of_length_le (by rw [layL_len]; exact Nat.le_refl _)] at hrunN
        have f1 : decide ((D : Int) ≤ (k : Int)) = false := decide_eq_false (by omega)
        have f2 : ¬ (D : Int) ≤ (k : Int) := by omega
        have e3 : ¬ (k : Int) < (k : Int) := by omega
        have HSy := Lib.hid (sync13_any (.agg #[.slice A1 n1 c1, .slice B1 m1 d1]) Q wr ⟨_, _, _, _, _, _, rfl, HPq.out⟩ (by have := Hq1.out; unfold maxLen; omega) (by have := Hq2.out; omega))
        have Hrs := Lib.hid (show runL ((deedV V k area).take D) P = if (syncP Q).2 ≠ 0 then (noPlat, (syncP Q).2) else ((syncP Q).1, 0) by
          rw [deedV_all (by omega), deedV]
          exact runL_snoc _ _ _ _ hrunN)
        have HSl := Lib.hid (fun h => sync_len (P := Q) h)
        obtain ⟨R, hR⟩ : ∃ R, R = syncP Q := ⟨_, rfl⟩
        rw [← hR] at HSy Hrs HSl
        obtain ⟨Q3, er⟩ := R
        obtain ⟨u0, u1, u2, u3⟩ := two_cells HHb.out
        clear hrunN hR hlt hex
        go_wp2_with fail
        refine HSy.out.mono ?_
        rintro e w9 ⟨v9, rfl, ⟨A5, n5, c5, B5, m5, d5, rfl, hP5⟩, hb9⟩
        simp only at hP5 ⊢
        have hK : w.heap.size + 2 < w9.heap.size := by have h1 := cell_lt_of HXq.out; have h2 := hb9.size; omega
        have al := (Below.refl w9.heap.size w9).alloc (Nat.le_refl _) (.cells #[.slice A5 n5 c5, .slice B5 m5 d5] 25)
        have hbb := Below.chain hb9 al
        have HV9 := hblk_below HVq hbb
        have HX9 := hblk_below HXq hbb
        have HB9 := Lib.hid (HBq.out.trans (hbb.mono HBq.out.size))
        have HK9 := Lib.hid (heap_alloc_new w9 (.cells #[.slice A5 n5 c5, .slice B5 m5 d5] 25))
        have HP9 := Lib.hid (PB.below (show PB w9 A5 n5 B5 m5 Q3 from hP5) al)
        obtain ⟨w10, hw10⟩ : ∃ w10, w10 = w9.alloc (.cells #[.slice A5 n5 c5, .slice B5 m5 d5] 25) := ⟨_, rfl⟩
        have Hw10 := Lib.hid hw10
        rw [← hw10] at HV9 HX9 HB9 HK9 HP9
        clear hw10 al hbb hb9 hP5 u0 u1 u2 u3 HHb HPq HVq HXq HBq HSy
        go_upto_region 24 with fail
        rw [← Hw10.out]
        clear Hw10
        generalize w9.heap.size = K at *
        by_cases her : er = 0
        case neg =>
          have f3 : (er != 0) = true := by simpa using her
          have HE1 := Lib.hid (show storeP P V deeds = (noPlat, false, er) by
            rw [HE.out, ← HD.out, Hrs.out, if_pos her, endP, if_pos her])
          obtain ⟨x0, x1, x2, x3⟩ := two_cells HX9.out
          clear her
          go_wp2_with fail
          refine bodyPost_ret (res_cell_tmp2 rfl _ _ (w.heap.size + 1 + 1) (by rfl) _ (load_plat_new (two_set HX9.out _ _))) rfl ?_
          rw [HE1.out]
          exact ⟨_, rfl, PlV.no _, two_by HB9.out (by omega) _ _⟩
        subst her
        have f3 : ((0 : Int) != 0) = false := rfl
        have hQl := HSl.out rfl
        obtain ⟨dd, hdd⟩ : ∃ dd, dd = ((D - (k + 1) : Nat) : Int) := ⟨_, rfl⟩
        obtain ⟨hd, hhd⟩ : ∃ hd, hd = headS ((gen : Int) + 1) (na : Int) V.rt := ⟨_, rfl⟩
        have HE1 := Lib.hid (show storeP P V deeds = putP Q3 0 hd dd by
          rw [HE.out, ← HD.out, Hrs.out, if_neg (by simp), endP, if_neg (by simp), if_neg (by show ¬ D < k + 1; omega), hhd, hdd, Hna.out]
          rfl)
        have HHd := Lib.hid (fun W => head26_any ((gen : Int) + 1) (na : Int) V.rt W (by omega))
        rw [← hhd] at HHd
        have HPt := Lib.hid (fun W (hW : PB W A5 n5 B5 m5 Q3) => put14_any (.agg #[.slice A5 n5 c5, .slice B5 m5 d5]) Q3 hd dd W ⟨_, _, _, _, _, _, rfl, hW⟩ (by omega) (by omega))
        obtain ⟨R, hR⟩ : ∃ R, R = putP Q3 0 hd dd := ⟨_, rfl⟩
        rw [← hR] at HE1 HPt
        obtain ⟨rP, rb, re⟩ := R
        have hwg : IntKind.i64.wrap ((gen : Int) + 1) = (gen : Int) + 1 := IntWalk.i64_in _ (by omega)
        have g5 : (D : Int) - (k : Int) - 1 = dd := by rw [hdd]; omega
        have g6 : IntKind.i64.wrap dd = dd := IntWalk.i64_in _ (by rw [hdd]; omega)
        have g7 : IntKind.i64.wrap ((D : Int) - (k : Int)) = (D : Int) - (k : Int) := IntWalk.i64_in _ (by omega)
        obtain ⟨t0, t1, _, _⟩ := two_cells HK9.out
        have q0 : (w10.cell? ⟨K, 0, none⟩ = some (.slice A5 n5 c5) ∧ w10.cell? ⟨K, 1, none⟩ = some (.slice B5 m5 d5)) ∧ (w10.cell? ⟨w.heap.size + 1, 1, none⟩ = some (.string V.rt) ∧ w10.cell? ⟨w.heap.size + 1, 1, none⟩ = some (.string V.rt)) := ⟨⟨t0, t1⟩, ⟨(vtwo_cells HV9.out).2, (vtwo_cells HV9.out).2⟩⟩
        clear hdd hhd hR t0 t1 hQl
        go_upto_region 26 with fail
        have n1 : w.heap.size + 1 + 1 ≠ K := by omega
        have n2 : w.heap.size + 1 + 1 ≠ w.heap.size + 1 := by omega
        go_region_held3 (fun W => (W.cell? ⟨K, 0, none⟩ = some (.slice A5 n5 c5) ∧ W.cell? ⟨K, 1, none⟩ = some (.slice B5 m5 d5)) ∧ (W.cell? ⟨w.heap.size + 1, 1, none⟩ = some (.string V.rt) ∧ W.cell? ⟨w.heap.size + 1, 1, none⟩ = some (.string V.rt)))
          (first | with_reducible assumption | with_reducible exact z4_drew q0 | with_reducible exact z4_two Q10 n1 n2 _ _)
          (first
            | (go_at_call 16; refine Calls.mono (HHd.out _) ?_; rintro _ w11 ⟨rfl, hb11'⟩; have hb11 := Below.chain ((Below.refl _ w10).drew) hb11'; have Q9 := z4_below q0 hb11; clear hb11')
            | (go_at_call 25; refine Calls.mono (HPt.out _ (HP9.out.below hb11)) ?_; rintro _ w12 ⟨v12, rfl, ⟨A6, n6, c6, B6, m6, d6, rfl, hP6⟩, hb12⟩; have Q10 := z4_below Q9 hb12; have HX12 := hblk_below (hblk_below HX9 hb11) hb12; have HB12 := Lib.hid (HB9.out.trans ((Below.chain hb11 hb12).mono HB9.out.size)); obtain ⟨x0, x1, x2, x3⟩ := two_cells HX12.out))
        all_goals
          go_wp2_with fail
          refine bodyPost_ret (res_cell_tmp2 rfl _ _ (w.heap.size + 1 + 1) (by rfl) _ (load_plat_new (two_set HX12.out _ _))) rfl ?_
          rw [HE1.out]
          exact ⟨_, rfl, ⟨_, _, _, _, _, _, rfl, PB.two (show PB w12 A6 n6 B6 m6 rP from hP6) HX12.out⟩, two_by HB12.out (by omega) _ _⟩
end

/- VaV -/
section
open Go.RowKit
set_option linter.unusedVariables false
set_option linter.unusedSimpArgs false
set_option maxRecDepth 100000
set_option maxHeartbeats 20000000

theorem vz_a {B : Nat} {u W w' : World} (h : Below B u W) (hB : B ≤ W.heap.size) (hb : Below W.heap.size W w') : Below B u w' := h.trans (hb.mono hB)
theorem vz_b {B : Nat} {u W w' : World} {o : Obj} (h : Below B u W) (hB : B ≤ W.heap.size) (hb : Below (W.alloc o).heap.size (W.alloc o) w') : Below B u w' := (h.alloc hB o).trans (hb.mono (by simp; omega))
theorem vz_c {W w' : World} {o : Obj} (hb : Below (W.alloc o).heap.size (W.alloc o) w') : w'.heap[W.heap.size]? = some o := cells_below (heap_alloc_new W o) hb
theorem vz_e {W w' : World} {o : Obj} (hb : Below (W.alloc o).drew.heap.size (W.alloc o).drew w') : w'.heap[W.heap.size]? = some o := cells_below (show (W.alloc o).drew.heap[W.heap.size]? = some o from heap_alloc_new W o) hb
theorem vy_a {u w' : World} (hb : Below u.drew.heap.size u.drew w') : Below u.heap.size u w' := Below.chain ((Below.refl _ u).drew) hb
theorem vy_b {u w' : World} {o : Obj} (hb : Below (u.alloc o).drew.heap.size (u.alloc o).drew w') : Below u.heap.size u w' := Below.chain (((Below.refl _ u).alloc (Nat.le_refl _) o).drew) hb
/-- What the volume's Write leaves: its box. -/
def CutW (u : World) (R1 : ByteArray) (v6 v7 : Value) (wc : World) : Prop := ∃ g A n c, v6 = .pointer (some ⟨g, 0, none⟩) ∧ v7 = .int .i64 0 ∧ wc.heap[g]? = some (.cells #[.slice A n c, .string R1] 27 (0, 0)) ∧ VV wc (.agg #[.slice A n c, .string R1]) (rooted bl1) ∧ Below u.heap.size u wc
theorem cutW_new {u w6 : World} {R1 : ByteArray} (h : Below u.heap.size u w6) {A : Option Addr} {n c : Nat} (hr : Rd w6 A (textsV (rooted bl1).bl)) (hn : n = (rooted bl1).bl.length) (hR : R1 = (rooted bl1).rt) : CutW u R1 (.pointer (some ⟨w6.heap.size, 0, none⟩)) (.int .i64 0) (w6.alloc (.cells #[.slice A n c, .string (rooted bl1).rt] 27)) := by
  subst hR
  have al := (Below.refl w6.heap.size w6).alloc (Nat.le_refl _) (.cells #[.slice A n c, .string (rooted bl1).rt] 27)
  exact ⟨_, A, n, c, rfl, rfl, heap_alloc_new w6 _, ⟨A, n, c, rfl, hr.below al, hn⟩, Below.chain h al⟩
theorem cutW_set {u w6 : World} {R1 : ByteArray} {g : Nat} {z0 z1 : Value} (h : Below u.heap.size u w6) (hg : u.heap.size ≤ g) (hz : w6.heap[g]? = some (.cells #[z0, z1] 27 (0, 0))) {A : Option Addr} {n c : Nat} (hA : ∀ b o, A = some ⟨b, o, none⟩ → g < b) (hr : Rd w6 A (textsV (rooted bl1).bl)) (hn : n = (rooted bl1).bl.length) (hR : R1 = (rooted bl1).rt) :
    CutW u R1 (.pointer (some ⟨g, 0, none⟩)) (.int .i64 0) ((w6.setCell ⟨g, 0, none⟩ (.slice A n c)).setCell ⟨g, 1, none⟩ (.string (rooted bl1).rt)) := by
  subst hR
  exact ⟨g, A, n, c, rfl, rfl, two_set hz _ _, ⟨A, n, c, rfl, vrd_set (vrd_set hr (fun b o e h => by have := hA b o e; omega) _) (fun b o e h => by have := hA b o e; omega) _, hn⟩, two_by h hg _ _⟩
theorem vaults_any (w : World) (hR : Rounds w) (hT : Turns w) :
    Calls Tryz.prog 14 #[] w fun e w' => e = .returned (.bool true) ∧ Below w.heap.size w w' := by
  have HR := Lib.hid hR
  have HT := Lib.hid hT
  have zk : keyV.size ≤ maxLen := by rw [show keyV.size = 32 from vrep_size 32 1]; decide
  have zn : nonV.size ≤ maxLen := by rw [show nonV.size = 12 from vrep_size 12 2]; decide
  have M1 := Lib.hid (fun W => show Calls Tryz.prog 38 #[.int .u8 1, .int .i64 32] W fun e w' => e = .returned (.string keyV) ∧ Below W.heap.size W w' from many_any 1 32 W (by omega))
  have M2 := Lib.hid (fun W => show Calls Tryz.prog 38 #[.int .u8 2, .int .i64 12] W fun e w' => e = .returned (.string nonV) ∧ Below W.heap.size W w' from many_any 2 12 W (by omega))
  have HF := Lib.hid (fun W h => show Calls Tryz.prog 6 #[.int .i64 2] W (PlR W (diskF, 0)) from by
    have h3 := vformat_any 2 W (by decide) h
    rw [vF.1] at h3
    exact h3)
  have lenOf : ∀ {P : Plat} {n gen area : Nat} {V : Vol}, openP P = (⟨n, gen, area, V⟩, 0) → P.ss.length ≤ maxLen := fun {P n gen area V} h => by
    have h1 := (vt_of_open (P := P) (by rw [h])).len
    have h2 := (count_le (vt_of_open (P := P) (by rw [h])).cnt).2
    unfold maxLen
    omega
  have oF : openP diskF = (⟨2, 0, 0, rooted bl0⟩, 0) := vF.2.2.open
  have LF := Lib.hid (fun v W (h : PlV W v diskF) h2 => show Calls Tryz.prog 8 #[v] W (LoadR W (⟨2, 0, 0, rooted bl0⟩, 0)) from by
    have h3 := vload_any v diskF W h (lenOf oF) h2
    rw [oF] at h3
    exact h3)
  have LB := Lib.hid (fun v W (h : PlV W v diskB) h2 => show Calls Tryz.prog 8 #[v] W (LoadR W (⟨2, 0, 0, rooted bl0⟩, 0)) from by
    have h3 := vload_any v diskB W h (lenOf storeA.2.2) h2
    rw [storeA.2.2] at h3
    exact h3)
  have LC := Lib.hid (fun v W (h : PlV W v diskC) h2 => show Calls Tryz.prog 8 #[v] W (LoadR W (⟨2, 1, 1, rooted bl1⟩, 0)) from by
    have h3 := vload_any v diskC W h (lenOf storeC.2) h2
    rw [storeC.2] at h3
    exact h3)
  have lb1 : (rooted bl1).bl.length ≤ maxLen := by decide
  have SA := Lib.hid (fun v vv W (h : PlV W v diskF) (hv : VV W vv (rooted bl1)) h2 => show Calls Tryz.prog 10 #[v, vv, .int .i64 2] W (DoR W (diskA, false, 0)) from by
    have h3 := vstore_any v vv diskF (rooted bl1) 2 W h hv (lenOf oF) lb1 h2
    rw [storeA.1] at h3
    exact h3)
  have SC := Lib.hid (fun v vv W (h : PlV W v diskF) (hv : VV W vv (rooted bl1)) h2 => show Calls Tryz.prog 10 #[v, vv, .int .i64 (-1)] W (DoR W (diskC, true, 0)) from by
    have h3 := vstore_any v vv diskF (rooted bl1) (-1) W h hv (lenOf oF) lb1 h2
    rw [storeC.1] at h3
    exact h3)
  have CR := Lib.hid (fun v W (h : PlV W v diskA) => show Calls Tryz.prog 39 #[v, .slice none 0 0] W (PlR W (diskB, 0)) from by
    have h3 := crash_any v diskA none 0 0 [] W h (Rd.nil _ _) rfl (by decide) (by simp)
    rw [storeA.2.1] at h3
    exact h3)
  have WR := Lib.hid (fun v W (h : VV W v (rooted bl0)) h1 h2 => show Calls Tryz.prog 37 #[v, .string keyV, .string nonV, .int .i64 1, .string ⟨#[97, 98, 99]⟩] W (VolE W (rooted bl1) 0) from by
    have h3 := vwrite_any v (rooted bl0) keyV nonV 1 abcT W h zk zn (by decide) h1 h2
    rw [write0.1, write0.2.1] at h3
    exact h3)
  have S00 := Lib.hid (fun v1 v2 W (h1 : VV W v1 (rooted bl0)) (h2 : VV W v2 (rooted bl0)) => show Calls Tryz.prog 13 #[v1, v2] W fun e w' => e = .returned (.bool true) ∧ Below W.heap.size W w' from by
    have h3 := same16_any v1 v2 _ _ W h1 h2 (by decide)
    rw [sameV_true.2 rfl] at h3
    exact h3)
  have S11 := Lib.hid (fun v1 v2 W (h1 : VV W v1 (rooted bl1)) (h2 : VV W v2 (rooted bl1)) => show Calls Tryz.prog 13 #[v1, v2] W fun e w' => e = .returned (.bool true) ∧ Below W.heap.size W w' from by
    have h3 := same16_any v1 v2 _ _ W h1 h2 (by decide)
    rw [sameV_true.2 rfl] at h3
    exact h3)
  obtain ⟨R0, hR0⟩ : ∃ R0, R0 = (rooted bl0).rt := ⟨_, rfl⟩
  obtain ⟨R1, hR1⟩ : ∃ R1, R1 = (rooted bl1).rt := ⟨_, rfl⟩
  have hR0s : R0.size = 32 := by rw [hR0]; exact (vol_parts check0V).2.1
  obtain ⟨hd1, hhd1⟩ : ∃ hd, hd = headS 1 0 R0 := ⟨_, rfl⟩
  have hd1s : hd1.size = 37 := by rw [hhd1, hR0]; exact headV1
  have HH1 := Lib.hid (fun W => show Calls Tryz.prog 15 #[.int .i64 1, .int .i64 0, .string R0] W fun e w' => e = .returned (.string hd1) ∧ Below W.heap.size W w' from by rw [hhd1]; exact vhead_any 1 0 R0 W (by omega))
  have HH2 := Lib.hid (fun W => show Calls Tryz.prog 15 #[.int .i64 1, .int .i64 2, .string R0] W fun e w' => e = .returned (.string ⟨#[]⟩) ∧ Below W.heap.size W w' from by
    have h3 := vhead_any 1 2 R0 W (by omega)
    rw [show headS 1 2 R0 = ⟨#[]⟩ by rw [hR0]; exact headV2] at h3
    exact h3)
  have HR0 := Lib.hid hR0
  have HR1 := Lib.hid hR1
  have f37 : ((hd1.size : Int) == 37) = true := by simp; omega
  have fz : ((0 : Int) == (0 : Int)) = true := rfl
  clear hR hT zk zn lenOf oF lb1 hR0 hR1 hR0s hd1s hhd1
  go_enter Tryz.func14, Tryz.ntmps14
  have HB := Lib.hid (Below.refl w.heap.size w)
  go_wp2_with fail
  refine (HF.out _ (HR.out.below HB.out)).mono ?_
  rintro e w1 ⟨vp, rfl, ⟨Ap, np, cp, Bp, mp, dp, rfl, hpp⟩, hb⟩
  replace HB := Lib.hid (HB.out.trans (hb.mono HB.out.size))
  have al := (Below.refl w1.heap.size w1).alloc (Nat.le_refl _) (.cells #[.slice Ap np cp, .slice Bp mp dp] 25)
  replace HB := Lib.hid (HB.out.trans (al.mono HB.out.size))
  have Hp := Lib.hid (heap_alloc_new w1 (.cells #[.slice Ap np cp, .slice Bp mp dp] 25))
  have HPp := Lib.hid (hpp.below al)
  obtain ⟨up, hup⟩ : ∃ u, u = w1.alloc (.cells #[.slice Ap np cp, .slice Bp mp dp] 25) := ⟨_, rfl⟩
  have Hup := Lib.hid hup
  rw [← hup] at HB Hp HPp
  clear hb al hup hpp
  go_upto_region 2 with fail
  rw [← Hup.out]
  clear Hup
  generalize w1.heap.size = gp at *
  obtain ⟨pa, pb⟩ := vtwo_cells Hp.out
  go_wp2_with fail
  refine (LF.out _ _ ⟨_, _, _, _, _, _, rfl, HPp.out⟩ (HR.out.below HB.out)).mono ?_
  rintro e w2 ⟨Av, cv, rfl, ⟨hrv, -⟩, hb⟩
  simp only at hrv
  rw [show (rooted bl0).rt = R0 from HR0.out.symm]
  clear pa pb
  replace Hp := hblk_below Hp hb
  replace HPp := Lib.hid (HPp.out.below hb)
  replace HB := Lib.hid (HB.out.trans (hb.mono HB.out.size))
  have al := (Below.refl w2.heap.size w2).alloc (Nat.le_refl _) (.cells #[.slice Av (rooted bl0).bl.length cv, .string R0] 27)
  replace Hp := hblk_below Hp al
  replace HPp := Lib.hid (HPp.out.below al)
  replace HB := Lib.hid (HB.out.trans (al.mono HB.out.size))
  have Hv := Lib.hid (heap_alloc_new w2 (.cells #[.slice Av (rooted bl0).bl.length cv, .string R0] 27))
  have HVv := Lib.hid (show VV _ (.agg #[.slice Av (rooted bl0).bl.length cv, .string R0]) (rooted bl0) from ⟨Av, _, cv, by rw [HR0.out], hrv.below al, rfl⟩)
  have hpv := trivial
  obtain ⟨uv, huv⟩ : ∃ u, u = w2.alloc (.cells #[.slice Av (rooted bl0).bl.length cv, .string R0] 27) := ⟨_, rfl⟩
  have Huv := Lib.hid huv
  rw [← huv] at HB Hp Hv HPp HVv
  clear hb al huv hpv
  go_upto_region 3 with fail
  rw [← Huv.out]
  clear Huv
  generalize w2.heap.size = gv at *
  obtain ⟨pa, pb⟩ := vtwo_cells Hp.out
  obtain ⟨va, vb⟩ := vtwo_cells Hv.out
  have Huv0 := Lib.hid (Below.refl uv.heap.size uv)
  have HRv0 := Lib.hid (HR.out.below HB.out)
  have HTv0 := Lib.hid (HT.out.below HB.out)
  go_cut [6, 7] from 33 to 39 (fun v6 v7 wc => CutW uv R1 v6 v7 wc)
  case first =>
    have hvlt := cell_lt_of Hv.out
    have V2 : (uv.cell? ⟨gv, 0, none⟩ = some (.slice Av (rooted bl0).bl.length cv) ∧ uv.cell? ⟨gv, 1, none⟩ = some (.string R0)) := ⟨va, vb⟩
    have ne0 : uv.heap.size ≠ gv := by omega
    have ne4 : ∀ k, uv.heap.size ≤ k → k ≠ gv := fun k hk => by omega
    have HVW := Lib.hid (show ∀ W, Below uv.heap.size uv W → Calls Tryz.prog 37 #[.agg #[.slice Av (rooted bl0).bl.length cv, .string R0], .string keyV, .string nonV, .int .i64 1, .string ⟨#[97, 98, 99]⟩] W (VolE W (rooted bl1) 0) from fun W h => WR.out _ _ (HVv.out.below h) (HRv0.out.below h) (HTv0.out.below h))
    have K0 := Huv0
    go_region_held3 (fun w' => w'.cell? ⟨gv, 0, none⟩ = some (.slice Av (rooted bl0).bl.length cv) ∧ w'.cell? ⟨gv, 1, none⟩ = some (.string R0))
      (first | with_reducible assumption | with_reducible exact V2 | with_reducible exact keep2_below V2 ((Below.refl _ _).drew) | with_reducible exact keep2_below V2 (((Below.refl _ _).alloc (Nat.le_refl _) _).drew) | with_reducible exact keep2_alloc Q4 | with_reducible exact keep2_alloc Q5 | with_reducible exact keep2_alloc Q6 | with_reducible exact keep2_set (keep2_set Q6 (va_ne ne0) (va_ne ne0)) (va_ne ne0) (va_ne ne0) | with_reducible exact keep2_set (keep2_set Q6 (va_ne (ne4 _ K4.out.size)) (va_ne (ne4 _ K4.out.size))) (va_ne (ne4 _ K4.out.size)) (va_ne (ne4 _ K4.out.size)) | with_reducible exact keep2_set (keep2_set Q6 (va_ne (ne4 _ K5.out.size)) (va_ne (ne4 _ K5.out.size))) (va_ne (ne4 _ K5.out.size)) (va_ne (ne4 _ K5.out.size)))
      (first
        | ((go_at_call 38; with_reducible refine (M1.out _).mono ?_); rintro _ w4 ⟨rfl, hb4⟩; (first | (have K4 := Lib.hid (by with_reducible exact vy_a hb4); have Q4 := keep2_below (keep2_below V2 ((Below.refl _ _).drew)) hb4) | (have K4 := Lib.hid (by with_reducible exact vy_b hb4); have Q4 := keep2_below (keep2_below V2 (((Below.refl _ _).alloc (Nat.le_refl _) _).drew)) hb4; have Z4 := Lib.hid (by with_reducible exact vz_e hb4))); clear hb4)
        | ((go_at_call 38; with_reducible refine (M2.out _).mono ?_); rintro _ w5 ⟨rfl, hb5⟩; (first | (have K5 := Lib.hid (by with_reducible exact vz_a K4.out K4.out.size hb5); have Q5 := keep2_below Q4 hb5; try have Z5 := hblk_below Z4 hb5) | (have K5 := Lib.hid (by with_reducible exact vz_b K4.out K4.out.size hb5); have Q5 := keep2_below (keep2_alloc Q4) hb5; have Z5 := Lib.hid (by with_reducible exact vz_c hb5))); clear hb5)
        | (go_at_call 37; (with_reducible refine (HVW.out _ K5.out).mono ?_); rintro _ w6 ⟨v6, rfl, ⟨A6, n6, c6, rfl, ⟨hr6, hA6⟩, hn6⟩, hb6⟩; have K6 := Lib.hid (by with_reducible exact vz_a K5.out K5.out.size hb6); have Q6 := keep2_below Q5 hb6; have HA6 := Lib.hid (show ∀ b o, A6 = some ⟨b, o, none⟩ → w5.heap.size ≤ b from hA6); have Z6 := hblk_below Z5 hb6; obtain ⟨z0, z1, z2, z3⟩ := two_cells Z6.out; have lt6 := cell_lt_of Z5.out; have ge6 := K4.out.size; have HR6 := Lib.hid hr6; have HN6 := Lib.hid hn6; clear hb6 hr6 hA6 hn6)
        | (go_at_call 37; (with_reducible refine (HVW.out _ K5.out).mono ?_); rintro _ w6 ⟨v6, rfl, ⟨A6, n6, c6, rfl, ⟨hr6, hA6⟩, hn6⟩, hb6⟩; have K6 := Lib.hid (by with_reducible exact vz_a K5.out K5.out.size hb6); have Q6 := keep2_below Q5 hb6; have HA6 := Lib.hid (show ∀ b o, A6 = some ⟨b, o, none⟩ → w5.heap.size ≤ b from hA6); have HR6 := Lib.hid hr6; have HN6 := Lib.hid hn6; clear hb6 hr6 hA6 hn6)
        | (go_at_call 37; (with_reducible refine (HVW.out _ (K5.out.alloc K5.out.size _)).mono ?_); rintro _ w6 ⟨v6, rfl, ⟨A6, n6, c6, rfl, ⟨hr6, hA6⟩, hn6⟩, hb6⟩; have K6 := Lib.hid (by with_reducible exact vz_b K5.out K5.out.size hb6); have Q6 := keep2_below (keep2_alloc Q5) hb6; have HA6 := Lib.hid (show ∀ b o, A6 = some ⟨b, o, none⟩ → w5.heap.size + 1 ≤ b from fun b o e => by have := hA6 b o e; simp at this; exact this); have Z6 := Lib.hid (by with_reducible exact vz_c hb6); obtain ⟨z0, z1, z2, z3⟩ := two_cells Z6.out; have HR6 := Lib.hid hr6; have HN6 := Lib.hid hn6; clear hb6 hr6 hA6 hn6))
    all_goals
      go_wp2_with fail
      go_meet
      case rel =>
        first
          | exact cutW_new K6.out HR6.out HN6.out HR1.out
          | exact cutW_set K6.out K5.out.size Z6.out (fun b o e => by have := HA6.out b o e; omega) HR6.out HN6.out HR1.out
          | exact cutW_set K6.out K4.out.size Z6.out (fun b o e => by have := HA6.out b o e; omega) HR6.out HN6.out HR1.out
          | exact cutW_set K6.out (Nat.le_refl _) Z6.out (fun b o e => by have := HA6.out b o e; omega) HR6.out HN6.out HR1.out
  case rest =>
  obtain ⟨gw, Aw, nw, cw, rfl, rfl, hw, hvw, hb⟩ := hcut
  rename World => uw
  clear pa pb va vb
  replace Hp := hblk_below Hp hb
  replace Hv := hblk_below Hv hb
  replace HPp := Lib.hid (HPp.out.below hb)
  replace HVv := Lib.hid (HVv.out.below hb)
  replace HB := Lib.hid (HB.out.trans (hb.mono HB.out.size))
  have Hw := Lib.hid hw
  have HVw := Lib.hid hvw
  clear hw hvw hb Huv0 HRv0 HTv0
  obtain ⟨pa, pb⟩ := vtwo_cells Hp.out
  obtain ⟨va, vb⟩ := vtwo_cells Hv.out
  obtain ⟨wa, wb⟩ := vtwo_cells Hw.out
  go_wp2_with fail
  refine (SA.out _ _ _ ⟨_, _, _, _, _, _, rfl, HPp.out⟩ HVw.out (HR.out.below HB.out)).mono ?_
  rintro e w4 ⟨va, rfl, ⟨Aa, na, ca, Ba, ma, da, rfl, hpa⟩, hb⟩
  clear pa pb va vb wa wb
  replace Hp := hblk_below Hp hb
  replace Hv := hblk_below Hv hb
  replace Hw := hblk_below Hw hb
  replace HPp := Lib.hid (HPp.out.below hb)
  replace HVv := Lib.hid (HVv.out.below hb)
  replace HVw := Lib.hid (HVw.out.below hb)
  replace HB := Lib.hid (HB.out.trans (hb.mono HB.out.size))
  have al := (Below.refl w4.heap.size w4).alloc (Nat.le_refl _) (.cells #[.slice Aa na ca, .slice Ba ma da] 25)
  replace Hp := hblk_below Hp al
  replace Hv := hblk_below Hv al
  replace Hw := hblk_below Hw al
  replace HPp := Lib.hid (HPp.out.below al)
  replace HVv := Lib.hid (HVv.out.below al)
  replace HVw := Lib.hid (HVw.out.below al)
  replace HB := Lib.hid (HB.out.trans (al.mono HB.out.size))
  have Ha := Lib.hid (heap_alloc_new w4 (.cells #[.slice Aa na ca, .slice Ba ma da] 25))
  have HPa := Lib.hid (hpa.below al)
  obtain ⟨ua, hua⟩ : ∃ u, u = w4.alloc (.cells #[.slice Aa na ca, .slice Ba ma da] 25) := ⟨_, rfl⟩
  have Hua := Lib.hid hua
  rw [← hua] at HB Hp Hv Hw Ha HPp HVv HVw HPa
  clear hb al hua hpa
  go_upto_region 5 with fail
  rw [← Hua.out]
  clear Hua
  generalize w4.heap.size = ga at *
  obtain ⟨pa, pb⟩ := vtwo_cells Hp.out
  obtain ⟨va, vb⟩ := vtwo_cells Hv.out
  obtain ⟨wa, wb⟩ := vtwo_cells Hw.out
  obtain ⟨aa, ab⟩ := vtwo_cells Ha.out
  go_wp2_with fail
  refine (CR.out _ _ ⟨_, _, _, _, _, _, rfl, HPa.out⟩).mono ?_
  rintro e w5 ⟨vb, rfl, ⟨Ab, nb, cb, Bb, mb, db, rfl, hpb⟩, hb⟩
  clear pa pb va vb wa wb aa ab
  replace Hp := hblk_below Hp hb
  replace Hv := hblk_below Hv hb
  replace Hw := hblk_below Hw hb
  replace Ha := hblk_below Ha hb
  replace HPp := Lib.hid (HPp.out.below hb)
  replace HVv := Lib.hid (HVv.out.below hb)
  replace HVw := Lib.hid (HVw.out.below hb)
  replace HPa := Lib.hid (HPa.out.below hb)
  replace HB := Lib.hid (HB.out.trans (hb.mono HB.out.size))
  have al := (Below.refl w5.heap.size w5).alloc (Nat.le_refl _) (.cells #[.slice Ab nb cb, .slice Bb mb db] 25)
  replace Hp := hblk_below Hp al
  replace Hv := hblk_below Hv al
  replace Hw := hblk_below Hw al
  replace Ha := hblk_below Ha al
  replace HPp := Lib.hid (HPp.out.below al)
  replace HVv := Lib.hid (HVv.out.below al)
  replace HVw := Lib.hid (HVw.out.below al)
  replace HPa := Lib.hid (HPa.out.below al)
  replace HB := Lib.hid (HB.out.trans (al.mono HB.out.size))
  have Hb := Lib.hid (heap_alloc_new w5 (.cells #[.slice Ab nb cb, .slice Bb mb db] 25))
  have HPb := Lib.hid (hpb.below al)
  obtain ⟨ub, hub⟩ : ∃ u, u = w5.alloc (.cells #[.slice Ab nb cb, .slice Bb mb db] 25) := ⟨_, rfl⟩
  have Hub := Lib.hid hub
  rw [← hub] at HB Hp Hv Hw Ha Hb HPp HVv HVw HPa HPb
  clear hb al hub hpb
  go_upto_region 6 with fail
  rw [← Hub.out]
  clear Hub
  generalize w5.heap.size = gb at *
  obtain ⟨pa, pb⟩ := vtwo_cells Hp.out
  obtain ⟨va, vb⟩ := vtwo_cells Hv.out
  obtain ⟨wa, wb⟩ := vtwo_cells Hw.out
  obtain ⟨aa, ab⟩ := vtwo_cells Ha.out
  obtain ⟨ba, bb⟩ := vtwo_cells Hb.out
  go_wp2_with fail
  refine (LB.out _ _ ⟨_, _, _, _, _, _, rfl, HPb.out⟩ (HR.out.below HB.out)).mono ?_
  rintro e w6 ⟨Ax, cx, rfl, ⟨hrx, -⟩, hb⟩
  simp only at hrx
  rw [show (rooted bl0).rt = R0 from HR0.out.symm]
  clear pa pb va vb wa wb aa ab ba bb
  replace Hp := hblk_below Hp hb
  replace Hv := hblk_below Hv hb
  replace Hw := hblk_below Hw hb
  replace Ha := hblk_below Ha hb
  replace Hb := hblk_below Hb hb
  replace HPp := Lib.hid (HPp.out.below hb)
  replace HVv := Lib.hid (HVv.out.below hb)
  replace HVw := Lib.hid (HVw.out.below hb)
  replace HPa := Lib.hid (HPa.out.below hb)
  replace HPb := Lib.hid (HPb.out.below hb)
  replace HB := Lib.hid (HB.out.trans (hb.mono HB.out.size))
  have al := (Below.refl w6.heap.size w6).alloc (Nat.le_refl _) (.cells #[.slice Ax (rooted bl0).bl.length cx, .string R0] 27)
  replace Hp := hblk_below Hp al
  replace Hv := hblk_below Hv al
  replace Hw := hblk_below Hw al
  replace Ha := hblk_below Ha al
  replace Hb := hblk_below Hb al
  replace HPp := Lib.hid (HPp.out.below al)
  replace HVv := Lib.hid (HVv.out.below al)
  replace HVw := Lib.hid (HVw.out.below al)
  replace HPa := Lib.hid (HPa.out.below al)
  replace HPb := Lib.hid (HPb.out.below al)
  replace HB := Lib.hid (HB.out.trans (al.mono HB.out.size))
  have Hx := Lib.hid (heap_alloc_new w6 (.cells #[.slice Ax (rooted bl0).bl.length cx, .string R0] 27))
  have HVx := Lib.hid (show VV _ (.agg #[.slice Ax (rooted bl0).bl.length cx, .string R0]) (rooted bl0) from ⟨Ax, _, cx, by rw [HR0.out], hrx.below al, rfl⟩)
  have hpx := trivial
  obtain ⟨ux, hux⟩ : ∃ u, u = w6.alloc (.cells #[.slice Ax (rooted bl0).bl.length cx, .string R0] 27) := ⟨_, rfl⟩
  have Hux := Lib.hid hux
  rw [← hux] at HB Hp Hv Hw Ha Hb Hx HPp HVv HVw HPa HPb HVx
  clear hb al hux hpx
  go_upto_region 7 with fail
  rw [← Hux.out]
  clear Hux
  generalize w6.heap.size = gx at *
  obtain ⟨pa, pb⟩ := vtwo_cells Hp.out
  obtain ⟨va, vb⟩ := vtwo_cells Hv.out
  obtain ⟨wa, wb⟩ := vtwo_cells Hw.out
  obtain ⟨aa, ab⟩ := vtwo_cells Ha.out
  obtain ⟨ba, bb⟩ := vtwo_cells Hb.out
  obtain ⟨xa, xb⟩ := vtwo_cells Hx.out
  go_wp2_with fail
  refine (SC.out _ _ _ ⟨_, _, _, _, _, _, rfl, HPp.out⟩ HVw.out (HR.out.below HB.out)).mono ?_
  rintro e w7 ⟨vc, rfl, ⟨Ac, nc, cc, Bc, mc, dc, rfl, hpc⟩, hb⟩
  clear pa pb va vb wa wb aa ab ba bb xa xb
  replace Hp := hblk_below Hp hb
  replace Hv := hblk_below Hv hb
  replace Hw := hblk_below Hw hb
  replace Ha := hblk_below Ha hb
  replace Hb := hblk_below Hb hb
  replace Hx := hblk_below Hx hb
  replace HPp := Lib.hid (HPp.out.below hb)
  replace HVv := Lib.hid (HVv.out.below hb)
  replace HVw := Lib.hid (HVw.out.below hb)
  replace HPa := Lib.hid (HPa.out.below hb)
  replace HPb := Lib.hid (HPb.out.below hb)
  replace HVx := Lib.hid (HVx.out.below hb)
  replace HB := Lib.hid (HB.out.trans (hb.mono HB.out.size))
  have al := (Below.refl w7.heap.size w7).alloc (Nat.le_refl _) (.cells #[.slice Ac nc cc, .slice Bc mc dc] 25)
  replace Hp := hblk_below Hp al
  replace Hv := hblk_below Hv al
  replace Hw := hblk_below Hw al
  replace Ha := hblk_below Ha al
  replace Hb := hblk_below Hb al
  replace Hx := hblk_below Hx al
  replace HPp := Lib.hid (HPp.out.below al)
  replace HVv := Lib.hid (HVv.out.below al)
  replace HVw := Lib.hid (HVw.out.below al)
  replace HPa := Lib.hid (HPa.out.below al)
  replace HPb := Lib.hid (HPb.out.below al)
  replace HVx := Lib.hid (HVx.out.below al)
  replace HB := Lib.hid (HB.out.trans (al.mono HB.out.size))
  have Hc := Lib.hid (heap_alloc_new w7 (.cells #[.slice Ac nc cc, .slice Bc mc dc] 25))
  have HPc := Lib.hid (hpc.below al)
  obtain ⟨uc, huc⟩ : ∃ u, u = w7.alloc (.cells #[.slice Ac nc cc, .slice Bc mc dc] 25) := ⟨_, rfl⟩
  have Huc := Lib.hid huc
  rw [← huc] at HB Hp Hv Hw Ha Hb Hx Hc HPp HVv HVw HPa HPb HVx HPc
  clear hb al huc hpc
  go_upto_region 8 with fail
  rw [← Huc.out]
  clear Huc
  generalize w7.heap.size = gc at *
  obtain ⟨pa, pb⟩ := vtwo_cells Hp.out
  obtain ⟨va, vb⟩ := vtwo_cells Hv.out
  obtain ⟨wa, wb⟩ := vtwo_cells Hw.out
  obtain ⟨aa, ab⟩ := vtwo_cells Ha.out
  obtain ⟨ba, bb⟩ := vtwo_cells Hb.out
  obtain ⟨xa, xb⟩ := vtwo_cells Hx.out
  obtain ⟨ca, cb⟩ := vtwo_cells Hc.out
  go_wp2_with fail
  refine (LC.out _ _ ⟨_, _, _, _, _, _, rfl, HPc.out⟩ (HR.out.below HB.out)).mono ?_
  rintro e w8 ⟨Ay, cy, rfl, ⟨hry, -⟩, hb⟩
  simp only at hry
  rw [show (rooted bl1).rt = R1 from HR1.out.symm]
  clear pa pb va vb wa wb aa ab ba bb xa xb ca cb
  replace Hp := hblk_below Hp hb
  replace Hv := hblk_below Hv hb
  replace Hw := hblk_below Hw hb
  replace Ha := hblk_below Ha hb
  replace Hb := hblk_below Hb hb
  replace Hx := hblk_below Hx hb
  replace Hc := hblk_below Hc hb
  replace HPp := Lib.hid (HPp.out.below hb)
  replace HVv := Lib.hid (HVv.out.below hb)
  replace HVw := Lib.hid (HVw.out.below hb)
  replace HPa := Lib.hid (HPa.out.below hb)
  replace HPb := Lib.hid (HPb.out.below hb)
  replace HVx := Lib.hid (HVx.out.below hb)
  replace HPc := Lib.hid (HPc.out.below hb)
  replace HB := Lib.hid (HB.out.trans (hb.mono HB.out.size))
  have al := (Below.refl w8.heap.size w8).alloc (Nat.le_refl _) (.cells #[.slice Ay (rooted bl1).bl.length cy, .string R1] 27)
  replace Hp := hblk_below Hp al
  replace Hv := hblk_below Hv al
  replace Hw := hblk_below Hw al
  replace Ha := hblk_below Ha al
  replace Hb := hblk_below Hb al
  replace Hx := hblk_below Hx al
  replace Hc := hblk_below Hc al
  replace HPp := Lib.hid (HPp.out.below al)
  replace HVv := Lib.hid (HVv.out.below al)
  replace HVw := Lib.hid (HVw.out.below al)
  replace HPa := Lib.hid (HPa.out.below al)
  replace HPb := Lib.hid (HPb.out.below al)
  replace HVx := Lib.hid (HVx.out.below al)
  replace HPc := Lib.hid (HPc.out.below al)
  replace HB := Lib.hid (HB.out.trans (al.mono HB.out.size))
  have Hy := Lib.hid (heap_alloc_new w8 (.cells #[.slice Ay (rooted bl1).bl.length cy, .string R1] 27))
  have HVy := Lib.hid (show VV _ (.agg #[.slice Ay (rooted bl1).bl.length cy, .string R1]) (rooted bl1) from ⟨Ay, _, cy, by rw [HR1.out], hry.below al, rfl⟩)
  have hpy := trivial
  obtain ⟨uy, huy⟩ : ∃ u, u = w8.alloc (.cells #[.slice Ay (rooted bl1).bl.length cy, .string R1] 27) := ⟨_, rfl⟩
  have Huy := Lib.hid huy
  rw [← huy] at HB Hp Hv Hw Ha Hb Hx Hc Hy HPp HVv HVw HPa HPb HVx HPc HVy
  clear hb al huy hpy
  go_upto_region 9 with fail
  rw [← Huy.out]
  clear Huy
  generalize w8.heap.size = gy at *
  obtain ⟨pa, pb⟩ := vtwo_cells Hp.out
  obtain ⟨va, vb⟩ := vtwo_cells Hv.out
  obtain ⟨wa, wb⟩ := vtwo_cells Hw.out
  obtain ⟨aa, ab⟩ := vtwo_cells Ha.out
  obtain ⟨ba, bb⟩ := vtwo_cells Hb.out
  obtain ⟨xa, xb⟩ := vtwo_cells Hx.out
  obtain ⟨ca, cb⟩ := vtwo_cells Hc.out
  obtain ⟨ya, yb⟩ := vtwo_cells Hy.out
  have n2 : (((rooted bl0).bl.length : Nat) : Int) = 2 := rfl
  go_wp2_with fail
  refine (S00.out _ _ _ HVx.out HVv.out).mono ?_
  rintro e w20 ⟨rfl, hb⟩
  clear pa pb va vb wa wb aa ab ba bb xa xb ca cb ya yb
  replace Hp := hblk_below Hp hb
  replace Hv := hblk_below Hv hb
  replace Hw := hblk_below Hw hb
  replace Ha := hblk_below Ha hb
  replace Hb := hblk_below Hb hb
  replace Hx := hblk_below Hx hb
  replace Hc := hblk_below Hc hb
  replace Hy := hblk_below Hy hb
  replace HPp := Lib.hid (HPp.out.below hb)
  replace HVv := Lib.hid (HVv.out.below hb)
  replace HVw := Lib.hid (HVw.out.below hb)
  replace HPa := Lib.hid (HPa.out.below hb)
  replace HPb := Lib.hid (HPb.out.below hb)
  replace HVx := Lib.hid (HVx.out.below hb)
  replace HPc := Lib.hid (HPc.out.below hb)
  replace HVy := Lib.hid (HVy.out.below hb)
  replace HB := Lib.hid (HB.out.trans (hb.mono HB.out.size))
  clear hb
  obtain ⟨pa, pb⟩ := vtwo_cells Hp.out
  obtain ⟨va, vb⟩ := vtwo_cells Hv.out
  obtain ⟨wa, wb⟩ := vtwo_cells Hw.out
  obtain ⟨aa, ab⟩ := vtwo_cells Ha.out
  obtain ⟨ba, bb⟩ := vtwo_cells Hb.out
  obtain ⟨xa, xb⟩ := vtwo_cells Hx.out
  obtain ⟨ca, cb⟩ := vtwo_cells Hc.out
  obtain ⟨ya, yb⟩ := vtwo_cells Hy.out
  go_wp2_with fail
  refine (S11.out _ _ _ HVy.out HVw.out).mono ?_
  rintro e w21 ⟨rfl, hb⟩
  clear pa pb va vb wa wb aa ab ba bb xa xb ca cb ya yb
  replace Hp := hblk_below Hp hb
  replace Hv := hblk_below Hv hb
  replace Hw := hblk_below Hw hb
  replace Ha := hblk_below Ha hb
  replace Hb := hblk_below Hb hb
  replace Hx := hblk_below Hx hb
  replace Hc := hblk_below Hc hb
  replace Hy := hblk_below Hy hb
  replace HPp := Lib.hid (HPp.out.below hb)
  replace HVv := Lib.hid (HVv.out.below hb)
  replace HVw := Lib.hid (HVw.out.below hb)
  replace HPa := Lib.hid (HPa.out.below hb)
  replace HPb := Lib.hid (HPb.out.below hb)
  replace HVx := Lib.hid (HVx.out.below hb)
  replace HPc := Lib.hid (HPc.out.below hb)
  replace HVy := Lib.hid (HVy.out.below hb)
  replace HB := Lib.hid (HB.out.trans (hb.mono HB.out.size))
  clear hb
  obtain ⟨pa, pb⟩ := vtwo_cells Hp.out
  obtain ⟨va, vb⟩ := vtwo_cells Hv.out
  obtain ⟨wa, wb⟩ := vtwo_cells Hw.out
  obtain ⟨aa, ab⟩ := vtwo_cells Ha.out
  obtain ⟨ba, bb⟩ := vtwo_cells Hb.out
  obtain ⟨xa, xb⟩ := vtwo_cells Hx.out
  obtain ⟨ca, cb⟩ := vtwo_cells Hc.out
  obtain ⟨ya, yb⟩ := vtwo_cells Hy.out
  go_wp2_with fail
  refine (HH1.out _).mono ?_
  rintro e w22 ⟨rfl, hb⟩
  clear pa pb va vb wa wb aa ab ba bb xa xb ca cb ya yb
  replace Hp := hblk_below Hp hb
  replace Hv := hblk_below Hv hb
  replace Hw := hblk_below Hw hb
  replace Ha := hblk_below Ha hb
  replace Hb := hblk_below Hb hb
  replace Hx := hblk_below Hx hb
  replace Hc := hblk_below Hc hb
  replace Hy := hblk_below Hy hb
  replace HPp := Lib.hid (HPp.out.below hb)
  replace HVv := Lib.hid (HVv.out.below hb)
  replace HVw := Lib.hid (HVw.out.below hb)
  replace HPa := Lib.hid (HPa.out.below hb)
  replace HPb := Lib.hid (HPb.out.below hb)
  replace HVx := Lib.hid (HVx.out.below hb)
  replace HPc := Lib.hid (HPc.out.below hb)
  replace HVy := Lib.hid (HVy.out.below hb)
  replace HB := Lib.hid (HB.out.trans (hb.mono HB.out.size))
  clear hb
  obtain ⟨pa, pb⟩ := vtwo_cells Hp.out
  obtain ⟨va, vb⟩ := vtwo_cells Hv.out
  obtain ⟨wa, wb⟩ := vtwo_cells Hw.out
  obtain ⟨aa, ab⟩ := vtwo_cells Ha.out
  obtain ⟨ba, bb⟩ := vtwo_cells Hb.out
  obtain ⟨xa, xb⟩ := vtwo_cells Hx.out
  obtain ⟨ca, cb⟩ := vtwo_cells Hc.out
  obtain ⟨ya, yb⟩ := vtwo_cells Hy.out
  go_wp2_with fail
  refine (HH2.out _).mono ?_
  rintro e w23 ⟨rfl, hb⟩
  clear pa pb va vb wa wb aa ab ba bb xa xb ca cb ya yb
  replace Hp := hblk_below Hp hb
  replace Hv := hblk_below Hv hb
  replace Hw := hblk_below Hw hb
  replace Ha := hblk_below Ha hb
  replace Hb := hblk_below Hb hb
  replace Hx := hblk_below Hx hb
  replace Hc := hblk_below Hc hb
  replace Hy := hblk_below Hy hb
  replace HPp := Lib.hid (HPp.out.below hb)
  replace HVv := Lib.hid (HVv.out.below hb)
  replace HVw := Lib.hid (HVw.out.below hb)
  replace HPa := Lib.hid (HPa.out.below hb)
  replace HPb := Lib.hid (HPb.out.below hb)
  replace HVx := Lib.hid (HVx.out.below hb)
  replace HPc := Lib.hid (HPc.out.below hb)
  replace HVy := Lib.hid (HVy.out.below hb)
  replace HB := Lib.hid (HB.out.trans (hb.mono HB.out.size))
  clear hb
  obtain ⟨pa, pb⟩ := vtwo_cells Hp.out
  obtain ⟨va, vb⟩ := vtwo_cells Hv.out
  obtain ⟨wa, wb⟩ := vtwo_cells Hw.out
  obtain ⟨aa, ab⟩ := vtwo_cells Ha.out
  obtain ⟨ba, bb⟩ := vtwo_cells Hb.out
  obtain ⟨xa, xb⟩ := vtwo_cells Hx.out
  obtain ⟨ca, cb⟩ := vtwo_cells Hc.out
  obtain ⟨ya, yb⟩ := vtwo_cells Hy.out
  go_wp2_with fail
  go_ret
  exact ⟨rfl, HB.out⟩
end

/- Fr -/
section
open Go.RowKit
set_option linter.unusedVariables false
set_option maxRecDepth 100000
set_option maxHeartbeats 1000000

def FrA (B0 : Nat) (w : World) (A : Option Addr) : Prop := ∀ b o s, A = some ⟨b, o, s⟩ → B0 ≤ b ∧ ∃ cs t, w.heap[b]? = some (.cells cs t (0, 0))
theorem FrA.none (B0 : Nat) (w : World) : FrA B0 w none := fun b o s h => by cases h
theorem FrA.mono {B0 B1 : Nat} {w : World} {A : Option Addr} (h : FrA B1 w A) (hB : B0 ≤ B1) : FrA B0 w A := fun b o s e => ⟨Nat.le_trans hB (h b o s e).1, (h b o s e).2⟩
theorem FrA.below {B0 : Nat} {w w' : World} {A : Option Addr} (h : FrA B0 w A) (hb : Below w.heap.size w w') : FrA B0 w' A := fun b o s e => by
  obtain ⟨h1, cs, t, h2⟩ := h b o s e
  exact ⟨h1, cs, t, cells_below h2 hb⟩
theorem FrA.set {B0 : Nat} {w : World} {A : Option Addr} (h : FrA B0 w A) (p : Addr) (v : Value) : FrA B0 (w.setCell p v) A := fun b o s e => by
  obtain ⟨h1, cs, t, h2⟩ := h b o s e
  refine ⟨h1, ?_⟩
  by_cases hp : b = p.block
  · subst hp
    exact ⟨_, t, by simp [World.setCell, Array.getElem?_modify, h2]; rfl⟩
  · exact ⟨cs, t, (Below.heap_setCell w p v b hp).trans h2⟩
theorem FrA.two {B0 : Nat} {w : World} {A : Option Addr} (h : FrA B0 w A) {p q : Addr} {u v : Value} : FrA B0 ((w.setCell p u).setCell q v) A := (h.set p u).set q v
theorem own_fr {w : World} {B : Nat} {e : TypeId} {size : Nat} {A : Option Addr} {n c m : Nat} {xs : List Value} (h : w.ownsRow B e size (.slice A n c) m xs) : FrA B w A := by
  rcases h.2 with ⟨hv, _⟩ | ⟨g, cap, cur, hv, hB, hg, _, _⟩
  · injection hv with h1 _ _
    subst h1
    exact FrA.none _ _
  · injection hv with h1 _ _
    subst h1
    intro b o s e
    injection e with e
    injection e with e1 _ _
    subst e1
    exact ⟨hB, _, _, hg⟩
def PlF (B0 : Nat) (w : World) (v : Value) (P : Plat) : Prop := ∃ A n c B m d, v = .agg #[.slice A n c, .slice B m d] ∧ FrA B0 w A ∧ PB w A n B m P
theorem PlF.no (B0 : Nat) (w : World) : PlF B0 w (.agg #[.slice none 0 0, .slice none 0 0]) noPlat := ⟨_, _, _, _, _, _, rfl, FrA.none _ _, rfl, rfl, Rd.nil _ _, Rd.nil _ _, Ty.of_none _ _, Ty.of_none _ _⟩
def PlRf (w : World) (r : Plat × Int) (e : Ending) (w' : World) : Prop := ∃ v, e = .returned (.tuple #[v, .int .i64 r.2]) ∧ PlF w.heap.size w' v r.1 ∧ Below w.heap.size w w'
def DoRf (B0 : Nat) (w : World) (r : Plat × Bool × Int) (e : Ending) (w' : World) : Prop := ∃ v, e = .returned (.tuple #[v, .bool r.2.1, .int .i64 r.2.2]) ∧ PlF B0 w' v r.1 ∧ Below w.heap.size w w'

theorem one_write_f (A B : Option Addr) (n c m d : Nat) (P : Plat) (i : Int) (s : ByteArray) (full : Bool) (w : World) (h : PB w A n B m P) :
    Calls Tryz.prog 79 #[.agg #[.slice A n c, .slice B m d], .int .i64 i, .string s, .bool full, .func (.func 80) #[] #[]] w (PlRf w (oneW P i s full)) := by
  obtain ⟨hX, hA, hbA⟩ := two_new w #[.slice A n c, .slice B m d] 25
  have HP := Lib.hid (h.below hbA)
  have HX := Lib.hid hX
  have HA := Lib.hid hA
  have HB := Lib.hid hbA
  have HN := Lib.hid h.hn
  have HM := Lib.hid h.hm
  clear h hX hA hbA
  go_enter Tryz.func79, Tryz.ntmps79
  go_wp2_with fail
  refine (check_any A B n c m d P _ HP.out).mono ?_
  rintro e w1 ⟨rfl, hb1⟩
  replace HP := Lib.hid (HP.out.below hb1)
  replace HX := hblk_below HX hb1
  replace HA := hblk_below HA hb1
  replace HB := Lib.hid (HB.out.trans (hb1.mono HB.out.size))
  clear hb1
  obtain ⟨x0, x1, x2, x3⟩ := two_cells HX.out
  obtain ⟨a0, a1, _, _⟩ := two_cells HA.out
  cases hc : checkB P with
  | false =>
    have Hc := Lib.hid hc
    clear hc
    go_wp2_with fail
    refine bodyPost_ret (res_cell_tmp rfl _ _ (w.heap.size + 1) (by rfl) _ (load_plat_new (two_set HX.out _ _))) rfl ?_
    rw [oneW, if_pos Hc.out]
    exact ⟨_, rfl, PlF.no _ _, two_by HB.out (by omega) _ _⟩
  | true =>
    have Hc := Lib.hid hc
    clear hc
    obtain ⟨hk1, hk2, hk3, hk4, hk5⟩ := check_parts Hc.out
    have hn200 : n ≤ 200 := by rw [HN.out]; exact hk2
    have hm100 : m ≤ 100 := by rw [HM.out]; exact hk3
    clear hk1 hk2 hk4 hk5
    go_wp2_with fail
    refine (phas_any A B n c m d i _).mono ?_
    rintro e w2 ⟨rfl, hb2⟩
    replace HP := Lib.hid (HP.out.below hb2)
    replace HX := hblk_below HX hb2
    replace HA := hblk_below HA hb2
    replace HB := Lib.hid (HB.out.trans (hb2.mono HB.out.size))
    clear hb2 x0 x1 x2 x3 a0 a1
    obtain ⟨x0, x1, x2, x3⟩ := two_cells HX.out
    obtain ⟨a0, a1, _, _⟩ := two_cells HA.out
    cases hh : hasB n i with
    | false =>
      have Hh := Lib.hid (show hasB P.ss.length i = false by rw [← HN.out]; exact hh)
      clear hh
      go_wp2_with fail
      refine bodyPost_ret (res_cell_tmp rfl _ _ (w.heap.size + 1) (by rfl) _ (load_plat_new (two_set HX.out _ _))) rfl ?_
      rw [oneW, if_neg (by rw [Hc.out]; simp), if_pos Hh.out]
      exact ⟨_, rfl, PlF.no _ _, two_by HB.out (by omega) _ _⟩
    | true =>
      have Hh := Lib.hid (show hasB P.ss.length i = true by rw [← HN.out]; exact hh)
      clear hh
      by_cases h128 : 128 < s.size
      · have d1 : decide ((128 : Int) < (s.size : Int)) = true := by simp; omega
        go_wp2_with fail
        refine bodyPost_ret (res_cell_tmp rfl _ _ (w.heap.size + 1) (by rfl) _ (load_plat_new (two_set HX.out _ _))) rfl ?_
        rw [oneW, if_neg (by rw [Hc.out]; simp), if_neg (by rw [Hh.out]; simp), if_pos h128]
        exact ⟨_, rfl, PlF.no _ _, two_by HB.out (by omega) _ _⟩
      · have d1 : decide ((128 : Int) < (s.size : Int)) = false := by simp; omega
        cases full with
        | true =>
          go_wp2_with fail
          refine bodyPost_ret (res_cell_tmp rfl _ _ (w.heap.size + 1) (by rfl) _ (load_plat_new (two_set HX.out _ _))) rfl ?_
          rw [oneW, if_neg (by rw [Hc.out]; simp), if_neg (by rw [Hh.out]; simp), if_neg h128, if_pos rfl]
          exact ⟨_, rfl, PlF.no _ _, two_by HB.out (by omega) _ _⟩
        | false =>
          go_wp2_with fail
          refine (copied_any A B n c m d P _ HP.out (by omega) (by omega)).mono ?_
          rintro e w3 ⟨g, rfl, hD, hb3⟩
          replace HX := hblk_below HX hb3
          have hs23 : w.heap.size + 1 < w2.heap.size := cell_lt x0
          have HD := Lib.hid hD
          have HB3 := Lib.hid hb3
          have hs3 := hb3.size
          clear hD hb3 x0 x1 x2 x3 a0 a1
          go_wp2_with fail
          refine (write1_any g _).mono ?_
          rintro e w4 ⟨rfl, rfl⟩
          go_wp2_with fail
          refine (wait_any w2.heap.size g P i s _ HD.out hs3 (by omega)).mono ?_
          rintro e w4 ⟨⟨v, rfl⟩, hD4, hb4⟩
          have HD4 := Lib.hid hD4
          have HB4 := Lib.hid (HB3.out.trans hb4)
          replace HX := Lib.hid ((hb4.block (w.heap.size + 1) hs23).trans HX.out)
          clear hD4 hb4
          go_wp2_with fail
          refine (plain_any w2.heap.size g _ _ HD4.out).mono ?_
          rintro e w5 ⟨A5, n5, c5, B5, m5, d5, rfl, hO5, hb5⟩
          replace HX := hblk_below HX hb5
          have HO5 := Lib.hid hO5
          have HB5 := Lib.hid (HB.out.trans ((HB4.out.trans (hb5.mono HB4.out.size)).mono HB.out.size))
          clear hO5 hb5
          obtain ⟨x0, x1, x2, x3⟩ := two_cells HX.out
          go_wp2_with fail
          refine bodyPost_ret (res_cell_tmp rfl _ _ (w.heap.size + 1) (by rfl) _ (load_plat_new (two_set HX.out _ _))) rfl ?_
          rw [oneW, if_neg (by rw [Hc.out]; simp), if_neg (by rw [Hh.out]; simp), if_neg h128, if_neg (by simp)]
          exact ⟨_, rfl, ⟨_, _, _, _, _, _, rfl, ((own_fr HO5.out.os).mono (by omega)).two, (HO5.out.two HX.out _ _).pb⟩, two_by HB5.out (by omega) _ _⟩

theorem write_full_f (A B : Option Addr) (n c m d : Nat) (P : Plat) (i : Int) (s : ByteArray) (full : Bool) (r : Plat × Int) (w : World) (h : PB w A n B m P) (hf : full = decide (100 ≤ m)) (hr : r = oneW P i s full) :
    Calls Tryz.prog 49 #[.agg #[.slice A n c, .slice B m d], .int .i64 i, .string s] w (PlRf w r) := by
  obtain ⟨hX, hA, hbA⟩ := two_new w #[.slice A n c, .slice B m d] 25
  have HP := Lib.hid (h.below hbA)
  have HX := Lib.hid hX
  have HB := Lib.hid hbA
  have HS := Lib.hid hbA.size
  have HR := Lib.hid hr
  have hd1 : decide ((100 : Int) ≤ (m : Int)) = full := by rw [hf]; exact decide_eq_decide.2 (by omega)
  clear h hX hA hbA hr hf
  go_enter Tryz.func49, Tryz.ntmps49
  go_wp2_with fail
  refine (one_write_f A B n c m d P i s full _ HP.out).mono ?_
  rintro e w1 ⟨v1, rfl, hv1, hb1⟩
  rw [← HR.out] at hv1 ⊢
  obtain ⟨A5, n5, c5, B5, m5, d5, rfl, hf5, hO5⟩ := hv1
  replace HX := hblk_below HX hb1
  replace HB := Lib.hid (HB.out.trans (hb1.mono HB.out.size))
  have HO := Lib.hid hO5
  clear hb1 hO5
  obtain ⟨x0, x1, x2, x3⟩ := two_cells HX.out
  go_wp2_with fail
  refine bodyPost_ret (res_cell_tmp rfl _ _ (w.heap.size + 1) (by rfl) _ (load_plat_new (two_set HX.out _ _))) rfl ?_
  exact ⟨_, rfl, ⟨_, _, _, _, _, _, rfl, (hf5.mono HS.out).two, HO.out.two HX.out⟩, two_by HB.out (by omega) _ _⟩

theorem write_any_f (v : Value) (P : Plat) (i : Int) (s : ByteArray) (w : World) (h : PlV w v P) : Calls Tryz.prog 49 #[v, .int .i64 i, .string s] w (PlRf w (writeP i s P)) := by
  obtain ⟨A, n, c, B, m, d, rfl, h⟩ := h
  refine write_full_f A B n c m d P i s (decide (100 ≤ m)) _ w h rfl ?_
  rw [oneW, writeP, h.hm]
  simp only [decide_eq_true_eq]

theorem settle_f (A B : Option Addr) (n c m d : Nat) (P : Plat) (f : Nat → Int) (fn : FuncId) (cap : Array Value) (w : World) (h : PB w A n B m P)
    (hent : ∀ args W, (callFunc fn args).run Tryz.prog W = .ok (.enter fn args) W)
    (hF : ∀ (i : Nat) W', Below w.heap.size w W' → i < 100 → Calls Tryz.prog fn (#[.int .i64 (i : Nat)] ++ cap) W' fun e W'' => e = .returned (.int .i64 (f i)) ∧ W'' = W')
    (hf : ∀ i, f i ≤ 9223372036854775807) :
    Calls Tryz.prog 72 #[.agg #[.slice A n c, .slice B m d], .func (.func fn) #[] cap] w (PlRf w (settleP f P)) := by
  obtain ⟨hX, hA, hbA⟩ := two_new w #[.slice A n c, .slice B m d] 25
  have HP := Lib.hid (h.below hbA)
  have HX := Lib.hid hX
  have HA := Lib.hid hA
  have HB := Lib.hid hbA
  have HN := Lib.hid h.hn
  have HM := Lib.hid h.hm
  have HF := Lib.hid hF
  have Hf := Lib.hid hf
  clear h hX hA hbA hF hf
  go_enter Tryz.func72, Tryz.ntmps72
  go_wp2_with fail
  refine (check_any A B n c m d P _ HP.out).mono ?_
  rintro e w1 ⟨rfl, hb1⟩
  replace HP := Lib.hid (HP.out.below hb1)
  replace HX := hblk_below HX hb1
  replace HA := hblk_below HA hb1
  replace HB := Lib.hid (HB.out.trans (hb1.mono HB.out.size))
  clear hb1
  obtain ⟨x0, x1, x2, x3⟩ := two_cells HX.out
  obtain ⟨a0, a1, _, _⟩ := two_cells HA.out
  cases hc : checkB P with
  | false =>
    have Hc := Lib.hid hc
    clear hc
    go_wp2_with fail
    refine bodyPost_ret (res_cell_tmp rfl _ _ (w.heap.size + 1) (by rfl) _ (load_plat_new (two_set HX.out _ _))) rfl ?_
    rw [settleP, if_pos Hc.out]
    exact ⟨_, rfl, PlF.no _ _, two_by HB.out (by omega) _ _⟩
  | true =>
    have Hc := Lib.hid hc
    have HE := Lib.hid (show settleP f P = settleE P f by rw [settleP, if_neg (by rw [hc]; simp), settleE])
    obtain ⟨hk1, hk2, hk3, hk4, hk5⟩ := check_parts hc
    have HK := Lib.hid hk5
    have hn200 : n ≤ 200 := by rw [HN.out]; exact hk2
    have hm100 : m ≤ 100 := by rw [HM.out]; exact hk3
    clear hk1 hk2 hk4 hk5 hc
    go_wp2_with fail
    refine (copied_any A B n c m d P _ HP.out (by omega) (by omega)).mono ?_
    rintro e w3 ⟨g, rfl, hD, hb3⟩
    have hs13 : w.heap.size + 1 < w1.heap.size := cell_lt x0
    have hs3 := hb3.size
    replace HX := hblk_below HX hb3
    replace HA := hblk_below HA hb3
    have HB13 := Lib.hid hb3
    have HD := Lib.hid hD
    have HB3 := Lib.hid (HB.out.trans (hb3.mono HB.out.size))
    clear hb3 hD x0 x1 x2 x3 a0 a1
    obtain ⟨a0, a1, _, _⟩ := two_cells HA.out
    go_wp2_with fail
    go_loopw [21] (fun x wr => ∃ k : Nat, k ≤ m ∧ x = .int .i64 (k : Nat) ∧ Disk wr w1.heap.size g ⟨fallTo P f k, P.cs⟩ ∧ Below w1.heap.size w3 wr) (fun x _ => m - (intOf x).toNat)
    case atStart => exact ⟨0, by omega, rfl, HD.out, Below.refl _ _⟩
    case round =>
      obtain ⟨k, hk, rfl, hDk, hbk⟩ := hrel
      have HDk := Lib.hid hDk
      have hb1k := HB13.out.trans hbk
      have HWk := Lib.hid (HB.out.trans (hb1k.mono HB.out.size))
      have HPk := Lib.hid (HP.out.below hb1k)
      have HXk := Lib.hid ((hbk.block (w.heap.size + 1) (by omega)).trans HX.out)
      have hsk := hb1k.size
      have Hbk := Lib.hid hbk
      clear hDk hb1k hbk a0 a1
      by_cases hlt : k < m
      · have hil : k < P.cs.length := by rw [← HM.out]; exact hlt
        obtain ⟨b, off, hB, c0, c1⟩ := puts_at HPk.out.rc hil
        subst hB
        have hk1 : (k : Int) < (m : Int) := by omega
        have Hst := Lib.hid (show fallTo P f (k + 1) = fallS (fallTo P f k) P.cs[k] (f k) by rw [fallTo, List.getD_eq_getElem?_getD, List.getElem?_eq_getElem hil]; rfl)
        have hq := HK.out _ (List.getElem_mem hil)
        generalize P.cs[k] = q at c0 c1 hq Hst
        obtain ⟨i, s⟩ := q
        obtain ⟨hs, h0, hi⟩ := hq
        simp only at c0 c1 hs h0 hi
        obtain ⟨i, rfl⟩ := Int.eq_ofNat_of_zero_le h0
        have hi' : i < P.ss.length := by omega
        clear h0 hi
        have y0 := (two_cells (heap_alloc_new wr (.cells #[.int .i64 (i : Nat), .string s] 65))).1
        have y1 := (two_cells (heap_alloc_new wr (.cells #[.int .i64 (i : Nat), .string s] 65))).2.1
        have hba := ((Below.refl wr.heap.size wr).alloc (Nat.le_refl _) (.cells #[.int .i64 (i : Nat), .string s] 65)).drew
        have HDa := Lib.hid (HDk.out.below hba)
        have HFa := Lib.hid (HF.out k _ (HWk.out.trans (hba.mono HWk.out.size)) (by omega))
        have HBa := Lib.hid (Hbk.out.trans (hba.mono (Nat.le_trans hs3 Hbk.out.size)))
        have Hls := Lib.hid (fallTo_size Hc.out f k (by omega))
        have HXa := Lib.hid (cells_below (heap_alloc_new wr (.cells #[.int .i64 (i : Nat), .string s] 65)) ((Below.refl _ _).drew))
        clear hba
        go_wp2_with fail
        go_region_held3 (fun w' => w'.cell? ⟨wr.heap.size, 0, none⟩ = some (.int .i64 (i : Nat)) ∧ w'.cell? ⟨wr.heap.size, 1, none⟩ = some (.string s))
          (first | assumption | exact ⟨y0, y1⟩ | exact ⟨(two_cells hx5).1, (two_cells hx5).2.1⟩)
          (first
            | ((go_at_call 95; refine (dfall_any w1.heap.size g ⟨fallTo P f k, P.cs⟩ i s (f k) _ HDa.out (by simp; omega) (by rw [fallTo_len]; exact hi') (by omega) (fun x hx => Nat.le_trans (Hls.out x hx) (by omega)) (Hf.out k)).mono ?_); rintro _ w' ⟨⟨v5, rfl⟩, hD5, hb5, hk5⟩; have hx5 := hk5 _ _ HXa.out (by rintro cs fr ⟨⟩))
            | (with_reducible refine Calls.mono HFa.out ?_; rintro _ w' ⟨rfl, rfl⟩))
        go_wp2_with fail
        go_roundw
        case rel => exact ⟨k + 1, by omega, by go_num, by rw [Hst.out]; exact hD5, HBa.out.trans hb5⟩
        case measure => simp [intOf]; omega
      · obtain rfl : k = m := by omega
        obtain ⟨A6, n6, c6, B6, m6, d6, hg6, hB6, hO6⟩ := HDk.out
        obtain ⟨g0, g1, g2, g3⟩ := two_cells hg6
        have HG6 := Lib.hid hg6
        have HO6 := Lib.hid hO6
        clear hg6 hO6 HDk
        go_wp2_with fail
        have hD7 : Disk (wr.setCell ⟨g, 1, none⟩ (.slice none 0 0)) w1.heap.size g ⟨fallTo P f k, []⟩ := by
          have ho := HO6.out.set HG6.out (by decide) (by decide) 1 (.slice none 0 0)
          exact ⟨A6, n6, c6, none, 0, 0, blk_set HG6.out 1 (.slice none 0 0), hB6, ho.hn, rfl, ho.os, World.ownsRow_nil _ _ _ _⟩
        have hX7 := (Below.heap_setCell wr ⟨g, 1, none⟩ (.slice none 0 0) (w.heap.size + 1) (by simp; omega)).trans HXk.out
        have hB7 := HWk.out.trans (by_set (w := wr) (b := g) (i := 1) (B0 := w.heap.size) (by omega) (.slice none 0 0))
        refine (plain_any w1.heap.size g _ _ hD7).mono ?_
        rintro e w5 ⟨A5, n5, c5, B5, m5, d5, rfl, hO5, hb5⟩
        have HX7 := Lib.hid (cells_below hX7 hb5)
        have HO5 := Lib.hid hO5
        have HB5 := Lib.hid (hB7.trans (hb5.mono hB7.size))
        clear hO5 hb5 hD7 hX7 hB7 g0 g1 g2 g3
        obtain ⟨x0, x1, x2, x3⟩ := two_cells HX7.out
        go_wp2_with fail
        refine bodyPost_ret (res_cell_tmp rfl _ _ (w.heap.size + 1) (by rfl) _ (load_plat_new (two_set HX7.out _ _))) rfl ?_
        rw [HE.out, settleE, ← HM.out]
        exact ⟨_, rfl, ⟨_, _, _, _, _, _, rfl, ((own_fr HO5.out.os).mono (by omega)).two, (HO5.out.two HX7.out _ _).pb⟩, two_by HB5.out (by omega) _ _⟩

theorem sync_any_f (v : Value) (P : Plat) (w : World) (h : PlV w v P) : Calls Tryz.prog 52 #[v] w (PlRf w (syncP P)) := by
  obtain ⟨A, n, c, B, m, d, rfl, h⟩ := h
  obtain ⟨hX, hA, hbA⟩ := two_new w #[.slice A n c, .slice B m d] 25
  have HP := Lib.hid (h.below hbA)
  have HX := Lib.hid hX
  have HB := Lib.hid hbA
  have HS := Lib.hid hbA.size
  clear h hX hA hbA
  go_enter Tryz.func52, Tryz.ntmps52
  go_wp2_with fail
  refine (settle_f A B n c m d P (fun _ => 1) 82 #[] _ HP.out (enters_of Tryz.func82 (by kernel_rfl) rfl) (fun i W' _ _ => sync1_any i W') (fun _ => by omega)).mono ?_
  rintro e w1 ⟨v1, rfl, hv1, hb1⟩
  rw [← syncP] at hv1 ⊢
  obtain ⟨A5, n5, c5, B5, m5, d5, rfl, hf5, hO5⟩ := hv1
  replace HX := hblk_below HX hb1
  replace HB := Lib.hid (HB.out.trans (hb1.mono HB.out.size))
  have HO := Lib.hid hO5
  clear hb1 hO5
  obtain ⟨x0, x1, x2, x3⟩ := two_cells HX.out
  go_wp2_with fail
  refine bodyPost_ret (res_cell_tmp rfl _ _ (w.heap.size + 1) (by rfl) _ (load_plat_new (two_set HX.out _ _))) rfl ?_
  exact ⟨_, rfl, ⟨_, _, _, _, _, _, rfl, (hf5.mono HS.out).two, HO.out.two HX.out⟩, two_by HB.out (by omega) _ _⟩

theorem tcopied_f (A B : Option Addr) (n c m d : Nat) (P : Plat) (w : World) (h : PB w A n B m P) (hn : n ≤ 1000000) (hm : m ≤ 1000000) :
    Calls Tryz.prog 51 #[.agg #[.slice A n c, .slice B m d]] w fun e w' => ∃ A' n' c' B' m' d', e = .returned (.agg #[.slice A' n' c', .slice B' m' d']) ∧ FrA w.heap.size w' A' ∧ PB w' A' n' B' m' P ∧ Below w.heap.size w w' := by
  obtain ⟨hX, hA, hbA⟩ := two_new w #[.slice A n c, .slice B m d] 25
  have H := Lib.hid h
  have HP := Lib.hid (h.below hbA)
  have HX := Lib.hid hX
  have x0 := (two_cells hA).1
  have x1 := (two_cells hA).2.1
  have HbA := Lib.hid hbA
  have f0 := (two_cells hX).1
  have f1 := (two_cells hX).2.1
  have f2 := (two_cells hX).2.2.1
  have f3 := (two_cells hX).2.2.2
  clear h hX hA hbA
  go_enter Tryz.func51, Tryz.ntmps51
  go_wp2_with fail
  go_region_held3 (fun w' => (w'.cell? ⟨w.heap.size, 0, none⟩ = some (.slice A n c) ∧ w'.cell? ⟨w.heap.size, 1, none⟩ = some (.slice B m d)))
    (first | assumption | exact ⟨x0, x1⟩ | exact keep2_below ⟨x0, x1⟩ (by assumption) | exact keep2_below (by assumption) (by assumption) | exact keep2_set (keep2_set (by assumption) (by simp) (by simp)) (by simp) (by simp))
    (first
      | (refine step_append_copy (by rfl) _ _ 22 (by rfl) w.heap.size 9 (.string ⟨#[]⟩) 1 16 Tryz.underlying22 string_info rfl (by omega) (by rfl) A n c (by rfl) (textsV P.ss) (by exact HP.out.rs) (by rw [textsV_len, ← H.out.hn, Nat.mul_one]) (textsV_one _) (by omega) (by omega) (by exact HbA.out.size) ?_; intro A1 cap1 w1 ho1 hb1'; have hb1 := Below.chain ((Below.refl _ ((w.alloc (.cells #[.slice A n c, .slice B m d] 25)).alloc (.cells zP 25))).drew) hb1'; clear hb1')
      | (refine step_append_copy (by rfl) _ _ 23 (by rfl) w.heap.size 65 (.agg #[.int .i64 0, .string ⟨#[]⟩]) 2 24 Tryz.underlying23 put_info rfl (by omega) (by rfl) B m d (by rfl) (putsV P.cs) (by exact HP.out.rc.below hb1) (by rw [putsV_len, ← H.out.hm]) (putsV_one _) (by omega) (by omega) (by exact Nat.le_trans HbA.out.size hb1.size) ?_; intro B1 cap2 w2 ho2 hb2; replace HX := hblk_below (hblk_below HX hb1) hb2; obtain ⟨f0', f1', f2', f3'⟩ := two_cells HX.out))
  go_wp2_with fail
  have hB2 := Below.chain (Below.chain HbA.out hb1) hb2
  have ho : OB w2 w.heap.size A1 n cap1 B1 m cap2 P := ⟨H.out.hn, H.out.hm, own_keep ho1 hb2, ho2⟩
  refine bodyPost_ret (res_cell1 rfl _ _ (w.heap.size + 1) (by rfl) _ (load_plat_new (two_set HX.out _ _))) rfl ?_
  exact ⟨_, _, _, _, _, _, rfl, (own_fr ho.os).two, (ho.two HX.out _ _).pb, two_by hB2 (by omega) _ _⟩

theorem put11_any_f (v : Value) (P : Plat) (ba bs' : Nat) (i : Int) (s : ByteArray) (w : World) (h : PlV w v P) (hi : w.cell? ⟨ba, 0, none⟩ = some (.int .i64 i)) (hs : w.cell? ⟨bs', 0, none⟩ = some (.string s)) :
    Calls Tryz.prog 48 #[v, .pointer (some ⟨ba, 0, none⟩), .pointer (some ⟨bs', 0, none⟩)] w (PlRf w (writeP i s P)) := by
  obtain ⟨A, n, c, B, m, d, rfl, h⟩ := h
  obtain ⟨hX, hA, hbA⟩ := two_new w #[.slice A n c, .slice B m d] 25
  have HP := Lib.hid (h.below hbA)
  have HX := Lib.hid hX
  have HB := Lib.hid hbA
  have HS := Lib.hid hbA.size
  have h1 := cell_lt hi
  have h2 := cell_lt hs
  simp only at h1 h2
  obtain ⟨r, hr⟩ : ∃ r, r = writeP i s P := ⟨_, rfl⟩
  have HR := Lib.hid hr
  rw [← hr]
  clear h hX hA hbA hr
  go_enter Tryz.func48, Tryz.ntmps48
  go_wp2_with fail
  refine (write_any_f _ P i s _ ⟨_, _, _, _, _, _, rfl, HP.out⟩).mono ?_
  rintro e w1 ⟨v1, rfl, hv1, hb1⟩
  rw [← HR.out] at hv1 ⊢
  obtain ⟨A5, n5, c5, B5, m5, d5, rfl, hf5, hO5⟩ := hv1
  replace HX := hblk_below HX hb1
  replace HB := Lib.hid (HB.out.trans (hb1.mono HB.out.size))
  have HO := Lib.hid hO5
  clear hb1 hO5
  obtain ⟨x0, x1, x2, x3⟩ := two_cells HX.out
  go_wp2_with fail
  refine bodyPost_ret (res_cell_tmp rfl _ _ (w.heap.size + 1) (by rfl) _ (load_plat_new (two_set HX.out _ _))) rfl ?_
  exact ⟨_, rfl, ⟨_, _, _, _, _, _, rfl, (hf5.mono HS.out).two, HO.out.two HX.out⟩, two_by HB.out (by omega) _ _⟩

theorem do_at_f (A B D : Option Addr) (n c m d cd N most : Nat) (deeds : Int) (P : Plat) (l : List (Plat → Plat × Int)) (vs : List Value) (w : World) (h : PB w A n B m P) (B0 : Nat) (hB0 : B0 ≤ w.heap.size) (hfr : FrA B0 w A) (hD : Rd w D vs) (hN : N = l.length) (hv : vs.length = l.length) (hvs : ∀ (i : Nat) (v : Value) (f : Plat → Plat × Int), vs[i]? = some v → l[i]? = some f → DeedV w v f) (hm : most = mostN deeds N) (hN4 : N ≤ 1000) (hcd : N ≤ cd) (r : Plat × Bool × Int) (hr : r = doP P deeds l) :
    Calls Tryz.prog 50 #[.agg #[.slice A n c, .slice B m d], .int .i64 deeds, .slice D N cd] w (DoRf B0 w r) := by
  obtain ⟨hX, hA, hbA⟩ := two_new w #[.slice A n c, .slice B m d] 25
  have HP := Lib.hid (h.below hbA)
  have HX := Lib.hid hX
  have HA := Lib.hid hA
  have HB := Lib.hid hbA
  have HV := Lib.hid hvs
  have HL := Lib.hid hv
  have HN := Lib.hid hN
  have HD := Lib.hid hD
  have HM := Lib.hid hm
  have hml : most ≤ N := by rw [hm]; exact most_le _ _
  have HR := Lib.hid (show r = if (runL (l.take most) P).2 ≠ 0 then (noPlat, false, (runL (l.take most) P).2) else ((runL (l.take most) P).1, decide (most = N), 0) by rw [hr, doP, hm, hN])
  have hcase : (deeds < 0 ∨ (N : Int) < deeds) ∧ most = N ∨ ¬ deeds < 0 ∧ ¬ (N : Int) < deeds ∧ deeds = (most : Int) := by
    rw [hm]
    unfold mostN
    by_cases h : deeds < 0 ∨ (N : Int) < deeds
    · rw [if_pos h]; exact .inl ⟨h, rfl⟩
    · rw [if_neg h]; exact .inr ⟨fun e => h (.inl e), fun e => h (.inr e), by omega⟩
  clear h hX hA hbA hvs hv hN hD hm hr
  have core : ∀ t1 b1 b2 : Value, True := fun _ _ _ => trivial
  clear core
  rcases hcase with ⟨hcs, hmN⟩ | ⟨hc1, hc2, hc3⟩
  · have HmN := Lib.hid hmN
    clear hmN
    rcases Decidable.em (deeds < 0) with hneg | hneg
    · have d1 : decide (deeds < 0) = true := by simpa using hneg
      clear hcs
      go_enter Tryz.func50, Tryz.ntmps50
      go_wp2_with fail
      go_loopw [27] (fun x wr => ∃ (k : Nat) (Q : Plat) (A1 : Option Addr) (n1 c1 : Nat) (B1 : Option Addr) (m1 d1 : Nat), k ≤ N ∧ x = .int .i64 (k : Nat) ∧ runL (l.take k) P = (Q, 0) ∧ wr.heap[w.heap.size]? = some (.cells #[.slice A1 n1 c1, .slice B1 m1 d1] 25 (0, 0)) ∧ wr.heap[w.heap.size + 1]? = some (.cells zP 25 (0, 0)) ∧ PB wr A1 n1 B1 m1 Q ∧ FrA B0 wr A1 ∧ Below w.heap.size w wr) (fun x _ => N - (intOf x).toNat)
      case atStart => exact ⟨0, P, A, n, c, B, m, d, by omega, rfl, rfl, HA.out, HX.out, HP.out, hfr.below HB.out, HB.out⟩
      case round =>
        obtain ⟨k, Q, A1, n1, c1, B1, m1, d1', hk, rfl, hrun, hA1, hX1, hP1, hfr1, hB1⟩ := hrel
        have HA1 := Lib.hid hA1
        have HX1 := Lib.hid hX1
        have HP1 := Lib.hid hP1
        have HB1 := Lib.hid hB1
        have HQ := Lib.hid hrun
        obtain ⟨a0, a1, a2, a3⟩ := two_cells hA1
        obtain ⟨x0, x1, x2, x3⟩ := two_cells hX1
        have hlt1 := cell_lt_of hX1
        clear hA1 hX1 hP1 hB1 hrun
        by_cases hlt : k < N
        · have hkl : k < l.length := by rw [← HN.out]; omega
          have hkv : k < vs.length := by rw [HL.out]; exact hkl
          obtain ⟨b, off, hDD, c0⟩ := (HD.out.below HB1.out) k vs[k] (by simp [hkv])
          subst hDD
          have hdv := (HV.out k vs[k] l[k] (by simp [hkv]) (by simp [hkl])).below HB1.out
          have Hs := Lib.hid (show runL (l.take (k + 1)) P = if (l[k] Q).2 ≠ 0 then (noPlat, (l[k] Q).2) else ((l[k] Q).1, 0) by
            rw [List.take_succ_eq_append_getElem hkl]
            exact runL_snoc _ _ _ _ HQ.out)
          have hk1 : (k : Int) < (N : Int) := by omega
          have hk2 : (k : Int) < (N : Int) := by omega
          have hk0 : k < N := hlt
          generalize vs[k] = v at c0 hdv
          generalize l[k] = f at hdv Hs
          rcases hdv with ⟨rfl, rfl⟩ | ⟨ba, bs', i, s, rfl, hi, hs, rfl⟩
          · have Hs2 := Hs
            go_wp2_with fail
            refine (sync_any_f _ Q _ ⟨_, _, _, _, _, _, rfl, HP1.out⟩).mono ?_
            rintro e w2 ⟨v2, rfl, hv2, hb2⟩
            obtain ⟨A2, n2, c2, B2, m2, d2', rfl, hf2, hO2⟩ := hv2
            replace hf2 := hf2.mono (Nat.le_trans hB0 HB1.out.size)
            have HX2 := hblk_below HX1 hb2
            have HA2 := hblk_below HA1 hb2
            have HB2 := Lib.hid (HB1.out.trans (hb2.mono HB1.out.size))
            have hba := (Below.refl w2.heap.size w2).alloc (Nat.le_refl _) (.cells #[.slice A2 n2 c2, .slice B2 m2 d2'] 25)
            replace hf2 := hf2.below hba
            have HX3 := hblk_below HX2 hba
            have HA3 := hblk_below HA2 hba
            have HO2 := Lib.hid hO2
            have HO3 := Lib.hid (hO2.below hba)
            have HB3 := Lib.hid (HB2.out.trans (hba.mono HB2.out.size))
            have hlt2 := cell_lt_of HX2.out
            obtain ⟨q, hq⟩ : ∃ q, q = syncP Q := ⟨_, rfl⟩
            rw [← hq] at Hs2 HO2 HO3 ⊢
            obtain ⟨Q2, er⟩ := q
            clear hb2 hO2 hba a0 a1 a2 a3 x0 x1 x2 x3 hq c0
            obtain ⟨a0, a1, a2, a3⟩ := two_cells HA3.out
            obtain ⟨p0, p1, p2, p3⟩ := two_cells HA2.out
            obtain ⟨q0, q1, q2, q3⟩ := two_cells HX2.out
            obtain ⟨x0, x1, x2, x3⟩ := two_cells HX3.out
            simp only at Hs2 HO2 HO3 ⊢
            by_cases her : er = 0
            · subst her
              go_wp2_with fail
              go_roundw
              case rel =>
                refine ⟨k + 1, Q2, A2, n2, c2, B2, m2, d2', by omega, by go_num, by rw [Hs2.out, if_neg (by simp)], two_set HA3.out _ _, ?_, HO3.out.two HA3.out, hf2.two, two_by HB3.out (Nat.le_refl _) _ _⟩
                exact (Below.heap_setCell _ ⟨w.heap.size, 1, none⟩ _ (w.heap.size + 1) (by simp)).trans ((Below.heap_setCell _ ⟨w.heap.size, 0, none⟩ _ (w.heap.size + 1) (by simp)).trans HX3.out)
              case measure => simp [intOf]; omega
            · have d9 : (er != 0) = true := by simpa using her
              have Hne := Lib.hid her
              clear her
              go_wp2_with fail
              try simp only [Exit.inBlock, Exit.then]
              refine bodyPost_ret (res_cell_tmp2 rfl _ _ (w.heap.size + 1) (by rfl) _ (load_plat_new (cells_below (two_set HX2.out _ _) ((Below.refl _ _).alloc (Nat.le_refl _) _)))) rfl ?_
              have e2 : runL (l.take (k + 1)) P = (noPlat, er) := by rw [Hs2.out, if_pos Hne.out]
              have e3 : l.take most = l.take (k + 1) ++ (l.take most).drop (k + 1) := take_parts l (by have := hk0; have := HmN.out; omega)
              have e4 : runL (l.take most) P = (noPlat, er) := by
                rw [e3, runL_stop _ _ _ (by rw [e2]; exact Hne.out), e2]
              rw [HR.out, e4, if_pos Hne.out]
              have htw := two_by (w0 := w) (w := w2) HB2.out (show w.heap.size ≤ w.heap.size + 1 by omega) (.slice none 0 0) (.slice none 0 0)
              exact ⟨_, rfl, PlF.no _ _, htw.alloc htw.size _⟩
          · have Hs2 := Hs
            go_wp2_with fail
            refine (put11_any_f _ Q ba bs' i s _ ⟨_, _, _, _, _, _, rfl, HP1.out⟩ hi hs).mono ?_
            rintro e w2 ⟨v2, rfl, hv2, hb2⟩
            obtain ⟨A2, n2, c2, B2, m2, d2', rfl, hf2, hO2⟩ := hv2
            replace hf2 := hf2.mono (Nat.le_trans hB0 HB1.out.size)
            have HX2 := hblk_below HX1 hb2
            have HA2 := hblk_below HA1 hb2
            have HB2 := Lib.hid (HB1.out.trans (hb2.mono HB1.out.size))
            have hba := (Below.refl w2.heap.size w2).alloc (Nat.le_refl _) (.cells #[.slice A2 n2 c2, .slice B2 m2 d2'] 25)
            replace hf2 := hf2.below hba
            have HX3 := hblk_below HX2 hba
            have HA3 := hblk_below HA2 hba
            have HO2 := Lib.hid hO2
            have HO3 := Lib.hid (hO2.below hba)
            have HB3 := Lib.hid (HB2.out.trans (hba.mono HB2.out.size))
            have hlt2 := cell_lt_of HX2.out
            obtain ⟨q, hq⟩ : ∃ q, q = writeP i s Q := ⟨_, rfl⟩
            rw [← hq] at Hs2 HO2 HO3 ⊢
            obtain ⟨Q2, er⟩ := q
            clear hb2 hO2 hba a0 a1 a2 a3 x0 x1 x2 x3 hq c0
            obtain ⟨a0, a1, a2, a3⟩ := two_cells HA3.out
            obtain ⟨p0, p1, p2, p3⟩ := two_cells HA2.out
            obtain ⟨q0, q1, q2, q3⟩ := two_cells HX2.out
            obtain ⟨x0, x1, x2, x3⟩ := two_cells HX3.out
            simp only at Hs2 HO2 HO3 ⊢
            by_cases her : er = 0
            · subst her
              go_wp2_with fail
              go_roundw
              case rel =>
                refine ⟨k + 1, Q2, A2, n2, c2, B2, m2, d2', by omega, by go_num, by rw [Hs2.out, if_neg (by simp)], two_set HA3.out _ _, ?_, HO3.out.two HA3.out, hf2.two, two_by HB3.out (Nat.le_refl _) _ _⟩
                exact (Below.heap_setCell _ ⟨w.heap.size, 1, none⟩ _ (w.heap.size + 1) (by simp)).trans ((Below.heap_setCell _ ⟨w.heap.size, 0, none⟩ _ (w.heap.size + 1) (by simp)).trans HX3.out)
              case measure => simp [intOf]; omega
            · have d9 : (er != 0) = true := by simpa using her
              have Hne := Lib.hid her
              clear her
              go_wp2_with fail
              try simp only [Exit.inBlock, Exit.then]
              refine bodyPost_ret (res_cell_tmp2 rfl _ _ (w.heap.size + 1) (by rfl) _ (load_plat_new (cells_below (two_set HX2.out _ _) ((Below.refl _ _).alloc (Nat.le_refl _) _)))) rfl ?_
              have e2 : runL (l.take (k + 1)) P = (noPlat, er) := by rw [Hs2.out, if_pos Hne.out]
              have e3 : l.take most = l.take (k + 1) ++ (l.take most).drop (k + 1) := take_parts l (by have := hk0; have := HmN.out; omega)
              have e4 : runL (l.take most) P = (noPlat, er) := by
                rw [e3, runL_stop _ _ _ (by rw [e2]; exact Hne.out), e2]
              rw [HR.out, e4, if_pos Hne.out]
              have htw := two_by (w0 := w) (w := w2) HB2.out (show w.heap.size ≤ w.heap.size + 1 by omega) (.slice none 0 0) (.slice none 0 0)
              exact ⟨_, rfl, PlF.no _ _, htw.alloc htw.size _⟩
        · obtain rfl : k = N := by omega
          have hkk : ¬ (k : Int) < (k : Int) := by omega
          go_wp2_with fail
          try simp only [Exit.inBlock, Exit.then]
          refine bodyPost_ret (res_cell_tmp2 rfl _ _ (w.heap.size + 1) (by rfl) _ (load_plat_new (two_set HX1.out _ _))) rfl ?_
          rw [HR.out, HmN.out, HQ.out]
          refine ⟨.agg #[.slice A1 n1 c1, .slice B1 m1 d1'], ?_, ⟨_, _, _, _, _, _, rfl, hfr1.two, HP1.out.two HX1.out⟩, two_by HB1.out (by omega) _ _⟩
          simp
    · have d1 : decide (deeds < 0) = false := by simpa using hneg
      have d2 : decide ((N : Int) < deeds) = true := by simpa using hcs.resolve_left hneg
      clear hcs
      go_enter Tryz.func50, Tryz.ntmps50
      go_wp2_with fail
      go_loopw [27] (fun x wr => ∃ (k : Nat) (Q : Plat) (A1 : Option Addr) (n1 c1 : Nat) (B1 : Option Addr) (m1 d1 : Nat), k ≤ N ∧ x = .int .i64 (k : Nat) ∧ runL (l.take k) P = (Q, 0) ∧ wr.heap[w.heap.size]? = some (.cells #[.slice A1 n1 c1, .slice B1 m1 d1] 25 (0, 0)) ∧ wr.heap[w.heap.size + 1]? = some (.cells zP 25 (0, 0)) ∧ PB wr A1 n1 B1 m1 Q ∧ FrA B0 wr A1 ∧ Below w.heap.size w wr) (fun x _ => N - (intOf x).toNat)
      case atStart => exact ⟨0, P, A, n, c, B, m, d, by omega, rfl, rfl, HA.out, HX.out, HP.out, hfr.below HB.out, HB.out⟩
      case round =>
        obtain ⟨k, Q, A1, n1, c1, B1, m1, d1', hk, rfl, hrun, hA1, hX1, hP1, hfr1, hB1⟩ := hrel
        have HA1 := Lib.hid hA1
        have HX1 := Lib.hid hX1
        have HP1 := Lib.hid hP1
        have HB1 := Lib.hid hB1
        have HQ := Lib.hid hrun
        obtain ⟨a0, a1, a2, a3⟩ := two_cells hA1
        obtain ⟨x0, x1, x2, x3⟩ := two_cells hX1
        have hlt1 := cell_lt_of hX1
        clear hA1 hX1 hP1 hB1 hrun
        by_cases hlt : k < N
        · have hkl : k < l.length := by rw [← HN.out]; omega
          have hkv : k < vs.length := by rw [HL.out]; exact hkl
          obtain ⟨b, off, hDD, c0⟩ := (HD.out.below HB1.out) k vs[k] (by simp [hkv])
          subst hDD
          have hdv := (HV.out k vs[k] l[k] (by simp [hkv]) (by simp [hkl])).below HB1.out
          have Hs := Lib.hid (show runL (l.take (k + 1)) P = if (l[k] Q).2 ≠ 0 then (noPlat, (l[k] Q).2) else ((l[k] Q).1, 0) by
            rw [List.take_succ_eq_append_getElem hkl]
            exact runL_snoc _ _ _ _ HQ.out)
          have hk1 : (k : Int) < (N : Int) := by omega
          have hk2 : (k : Int) < (N : Int) := by omega
          have hk0 : k < N := hlt
          generalize vs[k] = v at c0 hdv
          generalize l[k] = f at hdv Hs
          rcases hdv with ⟨rfl, rfl⟩ | ⟨ba, bs', i, s, rfl, hi, hs, rfl⟩
          · have Hs2 := Hs
            go_wp2_with fail
            refine (sync_any_f _ Q _ ⟨_, _, _, _, _, _, rfl, HP1.out⟩).mono ?_
            rintro e w2 ⟨v2, rfl, hv2, hb2⟩
            obtain ⟨A2, n2, c2, B2, m2, d2', rfl, hf2, hO2⟩ := hv2
            replace hf2 := hf2.mono (Nat.le_trans hB0 HB1.out.size)
            have HX2 := hblk_below HX1 hb2
            have HA2 := hblk_below HA1 hb2
            have HB2 := Lib.hid (HB1.out.trans (hb2.mono HB1.out.size))
            have hba := (Below.refl w2.heap.size w2).alloc (Nat.le_refl _) (.cells #[.slice A2 n2 c2, .slice B2 m2 d2'] 25)
            replace hf2 := hf2.below hba
            have HX3 := hblk_below HX2 hba
            have HA3 := hblk_below HA2 hba
            have HO2 := Lib.hid hO2
            have HO3 := Lib.hid (hO2.below hba)
            have HB3 := Lib.hid (HB2.out.trans (hba.mono HB2.out.size))
            have hlt2 := cell_lt_of HX2.out
            obtain ⟨q, hq⟩ : ∃ q, q = syncP Q := ⟨_, rfl⟩
            rw [← hq] at Hs2 HO2 HO3 ⊢
            obtain ⟨Q2, er⟩ := q
            clear hb2 hO2 hba a0 a1 a2 a3 x0 x1 x2 x3 hq c0
            obtain ⟨a0, a1, a2, a3⟩ := two_cells HA3.out
            obtain ⟨p0, p1, p2, p3⟩ := two_cells HA2.out
            obtain ⟨q0, q1, q2, q3⟩ := two_cells HX2.out
            obtain ⟨x0, x1, x2, x3⟩ := two_cells HX3.out
            simp only at Hs2 HO2 HO3 ⊢
            by_cases her : er = 0
            · subst her
              go_wp2_with fail
              go_roundw
              case rel =>
                refine ⟨k + 1, Q2, A2, n2, c2, B2, m2, d2', by omega, by go_num, by rw [Hs2.out, if_neg (by simp)], two_set HA3.out _ _, ?_, HO3.out.two HA3.out, hf2.two, two_by HB3.out (Nat.le_refl _) _ _⟩
                exact (Below.heap_setCell _ ⟨w.heap.size, 1, none⟩ _ (w.heap.size + 1) (by simp)).trans ((Below.heap_setCell _ ⟨w.heap.size, 0, none⟩ _ (w.heap.size + 1) (by simp)).trans HX3.out)
              case measure => simp [intOf]; omega
            · have d9 : (er != 0) = true := by simpa using her
              have Hne := Lib.hid her
              clear her
              go_wp2_with fail
              try simp only [Exit.inBlock, Exit.then]
              refine bodyPost_ret (res_cell_tmp2 rfl _ _ (w.heap.size + 1) (by rfl) _ (load_plat_new (cells_below (two_set HX2.out _ _) ((Below.refl _ _).alloc (Nat.le_refl _) _)))) rfl ?_
              have e2 : runL (l.take (k + 1)) P = (noPlat, er) := by rw [Hs2.out, if_pos Hne.out]
              have e3 : l.take most = l.take (k + 1) ++ (l.take most).drop (k + 1) := take_parts l (by have := hk0; have := HmN.out; omega)
              have e4 : runL (l.take most) P = (noPlat, er) := by
                rw [e3, runL_stop _ _ _ (by rw [e2]; exact Hne.out), e2]
              rw [HR.out, e4, if_pos Hne.out]
              have htw := two_by (w0 := w) (w := w2) HB2.out (show w.heap.size ≤ w.heap.size + 1 by omega) (.slice none 0 0) (.slice none 0 0)
              exact ⟨_, rfl, PlF.no _ _, htw.alloc htw.size _⟩
          · have Hs2 := Hs
            go_wp2_with fail
            refine (put11_any_f _ Q ba bs' i s _ ⟨_, _, _, _, _, _, rfl, HP1.out⟩ hi hs).mono ?_
            rintro e w2 ⟨v2, rfl, hv2, hb2⟩
            obtain ⟨A2, n2, c2, B2, m2, d2', rfl, hf2, hO2⟩ := hv2
            replace hf2 := hf2.mono (Nat.le_trans hB0 HB1.out.size)
            have HX2 := hblk_below HX1 hb2
            have HA2 := hblk_below HA1 hb2
            have HB2 := Lib.hid (HB1.out.trans (hb2.mono HB1.out.size))
            have hba := (Below.refl w2.heap.size w2).alloc (Nat.le_refl _) (.cells #[.slice A2 n2 c2, .slice B2 m2 d2'] 25)
            replace hf2 := hf2.below hba
            have HX3 := hblk_below HX2 hba
            have HA3 := hblk_below HA2 hba
            have HO2 := Lib.hid hO2
            have HO3 := Lib.hid (hO2.below hba)
            have HB3 := Lib.hid (HB2.out.trans (hba.mono HB2.out.size))
            have hlt2 := cell_lt_of HX2.out
            obtain ⟨q, hq⟩ : ∃ q, q = writeP i s Q := ⟨_, rfl⟩
            rw [← hq] at Hs2 HO2 HO3 ⊢
            obtain ⟨Q2, er⟩ := q
            clear hb2 hO2 hba a0 a1 a2 a3 x0 x1 x2 x3 hq c0
            obtain ⟨a0, a1, a2, a3⟩ := two_cells HA3.out
            obtain ⟨p0, p1, p2, p3⟩ := two_cells HA2.out
            obtain ⟨q0, q1, q2, q3⟩ := two_cells HX2.out
            obtain ⟨x0, x1, x2, x3⟩ := two_cells HX3.out
            simp only at Hs2 HO2 HO3 ⊢
            by_cases her : er = 0
            · subst her
              go_wp2_with fail
              go_roundw
              case rel =>
                refine ⟨k + 1, Q2, A2, n2, c2, B2, m2, d2', by omega, by go_num, by rw [Hs2.out, if_neg (by simp)], two_set HA3.out _ _, ?_, HO3.out.two HA3.out, hf2.two, two_by HB3.out (Nat.le_refl _) _ _⟩
                exact (Below.heap_setCell _ ⟨w.heap.size, 1, none⟩ _ (w.heap.size + 1) (by simp)).trans ((Below.heap_setCell _ ⟨w.heap.size, 0, none⟩ _ (w.heap.size + 1) (by simp)).trans HX3.out)
              case measure => simp [intOf]; omega
            · have d9 : (er != 0) = true := by simpa using her
              have Hne := Lib.hid her
              clear her
              go_wp2_with fail
              try simp only [Exit.inBlock, Exit.then]
              refine bodyPost_ret (res_cell_tmp2 rfl _ _ (w.heap.size + 1) (by rfl) _ (load_plat_new (cells_below (two_set HX2.out _ _) ((Below.refl _ _).alloc (Nat.le_refl _) _)))) rfl ?_
              have e2 : runL (l.take (k + 1)) P = (noPlat, er) := by rw [Hs2.out, if_pos Hne.out]
              have e3 : l.take most = l.take (k + 1) ++ (l.take most).drop (k + 1) := take_parts l (by have := hk0; have := HmN.out; omega)
              have e4 : runL (l.take most) P = (noPlat, er) := by
                rw [e3, runL_stop _ _ _ (by rw [e2]; exact Hne.out), e2]
              rw [HR.out, e4, if_pos Hne.out]
              have htw := two_by (w0 := w) (w := w2) HB2.out (show w.heap.size ≤ w.heap.size + 1 by omega) (.slice none 0 0) (.slice none 0 0)
              exact ⟨_, rfl, PlF.no _ _, htw.alloc htw.size _⟩
        · obtain rfl : k = N := by omega
          have hkk : ¬ (k : Int) < (k : Int) := by omega
          go_wp2_with fail
          try simp only [Exit.inBlock, Exit.then]
          refine bodyPost_ret (res_cell_tmp2 rfl _ _ (w.heap.size + 1) (by rfl) _ (load_plat_new (two_set HX1.out _ _))) rfl ?_
          rw [HR.out, HmN.out, HQ.out]
          refine ⟨.agg #[.slice A1 n1 c1, .slice B1 m1 d1'], ?_, ⟨_, _, _, _, _, _, rfl, hfr1.two, HP1.out.two HX1.out⟩, two_by HB1.out (by omega) _ _⟩
          simp
  · have d1 : decide (deeds < 0) = false := by simpa using hc1
    have d2 : decide ((N : Int) < deeds) = false := by simpa using hc2
    subst hc3
    clear hc1 hc2
    go_enter Tryz.func50, Tryz.ntmps50
    go_wp2_with fail
    go_loopw [27] (fun x wr => ∃ (k : Nat) (Q : Plat) (A1 : Option Addr) (n1 c1 : Nat) (B1 : Option Addr) (m1 d1 : Nat), k ≤ most ∧ x = .int .i64 (k : Nat) ∧ runL (l.take k) P = (Q, 0) ∧ wr.heap[w.heap.size]? = some (.cells #[.slice A1 n1 c1, .slice B1 m1 d1] 25 (0, 0)) ∧ wr.heap[w.heap.size + 1]? = some (.cells zP 25 (0, 0)) ∧ PB wr A1 n1 B1 m1 Q ∧ FrA B0 wr A1 ∧ Below w.heap.size w wr) (fun x _ => most - (intOf x).toNat)
    case atStart => exact ⟨0, P, A, n, c, B, m, d, by omega, rfl, rfl, HA.out, HX.out, HP.out, hfr.below HB.out, HB.out⟩
    case round =>
      obtain ⟨k, Q, A1, n1, c1, B1, m1, d1', hk, rfl, hrun, hA1, hX1, hP1, hfr1, hB1⟩ := hrel
      have HA1 := Lib.hid hA1
      have HX1 := Lib.hid hX1
      have HP1 := Lib.hid hP1
      have HB1 := Lib.hid hB1
      have HQ := Lib.hid hrun
      obtain ⟨a0, a1, a2, a3⟩ := two_cells hA1
      obtain ⟨x0, x1, x2, x3⟩ := two_cells hX1
      have hlt1 := cell_lt_of hX1
      clear hA1 hX1 hP1 hB1 hrun
      by_cases hlt : k < most
      · have hkl : k < l.length := by rw [← HN.out]; omega
        have hkv : k < vs.length := by rw [HL.out]; exact hkl
        obtain ⟨b, off, hDD, c0⟩ := (HD.out.below HB1.out) k vs[k] (by simp [hkv])
        subst hDD
        have hdv := (HV.out k vs[k] l[k] (by simp [hkv]) (by simp [hkl])).below HB1.out
        have Hs := Lib.hid (show runL (l.take (k + 1)) P = if (l[k] Q).2 ≠ 0 then (noPlat, (l[k] Q).2) else ((l[k] Q).1, 0) by
          rw [List.take_succ_eq_append_getElem hkl]
          exact runL_snoc _ _ _ _ HQ.out)
        have hk1 : (k : Int) < (most : Int) := by omega
        have hk2 : (k : Int) < (N : Int) := by omega
        have hk0 : k < most := hlt
        generalize vs[k] = v at c0 hdv
        generalize l[k] = f at hdv Hs
        rcases hdv with ⟨rfl, rfl⟩ | ⟨ba, bs', i, s, rfl, hi, hs, rfl⟩
        · have Hs2 := Hs
          go_wp2_with fail
          refine (sync_any_f _ Q _ ⟨_, _, _, _, _, _, rfl, HP1.out⟩).mono ?_
          rintro e w2 ⟨v2, rfl, hv2, hb2⟩
          obtain ⟨A2, n2, c2, B2, m2, d2', rfl, hf2, hO2⟩ := hv2
          replace hf2 := hf2.mono (Nat.le_trans hB0 HB1.out.size)
          have HX2 := hblk_below HX1 hb2
          have HA2 := hblk_below HA1 hb2
          have HB2 := Lib.hid (HB1.out.trans (hb2.mono HB1.out.size))
          have hba := (Below.refl w2.heap.size w2).alloc (Nat.le_refl _) (.cells #[.slice A2 n2 c2, .slice B2 m2 d2'] 25)
          replace hf2 := hf2.below hba
          have HX3 := hblk_below HX2 hba
          have HA3 := hblk_below HA2 hba
          have HO2 := Lib.hid hO2
          have HO3 := Lib.hid (hO2.below hba)
          have HB3 := Lib.hid (HB2.out.trans (hba.mono HB2.out.size))
          have hlt2 := cell_lt_of HX2.out
          obtain ⟨q, hq⟩ : ∃ q, q = syncP Q := ⟨_, rfl⟩
          rw [← hq] at Hs2 HO2 HO3 ⊢
          obtain ⟨Q2, er⟩ := q
          clear hb2 hO2 hba a0 a1 a2 a3 x0 x1 x2 x3 hq c0
          obtain ⟨a0, a1, a2, a3⟩ := two_cells HA3.out
          obtain ⟨p0, p1, p2, p3⟩ := two_cells HA2.out
          obtain ⟨q0, q1, q2, q3⟩ := two_cells HX2.out
          obtain ⟨x0, x1, x2, x3⟩ := two_cells HX3.out
          simp only at Hs2 HO2 HO3 ⊢
          by_cases her : er = 0
          · subst her
            go_wp2_with fail
            go_roundw
            case rel =>
              refine ⟨k + 1, Q2, A2, n2, c2, B2, m2, d2', by omega, by go_num, by rw [Hs2.out, if_neg (by simp)], two_set HA3.out _ _, ?_, HO3.out.two HA3.out, hf2.two, two_by HB3.out (Nat.le_refl _) _ _⟩
              exact (Below.heap_setCell _ ⟨w.heap.size, 1, none⟩ _ (w.heap.size + 1) (by simp)).trans ((Below.heap_setCell _ ⟨w.heap.size, 0, none⟩ _ (w.heap.size + 1) (by simp)).trans HX3.out)
            case measure => simp [intOf]; omega
          · have d9 : (er != 0) = true := by simpa using her
            have Hne := Lib.hid her
            clear her
            go_wp2_with fail
            try simp only [Exit.inBlock, Exit.then]
            refine bodyPost_ret (res_cell_tmp2 rfl _ _ (w.heap.size + 1) (by rfl) _ (load_plat_new (cells_below (two_set HX2.out _ _) ((Below.refl _ _).alloc (Nat.le_refl _) _)))) rfl ?_
            have e2 : runL (l.take (k + 1)) P = (noPlat, er) := by rw [Hs2.out, if_pos Hne.out]
            have e3 : l.take most = l.take (k + 1) ++ (l.take most).drop (k + 1) := take_parts l (by have := hk0; omega)
            have e4 : runL (l.take most) P = (noPlat, er) := by
              rw [e3, runL_stop _ _ _ (by rw [e2]; exact Hne.out), e2]
            rw [HR.out, e4, if_pos Hne.out]
            have htw := two_by (w0 := w) (w := w2) HB2.out (show w.heap.size ≤ w.heap.size + 1 by omega) (.slice none 0 0) (.slice none 0 0)
            exact ⟨_, rfl, PlF.no _ _, htw.alloc htw.size _⟩
        · have Hs2 := Hs
          go_wp2_with fail
          refine (put11_any_f _ Q ba bs' i s _ ⟨_, _, _, _, _, _, rfl, HP1.out⟩ hi hs).mono ?_
          rintro e w2 ⟨v2, rfl, hv2, hb2⟩
          obtain ⟨A2, n2, c2, B2, m2, d2', rfl, hf2, hO2⟩ := hv2
          replace hf2 := hf2.mono (Nat.le_trans hB0 HB1.out.size)
          have HX2 := hblk_below HX1 hb2
          have HA2 := hblk_below HA1 hb2
          have HB2 := Lib.hid (HB1.out.trans (hb2.mono HB1.out.size))
          have hba := (Below.refl w2.heap.size w2).alloc (Nat.le_refl _) (.cells #[.slice A2 n2 c2, .slice B2 m2 d2'] 25)
          replace hf2 := hf2.below hba
          have HX3 := hblk_below HX2 hba
          have HA3 := hblk_below HA2 hba
          have HO2 := Lib.hid hO2
          have HO3 := Lib.hid (hO2.below hba)
          have HB3 := Lib.hid (HB2.out.trans (hba.mono HB2.out.size))
          have hlt2 := cell_lt_of HX2.out
          obtain ⟨q, hq⟩ : ∃ q, q = writeP i s Q := ⟨_, rfl⟩
          rw [← hq] at Hs2 HO2 HO3 ⊢
          obtain ⟨Q2, er⟩ := q
          clear hb2 hO2 hba a0 a1 a2 a3 x0 x1 x2 x3 hq c0
          obtain ⟨a0, a1, a2, a3⟩ := two_cells HA3.out
          obtain ⟨p0, p1, p2, p3⟩ := two_cells HA2.out
          obtain ⟨q0, q1, q2, q3⟩ := two_cells HX2.out
          obtain ⟨x0, x1, x2, x3⟩ := two_cells HX3.out
          simp only at Hs2 HO2 HO3 ⊢
          by_cases her : er = 0
          · subst her
            go_wp2_with fail
            go_roundw
            case rel =>
              refine ⟨k + 1, Q2, A2, n2, c2, B2, m2, d2', by omega, by go_num, by rw [Hs2.out, if_neg (by simp)], two_set HA3.out _ _, ?_, HO3.out.two HA3.out, hf2.two, two_by HB3.out (Nat.le_refl _) _ _⟩
              exact (Below.heap_setCell _ ⟨w.heap.size, 1, none⟩ _ (w.heap.size + 1) (by simp)).trans ((Below.heap_setCell _ ⟨w.heap.size, 0, none⟩ _ (w.heap.size + 1) (by simp)).trans HX3.out)
            case measure => simp [intOf]; omega
          · have d9 : (er != 0) = true := by simpa using her
            have Hne := Lib.hid her
            clear her
            go_wp2_with fail
            try simp only [Exit.inBlock, Exit.then]
            refine bodyPost_ret (res_cell_tmp2 rfl _ _ (w.heap.size + 1) (by rfl) _ (load_plat_new (cells_below (two_set HX2.out _ _) ((Below.refl _ _).alloc (Nat.le_refl _) _)))) rfl ?_
            have e2 : runL (l.take (k + 1)) P = (noPlat, er) := by rw [Hs2.out, if_pos Hne.out]
            have e3 : l.take most = l.take (k + 1) ++ (l.take most).drop (k + 1) := take_parts l (by have := hk0; omega)
            have e4 : runL (l.take most) P = (noPlat, er) := by
              rw [e3, runL_stop _ _ _ (by rw [e2]; exact Hne.out), e2]
            rw [HR.out, e4, if_pos Hne.out]
            have htw := two_by (w0 := w) (w := w2) HB2.out (show w.heap.size ≤ w.heap.size + 1 by omega) (.slice none 0 0) (.slice none 0 0)
            exact ⟨_, rfl, PlF.no _ _, htw.alloc htw.size _⟩
      · obtain rfl : k = most := by omega
        have hkk : ¬ (k : Int) < (k : Int) := by omega
        go_wp2_with fail
        try simp only [Exit.inBlock, Exit.then]
        refine bodyPost_ret (res_cell_tmp2 rfl _ _ (w.heap.size + 1) (by rfl) _ (load_plat_new (two_set HX1.out _ _))) rfl ?_
        rw [HR.out, HQ.out]
        refine ⟨.agg #[.slice A1 n1 c1, .slice B1 m1 d1'], ?_, ⟨_, _, _, _, _, _, rfl, hfr1.two, HP1.out.two HX1.out⟩, two_by HB1.out (by omega) _ _⟩
        rw [show decide (k = N) = ((k : Int) == (N : Int)) by rw [Bool.eq_iff_iff]; simp only [decide_eq_true_eq, beq_iff_eq]; omega]
        rfl

theorem tdo_any_f (A B D : Option Addr) (n c m d cd N : Nat) (deeds : Int) (P : Plat) (l : List (Plat → Plat × Int)) (vs : List Value) (w : World) (h : PB w A n B m P) (B0 : Nat) (hB0 : B0 ≤ w.heap.size) (hfr : FrA B0 w A) (hD : Rd w D vs) (hN : N = l.length) (hv : vs.length = l.length) (hvs : ∀ (i : Nat) (v : Value) (f : Plat → Plat × Int), vs[i]? = some v → l[i]? = some f → DeedV w v f) (hN4 : N ≤ 1000) (hcd : N ≤ cd) :
    Calls Tryz.prog 50 #[.agg #[.slice A n c, .slice B m d], .int .i64 deeds, .slice D N cd] w (DoRf B0 w (doP P deeds l)) := do_at_f A B D n c m d cd N _ deeds P l vs w h B0 hB0 hfr hD hN hv hvs rfl hN4 hcd _ rfl

theorem do_put_f (A B : Option Addr) (n c m d : Nat) (P : Plat) (a b deeds : Int) (s t : ByteArray) (T : TypeId) (w : World) (h : PB w A n B m P) (B0 : Nat) (hB0 : B0 ≤ w.heap.size) (hfr : FrA B0 w A) :
    Calls Tryz.prog 50 #[.agg #[.slice A n c, .slice B m d], .int .i64 deeds, .slice (some ⟨w.heap.size + 1 + 1 + 1 + 1, 0, none⟩) 4 4]
      (((((w.alloc (.cells #[.int .i64 a] 3)).alloc (.cells #[.string s] 9)).alloc (.cells #[.int .i64 b] 3)).alloc (.cells #[.string t] 9)).alloc (.cells #[.func (.func 48) #[] #[.pointer (some ⟨w.heap.size, 0, none⟩), .pointer (some ⟨w.heap.size + 1, 0, none⟩)], .func (.func 52) #[] #[], .func (.func 48) #[] #[.pointer (some ⟨w.heap.size + 1 + 1, 0, none⟩), .pointer (some ⟨w.heap.size + 1 + 1 + 1, 0, none⟩)], .func (.func 52) #[] #[]] T))
      (DoRf B0 w (doP P deeds [writeP a s, syncP, writeP b t, syncP])) := by
  obtain ⟨h0, h1, h2, h3, hb⟩ := four_new w #[.int .i64 a] #[.string s] #[.int .i64 b] #[.string t] 3 9 3 9
  have hs : ((((w.alloc (.cells #[.int .i64 a] 3)).alloc (.cells #[.string s] 9)).alloc (.cells #[.int .i64 b] 3)).alloc (.cells #[.string t] 9)).heap.size = w.heap.size + 1 + 1 + 1 + 1 := by simp
  generalize (((w.alloc (.cells #[.int .i64 a] 3)).alloc (.cells #[.string s] 9)).alloc (.cells #[.int .i64 b] 3)).alloc (.cells #[.string t] 9) = w5 at h0 h1 h2 h3 hb hs ⊢
  rw [← hs]
  generalize hC : (#[.func (.func 48) #[] #[.pointer (some ⟨w.heap.size, 0, none⟩), .pointer (some ⟨w.heap.size + 1, 0, none⟩)], .func (.func 52) #[] #[], .func (.func 48) #[] #[.pointer (some ⟨w.heap.size + 1 + 1, 0, none⟩), .pointer (some ⟨w.heap.size + 1 + 1 + 1, 0, none⟩)], .func (.func 52) #[] #[]] : Array Value) = C
  have hba := (Below.refl w5.heap.size w5).alloc (Nat.le_refl _) (.cells C T)
  have hrd := rd_new w5 T C
  refine (tdo_any_f A B (some ⟨w5.heap.size, 0, none⟩) n c m d 4 4 deeds P [writeP a s, syncP, writeP b t, syncP] C.toList _ ((h.below hb).below hba) B0 (Nat.le_trans hB0 (Nat.le_trans hb.size hba.size)) ((hfr.below hb).below hba) hrd rfl (by rw [← hC]; rfl) ?_ (by omega) (by omega)).mono ?_
  · intro i v f hv hf
    rw [← hC] at hv
    match i with
    | 0 =>
      simp at hv hf
      subst hv hf
      exact .inr ⟨_, _, a, s, rfl, cell_of_one (cells_below h0 hba), cell_of_one (cells_below h1 hba), rfl⟩
    | 1 =>
      simp at hv hf
      subst hv hf
      exact .inl ⟨rfl, rfl⟩
    | 2 =>
      simp at hv hf
      subst hv hf
      exact .inr ⟨_, _, b, t, rfl, cell_of_one (cells_below h2 hba), cell_of_one (cells_below h3 hba), rfl⟩
    | 3 =>
      simp at hv hf
      subst hv hf
      exact .inl ⟨rfl, rfl⟩
    | k + 4 => simp at hf
  · rintro e w' ⟨v, he, hv, hb'⟩
    exact ⟨v, he, hv, Below.chain (Below.chain hb hba) hb'⟩

theorem put_bad_f (A B : Option Addr) (n c m d : Nat) (P : Plat) (i deeds : Int) (s : ByteArray) (w : World) (h : PB w A n B m P) (hi : i ≤ 9223372036854775000) (hg : (getP P i).2.2 ≠ 0) :
    Calls Tryz.prog 22 #[.agg #[.slice A n c, .slice B m d], .int .i64 i, .string s, .int .i64 deeds] w (DoRf w.heap.size w (putP P i s deeds)) := by
  obtain ⟨hX, hA, hbA⟩ := two_new w #[.slice A n c, .slice B m d] 25
  have HP := Lib.hid (h.below hbA)
  have HX := Lib.hid hX
  have HB := Lib.hid hbA
  have HG := Lib.hid hg
  have HR := Lib.hid (show putP P i s deeds = (noPlat, false, (getP P i).2.2) by rw [putP, if_pos hg])
  obtain ⟨r, hr⟩ : ∃ r, r = getP P i := ⟨_, rfl⟩
  rw [← hr] at HG HR
  have Hr := Lib.hid hr
  obtain ⟨s1, b1, x1⟩ := r
  have d1 : (x1 != 0) = true := by simpa using HG.out
  simp only at HR
  clear h hX hA hbA hg hr
  go_enter Tryz.func22, Tryz.ntmps22
  go_wp2_with fail
  refine (tget_any A B n c m d P i _ HP.out hi).mono ?_
  rintro e w1 ⟨rfl, hb1⟩
  rw [← Hr.out]
  replace HX := hblk_below HX hb1
  replace HB := Lib.hid (HB.out.trans (hb1.mono HB.out.size))
  clear hb1
  obtain ⟨x0, x1', x2, x3⟩ := two_cells HX.out
  go_wp2_with fail
  refine bodyPost_ret (res_cell_tmp2 rfl _ _ (w.heap.size + 1) (by rfl) _ (load_plat_new (two_set HX.out _ _))) rfl ?_
  rw [HR.out]
  exact ⟨_, rfl, PlF.no _ _, two_by HB.out (by omega) _ _⟩

theorem put_good_f (A B : Option Addr) (n c m d : Nat) (P : Plat) (i deeds : Int) (s : ByteArray) (w : World) (h : PB w A n B m P) (hg : (getP P i).2.2 = 0) :
    Calls Tryz.prog 22 #[.agg #[.slice A n c, .slice B m d], .int .i64 i, .string s, .int .i64 deeds] w (DoRf w.heap.size w (putP P i s deeds)) := by
  obtain ⟨hX, hA, hbA⟩ := two_new w #[.slice A n c, .slice B m d] 25
  have hok := read_ok (getP_read hg)
  have hi0 : 0 ≤ i ∧ i < 200 := by
    have h1 := hok.2
    have h2 := (check_parts hok.1).2.1
    simp only [hasB, Bool.and_eq_true, decide_eq_true_eq] at h1
    omega
  obtain ⟨hi1, hi2⟩ := hi0
  have hk := check_parts hok.1
  have hn200 : n ≤ 200 := by rw [h.hn]; exact hk.2.1
  have hm100 : m ≤ 100 := by rw [h.hm]; exact hk.2.2.1
  have HP := Lib.hid (h.below hbA)
  have HX := Lib.hid hX
  have HA := Lib.hid hA
  have HB := Lib.hid hbA
  have Hrd := Lib.hid (getP_read hg)
  have HR := Lib.hid (show putP P i s deeds = doP P deeds (deedsL i s (readP P i).1) by rw [putP, if_neg (by rw [hg]; simp)])
  obtain ⟨r, hr⟩ : ∃ r, r = getP P i := ⟨_, rfl⟩
  rw [← hr] at hg
  have Hr := Lib.hid hr
  obtain ⟨s1, b1, x1⟩ := r
  obtain rfl : x1 = 0 := hg
  obtain ⟨q, hq⟩ : ∃ q, q = readP P i := ⟨_, rfl⟩
  rw [← hq] at Hrd HR
  have Hq := Lib.hid hq
  obtain ⟨old, x2⟩ := q
  obtain rfl : x2 = 0 := Hrd.out
  simp only at HR
  clear h hX hA hbA hr hq hok hk Hrd
  by_cases hold : old = mark0
  · have hmk : (old.toList == [48]) = true := by rw [mark_eq]; exact decide_eq_true hold
    have HF := Lib.hid (show deedsL i s old = [writeP (i + 2) s, syncP, writeP i mark1, syncP] by rw [deedsL, farN, markN, if_pos hold, if_pos hold])
    clear hold
    go_enter Tryz.func22, Tryz.ntmps22
    go_wp2_with fail
    refine (tget_any A B n c m d P i _ HP.out (by omega)).mono ?_
    rintro e w1 ⟨rfl, hb1⟩
    rw [← Hr.out]
    replace HX := hblk_below HX hb1
    replace HA := hblk_below HA hb1
    replace HP := Lib.hid (HP.out.below hb1)
    replace HB := Lib.hid (HB.out.trans (hb1.mono HB.out.size))
    clear hb1
    obtain ⟨a0, a1, _, _⟩ := two_cells HA.out
    go_wp2_with fail
    refine (pread_any _ P i _ ⟨_, _, _, _, _, _, rfl, HP.out⟩).mono ?_
    rintro e w2 ⟨rfl, hb2⟩
    rw [← Hq.out]
    replace HX := hblk_below HX hb2
    replace HA := hblk_below HA hb2
    replace HP := Lib.hid (HP.out.below hb2)
    replace HB := Lib.hid (HB.out.trans (hb2.mono HB.out.size))
    clear hb2 a0 a1
    obtain ⟨a0, a1, _, _⟩ := two_cells HA.out
    go_wp2_with fail
    refine (body_any mark1 _ (by decide)).mono ?_
    rintro e w3 ⟨rfl, hb3⟩
    rw [show bodyO mark1 = some 2 from body1]
    replace HX := hblk_below HX hb3
    replace HA := hblk_below HA hb3
    replace HP := Lib.hid (HP.out.below hb3)
    replace HB := Lib.hid (HB.out.trans (hb3.mono HB.out.size))
    clear hb3 a0 a1
    obtain ⟨a0, a1, _, _⟩ := two_cells HA.out
    go_wp2_with fail
    refine (tcopied_f A B n c m d P _ HP.out (by omega) (by omega)).mono ?_
    rintro e w4 ⟨A4, n4, c4, B4, m4, d4, rfl, hf4, hP4, hb4⟩
    replace HX := hblk_below HX hb4
    replace hf4 := hf4.mono HB.out.size
    have HP4 := Lib.hid hP4
    replace HB := Lib.hid (HB.out.trans (hb4.mono HB.out.size))
    clear hb4 hP4 a0 a1
    go_wp2_with fail
    refine (put1_any (i + 2) s _).mono ?_
    rintro e w5 ⟨rfl, rfl⟩
    go_wp2_with fail
    refine (put1_any i mark1 _).mono ?_
    rintro e w5 ⟨rfl, rfl⟩
    go_wp2_with fail
    refine (do_put_f A4 B4 n4 c4 m4 d4 P (i + 2) i deeds s mark1 _ w4 HP4.out w.heap.size HB.out.size hf4).mono ?_
    rw [← HF.out, ← HR.out]
    rintro e w6 ⟨v6, rfl, hv6, hb6⟩
    obtain ⟨A6, n6, c6, B6, m6, d6, rfl, hf6, hP6⟩ := hv6
    replace HX := hblk_below HX hb6
    replace HB := Lib.hid (HB.out.trans (hb6.mono HB.out.size))
    have HP6 := Lib.hid hP6
    clear hb6 hP6
    obtain ⟨x0, x1', x2, x3⟩ := two_cells HX.out
    go_wp2_with fail
    refine bodyPost_ret (res_cell_tmp2 rfl _ _ (w.heap.size + 1) (by rfl) _ (load_plat_new (two_set HX.out _ _))) rfl ?_
    exact ⟨_, rfl, ⟨_, _, _, _, _, _, rfl, hf6.two, HP6.out.two HX.out⟩, two_by HB.out (by omega) _ _⟩
  · have hmk : (old.toList == [48]) = false := by rw [mark_eq]; exact decide_eq_false hold
    have HF := Lib.hid (show deedsL i s old = [writeP (i + 1) s, syncP, writeP i mark0, syncP] by rw [deedsL, farN, markN, if_neg hold, if_neg hold])
    clear hold
    go_enter Tryz.func22, Tryz.ntmps22
    go_wp2_with fail
    refine (tget_any A B n c m d P i _ HP.out (by omega)).mono ?_
    rintro e w1 ⟨rfl, hb1⟩
    rw [← Hr.out]
    replace HX := hblk_below HX hb1
    replace HA := hblk_below HA hb1
    replace HP := Lib.hid (HP.out.below hb1)
    replace HB := Lib.hid (HB.out.trans (hb1.mono HB.out.size))
    clear hb1
    obtain ⟨a0, a1, _, _⟩ := two_cells HA.out
    go_wp2_with fail
    refine (pread_any _ P i _ ⟨_, _, _, _, _, _, rfl, HP.out⟩).mono ?_
    rintro e w2 ⟨rfl, hb2⟩
    rw [← Hq.out]
    replace HX := hblk_below HX hb2
    replace HA := hblk_below HA hb2
    replace HP := Lib.hid (HP.out.below hb2)
    replace HB := Lib.hid (HB.out.trans (hb2.mono HB.out.size))
    clear hb2 a0 a1
    obtain ⟨a0, a1, _, _⟩ := two_cells HA.out
    go_wp2_with fail
    refine (body_any mark0 _ (by decide)).mono ?_
    rintro e w3 ⟨rfl, hb3⟩
    rw [show bodyO mark0 = some 1 from body0]
    replace HX := hblk_below HX hb3
    replace HA := hblk_below HA hb3
    replace HP := Lib.hid (HP.out.below hb3)
    replace HB := Lib.hid (HB.out.trans (hb3.mono HB.out.size))
    clear hb3 a0 a1
    obtain ⟨a0, a1, _, _⟩ := two_cells HA.out
    go_wp2_with fail
    refine (tcopied_f A B n c m d P _ HP.out (by omega) (by omega)).mono ?_
    rintro e w4 ⟨A4, n4, c4, B4, m4, d4, rfl, hf4, hP4, hb4⟩
    replace HX := hblk_below HX hb4
    replace hf4 := hf4.mono HB.out.size
    have HP4 := Lib.hid hP4
    replace HB := Lib.hid (HB.out.trans (hb4.mono HB.out.size))
    clear hb4 hP4 a0 a1
    go_wp2_with fail
    refine (put1_any (i + 1) s _).mono ?_
    rintro e w5 ⟨rfl, rfl⟩
    go_wp2_with fail
    refine (put1_any i mark0 _).mono ?_
    rintro e w5 ⟨rfl, rfl⟩
    go_wp2_with fail
    refine (do_put_f A4 B4 n4 c4 m4 d4 P (i + 1) i deeds s mark0 _ w4 HP4.out w.heap.size HB.out.size hf4).mono ?_
    rw [← HF.out, ← HR.out]
    rintro e w6 ⟨v6, rfl, hv6, hb6⟩
    obtain ⟨A6, n6, c6, B6, m6, d6, rfl, hf6, hP6⟩ := hv6
    replace HX := hblk_below HX hb6
    replace HB := Lib.hid (HB.out.trans (hb6.mono HB.out.size))
    have HP6 := Lib.hid hP6
    clear hb6 hP6
    obtain ⟨x0, x1', x2, x3⟩ := two_cells HX.out
    go_wp2_with fail
    refine bodyPost_ret (res_cell_tmp2 rfl _ _ (w.heap.size + 1) (by rfl) _ (load_plat_new (two_set HX.out _ _))) rfl ?_
    exact ⟨_, rfl, ⟨_, _, _, _, _, _, rfl, hf6.two, HP6.out.two HX.out⟩, two_by HB.out (by omega) _ _⟩

theorem put_any_f (v : Value) (P : Plat) (i deeds : Int) (s : ByteArray) (w : World) (h : PlV w v P) (hi : i ≤ 9223372036854775000) :
    Calls Tryz.prog 22 #[v, .int .i64 i, .string s, .int .i64 deeds] w (DoRf w.heap.size w (putP P i s deeds)) := by
  obtain ⟨A, n, c, B, m, d, rfl, h⟩ := h
  by_cases hg : (getP P i).2.2 = 0
  · exact put_good_f A B n c m d P i deeds s w h hg
  · exact put_bad_f A B n c m d P i deeds s w h hi hg
end

/- Fv -/
section
open Go.RowKit
set_option linter.unusedVariables false
set_option linter.unusedSimpArgs false
set_option maxRecDepth 100000
set_option maxHeartbeats 40000000
attribute [local go_sem] Oper.semAt_some

theorem vlay_any_f (v : Value) (P : Plat) (bC bi bs' : Nat) (N area i : Nat) (s : ByteArray) (w : World) (h : PlV w v P) (hC : ChA w bC N area) (hi : w.cell? ⟨bi, 0, none⟩ = some (.int .i64 (i : Nat))) (hs : w.cell? ⟨bs', 0, none⟩ = some (.string s)) (hN : N ≤ 64) (ha : area ≤ 1) (hi64 : i ≤ 64) :
    Calls Tryz.prog 64 #[v, .pointer (some ⟨bC, 0, none⟩), .pointer (some ⟨bi, 0, none⟩), .pointer (some ⟨bs', 0, none⟩)] w (PlRf w (writeP ((3 + (1 - area) * N + i : Nat) : Int) s P)) := by
  obtain ⟨A, n, c, B, m, d, rfl, h⟩ := h
  obtain ⟨x, y, z, hC⟩ := hC
  obtain ⟨hX, hA, hbA⟩ := two_new w #[.slice A n c, .slice B m d] 25
  have HP := Lib.hid (h.below hbA)
  have HX := Lib.hid hX
  have HB := Lib.hid hbA
  have lc := cell_lt_of hC
  have li := cell_lt hi
  have ls := cell_lt hs
  simp only at li ls
  obtain ⟨p0, p1, _, _⟩ := two_cells hA
  obtain ⟨⟨c0, c1, _, _, _⟩, _⟩ := ch5_cells (cells_below hC hbA)
  have i0 := cell_below hi hbA
  have s0 := cell_below hs hbA
  have HSe := Lib.hid (fun W => sector_any N (1 - area) area i W hN (by omega) hi64)
  have hw3 : (1 : Int) - (area : Int) = ((1 - area : Nat) : Int) := by omega
  have hw : IntKind.i64.wrap ((1 - area : Nat) : Int) = ((1 - area : Nat) : Int) := IntWalk.i64_in _ (by omega)
  generalize 3 + (1 - area) * N + i = ix at HSe ⊢
  have HW := Lib.hid (fun W (hW : PB W A n B m P) => write_any_f (.agg #[.slice A n c, .slice B m d]) P (ix : Nat) s W ⟨_, _, _, _, _, _, rfl, hW⟩)
  obtain ⟨r, hr⟩ : ∃ r, r = writeP (ix : Nat) s P := ⟨_, rfl⟩
  rw [← hr] at HW ⊢
  clear h hX hA hbA hC hi hs hr
  go_enter Tryz.func64, Tryz.ntmps64
  go_upto_region 1 with fail
  obtain ⟨W0, hW0⟩ : ∃ W0, W0 = ((w.alloc (.cells #[.slice A n c, .slice B m d] 25)).alloc (.cells zP 25)) := ⟨_, rfl⟩
  rw [← hW0] at HP HX HB p0 p1 c0 c1 i0 s0 ⊢
  have K0 : K6 w.heap.size bC bi bs' (.slice A n c) (.slice B m d) (.int .i64 (N : Nat)) (.int .i64 (area : Nat)) (.int .i64 (i : Nat)) (.string s) W0 := ⟨⟨p0, p1⟩, ⟨c0, c1⟩, ⟨i0, s0⟩⟩
  have n1 : w.heap.size + 1 ≠ w.heap.size := by omega
  have n2 : w.heap.size + 1 ≠ bC := by omega
  have n3 : w.heap.size + 1 ≠ bi := by omega
  have n4 : w.heap.size + 1 ≠ bs' := by omega
  clear hW0 p0 p1 c0 c1 i0 s0 lc li ls
  go_region_held3 (fun W => (W.cell? ⟨w.heap.size, 0, none⟩ = some (.slice A n c) ∧ W.cell? ⟨w.heap.size, 1, none⟩ = some (.slice B m d)) ∧ (W.cell? ⟨bC, 0, none⟩ = some (.int .i64 (N : Nat)) ∧ W.cell? ⟨bC, 1, none⟩ = some (.int .i64 (area : Nat))) ∧ (W.cell? ⟨bi, 0, none⟩ = some (.int .i64 (i : Nat)) ∧ W.cell? ⟨bs', 0, none⟩ = some (.string s)))
    (first | with_reducible assumption | with_reducible exact k6_drew K0 | with_reducible exact k6_two Q5 n1 n2 n3 n4 _ _)
    (first
      | ((go_at_call 60; with_reducible refine (HSe.out _).mono ?_); rintro _ w4 ⟨rfl, hb4'⟩; have hb4 := Below.chain ((Below.refl _ W0).drew) hb4'; have Q4 := k6_below (k6_drew K0) hb4'; clear hb4'; replace HX := hblk_below HX hb4; replace HP := Lib.hid (HP.out.below hb4); replace HB := Lib.hid (HB.out.trans (hb4.mono HB.out.size)))
      | ((go_at_call 49; with_reducible refine (HW.out _ HP.out).mono ?_); rintro _ w5 ⟨v5, rfl, ⟨A5, n5, c5, B5, m5, d5, rfl, hf5, hO5⟩, hb5⟩; have hf6 := hf5.mono HB.out.size; have Q5 := k6_below Q4 hb5; replace HX := hblk_below HX hb5; replace HB := Lib.hid (HB.out.trans (hb5.mono HB.out.size)); obtain ⟨x0, x1, x2, x3⟩ := two_cells HX.out))
  all_goals
    go_wp2_with fail
    refine bodyPost_ret (res_cell_tmp rfl _ _ (w.heap.size + 1) (by rfl) _ (load_plat_new (two_set HX.out _ _))) rfl ?_
    exact ⟨_, rfl, ⟨_, _, _, _, _, _, rfl, hf6.two, hO5.two HX.out⟩, two_by HB.out (by omega) _ _⟩

theorem PlF.shut {B0 B : Nat} {W W' : World} {v : Value} {P : Plat} (h : PlF B0 W v P) (hs : ShutV B W W') : PlF B0 W' v P := by
  obtain ⟨A, n, c, B', m, d, rfl, hf, h⟩ := h
  exact ⟨A, n, c, B', m, d, rfl, fun b o s e => by
    obtain ⟨h1, cs, t, h2⟩ := hf b o s e
    exact ⟨h1, cs, t, hs.hc b _ h2 rfl⟩, ⟨h.hn, h.hm, rd_shut h.rs hs, rd_shut h.rc hs, trivial, trivial⟩⟩

theorem store_end_f {w W : World} {p0 p1 v0 v1 r0 r1 : Value} {D x : Int} {z : Bool} (h : ST w p0 p1 v0 v1 D r0 r1 z x W) {r : Plat × Bool × Int} (hP : PlF w.heap.size W (.agg #[r0, r1]) r.1) (hz : z = r.2.1) (hx : x = r.2.2) (Ds : List Nat) (hn : Ds.Nodup) (hD : ∀ D ∈ Ds, w.heap.size ≤ D ∧ W.heap[D]? = some (.deferred (some []))) (tmps : Array Value)
    (ha : tmps.getD 6 undef = .pointer (some ⟨w.heap.size + 1 + 1 + 1, 0, none⟩)) (hb : tmps.getD 7 undef = .pointer (some ⟨w.heap.size + 1 + 1 + 1 + 1, 0, none⟩)) (hc : tmps.getD 8 undef = .pointer (some ⟨w.heap.size + 1 + 1 + 1 + 1 + 1, 0, none⟩)) :
    LeavesInM Fence.wide 4 Tryz.prog Tryz.f10 tmps (DoRf w.heap.size w r) (vmarks Ds) .returning W :=
  vleaves w.heap.size Ds W hn hD fun W' hS => ⟨_, va_res3 rfl _ _ _ _ _ ha hb hc _ _ _ (load_plat_new (hS.hc _ _ h.gr rfl)) (va_load_bool (rf_at (hS.hc _ _ h.gb rfl) 0 _ rfl)) (va_load_err (rf_at (hS.hc _ _ h.ge rfl) 0 _ rfl)), by
    subst hz hx
    exact ⟨_, rfl, hP.shut hS, h.hb.trans hS.hb⟩⟩

structure SIf (w : World) (gc gx : Nat) (cC : Array Value) (v0 v1 : Value) (D : Nat) (l : List (Plat → Plat × Int)) (P : Plat) (pre : List Value) (W : World) : Prop where
  ex : ∃ A1 n1 c1 B1 m1 d1 Q, runL (l.take pre.length) P = (Q, 0) ∧ pre.length ≤ D ∧ FrA w.heap.size W A1 ∧ SU w gc gx cC v0 v1 ((D - pre.length : Nat) : Int) 0 A1 n1 c1 B1 m1 d1 Q W
structure SXf (w : World) (r : Plat × Bool × Int) (cd : Code) (W : World) : Prop where
  ex : cd = .ret ∧ ∃ p0 p1 v0 v1 D r0 r1 z x, ST w p0 p1 v0 v1 D r0 r1 z x W ∧ PlF w.heap.size W (.agg #[r0, r1]) r.1 ∧ z = r.2.1 ∧ x = r.2.2
theorem FrA.kept {B0 : Nat} {W W' : World} {A : Option Addr} {row : Option Nat} (h : FrA B0 W A) (hg : W.grownBy W' row) (hr : ∀ r, row = some r → ∃ o : Obj, W.heap[r]? = some o ∧ o.isCells = false) : FrA B0 W' A := fun b o s e => by
  obtain ⟨h1, cs, t, h2⟩ := h b o s e
  exact ⟨h1, cs, t, kept_cells hg hr b _ h2 rfl⟩
theorem SIf.kept {w : World} {gc gx : Nat} {cC : Array Value} {v0 v1 : Value} {D : Nat} {l : List (Plat → Plat × Int)} {P : Plat} {pre : List Value} {W W' : World} {row : Option Nat} (h : SIf w gc gx cC v0 v1 D l P pre W) (hg : W.grownBy W' row) (hr : ∀ r, row = some r → w.heap.size ≤ r ∧ ∃ o : Obj, W.heap[r]? = some o ∧ o.isCells = false) : SIf w gc gx cC v0 v1 D l P pre W' := by
  obtain ⟨A1, n1, c1, B1, m1, d1, Q, h1, h2, hf, h3⟩ := h.ex
  exact ⟨A1, n1, c1, B1, m1, d1, Q, h1, h2, hf.kept hg (fun r e => (hr r e).2), h3.kept hg hr⟩
theorem SXf.kept {w : World} {r : Plat × Bool × Int} {cd : Code} {W W' : World} {row : Option Nat} (h : SXf w r cd W) (hg : W.grownBy W' row) (hr : ∀ r, row = some r → w.heap.size ≤ r ∧ ∃ o : Obj, W.heap[r]? = some o ∧ o.isCells = false) : SXf w r cd W' := by
  obtain ⟨h1, p0, p1, v0, v1, D, r0, r1, z, x, h2, ⟨A, n, c, B, m, d, e, hf, h3⟩, h4, h5⟩ := h.ex
  exact ⟨h1, p0, p1, v0, v1, D, r0, r1, z, x, h2.kept hg hr, ⟨A, n, c, B, m, d, e, hf.kept hg (fun r e => (hr r e).2), h3.kept hg (fun r e => (hr r e).2)⟩, h4, h5⟩

theorem vstore_any_f (v vv : Value) (P : Plat) (V : Vol) (deeds : Int) (w : World) (h : PlV w v P) (hv : VV w vv V) (hl : P.ss.length ≤ maxLen) (hlv : V.bl.length ≤ maxLen) (hR : Rounds w) :
    Calls Tryz.prog 10 #[v, vv, .int .i64 deeds] w (DoRf w.heap.size w (storeP P V deeds)) := by
  have HV0 := Lib.hid hv
  obtain ⟨A, n, c, B, m, d, rfl, h⟩ := h
  obtain ⟨AV, nV, cV, rfl, hrv, hnV⟩ := hv
  have hst := st_new w (.slice A n c) (.slice B m d) (.slice AV nV cV) (.string V.rt) deeds
  have HS := Lib.hid hst
  have HP := Lib.hid (h.below hst.hb)
  have HRv := Lib.hid (hrv.below hst.hb)
  have HR := Lib.hid (hR.below hst.hb)
  have HN := Lib.hid hnV
  have HOp := Lib.hid (fun W h1 h2 => vopen_any (.agg #[.slice A n c, .slice B m d]) P W h1 hl h2)
  have HCk := Lib.hid (fun W h => vcheck_any (.agg #[.slice AV nV cV, .string V.rt]) V W h)
  have Hvt := Lib.hid (fun h => vt_of_open (P := P) h)
  have Hhm := Lib.hid (show m = P.cs.length from h.hm)
  have HPw := Lib.hid h
  have HRw := Lib.hid hrv
  have HRow := Lib.hid hR
  obtain ⟨r, hr⟩ : ∃ r, r = openP P := ⟨_, rfl⟩
  have Hr := Lib.hid hr
  rw [← hr] at HOp Hvt
  obtain ⟨⟨N, gen, area, V0⟩, er⟩ := r
  simp only at HOp Hvt
  have HE := Lib.hid (show storeP P V deeds = if er ≠ 0 then (noPlat, false, er)
      else if checkV V = false ∨ V.bl.length ≠ N then (noPlat, false, 160) else if rootT V.bl ≠ V.rt then (noPlat, false, 161) else if gen = 1000000000 then (noPlat, false, 260)
      else endP (runL ((deedV V N area).take (allN N deeds)) P) ⟨N, gen, area, V0⟩ V (allN N deeds) by
    unfold storeP
    rw [← hr])
  have hnm : nV ≤ 9223372036854775807 := by unfold maxLen at hlv; omega
  obtain ⟨p0, p1⟩ := vtwo_cells hst.gp
  clear h hrv hnV hst hr hl hlv hR
  refine (callsIn_wide (n := 4)).1 ?_
  refine callsIn_of_wp_marks Tryz.func10 rfl trivial ?_ rfl
  simp only [Tryz.ntmps10, List.size_toArray, List.length_cons, List.length_nil, Nat.reduceAdd, Nat.reduceSub, Array.replicate_succ, Array.replicate_zero, List.push_toArray, List.append_toArray, List.nil_append, List.cons_append]
  refine wpIn_wide.2 ?_
  refine Code.wp_mono NoPanic.imp ?_
  go_wp2_with fail
  refine (HOp.out _ ⟨_, _, _, _, _, _, rfl, HP.out⟩ HR.out).mono ?_
  rintro e w2 ⟨A2, c2, rfl, ⟨hrd, hfar⟩, hb2⟩
  simp only
  obtain ⟨gc, hgc⟩ : ∃ gc, gc = w2.heap.size := ⟨_, rfl⟩
  obtain ⟨kc, kx, kb⟩ := va_blk w2 (.cells #[.int .i64 (N : Nat), .int .i64 (area : Nat), .int .i64 (gen : Nat), .slice A2 V0.bl.length c2, .string V0.rt] 51) (.cells #[.int .i64 er] 30)
  have hbb := Below.chain hb2 kb
  have HS2 := Lib.hid (HS.out.below hbb)
  have HP2 := Lib.hid (HP.out.below hbb)
  have HRv2 := Lib.hid (HRv.out.below hbb)
  have HR2 := Lib.hid (HR.out.below hbb)
  have HV2 := Lib.hid (show VV _ (.agg #[.slice AV nV cV, .string V.rt]) V from ⟨AV, nV, cV, rfl, HRv2.out, HN.out⟩)
  obtain ⟨w3, hw3⟩ : ∃ w3, w3 = (w2.alloc (.cells #[.int .i64 (N : Nat), .int .i64 (area : Nat), .int .i64 (gen : Nat), .slice A2 V0.bl.length c2, .string V0.rt] 51)).alloc (.cells #[.int .i64 er] 30) := ⟨_, rfl⟩
  have Hw3 := Lib.hid hw3
  have Hgc := Lib.hid (show w.heap.size + 6 ≤ w2.heap.size from Nat.le_trans HS.out.hz hb2.size)
  rw [← hw3] at kc kx HS2 HP2 HRv2 HR2 HV2
  have HC := Lib.hid kc
  have HX := Lib.hid kx
  clear hrd hfar hb2 kb hbb hw3 HS HP HRv HR p0 p1 HV0 HOp kc kx
  go_upto_region 2 with fail
  rw [← Hw3.out]
  clear Hw3
  subst hgc
  have Hgx := Lib.hid (show w.heap.size + 7 ≤ w2.heap.size + 1 by have := Hgc.out; omega)
  have Hcx := Lib.hid (show w2.heap.size < w2.heap.size + 1 by omega)
  generalize w2.heap.size + 1 = gx at *
  generalize w2.heap.size = gc at *
  have x0 := rf_at HX.out 0 _ rfl
  obtain ⟨r0, r1, r2, r3⟩ := two_cells HS2.out.gr
  have b0 := rf_at HS2.out.gb 0 _ rfl
  have b1 := rf_fr HS2.out.gb 0
  have e0 := rf_at HS2.out.ge 0 _ rfl
  have e1 := rf_fr HS2.out.ge 0
  have m1 : ¬ gx = w.heap.size + 1 + 1 + 1 := by have := Hgx.out; omega
  have m2 : ¬ gx = w.heap.size + 1 + 1 + 1 + 1 := by have := Hgx.out; omega
  have m3 : ¬ gx = w.heap.size + 1 + 1 + 1 + 1 + 1 := by have := Hgx.out; omega
  have m1' : ¬ w.heap.size + 1 + 1 + 1 = gx := by have := Hgx.out; omega
  have m2' : ¬ w.heap.size + 1 + 1 + 1 + 1 = gx := by have := Hgx.out; omega
  have m3' : ¬ w.heap.size + 1 + 1 + 1 + 1 + 1 = gx := by have := Hgx.out; omega
  by_cases her : er = 0
  case neg =>
    have d1 : (er != 0) = true := by simpa using her
    have HE1 := Lib.hid (show storeP P V deeds = (noPlat, false, er) by rw [HE.out, if_pos her])
    clear her
    go_upto_region 3 with fail
    go_region_law (fail)
    all_goals
      go_wp2_with fail
      (try simp only [Exit.inBlock, Exit.then])
      rw [HE1.out]
      refine ret_m (store_end_f ((HS2.out.setR _ _ _ _).below ((Below.refl _ _).drew)) (PlF.no _ _) rfl rfl [] List.nodup_nil (fun D hD => by cases hD) _ (by rfl) (by rfl) (by rfl))
  subst her
  have d1 : ((0 : Int) != 0) = false := rfl
  have Vt0 := Lib.hid (Hvt.out rfl)
  rw [if_neg (fun hh => hh rfl)] at HE
  have hN1 := Vt0.out.area
  have hN2 := count_le Vt0.out.cnt
  obtain ⟨v0, v1⟩ := vtwo_cells HS2.out.gv
  obtain ⟨⟨c0, c1, c2', c3, c4⟩, _⟩ := ch5_cells HC.out
  cases hck : checkV V with
  | false =>
    rw [hck] at HCk
    have HE1 := Lib.hid (show storeP P V deeds = (noPlat, false, 160) by rw [HE.out, if_pos (.inl hck)])
    clear hck HE
    go_wp2_with fail
    refine (HCk.out _ HV2.out).mono ?_
    rintro e w4 ⟨rfl, hb4⟩
    have HS4 := Lib.hid (HS2.out.below hb4)
    clear hb4 x0 r0 r1 r2 r3 b0 b1 e0 e1 v0 v1 c0 c1 c2' c3 c4
    obtain ⟨r0, r1, r2, r3⟩ := two_cells HS4.out.gr
    have b0 := rf_at HS4.out.gb 0 _ rfl
    have b1 := rf_fr HS4.out.gb 0
    have e0 := rf_at HS4.out.ge 0 _ rfl
    have e1 := rf_fr HS4.out.ge 0
    go_wp2_with fail
    (try simp only [Exit.inBlock, Exit.then])
    rw [HE1.out]
    refine ret_m (store_end_f (HS4.out.setR _ _ _ _) (PlF.no _ _) rfl rfl [] List.nodup_nil (fun D hD => by cases hD) _ (by rfl) (by rfl) (by rfl))
  | true =>
  rw [hck] at HCk
  by_cases hlN : nV = N
  case neg =>
    have d2 : ((nV : Int) != (N : Int)) = true := by simp; omega
    have HE1 := Lib.hid (show storeP P V deeds = (noPlat, false, 160) by rw [HE.out, if_pos (.inr (by rw [← HN.out]; exact hlN))])
    clear hck HE hlN
    go_wp2_with fail
    refine (HCk.out _ HV2.out).mono ?_
    rintro e w4 ⟨rfl, hb4⟩
    have HS4 := Lib.hid (HS2.out.below hb4)
    have HC4 := Lib.hid (cells_below HC.out hb4)
    clear hb4 x0 r0 r1 r2 r3 b0 b1 e0 e1 v0 v1 c0 c1 c2' c3 c4
    obtain ⟨r0, r1, r2, r3⟩ := two_cells HS4.out.gr
    have b0 := rf_at HS4.out.gb 0 _ rfl
    have b1 := rf_fr HS4.out.gb 0
    have e0 := rf_at HS4.out.ge 0 _ rfl
    have e1 := rf_fr HS4.out.ge 0
    obtain ⟨v0, v1⟩ := vtwo_cells HS4.out.gv
    obtain ⟨⟨c0, c1, c2', c3, c4⟩, _⟩ := ch5_cells HC4.out
    go_wp2_with fail
    (try simp only [Exit.inBlock, Exit.then])
    rw [HE1.out]
    refine ret_m (store_end_f (HS4.out.setR _ _ _ _) (PlF.no _ _) rfl rfl [] List.nodup_nil (fun D hD => by cases hD) _ (by rfl) (by rfl) (by rfl))
  have hnot : ¬ (checkV V = false ∨ V.bl.length ≠ N) := by
    rintro (hh | hh)
    · rw [hck] at hh; cases hh
    · exact hh (HN.out.symm.trans hlN)
  rw [if_neg hnot] at HE
  subst hlN
  have d2 : ((nV : Int) != (nV : Int)) = false := by simp
  clear hnot
  have HRt := Lib.hid (fun W h1 h2 => vrooted_any (.agg #[.slice AV nV cV, .string V.rt]) V W h1 hck h2)
  go_wp2_with fail
  refine (HCk.out _ HV2.out).mono ?_
  rintro e w4 ⟨rfl, hb4⟩
  have HS4 := Lib.hid (HS2.out.below hb4)
  have HC4 := Lib.hid (cells_below HC.out hb4)
  have HX4 := Lib.hid (cells_below HX.out hb4)
  have HP4 := Lib.hid (HP2.out.below hb4)
  have HRv4 := Lib.hid (HRv2.out.below hb4)
  have HR4 := Lib.hid (HR2.out.below hb4)
  have HV4 := Lib.hid (HV2.out.below hb4)
  clear hb4 x0 r0 r1 r2 r3 b0 b1 e0 e1 v0 v1 c0 c1 c2' c3 c4 HS2 HC HX HP2 HRv2 HR2 HV2 HCk
  obtain ⟨v0, v1⟩ := vtwo_cells HS4.out.gv
  obtain ⟨⟨c0, c1, c2', c3, c4⟩, _⟩ := ch5_cells HC4.out
  go_wp2_with fail
  refine (HRt.out _ HV4.out HR4.out).mono ?_
  rintro e w5 ⟨rfl, hb5⟩
  have HS5 := Lib.hid (HS4.out.below hb5)
  have HC5 := Lib.hid (cells_below HC4.out hb5)
  have HX5 := Lib.hid (cells_below HX4.out hb5)
  have HP5 := Lib.hid (HP4.out.below hb5)
  have HRv5 := Lib.hid (HRv4.out.below hb5)
  clear hb5 v0 v1 c0 c1 c2' c3 c4 HS4 HC4 HX4 HP4 HRv4 HR4 HV4 HRt
  obtain ⟨r0, r1, r2, r3⟩ := two_cells HS5.out.gr
  have b0 := rf_at HS5.out.gb 0 _ rfl
  have b1 := rf_fr HS5.out.gb 0
  have e0 := rf_at HS5.out.ge 0 _ rfl
  have e1 := rf_fr HS5.out.ge 0
  by_cases hrt : rootT V.bl = V.rt
  case neg =>
    have HE1 := Lib.hid (show storeP P V deeds = (noPlat, false, 161) by rw [HE.out, if_pos hrt])
    rw [decide_eq_false hrt]
    clear hrt HE
    go_wp2_with fail
    (try simp only [Exit.inBlock, Exit.then])
    rw [HE1.out]
    refine ret_m (store_end_f (HS5.out.setR _ _ _ _) (PlF.no _ _) rfl rfl [] List.nodup_nil (fun D hD => by cases hD) _ (by rfl) (by rfl) (by rfl))
  rw [if_neg (fun hh => hh hrt)] at HE
  rw [decide_eq_true hrt]
  obtain ⟨⟨c0, c1, c2', c3, c4⟩, _⟩ := ch5_cells HC5.out
  by_cases hgen : gen = 1000000000
  case pos =>
    have HE1 := Lib.hid (show storeP P V deeds = (noPlat, false, 260) by rw [HE.out, if_pos hgen])
    have d3 : ((gen : Int) == 1000000000) = true := by simp; omega
    clear hgen HE hrt
    go_wp2_with fail
    (try simp only [Exit.inBlock, Exit.then])
    rw [HE1.out]
    refine ret_m (store_end_f (HS5.out.setR _ _ _ _) (PlF.no _ _) rfl rfl [] List.nodup_nil (fun D hD => by cases hD) _ (by rfl) (by rfl) (by rfl))
  rw [if_neg hgen] at HE
  have d3 : ((gen : Int) == 1000000000) = false := by simp; omega
  clear hgen hrt r0 r1 r2 r3 b0 b1 e0 e1
  clear m1 m2 m3 m1' m2' m3' HP5 HRv5
  go_upto_region 11 with fail
  clear c1 c2' c3 c4
  obtain ⟨D, hD⟩ : ∃ D, D = allN nV deeds := ⟨_, rfl⟩
  have HD := Lib.hid hD
  have dd0 := rf_at HS5.out.gd 0 _ rfl
  have dd1 := rf_fr HS5.out.gd 0
  go_cut [58] from 52 to 58 (fun v wc => v = .bool (decide (deeds < 0 ∨ (nV : Int) + 1 + 4 < deeds)) ∧ wc = w5)
  case first =>
    clear hD
    by_cases hneg : deeds < 0
    · have f1 : decide (deeds < 0) = true := decide_eq_true hneg
      have f9 := Lib.hid (decide_eq_true (show deeds < 0 ∨ (nV : Int) + 1 + 4 < deeds from .inl hneg))
      clear hneg
      go_wp2_with fail
      go_meet
      case rel => exact ⟨congrArg Value.bool f9.out.symm, rfl⟩
    · have f1 : decide (deeds < 0) = false := decide_eq_false hneg
      by_cases hbig : (nV : Int) + 1 + 4 < deeds
      · have f2 : decide (deeds > (nV : Int) + 1 + 4) = true := decide_eq_true hbig
        have f9 := Lib.hid (decide_eq_true (show deeds < 0 ∨ (nV : Int) + 1 + 4 < deeds from .inr hbig))
        clear hneg hbig
        go_wp2_with fail
        go_meet
        case rel => exact ⟨congrArg Value.bool f9.out.symm, rfl⟩
      · have f2 : decide (deeds > (nV : Int) + 1 + 4) = false := decide_eq_false hbig
        have f9 := Lib.hid (decide_eq_false (show ¬ (deeds < 0 ∨ (nV : Int) + 1 + 4 < deeds) from by omega))
        clear hneg hbig
        go_wp2_with fail
        go_meet
        case rel => exact ⟨congrArg Value.bool f9.out.symm, rfl⟩
  case rest =>
  obtain ⟨rfl, rfl⟩ := hcut
  rename World => w5
  go_upto_if 58 with fail
  go_cut [] from 58 to 59 (fun wc => ST w (.slice A n c) (.slice B m d) (.slice AV nV cV) (.string V.rt) (D : Nat) (.slice none 0 0) (.slice none 0 0) false 0 wc ∧ wc.heap[gc]? = some (.cells #[.int .i64 (nV : Nat), .int .i64 (area : Nat), .int .i64 (gen : Nat), .slice A2 V0.bl.length c2, .string V0.rt] 51 (0, 0)) ∧ wc.heap[gx]? = some (.cells #[.int .i64 0] 30 (0, 0)))
  case first =>
    by_cases hneg : deeds < 0 ∨ (nV : Int) + 1 + 4 < deeds
    · rw [decide_eq_true hneg]
      have hDD : (nV : Int) + 1 + 4 = ((D : Nat) : Int) := by rw [hD]; unfold allN; rw [if_pos (by omega)]; omega
      have HDD := Lib.hid hDD
      clear hneg hD hDD
      go_wp2_with fail
      go_meet
      case rel =>
        have h6 := HS5.out.setD ((nV : Int) + 1 + 4)
        refine ⟨?_, blk_oth HC5.out (by have := Hgc.out; omega) _, blk_oth HX5.out (by have := Hgx.out; omega) _⟩
        rw [← HDD.out]
        exact h6
    · rw [decide_eq_false hneg]
      have hDD : deeds = ((D : Nat) : Int) := by rw [hD]; unfold allN; rw [if_neg (by omega)]; omega
      have HDD := Lib.hid hDD
      clear hneg hD hDD
      go_wp2_with fail
      go_meet
      case rel =>
        have h6 := HS5.out
        rw [HDD.out] at h6
        exact ⟨h6, HC5.out, HX5.out⟩
  case rest =>
  obtain ⟨hs6, hc6, hx6⟩ := hcut
  rename World => w6
  have HS6 := Lib.hid hs6
  have HC6 := Lib.hid hc6
  have HX6 := Lib.hid hx6
  have HG6 := Lib.hid hs6.gp
  have HP6 := Lib.hid (HPw.out.below hs6.hb)
  have hl := Vt0.out.len
  have hck5 := (check_parts Vt0.out.chk).2.2.1
  have hn9 : n ≤ 1000000 := by rw [HPw.out.hn, hl]; omega
  have hm9 : m ≤ 1000000 := by rw [HPw.out.hm]; omega
  have hgpz : w.heap.size < w6.heap.size := cell_lt_of hs6.gp
  clear hs6 hc6 hx6 dd0 dd1 c0 hl hck5 HS5 HC5 HX5 hD
  obtain ⟨p0, p1, p2, p3⟩ := two_cells HG6.out
  go_upto_region 13 with fail
  go_cut [] from 60 to 66 (fun wc => ∃ A1 c1 B1 d1, FrA w.heap.size wc A1 ∧ SU w gc gx #[.int .i64 (nV : Nat), .int .i64 (area : Nat), .int .i64 (gen : Nat), .slice A2 V0.bl.length c2, .string V0.rt] (.slice AV nV cV) (.string V.rt) (D : Nat) 0 A1 n c1 B1 m d1 P wc)
  case first =>
    go_region_law (first
      | (refine step_append_copy (by rfl) _ _ 22 (by rfl) w6.heap.size 9 (.string ⟨#[]⟩) 1 16 Tryz.underlying22 string_info rfl (by omega) (by rfl) A n c (by rfl) (textsV P.ss) (by exact HP6.out.rs) (by rw [textsV_len, ← HP6.out.hn, Nat.mul_one]) (textsV_one _) (by omega) (by omega) (by exact Nat.le_refl _) ?_; intro A1 cap1 w7 ho1 hb7'; have hb7 := Below.chain ((Below.refl _ w6).drew) hb7'; clear hb7'; obtain ⟨q0, q1, q2, q3⟩ := two_cells (hblk_below HG6 hb7).out)
      | (refine step_append_copy (by rfl) _ _ 23 (by rfl) w6.heap.size 65 (.agg #[.int .i64 0, .string ⟨#[]⟩]) 2 24 Tryz.underlying23 put_info rfl (by omega) (by rfl) B m d (by rfl) (putsV P.cs) (by exact HP6.out.rc.below hb7) (by rw [putsV_len, ← HP6.out.hm]) (putsV_one _) (by omega) (by omega) (by exact hb7.size) ?_; intro B1 cap2 w8 ho2 hb8; obtain ⟨t0, t1, t2, t3⟩ := two_cells (hblk_below (hblk_below HG6 hb7) hb8).out))
    all_goals
      have hs8 := (HS6.out.below hb7).below hb8
      have hO := (show OB w8 w6.heap.size A1 n cap1 B1 m cap2 P from ⟨HP6.out.hn, HP6.out.hm, own_keep ho1 hb8, ho2⟩)
      have hc8 := cells_below (cells_below HC6.out hb7) hb8
      have hx8 := cells_below (cells_below HX6.out hb7) hb8
      have HU8 := Lib.hid (show SU w gc gx #[.int .i64 (nV : Nat), .int .i64 (area : Nat), .int .i64 (gen : Nat), .slice A2 V0.bl.length c2, .string V0.rt] (.slice AV nV cV) (.string V.rt) (D : Nat) 0 A1 n cap1 B1 m cap2 P ((w8.setCell ⟨w.heap.size, 0, none⟩ (.slice A1 n cap1)).setCell ⟨w.heap.size, 1, none⟩ (.slice B1 m cap2)) from
        ⟨hs8.setP _ _, hO.pb.two hs8.gp, blk_oth (blk_oth hc8 (by have := Hgc.out; omega) _) (by have := Hgc.out; omega) _, blk_oth (blk_oth hx8 (by have := Hgx.out; omega) _) (by have := Hgx.out; omega) _⟩)
      have hfo := ((own_fr hO.os).mono (Nat.le_trans (Nat.le_add_right _ 6) HS6.out.hz)).two (p := ⟨w.heap.size, 0, none⟩) (u := .slice A1 n cap1) (q := ⟨w.heap.size, 1, none⟩) (v := .slice B1 m cap2)
      clear hs8 hO hc8 hx8
      go_wp2_with fail
      go_meet
      case rel => first | exact ⟨_, _, _, _, hfo, HU8.out⟩ | exact ⟨_, _, _, _, hfo.below ((Below.refl _ _).drew), HU8.out.drew⟩
  case rest =>
  obtain ⟨A1, c1, B1, d1, hfu, hu⟩ := hcut
  rename World => w7
  have HU := Lib.hid hu
  have hz7 : w.heap.size + 6 ≤ w7.heap.size ∧ gx < w7.heap.size := ⟨hu.st.hz, cell_lt_of hu.hx⟩
  obtain ⟨v0, v1⟩ := vtwo_cells hu.st.gv
  obtain ⟨⟨y0, y1, y2, y3, y4⟩, _⟩ := ch5_cells hu.hc
  clear hu p0 p1 p2 p3 HS6 HC6 HX6 HG6 HP6
  go_wp2_with fail
  refine (callsIn_wide.1 (deeds_in 4 _ _ _ _ _ _ _ _)).mono ?_
  rintro e w8 ⟨rfl, rfl⟩
  obtain ⟨kc, kv, kb⟩ := va_blk w7 (.cells #[.int .i64 (nV : Nat), .int .i64 (area : Nat), .int .i64 (gen : Nat), .slice A2 V0.bl.length c2, .string V0.rt] 51) (.cells #[.slice AV nV cV, .string V.rt] 27)
  have HU8 := Lib.hid (HU.out.below kb)
  replace hfu := hfu.below kb
  obtain ⟨w8, hw8⟩ : ∃ w8, w8 = ((w7.alloc (.cells #[.int .i64 (nV : Nat), .int .i64 (area : Nat), .int .i64 (gen : Nat), .slice A2 V0.bl.length c2, .string V0.rt] 51)).alloc (.cells #[.slice AV nV cV, .string V.rt] 27)) := ⟨_, rfl⟩
  have hw8s : w8.heap.size = w7.heap.size + 2 := by rw [hw8]; simp
  rw [← hw8] at kc kv HU8 hfu
  have HKc := Lib.hid kc
  have HKv := Lib.hid kv
  have Hw8 := Lib.hid hw8
  clear kc kv kb v0 v1 y0 y1 y2 y3 y4 hw8 HU
  go_wp2_with fail
  rw [← Hw8.out]
  clear Hw8
  have hz8 : w.heap.size ≤ w8.heap.size := HU8.out.st.hb.size
  have hgx8 : gx < w8.heap.size := cell_lt_of HU8.out.hx
  generalize w7.heap.size = g7 at *
  have hg1 := Hgx.out
  have hg2 := Hgc.out
  have hg3 := Hcx.out
  have hDle : D ≤ nV + 5 := by rw [HD.out]; exact all_le _ _
  refine (wpIn_wide (n := 4)).1 ?_
  refine wpIn_rangeFunc_tells1 (t := 12) rfl (by omega) (gf := 63) (lb := #[.pointer (some ⟨g7 + 1, 0, none⟩), .pointer (some ⟨g7, 0, none⟩)]) rfl trivial (enters_of Tryz.func63 (by kernel_rfl) rfl)
    (E := fun pre x X => DeedW g7 nV area V pre.length X x) (Kp := KpT w.heap.size [g7 + 1, g7]) (S := fun xs => xs.length = nV + 1) (Sp := fun _ => True)
    (fun l J Jx W hW hJ _ hY h0 => deeds1_in 3 (by omega) l _ _ w.heap.size nV area nV cV AV V _ _ _ w W rfl (HU8.out.st.hb.trans (hW.mono hz8)) HRw.out HN.out rfl (by omega) (cells_below HKv.out hW) (cells_below HKc.out hW) J Jx hJ hY h0)
    kpT_t (fun X => ⟨Below.refl _ _, fun b _ => rfl⟩) (kpT_b hz8 (by simp; omega))
    (SIf w gc gx #[.int .i64 (nV : Nat), .int .i64 (area : Nat), .int .i64 (gen : Nat), .slice A2 V0.bl.length c2, .string V0.rt] (.slice AV nV cV) (.string V.rt) D (deedV V nV area) P) (fun cd pre W => SXf w (storeP P V deeds) cd W)
    (fun s X Y row h hg hr => h.kept hg (fun r e => ⟨by have := (hr r e).1; omega, (hr r e).2⟩)) (fun cd s X Y row h hg hr => h.kept hg (fun r e => ⟨by have := (hr r e).1; omega, (hr r e).2⟩))
    ⟨A1, n, c1, B1, m, d1, P, rfl, Nat.zero_le _, hfu, HU8.out⟩ (fun pre x s X Y row h hg hr => h.kept hg (fun r e => (hr r e).2))
    ?assign ?body ?done ?stop
  case assign =>
    rintro l x X K hK
    (try simp only [List.setIfInBounds_toArray, List.set_cons_zero, List.set_cons_succ] at hK ⊢)
    gi_wp2
    exact hK
  case body =>
    rintro l pre x X hl ⟨r, hr⟩ hI hE
    obtain ⟨A4, n4, c4, B4, m4, d4, Q, hrun, hle, hf4, hsu⟩ := hI.ex
    have hlX : w8.heap.size < X.heap.size := Nat.lt_of_le_of_lt hl (cell_lt_of hr)
    have hkN : pre.length ≤ nV := by
      rcases hE with ⟨h, _⟩ | ⟨h, _⟩
      · omega
      · omega
    have HUx := Lib.hid hsu
    have Hrun := Lib.hid hrun
    have HEd := Lib.hid hE
    have hlen : (pre ++ [x]).length = pre.length + 1 := by rw [List.length_append]; rfl
    have Hlen := Lib.hid hlen
    obtain ⟨p0, p1, p2, p3⟩ := two_cells hsu.st.gp
    have dd0 := rf_at hsu.st.gd 0 _ rfl
    obtain ⟨r0, r1, r2, r3⟩ := two_cells hsu.st.gr
    have b0 := rf_at hsu.st.gb 0 _ rfl
    have b1 := rf_fr hsu.st.gb 0
    have e0 := rf_at hsu.st.ge 0 _ rfl
    have e1 := rf_fr hsu.st.ge 0
    simp only [List.setIfInBounds_toArray, List.set_cons_zero, List.set_cons_succ]
    clear hI hsu hrun hE hr hlen
    by_cases hD0 : D = pre.length
    · have f1 : (((D - pre.length : Nat) : Int) == 0) = true := by simp; omega
      have HSt := Lib.hid (show storeP P V deeds = (Q, false, 0) by
        rw [HE.out, ← HD.out, hD0, Hrun.out, endP, if_neg (by simp), if_pos (by show _ < nV + 1; omega)])
      clear hD0
      gi_wp2
      have ht := ((((TC.refl w gx X).set (g := w.heap.size + 1 + 1 + 1) (i := 0) (.inl (by omega)) (.slice A4 n4 c4)).set (g := w.heap.size + 1 + 1 + 1) (i := 1) (.inl (by omega)) (.slice B4 m4 d4)).set (g := w.heap.size + 1 + 1 + 1 + 1) (i := 0) (.inl (by omega)) (.bool false)).set (g := w.heap.size + 1 + 1 + 1 + 1 + 1) (i := 0) (.inl (by omega)) (.int .i64 0)
      refine ⟨ht.keeps (by omega) (by omega), ⟨rfl, _, _, _, _, _, _, _, _, _, HUx.out.st.setR _ _ _ _, ?_, ?_, ?_⟩⟩
      · rw [HSt.out]
        have g1 := HUx.out.pb.two (A3 := A4) (n3 := n4) (c3 := c4) (B3 := B4) (m3 := m4) (d3 := d4) HUx.out.st.gr
        have g2 := g1.one (blk_oth (blk_oth HUx.out.st.gb (by omega) _) (by omega) _) (fun s h => by cases h) (.bool false)
        exact ⟨_, _, _, _, _, _, rfl, hf4.two.two, g2.one (blk_oth (blk_oth (blk_oth HUx.out.st.ge (by omega) _) (by omega) _) (by omega) _) (fun s h => by cases h) (.int .i64 0)⟩
      · rw [HSt.out]
      · rw [HSt.out]
    · have f1 : (((D - pre.length : Nat) : Int) == 0) = false := by simp; omega
      obtain ⟨q, hq⟩ : ∃ q, q = deedF V nV area pre.length Q := ⟨_, rfl⟩
      have Hfq := Lib.hid hq
      have Hfq2 := Lib.hid hq
      obtain ⟨Q2, er⟩ := q
      clear hq
      rcases HEd.out with ⟨hkE, rfl⟩ | ⟨hkE, bi, bs', rfl, hi2, hs2, hc2⟩
      · have hqs : deedF V nV area pre.length Q = syncP Q := by unfold deedF; rw [if_neg (by omega)]
        rw [hqs] at Hfq
        clear hqs hkE
        by_cases her : er = 0
        · subst her
          have f2 : ((0 : Int) != 0) = false := rfl
          have f3 : IntKind.i64.wrap (((D - pre.length : Nat) : Int) - 1) = ((D - (pre.length + 1) : Nat) : Int) := by rw [IntWalk.i64_in _ (by omega)]; omega
          have f4 : (((D - pre.length : Nat) : Int) - 1) = ((D - (pre.length + 1) : Nat) : Int) := by omega
          gi_wp2_with (refine ⟨trivial, ?_⟩; gi_at_call 52; refine (CallsIn.inRound l (callsIn_wide.2 (sync_any_f _ Q _ ⟨_, _, _, _, _, _, rfl, HUx.out.pb⟩))).mono ?_; rintro e W2 ⟨v2, rfl, ⟨A3, n3, c3, B3, m3, d3, rfl, hf3, hP3⟩, hb2⟩; rw [← Hfq.out] at hP3 ⊢; have HU2 := Lib.hid (HUx.out.below hb2); have HP3 := Lib.hid hP3; have HT2 := Lib.hid ((TC.refl w gx X).below HUx.out.st.hb.size hb2); clear hb2 hP3 p0 p1 p2 p3 dd0; obtain ⟨p0, p1, p2, p3⟩ := two_cells HU2.out.st.gp; have x0 := rf_at HU2.out.hx 0 _ rfl; have x1 := rf_fr HU2.out.hx 0; have dd0 := rf_at HU2.out.st.gd 0 _ rfl; have dd1 := rf_fr HU2.out.st.gd 0)
          gi_wp2
          have ht := (((HT2.out.set (g := w.heap.size) (i := 0) (.inl (by omega)) (.slice A3 n3 c3)).set (g := w.heap.size) (i := 1) (.inl (by omega)) (.slice B3 m3 d3)).set (g := gx) (i := 0) (.inr ⟨rfl, by omega⟩) (.int .i64 0)).set (g := w.heap.size + 1 + 1) (i := 0) (.inl (by omega)) (.int .i64 ((D - (pre.length + 1) : Nat) : Int))
          have hsx := (HU2.out.st.setP (.slice A3 n3 c3) (.slice B3 m3 d3)).far (g := gx) (i := 0) (by omega) (.int .i64 0)
          have hs9 := hsx.setD ((D - (pre.length + 1) : Nat) : Int)
          have g1 := HP3.out.two (A3 := A3) (n3 := n3) (c3 := c3) (B3 := B3) (m3 := m3) (d3 := d3) HU2.out.st.gp
          have g2 := g1.one (blk_oth (blk_oth HU2.out.hx (by omega) _) (by omega) _) (fun s h => by cases h) (.int .i64 0)
          have g3 := g2.one hsx.gd (fun s h => by cases h) (.int .i64 ((D - (pre.length + 1) : Nat) : Int))
          have hx9 := blk_oth (g := w.heap.size + 1 + 1) (i := 0) (blk_set (blk_oth (blk_oth HU2.out.hx (by omega) (.slice A3 n3 c3) (g := w.heap.size) (i := 0)) (by omega) (.slice B3 m3 d3) (g := w.heap.size) (i := 1)) 0 (.int .i64 0)) (by omega) (.int .i64 ((D - (pre.length + 1) : Nat) : Int))
          have hc9 := blk_oth (g := w.heap.size + 1 + 1) (i := 0) (blk_oth (g := gx) (i := 0) (blk_oth (blk_oth HU2.out.hc (by omega) (.slice A3 n3 c3) (g := w.heap.size) (i := 0)) (by omega) (.slice B3 m3 d3) (g := w.heap.size) (i := 1)) (by omega) (.int .i64 0)) (by omega) (.int .i64 ((D - (pre.length + 1) : Nat) : Int))
          refine ⟨ht.keeps (by omega) (by omega), ht.kpt (a := g7 + 1) (b := g7) ⟨by omega, by omega, by omega⟩ ⟨by omega, by omega, by omega⟩, ⟨A3, n3, c3, B3, m3, d3, Q2, ?_, by rw [Hlen.out]; omega, (hf3.mono (by omega)).two.two, ?_⟩⟩
          · rw [Hlen.out, deed_snoc hkN, runL_snoc _ _ _ _ Hrun.out, ← Hfq2.out, if_neg (by simp)]
          · rw [Hlen.out]
            exact ⟨hs9, g3, hc9, hx9⟩

        · have f2 : (er != 0) = true := by simpa using her
          have Her := Lib.hid her
          clear her
          gi_wp2_with (refine ⟨trivial, ?_⟩; gi_at_call 52; refine (CallsIn.inRound l (callsIn_wide.2 (sync_any_f _ Q _ ⟨_, _, _, _, _, _, rfl, HUx.out.pb⟩))).mono ?_; rintro e W2 ⟨v2, rfl, ⟨A3, n3, c3, B3, m3, d3, rfl, hf3, hP3⟩, hb2⟩; rw [← Hfq.out] at hP3 ⊢; have HU2 := Lib.hid (HUx.out.below hb2); have HP3 := Lib.hid hP3; have HT2 := Lib.hid ((TC.refl w gx X).below HUx.out.st.hb.size hb2); clear hb2 hP3 p0 p1 p2 p3 dd0; obtain ⟨p0, p1, p2, p3⟩ := two_cells HU2.out.st.gp; have x0 := rf_at HU2.out.hx 0 _ rfl; have x1 := rf_fr HU2.out.hx 0; have dd0 := rf_at HU2.out.st.gd 0 _ rfl; have dd1 := rf_fr HU2.out.st.gd 0)
          gi_wp2
          have ht1 := ((HT2.out.set (g := w.heap.size) (i := 0) (.inl (by omega)) (.slice A3 n3 c3)).set (g := w.heap.size) (i := 1) (.inl (by omega)) (.slice B3 m3 d3)).set (g := gx) (i := 0) (.inr ⟨rfl, by omega⟩) (.int .i64 er)
          have hsx := (HU2.out.st.setP (.slice A3 n3 c3) (.slice B3 m3 d3)).far (g := gx) (i := 0) (by omega) (.int .i64 er)
          have hx9 := blk_set (blk_oth (blk_oth HU2.out.hx (by omega) (.slice A3 n3 c3) (g := w.heap.size) (i := 0)) (by omega) (.slice B3 m3 d3) (g := w.heap.size) (i := 1)) 0 (.int .i64 er)
          obtain ⟨Y1, hY1⟩ : ∃ Y, Y = ((W2.setCell ⟨w.heap.size, 0, none⟩ (.slice A3 n3 c3)).setCell ⟨w.heap.size, 1, none⟩ (.slice B3 m3 d3)).setCell ⟨gx, 0, none⟩ (.int .i64 er) := ⟨_, rfl⟩
          rw [← hY1] at ht1 hsx hx9 ⊢
          clear hY1 p0 p1 p2 p3 x0 x1 dd0 dd1 r0 r1 r2 r3 b0 b1 e0 e1
          refine round_held (S := SE gx er) (by kernel_rfl) (by kernel_rfl) ?_
          change wpAnyH _ _ _ _ _ _ _ _ (Y1.drew)
          have hsd := hsx.below ((Below.refl _ _).drew)
          have htd := ht1.below hsx.hb.size ((Below.refl _ _).drew)
          have hS : SE gx er Y1.drew := rf_at hx9 0 _ rfl
          obtain ⟨Y2, hY2⟩ : ∃ Y, Y = Y1.drew := ⟨_, rfl⟩
          rw [← hY2] at hsd htd hS ⊢
          clear hY2 ht1 hsx hx9
          have Hsd := Lib.hid hsd
          have Htd := Lib.hid htd
          obtain ⟨r0, r1, r2, r3⟩ := two_cells hsd.gr
          have b0 := rf_at hsd.gb 0 _ rfl
          have b1 := rf_fr hsd.gb 0
          have e0 := rf_at hsd.ge 0 _ rfl
          have e1 := rf_fr hsd.ge 0
          clear hsd htd
          refine wpAnyH_take (i := 0) (v := .agg #[.slice none 0 0, .slice none 0 0]) rfl (by kernel_rfl) (by kernel_rfl) (by kernel_rfl) (fun _ _ _ h => h) (Or.inl ⟨by rfl, ?_⟩) hS ?_
          · intro W7 hSw
            unfold SE at hSw
            go_simp
          try simp only [Act.put, List.setIfInBounds_toArray, List.set_cons_zero, List.set_cons_succ]
          refine wpAnyH_take (i := 1) (v := .int .i64 er) rfl (by kernel_rfl) (by kernel_rfl) (by kernel_rfl) (fun _ _ _ h => h) (Or.inl ⟨by rfl, ?_⟩) hS ?_
          · intro W7 hSw
            unfold SE at hSw
            go_simp
          try simp only [Act.put, List.setIfInBounds_toArray, List.set_cons_zero, List.set_cons_succ]
          refine wpAnyH_ready (rs := [2]) (by kernel_rfl) (by simp) ?_
          refine AllReadyH.cons rfl (fun K hK => ?_) AllReadyH.nil
          go_simp
          refine hK.out _ _ ((hS.set (by omega) _).set (by omega) _) (fun hS' => ?_)
          clear hK K
          replace hS := hS'
          clear hS'
          try simp only [Act.put, List.setIfInBounds_toArray, List.set_cons_zero, List.set_cons_succ]
          refine wpAnyH_ready (rs := [3]) (by kernel_rfl) (by simp) ?_
          refine AllReadyH.cons rfl (fun K hK => ?_) AllReadyH.nil
          go_simp
          refine hK.out _ _ (hS.set (by omega) _) (fun hS' => ?_)
          clear hK K
          replace hS := hS'
          clear hS'
          try simp only [Act.put, List.setIfInBounds_toArray, List.set_cons_zero, List.set_cons_succ]
          refine wpAnyH_ready (rs := [4]) (by kernel_rfl) (by simp) ?_
          refine AllReadyH.cons rfl (fun K hK => ?_) AllReadyH.nil
          go_simp
          refine hK.out _ _ (hS.set (by omega) _) (fun hS' => ?_)
          clear hK K
          replace hS := hS'
          clear hS'
          try simp only [Act.put, List.setIfInBounds_toArray, List.set_cons_zero, List.set_cons_succ]
          refine wpAnyH_done (by kernel_rfl) ?_ _
          simp only [NormalQ]
          gi_wp2
          have HSt := Lib.hid (show storeP P V deeds = (noPlat, false, er) by
            have hr1 : runL ((deedV V nV area).take (pre.length + 1)) P = (noPlat, er) := by rw [deed_snoc hkN, runL_snoc _ _ _ _ Hrun.out, ← Hfq2.out, if_pos Her.out]
            rw [HE.out, ← HD.out, run_more (by omega) hr1 Her.out, endP, if_pos Her.out])
          have ht9 := (((Htd.out.set (g := w.heap.size + 1 + 1 + 1) (i := 0) (.inl (by omega)) (.slice none 0 0)).set (g := w.heap.size + 1 + 1 + 1) (i := 1) (.inl (by omega)) (.slice none 0 0)).set (g := w.heap.size + 1 + 1 + 1 + 1) (i := 0) (.inl (by omega)) (.bool false)).set (g := w.heap.size + 1 + 1 + 1 + 1 + 1) (i := 0) (.inl (by omega)) (.int .i64 er)
          refine ⟨ht9.keeps (by omega) (by omega), ⟨rfl, _, _, _, _, _, _, _, _, _, Hsd.out.setR _ _ _ _, ?_, ?_, ?_⟩⟩
          · rw [HSt.out]; exact PlF.no _ _
          · rw [HSt.out]
          · rw [HSt.out]

      · have hql : deedF V nV area pre.length Q = writeP ((3 + (1 - area) * nV + pre.length : Nat) : Int) (V.bl.getD pre.length noT) Q := by unfold deedF; rw [if_pos hkE]; rfl
        rw [hql] at Hfq
        have HC2 := Lib.hid hc2
        have hi3 := rf_at hi2 0 _ rfl
        have hs3 := rf_at hs2 0 _ rfl
        clear hql hc2 hi2 hs2
        by_cases her : er = 0
        · subst her
          have f2 : ((0 : Int) != 0) = false := rfl
          have f3 : IntKind.i64.wrap (((D - pre.length : Nat) : Int) - 1) = ((D - (pre.length + 1) : Nat) : Int) := by rw [IntWalk.i64_in _ (by omega)]; omega
          have f4 : (((D - pre.length : Nat) : Int) - 1) = ((D - (pre.length + 1) : Nat) : Int) := by omega
          gi_wp2_with (refine ⟨trivial, ?_⟩; gi_at_call 64; refine (CallsIn.inRound l (callsIn_wide.2 (vlay_any_f _ Q g7 bi bs' nV area pre.length (V.bl.getD pre.length noT) _ ⟨_, _, _, _, _, _, rfl, HUx.out.pb⟩ HC2.out hi3 hs3 (by omega) hN1.1 (by omega)))).mono ?_; rintro e W2 ⟨v2, rfl, ⟨A3, n3, c3, B3, m3, d3, rfl, hf3, hP3⟩, hb2⟩; rw [← Hfq.out] at hP3 ⊢; have HU2 := Lib.hid (HUx.out.below hb2); have HP3 := Lib.hid hP3; have HT2 := Lib.hid ((TC.refl w gx X).below HUx.out.st.hb.size hb2); clear hb2 hP3 p0 p1 p2 p3 dd0; obtain ⟨p0, p1, p2, p3⟩ := two_cells HU2.out.st.gp; have x0 := rf_at HU2.out.hx 0 _ rfl; have x1 := rf_fr HU2.out.hx 0; have dd0 := rf_at HU2.out.st.gd 0 _ rfl; have dd1 := rf_fr HU2.out.st.gd 0)
          gi_wp2
          have ht := (((HT2.out.set (g := w.heap.size) (i := 0) (.inl (by omega)) (.slice A3 n3 c3)).set (g := w.heap.size) (i := 1) (.inl (by omega)) (.slice B3 m3 d3)).set (g := gx) (i := 0) (.inr ⟨rfl, by omega⟩) (.int .i64 0)).set (g := w.heap.size + 1 + 1) (i := 0) (.inl (by omega)) (.int .i64 ((D - (pre.length + 1) : Nat) : Int))
          have hsx := (HU2.out.st.setP (.slice A3 n3 c3) (.slice B3 m3 d3)).far (g := gx) (i := 0) (by omega) (.int .i64 0)
          have hs9 := hsx.setD ((D - (pre.length + 1) : Nat) : Int)
          have g1 := HP3.out.two (A3 := A3) (n3 := n3) (c3 := c3) (B3 := B3) (m3 := m3) (d3 := d3) HU2.out.st.gp
          have g2 := g1.one (blk_oth (blk_oth HU2.out.hx (by omega) _) (by omega) _) (fun s h => by cases h) (.int .i64 0)
          have g3 := g2.one hsx.gd (fun s h => by cases h) (.int .i64 ((D - (pre.length + 1) : Nat) : Int))
          have hx9 := blk_oth (g := w.heap.size + 1 + 1) (i := 0) (blk_set (blk_oth (blk_oth HU2.out.hx (by omega) (.slice A3 n3 c3) (g := w.heap.size) (i := 0)) (by omega) (.slice B3 m3 d3) (g := w.heap.size) (i := 1)) 0 (.int .i64 0)) (by omega) (.int .i64 ((D - (pre.length + 1) : Nat) : Int))
          have hc9 := blk_oth (g := w.heap.size + 1 + 1) (i := 0) (blk_oth (g := gx) (i := 0) (blk_oth (blk_oth HU2.out.hc (by omega) (.slice A3 n3 c3) (g := w.heap.size) (i := 0)) (by omega) (.slice B3 m3 d3) (g := w.heap.size) (i := 1)) (by omega) (.int .i64 0)) (by omega) (.int .i64 ((D - (pre.length + 1) : Nat) : Int))
          refine ⟨ht.keeps (by omega) (by omega), ht.kpt (a := g7 + 1) (b := g7) ⟨by omega, by omega, by omega⟩ ⟨by omega, by omega, by omega⟩, ⟨A3, n3, c3, B3, m3, d3, Q2, ?_, by rw [Hlen.out]; omega, (hf3.mono (by omega)).two.two, ?_⟩⟩
          · rw [Hlen.out, deed_snoc hkN, runL_snoc _ _ _ _ Hrun.out, ← Hfq2.out, if_neg (by simp)]
          · rw [Hlen.out]
            exact ⟨hs9, g3, hc9, hx9⟩

        · have f2 : (er != 0) = true := by simpa using her
          have Her := Lib.hid her
          clear her
          gi_wp2_with (refine ⟨trivial, ?_⟩; gi_at_call 64; refine (CallsIn.inRound l (callsIn_wide.2 (vlay_any_f _ Q g7 bi bs' nV area pre.length (V.bl.getD pre.length noT) _ ⟨_, _, _, _, _, _, rfl, HUx.out.pb⟩ HC2.out hi3 hs3 (by omega) hN1.1 (by omega)))).mono ?_; rintro e W2 ⟨v2, rfl, ⟨A3, n3, c3, B3, m3, d3, rfl, hf3, hP3⟩, hb2⟩; rw [← Hfq.out] at hP3 ⊢; have HU2 := Lib.hid (HUx.out.below hb2); have HP3 := Lib.hid hP3; have HT2 := Lib.hid ((TC.refl w gx X).below HUx.out.st.hb.size hb2); clear hb2 hP3 p0 p1 p2 p3 dd0; obtain ⟨p0, p1, p2, p3⟩ := two_cells HU2.out.st.gp; have x0 := rf_at HU2.out.hx 0 _ rfl; have x1 := rf_fr HU2.out.hx 0; have dd0 := rf_at HU2.out.st.gd 0 _ rfl; have dd1 := rf_fr HU2.out.st.gd 0)
          gi_wp2
          have ht1 := ((HT2.out.set (g := w.heap.size) (i := 0) (.inl (by omega)) (.slice A3 n3 c3)).set (g := w.heap.size) (i := 1) (.inl (by omega)) (.slice B3 m3 d3)).set (g := gx) (i := 0) (.inr ⟨rfl, by omega⟩) (.int .i64 er)
          have hsx := (HU2.out.st.setP (.slice A3 n3 c3) (.slice B3 m3 d3)).far (g := gx) (i := 0) (by omega) (.int .i64 er)
          have hx9 := blk_set (blk_oth (blk_oth HU2.out.hx (by omega) (.slice A3 n3 c3) (g := w.heap.size) (i := 0)) (by omega) (.slice B3 m3 d3) (g := w.heap.size) (i := 1)) 0 (.int .i64 er)
          obtain ⟨Y1, hY1⟩ : ∃ Y, Y = ((W2.setCell ⟨w.heap.size, 0, none⟩ (.slice A3 n3 c3)).setCell ⟨w.heap.size, 1, none⟩ (.slice B3 m3 d3)).setCell ⟨gx, 0, none⟩ (.int .i64 er) := ⟨_, rfl⟩
          rw [← hY1] at ht1 hsx hx9 ⊢
          clear hY1 p0 p1 p2 p3 x0 x1 dd0 dd1 r0 r1 r2 r3 b0 b1 e0 e1
          refine round_held (S := SE gx er) (by kernel_rfl) (by kernel_rfl) ?_
          change wpAnyH _ _ _ _ _ _ _ _ (Y1.drew)
          have hsd := hsx.below ((Below.refl _ _).drew)
          have htd := ht1.below hsx.hb.size ((Below.refl _ _).drew)
          have hS : SE gx er Y1.drew := rf_at hx9 0 _ rfl
          obtain ⟨Y2, hY2⟩ : ∃ Y, Y = Y1.drew := ⟨_, rfl⟩
          rw [← hY2] at hsd htd hS ⊢
          clear hY2 ht1 hsx hx9
          have Hsd := Lib.hid hsd
          have Htd := Lib.hid htd
          obtain ⟨r0, r1, r2, r3⟩ := two_cells hsd.gr
          have b0 := rf_at hsd.gb 0 _ rfl
          have b1 := rf_fr hsd.gb 0
          have e0 := rf_at hsd.ge 0 _ rfl
          have e1 := rf_fr hsd.ge 0
          clear hsd htd
          refine wpAnyH_take (i := 0) (v := .agg #[.slice none 0 0, .slice none 0 0]) rfl (by kernel_rfl) (by kernel_rfl) (by kernel_rfl) (fun _ _ _ h => h) (Or.inl ⟨by rfl, ?_⟩) hS ?_
          · intro W7 hSw
            unfold SE at hSw
            go_simp
          try simp only [Act.put, List.setIfInBounds_toArray, List.set_cons_zero, List.set_cons_succ]
          refine wpAnyH_take (i := 1) (v := .int .i64 er) rfl (by kernel_rfl) (by kernel_rfl) (by kernel_rfl) (fun _ _ _ h => h) (Or.inl ⟨by rfl, ?_⟩) hS ?_
          · intro W7 hSw
            unfold SE at hSw
            go_simp
          try simp only [Act.put, List.setIfInBounds_toArray, List.set_cons_zero, List.set_cons_succ]
          refine wpAnyH_ready (rs := [2]) (by kernel_rfl) (by simp) ?_
          refine AllReadyH.cons rfl (fun K hK => ?_) AllReadyH.nil
          go_simp
          refine hK.out _ _ ((hS.set (by omega) _).set (by omega) _) (fun hS' => ?_)
          clear hK K
          replace hS := hS'
          clear hS'
          try simp only [Act.put, List.setIfInBounds_toArray, List.set_cons_zero, List.set_cons_succ]
          refine wpAnyH_ready (rs := [3]) (by kernel_rfl) (by simp) ?_
          refine AllReadyH.cons rfl (fun K hK => ?_) AllReadyH.nil
          go_simp
          refine hK.out _ _ (hS.set (by omega) _) (fun hS' => ?_)
          clear hK K
          replace hS := hS'
          clear hS'
          try simp only [Act.put, List.setIfInBounds_toArray, List.set_cons_zero, List.set_cons_succ]
          refine wpAnyH_ready (rs := [4]) (by kernel_rfl) (by simp) ?_
          refine AllReadyH.cons rfl (fun K hK => ?_) AllReadyH.nil
          go_simp
          refine hK.out _ _ (hS.set (by omega) _) (fun hS' => ?_)
          clear hK K
          replace hS := hS'
          clear hS'
          try simp only [Act.put, List.setIfInBounds_toArray, List.set_cons_zero, List.set_cons_succ]
          refine wpAnyH_done (by kernel_rfl) ?_ _
          simp only [NormalQ]
          gi_wp2
          have HSt := Lib.hid (show storeP P V deeds = (noPlat, false, er) by
            have hr1 : runL ((deedV V nV area).take (pre.length + 1)) P = (noPlat, er) := by rw [deed_snoc hkN, runL_snoc _ _ _ _ Hrun.out, ← Hfq2.out, if_pos Her.out]
            rw [HE.out, ← HD.out, run_more (by omega) hr1 Her.out, endP, if_pos Her.out])
          have ht9 := (((Htd.out.set (g := w.heap.size + 1 + 1 + 1) (i := 0) (.inl (by omega)) (.slice none 0 0)).set (g := w.heap.size + 1 + 1 + 1) (i := 1) (.inl (by omega)) (.slice none 0 0)).set (g := w.heap.size + 1 + 1 + 1 + 1) (i := 0) (.inl (by omega)) (.bool false)).set (g := w.heap.size + 1 + 1 + 1 + 1 + 1) (i := 0) (.inl (by omega)) (.int .i64 er)
          refine ⟨ht9.keeps (by omega) (by omega), ⟨rfl, _, _, _, _, _, _, _, _, _, Hsd.out.setR _ _ _ _, ?_, ?_, ?_⟩⟩
          · rw [HSt.out]; exact PlF.no _ _
          · rw [HSt.out]
          · rw [HSt.out]

  case done =>
    rintro D' xs X hD' hxs hI hK
    obtain ⟨A4, n4, c4, B4, m4, d4, Q, hrun, hle, hf4, hsu⟩ := hI.ex
    rw [hxs] at hrun hle hsu
    rw [deedV_all (Nat.le_refl _)] at hrun
    have hrts : V.rt.size = 32 := (vol_parts hck).2.1
    obtain ⟨dd, hdd⟩ : ∃ dd, dd = ((D - (nV + 1) : Nat) : Int) := ⟨_, rfl⟩
    obtain ⟨hd, hhd⟩ : ∃ hd, hd = headS ((gen : Int) + 1) ((1 - area : Nat) : Int) V.rt := ⟨_, rfl⟩
    have HSt := Lib.hid (show storeP P V deeds = putP Q 0 hd dd by
      rw [HE.out, ← HD.out, deedV_all hle, hrun, endP, if_neg (by simp), if_neg (by show ¬ D < nV + 1; omega), hhd, hdd]
      rfl)
    have HHd := Lib.hid (fun W => vhead_any ((gen : Int) + 1) ((1 - area : Nat) : Int) V.rt W (by omega))
    rw [← hhd] at HHd
    rw [← hdd] at hsu
    have HPt := Lib.hid (fun W (hW : PB W A4 n4 B4 m4 Q) => put_any_f (.agg #[.slice A4 n4 c4, .slice B4 m4 d4]) Q 0 dd hd W ⟨_, _, _, _, _, _, rfl, hW⟩ (by omega))
    obtain ⟨r, hr⟩ : ∃ r, r = putP Q 0 hd dd := ⟨_, rfl⟩
    rw [← hr] at HSt HPt
    obtain ⟨rP, rb, re⟩ := r
    obtain ⟨hA1, hG1⟩ := hN1
    have hw3 : (1 : Int) - (area : Int) = ((1 - area : Nat) : Int) := by omega
    have hw : IntKind.i64.wrap ((1 - area : Nat) : Int) = ((1 - area : Nat) : Int) := IntWalk.i64_in _ (by omega)
    have hwg : IntKind.i64.wrap ((gen : Int) + 1) = (gen : Int) + 1 := IntWalk.i64_in _ (by omega)
    have K1 : KA ⟨w.heap.size, 0, none⟩ ⟨w.heap.size, 1, none⟩ ⟨gc, 1, none⟩ ⟨gc, 2, none⟩ ⟨w.heap.size + 1, 1, none⟩ ⟨w.heap.size + 1 + 1, 0, none⟩ (.slice A4 n4 c4) (.slice B4 m4 d4) (.int .i64 (area : Nat)) (.int .i64 (gen : Nat)) (.string V.rt) (.int .i64 dd) X :=
      ⟨⟨rf_at hsu.st.gp 0 _ rfl, rf_at hsu.st.gp 1 _ rfl⟩, ⟨rf_at hsu.hc 1 _ rfl, rf_at hsu.hc 2 _ rfl⟩, ⟨rf_at hsu.st.gv 1 _ rfl, rf_at hsu.st.gd 0 _ rfl⟩⟩
    have HUx := Lib.hid hsu
    have hZ : ∀ k, w.heap.size + 3 ≤ k → k < w.heap.size + 6 → k ≠ (⟨w.heap.size, 0, none⟩ : Addr).block ∧ k ≠ (⟨w.heap.size, 1, none⟩ : Addr).block ∧ k ≠ (⟨gc, 1, none⟩ : Addr).block ∧ k ≠ (⟨gc, 2, none⟩ : Addr).block ∧ k ≠ (⟨w.heap.size + 1, 1, none⟩ : Addr).block ∧ k ≠ (⟨w.heap.size + 1 + 1, 0, none⟩ : Addr).block := fun k h1 h2 => by
      dsimp only
      omega
    have z1 := hZ (w.heap.size + 1 + 1 + 1) (by omega) (by omega)
    have z2 := hZ (w.heap.size + 1 + 1 + 1 + 1) (by omega) (by omega)
    have z3 := hZ (w.heap.size + 1 + 1 + 1 + 1 + 1) (by omega) (by omega)
    have HK := Lib.hid hK
    clear hI hsu hrun hdd hhd hr hZ hK hrts
    simp only [Exit.then]
    go_upto_region 22 with fail
    go_region_held3 (fun W => (W.cell? ⟨w.heap.size, 0, none⟩ = some (.slice A4 n4 c4) ∧ W.cell? ⟨w.heap.size, 1, none⟩ = some (.slice B4 m4 d4)) ∧ (W.cell? ⟨gc, 1, none⟩ = some (.int .i64 (area : Nat)) ∧ W.cell? ⟨gc, 2, none⟩ = some (.int .i64 (gen : Nat))) ∧ (W.cell? ⟨w.heap.size + 1, 1, none⟩ = some (.string V.rt) ∧ W.cell? ⟨w.heap.size + 1 + 1, 0, none⟩ = some (.int .i64 dd)))
      (first | with_reducible assumption | with_reducible exact ka_drew K1 | with_reducible exact ka_set (ka_set Q10 z1 _) z1 _ | with_reducible exact ka_set (ka_set (ka_set Q10 z1 _) z1 _) z2 _ | with_reducible exact ka_set (ka_set (ka_set (ka_set Q10 z1 _) z1 _) z2 _) z3 _)
      (first
        | ((go_at_call 15; with_reducible refine (HHd.out _).mono ?_); rintro _ w9 ⟨rfl, hb9'⟩; have hb9 := Below.chain ((Below.refl _ X).drew) hb9'; have Q9 := ka_below (ka_drew K1) hb9'; clear hb9'; have HU9 := Lib.hid (HUx.out.below hb9); have HK9 := Lib.hid ((hb9.block D' (cell_lt_of HK.out)).trans HK.out))
        | ((go_at_call 22; with_reducible refine (HPt.out _ HU9.out.pb).mono ?_); rintro _ w10 ⟨v10, rfl, ⟨A5, n5, c5, B5, m5, d5, rfl, hf5, hP5⟩, hb10⟩; have Q10 := ka_below Q9 hb10; have HU10 := Lib.hid (HU9.out.below hb10); have HP5 := Lib.hid hP5; have hf6 := hf5.mono HU9.out.st.hb.size; have HK10 := Lib.hid ((hb10.block D' (cell_lt_of HK9.out)).trans HK9.out); clear hP5 hb10; obtain ⟨r0, r1, r2, r3⟩ := two_cells HU10.out.st.gr; have b0 := rf_at HU10.out.st.gb 0 _ rfl; have b1 := rf_fr HU10.out.st.gb 0; have e0 := rf_at HU10.out.st.ge 0 _ rfl; have e1 := rf_fr HU10.out.st.ge 0))
    all_goals
      have hlt9 : w8.heap.size ≤ D' := hD'
      go_wp2_with fail
      (try simp only [Exit.inBlock, Exit.then])
      rw [HSt.out]
      have g1 := HP5.out.two (A3 := A5) (n3 := n5) (c3 := c5) (B3 := B5) (m3 := m5) (d3 := d5) HU10.out.st.gr
      have g2 := g1.one (blk_oth (blk_oth HU10.out.st.gb (by omega) _) (by omega) _) (fun s h => by cases h) (.bool rb)
      have g3 := g2.one (blk_oth (blk_oth (blk_oth HU10.out.st.ge (by omega) _) (by omega) _) (by omega) _) (fun s h => by cases h) (.int .i64 re)
      exact ret_m (store_end_f (r := (rP, rb, re)) (HU10.out.st.setR _ _ _ _) ⟨_, _, _, _, _, _, rfl, hf6.two.two, g3⟩ rfl rfl [D'] (by simp) (fun k hk => by rw [List.mem_singleton] at hk; subst hk; exact ⟨by omega, blk_oth (blk_oth (blk_oth (blk_oth HK10.out (by omega) _) (by omega) _) (by omega) _) (by omega) _⟩) _ (by rfl) (by rfl) (by rfl))
  case stop =>
    rintro D' cd pre X hD' _ hX hK
    obtain ⟨rfl, p0, p1, v0, v1, D2, r0, r1, z, x, h2, h3, h4, h5⟩ := hX.ex
    gi_wp2
    exact ret_m (store_end_f h2 h3 h4 h5 [D'] (by simp) (fun k hk => by rw [List.mem_singleton] at hk; subst hk; exact ⟨by omega, hK⟩) _ (by rfl) (by rfl) (by rfl))
end

/- VaultDoes -/
section
open Go.RowKit
set_option linter.unusedVariables false
set_option linter.unusedSimpArgs false
set_option maxRecDepth 100000
set_option maxHeartbeats 32000000

def smudgeT : ByteArray := ⟨#[115, 109, 117, 100, 103, 101]⟩
theorem rdf_cell {w : World} {A : Option Addr} {l : List ByteArray} {B0 : Nat} (h : Rd w A (textsV l)) (hf : FrA B0 w A) {k : Nat} (hk : k < l.length) : ∃ b off, A = some ⟨b, off, none⟩ ∧ B0 ≤ b ∧ b < w.heap.size ∧ w.cell? ⟨b, off + k, none⟩ = some (.string l[k]) ∧ w.frozen? ⟨b, off + k, none⟩ = false := by
  obtain ⟨b, off, hA, hc⟩ := texts_at h hk
  obtain ⟨h1, cs, t, h2⟩ := hf b off none hA
  exact ⟨b, off, hA, h1, cell_lt_of h2, hc, frozen_of_row w b (off + k) cs t h2⟩
theorem vaultDoes_law (v : Value) (P : Plat) (hlp : P.ss.length ≤ maxLen) (hlc : P.cs.length ≤ maxLen) (vv : Value) (V : Vol) (hvl : V.bl.length ≤ maxLen) (deeds n0 gen0 area0 : Int) (root : ByteArray) (_ : root.size ≤ maxLen) (w : World) (hT : Turns w) (hR : Rounds w) (h : PlV w v P) (hv : VV w vv V) :
    Calls Tryz.prog 3 #[v, vv, .int .i64 deeds, .int .i64 n0, .int .i64 gen0, .int .i64 area0, .string root] w fun e w' => e = .returned (.bool true) ∧ Below w.heap.size w w' := by
  have HV0 := Lib.hid hv
  obtain ⟨A, n, c, B, m, d, rfl, h⟩ := h
  obtain ⟨AV, nV, cV, rfl, hrv, hnV⟩ := hv
  obtain ⟨x1, x2, kb, ksz⟩ := va_al2 w (.cells #[.slice A n c, .slice B m d] 25) (.cells #[.slice AV nV cV, .string V.rt] 27)
  have Hp0 := Lib.hid h
  have HR := Lib.hid hR
  have HT := Lib.hid hT
  have HB := Lib.hid kb
  have HX := Lib.hid x1
  have HY := Lib.hid x2
  have HN := Lib.hid (And.intro h.hn h.hm)
  have HFa := Lib.hid (fun W hP hV => far26_lt A B n c m d P (.agg #[.slice AV nV cV, .string V.rt]) V W hP (by rw [h.hn]; exact hlp) (by rw [h.hm]; exact hlc) hV hvl)
  have HVs := Lib.hid (fun W h1 h2 => vaults_any W h1 h2)
  obtain ⟨a0, a1⟩ := vtwo_cells x1
  obtain ⟨b0, b1⟩ := vtwo_cells x2
  have HPx := Lib.hid (fun W (hb : Below w.heap.size w W) => show PlV W (.agg #[.slice A n c, .slice B m d]) P from ⟨_, _, _, _, _, _, rfl, Hp0.out.below hb⟩)
  have HVx := Lib.hid (fun W (hb : Below w.heap.size w W) => HV0.out.below hb)
  obtain ⟨w0, hw0⟩ : ∃ w0, w0 = ((w.alloc (.cells #[.slice A n c, .slice B m d] 25)).alloc (.cells #[.slice AV nV cV, .string V.rt] 27)) := ⟨_, rfl⟩
  have Hw0 := Lib.hid hw0
  rw [← hw0] at HB HX HY a0 a1 b0 b1
  clear h hrv hnV x1 x2 kb ksz hlp hlc hvl hR hT hw0
  go_enter Tryz.func3, Tryz.ntmps3
  go_upto_region 1 with fail
  rw [← Hw0.out]
  clear Hw0
  go_cut [49] from 34 to 48 (fun v49 wc => ∃ b, v49 = .bool b ∧ (b = false → root.size ≤ 100 ∧ n ≤ 300 ∧ m ≤ 200 ∧ V.bl.length ≤ 100) ∧ Below w0.heap.size w0 wc)
  case first =>
    go_wp2_with fail
    refine (HFa.out _ (Hp0.out.below HB.out) (HVx.out _ HB.out)).mono ?_
    rintro e w1 ⟨b, rfl, hlt, hb⟩
    have Hlt := Lib.hid hlt
    have HBc := Lib.hid hb
    clear hb hlt a0 a1 b0 b1
    cases b with
    | true =>
      go_wp2_with fail
      go_meet
      case rel => exact ⟨true, rfl, (fun h => Bool.noConfusion h), HBc.out⟩
    | false =>
    have hlt := Hlt.out (by trivial)
    have HLt := Lib.hid hlt
    clear Hlt hlt
    by_cases h100 : (100 : Int) < (root.size : Int)
    · have d3 : decide ((root.size : Int) > 100) = true := decide_eq_true h100
      by_cases h8 : (8 : Int) < n0
      · have d1 : decide (n0 > 8) = true := decide_eq_true h8
        by_cases h64 : n0 ≤ 64
        · have d2 : decide (n0 ≤ 64) = true := decide_eq_true h64
          go_wp2_with fail
          go_meet
          case rel => exact ⟨true, rfl, (fun h => Bool.noConfusion h), HBc.out⟩
        · have d2 : decide (n0 ≤ 64) = false := decide_eq_false h64
          go_wp2_with fail
          go_meet
          case rel => exact ⟨true, rfl, (fun h => Bool.noConfusion h), HBc.out⟩
      · have d1 : decide (n0 > 8) = false := decide_eq_false h8
        go_wp2_with fail
        go_meet
        case rel => exact ⟨true, rfl, (fun h => Bool.noConfusion h), HBc.out⟩
    · have d3 : decide ((root.size : Int) > 100) = false := decide_eq_false h100
      have hr100 : root.size ≤ 100 := by omega
      by_cases h8 : (8 : Int) < n0
      · have d1 : decide (n0 > 8) = true := decide_eq_true h8
        by_cases h64 : n0 ≤ 64
        · have d2 : decide (n0 ≤ 64) = true := decide_eq_true h64
          go_wp2_with fail
          go_meet
          case rel => exact ⟨true, rfl, (fun h => Bool.noConfusion h), HBc.out⟩
        · have d2 : decide (n0 ≤ 64) = false := decide_eq_false h64
          go_wp2_with fail
          go_meet
          case rel => exact ⟨false, rfl, (fun _ => ⟨hr100, HLt.out.1, HLt.out.2.1, HLt.out.2.2⟩), HBc.out⟩
      · have d1 : decide (n0 > 8) = false := decide_eq_false h8
        go_wp2_with fail
        go_meet
        case rel => exact ⟨false, rfl, (fun _ => ⟨hr100, HLt.out.1, HLt.out.2.1, HLt.out.2.2⟩), HBc.out⟩
  case rest =>
  obtain ⟨b, rfl, hlt, hbc⟩ := hcut
  rename World => w1
  replace HX := hblk_below HX hbc
  replace HY := hblk_below HY hbc
  replace HB := Lib.hid (HB.out.trans (hbc.mono HB.out.size))
  clear hbc a0 a1 b0 b1 HFa
  obtain ⟨a0, a1⟩ := vtwo_cells HX.out
  obtain ⟨b0, b1⟩ := vtwo_cells HY.out
  cases b with
  | true =>
    go_wp2_with fail
    go_ret
    exact ⟨rfl, HB.out⟩
  | false =>
  obtain ⟨hr100, hn300, hm200, hv100⟩ := hlt rfl
  clear hlt
  have hps : P.ss.length ≤ 300 := by rw [← HN.out.1]; exact hn300
  have hpc : P.cs.length ≤ 200 := by rw [← HN.out.2]; exact hm200
  have HOw := Lib.hid (fun W hW => own13_any A B n c m d P W hW (by omega) (by omega))
  have HFz := Lib.hid (fun W h => vformatZ_any n0 W h)
  have HFr := Lib.hid (fun W => format26_any n0 W)
  obtain ⟨fz, hfz⟩ : ∃ fz, fz = formatZ n0 := ⟨_, rfl⟩
  have hfl : fz.1.ss.length ≤ 100000 ∧ fz.1.cs.length ≤ 100000 := by rw [hfz]; exact formatZ_len n0
  rw [← hfz] at HFz HFr
  obtain ⟨FP, fe⟩ := fz
  have HLd := Lib.hid (fun W hP h2 => vload_any (.agg #[.slice A n c, .slice B m d]) P W hP (by unfold maxLen; omega) h2)
  have HLr := Lib.hid (fun W v hP => load26r_any v P W hP (by unfold maxLen; omega) (by unfold maxLen; omega))
  obtain ⟨op, hop⟩ : ∃ op, op = openP P := ⟨_, rfl⟩
  have hol : op.1.V.bl.length ≤ 100000 := by rw [hop]; exact open_len P
  rw [← hop] at HLd HLr
  obtain ⟨⟨N, gen, area, ⟨obl, ort⟩⟩, oe⟩ := op
  simp only at hol
  have HSt := Lib.hid (fun W hP hV h2 => vstore_any_f (.agg #[.slice A n c, .slice B m d]) (.agg #[.slice AV nV cV, .string V.rt]) P V deeds W hP hV (by unfold maxLen; omega) (by unfold maxLen; omega) h2)
  have HSr := Lib.hid (fun W v hP hV => store26_any v (.agg #[.slice AV nV cV, .string V.rt]) P V deeds W hP hV (by omega) (by omega) (by omega))
  obtain ⟨st, hst⟩ : ∃ st, st = storeP P V deeds := ⟨_, rfl⟩
  have hsl : st.1.ss.length ≤ 100000 ∧ st.1.cs.length ≤ 100000 := by rw [hst]; exact store_len P V deeds
  rw [← hst] at HSt HSr
  obtain ⟨SP, sdone, se⟩ := st
  simp only at hfl hsl
  clear hfz hop hst
  go_wp2_with fail
  refine (HOw.out _ (Hp0.out.below HB.out)).mono ?_
  rintro e w2 ⟨A1, c1, B1, d1, rfl, hO, hb⟩
  have al := (Below.refl w2.heap.size w2).alloc (Nat.le_refl _) (.cells #[.slice A1 n c1, .slice B1 m d1] 25)
  have hbb := Below.chain hb al
  have hg := heap_alloc_new w2 (.cells #[.slice A1 n c1, .slice B1 m d1] 25)
  have HX := hblk_below HX hbb
  have HY := hblk_below HY hbb
  have HX15 := Lib.hid (hg)
  have HP15 := Lib.hid ((show PlV _ (.agg #[.slice A1 n c1, .slice B1 m d1]) P from ⟨_, _, _, _, _, _, rfl, PB.below (hO.pb) al⟩))
  have HB := Lib.hid (HB.out.trans (hbb.mono HB.out.size))
  obtain ⟨u2, hu⟩ : ∃ u, u = w2.alloc (.cells #[.slice A1 n c1, .slice B1 m d1] 25) := ⟨_, rfl⟩
  have Hu := Lib.hid hu
  rw [← hu] at HX HY HX15 HP15 HB
  clear hu al hbb hb hg a0 a1 b0 b1
  go_upto_region 4 with fail
  rw [← Hu.out]
  clear Hu
  generalize hG1 : w2.heap.size = G1 at *
  clear hG1
  obtain ⟨a0, a1⟩ := vtwo_cells HX.out
  obtain ⟨b0, b1⟩ := vtwo_cells HY.out
  go_wp2_with fail
  refine (HFz.out _ (HR.out.below HB.out)).mono ?_
  rintro e w3 ⟨v2, rfl, ⟨A2, n2, c2, B2, m2, d2, rfl, hP2⟩, hb⟩
  simp only at hP2 ⊢
  have al := (Below.refl w3.heap.size w3).alloc (Nat.le_refl _) (.cells #[.slice A2 n2 c2, .slice B2 m2 d2] 25)
  have hbb := Below.chain hb al
  have hg := heap_alloc_new w3 (.cells #[.slice A2 n2 c2, .slice B2 m2 d2] 25)
  have HX := hblk_below HX hbb
  have HY := hblk_below HY hbb
  have HX15 := hblk_below HX15 hbb
  have HP15 := Lib.hid (HP15.out.below hbb)
  have HX16 := Lib.hid (hg)
  have HP16 := Lib.hid ((show PlV _ (.agg #[.slice A2 n2 c2, .slice B2 m2 d2]) FP from ⟨_, _, _, _, _, _, rfl, PB.below (show PB _ A2 n2 B2 m2 FP from hP2) al⟩))
  have HB := Lib.hid (HB.out.trans (hbb.mono HB.out.size))
  obtain ⟨u3, hu⟩ : ∃ u, u = w3.alloc (.cells #[.slice A2 n2 c2, .slice B2 m2 d2] 25) := ⟨_, rfl⟩
  have Hu := Lib.hid hu
  rw [← hu] at HX HY HX15 HP15 HX16 HP16 HB
  clear hu al hbb hb hg a0 a1 b0 b1
  go_upto_region 5 with fail
  rw [← Hu.out]
  clear Hu
  generalize hG2 : w3.heap.size = G2 at *
  clear hG2
  obtain ⟨a0, a1⟩ := vtwo_cells HX.out
  obtain ⟨b0, b1⟩ := vtwo_cells HY.out
  go_wp2_with fail
  refine (HFr.out _).mono ?_
  rintro e w4 ⟨v3, rfl, ⟨A3, n3, c3, B3, m3, d3, rfl, hP3⟩, hb⟩
  simp only at hP3 ⊢
  have al := (Below.refl w4.heap.size w4).alloc (Nat.le_refl _) (.cells #[.slice A3 n3 c3, .slice B3 m3 d3] 25)
  have hbb := Below.chain hb al
  have hg := heap_alloc_new w4 (.cells #[.slice A3 n3 c3, .slice B3 m3 d3] 25)
  have HX := hblk_below HX hbb
  have HY := hblk_below HY hbb
  have HX15 := hblk_below HX15 hbb
  have HP15 := Lib.hid (HP15.out.below hbb)
  have HX16 := hblk_below HX16 hbb
  have HP16 := Lib.hid (HP16.out.below hbb)
  have HX18 := Lib.hid (hg)
  have HP18 := Lib.hid ((show PlV _ (.agg #[.slice A3 n3 c3, .slice B3 m3 d3]) FP from ⟨_, _, _, _, _, _, rfl, PB.below (show PB _ A3 n3 B3 m3 FP from hP3) al⟩))
  have HB := Lib.hid (HB.out.trans (hbb.mono HB.out.size))
  obtain ⟨u4, hu⟩ : ∃ u, u = w4.alloc (.cells #[.slice A3 n3 c3, .slice B3 m3 d3] 25) := ⟨_, rfl⟩
  have Hu := Lib.hid hu
  rw [← hu] at HX HY HX15 HP15 HX16 HP16 HX18 HP18 HB
  clear hu al hbb hb hg a0 a1 b0 b1
  go_upto_region 6 with fail
  rw [← Hu.out]
  clear Hu
  generalize hG3 : w4.heap.size = G3 at *
  clear hG3
  obtain ⟨a0, a1⟩ := vtwo_cells HX.out
  obtain ⟨b0, b1⟩ := vtwo_cells HY.out
  go_wp2_with fail
  refine (HLd.out _ (HPx.out _ HB.out) (HR.out.below HB.out)).mono ?_
  rintro e w5 ⟨A4, c4, rfl, ⟨hr4, -⟩, hb⟩
  simp only at hr4 ⊢
  have al := (Below.refl w5.heap.size w5).alloc (Nat.le_refl _) (.cells #[.slice A4 obl.length c4, .string ort] 27)
  have hbb := Below.chain hb al
  have hg := heap_alloc_new w5 (.cells #[.slice A4 obl.length c4, .string ort] 27)
  have HX := hblk_below HX hbb
  have HY := hblk_below HY hbb
  have HX15 := hblk_below HX15 hbb
  have HP15 := Lib.hid (HP15.out.below hbb)
  have HX16 := hblk_below HX16 hbb
  have HP16 := Lib.hid (HP16.out.below hbb)
  have HX18 := hblk_below HX18 hbb
  have HP18 := Lib.hid (HP18.out.below hbb)
  have HX20 := Lib.hid (hg)
  have HV20 := Lib.hid ((show VV _ (.agg #[.slice A4 obl.length c4, .string ort]) ⟨obl, ort⟩ from ⟨A4, _, c4, rfl, Rd.below (show Rd _ A4 (textsV obl) from hr4) al, rfl⟩))
  have HB := Lib.hid (HB.out.trans (hbb.mono HB.out.size))
  obtain ⟨u5, hu⟩ : ∃ u, u = w5.alloc (.cells #[.slice A4 obl.length c4, .string ort] 27) := ⟨_, rfl⟩
  have Hu := Lib.hid hu
  rw [← hu] at HX HY HX15 HP15 HX16 HP16 HX18 HP18 HX20 HV20 HB
  clear hu al hbb hb hg a0 a1 b0 b1
  go_upto_region 7 with fail
  rw [← Hu.out]
  clear Hu
  generalize hG4 : w5.heap.size = G4 at *
  clear hG4
  obtain ⟨a0, a1⟩ := vtwo_cells HX15.out
  obtain ⟨b0, b1⟩ := vtwo_cells HY.out
  go_wp2_with fail
  refine (HLr.out _ _ HP15.out).mono ?_
  rintro e w6 ⟨A5, c5, rfl, ⟨hr5, -⟩, hb⟩
  simp only at hr5 ⊢
  have al := (Below.refl w6.heap.size w6).alloc (Nat.le_refl _) (.cells #[.slice A5 obl.length c5, .string ort] 27)
  have hbb := Below.chain hb al
  have hg := heap_alloc_new w6 (.cells #[.slice A5 obl.length c5, .string ort] 27)
  have HX := hblk_below HX hbb
  have HY := hblk_below HY hbb
  have HX15 := hblk_below HX15 hbb
  have HP15 := Lib.hid (HP15.out.below hbb)
  have HX16 := hblk_below HX16 hbb
  have HP16 := Lib.hid (HP16.out.below hbb)
  have HX18 := hblk_below HX18 hbb
  have HP18 := Lib.hid (HP18.out.below hbb)
  have HX20 := hblk_below HX20 hbb
  have HV20 := Lib.hid (HV20.out.below hbb)
  have HX23 := Lib.hid (hg)
  have HV23 := Lib.hid ((show VV _ (.agg #[.slice A5 obl.length c5, .string ort]) ⟨obl, ort⟩ from ⟨A5, _, c5, rfl, Rd.below (show Rd _ A5 (textsV obl) from hr5) al, rfl⟩))
  have HB := Lib.hid (HB.out.trans (hbb.mono HB.out.size))
  obtain ⟨u6, hu⟩ : ∃ u, u = w6.alloc (.cells #[.slice A5 obl.length c5, .string ort] 27) := ⟨_, rfl⟩
  have Hu := Lib.hid hu
  rw [← hu] at HX HY HX15 HP15 HX16 HP16 HX18 HP18 HX20 HV20 HX23 HV23 HB
  clear hu al hbb hb hg a0 a1 b0 b1
  go_upto_region 8 with fail
  rw [← Hu.out]
  clear Hu
  generalize hG5 : w6.heap.size = G5 at *
  clear hG5
  have KX := HX
  have KX15 := HX15
  have KP15 := HP15
  have KB := HB
  obtain ⟨wS, hwS⟩ : ∃ wS, wS = u6 := ⟨_, rfl⟩
  subst hwS
  obtain ⟨a0, a1⟩ := vtwo_cells HX.out
  obtain ⟨b0, b1⟩ := vtwo_cells HY.out
  go_wp2_with fail
  refine (HSt.out _ (HPx.out _ HB.out) (HVx.out _ HB.out) (HR.out.below HB.out)).mono ?_
  rintro e w7 ⟨v6, rfl, ⟨A6, n6, c6, B6, m6, d6, rfl, hf6, hP6⟩, hb⟩
  simp only at hP6 ⊢
  have HNe := Lib.hid (show ∀ b off s, A6 = some ⟨b, off, s⟩ → b ≠ w7.heap.size from fun b off s e => by
    obtain ⟨_, cs, t, h⟩ := hf6 b off s e
    exact Nat.ne_of_lt (cell_lt_of h))
  have al := (Below.refl w7.heap.size w7).alloc (Nat.le_refl _) (.cells #[.slice A6 n6 c6, .slice B6 m6 d6] 25)
  have hbb := Below.chain hb al
  have hg := heap_alloc_new w7 (.cells #[.slice A6 n6 c6, .slice B6 m6 d6] 25)
  have HX := hblk_below HX hbb
  have HY := hblk_below HY hbb
  have HX15 := hblk_below HX15 hbb
  have HP15 := Lib.hid (HP15.out.below hbb)
  have HX16 := hblk_below HX16 hbb
  have HP16 := Lib.hid (HP16.out.below hbb)
  have HX18 := hblk_below HX18 hbb
  have HP18 := Lib.hid (HP18.out.below hbb)
  have HX20 := hblk_below HX20 hbb
  have HV20 := Lib.hid (HV20.out.below hbb)
  have HX23 := hblk_below HX23 hbb
  have HV23 := Lib.hid (HV23.out.below hbb)
  have HX26 := Lib.hid (hg)
  have HP26 := Lib.hid ((show PlV _ (.agg #[.slice A6 n6 c6, .slice B6 m6 d6]) SP from ⟨_, _, _, _, _, _, rfl, PB.below (show PB _ A6 n6 B6 m6 SP from hP6) al⟩))
  have HF26 := Lib.hid (hf6.below al)
  have HQ26 := Lib.hid ((PB.below (show PB _ A6 n6 B6 m6 SP from hP6) al))
  have HB68 := Lib.hid hbb
  have HB := Lib.hid (HB.out.trans (hbb.mono HB.out.size))
  obtain ⟨u7, hu⟩ : ∃ u, u = w7.alloc (.cells #[.slice A6 n6 c6, .slice B6 m6 d6] 25) := ⟨_, rfl⟩
  have Hu := Lib.hid hu
  rw [← hu] at HX HY HX15 HP15 HX16 HP16 HX18 HP18 HX20 HV20 HX23 HV23 HX26 HP26 HF26 HQ26 HB68 HB
  clear hu al hbb hb hg a0 a1 b0 b1
  go_upto_region 9 with fail
  rw [← Hu.out]
  clear Hu
  generalize hG6 : w7.heap.size = G26 at *
  clear hG6
  obtain ⟨a0, a1⟩ := vtwo_cells HX15.out
  obtain ⟨b0, b1⟩ := vtwo_cells HY.out
  go_wp2_with fail
  refine (HSr.out _ _ HP15.out (HVx.out _ HB.out)).mono ?_
  rintro e w8 ⟨v7, rfl, ⟨A7, n7, c7, B7, m7, d7, rfl, hP7⟩, hb⟩
  simp only at hP7 ⊢
  have al := (Below.refl w8.heap.size w8).alloc (Nat.le_refl _) (.cells #[.slice A7 n7 c7, .slice B7 m7 d7] 25)
  have hbb := Below.chain hb al
  have hg := heap_alloc_new w8 (.cells #[.slice A7 n7 c7, .slice B7 m7 d7] 25)
  have HX := hblk_below HX hbb
  have HY := hblk_below HY hbb
  have HX15 := hblk_below HX15 hbb
  have HP15 := Lib.hid (HP15.out.below hbb)
  have HX16 := hblk_below HX16 hbb
  have HP16 := Lib.hid (HP16.out.below hbb)
  have HX18 := hblk_below HX18 hbb
  have HP18 := Lib.hid (HP18.out.below hbb)
  have HX20 := hblk_below HX20 hbb
  have HV20 := Lib.hid (HV20.out.below hbb)
  have HX23 := hblk_below HX23 hbb
  have HV23 := Lib.hid (HV23.out.below hbb)
  have HX26 := hblk_below HX26 hbb
  have HP26 := Lib.hid (HP26.out.below hbb)
  have HF26 := Lib.hid (HF26.out.below hbb)
  have HQ26 := Lib.hid (HQ26.out.below hbb)
  have HB68 := Lib.hid (HB68.out.trans (hbb.mono HB68.out.size))
  have HX29 := Lib.hid (hg)
  have HP29 := Lib.hid ((show PlV _ (.agg #[.slice A7 n7 c7, .slice B7 m7 d7]) SP from ⟨_, _, _, _, _, _, rfl, PB.below (show PB _ A7 n7 B7 m7 SP from hP7) al⟩))
  have HB := Lib.hid (HB.out.trans (hbb.mono HB.out.size))
  obtain ⟨u8, hu⟩ : ∃ u, u = w8.alloc (.cells #[.slice A7 n7 c7, .slice B7 m7 d7] 25) := ⟨_, rfl⟩
  have Hu := Lib.hid hu
  rw [← hu] at HX HY HX15 HP15 HX16 HP16 HX18 HP18 HX20 HV20 HX23 HV23 HX26 HP26 HF26 HQ26 HB68 HX29 HP29 HB
  clear hu al hbb hb hg a0 a1 b0 b1
  go_upto_region 10 with fail
  rw [← Hu.out]
  clear Hu
  generalize hG7 : w8.heap.size = G7 at *
  clear hG7
  have e1 : ((fe : Int) == (fe : Int)) = true := beq_self_eq_true _
  have e2 : ((gen : Int) == (gen : Int)) = true := beq_self_eq_true _
  have e3 : ((oe : Int) == (oe : Int)) = true := beq_self_eq_true _
  have e4 : (sdone == sdone) = true := beq_self_eq_true _
  have e5 : ((se : Int) == (se : Int)) = true := beq_self_eq_true _
  have hsv : sameV ⟨obl, ort⟩ ⟨obl, ort⟩ = true := sameV_true.2 rfl
  have HSm := Lib.hid (fun W h1 h2 => same16_any (.agg #[.slice A4 obl.length c4, .string ort]) (.agg #[.slice A5 obl.length c5, .string ort]) ⟨obl, ort⟩ ⟨obl, ort⟩ W h1 h2 hol)
  rw [hsv] at HSm
  clear hsv
  obtain ⟨a0, a1⟩ := vtwo_cells HX16.out
  obtain ⟨b0, b1⟩ := vtwo_cells HX18.out
  go_wp2_with fail
  refine (same13_any _ _ FP _ HP16.out HP18.out hfl.1 hfl.2).mono ?_
  rintro e w20 ⟨rfl, hb⟩
  have HX := hblk_below HX hb
  have HY := hblk_below HY hb
  have HX15 := hblk_below HX15 hb
  have HP15 := Lib.hid (HP15.out.below hb)
  have HX16 := hblk_below HX16 hb
  have HP16 := Lib.hid (HP16.out.below hb)
  have HX18 := hblk_below HX18 hb
  have HP18 := Lib.hid (HP18.out.below hb)
  have HX20 := hblk_below HX20 hb
  have HV20 := Lib.hid (HV20.out.below hb)
  have HX23 := hblk_below HX23 hb
  have HV23 := Lib.hid (HV23.out.below hb)
  have HX26 := hblk_below HX26 hb
  have HP26 := Lib.hid (HP26.out.below hb)
  have HF26 := Lib.hid (HF26.out.below hb)
  have HQ26 := Lib.hid (HQ26.out.below hb)
  have HX29 := hblk_below HX29 hb
  have HP29 := Lib.hid (HP29.out.below hb)
  have HB := Lib.hid (HB.out.trans (hb.mono HB.out.size))
  have HB68 := Lib.hid (HB68.out.trans (hb.mono HB68.out.size))
  clear hb a0 a1 b0 b1
  obtain ⟨a0, a1⟩ := vtwo_cells HX20.out
  obtain ⟨b0, b1⟩ := vtwo_cells HX23.out
  go_wp2_with fail
  refine (HSm.out _ HV20.out HV23.out).mono ?_
  rintro e w21 ⟨rfl, hb⟩
  have HX := hblk_below HX hb
  have HY := hblk_below HY hb
  have HX15 := hblk_below HX15 hb
  have HP15 := Lib.hid (HP15.out.below hb)
  have HX16 := hblk_below HX16 hb
  have HP16 := Lib.hid (HP16.out.below hb)
  have HX18 := hblk_below HX18 hb
  have HP18 := Lib.hid (HP18.out.below hb)
  have HX20 := hblk_below HX20 hb
  have HV20 := Lib.hid (HV20.out.below hb)
  have HX23 := hblk_below HX23 hb
  have HV23 := Lib.hid (HV23.out.below hb)
  have HX26 := hblk_below HX26 hb
  have HP26 := Lib.hid (HP26.out.below hb)
  have HF26 := Lib.hid (HF26.out.below hb)
  have HQ26 := Lib.hid (HQ26.out.below hb)
  have HX29 := hblk_below HX29 hb
  have HP29 := Lib.hid (HP29.out.below hb)
  have HB := Lib.hid (HB.out.trans (hb.mono HB.out.size))
  have HB68 := Lib.hid (HB68.out.trans (hb.mono HB68.out.size))
  clear hb a0 a1 b0 b1
  obtain ⟨a0, a1⟩ := vtwo_cells HX26.out
  obtain ⟨b0, b1⟩ := vtwo_cells HX29.out
  go_wp2_with fail
  refine (same13_any _ _ SP _ HP26.out HP29.out hsl.1 hsl.2).mono ?_
  rintro e w22 ⟨rfl, hb⟩
  have HX := hblk_below HX hb
  have HY := hblk_below HY hb
  have HX15 := hblk_below HX15 hb
  have HP15 := Lib.hid (HP15.out.below hb)
  have HX16 := hblk_below HX16 hb
  have HP16 := Lib.hid (HP16.out.below hb)
  have HX18 := hblk_below HX18 hb
  have HP18 := Lib.hid (HP18.out.below hb)
  have HX20 := hblk_below HX20 hb
  have HV20 := Lib.hid (HV20.out.below hb)
  have HX23 := hblk_below HX23 hb
  have HV23 := Lib.hid (HV23.out.below hb)
  have HX26 := hblk_below HX26 hb
  have HP26 := Lib.hid (HP26.out.below hb)
  have HF26 := Lib.hid (HF26.out.below hb)
  have HQ26 := Lib.hid (HQ26.out.below hb)
  have HX29 := hblk_below HX29 hb
  have HP29 := Lib.hid (HP29.out.below hb)
  have HB := Lib.hid (HB.out.trans (hb.mono HB.out.size))
  have HB68 := Lib.hid (HB68.out.trans (hb.mono HB68.out.size))
  clear hb a0 a1 b0 b1
  have hn6 : n6 = SP.ss.length := HQ26.out.hn
  have hn69 : n6 ≤ 100000 := by rw [hn6]; exact hsl.1
  have HBox := Lib.hid (show 0 < n6 → ∃ b off cs t, A6 = some ⟨b, off, none⟩ ∧ b ≠ G26 ∧ wS.heap.size ≤ b ∧ w22.heap[b]? = some (.cells cs t (0, 0)) ∧ off + n6 ≤ cs.size from fun h0 => by
    obtain ⟨b, off, hA, hle, hlt, hc, hf⟩ := rdf_cell HQ26.out.rs HF26.out (k := n6 - 1) (by omega)
    obtain ⟨_, cs, t, hbk⟩ := HF26.out b off none hA
    refine ⟨b, off, cs, t, hA, HNe.out b off none hA, hle, hbk, ?_⟩
    rw [cell_of_row w22 b _ cs t (0, 0) hbk] at hc
    have := (Array.getElem?_eq_some_iff.1 hc).1
    omega)
  have HX26z := HX26
  go_wp2_with fail
  go_loopw [33] (fun x wr => ∃ k : Nat, k ≤ n6 ∧ x = .int .i64 (k : Nat) ∧ wr.heap[G26]? = some (.cells #[.slice A6 n6 c6, .slice B6 m6 d6] 25 (0, 0)) ∧ (k < n6 → ∃ b off cs t, A6 = some ⟨b, off, none⟩ ∧ b ≠ G26 ∧ wS.heap.size ≤ b ∧ wr.heap[b]? = some (.cells cs t (0, 0)) ∧ off + n6 ≤ cs.size) ∧ Below wS.heap.size wS wr) (fun x _ => n6 - (intOf x).toNat)
  case atStart => exact ⟨0, by omega, rfl, HX26z.out, HBox.out, HB68.out⟩
  case round =>
    obtain ⟨k, hk, rfl, hg26, hbox, hW⟩ := hrel
    have HG := Lib.hid hg26
    have HW := Lib.hid hW
    have HBx := Lib.hid hbox
    obtain ⟨a0, a1⟩ := vtwo_cells hg26
    clear hg26 hW hbox
    by_cases hlt : k < n6
    · have e6 : (k : Int) < (n6 : Int) := by omega
      obtain ⟨b, off, cs, t, hA, hne, hle, hbk, hsz⟩ := HBx.out hlt
      subst hA
      have hcell : wr.cell? ⟨b, off + k, none⟩ = some cs[off + k] := by rw [cell_of_row wr b _ cs t (0, 0) hbk]; simp
      have hfr := frozen_of_row wr b (off + k) cs t hbk
      have Hbk := Lib.hid hbk
      have Hne := Lib.hid hne
      generalize cs[off + k]'(by omega) = old at hcell
      clear hbk hne HBx HBox
      go_wp2_with fail
      go_roundw
      case rel =>
        refine ⟨k + 1, by omega, by go_num, blk_oth HG.out Hne.out.symm _, fun _ => ⟨b, off, _, t, rfl, Hne.out, hle, blk_set Hbk.out (off + k) (.string smudgeT), by simp; omega⟩, HW.out.trans (by_set hle _)⟩
      case measure => simp [intOf]; omega
    · obtain rfl : k = n6 := by omega
      have e6 : ¬ (k : Int) < (k : Int) := by omega
      have FX := hblk_below KX HW.out
      have FX15 := hblk_below KX15 HW.out
      have FP15 := Lib.hid (KP15.out.below HW.out)
      have FB := Lib.hid (KB.out.trans (HW.out.mono KB.out.size))
      have HHd := Lib.hid (fun W => vhead_any gen0 area0 root W (by omega))
      have HHr := Lib.hid (fun W => head26_any gen0 area0 root W (by omega))
      generalize headS gen0 area0 root = hds at HHd HHr
      have e7 : (hds.toList == hds.toList) = true := beq_self_eq_true _
      clear HBx HBox
      go_wp2_with fail
      refine (HVs.out _ (HR.out.below FB.out) (HT.out.below FB.out)).mono ?_
      rintro e w30 ⟨rfl, hb⟩
      have FX := hblk_below FX hb
      have FX15 := hblk_below FX15 hb
      have FP15 := Lib.hid (FP15.out.below hb)
      have FB := Lib.hid (FB.out.trans (hb.mono FB.out.size))
      clear hb a0 a1
      obtain ⟨a0, a1⟩ := vtwo_cells FX.out
      obtain ⟨b0, b1⟩ := vtwo_cells FX15.out
      go_wp2_with fail
      refine (same13_any _ _ P _ (HPx.out _ FB.out) FP15.out (by omega) (by omega)).mono ?_
      rintro e w31 ⟨rfl, hb⟩
      have FB := Lib.hid (FB.out.trans (hb.mono FB.out.size))
      clear hb a0 a1 b0 b1
      go_wp2_with fail
      refine (HHd.out _).mono ?_
      rintro e w32 ⟨rfl, hb⟩
      have FB := Lib.hid (FB.out.trans (hb.mono FB.out.size))
      clear hb
      go_wp2_with fail
      refine (HHr.out _).mono ?_
      rintro e w33 ⟨rfl, hb⟩
      have FB := Lib.hid (FB.out.trans (hb.mono FB.out.size))
      clear hb
      go_wp2_with fail
      go_ret
      exact ⟨rfl, FB.out⟩
end

end Go.Proofs.YtieekajjoikepaaGreatDoor
