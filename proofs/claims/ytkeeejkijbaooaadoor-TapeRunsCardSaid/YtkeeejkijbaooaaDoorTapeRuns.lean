/-
  The walk of the law TapeRuns.
-/
import Derived.Test.YtkeeejkijbaooaaDoorTapeDo
namespace Go.Proofs.YtkeeejkijbaooaaDoor
open Go.RowKit
set_option linter.unusedVariables false
set_option maxRecDepth 100000
set_option linter.unusedSimpArgs false

def FarPost (l : List POp) (w : World) (e : Ending) (w' : World) : Prop := ∃ b, e = .returned (.bool b) ∧ w = w' ∧ (b = false → ∀ o ∈ l, o.name.size ≤ 100)
theorem far_long (l : List POp) (A : Option Addr) (n c : Nat) (w : World) (hn : n = l.length) (h : 30 < n) (hm : n ≤ maxLen) : Calls Tryd.prog 15 #[.slice A n c] w (FarPost l w) := by
  unfold maxLen at hm
  have d1 : decide ((n : Int) ≤ 30) = false := by simp; omega
  have d2 : decide ((0 : Int) < (n : Int)) = true := by simp; omega
  have d3 : decide ((30 : Int) < (n : Int)) = true := by simp; omega
  go_enter Tryd.func15, Tryd.ntmps15
  go_wp2_with fail
  go_loop [3, 4] (fun s x => s = .int .i64 0 ∧ x = .int .i64 0) (fun _ _ => 0)
  case atStart => exact ⟨rfl, rfl⟩
  case round =>
    obtain ⟨rfl, rfl⟩ := hrel
    go_wp2_with fail
    go_ret
    exact ⟨true, rfl, rfl, fun h => by cases h⟩
set_option maxHeartbeats 1000000 in
theorem far_short (l : List POp) (A : Option Addr) (n c : Nat) (w : World) (hr : Rd w A (opsV l)) (hn : n = l.length) (h : n ≤ 30) (hs : ∀ o ∈ l, o.name.size ≤ maxLen) : Calls Tryd.prog 15 #[.slice A n c] w (FarPost l w) := by
  have d1 : decide ((n : Int) ≤ 30) = true := by simp; omega
  have d3 : decide ((30 : Int) < (n : Int)) = false := by simp; omega
  have HR := Lib.hid hr
  have HN := Lib.hid hn
  have HS := Lib.hid hs
  clear hr hn hs
  go_enter Tryd.func15, Tryd.ntmps15
  go_wp2_with fail
  go_loop [3, 4] (fun s x => ∃ (i : Nat) (m : Int), i ≤ n ∧ x = .int .i64 (i : Nat) ∧ s = .int .i64 m ∧ 0 ≤ m ∧ m ≤ 65536 * i ∧ ∀ o ∈ l.take i, o.name.size ≤ 100) (fun _ x => n - (intOf x).toNat)
  case atStart => exact ⟨0, 0, by omega, rfl, rfl, by omega, by omega, by simp⟩
  case round =>
    obtain ⟨i, m, hi, rfl, rfl, hm0, hm1, hall⟩ := hrel
    have HA := Lib.hid hall
    clear hall
    by_cases hlt : i < n
    · have hil : i < l.length := by rw [← HN.out]; exact hlt
      obtain ⟨b, off, o, rfl, ho, c0, c1, c2⟩ := op_cells HR.out hil
      have d0 : decide ((i : Int) < (n : Int)) = true := by simp; omega
      have hz := HS.out o (List.mem_of_getElem? ho)
      unfold maxLen at hz
      have HE := Lib.hid (show 100 ≥ o.name.size → ∀ o ∈ l.take (i + 1), o.name.size ≤ 100 from fun h x hx => by
        rw [List.take_add_one, ho] at hx
        rcases List.mem_append.1 hx with hx | hx
        · exact HA.out x hx
        · simp at hx; rw [hx]; exact h)
      obtain ⟨kind, N, name⟩ := o
      simp only at c0 c1 c2 hz HE
      clear ho
      by_cases hname : 100 < name.size
      · have e1 : decide ((100 : Int) < (name.size : Int)) = true := by simp; omega
        go_wp2_with fail
        go_ret
        exact ⟨true, rfl, rfl, fun h => by cases h⟩
      · have e1 : decide ((100 : Int) < (name.size : Int)) = false := by simp; omega
        have HE' := Lib.hid (HE.out (by omega))
        by_cases hN0 : 0 < N
        · have e2 : decide (0 < N) = true := by simpa using hN0
          by_cases hN1 : N ≤ 65536
          · have e3 : decide (N ≤ 65536) = true := by simpa using hN1
            by_cases hk : kind = 1
            · have e4 : (kind == 1) = true := by simpa using hk
              clear hk
              go_wp2_with fail
              go_round
              case rel => exact ⟨i + 1, m + N, by omega, by go_num, rfl, by omega, by omega, HE'.out⟩
              case measure => simp [intOf]; omega
            · have e4 : (kind == 1) = false := by simpa using hk
              clear hk
              go_wp2_with fail
              go_round
              case rel => exact ⟨i + 1, m, by omega, by go_num, rfl, by omega, by omega, HE'.out⟩
              case measure => simp [intOf]; omega
          · have e3 : decide (N ≤ 65536) = false := by simpa using hN1
            go_wp2_with fail
            go_round
            case rel => exact ⟨i + 1, m, by omega, by go_num, rfl, by omega, by omega, HE'.out⟩
            case measure => simp [intOf]; omega
        · have e2 : decide (0 < N) = false := by simpa using hN0
          go_wp2_with fail
          go_round
          case rel => exact ⟨i + 1, m, by omega, by go_num, rfl, by omega, by omega, HE'.out⟩
          case measure => simp [intOf]; omega
    · obtain rfl : i = n := by omega
      have d0 : decide ((i : Int) < (i : Int)) = false := by simp
      have HF := Lib.hid (show ∀ o ∈ l, o.name.size ≤ 100 from by
        have := HA.out
        rw [List.take_of_length_le (by rw [HN.out]; exact Nat.le_refl _)] at this
        exact this)
      by_cases h4 : 400 < m
      · have e5 : decide (400 < m) = true := by simpa using h4
        go_wp2_with fail
        go_ret
        exact ⟨true, rfl, rfl, fun h => by cases h⟩
      · have e5 : decide (400 < m) = false := by simpa using h4
        go_wp2_with fail
        go_ret
        exact ⟨false, rfl, rfl, fun _ => HF.out⟩
theorem far_any (l : List POp) (A : Option Addr) (n c : Nat) (w : World) (hr : Rd w A (opsV l)) (hn : n = l.length) (hm : l.length ≤ maxLen) (hs : ∀ o ∈ l, o.name.size ≤ maxLen) : Calls Tryd.prog 15 #[.slice A n c] w (FarPost l w) := by
  by_cases h : 30 < n
  · exact far_long l A n c w hn h (by rw [hn]; exact hm)
  · exact far_short l A n c w hr hn (by omega) hs
theorem rd_below_b {w w' : World} {A : Option Addr} {xs : List Value} (h : Rd w A xs) (hb : Below w.heap.size w w') : Rd w' A xs := h.below hb
set_option maxHeartbeats 1000000 in
theorem tapeRuns_loop (l : List POp) (A : Option Addr) (n c : Nat) (w wr : World) (hr : Rd w A (opsV l)) (hn : n = l.length) (hm : n ≤ maxLen) (hz : ∀ o ∈ l, o.name.size ≤ 100) (i : Nat) (hi : i < n) (hb : Below w.heap.size w wr) :
    ∃ (b off : Nat) (o : POp), A = some ⟨b, off, none⟩ ∧ o.name.size ≤ 100 ∧ wr.cell? ⟨b, off + i * 3, none⟩ = some (.int .i64 o.kind) ∧ wr.cell? ⟨b, off + i * 3 + 1, none⟩ = some (.int .i64 o.n) ∧ wr.cell? ⟨b, off + i * 3 + 2, none⟩ = some (.string o.name) := by
  obtain ⟨b, off, o, h1, h2, h3⟩ := op_cells (hr.below hb) (i := i) (by omega)
  exact ⟨b, off, o, h1, hz o (List.mem_of_getElem? h2), h3⟩
set_option maxHeartbeats 1000000 in
theorem tapeRuns_law (seed : ByteArray) (hs : seed.size ≤ maxLen) (made : Bool) (A : Option Addr) (n c : Nat) (l : List POp) (hn : n = l.length) (hm : l.length ≤ maxLen) (hz : ∀ o ∈ l, o.name.size ≤ maxLen) (w : World) (hT : Turns w) (hR : Rounds w) (hr : Rd w A (opsV l)) :
    Calls Tryd.prog 4 #[.string seed, .bool made, .slice A n c] w fun e w' => e = .returned (.bool true) ∧ Below w.heap.size w w' := by
  have HF := Lib.hid (far_any l A n c w hr hn hm hz)
  have HT := Lib.hid (Tabs.of hT hR)
  have HR := Lib.hid hr
  have HN := Lib.hid hn
  have hm' : n ≤ maxLen := by rw [hn]; exact hm
  unfold maxLen at hs
  clear hT hR hr hn hm hz
  by_cases h300 : 300 < seed.size
  · have d1 : decide (300 < (seed.size : Int)) = true := by simp; omega
    go_enter Tryd.func4, Tryd.ntmps4
    go_wp2_with fail
    go_ret
    exact ⟨rfl, Below.refl _ _⟩
  · have d1 : decide (300 < (seed.size : Int)) = false := by simp; omega
    have hs3 : seed.size ≤ 300 := by omega
    go_enter Tryd.func4, Tryd.ntmps4
    go_wp2_with fail
    refine HF.out.mono ?_
    rintro e w0 ⟨b, rfl, rfl, hb⟩
    cases b with
    | true =>
      go_wp2_with fail
      go_ret
      exact ⟨rfl, Below.refl _ _⟩
    | false =>
      have HZ := Lib.hid (hb rfl)
      clear hb
      go_wp2_with fail
      refine (of_any w.heap.size seed _ (by omega) (Nat.le_refl _)).mono ?_
      rintro e w1 ⟨t, rfl, ht, hI, hb1⟩
      have HI := Lib.hid hI
      have HB1 := Lib.hid hb1
      replace HT := Lib.hid (HT.out.below hb1)
      clear hI hb1
      go_wp2_with fail
      refine (rof seed _ (by omega)).mono ?_
      rintro e w2 ⟨rfl, hR2, hb2⟩
      have hR2t : t < w1.heap.size := HI.out.lt
      have HBo : Hid (Both w.heap.size w w2 t w1.heap.size seed.data.toList 0) := Lib.hid ⟨HI.out.below hb2, hR2, HT.out.below hb2, Below.chain HB1.out hb2, ht, HB1.out.size, by omega, Nat.le_trans HB1.out.size hb2.size⟩
      obtain ⟨m, hmq⟩ : ∃ m, m = w1.heap.size := ⟨_, rfl⟩
      rw [← hmq] at HBo ⊢
      clear hR2 hb2 HI HT HB1 hR2t hmq
      have core : ∀ (wr : World) (t m : Nat) (L : List UInt8) (k : Nat), Both w.heap.size w wr t m L k → True := fun _ _ _ _ _ _ => trivial
      clear core
      cases made with
      | false =>
        go_wp2_with fail
        go_loopw [7, 8, 9] (fun x y z wr => ∃ (i t m : Nat) (L : List UInt8) (k : Nat), i ≤ n ∧ x = .pointer (some ⟨t, 0, none⟩) ∧ y = .pointer (some ⟨m, 0, none⟩) ∧ z = .int .i64 (i : Nat) ∧ Both w.heap.size w wr t m L k) (fun _ _ z _ => n - (intOf z).toNat)
        case atStart => exact ⟨0, _, _, _, _, by omega, rfl, rfl, rfl, HBo.out⟩
        case round =>
          obtain ⟨i, t, m, L, k, hi, rfl, rfl, rfl, hBo⟩ := hrel
          clear HBo
          have HBo := Lib.hid hBo
          clear hBo
          unfold maxLen at hm'
          by_cases hlt : i < n
          · obtain ⟨b, off, ⟨kind, N, name⟩, rfl, hnm, c0, c1, c2⟩ := tapeRuns_loop l A n c w wr HR.out HN.out (by unfold maxLen; omega) HZ.out i hlt HBo.out.below
            simp only at c0 c1 c2 hnm
            have d0 : decide ((i : Int) < (n : Int)) = true := by simp; omega
            go_wp2_with fail
            refine (do_any w.heap.size w wr t m L k HBo.out kind N name hnm).mono ?_
            rintro e w5 ⟨t5, m5, L5, k5, rfl, hB5⟩
            have HB5 := Lib.hid hB5
            clear hB5 c0 c1 c2
            go_wp2_with fail
            go_roundw
            case rel => exact ⟨i + 1, t5, m5, L5, k5, by omega, rfl, rfl, by go_num, HB5.out⟩
            case measure => simp [intOf]; omega
          · obtain rfl : i = n := by omega
            have d0 : decide ((i : Int) < (i : Int)) = false := by simp
            obtain ⟨sd, md, sx, hh, hkl, _⟩ := HBo.out.ref
            have HC := Lib.hid (four_cells hh).2.2.2.1
            clear hh
            go_wp2_with fail
            go_region_held3 (fun w' => w'.cell? ⟨m, 3, none⟩ = some (.int .i64 (k : Nat)))
              (first | assumption | exact HC.out | exact keep1_below' (by assumption) (by assumption))
              (first
                | ((go_at_call 8; refine (tapes_any _).mono ?_); rintro _ w' ⟨rfl, hb6⟩; replace HBo := Lib.hid (HBo.out.later (Below.chain ((Below.refl _ wr).drew) hb6)))
                | ((go_at_call 14; refine (taken_any t L k _ HBo.out.tape).mono ?_); rintro _ w' ⟨rfl, rfl⟩))
            all_goals
              go_wp2_with fail
              go_ret
              exact ⟨rfl, HBo.out.below⟩
      | true =>
        go_wp2_with fail
        refine (new_any w.heap.size seed _ HBo.out.tabs (by omega) HBo.out.size).mono ?_
        rintro e w3 ⟨t', rfl, ht', hI, hb3⟩
        have HI := Lib.hid hI
        have HT := Lib.hid (HBo.out.tabs.below hb3)
        have HB3 := Lib.hid (HBo.out.below.trans (hb3.mono HBo.out.size))
        have hs33 := Nat.le_trans HBo.out.size hb3.size
        have hsz2 := HBo.out.size
        clear hI hb3 HBo
        go_wp2_with fail
        refine (rnew seed _ (by omega)).mono ?_
        rintro e w4 ⟨m', rfl, hm4, hR4, hb4⟩
        have hlt' := HI.out.lt
        have HBo : Hid (Both w.heap.size w w4 t' m' (madeL (sumL seed.data.toList)) 0) := Lib.hid ⟨HI.out.below hb4, hR4, HT.out.below hb4, HB3.out.trans (hb4.mono hs33), by omega, by omega, by omega, Nat.le_trans hs33 hb4.size⟩
        clear hR4 hb4 HI HT HB3 hlt'
        go_wp2_with fail
        go_loopw [7, 8, 9] (fun x y z wr => ∃ (i t m : Nat) (L : List UInt8) (k : Nat), i ≤ n ∧ x = .pointer (some ⟨t, 0, none⟩) ∧ y = .pointer (some ⟨m, 0, none⟩) ∧ z = .int .i64 (i : Nat) ∧ Both w.heap.size w wr t m L k) (fun _ _ z _ => n - (intOf z).toNat)
        case atStart => exact ⟨0, _, _, _, _, by omega, rfl, rfl, rfl, HBo.out⟩
        case round =>
          obtain ⟨i, t, m, L, k, hi, rfl, rfl, rfl, hBo⟩ := hrel
          clear HBo
          have HBo := Lib.hid hBo
          clear hBo
          unfold maxLen at hm'
          by_cases hlt : i < n
          · obtain ⟨b, off, ⟨kind, N, name⟩, rfl, hnm, c0, c1, c2⟩ := tapeRuns_loop l A n c w wr HR.out HN.out (by unfold maxLen; omega) HZ.out i hlt HBo.out.below
            simp only at c0 c1 c2 hnm
            have d0 : decide ((i : Int) < (n : Int)) = true := by simp; omega
            go_wp2_with fail
            refine (do_any w.heap.size w wr t m L k HBo.out kind N name hnm).mono ?_
            rintro e w5 ⟨t5, m5, L5, k5, rfl, hB5⟩
            have HB5 := Lib.hid hB5
            clear hB5 c0 c1 c2
            go_wp2_with fail
            go_roundw
            case rel => exact ⟨i + 1, t5, m5, L5, k5, by omega, rfl, rfl, by go_num, HB5.out⟩
            case measure => simp [intOf]; omega
          · obtain rfl : i = n := by omega
            have d0 : decide ((i : Int) < (i : Int)) = false := by simp
            obtain ⟨sd, md, sx, hh, hkl, _⟩ := HBo.out.ref
            have HC := Lib.hid (four_cells hh).2.2.2.1
            clear hh
            go_wp2_with fail
            go_region_held3 (fun w' => w'.cell? ⟨m, 3, none⟩ = some (.int .i64 (k : Nat)))
              (first | assumption | exact HC.out | exact keep1_below' (by assumption) (by assumption))
              (first
                | ((go_at_call 8; refine (tapes_any _).mono ?_); rintro _ w' ⟨rfl, hb6⟩; replace HBo := Lib.hid (HBo.out.later (Below.chain ((Below.refl _ wr).drew) hb6)))
                | ((go_at_call 14; refine (taken_any t L k _ HBo.out.tape).mono ?_); rintro _ w' ⟨rfl, rfl⟩))
            all_goals
              go_wp2_with fail
              go_ret
              exact ⟨rfl, HBo.out.below⟩
end Go.Proofs.YtkeeejkijbaooaaDoor
