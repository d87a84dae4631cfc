/-
  The walk of the law EscrowReads.
-/
import Derived.Test.YtidnlginjjgmjaaDoorPapers
namespace Go.Proofs.YtidnlginjjgmjaaDoor
open Go.RowKit
set_option linter.unusedVariables false
set_option maxRecDepth 100000
set_option maxHeartbeats 1000000

theorem rd_of_texts {w : World} {x : Addr} {zs : List ByteArray} (h : ∀ i, i < zs.length → w.cell? (x.add i) = some (.string (zs.getD i ByteArray.empty))) (l : Nat) : Rd w (some x) (textsV (zs.take l)) := by
  intro i u hu
  have hi : i < zs.length := by
    rcases Nat.lt_or_ge i zs.length with h | h
    · exact h
    · simp [textsV, List.getElem?_take, h] at hu
  have hil : i < l := by
    rcases Nat.lt_or_ge i l with h | h
    · exact h
    · simp [textsV, List.getElem?_take, Nat.not_lt.2 h] at hu
  have hc := h i hi
  have hs : x.spot = none := by
    have h0 := h 0 (by omega)
    unfold World.cell? at h0
    obtain ⟨b, o, sp⟩ := x
    cases sp with
    | none => rfl
    | some v => simp only [Addr.add] at h0; split at h0 <;> simp at h0
  refine ⟨x.block, x.off, by rw [← hs], ?_⟩
  have hu' : u = .string (zs.getD i ByteArray.empty) := by simpa [textsV, hil, hi, eq_comm] using hu
  rw [hu', ← hc]
  congr 1
  unfold Addr.add
  split
  · rename_i h0; subst h0; obtain ⟨b, o, sp⟩ := x; simp_all
  · rfl

/-- Are texts more than are looked at? -/
def farB (l : List ByteArray) : Bool := decide (30 < l.length) || l.any fun s => decide (300 < s.size)
theorem efar_any (l : List ByteArray) (A : Option Addr) (n c : Nat) (w : World) (hr : Rd w A (textsV l)) (hn : n = l.length) (hl : l.length ≤ 9223372036854775807) :
    Calls Tryd.prog 6 #[.slice A n c] w fun e w' => e = .returned (.bool (farB l)) ∧ w' = w := by
  by_cases h30 : 30 < n
  · have Hf := Lib.hid (show farB l = true by simp only [farB]; rw [decide_eq_true (by omega)]; rfl)
    have d1 : decide ((n : Int) ≤ 30) = false := by simp; omega
    have d2 : decide ((30 : Int) < (n : Int)) = true := by simp; omega
    have d3 : decide (n ≤ 30) = false := by simp; omega
    have d4 : decide (30 < n) = true := by simp; omega
    have d5 : decide ((0 : Int) < (n : Int)) = true := by simp; omega
    have h0 : 0 < n := by omega
    clear hr hn hl
    go_enter Tryd.func6, Tryd.ntmps6
    go_wp2_with fail
    go_loopw [3] (fun x wr => x = .int .i64 0 ∧ wr = w) (fun _ _ => 0)
    case atStart => exact ⟨rfl, rfl⟩
    case round =>
      obtain ⟨rfl, rfl⟩ := hrel
      go_wp2_with fail
      go_ret
      exact ⟨by rw [Hf.out]; simp, rfl⟩
  have HR := Lib.hid hr
  have HN := Lib.hid hn
  have hn1 : n ≤ 30 := by omega
  have d0 : decide (30 < l.length) = false := by simp; omega
  have Hfe := Lib.hid (show farB l = l.any fun s => decide (300 < s.size) by rw [farB, d0]; rfl)
  clear hr hn d0
  go_enter Tryd.func6, Tryd.ntmps6
  go_wp2_with fail
  go_loopw [3] (fun x wr => ∃ i : Nat, i ≤ n ∧ x = .int .i64 (i : Nat) ∧ (l.take i).any (fun s => decide (300 < s.size)) = false ∧ wr = w) (fun x _ => n - (intOf x).toNat)
  case atStart => exact ⟨0, by omega, rfl, rfl, rfl⟩
  case round =>
    obtain ⟨i, hi, rfl, ha, rfl⟩ := hrel
    by_cases hlt : i < n
    · have hil : i < l.length := by rw [← HN.out]; exact hlt
      obtain ⟨b, off, hA, hc⟩ := HR.out i (.string l[i]) (by simp [textsV, hil])
      subst hA
      have Hstep := Lib.hid (show (l.take (i + 1)).any (fun s => decide (300 < s.size)) = ((l.take i).any (fun s => decide (300 < s.size)) || decide (300 < l[i].size)) by
        rw [List.take_succ_eq_append_getElem hil, List.any_append]
        simp)
      have Hbad : Hid (300 < l[i].size → l.any (fun s => decide (300 < s.size)) = true) := Lib.hid fun h => List.any_eq_true.2 ⟨l[i], List.getElem_mem hil, by simpa using h⟩
      generalize l[i] = s at hc Hstep Hbad
      have hiI : (i : Int) < (n : Int) := by omega
      have Ha := Lib.hid ha
      clear ha
      by_cases hb : 300 < s.size
      · have d1 : decide ((300 : Int) < (s.size : Int)) = true := by simp; omega
        have Hb := Lib.hid hb
        clear hb
        go_wp2_with fail
        try rw [Exit.noGoto_ret]
        go_ret
        exact ⟨by rw [Hfe.out, Hbad.out Hb.out]; rfl, rfl⟩
      · have d1 : decide ((300 : Int) < (s.size : Int)) = false := by simp; omega
        have Hb := Lib.hid hb
        clear hb
        go_wp2_with fail
        go_roundw
        case rel => exact ⟨i + 1, by omega, by go_num, by rw [Hstep.out, Ha.out]; simp; have := Hb.out; omega, by trivial⟩
        case measure => simp [intOf]; omega
    · obtain rfl : i = n := by omega
      rw [HN.out, List.take_of_length_le (Nat.le_refl _)] at ha
      have Ha := Lib.hid ha
      clear ha
      go_wp2_with fail
      go_ret
      exact ⟨by rw [Hfe.out, Ha.out]; simp; omega, rfl⟩

/-- A text that tells a share is that share's text. -/
theorem getOne_text {s : ByteArray} {p : Shr} (h : getOne s = some p) : ∃ t, putShareRes p.1 p.2.data.toList = some t ∧ s = bs t := by
  simp only [getOne, Option.map_eq_some_iff] at h
  obtain ⟨q, hq, rfl⟩ := h
  unfold getShareRes at hq
  split at hq
  · rename_i s' hs'
    split at hq
    · rename_i hc
      injection hq with hq
      subst hq
      obtain ⟨h200, hput⟩ := put_get hs'
      have hne : (s'.getD 0 0).toNat ≠ 0 := fun e => hc.2 (UInt8.toNat_inj.1 e)
      have hlt := (s'.getD 0 0).toNat_lt
      have he : UInt8.ofNat (s'.getD 0 0).toNat :: s'.drop 1 = s' := by
        have hl := hc.1
        cases s' with
        | nil => simp at hl
        | cons a r => simp
      refine ⟨s.data.toList, ?_, rfl⟩
      simp only [bs_data]
      unfold putShareRes
      rw [if_pos ⟨by omega, by omega, by simp; omega⟩, Int.toNat_natCast, he, hput]
    · cases hq
  · cases hq
theorem reads_text (zs : List ByteArray) {p : Shr} (h : p ∈ readL (getAll zs)) : ∃ t, putShareRes p.1 p.2.data.toList = some t ∧ zs.any (fun s => decide (s = bs t)) = true := by
  have h1 := (readL_facts (getAll zs)).1 p h
  obtain ⟨s, hs, hg⟩ := List.mem_filterMap.1 h1
  obtain ⟨t, ht, hst⟩ := getOne_text hg
  exact ⟨t, ht, List.any_eq_true.2 ⟨s, hs, by simpa using hst⟩⟩
theorem reads_all (zs : List ByteArray) {s : ByteArray} (hs : s ∈ zs) {x : Int} {b : List UInt8} (h : getShareRes s.data.toList = some (x, b)) : (readL (getAll zs)).any (fun q => decide (q.1 = x)) = true := by
  have h1 : (x, bs b) ∈ getAll zs := List.mem_filterMap.2 ⟨s, hs, by simp [getOne, h]⟩
  obtain ⟨q, hq, e⟩ := (readL_facts (getAll zs)).2.2 _ h1
  exact List.any_eq_true.2 ⟨q, hq, by simpa using e⟩
theorem reads_len (zs : List ByteArray) : (readL (getAll zs)).length ≤ zs.length := by
  have h1 := readTo_len (getAll zs) (getAll zs).length
  have h2 := List.length_filterMap_le getOne zs
  unfold readL getAll at *
  omega
theorem text_eqD (s t : ByteArray) : (s.toList == t.toList) = decide (s = t) := by
  by_cases h : s = t
  · subst h; simp
  · rw [text_ne' h]; simp [h]
end Go.Proofs.YtidnlginjjgmjaaDoor
