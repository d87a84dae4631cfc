/-
  Contract of armour.Bytes.
-/
import Derived.Test.YtidnlginjjgmjaaDoorLetters
namespace Go.Proofs.YtidnlginjjgmjaaDoor
open Go.RowKit
set_option linter.unusedVariables false

/-- A letter's number; -1 if it is none. -/
def valI (c : UInt8) : Int := Lib.indexByte lettersT c
def valsOf (w : List UInt8) : List Nat := w.map fun c => (valI c).toNat
def allLetters (w : List UInt8) : Bool := w.all fun c => decide (0 ≤ valI c)
def restOK (w : List UInt8) : Bool := decide (5 * w.length % 8 < 5) && decide (numOf ((flat 5 (valsOf w)).drop (8 * (5 * w.length / 8))) = 0)
/-- The bytes whose letters are w, or none. -/
def bytesRes (w : List UInt8) : Option (List UInt8) := if allLetters w && restOK w then some ((grp 8 (flat 5 (valsOf w))).map UInt8.ofNat) else none
/-- A text and no error; or no text, and the error. -/
def textOr (code : Int) : Option (List UInt8) → Value
  | some l => .tuple #[.string (bs l), .int .i64 0]
  | none => .tuple #[.string (bs []), .int .i64 code]

theorem indexByte_lt : ∀ (l : List UInt8) (c : UInt8), Lib.indexByte l c < l.length
  | [], c => by simp [Lib.indexByte]
  | b :: l, c => by
    have ih := indexByte_lt l c
    unfold Lib.indexByte
    split
    · simp <;> omega
    · split
      · simp <;> omega
      · simp <;> omega
theorem indexByte_at : ∀ (l : List UInt8) (c : UInt8), 0 ≤ Lib.indexByte l c → l[(Lib.indexByte l c).toNat]? = some c
  | [], c, h => by simp [Lib.indexByte] at h
  | b :: l, c, h => by
    have ih := indexByte_at l c
    have hge := Lib.indexByte_ge l c
    unfold Lib.indexByte at h ⊢
    split
    · rename_i e; simp at e; simp [e]
    · rename_i e
      split
      · rename_i e2; simp [e, e2] at h
      · rename_i e2
        simp at e2
        rw [show (Lib.indexByte l c + 1).toNat = (Lib.indexByte l c).toNat + 1 by omega, List.getElem?_cons_succ]
        exact ih (by omega)
theorem valI_lt (c : UInt8) : valI c < 32 := indexByte_lt lettersT c
theorem letter_val (c : UInt8) (h : 0 ≤ valI c) : letterC (valI c).toNat = c := by
  have := indexByte_at lettersT c h
  rw [letterC, List.getD_eq_getElem?_getD, show (valI c).toNat = (Lib.indexByte lettersT c).toNat from rfl, this]
  rfl
theorem val_letter (v : Nat) (h : v < 32) : valI (letterC v) = v := by
  have : (List.range 32).all (fun v => decide (valI (letterC v) = (v : Int))) = true := by decide +kernel
  have := List.all_eq_true.1 this v (by simpa using h)
  simpa using this

/-- What is written and what waits are the digits of the letters that came. -/
structure Told8 (ws outs : List Nat) (n c : Nat) : Prop where
  digits : flat 5 ws = flat 8 outs ++ bitsN c n
  small : n < 2 ^ c
  vals : ∀ v ∈ outs, v < 2 ^ 8
theorem told8_push {ws outs : List Nat} {n c : Nat} (h : Told8 ws outs n c) (x : Nat) (hx : x < 2 ^ 5) : Told8 (ws ++ [x]) outs (n * 2 ^ 5 + x) (c + 5) := by
  refine ⟨?_, ?_, h.vals⟩
  · rw [flat_snoc, bitsN_add c 5 n x hx, ← List.append_assoc, ← h.digits]
  · rw [Nat.pow_add]
    have h2 : (n + 1) * 2 ^ 5 ≤ 2 ^ c * 2 ^ 5 := Nat.mul_le_mul_right _ h.small
    rw [Nat.add_mul] at h2
    omega
theorem told8_pull {ws outs : List Nat} {n c : Nat} (h : Told8 ws outs n c) (hc : 8 ≤ c) : Told8 ws (outs ++ [n / 2 ^ (c - 8)]) (n % 2 ^ (c - 8)) (c - 8) ∧ n / 2 ^ (c - 8) < 256 := by
  have hs := h.small
  have e : c = 8 + (c - 8) := by omega
  have hlt : n / 2 ^ (c - 8) < 2 ^ 8 := by
    rw [Nat.div_lt_iff_lt_mul (Nat.two_pow_pos _), ← Nat.pow_add, ← e]
    exact hs
  refine ⟨⟨?_, Nat.mod_lt _ (Nat.two_pow_pos _), ?_⟩, hlt⟩
  · rw [flat_snoc, List.append_assoc, ← bits_split 8 (c - 8) n (by rw [← e]; exact hs), ← e]
    exact h.digits
  · intro v hv
    rcases List.mem_append.1 hv with hv | hv
    · exact h.vals v hv
    · simp at hv; rw [hv]; exact hlt
theorem told8_len {ws outs : List Nat} {n c : Nat} (h : Told8 ws outs n c) : 5 * ws.length = 8 * outs.length + c := by
  have := congrArg List.length h.digits
  rwa [flat_length, List.length_append, flat_length, bitsN_len] at this
theorem told8_end {w : List UInt8} {outs : List Nat} {n c : Nat} (h : Told8 (valsOf w) outs n c) (hc : c < 8) :
    grp 8 (flat 5 (valsOf w)) = outs ∧ restOK w = (decide (c < 5) && decide (n = 0)) := by
  have hl := told8_len h
  have hwl : (valsOf w).length = w.length := by simp [valsOf]
  rw [hwl] at hl
  refine ⟨?_, ?_⟩
  · rw [h.digits]
    exact grp_flat 8 (by omega) outs _ h.vals (by rw [bitsN_len]; exact hc)
  · rw [restOK, h.digits, show 5 * w.length % 8 = c by omega, show 5 * w.length / 8 = outs.length by omega, ← flat_length 8 outs, List.drop_left, numOf_bits c n h.small]
theorem letters_snoc (w : List UInt8) (k : Nat) (h : k < w.length) : allLetters (w.take (k + 1)) = (allLetters (w.take k) && decide (0 ≤ valI w[k])) ∧ valsOf (w.take (k + 1)) = valsOf (w.take k) ++ [(valI w[k]).toNat] := by
  refine ⟨?_, ?_⟩
  · rw [List.take_succ_eq_append_getElem h, allLetters, List.all_append, ← allLetters]
    simp
  · rw [List.take_succ_eq_append_getElem h, valsOf, List.map_append, ← valsOf]
    rfl
theorem allLetters_false (w : List UInt8) (k : Nat) (h : k < w.length) (hx : valI w[k] < 0) : allLetters w = false := by
  rw [allLetters, List.all_eq_false]
  exact ⟨w[k], List.getElem_mem h, by simp; omega⟩
theorem toUInt8_back (x : UInt8) : ((x.toNat : Int)).toNat.toUInt8 = x := by simp

theorem idx_any (x : UInt8) (w : World) :
    Calls Tryd.prog 42 #[.string ⟨#[97, 98, 99, 100, 101, 102, 103, 104, 105, 106, 107, 108, 109, 110, 111, 112, 113, 114, 115, 116, 117, 118, 119, 120, 121, 122, 50, 51, 52, 53, 54, 55]⟩, .int .u8 (x.toNat : Int)] w fun e w' => e = .returned (.int .i64 (valI x)) ∧ w = w' :=
  (indexByte_b _ _ w).mono fun e w' ⟨he, hw⟩ => ⟨by rw [he, toUInt8_back]; rfl, hw.symm⟩

set_option maxHeartbeats 1000000 in
set_option maxRecDepth 100000 in
theorem armBytes_any (s : ByteArray) (w : World) (hs : s.size ≤ 1000000) :
    Calls Tryd.prog 23 #[.string s] w fun e w' => e = .returned (textOr 100 (bytesRes s.data.toList)) ∧ Below w.heap.size w w' := by
  go_enter Tryd.func23, Tryd.ntmps23
  go_wp2_with fail
  obtain ⟨b, hb⟩ : ∃ b, b = w.heap.size := ⟨_, rfl⟩
  obtain ⟨R, hR⟩ : ∃ R, R = w.heap.size + 1 := ⟨_, rfl⟩
  have hbR : R ≠ b := by omega
  have hRb : w.heap.size ≤ R := by omega
  have hB0 : Bld ((w.alloc (.cells #[.pointer none, .slice none 0 0] 62)).alloc (.cells #[.int .i64 0, .int .i64 0] 85)) w.heap.size b [] := by
    rw [hb]
    exact bld_below (bld_new (Nat.le_refl _)) ((Below.refl _ _).alloc (Nat.le_refl _) _)
  have hR0 : IsRow ((w.alloc (.cells #[.pointer none, .slice none 0 0] 62)).alloc (.cells #[.int .i64 0, .int .i64 0] 85)) R 0 0 := by
    have := heap_alloc_new (w.alloc (.cells #[.pointer none, .slice none 0 0] 62)) (.cells #[.int .i64 0, .int .i64 0] 85)
    rw [World.size_alloc, ← hR] at this
    exact this
  have hW0 : Below w.heap.size w ((w.alloc (.cells #[.pointer none, .slice none 0 0] 62)).alloc (.cells #[.int .i64 0, .int .i64 0] 85)) := ((Below.refl _ _).alloc (Nat.le_refl _) _).alloc (by simp) _
  simp only [← hR]
  generalize (w.alloc (.cells #[.pointer none, .slice none 0 0] 62)).alloc (.cells #[.int .i64 0, .int .i64 0] 85) = w1 at hB0 hR0 hW0 ⊢
  have HB0 := Lib.hid hB0
  have HR0 := Lib.hid hR0
  clear hR hB0 hR0
  rw [← hb]
  clear hb
  go_loopw [14] (fun i wr => ∃ (k : Nat) (outs : List Nat) (n c : Nat), k ≤ s.size ∧ i = .int .i64 k ∧ Told8 (valsOf (s.data.toList.take k)) outs n c ∧ allLetters (s.data.toList.take k) = true ∧ c < 8 ∧ IsRow wr R n c ∧ Bld wr w.heap.size b (outs.map UInt8.ofNat) ∧ Below w.heap.size w wr) (fun i _ => s.size - (intOf i).toNat)
  case atStart => exact ⟨0, [], 0, 0, by omega, rfl, ⟨rfl, by decide, by simp⟩, rfl, by omega, HR0.out, HB0.out, hW0⟩
  case round =>
    obtain ⟨k, outs, n, c, hk, rfl, hT, hA, hc, hRr, hBr, hbel⟩ := hrel
    have HT := Lib.hid hT
    have HA := Lib.hid hA
    have HR := Lib.hid hRr
    have HB := Lib.hid hBr
    clear hT hRr hBr hA
    by_cases hlt : k < s.size
    · have Hsn := Lib.hid (letters_snoc s.data.toList k (by rw [len_data]; exact hlt))
      have Hfa := Lib.hid (allLetters_false s.data.toList k (by rw [len_data]; exact hlt))
      have hn : n < 4096 := Nat.lt_of_lt_of_le HT.out.small (pow_le12 (by omega))
      go_wp2_with fail
      refine (idx_any s[k] wr).mono ?_
      rintro e w2 ⟨rfl, rfl⟩
      have hx32 := valI_lt s[k]
      have Hsn : Hid (allLetters (s.data.toList.take (k + 1)) = (allLetters (s.data.toList.take k) && decide (0 ≤ valI s[k])) ∧ valsOf (s.data.toList.take (k + 1)) = valsOf (s.data.toList.take k) ++ [(valI s[k]).toNat]) := Hsn
      have Hfa : Hid (valI s[k] < 0 → allLetters s.data.toList = false) := Hfa
      generalize valI s[k] = x at Hsn Hfa hx32 ⊢
      by_cases hx0 : x < 0
      · go_wp2_with fail
        go_ret2
        refine ⟨?_, hbel⟩
        rw [bytesRes, Hfa.out hx0]
        rfl
      · obtain ⟨x, rfl⟩ := Int.eq_ofNat_of_zero_le (by omega : 0 ≤ x)
        have hxn : x < 32 := by omega
        go_wp2_with fail
        refine (push_any R n c x 5 _ HR.out hn (by omega) (by omega) hxn).mono ?_
        rintro e w3 ⟨rfl, hR3, hG3⟩
        have HT3 := Lib.hid (show Told8 (valsOf (s.data.toList.take (k + 1))) outs (n * 2 ^ 5 + x) (c + 5) by
          rw [Hsn.out.2]
          exact told8_push HT.out x hxn)
        have HA3 := Lib.hid (show allLetters (s.data.toList.take (k + 1)) = true by rw [Hsn.out.1, HA.out]; simp)
        have HB3 := Lib.hid (bld_gb HB.out hG3 HR.out (by decide) hbR)
        have HR3 := Lib.hid hR3
        have hb3 := hbel.trans (grownBy_below' hG3 hRb hbel.size)
        clear hR3 hG3 HT HB HR HA Hsn Hfa
        generalize hn2 : n * 2 ^ 5 + x = n2 at HT3 HR3
        have hn2' : n2 < 4096 := Nat.lt_of_lt_of_le HT3.out.small (pow_le12 (by omega))
        clear hn2
        go_wp2_with fail
        by_cases h8 : 8 ≤ c + 5
        · refine (pull_yes R n2 (c + 5) 8 w3 HR3.out hn2' (by omega) h8).mono ?_
          rintro e w4 ⟨rfl, hR4, hG4⟩
          obtain ⟨hT4, hv4⟩ := told8_pull HT3.out h8
          have HT4 := Lib.hid hT4
          have HB4 := Lib.hid (bld_gb HB3.out hG4 HR3.out (by decide) hbR)
          have HR4 := Lib.hid hR4
          have hb4 := hb3.trans (grownBy_below' hG4 hRb hb3.size)
          have hol : outs.length ≤ 10000000 := by
            have := told8_len HT3.out
            simp [valsOf] at this
            omega
          clear hR4 hG4 hT4 HB3 HR3 HT3
          generalize n2 / 2 ^ (c + 5 - 8) = v at HT4 hv4
          go_wp2_with fail
          refine (writeByte_n w.heap.size b (outs.map UInt8.ofNat) v hv4 w4 HB4.out (by simp; omega) hb4.size).mono ?_
          rintro e w5 ⟨rfl, hB5, hb5, hO5⟩
          have HB5 : Hid (Bld w5 w.heap.size b ((outs ++ [v]).map UInt8.ofNat)) := by rw [List.map_append]; exact hB5
          have hR5 : IsRow w5 R (n2 % 2 ^ (c + 5 - 8)) (c + 5 - 8) := others_at hO5 HR4.out (by decide) hbR
          have HR5 := Lib.hid hR5
          clear hB5 hO5 hR5
          go_wp2_with fail
          go_roundw
          case rel => exact ⟨k + 1, _, _, _, by omega, by go_num, HT4.out, HA3.out, by omega, HR5.out, HB5.out, hb4.trans hb5⟩
          case measure => simp [intOf]; omega
        · refine (pull_no R n2 (c + 5) 8 w3 HR3.out (by omega)).mono ?_
          rintro e w4 ⟨rfl, rfl⟩
          go_wp2_with fail
          go_roundw
          case rel => exact ⟨k + 1, _, _, _, by omega, by go_num, HT3.out, HA3.out, by omega, HR3.out, HB3.out, hb3⟩
          case measure => simp [intOf]; omega
    · have hke : s.data.toList.take k = s.data.toList := List.take_of_length_le (by rw [len_data]; omega)
      rw [hke] at HT HA
      obtain ⟨c0, c1, f0, f1⟩ := HR.out.cells
      obtain ⟨he1, he2⟩ := told8_end HT.out hc
      have He1 := Lib.hid he1
      have He2 := Lib.hid he2
      clear hke he1 he2 HT
      by_cases hc5 : c < 5
      · by_cases hn0 : n = 0
        · subst hn0
          have hd : decide ((5 : Int) ≤ (c : Int)) = false := by simp; omega
          go_wp2_with fail
          refine (string_l w.heap.size b _ wr HB.out hbel.size).mono ?_
          rintro e w4 ⟨rfl, hb4⟩
          go_wp2_with fail
          go_ret2
          refine ⟨?_, hbel.trans hb4⟩
          rw [bytesRes, HA.out, He2.out, He1.out]
          simp [hc5, textOr]
        · have hd : decide ((5 : Int) ≤ (c : Int)) = false := by simp; omega
          have hn1 : ((n : Int) != 0) = true := by rw [bne_iff_ne]; omega
          go_wp2_with fail
          go_ret2
          refine ⟨?_, hbel⟩
          rw [bytesRes, HA.out, He2.out]
          simp [hn0, textOr]
          rfl
      · have hd : decide ((5 : Int) ≤ (c : Int)) = true := by simp; omega
        go_wp2_with fail
        go_ret2
        refine ⟨?_, hbel⟩
        rw [bytesRes, HA.out, He2.out]
        simp [hc5, textOr]
        rfl
end Go.Proofs.YtidnlginjjgmjaaDoor
