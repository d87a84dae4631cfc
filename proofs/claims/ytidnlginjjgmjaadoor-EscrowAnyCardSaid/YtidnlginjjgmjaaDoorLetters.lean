/-
  Contract of armour.Letters.
-/
import Derived.Test.YtidnlginjjgmjaaDoorRow
import Derived.Test.YtidnlginjjgmjaaDoorBld
import Derived.Test.YtidnlginjjgmjaaDoorDigits
namespace Go.Proofs.YtidnlginjjgmjaaDoor
open Go.RowKit
set_option linter.unusedVariables false

def lettersT : List UInt8 := [97, 98, 99, 100, 101, 102, 103, 104, 105, 106, 107, 108, 109, 110, 111, 112, 113, 114, 115, 116, 117, 118, 119, 120, 121, 122, 50, 51, 52, 53, 54, 55]
/-- The letter of a number below 32. -/
def letterC (x : Nat) : UInt8 := lettersT.getD x 0
def byteN (s : List UInt8) : List Nat := s.map (·.toNat)
/-- The digits of bytes, with those 0 behind them up to a multiple of five. -/
def padded5 (s : List UInt8) : List Nat := flat 8 (byteN s) ++ List.replicate ((5 - 8 * s.length % 5) % 5) 0
def lettersV (s : List UInt8) : List Nat := grp 5 (padded5 s)
/-- The letters of bytes. -/
def lettersL (s : List UInt8) : List UInt8 := (lettersV s).map letterC

theorem byteN_lt (s : List UInt8) : ∀ v ∈ byteN s, v < 2 ^ 8 := by
  intro v hv
  obtain ⟨x, _, rfl⟩ := List.mem_map.1 hv
  exact x.toNat_lt
/-- What is written and what waits are the digits of the bytes that came. -/
structure Told5 (s : List UInt8) (vs : List Nat) (n c : Nat) : Prop where
  digits : flat 8 (byteN s) = flat 5 vs ++ bitsN c n
  small : n < 2 ^ c
  vals : ∀ v ∈ vs, v < 2 ^ 5
theorem told5_push {s : List UInt8} {vs : List Nat} {n c : Nat} (h : Told5 s vs n c) (x : UInt8) : Told5 (s ++ [x]) vs (n * 2 ^ 8 + x.toNat) (c + 8) := by
  have hx := x.toNat_lt
  refine ⟨?_, ?_, h.vals⟩
  · rw [byteN, List.map_append, List.map_cons, List.map_nil, flat_snoc, bitsN_add c 8 n x.toNat hx, ← List.append_assoc, ← h.digits]
    rfl
  · rw [Nat.pow_add]
    have := h.small
    have h2 : (n + 1) * 2 ^ 8 ≤ 2 ^ c * 2 ^ 8 := Nat.mul_le_mul_right _ this
    rw [Nat.add_mul] at h2
    omega
theorem told5_pull {s : List UInt8} {vs : List Nat} {n c : Nat} (h : Told5 s vs n c) (hc : 5 ≤ c) : Told5 s (vs ++ [n / 2 ^ (c - 5)]) (n % 2 ^ (c - 5)) (c - 5) ∧ n / 2 ^ (c - 5) < 32 := by
  have hs := h.small
  have e : c = 5 + (c - 5) := by omega
  have hlt : n / 2 ^ (c - 5) < 2 ^ 5 := by
    rw [Nat.div_lt_iff_lt_mul (Nat.two_pow_pos _), ← Nat.pow_add, ← e]
    exact hs
  refine ⟨⟨?_, Nat.mod_lt _ (Nat.two_pow_pos _), ?_⟩, hlt⟩
  · rw [flat_snoc, List.append_assoc, ← bits_split 5 (c - 5) n (by rw [← e]; exact hs), ← e]
    exact h.digits
  · intro v hv
    rcases List.mem_append.1 hv with hv | hv
    · exact h.vals v hv
    · simp at hv; rw [hv]; exact hlt
theorem told5_len {s : List UInt8} {vs : List Nat} {n c : Nat} (h : Told5 s vs n c) : 8 * s.length = 5 * vs.length + c := by
  have := congrArg List.length h.digits
  rw [flat_length, List.length_append, flat_length, bitsN_len, byteN, List.length_map] at this
  exact this
theorem told5_end {s : List UInt8} {vs : List Nat} {n c : Nat} (h : Told5 s vs n c) (hc : c = 0) : vs = lettersV s := by
  subst hc
  have hl := told5_len h
  rw [lettersV, padded5, show (5 - 8 * s.length % 5) % 5 = 0 by omega, h.digits]
  simp only [bitsN, List.append_nil, List.replicate_zero]
  have := grp_flat 5 (by omega) vs [] h.vals (by decide)
  rw [List.append_nil] at this
  exact this.symm
theorem told5_last {s : List UInt8} {vs : List Nat} {n c : Nat} (h : Told5 s vs n c) (h0 : 0 < c) (hc : c < 5) : vs ++ [n * 2 ^ (5 - c)] = lettersV s := by
  have hl := told5_len h
  have hb := bitsN_add c (5 - c) n 0 (Nat.two_pow_pos _)
  rw [show c + (5 - c) = 5 by omega, bitsN_zero, Nat.add_zero] at hb
  have hsm : n * 2 ^ (5 - c) < 2 ^ 5 := by
    have h1 : (n + 1) * 2 ^ (5 - c) ≤ 2 ^ c * 2 ^ (5 - c) := Nat.mul_le_mul_right _ h.small
    rw [← Nat.pow_add, show c + (5 - c) = 5 by omega, Nat.add_mul] at h1
    have := Nat.two_pow_pos (5 - c)
    omega
  rw [lettersV, padded5, show (5 - 8 * s.length % 5) % 5 = 5 - c by omega, h.digits, List.append_assoc, ← hb, ← flat_snoc]
  have := grp_flat 5 (by omega) (vs ++ [n * 2 ^ (5 - c)]) [] (by
    intro v hv
    rcases List.mem_append.1 hv with hv | hv
    · exact h.vals v hv
    · simp at hv; rw [hv]; exact hsm) (by decide)
  rw [List.append_nil] at this
  exact this.symm

def rowCount (w : World) (R : Nat) : Nat := match w.cell? ⟨R, 1, none⟩ with
  | some (.int _ n) => n.toNat
  | _ => 0
theorem rowCount_eq {w : World} {R n c : Nat} (h : IsRow w R n c) : rowCount w R = c := by
  unfold rowCount
  rw [h.cells.2.1]
  simp
def okN : Value → Nat
  | .bool true => 1
  | _ => 0
/-- Between two pulls: a letter is at hand, or none is. -/
def Pulled (s : List UInt8) (B b R : Nat) (x ok : Value) (w : World) : Prop :=
  (∃ (vs : List Nat) (v n c : Nat), x = .int .i64 (v : Int) ∧ ok = .bool true ∧ v < 32 ∧ Told5 s (vs ++ [v]) n c ∧ c ≤ 7 ∧ IsRow w R n c ∧ Bld w B b (vs.map letterC)) ∨
  (∃ (vs : List Nat) (n c : Nat), x = .int .i64 0 ∧ ok = .bool false ∧ Told5 s vs n c ∧ c < 5 ∧ IsRow w R n c ∧ Bld w B b (vs.map letterC))
theorem lit_letter (v : Nat) (h : v < (⟨#[97, 98, 99, 100, 101, 102, 103, 104, 105, 106, 107, 108, 109, 110, 111, 112, 113, 114, 115, 116, 117, 118, 119, 120, 121, 122, 50, 51, 52, 53, 54, 55]⟩ : ByteArray).size) :
    (⟨#[97, 98, 99, 100, 101, 102, 103, 104, 105, 106, 107, 108, 109, 110, 111, 112, 113, 114, 115, 116, 117, 118, 119, 120, 121, 122, 50, 51, 52, 53, 54, 55]⟩ : ByteArray)[v]'h = letterC v := by
  have h2 : v < lettersT.length := h
  show lettersT[v]'h2 = letterC v
  rw [letterC, List.getD_eq_getElem?_getD, List.getElem?_eq_getElem h2]
  rfl
theorem letter_index (v : Nat) (hv : v < 32) : lettersT[v]? = some (letterC v) := by
  have : v < lettersT.length := hv
  rw [letterC, List.getD_eq_getElem?_getD, List.getElem?_eq_getElem this]
  rfl
theorem pow_le12 {c : Nat} (h : c ≤ 12) : 2 ^ c ≤ 4096 := by
  have : 2 ^ c ≤ 2 ^ 12 := Nat.pow_le_pow_right (by omega) h
  omega

set_option maxHeartbeats 1000000 in
set_option maxRecDepth 100000 in
theorem letters_any (s : ByteArray) (w : World) (hs : s.size ≤ 1000000) :
    Calls Tryd.prog 28 #[.string s] w fun e w' => e = .returned (.string (bs (lettersL s.data.toList))) ∧ Below w.heap.size w w' := by
  go_enter Tryd.func28, Tryd.ntmps28
  go_wp2_with fail
  obtain ⟨b, hb⟩ : ∃ b, b = w.heap.size := ⟨_, rfl⟩
  obtain ⟨R, hR⟩ : ∃ R, R = w.heap.size + 1 := ⟨_, rfl⟩
  have hbR : R ≠ b := by omega
  have hRb : w.heap.size ≤ R := by omega
  have hB0 : Bld ((w.alloc (.cells #[.pointer none, .slice none 0 0] 62)).alloc (.cells #[.int .i64 0, .int .i64 0] 85)) w.heap.size b [] := by
    rw [hb]
    exact bld_below (bld_new (Nat.le_refl _)) ((Below.refl _ _).alloc (Nat.le_refl _) _)
  have hR0 : IsRow ((w.alloc (.cells #[.pointer none, .slice none 0 0] 62)).alloc (.cells #[.int .i64 0, .int .i64 0] 85)) R 0 0 := by
    have := heap_alloc_new (w.alloc (.cells #[.pointer none, .slice none 0 0] 62)) (.cells #[.int .i64 0, .int .i64 0] 85)
    rw [World.size_alloc, ← hR] at this
    exact this
  have hW0 : Below w.heap.size w ((w.alloc (.cells #[.pointer none, .slice none 0 0] 62)).alloc (.cells #[.int .i64 0, .int .i64 0] 85)) := ((Below.refl _ _).alloc (Nat.le_refl _) _).alloc (by simp) _
  have Hb := Lib.hid hb
  simp only [← hR]
  generalize (w.alloc (.cells #[.pointer none, .slice none 0 0] 62)).alloc (.cells #[.int .i64 0, .int .i64 0] 85) = w1 at hB0 hR0 hW0 ⊢
  have HB0 := Lib.hid hB0
  have HR0 := Lib.hid hR0
  clear hR hB0 hR0
  rw [← hb]
  clear hb
  go_loopw [14] (fun i wr => ∃ (k : Nat) (vs : List Nat) (n c : Nat), k ≤ s.size ∧ i = .int .i64 k ∧ Told5 (s.data.toList.take k) vs n c ∧ c < 5 ∧ IsRow wr R n c ∧ Bld wr w.heap.size b (vs.map letterC) ∧ Below w.heap.size w wr) (fun i _ => s.size - (intOf i).toNat)
  case atStart => exact ⟨0, [], 0, 0, by omega, rfl, ⟨rfl, by decide, by simp⟩, by omega, HR0.out, HB0.out, hW0⟩
  case round =>
    obtain ⟨k, vs, n, c, hk, rfl, hT, hc, hRr, hBr, hbel⟩ := hrel
    have HT := Lib.hid hT
    have HR := Lib.hid hRr
    have HB := Lib.hid hBr
    clear hT hRr hBr
    by_cases hlt : k < s.size
    · have hx := s[k].toNat_lt
      have hn : n < 4096 := Nat.lt_of_lt_of_le HT.out.small (pow_le12 (by omega))
      go_wp2_with fail
      refine (push_any R n c s[k].toNat 8 wr HR.out hn (by omega) (by omega) hx).mono ?_
      rintro e w2 ⟨rfl, hR2, hG2⟩
      have HT2 := Lib.hid (show Told5 (s.data.toList.take (k + 1)) vs (n * 2 ^ 8 + s[k].toNat) (c + 8) by
        rw [List.take_succ_eq_append_getElem (by rw [len_data]; exact hlt)]
        exact told5_push HT.out s[k])
      have HB2 := Lib.hid (bld_gb HB.out hG2 HR.out (by decide) hbR)
      have HR2 := Lib.hid hR2
      replace hbel := hbel.trans (grownBy_below' hG2 hRb hbel.size)
      clear hR2 hG2 HT HB HR
      generalize hn2 : n * 2 ^ 8 + s[k].toNat = n2 at HT2 HR2
      have hn2' : n2 < 4096 := Nat.lt_of_lt_of_le HT2.out.small (pow_le12 (by omega))
      clear hn2
      go_wp2_with fail
      refine (pull_yes R n2 (c + 8) 5 w2 HR2.out hn2' (by omega) (by omega)).mono ?_
      rintro e w3 ⟨rfl, hR3, hG3⟩
      obtain ⟨hT3, hv3⟩ := told5_pull HT2.out (by omega)
      have hP : Pulled (s.data.toList.take (k + 1)) w.heap.size b R (.int .i64 ((n2 / 2 ^ (c + 8 - 5) : Nat) : Int)) (.bool true) w3 := .inl ⟨vs, _, _, _, rfl, rfl, hv3, hT3, by omega, hR3, bld_gb HB2.out hG3 HR2.out (by decide) hbR⟩
      have HP := Lib.hid hP
      replace hbel := hbel.trans (grownBy_below' hG3 hRb hbel.size)
      clear hP hR3 hG3 hT3 hv3 HT2 HB2 HR2
      generalize n2 / 2 ^ (c + 8 - 5) = v at HP ⊢
      go_wp2_with fail
      obtain ⟨wo, hwo⟩ : ∃ wo : World, wo = w3 := ⟨_, rfl⟩
      rw [← hwo] at HP hbel ⊢
      clear hwo
      go_loopw [8, 9] (fun x ok wi => Pulled (s.data.toList.take (k + 1)) w.heap.size b R x ok wi ∧ Below w.heap.size w wi) (fun x ok wi => rowCount wi R + okN ok)
      case atStart => exact ⟨HP.out, hbel⟩
      case round =>
        obtain ⟨hP, hbi⟩ := hrel
        clear HP hbel
        rcases hP with ⟨vs, v, n, c, rfl, rfl, hv, hT, hc7, hRi, hBi⟩ | ⟨vs, n, c, rfl, rfl, hT, hc5, hRi, hBi⟩
        · have HT := Lib.hid hT
          have HR := Lib.hid hRi
          have HB := Lib.hid hBi
          have hlen := told5_len hT
          have hvl : vs.length ≤ 10000000 := by simp at hlen; omega
          have h32 : (v : Int) < 32 := by omega
          clear hT hRi hBi hlen
          go_wp2_with fail
          rw [lit_letter]
          refine (writeByte_l w.heap.size b (vs.map letterC) (letterC v) wr HB.out (by simp; omega) hbi.size).mono ?_
          rintro e w4 ⟨rfl, hB4, hb4, hO4⟩
          have hR4 : IsRow w4 R n c := others_at hO4 HR.out (by decide) hbR
          have HB4 : Hid (Bld w4 w.heap.size b ((vs ++ [v]).map letterC)) := by rw [List.map_append]; exact hB4
          have HR4 := Lib.hid hR4
          have hb5 := hbi.trans hb4
          have Hrc := Lib.hid (rowCount_eq HR.out)
          have hn : n < 4096 := Nat.lt_of_lt_of_le HT.out.small (pow_le12 (by omega))
          clear hB4 hb4 hO4 hR4 HB HR
          go_wp2_with fail
          by_cases h5 : 5 ≤ c
          · refine (pull_yes R n c 5 w4 HR4.out hn (by omega) h5).mono ?_
            rintro e w6 ⟨rfl, hR6, hG6⟩
            obtain ⟨hT6, hv6⟩ := told5_pull HT.out h5
            have HB6 := Lib.hid (bld_gb HB4.out hG6 HR4.out (by decide) hbR)
            have hb6 := hb5.trans (grownBy_below' hG6 hRb hb5.size)
            have HR6 := Lib.hid hR6
            have HT6 := Lib.hid hT6
            clear hR6 hG6 hT6
            go_wp2_with fail
            go_roundw
            case rel => exact ⟨.inl ⟨_, _, _, _, rfl, rfl, hv6, HT6.out, by omega, HR6.out, HB6.out⟩, hb6⟩
            case measure => rw [Hrc.out, rowCount_eq HR6.out]; simp [okN]; omega
          · refine (pull_no R n c 5 w4 HR4.out (by omega)).mono ?_
            rintro e w6 ⟨rfl, rfl⟩
            go_wp2_with fail
            go_roundw
            case rel => exact ⟨.inr ⟨_, _, _, rfl, rfl, HT.out, by omega, HR4.out, HB4.out⟩, hb5⟩
            case measure => rw [Hrc.out, rowCount_eq HR4.out]; simp [okN]
        · have HT := Lib.hid hT
          have HR := Lib.hid hRi
          have HB := Lib.hid hBi
          clear hT hRi hBi
          go_wp2_with fail
          exact ⟨⟨k + 1, vs, n, c, by omega, by go_num, HT.out, hc5, HR.out, HB.out, hbi⟩, by simp [intOf]; omega⟩
    · have hke : s.data.toList.take k = s.data.toList := List.take_of_length_le (by rw [len_data]; omega)
      rw [hke] at HT
      obtain ⟨c0, c1, f0, f1⟩ := HR.out.cells
      have hlen := told5_len HT.out
      have hn : n < 4096 := Nat.lt_of_lt_of_le HT.out.small (pow_le12 (by omega))
      clear hke
      by_cases hc0 : c = 0
      · subst hc0
        have He := Lib.hid (told5_end HT.out rfl)
        clear hlen HT
        go_wp2_with fail
        refine (string_l w.heap.size b _ wr HB.out hbel.size).mono ?_
        rintro e w4 ⟨rfl, hb4⟩
        go_wp2_with fail
        go_ret
        exact ⟨by rw [lettersL, ← He.out]; rfl, hbel.trans hb4⟩
      · have hcp : 0 < c := by omega
        have He := Lib.hid (told5_last HT.out hcp hc)
        have Hsm := Lib.hid (HT.out.small)
        have hvl : vs.length ≤ 10000000 := by rw [len_data] at hlen; omega
        obtain ⟨m, hm⟩ : ∃ m, m = 5 - c := ⟨_, rfl⟩
        have hsub : (5 : Int) - (c : Int) = (m : Int) := by omega
        rw [← hm] at He
        clear hlen HT hc0
        have Hm := Lib.hid hm
        clear hm
        go_wp2_with fail
        refine (push_any R n c 0 m wr HR.out hn (by omega) (by have := Hm.out; omega) (Nat.two_pow_pos m)).mono ?_
        rintro e w2 ⟨rfl, hR2, hG2⟩
        rw [Nat.add_zero, show c + m = 5 by have := Hm.out; omega] at hR2
        have hlt : n * 2 ^ m < 32 := by
          have h1 : (n + 1) * 2 ^ m ≤ 2 ^ c * 2 ^ m := Nat.mul_le_mul_right _ Hsm.out
          rw [← Nat.pow_add, show c + m = 5 by have := Hm.out; omega, Nat.add_mul] at h1
          have := Nat.two_pow_pos m
          omega
        have HB2 := Lib.hid (bld_gb HB.out hG2 HR.out (by decide) hbR)
        have HR2 := Lib.hid hR2
        replace hbel := hbel.trans (grownBy_below' hG2 hRb hbel.size)
        clear hR2 hG2 c0 c1 f0 f1 HB HR
        generalize n * 2 ^ m = x at He hlt HR2
        go_wp2_with fail
        refine (pull_yes R x 5 5 w2 HR2.out (by omega) (by omega) (by omega)).mono ?_
        rintro e w3 ⟨rfl, hR3, hG3⟩
        rw [show x / 2 ^ (5 - 5) = x by simp]
        have HB3 := Lib.hid (bld_gb HB2.out hG3 HR2.out (by decide) hbR)
        replace hbel := hbel.trans (grownBy_below' hG3 hRb hbel.size)
        clear hR3 hG3 HB2 HR2
        have h32 : (x : Int) < 32 := by omega
        go_wp2_with fail
        rw [lit_letter]
        refine (writeByte_l w.heap.size b (vs.map letterC) (letterC x) w3 HB3.out (by simp; omega) hbel.size).mono ?_
        rintro e w4 ⟨rfl, hB4, hb4, hO4⟩
        have HB4 := Lib.hid hB4
        replace hbel := hbel.trans hb4
        clear hB4 hb4 hO4
        go_wp2_with fail
        refine (string_l w.heap.size b _ w4 HB4.out hbel.size).mono ?_
        rintro e w5 ⟨rfl, hb5⟩
        go_wp2_with fail
        go_ret
        refine ⟨?_, hbel.trans hb5⟩
        rw [lettersL, ← He.out, List.map_append]
        rfl
end Go.Proofs.YtidnlginjjgmjaaDoor
