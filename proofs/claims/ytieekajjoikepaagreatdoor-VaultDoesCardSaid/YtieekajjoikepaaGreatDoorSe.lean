/-
  Contract of seal.Once.
  Contracts of seal.padded, seal.Told.
  Contracts of seal.Seal, seal.fits, seal.Open.
-/
import Derived.Test.YtieekajjoikepaaGreatDoorTg
import Derived.Test.YtieekajjoikepaaGreatDoorCr
import Derived.Test.YtieekajjoikepaaGreatDoorBld
namespace Go.Proofs.YtieekajjoikepaaGreatDoor
/- Seal -/
open Go.RowKit
set_option linter.unusedVariables false
set_option linter.unusedSimpArgs false
set_option maxRecDepth 100000
set_option maxHeartbeats 1000000

def onceE (key nonce : ByteArray) : Nat := if key.size = 32 ∧ nonce.size = 12 then 0 else 1
def onceS (key nonce : ByteArray) : ByteArray := if onceE key nonce = 0 then bs ((blockL key.data.toList nonce.data.toList 0).take 32) else ⟨#[]⟩
theorem block_64 (key nonce : List UInt8) (n : Int) : (blockL key nonce n).length = 64 := by
  unfold blockL
  rw [joinL_length, sumsTo_len]
theorem once_len {key nonce : ByteArray} (h : onceE key nonce = 0) : (onceS key nonce).size = 32 := by
  unfold onceS
  rw [if_pos h, bs_size, List.length_take, block_64]
  rfl
theorem once_any (key nonce : ByteArray) (w : World) (hT : Turns w) (hk1 : key.size ≤ maxLen) (ho1 : nonce.size ≤ maxLen) :
    Calls Tryz.prog 107 #[.string key, .string nonce] w fun e w' => e = .returned (.tuple #[.string (onceS key nonce), .int .i64 (onceE key nonce : Nat)]) ∧ Below w.heap.size w w' := by
  have hk2 := hk1
  have ho2 := ho1
  unfold maxLen at hk2 ho2
  by_cases h : key.size = 32 ∧ nonce.size = 12
  · have e : onceE key nonce = 0 := if_pos h
    have e' : onceS key nonce = bs ((blockL key.data.toList nonce.data.toList 0).take 32) := if_pos e
    rw [e, e']
    have HB := Lib.hid (fun W hW => block_yes key nonce 0 W hW h.1 h.2 ⟨by omega, by omega⟩)
    have HT := Lib.hid hT
    obtain ⟨bl, hbl⟩ : ∃ bl, bl = bs (blockL key.data.toList nonce.data.toList 0) := ⟨_, rfl⟩
    have hb64 : bl.size = 64 := by rw [hbl, bs_size, block_64]
    have HE := Lib.hid (show bl.extract 0 32 = bs ((blockL key.data.toList nonce.data.toList 0).take 32) by rw [hbl, extract_bs, bs_data, List.drop_zero])
    rw [← hbl] at HB
    have h32 : (32 : Int) ≤ (bl.size : Int) := by omega
    clear e e' h hT hbl hb64 hk1 ho1 hk2 ho2
    go_enter Tryz.func107, Tryz.ntmps107
    go_wp2_with fail
    refine (HB.out _ HT.out).mono ?_
    rintro e w1 ⟨rfl, hb1⟩
    go_wp2_with fail
    go_ret2
    rw [← HE.out]
    exact ⟨rfl, hb1⟩
  · have e : onceE key nonce = 1 := if_neg h
    have e' : onceS key nonce = ⟨#[]⟩ := by unfold onceS; rw [e]; rfl
    rw [e, e']
    have HB := Lib.hid (fun W => block_no key nonce 0 W hk2 ho2 (fun x => h ⟨x.1, x.2.1⟩))
    clear e e' h hT hk1 ho1 hk2 ho2
    go_enter Tryz.func107, Tryz.ntmps107
    go_wp2_with fail
    refine (HB.out _).mono ?_
    rintro e w1 ⟨rfl, hb1⟩
    go_wp2_with fail
    go_ret2
    exact ⟨rfl, hb1⟩

/- Seal2 -/
open Go.RowKit
set_option linter.unusedVariables false
set_option linter.unusedSimpArgs false
set_option maxRecDepth 100000
set_option maxHeartbeats 1000000

/-- Bytes 0 up to a multiple of 16. -/
def pad16 (l : List UInt8) : List UInt8 := l ++ List.replicate ((16 - l.length % 16) % 16) 0
theorem pad16_len (l : List UInt8) : (pad16 l).length % 16 = 0 ∧ l.length ≤ (pad16 l).length ∧ (pad16 l).length ≤ l.length + 15 := by
  unfold pad16
  rw [List.length_append, List.length_replicate]
  omega
def lens8 (n : Nat) : List UInt8 := (List.range 8).map fun i => UInt8.ofNat (n >>> (8 * i))
def padTo (ss : List ByteArray) : Nat → List UInt8
  | 0 => []
  | k + 1 => pad16 (padTo ss k ++ (ss.getD k ⟨#[]⟩).data.toList)
def lensTo (ss : List ByteArray) (l : List UInt8) : Nat → List UInt8
  | 0 => l
  | k + 1 => lensTo ss l k ++ lens8 (ss.getD k ⟨#[]⟩).size
def paddedL (ss : List ByteArray) : List UInt8 := lensTo ss (padTo ss ss.length) ss.length
theorem padTo_len {ss : List ByteArray} (h : ∀ s ∈ ss, s.size ≤ 5000) : ∀ k, (padTo ss k).length ≤ 5015 * k
  | 0 => Nat.zero_le _
  | k + 1 => by
    have ih := padTo_len h k
    have h2 := (pad16_len (padTo ss k ++ (ss.getD k ⟨#[]⟩).data.toList)).2.2
    have h3 : (ss.getD k ⟨#[]⟩).size ≤ 5000 := by
      rw [List.getD_eq_getElem?_getD]
      rcases Nat.lt_or_ge k ss.length with hk | hk
      · rw [List.getElem?_eq_getElem hk]; exact h _ (List.getElem_mem hk)
      · rw [List.getElem?_eq_none hk]; exact Nat.zero_le _
    rw [padTo]
    rw [List.length_append, len_data] at h2
    omega
theorem lensTo_len (ss : List ByteArray) (l : List UInt8) : ∀ k, (lensTo ss l k).length = l.length + 8 * k
  | 0 => rfl
  | k + 1 => by rw [lensTo, List.length_append, lensTo_len ss l k]; simp [lens8]; omega
theorem padded_any (A : Option Addr) (n c : Nat) (ss : List ByteArray) (w : World) (hr : Rd w A (textsV ss)) (hn : n = ss.length) (hl : ss.length ≤ 2) (hs : ∀ s ∈ ss, s.size ≤ 5000) :
    Calls Tryz.prog 127 #[.slice A n c] w fun e w' => e = .returned (.string (bs (paddedL ss))) ∧ Below w.heap.size w w' := by
  have HR := Lib.hid hr
  have HN := Lib.hid hn
  have HS := Lib.hid hs
  have hn2 : n ≤ 2 := by omega
  have HB0 := Lib.hid (bld_new (w := w) (B := w.heap.size) (Nat.le_refl _))
  have Hb0 := Lib.hid ((Below.refl w.heap.size w).alloc (Nat.le_refl _) (.cells #[.pointer none, .slice none 0 0] 174))
  clear hr hn hl hs
  go_enter Tryz.func127, Tryz.ntmps127
  go_wp2_with fail
  go_loopw [11] (fun x wr => ∃ k : Nat, k ≤ n ∧ x = .int .i64 (k : Nat) ∧ Bld wr w.heap.size w.heap.size (padTo ss k) ∧ Below w.heap.size w wr) (fun x _ => n - (intOf x).toNat)
  case atStart => exact ⟨0, by omega, rfl, HB0.out, Hb0.out⟩
  case round =>
    obtain ⟨k, hk, rfl, hB, hb⟩ := hrel
    have HBl := Lib.hid hB
    have Hb := Lib.hid hb
    have HRk := Lib.hid (HR.out.below hb)
    clear hB hb
    by_cases hlt : k < n
    · have e1 : decide ((k : Int) < (n : Int)) = true := by simp; omega
      have e2 : (k : Int) < (n : Int) := by omega
      have hil : k < ss.length := by rw [← HN.out]; exact hlt
      obtain ⟨bb, off, hA, c0⟩ := texts_at HRk.out hil
      subst hA
      have Hsz := Lib.hid (HS.out _ (List.getElem_mem hil))
      have Hst := Lib.hid (show padTo ss (k + 1) = pad16 (padTo ss k ++ ss[k].data.toList) by rw [padTo, List.getD_eq_getElem?_getD, List.getElem?_eq_getElem hil]; rfl)
      have Hpl := Lib.hid (padTo_len HS.out k)
      generalize ss[k] = s at c0 Hsz Hst
      have hpl := Hpl.out
      have hsz := Hsz.out
      go_wp2_with fail
      refine (writeString_l w.heap.size w.heap.size (padTo ss k) s _ HBl.out (by omega) Hb.out.size).mono ?_
      rintro e w2 ⟨rfl, hB2, hb2, _⟩
      obtain ⟨l1, hl1⟩ : ∃ l1, l1 = padTo ss k ++ s.data.toList := ⟨_, rfl⟩
      have hlen1 : l1.length ≤ 20000 := by rw [hl1, List.length_append, len_data]; omega
      rw [← hl1] at hB2 Hst
      obtain ⟨P, hP⟩ : ∃ P, P = (16 - l1.length % 16) % 16 := ⟨_, rfl⟩
      have HP := Lib.hid hP
      have Hst2 := Lib.hid (show padTo ss (k + 1) = l1 ++ List.replicate P 0 by rw [Hst.out, hP]; rfl)
      have HB2 := Lib.hid hB2
      have Hb2 := Lib.hid (Hb.out.trans hb2)
      have hle := Hb.out.size
      have Hl1 := Lib.hid hlen1
      clear hl1 hB2 hb2 hP hpl hsz Hst hlen1
      go_wp2_with fail
      go_loopg [17] P (fun gk _ wv => ∃ j : Nat, j ≤ P ∧ P - j ≤ gk ∧ Bld wv w.heap.size w.heap.size (l1 ++ List.replicate j 0) ∧ Below w.heap.size w wv)
      case atStart => exact ⟨0, by omega, by omega, by rw [List.replicate_zero, List.append_nil]; exact HB2.out, Hb2.out⟩
      case round =>
        obtain ⟨j, hj, hg, hBj, hbj⟩ := hrel
        have HBj := Lib.hid hBj
        have Hbj := Lib.hid hbj
        clear hBj hbj
        go_wp2_with fail
        refine (len_l w.heap.size w.heap.size _ _ HBj.out).mono ?_
        rintro e w3 ⟨rfl, rfl⟩
        rw [List.length_append, List.length_replicate]
        obtain ⟨L, hL⟩ : ∃ L, L = l1.length + j := ⟨_, rfl⟩
        rw [← hL]
        have hPo := HP.out
        by_cases hjP : j < P
        · have e3 : ((L : Int) % 16 != 0) = true := by simp; omega
          have Hn1 := Lib.hid (show l1 ++ List.replicate j 0 ++ [0] = l1 ++ List.replicate (j + 1) 0 by rw [List.append_assoc, ← List.replicate_succ'])
          have hl9 := Hl1.out
          have hj16 : P < 16 := by omega
          clear hPo hL
          go_wp2_with fail
          refine (writeByte_n w.heap.size w.heap.size (l1 ++ List.replicate j 0) 0 (by omega) _ HBj.out (by rw [List.length_append, List.length_replicate]; omega) Hbj.out.size).mono ?_
          rintro e w4 ⟨rfl, hB4, hb4, _⟩
          have HB4 := Lib.hid hB4
          have Hb4 := Lib.hid (Hbj.out.trans hb4)
          clear hB4 hb4
          go_wp2_with fail
          go_roundg (P - (j + 1))
          case measure => omega
          case rel => exact ⟨j + 1, by omega, by omega, by rw [← Hn1.out]; exact HB4.out, Hb4.out⟩
        · obtain rfl : j = P := by omega
          have e3 : ((L : Int) % 16 != 0) = false := by simp; omega
          clear hPo hL
          go_wp2_with fail
          go_roundw
          case rel => exact ⟨k + 1, by omega, by go_num, by rw [Hst2.out]; exact HBj.out, Hbj.out⟩
          case measure => simp [intOf]; omega
    · obtain rfl : k = n := by omega
      have e1 : decide ((k : Int) < (k : Int)) = false := by simp
      have Hpl := Lib.hid (padTo_len HS.out k)
      obtain ⟨l2, hl2⟩ : ∃ l2, l2 = padTo ss k := ⟨_, rfl⟩
      have HE := Lib.hid (show paddedL ss = lensTo ss l2 k by rw [hl2, paddedL, ← HN.out])
      rw [← hl2] at HBl Hpl
      clear hl2
      go_wp2_with fail
      go_loopw [24] (fun x wv => ∃ i : Nat, i ≤ k ∧ x = .int .i64 (i : Nat) ∧ Bld wv w.heap.size w.heap.size (lensTo ss l2 i) ∧ Below w.heap.size w wv) (fun x _ => k - (intOf x).toNat)
      case atStart => exact ⟨0, by omega, rfl, HBl.out, Hb.out⟩
      case round =>
        obtain ⟨i, hi, rfl, hB, hb⟩ := hrel
        replace HBl := Lib.hid hB
        replace HRk := Lib.hid (HR.out.below hb)
        replace Hb := Lib.hid hb
        clear hB hb
        by_cases hlt : i < k
        · have e1 : decide ((i : Int) < (k : Int)) = true := by simp; omega
          have e2 : (i : Int) < (k : Int) := by omega
          have hil : i < ss.length := by rw [← HN.out]; exact hlt
          obtain ⟨bb, off, hA, c0⟩ := texts_at HRk.out hil
          subst hA
          have Hsz := Lib.hid (HS.out _ (List.getElem_mem hil))
          have Hst := Lib.hid (show lensTo ss l2 (i + 1) = lensTo ss l2 i ++ lens8 ss[i].size by rw [lensTo, List.getD_eq_getElem?_getD, List.getElem?_eq_getElem hil]; rfl)
          have Hll := Lib.hid (lensTo_len ss l2 i)
          generalize ss[i] = s at c0 Hsz Hst
          go_wp2_with fail
          go_loopw [28] (fun x wv => ∃ m : Nat, m ≤ 8 ∧ x = .int .i64 (m : Nat) ∧ Bld wv w.heap.size w.heap.size (lensTo ss l2 i ++ (lens8 s.size).take m) ∧ Below w.heap.size w wv) (fun x _ => 8 - (intOf x).toNat)
          case atStart => exact ⟨0, by omega, rfl, by rw [List.take_zero, List.append_nil]; exact HBl.out, Hb.out⟩
          case round =>
            obtain ⟨m, hm, rfl, hB, hb⟩ := hrel
            replace HBl := Lib.hid hB
            replace Hb := Lib.hid hb
            clear hB hb
            by_cases hm8 : m < 8
            · have e3 : decide ((m : Int) < (8 : Int)) = true := by simp; omega
              have Hbs := Lib.hid (byte_shr s.size (8 * m))
              have Htk := Lib.hid (show (lens8 s.size).take (m + 1) = (lens8 s.size).take m ++ [UInt8.ofNat (s.size >>> (8 * m))] by
                rw [List.take_succ_eq_append_getElem (by simp [lens8]; exact hm8)]
                simp [lens8])
              have hlen : (lensTo ss l2 i ++ (lens8 s.size).take m).length ≤ 1000000000 := by
                have h1 := Hll.out
                have h2 := Hpl.out
                rw [List.length_append, List.length_take]
                simp [lens8]
                omega
              have Hlen := Lib.hid hlen
              clear hlen
              go_wp2_with fail
              rw [Hbs.out]
              refine (writeByte_l w.heap.size w.heap.size _ (UInt8.ofNat (s.size >>> (8 * m))) _ HBl.out Hlen.out Hb.out.size).mono ?_
              rintro e w4 ⟨rfl, hB4, hb4, _⟩
              rw [List.append_assoc, ← Htk.out] at hB4
              have HB4 := Lib.hid hB4
              have Hb4 := Lib.hid (Hb.out.trans hb4)
              clear hB4 hb4
              go_wp2_with fail
              go_roundw
              case rel => exact ⟨m + 1, by omega, by go_num, HB4.out, Hb4.out⟩
              case measure => simp [intOf]; omega
            · obtain rfl : m = 8 := by omega
              have e3 : decide (((8 : Nat) : Int) < (8 : Int)) = false := by simp
              go_wp2_with fail
              go_roundw
              case rel => exact ⟨i + 1, by omega, by go_num, by rw [Hst.out]; have h := HBl.out; rwa [List.take_of_length_le (by simp [lens8])] at h, Hb.out⟩
              case measure => simp [intOf]; omega
        · obtain rfl : i = k := by omega
          have e1 : decide ((i : Int) < (i : Int)) = false := by simp
          go_wp2_with fail
          refine (string_l w.heap.size w.heap.size _ _ HBl.out Hb.out.size).mono ?_
          rintro e w3 ⟨rfl, hb3⟩
          go_wp2_with fail
          go_ret
          rw [HE.out]
          exact ⟨rfl, Hb.out.trans hb3⟩
/-- What a Tag is told of. -/
def toldB (b h : ByteArray) : ByteArray := bs (paddedL [b, h])
theorem told_any (b h : ByteArray) (w : World) (hb : b.size ≤ 5000) (hh : h.size ≤ 5000) :
    Calls Tryz.prog 110 #[.string b, .string h] w fun e w' => e = .returned (.string (toldB b h)) ∧ Below w.heap.size w w' := by
  have HP := Lib.hid (fun W A c hr => padded_any A 2 c [b, h] W hr rfl (by simp) (by simp [hb, hh]))
  have Hal := Lib.hid ((Below.refl w.heap.size w).alloc (Nat.le_refl _) (.cells #[.string b, .string h] 9))
  have Hrd := Lib.hid (show Rd (w.alloc (.cells #[.string b, .string h] 9)) (some ⟨w.heap.size, 0, none⟩) (textsV [b, h]) from rd_new' w 9 #[.string b, .string h] _ rfl)
  clear hb hh
  go_enter Tryz.func110, Tryz.ntmps110
  go_wp2_with fail
  refine (HP.out _ _ _ Hrd.out).mono ?_
  rintro e w1 ⟨rfl, hb1⟩
  go_wp2_with fail
  go_ret
  exact ⟨rfl, Below.chain Hal.out hb1⟩
theorem told_size (b h : ByteArray) (hb : b.size ≤ 4000) (hh : h.size ≤ 4000) : (toldB b h).size ≤ 8200 := by
  have h1 := (pad16_len (padTo [b, h] 0 ++ b.data.toList)).2.2
  have h2 := (pad16_len (padTo [b, h] 1 ++ h.data.toList)).2.2
  have e1 : padTo [b, h] 1 = pad16 (padTo [b, h] 0 ++ b.data.toList) := rfl
  have e2 : padTo [b, h] 2 = pad16 (padTo [b, h] 1 ++ h.data.toList) := rfl
  unfold toldB paddedL
  rw [bs_size, lensTo_len]
  show (padTo [b, h] 2).length + 8 * 2 ≤ 8200
  rw [e2]
  rw [List.length_append, len_data] at h1 h2
  rw [e1] at h2
  simp only [padTo, List.length_nil] at h1 h2
  rw [e1]
  simp only [padTo]
  have m1 := (pad16_len ([] ++ b.data.toList)).1
  have m2 := (pad16_len (pad16 ([] ++ b.data.toList) ++ h.data.toList)).1
  omega

/- Seal3 -/
open Go.RowKit
set_option linter.unusedVariables false
set_option linter.unusedSimpArgs false
set_option maxRecDepth 100000
set_option maxHeartbeats 1000000

theorem text_dec2 (s t : ByteArray) : (s.toList == t.toList) = decide (s = t) := by
  rw [Bool.eq_iff_iff, beq_iff_eq, decide_eq_true_eq]
  refine ⟨fun h => ?_, fun h => by rw [h]⟩
  rw [ByteArray.toList_eq, ByteArray.toList_eq] at h
  exact ByteArray.ext (Array.toList_inj.1 h)
/-- The Tag behind what is hidden. -/
def endS (key nonce beside hidden : ByteArray) : ByteArray := bs (tagL (onceS key nonce).data.toList (toldB beside hidden))
theorem endS_size (key nonce beside hidden : ByteArray) : (endS key nonce beside hidden).size = 16 := by unfold endS; rw [bs_size, tagL_len]
theorem tag_end {key nonce beside hidden : ByteArray} (h : onceE key nonce = 0) (hb : beside.size ≤ 4000) (hh : hidden.size ≤ 4000) : tagE (onceS key nonce) (toldB beside hidden) = 0 ∧ tagS (onceS key nonce) (toldB beside hidden) = endS key nonce beside hidden := by
  have h1 := once_len h
  have h2 := told_size beside hidden hb hh
  have e : tagE (onceS key nonce) (toldB beside hidden) = 0 := by unfold tagE; rw [if_neg (by omega), if_neg (by omega)]
  refine ⟨e, ?_⟩
  unfold tagS endS
  rw [if_pos e]
theorem once_fit {key nonce : ByteArray} (h : onceE key nonce = 0) : key.size = 32 ∧ nonce.size = 12 := by
  unfold onceE at h
  split at h
  · assumption
  · cases h
theorem crypt_fit {key nonce s : ByteArray} (h : onceE key nonce = 0) (hs : s.size ≤ 4000) : cryptB key nonce s 1 = 0 := by
  obtain ⟨h1, h2⟩ := once_fit h
  unfold cryptB
  rw [if_pos ⟨h1, h2, by omega, by omega⟩, if_neg (by rintro (h | ⟨_, h⟩) <;> omega)]
def sealE (key nonce beside s : ByteArray) : Nat := if onceE key nonce ≠ 0 then 1 else if 4000 < beside.size ∨ 4000 < s.size then 2 else 0
def sealS (key nonce beside s : ByteArray) : ByteArray := if sealE key nonce beside s = 0 then cryptS key nonce s 1 ++ endS key nonce beside (cryptS key nonce s 1) else ⟨#[]⟩
theorem onceE_one {key nonce : ByteArray} (h : onceE key nonce ≠ 0) : onceE key nonce = 1 ∧ onceS key nonce = ⟨#[]⟩ := by
  have e : onceE key nonce = 1 := by unfold onceE at h ⊢; split at h; exact absurd rfl h; rw [if_neg (by assumption)]
  exact ⟨e, by unfold onceS; rw [e]; rfl⟩
theorem seal_any (key nonce beside s : ByteArray) (w : World) (hT : Turns w) (hk : key.size ≤ maxLen) (ho : nonce.size ≤ maxLen) (hb : beside.size ≤ maxLen) (hs : s.size ≤ maxLen) :
    Calls Tryz.prog 92 #[.string key, .string nonce, .string beside, .string s] w fun e w' => e = .returned (.tuple #[.string (sealS key nonce beside s), .int .i64 (sealE key nonce beside s : Nat)]) ∧ Below w.heap.size w w' := by
  have HT := Lib.hid hT
  have HO := Lib.hid (fun W hW => once_any key nonce W hW hk ho)
  by_cases h1 : onceE key nonce = 0
  · by_cases hbb : 4000 < beside.size
    · have e : sealE key nonce beside s = 2 := by unfold sealE; rw [if_neg (by simpa using h1), if_pos (.inl hbb)]
      have e' : sealS key nonce beside s = ⟨#[]⟩ := by unfold sealS; rw [e]; rfl
      rw [e, e']
      rw [h1] at HO
      have d2 : decide ((beside.size : Int) > 4000) = true := by simp; omega
      clear hT hk ho hb hs e e' h1 hbb
      go_enter Tryz.func92, Tryz.ntmps92
      go_wp2_with fail
      refine (HO.out _ HT.out).mono ?_
      rintro e w1 ⟨rfl, hb1⟩
      go_wp2_with fail
      go_ret2
      exact ⟨rfl, hb1⟩
    · by_cases hss : 4000 < s.size
      · have e : sealE key nonce beside s = 2 := by unfold sealE; rw [if_neg (by simpa using h1), if_pos (.inr hss)]
        have e' : sealS key nonce beside s = ⟨#[]⟩ := by unfold sealS; rw [e]; rfl
        rw [e, e']
        rw [h1] at HO
        have d2 : decide ((beside.size : Int) > 4000) = false := by simp; omega
        have d3 : decide ((s.size : Int) > 4000) = true := by simp; omega
        clear hT hk ho hb hs e e' h1 hbb hss
        go_enter Tryz.func92, Tryz.ntmps92
        go_wp2_with fail
        refine (HO.out _ HT.out).mono ?_
        rintro e w1 ⟨rfl, hb1⟩
        go_wp2_with fail
        go_ret2
        exact ⟨rfl, hb1⟩
      · have e : sealE key nonce beside s = 0 := by unfold sealE; rw [if_neg (by simpa using h1), if_neg (by omega)]
        have e' : sealS key nonce beside s = cryptS key nonce s 1 ++ endS key nonce beside (cryptS key nonce s 1) := by unfold sealS; rw [if_pos e]
        rw [e, e']
        have hc := crypt_fit h1 (s := s) (by omega)
        have hcl := crypt_len key nonce s 1 hc
        have HC := Lib.hid (fun W hW => crypt_any key nonce s 1 W hW hk ho hs)
        obtain ⟨t1, t2⟩ := tag_end h1 (beside := beside) (hidden := cryptS key nonce s 1) (by omega) (by omega)
        have HTo := Lib.hid (fun W => told_any beside (cryptS key nonce s 1) W (by omega) (by omega))
        have HTg := Lib.hid (fun W => tag_any (onceS key nonce) (toldB beside (cryptS key nonce s 1)) W (by rw [once_len h1]; decide) (Nat.le_trans (told_size _ _ (by omega) (by omega)) (by decide)))
        rw [t1, t2] at HTg
        rw [hc] at HC
        rw [h1] at HO
        have hes := endS_size key nonce beside (cryptS key nonce s 1)
        generalize endS key nonce beside (cryptS key nonce s 1) = en at HTg hes ⊢
        generalize toldB beside (cryptS key nonce s 1) = td at HTo HTg
        generalize cryptS key nonce s 1 = hi at HC HTo hcl ⊢
        have d2 : decide ((beside.size : Int) > 4000) = false := by simp; omega
        have d3 : decide ((s.size : Int) > 4000) = false := by simp; omega
        have d4 : ¬ 9223372036854775807 < hi.size + en.size := by omega
        clear hT hk ho hb hs e e' h1 hbb hss hc hcl t1 t2 hes
        go_enter Tryz.func92, Tryz.ntmps92
        go_wp2_with fail
        refine (HO.out _ HT.out).mono ?_
        rintro e w1 ⟨rfl, hb1⟩
        go_wp2_with fail
        refine (HC.out _ (HT.out.below hb1)).mono ?_
        rintro e w2 ⟨rfl, hb2⟩
        go_wp2_with fail
        refine (HTo.out _).mono ?_
        rintro e w3 ⟨rfl, hb3⟩
        go_wp2_with fail
        refine (HTg.out _).mono ?_
        rintro e w4 ⟨rfl, hb4⟩
        go_wp2_with fail
        go_ret2
        exact ⟨rfl, Below.chain (Below.chain (Below.chain hb1 hb2) hb3) hb4⟩
  · obtain ⟨e1, e2⟩ := onceE_one h1
    have e : sealE key nonce beside s = 1 := by unfold sealE; rw [if_pos h1]
    have e' : sealS key nonce beside s = ⟨#[]⟩ := by unfold sealS; rw [e]; rfl
    rw [e, e']
    rw [e1, e2] at HO
    clear hT hk ho hb hs e e' h1 e1 e2
    go_enter Tryz.func92, Tryz.ntmps92
    go_wp2_with fail
    refine (HO.out _ HT.out).mono ?_
    rintro e w1 ⟨rfl, hb1⟩
    go_wp2_with fail
    go_ret2
    exact ⟨rfl, hb1⟩
def headB (sealed : ByteArray) : ByteArray := sealed.extract 0 (sealed.size - 16)
def tailB (sealed : ByteArray) : ByteArray := sealed.extract (sealed.size - 16) sealed.size
def fitsB (key nonce beside sealed : ByteArray) : Bool := decide (endS key nonce beside (headB sealed) = tailB sealed)
theorem headB_size (sealed : ByteArray) : (headB sealed).size = sealed.size - 16 := by unfold headB; rw [ByteArray.size_extract]; omega
def openE (key nonce beside sealed : ByteArray) : Nat := if onceE key nonce ≠ 0 then 1 else if 4000 < beside.size ∨ 4016 < sealed.size then 2 else if sealed.size < 16 ∨ fitsB key nonce beside sealed = false then 60 else 0
def openS (key nonce beside sealed : ByteArray) : ByteArray := if openE key nonce beside sealed = 0 then cryptS key nonce (headB sealed) 1 else ⟨#[]⟩
end Go.Proofs.YtieekajjoikepaaGreatDoor
