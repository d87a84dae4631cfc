/-
  Contract of keyholeref10.Bytes; it tells what armour.Bytes tells.
-/
import Derived.Test.YtkeeejkijbaooaaDoorRefLetters
namespace Go.Proofs.YtkeeejkijbaooaaDoor
open Go.RowKit
set_option linter.unusedVariables false

theorem byteN_ofNat (l : List Nat) (h : ∀ v ∈ l, v < 2 ^ 8) : byteN (l.map UInt8.ofNat) = l := by
  rw [byteN, List.map_map]
  conv => rhs; rw [← List.map_id l]
  apply List.map_congr_left
  intro v hv
  have := h v hv
  simp
  omega
theorem letters_back (w : List UInt8) (h : allLetters w = true) : (valsOf w).map letterC = w := by
  rw [valsOf, List.map_map]
  conv => rhs; rw [← List.map_id w]
  apply List.map_congr_left
  intro c hc
  have := List.all_eq_true.1 h c hc
  exact letter_val c (by simpa using this)
theorem valsOf_lt (w : List UInt8) : ∀ v ∈ valsOf w, v < 2 ^ 5 := fun v hv => by
  obtain ⟨c, _, rfl⟩ := List.mem_map.1 hv
  have := valI_lt c
  show _ < 32
  omega
/-- The bytes that are whole in a row of letters. -/
def wholeB (w : List UInt8) : List UInt8 := (grp 8 (flat 5 (valsOf w))).map UInt8.ofNat
theorem pad_len (n m q : Nat) (h : 5 * n = 8 * m + q) (hq : q < 8) (h5 : 5 * n % 8 < 5) : (5 - 8 * m % 5) % 5 = q := by
  have e : 5 * n % 8 = q := by omega
  have : q = 0 ∨ q = 1 ∨ q = 2 ∨ q = 3 ∨ q = 4 := by omega
  clear e h5 hq
  rcases this with h | h | h | h | h <;> subst h <;> omega
theorem rest_iff (w : List UInt8) (h : allLetters w = true) : lettersL (wholeB w) = w ↔ restOK w = true := by
  constructor
  · intro e
    have hb := bytes_letters (wholeB w)
    rw [e, bytesRes] at hb
    split at hb
    · rename_i hc
      rw [Bool.and_eq_true] at hc
      exact hc.2
    · cases hb
  · intro hr
    rw [restOK, Bool.and_eq_true, decide_eq_true_eq, decide_eq_true_eq] at hr
    obtain ⟨r, hF, hrl⟩ := flat_grp 8 (by omega) (flat 5 (valsOf w)) (flat_dig 5 _)
    have hlt : ∀ v ∈ grp 8 (flat 5 (valsOf w)), v < 2 ^ 8 := grpF_lt 8 _ _ (flat_dig 5 _)
    have hbn := byteN_ofNat _ hlt
    have hlen := congrArg List.length hF
    have hwl : (valsOf w).length = w.length := by simp [valsOf]
    rw [flat_length, List.length_append, flat_length, hwl] at hlen
    have hw8 : (wholeB w).length = (grp 8 (flat 5 (valsOf w))).length := by simp [wholeB]
    have hr2 : numOf r = 0 := by
      have h2 := hr.2
      rw [hF, show 8 * (5 * w.length / 8) = (flat 8 (grp 8 (flat 5 (valsOf w)))).length by rw [flat_length]; omega] at h2
      rw [← hF] at h2
      have e : (flat 5 (valsOf w)).drop (flat 8 (grp 8 (flat 5 (valsOf w)))).length = r := by
        conv => lhs; arg 2; rw [hF]
        rw [List.drop_left]
      rw [e] at h2
      exact h2
    have hrd : ∀ x ∈ r, x < 2 := fun x hx => flat_dig 5 (valsOf w) x (by rw [hF]; exact List.mem_append.2 (.inr hx))
    have hrz : r = List.replicate r.length 0 := by
      have := bits_num r.length r rfl hrd
      rw [hr2, bitsN_zero] at this
      exact this.symm
    have hp : padded5 (wholeB w) = flat 5 (valsOf w) := by
      rw [padded5, show byteN (wholeB w) = grp 8 (flat 5 (valsOf w)) from hbn, hw8]
      conv => rhs; rw [hF, hrz]
      congr 2
      exact pad_len w.length _ _ hlen hrl hr.1
    have hv : lettersV (wholeB w) = valsOf w := by
      have := letters_digits (wholeB w)
      rw [hp] at this
      exact (flat_inj 5 (by omega) _ _ [] [] (lettersV_lt _) (valsOf_lt w) (by decide) (by decide) (by rw [List.append_nil, List.append_nil]; exact this)).1
    rw [lettersL, hv, letters_back w h]

set_option maxHeartbeats 3000000 in
set_option maxRecDepth 100000 in
theorem refBytes_any (s : ByteArray) (w : World) (hs : s.size ≤ 10000) :
    Calls Tryd.prog 21 #[.string s] w fun e w' => e = .returned (textOr 100 (bytesRes s.data.toList)) ∧ Below w.heap.size w w' := by
  go_enter Tryd.func21, Tryd.ntmps21
  go_wp2_with fail
  go_loopw [4, 5] (fun v i wr => ∃ (k : Nat) (A : Option Addr) (cap : Nat), k ≤ s.size ∧ i = .int .i64 k ∧ v = .slice A (5 * k) cap ∧ allLetters (s.data.toList.take k) = true ∧ wr.ownsRow w.heap.size 3 1 v (5 * k) (nats (flat 5 (valsOf (s.data.toList.take k)))) ∧ Below w.heap.size w wr) (fun _ i _ => s.size - (intOf i).toNat)
  case atStart => exact ⟨0, none, 0, by omega, rfl, rfl, rfl, ⟨rfl, .inl ⟨rfl, rfl⟩⟩, Below.refl _ _⟩
  case round =>
    obtain ⟨k, A, cap, hk, rfl, rfl, hA, ho, hb⟩ := hrel
    have HO := Lib.hid ho
    have HA := Lib.hid hA
    clear ho hA
    by_cases hlt : k < s.size
    · have Hsn : Hid (allLetters (s.data.toList.take (k + 1)) = (allLetters (s.data.toList.take k) && decide (0 ≤ valI s[k])) ∧ valsOf (s.data.toList.take (k + 1)) = valsOf (s.data.toList.take k) ++ [(valI s[k]).toNat]) := Lib.hid (letters_snoc s.data.toList k (by rw [len_data]; exact hlt))
      have Hfa : Hid (valI s[k] < 0 → allLetters s.data.toList = false) := Lib.hid (allLetters_false s.data.toList k (by rw [len_data]; exact hlt))
      go_wp2_with fail
      refine (value_any s[k] wr).mono ?_
      rintro e w2 ⟨rfl, rfl⟩
      have hx32 := valI_lt s[k]
      generalize valI s[k] = x at Hsn Hfa hx32 ⊢
      by_cases hx0 : x < 0
      · go_wp2_with fail
        go_ret2
        refine ⟨?_, hb⟩
        rw [bytesRes, Hfa.out hx0]
        rfl
      · obtain ⟨x, rfl⟩ := Int.eq_ofNat_of_zero_le (by omega : 0 ≤ x)
        have hxn : x < 32 := by omega
        have HA3 := Lib.hid (show allLetters (s.data.toList.take (k + 1)) = true by rw [Hsn.out.1, HA.out]; simp)
        have Hfl := Lib.hid (show flat 5 (valsOf (s.data.toList.take (k + 1))) = flat 5 (valsOf (s.data.toList.take k)) ++ bitsN 5 x by rw [Hsn.out.2, flat_snoc]; rfl)
        clear Hsn Hfa
        go_wp2_with fail
        refine (bits_any x 5 wr (by omega) (by omega) (by omega)).mono ?_
        rintro e w2 ⟨g, rfl, hrd, hb2, hg⟩
        have HO2 := Lib.hid (own_keep HO.out hb2)
        have Hrd := Lib.hid hrd
        have hbel := Below.chain hb hb2
        clear hrd hb2
        go_wp2_with (refine wpList_append_from (by rfl) (.tmp 21) (.tmp 23) 71 (by rfl) w.heap.size 3 (.int .i64 0) 1 8 Tryd.underlying71 int_info rfl (by omega) w2 _ _ _ _ (by rfl) HO2.out _ 5 5 (by rfl) Hrd.out (by rw [nats_length, bitsN_len]) (nats_one _) (by omega) (by omega) (by omega) (by exact hbel.size) ?_)
        intro g2 cap2 w3 ho3 hb3 _ _ _
        have HO3 := Lib.hid ho3
        clear ho3
        go_wp2_with fail
        go_roundw
        case rel =>
          refine ⟨k + 1, some ⟨g2, 0, none⟩, cap2, by omega, by go_num, by rw [Nat.mul_succ], HA3.out, ?_, hbel.trans hb3⟩
          rw [Hfl.out, nats_append, Nat.mul_succ]
          exact HO3.out
        case measure => simp [intOf]; omega
    · obtain rfl : k = s.size := by omega
      have hke : s.data.toList.take s.size = s.data.toList := List.take_of_length_le (by rw [len_data]; exact Nat.le_refl _)
      rw [hke] at HO HA
      clear hke
      have Hres := Lib.hid (show bytesRes s.data.toList = if restOK s.data.toList then some (wholeB s.data.toList) else none by rw [bytesRes, HA.out]; rfl)
      have Hiff := Lib.hid (rest_iff s.data.toList HA.out)
      obtain ⟨r, hF, hrl⟩ := flat_grp 8 (by omega) (flat 5 (valsOf s.data.toList)) (flat_dig 5 _)
      have Hlt := Lib.hid (show ∀ v ∈ grp 8 (flat 5 (valsOf s.data.toList)), v < 2 ^ 8 from grpF_lt 8 _ _ (flat_dig 5 _))
      have hlen := congrArg List.length hF
      have hwl : (valsOf s.data.toList).length = s.size := by simp [valsOf]
      rw [flat_length, List.length_append, flat_length, hwl] at hlen
      have Hwb := Lib.hid (show wholeB s.data.toList = (grp 8 (flat 5 (valsOf s.data.toList))).map UInt8.ofNat from rfl)
      rw [hF] at HO
      generalize grp 8 (flat 5 (valsOf s.data.toList)) = V at HO Hlt hlen Hwb
      obtain ⟨T, hT⟩ : ∃ T, T = 5 * s.size := ⟨_, rfl⟩
      rw [← hT] at HO hlen ⊢
      have hT2 : T ≤ 50000 := by omega
      have Hlen := Lib.hid hlen
      obtain ⟨M, hM⟩ : ∃ M, M = V.length := ⟨_, rfl⟩
      rw [← hM] at Hlen
      have HM := Lib.hid hM
      have Hrl := Lib.hid hrl
      clear hF hlen hwl hT hM hrl HA
      obtain ⟨wp, hwp⟩ : ∃ wp : World, wp = wr := ⟨_, rfl⟩
      rw [← hwp] at HO hb ⊢
      clear hwp
      go_wp2_with fail
      go_loopw [7, 8] (fun v i wr => ∃ (k : Nat) (Ao : Option Addr) (co : Nat), k ≤ M ∧ i = .int .i64 ((8 * k : Nat) : Int) ∧ v = .slice Ao k co ∧ wr.ownsRow w.heap.size 5 1 v k (bytesV ((V.take k).map UInt8.ofNat)) ∧ wr.ownsRow w.heap.size 3 1 (.slice A T cap) T (nats (flat 8 V ++ r)) ∧ (∀ g, v.ownBlock = some g → (Value.slice A T cap).ownBlock ≠ some g) ∧ Below w.heap.size w wr) (fun _ i _ => T - (intOf i).toNat)
      case atStart => exact ⟨0, none, 0, by omega, rfl, rfl, ⟨rfl, .inl ⟨rfl, rfl⟩⟩, HO.out, (fun g h => by cases h), hb⟩
      case round =>
        obtain ⟨k, Ao, co, hk, rfl, rfl, hoo, hoa, hsep, hb⟩ := hrel
        have HOo := Lib.hid hoo
        have HOa := Lib.hid hoa
        have Hsep := Lib.hid hsep
        clear hoo hoa hsep HO
        by_cases hkM : k < M
        · obtain ⟨i, hi⟩ : ∃ i, i = 8 * k := ⟨_, rfl⟩
          have hi5 : i + 8 ≤ T := by have := Hlen.out; omega
          obtain ⟨g1, cap1, hv1, _, hg1⟩ := HOa.out.form (by omega)
          injection hv1 with hA _ hc
          subst hA; subst hc
          have hcap : T ≤ cap := by
            rcases HOa.out.2 with ⟨hv, _⟩ | ⟨g, c, cur, hv, _, _, h, _⟩
            · cases hv
            · injection hv with _ _ h2
              omega
          have h1 : (i : Int) + 8 ≤ (cap : Int) := by omega
          have h2 : (i : Int) + 8 ≤ (T : Int) := by omega
          have Hi := Lib.hid hi
          rw [← hi]
          clear hi
          go_wp2_with fail
          have hkV : k < V.length := by rw [← HM.out]; exact hkM
          have Hrd : Hid (Rd wr (some ⟨g1, i, none⟩) (nats (bitsN 8 V[k]))) := by
            have := rd_part (own_rd HOa.out) i 8
            rw [Nat.zero_add, nats, ← List.map_drop, ← List.map_take, Hi.out, List.drop_append_of_le_length (by rw [flat_length]; omega), List.take_append_of_le_length (by rw [List.length_drop, flat_length]; omega), flat_part 8 V k hkV] at this
            rw [Hi.out]
            exact this
          have hvk : V[k] < 256 := Hlt.out _ (List.getElem_mem hkV)
          have Hnum := Lib.hid (numOf_bits 8 V[k] hvk)
          have Hsn := Lib.hid (show (V.take (k + 1)).map UInt8.ofNat = (V.take k).map UInt8.ofNat ++ [UInt8.ofNat V[k]] by rw [List.take_succ_eq_append_getElem hkV, List.map_append]; rfl)
          refine (number_n _ _ _ (bitsN 8 V[k]) wr Hrd.out (by rw [bitsN_len]) (by rw [bitsN_len]; omega) (bitsN_dig 8 _)).mono ?_
          rintro e w2 ⟨rfl, rfl⟩
          rw [Hnum.out]
          generalize V[k] = x at hvk Hsn
          have hkB : k ≤ 10000 := by have := Hlen.out; omega
          go_wp2_with ((refine wpList_append_new (by rfl) (.tmp 32) (.tmp 40) 80 (by rfl) w.heap.size 5 (.int .u8 0) 1 1 Tryd.underlying80 uint8_info rfl (by omega) wr _ _ _ _ _ (by rfl) HOo.out _ 1 1 (by rfl) (by rfl) (by rfl) (by rfl) (by omega) (by omega) (by omega) (by exact hb.size) ?_))
          intro g2 cap2 w3 ho3 hb3 hk3 hat3 hlt3
          have HO3 := Lib.hid ho3
          clear ho3
          go_wp2_with fail
          go_roundw
          case rel =>
            have hlt1 : g1 < wr.heap.size := hg1
            have hne1 : some g1 ≠ (Value.slice Ao k co).ownBlock := fun e => Hsep.out g1 e.symm rfl
            refine ⟨k + 1, some ⟨g2, 0, none⟩, cap2, by omega, by rw [Hi.out]; go_num, rfl, ?_, ?_, ?_, hb.trans hb3⟩
            · have := HO3.out
              rw [Hsn.out, bytesV_append, List.map_take, show bytesV [UInt8.ofNat x] = [Value.int .u8 (x : Int)] by simp [bytesV]; omega]
              exact this
            · refine own_other HOa.out fun g hg => ?_
              injection hg with hg
              simp only at hg
              rw [← hg]
              exact hk3 g1 hlt1 hne1
            · intro g hg e
              injection hg with hg
              injection e with e
              simp only at hg e
              rcases hat3 with h | h
              · exact Hsep.out g2 h (by rw [hg, ← e]; rfl)
              · omega
          case measure => have := Hi.out; have := Hlen.out; simp [intOf]; omega
        · obtain rfl : k = M := by omega
          have hge : ¬ (((8 * k : Nat) : Int) + 8 ≤ (T : Int)) := by have := Hlen.out; have := Hrl.out; omega
          have hge2 : ¬ (8 * k + 8 ≤ T) := by have := Hlen.out; have := Hrl.out; omega
          have hkB : k ≤ 10000 := by have := Hlen.out; omega
          have hVk : V.take k = V := List.take_of_length_le (by rw [← HM.out]; exact Nat.le_refl _)
          rw [hVk, ← Hwb.out] at HOo
          clear hVk
          by_cases hk0 : k = 0
          · subst hk0
            have hV : V = [] := List.eq_nil_of_length_eq_zero HM.out.symm
            have hnil : bs (wholeB s.data.toList) = ⟨#[]⟩ := by rw [Hwb.out, hV]; rfl
            have Hnil := Lib.hid hnil
            rcases HOo.out.2 with ⟨hv, _⟩ | ⟨g, c, cur, hv, _⟩
            · injection hv with h1 _ h3
              subst h1; subst h3
              have HCV := Lib.hid (show ∀ w2, Below wr.heap.size wr w2 → (convert 80 9 (.slice none 0 0)).run Tryd.prog w2 = .ok (.string (bs (wholeB s.data.toList))) w2 from fun w2 _ => by rw [hnil]; exact conv_nil w2)
              clear hV hnil
              have hcv := HCV.out wr (Below.refl _ _)
              go_wp2_with fail
              refine (refLetters_any (bs (wholeB s.data.toList)) wr (by rw [bs_size, Hwb.out, List.length_map, ← HM.out]; omega)).mono ?_
              rintro e w2 ⟨rfl, hb2⟩
              rw [bs_data]
              have hcv2 := HCV.out w2 hb2
              have hbel := Below.chain hb hb2
              clear hb2
              by_cases he : lettersL (wholeB s.data.toList) = s.data.toList
              · rw [show bs (lettersL (wholeB s.data.toList)) = s by rw [he]; rfl]
                have hr := Hiff.out.1 he
                have Hr := Lib.hid hr
                clear hr he
                go_wp2_with fail
                go_ret2
                refine ⟨?_, hbel⟩
                rw [Hres.out, Hr.out]
                rfl
              · have hne : ((bs (lettersL (wholeB s.data.toList))).toList == s.toList) = false := text_ne' fun e => he (congrArg (fun x : ByteArray => x.data.toList) e)
                have Hr := Lib.hid (show ¬ restOK s.data.toList = true from fun h => he (Hiff.out.2 h))
                clear he
                go_wp2_with fail
                go_ret2
                refine ⟨?_, hbel⟩
                rw [Hres.out, if_neg Hr.out]
                rfl
            · injection hv with h1 _ h3
              subst h1; subst h3
              have HCV := Lib.hid (show ∀ w2, Below wr.heap.size wr w2 → (convert 80 9 (.slice (some ⟨g, 0, none⟩) 0 co)).run Tryd.prog w2 = .ok (.string (bs (wholeB s.data.toList))) w2 from fun w2 _ => by rw [hnil]; exact conv_rd (A := ⟨g, 0, none⟩) (l := []) (Rd.nil _ _) co 0 rfl)
              clear hV hnil
              have hcv := HCV.out wr (Below.refl _ _)
              go_wp2_with fail
              refine (refLetters_any (bs (wholeB s.data.toList)) wr (by rw [bs_size, Hwb.out, List.length_map, ← HM.out]; omega)).mono ?_
              rintro e w2 ⟨rfl, hb2⟩
              rw [bs_data]
              have hcv2 := HCV.out w2 hb2
              have hbel := Below.chain hb hb2
              clear hb2
              by_cases he : lettersL (wholeB s.data.toList) = s.data.toList
              · rw [show bs (lettersL (wholeB s.data.toList)) = s by rw [he]; rfl]
                have hr := Hiff.out.1 he
                have Hr := Lib.hid hr
                clear hr he
                go_wp2_with fail
                go_ret2
                refine ⟨?_, hbel⟩
                rw [Hres.out, Hr.out]
                rfl
              · have hne : ((bs (lettersL (wholeB s.data.toList))).toList == s.toList) = false := text_ne' fun e => he (congrArg (fun x : ByteArray => x.data.toList) e)
                have Hr := Lib.hid (show ¬ restOK s.data.toList = true from fun h => he (Hiff.out.2 h))
                clear he
                go_wp2_with fail
                go_ret2
                refine ⟨?_, hbel⟩
                rw [Hres.out, if_neg Hr.out]
                rfl
          · obtain ⟨g2, cap2, hv2, _, _⟩ := HOo.out.form (by omega)
            injection hv2 with hA2 _ hc2
            subst hA2; subst hc2
            have HCV := Lib.hid (show ∀ w2, Below wr.heap.size wr w2 → (convert 80 9 (.slice (some ⟨g2, 0, none⟩) k co)).run Tryd.prog w2 = .ok (.string (bs (wholeB s.data.toList))) w2 from fun w2 hb2 => conv_rd (own_rd (own_keep HOo.out hb2)) co k (by rw [Hwb.out, List.length_map, HM.out]))
            have hcv := HCV.out wr (Below.refl _ _)
            go_wp2_with fail
            refine (refLetters_any (bs (wholeB s.data.toList)) wr (by rw [bs_size, Hwb.out, List.length_map, ← HM.out]; omega)).mono ?_
            rintro e w2 ⟨rfl, hb2⟩
            rw [bs_data]
            have hcv2 := HCV.out w2 hb2
            have hbel := Below.chain hb hb2
            clear hb2
            by_cases he : lettersL (wholeB s.data.toList) = s.data.toList
            · rw [show bs (lettersL (wholeB s.data.toList)) = s by rw [he]; rfl]
              have hr := Hiff.out.1 he
              have Hr := Lib.hid hr
              clear hr he
              go_wp2_with fail
              go_ret2
              refine ⟨?_, hbel⟩
              rw [Hres.out, Hr.out]
              rfl
            · have hne : ((bs (lettersL (wholeB s.data.toList))).toList == s.toList) = false := text_ne' fun e => he (congrArg (fun x : ByteArray => x.data.toList) e)
              have Hr := Lib.hid (show ¬ restOK s.data.toList = true from fun h => he (Hiff.out.2 h))
              clear he
              go_wp2_with fail
              go_ret2
              refine ⟨?_, hbel⟩
              rw [Hres.out, if_neg Hr.out]
              rfl
end Go.Proofs.YtkeeejkijbaooaaDoor
