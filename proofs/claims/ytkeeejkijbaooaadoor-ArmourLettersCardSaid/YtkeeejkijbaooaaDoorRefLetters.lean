/-
  Contract of keyholeref10.Letters.
-/
import Derived.Test.YtkeeejkijbaooaaDoorRef10
namespace Go.Proofs.YtkeeejkijbaooaaDoor
open Go.RowKit
set_option linter.unusedVariables false

/-- A row stays where its block does. -/
theorem own_other {w w' : World} {B : Nat} {e : TypeId} {size : Nat} {v : Value} {n : Nat} {xs : List Value} (h : w.ownsRow B e size v n xs) (hk : ∀ g, v.ownBlock = some g → w'.heap[g]? = w.heap[g]?) : w'.ownsRow B e size v n xs := by
  refine ⟨h.1, ?_⟩
  rcases h.2 with h | ⟨g, cap, cur, hv, hB, hg, hr⟩
  · exact .inl h
  · exact .inr ⟨g, cap, cur, hv, hB, (hk g (by rw [hv]; rfl)).trans hg, hr⟩
theorem conv_nil (w : World) : (convert 80 9 (.slice none 0 0)).run Tryd.prog w = .ok (.string ⟨#[]⟩) w := by kernel_rfl
/-- The zeros that are put behind. -/
def padP (n : Nat) : Nat := (5 - n % 5) % 5

theorem flat_part (m : Nat) : ∀ (vs : List Nat) (k : Nat) (h : k < vs.length), ((flat m vs).drop (m * k)).take m = bitsN m vs[k]
  | v :: vs, 0, _ => by
    rw [flat_cons, Nat.mul_zero, List.drop_zero, List.take_append_of_le_length (by rw [bitsN_len]; omega), List.take_of_length_le (by rw [bitsN_len]; omega)]
    rfl
  | v :: vs, k + 1, h => by
    rw [flat_cons, Nat.mul_succ, Nat.add_comm, ← List.drop_drop]
    have := List.drop_left (l₁ := bitsN m v) (l₂ := flat m vs)
    rw [bitsN_len] at this
    rw [this, flat_part m vs k (by simpa using h)]
    rfl
/-- A part of a row that is read. -/
theorem rd_part {w : World} {b off : Nat} {xs : List Value} (h : Rd w (some ⟨b, off, none⟩) xs) (i n : Nat) : Rd w (some ⟨b, off + i, none⟩) ((xs.drop i).take n) := fun j u hu => by
  have hj : j < n := by
    rcases Nat.lt_or_ge j n with h | h
    · exact h
    · rw [List.getElem?_eq_none (by rw [List.length_take]; omega)] at hu; cases hu
  rw [List.getElem?_take_of_lt hj, List.getElem?_drop] at hu
  obtain ⟨b', o', hA, hc⟩ := h (i + j) u hu
  injection hA with hA
  injection hA with h1 h2
  subst h1; subst h2
  exact ⟨_, _, rfl, by rw [Nat.add_assoc]; exact hc⟩

set_option maxHeartbeats 1000000 in
set_option maxRecDepth 100000 in
theorem refLetters_any (s : ByteArray) (w : World) (hs : s.size ≤ 10000) :
    Calls Tryd.prog 24 #[.string s] w fun e w' => e = .returned (.string (bs (lettersL s.data.toList))) ∧ Below w.heap.size w w' := by
  go_enter Tryd.func24, Tryd.ntmps24
  go_wp2_with fail
  go_loopw [3, 4] (fun v i wr => ∃ (k : Nat) (A : Option Addr) (cap : Nat), k ≤ s.size ∧ i = .int .i64 k ∧ v = .slice A (8 * k) cap ∧ wr.ownsRow w.heap.size 3 1 v (8 * k) (nats (flat 8 (byteN (s.data.toList.take k)))) ∧ Below w.heap.size w wr) (fun _ i _ => s.size - (intOf i).toNat)
  case atStart => exact ⟨0, none, 0, by omega, rfl, rfl, ⟨rfl, .inl ⟨rfl, rfl⟩⟩, Below.refl _ _⟩
  case round =>
    obtain ⟨k, A, cap, hk, rfl, rfl, ho, hb⟩ := hrel
    have HO := Lib.hid ho
    clear ho
    by_cases hlt : k < s.size
    · have hx := s[k].toNat_lt
      have Hsn := Lib.hid (show flat 8 (byteN (s.data.toList.take (k + 1))) = flat 8 (byteN (s.data.toList.take k)) ++ bitsN 8 s[k].toNat by
        rw [List.take_succ_eq_append_getElem (by rw [len_data]; exact hlt), byteN, List.map_append, List.map_cons, List.map_nil, flat_snoc]
        rfl)
      go_wp2_with fail
      refine (bits_any s[k].toNat 8 wr (by omega) (by omega) (by omega)).mono ?_
      rintro e w2 ⟨g, rfl, hrd, hb2, hg⟩
      have HO2 := Lib.hid (own_keep HO.out hb2)
      have Hrd := Lib.hid hrd
      have hbel := Below.chain hb hb2
      clear hrd hb2
      go_wp2_with (refine wpList_append_from (by rfl) (.tmp 13) (.tmp 18) 71 (by rfl) w.heap.size 3 (.int .i64 0) 1 8 Tryd.underlying71 int_info rfl (by omega) w2 _ _ _ _ (by rfl) HO2.out _ 8 8 (by rfl) Hrd.out (by rw [nats_length, bitsN_len]) (nats_one _) (by omega) (by omega) (by omega) (by exact hbel.size) ?_)
      intro g2 cap2 w3 ho3 hb3 _ _ _
      have HO3 := Lib.hid ho3
      clear ho3
      go_wp2_with fail
      go_roundw
      case rel =>
        refine ⟨k + 1, some ⟨g2, 0, none⟩, cap2, by omega, by go_num, by rw [Nat.mul_succ], ?_, hbel.trans hb3⟩
        rw [Hsn.out, nats_append, Nat.mul_succ]
        exact HO3.out
      case measure => simp [intOf]; omega
    · obtain rfl : k = s.size := by omega
      have hke : s.data.toList.take s.size = s.data.toList := List.take_of_length_le (by rw [len_data]; exact Nat.le_refl _)
      rw [hke] at HO
      have Hpad := Lib.hid (show padded5 s.data.toList = flat 8 (byteN s.data.toList) ++ List.replicate (padP (8 * s.size)) 0 from rfl)
      have HL0 := Lib.hid (show (flat 8 (byteN s.data.toList)).length = 8 * s.size by rw [flat_length, byteN, List.length_map, len_data])
      obtain ⟨N, hN⟩ : ∃ N, N = 8 * s.size := ⟨_, rfl⟩
      rw [← hN] at HO Hpad HL0 ⊢
      have hN8 : N ≤ 80000 := by omega
      have hP5 : padP N < 5 := by unfold padP; omega
      generalize flat 8 (byteN s.data.toList) = L0 at HO Hpad HL0
      clear hke hN
      obtain ⟨wo, hwo⟩ : ∃ wo : World, wo = wr := ⟨_, rfl⟩
      rw [← hwo] at HO hb ⊢
      clear hwo
      go_wp2_with fail
      go_loopw [3] (fun v wr => ∃ (j : Nat) (A : Option Addr) (cap : Nat), j ≤ padP N ∧ v = .slice A (N + j) cap ∧ wr.ownsRow w.heap.size 3 1 v (N + j) (nats (L0 ++ List.replicate j 0)) ∧ Below w.heap.size w wr) (fun v _ => N + 10 - lenOf v)
      case atStart => exact ⟨0, A, cap, by omega, rfl, by simpa using HO.out, hb⟩
      case round =>
        obtain ⟨j, A, cap, hj, rfl, ho, hb⟩ := hrel
        clear HO
        have HO := Lib.hid ho
        clear ho
        by_cases hjp : j < padP N
        · obtain ⟨T, hT⟩ : ∃ T, T = N + j := ⟨_, rfl⟩
          have hne : ((T : Int) % 5 != 0) = true := by rw [bne_iff_ne]; unfold padP at hjp; omega
          rw [← hT] at HO ⊢
          have HTe := Lib.hid hT
          have hT2 : T ≤ 90000 := by omega
          clear hT
          go_wp2_with (refine wpList_append_new (by rfl) (.tmp 24) (.tmp 25) 71 (by rfl) w.heap.size 3 (.int .i64 0) 1 8 Tryd.underlying71 int_info rfl (by omega) wr _ _ _ _ _ (by rfl) HO.out _ 1 1 (by rfl) (by rfl) (by rfl) (by rfl) (by omega) (by omega) (by omega) (by exact hb.size) ?_)
          intro g2 cap2 w2 ho2 hb2 _ _ _
          have HO2 := Lib.hid ho2
          clear ho2
          go_wp2_with fail
          go_roundw
          case rel =>
            refine ⟨j + 1, some ⟨g2, 0, none⟩, cap2, by omega, by rw [HTe.out, Nat.add_assoc], ?_, hb.trans hb2⟩
            have := HO2.out
            rw [HTe.out] at this ⊢
            rw [List.replicate_succ', ← List.append_assoc, nats_append, ← Nat.add_assoc]
            exact this
          case measure => have := HTe.out; simp [lenOf]; omega
        · obtain rfl : j = padP N := by omega
          rw [← Hpad.out] at HO
          obtain ⟨T, hT⟩ : ∃ T, T = N + padP N := ⟨_, rfl⟩
          have hT5 : T % 5 = 0 := by rw [hT]; unfold padP; omega
          have hne : ((T : Int) % 5 != 0) = false := by rw [bne_eq_false_iff_eq]; omega
          rw [← hT] at HO ⊢
          have HTl := Lib.hid (show (padded5 s.data.toList).length = T by rw [Hpad.out, List.length_append, HL0.out, List.length_replicate, hT])
          have hT2 : T ≤ 90000 := by omega
          clear hT hj hjp
          obtain ⟨M, hM⟩ : ∃ M, T = 5 * M := ⟨T / 5, by omega⟩
          have HML := Lib.hid (show (lettersV s.data.toList).length = M by
            have := congrArg List.length (letters_digits s.data.toList)
            rw [flat_length, HTl.out] at this
            omega)
          have Hdig := Lib.hid (letters_digits s.data.toList)
          have Hlt := Lib.hid (lettersV_lt s.data.toList)
          have Hlv := Lib.hid (show lettersL s.data.toList = (lettersV s.data.toList).map letterC from rfl)
          generalize lettersV s.data.toList = V at HML Hdig Hlt Hlv
          have HM := Lib.hid hM
          clear hT5 hM
          obtain ⟨wp, hwp⟩ : ∃ wp : World, wp = wr := ⟨_, rfl⟩
          rw [← hwp] at HO hb ⊢
          clear hwp
          go_wp2_with fail
          go_loopw [5, 6] (fun v i wr => ∃ (k : Nat) (Ao : Option Addr) (co : Nat), k ≤ M ∧ i = .int .i64 ((5 * k : Nat) : Int) ∧ v = .slice Ao k co ∧ wr.ownsRow w.heap.size 5 1 v k (bytesV ((V.take k).map letterC)) ∧ wr.ownsRow w.heap.size 3 1 (.slice A T cap) T (nats (flat 5 V)) ∧ (∀ g, v.ownBlock = some g → (Value.slice A T cap).ownBlock ≠ some g) ∧ Below w.heap.size w wr) (fun _ i _ => T - (intOf i).toNat)
          case atStart => exact ⟨0, none, 0, by omega, rfl, rfl, ⟨rfl, .inl ⟨rfl, rfl⟩⟩, by rw [Hdig.out]; exact HO.out, (fun g h => by cases h), hb⟩
          case round =>
            obtain ⟨k, Ao, co, hk, rfl, rfl, hoo, hoa, hsep, hb⟩ := hrel
            have HOo := Lib.hid hoo
            have HOa := Lib.hid hoa
            have Hsep := Lib.hid hsep
            clear hoo hoa hsep HO
            by_cases hkM : k < M
            · obtain ⟨i, hi⟩ : ∃ i, i = 5 * k := ⟨_, rfl⟩
              have hi5 : i + 5 ≤ T := by have := HM.out; omega
              obtain ⟨g1, cap1, hv1, _, hg1⟩ := HOa.out.form (by omega)
              injection hv1 with hA _ hc
              subst hA; subst hc
              have hcap : T ≤ cap := by
                rcases HOa.out.2 with ⟨hv, _⟩ | ⟨g, c, cur, hv, _, _, h, _⟩
                · cases hv
                · injection hv with _ _ h2
                  omega
              have h1 : (i : Int) + 5 ≤ (cap : Int) := by omega
              have Hi := Lib.hid hi
              rw [← hi]
              clear hi
              go_wp2_with fail
              have hkV : k < V.length := by rw [HML.out]; exact hkM
              have Hrd : Hid (Rd wr (some ⟨g1, i, none⟩) (nats (bitsN 5 V[k]))) := by
                have := rd_part (own_rd HOa.out) i 5
                rw [Nat.zero_add, nats, ← List.map_drop, ← List.map_take, Hi.out, flat_part 5 V k hkV] at this
                rw [Hi.out]
                exact this
              have hvk : V[k] < 32 := Hlt.out _ (List.getElem_mem hkV)
              have Hnum := Lib.hid (numOf_bits 5 V[k] hvk)
              have Hsn := Lib.hid (show (V.take (k + 1)).map letterC = (V.take k).map letterC ++ [letterC V[k]] by rw [List.take_succ_eq_append_getElem hkV, List.map_append]; rfl)
              refine (number_n _ _ _ (bitsN 5 V[k]) wr Hrd.out (by rw [bitsN_len]) (by rw [bitsN_len]; omega) (bitsN_dig 5 _)).mono ?_
              rintro e w2 ⟨rfl, rfl⟩
              rw [Hnum.out]
              generalize V[k] = x at hvk Hsn
              have hx32 : (x : Int) < 32 := by omega
              have hkB : k ≤ 90000 := by have := HM.out; omega
              go_wp2_with ((refine wpList_append_new (by rfl) (.tmp 33) (.tmp 41) 80 (by rfl) w.heap.size 5 (.int .u8 0) 1 1 Tryd.underlying80 uint8_info rfl (by omega) wr _ _ _ _ _ (by rfl) HOo.out _ 1 1 (by rfl) (by rfl) (by rfl) (by rfl) (by omega) (by omega) (by omega) (by exact hb.size) ?_))
              intro g2 cap2 w3 ho3 hb3 hk3 hat3 hlt3
              have HO3 := Lib.hid ho3
              clear ho3
              go_wp2_with fail
              go_roundw
              case rel =>
                have hlt1 : g1 < wr.heap.size := hg1
                have hne1 : some g1 ≠ (Value.slice Ao k co).ownBlock := fun e => Hsep.out g1 e.symm rfl
                refine ⟨k + 1, some ⟨g2, 0, none⟩, cap2, by omega, by rw [Hi.out]; go_num, rfl, ?_, ?_, ?_, hb.trans hb3⟩
                · have := HO3.out
                  rw [Hsn.out, bytesV_append, List.map_take]
                  simp only [lit_letter] at this
                  exact this
                · refine own_other HOa.out fun g hg => ?_
                  injection hg with hg
                  simp only at hg
                  rw [← hg]
                  exact hk3 g1 hlt1 hne1
                · intro g hg e
                  injection hg with hg
                  injection e with e
                  simp only at hg e
                  rcases hat3 with h | h
                  · exact Hsep.out g2 h (by rw [hg, ← e]; rfl)
                  · omega
              case measure => have := Hi.out; have := HM.out; simp [intOf]; omega
            · obtain rfl : k = M := by omega
              have hge : ¬ (((5 * k : Nat) : Int) < (T : Int)) := by have := HM.out; omega
              have hge2 : ¬ (5 * k < T) := by have := HM.out; omega
              have hVk : V.take k = V := List.take_of_length_le (by rw [HML.out]; exact Nat.le_refl _)
              rw [hVk] at HOo
              clear hVk
              by_cases hk0 : k = 0
              · subst hk0
                have hV : V = [] := List.eq_nil_of_length_eq_zero HML.out
                have HV := Lib.hid hV
                have hnil : bs (lettersL s.data.toList) = ⟨#[]⟩ := by rw [Hlv.out, hV]; rfl
                have Hnil := Lib.hid hnil
                rcases HOo.out.2 with ⟨hv, _⟩ | ⟨g, c, cur, hv, _⟩
                · injection hv with h1 _ h3
                  subst h1; subst h3
                  clear hV hnil
                  have hcv := conv_nil wr
                  go_wp2_with fail
                  go_ret
                  refine ⟨?_, hb⟩
                  rw [Hnil.out]
                  rfl
                · injection hv with h1 _ h3
                  subst h1; subst h3
                  have hcv := conv_rd (A := ⟨g, 0, none⟩) (l := []) (w := wr) (Rd.nil _ _) co 0 rfl
                  clear hV hnil
                  go_wp2_with fail
                  go_ret
                  refine ⟨?_, hb⟩
                  rw [Hnil.out]
                  rfl
              · obtain ⟨g2, cap2, hv2, _, _⟩ := HOo.out.form (by omega)
                injection hv2 with hA2 _ hc2
                subst hA2; subst hc2
                have hcv := conv_rd (own_rd HOo.out) co k (by rw [List.length_map, HML.out])
                go_wp2_with fail
                go_ret
                refine ⟨?_, hb⟩
                rw [Hlv.out]
                rfl
end Go.Proofs.YtkeeejkijbaooaaDoor
