/-
  Contracts of view's seen, Volume.
-/
import Derived.Test.YtkldllnlakaehaaGreatDoorViews
import Derived.Test.YtkldllnlakaehaaGreatDoorVo4
namespace Go.Proofs.YtkldllnlakaehaaGreatDoor
open Go.RowKit
set_option linter.unusedVariables false
set_option linter.unusedSimpArgs false
set_option maxRecDepth 100000
set_option maxHeartbeats 4000000

/-- What is seen of a stored block. -/
def seen12 (b : ByteArray) : ByteArray := bs (frontL 12 b.data.toList)
theorem textsV_app2 (l m : List ByteArray) : textsV (l ++ m) = textsV l ++ textsV m := by simp [textsV]
theorem seen_any (A : Option Addr) (n c : Nat) (bl : List ByteArray) (w : World) (hr : Rd w A (textsV bl)) (hn : n = bl.length) (hm : n ≤ 1000000) (hz : ∀ b ∈ bl, b.size ≤ 1000000) :
    Calls Tryz.prog 30 #[.slice A n c, .func (.func 23) #[.int .i64 12] #[]] w fun e w' => (∃ X cap, e = .returned (.slice X n cap) ∧ Rd w' X (textsV (bl.map seen12))) ∧ Below w.heap.size w w' := by
  have HN := Lib.hid hn
  have HR := Lib.hid hr
  have HZ := Lib.hid hz
  clear hn hr hz
  go_enter Tryz.func30, Tryz.ntmps30
  go_wp2_with fail
  go_loopw [5, 10] (fun u x wr => ∃ (i : Nat) (X : Option Addr) (cap : Nat), i ≤ n ∧ x = .int .i64 (i : Nat) ∧ u = .slice X i cap ∧ wr.ownsRow w.heap.size 9 1 (.slice X i cap) i (textsV ((bl.map seen12).take i)) ∧ Below w.heap.size w wr) (fun _ x _ => n - (intOf x).toNat)
  case atStart => exact ⟨0, none, 0, by omega, rfl, rfl, ⟨rfl, .inl ⟨rfl, rfl⟩⟩, Below.refl _ _⟩
  case round =>
    obtain ⟨i, X, cap, hi, rfl, rfl, hO, hB⟩ := hrel
    have HO := Lib.hid hO
    have HB := Lib.hid hB
    clear hO hB
    by_cases hlt : i < n
    · have e1 : decide ((i : Int) < (n : Int)) = true := by simp; omega
      have hil : i < bl.length := by rw [← HN.out]; exact hlt
      obtain ⟨bA, oA, hbA, c1⟩ := texts_at (HR.out.below HB.out) hil
      subst hbA
      have z1 := HZ.out _ (List.getElem_mem hil)
      have Hsn := Lib.hid (show (bl.map seen12).take (i + 1) = (bl.map seen12).take i ++ [seen12 bl[i]] by rw [← List.map_take, List.take_succ_eq_append_getElem hil, List.map_append, ← List.map_take]; rfl)
      generalize bl[i] = b at c1 z1 Hsn
      have HOf := Lib.hid (fun W => show Calls Tryz.prog 23 #[.int .i64 12, .string b] W fun e w' => e = .returned (.string (seen12 b)) ∧ Below W.heap.size W w' from of_any 12 b W (by omega) z1)
      generalize seen12 b = sb at HOf Hsn
      clear z1 hil
      go_wp2_with fail
      refine (HOf.out _).mono ?_
      rintro e w5 ⟨rfl, hb5⟩
      have HB5 := Lib.hid (HB.out.trans (hb5.mono HB.out.size))
      have HO5 := Lib.hid (own_keep HO.out hb5)
      clear hb5 c1
      go_wp2_with (refine wpList_append_new (by rfl) (.tmp 14) (.tmp 18) 35 (by rfl) w.heap.size 9 (.string ⟨#[]⟩) 1 16 Tryz.underlying35 string_info rfl (by omega) w5 _ _ _ _ _ (by rfl) HO5.out _ 1 1 (by rfl) (by rfl) (by rfl) (by rfl) (by omega) (by omega) (by omega) (by exact HB5.out.size) ?_)
      intro g6 cap6 w6 ho6 hb6 _ _ _
      have HO6 := Lib.hid ho6
      have HB6 := Lib.hid (HB5.out.trans hb6)
      clear ho6 hb6
      go_wp2_with fail
      go_roundw
      case rel => exact ⟨i + 1, some ⟨g6, 0, none⟩, cap6, by omega, by go_num, rfl, by rw [Hsn.out, textsV_app2]; exact HO6.out, HB6.out⟩
      case measure => simp [intOf]; omega
    · obtain rfl : i = n := by omega
      have e1 : decide ((i : Int) < (i : Int)) = false := by simp
      have HF := Lib.hid (show (bl.map seen12).take i = bl.map seen12 by rw [HN.out, List.take_of_length_le (by rw [List.length_map]; exact Nat.le_refl _)])
      rw [HF.out] at HO
      go_wp2_with fail
      go_ret
      exact ⟨⟨X, cap, rfl, own_rd HO.out⟩, HB.out⟩
theorem vseen_any (v : Value) (V : Vol) (w : World) (hv : VV w v V) (hl : V.bl.length ≤ 1000) (hz : ∀ b ∈ V.bl, b.size ≤ 1000000) :
    Calls Tryz.prog 13 #[v] w fun e w' => (∃ X cap, e = .returned (.slice X V.bl.length cap) ∧ Rd w' X (textsV (V.bl.map seen12))) ∧ Below w.heap.size w w' := by
  obtain ⟨A, n, c, rfl, hr, hn⟩ := hv
  have HX := Lib.hid (heap_alloc_new w (.cells #[.slice A n c, .string V.rt] 37))
  have HB := Lib.hid ((Below.refl w.heap.size w).alloc (Nat.le_refl _) (.cells #[.slice A n c, .string V.rt] 37))
  have HS := Lib.hid (fun W h => seen_any A n c V.bl W h hn (by omega) hz)
  have HR := Lib.hid hr
  have x0 := rf_at HX.out 0 _ rfl
  rw [← hn]
  clear hr hz hl hn
  go_enter Tryz.func13, Tryz.ntmps13
  go_wp2_with fail
  refine (HS.out _ (HR.out.below HB.out)).mono ?_
  rintro e w2 ⟨⟨X, cap, rfl, h2⟩, hb2⟩
  have H2 := Lib.hid h2
  have HB2 := Lib.hid (HB.out.trans (hb2.mono HB.out.size))
  clear h2 hb2
  go_wp2_with fail
  go_ret
  exact ⟨⟨X, cap, rfl, H2.out⟩, HB2.out⟩
end Go.Proofs.YtkldllnlakaehaaGreatDoor
