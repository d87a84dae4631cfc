/-
  Contracts of armour.PutShare and armour.GetShare.
-/
import Derived.Test.YtidnlginjjgmjaaDoorGet2
namespace Go.Proofs.YtidnlginjjgmjaaDoor
open Go.RowKit
set_option linter.unusedVariables false

/-- A share as a value. -/
def shareV (x : Int) (b : List UInt8) : Value := .agg #[.int .i64 x, .string (bs b)]
def putShareRes (x : Int) (b : List UInt8) : Option (List UInt8) := if 1 ≤ x ∧ x ≤ 255 ∧ b.length = 32 then some (putL (UInt8.ofNat x.toNat :: b)) else none
def getShareRes (w : List UInt8) : Option (Int × List UInt8) :=
  match getRes w with
  | some s => if s.length = 33 ∧ s.getD 0 0 ≠ 0 then some (((s.getD 0 0).toNat : Int), s.drop 1) else none
  | none => none
def shareOr (code : Int) : Option (Int × List UInt8) → Value
  | some (x, b) => .tuple #[shareV x b, .int .i64 0]
  | none => .tuple #[shareV 0 [], .int .i64 code]

theorem u8_wrap (x : Int) (h0 : 0 ≤ x) (h1 : x ≤ 255) : x = ((UInt8.ofNat x.toNat).toNat : Int) := by
  obtain ⟨n, rfl⟩ := Int.eq_ofNat_of_zero_le h0
  simp
  omega

set_option maxHeartbeats 400000 in
set_option maxRecDepth 100000 in
theorem putShare_any (x : Int) (b : ByteArray) (w : World) (hR : Rounds w) (hb : b.size ≤ 9223372036854775807) :
    Calls Tryd.prog 12 #[.agg #[.int .i64 x, .string b]] w fun e w' => e = .returned (textOr 1 (putShareRes x b.data.toList)) ∧ Below w.heap.size w w' := by
  have HR := Lib.hid hR
  clear hR
  have hres : putShareRes x b.data.toList = if 1 ≤ x ∧ x ≤ 255 ∧ b.size = 32 then some (putL (UInt8.ofNat x.toNat :: b.data.toList)) else none := rfl
  have Hres := Lib.hid hres
  clear hres
  by_cases h1 : x < 1
  · go_enter Tryd.func12, Tryd.ntmps12
    go_wp2_with fail
    go_ret2
    exact ⟨by rw [Hres.out, if_neg (by omega)]; rfl, (Below.refl _ _).alloc (Nat.le_refl _) _⟩
  · by_cases h2 : 255 < x
    · have d1 : decide (x < 1) = false := by simp; omega
      go_enter Tryd.func12, Tryd.ntmps12
      go_wp2_with fail
      go_ret2
      exact ⟨by rw [Hres.out, if_neg (by omega)]; rfl, (Below.refl _ _).alloc (Nat.le_refl _) _⟩
    · have d1 : decide (x < 1) = false := by simp; omega
      have d2 : decide (255 < x) = false := by simp; omega
      by_cases h3 : b.size = 32
      · have d3 : ((b.size : Int) != 32) = false := by simp [h3]
        have h1' : 1 ≤ x := by omega
        have h2' : x ≤ 255 := by omega
        have hx := u8_wrap x (by omega) (by omega)
        obtain ⟨c, hc⟩ : ∃ c, c = UInt8.ofNat x.toNat := ⟨_, rfl⟩
        rw [← hc] at hx
        have hcv : (convert 49 9 (.slice (some ⟨w.heap.size + 1, 0, none⟩) 1 1)).run Tryd.prog ((w.alloc (.cells #[.int .i64 x, .string b] 31)).alloc (.cells #[.int .u8 x] 5)) = .ok (.string (bs [c])) ((w.alloc (.cells #[.int .i64 x, .string b] 31)).alloc (.cells #[.int .u8 x] 5)) := by
          refine conv_rd ?_ 1 1 rfl
          have := rd_new' (w.alloc (.cells #[.int .i64 x, .string b] 31)) 5 #[.int .u8 x] (w.heap.size + 1) (by simp)
          rw [hx] at this ⊢
          exact this
        have Hx := Lib.hid hx
        have Hc := Lib.hid hc
        have Hb32 := Lib.hid h3
        have hb' : b.size ≤ 32 := by omega
        have hc1 : (bs [c]).size ≤ 1 := Nat.le_refl 1
        clear hx hc h1 h2 h3 hb
        go_enter Tryd.func12, Tryd.ntmps12
        go_wp2_with fail
        have Hd := Lib.hid (show (bs [c] ++ b).data.toList = c :: b.data.toList by simp [bs])
        have hsz : (bs [c] ++ b).size = 33 := by
          rw [← len_data, Hd.out, List.length_cons, len_data, Hb32.out]
        refine (put_yes (bs [c] ++ b) _ (HR.out.below (((Below.refl _ _).alloc (Nat.le_refl _) _).alloc (by simp) _)) (by omega)).mono ?_
        rintro e w2 ⟨rfl, hb2⟩
        rw [Hd.out]
        have hbel := below_two hb2
        clear hb2 hcv
        go_wp2_with fail
        go_ret2
        exact ⟨by rw [Hres.out, if_pos ⟨h1', h2', Hb32.out⟩, ← Hc.out]; rfl, hbel⟩
      · have d3 : ((b.size : Int) != 32) = true := by rw [bne_iff_ne]; omega
        go_enter Tryd.func12, Tryd.ntmps12
        go_wp2_with fail
        go_ret2
        exact ⟨by rw [Hres.out, if_neg (by omega)]; rfl, (Below.refl _ _).alloc (Nat.le_refl _) _⟩

set_option maxHeartbeats 400000 in
theorem getShare_any (s : ByteArray) (w : World) (hT : ArmTabs w) (hs : s.size ≤ 1000000) :
    Calls Tryd.prog 9 #[.string s] w fun e w' => e = .returned (shareOr 100 (getShareRes s.data.toList)) ∧ Below w.heap.size w w' := by
  have HT := Lib.hid hT
  clear hT
  have hg : getShareRes s.data.toList = match getRes s.data.toList with
      | some s => if s.length = 33 ∧ s.getD 0 0 ≠ 0 then some (((s.getD 0 0).toNat : Int), s.drop 1) else none
      | none => none := rfl
  cases hr : getRes s.data.toList with
  | none =>
    rw [hr] at hg
    have Hg := Lib.hid hg
    have Hr := Lib.hid hr
    clear hg hr
    go_enter Tryd.func9, Tryd.ntmps9
    go_wp2_with fail
    refine (get_any s _ (HT.out.below ((Below.refl _ _).alloc (Nat.le_refl _) _)) hs).mono ?_
    rintro e w2 ⟨rfl, hb2⟩
    rw [Hr.out]
    simp only [textOr]
    have H1 := Lib.hid (keep_one hb2)
    have hbel := Below.chain_alloc (Below.refl _ _) hb2
    clear hb2
    have hz : w2.heap[w.heap.size]? = some (.cells #[.int .i64 0, .string (bs [])] 31 (0, 0)) := H1.out
    obtain ⟨c0, c1, f0, f1⟩ := two_cells hz
    have Hz := Lib.hid hz
    clear hz
    go_wp2_with fail
    obtain ⟨d0, d1, _, _⟩ := two_cells (two_set Hz.out (.int .i64 0) (.string ⟨#[]⟩))
    refine bodyPost_ret (v := shareOr 100 none) (by simp [results, Tryd.results9, go_sem, d0, d1, shareOr, shareV, bs]) rfl ⟨by rw [Hg.out], two_by hbel (Nat.le_refl _) _ _⟩
  | some l =>
    rw [hr] at hg
    have Hg := Lib.hid hg
    have Hr := Lib.hid hr
    have hll := (put_get hr).1
    clear hg hr
    obtain ⟨lb, hlb⟩ : ∃ lb, lb = bs l := ⟨_, rfl⟩
    have hls : lb.size = l.length := by rw [hlb, bs_size]
    by_cases h33 : l.length = 33
    · have d33 : ((lb.size : Int) != 33) = false := by rw [hls, h33]; rfl
      have hsz : 0 < lb.size := by omega
      have hsz2 : (1 : Int) ≤ (lb.size : Int) := by omega
      have hsz3 : lb.size ≤ 33 := by omega
      have hx0 : (lb[0]'hsz) = l.getD 0 0 := by
        subst hlb
        have : 0 < l.length := by omega
        show l[0] = _
        simp [this]
      have H33 := Lib.hid h33
      have Hlb := Lib.hid hlb
      have Hls := Lib.hid hls
      clear hls hlb h33
      by_cases h0 : l.getD 0 0 = 0
      · have hq : ((lb[0]'hsz).toNat : Int) = 0 := by rw [hx0, h0]; rfl
        clear hx0
        go_enter Tryd.func9, Tryd.ntmps9
        go_wp2_with fail
        refine (get_any s _ (HT.out.below ((Below.refl _ _).alloc (Nat.le_refl _) _)) hs).mono ?_
        rintro e w2 ⟨rfl, hb2⟩
        rw [Hr.out]
        simp only [textOr]
        rw [← Hlb.out]
        have H1 := Lib.hid (keep_one hb2)
        have hbel := Below.chain_alloc (Below.refl _ _) hb2
        clear hb2
        have hz : w2.heap[w.heap.size]? = some (.cells #[.int .i64 0, .string (bs [])] 31 (0, 0)) := H1.out
        obtain ⟨c0, c1, f0, f1⟩ := two_cells hz
        have Hz := Lib.hid hz
        clear hz
        go_wp2_with fail
        obtain ⟨d0, d1, _, _⟩ := two_cells (two_set Hz.out (.int .i64 0) (.string ⟨#[]⟩))
        refine bodyPost_ret (v := shareOr 100 none) (by simp [results, Tryd.results9, go_sem, d0, d1, shareOr, shareV, bs]) rfl ⟨by rw [Hg.out, if_neg (fun h => h.2 h0)], two_by hbel (Nat.le_refl _) _ _⟩
      · have hq : (((lb[0]'hsz).toNat : Int) == 0) = false := by
          rw [hx0]
          refine beq_eq_false_iff_ne.2 fun e => h0 ?_
          apply UInt8.toNat_inj.1
          simpa using e
        have Hx0 := Lib.hid hx0
        clear hx0
        go_enter Tryd.func9, Tryd.ntmps9
        go_wp2_with fail
        refine (get_any s _ (HT.out.below ((Below.refl _ _).alloc (Nat.le_refl _) _)) hs).mono ?_
        rintro e w2 ⟨rfl, hb2⟩
        rw [Hr.out]
        simp only [textOr]
        rw [← Hlb.out]
        have H1 := Lib.hid (keep_one hb2)
        have hbel := Below.chain_alloc (Below.refl _ _) hb2
        clear hb2
        have hz : w2.heap[w.heap.size]? = some (.cells #[.int .i64 0, .string (bs [])] 31 (0, 0)) := H1.out
        obtain ⟨c0, c1, f0, f1⟩ := two_cells hz
        have Hz := Lib.hid hz
        clear hz
        go_wp2_with fail
        go_region
        all_goals go_wp2_with fail
        have hw64 : wrap64 ((lb[0]'hsz).toNat : Int) = ((lb[0]'hsz).toNat : Int) := IntWalk.wrap64_in _ (by have := (lb[0]'hsz).toNat_lt; omega)
        rw [hw64]
        obtain ⟨d0, d1, _, _⟩ := two_cells (two_set Hz.out (.int .i64 ((lb[0]'hsz).toNat : Int)) (.string (lb.extract 1 lb.size)))
        have hex : lb.extract 1 lb.size = bs (l.drop 1) := by
          rw [extract_bs, Hlb.out, bs_data, bs_size, List.take_of_length_le (Nat.le_refl _)]
        refine bodyPost_ret (v := .tuple #[.agg #[.int .i64 ((lb[0]'hsz).toNat : Int), .string (lb.extract 1 lb.size)], .int .i64 0]) (by simp [results, Tryd.results9, go_sem, d0, d1]) rfl ⟨?_, (two_by hbel (Nat.le_refl _) _ _).drew⟩
        rw [Hg.out, if_pos ⟨H33.out, h0⟩, hex, Hx0.out]
        rfl
    · have d33 : ((lb.size : Int) != 33) = true := by rw [bne_iff_ne]; omega
      have hsz3 : lb.size ≤ 200 := by omega
      have Hlb := Lib.hid hlb
      clear hls hlb
      go_enter Tryd.func9, Tryd.ntmps9
      go_wp2_with fail
      refine (get_any s _ (HT.out.below ((Below.refl _ _).alloc (Nat.le_refl _) _)) hs).mono ?_
      rintro e w2 ⟨rfl, hb2⟩
      rw [Hr.out]
      simp only [textOr]
      rw [← Hlb.out]
      have H1 := Lib.hid (keep_one hb2)
      have hbel := Below.chain_alloc (Below.refl _ _) hb2
      clear hb2
      have hz : w2.heap[w.heap.size]? = some (.cells #[.int .i64 0, .string (bs [])] 31 (0, 0)) := H1.out
      obtain ⟨c0, c1, f0, f1⟩ := two_cells hz
      have Hz := Lib.hid hz
      clear hz
      go_wp2_with fail
      obtain ⟨d0, d1, _, _⟩ := two_cells (two_set Hz.out (.int .i64 0) (.string ⟨#[]⟩))
      refine bodyPost_ret (v := shareOr 100 none) (by simp [results, Tryd.results9, go_sem, d0, d1, shareOr, shareV, bs]) rfl ⟨by rw [Hg.out, if_neg (fun h => h33 h.1)], two_by hbel (Nat.le_refl _) _ _⟩
end Go.Proofs.YtidnlginjjgmjaaDoor
