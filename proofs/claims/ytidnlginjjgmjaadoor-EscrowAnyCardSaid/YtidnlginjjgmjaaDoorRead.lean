/-
  Contracts of escrow.Read and escrow.Recover.
-/
import Derived.Test.YtidnlginjjgmjaaDoorMade
namespace Go.Proofs.YtidnlginjjgmjaaDoor
open Go.RowKit Go.Maps Go.WideMaps
set_option linter.unusedVariables false
set_option maxRecDepth 100000
set_option maxHeartbeats 1000000

/-- Is there one of that place? -/
def seenB (l : List Shr) (x : Int) : Bool := l.any fun q => decide (q.1 = x)
/-- One share of each place, the first. -/
def readTo (l : List Shr) : Nat → List Shr
  | 0 => []
  | i + 1 => if seenB (l.take i) (l.getD i (0, ⟨#[]⟩)).1 = true then readTo l i else readTo l i ++ [l.getD i (0, ⟨#[]⟩)]
def readL (l : List Shr) : List Shr := readTo l l.length
theorem readTo_len (l : List Shr) : ∀ i, (readTo l i).length ≤ i
  | 0 => by simp [readTo]
  | i + 1 => by
    have := readTo_len l i
    rw [readTo]
    split
    · omega
    · simp; omega
theorem seenB_snoc (l : List Shr) (i : Nat) (hi : i < l.length) (x : Int) : seenB (l.take (i + 1)) x = (seenB (l.take i) x || decide (l[i].1 = x)) := by
  rw [seenB, List.take_succ_eq_append_getElem hi, List.any_append, ← seenB]
  simp
theorem getOne_ok {s : ByteArray} {p : Shr} (h : getOne s = some p) : (∃ a : UInt8, a ≠ 0 ∧ p.1 = (a.toNat : Int)) ∧ p.2.size = 32 := by
  simp only [getOne, getShareRes, Option.map_eq_some_iff] at h
  obtain ⟨q, hq, rfl⟩ := h
  split at hq
  · rename_i s' _
    split at hq
    · rename_i hc
      injection hq with hq
      subst hq
      refine ⟨⟨s'.getD 0 0, hc.2, rfl⟩, ?_⟩
      simp only [bs_size, List.length_drop]
      omega
    · cases hq
  · cases hq
theorem getAll_ok (l : List ByteArray) : ∀ p ∈ getAll l, (∃ a : UInt8, a ≠ 0 ∧ p.1 = (a.toNat : Int)) ∧ p.2.size = 32 := by
  intro p hp
  obtain ⟨s, _, hs⟩ := List.mem_filterMap.1 hp
  exact getOne_ok hs

theorem own_gb {w w' : World} {B G : Nat} {e : TypeId} {size : Nat} {v : Value} {n : Nat} {xs : List Value} (h : w.ownsRow B e size v n xs) (hg : w.grownBy w' (some G)) (hG : G < B) : w'.ownsRow B e size v n xs := by
  refine ⟨h.1, ?_⟩
  rcases h.2 with h | ⟨g, cap, cur, hv, hB, hgg, hr⟩
  · exact .inl h
  · exact .inr ⟨g, cap, cur, hv, hB, gb_heap' hg hgg (by omega), hr⟩
theorem gb_weak {w w1 w2 : World} {G B : Nat} (h : w.grownBy w1 (some G)) (hk : ∀ k, k < w1.heap.size → k < B → w2.heap[k]? = w1.heap[k]?) (hb : Below B w1 w2) (hB : w.heap.size ≤ B) : w.grownBy w2 (some G) :=
  ⟨hb.os.trans h.os, hb.tape.trans h.tape, hb.output.trans h.output, Nat.le_trans h.size hb.size, fun i hi hr => (hk i (Nat.lt_of_lt_of_le hi h.size) (by omega)).trans (h.block i hi hr)⟩
theorem zero_int (w : World) : (zeroValue 3).run Tryd.prog w = .ok (.int .i64 0) w := by kernel_rfl

theorem lit_inj {a b : Int} (h : (DataW.lit (.int .i64 a) : DataW Unit) = .lit (.int .i64 b)) : a = b := by
  injection h with h
  injection h
theorem at_next {Dm : DataW Unit} {a : UInt8} {f f' : Int → Bool} (hD : IsMap Dm) (h : ∀ a' : UInt8, Dm.atKey (.int .i64 (a'.toNat : Int)) (.lit (.int .i64 0)) = .lit (.int .i64 (if f (a'.toNat : Int) = true then 1 else 0))) (hf : ∀ a' : UInt8, f' (a'.toNat : Int) = (f (a'.toNat : Int) || decide ((a.toNat : Int) = (a'.toNat : Int)))) :
    ∀ a' : UInt8, (Dm.put (.int .i64 (a.toNat : Int)) (.lit (.int .i64 1))).atKey (.int .i64 (a'.toNat : Int)) (.lit (.int .i64 0)) = .lit (.int .i64 (if f' (a'.toNat : Int) = true then 1 else 0)) := by
  intro a'
  by_cases e : a' = a
  · subst e
    rw [atKey_put_same hD (show WideAt.IsKeyLit (.int .i64 (a'.toNat : Int)) from trivial), hf]
    simp
  · have hne : (Lit.int .i64 (a'.toNat : Int)) ≠ .int .i64 (a.toNat : Int) := fun h => by
      injection h with _ h
      exact e (UInt8.toNat_inj.1 (by omega))
    have hne2 : ¬ (a.toNat : Int) = (a'.toNat : Int) := fun h => e (UInt8.toNat_inj.1 (by omega))
    rw [atKey_put_other hne, h a', hf, decide_eq_false hne2, Bool.or_false]
theorem read_any (l : List ByteArray) (A : Option Addr) (n c : Nat) (w : World) (hr : Rd w A (textsV l)) (hn : n = l.length) (hl : l.length ≤ 1000) (hT : ArmTabs w) (hs : ∀ p ∈ l, p.size ≤ 1000000) :
    Calls Tryd.prog 11 #[.slice A n c] w fun e w' => ∃ B cap, e = .returned (.slice B (readL (getAll l)).length cap) ∧ w'.ownsRow w.heap.size 31 2 (.slice B (readL (getAll l)).length cap) (readL (getAll l)).length (sharesV (readL (getAll l))) ∧ Below w.heap.size w w' := by
  have HR := Lib.hid hr
  have HN := Lib.hid hn
  have HT := Lib.hid hT
  have HS := Lib.hid hs
  have hnl : n ≤ 1000 := by omega
  have hmm := @run_makeMap Tryd.prog
  have hM0 : (w.alloc (.map #[] 0)).ownsMap Tryd.prog 3 (plainElem (H := Unit) Tryd.prog 3) w.heap.size 0 (.map []) := World.ownsMap_made _ _ _ _
  clear hr hn hT hs
  go_enter Tryd.func11, Tryd.ntmps11
  go_wp2_with fail
  have hbM := (Below.refl w.heap.size w).alloc (Nat.le_refl _) (.map #[] 0)
  refine (made_get l A n c _ (HR.out.below hbM) HN.out hl (HT.out.below hbM) HS.out).mono ?_
  rintro e w2 ⟨B2, cap2, rfl, ho2, hb2⟩
  have hM2 : w2.ownsMap Tryd.prog 3 (plainElem (H := Unit) Tryd.prog 3) w.heap.size 0 (.map []) := by
    obtain ⟨es, clock, h1, h2⟩ := hM0
    exact ⟨es, clock, cells_below h1 hb2, h2⟩
  have hMl : w.heap.size < w2.heap.size := by have := hb2.size; simp at this; omega
  have HO2 := Lib.hid ho2
  have HM2 := Lib.hid hM2
  have HW2 := Lib.hid (Below.chain_alloc (Below.refl _ _) hb2)
  have hgl : (getAll l).length ≤ 1000 := by
    have := List.length_filterMap_le getOne l
    unfold getAll
    omega
  have HG := Lib.hid (getAll_ok l)
  obtain ⟨gs, hgs⟩ : ∃ gs, gs = getAll l := ⟨_, rfl⟩
  rw [← hgs] at HO2 HG hgl ⊢
  have Hgs := Lib.hid hgs
  have hB2 : Hid (∀ b off, B2 = some ⟨b, off, none⟩ → b ≠ w.heap.size) := Lib.hid fun b off e => by
    rcases HO2.out.2 with ⟨e1, _⟩ | ⟨g1, _, _, e1, h2, _⟩
    · injection e1 with e1
      rw [e1] at e
      cases e
    · injection e1 with e1
      rw [e1] at e
      injection e with e
      injection e with e
      simp at h2
      omega
  clear hM0 hM2 ho2 hb2 hbM hgs
  obtain ⟨m, hm⟩ : ∃ m, m = gs.length := ⟨_, rfl⟩
  rw [← hm] at HO2 hgl ⊢
  have Hm := Lib.hid hm
  clear hm
  go_wp2_with fail
  go_loopw [3, 11] (fun v x wr => ∃ (i cap : Nat) (B : Option Addr) (Dm : DataW Unit), i ≤ m ∧ x = .int .i64 (i : Nat) ∧ v = .slice B (readTo gs i).length cap ∧ wr.ownsRow w2.heap.size 31 2 v (readTo gs i).length (sharesV (readTo gs i)) ∧ wr.ownsMap Tryd.prog 3 (plainElem (H := Unit) Tryd.prog 3) w.heap.size i Dm ∧ IsMap Dm ∧ (∀ a : UInt8, Dm.atKey (.int .i64 (a.toNat : Int)) (.lit (.int .i64 0)) = .lit (.int .i64 (if seenB (gs.take i) (a.toNat : Int) = true then 1 else 0))) ∧ w2.grownBy wr (some w.heap.size)) (fun _ x _ => m - (intOf x).toNat)
  case atStart => exact ⟨0, 0, none, .map [], by omega, rfl, rfl, ⟨rfl, .inl ⟨rfl, rfl⟩⟩, HM2.out, isMap_empty, fun a => by simp [seenB]; rfl, World.grownBy.refl _ _⟩
  case round =>
    clear HM2
    obtain ⟨i, cap, B, Dm, hi, rfl, rfl, ho, hM, hD, hat, hG⟩ := hrel
    have HO := Lib.hid ho
    have HD := Lib.hid hD
    have Hat := Lib.hid hat
    have HGr := Lib.hid hG
    clear ho hD hat hG
    by_cases hlt : i < m
    · have hil : i < gs.length := by rw [← Hm.out]; exact hlt
      obtain ⟨b, off, hA', c1, c2'⟩ := (gb_rd' HGr.out (own_rd HO2.out) hB2.out).shr hil
      subst hA'
      obtain ⟨⟨a, ha0, hax⟩, _⟩ := HG.out _ (List.getElem_mem hil)
      have Hrt := Lib.hid (show readTo gs (i + 1) = if seenB (gs.take i) (gs.getD i (0, ⟨#[]⟩)).1 = true then readTo gs i else readTo gs i ++ [gs.getD i (0, ⟨#[]⟩)] from rfl)
      have Hsn := Lib.hid (fun x => seenB_snoc gs i hil x)
      have hgd : gs.getD i (0, ⟨#[]⟩) = gs[i] := by simp [hil]
      rw [hgd] at Hrt
      have hrl := readTo_len gs i
      generalize readTo gs i = rs at HO Hrt hrl
      generalize gs[i] = p at c1 c2' hax Hrt Hsn
      obtain ⟨X, bb⟩ := p
      simp only at c1 c2' hax Hrt Hsn
      subst hax
      have Hata := Lib.hid (Hat.out a)
      have hk := keyOf_int_mk (P := Tryd.prog) Tryd.underlying3 (dig_wf a)
      have hbA := (Below.refl wr.heap.size wr).alloc (Nat.le_refl _) (.cells #[dig a, .string bb] 31)
      have hMa : (wr.alloc (.cells #[dig a, .string bb] 31)).ownsMap Tryd.prog 3 (plainElem (H := Unit) Tryd.prog 3) w.heap.size i Dm := by
        obtain ⟨es, clock, h1, h2⟩ := hM
        exact ⟨es, clock, cells_below h1 hbA, h2⟩
      have HOa := Lib.hid (own_keep HO.out hbA)
      have HGa := Lib.hid (gb_next' HGr.out hbA)
      have hgs2 := HGr.out.size
      clear hgd
      by_cases hsee : seenB (gs.take i) (a.toNat : Int) = true
      · rw [if_pos hsee] at Hrt Hata
        go_wp2_with (first
          | (at_lookup; refine wpList_lookup_own_int _ rfl _ _ 47 rfl 3 3 .i64 int_law Tryd.underlying47 Tryd.underlying3 (zero_int _) w.heap.size i _ rfl hMa _ _ rfl hk ?_; intro cc hatc hwc; obtain rfl : cc = 1 := lit_inj (hatc.symm.trans Hata.out))
          | (at_mapUpdate; refine wpList_mapUpdate_own _ rfl _ _ _ 47 rfl 3 3 int_law Tryd.underlying47 (plainElem (H := Unit) Tryd.prog 3) w.heap.size i _ rfl hMa (by unfold maxLen; omega) _ _ _ rfl rfl hk _ [] (plainElem_int Tryd.underlying3 (small_wf 1 (by omega))) ?_; intro w4 hown4 hgrow4))
        have HM4 := Lib.hid hown4
        have HG4 := Lib.hid (gbb_trans HGa.out hgrow4)
        have HO4 := Lib.hid (own_gb HOa.out hgrow4 hMl)
        go_roundw
        case rel => exact ⟨i + 1, cap, B, _, by omega, by go_num, by rw [Hrt.out], by rw [Hrt.out]; exact HO4.out, HM4.out, HD.out.put _ _, at_next HD.out Hat.out (fun a' => Hsn.out _), HG4.out⟩
        case measure => simp [intOf]; omega
      · rw [if_neg hsee] at Hrt Hata
        have hr2 : rs.length ≤ 1000 := by omega
        go_wp2_with (first
          | (at_lookup; refine wpList_lookup_own_int _ rfl _ _ 47 rfl 3 3 .i64 int_law Tryd.underlying47 Tryd.underlying3 (zero_int _) w.heap.size i _ rfl hMa _ _ rfl hk ?_; intro cc hatc hwc; obtain rfl : cc = 0 := lit_inj (hatc.symm.trans Hata.out))
          | (refine wpList_append_new (by rfl) (.tmp 20) (.tmp 22) 37 (by rfl) w2.heap.size 31 (.agg #[.int .i64 0, .string ⟨#[]⟩]) 2 24 Tryd.underlying37 share_info rfl (by omega) (wr.alloc (.cells #[dig a, .string bb] 31)) _ _ _ _ _ (by rfl) HOa.out _ 1 1 (by rfl) (by simp) (by rfl) (by rfl) (by omega) (by omega) (by omega) (by simp; omega) ?_))
        intro g3 cap3 w3 ho3 hb3 hk3 hat3 hlt3
        have hM3 : w3.ownsMap Tryd.prog 3 (plainElem (H := Unit) Tryd.prog 3) w.heap.size i Dm := by
          obtain ⟨es, clock, h1, h2⟩ := hMa
          exact ⟨es, clock, (hb3.block _ hMl).trans h1, h2⟩
        have hS3 := hk3 wr.heap.size (by simp) (fun e => by
          rcases HO.out.2 with ⟨e1, _⟩ | ⟨g1, _, _, e1, _, h3, _⟩
          · injection e1 with e1
            rw [e1] at e
            cases e
          · injection e1 with e1
            rw [e1] at e
            injection e with e
            have := cell_lt_of h3
            simp only at e
            omega)
        have hS3' : w3.heap[wr.heap.size]? = some (.cells #[dig a, .string bb] 31 (0, 0)) := hS3.trans (heap_alloc_new wr _)
        obtain ⟨c3, _, _, _⟩ := two_cells hS3'
        have HO3 := Lib.hid ho3
        have HG3 := Lib.hid (gb_weak HGa.out (fun k _ hkB => hb3.block k hkB) hb3 (Nat.le_refl _))
        clear ho3 hS3 hS3' hat3 hk3 hlt3 hb3
        go_wp2_with (first
          | (at_mapUpdate; refine wpList_mapUpdate_own _ rfl _ _ _ 47 rfl 3 3 int_law Tryd.underlying47 (plainElem (H := Unit) Tryd.prog 3) w.heap.size i _ rfl hM3 (by unfold maxLen; omega) _ _ _ rfl rfl hk _ [] (plainElem_int Tryd.underlying3 (small_wf 1 (by omega))) ?_; intro w4 hown4 hgrow4))
        have HM4 := Lib.hid hown4
        have HG4 := Lib.hid (gbb_trans HG3.out hgrow4)
        have HO4 := Lib.hid (own_gb HO3.out hgrow4 hMl)
        go_roundw
        case rel =>
          refine ⟨i + 1, cap3, some ⟨g3, 0, none⟩, _, by omega, by go_num, by rw [Hrt.out]; simp, ?_, HM4.out, HD.out.put _ _, at_next HD.out Hat.out (fun a' => Hsn.out _), HG4.out⟩
          rw [Hrt.out, sharesV_app]
          simp only [List.length_append, List.length_cons, List.length_nil]
          exact HO4.out
        case measure => simp [intOf]; omega
    · obtain rfl : i = m := by omega
      have hrd : readTo gs i = readL gs := by rw [readL, Hm.out]
      rw [hrd] at HO ⊢
      have HWf := Lib.hid (HW2.out.trans (grownBy_below' HGr.out (Nat.le_refl _) HW2.out.size))
      have HOf := Lib.hid (own_base_le HO.out HW2.out.size)
      rw [Hgs.out] at HOf ⊢
      clear hrd hM
      go_wp2_with fail
      go_ret
      exact ⟨B, cap, rfl, HOf.out, HWf.out⟩
end Go.Proofs.YtidnlginjjgmjaaDoor
