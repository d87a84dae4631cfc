/-
  Contracts of twin.Get, copied, do, Put.
  Contracts of twin.copied, Put$1, Put$1$1, do.
  Contracts of twin.do, Put. (Printed by gen_do.py.)
  Contract of twin.Put.
-/
import Derived.Test.YtieekajjoikepaaGreatDoorPw
import Derived.Test.YtieekajjoikepaaGreatDoorPv
import Derived.Test.YtieekajjoikepaaGreatDoorHp
namespace Go.Proofs.YtieekajjoikepaaGreatDoor
/- Twin -/
open Go.RowKit
set_option linter.unusedVariables false
set_option maxRecDepth 100000
set_option maxHeartbeats 1000000

def GetPost (w : World) (r : ByteArray × Bool × Int) (e : Ending) (w' : World) : Prop := e = .returned (.tuple #[.string r.1, .bool r.2.1, .int .i64 r.2.2]) ∧ Below w.heap.size w w'
theorem read_ok {P : Plat} {i : Int} (h : (readP P i).2 = 0) : checkB P = true ∧ hasB P.ss.length i = true := by
  unfold readP at h
  split at h
  · simp at h
  · split at h
    · simp at h
    · rename_i h1 h2
      exact ⟨by simpa using h1, by simpa using h2⟩
theorem read_size {P : Plat} {i : Int} (h : (readP P i).2 = 0) : (readP P i).1.size ≤ 128 := by
  obtain ⟨hc, hh⟩ := read_ok h
  obtain ⟨_, _, _, h4, h5⟩ := check_parts hc
  rw [readP, if_neg (by rw [hc]; simp), if_neg (by rw [hh]; simp)]
  simp only [readS, lastS]
  cases hf : List.find? (fun c => c.1 == i) P.cs.reverse with
  | none =>
    simp only [Option.map_none, Option.getD_none]
    rw [List.getD_eq_getElem?_getD]
    cases hg : P.ss[i.toNat]? with
    | none => exact Nat.zero_le _
    | some y => simpa using h4 y (List.mem_of_getElem? hg)
  | some q =>
    have := List.mem_reverse.1 (List.mem_of_find?_eq_some hf)
    exact (h5 q this).1
theorem read_none {P : Plat} {i : Int} (h : (readP P i).2 ≠ 0) : (readP P i).1 = none0 := by
  unfold readP at h ⊢
  split
  · rfl
  · split
    · rfl
    · rename_i h1 h2
      rw [if_neg h1, if_neg h2] at h
      exact absurd rfl h
theorem tget_any (A B : Option Addr) (n c m d : Nat) (P : Plat) (i : Int) (w : World) (h : PB w A n B m P) (hi : i ≤ 9223372036854775000) :
    Calls Tryz.prog 44 #[.agg #[.slice A n c, .slice B m d], .int .i64 i] w (GetPost w (getP P i)) := by
  have hA := heap_alloc_new w (.cells #[.slice A n c, .slice B m d] 25)
  have hbA := (Below.refl w.heap.size w).alloc (Nat.le_refl _) (.cells #[.slice A n c, .slice B m d] 25)
  have HP := Lib.hid (h.below hbA)
  have HA := Lib.hid hA
  have HB := Lib.hid hbA
  clear h hA hbA
  obtain ⟨r, hr⟩ : ∃ r, r = readP P i := ⟨_, rfl⟩
  obtain ⟨s, x⟩ := r
  have HR := Lib.hid hr
  clear hr
  by_cases hx : x = 0
  · subst hx
    by_cases hs : s.size = 0
    · have HG := Lib.hid (show getP P i = (none0, false, 0) by
        rw [getP, ← HR.out, if_pos (.inr (ByteArray.size_eq_zero_iff.1 hs))])
      have e1 := (toList_nil s).2 hs
      go_enter Tryz.func44, Tryz.ntmps44
      go_wp2_with fail
      refine (pread_any _ P i _ ⟨_, _, _, _, _, _, rfl, HP.out⟩).mono ?_
      rintro e w1 ⟨rfl, hb1⟩
      rw [← HR.out]
      have HB1 := Lib.hid (HB.out.trans (hb1.mono HB.out.size))
      clear hb1
      go_wp2_with fail
      go_ret3
      rw [HG.out]
      exact ⟨rfl, HB1.out⟩
    · have hok := read_ok (show (readP P i).2 = 0 by rw [← HR.out])
      have hsz := read_size (show (readP P i).2 = 0 by rw [← HR.out])
      rw [← HR.out] at hsz
      have hi0 : 0 ≤ i ∧ i < 200 := by
        have h1 := hok.2
        have h2 := (check_parts hok.1).2.1
        simp only [hasB, Bool.and_eq_true, decide_eq_true_eq] at h1
        omega
      have Hne := Lib.hid (show ¬ (((s, (0 : Int)) : ByteArray × Int).2 ≠ 0 ∨ ((s, (0 : Int)) : ByteArray × Int).1 = none0) by
        rintro (h | h)
        · exact h rfl
        · exact hs (by rw [show s = none0 from h]; rfl))
      have e1 : s.toList.isEmpty = false := toList_some s hs
      have e2 : ¬ s.toList = [] := fun e => hs ((toList_nil s).1 e)
      clear hok
      cases hbo : bodyO s with
      | none =>
        have HG := Lib.hid (show getP P i = (none0, false, 140) by rw [getP, ← HR.out, if_neg Hne.out]; simp only [hbo])
        have HO := Lib.hid hbo
        clear hbo
        go_enter Tryz.func44, Tryz.ntmps44
        go_wp2_with fail
        refine (pread_any _ P i _ ⟨_, _, _, _, _, _, rfl, HP.out⟩).mono ?_
        rintro e w1 ⟨rfl, hb1⟩
        rw [← HR.out]
        have HB1 := Lib.hid (HB.out.trans (hb1.mono HB.out.size))
        clear hb1
        go_wp2_with fail
        refine (body_any s _ (by omega)).mono ?_
        rintro e w2 ⟨rfl, hb2⟩
        have HB2 := Lib.hid (HB1.out.trans (hb2.mono HB1.out.size))
        rw [HO.out]
        clear hb2
        go_wp2_with fail
        go_ret3
        rw [HG.out]
        exact ⟨rfl, HB2.out⟩
      | some far =>
        have HG := Lib.hid (show getP P i = ((readP P (i + far)).1, decide ((readP P (i + far)).2 = 0), (readP P (i + far)).2) by rw [getP, ← HR.out, if_neg Hne.out]; simp only [hbo])
        have HO := Lib.hid hbo
        have hfar : far = 1 ∨ far = 2 := by
          unfold bodyO at hbo
          split at hbo
          · injection hbo with hbo; exact .inl hbo.symm
          · split at hbo
            · injection hbo with hbo; exact .inr hbo.symm
            · cases hbo
        have hf1 : 1 ≤ far := by omega
        have hf2 : far ≤ 2 := by omega
        clear hbo hfar
        go_enter Tryz.func44, Tryz.ntmps44
        go_wp2_with fail
        refine (pread_any _ P i _ ⟨_, _, _, _, _, _, rfl, HP.out⟩).mono ?_
        rintro e w1 ⟨rfl, hb1⟩
        rw [← HR.out]
        have HB1 := Lib.hid (HB.out.trans (hb1.mono HB.out.size))
        have HA1 := hblk_below HA hb1
        have HP1 := Lib.hid (HP.out.below hb1)
        clear hb1
        go_wp2_with fail
        refine (body_any s _ (by omega)).mono ?_
        rintro e w2 ⟨rfl, hb2⟩
        have HB2 := Lib.hid (HB1.out.trans (hb2.mono HB1.out.size))
        have HA2 := hblk_below HA1 hb2
        have HP2 := Lib.hid (HP1.out.below hb2)
        rw [HO.out]
        clear hb2
        obtain ⟨a0, a1, _, _⟩ := two_cells HA2.out
        go_wp2_with fail
        refine (pread_any _ P (i + far) _ ⟨_, _, _, _, _, _, rfl, HP2.out⟩).mono ?_
        rintro e w3 ⟨rfl, hb3⟩
        have HB3 := Lib.hid (HB2.out.trans (hb3.mono HB2.out.size))
        obtain ⟨r3, hr3⟩ : ∃ r, r = readP P (i + far) := ⟨_, rfl⟩
        rw [← hr3] at HG ⊢
        obtain ⟨s3, x3⟩ := r3
        simp only at HG ⊢
        clear hb3 hr3 a0 a1
        go_wp2_with fail
        go_ret3
        rw [HG.out]
        exact ⟨rfl, HB3.out⟩
  · have HG := Lib.hid (show getP P i = (none0, false, x) by rw [getP, ← HR.out, if_pos (.inl hx)])
    have d1 : (x != 0) = true := by simpa using hx
    clear hx
    go_enter Tryz.func44, Tryz.ntmps44
    go_wp2_with fail
    refine (pread_any _ P i _ ⟨_, _, _, _, _, _, rfl, HP.out⟩).mono ?_
    rintro e w1 ⟨rfl, hb1⟩
    rw [← HR.out]
    have HB1 := Lib.hid (HB.out.trans (hb1.mono HB.out.size))
    clear hb1
    go_wp2_with fail
    go_ret3
    rw [HG.out]
    exact ⟨rfl, HB1.out⟩

/- Twin2 -/
open Go.RowKit
set_option linter.unusedVariables false
set_option maxRecDepth 100000
set_option maxHeartbeats 1000000

theorem tcopied_any (A B : Option Addr) (n c m d : Nat) (P : Plat) (w : World) (h : PB w A n B m P) (hn : n ≤ 1000000) (hm : m ≤ 1000000) :
    Calls Tryz.prog 51 #[.agg #[.slice A n c, .slice B m d]] w fun e w' => ∃ A' n' c' B' m' d', e = .returned (.agg #[.slice A' n' c', .slice B' m' d']) ∧ PB w' A' n' B' m' P ∧ Below w.heap.size w w' := by
  obtain ⟨hX, hA, hbA⟩ := two_new w #[.slice A n c, .slice B m d] 25
  have H := Lib.hid h
  have HP := Lib.hid (h.below hbA)
  have HX := Lib.hid hX
  have x0 := (two_cells hA).1
  have x1 := (two_cells hA).2.1
  have HbA := Lib.hid hbA
  have f0 := (two_cells hX).1
  have f1 := (two_cells hX).2.1
  have f2 := (two_cells hX).2.2.1
  have f3 := (two_cells hX).2.2.2
  clear h hX hA hbA
  go_enter Tryz.func51, Tryz.ntmps51
  go_wp2_with fail
  go_region_held3 (fun w' => (w'.cell? ⟨w.heap.size, 0, none⟩ = some (.slice A n c) ∧ w'.cell? ⟨w.heap.size, 1, none⟩ = some (.slice B m d)))
    (first | assumption | exact ⟨x0, x1⟩ | exact keep2_below ⟨x0, x1⟩ (by assumption) | exact keep2_below (by assumption) (by assumption) | exact keep2_set (keep2_set (by assumption) (by simp) (by simp)) (by simp) (by simp))
    (first
      | (refine step_append_copy (by rfl) _ _ 22 (by rfl) w.heap.size 9 (.string ⟨#[]⟩) 1 16 Tryz.underlying22 string_info rfl (by omega) (by rfl) A n c (by rfl) (textsV P.ss) (by exact HP.out.rs) (by rw [textsV_len, ← H.out.hn, Nat.mul_one]) (textsV_one _) (by omega) (by omega) (by exact HbA.out.size) ?_; intro A1 cap1 w1 ho1 hb1'; have hb1 := Below.chain ((Below.refl _ ((w.alloc (.cells #[.slice A n c, .slice B m d] 25)).alloc (.cells zP 25))).drew) hb1'; clear hb1')
      | (refine step_append_copy (by rfl) _ _ 23 (by rfl) w.heap.size 65 (.agg #[.int .i64 0, .string ⟨#[]⟩]) 2 24 Tryz.underlying23 put_info rfl (by omega) (by rfl) B m d (by rfl) (putsV P.cs) (by exact HP.out.rc.below hb1) (by rw [putsV_len, ← H.out.hm]) (putsV_one _) (by omega) (by omega) (by exact Nat.le_trans HbA.out.size hb1.size) ?_; intro B1 cap2 w2 ho2 hb2; replace HX := hblk_below (hblk_below HX hb1) hb2; obtain ⟨f0', f1', f2', f3'⟩ := two_cells HX.out))
  go_wp2_with fail
  have hB2 := Below.chain (Below.chain HbA.out hb1) hb2
  have ho : OB w2 w.heap.size A1 n cap1 B1 m cap2 P := ⟨H.out.hn, H.out.hm, own_keep ho1 hb2, ho2⟩
  refine bodyPost_ret (res_cell1 rfl _ _ (w.heap.size + 1) (by rfl) _ (load_plat_new (two_set HX.out _ _))) rfl ?_
  exact ⟨_, _, _, _, _, _, rfl, (ho.two HX.out _ _).pb, two_by hB2 (by omega) _ _⟩
theorem put1_any (i : Int) (s : ByteArray) (w : World) : Calls Tryz.prog 47 #[.int .i64 i, .string s] w fun e w' => e = .returned (.func (.func 48) #[] #[.pointer (some ⟨w.heap.size, 0, none⟩), .pointer (some ⟨w.heap.size + 1, 0, none⟩)]) ∧ w' = (w.alloc (.cells #[.int .i64 i] 3)).alloc (.cells #[.string s] 9) := by
  go_enter Tryz.func47, Tryz.ntmps47
  go_wp2_with fail
  go_ret
  exact ⟨rfl, rfl⟩
theorem put11_any (v : Value) (P : Plat) (ba bs' : Nat) (i : Int) (s : ByteArray) (w : World) (h : PlV w v P) (hi : w.cell? ⟨ba, 0, none⟩ = some (.int .i64 i)) (hs : w.cell? ⟨bs', 0, none⟩ = some (.string s)) :
    Calls Tryz.prog 48 #[v, .pointer (some ⟨ba, 0, none⟩), .pointer (some ⟨bs', 0, none⟩)] w (PlR w (writeP i s P)) := by
  obtain ⟨A, n, c, B, m, d, rfl, h⟩ := h
  obtain ⟨hX, hA, hbA⟩ := two_new w #[.slice A n c, .slice B m d] 25
  have HP := Lib.hid (h.below hbA)
  have HX := Lib.hid hX
  have HB := Lib.hid hbA
  have h1 := cell_lt hi
  have h2 := cell_lt hs
  simp only at h1 h2
  obtain ⟨r, hr⟩ : ∃ r, r = writeP i s P := ⟨_, rfl⟩
  have HR := Lib.hid hr
  rw [← hr]
  clear h hX hA hbA hr
  go_enter Tryz.func48, Tryz.ntmps48
  go_wp2_with fail
  refine (write_any _ P i s _ ⟨_, _, _, _, _, _, rfl, HP.out⟩).mono ?_
  rintro e w1 ⟨v1, rfl, hv1, hb1⟩
  rw [← HR.out] at hv1 ⊢
  obtain ⟨A5, n5, c5, B5, m5, d5, rfl, hO5⟩ := hv1
  replace HX := hblk_below HX hb1
  replace HB := Lib.hid (HB.out.trans (hb1.mono HB.out.size))
  have HO := Lib.hid hO5
  clear hb1 hO5
  obtain ⟨x0, x1, x2, x3⟩ := two_cells HX.out
  go_wp2_with fail
  refine bodyPost_ret (res_cell_tmp rfl _ _ (w.heap.size + 1) (by rfl) _ (load_plat_new (two_set HX.out _ _))) rfl ?_
  exact ⟨_, rfl, ⟨_, _, _, _, _, _, rfl, HO.out.two HX.out⟩, two_by HB.out (by omega) _ _⟩

/- TwinDo -/
open Go.RowKit
set_option linter.unusedVariables false
set_option maxRecDepth 100000
set_option maxHeartbeats 1000000

/-- A step of a Put, as a value. -/
def DeedV (w : World) (v : Value) (f : Plat → Plat × Int) : Prop :=
  (v = .func (.func 52) #[] #[] ∧ f = syncP) ∨ ∃ ba bs' i s, v = .func (.func 48) #[] #[.pointer (some ⟨ba, 0, none⟩), .pointer (some ⟨bs', 0, none⟩)] ∧ w.cell? ⟨ba, 0, none⟩ = some (.int .i64 i) ∧ w.cell? ⟨bs', 0, none⟩ = some (.string s) ∧ f = writeP i s
theorem cell_below {w w' : World} {p : Addr} {v : Value} (h : w.cell? p = some v) (hb : Below w.heap.size w w') : w'.cell? p = some v := (hb.cell (cell_lt h)).trans h
theorem DeedV.below {w w' : World} {v : Value} {f : Plat → Plat × Int} (h : DeedV w v f) (hb : Below w.heap.size w w') : DeedV w' v f := by
  rcases h with h | ⟨ba, bs', i, s, h1, h2, h3, h4⟩
  · exact .inl h
  · exact .inr ⟨ba, bs', i, s, h1, cell_below h2 hb, cell_below h3 hb, h4⟩
/-- A disk, a bool and an error's number are handed back. -/
def DoR (w : World) (r : Plat × Bool × Int) (e : Ending) (w' : World) : Prop := ∃ v, e = .returned (.tuple #[v, .bool r.2.1, .int .i64 r.2.2]) ∧ PlV w' v r.1 ∧ Below w.heap.size w w'
theorem runL_snoc : ∀ (l : List (Plat → Plat × Int)) (f : Plat → Plat × Int) (P Q : Plat), runL l P = (Q, 0) → runL (l ++ [f]) P = if (f Q).2 ≠ 0 then (noPlat, (f Q).2) else ((f Q).1, 0)
  | [], f, P, Q, h => by
    injection h with h _
    subst h
    rfl
  | g :: l, f, P, Q, h => by
    rw [runL] at h
    split at h
    · rename_i h1
      injection h with _ h
      exact absurd h h1
    · rename_i h1
      rw [List.cons_append, runL, if_neg h1]
      exact runL_snoc l f _ Q h
theorem runL_stop : ∀ (l m : List (Plat → Plat × Int)) (P : Plat), (runL l P).2 ≠ 0 → runL (l ++ m) P = (noPlat, (runL l P).2)
  | [], m, P, h => absurd rfl h
  | g :: l, m, P, h => by
    rw [runL] at h
    rw [List.cons_append, runL, runL]
    split
    · rfl
    · rename_i h1
      rw [if_neg h1] at h
      exact runL_stop l m _ h
theorem take_parts {α : Type} (l : List α) {j m : Nat} (h : j ≤ m) : l.take m = l.take j ++ (l.take m).drop j := by
  have := List.take_append_drop j (l.take m)
  rw [List.take_take, Nat.min_eq_left h] at this
  exact this.symm
theorem most_le (deeds : Int) (n : Nat) : mostN deeds n ≤ n := by
  unfold mostN
  split
  · exact Nat.le_refl _
  · omega
theorem do_at (A B D : Option Addr) (n c m d cd N most : Nat) (deeds : Int) (P : Plat) (l : List (Plat → Plat × Int)) (vs : List Value) (w : World) (h : PB w A n B m P) (hD : Rd w D vs) (hN : N = l.length) (hv : vs.length = l.length) (hvs : ∀ (i : Nat) (v : Value) (f : Plat → Plat × Int), vs[i]? = some v → l[i]? = some f → DeedV w v f) (hm : most = mostN deeds N) (hN4 : N ≤ 1000) (hcd : N ≤ cd) (r : Plat × Bool × Int) (hr : r = doP P deeds l) :
    Calls Tryz.prog 50 #[.agg #[.slice A n c, .slice B m d], .int .i64 deeds, .slice D N cd] w (DoR w r) := by
  obtain ⟨hX, hA, hbA⟩ := two_new w #[.slice A n c, .slice B m d] 25
  have HP := Lib.hid (h.below hbA)
  have HX := Lib.hid hX
  have HA := Lib.hid hA
  have HB := Lib.hid hbA
  have HV := Lib.hid hvs
  have HL := Lib.hid hv
  have HN := Lib.hid hN
  have HD := Lib.hid hD
  have HM := Lib.hid hm
  have hml : most ≤ N := by rw [hm]; exact most_le _ _
  have HR := Lib.hid (show r = if (runL (l.take most) P).2 ≠ 0 then (noPlat, false, (runL (l.take most) P).2) else ((runL (l.take most) P).1, decide (most = N), 0) by rw [hr, doP, hm, hN])
  have hcase : (deeds < 0 ∨ (N : Int) < deeds) ∧ most = N ∨ ¬ deeds < 0 ∧ ¬ (N : Int) < deeds ∧ deeds = (most : Int) := by
    rw [hm]
    unfold mostN
    by_cases h : deeds < 0 ∨ (N : Int) < deeds
    · rw [if_pos h]; exact .inl ⟨h, rfl⟩
    · rw [if_neg h]; exact .inr ⟨fun e => h (.inl e), fun e => h (.inr e), by omega⟩
  clear h hX hA hbA hvs hv hN hD hm hr
  have core : ∀ t1 b1 b2 : Value, True := fun _ _ _ => trivial
  clear core
  rcases hcase with ⟨hcs, hmN⟩ | ⟨hc1, hc2, hc3⟩
  · have HmN := Lib.hid hmN
    clear hmN
    rcases Decidable.em (deeds < 0) with hneg | hneg
    · have d1 : decide (deeds < 0) = true := by simpa using hneg
      clear hcs
      go_enter Tryz.func50, Tryz.ntmps50
      go_wp2_with fail
      go_loopw [27] (fun x wr => ∃ (k : Nat) (Q : Plat) (A1 : Option Addr) (n1 c1 : Nat) (B1 : Option Addr) (m1 d1 : Nat), k ≤ N ∧ x = .int .i64 (k : Nat) ∧ runL (l.take k) P = (Q, 0) ∧ wr.heap[w.heap.size]? = some (.cells #[.slice A1 n1 c1, .slice B1 m1 d1] 25 (0, 0)) ∧ wr.heap[w.heap.size + 1]? = some (.cells zP 25 (0, 0)) ∧ PB wr A1 n1 B1 m1 Q ∧ Below w.heap.size w wr) (fun x _ => N - (intOf x).toNat)
      case atStart => exact ⟨0, P, A, n, c, B, m, d, by omega, rfl, rfl, HA.out, HX.out, HP.out, HB.out⟩
      case round =>
        obtain ⟨k, Q, A1, n1, c1, B1, m1, d1', hk, rfl, hrun, hA1, hX1, hP1, hB1⟩ := hrel
        have HA1 := Lib.hid hA1
        have HX1 := Lib.hid hX1
        have HP1 := Lib.hid hP1
        have HB1 := Lib.hid hB1
        have HQ := Lib.hid hrun
        obtain ⟨a0, a1, a2, a3⟩ := two_cells hA1
        obtain ⟨x0, x1, x2, x3⟩ := two_cells hX1
        have hlt1 := cell_lt_of hX1
        clear hA1 hX1 hP1 hB1 hrun
        by_cases hlt : k < N
        · have hkl : k < l.length := by rw [← HN.out]; omega
          have hkv : k < vs.length := by rw [HL.out]; exact hkl
          obtain ⟨b, off, hDD, c0⟩ := (HD.out.below HB1.out) k vs[k] (by simp [hkv])
          subst hDD
          have hdv := (HV.out k vs[k] l[k] (by simp [hkv]) (by simp [hkl])).below HB1.out
          have Hs := Lib.hid (show runL (l.take (k + 1)) P = if (l[k] Q).2 ≠ 0 then (noPlat, (l[k] Q).2) else ((l[k] Q).1, 0) by
            rw [List.take_succ_eq_append_getElem hkl]
            exact runL_snoc _ _ _ _ HQ.out)
          have hk1 : (k : Int) < (N : Int) := by omega
          have hk2 : (k : Int) < (N : Int) := by omega
          have hk0 : k < N := hlt
          generalize vs[k] = v at c0 hdv
          generalize l[k] = f at hdv Hs
          rcases hdv with ⟨rfl, rfl⟩ | ⟨ba, bs', i, s, rfl, hi, hs, rfl⟩
          · have Hs2 := Hs
            go_wp2_with fail
            refine (sync_any _ Q _ ⟨_, _, _, _, _, _, rfl, HP1.out⟩).mono ?_
            rintro e w2 ⟨v2, rfl, hv2, hb2⟩
            obtain ⟨A2, n2, c2, B2, m2, d2', rfl, hO2⟩ := hv2
            have HX2 := hblk_below HX1 hb2
            have HA2 := hblk_below HA1 hb2
            have HB2 := Lib.hid (HB1.out.trans (hb2.mono HB1.out.size))
            have hba := (Below.refl w2.heap.size w2).alloc (Nat.le_refl _) (.cells #[.slice A2 n2 c2, .slice B2 m2 d2'] 25)
            have HX3 := hblk_below HX2 hba
            have HA3 := hblk_below HA2 hba
            have HO2 := Lib.hid hO2
            have HO3 := Lib.hid (hO2.below hba)
            have HB3 := Lib.hid (HB2.out.trans (hba.mono HB2.out.size))
            have hlt2 := cell_lt_of HX2.out
            obtain ⟨q, hq⟩ : ∃ q, q = syncP Q := ⟨_, rfl⟩
            rw [← hq] at Hs2 HO2 HO3 ⊢
            obtain ⟨Q2, er⟩ := q
            clear hb2 hO2 hba a0 a1 a2 a3 x0 x1 x2 x3 hq c0
            obtain ⟨a0, a1, a2, a3⟩ := two_cells HA3.out
            obtain ⟨p0, p1, p2, p3⟩ := two_cells HA2.out
            obtain ⟨q0, q1, q2, q3⟩ := two_cells HX2.out
            obtain ⟨x0, x1, x2, x3⟩ := two_cells HX3.out
            simp only at Hs2 HO2 HO3 ⊢
            by_cases her : er = 0
            · subst her
              go_wp2_with fail
              go_roundw
              case rel =>
                refine ⟨k + 1, Q2, A2, n2, c2, B2, m2, d2', by omega, by go_num, by rw [Hs2.out, if_neg (by simp)], two_set HA3.out _ _, ?_, HO3.out.two HA3.out, two_by HB3.out (Nat.le_refl _) _ _⟩
                exact (Below.heap_setCell _ ⟨w.heap.size, 1, none⟩ _ (w.heap.size + 1) (by simp)).trans ((Below.heap_setCell _ ⟨w.heap.size, 0, none⟩ _ (w.heap.size + 1) (by simp)).trans HX3.out)
              case measure => simp [intOf]; omega
            · have d9 : (er != 0) = true := by simpa using her
              have Hne := Lib.hid her
              clear her
              go_wp2_with fail
              try simp only [Exit.inBlock, Exit.then]
              refine bodyPost_ret (res_cell_tmp2 rfl _ _ (w.heap.size + 1) (by rfl) _ (load_plat_new (cells_below (two_set HX2.out _ _) ((Below.refl _ _).alloc (Nat.le_refl _) _)))) rfl ?_
              have e2 : runL (l.take (k + 1)) P = (noPlat, er) := by rw [Hs2.out, if_pos Hne.out]
              have e3 : l.take most = l.take (k + 1) ++ (l.take most).drop (k + 1) := take_parts l (by have := hk0; have := HmN.out; omega)
              have e4 : runL (l.take most) P = (noPlat, er) := by
                rw [e3, runL_stop _ _ _ (by rw [e2]; exact Hne.out), e2]
              rw [HR.out, e4, if_pos Hne.out]
              have htw := two_by (w0 := w) (w := w2) HB2.out (show w.heap.size ≤ w.heap.size + 1 by omega) (.slice none 0 0) (.slice none 0 0)
              exact ⟨_, rfl, PlV.no _, htw.alloc htw.size _⟩
          · have Hs2 := Hs
            go_wp2_with fail
            refine (put11_any _ Q ba bs' i s _ ⟨_, _, _, _, _, _, rfl, HP1.out⟩ hi hs).mono ?_
            rintro e w2 ⟨v2, rfl, hv2, hb2⟩
            obtain ⟨A2, n2, c2, B2, m2, d2', rfl, hO2⟩ := hv2
            have HX2 := hblk_below HX1 hb2
            have HA2 := hblk_below HA1 hb2
            have HB2 := Lib.hid (HB1.out.trans (hb2.mono HB1.out.size))
            have hba := (Below.refl w2.heap.size w2).alloc (Nat.le_refl _) (.cells #[.slice A2 n2 c2, .slice B2 m2 d2'] 25)
            have HX3 := hblk_below HX2 hba
            have HA3 := hblk_below HA2 hba
            have HO2 := Lib.hid hO2
            have HO3 := Lib.hid (hO2.below hba)
            have HB3 := Lib.hid (HB2.out.trans (hba.mono HB2.out.size))
            have hlt2 := cell_lt_of HX2.out
            obtain ⟨q, hq⟩ : ∃ q, q = writeP i s Q := ⟨_, rfl⟩
            rw [← hq] at Hs2 HO2 HO3 ⊢
            obtain ⟨Q2, er⟩ := q
            clear hb2 hO2 hba a0 a1 a2 a3 x0 x1 x2 x3 hq c0
            obtain ⟨a0, a1, a2, a3⟩ := two_cells HA3.out
            obtain ⟨p0, p1, p2, p3⟩ := two_cells HA2.out
            obtain ⟨q0, q1, q2, q3⟩ := two_cells HX2.out
            obtain ⟨x0, x1, x2, x3⟩ := two_cells HX3.out
            simp only at Hs2 HO2 HO3 ⊢
            by_cases her : er = 0
            · subst her
              go_wp2_with fail
              go_roundw
              case rel =>
                refine ⟨k + 1, Q2, A2, n2, c2, B2, m2, d2', by omega, by go_num, by rw [Hs2.out, if_neg (by simp)], two_set HA3.out _ _, ?_, HO3.out.two HA3.out, two_by HB3.out (Nat.le_refl _) _ _⟩
                exact (Below.heap_setCell _ ⟨w.heap.size, 1, none⟩ _ (w.heap.size + 1) (by simp)).trans ((Below.heap_setCell _ ⟨w.heap.size, 0, none⟩ _ (w.heap.size + 1) (by simp)).trans HX3.out)
              case measure => simp [intOf]; omega
            · have d9 : (er != 0) = true := by simpa using her
              have Hne := Lib.hid her
              clear her
              go_wp2_with fail
              try simp only [Exit.inBlock, Exit.then]
              refine bodyPost_ret (res_cell_tmp2 rfl _ _ (w.heap.size + 1) (by rfl) _ (load_plat_new (cells_below (two_set HX2.out _ _) ((Below.refl _ _).alloc (Nat.le_refl _) _)))) rfl ?_
              have e2 : runL (l.take (k + 1)) P = (noPlat, er) := by rw [Hs2.out, if_pos Hne.out]
              have e3 : l.take most = l.take (k + 1) ++ (l.take most).drop (k + 1) := take_parts l (by have := hk0; have := HmN.out; omega)
              have e4 : runL (l.take most) P = (noPlat, er) := by
                rw [e3, runL_stop _ _ _ (by rw [e2]; exact Hne.out), e2]
              rw [HR.out, e4, if_pos Hne.out]
              have htw := two_by (w0 := w) (w := w2) HB2.out (show w.heap.size ≤ w.heap.size + 1 by omega) (.slice none 0 0) (.slice none 0 0)
              exact ⟨_, rfl, PlV.no _, htw.alloc htw.size _⟩
        · obtain rfl : k = N := by omega
          have hkk : ¬ (k : Int) < (k : Int) := by omega
          go_wp2_with fail
          try simp only [Exit.inBlock, Exit.then]
          refine bodyPost_ret (res_cell_tmp2 rfl _ _ (w.heap.size + 1) (by rfl) _ (load_plat_new (two_set HX1.out _ _))) rfl ?_
          rw [HR.out, HmN.out, HQ.out]
          refine ⟨.agg #[.slice A1 n1 c1, .slice B1 m1 d1'], ?_, ⟨_, _, _, _, _, _, rfl, HP1.out.two HX1.out⟩, two_by HB1.out (by omega) _ _⟩
          simp
    · have d1 : decide (deeds < 0) = false := by simpa using hneg
      have d2 : decide ((N : Int) < deeds) = true := by simpa using hcs.resolve_left hneg
      clear hcs
      go_enter Tryz.func50, Tryz.ntmps50
      go_wp2_with fail
      go_loopw [27] (fun x wr => ∃ (k : Nat) (Q : Plat) (A1 : Option Addr) (n1 c1 : Nat) (B1 : Option Addr) (m1 d1 : Nat), k ≤ N ∧ x = .int .i64 (k : Nat) ∧ runL (l.take k) P = (Q, 0) ∧ wr.heap[w.heap.size]? = some (.cells #[.slice A1 n1 c1, .slice B1 m1 d1] 25 (0, 0)) ∧ wr.heap[w.heap.size + 1]? = some (.cells zP 25 (0, 0)) ∧ PB wr A1 n1 B1 m1 Q ∧ Below w.heap.size w wr) (fun x _ => N - (intOf x).toNat)
      case atStart => exact ⟨0, P, A, n, c, B, m, d, by omega, rfl, rfl, HA.out, HX.out, HP.out, HB.out⟩
      case round =>
        obtain ⟨k, Q, A1, n1, c1, B1, m1, d1', hk, rfl, hrun, hA1, hX1, hP1, hB1⟩ := hrel
        have HA1 := Lib.hid hA1
        have HX1 := Lib.hid hX1
        have HP1 := Lib.hid hP1
        have HB1 := Lib.hid hB1
        have HQ := Lib.hid hrun
        obtain ⟨a0, a1, a2, a3⟩ := two_cells hA1
        obtain ⟨x0, x1, x2, x3⟩ := two_cells hX1
        have hlt1 := cell_lt_of hX1
        clear hA1 hX1 hP1 hB1 hrun
        by_cases hlt : k < N
        · have hkl : k < l.length := by rw [← HN.out]; omega
          have hkv : k < vs.length := by rw [HL.out]; exact hkl
          obtain ⟨b, off, hDD, c0⟩ := (HD.out.below HB1.out) k vs[k] (by simp [hkv])
          subst hDD
          have hdv := (HV.out k vs[k] l[k] (by simp [hkv]) (by simp [hkl])).below HB1.out
          have Hs := Lib.hid (show runL (l.take (k + 1)) P = if (l[k] Q).2 ≠ 0 then (noPlat, (l[k] Q).2) else ((l[k] Q).1, 0) by
            rw [List.take_succ_eq_append_getElem hkl]
            exact runL_snoc _ _ _ _ HQ.out)
          have hk1 : (k : Int) < (N : Int) := by omega
          have hk2 : (k : Int) < (N : Int) := by omega
          have hk0 : k < N := hlt
          generalize vs[k] = v at c0 hdv
          generalize l[k] = f at hdv Hs
          rcases hdv with ⟨rfl, rfl⟩ | ⟨ba, bs', i, s, rfl, hi, hs, rfl⟩
          · have Hs2 := Hs
            go_wp2_with fail
            refine (sync_any _ Q _ ⟨_, _, _, _, _, _, rfl, HP1.out⟩).mono ?_
            rintro e w2 ⟨v2, rfl, hv2, hb2⟩
            obtain ⟨A2, n2, c2, B2, m2, d2', rfl, hO2⟩ := hv2
            have HX2 := hblk_below HX1 hb2
            have HA2 := hblk_below HA1 hb2
            have HB2 := Lib.hid (HB1.out.trans (hb2.mono HB1.out.size))
            have hba := (Below.refl w2.heap.size w2).alloc (Nat.le_refl _) (.cells #[.slice A2 n2 c2, .slice B2 m2 d2'] 25)
            have HX3 := hblk_below HX2 hba
            have HA3 := hblk_below HA2 hba
            have HO2 := Lib.hid hO2
            have HO3 := Lib.hid (hO2.below hba)
            have HB3 := Lib.hid (HB2.out.trans (hba.mono HB2.out.size))
            have hlt2 := cell_lt_of HX2.out
            obtain ⟨q, hq⟩ : ∃ q, q = syncP Q := ⟨_, rfl⟩
            rw [← hq] at Hs2 HO2 HO3 ⊢
            obtain ⟨Q2, er⟩ := q
            clear hb2 hO2 hba a0 a1 a2 a3 x0 x1 x2 x3 hq c0
            obtain ⟨a0, a1, a2, a3⟩ := two_cells HA3.out
            obtain ⟨p0, p1, p2, p3⟩ := two_cells HA2.out
            obtain ⟨q0, q1, q2, q3⟩ := two_cells HX2.out
            obtain ⟨x0, x1, x2, x3⟩ := two_cells HX3.out
            simp only at Hs2 HO2 HO3 ⊢
            by_cases her : er = 0
            · subst her
              go_wp2_with fail
              go_roundw
              case rel =>
                refine ⟨k + 1, Q2, A2, n2, c2, B2, m2, d2', by omega, by go_num, by rw [Hs2.out, if_neg (by simp)], two_set HA3.out _ _, ?_, HO3.out.two HA3.out, two_by HB3.out (Nat.le_refl _) _ _⟩
                exact (Below.heap_setCell _ ⟨w.heap.size, 1, none⟩ _ (w.heap.size + 1) (by simp)).trans ((Below.heap_setCell _ ⟨w.heap.size, 0, none⟩ _ (w.heap.size + 1) (by simp)).trans HX3.out)
              case measure => simp [intOf]; omega
            · have d9 : (er != 0) = true := by simpa using her
              have Hne := Lib.hid her
              clear her
              go_wp2_with fail
              try simp only [Exit.inBlock, Exit.then]
              refine bodyPost_ret (res_cell_tmp2 rfl _ _ (w.heap.size + 1) (by rfl) _ (load_plat_new (cells_below (two_set HX2.out _ _) ((Below.refl _ _).alloc (Nat.le_refl _) _)))) rfl ?_
              have e2 : runL (l.take (k + 1)) P = (noPlat, er) := by rw [Hs2.out, if_pos Hne.out]
              have e3 : l.take most = l.take (k + 1) ++ (l.take most).drop (k + 1) := take_parts l (by have := hk0; have := HmN.out; omega)
              have e4 : runL (l.take most) P = (noPlat, er) := by
                rw [e3, runL_stop _ _ _ (by rw [e2]; exact Hne.out), e2]
              rw [HR.out, e4, if_pos Hne.out]
              have htw := two_by (w0 := w) (w := w2) HB2.out (show w.heap.size ≤ w.heap.size + 1 by omega) (.slice none 0 0) (.slice none 0 0)
              exact ⟨_, rfl, PlV.no _, htw.alloc htw.size _⟩
          · have Hs2 := Hs
            go_wp2_with fail
            refine (put11_any _ Q ba bs' i s _ ⟨_, _, _, _, _, _, rfl, HP1.out⟩ hi hs).mono ?_
            rintro e w2 ⟨v2, rfl, hv2, hb2⟩
            obtain ⟨A2, n2, c2, B2, m2, d2', rfl, hO2⟩ := hv2
            have HX2 := hblk_below HX1 hb2
            have HA2 := hblk_below HA1 hb2
            have HB2 := Lib.hid (HB1.out.trans (hb2.mono HB1.out.size))
            have hba := (Below.refl w2.heap.size w2).alloc (Nat.le_refl _) (.cells #[.slice A2 n2 c2, .slice B2 m2 d2'] 25)
            have HX3 := hblk_below HX2 hba
            have HA3 := hblk_below HA2 hba
            have HO2 := Lib.hid hO2
            have HO3 := Lib.hid (hO2.below hba)
            have HB3 := Lib.hid (HB2.out.trans (hba.mono HB2.out.size))
            have hlt2 := cell_lt_of HX2.out
            obtain ⟨q, hq⟩ : ∃ q, q = writeP i s Q := ⟨_, rfl⟩
            rw [← hq] at Hs2 HO2 HO3 ⊢
            obtain ⟨Q2, er⟩ := q
            clear hb2 hO2 hba a0 a1 a2 a3 x0 x1 x2 x3 hq c0
            obtain ⟨a0, a1, a2, a3⟩ := two_cells HA3.out
            obtain ⟨p0, p1, p2, p3⟩ := two_cells HA2.out
            obtain ⟨q0, q1, q2, q3⟩ := two_cells HX2.out
            obtain ⟨x0, x1, x2, x3⟩ := two_cells HX3.out
            simp only at Hs2 HO2 HO3 ⊢
            by_cases her : er = 0
            · subst her
              go_wp2_with fail
              go_roundw
              case rel =>
                refine ⟨k + 1, Q2, A2, n2, c2, B2, m2, d2', by omega, by go_num, by rw [Hs2.out, if_neg (by simp)], two_set HA3.out _ _, ?_, HO3.out.two HA3.out, two_by HB3.out (Nat.le_refl _) _ _⟩
                exact (Below.heap_setCell _ ⟨w.heap.size, 1, none⟩ _ (w.heap.size + 1) (by simp)).trans ((Below.heap_setCell _ ⟨w.heap.size, 0, none⟩ _ (w.heap.size + 1) (by simp)).trans HX3.out)
              case measure => simp [intOf]; omega
            · have d9 : (er != 0) = true := by simpa using her
              have Hne := Lib.hid her
              clear her
              go_wp2_with fail
              try simp only [Exit.inBlock, Exit.then]
              refine bodyPost_ret (res_cell_tmp2 rfl _ _ (w.heap.size + 1) (by rfl) _ (load_plat_new (cells_below (two_set HX2.out _ _) ((Below.refl _ _).alloc (Nat.le_refl _) _)))) rfl ?_
              have e2 : runL (l.take (k + 1)) P = (noPlat, er) := by rw [Hs2.out, if_pos Hne.out]
              have e3 : l.take most = l.take (k + 1) ++ (l.take most).drop (k + 1) := take_parts l (by have := hk0; have := HmN.out; omega)
              have e4 : runL (l.take most) P = (noPlat, er) := by
                rw [e3, runL_stop _ _ _ (by rw [e2]; exact Hne.out), e2]
              rw [HR.out, e4, if_pos Hne.out]
              have htw := two_by (w0 := w) (w := w2) HB2.out (show w.heap.size ≤ w.heap.size + 1 by omega) (.slice none 0 0) (.slice none 0 0)
              exact ⟨_, rfl, PlV.no _, htw.alloc htw.size _⟩
        · obtain rfl : k = N := by omega
          have hkk : ¬ (k : Int) < (k : Int) := by omega
          go_wp2_with fail
          try simp only [Exit.inBlock, Exit.then]
          refine bodyPost_ret (res_cell_tmp2 rfl _ _ (w.heap.size + 1) (by rfl) _ (load_plat_new (two_set HX1.out _ _))) rfl ?_
          rw [HR.out, HmN.out, HQ.out]
          refine ⟨.agg #[.slice A1 n1 c1, .slice B1 m1 d1'], ?_, ⟨_, _, _, _, _, _, rfl, HP1.out.two HX1.out⟩, two_by HB1.out (by omega) _ _⟩
          simp
  · have d1 : decide (deeds < 0) = false := by simpa using hc1
    have d2 : decide ((N : Int) < deeds) = false := by simpa using hc2
    subst hc3
    clear hc1 hc2
    go_enter Tryz.func50, Tryz.ntmps50
    go_wp2_with fail
    go_loopw [27] (fun x wr => ∃ (k : Nat) (Q : Plat) (A1 : Option Addr) (n1 c1 : Nat) (B1 : Option Addr) (m1 d1 : Nat), k ≤ most ∧ x = .int .i64 (k : Nat) ∧ runL (l.take k) P = (Q, 0) ∧ wr.heap[w.heap.size]? = some (.cells #[.slice A1 n1 c1, .slice B1 m1 d1] 25 (0, 0)) ∧ wr.heap[w.heap.size + 1]? = some (.cells zP 25 (0, 0)) ∧ PB wr A1 n1 B1 m1 Q ∧ Below w.heap.size w wr) (fun x _ => most - (intOf x).toNat)
    case atStart => exact ⟨0, P, A, n, c, B, m, d, by omega, rfl, rfl, HA.out, HX.out, HP.out, HB.out⟩
    case round =>
      obtain ⟨k, Q, A1, n1, c1, B1, m1, d1', hk, rfl, hrun, hA1, hX1, hP1, hB1⟩ := hrel
      have HA1 := Lib.hid hA1
      have HX1 := Lib.hid hX1
      have HP1 := Lib.hid hP1
      have HB1 := Lib.hid hB1
      have HQ := Lib.hid hrun
      obtain ⟨a0, a1, a2, a3⟩ := two_cells hA1
      obtain ⟨x0, x1, x2, x3⟩ := two_cells hX1
      have hlt1 := cell_lt_of hX1
      clear hA1 hX1 hP1 hB1 hrun
      by_cases hlt : k < most
      · have hkl : k < l.length := by rw [← HN.out]; omega
        have hkv : k < vs.length := by rw [HL.out]; exact hkl
        obtain ⟨b, off, hDD, c0⟩ := (HD.out.below HB1.out) k vs[k] (by simp [hkv])
        subst hDD
        have hdv := (HV.out k vs[k] l[k] (by simp [hkv]) (by simp [hkl])).below HB1.out
        have Hs := Lib.hid (show runL (l.take (k + 1)) P = if (l[k] Q).2 ≠ 0 then (noPlat, (l[k] Q).2) else ((l[k] Q).1, 0) by
          rw [List.take_succ_eq_append_getElem hkl]
          exact runL_snoc _ _ _ _ HQ.out)
        have hk1 : (k : Int) < (most : Int) := by omega
        have hk2 : (k : Int) < (N : Int) := by omega
        have hk0 : k < most := hlt
        generalize vs[k] = v at c0 hdv
        generalize l[k] = f at hdv Hs
        rcases hdv with ⟨rfl, rfl⟩ | ⟨ba, bs', i, s, rfl, hi, hs, rfl⟩
        · have Hs2 := Hs
          go_wp2_with fail
          refine (sync_any _ Q _ ⟨_, _, _, _, _, _, rfl, HP1.out⟩).mono ?_
          rintro e w2 ⟨v2, rfl, hv2, hb2⟩
          obtain ⟨A2, n2, c2, B2, m2, d2', rfl, hO2⟩ := hv2
          have HX2 := hblk_below HX1 hb2
          have HA2 := hblk_below HA1 hb2
          have HB2 := Lib.hid (HB1.out.trans (hb2.mono HB1.out.size))
          have hba := (Below.refl w2.heap.size w2).alloc (Nat.le_refl _) (.cells #[.slice A2 n2 c2, .slice B2 m2 d2'] 25)
          have HX3 := hblk_below HX2 hba
          have HA3 := hblk_below HA2 hba
          have HO2 := Lib.hid hO2
          have HO3 := Lib.hid (hO2.below hba)
          have HB3 := Lib.hid (HB2.out.trans (hba.mono HB2.out.size))
          have hlt2 := cell_lt_of HX2.out
          obtain ⟨q, hq⟩ : ∃ q, q = syncP Q := ⟨_, rfl⟩
          rw [← hq] at Hs2 HO2 HO3 ⊢
          obtain ⟨Q2, er⟩ := q
          clear hb2 hO2 hba a0 a1 a2 a3 x0 x1 x2 x3 hq c0
          obtain ⟨a0, a1, a2, a3⟩ := two_cells HA3.out
          obtain ⟨p0, p1, p2, p3⟩ := two_cells HA2.out
          obtain ⟨q0, q1, q2, q3⟩ := two_cells HX2.out
          obtain ⟨x0, x1, x2, x3⟩ := two_cells HX3.out
          simp only at Hs2 HO2 HO3 ⊢
          by_cases her : er = 0
          · subst her
            go_wp2_with fail
            go_roundw
            case rel =>
              refine ⟨k + 1, Q2, A2, n2, c2, B2, m2, d2', by omega, by go_num, by rw [Hs2.out, if_neg (by simp)], two_set HA3.out _ _, ?_, HO3.out.two HA3.out, two_by HB3.out (Nat.le_refl _) _ _⟩
              exact (Below.heap_setCell _ ⟨w.heap.size, 1, none⟩ _ (w.heap.size + 1) (by simp)).trans ((Below.heap_setCell _ ⟨w.heap.size, 0, none⟩ _ (w.heap.size + 1) (by simp)).trans HX3.out)
            case measure => simp [intOf]; omega
          · have d9 : (er != 0) = true := by simpa using her
            have Hne := Lib.hid her
            clear her
            go_wp2_with fail
            try simp only [Exit.inBlock, Exit.then]
            refine bodyPost_ret (res_cell_tmp2 rfl _ _ (w.heap.size + 1) (by rfl) _ (load_plat_new (cells_below (two_set HX2.out _ _) ((Below.refl _ _).alloc (Nat.le_refl _) _)))) rfl ?_
            have e2 : runL (l.take (k + 1)) P = (noPlat, er) := by rw [Hs2.out, if_pos Hne.out]
            have e3 : l.take most = l.take (k + 1) ++ (l.take most).drop (k + 1) := take_parts l (by have := hk0; omega)
            have e4 : runL (l.take most) P = (noPlat, er) := by
              rw [e3, runL_stop _ _ _ (by rw [e2]; exact Hne.out), e2]
            rw [HR.out, e4, if_pos Hne.out]
            have htw := two_by (w0 := w) (w := w2) HB2.out (show w.heap.size ≤ w.heap.size + 1 by omega) (.slice none 0 0) (.slice none 0 0)
            exact ⟨_, rfl, PlV.no _, htw.alloc htw.size _⟩
        · have Hs2 := Hs
          go_wp2_with fail
          refine (put11_any _ Q ba bs' i s _ ⟨_, _, _, _, _, _, rfl, HP1.out⟩ hi hs).mono ?_
          rintro e w2 ⟨v2, rfl, hv2, hb2⟩
          obtain ⟨A2, n2, c2, B2, m2, d2', rfl, hO2⟩ := hv2
          have HX2 := hblk_below HX1 hb2
          have HA2 := hblk_below HA1 hb2
          have HB2 := Lib.hid (HB1.out.trans (hb2.mono HB1.out.size))
          have hba := (Below.refl w2.heap.size w2).alloc (Nat.le_refl _) (.cells #[.slice A2 n2 c2, .slice B2 m2 d2'] 25)
          have HX3 := hblk_below HX2 hba
          have HA3 := hblk_below HA2 hba
          have HO2 := Lib.hid hO2
          have HO3 := Lib.hid (hO2.below hba)
          have HB3 := Lib.hid (HB2.out.trans (hba.mono HB2.out.size))
          have hlt2 := cell_lt_of HX2.out
          obtain ⟨q, hq⟩ : ∃ q, q = writeP i s Q := ⟨_, rfl⟩
          rw [← hq] at Hs2 HO2 HO3 ⊢
          obtain ⟨Q2, er⟩ := q
          clear hb2 hO2 hba a0 a1 a2 a3 x0 x1 x2 x3 hq c0
          obtain ⟨a0, a1, a2, a3⟩ := two_cells HA3.out
          obtain ⟨p0, p1, p2, p3⟩ := two_cells HA2.out
          obtain ⟨q0, q1, q2, q3⟩ := two_cells HX2.out
          obtain ⟨x0, x1, x2, x3⟩ := two_cells HX3.out
          simp only at Hs2 HO2 HO3 ⊢
          by_cases her : er = 0
          · subst her
            go_wp2_with fail
            go_roundw
            case rel =>
              refine ⟨k + 1, Q2, A2, n2, c2, B2, m2, d2', by omega, by go_num, by rw [Hs2.out, if_neg (by simp)], two_set HA3.out _ _, ?_, HO3.out.two HA3.out, two_by HB3.out (Nat.le_refl _) _ _⟩
              exact (Below.heap_setCell _ ⟨w.heap.size, 1, none⟩ _ (w.heap.size + 1) (by simp)).trans ((Below.heap_setCell _ ⟨w.heap.size, 0, none⟩ _ (w.heap.size + 1) (by simp)).trans HX3.out)
            case measure => simp [intOf]; omega
          · have d9 : (er != 0) = true := by simpa using her
            have Hne := Lib.hid her
            clear her
            go_wp2_with fail
            try simp only [Exit.inBlock, Exit.then]
            refine bodyPost_ret (res_cell_tmp2 rfl _ _ (w.heap.size + 1) (by rfl) _ (load_plat_new (cells_below (two_set HX2.out _ _) ((Below.refl _ _).alloc (Nat.le_refl _) _)))) rfl ?_
            have e2 : runL (l.take (k + 1)) P = (noPlat, er) := by rw [Hs2.out, if_pos Hne.out]
            have e3 : l.take most = l.take (k + 1) ++ (l.take most).drop (k + 1) := take_parts l (by have := hk0; omega)
            have e4 : runL (l.take most) P = (noPlat, er) := by
              rw [e3, runL_stop _ _ _ (by rw [e2]; exact Hne.out), e2]
            rw [HR.out, e4, if_pos Hne.out]
            have htw := two_by (w0 := w) (w := w2) HB2.out (show w.heap.size ≤ w.heap.size + 1 by omega) (.slice none 0 0) (.slice none 0 0)
            exact ⟨_, rfl, PlV.no _, htw.alloc htw.size _⟩
      · obtain rfl : k = most := by omega
        have hkk : ¬ (k : Int) < (k : Int) := by omega
        go_wp2_with fail
        try simp only [Exit.inBlock, Exit.then]
        refine bodyPost_ret (res_cell_tmp2 rfl _ _ (w.heap.size + 1) (by rfl) _ (load_plat_new (two_set HX1.out _ _))) rfl ?_
        rw [HR.out, HQ.out]
        refine ⟨.agg #[.slice A1 n1 c1, .slice B1 m1 d1'], ?_, ⟨_, _, _, _, _, _, rfl, HP1.out.two HX1.out⟩, two_by HB1.out (by omega) _ _⟩
        rw [show decide (k = N) = ((k : Int) == (N : Int)) by rw [Bool.eq_iff_iff]; simp only [decide_eq_true_eq, beq_iff_eq]; omega]
        rfl
theorem tdo_any (A B D : Option Addr) (n c m d cd N : Nat) (deeds : Int) (P : Plat) (l : List (Plat → Plat × Int)) (vs : List Value) (w : World) (h : PB w A n B m P) (hD : Rd w D vs) (hN : N = l.length) (hv : vs.length = l.length) (hvs : ∀ (i : Nat) (v : Value) (f : Plat → Plat × Int), vs[i]? = some v → l[i]? = some f → DeedV w v f) (hN4 : N ≤ 1000) (hcd : N ≤ cd) :
    Calls Tryz.prog 50 #[.agg #[.slice A n c, .slice B m d], .int .i64 deeds, .slice D N cd] w (DoR w (doP P deeds l)) := do_at A B D n c m d cd N _ deeds P l vs w h hD hN hv hvs rfl hN4 hcd _ rfl

/- TwinPut -/
open Go.RowKit
set_option linter.unusedVariables false
set_option maxRecDepth 100000
set_option maxHeartbeats 1000000

theorem mark_eq (s : ByteArray) : (s.toList == [48]) = decide (s = mark0) := by
  rw [ByteArray.toList_eq]
  by_cases h : s = mark0
  · rw [decide_eq_true h, h]; rfl
  · rw [decide_eq_false h]
    refine beq_eq_false_iff_ne.2 fun e => h ?_
    rw [← bs_of s, e]
    rfl
/-- The four deeds of a Put, made and done. -/
theorem do_put (A B : Option Addr) (n c m d : Nat) (P : Plat) (a b deeds : Int) (s t : ByteArray) (T : TypeId) (w : World) (h : PB w A n B m P) :
    Calls Tryz.prog 50 #[.agg #[.slice A n c, .slice B m d], .int .i64 deeds, .slice (some ⟨w.heap.size + 1 + 1 + 1 + 1, 0, none⟩) 4 4]
      (((((w.alloc (.cells #[.int .i64 a] 3)).alloc (.cells #[.string s] 9)).alloc (.cells #[.int .i64 b] 3)).alloc (.cells #[.string t] 9)).alloc (.cells #[.func (.func 48) #[] #[.pointer (some ⟨w.heap.size, 0, none⟩), .pointer (some ⟨w.heap.size + 1, 0, none⟩)], .func (.func 52) #[] #[], .func (.func 48) #[] #[.pointer (some ⟨w.heap.size + 1 + 1, 0, none⟩), .pointer (some ⟨w.heap.size + 1 + 1 + 1, 0, none⟩)], .func (.func 52) #[] #[]] T))
      (DoR w (doP P deeds [writeP a s, syncP, writeP b t, syncP])) := by
  obtain ⟨h0, h1, h2, h3, hb⟩ := four_new w #[.int .i64 a] #[.string s] #[.int .i64 b] #[.string t] 3 9 3 9
  have hs : ((((w.alloc (.cells #[.int .i64 a] 3)).alloc (.cells #[.string s] 9)).alloc (.cells #[.int .i64 b] 3)).alloc (.cells #[.string t] 9)).heap.size = w.heap.size + 1 + 1 + 1 + 1 := by simp
  generalize (((w.alloc (.cells #[.int .i64 a] 3)).alloc (.cells #[.string s] 9)).alloc (.cells #[.int .i64 b] 3)).alloc (.cells #[.string t] 9) = w5 at h0 h1 h2 h3 hb hs ⊢
  rw [← hs]
  generalize hC : (#[.func (.func 48) #[] #[.pointer (some ⟨w.heap.size, 0, none⟩), .pointer (some ⟨w.heap.size + 1, 0, none⟩)], .func (.func 52) #[] #[], .func (.func 48) #[] #[.pointer (some ⟨w.heap.size + 1 + 1, 0, none⟩), .pointer (some ⟨w.heap.size + 1 + 1 + 1, 0, none⟩)], .func (.func 52) #[] #[]] : Array Value) = C
  have hba := (Below.refl w5.heap.size w5).alloc (Nat.le_refl _) (.cells C T)
  have hrd := rd_new w5 T C
  refine (tdo_any A B (some ⟨w5.heap.size, 0, none⟩) n c m d 4 4 deeds P [writeP a s, syncP, writeP b t, syncP] C.toList _ ((h.below hb).below hba) hrd rfl (by rw [← hC]; rfl) ?_ (by omega) (by omega)).mono ?_
  · intro i v f hv hf
    rw [← hC] at hv
    match i with
    | 0 =>
      simp at hv hf
      subst hv hf
      exact .inr ⟨_, _, a, s, rfl, cell_of_one (cells_below h0 hba), cell_of_one (cells_below h1 hba), rfl⟩
    | 1 =>
      simp at hv hf
      subst hv hf
      exact .inl ⟨rfl, rfl⟩
    | 2 =>
      simp at hv hf
      subst hv hf
      exact .inr ⟨_, _, b, t, rfl, cell_of_one (cells_below h2 hba), cell_of_one (cells_below h3 hba), rfl⟩
    | 3 =>
      simp at hv hf
      subst hv hf
      exact .inl ⟨rfl, rfl⟩
    | k + 4 => simp at hf
  · rintro e w' ⟨v, he, hv, hb'⟩
    exact ⟨v, he, hv, Below.chain (Below.chain hb hba) hb'⟩
theorem put_bad (A B : Option Addr) (n c m d : Nat) (P : Plat) (i deeds : Int) (s : ByteArray) (w : World) (h : PB w A n B m P) (hi : i ≤ 9223372036854775000) (hg : (getP P i).2.2 ≠ 0) :
    Calls Tryz.prog 22 #[.agg #[.slice A n c, .slice B m d], .int .i64 i, .string s, .int .i64 deeds] w (DoR w (putP P i s deeds)) := by
  obtain ⟨hX, hA, hbA⟩ := two_new w #[.slice A n c, .slice B m d] 25
  have HP := Lib.hid (h.below hbA)
  have HX := Lib.hid hX
  have HB := Lib.hid hbA
  have HG := Lib.hid hg
  have HR := Lib.hid (show putP P i s deeds = (noPlat, false, (getP P i).2.2) by rw [putP, if_pos hg])
  obtain ⟨r, hr⟩ : ∃ r, r = getP P i := ⟨_, rfl⟩
  rw [← hr] at HG HR
  have Hr := Lib.hid hr
  obtain ⟨s1, b1, x1⟩ := r
  have d1 : (x1 != 0) = true := by simpa using HG.out
  simp only at HR
  clear h hX hA hbA hg hr
  go_enter Tryz.func22, Tryz.ntmps22
  go_wp2_with fail
  refine (tget_any A B n c m d P i _ HP.out hi).mono ?_
  rintro e w1 ⟨rfl, hb1⟩
  rw [← Hr.out]
  replace HX := hblk_below HX hb1
  replace HB := Lib.hid (HB.out.trans (hb1.mono HB.out.size))
  clear hb1
  obtain ⟨x0, x1', x2, x3⟩ := two_cells HX.out
  go_wp2_with fail
  refine bodyPost_ret (res_cell_tmp2 rfl _ _ (w.heap.size + 1) (by rfl) _ (load_plat_new (two_set HX.out _ _))) rfl ?_
  rw [HR.out]
  exact ⟨_, rfl, PlV.no _, two_by HB.out (by omega) _ _⟩
theorem put_good (A B : Option Addr) (n c m d : Nat) (P : Plat) (i deeds : Int) (s : ByteArray) (w : World) (h : PB w A n B m P) (hg : (getP P i).2.2 = 0) :
    Calls Tryz.prog 22 #[.agg #[.slice A n c, .slice B m d], .int .i64 i, .string s, .int .i64 deeds] w (DoR w (putP P i s deeds)) := by
  obtain ⟨hX, hA, hbA⟩ := two_new w #[.slice A n c, .slice B m d] 25
  have hok := read_ok (getP_read hg)
  have hi0 : 0 ≤ i ∧ i < 200 := by
    have h1 := hok.2
    have h2 := (check_parts hok.1).2.1
    simp only [hasB, Bool.and_eq_true, decide_eq_true_eq] at h1
    omega
  obtain ⟨hi1, hi2⟩ := hi0
  have hk := check_parts hok.1
  have hn200 : n ≤ 200 := by rw [h.hn]; exact hk.2.1
  have hm100 : m ≤ 100 := by rw [h.hm]; exact hk.2.2.1
  have HP := Lib.hid (h.below hbA)
  have HX := Lib.hid hX
  have HA := Lib.hid hA
  have HB := Lib.hid hbA
  have Hrd := Lib.hid (getP_read hg)
  have HR := Lib.hid (show putP P i s deeds = doP P deeds (deedsL i s (readP P i).1) by rw [putP, if_neg (by rw [hg]; simp)])
  obtain ⟨r, hr⟩ : ∃ r, r = getP P i := ⟨_, rfl⟩
  rw [← hr] at hg
  have Hr := Lib.hid hr
  obtain ⟨s1, b1, x1⟩ := r
  obtain rfl : x1 = 0 := hg
  obtain ⟨q, hq⟩ : ∃ q, q = readP P i := ⟨_, rfl⟩
  rw [← hq] at Hrd HR
  have Hq := Lib.hid hq
  obtain ⟨old, x2⟩ := q
  obtain rfl : x2 = 0 := Hrd.out
  simp only at HR
  clear h hX hA hbA hr hq hok hk Hrd
  by_cases hold : old = mark0
  · have hmk : (old.toList == [48]) = true := by rw [mark_eq]; exact decide_eq_true hold
    have HF := Lib.hid (show deedsL i s old = [writeP (i + 2) s, syncP, writeP i mark1, syncP] by rw [deedsL, farN, markN, if_pos hold, if_pos hold])
    clear hold
    go_enter Tryz.func22, Tryz.ntmps22
    go_wp2_with fail
    refine (tget_any A B n c m d P i _ HP.out (by omega)).mono ?_
    rintro e w1 ⟨rfl, hb1⟩
    rw [← Hr.out]
    replace HX := hblk_below HX hb1
    replace HA := hblk_below HA hb1
    replace HP := Lib.hid (HP.out.below hb1)
    replace HB := Lib.hid (HB.out.trans (hb1.mono HB.out.size))
    clear hb1
    obtain ⟨a0, a1, _, _⟩ := two_cells HA.out
    go_wp2_with fail
    refine (pread_any _ P i _ ⟨_, _, _, _, _, _, rfl, HP.out⟩).mono ?_
    rintro e w2 ⟨rfl, hb2⟩
    rw [← Hq.out]
    replace HX := hblk_below HX hb2
    replace HA := hblk_below HA hb2
    replace HP := Lib.hid (HP.out.below hb2)
    replace HB := Lib.hid (HB.out.trans (hb2.mono HB.out.size))
    clear hb2 a0 a1
    obtain ⟨a0, a1, _, _⟩ := two_cells HA.out
    go_wp2_with fail
    refine (body_any mark1 _ (by decide)).mono ?_
    rintro e w3 ⟨rfl, hb3⟩
    rw [show bodyO mark1 = some 2 from body1]
    replace HX := hblk_below HX hb3
    replace HA := hblk_below HA hb3
    replace HP := Lib.hid (HP.out.below hb3)
    replace HB := Lib.hid (HB.out.trans (hb3.mono HB.out.size))
    clear hb3 a0 a1
    obtain ⟨a0, a1, _, _⟩ := two_cells HA.out
    go_wp2_with fail
    refine (tcopied_any A B n c m d P _ HP.out (by omega) (by omega)).mono ?_
    rintro e w4 ⟨A4, n4, c4, B4, m4, d4, rfl, hP4, hb4⟩
    replace HX := hblk_below HX hb4
    have HP4 := Lib.hid hP4
    replace HB := Lib.hid (HB.out.trans (hb4.mono HB.out.size))
    clear hb4 hP4 a0 a1
    go_wp2_with fail
    refine (put1_any (i + 2) s _).mono ?_
    rintro e w5 ⟨rfl, rfl⟩
    go_wp2_with fail
    refine (put1_any i mark1 _).mono ?_
    rintro e w5 ⟨rfl, rfl⟩
    go_wp2_with fail
    refine (do_put A4 B4 n4 c4 m4 d4 P (i + 2) i deeds s mark1 _ w4 HP4.out).mono ?_
    rw [← HF.out, ← HR.out]
    rintro e w6 ⟨v6, rfl, hv6, hb6⟩
    obtain ⟨A6, n6, c6, B6, m6, d6, rfl, hP6⟩ := hv6
    replace HX := hblk_below HX hb6
    replace HB := Lib.hid (HB.out.trans (hb6.mono HB.out.size))
    have HP6 := Lib.hid hP6
    clear hb6 hP6
    obtain ⟨x0, x1', x2, x3⟩ := two_cells HX.out
    go_wp2_with fail
    refine bodyPost_ret (res_cell_tmp2 rfl _ _ (w.heap.size + 1) (by rfl) _ (load_plat_new (two_set HX.out _ _))) rfl ?_
    exact ⟨_, rfl, ⟨_, _, _, _, _, _, rfl, HP6.out.two HX.out⟩, two_by HB.out (by omega) _ _⟩
  · have hmk : (old.toList == [48]) = false := by rw [mark_eq]; exact decide_eq_false hold
    have HF := Lib.hid (show deedsL i s old = [writeP (i + 1) s, syncP, writeP i mark0, syncP] by rw [deedsL, farN, markN, if_neg hold, if_neg hold])
    clear hold
    go_enter Tryz.func22, Tryz.ntmps22
    go_wp2_with fail
    refine (tget_any A B n c m d P i _ HP.out (by omega)).mono ?_
    rintro e w1 ⟨rfl, hb1⟩
    rw [← Hr.out]
    replace HX := hblk_below HX hb1
    replace HA := hblk_below HA hb1
    replace HP := Lib.hid (HP.out.below hb1)
    replace HB := Lib.hid (HB.out.trans (hb1.mono HB.out.size))
    clear hb1
    obtain ⟨a0, a1, _, _⟩ := two_cells HA.out
    go_wp2_with fail
    refine (pread_any _ P i _ ⟨_, _, _, _, _, _, rfl, HP.out⟩).mono ?_
    rintro e w2 ⟨rfl, hb2⟩
    rw [← Hq.out]
    replace HX := hblk_below HX hb2
    replace HA := hblk_below HA hb2
    replace HP := Lib.hid (HP.out.below hb2)
    replace HB := Lib.hid (HB.out.trans (hb2.mono HB.out.size))
    clear hb2 a0 a1
    obtain ⟨a0, a1, _, _⟩ := two_cells HA.out
    go_wp2_with fail
    refine (body_any mark0 _ (by decide)).mono ?_
    rintro e w3 ⟨rfl, hb3⟩
    rw [show bodyO mark0 = some 1 from body0]
    replace HX := hblk_below HX hb3
    replace HA := hblk_below HA hb3
    replace HP := Lib.hid (HP.out.below hb3)
    replace HB := Lib.hid (HB.out.trans (hb3.mono HB.out.size))
    clear hb3 a0 a1
    obtain ⟨a0, a1, _, _⟩ := two_cells HA.out
    go_wp2_with fail
    refine (tcopied_any A B n c m d P _ HP.out (by omega) (by omega)).mono ?_
    rintro e w4 ⟨A4, n4, c4, B4, m4, d4, rfl, hP4, hb4⟩
    replace HX := hblk_below HX hb4
    have HP4 := Lib.hid hP4
    replace HB := Lib.hid (HB.out.trans (hb4.mono HB.out.size))
    clear hb4 hP4 a0 a1
    go_wp2_with fail
    refine (put1_any (i + 1) s _).mono ?_
    rintro e w5 ⟨rfl, rfl⟩
    go_wp2_with fail
    refine (put1_any i mark0 _).mono ?_
    rintro e w5 ⟨rfl, rfl⟩
    go_wp2_with fail
    refine (do_put A4 B4 n4 c4 m4 d4 P (i + 1) i deeds s mark0 _ w4 HP4.out).mono ?_
    rw [← HF.out, ← HR.out]
    rintro e w6 ⟨v6, rfl, hv6, hb6⟩
    obtain ⟨A6, n6, c6, B6, m6, d6, rfl, hP6⟩ := hv6
    replace HX := hblk_below HX hb6
    replace HB := Lib.hid (HB.out.trans (hb6.mono HB.out.size))
    have HP6 := Lib.hid hP6
    clear hb6 hP6
    obtain ⟨x0, x1', x2, x3⟩ := two_cells HX.out
    go_wp2_with fail
    refine bodyPost_ret (res_cell_tmp2 rfl _ _ (w.heap.size + 1) (by rfl) _ (load_plat_new (two_set HX.out _ _))) rfl ?_
    exact ⟨_, rfl, ⟨_, _, _, _, _, _, rfl, HP6.out.two HX.out⟩, two_by HB.out (by omega) _ _⟩
theorem put_any (v : Value) (P : Plat) (i deeds : Int) (s : ByteArray) (w : World) (h : PlV w v P) (hi : i ≤ 9223372036854775000) :
    Calls Tryz.prog 22 #[v, .int .i64 i, .string s, .int .i64 deeds] w (DoR w (putP P i s deeds)) := by
  obtain ⟨A, n, c, B, m, d, rfl, h⟩ := h
  by_cases hg : (getP P i).2.2 = 0
  · exact put_good A B n c m d P i deeds s w h hg
  · exact put_bad A B n c m d P i deeds s w h hi hg

end Go.Proofs.YtieekajjoikepaaGreatDoor
