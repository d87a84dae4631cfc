/-
  Contracts of platter.New, one, Write, settle, Sync, Crash.
  Contracts of platter.settle, Sync, Crash.
  Contract of platter.Crash.
  Contract of platter.Read.
-/
import Derived.Test.YtieekajjoikepaaGreatDoorPv
import Derived.Shelf.Abstract
import Derived.Laws.EntriesVeiled
import Derived.Test.YtieekajjoikepaaGreatDoorSm
namespace Go.Proofs.YtieekajjoikepaaGreatDoor
/- PlatW -/
open Go.RowKit
set_option linter.unusedVariables false
set_option maxRecDepth 100000
set_option maxHeartbeats 1000000

/-- A disk and an error's number are handed back; the sectors' row is no longer than its room. -/
def PlRc (w : World) (r : Plat × Int) (e : Ending) (w' : World) : Prop := ∃ v, e = .returned (.tuple #[v, .int .i64 r.2]) ∧ (∃ A n c B m d, v = .agg #[.slice A n c, .slice B m d] ∧ n ≤ c ∧ PB w' A n B m r.1) ∧ Below w.heap.size w w'
theorem own_cap {w : World} {B : Nat} {e : TypeId} {size : Nat} {A : Option Addr} {n c m : Nat} {xs : List Value} (h : w.ownsRow B e size (.slice A n c) m xs) : n ≤ c := by
  rcases h.2 with ⟨hv, _⟩ | ⟨g, cap, cur, hv, _, _, hle, _⟩
  · injection hv with _ h1 h2
    omega
  · injection hv with _ h1 h2
    omega
/-- A disk and an error's number are handed back. -/
def PlR (w : World) (r : Plat × Int) (e : Ending) (w' : World) : Prop := ∃ v, e = .returned (.tuple #[v, .int .i64 r.2]) ∧ PlV w' v r.1 ∧ Below w.heap.size w w'
theorem OB.set {w : World} {B0 : Nat} {A B : Option Addr} {n c m d : Nat} {P : Plat} (h : OB w B0 A n c B m d P) {b : Nat} {cs : Array Value} {t : TypeId} (hb : w.heap[b]? = some (.cells cs t (0, 0))) (h1 : t ≠ 9) (h2 : t ≠ 65) (i : Nat) (u : Value) : OB (w.setCell ⟨b, i, none⟩ u) B0 A n c B m d P :=
  ⟨h.hn, h.hm, ownsRow_setCell_other h.os (fun e => own_far hb h.os h1 e.symm) _, ownsRow_setCell_other h.oc (fun e => own_far hb h.oc h2 e.symm) _⟩
theorem OB.two {w : World} {B0 : Nat} {A B : Option Addr} {n c m d : Nat} {P : Plat} (h : OB w B0 A n c B m d P) {b : Nat} {x y : Value} (hb : w.heap[b]? = some (.cells #[x, y] 25 (0, 0))) (u v : Value) : OB ((w.setCell ⟨b, 0, none⟩ u).setCell ⟨b, 1, none⟩ v) B0 A n c B m d P :=
  (h.set hb (by decide) (by decide) 0 u).set (blk_set hb 0 u) (by decide) (by decide) 1 v
abbrev zP : Array Value := #[.slice none 0 0, .slice none 0 0]
/-- A function's two new blocks: its argument, its result. -/
theorem two_new (w : World) (v : Array Value) (t : TypeId) : ((w.alloc (.cells v t)).alloc (.cells zP 25)).heap[w.heap.size + 1]? = some (.cells zP 25 (0, 0)) ∧ ((w.alloc (.cells v t)).alloc (.cells zP 25)).heap[w.heap.size]? = some (.cells v t (0, 0)) ∧ Below w.heap.size w ((w.alloc (.cells v t)).alloc (.cells zP 25)) := by
  have h1 := heap_alloc_new (w.alloc (.cells v t)) (.cells zP 25)
  rw [World.size_alloc] at h1
  exact ⟨h1, (Below.heap_alloc (w.alloc (.cells v t)) (.cells zP 25) w.heap.size (by simp)).trans (heap_alloc_new w _), ((Below.refl _ w).alloc (Nat.le_refl _) _).alloc (by simp) _⟩
theorem new_any6 (n : Nat) (w : World) (h1 : 1 ≤ n) (h2 : n ≤ 200) : Calls Tryz.prog 21 #[.int .i64 (n : Nat)] w (PlR w (⟨List.replicate n none0, []⟩, 0)) := by
  have d1 : decide ((n : Int) < 1) = false := by simp; omega
  have d2 : decide ((200 : Int) < (n : Int)) = false := by simp; omega
  have hmk := fun W => run_make_row' (P := Tryz.prog) 22 9 (.string ⟨#[]⟩) 16 Tryz.underlying22 string_info rfl .i64 .i64 n (by omega) (by omega) W
  go_enter Tryz.func21, Tryz.ntmps21
  go_wp2_with fail
  generalize hC : (#[.slice (some ⟨w.heap.size + 1, 0, none⟩) n n, .slice none 0 0] : Array Value) = C
  have hA := heap_alloc_new w (.cells C 25)
  have hA2 := (Below.heap_alloc (w.alloc (.cells C 25)) (.cells (madeCells #[.string ⟨#[]⟩] n) 9) w.heap.size (by simp)).trans hA
  have hbA : Below w.heap.size w ((w.alloc (.cells C 25)).alloc (.cells (madeCells #[.string ⟨#[]⟩] n) 9)) := ((Below.refl _ w).alloc (Nat.le_refl _) _).alloc (by simp) _
  have ho : OB ((w.alloc (.cells C 25)).alloc (.cells (madeCells #[.string ⟨#[]⟩] n) 9)) w.heap.size (some ⟨(w.alloc (.cells C 25)).heap.size, 0, none⟩) n n none 0 0 ⟨List.replicate n none0, []⟩ := by
    refine ⟨by simp, rfl, ?_, World.ownsRow_nil _ _ _ _⟩
    have := own_new (w := w.alloc (.cells C 25)) (B := w.heap.size) (e := 9) (size := 1) (n := n) (cs := madeCells #[.string ⟨#[]⟩] n) (by simp) (by simp [madeCells]) (by unfold maxLen; omega)
    rw [toList_madeCells_one] at this
    rw [show textsV (List.replicate n none0) = List.replicate n (.string ⟨#[]⟩) by simp [textsV, none0]]
    exact this
  rw [World.size_alloc] at ho
  subst hC
  refine bodyPost_ret (res_cell_tmp rfl _ _ w.heap.size (by rfl) _ (load_plat_new hA2)) rfl ?_
  exact ⟨_, rfl, ⟨_, _, _, _, _, _, rfl, ho.pb⟩, hbA⟩
def oneW (P : Plat) (i : Int) (s : ByteArray) (full : Bool) : Plat × Int := if checkB P = false then (noPlat, 1) else if hasB P.ss.length i = false then (noPlat, 130) else if 128 < s.size then (noPlat, 2) else if full then (noPlat, 260) else (⟨P.ss, P.cs ++ [(i, s)]⟩, 0)
theorem check_parts {P : Plat} (h : checkB P = true) : 1 ≤ P.ss.length ∧ P.ss.length ≤ 200 ∧ P.cs.length ≤ 100 ∧ (∀ x ∈ P.ss, x.size ≤ 128) ∧ ∀ c ∈ P.cs, c.2.size ≤ 128 ∧ 0 ≤ c.1 ∧ c.1 < P.ss.length := by
  simp only [checkB, Bool.and_eq_true, decide_eq_true_eq, List.all_eq_true, putB, hasB] at h
  exact ⟨h.1.1.1.1, h.1.1.1.2, h.1.1.2, h.1.2, fun c hc => ⟨(h.2 c hc).1, (h.2 c hc).2.1, (h.2 c hc).2.2⟩⟩
theorem write1_any (g : Nat) (w : World) : Calls Tryz.prog 80 #[.pointer (some ⟨g, 0, none⟩)] w fun e w' => e = .returned (.func (.func 81) #[.pointer (some ⟨g, 0, none⟩)] #[]) ∧ w' = w := by
  go_enter Tryz.func80, Tryz.ntmps80
  go_wp2_with fail
  go_ret
  exact ⟨rfl, rfl⟩
theorem one_write (A B : Option Addr) (n c m d : Nat) (P : Plat) (i : Int) (s : ByteArray) (full : Bool) (w : World) (h : PB w A n B m P) :
    Calls Tryz.prog 79 #[.agg #[.slice A n c, .slice B m d], .int .i64 i, .string s, .bool full, .func (.func 80) #[] #[]] w (PlR w (oneW P i s full)) := by
  obtain ⟨hX, hA, hbA⟩ := two_new w #[.slice A n c, .slice B m d] 25
  have HP := Lib.hid (h.below hbA)
  have HX := Lib.hid hX
  have HA := Lib.hid hA
  have HB := Lib.hid hbA
  have HN := Lib.hid h.hn
  have HM := Lib.hid h.hm
  clear h hX hA hbA
  go_enter Tryz.func79, Tryz.ntmps79
  go_wp2_with fail
  refine (check_any A B n c m d P _ HP.out).mono ?_
  rintro e w1 ⟨rfl, hb1⟩
  replace HP := Lib.hid (HP.out.below hb1)
  replace HX := hblk_below HX hb1
  replace HA := hblk_below HA hb1
  replace HB := Lib.hid (HB.out.trans (hb1.mono HB.out.size))
  clear hb1
  obtain ⟨x0, x1, x2, x3⟩ := two_cells HX.out
  obtain ⟨a0, a1, _, _⟩ := two_cells HA.out
  cases hc : checkB P with
  | false =>
    have Hc := Lib.hid hc
    clear hc
    go_wp2_with fail
    refine bodyPost_ret (res_cell_tmp rfl _ _ (w.heap.size + 1) (by rfl) _ (load_plat_new (two_set HX.out _ _))) rfl ?_
    rw [oneW, if_pos Hc.out]
    exact ⟨_, rfl, PlV.no _, two_by HB.out (by omega) _ _⟩
  | true =>
    have Hc := Lib.hid hc
    clear hc
    obtain ⟨hk1, hk2, hk3, hk4, hk5⟩ := check_parts Hc.out
    have hn200 : n ≤ 200 := by rw [HN.out]; exact hk2
    have hm100 : m ≤ 100 := by rw [HM.out]; exact hk3
    clear hk1 hk2 hk4 hk5
    go_wp2_with fail
    refine (phas_any A B n c m d i _).mono ?_
    rintro e w2 ⟨rfl, hb2⟩
    replace HP := Lib.hid (HP.out.below hb2)
    replace HX := hblk_below HX hb2
    replace HA := hblk_below HA hb2
    replace HB := Lib.hid (HB.out.trans (hb2.mono HB.out.size))
    clear hb2 x0 x1 x2 x3 a0 a1
    obtain ⟨x0, x1, x2, x3⟩ := two_cells HX.out
    obtain ⟨a0, a1, _, _⟩ := two_cells HA.out
    cases hh : hasB n i with
    | false =>
      have Hh := Lib.hid (show hasB P.ss.length i = false by rw [← HN.out]; exact hh)
      clear hh
      go_wp2_with fail
      refine bodyPost_ret (res_cell_tmp rfl _ _ (w.heap.size + 1) (by rfl) _ (load_plat_new (two_set HX.out _ _))) rfl ?_
      rw [oneW, if_neg (by rw [Hc.out]; simp), if_pos Hh.out]
      exact ⟨_, rfl, PlV.no _, two_by HB.out (by omega) _ _⟩
    | true =>
      have Hh := Lib.hid (show hasB P.ss.length i = true by rw [← HN.out]; exact hh)
      clear hh
      by_cases h128 : 128 < s.size
      · have d1 : decide ((128 : Int) < (s.size : Int)) = true := by simp; omega
        go_wp2_with fail
        refine bodyPost_ret (res_cell_tmp rfl _ _ (w.heap.size + 1) (by rfl) _ (load_plat_new (two_set HX.out _ _))) rfl ?_
        rw [oneW, if_neg (by rw [Hc.out]; simp), if_neg (by rw [Hh.out]; simp), if_pos h128]
        exact ⟨_, rfl, PlV.no _, two_by HB.out (by omega) _ _⟩
      · have d1 : decide ((128 : Int) < (s.size : Int)) = false := by simp; omega
        cases full with
        | true =>
          go_wp2_with fail
          refine bodyPost_ret (res_cell_tmp rfl _ _ (w.heap.size + 1) (by rfl) _ (load_plat_new (two_set HX.out _ _))) rfl ?_
          rw [oneW, if_neg (by rw [Hc.out]; simp), if_neg (by rw [Hh.out]; simp), if_neg h128, if_pos rfl]
          exact ⟨_, rfl, PlV.no _, two_by HB.out (by omega) _ _⟩
        | false =>
          go_wp2_with fail
          refine (copied_any A B n c m d P _ HP.out (by omega) (by omega)).mono ?_
          rintro e w3 ⟨g, rfl, hD, hb3⟩
          replace HX := hblk_below HX hb3
          have hs23 : w.heap.size + 1 < w2.heap.size := cell_lt x0
          have HD := Lib.hid hD
          have HB3 := Lib.hid hb3
          have hs3 := hb3.size
          clear hD hb3 x0 x1 x2 x3 a0 a1
          go_wp2_with fail
          refine (write1_any g _).mono ?_
          rintro e w4 ⟨rfl, rfl⟩
          go_wp2_with fail
          refine (wait_any w2.heap.size g P i s _ HD.out hs3 (by omega)).mono ?_
          rintro e w4 ⟨⟨v, rfl⟩, hD4, hb4⟩
          have HD4 := Lib.hid hD4
          have HB4 := Lib.hid (HB3.out.trans hb4)
          replace HX := Lib.hid ((hb4.block (w.heap.size + 1) hs23).trans HX.out)
          clear hD4 hb4
          go_wp2_with fail
          refine (plain_any w2.heap.size g _ _ HD4.out).mono ?_
          rintro e w5 ⟨A5, n5, c5, B5, m5, d5, rfl, hO5, hb5⟩
          replace HX := hblk_below HX hb5
          have HO5 := Lib.hid hO5
          have HB5 := Lib.hid (HB.out.trans ((HB4.out.trans (hb5.mono HB4.out.size)).mono HB.out.size))
          clear hO5 hb5
          obtain ⟨x0, x1, x2, x3⟩ := two_cells HX.out
          go_wp2_with fail
          refine bodyPost_ret (res_cell_tmp rfl _ _ (w.heap.size + 1) (by rfl) _ (load_plat_new (two_set HX.out _ _))) rfl ?_
          rw [oneW, if_neg (by rw [Hc.out]; simp), if_neg (by rw [Hh.out]; simp), if_neg h128, if_neg (by simp)]
          exact ⟨_, rfl, ⟨_, _, _, _, _, _, rfl, (HO5.out.two HX.out _ _).pb⟩, two_by HB5.out (by omega) _ _⟩
def isSl : Value → Bool
  | .slice _ _ _ => true
  | _ => false
theorem rd_set {w : World} {A : Option Addr} {xs : List Value} (h : Rd w A xs) (hx : ∀ u ∈ xs, isSl u = false) {b : Nat} (hb : ∀ j u, w.cell? ⟨b, j, none⟩ = some u → isSl u = true) (i : Nat) (v : Value) : Rd (w.setCell ⟨b, i, none⟩ v) A xs := by
  intro j u hu
  obtain ⟨b', off, hA, hc⟩ := h j u hu
  refine ⟨b', off, hA, ?_⟩
  have hne : b' ≠ b := fun e => by
    subst e
    have h1 := hb _ _ hc
    rw [hx u (List.mem_of_getElem? hu)] at h1
    cases h1
  exact (World.cell?_of_block (Below.heap_setCell w ⟨b, i, none⟩ v b' hne)).trans hc
theorem texts_sl (l : List ByteArray) : ∀ u ∈ textsV l, isSl u = false := by
  intro u hu
  obtain ⟨p, _, rfl⟩ := List.mem_map.1 hu
  rfl
theorem puts_sl (l : List PutP) : ∀ u ∈ putsV l, isSl u = false := by
  intro u hu
  obtain ⟨p, _, hp⟩ := List.mem_flatMap.1 hu
  simp [putV] at hp
  rcases hp with rfl | rfl <;> rfl
theorem PB.set {w : World} {A B : Option Addr} {n m : Nat} {P : Plat} (h : PB w A n B m P) {b : Nat} (hb : ∀ j u, w.cell? ⟨b, j, none⟩ = some u → isSl u = true) (i : Nat) (v : Value) : PB (w.setCell ⟨b, i, none⟩ v) A n B m P :=
  ⟨h.hn, h.hm, rd_set h.rs (texts_sl _) hb i v, rd_set h.rc (puts_sl _) hb i v, h.ta.set b i v, h.tb.set b i v⟩
theorem two_sl {w : World} {b : Nat} {A B : Option Addr} {n c m d : Nat} {t : TypeId} (h : w.heap[b]? = some (.cells #[.slice A n c, .slice B m d] t (0, 0))) : ∀ j u, w.cell? ⟨b, j, none⟩ = some u → isSl u = true := by
  intro j u hu
  rw [cell_of_row w b j _ _ _ h] at hu
  match j with
  | 0 => simp at hu; rw [← hu]; rfl
  | 1 => simp at hu; rw [← hu]; rfl
  | j + 2 => simp at hu
theorem PB.two {w : World} {A B A2 B2 A3 B3 : Option Addr} {n m n2 c2 m2 d2 n3 c3 m3 d3 : Nat} {P : Plat} (h : PB w A n B m P) {b : Nat} {t : TypeId} (hb : w.heap[b]? = some (.cells #[.slice A2 n2 c2, .slice B2 m2 d2] t (0, 0))) : PB ((w.setCell ⟨b, 0, none⟩ (.slice A3 n3 c3)).setCell ⟨b, 1, none⟩ (.slice B3 m3 d3)) A n B m P :=
  (h.set (two_sl hb) 0 _).set (two_sl (blk_set hb 0 (.slice A3 n3 c3))) 1 _
theorem write_full (A B : Option Addr) (n c m d : Nat) (P : Plat) (i : Int) (s : ByteArray) (full : Bool) (r : Plat × Int) (w : World) (h : PB w A n B m P) (hf : full = decide (100 ≤ m)) (hr : r = oneW P i s full) :
    Calls Tryz.prog 49 #[.agg #[.slice A n c, .slice B m d], .int .i64 i, .string s] w (PlR w r) := by
  obtain ⟨hX, hA, hbA⟩ := two_new w #[.slice A n c, .slice B m d] 25
  have HP := Lib.hid (h.below hbA)
  have HX := Lib.hid hX
  have HB := Lib.hid hbA
  have HR := Lib.hid hr
  have hd1 : decide ((100 : Int) ≤ (m : Int)) = full := by rw [hf]; exact decide_eq_decide.2 (by omega)
  clear h hX hA hbA hr hf
  go_enter Tryz.func49, Tryz.ntmps49
  go_wp2_with fail
  refine (one_write A B n c m d P i s full _ HP.out).mono ?_
  rintro e w1 ⟨v1, rfl, hv1, hb1⟩
  rw [← HR.out] at hv1 ⊢
  obtain ⟨A5, n5, c5, B5, m5, d5, rfl, hO5⟩ := hv1
  replace HX := hblk_below HX hb1
  replace HB := Lib.hid (HB.out.trans (hb1.mono HB.out.size))
  have HO := Lib.hid hO5
  clear hb1 hO5
  obtain ⟨x0, x1, x2, x3⟩ := two_cells HX.out
  go_wp2_with fail
  refine bodyPost_ret (res_cell_tmp rfl _ _ (w.heap.size + 1) (by rfl) _ (load_plat_new (two_set HX.out _ _))) rfl ?_
  exact ⟨_, rfl, ⟨_, _, _, _, _, _, rfl, HO.out.two HX.out⟩, two_by HB.out (by omega) _ _⟩
theorem write_any (v : Value) (P : Plat) (i : Int) (s : ByteArray) (w : World) (h : PlV w v P) : Calls Tryz.prog 49 #[v, .int .i64 i, .string s] w (PlR w (writeP i s P)) := by
  obtain ⟨A, n, c, B, m, d, rfl, h⟩ := h
  refine write_full A B n c m d P i s (decide (100 ≤ m)) _ w h rfl ?_
  rw [oneW, writeP, h.hm]
  simp only [decide_eq_true_eq]

/- Settle -/
open Go.RowKit
set_option linter.unusedVariables false
set_option maxRecDepth 100000
set_option maxHeartbeats 1000000

theorem beginS_size {old s : ByteArray} {n b : Nat} (h1 : old.size ≤ b) (h2 : s.size ≤ b) : (beginS old s n).size ≤ b := by
  rw [beginS, bs_size, List.length_append, List.length_take, List.length_drop, len_data, len_data]
  omega
theorem fallS_size {ss : List ByteArray} {c : Int × ByteArray} {fate : Int} {b : Nat} (h : ∀ x ∈ ss, x.size ≤ b) (hc : c.2.size ≤ b) : ∀ x ∈ fallS ss c fate, x.size ≤ b := by
  intro x hx
  unfold fallS at hx
  split at hx
  · exact h x hx
  · split at hx
    · rcases List.mem_or_eq_of_mem_set hx with hx | rfl
      · exact h x hx
      · exact hc
    · rcases List.mem_or_eq_of_mem_set hx with hx | rfl
      · exact h x hx
      · refine beginS_size ?_ hc
        rw [List.getD_eq_getElem?_getD]
        cases hg : ss[c.1.toNat]? with
        | none => exact Nat.zero_le _
        | some y => simpa using h y (List.mem_of_getElem? hg)
theorem fallTo_size {P : Plat} (hc : checkB P = true) (f : Nat → Int) : ∀ k, k ≤ P.cs.length → ∀ x ∈ fallTo P f k, x.size ≤ 128
  | 0, _ => (check_parts hc).2.2.2.1
  | k + 1, hk => by
    rw [fallTo]
    refine fallS_size (fallTo_size hc f k (by omega)) ?_
    have := (check_parts hc).2.2.2.2 (P.cs.getD k (0, none0)) (by
      rw [List.getD_eq_getElem?_getD, List.getElem?_eq_getElem (by omega)]
      exact List.getElem_mem _)
    exact this.1
def settleE (P : Plat) (f : Nat → Int) : Plat × Int := (⟨fallTo P f P.cs.length, []⟩, 0)
theorem settle_cap (A B : Option Addr) (n c m d : Nat) (P : Plat) (f : Nat → Int) (fn : FuncId) (cap : Array Value) (w : World) (h : PB w A n B m P)
    (hent : ∀ args W, (callFunc fn args).run Tryz.prog W = .ok (.enter fn args) W)
    (hF : ∀ (i : Nat) W', Below w.heap.size w W' → i < 100 → Calls Tryz.prog fn (#[.int .i64 (i : Nat)] ++ cap) W' fun e W'' => e = .returned (.int .i64 (f i)) ∧ W'' = W')
    (hf : ∀ i, f i ≤ 9223372036854775807) :
    Calls Tryz.prog 72 #[.agg #[.slice A n c, .slice B m d], .func (.func fn) #[] cap] w (PlRc w (settleP f P)) := by
  obtain ⟨hX, hA, hbA⟩ := two_new w #[.slice A n c, .slice B m d] 25
  have HP := Lib.hid (h.below hbA)
  have HX := Lib.hid hX
  have HA := Lib.hid hA
  have HB := Lib.hid hbA
  have HN := Lib.hid h.hn
  have HM := Lib.hid h.hm
  have HF := Lib.hid hF
  have Hf := Lib.hid hf
  clear h hX hA hbA hF hf
  go_enter Tryz.func72, Tryz.ntmps72
  go_wp2_with fail
  refine (check_any A B n c m d P _ HP.out).mono ?_
  rintro e w1 ⟨rfl, hb1⟩
  replace HP := Lib.hid (HP.out.below hb1)
  replace HX := hblk_below HX hb1
  replace HA := hblk_below HA hb1
  replace HB := Lib.hid (HB.out.trans (hb1.mono HB.out.size))
  clear hb1
  obtain ⟨x0, x1, x2, x3⟩ := two_cells HX.out
  obtain ⟨a0, a1, _, _⟩ := two_cells HA.out
  cases hc : checkB P with
  | false =>
    have Hc := Lib.hid hc
    clear hc
    go_wp2_with fail
    refine bodyPost_ret (res_cell_tmp rfl _ _ (w.heap.size + 1) (by rfl) _ (load_plat_new (two_set HX.out _ _))) rfl ?_
    rw [settleP, if_pos Hc.out]
    exact ⟨_, rfl, ⟨none, 0, 0, none, 0, 0, rfl, Nat.le_refl _, rfl, rfl, Rd.nil _ _, Rd.nil _ _, Ty.of_none _ _, Ty.of_none _ _⟩, two_by HB.out (by omega) _ _⟩
  | true =>
    have Hc := Lib.hid hc
    have HE := Lib.hid (show settleP f P = settleE P f by rw [settleP, if_neg (by rw [hc]; simp), settleE])
    obtain ⟨hk1, hk2, hk3, hk4, hk5⟩ := check_parts hc
    have HK := Lib.hid hk5
    have hn200 : n ≤ 200 := by rw [HN.out]; exact hk2
    have hm100 : m ≤ 100 := by rw [HM.out]; exact hk3
    clear hk1 hk2 hk4 hk5 hc
    go_wp2_with fail
    refine (copied_any A B n c m d P _ HP.out (by omega) (by omega)).mono ?_
    rintro e w3 ⟨g, rfl, hD, hb3⟩
    have hs13 : w.heap.size + 1 < w1.heap.size := cell_lt x0
    have hs3 := hb3.size
    replace HX := hblk_below HX hb3
    replace HA := hblk_below HA hb3
    have HB13 := Lib.hid hb3
    have HD := Lib.hid hD
    have HB3 := Lib.hid (HB.out.trans (hb3.mono HB.out.size))
    clear hb3 hD x0 x1 x2 x3 a0 a1
    obtain ⟨a0, a1, _, _⟩ := two_cells HA.out
    go_wp2_with fail
    go_loopw [21] (fun x wr => ∃ k : Nat, k ≤ m ∧ x = .int .i64 (k : Nat) ∧ Disk wr w1.heap.size g ⟨fallTo P f k, P.cs⟩ ∧ Below w1.heap.size w3 wr) (fun x _ => m - (intOf x).toNat)
    case atStart => exact ⟨0, by omega, rfl, HD.out, Below.refl _ _⟩
    case round =>
      obtain ⟨k, hk, rfl, hDk, hbk⟩ := hrel
      have HDk := Lib.hid hDk
      have hb1k := HB13.out.trans hbk
      have HWk := Lib.hid (HB.out.trans (hb1k.mono HB.out.size))
      have HPk := Lib.hid (HP.out.below hb1k)
      have HXk := Lib.hid ((hbk.block (w.heap.size + 1) (by omega)).trans HX.out)
      have hsk := hb1k.size
      have Hbk := Lib.hid hbk
      clear hDk hb1k hbk a0 a1
      by_cases hlt : k < m
      · have hil : k < P.cs.length := by rw [← HM.out]; exact hlt
        obtain ⟨b, off, hB, c0, c1⟩ := puts_at HPk.out.rc hil
        subst hB
        have hk1 : (k : Int) < (m : Int) := by omega
        have Hst := Lib.hid (show fallTo P f (k + 1) = fallS (fallTo P f k) P.cs[k] (f k) by rw [fallTo, List.getD_eq_getElem?_getD, List.getElem?_eq_getElem hil]; rfl)
        have hq := HK.out _ (List.getElem_mem hil)
        generalize P.cs[k] = q at c0 c1 hq Hst
        obtain ⟨i, s⟩ := q
        obtain ⟨hs, h0, hi⟩ := hq
        simp only at c0 c1 hs h0 hi
        obtain ⟨i, rfl⟩ := Int.eq_ofNat_of_zero_le h0
        have hi' : i < P.ss.length := by omega
        clear h0 hi
        have y0 := (two_cells (heap_alloc_new wr (.cells #[.int .i64 (i : Nat), .string s] 65))).1
        have y1 := (two_cells (heap_alloc_new wr (.cells #[.int .i64 (i : Nat), .string s] 65))).2.1
        have hba := ((Below.refl wr.heap.size wr).alloc (Nat.le_refl _) (.cells #[.int .i64 (i : Nat), .string s] 65)).drew
        have HDa := Lib.hid (HDk.out.below hba)
        have HFa := Lib.hid (HF.out k _ (HWk.out.trans (hba.mono HWk.out.size)) (by omega))
        have HBa := Lib.hid (Hbk.out.trans (hba.mono (Nat.le_trans hs3 Hbk.out.size)))
        have Hls := Lib.hid (fallTo_size Hc.out f k (by omega))
        have HXa := Lib.hid (cells_below (heap_alloc_new wr (.cells #[.int .i64 (i : Nat), .string s] 65)) ((Below.refl _ _).drew))
        clear hba
        go_wp2_with fail
        go_region_held3 (fun w' => w'.cell? ⟨wr.heap.size, 0, none⟩ = some (.int .i64 (i : Nat)) ∧ w'.cell? ⟨wr.heap.size, 1, none⟩ = some (.string s))
          (first | assumption | exact ⟨y0, y1⟩ | exact ⟨(two_cells hx5).1, (two_cells hx5).2.1⟩)
          (first
            | ((go_at_call 95; refine (dfall_any w1.heap.size g ⟨fallTo P f k, P.cs⟩ i s (f k) _ HDa.out (by simp; omega) (by rw [fallTo_len]; exact hi') (by omega) (fun x hx => Nat.le_trans (Hls.out x hx) (by omega)) (Hf.out k)).mono ?_); rintro _ w' ⟨⟨v5, rfl⟩, hD5, hb5, hk5⟩; have hx5 := hk5 _ _ HXa.out (by rintro cs fr ⟨⟩))
            | (with_reducible refine Calls.mono HFa.out ?_; rintro _ w' ⟨rfl, rfl⟩))
        go_wp2_with fail
        go_roundw
        case rel => exact ⟨k + 1, by omega, by go_num, by rw [Hst.out]; exact hD5, HBa.out.trans hb5⟩
        case measure => simp [intOf]; omega
      · obtain rfl : k = m := by omega
        obtain ⟨A6, n6, c6, B6, m6, d6, hg6, hB6, hO6⟩ := HDk.out
        obtain ⟨g0, g1, g2, g3⟩ := two_cells hg6
        have HG6 := Lib.hid hg6
        have HO6 := Lib.hid hO6
        clear hg6 hO6 HDk
        go_wp2_with fail
        have hD7 : Disk (wr.setCell ⟨g, 1, none⟩ (.slice none 0 0)) w1.heap.size g ⟨fallTo P f k, []⟩ := by
          have ho := HO6.out.set HG6.out (by decide) (by decide) 1 (.slice none 0 0)
          exact ⟨A6, n6, c6, none, 0, 0, blk_set HG6.out 1 (.slice none 0 0), hB6, ho.hn, rfl, ho.os, World.ownsRow_nil _ _ _ _⟩
        have hX7 := (Below.heap_setCell wr ⟨g, 1, none⟩ (.slice none 0 0) (w.heap.size + 1) (by simp; omega)).trans HXk.out
        have hB7 := HWk.out.trans (by_set (w := wr) (b := g) (i := 1) (B0 := w.heap.size) (by omega) (.slice none 0 0))
        refine (plain_any w1.heap.size g _ _ hD7).mono ?_
        rintro e w5 ⟨A5, n5, c5, B5, m5, d5, rfl, hO5, hb5⟩
        have HX7 := Lib.hid (cells_below hX7 hb5)
        have HO5 := Lib.hid hO5
        have HB5 := Lib.hid (hB7.trans (hb5.mono hB7.size))
        clear hO5 hb5 hD7 hX7 hB7 g0 g1 g2 g3
        obtain ⟨x0, x1, x2, x3⟩ := two_cells HX7.out
        go_wp2_with fail
        refine bodyPost_ret (res_cell_tmp rfl _ _ (w.heap.size + 1) (by rfl) _ (load_plat_new (two_set HX7.out _ _))) rfl ?_
        rw [HE.out, settleE, ← HM.out]
        exact ⟨_, rfl, ⟨_, _, _, _, _, _, rfl, own_cap HO5.out.os, (HO5.out.two HX7.out _ _).pb⟩, two_by HB5.out (by omega) _ _⟩
theorem settle_any (A B : Option Addr) (n c m d : Nat) (P : Plat) (f : Nat → Int) (fn : FuncId) (cap : Array Value) (w : World) (h : PB w A n B m P)
    (hent : ∀ args W, (callFunc fn args).run Tryz.prog W = .ok (.enter fn args) W)
    (hF : ∀ (i : Nat) W', Below w.heap.size w W' → i < 100 → Calls Tryz.prog fn (#[.int .i64 (i : Nat)] ++ cap) W' fun e W'' => e = .returned (.int .i64 (f i)) ∧ W'' = W')
    (hf : ∀ i, f i ≤ 9223372036854775807) :
    Calls Tryz.prog 72 #[.agg #[.slice A n c, .slice B m d], .func (.func fn) #[] cap] w (PlR w (settleP f P)) := by
  refine (settle_cap A B n c m d P f fn cap w h hent hF hf).mono ?_
  rintro e w' ⟨v, rfl, ⟨A', n', c', B', m', d', rfl, -, hp⟩, hb⟩
  exact ⟨_, rfl, ⟨_, _, _, _, _, _, rfl, hp⟩, hb⟩
theorem sync1_any (i : Int) (w : World) : Calls Tryz.prog 82 #[.int .i64 i] w fun e w' => e = .returned (.int .i64 1) ∧ w' = w := by
  go_enter Tryz.func82, Tryz.ntmps82
  go_wp2_with fail
  go_ret
  exact ⟨rfl, rfl⟩
theorem sync_any (v : Value) (P : Plat) (w : World) (h : PlV w v P) : Calls Tryz.prog 52 #[v] w (PlR w (syncP P)) := by
  obtain ⟨A, n, c, B, m, d, rfl, h⟩ := h
  obtain ⟨hX, hA, hbA⟩ := two_new w #[.slice A n c, .slice B m d] 25
  have HP := Lib.hid (h.below hbA)
  have HX := Lib.hid hX
  have HB := Lib.hid hbA
  clear h hX hA hbA
  go_enter Tryz.func52, Tryz.ntmps52
  go_wp2_with fail
  refine (settle_any A B n c m d P (fun _ => 1) 82 #[] _ HP.out (enters_of Tryz.func82 (by kernel_rfl) rfl) (fun i W' _ _ => sync1_any i W') (fun _ => by omega)).mono ?_
  rintro e w1 ⟨v1, rfl, hv1, hb1⟩
  rw [← syncP] at hv1 ⊢
  obtain ⟨A5, n5, c5, B5, m5, d5, rfl, hO5⟩ := hv1
  replace HX := hblk_below HX hb1
  replace HB := Lib.hid (HB.out.trans (hb1.mono HB.out.size))
  have HO := Lib.hid hO5
  clear hb1 hO5
  obtain ⟨x0, x1, x2, x3⟩ := two_cells HX.out
  go_wp2_with fail
  refine bodyPost_ret (res_cell_tmp rfl _ _ (w.heap.size + 1) (by rfl) _ (load_plat_new (two_set HX.out _ _))) rfl ?_
  exact ⟨_, rfl, ⟨_, _, _, _, _, _, rfl, HO.out.two HX.out⟩, two_by HB.out (by omega) _ _⟩

/- Crash -/
open Go.RowKit
set_option linter.unusedVariables false
set_option maxRecDepth 100000
set_option maxHeartbeats 1000000

theorem crash1_any (F : Option Addr) (nf cf g i : Nat) (fs : List Int) (w : World) (hc : w.cell? ⟨g, 0, none⟩ = some (.slice F nf cf)) (hr : Rd w F (ints fs)) (hn : nf = fs.length) (hi : i ≤ 100000) (hl : nf ≤ maxLen) :
    Calls Tryz.prog 73 #[.int .i64 (i : Nat), .pointer (some ⟨g, 0, none⟩)] w fun e w' => e = .returned (.int .i64 (fs.getD i 0)) ∧ w' = w := by
  have HR := Lib.hid hr
  have HN := Lib.hid hn
  unfold maxLen at hl
  clear hr hn
  by_cases h : i < nf
  · obtain ⟨b, off, hF, c0⟩ := HR.out.int_at (i := i) (by rw [← HN.out]; exact h)
    subst hF
    generalize fs.getD i 0 = x at c0 ⊢
    have d1 : decide ((i : Int) < (nf : Int)) = true := by simp; omega
    have d2 : (i : Int) < (nf : Int) := by omega
    go_enter Tryz.func73, Tryz.ntmps73
    go_wp2_with fail
    go_ret
    exact ⟨rfl, rfl⟩
  · have hz : fs.getD i 0 = 0 := by
      rw [List.getD_eq_getElem?_getD, List.getElem?_eq_none (by rw [← HN.out]; omega)]
      rfl
    rw [hz]
    have d1 : decide ((i : Int) < (nf : Int)) = false := by simp; omega
    go_enter Tryz.func73, Tryz.ntmps73
    go_wp2_with fail
    go_ret
    exact ⟨rfl, rfl⟩
theorem crash_cap (v : Value) (P : Plat) (F : Option Addr) (nf cf : Nat) (fs : List Int) (w : World) (h : PlV w v P) (hr : Rd w F (ints fs)) (hn : nf = fs.length) (hl : nf ≤ maxLen) (hf : ∀ x ∈ fs, x ≤ 9223372036854775807) :
    Calls Tryz.prog 39 #[v, .slice F nf cf] w (PlRc w (crashP fs P)) := by
  obtain ⟨A, n, c, B, m, d, rfl, h⟩ := h
  have hb1 := (Below.refl w.heap.size w).alloc (Nat.le_refl _) (.cells #[.slice A n c, .slice B m d] 25)
  have hb2 := (Below.refl (w.alloc (.cells #[.slice A n c, .slice B m d] 25)).heap.size (w.alloc (.cells #[.slice A n c, .slice B m d] 25))).alloc (Nat.le_refl _) (.cells #[.slice F nf cf] 71)
  have hb3 := (Below.refl ((w.alloc (.cells #[.slice A n c, .slice B m d] 25)).alloc (.cells #[.slice F nf cf] 71)).heap.size ((w.alloc (.cells #[.slice A n c, .slice B m d] 25)).alloc (.cells #[.slice F nf cf] 71))).alloc (Nat.le_refl _) (.cells zP 25)
  have hX := heap_alloc_new ((w.alloc (.cells #[.slice A n c, .slice B m d] 25)).alloc (.cells #[.slice F nf cf] 71)) (.cells zP 25)
  have hbx := cells_below (heap_alloc_new (w.alloc (.cells #[.slice A n c, .slice B m d] 25)) (.cells #[.slice F nf cf] 71)) hb3
  simp only [World.size_alloc] at hX hbx
  have hB := Below.chain (Below.chain hb1 hb2) hb3
  have HX := Lib.hid hX
  have HBX := Lib.hid hbx
  have HB := Lib.hid hB
  have HP := Lib.hid (h.below hB)
  have HR := Lib.hid (hr.below hB)
  have HN := Lib.hid hn
  have HM := Lib.hid (show m = P.cs.length from h.hm)
  have HF := Lib.hid (show ∀ i : Nat, fs.getD i 0 ≤ 9223372036854775807 from fun i => by
    rw [List.getD_eq_getElem?_getD]
    cases hg : fs[i]? with
    | none => simp
    | some y => simpa using hf y (List.mem_of_getElem? hg))
  clear h hX hbx hB hr hn hb1 hb2 hb3 hf
  · go_enter Tryz.func39, Tryz.ntmps39
    go_wp2_with fail
    refine (settle_cap A B n c m d P (fun i => fs.getD i 0) 73 #[.pointer (some ⟨w.heap.size + 1, 0, none⟩)] _ HP.out (enters_of Tryz.func73 (by kernel_rfl) rfl) (fun i W' hW hi => crash1_any F nf cf (w.heap.size + 1) i fs W' (cell_of_one (cells_below HBX.out hW)) (HR.out.below hW) HN.out (by omega) hl) HF.out).mono ?_
    rintro e w1 ⟨v1, rfl, hv1, hb1⟩
    rw [← crashP] at hv1 ⊢
    obtain ⟨A5, n5, c5, B5, m5, d5, rfl, hc5, hO5⟩ := hv1
    replace HX := hblk_below HX hb1
    replace HB := Lib.hid (HB.out.trans (hb1.mono HB.out.size))
    have HO := Lib.hid hO5
    clear hb1 hO5
    obtain ⟨x0, x1, x2, x3⟩ := two_cells HX.out
    go_wp2_with fail
    refine bodyPost_ret (res_cell_tmp rfl _ _ (w.heap.size + 1 + 1) (by rfl) _ (load_plat_new (two_set HX.out _ _))) rfl ?_
    exact ⟨_, rfl, ⟨_, _, _, _, _, _, rfl, hc5, HO.out.two HX.out⟩, two_by HB.out (by omega) _ _⟩

theorem crash_any (v : Value) (P : Plat) (F : Option Addr) (nf cf : Nat) (fs : List Int) (w : World) (h : PlV w v P) (hr : Rd w F (ints fs)) (hn : nf = fs.length) (hl : nf ≤ maxLen) (hf : ∀ x ∈ fs, x ≤ 9223372036854775807) :
    Calls Tryz.prog 39 #[v, .slice F nf cf] w (PlR w (crashP fs P)) := by
  refine (crash_cap v P F nf cf fs w h hr hn hl hf).mono ?_
  rintro e w' ⟨v', rfl, ⟨A', n', c', B', m', d', rfl, -, hp⟩, hb⟩
  exact ⟨_, rfl, ⟨_, _, _, _, _, _, rfl, hp⟩, hb⟩

/- ReadP -/
open Go.RowKit Go.Shelf
set_option linter.unusedVariables false
attribute [local go_sem] Oper.semAt_some

theorem own_cellsB {β : Type} (b : Nat) (C : Array Value) (t : TypeId) : Own (fun (_ : β) W => W.heap[b]? = some (.cells C t (0, 0))) := fun s A B row hs hg hr => by
  refine (hg.block b (cell_lt_of hs) (fun e => ?_)).trans hs
  obtain ⟨o, ho, hc⟩ := hr b e.symm
  rw [hs] at ho
  obtain rfl := Option.some.inj ho
  cases hc
/-- What is there since before the call stays, and the box of the cache. -/
def KpR (n0 Bb : Nat) (W W' : World) : Prop := Below n0 W W' ∧ KeepB [Bb] W W'
theorem kpR_t {n0 Bb : Nat} {A B C : World} (h : KpR n0 Bb A B) (k : KpR n0 Bb B C) : KpR n0 Bb A C := ⟨h.1.trans k.1, keepB_t h.2 k.2⟩
theorem kpR_b {n0 Bb : Nat} {w : World} (hn : n0 ≤ w.heap.size) (hb : Bb < w.heap.size) (W : World) (l : Nat) (o o' : Obj) (hl : w.heap.size ≤ l) (h1 : W.heap[l]? = some o) (h2 : o.isCells = false) (h3 : o.isWalk = false) : KpR n0 Bb W (W.putObj l o') :=
  ⟨belowK_b hn W l o o' hl h1 h2 h3, keepB_b (by simp; exact hb) W l o o' hl h1 h2 h3⟩

set_option maxRecDepth 100000 in
set_option maxHeartbeats 1000000 in
theorem backward1_in (F : Fence) (n : Nat) (hf : F.fn 101) (hro : F.round = none) (hn : 1 ≤ n) (l Bb n0 : Nat) (B : Option Addr) (m d : Nat) (cs : List PutP) (hm : m = cs.length) (hl : m ≤ 1000) (J Jx : List PutP → World → Prop)
    (hY : ∀ pre x W, J pre W → pre.length < m → YieldAt F (n - 1) Tryz.prog l #[.agg #[.int .i64 x.1, .string x.2]] W fun e W' =>
      (e = .returned (.bool true) ∧ J (pre ++ [x]) W' ∧ KpR n0 Bb W W') ∨ (e = .returned (.bool false) ∧ Jx (pre ++ [x]) W'))
    (w0 W : World) (hw0 : w0.heap.size ≤ n0) (hbW : Below n0 w0 W) (hBb : W.heap[Bb]? = some (.cells #[.slice B m d] 23 (0, 0))) (hr : Rd w0 B (putsV cs)) (h0 : J [] W) :
    CallsIn F n Tryz.prog 101 #[.func (.yield l) #[] #[], .pointer (some ⟨Bb, 0, none⟩)] W fun e W' => (∃ v, e = .returned v) ∧
      ((∃ ys, ys = cs.reverse ∧ J ys W') ∨ (∃ pre, pre <+: cs.reverse ∧ Jx pre W')) := by
  have HY := Lib.hid hY
  have HM := Lib.hid hm
  have HR := Lib.hid hr
  clear hY hm hr
  have cb := cell_of_one hBb
  refine callsIn_of_wp Tryz.func101 rfl hf ?_ hro
  simp only [Tryz.ntmps101, List.size_toArray, List.length_cons, List.length_nil, Nat.reduceAdd, Nat.reduceSub, Array.replicate_succ, Array.replicate_zero, List.push_toArray, List.append_toArray, List.nil_append, List.cons_append]
  gi_wp2
  gi_loopw [3] (fun v wr => ∃ (j : Nat) (i : Int), j ≤ m ∧ v = .int .i64 i ∧ i = (j : Int) - 1 ∧ wr.heap[Bb]? = some (.cells #[.slice B m d] 23 (0, 0)) ∧ Below n0 w0 wr ∧ J (cs.reverse.take (m - j)) wr) (fun v _ => (intOf v + 1).toNat)
  case atStart => exact ⟨m, _, Nat.le_refl _, rfl, rfl, hBb, hbW, by rw [Nat.sub_self]; exact h0⟩
  case round =>
    obtain ⟨j, i, hj, rfl, hi, hBk, hbk, hJ⟩ := hrel
    have ck := cell_of_one hBk
    cases j with
    | zero =>
      obtain rfl : i = -1 := by omega
      clear hi
      gi_wp2
      go_end0
      refine ⟨⟨_, rfl⟩, .inl ⟨_, rfl, ?_⟩⟩
      rw [Nat.sub_zero, List.take_of_length_le (by rw [List.length_reverse, HM.out]; exact Nat.le_refl _)] at hJ
      exact hJ
    | succ j =>
      obtain rfl : i = (j : Int) := by omega
      have hjl : j < cs.length := by rw [← HM.out]; omega
      obtain ⟨b, off, hB, c0, c1⟩ := puts_at (HR.out.below (hbk.mono hw0)) hjl
      subst hB
      have hjm : (j : Int) < (m : Int) := by omega
      have Hx := Lib.hid (show cs.reverse.take (m - j) = cs.reverse.take (m - (j + 1)) ++ [cs[j]] by
        have e : m - j = (m - (j + 1)) + 1 := by omega
        have hl2 : m - (j + 1) < cs.reverse.length := by rw [List.length_reverse, ← HM.out]; omega
        rw [e, List.take_succ_eq_append_getElem hl2, List.getElem_reverse]
        congr 3
        rw [← HM.out]
        omega)
      have HBk := Lib.hid hBk
      have Hbk := Lib.hid hbk
      generalize cs[j] = q at c0 c1 Hx
      have hlen : (cs.reverse.take (m - (j + 1))).length < m := by rw [List.length_take]; omega
      obtain ⟨fn, tmps, assign, body, hy, hR⟩ := HY.out _ q wr hJ hlen
      have HR2 := Lib.hid hR
      obtain ⟨i0, s⟩ := q
      simp only at c0 c1 hy
      clear hR hi hBk hbk hJ hlen
      gi_wp2
      refine HR2.out.mono ?_
      rintro e W3 (⟨rfl, hJ3, hk3⟩ | ⟨rfl, hJx3⟩)
      · have HJ3 := Lib.hid hJ3
        have hB3 := (hk3.2 Bb (by simp)).trans HBk.out
        have hb3 := Hbk.out.trans hk3.1
        clear hJ3 hk3
        gi_wp2
        go_roundw
        case rel => exact ⟨j, _, by omega, rfl, rfl, hB3, hb3, by rw [Hx.out]; exact HJ3.out⟩
        case measure => simp [intOf]
      · have HJx3 := Lib.hid hJx3
        clear hJx3
        gi_wp2
        refine bodyPost_ret (results_none rfl _ _ _) rfl ?_
        refine ⟨⟨_, rfl⟩, .inr ⟨_, ?_, HJx3.out⟩⟩
        rw [← Hx.out]
        exact List.take_prefix _ _
theorem backward_in (F : Fence) (n : Nat) (hf : F.fn 78) (hro : F.round = none) (B : Option Addr) (m d : Nat) (w : World) :
    CallsIn F n Tryz.prog 78 #[.slice B m d] w fun e w' => e = .returned (.func (.func 101) #[] #[.pointer (some ⟨w.heap.size, 0, none⟩)]) ∧ w' = w.alloc (.cells #[.slice B m d] 23) := by
  refine callsIn_of_wp Tryz.func78 rfl hf ?_ hro
  simp only [Tryz.ntmps78, List.size_toArray, List.length_cons, List.length_nil, Nat.reduceAdd, Nat.reduceSub, Array.replicate_succ, Array.replicate_zero, List.push_toArray, List.append_toArray, List.nil_append, List.cons_append]
  gi_wp2
  go_ret
  exact ⟨rfl, rfl⟩
theorem res_cells2 {P : Program} {fn : Func} {a b : Tmp} {ta tb : TypeId} (h : fn.results = #[.cell a ta, .cell b tb]) (tmps : Array Value) (w : World) (g k : Nat) (ha : tmps.getD a undef = .pointer (some ⟨g, 0, none⟩)) (hb : tmps.getD b undef = .pointer (some ⟨k, 0, none⟩)) (u v : Value)
    (hl : (loadVar ta ⟨g, 0, none⟩).run P w = .ok u w) (hk : (loadVar tb ⟨k, 0, none⟩).run P w = .ok v w) : (results fn tmps).run P w = .ok (.tuple #[u, v]) w := by
  have ha' : tmps[a]?.getD undef = .pointer (some ⟨g, 0, none⟩) := by simpa using ha
  have hb' : tmps[b]?.getD undef = .pointer (some ⟨k, 0, none⟩) := by simpa using hb
  simp [results, h, asAddr, ha', hb', hl, hk]
theorem load_str {w : World} {g : Nat} {s : ByteArray} (h : w.cell? ⟨g, 0, none⟩ = some (.string s)) : (loadVar 9 ⟨g, 0, none⟩).run Tryz.prog w = .ok (.string s) w := by
  go_simp
theorem load_errno {w : World} {g : Nat} {x : Int} (h : w.cell? ⟨g, 0, none⟩ = some (.int .i64 x)) : (loadVar 30 ⟨g, 0, none⟩).run Tryz.prog w = .ok (.int .i64 x) w := by
  go_simp
def ReadPost (w : World) (r : ByteArray × Int) (e : Ending) (w' : World) : Prop := e = .returned (.tuple #[.string r.1, .int .i64 r.2]) ∧ Below w.heap.size w w'
theorem four_new (w : World) (a b c d : Array Value) (ta tb tc td : TypeId) :
    ((((w.alloc (.cells a ta)).alloc (.cells b tb)).alloc (.cells c tc)).alloc (.cells d td)).heap[w.heap.size]? = some (.cells a ta (0, 0)) ∧ ((((w.alloc (.cells a ta)).alloc (.cells b tb)).alloc (.cells c tc)).alloc (.cells d td)).heap[w.heap.size + 1]? = some (.cells b tb (0, 0)) ∧
    ((((w.alloc (.cells a ta)).alloc (.cells b tb)).alloc (.cells c tc)).alloc (.cells d td)).heap[w.heap.size + 1 + 1]? = some (.cells c tc (0, 0)) ∧ ((((w.alloc (.cells a ta)).alloc (.cells b tb)).alloc (.cells c tc)).alloc (.cells d td)).heap[w.heap.size + 1 + 1 + 1]? = some (.cells d td (0, 0)) ∧
    Below w.heap.size w ((((w.alloc (.cells a ta)).alloc (.cells b tb)).alloc (.cells c tc)).alloc (.cells d td)) := by
  have h0 := heap_alloc_new w (.cells a ta)
  have h1 := heap_alloc_new (w.alloc (.cells a ta)) (.cells b tb)
  have h2 := heap_alloc_new ((w.alloc (.cells a ta)).alloc (.cells b tb)) (.cells c tc)
  have h3 := heap_alloc_new (((w.alloc (.cells a ta)).alloc (.cells b tb)).alloc (.cells c tc)) (.cells d td)
  have b1 := (Below.refl (w.alloc (.cells a ta)).heap.size (w.alloc (.cells a ta))).alloc (Nat.le_refl _) (.cells b tb)
  have b2 := (Below.refl ((w.alloc (.cells a ta)).alloc (.cells b tb)).heap.size ((w.alloc (.cells a ta)).alloc (.cells b tb))).alloc (Nat.le_refl _) (.cells c tc)
  have b3 := (Below.refl (((w.alloc (.cells a ta)).alloc (.cells b tb)).alloc (.cells c tc)).heap.size (((w.alloc (.cells a ta)).alloc (.cells b tb)).alloc (.cells c tc))).alloc (Nat.le_refl _) (.cells d td)
  have hB := ((Below.refl w.heap.size w).alloc (Nat.le_refl _) (.cells a ta))
  have c0 := cells_below (cells_below (cells_below h0 b1) b2) b3
  have c1 := cells_below (cells_below h1 b2) b3
  have c2 := cells_below h2 b3
  simp only [World.size_alloc] at c1 c2 h3
  exact ⟨c0, c1, c2, h3, Below.chain (Below.chain (Below.chain hB b1) b2) b3⟩
theorem boxes_set {W : World} {g k : Nat} {T2 T3 : TypeId} {u0 v0 : Value} (hne : g ≠ k) (h2 : W.heap[g]? = some (.cells #[u0] T2 (0, 0))) (h3 : W.heap[k]? = some (.cells #[v0] T3 (0, 0))) (u v : Value) :
    ((W.setCell ⟨g, 0, none⟩ u).setCell ⟨k, 0, none⟩ v).heap[g]? = some (.cells #[u] T2 (0, 0)) ∧ ((W.setCell ⟨g, 0, none⟩ u).setCell ⟨k, 0, none⟩ v).heap[k]? = some (.cells #[v] T3 (0, 0)) := by
  have a := blk_set h2 0 u
  have b := (Below.heap_setCell W ⟨g, 0, none⟩ u k (fun e => hne e.symm)).trans h3
  exact ⟨(Below.heap_setCell (W.setCell ⟨g, 0, none⟩ u) ⟨k, 0, none⟩ v g hne).trans a, blk_set b 0 v⟩
set_option maxRecDepth 100000 in
set_option maxHeartbeats 2000000 in
theorem read_bad (A B : Option Addr) (n c m d : Nat) (P : Plat) (i : Int) (w : World) (h : PB w A n B m P) (hbad : checkB P = false ∨ hasB P.ss.length i = false) :
    Calls Tryz.prog 45 #[.agg #[.slice A n c, .slice B m d], .int .i64 i] w (ReadPost w (readP P i)) := by
  obtain ⟨h0, h1, h2, h3, hb⟩ := four_new w #[.slice A n c, .slice B m d] #[.int .i64 i] #[.string ⟨#[]⟩] #[.int .i64 0] 25 3 9 30
  have H := Lib.hid (h.below hb)
  have HN := Lib.hid h.hn
  have HB := Lib.hid hb
  have H0 := Lib.hid h0
  have H1 := Lib.hid h1
  have H2 := Lib.hid h2
  have H3 := Lib.hid h3
  clear h h0 h1 h2 h3 hb
  go_enter Tryz.func45, Tryz.ntmps45
  go_wp2_with fail
  refine (check_any A B n c m d P _ H.out).mono ?_
  rintro e w1 ⟨rfl, hb1⟩
  replace H := Lib.hid (H.out.below hb1)
  replace H0 := hblk_below H0 hb1
  replace H1 := hblk_below H1 hb1
  replace H2 := hblk_below H2 hb1
  replace H3 := hblk_below H3 hb1
  replace HB := Lib.hid (HB.out.trans (hb1.mono HB.out.size))
  clear hb1
  have hlt := cell_lt_of H3.out
  have r0 := cell_of_one H2.out
  have r1 := Boxed.frozen H2.out
  have e0 := cell_of_one H3.out
  have e1 := Boxed.frozen H3.out
  cases hc : checkB P with
  | false =>
    have Hr := Lib.hid (show readP P i = (none0, 1) by rw [readP, if_pos hc])
    clear hc hbad
    go_wp2_with fail
    obtain ⟨q2, q3⟩ := boxes_set (by omega) H2.out H3.out (.string ⟨#[]⟩) (.int .i64 1)
    refine bodyPost_ret (res_cells2 rfl _ _ (w.heap.size + 1 + 1) (w.heap.size + 1 + 1 + 1) (by rfl) (by rfl) _ _ (load_str (cell_of_one q2)) (load_errno (cell_of_one q3))) rfl ?_
    rw [Hr.out]
    exact ⟨rfl, (HB.out.trans (by_set (by omega) _)).trans (by_set (by omega) _)⟩
  | true =>
    have hh : hasB P.ss.length i = false := hbad.resolve_left (by rw [hc]; simp)
    have Hr := Lib.hid (show readP P i = (none0, 130) by rw [readP, if_neg (by rw [hc]; simp), if_pos hh])
    have Hh := Lib.hid (show hasB n i = false by rw [HN.out]; exact hh)
    obtain ⟨a0, a1, _, _⟩ := two_cells H0.out
    have b0 := cell_of_one H1.out
    clear hc hbad hh
    go_wp2_with fail
    refine (phas_any A B n c m d i _).mono ?_
    rintro e w2 ⟨rfl, hb2⟩
    replace H2 := hblk_below H2 hb2
    replace H3 := hblk_below H3 hb2
    replace HB := Lib.hid (HB.out.trans (hb2.mono HB.out.size))
    rw [Hh.out]
    clear hb2 a0 a1 b0 r0 r1 e0 e1
    have r0 := cell_of_one H2.out
    have r1 := Boxed.frozen H2.out
    have e0 := cell_of_one H3.out
    have e1 := Boxed.frozen H3.out
    have hlt2 := cell_lt_of H3.out
    go_wp2_with fail
    obtain ⟨q2, q3⟩ := boxes_set (by omega) H2.out H3.out (.string ⟨#[]⟩) (.int .i64 130)
    refine bodyPost_ret (res_cells2 rfl _ _ (w.heap.size + 1 + 1) (w.heap.size + 1 + 1 + 1) (by rfl) (by rfl) _ _ (load_str (cell_of_one q2)) (load_errno (cell_of_one q3))) rfl ?_
    rw [Hr.out]
    exact ⟨rfl, (HB.out.trans (by_set (by omega) _)).trans (by_set (by omega) _)⟩
theorem lastS_none {cs : List PutP} {i : Int} (h : ∀ q ∈ cs.reverse, ¬ q.1 = i) : lastS cs i = none := by
  rw [lastS, List.find?_eq_none.2 (fun q hq => by simpa using h q hq)]
  rfl
theorem lastS_some {cs pre : List PutP} {i : Int} {q : PutP} (h : pre ++ [q] <+: cs.reverse) (hp : ∀ x ∈ pre, ¬ x.1 = i) (hq : q.1 = i) : lastS cs i = some q.2 := by
  obtain ⟨t, ht⟩ := h
  rw [lastS, ← ht, List.append_assoc, List.find?_append, List.find?_eq_none.2 (fun x hx => by simpa using hp x hx)]
  simp [hq]
/-- Between two rounds. -/
structure RI (w : World) (i : Int) (C : Array Value) (sz : Nat) (pre : List PutP) (W : World) : Prop where
  hp : ∀ q ∈ pre, ¬ q.1 = i
  g0 : W.heap[w.heap.size]? = some (.cells C 25 (0, 0))
  g1 : W.heap[w.heap.size + 1]? = some (.cells #[.int .i64 i] 3 (0, 0))
  g2 : W.heap[w.heap.size + 1 + 1]? = some (.cells #[.string ⟨#[]⟩] 9 (0, 0))
  g3 : W.heap[w.heap.size + 1 + 1 + 1]? = some (.cells #[.int .i64 0] 30 (0, 0))
  gB : Below w.heap.size w W
  gs : sz ≤ W.heap.size
/-- A round has left. -/
structure RX (w : World) (i : Int) (cd : Code) (pre : List PutP) (W : World) : Prop where
  cd : cd = .ret
  ex : ∃ pre' q, pre = pre' ++ [q] ∧ (∀ x ∈ pre', ¬ x.1 = i) ∧ q.1 = i ∧ W.heap[w.heap.size + 1 + 1]? = some (.cells #[.string q.2] 9 (0, 0))
  g3 : W.heap[w.heap.size + 1 + 1 + 1]? = some (.cells #[.int .i64 0] 30 (0, 0))
  gB : Below w.heap.size w W
theorem own_cB {b : Nat} {C : Array Value} {t : TypeId} {X Y : World} {row : Option Nat} (h : X.heap[b]? = some (.cells C t (0, 0))) (hg : X.grownBy Y row) (hr : ∀ r, row = some r → ∃ o : Obj, X.heap[r]? = some o ∧ o.isCells = false) : Y.heap[b]? = some (.cells C t (0, 0)) := own_cellsB (β := Unit) b C t () X Y row h hg hr
theorem ri_own (w : World) (i : Int) (C : Array Value) (sz B : Nat) (hB : w.heap.size ≤ B) : OwnFrom B (RI w i C sz) := fun s X Y row h hg hr =>
  ⟨h.hp, own_cB h.g0 hg (fun r e => (hr r e).2), own_cB h.g1 hg (fun r e => (hr r e).2), own_cB h.g2 hg (fun r e => (hr r e).2), own_cB h.g3 hg (fun r e => (hr r e).2), ownFrom_below (β := Unit) (w₀ := w) (Nat.le_refl _) hB () X Y row h.gB hg hr, Nat.le_trans h.gs hg.size⟩
theorem rx_own (w : World) (i : Int) (cd : Code) (B : Nat) (hB : w.heap.size ≤ B) : OwnFrom B (RX w i cd) := fun s X Y row h hg hr => by
  obtain ⟨p', q, h2, h3, h4, h5⟩ := h.ex
  exact ⟨h.cd, ⟨p', q, h2, h3, h4, own_cB h5 hg (fun r e => (hr r e).2)⟩, own_cB h.g3 hg (fun r e => (hr r e).2), ownFrom_below (β := Unit) (w₀ := w) (Nat.le_refl _) hB () X Y row h.gB hg hr⟩
set_option maxRecDepth 100000 in
set_option maxHeartbeats 4000000 in
theorem read_good (A B : Option Addr) (n c m d : Nat) (P : Plat) (i : Nat) (w : World) (h : PB w A n B m P) (hc : checkB P = true) (hi : i < P.ss.length) :
    Calls Tryz.prog 45 #[.agg #[.slice A n c, .slice B m d], .int .i64 (i : Nat)] w (ReadPost w (readS P i, 0)) := by
  obtain ⟨h0, h1, h2, h3, hb⟩ := four_new w #[.slice A n c, .slice B m d] #[.int .i64 (i : Nat)] #[.string ⟨#[]⟩] #[.int .i64 0] 25 3 9 30
  have H := Lib.hid (h.below hb)
  have HN := Lib.hid h.hn
  have HM := Lib.hid h.hm
  have HRw := Lib.hid h.rc
  have HRs := Lib.hid h.rs
  have HB := Lib.hid hb
  have H0 := Lib.hid h0
  have H1 := Lib.hid h1
  have H2 := Lib.hid h2
  have H3 := Lib.hid h3
  have hm100 : m ≤ 1000 := by have := (check_parts hc).2.2.1; rw [h.hm]; omega
  have Hh := Lib.hid (show hasB n (i : Nat) = true by rw [h.hn]; simp [hasB]; omega)
  have Hc := Lib.hid hc
  have hin : (i : Int) < (n : Int) := by rw [h.hn]; omega
  clear h h0 h1 h2 h3 hb hc
  refine (callsIn_wide (n := 4)).1 ?_
  refine callsIn_of_wp_marks Tryz.func45 rfl trivial ?_ rfl
  simp only [Tryz.ntmps45, List.size_toArray, List.length_cons, List.length_nil, Nat.reduceAdd, Nat.reduceSub, Array.replicate_succ, Array.replicate_zero, List.push_toArray, List.append_toArray, List.nil_append, List.cons_append]
  gi_wp2_with (first
    | (refine ⟨trivial, ?_⟩; gi_at_call 76; refine (callsIn_wide.2 (check_any A B n c m d P _ H.out)).mono ?_; rintro e w1 ⟨rfl, hb1⟩; rw [Hc.out]; replace H := Lib.hid (H.out.below hb1); replace H0 := hblk_below H0 hb1; replace H1 := hblk_below H1 hb1; replace H2 := hblk_below H2 hb1; replace H3 := hblk_below H3 hb1; replace HB := Lib.hid (HB.out.trans (hb1.mono HB.out.size)); clear hb1; obtain ⟨a0, a1, _, _⟩ := two_cells H0.out; have b0 := cell_of_one H1.out)
    | (refine ⟨trivial, ?_⟩; gi_at_call 77; refine (callsIn_wide.2 (phas_any A B n c m d (i : Nat) _)).mono ?_; rintro e w2 ⟨rfl, hb2⟩; rw [Hh.out]; replace H := Lib.hid (H.out.below hb2); replace H0 := hblk_below H0 hb2; replace H1 := hblk_below H1 hb2; replace H2 := hblk_below H2 hb2; replace H3 := hblk_below H3 hb2; replace HB := Lib.hid (HB.out.trans (hb2.mono HB.out.size)); clear hb2 a0 a1 b0; obtain ⟨a0, a1, _, _⟩ := two_cells H0.out)
    | (refine ⟨trivial, ?_⟩; gi_at_call 78; refine (backward_in Fence.wide _ trivial rfl B m d _).mono ?_; rintro e w3 ⟨rfl, rfl⟩))
  have hH0 := cells_below H0.out ((Below.refl w2.heap.size w2).alloc (Nat.le_refl _) (.cells #[.slice B m d] 23))
  have hH1 := cells_below H1.out ((Below.refl w2.heap.size w2).alloc (Nat.le_refl _) (.cells #[.slice B m d] 23))
  have hH2 := cells_below H2.out ((Below.refl w2.heap.size w2).alloc (Nat.le_refl _) (.cells #[.slice B m d] 23))
  have hH3 := cells_below H3.out ((Below.refl w2.heap.size w2).alloc (Nat.le_refl _) (.cells #[.slice B m d] 23))
  have hHb := heap_alloc_new w2 (.cells #[.slice B m d] 23)
  have hbW := HB.out.alloc HB.out.size (.cells #[.slice B m d] 23)
  have hlt2 := cell_lt_of H3.out
  have hsz : (w2.alloc (.cells #[.slice B m d] 23)).heap.size = w2.heap.size + 1 := by simp
  obtain ⟨Bb, hBb⟩ : ∃ b, b = w2.heap.size := ⟨_, rfl⟩
  rw [← hBb] at hHb hsz hlt2 ⊢
  obtain ⟨W0, hW0⟩ : ∃ W, W = w2.alloc (.cells #[.slice B m d] 23) := ⟨_, rfl⟩
  rw [← hW0] at hH0 hH1 hH2 hH3 hHb hbW hsz ⊢
  clear hW0 hBb a0 a1 H H0 H1 H2 H3 HB
  refine wpIn_rangeFunc_ownH rfl (by omega) (gf := 101) (lb := #[.pointer (some ⟨Bb, 0, none⟩)]) rfl trivial (enters_of Tryz.func101 (by kernel_rfl) rfl)
    (encs := fun x : PutP => #[.agg #[.int .i64 x.1, .string x.2]]) (Kp := KpR w.heap.size Bb) (S := fun ys => ys = P.cs.reverse) (Sp := fun pre => pre <+: P.cs.reverse) (N := m) (w0 := W0)
    (fun l J Jx W hW _ _ hY h0 => backward1_in Fence.wide 3 trivial rfl (by omega) l Bb w.heap.size B m d P.cs HM.out hm100 J Jx hY w W (Nat.le_refl _) (hbW.trans (hW.mono (by omega))) (cells_below hHb hW) HRw.out h0)
    kpR_t (kpR_b (by omega) (by omega)) (Below.refl _ _) (fun _ => rfl)
    (RI w (i : Int) #[.slice A n c, .slice B m d] (Bb + 1)) (RX w (i : Int)) (ri_own _ _ _ _ _ (by omega)) (fun cd => rx_own _ _ _ _ (by omega))
    ⟨by simp, hH0, hH1, hH2, hH3, hbW, by omega⟩
    (fun x a' W => ∃ Bx, Bb < Bx ∧ W.heap[Bx]? = some (.cells #[.int .i64 x.1, .string x.2] 65 (0, 0)) ∧ a' = { tmps := #[.agg #[.slice A n c, .slice B m d], .int .i64 (i : Nat), .pointer (some ⟨w.heap.size, 0, none⟩), .pointer (some ⟨w.heap.size + 1, 0, none⟩), .pointer (some ⟨w.heap.size + 1 + 1, 0, none⟩), .pointer (some ⟨w.heap.size + 1 + 1 + 1, 0, none⟩), .pointer (some ⟨Bx, 0, none⟩), .agg #[.slice A n c, .slice B m d], .bool true, .bool false, .agg #[.slice A n c, .slice B m d], .int .i64 (i : Nat), .bool true, .bool false, .pointer (some ⟨w.heap.size, 1, none⟩), .slice B m d, .func (.func 101) #[] #[.pointer (some ⟨Bb, 0, none⟩)], .agg #[.int .i64 x.1, .string x.2], undef, undef, undef, undef, undef, undef, undef, undef, undef, undef, undef], defers := [] })
    (fun x a' _ X Y row hs hg hr => by obtain ⟨Bx, e1, e2, e3⟩ := hs; exact ⟨Bx, e1, own_cellsB (β := Unit) Bx _ _ () X Y row e2 hg (fun r e => (hr r e).2), e3⟩)
    ?assign ?body ?done ?stop
  case assign =>
    rintro l pre x W K hI hK
    have hs := hI.gB.size
    have hs2 := hI.gs
    have al := (Below.refl W.heap.size W).alloc (Nat.le_refl _) (.cells #[.int .i64 x.1, .string x.2] 65)
    have hn := heap_alloc_new W (.cells #[.int .i64 x.1, .string x.2] 65)
    gi_wp2
    refine hK _ _ ((KeepsOthers.alloc _ _).from _) ⟨(Below.refl _ W).alloc hs _, keepB_below (by simp; omega) al⟩ ⟨hI.hp, cells_below hI.g0 al, cells_below hI.g1 al, cells_below hI.g2 al, cells_below hI.g3 al, hI.gB.alloc hs _, by simp; omega⟩ ⟨W.heap.size, by omega, hn, rfl⟩
  case body =>
    rintro l pre x a' W hl ⟨r, hr⟩ hI ⟨Bx, hBx, bX, rfl⟩ hlt
    obtain ⟨y0, y1, _, _⟩ := two_cells bX
    have z1 := cell_of_one hI.g1
    have z2 := cell_of_one hI.g2
    have z3 := cell_of_one hI.g3
    have f2 := Boxed.frozen hI.g2
    have f3 := Boxed.frozen hI.g3
    obtain ⟨xi, xs⟩ := x
    simp only at y0 y1
    have HI := Lib.hid hI
    clear hr hI
    have hBs : w.heap.size + 1 + 1 + 1 < Bb := hlt2
    by_cases hx : xi = (i : Int)
    · have d1 : (xi == (i : Int)) = true := by simpa using hx
      have Hx := Lib.hid hx
      clear hx
      gi_wp2
      have q := boxes_set (by omega) HI.out.g2 HI.out.g3 (.string xs) (.int .i64 0)
      exact ⟨((KeepsOthers.setCell _ _ _).trans (KeepsOthers.setCell _ _ _)).from _, ⟨rfl, ⟨pre, (xi, xs), rfl, HI.out.hp, Hx.out, q.1⟩, q.2, (HI.out.gB.trans (by_set (by omega) _)).trans (by_set (by omega) _)⟩⟩
    · have d1 : (xi == (i : Int)) = false := by simpa using hx
      have Hx := Lib.hid hx
      clear hx
      gi_wp2
      refine ⟨KeepsFrom.refl _ _, ⟨Below.refl _ _, fun _ _ => rfl⟩, ⟨fun q hq => ?_, HI.out.g0, HI.out.g1, HI.out.g2, HI.out.g3, HI.out.gB, HI.out.gs⟩⟩
      rcases List.mem_append.1 hq with hq | hq
      · exact HI.out.hp q hq
      · obtain rfl := List.mem_singleton.1 hq
        exact Hx.out
  case done =>
    rintro D ys W hD rfl hI hK
    have HL := Lib.hid (lastS_none hI.hp)
    obtain ⟨y0, y1, _, _⟩ := two_cells hI.g0
    have z1 := cell_of_one hI.g1
    have z2 := cell_of_one hI.g2
    have z3 := cell_of_one hI.g3
    have f2 := Boxed.frozen hI.g2
    have f3 := Boxed.frozen hI.g3
    obtain ⟨b, off, hA, c0⟩ := texts_at (HRs.out.below hI.gB) hi
    subst hA
    have HS := Lib.hid (show readS P (i : Int) = P.ss[i] by rw [readS, HL.out]; simp [hi])
    generalize P.ss[i] = s at c0 HS
    have HI := Lib.hid hI
    have HK := Lib.hid hK
    have hszW : D < W.heap.size := cell_lt_of hK
    clear hI hK
    gi_wp2
    obtain ⟨q2, q3⟩ := boxes_set (by omega) HI.out.g2 HI.out.g3 (.string s) (.int .i64 0)
    have hBf := (HI.out.gB.trans (by_set (w := W) (b := w.heap.size + 1 + 1) (i := 0) (B0 := w.heap.size) (by omega) (.string s))).trans (by_set (w := W.setCell ⟨w.heap.size + 1 + 1, 0, none⟩ (.string s)) (b := w.heap.size + 1 + 1 + 1) (i := 0) (B0 := w.heap.size) (by omega) (.int .i64 0))
    have hK' := (((KeepsOthers.setCell W ⟨w.heap.size + 1 + 1, 0, none⟩ (.string s)).trans (KeepsOthers.setCell _ ⟨w.heap.size + 1 + 1 + 1, 0, none⟩ (.int .i64 0)))).same D _ HK.out rfl
    refine ⟨by simp, .inl ⟨_, _, rfl, run_takeDeferred hK', ?_⟩⟩
    have k2 := own_cB q2 (grownBy_putObj' _ D (.deferred none)) (fun r e => by cases e; exact ⟨_, hK', rfl⟩)
    have k3 := own_cB q3 (grownBy_putObj' _ D (.deferred none)) (fun r e => by cases e; exact ⟨_, hK', rfl⟩)
    refine ⟨_, res_cells2 rfl _ _ (w.heap.size + 1 + 1) (w.heap.size + 1 + 1 + 1) (by rfl) (by rfl) _ _ (load_str (cell_of_one k2)) (load_errno (cell_of_one k3)), ?_, hBf.trans (belowK_b (w := w) (Nat.le_refl _) _ D _ _ (by omega) hK' rfl rfl)⟩
    rw [HS.out]
  case stop =>
    rintro D cd pre W hD hpre hX hK
    obtain ⟨rfl, ⟨pre', q, rfl, hp, hq, g2⟩, g3, gB⟩ := hX
    have HS := Lib.hid (show readS P (i : Int) = q.2 by rw [readS, lastS_some hpre hp hq]; rfl)
    have HK := Lib.hid hK
    have G2 := Lib.hid g2
    have G3 := Lib.hid g3
    have GB := Lib.hid gB
    clear hK g2 g3 gB hp hq hpre
    gi_wp2
    refine ⟨by simp, .inl ⟨_, _, rfl, run_takeDeferred HK.out, ?_⟩⟩
    have k2 := own_cB G2.out (grownBy_putObj' _ D (.deferred none)) (fun r e => by cases e; exact ⟨_, HK.out, rfl⟩)
    have k3 := own_cB G3.out (grownBy_putObj' _ D (.deferred none)) (fun r e => by cases e; exact ⟨_, HK.out, rfl⟩)
    refine ⟨_, res_cells2 rfl _ _ (w.heap.size + 1 + 1) (w.heap.size + 1 + 1 + 1) (by rfl) (by rfl) _ _ (load_str (cell_of_one k2)) (load_errno (cell_of_one k3)), ?_, GB.out.trans (belowK_b (w := w) (Nat.le_refl _) _ D _ _ (by omega) HK.out rfl rfl)⟩
    rw [HS.out]
theorem pread_any (v : Value) (P : Plat) (i : Int) (w : World) (h : PlV w v P) : Calls Tryz.prog 45 #[v, .int .i64 i] w (ReadPost w (readP P i)) := by
  obtain ⟨A, n, c, B, m, d, rfl, h⟩ := h
  by_cases hc : checkB P = true
  · by_cases hh : hasB P.ss.length i = true
    · have hi : 0 ≤ i ∧ i < (P.ss.length : Int) := by simpa [hasB] using hh
      obtain ⟨k, rfl⟩ := Int.eq_ofNat_of_zero_le hi.1
      rw [readP, if_neg (by rw [hc]; simp), if_neg (by rw [hh]; simp)]
      exact read_good A B n c m d P k w h hc (by omega)
    · exact read_bad A B n c m d P i w h (.inr (by simpa using hh))
  · exact read_bad A B n c m d P i w h (.inl (by simpa using hc))

end Go.Proofs.YtieekajjoikepaaGreatDoor
