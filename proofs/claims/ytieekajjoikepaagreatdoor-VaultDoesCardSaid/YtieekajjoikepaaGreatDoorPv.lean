/-
  A row copied onto nothing: append(nil, row...).
  A disk as a value: two slices, and what they read as. Contracts of platter.has, Check.
  Contract of platter.Check.
  Contract of twin.body: how far behind a mark the body is.
  A disk of the call's own, in memory. Contracts of platter.copied, plain, wait, lay, begin, fall, New.
-/
import Derived.Test.YtieekajjoikepaaGreatDoorTxt
import Derived.Test.YtieekajjoikepaaGreatDoorCopyA
import Derived.Deep.Upon
import Derived.Deep.RegionHeldLaw
import Derived.Test.YtieekajjoikepaaGreatDoorHp
import Derived.Test.YtieekajjoikepaaGreatDoorGen
import Derived.Maps.OwnSet
namespace Go.Proofs.YtieekajjoikepaaGreatDoor
/- CopyL -/
open Go.RowKit
set_option linter.unusedVariables false

theorem bs_cat (l m : List UInt8) : bs l ++ bs m = bs (l ++ m) := by
  apply ByteArray.ext
  apply Array.ext'
  simp [bs]

/- PlatV -/
open Go.RowKit
set_option linter.unusedVariables false
set_option maxRecDepth 100000
set_option maxHeartbeats 1000000

abbrev PutP := Int × ByteArray
def putV (p : PutP) : List Value := [.int .i64 p.1, .string p.2]
def putsV (l : List PutP) : List Value := l.flatMap putV
theorem putsV_len (l : List PutP) : (putsV l).length = l.length * 2 := by
  induction l with
  | nil => rfl
  | cons a l ih => rw [putsV, List.flatMap_cons, List.length_append, ← putsV, ih, List.length_cons]; simp [putV]; omega
theorem putsV_app (l m : List PutP) : putsV (l ++ m) = putsV l ++ putsV m := by simp [putsV]
theorem putsV_at (l : List PutP) (i : Nat) (p : PutP) (h : l[i]? = some p) : (putsV l)[i * 2]? = some (.int .i64 p.1) ∧ (putsV l)[i * 2 + 1]? = some (.string p.2) := by
  induction l generalizing i with
  | nil => simp at h
  | cons a l ih =>
    cases i with
    | zero =>
      simp at h
      subst h
      exact ⟨rfl, rfl⟩
    | succ i =>
      have := ih i (by simpa using h)
      rw [putsV, List.flatMap_cons, ← putsV]
      have e : (putV a).length = 2 := rfl
      rw [List.getElem?_append_right (by omega), List.getElem?_append_right (by omega), e, show (i + 1) * 2 - 2 = i * 2 by omega, show (i + 1) * 2 + 1 - 2 = i * 2 + 1 by omega]
      exact this
theorem putsV_one (l : List PutP) : ∀ u ∈ putsV l, u.oneCell' = true := by
  intro u hu
  obtain ⟨p, _, hp⟩ := List.mem_flatMap.1 hu
  simp [putV] at hp
  rcases hp with rfl | rfl <;> rfl
theorem textsV_one (l : List ByteArray) : ∀ u ∈ textsV l, u.oneCell' = true := by
  intro u hu
  obtain ⟨p, _, rfl⟩ := List.mem_map.1 hu
  rfl
theorem textsV_len (l : List ByteArray) : (textsV l).length = l.length := by simp [textsV]
theorem puts_at {w : World} {A : Option Addr} {l : List PutP} {i : Nat} (h : Rd w A (putsV l)) (hi : i < l.length) :
    ∃ b off, A = some ⟨b, off, none⟩ ∧ w.cell? ⟨b, off + i * 2, none⟩ = some (.int .i64 l[i].1) ∧ w.cell? ⟨b, off + i * 2 + 1, none⟩ = some (.string l[i].2) := by
  obtain ⟨h1, h2⟩ := putsV_at l i l[i] (by simp [hi])
  obtain ⟨b, off, hA, c1⟩ := h _ _ h1
  obtain ⟨b2, off2, hA2, c2⟩ := h _ _ h2
  rw [hA] at hA2
  injection hA2 with hA2
  injection hA2 with e1 e2
  subst e1 e2
  exact ⟨b, off, hA, c1, c2⟩
theorem put_info : (Tryz.prog.info? 65).map (fun i => (i.zero, i.size, i.bytes)) = some (some (.agg #[.int .i64 0, .string ⟨#[]⟩]), 2, 24) := by kernel_rfl

/-- Without a holder: nothing is said of a slice's block. -/
def Ty (w : World) (A : Option Addr) (t : TypeId) : Prop := True
theorem Ty.of_none (w : World) (t : TypeId) : Ty w none t := trivial
theorem Ty.below {w w' : World} {A : Option Addr} {t : TypeId} (h : Ty w A t) (hb : Below w.heap.size w w') : Ty w' A t := trivial
theorem Ty.set {w : World} {A : Option Addr} {t : TypeId} (h : Ty w A t) (g i : Nat) (u : Value) : Ty (w.setCell ⟨g, i, none⟩ u) A t := trivial
theorem Ty.grown {w w' : World} {A : Option Addr} {t T : TypeId} {g : Nat} {cs : Array Value} {fr : Nat × Nat} (h : Ty w A t) (hg : w.grownBy w' (some g)) (hT : w.heap[g]? = some (.cells cs T fr)) (hne : T ≠ t) : Ty w' A t := trivial
/-- Two slices that read as a disk. -/
structure PB (w : World) (A : Option Addr) (n : Nat) (B : Option Addr) (m : Nat) (P : Plat) : Prop where
  hn : n = P.ss.length
  hm : m = P.cs.length
  rs : Rd w A (textsV P.ss)
  rc : Rd w B (putsV P.cs)
  ta : Ty w A 9
  tb : Ty w B 65
theorem PB.below {w w' : World} {A B : Option Addr} {n m : Nat} {P : Plat} (h : PB w A n B m P) (hb : Below w.heap.size w w') : PB w' A n B m P := ⟨h.hn, h.hm, h.rs.below hb, h.rc.below hb, h.ta.below hb, h.tb.below hb⟩
/-- A disk's value. -/
def PlV (w : World) (v : Value) (P : Plat) : Prop := ∃ A n c B m d, v = .agg #[.slice A n c, .slice B m d] ∧ PB w A n B m P
theorem PlV.below {w w' : World} {v : Value} {P : Plat} (h : PlV w v P) (hb : Below w.heap.size w w') : PlV w' v P := by
  obtain ⟨A, n, c, B, m, d, rfl, h⟩ := h
  exact ⟨A, n, c, B, m, d, rfl, h.below hb⟩
def noV : Value := .agg #[.slice none 0 0, .slice none 0 0]
theorem PlV.no (w : World) : PlV w noV noPlat := ⟨none, 0, 0, none, 0, 0, rfl, rfl, rfl, Rd.nil _ _, Rd.nil _ _, Ty.of_none _ _, Ty.of_none _ _⟩

/-- A disk's value out of its block. -/
theorem load_plat {w : World} {g : Nat} {a b : Value} (h0 : w.cell? ⟨g, 0, none⟩ = some a) (h1 : w.cell? ⟨g, 1, none⟩ = some b) : (loadVar 25 ⟨g, 0, none⟩).run Tryz.prog w = .ok (.agg #[a, b]) w :=
  run_loadVar_mid (P := Tryz.prog) w g 0 25 [a, b] _ (fun j v hj => by
    cases j with
    | zero => simp at hj; subst hj; exact h0
    | succ j => cases j with
      | zero => simp at hj; subst hj; exact h1
      | succ j => simp at hj) Tryz.underlying25 rfl (by kernel_rfl)
theorem load_plat_new {w : World} {g : Nat} {a b : Value} {t : TypeId} (h : w.heap[g]? = some (.cells #[a, b] t (0, 0))) : (loadVar 25 ⟨g, 0, none⟩).run Tryz.prog w = .ok (.agg #[a, b]) w := load_plat (two_cells h).1 (two_cells h).2.1
theorem res_cell_tmp2 {P : Program} {fn : Func} {a t u : Tmp} {ty : TypeId} (h : fn.results = #[.cell a ty, .tmp t, .tmp u]) (tmps : Array Value) (w : World) (g : Nat) (ha : tmps.getD a undef = .pointer (some ⟨g, 0, none⟩)) (v : Value)
    (hl : (loadVar ty ⟨g, 0, none⟩).run P w = .ok v w) : (results fn tmps).run P w = .ok (.tuple #[v, tmps.getD t undef, tmps.getD u undef]) w := by
  have ha' : tmps[a]?.getD undef = .pointer (some ⟨g, 0, none⟩) := by simpa using ha
  simp [results, h, asAddr, ha', hl]
theorem phas_any (A B : Option Addr) (n c m d : Nat) (i : Int) (w : World) : Calls Tryz.prog 77 #[.agg #[.slice A n c, .slice B m d], .int .i64 i] w fun e w' => e = .returned (.bool (hasB n i)) ∧ Below w.heap.size w w' := by
  by_cases h0 : 0 ≤ i
  · have d0 : decide (0 ≤ i) = true := by simpa using h0
    go_enter Tryz.func77, Tryz.ntmps77
    go_wp2_with fail
    go_ret
    exact ⟨by simp [hasB, h0], (Below.refl _ _).alloc (Nat.le_refl _) _⟩
  · have d0 : decide (0 ≤ i) = false := by simpa using h0
    go_enter Tryz.func77, Tryz.ntmps77
    go_wp2_with fail
    go_ret
    exact ⟨ret_bool (by simp [hasB]; intro; omega), (Below.refl _ _).alloc (Nat.le_refl _) _⟩

theorem check1_any (s : ByteArray) (w : World) : Calls Tryz.prog 99 #[.string s] w fun e w' => e = .returned (.bool (decide (128 < s.size))) ∧ w' = w := by
  go_enter Tryz.func99, Tryz.ntmps99
  go_wp2_with fail
  go_ret
  exact ⟨ret_bool (by simp; omega), rfl⟩
def longB (s : ByteArray) : Bool := decide (128 < s.size)
theorem indexFunc_any (l : List ByteArray) (A : Option Addr) (n c : Nat) (w : World) (hr : Rd w A (textsV l)) (hn : n = l.length) (hl : n ≤ 1000000) :
    Calls Tryz.prog 114 #[.slice A n c, .func (.func 99) #[] #[]] w fun e w' => (∃ x : Int, e = .returned (.int .i64 x) ∧ decide (0 ≤ x) = l.any longB) ∧ w' = w := by
  have HR := Lib.hid hr
  have HN := Lib.hid hn
  clear hr hn
  go_enter Tryz.func114, Tryz.ntmps114
  go_wp2_with fail
  go_loopw [8] (fun x wr => ∃ k : Nat, k ≤ n ∧ x = .int .i64 (k : Nat) ∧ (l.take k).any longB = false ∧ wr = w) (fun x _ => n - (intOf x).toNat)
  case atStart => exact ⟨0, by omega, rfl, by simp, rfl⟩
  case round =>
    obtain ⟨k, hk, rfl, hf, rfl⟩ := hrel
    have HF := Lib.hid hf
    clear hf
    by_cases hlt : k < n
    · have hil : k < l.length := by rw [← HN.out]; exact hlt
      obtain ⟨b, off, rfl, hc⟩ := texts_at HR.out hil
      have d0 : decide ((k : Int) < (n : Int)) = true := by simp; omega
      have hk1 : (k : Int) < (n : Int) := by omega
      have Hx := Lib.hid (show l.take (k + 1) = l.take k ++ [l[k]] from List.take_succ_eq_append_getElem hil)
      have Hm := Lib.hid (List.getElem_mem hil)
      generalize l[k] = s at hc Hx Hm
      by_cases hs : 128 < s.size
      · have d1 : decide (128 < s.size) = true := by simpa using hs
        go_wp2_with fail
        refine (check1_any s _).mono ?_
        rintro e w1 ⟨rfl, rfl⟩
        go_wp2_with fail
        go_ret
        refine ⟨⟨_, rfl, ?_⟩, rfl⟩
        rw [decide_eq_true (by omega)]
        exact (List.any_eq_true.2 ⟨s, Hm.out, d1⟩).symm
      · have d1 : decide (128 < s.size) = false := by simpa using hs
        go_wp2_with fail
        refine (check1_any s _).mono ?_
        rintro e w1 ⟨rfl, rfl⟩
        go_wp2_with fail
        go_roundw
        case rel => exact ⟨k + 1, by omega, by go_num, by rw [Hx.out, List.any_append, HF.out]; simp [longB]; omega⟩
        case measure => simp [intOf]; omega
    · obtain rfl : k = n := by omega
      have d0 : decide ((k : Int) < (k : Int)) = false := by simp
      go_wp2_with fail
      go_ret
      refine ⟨⟨-1, rfl, ?_⟩, rfl⟩
      have := HF.out
      rw [List.take_of_length_le (by rw [HN.out]; exact Nat.le_refl _)] at this
      rw [this]
      rfl
theorem containsFunc_any (l : List ByteArray) (A : Option Addr) (n c : Nat) (w : World) (hr : Rd w A (textsV l)) (hn : n = l.length) (hl : n ≤ 1000000) :
    Calls Tryz.prog 100 #[.slice A n c, .func (.func 99) #[] #[]] w fun e w' => e = .returned (.bool (l.any longB)) ∧ w' = w := by
  have HR := Lib.hid hr
  have HN := Lib.hid hn
  clear hr hn
  go_enter Tryz.func100, Tryz.ntmps100
  go_wp2_with fail
  refine (indexFunc_any l A n c _ HR.out HN.out hl).mono ?_
  rintro e w1 ⟨⟨x, rfl, hx⟩, rfl⟩
  have Hx := Lib.hid hx
  clear hx
  go_wp2_with fail
  go_ret
  exact ⟨ret_bool Hx.out, rfl⟩

/- Check -/
open Go.RowKit
set_option linter.unusedVariables false
set_option maxRecDepth 100000
set_option maxHeartbeats 1000000

theorem all_long (l : List ByteArray) : l.all (fun s => decide (s.size ≤ 128)) = !(l.any longB) := by
  induction l with
  | nil => rfl
  | cons a l ih =>
    rw [List.all_cons, List.any_cons, ih]
    by_cases h : 128 < a.size
    · simp [longB, h]; omega
    · simp [longB, h]; intro _; omega
theorem check_any (A B : Option Addr) (n c m d : Nat) (P : Plat) (w : World) (h : PB w A n B m P) :
    Calls Tryz.prog 76 #[.agg #[.slice A n c, .slice B m d]] w fun e w' => e = .returned (.bool (checkB P)) ∧ Below w.heap.size w w' := by
  have H := Lib.hid h
  have Hch := Lib.hid (show checkB P = (decide (1 ≤ n) && decide (n ≤ 200) && decide (m ≤ 100) && !(P.ss.any longB) && P.cs.all (putB n)) by rw [checkB, all_long, h.hn, h.hm])
  clear h
  have hbA := (Below.refl w.heap.size w).alloc (Nat.le_refl _) (.cells #[.slice A n c, .slice B m d] 25)
  by_cases h1 : 1 ≤ n ∧ n ≤ 200 ∧ m ≤ 100
  · obtain ⟨h1, h2, h3⟩ := h1
    have d1 : decide ((n : Int) < 1) = false := by simp; omega
    have d2 : decide (200 < (n : Int)) = false := by simp; omega
    have d3 : decide (100 < (m : Int)) = false := by simp; omega
    have HPA := Lib.hid (H.out.below hbA)
    cases hany : P.ss.any longB with
    | true =>
      have Hf := Lib.hid (show checkB P = false by rw [Hch.out, hany]; simp)
      have Ha := Lib.hid hany
      clear hany
      go_enter Tryz.func76, Tryz.ntmps76
      go_wp2_with fail
      refine (containsFunc_any P.ss A n c _ HPA.out.rs HPA.out.hn (by omega)).mono ?_
      rintro e w1 ⟨rfl, rfl⟩
      rw [Ha.out]
      go_wp2_with fail
      go_ret
      exact ⟨by rw [Hf.out]; rfl, hbA⟩
    | false =>
      have Hf := Lib.hid (show checkB P = P.cs.all (putB n) by rw [Hch.out, hany, decide_eq_true h1, decide_eq_true h2, decide_eq_true h3]; simp)
      have Ha := Lib.hid hany
      clear hany
      go_enter Tryz.func76, Tryz.ntmps76
      go_wp2_with fail
      refine (containsFunc_any P.ss A n c _ HPA.out.rs HPA.out.hn (by omega)).mono ?_
      rintro e w1 ⟨rfl, rfl⟩
      rw [Ha.out]
      go_wp2_with fail
      go_loopw [29] (fun x wr => ∃ k : Nat, k ≤ m ∧ x = .int .i64 (k : Nat) ∧ (P.cs.take k).all (putB n) = true ∧ Below (w.alloc (.cells #[.slice A n c, .slice B m d] 25)).heap.size (w.alloc (.cells #[.slice A n c, .slice B m d] 25)) wr) (fun x _ => m - (intOf x).toNat)
      case atStart => exact ⟨0, by omega, rfl, by simp, Below.refl _ _⟩
      case round =>
        obtain ⟨k, hk, rfl, hf, hW⟩ := hrel
        have HF := Lib.hid hf
        have HW := Lib.hid hW
        have hX := keep_one hW
        obtain ⟨x0, x1, _, _⟩ := two_cells hX
        have HX := Lib.hid hX
        have HPr := Lib.hid (HPA.out.below hW)
        clear hf hW hX
        by_cases hlt : k < m
        · have hil : k < P.cs.length := by rw [← HPr.out.hm]; exact hlt
          obtain ⟨b, off, hB, c0, c1⟩ := puts_at HPr.out.rc hil
          subst hB
          have d0 : decide ((k : Int) < (m : Int)) = true := by simp; omega
          have hk1 : (k : Int) < (m : Int) := by omega
          have Hx := Lib.hid (show P.cs.take (k + 1) = P.cs.take k ++ [P.cs[k]] from List.take_succ_eq_append_getElem hil)
          have Hm := Lib.hid (List.getElem_mem hil)
          generalize P.cs[k] = q at c0 c1 Hx Hm
          obtain ⟨i, s⟩ := q
          simp only at c0 c1
          by_cases hs : 128 < s.size
          · have d4 : decide (128 < s.size) = true := by simpa using hs
            have Hall := Lib.hid (show P.cs.all (putB n) = false by rw [List.all_eq_false]; exact ⟨_, Hm.out, by simp [putB]; omega⟩)
            go_wp2_with fail
            refine (check1_any s _).mono ?_
            rintro e w1 ⟨rfl, rfl⟩
            rw [d4]
            go_wp2_with fail
            go_ret
            exact ⟨by rw [Hf.out, Hall.out]; rfl, Below.chain hbA (HW.out.alloc HW.out.size _)⟩
          · have d4 : decide (128 < s.size) = false := by simpa using hs
            go_wp2_with fail
            refine (check1_any s _).mono ?_
            rintro e w1 ⟨rfl, rfl⟩
            rw [d4]
            have hbB := HW.out.alloc HW.out.size (.cells #[.int .i64 i, .string s] 65)
            have y0 := (Below.cell (Below.alloc (Below.refl wr.heap.size wr) (Nat.le_refl _) (.cells #[.int .i64 i, .string s] 65)) (cell_lt x0)).trans x0
            have y1 := (Below.cell (Below.alloc (Below.refl wr.heap.size wr) (Nat.le_refl _) (.cells #[.int .i64 i, .string s] 65)) (cell_lt x1)).trans x1
            go_wp2_with fail
            refine (phas_any _ _ n c m d i _).mono ?_
            rintro e w1 ⟨rfl, hb1⟩
            have HW1 := Lib.hid (Below.chain hbB hb1)
            clear hb1
            cases hh : hasB n i with
            | true =>
              have Hp := Lib.hid (show putB n (i, s) = true by simp [putB, hh]; omega)
              clear hh
              go_wp2_with fail
              go_roundw
              case rel => exact ⟨k + 1, by omega, by go_num, by rw [Hx.out, List.all_append, HF.out]; simp [Hp.out], HW1.out⟩
              case measure => simp [intOf]; omega
            | false =>
              have Hall := Lib.hid (show P.cs.all (putB n) = false by rw [List.all_eq_false]; exact ⟨_, Hm.out, by simp [putB, hh]⟩)
              clear hh
              go_wp2_with fail
              go_ret
              exact ⟨by rw [Hf.out, Hall.out]; rfl, Below.chain hbA HW1.out⟩
        · obtain rfl : k = m := by omega
          have d0 : decide ((k : Int) < (k : Int)) = false := by simp
          have Hall := Lib.hid (show P.cs.all (putB n) = true by
            have := HF.out
            rw [List.take_of_length_le (by rw [HPr.out.hm]; exact Nat.le_refl _)] at this
            exact this)
          go_wp2_with fail
          go_ret
          exact ⟨by rw [Hf.out, Hall.out]; rfl, Below.chain hbA HW.out⟩
  · have Hf := Lib.hid (show checkB P = false by
      rw [Hch.out]
      by_cases a1 : 1 ≤ n
      · by_cases a2 : n ≤ 200
        · have a3 : ¬ m ≤ 100 := fun e => h1 ⟨a1, a2, e⟩
          simp [a3]
        · simp [a2]
      · simp [a1])
    by_cases a1 : 1 ≤ n
    · have d1 : decide ((n : Int) < 1) = false := by simp; omega
      by_cases a2 : n ≤ 200
      · have d2 : decide (200 < (n : Int)) = false := by simp; omega
        have d3 : decide (100 < (m : Int)) = true := by simp; omega
        go_enter Tryz.func76, Tryz.ntmps76
        go_wp2_with fail
        go_ret
        exact ⟨by rw [Hf.out]; rfl, hbA⟩
      · have d2 : decide (200 < (n : Int)) = true := by simp; omega
        go_enter Tryz.func76, Tryz.ntmps76
        go_wp2_with fail
        go_ret
        exact ⟨by rw [Hf.out]; rfl, hbA⟩
    · have d1 : decide ((n : Int) < 1) = true := by simp; omega
      go_enter Tryz.func76, Tryz.ntmps76
      go_wp2_with fail
      go_ret
      exact ⟨by rw [Hf.out]; rfl, hbA⟩

/- BodyM -/
open Go.RowKit Go.Maps Go.WideMaps
set_option linter.unusedVariables false
set_option maxRecDepth 100000
set_option maxHeartbeats 1000000

/-- A map that is written out: an entry laid. -/
theorem wpList_insert_own {H : Type} {P : Program} (w : World) {ops : Array Oper} {rest : List Oper} {o : Oper} {a : Act} {Q : Exit → Act → World → Prop}
    (hg : o.guard = none) (m x v : Operand) (t : TypeId) (hop : o.op = Op.insert t m x v)
    (k e : TypeId) (K : Keyed P k) (ht : P.underlying t = some (.map k e)) (R : Value → Option (DataW H × List MemPlace)) (b n : Nat) (D : DataW H)
    (hm : a.eval m = .map (some b)) (hown : w.ownsMap P k R b n D) (hn : n < maxLen) (key val : Value) (kl : Lit) (hx : a.eval x = key) (hv : a.eval v = val) (hkey : keyOf P k key = some kl)
    (d : DataW H) (ps : List MemPlace) (hval : R val = some (d, ps))
    (hK : ∀ w', w'.ownsMap P k R b (n + 1) (D.put kl d) → w.grownBy w' (some b) → wpList P ops Q rest (a.put o.dst undef) w') :
    wpList P ops Q (o :: rest) a w := by
  refine wpList_plain hg fun K' hK' => ?_
  obtain ⟨w', hrun, r1, r2⟩ := hown.update K ht hn hkey hval
  unfold Oper.wp
  simp [execOp, hop, hm, hx, hv, hrun, Result.andThen]
  exact hK' _ _ (hK w' r1 r2)
theorem mark_key {m m' : ByteArray} (h : m ≠ m') : (Lit.string m.data.toList) ≠ Lit.string m'.data.toList := fun e => h (by
  injection e with e
  have := congrArg bs e
  rwa [bs_of, bs_of] at this)
def marksM : DataW Unit := ((DataW.map []).put (.string mark0.data.toList) (.lit (.int .i64 1))).put (.string mark1.data.toList) (.lit (.int .i64 2))
theorem marks_at (mark : ByteArray) : marksM.atKey (.string mark.data.toList) (.lit (.int .i64 0)) = .lit (.int .i64 ((bodyO mark).getD 0)) ∧ Maps.has marksM (.string mark.data.toList) = (bodyO mark).isSome := by
  have ne : mark1 ≠ mark0 := fun e => absurd (congrArg (fun x : ByteArray => x.data.toList) e) (by decide)
  by_cases h0 : mark = mark0
  · subst h0
    have k := mark_key (Ne.symm ne)
    rw [marksM, atKey_put_other k, atKey_put_same isMap_empty (show WideAt.IsKeyLit (.string mark0.data.toList) from trivial), has_put_other k, has_put_same isMap_empty (show WideAt.IsKeyLit (.string mark0.data.toList) from trivial)]
    simp [bodyO]
  · by_cases h1 : mark = mark1
    · subst h1
      rw [marksM, atKey_put_same (isMap_empty.put _ _) (show WideAt.IsKeyLit (.string mark1.data.toList) from trivial), has_put_same (isMap_empty.put _ _) (show WideAt.IsKeyLit (.string mark1.data.toList) from trivial)]
      simp [bodyO, ne]
    · rw [marksM, atKey_put_other (mark_key h1), atKey_put_other (mark_key h0), has_put_other (mark_key h1), has_put_other (mark_key h0)]
      simp [bodyO, h0, h1]
      exact ⟨rfl, rfl⟩
theorem zero_i64 (w : World) : (zeroValue 3).run Tryz.prog w = .ok (.int .i64 0) w := Tryz.zeroValue3 w
theorem body_any (mark : ByteArray) (w : World) (hm : mark.size ≤ 1000) : Calls Tryz.prog 46 #[.string mark] w fun e w' => e = .returned (.tuple #[.int .i64 ((bodyO mark).getD 0), .bool (bodyO mark).isSome]) ∧ Below w.heap.size w w' := by
  have hmm := @run_makeMap Tryz.prog
  have hM0 : (w.alloc (.map #[] 0)).ownsMap Tryz.prog 9 (plainElem (H := Unit) Tryz.prog 3) w.heap.size 0 (.map []) := World.ownsMap_made _ _ _ _
  have HM := Lib.hid (marks_at mark)
  go_enter Tryz.func46, Tryz.ntmps46
  go_wp2_with (first
    | (refine wpList_insert_own _ rfl _ _ _ 110 rfl 9 3 (string_keyed Tryz.underlying9) Tryz.underlying110 (plainElem (H := Unit) Tryz.prog 3) w.heap.size 0 _ rfl hM0 (by unfold maxLen; omega) _ _ _ rfl rfl (keyOf_string_mk Tryz.underlying9 (show mark0.size ≤ maxLen by decide)) _ [] (plainElem_int Tryz.underlying3 (a := 1) (by decide)) ?_; intro w1 hM1 hG1; have hb1 : Below w.heap.size w w1 := ((Below.refl _ w).alloc (Nat.le_refl _) _).trans (grownBy_below' hG1 (Nat.le_refl _) (by simp)); clear hM0 hG1)
    | (refine wpList_insert_own _ rfl _ _ _ 110 rfl 9 3 (string_keyed Tryz.underlying9) Tryz.underlying110 (plainElem (H := Unit) Tryz.prog 3) w.heap.size 1 _ rfl hM1 (by unfold maxLen; omega) _ _ _ rfl rfl (keyOf_string_mk Tryz.underlying9 (show mark1.size ≤ maxLen by decide)) _ [] (plainElem_int Tryz.underlying3 (a := 2) (by decide)) ?_; intro w2 hM2 hG2; have hb2 : Below w.heap.size w w2 := hb1.trans (grownBy_below' hG2 (Nat.le_refl _) hb1.size); clear hM1 hG2)
    | (at_lookup; refine wpList_lookup_own_ok_int _ rfl _ _ 110 rfl 9 3 .i64 (string_keyed Tryz.underlying9) Tryz.underlying110 Tryz.underlying3 (zero_i64 _) w.heap.size _ _ rfl hM2 _ _ rfl (keyOf_string_mk Tryz.underlying9 (show mark.size ≤ maxLen by unfold maxLen; omega)) ?_; intro c hat hwc))
  go_ret2
  have h1 := HM.out.1.symm.trans hat
  have h2 := HM.out.2
  injection h1 with h1
  injection h1 with _ h1
  refine ⟨?_, hb2⟩
  rw [← h2, h1]
  rfl

/- Disk -/
open Go.RowKit
set_option linter.unusedVariables false
set_option maxRecDepth 100000
set_option maxHeartbeats 1000000

theorem own_ty {w : World} {B0 : Nat} {e : TypeId} {size : Nat} {A : Option Addr} {m c n : Nat} {xs : List Value} (h : w.ownsRow B0 e size (.slice A m c) n xs) : Ty w A e := trivial
/-- Two slices of the call's own that hold a disk. -/
structure OB (w : World) (B0 : Nat) (A : Option Addr) (n c : Nat) (B : Option Addr) (m d : Nat) (P : Plat) : Prop where
  hn : n = P.ss.length
  hm : m = P.cs.length
  os : w.ownsRow B0 9 1 (.slice A n c) n (textsV P.ss)
  oc : w.ownsRow B0 65 2 (.slice B m d) m (putsV P.cs)
theorem OB.pb {w : World} {B0 : Nat} {A B : Option Addr} {n c m d : Nat} {P : Plat} (h : OB w B0 A n c B m d P) : PB w A n B m P := ⟨h.hn, h.hm, own_rd h.os, own_rd h.oc, own_ty h.os, own_ty h.oc⟩
theorem OB.below {w w' : World} {B0 : Nat} {A B : Option Addr} {n c m d : Nat} {P : Plat} (h : OB w B0 A n c B m d P) (hb : Below w.heap.size w w') : OB w' B0 A n c B m d P := ⟨h.hn, h.hm, own_keep h.os hb, own_keep h.oc hb⟩
/-- A disk behind a pointer. -/
def Disk (w : World) (B0 g : Nat) (P : Plat) : Prop := ∃ A n c B m d, w.heap[g]? = some (.cells #[.slice A n c, .slice B m d] 130 (0, 0)) ∧ B0 ≤ g ∧ OB w B0 A n c B m d P
theorem Disk.below {w w' : World} {B0 g : Nat} {P : Plat} (h : Disk w B0 g P) (hb : Below w.heap.size w w') : Disk w' B0 g P := by
  obtain ⟨A, n, c, B, m, d, h1, h2, h3⟩ := h
  exact ⟨A, n, c, B, m, d, cells_below h1 hb, h2, h3.below hb⟩

theorem copied_any (A B : Option Addr) (n c m d : Nat) (P : Plat) (w : World) (h : PB w A n B m P) (hn : n ≤ 1000000) (hm : m ≤ 1000000) :
    Calls Tryz.prog 94 #[.agg #[.slice A n c, .slice B m d]] w fun e w' => ∃ g, e = .returned (.pointer (some ⟨g, 0, none⟩)) ∧ Disk w' w.heap.size g P ∧ Below w.heap.size w w' := by
  have H := Lib.hid h
  clear h
  have hbA := (Below.refl w.heap.size w).alloc (Nat.le_refl _) (.cells #[.slice A n c, .slice B m d] 25)
  have HP := Lib.hid (H.out.below hbA)
  have x0 : (w.alloc (.cells #[.slice A n c, .slice B m d] 25)).cell? ⟨w.heap.size, 0, none⟩ = some (.slice A n c) := (two_cells (heap_alloc_new w _)).1
  have x1 : (w.alloc (.cells #[.slice A n c, .slice B m d] 25)).cell? ⟨w.heap.size, 1, none⟩ = some (.slice B m d) := (two_cells (heap_alloc_new w _)).2.1
  have HbA := Lib.hid hbA
  clear hbA
  go_enter Tryz.func94, Tryz.ntmps94
  go_wp2_with fail
  go_region_held3 (fun w' => w'.cell? ⟨w.heap.size, 0, none⟩ = some (.slice A n c) ∧ w'.cell? ⟨w.heap.size, 1, none⟩ = some (.slice B m d))
    (first | assumption | exact ⟨x0, x1⟩ | exact keep2_alloc (by assumption) | exact keep2_below ⟨x0, x1⟩ (by assumption) | exact keep2_below (by assumption) (by assumption))
    (first
      | (refine step_append_copy (by rfl) _ _ 22 (by rfl) w.heap.size 9 (.string ⟨#[]⟩) 1 16 Tryz.underlying22 string_info rfl (by omega) (by rfl) A n c (by rfl) (textsV P.ss) (by exact HP.out.rs) (by rw [textsV_len, ← H.out.hn, Nat.mul_one]) (textsV_one _) (by omega) (by omega) (by exact HbA.out.size) ?_; intro A1 cap1 w1 ho1 hb1'; have hb1 := Below.chain ((Below.refl _ (w.alloc (.cells #[.slice A n c, .slice B m d] 25))).drew) hb1'; clear hb1')
      | (refine step_append_copy (by rfl) _ _ 23 (by rfl) w.heap.size 65 (.agg #[.int .i64 0, .string ⟨#[]⟩]) 2 24 Tryz.underlying23 put_info rfl (by omega) (by rfl) B m d (by rfl) (putsV P.cs) (by exact HP.out.rc.below hb1) (by rw [putsV_len, ← H.out.hm]) (putsV_one _) (by omega) (by omega) (by exact Nat.le_trans HbA.out.size hb1.size) ?_; intro B1 cap2 w2 ho2 hb2))
  go_wp2_with fail
  go_ret
  have hb3 := (Below.refl _ w2).alloc (Nat.le_refl _) (.cells #[.slice A1 n cap1, .slice B1 m cap2] 130)
  exact ⟨w2.heap.size, rfl, ⟨A1, n, cap1, B1, m, cap2, heap_alloc_new w2 _, Nat.le_trans HbA.out.size (Nat.le_trans hb1.size hb2.size), H.out.hn, H.out.hm, own_keep (own_keep ho1 hb2) hb3, own_keep ho2 hb3⟩, Below.chain (Below.chain (Below.chain HbA.out hb1) hb2) hb3⟩
/-- A disk, opened: its block, its rows' blocks. -/
theorem own_cells {w : World} {B0 : Nat} {e : TypeId} {size : Nat} {v : Value} {n : Nat} {xs : List Value} (h : w.ownsRow B0 e size v n xs) : ∀ k, v.ownBlock = some k → ∃ cur, w.heap[k]? = some (.cells cur e (0, 0)) := by
  intro k hk
  rcases h.2 with ⟨hv, _⟩ | ⟨g, cap, cur, hv, _, hg, _⟩
  · rw [hv] at hk; cases hk
  · rw [hv] at hk
    injection hk with hk
    subst hk
    exact ⟨cur, hg⟩
theorem own_ne {w : World} {B0 : Nat} {e e' : TypeId} {size size' : Nat} {v v' : Value} {n n' : Nat} {xs xs' : List Value} (h : w.ownsRow B0 e size v n xs) (h' : w.ownsRow B0 e' size' v' n' xs') (hne : e ≠ e') : v.ownBlock = none ∨ v.ownBlock ≠ v'.ownBlock := by
  cases hv : v.ownBlock with
  | none => exact .inl rfl
  | some k =>
    refine .inr fun hk => ?_
    obtain ⟨c, hc⟩ := own_cells h k hv
    obtain ⟨c', hc'⟩ := own_cells h' k hk.symm
    rw [hc] at hc'
    injection hc' with hc'
    injection hc' with _ hc'
    exact hne hc'
theorem own_far {w : World} {B0 g : Nat} {cs : Array Value} {t e : TypeId} {size : Nat} {v : Value} {n : Nat} {xs : List Value} (hg : w.heap[g]? = some (.cells cs t (0, 0))) (h : w.ownsRow B0 e size v n xs) (hne : t ≠ e) : some g ≠ v.ownBlock := fun hk => by
  obtain ⟨c, hc⟩ := own_cells h g hk.symm
  rw [hg] at hc
  injection hc with hc
  injection hc with _ hc
  exact hne hc
theorem by_row {w w' : World} {B0 : Nat} {e : TypeId} {size : Nat} {v : Value} {n : Nat} {xs : List Value} (h : w.ownsRow B0 e size v n xs) (hg : w.grownBy w' v.ownBlock) (hB : B0 ≤ w.heap.size) : Below B0 w w' :=
  ⟨hg.os, hg.tape, hg.output, hg.size, fun k hk => hg.block k (by omega) (fun e => by have := (h.lt k e.symm).1; omega)⟩
theorem by_set {w : World} {B0 : Nat} {b i : Nat} (h : B0 ≤ b) (u : Value) : Below B0 w (w.setCell ⟨b, i, none⟩ u) :=
  ⟨rfl, rfl, rfl, by simp, fun k hk => Below.heap_setCell w ⟨b, i, none⟩ u k (by simp; omega)⟩
theorem plain_any (B0 g : Nat) (P : Plat) (w : World) (h : Disk w B0 g P) :
    Calls Tryz.prog 96 #[.pointer (some ⟨g, 0, none⟩)] w fun e w' => ∃ A n c B m d, e = .returned (.agg #[.slice A n c, .slice B m d]) ∧ OB w' B0 A n c B m d P ∧ Below w.heap.size w w' := by
  obtain ⟨A, n, c, B, m, d, hg, hB, hO⟩ := h
  have HO := Lib.hid hO
  have hlt : g < w.heap.size := cell_lt_of hg
  have HG := Lib.hid hg
  obtain ⟨x0, x1, y0, y1⟩ := two_cells hg
  clear hg hO
  have hne : w.heap.size ≠ g := by omega
  go_enter Tryz.func96, Tryz.ntmps96
  go_wp2_with fail
  go_region_held3 (fun w' => w'.cell? ⟨g, 0, none⟩ = some (.slice A n c) ∧ w'.cell? ⟨g, 1, none⟩ = some (.slice B m d))
    (first | assumption | exact ⟨x0, x1⟩ | exact keep2_alloc ⟨x0, x1⟩ | exact keep2_set (keep2_set (keep2_alloc ⟨x0, x1⟩) (by simp; omega) (by simp; omega)) (by simp; omega) (by simp; omega))
    (fail)
  go_wp2_with fail
  have hbA := ((Below.refl w.heap.size w).alloc (Nat.le_refl _) (.cells #[.slice A n c, .slice B m d] 25)).drew
  have hn := heap_alloc_new w (.cells #[.slice A n c, .slice B m d] 25)
  refine bodyPost_ret (res_cell1 rfl _ _ w.heap.size (by rfl) _ (load_plat_new (w := (w.alloc (.cells #[.slice A n c, .slice B m d] 25)).drew) hn)) rfl ?_
  exact ⟨A, n, c, B, m, d, rfl, HO.out.below hbA, hbA⟩
/-- A text behind the cache. -/
theorem wait_any (B0 g : Nat) (P : Plat) (i : Int) (s : ByteArray) (w : World) (h : Disk w B0 g P) (hB0 : B0 ≤ w.heap.size) (hc : P.cs.length ≤ 1000) :
    Calls Tryz.prog 81 #[.pointer (some ⟨g, 0, none⟩), .int .i64 i, .string s] w fun e w' => (∃ v, e = .returned v) ∧ Disk w' B0 g ⟨P.ss, P.cs ++ [(i, s)]⟩ ∧ Below B0 w w' := by
  obtain ⟨A, n, c, B, m, d, hg, hB, hO⟩ := h
  have hlt : g < w.heap.size := cell_lt_of hg
  have hm1 : m ≤ 1000 := by rw [hO.hm]; exact hc
  have HO := Lib.hid hO
  have HG := Lib.hid hg
  obtain ⟨x0, x1, y0, y1⟩ := two_cells hg
  have HF := Lib.hid (own_far hg hO.oc (by decide))
  clear hg hO
  go_enter Tryz.func81, Tryz.ntmps81
  go_wp2_with (at_builtin; refine wpList_append_new (by rfl) (.tmp 10) (.tmp 14) 23 (by rfl) B0 65 (.agg #[.int .i64 0, .string ⟨#[]⟩]) 2 24 Tryz.underlying23 put_info rfl (by omega) w _ _ _ _ _ (by rfl) HO.out.oc _ 1 1 (by rfl) (by rfl) (by rfl) (by rfl) (by omega) (by omega) (by omega) (by exact hB0) ?_)
  intro g2 cap2 w2 ho2 hb2 hk2 hat2 hlt2
  have hg2 := (hk2 g hlt HF.out).trans HG.out
  obtain ⟨x0', x1', y0', y1'⟩ := two_cells hg2
  have HG2 := Lib.hid hg2
  have HO2 := Lib.hid ho2
  have HS2 := Lib.hid (HO.out.os.kept (row := (Value.slice B m d).ownBlock) ⟨hb2.os, hb2.tape, hb2.output, hb2.size, hk2⟩ (own_ne HO.out.os HO.out.oc (by decide)))
  have HB2 := Lib.hid hb2
  clear ho2 hb2 hk2 hat2 hg2 x0 x1 y0 y1
  go_wp2_with fail
  go_end0
  have hne := own_far HG2.out HO2.out (by decide)
  have hne2 := own_far HG2.out HS2.out (by decide)
  refine ⟨⟨_, rfl⟩, ⟨A, n, c, _, m + 1, cap2, blk_set HG2.out 1 (.slice (some ⟨g2, 0, none⟩) (m + 1) cap2), hB, HO.out.hn, by simp [HO.out.hm], ownsRow_setCell_other HS2.out (fun e => hne2 e.symm) _, ?_⟩, (HB2.out).trans (by_set hB _)⟩
  rw [putsV_app]
  exact ownsRow_setCell_other HO2.out (fun e => hne e.symm) _
/-- What is no row of texts stays. -/
def Keep9 (w w' : World) : Prop := ∀ (k : Nat) (o : Obj), w.heap[k]? = some o → (∀ cs fr, o ≠ Obj.cells cs 9 fr) → w'.heap[k]? = some o
theorem Keep9.trans {a b c : World} (h : Keep9 a b) (h' : Keep9 b c) : Keep9 a c := fun k o ho hn => h' k o (h k o ho hn) hn
theorem Keep9.below {w w' : World} (h : Below w.heap.size w w') : Keep9 w w' := fun k o ho _ => cells_below ho h
theorem keep9_set {w : World} {B0 ga cap n i : Nat} {xs : List Value} (h : w.ownsRow B0 9 1 (.slice (some ⟨ga, 0, none⟩) n cap) n xs) (u : Value) : Keep9 w (w.setCell ⟨ga, i, none⟩ u) := fun k o ho hn => by
  obtain ⟨cur, hc⟩ := own_cells h ga rfl
  refine (Below.heap_setCell w ⟨ga, i, none⟩ u k (fun e => ?_)).trans ho
  subst e
  rw [hc] at ho
  exact hn _ _ (Option.some.inj ho).symm
/-- A whole text into its sector. -/
theorem lay_any (B0 g : Nat) (P : Plat) (i : Nat) (s : ByteArray) (w : World) (h : Disk w B0 g P) (hi : i < P.ss.length) :
    Calls Tryz.prog 112 #[.pointer (some ⟨g, 0, none⟩), .int .i64 (i : Nat), .string s] w fun e w' => (∃ v, e = .returned v) ∧ Disk w' B0 g ⟨P.ss.set i s, P.cs⟩ ∧ Below B0 w w' ∧ Keep9 w w' := by
  obtain ⟨A, n, c, B, m, d, hg, hB, hO⟩ := h
  have hin : i < n := by rw [hO.hn]; exact hi
  have hin' : (i : Int) < (n : Int) := by omega
  obtain ⟨ga, cap, hA, hga, hga2⟩ := hO.os.form (by omega)
  injection hA with hA _ hc
  subst hA hc
  obtain ⟨x0, x1, y0, y1⟩ := two_cells hg
  have c0 := hO.os.cellAt i (by omega)
  rw [show (textsV P.ss)[i]? = some (.string P.ss[i]) by simp [textsV, hi]] at c0
  have f0 := hO.os.frozenAt i
  have HO := Lib.hid hO
  have HG := Lib.hid hg
  generalize P.ss[i] = old at c0
  clear hg hO
  go_enter Tryz.func112, Tryz.ntmps112
  go_wp2_with fail
  go_end0
  have st := HO.out.os.stored i (.string s)
  have hne : g ≠ ga := fun e => own_far HG.out HO.out.os (by decide) (by simp [Value.ownBlock, e])
  refine ⟨⟨_, rfl⟩, ⟨_, n, c, B, m, d, (Below.heap_setCell w ⟨ga, i, none⟩ _ g hne).trans HG.out, hB, by simp [HO.out.hn], HO.out.hm, ?_, ?_⟩, by_set hga _, keep9_set HO.out.os _⟩
  · rw [show textsV (P.ss.set i s) = (textsV P.ss).set i (.string s) by simp [textsV]]
    exact st.1
  · refine ownsRow_setCell_other HO.out.oc (fun e => ?_) _
    rcases own_ne HO.out.oc HO.out.os (by decide) with h | h
    · rw [h] at e; cases e
    · exact h e
/-- The first n bytes of a text, and behind them what its sector had. -/
theorem begin_at (B0 g : Nat) (P : Plat) (i : Nat) (s : ByteArray) (k : Nat) (T : ByteArray) (HT0 : Hid (T = beginS (P.ss.getD i none0) s k)) (w : World) (h : Disk w B0 g P) (hi : i < P.ss.length) (hs : s.size ≤ 1000) (hold : ∀ x ∈ P.ss, x.size ≤ 1000) :
    Calls Tryz.prog 113 #[.pointer (some ⟨g, 0, none⟩), .int .i64 (i : Nat), .string s, .int .i64 (k : Nat)] w fun e w' => (∃ v, e = .returned v) ∧ Disk w' B0 g ⟨P.ss.set i T, P.cs⟩ ∧ Below B0 w w' ∧ Keep9 w w' := by
  obtain ⟨A, n, c, B, m, d, hg, hB, hO⟩ := h
  have hin : i < n := by rw [hO.hn]; exact hi
  have hin' : (i : Int) < (n : Int) := by omega
  obtain ⟨ga, cap, hA, hga, hga2⟩ := hO.os.form (by omega)
  injection hA with hA _ hc
  subst hA hc
  obtain ⟨x0, x1, y0, y1⟩ := two_cells hg
  have c0 := hO.os.cellAt i (by omega)
  rw [show (textsV P.ss)[i]? = some (.string P.ss[i]) by simp [textsV, hi]] at c0
  have f0 := hO.os.frozenAt i
  have HO := Lib.hid hO
  have HG := Lib.hid hg
  have HD := Lib.hid (show P.ss.getD i none0 = P.ss[i] by simp [hi])
  have hol := hold _ (List.getElem_mem hi)
  generalize P.ss[i] = old at c0 HD hol
  have hmn : min (k : Int) (s.size : Int) = ((min k s.size : Nat) : Int) := by omega
  have HT := Lib.hid (show s.data.toList.take k = s.data.toList.take (min k s.size) by
    by_cases h : k ≤ s.size
    · rw [Nat.min_eq_left h]
    · rw [Nat.min_eq_right (by omega), List.take_of_length_le (by rw [len_data]; omega), List.take_of_length_le (by rw [len_data]; exact Nat.le_refl _)])
  have hq : min k s.size ≤ s.size := Nat.min_le_right _ _
  generalize min k s.size = q at hmn HT hq
  have hq' : (q : Int) ≤ (s.size : Int) := by omega
  clear hg hO
  have main : ∀ (u : ByteArray), u = beginS old s k → ((∃ v, Ending.returned (.tuple #[]) = .returned v) ∧ Disk (w.setCell ⟨ga, i, none⟩ (.string u)) B0 g ⟨P.ss.set i T, P.cs⟩ ∧ Below B0 w (w.setCell ⟨ga, i, none⟩ (.string u)) ∧ Keep9 w (w.setCell ⟨ga, i, none⟩ (.string u))) := by
    intro u hu
    rw [show T = u by rw [HT0.out, HD.out, hu]]
    have st := HO.out.os.stored i (.string u)
    have hne : g ≠ ga := fun e => own_far HG.out HO.out.os (by decide) (by simp [Value.ownBlock, e])
    refine ⟨⟨_, rfl⟩, ⟨_, n, c, B, m, d, (Below.heap_setCell w ⟨ga, i, none⟩ _ g hne).trans HG.out, hB, by simp [HO.out.hn], HO.out.hm, ?_, ?_⟩, by_set hga _, keep9_set HO.out.os _⟩
    · rw [show textsV (P.ss.set i u) = (textsV P.ss).set i (.string u) by simp [textsV]]
      exact st.1
    · refine ownsRow_setCell_other HO.out.oc (fun e => ?_) _
      rcases own_ne HO.out.oc HO.out.os (by decide) with h | h
      · rw [h] at e; cases e
      · exact h e
  have HM := Lib.hid main
  clear main
  by_cases hko : k < old.size
  · have d1 : decide ((k : Int) < (old.size : Int)) = true := by simp; omega
    have hsum : ¬ 9223372036854775807 < (s.extract 0 q).size + (old.extract k old.size).size := by simp; omega
    go_enter Tryz.func113, Tryz.ntmps113
    go_wp2_with fail
    go_end0
    refine HM.out _ ?_
    rw [extract_bs, extract_bs, bs_cat, beginS, HT.out, List.drop_zero, List.take_of_length_le (l := old.data.toList) (Nat.le_of_eq (len_data old))]
  · have d1 : decide ((k : Int) < (old.size : Int)) = false := by simp; omega
    go_enter Tryz.func113, Tryz.ntmps113
    go_wp2_with fail
    go_end0
    refine HM.out _ ?_
    rw [extract_bs, beginS, HT.out, List.drop_zero, List.drop_of_length_le (l := old.data.toList) (by rw [len_data]; omega), List.append_nil]
theorem begin_any (B0 g : Nat) (P : Plat) (i : Nat) (s : ByteArray) (k : Nat) (w : World) (h : Disk w B0 g P) (hi : i < P.ss.length) (hs : s.size ≤ 1000) (hold : ∀ x ∈ P.ss, x.size ≤ 1000) :
    Calls Tryz.prog 113 #[.pointer (some ⟨g, 0, none⟩), .int .i64 (i : Nat), .string s, .int .i64 (k : Nat)] w fun e w' => (∃ v, e = .returned v) ∧ Disk w' B0 g ⟨P.ss.set i (beginS (P.ss.getD i none0) s k), P.cs⟩ ∧ Below B0 w w' ∧ Keep9 w w' :=
  begin_at B0 g P i s k _ (Lib.hid rfl) w h hi hs hold
/-- What its fate does to a text that waits. -/
theorem dfall_any (B0 g : Nat) (P : Plat) (i : Nat) (s : ByteArray) (fate : Int) (w : World) (h : Disk w B0 g P) (hB0 : B0 ≤ w.heap.size) (hi : i < P.ss.length) (hs : s.size ≤ 1000) (hold : ∀ x ∈ P.ss, x.size ≤ 1000) (hf : fate ≤ 9223372036854775807) :
    Calls Tryz.prog 95 #[.pointer (some ⟨g, 0, none⟩), .agg #[.int .i64 (i : Nat), .string s], .int .i64 fate] w fun e w' => (∃ v, e = .returned v) ∧ Disk w' B0 g ⟨fallS P.ss ((i : Int), s) fate, P.cs⟩ ∧ Below B0 w w' ∧ Keep9 w w' := by
  have hbA := (Below.refl w.heap.size w).alloc (Nat.le_refl _) (.cells #[.int .i64 (i : Nat), .string s] 65)
  have HD := Lib.hid (h.below hbA)
  have HbA := Lib.hid (hbA.mono hB0)
  have HK := Lib.hid (Keep9.below hbA)
  clear h hbA
  by_cases h0 : fate ≤ 0
  · have HF := Lib.hid (show fallS P.ss ((i : Int), s) fate = P.ss by rw [fallS, if_pos h0])
    have d0 : decide (fate ≤ 0) = true := by simpa using h0
    go_enter Tryz.func95, Tryz.ntmps95
    go_wp2_with fail
    go_end0
    exact ⟨⟨_, rfl⟩, by rw [HF.out]; exact HD.out, HbA.out, HK.out⟩
  · have d0 : decide (fate ≤ 0) = false := by simpa using h0
    by_cases h1 : fate = 1
    · have HF := Lib.hid (show fallS P.ss ((i : Int), s) fate = P.ss.set i s by rw [fallS, if_neg h0, if_pos h1]; rfl)
      have d1 : (fate == 1) = true := by simpa using h1
      clear h1
      go_enter Tryz.func95, Tryz.ntmps95
      go_wp2_with fail
      refine (lay_any B0 g P i s _ HD.out hi).mono ?_
      rintro e w1 ⟨⟨v, rfl⟩, hD1, hb1, hk1⟩
      have HD1 := Lib.hid hD1
      have HB1 := Lib.hid (HbA.out.trans hb1)
      have HK1 := Lib.hid (HK.out.trans hk1)
      clear hD1 hb1 hk1
      go_wp2_with fail
      go_end0
      exact ⟨⟨_, rfl⟩, by rw [HF.out]; exact HD1.out, HB1.out, HK1.out⟩
    · have HF := Lib.hid (show fallS P.ss ((i : Int), s) fate = P.ss.set i (beginS (P.ss.getD i none0) s (fate - 2).toNat) by rw [fallS, if_neg h0, if_neg h1]; rfl)
      have d1 : (fate == 1) = false := by simpa using h1
      obtain ⟨k, hk⟩ := Int.eq_ofNat_of_zero_le (show 0 ≤ fate - 2 by omega)
      have Hk2 := Lib.hid (show fate - 2 = ((k : Nat) : Int) from hk)
      have Hk := Lib.hid (show (fate - 2).toNat = k by omega)
      clear h1 hk
      go_enter Tryz.func95, Tryz.ntmps95
      go_wp2_with fail
      rw [Hk2.out]
      with_reducible refine (begin_any B0 g P i s k _ HD.out hi hs hold).mono ?_
      rintro e w1 ⟨⟨v, rfl⟩, hD1, hb1, hk1⟩
      have HD1 := Lib.hid hD1
      have HB1 := Lib.hid (HbA.out.trans hb1)
      have HK1 := Lib.hid (HK.out.trans hk1)
      clear hD1 hb1 hk1
      go_wp2_with fail
      go_end0
      exact ⟨⟨_, rfl⟩, by rw [HF.out, Hk.out]; exact HD1.out, HB1.out, HK1.out⟩

end Go.Proofs.YtieekajjoikepaaGreatDoor
