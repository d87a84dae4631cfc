/-
  Contracts of share.right and share.places.
-/
import Derived.Test.YtkbjmmigjjdfpaaGreatDoorSp
namespace Go.Proofs.YtkbjmmigjjdfpaaGreatDoor
open Go.RowKit
set_option linter.unusedVariables false
set_option maxRecDepth 100000
set_option maxHeartbeats 4000000

/-- Is it a share at least or above? -/
def okS (least : Int) (p : Shr) : Bool := decide (least ≤ p.1) && decide (p.1 ≤ 255) && decide (p.2.size = 32)
def rightB (l : List Shr) (least : Int) : Bool := decide (1 ≤ l.length) && decide (l.length ≤ 255) && l.all (okS least) && decide ((l.map Prod.fst).Nodup)

theorem Rd.shr {w : World} {A : Option Addr} {l : List Shr} {i : Nat} (h : Rd w A (sharesV l)) (hi : i < l.length) :
    ∃ b off, A = some ⟨b, off, none⟩ ∧ w.cell? ⟨b, off + i * 2, none⟩ = some (.int .i64 l[i].1) ∧ w.cell? ⟨b, off + i * 2 + 1, none⟩ = some (.string l[i].2) := by
  obtain ⟨h1, h2⟩ := sharesV_at l i l[i] (List.getElem?_eq_getElem hi)
  obtain ⟨b, off, hA, c1⟩ := h _ _ h1
  obtain ⟨b', off', hA', c2⟩ := h _ _ h2
  rw [hA] at hA'
  injection hA' with e
  injection e with e1 e2
  subst e1 e2
  exact ⟨b, off, hA, c1, by rw [Nat.add_assoc]; exact c2⟩

theorem right_bad (l : List Shr) (least : Int) (i : Nat) (hi : i < l.length) (h : okS least l[i] = false) : rightB l least = false := by
  have : l.all (okS least) = false := List.all_eq_false.2 ⟨l[i], List.getElem_mem hi, by simp [h]⟩
  simp [rightB, this]
theorem right_dup (l : List Shr) (least : Int) (i : Nat) (hi : i < l.length) (h : l[i].1 ∈ (l.take i).map Prod.fst) : rightB l least = false := by
  have : ¬ (l.map Prod.fst).Nodup := by
    intro hn
    rw [← List.take_append_drop i l, List.map_append, List.nodup_append] at hn
    exact hn.2.2 _ h l[i].1 (List.mem_map.2 ⟨l[i], (List.drop_eq_getElem_cons hi).symm ▸ List.mem_cons_self, rfl⟩) rfl
  simp [rightB, this]
theorem right_step (l : List Shr) (least : Int) (i : Nat) (hi : i < l.length) (ha : (l.take i).all (okS least) = true) (hn : ((l.take i).map Prod.fst).Nodup) (h : okS least l[i] = true) (h2 : l[i].1 ∉ (l.take i).map Prod.fst) :
    (l.take (i + 1)).all (okS least) = true ∧ ((l.take (i + 1)).map Prod.fst).Nodup := by
  rw [List.take_succ_eq_append_getElem hi]
  refine ⟨by rw [List.all_append, ha]; simp [h], ?_⟩
  rw [List.map_append, List.nodup_append]
  refine ⟨hn, by simp, fun a ha' b hb => ?_⟩
  simp at hb
  subst hb
  intro e
  exact h2 (e ▸ ha')
theorem right_row {w : World} {g : Nat} {t : TypeId} {l : List Shr} {i y : Nat} (hi : i < l.length) (hx : l[i].1 = (y : Int)) (h : w.rowIs g t 256 (fun x => .bool (decide ((x : Int) ∈ (l.take i).map Prod.fst)))) :
    (w.setCell ⟨g, y, none⟩ (.bool true)).rowIs g t 256 (fun x => .bool (decide ((x : Int) ∈ (l.take (i + 1)).map Prod.fst))) := by
  refine (h.set y (.bool true)).congr fun j hj => ?_
  rw [List.take_succ_eq_append_getElem hi, List.map_append]
  by_cases e : j = y
  · subst e
    simp [hx]
  · rw [if_neg e]
    congr 2
    simp only [List.mem_append, List.map_cons, List.map_nil, List.mem_singleton, hx]
    simp
    omega
theorem right_any (l : List Shr) (least : Int) (A : Option Addr) (n c : Nat) (w : World) (hr : Rd w A (sharesV l)) (hn : n = l.length) (h0 : 0 ≤ least) :
    Calls Tryz.prog 55 #[.slice A n c, .int .i64 least] w fun e w' => e = .returned (.bool (rightB l least)) ∧ Below w.heap.size w w' := by
  by_cases hn1 : n = 0
  · have Hf := Lib.hid (show rightB l least = false by simp [rightB]; omega)
    clear hr hn
    subst hn1
    go_enter Tryz.func55, Tryz.ntmps55
    go_wp2_with fail
    go_ret
    exact ⟨by rw [Hf.out]; rfl, Below.refl _ _⟩
  by_cases hn2 : 255 < n
  · have Hf := Lib.hid (show rightB l least = false by simp [rightB]; omega)
    clear hr hn
    have d1 : decide ((n : Int) < 1) = false := by simp; omega
    have d2 : decide (255 < (n : Int)) = true := by simp; omega
    go_enter Tryz.func55, Tryz.ntmps55
    go_wp2_with fail
    go_ret
    exact ⟨by rw [Hf.out]; rfl, Below.refl _ _⟩
  have HR := Lib.hid hr
  have HN := Lib.hid hn
  have d1 : decide ((n : Int) < 1) = false := by simp; omega
  have d2 : decide (255 < (n : Int)) = false := by simp; omega
  clear hr hn
  go_enter Tryz.func55, Tryz.ntmps55
  go_wp2_with fail
  go_loopw [18] (fun x wr => ∃ i : Nat, i ≤ n ∧ x = .int .i64 (i : Nat) ∧ (l.take i).all (okS least) = true ∧ ((l.take i).map Prod.fst).Nodup ∧ wr.rowIs w.heap.size 165 256 (fun x => .bool (decide ((x : Int) ∈ (l.take i).map Prod.fst))) ∧ Below w.heap.size w wr) (fun x _ => n - (intOf x).toNat)
  case atStart =>
    refine ⟨0, by omega, rfl, rfl, by simp, ⟨_, heap_alloc_new w _, rfl, fun i hi => ?_⟩, (Below.refl _ _).alloc (Nat.le_refl _) _⟩
    have hz : ∀ (c : Array Value), c = Array.replicate 256 (.bool false) → c[i]? = some (.bool (decide ((i : Int) ∈ (l.take 0).map Prod.fst))) := fun c hc => by
      rw [hc]
      simp [hi]
    exact hz _ rfl
  case round =>
    obtain ⟨i, hi, rfl, hall, hnd, hrow, hW⟩ := hrel
    by_cases hlt : i < n
    · have hil : i < l.length := by rw [← HN.out]; exact hlt
      obtain ⟨b, off, hA, c1, c2⟩ := (HR.out.below hW).shr hil
      subst hA
      have Hall := Lib.hid hall
      have Hnd := Lib.hid hnd
      have Hrow := Lib.hid hrow
      have HW := Lib.hid hW
      obtain ⟨p, hp⟩ : ∃ p, p = l[i] := ⟨_, rfl⟩
      rw [← hp] at c1 c2
      have Hp := Lib.hid hp
      clear hall hnd hrow hW hp
      obtain ⟨x, bb⟩ := p
      simp only at c1 c2
      have hGl := Hrow.out.lt
      by_cases k1 : x < least
      · have d3 : decide (x < least) = true := by simp; omega
        have Hf := Lib.hid (right_bad l least i hil (by rw [← Hp.out]; simp [okS]; omega))
        go_wp2_with fail
        try rw [Exit.noGoto_ret]
        go_ret
        exact ⟨by rw [Hf.out]; rfl, HW.out.alloc HW.out.size _⟩
      have d3 : decide (x < least) = false := by simp; omega
      by_cases k2 : 255 < x
      · have d4 : decide (255 < x) = true := by simp; omega
        have Hf := Lib.hid (right_bad l least i hil (by rw [← Hp.out]; simp [okS]; omega))
        go_wp2_with fail
        try rw [Exit.noGoto_ret]
        go_ret
        exact ⟨by rw [Hf.out]; rfl, HW.out.alloc HW.out.size _⟩
      have d4 : decide (255 < x) = false := by simp; omega
      obtain ⟨y, rfl⟩ : ∃ y : Nat, x = (y : Int) := ⟨x.toNat, by omega⟩
      have hy : (y : Int) < 256 := by omega
      have cy := Hrow.out.cell (i := y) (by omega)
      have fy := Hrow.out.frozen y
      by_cases k3 : (y : Int) ∈ (l.take i).map Prod.fst
      · have Hf := Lib.hid (right_dup l least i hil (by rw [← Hp.out]; exact k3))
        rw [decide_eq_true k3] at cy
        clear k3
        go_wp2_with fail
        try rw [Exit.noGoto_ret]
        go_ret
        exact ⟨by rw [Hf.out]; rfl, HW.out.alloc HW.out.size _⟩
      rw [decide_eq_false k3] at cy
      have K3 := Lib.hid k3
      clear k3
      by_cases k4 : bb.size = 32
      · have d5 : ((bb.size : Int) != 32) = false := by simp; omega
        obtain ⟨s1, s2⟩ := right_step l least i hil Hall.out Hnd.out (by rw [← Hp.out]; simp [okS, k4]; omega) (by rw [← Hp.out]; exact K3.out)
        have S1 := Lib.hid s1
        have S2 := Lib.hid s2
        clear s1 s2 k4
        go_wp2_with fail
        go_roundw
        case rel => exact ⟨i + 1, by omega, by go_num, S1.out, S2.out, (right_row hil (by rw [← Hp.out]) Hrow.out).alloc _, (HW.out.setCell (p := ⟨w.heap.size, y, none⟩) (Nat.le_refl _) _).alloc (by simpa using HW.out.size) _⟩
        case measure => simp [intOf]; omega
      · have d5 : ((bb.size : Int) != 32) = true := by simp; omega
        have Hf := Lib.hid (right_bad l least i hil (by rw [← Hp.out]; simp [okS, k4]))
        clear k4
        go_wp2_with fail
        try rw [Exit.noGoto_ret]
        go_ret
        exact ⟨by rw [Hf.out]; rfl, HW.out.alloc HW.out.size _⟩
    · obtain rfl : i = n := by omega
      have hil : i = l.length := HN.out
      rw [hil, List.take_of_length_le (Nat.le_refl _)] at hall hnd
      have Hf := Lib.hid (show rightB l least = true by simp only [rightB, hall, hnd]; simp; omega)
      have HW := Lib.hid hW
      clear hall hnd hrow hW hil
      go_wp2_with fail
      go_ret
      exact ⟨by rw [Hf.out]; rfl, HW.out⟩

def zeros0 (n : Nat) : List Int := List.replicate n 0
def placesTo (l : List Shr) (i : Nat) : List Int := ((l.take i).map Prod.fst) ++ List.replicate (l.length - i) 0
theorem placesTo_len (l : List Shr) (i : Nat) (hi : i ≤ l.length) : (placesTo l i).length = l.length := by simp [placesTo]; omega
theorem placesTo_set (l : List Shr) (i : Nat) (hi : i < l.length) : (placesTo l i).set i l[i].1 = placesTo l (i + 1) := by
  have h1 : ((l.take i).map Prod.fst).length = i := by simp; omega
  rw [placesTo, List.set_append_right _ _ (by omega), h1, Nat.sub_self, show l.length - i = (l.length - (i + 1)) + 1 by omega, List.replicate_succ, List.set_cons_zero, placesTo, List.take_succ_eq_append_getElem hi, List.map_append, List.append_assoc]
  rfl
theorem made_ints (n : Nat) : (madeCells #[.int .i64 0] n).toList = ints (List.replicate n 0) := by
  apply List.ext_getElem
  · simp [madeCells, ints]
  · intro p h1 h2
    simp [madeCells, ints, Nat.mod_one]

theorem places_any (l : List Shr) (A : Option Addr) (n c : Nat) (w : World) (hr : Rd w A (sharesV l)) (hn : n = l.length) (hl : l.length ≤ 255) :
    Calls Tryz.prog 95 #[.slice A n c] w fun e w' => ∃ g, e = .returned (.slice (some ⟨g, 0, none⟩) n n) ∧ w'.ownsRow w.heap.size 3 1 (.slice (some ⟨g, 0, none⟩) n n) n (ints (l.map Prod.fst)) ∧ Below w.heap.size w w' := by
  have HR := Lib.hid hr
  have HN := Lib.hid hn
  have hn2 : n ≤ 255 := by omega
  obtain ⟨iI, hI0, hI1, hI2, hI3⟩ := info_parts int_info
  clear hr hn
  go_enter Tryz.func95, Tryz.ntmps95
  go_wp2_with (refine wpList_make_full _ (by rfl) (.tmp 7) (.tmp 7) 127 (by rfl) w.heap.size 3 iI (.int .i64 0) 1 Tryz.underlying127 hI0 hI1 hI2 .i64 .i64 _ _ n (by rfl) (by rfl) rfl rfl (by rw [hI3]; omega) (by unfold maxLen; omega) (by omega) ?_)
  intro w2 ho2 hg2
  try simp only [Nat.mul_one] at ho2
  rw [made_ints] at ho2
  have hbl := own_blk ho2
  rw [show List.replicate n (0 : Int) = placesTo l 0 by simp [placesTo, HN.out]] at hbl
  have HL2 := Lib.hid hbl.1
  have HW2 := Lib.hid (below_grown hg2 (Nat.le_refl _))
  clear ho2 hg2 hbl
  go_wp2_with fail
  go_loopw [11] (fun x wr => ∃ i : Nat, i ≤ n ∧ x = .int .i64 (i : Nat) ∧ wr.heap[w.heap.size]? = some (.cells (ints (placesTo l i)).toArray 3 (0, 0)) ∧ Below w.heap.size w wr) (fun x _ => n - (intOf x).toNat)
  case atStart => exact ⟨0, by omega, rfl, HL2.out, HW2.out⟩
  case round =>
    clear HL2 HW2
    obtain ⟨i, hi, rfl, hL, hW⟩ := hrel
    have hGl := cell_lt_of hL
    by_cases hlt : i < n
    · have hil : i < l.length := by rw [← HN.out]; exact hlt
      obtain ⟨b, off, hA, c1, c2⟩ := (HR.out.below hW).shr hil
      subst hA
      obtain ⟨p, hp⟩ : ∃ p, p = l[i] := ⟨_, rfl⟩
      have Hset := Lib.hid (placesTo_set l i hil)
      rw [← hp] at c1 c2 Hset
      clear hp
      obtain ⟨x, bb⟩ := p
      simp only at c1 c2 Hset
      obtain ⟨cc, ff⟩ := ints_cell hL (i := i) (by rw [placesTo_len l i (by omega)]; exact hil)
      have HL2 := Lib.hid (ints_set hL i x)
      rw [Hset.out] at HL2
      have HW := Lib.hid (hW.setCell (p := ⟨w.heap.size, i, none⟩) (Nat.le_refl _) (.int .i64 x))
      clear hL hW
      go_wp2_with fail
      go_roundw
      case rel => exact ⟨i + 1, by omega, by go_num, (Below.heap_alloc _ _ _ (by simpa using hGl)).trans HL2.out, HW.out.alloc (by simpa using Nat.le_of_lt hGl) _⟩
      case measure => simp [intOf]; omega
    · obtain rfl : i = n := by omega
      rw [show placesTo l i = l.map Prod.fst by rw [HN.out]; simp [placesTo]] at hL
      have HO := Lib.hid (blk_own hL (Nat.le_refl _) (show (ints (l.map Prod.fst)).length = i * 1 by simp [ints, HN.out]) (by omega))
      have HW := Lib.hid hW
      clear hL hW
      go_wp2_with fail
      go_ret
      exact ⟨_, rfl, HO.out, HW.out⟩
end Go.Proofs.YtkbjmmigjjdfpaaGreatDoor
