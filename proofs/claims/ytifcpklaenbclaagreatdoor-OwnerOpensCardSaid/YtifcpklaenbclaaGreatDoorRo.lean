/-
  Contracts of the document's Name, Check, Big (records), Many (answers), Same (shares).
-/
import Derived.Test.YtifcpklaenbclaaGreatDoorMem2
import Derived.Test.YtifcpklaenbclaaGreatDoorOw2
import Derived.Laws.StructEq
import Derived.BigQuiet
namespace Go.Proofs.YtifcpklaenbclaaGreatDoor
open Go.RowKit
set_option linter.unusedVariables false
set_option linter.unusedSimpArgs false
set_option maxRecDepth 100000
set_option maxHeartbeats 2000000

theorem name18_any (s : ByteArray) (w : World) (hs : s.size ≤ 9223372036854775807) :
    Calls Tryz.prog 21 #[.string s] w fun e w' => e = .returned (.bool (nameB s)) ∧ w' = w := by
  go_enter Tryz.func21, Tryz.ntmps21
  go_wp2_with fail
  go_loopw [3] (fun x wr => ∃ k : Nat, k ≤ s.size ∧ x = .int .i64 (k : Nat) ∧ (s.data.toList.take k).all okC = true ∧ wr = w) (fun x _ => s.size - (intOf x).toNat)
  case atStart => exact ⟨0, by omega, rfl, rfl, rfl⟩
  case round =>
    obtain ⟨k, hk, rfl, hall, rfl⟩ := hrel
    have Hall := Lib.hid hall
    clear hall
    by_cases hlt : k < s.size
    · have e1 : decide ((k : Int) < (s.size : Int)) = true := by simp; omega
      have Ht := Lib.hid (show s.data.toList.take (k + 1) = s.data.toList.take k ++ [s[k]] by rw [List.take_succ_eq_append_getElem (by rw [len_data]; exact hlt)]; rfl)
      have Hcp := Lib.hid (okC_parts s[k])
      by_cases p1 : (s[k].toNat : Int) < 97
      · have p2 : ¬ (122 : Int) < (s[k].toNat : Int) := by omega
        by_cases p3 : (s[k].toNat : Int) < 48
        · have Hc := Lib.hid (show okC s[k] = false by rw [Hcp.out]; simp; omega)
          have Hf := Lib.hid (show nameB s = false by rw [nameB, all_bad (l := s.data.toList) (i := k) (by rw [len_data]; exact hlt) Hc.out, Bool.and_false])
          go_wp2_with fail
          go_ret
          exact ⟨by rw [Hf.out]; rfl, rfl⟩
        · by_cases p4 : (57 : Int) < (s[k].toNat : Int)
          · have Hc := Lib.hid (show okC s[k] = false by rw [Hcp.out]; simp; omega)
            have Hf := Lib.hid (show nameB s = false by rw [nameB, all_bad (l := s.data.toList) (i := k) (by rw [len_data]; exact hlt) Hc.out, Bool.and_false])
            go_wp2_with fail
            go_ret
            exact ⟨by rw [Hf.out]; rfl, rfl⟩
          · have Hc := Lib.hid (show okC s[k] = true by rw [Hcp.out]; simp; omega)
            go_wp2_with fail
            go_roundw
            case rel => exact ⟨k + 1, by omega, by go_num, by rw [Ht.out, List.all_append, Hall.out, List.all_cons, Hc.out]; rfl, trivial⟩
            case measure => simp [intOf]; omega
      · have p3 : ¬ (s[k].toNat : Int) < 48 := by omega
        have p4 : (57 : Int) < (s[k].toNat : Int) := by omega
        by_cases p2 : (122 : Int) < (s[k].toNat : Int)
        · have Hc := Lib.hid (show okC s[k] = false by rw [Hcp.out]; simp; omega)
          have Hf := Lib.hid (show nameB s = false by rw [nameB, all_bad (l := s.data.toList) (i := k) (by rw [len_data]; exact hlt) Hc.out, Bool.and_false])
          go_wp2_with fail
          go_ret
          exact ⟨by rw [Hf.out]; rfl, rfl⟩
        · have Hc := Lib.hid (show okC s[k] = true by rw [Hcp.out]; simp; omega)
          go_wp2_with fail
          go_roundw
          case rel => exact ⟨k + 1, by omega, by go_num, by rw [Ht.out, List.all_append, Hall.out, List.all_cons, Hc.out]; rfl, trivial⟩
          case measure => simp [intOf]; omega
    · obtain rfl : k = s.size := by omega
      have e1 : decide ((s.size : Int) < (s.size : Int)) = false := by simp
      have Hf := Lib.hid (show s.data.toList.all okC = true by have h := Hall.out; rwa [List.take_of_length_le (by rw [len_data]; exact Nat.le_refl _)] at h)
      by_cases q1 : s.size ≥ 1
      · have d1 : decide ((s.size : Int) ≥ 1) = true := by simp; omega
        have d1' : decide ((1 : Int) ≤ (s.size : Int)) = true := by simp; omega
        have HE := Lib.hid (show nameB s = decide ((s.size : Int) ≤ 20) by
          rw [nameB, Hf.out, decide_eq_true q1]
          simp
          omega)
        clear q1
        go_wp2_with fail
        go_ret
        exact ⟨by rw [HE.out]; rfl, rfl⟩
      · have d1 : decide ((s.size : Int) ≥ 1) = false := by simp; omega
        have d1' : decide ((1 : Int) ≤ (s.size : Int)) = false := by simp; omega
        have HE := Lib.hid (show nameB s = false by simp [nameB]; omega)
        clear q1
        go_wp2_with fail
        go_ret
        exact ⟨by rw [HE.out]; rfl, rfl⟩
/-- Big: what is not big. -/
def notBig (r : Rec) : Prop := r.ns.length ≤ 30 ∧ r.ps.length ≤ 30 ∧ (∀ s ∈ r.ns, s.size ≤ 100) ∧ (∀ s ∈ r.ps, s.size ≤ 100)
theorem all_upto {l : List ByteArray} {n : Nat} (hn : n = l.length) (h : ∀ j (hj : j < l.length), j < n → l[j].size ≤ 100) : ∀ s ∈ l, s.size ≤ 100 := fun s hs => by
  obtain ⟨j, hj, rfl⟩ := List.mem_iff_getElem.1 hs
  exact h j hj (by omega)
def BigR (w : World) (r : Rec) (e : Ending) (w' : World) : Prop := ∃ b, e = .returned (.bool b) ∧ (b = false → notBig r) ∧ Below w.heap.size w w'
theorem big_any (v : Value) (r : Rec) (w : World) (hv : RV w v r) (hl1 : r.ns.length ≤ maxLen) (hl2 : r.ps.length ≤ maxLen) :
    Calls Tryz.prog 6 #[v] w (BigR w r) := by
  obtain ⟨A, n, c, B, m, d, rfl, hA, hn, hB, hm⟩ := hv
  have HA := Lib.hid hA
  have HB := Lib.hid hB
  have HN := Lib.hid hn
  have HM := Lib.hid hm
  have hnm : n ≤ 9223372036854775807 := by unfold maxLen at hl1; omega
  have hmm : m ≤ 9223372036854775807 := by unfold maxLen at hl2; omega
  have hW := (Below.refl w.heap.size w).alloc (Nat.le_refl _) (.cells #[.int .i64 r.e, .int .i64 r.k, .slice A n c, .slice B m d] 24)
  have hX := heap_alloc_new w (.cells #[.int .i64 r.e, .int .i64 r.k, .slice A n c, .slice B m d] 24)
  have HW := Lib.hid hW
  have HX := Lib.hid hX
  clear hA hB hn hm hW hX hl1 hl2
  go_enter Tryz.func6, Tryz.ntmps6
  go_wp2_with fail
  go_loopw [3] (fun x wr => ∃ i : Nat, i ≤ n ∧ x = .int .i64 (i : Nat) ∧ (i = 0 ∨ n ≤ 30) ∧ (∀ j (hj : j < r.ns.length), j < i → r.ns[j].size ≤ 100) ∧ wr.heap[w.heap.size]? = some (.cells #[.int .i64 r.e, .int .i64 r.k, .slice A n c, .slice B m d] 24 (0, 0)) ∧ Below w.heap.size w wr) (fun x _ => n - (intOf x).toNat)
  case atStart => exact ⟨0, by omega, rfl, .inl rfl, fun j _ hj => by omega, HX.out, HW.out⟩
  case round =>
    obtain ⟨i, hi, rfl, hor, hall, hX, hW⟩ := hrel
    have Hor := Lib.hid hor
    have Hall := Lib.hid hall
    replace HX := Lib.hid hX
    replace HW := Lib.hid hW
    have x2 := rf_at hX 2 _ rfl
    clear hor hall hX hW
    by_cases hlt : i < n ∧ n ≤ 30
    · obtain ⟨hlt, h30⟩ := hlt
      have e1 : decide ((i : Int) < (n : Int)) = true := by simp; omega
      have e2 : decide ((n : Int) ≤ 30) = true := by simp; omega
      have hil : i < r.ns.length := by rw [← HN.out]; exact hlt
      obtain ⟨b, off, hbA, c1⟩ := texts_at (HA.out.below HW.out) hil
      subst hbA
      have Hnx := Lib.hid (show r.ns[i].size ≤ 100 → ∀ j (hj : j < r.ns.length), j < i + 1 → r.ns[j].size ≤ 100 from fun h j hj hji => by
        rcases Nat.lt_or_eq_of_le (Nat.le_of_lt_succ hji) with h2 | h2
        · exact Hall.out j hj h2
        · subst h2; exact h)
      generalize r.ns[i] = s at c1 Hnx
      by_cases hs : 100 < s.size
      · have d1 : decide ((s.size : Int) > 100) = true := by simp; omega
        clear hil hs h30
        go_wp2_with fail
        go_ret
        exact ⟨true, rfl, nofun, HW.out⟩
      · have d1 : decide ((s.size : Int) > 100) = false := by simp; omega
        have Hx := Lib.hid (Hnx.out (by omega))
        have H30 := Lib.hid h30
        clear hil hs h30
        go_wp2_with fail
        go_roundw
        case rel => exact ⟨i + 1, by omega, by go_num, .inr H30.out, Hx.out, HX.out, HW.out⟩
        case measure => simp [intOf]; omega
    · have He : Hid (n ≤ 30 → ∀ s ∈ r.ns, s.size ≤ 100) := Lib.hid fun h30 => by
        obtain rfl : i = n := by omega
        exact all_upto HN.out Hall.out
      have x3 := rf_at HX.out 3 _ rfl
      have hg : ¬ i < n ∨ (i < n ∧ ¬ (n : Int) ≤ 30) := by
        by_cases h : i < n
        · exact .inr ⟨h, fun h2 => hlt ⟨h, by omega⟩⟩
        · exact .inl h
      clear hlt
      rcases hg with g1 | ⟨g1, g2⟩
      all_goals
        go_wp2_with fail
        clear g1
        try clear g2
        go_loopw [4] (fun x wr => ∃ i : Nat, i ≤ m ∧ x = .int .i64 (i : Nat) ∧ (i = 0 ∨ m ≤ 30) ∧ (∀ j (hj : j < r.ps.length), j < i → r.ps[j].size ≤ 100) ∧ wr.heap[w.heap.size]? = some (.cells #[.int .i64 r.e, .int .i64 r.k, .slice A n c, .slice B m d] 24 (0, 0)) ∧ Below w.heap.size w wr) (fun x _ => m - (intOf x).toNat)
        case atStart => exact ⟨0, by omega, rfl, .inl rfl, fun j _ hj => by omega, HX.out, HW.out⟩
        case round =>
          clear x2 x3 HX HW
          obtain ⟨i, hi, rfl, hor, hall, hX, hW⟩ := hrel
          have Hor2 := Lib.hid hor
          have Hall2 := Lib.hid hall
          have HX := Lib.hid hX
          have HW := Lib.hid hW
          have x2 := rf_at hX 2 _ rfl
          have x3 := rf_at hX 3 _ rfl
          clear hor hall hX hW
          by_cases hlt : i < m ∧ m ≤ 30
          · obtain ⟨hlt, h30⟩ := hlt
            have e1 : decide ((i : Int) < (m : Int)) = true := by simp; omega
            have e2 : decide ((m : Int) ≤ 30) = true := by simp; omega
            have hil : i < r.ps.length := by rw [← HM.out]; exact hlt
            obtain ⟨b, off, hbB, c1⟩ := texts_at (HB.out.below HW.out) hil
            subst hbB
            have Hnx := Lib.hid (show r.ps[i].size ≤ 100 → ∀ j (hj : j < r.ps.length), j < i + 1 → r.ps[j].size ≤ 100 from fun h j hj hji => by
              rcases Nat.lt_or_eq_of_le (Nat.le_of_lt_succ hji) with h2 | h2
              · exact Hall2.out j hj h2
              · subst h2; exact h)
            generalize r.ps[i] = s at c1 Hnx
            by_cases hs : 100 < s.size
            · have d1 : decide ((s.size : Int) > 100) = true := by simp; omega
              clear hil hs h30
              go_wp2_with fail
              go_ret
              exact ⟨true, rfl, nofun, HW.out⟩
            · have d1 : decide ((s.size : Int) > 100) = false := by simp; omega
              have Hx := Lib.hid (Hnx.out (by omega))
              have H30 := Lib.hid h30
              clear hil hs h30
              go_wp2_with fail
              go_roundw
              case rel => exact ⟨i + 1, by omega, by go_num, .inr H30.out, Hx.out, HX.out, HW.out⟩
              case measure => simp [intOf]; omega
          · have He2 : Hid (m ≤ 30 → ∀ s ∈ r.ps, s.size ≤ 100) := Lib.hid fun h30 => by
              obtain rfl : i = m := by omega
              exact all_upto HM.out Hall2.out
            have hg : ¬ i < m ∨ (i < m ∧ ¬ (m : Int) ≤ 30) := by
              by_cases h : i < m
              · exact .inr ⟨h, fun h2 => hlt ⟨h, by omega⟩⟩
              · exact .inl h
            clear hlt
            by_cases hn30 : 30 < n
            · have d1 : (30 : Int) < (n : Int) := by omega
              rcases hg with g1 | ⟨g1, g2⟩
              all_goals
                go_wp2_with fail
                go_ret
                exact ⟨true, rfl, nofun, HW.out⟩
            · have d1 : ¬ (30 : Int) < (n : Int) := by omega
              have Hfin := Lib.hid (show decide (30 < (m : Int)) = false → notBig r from fun h => by
                have h' : m ≤ 30 := by simp at h; omega
                refine ⟨by rw [← HN.out]; omega, by rw [← HM.out]; exact h', He.out (by omega), He2.out h'⟩)
              rcases hg with g1 | ⟨g1, g2⟩
              all_goals
                go_wp2_with fail
                go_ret
                first | exact ⟨true, rfl, nofun, HW.out⟩ | exact ⟨_, rfl, Hfin.out, HW.out⟩
/-- Many: what is not many. -/
def notMany (l : List Ans) : Prop := l.length ≤ 30
def ManyR (w : World) (l : List Ans) (e : Ending) (w' : World) : Prop := ∃ b, e = .returned (.bool b) ∧ (b = false → notMany l) ∧ Below w.heap.size w w'
theorem many22_any (A : Option Addr) (n c : Nat) (l : List Ans) (w : World) (hr : Rd w A (answersV l)) (hn : n = l.length) (hl : l.length ≤ maxLen) :
    Calls Tryz.prog 7 #[.slice A n c] w (ManyR w l) := by
  have HA := Lib.hid hr
  have HN := Lib.hid hn
  have hnm : n ≤ 9223372036854775807 := by unfold maxLen at hl; omega
  clear hr hn hl
  go_enter Tryz.func7, Tryz.ntmps7
  go_wp2_with fail
  go_loopw [3] (fun x wr => ∃ i : Nat, i ≤ n ∧ x = .int .i64 (i : Nat) ∧ (i = 0 ∨ n ≤ 30) ∧ Below w.heap.size w wr) (fun x _ => n - (intOf x).toNat)
  case atStart => exact ⟨0, by omega, rfl, .inl rfl, Below.refl _ _⟩
  case round =>
    obtain ⟨i, hi, rfl, hor, hW⟩ := hrel
    have Hor := Lib.hid hor
    have HW := Lib.hid hW
    clear hor hW
    by_cases hlt : i < n ∧ n ≤ 30
    · obtain ⟨hlt, h30⟩ := hlt
      have e1 : decide ((i : Int) < (n : Int)) = true := by simp; omega
      have e2 : decide ((n : Int) ≤ 30) = true := by simp; omega
      have hil : i < l.length := by rw [← HN.out]; exact hlt
      obtain ⟨b, off, hbA, c0, c1, c2, c3⟩ := (HA.out.below HW.out).ans hil
      subst hbA
      generalize l[i] = a at c0 c1 c2 c3
      obtain ⟨nm, salt, x, bb⟩ := a
      simp only at c0 c1 c2 c3
      have hi1 : (i : Int) < (n : Int) := by omega
      by_cases hs : (200 : Int) < wrap64 (wrap64 ((nm.size : Int) + (salt.size : Int)) + (bb.size : Int))
      · have d1 : decide (wrap64 (wrap64 ((nm.size : Int) + (salt.size : Int)) + (bb.size : Int)) > 200) = true := by simpa using hs
        have d1' : decide ((200 : Int) < wrap64 (wrap64 ((nm.size : Int) + (salt.size : Int)) + (bb.size : Int))) = true := by simpa using hs
        have C0 := Lib.hid c0
        have C1 := Lib.hid c1
        have C3 := Lib.hid c3
        clear hil hs h30 c0 c1 c2 c3
        go_wp2_with fail
        have c0 := C0.out
        have c1 := C1.out
        have c3 := C3.out
        go_quiet (fail)
        rename_i nq
        have HQ := below_drewN HW.out nq
        go_wp2_with fail
        go_ret
        exact ⟨true, rfl, nofun, HQ⟩
      · have d1 : decide (wrap64 (wrap64 ((nm.size : Int) + (salt.size : Int)) + (bb.size : Int)) > 200) = false := by simpa using hs
        have d1' : decide ((200 : Int) < wrap64 (wrap64 ((nm.size : Int) + (salt.size : Int)) + (bb.size : Int))) = false := by simpa using hs
        have H30 := Lib.hid h30
        have C0 := Lib.hid c0
        have C1 := Lib.hid c1
        have C3 := Lib.hid c3
        clear hil hs h30 c0 c1 c2 c3
        go_wp2_with fail
        have c0 := C0.out
        have c1 := C1.out
        have c3 := C3.out
        go_quiet (fail)
        rename_i nq
        have HQ := Lib.hid (below_drewN HW.out nq)
        go_wp2_with fail
        go_roundw
        case rel => exact ⟨i + 1, by omega, by go_num, .inr H30.out, HQ.out⟩
        case measure => simp [intOf]; omega
    · have Hfin := Lib.hid (show decide (30 < (n : Int)) = false → notMany l from fun h => by
        have h' : n ≤ 30 := by simp at h; omega
        exact (by rw [← HN.out]; exact h' : l.length ≤ 30))
      have hg : ¬ i < n ∨ (i < n ∧ ¬ (n : Int) ≤ 30) := by
        by_cases h : i < n
        · exact .inr ⟨h, fun h2 => hlt ⟨h, by omega⟩⟩
        · exact .inl h
      clear hlt
      rcases hg with g1 | ⟨g1, g2⟩
      all_goals
        go_wp2_with fail
        go_ret
        first | exact ⟨true, rfl, nofun, HW.out⟩ | exact ⟨_, rfl, Hfin.out, HW.out⟩
end Go.Proofs.YtifcpklaenbclaaGreatDoor
