/-
  Contracts of the document's Name, Check, Big (records), Many (answers), Same (shares).
  Contracts of the document's Check (records), Same (shares).
-/
import Derived.Test.YtgkihdhjafmnnaaGreatDoorMe
import Derived.Test.YtgkihdhjafmnnaaGreatDoorOv
import Derived.Laws.StructEq
import Derived.BigQuiet
import Derived.Test.YtgkihdhjafmnnaaGreatDoorRight
namespace Go.Proofs.YtgkihdhjafmnnaaGreatDoor
/- Ro -/
open Go.RowKit
set_option linter.unusedVariables false
set_option linter.unusedSimpArgs false
set_option maxRecDepth 100000
set_option maxHeartbeats 2000000

theorem name18_any (s : ByteArray) (w : World) (hs : s.size ≤ 9223372036854775807) :
    Calls Tryz.prog 43 #[.string s] w fun e w' => e = .returned (.bool (nameB s)) ∧ w' = w := by
  go_enter Tryz.func43, Tryz.ntmps43
  go_wp2_with fail
  go_loopw [3] (fun x wr => ∃ k : Nat, k ≤ s.size ∧ x = .int .i64 (k : Nat) ∧ (s.data.toList.take k).all okC = true ∧ wr = w) (fun x _ => s.size - (intOf x).toNat)
  case atStart => exact ⟨0, by omega, rfl, rfl, rfl⟩
  case round =>
    obtain ⟨k, hk, rfl, hall, rfl⟩ := hrel
    have Hall := Lib.hid hall
    clear hall
    by_cases hlt : k < s.size
    · have e1 : decide ((k : Int) < (s.size : Int)) = true := by simp; omega
      have Ht := Lib.hid (show s.data.toList.take (k + 1) = s.data.toList.take k ++ [s[k]] by rw [List.take_succ_eq_append_getElem (by rw [len_data]; exact hlt)]; rfl)
      have Hcp := Lib.hid (okC_parts s[k])
      by_cases p1 : (s[k].toNat : Int) < 97
      · have p2 : ¬ (122 : Int) < (s[k].toNat : Int) := by omega
        by_cases p3 : (s[k].toNat : Int) < 48
        · have Hc := Lib.hid (show okC s[k] = false by rw [Hcp.out]; simp; omega)
          have Hf := Lib.hid (show nameB s = false by rw [nameB, all_bad (l := s.data.toList) (i := k) (by rw [len_data]; exact hlt) Hc.out, Bool.and_false])
          go_wp2_with fail
          go_ret
          exact ⟨by rw [Hf.out]; rfl, rfl⟩
        · by_cases p4 : (57 : Int) < (s[k].toNat : Int)
          · have Hc := Lib.hid (show okC s[k] = false by rw [Hcp.out]; simp; omega)
            have Hf := Lib.hid (show nameB s = false by rw [nameB, all_bad (l := s.data.toList) (i := k) (by rw [len_data]; exact hlt) Hc.out, Bool.and_false])
            go_wp2_with fail
            go_ret
            exact ⟨by rw [Hf.out]; rfl, rfl⟩
          · have Hc := Lib.hid (show okC s[k] = true by rw [Hcp.out]; simp; omega)
            go_wp2_with fail
            go_roundw
            case rel => exact ⟨k + 1, by omega, by go_num, by rw [Ht.out, List.all_append, Hall.out, List.all_cons, Hc.out]; rfl, trivial⟩
            case measure => simp [intOf]; omega
      · have p3 : ¬ (s[k].toNat : Int) < 48 := by omega
        have p4 : (57 : Int) < (s[k].toNat : Int) := by omega
        by_cases p2 : (122 : Int) < (s[k].toNat : Int)
        · have Hc := Lib.hid (show okC s[k] = false by rw [Hcp.out]; simp; omega)
          have Hf := Lib.hid (show nameB s = false by rw [nameB, all_bad (l := s.data.toList) (i := k) (by rw [len_data]; exact hlt) Hc.out, Bool.and_false])
          go_wp2_with fail
          go_ret
          exact ⟨by rw [Hf.out]; rfl, rfl⟩
        · have Hc := Lib.hid (show okC s[k] = true by rw [Hcp.out]; simp; omega)
          go_wp2_with fail
          go_roundw
          case rel => exact ⟨k + 1, by omega, by go_num, by rw [Ht.out, List.all_append, Hall.out, List.all_cons, Hc.out]; rfl, trivial⟩
          case measure => simp [intOf]; omega
    · obtain rfl : k = s.size := by omega
      have e1 : decide ((s.size : Int) < (s.size : Int)) = false := by simp
      have Hf := Lib.hid (show s.data.toList.all okC = true by have h := Hall.out; rwa [List.take_of_length_le (by rw [len_data]; exact Nat.le_refl _)] at h)
      by_cases q1 : s.size ≥ 1
      · have d1 : decide ((s.size : Int) ≥ 1) = true := by simp; omega
        have d1' : decide ((1 : Int) ≤ (s.size : Int)) = true := by simp; omega
        have HE := Lib.hid (show nameB s = decide ((s.size : Int) ≤ 20) by
          rw [nameB, Hf.out, decide_eq_true q1]
          simp
          omega)
        clear q1
        go_wp2_with fail
        go_ret
        exact ⟨by rw [HE.out]; rfl, rfl⟩
      · have d1 : decide ((s.size : Int) ≥ 1) = false := by simp; omega
        have d1' : decide ((1 : Int) ≤ (s.size : Int)) = false := by simp; omega
        have HE := Lib.hid (show nameB s = false by simp [nameB]; omega)
        clear q1
        go_wp2_with fail
        go_ret
        exact ⟨by rw [HE.out]; rfl, rfl⟩
/-- Big: what is not big. -/
def notBig (r : Rec) : Prop := r.ns.length ≤ 30 ∧ r.ps.length ≤ 30 ∧ (∀ s ∈ r.ns, s.size ≤ 100) ∧ (∀ s ∈ r.ps, s.size ≤ 100)
theorem all_upto {l : List ByteArray} {n : Nat} (hn : n = l.length) (h : ∀ j (hj : j < l.length), j < n → l[j].size ≤ 100) : ∀ s ∈ l, s.size ≤ 100 := fun s hs => by
  obtain ⟨j, hj, rfl⟩ := List.mem_iff_getElem.1 hs
  exact h j hj (by omega)
def BigR (w : World) (r : Rec) (e : Ending) (w' : World) : Prop := ∃ b, e = .returned (.bool b) ∧ (b = false → notBig r) ∧ Below w.heap.size w w'
/-- Many: what is not many. -/
def notMany (l : List Ans) : Prop := l.length ≤ 30
def ManyR (w : World) (l : List Ans) (e : Ending) (w' : World) : Prop := ∃ b, e = .returned (.bool b) ∧ (b = false → notMany l) ∧ Below w.heap.size w w'
/- Ro2 -/
open Go.RowKit
set_option linter.unusedVariables false
set_option linter.unusedSimpArgs false
set_option maxRecDepth 100000
set_option maxHeartbeats 2000000

theorem check18_any (v : Value) (r : Rec) (w : World) (hv : RV w v r) (hs : ∀ s ∈ r.ns, s.size ≤ 9223372036854775807) :
    Calls Tryz.prog 19 #[v] w fun e w' => e = .returned (.bool (checkR r)) ∧ Below w.heap.size w w' := by
  obtain ⟨A, n, c, B, m, d, rfl, hA, hn, hB, hm⟩ := hv
  obtain ⟨ee, kk, ns, ps⟩ := r
  simp only at hA hn hB hm hs ⊢
  have HA := Lib.hid hA
  have HB := Lib.hid hB
  have HN := Lib.hid hn
  have HM := Lib.hid hm
  have HS := Lib.hid hs
  obtain ⟨rec, hrec⟩ : ∃ rec : Rec, rec = ⟨ee, kk, ns, ps⟩ := ⟨_, rfl⟩
  rw [← hrec]
  have Hns := Lib.hid (show rec.ns = ns by rw [hrec])
  have Hps := Lib.hid (show rec.ps = ps by rw [hrec])
  have hW := (Below.refl w.heap.size w).alloc (Nat.le_refl _) (.cells #[.int .i64 ee, .int .i64 kk, .slice A n c, .slice B m d] 44)
  have HW := Lib.hid hW
  have HH := Lib.hid (show headR rec = (decide (1 ≤ ee) && decide (ee ≤ 1000000) && decide (1 ≤ n) && decide (n ≤ 16) && decide (m = n) && decide (1 ≤ kk) && decide (kk ≤ n)) by rw [hrec, hm, hn]; rfl)
  have Hno := Lib.hid (show headR rec = false → checkR rec = false from fun h => by rw [checkR, h]; rfl)
  clear hA hn hB hm hW hrec hs
  by_cases q1 : ee < 1
  · have d1 : decide (ee < 1) = true := by simp; omega
    have Hf := Lib.hid (Hno.out (by rw [HH.out]; simp; omega))
    clear q1
    go_enter Tryz.func19, Tryz.ntmps19
    go_wp2_with fail
    go_ret
    exact ⟨by rw [Hf.out]; rfl, HW.out⟩
  have d1 : decide (ee < 1) = false := by simp; omega
  by_cases q2 : ee > 1000000
  · have d2 : decide (ee > 1000000) = true := by simp; omega
    have Hf := Lib.hid (Hno.out (by rw [HH.out]; simp; omega))
    clear q1 q2
    go_enter Tryz.func19, Tryz.ntmps19
    go_wp2_with fail
    go_ret
    exact ⟨by rw [Hf.out]; rfl, HW.out⟩
  have d2 : decide (ee > 1000000) = false := by simp; omega
  by_cases q3 : (n : Int) < 1
  · have d3 : decide ((n : Int) < 1) = true := by simp; omega
    have Hf := Lib.hid (Hno.out (by rw [HH.out]; simp; omega))
    clear q1 q2 q3
    go_enter Tryz.func19, Tryz.ntmps19
    go_wp2_with fail
    go_ret
    exact ⟨by rw [Hf.out]; rfl, HW.out⟩
  have d3 : decide ((n : Int) < 1) = false := by simp; omega
  by_cases q4 : (n : Int) > 16
  · have d4 : decide ((n : Int) > 16) = true := by simp; omega
    have Hf := Lib.hid (Hno.out (by rw [HH.out]; simp; omega))
    clear q1 q2 q3 q4
    go_enter Tryz.func19, Tryz.ntmps19
    go_wp2_with fail
    go_ret
    exact ⟨by rw [Hf.out]; rfl, HW.out⟩
  have d4 : decide ((n : Int) > 16) = false := by simp; omega
  by_cases q5 : ¬ (m : Int) = (n : Int)
  · have d5 : ((m : Int) != (n : Int)) = true := by simp; omega
    have Hf := Lib.hid (Hno.out (by rw [HH.out]; simp; omega))
    clear q1 q2 q3 q4 q5
    go_enter Tryz.func19, Tryz.ntmps19
    go_wp2_with fail
    go_ret
    exact ⟨by rw [Hf.out]; rfl, HW.out⟩
  have d5 : ((m : Int) != (n : Int)) = false := by simp; omega
  by_cases q6 : kk < 1
  · have d6 : decide (kk < 1) = true := by simp; omega
    have Hf := Lib.hid (Hno.out (by rw [HH.out]; simp; omega))
    clear q1 q2 q3 q4 q5 q6
    go_enter Tryz.func19, Tryz.ntmps19
    go_wp2_with fail
    go_ret
    exact ⟨by rw [Hf.out]; rfl, HW.out⟩
  have d6 : decide (kk < 1) = false := by simp; omega
  by_cases q7 : (n : Int) < kk
  · have d7 : decide ((n : Int) < kk) = true := by simp; omega
    have Hf := Lib.hid (Hno.out (by rw [HH.out]; simp; omega))
    clear q1 q2 q3 q4 q5 q6 q7
    go_enter Tryz.func19, Tryz.ntmps19
    go_wp2_with fail
    go_ret
    exact ⟨by rw [Hf.out]; rfl, HW.out⟩
  have d7 : decide ((n : Int) < kk) = false := by simp; omega
  have Hy := Lib.hid (show headR rec = true by rw [HH.out]; simp; omega)
  obtain rfl : m = n := by omega
  have hn16 : m ≤ 16 := by omega
  clear q1 q2 q3 q4 q5 q6 q7 HH Hno
  have hX := heap_alloc_new w (.cells #[.int .i64 ee, .int .i64 kk, .slice A m c, .slice B m d] 44)
  have HX := Lib.hid hX
  clear hX
  go_enter Tryz.func19, Tryz.ntmps19
  go_wp2_with fail
  go_loopw [4] (fun x wr => ∃ i : Nat, i ≤ m ∧ x = .int .i64 (i : Nat) ∧ (∀ j, j < i → okE rec j = true) ∧ wr.heap[w.heap.size]? = some (.cells #[.int .i64 ee, .int .i64 kk, .slice A m c, .slice B m d] 44 (0, 0)) ∧ Below w.heap.size w wr) (fun x _ => m - (intOf x).toNat)
  case atStart => exact ⟨0, by omega, rfl, fun j hj => by omega, HX.out, HW.out⟩
  case round =>
    obtain ⟨i, hi, rfl, hall, hX, hW⟩ := hrel
    have Hall := Lib.hid hall
    replace HX := Lib.hid hX
    replace HW := Lib.hid hW
    clear hall hX hW d1 d2 d3 d4 d5 d6 d7
    by_cases hlt : i < m
    · have e1 : decide ((i : Int) < (m : Int)) = true := by simp; omega
      have e1' : (i : Int) < (m : Int) := by omega
      have hin : i < ns.length := by rw [← HN.out]; exact hlt
      have hip : i < ps.length := by rw [← HM.out]; exact hlt
      have hirec : i < rec.ns.length := by rw [Hns.out]; exact hin
      obtain ⟨b, off, hbA, c1⟩ := texts_at (HA.out.below HW.out) hin
      obtain ⟨b2, off2, hbB, c2⟩ := texts_at (HB.out.below HW.out) hip
      have Hok := Lib.hid (show okE rec i = (nameB ns[i] && decide (ps[i].size = 32) && (decide (i = 0) || lessB (ns.getD (i - 1) noneT) ns[i])) by
        unfold okE
        rw [Hns.out, Hps.out, List.getD_eq_getElem?_getD, List.getD_eq_getElem?_getD, List.getElem?_eq_getElem hin, List.getElem?_eq_getElem hip]
        rfl)
      have Hbad := Lib.hid (check_bad (r := rec) i hirec)
      have Hnext := Lib.hid (show okE rec i = true → ∀ j, j < i + 1 → okE rec j = true from fun h j hj => by
        rcases Nat.lt_or_eq_of_le (Nat.le_of_lt_succ hj) with h2 | h2
        · exact Hall.out j h2
        · rw [h2]; exact h)
      subst hbA hbB
      have Hc3 := Lib.hid (show ∀ j, i = j + 1 → wr.cell? ⟨b, off + j, none⟩ = some (.string (ns.getD j noneT)) from fun j hj => by
        have hjn : j < ns.length := by omega
        obtain ⟨b', off', hbA', c3⟩ := texts_at (HA.out.below HW.out) hjn
        injection hbA' with h1
        injection h1 with h1 h2
        subst h1 h2
        rw [c3, List.getD_eq_getElem?_getD, List.getElem?_eq_getElem hjn]
        rfl)
      have Hsz := Lib.hid (HS.out _ (List.getElem_mem hin))
      generalize ns[i] = nm at c1 Hok Hsz
      generalize ps[i] = pl at c2 Hok
      have x2 := fun y : Later wr => y.cell (cell_in HX.out 2 _ rfl)
      have x3 := fun y : Later wr => y.cell (cell_in HX.out 3 _ rfl)
      have k1 := fun y : Later wr => y.cell c1
      have k2 := fun y : Later wr => y.cell c2
      clear hin hip hirec c1 c2
      have HNm := Lib.hid (fun y : Later wr => later_call (y := y) ((name18_any nm y.x Hsz.out).mono fun e w' ⟨he, hw⟩ => ⟨he, hw ▸ Below.refl _ _⟩))
      cases hnb : nameB nm with
      | false =>
        rw [hnb] at HNm
        have Hf := Lib.hid (Hbad.out (by rw [Hok.out, hnb]; rfl))
        clear hnb
        go_wp2_with fail
        refine wp_region_later (by kernel_rfl) (by kernel_rfl) ?_
        repeat (go_big_quiet_step (exact HNm.out _))
        refine wpQuiet_nil ?_
        rintro _ ⟨y, rfl⟩
        go_wp2_with fail
        go_ret
        exact ⟨by rw [Hf.out]; rfl, Below.chain HW.out y.ok⟩
      | true =>
        rw [hnb] at HNm
        by_cases h0 : i = 0
        · have d3 : ¬ 0 < i := by omega
          by_cases h32 : pl.size = 32
          · have d2 : ((pl.size : Int) != 32) = false := by simp; omega
            have Hx := Lib.hid (Hnext.out (by rw [Hok.out, hnb, h32, h0]; rfl))
            clear hnb h32 h0
            go_wp2_with fail
            refine wp_region_later (by kernel_rfl) (by kernel_rfl) ?_
            repeat (go_big_quiet_step (exact HNm.out _))
            refine wpQuiet_nil ?_
            rintro _ ⟨y, rfl⟩
            go_wp2_with fail
            go_roundw
            case rel => exact ⟨i + 1, by omega, by go_num, Hx.out, cells_below HX.out y.ok, Below.chain HW.out y.ok⟩
            case measure => simp [intOf]; omega
          · have d2 : ((pl.size : Int) != 32) = true := by simp; omega
            have Hf := Lib.hid (Hbad.out (by rw [Hok.out, decide_eq_false h32]; simp))
            clear hnb h32 h0
            go_wp2_with fail
            refine wp_region_later (by kernel_rfl) (by kernel_rfl) ?_
            repeat (go_big_quiet_step (exact HNm.out _))
            refine wpQuiet_nil ?_
            rintro _ ⟨y, rfl⟩
            go_wp2_with fail
            go_ret
            exact ⟨by rw [Hf.out]; rfl, Below.chain HW.out y.ok⟩
        · obtain ⟨j, rfl⟩ : ∃ j, i = j + 1 := ⟨i - 1, by omega⟩
          have d3 : 0 < j + 1 := by omega
          have hjm : (j : Int) < (m : Int) := by omega
          have c3 := Hc3.out j rfl
          have Hok2 := Lib.hid (show okE rec (j + 1) = (decide (pl.size = 32) && lessB (ns.getD j noneT) nm) by rw [Hok.out, hnb]; rfl)
          generalize ns.getD j noneT = pv at c3 Hok2
          have k3 := fun y : Later wr => y.cell c3
          clear c3
          cases hls : lessB pv nm with
          | false =>
            have hge : Op.bytesLess pv.toList nm.toList = false := hls
            have Hf := Lib.hid (Hbad.out (by rw [Hok2.out, hls, Bool.and_false]))
            clear hnb h0 hls
            go_wp2_with fail
            refine wp_region_later (by kernel_rfl) (by kernel_rfl) ?_
            repeat (go_big_quiet_step (exact HNm.out _))
            refine wpQuiet_nil ?_
            rintro _ ⟨y, rfl⟩
            go_wp2_with fail
            go_ret
            exact ⟨by rw [Hf.out]; rfl, Below.chain HW.out y.ok⟩
          | true =>
            have hge : Op.bytesLess pv.toList nm.toList = true := hls
            by_cases h32 : pl.size = 32
            · have d2 : ((pl.size : Int) != 32) = false := by simp; omega
              have Hx := Lib.hid (Hnext.out (by rw [Hok2.out, hls, h32]; rfl))
              clear hnb h32 h0 hls
              go_wp2_with fail
              refine wp_region_later (by kernel_rfl) (by kernel_rfl) ?_
              repeat (go_big_quiet_step (exact HNm.out _))
              refine wpQuiet_nil ?_
              rintro _ ⟨y, rfl⟩
              go_wp2_with fail
              go_roundw
              case rel => exact ⟨j + 1 + 1, by omega, by go_num, Hx.out, cells_below HX.out y.ok, Below.chain HW.out y.ok⟩
              case measure => simp [intOf]; omega
            · have d2 : ((pl.size : Int) != 32) = true := by simp; omega
              have Hf := Lib.hid (Hbad.out (by rw [Hok2.out, decide_eq_false h32]; rfl))
              clear hnb h32 h0 hls
              go_wp2_with fail
              refine wp_region_later (by kernel_rfl) (by kernel_rfl) ?_
              repeat (go_big_quiet_step (exact HNm.out _))
              refine wpQuiet_nil ?_
              rintro _ ⟨y, rfl⟩
              go_wp2_with fail
              go_ret
              exact ⟨by rw [Hf.out]; rfl, Below.chain HW.out y.ok⟩
    · obtain rfl : i = m := by omega
      have e1 : decide ((i : Int) < (i : Int)) = false := by simp
      have Hf := Lib.hid (check_all Hy.out (by rw [Hns.out, ← HN.out]; exact Hall.out))
      go_wp2_with fail
      go_ret
      exact ⟨by rw [Hf.out]; rfl, HW.out⟩
/-- Same, of shares. -/
theorem shr_of_take {l m : List Shr} (hl : l.length = m.length) (h : l.take l.length = m.take l.length) : l = m := by
  rw [List.take_of_length_le (Nat.le_refl _), hl, List.take_of_length_le (Nat.le_refl _)] at h
  exact h
theorem same09_any (l m : List Shr) (A A2 : Option Addr) (n c n2 c2 : Nat) (w : World) (hr : Rd w A (sharesV l)) (hr2 : Rd w A2 (sharesV m)) (hn : n = l.length) (hn2 : n2 = m.length) (hl : l.length ≤ 100000) :
    Calls Tryz.prog 38 #[.slice A n c, .slice A2 n2 c2] w fun e w' => e = .returned (.bool (decide (l = m))) ∧ Below w.heap.size w w' := by
  have HR := Lib.hid hr
  have HR2 := Lib.hid hr2
  have HN := Lib.hid hn
  have HN2 := Lib.hid hn2
  have hn1 : n ≤ 100000 := by omega
  by_cases hne : n = n2
  · have d1 : ((n : Int) != (n2 : Int)) = false := by simp; omega
    have Hne := Lib.hid hne
    clear hr hr2 hn hn2 hne
    go_enter Tryz.func38, Tryz.ntmps38
    go_wp2_with fail
    go_loopw [5] (fun x wr => ∃ i : Nat, i ≤ n ∧ x = .int .i64 (i : Nat) ∧ l.take i = m.take i ∧ Below w.heap.size w wr) (fun x _ => n - (intOf x).toNat)
    case atStart => exact ⟨0, by omega, rfl, by simp, Below.refl _ _⟩
    case round =>
      obtain ⟨i, hi, rfl, ht, hW⟩ := hrel
      have HT := Lib.hid ht
      clear ht
      by_cases hlt : i < n
      · have hil : i < l.length := by rw [← HN.out]; exact hlt
        have him : i < m.length := by rw [← HN2.out, ← Hne.out]; exact hlt
        obtain ⟨b, off, hA, p1, p2⟩ := (HR.out.below hW).shr hil
        obtain ⟨b2, off2, hA2, q1, q2⟩ := (HR2.out.below hW).shr him
        subst hA hA2
        have hi1 : (i : Int) < (n : Int) := by omega
        have hi2 : (i : Int) < (n2 : Int) := by have := Hne.out; omega
        have Hx := Lib.hid (show l.take (i + 1) = l.take i ++ [l[i]] from List.take_succ_eq_append_getElem hil)
        have Hy := Lib.hid (show m.take (i + 1) = m.take i ++ [m[i]] from List.take_succ_eq_append_getElem him)
        have Hlm := Lib.hid (show l[i] ≠ m[i] → l ≠ m from fun h e => by subst e; exact h rfl)
        generalize l[i] = u at p1 p2 Hx Hlm
        generalize m[i] = v at q1 q2 Hy Hlm
        obtain ⟨x, s⟩ := u
        obtain ⟨z, t⟩ := v
        simp only at p1 p2 q1 q2
        have P1 := Lib.hid p1
        have P2 := Lib.hid p2
        have Q1 := Lib.hid q1
        have Q2 := Lib.hid q2
        clear p1 p2 q1 q2 hil him
        by_cases hxz : x = z
        · obtain rfl := hxz
          by_cases hst : s = t
          · obtain rfl := hst
            have d2 : (s.toList == s.toList) = true := beq_self_eq_true _
            go_wp2_with fail
            have p1 := P1.out
            have p2 := P2.out
            have q1 := Q1.out
            have q2 := Q2.out
            go_quiet (fail)
            rename_i nq
            have HB := below_drewN hW nq
            go_wp2_with fail
            go_roundw
            case rel => exact ⟨i + 1, by omega, by go_num, by rw [Hx.out, Hy.out, HT.out], HB⟩
            case measure => simp [intOf]; omega
          · have d2 := text_ne' hst
            have Hf := Lib.hid (Hlm.out (fun e => hst (congrArg Prod.snd e)))
            clear hst
            go_wp2_with fail
            have p1 := P1.out
            have p2 := P2.out
            have q1 := Q1.out
            have q2 := Q2.out
            go_quiet (fail)
            rename_i nq
            have HB := below_drewN hW nq
            go_wp2_with fail
            go_ret
            exact ⟨by rw [decide_eq_false Hf.out]; rfl, HB⟩
        · have d2 : (x == z) = false := beq_eq_false_iff_ne.2 hxz
          have Hf := Lib.hid (Hlm.out (fun e => hxz (congrArg Prod.fst e)))
          clear hxz
          go_wp2_with fail
          have p1 := P1.out
          have p2 := P2.out
          have q1 := Q1.out
          have q2 := Q2.out
          go_quiet (fail)
          rename_i nq
          have HB := below_drewN hW nq
          go_wp2_with fail
          go_ret
          exact ⟨by rw [decide_eq_false Hf.out]; rfl, HB⟩
      · obtain rfl : i = n := by omega
        have h1 := HN.out
        have h2 := HN2.out
        have h3 := Hne.out
        have h4 := HT.out
        rw [h1] at h4
        have Hf := Lib.hid (shr_of_take (by omega) h4)
        clear h1 h2 h3 h4
        go_wp2_with fail
        go_ret
        exact ⟨by rw [decide_eq_true Hf.out]; rfl, hW⟩
  · have d1 : ((n : Int) != (n2 : Int)) = true := by simp; omega
    have Hlm := Lib.hid (show l ≠ m by intro e; subst e; omega)
    clear hr hr2 hn hn2 hne
    go_enter Tryz.func38, Tryz.ntmps38
    go_wp2_with fail
    go_ret
    exact ⟨by rw [decide_eq_false Hlm.out]; rfl, Below.refl _ _⟩

end Go.Proofs.YtgkihdhjafmnnaaGreatDoor
