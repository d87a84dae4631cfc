/-
  Contracts of keyholeref02: spread, words.
-/
import Derived.Test.YtkeeejkijbaooaaDoorR02
import Derived.Test.YtkeeejkijbaooaaDoorSha3
namespace Go.Proofs.YtkeeejkijbaooaaDoor
open Go.RowKit
set_option linter.unusedVariables false
set_option maxRecDepth 100000
set_option maxHeartbeats 1000000

theorem wTo_take (l : List Int) (h : l.length = 16) (k : Nat) (hk : k < 48) : (wTo l (k + 1)).take (16 + (k + 1)) = (wTo l k).take (16 + k) ++ [wNext (wTo l k) (16 + k)] := by
  have hl := wTo_len l h k
  rw [wTo, show 16 + (k + 1) = 16 + k + 1 by omega]
  rw [List.take_succ_eq_append_getElem (by rw [List.length_set, hl]; omega)]
  rw [List.take_set_of_le (by omega), List.getElem_set_self]
theorem get_take {l : List Int} {i n : Nat} (h : i < n) : (l.take n).getD i 0 = l.getD i 0 := by
  rw [List.getD_eq_getElem?_getD, List.getElem?_take_of_lt h, List.getD_eq_getElem?_getD]
theorem new_two (w : World) (o : Obj) (o2 : Obj) : ((w.alloc o).alloc o2).drew.heap[w.heap.size + 1]? = some o2 := by
  have := heap_alloc_new (w.alloc o) o2
  rw [show (w.alloc o).heap.size = w.heap.size + 1 by simp] at this
  exact this
theorem spread2 (s : ByteArray) (w : World) (hs : s.size = 64) :
    Calls Tryd.prog 94 #[.string s] w fun e w' => ∃ g cap, e = .returned (.slice (some ⟨g, 0, none⟩) 64 cap) ∧ w'.ownsRow w.heap.size 3 1 (.slice (some ⟨g, 0, none⟩) 64 cap) 64 (ints (wTo (cutL s.data.toList true 16) 48)) ∧ Below w.heap.size w w' := by
  obtain ⟨i0, hi0, hz0, hz1, hz2⟩ := info_parts (int_info)
  have HI := Lib.hid hi0
  have HZ0 := Lib.hid hz0
  have HZ1 := Lib.hid hz1
  have HZ2 := Lib.hid hz2
  have Hs := Lib.hid hs
  clear hs hi0 hz0 hz1 hz2
  go_enter Tryd.func94, Tryd.ntmps94
  go_wp2_with fail
  refine (cut1 s true 16 _ Hs.out (by rw [Hs.out]; decide)).mono ?_
  rintro e w1 ⟨B, cap, rfl, ho1, hb1⟩
  have Hl : Hid ((cutL s.data.toList true 16).length = 16) := Lib.hid (by simp [cutL])
  have Hwd := Lib.hid (cutL_words s.data.toList true 16)
  generalize hle' : cutL s.data.toList true 16 = l at ho1 Hl Hwd
  have Hle' := Lib.hid hle'
  clear hle'
  have HO := Lib.hid ho1
  have HW := Lib.hid hb1
  clear ho1 hb1
  go_wp2_with fail
  go_loopw [3, 5] (fun v x wr => ∃ (k cap : Nat) (B : Option Addr), k ≤ 48 ∧ x = .int .i64 ((16 + k : Nat) : Int) ∧ v = .slice B (16 + k) cap ∧ wr.ownsRow w.heap.size 3 1 v (16 + k) (ints ((wTo l k).take (16 + k))) ∧ Below w.heap.size w wr) (fun _ x _ => 64 - (intOf x).toNat)
  case atStart =>
    refine ⟨0, cap, B, by omega, rfl, rfl, ?_, HW.out⟩
    have := HO.out
    rw [show (wTo l 0).take (16 + 0) = l by rw [wTo, List.take_append_of_le_length (by rw [Hl.out]; decide), List.take_of_length_le (by rw [Hl.out]; decide)]]
    exact this
  case round =>
    obtain ⟨k, cap, B, hk, rfl, rfl, ho, hW⟩ := hrel
    clear HO HW
    have HO := Lib.hid ho
    have HW := Lib.hid hW
    have hlen := wTo_len l Hl.out k
    have hwd := wTo_wd l Hwd.out k
    obtain ⟨g, off, hB⟩ : ∃ g off, B = some ⟨g, off, none⟩ := by
      have hr := own_rd ho
      obtain ⟨b, off, hA, _⟩ := hr.int_at (i := 0) (by rw [List.length_take, hlen]; omega)
      exact ⟨b, off, hA⟩
    subst hB
    have hr := own_rd ho
    obtain rfl : off = 0 := by
      rcases ho.2 with ⟨hv, _⟩ | ⟨g1, cap1, cur, hv, hb, _⟩
      · cases hv
      · injection hv with hv; injection hv with hv; injection hv with _ hv
    by_cases hlt : k < 48
    · obtain ⟨j, hj⟩ : ∃ j, j = 16 + k := ⟨_, rfl⟩
      have cell : ∀ i, i < 16 + k → wr.cell? ⟨g, i, none⟩ = some (.int .i64 ((wTo l k).getD i 0)) := fun i hi => by
        obtain ⟨b, off, hA, hc⟩ := hr.int_at (i := i) (by rw [List.length_take, hlen]; omega)
        injection hA with hA
        injection hA with h1 h2
        subst h1 h2
        rw [get_take hi, Nat.zero_add] at hc
        exact hc
      obtain ⟨a16, h16⟩ : ∃ a, a = j - 16 := ⟨_, rfl⟩
      obtain ⟨a15, h15⟩ : ∃ a, a = j - 15 := ⟨_, rfl⟩
      obtain ⟨a7, h7⟩ : ∃ a, a = j - 7 := ⟨_, rfl⟩
      obtain ⟨a2, h2⟩ : ∃ a, a = j - 2 := ⟨_, rfl⟩
      have c16 := cell a16 (by omega)
      have c15 := cell a15 (by omega)
      have c7 := cell a7 (by omega)
      have c2 := cell a2 (by omega)
      have Hstep := Lib.hid (show (wTo l (k + 1)).take (16 + (k + 1)) = (wTo l k).take (16 + k) ++ [addI [(wTo l k).getD a16 0, s0I ((wTo l k).getD a15 0), (wTo l k).getD a7 0, s1I ((wTo l k).getD a2 0)]] by
        rw [wTo_take l Hl.out k hlt, wNext, ← hj, ← h16, ← h15, ← h7, ← h2])
      have W16 := Lib.hid (wd_get hwd a16)
      have W15 := Lib.hid (wd_get hwd a15)
      have W7 := Lib.hid (wd_get hwd a7)
      have W2 := Lib.hid (wd_get hwd a2)
      generalize (wTo l k).getD a16 0 = x16 at c16 Hstep W16
      generalize (wTo l k).getD a15 0 = x15 at c15 Hstep W15
      generalize (wTo l k).getD a7 0 = x7 at c7 Hstep W7
      generalize (wTo l k).getD a2 0 = x2 at c2 Hstep W2
      rw [← hj]
      rw [← hj] at HO
      have b16 : (j : Int) - 16 = (a16 : Int) := by omega
      have b15 : (j : Int) - 15 = (a15 : Int) := by omega
      have b7 : (j : Int) - 7 = (a7 : Int) := by omega
      have b2 : (j : Int) - 2 = (a2 : Int) := by omega
      have d16 : (a16 : Int) < (j : Int) := by omega
      have d15 : (a15 : Int) < (j : Int) := by omega
      have d7 : (a7 : Int) < (j : Int) := by omega
      have d2 : (a2 : Int) < (j : Int) := by omega
      have dj : (j : Int) < 64 := by omega
      have hj16 : 16 ≤ j := by omega
      have Hj := Lib.hid hj
      have glt := cell_lt c16
      have hne : g ≠ wr.heap.size := by simp only at glt; omega
      clear ho hW hlen hwd hr cell h16 h15 h7 h2 hj
      go_wp2_with (first
        | ((go_at_call 100; refine (back2 _ _ _ (by first | exact W15.out | exact W2.out) (by omega) (by omega)).mono ?_); rintro e w' ⟨rfl, rfl⟩)
        | ((go_at_call 112; refine (fall2 _ _ _ (by first | exact W15.out | exact W2.out) (by omega) (by omega)).mono ?_); rintro e w' ⟨rfl, rfl⟩)
        | ((go_at_call 98; refine (three2 _ _ _ _ (by first | exact wd_rot _ W15.out | exact wd_rot _ W2.out) (by first | exact wd_rot _ W15.out | exact wd_rot _ W2.out) (by first | exact wd_fall _ W15.out | exact wd_fall _ W2.out)).mono ?_); rintro e w' ⟨rfl, rfl⟩))
      have e16 : IntKind.i64.wrap ((j : Int) - 16) = (a16 : Int) := by rw [IntWalk.i64_in _ (by omega)]; exact b16
      have e7 : IntKind.i64.wrap ((j : Int) - 7) = (a7 : Int) := by rw [IntWalk.i64_in _ (by omega)]; exact b7
      clear b16 b15 b7 b2 c15 c2 d15 d2
      go_region_law
        (first
          | (go_simp; (go_at_call 99; refine (add2 _ _ _ [x16, s0I x15, x7, s1I x2] _ (by exact rd_new' _ _ _ _ (by simp)) rfl (by simp) (by exact wd4 W16.out (wd_s0 W15.out) W7.out (wd_s1 W2.out))).mono ?_); rintro e w' ⟨rfl, rfl⟩)
          | (refine step_append_lies _ (by rfl) _ _ 71 (by rfl) w.heap.size 3 i0 (.int .i64 0) 1 8 Tryd.underlying71 HI.out HZ0.out HZ1.out HZ2.out rfl (by omega) (.slice (some ⟨g, 0, none⟩) j cap) j _ (by rfl) (by exact ((HO.out.alloc _).alloc _).drew) ⟨wr.heap.size + 1, 0, none⟩ 1 1 [.int .i64 (addI [x16, s0I x15, x7, s1I x2])] (by rfl) (by rfl) (World.news_of_block (cs := #[.int .i64 (addI [x16, s0I x15, x7, s1I x2])]) (t := 3) (fr := (0, 0)) (new_two _ _ _)) (by simp [Value.oneCell']) (by omega) (by unfold maxLen; omega) (by omega) (by have := HW.out.size; simp; omega) (wr.heap.size + 1 + 1) (by simp) ?_; intro gg cap2 w3 hown3 hgrow hat hlt3))
      all_goals
        have HO3 := Lib.hid hown3
        have HB3 := Lib.hid (((HW.out.alloc HW.out.size _).alloc (by have := HW.out.size; simp; omega) _).drew.trans (gb_below_own hgrow (((HO.out.alloc _).alloc _).drew) (by have := HW.out.size; simp; omega)))
        clear hown3 hgrow hat hlt3
        go_wp2_with fail
        go_roundw
        case rel =>
          refine ⟨k + 1, cap2, some ⟨gg, 0, none⟩, by omega, by rw [Hj.out]; go_num, by rw [Hj.out]; rfl, ?_, HB3.out⟩
          rw [Hstep.out]
          have := HO3.out
          rw [Hj.out] at this ⊢
          rw [show ints ((wTo l k).take (16 + k) ++ [addI [x16, s0I x15, x7, s1I x2]]) = ints ((wTo l k).take (16 + k)) ++ [.int .i64 (addI [x16, s0I x15, x7, s1I x2])] by simp [ints]]
          exact this
        case measure => have := Hj.out; simp [intOf]; omega
    · obtain rfl : k = 48 := by omega
      rw [List.take_of_length_le (by rw [hlen]; decide)] at HO
      clear ho hW hlen hwd hr
      go_wp2_with fail
      go_ret
      exact ⟨g, cap, rfl, by rw [Hle'.out]; exact HO.out, HW.out⟩
theorem words2 (w : World) : Calls Tryd.prog 95 #[] w fun e w' => e = .returned (.slice (some ⟨w.heap.size, 0, none⟩) 64 64) ∧ w' = w.alloc (.cells (ints roundsT).toArray 3) := by
  go_enter Tryd.func95, Tryd.ntmps95
  go_wp2_with fail
  go_ret
  exact ⟨rfl, rfl⟩
end Go.Proofs.YtkeeejkijbaooaaDoor
