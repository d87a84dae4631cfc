/-
  Contracts of keyholeref27.seen, Block, Frame, Shares, Volume and of view.Volume, keyholeref16.Big, keyholeref09.Big.
-/
import Derived.Test.YtidnlginjjgmjaaRef09
import Derived.Test.YtidnlginjjgmjaaViews
import Derived.Test.YtidnlginjjgmjaaTxt
namespace Go.Proofs.Ytidnlginjjgmjaa
open Go.RowKit
set_option linter.unusedVariables false
set_option maxRecDepth 100000
set_option maxHeartbeats 2000000

theorem own_weak {w : World} {B B' : Nat} {e : TypeId} {size : Nat} {v : Value} {n : Nat} {xs : List Value} (h : w.ownsRow B e size v n xs) (hb : B' ≤ B) : w.ownsRow B' e size v n xs := by
  refine ⟨h.1, ?_⟩
  rcases h.2 with h | ⟨g, cap, cur, hv, hB, hg, hr⟩
  · exact .inl h
  · exact .inr ⟨g, cap, cur, hv, Nat.le_trans hb hB, hg, hr⟩
theorem seen27 (n : Nat) (s : ByteArray) (w : World) (hn : n ≤ 1000) (hs : s.size ≤ 100000) :
    Calls Try.prog 32 #[.string s, .int .i64 (n : Int)] w fun e w' => e = .returned (.string (bs (frontL n s.data.toList))) ∧ Below w.heap.size w w' := by
  by_cases h : s.size ≤ n
  · have Hf := Lib.hid (show frontL n s.data.toList = s.data.toList by rw [frontL, if_pos (by rw [len_data]; exact h)])
    have d1 : decide ((s.size : Int) ≤ (n : Int)) = true := by simp; omega
    go_enter Try.func32, Try.ntmps32
    go_wp2_with fail
    go_ret
    exact ⟨by rw [Hf.out]; rfl, Below.refl _ _⟩
  · have Hf := Lib.hid (show frontL n s.data.toList = s.data.toList.take n ++ List.replicate (s.size - n) 0 by rw [frontL, if_neg (by rw [len_data]; exact h), len_data])
    have d1 : decide (s.size ≤ n) = false := by simp; omega
    obtain ⟨c, hc⟩ : ∃ c, c = s.size - n := ⟨_, rfl⟩
    have hce : (s.size : Int) - (n : Int) = (c : Int) := by omega
    have hcb : c ≤ 100000 := by omega
    have hns : (n : Int) ≤ (s.size : Int) := by omega
    obtain ⟨y1, hy1e⟩ : ∃ y1 : ByteArray, y1 = bs (List.replicate c 0) := ⟨_, rfl⟩
    have hy1 : y1.size = c := by rw [hy1e, bs_size]; simp
    have hx1 : (s.extract 0 n).size = n := by rw [ByteArray.size_extract]; omega
    have Hy1 := Lib.hid hy1e
    have HC : Hid (∀ y : Later w, Calls Try.prog 28 #[.int .u8 0, .int .i64 (c : Int)] y.x fun e w' => e = .returned (.string y1) ∧ ∃ z : Later w, w' = z.x) :=
      Lib.hid fun y => later_call (hy1e ▸ many_any 0 c y.x (by omega))
    rw [← hc] at Hf
    clear hc h hy1e
    go_enter Try.func32, Try.ntmps32
    go_wp2_with fail
    refine wp_region_later (by kernel_rfl) (by kernel_rfl) ?_
    repeat (go_big_quiet_step (exact HC.out _))
    refine wpQuiet_nil ?_
    rintro _ ⟨y, rfl⟩
    go_wp2_with fail
    go_ret
    refine ⟨?_, y.ok⟩
    rw [Hf.out]
    have e : s.extract 0 n ++ y1 = bs (s.data.toList.take n ++ List.replicate c 0) := by
      rw [Hy1.out, ← bs_app, extract_bs]
      rfl
    exact congrArg (fun z => Ending.returned (.string z)) e
theorem block27 (s : ByteArray) (w : World) (hs : s.size ≤ 100000) : Calls Try.prog 17 #[.string s] w fun e w' => e = .returned (.string (bs (frontL 12 s.data.toList))) ∧ Below w.heap.size w w' := by
  go_enter Try.func17, Try.ntmps17
  go_wp2_with fail
  refine (seen27 12 s _ (by omega) hs).mono ?_
  rintro e w1 ⟨rfl, hb⟩
  go_wp2_with fail
  go_ret
  exact ⟨rfl, hb⟩
theorem frame27 (s : ByteArray) (w : World) (hs : s.size ≤ 100000) : Calls Try.prog 18 #[.string s] w fun e w' => e = .returned (.string (bs (frontL 8 s.data.toList))) ∧ Below w.heap.size w w' := by
  go_enter Try.func18, Try.ntmps18
  go_wp2_with fail
  refine (seen27 8 s _ (by omega) hs).mono ?_
  rintro e w1 ⟨rfl, hb⟩
  go_wp2_with fail
  go_ret
  exact ⟨rfl, hb⟩

/-- Behind the choice there are no more places. -/
theorem hasPos_out (ws : List Bool) (n : Nat) : ∀ i, ws.length ≤ i → hasPos ws (i + n) = hasPos ws i := by
  induction n with
  | zero => intro i _; rfl
  | succ n ih =>
    intro i h
    rw [← Nat.add_assoc, hasPos_succ, if_neg (by simp [show ws.length ≤ i + n by omega]), List.append_nil, ih i h]

theorem shares27 (l : List Shr) (ws : List Bool) (A A2 : Option Addr) (n c n2 c2 : Nat) (w : World) (hr : Rd w A (sharesV l)) (hn : n = l.length) (hl : l.length ≤ 1000) (hr2 : Rd w A2 (bools ws)) (hn2 : n2 = ws.length) (hl2 : ws.length ≤ 1000) :
    Calls Try.prog 22 #[.slice A n c, .slice A2 n2 c2] w fun e w' => ∃ B cap, e = .returned (.slice B (hasPos ws n).length cap) ∧ w'.ownsRow w.heap.size 45 2 (.slice B (hasPos ws n).length cap) (hasPos ws n).length (sharesV (gets l (hasPos ws n))) ∧ Below w.heap.size w w' := by
  have HR := Lib.hid hr
  have HR2 := Lib.hid hr2
  have HN := Lib.hid hn
  have HN2 := Lib.hid hn2
  have hnl : n ≤ 1000 := by omega
  have hnl2 : n2 ≤ 1000 := by omega
  clear hr hr2 hn hn2
  go_enter Try.func22, Try.ntmps22
  go_wp2_with fail
  go_loopw [5, 6] (fun v x wr => ∃ (i cap : Nat) (B : Option Addr), i ≤ n ∧ i ≤ n2 ∧ x = .int .i64 (i : Nat) ∧ v = .slice B (hasPos ws i).length cap ∧ wr.ownsRow w.heap.size 45 2 v (hasPos ws i).length (sharesV (gets l (hasPos ws i))) ∧ Below w.heap.size w wr) (fun _ x _ => n - (intOf x).toNat)
  case atStart => exact ⟨0, 0, none, by omega, by omega, rfl, rfl, ⟨rfl, .inl ⟨rfl, rfl⟩⟩, Below.refl _ _⟩
  case round =>
    obtain ⟨i, cap, B, hi, hi2, rfl, rfl, ho, hW⟩ := hrel
    have HO := Lib.hid ho
    have HW := Lib.hid hW
    by_cases hlt : i < n
    · have e1 : decide ((i : Int) < (n : Int)) = true := by simp; omega
      by_cases hlt2 : i < n2
      · have e2 : decide ((i : Int) < (n2 : Int)) = true := by simp; omega
        have hil : i < l.length := by rw [← HN.out]; exact hlt
        have hiw : i < ws.length := by rw [← HN2.out]; exact hlt2
        obtain ⟨b, off, hA, c1, c2'⟩ := (HR.out.below hW).shr hil
        obtain ⟨b2, off2, hA2, c3⟩ := (HR2.out.below hW) i (.bool (ws.getD i false)) (by simp [bools, hiw])
        subst hA hA2
        have Hsn := Lib.hid (hasPos_succ ws i)
        have Hgs := Lib.hid (gets_snoc l (hasPos ws i) i hil)
        have hpl := hasPos_len ws i
        generalize hasPos ws i = ps at HO Hsn Hgs hpl
        generalize l[i] = p at c1 c2' Hgs
        obtain ⟨x, bb⟩ := p
        simp only at c1 c2'
        have hp2 : ps.length ≤ 1000 := by omega
        clear ho hW
        by_cases hh : ws.getD i false = true
        · rw [if_pos hh] at Hsn
          rw [hh] at c3
          clear hh
          go_wp2_with (at_builtin; refine wpList_append_new (by rfl) (.tmp 23) (.tmp 28) 27 (by rfl) w.heap.size 45 (.agg #[.int .i64 0, .string ⟨#[]⟩]) 2 24 Try.underlying27 share_info rfl (by omega) wr _ _ _ _ _ (by rfl) HO.out _ 1 1 (by rfl) (by simp) (by rfl) (by rfl) (by omega) (by omega) (by omega) (by exact HW.out.size) ?_)
          intro g2 cap2 w3 ho3 hb3 _ _ _
          have HO3 := Lib.hid ho3
          have HW3 := Lib.hid (HW.out.trans hb3)
          clear ho3 hb3
          go_wp2_with fail
          go_roundw
          case rel =>
            refine ⟨i + 1, cap2, some ⟨g2, 0, none⟩, by omega, by omega, by go_num, by rw [Hsn.out]; simp, ?_, HW3.out⟩
            rw [Hsn.out, Hgs.out, sharesV_append]
            simp only [List.length_append, List.length_cons, List.length_nil]
            exact HO3.out
          case measure => simp [intOf]; omega
        · rw [if_neg hh, List.append_nil] at Hsn
          rw [show ws.getD i false = false by simpa using hh] at c3
          clear hh
          go_wp2_with fail
          go_roundw
          case rel => exact ⟨i + 1, cap, B, by omega, by omega, by go_num, by rw [Hsn.out], by rw [Hsn.out]; exact HO.out, HW.out⟩
          case measure => simp [intOf]; omega
      · have e2 : decide ((i : Int) < (n2 : Int)) = false := by simp; omega
        have he : hasPos ws n = hasPos ws i := by
          have := hasPos_out ws (n - i) i (by rw [← HN2.out]; omega)
          rwa [show i + (n - i) = n by omega] at this
        have He := Lib.hid he
        clear ho hW he
        go_wp2_with fail
        go_ret
        exact ⟨B, cap, by rw [He.out]; rfl, by rw [He.out]; exact HO.out, HW.out⟩
    · obtain rfl : i = n := by omega
      have e1 : decide ((i : Int) < (i : Int)) = false := by simp
      clear ho hW
      go_wp2_with fail
      go_ret
      exact ⟨B, cap, rfl, HO.out, HW.out⟩

/-- What is seen of blocks. -/
def blocksSeen (l : List ByteArray) : List ByteArray := l.map fun s => bs (frontL 12 s.data.toList)
theorem blocksSeen_snoc (l : List ByteArray) (i : Nat) (h : i < l.length) : blocksSeen (l.take (i + 1)) = blocksSeen (l.take i) ++ [bs (frontL 12 (l[i]).data.toList)] := by
  rw [blocksSeen, List.take_succ_eq_append_getElem h, List.map_append]
  rfl
theorem blocksSeen_len (l : List ByteArray) (i : Nat) (h : i ≤ l.length) : (blocksSeen (l.take i)).length = i := by simp [blocksSeen, h]
theorem blocksSeen_len' (l : List ByteArray) : (blocksSeen l).length = l.length := by simp [blocksSeen]
theorem volume27 (l : List ByteArray) (rt : ByteArray) (A : Option Addr) (n c : Nat) (w : World) (hr : Rd w A (textsV l)) (hn : n = l.length) (hl : l.length ≤ 1000) (hs : ∀ s ∈ l, s.size ≤ 100000) :
    Calls Try.prog 21 #[.agg #[.slice A n c, .string rt]] w fun e w' => ∃ B cap, e = .returned (.slice B n cap) ∧ w'.ownsRow w.heap.size 9 1 (.slice B n cap) n (textsV (blocksSeen l)) ∧ Below w.heap.size w w' := by
  have HR := Lib.hid hr
  have HN := Lib.hid hn
  have HS := Lib.hid hs
  have hnl : n ≤ 1000 := by omega
  clear hr hn hs
  go_enter Try.func21, Try.ntmps21
  go_wp2_with fail
  have HC0 := Lib.hid (two_cells (heap_alloc_new w (.cells #[.slice A n c, .string rt] 38))).1
  have HB0 := Lib.hid ((Below.refl w.heap.size w).alloc (Nat.le_refl _) (.cells #[.slice A n c, .string rt] 38))
  generalize hw0 : w.alloc (.cells #[.slice A n c, .string rt] 38) = w0 at HC0 HB0 ⊢
  clear hw0
  go_loopw [3, 4] (fun v x wr => ∃ (i cap : Nat) (B : Option Addr), i ≤ n ∧ x = .int .i64 (i : Nat) ∧ v = .slice B i cap ∧ wr.ownsRow w0.heap.size 9 1 v i (textsV (blocksSeen (l.take i))) ∧ Below w0.heap.size w0 wr) (fun _ x _ => n - (intOf x).toNat)
  case atStart => exact ⟨0, 0, none, by omega, rfl, rfl, ⟨rfl, .inl ⟨rfl, rfl⟩⟩, Below.refl _ _⟩
  case round =>
    obtain ⟨i, cap, B, hi, rfl, rfl, ho, hW⟩ := hrel
    have HO := Lib.hid ho
    have HW := Lib.hid hW
    have c0 := (hW.cell (cell_lt HC0.out)).trans HC0.out
    by_cases hlt : i < n
    · have hil : i < l.length := by rw [← HN.out]; exact hlt
      obtain ⟨b, off, hA, c1⟩ := texts_at ((HR.out.below HB0.out).below hW) hil
      subst hA
      have Hsz := Lib.hid (HS.out _ (List.getElem_mem hil))
      have Hsn := Lib.hid (blocksSeen_snoc l i hil)
      generalize l[i] = x at c1 Hsz Hsn
      have hi1 : (i : Int) < (n : Int) := by omega
      clear ho hW
      go_wp2_with fail
      refine (block27 x _ Hsz.out).mono ?_
      rintro e w2 ⟨rfl, hb2⟩
      have HO2 := Lib.hid (own_keep HO.out hb2)
      have HW2 := Lib.hid (Below.chain HW.out hb2)
      generalize bs (frontL 12 x.data.toList) = y at Hsn ⊢
      clear hb2 c0 c1
      go_wp2_with (at_builtin; refine wpList_append_new (by rfl) (.tmp 12) (.tmp 19) 36 (by rfl) w0.heap.size 9 (.string ⟨#[]⟩) 1 16 Try.underlying36 string_info rfl (by omega) w2 _ _ _ _ _ (by rfl) HO2.out _ 1 1 (by rfl) (by rfl) (by rfl) (by rfl) (by omega) (by omega) (by omega) (by exact HW2.out.size) ?_)
      intro g2 cap2 w3 ho3 hb3 _ _ _
      have HO3 := Lib.hid ho3
      have HW3 := Lib.hid (HW2.out.trans hb3)
      clear ho3 hb3
      go_wp2_with fail
      go_roundw
      case rel => exact ⟨i + 1, cap2, some ⟨g2, 0, none⟩, by omega, by go_num, rfl, by rw [Hsn.out, textsV_append]; exact HO3.out, HW3.out⟩
      case measure => simp [intOf]; omega
    · obtain rfl : i = n := by omega
      have Hall := Lib.hid (show l.take i = l by rw [HN.out, List.take_of_length_le (Nat.le_refl _)])
      rw [Hall.out] at HO
      have HOw := Lib.hid (own_weak HO.out HB0.out.size)
      clear ho hW
      go_wp2_with fail
      go_ret
      exact ⟨B, cap, rfl, HOw.out, Below.chain HB0.out HW.out⟩
theorem vseen_any (l : List ByteArray) (A : Option Addr) (n c : Nat) (w : World) (hr : Rd w A (textsV l)) (hn : n = l.length) (hl : l.length ≤ 1000) (hs : ∀ s ∈ l, s.size ≤ 100000) :
    Calls Try.prog 33 #[.slice A n c, .func (.func 29) #[.int .i64 12] #[]] w fun e w' => ∃ B cap, e = .returned (.slice B n cap) ∧ w'.ownsRow w.heap.size 9 1 (.slice B n cap) n (textsV (blocksSeen l)) ∧ Below w.heap.size w w' := by
  have HR := Lib.hid hr
  have HN := Lib.hid hn
  have HS := Lib.hid hs
  have hnl : n ≤ 1000 := by omega
  clear hr hn hs
  go_enter Try.func33, Try.ntmps33
  go_wp2_with fail
  go_loopw [5, 7, 10] (fun v u x wr => ∃ (i cap : Nat) (B : Option Addr), i ≤ n ∧ x = .int .i64 (i : Nat) ∧ v = .slice B i cap ∧ wr.ownsRow w.heap.size 9 1 v i (textsV (blocksSeen (l.take i))) ∧ Below w.heap.size w wr) (fun _ _ x _ => n - (intOf x).toNat)
  case atStart => exact ⟨0, 0, none, by omega, rfl, rfl, ⟨rfl, .inl ⟨rfl, rfl⟩⟩, Below.refl _ _⟩
  case round =>
    obtain ⟨i, cap, B, hi, rfl, rfl, ho, hW⟩ := hrel
    have HO := Lib.hid ho
    have HW := Lib.hid hW
    by_cases hlt : i < n
    · have hil : i < l.length := by rw [← HN.out]; exact hlt
      obtain ⟨b, off, hA, c1⟩ := texts_at (HR.out.below hW) hil
      subst hA
      have Hsz := Lib.hid (HS.out _ (List.getElem_mem hil))
      have Hsn := Lib.hid (blocksSeen_snoc l i hil)
      generalize l[i] = x at c1 Hsz Hsn
      have hi1 : (i : Int) < (n : Int) := by omega
      clear ho hW
      go_wp2_with fail
      refine (of_any 12 x _ (by omega) (by have := Hsz.out; omega)).mono ?_
      rintro e w2 ⟨rfl, hb2⟩
      have HO2 := Lib.hid (own_keep HO.out hb2)
      have HW2 := Lib.hid (Below.chain HW.out hb2)
      generalize bs (frontL 12 x.data.toList) = y at Hsn ⊢
      clear hb2 c1
      go_wp2_with (at_builtin; refine wpList_append_new (by rfl) (.tmp 14) (.tmp 18) 36 (by rfl) w.heap.size 9 (.string ⟨#[]⟩) 1 16 Try.underlying36 string_info rfl (by omega) w2 _ _ _ _ _ (by rfl) HO2.out _ 1 1 (by rfl) (by rfl) (by rfl) (by rfl) (by omega) (by omega) (by omega) (by exact HW2.out.size) ?_)
      intro g2 cap2 w3 ho3 hb3 _ _ _
      have HO3 := Lib.hid ho3
      have HW3 := Lib.hid (HW2.out.trans hb3)
      clear ho3 hb3
      go_wp2_with fail
      go_roundw
      case rel => exact ⟨i + 1, cap2, some ⟨g2, 0, none⟩, by omega, by go_num, rfl, by rw [Hsn.out, textsV_append]; exact HO3.out, HW3.out⟩
      case measure => simp [intOf]; omega
    · obtain rfl : i = n := by omega
      have Hall := Lib.hid (show l.take i = l by rw [HN.out, List.take_of_length_le (Nat.le_refl _)])
      rw [Hall.out] at HO
      clear ho hW
      go_wp2_with fail
      go_ret
      exact ⟨B, cap, rfl, HO.out, HW.out⟩
theorem vvolume_any (l : List ByteArray) (rt : ByteArray) (A : Option Addr) (n c : Nat) (w : World) (hr : Rd w A (textsV l)) (hn : n = l.length) (hl : l.length ≤ 1000) (hs : ∀ s ∈ l, s.size ≤ 100000) :
    Calls Try.prog 20 #[.agg #[.slice A n c, .string rt]] w fun e w' => ∃ B cap, e = .returned (.slice B n cap) ∧ w'.ownsRow w.heap.size 9 1 (.slice B n cap) n (textsV (blocksSeen l)) ∧ Below w.heap.size w w' := by
  have HR := Lib.hid hr
  have HN := Lib.hid hn
  have HS := Lib.hid hs
  clear hr hn hs
  have HB0 := Lib.hid ((Below.refl w.heap.size w).alloc (Nat.le_refl _) (.cells #[.slice A n c, .string rt] 38))
  go_enter Try.func20, Try.ntmps20
  go_wp2_with fail
  refine (vseen_any l A n c _ (HR.out.below HB0.out) HN.out hl HS.out).mono ?_
  rintro e w2 ⟨B, cap, rfl, ho, hb⟩
  have HO := Lib.hid (own_weak ho HB0.out.size)
  have HB := Lib.hid (Below.chain HB0.out hb)
  clear ho hb
  go_wp2_with fail
  go_ret
  exact ⟨B, cap, rfl, HO.out, HB.out⟩
end Go.Proofs.Ytidnlginjjgmjaa
