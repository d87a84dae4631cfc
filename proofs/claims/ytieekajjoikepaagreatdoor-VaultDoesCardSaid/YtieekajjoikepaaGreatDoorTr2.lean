/-
  Contracts of tree: rowsOf, rows.root, Root.
-/
import Derived.Test.YtieekajjoikepaaGreatDoorTr
import Derived.Deep.Cut
namespace Go.Proofs.YtieekajjoikepaaGreatDoor
open Go.RowKit
set_option linter.unusedVariables false
set_option linter.unusedSimpArgs false
set_option maxRecDepth 100000
set_option maxHeartbeats 2000000

/-- How many rows a box has. -/
def sumsN (W : World) (g : Nat) : Nat :=
  match W.heap[g]? with
  | some (Obj.cells cs _ _) => match cs[1]? with
    | some (Value.slice _ m _) => m
    | _ => 0
  | _ => 0
theorem sumsN_box {W : World} {g : Nat} {u : Value} {X : Option Addr} {m cap : Nat} {t : TypeId} (h : W.heap[g]? = some (.cells #[u, .slice X m cap] t (0, 0))) : sumsN W g = m := by
  unfold sumsN
  rw [h]
  rfl
/-- What rowsOf hands back: rows, from the leaves to the root. -/
def RowsR (w : World) (A : Option Addr) (n c : Nat) (l : List ByteArray) (H : Nat) (e : Ending) (w' : World) : Prop :=
  ∃ X cap svs, e = .returned (.agg #[.slice A n c, .slice X (H + 1) cap]) ∧ svs.length = H + 1 ∧ Rd w' X svs ∧ (∀ k, k ≤ H → ∃ sv, svs[k]? = some sv ∧ LevB w' sv (lev l k)) ∧ Below w.heap.size w w'
theorem load_rows {w : World} {g : Nat} {a b : Value} {t : TypeId} (h : w.heap[g]? = some (.cells #[a, b] t (0, 0))) : (loadVar 120 ⟨g, 0, none⟩).run Tryz.prog w = .ok (.agg #[a, b]) w := by
  have := run_loadVar_mid (P := Tryz.prog) w g 0 120 [a, b] _ (fun j v hj => by
    rw [Nat.zero_add, cell_of_row w g j _ _ _ h]
    simpa using hj) Tryz.underlying120 rfl (by kernel_rfl)
  simpa using this
theorem lev_pow {l : List ByteArray} {H h : Nat} (hl : l.length = 2 ^ H) (hh : h ≤ H) : (lev l h).length = 2 ^ (H - h) := by rw [lev_len, hl, Nat.pow_div hh (by omega)]
theorem rowsOf_any (A : Option Addr) (n c : Nat) (l : List ByteArray) (H : Nat) (w : World) (hr : Rd w A (textsV l)) (hn : n = l.length) (hl : l.length = 2 ^ H) (hH : H ≤ 10) (hz : ∀ s ∈ l, s.size ≤ 1000000) (hR : Rounds w) :
    Calls Tryz.prog 87 #[.slice A n c] w (RowsR w A n c l H) := by
  have HRd := Lib.hid hr
  have HN := Lib.hid hn
  have HR := Lib.hid hR
  have HZ := Lib.hid hz
  have HL := Lib.hid hl
  have hn1024 : n ≤ 1024 := by
    rw [hn, hl]
    exact Nat.le_trans (Nat.pow_le_pow_right (by omega) hH) (by decide)
  obtain ⟨iS, hS0, hS1, hS2, hS3⟩ := info_parts string_info
  have HB0 := Lib.hid ((Below.refl w.heap.size w).alloc (Nat.le_refl _) (.cells #[.slice none 0 0, .slice none 0 0] 120))
  have HR0 := Lib.hid (heap_alloc_new w (.cells #[.slice none 0 0, .slice none 0 0] 120))
  clear hr hn hR hz hl
  go_enter Tryz.func87, Tryz.ntmps87
  go_wp2_with (refine wpList_make_own _ (by rfl) (.const (.int .i64 0)) (.tmp 8) 22 (by rfl) (w.heap.size + 1) 9 iS (.string ⟨#[]⟩) 1 Tryz.underlying22 hS0 hS1 hS2 .i64 .i64 _ n (by rfl) (by rfl) (by first | rfl | omega) (by rw [hS3]; omega) (by unfold maxLen; omega) (by simp) ?_)
  intro w2 ho2 hg2
  have HO2 := Lib.hid ho2
  have Hb2 := Lib.hid (HB0.out.grown hg2 (by simp) (fun k e => by cases e))
  have Hres := Lib.hid ((hg2.block w.heap.size (by simp) (by simp)).trans HR0.out)
  clear ho2 hg2 HB0 HR0
  go_wp2_with fail
  go_loopw [3, 12] (fun v x wr => ∃ (i gN cN : Nat), i ≤ n ∧ x = .int .i64 (i : Nat) ∧ v = .slice (some ⟨gN, 0, none⟩) i cN ∧ wr.ownsRow (w.heap.size + 1) 9 1 (.slice (some ⟨gN, 0, none⟩) i cN) i (textsV ((l.take i).map leafT)) ∧ wr.heap[w.heap.size]? = some (.cells #[.slice none 0 0, .slice none 0 0] 120 (0, 0)) ∧ Below w.heap.size w wr) (fun _ x _ => n - (intOf x).toNat)
  case atStart => exact ⟨0, _, _, by omega, rfl, rfl, HO2.out, Hres.out, Hb2.out⟩
  case round =>
    clear HO2 Hb2 Hres
    obtain ⟨i, gN, cN, hi, rfl, rfl, ho, hres, hb⟩ := hrel
    have HO := Lib.hid ho
    have Hres := Lib.hid hres
    have Hb := Lib.hid hb
    clear ho hres hb
    by_cases hlt : i < n
    · have e1 : decide ((i : Int) < (n : Int)) = true := by simp; omega
      have hil : i < l.length := by rw [← HN.out]; exact hlt
      obtain ⟨bA, oA, hbA, c1⟩ := texts_at (HRd.out.below Hb.out) hil
      subst hbA
      have Hsn := Lib.hid (show (l.take (i + 1)).map leafT = (l.take i).map leafT ++ [leafT l[i]] by rw [List.take_succ_eq_append_getElem hil, List.map_append]; rfl)
      have z1 := HZ.out _ (List.getElem_mem hil)
      generalize l[i] = ta at c1 Hsn z1
      have HLf := Lib.hid (fun W h => leaf_any ta W h z1)
      generalize leafT ta = nd at HLf Hsn
      generalize (l.take i).map leafT = ps at HO Hsn
      clear hil z1
      go_wp2_with fail
      refine (HLf.out _ (HR.out.below Hb.out)).mono ?_
      rintro e w3 ⟨rfl, hb3⟩
      have HO3 := Lib.hid (own_keep HO.out hb3)
      have Hres3 := Lib.hid (cells_below Hres.out hb3)
      have Hb3 := Lib.hid (Hb.out.trans (hb3.mono Hb.out.size))
      have hlt3 := cell_lt_of Hres3.out
      clear hb3 c1
      go_wp2_with (at_builtin; refine wpList_append_new (by rfl) (.tmp 16) (.tmp 19) 22 (by rfl) (w.heap.size + 1) 9 (.string ⟨#[]⟩) 1 16 Tryz.underlying22 string_info rfl (by omega) w3 #[.string nd] 9 (.slice (some ⟨gN, 0, none⟩) i cN) i (textsV ps) (by rfl) HO3.out w3.heap.size 1 1 (by rfl) (by rfl) (by rfl) (by rfl) (by omega) (by omega) (by omega) (by omega) ?_)
      intro g4 cap4 w4 ho4 hb4 _ _ _
      have HO4 := Lib.hid ho4
      have Hres4 := Lib.hid ((hb4.block w.heap.size (by omega)).trans Hres3.out)
      have Hb4 := Lib.hid (Hb3.out.trans (hb4.mono (by omega)))
      clear ho4 hb4
      go_wp2_with fail
      go_roundw
      case rel =>
        refine ⟨i + 1, g4, cap4, by omega, by go_num, rfl, ?_, Hres4.out, Hb4.out⟩
        rw [Hsn.out, textsV_append]
        exact HO4.out
      case measure => (simp [intOf]; omega)
    · obtain rfl : i = n := by omega
      have e1 : decide ((i : Int) < (i : Int)) = false := by simp
      rw [HN.out, List.take_of_length_le (Nat.le_refl _), ← HN.out] at HO
      have Lv0 := Lib.hid (show LevB wr (.slice (some ⟨gN, 0, none⟩) i cN) (lev l 0) from lev_of_own HO.out (by show i = (l.map leafT).length; rw [List.length_map]; exact HN.out))
      have hltr := cell_lt_of Hres.out
      have al1 := (Below.refl wr.heap.size wr).alloc (Nat.le_refl _) (.cells #[.slice (some ⟨gN, 0, none⟩) i cN] 22)
      have own1 := own_new (w := wr) (B := w.heap.size + 1) (e := 22) (size := 1) (n := 1) (cs := #[.slice (some ⟨gN, 0, none⟩) i cN]) (by omega) rfl (by decide)
      have al2 := al1.alloc (by simp) (.cells #[.slice A i c, .slice (some ⟨wr.heap.size, 0, none⟩) 1 1] 120)
      have box2 := heap_alloc_new (wr.alloc (.cells #[.slice (some ⟨gN, 0, none⟩) i cN] 22)) (.cells #[.slice A i c, .slice (some ⟨wr.heap.size, 0, none⟩) 1 1] 120)
      rw [World.size_alloc] at box2
      have Rows0 : Hid (RowsB ((wr.alloc (.cells #[.slice (some ⟨gN, 0, none⟩) i cN] 22)).alloc (.cells #[.slice A i c, .slice (some ⟨wr.heap.size, 0, none⟩) 1 1] 120)) (w.heap.size + 1) (wr.heap.size + 1) A i c l 0 (some ⟨wr.heap.size, 0, none⟩) 1 [.slice (some ⟨gN, 0, none⟩) i cN]) := Lib.hid ⟨box2, own1.alloc _, fun k hk => by
        obtain rfl : k = 0 := by omega
        exact ⟨_, rfl, Lv0.out.below al2⟩⟩
      have Res0 := Lib.hid (cells_below Hres.out al2)
      have Hb0 := Lib.hid (Hb.out.trans (al2.mono Hb.out.size))
      obtain ⟨G, hG⟩ : ∃ G, G = wr.heap.size + 1 := ⟨_, rfl⟩
      rw [← hG] at Rows0
      have HG := Lib.hid hG
      have hGB : w.heap.size + 1 ≤ G := by omega
      clear al1 own1 al2 box2 Lv0 HO Hb Hres hG
      go_wp2_with fail
      rw [← HG.out]
      go_loopw [26] (fun _ wx => ∃ (h : Nat) (X : Option Addr) (cap : Nat) (svs : List Value), h ≤ H ∧ RowsB wx (w.heap.size + 1) G A i c l h X cap svs ∧ wx.heap[w.heap.size]? = some (.cells #[.slice none 0 0, .slice none 0 0] 120 (0, 0)) ∧ Below w.heap.size w wx) (fun _ wx => H + 2 - sumsN wx G)
      case atStart => exact ⟨0, _, _, _, by omega, Rows0.out, Res0.out, Hb0.out⟩
      case round =>
        clear Rows0 Res0 Hb0
        obtain ⟨h, X, cap, svs, hh, hrows, hres, hb⟩ := hrel
        have Rw := Lib.hid hrows
        have Rw0 := Lib.hid hrows.box
        have Res := Lib.hid hres
        have Hb := Lib.hid hb
        obtain ⟨sv, hsv, b, off, nt, ct, cs, rfl, hbk, hnt, hrd⟩ := hrows.lev h (Nat.le_refl _)
        have HTop := Lib.hid (top_any G A i c X (h + 1) cap h svs b off nt ct wr hrows.box (own_rd hrows.own) rfl (by omega) hsv)
        have hp := lev_pow HL.out hh
        have hp2 : (lev l h).length ≤ 100000 := by
          rw [hp]
          exact Nat.le_trans (Nat.pow_le_pow_right (by omega) (by omega : H - h ≤ 10)) (by decide)
        rw [← hnt] at hp
        clear hrows hres hb hsv hbk hnt hrd
        by_cases hlt : h < H
        · have hn2 : 1 < nt := by rw [hp]; exact Nat.one_lt_two_pow (by omega)
          have e1 : decide ((nt : Int) > 1) = true := decide_eq_true (by omega)
          clear hp
          go_wp2_with fail
          refine (HTop.out).mono ?_
          rintro e w3 ⟨rfl, hb3⟩
          replace Rw := Lib.hid (Rw.out.below hb3)
          replace Res := Lib.hid (cells_below Res.out hb3)
          replace Hb := Lib.hid (Hb.out.trans (hb3.mono Hb.out.size))
          clear hb3 HTop
          go_wp2_with fail
          refine (rise_any (w.heap.size + 1) G A i c l h X cap svs w3 Rw.out hGB (by omega) hp2 (HR.out.below Hb.out)).mono ?_
          rintro e w4 ⟨rfl, ⟨hb4, hs4⟩, X', cap', svs', hr'⟩
          have Rw4 := Lib.hid hr'
          have Res4 := Lib.hid ((hb4.block w.heap.size (by omega)).trans Res.out)
          have Hb4 := Lib.hid (Hb.out.trans (hb4.mono (by omega)))
          clear hr' hb4 hs4
          go_wp2_with fail
          go_roundw
          case rel => exact ⟨h + 1, X', cap', svs', by omega, Rw4.out, Res4.out, Hb4.out⟩
          case measure =>
            rw [sumsN_box Rw4.out.box, sumsN_box Rw0.out]
            omega
        · obtain rfl : h = H := by omega
          have hn1 : nt = 1 := by rw [hp, Nat.sub_self]
          have e1 : decide ((nt : Int) > 1) = false := decide_eq_false (by omega)
          clear hp hn1
          go_wp2_with fail
          refine (HTop.out).mono ?_
          rintro e w3 ⟨rfl, hb3⟩
          replace Rw := Lib.hid (Rw.out.below hb3)
          replace Res := Lib.hid (cells_below Res.out hb3)
          replace Hb := Lib.hid (Hb.out.trans (hb3.mono Hb.out.size))
          clear hb3 HTop Rw0
          have x0 := rf_at Rw.out.box 0 _ rfl
          have x1 := rf_at Rw.out.box 1 _ rfl
          have y0 := rf_at Res.out 0 _ rfl
          have y1 := rf_at Res.out 1 _ rfl
          have f0 := rf_fr Res.out 0
          have f1 := rf_fr Res.out 1
          have s0 := blk_set Res.out 0 (.slice A i c)
          simp only [List.setIfInBounds_toArray, List.set_cons_zero, List.set_cons_succ] at s0
          have S0 := Lib.hid s0
          have s1 := blk_set s0 1 (.slice X (h + 1) cap)
          simp only [List.setIfInBounds_toArray, List.set_cons_zero, List.set_cons_succ] at s1
          have S1 := Lib.hid s1
          clear s0 s1
          go_wp2_with fail
          refine bodyPost_ret (res_cell1 rfl _ _ w.heap.size (by rfl) _ (load_rows S1.out)) rfl ?_
          refine ⟨X, cap, svs, rfl, by have := Rw.out.own.1; omega, own_rd (own_set_rows (own_set_rows Rw.out.own Res.out _) S0.out _), fun k hk => ?_, ((Hb.out.setCell (p := ⟨w.heap.size, 0, none⟩) (Nat.le_refl _) _).setCell (p := ⟨w.heap.size, 1, none⟩) (Nat.le_refl _) _)⟩
          obtain ⟨sv, h1, h2⟩ := Rw.out.lev k hk
          exact ⟨sv, h1, (h2.set Res.out _).set S0.out _⟩
theorem root_any (g : Nat) (A : Option Addr) (n c : Nat) (X : Option Addr) (cap : Nat) (l : List ByteArray) (H : Nat) (svs : List Value) (w : World) (hX : w.heap[g]? = some (.cells #[.slice A n c, .slice X (H + 1) cap] 120 (0, 0))) (hr : Rd w X svs) (hH : H ≤ 10)
    (hlev : ∀ k, k ≤ H → ∃ sv, svs[k]? = some sv ∧ LevB w sv (lev l k)) (hl : l.length = 2 ^ H) :
    Calls Tryz.prog 88 #[.pointer (some ⟨g, 0, none⟩)] w fun e w' => e = .returned (.string (rootH l H)) ∧ Below w.heap.size w w' := by
  obtain ⟨sv, hsv, b, off, nt, ct, cs, rfl, hbk, hnt, hrd⟩ := hlev H (Nat.le_refl _)
  have HTop := Lib.hid (top_any g A n c X (H + 1) cap H svs b off nt ct w hX hr rfl (by omega) hsv)
  have hn1 : nt = 1 := by rw [hnt]; exact lev_top hl
  rw [rootH_is hl] at hrd
  have HRd := Lib.hid hrd
  subst hn1
  clear hX hr hlev hsv hbk hnt hrd
  go_enter Tryz.func88, Tryz.ntmps88
  go_wp2_with fail
  refine (HTop.out).mono ?_
  rintro e w3 ⟨rfl, hb3⟩
  obtain ⟨b', off', e0, c1⟩ := texts_at (i := 0) (HRd.out.below hb3) (by simp)
  injection e0 with e0
  injection e0 with t1 t2
  subst t1 t2
  have c2 : w3.cell? ⟨b, off, none⟩ = some (.string (rootH l H)) := c1
  go_wp2_with fail
  go_ret
  exact ⟨rfl, hb3⟩
/-- Root: the error's number, and the root. -/
def rootsE (l : List ByteArray) : Nat := if mayB l.length = true then 0 else 1
def rootsS (l : List ByteArray) : ByteArray := if mayB l.length = true then rootT l else ⟨#[]⟩
theorem troot_any (A : Option Addr) (n c : Nat) (l : List ByteArray) (w : World) (hr : Rd w A (textsV l)) (hn : n = l.length) (hm : n ≤ 9223372036854775807) (hz : ∀ s ∈ l, s.size ≤ 1000000) (hR : Rounds w) :
    Calls Tryz.prog 62 #[.slice A n c] w fun e w' => e = .returned (.tuple #[.string (rootsS l), .int .i64 (rootsE l : Nat)]) ∧ Below w.heap.size w w' := by
  have HM := Lib.hid (fun W => may_any n W hm)
  rw [hn] at HM
  rw [← hn] at HM
  cases hmb : mayB l.length with
  | false =>
    have HE := Lib.hid (show rootsE l = 1 ∧ rootsS l = ⟨#[]⟩ by unfold rootsE rootsS; rw [hmb]; exact ⟨rfl, rfl⟩)
    rw [HE.out.1, HE.out.2]
    rw [hn, hmb, ← hn] at HM
    clear hr hn hm hz hR hmb HE
    go_enter Tryz.func62, Tryz.ntmps62
    go_wp2_with fail
    refine (HM.out _).mono ?_
    rintro e w1 ⟨rfl, rfl⟩
    go_wp2_with fail
    go_ret2
    exact ⟨rfl, Below.refl _ _⟩
  | true =>
    obtain ⟨H, hH, hl⟩ := may_pow hmb
    have HE := Lib.hid (show rootsE l = 0 ∧ rootsS l = rootH l H by unfold rootsE rootsS; rw [hmb, ← rootT_is hl]; exact ⟨rfl, rfl⟩)
    rw [HE.out.1, HE.out.2]
    rw [hn, hmb, ← hn] at HM
    have HRo := Lib.hid (rowsOf_any A n c l H w hr hn hl hH hz hR)
    have HL := Lib.hid hl
    clear hr hn hm hz hR hmb HE hl
    go_enter Tryz.func62, Tryz.ntmps62
    go_wp2_with fail
    refine (HM.out _).mono ?_
    rintro e w1 ⟨rfl, rfl⟩
    go_wp2_with fail
    refine (HRo.out).mono ?_
    rintro e w2 ⟨X, cap, svs, rfl, hsl, hrd, hlev, hb⟩
    have al := (Below.refl w2.heap.size w2).alloc (Nat.le_refl _) (.cells #[.slice A n c, .slice X (H + 1) cap] 120)
    have HRt := Lib.hid (root_any w2.heap.size A n c X cap l H svs _ (heap_alloc_new w2 (.cells #[.slice A n c, .slice X (H + 1) cap] 120)) (hrd.below al) hH (fun k hk => by obtain ⟨sv, h1, h2⟩ := hlev k hk; exact ⟨sv, h1, h2.below al⟩) HL.out)
    have Hb := Lib.hid (hb.trans (al.mono hb.size))
    clear hrd hlev hb al HRo
    go_wp2_with fail
    refine (HRt.out).mono ?_
    rintro e w3 ⟨rfl, hb3⟩
    go_wp2_with fail
    go_ret2
    exact ⟨rfl, Hb.out.trans (hb3.mono Hb.out.size)⟩
end Go.Proofs.YtieekajjoikepaaGreatDoor
