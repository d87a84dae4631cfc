/-
  Contracts of change.copies and change.Settle.
  A disk appended to a row of disks of the call's own: every cell of the new block is a slice.
  Contract of change.Settle.
-/
import Derived.Test.YtkbjmmigjjdfpaaGreatDoorDk
import Derived.Test.YtkbjmmigjjdfpaaGreatDoorHq
import Derived.Test.YtkbjmmigjjdfpaaGreatDoorCopyA
import Derived.Test.YtkbjmmigjjdfpaaGreatDoorCc
import Derived.Maps.AppendAt
import Derived.Test.YtkbjmmigjjdfpaaGreatDoorHn
import Derived.Test.YtkbjmmigjjdfpaaGreatDoorPu
namespace Go.Proofs.YtkbjmmigjjdfpaaGreatDoor
/- ChS -/
open Go.RowKit
set_option linter.unusedVariables false
set_option linter.unusedSimpArgs false
set_option maxRecDepth 100000
set_option maxHeartbeats 8000000

theorem plat_info : (Tryz.prog.info? 68).map (fun i => (i.zero, i.size, i.bytes)) = some (some (.agg #[.slice none 0 0, .slice none 0 0]), 2, 48) := by kernel_rfl
def zDk : Dk := ⟨none, 0, 0, none, 0, 0, noPlat⟩
theorem zDk_ok (w : World) : zDk.ok w := ⟨rfl, rfl, Rd.nil _ _, Rd.nil _ _, Ty.of_none _ _, Ty.of_none _ _⟩
theorem dksV_zeros (n : Nat) : (madeCells #[.slice none 0 0, .slice none 0 0] (n * 2)).toList = dksV (List.replicate n zDk) := by
  apply List.ext_getElem?
  intro j
  by_cases hj : j < n * 2
  · have h1 : (List.replicate n zDk)[j / 2]? = some zDk := by rw [List.getElem?_replicate, if_pos (by omega)]
    obtain ⟨g0, g1⟩ := dksV_at _ (j / 2) zDk h1
    have hm : j % 2 = 0 ∨ j % 2 = 1 := by omega
    rcases hm with hm | hm
    · rw [show j / 2 * 2 = j by omega] at g0
      rw [g0]
      simp [madeCells, hj, hm, zDk]
    · rw [show j / 2 * 2 + 1 = j by omega] at g1
      rw [g1]
      simp [madeCells, hj, hm, zDk]
  · rw [List.getElem?_eq_none (by simp [madeCells]; omega), List.getElem?_eq_none (by rw [dksV_len]; simp; omega)]
/-- One cell of a row of disks is stored. -/
theorem OwnD.set1 {w : World} {B0 g n cap : Nat} {l l' : List Dk} (h : OwnD w B0 (some ⟨g, 0, none⟩) n cap l) (j : Nat) (u : Value) (hu : isSl u = true) (hl : dksV l' = (dksV l).set j u) (hlen : l'.length = l.length) (hok : ∀ x ∈ l', x.ok w) :
    OwnD (w.setCell ⟨g, j, none⟩ u) B0 (some ⟨g, 0, none⟩) n cap l' ∧ w.grownBy (w.setCell ⟨g, j, none⟩ u) (some g) := by
  obtain ⟨s1, g1⟩ := h.os.stored j u
  rw [← hl] at s1
  obtain ⟨cur, hc⟩ := own_cells h.os g rfl
  refine ⟨⟨by rw [hlen]; exact h.hn, s1, fun b off e k v hv => ?_, fun y hy => PB.grown (hok y hy) hc (by decide) (by decide) (h.sl g 0 rfl) g1⟩, g1⟩
  injection e with e
  injection e with e
  subst e
  rw [cell_of_row _ g k _ _ _ (heap_setCell_same w g j _ _ _ hc), Array.getElem?_setIfInBounds] at hv
  split at hv
  · split at hv
    · cases hv; exact hu
    · cases hv
  · refine h.sl g 0 rfl k v ?_
    rw [cell_of_row w g k _ _ _ hc]
    exact hv
theorem dksV_setA (l : List Dk) (i : Nat) (x : Dk) (h : i < l.length) (hB : x.B = l[i].B ∧ x.m = l[i].m ∧ x.d = l[i].d) : dksV (l.set i x) = (dksV l).set (i * 2) (.slice x.A x.n x.c) := by
  rw [← dksV_set l i x h]
  have h1 := (dksV_at l i l[i] (by simp [h])).2
  apply List.ext_getElem?
  intro j
  rw [List.getElem?_set]
  by_cases hj : i * 2 + 1 = j
  · subst hj
    rw [if_pos rfl, if_pos (by rw [List.length_set, dksV_len]; omega), List.getElem?_set_ne (by omega), h1, hB.1, hB.2.1, hB.2.2]
  · rw [if_neg hj]
theorem dksV_setB (l : List Dk) (i : Nat) (x : Dk) (h : i < l.length) (hA : x.A = l[i].A ∧ x.n = l[i].n ∧ x.c = l[i].c) : dksV (l.set i x) = (dksV l).set (i * 2 + 1) (.slice x.B x.m x.d) := by
  rw [← dksV_set l i x h]
  have h1 := (dksV_at l i l[i] (by simp [h])).1
  congr 1
  apply List.ext_getElem?
  intro j
  rw [List.getElem?_set]
  by_cases hj : i * 2 = j
  · subst hj
    rw [if_pos rfl, if_pos (by rw [dksV_len]; omega), h1, hA.1, hA.2.1, hA.2.2]
  · rw [if_neg hj]
/-- What is stored into a row of disks leaves every disk. -/
theorem OwnD.pb {w w' : World} {B0 g n cap : Nat} {l : List Dk} (h : OwnD w B0 (some ⟨g, 0, none⟩) n cap l) (hg : w.grownBy w' (some g)) {A B : Option Addr} {a m : Nat} {P : Plat} (hp : PB w A a B m P) : PB w' A a B m P := by
  obtain ⟨cur, hc⟩ := own_cells h.os g rfl
  exact PB.grown hp hc (by decide) (by decide) (h.sl g 0 rfl) hg
theorem gb_blk {w w' : World} {g b : Nat} {o : Obj} (hg : w.grownBy w' (some g)) (h : w.heap[b]? = some o) (hne : b ≠ g) : w'.heap[b]? = some o := by
  have hlt : b < w.heap.size := by
    rcases Nat.lt_or_ge b w.heap.size with h' | h'
    · exact h'
    · rw [Array.getElem?_eq_none h'] at h; cases h
  exact (hg.block b hlt (fun e => hne (Option.some.inj e))).trans h
theorem gb_by {w w' : World} {g B : Nat} (h : w.grownBy w' (some g)) (hB : B ≤ g) (hB2 : B ≤ w.heap.size) : Below B w w' :=
  ⟨h.os, h.tape, h.output, h.size, fun k hk => h.block k (by omega) (fun e => by injection e; omega)⟩
/-- Disks in a row of the call's own. -/
theorem copies_any (A : Option Addr) (n c : Nat) (l : List Dk) (w : World) (h : RdD w A l) (hn : n = l.length) (hn9 : n ≤ 100000) (hl : ∀ x ∈ l, x.n ≤ 1000000 ∧ x.m ≤ 1000000) :
    Calls Tryz.prog 22 #[.slice A n c] w fun e w' => ∃ l', e = .returned (.slice (some ⟨w.heap.size, 0, none⟩) n n) ∧ plats l' = plats l ∧ OwnD w' w.heap.size (some ⟨w.heap.size, 0, none⟩) n n l' ∧ Below w.heap.size w w' := by
  have H := Lib.hid h
  have HN := Lib.hid hn
  have HL := Lib.hid hl
  clear h hn hl
  obtain ⟨iP, hP0, hP1, hP2, hP3⟩ := info_parts plat_info
  go_enter Tryz.func22, Tryz.ntmps22
  go_wp2_with (refine wpList_make_full _ (by rfl) (.tmp 7) (.tmp 7) 36 (by rfl) w.heap.size 68 iP (.agg #[.slice none 0 0, .slice none 0 0]) 2 Tryz.underlying36 hP0 hP1 hP2 .i64 .i64 _ _ n (by rfl) (by rfl) rfl rfl (by rw [hP3]; omega) (by unfold maxLen; omega) (Nat.le_refl _) ?_)
  intro w1 ho1 hg1
  have ho1' : w1.ownsRow w.heap.size 68 2 (.slice (some ⟨w.heap.size, 0, none⟩) n n) n (dksV (List.replicate n zDk)) := by
    have := dksV_zeros n
    rw [← this]
    exact ho1
  have hO1 : OwnD w1 w.heap.size (some ⟨w.heap.size, 0, none⟩) n n (List.replicate n zDk) := by
    refine ⟨by simp, ho1', fun b off e j u hu => ?_, fun x hx => by rw [List.eq_of_mem_replicate hx]; exact zDk_ok _⟩
    injection e with e
    injection e with e
    subst e
    obtain ⟨cur, hc⟩ := own_cells ho1' w.heap.size rfl
    rcases ho1'.2 with ⟨h1, _⟩ | ⟨g', cap', cur', h1, _, h3, h4, _, h6, h7⟩
    · cases h1
    · injection h1 with h1 _ h1c
      injection h1 with h1
      injection h1 with h1
      subst h1 h1c
      rw [cell_of_row _ _ j _ _ _ h3] at hu
      have hm : u ∈ cur'.toList := Array.mem_toList_iff.2 (Array.mem_of_getElem? hu)
      rw [← List.take_of_length_le (l := cur'.toList) (i := n * 2) (by rw [Array.length_toList, h6]; exact Nat.le_refl _), h7] at hm
      exact dksV_sl _ u hm
  have HO := Lib.hid hO1
  have hb1 : Below w.heap.size w w1 := ⟨hg1.os, hg1.tape, hg1.output, hg1.size, fun k hk => hg1.block k hk (by simp)⟩
  have HB := Lib.hid hb1
  clear ho1 hg1 ho1' hO1 hb1
  go_wp2_with fail
  go_loopw [11] (fun x wr => ∃ (k : Nat) (lk : List Dk), k ≤ n ∧ x = .int .i64 (k : Nat) ∧ plats lk = (plats l).take k ++ List.replicate (n - k) noPlat ∧ OwnD wr w.heap.size (some ⟨w.heap.size, 0, none⟩) n n lk ∧ Below w.heap.size w wr ∧ (∀ j (hj : j < lk.length), k ≤ j → lk[j] = zDk)) (fun x _ => n - (intOf x).toNat)
  case atStart => exact ⟨0, List.replicate n zDk, by omega, rfl, by simp [plats, zDk], HO.out, HB.out, fun j hj _ => by simp⟩
  case round =>
    clear HO HB
    obtain ⟨k, lk, hk, rfl, hpl, hO, hB, hz⟩ := hrel
    have HO := Lib.hid hO
    have HB := Lib.hid hB
    have Hpl := Lib.hid hpl
    have Hz := Lib.hid hz
    have hlen : lk.length = n := hO.hn.symm
    have Hlen := Lib.hid hlen
    have hsz : w.heap.size < wr.heap.size := (hO.os.lt _ rfl).2
    clear hpl hO hB hz hlen
    by_cases hlt : k < n
    · have hil : k < l.length := by rw [← HN.out]; exact hlt
      have hikl : k < lk.length := by rw [Hlen.out]; exact hlt
      obtain ⟨b, off, hA, c0, c1⟩ := dk_at (H.out.below HB.out).rd hil
      subst hA
      have hok := (H.out.below HB.out).ok _ (List.getElem_mem hil)
      have hbd := HL.out _ (List.getElem_mem hil)
      have hpk : (plats l)[k]? = some l[k].P := by simp [plats, hil]
      generalize l[k] = x at c0 c1 hok hbd hpk
      obtain ⟨xA, xn, xc, xB, xm, xd, xP⟩ := x
      simp only at c0 c1 hbd hpk
      obtain ⟨hbn, hbm⟩ := hbd
      have hok' : PB wr xA xn xB xm xP := hok
      have e1 : (k : Int) < (n : Int) := by omega
      have hbx := (Below.refl wr.heap.size wr).alloc (Nat.le_refl _) (.cells #[.slice xA xn xc, .slice xB xm xd] 68)
      have HX := Lib.hid (heap_alloc_new wr (.cells #[.slice xA xn xc, .slice xB xm xd] 68))
      have HOa := Lib.hid (HO.out.below hbx)
      have HPx := Lib.hid (hok'.below hbx)
      have HBx := Lib.hid (HB.out.trans (hbx.mono HB.out.size))
      have Hpk := Lib.hid hpk
      have Hlk := Lib.hid (Hz.out k hikl (Nat.le_refl _))
      obtain ⟨u0, hu0⟩ : ∃ u, u = wr.alloc (.cells #[.slice xA xn xc, .slice xB xm xd] 68) := ⟨_, rfl⟩
      have Hu0 := Lib.hid hu0
      rw [← hu0] at HX HOa HPx HBx
      have hxs : wr.heap.size < u0.heap.size := cell_lt_of HX.out
      clear hok hok' hpk hbx hu0 hil
      go_upto_region 5 with fail
      rw [← Hu0.out]
      clear Hu0 c0 c1
      generalize hgx : wr.heap.size = gx at *
      clear hgx
      obtain ⟨x0, x1, _, _⟩ := two_cells HX.out
      go_wp2_with (at_builtin; refine wpList_append_copy (by rfl) _ _ 22 (by rfl) w.heap.size 9 (.string ⟨#[]⟩) 1 16 Tryz.underlying22 string_info rfl (by omega) (by rfl) xA xn xc (by rfl) (textsV xP.ss) (by exact HPx.out.rs) (by rw [textsV_len, ← HPx.out.hn, Nat.mul_one]) (textsV_one _) (by omega) (by omega) (by omega) ?_)
      intro A2 cap2 w2 ho2 hb2
      have HO2 := Lib.hid (HOa.out.below hb2)
      have HR2 := Lib.hid ho2
      replace HX := hblk_below HX hb2
      replace HPx := Lib.hid (HPx.out.below hb2)
      replace HBx := Lib.hid (HBx.out.trans (hb2.mono HBx.out.size))
      have hs2 : u0.heap.size ≤ w2.heap.size := hb2.size
      have p0 := HO2.out.os.cellAt (k * 2) (by omega)
      have p1 := HO2.out.os.frozenAt (k * 2)
      rw [(dksV_at lk k _ (List.getElem?_eq_getElem hikl)).1] at p0
      have hxk : (⟨A2, xn, cap2, none, 0, 0, ⟨xP.ss, []⟩⟩ : Dk).ok w2 := ⟨HPx.out.hn, rfl, own_rd ho2, Rd.nil _ _, own_ty ho2, Ty.of_none _ _⟩
      have hst := HO2.out.set1 (k * 2) (.slice A2 xn cap2) rfl (dksV_setA lk k ⟨A2, xn, cap2, none, 0, 0, ⟨xP.ss, []⟩⟩ hikl (by rw [Hlk.out]; exact ⟨rfl, rfl, rfl⟩)) (by rw [List.length_set]) (fun y hy => by
        rcases List.mem_or_eq_of_mem_set hy with hy | rfl
        · exact HO2.out.ok y hy
        · exact hxk)
      have HS := Lib.hid hst
      clear x0 x1 hb2 ho2 hxk hst
      generalize lk[k] = old at p0
      have hX3 := gb_blk HS.out.2 HX.out (show gx ≠ w.heap.size by omega)
      have hP3 := HO2.out.pb HS.out.2 HPx.out
      have hB3 := HBx.out.trans (gb_by HS.out.2 (Nat.le_refl _) (by omega))
      have hs3 : w2.heap.size ≤ (w2.setCell ⟨w.heap.size, k * 2, none⟩ (.slice A2 xn cap2)).heap.size := HS.out.2.size
      obtain ⟨u3, hu3⟩ : ∃ u, u = w2.setCell ⟨w.heap.size, k * 2, none⟩ (.slice A2 xn cap2) := ⟨_, rfl⟩
      have Hu3 := Lib.hid hu3
      rw [← hu3] at HS hX3 hP3 hB3 hs3
      have HX3 := Lib.hid hX3
      have HP3 := Lib.hid hP3
      have HB3 := Lib.hid hB3
      clear hX3 hP3 hB3 hu3
      go_upto_region 6 with fail
      rw [← Hu3.out]
      clear Hu3 p0 p1 HX HPx HBx HO2 HOa
      obtain ⟨x0, x1, _, _⟩ := two_cells HX3.out
      go_wp2_with (at_builtin; refine wpList_append_copy (by rfl) _ _ 66 (by rfl) w.heap.size 243 (.agg #[.int .i64 0, .string ⟨#[]⟩]) 2 24 Tryz.underlying66 put_info rfl (by omega) (by rfl) xB xm xd (by rfl) (putsV xP.cs) (by exact HP3.out.rc) (by rw [putsV_len, ← HP3.out.hm]) (putsV_one _) (by omega) (by omega) (by omega) ?_)
      intro B4 cap4 w4 ho4 hb4
      have HO4 := Lib.hid (HS.out.1.below hb4)
      have hs4 : u3.heap.size ≤ w4.heap.size := hb4.size
      have hikl2 : k < (lk.set k (⟨A2, xn, cap2, none, 0, 0, ⟨xP.ss, []⟩⟩ : Dk)).length := by rw [List.length_set]; exact hikl
      have p0 := HO4.out.os.cellAt (k * 2 + 1) (by omega)
      have p1 := HO4.out.os.frozenAt (k * 2 + 1)
      rw [(dksV_at _ k _ (List.getElem?_eq_getElem hikl2)).2] at p0
      have hck := HO4.out.ok _ (List.getElem_mem hikl2)
      have hek : (lk.set k (⟨A2, xn, cap2, none, 0, 0, ⟨xP.ss, []⟩⟩ : Dk))[k] = ⟨A2, xn, cap2, none, 0, 0, ⟨xP.ss, []⟩⟩ := by simp
      rw [hek] at hck p0
      have hxk : (⟨A2, xn, cap2, B4, xm, cap4, xP⟩ : Dk).ok w4 := ⟨HP3.out.hn, HP3.out.hm, hck.rs, own_rd ho4, hck.ta, own_ty ho4⟩
      have hst := HO4.out.set1 (k * 2 + 1) (.slice B4 xm cap4) rfl (dksV_setB _ k ⟨A2, xn, cap2, B4, xm, cap4, xP⟩ hikl2 (by rw [hek]; exact ⟨rfl, rfl, rfl⟩)) (by rw [List.length_set]) (fun y hy => by
        rcases List.mem_or_eq_of_mem_set hy with hy | rfl
        · exact HO4.out.ok y hy
        · exact hxk)
      have HS4 := Lib.hid hst
      have HB4 := Lib.hid ((HB3.out.trans (hb4.mono HB3.out.size)).trans (gb_by hst.2 (Nat.le_refl _) (by omega)))
      clear x0 x1 hb4 ho4 hxk hst hck
      go_wp2_with fail
      go_roundw
      case rel =>
        refine ⟨k + 1, _, by omega, by go_num, ?_, HS4.out.1, HB4.out, fun j hj hkj => ?_⟩
        · rw [plats_set, plats_set, Hpl.out, List.set_set]
          simp only
          have h1 : ((plats l).take k).length = k := by rw [List.length_take, plats_len, ← HN.out]; omega
          rw [List.set_append_right _ _ (by omega), h1, Nat.sub_self, show n - k = (n - (k + 1)) + 1 by omega, List.replicate_succ, List.set_cons_zero, List.take_add_one, Hpk.out]
          simp
        · rw [List.length_set, List.length_set] at hj
          rw [List.getElem_set_ne (by omega), List.getElem_set_ne (by omega)]
          exact Hz.out j hj (by omega)
      case measure => simp [intOf]; omega
    · obtain rfl : k = n := by omega
      go_wp2_with fail
      go_ret
      refine ⟨lk, rfl, ?_, HO.out, HB.out⟩
      rw [Hpl.out, Nat.sub_self, List.replicate_zero, List.append_nil, List.take_of_length_le (by rw [plats_len, ← HN.out]; exact Nat.le_refl _)]

/- DkA -/
open Go.RowKit
set_option linter.unusedVariables false
set_option maxRecDepth 100000

theorem zero_sl (k : Nat) : ∀ u ∈ (Builtin.zeroCells #[.slice none 0 0, .slice none 0 0] k), isSl u = true := by
  intro u hu
  unfold Builtin.zeroCells at hu
  obtain ⟨i, _, rfl⟩ := Array.mem_map.1 hu
  have : i % 2 = 0 ∨ i % 2 = 1 := by omega
  simp only [List.size_toArray, List.length_cons, List.length_nil, Nat.zero_add, Nat.reduceAdd]
  rcases this with h | h <;> rw [h] <;> rfl
theorem mem_cells {w : World} {g : Nat} {cs : Array Value} {t : TypeId} {fr : Nat × Nat} (h : w.heap[g]? = some (.cells cs t fr)) (hs : ∀ u ∈ cs, isSl u = true) (j : Nat) (u : Value) (hu : w.cell? ⟨g, j, none⟩ = some u) : isSl u = true := by
  rw [cell_of_row w g j cs t fr h] at hu
  exact hs u (Array.mem_of_getElem? hu)
theorem run_append_dk {B0 : Nat} {A : Option Addr} {n cap : Nat} {l : List Dk} {w : World} (ty : TypeId) (h : OwnD w B0 A n cap l) (x : Dk) (hx : x.ok w) (g0 : Nat) (tb : TypeId) (hg0 : w.heap[g0]? = some (.cells #[.slice x.A x.n x.c, .slice x.B x.m x.d] tb (0, 0))) (hn9 : n ≤ 1000000) (hB : B0 ≤ w.heap.size) :
    ∃ g cap' w', (Builtin.append_ #[36, 36] ty #[.slice A n cap, .slice (some ⟨g0, 0, none⟩) 1 1]).run Tryz.prog w = .ok (.slice (some ⟨g, 0, none⟩) (n + 1) cap') w' ∧
      OwnD w' B0 (some ⟨g, 0, none⟩) (n + 1) cap' (l ++ [x]) ∧ w.grownBy w' (Value.ownBlock (.slice A n cap)) ∧ g < w'.heap.size := by
  obtain ⟨i, hi, hz0, hz1, hz2⟩ := info_parts plat_info
  have hnews : ∀ j u, (dkV x)[j]? = some u → w.cell? ((⟨g0, 0, none⟩ : Addr).add j) = some u := World.news_of_block hg0
  have h1 : ∀ u ∈ dkV x, u.oneCell' = true := fun u hu => dksV_one [x] u (by simpa [dksV] using hu)
  have hsx : ∀ u ∈ dkV x, isSl u = true := fun u hu => dksV_sl [x] u (by simpa [dksV] using hu)
  have hl : (dkV x).length = 1 * i.size := by rw [hz1]; rfl
  obtain ⟨v', w', hr, h2, h3, h4, h5⟩ := run_append_own_at (P := Tryz.prog) w B0 36 ty 68 i (.agg #[.slice none 0 0, .slice none 0 0]) 2 48 Tryz.underlying36 hi hz0 hz1 hz2 rfl (by omega) (.slice A n cap) n (dksV l) h.os ⟨g0, 0, none⟩ 1 1 (dkV x) rfl hnews h1 (by unfold maxLen; omega) (by omega) hB
  obtain ⟨g, cap', rfl, _, hlt⟩ := h2.form (by omega)
  refine ⟨g, cap', w', hr, ⟨?_, ?_, ?_, ?_⟩, h3, hlt⟩
  · rw [List.length_append, ← h.hn]; rfl
  · rw [dksV_app]
    have e : dksV [x] = dkV x := by simp [dksV]
    rw [e]
    exact h2
  · intro b off e
    injection e with e
    injection e with e1 e2
    subst e1
    rcases h.os.2 with ⟨hv, hn0⟩ | ⟨go, capo, cur, hv, hbg, hg, hnc, hcm, hcs, htake⟩
    · injection hv with e1 e2 e3
      subst e1 e2 e3
      have hr2 := run_append_nil (P := Tryz.prog) w 36 ty 68 i (.agg #[.slice none 0 0, .slice none 0 0]) Tryz.underlying36 hi hz0 ⟨g0, 0, none⟩ 1 1 (dkV x) hl hnews (by omega) (by omega) (by rw [hz2]; omega)
      rw [hr] at hr2
      injection hr2 with e1 e2
      injection e1 with e1
      injection e1 with e1
      injection e1 with e1
      subst e1 e2
      refine fun j u hu => mem_cells (heap_alloc_new w.drew _) (fun v hv => ?_) j u hu
      rcases Array.mem_append.1 hv with hv | hv
      · exact hsx v (by simpa using hv)
      · exact zero_sl _ v hv
    · injection hv with e1 e2 e3
      subst e1 e3
      have hsl := h.sl go 0 rfl
      have hcur : ∀ u ∈ cur, isSl u = true := fun u hu => by
        obtain ⟨j, hj, rfl⟩ := Array.mem_iff_getElem.1 hu
        exact hsl j _ (by rw [cell_of_row w go j cur _ _ hg, Array.getElem?_eq_getElem hj])
      by_cases hroom : n + 1 ≤ cap
      · have hfit : n * i.size + (dkV x).length ≤ cur.size := by
          rw [hl, hz1, hcs, ← Nat.add_mul]
          exact Nat.mul_le_mul_right _ hroom
        have hr2 := run_append_room (P := Tryz.prog) w 36 ty 68 i Tryz.underlying36 hi go n cap cur hg ⟨g0, 0, none⟩ 1 1 (dkV x) hl hnews h1 hroom hfit
        rw [hr] at hr2
        injection hr2 with e1 e2
        injection e1 with e1
        injection e1 with e1
        injection e1 with e1
        subst e1 e2
        refine fun j u hu => mem_cells (setRow_heap w g cur _ _ _ hg) (fun v hv => ?_) j u hu
        rw [List.mem_toArray, List.mem_append, List.mem_append] at hv
        rcases hv with (hv | hv) | hv
        · exact hcur v (by simpa using List.mem_of_mem_take hv)
        · exact hsx v hv
        · exact hcur v (by simpa using List.mem_of_mem_drop hv)
      · have holds : ∀ j u, (dksV l)[j]? = some u → w.cell? ((⟨go, 0, none⟩ : Addr).add j) = some u := h.os.cells (g := go) rfl
        have hr2 := run_append_grow (P := Tryz.prog) w 36 ty 68 i (.agg #[.slice none 0 0, .slice none 0 0]) Tryz.underlying36 hi hz0 ⟨go, 0, none⟩ n cap (dksV l) (by rw [hz1]; exact h.os.1) holds ⟨g0, 0, none⟩ 1 1 (dkV x) hl hnews (by omega) (by omega) (growslice_fits (by omega) (by rw [hz2]; omega))
        rw [hr] at hr2
        injection hr2 with e1 e2
        injection e1 with e1
        injection e1 with e1
        injection e1 with e1
        subst e1 e2
        refine fun j u hu => mem_cells (heap_alloc_new w.drew _) (fun v hv => ?_) j u hu
        rcases Array.mem_append.1 hv with hv | hv
        · rcases Array.mem_append.1 hv with hv | hv
          · exact dksV_sl l v (by simpa using hv)
          · exact hsx v (by simpa using hv)
        · exact zero_sl _ v hv
  · have hk : ∀ y : Dk, y.ok w → y.ok w' := by
      intro y hy
      rcases h.os.2 with ⟨hv, hn0⟩ | ⟨go, capo, cur, hv, hbg, hg, _⟩
      · rw [hv] at h3
        exact Dk.ok.below hy ⟨h3.os, h3.tape, h3.output, h3.size, fun k hk => h3.block k hk (by simp [Value.ownBlock])⟩
      · injection hv with e1 e2 e3
        subst e1 e3
        exact PB.grown hy hg (by decide) (by decide) (h.sl go 0 rfl) h3
    intro y hy
    rcases List.mem_append.1 hy with hy | hy
    · exact hk y (h.ok y hy)
    · rw [List.mem_singleton.1 hy]
      exact hk x hx
theorem wpList_append_dk {ops : Array Oper} {rest : List Oper} {o : Oper} {a : Act} {Q : Exit → Act → World → Prop} (hgd : o.guard = none) (s x : Operand)
    (ho : o.op = .call { callee := .builtin .append, args := #[s, x], argTypes := #[36, 36] })
    {B0 : Nat} {A : Option Addr} {n cap : Nat} {l : List Dk} (w : World) (hs : a.eval s = .slice A n cap) (h : OwnD w B0 A n cap l) (y : Dk) (hy : y.ok w) (g0 : Nat) (hxv : a.eval x = .slice (some ⟨g0, 0, none⟩) 1 1) (tb : TypeId) (hg0 : w.heap[g0]? = some (.cells #[.slice y.A y.n y.c, .slice y.B y.m y.d] tb (0, 0))) (hn9 : n ≤ 1000000) (hB : B0 ≤ w.heap.size)
    (k : ∀ g cap' w', OwnD w' B0 (some ⟨g, 0, none⟩) (n + 1) cap' (l ++ [y]) → w.grownBy w' (Value.ownBlock (.slice A n cap)) → g < w'.heap.size → wpList Tryz.prog ops Q rest (a.put o.dst (.slice (some ⟨g, 0, none⟩) (n + 1) cap')) w') :
    wpList Tryz.prog ops Q (o :: rest) a w := by
  refine wpList_plain hgd fun K hK => ?_
  obtain ⟨g, cap', w', hr, h2, h3, h4⟩ := run_append_dk o.type h y hy g0 tb hg0 hn9 hB
  unfold Oper.wp execOp
  simp only [ho, resolve, invoke, builtin, Sem.run_bind, Sem.run_pure, Result.andThen_ok, List.map_toArray, List.map_cons, List.map_nil, hs, hxv, hr]
  exact hK _ _ (k g cap' w' h2 h3 h4)

/- ChS2 -/
open Go.RowKit
set_option linter.unusedVariables false
set_option linter.unusedSimpArgs false
set_option maxRecDepth 100000
set_option maxHeartbeats 8000000

theorem firstE_at {α : Type} {f : α → Int} : ∀ {l : List α} {k : Nat} (hk : k < l.length), (∀ i (hi : i < l.length), i < k → f l[i] = 0) → f l[k] ≠ 0 → firstE f l = f l[k]
  | a :: l, 0, _, _, h => by
    have h' : f a ≠ 0 := h
    rw [firstE, if_pos h']
    rfl
  | a :: l, k + 1, hk, h0, h => by
    have ha : f a = 0 := h0 0 (by simp) (by omega)
    rw [firstE, if_neg (by simpa using ha)]
    exact firstE_at (by simpa using hk) (fun i hi hik => h0 (i + 1) (by simpa using hi) (by omega)) h
theorem firstE_none {α : Type} {f : α → Int} {l : List α} (h : ∀ i (hi : i < l.length), f l[i] = 0) : firstE f l = 0 :=
  firstE_zero.2 fun a ha => by
    obtain ⟨i, hi, rfl⟩ := List.mem_iff_getElem.1 ha
    exact h i hi
/-- What Settle hands back. -/
def SetR (w : World) (r : List Plat × Int) (E : Ending) (w' : World) : Prop := ∃ A n cap l', E = .returned (.tuple #[.slice A n cap, .int .i64 r.2]) ∧ n = l'.length ∧ plats l' = r.1 ∧ RdD w' A l' ∧ Below w.heap.size w w'
theorem SetR.no (w w' : World) (x : Int) (h : Below w.heap.size w w') : SetR w ([], x) (.returned (.tuple #[.slice none 0 0, .int .i64 x])) w' := ⟨none, 0, 0, [], rfl, rfl, rfl, RdD.nil _ _, h⟩
theorem thereB_succ {e : Int} {l : List Plat} {k : Nat} (hk : k < l.length) : thereB e (l.take (k + 1)) = (thereB e (l.take k) || decide ((getH l[k]).1.epoch = e)) := by
  unfold thereB
  rw [List.take_succ_eq_append_getElem hk, List.any_append]
  simp
end Go.Proofs.YtkbjmmigjjdfpaaGreatDoor
