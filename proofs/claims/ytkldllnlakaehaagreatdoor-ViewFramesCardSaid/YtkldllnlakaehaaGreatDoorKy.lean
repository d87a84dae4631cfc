/-
  Contracts of keyed: Mac, Extract, the parts, Expand and Derive of 32 bytes: that each tells a text, and how long it is.
-/
import Derived.Test.YtkldllnlakaehaaGreatDoorBld
import Derived.Test.YtkldllnlakaehaaGreatDoorRfn
import Derived.Test.YtkldllnlakaehaaGreatDoorRound
import Derived.Lib.LazyBuf
namespace Go.Proofs.YtkldllnlakaehaaGreatDoor
open Go.RowKit Go.Shelf
set_option linter.unusedVariables false
set_option linter.unusedSimpArgs false
set_option maxRecDepth 100000
set_option maxHeartbeats 2000000

theorem byt_cells {g : Nat} : ∀ (l : List UInt8) (o : Nat) (w : World) (m : List UInt8), BytAt w g m → o + l.length ≤ m.length → ∃ m' : List UInt8, m'.length = m.length ∧ BytAt (w.setCells g o (l.map fun x => Value.int .u8 (x.toNat : Int))) g m'
  | [], o, w, m, h, _ => ⟨m, rfl, h⟩
  | u :: l, o, w, m, h, hl => by
    obtain ⟨m', h1, h2⟩ := byt_cells l (o + 1) _ (m.set o u) (h.set o u) (by simp at hl ⊢; omega)
    exact ⟨m', by simpa using h1, h2⟩
theorem kbytes_new (w : World) (n : Nat) : BytAt (w.alloc (.cells (madeCells #[.int .u8 0] n) 5)) w.heap.size (List.replicate n 0) := by
  have hg := heap_alloc_new w (.cells (madeCells #[.int .u8 0] n) 5)
  intro i hi
  rw [List.length_replicate] at hi
  refine ⟨?_, by unfold World.frozen?; rw [hg]; simp⟩
  rw [cell_of_row _ _ _ _ _ _ hg, ← Array.getElem?_toList, toList_madeCells_one, List.getElem?_replicate, if_pos hi, List.getD_eq_getElem?_getD, List.getElem?_replicate, if_pos hi]
  rfl
theorem over_any (p : UInt8) (k : ByteArray) (w : World) (hk : k.size ≤ 64) :
    Calls Tryz.prog 83 #[.int .u8 (p.toNat : Int), .string k] w fun e w' => (∃ b : ByteArray, e = .returned (.string b) ∧ b.size = 64) ∧ Below w.heap.size w w' := by
  have hmk : ∀ W, (Instr.makeSlice 64 (.int .i64 64) (.int .i64 64)).run Tryz.prog W = .ok (.slice (some ⟨W.heap.size, 0, none⟩) 64 64) (W.alloc (.cells (madeCells #[.int .u8 0] 64) 5)) := fun W => run_make_row' (P := Tryz.prog) 64 5 (.int .u8 0) 1 Tryz.underlying64 uint8_info rfl .i64 .i64 64 (by omega) (by omega) W
  have hby := kbytes_new w 64
  have hz : ∀ W, (Go.sizeOf 5).run Tryz.prog W = .ok 1 W := fun W => by kernel_rfl
  have hcp := Go.run_copy_string (P := Tryz.prog) (w.alloc (.cells (madeCells #[.int .u8 0] 64) 5)) 64 9 3 5 w.heap.size 0 64 64 k Tryz.underlying64 hz hk
    (fun j hj => by rw [Nat.zero_add, (hby j (by simp; omega)).1]; rfl) (fun j hj => by rw [Nat.zero_add]; exact (hby j (by simp; omega)).2)
  obtain ⟨m, hm1, hm2⟩ := byt_cells k.data.toList 0 _ _ hby (by rw [len_data]; simpa using hk)
  have hbl := Go.below_setCells (B := w.heap.size) (Nat.le_refl _) (k.data.toList.map fun x => Value.int .u8 (x.toNat : Int)) 0 _ ((Below.refl w.heap.size w).alloc (Nat.le_refl _) (.cells (madeCells #[.int .u8 0] 64) 5))
  rw [List.length_replicate] at hm1
  generalize hW : (w.alloc (.cells (madeCells #[.int .u8 0] 64) 5)).setCells w.heap.size 0 (k.data.toList.map fun x => Value.int .u8 (x.toNat : Int)) = W1 at hcp hm2 hbl
  have HM := Lib.hid (And.intro hm1 hm2)
  have HBl := Lib.hid hbl
  clear hby hm1 hm2 hbl hW hz
  go_enter Tryz.func83, Tryz.ntmps83
  go_wp2_with fail
  go_loopw [13] (fun x wr => ∃ (i : Nat) (l : List UInt8), i ≤ 64 ∧ x = .int .i64 (i : Nat) ∧ l.length = 64 ∧ BytAt wr w.heap.size l ∧ Below w.heap.size w wr) (fun x _ => 64 - (intOf x).toNat)
  case atStart => exact ⟨0, m, by omega, rfl, HM.out.1, HM.out.2, HBl.out⟩
  case round =>
    obtain ⟨i, l, hi, rfl, hl, hb, hW⟩ := hrel
    have Hl := Lib.hid hl
    have HBt := Lib.hid hb
    have HW := Lib.hid hW
    by_cases hlt : i < 64
    · have d1 : decide ((i : Int) < 64) = true := by simp; omega
      obtain ⟨c1, f1⟩ := hb i (by omega)
      obtain ⟨u, hu⟩ : ∃ u, u = l.getD i 0 := ⟨_, rfl⟩
      rw [← hu] at c1
      have hx := xor_u8 u p
      have hi64 : (i : Int) < 64 := by omega
      clear hl hb hW hu
      go_wp2_with fail
      try rw [hx]
      try go_wp2_with fail
      go_roundw
      case rel => exact ⟨i + 1, l.set i (u ^^^ p), by omega, by go_num, by rw [List.length_set]; exact Hl.out, HBt.out.set i (u ^^^ p), HW.out.setCell (p := ⟨w.heap.size, i, none⟩) (Nat.le_refl _) _⟩
      case measure => simp [intOf]; omega
    · obtain rfl : i = 64 := by omega
      have d1 : decide ((64 : Int) < 64) = false := by decide
      have hcv := conv_byt hb 64 64 hl.symm
      clear hb hW
      go_wp2_with fail
      go_ret
      exact ⟨⟨bs l, rfl, by rw [bs_size]; exact Hl.out⟩, HW.out⟩
theorem mac_any (key s : ByteArray) (w : World) (hk : key.size ≤ 64) (hs : s.size ≤ 1000000) (hR : Rounds w) :
    Calls Tryz.prog 52 #[.string key, .string s] w fun e w' => (∃ b : ByteArray, e = .returned (.string b) ∧ b.size = 32) ∧ Below w.heap.size w w' := by
  have d1 : decide ((key.size : Int) > 64) = false := decide_eq_false (by omega)
  have HO := Lib.hid (fun W => over_any 92 key W hk)
  have HI := Lib.hid (fun W => over_any 54 key W hk)
  have HSm := Lib.hid (fun (t : ByteArray) W (h : t.size ≤ 1000000000) (h' : Below w.heap.size w W) => sum_any t W (hR.below h') h)
  have hk9 : (key.size : Int) ≤ 9223372036854775807 := by omega
  clear hR hk
  go_enter Tryz.func52, Tryz.ntmps52
  go_wp2_with fail
  refine (HO.out _).mono ?_
  rintro e w1 ⟨⟨o, rfl, ho⟩, hb1⟩
  have HB := Lib.hid hb1
  clear hb1
  go_wp2_with fail
  refine (HI.out _).mono ?_
  rintro e w2 ⟨⟨p, rfl, hp⟩, hb2⟩
  replace HB := Lib.hid (HB.out.trans (hb2.mono HB.out.size))
  have hps : p.size + s.size ≤ 1000064 := by omega
  clear hb2
  go_wp2_with fail
  refine (HSm.out _ _ (by rw [ByteArray.size_append]; omega) HB.out).mono ?_
  rintro e w3 ⟨rfl, hb3⟩
  replace HB := Lib.hid (HB.out.trans (hb3.mono HB.out.size))
  obtain ⟨t, ht⟩ : ∃ t, t = bs (sumL (p ++ s).data.toList) := ⟨_, rfl⟩
  rw [← ht]
  have hts : t.size = 32 := by rw [ht, bs_size, sumL_len]
  have hot : o.size + t.size = 96 := by omega
  clear hb3 ht
  go_wp2_with fail
  refine (HSm.out _ _ (by rw [ByteArray.size_append]; omega) HB.out).mono ?_
  rintro e w4 ⟨rfl, hb4⟩
  replace HB := Lib.hid (HB.out.trans (hb4.mono HB.out.size))
  clear hb4
  go_wp2_with fail
  go_ret
  exact ⟨⟨_, rfl, by rw [bs_size, sumL_len]⟩, HB.out⟩
theorem extract_any (salt key : ByteArray) (w : World) (hk : salt.size ≤ 64) (hs : key.size ≤ 1000000) (hR : Rounds w) :
    Calls Tryz.prog 32 #[.string salt, .string key] w fun e w' => (∃ b : ByteArray, e = .returned (.string b) ∧ b.size = 32) ∧ Below w.heap.size w w' := by
  have HM := Lib.hid (mac_any salt key w hk hs hR)
  clear hR
  go_enter Tryz.func32, Tryz.ntmps32
  go_wp2_with fail
  refine HM.out.mono ?_
  rintro e w1 ⟨⟨o, rfl, ho⟩, hb1⟩
  go_wp2_with fail
  go_ret
  exact ⟨⟨_, rfl, ho⟩, hb1⟩
/-- The byte of a number. -/
def u8o (n : Int) : UInt8 := UInt8.ofNat (n % 256).toNat
theorem u8o_wrap (n : Int) : IntKind.u8.wrap n = (((u8o n).toNat : Nat) : Int) := by
  rw [IntKind.wrap_u8]
  simp [u8o]
  omega
attribute [local go_sem] Oper.semAt_some

/-- A part: 32 bytes. -/
abbrev Prt32 := { b : ByteArray // b.size = 32 }
theorem kparts1_in (n : Nat) (hn : 1 ≤ n) (l Bk Bi : Nat) (key info : ByteArray) (hk : key.size ≤ 64) (hi : info.size ≤ 1000) (J Jx : List Prt32 → World → Prop) (w0 : World) (hR : Rounds w0)
    (hJ : ∀ s A B, J s A → Below A.heap.size A B → J s B)
    (hY : ∀ pre x W, J pre W → pre.length < 255 → YieldAt Fence.wide (n - 1) Tryz.prog l #[.string x.1] W fun e W' =>
      (e = .returned (.bool true) ∧ J (pre ++ [x]) W' ∧ KpT w0.heap.size [Bk, Bi] W W') ∨ (e = .returned (.bool false) ∧ Jx (pre ++ [x]) W'))
    (W : World) (hW : Below w0.heap.size w0 W) (hBk : W.cell? ⟨Bk, 0, none⟩ = some (.string key)) (hBi : W.cell? ⟨Bi, 0, none⟩ = some (.string info)) (h0 : J [] W) :
    CallsIn Fence.wide n Tryz.prog 80 #[.func (.yield l) #[] #[], .pointer (some ⟨Bk, 0, none⟩), .pointer (some ⟨Bi, 0, none⟩)] W fun e W' => (∃ v, e = .returned v) ∧
      ((∃ ys, ys.length = 255 ∧ J ys W') ∨ (∃ pre, True ∧ Jx pre W')) := by
  have HY := Lib.hid hY
  have HJ := Lib.hid hJ
  have HMc := Lib.hid (fun (t : ByteArray) W (h : t.size ≤ 1000000) (h' : Below w0.heap.size w0 W) => mac_any key t W hk h (hR.below h'))
  clear hY hJ hR
  refine callsIn_of_wp Tryz.func80 rfl trivial ?_ rfl
  simp only [Tryz.ntmps80, List.size_toArray, List.length_cons, List.length_nil, Nat.reduceAdd, Nat.reduceSub, Array.replicate_succ, Array.replicate_zero, List.push_toArray, List.append_toArray, List.nil_append, List.cons_append]
  gi_wp2
  gi_loopw [4, 5] (fun t i wr => ∃ (k : Nat) (tb : ByteArray) (ys : List Prt32), k ≤ 255 ∧ t = .string tb ∧ tb.size ≤ 32 ∧ i = .int .i64 ((k + 1 : Nat) : Int) ∧ ys.length = k ∧ wr.cell? ⟨Bk, 0, none⟩ = some (.string key) ∧ wr.cell? ⟨Bi, 0, none⟩ = some (.string info) ∧ Below w0.heap.size w0 wr ∧ J ys wr) (fun _ i _ => 256 - (intOf i).toNat)
  case atStart => exact ⟨0, ⟨#[]⟩, [], by omega, rfl, by decide, rfl, rfl, hBk, hBi, hW, h0⟩
  case round =>
    obtain ⟨k, tb, ys, hk, rfl, htb, rfl, hys, hck, hci, hB, hJ⟩ := hrel
    have HB := Lib.hid hB
    have HJ1 := Lib.hid hJ
    have Hys := Lib.hid hys
    clear hB hJ hys
    by_cases hlt : k < 255
    · have d1 : decide ((((k + 1 : Nat) : Int)) ≤ 255) = true := decide_eq_true (by omega)
      have hti : tb.size + info.size ≤ 1032 := by omega
      have hcl := cell_lt hck
      have hcm := cell_lt hci
      have hus : ∀ W : World, (convert 64 9 (.slice (some ⟨W.heap.size, 0, none⟩) 1 1)).run Tryz.prog (W.alloc (.cells #[.int .u8 ((u8o ((k + 1 : Nat) : Int)).toNat : Int)] 5)) = .ok (.string (bs [u8o ((k + 1 : Nat) : Int)])) (W.alloc (.cells #[.int .u8 ((u8o ((k + 1 : Nat) : Int)).toNat : Int)] 5)) := fun W => conv_rd (l := [u8o ((k + 1 : Nat) : Int)]) (rd_new' W _ _ _ rfl) 1 1 rfl
      have hcv := hus wr
      have hw8 : ((u8o ((k + 1 : Nat) : Int)).toNat : Int) = (k : Int) + 1 := by rw [u8o, UInt8.toNat_ofNat']; omega
      have hal := (Below.refl wr.heap.size wr).alloc (Nat.le_refl _) (.cells #[.int .u8 ((u8o ((k + 1 : Nat) : Int)).toNat : Int)] 5)
      have HAl := Lib.hid hal
      have hsz : (tb ++ info).size + (bs [u8o ((k + 1 : Nat) : Int)]).size ≤ 1033 := by rw [ByteArray.size_append, bs_size]; simp; omega
      have HCk := Lib.hid hck
      have HCi := Lib.hid hci
      generalize u8o ((k + 1 : Nat) : Int) = u at hcv hw8 hal hsz HAl
      obtain ⟨t1, ht1⟩ : ∃ t1, t1 = bs [u] := ⟨_, rfl⟩
      have hz1 : tb.size + info.size + t1.size ≤ 1033 := by rw [ht1, bs_size]; simp; omega
      rw [← ht1] at hcv
      rw [hw8] at hcv HAl
      clear hus hal hsz ht1 hw8
      gi_wp2_with (refine ⟨trivial, ?_⟩; gi_at_call 52; refine (callsIn_wide.2 (HMc.out _ _ (by rw [ByteArray.size_append, ByteArray.size_append]; omega) (HB.out.trans (HAl.out.mono HB.out.size)))).mono ?_; rintro e w5 ⟨⟨b, rfl, hb⟩, hb5⟩; have HB5 := Lib.hid (Below.chain HAl.out hb5); clear hb5)
      have hJ5 := HJ.out _ _ _ HJ1.out HB5.out
      obtain ⟨fn, tmps, assign, body, hy, hR⟩ := HY.out ys ⟨b, hb⟩ _ hJ5 (by rw [Hys.out]; exact hlt)
      have HRr := Lib.hid hR
      clear hR hck hci
      gi_wp2
      refine HRr.out.mono ?_
      rintro e W3 (⟨rfl, hJ3, hk3⟩ | ⟨rfl, hJx3⟩)
      · have hck3 : W3.cell? ⟨Bk, 0, none⟩ = some (.string key) := (World.cell?_of_block (hk3.2 Bk (by simp))).trans ((HB5.out.cell hcl).trans HCk.out)
        have hci3 : W3.cell? ⟨Bi, 0, none⟩ = some (.string info) := (World.cell?_of_block (hk3.2 Bi (by simp))).trans ((HB5.out.cell hcm).trans HCi.out)
        have HB3 := Lib.hid ((HB.out.trans (HB5.out.mono HB.out.size)).trans hk3.1)
        have HJ3 := Lib.hid hJ3
        have Hk3 := Lib.hid (And.intro hck3 hci3)
        clear hJ3 hk3 hck3 hci3
        gi_wp2
        go_roundw
        case rel => exact ⟨k + 1, b, ys ++ [⟨b, hb⟩], by omega, rfl, by omega, by go_num, by rw [List.length_append, Hys.out]; rfl, Hk3.out.1, Hk3.out.2, HB3.out, HJ3.out⟩
        case measure => simp [intOf]; omega
      · gi_wp2
        refine bodyPost_ret (results_none rfl _ _ _) rfl ?_
        exact ⟨⟨_, rfl⟩, .inr ⟨_, trivial, hJx3⟩⟩
    · obtain rfl : k = 255 := by omega
      gi_wp2
      go_end0
      exact ⟨⟨_, rfl⟩, .inl ⟨_, Hys.out, HJ1.out⟩⟩
theorem kparts_in (n : Nat) (key info : ByteArray) (w : World) :
    CallsIn Fence.wide n Tryz.prog 48 #[.string key, .string info] w fun e w' => e = .returned (.func (.func 80) #[] #[.pointer (some ⟨w.heap.size, 0, none⟩), .pointer (some ⟨w.heap.size + 1, 0, none⟩)]) ∧ w' = (w.alloc (.cells #[.string key] 9)).alloc (.cells #[.string info] 9) := by
  refine callsIn_of_wp Tryz.func48 rfl trivial ?_ rfl
  simp only [Tryz.ntmps48, List.size_toArray, List.length_cons, List.length_nil, Nat.reduceAdd, Nat.reduceSub, Array.replicate_succ, Array.replicate_zero, List.push_toArray, List.append_toArray, List.nil_append, List.cons_append]
  gi_wp2
  go_ret
  exact ⟨rfl, rfl⟩
/-- No part has come yet. -/
structure KI (w : World) (gn gb b1 b2 : Nat) (key info : ByteArray) (pre : List Prt32) (W : World) : Prop where
  no : pre = []
  n32 : W.heap[gn]? = some (.cells #[.int .i64 32] 3 (0, 0))
  bl : Bld W w.heap.size gb []
  hb : Below w.heap.size w W
/-- The first part is there. -/
structure KX (w : World) (gb : Nat) (cd : Code) (pre : List Prt32) (W : World) : Prop where
  cd : cd = .exit 0
  bl : ∃ l : List UInt8, l.length = 32 ∧ Bld W w.heap.size gb l
  hb : Below w.heap.size w W
theorem bld_kept {β : Type} {B b : Nat} {l : List UInt8} : Own (fun (_ : β) W => Bld W B b l) := fun s X Y row h hg hr => by
  refine bld_blocks h (hg.block b (bld_lt h).1 (fun e => ?_)) (fun g cs fz hh => hg.block g (cell_lt_of hh) (fun e => ?_))
  · obtain ⟨o, ho, hc⟩ := hr b e.symm
    rcases h with ⟨_, v, hb, _⟩ | ⟨_, v, hb, _⟩ <;> (rw [hb] at ho; obtain rfl := Option.some.inj ho; cases hc)
  · obtain ⟨o, ho, hc⟩ := hr g e.symm
    rw [hh] at ho
    obtain rfl := Option.some.inj ho
    cases hc
theorem expand_any (key info : ByteArray) (w : World) (hk : key.size ≤ 64) (hi : info.size ≤ 1000) (hR : Rounds w) :
    Calls Tryz.prog 31 #[.string key, .string info, .int .i64 32] w fun e w' => (∃ b : ByteArray, e = .returned (.tuple #[.string b, .int .i64 0]) ∧ b.size = 32) ∧ Below w.heap.size w w' := by
  have HR := Lib.hid hR
  obtain ⟨k1, k2, k3, kb, kB, ksz⟩ := al4' w (.cells #[.int .i64 32] 3) (.cells #[.pointer none, .slice none 0 0] 87) (.cells #[.string key] 9) (.cells #[.string info] 9)
  have hbl0 := bld_new (w := w.alloc (.cells #[.int .i64 32] 3)) (B := w.heap.size) (by simp)
  have z1 := rf_at (heap_alloc_new w (.cells #[.int .i64 32] 3)) 0 _ rfl
  have hbl1 := bld_below hbl0 ((Below.refl _ _).alloc (Nat.le_refl _) (.cells #[.string key] 9))
  have hbl := bld_below hbl1 ((Below.refl _ _).alloc (Nat.le_refl _) (.cells #[.string info] 9))
  rw [World.size_alloc] at hbl
  have Kk := Lib.hid (And.intro hk hi)
  clear hR hbl0 hbl1 hk hi
  refine (callsIn_wide (n := 4)).1 ?_
  refine callsIn_of_wp_marks Tryz.func31 rfl trivial ?_ rfl
  simp only [Tryz.ntmps31, List.size_toArray, List.length_cons, List.length_nil, Nat.reduceAdd, Nat.reduceSub, Array.replicate_succ, Array.replicate_zero, List.push_toArray, List.append_toArray, List.nil_append, List.cons_append]
  gi_wp2_with (refine ⟨trivial, ?_⟩; gi_at_call 48; refine (kparts_in _ _ _ _).mono ?_; rintro e w3 ⟨rfl, rfl⟩)
  obtain ⟨W0, hW0⟩ : ∃ W0, W0 = (((w.alloc (.cells #[.int .i64 32] 3)).alloc (.cells #[.pointer none, .slice none 0 0] 87)).alloc (.cells #[.string key] 9)).alloc (.cells #[.string info] 9) := ⟨_, rfl⟩
  rw [← hW0] at k1 k3 kb kB ksz hbl ⊢
  have HW0 := Lib.hid kB
  have Hn := Lib.hid k1
  have Hkey := Lib.hid k3
  have Hinf := Lib.hid kb
  have Hbl := Lib.hid hbl
  have Hsz := Lib.hid ksz
  clear hW0 k1 k2 k3 kb kB hbl z1 ksz
  obtain ⟨G, hG⟩ : ∃ G, G = w.heap.size := ⟨_, rfl⟩
  rw [← hG] at Hn Hkey Hinf Hbl Hsz ⊢
  have HG := Lib.hid hG
  clear hG
  refine wpIn_rangeFunc_ownF rfl (by omega) (gf := 80) (lb := #[.pointer (some ⟨G + 1 + 1, 0, none⟩), .pointer (some ⟨G + 1 + 1 + 1, 0, none⟩)]) rfl trivial (enters_of Tryz.func80 (by kernel_rfl) rfl)
    (encs := fun x : Prt32 => #[.string x.1]) (Kp := KpT W0.heap.size [G + 1 + 1, G + 1 + 1 + 1]) (S := fun ys => ys.length = 255) (Sp := fun _ => True) (N := 255) (w0 := W0)
    (fun l J Jx W hW hJ _ hY h0 => kparts1_in 3 (by omega) l (G + 1 + 1) (G + 1 + 1 + 1) key info Kk.out.1 Kk.out.2 J Jx W0 (HR.out.below HW0.out) (fun s A B h hb => hJ s A B none h (gb_of_below hb none) (fun r e => by cases e)) hY W hW (rf_at (cells_below Hkey.out hW) 0 _ rfl) (rf_at (cells_below Hinf.out hW) 0 _ rfl) h0)
    kpT_t (kpT_b (Nat.le_refl _) (by have := Hsz.out; simp; omega)) (Below.refl _ _) (fun _ => rfl)
    (KI w G (G + 1) (G + 1 + 1) (G + 1 + 1 + 1) key info) (KX w (G + 1))
    (fun s X Y row h hg hr => ⟨h.no, rf_c h.n32 hg (fun r e => (hr r e).2), bld_kept (β := Unit) () X Y row h.bl hg (fun r e => (hr r e).2), ownFrom_below (β := Unit) (w₀ := w) (Nat.le_refl _) (by have := Hsz.out; have := HG.out; omega) () X Y row h.hb hg hr⟩)
    (fun cd s X Y row h hg hr => by obtain ⟨l, t1, t2⟩ := h.bl; exact ⟨h.cd, ⟨l, t1, bld_kept (β := Unit) () X Y row t2 hg (fun r e => (hr r e).2)⟩, ownFrom_below (β := Unit) (w₀ := w) (Nat.le_refl _) (by have := Hsz.out; have := HG.out; omega) () X Y row h.hb hg hr⟩)
    ⟨rfl, Hn.out, HG.out ▸ Hbl.out, HW0.out⟩ ?a1 ?assign ?body ?done ?stop
  case assign =>
    intro l x W K hK
    gi_wp2
    exact hK
  case body =>
    rintro yl pre x W hI hlen
    have hx := x.2
    have HI := Lib.hid hI
    have c5 := rf_at hI.n32 0 _ rfl
    have HLn := Lib.hid (fun n => len_l w.heap.size (G + 1) [] (W.drewN n) (bld_below hI.bl (below_drewN (Below.refl _ _) n)))
    have d1 : decide ((32 : Int) ≤ (x.1.size : Int)) = true := decide_eq_true (by omega)
    have e32 : (32 : Int) ≤ (x.1.size : Int) := by omega
    have Hx := Lib.hid hx
    clear hI hlen hx
    gi_wp2
    refine round_quiet (by kernel_rfl) (by kernel_rfl) (by kernel_rfl) ?_
    repeat (go_big_quiet_step ((go_at_call 49; exact Calls.quiet_of_same ((HLn.out _).mono fun e w' h => ⟨h.1, h.2.symm⟩))))
    refine wpQuiet_nil ?_
    rintro _ ⟨nq, rfl⟩
    have HI2 := Lib.hid (show KI w G (G + 1) (G + 1 + 1) (G + 1 + 1 + 1) key info pre (W.drewN nq) from ⟨HI.out.no, HI.out.n32, bld_below HI.out.bl (below_drewN (Below.refl _ _) nq), below_drewN HI.out.hb nq⟩)
    gi_wp2_with (refine ⟨trivial, ?_⟩; gi_at_call 50; refine (CallsIn.inRound yl (callsIn_wide.2 (writeString_l w.heap.size (G + 1) [] _ _ HI2.out.bl (by rw [ByteArray.size_extract]; simp; omega) HI2.out.hb.size))).mono ?_; rintro e w5 ⟨rfl, hbl5, hb5, hok5⟩)
    have hlt := (bld_lt HI2.out.bl).1
    refine ⟨⟨hb5.size, fun k o ho hc => ?_⟩, ⟨rfl, ⟨_, ?_, hbl5⟩, HI2.out.hb.trans hb5⟩⟩
    · refine hok5 k o ho (fun e => ?_) (fun cs fz e => by subst e; cases hc)
      obtain rfl := Option.some.inj e
      rcases HI2.out.bl with ⟨_, v, hb, _⟩ | ⟨_, v, hb, _⟩ <;> (change (W.drewN nq).heap[G + 1]? = some o at ho; rw [hb] at ho; obtain rfl := Option.some.inj ho; cases hc)
    · rw [List.nil_append, len_data, ByteArray.size_extract]
      have := Hx.out
      omega
  case done =>
    rintro D ys W hD hys hI hK
    have := hI.no
    subst this
    cases hys
  case stop =>
    rintro D cd pre W hD _ hX hK
    obtain ⟨rfl, ⟨l, hl, hbl⟩, hB⟩ := hX
    have HB := Lib.hid hB
    have HK := Lib.hid hK
    have Hl := Lib.hid hl
    have Hbl2 := Lib.hid hbl
    clear hB hK hl hbl
    have hDb : D ≠ G + 1 := by
      rintro rfl
      have := HK.out
      rcases Hbl2.out with ⟨_, v, hb, _⟩ | ⟨_, v, hb, _⟩ <;> (rw [hb] at this; cases this)
    gi_wp2_with (refine ⟨trivial, ?_⟩; gi_at_call 51; refine (callsIn_wide.2 (string_k w.heap.size (G + 1) l _ Hbl2.out HB.out.size)).mono ?_; rintro e w5 ⟨rfl, hb5, hok5⟩)
    have hK5 := hok5 D _ HK.out (fun e => hDb (Option.some.inj e)) (fun cs fz e => by cases e)
    refine ⟨by simp, .inl ⟨_, _, rfl, run_takeDeferred hK5, ?_⟩⟩
    exact ⟨_, results_tmp2 rfl _ _ _, ⟨_, rfl, by rw [bs_size]; exact Hl.out⟩, (HB.out.trans hb5).trans (belowK_b (w := w) (Nat.le_refl _) _ D _ _ (by have := Hsz.out; have := HG.out; omega) hK5 rfl rfl)⟩
end Go.Proofs.YtkldllnlakaehaaGreatDoor
