/-
  The reader of a holder's texts: contracts of take, digit, number and of the fields' closures.
  Contracts of the closures of holder.readNow, readNext. (Printed by gen_fields.py.)
  Contract of (*reader).read.
-/
import Derived.Test.YtkbjmmigjjdfpaaGreatDoorTw
import Derived.Test.YtkbjmmigjjdfpaaGreatDoorHp
import Derived.Test.YtkbjmmigjjdfpaaGreatDoorWd
import Derived.Test.YtkbjmmigjjdfpaaGreatDoorSm
import Derived.Laws.EntriesVeiled
namespace Go.Proofs.YtkbjmmigjjdfpaaGreatDoor
/- HoldR -/
open Go.RowKit
set_option linter.unusedVariables false
set_option maxRecDepth 100000
set_option maxHeartbeats 1000000

def hdV (h : Hd) : Array Value := #[.int .i64 h.epoch, .int .i64 h.tries, .int .i64 h.x, .string h.b, .string h.salt, .string h.cred, .int .i64 h.next, .int .i64 h.nx, .string h.nb, .string h.nsalt]
def rdV (r : Rdr) : Array Value := #[.string r.rest, .bool r.bad]
/-- A reader in its block. -/
def RdAt (w : World) (b : Nat) (r : Rdr) : Prop := w.heap[b]? = some (.cells (rdV r) 217 (0, 0))
theorem takeR_size (n : Nat) (r : Rdr) : (takeR n r).1.size = n ∨ (takeR n r).1 = none0 := by
  unfold takeR
  split
  · exact .inr rfl
  · exact .inl (by simp; omega)
theorem gb_set1 (w : World) (b i : Nat) (v : Value) : w.grownBy (w.setCell ⟨b, i, none⟩ v) (some b) :=
  ⟨rfl, rfl, rfl, by simp, fun k _ hk => heap_setCell_other w ⟨b, i, none⟩ k v (fun e => hk (by simp [e]))⟩
theorem text_at (s : ByteArray) (k : Nat) (h : k < s.size) : s[k] = s.data.toList.getD k 0 := by
  have h2 : k < s.data.size := h
  rw [ByteArray.getElem_eq_getElem_data, List.getD_eq_getElem?_getD, Array.getElem?_toList, Array.getElem?_eq_getElem h2]
  rfl
theorem hwrap64_u8 (x : UInt8) : wrap64 (x.toNat : Int) = (x.toNat : Int) := by
  have := x.toNat_lt
  unfold wrap64
  omega
theorem rgb_two {w : World} {b : Nat} (i j : Nat) (u v : Value) : w.grownBy ((w.setCell ⟨b, i, none⟩ u).setCell ⟨b, j, none⟩ v) (some b) :=
  gb_trans (gb_set1 w b i u) (gb_set1 _ b j v)
theorem take_any1 (n b : Nat) (r : Rdr) (w : World) (h : RdAt w b r) (hn : n ≤ 1000) :
    Calls Tryz.prog 146 #[.pointer (some ⟨b, 0, none⟩), .int .i64 (n : Nat)] w fun e w' => e = .returned (.string (takeR n r).1) ∧ RdAt w' b (takeR n r).2 ∧ w.grownBy w' (some b) := by
  obtain ⟨s, bad⟩ := r
  have H := Lib.hid (show w.heap[b]? = some (.cells #[.string s, .bool bad] 217 (0, 0)) from h)
  obtain ⟨x0, x1, x2, x3⟩ := two_cells H.out
  clear h
  by_cases hlt : s.size < n
  · have HT := Lib.hid (show takeR n ⟨s, bad⟩ = (none0, ⟨none0, true⟩) by rw [takeR, if_pos hlt])
    have d1 : decide ((s.size : Int) < (n : Int)) = true := by simp; omega
    go_enter Tryz.func146, Tryz.ntmps146
    go_wp2_with fail
    go_ret
    rw [HT.out]
    exact ⟨rfl, two_set H.out _ _, rgb_two 0 1 _ _⟩
  · have HT := Lib.hid (show takeR n ⟨s, bad⟩ = (s.extract 0 n, ⟨s.extract n s.size, bad⟩) by rw [takeR, if_neg hlt])
    have d1 : decide ((s.size : Int) < (n : Int)) = false := by simp; omega
    have d2 : (n : Int) ≤ (s.size : Int) := by omega
    go_enter Tryz.func146, Tryz.ntmps146
    go_wp2_with fail
    go_ret
    rw [HT.out]
    exact ⟨rfl, blk_set H.out 0 _, gb_set1 w b 0 _⟩
theorem digit_any (b : Nat) (r : Rdr) (w : World) (h : RdAt w b r) :
    Calls Tryz.prog 143 #[.pointer (some ⟨b, 0, none⟩)] w fun e w' => e = .returned (.int .i64 (digitR r).1) ∧ RdAt w' b (digitR r).2 ∧ w.grownBy w' (some b) := by
  have H := Lib.hid h
  have HS := Lib.hid (takeR_size 1 r)
  obtain ⟨q, hq⟩ : ∃ q, q = takeR 1 r := ⟨_, rfl⟩
  have Hq := Lib.hid hq
  clear h hq
  have HD := Lib.hid (show digitR r = (if q.1.size = 0 then 0 else ((byteAt q.1 0 : Nat) : Int), q.2) by rw [Hq.out, digitR])
  rw [← Hq.out] at HS
  obtain ⟨s, r'⟩ := q
  simp only at HS HD
  by_cases h0 : s.size = 0
  · have e1 := (toList_nil s).2 h0
    go_enter Tryz.func143, Tryz.ntmps143
    go_wp2_with fail
    refine (take_any1 1 b r _ H.out (by omega)).mono ?_
    rintro e w1 ⟨rfl, hr1, hg1⟩
    rw [← Hq.out] at hr1 ⊢
    have HR1 := Lib.hid hr1
    have HG1 := Lib.hid hg1
    clear hr1 hg1
    go_wp2_with fail
    go_ret
    rw [HD.out, if_pos h0]
    exact ⟨rfl, HR1.out, HG1.out⟩
  · have hs1 : s.size = 1 := HS.out.resolve_right (fun e => h0 (by rw [e]; rfl))
    have e1 : s.toList.isEmpty = false := toList_some s h0
    have e2 : ¬ s.toList = [] := fun e => h0 ((toList_nil s).1 e)
    have hz : (0 : Int) < (s.size : Int) := by omega
    go_enter Tryz.func143, Tryz.ntmps143
    go_wp2_with fail
    refine (take_any1 1 b r _ H.out (by omega)).mono ?_
    rintro e w1 ⟨rfl, hr1, hg1⟩
    rw [← Hq.out] at hr1 ⊢
    have HR1 := Lib.hid hr1
    have HG1 := Lib.hid hg1
    clear hr1 hg1
    go_wp2_with fail
    go_ret
    rw [HD.out, if_neg h0]
    refine ⟨?_, HR1.out, HG1.out⟩
    show Ending.returned (.int .i64 (wrap64 (s[0].toNat : Int))) = _
    rw [hwrap64_u8, text_at s 0 (by omega)]
    rfl
theorem rnum_any (b : Nat) (r : Rdr) (w : World) (h : RdAt w b r) :
    Calls Tryz.prog 141 #[.pointer (some ⟨b, 0, none⟩)] w fun e w' => e = .returned (.int .i64 (numberR r).1) ∧ RdAt w' b (numberR r).2 ∧ w.grownBy w' (some b) := by
  have H := Lib.hid h
  have HS := Lib.hid (takeR_size 4 r)
  obtain ⟨q, hq⟩ : ∃ q, q = takeR 4 r := ⟨_, rfl⟩
  have Hq := Lib.hid hq
  clear h hq
  have HD := Lib.hid (show numberR r = if q.1.size = 4 then (((cutAcc q.1.data.toList true 4 0 : Nat) : Int), q.2) else (0, ⟨q.2.rest, true⟩) by rw [Hq.out, numberR])
  rw [← Hq.out] at HS
  obtain ⟨s, r'⟩ := q
  simp only at HS HD
  by_cases h4 : s.size = 4
  · have HL := Lib.hid (show s.data.toList.length = 4 by rw [len_data]; exact h4)
    go_enter Tryz.func141, Tryz.ntmps141
    go_wp2_with fail
    refine (take_any1 4 b r _ H.out (by omega)).mono ?_
    rintro e w1 ⟨rfl, hr1, hg1⟩
    rw [← Hq.out] at hr1 ⊢
    have HR1 := Lib.hid hr1
    have HG1 := Lib.hid hg1
    clear hr1 hg1
    go_wp2_with fail
    refine (cut_true s _ (by omega) (by omega)).mono ?_
    rintro e w2 ⟨g, rfl, hg, hrow, hb2⟩
    rw [HL.out] at hrow ⊢
    have HB2 := Lib.hid hb2
    have c0 := hrow.cell (i := 0) (by omega)
    clear hb2 hg hrow
    generalize hv : ((cutAcc s.data.toList true 4 0 : Nat) : Int) = v at c0
    have Hv := Lib.hid hv
    clear hv
    go_wp2_with fail
    go_ret
    rw [HD.out, if_pos h4, Hv.out]
    exact ⟨rfl, cells_below HR1.out HB2.out, gb_trans HG1.out (gb_of_below HB2.out _)⟩
  · have h0 : s.size = 0 := by
      rcases HS.out with h | h
      · exact absurd h h4
      · rw [h]; rfl
    have HL := Lib.hid (show s.data.toList.length = 0 by rw [len_data]; exact h0)
    go_enter Tryz.func141, Tryz.ntmps141
    go_wp2_with fail
    refine (take_any1 4 b r _ H.out (by omega)).mono ?_
    rintro e w1 ⟨rfl, hr1, hg1⟩
    rw [← Hq.out] at hr1 ⊢
    have HR1 := Lib.hid hr1
    have HG1 := Lib.hid hg1
    clear hr1 hg1
    go_wp2_with fail
    refine (cut_true s _ (by omega) (by omega)).mono ?_
    rintro e w2 ⟨g, rfl, hg, hrow, hb2⟩
    rw [HL.out]
    have HB2 := Lib.hid hb2
    have HR2 := Lib.hid (show w2.heap[b]? = some (.cells #[.string r'.rest, .bool r'.bad] 217 (0, 0)) from cells_below HR1.out hb2)
    obtain ⟨x0, x1, x2, x3⟩ := two_cells HR2.out
    clear hb2 hg hrow
    go_wp2_with fail
    go_ret
    rw [HD.out, if_neg h4]
    exact ⟨rfl, blk_set HR2.out 1 _, gb_trans (gb_trans HG1.out (gb_of_below HB2.out _)) (gb_set1 _ b 1 _)⟩

/- HoldF -/
open Go.RowKit
set_option linter.unusedVariables false
set_option maxRecDepth 100000
set_option maxHeartbeats 1000000

/-- A world in which the blocks a and b have turned, and new ones have come. -/
structure Turn2 (W W' : World) (a b : Nat) : Prop where
  os : W'.os = W.os
  tape : W'.tape = W.tape
  output : W'.output = W.output
  size : W.heap.size ≤ W'.heap.size
  block : ∀ k, k < W.heap.size → k ≠ a → k ≠ b → W'.heap[k]? = W.heap[k]?
theorem Turn2.refl (W : World) (a b : Nat) : Turn2 W W a b := ⟨rfl, rfl, rfl, Nat.le_refl _, fun _ _ _ _ => rfl⟩
theorem Turn2.trans {X Y Z : World} {a b : Nat} (h : Turn2 X Y a b) (k : Turn2 Y Z a b) : Turn2 X Z a b :=
  ⟨k.os.trans h.os, k.tape.trans h.tape, k.output.trans h.output, Nat.le_trans h.size k.size, fun i hi h1 h2 => (k.block i (Nat.lt_of_lt_of_le hi h.size) h1 h2).trans (h.block i hi h1 h2)⟩
theorem Turn2.of_left {W W' : World} {a : Nat} (b : Nat) (h : W.grownBy W' (some a)) : Turn2 W W' a b := ⟨h.os, h.tape, h.output, h.size, fun k hk h1 _ => h.block k hk (fun e => h1 (Option.some.inj e))⟩
theorem Turn2.of_right {W W' : World} (a : Nat) {b : Nat} (h : W.grownBy W' (some b)) : Turn2 W W' a b := ⟨h.os, h.tape, h.output, h.size, fun k hk _ h2 => h.block k hk (fun e => h2 (Option.some.inj e))⟩
theorem Turn2.below {W W' : World} {a b B : Nat} (h : Turn2 W W' a b) (ha : B ≤ a) (hb : B ≤ b) (hB : B ≤ W.heap.size) : Below B W W' := ⟨h.os, h.tape, h.output, h.size, fun k hk => h.block k (by omega) (by omega) (by omega)⟩
/-- A holder in its block. -/
def HdAt (w : World) (b : Nat) (h : Hd) : Prop := w.heap[b]? = some (.cells (hdV h) 102 (0, 0))
theorem ten_cells {w : World} {g : Nat} {t : TypeId} {a0 a1 a2 a3 a4 a5 a6 a7 a8 a9 : Value} (h : w.heap[g]? = some (.cells #[a0, a1, a2, a3, a4, a5, a6, a7, a8, a9] t (0, 0))) :
    (w.cell? ⟨g, 0, none⟩ = some a0 ∧ w.cell? ⟨g, 1, none⟩ = some a1 ∧ w.cell? ⟨g, 2, none⟩ = some a2 ∧ w.cell? ⟨g, 3, none⟩ = some a3 ∧ w.cell? ⟨g, 4, none⟩ = some a4 ∧ w.cell? ⟨g, 5, none⟩ = some a5 ∧ w.cell? ⟨g, 6, none⟩ = some a6 ∧ w.cell? ⟨g, 7, none⟩ = some a7 ∧ w.cell? ⟨g, 8, none⟩ = some a8 ∧ w.cell? ⟨g, 9, none⟩ = some a9) ∧ ∀ i, w.frozen? ⟨g, i, none⟩ = false := by
  refine ⟨⟨?_, ?_, ?_, ?_, ?_, ?_, ?_, ?_, ?_, ?_⟩, fun i => frozen_of_row w g i _ _ h⟩ <;> (unfold World.cell?; simp only [h]; rfl)
/-- The closures' memory: the box of the reader, the reader, the holder. -/
structure FSt (W : World) (bp br bh : Nat) (p : HR) : Prop where
  hp : W.heap[bp]? = some (.cells #[.pointer (some ⟨br, 0, none⟩)] 215 (0, 0))
  hr : RdAt W br p.2
  hh : HdAt W bh p.1
theorem FSt.ne {W : World} {bp br bh : Nat} {p : HR} (h : FSt W bp br bh p) : bp ≠ br ∧ bp ≠ bh ∧ bh ≠ br := by
  refine ⟨fun e => ?_, fun e => ?_, fun e => ?_⟩
  · have := h.hp; rw [e, show W.heap[br]? = _ from h.hr] at this; cases this
  · have := h.hp; rw [e, show W.heap[bh]? = _ from h.hh] at this; cases this
  · have := h.hh; rw [HdAt, e, show W.heap[br]? = _ from h.hr] at this; cases this
def FPost (W : World) (bp br bh : Nat) (p : HR) (e : Ending) (W' : World) : Prop := (∃ v, e = .returned v) ∧ FSt W' bp br bh p ∧ Turn2 W W' br bh

theorem fN0_any (bp br bh : Nat) (p : HR) (W : World) (h : FSt W bp br bh p) : Calls Tryz.prog 140 #[.pointer (some ⟨bp, 0, none⟩), .pointer (some ⟨bh, 0, none⟩)] W (FPost W bp br bh (fN0 p)) := by
  obtain ⟨n1, n2, n3⟩ := h.ne
  obtain ⟨⟨h0, h1, h2, h3, h4, h5, h6, h7, h8, h9⟩, r⟩ := p
  have HP := Lib.hid h.hp
  have HR := Lib.hid (show RdAt W br r from h.hr)
  have HH := Lib.hid (show W.heap[bh]? = some (.cells #[.int .i64 h0, .int .i64 h1, .int .i64 h2, .string h3, .string h4, .string h5, .int .i64 h6, .int .i64 h7, .string h8, .string h9] 102 (0, 0)) from h.hh)
  have c0 := cell_of_one HP.out
  clear h
  go_enter Tryz.func140, Tryz.ntmps140
  go_wp2_with fail
  refine (rnum_any br r W HR.out).mono ?_
  rintro e W1 ⟨rfl, hr1, hg1⟩
  have HP1 := Lib.hid ((hg1.block bp (cell_lt_of HP.out) (fun e => n1 (Option.some.inj e))).trans HP.out)
  have HH1 := Lib.hid ((hg1.block bh (cell_lt_of HH.out) (fun e => n3 (Option.some.inj e))).trans HH.out)
  have HR1 := Lib.hid hr1
  have HG1 := Lib.hid hg1
  obtain ⟨⟨_, _, _, _, _, _, _, _, _, _⟩, hf⟩ := ten_cells HH1.out
  have hf := hf 0
  clear hr1 hg1
  go_wp2_with fail
  go_end0
  refine ⟨⟨_, rfl⟩, ⟨(Below.heap_setCell W1 ⟨bh, 0, none⟩ _ bp n2).trans HP1.out, (Below.heap_setCell W1 ⟨bh, 0, none⟩ _ br (Ne.symm n3)).trans HR1.out, blk_set HH1.out 0 _⟩, (Turn2.of_left bh HG1.out).trans (Turn2.of_right br (gb_set1 W1 bh 0 _))⟩

theorem fN1_any (bp br bh : Nat) (p : HR) (W : World) (h : FSt W bp br bh p) : Calls Tryz.prog 142 #[.pointer (some ⟨bp, 0, none⟩), .pointer (some ⟨bh, 0, none⟩)] W (FPost W bp br bh (fN1 p)) := by
  obtain ⟨n1, n2, n3⟩ := h.ne
  obtain ⟨⟨h0, h1, h2, h3, h4, h5, h6, h7, h8, h9⟩, r⟩ := p
  have HP := Lib.hid h.hp
  have HR := Lib.hid (show RdAt W br r from h.hr)
  have HH := Lib.hid (show W.heap[bh]? = some (.cells #[.int .i64 h0, .int .i64 h1, .int .i64 h2, .string h3, .string h4, .string h5, .int .i64 h6, .int .i64 h7, .string h8, .string h9] 102 (0, 0)) from h.hh)
  have c0 := cell_of_one HP.out
  clear h
  go_enter Tryz.func142, Tryz.ntmps142
  go_wp2_with fail
  refine (digit_any br r W HR.out).mono ?_
  rintro e W1 ⟨rfl, hr1, hg1⟩
  have HP1 := Lib.hid ((hg1.block bp (cell_lt_of HP.out) (fun e => n1 (Option.some.inj e))).trans HP.out)
  have HH1 := Lib.hid ((hg1.block bh (cell_lt_of HH.out) (fun e => n3 (Option.some.inj e))).trans HH.out)
  have HR1 := Lib.hid hr1
  have HG1 := Lib.hid hg1
  obtain ⟨⟨_, _, _, _, _, _, _, _, _, _⟩, hf⟩ := ten_cells HH1.out
  have hf := hf 1
  clear hr1 hg1
  go_wp2_with fail
  go_end0
  refine ⟨⟨_, rfl⟩, ⟨(Below.heap_setCell W1 ⟨bh, 1, none⟩ _ bp n2).trans HP1.out, (Below.heap_setCell W1 ⟨bh, 1, none⟩ _ br (Ne.symm n3)).trans HR1.out, blk_set HH1.out 1 _⟩, (Turn2.of_left bh HG1.out).trans (Turn2.of_right br (gb_set1 W1 bh 1 _))⟩

theorem fN2_any (bp br bh : Nat) (p : HR) (W : World) (h : FSt W bp br bh p) : Calls Tryz.prog 144 #[.pointer (some ⟨bp, 0, none⟩), .pointer (some ⟨bh, 0, none⟩)] W (FPost W bp br bh (fN2 p)) := by
  obtain ⟨n1, n2, n3⟩ := h.ne
  obtain ⟨⟨h0, h1, h2, h3, h4, h5, h6, h7, h8, h9⟩, r⟩ := p
  have HP := Lib.hid h.hp
  have HR := Lib.hid (show RdAt W br r from h.hr)
  have HH := Lib.hid (show W.heap[bh]? = some (.cells #[.int .i64 h0, .int .i64 h1, .int .i64 h2, .string h3, .string h4, .string h5, .int .i64 h6, .int .i64 h7, .string h8, .string h9] 102 (0, 0)) from h.hh)
  have c0 := cell_of_one HP.out
  clear h
  go_enter Tryz.func144, Tryz.ntmps144
  go_wp2_with fail
  refine (digit_any br r W HR.out).mono ?_
  rintro e W1 ⟨rfl, hr1, hg1⟩
  have HP1 := Lib.hid ((hg1.block bp (cell_lt_of HP.out) (fun e => n1 (Option.some.inj e))).trans HP.out)
  have HH1 := Lib.hid ((hg1.block bh (cell_lt_of HH.out) (fun e => n3 (Option.some.inj e))).trans HH.out)
  have HR1 := Lib.hid hr1
  have HG1 := Lib.hid hg1
  obtain ⟨⟨_, _, _, _, _, _, _, _, _, _⟩, hf⟩ := ten_cells HH1.out
  have hf := hf 2
  clear hr1 hg1
  go_wp2_with fail
  go_end0
  refine ⟨⟨_, rfl⟩, ⟨(Below.heap_setCell W1 ⟨bh, 2, none⟩ _ bp n2).trans HP1.out, (Below.heap_setCell W1 ⟨bh, 2, none⟩ _ br (Ne.symm n3)).trans HR1.out, blk_set HH1.out 2 _⟩, (Turn2.of_left bh HG1.out).trans (Turn2.of_right br (gb_set1 W1 bh 2 _))⟩

theorem fN3_any (bp br bh : Nat) (p : HR) (W : World) (h : FSt W bp br bh p) : Calls Tryz.prog 145 #[.pointer (some ⟨bp, 0, none⟩), .pointer (some ⟨bh, 0, none⟩)] W (FPost W bp br bh (fN3 p)) := by
  obtain ⟨n1, n2, n3⟩ := h.ne
  obtain ⟨⟨h0, h1, h2, h3, h4, h5, h6, h7, h8, h9⟩, r⟩ := p
  have HP := Lib.hid h.hp
  have HR := Lib.hid (show RdAt W br r from h.hr)
  have HH := Lib.hid (show W.heap[bh]? = some (.cells #[.int .i64 h0, .int .i64 h1, .int .i64 h2, .string h3, .string h4, .string h5, .int .i64 h6, .int .i64 h7, .string h8, .string h9] 102 (0, 0)) from h.hh)
  have c0 := cell_of_one HP.out
  clear h
  go_enter Tryz.func145, Tryz.ntmps145
  go_wp2_with fail
  refine (take_any1 32 br r W HR.out (by omega)).mono ?_
  rintro e W1 ⟨rfl, hr1, hg1⟩
  have HP1 := Lib.hid ((hg1.block bp (cell_lt_of HP.out) (fun e => n1 (Option.some.inj e))).trans HP.out)
  have HH1 := Lib.hid ((hg1.block bh (cell_lt_of HH.out) (fun e => n3 (Option.some.inj e))).trans HH.out)
  have HR1 := Lib.hid hr1
  have HG1 := Lib.hid hg1
  obtain ⟨⟨_, _, _, _, _, _, _, _, _, _⟩, hf⟩ := ten_cells HH1.out
  have hf := hf 3
  clear hr1 hg1
  go_wp2_with fail
  go_end0
  refine ⟨⟨_, rfl⟩, ⟨(Below.heap_setCell W1 ⟨bh, 3, none⟩ _ bp n2).trans HP1.out, (Below.heap_setCell W1 ⟨bh, 3, none⟩ _ br (Ne.symm n3)).trans HR1.out, blk_set HH1.out 3 _⟩, (Turn2.of_left bh HG1.out).trans (Turn2.of_right br (gb_set1 W1 bh 3 _))⟩

theorem fN4_any (bp br bh : Nat) (p : HR) (W : World) (h : FSt W bp br bh p) : Calls Tryz.prog 147 #[.pointer (some ⟨bp, 0, none⟩), .pointer (some ⟨bh, 0, none⟩)] W (FPost W bp br bh (fN4 p)) := by
  obtain ⟨n1, n2, n3⟩ := h.ne
  obtain ⟨⟨h0, h1, h2, h3, h4, h5, h6, h7, h8, h9⟩, r⟩ := p
  have HP := Lib.hid h.hp
  have HR := Lib.hid (show RdAt W br r from h.hr)
  have HH := Lib.hid (show W.heap[bh]? = some (.cells #[.int .i64 h0, .int .i64 h1, .int .i64 h2, .string h3, .string h4, .string h5, .int .i64 h6, .int .i64 h7, .string h8, .string h9] 102 (0, 0)) from h.hh)
  have c0 := cell_of_one HP.out
  clear h
  go_enter Tryz.func147, Tryz.ntmps147
  go_wp2_with fail
  refine (take_any1 16 br r W HR.out (by omega)).mono ?_
  rintro e W1 ⟨rfl, hr1, hg1⟩
  have HP1 := Lib.hid ((hg1.block bp (cell_lt_of HP.out) (fun e => n1 (Option.some.inj e))).trans HP.out)
  have HH1 := Lib.hid ((hg1.block bh (cell_lt_of HH.out) (fun e => n3 (Option.some.inj e))).trans HH.out)
  have HR1 := Lib.hid hr1
  have HG1 := Lib.hid hg1
  obtain ⟨⟨_, _, _, _, _, _, _, _, _, _⟩, hf⟩ := ten_cells HH1.out
  have hf := hf 4
  clear hr1 hg1
  go_wp2_with fail
  go_end0
  refine ⟨⟨_, rfl⟩, ⟨(Below.heap_setCell W1 ⟨bh, 4, none⟩ _ bp n2).trans HP1.out, (Below.heap_setCell W1 ⟨bh, 4, none⟩ _ br (Ne.symm n3)).trans HR1.out, blk_set HH1.out 4 _⟩, (Turn2.of_left bh HG1.out).trans (Turn2.of_right br (gb_set1 W1 bh 4 _))⟩

theorem fN5_any (bp br bh : Nat) (p : HR) (W : World) (h : FSt W bp br bh p) : Calls Tryz.prog 148 #[.pointer (some ⟨bp, 0, none⟩), .pointer (some ⟨bh, 0, none⟩)] W (FPost W bp br bh (fN5 p)) := by
  obtain ⟨n1, n2, n3⟩ := h.ne
  obtain ⟨⟨h0, h1, h2, h3, h4, h5, h6, h7, h8, h9⟩, r⟩ := p
  have HP := Lib.hid h.hp
  have HR := Lib.hid (show RdAt W br r from h.hr)
  have HH := Lib.hid (show W.heap[bh]? = some (.cells #[.int .i64 h0, .int .i64 h1, .int .i64 h2, .string h3, .string h4, .string h5, .int .i64 h6, .int .i64 h7, .string h8, .string h9] 102 (0, 0)) from h.hh)
  have c0 := cell_of_one HP.out
  clear h
  go_enter Tryz.func148, Tryz.ntmps148
  go_wp2_with fail
  refine (take_any1 32 br r W HR.out (by omega)).mono ?_
  rintro e W1 ⟨rfl, hr1, hg1⟩
  have HP1 := Lib.hid ((hg1.block bp (cell_lt_of HP.out) (fun e => n1 (Option.some.inj e))).trans HP.out)
  have HH1 := Lib.hid ((hg1.block bh (cell_lt_of HH.out) (fun e => n3 (Option.some.inj e))).trans HH.out)
  have HR1 := Lib.hid hr1
  have HG1 := Lib.hid hg1
  obtain ⟨⟨_, _, _, _, _, _, _, _, _, _⟩, hf⟩ := ten_cells HH1.out
  have hf := hf 5
  clear hr1 hg1
  go_wp2_with fail
  go_end0
  refine ⟨⟨_, rfl⟩, ⟨(Below.heap_setCell W1 ⟨bh, 5, none⟩ _ bp n2).trans HP1.out, (Below.heap_setCell W1 ⟨bh, 5, none⟩ _ br (Ne.symm n3)).trans HR1.out, blk_set HH1.out 5 _⟩, (Turn2.of_left bh HG1.out).trans (Turn2.of_right br (gb_set1 W1 bh 5 _))⟩

theorem fX0_any (bp br bh : Nat) (p : HR) (W : World) (h : FSt W bp br bh p) : Calls Tryz.prog 150 #[.pointer (some ⟨bp, 0, none⟩), .pointer (some ⟨bh, 0, none⟩)] W (FPost W bp br bh (fX0 p)) := by
  obtain ⟨n1, n2, n3⟩ := h.ne
  obtain ⟨⟨h0, h1, h2, h3, h4, h5, h6, h7, h8, h9⟩, r⟩ := p
  have HP := Lib.hid h.hp
  have HR := Lib.hid (show RdAt W br r from h.hr)
  have HH := Lib.hid (show W.heap[bh]? = some (.cells #[.int .i64 h0, .int .i64 h1, .int .i64 h2, .string h3, .string h4, .string h5, .int .i64 h6, .int .i64 h7, .string h8, .string h9] 102 (0, 0)) from h.hh)
  have c0 := cell_of_one HP.out
  clear h
  go_enter Tryz.func150, Tryz.ntmps150
  go_wp2_with fail
  refine (rnum_any br r W HR.out).mono ?_
  rintro e W1 ⟨rfl, hr1, hg1⟩
  have HP1 := Lib.hid ((hg1.block bp (cell_lt_of HP.out) (fun e => n1 (Option.some.inj e))).trans HP.out)
  have HH1 := Lib.hid ((hg1.block bh (cell_lt_of HH.out) (fun e => n3 (Option.some.inj e))).trans HH.out)
  have HR1 := Lib.hid hr1
  have HG1 := Lib.hid hg1
  obtain ⟨⟨_, _, _, _, _, _, _, _, _, _⟩, hf⟩ := ten_cells HH1.out
  have hf := hf 6
  clear hr1 hg1
  go_wp2_with fail
  go_end0
  refine ⟨⟨_, rfl⟩, ⟨(Below.heap_setCell W1 ⟨bh, 6, none⟩ _ bp n2).trans HP1.out, (Below.heap_setCell W1 ⟨bh, 6, none⟩ _ br (Ne.symm n3)).trans HR1.out, blk_set HH1.out 6 _⟩, (Turn2.of_left bh HG1.out).trans (Turn2.of_right br (gb_set1 W1 bh 6 _))⟩

theorem fX1_any (bp br bh : Nat) (p : HR) (W : World) (h : FSt W bp br bh p) : Calls Tryz.prog 151 #[.pointer (some ⟨bp, 0, none⟩), .pointer (some ⟨bh, 0, none⟩)] W (FPost W bp br bh (fX1 p)) := by
  obtain ⟨n1, n2, n3⟩ := h.ne
  obtain ⟨⟨h0, h1, h2, h3, h4, h5, h6, h7, h8, h9⟩, r⟩ := p
  have HP := Lib.hid h.hp
  have HR := Lib.hid (show RdAt W br r from h.hr)
  have HH := Lib.hid (show W.heap[bh]? = some (.cells #[.int .i64 h0, .int .i64 h1, .int .i64 h2, .string h3, .string h4, .string h5, .int .i64 h6, .int .i64 h7, .string h8, .string h9] 102 (0, 0)) from h.hh)
  have c0 := cell_of_one HP.out
  clear h
  go_enter Tryz.func151, Tryz.ntmps151
  go_wp2_with fail
  refine (digit_any br r W HR.out).mono ?_
  rintro e W1 ⟨rfl, hr1, hg1⟩
  have HP1 := Lib.hid ((hg1.block bp (cell_lt_of HP.out) (fun e => n1 (Option.some.inj e))).trans HP.out)
  have HH1 := Lib.hid ((hg1.block bh (cell_lt_of HH.out) (fun e => n3 (Option.some.inj e))).trans HH.out)
  have HR1 := Lib.hid hr1
  have HG1 := Lib.hid hg1
  obtain ⟨⟨_, _, _, _, _, _, _, _, _, _⟩, hf⟩ := ten_cells HH1.out
  have hf := hf 7
  clear hr1 hg1
  go_wp2_with fail
  go_end0
  refine ⟨⟨_, rfl⟩, ⟨(Below.heap_setCell W1 ⟨bh, 7, none⟩ _ bp n2).trans HP1.out, (Below.heap_setCell W1 ⟨bh, 7, none⟩ _ br (Ne.symm n3)).trans HR1.out, blk_set HH1.out 7 _⟩, (Turn2.of_left bh HG1.out).trans (Turn2.of_right br (gb_set1 W1 bh 7 _))⟩

theorem fX2_any (bp br bh : Nat) (p : HR) (W : World) (h : FSt W bp br bh p) : Calls Tryz.prog 152 #[.pointer (some ⟨bp, 0, none⟩), .pointer (some ⟨bh, 0, none⟩)] W (FPost W bp br bh (fX2 p)) := by
  obtain ⟨n1, n2, n3⟩ := h.ne
  obtain ⟨⟨h0, h1, h2, h3, h4, h5, h6, h7, h8, h9⟩, r⟩ := p
  have HP := Lib.hid h.hp
  have HR := Lib.hid (show RdAt W br r from h.hr)
  have HH := Lib.hid (show W.heap[bh]? = some (.cells #[.int .i64 h0, .int .i64 h1, .int .i64 h2, .string h3, .string h4, .string h5, .int .i64 h6, .int .i64 h7, .string h8, .string h9] 102 (0, 0)) from h.hh)
  have c0 := cell_of_one HP.out
  clear h
  go_enter Tryz.func152, Tryz.ntmps152
  go_wp2_with fail
  refine (take_any1 32 br r W HR.out (by omega)).mono ?_
  rintro e W1 ⟨rfl, hr1, hg1⟩
  have HP1 := Lib.hid ((hg1.block bp (cell_lt_of HP.out) (fun e => n1 (Option.some.inj e))).trans HP.out)
  have HH1 := Lib.hid ((hg1.block bh (cell_lt_of HH.out) (fun e => n3 (Option.some.inj e))).trans HH.out)
  have HR1 := Lib.hid hr1
  have HG1 := Lib.hid hg1
  obtain ⟨⟨_, _, _, _, _, _, _, _, _, _⟩, hf⟩ := ten_cells HH1.out
  have hf := hf 8
  clear hr1 hg1
  go_wp2_with fail
  go_end0
  refine ⟨⟨_, rfl⟩, ⟨(Below.heap_setCell W1 ⟨bh, 8, none⟩ _ bp n2).trans HP1.out, (Below.heap_setCell W1 ⟨bh, 8, none⟩ _ br (Ne.symm n3)).trans HR1.out, blk_set HH1.out 8 _⟩, (Turn2.of_left bh HG1.out).trans (Turn2.of_right br (gb_set1 W1 bh 8 _))⟩

theorem fX3_any (bp br bh : Nat) (p : HR) (W : World) (h : FSt W bp br bh p) : Calls Tryz.prog 153 #[.pointer (some ⟨bp, 0, none⟩), .pointer (some ⟨bh, 0, none⟩)] W (FPost W bp br bh (fX3 p)) := by
  obtain ⟨n1, n2, n3⟩ := h.ne
  obtain ⟨⟨h0, h1, h2, h3, h4, h5, h6, h7, h8, h9⟩, r⟩ := p
  have HP := Lib.hid h.hp
  have HR := Lib.hid (show RdAt W br r from h.hr)
  have HH := Lib.hid (show W.heap[bh]? = some (.cells #[.int .i64 h0, .int .i64 h1, .int .i64 h2, .string h3, .string h4, .string h5, .int .i64 h6, .int .i64 h7, .string h8, .string h9] 102 (0, 0)) from h.hh)
  have c0 := cell_of_one HP.out
  clear h
  go_enter Tryz.func153, Tryz.ntmps153
  go_wp2_with fail
  refine (take_any1 16 br r W HR.out (by omega)).mono ?_
  rintro e W1 ⟨rfl, hr1, hg1⟩
  have HP1 := Lib.hid ((hg1.block bp (cell_lt_of HP.out) (fun e => n1 (Option.some.inj e))).trans HP.out)
  have HH1 := Lib.hid ((hg1.block bh (cell_lt_of HH.out) (fun e => n3 (Option.some.inj e))).trans HH.out)
  have HR1 := Lib.hid hr1
  have HG1 := Lib.hid hg1
  obtain ⟨⟨_, _, _, _, _, _, _, _, _, _⟩, hf⟩ := ten_cells HH1.out
  have hf := hf 9
  clear hr1 hg1
  go_wp2_with fail
  go_end0
  refine ⟨⟨_, rfl⟩, ⟨(Below.heap_setCell W1 ⟨bh, 9, none⟩ _ bp n2).trans HP1.out, (Below.heap_setCell W1 ⟨bh, 9, none⟩ _ br (Ne.symm n3)).trans HR1.out, blk_set HH1.out 9 _⟩, (Turn2.of_left bh HG1.out).trans (Turn2.of_right br (gb_set1 W1 bh 9 _))⟩

/- HoldRd -/
open Go.RowKit
set_option linter.unusedVariables false
set_option maxRecDepth 100000
set_option maxHeartbeats 1000000

/-- A field's closure. -/
def FieldV (bp br bh : Nat) (v : Value) (f : HR → HR) : Prop :=
  ∃ fid, v = .func (.func fid) #[] #[.pointer (some ⟨bp, 0, none⟩), .pointer (some ⟨bh, 0, none⟩)] ∧ (∀ args W, (callFunc fid args).run Tryz.prog W = .ok (.enter fid args) W) ∧ ∀ p W, FSt W bp br bh p → Calls Tryz.prog fid #[.pointer (some ⟨bp, 0, none⟩), .pointer (some ⟨bh, 0, none⟩)] W (FPost W bp br bh (f p))
theorem text_emp (s : ByteArray) : (s.toList == []) = decide (s.size = 0) := by
  by_cases h : s.size = 0
  · rw [(toList_nil s).2 h, decide_eq_true h]; rfl
  · rw [decide_eq_false h]
    exact beq_eq_false_iff_ne.2 fun e => h ((toList_nil s).1 e)
theorem runF_snoc (l : List (HR → HR)) (f : HR → HR) (p : HR) : runF (l ++ [f]) p = f (runF l p) := by simp [runF]
theorem readF_any (bp br bh bS n : Nat) (vs : List Value) (T : TypeId) (fs : List (HR → HR)) (p : HR) (w : World) (h : FSt w bp br bh p) (hS : w.heap[bS]? = some (.cells vs.toArray T (0, 0))) (h1 : bS ≠ br) (h2 : bS ≠ bh) (hn : n = fs.length) (hv : vs.length = fs.length) (hF : ∀ (i : Nat) (v : Value) (f : HR → HR), vs[i]? = some v → fs[i]? = some f → FieldV bp br bh v f) (hn9 : n ≤ 100) :
    Calls Tryz.prog 139 #[.pointer (some ⟨br, 0, none⟩), .slice (some ⟨bS, 0, none⟩) n n] w fun e w' => e = .returned (.bool (fineR (runF fs p).2)) ∧ FSt w' bp br bh (runF fs p) ∧ Turn2 w w' br bh := by
  have H := Lib.hid h
  have HS := Lib.hid hS
  have HN := Lib.hid hn
  have HV := Lib.hid hv
  have HF := Lib.hid hF
  clear h hS hn hv hF
  go_enter Tryz.func139, Tryz.ntmps139
  go_wp2_with fail
  go_loopw [9] (fun x wr => ∃ k : Nat, k ≤ n ∧ x = .int .i64 (k : Nat) ∧ FSt wr bp br bh (runF (fs.take k) p) ∧ Turn2 w wr br bh) (fun x _ => n - (intOf x).toNat)
  case atStart => exact ⟨0, by omega, rfl, H.out, Turn2.refl _ _ _⟩
  case round =>
    obtain ⟨k, hk, rfl, hf, ht⟩ := hrel
    have HFk := Lib.hid hf
    have HTk := Lib.hid ht
    clear hf ht
    by_cases hlt : k < n
    · have hkl : k < fs.length := by rw [← HN.out]; exact hlt
      have hkv : k < vs.length := by rw [HV.out]; exact hkl
      have c0 : wr.cell? ⟨bS, k, none⟩ = some vs[k] := by
        rw [cell_of_row wr bS k _ _ _ ((HTk.out.block bS (cell_lt_of HS.out) h1 h2).trans HS.out)]
        simp [hkv]
      obtain ⟨fid, hv, hent, hcall⟩ := HF.out k vs[k] fs[k] (by simp [hkv]) (by simp [hkl])
      rw [hv] at c0
      have Hs := Lib.hid (show runF (fs.take (k + 1)) p = fs[k] (runF (fs.take k) p) by rw [List.take_succ_eq_append_getElem hkl, runF_snoc])
      have HC := Lib.hid (hcall _ wr HFk.out)
      have hk1 : (k : Int) < (n : Int) := by omega
      clear hcall hv
      go_wp2_with fail
      refine Calls.mono HC.out ?_
      rintro e w1 ⟨⟨v, rfl⟩, hf1, ht1⟩
      have HF1 := Lib.hid hf1
      have HT1 := Lib.hid ht1
      clear hf1 ht1 c0
      go_wp2_with fail
      go_roundw
      case rel => exact ⟨k + 1, by omega, by go_num, by rw [Hs.out]; exact HF1.out, HTk.out.trans HT1.out⟩
      case measure => simp [intOf]; omega
    · obtain rfl : k = n := by omega
      have hkk : ¬ (k : Int) < (k : Int) := by omega
      have HFn := Lib.hid (show FSt wr bp br bh (runF fs p) by
        have := HFk.out
        rw [List.take_of_length_le (by rw [HN.out]; exact Nat.le_refl _)] at this
        exact this)
      obtain ⟨q, hq⟩ : ∃ q, q = runF fs p := ⟨_, rfl⟩
      rw [← hq] at HFn
      have Hq := Lib.hid hq
      obtain ⟨hh, ⟨rest, bad⟩⟩ := q
      obtain ⟨x0, x1, _, _⟩ := two_cells (show wr.heap[br]? = some (.cells #[.string rest, .bool bad] 217 (0, 0)) from HFn.out.hr)
      have hte := text_emp rest
      clear hq HFk
      cases bad with
      | true =>
        go_wp2_with fail
        go_ret
        rw [← Hq.out]
        exact ⟨rfl, HFn.out, HTk.out⟩
      | false =>
        by_cases hz : rest.size = 0
        · have e1 := (toList_nil rest).2 hz
          have HE := Lib.hid (show fineR ⟨rest, false⟩ = true by simp [fineR, hz])
          clear hte
          go_wp2_with fail
          go_ret
          rw [← Hq.out, HE.out]
          exact ⟨rfl, HFn.out, HTk.out⟩
        · have e1 : rest.toList.isEmpty = false := toList_some rest hz
          have e2 : ¬ rest.toList = [] := fun e => hz ((toList_nil rest).1 e)
          have HE := Lib.hid (show fineR ⟨rest, false⟩ = false by simp [fineR, hz])
          clear hte
          go_wp2_with fail
          go_ret
          rw [← Hq.out, HE.out]
          exact ⟨rfl, HFn.out, HTk.out⟩

end Go.Proofs.YtkbjmmigjjdfpaaGreatDoor
