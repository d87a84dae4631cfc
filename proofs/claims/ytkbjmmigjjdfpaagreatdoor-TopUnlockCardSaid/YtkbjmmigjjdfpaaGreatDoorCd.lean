/-
  Contracts of change.must, dealt.
  Contract of change.Deal: it defers a function that recovers.
  Contract of change.Check.
-/
import Derived.Test.YtkbjmmigjjdfpaaGreatDoorCt
import Derived.Test.YtkbjmmigjjdfpaaGreatDoorOd
import Derived.Test.YtkbjmmigjjdfpaaGreatDoorPm
import Derived.Test.YtkbjmmigjjdfpaaGreatDoorMe
import Derived.Test.YtkbjmmigjjdfpaaGreatDoorCopyA
import Derived.Test.YtkbjmmigjjdfpaaGreatDoorHr
import Derived.WalkLawsBesides
import Derived.Deep.Cut
import Derived.Defers
import Derived.Recover
namespace Go.Proofs.YtkbjmmigjjdfpaaGreatDoor
/- ChD -/
open Go.RowKit
set_option linter.unusedVariables false
set_option linter.unusedSimpArgs false
set_option maxRecDepth 100000
set_option maxHeartbeats 8000000

theorem mustS_any (s : ByteArray) (w : World) : Calls Tryz.prog 35 #[.string s, .int .i64 0] w fun e w' => e = .returned (.string s) ∧ w' = w := by
  go_enter Tryz.func35, Tryz.ntmps35
  go_wp2_with fail
  go_ret
  exact ⟨rfl, rfl⟩
theorem mustH_any (A : Option Addr) (n c : Nat) (w : World) : Calls Tryz.prog 37 #[.slice A n c, .int .i64 0] w fun e w' => e = .returned (.slice A n c) ∧ w' = w := by
  go_enter Tryz.func37, Tryz.ntmps37
  go_wp2_with fail
  go_ret
  exact ⟨rfl, rfl⟩
theorem mustT_any (A : Option Addr) (n c : Nat) (w : World) : Calls Tryz.prog 39 #[.slice A n c, .int .i64 0] w fun e w' => e = .returned (.slice A n c) ∧ w' = w := by
  go_enter Tryz.func39, Tryz.ntmps39
  go_wp2_with fail
  go_ret
  exact ⟨rfl, rfl⟩
/-- What a panic of ErrMember leaves. -/
def panicE (x : Int) : Ending := .panicked [{ v := .iface 30 (.int .i64 x), recovered := false }]
abbrev zDeal : Array Value := #[.int .i64 0, .int .i64 0, .slice none 0 0, .slice none 0 0, .string ⟨#[]⟩, .slice none 0 0, .slice none 0 0]
def FarA (B0 : Nat) (A : Option Addr) : Prop := ∀ b o, A = some ⟨b, o, none⟩ → B0 ≤ b
theorem own_farA {w : World} {B0 : Nat} {e : TypeId} {size : Nat} {A : Option Addr} {n c m : Nat} {xs : List Value} (h : w.ownsRow B0 e size (.slice A n c) m xs) {B1 : Nat} (hB : B1 ≤ B0) : FarA B1 A := by
  intro b o hA
  rcases h.2 with ⟨hv, _⟩ | ⟨g, cap, cur, hv, hg, _⟩
  · injection hv with hv; rw [hA] at hv; cases hv
  · injection hv with hv
    rw [hA] at hv
    injection hv with hv
    injection hv with hv
    omega
/-- A deal whose rows lie in blocks behind a base. -/
def DVF (B0 : Nat) (w : World) (v : Value) (D : Deal) : Prop := ∃ A n c B m d C p q E s t, v = .agg #[.int .i64 D.r.e, .int .i64 D.r.k, .slice A n c, .slice B m d, .string D.sec, .slice C p q, .slice E s t] ∧ Rd w A (textsV D.r.ns) ∧ n = D.r.ns.length ∧ Rd w B (textsV D.r.ps) ∧ m = D.r.ps.length ∧ Rd w C (sharesV D.sh) ∧ p = D.sh.length ∧ Rd w E (textsV D.sa) ∧ s = D.sa.length ∧ FarA B0 A ∧ FarA B0 B ∧ FarA B0 C ∧ FarA B0 E
def DealtR (w : World) (seed : ByteArray) (ns : List ByteArray) (k ep : Int) (E : Ending) (w' : World) : Prop :=
  ((cOK seed ns k ep = true ∧ ∃ v, E = .returned v ∧ DVF w.heap.size w' v (dealC seed ns k ep)) ∨ (cOK seed ns k ep = false ∧ ∃ x, E = panicE x)) ∧ Below w.heap.size w w'
theorem dealt_head (seed : ByteArray) (ns : List ByteArray) (A : Option Addr) (n c : Nat) (k ep : Int) (w : World) (hn : n = ns.length) (hn9 : n ≤ maxLen) (h : cHead ns k = false) :
    Calls Tryz.prog 19 #[.string seed, .slice A n c, .int .i64 k, .int .i64 ep] w (DealtR w seed ns k ep) := by
  have hc : cOK seed ns k ep = false := by unfold cOK; rw [h]; rfl
  have HC := Lib.hid hc
  have hb := (Below.refl w.heap.size w).alloc (Nat.le_refl _) (.cells zDeal 29)
  have HB := Lib.hid hb
  have hbad : 16 < n ∨ k < 1 ∨ (n : Int) < k := by
    rw [hn]
    rcases Nat.lt_or_ge 16 ns.length with h1 | h1
    · exact .inl h1
    · rcases Int.lt_or_le k 1 with h2 | h2
      · exact .inr (.inl h2)
      · rcases Int.lt_or_le (ns.length : Int) k with h3 | h3
        · exact .inr (.inr h3)
        · unfold cHead at h
          rw [decide_eq_true h1, decide_eq_true h2, decide_eq_true h3] at h
          cases h
  unfold maxLen at hn9
  clear hn h hc hb
  by_cases h1 : 16 < n
  · have d1 : decide ((n : Int) > 16) = true := decide_eq_true (by omega)
    clear hbad
    go_enter Tryz.func19, Tryz.ntmps19
    go_wp2_with fail
    exact ⟨rfl, .inr ⟨HC.out, 180, rfl⟩, HB.out⟩
  have d1 : decide ((n : Int) > 16) = false := decide_eq_false (by omega)
  by_cases h2 : k < 1
  · have d2 : decide (k < 1) = true := decide_eq_true h2
    clear hbad
    go_enter Tryz.func19, Tryz.ntmps19
    go_wp2_with fail
    exact ⟨rfl, .inr ⟨HC.out, 180, rfl⟩, HB.out⟩
  have d2 : decide (k < 1) = false := decide_eq_false h2
  have h3 : (n : Int) < k := by omega
  have d3 : decide (k > (n : Int)) = true := decide_eq_true h3
  clear hbad
  go_enter Tryz.func19, Tryz.ntmps19
  go_wp2_with fail
  exact ⟨rfl, .inr ⟨HC.out, 180, rfl⟩, HB.out⟩
theorem mustS_no (s : ByteArray) (x : Int) (hx : x ≠ 0) (w : World) : Calls Tryz.prog 35 #[.string s, .int .i64 x] w fun e w' => e = panicE x ∧ w' = w := by
  have d1 : (x != 0) = true := by simpa using hx
  go_enter Tryz.func35, Tryz.ntmps35
  go_wp2_with fail
  exact ⟨rfl, rfl, rfl⟩
/-- A seed that is too long makes an empty tape. -/
theorem new_big (B0 : Nat) (seed : ByteArray) (w : World) (hs : ¬ seed.size ≤ 1000000000) (hR : Rounds w) (hB0 : B0 ≤ w.heap.size) :
    Calls Tryz.prog 34 #[.string seed] w (OfPost B0 [] w) := by
  have hk : sumB seed = none0 := by unfold sumB; rw [if_neg hs]
  have HS := dsum_any seed w hR
  rw [hk] at HS
  replace HS := Lib.hid HS
  clear hk hs hR
  go_enter Tryz.func34, Tryz.ntmps34
  go_wp2_with fail
  refine HS.out.mono ?_
  rintro e w1 ⟨rfl, hb1⟩
  have HB := Lib.hid hb1
  clear hb1
  go_wp2_with fail
  refine (repeat_b ⟨#[0]⟩ 12 _ (by decide) (by decide)).mono ?_
  rintro e w2 ⟨rfl, hb2⟩
  rw [rep0]
  have hk2 := keep_one hb2
  have hlt2 : w1.heap.size < w2.heap.size := cell_lt_of hk2
  have ck : w2.cell? ⟨w1.heap.size, 0, none⟩ = some (.string none0) := cell_of_one hk2
  replace HB := Lib.hid (Below.chain_alloc HB.out hb2)
  clear hk2 hb2
  have hne : w2.heap.size ≠ w1.heap.size := by omega
  go_wp2_with fail
  refine (block_no none0 (bs nonce0) 0 _ (by decide) (by decide) (fun h => absurd h.1 (by decide))).mono ?_
  rintro e w3 ⟨rfl, hb3⟩
  have HB3 := Lib.hid (Below.chain_alloc HB.out hb3)
  clear hb3
  go_wp2_with fail
  refine (of_any B0 ⟨#[]⟩ _ (by decide) (Nat.le_trans hB0 HB3.out.size)).mono ?_
  rintro e w4 ⟨t, rfl, ht, hi, hb4⟩
  have HB4 := Lib.hid (Below.chain HB3.out hb4)
  have HI := Lib.hid hi
  have Ht := Lib.hid (Nat.le_trans HB3.out.size ht)
  clear hb4 hi ht
  go_wp2_with fail
  go_ret
  exact ⟨t, rfl, Ht.out, HI.out, HB4.out⟩
theorem dealt_big (seed : ByteArray) (ns : List ByteArray) (A : Option Addr) (n c : Nat) (k ep : Int) (w : World) (hn : n = ns.length) (hh : cHead ns k = true) (hs : ¬ seed.size ≤ 1000000000) (hR : Rounds w) :
    Calls Tryz.prog 19 #[.string seed, .slice A n c, .int .i64 k, .int .i64 ep] w (DealtR w seed ns k ep) := by
  obtain ⟨h16, hk1, hkn⟩ := cHead_parts hh
  have HC := Lib.hid (show cOK seed ns k ep = false by unfold cOK; rw [decide_eq_false hs, Bool.and_false]; rfl)
  have hb0 := (Below.refl w.heap.size w).alloc (Nat.le_refl _) (.cells zDeal 29)
  have HB := Lib.hid hb0
  have HNw := Lib.hid (new_big _ seed _ hs (hR.below hb0) (Nat.le_refl _))
  have d1 : decide ((n : Int) > 16) = false := decide_eq_false (by omega)
  have d2 : decide (k < 1) = false := decide_eq_false (by omega)
  have d3 : decide (k > (n : Int)) = false := decide_eq_false (by omega)
  clear hh hn hs hR hb0 h16 hk1 hkn
  go_enter Tryz.func19, Tryz.ntmps19
  go_wp2_with fail
  refine HNw.out.mono ?_
  rintro e w1 ⟨t, rfl, hwt, hi, hb1⟩
  have HB1 := Lib.hid (Below.chain HB.out hb1)
  have HI := Lib.hid hi
  clear hwt hi hb1
  go_wp2_with fail
  refine (take_more t [] 0 32 w1 HI.out (by simp)).mono ?_
  rintro e w2 ⟨rfl, hb2⟩
  have HB2 := Lib.hid (Below.chain HB1.out hb2)
  clear hb2
  go_wp2_with fail
  refine (mustS_no _ _ (by decide) _).mono ?_
  rintro e w3 ⟨rfl, rfl⟩
  exact ⟨rfl, .inr ⟨HC.out, 120, rfl⟩, HB2.out⟩
theorem gb_blk' {w w' : World} {g b : Nat} {o : Obj} (hg : w.grownBy w' (some g)) (h : w.heap[b]? = some o) (hne : b ≠ g) : w'.heap[b]? = some o := by
  have hlt : b < w.heap.size := by
    rcases Nat.lt_or_ge b w.heap.size with h' | h'
    · exact h'
    · rw [Array.getElem?_eq_none h'] at h; cases h
  exact (hg.block b hlt (fun e => hne (Option.some.inj e))).trans h
theorem gb_by' {w w' : World} {g B : Nat} (h : w.grownBy w' (some g)) (hB : B ≤ g) (hB2 : B ≤ w.heap.size) : Below B w w' :=
  ⟨h.os, h.tape, h.output, h.size, fun k hk => h.block k (by omega) (fun e => by injection e; omega)⟩
theorem own_agree {w w' : World} {B : Nat} {e : TypeId} {size : Nat} {v : Value} {n : Nat} {xs : List Value} (h : w.ownsRow B e size v n xs) (hw : ∀ i, B ≤ i ∧ i < w.heap.size → w'.heap[i]? = w.heap[i]?) {B' : Nat} (hB : B' ≤ B) : w'.ownsRow B' e size v n xs := by
  refine ⟨h.1, ?_⟩
  rcases h.2 with h2 | ⟨g, cap, cur, hv, hg, hh, r⟩
  · exact .inl h2
  · exact .inr ⟨g, cap, cur, hv, Nat.le_trans hB hg, (hw g ⟨hg, cell_lt_of hh⟩).trans hh, r⟩
theorem rec_cells {w : World} {g : Nat} {t : TypeId} {a b c d : Value} (h : w.heap[g]? = some (.cells #[a, b, c, d] t (0, 0))) : w.cell? ⟨g, 0, none⟩ = some a ∧ w.cell? ⟨g, 1, none⟩ = some b ∧ w.cell? ⟨g, 2, none⟩ = some c ∧ w.cell? ⟨g, 3, none⟩ = some d :=
  ⟨cell_in h 0 _ rfl, cell_in h 1 _ rfl, cell_in h 2 _ rfl, cell_in h 3 _ rfl⟩
theorem seven_cells {w : World} {g : Nat} {t : TypeId} {a0 a1 a2 a3 a4 a5 a6 : Value} (h : w.heap[g]? = some (.cells #[a0, a1, a2, a3, a4, a5, a6] t (0, 0))) :
    (w.cell? ⟨g, 0, none⟩ = some a0 ∧ w.cell? ⟨g, 1, none⟩ = some a1 ∧ w.cell? ⟨g, 2, none⟩ = some a2 ∧ w.cell? ⟨g, 3, none⟩ = some a3 ∧ w.cell? ⟨g, 4, none⟩ = some a4 ∧ w.cell? ⟨g, 5, none⟩ = some a5 ∧ w.cell? ⟨g, 6, none⟩ = some a6) ∧ ∀ i, w.frozen? ⟨g, i, none⟩ = false :=
  ⟨⟨cell_in h 0 _ rfl, cell_in h 1 _ rfl, cell_in h 2 _ rfl, cell_in h 3 _ rfl, cell_in h 4 _ rfl, cell_in h 5 _ rfl, cell_in h 6 _ rfl⟩, fun i => frozen_of_row w g i _ _ h⟩
/-- A block that is there, and below a base, stays. -/
theorem own_low {w w' : World} {B B1 : Nat} {e : TypeId} {size : Nat} {v : Value} {n : Nat} {xs : List Value} (h : w.ownsRow B e size v n xs) (hb : Below B1 w w') (hlt : ∀ k, v.ownBlock = some k → k < B1) : w'.ownsRow B e size v n xs := by
  refine ⟨h.1, ?_⟩
  rcases h.2 with h2 | ⟨g, cap, cur, hv, hg, hh, r⟩
  · exact .inl h2
  · subst hv
    exact .inr ⟨g, cap, cur, rfl, hg, (hb.block g (hlt g rfl)).trans hh, r⟩
theorem rd_low {w w' : World} {B1 : Nat} {A : Option Addr} {xs : List Value} (h : Rd w A xs) (hb : Below B1 w w') (hlt : ∀ b o, A = some ⟨b, o, none⟩ → b < B1) : Rd w' A xs := fun i u hu => by
  obtain ⟨b, off, hA, hc⟩ := h i u hu
  exact ⟨b, off, hA, (World.cell?_of_block (hb.block b (hlt b off hA))).trans hc⟩
theorem rd_gb {w w' : World} {t : Nat} {A : Option Addr} {xs : List Value} (h : Rd w A xs) (hg : w.grownBy w' (some t)) (hlt : ∀ b o, A = some ⟨b, o, none⟩ → b ≠ t) : Rd w' A xs := fun i u hu => by
  obtain ⟨b, off, hA, hc⟩ := h i u hu
  exact ⟨b, off, hA, (World.cell?_of_block (hg.block b (cell_lt hc) (fun e => hlt b off hA (Option.some.inj e)))).trans hc⟩
theorem dealt_any (seed : ByteArray) (ns : List ByteArray) (A : Option Addr) (n c : Nat) (k ep : Int) (w : World) (hr : Rd w A (textsV ns)) (hn : n = ns.length) (hn9 : n ≤ maxLen) (hT : Turns w) (hR : Rounds w) :
    Calls Tryz.prog 19 #[.string seed, .slice A n c, .int .i64 k, .int .i64 ep] w (DealtR w seed ns k ep) := by
  cases hh : cHead ns k with
  | false => exact dealt_head seed ns A n c k ep w hn hn9 hh
  | true =>
  obtain ⟨h16, hk1, hkn⟩ := cHead_parts hh
  by_cases hs : seed.size ≤ 1000000000
  case neg => exact dealt_big seed ns A n c k ep w hn hh hs hR
  obtain ⟨m, hm⟩ : ∃ m : Nat, k = ((m + 1 : Nat) : Int) := ⟨(k - 1).toNat, by omega⟩
  have hmn : m + 1 ≤ n := by omega
  have hn16 : n ≤ 16 := by omega
  have hm15 : m ≤ 15 := by omega
  have hkm : (k - 1).toNat = m := by omega
  have HOK := Lib.hid (show cOK seed ns k ep = checkR (cDeal (tapeOf seed) ns m ep).r by unfold cOK; rw [hh, hkm, decide_eq_true hs, Bool.true_and, Bool.true_and])
  have HDC := Lib.hid (show cOK seed ns k ep = true → dealC seed ns k ep = cDeal (tapeOf seed) ns m ep from fun h => by unfold dealC; rw [if_pos h, hkm])
  have HLL := Lib.hid (tapeOf_len seed)
  have hb0 := (Below.refl w.heap.size w).alloc (Nat.le_refl _) (.cells zDeal 29)
  have HZ := Lib.hid (heap_alloc_new w (.cells zDeal 29))
  have HRn := Lib.hid (hr.below hb0)
  have HB := Lib.hid hb0
  have HNs := Lib.hid hn
  have hTb := Tabs.of (hT.below hb0) (hR.below hb0)
  have HNw := Lib.hid (new_any _ seed _ hTb hs (Nat.le_refl _))
  have HR := Lib.hid hR
  have d1 : decide ((n : Int) > 16) = false := decide_eq_false (by omega)
  have d2 : decide (k < 1) = false := decide_eq_false (by omega)
  have d3 : decide (k > (n : Int)) = false := decide_eq_false (by omega)
  have hk16 : k ≤ 16 := by omega
  have Hkm := Lib.hid hm
  have hA0 : ∀ b o, A = some ⟨b, o, none⟩ → b < w.heap.size := fun b o e => by
    obtain ⟨b', o', e', hc⟩ := hr 0 _ (show (textsV ns)[0]? = some (.string (ns[0]'(by omega))) by simp [textsV])
    rw [e] at e'
    cases e'
    exact cell_lt hc
  have HA0 := Lib.hid hA0
  clear hh hkn hm hkm hb0 hr hn hTb hs hT hR hn9 h16 hA0
  rw [show tapeOf seed = tapeOf seed from rfl] at HOK
  go_enter Tryz.func19, Tryz.ntmps19
  go_wp2_with fail
  refine HNw.out.mono ?_
  rintro e w1 ⟨t, rfl, hwt, ⟨fn, cap, hTf⟩, hb1⟩
  have hTf' : TapeF (w.alloc (.cells zDeal 29)).heap.size w1 t (tapeOf seed) 0 fn cap := hTf
  rw [World.size_alloc] at hTf' hwt
  generalize tapeOf seed = L at hTf' HOK HDC HLL
  replace HZ := hblk_below HZ hb1
  replace HRn := Lib.hid (HRn.out.below hb1)
  replace HB := Lib.hid (HB.out.trans (hb1.mono HB.out.size))
  have hLL := HLL.out
  have Htl : t < w1.heap.size := heap_lt hTf'.1
  clear hTf hb1 HNw
  go_wp2_with fail
  refine (take_f t L 0 32 fn cap _ hTf' (by omega)).mono ?_
  rintro e w2 ⟨rfl, hT2, hG2⟩
  replace HZ := Lib.hid (gb_blk' hG2 HZ.out (show w.heap.size ≠ t by omega))
  replace HRn := Lib.hid (rd_gb HRn.out hG2 (fun b o e => by have := HA0.out b o e; omega))
  replace HB := Lib.hid (HB.out.trans (gb_by' hG2 (by omega) HB.out.size))
  rw [show bs ((L.drop 0).take 32) = cSec L from rfl]
  clear hTf' hG2
  go_wp2_with fail
  refine (mustS_any _ _).mono ?_
  rintro e w3 ⟨rfl, rfl⟩
  have e32 : (32 : Int) * (k - 1) = ((32 * m : Nat) : Int) := by have := Hkm.out; omega
  have E32 := Lib.hid e32
  clear e32
  go_wp2_with fail
  rw [E32.out]
  refine (take_f t L (0 + 32) (32 * m) fn cap _ hT2 (by omega)).mono ?_
  rintro e w4 ⟨rfl, hT4, hG4⟩
  replace HZ := Lib.hid (gb_blk' hG4 HZ.out (show w.heap.size ≠ t by omega))
  replace HRn := Lib.hid (rd_gb HRn.out hG4 (fun b o e => by have := HA0.out b o e; omega))
  replace HB := Lib.hid (HB.out.trans (gb_by' hG4 (by omega) HB.out.size))
  rw [show bs ((L.drop (0 + 32)).take (32 * m)) = cRest L m from rfl]
  clear hT2 hG4
  go_wp2_with fail
  refine (mustS_any _ _).mono ?_
  rintro e w5 ⟨rfl, rfl⟩
  rename World => w4
  have hsp : Calls Tryz.prog 38 #[.string (cSec L), .int .i64 (n : Int), .int .i64 k, .string (cRest L m)] w4 fun e w' => ∃ g, e = .returned (.tuple #[.slice (some ⟨g, 0, none⟩) n n, .int .i64 0]) ∧ w'.ownsRow w4.heap.size 43 2 (.slice (some ⟨g, 0, none⟩) n n) n (sharesV (cShares L m n)) ∧ Below w4.heap.size w4 w' := by
    rw [Hkm.out]
    exact split_yes (cSec L) (cRest L m) n m w4 (cSec_size hLL) (cRest_size hLL hm15) (by omega) hmn
  have HSp := Lib.hid hsp
  clear hsp
  have Htl4 : t < w4.heap.size := heap_lt hT4.1
  go_wp2_with fail
  refine HSp.out.mono ?_
  rintro e w5 ⟨gS, rfl, hOS, hb5⟩
  have hT5 := hT4.below hb5
  replace HZ := hblk_below HZ hb5
  replace HRn := Lib.hid (HRn.out.below hb5)
  replace HB := Lib.hid (HB.out.trans (hb5.mono HB.out.size))
  have hgS := hOS.lt gS rfl
  have HOS := Lib.hid hOS
  have hs5 := hb5.size
  clear hT4 hb5 hOS HSp
  go_wp2_with fail
  refine (mustH_any _ _ _ _).mono ?_
  rintro e w6 ⟨rfl, rfl⟩
  rename World => w5
  have hz5 := cell_lt_of HZ.out
  have hTl5 : t < w5.heap.size := by omega
  have HT5 := Lib.hid hT5
  clear hT5
  go_wp2_with fail
  go_loopw [13, 55] (fun v x wr => ∃ (j : Nat) (A1 : Option Addr) (c1 : Nat), j ≤ n ∧ x = .int .i64 (j : Nat) ∧ v = .slice A1 j c1 ∧ wr.ownsRow w5.heap.size 9 1 (.slice A1 j c1) j (textsV (cSalts L m j)) ∧ TapeF (w.heap.size + 1) wr t L (32 + 32 * m + 16 * j) fn cap ∧ (∀ i, i < w5.heap.size → i ≠ t → wr.heap[i]? = w5.heap[i]?) ∧ Below (w.heap.size + 1) w5 wr) (fun _ x _ => n - (intOf x).toNat)
  case atStart => exact ⟨0, none, 0, by omega, rfl, rfl, World.ownsRow_nil _ _ _ _, by simpa using HT5.out, fun _ _ _ => rfl, Below.refl _ _⟩
  case round =>
    obtain ⟨j, A1, c1, hj, rfl, rfl, hO, hTj, hag, hbj⟩ := hrel
    have HO := Lib.hid hO
    have HTj := Lib.hid hTj
    have Hag := Lib.hid hag
    have Hbj := Lib.hid hbj
    have hsj := hbj.size
    clear hO hTj hag hbj
    by_cases hlt : j < n
    · have e1 : (j : Int) < (n : Int) := by omega
      go_wp2_with fail
      refine (take_f t L (32 + 32 * m + 16 * j) 16 fn cap _ HTj.out (by omega)).mono ?_
      rintro e w7 ⟨rfl, hT7, hG7⟩
      rw [show bs ((L.drop (32 + 32 * m + 16 * j)).take 16) = cSalt L m j from rfl]
      have HO7 := Lib.hid (odFar HO.out hG7 hTl5)
      have HT7 := Lib.hid hT7
      have Hag7 := Lib.hid (show ∀ i, i < w5.heap.size → i ≠ t → w7.heap[i]? = w5.heap[i]? from fun i hi hne => (hG7.block i (by omega) (fun e => hne (Option.some.inj e))).trans (Hag.out i hi hne))
      have Hb7 := Lib.hid (Hbj.out.trans (gb_by' hG7 hwt (by omega)))
      have hs7 := hG7.size
      clear hT7 hG7
      go_wp2_with fail
      refine (mustS_any _ _).mono ?_
      rintro e w8 ⟨rfl, rfl⟩
      rename World => w7
      go_wp2_with (at_builtin; refine wpList_append_new (by rfl) (.tmp 57) (.tmp 63) 22 (by rfl) w5.heap.size 9 (.string ⟨#[]⟩) 1 16 Tryz.underlying22 string_info rfl (by omega) w7 _ _ _ _ _ (by rfl) HO7.out _ 1 1 (by rfl) (by rfl) (by rfl) (by rfl) (by omega) (by omega) (by omega) (by omega) ?_)
      intro g8 cap8 w8 ho8 hb8 hk8 hat8 hlt8
      have hT8 : TapeF (w.heap.size + 1) w8 t L (32 + 32 * m + 16 * j + 16) fn cap := HT5.out.re (fun i hi hne => (hb8.block i hi).trans (Hag7.out i hi hne)) ((hb8.block t hTl5).trans HT7.out.1) (by have := hb8.size; omega) (by omega)
      have Hres := Lib.hid (show (w8.ownsRow w5.heap.size 9 1 (.slice (some ⟨g8, 0, none⟩) (j + 1) cap8) (j + 1) (textsV (cSalts L m (j + 1))) ∧ TapeF (w.heap.size + 1) w8 t L (32 + 32 * m + 16 * (j + 1)) fn cap ∧ (∀ i, i < w5.heap.size → i ≠ t → w8.heap[i]? = w5.heap[i]?) ∧ Below (w.heap.size + 1) w5 w8) from
        ⟨by rw [cSalts_snoc, textsV_append]; exact ho8, by rw [show 32 + 32 * m + 16 * (j + 1) = 32 + 32 * m + 16 * j + 16 by omega]; exact hT8, fun i hi hne => (hb8.block i hi).trans (Hag7.out i hi hne), Hb7.out.trans (hb8.mono (by omega))⟩)
      clear ho8 hb8 hk8 hat8 hT8
      go_wp2_with fail
      go_roundw
      case rel => exact ⟨j + 1, _, _, by omega, by go_num, rfl, Hres.out.1, Hres.out.2.1, Hres.out.2.2.1, Hres.out.2.2.2⟩
      case measure => simp [intOf]; omega
    · obtain rfl : j = n := by omega
      have e1 : ¬ (j : Int) < (j : Int) := by omega
      have HRj := Lib.hid (rd_low HRn.out Hbj.out (fun b o e => by have := HA0.out b o e; omega))
      have HZj := Lib.hid ((Hbj.out.block w.heap.size (by omega)).trans HZ.out)
      have HBj := Lib.hid (HB.out.trans (Hbj.out.mono (by omega)))
      have HSj := Lib.hid (own_agree HOS.out (fun i hi => Hag.out i hi.2 (by have := hi.1; omega)) (B' := w4.heap.size) (by omega))
      go_wp2_with (at_builtin; refine wpList_append_copy (by rfl) _ _ 22 (by rfl) (w.heap.size + 1) 9 (.string ⟨#[]⟩) 1 16 Tryz.underlying22 string_info rfl (by omega) (by rfl) A j c (by rfl) (textsV ns) (by exact HRj.out) (by rw [textsV_len, ← HNs.out, Nat.mul_one]) (textsV_one _) (by omega) (by omega) (by omega) ?_)
      intro A9 cap9 w9 ho9 hb9
      have HN9 := Lib.hid ho9
      have HO9 := Lib.hid (own_keep HO.out hb9)
      have HS9 := Lib.hid (own_keep HSj.out hb9)
      have HZ9 := hblk_below HZj hb9
      have HB9 := Lib.hid (HBj.out.trans (hb9.mono HBj.out.size))
      obtain ⟨hE, hAl⟩ := c_allE (L := L) hLL (m := m) (n := j) hm15 hn16
      have HPl := Lib.hid (fun W h1 h2 h3 => all_any (cSalts L m j) (cShares L m j) A1 (some ⟨gS, 0, none⟩) j c1 j j W h1 h2 (cSalts_len L m j).symm (cShares_len L m j).symm (by rw [cShares_len]; omega) h3)
      rw [hE, hAl] at HPl
      clear ho9 hb9 hE hAl
      have hs9 : w.heap.size < w9.heap.size := cell_lt_of HZ9.out
      go_wp2_with fail
      refine (HPl.out _ (own_rd HO9.out) (own_rd HS9.out) (HR.out.below HB9.out)).mono ?_
      rintro e wa ⟨Ap, np, capp, rfl, hnp, hop, hba⟩
      rw [c_ps_len] at hnp
      obtain rfl : np = j := hnp
      have HPa := Lib.hid hop
      replace HN9 := Lib.hid (own_keep HN9.out hba)
      replace HO9 := Lib.hid (own_keep HO9.out hba)
      replace HS9 := Lib.hid (own_keep HS9.out hba)
      replace HZ9 := hblk_below HZ9 hba
      replace HB9 := Lib.hid (HB9.out.trans (hba.mono HB9.out.size))
      clear hop hba
      go_wp2_with fail
      refine (mustT_any _ _ _ _).mono ?_
      rintro e wb ⟨rfl, rfl⟩
      rename World => wa
      have al := (Below.refl wa.heap.size wa).alloc (Nat.le_refl _) (.cells #[.int .i64 ep, .int .i64 k, .slice A9 np cap9, .slice Ap np capp] 26)
      have HN := Lib.hid (own_keep HN9.out al)
      have HO := Lib.hid (own_keep HO9.out al)
      have HS := Lib.hid (own_keep HS9.out al)
      have HPb := Lib.hid (own_keep HPa.out al)
      have HZb := hblk_below HZ9 al
      have HBb := Lib.hid (HB9.out.trans (al.mono HB9.out.size))
      have HRc := Lib.hid (heap_alloc_new wa (.cells #[.int .i64 ep, .int .i64 k, .slice A9 np cap9, .slice Ap np capp] 26))
      obtain ⟨u, hu⟩ : ∃ u, u = wa.alloc (.cells #[.int .i64 ep, .int .i64 k, .slice A9 np cap9, .slice Ap np capp] 26) := ⟨_, rfl⟩
      have Hu := Lib.hid hu
      rw [← hu] at HN HO HS HPb HZb HBb HRc
      clear al hu HN9 HO9 HS9 HPa HZ9 HB9
      go_upto_region 13 with fail
      rw [← Hu.out]
      clear Hu
      generalize hgr : wa.heap.size = gr at *
      clear hgr
      have HCh := Lib.hid (show Calls Tryz.prog 27 #[.agg #[.int .i64 ep, .int .i64 k, .slice A9 np cap9, .slice Ap np capp]] u fun e w' => e = .returned (.bool (cOK seed ns k ep)) ∧ Below u.heap.size u w' from by
        rw [HOK.out]
        refine ch_any _ (cDeal L ns m ep).r u ⟨A9, np, cap9, Ap, np, capp, ?_, own_rd HN.out, HNs.out, ?_, ?_⟩
        · rw [Hkm.out]; rfl
        · show Rd u Ap (textsV (pairsL (cSalts L m ns.length) (cShares L m ns.length)))
          rw [← HNs.out]
          exact own_rd HPb.out
        · show np = (pairsL (cSalts L m ns.length) (cShares L m ns.length)).length
          rw [c_ps_len]; exact HNs.out)
      obtain ⟨r0, r1, r2, r3⟩ := rec_cells HRc.out
      cases hok : cOK seed ns k ep with
      | false =>
        rw [hok] at HCh
        have Hok := Lib.hid hok
        clear hok
        go_wp2_with fail
        refine HCh.out.mono ?_
        rintro e wc ⟨rfl, hbc⟩
        have HBc := Lib.hid (HBb.out.trans (hbc.mono HBb.out.size))
        clear hbc
        go_wp2_with fail
        exact ⟨rfl, .inr ⟨Hok.out, 180, rfl⟩, HBc.out⟩
      | true =>
        rw [hok] at HCh
        have Hok := Lib.hid hok
        clear hok
        go_wp2_with fail
        refine HCh.out.mono ?_
        rintro e wc ⟨rfl, hbc⟩
        replace HRc := hblk_below HRc hbc
        replace HZb := hblk_below HZb hbc
        replace HN := Lib.hid (own_keep HN.out hbc)
        replace HO := Lib.hid (own_keep HO.out hbc)
        replace HS := Lib.hid (own_keep HS.out hbc)
        replace HPb := Lib.hid (own_keep HPb.out hbc)
        have HBc := Lib.hid (HBb.out.trans (hbc.mono HBb.out.size))
        clear hbc r0 r1 r2 r3
        obtain ⟨r0, r1, r2, r3⟩ := rec_cells HRc.out
        obtain ⟨⟨z0, z1, z2, z3, z4, z5, z6⟩, zf⟩ := seven_cells HZb.out
        have f0 := zf 0
        have f1 := zf 1
        have f2 := zf 2
        have f3 := zf 3
        have f4 := zf 4
        have f5 := zf 5
        have f6 := zf 6
        go_wp2_with fail
        have hgb := seven_gb wc w.heap.size (.int .i64 ep) (.int .i64 k) (.slice A9 np cap9) (.slice Ap np capp) (.string (cSec L)) (.slice (some ⟨gS, 0, none⟩) np np) (.slice A1 np c1)
        refine bodyPost_ret (res_cell1 rfl _ _ w.heap.size (by rfl) _ (load_deal (seven_set HZb.out _ _ _ _ _ _ _))) rfl ?_
        refine ⟨.inl ⟨Hok.out, _, rfl, ?_⟩, HBc.out.trans (gb_by' hgb (Nat.le_refl _) HBc.out.size)⟩
        rw [HDC.out Hok.out]
        refine ⟨A9, np, cap9, Ap, np, capp, some ⟨gS, 0, none⟩, np, np, A1, np, c1, ?_, ?_, HNs.out, ?_, ?_, ?_, ?_, ?_, ?_, own_farA HN.out (by omega), own_farA HPb.out (by omega), own_farA HS.out (by omega), own_farA HO.out (by omega)⟩
        · rw [Hkm.out]; rfl
        · exact own_rd (odFar HN.out hgb (by omega))
        · show Rd _ Ap (textsV (pairsL (cSalts L m ns.length) (cShares L m ns.length)))
          rw [← HNs.out]
          exact own_rd (odFar HPb.out hgb (by omega))
        · show np = (pairsL (cSalts L m ns.length) (cShares L m ns.length)).length
          rw [c_ps_len]; exact HNs.out
        · show Rd _ _ (sharesV (cShares L m ns.length))
          rw [← HNs.out]
          exact own_rd (odFar HS.out hgb (by omega))
        · show np = (cShares L m ns.length).length
          rw [cShares_len]; exact HNs.out
        · show Rd _ A1 (textsV (cSalts L m ns.length))
          rw [← HNs.out]
          exact own_rd (odFar HO.out hgb (by omega))
        · show np = (cSalts L m ns.length).length
          rw [cSalts_len]; exact HNs.out

/- ChE -/
open Go.RowKit
set_option linter.unusedVariables false
set_option linter.unusedSimpArgs false
set_option maxRecDepth 100000
set_option maxHeartbeats 8000000

/-- The deferred function, entered from a frame that panics: it recovers, and lays both results. -/
theorem catch_pan (g q : Nat) (u : TypeId) (pv : Value) (w : World) (a0 a1 a2 a3 a4 a5 a6 e0 : Value) (t t' : TypeId)
    (hD : w.heap[g]? = some (.cells #[a0, a1, a2, a3, a4, a5, a6] t (0, 0))) (hE : w.heap[q]? = some (.cells #[e0] t' (0, 0))) (hne : g ≠ q) :
    CallsD Tryz.prog 18 #[.pointer (some ⟨g, 0, none⟩), .pointer (some ⟨q, 0, none⟩)] (.panicking [{ v := .iface u pv, recovered := false }]) w fun e u' w' =>
      e = .returned (.tuple #[]) ∧ u' = .panicking [{ v := .iface u pv, recovered := true }] ∧ w'.heap[g]? = some (.cells zDeal t (0, 0)) ∧ w'.heap[q]? = some (.cells #[.int .i64 180] t' (0, 0)) ∧ ∀ B, B ≤ g → B ≤ q → B ≤ w.heap.size → Below B w w' := by
  obtain ⟨⟨z0, z1, z2, z3, z4, z5, z6⟩, zf⟩ := seven_cells hD
  have c0 : w.cell? ⟨q, 0, none⟩ = some e0 := cell_in hE 0 _ rfl
  have f0 := zf 0
  have f1 := zf 1
  have f2 := zf 2
  have f3 := zf 3
  have f4 := zf 4
  have f5 := zf 5
  have f6 := zf 6
  have fq := frozen_of_row w q 0 _ _ hE
  refine callsD_of_wpS Tryz.func18 rfl fun c₀ cs hu => ?_
  apply wpS_seq
  apply wpS_region
  simp [wpOpsS, go_sem, recoverD, hu, Tryz.ntmps18, Exit.thenS]
  refine wpS_cond (t := true) (by simp [Act.eval, Array.replicate]) ?_
  simp only [if_true]
  apply wpS_region
  simp [wpOpsS, go_sem, bodyPostS, results, Tryz.results18, z0, z1, z2, z3, z4, z5, z6, f0, f1, f2, f3, f4, f5, f6, c0, fq, hne]
  have h7 := seven_set hD (.int .i64 0) (.int .i64 0) (.slice none 0 0) (.slice none 0 0) (.string ⟨#[]⟩) (.slice none 0 0) (.slice none 0 0)
  have g7 := seven_gb w g (.int .i64 0) (.int .i64 0) (.slice none 0 0) (.slice none 0 0) (.string ⟨#[]⟩) (.slice none 0 0) (.slice none 0 0)
  have q7 := gb_blk' g7 hE (Ne.symm hne)
  have g8 := gb_one (((((((w.setCell ⟨g, 0, none⟩ (.int .i64 0)).setCell ⟨g, 1, none⟩ (.int .i64 0)).setCell ⟨g, 2, none⟩ (.slice none 0 0)).setCell ⟨g, 3, none⟩ (.slice none 0 0)).setCell ⟨g, 4, none⟩ (.string ⟨#[]⟩)).setCell ⟨g, 5, none⟩ (.slice none 0 0)).setCell ⟨g, 6, none⟩ (.slice none 0 0)) q 0 (.int .i64 180)
  exact ⟨gb_blk' g8 h7 hne, blk_set q7 0 (.int .i64 180), fun B h1 h2 h3 => (gb_by' g7 h1 h3).trans (gb_by' g8 h2 (Nat.le_trans h3 g7.size))⟩
theorem catch_idle (p q : Addr) (w : World) :
    CallsD Tryz.prog 18 #[.pointer (some p), .pointer (some q)] .returning w fun e u' w' => e = .returned (.tuple #[]) ∧ u' = .returning ∧ w' = w := by
  refine callsD_of_wpS Tryz.func18 rfl fun c₀ cs hu => ?_
  apply wpS_seq
  apply wpS_region
  simp [wpOpsS, go_sem, recoverD, hu, Tryz.ntmps18, Exit.thenS]
  refine wpS_cond (t := false) (by simp [Act.eval, Array.replicate]) ?_
  simp only [Bool.false_eq_true, if_false]
  refine wpS_of_wp (wp_skip ?_)
  cases c₀
  simp_all [bodyPostS, results, Tryz.results18]
def CDealR (w : World) (D : Deal) (x : Int) (E : Ending) (w' : World) : Prop := ∃ v, E = .returned (.tuple #[v, .int .i64 x]) ∧ DV w' v D ∧ Below w.heap.size w w'
theorem DV.zero (w : World) : DV w (.agg zDeal) noDeal := ⟨none, 0, 0, none, 0, 0, none, 0, 0, none, 0, 0, rfl, Rd.nil _ _, rfl, Rd.nil _ _, rfl, Rd.nil _ _, rfl, Rd.nil _ _, rfl⟩
theorem cdeal_any (seed : ByteArray) (ns : List ByteArray) (A : Option Addr) (n c : Nat) (k ep : Int) (w : World) (hr : Rd w A (textsV ns)) (hn : n = ns.length) (hn9 : n ≤ maxLen) (hT : Turns w) (hR : Rounds w) :
    Calls Tryz.prog 7 #[.string seed, .slice A n c, .int .i64 k, .int .i64 ep] w (CDealR w (dealC seed ns k ep) (dealE seed ns k ep)) := by
  have hmf : ∀ (fn : Fn) (first cap : Array Value) (w : World), (Instr.makeFunc fn first cap).run Tryz.prog w = .ok (.func fn first cap) w := fun _ _ _ _ => rfl
  obtain ⟨u, hu⟩ : ∃ u, u = (w.alloc (.cells zDeal 29)).alloc (.cells #[.int .i64 0] 30) := ⟨_, rfl⟩
  have hb0 : Below w.heap.size w u := hu ▸ ((Below.refl w.heap.size w).alloc (Nat.le_refl _) (.cells zDeal 29)).alloc (by simp) (.cells #[.int .i64 0] 30)
  have hDl := dealt_any seed ns A n c k ep u (hr.below hb0) hn hn9 (hT.below hb0) (hR.below hb0)
  have h8 : u.heap[w.heap.size]? = some (.cells zDeal 29) := by
    rw [hu]
    exact (Below.heap_alloc _ _ _ (by simp)).trans (heap_alloc_new w _)
  have h9 : u.heap[w.heap.size + 1]? = some (.cells #[.int .i64 0] 30) := by
    rw [hu]
    have := heap_alloc_new (w.alloc (.cells zDeal 29)) (.cells #[.int .i64 0] 30)
    rwa [World.size_alloc] at this
  have HDl := Lib.hid hDl
  have H8 := Lib.hid h8
  have H9 := Lib.hid h9
  have HB := Lib.hid hb0
  have HU := Lib.hid (show u.heap.size = w.heap.size + 2 by rw [hu]; simp)
  have Hu := Lib.hid hu
  clear hDl h8 h9 hb0 hr hn hn9 hT hR hu
  go_enter_defers Tryz.func7, Tryz.ntmps7
  go_wp2_with fail
  rw [← Hu.out]
  clear Hu
  refine HDl.out.mono ?_
  rintro e w1 ⟨hd, hb⟩
  replace H8 := hblk_below H8 hb
  replace H9 := hblk_below H9 hb
  have HB1 := Lib.hid (HB.out.trans (hb.mono HB.out.size))
  clear hb HDl HB
  have hne : w.heap.size ≠ w.heap.size + 1 := by omega
  have hsz : w.heap.size < w1.heap.size := cell_lt_of H8.out
  rcases hd with ⟨hok, v, rfl, hv⟩ | ⟨hok, x, rfl⟩
  · obtain ⟨A, n, c, B, m, d, C, p, q, E, s, t, rfl, h1, h2, h3, h4, h5, h6, h7, h8, r1, r2, r3, r4⟩ := hv
    have HR1 := Lib.hid h1
    have HR2 := Lib.hid h3
    have HR3 := Lib.hid h5
    have HR4 := Lib.hid h7
    have HL := Lib.hid (And.intro h2 (And.intro h4 (And.intro h6 h8)))
    have HF := Lib.hid (And.intro r1 (And.intro r2 (And.intro r3 r4)))
    clear h1 h2 h3 h4 h5 h6 h7 h8 r1 r2 r3 r4
    obtain ⟨⟨z0, z1, z2, z3, z4, z5, z6⟩, zf⟩ := seven_cells H8.out
    have q0 := cell_in H9.out 0 _ rfl
    have f0 := zf 0
    have f1 := zf 1
    have f2 := zf 2
    have f3 := zf 3
    have f4 := zf 4
    have f5 := zf 5
    have f6 := zf 6
    have fq := frozen_of_row w1 (w.heap.size + 1) 0 _ _ H9.out
    go_wp2_with fail
    obtain ⟨De, hDe⟩ : ∃ x, x = dealC seed ns k ep := ⟨_, rfl⟩
    have hE : dealE seed ns k ep = 0 := by unfold dealE; rw [if_pos hok]
    rw [hE]
    rw [← hDe] at HR1 HR2 HR3 HR4 HL ⊢
    have g7 := seven_gb w1 w.heap.size (.int .i64 De.r.e) (.int .i64 De.r.k) (.slice A n c) (.slice B m d) (.string De.sec) (.slice C p q) (.slice E s t)
    have k7 := seven_set H8.out (.int .i64 De.r.e) (.int .i64 De.r.k) (.slice A n c) (.slice B m d) (.string De.sec) (.slice C p q) (.slice E s t)
    have k9 := gb_blk' g7 H9.out (Ne.symm hne)
    clear z0 z1 z2 z3 z4 z5 z6 f0 f1 f2 f3 f4 f5 f6 fq q0 zf hDe
    generalize (((((((w1.setCell { block := w.heap.size, off := 0 } (.int .i64 De.r.e)).setCell { block := w.heap.size, off := 1 } (.int .i64 De.r.k)).setCell { block := w.heap.size, off := 2 } (.slice A n c)).setCell { block := w.heap.size, off := 3 } (.slice B m d)).setCell { block := w.heap.size, off := 4 } (.string De.sec)).setCell { block := w.heap.size, off := 5 } (.slice C p q)).setCell { block := w.heap.size, off := 6 } (.slice E s t)) = w2 at g7 k7 k9 ⊢
    have g8 := gb_one w2 (w.heap.size + 1) 0 (.int .i64 0)
    have k8 := gb_blk' g8 k7 hne
    have k10 := blk_set k9 0 (.int .i64 0)
    have hsz2 : w.heap.size + 1 < w2.heap.size := cell_lt_of k9
    generalize w2.setCell { block := w.heap.size + 1, off := 0 } (.int .i64 0) = w3 at g8 k8 k10 ⊢
    refine leaves_cons (f := 18) (args := #[.pointer (some ⟨w.heap.size, 0, none⟩), .pointer (some ⟨w.heap.size + 1, 0, none⟩)]) (by simp) (by simp [go_sem]) ?_
    refine (catch_idle ⟨w.heap.size, 0, none⟩ ⟨w.heap.size + 1, 0, none⟩ _).mono ?_
    rintro e u' w'' ⟨rfl, rfl, rfl⟩
    obtain ⟨⟨z0, z1, z2, z3, z4, z5, z6⟩, zf⟩ := seven_cells k8
    have q0 := cell_in k10 0 _ rfl
    have hB3 : Below w.heap.size w w'' := (HB1.out.trans (gb_by' g7 (Nat.le_refl _) (by omega))).trans (gb_by' g8 (by omega) (by omega))
    have hrd : ∀ {X : Option Addr} {xs : List Value}, Rd w1 X xs → FarA u.heap.size X → Rd w'' X xs := fun h hf =>
      rd_gb (rd_gb h g7 (fun b o e => by have := hf b o e; have := HU.out; omega)) g8 (fun b o e => by have := hf b o e; have := HU.out; omega)
    have fin : CDealR w De 0 (.returned (.tuple #[.agg #[.int .i64 De.r.e, .int .i64 De.r.k, .slice A n c, .slice B m d, .string De.sec, .slice C p q, .slice E s t], .int .i64 0])) w'' :=
      ⟨_, rfl, ⟨A, n, c, B, m, d, C, p, q, E, s, t, rfl, hrd HR1.out HF.out.1, HL.out.1, hrd HR2.out HF.out.2.1, HL.out.2.1, hrd HR3.out HF.out.2.2.1, HL.out.2.2.1, hrd HR4.out HF.out.2.2.2, HL.out.2.2.2⟩, hB3⟩
    simp [Leaves, settle, results, Tryz.results7, go_sem, z0, z1, z2, z3, z4, z5, z6, q0]
    exact fin
  · refine leaves_cons (f := 18) (args := #[.pointer (some ⟨w.heap.size, 0, none⟩), .pointer (some ⟨w.heap.size + 1, 0, none⟩)]) (by simp) (by simp [go_sem]) ?_
    refine (catch_pan w.heap.size (w.heap.size + 1) _ _ w1 _ _ _ _ _ _ _ _ _ _ H8.out H9.out hne).mono ?_
    rintro e u' w'' ⟨rfl, rfl, k8, k9, hbl⟩
    obtain ⟨⟨z0, z1, z2, z3, z4, z5, z6⟩, zf⟩ := seven_cells k8
    have q0 := cell_in k9 0 _ rfl
    have hE : dealE seed ns k ep = 180 := by unfold dealE; rw [if_neg (by rw [hok]; decide)]
    have hDD : dealC seed ns k ep = noDeal := by unfold dealC; rw [if_neg (by rw [hok]; decide)]
    rw [hE, hDD]
    have fin : CDealR w noDeal 180 (.returned (.tuple #[.agg zDeal, .int .i64 180])) w'' := ⟨_, rfl, DV.zero _, HB1.out.trans (hbl _ (Nat.le_refl _) (by omega) (by omega))⟩
    simp [Leaves, settle, results, Tryz.results7, go_sem, z0, z1, z2, z3, z4, z5, z6, q0]
    exact fin

/- ChC -/
open Go.RowKit
set_option linter.unusedVariables false
set_option linter.unusedSimpArgs false
set_option maxRecDepth 100000
set_option maxHeartbeats 8000000

theorem shr_at' {w : World} {b off : Nat} {l : List Shr} {i : Nat} (h : Rd w (some ⟨b, off, none⟩) (sharesV l)) (hi : i < l.length) :
    w.cell? ⟨b, off + i * 2, none⟩ = some (.int .i64 (l.getD i (0, noneT)).1) ∧ w.cell? ⟨b, off + i * 2 + 1, none⟩ = some (.string (l.getD i (0, noneT)).2) := by
  obtain ⟨b', off', hA, h1, h2⟩ := h.shr hi
  injection hA with hA
  injection hA with e1 e2
  subst e1 e2
  rw [List.getD_eq_getElem?_getD, List.getElem?_eq_getElem hi]
  exact ⟨h1, h2⟩
def dOK (D : Deal) (i : Nat) : Bool := decide ((D.sh.getD i (0, noneT)).1 = ((i + 1 : Nat) : Int)) && checkP (D.r.ps.getD i noneT) (D.sa.getD i noneT) (D.sh.getD i (0, noneT))
theorem rightD_def (D : Deal) : rightD D = (checkR D.r && decide (D.sh.length = D.r.ns.length) && decide (D.sa.length = D.r.ns.length) && (List.range D.r.ns.length).all (dOK D)) := rfl
theorem dright_bad {D : Deal} (i : Nat) (hi : i < D.r.ns.length) (h : dOK D i = false) : rightD D = false := by
  rw [rightD_def]
  have : (List.range D.r.ns.length).all (dOK D) = false := by
    rw [List.all_eq_false]
    exact ⟨i, List.mem_range.2 hi, by rw [h]; decide⟩
  rw [this, Bool.and_false]
theorem dright_all {D : Deal} (h1 : checkR D.r = true) (h2 : D.sh.length = D.r.ns.length) (h3 : D.sa.length = D.r.ns.length) (h : ∀ j, j < D.r.ns.length → dOK D j = true) : rightD D = true := by
  rw [rightD_def, h1, decide_eq_true h2, decide_eq_true h3, Bool.true_and, Bool.true_and, Bool.true_and, List.all_eq_true]
  exact fun j hj => h j (List.mem_range.1 hj)
theorem rcheck_any (v : Value) (D : Deal) (w : World) (hv : DV w v D) (hR : Rounds w) :
    Calls Tryz.prog 21 #[v] w fun e w' => e = .returned (.bool (rightD D)) ∧ Below w.heap.size w w' := by
  obtain ⟨A, n, c, B, m, d, C, p, q, E, s, t, rfl, h1, h2, h3, h4, h5, h6, h7, h8⟩ := hv
  have hb0 := (Below.refl w.heap.size w).alloc (Nat.le_refl _) (.cells #[.int .i64 D.r.e, .int .i64 D.r.k, .slice A n c, .slice B m d, .string D.sec, .slice C p q, .slice E s t] 29)
  have hX := heap_alloc_new w (.cells #[.int .i64 D.r.e, .int .i64 D.r.k, .slice A n c, .slice B m d, .string D.sec, .slice C p q, .slice E s t] 29)
  have HCh := Lib.hid (ch_any (.agg #[.int .i64 D.r.e, .int .i64 D.r.k, .slice A n c, .slice B m d]) D.r _ ⟨A, n, c, B, m, d, rfl, h1.below hb0, h2, h3.below hb0, h4⟩)
  have HX := Lib.hid hX
  have HB := Lib.hid hb0
  have HR := Lib.hid hR
  have HRp := Lib.hid h3
  have HRs := Lib.hid h5
  have HRa := Lib.hid h7
  have HL := Lib.hid (And.intro h2 (And.intro h4 (And.intro h6 h8)))
  clear h1 h2 h3 h4 h5 h6 h7 h8 hX hb0 hR
  cases hck : checkR D.r with
  | false =>
    rw [hck] at HCh
    have HD := Lib.hid (show rightD D = false by rw [rightD_def, hck]; rfl)
    clear hck
    go_enter Tryz.func21, Tryz.ntmps21
    go_wp2_with fail
    refine HCh.out.mono ?_
    rintro e w1 ⟨rfl, hb⟩
    replace HB := Lib.hid (HB.out.trans (hb.mono HB.out.size))
    obtain ⟨⟨z0, z1, z2, z3, z4, z5, z6⟩, zf⟩ := seven_cells (hblk_below HX hb).out
    clear hb zf
    go_wp2_with fail
    go_ret
    exact ⟨by rw [HD.out]; rfl, HB.out⟩
  | true =>
  rw [hck] at HCh
  have Hck := Lib.hid hck
  obtain ⟨k1, k2, k3, hn16, k5, k6, k7⟩ := check_head hck
  have HM := Lib.hid k5
  rw [← HL.out.1] at hn16
  clear hck k1 k2 k3 k5 k6 k7
  by_cases hp : p = n
  case neg =>
    have d1 : ((p : Int) != (n : Int)) = true := by simp; omega
    have HD := Lib.hid (show rightD D = false by
      rw [rightD_def, Hck.out, decide_eq_false (by rw [← HL.out.1, ← HL.out.2.2.1]; exact hp)]; rfl)
    clear hp
    go_enter Tryz.func21, Tryz.ntmps21
    go_wp2_with fail
    refine HCh.out.mono ?_
    rintro e w1 ⟨rfl, hb⟩
    replace HB := Lib.hid (HB.out.trans (hb.mono HB.out.size))
    obtain ⟨⟨z0, z1, z2, z3, z4, z5, z6⟩, zf⟩ := seven_cells (hblk_below HX hb).out
    clear hb zf
    go_wp2_with fail
    go_ret
    exact ⟨by rw [HD.out]; rfl, HB.out⟩
  subst hp
  have d1 : ((p : Int) != (p : Int)) = false := by simp
  by_cases hs : s = p
  case neg =>
    have d2 : ((s : Int) != (p : Int)) = true := by simp; omega
    have HD := Lib.hid (show rightD D = false by
      rw [rightD_def, Hck.out, decide_eq_false (p := D.sa.length = _) (by rw [← HL.out.1, ← HL.out.2.2.2]; exact hs)]; simp)
    clear hs
    go_enter Tryz.func21, Tryz.ntmps21
    go_wp2_with fail
    refine HCh.out.mono ?_
    rintro e w1 ⟨rfl, hb⟩
    replace HB := Lib.hid (HB.out.trans (hb.mono HB.out.size))
    obtain ⟨⟨z0, z1, z2, z3, z4, z5, z6⟩, zf⟩ := seven_cells (hblk_below HX hb).out
    clear hb zf
    go_wp2_with fail
    go_ret
    exact ⟨by rw [HD.out]; rfl, HB.out⟩
  subst hs
  obtain rfl : s = m := by rw [HL.out.2.1, HM.out, ← HL.out.1]
  go_enter Tryz.func21, Tryz.ntmps21
  go_wp2_with fail
  refine HCh.out.mono ?_
  rintro e w1 ⟨rfl, hb⟩
  replace HB := Lib.hid (HB.out.trans (hb.mono HB.out.size))
  replace HX := hblk_below HX hb
  obtain ⟨⟨z0, z1, z2, z3, z4, z5, z6⟩, zf⟩ := seven_cells HX.out
  clear hb zf HCh
  go_wp2_with fail
  clear z0 z1 z2 z3 z4 z5 z6
  have HX0 := HX
  go_loopw [31] (fun x wr => ∃ i : Nat, i ≤ s ∧ x = .int .i64 (i : Nat) ∧ (∀ j, j < i → dOK D j = true) ∧ wr.heap[w.heap.size]? = some (.cells #[.int .i64 D.r.e, .int .i64 D.r.k, .slice A s c, .slice B s d, .string D.sec, .slice C s q, .slice E s t] 29 (0, 0)) ∧ Below w.heap.size w wr) (fun x _ => s - (intOf x).toNat)
  case atStart => exact ⟨0, by omega, rfl, fun j hj => by omega, HX0.out, HB.out⟩
  case round =>
    obtain ⟨i, hi, rfl, hall, hX, hW⟩ := hrel
    have Hall := Lib.hid hall
    clear HX0 HX HB d1
    have HX := Lib.hid hX
    have HB := Lib.hid hW
    clear hall hX hW
    by_cases hlt : i < s
    · have e1 : decide ((i : Int) < (s : Int)) = true := by simp; omega
      have e1' : (i : Int) < (s : Int) := by omega
      have hdn : i < D.r.ns.length := by rw [← HL.out.1]; exact hlt
      have hip : i < D.r.ps.length := by rw [HM.out]; exact hdn
      have his : i < D.sh.length := by rw [← HL.out.2.2.1]; exact hlt
      have hia : i < D.sa.length := by rw [← HL.out.2.2.2]; exact hlt
      obtain ⟨b1, o1, e2, c1⟩ := texts_at (HRp.out.below HB.out) hip
      obtain ⟨b2, o2, e3, c2⟩ := texts_at (HRa.out.below HB.out) hia
      obtain ⟨b3, o3, e4⟩ : ∃ b o, C = some ⟨b, o, none⟩ := by
        obtain ⟨b, o, h, _⟩ := (HRs.out.below HB.out).shr his
        exact ⟨b, o, h⟩
      subst e2 e3 e4
      obtain ⟨c3, c4⟩ := shr_at' (HRs.out.below HB.out) his
      have Hbad := Lib.hid (dright_bad (D := D) i hdn)
      have Hnext := Lib.hid (show dOK D i = true → ∀ j, j < i + 1 → dOK D j = true from fun h j hj => by
        rcases Nat.lt_or_eq_of_le (Nat.le_of_lt_succ hj) with h2 | h2
        · exact Hall.out j h2
        · rw [h2]; exact h)
      have Hdk := Lib.hid (show dOK D i = (decide ((D.sh.getD i (0, noneT)).1 = ((i + 1 : Nat) : Int)) && checkP D.r.ps[i] D.sa[i] (D.sh.getD i (0, noneT))) by
        unfold dOK
        rw [List.getD_eq_getElem?_getD (l := D.r.ps), List.getElem?_eq_getElem hip, List.getD_eq_getElem?_getD (l := D.sa), List.getElem?_eq_getElem hia]
        rfl)
      generalize D.sh.getD i (0, noneT) = sh at c3 c4 Hdk
      obtain ⟨x, b⟩ := sh
      generalize D.r.ps[i] = pl at c1 Hdk
      generalize D.sa[i] = sl at c2 Hdk
      simp only at c3 c4 Hdk
      obtain ⟨u, hu⟩ : ∃ u, u = wr.alloc (.cells #[.int .i64 x, .string b] 43) := ⟨_, rfl⟩
      have hbu : Below wr.heap.size wr u := hu ▸ (Below.refl wr.heap.size wr).alloc (Nat.le_refl _) _
      have hxu : u.heap[wr.heap.size]? = some (.cells #[.int .i64 x, .string b] 43 (0, 0)) := hu ▸ heap_alloc_new wr _
      have HU := Lib.hid hu
      have HXu := Lib.hid hxu
      replace HX := hblk_below HX hbu
      have HBu := Lib.hid (HB.out.trans (hbu.mono HB.out.size))
      have C1 := Lib.hid ((hbu.cell (cell_lt c1)).trans c1)
      have C2 := Lib.hid ((hbu.cell (cell_lt c2)).trans c2)
      clear hu hxu hbu hdn hip his hia c1 c2
      go_upto_region 7 with fail
      rw [← HU.out]
      clear HU c3 c4
      generalize wr.heap.size = gs at HXu
      obtain ⟨x0, x1, x2, x3, x4, x5, x6⟩ := (seven_cells HX.out).1
      have y3 := fun y : Later u => y.cell x3
      have y6 := fun y : Later u => y.cell x6
      have s0 := fun y : Later u => y.cell (cell_in HXu.out 0 _ rfl)
      have s1 := fun y : Later u => y.cell (cell_in HXu.out 1 _ rfl)
      have p1 := fun y : Later u => y.cell C1.out
      have p2 := fun y : Later u => y.cell C2.out
      have HC := Lib.hid (fun y : Later u => later_call (y := y) (checkp_any pl sl x b y.x (y.rounds (HR.out.below HBu.out))))
      clear x0 x1 x2 x3 x4 x5 x6
      by_cases hx : x = ((i + 1 : Nat) : Int)
      · have d1 : (x != (i : Int) + 1) = false := by subst hx; simp
        have HE := Lib.hid (show dOK D i = checkP pl sl (x, b) by rw [Hdk.out, decide_eq_true hx, Bool.true_and])
        clear hx
        cases hcp : checkP pl sl (x, b) with
        | true =>
          rw [hcp] at HC HE
          clear hcp
          refine wp_region_later (by kernel_rfl) (by kernel_rfl) ?_
          repeat (go_big_quiet_step (exact HC.out _))
          refine wpQuiet_nil ?_
          rintro _ ⟨y, rfl⟩
          go_wp2_with fail
          go_roundw
          case rel => exact ⟨i + 1, by omega, by go_num, Hnext.out HE.out, cells_below HX.out y.ok, Below.chain HBu.out y.ok⟩
          case measure => simp [intOf]; omega
        | false =>
          rw [hcp] at HC HE
          have Hf := Lib.hid (Hbad.out HE.out)
          clear hcp
          refine wp_region_later (by kernel_rfl) (by kernel_rfl) ?_
          repeat (go_big_quiet_step (exact HC.out _))
          refine wpQuiet_nil ?_
          rintro _ ⟨y, rfl⟩
          go_wp2_with fail
          go_ret
          exact ⟨by rw [Hf.out]; rfl, Below.chain HBu.out y.ok⟩
      · have d1 : (x != (i : Int) + 1) = true := by simp; omega
        have Hf := Lib.hid (Hbad.out (by rw [Hdk.out, decide_eq_false hx]; rfl))
        clear hx
        refine wp_region_later (by kernel_rfl) (by kernel_rfl) ?_
        repeat (go_big_quiet_step (exact HC.out _))
        refine wpQuiet_nil ?_
        rintro _ ⟨y, rfl⟩
        go_wp2_with fail
        go_ret
        exact ⟨by rw [Hf.out]; rfl, Below.chain HBu.out y.ok⟩
    · obtain rfl : i = s := by omega
      have e1 : decide ((i : Int) < (i : Int)) = false := by simp
      have Hf := Lib.hid (dright_all Hck.out (by rw [← HL.out.1, ← HL.out.2.2.1]) (by rw [← HL.out.1, ← HL.out.2.2.2]) (by rw [← HL.out.1]; exact Hall.out))
      go_wp2_with fail
      go_ret
      exact ⟨by rw [Hf.out]; rfl, HB.out⟩

end Go.Proofs.YtkbjmmigjjdfpaaGreatDoor
