/-
  Contract of keyholeref04.Block: the same function as stream.Block.
-/
import Derived.Test.YtkeeejkijbaooaaDoorR04
import Derived.Test.YtkeeejkijbaooaaDoorR02c
import Derived.Test.YtkeeejkijbaooaaDoorR02b
import Derived.Deep.RegionHeld3
namespace Go.Proofs.YtkeeejkijbaooaaDoor
open Go.RowKit
set_option linter.unusedVariables false
set_option maxRecDepth 100000
set_option linter.unusedSimpArgs false

theorem own_some {w : World} {B : Nat} {e : TypeId} {size n cap m : Nat} {A : Option Addr} {xs : List Value} (h : w.ownsRow B e size (.slice A m cap) n xs) (hn : 0 < n) : ∃ g, A = some ⟨g, 0, none⟩ ∧ m = n ∧ B ≤ g ∧ g < w.heap.size := by
  rcases h.2 with ⟨_, hv⟩ | ⟨g1, cap1, cur, hv, hb, hg, _⟩
  · omega
  · injection hv with h1 h2 h3
    exact ⟨g1, h1, h2, hb, cell_lt_of hg⟩
theorem Rd.kept_by {w w' : World} {g off : Nat} {ob : Option Nat} {xs : List Value} (h : Rd w (some ⟨g, off, none⟩) xs) (hk : ∀ k, k < w.heap.size → some k ≠ ob → w'.heap[k]? = w.heap[k]?) (hne : some g ≠ ob) : Rd w' (some ⟨g, off, none⟩) xs := fun i u hu => by
  obtain ⟨b, o, hA, hc⟩ := h i u hu
  refine ⟨b, o, hA, ?_⟩
  injection hA with hA
  injection hA with h1 h2
  subst h1 h2
  rw [← hc]
  unfold World.cell?
  simp only [hk _ (cell_lt hc) hne]
theorem int_rd_cell {w : World} {g : Nat} {xs : List Int} (h : Rd w (some ⟨g, 0, none⟩) (ints xs)) {i : Nat} (hi : i < xs.length) : w.cell? ⟨g, i, none⟩ = some (.int .i64 (xs.getD i 0)) := by
  obtain ⟨b, o, hA, hc⟩ := h.int_at hi
  injection hA with hA
  injection hA with h1 h2
  subst h1 h2
  rw [Nat.zero_add] at hc
  exact hc

theorem ints_oneC (xs : List Int) : ∀ u ∈ ints xs, u.oneCell' = true := by
  intro u hu
  obtain ⟨x, _, rfl⟩ := List.mem_map.1 hu
  rfl

/-- What lies in memory during the rounds. -/
structure BlkInv (w wr : World) (bX X cap g F : Nat) (xs fst : List Int) : Prop where
  own : wr.ownsRow bX 3 1 (.slice (some ⟨X, 0, none⟩) 16 cap) 16 (ints xs)
  places : Places wr g
  first : Rd wr (some ⟨F, 0, none⟩) (ints fst)
  below : Below w.heap.size w wr
theorem BlkInv.later {w wr w' : World} {bX X cap g F : Nat} {xs fst : List Int} (h : BlkInv w wr bX X cap g F xs fst) (hb : Below wr.heap.size wr w') : BlkInv w w' bX X cap g F xs fst :=
  ⟨own_keep h.own hb, h.places.below hb, h.first.below hb, Below.chain h.below hb⟩
theorem BlkInv.len {w wr : World} {bX X cap g F : Nat} {xs fst : List Int} (h : BlkInv w wr bX X cap g F xs fst) : xs.length = 16 := by
  have := h.own.1
  simpa [ints] using this
theorem BlkInv.cell {w wr : World} {bX X cap g F : Nat} {xs fst : List Int} (h : BlkInv w wr bX X cap g F xs fst) {i : Nat} (hi : i < 16) : wr.cell? ⟨X, i, none⟩ = some (.int .i64 (xs.getD i 0)) ∧ wr.frozen? ⟨X, i, none⟩ = false :=
  ⟨int_rd_cell (own_rd h.own) (by rw [h.len]; exact hi), h.own.frozenAt i⟩
theorem BlkInv.set {w wr : World} {bX X cap g F : Nat} {xs fst : List Int} (h : BlkInv w wr bX X cap g F xs fst) (hXg : X < g) (hF : F ≠ X) (hw : w.heap.size ≤ X) (j : Nat) (u : Int) : BlkInv w (wr.setCell ⟨X, j, none⟩ (.int .i64 u)) bX X cap g F (xs.set j u) fst := by
  obtain ⟨h1, h2⟩ := h.own.stored j (.int .i64 u)
  refine ⟨?_, h.places.keep h2.size (fun i hi _ => ?_), h.first.gb h2 hF, h.below.setCell (p := ⟨X, j, none⟩) hw _⟩
  · rw [show ints (xs.set j u) = (ints xs).set j (.int .i64 u) by simp [ints, List.map_set]]
    exact h1
  · rcases Nat.lt_or_ge i wr.heap.size with hlt | hge
    · exact h2.block i hlt (fun e => by injection e; omega)
    · rw [Array.getElem?_eq_none hge, Array.getElem?_eq_none (by rw [World.size_setCell]; exact hge)]

theorem turnsTo_zero (st : List Int) : turnsTo st 0 = st := by
  rw [turnsTo, List.take_zero, List.foldl_nil]
theorem BlkInv.drew {w wr : World} {bX X cap g F : Nat} {xs fst : List Int} (h : BlkInv w wr bX X cap g F xs fst) : BlkInv w wr.drew bX X cap g F xs fst := h.later (Below.refl _ _).drew
theorem sumsTo_wd (fin st : List Int) (h : ∀ x ∈ fin, Wd x) (i : Nat) : ∀ x ∈ sumsTo fin st i, Wd x := by
  intro x hx
  obtain ⟨j, hj, rfl⟩ := List.mem_map.1 hx
  split
  · exact wd_add _
  · exact wd_get h j
/-- The state behind i turns. -/
def Tst (st : List Int) (i : Nat) : List Int := turnsTo (roundsTo st (i / 8)) (i % 8)
theorem Tst_succ (st : List Int) (i : Nat) {p : Nat × Nat × Nat × Nat} (hp : turnsT[i % 8]? = some p) : Tst st (i + 1) = turnAt (Tst st i) p := by
  unfold Tst
  rw [← turnsTo_succ _ hp]
  by_cases h : i % 8 = 7
  · rw [show (i + 1) / 8 = i / 8 + 1 by omega, show (i + 1) % 8 = 0 by omega, show i % 8 + 1 = 8 by omega]
    rw [turnsTo_zero, roundsTo]
  · rw [show (i + 1) / 8 = i / 8 by omega, show (i + 1) % 8 = i % 8 + 1 by omega]
theorem Tst_words {st : List Int} (h : Words16 st) (i : Nat) : Words16 (Tst st i) := turns_words _ (rounds_words h _)
theorem Tst_80 (st : List Int) : Tst st 80 = roundsTo st 10 := by
  unfold Tst
  rw [show 80 / 8 = 10 from rfl, show 80 % 8 = 0 from rfl, turnsTo_zero]
theorem Tst_0 (st : List Int) : Tst st 0 = st := by
  unfold Tst
  rw [show 0 / 8 = 0 from rfl, show 0 % 8 = 0 from rfl, turnsTo_zero, roundsTo]
def setsTo (sv : List Int) (ps : List Nat) (ys : List Int) : Nat → List Int
  | 0 => sv
  | j + 1 => (setsTo sv ps ys j).set (ps.getD j 0) (ys.getD j 0)
theorem turnsT_at (m : Nat) (h : m < 8) : ∃ p, turnsT[m]? = some p ∧ pOk p = true := by
  match m, h with
  | 0, _ | 1, _ | 2, _ | 3, _ | 4, _ | 5, _ | 6, _ | 7, _ => exact ⟨_, rfl, rfl⟩
theorem keep8_alloc {W : World} {o : Obj} {p1 p2 p3 p4 p5 p6 p7 p8 : Addr} {v1 v2 v3 v4 v5 v6 v7 v8 : Value} (h : W.cell? p1 = some v1 ∧ W.cell? p2 = some v2 ∧ W.cell? p3 = some v3 ∧ W.cell? p4 = some v4 ∧ W.cell? p5 = some v5 ∧ W.cell? p6 = some v6 ∧ W.cell? p7 = some v7 ∧ W.cell? p8 = some v8) :
    (W.alloc o).cell? p1 = some v1 ∧ (W.alloc o).cell? p2 = some v2 ∧ (W.alloc o).cell? p3 = some v3 ∧ (W.alloc o).cell? p4 = some v4 ∧ (W.alloc o).cell? p5 = some v5 ∧ (W.alloc o).cell? p6 = some v6 ∧ (W.alloc o).cell? p7 = some v7 ∧ (W.alloc o).cell? p8 = some v8 := by
  have k : ∀ {p u}, W.cell? p = some u → (W.alloc o).cell? p = some u := fun h => (((Below.refl _ _).alloc (Nat.le_refl _) o).cell (cell_lt h)).trans h
  obtain ⟨h1, h2, h3, h4, h5, h6, h7, h8⟩ := h
  exact ⟨k h1, k h2, k h3, k h4, k h5, k h6, k h7, k h8⟩

set_option maxHeartbeats 2000000 in
theorem block4 (key nonce : ByteArray) (n : Int) (w : World) (hk : key.size = 32) (ho : nonce.size = 12) (hn : Wd n) :
    Calls Tryd.prog 102 #[.string key, .string nonce, .int .i64 n] w fun e w' => e = .returned (.tuple #[.string (bs (blockL key.data.toList nonce.data.toList n)), .int .i64 0]) ∧ Below w.heap.size w w' := by
  have h1 : ((key.size : Int) != 32) = false := by simp [hk]
  have h2 : ((nonce.size : Int) != 12) = false := by simp [ho]
  have Hk := Lib.hid hk
  have Ho := Lib.hid ho
  have HN := Lib.hid hn
  have Hwb := Lib.hid (show wordB n = true by obtain ⟨h1, h2⟩ := hn; simp [wordB, h1, h2])
  clear hk ho hn
  go_enter Tryd.func102, Tryd.ntmps102
  go_wp2_with fail
  refine (is1 n _).mono ?_
  rintro e w0 ⟨rfl, hw0⟩
  obtain rfl := hw0.symm
  clear hw0
  rw [Hwb.out]
  go_wp2_with fail
  have HOF : Hid ((w.alloc (.cells (ints [1634760805, 857760878, 2036477234, 1797285236]).toArray 3)).ownsRow w.heap.size 3 1 (.slice (some ⟨w.heap.size, 0, none⟩) 4 4) 4 (ints [1634760805, 857760878, 2036477234, 1797285236])) := Lib.hid (own_new (Nat.le_refl _) rfl (by unfold maxLen; omega))
  have HB1 := Lib.hid ((Below.refl w.heap.size w).alloc (Nat.le_refl _) (.cells (ints [1634760805, 857760878, 2036477234, 1797285236]).toArray 3))
  refine (cut1 key false 8 _ Hk.out (by rw [Hk.out]; decide)).mono ?_
  rintro e w2 ⟨BK, capK, rfl, hoK, hb2⟩
  obtain ⟨gK, rfl, _, hgK, hgK2⟩ := own_some hoK (by omega)
  replace HOF := Lib.hid (own_keep HOF.out hb2)
  have HB2 := Lib.hid (Below.chain HB1.out hb2)
  have HRK := Lib.hid (own_rd hoK)
  have hgKw : w.heap.size < gK := by simp at hgK; omega
  clear hoK hb2 hgK HB1
  go_wp2_with fail
  refine (cut1 nonce false 3 _ Ho.out (by rw [Ho.out]; decide)).mono ?_
  rintro e w3 ⟨BM, capM, rfl, hoM, hb3⟩
  obtain ⟨gM, rfl, _, hgM, hgM2⟩ := own_some hoM (by omega)
  replace HOF := Lib.hid (own_keep HOF.out hb3)
  have HB3 := Lib.hid (Below.chain HB2.out hb3)
  have HRM := Lib.hid (own_rd hoM)
  replace HRK := Lib.hid (HRK.out.below hb3)
  have hgMw : w.heap.size < gM := by omega
  clear hoM hb3 hgM HB2
  go_wp2_with (at_builtin; refine wpList_append_from (by rfl) (.tmp 46) (.tmp 47) 71 (by rfl) w.heap.size 3 (.int .i64 0) 1 8 Tryd.underlying71 int_info rfl (by omega) w3 _ _ _ _ (by rfl) HOF.out _ 8 _ (by rfl) HRK.out (by simp [ints, cutL]) (ints_oneC _) (by omega) (by omega) (by omega) HB3.out.size ?_)
  intro g4 cap4 w4 ho4 hb4 hk4 ha4 hl4
  have hg4 : g4 ≠ gM := by
    rcases ha4 with h | h
    · injection h with h; simp only at h; omega
    · omega
  have HO4 := Lib.hid ho4
  have HB4 := Lib.hid (HB3.out.trans hb4)
  have HM4 := Lib.hid (HRM.out.kept_by hk4 (fun e => by injection e with e; simp only at e; omega))
  have hM4 : gM < w4.heap.size := Nat.lt_of_lt_of_le hgM2 hb4.size
  clear ho4 hb4 hk4 ha4 hl4 HOF HB3 HRM HRK
  go_wp2_with (at_builtin; refine wpList_append_new (by rfl) (.tmp 49) (.tmp 51) 71 (by rfl) w.heap.size 3 (.int .i64 0) 1 8 Tryd.underlying71 int_info rfl (by omega) w4 _ _ _ _ _ (by rfl) HO4.out _ 1 1 (by rfl) (by rfl) (by rfl) (by rfl) (by omega) (by omega) (by omega) (by exact HB4.out.size) ?_)
  intro g5 cap5 w5 ho5 hb5 hk5 ha5 hl5
  have hg5 : g5 ≠ gM := by
    rcases ha5 with h | h
    · injection h with h; simp only at h; omega
    · omega
  have HO5 := Lib.hid ho5
  have HB5 := Lib.hid (HB4.out.trans hb5)
  have HM5 := Lib.hid (HM4.out.kept_by hk5 (fun e => by injection e with e; simp only at e; omega))
  clear ho5 hb5 hk5 ha5 hl5 HO4 HB4 HM4
  go_wp2_with (at_builtin; refine wpList_append_from (by rfl) (.tmp 53) (.tmp 54) 71 (by rfl) w.heap.size 3 (.int .i64 0) 1 8 Tryd.underlying71 int_info rfl (by omega) w5 _ _ _ _ (by rfl) HO5.out _ 3 _ (by rfl) HM5.out (by simp [ints, cutL]) (ints_oneC _) (by omega) (by omega) (by omega) HB5.out.size ?_)
  intro F cap6 w6 ho6 hb6 hk6 ha6 hl6
  have HOF : Hid (w6.ownsRow w.heap.size 3 1 (.slice (some ⟨F, 0, none⟩) 16 cap6) 16 (ints (firstL key.data.toList nonce.data.toList n))) := Lib.hid (by
    have := ho6
    rw [show ints (firstL key.data.toList nonce.data.toList n) = ints [1634760805, 857760878, 2036477234, 1797285236] ++ ints (cutL key.data.toList false 8) ++ [.int .i64 n] ++ ints (cutL nonce.data.toList false 3) by simp [ints, firstL]]
    exact this)
  have HB6 := Lib.hid (HB5.out.trans hb6)
  have Hblk := Lib.hid (show blockL key.data.toList nonce.data.toList n = joinL (sumsTo (Tst (firstL key.data.toList nonce.data.toList n) 80) (firstL key.data.toList nonce.data.toList n) 16) false by rw [Tst_80, blockL])
  have HWd := Lib.hid (first_words key.data.toList nonce.data.toList n HN.out)
  clear ho6 hb6 hk6 ha6 HO5 HB5 HM5
  generalize firstL key.data.toList nonce.data.toList n = fst at HOF Hblk HWd
  have HRF := Lib.hid (own_rd HOF.out)
  have hF := hl6
  clear hl6
  go_wp2_with (at_builtin; refine wpList_append_from (by rfl) (.tmp 56) (.tmp 57) 71 (by rfl) w6.heap.size 3 (.int .i64 0) 1 8 Tryd.underlying71 int_info rfl (by omega) w6 _ _ 0 [] (by rfl) ⟨rfl, .inl ⟨rfl, rfl⟩⟩ _ 16 _ (by rfl) HRF.out (by rw [Nat.mul_one]; have := HWd.out.1; simp [ints, this]) (ints_oneC _) (by omega) (by omega) (by omega) (Nat.le_refl _) ?_)
  intro X capX w7 ho7 hb7 hk7 ha7 hl7
  have hX : w6.heap.size ≤ X := by
    rcases ha7 with h | h
    · cases h
    · exact h
  have HOX : Hid (w7.ownsRow w6.heap.size 3 1 (.slice (some ⟨X, 0, none⟩) 16 capX) 16 (ints fst)) := Lib.hid ho7
  have HB7 := Lib.hid (Below.chain HB6.out hb7)
  replace HRF := Lib.hid (HRF.out.below hb7)
  have hwX : w.heap.size ≤ X := Nat.le_trans HB6.out.size hX
  have hFX : F ≠ X := by omega
  clear ho7 hb7 hk7 ha7 HOF HB6
  go_wp2_with fail
  refine (places4 _).mono ?_
  rintro e w8 ⟨rfl, hpl, hb8⟩
  have HI : Hid (BlkInv w w8 w6.heap.size X capX w7.heap.size F (Tst fst 0) fst) := Lib.hid (by rw [Tst_0]; exact ⟨own_keep HOX.out hb8, hpl, HRF.out.below hb8, Below.chain HB7.out hb8⟩)
  obtain ⟨g, hg⟩ : ∃ g, g = w7.heap.size := ⟨_, rfl⟩
  rw [← hg] at HI hl7 ⊢
  obtain ⟨bX, hbX⟩ : ∃ bX, bX = w6.heap.size := ⟨_, rfl⟩
  rw [← hbX] at HI
  clear hpl hb8 HOX HB7 HRF hg hbX hX hF hg4 hg5 hM4 hgKw hgMw hgK2 hgM2
  go_wp2_with fail
  go_loopw [15] (fun x wr => ∃ i : Nat, i ≤ 80 ∧ x = .int .i64 (i : Nat) ∧ BlkInv w wr bX X capX g F (Tst fst i) fst) (fun x _ => 80 - (intOf x).toNat)
  case atStart => exact ⟨0, by omega, rfl, HI.out⟩
  case round =>
    obtain ⟨i, hi, rfl, hinv⟩ := hrel
    clear HI
    have HI := Lib.hid hinv
    by_cases hlt : i < 80
    · obtain ⟨m, hm⟩ : ∃ m, m = i % 8 := ⟨_, rfl⟩
      obtain ⟨⟨a, b, c, d⟩, hp, hpo⟩ := turnsT_at m (by omega)
      have hsucc := Tst_succ fst i (p := (a, b, c, d)) (by rw [← hm]; exact hp)
      obtain ⟨hc8, hgm, _⟩ := hinv.places m _ hp
      simp only [pOk, Bool.and_eq_true, decide_eq_true_eq] at hpo
      obtain ⟨⟨⟨⟨⟨⟨⟨⟨⟨ha, hb⟩, hc⟩, hd⟩, hab⟩, hac⟩, had⟩, hbc⟩, hbd⟩, hcd⟩ := hpo
      have him : (i : Int) % 8 = (m : Int) := by omega
      have hm8 : (m : Int) < 8 := by omega
      have hws := Tst_words HWd.out i
      obtain ⟨sv, hsv⟩ : ∃ sv, sv = Tst fst i := ⟨_, rfl⟩
      rw [← hsv] at hsucc hws hinv HI
      have Hsucc := Lib.hid hsucc
      have Hp := Lib.hid hp
      have Hsv := Lib.hid hsv
      have Hgm := Lib.hid hgm
      have q0 : wr.cell? ⟨g + m, 0, none⟩ = some (.int .i64 (a : Nat)) := by unfold World.cell?; simp only [hgm]; rfl
      have q1 : wr.cell? ⟨g + m, 1, none⟩ = some (.int .i64 (b : Nat)) := by unfold World.cell?; simp only [hgm]; rfl
      have q2 : wr.cell? ⟨g + m, 2, none⟩ = some (.int .i64 (c : Nat)) := by unfold World.cell?; simp only [hgm]; rfl
      have q3 : wr.cell? ⟨g + m, 3, none⟩ = some (.int .i64 (d : Nat)) := by unfold World.cell?; simp only [hgm]; rfl
      have x0 := (hinv.cell ha).1
      have x1 := (hinv.cell hb).1
      have x2 := (hinv.cell hc).1
      have x3 := (hinv.cell hd).1
      have W0 := Lib.hid (wd_getD hws.2 a)
      have W1 := Lib.hid (wd_getD hws.2 b)
      have W2 := Lib.hid (wd_getD hws.2 c)
      have W3 := Lib.hid (wd_getD hws.2 d)
      have Ht := Lib.hid (show turnAt sv (a, b, c, d) = setsTo sv [a, b, c, d] [(turnI (sv.getD a 0) (sv.getD b 0) (sv.getD c 0) (sv.getD d 0)).1, (turnI (sv.getD a 0) (sv.getD b 0) (sv.getD c 0) (sv.getD d 0)).2.1, (turnI (sv.getD a 0) (sv.getD b 0) (sv.getD c 0) (sv.getD d 0)).2.2.1, (turnI (sv.getD a 0) (sv.getD b 0) (sv.getD c 0) (sv.getD d 0)).2.2.2] 4 from rfl)
      generalize sv.getD a 0 = va at x0 W0 Ht
      generalize sv.getD b 0 = vb at x1 W1 Ht
      generalize sv.getD c 0 = vc at x2 W2 Ht
      generalize sv.getD d 0 = vd at x3 W3 Ht
      have ia : (a : Int) < 16 := by omega
      have ib : (b : Int) < 16 := by omega
      have ic : (c : Int) < 16 := by omega
      have id' : (d : Int) < 16 := by omega
      have hS8 : wr.cell? ⟨g + m, 0, none⟩ = some (.int .i64 (a : Nat)) ∧ wr.cell? ⟨g + m, 1, none⟩ = some (.int .i64 (b : Nat)) ∧ wr.cell? ⟨g + m, 2, none⟩ = some (.int .i64 (c : Nat)) ∧ wr.cell? ⟨g + m, 3, none⟩ = some (.int .i64 (d : Nat)) ∧ wr.cell? ⟨X, a, none⟩ = some (.int .i64 va) ∧ wr.cell? ⟨X, b, none⟩ = some (.int .i64 vb) ∧ wr.cell? ⟨X, c, none⟩ = some (.int .i64 vc) ∧ wr.cell? ⟨X, d, none⟩ = some (.int .i64 vd) := ⟨q0, q1, q2, q3, x0, x1, x2, x3⟩
      have HS8 := Lib.hid hS8
      have Hm := Lib.hid hm
      have hXlt := cell_lt x0
      clear hinv hsucc hsv hws hp hgm hab hac had hbc hbd hcd hS8 hm q0 q1 q2 q3 x0 x1 x2 x3
      go_wp2_with fail
      clear hc8 him hm8
      go_region_held3 (fun w' => w'.cell? ⟨g + m, 0, none⟩ = some (.int .i64 (a : Nat)) ∧ w'.cell? ⟨g + m, 1, none⟩ = some (.int .i64 (b : Nat)) ∧ w'.cell? ⟨g + m, 2, none⟩ = some (.int .i64 (c : Nat)) ∧ w'.cell? ⟨g + m, 3, none⟩ = some (.int .i64 (d : Nat)) ∧ w'.cell? ⟨X, a, none⟩ = some (.int .i64 va) ∧ w'.cell? ⟨X, b, none⟩ = some (.int .i64 vb) ∧ w'.cell? ⟨X, c, none⟩ = some (.int .i64 vc) ∧ w'.cell? ⟨X, d, none⟩ = some (.int .i64 vd))
        (first | assumption | exact HS8.out | exact keep8_alloc (by assumption))
        (first
          | ((go_at_call 116; refine (turn4 va vb vc vd _ _ _ _ (by exact rd_new' _ _ _ _ (by simp)) rfl W0.out W1.out W2.out W3.out).mono ?_); rintro _ w' ⟨rfl, rfl⟩))
      go_wp2_with fail
      have hW2 : ∀ o1 o2, Below wr.heap.size wr ((wr.alloc o1).alloc o2).drew := fun o1 o2 => (((Below.refl _ _).alloc (Nat.le_refl _) o1).alloc (by simp) o2).drew
      obtain ⟨ys, hys⟩ : ∃ ys, ys = [(turnI va vb vc vd).fst, (turnI va vb vc vd).snd.fst, (turnI va vb vc vd).snd.snd.fst, (turnI va vb vc vd).snd.snd.snd] := ⟨_, rfl⟩
      rw [← hys] at Ht ⊢
      have hyl : ys.length = 4 := by rw [hys]; rfl
      have HY := Lib.hid (new_two wr (.cells #[Value.int IntKind.i64 va, Value.int IntKind.i64 vb, Value.int IntKind.i64 vc, Value.int IntKind.i64 vd] 3) (.cells (ints ys).toArray 3))
      have HI2 := Lib.hid (HI.out.later (hW2 (.cells #[Value.int IntKind.i64 va, Value.int IntKind.i64 vb, Value.int IntKind.i64 vc, Value.int IntKind.i64 vd] 3) (.cells (ints ys).toArray 3)))
      obtain ⟨Y, hY⟩ : ∃ Y, Y = wr.heap.size + 1 := ⟨_, rfl⟩
      rw [← hY] at HY ⊢
      generalize ((wr.alloc (.cells #[Value.int IntKind.i64 va, Value.int IntKind.i64 vb, Value.int IntKind.i64 vc, Value.int IntKind.i64 vd] 3)).alloc (.cells (ints ys).toArray 3)).drew = wy at HY HI2 ⊢
      have hYX : Y ≠ X := by omega
      clear hW2 hys hY HI HS8 hXlt Hgm
      have hm8 : m < 8 := by have := Hm.out; omega
      go_loopw [18] (fun x wi => ∃ j : Nat, j ≤ 4 ∧ x = .int .i64 (j : Nat) ∧ BlkInv w wi bX X capX g F (setsTo sv [a, b, c, d] ys j) fst ∧ wi.heap[Y]? = some (.cells (ints ys).toArray 3 (0, 0))) (fun x _ => 4 - (intOf x).toNat)
      case atStart => exact ⟨0, by omega, rfl, HI2.out, HY.out⟩
      case round =>
        obtain ⟨j, hj, rfl, hinv, hy⟩ := hrel
        clear HI2 HY
        by_cases hj4 : j < 4
        · obtain ⟨q, hq⟩ : ∃ q, q = [a, b, c, d].getD j 0 := ⟨_, rfl⟩
          have hq16 : q < 16 := by
            rw [hq]
            match j, hj4 with
            | 0, _ => exact ha
            | 1, _ => exact hb
            | 2, _ => exact hc
            | 3, _ => exact hd
          have hgm := (hinv.places m (a, b, c, d) Hp.out).2.1
          have pc : wr.cell? ⟨g + m, j, none⟩ = some (.int .i64 (q : Nat)) := by
            rw [hq]
            unfold World.cell?
            simp only [hgm]
            match j, hj4 with
            | 0, _ => rfl
            | 1, _ => rfl
            | 2, _ => rfl
            | 3, _ => rfl
          have yc := (ints_cell hy (i := j) (by rw [hyl]; exact hj4)).1
          have Hset := Lib.hid (show setsTo sv [a, b, c, d] ys (j + 1) = (setsTo sv [a, b, c, d] ys j).set q (ys.getD j 0) by rw [setsTo, ← hq])
          have xc := (hinv.cell hq16).1
          have xf := (hinv.cell hq16).2
          generalize (setsTo sv [a, b, c, d] ys j).getD q 0 = old at xc
          generalize ys.getD j 0 = y at yc Hset
          have HV := Lib.hid hinv
          have HYc := Lib.hid hy
          have ji : (j : Int) < 4 := by omega
          have qi : (q : Int) < 16 := by omega
          clear hinv hy hgm hq
          go_wp2_with fail
          go_region
          all_goals
            go_wp2_with fail
            have e1 := HV.out.set hl7 hFX hwX q y
            rw [← Hset.out] at e1
            have e2 := (Below.heap_setCell wr ⟨X, q, none⟩ (.int .i64 y) Y hYX).trans HYc.out
            have He := Lib.hid (And.intro e1.drew e2)
            clear e1 e2
            go_roundw
            case rel => exact ⟨j + 1, by omega, by go_num, He.out.1, He.out.2⟩
            case measure => simp [intOf]; omega
        · obtain rfl : j = 4 := by omega
          have hnext : BlkInv w wr bX X capX g F (Tst fst (i + 1)) fst := by
            rw [Hsucc.out, Ht.out]
            exact hinv
          have HX := Lib.hid hnext
          clear hinv hy hnext
          go_wp2_with fail
          go_roundw
          case rel => exact ⟨i + 1, by omega, by go_num, HX.out⟩
          case measure => simp [intOf]; omega
    · obtain rfl : i = 80 := by omega
      have Hfw := Lib.hid (Tst_words HWd.out 80)
      generalize Tst fst 80 = fin at HI Hfw Hblk
      clear hinv
      go_wp2_with fail
      obtain ⟨wo, hwo⟩ : ∃ wo : World, wo = wr := ⟨_, rfl⟩
      rw [← hwo] at HI ⊢
      clear hwo
      go_loopw [19] (fun x wi => ∃ j : Nat, j ≤ 16 ∧ x = .int .i64 (j : Nat) ∧ BlkInv w wi bX X capX g F (sumsTo fin fst j) fst) (fun x _ => 16 - (intOf x).toNat)
      case atStart => exact ⟨0, by omega, rfl, by rw [sumsTo_zero fin fst Hfw.out.1]; exact HI.out⟩
      case round =>
        obtain ⟨j, hj, rfl, hinv⟩ := hrel
        clear HI
        by_cases hj16 : j < 16
        · have xc := (hinv.cell hj16).1
          have xf := (hinv.cell hj16).2
          have fc := int_rd_cell hinv.first (i := j) (by rw [HWd.out.1]; exact hj16)
          rw [sumsTo_at fin fst j hj16] at xc
          have hxw : Wd (fin.getD j 0) := wd_get Hfw.out.2 j
          have hyw : Wd (fst.getD j 0) := wd_get HWd.out.2 j
          have Hset := Lib.hid (sumsTo_set fin fst j hj16)
          generalize fin.getD j 0 = x at xc Hset hxw
          generalize fst.getD j 0 = y at fc Hset hyw
          have HXw := Lib.hid hxw
          have HYw := Lib.hid hyw
          have HV := Lib.hid hinv
          have ji : (j : Int) < 16 := by omega
          clear hinv hxw hyw
          go_wp2_with fail
          go_region_law (first | (go_simp; go_at_call 113; refine (sum1 x y _ HXw.out HYw.out).mono ?_; rintro e w' ⟨rfl, rfl⟩))
          all_goals
            go_wp2_with fail
            have e1 := HV.out.set hl7 hFX hwX j (addI [x, y])
            rw [Hset.out] at e1
            refine ⟨?_, by simp [intOf]; omega⟩
            repeat apply Exists.intro
            refine ⟨⟨j + 1, by omega, by go_num, e1.drew⟩, rfl⟩
        · obtain rfl : j = 16 := by omega
          have HV := Lib.hid hinv
          clear hinv
          go_wp2_with fail
          refine (join1 (sumsTo fin fst 16) _ _ _ false _ (own_rd HV.out.own) (by rw [sumsTo_len]) (by rw [sumsTo_len]; decide) (sumsTo_wd fin fst Hfw.out.2 16)).mono ?_
          rintro e w9 ⟨rfl, hb9⟩
          have HB9 := Lib.hid (Below.chain HV.out.below hb9)
          clear hb9
          go_wp2_with fail
          go_ret2
          exact ⟨by rw [Hblk.out]; rfl, HB9.out⟩
end Go.Proofs.YtkeeejkijbaooaaDoor
