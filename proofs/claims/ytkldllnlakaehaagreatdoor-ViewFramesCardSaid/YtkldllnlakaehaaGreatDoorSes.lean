/-
  Contracts of session: Pair, and Send of a session that a Pair told.
-/
import Derived.Test.YtkldllnlakaehaaGreatDoorKy
import Derived.Test.YtkldllnlakaehaaGreatDoorSe
import Derived.Test.YtkldllnlakaehaaGreatDoorSealT
namespace Go.Proofs.YtkldllnlakaehaaGreatDoor
open Go.RowKit Go.Shelf
set_option linter.unusedVariables false
set_option linter.unusedSimpArgs false
set_option maxRecDepth 100000
set_option maxHeartbeats 2000000

/-- A number's eight bytes, as the loop lays them. -/
def nbT (n : Nat) : Nat → List UInt8
  | 0 => List.replicate 8 0
  | i + 1 => (nbT n i).set (7 - i) (UInt8.ofNat (n / 2 ^ (8 * i)))
theorem nbT_len (n : Nat) : ∀ i, (nbT n i).length = 8
  | 0 => by simp [nbT]
  | i + 1 => by rw [nbT, List.length_set, nbT_len n i]
def nbB (n : Nat) : ByteArray := bs (nbT n 8)
theorem nbB_size (n : Nat) : (nbB n).size = 8 := by rw [nbB, bs_size, nbT_len]
theorem u8_shr' (n k : Nat) : (n : Int) / 2 ^ k % 256 = (((UInt8.ofNat (n / 2 ^ k)).toNat : Nat) : Int) := by
  rw [UInt8.toNat_ofNat']
  simp
theorem nbytes_any (n : Nat) (w : World) (hn : n ≤ 1000000001) :
    Calls Tryz.prog 38 #[.int .i64 (n : Nat)] w fun e w' => e = .returned (.string (nbB n)) ∧ Below w.heap.size w w' := by
  have hmk : ∀ W, (Instr.makeSlice 64 (.int .i64 8) (.int .i64 8)).run Tryz.prog W = .ok (.slice (some ⟨W.heap.size, 0, none⟩) 8 8) (W.alloc (.cells (madeCells #[.int .u8 0] 8) 5)) := fun W => run_make_row' (P := Tryz.prog) 64 5 (.int .u8 0) 1 Tryz.underlying64 uint8_info rfl .i64 .i64 8 (by omega) (by omega) W
  go_enter Tryz.func38, Tryz.ntmps38
  go_wp2_with fail
  go_loopw [6] (fun x wr => ∃ (i : Nat), i ≤ 8 ∧ x = .int .i64 (i : Nat) ∧ BytAt wr w.heap.size (nbT n i) ∧ Below w.heap.size w wr) (fun x _ => 8 - (intOf x).toNat)
  case atStart => exact ⟨0, by omega, rfl, kbytes_new w 8, (Below.refl _ _).alloc (Nat.le_refl _) _⟩
  case round =>
    obtain ⟨i, hi, rfl, hb, hW⟩ := hrel
    have HBt := Lib.hid hb
    have HW := Lib.hid hW
    by_cases hlt : i < 8
    · have d1 : decide ((i : Int) < 8) = true := by simp; omega
      obtain ⟨c1, f1⟩ := hb (7 - i) (by rw [nbT_len]; omega)
      have hw1 : (7 - (i : Int)) = ((7 - i : Nat) : Int) := by omega
      have hu := u8_shr' n (8 * i)
      have HS := Lib.hid (show (nbT n i).set (7 - i) (UInt8.ofNat (n / 2 ^ (8 * i))) = nbT n (i + 1) from rfl)
      generalize UInt8.ofNat (n / 2 ^ (8 * i)) = u at hu HS
      clear hb hW
      go_wp2_with fail
      go_roundw
      case rel => exact ⟨i + 1, by omega, by go_num, by rw [← HS.out]; exact HBt.out.set (7 - i) u, HW.out.setCell (p := ⟨w.heap.size, 7 - i, none⟩) (Nat.le_refl _) _⟩
      case measure => simp [intOf]; omega
    · obtain rfl : i = 8 := by omega
      have d1 : decide ((8 : Int) < 8) = false := by decide
      have hcv := conv_byt hb 8 8 (nbT_len n 8).symm
      clear hb hW
      go_wp2_with fail
      go_ret
      exact ⟨rfl, HW.out⟩
theorem ks1_below {W W' : World} {p : Addr} {u : Value} (h : W.cell? p = some u) (hb : Below W.heap.size W W') : W'.cell? p = some u := (hb.cell (cell_lt h)).trans h
theorem nonces_any (w : World) : Calls Tryz.prog 20 #[.int .i64 0] w fun e w' => (∃ (g : Nat) (hd : ByteArray), e = .returned (.func (.func 37) #[] #[.pointer (some ⟨g, 0, none⟩)]) ∧ hd.size = 4 ∧ w'.cell? ⟨g, 0, none⟩ = some (.string hd)) ∧ Below w.heap.size w w' := by
  have hcv : (convert 64 9 (.slice (some ⟨w.heap.size, 0, none⟩) 4 4)).run Tryz.prog (w.alloc (.cells #[.int .u8 0, .int .u8 0, .int .u8 0, .int .u8 0] 5)) = .ok (.string (bs [0, 0, 0, 0])) (w.alloc (.cells #[.int .u8 0, .int .u8 0, .int .u8 0, .int .u8 0] 5)) :=
    conv_rd (l := [0, 0, 0, 0]) (rd_new' w 5 #[.int .u8 0, .int .u8 0, .int .u8 0, .int .u8 0] w.heap.size rfl) 4 4 rfl
  go_enter Tryz.func20, Tryz.ntmps20
  go_wp2_with fail
  go_ret
  have hX := heap_alloc_new (w.alloc (.cells #[.int .u8 0, .int .u8 0, .int .u8 0, .int .u8 0] 5)) (.cells #[.string (bs [0, 0, 0, 0])] 9)
  rw [World.size_alloc] at hX
  exact ⟨⟨_, _, rfl, rfl, rf_at hX 0 _ rfl⟩, ((Below.refl _ _).alloc (Nat.le_refl _) _).alloc (by simp) _⟩
theorem nonces1_any (g n : Nat) (hd : ByteArray) (w : World) (hc : w.cell? ⟨g, 0, none⟩ = some (.string hd)) (h4 : hd.size = 4) (hn : n ≤ 1000000001) :
    Calls Tryz.prog 37 #[.int .i64 (n : Nat), .pointer (some ⟨g, 0, none⟩)] w fun e w' => e = .returned (.string (hd ++ nbB n)) ∧ Below w.heap.size w w' := by
  have HNb := Lib.hid (fun W => nbytes_any n W hn)
  have hs : ¬ 9223372036854775807 < hd.size + (nbB n).size := by rw [nbB_size]; omega
  clear h4
  generalize nbB n = nb at HNb hs ⊢
  go_enter Tryz.func37, Tryz.ntmps37
  go_wp2_with fail
  have HC := Lib.hid ((Below.refl w.heap.size w).drew)
  go_region_held3 (fun w' => w'.cell? ⟨g, 0, none⟩ = some (.string hd))
    (first | with_reducible assumption | exact hc | exact ks1_below (by assumption) (by assumption))
    (first
      | ((go_at_call 38; with_reducible refine (HNb.out _).mono ?_); rintro _ w5 ⟨rfl, hb5⟩; replace HC := Lib.hid (HC.out.trans (hb5.mono HC.out.size))))
  all_goals
    go_wp2_with fail
    go_ret
    exact ⟨rfl, HC.out⟩
theorem ftext_any (n : Nat) (s : ByteArray) (w : World) (hn : n ≤ 1000000001) (hs : s.size ≤ 1000000) :
    Calls Tryz.prog 22 #[.agg #[.int .i64 (n : Nat), .string s]] w fun e w' => e = .returned (.string (nbB n ++ s)) ∧ Below w.heap.size w w' := by
  have HNb := Lib.hid (fun W => nbytes_any n W hn)
  have hs : ¬ 9223372036854775807 < (nbB n).size + s.size := by rw [nbB_size]; omega
  generalize nbB n = nb at HNb hs ⊢
  have hX := heap_alloc_new w (.cells #[.int .i64 (n : Nat), .string s] 56)
  have x0 := rf_at hX 0 _ rfl
  have x1 := rf_at hX 1 _ rfl
  have HB := Lib.hid ((Below.refl w.heap.size w).alloc (Nat.le_refl _) (.cells #[.int .i64 (n : Nat), .string s] 56))
  clear hX
  go_enter Tryz.func22, Tryz.ntmps22
  go_wp2_with fail
  generalize hW1 : w.alloc (.cells #[.int .i64 (n : Nat), .string s] 56) = W1 at x0 x1 HB ⊢
  have HC := Lib.hid ((Below.refl W1.heap.size W1).drew)
  go_region_held3 (fun w' => w'.cell? ⟨w.heap.size, 0, none⟩ = some (.int .i64 (n : Nat)) ∧ w'.cell? ⟨w.heap.size, 1, none⟩ = some (.string s))
    (first | with_reducible assumption | exact ⟨x0, x1⟩ | exact keep2_below (by assumption) (by assumption))
    (first
      | ((go_at_call 38; with_reducible refine (HNb.out _).mono ?_); rintro _ w5 ⟨rfl, hb5⟩; replace HC := Lib.hid (HC.out.trans (hb5.mono HC.out.size))))
  all_goals
    go_wp2_with fail
    go_ret
    exact ⟨rfl, HB.out.trans (HC.out.mono HB.out.size)⟩
/-- A session. -/
abbrev sesV (key : ByteArray) (side sent : Nat) : Value := .agg #[.string key, .int .i64 (side : Nat), .int .i64 (sent : Nat), .int .i64 0]
theorem sright_any (key : ByteArray) (i : Nat) (w : World) (hk : key.size = 32) (hi : i ≤ 1000) :
    Calls Tryz.prog 19 #[.agg #[.string key, .int .i64 0, .int .i64 (i : Nat), .int .i64 0]] w fun e w' => e = .returned (.bool true) ∧ Below w.heap.size w w' := by
  have d1 : ((key.size : Int) == 32) = true := by simp; omega
  have d2 : decide ((i : Int) ≥ 0) = true := decide_eq_true (by omega)
  have d3 : decide ((i : Int) ≤ 1000000000) = true := decide_eq_true (by omega)
  have hX := heap_alloc_new w (.cells #[.string key, .int .i64 0, .int .i64 (i : Nat), .int .i64 0] 24)
  have x0 := rf_at hX 0 _ rfl
  have x1 := rf_at hX 1 _ rfl
  have x2 := rf_at hX 2 _ rfl
  have x3 := rf_at hX 3 _ rfl
  clear hX
  go_enter Tryz.func19, Tryz.ntmps19
  go_wp2_with fail
  go_ret
  exact ⟨rfl, (Below.refl _ _).alloc (Nat.le_refl _) _⟩
theorem ses_cells {w : World} {g : Nat} {t : TypeId} {a b c d : Value} (h : w.heap[g]? = some (.cells #[a, b, c, d] t (0, 0))) :
    (w.cell? ⟨g, 0, none⟩ = some a ∧ w.cell? ⟨g, 1, none⟩ = some b ∧ w.cell? ⟨g, 2, none⟩ = some c ∧ w.cell? ⟨g, 3, none⟩ = some d) ∧ ∀ i, w.frozen? ⟨g, i, none⟩ = false :=
  ⟨⟨rf_at h 0 _ rfl, rf_at h 1 _ rfl, rf_at h 2 _ rfl, rf_at h 3 _ rfl⟩, fun i => rf_fr h i⟩
theorem four_set {w : World} {g : Nat} {t : TypeId} {a0 a1 a2 a3 : Value} (h : w.heap[g]? = some (.cells #[a0, a1, a2, a3] t (0, 0))) (b0 b1 b2 b3 : Value) :
    ((((w.setCell ⟨g, 0, none⟩ b0).setCell ⟨g, 1, none⟩ b1).setCell ⟨g, 2, none⟩ b2).setCell ⟨g, 3, none⟩ b3).heap[g]? = some (.cells #[b0, b1, b2, b3] t (0, 0)) := by
  have := blk_set (blk_set (blk_set (blk_set h 0 b0) 1 b1) 2 b2) 3 b3
  simp only [List.setIfInBounds_toArray, List.set_cons_zero, List.set_cons_succ] at this
  exact this
theorem four_by {w0 w : World} {B g : Nat} (h : Below B w0 w) (hB : B ≤ g) (b0 b1 b2 b3 : Value) :
    Below B w0 ((((w.setCell ⟨g, 0, none⟩ b0).setCell ⟨g, 1, none⟩ b1).setCell ⟨g, 2, none⟩ b2).setCell ⟨g, 3, none⟩ b3) :=
  (((h.setCell hB b0).setCell hB b1).setCell hB b2).setCell hB b3
theorem four_oth {w : World} {g b : Nat} {o : Obj} (h : w.heap[b]? = some o) (hne : g ≠ b) (b0 b1 b2 b3 : Value) : ((((w.setCell ⟨g, 0, none⟩ b0).setCell ⟨g, 1, none⟩ b1).setCell ⟨g, 2, none⟩ b2).setCell ⟨g, 3, none⟩ b3).heap[b]? = some o :=
  (Below.heap_setCell _ ⟨g, 3, none⟩ _ b (by dsimp only; omega)).trans ((Below.heap_setCell _ ⟨g, 2, none⟩ _ b (by dsimp only; omega)).trans ((Below.heap_setCell _ ⟨g, 1, none⟩ _ b (by dsimp only; omega)).trans ((Below.heap_setCell _ ⟨g, 0, none⟩ _ b (by dsimp only; omega)).trans h)))
theorem load4 {w : World} {g : Nat} {a b c d : Value} {t : TypeId} (h : w.heap[g]? = some (.cells #[a, b, c, d] t (0, 0))) : (loadVar 24 ⟨g, 0, none⟩).run Tryz.prog w = .ok (.agg #[a, b, c, d]) w := by
  have := run_loadVar_mid (P := Tryz.prog) w g 0 24 [a, b, c, d] _ (fun j v hj => by
    rw [Nat.zero_add, cell_of_row w g j _ _ _ h]
    simpa using hj) Tryz.underlying24 rfl (by kernel_rfl)
  simpa using this
theorem res_cct {P : Program} {fn : Func} {a b t : Tmp} {ta tb : TypeId} (h : fn.results = #[.cell a ta, .cell b tb, .tmp t]) (tmps : Array Value) (w : World) (g k : Nat) (ha : tmps.getD a undef = .pointer (some ⟨g, 0, none⟩)) (hb : tmps.getD b undef = .pointer (some ⟨k, 0, none⟩)) (u v : Value)
    (hl : (loadVar ta ⟨g, 0, none⟩).run P w = .ok u w) (hk : (loadVar tb ⟨k, 0, none⟩).run P w = .ok v w) : (results fn tmps).run P w = .ok (.tuple #[u, v, tmps.getD t undef]) w := by
  have ha' : tmps[a]?.getD undef = .pointer (some ⟨g, 0, none⟩) := by simpa using ha
  have hb' : tmps[b]?.getD undef = .pointer (some ⟨k, 0, none⟩) := by simpa using hb
  simp [results, h, asAddr, ha', hb', hl, hk]
theorem res_tct {P : Program} {fn : Func} {a s t : Tmp} {ta : TypeId} (h : fn.results = #[.tmp s, .cell a ta, .tmp t]) (tmps : Array Value) (w : World) (g : Nat) (ha : tmps.getD a undef = .pointer (some ⟨g, 0, none⟩)) (u : Value)
    (hl : (loadVar ta ⟨g, 0, none⟩).run P w = .ok u w) : (results fn tmps).run P w = .ok (.tuple #[tmps.getD s undef, u, tmps.getD t undef]) w := by
  have ha' : tmps[a]?.getD undef = .pointer (some ⟨g, 0, none⟩) := by simpa using ha
  simp [results, h, asAddr, ha', hl]
theorem end_any (g : Nat) (side : Nat) (sh : ByteArray) (w : World) (hc : w.cell? ⟨g, 0, none⟩ = some (.string sh)) :
    Calls Tryz.prog 15 #[.int .i64 (side : Nat), .pointer (some ⟨g, 0, none⟩)] w fun e w' => e = .returned (sesV sh side 0) ∧ Below w.heap.size w w' := by
  have hX := heap_alloc_new w (.cells #[.string ⟨#[]⟩, .int .i64 0, .int .i64 0, .int .i64 0] 24)
  have HX := Lib.hid hX
  have x0 := rf_at hX 0 _ rfl
  have x1 := rf_at hX 1 _ rfl
  have x2 := rf_at hX 2 _ rfl
  have x3 := rf_at hX 3 _ rfl
  have hb := (Below.refl w.heap.size w).alloc (Nat.le_refl _) (.cells #[.string ⟨#[]⟩, .int .i64 0, .int .i64 0, .int .i64 0] 24)
  have HB := Lib.hid hb
  have hc2 := ks1_below hc hb
  clear hX hb
  go_enter Tryz.func15, Tryz.ntmps15
  go_wp2_with fail
  refine bodyPost_ret (resC rfl _ _ w.heap.size (by rfl) _ (load4 (heap_alloc_new w _))) rfl ?_
  exact ⟨rfl, (Below.refl _ _).alloc (Nat.le_refl _) _⟩
def sesT : ByteArray := ⟨#[115, 101, 115, 115, 105, 111, 110]⟩
theorem derive_any (key salt : ByteArray) (w : World) (hk : key.size ≤ 1000000) (hs : salt.size ≤ 64) (hR : Rounds w) :
    Calls Tryz.prog 14 #[.string key, .string salt, .string ⟨#[115, 101, 115, 115, 105, 111, 110]⟩, .int .i64 32] w fun e w' => (∃ b : ByteArray, e = .returned (.tuple #[.string b, .int .i64 0]) ∧ b.size = 32) ∧ Below w.heap.size w w' := by
  have HE := Lib.hid (extract_any salt key w hs hk hR)
  have HX := Lib.hid (fun (p : ByteArray) W (h : p.size = 32) (h' : Below w.heap.size w W) => expand_any p ⟨#[115, 101, 115, 115, 105, 111, 110]⟩ W (by omega) (by decide) (hR.below h'))
  clear hR hk hs
  go_enter Tryz.func14, Tryz.ntmps14
  go_wp2_with fail
  refine HE.out.mono ?_
  rintro e w1 ⟨⟨p, rfl, hp⟩, hb1⟩
  have HB := Lib.hid hb1
  clear hb1
  go_wp2_with fail
  refine (HX.out p _ hp HB.out).mono ?_
  rintro e w2 ⟨⟨b, rfl, hb⟩, hb2⟩
  replace HB := Lib.hid (HB.out.trans (hb2.mono HB.out.size))
  clear hb2
  go_wp2_with fail
  go_ret2
  exact ⟨⟨_, rfl, hb⟩, HB.out⟩
abbrev noS : Array Value := #[.string ⟨#[]⟩, .int .i64 0, .int .i64 0, .int .i64 0]
theorem two_ses (w : World) : ((w.alloc (.cells noS 24)).alloc (.cells noS 24)).heap[w.heap.size]? = some (.cells noS 24 (0, 0)) ∧ ((w.alloc (.cells noS 24)).alloc (.cells noS 24)).heap[w.heap.size + 1]? = some (.cells noS 24 (0, 0)) ∧ Below w.heap.size w ((w.alloc (.cells noS 24)).alloc (.cells noS 24)) := by
  have h2 := heap_alloc_new (w.alloc (.cells noS 24)) (.cells noS 24)
  rw [World.size_alloc] at h2
  exact ⟨(Below.heap_alloc _ _ _ (by simp)).trans (heap_alloc_new w _), h2, ((Below.refl _ _).alloc (Nat.le_refl _) _).alloc (by simp) _⟩
theorem pair_bad (key salt : ByteArray) (w : World) (hk : key.size ≠ 32) :
    Calls Tryz.prog 5 #[.string key, .string salt] w fun e w' => e = .returned (.tuple #[.agg noS, .agg noS, .int .i64 1]) ∧ Below w.heap.size w w' := by
  have d1 : ((key.size : Int) != 32) = true := by simp; omega
  obtain ⟨h1, h2, hb⟩ := two_ses w
  have H1 := Lib.hid h1
  have H2 := Lib.hid h2
  have HB := Lib.hid hb
  obtain ⟨⟨x0, x1, x2, x3⟩, xf⟩ := ses_cells h1
  obtain ⟨⟨y0, y1, y2, y3⟩, yf⟩ := ses_cells h2
  have x4 := xf 0
  have x5 := xf 1
  have x6 := xf 2
  have x7 := xf 3
  have y4 := yf 0
  have y5 := yf 1
  have y6 := yf 2
  have y7 := yf 3
  clear h1 h2 hb xf yf
  go_enter Tryz.func5, Tryz.ntmps5
  go_wp2_with fail
  refine bodyPost_ret (res_cct rfl _ _ w.heap.size (w.heap.size + 1) (by rfl) (by rfl) _ _ (load4 H1.out) (load4 H2.out)) rfl ?_
  exact ⟨rfl, HB.out⟩
theorem pair_any (key salt : ByteArray) (w : World) (hk : key.size = 32) (hs : salt.size ≤ 64) (hR : Rounds w) :
    Calls Tryz.prog 5 #[.string key, .string salt] w fun e w' => (∃ sh : ByteArray, sh.size = 32 ∧ e = .returned (.tuple #[.agg #[.string sh, .int .i64 0, .int .i64 0, .int .i64 0], .agg #[.string sh, .int .i64 1, .int .i64 0, .int .i64 0], .int .i64 0])) ∧ Below w.heap.size w w' := by
  have d1 : ((key.size : Int) != 32) = false := by simp; omega
  have HD := Lib.hid (fun W (h' : Below w.heap.size w W) => derive_any key salt W (by omega) hs (hR.below h'))
  obtain ⟨h1, h2, hb⟩ := two_ses w
  have H1 := Lib.hid h1
  have H2 := Lib.hid h2
  have HB := Lib.hid hb
  clear h1 h2 hb hR
  go_enter Tryz.func5, Tryz.ntmps5
  go_wp2_with fail
  refine (HD.out _ HB.out).mono ?_
  rintro e w3 ⟨⟨sh, rfl, hsh⟩, hb3⟩
  have hb3' := hb3.alloc hb3.size (.cells #[.string sh] 9)
  have hx := rf_at (heap_alloc_new w3 (.cells #[.string sh] 9)) 0 _ rfl
  have HC := Lib.hid hb3'
  have HXc := Lib.hid hx
  have HE0 := Lib.hid (fun W (h : W.cell? ⟨w3.heap.size, 0, none⟩ = some (.string sh)) => show Calls Tryz.prog 15 #[.int .i64 0, .pointer (some ⟨w3.heap.size, 0, none⟩)] W fun e w' => e = .returned (.agg #[.string sh, .int .i64 0, .int .i64 0, .int .i64 0]) ∧ Below W.heap.size W w' from end_any w3.heap.size 0 sh W h)
  have HE1 := Lib.hid (fun W (h : W.cell? ⟨w3.heap.size, 0, none⟩ = some (.string sh)) => show Calls Tryz.prog 15 #[.int .i64 1, .pointer (some ⟨w3.heap.size, 0, none⟩)] W fun e w' => e = .returned (.agg #[.string sh, .int .i64 1, .int .i64 0, .int .i64 0]) ∧ Below W.heap.size W w' from end_any w3.heap.size 1 sh W h)
  clear hb3 hb3' hx
  go_wp2_with fail
  refine (HE0.out _ HXc.out).mono ?_
  rintro e w4 ⟨rfl, hb4⟩
  replace HXc := Lib.hid (ks1_below HXc.out hb4)
  replace HC := Lib.hid (HC.out.trans (hb4.mono HC.out.size))
  clear hb4
  go_wp2_with fail
  refine (HE1.out _ HXc.out).mono ?_
  rintro e w5 ⟨rfl, hb5⟩
  replace HC := Lib.hid (HC.out.trans (hb5.mono HC.out.size))
  clear hb5
  have h1 := cells_below H1.out HC.out
  have h2 := cells_below H2.out HC.out
  replace HB := Lib.hid (HB.out.trans (HC.out.mono HB.out.size))
  replace H1 := Lib.hid h1
  replace H2 := Lib.hid h2
  obtain ⟨⟨x0, x1, x2, x3⟩, xf⟩ := ses_cells h1
  obtain ⟨⟨y0, y1, y2, y3⟩, yf⟩ := ses_cells h2
  have x4 := xf 0
  have x5 := xf 1
  have x6 := xf 2
  have x7 := xf 3
  have y4 := yf 0
  have y5 := yf 1
  have y6 := yf 2
  have y7 := yf 3
  clear h1 h2 xf yf
  go_wp2_with fail
  have K1 := four_oth (g := w.heap.size + 1) (four_set H1.out (.string sh) (.int .i64 0) (.int .i64 0) (.int .i64 0)) (by omega) (.string sh) (.int .i64 1) (.int .i64 0) (.int .i64 0)
  have K2 := four_set (four_oth (g := w.heap.size) H2.out (by omega) (.string sh) (.int .i64 0) (.int .i64 0) (.int .i64 0)) (.string sh) (.int .i64 1) (.int .i64 0) (.int .i64 0)
  refine bodyPost_ret (res_cct rfl _ _ w.heap.size (w.heap.size + 1) (by rfl) (by rfl) _ _ (load4 K1) (load4 K2)) rfl ?_
  exact ⟨⟨sh, hsh, rfl⟩, four_by (four_by HB.out (Nat.le_refl _) _ _ _ _) (by omega) _ _ _ _⟩
theorem seal_ok {key nonce beside s : ByteArray} (h1 : key.size = 32) (h2 : nonce.size = 12) (h3 : beside.size ≤ 4000) (h4 : s.size ≤ 4000) : sealE key nonce beside s = 0 := by
  have ho : onceE key nonce = 0 := by unfold onceE; rw [if_pos ⟨h1, h2⟩]
  unfold sealE
  rw [if_neg (by rw [ho]; simp), if_neg (by omega)]
theorem two_boxS (w : World) (a : Array Value) : ((w.alloc (.cells a 24)).alloc (.cells noS 24)).heap[w.heap.size]? = some (.cells a 24 (0, 0)) ∧ ((w.alloc (.cells a 24)).alloc (.cells noS 24)).heap[w.heap.size + 1]? = some (.cells noS 24 (0, 0)) ∧ Below w.heap.size w ((w.alloc (.cells a 24)).alloc (.cells noS 24)) := by
  have h2 := heap_alloc_new (w.alloc (.cells a 24)) (.cells noS 24)
  rw [World.size_alloc] at h2
  exact ⟨(Below.heap_alloc _ _ _ (by simp)).trans (heap_alloc_new w _), h2, ((Below.refl _ _).alloc (Nat.le_refl _) _).alloc (by simp) _⟩
theorem kp6_below {W W' : World} {p q r s t z : Addr} {u v x y a b : Value} (h : ((W.cell? p = some u ∧ W.cell? q = some v) ∧ (W.cell? r = some x ∧ W.cell? s = some y)) ∧ (W.cell? t = some a ∧ W.cell? z = some b)) (hb : Below W.heap.size W W') : ((W'.cell? p = some u ∧ W'.cell? q = some v) ∧ (W'.cell? r = some x ∧ W'.cell? s = some y)) ∧ (W'.cell? t = some a ∧ W'.cell? z = some b) := ⟨⟨keep2_below h.1.1 hb, keep2_below h.1.2 hb⟩, keep2_below h.2 hb⟩
theorem kp6_four {W : World} {g b1 b2 : Nat} {z0 z1 z2 z3 x0 x1 x2 x3 y0 y1 : Value} (h : ((W.cell? ⟨b1, 0, none⟩ = some x0 ∧ W.cell? ⟨b1, 1, none⟩ = some x1) ∧ (W.cell? ⟨b1, 2, none⟩ = some x2 ∧ W.cell? ⟨b1, 3, none⟩ = some x3)) ∧ (W.cell? ⟨b2, 0, none⟩ = some y0 ∧ W.cell? ⟨b2, 1, none⟩ = some y1)) (h1 : g ≠ b1) (h2 : g ≠ b2) :
    let W' := ((((W.setCell ⟨g, 0, none⟩ z0).setCell ⟨g, 1, none⟩ z1).setCell ⟨g, 2, none⟩ z2).setCell ⟨g, 3, none⟩ z3)
    ((W'.cell? ⟨b1, 0, none⟩ = some x0 ∧ W'.cell? ⟨b1, 1, none⟩ = some x1) ∧ (W'.cell? ⟨b1, 2, none⟩ = some x2 ∧ W'.cell? ⟨b1, 3, none⟩ = some x3)) ∧ (W'.cell? ⟨b2, 0, none⟩ = some y0 ∧ W'.cell? ⟨b2, 1, none⟩ = some y1) := by
  have a1 : ∀ (n m : Nat), (⟨g, n, none⟩ : Addr) ≠ ⟨b1, m, none⟩ := fun n m e => h1 (congrArg Addr.block e)
  have a2 : ∀ (n m : Nat), (⟨g, n, none⟩ : Addr) ≠ ⟨b2, m, none⟩ := fun n m e => h2 (congrArg Addr.block e)
  exact ⟨⟨keep2_set (keep2_set (keep2_set (keep2_set h.1.1 (a1 _ _) (a1 _ _)) (a1 _ _) (a1 _ _)) (a1 _ _) (a1 _ _)) (a1 _ _) (a1 _ _), keep2_set (keep2_set (keep2_set (keep2_set h.1.2 (a1 _ _) (a1 _ _)) (a1 _ _) (a1 _ _)) (a1 _ _) (a1 _ _)) (a1 _ _) (a1 _ _)⟩, keep2_set (keep2_set (keep2_set (keep2_set h.2 (a2 _ _) (a2 _ _)) (a2 _ _) (a2 _ _)) (a2 _ _) (a2 _ _)) (a2 _ _) (a2 _ _)⟩
theorem send_any (key : ByteArray) (i : Nat) (s : ByteArray) (w : World) (hk : key.size = 32) (hi : i ≤ 100) (hs : s.size ≤ 1000) (hT : Turns w) :
    Calls Tryz.prog 7 #[.agg #[.string key, .int .i64 0, .int .i64 (i : Nat), .int .i64 0], .string s] w fun e w' => (∃ sd : ByteArray, e = .returned (.tuple #[.string (nbB (i + 1) ++ sd), .agg #[.string key, .int .i64 0, .int .i64 ((i + 1 : Nat) : Int), .int .i64 0], .int .i64 0]) ∧ sd.size = s.size + 16) ∧ Below w.heap.size w w' := by
  obtain ⟨j, hj⟩ : ∃ j : Nat, j = i + 1 := ⟨_, rfl⟩
  have w1 : IntKind.i64.wrap ((i : Int) + 1) = (j : Int) := by rw [IntWalk.i64_in _ (by omega)]; omega
  have w2 : wrap64 ((i : Int) + 1) = (j : Int) := by rw [IntWalk.wrap64_in _ ⟨by omega, by omega⟩]; omega
  have w3 : (i : Int) + 1 = (j : Int) := by omega
  have d1 : ((i : Int) == 1000000000) = false := by simp; omega
  have HRt := Lib.hid (fun W => sright_any key i W hk (by omega))
  have HNc := Lib.hid (fun W => nonces_any W)
  have HN1 := Lib.hid (fun g hd W hc h4 => nonces1_any g j hd W hc h4 (by omega))
  have HNs := Lib.hid (show ∀ hd : ByteArray, hd.size = 4 → (hd ++ nbB j).size = 12 from fun hd h => by rw [ByteArray.size_append, nbB_size, h])
  have HSl := Lib.hid (show ∀ (nonce : ByteArray) (W : World), nonce.size = 12 → Below w.heap.size w W → Calls Tryz.prog 21 #[.string key, .string nonce, .string ⟨#[102, 114, 97, 109, 101]⟩, .string s] W fun e w' => (∃ sd : ByteArray, e = .returned (.tuple #[.string sd, .int .i64 0]) ∧ sd.size = s.size + 16) ∧ Below W.heap.size W w' from fun nonce W hn hb => by
    have h0 := seal_ok (beside := ⟨#[102, 114, 97, 109, 101]⟩) hk hn (by decide) (show s.size ≤ 4000 by omega)
    have := seal_any key nonce ⟨#[102, 114, 97, 109, 101]⟩ s W (hT.below hb) (by rw [hk]; decide) (by rw [hn]; decide) (by decide) (by unfold maxLen; omega)
    refine this.mono ?_
    rintro e w' ⟨rfl, hb'⟩
    exact ⟨⟨_, by rw [h0]; rfl, (open_seal h0).2.2⟩, hb'⟩)
  have HTx := Lib.hid (fun (sd : ByteArray) W (h : sd.size ≤ 1000000) => ftext_any j sd W (by omega) h)
  rw [← hj]
  obtain ⟨h1, h2, hb⟩ := two_boxS w #[.string key, .int .i64 0, .int .i64 (i : Nat), .int .i64 0]
  have H1 := Lib.hid h1
  have H2 := Lib.hid h2
  have HB := Lib.hid hb
  obtain ⟨⟨x0, x1, x2, x3⟩, xf⟩ := ses_cells h1
  have Hs := Lib.hid hs
  clear h1 h2 hb hT hj xf hk hs
  go_enter Tryz.func7, Tryz.ntmps7
  go_wp2_with fail
  refine (HRt.out _).mono ?_
  rintro e w4 ⟨rfl, hb4⟩
  replace x0 := ks1_below x0 hb4
  replace x1 := ks1_below x1 hb4
  replace x2 := ks1_below x2 hb4
  replace x3 := ks1_below x3 hb4
  replace H1 := Lib.hid (cells_below H1.out hb4)
  replace H2 := Lib.hid (cells_below H2.out hb4)
  replace HB := Lib.hid (HB.out.trans (hb4.mono HB.out.size))
  have hlt4 := cell_lt_of H2.out
  clear hb4
  go_wp2_with fail
  refine (HNc.out _).mono ?_
  rintro e w5 ⟨⟨gn, hd, rfl, hd4, hgn⟩, hb5⟩
  have hal := (Below.refl w5.heap.size w5).alloc (Nat.le_refl _) (.cells #[.int .i64 (j : Nat), .string ⟨#[]⟩] 56)
  have hb6 := Below.chain hb5 hal
  replace x0 := ks1_below x0 hb6
  have x2b := ks1_below x2 hb5
  replace x2 := ks1_below x2 hb6
  replace H1 := Lib.hid (cells_below H1.out hb6)
  replace H2 := Lib.hid (cells_below H2.out hb6)
  replace HB := Lib.hid (HB.out.trans (hb6.mono HB.out.size))
  replace hgn := ks1_below hgn hal
  have hX8 := heap_alloc_new w5 (.cells #[.int .i64 (j : Nat), .string ⟨#[]⟩] 56)
  have H8 := Lib.hid hX8
  have q0 := rf_at hX8 0 _ rfl
  have Hgn := Lib.hid hgn
  have h58 := hb5.size
  clear hb5 hal hb6 x1 x3 hX8 hgn
  go_wp2_with fail
  obtain ⟨W6, hW6⟩ : ∃ W6, W6 = w5.alloc (.cells #[.int .i64 (j : Nat), .string ⟨#[]⟩] 56) := ⟨_, rfl⟩
  rw [← hW6] at x0 x2 H1 H2 HB H8 q0 Hgn ⊢
  obtain ⟨G, hG⟩ : ∃ G, G = w5.heap.size := ⟨_, rfl⟩
  rw [← hG] at H8 q0 ⊢
  have hGw : w.heap.size + 1 < G := by omega
  clear hW6 hG x2b h58
  have HC := Lib.hid ((Below.refl W6.heap.size W6).drew)
  go_region_held3 (fun w' => w'.cell? ⟨w.heap.size, 0, none⟩ = some (.string key) ∧ w'.cell? ⟨G, 0, none⟩ = some (.int .i64 (j : Nat)))
    (first | with_reducible assumption | exact ⟨x0, q0⟩ | exact keep2_below (by assumption) (by assumption))
    (first
      | ((go_at_call 37; with_reducible refine (HN1.out gn hd _ (ks1_below Hgn.out HC.out) hd4).mono ?_); rintro _ w7 ⟨rfl, hb7⟩; replace HC := Lib.hid (HC.out.trans (hb7.mono HC.out.size)))
      | ((go_at_call 21; with_reducible refine (HSl.out _ _ (HNs.out hd hd4) (HB.out.trans (HC.out.mono HB.out.size))).mono ?_); rintro _ w8 ⟨⟨sd, rfl, hsd⟩, hb8⟩; replace HC := Lib.hid (HC.out.trans (hb8.mono HC.out.size))))
  have HC8 := Lib.hid (show Below W6.heap.size W6 w8 from HC.out)
  have hX1 := cells_below H1.out HC8.out
  have hX8 := cells_below H8.out HC8.out
  have H5 := Lib.hid (cells_below H2.out HC8.out)
  replace HB := Lib.hid (HB.out.trans (HC8.out.mono HB.out.size))
  have a2 := rf_at hX1 2 _ rfl
  have f2 := rf_fr hX1 2
  have b1 := rf_at hX8 1 _ rfl
  have g1 := rf_fr hX8 1
  have HX1 := Lib.hid hX1
  have HX8 := Lib.hid hX8
  clear HC HC8 H1 H2 H8 x0 x2 q0 hX1 hX8 Hgn HN1 HNs HSl HNc HRt
  go_wp2_with fail
  obtain ⟨W9, hW9⟩ : ∃ W9, W9 = (w8.setCell ⟨G, 1, none⟩ (.string sd)).setCell ⟨w.heap.size, 2, none⟩ (.int .i64 (j : Nat)) := ⟨_, rfl⟩
  have hY8 := (Below.heap_setCell (w8.setCell ⟨G, 1, none⟩ (.string sd)) ⟨w.heap.size, 2, none⟩ (.int .i64 (j : Nat)) G (by dsimp only; omega)).trans (blk_set HX8.out 1 (.string sd))
  have hY1 := blk_set ((Below.heap_setCell w8 ⟨G, 1, none⟩ (.string sd) w.heap.size (by dsimp only; omega)).trans HX1.out) 2 (.int .i64 (j : Nat))
  have hY5 := (Below.heap_setCell (w8.setCell ⟨G, 1, none⟩ (.string sd)) ⟨w.heap.size, 2, none⟩ (.int .i64 (j : Nat)) (w.heap.size + 1) (by dsimp only; omega)).trans ((Below.heap_setCell w8 ⟨G, 1, none⟩ (.string sd) (w.heap.size + 1) (by dsimp only; omega)).trans H5.out)
  have hY0 := (HB.out.setCell (p := ⟨G, 1, none⟩) (by dsimp only; omega) (.string sd)).setCell (p := ⟨w.heap.size, 2, none⟩) (Nat.le_refl _) (.int .i64 (j : Nat))
  simp only [List.setIfInBounds_toArray, List.set_cons_zero, List.set_cons_succ] at hY8 hY1
  rw [← hW9] at hY8 hY1 hY5 hY0 ⊢
  clear hW9 HX1 HX8 H5 HB a2 f2 b1 g1
  obtain ⟨⟨x0, x1, x2, x3⟩, _⟩ := ses_cells hY1
  have q0 := rf_at hY8 0 _ rfl
  have q1 := rf_at hY8 1 _ rfl
  obtain ⟨⟨y0, y1, y2, y3⟩, yf⟩ := ses_cells hY5
  have y4 := yf 0
  have y5 := yf 1
  have y6 := yf 2
  have y7 := yf 3
  have H5 := Lib.hid hY5
  have HB := Lib.hid hY0
  have n1 : w.heap.size + 1 ≠ w.heap.size := by omega
  have n2 : w.heap.size + 1 ≠ G := by omega
  have hsz : sd.size ≤ 1000000 := by have := Hs.out; omega
  have Hsd := Lib.hid hsd
  clear hY1 hY8 hY5 hY0 yf hsd
  go_region_held3 (fun w' => ((w'.cell? ⟨w.heap.size, 0, none⟩ = some (.string key) ∧ w'.cell? ⟨w.heap.size, 1, none⟩ = some (.int .i64 0)) ∧ (w'.cell? ⟨w.heap.size, 2, none⟩ = some (.int .i64 (j : Nat)) ∧ w'.cell? ⟨w.heap.size, 3, none⟩ = some (.int .i64 0))) ∧ (w'.cell? ⟨G, 0, none⟩ = some (.int .i64 (j : Nat)) ∧ w'.cell? ⟨G, 1, none⟩ = some (.string sd)))
    (first | with_reducible assumption | exact ⟨⟨⟨x0, x1⟩, ⟨x2, x3⟩⟩, ⟨q0, q1⟩⟩ | exact kp6_below (by assumption) (by assumption) | exact kp6_four (by assumption) n1 n2)
    (first
      | ((go_at_call 22; with_reducible refine (HTx.out sd _ hsz).mono ?_); rintro _ w10 ⟨rfl, hb10⟩; first | (have K5 := Lib.hid (cells_below (W := W9.drew) H5.out hb10); have HF := Lib.hid (HB.out.drew.trans (hb10.mono HB.out.size)); obtain ⟨⟨z0, z1, z2, z3⟩, zf⟩ := ses_cells K5.out; have z4 := zf 0; have z5 := zf 1; have z6 := zf 2; have z7 := zf 3; clear zf) | (have K6 := Lib.hid (cells_below (four_set (w := W9.drew) H5.out _ _ _ _) hb10); have HF := Lib.hid ((four_by HB.out.drew (show w.heap.size ≤ w.heap.size + 1 by omega) _ _ _ _).trans (hb10.mono (by simp; exact HB.out.size))))))
  all_goals
    go_wp2_with fail
    first
      | (refine bodyPost_ret (res_tct rfl _ _ (w.heap.size + 1) (by rfl) _ (load4 (four_set K5.out _ _ _ _))) rfl ?_; exact ⟨⟨sd, rfl, Hsd.out⟩, four_by HF.out (by omega) _ _ _ _⟩)
      | (refine bodyPost_ret (res_tct rfl _ _ (w.heap.size + 1) (by rfl) _ (load4 K6.out)) rfl ?_; exact ⟨⟨sd, rfl, Hsd.out⟩, HF.out⟩)
end Go.Proofs.YtkldllnlakaehaaGreatDoor
