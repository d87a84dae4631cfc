/-
  Contracts of package pledge: right, text, sum, Make, Check.
  Contracts of pledge.each (of Make) and pledge.All.
  Contract of pledge.Witness.
-/
import Derived.Test.YtkbjmmigjjdfpaaGreatDoorSm
import Derived.Test.YtkbjmmigjjdfpaaGreatDoorSp
import Derived.Test.YtkbjmmigjjdfpaaGreatDoorTxt
import Derived.Test.YtkbjmmigjjdfpaaGreatDoorRight
import Derived.Laws.StructEq
import Derived.BigQuiet
import Derived.Deep.Cut
import Derived.Deep.CutRange
namespace Go.Proofs.YtkbjmmigjjdfpaaGreatDoor
/- Pl -/
open Go.RowKit
set_option linter.unusedVariables false
set_option linter.unusedSimpArgs false
set_option maxRecDepth 100000
set_option maxHeartbeats 1000000

def noneB : ByteArray := ⟨#[]⟩
def pledgeT : ByteArray := ⟨#[112, 108, 101, 100, 103, 101]⟩
/-- Is there a pledge of it? -/
def brightB (salt : ByteArray) (p : Shr) : Bool := decide (salt.size = 16) && decide (1 ≤ p.1) && decide (p.1 ≤ 255) && decide (p.2.size = 32)
/-- What a pledge is the Sum of. -/
def btextB (salt : ByteArray) (p : Shr) : ByteArray := pledgeT ++ salt ++ bs [UInt8.ofNat p.1.toNat] ++ p.2
def boundV (salt : ByteArray) (p : Shr) : Value := .agg #[.string salt, .int .i64 p.1, .string p.2]
theorem bright_is {salt : ByteArray} {p : Shr} (h : brightB salt p = true) : salt.size = 16 ∧ 1 ≤ p.1 ∧ p.1 ≤ 255 ∧ p.2.size = 32 := by
  simp [brightB] at h
  exact ⟨h.1.1.1, h.1.1.2, h.1.2, h.2⟩
theorem btext_size (salt : ByteArray) (p : Shr) : (btextB salt p).size = 7 + salt.size + p.2.size := by
  unfold btextB
  rw [ByteArray.size_append, ByteArray.size_append, ByteArray.size_append, bs_size]
  show 6 + salt.size + 1 + p.2.size = _
  omega
theorem cell_in' {w : World} {g : Nat} {t : TypeId} {cs : Array Value} (h : w.heap[g]? = some (.cells cs t (0, 0))) (i : Nat) (u : Value) (hu : cs[i]? = some u) : w.cell? ⟨g, i, none⟩ = some u := by
  unfold World.cell?
  simp [h, hu]
theorem text_dec3 (s t : ByteArray) : (s.toList == t.toList) = decide (s = t) := by
  by_cases h : s = t
  · rw [h, decide_eq_true rfl]; exact beq_self_eq_true _
  · rw [decide_eq_false h]; exact text_ne' h
theorem bright_any (salt : ByteArray) (x : Int) (b : ByteArray) (w : World) :
    Calls Tryz.prog 58 #[.agg #[.string salt, .int .i64 x, .string b]] w fun e w' => e = .returned (.bool (brightB salt (x, b))) ∧ Below w.heap.size w w' := by
  by_cases h1 : salt.size = 16
  · have d1 : ((salt.size : Int) == 16) = true := by simp; omega
    by_cases h2 : 1 ≤ x
    · have d2 : decide (1 ≤ x) = true := by simpa using h2
      have d2' : decide (x ≥ 1) = true := by simpa using h2
      by_cases h3 : x ≤ 255
      · have d3 : decide (x ≤ 255) = true := by simpa using h3
        have HE := Lib.hid (show brightB salt (x, b) = ((b.size : Int) == 32) by
          simp [brightB, h1, h2, h3]
          rw [Bool.eq_iff_iff, decide_eq_true_eq, beq_iff_eq]
          omega)
        clear h1 h2 h3
        go_enter Tryz.func58, Tryz.ntmps58
        go_wp2_with fail
        go_ret
        rw [HE.out]
        exact ⟨rfl, (Below.refl _ _).alloc (Nat.le_refl _) _⟩
      · have d3 : decide (x ≤ 255) = false := by simpa using h3
        have HE := Lib.hid (show brightB salt (x, b) = false by simp [brightB, h3])
        clear h1 h2 h3
        go_enter Tryz.func58, Tryz.ntmps58
        go_wp2_with fail
        go_ret
        rw [HE.out]
        exact ⟨rfl, (Below.refl _ _).alloc (Nat.le_refl _) _⟩
    · have d2 : decide (1 ≤ x) = false := by simpa using h2
      have d2' : decide (x ≥ 1) = false := by simpa using h2
      have HE := Lib.hid (show brightB salt (x, b) = false by simp [brightB, h2])
      clear h1 h2
      go_enter Tryz.func58, Tryz.ntmps58
      go_wp2_with fail
      go_ret
      rw [HE.out]
      exact ⟨rfl, (Below.refl _ _).alloc (Nat.le_refl _) _⟩
  · have d1 : ((salt.size : Int) == 16) = false := by simp; omega
    have HE := Lib.hid (show brightB salt (x, b) = false by simp [brightB, h1])
    clear h1
    go_enter Tryz.func58, Tryz.ntmps58
    go_wp2_with fail
    go_ret
    rw [HE.out]
    exact ⟨rfl, (Below.refl _ _).alloc (Nat.le_refl _) _⟩
theorem conv_one (w : World) (u : UInt8) (g : Nat) (hg : w.heap.size = g) : (convert 148 9 (.slice (some ⟨g, 0, none⟩) 1 1)).run Tryz.prog (w.alloc (.cells #[.int .u8 (u.toNat : Int)] 5)) = .ok (.string (bs [u])) (w.alloc (.cells #[.int .u8 (u.toNat : Int)] 5)) :=
  conv_rd (l := [u]) (rd_new' w 5 #[.int .u8 (u.toNat : Int)] g hg) 1 1 rfl
theorem pbyte_of (x : Int) (h1 : 1 ≤ x) (h2 : x ≤ 255) : IntKind.u8.wrap x = ((UInt8.ofNat x.toNat).toNat : Int) := by
  rw [UInt8.toNat_ofNat', IntKind.wrap_u8]
  omega
theorem btext_any (salt : ByteArray) (x : Int) (b : ByteArray) (w : World) (h : brightB salt (x, b) = true) :
    Calls Tryz.prog 60 #[.agg #[.string salt, .int .i64 x, .string b]] w fun e w' => e = .returned (.string (btextB salt (x, b))) ∧ Below w.heap.size w w' := by
  obtain ⟨h1, h2, h3, h4⟩ := bright_is h
  have hb := pbyte_of x h2 h3
  have HE := Lib.hid (show btextB salt (x, b) = pledgeT ++ salt ++ bs [UInt8.ofNat x.toNat] ++ b from rfl)
  generalize UInt8.ofNat x.toNat = u at hb HE
  have k1 : ¬ 9223372036854775807 < (⟨#[112, 108, 101, 100, 103, 101]⟩ : ByteArray).size + salt.size := by rw [h1]; decide
  have k2 : ¬ 9223372036854775807 < ((⟨#[112, 108, 101, 100, 103, 101]⟩ : ByteArray) ++ salt).size + (bs [u]).size := by rw [ByteArray.size_append, h1]; show ¬ 9223372036854775807 < 6 + 16 + 1; decide
  have k3 : ¬ 9223372036854775807 < ((⟨#[112, 108, 101, 100, 103, 101]⟩ : ByteArray) ++ salt ++ bs [u]).size + b.size := by rw [ByteArray.size_append, ByteArray.size_append, h1, h4]; show ¬ 9223372036854775807 < 6 + 16 + 1 + 32; decide
  have hcv := fun W g hg => conv_one W u g hg
  clear h h1 h2 h3 h4
  go_enter Tryz.func60, Tryz.ntmps60
  go_wp2_with fail
  go_ret
  rw [HE.out]
  exact ⟨rfl, ((Below.refl _ _).alloc (Nat.le_refl _) _).alloc (by simp) _⟩
/-- The Sum of a pledge's text. -/
def sumT (salt : ByteArray) (p : Shr) : ByteArray := bs (sumL (btextB salt p).data.toList)
theorem sumT_len (salt : ByteArray) (p : Shr) : (sumT salt p).size = 32 := by unfold sumT; rw [bs_size, sumL_len]
theorem psum_any (salt : ByteArray) (x : Int) (b : ByteArray) (w : World) (hR : Rounds w) (h : brightB salt (x, b) = true) :
    Calls Tryz.prog 59 #[.func (.func 60) #[.agg #[.string salt, .int .i64 x, .string b]] #[]] w fun e w' => e = .returned (.string (sumT salt (x, b))) ∧ Below w.heap.size w w' := by
  have HR := Lib.hid hR
  have HT := Lib.hid (fun W => btext_any salt x b W h)
  have HS := Lib.hid (fun W hW => sum_any (btextB salt (x, b)) W hW (by obtain ⟨h1, _, _, h4⟩ := bright_is h; rw [btext_size, h1, h4]; decide))
  have HE := Lib.hid (show sumT salt (x, b) = bs (sumL (btextB salt (x, b)).data.toList) from rfl)
  rw [HE.out]
  generalize bs (sumL (btextB salt (x, b)).data.toList) = r at HS
  generalize btextB salt (x, b) = t at HT HS
  clear hR h HE
  go_enter Tryz.func59, Tryz.ntmps59
  go_wp2_with fail
  refine (HT.out _).mono ?_
  rintro e w1 ⟨rfl, hb1⟩
  go_wp2_with fail
  refine (HS.out _ (HR.out.below hb1)).mono ?_
  rintro e w2 ⟨rfl, hb2⟩
  go_wp2_with fail
  go_ret
  exact ⟨rfl, Below.chain hb1 hb2⟩
/-- Make: the pledge, and the error's number. -/
def makeS (salt : ByteArray) (p : Shr) : ByteArray := if brightB salt p = true then sumT salt p else ⟨#[]⟩
def makeE (salt : ByteArray) (p : Shr) : Nat := if brightB salt p = true then 0 else 1
theorem make_any (salt : ByteArray) (x : Int) (b : ByteArray) (w : World) (hR : Rounds w) :
    Calls Tryz.prog 78 #[.string salt, .agg #[.int .i64 x, .string b]] w fun e w' => e = .returned (.tuple #[.string (makeS salt (x, b)), .int .i64 (makeE salt (x, b) : Nat)]) ∧ Below w.heap.size w w' := by
  have HR := Lib.hid hR
  have hW := ((Below.refl w.heap.size w).alloc (Nat.le_refl _) (.cells #[.int .i64 x, .string b] 43)).alloc (by simp) (.cells #[.string salt, .int .i64 x, .string b] 112)
  have HW := Lib.hid hW
  have HB := Lib.hid (fun W => bright_any salt x b W)
  have hX := heap_alloc_new (w.alloc (.cells #[.int .i64 x, .string b] 43)) (.cells #[.string salt, .int .i64 x, .string b] 112)
  rw [World.size_alloc] at hX
  have HX := Lib.hid hX
  clear hR hW hX
  cases h : brightB salt (x, b) with
  | false =>
    have HE := Lib.hid (show makeS salt (x, b) = ⟨#[]⟩ ∧ makeE salt (x, b) = 1 by unfold makeS makeE; rw [h]; exact ⟨rfl, rfl⟩)
    rw [HE.out.1, HE.out.2]
    rw [h] at HB
    clear h HE
    go_enter Tryz.func78, Tryz.ntmps78
    go_wp2_with fail
    refine (HB.out _).mono ?_
    rintro e w1 ⟨rfl, hb1⟩
    go_wp2_with fail
    go_ret2
    exact ⟨rfl, HW.out.trans (hb1.mono HW.out.size)⟩
  | true =>
    have HE := Lib.hid (show makeS salt (x, b) = sumT salt (x, b) ∧ makeE salt (x, b) = 0 by unfold makeS makeE; rw [h]; exact ⟨rfl, rfl⟩)
    rw [HE.out.1, HE.out.2]
    rw [h] at HB
    have HS := Lib.hid (fun W hW => psum_any salt x b W hW h)
    clear h HE
    go_enter Tryz.func78, Tryz.ntmps78
    go_wp2_with fail
    refine (HB.out _).mono ?_
    rintro e w1 ⟨rfl, hb1⟩
    have x0 := cell_in' (cells_below HX.out hb1) 0 _ rfl
    have x1 := cell_in' (cells_below HX.out hb1) 1 _ rfl
    have x2 := cell_in' (cells_below HX.out hb1) 2 _ rfl
    have HW1 := Lib.hid (HW.out.trans (hb1.mono HW.out.size))
    clear hb1
    go_wp2_with fail
    refine (HS.out _ (HR.out.below HW1.out)).mono ?_
    rintro e w2 ⟨rfl, hb2⟩
    go_wp2_with fail
    go_ret2
    exact ⟨rfl, HW1.out.trans (hb2.mono HW1.out.size)⟩
/-- Check: is it the pledge of the share? -/
def checkP (pl salt : ByteArray) (p : Shr) : Bool := brightB salt p && decide (sumT salt p = pl)
theorem checkp_any (pl salt : ByteArray) (x : Int) (b : ByteArray) (w : World) (hR : Rounds w) :
    Calls Tryz.prog 45 #[.string pl, .string salt, .agg #[.int .i64 x, .string b]] w fun e w' => e = .returned (.bool (checkP pl salt (x, b))) ∧ Below w.heap.size w w' := by
  have HR := Lib.hid hR
  have hW := (Below.refl w.heap.size w).alloc (Nat.le_refl _) (.cells #[.int .i64 x, .string b] 43)
  have HW := Lib.hid hW
  have HM := Lib.hid (fun W hW => make_any salt x b W hW)
  clear hR hW
  cases h : brightB salt (x, b) with
  | false =>
    have HE := Lib.hid (show makeE salt (x, b) = 1 by unfold makeE; rw [h]; rfl)
    rw [HE.out] at HM
    rw [checkP, h, Bool.false_and]
    generalize makeS salt (x, b) = ms at HM
    clear h HE
    go_enter Tryz.func45, Tryz.ntmps45
    go_wp2_with fail
    refine (HM.out _ (HR.out.below HW.out)).mono ?_
    rintro e w1 ⟨rfl, hb1⟩
    go_wp2_with fail
    go_ret
    exact ⟨rfl, HW.out.trans (hb1.mono HW.out.size)⟩
  | true =>
    have HE := Lib.hid (show makeS salt (x, b) = sumT salt (x, b) ∧ makeE salt (x, b) = 0 by unfold makeS makeE; rw [h]; exact ⟨rfl, rfl⟩)
    rw [HE.out.1, HE.out.2] at HM
    rw [checkP, h, Bool.true_and]
    generalize sumT salt (x, b) = ms at HM
    have hd := text_dec3 ms pl
    rw [← hd]
    clear h HE
    go_enter Tryz.func45, Tryz.ntmps45
    go_wp2_with fail
    refine (HM.out _ (HR.out.below HW.out)).mono ?_
    rintro e w1 ⟨rfl, hb1⟩
    clear hd
    go_wp2_with fail
    go_ret
    exact ⟨rfl, HW.out.trans (hb1.mono HW.out.size)⟩

/- Pl2 -/
open Go.RowKit
set_option linter.unusedVariables false
set_option linter.unusedSimpArgs false
set_option maxRecDepth 100000
set_option maxHeartbeats 1000000

/-- The pledges of shares, each with its salt. -/
def pairsOK (ss : List ByteArray) (l : List Shr) : Bool := (ss.zip l).all fun q => brightB q.1 q.2
def pairsL (ss : List ByteArray) (l : List Shr) : List ByteArray := (ss.zip l).map fun q => sumT q.1 q.2
def allE (ss : List ByteArray) (l : List Shr) : Nat := if ss.length ≠ l.length then 170 else if pairsOK ss l = true then 0 else 1
def allL (ss : List ByteArray) (l : List Shr) : List ByteArray := if allE ss l = 0 then pairsL ss l else []
/-- What is handed back: a row of texts and an error's number. -/
def TextsE (w : World) (l : List ByteArray) (n : Nat) (e : Ending) (w' : World) : Prop :=
  ∃ A m cap, e = .returned (.tuple #[.slice A m cap, .int .i64 (n : Nat)]) ∧ m = l.length ∧ w'.ownsRow w.heap.size 9 1 (.slice A m cap) m (textsV l) ∧ Below w.heap.size w w'
theorem each_any (ss : List ByteArray) (l : List Shr) (A A2 : Option Addr) (n c m c2 : Nat) (w : World) (hr : Rd w A (textsV ss)) (hr2 : Rd w A2 (sharesV l)) (hn : n = ss.length) (hm : m = l.length) (hl : ss.length = l.length) (hl2 : l.length ≤ 1000) (hR : Rounds w) :
    Calls Tryz.prog 77 #[.slice A n c, .slice A2 m c2, .func (.func 78) #[] #[]] w (TextsE w (if pairsOK ss l = true then pairsL ss l else []) (if pairsOK ss l = true then 0 else 1)) := by
  have HA := Lib.hid hr
  have HA2 := Lib.hid hr2
  have HN := Lib.hid hn
  have HM := Lib.hid hm
  have HL := Lib.hid hl
  have HR := Lib.hid hR
  have hn1 : n ≤ 1000 := by omega
  have HY := Lib.hid (show pairsOK ss l = true → TextsE w (if pairsOK ss l = true then pairsL ss l else []) (if pairsOK ss l = true then 0 else 1) = TextsE w (pairsL ss l) 0 from fun h => by rw [h]; rfl)
  have HF := Lib.hid (show pairsOK ss l = false → TextsE w (if pairsOK ss l = true then pairsL ss l else []) (if pairsOK ss l = true then 0 else 1) = TextsE w [] 1 from fun h => by rw [h]; rfl)
  generalize TextsE w (if pairsOK ss l = true then pairsL ss l else []) (if pairsOK ss l = true then 0 else 1) = Q at HY HF ⊢
  obtain ⟨iS, hS0, hS1, hS2, hS3⟩ := info_parts string_info
  obtain rfl : n = m := by omega
  clear hr hr2 hn hm hl hl2 hR
  go_enter Tryz.func77, Tryz.ntmps77
  go_wp2_with (refine wpList_make_own _ (by rfl) (.const (.int .i64 0)) (.tmp 14) 22 (by rfl) w.heap.size 9 iS (.string ⟨#[]⟩) 1 Tryz.underlying22 hS0 hS1 hS2 .i64 .i64 _ n (by rfl) (by rfl) rfl (by rw [hS3]; omega) (by unfold maxLen; omega) (by omega) ?_)
  intro w2 ho2 hg2
  have HO2 := Lib.hid ho2
  have HW2 := Lib.hid (below_grown hg2 (Nat.le_refl _))
  clear ho2 hg2
  go_wp2_with fail
  go_loopw [8, 18] (fun v x wr => ∃ (i cap : Nat) (B : Option Addr), i ≤ n ∧ x = .int .i64 (i : Nat) ∧ v = .slice B i cap ∧ wr.ownsRow w.heap.size 9 1 v i (textsV (((ss.zip l).take i).map fun q => sumT q.1 q.2)) ∧ ((ss.zip l).take i).all (fun q => brightB q.1 q.2) = true ∧ Below w.heap.size w wr) (fun _ x _ => n - (intOf x).toNat)
  case atStart => exact ⟨0, _, _, by omega, rfl, rfl, HO2.out, rfl, HW2.out⟩
  case round =>
    obtain ⟨i, cap, B, hi, rfl, rfl, ho, hall, hW⟩ := hrel
    have HO := Lib.hid ho
    have HW := Lib.hid hW
    have Hall := Lib.hid hall
    clear ho hW hall
    by_cases hlt : i < n
    · have e1 : decide ((i : Int) < (n : Int)) = true := by simp; omega
      have hil : i < l.length := by rw [← HM.out]; exact hlt
      have his : i < ss.length := by rw [← HN.out]; exact hlt
      have hiz : i < (ss.zip l).length := by rw [List.length_zip]; omega
      obtain ⟨b, off, hbA, c1⟩ := texts_at (HA.out.below HW.out) his
      obtain ⟨b2, off2, hbA2, d1, d2⟩ := (HA2.out.below HW.out).shr hil
      subst hbA hbA2
      have Htk := Lib.hid (show (ss.zip l).take (i + 1) = (ss.zip l).take i ++ [(ss[i], l[i])] by rw [List.take_succ_eq_append_getElem hiz, List.getElem_zip])
      have Hbd := Lib.hid (show brightB ss[i] l[i] = false → pairsOK ss l = false from fun h => List.all_eq_false.2 ⟨(ss.zip l)[i], List.getElem_mem hiz, by rw [List.getElem_zip, h]; simp⟩)
      generalize ss[i] = s at c1 Htk Hbd
      generalize l[i] = p at d1 d2 Htk Hbd
      obtain ⟨x, bb⟩ := p
      simp only at d1 d2
      clear hil his hiz
      have HMk := Lib.hid (fun W hW => make_any s x bb W hW)
      cases hbr : brightB s (x, bb) with
      | false =>
        have HE := Lib.hid (show makeE s (x, bb) = 1 by unfold makeE; rw [hbr]; rfl)
        rw [HE.out] at HMk
        rw [HF.out (Hbd.out hbr)]
        generalize makeS s (x, bb) = ms at HMk
        clear hbr HE
        go_wp2_with fail
        refine (HMk.out _ (HR.out.below HW.out)).mono ?_
        rintro e w3 ⟨rfl, hb3⟩
        go_wp2_with fail
        try rw [Exit.noGoto_ret]
        go_ret2
        exact ⟨none, 0, 0, rfl, rfl, ⟨rfl, .inl ⟨rfl, rfl⟩⟩, Below.chain HW.out hb3⟩
      | true =>
        have HE := Lib.hid (show makeS s (x, bb) = sumT s (x, bb) ∧ makeE s (x, bb) = 0 by unfold makeS makeE; rw [hbr]; exact ⟨rfl, rfl⟩)
        rw [HE.out.1, HE.out.2] at HMk
        have Htk2 := Lib.hid (show ((ss.zip l).take (i + 1)).map (fun q => sumT q.1 q.2) = ((ss.zip l).take i).map (fun q => sumT q.1 q.2) ++ [sumT s (x, bb)] by rw [Htk.out, List.map_append]; rfl)
        have Hall2 := Lib.hid (show ((ss.zip l).take (i + 1)).all (fun q => brightB q.1 q.2) = true by rw [Htk.out, List.all_append, Hall.out]; simp [hbr])
        generalize sumT s (x, bb) = ms at HMk Htk2
        generalize ((ss.zip l).take i).map (fun q => sumT q.1 q.2) = ps at HO Htk2
        clear hbr HE
        go_wp2_with fail
        refine (HMk.out _ (HR.out.below HW.out)).mono ?_
        rintro e w3 ⟨rfl, hb3⟩
        have HO3 := Lib.hid (own_keep HO.out hb3)
        have HW3 := Lib.hid (Below.chain HW.out hb3)
        clear hb3 c1 d1 d2
        go_wp2_with (at_builtin; refine wpList_append_new (by rfl) (.tmp 36) (.tmp 38) 22 (by rfl) w.heap.size 9 (.string ⟨#[]⟩) 1 16 Tryz.underlying22 string_info rfl (by omega) w3 _ _ _ _ _ (by rfl) HO3.out _ 1 1 (by rfl) (by rfl) (by rfl) (by rfl) (by omega) (by omega) (by omega) (by exact HW3.out.size) ?_)
        intro g4 cap4 w4 ho4 hb4 _ _ _
        have HO4 := Lib.hid ho4
        have HW4 := Lib.hid (HW3.out.trans hb4)
        clear ho4 hb4
        go_wp2_with fail
        go_roundw
        case rel => exact ⟨i + 1, cap4, _, by omega, by go_num, rfl, by rw [Htk2.out, textsV_append]; exact HO4.out, Hall2.out, HW4.out⟩
        case measure => simp [intOf]; omega
    · obtain rfl : i = n := by omega
      have e1 : decide ((i : Int) < (i : Int)) = false := by simp
      have hzl : (ss.zip l).length ≤ i := by rw [List.length_zip, ← HN.out]; omega
      rw [List.take_of_length_le hzl] at HO Hall
      have HL2 := Lib.hid (show i = (pairsL ss l).length by rw [pairsL, List.length_map, List.length_zip, ← HN.out, ← HM.out, Nat.min_self])
      clear hzl
      go_wp2_with fail
      rw [HY.out Hall.out]
      exact ⟨B, i, cap, rfl, HL2.out, HO.out, HW.out⟩
theorem all_any (ss : List ByteArray) (l : List Shr) (A A2 : Option Addr) (n c m c2 : Nat) (w : World) (hr : Rd w A (textsV ss)) (hr2 : Rd w A2 (sharesV l)) (hn : n = ss.length) (hm : m = l.length) (hl2 : l.length ≤ 1000) (hR : Rounds w) :
    Calls Tryz.prog 40 #[.slice A n c, .slice A2 m c2] w (TextsE w (allL ss l) (allE ss l)) := by
  by_cases hl : ss.length = l.length
  · have HE := Lib.hid (fun W h1 h2 hR => each_any ss l A A2 n c m c2 W h1 h2 hn hm hl hl2 hR)
    have HA := Lib.hid hr
    have HA2 := Lib.hid hr2
    have HR := Lib.hid hR
    have h1 : (if pairsOK ss l = true then 0 else 1) = allE ss l := by unfold allE; rw [if_neg (show ¬ ss.length ≠ l.length by simpa using hl)]
    have h2 : (if pairsOK ss l = true then pairsL ss l else []) = allL ss l := by
      unfold allL allE
      rw [if_neg (show ¬ ss.length ≠ l.length by simpa using hl)]
      cases pairsOK ss l <;> rfl
    rw [h1, h2] at HE
    obtain rfl : n = m := by omega
    have d1 : ((n : Int) != (n : Int)) = false := by simp
    generalize allL ss l = rl at HE ⊢
    generalize allE ss l = re at HE ⊢
    clear hr hr2 hn hm hl2 hR hl h1 h2
    go_enter Tryz.func40, Tryz.ntmps40
    go_wp2_with fail
    refine (HE.out _ HA.out HA2.out HR.out).mono ?_
    rintro e w1 ⟨B, k, cap, rfl, h1, h2, h3⟩
    go_wp2_with fail
    go_ret2
    exact ⟨B, _, cap, rfl, rfl, (by rw [← h1]; exact h2), h3⟩
  · have h1 : allE ss l = 170 := by rw [allE, if_pos hl]
    have h2 : allL ss l = [] := by rw [allL, h1]; rfl
    rw [h1, h2]
    have d1 : ((n : Int) != (m : Int)) = true := by simp; omega
    clear hr hr2 hn hm hl2 hR hl h1 h2
    go_enter Tryz.func40, Tryz.ntmps40
    go_wp2_with fail
    go_ret2
    exact ⟨none, 0, 0, rfl, rfl, ⟨rfl, .inl ⟨rfl, rfl⟩⟩, Below.refl _ _⟩

/- Pl3 -/
open Go.RowKit
set_option linter.unusedVariables false
set_option linter.unusedSimpArgs false
set_option maxRecDepth 100000
set_option maxHeartbeats 2000000

theorem cells_three {w : World} {g : Nat} {t : TypeId} {a b c : Value} (h : w.heap[g]? = some (.cells #[a, b, c] t (0, 0))) (y : Later w) :
    y.x.cell? ⟨g, 0, none⟩ = some a ∧ y.x.cell? ⟨g, 1, none⟩ = some b ∧ y.x.cell? ⟨g, 2, none⟩ = some c :=
  have h' := cells_below h y.ok
  ⟨cell_in' h' 0 _ rfl, cell_in' h' 1 _ rfl, cell_in' h' 2 _ rfl⟩
theorem Later.rounds {w : World} (y : Later w) (h : Rounds w) : Rounds y.x := h.below y.ok
/-- Witness: are there two texts of one Sum? -/
def witB (s : ByteArray) (p : Shr) (o : ByteArray) (q : Shr) : Bool := brightB s p && brightB o q && !(decide (s = o) && decide (p = q)) && decide (sumT s p = sumT o q)
def witP (s : ByteArray) (p : Shr) (o : ByteArray) (q : Shr) : ByteArray := if witB s p o q = true then btextB s p else ⟨#[]⟩
def witQ (s : ByteArray) (p : Shr) (o : ByteArray) (q : Shr) : ByteArray := if witB s p o q = true then btextB o q else ⟨#[]⟩
def WitR (w : World) (a b : ByteArray) (c : Bool) (e : Ending) (w' : World) : Prop := e = .returned (.tuple #[.string a, .string b, .bool c]) ∧ Below w.heap.size w w'
theorem wit_no {s o : ByteArray} {p q : Shr} (w : World) (h : witB s p o q = false) : WitR w (witP s p o q) (witQ s p o q) (witB s p o q) = WitR w ⟨#[]⟩ ⟨#[]⟩ false := by unfold witP witQ; rw [h]; rfl
theorem wit_yes {s o : ByteArray} {p q : Shr} (w : World) (h : witB s p o q = true) : WitR w (witP s p o q) (witQ s p o q) (witB s p o q) = WitR w (btextB s p) (btextB o q) true := by unfold witP witQ; rw [h]; rfl
theorem al4 (w : World) (o1 o2 o3 o4 : Obj) : (((((w.alloc o1).alloc o2).alloc o3).alloc o4).drew).heap[w.heap.size + 1 + 1]? = some o3 ∧ (((((w.alloc o1).alloc o2).alloc o3).alloc o4).drew).heap[w.heap.size + 1 + 1 + 1]? = some o4 ∧ Below w.heap.size w ((((w.alloc o1).alloc o2).alloc o3).alloc o4).drew := by
  have h3 := heap_alloc_new ((w.alloc o1).alloc o2) o3
  have h4 := heap_alloc_new (((w.alloc o1).alloc o2).alloc o3) o4
  simp only [World.size_alloc] at h3 h4
  refine ⟨(Below.heap_alloc _ _ _ (by simp)).trans h3, h4, ?_⟩
  exact (((((Below.refl _ _).alloc (Nat.le_refl _) _).alloc (by simp) _).alloc (by simp; omega) _).alloc (by simp; omega) _).drew
theorem wit_any (s : ByteArray) (x : Int) (b : ByteArray) (o : ByteArray) (z : Int) (d : ByteArray) (w : World) (hR : Rounds w) :
    Calls Tryz.prog 31 #[.string s, .agg #[.int .i64 x, .string b], .string o, .agg #[.int .i64 z, .string d]] w (WitR w (witP s (x, b) o (z, d)) (witQ s (x, b) o (z, d)) (witB s (x, b) o (z, d))) := by
  have HR := Lib.hid hR
  have HN := Lib.hid (fun h => wit_no (s := s) (o := o) (p := (x, b)) (q := (z, d)) w h)
  have HY := Lib.hid (fun h => wit_yes (s := s) (o := o) (p := (x, b)) (q := (z, d)) w h)
  generalize WitR w (witP s (x, b) o (z, d)) (witQ s (x, b) o (z, d)) (witB s (x, b) o (z, d)) = Q at HN HY ⊢
  clear hR
  go_enter Tryz.func31, Tryz.ntmps31
  go_wp2_with fail
  go_cut [11, 12] from 13 to 18 (fun v11 v12 wc => ∃ ga gb : Nat, v11 = .pointer (some ⟨ga, 0, none⟩) ∧ v12 = .pointer (some ⟨gb, 0, none⟩) ∧ wc.heap[ga]? = some (.cells #[.string s, .int .i64 x, .string b] 112 (0, 0)) ∧ wc.heap[gb]? = some (.cells #[.string o, .int .i64 z, .string d] 112 (0, 0)) ∧ Below w.heap.size w wc)
  case first =>
    go_region
    all_goals
      go_wp2_with fail
      go_meet
      case rel =>
        first
          | exact ⟨_, _, rfl, rfl, (al4 _ _ _ _ _).1, (al4 _ _ _ _ _).2.1, (al4 _ _ _ _ _).2.2⟩
          | exact ⟨_, _, rfl, rfl, (al4 _ _ _ _ _).2.1, (al4 _ _ _ _ _).1, (al4 _ _ _ _ _).2.2⟩
  case rest =>
    obtain ⟨ga, gb, rfl, rfl, hA, hB, hW⟩ := hcut
    have HA := Lib.hid hA
    have HB := Lib.hid hB
    have HW := Lib.hid hW
    have xa0 := fun y : Later wc => (cells_three hA y).1
    have xa1 := fun y : Later wc => (cells_three hA y).2.1
    have xa2 := fun y : Later wc => (cells_three hA y).2.2
    have xb0 := fun y : Later wc => (cells_three hB y).1
    have xb1 := fun y : Later wc => (cells_three hB y).2.1
    have xb2 := fun y : Later wc => (cells_three hB y).2.2
    have HCa := Lib.hid (fun y : Later wc => later_call (y := y) (bright_any s x b y.x))
    have HCb := Lib.hid (fun y : Later wc => later_call (y := y) (bright_any o z d y.x))
    clear hA hB hW
    cases hra : brightB s (x, b) with
    | false =>
      have HE := Lib.hid (show witB s (x, b) o (z, d) = false by rw [witB, hra]; rfl)
      rw [hra] at HCa
      clear hra
      go_wp2_with fail
      refine wp_region_later (by kernel_rfl) (by kernel_rfl) ?_
      repeat (go_big_quiet_step (first | with_reducible exact HCa.out _ | with_reducible exact HCb.out _))
      refine wpQuiet_nil ?_
      rintro _ ⟨y, rfl⟩
      go_wp2_with fail
      try go_ret3
      rw [HN.out HE.out]
      exact ⟨rfl, HW.out.trans (y.ok.mono HW.out.size)⟩
    | true =>
    have Hra := Lib.hid hra
    rw [hra] at HCa
    cases hrb : brightB o (z, d) with
    | false =>
      have HE := Lib.hid (show witB s (x, b) o (z, d) = false by rw [witB, hra, hrb]; rfl)
      rw [hrb] at HCb
      clear hra hrb
      go_wp2_with fail
      refine wp_region_later (by kernel_rfl) (by kernel_rfl) ?_
      repeat (go_big_quiet_step (first | with_reducible exact HCa.out _ | with_reducible exact HCb.out _))
      refine wpQuiet_nil ?_
      rintro _ ⟨y, rfl⟩
      go_wp2_with fail
      try go_ret3
      rw [HN.out HE.out]
      exact ⟨rfl, HW.out.trans (y.ok.mono HW.out.size)⟩
    | true =>
    have Hrb := Lib.hid hrb
    rw [hrb] at HCb
    have HEq := Lib.hid (show witB s (x, b) o (z, d) = (!(decide (s = o) && decide ((x, b) = (z, d))) && decide (sumT s (x, b) = sumT o (z, d))) by rw [witB, hra, hrb]; rfl)
    have HSa := Lib.hid (fun y : Later wc => later_call (y := y) (psum_any s x b y.x (y.rounds (HR.out.below HW.out)) Hra.out))
    have HSb := Lib.hid (fun y : Later wc => later_call (y := y) (psum_any o z d y.x (y.rounds (HR.out.below HW.out)) Hrb.out))
    clear hra hrb
    by_cases he : s = o ∧ x = z ∧ b = d
    · obtain ⟨rfl, rfl, rfl⟩ := he
      have HE := Lib.hid (show witB s (x, b) s (x, b) = false by rw [HEq.out]; simp)
      have d0 : (s.toList == s.toList) = true := beq_self_eq_true _
      have d1 : (b.toList == b.toList) = true := beq_self_eq_true _
      go_wp2_with fail
      refine wp_region_later (by kernel_rfl) (by kernel_rfl) ?_
      repeat (go_big_quiet_step (first | with_reducible exact HCa.out _ | with_reducible exact HCb.out _))
      refine wpQuiet_nil ?_
      rintro _ ⟨y, rfl⟩
      go_wp2_with fail
      try go_ret3
      rw [HN.out HE.out]
      exact ⟨rfl, HW.out.trans (y.ok.mono HW.out.size)⟩
    have HEq2 := Lib.hid (show witB s (x, b) o (z, d) = decide (sumT s (x, b) = sumT o (z, d)) by
      rw [HEq.out]
      have : (decide (s = o) && decide ((x, b) = (z, d))) = false := by
        simp only [Prod.mk.injEq]
        simpa using he
      rw [this]
      rfl)
    have HK := Lib.hid he
    clear he HEq
    by_cases k1 : s = o
    · obtain rfl := k1
      have d0 : (s.toList == s.toList) = true := beq_self_eq_true _
      by_cases k2 : x = z
      · obtain rfl := k2
        have k3 : b ≠ d := fun e => HK.out ⟨rfl, rfl, e⟩
        have d3 := text_ne' k3
        clear k3 HK
        by_cases hs : sumT s (x, b) = sumT s (x, d)
        · have HE := Lib.hid (show witB s (x, b) s (x, d) = true by rw [HEq2.out, decide_eq_true hs])
          rw [← hs] at HSb
          generalize sumT s (x, b) = ss at HSa HSb
          have d2 : (ss.toList == ss.toList) = true := beq_self_eq_true _
          clear hs HEq2
          go_wp2_with fail
          refine wp_region_later (by kernel_rfl) (by kernel_rfl) ?_
          repeat (go_big_quiet_step (first | with_reducible exact HCa.out _ | with_reducible exact HCb.out _ | with_reducible exact HSa.out _ | with_reducible exact HSb.out _))
          refine wpQuiet_nil ?_
          rintro _ ⟨y, rfl⟩
          go_wp2_with fail
          refine wp_region_later (by kernel_rfl) (by kernel_rfl) ?_
          have xa0 := fun u : Later y.x => (cells_three (cells_below HA.out y.ok) u).1
          have xa1 := fun u : Later y.x => (cells_three (cells_below HA.out y.ok) u).2.1
          have xa2 := fun u : Later y.x => (cells_three (cells_below HA.out y.ok) u).2.2
          have xb0 := fun u : Later y.x => (cells_three (cells_below HB.out y.ok) u).1
          have xb1 := fun u : Later y.x => (cells_three (cells_below HB.out y.ok) u).2.1
          have xb2 := fun u : Later y.x => (cells_three (cells_below HB.out y.ok) u).2.2
          have HTa := Lib.hid (fun u : Later y.x => later_call (y := u) (btext_any s x b u.x Hra.out))
          have HTb := Lib.hid (fun u : Later y.x => later_call (y := u) (btext_any s x d u.x Hrb.out))
          repeat (go_big_quiet_step (first | with_reducible exact HTa.out _ | with_reducible exact HTb.out _))
          refine wpQuiet_nil ?_
          rintro _ ⟨u, rfl⟩
          go_wp2_with fail
          try go_ret3
          rw [HY.out HE.out]
          exact ⟨rfl, HW.out.trans ((Below.chain y.ok u.ok).mono HW.out.size)⟩
        · have HE := Lib.hid (show witB s (x, b) s (x, d) = false by rw [HEq2.out, decide_eq_false hs])
          have d2 := text_ne' hs
          generalize sumT s (x, b) = s1 at HSa d2
          generalize sumT s (x, d) = s2 at HSb d2
          clear hs HEq2
          go_wp2_with fail
          refine wp_region_later (by kernel_rfl) (by kernel_rfl) ?_
          repeat (go_big_quiet_step (first | with_reducible exact HCa.out _ | with_reducible exact HCb.out _ | with_reducible exact HSa.out _ | with_reducible exact HSb.out _))
          refine wpQuiet_nil ?_
          rintro _ ⟨y, rfl⟩
          go_wp2_with fail
          try go_ret3
          rw [HN.out HE.out]
          exact ⟨rfl, HW.out.trans (y.ok.mono HW.out.size)⟩
      · have d3 : (x == z) = false := beq_eq_false_iff_ne.2 k2
        clear k2 HK
        by_cases hs : sumT s (x, b) = sumT s (z, d)
        · have HE := Lib.hid (show witB s (x, b) s (z, d) = true by rw [HEq2.out, decide_eq_true hs])
          rw [← hs] at HSb
          generalize sumT s (x, b) = ss at HSa HSb
          have d2 : (ss.toList == ss.toList) = true := beq_self_eq_true _
          clear hs HEq2
          go_wp2_with fail
          refine wp_region_later (by kernel_rfl) (by kernel_rfl) ?_
          repeat (go_big_quiet_step (first | with_reducible exact HCa.out _ | with_reducible exact HCb.out _ | with_reducible exact HSa.out _ | with_reducible exact HSb.out _))
          refine wpQuiet_nil ?_
          rintro _ ⟨y, rfl⟩
          go_wp2_with fail
          refine wp_region_later (by kernel_rfl) (by kernel_rfl) ?_
          have xa0 := fun u : Later y.x => (cells_three (cells_below HA.out y.ok) u).1
          have xa1 := fun u : Later y.x => (cells_three (cells_below HA.out y.ok) u).2.1
          have xa2 := fun u : Later y.x => (cells_three (cells_below HA.out y.ok) u).2.2
          have xb0 := fun u : Later y.x => (cells_three (cells_below HB.out y.ok) u).1
          have xb1 := fun u : Later y.x => (cells_three (cells_below HB.out y.ok) u).2.1
          have xb2 := fun u : Later y.x => (cells_three (cells_below HB.out y.ok) u).2.2
          have HTa := Lib.hid (fun u : Later y.x => later_call (y := u) (btext_any s x b u.x Hra.out))
          have HTb := Lib.hid (fun u : Later y.x => later_call (y := u) (btext_any s z d u.x Hrb.out))
          repeat (go_big_quiet_step (first | with_reducible exact HTa.out _ | with_reducible exact HTb.out _))
          refine wpQuiet_nil ?_
          rintro _ ⟨u, rfl⟩
          go_wp2_with fail
          try go_ret3
          rw [HY.out HE.out]
          exact ⟨rfl, HW.out.trans ((Below.chain y.ok u.ok).mono HW.out.size)⟩
        · have HE := Lib.hid (show witB s (x, b) s (z, d) = false by rw [HEq2.out, decide_eq_false hs])
          have d2 := text_ne' hs
          generalize sumT s (x, b) = s1 at HSa d2
          generalize sumT s (z, d) = s2 at HSb d2
          clear hs HEq2
          go_wp2_with fail
          refine wp_region_later (by kernel_rfl) (by kernel_rfl) ?_
          repeat (go_big_quiet_step (first | with_reducible exact HCa.out _ | with_reducible exact HCb.out _ | with_reducible exact HSa.out _ | with_reducible exact HSb.out _))
          refine wpQuiet_nil ?_
          rintro _ ⟨y, rfl⟩
          go_wp2_with fail
          try go_ret3
          rw [HN.out HE.out]
          exact ⟨rfl, HW.out.trans (y.ok.mono HW.out.size)⟩
    · have d3 := text_ne' k1
      clear k1 HK
      by_cases hs : sumT s (x, b) = sumT o (z, d)
      · have HE := Lib.hid (show witB s (x, b) o (z, d) = true by rw [HEq2.out, decide_eq_true hs])
        rw [← hs] at HSb
        generalize sumT s (x, b) = ss at HSa HSb
        have d2 : (ss.toList == ss.toList) = true := beq_self_eq_true _
        clear hs HEq2
        go_wp2_with fail
        refine wp_region_later (by kernel_rfl) (by kernel_rfl) ?_
        repeat (go_big_quiet_step (first | with_reducible exact HCa.out _ | with_reducible exact HCb.out _ | with_reducible exact HSa.out _ | with_reducible exact HSb.out _))
        refine wpQuiet_nil ?_
        rintro _ ⟨y, rfl⟩
        go_wp2_with fail
        refine wp_region_later (by kernel_rfl) (by kernel_rfl) ?_
        have xa0 := fun u : Later y.x => (cells_three (cells_below HA.out y.ok) u).1
        have xa1 := fun u : Later y.x => (cells_three (cells_below HA.out y.ok) u).2.1
        have xa2 := fun u : Later y.x => (cells_three (cells_below HA.out y.ok) u).2.2
        have xb0 := fun u : Later y.x => (cells_three (cells_below HB.out y.ok) u).1
        have xb1 := fun u : Later y.x => (cells_three (cells_below HB.out y.ok) u).2.1
        have xb2 := fun u : Later y.x => (cells_three (cells_below HB.out y.ok) u).2.2
        have HTa := Lib.hid (fun u : Later y.x => later_call (y := u) (btext_any s x b u.x Hra.out))
        have HTb := Lib.hid (fun u : Later y.x => later_call (y := u) (btext_any o z d u.x Hrb.out))
        repeat (go_big_quiet_step (first | with_reducible exact HTa.out _ | with_reducible exact HTb.out _))
        refine wpQuiet_nil ?_
        rintro _ ⟨u, rfl⟩
        go_wp2_with fail
        try go_ret3
        rw [HY.out HE.out]
        exact ⟨rfl, HW.out.trans ((Below.chain y.ok u.ok).mono HW.out.size)⟩
      · have HE := Lib.hid (show witB s (x, b) o (z, d) = false by rw [HEq2.out, decide_eq_false hs])
        have d2 := text_ne' hs
        generalize sumT s (x, b) = s1 at HSa d2
        generalize sumT o (z, d) = s2 at HSb d2
        clear hs HEq2
        go_wp2_with fail
        refine wp_region_later (by kernel_rfl) (by kernel_rfl) ?_
        repeat (go_big_quiet_step (first | with_reducible exact HCa.out _ | with_reducible exact HCb.out _ | with_reducible exact HSa.out _ | with_reducible exact HSb.out _))
        refine wpQuiet_nil ?_
        rintro _ ⟨y, rfl⟩
        go_wp2_with fail
        try go_ret3
        rw [HN.out HE.out]
        exact ⟨rfl, HW.out.trans (y.ok.mono HW.out.size)⟩

end Go.Proofs.YtkbjmmigjjdfpaaGreatDoor
