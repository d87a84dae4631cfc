/-
  Contracts of package pledge: right, text, sum, Make, Check.
-/
import Derived.Test.YtifcpklaenbclaaGreatDoorSm
import Derived.Test.YtifcpklaenbclaaGreatDoorSp
import Derived.Test.YtifcpklaenbclaaGreatDoorTxt
namespace Go.Proofs.YtifcpklaenbclaaGreatDoor
open Go.RowKit
set_option linter.unusedVariables false
set_option linter.unusedSimpArgs false
set_option maxRecDepth 100000
set_option maxHeartbeats 1000000

def noneB : ByteArray := ⟨#[]⟩
def pledgeT : ByteArray := ⟨#[112, 108, 101, 100, 103, 101]⟩
/-- Is there a pledge of it? -/
def brightB (salt : ByteArray) (p : Shr) : Bool := decide (salt.size = 16) && decide (1 ≤ p.1) && decide (p.1 ≤ 255) && decide (p.2.size = 32)
/-- What a pledge is the Sum of. -/
def btextB (salt : ByteArray) (p : Shr) : ByteArray := pledgeT ++ salt ++ bs [UInt8.ofNat p.1.toNat] ++ p.2
def boundV (salt : ByteArray) (p : Shr) : Value := .agg #[.string salt, .int .i64 p.1, .string p.2]
theorem bright_is {salt : ByteArray} {p : Shr} (h : brightB salt p = true) : salt.size = 16 ∧ 1 ≤ p.1 ∧ p.1 ≤ 255 ∧ p.2.size = 32 := by
  simp [brightB] at h
  exact ⟨h.1.1.1, h.1.1.2, h.1.2, h.2⟩
theorem btext_size (salt : ByteArray) (p : Shr) : (btextB salt p).size = 7 + salt.size + p.2.size := by
  unfold btextB
  rw [ByteArray.size_append, ByteArray.size_append, ByteArray.size_append, bs_size]
  show 6 + salt.size + 1 + p.2.size = _
  omega
theorem cell_in' {w : World} {g : Nat} {t : TypeId} {cs : Array Value} (h : w.heap[g]? = some (.cells cs t (0, 0))) (i : Nat) (u : Value) (hu : cs[i]? = some u) : w.cell? ⟨g, i, none⟩ = some u := by
  unfold World.cell?
  simp [h, hu]
theorem text_dec3 (s t : ByteArray) : (s.toList == t.toList) = decide (s = t) := by
  by_cases h : s = t
  · rw [h, decide_eq_true rfl]; exact beq_self_eq_true _
  · rw [decide_eq_false h]; exact text_ne' h
theorem bright_any (salt : ByteArray) (x : Int) (b : ByteArray) (w : World) :
    Calls Tryz.prog 50 #[.agg #[.string salt, .int .i64 x, .string b]] w fun e w' => e = .returned (.bool (brightB salt (x, b))) ∧ Below w.heap.size w w' := by
  by_cases h1 : salt.size = 16
  · have d1 : ((salt.size : Int) == 16) = true := by simp; omega
    by_cases h2 : 1 ≤ x
    · have d2 : decide (1 ≤ x) = true := by simpa using h2
      have d2' : decide (x ≥ 1) = true := by simpa using h2
      by_cases h3 : x ≤ 255
      · have d3 : decide (x ≤ 255) = true := by simpa using h3
        have HE := Lib.hid (show brightB salt (x, b) = ((b.size : Int) == 32) by
          simp [brightB, h1, h2, h3]
          rw [Bool.eq_iff_iff, decide_eq_true_eq, beq_iff_eq]
          omega)
        clear h1 h2 h3
        go_enter Tryz.func50, Tryz.ntmps50
        go_wp2_with fail
        go_ret
        rw [HE.out]
        exact ⟨rfl, (Below.refl _ _).alloc (Nat.le_refl _) _⟩
      · have d3 : decide (x ≤ 255) = false := by simpa using h3
        have HE := Lib.hid (show brightB salt (x, b) = false by simp [brightB, h3])
        clear h1 h2 h3
        go_enter Tryz.func50, Tryz.ntmps50
        go_wp2_with fail
        go_ret
        rw [HE.out]
        exact ⟨rfl, (Below.refl _ _).alloc (Nat.le_refl _) _⟩
    · have d2 : decide (1 ≤ x) = false := by simpa using h2
      have d2' : decide (x ≥ 1) = false := by simpa using h2
      have HE := Lib.hid (show brightB salt (x, b) = false by simp [brightB, h2])
      clear h1 h2
      go_enter Tryz.func50, Tryz.ntmps50
      go_wp2_with fail
      go_ret
      rw [HE.out]
      exact ⟨rfl, (Below.refl _ _).alloc (Nat.le_refl _) _⟩
  · have d1 : ((salt.size : Int) == 16) = false := by simp; omega
    have HE := Lib.hid (show brightB salt (x, b) = false by simp [brightB, h1])
    clear h1
    go_enter Tryz.func50, Tryz.ntmps50
    go_wp2_with fail
    go_ret
    rw [HE.out]
    exact ⟨rfl, (Below.refl _ _).alloc (Nat.le_refl _) _⟩
theorem conv_one (w : World) (u : UInt8) (g : Nat) (hg : w.heap.size = g) : (convert 78 9 (.slice (some ⟨g, 0, none⟩) 1 1)).run Tryz.prog (w.alloc (.cells #[.int .u8 (u.toNat : Int)] 5)) = .ok (.string (bs [u])) (w.alloc (.cells #[.int .u8 (u.toNat : Int)] 5)) :=
  conv_rd (l := [u]) (rd_new' w 5 #[.int .u8 (u.toNat : Int)] g hg) 1 1 rfl
theorem pbyte_of (x : Int) (h1 : 1 ≤ x) (h2 : x ≤ 255) : IntKind.u8.wrap x = ((UInt8.ofNat x.toNat).toNat : Int) := by
  rw [UInt8.toNat_ofNat', IntKind.wrap_u8]
  omega
theorem btext_any (salt : ByteArray) (x : Int) (b : ByteArray) (w : World) (h : brightB salt (x, b) = true) :
    Calls Tryz.prog 52 #[.agg #[.string salt, .int .i64 x, .string b]] w fun e w' => e = .returned (.string (btextB salt (x, b))) ∧ Below w.heap.size w w' := by
  obtain ⟨h1, h2, h3, h4⟩ := bright_is h
  have hb := pbyte_of x h2 h3
  have HE := Lib.hid (show btextB salt (x, b) = pledgeT ++ salt ++ bs [UInt8.ofNat x.toNat] ++ b from rfl)
  generalize UInt8.ofNat x.toNat = u at hb HE
  have k1 : ¬ 9223372036854775807 < (⟨#[112, 108, 101, 100, 103, 101]⟩ : ByteArray).size + salt.size := by rw [h1]; decide
  have k2 : ¬ 9223372036854775807 < ((⟨#[112, 108, 101, 100, 103, 101]⟩ : ByteArray) ++ salt).size + (bs [u]).size := by rw [ByteArray.size_append, h1]; show ¬ 9223372036854775807 < 6 + 16 + 1; decide
  have k3 : ¬ 9223372036854775807 < ((⟨#[112, 108, 101, 100, 103, 101]⟩ : ByteArray) ++ salt ++ bs [u]).size + b.size := by rw [ByteArray.size_append, ByteArray.size_append, h1, h4]; show ¬ 9223372036854775807 < 6 + 16 + 1 + 32; decide
  have hcv := fun W g hg => conv_one W u g hg
  clear h h1 h2 h3 h4
  go_enter Tryz.func52, Tryz.ntmps52
  go_wp2_with fail
  go_ret
  rw [HE.out]
  exact ⟨rfl, ((Below.refl _ _).alloc (Nat.le_refl _) _).alloc (by simp) _⟩
/-- The Sum of a pledge's text. -/
def sumT (salt : ByteArray) (p : Shr) : ByteArray := bs (sumL (btextB salt p).data.toList)
theorem sumT_len (salt : ByteArray) (p : Shr) : (sumT salt p).size = 32 := by unfold sumT; rw [bs_size, sumL_len]
theorem psum_any (salt : ByteArray) (x : Int) (b : ByteArray) (w : World) (hR : Rounds w) (h : brightB salt (x, b) = true) :
    Calls Tryz.prog 51 #[.func (.func 52) #[.agg #[.string salt, .int .i64 x, .string b]] #[]] w fun e w' => e = .returned (.string (sumT salt (x, b))) ∧ Below w.heap.size w w' := by
  have HR := Lib.hid hR
  have HT := Lib.hid (fun W => btext_any salt x b W h)
  have HS := Lib.hid (fun W hW => sum_any (btextB salt (x, b)) W hW (by obtain ⟨h1, _, _, h4⟩ := bright_is h; rw [btext_size, h1, h4]; decide))
  have HE := Lib.hid (show sumT salt (x, b) = bs (sumL (btextB salt (x, b)).data.toList) from rfl)
  rw [HE.out]
  generalize bs (sumL (btextB salt (x, b)).data.toList) = r at HS
  generalize btextB salt (x, b) = t at HT HS
  clear hR h HE
  go_enter Tryz.func51, Tryz.ntmps51
  go_wp2_with fail
  refine (HT.out _).mono ?_
  rintro e w1 ⟨rfl, hb1⟩
  go_wp2_with fail
  refine (HS.out _ (HR.out.below hb1)).mono ?_
  rintro e w2 ⟨rfl, hb2⟩
  go_wp2_with fail
  go_ret
  exact ⟨rfl, Below.chain hb1 hb2⟩
/-- Make: the pledge, and the error's number. -/
def makeS (salt : ByteArray) (p : Shr) : ByteArray := if brightB salt p = true then sumT salt p else ⟨#[]⟩
def makeE (salt : ByteArray) (p : Shr) : Nat := if brightB salt p = true then 0 else 1
theorem make_any (salt : ByteArray) (x : Int) (b : ByteArray) (w : World) (hR : Rounds w) :
    Calls Tryz.prog 45 #[.string salt, .agg #[.int .i64 x, .string b]] w fun e w' => e = .returned (.tuple #[.string (makeS salt (x, b)), .int .i64 (makeE salt (x, b) : Nat)]) ∧ Below w.heap.size w w' := by
  have HR := Lib.hid hR
  have hW := ((Below.refl w.heap.size w).alloc (Nat.le_refl _) (.cells #[.int .i64 x, .string b] 29)).alloc (by simp) (.cells #[.string salt, .int .i64 x, .string b] 94)
  have HW := Lib.hid hW
  have HB := Lib.hid (fun W => bright_any salt x b W)
  have hX := heap_alloc_new (w.alloc (.cells #[.int .i64 x, .string b] 29)) (.cells #[.string salt, .int .i64 x, .string b] 94)
  rw [World.size_alloc] at hX
  have HX := Lib.hid hX
  clear hR hW hX
  cases h : brightB salt (x, b) with
  | false =>
    have HE := Lib.hid (show makeS salt (x, b) = ⟨#[]⟩ ∧ makeE salt (x, b) = 1 by unfold makeS makeE; rw [h]; exact ⟨rfl, rfl⟩)
    rw [HE.out.1, HE.out.2]
    rw [h] at HB
    clear h HE
    go_enter Tryz.func45, Tryz.ntmps45
    go_wp2_with fail
    refine (HB.out _).mono ?_
    rintro e w1 ⟨rfl, hb1⟩
    go_wp2_with fail
    go_ret2
    exact ⟨rfl, HW.out.trans (hb1.mono HW.out.size)⟩
  | true =>
    have HE := Lib.hid (show makeS salt (x, b) = sumT salt (x, b) ∧ makeE salt (x, b) = 0 by unfold makeS makeE; rw [h]; exact ⟨rfl, rfl⟩)
    rw [HE.out.1, HE.out.2]
    rw [h] at HB
    have HS := Lib.hid (fun W hW => psum_any salt x b W hW h)
    clear h HE
    go_enter Tryz.func45, Tryz.ntmps45
    go_wp2_with fail
    refine (HB.out _).mono ?_
    rintro e w1 ⟨rfl, hb1⟩
    have x0 := cell_in' (cells_below HX.out hb1) 0 _ rfl
    have x1 := cell_in' (cells_below HX.out hb1) 1 _ rfl
    have x2 := cell_in' (cells_below HX.out hb1) 2 _ rfl
    have HW1 := Lib.hid (HW.out.trans (hb1.mono HW.out.size))
    clear hb1
    go_wp2_with fail
    refine (HS.out _ (HR.out.below HW1.out)).mono ?_
    rintro e w2 ⟨rfl, hb2⟩
    go_wp2_with fail
    go_ret2
    exact ⟨rfl, HW1.out.trans (hb2.mono HW1.out.size)⟩
/-- Check: is it the pledge of the share? -/
def checkP (pl salt : ByteArray) (p : Shr) : Bool := brightB salt p && decide (sumT salt p = pl)
theorem checkp_any (pl salt : ByteArray) (x : Int) (b : ByteArray) (w : World) (hR : Rounds w) :
    Calls Tryz.prog 39 #[.string pl, .string salt, .agg #[.int .i64 x, .string b]] w fun e w' => e = .returned (.bool (checkP pl salt (x, b))) ∧ Below w.heap.size w w' := by
  have HR := Lib.hid hR
  have hW := (Below.refl w.heap.size w).alloc (Nat.le_refl _) (.cells #[.int .i64 x, .string b] 29)
  have HW := Lib.hid hW
  have HM := Lib.hid (fun W hW => make_any salt x b W hW)
  clear hR hW
  cases h : brightB salt (x, b) with
  | false =>
    have HE := Lib.hid (show makeE salt (x, b) = 1 by unfold makeE; rw [h]; rfl)
    rw [HE.out] at HM
    rw [checkP, h, Bool.false_and]
    generalize makeS salt (x, b) = ms at HM
    clear h HE
    go_enter Tryz.func39, Tryz.ntmps39
    go_wp2_with fail
    refine (HM.out _ (HR.out.below HW.out)).mono ?_
    rintro e w1 ⟨rfl, hb1⟩
    go_wp2_with fail
    go_ret
    exact ⟨rfl, HW.out.trans (hb1.mono HW.out.size)⟩
  | true =>
    have HE := Lib.hid (show makeS salt (x, b) = sumT salt (x, b) ∧ makeE salt (x, b) = 0 by unfold makeS makeE; rw [h]; exact ⟨rfl, rfl⟩)
    rw [HE.out.1, HE.out.2] at HM
    rw [checkP, h, Bool.true_and]
    generalize sumT salt (x, b) = ms at HM
    have hd := text_dec3 ms pl
    rw [← hd]
    clear h HE
    go_enter Tryz.func39, Tryz.ntmps39
    go_wp2_with fail
    refine (HM.out _ (HR.out.below HW.out)).mono ?_
    rintro e w1 ⟨rfl, hb1⟩
    clear hd
    go_wp2_with fail
    go_ret
    exact ⟨rfl, HW.out.trans (hb1.mono HW.out.size)⟩
end Go.Proofs.YtifcpklaenbclaaGreatDoor
