/-
  Contracts of owner.Wrap, Unwrap, Fit.
-/
import Derived.Test.YtifcpklaenbclaaGreatDoorMem2
import Derived.Test.YtifcpklaenbclaaGreatDoorPl3
import Derived.Test.YtifcpklaenbclaaGreatDoorSealT
namespace Go.Proofs.YtifcpklaenbclaaGreatDoor
open Go.RowKit
set_option linter.unusedVariables false
set_option linter.unusedSimpArgs false
set_option maxRecDepth 100000
set_option maxHeartbeats 2000000

def masterT : ByteArray := ⟨#[109, 97, 115, 116, 101, 114]⟩
def wrapE (secret nonce master : ByteArray) : Nat := if master.size ≠ 32 then 1 else sealE secret nonce masterT master
def wrapS (secret nonce master : ByteArray) : ByteArray := if wrapE secret nonce master = 0 then nonce ++ sealS secret nonce masterT master else ⟨#[]⟩
theorem seal_zero {key nonce beside s : ByteArray} (h : sealE key nonce beside s = 0) : key.size = 32 ∧ nonce.size = 12 ∧ s.size ≤ 4000 := by
  have h1 : onceE key nonce = 0 := by
    unfold sealE at h
    split at h
    · cases h
    · rename_i e; simpa using e
  have h2 : ¬ (4000 < beside.size ∨ 4000 < s.size) := by
    intro e
    unfold sealE at h
    rw [if_neg (by simpa using h1), if_pos e] at h
    cases h
  obtain ⟨a, b⟩ := once_fit h1
  exact ⟨a, b, by omega⟩
theorem wrap_any (secret nonce master : ByteArray) (w : World) (hT : Turns w) (hs : secret.size ≤ maxLen) (hn : nonce.size ≤ maxLen) (hm : master.size ≤ maxLen) :
    Calls Tryz.prog 14 #[.string secret, .string nonce, .string master] w fun e w' => e = .returned (.tuple #[.string (wrapS secret nonce master), .int .i64 (wrapE secret nonce master : Nat)]) ∧ Below w.heap.size w w' := by
  have HT := Lib.hid hT
  by_cases h32 : master.size = 32
  · have hE : wrapE secret nonce master = sealE secret nonce masterT master := by unfold wrapE; rw [if_neg (by simpa using h32)]
    have HS := Lib.hid (fun W hW => seal_any secret nonce masterT master W hW hs hn (by decide) hm)
    have d1 : ((master.size : Int) != 32) = false := by simp; omega
    by_cases h0 : sealE secret nonce masterT master = 0
    · have hW : wrapS secret nonce master = nonce ++ sealS secret nonce masterT master := by unfold wrapS; rw [hE, if_pos h0]
      have hsz : (sealS secret nonce masterT master).size = master.size + 16 := (open_seal h0).2.2
      have hns := (seal_zero h0).2.1
      rw [hE, hW, h0]
      rw [h0] at HS
      generalize sealS secret nonce masterT master = t at HS hsz ⊢
      have k1 : ¬ 9223372036854775807 < nonce.size + t.size := by omega
      clear hE hW h0 h32 hs hn hm hsz hns hT
      go_enter Tryz.func14, Tryz.ntmps14
      go_wp2_with fail
      refine (HS.out _ HT.out).mono ?_
      rintro e w1 ⟨rfl, hb1⟩
      go_wp2_with fail
      go_ret2
      exact ⟨rfl, hb1⟩
    · have hW : wrapS secret nonce master = ⟨#[]⟩ := by unfold wrapS; rw [hE, if_neg h0]
      rw [hE, hW]
      have d2 : ((sealE secret nonce masterT master : Int) != 0) = true := by simp; omega
      generalize sealE secret nonce masterT master = er at HS d2 ⊢
      generalize sealS secret nonce masterT master = t at HS
      clear hE hW h0 h32 hs hn hm hT
      go_enter Tryz.func14, Tryz.ntmps14
      go_wp2_with fail
      refine (HS.out _ HT.out).mono ?_
      rintro e w1 ⟨rfl, hb1⟩
      go_wp2_with fail
      go_ret2
      exact ⟨rfl, hb1⟩
  · have hE : wrapE secret nonce master = 1 := by unfold wrapE; rw [if_pos h32]
    have hW : wrapS secret nonce master = ⟨#[]⟩ := by unfold wrapS; rw [hE]; rfl
    rw [hE, hW]
    have d1 : ((master.size : Int) != 32) = true := by simp; omega
    clear hE hW h32 hs hn hm hT
    go_enter Tryz.func14, Tryz.ntmps14
    go_wp2_with fail
    go_ret2
    exact ⟨rfl, Below.refl _ _⟩
def unwrapE (secret wrapped : ByteArray) : Nat := if wrapped.size ≠ 60 then 60 else openE secret (wrapped.extract 0 12) masterT (wrapped.extract 12 wrapped.size)
def unwrapS (secret wrapped : ByteArray) : ByteArray := if wrapped.size ≠ 60 then ⟨#[]⟩ else openS secret (wrapped.extract 0 12) masterT (wrapped.extract 12 wrapped.size)
theorem Later.turns {w : World} (y : Later w) (h : Turns w) : Turns y.x := h.below y.ok
theorem unwrap_any (secret wrapped : ByteArray) (w : World) (hT : Turns w) (hs : secret.size ≤ maxLen) :
    Calls Tryz.prog 20 #[.string secret, .string wrapped] w fun e w' => e = .returned (.tuple #[.string (unwrapS secret wrapped), .int .i64 (unwrapE secret wrapped : Nat)]) ∧ Below w.heap.size w w' := by
  have HT := Lib.hid hT
  by_cases h60 : wrapped.size = 60
  · have hE : unwrapE secret wrapped = openE secret (wrapped.extract 0 12) masterT (wrapped.extract 12 wrapped.size) := by unfold unwrapE; rw [if_neg (by simpa using h60)]
    have hS : unwrapS secret wrapped = openS secret (wrapped.extract 0 12) masterT (wrapped.extract 12 wrapped.size) := by unfold unwrapS; rw [if_neg (by simpa using h60)]
    have d1 : ((wrapped.size : Int) != 60) = false := by simp; omega
    have d2 : (12 : Int) ≤ (wrapped.size : Int) := by omega
    have z1 : (wrapped.extract 0 12).size ≤ maxLen := by rw [ByteArray.size_extract]; unfold maxLen; omega
    have z2 : (wrapped.extract 12 wrapped.size).size ≤ maxLen := by rw [ByteArray.size_extract]; unfold maxLen; omega
    have HO := Lib.hid (fun y : Later w => later_call (y := y) (open_any secret (wrapped.extract 0 12) masterT (wrapped.extract 12 wrapped.size) y.x (y.turns hT) hs z1 (by decide) z2))
    rw [hE, hS]
    generalize openE secret (wrapped.extract 0 12) masterT (wrapped.extract 12 wrapped.size) = er at HO ⊢
    generalize openS secret (wrapped.extract 0 12) masterT (wrapped.extract 12 wrapped.size) = t at HO ⊢
    clear hE hS h60 hs hT z1 z2
    go_enter Tryz.func20, Tryz.ntmps20
    go_wp2_with fail
    refine wp_region_later (by kernel_rfl) (by kernel_rfl) ?_
    repeat (go_big_quiet_step (exact HO.out _))
    refine wpQuiet_nil ?_
    rintro _ ⟨y, rfl⟩
    go_wp2_with fail
    go_ret2
    exact ⟨rfl, y.ok⟩
  · have hE : unwrapE secret wrapped = 60 := by unfold unwrapE; rw [if_pos h60]
    have hS : unwrapS secret wrapped = ⟨#[]⟩ := by unfold unwrapS; rw [if_pos h60]
    rw [hE, hS]
    have d1 : ((wrapped.size : Int) != 60) = true := by simp; omega
    clear hE hS h60 hs hT
    go_enter Tryz.func20, Tryz.ntmps20
    go_wp2_with fail
    go_ret2
    exact ⟨rfl, Below.refl _ _⟩

/-- An answer. -/
structure Ans where
  nm : ByteArray
  salt : ByteArray
  x : Int
  b : ByteArray
def ansV (a : Ans) : List Value := [.string a.nm, .string a.salt, .int .i64 a.x, .string a.b]
def fitB (r : Rec) (a : Ans) : Bool := placeB r a.nm && decide (a.x = (placeN r a.nm : Nat)) && checkP (r.ps.getD (placeN r a.nm - 1) noneT) a.salt (a.x, a.b)
theorem fit_any (v : Value) (r : Rec) (a : Ans) (w : World) (hv : RV w v r) (hR : Rounds w) :
    Calls Tryz.prog 23 #[v, .agg #[.string a.nm, .string a.salt, .int .i64 a.x, .string a.b]] w fun e w' => e = .returned (.bool (fitB r a)) ∧ Below w.heap.size w w' := by
  have HV := Lib.hid hv
  have HR := Lib.hid hR
  have HPl := Lib.hid (fun v nm W h => place_any v r nm W h)
  have HEq := Lib.hid (show fitB r a = (placeB r a.nm && decide (a.x = (placeN r a.nm : Nat)) && checkP (r.ps.getD (placeN r a.nm - 1) noneT) a.salt (a.x, a.b)) from rfl)
  obtain ⟨A, n, c, B, m, d, rfl, hA, hn, hB, hm⟩ := hv
  have HB := Lib.hid hB
  have HM := Lib.hid hm
  have HLe := Lib.hid (fun nm (h : placeB r nm = true) => place_le r nm h)
  have HCh := Lib.hid (fun h => (check_head (r := r) h).2.2.2.2.1)
  have HC16 := Lib.hid (fun h => (check_head (r := r) h).2.2.2.1)
  obtain ⟨nm, salt, x, b⟩ := a
  simp only at HEq ⊢
  generalize fitB r ⟨nm, salt, x, b⟩ = fb at HEq ⊢
  have hW := ((Below.refl w.heap.size w).alloc (Nat.le_refl _) (.cells #[.int .i64 r.e, .int .i64 r.k, .slice A n c, .slice B m d] 24)).alloc (by simp) (.cells #[.string nm, .string salt, .int .i64 x, .string b] 31)
  have hX := (Below.heap_alloc (w.alloc (.cells #[.int .i64 r.e, .int .i64 r.k, .slice A n c, .slice B m d] 24)) (.cells #[.string nm, .string salt, .int .i64 x, .string b] 31) w.heap.size (by simp)).trans (heap_alloc_new w (.cells #[.int .i64 r.e, .int .i64 r.k, .slice A n c, .slice B m d] 24))
  have hY := heap_alloc_new (w.alloc (.cells #[.int .i64 r.e, .int .i64 r.k, .slice A n c, .slice B m d] 24)) (.cells #[.string nm, .string salt, .int .i64 x, .string b] 31)
  rw [World.size_alloc] at hY
  have HW := Lib.hid hW
  have HX := Lib.hid hX
  have HY := Lib.hid hY
  have HP := Lib.hid (HPl.out _ nm _ (HV.out.below HW.out))
  have Hle := Lib.hid (HLe.out nm)
  clear hA hn hB hm hW hX hY HPl HLe hR
  obtain ⟨pb, hpb⟩ : ∃ pb, pb = placeB r nm := ⟨_, rfl⟩
  obtain ⟨pn, hpn⟩ : ∃ pn, pn = placeN r nm := ⟨_, rfl⟩
  rw [← hpb, ← hpn] at HP HEq Hle
  clear hpb hpn
  cases pb with
  | false =>
    have Hf := Lib.hid (show fb = false by rw [HEq.out]; rfl)
    clear HEq Hle
    go_enter Tryz.func23, Tryz.ntmps23
    go_wp2_with fail
    refine HP.out.mono ?_
    rintro e w1 ⟨rfl, hb1⟩
    have HW1 := Lib.hid (HW.out.trans (hb1.mono HW.out.size))
    clear hb1
    go_wp2_with fail
    go_quiet (fail)
    rename_i nq
    have HQ := below_drewN HW1.out nq
    go_wp2_with fail
    go_ret
    rw [Hf.out]
    exact ⟨rfl, HQ⟩
  | true =>
    obtain ⟨l1, l2, l3, l4, l5⟩ := Hle.out rfl
    by_cases hx : x = (pn : Nat)
    · have d1 : (x == (pn : Int)) = true := by simpa using hx
      have d1' : ((pn : Int) == (pn : Int)) = true := by simp
      obtain ⟨q, rfl⟩ : ∃ q, pn = q + 1 := ⟨pn - 1, by omega⟩
      have hps : r.ps.length = r.ns.length := HCh.out l3
      have hql : q < r.ps.length := by omega
      have hq16 : q ≤ 16 := by have := HC16.out l3; omega
      have hqw : wrap64 (q : Int) = (q : Int) := IntWalk.wrap64_in _ ⟨by omega, by omega⟩
      have hqm : q < m := by rw [HM.out]; exact hql
      have hqm' : (q : Int) < (m : Int) := by omega
      obtain ⟨b2, off2, hbB, c2⟩ := texts_at HB.out hql
      have Hf := Lib.hid (show fb = checkP r.ps[q] salt (x, b) by
        rw [HEq.out, decide_eq_true hx, Nat.add_sub_cancel, List.getD_eq_getElem?_getD, List.getElem?_eq_getElem hql]
        rfl)
      subst hbB
      generalize r.ps[q] = pl at c2 Hf
      have Hc2 := Lib.hid c2
      clear hps hql l1 l2 l3 l4 l5 Hle HEq c2
      subst hx
      go_enter Tryz.func23, Tryz.ntmps23
      go_wp2_with fail
      refine HP.out.mono ?_
      rintro e w1 ⟨rfl, hb1⟩
      have HW1 := Lib.hid (HW.out.trans (hb1.mono HW.out.size))
      have x3 := fun y : Later w1 => y.cell (cell_in (cells_below HX.out hb1) 3 _ rfl)
      have y1 := fun y : Later w1 => y.cell (cell_in (cells_below HY.out hb1) 1 _ rfl)
      have y2 := fun y : Later w1 => y.cell (cell_in (cells_below HY.out hb1) 2 _ rfl)
      have y3 := fun y : Later w1 => y.cell (cell_in (cells_below HY.out hb1) 3 _ rfl)
      have p1 := fun y : Later w1 => y.cell ((HW1.out.cell (cell_lt Hc2.out)).trans Hc2.out)
      have HC := Lib.hid (fun y : Later w1 => later_call (y := y) (checkp_any pl salt ((q + 1 : Nat) : Int) b y.x (y.rounds (HR.out.below HW1.out))))
      rw [← Hf.out] at HC
      clear hb1 Hf
      go_wp2_with fail
      refine wp_region_later (by kernel_rfl) (by kernel_rfl) ?_
      repeat (go_big_quiet_step (exact HC.out _))
      refine wpQuiet_nil ?_
      rintro _ ⟨y, rfl⟩
      go_wp2_with fail
      go_ret
      exact ⟨rfl, HW1.out.trans (y.ok.mono HW1.out.size)⟩
    · have d1 : (x == (pn : Int)) = false := by simpa using hx
      have Hf := Lib.hid (show fb = false by rw [HEq.out, decide_eq_false hx]; rfl)
      clear HEq Hle hx l1 l2 l3 l4 l5
      go_enter Tryz.func23, Tryz.ntmps23
      go_wp2_with fail
      refine HP.out.mono ?_
      rintro e w1 ⟨rfl, hb1⟩
      have HW1 := Lib.hid (HW.out.trans (hb1.mono HW.out.size))
      have y2 := cell_in (cells_below HY.out hb1) 2 _ rfl
      clear hb1
      go_wp2_with fail
      go_quiet (fail)
      rename_i nq
      have HQ := below_drewN HW1.out nq
      go_wp2_with fail
      go_ret
      rw [Hf.out]
      exact ⟨rfl, HQ⟩
end Go.Proofs.YtifcpklaenbclaaGreatDoor
