/-
  Contracts of owner.Wrap, Unwrap, Fit.
  Small facts for ranges over functions: what must stay, boxes, results.
  Contract of owner.fitting and its iterator.
  Contract of owner.Chosen.
-/
import Derived.Test.YtkbjmmigjjdfpaaGreatDoorMe
import Derived.Test.YtkbjmmigjjdfpaaGreatDoorPm
import Derived.Test.YtkbjmmigjjdfpaaGreatDoorSealT
import Derived.Test.YtkbjmmigjjdfpaaGreatDoorSm
import Derived.Laws.AppendOwn
namespace Go.Proofs.YtkbjmmigjjdfpaaGreatDoor
/- Ow -/
open Go.RowKit
set_option linter.unusedVariables false
set_option linter.unusedSimpArgs false
set_option maxRecDepth 100000
set_option maxHeartbeats 2000000

def masterT : ByteArray := ⟨#[109, 97, 115, 116, 101, 114]⟩
def wrapE (secret nonce master : ByteArray) : Nat := if master.size ≠ 32 then 1 else sealE secret nonce masterT master
def wrapS (secret nonce master : ByteArray) : ByteArray := if wrapE secret nonce master = 0 then nonce ++ sealS secret nonce masterT master else ⟨#[]⟩
theorem seal_zero {key nonce beside s : ByteArray} (h : sealE key nonce beside s = 0) : key.size = 32 ∧ nonce.size = 12 ∧ s.size ≤ 4000 := by
  have h1 : onceE key nonce = 0 := by
    unfold sealE at h
    split at h
    · cases h
    · rename_i e; simpa using e
  have h2 : ¬ (4000 < beside.size ∨ 4000 < s.size) := by
    intro e
    unfold sealE at h
    rw [if_neg (by simpa using h1), if_pos e] at h
    cases h
  obtain ⟨a, b⟩ := once_fit h1
  exact ⟨a, b, by omega⟩
theorem wrap_any (secret nonce master : ByteArray) (w : World) (hT : Turns w) (hs : secret.size ≤ maxLen) (hn : nonce.size ≤ maxLen) (hm : master.size ≤ maxLen) :
    Calls Tryz.prog 8 #[.string secret, .string nonce, .string master] w fun e w' => e = .returned (.tuple #[.string (wrapS secret nonce master), .int .i64 (wrapE secret nonce master : Nat)]) ∧ Below w.heap.size w w' := by
  have HT := Lib.hid hT
  by_cases h32 : master.size = 32
  · have hE : wrapE secret nonce master = sealE secret nonce masterT master := by unfold wrapE; rw [if_neg (by simpa using h32)]
    have HS := Lib.hid (fun W hW => seal_any secret nonce masterT master W hW hs hn (by decide) hm)
    have d1 : ((master.size : Int) != 32) = false := by simp; omega
    by_cases h0 : sealE secret nonce masterT master = 0
    · have hW : wrapS secret nonce master = nonce ++ sealS secret nonce masterT master := by unfold wrapS; rw [hE, if_pos h0]
      have hsz : (sealS secret nonce masterT master).size = master.size + 16 := (open_seal h0).2.2
      have hns := (seal_zero h0).2.1
      rw [hE, hW, h0]
      rw [h0] at HS
      generalize sealS secret nonce masterT master = t at HS hsz ⊢
      have k1 : ¬ 9223372036854775807 < nonce.size + t.size := by omega
      clear hE hW h0 h32 hs hn hm hsz hns hT
      go_enter Tryz.func8, Tryz.ntmps8
      go_wp2_with fail
      refine (HS.out _ HT.out).mono ?_
      rintro e w1 ⟨rfl, hb1⟩
      go_wp2_with fail
      go_ret2
      exact ⟨rfl, hb1⟩
    · have hW : wrapS secret nonce master = ⟨#[]⟩ := by unfold wrapS; rw [hE, if_neg h0]
      rw [hE, hW]
      have d2 : ((sealE secret nonce masterT master : Int) != 0) = true := by simp; omega
      generalize sealE secret nonce masterT master = er at HS d2 ⊢
      generalize sealS secret nonce masterT master = t at HS
      clear hE hW h0 h32 hs hn hm hT
      go_enter Tryz.func8, Tryz.ntmps8
      go_wp2_with fail
      refine (HS.out _ HT.out).mono ?_
      rintro e w1 ⟨rfl, hb1⟩
      go_wp2_with fail
      go_ret2
      exact ⟨rfl, hb1⟩
  · have hE : wrapE secret nonce master = 1 := by unfold wrapE; rw [if_pos h32]
    have hW : wrapS secret nonce master = ⟨#[]⟩ := by unfold wrapS; rw [hE]; rfl
    rw [hE, hW]
    have d1 : ((master.size : Int) != 32) = true := by simp; omega
    clear hE hW h32 hs hn hm hT
    go_enter Tryz.func8, Tryz.ntmps8
    go_wp2_with fail
    go_ret2
    exact ⟨rfl, Below.refl _ _⟩
def unwrapE (secret wrapped : ByteArray) : Nat := if wrapped.size ≠ 60 then 60 else openE secret (wrapped.extract 0 12) masterT (wrapped.extract 12 wrapped.size)
def unwrapS (secret wrapped : ByteArray) : ByteArray := if wrapped.size ≠ 60 then ⟨#[]⟩ else openS secret (wrapped.extract 0 12) masterT (wrapped.extract 12 wrapped.size)
theorem Later.turns {w : World} (y : Later w) (h : Turns w) : Turns y.x := h.below y.ok
theorem unwrap_any (secret wrapped : ByteArray) (w : World) (hT : Turns w) (hs : secret.size ≤ maxLen) :
    Calls Tryz.prog 30 #[.string secret, .string wrapped] w fun e w' => e = .returned (.tuple #[.string (unwrapS secret wrapped), .int .i64 (unwrapE secret wrapped : Nat)]) ∧ Below w.heap.size w w' := by
  have HT := Lib.hid hT
  by_cases h60 : wrapped.size = 60
  · have hE : unwrapE secret wrapped = openE secret (wrapped.extract 0 12) masterT (wrapped.extract 12 wrapped.size) := by unfold unwrapE; rw [if_neg (by simpa using h60)]
    have hS : unwrapS secret wrapped = openS secret (wrapped.extract 0 12) masterT (wrapped.extract 12 wrapped.size) := by unfold unwrapS; rw [if_neg (by simpa using h60)]
    have d1 : ((wrapped.size : Int) != 60) = false := by simp; omega
    have d2 : (12 : Int) ≤ (wrapped.size : Int) := by omega
    have z1 : (wrapped.extract 0 12).size ≤ maxLen := by rw [ByteArray.size_extract]; unfold maxLen; omega
    have z2 : (wrapped.extract 12 wrapped.size).size ≤ maxLen := by rw [ByteArray.size_extract]; unfold maxLen; omega
    have HO := Lib.hid (fun y : Later w => later_call (y := y) (open_any secret (wrapped.extract 0 12) masterT (wrapped.extract 12 wrapped.size) y.x (y.turns hT) hs z1 (by decide) z2))
    rw [hE, hS]
    generalize openE secret (wrapped.extract 0 12) masterT (wrapped.extract 12 wrapped.size) = er at HO ⊢
    generalize openS secret (wrapped.extract 0 12) masterT (wrapped.extract 12 wrapped.size) = t at HO ⊢
    clear hE hS h60 hs hT z1 z2
    go_enter Tryz.func30, Tryz.ntmps30
    go_wp2_with fail
    refine wp_region_later (by kernel_rfl) (by kernel_rfl) ?_
    repeat (go_big_quiet_step (exact HO.out _))
    refine wpQuiet_nil ?_
    rintro _ ⟨y, rfl⟩
    go_wp2_with fail
    go_ret2
    exact ⟨rfl, y.ok⟩
  · have hE : unwrapE secret wrapped = 60 := by unfold unwrapE; rw [if_pos h60]
    have hS : unwrapS secret wrapped = ⟨#[]⟩ := by unfold unwrapS; rw [if_pos h60]
    rw [hE, hS]
    have d1 : ((wrapped.size : Int) != 60) = true := by simp; omega
    clear hE hS h60 hs hT
    go_enter Tryz.func30, Tryz.ntmps30
    go_wp2_with fail
    go_ret2
    exact ⟨rfl, Below.refl _ _⟩

/-- An answer. -/
structure Ans where
  nm : ByteArray
  salt : ByteArray
  x : Int
  b : ByteArray
def ansV (a : Ans) : List Value := [.string a.nm, .string a.salt, .int .i64 a.x, .string a.b]
def fitB (r : Rec) (a : Ans) : Bool := placeB r a.nm && decide (a.x = (placeN r a.nm : Nat)) && checkP (r.ps.getD (placeN r a.nm - 1) noneT) a.salt (a.x, a.b)
theorem fit_any (v : Value) (r : Rec) (a : Ans) (w : World) (hv : RV w v r) (hR : Rounds w) :
    Calls Tryz.prog 62 #[v, .agg #[.string a.nm, .string a.salt, .int .i64 a.x, .string a.b]] w fun e w' => e = .returned (.bool (fitB r a)) ∧ Below w.heap.size w w' := by
  have HV := Lib.hid hv
  have HR := Lib.hid hR
  have HPl := Lib.hid (fun v nm W h => place_any v r nm W h)
  have HEq := Lib.hid (show fitB r a = (placeB r a.nm && decide (a.x = (placeN r a.nm : Nat)) && checkP (r.ps.getD (placeN r a.nm - 1) noneT) a.salt (a.x, a.b)) from rfl)
  obtain ⟨A, n, c, B, m, d, rfl, hA, hn, hB, hm⟩ := hv
  have HB := Lib.hid hB
  have HM := Lib.hid hm
  have HLe := Lib.hid (fun nm (h : placeB r nm = true) => place_le r nm h)
  have HCh := Lib.hid (fun h => (check_head (r := r) h).2.2.2.2.1)
  have HC16 := Lib.hid (fun h => (check_head (r := r) h).2.2.2.1)
  obtain ⟨nm, salt, x, b⟩ := a
  simp only at HEq ⊢
  generalize fitB r ⟨nm, salt, x, b⟩ = fb at HEq ⊢
  have hW := ((Below.refl w.heap.size w).alloc (Nat.le_refl _) (.cells #[.int .i64 r.e, .int .i64 r.k, .slice A n c, .slice B m d] 26)).alloc (by simp) (.cells #[.string nm, .string salt, .int .i64 x, .string b] 45)
  have hX := (Below.heap_alloc (w.alloc (.cells #[.int .i64 r.e, .int .i64 r.k, .slice A n c, .slice B m d] 26)) (.cells #[.string nm, .string salt, .int .i64 x, .string b] 45) w.heap.size (by simp)).trans (heap_alloc_new w (.cells #[.int .i64 r.e, .int .i64 r.k, .slice A n c, .slice B m d] 26))
  have hY := heap_alloc_new (w.alloc (.cells #[.int .i64 r.e, .int .i64 r.k, .slice A n c, .slice B m d] 26)) (.cells #[.string nm, .string salt, .int .i64 x, .string b] 45)
  rw [World.size_alloc] at hY
  have HW := Lib.hid hW
  have HX := Lib.hid hX
  have HY := Lib.hid hY
  have HP := Lib.hid (HPl.out _ nm _ (HV.out.below HW.out))
  have Hle := Lib.hid (HLe.out nm)
  clear hA hn hB hm hW hX hY HPl HLe hR
  obtain ⟨pb, hpb⟩ : ∃ pb, pb = placeB r nm := ⟨_, rfl⟩
  obtain ⟨pn, hpn⟩ : ∃ pn, pn = placeN r nm := ⟨_, rfl⟩
  rw [← hpb, ← hpn] at HP HEq Hle
  clear hpb hpn
  cases pb with
  | false =>
    have Hf := Lib.hid (show fb = false by rw [HEq.out]; rfl)
    clear HEq Hle
    go_enter Tryz.func62, Tryz.ntmps62
    go_wp2_with fail
    refine HP.out.mono ?_
    rintro e w1 ⟨rfl, hb1⟩
    have HW1 := Lib.hid (HW.out.trans (hb1.mono HW.out.size))
    clear hb1
    go_wp2_with fail
    go_quiet (fail)
    rename_i nq
    have HQ := below_drewN HW1.out nq
    go_wp2_with fail
    go_ret
    rw [Hf.out]
    exact ⟨rfl, HQ⟩
  | true =>
    obtain ⟨l1, l2, l3, l4, l5⟩ := Hle.out rfl
    by_cases hx : x = (pn : Nat)
    · have d1 : (x == (pn : Int)) = true := by simpa using hx
      have d1' : ((pn : Int) == (pn : Int)) = true := by simp
      obtain ⟨q, rfl⟩ : ∃ q, pn = q + 1 := ⟨pn - 1, by omega⟩
      have hps : r.ps.length = r.ns.length := HCh.out l3
      have hql : q < r.ps.length := by omega
      have hq16 : q ≤ 16 := by have := HC16.out l3; omega
      have hqw : wrap64 (q : Int) = (q : Int) := IntWalk.wrap64_in _ ⟨by omega, by omega⟩
      have hqm : q < m := by rw [HM.out]; exact hql
      have hqm' : (q : Int) < (m : Int) := by omega
      obtain ⟨b2, off2, hbB, c2⟩ := texts_at HB.out hql
      have Hf := Lib.hid (show fb = checkP r.ps[q] salt (x, b) by
        rw [HEq.out, decide_eq_true hx, Nat.add_sub_cancel, List.getD_eq_getElem?_getD, List.getElem?_eq_getElem hql]
        rfl)
      subst hbB
      generalize r.ps[q] = pl at c2 Hf
      have Hc2 := Lib.hid c2
      clear hps hql l1 l2 l3 l4 l5 Hle HEq c2
      subst hx
      go_enter Tryz.func62, Tryz.ntmps62
      go_wp2_with fail
      refine HP.out.mono ?_
      rintro e w1 ⟨rfl, hb1⟩
      have HW1 := Lib.hid (HW.out.trans (hb1.mono HW.out.size))
      have x3 := fun y : Later w1 => y.cell (cell_in (cells_below HX.out hb1) 3 _ rfl)
      have y1 := fun y : Later w1 => y.cell (cell_in (cells_below HY.out hb1) 1 _ rfl)
      have y2 := fun y : Later w1 => y.cell (cell_in (cells_below HY.out hb1) 2 _ rfl)
      have y3 := fun y : Later w1 => y.cell (cell_in (cells_below HY.out hb1) 3 _ rfl)
      have p1 := fun y : Later w1 => y.cell ((HW1.out.cell (cell_lt Hc2.out)).trans Hc2.out)
      have HC := Lib.hid (fun y : Later w1 => later_call (y := y) (checkp_any pl salt ((q + 1 : Nat) : Int) b y.x (y.rounds (HR.out.below HW1.out))))
      rw [← Hf.out] at HC
      clear hb1 Hf
      go_wp2_with fail
      refine wp_region_later (by kernel_rfl) (by kernel_rfl) ?_
      repeat (go_big_quiet_step (exact HC.out _))
      refine wpQuiet_nil ?_
      rintro _ ⟨y, rfl⟩
      go_wp2_with fail
      go_ret
      exact ⟨rfl, HW1.out.trans (y.ok.mono HW1.out.size)⟩
    · have d1 : (x == (pn : Int)) = false := by simpa using hx
      have Hf := Lib.hid (show fb = false by rw [HEq.out, decide_eq_false hx]; rfl)
      clear HEq Hle hx l1 l2 l3 l4 l5
      go_enter Tryz.func62, Tryz.ntmps62
      go_wp2_with fail
      refine HP.out.mono ?_
      rintro e w1 ⟨rfl, hb1⟩
      have HW1 := Lib.hid (HW.out.trans (hb1.mono HW.out.size))
      have y2 := cell_in (cells_below HY.out hb1) 2 _ rfl
      clear hb1
      go_wp2_with fail
      go_quiet (fail)
      rename_i nq
      have HQ := below_drewN HW1.out nq
      go_wp2_with fail
      go_ret
      rw [Hf.out]
      exact ⟨rfl, HQ⟩

/- Rfn -/
open Go.RowKit
set_option linter.unusedVariables false
set_option linter.unusedSimpArgs false

/-- What lies below n0 stays, and the boxes bs. -/
def KpT (n0 : Nat) (bs : List Nat) (W W' : World) : Prop := Below n0 W W' ∧ KeepB bs W W'
theorem kpT_t {n0 : Nat} {bs : List Nat} {A B C : World} (h : KpT n0 bs A B) (k : KpT n0 bs B C) : KpT n0 bs A C := ⟨h.1.trans k.1, keepB_t h.2 k.2⟩
theorem kpT_b {n0 : Nat} {bs : List Nat} {w : World} (hn : n0 ≤ w.heap.size) (hb : ∀ b ∈ bs, b < w.heap.size) (W : World) (l : Nat) (o o' : Obj) (hl : w.heap.size ≤ l) (h1 : W.heap[l]? = some o) (h2 : o.isCells = false) (h3 : o.isWalk = false) : KpT n0 bs W (W.putObj l o') :=
  ⟨belowK_b hn W l o o' hl h1 h2 h3, keepB_b hb W l o o' hl h1 h2 h3⟩
theorem rf_cells {β : Type} (b : Nat) (C : Array Value) (t : TypeId) : Own (fun (_ : β) W => W.heap[b]? = some (.cells C t (0, 0))) := fun s A B row hs hg hr => by
  refine (hg.block b (cell_lt_of hs) (fun e => ?_)).trans hs
  obtain ⟨o, ho, hc⟩ := hr b e.symm
  rw [hs] at ho
  obtain rfl := Option.some.inj ho
  cases hc
theorem rf_c {b : Nat} {C : Array Value} {t : TypeId} {X Y : World} {row : Option Nat} (h : X.heap[b]? = some (.cells C t (0, 0))) (hg : X.grownBy Y row) (hr : ∀ r, row = some r → ∃ o : Obj, X.heap[r]? = some o ∧ o.isCells = false) : Y.heap[b]? = some (.cells C t (0, 0)) := rf_cells (β := Unit) b C t () X Y row h hg hr
theorem rf_at {w : World} {g : Nat} {t : TypeId} {cs : Array Value} (h : w.heap[g]? = some (.cells cs t (0, 0))) (i : Nat) (u : Value) (hu : cs[i]? = some u) : w.cell? ⟨g, i, none⟩ = some u := by
  unfold World.cell?
  simp [h, hu]
theorem rf_fr {w : World} {g : Nat} {t : TypeId} {cs : Array Value} (h : w.heap[g]? = some (.cells cs t (0, 0))) (i : Nat) : w.frozen? ⟨g, i, none⟩ = false := by
  unfold World.frozen?
  simp [h]
theorem rf_set {w : World} {B0 : Nat} {b i : Nat} (h : B0 ≤ b) (u : Value) : Below B0 w (w.setCell ⟨b, i, none⟩ u) :=
  ⟨rfl, rfl, rfl, by simp, fun k hk => Below.heap_setCell w ⟨b, i, none⟩ u k (by simp; omega)⟩
theorem al4' (w : World) (o1 o2 o3 o4 : Obj) : ((((w.alloc o1).alloc o2).alloc o3).alloc o4).heap[w.heap.size]? = some o1 ∧ ((((w.alloc o1).alloc o2).alloc o3).alloc o4).heap[w.heap.size + 1]? = some o2 ∧ ((((w.alloc o1).alloc o2).alloc o3).alloc o4).heap[w.heap.size + 1 + 1]? = some o3 ∧ ((((w.alloc o1).alloc o2).alloc o3).alloc o4).heap[w.heap.size + 1 + 1 + 1]? = some o4 ∧ Below w.heap.size w ((((w.alloc o1).alloc o2).alloc o3).alloc o4) ∧ ((((w.alloc o1).alloc o2).alloc o3).alloc o4).heap.size = w.heap.size + 4 := by
  have h1 := heap_alloc_new w o1
  have h2 := heap_alloc_new (w.alloc o1) o2
  have h3 := heap_alloc_new ((w.alloc o1).alloc o2) o3
  have h4 := heap_alloc_new (((w.alloc o1).alloc o2).alloc o3) o4
  simp only [World.size_alloc] at h2 h3 h4
  refine ⟨?_, ?_, ?_, h4, ?_, by simp⟩
  · exact (Below.heap_alloc _ _ _ (by simp only [World.size_alloc]; omega)).trans ((Below.heap_alloc _ _ _ (by simp only [World.size_alloc]; omega)).trans ((Below.heap_alloc _ _ _ (by simp only [World.size_alloc]; omega)).trans h1))
  · exact (Below.heap_alloc _ _ _ (by simp only [World.size_alloc]; omega)).trans ((Below.heap_alloc _ _ _ (by simp only [World.size_alloc]; omega)).trans h2)
  · exact (Below.heap_alloc _ _ _ (by simp only [World.size_alloc]; omega)).trans h3
  · exact ((((Below.refl _ _).alloc (Nat.le_refl _) _).alloc (by simp) _).alloc (by simp; omega) _).alloc (by simp; omega) _

/- Ow2 -/
open Go.RowKit
set_option linter.unusedVariables false
set_option linter.unusedSimpArgs false
set_option maxRecDepth 100000
set_option maxHeartbeats 2000000

def answersV (l : List Ans) : List Value := l.flatMap ansV
theorem answersV_cons (p : Ans) (l : List Ans) : answersV (p :: l) = ansV p ++ answersV l := rfl
theorem answersV_at (l : List Ans) (i : Nat) (p : Ans) (h : l[i]? = some p) : (answersV l)[i * 4]? = some (.string p.nm) ∧ (answersV l)[i * 4 + 1]? = some (.string p.salt) ∧ (answersV l)[i * 4 + 2]? = some (.int .i64 p.x) ∧ (answersV l)[i * 4 + 3]? = some (.string p.b) := by
  induction l generalizing i with
  | nil => simp at h
  | cons a l ih =>
    cases i with
    | zero =>
      simp at h
      subst h
      exact ⟨rfl, rfl, rfl, rfl⟩
    | succ i =>
      have := ih i (by simpa using h)
      rw [answersV_cons]
      have e : (ansV a).length = 4 := rfl
      refine ⟨?_, ?_, ?_, ?_⟩
      · rw [List.getElem?_append_right (by omega), e, show (i + 1) * 4 - 4 = i * 4 by omega]; exact this.1
      · rw [List.getElem?_append_right (by omega), e, show (i + 1) * 4 + 1 - 4 = i * 4 + 1 by omega]; exact this.2.1
      · rw [List.getElem?_append_right (by omega), e, show (i + 1) * 4 + 2 - 4 = i * 4 + 2 by omega]; exact this.2.2.1
      · rw [List.getElem?_append_right (by omega), e, show (i + 1) * 4 + 3 - 4 = i * 4 + 3 by omega]; exact this.2.2.2
theorem Rd.ans {w : World} {A : Option Addr} {l : List Ans} {i : Nat} (h : Rd w A (answersV l)) (hi : i < l.length) :
    ∃ b off, A = some ⟨b, off, none⟩ ∧ w.cell? ⟨b, off + i * 4, none⟩ = some (.string l[i].nm) ∧ w.cell? ⟨b, off + i * 4 + 1, none⟩ = some (.string l[i].salt) ∧ w.cell? ⟨b, off + i * 4 + 2, none⟩ = some (.int .i64 l[i].x) ∧ w.cell? ⟨b, off + i * 4 + 3, none⟩ = some (.string l[i].b) := by
  obtain ⟨h0, h1, h2, h3⟩ := answersV_at l i l[i] (List.getElem?_eq_getElem hi)
  obtain ⟨b, off, hA, c0⟩ := h _ _ h0
  have hh : ∀ k u, (answersV l)[k]? = some u → w.cell? ⟨b, off + k, none⟩ = some u := fun k u hk => by
    obtain ⟨b', off', hA', c⟩ := h _ _ hk
    rw [hA] at hA'
    injection hA' with e
    injection e with e1 e2
    subst e1 e2
    exact c
  exact ⟨b, off, hA, c0, by rw [Nat.add_assoc]; exact hh _ _ h1, by rw [Nat.add_assoc]; exact hh _ _ h2, by rw [Nat.add_assoc]; exact hh _ _ h3⟩

/-- Which answers are told: those that fit, of one name if any is false. -/
def tells (r : Rec) (name : ByteArray) (any : Bool) (a : Ans) : Bool := (any || decide (a.nm = name)) && fitB r a
abbrev FA (r : Rec) (name : ByteArray) (any : Bool) := { a : Ans // tells r name any a = true }
def selS (r : Rec) (name : ByteArray) (any : Bool) (l : List Ans) : List (FA r name any) := l.filterMap fun a => if h : tells r name any a = true then some ⟨a, h⟩ else none
theorem sel_val (r : Rec) (name : ByteArray) (any : Bool) (l : List Ans) : (selS r name any l).map Subtype.val = l.filter (tells r name any) := by
  induction l with
  | nil => rfl
  | cons a l ih =>
    rw [selS, List.filterMap_cons, List.filter_cons]
    by_cases h : tells r name any a = true
    · rw [dif_pos h, if_pos h, List.map_cons, ← selS, ih]
    · rw [dif_neg h, if_neg h, ← selS, ih]
theorem sel_snoc {r : Rec} {name : ByteArray} {any : Bool} {l : List Ans} {i : Nat} (hi : i < l.length) : selS r name any (l.take (i + 1)) = selS r name any (l.take i) ++ (if h : tells r name any l[i] = true then [⟨l[i], h⟩] else []) := by
  rw [List.take_succ_eq_append_getElem hi, selS, List.filterMap_append, ← selS]
  congr 1
  rw [List.filterMap_cons]
  split
  · rename_i h; split at h
    · cases h
    · rw [dif_neg (by assumption)]; rfl
  · rename_i h; split at h
    · rw [dif_pos (by assumption)]
      obtain rfl := Option.some.inj h
      rfl
    · cases h
theorem sel_pre (r : Rec) (name : ByteArray) (any : Bool) (l : List Ans) (i : Nat) : selS r name any (l.take i) <+: selS r name any l := by
  rw [show selS r name any l = selS r name any (l.take i ++ l.drop i) by rw [List.take_append_drop]]
  rw [selS, selS, List.filterMap_append]
  exact List.prefix_append _ _
theorem fitting1_in (n : Nat) (hn : 1 ≤ n) (yl BL BA BN BR T : Nat) (A : Option Addr) (m c : Nat) (ls : List Ans) (name : ByteArray) (any : Bool) (r : Rec) (v0 v1 v2 v3 : Value) (w1 W : World) (hT : T = w1.heap.size) (hw1 : Below T w1 W) (hv : RV w1 (.agg #[v0, v1, v2, v3]) r) (hr : Rd w1 A (answersV ls)) (hm : m = ls.length) (hl : m ≤ 1000) (hR : Rounds w1)
    (bL : W.heap[BL]? = some (.cells #[.slice A m c] 40 (0, 0))) (bA : W.heap[BA]? = some (.cells #[.bool any] 4 (0, 0))) (bN : W.heap[BN]? = some (.cells #[.string name] 9 (0, 0))) (bR : W.heap[BR]? = some (.cells #[v0, v1, v2, v3] 26 (0, 0)))
    (J Jx : List (FA r name any) → World → Prop) (hJ : AbidesFrom W.heap.size J)
    (hY : ∀ pre x W', J pre W' → pre.length < (selS r name any ls).length → YieldAt Fence.wide (n - 1) Tryz.prog yl #[.agg #[.string x.1.nm, .string x.1.salt, .int .i64 x.1.x, .string x.1.b]] W' fun e W2 =>
      (e = .returned (.bool true) ∧ J (pre ++ [x]) W2 ∧ KpT T [BL, BA, BN, BR] W' W2) ∨ (e = .returned (.bool false) ∧ Jx (pre ++ [x]) W2)) (h0 : J [] W) :
    CallsIn Fence.wide n Tryz.prog 61 #[.func (.yield yl) #[] #[], .pointer (some ⟨BL, 0, none⟩), .pointer (some ⟨BA, 0, none⟩), .pointer (some ⟨BN, 0, none⟩), .pointer (some ⟨BR, 0, none⟩)] W fun e W' => (∃ v, e = .returned v) ∧
      ((∃ ys, ys = selS r name any ls ∧ J ys W') ∨ (∃ pre, pre <+: selS r name any ls ∧ Jx pre W')) := by
  have HY := Lib.hid hY
  have HM := Lib.hid hm
  have HRd := Lib.hid hr
  have HV := Lib.hid hv
  have HR := Lib.hid hR
  have HJa := Lib.hid hJ
  have hw1s : w1.heap.size ≤ W.heap.size := hw1.size
  subst hT
  clear hY hm hr hv hR hJ
  have c1 := cell_of_one bL
  refine callsIn_of_wp Tryz.func61 rfl trivial ?_ rfl
  simp only [Tryz.ntmps61, List.size_toArray, List.length_cons, List.length_nil, Nat.reduceAdd, Nat.reduceSub, Array.replicate_succ, Array.replicate_zero, List.push_toArray, List.append_toArray, List.nil_append, List.cons_append]
  gi_wp2
  gi_loopw [10] (fun u wr => ∃ i : Nat, i ≤ m ∧ u = .int .i64 (i : Nat) ∧ wr.heap[BL]? = some (.cells #[.slice A m c] 40 (0, 0)) ∧ wr.heap[BA]? = some (.cells #[.bool any] 4 (0, 0)) ∧ wr.heap[BN]? = some (.cells #[.string name] 9 (0, 0)) ∧ wr.heap[BR]? = some (.cells #[v0, v1, v2, v3] 26 (0, 0)) ∧ Below w1.heap.size w1 wr ∧ W.heap.size ≤ wr.heap.size ∧ J (selS r name any (ls.take i)) wr) (fun u _ => m - (intOf u).toNat)
  case atStart => exact ⟨0, by omega, rfl, bL, bA, bN, bR, hw1, Nat.le_refl _, h0⟩
  case round =>
    clear c1 bL bA bN bR hw1 h0
    obtain ⟨i, hi, rfl, bL, bA, bN, bR, hb, hsz, hJ⟩ := hrel
    by_cases hlt : i < m
    · have e1 : decide ((i : Int) < (m : Int)) = true := by simp; omega
      have hil : i < ls.length := by rw [← HM.out]; exact hlt
      obtain ⟨bb, off, hA, k0, k1, k2, k3⟩ := (HRd.out.below hb).ans hil
      subst hA
      have Hsn := Lib.hid (sel_snoc (r := r) (name := name) (any := any) hil)
      have Hpre := Lib.hid (sel_pre r name any ls (i + 1))
      generalize ls[i] = a at k0 k1 k2 k3 Hsn
      obtain ⟨nm, salt, x, b⟩ := a
      simp only at k0 k1 k2 k3
      have hal := (Below.refl wr.heap.size wr).alloc (Nat.le_refl _) (.cells #[.string nm, .string salt, .int .i64 x, .string b] 45)
      have bA2 := cells_below bA hal
      have bN2 := cells_below bN hal
      have bR2 := cells_below bR hal
      have bL2 := cells_below bL hal
      have bY := heap_alloc_new wr (.cells #[.string nm, .string salt, .int .i64 x, .string b] 45)
      have q0 := cell_of_one bL
      have q1 := cell_of_one bA2
      have q2 := cell_of_one bN2
      have q3 := rf_at bR2 0 _ rfl
      have q4 := rf_at bR2 1 _ rfl
      have q5 := rf_at bR2 2 _ rfl
      have q6 := rf_at bR2 3 _ rfl
      have hb2 := hb.alloc (Nat.le_trans hw1s hsz) (.cells #[.string nm, .string salt, .int .i64 x, .string b] 45)
      have hsz2 : W.heap.size ≤ (wr.alloc (.cells #[.string nm, .string salt, .int .i64 x, .string b] 45)).heap.size := by rw [World.size_alloc]; omega
      have hJ2 := HJa.out _ _ (wr.alloc (.cells #[.string nm, .string salt, .int .i64 x, .string b] 45)) none hJ (gb_of_below hal none) (fun r e => by cases e)
      have HB := Lib.hid hb2
      have HS := Lib.hid hsz2
      have HJ := Lib.hid hJ2
      have BL2 := Lib.hid bL2
      have BA2 := Lib.hid bA2
      have BN2 := Lib.hid bN2
      have BR2 := Lib.hid bR2
      have BY := Lib.hid bY
      have HF := Lib.hid (fun W h1 h2 => fit_any (.agg #[v0, v1, v2, v3]) r ⟨nm, salt, x, b⟩ W h1 h2)
      simp only at HF
      clear bL bA bN bR hb hsz hJ hal bA2 bN2 bR2 bL2 bY hb2 hsz2 hJ2
      cases any with
      | true =>
        cases hfit : fitB r ⟨nm, salt, x, b⟩ with
        | false =>
          have Ht := Lib.hid (show ¬ tells r name true ⟨nm, salt, x, b⟩ = true by rw [tells, hfit]; simp)
          have Hs2 := Lib.hid (show selS r name true (ls.take (i + 1)) = selS r name true (ls.take i) by rw [Hsn.out, dif_neg Ht.out, List.append_nil])
          have HFv := Lib.hid hfit
          clear hfit Hsn
          gi_wp2_with (refine ⟨trivial, ?_⟩; gi_at_call 62; refine (callsIn_wide.2 (HF.out _ (HV.out.below HB.out) (HR.out.below HB.out))).mono ?_; rintro e w2 ⟨rfl, hb2⟩; rw [HFv.out]; have BL3 := Lib.hid (cells_below BL2.out hb2); have BA3 := Lib.hid (cells_below BA2.out hb2); have BN3 := Lib.hid (cells_below BN2.out hb2); have BR3 := Lib.hid (cells_below BR2.out hb2); have BY3 := cells_below BY.out hb2; have y0 := rf_at BY3 0 _ rfl; have y1 := rf_at BY3 1 _ rfl; have y2 := rf_at BY3 2 _ rfl; have y3 := rf_at BY3 3 _ rfl; have HB3 := Lib.hid (HB.out.trans (hb2.mono HB.out.size)); have HS3 := Lib.hid (Nat.le_trans HS.out hb2.size); have HJ3 := Lib.hid (HJa.out _ _ w2 none HJ.out (gb_of_below hb2 none) (fun r e => by cases e)); clear hb2 BY3 q1 q2 q3 q4 q5 q6; rw [← Hs2.out] at HJ3)
          refine ⟨fun f hf => (by cases hf), ?_⟩
          gi_wp2
          go_roundw
          case rel => exact ⟨i + 1, by omega, by go_num, BL3.out, BA3.out, BN3.out, BR3.out, HB3.out, HS3.out, HJ3.out⟩
          case measure => simp [intOf]; omega
        | true =>
          have ht : tells r name true ⟨nm, salt, x, b⟩ = true := by rw [tells, hfit]; rfl
          have Hs2 := Lib.hid (show selS r name true (ls.take (i + 1)) = selS r name true (ls.take i) ++ [⟨⟨nm, salt, x, b⟩, ht⟩] by rw [Hsn.out, dif_pos ht])
          have HLn := Lib.hid (show (selS r name true (ls.take i)).length < (selS r name true ls).length by
            have h1 := Hpre.out.length_le
            rw [Hs2.out, List.length_append] at h1
            simp at h1
            omega)
          have HFv := Lib.hid hfit
          clear hfit Hsn
          gi_wp2_with (refine ⟨trivial, ?_⟩; gi_at_call 62; refine (callsIn_wide.2 (HF.out _ (HV.out.below HB.out) (HR.out.below HB.out))).mono ?_; rintro e w2 ⟨rfl, hb2⟩; rw [HFv.out]; have BL3 := Lib.hid (cells_below BL2.out hb2); have BA3 := Lib.hid (cells_below BA2.out hb2); have BN3 := Lib.hid (cells_below BN2.out hb2); have BR3 := Lib.hid (cells_below BR2.out hb2); have BY3 := cells_below BY.out hb2; have y0 := rf_at BY3 0 _ rfl; have y1 := rf_at BY3 1 _ rfl; have y2 := rf_at BY3 2 _ rfl; have y3 := rf_at BY3 3 _ rfl; have HB3 := Lib.hid (HB.out.trans (hb2.mono HB.out.size)); have HS3 := Lib.hid (Nat.le_trans HS.out hb2.size); have HJ3 := Lib.hid (HJa.out _ _ w2 none HJ.out (gb_of_below hb2 none) (fun r e => by cases e)); clear hb2 BY3 q1 q2 q3 q4 q5 q6; obtain ⟨fn, tmps, assign, body, hy, hR⟩ := HY.out _ ⟨⟨nm, salt, x, b⟩, ht⟩ w2 HJ3.out HLn.out; simp only at hy; have HR2 := Lib.hid hR; clear hR HJ3)
          refine HR2.out.mono ?_
          rintro e W3 (⟨rfl, hJ4, hk4⟩ | ⟨rfl, hJx4⟩)
          · rw [← Hs2.out] at hJ4
            have HJ4 := Lib.hid hJ4
            have BL4 := Lib.hid ((hk4.2 BL (by simp)).trans BL3.out)
            have BA4 := Lib.hid ((hk4.2 BA (by simp)).trans BA3.out)
            have BN4 := Lib.hid ((hk4.2 BN (by simp)).trans BN3.out)
            have BR4 := Lib.hid ((hk4.2 BR (by simp)).trans BR3.out)
            have HB4 := Lib.hid (HB3.out.trans hk4.1)
            have HS4 := Lib.hid (Nat.le_trans HS3.out hk4.1.size)
            clear hJ4 hk4
            gi_wp2
            go_roundw
            case rel => exact ⟨i + 1, by omega, by go_num, BL4.out, BA4.out, BN4.out, BR4.out, HB4.out, HS4.out, HJ4.out⟩
            case measure => simp [intOf]; omega
          · have HJx4 := Lib.hid hJx4
            clear hJx4
            gi_wp2
            refine bodyPost_ret (results_none rfl _ _ _) rfl ?_
            refine ⟨⟨_, rfl⟩, .inr ⟨_, ?_, HJx4.out⟩⟩
            rw [← Hs2.out]
            exact Hpre.out
      | false =>
        by_cases hnm : nm = name
        · have d1 : (nm.toList == name.toList) = true := by rw [hnm]; exact beq_self_eq_true _
          have hnm' : decide (nm = name) = true := decide_eq_true hnm
          have Hnm := Lib.hid hnm'
          clear hnm hnm'
          cases hfit : fitB r ⟨nm, salt, x, b⟩ with
          | false =>
            have Ht := Lib.hid (show ¬ tells r name false ⟨nm, salt, x, b⟩ = true by rw [tells, hfit]; simp)
            have Hs2 := Lib.hid (show selS r name false (ls.take (i + 1)) = selS r name false (ls.take i) by rw [Hsn.out, dif_neg Ht.out, List.append_nil])
            have HFv := Lib.hid hfit
            clear hfit Hsn
            gi_wp2_with (refine ⟨trivial, ?_⟩; gi_at_call 62; refine (callsIn_wide.2 (HF.out _ (HV.out.below HB.out) (HR.out.below HB.out))).mono ?_; rintro e w2 ⟨rfl, hb2⟩; rw [HFv.out]; have BL3 := Lib.hid (cells_below BL2.out hb2); have BA3 := Lib.hid (cells_below BA2.out hb2); have BN3 := Lib.hid (cells_below BN2.out hb2); have BR3 := Lib.hid (cells_below BR2.out hb2); have BY3 := cells_below BY.out hb2; have y0 := rf_at BY3 0 _ rfl; have y1 := rf_at BY3 1 _ rfl; have y2 := rf_at BY3 2 _ rfl; have y3 := rf_at BY3 3 _ rfl; have HB3 := Lib.hid (HB.out.trans (hb2.mono HB.out.size)); have HS3 := Lib.hid (Nat.le_trans HS.out hb2.size); have HJ3 := Lib.hid (HJa.out _ _ w2 none HJ.out (gb_of_below hb2 none) (fun r e => by cases e)); clear hb2 BY3 q1 q2 q3 q4 q5 q6; rw [← Hs2.out] at HJ3)
            refine ⟨fun f hf => (by cases hf), ?_⟩
            gi_wp2
            go_roundw
            case rel => exact ⟨i + 1, by omega, by go_num, BL3.out, BA3.out, BN3.out, BR3.out, HB3.out, HS3.out, HJ3.out⟩
            case measure => simp [intOf]; omega
          | true =>
            have ht : tells r name false ⟨nm, salt, x, b⟩ = true := by rw [tells, hfit]; rw [Hnm.out]; rfl
            have Hs2 := Lib.hid (show selS r name false (ls.take (i + 1)) = selS r name false (ls.take i) ++ [⟨⟨nm, salt, x, b⟩, ht⟩] by rw [Hsn.out, dif_pos ht])
            have HLn := Lib.hid (show (selS r name false (ls.take i)).length < (selS r name false ls).length by
              have h1 := Hpre.out.length_le
              rw [Hs2.out, List.length_append] at h1
              simp at h1
              omega)
            have HFv := Lib.hid hfit
            clear hfit Hsn
            gi_wp2_with (refine ⟨trivial, ?_⟩; gi_at_call 62; refine (callsIn_wide.2 (HF.out _ (HV.out.below HB.out) (HR.out.below HB.out))).mono ?_; rintro e w2 ⟨rfl, hb2⟩; rw [HFv.out]; have BL3 := Lib.hid (cells_below BL2.out hb2); have BA3 := Lib.hid (cells_below BA2.out hb2); have BN3 := Lib.hid (cells_below BN2.out hb2); have BR3 := Lib.hid (cells_below BR2.out hb2); have BY3 := cells_below BY.out hb2; have y0 := rf_at BY3 0 _ rfl; have y1 := rf_at BY3 1 _ rfl; have y2 := rf_at BY3 2 _ rfl; have y3 := rf_at BY3 3 _ rfl; have HB3 := Lib.hid (HB.out.trans (hb2.mono HB.out.size)); have HS3 := Lib.hid (Nat.le_trans HS.out hb2.size); have HJ3 := Lib.hid (HJa.out _ _ w2 none HJ.out (gb_of_below hb2 none) (fun r e => by cases e)); clear hb2 BY3 q1 q2 q3 q4 q5 q6; obtain ⟨fn, tmps, assign, body, hy, hR⟩ := HY.out _ ⟨⟨nm, salt, x, b⟩, ht⟩ w2 HJ3.out HLn.out; simp only at hy; have HR2 := Lib.hid hR; clear hR HJ3)
            refine HR2.out.mono ?_
            rintro e W3 (⟨rfl, hJ4, hk4⟩ | ⟨rfl, hJx4⟩)
            · rw [← Hs2.out] at hJ4
              have HJ4 := Lib.hid hJ4
              have BL4 := Lib.hid ((hk4.2 BL (by simp)).trans BL3.out)
              have BA4 := Lib.hid ((hk4.2 BA (by simp)).trans BA3.out)
              have BN4 := Lib.hid ((hk4.2 BN (by simp)).trans BN3.out)
              have BR4 := Lib.hid ((hk4.2 BR (by simp)).trans BR3.out)
              have HB4 := Lib.hid (HB3.out.trans hk4.1)
              have HS4 := Lib.hid (Nat.le_trans HS3.out hk4.1.size)
              clear hJ4 hk4
              gi_wp2
              go_roundw
              case rel => exact ⟨i + 1, by omega, by go_num, BL4.out, BA4.out, BN4.out, BR4.out, HB4.out, HS4.out, HJ4.out⟩
              case measure => simp [intOf]; omega
            · have HJx4 := Lib.hid hJx4
              clear hJx4
              gi_wp2
              refine bodyPost_ret (results_none rfl _ _ _) rfl ?_
              refine ⟨⟨_, rfl⟩, .inr ⟨_, ?_, HJx4.out⟩⟩
              rw [← Hs2.out]
              exact Hpre.out
        · have d1 := text_ne' hnm
          have Ht := Lib.hid (show ¬ tells r name false ⟨nm, salt, x, b⟩ = true by rw [tells, decide_eq_false hnm]; simp)
          have Hs2 := Lib.hid (show selS r name false (ls.take (i + 1)) = selS r name false (ls.take i) by rw [Hsn.out, dif_neg Ht.out, List.append_nil])
          clear hnm Hsn
          rw [← Hs2.out] at HJ
          gi_wp2
          refine ⟨trivial, ?_⟩
          gi_wp2
          refine ⟨fun f hf => (by cases hf), ?_⟩
          gi_wp2
          go_roundw
          case rel => exact ⟨i + 1, by omega, by go_num, BL2.out, BA2.out, BN2.out, BR2.out, HB.out, HS.out, HJ.out⟩
          case measure => simp [intOf]; omega
    · obtain rfl : i = m := by omega
      have e1 : decide ((i : Int) < (i : Int)) = false := by simp
      rw [HM.out, List.take_of_length_le (Nat.le_refl _)] at hJ
      clear bL bA bN bR
      gi_wp2
      go_end0
      exact ⟨⟨_, rfl⟩, .inl ⟨_, rfl, hJ⟩⟩
theorem fitting_in (n : Nat) (v0 v1 v2 v3 : Value) (A : Option Addr) (m c : Nat) (name : ByteArray) (any : Bool) (w : World) :
    CallsIn Fence.wide n Tryz.prog 32 #[.agg #[v0, v1, v2, v3], .slice A m c, .string name, .bool any] w fun e w' => e = .returned (.func (.func 61) #[] #[.pointer (some ⟨w.heap.size + 1, 0, none⟩), .pointer (some ⟨w.heap.size + 1 + 1 + 1, 0, none⟩), .pointer (some ⟨w.heap.size + 1 + 1, 0, none⟩), .pointer (some ⟨w.heap.size, 0, none⟩)]) ∧
      w' = (((w.alloc (.cells #[v0, v1, v2, v3] 26)).alloc (.cells #[.slice A m c] 40)).alloc (.cells #[.string name] 9)).alloc (.cells #[.bool any] 4) := by
  refine callsIn_of_wp Tryz.func32 rfl trivial ?_ rfl
  simp only [Tryz.ntmps32, List.size_toArray, List.length_cons, List.length_nil, Nat.reduceAdd, Nat.reduceSub, Array.replicate_succ, Array.replicate_zero, List.push_toArray, List.append_toArray, List.nil_append, List.cons_append]
  gi_wp2
  go_ret
  exact ⟨rfl, rfl⟩

/- Ow3 -/
open Go.RowKit
set_option linter.unusedVariables false
set_option linter.unusedSimpArgs false
set_option maxRecDepth 100000
set_option maxHeartbeats 2000000
attribute [local go_sem] Oper.semAt_some

/-- The share of the first answer of a name that fits. -/
def firstF (r : Rec) (l : List Ans) (nm : ByteArray) : Option Shr := (l.find? (tells r nm false)).map fun a => (a.x, a.b)
def firstsL (r : Rec) (l : List Ans) (i : Nat) : List Shr := (r.ns.take i).filterMap (firstF r l)
def chosenL (r : Rec) (l : List Ans) : List Shr := if checkR r = true then (firstsL r l r.ns.length).take r.k.toNat else []
/-- What is handed back: a row of shares. -/
def SharesR (w : World) (l : List Shr) (e : Ending) (w' : World) : Prop := ∃ A n cap, e = .returned (.slice A n cap) ∧ n = l.length ∧ Rd w' A (sharesV l) ∧ Below w.heap.size w w'

theorem firsts_snoc {r : Rec} {ls : List Ans} {i : Nat} (hi : i < r.ns.length) : firstsL r ls (i + 1) = firstsL r ls i ++ (firstF r ls r.ns[i]).toList := by
  rw [firstsL, List.take_succ_eq_append_getElem hi, List.filterMap_append, ← firstsL]
  congr 1
theorem firsts_pre (r : Rec) (ls : List Ans) (i : Nat) (hi : i ≤ r.ns.length) : firstsL r ls i <+: firstsL r ls r.ns.length := by
  unfold firstsL
  rw [List.take_length]
  conv => rhs; rw [← List.take_append_drop i r.ns]
  rw [List.filterMap_append]
  exact List.prefix_append _ _
theorem firsts_full {r : Rec} {ls : List Ans} {i : Nat} (hi : i ≤ r.ns.length) (h : (firstsL r ls i).length = r.k.toNat) : (firstsL r ls r.ns.length).take r.k.toNat = firstsL r ls i := by
  rw [← h]
  exact (List.prefix_iff_eq_take.1 (firsts_pre r ls i hi)).symm
theorem sel_find {r : Rec} {nm : ByteArray} {ls : List Ans} : ((selS r nm false ls).map Subtype.val).head? = ls.find? (tells r nm false) := by
  rw [sel_val, List.head?_filter]
theorem sel_none {r : Rec} {nm : ByteArray} {ls : List Ans} (h : selS r nm false ls = []) : firstF r ls nm = none := by
  rw [firstF, ← sel_find, h]
  rfl
theorem sel_some {r : Rec} {nm : ByteArray} {ls : List Ans} {x : FA r nm false} (h : [x] <+: selS r nm false ls) : firstF r ls nm = some (x.1.x, x.1.b) := by
  obtain ⟨t, ht⟩ := h
  rw [firstF, ← sel_find, ← ht]
  rfl

/-- Marks of ranges over functions. -/
def marks (Ds : List Nat) : List Deferred := Ds.map fun D => { target := .collected D, args := #[] }
/-- Blocks of marks are shut; cells stay. -/
structure ShutK (B : Nat) (W W' : World) : Prop where
  hb : Below B W W'
  hc : ∀ (k : Nat) (cs : Array Value) (t : TypeId), W.heap[k]? = some (.cells cs t (0, 0)) → W'.heap[k]? = some (.cells cs t (0, 0))
theorem leaves_marks {F : Fence} {n : Nat} {P : Program} {fn : Func} {tmps : Array Value} {R : Ending → World → Prop} (B : Nat) : ∀ (Ds : List Nat) (W : World), Ds.Nodup → (∀ D ∈ Ds, B ≤ D ∧ W.heap[D]? = some (.deferred (some []))) →
    (∀ W', ShutK B W W' → ∃ v, (results fn tmps).run P W' = .ok v W' ∧ R (.returned v) W') → LeavesInM F n P fn tmps R (marks Ds) .returning W
  | [], W, _, _, hR => hR W ⟨Below.refl _ _, fun _ _ _ h => h⟩
  | D :: Ds, W, hnd, hD, hR => by
    obtain ⟨h1, h2⟩ := hD D (by simp)
    rw [List.nodup_cons] at hnd
    have hlt : D < W.heap.size := cell_lt_of h2
    have hb : Below B W (W.putObj D (.deferred none)) := (Below.refl B W).grown (grownBy_putObj' W D (.deferred none)) (by omega) (fun k e => by cases e; omega)
    refine ⟨by simp, .inl ⟨D, _, rfl, run_takeDeferred h2, leaves_marks B Ds _ hnd.2 (fun D' hD' => ⟨(hD D' (by simp [hD'])).1, ?_⟩) fun W' hW' => hR W' ⟨hb.trans hW'.hb, fun k cs t hk => hW'.hc k cs t ?_⟩⟩⟩
    · rw [World.putObj_heap_other (fun e => hnd.1 (by rw [e] at hD'; exact hD'))]
      exact (hD D' (by simp [hD'])).2
    · rw [World.putObj_heap_other (fun e => by subst e; rw [h2] at hk; cases hk)]
      exact hk
/-- What holds between two names. -/
structure CS (w w1 : World) (C : Array Value) (Ds : List Nat) (Z : Nat) (v : Value) (out : List Shr) (W : World) : Prop where
  g0 : W.heap[w.heap.size]? = some (.cells C 26 (0, 0))
  gG : Boxed W w1.heap.size 27 v
  ow : W.ownsRow w1.heap.size 43 2 v out.length (sharesV out)
  hb : Below w1.heap.size w1 W
  nd : Ds.Nodup
  md : ∀ D ∈ Ds, w1.heap.size ≤ D ∧ D < Z ∧ W.heap[D]? = some (.deferred (some []))
  hz : Z ≤ W.heap.size
theorem CS.kept {w w1 : World} {C : Array Value} {Ds : List Nat} {Z : Nat} {v : Value} {out : List Shr} {W W' : World} {row : Option Nat} (h : CS w w1 C Ds Z v out W) (hg : W.grownBy W' row) (hB : w1.heap.size ≤ Z)
    (hr : ∀ r, row = some r → Z ≤ r ∧ ∃ o : Obj, W.heap[r]? = some o ∧ o.isCells = false) : CS w w1 C Ds Z v out W' := by
  have hr2 : ∀ r, row = some r → ∃ o : Obj, W.heap[r]? = some o ∧ o.isCells = false := fun r e => (hr r e).2
  refine ⟨rf_c h.g0 hg hr2, rf_c h.gG hg hr2, h.ow.kept hg ?_, h.hb.grown hg (Nat.le_trans hB h.hz) (fun k e => Nat.le_trans hB (hr k e).1), h.nd, fun D hD => ?_, Nat.le_trans h.hz hg.size⟩
  · rcases h.ow.2 with ⟨rfl, _⟩ | ⟨g, cap, cur, rfl, _, hgb, _⟩
    · exact .inl rfl
    · right
      intro e
      obtain ⟨o, ho, hc⟩ := hr2 g e.symm
      rw [hgb] at ho
      obtain rfl := Option.some.inj ho
      cases hc
  · obtain ⟨h1, h2, h3⟩ := h.md D hD
    refine ⟨h1, h2, (hg.block D (cell_lt_of h3) (fun e => ?_)).trans h3⟩
    have := (hr D e.symm).1
    omega
theorem CS.more {w w1 : World} {C : Array Value} {Ds : List Nat} {Z Z' : Nat} {v : Value} {out : List Shr} {W : World} (h : CS w w1 C Ds Z v out W) (h1 : Z ≤ Z') (h2 : Z' ≤ W.heap.size) : CS w w1 C Ds Z' v out W :=
  ⟨h.g0, h.gG, h.ow, h.hb, h.nd, fun D hD => ⟨(h.md D hD).1, by have := (h.md D hD).2.1; omega, (h.md D hD).2.2⟩, h2⟩
/-- One more mark. -/
theorem CS.mark {w w1 : World} {C : Array Value} {Ds : List Nat} {Z D : Nat} {v : Value} {out : List Shr} {W : World} (h : CS w w1 C Ds Z v out W) (hB : w1.heap.size ≤ Z) (hD : Z ≤ D) (hK : W.heap[D]? = some (.deferred (some []))) : CS w w1 C (D :: Ds) W.heap.size v out W :=
  ⟨h.g0, h.gG, h.ow, h.hb, List.nodup_cons.2 ⟨fun e => by have := (h.md D e).2.1; omega, h.nd⟩, fun D' hD' => by
    rcases List.mem_cons.1 hD' with rfl | hD'
    · exact ⟨by omega, cell_lt_of hK, hK⟩
    · have := h.md D' hD'
      exact ⟨this.1, Nat.lt_of_lt_of_le this.2.1 h.hz, this.2.2⟩, Nat.le_refl _⟩
/-- A round has left. -/
structure CX (w w1 : World) (C : Array Value) (Ds : List Nat) (Z : Nat) (out : List Shr) (K : Int) (r : Rec) (nm : ByteArray) (cd : Code) (pre : List (FA r nm false)) (W : World) : Prop where
  ex : ∃ (x : FA r nm false) (B : Option Addr) (cap : Nat), pre = [x] ∧ CS w w1 C Ds Z (.slice B (out.length + 1) cap) (out ++ [(x.1.x, x.1.b)]) W ∧ ((cd = .exit 0 ∧ (out.length : Int) + 1 = K) ∨ (cd = .exit 1 ∧ ¬ (out.length : Int) + 1 = K))
structure CI (w w1 : World) (C : Array Value) (Ds : List Nat) (Z : Nat) (v : Value) (out : List Shr) (r : Rec) (nm : ByteArray) (pre : List (FA r nm false)) (W : World) : Prop where
  hp : pre = []
  cs : CS w w1 C Ds Z v out W
theorem own_shut {w w' : World} {B0 B : Nat} {e : TypeId} {size : Nat} {v : Value} {n : Nat} {xs : List Value} (h : w.ownsRow B e size v n xs) (hs : ShutK B0 w w') : w'.ownsRow B e size v n xs := by
  refine ⟨h.1, ?_⟩
  rcases h.2 with h | ⟨g, cap, cur, hv, hB, hg, hr⟩
  · exact .inl h
  · exact .inr ⟨g, cap, cur, hv, hB, hs.hc _ _ _ hg, hr⟩
theorem chosen_end {w w1 : World} {C : Array Value} {Ds : List Nat} {Z : Nat} {B : Option Addr} {cap : Nat} {out : List Shr} {W : World} (cs : CS w w1 C Ds Z (.slice B out.length cap) out W) (hw : Below w.heap.size w w1) (tmps : Array Value) (ht : tmps.getD 4 undef = .slice B out.length cap) :
    LeavesInM Fence.wide 4 Tryz.prog Tryz.f28 tmps (SharesR w out) (marks Ds) .returning W :=
  leaves_marks w1.heap.size Ds W cs.nd (fun D hD => ⟨(cs.md D hD).1, (cs.md D hD).2.2⟩) fun W' hS => ⟨_, results_tmp rfl _ _ _, by
    rw [ht]
    exact ⟨B, out.length, cap, rfl, rfl, own_rd (own_shut cs.ow hS), hw.trans ((cs.hb.trans hS.hb).mono hw.size)⟩⟩
theorem sharesV_snoc (l : List Shr) (p : Shr) : sharesV (l ++ [p]) = sharesV l ++ [.int .i64 p.1, .string p.2] := by simp [sharesV, shrV]
theorem two_newA (w : World) (x y : Value) (t : TypeId) : ∀ j u, [x, y][j]? = some u → (w.alloc (.cells #[x, y] t)).cell? ((⟨w.heap.size, 0, none⟩ : Addr).add j) = some u := by
  intro j u hj
  match j, hj with
  | 0, hj => simp at hj; subst hj; simp [Addr.add]
  | 1, hj => simp at hj; subst hj; simp [Addr.add]
theorem chosen_yes (v0 v1 v2 v3 : Value) (r : Rec) (A : Option Addr) (m c : Nat) (ls : List Ans) (w : World) (hv : RV w (.agg #[v0, v1, v2, v3]) r) (hr : Rd w A (answersV ls)) (hm : m = ls.length) (hl : m ≤ 1000) (hR : Rounds w) (hc : checkR r = true) :
    Calls Tryz.prog 28 #[.agg #[v0, v1, v2, v3], .slice A m c] w (SharesR w ((firstsL r ls r.ns.length).take r.k.toNat)) := by
  have HV := Lib.hid hv
  have HC := Lib.hid (fun W h => ch_any (.agg #[v0, v1, v2, v3]) r W h)
  rw [hc] at HC
  obtain ⟨A1, n1, c1, A2, n2, c2, hve, hA1, hn1, hA2, hn2⟩ := hv
  injection hve with hve
  obtain ⟨rfl, rfl, rfl, rfl⟩ : v0 = .int .i64 r.e ∧ v1 = .int .i64 r.k ∧ v2 = .slice A1 n1 c1 ∧ v3 = .slice A2 n2 c2 := by simpa using hve
  have HRd := Lib.hid hr
  have HR := Lib.hid hR
  have HN := Lib.hid hA1
  have HNl := Lib.hid hn1
  have HM := Lib.hid hm
  have hW := (Below.refl w.heap.size w).alloc (Nat.le_refl _) (.cells #[.int .i64 r.e, .int .i64 r.k, .slice A1 n1 c1, .slice A2 n2 c2] 26)
  have hX := heap_alloc_new w (.cells #[.int .i64 r.e, .int .i64 r.k, .slice A1 n1 c1, .slice A2 n2 c2] 26)
  have HW := Lib.hid hW
  have HX := Lib.hid hX
  clear hve hA1 hn1 hA2 hn2 hr hR hW hX hm
  refine (callsIn_wide (n := 4)).1 ?_
  refine callsIn_of_wp_marks Tryz.func28 rfl trivial ?_ rfl
  simp only [Tryz.ntmps28, List.size_toArray, List.length_cons, List.length_nil, Nat.reduceAdd, Nat.reduceSub, Array.replicate_succ, Array.replicate_zero, List.push_toArray, List.append_toArray, List.nil_append, List.cons_append]
  gi_wp2
  refine wpIn_wide.2 (wp_scope_straight ((wpIn_wide (n := 4)).1 ?_))
  gi_wp2_with (refine ⟨trivial, ?_⟩; gi_at_call 27; refine (callsIn_wide.2 (HC.out _ (HV.out.below HW.out))).mono ?_; rintro e w1 ⟨rfl, hb1⟩; have HX1 := Lib.hid (cells_below HX.out hb1); have HW1 := Lib.hid (HW.out.trans (hb1.mono HW.out.size)); clear hb1; have hlt1 := cell_lt_of HX1.out; have x2 := rf_at ((Below.heap_alloc w1 (.cells #[.slice none 0 0] 27) w.heap.size hlt1).trans HX1.out) 2 _ rfl)
  refine wpIn_label ?_
  gi_wp2
  clear x2
  have hw1lt : w.heap.size < w1.heap.size := hlt1
  have HBox := Lib.hid (Boxed.new w1 27 (.slice none 0 0))
  have HCS0 : Hid (CS w w1 #[.int .i64 r.e, .int .i64 r.k, .slice A1 n1 c1, .slice A2 n2 c2] [] (w1.heap.size + 1) (.slice none 0 0) [] (w1.alloc (.cells #[.slice none 0 0] 27))) := Lib.hid ⟨(Below.heap_alloc w1 _ _ hlt1).trans HX1.out, HBox.out, ⟨rfl, .inl ⟨rfl, rfl⟩⟩, (Below.refl _ _).alloc (Nat.le_refl _) _, List.nodup_nil, fun D hD => by simp at hD, by rw [World.size_alloc]; exact Nat.le_refl _⟩
  obtain ⟨h1e, h2e, h3e, h4e, h5e, h6e, h7e⟩ := check_head hc
  have HK0 := Lib.hid h6e
  have HV1 := Lib.hid (HV.out.below HW1.out)
  have HRd1 := Lib.hid (HRd.out.below HW1.out)
  have HR1 := Lib.hid (HR.out.below HW1.out)
  have HN16 := Lib.hid h4e
  obtain ⟨iS, hS0, hS1, hS2, hS3⟩ := info_parts share_info
  clear h1e h2e h3e h4e h5e h6e h7e hlt1 HBox HX HX1 HRd HR hc
  refine wpIn_loop (fun a wr => ∃ (i : Nat) (u7 u16 u17 u18 u19 u20 u21 u22 u34 : Value) (Ds : List Nat) (Z : Nat) (B : Option Addr) (cap : Nat) (out : List Shr), a = { tmps := #[.agg #[.int .i64 r.e, .int .i64 r.k, .slice A1 n1 c1, .slice A2 n2 c2], .slice A m c, .pointer (some ⟨w.heap.size, 0, none⟩), undef, .slice none 0 0, .pointer (some ⟨w1.heap.size, 0, none⟩), undef, u7, undef, .agg #[.int .i64 r.e, .int .i64 r.k, .slice A1 n1 c1, .slice A2 n2 c2], .bool true, .bool false, .pointer (some ⟨w.heap.size, 2, none⟩), .slice A1 n1 c1, .int .i64 n1, .int .i64 (i : Nat), u16, u17, u18, u19, u20, u21, u22, undef, undef, undef, undef, undef, undef, undef, undef, undef, undef, undef, u34, undef], defers := marks Ds } ∧ i ≤ n1 ∧ w1.heap.size ≤ Z ∧ out = firstsL r ls i ∧ (out.length : Int) < r.k ∧ CS w w1 #[.int .i64 r.e, .int .i64 r.k, .slice A1 n1 c1, .slice A2 n2 c2] Ds Z (.slice B out.length cap) out wr) (fun a _ => n1 - (intOf (a.tmps.getD 15 undef)).toNat) ?_ ?_
  · exact ⟨0, _, _, _, _, _, _, _, _, _, [], _, none, 0, [], rfl, by omega, Nat.le_succ _, rfl, by have := HK0.out; simp; omega, HCS0.out⟩
  · clear HCS0
    rintro _ wr ⟨i, u7, u16, u17, u18, u19, u20, u21, u22, u34, Ds, Z, B, cap, out, rfl, hi, hZ, hout, hlen, hcs⟩
    have Hcs := Lib.hid hcs
    have Hout := Lib.hid hout
    have Hlen := Lib.hid hlen
    have HZ := Lib.hid hZ
    clear hcs hout hlen hZ
    by_cases hlt : i < n1
    · have e1 : decide ((i : Int) < (n1 : Int)) = true := by simp; omega
      have hil : i < r.ns.length := by rw [← HNl.out]; exact hlt
      have hb01 := HW1.out.trans (Hcs.out.hb.mono HW1.out.size)
      obtain ⟨b0, off0, hbA, k0⟩ := texts_at (HN.out.below hb01) hil
      subst hbA
      have Hsn := Lib.hid (firsts_snoc (r := r) (ls := ls) hil)
      have Hpi := Lib.hid (show i + 1 ≤ r.ns.length from hil)
      generalize r.ns[i] = nm at k0 Hsn
      have q0 := rf_at Hcs.out.g0 0 _ rfl
      have q1 := rf_at Hcs.out.g0 1 _ rfl
      have q2 := rf_at Hcs.out.g0 2 _ rfl
      have q3 := rf_at Hcs.out.g0 3 _ rfl
      gi_wp2_with (refine ⟨trivial, ?_⟩; gi_at_call 32; refine (fitting_in _ _ _ _ _ _ _ _ _ _ _).mono ?_; rintro e w4 ⟨rfl, rfl⟩)
      have hn16 : n1 ≤ 16 := by have h1 := HN16.out; have h2 := HNl.out; omega
      have kA := al4' wr (.cells #[.int .i64 r.e, .int .i64 r.k, .slice (some ⟨b0, off0, none⟩) n1 c1, .slice A2 n2 c2] 26) (.cells #[.slice A m c] 40) (.cells #[.string nm] 9) (.cells #[.bool false] 4)
      obtain ⟨kR, kL, kN, kA, kb, ksz⟩ := kA
      clear q0 q1 q2 q3 k0
      obtain ⟨w4, hw4⟩ : ∃ w4, w4 = (((wr.alloc (.cells #[.int .i64 r.e, .int .i64 r.k, .slice (some ⟨b0, off0, none⟩) n1 c1, .slice A2 n2 c2] 26)).alloc (.cells #[.slice A m c] 40)).alloc (.cells #[.string nm] 9)).alloc (.cells #[.bool false] 4) := ⟨_, rfl⟩
      rw [← hw4] at kR kL kN kA kb ksz ⊢
      clear hw4
      have hZr : w1.heap.size ≤ wr.heap.size := Nat.le_trans HZ.out Hcs.out.hz
      have hcs4 := (Hcs.out.kept (gb_of_below kb none) HZ.out (fun r e => by cases e)).more (Z' := w4.heap.size) (Nat.le_trans Hcs.out.hz kb.size) (Nat.le_refl _)
      have HC4 := Lib.hid hcs4
      have hZ4 : w1.heap.size ≤ w4.heap.size := by omega
      clear hcs4
      refine wpIn_rangeFunc_ownH rfl (by omega) (gf := 61) (lb := #[.pointer (some ⟨wr.heap.size + 1, 0, none⟩), .pointer (some ⟨wr.heap.size + 1 + 1 + 1, 0, none⟩), .pointer (some ⟨wr.heap.size + 1 + 1, 0, none⟩), .pointer (some ⟨wr.heap.size, 0, none⟩)]) rfl trivial (enters_of Tryz.func61 (by kernel_rfl) rfl)
        (encs := fun x : FA r nm false => #[.agg #[.string x.1.nm, .string x.1.salt, .int .i64 x.1.x, .string x.1.b]]) (Kp := KpT w1.heap.size [wr.heap.size + 1, wr.heap.size + 1 + 1 + 1, wr.heap.size + 1 + 1, wr.heap.size]) (S := fun ys => ys = selS r nm false ls) (Sp := fun pre => pre <+: selS r nm false ls) (N := (selS r nm false ls).length) (w0 := w4)
        (fun l J Jx W hW hJ _ hY h0 => fitting1_in 3 (by omega) l _ _ _ _ w1.heap.size A m c ls nm false r _ _ _ _ w1 W rfl (HC4.out.hb.trans (hW.mono hZ4)) HV1.out HRd1.out HM.out hl HR1.out (cells_below kL hW) (cells_below kA hW) (cells_below kN hW) (cells_below kR hW) J Jx hJ hY h0)
        kpT_t (kpT_b hZ4 (by simp; omega)) (Below.refl _ _) (fun _ => rfl)
        (CI w w1 #[.int .i64 r.e, .int .i64 r.k, .slice (some ⟨b0, off0, none⟩) n1 c1, .slice A2 n2 c2] Ds w4.heap.size (.slice B out.length cap) out r nm) (CX w w1 #[.int .i64 r.e, .int .i64 r.k, .slice (some ⟨b0, off0, none⟩) n1 c1, .slice A2 n2 c2] Ds w4.heap.size out r.k r nm)
        (fun s X Y row h hg hr => ⟨h.hp, h.cs.kept hg hZ4 hr⟩) (fun cd s X Y row h hg hr => by obtain ⟨x, B', cap', t1, t2, t3⟩ := h.ex; exact ⟨⟨x, B', cap', t1, t2.kept hg hZ4 hr, t3⟩⟩)
        ⟨rfl, HC4.out⟩
        (fun x a' W => ∃ Bx, w1.heap.size ≤ Bx ∧ W.heap[Bx]? = some (.cells #[.string x.1.nm, .string x.1.salt, .int .i64 x.1.x, .string x.1.b] 45 (0, 0)) ∧ a' = { tmps := #[.agg #[.int .i64 r.e, .int .i64 r.k, .slice (some ⟨b0, off0, none⟩) n1 c1, .slice A2 n2 c2], .slice A m c, .pointer (some ⟨w.heap.size, 0, none⟩), undef, .slice none 0 0, .pointer (some ⟨w1.heap.size, 0, none⟩), undef, (.string nm), .pointer (some ⟨Bx, 0, none⟩), .agg #[.int .i64 r.e, .int .i64 r.k, .slice (some ⟨b0, off0, none⟩) n1 c1, .slice A2 n2 c2], .bool true, .bool false, .pointer (some ⟨w.heap.size, 2, none⟩), .slice (some ⟨b0, off0, none⟩) n1 c1, .int .i64 n1, .int .i64 (i : Nat), (.bool true), .pointer (some ⟨b0, off0 + i, none⟩), (.string nm), (.agg #[.int .i64 r.e, .int .i64 r.k, .slice (some ⟨b0, off0, none⟩) n1 c1, .slice A2 n2 c2]), (.slice A m c), (.string nm), (.func (.func 61) #[] #[.pointer (some ⟨wr.heap.size + 1, 0, none⟩), .pointer (some ⟨wr.heap.size + 1 + 1 + 1, 0, none⟩), .pointer (some ⟨wr.heap.size + 1 + 1, 0, none⟩), .pointer (some ⟨wr.heap.size, 0, none⟩)]), (.agg #[.string x.1.nm, .string x.1.salt, .int .i64 x.1.x, .string x.1.b]), undef, undef, undef, undef, undef, undef, undef, undef, undef, undef, u34, undef], defers := [] })
        (fun x a' _ X Y row hs hg hr => by obtain ⟨Bx, t0, t1, t2⟩ := hs; exact ⟨Bx, t0, rf_c t1 hg (fun r e => (hr r e).2), t2⟩)
        ?assign ?body ?done ?stop
      case assign =>
        rintro l pre x W K hI hK
        have al := (Below.refl W.heap.size W).alloc (Nat.le_refl _) (.cells #[.string x.1.nm, .string x.1.salt, .int .i64 x.1.x, .string x.1.b] 45)
        have hn := heap_alloc_new W (.cells #[.string x.1.nm, .string x.1.salt, .int .i64 x.1.x, .string x.1.b] 45)
        have hz := hI.cs.hz
        gi_wp2
        refine hK _ _ ((KeepsOthers.alloc _ _).from _) ⟨(Below.refl _ W).alloc (by omega) _, keepB_below (by simp; omega) al⟩ ⟨hI.hp, hI.cs.kept (gb_of_below al none) hZ4 (fun r e => by cases e)⟩ ⟨W.heap.size, by omega, hn, rfl⟩
      case body =>
        rintro l pre x a' W hl' ⟨r', hr'⟩ ⟨rfl, cs⟩ ⟨Bx, hBx, bX, rfl⟩ hlt'
        obtain ⟨⟨xn, xs, xx, xb⟩, hxt⟩ := x
        simp only at bX
        have y2 := rf_at bX 2 _ rfl
        have y3 := rf_at bX 3 _ rfl
        have q5 := cs.gG.cell
        have Cs := Lib.hid cs
        have Hkw := Lib.hid (show w1.heap.size ≤ W.heap.size by have := cs.hz; omega)
        have Hx1 := Lib.hid (fun (W2 : World) (h2 : Below w1.heap.size W W2) => rf_at ((h2.block w.heap.size hw1lt).trans cs.g0) 1 _ rfl)
        have HolI := Lib.hid Hlen.out
        have hol : out.length ≤ 16 := by
          have h1 : out.length = (firstsL r ls i).length := by rw [← Hout.out]
          have h2 := List.length_filterMap_le (firstF r ls) (r.ns.take i)
          have h3 := HN16.out
          rw [List.length_take] at h2
          unfold firstsL at h1
          omega
        have Hmk := Lib.hid (fun (W2 : World) (B2 : Option Addr) (cap2 : Nat) (hg : Boxed W2 w1.heap.size 27 (.slice B2 (out.length + 1) cap2)) (hw : W2.ownsRow w1.heap.size 43 2 (.slice B2 (out.length + 1) cap2) (out.length + 1) (sharesV out ++ [.int .i64 xx, .string xb])) (hk : KeepsOthers W W2) (hb : Below w1.heap.size W W2) =>
          (⟨(hb.block w.heap.size hw1lt).trans cs.g0, hg, by rw [sharesV_snoc, List.length_append]; exact hw, cs.hb.trans hb, cs.nd, fun D hD => ⟨(cs.md D hD).1, (cs.md D hD).2.1, hk.same D _ (cs.md D hD).2.2 rfl⟩, Nat.le_trans cs.hz hb.size⟩ : CS w w1 #[.int .i64 r.e, .int .i64 r.k, .slice (some ⟨b0, off0, none⟩) n1 c1, .slice A2 n2 c2] Ds w4.heap.size (.slice B2 (out.length + 1) cap2) (out ++ [(xx, xb)]) W2))
        clear cs bX hr' hl'
        by_cases hKk : (out.length : Int) + 1 = r.k
        · have d1 : ((out.length : Int) + 1 == r.k) = true := by simpa using hKk
          have HKk := Lib.hid hKk
          clear hKk
          gi_wp2_with (gi_at_builtin; refine wpListIn_append_own _ rfl (.tmp 24) (.tmp 27) 27 rfl w1.heap.size 43 iS (.agg #[.int .i64 0, .string ⟨#[]⟩]) 2 24 Tryz.underlying27 hS0 hS1 hS2 hS3 rfl (by decide) (.slice B out.length cap) out.length (sharesV out) rfl (Cs.out.ow.alloc _) ⟨W.heap.size, 0, none⟩ 1 1 [.int .i64 xx, .string xb] rfl rfl (two_newA _ _ _ _) (by simp [Value.oneCell']) (by unfold maxLen; omega) (by omega) (by have := Hkw.out; simp; omega) ?_; intro v' w5 hown' hgrow _; obtain ⟨g', cap', rfl⟩ := ownsRow_succ hown'; obtain ⟨hv1, hv2, hr2, hk2, hb2⟩ := Boxed.appended Cs.out.gG (by decide) Cs.out.ow Hkw.out (Nat.le_refl _) hown' hgrow; have hc1 := hv1.cell; have hf1 := hv1.frozen; have x1 := Hx1.out _ hb2)
          have Hfin := Lib.hid (Hmk.out _ _ _ hv2 hr2 hk2 hb2)
          refine ⟨hk2.from _, ⟨⟨⟨⟨xn, xs, xx, xb⟩, hxt⟩, _, _, rfl, Hfin.out, .inl ⟨rfl, HKk.out⟩⟩⟩⟩
        · have d1 : ((out.length : Int) + 1 == r.k) = false := by simpa using hKk
          have HKk := Lib.hid hKk
          clear hKk
          gi_wp2_with (gi_at_builtin; refine wpListIn_append_own _ rfl (.tmp 24) (.tmp 27) 27 rfl w1.heap.size 43 iS (.agg #[.int .i64 0, .string ⟨#[]⟩]) 2 24 Tryz.underlying27 hS0 hS1 hS2 hS3 rfl (by decide) (.slice B out.length cap) out.length (sharesV out) rfl (Cs.out.ow.alloc _) ⟨W.heap.size, 0, none⟩ 1 1 [.int .i64 xx, .string xb] rfl rfl (two_newA _ _ _ _) (by simp [Value.oneCell']) (by unfold maxLen; omega) (by omega) (by have := Hkw.out; simp; omega) ?_; intro v' w5 hown' hgrow _; obtain ⟨g', cap', rfl⟩ := ownsRow_succ hown'; obtain ⟨hv1, hv2, hr2, hk2, hb2⟩ := Boxed.appended Cs.out.gG (by decide) Cs.out.ow Hkw.out (Nat.le_refl _) hown' hgrow; have hc1 := hv1.cell; have hf1 := hv1.frozen; have x1 := Hx1.out _ hb2)
          have Hfin := Lib.hid (Hmk.out _ _ _ hv2 hr2 hk2 hb2)
          refine ⟨hk2.from _, ⟨⟨⟨⟨xn, xs, xx, xb⟩, hxt⟩, _, _, rfl, Hfin.out, .inr ⟨rfl, HKk.out⟩⟩⟩⟩
      case done =>
        rintro D ys W hD hys ⟨rfl, cs⟩ hK
        have hfn := sel_none hys.symm
        have Hnx := Lib.hid (show out = firstsL r ls (i + 1) by rw [Hsn.out, hfn, Option.toList_none, List.append_nil]; exact Hout.out)
        have Hcm := Lib.hid (cs.mark hZ4 hD hK)
        have hWz : w1.heap.size ≤ W.heap.size := Nat.le_trans hZ4 cs.hz
        clear cs hfn hys hK
        gi_wp2
        exact ⟨⟨i + 1, _, _, _, _, _, _, _, _, _, D :: Ds, W.heap.size, B, cap, out, rfl, by omega, hWz, Hnx.out, Hlen.out, Hcm.out⟩, by simp [intOf]; omega⟩
      case stop =>
        rintro D cd pre W hD hpre hX hK
        obtain ⟨x, B', cap', rfl, cs, hcd⟩ := hX.ex
        have hfs := sel_some hpre
        have Hnx := Lib.hid (show out ++ [(x.1.x, x.1.b)] = firstsL r ls (i + 1) by rw [Hsn.out, hfs, Option.toList_some, ← Hout.out])
        have hl2 : (out ++ [(x.1.x, x.1.b)]).length = out.length + 1 := by rw [List.length_append]; rfl
        rw [← hl2] at cs
        have Hcm := Lib.hid (cs.mark hZ4 hD hK)
        have hWz : w1.heap.size ≤ W.heap.size := Nat.le_trans hZ4 cs.hz
        have q5 := cs.gG.cell
        clear cs hfs hpre hK hX
        rcases hcd with ⟨rfl, hKk⟩ | ⟨rfl, hKk⟩
        · have HKk := Lib.hid hKk
          clear hKk
          have HFull := Lib.hid (show (firstsL r ls r.ns.length).take r.k.toNat = out ++ [(x.1.x, x.1.b)] by rw [Hnx.out]; exact firsts_full Hpi.out (by rw [← Hnx.out, hl2]; have := HKk.out; omega))
          gi_wp2
          rw [HFull.out]
          exact chosen_end Hcm.out HW1.out _ (by rw [hl2]; rfl)
        · have HKk := Lib.hid hKk
          clear hKk
          gi_wp2
          exact ⟨⟨i + 1, _, _, _, _, _, _, _, _, _, D :: Ds, W.heap.size, _, _, _, rfl, by omega, hWz, Hnx.out, by rw [hl2]; have h1 := Hlen.out; have h2 := HKk.out; omega, Hcm.out⟩, by simp [intOf]; omega⟩
    · obtain rfl : i = n1 := by omega
      have e1 : decide ((i : Int) < (i : Int)) = false := by simp
      have q5 := Hcs.out.gG.cell
      have HFull := Lib.hid (show (firstsL r ls r.ns.length).take r.k.toNat = out by rw [Hout.out, ← HNl.out, List.take_of_length_le (by have h1 := Hlen.out; rw [Hout.out] at h1; omega)])
      gi_wp2
      rw [HFull.out]
      exact chosen_end Hcs.out HW1.out _ rfl

end Go.Proofs.YtkbjmmigjjdfpaaGreatDoor
