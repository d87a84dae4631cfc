/-
  Contract of change.Spread. Contract of change.Spread: the phases.
  Contracts of the law's starts and few. The document's rows of change, plainly. Contract of the law's changes: the document's rows hold. A Spread stopped and crashed, plainly: the law of ChangeWhole.
-/
import Derived.Test.YtkbjmmigjjdfpaaGreatDoorCp
import Derived.Test.YtkbjmmigjjdfpaaGreatDoorCt
import Derived.Deep.LoopGhost
import Derived.Test.YtkbjmmigjjdfpaaGreatDoorCs
import Derived.Test.YtkbjmmigjjdfpaaGreatDoorHr
namespace Go.Proofs.YtkbjmmigjjdfpaaGreatDoor
/- Cy -/
/- ChW -/
open Go.RowKit
set_option linter.unusedVariables false
set_option linter.unusedSimpArgs false
set_option maxRecDepth 100000
set_option maxHeartbeats 16000000

def SpreadR (w : World) (r : List Plat × Bool × Int) (E : Ending) (w' : World) : Prop := ∃ A n cap l', E = .returned (.tuple #[.slice A n cap, .bool r.2.1, .int .i64 r.2.2]) ∧ n = l'.length ∧ plats l' = r.1 ∧ RdD w' A l' ∧ Below w.heap.size w w' ∧ OwnD w' w.heap.size A n cap l'
theorem SpreadR.no (w w' : World) (x : Int) (h : Below w.heap.size w w') : SpreadR w ([], false, x) (.returned (.tuple #[.slice none 0 0, .bool false, .int .i64 x])) w' := ⟨none, 0, 0, [], rfl, rfl, rfl, RdD.nil _ _, h, OwnD.nil _ _⟩
theorem right_parts {D : Deal} (h : rightD D = true) : checkR D.r = true ∧ D.sh.length = D.r.ns.length ∧ D.sa.length = D.r.ns.length ∧ ∀ i, i < D.r.ns.length → (giftD D i).b.size ≤ maxLen ∧ (giftD D i).salt.size ≤ maxLen := by
  rw [rightD_def] at h
  simp only [Bool.and_eq_true, decide_eq_true_eq, List.all_eq_true] at h
  obtain ⟨⟨⟨h1, h2⟩, h3⟩, h4⟩ := h
  refine ⟨h1, h2, h3, fun i hi => ?_⟩
  have := h4 i (List.mem_range.2 hi)
  unfold dOK checkP at this
  simp only [Bool.and_eq_true, decide_eq_true_eq] at this
  have hf := bright_fit this.2.1
  unfold maxLen giftD
  simp only
  have e1 := hf.2.2.1
  have e2 := hf.2.2.2
  omega
theorem keep7_below {W w' : World} {p q r s a b c : Addr} {u v x y u2 v2 x2 : Value} (h : ((W.cell? p = some u ∧ W.cell? q = some v) ∧ (W.cell? r = some x ∧ W.cell? s = some y)) ∧ (W.cell? a = some u2 ∧ W.cell? b = some v2) ∧ W.cell? c = some x2) (hb : Below W.heap.size W w') :
    ((w'.cell? p = some u ∧ w'.cell? q = some v) ∧ (w'.cell? r = some x ∧ w'.cell? s = some y)) ∧ (w'.cell? a = some u2 ∧ w'.cell? b = some v2) ∧ w'.cell? c = some x2 :=
  ⟨keep4_below h.1 hb, keep2_below h.2.1 hb, (hb.cell (cell_lt h.2.2)).trans h.2.2⟩
theorem keep7_alloc {W : World} {o : Obj} {p q r s a b c : Addr} {u v x y u2 v2 x2 : Value} (h : ((W.cell? p = some u ∧ W.cell? q = some v) ∧ (W.cell? r = some x ∧ W.cell? s = some y)) ∧ (W.cell? a = some u2 ∧ W.cell? b = some v2) ∧ W.cell? c = some x2) :
    (((W.alloc o).cell? p = some u ∧ (W.alloc o).cell? q = some v) ∧ ((W.alloc o).cell? r = some x ∧ (W.alloc o).cell? s = some y)) ∧ ((W.alloc o).cell? a = some u2 ∧ (W.alloc o).cell? b = some v2) ∧ (W.alloc o).cell? c = some x2 :=
  keep7_below h ((Below.refl _ _).alloc (Nat.le_refl _) _)
theorem spread_head (A : Option Addr) (n c : Nat) (l : List Dk) (v : Value) (D : Deal) (deeds : Int) (w : World) (hn : n = l.length) (hn9 : n ≤ 100000) (hv : DV w v D) (hR : Rounds w) (hno : ¬ (rightD D = true ∧ n = D.r.ns.length)) :
    Calls Tryz.prog 10 #[.slice A n c, v, .int .i64 deeds] w (SpreadR w (spreadC D (plats l) deeds)) := by
  have hSp : spreadC D (plats l) deeds = ([], false, 1) := by unfold spreadC; rw [if_neg (by rw [plats_len, ← hn]; exact hno)]
  rw [hSp]
  obtain ⟨aA, an, ac, aB, am, ad, aC, ap, aq, aE, es, et, rfl, h1, h2, h3, h4, h5, h6, h7, h8⟩ := hv
  have hb0 := (Below.refl w.heap.size w).alloc (Nat.le_refl _) (.cells #[.int .i64 D.r.e, .int .i64 D.r.k, .slice aA an ac, .slice aB am ad, .string D.sec, .slice aC ap aq, .slice aE es et] 29)
  have hX := heap_alloc_new w (.cells #[.int .i64 D.r.e, .int .i64 D.r.k, .slice aA an ac, .slice aB am ad, .string D.sec, .slice aC ap aq, .slice aE es et] 29)
  have HCh := Lib.hid (rcheck_any (.agg #[.int .i64 D.r.e, .int .i64 D.r.k, .slice aA an ac, .slice aB am ad, .string D.sec, .slice aC ap aq, .slice aE es et]) D _ ⟨aA, an, ac, aB, am, ad, aC, ap, aq, aE, es, et, rfl, h1.below hb0, h2, h3.below hb0, h4, h5.below hb0, h6, h7.below hb0, h8⟩ (hR.below hb0))
  have HX := Lib.hid hX
  have HB := Lib.hid hb0
  have HL := Lib.hid h2
  clear h1 h2 h3 h4 h5 h6 h7 h8 hX hb0 hR hSp hn hn9
  cases hck : rightD D with
  | false =>
    rw [hck] at HCh
    clear hck hno
    go_enter Tryz.func10, Tryz.ntmps10
    go_wp2_with fail
    go_step3
    go_wp2_with fail
    refine HCh.out.mono ?_
    rintro e w1 ⟨rfl, hb⟩
    replace HB := Lib.hid (HB.out.trans (hb.mono HB.out.size))
    obtain ⟨⟨z0, z1, z2, z3, z4, z5, z6⟩, zf⟩ := seven_cells (hblk_below HX hb).out
    clear hb zf
    go_wp2_with fail
    try rw [Exit.noGoto_ret]
    go_ret3
    exact SpreadR.no _ _ _ HB.out
  | true =>
    have hne : n ≠ an := fun e => hno ⟨hck, by rw [e]; exact HL.out⟩
    have d1 : ((n : Int) != (an : Int)) = true := by simp; omega
    rw [hck] at HCh
    clear hck hno hne
    go_enter Tryz.func10, Tryz.ntmps10
    go_wp2_with fail
    go_step3
    go_wp2_with fail
    refine HCh.out.mono ?_
    rintro e w1 ⟨rfl, hb⟩
    replace HB := Lib.hid (HB.out.trans (hb.mono HB.out.size))
    obtain ⟨⟨z0, z1, z2, z3, z4, z5, z6⟩, zf⟩ := seven_cells (hblk_below HX hb).out
    clear hb zf
    go_wp2_with fail
    try rw [Exit.noGoto_ret]
    go_ret3
    exact SpreadR.no _ _ _ HB.out

/- ChW2 -/
open Go.RowKit
set_option linter.unusedVariables false
set_option linter.unusedSimpArgs false
set_option maxRecDepth 100000
set_option maxHeartbeats 32000000

theorem own_le {w : World} {B B' : Nat} {e : TypeId} {size : Nat} {v : Value} {n : Nat} {xs : List Value} (h : w.ownsRow B' e size v n xs) (hB : B ≤ B') : w.ownsRow B e size v n xs := by
  refine ⟨h.1, ?_⟩
  rcases h.2 with h2 | ⟨g, cap, cur, hv, hg, r⟩
  · exact .inl h2
  · exact .inr ⟨g, cap, cur, hv, Nat.le_trans hB hg, r⟩
theorem spread_yes (A : Option Addr) (n c : Nat) (l : List Dk) (v : Value) (D : Deal) (deeds : Int) (w : World) (h : RdD w A l) (hn : n = l.length) (hl : ∀ x ∈ l, x.n ≤ 1000000 ∧ x.m ≤ 1000000) (hv : DV w v D) (hR : Rounds w) (hck : rightD D = true) (hnn : n = D.r.ns.length) :
    Calls Tryz.prog 10 #[.slice A n c, v, .int .i64 deeds] w (SpreadR w (spreadL (giftD D) (plats l) deeds)) := by
  have hmf : ∀ (fn : Fn) (first cap : Array Value) (w : World), (Instr.makeFunc fn first cap).run Tryz.prog w = .ok (.func fn first cap) w := fun _ _ _ _ => rfl
  obtain ⟨k1, k2, k3, k4⟩ := right_parts hck
  have hn16 : n ≤ 16 := by rw [hnn]; exact (check_head k1).2.2.2.1
  have hn0 : 1 ≤ n := by rw [hnn]; exact (check_head k1).2.2.1
  obtain ⟨aA, an, ac, aB, am, ad, aC, ap, aq, aE, es, et, rfl, h1, h2, h3, h4, h5, h6, h7, h8⟩ := hv
  have hb0 := (Below.refl w.heap.size w).alloc (Nat.le_refl _) (.cells #[.int .i64 D.r.e, .int .i64 D.r.k, .slice aA an ac, .slice aB am ad, .string D.sec, .slice aC ap aq, .slice aE es et] 29)
  have hX := heap_alloc_new w (.cells #[.int .i64 D.r.e, .int .i64 D.r.k, .slice aA an ac, .slice aB am ad, .string D.sec, .slice aC ap aq, .slice aE es et] 29)
  have HCh := rcheck_any (.agg #[.int .i64 D.r.e, .int .i64 D.r.k, .slice aA an ac, .slice aB am ad, .string D.sec, .slice aC ap aq, .slice aE es et]) D _ ⟨aA, an, ac, aB, am, ad, aC, ap, aq, aE, es, et, rfl, h1.below hb0, h2, h3.below hb0, h4, h5.below hb0, h6, h7.below hb0, h8⟩ (hR.below hb0)
  rw [hck] at HCh
  replace HCh := Lib.hid HCh
  have HX := Lib.hid hX
  have HB := Lib.hid hb0
  have HSh := Lib.hid h5
  have HSa := Lib.hid h7
  have HLn := Lib.hid (And.intro h6 h8)
  have HK := Lib.hid (And.intro k2 (And.intro k3 k4))
  have HD := Lib.hid h
  have HN := Lib.hid hn
  have HNn := Lib.hid hnn
  have HCp := Lib.hid (fun W (hW : RdD W A l) => copies_any A n c l W hW hn (by omega) hl)
  obtain rfl : n = an := by rw [hnn, h2]
  clear h h1 h2 h3 h4 h5 h6 h7 h8 hX hb0 hR hn hl hck hnn k1 k2 k3 k4
  have d1 : ((n : Int) != (n : Int)) = false := by simp
  obtain ⟨d0, hd0⟩ : ∃ d0, d0 = allD n deeds := ⟨_, rfl⟩
  have hcase : (decide (deeds < 0) = true ∧ d0 = 20 * (n : Int)) ∨ (decide (deeds < 0) = false ∧ decide (deeds > 20 * (n : Int)) = true ∧ d0 = 20 * (n : Int)) ∨ (decide (deeds < 0) = false ∧ decide (deeds > 20 * (n : Int)) = false ∧ d0 = deeds) := by
    unfold allD at hd0
    by_cases q1 : deeds < 0
    · exact .inl ⟨decide_eq_true q1, by rw [hd0, if_pos (.inl q1)]⟩
    · by_cases q2 : deeds > 20 * (n : Int)
      · exact .inr (.inl ⟨decide_eq_false q1, decide_eq_true q2, by rw [hd0, if_pos (.inr q2)]⟩)
      · exact .inr (.inr ⟨decide_eq_false q1, decide_eq_false q2, by rw [hd0, if_neg (by omega)]⟩)
  have HD0 := Lib.hid hd0
  clear hd0
  rcases hcase with ⟨c1, e1⟩ | ⟨c1, c2, e1⟩ | ⟨c1, c2, e1⟩
  all_goals
    have HE1 := Lib.hid e1
    clear e1
    go_enter Tryz.func10, Tryz.ntmps10
    go_wp2_with fail
    go_step3
    go_wp2_with fail
    refine HCh.out.mono ?_
    rintro e w1 ⟨rfl, hb⟩
    replace HB := Lib.hid (HB.out.trans (hb.mono HB.out.size))
    replace HX := hblk_below HX hb
    obtain ⟨⟨z0, z1, z2, z3, z4, z5, z6⟩, zf⟩ := seven_cells HX.out
    clear hb zf HCh
    go_wp2_with fail
    have z := And.intro (And.intro (And.intro z0 z1) (And.intro z2 z3)) (And.intro (And.intro z4 z5) z6)
    clear z0 z1 z2 z3 z4 z5 z6
    have hwB : Below w.heap.size w w1.drew := HB.out.drew
    have HwB := Lib.hid hwB
    clear hwB
    go_region_held3 (fun w' => ((w'.cell? ⟨w.heap.size, 0, none⟩ = some (.int .i64 D.r.e) ∧ w'.cell? ⟨w.heap.size, 1, none⟩ = some (.int .i64 D.r.k)) ∧ (w'.cell? ⟨w.heap.size, 2, none⟩ = some (.slice aA n ac) ∧ w'.cell? ⟨w.heap.size, 3, none⟩ = some (.slice aB am ad))) ∧ (w'.cell? ⟨w.heap.size, 4, none⟩ = some (.string D.sec) ∧ w'.cell? ⟨w.heap.size, 5, none⟩ = some (.slice aC ap aq)) ∧ w'.cell? ⟨w.heap.size, 6, none⟩ = some (.slice aE es et))
      (first | with_reducible assumption | exact z | exact keep7_alloc (by assumption) | exact keep7_below z hb3)
      (first
        | (go_at_call 22; refine Calls.mono (HCp.out _ (HD.out.below HwB.out)) ?_; rintro _ w2 ⟨l2, rfl, hpl, ho, hb2⟩; have hb3 := Below.chain ((Below.refl w1.heap.size w1).drew) hb2))
    rename_i hheld
    clear hheld hb2
    have hsz1 : w.heap.size ≤ w1.heap.size := HB.out.size
    have HB2 := Lib.hid (HB.out.trans (hb3.mono hsz1))
    have HSp : Hid (Spr w.heap.size w2.heap.size w1.heap.size n n l2 D ⟨aA, n, ac, aB, am, ad, aC, ap, aq, aE, es, et⟩ (w2.alloc (.cells #[.slice (some ⟨w1.heap.size, 0, none⟩) n n, .int .i64 D.r.e, .int .i64 D.r.k, .slice aA n ac, .slice aB am ad, .string D.sec, .slice aC ap aq, .slice aE es et] 61))) := Lib.hid (by
      have al := (Below.refl w2.heap.size w2).alloc (Nat.le_refl _) (.cells #[.slice (some ⟨w1.heap.size, 0, none⟩) n n, .int .i64 D.r.e, .int .i64 D.r.k, .slice aA n ac, .slice aB am ad, .string D.sec, .slice aC ap aq, .slice aE es et] 61)
      have ho' : OwnD w2 w.heap.size (some ⟨w1.heap.size, 0, none⟩) n n l2 := ⟨ho.hn, own_le ho.os hsz1, ho.sl, ho.ok⟩
      exact ⟨heap_alloc_new _ _, ho'.below al, (HSh.out.below HB2.out).below al, (HSa.out.below HB2.out).below al, HLn.out.1, HLn.out.2⟩)
    have HB3 := Lib.hid (HB2.out.alloc HB2.out.size (.cells #[.slice (some ⟨w1.heap.size, 0, none⟩) n n, .int .i64 D.r.e, .int .i64 D.r.k, .slice aA n ac, .slice aB am ad, .string D.sec, .slice aC ap aq, .slice aE es et] 61))
    have Hpl := Lib.hid hpl
    obtain ⟨u, hu⟩ : ∃ u, u = w2.alloc (.cells #[.slice (some ⟨w1.heap.size, 0, none⟩) n n, .int .i64 D.r.e, .int .i64 D.r.k, .slice aA n ac, .slice aB am ad, .string D.sec, .slice aC ap aq, .slice aE es et] 61) := ⟨_, rfl⟩
    rw [← hu] at HSp HB3 ⊢
    clear hu hpl ho hb3 z HwB HB2 HB HX HCp
    generalize w1.heap.size = g at *
    generalize w2.heap.size = S at *
    clear hsz1
    go_wp2_with fail
    go_step3
    go_wp2_with fail
    have HPb := Lib.hid (heap_alloc_new u (.cells #[.func (.func 23) #[.pointer (some ⟨S, 0, none⟩)] #[], .int .i64 4, .func (.func 24) #[.pointer (some ⟨S, 0, none⟩)] #[], .int .i64 16] 64))
    have hba := (Below.refl u.heap.size u).alloc (Nat.le_refl _) (.cells #[.func (.func 23) #[.pointer (some ⟨S, 0, none⟩)] #[], .int .i64 4, .func (.func 24) #[.pointer (some ⟨S, 0, none⟩)] #[], .int .i64 16] 64)
    have HSp2 := Lib.hid (HSp.out.below hba)
    have HB4 := Lib.hid (HB3.out.trans (hba.mono HB3.out.size))
    have Hst : Hid (SpSt (giftD D) (plats l) deeds 0 (plats l2) d0) := Lib.hid ⟨Hpl.out, by rw [HD0.out, plats_len, ← HN.out]⟩
    clear hba HSp HB3
    generalize u.heap.size = Pb at *
    go_loopg [2, 11, 52] 2 (fun gh s2 s11 s52 wx => ∃ (k : Nat) (d : Int) (lk : List Dk), ((k = 0 ∧ s52 = .int .i64 0 ∧ gh = 2) ∨ (k = 1 ∧ s52 = .int .i64 1 ∧ gh = 1) ∨ (k = 2 ∧ s52 = .int .i64 2 ∧ gh = 0)) ∧ s2 = .int .i64 d ∧ s11 = .bool true ∧ SpSt (giftD D) (plats l) deeds k (plats lk) d ∧
      Spr w.heap.size S g n n lk D ⟨aA, n, ac, aB, am, ad, aC, ap, aq, aE, es, et⟩ wx ∧ wx.heap[Pb]? = some (.cells #[.func (.func 23) #[.pointer (some ⟨S, 0, none⟩)] #[], .int .i64 4, .func (.func 24) #[.pointer (some ⟨S, 0, none⟩)] #[], .int .i64 16] 64 (0, 0)) ∧ Below w.heap.size w wx)
    case atStart => exact ⟨0, d0, l2, .inl ⟨rfl, rfl, rfl⟩, by rw [HE1.out], rfl, Hst.out, HSp2.out, HPb.out, HB4.out⟩
    case round =>
      obtain ⟨k, d, lk, hk, rfl, rfl, hst, hsp, hpb, hB⟩ := hrel
      have HSt := Lib.hid hst
      have HSpk := Lib.hid hsp
      have HPbk := Lib.hid hpb
      have HBk := Lib.hid hB
      clear hst hsp hpb hB Hst HSp2 HPb HB4 Hpl
      rcases hk with ⟨rfl, rfl, rfl⟩ | ⟨rfl, rfl, rfl⟩ | ⟨rfl, rfl, rfl⟩
      · --P0
        have q0 := cell_in HPbk.out 0 _ rfl
        have q1 := cell_in HPbk.out 1 _ rfl
        go_upto_region 11 with fail
        have al := (Below.refl wr.heap.size wr).alloc (Nat.le_refl _) (.cells #[.func (.func 23) #[.pointer (some ⟨S, 0, none⟩)] #[], .int .i64 4] 64)
        have HQ3 := Lib.hid (heap_alloc_new wr (.cells #[.func (.func 23) #[.pointer (some ⟨S, 0, none⟩)] #[], .int .i64 4] 64))
        have HSp3 := Lib.hid (HSpk.out.below al)
        have HPb3 := hblk_below HPbk al
        have HB3 := Lib.hid (HBk.out.trans (al.mono HBk.out.size))
        have hQw := HBk.out.size
        obtain ⟨w3, hw3⟩ : ∃ w3, w3 = wr.alloc (.cells #[.func (.func 23) #[.pointer (some ⟨S, 0, none⟩)] #[], .int .i64 4] 64) := ⟨_, rfl⟩
        rw [← hw3] at HQ3 HSp3 HPb3 HB3 ⊢
        clear hw3 al q0 q1 HSpk HPbk HBk
        generalize wr.heap.size = Q at *
        clear hQw
        have s0 := cell_in HSp3.out.blk 0 _ rfl
        go_wp2_with fail
        clear s0
        go_loopg [2, 11, 61] n (fun g2 s2 s11 s61 wy => ∃ (j : Nat) (d' : Int) (lj : List Dk), j + g2 = n ∧ s61 = .int .i64 (j : Nat) ∧ s2 = .int .i64 d' ∧ s11 = .bool true ∧ phN (prepF (giftD D)) 4 (plats lk) d j = (plats lj, d', 0) ∧
          Spr w.heap.size S g n n lj D ⟨aA, n, ac, aB, am, ad, aC, ap, aq, aE, es, et⟩ wy ∧ wy.heap[Pb]? = some (.cells #[.func (.func 23) #[.pointer (some ⟨S, 0, none⟩)] #[], .int .i64 4, .func (.func 24) #[.pointer (some ⟨S, 0, none⟩)] #[], .int .i64 16] 64 (0, 0)) ∧ wy.heap[Q]? = some (.cells #[.func (.func 23) #[.pointer (some ⟨S, 0, none⟩)] #[], .int .i64 4] 64 (0, 0)) ∧ Below w.heap.size w wy)
        case atStart => exact ⟨0, d, lk, by omega, rfl, rfl, rfl, rfl, HSp3.out, HPb3.out, HQ3.out, HB3.out⟩
        case round =>
          obtain ⟨j, d', lj, hj, rfl, rfl, rfl, hph, hsp, hpb, hq, hB⟩ := hrel
          have HSpj := Lib.hid hsp
          have HPbj := Lib.hid hpb
          have HQj := Lib.hid hq
          have HBj := Lib.hid hB
          have hln : (plats l).length = n := by rw [plats_len, ← HN.out]
          have hlk : (plats lk).length = n := HSt.out.len.trans hln
          have HPh := Lib.hid hph
          have hdb : -512 ≤ d' ∧ d' ≤ 320 := by
            have h1 := HSt.out.d (by omega) (by omega)
            have h2 := phN_d (f := prepF (giftD D)) (c := 4) (by omega) (by omega) (plats lk) d j
            rw [hph] at h2
            simp only at h2
            omega
          have Hln := Lib.hid (And.intro hln hlk)
          clear hsp hpb hq hB HSp3 HPb3 HQ3 HB3 hln hlk hph
          cases gk with
          | zero =>
            obtain rfl : j = n := by omega
            have e9 : ¬ (j : Int) < (j : Int) := by omega
            have Hnx := Lib.hid ((HSt.out.next (by omega) (by rw [Hln.out.1]; exact HPh.out)).1 rfl)
            go_wp2_with fail
            go_roundg 1
            case measure => omega
            case rel => exact ⟨1, d', lj, .inr (.inl ⟨rfl, rfl, rfl⟩), rfl, rfl, Hnx.out, HSpj.out, HPbj.out, HBj.out⟩
          | succ g2 =>
            have e9 : (j : Int) < (n : Int) := by omega
            obtain ⟨t0, t1, _, _⟩ := two_cells HQj.out
            have HC : Hid (Calls Tryz.prog 23 #[.pointer (some ⟨S, 0, none⟩), .int .i64 (j : Nat), .int .i64 (min d' 4)] wr (StepR w.heap.size S g n n lj D ⟨aA, n, ac, aB, am, ad, aC, ap, aq, aE, es, et⟩ j wr (prepF (giftD D) j ((plats lj).getD j noPlat) (min d' 4)))) := Lib.hid (sprepare_any w.heap.size S g n n lj D ⟨aA, n, ac, aB, am, ad, aC, ap, aq, aE, es, et⟩ j (min d' 4) wr HSpj.out (by omega) HBj.out.size (by rw [HK.out.1]; exact HNn.out) (by rw [HK.out.2.1]; exact HNn.out) (HK.out.2.2 j (by rw [← HNn.out]; omega)).1 (HK.out.2.2 j (by rw [← HNn.out]; omega)).2)
            obtain ⟨r, hr⟩ : ∃ r, r = prepF (giftD D) j ((plats lj).getD j noPlat) (min d' 4) := ⟨_, rfl⟩
            rw [← hr] at HC
            have HGo := Lib.hid (phN_go HPh.out hr)
            clear hr
            obtain ⟨Q', ce⟩ := r
            have hgt := HSpj.out.own.os.lt g rfl
            have hPg : Pb ≠ g := fun e => own_far HPbj.out HSpj.out.own.os (by decide) (by rw [e]; rfl)
            have hQg : Q ≠ g := fun e => own_far HQj.out HSpj.out.own.os (by decide) (by rw [e]; rfl)
            go_wp2_with fail
            refine HC.out.mono ?_
            rintro e w5 ⟨rfl, l5, hs5, hp5, hg5⟩
            have HS5 := Lib.hid hs5
            have HPb5 := Lib.hid (gb_blk' hg5 HPbj.out hPg)
            have HQ5 := Lib.hid (gb_blk' hg5 HQj.out hQg)
            have HB5 := Lib.hid (HBj.out.trans (gb_by' hg5 hgt.1 HBj.out.size))
            have s0 := cell_in HS5.out.blk 0 _ rfl
            obtain ⟨t0, t1, _, _⟩ := two_cells HQ5.out
            have HPl5 := Lib.hid hp5
            clear hs5 hp5 hg5 HC
            by_cases hc0 : ce = 0
            · subst hc0
              have f1 : ((0 : Int) == 0) = true := rfl
              have HPh5 := Lib.hid (HGo.out.1 rfl)
              go_wp2_with fail
              go_roundg g2
              case measure => omega
              case rel => exact ⟨j + 1, d' - 4, l5, by omega, by go_num, rfl, rfl, by rw [HPh5.out, HPl5.out, if_pos (by simp)], HS5.out, HPb5.out, HQ5.out, HB5.out⟩
            have f1 : (ce == 0) = false := by simpa using hc0
            have hjn : j + 1 + g2 = n := by omega
            by_cases hc1 : ce = 230
            · subst hc1
              have f2 : ((230 : Int) == 230) = true := rfl
              have hph5 := HGo.out.2.1 rfl
              have hstop := phN_stop (f := prepF (giftD D)) (c := 4) (l := plats lk) (d := d) (j := j + 1) (by rw [hph5]; simp) g2
              rw [hjn, hph5] at hstop
              have HSp := Lib.hid ((HSt.out.next (by omega) (by rw [Hln.out.1]; exact hstop)).2.1 rfl)
              clear hph5 hstop hjn
              go_wp2_with fail
              try rw [Exit.noGoto_ret]
              go_ret3
              rw [HSp.out]
              exact ⟨_, _, _, l5, rfl, HS5.out.own.hn, by rw [HPl5.out, if_pos (by simp)], HS5.out.own.rd, HB5.out, HS5.out.own⟩
            · have f2 : (ce == 230) = false := by simpa using hc1
              have hph5 := HGo.out.2.2 hc0 hc1
              have hstop := phN_stop (f := prepF (giftD D)) (c := 4) (l := plats lk) (d := d) (j := j + 1) (by rw [hph5]; exact hc0) g2
              rw [hjn, hph5] at hstop
              have HSp := Lib.hid ((HSt.out.next (by omega) (by rw [Hln.out.1]; exact hstop)).2.2 hc0 hc1)
              clear hph5 hstop hjn
              go_wp2_with fail
              try rw [Exit.noGoto_ret]
              go_ret3
              rw [HSp.out]
              exact SpreadR.no _ _ _ HB5.out
        skip --E0
      · --P1
        have q0 := cell_in HPbk.out 2 _ rfl
        have q1 := cell_in HPbk.out 3 _ rfl
        go_upto_region 11 with fail
        have al := (Below.refl wr.heap.size wr).alloc (Nat.le_refl _) (.cells #[.func (.func 24) #[.pointer (some ⟨S, 0, none⟩)] #[], .int .i64 16] 64)
        have HQ3 := Lib.hid (heap_alloc_new wr (.cells #[.func (.func 24) #[.pointer (some ⟨S, 0, none⟩)] #[], .int .i64 16] 64))
        have HSp3 := Lib.hid (HSpk.out.below al)
        have HPb3 := hblk_below HPbk al
        have HB3 := Lib.hid (HBk.out.trans (al.mono HBk.out.size))
        have hQw := HBk.out.size
        obtain ⟨w3, hw3⟩ : ∃ w3, w3 = wr.alloc (.cells #[.func (.func 24) #[.pointer (some ⟨S, 0, none⟩)] #[], .int .i64 16] 64) := ⟨_, rfl⟩
        rw [← hw3] at HQ3 HSp3 HPb3 HB3 ⊢
        clear hw3 al q0 q1 HSpk HPbk HBk
        generalize wr.heap.size = Q at *
        clear hQw
        have s0 := cell_in HSp3.out.blk 0 _ rfl
        go_wp2_with fail
        clear s0
        go_loopg [2, 11, 61] n (fun g2 s2 s11 s61 wy => ∃ (j : Nat) (d' : Int) (lj : List Dk), j + g2 = n ∧ s61 = .int .i64 (j : Nat) ∧ s2 = .int .i64 d' ∧ s11 = .bool true ∧ phN (commF (giftD D)) 16 (plats lk) d j = (plats lj, d', 0) ∧
          Spr w.heap.size S g n n lj D ⟨aA, n, ac, aB, am, ad, aC, ap, aq, aE, es, et⟩ wy ∧ wy.heap[Pb]? = some (.cells #[.func (.func 23) #[.pointer (some ⟨S, 0, none⟩)] #[], .int .i64 4, .func (.func 24) #[.pointer (some ⟨S, 0, none⟩)] #[], .int .i64 16] 64 (0, 0)) ∧ wy.heap[Q]? = some (.cells #[.func (.func 24) #[.pointer (some ⟨S, 0, none⟩)] #[], .int .i64 16] 64 (0, 0)) ∧ Below w.heap.size w wy)
        case atStart => exact ⟨0, d, lk, by omega, rfl, rfl, rfl, rfl, HSp3.out, HPb3.out, HQ3.out, HB3.out⟩
        case round =>
          obtain ⟨j, d', lj, hj, rfl, rfl, rfl, hph, hsp, hpb, hq, hB⟩ := hrel
          have HSpj := Lib.hid hsp
          have HPbj := Lib.hid hpb
          have HQj := Lib.hid hq
          have HBj := Lib.hid hB
          have hln : (plats l).length = n := by rw [plats_len, ← HN.out]
          have hlk : (plats lk).length = n := HSt.out.len.trans hln
          have HPh := Lib.hid hph
          have hdb : -512 ≤ d' ∧ d' ≤ 320 := by
            have h1 := HSt.out.d (by omega) (by omega)
            have h2 := phN_d (f := commF (giftD D)) (c := 16) (by omega) (by omega) (plats lk) d j
            rw [hph] at h2
            simp only at h2
            omega
          have Hln := Lib.hid (And.intro hln hlk)
          clear hsp hpb hq hB HSp3 HPb3 HQ3 HB3 hln hlk hph
          cases gk with
          | zero =>
            obtain rfl : j = n := by omega
            have e9 : ¬ (j : Int) < (j : Int) := by omega
            have Hnx := Lib.hid ((HSt.out.next (by omega) (by rw [Hln.out.1]; exact HPh.out)).1 rfl)
            go_wp2_with fail
            go_roundg 0
            case measure => omega
            case rel => exact ⟨2, d', lj, .inr (.inr ⟨rfl, rfl, rfl⟩), rfl, rfl, Hnx.out, HSpj.out, HPbj.out, HBj.out⟩
          | succ g2 =>
            have e9 : (j : Int) < (n : Int) := by omega
            obtain ⟨t0, t1, _, _⟩ := two_cells HQj.out
            have HC : Hid (Calls Tryz.prog 24 #[.pointer (some ⟨S, 0, none⟩), .int .i64 (j : Nat), .int .i64 (min d' 16)] wr (StepR w.heap.size S g n n lj D ⟨aA, n, ac, aB, am, ad, aC, ap, aq, aE, es, et⟩ j wr (commF (giftD D) j ((plats lj).getD j noPlat) (min d' 16)))) := Lib.hid (scommit_any w.heap.size S g n n lj D ⟨aA, n, ac, aB, am, ad, aC, ap, aq, aE, es, et⟩ j (min d' 16) wr HSpj.out (by omega) HBj.out.size)
            obtain ⟨r, hr⟩ : ∃ r, r = commF (giftD D) j ((plats lj).getD j noPlat) (min d' 16) := ⟨_, rfl⟩
            rw [← hr] at HC
            have HGo := Lib.hid (phN_go HPh.out hr)
            clear hr
            obtain ⟨Q', ce⟩ := r
            have hgt := HSpj.out.own.os.lt g rfl
            have hPg : Pb ≠ g := fun e => own_far HPbj.out HSpj.out.own.os (by decide) (by rw [e]; rfl)
            have hQg : Q ≠ g := fun e => own_far HQj.out HSpj.out.own.os (by decide) (by rw [e]; rfl)
            go_wp2_with fail
            refine HC.out.mono ?_
            rintro e w5 ⟨rfl, l5, hs5, hp5, hg5⟩
            have HS5 := Lib.hid hs5
            have HPb5 := Lib.hid (gb_blk' hg5 HPbj.out hPg)
            have HQ5 := Lib.hid (gb_blk' hg5 HQj.out hQg)
            have HB5 := Lib.hid (HBj.out.trans (gb_by' hg5 hgt.1 HBj.out.size))
            have s0 := cell_in HS5.out.blk 0 _ rfl
            obtain ⟨t0, t1, _, _⟩ := two_cells HQ5.out
            have HPl5 := Lib.hid hp5
            clear hs5 hp5 hg5 HC
            by_cases hc0 : ce = 0
            · subst hc0
              have f1 : ((0 : Int) == 0) = true := rfl
              have HPh5 := Lib.hid (HGo.out.1 rfl)
              go_wp2_with fail
              go_roundg g2
              case measure => omega
              case rel => exact ⟨j + 1, d' - 16, l5, by omega, by go_num, rfl, rfl, by rw [HPh5.out, HPl5.out, if_pos (by simp)], HS5.out, HPb5.out, HQ5.out, HB5.out⟩
            have f1 : (ce == 0) = false := by simpa using hc0
            have hjn : j + 1 + g2 = n := by omega
            by_cases hc1 : ce = 230
            · subst hc1
              have f2 : ((230 : Int) == 230) = true := rfl
              have hph5 := HGo.out.2.1 rfl
              have hstop := phN_stop (f := commF (giftD D)) (c := 16) (l := plats lk) (d := d) (j := j + 1) (by rw [hph5]; simp) g2
              rw [hjn, hph5] at hstop
              have HSp := Lib.hid ((HSt.out.next (by omega) (by rw [Hln.out.1]; exact hstop)).2.1 rfl)
              clear hph5 hstop hjn
              go_wp2_with fail
              try rw [Exit.noGoto_ret]
              go_ret3
              rw [HSp.out]
              exact ⟨_, _, _, l5, rfl, HS5.out.own.hn, by rw [HPl5.out, if_pos (by simp)], HS5.out.own.rd, HB5.out, HS5.out.own⟩
            · have f2 : (ce == 230) = false := by simpa using hc1
              have hph5 := HGo.out.2.2 hc0 hc1
              have hstop := phN_stop (f := commF (giftD D)) (c := 16) (l := plats lk) (d := d) (j := j + 1) (by rw [hph5]; exact hc0) g2
              rw [hjn, hph5] at hstop
              have HSp := Lib.hid ((HSt.out.next (by omega) (by rw [Hln.out.1]; exact hstop)).2.2 hc0 hc1)
              clear hph5 hstop hjn
              go_wp2_with fail
              try rw [Exit.noGoto_ret]
              go_ret3
              rw [HSp.out]
              exact SpreadR.no _ _ _ HB5.out
        skip --E1
      · have s0 := cell_in HSpk.out.blk 0 _ rfl
        go_wp2_with fail
        try rw [Exit.noGoto_ret]
        go_ret3
        rw [HSt.out.done]
        exact ⟨_, _, _, lk, rfl, HSpk.out.own.hn, rfl, HSpk.out.own.rd, HBk.out, HSpk.out.own⟩
theorem cspread_any (A : Option Addr) (n c : Nat) (l : List Dk) (v : Value) (D : Deal) (deeds : Int) (w : World) (h : RdD w A l) (hn : n = l.length) (hn9 : n ≤ 100000) (hl : ∀ x ∈ l, x.n ≤ 1000000 ∧ x.m ≤ 1000000) (hv : DV w v D) (hR : Rounds w) :
    Calls Tryz.prog 10 #[.slice A n c, v, .int .i64 deeds] w (SpreadR w (spreadC D (plats l) deeds)) := by
  by_cases hh : rightD D = true ∧ n = D.r.ns.length
  · have hE : spreadC D (plats l) deeds = spreadL (giftD D) (plats l) deeds := by unfold spreadC; rw [if_pos ⟨hh.1, by rw [plats_len, ← hn]; exact hh.2⟩]
    rw [hE]
    exact spread_yes A n c l v D deeds w h hn hl hv hR hh.1 hh.2
  · exact spread_head A n c l v D deeds w hn hn9 hv hR hh

/- Cn -/
/- ChN -/
open Go.RowKit
set_option linter.unusedVariables false
set_option linter.unusedSimpArgs false
set_option maxRecDepth 100000
set_option maxHeartbeats 16000000

def startP : Plat := (startH (sumB wordT)).1
theorem start_zero : (startH (sumB wordT)).2 = 0 := (start_fresh (sumB_size wordT)).1
theorem startP_fresh : Fresh startP (sumB wordT) := (start_fresh (sumB_size wordT)).2
/- ChV -/
open Go.RowKit
set_option linter.unusedVariables false
set_option maxRecDepth 20000

theorem word_len : (sumB wordT).size = 32 := by
  unfold sumB
  rw [if_pos (by decide)]
  exact sumL_len _
/-- The deal of the document's rows. -/
def docD : Deal := dealC seedT [ann2, bob2] 2 1
theorem comm_there {g : Nat → Gift} {cred : ByteArray} {l : List Plat} {e : Int} (hg : ∀ i, i < l.length → (g i).ok ∧ (g i).e = e) (h : ∀ i, i < l.length → CommZ (g i) cred (l.getD i noPlat)) (h0 : 0 < l.length) : thereB e l = true := by
  unfold thereB
  rw [List.any_eq_true]
  have hm : l.getD 0 noPlat ∈ l := by
    rw [List.getD_eq_getElem?_getD, List.getElem?_eq_getElem h0]
    exact List.getElem_mem h0
  refine ⟨_, hm, ?_⟩
  rw [comm_gets (hg 0 h0).1 (h 0 h0)]
  simp only [decide_eq_true_eq]
  exact (hg 0 h0).2
/-- Settled behind a whole Spread: each holds its gift. -/
theorem comm_settle {g : Nat → Gift} {cred : ByteArray} {l : List Plat} {e : Int} (he0 : 1 ≤ e) (he1 : e ≤ 1000000) (hg : ∀ i, i < l.length → (g i).ok ∧ (g i).e = e) (h : ∀ i, i < l.length → CommZ (g i) cred (l.getD i noPlat)) (h0 : 0 < l.length) :
    ∃ s, settleL l e = (s, 0) ∧ s.length = l.length ∧ ∀ i, i < l.length → (getH (s.getD i noPlat)).2 = 0 ∧ (getH (s.getD i noPlat)).1.epoch = e ∧ (getH (s.getD i noPlat)).1.x = (g i).x ∧ (getH (s.getD i noPlat)).1.b = (g i).b := by
  obtain ⟨s, h1, h2, h3⟩ := settle_all he0 he1 hg (.inr fun i hi => .inr (h i hi).d)
  refine ⟨s, h1, h2, ?_⟩
  rcases h3 with h3 | h3
  · exfalso
    obtain ⟨_, b, _, _, _, h4⟩ := settle_twice h1
    rcases h4 with ⟨h4, _⟩ | h4
    · rw [comm_there hg h h0] at h4
      cases h4
    · have a := h4 0 (by omega)
      have b := (h3 0 h0).2
      omega
  · exact h3
theorem doc_law : rightD docD = true ∧ docD.sh.length = 2 ∧ docD.r.ns.length = 2 ∧ docD.r.ns = [ann2, bob2] ∧ ∃ L M h0 h1, spreadC docD (List.replicate 2 startP) (-1) = (L, true, 0) ∧ settleL L 1 = (M, 0) ∧ M.length = 2 ∧ getH (M.getD 0 noPlat) = (h0, 0) ∧ h0.epoch = 1 ∧ getH (M.getD 1 noPlat) = (h1, 0) ∧ h1.epoch = 1 ∧ docD.sh.getD 1 (0, noneT) = (h1.x, h1.b) ∧ L.length = 2 ∧ ∀ P ∈ L, checkB P = true := by
  obtain ⟨m, hm, hm1, h16, _, hgd, he, hns⟩ := cOK_good cOK2
  have hgd : Good docD m (cRest (tapeOf seedT) m).data.toList := hgd
  have he : docD.r.e = 1 := he
  have hns : docD.r.ns = [ann2, bob2] := hns
  have hl : docD.r.ns.length = 2 := by rw [hns]; rfl
  have hr := good_right hgd
  have hsh : docD.sh.length = 2 := by rw [hgd.sh]; simp [hl]
  refine ⟨hr, hsh, hl, hns, ?_⟩
  have hgo : ∀ i, i < 2 → (giftD docD i).ok ∧ (giftD docD i).e = 1 := fun i hi => ⟨good_gift hgd (by omega), he⟩
  obtain ⟨L, done, s1, s2, s3, s4, _⟩ := spread_crash (g := giftD docD) (cred := sumB wordT) (l := List.replicate 2 startP) (fun i hi => (hgo i (by simpa using hi)).1) (fun i hi => by
    have : (List.replicate 2 startP).getD i noPlat = startP := by
      rw [List.getD_eq_getElem?_getD, List.getElem?_eq_getElem hi, List.getElem_replicate]
      rfl
    rw [this]
    exact fresh_old startP_fresh word_len he) (-1)
  have hd := s3 (by omega)
  subst hd
  simp only [List.length_replicate] at s2 s4
  have hz := s4 trivial
  obtain ⟨M, t1, t2, t3⟩ := comm_settle (g := giftD docD) (cred := sumB wordT) (l := L) (e := 1) (by omega) (by omega) (by rw [s2]; exact hgo) (by rw [s2]; exact hz) (by omega)
  rw [s2] at t2 t3
  have a0 := t3 0 (by omega)
  have a1 := t3 1 (by omega)
  refine ⟨L, M, (getH (M.getD 0 noPlat)).1, (getH (M.getD 1 noPlat)).1, ?_, t1, t2, ?_, a0.2.1, ?_, a1.2.1, ?_, s2, fun P hP => ?_⟩
  · unfold spreadC
    rw [if_pos ⟨hr, by rw [hl]; simp⟩]
    exact s1
  · rw [← a0.1]
  · rw [← a1.1]
  · rw [a1.2.2.1, a1.2.2.2]
    rfl
  · obtain ⟨i, hi, e⟩ := List.mem_iff_getElem.1 hP
    have := (hz i (by omega)).1.chk
    rw [List.getD_eq_getElem?_getD, List.getElem?_eq_getElem hi] at this
    rw [← e]
    exact this

/- ChM -/
open Go.RowKit
set_option linter.unusedVariables false
set_option linter.unusedSimpArgs false
set_option maxRecDepth 100000
set_option maxHeartbeats 16000000

theorem rd_of_blk {w : World} {g : Nat} {cs : Array Value} {t : TypeId} (h : w.heap[g]? = some (.cells cs t (0, 0))) : Rd w (some ⟨g, 0, none⟩) cs.toList := fun i u hu => by
  refine ⟨g, 0, rfl, ?_⟩
  rw [Nat.zero_add, cell_of_row w g i cs t (0, 0) h]
  simpa using hu
theorem start_len : startP.ss.length = 6 ∧ startP.cs.length = 0 := by
  obtain ⟨A, B, h, _⟩ := startP_fresh.ex
  rw [h]
  exact ⟨rfl, rfl⟩
theorem dk_of_plats {w : World} {B0 : Nat} {A : Option Addr} {n cap k : Nat} {l : List Dk} {P : Plat} (ho : OwnD w B0 A n cap l) (h : plats l = List.replicate k P) : ∀ x ∈ l, x.n = P.ss.length ∧ x.m = P.cs.length := by
  intro x hx
  have h1 : x.P ∈ plats l := by unfold plats; exact List.mem_map_of_mem hx
  rw [h] at h1
  have h2 := List.eq_of_mem_replicate h1
  have h3 := ho.ok x hx
  exact ⟨by rw [← h2]; exact h3.hn, by rw [← h2]; exact h3.hm⟩
theorem dk_chk {w : World} {x : Dk} (h : x.ok w) (hc : checkB x.P = true) : x.n ≤ 1000000 ∧ x.m ≤ 1000000 := by
  unfold checkB at hc
  simp only [Bool.and_eq_true, decide_eq_true_eq] at hc
  have h1 := h.hn
  have h2 := h.hm
  omega
theorem mem_plats {l : List Dk} {x : Dk} (h : x ∈ l) : x.P ∈ plats l := by unfold plats; exact List.mem_map_of_mem h
/- ChG -/
open Go.RowKit
set_option linter.unusedVariables false
set_option maxRecDepth 20000

def smallP (P : Plat) : Prop := P.ss.length ≤ 1000000 ∧ P.cs.length ≤ 1000000
theorem chk_small {P : Plat} (h : checkB P = true) : smallP P := by
  unfold checkB at h
  simp only [Bool.and_eq_true, decide_eq_true_eq] at h
  exact ⟨by omega, by omega⟩
theorem crash_small {f : List Int} {P : Plat} (h : (crashP f P).2 = 0) : smallP (crashP f P).1 := by
  unfold crashP settleP at h ⊢
  by_cases hc : checkB P = false
  · rw [if_pos hc] at h
    simp at h
  · rw [if_neg hc]
    have := chk_small (P := P) (by simpa using hc)
    exact ⟨by simp only; rw [fallTo_len]; exact this.1, by simp⟩
theorem old_small {g : Gift} {c : ByteArray} {P : Plat} (h : OldD g c P) : smallP P := by
  obtain ⟨t, b, h, _⟩ := h
  exact chk_small h.chk
/-- Disks of the epoch ahead of e, each of a gift that is to come. -/
def Olds (c : ByteArray) (e : Int) (n : Nat) (l : List Plat) : Prop := l.length = n ∧ ∀ i, i < n → ∀ g : Gift, g.e = e → OldD g c (l.getD i noPlat)
theorem starts_olds (n : Nat) : Olds (sumB wordT) 1 n (List.replicate n startP) := by
  refine ⟨by simp, fun i hi g hg => ?_⟩
  have : (List.replicate n startP).getD i noPlat = startP := by
    rw [List.getD_eq_getElem?_getD, List.getElem?_eq_getElem (by simpa using hi), List.getElem_replicate]
    rfl
  rw [this]
  exact fresh_old startP_fresh word_len hg
theorem Olds.small {c : ByteArray} {e : Int} {n : Nat} {l : List Plat} (h : Olds c e n l) : ∀ P ∈ l, smallP P := by
  intro P hP
  obtain ⟨i, hi, rfl⟩ := List.mem_iff_getElem.1 hP
  have := h.2 i (by rw [← h.1]; exact hi) ⟨e, 0, none0, none0⟩ rfl
  rw [List.getD_eq_getElem?_getD, List.getElem?_eq_getElem hi] at this
  exact old_small this
/-- A first epoch that is spread whole. -/
theorem first_law {seed : ByteArray} {ns : List ByteArray} {k : Int} (h : cOK seed ns k 1 = true) : ∃ L, spreadC (dealC seed ns k 1) (List.replicate ns.length startP) (-1) = (L, true, 0) ∧ Olds (sumB wordT) 2 ns.length L := by
  obtain ⟨m, hm, hm1, h16, _, hgd, he, hns⟩ := cOK_good h
  generalize dealC seed ns k 1 = D at hgd he hns ⊢
  have ho := starts_olds ns.length
  have hgo : ∀ i, i < ns.length → (giftD D i).ok := fun i hi => good_gift hgd (by rw [hns]; exact hi)
  obtain ⟨L, done, s1, s2, s3, s4, _⟩ := spread_crash (g := giftD D) (cred := sumB wordT) (l := List.replicate ns.length startP) (fun i hi => hgo i (by simpa using hi)) (fun i hi => ho.2 i (by simpa using hi) _ he) (-1)
  have hd := s3 (by omega)
  subst hd
  refine ⟨L, ?_, by rw [s2]; simp, fun i hi g hg => ?_⟩
  · unfold spreadC
    rw [if_pos ⟨good_right hgd, by rw [hns]; simp⟩]
    exact s1
  · exact comm_old (hgo i hi) (s4 rfl i (by simpa using hi)) (by rw [hg]; show 2 = (giftD D i).e + 1; rw [show (giftD D i).e = D.r.e from rfl, he]; rfl)
/-- What is settled behind whatever crashes. -/
def Whole (D : Deal) (e : Int) (n : Nat) (s : List Plat) : Prop := s.length = n ∧ ((∀ i, i < n → (getH (s.getD i noPlat)).2 = 0 ∧ (getH (s.getD i noPlat)).1.epoch = e - 1) ∨
  ∀ i, i < n → (getH (s.getD i noPlat)).2 = 0 ∧ (getH (s.getD i noPlat)).1.epoch = e ∧ ((getH (s.getD i noPlat)).1.x, (getH (s.getD i noPlat)).1.b) = D.sh.getD i (0, noneT))
theorem whole_law {seed : ByteArray} {ns : List ByteArray} {k e : Int} {l : List Plat} {c : ByteArray} (h : cOK seed ns k e = true) (ho : Olds c e ns.length l) (deeds : Int) :
    ∃ L done, spreadC (dealC seed ns k e) l deeds = (L, done, 0) ∧ L.length = ns.length ∧ 1 ≤ ns.length ∧ ns.length ≤ 16 ∧ (dealC seed ns k e).sh.length = ns.length ∧
      ∀ fates : Nat → List Int, (∀ i, i < ns.length → (crashP (fates i) (L.getD i noPlat)).2 = 0) ∧
        ∀ l' : List Plat, l'.length = ns.length → (∀ i, i < ns.length → l'.getD i noPlat = (crashP (fates i) (L.getD i noPlat)).1) → (∀ P ∈ l', smallP P) ∧ ∃ s, settleL l' e = (s, 0) ∧ Whole (dealC seed ns k e) e ns.length s := by
  obtain ⟨m, hm, hm1, h16, _, hgd, he, hns⟩ := cOK_good h
  generalize dealC seed ns k e = D at hgd he hns ⊢
  obtain ⟨e0, e1, _⟩ := check_head hgd.ck
  rw [he] at e0 e1
  have hgo : ∀ i, i < ns.length → (giftD D i).ok ∧ (giftD D i).e = e := fun i hi => ⟨good_gift hgd (by rw [hns]; exact hi), he⟩
  obtain ⟨L, done, s1, s2, _, _, s5⟩ := spread_crash (g := giftD D) (cred := c) (l := l) (fun i hi => (hgo i (by rw [← ho.1]; exact hi)).1) (fun i hi => ho.2 i (by rw [← ho.1]; exact hi) _ he) deeds
  rw [ho.1] at s2 s5
  refine ⟨L, done, ?_, s2, by omega, h16, by rw [hgd.sh]; simp [hns], fun fates => ⟨(s5 fates).1, fun l' hl hl' => ?_⟩⟩
  · unfold spreadC
    rw [if_pos ⟨good_right hgd, by rw [ho.1, hns]⟩]
    exact s1
  obtain ⟨s, t1, t2, t3⟩ := settle_all (g := giftD D) (cred := c) (l := l') e0 e1 (by rw [hl]; exact hgo) (by
    rw [hl]
    rcases (s5 fates).2 with k | k
    · exact .inl fun i hi => by rw [hl' i hi]; exact k i hi
    · exact .inr fun i hi => by rw [hl' i hi]; exact k i hi)
  rw [hl] at t2 t3
  refine ⟨fun P hP => ?_, s, t1, t2, ?_⟩
  · obtain ⟨i, hi, rfl⟩ := List.mem_iff_getElem.1 hP
    have h1 := hl' i (by rw [← hl]; exact hi)
    rw [List.getD_eq_getElem?_getD, List.getElem?_eq_getElem hi] at h1
    have h2 := crash_small ((s5 fates).1 i (by rw [← hl]; exact hi))
    rw [← h1] at h2
    exact h2
  · rcases t3 with k | k
    · exact .inl k
    · exact .inr fun i hi => ⟨(k i hi).1, (k i hi).2.1, by rw [(k i hi).2.2.1, (k i hi).2.2.2]; rfl⟩

end Go.Proofs.YtkbjmmigjjdfpaaGreatDoor
