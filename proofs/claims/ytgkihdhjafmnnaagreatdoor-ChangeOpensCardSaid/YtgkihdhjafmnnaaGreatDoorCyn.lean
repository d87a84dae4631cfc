/-
  Contract of change.Spread. Contract of change.Spread: the phases.
  Contracts of the law's starts and few. The document's rows of change, plainly. Contract of the law's changes: the document's rows hold. A Spread stopped and crashed, plainly: the law of ChangeWhole.
-/
import Derived.Test.YtgkihdhjafmnnaaGreatDoorCp
import Derived.Test.YtgkihdhjafmnnaaGreatDoorCt
import Derived.Deep.LoopGhost
import Derived.Test.YtgkihdhjafmnnaaGreatDoorCs
import Derived.Test.YtgkihdhjafmnnaaGreatDoorHr
namespace Go.Proofs.YtgkihdhjafmnnaaGreatDoor
/- Cy -/
/- ChW -/
open Go.RowKit
set_option linter.unusedVariables false
set_option linter.unusedSimpArgs false
set_option maxRecDepth 100000
set_option maxHeartbeats 16000000

def SpreadR (w : World) (r : List Plat × Bool × Int) (E : Ending) (w' : World) : Prop := ∃ A n cap l', E = .returned (.tuple #[.slice A n cap, .bool r.2.1, .int .i64 r.2.2]) ∧ n = l'.length ∧ plats l' = r.1 ∧ RdD w' A l' ∧ Below w.heap.size w w' ∧ OwnD w' w.heap.size A n cap l'
theorem SpreadR.no (w w' : World) (x : Int) (h : Below w.heap.size w w') : SpreadR w ([], false, x) (.returned (.tuple #[.slice none 0 0, .bool false, .int .i64 x])) w' := ⟨none, 0, 0, [], rfl, rfl, rfl, RdD.nil _ _, h, OwnD.nil _ _⟩
theorem right_parts {D : Deal} (h : rightD D = true) : checkR D.r = true ∧ D.sh.length = D.r.ns.length ∧ D.sa.length = D.r.ns.length ∧ ∀ i, i < D.r.ns.length → (giftD D i).b.size ≤ maxLen ∧ (giftD D i).salt.size ≤ maxLen := by
  rw [rightD_def] at h
  simp only [Bool.and_eq_true, decide_eq_true_eq, List.all_eq_true] at h
  obtain ⟨⟨⟨h1, h2⟩, h3⟩, h4⟩ := h
  refine ⟨h1, h2, h3, fun i hi => ?_⟩
  have := h4 i (List.mem_range.2 hi)
  unfold dOK checkP at this
  simp only [Bool.and_eq_true, decide_eq_true_eq] at this
  have hf := bright_fit this.2.1
  unfold maxLen giftD
  simp only
  have e1 := hf.2.2.1
  have e2 := hf.2.2.2
  omega
theorem keep7_below {W w' : World} {p q r s a b c : Addr} {u v x y u2 v2 x2 : Value} (h : ((W.cell? p = some u ∧ W.cell? q = some v) ∧ (W.cell? r = some x ∧ W.cell? s = some y)) ∧ (W.cell? a = some u2 ∧ W.cell? b = some v2) ∧ W.cell? c = some x2) (hb : Below W.heap.size W w') :
    ((w'.cell? p = some u ∧ w'.cell? q = some v) ∧ (w'.cell? r = some x ∧ w'.cell? s = some y)) ∧ (w'.cell? a = some u2 ∧ w'.cell? b = some v2) ∧ w'.cell? c = some x2 :=
  ⟨keep4_below h.1 hb, keep2_below h.2.1 hb, (hb.cell (cell_lt h.2.2)).trans h.2.2⟩
theorem keep7_alloc {W : World} {o : Obj} {p q r s a b c : Addr} {u v x y u2 v2 x2 : Value} (h : ((W.cell? p = some u ∧ W.cell? q = some v) ∧ (W.cell? r = some x ∧ W.cell? s = some y)) ∧ (W.cell? a = some u2 ∧ W.cell? b = some v2) ∧ W.cell? c = some x2) :
    (((W.alloc o).cell? p = some u ∧ (W.alloc o).cell? q = some v) ∧ ((W.alloc o).cell? r = some x ∧ (W.alloc o).cell? s = some y)) ∧ ((W.alloc o).cell? a = some u2 ∧ (W.alloc o).cell? b = some v2) ∧ (W.alloc o).cell? c = some x2 :=
  keep7_below h ((Below.refl _ _).alloc (Nat.le_refl _) _)
theorem spread_head (A : Option Addr) (n c : Nat) (l : List Dk) (v : Value) (D : Deal) (deeds : Int) (w : World) (hn : n = l.length) (hn9 : n ≤ 100000) (hv : DV w v D) (hR : Rounds w) (hno : ¬ (rightD D = true ∧ n = D.r.ns.length)) :
    Calls Tryz.prog 14 #[.slice A n c, v, .int .i64 deeds] w (SpreadR w (spreadC D (plats l) deeds)) := by
  have hSp : spreadC D (plats l) deeds = ([], false, 1) := by unfold spreadC; rw [if_neg (by rw [plats_len, ← hn]; exact hno)]
  rw [hSp]
  obtain ⟨aA, an, ac, aB, am, ad, aC, ap, aq, aE, es, et, rfl, h1, h2, h3, h4, h5, h6, h7, h8⟩ := hv
  have hb0 := (Below.refl w.heap.size w).alloc (Nat.le_refl _) (.cells #[.int .i64 D.r.e, .int .i64 D.r.k, .slice aA an ac, .slice aB am ad, .string D.sec, .slice aC ap aq, .slice aE es et] 47)
  have hX := heap_alloc_new w (.cells #[.int .i64 D.r.e, .int .i64 D.r.k, .slice aA an ac, .slice aB am ad, .string D.sec, .slice aC ap aq, .slice aE es et] 47)
  have HCh := Lib.hid (rcheck_any (.agg #[.int .i64 D.r.e, .int .i64 D.r.k, .slice aA an ac, .slice aB am ad, .string D.sec, .slice aC ap aq, .slice aE es et]) D _ ⟨aA, an, ac, aB, am, ad, aC, ap, aq, aE, es, et, rfl, h1.below hb0, h2, h3.below hb0, h4, h5.below hb0, h6, h7.below hb0, h8⟩ (hR.below hb0))
  have HX := Lib.hid hX
  have HB := Lib.hid hb0
  have HL := Lib.hid h2
  clear h1 h2 h3 h4 h5 h6 h7 h8 hX hb0 hR hSp hn hn9
  cases hck : rightD D with
  | false =>
    rw [hck] at HCh
    clear hck hno
    go_enter Tryz.func14, Tryz.ntmps14
    go_wp2_with fail
    go_step3
    go_wp2_with fail
    refine HCh.out.mono ?_
    rintro e w1 ⟨rfl, hb⟩
    replace HB := Lib.hid (HB.out.trans (hb.mono HB.out.size))
    obtain ⟨⟨z0, z1, z2, z3, z4, z5, z6⟩, zf⟩ := seven_cells (hblk_below HX hb).out
    clear hb zf
    go_wp2_with fail
    try rw [Exit.noGoto_ret]
    go_ret3
    exact SpreadR.no _ _ _ HB.out
  | true =>
    have hne : n ≠ an := fun e => hno ⟨hck, by rw [e]; exact HL.out⟩
    have d1 : ((n : Int) != (an : Int)) = true := by simp; omega
    rw [hck] at HCh
    clear hck hno hne
    go_enter Tryz.func14, Tryz.ntmps14
    go_wp2_with fail
    go_step3
    go_wp2_with fail
    refine HCh.out.mono ?_
    rintro e w1 ⟨rfl, hb⟩
    replace HB := Lib.hid (HB.out.trans (hb.mono HB.out.size))
    obtain ⟨⟨z0, z1, z2, z3, z4, z5, z6⟩, zf⟩ := seven_cells (hblk_below HX hb).out
    clear hb zf
    go_wp2_with fail
    try rw [Exit.noGoto_ret]
    go_ret3
    exact SpreadR.no _ _ _ HB.out

/- ChW2 -/
open Go.RowKit
set_option linter.unusedVariables false
set_option linter.unusedSimpArgs false
set_option maxRecDepth 100000
set_option maxHeartbeats 32000000

theorem own_le {w : World} {B B' : Nat} {e : TypeId} {size : Nat} {v : Value} {n : Nat} {xs : List Value} (h : w.ownsRow B' e size v n xs) (hB : B ≤ B') : w.ownsRow B e size v n xs := by
  refine ⟨h.1, ?_⟩
  rcases h.2 with h2 | ⟨g, cap, cur, hv, hg, r⟩
  · exact .inl h2
  · exact .inr ⟨g, cap, cur, hv, Nat.le_trans hB hg, r⟩
theorem spread_yes (A : Option Addr) (n c : Nat) (l : List Dk) (v : Value) (D : Deal) (deeds : Int) (w : World) (h : RdD w A l) (hn : n = l.length) (hl : ∀ x ∈ l, x.n ≤ 1000000 ∧ x.m ≤ 1000000) (hv : DV w v D) (hR : Rounds w) (hck : rightD D = true) (hnn : n = D.r.ns.length) :
    Calls Tryz.prog 14 #[.slice A n c, v, .int .i64 deeds] w (SpreadR w (spreadL (giftD D) (plats l) deeds)) := by
  have hmf : ∀ (fn : Fn) (first cap : Array Value) (w : World), (Instr.makeFunc fn first cap).run Tryz.prog w = .ok (.func fn first cap) w := fun _ _ _ _ => rfl
  obtain ⟨k1, k2, k3, k4⟩ := right_parts hck
  have hn16 : n ≤ 16 := by rw [hnn]; exact (check_head k1).2.2.2.1
  have hn0 : 1 ≤ n := by rw [hnn]; exact (check_head k1).2.2.1
  obtain ⟨aA, an, ac, aB, am, ad, aC, ap, aq, aE, es, et, rfl, h1, h2, h3, h4, h5, h6, h7, h8⟩ := hv
  have hb0 := (Below.refl w.heap.size w).alloc (Nat.le_refl _) (.cells #[.int .i64 D.r.e, .int .i64 D.r.k, .slice aA an ac, .slice aB am ad, .string D.sec, .slice aC ap aq, .slice aE es et] 47)
  have hX := heap_alloc_new w (.cells #[.int .i64 D.r.e, .int .i64 D.r.k, .slice aA an ac, .slice aB am ad, .string D.sec, .slice aC ap aq, .slice aE es et] 47)
  have HCh := rcheck_any (.agg #[.int .i64 D.r.e, .int .i64 D.r.k, .slice aA an ac, .slice aB am ad, .string D.sec, .slice aC ap aq, .slice aE es et]) D _ ⟨aA, an, ac, aB, am, ad, aC, ap, aq, aE, es, et, rfl, h1.below hb0, h2, h3.below hb0, h4, h5.below hb0, h6, h7.below hb0, h8⟩ (hR.below hb0)
  rw [hck] at HCh
  replace HCh := Lib.hid HCh
  have HX := Lib.hid hX
  have HB := Lib.hid hb0
  have HSh := Lib.hid h5
  have HSa := Lib.hid h7
  have HLn := Lib.hid (And.intro h6 h8)
  have HK := Lib.hid (And.intro k2 (And.intro k3 k4))
  have HD := Lib.hid h
  have HN := Lib.hid hn
  have HNn := Lib.hid hnn
  have HCp := Lib.hid (fun W (hW : RdD W A l) => copies_any A n c l W hW hn (by omega) hl)
  obtain rfl : n = an := by rw [hnn, h2]
  clear h h1 h2 h3 h4 h5 h6 h7 h8 hX hb0 hR hn hl hck hnn k1 k2 k3 k4
  have d1 : ((n : Int) != (n : Int)) = false := by simp
  obtain ⟨d0, hd0⟩ : ∃ d0, d0 = allD n deeds := ⟨_, rfl⟩
  have hcase : (decide (deeds < 0) = true ∧ d0 = 20 * (n : Int)) ∨ (decide (deeds < 0) = false ∧ decide (deeds > 20 * (n : Int)) = true ∧ d0 = 20 * (n : Int)) ∨ (decide (deeds < 0) = false ∧ decide (deeds > 20 * (n : Int)) = false ∧ d0 = deeds) := by
    unfold allD at hd0
    by_cases q1 : deeds < 0
    · exact .inl ⟨decide_eq_true q1, by rw [hd0, if_pos (.inl q1)]⟩
    · by_cases q2 : deeds > 20 * (n : Int)
      · exact .inr (.inl ⟨decide_eq_false q1, decide_eq_true q2, by rw [hd0, if_pos (.inr q2)]⟩)
      · exact .inr (.inr ⟨decide_eq_false q1, decide_eq_false q2, by rw [hd0, if_neg (by omega)]⟩)
  have HD0 := Lib.hid hd0
  clear hd0
  rcases hcase with ⟨c1, e1⟩ | ⟨c1, c2, e1⟩ | ⟨c1, c2, e1⟩
  all_goals
    have HE1 := Lib.hid e1
    clear e1
    go_enter Tryz.func14, Tryz.ntmps14
    go_wp2_with fail
    go_step3
    go_wp2_with fail
    refine HCh.out.mono ?_
    rintro e w1 ⟨rfl, hb⟩
    replace HB := Lib.hid (HB.out.trans (hb.mono HB.out.size))
    replace HX := hblk_below HX hb
    obtain ⟨⟨z0, z1, z2, z3, z4, z5, z6⟩, zf⟩ := seven_cells HX.out
    clear hb zf HCh
    go_wp2_with fail
    have z := And.intro (And.intro (And.intro z0 z1) (And.intro z2 z3)) (And.intro (And.intro z4 z5) z6)
    clear z0 z1 z2 z3 z4 z5 z6
    have hwB : Below w.heap.size w w1.drew := HB.out.drew
    have HwB := Lib.hid hwB
    clear hwB
    go_region_held3 (fun w' => ((w'.cell? ⟨w.heap.size, 0, none⟩ = some (.int .i64 D.r.e) ∧ w'.cell? ⟨w.heap.size, 1, none⟩ = some (.int .i64 D.r.k)) ∧ (w'.cell? ⟨w.heap.size, 2, none⟩ = some (.slice aA n ac) ∧ w'.cell? ⟨w.heap.size, 3, none⟩ = some (.slice aB am ad))) ∧ (w'.cell? ⟨w.heap.size, 4, none⟩ = some (.string D.sec) ∧ w'.cell? ⟨w.heap.size, 5, none⟩ = some (.slice aC ap aq)) ∧ w'.cell? ⟨w.heap.size, 6, none⟩ = some (.slice aE es et))
      (first | with_reducible assumption | exact z | exact keep7_alloc (by assumption) | exact keep7_below z hb3)
      (first
        | (go_at_call 24; refine Calls.mono (HCp.out _ (HD.out.below HwB.out)) ?_; rintro _ w2 ⟨l2, rfl, hpl, ho, hb2⟩; have hb3 := Below.chain ((Below.refl w1.heap.size w1).drew) hb2))
    rename_i hheld
    clear hheld hb2
    have hsz1 : w.heap.size ≤ w1.heap.size := HB.out.size
    have HB2 := Lib.hid (HB.out.trans (hb3.mono hsz1))
    have HSp : Hid (Spr w.heap.size w2.heap.size w1.heap.size n n l2 D ⟨aA, n, ac, aB, am, ad, aC, ap, aq, aE, es, et⟩ (w2.alloc (.cells #[.slice (some ⟨w1.heap.size, 0, none⟩) n n, .int .i64 D.r.e, .int .i64 D.r.k, .slice aA n ac, .slice aB am ad, .string D.sec, .slice aC ap aq, .slice aE es et] 82))) := Lib.hid (by
      have al := (Below.refl w2.heap.size w2).alloc (Nat.le_refl _) (.cells #[.slice (some ⟨w1.heap.size, 0, none⟩) n n, .int .i64 D.r.e, .int .i64 D.r.k, .slice aA n ac, .slice aB am ad, .string D.sec, .slice aC ap aq, .slice aE es et] 82)
      have ho' : OwnD w2 w.heap.size (some ⟨w1.heap.size, 0, none⟩) n n l2 := ⟨ho.hn, own_le ho.os hsz1, ho.sl, ho.ok⟩
      exact ⟨heap_alloc_new _ _, ho'.below al, (HSh.out.below HB2.out).below al, (HSa.out.below HB2.out).below al, HLn.out.1, HLn.out.2⟩)
    have HB3 := Lib.hid (HB2.out.alloc HB2.out.size (.cells #[.slice (some ⟨w1.heap.size, 0, none⟩) n n, .int .i64 D.r.e, .int .i64 D.r.k, .slice aA n ac, .slice aB am ad, .string D.sec, .slice aC ap aq, .slice aE es et] 82))
    have Hpl := Lib.hid hpl
    obtain ⟨u, hu⟩ : ∃ u, u = w2.alloc (.cells #[.slice (some ⟨w1.heap.size, 0, none⟩) n n, .int .i64 D.r.e, .int .i64 D.r.k, .slice aA n ac, .slice aB am ad, .string D.sec, .slice aC ap aq, .slice aE es et] 82) := ⟨_, rfl⟩
    rw [← hu] at HSp HB3 ⊢
    clear hu hpl ho hb3 z HwB HB2 HB HX HCp
    generalize w1.heap.size = g at *
    generalize w2.heap.size = S at *
    clear hsz1
    go_wp2_with fail
    go_step3
    go_wp2_with fail
    have HPb := Lib.hid (heap_alloc_new u (.cells #[.func (.func 33) #[.pointer (some ⟨S, 0, none⟩)] #[], .int .i64 4, .func (.func 34) #[.pointer (some ⟨S, 0, none⟩)] #[], .int .i64 16] 85))
    have hba := (Below.refl u.heap.size u).alloc (Nat.le_refl _) (.cells #[.func (.func 33) #[.pointer (some ⟨S, 0, none⟩)] #[], .int .i64 4, .func (.func 34) #[.pointer (some ⟨S, 0, none⟩)] #[], .int .i64 16] 85)
    have HSp2 := Lib.hid (HSp.out.below hba)
    have HB4 := Lib.hid (HB3.out.trans (hba.mono HB3.out.size))
    have Hst : Hid (SpSt (giftD D) (plats l) deeds 0 (plats l2) d0) := Lib.hid ⟨Hpl.out, by rw [HD0.out, plats_len, ← HN.out]⟩
    clear hba HSp HB3
    generalize u.heap.size = Pb at *
    go_loopg [2, 11, 52] 2 (fun gh s2 s11 s52 wx => ∃ (k : Nat) (d : Int) (lk : List Dk), ((k = 0 ∧ s52 = .int .i64 0 ∧ gh = 2) ∨ (k = 1 ∧ s52 = .int .i64 1 ∧ gh = 1) ∨ (k = 2 ∧ s52 = .int .i64 2 ∧ gh = 0)) ∧ s2 = .int .i64 d ∧ s11 = .bool true ∧ SpSt (giftD D) (plats l) deeds k (plats lk) d ∧
      Spr w.heap.size S g n n lk D ⟨aA, n, ac, aB, am, ad, aC, ap, aq, aE, es, et⟩ wx ∧ wx.heap[Pb]? = some (.cells #[.func (.func 33) #[.pointer (some ⟨S, 0, none⟩)] #[], .int .i64 4, .func (.func 34) #[.pointer (some ⟨S, 0, none⟩)] #[], .int .i64 16] 85 (0, 0)) ∧ Below w.heap.size w wx)
    case atStart => exact ⟨0, d0, l2, .inl ⟨rfl, rfl, rfl⟩, by rw [HE1.out], rfl, Hst.out, HSp2.out, HPb.out, HB4.out⟩
    case round =>
      obtain ⟨k, d, lk, hk, rfl, rfl, hst, hsp, hpb, hB⟩ := hrel
      have HSt := Lib.hid hst
      have HSpk := Lib.hid hsp
      have HPbk := Lib.hid hpb
      have HBk := Lib.hid hB
      clear hst hsp hpb hB Hst HSp2 HPb HB4 Hpl
      rcases hk with ⟨rfl, rfl, rfl⟩ | ⟨rfl, rfl, rfl⟩ | ⟨rfl, rfl, rfl⟩
      · --P0
        have q0 := cell_in HPbk.out 0 _ rfl
        have q1 := cell_in HPbk.out 1 _ rfl
        go_upto_region 11 with fail
        have al := (Below.refl wr.heap.size wr).alloc (Nat.le_refl _) (.cells #[.func (.func 33) #[.pointer (some ⟨S, 0, none⟩)] #[], .int .i64 4] 85)
        have HQ3 := Lib.hid (heap_alloc_new wr (.cells #[.func (.func 33) #[.pointer (some ⟨S, 0, none⟩)] #[], .int .i64 4] 85))
        have HSp3 := Lib.hid (HSpk.out.below al)
        have HPb3 := hblk_below HPbk al
        have HB3 := Lib.hid (HBk.out.trans (al.mono HBk.out.size))
        have hQw := HBk.out.size
        obtain ⟨w3, hw3⟩ : ∃ w3, w3 = wr.alloc (.cells #[.func (.func 33) #[.pointer (some ⟨S, 0, none⟩)] #[], .int .i64 4] 85) := ⟨_, rfl⟩
        rw [← hw3] at HQ3 HSp3 HPb3 HB3 ⊢
        clear hw3 al q0 q1 HSpk HPbk HBk
        generalize wr.heap.size = Q at *
        clear hQw
        have s0 := cell_in HSp3.out.blk 0 _ rfl
        go_wp2_with fail
        clear s0
        go_loopg [2, 11, 61] n (fun g2 s2 s11 s61 wy => ∃ (j : Nat) (d' : Int) (lj : List Dk), j + g2 = n ∧ s61 = .int .i64 (j : Nat) ∧ s2 = .int .i64 d' ∧ s11 = .bool true ∧ phN (prepF (giftD D)) 4 (plats lk) d j = (plats lj, d', 0) ∧
          Spr w.heap.size S g n n lj D ⟨aA, n, ac, aB, am, ad, aC, ap, aq, aE, es, et⟩ wy ∧ wy.heap[Pb]? = some (.cells #[.func (.func 33) #[.pointer (some ⟨S, 0, none⟩)] #[], .int .i64 4, .func (.func 34) #[.pointer (some ⟨S, 0, none⟩)] #[], .int .i64 16] 85 (0, 0)) ∧ wy.heap[Q]? = some (.cells #[.func (.func 33) #[.pointer (some ⟨S, 0, none⟩)] #[], .int .i64 4] 85 (0, 0)) ∧ Below w.heap.size w wy)
        case atStart => exact ⟨0, d, lk, by omega, rfl, rfl, rfl, rfl, HSp3.out, HPb3.out, HQ3.out, HB3.out⟩
        case round =>
          obtain ⟨j, d', lj, hj, rfl, rfl, rfl, hph, hsp, hpb, hq, hB⟩ := hrel
          have HSpj := Lib.hid hsp
          have HPbj := Lib.hid hpb
          have HQj := Lib.hid hq
          have HBj := Lib.hid hB
          have hln : (plats l).length = n := by rw [plats_len, ← HN.out]
          have hlk : (plats lk).length = n := HSt.out.len.trans hln
          have HPh := Lib.hid hph
          have hdb : -512 ≤ d' ∧ d' ≤ 320 := by
            have h1 := HSt.out.d (by omega) (by omega)
            have h2 := phN_d (f := prepF (giftD D)) (c := 4) (by omega) (by omega) (plats lk) d j
            rw [hph] at h2
            simp only at h2
            omega
          have Hln := Lib.hid (And.intro hln hlk)
          clear hsp hpb hq hB HSp3 HPb3 HQ3 HB3 hln hlk hph
          cases gk with
          | zero =>
            obtain rfl : j = n := by omega
            have e9 : ¬ (j : Int) < (j : Int) := by omega
            have Hnx := Lib.hid ((HSt.out.next (by omega) (by rw [Hln.out.1]; exact HPh.out)).1 rfl)
            go_wp2_with fail
            go_roundg 1
            case measure => omega
            case rel => exact ⟨1, d', lj, .inr (.inl ⟨rfl, rfl, rfl⟩), rfl, rfl, Hnx.out, HSpj.out, HPbj.out, HBj.out⟩
          | succ g2 =>
            have e9 : (j : Int) < (n : Int) := by omega
            obtain ⟨t0, t1, _, _⟩ := two_cells HQj.out
            have HC : Hid (Calls Tryz.prog 33 #[.pointer (some ⟨S, 0, none⟩), .int .i64 (j : Nat), .int .i64 (min d' 4)] wr (StepR w.heap.size S g n n lj D ⟨aA, n, ac, aB, am, ad, aC, ap, aq, aE, es, et⟩ j wr (prepF (giftD D) j ((plats lj).getD j noPlat) (min d' 4)))) := Lib.hid (sprepare_any w.heap.size S g n n lj D ⟨aA, n, ac, aB, am, ad, aC, ap, aq, aE, es, et⟩ j (min d' 4) wr HSpj.out (by omega) HBj.out.size (by rw [HK.out.1]; exact HNn.out) (by rw [HK.out.2.1]; exact HNn.out) (HK.out.2.2 j (by rw [← HNn.out]; omega)).1 (HK.out.2.2 j (by rw [← HNn.out]; omega)).2)
            obtain ⟨r, hr⟩ : ∃ r, r = prepF (giftD D) j ((plats lj).getD j noPlat) (min d' 4) := ⟨_, rfl⟩
            rw [← hr] at HC
            have HGo := Lib.hid (phN_go HPh.out hr)
            clear hr
            obtain ⟨Q', ce⟩ := r
            have hgt := HSpj.out.own.os.lt g rfl
            have hPg : Pb ≠ g := fun e => own_far HPbj.out HSpj.out.own.os (by decide) (by rw [e]; rfl)
            have hQg : Q ≠ g := fun e => own_far HQj.out HSpj.out.own.os (by decide) (by rw [e]; rfl)
            go_wp2_with fail
            refine HC.out.mono ?_
            rintro e w5 ⟨rfl, l5, hs5, hp5, hg5⟩
            have HS5 := Lib.hid hs5
            have HPb5 := Lib.hid (gb_blk' hg5 HPbj.out hPg)
            have HQ5 := Lib.hid (gb_blk' hg5 HQj.out hQg)
            have HB5 := Lib.hid (HBj.out.trans (gb_by' hg5 hgt.1 HBj.out.size))
            have s0 := cell_in HS5.out.blk 0 _ rfl
            obtain ⟨t0, t1, _, _⟩ := two_cells HQ5.out
            have HPl5 := Lib.hid hp5
            clear hs5 hp5 hg5 HC
            by_cases hc0 : ce = 0
            · subst hc0
              have f1 : ((0 : Int) == 0) = true := rfl
              have HPh5 := Lib.hid (HGo.out.1 rfl)
              go_wp2_with fail
              go_roundg g2
              case measure => omega
              case rel => exact ⟨j + 1, d' - 4, l5, by omega, by go_num, rfl, rfl, by rw [HPh5.out, HPl5.out, if_pos (by simp)], HS5.out, HPb5.out, HQ5.out, HB5.out⟩
            have f1 : (ce == 0) = false := by simpa using hc0
            have hjn : j + 1 + g2 = n := by omega
            by_cases hc1 : ce = 230
            · subst hc1
              have f2 : ((230 : Int) == 230) = true := rfl
              have hph5 := HGo.out.2.1 rfl
              have hstop := phN_stop (f := prepF (giftD D)) (c := 4) (l := plats lk) (d := d) (j := j + 1) (by rw [hph5]; simp) g2
              rw [hjn, hph5] at hstop
              have HSp := Lib.hid ((HSt.out.next (by omega) (by rw [Hln.out.1]; exact hstop)).2.1 rfl)
              clear hph5 hstop hjn
              go_wp2_with fail
              try rw [Exit.noGoto_ret]
              go_ret3
              rw [HSp.out]
              exact ⟨_, _, _, l5, rfl, HS5.out.own.hn, by rw [HPl5.out, if_pos (by simp)], HS5.out.own.rd, HB5.out, HS5.out.own⟩
            · have f2 : (ce == 230) = false := by simpa using hc1
              have hph5 := HGo.out.2.2 hc0 hc1
              have hstop := phN_stop (f := prepF (giftD D)) (c := 4) (l := plats lk) (d := d) (j := j + 1) (by rw [hph5]; exact hc0) g2
              rw [hjn, hph5] at hstop
              have HSp := Lib.hid ((HSt.out.next (by omega) (by rw [Hln.out.1]; exact hstop)).2.2 hc0 hc1)
              clear hph5 hstop hjn
              go_wp2_with fail
              try rw [Exit.noGoto_ret]
              go_ret3
              rw [HSp.out]
              exact SpreadR.no _ _ _ HB5.out
        skip --E0
      · --P1
        have q0 := cell_in HPbk.out 2 _ rfl
        have q1 := cell_in HPbk.out 3 _ rfl
        go_upto_region 11 with fail
        have al := (Below.refl wr.heap.size wr).alloc (Nat.le_refl _) (.cells #[.func (.func 34) #[.pointer (some ⟨S, 0, none⟩)] #[], .int .i64 16] 85)
        have HQ3 := Lib.hid (heap_alloc_new wr (.cells #[.func (.func 34) #[.pointer (some ⟨S, 0, none⟩)] #[], .int .i64 16] 85))
        have HSp3 := Lib.hid (HSpk.out.below al)
        have HPb3 := hblk_below HPbk al
        have HB3 := Lib.hid (HBk.out.trans (al.mono HBk.out.size))
        have hQw := HBk.out.size
        obtain ⟨w3, hw3⟩ : ∃ w3, w3 = wr.alloc (.cells #[.func (.func 34) #[.pointer (some ⟨S, 0, none⟩)] #[], .int .i64 16] 85) := ⟨_, rfl⟩
        rw [← hw3] at HQ3 HSp3 HPb3 HB3 ⊢
        clear hw3 al q0 q1 HSpk HPbk HBk
        generalize wr.heap.size = Q at *
        clear hQw
        have s0 := cell_in HSp3.out.blk 0 _ rfl
        go_wp2_with fail
        clear s0
        go_loopg [2, 11, 61] n (fun g2 s2 s11 s61 wy => ∃ (j : Nat) (d' : Int) (lj : List Dk), j + g2 = n ∧ s61 = .int .i64 (j : Nat) ∧ s2 = .int .i64 d' ∧ s11 = .bool true ∧ phN (commF (giftD D)) 16 (plats lk) d j = (plats lj, d', 0) ∧
          Spr w.heap.size S g n n lj D ⟨aA, n, ac, aB, am, ad, aC, ap, aq, aE, es, et⟩ wy ∧ wy.heap[Pb]? = some (.cells #[.func (.func 33) #[.pointer (some ⟨S, 0, none⟩)] #[], .int .i64 4, .func (.func 34) #[.pointer (some ⟨S, 0, none⟩)] #[], .int .i64 16] 85 (0, 0)) ∧ wy.heap[Q]? = some (.cells #[.func (.func 34) #[.pointer (some ⟨S, 0, none⟩)] #[], .int .i64 16] 85 (0, 0)) ∧ Below w.heap.size w wy)
        case atStart => exact ⟨0, d, lk, by omega, rfl, rfl, rfl, rfl, HSp3.out, HPb3.out, HQ3.out, HB3.out⟩
        case round =>
          obtain ⟨j, d', lj, hj, rfl, rfl, rfl, hph, hsp, hpb, hq, hB⟩ := hrel
          have HSpj := Lib.hid hsp
          have HPbj := Lib.hid hpb
          have HQj := Lib.hid hq
          have HBj := Lib.hid hB
          have hln : (plats l).length = n := by rw [plats_len, ← HN.out]
          have hlk : (plats lk).length = n := HSt.out.len.trans hln
          have HPh := Lib.hid hph
          have hdb : -512 ≤ d' ∧ d' ≤ 320 := by
            have h1 := HSt.out.d (by omega) (by omega)
            have h2 := phN_d (f := commF (giftD D)) (c := 16) (by omega) (by omega) (plats lk) d j
            rw [hph] at h2
            simp only at h2
            omega
          have Hln := Lib.hid (And.intro hln hlk)
          clear hsp hpb hq hB HSp3 HPb3 HQ3 HB3 hln hlk hph
          cases gk with
          | zero =>
            obtain rfl : j = n := by omega
            have e9 : ¬ (j : Int) < (j : Int) := by omega
            have Hnx := Lib.hid ((HSt.out.next (by omega) (by rw [Hln.out.1]; exact HPh.out)).1 rfl)
            go_wp2_with fail
            go_roundg 0
            case measure => omega
            case rel => exact ⟨2, d', lj, .inr (.inr ⟨rfl, rfl, rfl⟩), rfl, rfl, Hnx.out, HSpj.out, HPbj.out, HBj.out⟩
          | succ g2 =>
            have e9 : (j : Int) < (n : Int) := by omega
            obtain ⟨t0, t1, _, _⟩ := two_cells HQj.out
            have HC : Hid (Calls Tryz.prog 34 #[.pointer (some ⟨S, 0, none⟩), .int .i64 (j : Nat), .int .i64 (min d' 16)] wr (StepR w.heap.size S g n n lj D ⟨aA, n, ac, aB, am, ad, aC, ap, aq, aE, es, et⟩ j wr (commF (giftD D) j ((plats lj).getD j noPlat) (min d' 16)))) := Lib.hid (scommit_any w.heap.size S g n n lj D ⟨aA, n, ac, aB, am, ad, aC, ap, aq, aE, es, et⟩ j (min d' 16) wr HSpj.out (by omega) HBj.out.size)
            obtain ⟨r, hr⟩ : ∃ r, r = commF (giftD D) j ((plats lj).getD j noPlat) (min d' 16) := ⟨_, rfl⟩
            rw [← hr] at HC
            have HGo := Lib.hid (phN_go HPh.out hr)
            clear hr
            obtain ⟨Q', ce⟩ := r
            have hgt := HSpj.out.own.os.lt g rfl
            have hPg : Pb ≠ g := fun e => own_far HPbj.out HSpj.out.own.os (by decide) (by rw [e]; rfl)
            have hQg : Q ≠ g := fun e => own_far HQj.out HSpj.out.own.os (by decide) (by rw [e]; rfl)
            go_wp2_with fail
            refine HC.out.mono ?_
            rintro e w5 ⟨rfl, l5, hs5, hp5, hg5⟩
            have HS5 := Lib.hid hs5
            have HPb5 := Lib.hid (gb_blk' hg5 HPbj.out hPg)
            have HQ5 := Lib.hid (gb_blk' hg5 HQj.out hQg)
            have HB5 := Lib.hid (HBj.out.trans (gb_by' hg5 hgt.1 HBj.out.size))
            have s0 := cell_in HS5.out.blk 0 _ rfl
            obtain ⟨t0, t1, _, _⟩ := two_cells HQ5.out
            have HPl5 := Lib.hid hp5
            clear hs5 hp5 hg5 HC
            by_cases hc0 : ce = 0
            · subst hc0
              have f1 : ((0 : Int) == 0) = true := rfl
              have HPh5 := Lib.hid (HGo.out.1 rfl)
              go_wp2_with fail
              go_roundg g2
              case measure => omega
              case rel => exact ⟨j + 1, d' - 16, l5, by omega, by go_num, rfl, rfl, by rw [HPh5.out, HPl5.out, if_pos (by simp)], HS5.out, HPb5.out, HQ5.out, HB5.out⟩
            have f1 : (ce == 0) = false := by simpa using hc0
            have hjn : j + 1 + g2 = n := by omega
            by_cases hc1 : ce = 230
            · subst hc1
              have f2 : ((230 : Int) == 230) = true := rfl
              have hph5 := HGo.out.2.1 rfl
              have hstop := phN_stop (f := commF (giftD D)) (c := 16) (l := plats lk) (d := d) (j := j + 1) (by rw [hph5]; simp) g2
              rw [hjn, hph5] at hstop
              have HSp := Lib.hid ((HSt.out.next (by omega) (by rw [Hln.out.1]; exact hstop)).2.1 rfl)
              clear hph5 hstop hjn
              go_wp2_with fail
              try rw [Exit.noGoto_ret]
              go_ret3
              rw [HSp.out]
              exact ⟨_, _, _, l5, rfl, HS5.out.own.hn, by rw [HPl5.out, if_pos (by simp)], HS5.out.own.rd, HB5.out, HS5.out.own⟩
            · have f2 : (ce == 230) = false := by simpa using hc1
              have hph5 := HGo.out.2.2 hc0 hc1
              have hstop := phN_stop (f := commF (giftD D)) (c := 16) (l := plats lk) (d := d) (j := j + 1) (by rw [hph5]; exact hc0) g2
              rw [hjn, hph5] at hstop
              have HSp := Lib.hid ((HSt.out.next (by omega) (by rw [Hln.out.1]; exact hstop)).2.2 hc0 hc1)
              clear hph5 hstop hjn
              go_wp2_with fail
              try rw [Exit.noGoto_ret]
              go_ret3
              rw [HSp.out]
              exact SpreadR.no _ _ _ HB5.out
        skip --E1
      · have s0 := cell_in HSpk.out.blk 0 _ rfl
        go_wp2_with fail
        try rw [Exit.noGoto_ret]
        go_ret3
        rw [HSt.out.done]
        exact ⟨_, _, _, lk, rfl, HSpk.out.own.hn, rfl, HSpk.out.own.rd, HBk.out, HSpk.out.own⟩
theorem cspread_any (A : Option Addr) (n c : Nat) (l : List Dk) (v : Value) (D : Deal) (deeds : Int) (w : World) (h : RdD w A l) (hn : n = l.length) (hn9 : n ≤ 100000) (hl : ∀ x ∈ l, x.n ≤ 1000000 ∧ x.m ≤ 1000000) (hv : DV w v D) (hR : Rounds w) :
    Calls Tryz.prog 14 #[.slice A n c, v, .int .i64 deeds] w (SpreadR w (spreadC D (plats l) deeds)) := by
  by_cases hh : rightD D = true ∧ n = D.r.ns.length
  · have hE : spreadC D (plats l) deeds = spreadL (giftD D) (plats l) deeds := by unfold spreadC; rw [if_pos ⟨hh.1, by rw [plats_len, ← hn]; exact hh.2⟩]
    rw [hE]
    exact spread_yes A n c l v D deeds w h hn hl hv hR hh.1 hh.2
  · exact spread_head A n c l v D deeds w hn hn9 hv hR hh

/- Cn -/
/- ChN -/
open Go.RowKit
set_option linter.unusedVariables false
set_option linter.unusedSimpArgs false
set_option maxRecDepth 100000
set_option maxHeartbeats 16000000

def startP : Plat := (startH (sumB wordT)).1
theorem start_zero : (startH (sumB wordT)).2 = 0 := (start_fresh (sumB_size wordT)).1
theorem startP_fresh : Fresh startP (sumB wordT) := (start_fresh (sumB_size wordT)).2
theorem starts_any (n : Nat) (w : World) (hn : n ≤ 100000) (hR : Rounds w) :
    Calls Tryz.prog 12 #[.int .i64 (n : Nat)] w fun E w' => ∃ A cap l, E = .returned (.slice A n cap) ∧ OwnD w' w.heap.size A n cap l ∧ plats l = List.replicate n startP ∧ Below w.heap.size w w' := by
  have HS := Lib.hid (show ∀ W, Rounds W → Calls Tryz.prog 30 #[.string wordT] W (PlR W (startP, 0)) from fun W h => by
    have := hstart_any wordT W h
    rw [show startH (sumB wordT) = (startP, 0) from by rw [← start_zero]; rfl] at this
    exact this)
  have HR := Lib.hid hR
  clear hR
  unfold wordT at HS
  go_enter Tryz.func12, Tryz.ntmps12
  go_wp2_with fail
  go_loopw [3, 4] (fun v x wr => ∃ (k : Nat) (A : Option Addr) (cap : Nat) (l : List Dk), k ≤ n ∧ x = .int .i64 (k : Nat) ∧ v = .slice A k cap ∧ OwnD wr w.heap.size A k cap l ∧ plats l = List.replicate k startP ∧ Below w.heap.size w wr) (fun _ x _ => n - (intOf x).toNat)
  case atStart => exact ⟨0, none, 0, [], by omega, rfl, rfl, OwnD.nil _ _, rfl, Below.refl _ _⟩
  case round =>
    obtain ⟨k, A, cap, l, hk, rfl, rfl, ho, hp, hB⟩ := hrel
    have HO := Lib.hid ho
    have HP := Lib.hid hp
    have HB := Lib.hid hB
    clear ho hp hB
    by_cases hlt : k < n
    · have e1 : (k : Int) < (n : Int) := by omega
      go_wp2_with fail
      refine (HS.out _ (HR.out.below HB.out)).mono ?_
      rintro E w1 ⟨v, rfl, hv, hb⟩
      obtain ⟨xA, xn, xc, xB, xm, xd, rfl, hpb⟩ := hv
      have hO1 := HO.out.below hb
      have hB1 := HB.out.trans (hb.mono HB.out.size)
      have al := (Below.refl w1.heap.size w1).alloc (Nat.le_refl _) (.cells #[.slice xA xn xc, .slice xB xm xd] 37)
      have hO2 := Lib.hid (hO1.below al)
      have hB2 := Lib.hid (hB1.alloc hB1.size (.cells #[.slice xA xn xc, .slice xB xm xd] 37))
      have hP2 := Lib.hid (hpb.below al)
      have HX := Lib.hid (heap_alloc_new w1 (.cells #[.slice xA xn xc, .slice xB xm xd] 37))
      obtain ⟨u, hu⟩ : ∃ u, u = w1.alloc (.cells #[.slice xA xn xc, .slice xB xm xd] 37) := ⟨_, rfl⟩
      have Hu := Lib.hid hu
      rw [← hu] at hO2 hB2 hP2 HX
      clear hb al hu hO1 hB1 hpb HO HB
      go_upto_region 6 with fail
      rw [← Hu.out]
      clear Hu
      generalize w1.heap.size = gx at *
      obtain ⟨x0, x1, _, _⟩ := two_cells HX.out
      have hba := (Below.refl u.heap.size u).alloc (Nat.le_refl _) (.cells #[.slice xA xn xc, .slice xB xm xd] 37)
      have HO3 := Lib.hid (hO2.out.below hba)
      have HP3 : Hid ((⟨xA, xn, xc, xB, xm, xd, startP⟩ : Dk).ok (u.alloc (.cells #[.slice xA xn xc, .slice xB xm xd] 37))) := Lib.hid (PB.below hP2.out hba)
      have HB3 := Lib.hid (hB2.out.trans (hba.mono hB2.out.size))
      have HY := Lib.hid (heap_alloc_new u (.cells #[.slice xA xn xc, .slice xB xm xd] 37))
      clear hba
      go_wp2_with (at_builtin; refine wpList_append_dk (by rfl) (.tmp 16) (.tmp 18) (by rfl) _ (by rfl) HO3.out ⟨xA, xn, xc, xB, xm, xd, startP⟩ HP3.out u.heap.size (by rfl) 37 HY.out (by omega) HB3.out.size ?_; intro g cap' w4 ho4 hg4 hlt4)
      have hB4 : Below w.heap.size w w4 := by
        refine ⟨hg4.os.trans HB3.out.os, hg4.tape.trans HB3.out.tape, hg4.output.trans HB3.out.output, Nat.le_trans HB3.out.size hg4.size, fun k hk => (hg4.block k (Nat.lt_of_lt_of_le hk HB3.out.size) fun e => ?_).trans (HB3.out.block k hk)⟩
        have := (HO3.out.os.lt k e.symm).1
        omega
      go_roundw
      case rel => exact ⟨k + 1, _, _, l ++ [⟨xA, xn, xc, xB, xm, xd, startP⟩], by omega, by go_num, rfl, ho4, by rw [plats, List.map_append, ← plats, HP.out, List.replicate_succ']; rfl, hB4⟩
      case measure => simp [intOf]; omega
    · obtain rfl : k = n := by omega
      have e1 : ¬ (k : Int) < (k : Int) := by omega
      go_wp2_with fail
      go_ret
      exact ⟨_, _, rfl, l, HO.out, HP.out, HB.out⟩
theorem few_any (ns : List ByteArray) (A : Option Addr) (n c : Nat) (w : World) (hr : Rd w A (textsV ns)) (hn : n = ns.length) (hn9 : n ≤ maxLen) :
    Calls Tryz.prog 11 #[.slice A n c] w fun E w' => ∃ b, E = .returned (.bool b) ∧ (b = true → n ≤ 20) ∧ w' = w := by
  have HR := Lib.hid hr
  have HN := Lib.hid hn
  unfold maxLen at hn9
  clear hr hn
  go_enter Tryz.func11, Tryz.ntmps11
  go_wp2_with fail
  go_loopw [3] (fun x wr => ∃ k : Nat, k ≤ n ∧ x = .int .i64 (k : Nat) ∧ wr = w) (fun x _ => n - (intOf x).toNat)
  case atStart => exact ⟨0, by omega, rfl, rfl⟩
  case round =>
    obtain ⟨k, hk, rfl, rfl⟩ := hrel
    by_cases hlt : k < n ∧ n ≤ 20
    · have d1 : decide ((k : Int) < (n : Int)) = true := by simp; omega
      have d2 : decide ((n : Int) ≤ 20) = true := by simp; omega
      have e1 : (k : Int) < (n : Int) := by omega
      have hkl : k < ns.length := by rw [← HN.out]; exact hlt.1
      obtain ⟨b, off, rfl, c1⟩ := texts_at HR.out hkl
      generalize ns[k] = t at c1
      by_cases hz : (100 : Int) < (t.size : Int)
      · have d3 : (t.size : Int) > 100 := hz
        go_wp2_with fail
        go_ret
        exact ⟨_, rfl, fun h => (by cases h), rfl⟩
      · have d3 : ¬ (t.size : Int) > 100 := hz
        go_wp2_with fail
        go_roundw
        case rel => exact ⟨k + 1, by omega, by go_num, by trivial⟩
        case measure => simp [intOf]; omega
    · have fin : ∀ b : Bool, b = (decide ((n : Int) ≤ 6) || (decide ((n : Int) > 16) && decide ((n : Int) ≤ 20))) → (b = true → n ≤ 20) := by
        intro b hb h
        rw [hb] at h
        simp at h
        omega
      by_cases hkn : k < n
      · have d1 : decide ((k : Int) < (n : Int)) = true := by simp; omega
        have d2 : decide ((n : Int) ≤ 20) = false := by simp; omega
        have d3 : decide ((n : Int) ≤ 6) = false := by simp; omega
        have d4 : decide ((n : Int) > 16) = true := by simp; omega
        go_wp2_with fail
        go_ret
        exact ⟨_, rfl, fun h => (by cases h), rfl⟩
      · have d1 : decide ((k : Int) < (n : Int)) = false := by simp; omega
        by_cases q1 : n ≤ 6
        · have d3 : decide ((n : Int) ≤ 6) = true := by simp; omega
          go_wp2_with fail
          go_ret
          exact ⟨_, rfl, fun _ => by omega, rfl⟩
        · have d3 : decide ((n : Int) ≤ 6) = false := by simp; omega
          by_cases q2 : 16 < n
          · have d4 : decide ((n : Int) > 16) = true := by simp; omega
            by_cases q3 : n ≤ 20
            · have d5 : decide ((n : Int) ≤ 20) = true := by simp; omega
              go_wp2_with fail
              go_ret
              exact ⟨_, rfl, fun _ => q3, rfl⟩
            · have d5 : decide ((n : Int) ≤ 20) = false := by simp; omega
              go_wp2_with fail
              go_ret
              exact ⟨_, rfl, fun h => (by cases h), rfl⟩
          · have d4 : decide ((n : Int) > 16) = false := by simp; omega
            go_wp2_with fail
            go_ret
            exact ⟨_, rfl, fun h => (by cases h), rfl⟩

/- ChV -/
open Go.RowKit
set_option linter.unusedVariables false
set_option maxRecDepth 20000

theorem word_len : (sumB wordT).size = 32 := by
  unfold sumB
  rw [if_pos (by decide)]
  exact sumL_len _
/-- The deal of the document's rows. -/
def docD : Deal := dealC seedT [ann2, bob2] 2 1
theorem comm_there {g : Nat → Gift} {cred : ByteArray} {l : List Plat} {e : Int} (hg : ∀ i, i < l.length → (g i).ok ∧ (g i).e = e) (h : ∀ i, i < l.length → CommZ (g i) cred (l.getD i noPlat)) (h0 : 0 < l.length) : thereB e l = true := by
  unfold thereB
  rw [List.any_eq_true]
  have hm : l.getD 0 noPlat ∈ l := by
    rw [List.getD_eq_getElem?_getD, List.getElem?_eq_getElem h0]
    exact List.getElem_mem h0
  refine ⟨_, hm, ?_⟩
  rw [comm_gets (hg 0 h0).1 (h 0 h0)]
  simp only [decide_eq_true_eq]
  exact (hg 0 h0).2
/-- Settled behind a whole Spread: each holds its gift. -/
theorem comm_settle {g : Nat → Gift} {cred : ByteArray} {l : List Plat} {e : Int} (he0 : 1 ≤ e) (he1 : e ≤ 1000000) (hg : ∀ i, i < l.length → (g i).ok ∧ (g i).e = e) (h : ∀ i, i < l.length → CommZ (g i) cred (l.getD i noPlat)) (h0 : 0 < l.length) :
    ∃ s, settleL l e = (s, 0) ∧ s.length = l.length ∧ ∀ i, i < l.length → (getH (s.getD i noPlat)).2 = 0 ∧ (getH (s.getD i noPlat)).1.epoch = e ∧ (getH (s.getD i noPlat)).1.x = (g i).x ∧ (getH (s.getD i noPlat)).1.b = (g i).b := by
  obtain ⟨s, h1, h2, h3⟩ := settle_all he0 he1 hg (.inr fun i hi => .inr (h i hi).d)
  refine ⟨s, h1, h2, ?_⟩
  rcases h3 with h3 | h3
  · exfalso
    obtain ⟨_, b, _, _, _, h4⟩ := settle_twice h1
    rcases h4 with ⟨h4, _⟩ | h4
    · rw [comm_there hg h h0] at h4
      cases h4
    · have a := h4 0 (by omega)
      have b := (h3 0 h0).2
      omega
  · exact h3
theorem doc_law : rightD docD = true ∧ docD.sh.length = 2 ∧ docD.r.ns.length = 2 ∧ docD.r.ns = [ann2, bob2] ∧ ∃ L M h0 h1, spreadC docD (List.replicate 2 startP) (-1) = (L, true, 0) ∧ settleL L 1 = (M, 0) ∧ M.length = 2 ∧ getH (M.getD 0 noPlat) = (h0, 0) ∧ h0.epoch = 1 ∧ getH (M.getD 1 noPlat) = (h1, 0) ∧ h1.epoch = 1 ∧ docD.sh.getD 1 (0, noneT) = (h1.x, h1.b) ∧ L.length = 2 ∧ ∀ P ∈ L, checkB P = true := by
  obtain ⟨m, hm, hm1, h16, _, hgd, he, hns⟩ := cOK_good cOK2
  have hgd : Good docD m (cRest (tapeOf seedT) m).data.toList := hgd
  have he : docD.r.e = 1 := he
  have hns : docD.r.ns = [ann2, bob2] := hns
  have hl : docD.r.ns.length = 2 := by rw [hns]; rfl
  have hr := good_right hgd
  have hsh : docD.sh.length = 2 := by rw [hgd.sh]; simp [hl]
  refine ⟨hr, hsh, hl, hns, ?_⟩
  have hgo : ∀ i, i < 2 → (giftD docD i).ok ∧ (giftD docD i).e = 1 := fun i hi => ⟨good_gift hgd (by omega), he⟩
  obtain ⟨L, done, s1, s2, s3, s4, _⟩ := spread_crash (g := giftD docD) (cred := sumB wordT) (l := List.replicate 2 startP) (fun i hi => (hgo i (by simpa using hi)).1) (fun i hi => by
    have : (List.replicate 2 startP).getD i noPlat = startP := by
      rw [List.getD_eq_getElem?_getD, List.getElem?_eq_getElem hi, List.getElem_replicate]
      rfl
    rw [this]
    exact fresh_old startP_fresh word_len he) (-1)
  have hd := s3 (by omega)
  subst hd
  simp only [List.length_replicate] at s2 s4
  have hz := s4 trivial
  obtain ⟨M, t1, t2, t3⟩ := comm_settle (g := giftD docD) (cred := sumB wordT) (l := L) (e := 1) (by omega) (by omega) (by rw [s2]; exact hgo) (by rw [s2]; exact hz) (by omega)
  rw [s2] at t2 t3
  have a0 := t3 0 (by omega)
  have a1 := t3 1 (by omega)
  refine ⟨L, M, (getH (M.getD 0 noPlat)).1, (getH (M.getD 1 noPlat)).1, ?_, t1, t2, ?_, a0.2.1, ?_, a1.2.1, ?_, s2, fun P hP => ?_⟩
  · unfold spreadC
    rw [if_pos ⟨hr, by rw [hl]; simp⟩]
    exact s1
  · rw [← a0.1]
  · rw [← a1.1]
  · rw [a1.2.2.1, a1.2.2.2]
    rfl
  · obtain ⟨i, hi, e⟩ := List.mem_iff_getElem.1 hP
    have := (hz i (by omega)).1.chk
    rw [List.getD_eq_getElem?_getD, List.getElem?_eq_getElem hi] at this
    rw [← e]
    exact this

/- ChM -/
open Go.RowKit
set_option linter.unusedVariables false
set_option linter.unusedSimpArgs false
set_option maxRecDepth 100000
set_option maxHeartbeats 16000000

theorem rd_of_blk {w : World} {g : Nat} {cs : Array Value} {t : TypeId} (h : w.heap[g]? = some (.cells cs t (0, 0))) : Rd w (some ⟨g, 0, none⟩) cs.toList := fun i u hu => by
  refine ⟨g, 0, rfl, ?_⟩
  rw [Nat.zero_add, cell_of_row w g i cs t (0, 0) h]
  simpa using hu
theorem start_len : startP.ss.length = 6 ∧ startP.cs.length = 0 := by
  obtain ⟨A, B, h, _⟩ := startP_fresh.ex
  rw [h]
  exact ⟨rfl, rfl⟩
theorem dk_of_plats {w : World} {B0 : Nat} {A : Option Addr} {n cap k : Nat} {l : List Dk} {P : Plat} (ho : OwnD w B0 A n cap l) (h : plats l = List.replicate k P) : ∀ x ∈ l, x.n = P.ss.length ∧ x.m = P.cs.length := by
  intro x hx
  have h1 : x.P ∈ plats l := by unfold plats; exact List.mem_map_of_mem hx
  rw [h] at h1
  have h2 := List.eq_of_mem_replicate h1
  have h3 := ho.ok x hx
  exact ⟨by rw [← h2]; exact h3.hn, by rw [← h2]; exact h3.hm⟩
theorem dk_chk {w : World} {x : Dk} (h : x.ok w) (hc : checkB x.P = true) : x.n ≤ 1000000 ∧ x.m ≤ 1000000 := by
  unfold checkB at hc
  simp only [Bool.and_eq_true, decide_eq_true_eq] at hc
  have h1 := h.hn
  have h2 := h.hm
  omega
theorem mem_plats {l : List Dk} {x : Dk} (h : x ∈ l) : x.P ∈ plats l := by unfold plats; exact List.mem_map_of_mem h
theorem changes_any (w : World) (hT : Turns w) (hR : Rounds w) :
    Calls Tryz.prog 8 #[] w fun E w' => E = .returned (.bool true) ∧ Below w.heap.size w w' := by
  obtain ⟨r1, r2, r3, r4, L, M, ⟨e0, t0, x0, b0, s0, c0, n0, nx0, nb0, ns0⟩, ⟨e1, t1, x1, b1, s1, c1, n1, nx1, nb1, ns1⟩, hL, hM, hM2, hg0, he0, hg1, he1, hsh, hL2, hLc⟩ := doc_law
  simp only at he0 he1 hsh
  subst he0 he1
  have HR := Lib.hid hR
  have HT := Lib.hid hT
  have hDE : dealE seedT [ann2, bob2] 2 1 = 0 := by unfold dealE; rw [if_pos cOK2]
  have hDE3 : dealE seedT [ann2, bob2] 3 1 = 180 := by unfold dealE; rw [if_neg (by rw [cOK3]; decide)]
  have HD1 := Lib.hid (show ∀ (W : World) (g : Nat), W.heap[g]? = some (.cells #[.string ann2, .string bob2] 9 (0, 0)) → Turns W → Rounds W → Calls Tryz.prog 13 #[.string seedT, .slice (some ⟨g, 0, none⟩) 2 2, .int .i64 2, .int .i64 1] W (CDealR W docD 0) from fun W g hg h1 h2 => by
    have := cdeal_any seedT [ann2, bob2] (some ⟨g, 0, none⟩) 2 2 2 1 W (rd_of_blk hg) rfl (by unfold maxLen; omega) h1 h2
    rw [hDE] at this
    exact this)
  have HD3 := Lib.hid (show ∀ (W : World) (g : Nat), W.heap[g]? = some (.cells #[.string ann2, .string bob2] 9 (0, 0)) → Turns W → Rounds W → Calls Tryz.prog 13 #[.string seedT, .slice (some ⟨g, 0, none⟩) 2 2, .int .i64 3, .int .i64 1] W (fun E w' => ∃ D', CDealR W D' 180 E w') from fun W g hg h1 h2 => by
    have := cdeal_any seedT [ann2, bob2] (some ⟨g, 0, none⟩) 2 2 3 1 W (rd_of_blk hg) rfl (by unfold maxLen; omega) h1 h2
    rw [hDE3] at this
    exact this.mono fun E w' h => ⟨_, h⟩)
  have HSt := Lib.hid (fun W h => starts_any 2 W (by omega) h)
  have HL := Lib.hid hL
  have HM := Lib.hid hM
  have HG := Lib.hid (And.intro hg0 hg1)
  have HE := Lib.hid (And.intro r1 (And.intro r2 (And.intro r3 hsh)))
  have HM2 := Lib.hid hM2
  have HLc := Lib.hid hLc
  have HL2 := Lib.hid hL2
  clear hL2
  generalize docD = D at *
  unfold seedT ann2 bob2 at HD1 HD3
  clear hDE hDE3 hT hR hL hM hg0 hg1 r1 r2 r3 r4 hsh hM2 hLc
  go_enter Tryz.func8, Tryz.ntmps8
  go_wp2_with fail
  have al0 := (Below.refl w.heap.size w).alloc (Nat.le_refl _) (.cells #[.string ann2, .string bob2] 9)
  refine Calls.mono (HD1.out _ w.heap.size (heap_alloc_new w _) (HT.out.below al0) (HR.out.below al0)) ?_
  rintro e w1 ⟨v, rfl, hv, hb1⟩
  obtain ⟨A, n, c, B, m, d, C, p, q, E, s, t, rfl, k1, k2, k3, k4, k5, k6, k7, k8⟩ := hv
  have hv : DV w1 (.agg #[.int .i64 D.r.e, .int .i64 D.r.k, .slice A n c, .slice B m d, .string D.sec, .slice C p q, .slice E s t]) D := ⟨A, n, c, B, m, d, C, p, q, E, s, t, rfl, k1, k2, k3, k4, k5, k6, k7, k8⟩
  have HP2 : Hid (p = 2) := Lib.hid (by rw [k6]; exact HE.out.2.1)
  have HSh := Lib.hid k5
  have hbw := Below.chain al0 hb1
  have al := (Below.refl w1.heap.size w1).alloc (Nat.le_refl _) (.cells #[.int .i64 D.r.e, .int .i64 D.r.k, .slice A n c, .slice B m d, .string D.sec, .slice C p q, .slice E s t] 47)
  have HB := Lib.hid (Below.chain hbw al)
  have HV := Lib.hid (hv.below al)
  have HX := Lib.hid (heap_alloc_new w1 (.cells #[.int .i64 D.r.e, .int .i64 D.r.k, .slice A n c, .slice B m d, .string D.sec, .slice C p q, .slice E s t] 47))
  have HShu := Lib.hid (HSh.out.below al)
  obtain ⟨u, hu⟩ : ∃ u, u = w1.alloc (.cells #[.int .i64 D.r.e, .int .i64 D.r.k, .slice A n c, .slice B m d, .string D.sec, .slice C p q, .slice E s t] 47) := ⟨_, rfl⟩
  have Hu := Lib.hid hu
  rw [← hu] at HB HV HX HShu
  clear hu al hbw al0 hb1 hv k1 k2 k3 k4 k5 k6 k7 k8 HSh HD1
  go_upto_region 2 with fail
  rw [← Hu.out]
  clear Hu
  generalize w1.heap.size = X at *
  obtain ⟨⟨z0, z1, z2, z3, z4, z5, z6⟩, zf⟩ := seven_cells HX.out
  have z := And.intro (And.intro (And.intro z0 z1) (And.intro z2 z3)) (And.intro (And.intro z4 z5) z6)
  clear z0 z1 z2 z3 z4 z5 z6 zf
  have HBu := Lib.hid HB.out.drew
  go_wp2_with fail
  go_region_held3 (fun w' => ((w'.cell? ⟨X, 0, none⟩ = some (.int .i64 D.r.e) ∧ w'.cell? ⟨X, 1, none⟩ = some (.int .i64 D.r.k)) ∧ (w'.cell? ⟨X, 2, none⟩ = some (.slice A n c) ∧ w'.cell? ⟨X, 3, none⟩ = some (.slice B m d))) ∧ (w'.cell? ⟨X, 4, none⟩ = some (.string D.sec) ∧ w'.cell? ⟨X, 5, none⟩ = some (.slice C p q)) ∧ w'.cell? ⟨X, 6, none⟩ = some (.slice E s t))
    (first | with_reducible assumption | exact z | exact keep7_below z hb3 | exact keep7_below z hb5)
    (first
      | (go_at_call 12; refine Calls.mono (HSt.out _ (HR.out.below HBu.out)) ?_; rintro _ w2 ⟨A3, cap3, l3, rfl, ho3, hp3, hb2⟩; have hb3 := Below.chain ((Below.refl u.heap.size u).drew) hb2)
      | (go_at_call 14; refine Calls.mono (cspread_any A3 2 cap3 l3 _ D (-1) _ ho3.rd ho3.hn (by omega) (fun x hx => by have := dk_of_plats ho3 hp3 x hx; have := start_len; omega) (HV.out.below hb3) (HR.out.below (Below.chain HB.out hb3))) ?_; rw [hp3, HL.out]; rintro _ w4 ⟨A4, n4, cap4, l4, rfl, hn4, hp4, hr4, hb4, ho4⟩; clear ho4; replace hn4 := Lib.hid hn4; have hb5 := Below.chain hb3 hb4))
  rename_i hheld
  have HX5 := hblk_below HX hb5
  have HB5 := Lib.hid (Below.chain HB.out hb5)
  have HV5 := Lib.hid (HV.out.below hb5)
  have HSh5 := Lib.hid (HShu.out.below hb5)
  have HSe := Lib.hid (settle_any2 A4 n4 cap4 l4 1 w4 hr4 hn4.out (by
      have h2 : (plats l4).length = 2 := by rw [hp4, HL2.out]
      rw [plats_len, ← hn4.out] at h2
      omega) (fun x hx => dk_chk (hr4.ok x hx) (HLc.out _ (by have := mem_plats hx; rw [hp4] at this; exact this))))
  rw [hp4, HM.out] at HSe
  clear hheld hb5 hb4 hr4 hb2 hb3 ho3 hp3 hn4 hp4 HX HB HV HShu HBu z HSt HL
  go_wp2_with fail
  refine HSe.out.mono ?_
  rintro _ w6 ⟨A6, n6, cap6, l6, rfl, hn6, hp6, hr6, hb6⟩
  simp only at hp6
  have h26 : n6 = 2 := by
    have h2 : (plats l6).length = 2 := by rw [hp6, HM2.out]
    rw [plats_len, ← hn6] at h2
    exact h2
  replace HX := hblk_below HX5 hb6
  replace HB := Lib.hid (Below.chain HB5.out hb6)
  replace HV := Lib.hid (HV5.out.below hb6)
  replace HSh := Lib.hid (HSh5.out.below hb6)
  have HR6 := Lib.hid hr6
  have HN6 := Lib.hid hn6
  have HP6 := Lib.hid hp6
  clear hr6 hn6 hp6 hb6 HX5 HB5 HV5 HSh5 HSe
  subst h26
  go_wp2_with fail
  have hA7 := (Below.refl w6.heap.size w6).alloc (Nat.le_refl _) (.cells #[.string ann2, .string bob2] 9)
  refine Calls.mono (HD3.out _ w6.heap.size (heap_alloc_new w6 _) (HT.out.below (Below.chain HB.out hA7)) (HR.out.below (Below.chain HB.out hA7))) ?_
  rintro e w7 ⟨D', v7, rfl, ⟨D1, D2, D3, D4, D5, D6, D7, D8, D9, D10, D11, D12, rfl, hrest⟩, hb7⟩
  clear hrest
  have hb8 := Below.chain hA7 hb7
  have al := (Below.refl w7.heap.size w7).alloc (Nat.le_refl _) (.cells #[.int .i64 D'.r.e, .int .i64 D'.r.k, .slice D1 D2 D3, .slice D4 D5 D6, .string D'.sec, .slice D7 D8 D9, .slice D10 D11 D12] 47)
  have hb9 := Below.chain hb8 al
  replace HX := hblk_below HX hb9
  replace HB := Lib.hid (Below.chain HB.out hb9)
  replace HV := Lib.hid (HV.out.below hb9)
  replace HSh := Lib.hid (HSh.out.below hb9)
  replace HR6 := Lib.hid (HR6.out.below hb9)
  obtain ⟨u7, hu7⟩ : ∃ u, u = w7.alloc (.cells #[.int .i64 D'.r.e, .int .i64 D'.r.k, .slice D1 D2 D3, .slice D4 D5 D6, .string D'.sec, .slice D7 D8 D9, .slice D10 D11 D12] 47) := ⟨_, rfl⟩
  have Hu7 := Lib.hid hu7
  rw [← hu7] at HX HB HV HSh HR6
  clear hA7 hb7 hb8 al hb9 hu7 HD3
  obtain rfl : p = 2 := HP2.out
  go_upto_region 5 with fail
  rw [← Hu7.out]
  clear Hu7
  have z5 := (seven_cells HX.out).1.2.2.2.2.2.1
  have hl6 : l6.length = 2 := HN6.out.symm
  have h60 : 0 < l6.length := by omega
  have h61 : 1 < l6.length := by omega
  obtain ⟨b6, o6, hA6, c60, c61⟩ := dk_at HR6.out.rd (i := 0) h60
  obtain ⟨b6', o6', hA6', c62, c63⟩ := dk_at HR6.out.rd (i := 1) h61
  rw [hA6] at hA6'
  injection hA6' with hA6'
  injection hA6' with hx1 hx2
  subst hx1 hx2 hA6
  have hok0 := HR6.out.ok _ (List.getElem_mem h60)
  have hok1 := HR6.out.ok _ (List.getElem_mem h61)
  have hp0 : l6[0].P = M.getD 0 noPlat := by rw [← HP6.out, plats_at h60]
  have hp1 : l6[1].P = M.getD 1 noPlat := by rw [← HP6.out, plats_at h61]
  have hg0' := HG.out.1
  have hg1' := HG.out.2
  rw [← hp0] at hg0'
  rw [← hp1] at hg1'
  have HG0 := Lib.hid hg0'
  have HG1 := Lib.hid hg1'
  clear hg0' hg1'
  clear hp0 hp1
  generalize l6[0] = d0 at c60 c61 hok0 HG0
  generalize l6[1] = d1 at c62 c63 hok1 HG1
  clear hl6 h60 h61
  obtain ⟨xA, xn, xc, xB, xm, xd, xP⟩ := d0
  obtain ⟨yA, yn, yc, yB, ym, yd, yP⟩ := d1
  simp only [Nat.zero_mul, Nat.add_zero, Nat.one_mul] at c60 c61 c62 c63
  have HO0 := Lib.hid (show PB u7 xA xn xB xm xP from hok0)
  have HO1 := Lib.hid (show PB u7 yA yn yB ym yP from hok1)
  simp only at HG0 HG1
  have HGx := Lib.hid (show ∀ W, PB W xA xn xB xm xP → Calls Tryz.prog 9 #[.agg #[.slice xA xn xc, .slice xB xm xd]] W (fun e w' => e = .returned (.tuple #[.agg #[.int .i64 1, .int .i64 t0, .int .i64 x0, .string b0, .string s0, .string c0, .int .i64 n0, .int .i64 nx0, .string nb0, .string ns0], .int .i64 0]) ∧ Below W.heap.size W w') from fun W h => by
    have := hget_any (.agg #[.slice xA xn xc, .slice xB xm xd]) xP W ⟨_, _, _, _, _, _, rfl, h⟩
    rw [HG0.out] at this
    exact this)
  have HGy := Lib.hid (show ∀ W, PB W yA yn yB ym yP → Calls Tryz.prog 9 #[.agg #[.slice yA yn yc, .slice yB ym yd]] W (fun e w' => e = .returned (.tuple #[.agg #[.int .i64 1, .int .i64 t1, .int .i64 x1, .string b1, .string s1, .string c1, .int .i64 n1, .int .i64 nx1, .string nb1, .string ns1], .int .i64 0]) ∧ Below W.heap.size W w') from fun W h => by
    have := hget_any (.agg #[.slice yA yn yc, .slice yB ym yd]) yP W ⟨_, _, _, _, _, _, rfl, h⟩
    rw [HG1.out] at this
    exact this)
  have C2 := Lib.hid c62
  have C3 := Lib.hid c63
  clear hok0 hok1 c62 c63 HR6 HN6 HP6 HM HG HM2
  go_wp2_with fail
  refine Calls.mono (HGx.out _ HO0.out) ?_
  rintro e w8 ⟨rfl, hb8⟩
  have al8 := (Below.refl w8.heap.size w8).alloc (Nat.le_refl _) (.cells #[.int .i64 1, .int .i64 t0, .int .i64 x0, .string b0, .string s0, .string c0, .int .i64 n0, .int .i64 nx0, .string nb0, .string ns0] 31)
  have hb9 := Below.chain hb8 al8
  have HH0 := Lib.hid (heap_alloc_new w8 (.cells #[.int .i64 1, .int .i64 t0, .int .i64 x0, .string b0, .string s0, .string c0, .int .i64 n0, .int .i64 nx0, .string nb0, .string ns0] 31))
  replace HX := hblk_below HX hb9
  replace HB := Lib.hid (Below.chain HB.out hb9)
  replace HV := Lib.hid (HV.out.below hb9)
  replace HSh := Lib.hid (HSh.out.below hb9)
  have HO1' := Lib.hid (HO1.out.below hb9)
  have C2' := Lib.hid ((hb9.cell (cell_lt C2.out)).trans C2.out)
  have C3' := Lib.hid ((hb9.cell (cell_lt C3.out)).trans C3.out)
  obtain ⟨u8, hu8⟩ : ∃ u, u = w8.alloc (.cells #[.int .i64 1, .int .i64 t0, .int .i64 x0, .string b0, .string s0, .string c0, .int .i64 n0, .int .i64 nx0, .string nb0, .string ns0] 31) := ⟨_, rfl⟩
  have Hu8 := Lib.hid hu8
  rw [← hu8] at HX HB HV HSh HH0 HO1' C2' C3'
  clear hb8 al8 hb9 hu8 HGx HO0 c60 c61 z5 HO1 C2 C3
  go_upto_region 8 with fail
  rw [← Hu8.out]
  clear Hu8
  generalize w8.heap.size = G0 at *
  have c2 := C2'.out
  have c3 := C3'.out
  go_wp2_with fail
  refine Calls.mono (HGy.out _ HO1'.out) ?_
  rintro e w9 ⟨rfl, hb9⟩
  have al9 := (Below.refl w9.heap.size w9).alloc (Nat.le_refl _) (.cells #[.int .i64 1, .int .i64 t1, .int .i64 x1, .string b1, .string s1, .string c1, .int .i64 n1, .int .i64 nx1, .string nb1, .string ns1] 31)
  have hb10 := Below.chain hb9 al9
  have HH1 := Lib.hid (heap_alloc_new w9 (.cells #[.int .i64 1, .int .i64 t1, .int .i64 x1, .string b1, .string s1, .string c1, .int .i64 n1, .int .i64 nx1, .string nb1, .string ns1] 31))
  replace HH0 := hblk_below HH0 hb10
  replace HX := hblk_below HX hb10
  replace HB := Lib.hid (Below.chain HB.out hb10)
  replace HV := Lib.hid (HV.out.below hb10)
  replace HSh := Lib.hid (HSh.out.below hb10)
  obtain ⟨u9, hu9⟩ : ∃ u, u = w9.alloc (.cells #[.int .i64 1, .int .i64 t1, .int .i64 x1, .string b1, .string s1, .string c1, .int .i64 n1, .int .i64 nx1, .string nb1, .string ns1] 31) := ⟨_, rfl⟩
  have Hu9 := Lib.hid hu9
  rw [← hu9] at HX HB HV HSh HH0 HH1
  clear hb9 al9 hb10 hu9 HGy HO1' c2 c3 C2' C3'
  go_upto_region 9 with fail
  rw [← Hu9.out]
  clear Hu9
  generalize w9.heap.size = G1 at *
  have h1l : 1 < D.sh.length := by have := HE.out.2.1; omega
  obtain ⟨bC, oC, hC⟩ : ∃ b o, C = some ⟨b, o, none⟩ := by
    obtain ⟨b, o, h, _⟩ := HSh.out.shr h1l
    exact ⟨b, o, h⟩
  subst hC
  obtain ⟨g2, g3⟩ := shr_at' HSh.out h1l
  rw [HE.out.2.2.2] at g2 g3
  simp only [Nat.one_mul] at g2 g3
  obtain ⟨z0, z1, z2, z3, z4, z5, z6⟩ := (seven_cells HX.out).1
  have y0 := fun y : Later u9 => y.cell z0
  have y1 := fun y : Later u9 => y.cell z1
  have y2 := fun y : Later u9 => y.cell z2
  have y3 := fun y : Later u9 => y.cell z3
  have y4 := fun y : Later u9 => y.cell z4
  have y5 := fun y : Later u9 => y.cell z5
  have y6 := fun y : Later u9 => y.cell z6
  have y7 := fun y : Later u9 => y.cell g2
  have y8 := fun y : Later u9 => y.cell g3
  have y9 := fun y : Later u9 => y.cell (cell_in HH0.out 0 _ rfl)
  have y10 := fun y : Later u9 => y.cell (cell_in HH1.out 0 _ rfl)
  have y11 := fun y : Later u9 => y.cell (cell_in HH1.out 2 _ rfl)
  have y12 := fun y : Later u9 => y.cell (cell_in HH1.out 3 _ rfl)
  have HCk := Lib.hid (fun y : Later u9 => later_call (y := y) (rcheck_any _ D y.x (HV.out.below y.ok) (HR.out.below (Below.chain HB.out y.ok))))
  rw [HE.out.1] at HCk
  have q1 : (b1.toList == b1.toList) = true := beq_self_eq_true _
  have q2 : (x1 == x1) = true := beq_self_eq_true _
  clear z0 z1 z2 z3 z4 z5 z6 g2 g3 h1l
  refine wp_region_later (by kernel_rfl) (by kernel_rfl) ?_
  repeat (go_big_quiet_step (exact HCk.out _))
  refine wpQuiet_nil ?_
  rintro _ ⟨y, rfl⟩
  go_wp2_with fail
  go_ret
  exact ⟨rfl, Below.chain HB.out y.ok⟩

/- ChG -/
open Go.RowKit
set_option linter.unusedVariables false
set_option maxRecDepth 20000

def smallP (P : Plat) : Prop := P.ss.length ≤ 1000000 ∧ P.cs.length ≤ 1000000
theorem chk_small {P : Plat} (h : checkB P = true) : smallP P := by
  unfold checkB at h
  simp only [Bool.and_eq_true, decide_eq_true_eq] at h
  exact ⟨by omega, by omega⟩
theorem crash_small {f : List Int} {P : Plat} (h : (crashP f P).2 = 0) : smallP (crashP f P).1 := by
  unfold crashP settleP at h ⊢
  by_cases hc : checkB P = false
  · rw [if_pos hc] at h
    simp at h
  · rw [if_neg hc]
    have := chk_small (P := P) (by simpa using hc)
    exact ⟨by simp only; rw [fallTo_len]; exact this.1, by simp⟩
theorem old_small {g : Gift} {c : ByteArray} {P : Plat} (h : OldD g c P) : smallP P := by
  obtain ⟨t, b, h, _⟩ := h
  exact chk_small h.chk
/-- Disks of the epoch ahead of e, each of a gift that is to come. -/
def Olds (c : ByteArray) (e : Int) (n : Nat) (l : List Plat) : Prop := l.length = n ∧ ∀ i, i < n → ∀ g : Gift, g.e = e → OldD g c (l.getD i noPlat)
theorem starts_olds (n : Nat) : Olds (sumB wordT) 1 n (List.replicate n startP) := by
  refine ⟨by simp, fun i hi g hg => ?_⟩
  have : (List.replicate n startP).getD i noPlat = startP := by
    rw [List.getD_eq_getElem?_getD, List.getElem?_eq_getElem (by simpa using hi), List.getElem_replicate]
    rfl
  rw [this]
  exact fresh_old startP_fresh word_len hg
theorem Olds.small {c : ByteArray} {e : Int} {n : Nat} {l : List Plat} (h : Olds c e n l) : ∀ P ∈ l, smallP P := by
  intro P hP
  obtain ⟨i, hi, rfl⟩ := List.mem_iff_getElem.1 hP
  have := h.2 i (by rw [← h.1]; exact hi) ⟨e, 0, none0, none0⟩ rfl
  rw [List.getD_eq_getElem?_getD, List.getElem?_eq_getElem hi] at this
  exact old_small this
/-- A first epoch that is spread whole. -/
theorem first_law {seed : ByteArray} {ns : List ByteArray} {k : Int} (h : cOK seed ns k 1 = true) : ∃ L, spreadC (dealC seed ns k 1) (List.replicate ns.length startP) (-1) = (L, true, 0) ∧ Olds (sumB wordT) 2 ns.length L := by
  obtain ⟨m, hm, hm1, h16, _, hgd, he, hns⟩ := cOK_good h
  generalize dealC seed ns k 1 = D at hgd he hns ⊢
  have ho := starts_olds ns.length
  have hgo : ∀ i, i < ns.length → (giftD D i).ok := fun i hi => good_gift hgd (by rw [hns]; exact hi)
  obtain ⟨L, done, s1, s2, s3, s4, _⟩ := spread_crash (g := giftD D) (cred := sumB wordT) (l := List.replicate ns.length startP) (fun i hi => hgo i (by simpa using hi)) (fun i hi => ho.2 i (by simpa using hi) _ he) (-1)
  have hd := s3 (by omega)
  subst hd
  refine ⟨L, ?_, by rw [s2]; simp, fun i hi g hg => ?_⟩
  · unfold spreadC
    rw [if_pos ⟨good_right hgd, by rw [hns]; simp⟩]
    exact s1
  · exact comm_old (hgo i hi) (s4 rfl i (by simpa using hi)) (by rw [hg]; show 2 = (giftD D i).e + 1; rw [show (giftD D i).e = D.r.e from rfl, he]; rfl)
/-- What is settled behind whatever crashes. -/
def Whole (D : Deal) (e : Int) (n : Nat) (s : List Plat) : Prop := s.length = n ∧ ((∀ i, i < n → (getH (s.getD i noPlat)).2 = 0 ∧ (getH (s.getD i noPlat)).1.epoch = e - 1) ∨
  ∀ i, i < n → (getH (s.getD i noPlat)).2 = 0 ∧ (getH (s.getD i noPlat)).1.epoch = e ∧ ((getH (s.getD i noPlat)).1.x, (getH (s.getD i noPlat)).1.b) = D.sh.getD i (0, noneT))
theorem whole_law {seed : ByteArray} {ns : List ByteArray} {k e : Int} {l : List Plat} {c : ByteArray} (h : cOK seed ns k e = true) (ho : Olds c e ns.length l) (deeds : Int) :
    ∃ L done, spreadC (dealC seed ns k e) l deeds = (L, done, 0) ∧ L.length = ns.length ∧ 1 ≤ ns.length ∧ ns.length ≤ 16 ∧ (dealC seed ns k e).sh.length = ns.length ∧
      ∀ fates : Nat → List Int, (∀ i, i < ns.length → (crashP (fates i) (L.getD i noPlat)).2 = 0) ∧
        ∀ l' : List Plat, l'.length = ns.length → (∀ i, i < ns.length → l'.getD i noPlat = (crashP (fates i) (L.getD i noPlat)).1) → (∀ P ∈ l', smallP P) ∧ ∃ s, settleL l' e = (s, 0) ∧ Whole (dealC seed ns k e) e ns.length s := by
  obtain ⟨m, hm, hm1, h16, _, hgd, he, hns⟩ := cOK_good h
  generalize dealC seed ns k e = D at hgd he hns ⊢
  obtain ⟨e0, e1, _⟩ := check_head hgd.ck
  rw [he] at e0 e1
  have hgo : ∀ i, i < ns.length → (giftD D i).ok ∧ (giftD D i).e = e := fun i hi => ⟨good_gift hgd (by rw [hns]; exact hi), he⟩
  obtain ⟨L, done, s1, s2, _, _, s5⟩ := spread_crash (g := giftD D) (cred := c) (l := l) (fun i hi => (hgo i (by rw [← ho.1]; exact hi)).1) (fun i hi => ho.2 i (by rw [← ho.1]; exact hi) _ he) deeds
  rw [ho.1] at s2 s5
  refine ⟨L, done, ?_, s2, by omega, h16, by rw [hgd.sh]; simp [hns], fun fates => ⟨(s5 fates).1, fun l' hl hl' => ?_⟩⟩
  · unfold spreadC
    rw [if_pos ⟨good_right hgd, by rw [ho.1, hns]⟩]
    exact s1
  obtain ⟨s, t1, t2, t3⟩ := settle_all (g := giftD D) (cred := c) (l := l') e0 e1 (by rw [hl]; exact hgo) (by
    rw [hl]
    rcases (s5 fates).2 with k | k
    · exact .inl fun i hi => by rw [hl' i hi]; exact k i hi
    · exact .inr fun i hi => by rw [hl' i hi]; exact k i hi)
  rw [hl] at t2 t3
  refine ⟨fun P hP => ?_, s, t1, t2, ?_⟩
  · obtain ⟨i, hi, rfl⟩ := List.mem_iff_getElem.1 hP
    have h1 := hl' i (by rw [← hl]; exact hi)
    rw [List.getD_eq_getElem?_getD, List.getElem?_eq_getElem hi] at h1
    have h2 := crash_small ((s5 fates).1 i (by rw [← hl]; exact hi))
    rw [← h1] at h2
    exact h2
  · rcases t3 with k | k
    · exact .inl k
    · exact .inr fun i hi => ⟨(k i hi).1, (k i hi).2.1, by rw [(k i hi).2.2.1, (k i hi).2.2.2]; rfl⟩

end Go.Proofs.YtgkihdhjafmnnaaGreatDoor
