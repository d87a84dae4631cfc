/-
  Contracts of the law's starts and few.
  The document's rows of change, plainly.
  Contract of the law's changes: the document's rows hold.
  A Spread stopped and crashed, plainly: the law of ChangeWhole.
-/
import Derived.Test.YtgkihdhjafmnnaaGreatDoorCs
import Derived.Test.YtgkihdhjafmnnaaGreatDoorCy
import Derived.Test.YtgkihdhjafmnnaaGreatDoorHr
namespace Go.Proofs.YtgkihdhjafmnnaaGreatDoor
/- ChN -/
open Go.RowKit
set_option linter.unusedVariables false
set_option linter.unusedSimpArgs false
set_option maxRecDepth 100000
set_option maxHeartbeats 16000000

def startP : Plat := (startH (sumB wordT)).1
theorem start_zero : (startH (sumB wordT)).2 = 0 := (start_fresh (sumB_size wordT)).1
theorem startP_fresh : Fresh startP (sumB wordT) := (start_fresh (sumB_size wordT)).2
theorem starts_any (n : Nat) (w : World) (hn : n ≤ 100000) (hR : Rounds w) :
    Calls Tryz.prog 12 #[.int .i64 (n : Nat)] w fun E w' => ∃ A cap l, E = .returned (.slice A n cap) ∧ OwnD w' w.heap.size A n cap l ∧ plats l = List.replicate n startP ∧ Below w.heap.size w w' := by
  have HS := Lib.hid (show ∀ W, Rounds W → Calls Tryz.prog 30 #[.string wordT] W (PlR W (startP, 0)) from fun W h => by
    have := hstart_any wordT W h
    rw [show startH (sumB wordT) = (startP, 0) from by rw [← start_zero]; rfl] at this
    exact this)
  have HR := Lib.hid hR
  clear hR
  unfold wordT at HS
  go_enter Tryz.func12, Tryz.ntmps12
  go_wp2_with fail
  go_loopw [3, 4] (fun v x wr => ∃ (k : Nat) (A : Option Addr) (cap : Nat) (l : List Dk), k ≤ n ∧ x = .int .i64 (k : Nat) ∧ v = .slice A k cap ∧ OwnD wr w.heap.size A k cap l ∧ plats l = List.replicate k startP ∧ Below w.heap.size w wr) (fun _ x _ => n - (intOf x).toNat)
  case atStart => exact ⟨0, none, 0, [], by omega, rfl, rfl, OwnD.nil _ _, rfl, Below.refl _ _⟩
  case round =>
    obtain ⟨k, A, cap, l, hk, rfl, rfl, ho, hp, hB⟩ := hrel
    have HO := Lib.hid ho
    have HP := Lib.hid hp
    have HB := Lib.hid hB
    clear ho hp hB
    by_cases hlt : k < n
    · have e1 : (k : Int) < (n : Int) := by omega
      go_wp2_with fail
      refine (HS.out _ (HR.out.below HB.out)).mono ?_
      rintro E w1 ⟨v, rfl, hv, hb⟩
      obtain ⟨xA, xn, xc, xB, xm, xd, rfl, hpb⟩ := hv
      have hO1 := HO.out.below hb
      have hB1 := HB.out.trans (hb.mono HB.out.size)
      have al := (Below.refl w1.heap.size w1).alloc (Nat.le_refl _) (.cells #[.slice xA xn xc, .slice xB xm xd] 37)
      have hO2 := Lib.hid (hO1.below al)
      have hB2 := Lib.hid (hB1.alloc hB1.size (.cells #[.slice xA xn xc, .slice xB xm xd] 37))
      have hP2 := Lib.hid (hpb.below al)
      have HX := Lib.hid (heap_alloc_new w1 (.cells #[.slice xA xn xc, .slice xB xm xd] 37))
      obtain ⟨u, hu⟩ : ∃ u, u = w1.alloc (.cells #[.slice xA xn xc, .slice xB xm xd] 37) := ⟨_, rfl⟩
      have Hu := Lib.hid hu
      rw [← hu] at hO2 hB2 hP2 HX
      clear hb al hu hO1 hB1 hpb HO HB
      go_upto_region 6 with fail
      rw [← Hu.out]
      clear Hu
      generalize w1.heap.size = gx at *
      obtain ⟨x0, x1, _, _⟩ := two_cells HX.out
      have hba := (Below.refl u.heap.size u).alloc (Nat.le_refl _) (.cells #[.slice xA xn xc, .slice xB xm xd] 37)
      have HO3 := Lib.hid (hO2.out.below hba)
      have HP3 : Hid ((⟨xA, xn, xc, xB, xm, xd, startP⟩ : Dk).ok (u.alloc (.cells #[.slice xA xn xc, .slice xB xm xd] 37))) := Lib.hid (PB.below hP2.out hba)
      have HB3 := Lib.hid (hB2.out.trans (hba.mono hB2.out.size))
      have HY := Lib.hid (heap_alloc_new u (.cells #[.slice xA xn xc, .slice xB xm xd] 37))
      clear hba
      go_wp2_with (at_builtin; refine wpList_append_dk (by rfl) (.tmp 16) (.tmp 18) (by rfl) _ (by rfl) HO3.out ⟨xA, xn, xc, xB, xm, xd, startP⟩ HP3.out u.heap.size (by rfl) 37 HY.out (by omega) HB3.out.size ?_; intro g cap' w4 ho4 hg4 hlt4)
      have hB4 : Below w.heap.size w w4 := by
        refine ⟨hg4.os.trans HB3.out.os, hg4.tape.trans HB3.out.tape, hg4.output.trans HB3.out.output, Nat.le_trans HB3.out.size hg4.size, fun k hk => (hg4.block k (Nat.lt_of_lt_of_le hk HB3.out.size) fun e => ?_).trans (HB3.out.block k hk)⟩
        have := (HO3.out.os.lt k e.symm).1
        omega
      go_roundw
      case rel => exact ⟨k + 1, _, _, l ++ [⟨xA, xn, xc, xB, xm, xd, startP⟩], by omega, by go_num, rfl, ho4, by rw [plats, List.map_append, ← plats, HP.out, List.replicate_succ']; rfl, hB4⟩
      case measure => simp [intOf]; omega
    · obtain rfl : k = n := by omega
      have e1 : ¬ (k : Int) < (k : Int) := by omega
      go_wp2_with fail
      go_ret
      exact ⟨_, _, rfl, l, HO.out, HP.out, HB.out⟩
theorem few_any (ns : List ByteArray) (A : Option Addr) (n c : Nat) (w : World) (hr : Rd w A (textsV ns)) (hn : n = ns.length) (hn9 : n ≤ maxLen) :
    Calls Tryz.prog 11 #[.slice A n c] w fun E w' => ∃ b, E = .returned (.bool b) ∧ (b = true → n ≤ 20) ∧ w' = w := by
  have HR := Lib.hid hr
  have HN := Lib.hid hn
  unfold maxLen at hn9
  clear hr hn
  go_enter Tryz.func11, Tryz.ntmps11
  go_wp2_with fail
  go_loopw [3] (fun x wr => ∃ k : Nat, k ≤ n ∧ x = .int .i64 (k : Nat) ∧ wr = w) (fun x _ => n - (intOf x).toNat)
  case atStart => exact ⟨0, by omega, rfl, rfl⟩
  case round =>
    obtain ⟨k, hk, rfl, rfl⟩ := hrel
    by_cases hlt : k < n ∧ n ≤ 20
    · have d1 : decide ((k : Int) < (n : Int)) = true := by simp; omega
      have d2 : decide ((n : Int) ≤ 20) = true := by simp; omega
      have e1 : (k : Int) < (n : Int) := by omega
      have hkl : k < ns.length := by rw [← HN.out]; exact hlt.1
      obtain ⟨b, off, rfl, c1⟩ := texts_at HR.out hkl
      generalize ns[k] = t at c1
      by_cases hz : (100 : Int) < (t.size : Int)
      · have d3 : (t.size : Int) > 100 := hz
        go_wp2_with fail
        go_ret
        exact ⟨_, rfl, fun h => (by cases h), rfl⟩
      · have d3 : ¬ (t.size : Int) > 100 := hz
        go_wp2_with fail
        go_roundw
        case rel => exact ⟨k + 1, by omega, by go_num, by trivial⟩
        case measure => simp [intOf]; omega
    · have fin : ∀ b : Bool, b = (decide ((n : Int) ≤ 6) || (decide ((n : Int) > 16) && decide ((n : Int) ≤ 20))) → (b = true → n ≤ 20) := by
        intro b hb h
        rw [hb] at h
        simp at h
        omega
      by_cases hkn : k < n
      · have d1 : decide ((k : Int) < (n : Int)) = true := by simp; omega
        have d2 : decide ((n : Int) ≤ 20) = false := by simp; omega
        have d3 : decide ((n : Int) ≤ 6) = false := by simp; omega
        have d4 : decide ((n : Int) > 16) = true := by simp; omega
        go_wp2_with fail
        go_ret
        exact ⟨_, rfl, fun h => (by cases h), rfl⟩
      · have d1 : decide ((k : Int) < (n : Int)) = false := by simp; omega
        by_cases q1 : n ≤ 6
        · have d3 : decide ((n : Int) ≤ 6) = true := by simp; omega
          go_wp2_with fail
          go_ret
          exact ⟨_, rfl, fun _ => by omega, rfl⟩
        · have d3 : decide ((n : Int) ≤ 6) = false := by simp; omega
          by_cases q2 : 16 < n
          · have d4 : decide ((n : Int) > 16) = true := by simp; omega
            by_cases q3 : n ≤ 20
            · have d5 : decide ((n : Int) ≤ 20) = true := by simp; omega
              go_wp2_with fail
              go_ret
              exact ⟨_, rfl, fun _ => q3, rfl⟩
            · have d5 : decide ((n : Int) ≤ 20) = false := by simp; omega
              go_wp2_with fail
              go_ret
              exact ⟨_, rfl, fun h => (by cases h), rfl⟩
          · have d4 : decide ((n : Int) > 16) = false := by simp; omega
            go_wp2_with fail
            go_ret
            exact ⟨_, rfl, fun h => (by cases h), rfl⟩

/- ChV -/
open Go.RowKit
set_option linter.unusedVariables false
set_option maxRecDepth 20000

theorem word_len : (sumB wordT).size = 32 := by
  unfold sumB
  rw [if_pos (by decide)]
  exact sumL_len _
/-- The deal of the document's rows. -/
def docD : Deal := dealC seedT [ann2, bob2] 2 1
theorem comm_there {g : Nat → Gift} {cred : ByteArray} {l : List Plat} {e : Int} (hg : ∀ i, i < l.length → (g i).ok ∧ (g i).e = e) (h : ∀ i, i < l.length → CommZ (g i) cred (l.getD i noPlat)) (h0 : 0 < l.length) : thereB e l = true := by
  unfold thereB
  rw [List.any_eq_true]
  have hm : l.getD 0 noPlat ∈ l := by
    rw [List.getD_eq_getElem?_getD, List.getElem?_eq_getElem h0]
    exact List.getElem_mem h0
  refine ⟨_, hm, ?_⟩
  rw [comm_gets (hg 0 h0).1 (h 0 h0)]
  simp only [decide_eq_true_eq]
  exact (hg 0 h0).2
/-- Settled behind a whole Spread: each holds its gift. -/
theorem comm_settle {g : Nat → Gift} {cred : ByteArray} {l : List Plat} {e : Int} (he0 : 1 ≤ e) (he1 : e ≤ 1000000) (hg : ∀ i, i < l.length → (g i).ok ∧ (g i).e = e) (h : ∀ i, i < l.length → CommZ (g i) cred (l.getD i noPlat)) (h0 : 0 < l.length) :
    ∃ s, settleL l e = (s, 0) ∧ s.length = l.length ∧ ∀ i, i < l.length → (getH (s.getD i noPlat)).2 = 0 ∧ (getH (s.getD i noPlat)).1.epoch = e ∧ (getH (s.getD i noPlat)).1.x = (g i).x ∧ (getH (s.getD i noPlat)).1.b = (g i).b := by
  obtain ⟨s, h1, h2, h3⟩ := settle_all he0 he1 hg (.inr fun i hi => .inr (h i hi).d)
  refine ⟨s, h1, h2, ?_⟩
  rcases h3 with h3 | h3
  · exfalso
    obtain ⟨_, b, _, _, _, h4⟩ := settle_twice h1
    rcases h4 with ⟨h4, _⟩ | h4
    · rw [comm_there hg h h0] at h4
      cases h4
    · have a := h4 0 (by omega)
      have b := (h3 0 h0).2
      omega
  · exact h3
theorem doc_law : rightD docD = true ∧ docD.sh.length = 2 ∧ docD.r.ns.length = 2 ∧ docD.r.ns = [ann2, bob2] ∧ ∃ L M h0 h1, spreadC docD (List.replicate 2 startP) (-1) = (L, true, 0) ∧ settleL L 1 = (M, 0) ∧ M.length = 2 ∧ getH (M.getD 0 noPlat) = (h0, 0) ∧ h0.epoch = 1 ∧ getH (M.getD 1 noPlat) = (h1, 0) ∧ h1.epoch = 1 ∧ docD.sh.getD 1 (0, noneT) = (h1.x, h1.b) ∧ L.length = 2 ∧ ∀ P ∈ L, checkB P = true := by
  obtain ⟨m, hm, hm1, h16, _, hgd, he, hns⟩ := cOK_good cOK2
  have hgd : Good docD m (cRest (tapeOf seedT) m).data.toList := hgd
  have he : docD.r.e = 1 := he
  have hns : docD.r.ns = [ann2, bob2] := hns
  have hl : docD.r.ns.length = 2 := by rw [hns]; rfl
  have hr := good_right hgd
  have hsh : docD.sh.length = 2 := by rw [hgd.sh]; simp [hl]
  refine ⟨hr, hsh, hl, hns, ?_⟩
  have hgo : ∀ i, i < 2 → (giftD docD i).ok ∧ (giftD docD i).e = 1 := fun i hi => ⟨good_gift hgd (by omega), he⟩
  obtain ⟨L, done, s1, s2, s3, s4, _⟩ := spread_crash (g := giftD docD) (cred := sumB wordT) (l := List.replicate 2 startP) (fun i hi => (hgo i (by simpa using hi)).1) (fun i hi => by
    have : (List.replicate 2 startP).getD i noPlat = startP := by
      rw [List.getD_eq_getElem?_getD, List.getElem?_eq_getElem hi, List.getElem_replicate]
      rfl
    rw [this]
    exact fresh_old startP_fresh word_len he) (-1)
  have hd := s3 (by omega)
  subst hd
  simp only [List.length_replicate] at s2 s4
  have hz := s4 trivial
  obtain ⟨M, t1, t2, t3⟩ := comm_settle (g := giftD docD) (cred := sumB wordT) (l := L) (e := 1) (by omega) (by omega) (by rw [s2]; exact hgo) (by rw [s2]; exact hz) (by omega)
  rw [s2] at t2 t3
  have a0 := t3 0 (by omega)
  have a1 := t3 1 (by omega)
  refine ⟨L, M, (getH (M.getD 0 noPlat)).1, (getH (M.getD 1 noPlat)).1, ?_, t1, t2, ?_, a0.2.1, ?_, a1.2.1, ?_, s2, fun P hP => ?_⟩
  · unfold spreadC
    rw [if_pos ⟨hr, by rw [hl]; simp⟩]
    exact s1
  · rw [← a0.1]
  · rw [← a1.1]
  · rw [a1.2.2.1, a1.2.2.2]
    rfl
  · obtain ⟨i, hi, e⟩ := List.mem_iff_getElem.1 hP
    have := (hz i (by omega)).1.chk
    rw [List.getD_eq_getElem?_getD, List.getElem?_eq_getElem hi] at this
    rw [← e]
    exact this

/- ChM -/
open Go.RowKit
set_option linter.unusedVariables false
set_option linter.unusedSimpArgs false
set_option maxRecDepth 100000
set_option maxHeartbeats 16000000

theorem rd_of_blk {w : World} {g : Nat} {cs : Array Value} {t : TypeId} (h : w.heap[g]? = some (.cells cs t (0, 0))) : Rd w (some ⟨g, 0, none⟩) cs.toList := fun i u hu => by
  refine ⟨g, 0, rfl, ?_⟩
  rw [Nat.zero_add, cell_of_row w g i cs t (0, 0) h]
  simpa using hu
theorem start_len : startP.ss.length = 6 ∧ startP.cs.length = 0 := by
  obtain ⟨A, B, h, _⟩ := startP_fresh.ex
  rw [h]
  exact ⟨rfl, rfl⟩
theorem dk_of_plats {w : World} {B0 : Nat} {A : Option Addr} {n cap k : Nat} {l : List Dk} {P : Plat} (ho : OwnD w B0 A n cap l) (h : plats l = List.replicate k P) : ∀ x ∈ l, x.n = P.ss.length ∧ x.m = P.cs.length := by
  intro x hx
  have h1 : x.P ∈ plats l := by unfold plats; exact List.mem_map_of_mem hx
  rw [h] at h1
  have h2 := List.eq_of_mem_replicate h1
  have h3 := ho.ok x hx
  exact ⟨by rw [← h2]; exact h3.hn, by rw [← h2]; exact h3.hm⟩
theorem dk_chk {w : World} {x : Dk} (h : x.ok w) (hc : checkB x.P = true) : x.n ≤ 1000000 ∧ x.m ≤ 1000000 := by
  unfold checkB at hc
  simp only [Bool.and_eq_true, decide_eq_true_eq] at hc
  have h1 := h.hn
  have h2 := h.hm
  omega
theorem mem_plats {l : List Dk} {x : Dk} (h : x ∈ l) : x.P ∈ plats l := by unfold plats; exact List.mem_map_of_mem h
theorem changes_any (w : World) (hT : Turns w) (hR : Rounds w) :
    Calls Tryz.prog 8 #[] w fun E w' => E = .returned (.bool true) ∧ Below w.heap.size w w' := by
  obtain ⟨r1, r2, r3, r4, L, M, ⟨e0, t0, x0, b0, s0, c0, n0, nx0, nb0, ns0⟩, ⟨e1, t1, x1, b1, s1, c1, n1, nx1, nb1, ns1⟩, hL, hM, hM2, hg0, he0, hg1, he1, hsh, hL2, hLc⟩ := doc_law
  simp only at he0 he1 hsh
  subst he0 he1
  have HR := Lib.hid hR
  have HT := Lib.hid hT
  have hDE : dealE seedT [ann2, bob2] 2 1 = 0 := by unfold dealE; rw [if_pos cOK2]
  have hDE3 : dealE seedT [ann2, bob2] 3 1 = 180 := by unfold dealE; rw [if_neg (by rw [cOK3]; decide)]
  have HD1 := Lib.hid (show ∀ (W : World) (g : Nat), W.heap[g]? = some (.cells #[.string ann2, .string bob2] 9 (0, 0)) → Turns W → Rounds W → Calls Tryz.prog 13 #[.string seedT, .slice (some ⟨g, 0, none⟩) 2 2, .int .i64 2, .int .i64 1] W (CDealR W docD 0) from fun W g hg h1 h2 => by
    have := cdeal_any seedT [ann2, bob2] (some ⟨g, 0, none⟩) 2 2 2 1 W (rd_of_blk hg) rfl (by unfold maxLen; omega) h1 h2
    rw [hDE] at this
    exact this)
  have HD3 := Lib.hid (show ∀ (W : World) (g : Nat), W.heap[g]? = some (.cells #[.string ann2, .string bob2] 9 (0, 0)) → Turns W → Rounds W → Calls Tryz.prog 13 #[.string seedT, .slice (some ⟨g, 0, none⟩) 2 2, .int .i64 3, .int .i64 1] W (fun E w' => ∃ D', CDealR W D' 180 E w') from fun W g hg h1 h2 => by
    have := cdeal_any seedT [ann2, bob2] (some ⟨g, 0, none⟩) 2 2 3 1 W (rd_of_blk hg) rfl (by unfold maxLen; omega) h1 h2
    rw [hDE3] at this
    exact this.mono fun E w' h => ⟨_, h⟩)
  have HSt := Lib.hid (fun W h => starts_any 2 W (by omega) h)
  have HL := Lib.hid hL
  have HM := Lib.hid hM
  have HG := Lib.hid (And.intro hg0 hg1)
  have HE := Lib.hid (And.intro r1 (And.intro r2 (And.intro r3 hsh)))
  have HM2 := Lib.hid hM2
  have HLc := Lib.hid hLc
  have HL2 := Lib.hid hL2
  clear hL2
  generalize docD = D at *
  unfold seedT ann2 bob2 at HD1 HD3
  clear hDE hDE3 hT hR hL hM hg0 hg1 r1 r2 r3 r4 hsh hM2 hLc
  go_enter Tryz.func8, Tryz.ntmps8
  go_wp2_with fail
  have al0 := (Below.refl w.heap.size w).alloc (Nat.le_refl _) (.cells #[.string ann2, .string bob2] 9)
  refine Calls.mono (HD1.out _ w.heap.size (heap_alloc_new w _) (HT.out.below al0) (HR.out.below al0)) ?_
  rintro e w1 ⟨v, rfl, hv, hb1⟩
  obtain ⟨A, n, c, B, m, d, C, p, q, E, s, t, rfl, k1, k2, k3, k4, k5, k6, k7, k8⟩ := hv
  have hv : DV w1 (.agg #[.int .i64 D.r.e, .int .i64 D.r.k, .slice A n c, .slice B m d, .string D.sec, .slice C p q, .slice E s t]) D := ⟨A, n, c, B, m, d, C, p, q, E, s, t, rfl, k1, k2, k3, k4, k5, k6, k7, k8⟩
  have HP2 : Hid (p = 2) := Lib.hid (by rw [k6]; exact HE.out.2.1)
  have HSh := Lib.hid k5
  have hbw := Below.chain al0 hb1
  have al := (Below.refl w1.heap.size w1).alloc (Nat.le_refl _) (.cells #[.int .i64 D.r.e, .int .i64 D.r.k, .slice A n c, .slice B m d, .string D.sec, .slice C p q, .slice E s t] 47)
  have HB := Lib.hid (Below.chain hbw al)
  have HV := Lib.hid (hv.below al)
  have HX := Lib.hid (heap_alloc_new w1 (.cells #[.int .i64 D.r.e, .int .i64 D.r.k, .slice A n c, .slice B m d, .string D.sec, .slice C p q, .slice E s t] 47))
  have HShu := Lib.hid (HSh.out.below al)
  obtain ⟨u, hu⟩ : ∃ u, u = w1.alloc (.cells #[.int .i64 D.r.e, .int .i64 D.r.k, .slice A n c, .slice B m d, .string D.sec, .slice C p q, .slice E s t] 47) := ⟨_, rfl⟩
  have Hu := Lib.hid hu
  rw [← hu] at HB HV HX HShu
  clear hu al hbw al0 hb1 hv k1 k2 k3 k4 k5 k6 k7 k8 HSh HD1
  go_upto_region 2 with fail
  rw [← Hu.out]
  clear Hu
  generalize w1.heap.size = X at *
  obtain ⟨⟨z0, z1, z2, z3, z4, z5, z6⟩, zf⟩ := seven_cells HX.out
  have z := And.intro (And.intro (And.intro z0 z1) (And.intro z2 z3)) (And.intro (And.intro z4 z5) z6)
  clear z0 z1 z2 z3 z4 z5 z6 zf
  have HBu := Lib.hid HB.out.drew
  go_wp2_with fail
  go_region_held3 (fun w' => ((w'.cell? ⟨X, 0, none⟩ = some (.int .i64 D.r.e) ∧ w'.cell? ⟨X, 1, none⟩ = some (.int .i64 D.r.k)) ∧ (w'.cell? ⟨X, 2, none⟩ = some (.slice A n c) ∧ w'.cell? ⟨X, 3, none⟩ = some (.slice B m d))) ∧ (w'.cell? ⟨X, 4, none⟩ = some (.string D.sec) ∧ w'.cell? ⟨X, 5, none⟩ = some (.slice C p q)) ∧ w'.cell? ⟨X, 6, none⟩ = some (.slice E s t))
    (first | with_reducible assumption | exact z | exact keep7_below z hb3 | exact keep7_below z hb5)
    (first
      | (go_at_call 12; refine Calls.mono (HSt.out _ (HR.out.below HBu.out)) ?_; rintro _ w2 ⟨A3, cap3, l3, rfl, ho3, hp3, hb2⟩; have hb3 := Below.chain ((Below.refl u.heap.size u).drew) hb2)
      | (go_at_call 14; refine Calls.mono (cspread_any A3 2 cap3 l3 _ D (-1) _ ho3.rd ho3.hn (by omega) (fun x hx => by have := dk_of_plats ho3 hp3 x hx; have := start_len; omega) (HV.out.below hb3) (HR.out.below (Below.chain HB.out hb3))) ?_; rw [hp3, HL.out]; rintro _ w4 ⟨A4, n4, cap4, l4, rfl, hn4, hp4, hr4, hb4, ho4⟩; clear ho4; replace hn4 := Lib.hid hn4; have hb5 := Below.chain hb3 hb4))
  rename_i hheld
  have HX5 := hblk_below HX hb5
  have HB5 := Lib.hid (Below.chain HB.out hb5)
  have HV5 := Lib.hid (HV.out.below hb5)
  have HSh5 := Lib.hid (HShu.out.below hb5)
  have HSe := Lib.hid (settle_any2 A4 n4 cap4 l4 1 w4 hr4 hn4.out (by
      have h2 : (plats l4).length = 2 := by rw [hp4, HL2.out]
      rw [plats_len, ← hn4.out] at h2
      omega) (fun x hx => dk_chk (hr4.ok x hx) (HLc.out _ (by have := mem_plats hx; rw [hp4] at this; exact this))))
  rw [hp4, HM.out] at HSe
  clear hheld hb5 hb4 hr4 hb2 hb3 ho3 hp3 hn4 hp4 HX HB HV HShu HBu z HSt HL
  go_wp2_with fail
  refine HSe.out.mono ?_
  rintro _ w6 ⟨A6, n6, cap6, l6, rfl, hn6, hp6, hr6, hb6⟩
  simp only at hp6
  have h26 : n6 = 2 := by
    have h2 : (plats l6).length = 2 := by rw [hp6, HM2.out]
    rw [plats_len, ← hn6] at h2
    exact h2
  replace HX := hblk_below HX5 hb6
  replace HB := Lib.hid (Below.chain HB5.out hb6)
  replace HV := Lib.hid (HV5.out.below hb6)
  replace HSh := Lib.hid (HSh5.out.below hb6)
  have HR6 := Lib.hid hr6
  have HN6 := Lib.hid hn6
  have HP6 := Lib.hid hp6
  clear hr6 hn6 hp6 hb6 HX5 HB5 HV5 HSh5 HSe
  subst h26
  go_wp2_with fail
  have hA7 := (Below.refl w6.heap.size w6).alloc (Nat.le_refl _) (.cells #[.string ann2, .string bob2] 9)
  refine Calls.mono (HD3.out _ w6.heap.size (heap_alloc_new w6 _) (HT.out.below (Below.chain HB.out hA7)) (HR.out.below (Below.chain HB.out hA7))) ?_
  rintro e w7 ⟨D', v7, rfl, ⟨D1, D2, D3, D4, D5, D6, D7, D8, D9, D10, D11, D12, rfl, hrest⟩, hb7⟩
  clear hrest
  have hb8 := Below.chain hA7 hb7
  have al := (Below.refl w7.heap.size w7).alloc (Nat.le_refl _) (.cells #[.int .i64 D'.r.e, .int .i64 D'.r.k, .slice D1 D2 D3, .slice D4 D5 D6, .string D'.sec, .slice D7 D8 D9, .slice D10 D11 D12] 47)
  have hb9 := Below.chain hb8 al
  replace HX := hblk_below HX hb9
  replace HB := Lib.hid (Below.chain HB.out hb9)
  replace HV := Lib.hid (HV.out.below hb9)
  replace HSh := Lib.hid (HSh.out.below hb9)
  replace HR6 := Lib.hid (HR6.out.below hb9)
  obtain ⟨u7, hu7⟩ : ∃ u, u = w7.alloc (.cells #[.int .i64 D'.r.e, .int .i64 D'.r.k, .slice D1 D2 D3, .slice D4 D5 D6, .string D'.sec, .slice D7 D8 D9, .slice D10 D11 D12] 47) := ⟨_, rfl⟩
  have Hu7 := Lib.hid hu7
  rw [← hu7] at HX HB HV HSh HR6
  clear hA7 hb7 hb8 al hb9 hu7 HD3
  obtain rfl : p = 2 := HP2.out
  go_upto_region 5 with fail
  rw [← Hu7.out]
  clear Hu7
  have z5 := (seven_cells HX.out).1.2.2.2.2.2.1
  have hl6 : l6.length = 2 := HN6.out.symm
  have h60 : 0 < l6.length := by omega
  have h61 : 1 < l6.length := by omega
  obtain ⟨b6, o6, hA6, c60, c61⟩ := dk_at HR6.out.rd (i := 0) h60
  obtain ⟨b6', o6', hA6', c62, c63⟩ := dk_at HR6.out.rd (i := 1) h61
  rw [hA6] at hA6'
  injection hA6' with hA6'
  injection hA6' with hx1 hx2
  subst hx1 hx2 hA6
  have hok0 := HR6.out.ok _ (List.getElem_mem h60)
  have hok1 := HR6.out.ok _ (List.getElem_mem h61)
  have hp0 : l6[0].P = M.getD 0 noPlat := by rw [← HP6.out, plats_at h60]
  have hp1 : l6[1].P = M.getD 1 noPlat := by rw [← HP6.out, plats_at h61]
  have hg0' := HG.out.1
  have hg1' := HG.out.2
  rw [← hp0] at hg0'
  rw [← hp1] at hg1'
  have HG0 := Lib.hid hg0'
  have HG1 := Lib.hid hg1'
  clear hg0' hg1'
  clear hp0 hp1
  generalize l6[0] = d0 at c60 c61 hok0 HG0
  generalize l6[1] = d1 at c62 c63 hok1 HG1
  clear hl6 h60 h61
  obtain ⟨xA, xn, xc, xB, xm, xd, xP⟩ := d0
  obtain ⟨yA, yn, yc, yB, ym, yd, yP⟩ := d1
  simp only [Nat.zero_mul, Nat.add_zero, Nat.one_mul] at c60 c61 c62 c63
  have HO0 := Lib.hid (show PB u7 xA xn xB xm xP from hok0)
  have HO1 := Lib.hid (show PB u7 yA yn yB ym yP from hok1)
  simp only at HG0 HG1
  have HGx := Lib.hid (show ∀ W, PB W xA xn xB xm xP → Calls Tryz.prog 9 #[.agg #[.slice xA xn xc, .slice xB xm xd]] W (fun e w' => e = .returned (.tuple #[.agg #[.int .i64 1, .int .i64 t0, .int .i64 x0, .string b0, .string s0, .string c0, .int .i64 n0, .int .i64 nx0, .string nb0, .string ns0], .int .i64 0]) ∧ Below W.heap.size W w') from fun W h => by
    have := hget_any (.agg #[.slice xA xn xc, .slice xB xm xd]) xP W ⟨_, _, _, _, _, _, rfl, h⟩
    rw [HG0.out] at this
    exact this)
  have HGy := Lib.hid (show ∀ W, PB W yA yn yB ym yP → Calls Tryz.prog 9 #[.agg #[.slice yA yn yc, .slice yB ym yd]] W (fun e w' => e = .returned (.tuple #[.agg #[.int .i64 1, .int .i64 t1, .int .i64 x1, .string b1, .string s1, .string c1, .int .i64 n1, .int .i64 nx1, .string nb1, .string ns1], .int .i64 0]) ∧ Below W.heap.size W w') from fun W h => by
    have := hget_any (.agg #[.slice yA yn yc, .slice yB ym yd]) yP W ⟨_, _, _, _, _, _, rfl, h⟩
    rw [HG1.out] at this
    exact this)
  have C2 := Lib.hid c62
  have C3 := Lib.hid c63
  clear hok0 hok1 c62 c63 HR6 HN6 HP6 HM HG HM2
  go_wp2_with fail
  refine Calls.mono (HGx.out _ HO0.out) ?_
  rintro e w8 ⟨rfl, hb8⟩
  have al8 := (Below.refl w8.heap.size w8).alloc (Nat.le_refl _) (.cells #[.int .i64 1, .int .i64 t0, .int .i64 x0, .string b0, .string s0, .string c0, .int .i64 n0, .int .i64 nx0, .string nb0, .string ns0] 31)
  have hb9 := Below.chain hb8 al8
  have HH0 := Lib.hid (heap_alloc_new w8 (.cells #[.int .i64 1, .int .i64 t0, .int .i64 x0, .string b0, .string s0, .string c0, .int .i64 n0, .int .i64 nx0, .string nb0, .string ns0] 31))
  replace HX := hblk_below HX hb9
  replace HB := Lib.hid (Below.chain HB.out hb9)
  replace HV := Lib.hid (HV.out.below hb9)
  replace HSh := Lib.hid (HSh.out.below hb9)
  have HO1' := Lib.hid (HO1.out.below hb9)
  have C2' := Lib.hid ((hb9.cell (cell_lt C2.out)).trans C2.out)
  have C3' := Lib.hid ((hb9.cell (cell_lt C3.out)).trans C3.out)
  obtain ⟨u8, hu8⟩ : ∃ u, u = w8.alloc (.cells #[.int .i64 1, .int .i64 t0, .int .i64 x0, .string b0, .string s0, .string c0, .int .i64 n0, .int .i64 nx0, .string nb0, .string ns0] 31) := ⟨_, rfl⟩
  have Hu8 := Lib.hid hu8
  rw [← hu8] at HX HB HV HSh HH0 HO1' C2' C3'
  clear hb8 al8 hb9 hu8 HGx HO0 c60 c61 z5 HO1 C2 C3
  go_upto_region 8 with fail
  rw [← Hu8.out]
  clear Hu8
  generalize w8.heap.size = G0 at *
  have c2 := C2'.out
  have c3 := C3'.out
  go_wp2_with fail
  refine Calls.mono (HGy.out _ HO1'.out) ?_
  rintro e w9 ⟨rfl, hb9⟩
  have al9 := (Below.refl w9.heap.size w9).alloc (Nat.le_refl _) (.cells #[.int .i64 1, .int .i64 t1, .int .i64 x1, .string b1, .string s1, .string c1, .int .i64 n1, .int .i64 nx1, .string nb1, .string ns1] 31)
  have hb10 := Below.chain hb9 al9
  have HH1 := Lib.hid (heap_alloc_new w9 (.cells #[.int .i64 1, .int .i64 t1, .int .i64 x1, .string b1, .string s1, .string c1, .int .i64 n1, .int .i64 nx1, .string nb1, .string ns1] 31))
  replace HH0 := hblk_below HH0 hb10
  replace HX := hblk_below HX hb10
  replace HB := Lib.hid (Below.chain HB.out hb10)
  replace HV := Lib.hid (HV.out.below hb10)
  replace HSh := Lib.hid (HSh.out.below hb10)
  obtain ⟨u9, hu9⟩ : ∃ u, u = w9.alloc (.cells #[.int .i64 1, .int .i64 t1, .int .i64 x1, .string b1, .string s1, .string c1, .int .i64 n1, .int .i64 nx1, .string nb1, .string ns1] 31) := ⟨_, rfl⟩
  have Hu9 := Lib.hid hu9
  rw [← hu9] at HX HB HV HSh HH0 HH1
  clear hb9 al9 hb10 hu9 HGy HO1' c2 c3 C2' C3'
  go_upto_region 9 with fail
  rw [← Hu9.out]
  clear Hu9
  generalize w9.heap.size = G1 at *
  have h1l : 1 < D.sh.length := by have := HE.out.2.1; omega
  obtain ⟨bC, oC, hC⟩ : ∃ b o, C = some ⟨b, o, none⟩ := by
    obtain ⟨b, o, h, _⟩ := HSh.out.shr h1l
    exact ⟨b, o, h⟩
  subst hC
  obtain ⟨g2, g3⟩ := shr_at' HSh.out h1l
  rw [HE.out.2.2.2] at g2 g3
  simp only [Nat.one_mul] at g2 g3
  obtain ⟨z0, z1, z2, z3, z4, z5, z6⟩ := (seven_cells HX.out).1
  have y0 := fun y : Later u9 => y.cell z0
  have y1 := fun y : Later u9 => y.cell z1
  have y2 := fun y : Later u9 => y.cell z2
  have y3 := fun y : Later u9 => y.cell z3
  have y4 := fun y : Later u9 => y.cell z4
  have y5 := fun y : Later u9 => y.cell z5
  have y6 := fun y : Later u9 => y.cell z6
  have y7 := fun y : Later u9 => y.cell g2
  have y8 := fun y : Later u9 => y.cell g3
  have y9 := fun y : Later u9 => y.cell (cell_in HH0.out 0 _ rfl)
  have y10 := fun y : Later u9 => y.cell (cell_in HH1.out 0 _ rfl)
  have y11 := fun y : Later u9 => y.cell (cell_in HH1.out 2 _ rfl)
  have y12 := fun y : Later u9 => y.cell (cell_in HH1.out 3 _ rfl)
  have HCk := Lib.hid (fun y : Later u9 => later_call (y := y) (rcheck_any _ D y.x (HV.out.below y.ok) (HR.out.below (Below.chain HB.out y.ok))))
  rw [HE.out.1] at HCk
  have q1 : (b1.toList == b1.toList) = true := beq_self_eq_true _
  have q2 : (x1 == x1) = true := beq_self_eq_true _
  clear z0 z1 z2 z3 z4 z5 z6 g2 g3 h1l
  refine wp_region_later (by kernel_rfl) (by kernel_rfl) ?_
  repeat (go_big_quiet_step (exact HCk.out _))
  refine wpQuiet_nil ?_
  rintro _ ⟨y, rfl⟩
  go_wp2_with fail
  go_ret
  exact ⟨rfl, Below.chain HB.out y.ok⟩

/- ChG -/
open Go.RowKit
set_option linter.unusedVariables false
set_option maxRecDepth 20000

def smallP (P : Plat) : Prop := P.ss.length ≤ 1000000 ∧ P.cs.length ≤ 1000000
theorem chk_small {P : Plat} (h : checkB P = true) : smallP P := by
  unfold checkB at h
  simp only [Bool.and_eq_true, decide_eq_true_eq] at h
  exact ⟨by omega, by omega⟩
theorem crash_small {f : List Int} {P : Plat} (h : (crashP f P).2 = 0) : smallP (crashP f P).1 := by
  unfold crashP settleP at h ⊢
  by_cases hc : checkB P = false
  · rw [if_pos hc] at h
    simp at h
  · rw [if_neg hc]
    have := chk_small (P := P) (by simpa using hc)
    exact ⟨by simp only; rw [fallTo_len]; exact this.1, by simp⟩
theorem old_small {g : Gift} {c : ByteArray} {P : Plat} (h : OldD g c P) : smallP P := by
  obtain ⟨t, b, h, _⟩ := h
  exact chk_small h.chk
/-- Disks of the epoch ahead of e, each of a gift that is to come. -/
def Olds (c : ByteArray) (e : Int) (n : Nat) (l : List Plat) : Prop := l.length = n ∧ ∀ i, i < n → ∀ g : Gift, g.e = e → OldD g c (l.getD i noPlat)
theorem starts_olds (n : Nat) : Olds (sumB wordT) 1 n (List.replicate n startP) := by
  refine ⟨by simp, fun i hi g hg => ?_⟩
  have : (List.replicate n startP).getD i noPlat = startP := by
    rw [List.getD_eq_getElem?_getD, List.getElem?_eq_getElem (by simpa using hi), List.getElem_replicate]
    rfl
  rw [this]
  exact fresh_old startP_fresh word_len hg
theorem Olds.small {c : ByteArray} {e : Int} {n : Nat} {l : List Plat} (h : Olds c e n l) : ∀ P ∈ l, smallP P := by
  intro P hP
  obtain ⟨i, hi, rfl⟩ := List.mem_iff_getElem.1 hP
  have := h.2 i (by rw [← h.1]; exact hi) ⟨e, 0, none0, none0⟩ rfl
  rw [List.getD_eq_getElem?_getD, List.getElem?_eq_getElem hi] at this
  exact old_small this
/-- A first epoch that is spread whole. -/
theorem first_law {seed : ByteArray} {ns : List ByteArray} {k : Int} (h : cOK seed ns k 1 = true) : ∃ L, spreadC (dealC seed ns k 1) (List.replicate ns.length startP) (-1) = (L, true, 0) ∧ Olds (sumB wordT) 2 ns.length L := by
  obtain ⟨m, hm, hm1, h16, _, hgd, he, hns⟩ := cOK_good h
  generalize dealC seed ns k 1 = D at hgd he hns ⊢
  have ho := starts_olds ns.length
  have hgo : ∀ i, i < ns.length → (giftD D i).ok := fun i hi => good_gift hgd (by rw [hns]; exact hi)
  obtain ⟨L, done, s1, s2, s3, s4, _⟩ := spread_crash (g := giftD D) (cred := sumB wordT) (l := List.replicate ns.length startP) (fun i hi => hgo i (by simpa using hi)) (fun i hi => ho.2 i (by simpa using hi) _ he) (-1)
  have hd := s3 (by omega)
  subst hd
  refine ⟨L, ?_, by rw [s2]; simp, fun i hi g hg => ?_⟩
  · unfold spreadC
    rw [if_pos ⟨good_right hgd, by rw [hns]; simp⟩]
    exact s1
  · exact comm_old (hgo i hi) (s4 rfl i (by simpa using hi)) (by rw [hg]; show 2 = (giftD D i).e + 1; rw [show (giftD D i).e = D.r.e from rfl, he]; rfl)
/-- What is settled behind whatever crashes. -/
def Whole (D : Deal) (e : Int) (n : Nat) (s : List Plat) : Prop := s.length = n ∧ ((∀ i, i < n → (getH (s.getD i noPlat)).2 = 0 ∧ (getH (s.getD i noPlat)).1.epoch = e - 1) ∨
  ∀ i, i < n → (getH (s.getD i noPlat)).2 = 0 ∧ (getH (s.getD i noPlat)).1.epoch = e ∧ ((getH (s.getD i noPlat)).1.x, (getH (s.getD i noPlat)).1.b) = D.sh.getD i (0, noneT))
theorem whole_law {seed : ByteArray} {ns : List ByteArray} {k e : Int} {l : List Plat} {c : ByteArray} (h : cOK seed ns k e = true) (ho : Olds c e ns.length l) (deeds : Int) :
    ∃ L done, spreadC (dealC seed ns k e) l deeds = (L, done, 0) ∧ L.length = ns.length ∧ 1 ≤ ns.length ∧ ns.length ≤ 16 ∧ (dealC seed ns k e).sh.length = ns.length ∧
      ∀ fates : Nat → List Int, (∀ i, i < ns.length → (crashP (fates i) (L.getD i noPlat)).2 = 0) ∧
        ∀ l' : List Plat, l'.length = ns.length → (∀ i, i < ns.length → l'.getD i noPlat = (crashP (fates i) (L.getD i noPlat)).1) → (∀ P ∈ l', smallP P) ∧ ∃ s, settleL l' e = (s, 0) ∧ Whole (dealC seed ns k e) e ns.length s := by
  obtain ⟨m, hm, hm1, h16, _, hgd, he, hns⟩ := cOK_good h
  generalize dealC seed ns k e = D at hgd he hns ⊢
  obtain ⟨e0, e1, _⟩ := check_head hgd.ck
  rw [he] at e0 e1
  have hgo : ∀ i, i < ns.length → (giftD D i).ok ∧ (giftD D i).e = e := fun i hi => ⟨good_gift hgd (by rw [hns]; exact hi), he⟩
  obtain ⟨L, done, s1, s2, _, _, s5⟩ := spread_crash (g := giftD D) (cred := c) (l := l) (fun i hi => (hgo i (by rw [← ho.1]; exact hi)).1) (fun i hi => ho.2 i (by rw [← ho.1]; exact hi) _ he) deeds
  rw [ho.1] at s2 s5
  refine ⟨L, done, ?_, s2, by omega, h16, by rw [hgd.sh]; simp [hns], fun fates => ⟨(s5 fates).1, fun l' hl hl' => ?_⟩⟩
  · unfold spreadC
    rw [if_pos ⟨good_right hgd, by rw [ho.1, hns]⟩]
    exact s1
  obtain ⟨s, t1, t2, t3⟩ := settle_all (g := giftD D) (cred := c) (l := l') e0 e1 (by rw [hl]; exact hgo) (by
    rw [hl]
    rcases (s5 fates).2 with k | k
    · exact .inl fun i hi => by rw [hl' i hi]; exact k i hi
    · exact .inr fun i hi => by rw [hl' i hi]; exact k i hi)
  rw [hl] at t2 t3
  refine ⟨fun P hP => ?_, s, t1, t2, ?_⟩
  · obtain ⟨i, hi, rfl⟩ := List.mem_iff_getElem.1 hP
    have h1 := hl' i (by rw [← hl]; exact hi)
    rw [List.getD_eq_getElem?_getD, List.getElem?_eq_getElem hi] at h1
    have h2 := crash_small ((s5 fates).1 i (by rw [← hl]; exact hi))
    rw [← h1] at h2
    exact h2
  · rcases t3 with k | k
    · exact .inl k
    · exact .inr fun i hi => ⟨(k i hi).1, (k i hi).2.1, by rw [(k i hi).2.2.1, (k i hi).2.2.2]; rfl⟩

end Go.Proofs.YtgkihdhjafmnnaaGreatDoor
