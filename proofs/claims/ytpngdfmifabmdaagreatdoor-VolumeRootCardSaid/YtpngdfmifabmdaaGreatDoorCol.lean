/-
  Contract of tree.Collide.
-/
import Derived.Test.YtpngdfmifabmdaaGreatDoorCo
import Derived.Test.YtpngdfmifabmdaaGreatDoorRound
import Derived.WalkMore
namespace Go.Proofs.YtpngdfmifabmdaaGreatDoor
open Go.RowKit
set_option linter.unusedVariables false
set_option linter.unusedSimpArgs false
set_option maxRecDepth 100000
set_option maxHeartbeats 4000000

theorem collide_len (A1 A2 : Option Addr) (n1 c1 n2 c2 : Nat) (w : World) (h : n1 ≠ n2) (h1 : n1 ≤ 9223372036854775807) (h2 : n2 ≤ 9223372036854775807) :
    Calls Tryz.prog 8 #[.slice A1 n1 c1, .slice A2 n2 c2] w fun e w' => e = .returned (.tuple #[.string ⟨#[]⟩, .string ⟨#[]⟩, .bool false]) ∧ Below w.heap.size w w' := by
  have d1 : ((n1 : Int) != (n2 : Int)) = true := by simp; omega
  go_enter Tryz.func8, Tryz.ntmps8
  go_wp2_with fail
  go_step3
  go_wp2_with fail
  rw [Exit.noGoto_ret]
  go_ret3
  exact ⟨rfl, Below.refl _ _⟩
theorem two_rows (w : World) (a b : Array Value) (t : TypeId) : ((w.alloc (.cells a t)).alloc (.cells b t)).heap[w.heap.size]? = some (.cells a t (0, 0)) ∧ ((w.alloc (.cells a t)).alloc (.cells b t)).heap[w.heap.size + 1]? = some (.cells b t (0, 0)) ∧ Below w.heap.size w ((w.alloc (.cells a t)).alloc (.cells b t)) := by
  have h2 := heap_alloc_new (w.alloc (.cells a t)) (.cells b t)
  rw [World.size_alloc] at h2
  exact ⟨(Below.heap_alloc _ _ _ (by simp)).trans (heap_alloc_new w _), h2, ((Below.refl _ _).alloc (Nat.le_refl _) _).alloc (by simp) _⟩
theorem text_ne2' {s t : ByteArray} (h : s ≠ t) : (s.toList == t.toList) = false := by
  have := text_ne' h
  simpa using this
/-- All that was told so far is alike. -/
structure LI (w8 : World) (l m : List ByteArray) (H : Nat) (pre : List (DP H)) (W : World) : Prop where
  al : ∀ q ∈ pre, toldT l q.1.1 q.1.2 = toldT m q.1.1 q.1.2
  hb : Below w8.heap.size w8 W
/-- Two texts are unlike. -/
structure LX (w : World) (p1 p2 p3 : Nat) (l m : List ByteArray) (H : Nat) (cd : Code) (pre : List (DP H)) (W : World) : Prop where
  cd : cd = .exit 0
  ex : ∃ (pre' : List (DP H)) (x : DP H), pre = pre' ++ [x] ∧ (∀ q ∈ pre', toldT l q.1.1 q.1.2 = toldT m q.1.1 q.1.2) ∧ toldT l x.1.1 x.1.2 ≠ toldT m x.1.1 x.1.2 ∧ W.heap[p1]? = some (.cells #[.string (toldT l x.1.1 x.1.2)] 9 (0, 0)) ∧ W.heap[p2]? = some (.cells #[.string (toldT m x.1.1 x.1.2)] 9 (0, 0)) ∧ W.heap[p3]? = some (.cells #[.bool true] 4 (0, 0))
  hb : Below w.heap.size w W
theorem rtold_size {l : List ByteArray} {H h j : Nat} (hz : ∀ s ∈ l, s.size ≤ 1000000) (hl : l.length = 2 ^ H) (hh : h ≤ H) (hj : j < 2 ^ (H - h)) : (toldT l h j).size ≤ 1000001 := by
  cases h with
  | zero =>
    have hj2 : j < l.length := by rw [hl]; simpa using hj
    rw [toldT, if_pos rfl, List.getD_eq_getElem?_getD, List.getElem?_eq_getElem hj2, Option.getD_some, leafX, ByteArray.size_append]
    have := hz _ (List.getElem_mem hj2)
    have h1 : (⟨#[0]⟩ : ByteArray).size = 1 := rfl
    omega
  | succ h =>
    have hp := lev_pow' (h := h) hl (by omega)
    have h2 : 2 ^ (H - h) = 2 * 2 ^ (H - (h + 1)) := by rw [show H - h = (H - (h + 1)) + 1 by omega, Nat.pow_succ]; omega
    rw [toldT, if_neg (by omega), Nat.add_sub_cancel, nodeX, ByteArray.size_append, ByteArray.size_append, lev_getD_size (by omega), lev_getD_size (by omega)]
    decide
attribute [local go_sem] Oper.semAt_some
theorem collide_any (A1 A2 : Option Addr) (n1 c1 n2 c2 : Nat) (l m : List ByteArray) (H : Nat) (w : World) (hr1 : Rd w A1 (textsV l)) (hr2 : Rd w A2 (textsV m)) (hn1 : n1 = l.length) (hn2 : n2 = m.length) (hz1 : ∀ s ∈ l, s.size ≤ 1000000) (hz2 : ∀ s ∈ m, s.size ≤ 1000000)
    (hl : l.length = 2 ^ H) (hm : m.length = 2 ^ H) (hH : H ≤ 10) (hroot : rootH l H = rootH m H) (hne : l ≠ m) (hR : Rounds w) :
    Calls Tryz.prog 8 #[.slice A1 n1 c1, .slice A2 n2 c2] w fun e w' => (∃ a b, e = .returned (.tuple #[.string a, .string b, .bool true]) ∧ a ≠ b ∧ sumT a = sumT b ∧ a.size ≤ 1000001 ∧ b.size ≤ 1000001) ∧ Below w.heap.size w w' := by
  have hn64 : n1 ≤ 1024 := by rw [hn1, hl]; exact Nat.le_trans (Nat.pow_le_pow_right (by omega) hH) (by decide)
  obtain rfl : n2 = n1 := by rw [hn1, hn2, hl, hm]
  have HMay := Lib.hid (fun W => may_any n2 W (by omega))
  have hmb : mayB n2 = true := by
    rw [hn1, hl]
    have key : ∀ H, H < 11 → mayB (2 ^ H) = true := by decide +kernel
    exact key H (by omega)
  rw [hmb] at HMay
  have HEq := Lib.hid (fun W h1 h2 => equal_any l m A1 A2 n2 c1 n2 c2 W h1 h2 hn1 hn2 (by rw [← hn1]; omega))
  rw [decide_eq_false hne] at HEq
  have HRo1 := Lib.hid (fun W h1 h2 => rowsOf_any A1 n2 c1 l H W h1 hn1 hl hH hz1 h2)
  have HRo2 := Lib.hid (fun W h1 h2 => rowsOf_any A2 n2 c2 m H W h1 hn2 hm hH hz2 h2)
  have HRt1 := Lib.hid (fun g X cap svs W h1 h2 h3 => root_any g A1 n2 c1 X cap l H svs W h1 h2 hH h3 hl)
  have HRt2 := Lib.hid (fun g X cap svs W h1 h2 h3 => root_any g A2 n2 c2 X cap m H svs W h1 h2 hH h3 hm)
  rw [← hroot] at HRt2
  generalize hrt : rootH l H = rt at HRt1 HRt2
  have d1 : ((n2 : Int) != (n2 : Int)) = false := by simp
  have d2 : (rt.toList != rt.toList) = false := by simp
  have HR1 := Lib.hid hr1
  have HR2 := Lib.hid hr2
  have HN1 := Lib.hid hn1
  have HN2 := Lib.hid hn2
  have HZ1 := Lib.hid hz1
  have HZ2 := Lib.hid hz2
  have HL1 := Lib.hid hl
  have HL2 := Lib.hid hm
  have HRoot := Lib.hid (show rootH l H = rootH m H from hroot)
  have HNe := Lib.hid hne
  have HR := Lib.hid hR
  clear hr1 hr2 hn1 hn2 hz1 hz2 hl hm hne hR hmb hrt hroot
  refine (callsIn_wide (n := 4)).1 ?_
  refine callsIn_of_wp_marks Tryz.func8 rfl trivial ?_ rfl
  simp only [Tryz.ntmps8, List.size_toArray, List.length_cons, List.length_nil, Nat.reduceAdd, Nat.reduceSub, Array.replicate_succ, Array.replicate_zero, List.push_toArray, List.append_toArray, List.nil_append, List.cons_append]
  have HB := Lib.hid (Below.refl w.heap.size w)
  gi_wp2
  refine wpIn_wide.2 (wp_scope_straight ((wpIn_wide (n := 4)).1 ?_))
  gi_wp2_with (first
    | (refine ⟨trivial, ?_⟩; gi_at_call 17; refine (callsIn_wide.2 (HMay.out _)).mono ?_; rintro e w ⟨rfl, rfl⟩)
    | (refine ⟨trivial, ?_⟩; gi_at_call 18; refine (callsIn_wide.2 (HEq.out _ HR1.out HR2.out)).mono ?_; rintro e w2 ⟨rfl, hb2⟩; replace HB := Lib.hid (HB.out.trans (hb2.mono HB.out.size)); clear hb2)
    | (refine ⟨trivial, ?_⟩; gi_at_call 19; refine (callsIn_wide.2 (HRo1.out _ (HR1.out.below HB.out) (HR.out.below HB.out))).mono ?_; rintro e w3 ⟨X, cX, svs, rfl, hsl, hrx, hlv, hb3⟩; replace HB := Lib.hid (HB.out.trans (hb3.mono HB.out.size)); have HX : Hid (Rd w3 X svs ∧ ∀ k, k ≤ H → ∃ sv, svs[k]? = some sv ∧ LevB w3 sv (lev l k)) := Lib.hid ⟨hrx, hlv⟩; clear hb3 hrx hlv HRo1)
    | (refine ⟨trivial, ?_⟩; gi_at_call 19; refine (callsIn_wide.2 (HRo2.out _ (HR2.out.below HB.out) (HR.out.below HB.out))).mono ?_; rintro e w4 ⟨Y, cY, svt, rfl, hsl2, hry, hlv2, hb4⟩; replace HB := Lib.hid (HB.out.trans (hb4.mono HB.out.size)); replace HX : Hid (Rd w4 X svs ∧ ∀ k, k ≤ H → ∃ sv, svs[k]? = some sv ∧ LevB w4 sv (lev l k)) := Lib.hid ⟨HX.out.1.below hb4, fun k hk => by obtain ⟨sv, h1, h2⟩ := HX.out.2 k hk; exact ⟨sv, h1, h2.below hb4⟩⟩; have HY : Hid (Rd w4 Y svt ∧ ∀ k, k ≤ H → ∃ sv, svt[k]? = some sv ∧ LevB w4 sv (lev m k)) := Lib.hid ⟨hry, hlv2⟩; clear hb4 hry hlv2))
  obtain ⟨k0, k1, kb⟩ := two_rows w4 #[.slice A1 n2 c1, .slice X (H + 1) cX] #[.slice A2 n2 c2, .slice Y (H + 1) cY] 46
  obtain ⟨W5, hW5⟩ : ∃ W5, W5 = ((w4.alloc (.cells #[.slice A1 n2 c1, .slice X (H + 1) cX] 46)).alloc (.cells #[.slice A2 n2 c2, .slice Y (H + 1) cY] 46)) := ⟨_, rfl⟩
  rw [← hW5] at k0 k1 kb ⊢
  have HM1 : Hid (RowsM W5 w4.heap.size A1 n2 c1 X cX svs l H) := Lib.hid ⟨k0, HR1.out.below (HB.out.trans (kb.mono HB.out.size)), HN1.out, HX.out.1.below kb, fun k hk => by obtain ⟨sv, h1, h2⟩ := HX.out.2 k hk; exact ⟨sv, h1, h2.below kb⟩⟩
  have HM2 : Hid (RowsM W5 (w4.heap.size + 1) A2 n2 c2 Y cY svt m H) := Lib.hid ⟨k1, HR2.out.below (HB.out.trans (kb.mono HB.out.size)), HN2.out, HY.out.1.below kb, fun k hk => by obtain ⟨sv, h1, h2⟩ := HY.out.2 k hk; exact ⟨sv, h1, h2.below kb⟩⟩
  replace HB := Lib.hid (HB.out.trans (kb.mono HB.out.size))
  clear k0 k1 kb hW5 HX HY HEq HMay HRo2
  obtain ⟨G, hG⟩ : ∃ G, G = w4.heap.size := ⟨_, rfl⟩
  rw [← hG] at HM1 HM2 ⊢
  clear hG
  gi_wp2_with (first
    | (refine ⟨trivial, ?_⟩; gi_at_call 20; refine (callsIn_wide.2 (HRt1.out G X cX svs _ HM1.out.box HM1.out.rx HM1.out.lv)).mono ?_; rintro e w6 ⟨rfl, hb6⟩; replace HM1 := Lib.hid (HM1.out.below hb6); replace HM2 := Lib.hid (HM2.out.below hb6); replace HB := Lib.hid (HB.out.trans (hb6.mono HB.out.size)); clear hb6 HRt1)
    | (refine ⟨trivial, ?_⟩; gi_at_call 20; refine (callsIn_wide.2 (HRt2.out (G + 1) Y cY svt _ HM2.out.box HM2.out.rx HM2.out.lv)).mono ?_; rintro e w7 ⟨rfl, hb7⟩; replace HM1 := Lib.hid (HM1.out.below hb7); replace HM2 := Lib.hid (HM2.out.below hb7); replace HB := Lib.hid (HB.out.trans (hb7.mono HB.out.size)); clear hb7 HRt2))
  refine wpIn_label ?_
  gi_wp2_with (refine ⟨trivial, ?_⟩; gi_at_call 21; refine (down_in _ _ _).mono ?_; rintro e w8 ⟨rfl, rfl⟩)
  obtain ⟨k1, k2, k3, kb, kB, ksz⟩ := al4' w7 (.cells #[.string ⟨#[]⟩] 9) (.cells #[.string ⟨#[]⟩] 9) (.cells #[.bool false] 4) (.cells #[.pointer (some ⟨G, 0, none⟩)] 73)
  obtain ⟨W8, hW8⟩ : ∃ W8, W8 = (((w7.alloc (.cells #[.string ⟨#[]⟩] 9)).alloc (.cells #[.string ⟨#[]⟩] 9)).alloc (.cells #[.bool false] 4)).alloc (.cells #[.pointer (some ⟨G, 0, none⟩)] 73) := ⟨_, rfl⟩
  rw [← hW8] at k1 k2 k3 kb kB ksz ⊢
  have hwP := HB.out.size
  replace HM1 := Lib.hid (HM1.out.below kB)
  replace HM2 := Lib.hid (HM2.out.below kB)
  replace HB := Lib.hid (HB.out.trans (kB.mono HB.out.size))
  obtain ⟨P, hP⟩ : ∃ P, P = w7.heap.size := ⟨_, rfl⟩
  rw [← hP] at k1 k2 k3 kb ksz hwP ⊢
  clear hW8 hP kB
  have K1 := Lib.hid k1
  have K2 := Lib.hid k2
  have K3 := Lib.hid k3
  have Kb := Lib.hid kb
  clear k1 k2 k3 kb
  refine wpIn_rangeFunc_ownH rfl (by omega) (gf := 39) (lb := #[.pointer (some ⟨P + 1 + 1 + 1, 0, none⟩)]) rfl trivial (enters_of Tryz.func39 (by kernel_rfl) rfl)
    (encs := fun x : DP H => #[.int .i64 (x.1.1 : Nat), .int .i64 (x.1.2 : Nat)]) (Kp := KpT W8.heap.size [P + 1 + 1 + 1]) (S := fun ys => ys.map Subtype.val = downL H (H + 1)) (Sp := fun pre => pre.map Subtype.val <+: downL H (H + 1)) (N := (downL H (H + 1)).length) (w0 := W8)
    (fun yl J Jx W hW _ _ hY h0 => down1_in' 3 (by omega) yl (P + 1 + 1 + 1) W8.heap.size G A1 n2 c1 X cX svs l H W8 W rfl hW HM1.out HL1.out hH (cells_below Kb.out hW) J Jx hY h0)
    kpT_t (kpT_b (by omega) (by simp; omega)) (Below.refl _ _) (fun _ => rfl)
    (LI W8 l m H) (LX w P (P + 1) (P + 1 + 1) l m H)
    (fun s X Y row h hg hr => ⟨h.al, ownFrom_below (β := Unit) (w₀ := W8) (Nat.le_refl _) (Nat.le_refl _) () X Y row h.hb hg hr⟩)
    (fun cd s X Y row h hg hr => by obtain ⟨p', x, t1, t2, t3, t4, t5, t6⟩ := h.ex; exact ⟨h.cd, ⟨p', x, t1, t2, t3, rf_c t4 hg (fun r e => (hr r e).2), rf_c t5 hg (fun r e => (hr r e).2), rf_c t6 hg (fun r e => (hr r e).2)⟩, ownFrom_below (β := Unit) (w₀ := w) (Nat.le_refl _) (by omega) () X Y row h.hb hg hr⟩)
    ⟨by simp, Below.refl _ _⟩
    (fun x a' W => a' = { tmps := #[.slice A1 n2 c1, .slice A2 n2 c2, undef, undef, .string ⟨#[]⟩, .string ⟨#[]⟩, .bool false, .pointer (some ⟨G, 0, none⟩), .pointer (some ⟨G + 1, 0, none⟩), .pointer (some ⟨P, 0, none⟩), .pointer (some ⟨P + 1, 0, none⟩), .pointer (some ⟨P + 1 + 1, 0, none⟩), .int .i64 (x.1.1 : Nat), .int .i64 (x.1.2 : Nat), undef, undef, .slice A1 n2 c1, .int .i64 n2, .slice A2 n2 c2, .int .i64 n2, .bool false, .bool false, .slice A1 n2 c1, .int .i64 n2, .bool true, .bool false, .bool false, .bool false, .slice A1 n2 c1, .slice A2 n2 c2, .bool false, .bool false, .slice A1 n2 c1, .agg #[.slice A1 n2 c1, .slice X (H + 1) cX], .slice A2 n2 c2, .agg #[.slice A2 n2 c2, .slice Y (H + 1) cY], .string rt, .string rt, .bool false, .func (.func 39) #[] #[.pointer (some ⟨P + 1 + 1 + 1, 0, none⟩)], .int .i64 (x.1.1 : Nat), .int .i64 (x.1.2 : Nat), undef, undef, undef, undef, undef, undef, undef, undef, undef, undef, undef, undef, undef, undef], defers := [] })
    (fun x a' _ X Y row hs hg hr => hs)
    ?assign ?body ?done ?stop
  case assign =>
    rintro l pre x W K hI hK
    gi_wp2
    refine hK _ _ (KeepsFrom.refl _ _) ⟨Below.refl _ _, fun _ _ => rfl⟩ hI rfl
  case body =>
    rintro yl pre x a' W hl' hpre hI rfl hlt
    obtain ⟨⟨h, j⟩, hh, hj⟩ := x
    simp only at hh hj ⊢
    have HI := Lib.hid hI
    have HT1 := Lib.hid (fun w' hb => rtold_any G A1 n2 c1 X cX svs l H h j w' (HM1.out.below hb) HZ1.out HL1.out hH hh hj)
    have HT2 := Lib.hid (fun w' hb => rtold_any (G + 1) A2 n2 c2 Y cY svt m H h j w' (HM2.out.below hb) HZ2.out HL2.out hH hh hj)
    have HAl := Lib.hid (show ∀ e : toldT l h j = toldT m h j, ∀ q ∈ pre ++ [⟨(h, j), hh, hj⟩], toldT l q.1.1 q.1.2 = toldT m q.1.1 q.1.2 from fun e q hq => by
      rcases List.mem_append.1 hq with hq | hq
      · exact hI.al q hq
      · obtain rfl := List.mem_singleton.1 hq
        exact e)
    have HLX := Lib.hid (show ∀ (e : toldT l h j ≠ toldT m h j) (W' : World), W'.heap[P]? = some (.cells #[.string (toldT l h j)] 9 (0, 0)) → W'.heap[P + 1]? = some (.cells #[.string (toldT m h j)] 9 (0, 0)) → W'.heap[P + 1 + 1]? = some (.cells #[.bool true] 4 (0, 0)) → Below w.heap.size w W' → LX w P (P + 1) (P + 1 + 1) l m H (.exit 0) (pre ++ [⟨(h, j), hh, hj⟩]) W' from fun e W' h1 h2 h3 hb => ⟨rfl, ⟨pre, ⟨(h, j), hh, hj⟩, rfl, hI.al, e, h1, h2, h3⟩, hb⟩)
    generalize toldT l h j = ta at HT1 HAl HLX
    generalize toldT m h j = tb at HT2 HAl HLX
    have hd : 1 ≤ 4 - 1 - 1 := by omega
    clear hpre hI hlt hl'
    by_cases he : ta = tb
    · subst he
      have d3 : (ta.toList == ta.toList) = true := beq_self_eq_true _
      gi_wp2_with (first
        | (refine ⟨trivial, ?_⟩; gi_at_call 22; refine (CallsIn.inRound yl (callsIn_wide.2 (HT1.out _ HI.out.hb))).mono ?_; rintro e w9 ⟨rfl, hb9⟩; have HB9 := Lib.hid hb9; clear HT1 hb9)
        | (refine ⟨trivial, ?_⟩; gi_at_call 22; refine (CallsIn.inRound yl (callsIn_wide.2 (HT2.out _ (Below.chain HI.out.hb HB9.out)))).mono ?_; rintro e w10 ⟨rfl, hb10⟩; replace HB9 := Lib.hid (HB9.out.trans (hb10.mono HB9.out.size)); clear HT2 hb10))
      have hs8 := HI.out.hb.size
      exact ⟨⟨HB9.out.size, fun k o _ ho _ => cells_below ho HB9.out⟩, ⟨HB9.out.mono hs8, keepB_below (by simp; omega) HB9.out⟩, ⟨HAl.out (by first | rfl | trivial), Below.chain HI.out.hb HB9.out⟩⟩
    · have d3 := text_ne2' he
      gi_wp2_with (first
        | (refine ⟨trivial, ?_⟩; gi_at_call 22; refine (CallsIn.inRound yl (callsIn_wide.2 (HT1.out _ HI.out.hb))).mono ?_; rintro e w9 ⟨rfl, hb9⟩; have HB9 := Lib.hid hb9; clear HT1 hb9)
        | (refine ⟨trivial, ?_⟩; gi_at_call 22; refine (CallsIn.inRound yl (callsIn_wide.2 (HT2.out _ (Below.chain HI.out.hb HB9.out)))).mono ?_; rintro e w10 ⟨rfl, hb10⟩; replace HB9 := Lib.hid (HB9.out.trans (hb10.mono HB9.out.size)); clear HT2 hb10; have Z1 := cells_below (cells_below K1.out HI.out.hb) HB9.out; have Z2 := cells_below (cells_below K2.out HI.out.hb) HB9.out; have Z3 := cells_below (cells_below K3.out HI.out.hb) HB9.out; have z1 := rf_at Z1 0 _ rfl; have z2 := rf_at Z2 0 _ rfl; have z3 := rf_at Z3 0 _ rfl; have f1 := rf_fr Z1 0; have f2 := rf_fr Z2 0; have f3 := rf_fr Z3 0; replace Z1 := Lib.hid Z1; replace Z2 := Lib.hid Z2; replace Z3 := Lib.hid Z3))
      have hs8 := HI.out.hb.size
      have hBw := Lib.hid (HB.out.trans ((Below.chain HI.out.hb HB9.out).mono HB.out.size))
      have q1 := blk_set Z1.out 0 (.string ta)
      have q2 := blk_set ((Below.heap_setCell w10 ⟨P, 0, none⟩ (.string ta) (P + 1) (by dsimp only; omega)).trans Z2.out) 0 (.string tb)
      have q3 := blk_set ((Below.heap_setCell (w10.setCell ⟨P, 0, none⟩ (.string ta)) ⟨P + 1, 0, none⟩ (.string tb) (P + 1 + 1) (by dsimp only; omega)).trans ((Below.heap_setCell w10 ⟨P, 0, none⟩ (.string ta) (P + 1 + 1) (by dsimp only; omega)).trans Z3.out)) 0 (.bool true)
      simp only [List.setIfInBounds_toArray, List.set_cons_zero] at q1 q2 q3
      refine ⟨⟨?_, fun k o hk ho hc => ?_⟩, HLX.out he _ ?_ ?_ q3 ?_⟩
      · have := HB9.out.size
        simp
        exact this
      · rw [Below.heap_setCell _ _ _ _ (by dsimp only; omega), Below.heap_setCell _ _ _ _ (by dsimp only; omega), Below.heap_setCell _ _ _ _ (by dsimp only; omega)]
        exact cells_below ho HB9.out
      · exact (Below.heap_setCell _ _ _ _ (by dsimp only; omega)).trans ((Below.heap_setCell _ _ _ _ (by dsimp only; omega)).trans q1)
      · exact (Below.heap_setCell _ _ _ _ (by dsimp only; omega)).trans q2
      · exact ((hBw.out.setCell (p := ⟨P, 0, none⟩) (by dsimp only; omega) _).setCell (p := ⟨P + 1, 0, none⟩) (by dsimp only; omega) _).setCell (p := ⟨P + 1 + 1, 0, none⟩) (by dsimp only; omega) _
  case done =>
    rintro D ys W hD hys hI hK
    refine absurd (alike_all HL1.out HL2.out fun q hq => ?_) HNe.out
    rw [← hys] at hq
    obtain ⟨x, hx, rfl⟩ := List.mem_map.1 hq
    exact hI.al x hx
  case stop =>
    rintro D cd pre W hD hpre hX hK
    obtain ⟨rfl, ⟨pre', x, rfl, hp, hne, g1, g2, g3⟩, gB⟩ := hX
    have hpre2 : pre'.map Subtype.val ++ [x.1] <+: downL H (H + 1) := by simpa using hpre
    have Hs := Lib.hid (found_sum HL1.out HL2.out HRoot.out hpre2 (fun q hq => by obtain ⟨y, hy, rfl⟩ := List.mem_map.1 hq; exact hp y hy))
    have Hz1 := Lib.hid (rtold_size HZ1.out HL1.out x.2.1 x.2.2)
    have Hz2 := Lib.hid (rtold_size HZ2.out HL2.out x.2.1 x.2.2)
    have Hne := Lib.hid hne
    generalize toldT l x.1.1 x.1.2 = ta at g1 Hs Hz1 Hne
    generalize toldT m x.1.1 x.1.2 = tb at g2 Hs Hz2 Hne
    have HK := Lib.hid hK
    have GB := Lib.hid gB
    have z1 := rf_at g1 0 _ rfl
    have z2 := rf_at g2 0 _ rfl
    have z3 := rf_at g3 0 _ rfl
    clear hK gB hp hne hpre hpre2 g1 g2 g3
    gi_wp2
    refine wpIn_wide.2 ?_
    go_quiet (fail)
    gi_wp2
    rw [Exit.noGoto_ret]
    have hK2 : (W.drewN nq).heap[D]? = some (.deferred (some [])) := HK.out
    refine ⟨by simp, .inl ⟨_, _, rfl, run_takeDeferred hK2, ?_⟩⟩
    exact ⟨_, results_tmp3 rfl _ _ _, ⟨_, _, rfl, Hne.out, Hs.out, Hz1.out, Hz2.out⟩, (below_drewN GB.out nq).trans (belowK_b (w := w) (Nat.le_refl _) _ D _ _ (by have := HB.out.size; omega) hK2 rfl rfl)⟩
end Go.Proofs.YtpngdfmifabmdaaGreatDoor
