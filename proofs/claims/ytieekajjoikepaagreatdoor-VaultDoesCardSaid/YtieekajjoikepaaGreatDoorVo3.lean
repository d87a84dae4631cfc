/-
  Contracts of volume: Format, Read, Write.
-/
import Derived.Test.YtieekajjoikepaaGreatDoorVo2
namespace Go.Proofs.YtieekajjoikepaaGreatDoor
open Go.RowKit
set_option linter.unusedVariables false
set_option linter.unusedSimpArgs false
set_option maxRecDepth 100000
set_option maxHeartbeats 2000000

theorem rd_keep {W W' : World} {A : Option Addr} {xs : List Value} (h : Rd W A xs) (hk : ∀ b o, A = some ⟨b, o, none⟩ → b < W.heap.size → W'.heap[b]? = W.heap[b]?) : Rd W' A xs := fun q v hv => by
  obtain ⟨b, o, e, hc⟩ := h q v hv
  refine ⟨b, o, e, ?_⟩
  have := hk b o e (cell_lt hc)
  unfold World.cell? at hc ⊢
  rw [this]
  exact hc
theorem vrd_set {W : World} {A : Option Addr} {xs : List Value} (h : Rd W A xs) {g i : Nat} (hne : ∀ b o, A = some ⟨b, o, none⟩ → g ≠ b) (u : Value) : Rd (W.setCell ⟨g, i, none⟩ u) A xs :=
  rd_keep h fun b o e _ => Below.heap_setCell _ _ _ _ (by dsimp only; exact fun h' => hne b o e h'.symm)
theorem own_text_set {W : World} {B : Nat} {A : Option Addr} {n cap : Nat} {l : List ByteArray} {i : Nat} (h : W.ownsRow B 9 1 (.slice A n cap) n (textsV l)) (hi : i < n) (hn : n = l.length) :
    ∃ gA, A = some ⟨gA, 0, none⟩ ∧ B ≤ gA ∧ gA < W.heap.size ∧ (∃ u, W.cell? ⟨gA, i, none⟩ = some u) ∧ W.frozen? ⟨gA, i, none⟩ = false ∧ ∀ u, (W.setCell ⟨gA, i, none⟩ (.string u)).ownsRow B 9 1 (.slice A n cap) n (textsV (l.set i u)) := by
  have hr := own_rd h
  rcases h.2 with ⟨_, h0⟩ | ⟨g, cap', cur, hv, hB, hg, h1, h2, h3, h4⟩
  · omega
  · injection hv with e1 e2 e3
    subst e1 e3
    obtain ⟨b, o, e, hc⟩ := texts_at hr (by rw [← hn]; exact hi : i < l.length)
    injection e with e
    injection e with e1 e2
    subst e1 e2
    rw [Nat.zero_add] at hc
    refine ⟨g, rfl, hB, cell_lt_of hg, ⟨_, hc⟩, by unfold World.frozen?; simp [hg], fun u => ⟨by simpa [textsV] using h.1, .inr ⟨g, cap, cur.setIfInBounds i (.string u), rfl, hB, blk_set hg i (.string u), h1, h2, by simpa using h3, ?_⟩⟩⟩
    rw [Array.toList_setIfInBounds, List.take_set, h4]
    simp [textsV, List.map_set]
/-- A volume whose row of blocks is the call's own. -/
def VVf (B : Nat) (w : World) (v : Value) (V : Vol) : Prop := ∃ A n c, v = .agg #[.slice A n c, .string V.rt] ∧ (Rd w A (textsV V.bl) ∧ ∀ b o, A = some ⟨b, o, none⟩ → B ≤ b) ∧ n = V.bl.length
theorem VVf.vv {B : Nat} {w : World} {v : Value} {V : Vol} (h : VVf B w v V) : VV w v V := by
  obtain ⟨A, n, c, rfl, h1, h2⟩ := h
  exact ⟨A, n, c, rfl, h1.1, h2⟩
/-- What is handed back: a volume, and an error's number. -/
def VolE (w : World) (V : Vol) (n : Nat) (e : Ending) (w' : World) : Prop := ∃ v, e = .returned (.tuple #[v, .int .i64 (n : Nat)]) ∧ VVf w.heap.size w' v V ∧ Below w.heap.size w w'
theorem format_any (n : Nat) (w : World) (hR : Rounds w) :
    Calls Tryz.prog 20 #[.int .i64 (n : Nat)] w (VolE w (if countB n = true then rooted (List.replicate n noT) else vol0) (if countB n = true then 0 else 1)) := by
  have HC := Lib.hid (fun W => count_any n W)
  have HY := Lib.hid (heap_alloc_new w (.cells #[.slice none 0 0, .string ⟨#[]⟩] 27))
  have Hb := Lib.hid ((Below.refl w.heap.size w).alloc (Nat.le_refl _) (.cells #[.slice none 0 0, .string ⟨#[]⟩] 27))
  have HR := Lib.hid hR
  clear hR
  have b0 := rf_at HY.out 0 _ rfl
  have b1 := rf_at HY.out 1 _ rfl
  have f2 := rf_fr HY.out 0
  have f3 := rf_fr HY.out 1
  cases hc : countB n with
  | false =>
    rw [hc] at HC
    rw [if_neg (by simp), if_neg (by simp)]
    clear hc
    go_enter Tryz.func20, Tryz.ntmps20
    go_wp2_with fail
    refine (HC.out _).mono ?_
    rintro e w1 ⟨rfl, rfl⟩
    go_wp2_with fail
    refine bodyPost_ret (res_cell_tmp rfl _ _ w.heap.size (by rfl) _ (load_vol HY.out)) rfl ?_
    exact ⟨_, rfl, ⟨none, 0, 0, rfl, ⟨Rd.nil _ _, fun _ _ h => by cases h⟩, rfl⟩, Hb.out⟩
  | true =>
    rw [hc] at HC
    rw [if_pos rfl, if_pos rfl]
    have hle := count_le hc
    have Hmay := Lib.hid (show mayB (List.replicate n noT).length = true by rw [List.length_replicate]; exact count_may hc)
    obtain ⟨iS, hS0, hS1, hS2, hS3⟩ := info_parts string_info
    have hn64 : n ≤ 64 := hle.2
    clear hc b0 b1 f2 f3 hle
    go_enter Tryz.func20, Tryz.ntmps20
    go_wp2_with fail
    refine (HC.out _).mono ?_
    rintro e w1 ⟨rfl, rfl⟩
    go_wp2_with (refine wpList_make_full _ (by rfl) (.tmp 9) (.tmp 9) 22 (by rfl) (w.heap.size + 1) 9 iS (.string ⟨#[]⟩) 1 Tryz.underlying22 hS0 hS1 hS2 .i64 .i64 _ _ n (by rfl) (by rfl) rfl rfl (by rw [hS3]; omega) (by unfold maxLen; omega) (by simp) ?_)
    intro w2 ho2 hg2
    have hmk : (madeCells #[Value.string ⟨#[]⟩] n).toList = textsV (List.replicate n noT) := by
      rw [toList_madeCells_one]
      simp [textsV, noT]
    rw [hmk] at ho2
    have HO2 := Lib.hid ho2
    have Hb2 := Lib.hid (Hb.out.grown hg2 (by simp) (fun k e => by cases e))
    have HY2 := Lib.hid ((hg2.block w.heap.size (by simp) (by simp)).trans HY.out)
    clear ho2 hg2 hmk
    have al := (Below.refl w2.heap.size w2).alloc (Nat.le_refl _) (.cells #[.slice (some ⟨w.heap.size + 1, 0, none⟩) n n, .string ⟨#[]⟩] 76)
    have HRo := Lib.hid (rooted_any w2.heap.size (some ⟨w.heap.size + 1, 0, none⟩) n n (List.replicate n noT) ⟨#[]⟩ (w.heap.size + 1) _ (heap_alloc_new w2 (.cells #[.slice (some ⟨w.heap.size + 1, 0, none⟩) n n, .string ⟨#[]⟩] 76)) ((own_rd HO2.out).below al) (by simp) Hmay.out (fun s hs => by rw [(List.mem_replicate.1 hs).2]; exact Nat.zero_le _) (HR.out.below (Hb2.out.trans (al.mono Hb2.out.size))) (by have := cell_lt_of HY2.out; omega))
    have HY3 := Lib.hid (cells_below HY2.out al)
    have Hb3 := Lib.hid (Hb2.out.trans (al.mono Hb2.out.size))
    have HO3 := Lib.hid ((own_rd HO2.out).below al)
    have hlt2 := cell_lt_of HY2.out
    clear al
    go_wp2_with fail
    refine (HRo.out).mono ?_
    rintro e w4 ⟨rfl, hb4, hk4⟩
    have HY4 := Lib.hid ((hb4.block w.heap.size (by omega)).trans HY3.out)
    have b0 := rf_at HY4.out 0 _ rfl
    have b1 := rf_at HY4.out 1 _ rfl
    have f2 := rf_fr HY4.out 0
    have f3 := rf_fr HY4.out 1
    have Hb4 := Lib.hid (Hb3.out.trans (hb4.mono (by omega)))
    have Rd4 := Lib.hid (show Rd w4 (some ⟨w.heap.size + 1, 0, none⟩) (textsV (List.replicate n noT)) from rd_keep (own_rd HO2.out) fun b o e hlt => by
      injection e with e
      injection e with e1 e2
      subst e1
      exact (hk4 _ (by simp; omega) (by omega)).trans (Below.heap_alloc _ _ _ hlt))
    clear hb4 hk4
    go_wp2_with fail
    refine bodyPost_ret (res_cell_tmp rfl _ _ w.heap.size (by rfl) _ (load_vol (vol_set HY4.out _ _))) rfl ?_
    exact ⟨_, rfl, ⟨_, _, _, rfl, ⟨vrd_set (vrd_set Rd4.out (fun b o e => by injection e with e; injection e with e1 e2; omega) _) (fun b o e => by injection e with e; injection e with e1 e2; omega) _, (fun b o e => by injection e with e; injection e with e1 e2; omega)⟩, by simp [rooted]⟩, (Hb4.out.setCell (p := ⟨w.heap.size, 0, none⟩) (Nat.le_refl _) _).setCell (p := ⟨w.heap.size, 1, none⟩) (Nat.le_refl _) _⟩
theorem two_boxes (w : World) (a b : Value) : ((w.alloc (.cells #[a, b] 27)).alloc (.cells #[a, b] 76)).heap[w.heap.size]? = some (.cells #[a, b] 27 (0, 0)) ∧ ((w.alloc (.cells #[a, b] 27)).alloc (.cells #[a, b] 76)).heap[w.heap.size + 1]? = some (.cells #[a, b] 76 (0, 0)) ∧ Below w.heap.size w ((w.alloc (.cells #[a, b] 27)).alloc (.cells #[a, b] 76)) := by
  have h2 := heap_alloc_new (w.alloc (.cells #[a, b] 27)) (.cells #[a, b] 76)
  rw [World.size_alloc] at h2
  exact ⟨(Below.heap_alloc _ _ _ (by simp)).trans (heap_alloc_new w _), h2, ((Below.refl _ _).alloc (Nat.le_refl _) _).alloc (by simp) _⟩
end Go.Proofs.YtieekajjoikepaaGreatDoor
