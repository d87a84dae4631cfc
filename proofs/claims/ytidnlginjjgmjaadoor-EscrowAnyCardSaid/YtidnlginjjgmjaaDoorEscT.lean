/-
  Plain law of escrow: any m + 1 shares of a secret combine to it; a share's text tells the share.
-/
import Derived.Test.YtidnlginjjgmjaaDoorRecover
namespace Go.Proofs.YtidnlginjjgmjaaDoor
set_option linter.unusedVariables false

theorem getShare_putE {x : Int} {b : List UInt8} (h1 : 1 ≤ x) (h2 : x ≤ 255) (hb : b.length = 32) : getShareRes (putL (UInt8.ofNat x.toNat :: b)) = some (x, b) := by
  have hx := u8_wrap x (by omega) h2
  rw [getShareRes, get_put _ (by simp [hb])]
  have h0 : UInt8.ofNat x.toNat ≠ 0 := fun e => by
    rw [e] at hx
    have : (0 : UInt8).toNat = 0 := rfl
    omega
  simp [hb, h0]
  omega
/-- Share i of a secret; and its text. -/
def pick (s t : List UInt8) (m i : Nat) : Shr := (((i + 1 : Nat) : Int), bs (shareL s t m i))
def expT (s t : List UInt8) (m i : Nat) : ByteArray := bs (putL (UInt8.ofNat (i + 1) :: shareL s t m i))
theorem shareL_len (s t : List UInt8) (m i : Nat) : (shareL s t m i).length = 32 := by simp [shareL]
theorem put_pick (s t : List UInt8) (m i : Nat) (hi : i < 255) : putOne (pick s t m i) = some (expT s t m i) := by
  have h : putShareRes ((i + 1 : Nat) : Int) (shareL s t m i) = some (putL (UInt8.ofNat (i + 1) :: shareL s t m i)) := by
    unfold putShareRes
    rw [if_pos ⟨by omega, by omega, shareL_len _ _ _ _⟩, Int.toNat_natCast]
  show Option.map bs (putShareRes ((i + 1 : Nat) : Int) (shareL s t m i)) = _
  rw [h]
  rfl
theorem get_pick (s t : List UInt8) (m i : Nat) (hi : i < 255) : getOne (expT s t m i) = some (pick s t m i) := by
  have := getShare_putE (x := ((i + 1 : Nat) : Int)) (b := shareL s t m i) (by omega) (by omega) (shareL_len _ _ _ _)
  simp only [Int.toNat_natCast] at this
  simp only [getOne, expT, bs_data, this, pick, Option.map_some]
theorem exportL_eq (s t : List UInt8) (n m : Nat) (hn : n ≤ 255) : exportL s t n m = (List.range n).map (expT s t m) := by
  rw [exportL, putAll, splitL]
  have : ∀ (k : Nat), k ≤ 255 → (((List.range k).map (pick s t m)).filterMap putOne) = (List.range k).map (expT s t m) := by
    intro k
    induction k with
    | zero => intro _; rfl
    | succ k ih =>
      intro hk
      rw [List.range_succ, List.map_append, List.filterMap_append, ih (by omega), List.map_append]
      simp [put_pick s t m k (by omega)]
  exact this n hn
theorem exportL_len (s t : List UInt8) (n m : Nat) (hn : n ≤ 255) : (exportL s t n m).length = n := by rw [exportL_eq s t n m hn]; simp
theorem xsOf_pick (s t : List UInt8) (m : Nat) (ps : List Nat) : xsOf (ps.map (pick s t m)) = ps.map fun i => UInt8.ofNat (i + 1) := by
  rw [xsOf, List.map_map]
  rfl
theorem ysOf_pick (s t : List UInt8) (m : Nat) (ps : List Nat) (j : Nat) (hj : j < 32) : ysOf (ps.map (pick s t m)) j = (ps.map fun i => UInt8.ofNat (i + 1)).map (evalP (colL s t j m)) := by
  rw [ysOf, List.map_map, List.map_map]
  refine List.map_congr_left fun i hi => ?_
  simp only [Function.comp, pick, bs_data, shareL]
  simp [hj, shareB]
theorem xs_nodup (N : Nat) (ps : List Nat) (hN : N ≤ 255) (hlt : ∀ i ∈ ps, i < N) (hnd : ps.Nodup) : (ps.map fun i => UInt8.ofNat (i + 1)).Nodup := by
  refine List.pairwise_map.2 ?_
  refine List.Pairwise.imp_of_mem (R := fun a b => a ≠ b) (fun {a b} ha hb hne e => hne ?_) hnd
  have := congrArg UInt8.toNat e
  rw [UInt8.toNat_ofNat', UInt8.toNat_ofNat'] at this
  have h1 := hlt a ha
  have h2 := hlt b hb
  omega
/-- Any m + 1 shares combine to the secret. -/
theorem at_split (s t : List UInt8) (N m : Nat) (ps : List Nat) (hN : N ≤ 255) (hlt : ∀ i ∈ ps, i < N) (hnd : ps.Nodup) (hl : ps.length = m + 1) (hs : s.length = 32) : atL (ps.map (pick s t m)) 0 = s := by
  apply List.ext_getElem
  · simp [atL, hs]
  · intro j h1 h2
    have hj : j < 32 := by omega
    simp only [atL, List.getElem_map, List.getElem_range]
    rw [xsOf_pick, ysOf_pick s t m ps j hj, atP_eval _ _ (xs_nodup N ps hN hlt hnd) (by simp [colL, hl]) (by simp [hl])]
    rw [colL, evalP, zero_gm, x_zero, getD_at s j h2]
/-- A list of such texts is read as the shares. -/
theorem getAll_exp (s t : List UInt8) (m : Nat) (ps : List Nat) (hlt : ∀ i ∈ ps, i < 255) : getAll (ps.map (expT s t m)) = ps.map (pick s t m) := by
  induction ps with
  | nil => rfl
  | cons i ps ih =>
    rw [getAll, List.map_cons, List.filterMap_cons, get_pick s t m i (hlt i (by simp)), ← getAll, ih (fun j hj => hlt j (by simp [hj]))]
    rfl
theorem readTo_nodup (l : List Shr) (h : (l.map Prod.fst).Nodup) : ∀ i, i ≤ l.length → readTo l i = l.take i
  | 0, _ => by simp [readTo]
  | i + 1, hi => by
    have hil : i < l.length := by omega
    have hg : l.getD i (0, ⟨#[]⟩) = l[i] := by simp [hil]
    rw [readTo, hg, readTo_nodup l h i (by omega), List.take_succ_eq_append_getElem hil, if_neg]
    intro hs
    obtain ⟨q, hq, hqe⟩ := List.any_eq_true.1 hs
    obtain ⟨j, hj, e⟩ := List.mem_iff_getElem.1 hq
    rw [List.getElem_take] at e
    have hji : j < i := by simp at hj; omega
    have := List.pairwise_iff_getElem.1 h j i (by simp; omega) (by simpa using hil) hji
    simp only [List.getElem_map] at this
    apply this
    rw [e]
    simpa using hqe
theorem readL_nodup (l : List Shr) (h : (l.map Prod.fst).Nodup) : readL l = l := by
  rw [readL, readTo_nodup l h _ (Nat.le_refl _), List.take_of_length_le (Nat.le_refl _)]
theorem pick_nodup (s t : List UInt8) (m : Nat) (ps : List Nat) (h : ps.Nodup) : ((ps.map (pick s t m)).map Prod.fst).Nodup := by
  rw [List.map_map]
  exact List.pairwise_map.2 (h.imp fun hne e => hne (by simp only [Function.comp, pick] at e; omega))
theorem smudge_none : getOne ⟨#[115, 109, 117, 100, 103, 101]⟩ = none := by decide +kernel
end Go.Proofs.YtidnlginjjgmjaaDoor
