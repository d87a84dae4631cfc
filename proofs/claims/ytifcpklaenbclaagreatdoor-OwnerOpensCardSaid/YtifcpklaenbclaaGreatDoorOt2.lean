/-
  Plain: the document's rows of owner.
-/
import Derived.Test.YtifcpklaenbclaaGreatDoorOt
namespace Go.Proofs.YtifcpklaenbclaaGreatDoor
set_option linter.unusedVariables false
set_option linter.unusedSimpArgs false
set_option maxRecDepth 100000

def anyFit (r : Rec) (ls : List Ans) (i : Nat) : Bool := ls.any fun q => decide (q.nm = r.ns.getD i noneT) && fitB r q
theorem hit_any (r : Rec) (ls : List Ans) (i : Nat) : hit r ls i = anyFit r ls i := by
  unfold hit firstF anyFit
  rw [Option.isSome_map, Bool.eq_iff_iff, List.find?_isSome, List.any_eq_true]
  simp [tells]
def annT : ByteArray := ⟨#[97, 110, 110]⟩
def bobT : ByteArray := ⟨#[98, 111, 98]⟩
def cyT : ByteArray := ⟨#[99, 121]⟩
def rep (n : Nat) (c : UInt8) : ByteArray := bs (List.replicate n c)
theorem rep_size (n : Nat) (c : UInt8) : (rep n c).size = n := by unfold rep; rw [bs_size, List.length_replicate]
def names0 : List ByteArray := [annT, bobT, cyT]
def salts0 : List ByteArray := [rep 16 1, rep 16 1, rep 16 1]
def D0 : Deal := dealD (rep 32 3) names0 2 (rep 32 4) salts0
theorem share3 : shareL (List.replicate 32 3) (List.replicate 32 4) 1 2 = List.replicate 32 15 := by decide +kernel
theorem differ : sumL ([112, 108, 101, 100, 103, 101] ++ List.replicate 16 9 ++ [3] ++ List.replicate 32 15) ≠ sumL ([112, 108, 101, 100, 103, 101] ++ List.replicate 16 1 ++ [3] ++ List.replicate 32 15) := by decide +kernel
theorem split0 : splitOK (rep 32 3) (rep 32 4) ((names0.length : Nat) : Int) 2 = true := by
  unfold splitOK
  rw [rep_size, rep_size]
  rfl
theorem sh0 : dealSh (rep 32 3) (rep 32 4) names0.length 2 = [pick (List.replicate 32 3) (List.replicate 32 4) 1 0, pick (List.replicate 32 3) (List.replicate 32 4) 1 1, pick (List.replicate 32 3) (List.replicate 32 4) 1 2] := by
  unfold dealSh
  rw [if_pos split0]
  rfl
theorem bright0 (c : UInt8) (i : Nat) (hi : i < 3) : brightB (rep 16 c) (pick (List.replicate 32 3) (List.replicate 32 4) 1 i) = true := by
  unfold brightB pick
  rw [rep_size]
  show (true && decide ((1 : Int) ≤ ((i + 1 : Nat) : Int)) && decide (((i + 1 : Nat) : Int) ≤ 255) && decide ((bs (shareL (List.replicate 32 3) (List.replicate 32 4) 1 i)).size = 32)) = true
  rw [decide_eq_true (by omega), decide_eq_true (by omega), decide_eq_true (by rw [bs_size, shareL_len])]
  rfl
theorem pairs0 : pairsOK salts0 (dealSh (rep 32 3) (rep 32 4) names0.length 2) = true := by
  unfold pairsOK salts0
  rw [sh0]
  simp only [List.zip_cons_cons, List.zip_nil_right, List.all_cons, List.all_nil, bright0 1 0 (by omega), bright0 1 1 (by omega), bright0 1 2 (by omega)]
  rfl
theorem allE0 : allE salts0 (dealSh (rep 32 3) (rep 32 4) names0.length 2) = 0 := by
  unfold allE
  rw [if_neg (show ¬ salts0.length ≠ (dealSh (rep 32 3) (rep 32 4) names0.length 2).length by rw [sh0]; simp [salts0]), if_pos pairs0]
theorem ps0 : D0.r.ps = [sumT (rep 16 1) (pick (List.replicate 32 3) (List.replicate 32 4) 1 0), sumT (rep 16 1) (pick (List.replicate 32 3) (List.replicate 32 4) 1 1), sumT (rep 16 1) (pick (List.replicate 32 3) (List.replicate 32 4) 1 2)] := by
  show allL salts0 (dealSh (rep 32 3) (rep 32 4) names0.length 2) = _
  unfold allL
  rw [if_pos allE0, sh0]
  rfl
theorem check0 : checkR D0.r = true := by
  have hh : headR D0.r = true := by
    unfold headR
    rw [ps0]
    rfl
  have hn : ∀ i, i < 3 → okE D0.r i = true := fun i hi => by
    unfold okE
    rw [ps0]
    have h3 : i = 0 ∨ i = 1 ∨ i = 2 := by omega
    rcases h3 with rfl | rfl | rfl
    · show (nameB annT && decide ((sumT _ _).size = 32) && (true || _)) = true
      rw [sumT_len]
      decide
    · show (nameB bobT && decide ((sumT _ _).size = 32) && (false || lessB annT bobT)) = true
      rw [sumT_len]
      decide +kernel
    · show (nameB cyT && decide ((sumT _ _).size = 32) && (false || lessB bobT cyT)) = true
      rw [sumT_len]
      decide +kernel
  unfold checkR
  rw [hh]
  show (true && (List.range 3).all (okE D0.r)) = true
  rw [List.all_eq_true.2 fun j hj => hn j (List.mem_range.1 hj)]
  rfl
theorem dealB0 : dealB (rep 32 3) names0 2 (rep 32 4) salts0 = true := by
  have h : checkR (dealD (rep 32 3) names0 2 (rep 32 4) salts0).r = true := check0
  unfold dealB
  rw [split0, allE0, h]
  rfl
theorem good0 : Good D0 1 (List.replicate 32 4) := deal_good dealB0
def a0 : Ans := ansD D0 0
def b0 : Ans := ansD D0 2
def c0 : Ans := { ansD D0 2 with salt := rep 16 9 }
theorem fit_a0 : fitB D0.r a0 = true := fit_own good0 (by decide)
theorem fit_b0 : fitB D0.r b0 = true := fit_own good0 (by decide)
theorem fit_c0 : fitB D0.r c0 = false := by
  have h2 := place_at check0 2 (by decide)
  have hps : D0.r.ps.getD 2 noneT = sumT (rep 16 1) (pick (List.replicate 32 3) (List.replicate 32 4) 1 2) := by rw [ps0]; rfl
  have hsh : (c0.x, c0.b) = pick (List.replicate 32 3) (List.replicate 32 4) 1 2 := good_sh good0 (i := 2) (by decide)
  unfold fitB
  rw [show c0.nm = D0.r.ns[2] from rfl, h2.2, hsh, Nat.add_sub_cancel, hps]
  have : checkP (sumT (rep 16 1) (pick (List.replicate 32 3) (List.replicate 32 4) 1 2)) c0.salt (pick (List.replicate 32 3) (List.replicate 32 4) 1 2) = false := by
    unfold checkP
    rw [show c0.salt = rep 16 9 from rfl, bright0 9 2 (by omega), Bool.true_and, decide_eq_false]
    intro e
    unfold sumT at e
    have e2 := bs_inj e
    have h9 : ∀ c : UInt8, (btextB (rep 16 c) (pick (List.replicate 32 3) (List.replicate 32 4) 1 2)).data.toList = [112, 108, 101, 100, 103, 101] ++ List.replicate 16 c ++ [3] ++ List.replicate 32 15 := fun c => by
      unfold btextB pick
      rw [share3]
      simp only [ByteArray.data_append, Array.toList_append]
      rfl
    rw [h9, h9] at e2
    exact differ e2
  rw [this, Bool.and_false]
theorem wrap0 : wrapE D0.sec (rep 12 5) (rep 32 6) = 0 := by
  unfold wrapE sealE onceE
  rw [rep_size, rep_size, show D0.sec = rep 32 3 from rfl, rep_size]
  rfl
theorem wrap0_size : (wrapS D0.sec (rep 12 5) (rep 32 6)).size = 60 := by
  have hs : sealE D0.sec (rep 12 5) masterT (rep 32 6) = 0 := by
    have := wrap0
    unfold wrapE at this
    rwa [if_neg (by rw [rep_size]; simp)] at this
  unfold wrapS
  rw [if_pos wrap0, ByteArray.size_append, (open_seal hs).2.2, rep_size, rep_size]
theorem dealt0 {ls : List Ans} (h : ∀ a ∈ ls, a = a0 ∨ a = b0) : ∀ a ∈ ls, fitB D0.r a = true → (a.x, a.b) = D0.sh.getD (a.x - 1).toNat (0, noneT) := fun a ha _ => by
  rcases h a ha with rfl | rfl
  · rw [show a0.x = 1 from congrArg Prod.fst (good_sh good0 (i := 0) (by decide))]; rfl
  · rw [show b0.x = 3 from congrArg Prod.fst (good_sh good0 (i := 2) (by decide))]; rfl
theorem names_ne : annT ≠ bobT ∧ annT ≠ cyT ∧ bobT ≠ cyT := by decide +kernel
theorem hits3 (ls : List Ans) : hits D0.r ls 3 = (if anyFit D0.r ls 0 = true then [0] else []) ++ (if anyFit D0.r ls 1 = true then [1] else []) ++ (if anyFit D0.r ls 2 = true then [2] else []) := by
  rw [show (3 : Nat) = 0 + 1 + 1 + 1 from rfl, hits_snoc, hits_snoc, hits_snoc, hit_any, hit_any, hit_any]
  rfl
theorem unl_ba : unlE D0.r [b0, a0] (wrapS D0.sec (rep 12 5) (rep 32 6)) = 0 ∧ unlS D0.r [b0, a0] (wrapS D0.sec (rep 12 5) (rep 32 6)) = rep 32 6 := by
  refine opens good0 (dealt0 (by simp)) ?_ wrap0
  have e0 : anyFit D0.r [b0, a0] 0 = true := by
    unfold anyFit
    rw [List.any_eq_true]
    exact ⟨a0, by simp, by rw [fit_a0]; exact Bool.and_eq_true_iff.2 ⟨decide_eq_true rfl, rfl⟩⟩
  have e2 : anyFit D0.r [b0, a0] 2 = true := by
    unfold anyFit
    rw [List.any_eq_true]
    exact ⟨b0, by simp, by rw [fit_b0]; exact Bool.and_eq_true_iff.2 ⟨decide_eq_true rfl, rfl⟩⟩
  show 1 + 1 ≤ (hits D0.r [b0, a0] 3).length
  rw [hits3, if_pos e0, if_pos e2]
  simp only [List.length_append, List.length_cons, List.length_nil]
  omega
theorem few0 {ls : List Ans} (h1 : anyFit D0.r ls 1 = false) (h2 : anyFit D0.r ls 2 = false) (wp : ByteArray) : unlE D0.r ls wp = 220 := by
  refine (few check0 ?_ wp).1
  show ((hits D0.r ls 3).length : Int) < 2
  have h0 : ¬ (false = true) := by simp
  rw [hits3, h1, h2, if_neg h0, if_neg h0]
  split <;> simp
theorem unl_aa (wp : ByteArray) : unlE D0.r [a0, a0] wp = 220 := by
  have k1 : decide (a0.nm = D0.r.ns.getD 1 noneT) = false := decide_eq_false names_ne.1
  have k2 : decide (a0.nm = D0.r.ns.getD 2 noneT) = false := decide_eq_false names_ne.2.1
  refine few0 ?_ ?_ wp
  · show ((decide (a0.nm = D0.r.ns.getD 1 noneT) && fitB D0.r a0) || ((decide (a0.nm = D0.r.ns.getD 1 noneT) && fitB D0.r a0) || false)) = false
    rw [k1]; rfl
  · show ((decide (a0.nm = D0.r.ns.getD 2 noneT) && fitB D0.r a0) || ((decide (a0.nm = D0.r.ns.getD 2 noneT) && fitB D0.r a0) || false)) = false
    rw [k2]; rfl
theorem unl_ac (wp : ByteArray) : unlE D0.r [a0, c0] wp = 220 := by
  have k1 : decide (a0.nm = D0.r.ns.getD 1 noneT) = false := decide_eq_false names_ne.1
  have k2 : decide (a0.nm = D0.r.ns.getD 2 noneT) = false := decide_eq_false names_ne.2.1
  refine few0 ?_ ?_ wp
  · show ((decide (a0.nm = D0.r.ns.getD 1 noneT) && fitB D0.r a0) || ((decide (c0.nm = D0.r.ns.getD 1 noneT) && fitB D0.r c0) || false)) = false
    rw [k1, fit_c0]; simp
  · show ((decide (a0.nm = D0.r.ns.getD 2 noneT) && fitB D0.r a0) || ((decide (c0.nm = D0.r.ns.getD 2 noneT) && fitB D0.r c0) || false)) = false
    rw [k2, fit_c0]; simp
end Go.Proofs.YtifcpklaenbclaaGreatDoor
