/-
  What a seed deals, plainly (change.Deal); a deal that is right; what it gives each place; new disks.
  The phases of a Spread, plainly: where a phase stops; what is told.
-/
import Derived.Test.YtkbjmmigjjdfpaaGreatDoorOt
import Derived.Test.YtkbjmmigjjdfpaaGreatDoorTn
import Derived.Test.YtkbjmmigjjdfpaaGreatDoorCc
namespace Go.Proofs.YtkbjmmigjjdfpaaGreatDoor
/- ChT -/
open Go.RowKit
set_option linter.unusedVariables false

def tapeOf (seed : ByteArray) : List UInt8 := madeL (sumL seed.data.toList)
theorem tapeOf_len (seed : ByteArray) : (tapeOf seed).length = 65536 := madeL_len _
def cSec (L : List UInt8) : ByteArray := bs ((L.drop 0).take 32)
def cRest (L : List UInt8) (m : Nat) : ByteArray := bs ((L.drop 32).take (32 * m))
def cSalt (L : List UInt8) (m i : Nat) : ByteArray := bs ((L.drop (32 + 32 * m + 16 * i)).take 16)
def cSalts (L : List UInt8) (m n : Nat) : List ByteArray := (List.range n).map (cSalt L m)
def cShares (L : List UInt8) (m n : Nat) : List Shr := splitL (cSec L).data.toList (cRest L m).data.toList n m
/-- What the bytes of a tape deal to names, m + 1 of them needed. -/
def cDeal (L : List UInt8) (ns : List ByteArray) (m : Nat) (e : Int) : Deal :=
  ⟨⟨e, ((m + 1 : Nat) : Int), ns, pairsL (cSalts L m ns.length) (cShares L m ns.length)⟩, cSec L, cShares L m ns.length, cSalts L m ns.length⟩
def noDeal : Deal := ⟨⟨0, 0, [], []⟩, ⟨#[]⟩, [], []⟩
def cHead (ns : List ByteArray) (k : Int) : Bool := decide (ns.length ≤ 16) && decide (1 ≤ k) && decide (k ≤ ns.length)
def cOK (seed : ByteArray) (ns : List ByteArray) (k e : Int) : Bool := cHead ns k && decide (seed.size ≤ 1000000000) && checkR (cDeal (tapeOf seed) ns (k - 1).toNat e).r
def dealC (seed : ByteArray) (ns : List ByteArray) (k e : Int) : Deal := if cOK seed ns k e = true then cDeal (tapeOf seed) ns (k - 1).toNat e else noDeal
def dealE (seed : ByteArray) (ns : List ByteArray) (k e : Int) : Int := if cOK seed ns k e = true then 0 else 180
theorem cHead_parts {ns : List ByteArray} {k : Int} (h : cHead ns k = true) : ns.length ≤ 16 ∧ 1 ≤ k ∧ k ≤ ns.length := by
  simp only [cHead, Bool.and_eq_true, decide_eq_true_eq] at h
  exact ⟨h.1.1, h.1.2, h.2⟩
theorem take_len {L : List UInt8} {a n : Nat} (h : a + n ≤ L.length) : ((L.drop a).take n).length = n := by
  rw [List.length_take, List.length_drop]; omega
theorem cSec_size {L : List UInt8} (h : L.length = 65536) : (cSec L).size = 32 := by unfold cSec; rw [bs_size, take_len (by omega)]
theorem cRest_size {L : List UInt8} (h : L.length = 65536) {m : Nat} (hm : m ≤ 15) : (cRest L m).size = 32 * m := by unfold cRest; rw [bs_size, take_len (by omega)]
theorem cSalt_size {L : List UInt8} (h : L.length = 65536) {m i : Nat} (hm : m ≤ 15) (hi : i < 16) : (cSalt L m i).size = 16 := by unfold cSalt; rw [bs_size, take_len (by omega)]
theorem cSalts_len (L : List UInt8) (m n : Nat) : (cSalts L m n).length = n := by simp [cSalts]
theorem cShares_len (L : List UInt8) (m n : Nat) : (cShares L m n).length = n := by simp [cShares, splitL]
theorem cSalts_at {L : List UInt8} {m n i : Nat} (hi : i < n) : (cSalts L m n).getD i noneT = cSalt L m i := by
  rw [cSalts, List.getD_eq_getElem?_getD, List.getElem?_map, List.getElem?_range hi]; rfl
theorem cSalts_snoc (L : List UInt8) (m n : Nat) : cSalts L m (n + 1) = cSalts L m n ++ [cSalt L m n] := by simp [cSalts, List.range_succ]
theorem cPick_bright {L : List UInt8} (h : L.length = 65536) {m i : Nat} (hm : m ≤ 15) (hi : i < 16) (s t : List UInt8) : brightB (cSalt L m i) (pick s t m i) = true := by
  have hz : (bs (shareL s t m i)).size = 32 := by rw [bs_size, shareL_len]
  have h1 := cSalt_size h hm hi
  show (decide ((cSalt L m i).size = 16) && decide ((1 : Int) ≤ ((i + 1 : Nat) : Int)) && decide (((i + 1 : Nat) : Int) ≤ 255) && decide ((bs (shareL s t m i)).size = 32)) = true
  rw [decide_eq_true h1, decide_eq_true (by omega), decide_eq_true (by omega), decide_eq_true hz]
  rfl
theorem c_zip {L : List UInt8} {m n i : Nat} (hi : i < n) : ((cSalts L m n).zip (cShares L m n))[i]? = some (cSalt L m i, pick (cSec L).data.toList (cRest L m).data.toList m i) := by
  rw [List.getElem?_eq_getElem (by rw [List.length_zip, cSalts_len, cShares_len]; omega), List.getElem_zip]
  simp [cSalts, cShares, splitL, pick]
theorem c_pairs {L : List UInt8} (h : L.length = 65536) {m n : Nat} (hm : m ≤ 15) (hn : n ≤ 16) : pairsOK (cSalts L m n) (cShares L m n) = true := by
  rw [pairsOK, List.all_eq_true]
  intro q hq
  obtain ⟨i, hi, he⟩ := List.mem_iff_getElem.1 hq
  have hl : i < n := by rw [List.length_zip, cSalts_len, cShares_len] at hi; omega
  have := c_zip (L := L) (m := m) hl
  rw [List.getElem?_eq_getElem hi, he, Option.some.injEq] at this
  rw [this]
  exact cPick_bright h hm (by omega) _ _
theorem c_allE {L : List UInt8} (h : L.length = 65536) {m n : Nat} (hm : m ≤ 15) (hn : n ≤ 16) : allE (cSalts L m n) (cShares L m n) = 0 ∧ allL (cSalts L m n) (cShares L m n) = pairsL (cSalts L m n) (cShares L m n) := by
  have e : allE (cSalts L m n) (cShares L m n) = 0 := by
    unfold allE
    rw [if_neg (by rw [cSalts_len, cShares_len]; simp), if_pos (c_pairs h hm hn)]
  exact ⟨e, by rw [allL, if_pos e]⟩
theorem c_ps {L : List UInt8} {m n i : Nat} (hi : i < n) : (pairsL (cSalts L m n) (cShares L m n)).getD i noneT = sumT (cSalt L m i) (pick (cSec L).data.toList (cRest L m).data.toList m i) := by
  rw [pairsL, List.getD_eq_getElem?_getD, List.getElem?_map, c_zip hi]; rfl
theorem c_ps_len (L : List UInt8) (m n : Nat) : (pairsL (cSalts L m n) (cShares L m n)).length = n := by
  rw [pairsL, List.length_map, List.length_zip, cSalts_len, cShares_len]; omega
/-- A deal whose record is right is good. -/
theorem c_good {L : List UInt8} (h : L.length = 65536) {ns : List ByteArray} {m : Nat} {e : Int} (hn : ns.length ≤ 16) (hm : m + 1 ≤ ns.length) (hc : checkR (cDeal L ns m e).r = true) : Good (cDeal L ns m e) m (cRest L m).data.toList := by
  refine ⟨hc, rfl, hm, cSec_size h, rfl, cSalts_len _ _ _, fun i hi => ?_, fun i hi => ?_⟩
  · have hi' : i < ns.length := hi
    show brightB ((cSalts L m ns.length).getD i noneT) _ = true
    rw [cSalts_at hi']
    exact cPick_bright h (by omega) (by omega) _ _
  · have hi' : i < ns.length := hi
    show (pairsL (cSalts L m ns.length) (cShares L m ns.length)).getD i noneT = sumT ((cSalts L m ns.length).getD i noneT) _
    rw [c_ps hi', cSalts_at hi']
    rfl
theorem cOK_good {seed : ByteArray} {ns : List ByteArray} {k e : Int} (h : cOK seed ns k e = true) : ∃ m : Nat, k = ((m + 1 : Nat) : Int) ∧ m + 1 ≤ ns.length ∧ ns.length ≤ 16 ∧ dealC seed ns k e = cDeal (tapeOf seed) ns m e ∧ Good (dealC seed ns k e) m (cRest (tapeOf seed) m).data.toList ∧ (dealC seed ns k e).r.e = e ∧ (dealC seed ns k e).r.ns = ns := by
  have h' := h
  unfold cOK at h'
  rw [Bool.and_eq_true, Bool.and_eq_true] at h'
  obtain ⟨h1, h2, h3⟩ := cHead_parts h'.1.1
  have he : dealC seed ns k e = cDeal (tapeOf seed) ns (k - 1).toNat e := by rw [dealC, if_pos h]
  refine ⟨(k - 1).toNat, by omega, by omega, h1, he, ?_, by rw [he]; rfl, by rw [he]; rfl⟩
  rw [he]
  exact c_good (tapeOf_len seed) h1 (by omega) h'.2
/-- Is a deal right? -/
def rightD (D : Deal) : Bool := checkR D.r && decide (D.sh.length = D.r.ns.length) && decide (D.sa.length = D.r.ns.length) && (List.range D.r.ns.length).all fun i => decide ((D.sh.getD i (0, noneT)).1 = ((i + 1 : Nat) : Int)) && checkP (D.r.ps.getD i noneT) (D.sa.getD i noneT) (D.sh.getD i (0, noneT))
theorem good_right {D : Deal} {m : Nat} {t : List UInt8} (g : Good D m t) : rightD D = true := by
  have h1 : D.sh.length = D.r.ns.length := by rw [g.sh]; simp
  rw [rightD, g.ck, decide_eq_true h1, decide_eq_true g.sl, Bool.true_and, Bool.true_and, Bool.true_and, List.all_eq_true]
  intro i hi
  have hi := List.mem_range.1 hi
  rw [good_sh g hi, g.pl i hi, checkP, g.br i hi]
  simp [pick]
/-- What a deal gives a place. -/
def giftD (D : Deal) (i : Nat) : Gift := ⟨D.r.e, (D.sh.getD i (0, noneT)).1, (D.sh.getD i (0, noneT)).2, D.sa.getD i noneT⟩
theorem bright_fit {s : ByteArray} {p : Shr} (h : brightB s p = true) : fitX p.1 p.2 s := by
  obtain ⟨h1, h2, h3, h4⟩ := bright_is h
  exact ⟨h2, h3, h4, h1⟩
theorem good_gift {D : Deal} {m : Nat} {t : List UInt8} (g : Good D m t) {i : Nat} (hi : i < D.r.ns.length) : (giftD D i).ok := by
  obtain ⟨e0, e1, _⟩ := check_head g.ck
  refine ⟨e0, e1, ?_⟩
  show fitX (D.sh.getD i (0, noneT)).1 (D.sh.getD i (0, noneT)).2 (D.sa.getD i noneT)
  rw [good_sh g hi]
  exact bright_fit (g.br i hi)
/-- A new disk is one of the epoch ahead of the first. -/
theorem fresh_old {P : Plat} {c : ByteArray} (h : Fresh P c) (hc : c.size = 32) {g : Gift} (hg : g.e = 1) : OldD g c P := by
  obtain ⟨A, B, rfl, hA, hB, gA, gB⟩ := h.ex
  have := hs_pl hA hB
  rw [gA, gB] at this
  refine ⟨_, _, this, rfl, ?_, ?_, ?_⟩ <;> rw [read_fresh hc]
  · rw [hg]; rfl
  · rfl
/-- A disk of a whole epoch is one of the epoch ahead of the next. -/
theorem comm_old {g g' : Gift} {cred : ByteArray} {P : Plat} (hg : g.ok) (h : CommZ g cred P) (he : g'.e = g.e + 1) : OldD g' cred P := by
  refine ⟨_, _, h.1, rfl, ?_, ?_, ?_⟩ <;> rw [comm_read hg h.2]
  · show g.e = g'.e - 1
    omega
  · rfl
theorem comm_gets {g : Gift} {cred : ByteArray} {P : Plat} (hg : g.ok) (h : CommZ g cred P) : getH P = (hold g.e 0 g.x g.b g.salt cred, 0) :=
  hs_get h.1 (comm_read hg h.2) (.inr ⟨rfl, none_next _⟩)

/-- The document's rows: two names, both needed. -/
def seedT : ByteArray := ⟨#[115, 101, 101, 100]⟩
def wordT : ByteArray := ⟨#[119, 111, 114, 100]⟩
def ann2 : ByteArray := ⟨#[97, 110, 110]⟩
def bob2 : ByteArray := ⟨#[98, 111, 98]⟩
theorem names2 : nameB ann2 = true ∧ nameB bob2 = true ∧ lessB ann2 bob2 = true := by decide +kernel
theorem check2 : checkR (cDeal (tapeOf seedT) [ann2, bob2] 1 1).r = true := by
  have hL := tapeOf_len seedT
  generalize tapeOf seedT = L at hL
  obtain ⟨n1, n2, n3⟩ := names2
  have z0 : ((cDeal L [ann2, bob2] 1 1).r.ps.getD 0 noneT).size = 32 := by
    show ((pairsL (cSalts L 1 2) (cShares L 1 2)).getD 0 noneT).size = 32
    rw [c_ps (by omega), sumT_len]
  have z1 : ((cDeal L [ann2, bob2] 1 1).r.ps.getD 1 noneT).size = 32 := by
    show ((pairsL (cSalts L 1 2) (cShares L 1 2)).getD 1 noneT).size = 32
    rw [c_ps (by omega), sumT_len]
  have hp : (cDeal L [ann2, bob2] 1 1).r.ps.length = 2 := c_ps_len L 1 2
  have hh : headR (cDeal L [ann2, bob2] 1 1).r = true := by
    unfold headR
    rw [hp]
    rfl
  rw [checkR, hh, Bool.true_and, List.all_eq_true]
  intro i hi
  have hi : i < 2 := List.mem_range.1 hi
  have : i = 0 ∨ i = 1 := by omega
  rcases this with rfl | rfl
  · rw [okE, z0]
    show (nameB ann2 && _ && _) = true
    rw [n1]
    rfl
  · rw [okE, z1]
    show (nameB bob2 && _ && (_ || lessB ann2 bob2)) = true
    rw [n2, n3]
    rfl
theorem cOK2 : cOK seedT [ann2, bob2] 2 1 = true := by
  have := check2
  unfold cOK
  rw [show ((2 : Int) - 1).toNat = 1 from rfl, this]
  rfl
theorem cOK3 : cOK seedT [ann2, bob2] 3 1 = false := by
  unfold cOK
  have : cHead [ann2, bob2] 3 = false := rfl
  rw [this]
  rfl

/- ChL -/
open Go.RowKit
set_option linter.unusedVariables false

theorem phN_stop {f : Nat → Plat → Int → Plat × Int} {c : Int} {l : List Plat} {d : Int} {j : Nat} (h : (phN f c l d j).2.2 ≠ 0) : ∀ k, phN f c l d (j + k) = phN f c l d j
  | 0 => rfl
  | k + 1 => by
    rw [← Nat.add_assoc, phN, phN_stop h k, if_pos h]
theorem phN_len (f : Nat → Plat → Int → Plat × Int) (c : Int) (l : List Plat) (d : Int) : ∀ k, (phN f c l d k).1.length = l.length
  | 0 => rfl
  | k + 1 => by
    have := phN_len f c l d k
    rw [phN]
    split
    · exact this
    · split
      · simpa using this
      · split
        · simpa using this
        · exact this
theorem phN_d {f : Nat → Plat → Int → Plat × Int} {c : Int} (hc : 0 ≤ c) (hc2 : c ≤ 16) (l : List Plat) (d : Int) : ∀ k : Nat, d - 16 * k ≤ (phN f c l d k).2.1 ∧ (phN f c l d k).2.1 ≤ d
  | 0 => by simp [phN]
  | k + 1 => by
    have := phN_d (f := f) hc hc2 l d k
    rw [phN]
    split
    · exact ⟨by omega, this.2⟩
    · split
      · exact ⟨by simp only; omega, by simp only; omega⟩
      · split
        · exact ⟨by simp only; omega, this.2⟩
        · exact ⟨by simp only; omega, this.2⟩
theorem phN_go {f : Nat → Plat → Int → Plat × Int} {c : Int} {l L : List Plat} {d d' : Int} {k : Nat} (h : phN f c l d k = (L, d', 0)) {r : Plat × Int} (hr : r = f k (L.getD k noPlat) (min d' c)) :
    (r.2 = 0 → phN f c l d (k + 1) = (L.set k r.1, d' - c, 0)) ∧ (r.2 = 230 → phN f c l d (k + 1) = (L.set k r.1, d', 230)) ∧ (r.2 ≠ 0 → r.2 ≠ 230 → phN f c l d (k + 1) = (L, d', r.2)) := by
  subst hr
  refine ⟨fun h1 => ?_, fun h1 => ?_, fun h1 h2 => ?_⟩
  · rw [phN, h]
    simp only
    rw [if_neg (by simp), if_pos h1]
  · rw [phN, h]
    simp only
    rw [if_neg (by simp), if_neg (by omega), if_pos h1]
  · rw [phN, h]
    simp only
    rw [if_neg (by simp), if_neg h1, if_neg h2]
def phF (g : Nat → Gift) : Nat → Nat → Plat → Int → Plat × Int
  | 0 => prepF g
  | _ + 1 => commF g
def phC : Nat → Int
  | 0 => 4
  | _ + 1 => 16
/-- Where a Spread stands ahead of its phase k. -/
def SpSt (g : Nat → Gift) (l : List Plat) (deeds : Int) : Nat → List Plat → Int → Prop
  | 0, L, d => L = l ∧ d = allD l.length deeds
  | 1, L, d => phN (prepF g) 4 l (allD l.length deeds) l.length = (L, d, 0)
  | _, L, d => ∃ L1 d1, phN (prepF g) 4 l (allD l.length deeds) l.length = (L1, d1, 0) ∧ phN (commF g) 16 L1 d1 l.length = (L, d, 0)
theorem SpSt.len {g : Nat → Gift} {l : List Plat} {deeds : Int} {k : Nat} {L : List Plat} {d : Int} (h : SpSt g l deeds k L d) : L.length = l.length := by
  match k, h with
  | 0, h => rw [h.1]
  | 1, h =>
    have := phN_len (prepF g) 4 l (allD l.length deeds) l.length
    rw [show phN _ _ _ _ _ = _ from h] at this
    exact this
  | k + 2, h =>
    obtain ⟨L1, d1, h1, h2⟩ := h
    have e1 := phN_len (prepF g) 4 l (allD l.length deeds) l.length
    have e2 := phN_len (commF g) 16 L1 d1 l.length
    rw [h1] at e1
    rw [h2] at e2
    exact e2.trans e1
theorem SpSt.d {g : Nat → Gift} {l : List Plat} {deeds : Int} {k : Nat} {L : List Plat} {d : Int} (h : SpSt g l deeds k L d) (hn : l.length ≤ 16) (hk : k < 2) : -256 ≤ d ∧ d ≤ 320 := by
  have h0 : 0 ≤ allD l.length deeds ∧ allD l.length deeds ≤ 320 := by
    unfold allD
    split <;> omega
  match k, h with
  | 0, h => rw [h.2]; omega
  | 1, h =>
    have := phN_d (f := prepF g) (c := 4) (by omega) (by omega) l (allD l.length deeds) l.length
    rw [show phN _ _ _ _ _ = _ from h] at this
    simp only at this
    omega
theorem SpSt.next {g : Nat → Gift} {l : List Plat} {deeds : Int} {k : Nat} {L L' : List Plat} {d d' e : Int} (h : SpSt g l deeds k L d) (hk : k < 2) (hp : phN (phF g k) (phC k) L d l.length = (L', d', e)) :
    (e = 0 → SpSt g l deeds (k + 1) L' d') ∧ (e = 230 → spreadL g l deeds = (L', false, 0)) ∧ (e ≠ 0 → e ≠ 230 → spreadL g l deeds = ([], false, e)) := by
  match k, h, hk, hp with
  | 0, h, _, hp =>
    obtain ⟨rfl, rfl⟩ := h
    have hp : phN (prepF g) 4 L (allD L.length deeds) L.length = (L', d', e) := hp
    refine ⟨fun h0 => ?_, fun h0 => ?_, fun h0 h1 => ?_⟩
    · rw [h0] at hp
      exact hp
    · rw [spreadL, hp]
      simp only
      rw [if_pos h0]
    · rw [spreadL, hp]
      simp only
      rw [if_neg h1, if_pos h0]
  | 1, h, _, hp =>
    have h : phN (prepF g) 4 l (allD l.length deeds) l.length = (L, d, 0) := h
    have hp : phN (commF g) 16 L d l.length = (L', d', e) := hp
    refine ⟨fun h0 => ?_, fun h0 => ?_, fun h0 h1 => ?_⟩
    · rw [h0] at hp
      exact ⟨L, d, h, hp⟩
    · rw [spreadL, h]
      simp only
      rw [if_neg (by omega), if_neg (by simp), hp, if_pos h0]
    · rw [spreadL, h]
      simp only
      rw [if_neg (by omega), if_neg (by simp), hp, if_neg h1, if_pos h0]
theorem SpSt.done {g : Nat → Gift} {l : List Plat} {deeds : Int} {L : List Plat} {d : Int} (h : SpSt g l deeds 2 L d) : spreadL g l deeds = (L, true, 0) := by
  obtain ⟨L1, d1, h1, h2⟩ := h
  rw [spreadL, h1]
  simp only
  rw [if_neg (by omega), if_neg (by simp), h2, if_neg (by simp), if_neg (by simp)]
/-- Spread: of whatever deal and disks. -/
def spreadC (D : Deal) (l : List Plat) (deeds : Int) : List Plat × Bool × Int := if rightD D = true ∧ l.length = D.r.ns.length then spreadL (giftD D) l deeds else ([], false, 1)

end Go.Proofs.YtkbjmmigjjdfpaaGreatDoor
