/-
  The disk, plainly: sectors, and writes that wait; a text that is kept twice (twin); no program in sight.
  The holder of a share, plainly: the texts that tell it, its steps on a disk; no program in sight.
  Four bytes tell the word that they are of.
  The holder of a share, plainly: what its steps make of a whole disk (two texts that are kept twice).
  The holder of a share, plainly: a new disk, what is prepared, what is committed, who asks.
  What is read of a disk fits: words, digits and texts of at most so many bytes.
-/
import Derived.Test.YtieekajjoikepaaGreatDoorBase
import Derived.Test.YtieekajjoikepaaGreatDoorGen
import Derived.Test.YtieekajjoikepaaGreatDoorRa
import Derived.Test.YtieekajjoikepaaGreatDoorWd
namespace Go.Proofs.YtieekajjoikepaaGreatDoor
/- PlatT -/
set_option linter.unusedVariables false

/-- A disk: its sectors, and the writes that wait. -/
structure Plat where
  ss : List ByteArray
  cs : List (Int × ByteArray)

def none0 : ByteArray := ⟨#[]⟩
def noPlat : Plat := ⟨[], []⟩
def hasB (n : Nat) (at' : Int) : Bool := decide (0 ≤ at') && decide (at' < (n : Int))
def putB (n : Nat) (c : Int × ByteArray) : Bool := decide (c.2.size ≤ 128) && hasB n c.1
/-- Is a disk right? -/
def checkB (P : Plat) : Bool := decide (1 ≤ P.ss.length) && decide (P.ss.length ≤ 200) && decide (P.cs.length ≤ 100) && P.ss.all (fun s => decide (s.size ≤ 128)) && P.cs.all (putB P.ss.length)
/-- The last write that waits for a sector, among the first k. -/
def lastS (cs : List (Int × ByteArray)) (i : Int) : Option ByteArray := (cs.reverse.find? (fun c => c.1 == i)).map Prod.snd
/-- What is read of a sector: the last write that waits, or the sector. -/
def readS (P : Plat) (i : Int) : ByteArray := (lastS P.cs i).getD (P.ss.getD i.toNat none0)
def readP (P : Plat) (at' : Int) : ByteArray × Int := if checkB P = false then (none0, 1) else if hasB P.ss.length at' = false then (none0, 130) else (readS P at', 0)
def writeP (at' : Int) (s : ByteArray) (P : Plat) : Plat × Int :=
  if checkB P = false then (noPlat, 1) else if hasB P.ss.length at' = false then (noPlat, 130) else if 128 < s.size then (noPlat, 2) else if 100 ≤ P.cs.length then (noPlat, 260) else (⟨P.ss, P.cs ++ [(at', s)]⟩, 0)
/-- The first n bytes of a text, and behind them what there was from place n on. -/
def beginS (old s : ByteArray) (n : Nat) : ByteArray := bs (s.data.toList.take n ++ old.data.toList.drop n)
def fallS (ss : List ByteArray) (c : Int × ByteArray) (fate : Int) : List ByteArray :=
  if fate ≤ 0 then ss else if fate = 1 then ss.set c.1.toNat c.2 else ss.set c.1.toNat (beginS (ss.getD c.1.toNat none0) c.2 (fate - 2).toNat)
/-- The sectors, the first k of the writes that wait done by their fates. -/
def fallTo (P : Plat) (f : Nat → Int) : Nat → List ByteArray
  | 0 => P.ss
  | k + 1 => fallS (fallTo P f k) (P.cs.getD k (0, none0)) (f k)
theorem fallS_len (ss : List ByteArray) (c : Int × ByteArray) (fate : Int) : (fallS ss c fate).length = ss.length := by
  unfold fallS
  split
  · rfl
  · split <;> simp
theorem fallTo_len (P : Plat) (f : Nat → Int) : ∀ k, (fallTo P f k).length = P.ss.length
  | 0 => rfl
  | k + 1 => by rw [fallTo, fallS_len, fallTo_len P f k]
def settleP (f : Nat → Int) (P : Plat) : Plat × Int := if checkB P = false then (noPlat, 1) else (⟨fallTo P f P.cs.length, []⟩, 0)
def syncP (P : Plat) : Plat × Int := settleP (fun _ => 1) P
def crashP (fates : List Int) (P : Plat) : Plat × Int := settleP (fun i => fates.getD i 0) P

/-- The marks. -/
def mark0 : ByteArray := bs [48]
def mark1 : ByteArray := bs [49]
/-- How far behind a mark its body is. -/
def bodyO (mark : ByteArray) : Option Int := if mark = mark0 then some 1 else if mark = mark1 then some 2 else none
/-- What a twin tells: the text, whether there is one, an error's number. -/
def getP (P : Plat) (at' : Int) : ByteArray × Bool × Int :=
  if (readP P at').2 ≠ 0 ∨ (readP P at').1 = none0 then (none0, false, (readP P at').2)
  else match bodyO (readP P at').1 with
    | none => (none0, false, 140)
    | some far => ((readP P (at' + far)).1, decide ((readP P (at' + far)).2 = 0), (readP P (at' + far)).2)
/-- Steps, one behind the other, until one is refused. -/
def runL : List (Plat → Plat × Int) → Plat → Plat × Int
  | [], P => (P, 0)
  | f :: l, P => if (f P).2 ≠ 0 then (noPlat, (f P).2) else runL l (f P).1
/-- How many of n deeds are done. -/
def mostN (deeds : Int) (n : Nat) : Nat := if deeds < 0 ∨ (n : Int) < deeds then n else deeds.toNat
def doP (P : Plat) (deeds : Int) (fs : List (Plat → Plat × Int)) : Plat × Bool × Int :=
  if (runL (fs.take (mostN deeds fs.length)) P).2 ≠ 0 then (noPlat, false, (runL (fs.take (mostN deeds fs.length)) P).2)
  else ((runL (fs.take (mostN deeds fs.length)) P).1, decide (mostN deeds fs.length = fs.length), 0)
/-- The mark that a Put lays. -/
def markN (old : ByteArray) : ByteArray := if old = mark0 then mark1 else mark0
def farN (old : ByteArray) : Int := if old = mark0 then 2 else 1
def deedsL (at' : Int) (s old : ByteArray) : List (Plat → Plat × Int) := [writeP (at' + farN old) s, syncP, writeP at' (markN old), syncP]
def putP (P : Plat) (at' : Int) (s : ByteArray) (deeds : Int) : Plat × Bool × Int :=
  if (getP P at').2.2 ≠ 0 then (noPlat, false, (getP P at').2.2) else doP P deeds (deedsL at' s (readP P at').1)
theorem getP_read {P : Plat} {at' : Int} (h : (getP P at').2.2 = 0) : (readP P at').2 = 0 := by
  unfold getP at h
  split at h
  · exact h
  · rename_i hn
    exact Decidable.not_not.1 fun e => hn (.inl e)
/-- Texts put, one behind the other. -/
def rowL : List (Int × ByteArray) → Plat → Int → Plat × Int
  | [], P, _ => (P, 0)
  | (a, s) :: l, P, d => if (putP P a s (min d 4)).2.2 ≠ 0 then (noPlat, (putP P a s (min d 4)).2.2) else if (putP P a s (min d 4)).2.1 = true then rowL l (putP P a s (min d 4)).1 (d - 4) else ((putP P a s (min d 4)).1, 230)
def rowN (deeds : Int) (n : Nat) : Int := if deeds < 0 ∨ 4 * (n : Int) < deeds then 4 * (n : Int) else deeds
def rowP (P : Plat) (deeds : Int) (l : List (Int × ByteArray)) : Plat × Int := rowL l P (rowN deeds l.length)

/- HoldT -/
set_option linter.unusedVariables false

/-- A holder. -/
structure Hd where
  epoch : Int
  tries : Int
  x : Int
  b : ByteArray
  salt : ByteArray
  cred : ByteArray
  next : Int
  nx : Int
  nb : ByteArray
  nsalt : ByteArray
def noHd : Hd := ⟨0, 0, 0, none0, none0, none0, 0, 0, none0, none0⟩
def zerosB (n : Nat) : ByteArray := bs (List.replicate n 0)

/-- What is left of a text that is read part by part; was there too little? -/
structure Rdr where
  rest : ByteArray
  bad : Bool
def takeR (n : Nat) (r : Rdr) : ByteArray × Rdr := if r.rest.size < n then (none0, ⟨none0, true⟩) else (r.rest.extract 0 n, ⟨r.rest.extract n r.rest.size, r.bad⟩)
def byteAt (s : ByteArray) (i : Nat) : Nat := (s.data.toList.getD i 0).toNat
def digitR (r : Rdr) : Int × Rdr := (if (takeR 1 r).1.size = 0 then 0 else ((byteAt (takeR 1 r).1 0 : Nat) : Int), (takeR 1 r).2)
def numberR (r : Rdr) : Int × Rdr := if (takeR 4 r).1.size = 4 then (((cutAcc (takeR 4 r).1.data.toList true 4 0 : Nat) : Int), (takeR 4 r).2) else (0, ⟨(takeR 4 r).2.rest, true⟩)
abbrev HR := Hd × Rdr
def fN0 (p : HR) : HR := ({ p.1 with epoch := (numberR p.2).1 }, (numberR p.2).2)
def fN1 (p : HR) : HR := ({ p.1 with tries := (digitR p.2).1 }, (digitR p.2).2)
def fN2 (p : HR) : HR := ({ p.1 with x := (digitR p.2).1 }, (digitR p.2).2)
def fN3 (p : HR) : HR := ({ p.1 with b := (takeR 32 p.2).1 }, (takeR 32 p.2).2)
def fN4 (p : HR) : HR := ({ p.1 with salt := (takeR 16 p.2).1 }, (takeR 16 p.2).2)
def fN5 (p : HR) : HR := ({ p.1 with cred := (takeR 32 p.2).1 }, (takeR 32 p.2).2)
def fX0 (p : HR) : HR := ({ p.1 with next := (numberR p.2).1 }, (numberR p.2).2)
def fX1 (p : HR) : HR := ({ p.1 with nx := (digitR p.2).1 }, (digitR p.2).2)
def fX2 (p : HR) : HR := ({ p.1 with nb := (takeR 32 p.2).1 }, (takeR 32 p.2).2)
def fX3 (p : HR) : HR := ({ p.1 with nsalt := (takeR 16 p.2).1 }, (takeR 16 p.2).2)
def nowF : List (HR → HR) := [fN0, fN1, fN2, fN3, fN4, fN5]
def nextF : List (HR → HR) := [fX0, fX1, fX2, fX3]
def runF (l : List (HR → HR)) (p : HR) : HR := l.foldl (fun p f => f p) p
def fineR (r : Rdr) : Bool := !r.bad && decide (r.rest.size = 0)
def epochB (n : Int) : Bool := decide (1 ≤ n) && decide (n ≤ 1000000)
/-- What is made of a holder that was read. -/
def nowEnd (h : Hd) (ok : Bool) : Hd × Bool :=
  if ok = false ∨ 5 < h.tries then (noHd, false)
  else if h.x ≠ 0 then (if epochB h.epoch then (h, true) else (noHd, false))
  else if h.epoch ≠ 0 ∨ h.b ≠ zerosB 32 ∨ h.salt ≠ zerosB 16 then (noHd, false)
  else ({ h with x := 0, b := none0, salt := none0 }, true)
def readNowL (s : ByteArray) : Hd × Bool := nowEnd (runF nowF (noHd, ⟨s, false⟩)).1 (fineR (runF nowF (noHd, ⟨s, false⟩)).2)
def nextEnd (h : Hd) (ok : Bool) : Hd × Bool := if ok = false ∨ epochB h.next = false ∨ h.nx = 0 then (noHd, false) else (h, true)
def readNextL (h : Hd) (s : ByteArray) : Hd × Bool :=
  if s.size = 0 then (h, true) else nextEnd (runF nextF (h, ⟨s, false⟩)).1 (fineR (runF nextF (h, ⟨s, false⟩)).2)

def fourL (n : Int) : List UInt8 := if wordB n then joinL [n] true else []
def u8 (n : Int) : UInt8 := UInt8.ofNat (n % 256).toNat
def nowB (h : Hd) : ByteArray := bs (fourL h.epoch ++ [u8 h.tries] ++ [u8 h.x] ++ (if h.x = 0 then List.replicate 32 0 else h.b.data.toList) ++ (if h.x = 0 then List.replicate 16 0 else h.salt.data.toList) ++ h.cred.data.toList)
def nextB (epoch x : Int) (b salt : ByteArray) : ByteArray := bs (fourL epoch ++ [u8 x] ++ b.data.toList ++ salt.data.toList)

def getH (P : Plat) : Hd × Int :=
  if (getP P 0).2.2 ≠ 0 then (noHd, (getP P 0).2.2)
  else if (getP P 0).2.1 = false then (noHd, 212)
  else if (readNowL (getP P 0).1).2 = false then (noHd, 140)
  else if (getP P 3).2.2 ≠ 0 then (noHd, (getP P 3).2.2)
  else if (getP P 3).2.1 = false then ((readNowL (getP P 0).1).1, 0)
  else if (readNextL (readNowL (getP P 0).1).1 (getP P 3).1).2 = false then (noHd, 140)
  else ((readNextL (readNowL (getP P 0).1).1 (getP P 3).1).1, 0)
def newP (n : Nat) : Plat := ⟨List.replicate n none0, []⟩
def startH (sum : ByteArray) : Plat × Int := rowP (newP 6) (-1) [(0, nowB { noHd with cred := sum })]
def prepH (P : Plat) (epoch x : Int) (b salt : ByteArray) (deeds : Int) : Plat × Int :=
  if (getH P).2 ≠ 0 then (noPlat, (getH P).2)
  else if x < 1 ∨ 255 < x ∨ b.size ≠ 32 ∨ salt.size ≠ 16 then (noPlat, 1)
  else if epoch ≤ (getH P).1.epoch ∨ 1000000 < epoch then (noPlat, 181)
  else rowP P deeds [(3, nextB epoch x b salt)]
def commitH (P : Plat) (epoch deeds : Int) : Plat × Int :=
  if (getH P).2 ≠ 0 then (noPlat, (getH P).2)
  else if epoch ≠ 0 ∧ (getH P).1.epoch = epoch then rowP P deeds [(3, none0), (3, none0)]
  else if epoch = 0 ∨ (getH P).1.next ≠ epoch then (noPlat, 181)
  else
    let now := nowB { noHd with epoch := (getH P).1.next, x := (getH P).1.nx, b := (getH P).1.nb, salt := (getH P).1.nsalt, cred := (getH P).1.cred }
    rowP P deeds [(0, now), (0, now), (3, none0), (3, none0)]
/-- What one is told who asks: place, bytes, salt; the disk behind it; an error's number. -/
structure Told where
  x : Int
  b : ByteArray
  salt : ByteArray
  p : Plat
  e : Int
def nothing (p : Plat) (e : Int) : Told := ⟨0, none0, none0, p, e⟩
def askH (P : Plat) (sum : ByteArray) (deeds : Int) : Told :=
  if (getH P).2 ≠ 0 then nothing noPlat (getH P).2
  else if (getH P).1.x = 0 then nothing noPlat 212
  else if 5 ≤ (getH P).1.tries then nothing noPlat 210
  else
    let q := rowP P deeds [(0, nowB { (getH P).1 with tries := (getH P).1.tries + 1 })]
    if q.2 ≠ 0 then nothing q.1 q.2
    else if (getH P).1.cred ≠ sum then nothing q.1 211
    else
      let r := rowP q.1 (if 4 ≤ deeds then deeds - 4 else deeds) [(0, nowB { (getH P).1 with tries := 0 })]
      if r.2 ≠ 0 then nothing r.1 r.2 else ⟨(getH P).1.x, (getH P).1.b, (getH P).1.salt, r.1, 0⟩
def resetH (P : Plat) (deeds : Int) : Plat × Int :=
  if (getH P).2 ≠ 0 then (noPlat, (getH P).2) else rowP P deeds [(0, nowB { (getH P).1 with tries := 0 })]

/- Told1 -/
set_option linter.unusedVariables false
theorem joinL_one (x : Nat) : joinL [(x : Int)] true = toldL x true := joinL_snoc [] x true
theorem cut_told (x : Nat) (hx : x < 4294967296) : cutAcc (toldL x true) true 4 0 = x := by
  have h := cutAcc_word (toldL x true) true 0 (by simp [toldL])
  rw [show (toldL x true).length = 4 by simp [toldL]] at h
  rw [h]
  simp only [wordN, toldL, if_true, Nat.mul_zero, Nat.zero_add, List.getD_cons_zero, List.getD_cons_succ, UInt8.toNat_ofNat']
  omega
theorem cut_four {n : Int} (h : wordB n = true) : ((cutAcc (fourL n) true 4 0 : Nat) : Int) = n := by
  have h' := h
  simp only [wordB, Bool.and_eq_true, decide_eq_true_eq] at h'
  obtain ⟨x, rfl⟩ := Int.eq_ofNat_of_zero_le h'.1
  rw [fourL, if_pos h, joinL_one, cut_told x (by omega)]

/- HoldL -/
set_option linter.unusedVariables false

/-- Three sectors: a mark and two bodies. -/
structure T3 where
  m : ByteArray
  t : ByteArray
  u : ByteArray
def T3.l (T : T3) : List ByteArray := [T.m, T.t, T.u]
def T3.ok (T : T3) : Prop := (T.m = none0 ∨ T.m = mark0 ∨ T.m = mark1) ∧ T.t.size ≤ 128 ∧ T.u.size ≤ 128
def T3.put (T : T3) (s : ByteArray) : T3 := if T.m = mark0 then ⟨mark1, T.t, s⟩ else ⟨mark0, s, T.u⟩
def T3.get (T : T3) : ByteArray × Bool := if T.m = none0 then (none0, false) else if T.m = mark0 then (T.t, true) else (T.u, true)
theorem mark_ne : mark0 ≠ none0 ∧ mark1 ≠ none0 ∧ mark1 ≠ mark0 := by
  refine ⟨fun e => ?_, fun e => ?_, fun e => ?_⟩ <;> exact absurd (congrArg (fun x : ByteArray => x.data.toList) e) (by decide)
theorem mark_len : none0.size = 0 ∧ mark0.size = 1 ∧ mark1.size = 1 := ⟨rfl, rfl, rfl⟩
theorem T3.ok_m {T : T3} (h : T.ok) : T.m.size ≤ 128 := by
  rcases h.1 with e | e | e <;> rw [e] <;> decide
theorem T3.put_ok {T : T3} (h : T.ok) {s : ByteArray} (hs : s.size ≤ 128) : (T.put s).ok := by
  unfold T3.put
  split
  · exact ⟨.inr (.inr rfl), h.2.1, hs⟩
  · exact ⟨.inr (.inl rfl), hs, h.2.2⟩
theorem T3.get_put {T : T3} (s : ByteArray) : (T.put s).get = (s, true) := by
  unfold T3.put T3.get
  split
  · simp [mark_ne]
  · simp [mark_ne]
/-- A disk of two of these. -/
def pl (A B : T3) : Plat := ⟨A.l ++ B.l, []⟩
theorem pl_check {A B : T3} (hA : A.ok) (hB : B.ok) : checkB (pl A B) = true := by
  have a := T3.ok_m hA
  have b := T3.ok_m hB
  obtain ⟨_, a1, a2⟩ := hA
  obtain ⟨_, b1, b2⟩ := hB
  simp [checkB, pl, T3.l, a, b, a1, a2, b1, b2]
theorem read_clean {P : Plat} (h : checkB P = true) (hc : P.cs = []) {i : Nat} (hi : i < P.ss.length) : readP P (i : Int) = (P.ss.getD i none0, 0) := by
  have hh : hasB P.ss.length (i : Int) = true := by simp [hasB]; omega
  simp [readP, h, hh, readS, lastS, hc]
/-- A write and a sync on a disk where nothing waits. -/
theorem write_sync {P : Plat} (h : checkB P = true) (hc : P.cs = []) {i : Nat} (hi : i < P.ss.length) {s : ByteArray} (hs : s.size ≤ 128) (l : List (Plat → Plat × Int)) :
    runL (writeP (i : Int) s :: syncP :: l) P = runL l ⟨P.ss.set i s, []⟩ := by
  have hh : hasB P.ss.length (i : Int) = true := by simp [hasB]; omega
  have hw : writeP (i : Int) s P = (⟨P.ss, [((i : Int), s)]⟩, 0) := by
    simp [writeP, h, hh, hc]; omega
  have hk : checkB ⟨P.ss, [((i : Int), s)]⟩ = true := by
    have h' := h
    simp only [checkB, hc, Bool.and_eq_true, decide_eq_true_eq, List.all_nil] at h' ⊢
    simp only [List.all_cons, List.all_nil, putB, hh, Bool.and_true, decide_eq_true_eq, List.length_cons, List.length_nil]
    exact ⟨⟨⟨h'.1.1.1, by omega⟩, h'.1.2⟩, hs⟩
  have hsn : syncP ⟨P.ss, [((i : Int), s)]⟩ = (⟨P.ss.set i s, []⟩, 0) := by
    simp [syncP, settleP, hk, fallTo, fallS]
  simp only [runL, hw, hsn, ne_eq, not_true_eq_false, if_false]
theorem set_check {P : Plat} (h : checkB P = true) (hc : P.cs = []) (i : Nat) {s : ByteArray} (hs : s.size ≤ 128) : checkB ⟨P.ss.set i s, []⟩ = true := by
  simp only [checkB, hc, Bool.and_eq_true, decide_eq_true_eq, List.all_nil, List.length_set, List.all_eq_true] at h ⊢
  refine ⟨⟨⟨h.1.1.1, by simp⟩, fun x hx => ?_⟩, trivial⟩
  rcases List.mem_or_eq_of_mem_set hx with hx | rfl
  · exact h.1.2 x hx
  · exact hs
/-- A whole put on a disk where nothing waits. -/
theorem put_clean {P : Plat} (h : checkB P = true) (hc : P.cs = []) {i : Nat} (hi : i + 2 < P.ss.length) {s : ByteArray} (hs : s.size ≤ 128) (hg : (getP P (i : Int)).2.2 = 0) :
    putP P (i : Int) s 4 = (⟨(P.ss.set (i + (farN (P.ss.getD i none0)).toNat) s).set i (markN (P.ss.getD i none0)), []⟩, true, 0) := by
  have hr : (readP P (i : Int)).1 = P.ss.getD i none0 := by rw [read_clean h hc (by omega)]
  have hf : ((i : Int) + farN (P.ss.getD i none0)) = ((i + (farN (P.ss.getD i none0)).toNat : Nat) : Int) := by
    unfold farN; split <;> simp
  have hf2 : i + (farN (P.ss.getD i none0)).toNat < P.ss.length := by unfold farN; split <;> simp <;> omega
  have hm : (markN (P.ss.getD i none0)).size ≤ 128 := by unfold markN; split <;> decide
  have e : runL (deedsL (i : Int) s (P.ss.getD i none0)) P = (⟨(P.ss.set (i + (farN (P.ss.getD i none0)).toNat) s).set i (markN (P.ss.getD i none0)), []⟩, 0) := by
    rw [deedsL, hf, write_sync h hc hf2 hs, write_sync (set_check h hc _ hs) rfl (by simp; omega) hm]
    rfl
  simp only [putP, hg, ne_eq, not_true_eq_false, if_false, hr, doP]
  have e4 : mostN 4 (deedsL (i : Int) s (P.ss.getD i none0)).length = 4 := by simp [mostN, deedsL]
  rw [e4, show (deedsL (i : Int) s (P.ss.getD i none0)).take 4 = deedsL (i : Int) s (P.ss.getD i none0) from rfl, e]
  simp [deedsL]
theorem body0 : bodyO mark0 = some 1 := by simp [bodyO]
theorem body1 : bodyO mark1 = some 2 := by simp [bodyO, mark_ne]
theorem get_pl0 {A B : T3} (hA : A.ok) (hB : B.ok) : getP (pl A B) 0 = (A.get.1, A.get.2, 0) := by
  have hc := pl_check hA hB
  have r0 : readP (pl A B) 0 = (A.m, 0) := read_clean (i := 0) hc rfl (by simp [pl, T3.l])
  have r1 : readP (pl A B) 1 = (A.t, 0) := read_clean (i := 1) hc rfl (by simp [pl, T3.l])
  have r2 : readP (pl A B) 2 = (A.u, 0) := read_clean (i := 2) hc rfl (by simp [pl, T3.l])
  unfold getP T3.get
  rw [r0]
  rcases hA.1 with e | e | e
  · simp [e]
  · simp [e, body0, mark_ne, r1]
  · simp [e, body1, mark_ne, r2]
theorem get_pl3 {A B : T3} (hA : A.ok) (hB : B.ok) : getP (pl A B) 3 = (B.get.1, B.get.2, 0) := by
  have hc := pl_check hA hB
  have r0 : readP (pl A B) 3 = (B.m, 0) := read_clean (i := 3) hc rfl (by simp [pl, T3.l])
  have r1 : readP (pl A B) 4 = (B.t, 0) := read_clean (i := 4) hc rfl (by simp [pl, T3.l])
  have r2 : readP (pl A B) 5 = (B.u, 0) := read_clean (i := 5) hc rfl (by simp [pl, T3.l])
  unfold getP T3.get
  rw [r0]
  rcases hB.1 with e | e | e
  · simp [e]
  · simp [e, body0, mark_ne, r1]
  · simp [e, body1, mark_ne, r2]
theorem put_pl0 {A B : T3} (hA : A.ok) (hB : B.ok) {s : ByteArray} (hs : s.size ≤ 128) : putP (pl A B) 0 s 4 = (pl (A.put s) B, true, 0) := by
  have := put_clean (i := 0) (pl_check hA hB) rfl (by simp [pl, T3.l]) hs (by rw [show ((0 : Nat) : Int) = 0 from rfl, get_pl0 hA hB])
  rw [show ((0 : Nat) : Int) = 0 from rfl] at this
  rw [this]
  have e : (pl A B).ss.getD 0 none0 = A.m := rfl
  rw [e]
  unfold T3.put farN markN
  split <;> rfl
theorem put_pl3 {A B : T3} (hA : A.ok) (hB : B.ok) {s : ByteArray} (hs : s.size ≤ 128) : putP (pl A B) 3 s 4 = (pl A (B.put s), true, 0) := by
  have := put_clean (i := 3) (pl_check hA hB) rfl (by simp [pl, T3.l]) hs (by rw [show ((3 : Nat) : Int) = 3 from rfl, get_pl3 hA hB])
  rw [show ((3 : Nat) : Int) = 3 from rfl] at this
  rw [this]
  have e : (pl A B).ss.getD 3 none0 = B.m := rfl
  rw [e]
  unfold T3.put farN markN
  split <;> rfl
theorem row0 {A B : T3} (hA : A.ok) (hB : B.ok) {s : ByteArray} (hs : s.size ≤ 128) (l : List (Int × ByteArray)) {d : Int} (hd : 4 ≤ d) : rowL ((0, s) :: l) (pl A B) d = rowL l (pl (A.put s) B) (d - 4) := by
  simp [rowL, Int.min_eq_right hd, put_pl0 hA hB hs]
theorem row3 {A B : T3} (hA : A.ok) (hB : B.ok) {s : ByteArray} (hs : s.size ≤ 128) (l : List (Int × ByteArray)) {d : Int} (hd : 4 ≤ d) : rowL ((3, s) :: l) (pl A B) d = rowL l (pl A (B.put s)) (d - 4) := by
  simp [rowL, Int.min_eq_right hd, put_pl3 hA hB hs]

theorem take_app {l m : List UInt8} {n : Nat} (hn : l.length = n) (b : Bool) : takeR n ⟨bs (l ++ m), b⟩ = (bs l, ⟨bs m, b⟩) := by
  subst hn
  have h : ¬ (bs (l ++ m)).size < l.length := by simp [bs_size]
  simp only [takeR, h, if_false]
  rw [extract_bs, extract_bs, bs_data, bs_size, List.take_length, List.drop_zero, List.take_left, List.drop_left]
theorem digit_app {a : UInt8} {m : List UInt8} (b : Bool) : digitR ⟨bs (a :: m), b⟩ = ((a.toNat : Int), ⟨bs m, b⟩) := by
  have := take_app (l := [a]) (m := m) (n := 1) rfl b
  rw [show [a] ++ m = a :: m from rfl] at this
  simp [digitR, this, bs_size, byteAt, bs_data]
theorem number_app {n : Int} (h : wordB n = true) {m : List UInt8} (b : Bool) : numberR ⟨bs (fourL n ++ m), b⟩ = (n, ⟨bs m, b⟩) := by
  have hl : (fourL n).length = 4 := by simp [fourL, h, joinL_length]
  rw [numberR, take_app hl]
  simp only [bs_size, hl, if_true, bs_data]
  rw [cut_four h]
theorem u8_nat {n : Int} (h0 : 0 ≤ n) (h1 : n < 256) : (((u8 n).toNat : Nat) : Int) = n := by
  simp [u8]; omega
/-- A holder that is told by a text. -/
structure Hd.good (h : Hd) : Prop where
  e0 : 1 ≤ h.epoch
  e1 : h.epoch ≤ 1000000
  t0 : 0 ≤ h.tries
  t1 : h.tries ≤ 5
  x0 : 1 ≤ h.x
  x1 : h.x ≤ 255
  b : h.b.size = 32
  s : h.salt.size = 16
  c : h.cred.size = 32
theorem read_now {h : Hd} (g : h.good) : readNowL (nowB h) = ({ noHd with epoch := h.epoch, tries := h.tries, x := h.x, b := h.b, salt := h.salt, cred := h.cred }, true) := by
  have hx : ¬ h.x = 0 := by have := g.x0; omega
  have hw : wordB h.epoch = true := by have := g.e0; have := g.e1; simp [wordB]; omega
  have e : nowB h = bs (fourL h.epoch ++ (u8 h.tries :: u8 h.x :: (h.b.data.toList ++ (h.salt.data.toList ++ (h.cred.data.toList ++ []))))) := by
    simp [nowB, hx, List.append_assoc]
  have r : runF nowF (noHd, ⟨nowB h, false⟩) = ({ noHd with epoch := h.epoch, tries := h.tries, x := h.x, b := h.b, salt := h.salt, cred := h.cred }, ⟨bs [], false⟩) := by
    simp only [runF, nowF, List.foldl_cons, List.foldl_nil, fN0, fN1, fN2, fN3, fN4, fN5, e, number_app hw, digit_app, take_app (show h.b.data.toList.length = 32 from g.b), take_app (show h.salt.data.toList.length = 16 from g.s), take_app (show h.cred.data.toList.length = 32 from g.c), bs_of, u8_nat g.t0 (by have := g.t1; omega), u8_nat (show 0 ≤ h.x by have := g.x0; omega) (by have := g.x1; omega)]
  have he : epochB h.epoch = true := by have := g.e0; have := g.e1; simp [epochB]; omega
  have h5 : ¬ 5 < h.tries := by have := g.t1; omega
  simp [readNowL, r, fineR, bs_size, nowEnd, hx, he, h5]
theorem now_size {h : Hd} (g : h.good) : (nowB h).size ≤ 128 := by
  have hx : ¬ h.x = 0 := by have := g.x0; omega
  have hw : wordB h.epoch = true := by have := g.e0; have := g.e1; simp [wordB]; omega
  simp [nowB, bs_size, hx, fourL, hw, joinL_length, g.b, g.s, g.c]
/-- A disk that has no share yet. -/
def freshH (c : ByteArray) : Hd := { noHd with cred := c }
theorem read_fresh {c : ByteArray} (hc : c.size = 32) : readNowL (nowB (freshH c)) = (freshH c, true) := by
  have hw : wordB 0 = true := by decide
  have e : nowB (freshH c) = bs (fourL 0 ++ (u8 0 :: u8 0 :: (List.replicate 32 0 ++ (List.replicate 16 0 ++ (c.data.toList ++ []))))) := by
    simp only [nowB, freshH, noHd, if_true, List.append_assoc, List.append_nil]
    rfl
  have r : runF nowF (noHd, ⟨nowB (freshH c), false⟩) = ({ noHd with b := zerosB 32, salt := zerosB 16, cred := c }, ⟨bs [], false⟩) := by
    simp only [runF, nowF, List.foldl_cons, List.foldl_nil, fN0, fN1, fN2, fN3, fN4, fN5, e, number_app hw, digit_app, take_app (show (List.replicate 32 (0 : UInt8)).length = 32 by simp), take_app (show (List.replicate 16 (0 : UInt8)).length = 16 by simp), take_app (show c.data.toList.length = 32 from hc), bs_of]
    rfl
  rw [readNowL, r]
  simp [fineR, bs_size, nowEnd, noHd, freshH]
theorem fresh_size {c : ByteArray} (hc : c.size ≤ 32) : (nowB (freshH c)).size ≤ 128 := by
  have : (nowB (freshH c)).size = 54 + c.size := by
    simp [nowB, freshH, noHd, bs_size, fourL, joinL_length, show wordB 0 = true by decide]
    omega
  omega
theorem read_next {epoch x : Int} {b salt : ByteArray} (h : Hd) (e0 : 1 ≤ epoch) (e1 : epoch ≤ 1000000) (x0 : 1 ≤ x) (x1 : x ≤ 255) (hb : b.size = 32) (hs : salt.size = 16) :
    readNextL h (nextB epoch x b salt) = ({ h with next := epoch, nx := x, nb := b, nsalt := salt }, true) := by
  have hw : wordB epoch = true := by simp [wordB]; omega
  have e : nextB epoch x b salt = bs (fourL epoch ++ (u8 x :: (b.data.toList ++ (salt.data.toList ++ [])))) := by
    simp [nextB, List.append_assoc]
  have hz : ¬ (nextB epoch x b salt).size = 0 := by simp [nextB, bs_size, hb]
  have r : runF nextF (h, ⟨nextB epoch x b salt, false⟩) = ({ h with next := epoch, nx := x, nb := b, nsalt := salt }, ⟨bs [], false⟩) := by
    simp only [runF, nextF, List.foldl_cons, List.foldl_nil, fX0, fX1, fX2, fX3, e, number_app hw, digit_app, take_app (show b.data.toList.length = 32 from hb), take_app (show salt.data.toList.length = 16 from hs), bs_of, u8_nat (show 0 ≤ x by omega) (by omega : x < 256)]
  have he : epochB epoch = true := by simp [epochB]; omega
  have hx : ¬ x = 0 := by omega
  simp [readNextL, hz, r, fineR, bs_size, nextEnd, he, hx]
theorem next_size {epoch x : Int} {b salt : ByteArray} (e0 : 1 ≤ epoch) (e1 : epoch ≤ 1000000) (hb : b.size = 32) (hs : salt.size = 16) : (nextB epoch x b salt).size ≤ 128 := by
  have hw : wordB epoch = true := by simp [wordB]; omega
  simp [nextB, bs_size, fourL, hw, joinL_length, hb, hs]

/- HoldL2 -/
set_option linter.unusedVariables false

def Z3 : T3 := ⟨none0, none0, none0⟩
theorem Z3_ok : Z3.ok := ⟨.inl rfl, by decide, by decide⟩
theorem Z3_get : Z3.get = (none0, false) := by simp [Z3, T3.get]
theorem new_pl : newP 6 = pl Z3 Z3 := rfl
theorem rowN1 (n : Nat) : rowN (-1) n = 4 * (n : Int) := by unfold rowN; rw [if_pos (.inl (by omega))]
theorem rowP0 {A B : T3} (hA : A.ok) (hB : B.ok) {s : ByteArray} (hs : s.size ≤ 128) : rowP (pl A B) (-1) [(0, s)] = (pl (A.put s) B, 0) := by
  rw [rowP, rowN1, List.length_cons, List.length_nil, row0 hA hB hs _ (by omega)]
  rfl
theorem rowP3 {A B : T3} (hA : A.ok) (hB : B.ok) {s : ByteArray} (hs : s.size ≤ 128) : rowP (pl A B) (-1) [(3, s)] = (pl A (B.put s), 0) := by
  rw [rowP, rowN1, List.length_cons, List.length_nil, row3 hA hB hs _ (by omega)]
  rfl
theorem rowP4 {A B : T3} (hA : A.ok) (hB : B.ok) {s t : ByteArray} (hs : s.size ≤ 128) (ht : t.size ≤ 128) : rowP (pl A B) (-1) [(0, s), (0, s), (3, t), (3, t)] = (pl ((A.put s).put s) ((B.put t).put t), 0) := by
  have h1 := T3.put_ok hA hs
  have h2 := T3.put_ok h1 hs
  have h3 := T3.put_ok hB ht
  rw [rowP, rowN1]
  simp only [List.length_cons, List.length_nil]
  rw [row0 hA hB hs _ (by omega), row0 h1 hB hs _ (by omega), row3 h2 hB ht _ (by omega), row3 h2 h3 ht _ (by omega)]
  rfl
/-- A new disk. -/
structure Fresh (P : Plat) (c : ByteArray) : Prop where
  ex : ∃ A B : T3, P = pl A B ∧ A.ok ∧ B.ok ∧ A.get = (nowB (freshH c), true) ∧ B.get = (none0, false)
theorem start_fresh {c : ByteArray} (hc : c.size ≤ 32) : (startH c).2 = 0 ∧ Fresh (startH c).1 c := by
  have hs := fresh_size hc
  have e : startH c = (pl (Z3.put (nowB (freshH c))) Z3, 0) := by
    rw [startH, new_pl]
    exact rowP0 Z3_ok Z3_ok hs
  rw [e]
  exact ⟨rfl, _, _, rfl, T3.put_ok Z3_ok hs, Z3_ok, T3.get_put _, Z3_get⟩
theorem getH_pl {A B : T3} (hA : A.ok) (hB : B.ok) : getH (pl A B) = if A.get.2 = false then (noHd, 212) else if (readNowL A.get.1).2 = false then (noHd, 140) else if B.get.2 = false then ((readNowL A.get.1).1, 0) else if (readNextL (readNowL A.get.1).1 B.get.1).2 = false then (noHd, 140) else ((readNextL (readNowL A.get.1).1 B.get.1).1, 0) := by
  unfold getH
  rw [get_pl0 hA hB, get_pl3 hA hB]
  simp
theorem fresh_get {P : Plat} {c : ByteArray} (h : Fresh P c) (hc : c.size = 32) : getH P = (freshH c, 0) := by
  obtain ⟨A, B, rfl, hA, hB, gA, gB⟩ := h.ex
  rw [getH_pl hA hB, gA, gB]
  simp [read_fresh hc]
theorem fresh_ask {P : Plat} {c : ByteArray} (h : Fresh P c) (hc : c.size = 32) (sm : ByteArray) (d : Int) : askH P sm d = nothing noPlat 212 := by
  have e := fresh_get h hc
  unfold askH
  rw [e]
  simp [freshH, noHd]
/-- What is prepared waits. -/
structure Ready (P : Plat) (c : ByteArray) (x : Int) (b salt : ByteArray) : Prop where
  ex : ∃ A B : T3, P = pl A B ∧ A.ok ∧ B.ok ∧ A.get = (nowB (freshH c), true) ∧ B.get = (nextB 1 x b salt, true)
def fitX (x : Int) (b salt : ByteArray) : Prop := 1 ≤ x ∧ x ≤ 255 ∧ b.size = 32 ∧ salt.size = 16
theorem fresh_prep {P : Plat} {c : ByteArray} (h : Fresh P c) (hc : c.size = 32) {x : Int} {b salt : ByteArray} (hx : fitX x b salt) : (prepH P 1 x b salt (-1)).2 = 0 ∧ Ready (prepH P 1 x b salt (-1)).1 c x b salt := by
  have e := fresh_get h hc
  obtain ⟨A, B, rfl, hA, hB, gA, gB⟩ := h.ex
  obtain ⟨x0, x1, hb, hs⟩ := hx
  have hz := next_size (epoch := 1) (x := x) (by omega) (by omega) hb hs
  have e2 : prepH (pl A B) 1 x b salt (-1) = (pl A (B.put (nextB 1 x b salt)), 0) := by
    unfold prepH
    rw [e, if_neg (by simp), if_neg (by rintro (h | h | h | h) <;> omega), if_neg (by simp [freshH, noHd]), rowP3 hA hB hz]
  rw [e2]
  exact ⟨rfl, _, _, rfl, hA, T3.put_ok hB hz, gA, T3.get_put _⟩
theorem fresh_prep_not {P : Plat} {c : ByteArray} (h : Fresh P c) (hc : c.size = 32) {x : Int} {b salt : ByteArray} (hx : ¬ fitX x b salt) : prepH P 1 x b salt (-1) = (noPlat, 1) := by
  have e := fresh_get h hc
  unfold prepH
  rw [e, if_neg (by simp), if_pos]
  by_cases h1 : x < 1
  · exact .inl h1
  · by_cases h2 : 255 < x
    · exact .inr (.inl h2)
    · by_cases h3 : b.size = 32
      · exact .inr (.inr (.inr fun h4 => hx ⟨by omega, by omega, h3, h4⟩))
      · exact .inr (.inr (.inl h3))
/-- A holder that has a share. -/
def hold (e t x : Int) (b salt c : ByteArray) : Hd := ⟨e, t, x, b, salt, c, 0, 0, none0, none0⟩
structure Held (P : Plat) (h : Hd) : Prop where
  ex : ∃ A B : T3, P = pl A B ∧ A.ok ∧ B.ok ∧ A.get = (nowB h, true) ∧ B.get = (none0, true)
theorem hold_good {e t x : Int} {b salt c : ByteArray} (he : 1 ≤ e ∧ e ≤ 1000000) (ht : 0 ≤ t ∧ t ≤ 5) (hx : fitX x b salt) (hc : c.size = 32) : (hold e t x b salt c).good := ⟨he.1, he.2, ht.1, ht.2, hx.1, hx.2.1, hx.2.2.1, hx.2.2.2, hc⟩
theorem held_get {P : Plat} {e t x : Int} {b salt c : ByteArray} (h : Held P (hold e t x b salt c)) (he : 1 ≤ e ∧ e ≤ 1000000) (ht : 0 ≤ t ∧ t ≤ 5) (hx : fitX x b salt) (hc : c.size = 32) : getH P = (hold e t x b salt c, 0) := by
  obtain ⟨A, B, rfl, hA, hB, gA, gB⟩ := h.ex
  rw [getH_pl hA hB, gA, gB, read_now (hold_good he ht hx hc)]
  simp [readNextL, hold, noHd, none0]
  rfl
theorem ready_commit {P : Plat} {c : ByteArray} {x : Int} {b salt : ByteArray} (h : Ready P c x b salt) (hc : c.size = 32) (hx : fitX x b salt) : (commitH P 1 (-1)).2 = 0 ∧ Held (commitH P 1 (-1)).1 (hold 1 0 x b salt c) := by
  obtain ⟨A, B, rfl, hA, hB, gA, gB⟩ := h.ex
  have eg : getH (pl A B) = ({ freshH c with next := 1, nx := x, nb := b, nsalt := salt }, 0) := by
    rw [getH_pl hA hB, gA, gB]
    simp [read_fresh hc, read_next (freshH c) (show (1 : Int) ≤ 1 by omega) (by omega) hx.1 hx.2.1 hx.2.2.1 hx.2.2.2]
  have hz := now_size (hold_good (e := 1) (t := 0) ⟨by omega, by omega⟩ ⟨by omega, by omega⟩ hx hc)
  have hn0 : none0.size ≤ 128 := by decide
  have e2 : commitH (pl A B) 1 (-1) = (pl ((A.put (nowB (hold 1 0 x b salt c))).put (nowB (hold 1 0 x b salt c))) ((B.put none0).put none0), 0) := by
    unfold commitH
    rw [eg, if_neg (by simp), if_neg (by simp [freshH, noHd]), if_neg (by simp)]
    exact rowP4 hA hB hz hn0
  rw [e2]
  exact ⟨rfl, _, _, rfl, T3.put_ok (T3.put_ok hA hz) hz, T3.put_ok (T3.put_ok hB hn0) hn0, T3.get_put _, T3.get_put _⟩
theorem held_row {P : Plat} {h h' : Hd} (hh : Held P h) (hz : (nowB h').size ≤ 128) : (rowP P (-1) [(0, nowB h')]).2 = 0 ∧ Held (rowP P (-1) [(0, nowB h')]).1 h' := by
  obtain ⟨A, B, rfl, hA, hB, gA, gB⟩ := hh.ex
  rw [rowP0 hA hB hz]
  exact ⟨rfl, _, _, rfl, T3.put_ok hA hz, hB, T3.get_put _, gB⟩
theorem held_wrong {P : Plat} {e t x : Int} {b salt c : ByteArray} (h : Held P (hold e t x b salt c)) (he : 1 ≤ e ∧ e ≤ 1000000) (ht : 0 ≤ t ∧ t < 5) (hx : fitX x b salt) (hc : c.size = 32) {sm : ByteArray} (hne : c ≠ sm) :
    ∃ Q, askH P sm (-1) = nothing Q 211 ∧ Held Q (hold e (t + 1) x b salt c) := by
  have eg := held_get h he ⟨ht.1, by omega⟩ hx hc
  have hz := now_size (hold_good (e := e) (t := t + 1) he ⟨by omega, by omega⟩ hx hc)
  obtain ⟨r1, r2⟩ := held_row h hz
  refine ⟨_, ?_, r2⟩
  unfold askH
  rw [eg, if_neg (by simp), if_neg (by have := hx.1; simp [hold]; omega), if_neg (by simp [hold]; omega)]
  show (if (rowP P (-1) [(0, nowB (hold e (t + 1) x b salt c))]).2 ≠ 0 then _ else _) = _
  rw [if_neg (by rw [r1]; simp)]
  exact if_pos hne
theorem held_right {P : Plat} {e t x : Int} {b salt c : ByteArray} (h : Held P (hold e t x b salt c)) (he : 1 ≤ e ∧ e ≤ 1000000) (ht : 0 ≤ t ∧ t < 5) (hx : fitX x b salt) (hc : c.size = 32) :
    ∃ Q, askH P c (-1) = ⟨x, b, salt, Q, 0⟩ ∧ Held Q (hold e 0 x b salt c) := by
  have eg := held_get h he ⟨ht.1, by omega⟩ hx hc
  have hz := now_size (hold_good (e := e) (t := t + 1) he ⟨by omega, by omega⟩ hx hc)
  have hz0 := now_size (hold_good (e := e) (t := 0) he ⟨by omega, by omega⟩ hx hc)
  obtain ⟨r1, r2⟩ := held_row h hz
  obtain ⟨s1, s2⟩ := held_row r2 hz0
  refine ⟨_, ?_, s2⟩
  unfold askH
  rw [eg, if_neg (by simp), if_neg (by have := hx.1; simp [hold]; omega), if_neg (by simp [hold]; omega)]
  show (if (rowP P (-1) [(0, nowB (hold e (t + 1) x b salt c))]).2 ≠ 0 then _ else _) = _
  rw [if_neg (by rw [r1]; simp), if_neg (by simp [hold])]
  show (if (rowP (rowP P (-1) [(0, nowB (hold e (t + 1) x b salt c))]).1 (-1) [(0, nowB (hold e 0 x b salt c))]).2 ≠ 0 then _ else _) = _
  rw [if_neg (by rw [s1]; simp)]
  rfl
theorem held_locked {P : Plat} {e x : Int} {b salt c : ByteArray} (h : Held P (hold e 5 x b salt c)) (he : 1 ≤ e ∧ e ≤ 1000000) (hx : fitX x b salt) (hc : c.size = 32) (sm : ByteArray) (d : Int) : askH P sm d = nothing noPlat 210 := by
  have eg := held_get h he ⟨by omega, by omega⟩ hx hc
  unfold askH
  rw [eg, if_neg (by simp), if_neg (by have := hx.1; simp [hold]; omega), if_pos (by simp [hold])]

/- HoldK -/
set_option linter.unusedVariables false

structure HdW (h : Hd) : Prop where
  epoch : wordB h.epoch = true
  next : wordB h.next = true
  t0 : 0 ≤ h.tries
  t1 : h.tries ≤ 255
  b : h.b.size ≤ 32
  s : h.salt.size ≤ 16
  c : h.cred.size ≤ 32
  nb : h.nb.size ≤ 32
  ns : h.nsalt.size ≤ 16
theorem noHd_w : HdW noHd := ⟨by decide, by decide, by decide, by decide, by decide, by decide, by decide, by decide, by decide⟩
theorem takeR_le (n : Nat) (r : Rdr) : (takeR n r).1.size ≤ n := by
  unfold takeR
  split
  · exact Nat.zero_le _
  · simp
    omega
theorem numberR_w (r : Rdr) : wordB (numberR r).1 = true := by
  unfold numberR
  split
  · have := cutAcc_lt (takeR 4 r).1.data.toList true 4 0
    simp [wordB]
    omega
  · show wordB 0 = true
    decide
theorem digitR_w (r : Rdr) : 0 ≤ (digitR r).1 ∧ (digitR r).1 ≤ 255 := by
  unfold digitR
  split
  · exact ⟨by simp, by simp⟩
  · have := ((takeR 1 r).1.data.toList.getD 0 0).toNat_lt
    simp only [byteAt]
    omega
theorem fN0_w (p : HR) (h : HdW p.1) : HdW (fN0 p).1 := ⟨numberR_w _, h.next, h.t0, h.t1, h.b, h.s, h.c, h.nb, h.ns⟩
theorem fN1_w (p : HR) (h : HdW p.1) : HdW (fN1 p).1 := ⟨h.epoch, h.next, (digitR_w _).1, (digitR_w _).2, h.b, h.s, h.c, h.nb, h.ns⟩
theorem fN2_w (p : HR) (h : HdW p.1) : HdW (fN2 p).1 := ⟨h.epoch, h.next, h.t0, h.t1, h.b, h.s, h.c, h.nb, h.ns⟩
theorem fN3_w (p : HR) (h : HdW p.1) : HdW (fN3 p).1 := ⟨h.epoch, h.next, h.t0, h.t1, takeR_le _ _, h.s, h.c, h.nb, h.ns⟩
theorem fN4_w (p : HR) (h : HdW p.1) : HdW (fN4 p).1 := ⟨h.epoch, h.next, h.t0, h.t1, h.b, takeR_le _ _, h.c, h.nb, h.ns⟩
theorem fN5_w (p : HR) (h : HdW p.1) : HdW (fN5 p).1 := ⟨h.epoch, h.next, h.t0, h.t1, h.b, h.s, takeR_le _ _, h.nb, h.ns⟩
theorem fX0_w (p : HR) (h : HdW p.1) : HdW (fX0 p).1 := ⟨h.epoch, numberR_w _, h.t0, h.t1, h.b, h.s, h.c, h.nb, h.ns⟩
theorem fX1_w (p : HR) (h : HdW p.1) : HdW (fX1 p).1 := ⟨h.epoch, h.next, h.t0, h.t1, h.b, h.s, h.c, h.nb, h.ns⟩
theorem fX2_w (p : HR) (h : HdW p.1) : HdW (fX2 p).1 := ⟨h.epoch, h.next, h.t0, h.t1, h.b, h.s, h.c, takeR_le _ _, h.ns⟩
theorem fX3_w (p : HR) (h : HdW p.1) : HdW (fX3 p).1 := ⟨h.epoch, h.next, h.t0, h.t1, h.b, h.s, h.c, h.nb, takeR_le _ _⟩
theorem now_w (p : HR) (h : HdW p.1) : HdW (runF nowF p).1 := fN5_w _ (fN4_w _ (fN3_w _ (fN2_w _ (fN1_w _ (fN0_w p h)))))
theorem next_w (p : HR) (h : HdW p.1) : HdW (runF nextF p).1 := fX3_w _ (fX2_w _ (fX1_w _ (fX0_w p h)))
theorem nowEnd_w {h : Hd} (hw : HdW h) (ok : Bool) : HdW (nowEnd h ok).1 := by
  unfold nowEnd
  split
  · exact noHd_w
  · split
    · split
      · exact hw
      · exact noHd_w
    · split
      · exact noHd_w
      · exact ⟨hw.epoch, hw.next, hw.t0, hw.t1, Nat.zero_le _, Nat.zero_le _, hw.c, hw.nb, hw.ns⟩
theorem readNowL_w (s : ByteArray) : HdW (readNowL s).1 := nowEnd_w (now_w _ noHd_w) _
theorem nextEnd_w {h : Hd} (hw : HdW h) (ok : Bool) : HdW (nextEnd h ok).1 := by
  unfold nextEnd
  split
  · exact noHd_w
  · exact hw
theorem readNextL_w {h : Hd} (hw : HdW h) (s : ByteArray) : HdW (readNextL h s).1 := by
  have h2 : HdW (nextEnd (runF nextF (h, ⟨s, false⟩)).1 (fineR (runF nextF (h, ⟨s, false⟩)).2)).1 := nextEnd_w (next_w (h, ⟨s, false⟩) hw) _
  unfold readNextL
  generalize nextEnd (runF nextF (h, ⟨s, false⟩)).1 (fineR (runF nextF (h, ⟨s, false⟩)).2) = q at h2 ⊢
  split
  · exact hw
  · exact h2
theorem getH_w (P : Plat) : HdW (getH P).1 := by
  have h1 := readNowL_w (getP P 0).1
  have h2 := readNextL_w h1 (getP P 3).1
  unfold getH
  generalize readNextL (readNowL (getP P 0).1).1 (getP P 3).1 = r at h2 ⊢
  generalize readNowL (getP P 0).1 = q at h1 ⊢
  generalize getP P 0 = a
  generalize getP P 3 = b
  split
  · exact noHd_w
  · split
    · exact noHd_w
    · split
      · exact noHd_w
      · split
        · exact noHd_w
        · split
          · exact h1
          · split
            · exact noHd_w
            · exact h2

end Go.Proofs.YtieekajjoikepaaGreatDoor
