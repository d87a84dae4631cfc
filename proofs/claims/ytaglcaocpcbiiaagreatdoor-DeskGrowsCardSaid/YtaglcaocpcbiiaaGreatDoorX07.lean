import Derived.Test.YtaglcaocpcbiiaaGreatDoorX02
import Derived.Test.YtaglcaocpcbiiaaGreatDoorX04
import Derived.Shelf.Strconv.Itoa3
import Derived.Test.YtaglcaocpcbiiaaGreatDoorX03
set_option linter.unusedVariables false
set_option linter.unusedSimpArgs false
set_option maxRecDepth 100000
set_option maxHeartbeats 3000000
namespace Go.Proofs.YtaglcaocpcbiiaaGreatDoor
open Go.Proofs.Tryz Go.RowKit
section
variable {P:az} {s:ag}
def pU (m:Nat):Nat:=if m=5 then 1 else if m=7 then 2 else if m=11 then 4 else if m=19 then 8 else if m=35 then 16 else if m=67 then 32 else if m=131 then 64 else 0
theorem acV {m:Nat} (h:pU m≠0):m=3+2*pU m/\1<=pU m/\pU m<=64/\countB (pU m)=true:=by
 revert h;unfold pU;repeat' split
 all_goals first|(rename_i e;subst e;intro _;decide)|(intro h;exact absurd rfl h)
def pV (gen area:Int) (root:ag):Bool:=decide (0<=gen)&&decide (gen<=1000000000)&&decide (0<=area)&&decide (area<=1)&&decide (root.size=32)
def qR (gen area:Int) (root:ag):ag:=if pV gen area root then bs (qM gen++ [u8 area]++root.data.toList) else bo
structure Gr where
 gen:Nat
 area:Nat
 root:ByteArray
 ok:Bool
def Ci (s:ag):Bool:=decide (s.size=37)&&decide (fG (s.data.toList.take 4) true 4 0<=1000000000)&&decide ((s.data.toList.getD 4 0).toNat<=1)
def gj (s:ag):Gr:=if Ci s then ⟨fG (s.data.toList.take 4) true 4 0,(s.data.toList.getD 4 0).toNat,s.extract 5 s.size,true⟩ else ⟨0,0,bo,false⟩
theorem asQ {gen area:Int} {root:ag} (h:pV gen area root=true):0<=gen/\gen<=1000000000/\0<=area/\area<=1/\root.size=32:=by
 simp only[pV,Bool.and_eq_true,decide_eq_true_eq]at h;exact⟨h.1.1.1.1,h.1.1.1.2,h.1.1.2,h.1.2,h.2⟩
theorem acW (h:(gj s).ok=true):Ci s=true/\(gj s).gen<=1000000000/\(gj s).area<=1/\(gj s).root.size=32:=by
 unfold gj at h⊢;by_cases hb:Ci s=true
 ·rw[if_pos hb];have ky:=hb;simp only[Ci,Bool.and_eq_true,decide_eq_true_eq]at ky;refine⟨hb,ky.1.2,ky.2,?_⟩;show (s.extract 5 s.size).size=32;exact OS
 ·rw[if_neg hb]at h;cases h
structure Gs where
 n:Nat
 gen:Nat
 area:Nat
 V:dW
def mH:Gs:=⟨0,0,0,D4⟩
def vS (P:az) (n area:Nat):List ag:=(List.range n).map λi=>kh P ((3+area*n+i:Nat):Int)
def yi (P:az):dW:=⟨vS P (pU P.ss.length) (gj (cF P 0).1).area,(gj (cF P 0).1).root⟩
def cR (P:az):Gs×Int:=
 if pU P.ss.length=0 then (mH,160)
 else if (cF P 0).2.2≠0 then (mH,(cF P 0).2.2)
 else if (cF P 0).2.1=false\/(gj (cF P 0).1).ok=false then (mH,160)
 else if ks (yi P)=false then (mH,160)
 else if iQ (yi P).bl≠(yi P).rt then (mH,161)
 else (⟨pU P.ss.length,(gj (cF P 0).1).gen,(gj (cF P 0).1).area,yi P⟩,0)
def acX (V:dW) (n area:Nat) (i:Nat):az->az×Int:=i' ((3+(1 - area)*n+i:Nat):Int) (V.bl.getD i eR)
def Gt (V:dW) (n area:Nat):List (az->az×Int):=(List.range n).map (acX V n area)
def sZ (V:dW) (n area:Nat):List (az->az×Int):=Gt V n area++ [lX]
def yj (n:Nat) (aH:Int):Nat:=if aH<0\/((n+5:Nat):Int)<aH then n+5 else aH.toNat
def D6 (r:az×Int) (c:Gs) (V:dW) (D:Nat):az×Bool×Int:=
 if r.2≠0 then (bI,false,r.2) else if D<c.n+1 then (r.1,false,0) else eC r.1 0 (qR ((c.gen+1:Nat):Int) ((1 - c.area:Nat):Int) V.rt) ((D -(c.n+1):Nat):Int)
def iB (P:az) (V:dW) (aH:Int):az×Bool×Int:=
 if (cR P).2≠0 then (bI,false,(cR P).2)
 else if ks V=false\/V.bl.length≠(cR P).1.n then (bI,false,160)
 else if iQ V.bl≠V.rt then (bI,false,161)
 else if (cR P).1.gen=1000000000 then (bI,false,260)
 else D6 (fa ((sZ V (cR P).1.n (cR P).1.area).take (yj (cR P).1.n aH)) P) (cR P).1 V (yj (cR P).1.n aH)
def TF (n:Nat):az×Int:=((eC (gD (3+2*n)) 0 (qR 0 0 (iQ (List.replicate n eR))) (-1)).1,(eC (gD (3+2*n)) 0 (qR 0 0 (iQ (List.replicate n eR))) (-1)).2.2)
structure Vt (P:az) (n gen area:Nat) (V:dW):Prop where
 chk:fY P=true
 len:P.ss.length=3+2*n
 cnt:countB n=true
 mark:kh P 0=iz\/kh P 0=lY
 head:kh P (if kh P 0=iz then 1 else 2)=qR gen area V.rt
 hb:pV gen area V.rt=true
 bl:V.bl=vS P n area
 cv:ks V=true
 rt:iQ V.bl=V.rt
theorem TG (P:az) (n area:Nat):(vS P n area).length=n:=by simp[vS]
theorem Vt.blen {n gen area:Nat} {V:dW} (h:Vt P n gen area V):V.bl.length=n:=by rw[h.bl,TG]
theorem acY (h:(cF P 0).2.2=0) (ht:(cF P 0).2.1=true):fY P=true/\(kh P 0=iz\/kh P 0=lY)/\(cF P 0).1=kh P (if kh P 0=iz then 1 else 2):=by
 have hr:=Gj (Nc h);have r0:eK P 0=(kh P 0,0):=by simp[eK,hr.1,hr.2]
 unfold cF at h ht⊢;rw[r0]at h ht⊢;by_cases hn:kh P 0=bo
 ·simp[hn]at ht
 ·simp only[hn,ne_eq,not_true_eq_false,or_self,if_false]at h ht⊢;by_cases e0:kh P 0=iz
  ·rw[e0,S5]at h ht⊢;simp only[if_true]at h ht⊢;have h1:=Gj (P:=P) (i:=0+1) h;have tJ:gJ P.ss.length 1=true:=h1.2;exact⟨hr.1,.inl trivial,by simp[eK,h1.1,tJ]⟩
  ·by_cases e1:kh P 0=lY
   ·rw[e1,S6]at h ht⊢;simp only[Ge.2.2,if_false]at h ht⊢;have h1:=Gj (P:=P) (i:=0+2) h;have tJ:gJ P.ss.length 2=true:=h1.2;exact⟨hr.1,.inr trivial,by simp[eK,h1.1,tJ]⟩
   ·simp[nY,e0,e1]at h
theorem asR {l:aF} (h:l.length=4):lu [((fG l true 4 0:Nat):Int)] true=l:=by
 match l,h with
 | [a,b,c,d],_=>
  have e:=aqA [a,b,c,d] true 0 ak;rw[show [a,b,c,d].length=4 from rfl]at e;rw[aqE,e];have ha:=a.toNat_lt;have hb:=b.toNat_lt;have hc:=c.toNat_lt;have hd:=d.toNat_lt;simp only[JQ,JR,if_true,Nat.mul_zero,Nat.zero_add,Nat.add_zero,List.getD_cons_zero,List.getD_cons_succ];simp only[List.cons.injEq,and_true];refine⟨?_,?_,?_,?_⟩;all_goals
   apply UInt8.toNat_inj.1
   rw[UInt8.toNat_ofNat']
   omega
theorem asS: ∀l:aF,5<=l.length->l.take 4++ [l.getD 4 0]++l.drop 5=l
 | [],h=>by simp at h
 | [_],h=>by simp at h
 | [_,_],h=>by simp at h
 | [_,_,_],h=>by simp at h
 | [_,_,_,_],h=>by simp at h
 |_::_::_::_::_::_,_=>rfl
theorem asT (h:(gj s).ok=true):pV (gj s).gen (gj s).area (gj s).root=true/\s=qR (gj s).gen (gj s).area (gj s).root:=by
 obtain⟨hb,h1,h2,h3⟩:=acW h;have hB:pV (gj s).gen (gj s).area (gj s).root=true:=by
  simp[pV,h3];omega
 refine⟨hB,?_⟩;rw[qR,if_pos hB];have ky:=hb;simp only[Ci,Bool.and_eq_true,decide_eq_true_eq]at ky;obtain⟨⟨hz,hg⟩,ha⟩:=ky;have hl:s.data.toList.length=37:=by rw[bP];exact hz
 have e:gj s=⟨fG (s.data.toList.take 4) true 4 0,(s.data.toList.getD 4 0).toNat,s.extract 5 s.size,true⟩:=by rw[gj,if_pos hb]
 rw[e];show s=bs (qM ((fG (s.data.toList.take 4) true 4 0:Nat):Int)++ [u8 (((s.data.toList.getD 4 0).toNat:Nat):Int)]++(s.extract 5 s.size).data.toList);have e2:u8 (((s.data.toList.getD 4 0).toNat:Nat):Int)=s.data.toList.getD 4 0:=by
  have:=aqK (n:=(((s.data.toList.getD 4 0).toNat:Nat):Int)) ae ae;exact UInt8.toNat_inj.1 ae
 have e1:qM ((fG (s.data.toList.take 4) true 4 0:Nat):Int)=s.data.toList.take 4:=by
  have hw:fW ((fG (s.data.toList.take 4) true 4 0:Nat):Int)=true:=by simp[fW];omega
  rw[qM,if_pos hw];exact asR (by simp;omega)
 rw[e1,e2,lR,sD,List.take_of_length_le (l:=s.data.toList) (i:=s.size) ae,asS _ ae];rfl
theorem TH (h:(cR P).2=0):Vt P (cR P).1.n (cR P).1.gen (cR P).1.area (cR P).1.V:=by
 unfold cR at h⊢;split at h
 ·cases h
 rename_i h0;rw[if_neg h0];split at h
 ·rename_i h1;exact absurd h h1
 rename_i h1;rw[if_neg h1];split at h
 ·cases h
 rename_i h2;rw[if_neg h2];split at h
 ·cases h
 rename_i h3;rw[if_neg h3];split at h
 ·cases h
 rename_i h4;rw[if_neg h4];simp only[not_or,Bool.not_eq_false]at h2;simp only[ne_eq,Decidable.not_not]at h1 h4;obtain⟨g1,g2,g3⟩:=acY h1 h2.1;obtain⟨s1,s2,s3,s4⟩:=acV h0;obtain⟨k1,k2⟩:=asT h2.2;exact⟨g1,s1,s4,g2,g3.symm.trans k2,k1,rfl,by simpa using h3,h4⟩
theorem NB (V:dW) (n area:Nat):(Gt V n area).length=n:=by simp[Gt]
theorem acZ {V:dW} {n area D:Nat} (h:n+1<=D):(sZ V n area).take D=sZ V n area:=by
 rw[List.take_of_length_le];rw[sZ,dx,NB];simpa using h
theorem Vt.area {n gen area:Nat} {V:dW} (h:Vt P n gen area V):area<=1/\gen<=1000000000:=by
 have:=asQ h.hb;omega
theorem asU {area n i:Nat} (ha:area<=1) (hi:i<n):(3+area*n+i<3+(1 - area)*n\/3+(1 - area)*n+n<=3+area*n+i)/\3+area*n+i<3+2*n:=by
 have h:area=0\/area=1:=ae;rcases h with rfl|rfl<;>simp<;>omega
theorem asV (n:Nat) (aH:Int):yj n aH<=n+5:=by
 unfold yj;split<;>omega
end
end Go.Proofs.YtaglcaocpcbiiaaGreatDoor
namespace Go.Proofs.YtaglcaocpcbiiaaGreatDoor
open Go.Proofs.Tryz Go.Shelf
def at4:Nat->Nat
 |129=>282
 |171=>36
 |243=>82
 |246=>139
 |283=>221
 |284=>222
 |285=>223
 |286=>224
 |317=>281
 |318=>283
 |319=>284
 |320=>285
 |337=>331
 |338=>332
 |n=>n
def at5:Nat->Nat
 |0=>0
 |2=>2
 |3=>3
 |4=>4
 |5=>5
 |9=>9
 |20=>20
 |37=>34
 |46=>295
 |51=>337
 |53=>278
 |171=>277
 |173=>281
 |212=>336
 |213=>338
 |232=>269
 |233=>384
 |n=>n
def at6:Nat->Nat
 |17=>3
 |18=>6
 |19=>7
 |n=>n
def adB:Go.Shelf.Ren:=⟨at4,at5,at6⟩
theorem adC:Lays.n171 prog adB:= {
 mixed:=ax
 f129:=func282.trans (congrArg some ax)
 f171:=func36.trans (congrArg some ax)
 f243:=func82.trans (congrArg some ax)
 f246:=func139.trans (congrArg some ax)
 f283:=func221.trans (congrArg some ax)
 f284:=func222.trans (congrArg some ax)
 f285:=func223.trans (congrArg some ax)
 f286:=func224.trans (congrArg some ax)
 f317:=func281.trans (congrArg some ax)
 f318:=func283.trans (congrArg some ax)
 f319:=func284.trans (congrArg some ax)
 f320:=func285.trans (congrArg some ax)
 f337:=func331.trans (congrArg some ax)
 f338:=func332.trans (congrArg some ax)
 t0:=underlying0
 a0:=Tryz.isAgg0
 z0:=Tryz.sizeOf0
 v0:=zeroValue0
 t2:=underlying2
 a2:=Tryz.isAgg2
 z2:=Tryz.sizeOf2
 v2:=zeroValue2
 t3:=underlying3
 a3:=Tryz.isAgg3
 z3:=Tryz.sizeOf3
 v3:=zeroValue3
 t4:=underlying4
 a4:=Tryz.isAgg4
 z4:=Tryz.sizeOf4
 v4:=zeroValue4
 t5:=underlying5
 a5:=Tryz.isAgg5
 z5:=Tryz.sizeOf5
 v5:=zeroValue5
 t9:=underlying9
 a9:=Tryz.isAgg9
 z9:=Tryz.sizeOf9
 v9:=zeroValue9
 t20:=underlying20
 a20:=Tryz.isAgg20
 z20:=Tryz.sizeOf20
 v20:=zeroValue20
 t37:=underlying34
 a37:=Tryz.isAgg34
 z37:=Tryz.sizeOf34
 v37:=zeroValue34
 t46:=underlying295
 a46:=Tryz.isAgg295
 z46:=Tryz.sizeOf295
 v46:=zeroValue295
 t51:=underlying337
 a51:=Tryz.isAgg337
 z51:=Tryz.sizeOf337
 v51:=zeroValue337
 t53:=underlying278
 a53:=Tryz.isAgg278
 z53:=Tryz.sizeOf278
 v53:=zeroValue278
 t171:=underlying277
 a171:=Tryz.isAgg277
 z171:=Tryz.sizeOf277
 v171:=zeroValue277
 t173:=underlying281
 a173:=Tryz.isAgg281
 z173:=Tryz.sizeOf281
 v173:=zeroValue281
 t212:=underlying336
 a212:=Tryz.isAgg336
 z212:=Tryz.sizeOf336
 v212:=zeroValue336
 t213:=underlying338
 a213:=Tryz.isAgg338
 z213:=Tryz.sizeOf338
 t232:=underlying269
 a232:=Tryz.isAgg269
 z232:=Tryz.sizeOf269
 v232:=zeroValue269
 t233:=underlying384
 a233:=Tryz.isAgg384
 z233:=Tryz.sizeOf384
 v233:=zeroValue384
 g17:=ax
 g18:=ax
 g19:=ax
}
end Go.Proofs.YtaglcaocpcbiiaaGreatDoor
namespace Go.Proofs.YtaglcaocpcbiiaaGreatDoor
open Go.Proofs.Tryz Go.RowKit
variable {A:aN} {B ai g i n:Nat} {P:Prop} {W w:World} {a b:Value} {t:TypeId} {xs:bJ}
theorem bM.turns2 (y:bM w) (h:iy w):iy y.x:=h.below y.ok
theorem auD (i:Nat) (hi:i<100) (w:World):Calls prog 36 #[.int .i64 (i:Nat)] w (eu w (.string (Gq i))):=Any.strconv_Itoa_small adC i hi w
theorem agN (h:P:=by
 by_cases h1:0<=i
 ·have e1:decide (i>=0)=true:=by simpa using h1
  have QX:decide (0<=i)=true:=by simpa using h1
  rw[QX];exact jt
 ·have e1:decide (i>=0)=false:=by simpa using h1
  have QX:decide (0<=i)=false:=by simpa using h1
  rw[QX];exact jt):P:=h
theorem adU (i:Int) (w:World):Calls prog 187 #[.int .i64 i] w (eu w (.bool (pi i))):=by
 unfold pi;exact agN
theorem adV (n:Nat) (w:World):Calls prog 144 #[.int .i64 (n:Nat)] w (eu w (.bool (countB n))):=by
 by_cases h1:1<=n
 ·by_cases h2:n<=64
  ·have e1:decide ((n:Int)>=1)=true:=by simp;omega
   have e2:decide ((n:Int)<=64)=true:=(by simp;omega);have ha:=adP n h1 ae;have hm:countB n=decide (n&&&(n - 1)=0):=(by unfold countB;rw[decide_eq_true h1,decide_eq_true h2];rfl);exact ahj
  ·have e1:decide ((n:Int)>=1)=true:=by simp;omega
   have e2:decide ((n:Int)<=64)=false:=(by simp;omega);have hm:countB n=false:=(by unfold countB;rw[decide_eq_false h2];simp);rw[hm];clear hm;exact jt
 ·have e1:decide ((n:Int)>=1)=false:=by simp;omega
  have hm:countB n=false:=by unfold countB;rw[decide_eq_false h1];rfl
  rw[hm];clear hm;exact jt
theorem adW (i:Int) (hi:pi i=true) (w:World):Calls prog 188 #[.int .i64 i] w (eu w (.string (kr i))):=by
 simp only[pi,Bool.and_eq_true,decide_eq_true_eq]at hi;obtain⟨k,rfl⟩:=Int.eq_ofNat_of_zero_le hi.1;have HI:=aa (λW=>auD k ae W);show Calls _ _ _ _ λe w'=>e= .returned (.string (TD++Gq ((k:Int)).toNat))/\w'=w;rw[Int.toNat_natCast];have hz:(Gq k).size<=2:=acO ae;generalize Gq k=d at HI hz⊢;clear hi;go_in;go_wp2_with fail;refine (HI _).mono ?_;rintro e w1 ⟨rfl,rfl⟩;exact tp
theorem KH (h:P:=by
 go_in;go_wp2_with fail;refine (HP _).mono ?_;rintro e w1 ⟨rfl,rfl⟩;go_wp2;go_ret2;exact⟨rfl,aI _ _⟩):P:=h
theorem ahQ (h:P:=by
 go_in;go_wp2_with fail;refine (HP _).mono ?_;rintro e w1 ⟨rfl,rfl⟩;go_wp2_with fail;refine (Lk _).mono ?_;rintro e w1 ⟨rfl,rfl⟩;go_wp2_with fail;refine (zh _ HT).mono ?_;rintro e w1 ⟨rfl,hb⟩;go_wp2;go_ret2;exact⟨rfl,hb⟩):P:=h
theorem auE (key nonce:ag) (i:Int) (s:ag) (w:World) (hT:iy w) (hk:key.size<=maxLen) (ho:nonce.size<=maxLen) (hs:s.size<=maxLen):
  Calls prog 111 #[.string key,.string nonce,.int .i64 i,.string s] w (bF w (.tuple #[.string (lF key nonce i s),.int .i64 (pj key nonce i s:Nat)])):=by
 have HP:=aa (λW=>adU i W);have HT:=aa hT;cases hi:pi i with
 |false=>
  have hE:pj key nonce i s=1:=by unfold pj;rw[if_pos hi]
  have hS:lF key nonce i s=eR:=by unfold lF;rw[hE];rfl
  rw[hE,hS];rw[hi]at HP;clear hE hS hi hT hk ho hs;exact KH
 |true=>
 rw[hi]at HP;by_cases EO:64<s.size
 ·have hE:pj key nonce i s=2:=by unfold pj;rw[if_neg (by rw[hi];simp),if_pos EO]
  have hS:lF key nonce i s=eR:=by unfold lF;rw[hE];rfl
  have d1:decide ((s.size:Int)>64)=true:=decide_eq_true ae;rw[hE,hS];clear hE hS hi hT hk ho hs EO;exact KH
 have d1:decide ((s.size:Int)>64)=false:=decide_eq_false ae;have hE:pj key nonce i s=iN key nonce (kr i) s:=by unfold pj;rw[if_neg (by rw[hi];simp),if_neg EO]
 have Lk:=aa (λW=>adW i hi W);have zh:=aa (λW h=>abv key nonce (kr i) s W h hk ho (bD (acP hi) au) hs);have HZ:Hid (iN key nonce (kr i) s=0->nonce.size<=12/\(iO key nonce (kr i) s).size<=80):=aa λh=>by
  have h5:=acQ (key:=key) (nonce:=nonce) (i:=i) (s:=s) (by rw[hE];exact h);have h6:=(SA h).2.2;omega
 have HS:Hid (lF key nonce i s=if iN key nonce (kr i) s=0 then nonce++iO key nonce (kr i) s else eR):=aa (by unfold lF;rw[hE]);rw[hE,HS.out];clear hE HS hi hT hk ho hs EO;generalize kr i=b at Lk zh HZ⊢;generalize iN key nonce b s=er at zh HZ⊢;generalize iO key nonce b s=t at zh HZ⊢;by_cases h0:er=0
 ·subst h0;obtain⟨z1,z2⟩:=HZ.out rfl;clear HZ;have d2:(((0:Nat):Int) !=0)=false:=rfl;exact ahQ
 ·have d2:((er:Int) !=0)=true:=by simp;omega
  rw[if_neg h0];clear h0;exact ahQ
theorem agV (h:P:=by
 go_in;go_wp2_with fail;refine (HP _).mono ?_;rintro e w1 ⟨rfl,rfl⟩;go_wp2_with fail;refine rC ax ax ?_;repeat (go_big_quiet_step (first|exact Lk.out _|exact uM.out _))
 refine wpQuiet_nil ?_;rintro _ ⟨y,rfl⟩;go_wp2;go_ret2;exact⟨rfl,y.ok⟩):P:=h
theorem auF (key:ag) (i:Int) (st:ag) (w:World) (hT:iy w) (hk:key.size<=maxLen) (hs:st.size<=maxLen):
  Calls prog 110 #[.string key,.int .i64 i,.string st] w (bF w (.tuple #[.string (pm key i st),.int .i64 (pk key i st:Nat)])):=by
 have HP:=aa (λW=>adU i W);cases hi:pi i with
 |false=>
  have hE:pk key i st=1:=by unfold pk;rw[if_pos hi]
  have hS:pm key i st=eR:=by unfold pm;rw[if_pos (.inl hi)]
  rw[hE,hS];rw[hi]at HP;clear hE hS hi hT hk hs;exact KH
 |true=>
 rw[hi]at HP;by_cases h0:st.size=0
 ·obtain rfl:st=⟨#[]⟩:=by
   apply ByteArray.ext;exact Array.eq_empty_of_size_eq_zero h0
  obtain⟨hE,hS⟩:=acS (key:=key) hi;show Calls _ _ _ _ (bF w (.tuple #[.string (pm key i eR),.int .i64 (pk key i eR:Nat)]));rw[hE,hS];clear hE hS hi hT hk hs h0;exact KH
 have d0:st.toList.isEmpty=false:=by
  rw[ByteArray.toList_eq];cases hl:st.data.toList with
  |nil=>exact absurd (by rw[<-bP,hl];rfl) h0
  |cons a l=>rfl
 by_cases tJ:st.size<12
 ·have hE:pk key i st=60:=by unfold pk;rw[if_neg (by rw[hi];simp),if_neg h0,if_pos tJ]
  have hS:pm key i st=eR:=by unfold pm;rw[if_pos (.inr (.inr tJ))]
  have d1:decide ((st.size:Int)<12)=true:=decide_eq_true ae;rw[hE,hS];clear hE hS hi hT hk hs h0;exact KH
 have d1:decide ((st.size:Int)<12)=false:=decide_eq_false ae;have d2:(12:Int)<=(st.size:Int):=ae;have hE:pk key i st=jC key (st.extract 0 12) (kr i) (st.extract 12 st.size):=by unfold pk;rw[if_neg (by rw[hi];simp),if_neg h0,if_neg tJ]
 have hS:pm key i st=jO key (st.extract 0 12) (kr i) (st.extract 12 st.size):=by unfold pm;rw[if_neg (by rintro (h|h|h);rw[hi]at h;cases h;exact h0 h;exact tJ h)]
 have z1:(st.extract 0 12).size<=maxLen:=by rw[Cy];unfold maxLen;omega
 have z2:(st.extract 12 st.size).size<=maxLen:=by rw[Cy];omega
 have iw:=aa (show jC key (st.extract 0 12) (kr i) (st.extract 12 st.size)≠0->jO key (st.extract 0 12) (kr i) (st.extract 12 st.size)=eR from λh=>by unfold jO;rw[if_neg h];rfl);have Lk:=aa (λy:bM w=>lS (y:=y) ((adW i hi y.x).mono λ_ _ ⟨h1,h2⟩=>⟨h1,h2▸aI _ _⟩));have uM:=aa (λy:bM w=>lS (y:=y) (abw key (st.extract 0 12) (kr i) (st.extract 12 st.size) y.x (y.turns2 hT) hk z1 (bD (acP hi) au) z2));rw[hE,hS];clear hE hS hi hT hk hs h0 z1 z2 tJ;generalize kr i=b at Lk uM iw⊢;generalize jC key (st.extract 0 12) b (st.extract 12 st.size)=er at uM iw⊢;generalize jO key (st.extract 0 12) b (st.extract 12 st.size)=t at uM iw⊢;by_cases hz:er=0
 ·subst hz;have d3:(((0:Nat):Int) !=0)=false:=rfl;exact agV
 ·have d3:((er:Int) !=0)=true:=by simp;omega
  obtain rfl:=iw.out hz;clear hz;exact agV
def VV (w:World) (v:Value) (V:dW):Prop:= ∃A n c,v= .agg #[.slice A n c,.string V.rt]/\Rd w A (aZ V.bl)/\n=V.bl.length
theorem VV.below {w':World} {v:Value} {V:dW} (h:VV w v V) (hb:aD w w'):VV w' v V:=by
 obtain⟨A,n,c,rfl,h1,h2⟩:=h;exact⟨A,n,c,rfl,h1.below hb,h2⟩
theorem agz (h:P:=by
 go_in;go_wp2_with fail;refine (HC.out _).mono ?_;rintro e w1 ⟨rfl,rfl⟩;go_wp2;go_ret;exact⟨rfl,HB.out⟩):P:=h
theorem Uc (v:Value) (V:dW) (w:World) (hv:VV w v V):
  Calls prog 114 #[v] w (bF w (.bool (ks V))):=by
 obtain⟨A,n,c,rfl,hA,hn⟩:=hv;obtain⟨bl,rt⟩:=V;simp only at hA hn⊢;have HC:=aa (λW=>adV n W);have ev:=aa hA;have HN:=aa hn;have HX:=aa (aR w (.cells #[.slice A n c,.string rt] 80));have HB:=aa (be w (.cells #[.slice A n c,.string rt] 80));have aDH:=aa (show ks ⟨bl,rt⟩=(countB n&&decide (rt.size=32)&&bl.all λb=>decide (b.size<=92)) by unfold ks;rw[hn]);rw[aDH.out];clear hA hn;cases hc:countB n with
 |false=>
  rw[hc]at HC;rw[Bool.false_and,Bool.false_and];clear hc;have x0:=aj HX.out 0 _ rfl;exact agz
 |true=>
 rw[hc]at HC;rw[Bool.true_and];have PA:=(yh hc).2;clear hc;have x0:=aj HX.out 0 _ rfl;have x1:=aj HX.out 1 _ rfl;by_cases mX:rt.size=32
 ·have d1:((rt.size:Int) !=32)=false:=by simp;omega
  rw[decide_eq_true mX,Bool.true_and];obtain⟨r,hr⟩: ∃r,r=bl.all λb=>decide (b.size<=92):=⟨_,rfl⟩
  rw[<-hr];have Hr:=aa hr;clear mX hr;go_in;go_wp2_with fail;refine (HC.out _).mono ?_;rintro e w1 ⟨rfl,rfl⟩;go_wp2_with fail;go_loopw [19] (λx wr=> ∃i:Nat,i<=n/\x= .int .i64 (i:Nat)/\(bl.take i).all (λb=>decide (b.size<=92))=true/\aD w wr) (λx _=>n -(intOf x).toNat);case atStart=>exact⟨0,ae,rfl,rfl,HB.out⟩
  case round=>
   clear HB x0 x1;obtain⟨i,hi,rfl,gF,hb⟩:=hrel;have zw:=aa gF;have HB:=aa hb;clear gF hb;by_cases aK:i<n
   ·have e1:decide ((i:Int)<(n:Int))=true:=(by simp;omega);have bB:i<bl.length:=(by rw[<-HN.out];exact aK);obtain⟨bA,oA,bG,c1⟩:=kG (ev.below HB.out) bB;subst bG;have tP:=aa (show (bl.take (i+1)).all (λb=>decide (b.size<=92))=((bl.take i).all (λb=>decide (b.size<=92))&&decide (bl[i].size<=92)) by rw[List.take_succ_eq_append_getElem bB,List.all_append];simp);have uE:=aa (show decide (bl[i].size<=92)=false->bl.all (λb=>decide (b.size<=92))=false from λh=>List.all_eq_false.2 ⟨bl[i],dY bB,by simpa using h⟩);generalize bl[i]=b at c1 tP uE;clear bB;by_cases QB:b.size<=92
    ·have d2:decide ((b.size:Int)>92)=false:=decide_eq_false ae;have Hx:=aa (show (bl.take (i+1)).all (λb=>decide (b.size<=92))=true by rw[tP.out,zw.out,decide_eq_true QB];rfl);clear QB;go_wp2;go_roundw;case rel=>exact⟨i+1,ae,by go_num,Hx.out,HB.out⟩
     case measure=>exact cM
    ·have d2:decide ((b.size:Int)>92)=true:=decide_eq_true ae;have Hf:=aa (Hr.trans (uE.out (decide_eq_false QB)));clear QB;go_wp2;go_ret;exact⟨by rw[Hf.out];rfl,HB.out⟩
   ·obtain rfl:i=n:=ae;have e1:decide ((i:Int)<(i:Int))=false:=ak;rw[HN.out,List.take_of_length_le (aM _)]at zw;have Hf:=aa (Hr.trans zw.out);go_wp2;go_ret;exact⟨by rw[Hf.out];rfl,HB.out⟩
 ·have d1:((rt.size:Int) !=32)=true:=by simp;omega
  rw[decide_eq_false mX,Bool.false_and];clear mX;exact agz
theorem auG (l:List ag): ∀u∈aZ l,u.oneCell'=true:=by
 intro u hu;exact G5
theorem auH (l:List ag):(aZ l).length=l.length:=by simp[aZ]
theorem Ek (h:w.heap[g]?=some (.cells #[a,b] t (0,0))):w.cell? ⟨g,0,none⟩=some a/\w.cell? ⟨g,1,none⟩=some b:=⟨aj h 0 _ rfl,aj h 1 _ rfl⟩
theorem Ud {l:List ag} (h:lE l.length=true):Ei l=0/\Ej l=iQ l:=by
 unfold Ei Ej;rw[if_pos h,if_pos h];exact⟨rfl,rfl⟩
theorem adX (g:Nat) (A:aN) (n c:Nat) (V:dW) (i:Int) (w:World) (hX:bj w g #[.slice A n c,.string V.rt] 180) (hn:n=V.bl.length):
  Calls prog 109 #[.pointer (aw g),.int .i64 i] w (eu w (.bool (pT V i))):=by
 have hd:pT V i=(decide (0<=i)&&decide (i<(n:Int))):=by unfold pT;rw[hn]
 rw[hd];have x0:=aj hX 0 _ rfl;clear hX hn hd;exact agN
theorem agm (h:P:=by
 have d2:(((0:Nat):Int) !=0)=false:=rfl;clear tU;go_in;go_wp2_with fail;refine (HC).mono ?_;rintro e w1 ⟨rfl,hb⟩;have Hb:=aa hb;have X1:=aa (aJ HX hb);clear hb x0 x1;have x0:=aj X1 0 _ rfl;have x1:=aj X1 1 _ rfl;go_wp2_with fail;refine (kB _ (ev.below Hb) (HR.below Hb)).mono ?_;rintro e w2 ⟨rfl,av⟩;have x2:=aj (aJ X1 av) 1 _ rfl;have qs:=aX Hb av;clear av x0 x1;go_wp2;go_ret;exact⟨rfl,qs⟩):P:=h
theorem af2 (h:P:=by
 go_in;go_wp2_with fail;refine (HC).mono ?_;rintro e w1 ⟨rfl,hb⟩;exact OC):P:=h
theorem adY (g:Nat) (A:aN) (n c:Nat) (V:dW) (t:Bool) (w:World) (hX:bj w g #[.slice A n c,.string V.rt] 180) (hr:Rd w A (aZ V.bl)) (hn:n=V.bl.length) (hR:cX w):
  Calls prog 108 #[.pointer (aw g),.int .i64 0,.bool t] w (bF w (.int .i64 (mG V t:Nat))):=by
 have HC:=aa (Uc (.agg #[.slice A n c,.string V.rt]) V w ⟨A,n,c,rfl,hr,hn⟩);have HX:=aa hX;have ev:=aa hr;have HN:=aa hn;have HR:=aa hR;have x0:=aj hX 0 _ rfl;have x1:=aj hX 1 _ rfl;clear hX hr hn hR;cases hc:ks V with
 |false=>
  have hE:mG V t=160:=by unfold mG;rw[if_pos hc]
  rw[hE];rw[hc]at HC;clear hE hc;exact af2
 |true=>
 rw[hc]at HC;have CR: ¬ks V=false:=by rw[hc];simp
 cases t with
 |false=>
  have hE:mG V false=1:=by unfold mG;rw[if_neg CR,if_pos rfl]
  rw[hE];clear hE hc CR;exact af2
 |true=>
 obtain⟨p1,p2,p3⟩:=D5 hc;obtain⟨r1,r2⟩:=Ud (J7 p1);have hE:mG V true=if iQ V.bl=V.rt then 0 else 161:=by unfold mG;rw[if_neg CR,if_neg ak]
 rw[hE];have kB:=aa (λW h1 h2=>Ub A n c V.bl W h1 HN (by have:=(yh p1).2;have:=HN.out;omega) (λs hs=>by have:=p3 s hs;omega) h2);rw[r1,r2]at kB;clear hE hc CR p1 p2 p3 r1 r2;by_cases tU:iQ V.bl=V.rt
 ·rw[if_pos tU];rw[tU]at kB;generalize V.rt=rt at HC HX x0 x1 kB;have d1:(rt.toList !=rt.toList)=false:=ak;exact agm
 ·rw[if_neg tU];have d1:=zU tU;generalize iQ V.bl=r at d1 kB;generalize V.rt=rt at HC HX x0 x1 d1;exact agm
theorem auI (A:aN) (n c:Nat) (bl:List ag) (rt:ag) (w:World) (hr:Rd w A (aZ bl)) (hn:n=bl.length) (hm:n<=1000000):
  Calls prog 112 #[.agg #[.slice A n c,.string rt]] w λe w'=> ∃g A' ai,e= .returned (.pointer (aw g))/\bj w' g #[.slice A' n ai,.string rt] 180/\w.heap.size<=g/\w'.ownsRow w.heap.size 9 1 (.slice A' n ai) n (aZ bl)/\aD w w':=by
 have bG:=be w (.cells #[.slice A n c,.string rt] 80);have ev:=aa (hr.below bG);have HN:=aa hn;have x0:=(Ek (aR w (.cells #[.slice A n c,.string rt] 80))).1;have x1:=(Ek (aR w (.cells #[.slice A n c,.string rt] 80))).2;have nH:=aa bG;clear bG hr hn;go_in;go_wp2_with fail;go_region_held3 (λw'=>w'.cell? ⟨w.heap.size,0,none⟩=some (.slice A n c)/\w'.cell? ⟨w.heap.size,1,none⟩=some (.string rt))
  (first|assumption|exact⟨x0,x1⟩|exact t8 (by assumption)|exact i6 ⟨x0,x1⟩ (by assumption)|exact i6 (by assumption) (by assumption))
  (first
   |(refine Am ah _ _ 28 ah w.heap.size 9 (.string ⟨#[]⟩) 1 16 underlying28 mx rfl ae ah A n c ah (aZ bl) (by exact ev.out) (by rw[auH,<-HN.out,Nat.mul_one]) (auG _) ae ae (by exact nH.size) ?_;intro A1 lH w1 fQ AQ;have aG:=bg ((aI _ (w.alloc (.cells #[.slice A n c,.string rt] 80))).drew) AQ;clear AQ))
 go_wp2;go_ret;have aL:=(aI _ w1).alloc (aM _) (.cells #[.slice A1 n lH,.string rt] 180);exact⟨w1.heap.size,A1,lH,rfl,aR w1 _,bD nH.size aG.size,eO fQ aL,bg (bg nH aG) aL⟩
theorem AI (h:w.heap[g]?=some (.cells #[a,b] t (0,0))):(loadVar 80 ⟨g,0,none⟩).run prog w= .ok (.agg #[a,b]) w:=by
 have:=run_loadVar_mid (P:=prog) w g 0 80 [a,b] _ (λj v hj=>by
  rw[Nat.zero_add,cell_of_row w g j _ _ _ h];simpa using hj) underlying80 rfl ax
 exact oC
theorem El (h:W.heap[g]?=some (.cells #[a,b] t (0,0))) (u v:Value):((W.setCell ⟨g,0,none⟩ u).setCell ⟨g,1,none⟩ v).heap[g]?=some (.cells #[u,v] t (0,0)):=by
 have:=bt (bt h 0 u) 1 v;exact ON
theorem adZ (g:Nat) (A:aN) (n c:Nat) (l:List ag) (rt:ag) (B:Nat) (w:World) (hX:bj w g #[.slice A n c,.string rt] 180) (hr:Rd w A (aZ l)) (hn:n=l.length) (hm:lE l.length=true) (hz: ∀s∈l,s.size<=1000) (hR:cX w) (hB:B<=g):
  Calls prog 113 #[.pointer (aw g)] w λe w'=>e= .returned (.tuple #[.agg #[.slice A n c,.string (iQ l)],.int .i64 0])/\Below B w w'/\(∀k,k<w.heap.size->k≠g->w'.heap[k]?=w.heap[k]?):=by
 obtain⟨r1,r2⟩:=Ud hm;have kB:=aa (λW h1 h2=>Ub A n c l W h1 hn (by have:lE l.length=true:=hm;simp only[lE,Bool.and_eq_true,decide_eq_true_eq]at this;omega) (λs hs=>by have:=hz s hs;omega) h2);rw[r1,r2]at kB;generalize iQ l=r at kB⊢;have al:=be w (.cells #[ay,.string ⟨#[]⟩] 80);have HX:=aa (aJ hX al);have HY:=aa (aR w (.cells #[ay,.string ⟨#[]⟩] 80));have ev:=aa (hr.below al);have HR:=aa (hR.below al);have Hb:=aa al;have XI:=bf hX;have x0:=aj HX 0 _ rfl;have d2:(((0:Nat):Int) !=0)=false:=rfl;clear hX hr hn hm hz hR al r1 r2;go_in;go_wp2_with fail;refine (kB _ ev HR).mono ?_;rintro e w2 ⟨rfl,av⟩;have X2:=aa (aJ HX av);have Y2:=aa (aJ HY av);have qs:=aX Hb av;clear av x0;have y1:=aj X2 1 _ rfl;have f1:=aU X2 1;have s1:=bt X2 1 (.string r);simp only[List.setIfInBounds_toArray,List.set_cons_zero,List.set_cons_succ]at s1;have S1:=aa s1;have Y3:=aa ((bz w2 ⟨g,1,none⟩ (.string r) w.heap.size (by dsimp only;omega)).trans Y2);have a0:=aj S1 0 _ rfl;have a1:=aj S1 1 _ rfl;have b0:=aj Y3 0 _ rfl;have b1:=aj Y3 1 _ rfl;have f2:=aU Y3 0;have f3:=aU Y3 1;clear s1;go_wp2_with fail;refine bodyPost_ret (dJ rfl _ _ w.heap.size ah _ (AI (El Y3 _ _))) rfl ?_;refine⟨rfl,(((qs.mono ae).setCell (p:=⟨g,1,none⟩) hB _).setCell (p:=⟨w.heap.size,0,none⟩) (by dsimp only;omega) _).setCell (p:=⟨w.heap.size,1,none⟩) (by dsimp only;omega) _,λk hk aO=>?_⟩;rw[bz _ _ _ _ (by dsimp only;omega),bz _ _ _ _ (by dsimp only;omega),bz _ _ _ _ (by dsimp only;omega)];exact qs.block k hk
theorem Ue {W':World} (h:Rd W A xs) (hk: ∀b o,A=some ⟨b,o,none⟩->b<W.heap.size->W'.heap[b]?=W.heap[b]?):Rd W' A xs:=λq v hv=>by
 obtain⟨b,o,e,hc⟩:=h q v hv;refine⟨b,o,e,?_⟩;have:=hk b o e (cU hc);unfold World.cell? at hc⊢;rw[this];exact hc
theorem tj (h:Rd W A xs) (aO: ∀b o,A=some ⟨b,o,none⟩->g≠b) (u:Value):Rd (W.setCell ⟨g,i,none⟩ u) A xs:=
 Ue h λb o e _=>bz _ _ _ _ (by dsimp only;exact λh'=>aO b o e h'.symm)
theorem auJ {l:List ag} (h:W.ownsRow B 9 1 (.slice A n ai) n (aZ l)) (hi:i<n) (hn:n=l.length):
  ∃gA,A=some ⟨gA,0,none⟩/\B<=gA/\gA<W.heap.size/\(∃u,W.cell? ⟨gA,i,none⟩=some u)/\W.frozen? ⟨gA,i,none⟩=false/\ ∀u,(W.setCell ⟨gA,i,none⟩ (.string u)).ownsRow B 9 1 (.slice A n ai) n (aZ (l.set i u)):=by
 have hr:=gz h;rcases h.2 with⟨_,h0⟩|⟨g,ja,bK,hv,hB,hg,h1,h2,h3,h4⟩
 ·omega
 ·injection hv with e1 e2 e3
  subst e1 e3;obtain⟨b,o,e,hc⟩:=kG hr (by rw[<-hn];exact hi:i<l.length);injection e with e
  injection e with e1 e2
  subst e1 e2;rw[Nat.zero_add]at hc;refine⟨g,rfl,hB,bf hg,⟨_,hc⟩,by unfold World.frozen?;simp[hg],λu=>⟨by simpa[aZ] using h.1,.inr ⟨g,ai,bK.setIfInBounds i (.string u),rfl,hB,bt hg i (.string u),h1,h2,by simpa using h3,?_⟩⟩⟩;rw[Array.toList_setIfInBounds,List.take_set,h4];simp[aZ,List.map_set]
def VVf (B:Nat) (w:World) (v:Value) (V:dW):Prop:= ∃A n c,v= .agg #[.slice A n c,.string V.rt]/\(Rd w A (aZ V.bl)/\ ∀b o,A=some ⟨b,o,none⟩->B<=b)/\n=V.bl.length
def ad0 (w:World) (V:dW) (n:Nat) (e:Ending) (w':World):Prop:= ∃v,e= .returned (.tuple #[v,.int .i64 (n:Nat)])/\VVf w.heap.size w' v V/\aD w w'
theorem ad1 (n:Nat) (w:World) (hR:cX w):
  Calls prog 85 #[.int .i64 (n:Nat)] w (ad0 w (if countB n=true then Ch (List.replicate n eR) else D4) (if countB n=true then 0 else 1)):=by
 have HC:=aa (λW=>adV n W);have HY:=aa (aR w (.cells #[ay,.string ⟨#[]⟩] 80));have Hb:=aa (be w (.cells #[ay,.string ⟨#[]⟩] 80));have HR:=aa hR;clear hR;have b0:=aj HY 0 _ rfl;have b1:=aj HY 1 _ rfl;have f2:=aU HY 0;have f3:=aU HY 1;cases hc:countB n with
 |false=>
  rw[hc]at HC;rw[if_neg ak,if_neg ak];clear hc;go_in;go_wp2_with fail;refine (HC _).mono ?_;rintro e w1 ⟨rfl,rfl⟩;go_wp2_with fail;refine bodyPost_ret (dJ rfl _ _ w.heap.size ah _ (AI HY)) rfl ?_;exact⟨_,rfl,⟨none,0,0,rfl,⟨Rd.nil _ _,λ_ _ h=>by cases h⟩,rfl⟩,Hb⟩
 |true=>
  rw[hc]at HC;rw[if_pos rfl,if_pos rfl];have eT:=yh hc;have QU:=aa (show lE (List.replicate n eR).length=true by rw[sd];exact J7 hc);obtain⟨iS,jj,tH,tA,it⟩:=info_parts mx;have PA:n<=64:=eT.2;clear hc b0 b1 f2 f3 eT;go_in;go_wp2_with fail;refine (HC _).mono ?_;rintro e w1 ⟨rfl,rfl⟩;go_wp2_with (refine wpList_make_full _ ah (.tmp 9) (.tmp 9) 28 ah (w.heap.size+1) 9 iS (.string ⟨#[]⟩) 1 underlying28 jj tH tA .i64 .i64 _ _ n ah ah rfl rfl (by rw[it];omega) (by unfold maxLen;omega) ak ?_);intro w2 dy fE;have j6:(madeCells #[Value.string ⟨#[]⟩] n).toList=aZ (List.replicate n eR):=by
   rw[toList_madeCells_one];simp[aZ,eR]
  rw[j6]at dy;have dl:=aa dy;have qs:=aa (Hb.grown fE ak (λk e=>by cases e));have VR:=aa ((fE.block w.heap.size ak ak).trans HY);clear dy fE j6;have al:=be w2 (.cells #[.slice (some ⟨w.heap.size+1,0,none⟩) n n,.string ⟨#[]⟩] 180);have Lr:=aa (adZ w2.heap.size (some ⟨w.heap.size+1,0,none⟩) n n (List.replicate n eR) ⟨#[]⟩ (w.heap.size+1) _ (aR w2 (.cells #[.slice (some ⟨w.heap.size+1,0,none⟩) n n,.string ⟨#[]⟩] 180)) ((gz dl).below al) ak QU (λs hs=>by rw[(List.mem_replicate.1 hs).2];exact Nat.zero_le _) (HR.below (ju qs al)) (by have:=bf VR.out;omega));have HY3:=aa (aJ VR al);have nO:=aX qs al;have iU:=bf VR.out;clear al;go_wp2_with fail;refine (Lr).mono ?_;rintro e w4 ⟨rfl,aP,jZ⟩;have E7:=aa ((aP.block w.heap.size ae).trans HY3);have b0:=aj E7 0 _ rfl;have b1:=aj E7 1 _ rfl;have f2:=aU E7 0;have f3:=aU E7 1;have qg:=aa (nO.trans (aP.mono ae));have Rd4:=aa (show Rd w4 (some ⟨w.heap.size+1,0,none⟩) (aZ (List.replicate n eR)) from Ue (gz dl) λb o e aK=>by
   injection e with e
   injection e with e1 e2
   subst e1;exact (jZ _ (by simp;omega) ae).trans (Below.heap_alloc _ _ _ aK))
  clear aP jZ;go_wp2_with fail;refine bodyPost_ret (dJ rfl _ _ w.heap.size ah _ (AI (El E7 _ _))) rfl ?_;exact⟨_,rfl,⟨_,_,_,rfl,⟨tj (tj Rd4 (λb o e=>by injection e with e;injection e with e1 e2;omega) _) (λb o e=>by injection e with e;injection e with e1 e2;omega) _,(λb o e=>by injection e with e;injection e with e1 e2;omega)⟩,by simp[Ch]⟩,(qg.setCell (p:=⟨w.heap.size,0,none⟩) (aM _) _).setCell (p:=⟨w.heap.size,1,none⟩) (aM _) _⟩
theorem auL (w:World) (a b:Value):((w.alloc (.cells #[a,b] 80)).alloc (.cells #[a,b] 180)).heap[w.heap.size]?=some (.cells #[a,b] 80 (0,0))/\((w.alloc (.cells #[a,b] 80)).alloc (.cells #[a,b] 180)).heap[w.heap.size+1]?=some (.cells #[a,b] 180 (0,0))/\aD w ((w.alloc (.cells #[a,b] 80)).alloc (.cells #[a,b] 180)):=by
 have h2:=aR (w.alloc (.cells #[a,b] 80)) (.cells #[a,b] 180);rw[World.size_alloc]at h2;exact⟨(Below.heap_alloc _ _ _ ak).trans (aR w _),h2,((aI _ _).alloc (aM _) _).alloc ak _⟩
theorem ahf (h:P:=by
 rw[if_neg (by rw[hz];simp),Int.toNat_natCast,dh,cL cY];rfl):P:=h
theorem auM (v:Value) (V:dW) (key:ag) (i:Int) (w:World) (hv:VV w v V) (hk:key.size<=maxLen) (hR:cX w) (hT:iy w):
  Calls prog 59 #[v,.string key,.int .i64 i] w (bF w (.tuple #[.string (un V key i),.int .i64 (um V key i:Nat)])):=by
 obtain⟨A,n,c,rfl,hr,hn⟩:=hv;obtain⟨k1,k2,k3⟩:=auL w (.slice A n c) (.string V.rt);have HH:=aa (λW h=>adX (w.heap.size+1) A n c V i W h hn);have HF:=aa (λW h1 h2 h3=>adY (w.heap.size+1) A n c V (pT V i) W h1 h2 hn h3);have ev:=aa hr;have HN:=aa hn;have HR:=aa hR;have HT:=aa hT;have HX:=aa k1;have HY:=aa k2;have Hb:=aa k3;have x0:=aj k1 0 _ rfl;have x1:=aj k1 1 _ rfl;obtain⟨W1,yW⟩: ∃W1,W1=(w.alloc (.cells #[.slice A n c,.string V.rt] 80)).alloc (.cells #[.slice A n c,.string V.rt] 180):=⟨_,rfl⟩
 have fR:=aa yW;have a0:=aj (aR w (.cells #[.slice A n c,.string V.rt] 80)) 0 _ rfl;have a1:=aj (aR w (.cells #[.slice A n c,.string V.rt] 80)) 1 _ rfl;rw[<-yW]at k1 k2 k3 HX HY Hb x0 x1;clear hr hn hR hT k1 k2 k3 yW;obtain⟨fe,lq⟩: ∃fe,fe=mG V (pT V i):=⟨_,rfl⟩
 rw[<-lq]at HF;by_cases h0:fe=0
 ·have hz:mG V (pT V i)=0:=by rw[<-lq];exact h0
  obtain⟨c1,c2,c3⟩:=TE hz;obtain⟨p1,p2,p3⟩:=D5 c1;have hi:=c2;unfold pT at hi;simp only[Bool.and_eq_true,decide_eq_true_eq]at hi;obtain⟨k,rfl⟩:=Int.eq_ofNat_of_zero_le hi.1;have cY:k<V.bl.length:=ae;have CE:(k:Int)<(n:Int):=by rw[HN.out];exact hi.2
  have hE:um V key (k:Int)=pk key (k:Int) V.bl[k]:=by
   unfold um;exact ahf
  have hS:un V key (k:Int)=pm key (k:Int) V.bl[k]:=by
   unfold un;exact ahf
  rw[hE,hS];obtain⟨bA,oA,bG,-⟩:=kG ev cY;subst bG;have Hc:=aa (show∀W,aD w W->W.cell? ⟨bA,oA+k,none⟩=some (.string V.bl[k]) from λW h=>by
   obtain⟨b',o',e,hc⟩:=kG (ev.below h) cY;injection e with e
   injection e with e1 e2
   subst e1 e2;exact hc)
  have z1:=p3 _ (dY cY);have IR:=aa (λW h=>auF key (k:Int) V.bl[k] W h hk (bD z1 au));generalize V.bl[k]=st at Hc IR⊢;have d2:(((0:Nat):Int) !=0)=false:=rfl;subst h0;clear hz c1 c2 c3 p1 p2 p3 hi hE hS z1 lq hk cY;generalize pk key (k:Int) st=se at IR⊢;generalize pm key (k:Int) st=ss at IR⊢;go_in;go_wp2_with fail;rw[<-fR.out];refine (HH _ HY).mono ?_;rintro e w2 ⟨rfl,rfl⟩;go_wp2_with fail;refine (HF _ HY (ev.below Hb) (HR.below Hb)).mono ?_;rintro e w3 ⟨rfl,aL⟩;have y0:=aj (aJ HY aL) 0 _ rfl;have nO:=aX Hb aL;have hc:=Hc.out _ nO.out;clear aL x0 x1 a0 a1;go_wp2_with fail;refine (IR _ (HT.below nO)).mono ?_;rintro e w4 ⟨rfl,aP⟩;go_wp2;go_ret2;exact⟨rfl,ju nO aP⟩
 ·have hE:um V key i=fe:=by unfold um;rw[if_pos (by rw[<-lq];exact h0),lq]
  have hS:un V key i=eR:=by unfold un;rw[if_pos (by rw[<-lq];exact h0)]
  rw[hE,hS];have d2:((fe:Int) !=0)=true:=by simp;omega
  clear hE hS h0 lq hk;go_in;go_wp2_with fail;rw[<-fR.out];refine (HH _ HY).mono ?_;rintro e w2 ⟨rfl,rfl⟩;go_wp2_with fail;refine (HF _ HY (ev.below Hb) (HR.below Hb)).mono ?_;rintro e w3 ⟨rfl,aL⟩;have nO:=aX Hb aL;clear aL x0 x1 a0 a1;go_wp2;go_ret2;exact⟨rfl,nO⟩
theorem auN (w:World) (a b z0 z1:Value):(((w.alloc (.cells #[a,b] 80)).alloc (.cells #[z0,z1] 80)).alloc (.cells #[a,b] 180)).heap[w.heap.size]?=some (.cells #[a,b] 80 (0,0))/\
  (((w.alloc (.cells #[a,b] 80)).alloc (.cells #[z0,z1] 80)).alloc (.cells #[a,b] 180)).heap[w.heap.size+1]?=some (.cells #[z0,z1] 80 (0,0))/\
  (((w.alloc (.cells #[a,b] 80)).alloc (.cells #[z0,z1] 80)).alloc (.cells #[a,b] 180)).heap[w.heap.size+1+1]?=some (.cells #[a,b] 180 (0,0))/\
  aD w (((w.alloc (.cells #[a,b] 80)).alloc (.cells #[z0,z1] 80)).alloc (.cells #[a,b] 180)):=by
 have h2:=aR (w.alloc (.cells #[a,b] 80)) (.cells #[z0,z1] 80);have h3:=aR ((w.alloc (.cells #[a,b] 80)).alloc (.cells #[z0,z1] 80)) (.cells #[a,b] 180);simp only[World.size_alloc]at h2 h3;refine⟨(Below.heap_alloc _ _ _ (by simp;omega)).trans ((Below.heap_alloc _ _ _ ak).trans (aR w _)),(Below.heap_alloc _ _ _ ak).trans h2,h3,(((aI _ _).alloc (aM _) _).alloc ak _).alloc (by simp;omega) _⟩
theorem auO {gA:Nat} {m:Nat} (h:W.ownsRow B 9 1 (.slice (aw gA) n ai) m xs) {cs:bx} (hg:bj W g cs 180):gA≠g:=by
 intro e;rcases h.2 with⟨hv,_⟩|⟨g',ja,bK,hv,hB,kF,_⟩
 ·cases hv
 ·injection hv with hv
  injection hv with hv
  injection hv with e1
  subst e1 e;rw[hg]at kF;injection kF with kF
  injection kF with _ h2 _
  cases h2
theorem auP (v:Value) (V:dW) (key nonce:ag) (i:Int) (s:ag) (w:World) (hv:VV w v V) (hk:key.size<=maxLen) (ho:nonce.size<=maxLen) (hs:s.size<=maxLen) (hR:cX w) (hT:iy w):
  Calls prog 61 #[v,.string key,.string nonce,.int .i64 i,.string s] w (ad0 w (uo V key nonce i s) (sY V key nonce i s)):=by
 obtain⟨A,n,c,rfl,hr,hn⟩:=hv;obtain⟨k1,k2,k3,k4⟩:=auN w (.slice A n c) (.string V.rt) (ay) (.string ⟨#[]⟩);have HH:=aa (λW h=>adX (w.heap.size+1+1) A n c V i W h hn);have HF:=aa (λW h1 h2 h3=>adY (w.heap.size+1+1) A n c V (pT V i) W h1 h2 hn h3);have uS:=aa (λW h=>auE key nonce i s W h hk ho hs);have ev:=aa hr;have HN:=aa hn;have HR:=aa hR;have HT:=aa hT;obtain⟨W1,yW⟩: ∃W1,W1=((w.alloc (.cells #[.slice A n c,.string V.rt] 80)).alloc (.cells #[ay,.string ⟨#[]⟩] 80)).alloc (.cells #[.slice A n c,.string V.rt] 180):=⟨_,rfl⟩
 have fR:=aa yW;have p0:=(Below.heap_alloc (w.alloc (.cells #[.slice A n c,.string V.rt] 80)) (.cells #[ay,.string ⟨#[]⟩] 80) w.heap.size ak).trans (aR w (.cells #[.slice A n c,.string V.rt] 80));have a0:=aj p0 0 _ rfl;have a1:=aj p0 1 _ rfl;rw[<-yW]at k1 k2 k3 k4;have HX:=aa k1;have HZ:=aa k2;have HY:=aa k3;have Hb:=aa k4;clear hr hn hR hT k1 k2 k3 k4 yW p0;obtain⟨fe,lq⟩: ∃fe,fe=mG V (pT V i):=⟨_,rfl⟩
 rw[<-lq]at HF;by_cases h0:fe=0;case neg=>
  have hE:sY V key nonce i s=fe:=by unfold sY;rw[if_pos (by rw[<-lq];exact h0),lq]
  have hS:uo V key nonce i s=D4:=by unfold uo;rw[if_neg (by rw[hE];exact h0)]
  rw[hE,hS];have d2:((fe:Int) !=0)=true:=by simp;omega
  clear hE hS h0 lq hk ho hs;go_in;go_wp2_with fail;rw[<-fR.out];refine (HH _ HY).mono ?_;rintro e w2 ⟨rfl,rfl⟩;go_wp2_with fail;refine (HF _ HY (ev.below Hb) (HR.below Hb)).mono ?_;rintro e w3 ⟨rfl,aL⟩;have wQ:=aa (aJ HZ aL);have nO:=aX Hb aL;have b0:=aj wQ 0 _ rfl;have b1:=aj wQ 1 _ rfl;have f0:=aU wQ 0;have f1:=aU wQ 1;clear aL a0 a1;go_wp2_with fail;refine bodyPost_ret (dJ rfl _ _ (w.heap.size+1) ah _ (AI (El wQ _ _))) rfl ?_;exact⟨_,rfl,⟨none,0,0,rfl,⟨Rd.nil _ _,λ_ _ h=>by cases h⟩,rfl⟩,(nO.setCell (p:=⟨w.heap.size+1,0,none⟩) (by dsimp only;omega) _).setCell (p:=⟨w.heap.size+1,1,none⟩) (by dsimp only;omega) _⟩
 have hz:mG V (pT V i)=0:=by rw[<-lq];exact h0
 have hE:sY V key nonce i s=pj key nonce i s:=by unfold sY;rw[if_neg (by rw[hz];simp)]
 have d2:(((0:Nat):Int) !=0)=false:=rfl;subst h0;by_cases hh:pj key nonce i s=0;case neg=>
  have hS:uo V key nonce i s=D4:=by unfold uo;rw[if_neg (by rw[hE];exact hh)]
  rw[hE,hS];generalize pj key nonce i s=he at uS hh⊢;generalize lF key nonce i s=st at uS;have d3:((he:Int) !=0)=true:=by simp;omega
  clear hE hS hh lq hz hk ho hs;go_in;go_wp2_with fail;rw[<-fR.out];refine (HH _ HY).mono ?_;rintro e w2 ⟨rfl,rfl⟩;go_wp2_with fail;refine (HF _ HY (ev.below Hb) (HR.below Hb)).mono ?_;rintro e w3 ⟨rfl,aL⟩;have wQ:=aa (aJ HZ aL);have nO:=aX Hb aL;clear aL a0 a1;go_wp2_with fail;refine (uS _ (HT.below nO)).mono ?_;rintro e w4 ⟨rfl,aP⟩;have xr:=aa (aJ wQ aP);have qg:=aX nO aP;have b0:=aj xr 0 _ rfl;have b1:=aj xr 1 _ rfl;have f0:=aU xr 0;have f1:=aU xr 1;clear aP;go_wp2_with fail;refine bodyPost_ret (dJ rfl _ _ (w.heap.size+1) ah _ (AI (El xr _ _))) rfl ?_;exact⟨_,rfl,⟨none,0,0,rfl,⟨Rd.nil _ _,λ_ _ h=>by cases h⟩,rfl⟩,(qg.setCell (p:=⟨w.heap.size+1,0,none⟩) (by dsimp only;omega) _).setCell (p:=⟨w.heap.size+1,1,none⟩) (by dsimp only;omega) _⟩
 obtain⟨c1,c2,c3⟩:=TE hz;obtain⟨p1,p2,p3⟩:=D5 c1;have hi:=c2;unfold pT at hi;simp only[Bool.and_eq_true,decide_eq_true_eq]at hi;obtain⟨k,rfl⟩:=Int.eq_ofNat_of_zero_le hi.1;have cY:k<V.bl.length:=ae;have CE:(k:Int)<(n:Int):=by rw[HN.out];exact hi.2
 have aB4:k<n:=ae;have PA:n<=64:=by rw[HN.out];exact (yh p1).2
 have hS:uo V key nonce (k:Int) s=Ch (V.bl.set k (lF key nonce (k:Int) s)):=by unfold uo;rw[if_pos (by rw[hE];exact hh),Int.toNat_natCast]
 have mP:=(acR hh).2.2;rw[hE,hS,hh];rw[hh]at uS;generalize lF key nonce (k:Int) s=st at uS mP⊢;have QU:=aa (show lE (V.bl.set k st).length=true by rw[List.length_set];exact J7 p1);have db:=aa (show∀x∈V.bl.set k st,x.size<=1000 from λx hx=>by
  rcases List.mem_or_eq_of_mem_set hx with hx|rfl
  ·have:=p3 x hx;omega
  ·omega)
 obtain⟨bl,rt⟩:=V;simp only at HH HF ev HN HX HY fR a0 a1 QU db cY⊢;clear hE hS hh lq hz hk ho hs c1 c2 c3 p1 p2 p3 hi mP;go_in;go_wp2_with fail;rw[<-fR.out];refine (HH _ HY).mono ?_;rintro e w2 ⟨rfl,rfl⟩;go_wp2_with fail;refine (HF _ HY (ev.below Hb) (HR.below Hb)).mono ?_;rintro e w3 ⟨rfl,aL⟩;have wQ:=aa (aJ HZ aL);have jb:=aa (aJ HX aL);have nO:=aX Hb aL;clear aL a0 a1;go_wp2_with fail;refine (uS _ (HT.below nO)).mono ?_;rintro e w4 ⟨rfl,aP⟩;have xr:=aa (aJ wQ aP);have nF:=aa (aJ jb aP);have qg:=aX nO aP;have x0:=aj nF 0 _ rfl;have x1:=aj nF 1 _ rfl;clear aP;go_wp2_with fail;refine (auI A n c bl rt w4 (ev.below qg) HN ae).mono ?_;rintro e w5 ⟨g,A',ai,rfl,hg,XK,lN,aY⟩;obtain⟨gA,rfl,zr,aK,⟨u0,qz⟩,VG,di⟩:=auJ lN aB4 HN.out;have aO:=auO lN hg;have Lh:=aa (aJ xr aY);have Hb5:=aX qg aY;have HG:=aa hg;have y0:=aj hg 0 _ rfl;have ak5:=aa (di st);have hz4:=bf xr.out;have fS:=bf Lh.out;clear hg lN aY di x0 x1;have zI:=aa ((bz w5 ⟨gA,k,none⟩ (.string st) g (by dsimp only;omega)).trans HG);have Ra:=aa ((bz w5 ⟨gA,k,none⟩ (.string st) (w.heap.size+1) (by dsimp only;omega)).trans Lh);have Hb6:=aa (Hb5.setCell (p:=⟨gA,k,none⟩) (by dsimp only;omega) (.string st));have Lr:=aa (adZ g (aw gA) n ai (bl.set k st) rt (w.heap.size+1+1) _ zI (gz ak5) (by rw[List.length_set];exact HN.out) QU db (HR.below Hb6) ae);go_wp2_with fail;refine (Lr).mono ?_;rintro e w7 ⟨rfl,cJ,I7⟩;have Ll:=aa ((cJ.block (w.heap.size+1) ae).trans Ra);have Xb:=aa (Hb6.trans (cJ.mono ae));have Rd7:=aa (show Rd w7 (aw gA) (aZ (bl.set k st)) from Ue (gz ak5) λb o e PQ=>by
  injection e with e
  injection e with e1 e2
  subst e1;exact I7 _ PQ aO)
 have b0:=aj Ll 0 _ rfl;have b1:=aj Ll 1 _ rfl;have f0:=aU Ll 0;have f1:=aU Ll 1;clear cJ I7;go_wp2_with fail;refine bodyPost_ret (dJ rfl _ _ (w.heap.size+1) ah _ (AI (El Ll _ _))) rfl ?_;exact⟨_,rfl,⟨_,_,_,rfl,⟨tj (tj Rd7 (λb o e=>by injection e with e;injection e with e1 e2;omega) _) (λb o e=>by injection e with e;injection e with e1 e2;omega) _,(λb o e=>by injection e with e;injection e with e1 e2;omega)⟩,by show n=(bl.set k st).length;rw[List.length_set];exact HN.out⟩,(Xb.setCell (p:=⟨w.heap.size+1,0,none⟩) (by dsimp only;omega) _).setCell (p:=⟨w.heap.size+1,1,none⟩) (by dsimp only;omega) _⟩
end Go.Proofs.YtaglcaocpcbiiaaGreatDoor
