import Derived.Test.YtaglcaocpcbiiaaGreatDoorX01
import Derived.Deep.CutRange
import Derived.Deep.LoopGhost
import Derived.Lib.JoinLaws
import Derived.Shelf.Strings.Repeat
import Derived.Shelf.Strings.Replace
import Derived.Shelf.Small.Strs
import Derived.Shelf.Strings.BuilderK
import Derived.Shelf.Strconv.Itoa1
import Derived.Test.YtaglcaocpcbiiaaGreatDoorCards
import Derived.Test.YtaglcaocpcbiiaaGreatDoorTie
import Derived.Shelf.Vars
import Derived.ProofKit
import Derived.OpenShut
import Derived.Deep.DeepHandedRow
import Derived.Lib.LaidTab
set_option linter.unusedVariables false
set_option linter.unusedSimpArgs false
set_option maxRecDepth 100000
set_option maxHeartbeats 3000000
namespace Go.Proofs.YtaglcaocpcbiiaaGreatDoor
open Go.Proofs.Tryz Go.RowKit
section
open Go.Shelf
variable {A:aN} {P:Prop} {W X Y w:World} {a e u y z:Value} {b g i k x:Nat} {key:aF} {m n xs:List Nat} {p q r s:Addr} {row:Option Nat} {t:TypeId}
section
def jN (n:List Nat):Nat:=n.getD 0 0+n.getD 1 0*67108864+n.getD 2 0*4503599627370496+n.getD 3 0*302231454903657293676544+n.getD 4 0*20282409603651670423947251286016
def oW:Nat:=1361129467683753853853498429727072845819
def F3:List Nat:= [0,0,0,0,0]
def aoi (n:List Nat) (B:Nat->Nat):Prop:= ∀j,n.getD j 0<=B j
theorem DK (l:List Nat) (i j x:Nat) (h:i<l.length):(l.set i x).getD j 0=if j=i then x else l.getD j 0:=by
 simp only[dh,List.getElem?_set];by_cases e:i=j
 ·subst e;simp[h]
 ·rw[if_neg e,if_neg (Ne.symm e)]
def i7 (l:List Nat):Nat->List Nat
 |0=>F3
 |k+1=>
  let n:=i7 l k
  let x:=l.getD k 0*2^(8*k % 26)
  let m:=n.set (8*k / 26) (n.getD (8*k / 26) 0+x % 67108864)
  if 8*k / 26<4 then m.set (8*k / 26+1) (m.getD (8*k / 26+1) 0+x / 67108864) else m
theorem xL (l:List Nat): ∀k,(i7 l k).length=5
 |0=>rfl
 |k+1=>by
  unfold i7;simp only;split<;>simp[xL l k]
def Jw:Nat->Nat->Nat
 |0,_=>0
 |k+1,j=>Jw k j+(if j=8*k / 26 then 67108864 else 0)+(if j=8*k / 26+1 then 64 else 0)
theorem Sa: ∀k,k<=17-> ∀j,j<5->Jw k j<=268435712:=by
 intro k hk j hj;have h:((List.range 18).all λk=>(List.range 5).all λj=>decide (Jw k j<=268435712))=true:=bU;have h1:=List.all_eq_true.1 h k (by simp;omega);have h2:=List.all_eq_true.1 h1 j (by simpa using hj);simpa using h2
theorem aaV (h:x<=255):x*2^(8*k % 26)<4294967296:=by
 have h1:8*k % 26<=24:=ae;have h2:2^(8*k % 26)<=2^24:=Nat.pow_le_pow_right ae h1;have h3:=Nat.mul_le_mul h h2;omega
theorem aho (h:P:=by
 by_cases e2:j=q
 ·subst e2;rw[if_pos rfl,if_pos rfl];omega
 ·rw[if_neg e2,if_neg e2];omega):P:=h
theorem Sb {l:List Nat} (hl: ∀x∈l,x<=255): ∀k,k<=17->aoi (i7 l k) (Jw k)
 |0,_=>λj=>by
  show F3.getD j 0<=0;match j with
  |0|1|2|3|4=>exact aM _
  |j+5=>simp[F3]
 |k+1,hk=>λj=>by
  have ih:=Sb hl k ae;have hx:l.getD k 0<=255:=by
   rcases mg k l.length with h|h
   ·rw[dh,cL h];exact hl _ (dY h)
   ·rw[dh,Cx h];exact Nat.zero_le _
  have Bg:=aaV (k:=k) hx;have h5:=xL l k;have hq:8*k / 26<5:=ae;unfold i7 Jw;simp only;generalize l.getD k 0*2^(8*k % 26)=x at Bg;generalize 8*k / 26=q at hq;have i1:=ih j;have i2:=ih q;have i3:=ih (q+1);have m1:x % 67108864<67108864:=Nat.mod_lt _ ae;have m2:x / 67108864<64:=ae;split
  ·rw[DK _ _ _ _ (by simp[h5];omega),DK _ _ _ _ ae,DK _ _ _ _ ae];by_cases e1:j=q+1
   ·subst e1;rw[if_pos rfl,if_neg ae,if_neg ae,if_pos rfl];omega
   ·rw[if_neg e1,if_neg e1];exact aho
  ·rw[DK _ _ _ _ ae];exact aho
def pM (n m:List Nat):Nat->List Nat
 |0=>n
 |k+1=>(pM n m k).set k ((pM n m k).getD k 0+m.getD k 0)
theorem Jy (n m:List Nat): ∀k,(pM n m k).length=n.length
 |0=>rfl
 |k+1=>by rw[pM,List.length_set,Jy n m k]
theorem Sc (n m:List Nat) (hn:n.length=5): ∀k,k<=5-> ∀j,(pM n m k).getD j 0=if j<k then n.getD j 0+m.getD j 0 else n.getD j 0
 |0,_,j=>by simp[pM]
 |k+1,hk,j=>by
  have ih:=Sc n m hn k ae;rw[pM,DK _ _ _ _ (by rw[Jy,hn];omega)];by_cases e:j=k
  ·subst e;rw[if_pos rfl,if_pos ae,ih j,if_neg ae]
  ·rw[if_neg e,ih j];by_cases h:j<k
   ·rw[if_pos h,if_pos ae]
   ·rw[if_neg h,if_neg ae]
def Sd (n m t:List Nat) (i k:Nat):List Nat:=t.set ((i+k)% 5) (t.getD ((i+k)% 5) 0+n.getD i 0*m.getD k 0*(if 5<=i+k then 5 else 1))
def rK (n m t:List Nat) (i:Nat):Nat->List Nat
 |0=>t
 |k+1=>Sd n m (rK n m t i k) i k
def nU (n m:List Nat):Nat->List Nat
 |0=>F3
 |i+1=>rK n m (nU n m i) i 5
theorem MR (n m t:List Nat) (i:Nat): ∀k,(rK n m t i k).length=t.length
 |0=>rfl
 |k+1=>by rw[rK,Sd,List.length_set,MR n m t i k]
theorem F4 (n m:List Nat): ∀i,(nU n m i).length=5
 |0=>rfl
 |i+1=>by rw[nU,MR,F4 n m i]
def F5 (c:Nat->Nat) (i:Nat):Nat->Nat->Nat
 |0,j=>c j
 |k+1,j=>F5 c i k j+if j=(i+k)% 5 then 1 else 0
theorem Se {n m t:List Nat} {c:Nat->Nat} {M:Nat} (ht:t.length=5) (hM: ∀i k,n.getD i 0*m.getD k 0<=M) (i:Nat) (hc: ∀j,t.getD j 0<=c j*(5*M)): ∀k j,(rK n m t i k).getD j 0<=F5 c i k j*(5*M)
 |0,j=>hc j
 |k+1,j=>by
  have ih:=Se ht hM i hc k;have hq:(i+k)% 5<5:=Nat.mod_lt _ ae;rw[rK,Sd,DK _ _ _ _ (by rw[MR,ht];exact hq),F5];by_cases e:j=(i+k)% 5
  ·rw[if_pos e,if_pos e,<-e];have h1:=hM i k;have h2:=ih j;have h3:n.getD i 0*m.getD k 0*(if 5<=i+k then 5 else 1)<=5*M:=by
    split
    ·omega
    ·omega
   rw[Nat.add_mul,Nat.one_mul];omega
  ·rw[if_neg e,if_neg e];exact ih j
def MS:Nat->Nat->Nat
 |0,_=>0
 |i+1,j=>F5 (MS i) i 5 j
theorem Sf {n m:List Nat} {M:Nat} (hM: ∀i k,n.getD i 0*m.getD k 0<=M): ∀i j,(nU n m i).getD j 0<=MS i j*(5*M)
 |0,j=>by
  show F3.getD j 0<=_;match j with
  |0|1|2|3|4=>exact Nat.zero_le _
  |j+5=>simp[F3]
 |i+1,j=>Se (F4 n m i) hM i (Sf hM i) 5 j
theorem aaW: ∀i,i<5-> ∀k,k<=5-> ∀j,j<5->F5 (MS i) i k j<=5:=by
 intro i hi k hk j hj;have h:((List.range 5).all λi=>(List.range 6).all λk=>(List.range 5).all λj=>decide (F5 (MS i) i k j<=5))=true:=bU;have h0:=List.all_eq_true.1 h i (by simpa using hi);have h1:=List.all_eq_true.1 h0 k (by simp;omega);have h2:=List.all_eq_true.1 h1 j (by simpa using hj);simpa using h2
def eI (n:List Nat):Nat->Nat×List Nat
 |0=>(0,n)
 |k+1=>(((eI n k).2.getD k 0+(eI n k).1)/ 67108864,(eI n k).2.set k (((eI n k).2.getD k 0+(eI n k).1)% 67108864))
def oY (n:List Nat):List Nat:=(eI n 5).2.set 0 ((eI n 5).2.getD 0 0+5*(eI n 5).1)
theorem oZ (h:n.length=5): ∃a b c d e,n= [a,b,c,d,e]:=by
 match n,h with
 | [a,b,c,d,e],_=>exact⟨a,b,c,d,e,rfl⟩
theorem MT (n:List Nat): ∀k,(eI n k).2.length=n.length
 |0=>rfl
 |k+1=>by rw[eI];simp[MT n k]
theorem aoj (n:List Nat):(oY n).length=n.length:=by rw[oY,List.length_set,MT]
theorem Sg (h:n.length=5):jN n+5*(eI n 5).1=jN (oY n)+(eI n 5).1*1361129467683753853853498429727072845824:=by
 obtain⟨a,b,c,d,e,rfl⟩:=oZ h;simp only[oY,eI,jN,List.getD_cons_zero,List.getD_cons_succ,List.set_cons_zero,List.set_cons_succ];omega
theorem aaX (h:n.length=5):(oY n).getD 0 0<67108864+5*(eI n 5).1/\(oY n).getD 1 0<67108864/\(oY n).getD 2 0<67108864/\(oY n).getD 3 0<67108864/\(oY n).getD 4 0<67108864:=by
 obtain⟨a,b,c,d,e,rfl⟩:=oZ h;simp only[oY,eI,List.getD_cons_zero,List.getD_cons_succ,List.set_cons_zero,List.set_cons_succ];omega
def pa (n:List Nat):Prop:=n.getD 0 0<=4611686018427387904/\n.getD 1 0<=4611686018427387904/\n.getD 2 0<=4611686018427387904/\n.getD 3 0<=4611686018427387904/\n.getD 4 0<=4611686018427387904
theorem aaY (h:n.length=5) (hf:pa n): ∀k,k<=5->(eI n k).1<=137438953472/\pa (eI n k).2:=by
 obtain⟨a,b,c,d,e,rfl⟩:=oZ h;simp only[pa,List.getD_cons_zero,List.getD_cons_succ]at hf;intro k hk;match k,hk with
 |0,_=>simp only[eI,pa,List.getD_cons_zero,List.getD_cons_succ];omega
 |1,_=>simp only[eI,pa,List.getD_cons_zero,List.getD_cons_succ,List.set_cons_zero,List.set_cons_succ];omega
 |2,_=>simp only[eI,pa,List.getD_cons_zero,List.getD_cons_succ,List.set_cons_zero,List.set_cons_succ];omega
 |3,_=>simp only[eI,pa,List.getD_cons_zero,List.getD_cons_succ,List.set_cons_zero,List.set_cons_succ];omega
 |4,_=>simp only[eI,pa,List.getD_cons_zero,List.getD_cons_succ,List.set_cons_zero,List.set_cons_succ];omega
 |5,_=>simp only[eI,pa,List.getD_cons_zero,List.getD_cons_succ,List.set_cons_zero,List.set_cons_succ];omega
theorem aaZ (hf:pa n) (i:Nat) (hi:i<5):n.getD i 0<=4611686018427387904:=by
 match i,hi with
 |0,_=>exact hf.1
 |1,_=>exact hf.2.1
 |2,_=>exact hf.2.2.1
 |3,_=>exact hf.2.2.2.1
 |4,_=>exact hf.2.2.2.2
theorem aok (h:n.length=5) (hf:pa n):pa (oY n):=by
 have h1:=aaX h;have h2:=(aaY h hf 5 ae).1;unfold pa;omega
theorem aol (h:n.length=5) (ho:(eI n 5).1≠0):jN (oY n)<jN n:=by
 have:=Sg h;omega
theorem aom (h:n.length=5):jN (oY n)% oW=jN n % oW:=by
 have e:=Sg h;have e2:jN n=jN (oY n)+oW*(eI n 5).1:=by unfold oW;omega
 rw[e2,Nat.add_mul_mod_self_left]
def F6 (v:Nat):List Nat:= [v % 67108864,v / 67108864 % 67108864,v / 4503599627370496 % 67108864,v / 302231454903657293676544 % 67108864,v / 20282409603651670423947251286016 % 67108864]
def sL (n:List Nat):Prop:=n.getD 0 0<67108864/\n.getD 1 0<67108864/\n.getD 2 0<67108864/\n.getD 3 0<67108864/\n.getD 4 0<67108864
theorem aon (h:n.length=5) (hl:sL n):F6 (jN n)=n/\jN n<1361129467683753853853498429727072845824:=by
 obtain⟨a,b,c,d,e,rfl⟩:=oZ h;simp only[sL,List.getD_cons_zero,List.getD_cons_succ]at hl;simp only[F6,jN,List.getD_cons_zero,List.getD_cons_succ,List.cons.injEq,and_true];omega
def vz (n:List Nat):Bool:=decide (67108859<=n.getD 0 0)&&(n.getD 1 0==67108863)&&(n.getD 2 0==67108863)&&(n.getD 3 0==67108863)&&(n.getD 4 0==67108863)
theorem aoo (h:n.length=5) (hl:sL n):vz n=decide (oW<=jN n):=by
 obtain⟨a,b,c,d,e,rfl⟩:=oZ h;simp only[sL,List.getD_cons_zero,List.getD_cons_succ]at hl;rw[Bool.eq_iff_iff];simp only[vz,oW,jN,List.getD_cons_zero,List.getD_cons_succ,Bool.and_eq_true,decide_eq_true_eq,beq_iff_eq];constructor
 ·intro h;omega
 ·intro h;omega
def qG (n:List Nat):List Nat:=F6 (jN n % oW)
theorem aop (h:n.length=5) (hl:sL n) (ht:vz n=true): [n.getD 0 0 - 67108859,0,0,0,0]=qG n:=by
 obtain⟨a,b,c,d,e,rfl⟩:=oZ h;simp only[sL,List.getD_cons_zero,List.getD_cons_succ]at hl;simp only[vz,List.getD_cons_zero,List.getD_cons_succ,Bool.and_eq_true,decide_eq_true_eq,beq_iff_eq]at ht;have hv:jN [a,b,c,d,e]% oW=a - 67108859:=by
  simp only[oW,jN,List.getD_cons_zero,List.getD_cons_succ];omega
 rw[qG,hv];simp only[F6,List.getD_cons_zero,List.cons.injEq,and_true];omega
theorem aoq (h:n.length=5) (hl:sL n) (ht:vz n=false):n=qG n:=by
 have h1:=(aon h hl).1;rw[aoo h hl]at ht;have h2:jN n<oW:=by simpa using ht
 rw[qG,Nat.mod_eq_of_lt h2,h1]
def eJ (n:List Nat) (i:Nat):Nat:=(if 8*i / 26<4 then n.getD (8*i / 26) 0 / 2^(8*i % 26)|||n.getD (8*i / 26+1) 0*2^(26 - 8*i % 26) else n.getD (8*i / 26) 0 / 2^(8*i % 26))% 256
def sM (n:List Nat):List Nat:=(List.range 17).map (eJ n)
theorem aor (n:List Nat):(sM n).length=17:=by simp[sM]
theorem Sh (n:List Nat) (i:Nat) (h:i<17):(sM n).getD i 0=eJ n i:=by simp[sM,h]
theorem aa0 (n:List Nat) (i:Nat):eJ n i<=255:=by
 have:eJ n i<256:=Nat.mod_lt _ ae;omega
theorem aos (n:List Nat): ∀x∈sM n,x<=255:=by
 intro x hx;obtain⟨i,_,rfl⟩:=List.mem_map.1 hx;exact aa0 n i
theorem sN {s:Nat} (y:Nat) (h:x<2^s):x|||y*2^s=x+y*2^s:=by
 have:=Nat.two_pow_add_eq_or_of_lt h y;rw[Nat.or_comm,Nat.mul_comm y,<-this,Nat.add_comm]
def vA (l:List Nat):Prop:=l.length=17/\(∀x∈l,x<=255)/\(l.getD 16 0<3\/l.getD 16 0=3/\((∃i,1<=i/\i<=15/\l.getD i 0<255)\/l.getD 0 0<251))
theorem aot {a c d e:Nat} (ha:a<67108864) (hb:b<67108864) (hc:c<67108864) (hd:d<67108864) (he:e<67108864):
  eJ [a,b,c,d,e] 0=a % 256/\eJ [a,b,c,d,e] 1=a / 256 % 256/\eJ [a,b,c,d,e] 2=a / 65536 % 256/\eJ [a,b,c,d,e] 3=(a / 16777216+b*4)% 256/\
  eJ [a,b,c,d,e] 4=b / 64 % 256/\eJ [a,b,c,d,e] 5=b / 16384 % 256/\eJ [a,b,c,d,e] 6=(b / 4194304+c*16)% 256/\
  eJ [a,b,c,d,e] 7=c / 16 % 256/\eJ [a,b,c,d,e] 8=c / 4096 % 256/\eJ [a,b,c,d,e] 9=(c / 1048576+d*64)% 256/\
  eJ [a,b,c,d,e] 10=d / 4 % 256/\eJ [a,b,c,d,e] 11=d / 1024 % 256/\eJ [a,b,c,d,e] 12=d / 262144 % 256/\
  eJ [a,b,c,d,e] 13=e % 256/\eJ [a,b,c,d,e] 14=e / 256 % 256/\eJ [a,b,c,d,e] 15=e / 65536 % 256/\eJ [a,b,c,d,e] 16=e / 16777216:=by
 have o0:=sN (x:=a / 1) (s:=26) b ae;have o1:=sN (x:=a / 256) (s:=18) b ae;have o2:=sN (x:=a / 65536) (s:=10) b ae;have o3:=sN (x:=a / 16777216) (s:=2) b ae;have o4:=sN (x:=b / 64) (s:=20) c ae;have o5:=sN (x:=b / 16384) (s:=12) c ae;have o6:=sN (x:=b / 4194304) (s:=4) c ae;have o7:=sN (x:=c / 16) (s:=22) d ae;have o8:=sN (x:=c / 4096) (s:=14) d ae;have o9:=sN (x:=c / 1048576) (s:=6) d ae;have o10:=sN (x:=d / 4) (s:=24) e ae;have o11:=sN (x:=d / 1024) (s:=16) e ae;have o12:=sN (x:=d / 262144) (s:=8) e ae;have g0:eJ [a,b,c,d,e] 0=(a / 1|||b*2^26)% 256:=rfl;have g1:eJ [a,b,c,d,e] 1=(a / 256|||b*2^18)% 256:=rfl;have g2:eJ [a,b,c,d,e] 2=(a / 65536|||b*2^10)% 256:=rfl;have g3:eJ [a,b,c,d,e] 3=(a / 16777216|||b*2^2)% 256:=rfl;have g4:eJ [a,b,c,d,e] 4=(b / 64|||c*2^20)% 256:=rfl;have g5:eJ [a,b,c,d,e] 5=(b / 16384|||c*2^12)% 256:=rfl;have g6:eJ [a,b,c,d,e] 6=(b / 4194304|||c*2^4)% 256:=rfl;have g7:eJ [a,b,c,d,e] 7=(c / 16|||d*2^22)% 256:=rfl;have g8:eJ [a,b,c,d,e] 8=(c / 4096|||d*2^14)% 256:=rfl;have g9:eJ [a,b,c,d,e] 9=(c / 1048576|||d*2^6)% 256:=rfl;have EG:eJ [a,b,c,d,e] 10=(d / 4|||e*2^24)% 256:=rfl;have Vw:eJ [a,b,c,d,e] 11=(d / 1024|||e*2^16)% 256:=rfl;have Zj:eJ [a,b,c,d,e] 12=(d / 262144|||e*2^8)% 256:=rfl;have WY:eJ [a,b,c,d,e] 13=(e / 1)% 256:=rfl;have VC:eJ [a,b,c,d,e] 14=e / 256 % 256:=rfl;have W5:eJ [a,b,c,d,e] 15=e / 65536 % 256:=rfl;have PS:eJ [a,b,c,d,e] 16=e / 16777216 % 256:=rfl;rw[g0,g1,g2,g3,g4,g5,g6,g7,g8,g9,EG,Vw,Zj,WY,VC,W5,PS,o0,o1,o2,o3,o4,o5,o6,o7,o8,o9,o10,o11,o12];refine⟨?_,?_,?_,?_,?_,?_,?_,?_,?_,?_,?_,?_,?_,?_,?_,?_,?_⟩<;>omega
theorem aou (n:List Nat):vA (sM (qG n)):=by
 refine⟨aor _,aos _,?_⟩;rw[Sh _ 16 ae,Sh _ 0 ae];have hv:jN n % oW<oW:=Nat.mod_lt _ au;unfold qG;generalize jN n % oW=v at hv;have ha:v % 67108864<67108864:=Nat.mod_lt _ ae;have hb:v / 67108864 % 67108864<67108864:=Nat.mod_lt _ ae;have hc:v / 4503599627370496 % 67108864<67108864:=Nat.mod_lt _ ae;have hd:v / 302231454903657293676544 % 67108864<67108864:=Nat.mod_lt _ ae;have he:v / 20282409603651670423947251286016 % 67108864<67108864:=Nat.mod_lt _ ae;have hs:v=v % 67108864+v / 67108864 % 67108864*67108864+v / 4503599627370496 % 67108864*4503599627370496+v / 302231454903657293676544 % 67108864*302231454903657293676544+v / 20282409603651670423947251286016 % 67108864*20282409603651670423947251286016:=by
  unfold oW at hv;omega
 unfold F6;generalize v % 67108864=a at*;generalize v / 67108864 % 67108864=b at*;generalize v / 4503599627370496 % 67108864=c at*;generalize v / 302231454903657293676544 % 67108864=d at*;generalize v / 20282409603651670423947251286016 % 67108864=e at*;have hg:=λi h=>Sh [a,b,c,d,e] i h;obtain⟨g0,g1,g2,g3,g4,g5,g6,g7,g8,g9,EG,Vw,Zj,WY,VC,W5,PS⟩:=aot ha hb hc hd he;by_cases py:e / 16777216<3
 ·exact .inl (by rw[PS];exact py)
 ·refine .inr ⟨by rw[PS];omega,?_⟩;by_cases P2: ∃i,1<=i/\i<=15/\(sM [a,b,c,d,e]).getD i 0<255
  ·exact .inl P2
  ·refine .inr ?_;have hf: ∀i,1<=i->i<=15->eJ [a,b,c,d,e] i=255:=λi h1 h2=>by
    have h3:=aa0 [a,b,c,d,e] i;have h4: ¬eJ [a,b,c,d,e] i<255:=λh=>P2 ⟨i,h1,h2,by rw[hg i ae];exact h⟩;omega
   have f1:=(g1.symm.trans (hf 1 ae ae))
   have f2:=(g2.symm.trans (hf 2 ae ae))
   have f3:=(g3.symm.trans (hf 3 ae ae))
   have f4:=(g4.symm.trans (hf 4 ae ae))
   have f5:=(g5.symm.trans (hf 5 ae ae))
   have f6:=(g6.symm.trans (hf 6 ae ae))
   have f7:=(g7.symm.trans (hf 7 ae ae))
   have f8:=(g8.symm.trans (hf 8 ae ae))
   have f9:=(g9.symm.trans (hf 9 ae ae))
   have f10:=(EG.symm.trans (hf 10 ae ae))
   have f11:=(Vw.symm.trans (hf 11 ae ae))
   have f12:=(Zj.symm.trans (hf 12 ae ae))
   have f13:=(WY.symm.trans (hf 13 ae ae))
   have f14:=(VC.symm.trans (hf 14 ae ae))
   have f15:=(W5.symm.trans (hf 15 ae ae))
   rw[g0];have e1:e=67108863:=(by clear f1 f2 f3 f4 f5 f6 f7 f8 f9 f10 f11 f12 hs;omega);have d1:d=67108863/\c / 1048576=63:=(by clear f1 f2 f3 f4 f5 f6 f7 f8 f13 f14 f15 hs;omega);have c1:c=67108863/\b / 4194304=15:=(by obtain⟨_,h⟩:=d1;omega);have b1:b=67108863/\a / 16777216=3:=(by obtain⟨_,h⟩:=c1;omega);obtain⟨rfl,_⟩:=d1;obtain⟨rfl,_⟩:=c1;obtain⟨rfl,h3⟩:=b1;subst e1;unfold oW at hv;omega
def cE (xs:List Nat):List Int:=List.map (λ(n:Nat)=>(n:Int)) xs
theorem Si (xs:List Nat):(cE xs).length=xs.length:=by simp[cE]
theorem Sj (xs:List Nat) (i:Nat):(cE xs).getD i 0=((xs.getD i 0:Nat):Int):=by
 simp only[cE,dh,nA];cases xs[i]?<;>rfl
theorem aov (xs:List Nat) (i v:Nat):(cE xs).set i (v:Int)=cE (xs.set i v):=by simp[cE,List.map_set]
theorem sO (h:w.heap[g]?=some (.cells (ints (cE xs)).toArray t (0,0))) (hi:i<xs.length):
  w.cell? ⟨g,i,none⟩=some (.int .i64 ((xs.getD i 0:Nat):Int))/\w.frozen? ⟨g,i,none⟩=false:=by
 have:=ft h (i:=i) (by rw[Si];exact hi);rw[Sj]at this;exact this
theorem Ab (h:w.heap[g]?=some (.cells (ints (cE xs)).toArray t (0,0))) (i v:Nat):
  (w.setCell ⟨g,i,none⟩ (.int .i64 (v:Int))).heap[g]?=some (.cells (ints (cE (xs.set i v))).toArray t (0,0)):=by
 rw[mv h,aov]
abbrev ly (n:List Nat):Value:= .agg (ints (cE n)).toArray
theorem Ac {b c d:Value} (h:w.heap[g]?=some (.cells #[a,b,c,d,e] t (0,0))):
  (w.cell? ⟨g,0,none⟩=some a/\w.cell? ⟨g,1,none⟩=some b/\w.cell? ⟨g,2,none⟩=some c/\w.cell? ⟨g,3,none⟩=some d/\w.cell? ⟨g,4,none⟩=some e)/\ ∀i,w.frozen? ⟨g,i,none⟩=false:=by
 refine⟨⟨?_,?_,?_,?_,?_⟩,λi=>?_⟩;all_goals first|(unfold World.cell?;simp only[h];rfl)|(unfold World.frozen?;simp only[h];simp)
theorem Jz {a0 a1 a2 a3 a4:Value} (h:w.heap[g]?=some (.cells #[a0,a1,a2,a3,a4] t (0,0))) (b0 b1 b2 b3 b4:Value):
  (((((w.setCell ⟨g,0,none⟩ b0).setCell ⟨g,1,none⟩ b1).setCell ⟨g,2,none⟩ b2).setCell ⟨g,3,none⟩ b3).setCell ⟨g,4,none⟩ b4).heap[g]?=some (.cells #[b0,b1,b2,b3,b4] t (0,0)):=by
 exact ahy
theorem JA {w0:World} {B:Nat} (h:Below B w0 w) (hB:B<=g) (b0 b1 b2 b3 b4:Value):
  Below B w0 (((((w.setCell ⟨g,0,none⟩ b0).setCell ⟨g,1,none⟩ b1).setCell ⟨g,2,none⟩ b2).setCell ⟨g,3,none⟩ b3).setCell ⟨g,4,none⟩ b4):=
 ((((h.setCell hB b0).setCell hB b1).setCell hB b2).setCell hB b3).setCell hB b4
theorem JB {b c d:Value} (h:w.heap[g]?=some (.cells #[a,b,c,d,e] t (0,0))):(loadVar 352 ⟨g,0,none⟩).run prog w= .ok (.agg #[a,b,c,d,e]) w:=
 run_loadVar_mid (P:=prog) w g 0 352 [a,b,c,d,e] _ (λj v hj=>by
  rw[Nat.zero_add,cell_of_row w g j _ _ _ h];simpa using hj) underlying352 rfl ax
theorem JC {P:Program} {fn:Func} {a:Tmp} {ty:TypeId} (h:fn.results= #[.cell a ty]) (tmps:bx) (w:World) (g:Nat) (ha:tmps.getD a undef= .pointer (aw g)) (v:Value) (hl:(loadVar ty ⟨g,0,none⟩).run P w= .ok v w):(results fn tmps).run P w= .ok v w:=by
 exact OL
theorem Sk (w:World) (a b:bx) (ta tb:TypeId):((w.alloc (.cells a ta)).alloc (.cells b tb)).heap[w.heap.size]?=some (.cells a ta (0,0))/\((w.alloc (.cells a ta)).alloc (.cells b tb)).heap[w.heap.size+1]?=some (.cells b tb (0,0))/\aD w ((w.alloc (.cells a ta)).alloc (.cells b tb)):=by
 have h1:=aR (w.alloc (.cells a ta)) (.cells b tb);rw[World.size_alloc]at h1;exact⟨(Below.heap_alloc (w.alloc (.cells a ta)) (.cells b tb) w.heap.size ak).trans (aR w _),h1,((aI _ w).alloc (aM _) _).alloc ak _⟩
theorem aa1 (w:World) (a b c:bx) (ta tb tc:TypeId):(((w.alloc (.cells a ta)).alloc (.cells b tb)).alloc (.cells c tc)).heap[w.heap.size]?=some (.cells a ta (0,0))/\(((w.alloc (.cells a ta)).alloc (.cells b tb)).alloc (.cells c tc)).heap[w.heap.size+1]?=some (.cells b tb (0,0))/\(((w.alloc (.cells a ta)).alloc (.cells b tb)).alloc (.cells c tc)).heap[w.heap.size+1+1]?=some (.cells c tc (0,0))/\aD w (((w.alloc (.cells a ta)).alloc (.cells b tb)).alloc (.cells c tc)):=by
 obtain⟨h1,h2,h3⟩:=Sk w a b ta tb;have h4:=aR ((w.alloc (.cells a ta)).alloc (.cells b tb)) (.cells c tc);rw[World.size_alloc,World.size_alloc]at h4;have al:=(aI ((w.alloc (.cells a ta)).alloc (.cells b tb)).heap.size ((w.alloc (.cells a ta)).alloc (.cells b tb))).alloc (aM _) (.cells c tc);exact⟨aJ h1 al,aJ h2 al,h4,bg h3 al⟩
abbrev z5:bx:= #[.int .i64 0,.int .i64 0,.int .i64 0,.int .i64 0,.int .i64 0]
theorem aa2 (a:Nat) (h:a<9223372036854775808):bits .and .i64 (a:Int) 67108863=((a % 67108864:Nat):Int):=by
 show IntKind.i64.wrap ((BitVec.ofInt 64 (a:Int)&&&BitVec.ofInt 64 ((67108863:Nat):Int)).toNat:Int)=_;rw[BitVec.toNat_and,pI a h,pI 67108863 ae,show (67108863:Nat)=2^26 - 1 from rfl,Nat.and_two_pow_sub_one_eq_mod,IntKind.wrap_i64];omega
theorem Sm (A:aN) (n c:Nat) (l:List Nat) (w:World) (hr:Rd w A (ints (cE l))) (hn:n=l.length) (EX:l.length<=17) (hl: ∀x∈l,x<=255):
  Calls prog 303 #[.slice A n c] w (bF w (ly (i7 l l.length))):=by
 obtain⟨hX,hY,bG⟩:=Sk w z5 z5 352 352;have HR:=aa hr;have HN:=aa hn;have HL:=aa hl;have H0:=aa hX;have H1:=aa hY;have HB:=aa bG;have aEF:n<=17:=by rw[HN.out];exact EX
 go_in;go_wp2_with fail;go_loopw [9] (λx wr=> ∃k:Nat,k<=n/\x= .int .i64 (k:Nat)/\wr.heap[w.heap.size+1]?=some (.cells (ints (cE (i7 l k))).toArray 352 (0,0))/\bj wr w.heap.size z5 352/\aD w wr) (λx _=>n -(intOf x).toNat);case atStart=>exact⟨0,ae,rfl,H1,H0,HB⟩
 case round=>
  obtain⟨k,hk,rfl,fL,qv,hb⟩:=hrel;have Rg:=aa qv;have Hb:=aa hb;by_cases aK:k<n
  ·have cY:k<l.length:=by rw[<-HN.out];exact aK
   have e1:decide ((k:Int)<(n:Int))=true:=(by simp;omega);have e2:(k:Int)<(n:Int):=ae;obtain⟨bb,aS,hA,c0⟩:=(HR.below Hb).int_at (i:=k) (by rw[Si];omega);rw[Sj]at c0;subst hA;have hq:8*k / 26<5:=ae;have eT:=Sb HL k ae;have Qe:=bD (eT (8*k / 26)) (Sa k ae _ hq);obtain⟨q0,f0⟩:=sO fL (i:=8*k / 26) (by rw[xL];exact hq);have hd:l.getD k 0<=255:=by
    rw[dh,cL cY];exact HL.out _ (dY _)
   have hX:=aaV (k:=k) hd;have HS:=aa (show i7 l (k+1)=(if 8*k / 26<4 then ((i7 l k).set (8*k / 26) ((i7 l k).getD (8*k / 26) 0+l.getD k 0*2^(8*k % 26)% 67108864)).set (8*k / 26+1) (((i7 l k).set (8*k / 26) ((i7 l k).getD (8*k / 26) 0+l.getD k 0*2^(8*k % 26)% 67108864)).getD (8*k / 26+1) 0+l.getD k 0*2^(8*k % 26)/ 67108864) else (i7 l k).set (8*k / 26) ((i7 l k).getD (8*k / 26) 0+l.getD k 0*2^(8*k % 26)% 67108864)) from rfl);have hs:wrap64 (((l.getD k 0:Nat):Int)*2^(8*k % 26))=((l.getD k 0*2^(8*k % 26):Nat):Int):=by
    rw[show (((l.getD k 0:Nat):Int)*2^(8*k % 26))=((l.getD k 0*2^(8*k % 26):Nat):Int) by rw[Int.natCast_mul,Int.natCast_pow];rfl];exact IntWalk.wrap64_in _ ⟨ae,ae⟩
   generalize l.getD k 0*2^(8*k % 26)=X at hs hX HS;have hY:=aa2 X ae;have hZ:Value.int .i64 ((X:Int)/ 67108864)=Value.int .i64 ((X / 67108864:Nat):Int):=(by congr 1);have hZl:X / 67108864<64:=ae;have hYl:X % 67108864<67108864:=Nat.mod_lt _ ae;generalize X % 67108864=Y at hY hYl HS;generalize X / 67108864=Z at hZ hZl HS;by_cases AX:8*k / 26<4
   ·have e3:decide (8*(k:Int)/ 26<4)=true:=(by simp;omega);obtain⟨q1,f1⟩:=sO fL (i:=8*k / 26+1) (by rw[xL];omega);have I2:=bD (eT (8*k / 26+1)) (Sa k ae _ ae);have dg:=HS.out;rw[if_pos AX,DK _ _ _ _ (by rw[xL];exact hq),if_neg ae]at dg;have di:=Ab (Ab fL (8*k / 26) ((i7 l k).getD (8*k / 26) 0+Y)) (8*k / 26+1) ((i7 l k).getD (8*k / 26+1) 0+Z);rw[Int.natCast_add,Int.natCast_add,<-dg]at di;have cZ:=aa di;generalize (i7 l k).getD (8*k / 26) 0=r at q0 Qe cZ;generalize (i7 l k).getD (8*k / 26+1) 0=r2 at q1 I2 cZ;generalize l.getD k 0=d at c0 hs hd;have e4:8*(k:Int)/ 26+1<5:=ae;go_wp2;go_roundw;case rel=>exact⟨k+1,ae,by go_num,cZ,(bz _ ⟨w.heap.size+1,_,none⟩ _ w.heap.size ak).trans ((bz _ ⟨w.heap.size+1,_,none⟩ _ w.heap.size ak).trans Rg),(Hb.setCell ak _).setCell ak _⟩
    case measure=>exact cM
   ·have e3:decide (8*(k:Int)/ 26<4)=false:=(by simp;omega);have dg:=HS.out;rw[if_neg AX]at dg;have di:=Ab fL (8*k / 26) ((i7 l k).getD (8*k / 26) 0+Y);rw[Int.natCast_add,<-dg]at di;have cZ:=aa di;generalize (i7 l k).getD (8*k / 26) 0=r at q0 Qe cZ;generalize l.getD k 0=d at c0 hs hd;go_wp2;go_roundw;case rel=>exact⟨k+1,ae,by go_num,cZ,(bz _ ⟨w.heap.size+1,_,none⟩ _ w.heap.size ak).trans Rg,Hb.setCell ak _⟩
    case measure=>exact cM
  ·obtain rfl:k=n:=ae;have e1:decide ((k:Int)<(k:Int))=false:=ak;obtain⟨a,b,c,d,e,he⟩:=oZ (xL l k);rw[he]at fL;have aDE:bj wr (w.heap.size+1) #[.int .i64 (a:Nat),.int .i64 (b:Nat),.int .i64 (c:Nat),.int .i64 (d:Nat),.int .i64 (e:Nat)] 352:=fL;obtain⟨⟨a0,a1,a2,a3,a4⟩,af⟩:=Ac aDE;obtain⟨⟨z0,z1,z2,z3,z4⟩,zf⟩:=Ac Rg.out;have E8:=zf 0;have EI:=zf 1;have Ys:=zf 2;have ZE:=zf 3;have W9:=zf 4;go_wp2_with fail;refine bodyPost_ret (JC rfl _ _ w.heap.size ah _ (JB (Jz Rg _ _ _ _ _))) rfl ?_;refine⟨?_,JA Hb (aM _) _ _ _ _ _⟩;rw[<-HN.out,he];rfl
theorem aow (n m:List Nat) (w:World) (hn:n.length=5) (hm:m.length=5) (h1: ∀j,j<5->n.getD j 0<=4294967296) (h2: ∀j,j<5->m.getD j 0<=4294967296):
  Calls prog 304 #[ly n,ly m] w (bF w (ly (pM n m 5))):=by
 obtain⟨a0,a1,a2,a3,a4,he⟩:=oZ hn;obtain⟨b0,b1,b2,b3,b4,hf⟩:=oZ hm;have lQ:=aa1 w (ints (cE n)).toArray (ints (cE m)).toArray z5 352 352 352;obtain⟨hA,hB,hC,hb⟩:=lQ;have Hn:=aa hn;have Hm:=aa hm;have H1:=aa h1;have H2:=aa h2;have HA:=aa hA;have HB:=aa hB;have HC:=aa hC;have Hb:=aa hb;have en:ly n= .agg #[.int .i64 (a0:Nat),.int .i64 (a1:Nat),.int .i64 (a2:Nat),.int .i64 (a3:Nat),.int .i64 (a4:Nat)]:=by rw[he];rfl
 have em:ly m= .agg #[.int .i64 (b0:Nat),.int .i64 (b1:Nat),.int .i64 (b2:Nat),.int .i64 (b3:Nat),.int .i64 (b4:Nat)]:=by rw[hf];rfl
 rw[en,em];have ea:(ints (cE n)).toArray= #[.int .i64 (a0:Nat),.int .i64 (a1:Nat),.int .i64 (a2:Nat),.int .i64 (a3:Nat),.int .i64 (a4:Nat)]:=by rw[he];rfl
 have eb:(ints (cE m)).toArray= #[.int .i64 (b0:Nat),.int .i64 (b1:Nat),.int .i64 (b2:Nat),.int .i64 (b3:Nat),.int .i64 (b4:Nat)]:=by rw[hf];rfl
 obtain⟨w1,cS⟩: ∃w1,w1=((w.alloc (.cells (ints (cE n)).toArray 352)).alloc (.cells (ints (cE m)).toArray 352)).alloc (.cells z5 352):=⟨_,rfl⟩
 have wK:=aa cS;rw[<-cS]at HA HB HC Hb;rw[ea,eb]at wK;go_in;go_upto_region 1 with fail
 rw[<-wK.out];go_wp2_with fail;go_loopw [6] (λx wr=> ∃k:Nat,k<=5/\x= .int .i64 (k:Nat)/\wr.heap[w.heap.size]?=some (.cells (ints (cE (pM n m k))).toArray 352 (0,0))/\wr.heap[w.heap.size+1]?=some (.cells (ints (cE m)).toArray 352 (0,0))/\bj wr (w.heap.size+1+1) z5 352/\aD w wr) (λx _=>5 -(intOf x).toNat);case atStart=>exact⟨0,ae,rfl,HA,HB,HC,Hb⟩
 case round=>
  obtain⟨k,hk,rfl,hA,hB,hC,hb⟩:=hrel;have bq:=aa hB;have qB:=aa hC;have qs:=aa hb;by_cases aK:k<5
  ·have e1:decide ((k:Int)<(5:Int))=true:=by simp;omega
   have e2:(k:Int)<(5:Int):=ae;obtain⟨q0,f0⟩:=sO hA (i:=k) (by rw[Jy,Hn.out];exact aK);obtain⟨q1,f1⟩:=sO hB (i:=k) (by rw[Hm.out];exact aK);have hv:=Sc n m Hn k ae k;rw[if_neg ae]at hv;have di:=Ab hA k ((pM n m k).getD k 0+m.getD k 0);rw[Int.natCast_add,show (pM n m k).set k ((pM n m k).getD k 0+m.getD k 0)=pM n m (k+1) from rfl,hv]at di;rw[hv]at q0;have cZ:=aa di;have x1:=H1.out k aK;have x2:=H2.out k aK;generalize n.getD k 0=r at q0 x1 cZ;generalize m.getD k 0=r2 at q1 x2 cZ;go_wp2_with fail;have nO:=aa (Below.drew (show aD w (wr.setCell ⟨w.heap.size,k,none⟩ (.int .i64 ((r:Int)+(r2:Int)))) from qs.setCell (aM _) _));go_region_law (fail);all_goals
    go_wp2
    go_roundw
    case rel=>exact⟨k+1,ae,by go_num,cZ,(bz _ ⟨w.heap.size,_,none⟩ _ (w.heap.size+1) ak).trans bq,(bz _ ⟨w.heap.size,_,none⟩ _ (w.heap.size+1+1) (by simp;omega)).trans qB,nO⟩
    case measure=>simp[intOf];omega
  ·obtain rfl:k=5:=ae;have e1:decide (((5:Nat):Int)<(5:Int))=false:=ak;obtain⟨a,b,c,d,e,he⟩:=oZ ((Jy n m 5).trans Hn);rw[he]at hA;have fV:bj wr w.heap.size #[.int .i64 (a:Nat),.int .i64 (b:Nat),.int .i64 (c:Nat),.int .i64 (d:Nat),.int .i64 (e:Nat)] 352:=hA;obtain⟨⟨a0,a1,a2,a3,a4⟩,af⟩:=Ac fV;obtain⟨⟨z0,z1,z2,z3,z4⟩,zf⟩:=Ac qB.out;have E8:=zf 0;have EI:=zf 1;have Ys:=zf 2;have ZE:=zf 3;have W9:=zf 4;go_wp2_with fail;refine bodyPost_ret (JC rfl _ _ (w.heap.size+1+1) ah _ (JB (Jz qB _ _ _ _ _))) rfl ?_;refine⟨?_,JA qs ae _ _ _ _ _⟩;rw[he];rfl
theorem aox (n:List Nat) (h:n.length=5) (j:Nat) (hj:5<=j):n.getD j 0=0:=by
 rw[dh,Cx ae];rfl
theorem aa3 (w:World) (a b c d:bx) (ta tb tc td:TypeId):((((w.alloc (.cells a ta)).alloc (.cells b tb)).alloc (.cells c tc)).alloc (.cells d td)).heap[w.heap.size]?=some (.cells a ta (0,0))/\((((w.alloc (.cells a ta)).alloc (.cells b tb)).alloc (.cells c tc)).alloc (.cells d td)).heap[w.heap.size+1]?=some (.cells b tb (0,0))/\((((w.alloc (.cells a ta)).alloc (.cells b tb)).alloc (.cells c tc)).alloc (.cells d td)).heap[w.heap.size+1+1]?=some (.cells c tc (0,0))/\((((w.alloc (.cells a ta)).alloc (.cells b tb)).alloc (.cells c tc)).alloc (.cells d td)).heap[w.heap.size+1+1+1]?=some (.cells d td (0,0))/\aD w ((((w.alloc (.cells a ta)).alloc (.cells b tb)).alloc (.cells c tc)).alloc (.cells d td)):=by
 obtain⟨h1,h2,h3,hb⟩:=aa1 w a b c ta tb tc;have h4:=aR (((w.alloc (.cells a ta)).alloc (.cells b tb)).alloc (.cells c tc)) (.cells d td);rw[World.size_alloc,World.size_alloc,World.size_alloc]at h4;have al:=(aI (((w.alloc (.cells a ta)).alloc (.cells b tb)).alloc (.cells c tc)).heap.size (((w.alloc (.cells a ta)).alloc (.cells b tb)).alloc (.cells c tc))).alloc (aM _) (.cells d td);exact⟨aJ h1 al,aJ h2 al,aJ h3 al,h4,bg hb al⟩
theorem aa4 (h1: ∀j,n.getD j 0<=536871424) (h2: ∀j,m.getD j 0<=268435712): ∀i k,n.getD i 0*m.getD k 0<=144115462954287488:=λi k=>bD (Nat.mul_le_mul (h1 i) (h2 k)) au
theorem ahR (h:P:=by
 have cZ:=aa di;generalize (rK n m (nU n m i) i k).getD ((i+k)% 5) 0=r3 at q2 eT cZ;go_wp2_with fail;go_quiet (fail);rename_i nq;go_wp2;go_roundw;case rel=>exact⟨k+1,ae,by go_num,(bz _ ⟨w.heap.size+1+1+1,_,none⟩ _ w.heap.size (by simp;omega)).trans HA,(bz _ ⟨w.heap.size+1+1+1,_,none⟩ _ (w.heap.size+1) ak).trans HB,(bz _ ⟨w.heap.size+1+1+1,_,none⟩ _ (w.heap.size+1+1) ak).trans HC,cZ,(tX Hb nq).setCell (by simp;omega) _⟩
 case measure=>exact cM):P:=h
theorem aoy (n m:List Nat) (w:World) (hn:n.length=5) (hm:m.length=5) (h1: ∀j,n.getD j 0<=536871424) (h2: ∀j,m.getD j 0<=268435712):
  Calls prog 305 #[ly n,ly m] w (bF w (ly (nU n m 5))):=by
 obtain⟨a0,a1,a2,a3,a4,he⟩:=oZ hn;obtain⟨b0,b1,b2,b3,b4,hf⟩:=oZ hm;obtain⟨hA,hB,hC,hD,hb⟩:=aa3 w (ints (cE n)).toArray (ints (cE m)).toArray z5 z5 352 352 352 352;have Hn:=aa hn;have Hm:=aa hm;have HM:=aa (aa4 h1 h2);have HA:=aa hA;have HB:=aa hB;have HC:=aa hC;have HD:=aa hD;have Hb:=aa hb;have en:ly n= .agg #[.int .i64 (a0:Nat),.int .i64 (a1:Nat),.int .i64 (a2:Nat),.int .i64 (a3:Nat),.int .i64 (a4:Nat)]:=by rw[he];rfl
 have em:ly m= .agg #[.int .i64 (b0:Nat),.int .i64 (b1:Nat),.int .i64 (b2:Nat),.int .i64 (b3:Nat),.int .i64 (b4:Nat)]:=by rw[hf];rfl
 rw[en,em];have ea:(ints (cE n)).toArray= #[.int .i64 (a0:Nat),.int .i64 (a1:Nat),.int .i64 (a2:Nat),.int .i64 (a3:Nat),.int .i64 (a4:Nat)]:=by rw[he];rfl
 have eb:(ints (cE m)).toArray= #[.int .i64 (b0:Nat),.int .i64 (b1:Nat),.int .i64 (b2:Nat),.int .i64 (b3:Nat),.int .i64 (b4:Nat)]:=by rw[hf];rfl
 obtain⟨w1,cS⟩: ∃w1,w1=(((w.alloc (.cells (ints (cE n)).toArray 352)).alloc (.cells (ints (cE m)).toArray 352)).alloc (.cells z5 352)).alloc (.cells z5 352):=⟨_,rfl⟩
 have wK:=aa cS;rw[<-cS]at HA HB HC HD Hb;rw[ea,eb]at wK;go_in;go_upto_region 2 with fail
 rw[<-wK.out];go_wp2_with fail;go_loopw [9] (λx wr=> ∃i:Nat,i<=5/\x= .int .i64 (i:Nat)/\wr.heap[w.heap.size]?=some (.cells (ints (cE n)).toArray 352 (0,0))/\wr.heap[w.heap.size+1]?=some (.cells (ints (cE m)).toArray 352 (0,0))/\bj wr (w.heap.size+1+1) z5 352/\wr.heap[w.heap.size+1+1+1]?=some (.cells (ints (cE (nU n m i))).toArray 352 (0,0))/\aD w wr) (λx _=>5 -(intOf x).toNat);case atStart=>exact⟨0,ae,rfl,HA,HB,HC,HD,Hb⟩
 case round=>
  obtain⟨i,hi,rfl,hA,hB,hC,hD,hb⟩:=hrel;replace HA:=aa hA;replace HB:=aa hB;replace HC:=aa hC;replace HD:=aa hD;replace Hb:=aa hb;by_cases aK:i<5
  ·have e1:decide ((i:Int)<(5:Int))=true:=by simp;omega
   have e2:(i:Int)<(5:Int):=ae;go_wp2_with fail;go_loopw [12] (λx wr=> ∃k:Nat,k<=5/\x= .int .i64 (k:Nat)/\wr.heap[w.heap.size]?=some (.cells (ints (cE n)).toArray 352 (0,0))/\wr.heap[w.heap.size+1]?=some (.cells (ints (cE m)).toArray 352 (0,0))/\bj wr (w.heap.size+1+1) z5 352/\wr.heap[w.heap.size+1+1+1]?=some (.cells (ints (cE (rK n m (nU n m i) i k))).toArray 352 (0,0))/\aD w wr) (λx _=>5 -(intOf x).toNat);case atStart=>exact⟨0,ae,rfl,HA,HB,HC,HD,Hb⟩
   case round=>
    obtain⟨k,hk,rfl,hA,hB,hC,hD,hb⟩:=hrel;replace HA:=aa hA;replace HB:=aa hB;replace HC:=aa hC;replace HD:=aa hD;replace Hb:=aa hb;by_cases wZ:k<5
    ·have e3:decide ((k:Int)<(5:Int))=true:=(by simp;omega);have e4:(k:Int)<(5:Int):=ae;obtain⟨q0,f0⟩:=sO hA (i:=i) (by rw[Hn.out];exact aK);obtain⟨q1,f1⟩:=sO hB (i:=k) (by rw[Hm.out];exact wZ);obtain⟨q2,f2⟩:=sO hD (i:=(i+k)% 5) (by rw[MR,F4];exact Nat.mod_lt _ ae);have ht:=Se (F4 n m i) HM i (Sf HM i) k ((i+k)% 5);have hc:=aaW i aK k ae ((i+k)% 5) (Nat.mod_lt _ ae);have eT:(rK n m (nU n m i) i k).getD ((i+k)% 5) 0<=3602886573857187200:=bD ht (bD (Nat.mul_le_mul_right _ hc) au);have hp:=HM.out i k;have HS:=aa (show rK n m (nU n m i) i (k+1)=(rK n m (nU n m i) i k).set ((i+k)% 5) ((rK n m (nU n m i) i k).getD ((i+k)% 5) 0+n.getD i 0*m.getD k 0*(if 5<=i+k then 5 else 1)) from rfl);have hw:wrap64 (((n.getD i 0:Nat):Int)*((m.getD k 0:Nat):Int))=((n.getD i 0*m.getD k 0:Nat):Int):=by
      rw[<-Int.natCast_mul];exact IntWalk.wrap64_in _ ⟨ae,ae⟩
     have cl:IntKind.i64.wrap (((n.getD i 0:Nat):Int)*((m.getD k 0:Nat):Int))=((n.getD i 0*m.getD k 0:Nat):Int):=by
      rw[<-Int.natCast_mul];generalize n.getD i 0*m.getD k 0=P at hp;rw[IntKind.wrap_i64];omega
     generalize n.getD i 0*m.getD k 0=P at hp HS hw cl;generalize n.getD i 0=r at q0 hw cl;generalize m.getD k 0=r2 at q1 hw cl;by_cases h5:5<=i+k
     ·have e5:decide ((i:Int)+(k:Int)>=5)=true:=(by simp;omega);have di:=Ab hD ((i+k)% 5) ((rK n m (nU n m i) i k).getD ((i+k)% 5) 0+P*5);have dg:=HS.out;rw[if_pos h5]at dg;rw[<-dg,Int.natCast_add,Int.natCast_mul]at di;exact ahR
     ·have e5:decide ((i:Int)+(k:Int)>=5)=false:=(by simp;omega);have di:=Ab hD ((i+k)% 5) ((rK n m (nU n m i) i k).getD ((i+k)% 5) 0+P);have dg:=HS.out;rw[if_neg h5,Nat.mul_one]at dg;rw[<-dg,Int.natCast_add]at di;exact ahR
    ·obtain rfl:k=5:=ae;have e3:decide (((5:Nat):Int)<(5:Int))=false:=ak;go_wp2;go_roundw;case rel=>exact⟨i+1,ae,by go_num,HA,HB,HC,HD,Hb⟩
     case measure=>exact cM
  ·obtain rfl:i=5:=ae;have e1:decide (((5:Nat):Int)<(5:Int))=false:=ak;obtain⟨a,b,c,d,e,he⟩:=oZ (F4 n m 5);have hD:=HD.out;rw[he]at hD;have rj:bj wr (w.heap.size+1+1+1) #[.int .i64 (a:Nat),.int .i64 (b:Nat),.int .i64 (c:Nat),.int .i64 (d:Nat),.int .i64 (e:Nat)] 352:=hD;obtain⟨⟨a0,a1,a2,a3,a4⟩,af⟩:=Ac rj;obtain⟨⟨z0,z1,z2,z3,z4⟩,zf⟩:=Ac HC.out;have E8:=zf 0;have EI:=zf 1;have Ys:=zf 2;have ZE:=zf 3;have W9:=zf 4;go_wp2_with fail;refine bodyPost_ret (JC rfl _ _ (w.heap.size+1+1) ah _ (JB (Jz HC _ _ _ _ _))) rfl ?_;refine⟨?_,JA Hb ae _ _ _ _ _⟩;rw[he];rfl
theorem aoz (h1: ∀j,n.getD j 0<=536871424) (h2: ∀j,m.getD j 0<=268435712):pa (nU n m 5):=by
 have h: ∀j,j<5->(nU n m 5).getD j 0<=4611686018427387904:=λj hj=>bD (Sf (aa4 h1 h2) 5 j) (bD (Nat.mul_le_mul_right _ (aaW 4 ae 5 ae j hj)) au);exact⟨h 0 ae,h 1 ae,h 2 ae,h 3 ae,h 4 ae⟩
theorem KJ (h:P:=by
 clear hl;go_wp2_with fail;refine bodyPost_ret (JC rfl _ _ (w.heap.size+1) ah _ (JB (Jz HB _ _ _ _ _))) rfl ?_;refine⟨?_,JA Hb ae _ _ _ _ _⟩;rw[<-Hp.out,<-HT.out];rfl):P:=h
theorem aoA (n:List Nat) (w:World) (hn:n.length=5) (hf:pa n):
  Calls prog 306 #[ly n] w (bF w (ly (qG n))):=by
 obtain⟨a0,a1,a2,a3,a4,he⟩:=oZ hn;obtain⟨hA,hB,hb⟩:=Sk w (ints (cE n)).toArray z5 352 352;have Hn:=aa hn;have Hf:=aa hf;have HA:=aa hA;have HB:=aa hB;have Hb:=aa hb;have en:ly n= .agg #[.int .i64 (a0:Nat),.int .i64 (a1:Nat),.int .i64 (a2:Nat),.int .i64 (a3:Nat),.int .i64 (a4:Nat)]:=by rw[he];rfl
 rw[en];have ea:(ints (cE n)).toArray= #[.int .i64 (a0:Nat),.int .i64 (a1:Nat),.int .i64 (a2:Nat),.int .i64 (a3:Nat),.int .i64 (a4:Nat)]:=by rw[he];rfl
 obtain⟨w1,cS⟩: ∃w1,w1=(w.alloc (.cells (ints (cE n)).toArray 352)).alloc (.cells z5 352):=⟨_,rfl⟩
 have wK:=aa cS;rw[<-cS]at HA HB Hb;rw[ea]at wK;obtain⟨R,hR⟩: ∃R,R=qG n:=⟨_,rfl⟩
 have HR:=aa hR;rw[<-hR];clear hn hf hA hB hb he en ea cS hR;go_in;go_upto_region 1 with fail
 rw[<-wK.out];go_wp2_with fail;go_loopg [3] (2*jN n+1) (λgk x wr=> ∃(o:Nat) (ns:List Nat),x= .int .i64 (o:Nat)/\ns.length=5/\pa ns/\jN ns % oW=jN n % oW/\(o=0->sL ns)/\2*jN ns+(if o=0 then 0 else 1)<=gk/\wr.heap[w.heap.size]?=some (.cells (ints (cE ns)).toArray 352 (0,0))/\wr.heap[w.heap.size+1]?=some (.cells z5 352 (0,0))/\aD w wr);case atStart=>exact⟨1,n,rfl,Hn,Hf,rfl,ae,ak,HA,HB,Hb⟩
 case round=>
  obtain⟨o,ns,rfl,hl,lP,P4,A0,LB,hA,hB,hb⟩:=hrel;replace Hn:=aa hl;replace Hf:=aa lP;have Hv:=aa P4;have azg:=aa A0;have Hgk:=aa LB;replace HA:=aa hA;replace HB:=aa hB;replace Hb:=aa hb;clear hl lP P4 A0 LB hA hB hb;by_cases ho:o=0
  ·have Hl:=aa (azg ho);have Hp:=aa (show qG ns=R by rw[HR.out,qG,qG,Hv.out]);subst ho;obtain⟨⟨z0,z1,z2,z3,z4⟩,zf⟩:=Ac HB.out;have E8:=zf 0;have EI:=zf 1;have Ys:=zf 2;have ZE:=zf 3;have W9:=zf 4;obtain⟨a,b,c,d,e,he⟩:=oZ Hn.out;have fV:wr.heap[w.heap.size]?=some (.cells #[.int .i64 (a:Nat),.int .i64 (b:Nat),.int .i64 (c:Nat),.int .i64 (d:Nat),.int .i64 (e:Nat)] 352 (0,0)):=by rw[HA.out,he];rfl
   have hl:=Hl.out;have Bz:=aop Hn Hl.out;have C8:=aoq Hn Hl.out;rw[he]at hl Bz C8;simp only[sL,List.getD_cons_zero,List.getD_cons_succ]at hl;rw[he]at Hp;have aAH:=aa Bz;have L3:=aa C8;obtain⟨⟨y0,y1,y2,y3,y4⟩,yf⟩:=Ac fV;clear zf yf fV he Bz C8;by_cases t0:67108859<=a
   ·have d0:decide ((a:Int)>=67108859)=true:=(by simp;omega);by_cases t1:b=67108863
    ·have d1:((b:Int)==67108863)=true:=(by simp;omega);by_cases t2:c=67108863
     ·have d2:((c:Int)==67108863)=true:=(by simp;omega);by_cases t3:d=67108863
      ·have d3:((d:Int)==67108863)=true:=(by simp;omega);by_cases t4:e=67108863
       ·have d4:((e:Int)==67108863)=true:=(by simp;omega);have HT:=aa (aAH (by simp[vz,t0,t1,t2,t3,t4]));have Hc:=aa (show wrap64 ((a:Int)- 67108859)=((a - 67108859:Nat):Int) by rw[IntWalk.wrap64_in _ ⟨ae,ae⟩];omega);clear t1 t2 t3 t4;clear hl;go_wp2_with fail;refine bodyPost_ret (JC rfl _ _ (w.heap.size+1) ah _ (JB (Jz HB _ _ _ _ _))) rfl ?_;refine⟨?_,JA Hb ae _ _ _ _ _⟩;rw[<-Hp.out,<-HT.out];rw[Hc.out];rfl
       ·have d4:((e:Int)==67108863)=false:=(by simp;omega);have HT:=aa (L3 (by simp[vz,t0,t1,t2,t3,t4]));clear t0 t1 t2 t3 t4;exact KJ
      ·have d3:((d:Int)==67108863)=false:=(by simp;omega);have HT:=aa (L3 (by simp[vz,t0,t1,t2,t3]));clear t0 t1 t2 t3;exact KJ
     ·have d2:((c:Int)==67108863)=false:=(by simp;omega);have HT:=aa (L3 (by simp[vz,t0,t1,t2]));clear t0 t1 t2;exact KJ
    ·have d1:((b:Int)==67108863)=false:=(by simp;omega);have HT:=aa (L3 (by simp[vz,t0,t1]));clear t0 t1;exact KJ
   ·have d0:decide ((a:Int)>=67108859)=false:=(by simp;omega);have HT:=aa (L3 (by simp[vz,t0]));clear t0;exact KJ
  ·have e1:((o:Int) !=0)=true:=by simp;omega
   have Ho:=aa ho;go_wp2_with fail;go_loopw [3,7] (λx y wr=> ∃k:Nat,k<=5/\y= .int .i64 (k:Nat)/\x= .int .i64 (((eI ns k).1:Nat):Int)/\wr.heap[w.heap.size]?=some (.cells (ints (cE (eI ns k).2)).toArray 352 (0,0))/\wr.heap[w.heap.size+1]?=some (.cells z5 352 (0,0))/\aD w wr) (λ_ y _=>5 -(intOf y).toNat);case atStart=>exact⟨0,ae,rfl,rfl,HA,HB,Hb⟩
   case round=>
    obtain⟨k,hk,rfl,rfl,hA,hB,hb⟩:=hrel;replace HB:=aa hB;replace Hb:=aa hb;clear hB hb;obtain⟨Dr,rx⟩:=aaY Hn Hf k hk;by_cases aK:k<5
    ·have e2:decide ((k:Int)<(5:Int))=true:=(by simp;omega);have e3:(k:Int)<(5:Int):=ae;obtain⟨q0,f0⟩:=sO hA (i:=k) (by rw[MT,Hn.out];exact aK);have hr:=aaZ rx k aK;have HS:=aa (show eI ns (k+1)=(((eI ns k).2.getD k 0+(eI ns k).1)/ 67108864,(eI ns k).2.set k (((eI ns k).2.getD k 0+(eI ns k).1)% 67108864)) from rfl);have di:=Ab (Ab hA k ((eI ns k).2.getD k 0+(eI ns k).1)) k (((eI ns k).2.getD k 0+(eI ns k).1)% 67108864);rw[List.set_set,Int.natCast_add]at di;have cZ:=aa di;generalize (eI ns k).2.getD k 0=r at q0 hr HS cZ;generalize (eI ns k).1=p at Dr HS cZ⊢;have hY:=aa2 (r+p) ae;have HD:=aa (show Value.int .i64 (((r:Int)+(p:Int))/ 67108864)=Value.int .i64 (((r+p)/ 67108864:Nat):Int) by congr 1);rw[Int.natCast_add]at hY;generalize (r+p)% 67108864=Y at hY HS cZ;clear hA rx di;go_wp2;go_roundw;case rel=>exact⟨k+1,ae,by go_num,by rw[HS.out];exact HD.out,by rw[HS.out];exact cZ.out,(bz _ ⟨w.heap.size,_,none⟩ _ (w.heap.size+1) ak).trans ((bz _ ⟨w.heap.size,_,none⟩ _ (w.heap.size+1) ak).trans HB),(Hb.setCell (aM _) _).setCell (aM _) _⟩
     case measure=>exact cM
    ·obtain rfl:k=5:=ae;have e2:decide (((5:Nat):Int)<(5:Int))=false:=ak;obtain⟨q0,f0⟩:=sO hA (i:=0) (by rw[MT,Hn.out];omega);have hr:=aaZ rx 0 ae;have di:=Ab hA 0 ((eI ns 5).2.getD 0 0+5*(eI ns 5).1);rw[show (eI ns 5).2.set 0 ((eI ns 5).2.getD 0 0+5*(eI ns 5).1)=oY ns from rfl,Int.natCast_add,Int.natCast_mul]at di;have cZ:=aa di;have ak3:=aa (Sg Hn);have Hin:=aa (aaX Hn);have aj9:=aa (λh=>aol Hn h);generalize (eI ns 5).2.getD 0 0=r at q0 hr cZ;generalize (eI ns 5).1=p at Dr cZ ak3 Hin aj9⊢;clear hA rx di;have ey:=(aoj ns).trans Hn.out;have lP:=aok Hn Hf.out;have aig:=(aom Hn).trans Hv.out;have Hl2:=aa ey;have FH:=aa lP;have Hv2:=aa aig;clear ey lP aig;go_wp2_with fail;go_roundg (2*jN (oY ns)+(if p=0 then 0 else 1));case measure=>
      have h1:=Hgk.out;have h2:=ak3.out;have h3:=aj9.out;rw[if_neg Ho.out]at h1;by_cases hp:p=0
      ·rw[if_pos hp];subst hp;omega
      ·rw[if_neg hp];have:=h3 hp;omega
     case rel=>
      exact⟨p,oY ns,rfl,Hl2,FH,Hv2,λh=>by have:=Hin.out;subst h;exact⟨ae,this.2⟩,aM _,cZ,(bz _ ⟨w.heap.size,_,none⟩ _ (w.heap.size+1) ak).trans HB,Hb.setCell (aM _) _⟩
theorem aoB (a b:Nat) (ha:a<9007199254740992) (hb:b<9007199254740992):bits .or .i64 (a:Int) (b:Int)=((a|||b:Nat):Int):=by
 have hx:a|||b<2^53:=Nat.or_lt_two_pow ae ae;exact ahg
theorem aa5 (a:Nat) (h:a<9223372036854775808):bits .and .i64 (a:Int) 255=((a % 256:Nat):Int):=by
 show IntKind.i64.wrap ((BitVec.ofInt 64 (a:Int)&&&BitVec.ofInt 64 ((255:Nat):Int)).toNat:Int)=_;rw[BitVec.toNat_and,pI a h,pI 255 ae,show (255:Nat)=2^8 - 1 from rfl,Nat.and_two_pow_sub_one_eq_mod,IntKind.wrap_i64];omega
theorem aoC (B b:Nat) (hB:B<67108864):B*2^(26 - b)<4503599627370496:=by
 have h:2^(26 - b)<=2^26:=Nat.pow_le_pow_right ae ae;have h3:=Nat.mul_le_mul (Nat.le_of_lt_succ (Nat.lt_succ_of_lt hB)) h;have h4:B*2^26<67108864*2^26:=Nat.mul_lt_mul_of_pos_right hB au;exact OX (Nat.mul_le_mul_left B h) h4
theorem aoD (h:w.rowIs g t 17 (λj=> .int .i64 ((eJ n j:Nat):Int))):Rd w (aw g) (ints (cE (sM n))):=λj u hu=>by
 have hj:j<17:=by
  rcases mg j 17 with h|h
  ·exact h
  ·simp[ints,cE,sM,h]at hu
 refine⟨g,0,rfl,?_⟩;rw[Nat.zero_add,h.cell hj];have:u= .int .i64 ((eJ n j:Nat):Int):=by simpa[ints,cE,sM,hj,eq_comm] using hu
 rw[this]
theorem ahF (h:P:=by
 rw[if_neg hj];by_cases h2:j<k
 ·rw[if_pos h2,if_pos ae]
 ·rw[if_neg h2,if_neg ae]):P:=h
theorem ayP (h:P:=by
 refine⟨k+1,ae,by go_num,?_,(bz _ ⟨w1.heap.size,_,none⟩ _ w.heap.size (by have:=db.out;simp;omega)).trans HA,Hb.setCell (by have:=db.out;simp;omega) _⟩;rw[Hv.out];refine (mm.set k _).congr λj _=>?_;by_cases hj:j=k
 ·rw[if_pos hj,if_pos ae,hj]
 ·exact ahF):P:=h
theorem agZ (h:P:=by
 clear hA Bv;go_wp2;go_roundw;case rel=>
  exact ayP
 case measure=>exact cM):P:=h
theorem aoE (n:List Nat) (w:World) (hn:n.length=5) (hl:sL n):
  Calls prog 307 #[ly n] w λe w'=> ∃A,e= .returned (.slice A 17 17)/\Rd w' A (ints (cE (sM n)))/\aD w w':=by
 obtain⟨a0,a1,a2,a3,a4,he⟩:=oZ hn;have hA:=aR w (.cells (ints (cE n)).toArray 352);have hb:=be w (.cells (ints (cE n)).toArray 352);have IA: ∀j,j<5->n.getD j 0<67108864:=λj hj=>by
  match j,hj with
  |0,_=>exact hl.1
  |1,_=>exact hl.2.1
  |2,_=>exact hl.2.2.1
  |3,_=>exact hl.2.2.2.1
  |4,_=>exact hl.2.2.2.2
 have Hn:=aa hn;have Hl:=aa IA;have HA:=aa hA;have Hb:=aa hb;have en:ly n= .agg #[.int .i64 (a0:Nat),.int .i64 (a1:Nat),.int .i64 (a2:Nat),.int .i64 (a3:Nat),.int .i64 (a4:Nat)]:=by rw[he];rfl
 rw[en];have ea:(ints (cE n)).toArray= #[.int .i64 (a0:Nat),.int .i64 (a1:Nat),.int .i64 (a2:Nat),.int .i64 (a3:Nat),.int .i64 (a4:Nat)]:=by rw[he];rfl
 obtain⟨w1,cS⟩: ∃w1,w1=w.alloc (.cells (ints (cE n)).toArray 352):=⟨_,rfl⟩
 have wK:=aa cS;have cg:w1.heap.size=w.heap.size+1:=by rw[cS];simp
 rw[<-cS]at HA Hb;rw[ea]at wK;clear hn hl IA hA hb he en ea cS;have j6:(Instr.makeSlice 55 (.int .i64 17) (.int .i64 17)).run prog w1= .ok (.slice (some ⟨w1.heap.size,0,none⟩) 17 17) (w1.alloc (.cells (madeCells #[.int .i64 0] 17) 3)):=run_make_row' (P:=prog) 55 3 (.int .i64 0) 8 underlying55 rD rfl .i64 .i64 17 ae ae w1;have db:=aa cg;clear cg;go_in;go_upto_region 1 with fail
 rw[<-wK.out];go_wp2_with fail;have gF:=be w1 (.cells (madeCells #[.int .i64 0] 17) 3);replace HA:=aT HA gF;replace Hb:=aX Hb gF;clear gF;go_loopw [11] (λx wr=> ∃k:Nat,k<=17/\x= .int .i64 (k:Nat)/\wr.rowIs w1.heap.size 3 17 (λj=> .int .i64 (if j<k then ((eJ n j:Nat):Int) else 0))/\wr.heap[w.heap.size]?=some (.cells (ints (cE n)).toArray 352 (0,0))/\aD w wr) (λx _=>17 -(intOf x).toNat);case atStart=>exact⟨0,ae,rfl,World.rowIs_made _ _ _ _,HA,Hb⟩
 case round=>
  obtain⟨k,hk,rfl,bH,hA,hb⟩:=hrel;have mm:=aa bH;replace HA:=aa hA;replace Hb:=aa hb;clear hb;by_cases aK:k<17
  ·have e1:decide ((k:Int)<(17:Int))=true:=by simp;omega
   have e2:(k:Int)<(17:Int):=ae;have hc:=bH.cell (i:=k) aK;have hf:=bH.frozen k;have hq:8*k / 26<5:=ae;obtain⟨q0,f0⟩:=sO hA (i:=8*k / 26) (by rw[Hn.out];exact hq);have ha:=Hl.out _ hq;have HD:=aa (show eJ n k=(if 8*k / 26<4 then n.getD (8*k / 26) 0 / 2^(8*k % 26)|||n.getD (8*k / 26+1) 0*2^(26 - 8*k % 26) else n.getD (8*k / 26) 0 / 2^(8*k % 26))% 256 from rfl);clear bH;have aFc:8*k % 26<=24:=ae;by_cases AX:8*k / 26<4
   ·have e3:decide (8*(k:Int)/ 26<4)=true:=(by simp;omega);have e4:8*(k:Int)/ 26+1<5:=ae;obtain⟨q1,f1⟩:=sO hA (i:=8*k / 26+1) (by rw[Hn.out];omega);have av:=Hl.out (8*k / 26+1) ae;have Bv:=HD.out;rw[if_pos AX]at Bv;generalize n.getD (8*k / 26) 0=A at q0 ha Bv;generalize n.getD (8*k / 26+1) 0=B at q1 av Bv;have Hv:=aa (show bits .and .i64 (bits .or .i64 ((A:Int)/ 2^(8*k % 26)) (wrap64 ((B:Int)*2^(26 - 8*k % 26)))) 255=((eJ n k:Nat):Int) by
     have h1:=aoC B (8*k % 26) av;have h2:A / 2^(8*k % 26)<67108864:=OX (Nat.div_le_self _ _) ha;rw[show (A:Int)/ 2^(8*k % 26)=((A / 2^(8*k % 26):Nat):Int) by rw[Int.natCast_ediv,Int.natCast_pow];rfl,
      show (B:Int)*2^(26 - 8*k % 26)=((B*2^(26 - 8*k % 26):Nat):Int) by rw[Int.natCast_mul,Int.natCast_pow];rfl,Bv]
     generalize B*2^(26 - 8*k % 26)=Y at h1;generalize A / 2^(8*k % 26)=X at h2;have h3:X|||Y<2^53:=Nat.or_lt_two_pow ae ae;rw[IntWalk.wrap64_in _ ⟨ae,ae⟩,aoB _ _ ae ae,aa5 _ ae])
    exact agZ
   ·have e3:decide (8*(k:Int)/ 26<4)=false:=(by simp;omega);have Bv:=HD.out;rw[if_neg AX]at Bv;generalize n.getD (8*k / 26) 0=A at q0 ha Bv;have Hv:=aa (show bits .and .i64 ((A:Int)/ 2^(8*k % 26)) 255=((eJ n k:Nat):Int) by
     have h2:A / 2^(8*k % 26)<67108864:=OX (Nat.div_le_self _ _) ha;rw[show (A:Int)/ 2^(8*k % 26)=((A / 2^(8*k % 26):Nat):Int) by rw[Int.natCast_ediv,Int.natCast_pow];rfl,Bv];generalize A / 2^(8*k % 26)=X at h2;rw[aa5 _ ae])
    exact agZ
  ·obtain rfl:k=17:=ae;have e1:decide (((17:Nat):Int)<(17:Int))=false:=ak;have qn:=aa (aoD (n:=n) (bH.congr λj hj=>by rw[if_pos hj]));clear bH hA;go_wp2;go_ret;exact⟨_,rfl,qn,Hb⟩
theorem MU {l:List Nat} (h:Rd w A (ints (cE l))) (hi:i<l.length): ∃b aS,A=some ⟨b,aS,none⟩/\w.cell? ⟨b,aS+i,none⟩=some (.int .i64 ((l.getD i 0:Nat):Int)):=by
 obtain⟨b,aS,hA,hc⟩:=h.int_at (i:=i) (by rw[Si];exact hi);rw[Sj]at hc;exact⟨b,aS,hA,hc⟩
theorem aa6 (A:aN) (c:Nat) (l:List Nat) (w:World) (hr:Rd w A (ints (cE l))) (hc:17<=c) (Fi:c<=9223372036854775807) (hp:vA l):
  Calls prog 302 #[.slice A 17 c] w (eu w (.bool true)):=by
 obtain⟨EX,eT,Bz⟩:=hp;have YG: ∀i,i<17-> ∃b aS,A=some ⟨b,aS,none⟩/\w.cell? ⟨b,aS+i,none⟩=some (.int .i64 ((l.getD i 0:Nat):Int)):=λi hi=>MU hr ae;obtain⟨b,aS,hA,_⟩:=YG 0 ae;subst hA;have air: ∀i,i<17->w.cell? ⟨b,aS+i,none⟩=some (.int .i64 ((l.getD i 0:Nat):Int)):=λi hi=>by
  obtain⟨b',ve,h1,h2⟩:=YG i hi;injection h1 with h1
  injection h1 with h3 h4
  subst h3 h4;exact h2
 have alq: ∀i,i<17->l.getD i 0<=255:=λi hi=>by
  rw[dh,cL ae];exact eT _ (dY _)
 have HC:=aa air;have HD:=aa alq;have HT:=aa Bz;clear hr EX eT Bz YG air alq;go_in;go_wp2_with fail;go_loopw [12] (λx wr=> ∃k:Nat,k<=17/\x= .int .i64 (k:Nat)/\wr=w) (λx _=>17 -(intOf x).toNat);case atStart=>exact⟨0,ae,rfl,rfl⟩
 case round=>
  obtain⟨k,hk,rfl,rfl⟩:=hrel;by_cases aK:k<17
  ·have e1:decide ((k:Int)<(17:Int))=true:=by simp;omega
   have e2:(k:Int)<(17:Int):=ae;have c0:=HC.out k aK;have d0:=HD.out k aK;generalize l.getD k 0=x at c0 d0;have e3:decide ((x:Int)<0)=false:=ak;have e4:decide ((x:Int)>255)=false:=(by simp;omega);go_wp2;go_roundw;case rel=>exact⟨k+1,ae,by go_num,trivial⟩
   case measure=>exact cM
  ·obtain rfl:k=17:=ae;have e1:decide (((17:Nat):Int)<(17:Int))=false:=ak;have uG:=HC.out 16 ae;have d16:=HD.out 16 ae;have j1:=HT.out;generalize l.getD 16 0=x at uG d16 j1;by_cases h3:x<3
   ·have e3:decide ((x:Int)<3)=true:=(by simp;omega);clear j1;exact tp
   ·have e3:decide ((x:Int)<3)=false:=(by simp;omega);have hx:x=3:=(by rcases j1 with h|⟨h,_⟩<;>omega);have tv:=aa (show (∃i,1<=i/\i<=15/\l.getD i 0<255)\/l.getD 0 0<251 by rcases j1 with h|⟨_,h⟩;exact absurd h h3;exact h);clear j1 h3;subst hx;have e4:decide (((3:Nat):Int)>3)=false:=ak;go_wp2_with fail;go_loopw [34] (λx wv=> ∃k:Nat,k<=15/\x= .int .i64 (k:Nat)/\(∀i,1<=i->i<=k-> ¬l.getD i 0<255)/\wv=wr) (λx _=>15 -(intOf x).toNat);case atStart=>exact⟨0,ae,rfl,λi h1 h2=>ae,rfl⟩
    case round=>
     obtain⟨k,hk,rfl,qf,rfl⟩:=hrel;have P1:=aa qf;clear qf;by_cases aK:k<15
     ·have e5:decide ((k:Int)<(15:Int))=true:=(by simp;omega);have e6:(k:Int)<(15:Int):=ae;have c0:=HC.out (k+1) ae;rw[show aS+(k+1)=aS+1+k by omega]at c0;by_cases hx:l.getD (k+1) 0<255
      ·generalize l.getD (k+1) 0=x at c0 hx;have e7:decide ((x:Int)<255)=true:=(by simp;omega);clear hx;exact tp
      ·have Zw:=aa (show∀i,1<=i->i<=k+1-> ¬l.getD i 0<255 from λi h1 h2=>by
        by_cases h:i=k+1
        ·rw[h];exact hx
        ·exact P1.out i h1 ae)
       generalize l.getD (k+1) 0=x at c0 hx;have e7:decide ((x:Int)<255)=false:=(by simp;omega);clear hx;go_wp2;go_roundw;case rel=>exact⟨k+1,ae,by go_num,Zw,trivial⟩
       case measure=>exact cM
     ·obtain rfl:k=15:=ae;have e5:decide (((15:Nat):Int)<(15:Int))=false:=ak;have c0:=HC.out 0 ae;rw[Nat.add_zero]at c0;have h0:l.getD 0 0<251:=by
       rcases tv with⟨i,h1,h2,h⟩|h
       ·exact absurd h (P1 i h1 h2)
       ·exact h
      generalize l.getD 0 0=x at c0 h0;have e7:decide ((x:Int)<251)=true:=(by simp;omega);clear h0;exact tp
def xM:List Nat:= [3,7,11,15]
def ui:List Nat:= [4,8,12]
def vB (l:aF):Nat->List UInt8
 |0=>l
 |k+1=>(vB l k).set (xM.getD k 0) ((vB l k).getD (xM.getD k 0) 0 % 16)
def sP (l:aF):Nat->List UInt8
 |0=>l
 |k+1=>(sP l k).set (ui.getD k 0) ((sP l k).getD (ui.getD k 0) 0 -(sP l k).getD (ui.getD k 0) 0 % 4)
theorem MV (l:aF): ∀k,(vB l k).length=l.length
 |0=>rfl
 |k+1=>by rw[vB,List.length_set,MV l k]
theorem MW (l:aF): ∀k,(sP l k).length=l.length
 |0=>rfl
 |k+1=>by rw[sP,List.length_set,MW l k]
def xN (l:aF):aF:=sP (vB l 4) 3
theorem aa7 (l:aF):(xN l).length=l.length:=by rw[xN,MW,MV]
theorem aoF (k:Nat):xM.getD k 0<16:=by
 match k with
 |0|1|2|3=>decide
 |k+4=>simp[xM]
theorem aoG (k:Nat):ui.getD k 0<16:=by
 match k with
 |0|1|2=>decide
 |k+3=>simp[ui]
theorem aoH (u:UInt8):((u.toNat:Int)-(u.toNat:Int)% 4)% 256=((u - u % 4).toNat:Int):=by
 have h:=u.toNat_lt;rw[UInt8.toNat_sub,UInt8.toNat_mod];simp;omega
theorem aoI (r:ag) (w:World) (py:r.size=16):
  Calls prog 248 #[.string r] w (bF w (.tuple #[.string (bs (xN r.data.toList)),.bool true])):=by
 obtain⟨ai,w1,il,hB,hb,hs⟩:=MG w r w.heap.size rfl;have ka:r.data.toList.length=16:=py;have HL:=aa ka;have HB:=aa hB;have Hb:=aa hb;rw[py]at il;clear hB hb ka;generalize r.data.toList=l at HL HB⊢;have HA:=aa (show (w1.alloc (.cells #[.int .i64 3,.int .i64 7,.int .i64 11,.int .i64 15] 3)).heap[w1.heap.size]?=some (.cells (ints (cE xM)).toArray 3 (0,0)) from aR w1 _);have gF:=be w1 (.cells #[.int .i64 3,.int .i64 7,.int .i64 11,.int .i64 15] 3);replace HB:=aa (HB.below gF);replace Hb:=aX Hb gF;have Hs:=aa hs;clear gF hs;go_in;go_wp2_with fail;go_loopw [16] (λx wr=> ∃k:Nat,k<=4/\x= .int .i64 (k:Nat)/\nc wr w.heap.size (vB l k)/\wr.heap[w1.heap.size]?=some (.cells (ints (cE xM)).toArray 3 (0,0))/\aD w wr) (λx _=>4 -(intOf x).toNat);case atStart=>exact⟨0,ae,rfl,HB,HA,Hb⟩
 case round=>
  obtain⟨k,hk,rfl,hB,hA,hb⟩:=hrel;replace HB:=aa hB;replace HA:=aa hA;replace Hb:=aa hb;clear hb;by_cases aK:k<4
  ·have e1:decide ((k:Int)<(4:Int))=true:=by simp;omega
   have e2:(k:Int)<(4:Int):=ae;have c0:=(sO hA (i:=k) aK).1;have hp:=aoF k;obtain⟨q0,f0⟩:=hB (xM.getD k 0) (by rw[MV,HL.out];exact hp);have HS:=aa (show vB l (k+1)=(vB l k).set (xM.getD k 0) ((vB l k).getD (xM.getD k 0) 0 % 16) from rfl);generalize xM.getD k 0=p at c0 hp q0 f0 HS;generalize (vB l k).getD p 0=u at q0 HS;have e3:(p:Int)<16:=ae;have di:=HB.set p (u % 16);rw[<-HS.out,UInt8.toNat_mod,show ((u.toNat %(16:UInt8).toNat:Nat):Int)=(u.toNat:Int)% 16 by rfl]at di;have cZ:=aa di;clear hB hA di;go_wp2;go_roundw;case rel=>exact⟨k+1,ae,by go_num,cZ,(bz _ ⟨w.heap.size,_,none⟩ _ w1.heap.size (by have:=Hs.out;simp;omega)).trans HA,Hb.setCell (aM _) _⟩
   case measure=>exact cM
  ·obtain rfl:k=4:=ae;have e1:decide (((4:Nat):Int)<(4:Int))=false:=ak;obtain⟨l2,kz⟩: ∃l2,l2=vB l 4:=⟨_,rfl⟩
   have HE:=aa (show xN l=sP l2 3 by rw[kz];rfl);have jI:=aa (show l2.length=16 by rw[kz,MV];exact HL.out);rw[<-kz]at HB;have gF:=be wr (.cells #[.int .i64 4,.int .i64 8,.int .i64 12] 3);have HC:=aa (show (wr.alloc (.cells #[.int .i64 4,.int .i64 8,.int .i64 12] 3)).heap[wr.heap.size]?=some (.cells (ints (cE ui)).toArray 3 (0,0)) from aR wr _);have sf:=aa (show w.heap.size<wr.heap.size by have h1:=(HB 0 (by rw[jI.out];omega)).1;exact cU h1);replace HB:=aa (HB.below gF);replace Hb:=aX Hb gF;clear hB hA gF kz il;go_wp2_with fail;generalize wr.heap.size=G at HC sf⊢;go_loopw [29] (λx wv=> ∃k:Nat,k<=3/\x= .int .i64 (k:Nat)/\nc wv w.heap.size (sP l2 k)/\wv.heap[G]?=some (.cells (ints (cE ui)).toArray 3 (0,0))/\aD w wv) (λx _=>3 -(intOf x).toNat);case atStart=>exact⟨0,ae,rfl,HB,HC,Hb⟩
   case round=>
    obtain⟨k,hk,rfl,hB,hA,hb⟩:=hrel;replace HB:=aa hB;replace HC:=aa hA;replace Hb:=aa hb;clear hb;by_cases aK:k<3
    ·have e1:decide ((k:Int)<(3:Int))=true:=(by simp;omega);have e2:(k:Int)<(3:Int):=ae;have c0:=(sO hA (i:=k) aK).1;have hp:=aoG k;obtain⟨q0,f0⟩:=hB (ui.getD k 0) (by rw[MW,jI.out];exact hp);have HS:=aa (show sP l2 (k+1)=(sP l2 k).set (ui.getD k 0) ((sP l2 k).getD (ui.getD k 0) 0 -(sP l2 k).getD (ui.getD k 0) 0 % 4) from rfl);generalize ui.getD k 0=p at c0 hp q0 f0 HS;generalize (sP l2 k).getD p 0=u at q0 HS;have e3:(p:Int)<16:=ae;have di:=HB.set p (u - u % 4);rw[<-HS.out]at di;have cZ:=aa di;clear hB hA di;go_wp2_with fail;go_region_law (fail);all_goals
      go_wp2
      go_roundw
      case rel=>
       repeat apply Exists.intro
       refine⟨⟨k+1,ae,by go_num,?_,(bz _ ⟨w.heap.size,_,none⟩ _ G (by have:=sf.out;simp;omega)).trans HC,(show aD w (wr.setCell ⟨w.heap.size,p,none⟩ _) from Hb.setCell (aM _) _).drew⟩,rfl⟩
       rw[aoH]
       exact cZ.drew
      case measure=>simp[intOf];omega
    ·obtain rfl:k=3:=ae;have e1:decide (((3:Nat):Int)<(3:Int))=false:=ak;have CZ:=Ji hB ai 16 (by rw[MW,jI.out]);clear hB hA;go_wp2;go_ret2;rw[HE.out];exact⟨rfl,Hb⟩
def ng (l:aF):List Nat:=l.map (·.toNat)
theorem MX (l:aF):(ng l).length=l.length:=by simp[ng]
theorem aa8 (l:aF): ∀x∈ng l,x<=255:=by
 intro x hx;obtain⟨u,_,rfl⟩:=List.mem_map.1 hx;have:=u.toNat_lt;omega
theorem aa9 (l:List Nat) (x:Nat):ints (cE (l++ [x]))=ints (cE l)++ [.int .i64 (x:Int)]:=by simp[ints,cE]
theorem aa' (s:ag) (x:Nat) (M:aN) (c:Nat) (w:World) (hM:Rd w M (ints (cE [x]))) (hs:s.size<=16):
  Calls prog 249 #[.string s,.slice M 1 c] w λe w'=> ∃A n ai,e= .returned (.slice A n ai)/\n=s.size+1/\n<=ai/\ai<=maxLen/\Rd w' A (ints (cE (ng s.data.toList++ [x])))/\aD w w':=by
 have j6:(Instr.makeSlice 55 (.int .i64 0) (.int .i64 17)).run prog w= .ok (.slice (some ⟨w.heap.size,0,none⟩) 0 17) (w.alloc (.cells (madeCells #[.int .i64 0] 17) 3)):=run_make_room (P:=prog) 55 3 (.int .i64 0) 8 underlying55 rD rfl .i64 .i64 17 ae ae w;have HO:=aa (World.ownsRow_made (base:=w.heap.size) (size:=1) (e:=3) w (madeCells #[.int .i64 0] 17) 17 (aM _) au (by simp[madeCells]));have HB:=aa (be w (.cells (madeCells #[.int .i64 0] 17) 3));have HM:=aa hM;have HS:=aa hs;go_in;go_wp2_with fail;go_loopw [5,10] (λv y wr=> ∃(k:Nat) (A:aN) (ai:Nat),k<=s.size/\y= .int .i64 (k:Nat)/\v= .slice A k ai/\wr.ownsRow w.heap.size 3 1 (.slice A k ai) k (ints (cE (ng (s.data.toList.take k))))/\aD w wr) (λ_ y _=>s.size -(intOf y).toNat);case atStart=>exact⟨0,_,17,ae,rfl,rfl,HO,HB⟩
 case round=>
  obtain⟨k,A,ai,hk,rfl,rfl,ho,hb⟩:=hrel;replace HO:=aa ho;replace HB:=aa hb;have aFz:=HS.out;by_cases aK:k<s.size
  ·have e1:decide ((k:Int)<(s.size:Int))=true:=by simp;omega
   have e2:(k:Int)<(s.size:Int):=ae;have cY:k<s.data.toList.length:=aK;have HT:=aa (show ng (s.data.toList.take (k+1))=ng (s.data.toList.take k)++ [(s.data.toList[k]).toNat] by
    rw[List.take_succ_eq_append_getElem cY,ng,List.map_append];rfl)
   go_wp2_with (at_builtin;refine oS ah (.tmp 13) (.tmp 18) 55 ah w.heap.size 3 (.int .i64 0) 1 8 underlying55 rD rfl ae wr _ _ _ _ _ ah HO _ 1 1 ah ah ah ah ae ae ae (by exact HB.size) ?_);intro g2 eM w3 ri aL _ _ _;have iu:Hid (w3.ownsRow w.heap.size 3 1 (.slice (aw g2) (k+1) eM) (k+1) (ints (cE (ng (s.data.toList.take (k+1)))))):=aa (by
    rw[HT.out,aa9];have h:=ri;have hu:=(s.data.toList[k]).toNat_lt;rw[show s[k]=s.data.toList[k] from rfl,IntWalk.wrap64_in _ ⟨ae,ae⟩]at h;exact h)
   have dD:=aa (HB.trans aL);go_wp2;go_roundw;case rel=>exact⟨k+1,some ⟨g2,0,none⟩,eM,ae,by go_num,rfl,iu,dD⟩
   case measure=>exact cM
  ·obtain rfl:k=s.size:=ae;have e1:decide ((s.size:Int)<(s.size:Int))=false:=ak;rw[List.take_of_length_le (Nat.le_of_eq (bP s))]at HO;obtain⟨bm,om,hMe,_⟩:=MU HM (i:=0) ak;subst hMe;have Yy:=aa (HM.below HB);go_wp2_with (at_builtin;refine amf ah (.tmp 21) (.tmp 22) 55 ah w.heap.size 3 (.int .i64 0) 1 8 underlying55 rD rfl ae wr _ _ _ _ ah HO _ 1 _ ah Yy ah (by simp[ints,cE,Value.oneCell']) ae ae ae HB.size ?_);intro g2 eM w3 ri aL _ _ _;have dD:=aa (HB.trans aL);have iu:Hid (w3.ownsRow w.heap.size 3 1 (.slice (aw g2) (s.size+1) eM) (s.size+1) (ints (cE (ng s.data.toList++ [x])))):=aa (by rw[aa9];exact ri);go_wp2;go_ret;obtain⟨_,h|⟨g',ja,bK,hv,_,_,h1,h2,_⟩⟩:=iu.out
   ·cases h.1
   ·injection hv with _ _ hc
    subst hc;exact⟨_,_,_,rfl,rfl,h1,h2,gz iu,dD⟩
def F7 (cH r:List Nat) (p:aF):List Nat:=sM (qG (nU (pM (i7 cH 17) (i7 (ng p++ [1]) (p.length+1)) 5) (i7 r 17) 5))
theorem aoJ (cH r:List Nat) (p:aF):vA (F7 cH r p):=aou _
theorem Sn {l:List Nat} (hl: ∀x∈l,x<=255) (k:Nat) (hk:k<=17) (j:Nat):(i7 l k).getD j 0<=268435712:=by
 rcases mg j 5 with h|h
 ·exact bD (Sb hl k hk j) (Sa k hk j h)
 ·rw[aox _ (xL l k) j h];exact Nat.zero_le _
theorem aoK (hn:n.length=5) (h1: ∀j,n.getD j 0<=268435712) (h2: ∀j,m.getD j 0<=268435712) (j:Nat):(pM n m 5).getD j 0<=536871424:=by
 rw[Sc n m hn 5 ae j];have a:=h1 j;have b:=h2 j;split<;>omega
theorem MY {W':World} {t:Addr} {v x:Value} (h:(W.cell? p=some u/\W.cell? q=some v)/\(W.cell? r=some x/\W.cell? s=some y)/\W.cell? t=some z) (hb:aD W W'):(W'.cell? p=some u/\W'.cell? q=some v)/\(W'.cell? r=some x/\W'.cell? s=some y)/\W'.cell? t=some z:=
 ⟨i6 h.1 hb,i6 h.2.1 hb,(i6 ⟨h.2.2,h.2.2⟩ hb).1⟩
theorem aoL {t:Addr} {v x:Value} (h:(W.cell? p=some u/\W.cell? q=some v)/\(W.cell? r=some x/\W.cell? s=some y)/\W.cell? t=some z):(W.drew.cell? p=some u/\W.drew.cell? q=some v)/\(W.drew.cell? r=some x/\W.drew.cell? s=some y)/\W.drew.cell? t=some z:=h
theorem aoM (n:List Nat):sL (qG n):=by
 unfold qG F6 sL;simp only[List.getD_cons_zero,List.getD_cons_succ];refine⟨?_,?_,?_,?_,?_⟩<;>exact Nat.mod_lt _ ae
theorem aoN (A R:aN) (c d:Nat) (cH r:List Nat) (p:ag) (w:World) (hA:Rd w A (ints (cE cH))) (hR:Rd w R (ints (cE r))) (hc:17<=c) (Fi:c<=9223372036854775807) (hd:17<=d) (hd9:d<=9223372036854775807) (ha:vA cH) (hr:vA r) (Dr:1<=p.size) (ali:p.size<=16):
  Calls prog 251 #[.slice A 17 c,.slice R 17 d,.string p] w λe w'=> ∃B,e= .returned (.tuple #[.slice B 17 17,.bool true])/\Rd w' B (ints (cE (F7 cH r p.data.toList)))/\aD w w':=by
 have HA:=aa hA;have HR:=aa hR;have HC:=aa (And.intro (And.intro hc Fi) (And.intro hd hd9));have Ig:=aa ha;have zi:=aa hr;have Hp:=aa (And.intro Dr ali);have d1:decide ((p.size:Int)<1)=false:=by simp;omega
 have d2:decide ((p.size:Int)>16)=false:=by simp;omega
 clear hA hR hc Fi hd hd9 ha hr Dr ali;go_in;go_wp2_with fail;refine (aa6 A c cH w HA HC.1.1 HC.1.2 Ig).mono ?_;rintro e w' ⟨rfl,rfl⟩;go_wp2_with fail;refine (aa6 R d r _ HR HC.2.1 HC.2.2 zi).mono ?_;rintro e w2 ⟨rfl,rfl⟩;go_wp2_with fail;refine (Sm A 17 c cH _ HA Ig.1.symm (by rw[Ig.1];omega) Ig.2.1).mono ?_;rintro e w2 ⟨rfl,av⟩;obtain⟨na,lh⟩: ∃na,na=i7 cH 17:=⟨_,rfl⟩
 have V4:=aa (show na.length=5 by rw[lh];exact xL _ _);have Hnb:=aa (show∀j,na.getD j 0<=268435712 by rw[lh];exact Sn Ig.2.1 17 ae);have j5:=aa lh;rw[Ig.1,<-lh];have gF:=be w2 (.cells #[.int .i64 1] 3);have XB:=bg av gF;have HB:=aa XB;replace HR:=aa (HR.below XB);clear lh gF av XB;go_wp2_with fail;refine (aa' p 1 _ 1 _ (show Rd _ _ (ints (cE [1])) from jk w2 3 #[.int .i64 1] _ rfl) Hp.2).mono ?_;rintro e w3 ⟨D,nD,cD,rfl,hnD,hcD,Qd,hrD,aL⟩;replace HB:=aX HB aL;replace HR:=aa (HR.below aL);have HD:=aa hrD;have HlD:=aa (show nD=(ng p.data.toList++ [1]).length by rw[hnD,dx,MX];rfl);have E0:=aa (show∀x∈ng p.data.toList++ [1],x<=255 from λx hx=>by
  rcases List.mem_append.1 hx with h|h
  ·exact aa8 _ x h
  ·have:x=1:=by simpa using h
   omega)
 have alD:=aa (show (ng p.data.toList++ [1]).length<=17 by rw[dx,MX];have:=Hp.2;show p.size+1<=17;omega);clear aL hrD hnD hcD Qd;go_wp2_with fail;refine (Sm D nD cD _ _ HD HlD alD E0).mono ?_;rintro e w4 ⟨rfl,aP⟩;obtain⟨nb,nK⟩: ∃nb,nb=i7 (ng p.data.toList++ [1]) (ng p.data.toList++ [1]).length:=⟨_,rfl⟩
 have aBO:=aa (show nb.length=5 by rw[nK];exact xL _ _);have alB:=aa (show∀j,nb.getD j 0<=268435712 by rw[nK];exact Sn E0 _ alD);have pD:=aa (show nb=i7 (ng p.data.toList++ [1]) (p.data.toList.length+1) by rw[nK,dx,MX];rfl);rw[<-nK];replace HB:=aX HB aP;replace HR:=aa (HR.below aP);clear nK aP;go_wp2_with fail;refine (aow na nb _ V4 aBO (λj _=>bD (Hnb j) au) (λj _=>bD (alB j) au)).mono ?_;rintro e w5 ⟨rfl,aY⟩;obtain⟨ns,vk⟩: ∃ns,ns=pM na nb 5:=⟨_,rfl⟩
 have akP:=aa (show ns.length=5 by rw[vk,Jy];exact V4.out);have ajv:=aa (show∀j,ns.getD j 0<=536871424 by rw[vk];exact aoK V4 Hnb alB);have Yp:=aa vk;rw[<-vk];replace HB:=aX HB aY;replace HR:=aa (HR.below aY);obtain⟨s0,s1,s2,s3,s4,ru⟩:=oZ akP.out;have Xn:ly ns= .agg #[.int .i64 (s0:Nat),.int .i64 (s1:Nat),.int .i64 (s2:Nat),.int .i64 (s3:Nat),.int .i64 (s4:Nat)]:=by rw[ru];rfl
 have aDY:=aa Xn;rw[Xn];have gF:=be w5 (.cells #[.int .i64 (s0:Nat),.int .i64 (s1:Nat),.int .i64 (s2:Nat),.int .i64 (s3:Nat),.int .i64 (s4:Nat)] 352);have H5:=aa (aR w5 (.cells #[.int .i64 (s0:Nat),.int .i64 (s1:Nat),.int .i64 (s2:Nat),.int .i64 (s3:Nat),.int .i64 (s4:Nat)] 352));replace HB:=aX HB gF;replace HR:=aa (HR.below gF);clear vk aY ru Xn gF;obtain⟨nr,Lx⟩: ∃nr,nr=i7 r 17:=⟨_,rfl⟩
 have azy:=aa (show nr.length=5 by rw[Lx];exact xL _ _);have ah0:=aa (show∀j,nr.getD j 0<=268435712 by rw[Lx];exact Sn zi.2.1 17 ae);obtain⟨nt,j0⟩: ∃nt,nt=nU ns nr 5:=⟨_,rfl⟩
 have aCW:=aa (show nt.length=5 by rw[j0];exact F4 _ _ _);have aCx:=aa (show pa nt by rw[j0];exact aoz ajv ah0);obtain⟨nl,mS⟩: ∃nl,nl=qG nt:=⟨_,rfl⟩
 have aC0:=aa (show nl.length=5 by rw[mS];rfl);have aD3:=aa (show sL nl by rw[mS];exact aoM _);have HE:=aa (show F7 cH r p.data.toList=sM nl by rw[mS,j0,Lx,Yp.out,j5.out,pD.out];rfl);have ev:=aa (show∀W,Rd W R (ints (cE r))->Calls prog 303 #[.slice R 17 d] W λe w'=>e= .returned (ly nr)/\aD W w' from λW h=>by
  have e:=Sm R 17 d r W h zi.1.symm (by rw[zi.1];omega) zi.2.1;rw[zi.1,<-Lx]at e;exact e)
 have HTm:=aa (show∀W,Calls prog 305 #[.agg #[.int .i64 (s0:Nat),.int .i64 (s1:Nat),.int .i64 (s2:Nat),.int .i64 (s3:Nat),.int .i64 (s4:Nat)],ly nr] W λe w'=>e= .returned (ly nt)/\aD W w' from λW=>by rw[<-aDY.out,j0];exact aoy ns nr W akP azy ajv ah0);have QM:=aa (show∀W,Calls prog 306 #[ly nt] W λe w'=>e= .returned (ly nl)/\aD W w' from λW=>by rw[mS];exact aoA nt W aCW aCx);have HDg:=aa (λW=>aoE nl W aC0 aD3);clear Lx j0 mS;go_wp2_with fail;obtain⟨g5,pH⟩: ∃g,g=w5.heap.size:=⟨_,rfl⟩
 obtain⟨w6,qZ⟩: ∃w6,w6=w5.alloc (.cells #[.int .i64 (s0:Nat),.int .i64 (s1:Nat),.int .i64 (s2:Nat),.int .i64 (s3:Nat),.int .i64 (s4:Nat)] 352):=⟨_,rfl⟩
 rw[<-qZ]at HB HR H5⊢;rw[<-pH]at H5⊢;clear qZ pH;obtain⟨⟨x0,x1,x2,x3,x4⟩,_⟩:=Ac H5.out;have q6:(w6.cell? ⟨g5,0,none⟩=some (.int .i64 (s0:Nat))/\w6.cell? ⟨g5,1,none⟩=some (.int .i64 (s1:Nat)))/\(w6.cell? ⟨g5,2,none⟩=some (.int .i64 (s2:Nat))/\w6.cell? ⟨g5,3,none⟩=some (.int .i64 (s3:Nat)))/\w6.cell? ⟨g5,4,none⟩=some (.int .i64 (s4:Nat)):=⟨⟨x0,x1⟩,⟨x2,x3⟩,x4⟩
 clear x0 x1 x2 x3 x4;go_region_held3 (λw'=>(w'.cell? ⟨g5,0,none⟩=some (.int .i64 (s0:Nat))/\w'.cell? ⟨g5,1,none⟩=some (.int .i64 (s1:Nat)))/\(w'.cell? ⟨g5,2,none⟩=some (.int .i64 (s2:Nat))/\w'.cell? ⟨g5,3,none⟩=some (.int .i64 (s3:Nat)))/\w'.cell? ⟨g5,4,none⟩=some (.int .i64 (s4:Nat)))
  (first|with_reducible assumption|with_reducible exact aoL q6|with_reducible exact q7|with_reducible exact q8|with_reducible exact q9|with_reducible exact Qr)
  (first
   |((go_at_call 303;refine (ev _ (HR.below ((aI _ w6).drew))).mono ?_);rintro _ w7 ⟨rfl,QY⟩;have cJ:=bg ((aI _ w6).drew) QY;have q7:=MY q6 cJ;have wW:=aX HB cJ)
   |((go_at_call 305;refine (HTm _).mono ?_);rintro _ w8 ⟨rfl,cG⟩;have q8:=MY q7 cG;have ze:=aX wW cG)
   |((go_at_call 306;refine (QM _).mono ?_);rintro _ w9 ⟨rfl,cT⟩;have q9:=MY q8 cT;have AR:=aX ze cT)
   |((go_at_call 307;refine (HDg _).mono ?_);rintro _ Df ⟨B,rfl,hrB,hb10⟩;have Qr:=MY q9 hb10;have aDb:=aX AR hb10))
 go_wp2;go_ret2;rw[HE.out];exact⟨B,rfl,hrB,aDb⟩
attribute [local go_sem] Oper.semAt_some
abbrev xO:= {b:ag // 1<=b.size/\b.size<=16}
def JD (s:ag) (i:Nat):xO:=
 if h:1<=(s.extract (16*i) (min (16*i+16) s.size)).size/\(s.extract (16*i) (min (16*i+16) s.size)).size<=16 then ⟨s.extract (16*i) (min (16*i+16) s.size),h⟩ else ⟨bs [0],au⟩
theorem aoO {s:ag} (h:16*i<s.size):(JD s i).1=s.extract (16*i) (min (16*i+16) s.size):=by
 have h2:1<=(s.extract (16*i) (min (16*i+16) s.size)).size/\(s.extract (16*i) (min (16*i+16) s.size)).size<=16:=by
  exact OS
 unfold JD;rw[dif_pos h2]
def xQ (s:ag) (k:Nat):List xO:=(List.range k).map (JD s)
theorem aoP (s:ag) (k:Nat):xQ s (k+1)=xQ s k++ [JD s k]:=by simp[xQ,List.range_succ]
theorem aoQ (s:ag) (k:Nat):(xQ s k).length=k:=by simp[xQ]
theorem aoR (F:Fence) (n:Nat) (hf:F.fn 301) (mn:F.round=none) (hn:1<=n) (l Bs N:Nat) (s:ag) (hs:s.size<=1000000000) (hN:N=(s.size+15)/ 16) (J Jx:List xO->World->Prop) (hY: ∀aQ x W,J aQ W->aQ.length<N->YieldAt F (n - 1) prog l #[.string x.1] W λe W'=>
   (e= .returned (.bool true)/\J (aQ++ [x]) W'/\rG [Bs] W W')\/(e= .returned (.bool false)/\Jx (aQ++ [x]) W')) (W:World) (LE:W.cell? ⟨Bs,0,none⟩=some (.string s)) (h0:J [] W):
  CallsIn F n prog 301 #[.func (.yield l) #[] #[],.pointer (aw Bs)] W λe W'=>(∃v,e= .returned v)/\
   ((∃ys,ys=xQ s N/\J ys W')\/(∃aQ,True/\Jx aQ W')):=by
 have HY:=aa hY;have HN:=aa hN;refine callsIn_of_wp func301 rfl hf ?_ mn;simp only[ntmps301,List.size_toArray,List.length_cons,List.length_nil,Nat.reduceAdd,Nat.reduceSub,Array.replicate_succ,Array.replicate_zero,List.push_toArray,List.append_toArray,List.nil_append,List.cons_append];gi_wp2;gi_loopw [3] (λv wr=> ∃k:Nat,k<=N/\v= .int .i64 ((16*k:Nat):Int)/\wr.cell? ⟨Bs,0,none⟩=some (.string s)/\J (xQ s k) wr) (λv _=>s.size+16 -(intOf v).toNat);case atStart=>exact⟨0,ae,rfl,LE,h0⟩
 case round=>
  obtain⟨k,hk,rfl,CZ,hJ⟩:=hrel;have hNk:=HN.out;by_cases aK:16*k<s.size
  ·have Qt:k<N:=ae;have hx:=aoO aK;obtain⟨fn,tmps,assign,body,hy,hR⟩:=HY.out _ (JD s k) wr hJ (by rw[aoQ];exact Qt);rw[hx]at hy;have HR:=aa hR;have vf:(Instr.slice 9 (.string s) (some (.int .i64 (16*(k:Int)))) (some (.int .i64 (min (16*(k:Int)+16) (s.size:Int)))) none).run prog wr= .ok (.string (s.extract (16*k) (min (16*k+16) s.size))) wr:=by
    have h:=run_slice_string (P:=prog) wr 9 s .i64 .i64 (16*(k:Int)) (min (16*(k:Int)+16) (s.size:Int)) underlying9 ae ae ae;rw[show (min (16*(k:Int)+16) (s.size:Int)).toNat=min (16*k+16) s.size by omega,show (16*(k:Int)).toNat=16*k by omega]at h;exact h
   gi_wp2;refine HR.mono ?_;rintro e W3 (⟨rfl,hJ3,jx⟩|⟨rfl,hJx3⟩)
   ·have Lf:W3.cell? ⟨Bs,0,none⟩=some (.string s):=(fB (jx Bs ak)).trans CZ;gi_wp2;go_roundw;case rel=>exact⟨k+1,ae,by go_num,Lf,by rw[aoP];exact hJ3⟩
    case measure=>exact cM
   ·exact OJ
  ·obtain rfl:k=N:=ae;gi_wp2;go_end0;exact⟨⟨_,rfl⟩,.inl ⟨_,rfl,hJ⟩⟩
theorem aoS (F:Fence) (n:Nat) (hf:F.fn 250) (mn:F.round=none) (s:ag) (w:World):
  CallsIn F n prog 250 #[.string s] w λe w'=>e= .returned (.func (.func 301) #[] #[.pointer (some ⟨w.heap.size,0,none⟩)])/\w'=w.alloc (.cells #[.string s] 9):=by
 refine callsIn_of_wp func250 rfl hf ?_ mn;simp only[ntmps250,List.size_toArray,List.length_cons,List.length_nil,Nat.reduceAdd,Nat.reduceSub,Array.replicate_succ,Array.replicate_zero,List.push_toArray,List.append_toArray,List.nil_append,List.cons_append];exact G1
attribute [local go_sem] Oper.semAt_some
def JE:List Nat:=List.replicate 17 0
theorem aoT:vA JE:=⟨rfl,λx hx=>by rw[(List.mem_replicate.1 hx).2];omega,.inl au⟩
def BS (r:List Nat) (aQ:List xO):List Nat:=aQ.foldl (λcH x=>F7 cH r x.1.data.toList) JE
theorem aoU (r:List Nat) (aQ:List xO) (x:xO):BS r (aQ++ [x])=F7 (BS r aQ) r x.1.data.toList:=by simp[BS]
theorem aba (r:List Nat): ∀(aQ:List xO) {a:List Nat},vA a->vA (aQ.foldl (λcH x=>F7 cH r x.1.data.toList) a)
 | [],_,h=>h
 |x::aQ,_,_=>aba r aQ (aoJ _ _ _)
theorem abb (r:List Nat) (aQ:List xO):vA (BS r aQ):=aba r aQ aoT
def xR (key:aF):List Nat:=ng (xN (key.take 16))++ [0]
theorem aoV (h:key.length=32):vA (xR key):=by
 have hl:(ng (xN (key.take 16))).length=16:=by rw[MX,aa7,List.length_take];omega
 refine⟨by rw[xR,dx,hl];rfl,λx hx=>?_,.inl ?_⟩
 ·rcases List.mem_append.1 hx with h|h
  ·exact aa8 _ x h
  ·have:x=0:=by simpa using h
   omega
 ·rw[xR,dh,ux ae,hl];decide
def Ad (cH:List Nat) (key:aF):Nat->Nat
 |0=>0
 |k+1=>(Ad cH key k+(cH.getD k 0+(key.getD (16+k) 0).toNat))/ 256
def sQ (cH:List Nat) (key:aF):aF:=(List.range 16).map λk=>UInt8.ofNat (Ad cH key k+(cH.getD k 0+(key.getD (16+k) 0).toNat))
def DL (key:aF) (s:ag):aF:=sQ (BS (xR key) (xQ s ((s.size+15)/ 16))) key
theorem aoW (key:aF) (s:ag):(DL key s).length=16:=by simp[DL,sQ]
theorem abc {cH:List Nat} (h: ∀i,cH.getD i 0<=255) (key:aF): ∀k,Ad cH key k<=3
 |0=>Nat.zero_le _
 |k+1=>by
  have ih:=abc h key k;have h1:=h k;have h2:=(key.getD (16+k) 0).toNat_lt;rw[Ad];omega
structure TI (w:World) (g8 g9 gs:Nat) (R:aN) (d:Nat) (r:List Nat) (aQ:List xO) (W:World):Prop where
 ex: ∃B c,bj W g9 #[.slice B 17 c] 55/\17<=c/\c<=9223372036854775807/\Rd W B (ints (cE (BS r aQ)))
 h8:bj W g8 #[.slice R 17 d] 55
 rd:Rd W R (ints (cE r))
 bw:aD w W
 gs:gs<W.heap.size
theorem abd {C:bx} (h:X.heap[b]?=some (.cells C t (0,0))) (hg:X.grownBy Y row) (hr: ∀r,row=some r-> ∃o:Obj,X.heap[r]?=some o/\o.isCells=false):Y.heap[b]?=some (.cells C t (0,0)):=by
 refine (hg.block b (bf h) (λe=>?_)).trans h;obtain⟨o,ho,hc⟩:=hr b e.symm;rw[h]at ho;exact OR
theorem abe {xs:bJ} (h:Rd X A xs) (hg:X.grownBy Y row) (hr: ∀r,row=some r-> ∃o:Obj,X.heap[r]?=some o/\o.isCells=false):Rd Y A xs:=λi u hu=>by
 obtain⟨b,aS,hA,hc⟩:=h i u hu;refine⟨b,aS,hA,(fB (hg.block b (cU hc) (λe=>?_))).trans hc⟩;obtain⟨o,ho,hf⟩:=hr b e.symm;unfold World.cell? at hc;rw[ho]at hc;cases o<;>first|(cases hf;done)|(have h9:(none:Option Value)=some u:=hc;cases h9)
theorem aoX (w:World) (g8 g9 gs:Nat) (R:aN) (d:Nat) (r:List Nat) (B:Nat) (hB:w.heap.size<=B):OwnFrom B (TI w g8 g9 gs R d r):=λs X Y row h hg hr=>by
 obtain⟨B',c,h1,h2,h3,h4⟩:=h.ex;have mj:=λr e=>(hr r e).2;exact⟨⟨B',c,abd h1 hg mj,h2,h3,abe h4 hg mj⟩,abd h.h8 hg mj,abe h.rd hg mj,ownFrom_below (β:=Unit) (w₀:=w) (aM _) hB () X Y row h.bw hg hr,jY h.gs hg.size⟩
theorem abf {B:aN} {n c:Nat} {fr:Nat×Nat} {xs:List Int} (h:Rd W A (ints xs)) (hb:W.heap[g]?=some (.cells #[.slice B n c] t fr)) (v:Value):Rd (W.setCell ⟨g,0,none⟩ v) A (ints xs):=λi u hu=>by
 obtain⟨b,aS,hA,hc⟩:=h i u hu;refine⟨b,aS,hA,(fB (bz W ⟨g,0,none⟩ v b (λe=>?_))).trans hc⟩;subst e;obtain⟨x,hx⟩: ∃x,u= .int .i64 x:=by
  have:=List.mem_of_getElem? hu;obtain⟨x,_,rfl⟩:=List.mem_map.1 this;exact⟨x,rfl⟩
 subst hx;unfold World.cell? at hc;simp only[hb]at hc;rcases Nat.eq_zero_or_pos (aS+i) with e|e
 ·rw[e]at hc;simp at hc
 ·rw[Array.getElem?_eq_none (by simp;omega)]at hc;cases hc
theorem aoY (h:W.heap[g]?=some (.cells (madeCells #[.int .i64 0] 17) t (0,0))):Rd W (aw g) (ints (cE JE)):=by
 have e:madeCells #[.int .i64 0] 17=(ints (cE JE)).toArray:=ax;rw[e]at h;intro i u hu;refine⟨g,0,rfl,?_⟩;rw[Nat.zero_add,cell_of_row W g i _ _ _ h];simpa using hu
theorem MZ (h:w.heap[g]?=some (.cells #[a] t (0,0))):w.cell? ⟨g,0,none⟩=some a/\w.frozen? ⟨g,0,none⟩=false:=by
 refine⟨?_,?_⟩
 ·exact Ez
 ·unfold World.frozen?;simp only[h];simp
theorem aoZ (key:ag) (i:Nat) (h:i<key.size):key[i]=key.data.toList.getD i 0:=by
 rw[dh,cL (by exact h)];rfl
theorem abg (a b c:Nat):(a:Int)+((b:Int)+(c:Int))=((a+(b+c):Nat):Int):=ae
theorem ao0 (T:Nat):Value.int .i64 ((T:Int)/ 256)=Value.int .i64 ((T / 256:Nat):Int):=congrArg _ ae
theorem ao1 (T:Nat):((T:Nat):Int)% 256=((UInt8.ofNat T).toNat:Int):=by rw[UInt8.toNat_ofNat'];omega
theorem ao2 (cH:List Nat) (key:aF) (k:Nat) (h:k<16):(sQ cH key).getD k 0=UInt8.ofNat (Ad cH key k+(cH.getD k 0+(key.getD (16+k) 0).toNat)):=by simp[sQ,h]
theorem ao3 (cH:List Nat) (key:aF) (k:Nat):Ad cH key (k+1)=(Ad cH key k+(cH.getD k 0+(key.getD (16+k) 0).toNat))/ 256:=rfl
theorem ao4 {T:Nat} {l:aF} (h:w.rowIs g t 16 (λj=> .int .u8 (if j<k then ((l.getD j 0).toNat:Int) else 0))) (hT:l.getD k 0=UInt8.ofNat T):
  (w.setCell ⟨g,k,none⟩ (.int .u8 ((T:Int)% 256))).rowIs g t 16 (λj=> .int .u8 (if j<k+1 then ((l.getD j 0).toNat:Int) else 0)):=by
 rw[ao1,<-hT];refine (h.set k _).congr λj _=>?_;by_cases hj:j=k
 ·rw[if_pos hj,if_pos ae,hj]
 ·exact ahF
theorem ao5 {cH:List Nat} (h:w.rowIs g t 16 (λj=> .int .u8 (if j<16 then (((sQ cH key).getD j 0).toNat:Int) else 0))):Rd w (aw g) (dK (sQ cH key)):=λj u hu=>by
 have hj:j<16:=by
  rcases mg j 16 with h|h
  ·exact h
  ·simp[dK,sQ,h]at hu
 refine⟨_,0,rfl,?_⟩;rw[Nat.zero_add,h.cell hj,if_pos hj];have hl:j<(sQ cH key).length:=by simp[sQ];exact hj
 have:u= .int .u8 ((sQ cH key)[j].toNat:Int):=by
  rw[dK,nA,cL hl]at hu;simpa[eq_comm] using hu
 rw[this,dh,cL hl];rfl
theorem ao6 (key s:ag) (w:World) (hk:key.size=32) (hs:s.size<=8200):
  Calls prog 172 #[.string key,.string s] w (bF w (.tuple #[.string (bs (DL key.data.toList s)),.int .i64 0])):=by
 have HK:=aa hk;have HS:=aa hs;have d1:((key.size:Int) !=32)=false:=by simp;omega
 have d2:decide ((s.size:Int)>8200)=false:=by simp;omega
 have VY:(16:Int)<=(key.size:Int):=ae;have Yt:(key.extract 0 16).size=16:=by rw[Cy];omega
 have C4:(key.extract 0 16).data.toList=key.data.toList.take 16:=by rw[lR,sD,List.drop_zero]
 have HC:=aa (show∀W,Calls prog 248 #[.string (key.extract 0 16)] W λe w'=>e= .returned (.tuple #[.string (bs (xN (key.data.toList.take 16))),.bool true])/\aD W w' from λW=>by rw[<-C4];exact aoI _ W Yt);have ka:(xN (key.data.toList.take 16)).length=16:=by rw[aa7,List.length_take,bP];omega
 have HD:=aa (show∀W M c,Rd W M (ints (cE [0]))->Calls prog 249 #[.string (bs (xN (key.data.toList.take 16))),.slice M 1 c] W λe w'=> ∃A n ai,e= .returned (.slice A n ai)/\n=17/\n<=ai/\ai<=maxLen/\Rd w' A (ints (cE (xR key.data.toList)))/\aD W w' from λW M c h=>(aa' (bs (xN (key.data.toList.take 16))) 0 M c W h (by rw[ei,ka];omega)).mono λe w' ⟨A,n,ai,h1,h2,h3⟩=>⟨A,n,ai,h1,by rw[h2,ei,ka],h3⟩);have Hkr:=aa (aoV (key:=key.data.toList) hk);have j6: ∀W,(Instr.makeSlice 55 (.int .i64 17) (.int .i64 17)).run prog W= .ok (.slice (some ⟨W.heap.size,0,none⟩) 17 17) (W.alloc (.cells (madeCells #[.int .i64 0] 17) 3)):=λW=>run_make_row' (P:=prog) 55 3 (.int .i64 0) 8 underlying55 rD rfl .i64 .i64 17 ae ae W;clear hk hs Yt C4 ka;refine (callsIn_wide (n:=3)).1 ?_;refine callsIn_of_wp_marks func172 rfl trivial ?_ rfl;simp only[ntmps172,List.size_toArray,List.length_cons,List.length_nil,Nat.reduceAdd,Nat.reduceSub,Array.replicate_succ,Array.replicate_zero,List.push_toArray,List.append_toArray,List.nil_append,List.cons_append];gi_wp2_with (first
  |(refine⟨trivial,?_⟩;gi_at_call 248;refine (callsIn_wide.2 (HC _)).mono ?_;rintro e w1 ⟨rfl,cS⟩)
  |(refine⟨trivial,?_⟩;gi_at_call 249;refine (callsIn_wide.2 (HD _ _ 1 (show Rd _ _ (ints (cE [0])) from jk w1 3 #[.int .i64 0] _ rfl))).mono ?_;rintro e w2 ⟨R,n,d,rfl,rfl,IH,hd2,dw,cl⟩)
  |(refine⟨trivial,?_⟩;gi_at_call 250;refine (aoS Fence.wide _ trivial rfl _ _).mono ?_;rintro e w3 ⟨rfl,rfl⟩))
 obtain⟨N,hN⟩: ∃N,N=(s.size+15)/ 16:=⟨_,rfl⟩
 have HN:=aa hN;clear hN;have hsN:s.size<=1000000000:=by have:=HS.out;omega
 obtain⟨h8,hz,h9,vj,aP⟩:=aa3 w2 #[.slice R 17 d] (madeCells #[.int .i64 0] 17) #[.slice (some ⟨w2.heap.size+1,0,none⟩) 17 17] #[.string s] 55 3 55 9;have ald:=be w1 (.cells #[.int .i64 0] 3);have dV:=aa (bg cS (bg ald cl));have iK:=aa (bg dV aP);have aiW:=dw.below aP;have PP:Rd (((((w2.alloc (.cells #[.slice R 17 d] 55)).alloc (.cells (madeCells #[.int .i64 0] 17) 3)).alloc (.cells #[.slice (some ⟨w2.heap.size+1,0,none⟩) 17 17] 55)).alloc (.cells #[.string s] 9))) (some ⟨w2.heap.size+1,0,none⟩) (ints (cE JE)):=aoY hz;have cg:(((((w2.alloc (.cells #[.slice R 17 d] 55)).alloc (.cells (madeCells #[.int .i64 0] 17) 3)).alloc (.cells #[.slice (some ⟨w2.heap.size+1,0,none⟩) 17 17] 55)).alloc (.cells #[.string s] 9))).heap.size=w2.heap.size+1+1+1+1:=ak;generalize ((((w2.alloc (.cells #[.slice R 17 d] 55)).alloc (.cells (madeCells #[.int .i64 0] 17) 3)).alloc (.cells #[.slice (some ⟨w2.heap.size+1,0,none⟩) 17 17] 55)).alloc (.cells #[.string s] 9))=w3 at h8 h9 vj aP iK aiW PP cg⊢;have I2:w.heap.size<=w2.heap.size:=dV.size;obtain⟨g,hg⟩: ∃g,g=w2.heap.size:=⟨_,rfl⟩
 rw[<-hg]at h8 h9 vj PP cg I2⊢;have Hd:=aa (And.intro IH hd2);clear hg hz aP ald cS cl dw IH hd2 j6;refine wpIn_rangeFunc_ownF rfl ae (gf:=301) (lb:= #[.pointer (some ⟨g+1+1+1,0,none⟩)]) rfl trivial (enters_of func301 ax rfl)
  (encs:=λx:xO=> #[.string x.1]) (Kp:=rG [g+1+1+1]) (S:=λys=>ys=xQ s N) (Sp:=λ_=>True) (N:=N) (w0:=w3)
  (λl J Jx W hW _ _ hY h0=>aoR Fence.wide 2 trivial rfl ae l (g+1+1+1) N s hsN HN J Jx hY W (cell_of_one (aJ vj hW)) h0)
  Jl (Jm (by simp[cg])) (aI _ _) (λ_=>rfl)
  (TI w g (g+1+1) (g+1+1+1) R d (xR key.data.toList))
  (λ_ _ _=>False)
  (aoX _ _ _ _ _ _ _ _ (by rw[cg];omega))
  (λ_ _ _ _ _ hs _ _=>hs)
  ⟨⟨_,17,h9,ae,ae,PP⟩,h8,aiW,iK,by rw[cg];omega⟩ ?a1 ?assign ?body ?done ?stop
 case assign=>
  intro l x W K hK;gi_wp2;exact hK
 case body=>
  rintro l aQ x W hI ey;obtain⟨B,c,IG,gu,fi,hB⟩:=hI.ex;have HI:=aa hI;have H9:=aa IG;have HB:=aa hB;have Hx:=aa x.2;obtain⟨c9,f9⟩:=MZ IG;obtain⟨c8,f8⟩:=MZ hI.h8;have dG:=aa (aoU (xR key.data.toList) aQ x);clear hI IG hB;gi_wp2_with (refine⟨trivial,?_⟩;gi_at_call 251;refine (CallsIn.inRound l (callsIn_wide.2 (aoN B R c d (BS (xR key.data.toList) aQ) (xR key.data.toList) x.1 W HB HI.rd gu fi Hd.1 (bD Hd.2 au) (abb _ _) Hkr Hx.1 Hx.2))).mono ?_;rintro e w' ⟨B',rfl,EZ,hb⟩;have O2:=aJ H9 hb;obtain⟨c9',f9'⟩:=MZ O2);rename_i w';have hG:=sH (ub hb (some (g+1+1))) 0 (.slice B' 17 17);have di:=bt O2 0 (.slice B' 17 17);simp only[List.setIfInBounds_toArray,List.set_cons_zero]at di;refine⟨KeepsOthers.of_grownBy hG (λj o e ho=>?_),aaw ?_ ?_ hG,⟨⟨B',17,di,ae,ae,by rw[dG.out];exact abf EZ O2 _⟩,?_,abf (HI.rd.below hb) O2 _,?_,jY HI.gs hG.size⟩⟩
  ·obtain rfl:=bW e;rw[H9.out]at ho;obtain rfl:=bW ho;rfl
  ·have:=HI.gs;simp;omega
  ·simp
  ·exact (bz _ ⟨g+1+1,0,none⟩ _ g (by simp;omega)).trans (aJ HI.h8 hb)
  ·exact (HI.bw.trans (hb.mono HI.bw.size)).setCell (by simp;omega) _
 case done=>
  rintro D ys W hD rfl hI hK;have j6:(Instr.makeSlice 34 (.int .i64 16) (.int .i64 16)).run prog W= .ok (.slice (some ⟨W.heap.size,0,none⟩) 16 16) (W.alloc (.cells (madeCells #[.int .u8 0] 16) 5)):=run_make_row' (P:=prog) 34 5 (.int .u8 0) 1 underlying34 Rt rfl .i64 .i64 16 ae ae W;obtain⟨B,c,IG,gu,fi,hB⟩:=hI.ex;obtain⟨cH,yS⟩: ∃cH,cH=BS (xR key.data.toList) (xQ s N):=⟨_,rfl⟩
  rw[<-yS]at hB;have HE:=aa (show DL key.data.toList s=sQ cH key.data.toList by rw[yS,HN.out];rfl);have bH:vA cH:=by rw[yS];exact abb _ _
  have XH: ∀i,cH.getD i 0<=255:=λi=>by
   rcases mg i cH.length with h|h
   ·rw[dh,cL h];exact bH.2.1 _ (dY _)
   ·rw[dh,Cx h];exact Nat.zero_le _
  have E0:=aa XH;have aAD:=aa (abc XH key.data.toList);have PN:=aa bH.1;have H9:=aa IG;have HB:=aa hB;have HKd:=aa hK;have HI:=aa hI;obtain⟨bb,aS,LQ,_⟩:=MU hB (i:=0) (by rw[bH.1];omega);subst LQ;have gF:=be W (.cells (madeCells #[.int .u8 0] 16) 5);have zw:=aa gF;clear yS bH XH hB IG hI hK gF gu fi;gi_wp2;refine wpIn_wide.2 ?_;go_loopw [12,43] (λv y wr=> ∃k:Nat,k<=16/\y= .int .i64 (k:Nat)/\v= .int .i64 ((Ad cH key.data.toList k:Nat):Int)/\wr.rowIs W.heap.size 5 16 (λj=> .int .u8 (if j<k then (((sQ cH key.data.toList).getD j 0).toNat:Int) else 0))/\aD W wr) (λ_ y _=>16 -(intOf y).toNat);case atStart=>exact⟨0,ae,rfl,rfl,World.rowIs_made _ _ _ _,zw⟩
  case round=>
   obtain⟨k,hk,rfl,rfl,qi,hb⟩:=hrel;have Hrw:=aa qi;have Hb:=aa hb;by_cases aK:k<16
   ·have e1:decide ((k:Int)<(16:Int))=true:=(by simp;omega);have e2:(k:Int)<(16:Int):=ae;have e3:(k:Int)<(17:Int):=ae;have wM:=qi.cell (i:=k) aK;have VG:=qi.frozen k;have c9:=(MZ (aJ H9 hb)).1;obtain⟨bb',ve,LQ,ca⟩:=MU (HB.below hb) (i:=k) (by rw[PN.out];omega);injection LQ with LQ
    injection LQ with h1 h2
    subst h1 h2;have ha:=E0.out k;have hs:=aAD.out k;have e4:16+(k:Int)<(key.size:Int):=(by have:=HK.out;omega);have e5:(0:Int)<=16+(k:Int):=ae;have e6:16+k<key.size:=(by have:=HK.out;omega);have CL:=aa (ao3 cH key.data.toList k);have dg:=aa (ao2 cH key.data.toList k aK);rw[<-aoZ key (16+k) e6]at CL dg;obtain⟨y,hy,hy2,hy3⟩: ∃y:Nat,wrap64 (key[16+k].toNat:Int)=(y:Int)/\y<=255/\key[16+k].toNat=y:=⟨key[16+k].toNat,IntWalk.wrap64_in _ ⟨ae,by have:=key[16+k].toNat_lt;omega⟩,by have:=key[16+k].toNat_lt;omega,rfl⟩
    rw[hy3]at CL dg;clear hy3;generalize Ad cH key.data.toList k=sm at hs CL dg⊢;generalize cH.getD k 0=a at ha ca CL dg;clear qi hb;go_wp2_with fail;go_quiet (fail);rename_i nq;go_wp2_with fail;all_goals
     go_roundw
     case rel=>
      refine⟨k+1,ae,by go_num,?_,?_,(tX Hb nq).setCell (aM _) _⟩
      ·rw[CL.out,abg]
       exact ao0 _
      ·rw[abg]
       exact ao4 (show (wr.drewN nq).rowIs _ _ _ _ from Hrw.out) dg.out
     case measure=>simp[intOf];omega
   ·obtain rfl:k=16:=ae;have e1:decide (((16:Nat):Int)<(16:Int))=false:=ak;have dw:=ao5 qi;have il:=DF dw 16 16 (by simp[sQ]);have uY:=aJ HKd hb;clear qi dw;go_wp2_with fail;gi_wp2;refine⟨ak,.inl ⟨_,_,rfl,run_takeDeferred uY,?_⟩⟩;refine⟨_,results_tmp2 rfl _ _ _,?_,?_⟩
    ·rw[HE.out];rfl
    ·exact (HI.bw.trans (Hb.mono HI.bw.size)).trans (belowK_b (w:=w) (aM _) _ D _ _ (by have:=hD;have:=cg;have:=I2;omega) uY rfl rfl)
 case stop=>
  rintro D c aQ W _ _ h _;exact h.elim
def vC (key s:ag):Nat:=if key.size≠32 then 1 else if 8200<s.size then 2 else 0
def Ae (key s:ag):ag:=if vC key s=0 then bs (DL key.data.toList s) else ⟨#[]⟩
theorem abh (key s:ag) (w:World) (hk9:key.size<=maxLen) (vj:s.size<=maxLen):
  Calls prog 172 #[.string key,.string s] w (bF w (.tuple #[.string (Ae key s),.int .i64 (vC key s:Nat)])):=by
 by_cases hk:key.size=32
 ·by_cases hs:8200<s.size
  ·have e:vC key s=2:=by unfold vC;rw[if_neg ae,if_pos hs]
   have e':Ae key s=⟨#[]⟩:=(by unfold Ae;rw[e];rfl);rw[e,e'];have d1:((key.size:Int) !=32)=false:=(by simp;omega);have d2:decide ((s.size:Int)>8200)=true:=(by simp;omega);go_in;exact Ew
  ·have e:vC key s=0:=by unfold vC;rw[if_neg ae,if_neg hs]
   have e':Ae key s=bs (DL key.data.toList s):=(by unfold Ae;rw[if_pos e]);rw[e,e'];exact ao6 key s w hk ae
 ·have e:vC key s=1:=by unfold vC;rw[if_pos hk]
  have e':Ae key s=⟨#[]⟩:=by unfold Ae;rw[e];rfl
  rw[e,e'];have d1:((key.size:Int) !=32)=true:=by simp;omega
  go_in;exact Ew
end
end
section
variable {P:Prop}
theorem M0 (a b c n:Int) (w:World) (ha:Wd a) (hb:Wd b) (hc:Wd c) (qv:0<=n) (fL:n<=32):
  Calls prog 300 #[.int .i64 a,.int .i64 b,.int .i64 c,.int .i64 n] w (bF w (.tuple #[.int .i64 (zR a b),.int .i64 (oQ a b c n)])):=by
 have HA:=aa ha;have HB:=aa hb;have HC:=aa hc;go_in;go_wp2_with fail;refine (amy _ _ _ [a,b] _ (qC w _ _) rfl ak (zQ.2 ⟨HA,HB⟩)).mono ?_;rintro e w1 ⟨rfl,hw⟩;replace hw:=jX (aI _ _) hw;go_wp2_with fail;refine (aad c (eU [a,b]) _ (zQ.2 ⟨HC,tY _⟩)).mono ?_;rintro e w2 ⟨rfl,cl⟩;replace hw:=bg hw cl;go_wp2_with fail;refine (aae (sE c (eU [a,b])) n _ (FJ.2 (Mx HC (tY _))) qv fL).mono ?_;rintro e w3 ⟨rfl,fo⟩;replace hw:=bg hw fo;go_wp2;go_ret2;exact⟨rfl,hw⟩
theorem ao7 (a b c d:Int) (w:World) (ha:Wd a) (hb:Wd b) (hc:Wd c) (hd:Wd d):
  Calls prog 245 #[.int .i64 a,.int .i64 b,.int .i64 c,.int .i64 d] w λe w'=>
   e= .returned (.tuple #[.int .i64 (lU a b c d).1,.int .i64 (lU a b c d).2.1,.int .i64 (lU a b c d).2.2.1,.int .i64 (lU a b c d).2.2.2,.bool true])/\aD w w':=by
 have HA:=aa ha;have HB:=aa hb;have HC:=aa hc;have HD:=aa hd;have Hw:=aa (show ez [a,b,c,d]=true by
  have h1:=ha;have h2:=hb;have h3:=hc;have h4:=hd;unfold Wd at h1 h2 h3 h4;simp[ez,fW,h1,h2,h3,h4])
 go_in;go_wp2_with fail;refine (FP _ _ _ [a,b,c,d] _ (qC w _ _) rfl ak).mono ?_;rintro e w0 ⟨rfl,hw⟩;rw[Hw.out];replace hw:=jX (aI _ _) hw;go_wp2_with fail;refine (M0 a b d 16 _ HA HB HD ae ae).mono ?_;rintro e w1 ⟨rfl,cS⟩;replace hw:=bg hw cS;go_wp2_with fail;refine (M0 c (oQ a b d 16) b 12 _ HC (xD _ HD) HB ae ae).mono ?_;rintro e w2 ⟨rfl,cl⟩;replace hw:=bg hw cl;go_wp2_with fail;refine (M0 (zR a b) (oQ c (oQ a b d 16) b 12) (oQ a b d 16) 8 _ (MA _ _) (xD _ HB) (xD _ HD) ae ae).mono ?_;rintro e w3 ⟨rfl,fo⟩;replace hw:=bg hw fo;go_wp2_with fail;refine (M0 (zR c (oQ a b d 16)) (oQ (zR a b) (oQ c (oQ a b d 16) b 12) (oQ a b d 16) 8) (oQ c (oQ a b d 16) b 12) 7 _ (MA _ _) (xD _ (xD _ HD)) (xD _ HB) ae ae).mono ?_;rintro e w4 ⟨rfl,tL⟩;replace hw:=bg hw tL;go_wp2_with fail;refine bodyPost_ret (alY rfl _ _ _) rfl ?_;exact⟨rfl,hw⟩
theorem JF (key nonce:ag) (n:Int) (w:World) (hk:key.size=32) (ho:nonce.size=12) (hn:Wd n):
  Calls prog 244 #[.string key,.string nonce,.int .i64 n] w (bF w (.tuple #[.agg (ints (mY key.data.toList nonce.data.toList n)).toArray,.bool true])):=by
 have h1:((key.size:Int) !=32)=false:=by simp[hk]
 have h2:((nonce.size:Int) !=12)=false:=by simp[ho]
 have Hk:=aa hk;have Ho:=aa ho;have HN:=aa hn;clear hk ho hn;go_in;go_wp2_with fail;refine (FP _ _ _ [n] _ (by exact jk _ _ _ _ ak) rfl ak).mono ?_;rintro e w1 ⟨rfl,hw⟩;rw[FJ.2 HN.out];have hz:=My hw;replace hw:=Jd hw;have HZ:=aa hz;clear hz;go_wp2_with fail;refine (aaj key _ (by rw[Hk.out]) (by rw[Hk.out];decide)).mono ?_;rintro e w2 ⟨g,rfl,hg,bH,cl⟩;have hS:=vq cl;rw[bP,Hk.out]at bH;rw[bP,Hk.out];have aK:=bH.lt;have hgS:w1.heap.size<g:=by simp at hg;omega
 have C0:=(cl.block w.heap.size (by have:=hw.size;have:=bf HZ.out;simp;omega)).trans ((Below.heap_alloc _ _ _ (bf HZ.out)).trans HZ.out);replace hw:=jX hw cl;have HR:=aa bH;have HS:=aa hS;have PK:=aa C0;have hZS:w.heap.size<w1.heap.size:=bf HZ.out;clear bH hS hg C0 cl;obtain⟨w3,zo,it,jx⟩:=ZT (w:=w2) 4 12 _ (gI key.data.toList false 8) HS.out (Rp HR.out (by rw[bP,Hk.out])) (by simp[gI]) (show 8=_ by simp[gI]);have fo:aD w w3:=hw.trans (gZ jx ae hw.size);have ql:=aa it;have iK:=aa fo;have wQ:=aa ((jx.block w.heap.size (bf PK.out) (λe=>by injection e;omega)).trans PK.out);have vn:w3.cell? ⟨w1.heap.size,12,none⟩=some (.int .i64 0):=by
  unfold World.cell?;simp only[ql.out];rfl
 have hf3:w3.frozen? ⟨w1.heap.size,12,none⟩=false:=by
  unfold World.frozen?;simp only[ql.out];rfl
 clear it jx fo HR hw;go_wp2_with fail;have Xj:=bt ql.out 12 (.int .i64 n);have tV:(w3.setCell ⟨w1.heap.size,12,none⟩ (.int .i64 n)).heap[w.heap.size]?=_:=(bz _ _ _ _ (by simp only;omega)).trans wQ.out;have tL:aD w (w3.setCell ⟨w1.heap.size,12,none⟩ (.int .i64 n)):=iK.setCell (by simp only;omega) _;generalize w3.setCell ⟨w1.heap.size,12,none⟩ (.int .i64 n)=w4 at Xj tV tL⊢;have j4:=aa Xj;have xr:=aa tV;have wN:=aa tL;clear Xj tV tL vn hf3 zo;refine (aaj nonce _ (by rw[Ho.out]) (by rw[Ho.out];decide)).mono ?_;rintro e w5 ⟨g2,rfl,fE,bH,qw⟩;rw[bP,Ho.out]at bH;rw[bP,Ho.out];have HR:=aa bH;have jK:=aa ((qw.block w1.heap.size (bf j4.out)).trans j4.out);have Lh:=aa ((qw.block w.heap.size (bf xr.out)).trans xr.out);have qd:=aa (bg wN.out qw);clear bH fE qw;obtain⟨w6,zo,hS6,XC⟩:=ZT (w:=w5) 13 3 _ (gI nonce.data.toList false 3) jK.out (Rp HR.out (by rw[bP,Ho.out])) (by simp[gI,ints]) (show 3=_ by simp[gI]);have oD:=aa hS6;have XE:=aa (qd.trans (gZ XC ae qd.size));have Ra:=aa ((XC.block w.heap.size (bf Lh.out) (λe=>by injection e;omega)).trans Lh.out);clear hS6 XC;obtain⟨dF,lp⟩: ∃dF,dF=(ints (mY key.data.toList nonce.data.toList n)).toArray:=⟨_,rfl⟩
 have YC:Hid (bj w6 w1.heap.size dF 299):=by
  rw[lp];exact oD.out
 have zj:=aa lp;have cg:(prog.info? 299).map (·.size)=some dF.size:=by
  rw[lp];simp only[ints,mY,gI,List.size_toArray,kQ,dx,List.length_range];kernel_rfl
 have QI:dF.all (·.oneCell')=true:=by
  rw[lp,Array.all_eq_true'];intro v hv;obtain⟨x,_,rfl⟩:=List.mem_map.1 (by simpa[ints] using hv:v∈(ints (mY key.data.toList nonce.data.toList n)));rfl
 have db:=aa cg;have jd:=aa QI;clear lp cg QI;go_wp2_with (first
  |(refine wpList_load_row ah 299 (.tmp 8) ah w1.heap.size ah 299 dF (0,0) _ YC.out underlying299 rfl db.out ?_)
  |(refine wpList_store_mid ah 299 (.tmp 6) (.tmp 47) ah w.heap.size 0 dF ah ah ?_ db.out jd.out ?_))
 ·exact Dy Ra.out (Nat.le_of_eq (by
  have h:=db.out;rw[show (prog.info? 299).map (·.size)=some 16 by kernel_rfl]at h;exact (bW h).symm))
 ·have ht:w6.there w.heap.size 0 dF.toList.length:=Dy Ra.out (Nat.le_of_eq (by
   have h:=db.out;rw[show (prog.info? 299).map (·.size)=some 16 by kernel_rfl]at h;simp[<-bW h]))
  have hr:=World.rangeAt_setCells_same w6 w.heap.size 0 dF.toList ht;have hl:=run_loadVar_mid (P:=prog) _ w.heap.size 0 299 dF.toList _ hr underlying299 rfl (by simpa using db.out);refine bodyPost_ret (dJ rfl _ _ w.heap.size rfl _ hl) rfl ?_;refine⟨?_,Mz (aM _) _ _ _ XE.out⟩;rw[<-zj.out];rfl
theorem agr (h:P:=by
 have HZ:Hid ((w.alloc (.cells tZ 299)).heap[w.heap.size]?=some (.cells tZ 299 (0,0))):=aR w _;go_in;go_wp2_with (refine wpList_store_mid ah 299 (.tmp 6) (.tmp 27) ah w.heap.size 0 tZ ah ah ?_ ax ax ?_)
 ·exact Dy HZ (aM _)
 ·have hr:=World.rangeAt_setCells_same _ w.heap.size 0 tZ.toList (Dy HZ (aM _));have hl:=run_loadVar_mid (P:=prog) _ w.heap.size 0 299 tZ.toList _ hr underlying299 rfl ax;exact bodyPost_ret (dJ rfl _ _ w.heap.size rfl _ hl) rfl ⟨rfl,Mz (aM _) _ _ _ ((aI _ _).alloc (aM _) _)⟩):P:=h
theorem abi (key nonce:ag) (n:Int) (w:World) (gq:key.size<=9223372036854775807) (fQ:nonce.size<=9223372036854775807) (h: ¬(key.size=32/\nonce.size=12/\Wd n)):
  Calls prog 244 #[.string key,.string nonce,.int .i64 n] w (bF w (.tuple #[.agg tZ,.bool false])):=by
 by_cases hk:key.size=32
 ·by_cases ho:nonce.size=12
  ·have hn:ez [n]=false:=by
    rw[Bool.eq_false_iff];exact λe=>h ⟨hk,ho,FJ.1 e⟩
   have h1:((key.size:Int) !=32)=false:=(by simp[hk]);have h2:((nonce.size:Int) !=12)=false:=(by simp[ho]);have HN:=aa hn;go_in;go_wp2_with fail;refine (FP _ _ _ [n] _ (by exact jk _ _ _ _ ak) rfl ak).mono ?_;rintro e w1 ⟨rfl,hw⟩;rw[HN.out];have hz:=My hw;replace hw:=Jd hw;have HZ:Hid (bj w1 w.heap.size tZ 299):=hz;go_wp2_with (refine wpList_store_mid ah 299 (.tmp 6) (.tmp 27) ah w.heap.size 0 tZ ah ah ?_ ax ax ?_)
   ·exact Dy HZ (aM _)
   ·have hr:=World.rangeAt_setCells_same w1 w.heap.size 0 tZ.toList (Dy HZ (aM _));have hl:=run_loadVar_mid (P:=prog) _ w.heap.size 0 299 tZ.toList _ hr underlying299 rfl ax;exact bodyPost_ret (dJ rfl _ _ w.heap.size rfl _ hl) rfl ⟨rfl,Mz (aM _) _ _ _ hw⟩
  ·have h1:((key.size:Int) !=32)=false:=by simp[hk]
   have h2:((nonce.size:Int) !=12)=true:=(by rw[bne_iff_ne];omega);exact agr
 ·have h1:((key.size:Int) !=32)=true:=by rw[bne_iff_ne];omega
  exact agr
def iy (w:World):Prop:=w.rangeAt 1 0 turnsL
theorem iy.below {w w':World} (h:iy w) (hb:aD w w'):iy w':=λj v hv=>
 (hb.cell (p:=⟨1,0+j,none⟩) (cU (h j v hv))).trans (h j v hv)
theorem ao8 (j:Nat) (hj:j<8): ∃p,FK[j]?=some p/\ZZ p=true/\ ∀W,(Instr.index 303 (.agg turnsL.toArray) (.int .i64 (j:Int))).run prog W= .ok (.agg (ZY p).toArray) W:=by
 match j,hj with
 |0,_=>exact⟨_,rfl,rfl,λ_=>ax⟩
 |1,_=>exact⟨_,rfl,rfl,λ_=>ax⟩
 |2,_=>exact⟨_,rfl,rfl,λ_=>ax⟩
 |3,_=>exact⟨_,rfl,rfl,λ_=>ax⟩
 |4,_=>exact⟨_,rfl,rfl,λ_=>ax⟩
 |5,_=>exact⟨_,rfl,rfl,λ_=>ax⟩
 |6,_=>exact⟨_,rfl,rfl,λ_=>ax⟩
 |7,_=>exact⟨_,rfl,rfl,λ_=>ax⟩
set_option maxRecDepth 100000 in
theorem M1 (key nonce:ag) (n:Int) (w:World) (hT:iy w) (hk:key.size=32) (ho:nonce.size=12) (hn:Wd n):
  Calls prog 165 #[.string key,.string nonce,.int .i64 n] w (bF w (.tuple #[.string (bs (lV key.data.toList nonce.data.toList n)),.int .i64 0])):=by
 have HT:=aa hT;have Hk:=aa hk;have Ho:=aa ho;have HN:=aa hn;clear hT hk ho hn;go_in;go_wp2_with fail;refine (JF key nonce n w Hk Ho HN).mono ?_;rintro e w1 ⟨rfl,hw⟩;obtain⟨st,dE⟩: ∃st,st=mY key.data.toList nonce.data.toList n:=⟨_,rfl⟩
 rw[<-dE];have ka:st.length=16:=by rw[dE];simp[mY,gI]
 have db:=aa (show (prog.info? 299).map (·.size)=some (ints st).toArray.size by rw[rE,ka];kernel_rfl);have iZ:=aa (show (ints st).toArray.size=16 by rw[rE,ka]);have jd:=aa (Dz st);have eG:=aa dE;have Hl:=aa ka;clear dE ka;obtain⟨dF,lp⟩: ∃dF,dF=(ints st).toArray:=⟨_,rfl⟩
 rw[<-lp]at db iZ jd⊢;have zj:=aa lp;clear lp;go_wp2_with (refine sF ah 299 (.tmp 8) (.tmp 26) ah w1.heap.size dF ah ah _ 299 (by exact aR w1 _) (by exact iZ.out) db jd ?_);intro w2 jj fp;have cl:aD w w2:=(hw.alloc hw.size _).trans (gZ fp hw.size (by have:=hw.size;simp;omega));have Dv:=fp.size;have dV:=aa cl;have HS0:=aa jj;have iU:w1.heap.size<w2.heap.size:=by simp at Dv;omega
 have Qe:=hw.size;clear hw cl jj fp Dv;go_wp2_with (first
  |(refine wpList_load_row ah 299 (.tmp 8) ah w1.heap.size ah 299 dF (0,0) _ HS0 underlying299 rfl db ?_)
  |(refine sF ah 299 (.tmp 10) (.tmp 30) ah w2.heap.size dF ah ah _ 299 (by exact aR w2 _) (by exact iZ.out) db jd ?_))
 intro w3 it oE;have fo:aD w2 w3:=((aI _ _).alloc (aM _) _).trans (gZ oE (aM _) ak);have E3:=oE.size;have iK:=aa (bg dV fo);have ql:=aa it;have ajR:=aa ((fo.block w1.heap.size iU).trans HS0);simp at E3;clear it oE fo;go_wp2_with fail;obtain⟨S,hS⟩: ∃S,S=w2.heap.size:=⟨_,rfl⟩
 obtain⟨S0,jj⟩: ∃S0,S0=w1.heap.size:=⟨_,rfl⟩
 rw[<-hS]at ql⊢;rw[<-jj]at ajR⊢;rw[<-hS,<-jj]at iU;rw[<-jj]at Qe;rw[zj.out]at ql;have HWd:Hid (DB st):=by rw[eG.out];exact al5 _ _ _ HN.out
 clear hS jj E3;go_loopw [31] (λi wr=> ∃k:Nat,k<=10/\i= .int .i64 k/\wr.heap[S]?=some (.cells (ints (xE st k)).toArray 299 (0,0))/\bj wr S0 dF 299/\aD w wr) (λi _=>10 -(intOf i).toNat);case atStart=>exact⟨0,ae,rfl,ql,ajR,iK⟩
 case round=>
  obtain⟨k,hk,rfl,uC,ajL,FB⟩:=hrel;have kw:=aa uC;have O6:=aa ajL;have gO:=aa FB;have EP:=aa (Z0 HWd k);clear uC ajL FB;by_cases aK:k<10
  ·obtain⟨wo,sy⟩: ∃wo:World,wo=wr:=⟨_,rfl⟩
   rw[<-sy]at kw O6 gO⊢;clear sy;go_wp2_with (refine wpList_load_mid ah 303 (.global 1) ah 1 0 ah turnsL _ (by exact HT.below gO) underlying303 rfl ax ?_);have eT:=gO.size;go_loopw [34] (λj wi=> ∃m:Nat,m<=8/\j= .int .i64 m/\wi.heap[S]?=some (.cells (ints (BE (xE st k) m)).toArray 299 (0,0))/\bj wi S0 dF 299/\aD w wi) (λj _=>8 -(intOf j).toNat);case atStart=>exact⟨0,ae,rfl,kw,O6,gO⟩
   case round=>
    obtain⟨m,hm,rfl,kZ,qk,nG⟩:=hrel;by_cases WN:m<8
    ·obtain⟨⟨a,b,c,d⟩,hp,hpo,akT⟩:=ao8 m WN;have Iy:=al4 (xE st k) hp;have Bc:DB (BE (xE st k) m):=Rq _ EP.out;simp only[ZZ,Bool.and_eq_true,decide_eq_true_eq]at hpo;obtain⟨⟨⟨⟨⟨⟨⟨⟨⟨ha,hb⟩,hc⟩,hd⟩,hab⟩,hac⟩,had⟩,gH⟩,QW⟩,CT⟩:=hpo;obtain⟨sv,tr⟩: ∃sv,sv=BE (xE st k) m:=⟨_,rfl⟩
     rw[<-tr]at kZ Iy Bc;have aBR: ∀W,(Instr.index 303 (.agg turnsL.toArray) (.int .i64 (m:Int))).run prog W= .ok (.agg #[.int .i64 (a:Nat),.int .i64 (b:Nat),.int .i64 (c:Nat),.int .i64 (d:Nat)]) W:=akT;have aBx:=bf kZ;have y8:=aa kZ;have Dg:=aa qk;have mQ:=aa nG;have sg:=aa Iy;have sf:=aa Bc;have hPS:S≠wr.heap.size:=ae;clear hp akT kZ qk nG Iy Bc tr;go_wp2_with fail;have hP:=aR wr (Obj.cells #[.int .i64 (a:Nat),.int .i64 (b:Nat),.int .i64 (c:Nat),.int .i64 (d:Nat)] 302);have Fs:=(Below.heap_alloc wr (Obj.cells #[.int .i64 (a:Nat),.int .i64 (b:Nat),.int .i64 (c:Nat),.int .i64 (d:Nat)] 302) S aBx).trans y8.out;have Xl:=(Below.heap_alloc wr (Obj.cells #[.int .i64 (a:Nat),.int .i64 (b:Nat),.int .i64 (c:Nat),.int .i64 (d:Nat)] 302) S0 (bf Dg)).trans Dg.out;have Wn:=mQ.alloc mQ.size (Obj.cells #[.int .i64 (a:Nat),.int .i64 (b:Nat),.int .i64 (c:Nat),.int .i64 (d:Nat)] 302);obtain⟨Pb,hPb⟩: ∃Pb,Pb=wr.heap.size:=⟨_,rfl⟩
     rw[<-hPb]at hP hPS⊢;generalize wr.alloc (Obj.cells #[.int .i64 (a:Nat),.int .i64 (b:Nat),.int .i64 (c:Nat),.int .i64 (d:Nat)] 302)=wa at hP Fs Xl Wn⊢;have hl:=sf.1;have c0: ∀y:bM wa,y.x.cell? ⟨Pb,0,none⟩=some (.int .i64 (a:Nat)):=λy=>y.cell (by unfold World.cell?;simp only[hP];rfl);have c1: ∀y:bM wa,y.x.cell? ⟨Pb,1,none⟩=some (.int .i64 (b:Nat)):=λy=>y.cell (by unfold World.cell?;simp only[hP];rfl);have c2: ∀y:bM wa,y.x.cell? ⟨Pb,2,none⟩=some (.int .i64 (c:Nat)):=λy=>y.cell (by unfold World.cell?;simp only[hP];rfl);have c3: ∀y:bM wa,y.x.cell? ⟨Pb,3,none⟩=some (.int .i64 (d:Nat)):=λy=>y.cell (by unfold World.cell?;simp only[hP];rfl);have s0: ∀y:bM wa,y.x.cell? ⟨S,a,none⟩=some (.int .i64 (sv.getD a 0)):=λy=>y.cell (ft Fs ae).1;have s1: ∀y:bM wa,y.x.cell? ⟨S,b,none⟩=some (.int .i64 (sv.getD b 0)):=λy=>y.cell (ft Fs ae).1;have s2: ∀y:bM wa,y.x.cell? ⟨S,c,none⟩=some (.int .i64 (sv.getD c 0)):=λy=>y.cell (ft Fs ae).1;have s3: ∀y:bM wa,y.x.cell? ⟨S,d,none⟩=some (.int .i64 (sv.getD d 0)):=λy=>y.cell (ft Fs ae).1;have zy:=aa sf.2;generalize Zq:sv.getD a 0=xa at s0;generalize YY:sv.getD b 0=xb at s1;generalize Wp:sv.getD c 0=xc at s2;generalize VB:sv.getD d 0=xd at s3;have Dl: ∀y:bM wa,Calls prog 245 #[.int .i64 xa,.int .i64 xb,.int .i64 xc,.int .i64 xd] y.x λe w'=>
       e= .returned (.tuple #[.int .i64 (lU xa xb xc xd).1,.int .i64 (lU xa xb xc xd).2.1,.int .i64 (lU xa xb xc xd).2.2.1,.int .i64 (lU xa xb xc xd).2.2.2,.bool true])/\ ∃z:bM wa,w'=z.x:=λy=>
      lS (ao7 xa xb xc xd y.x (Zq▸xF zy a) (YY▸xF zy b) (Wp▸xF zy c) (VB▸xF zy d))
     have HC:=aa Dl;have Qs:=aa Fs;have ajr:=aa Xl;have HWa:=aa Wn;have wB:=aa hP;have Ha:=aa Zq;have Hb:=aa YY;have Hc:=aa Wp;have Hd:=aa VB;have lL:=aa hl;clear Dl Fs Xl Wn hP Zq YY Wp VB hl hPb;have ia:(a:Int)<16:=ae;have ib:(b:Int)<16:=ae;have ic:(c:Int)<16:=ae;have id':(d:Int)<16:=ae;refine rC ax ax ?_;repeat (go_big_quiet_step (exact HC.out _))
     refine wpQuiet_nil ?_;rintro _ ⟨y,rfl⟩;go_wp2_with fail;have hy:=y.ok;have Ja:=(hy.block S (bf Qs)).trans Qs.out;have Pi:=(hy.block Pb (bf wB)).trans wB.out;have aDB:=aa ((hy.block S0 (bf ajr)).trans ajr);have HWy:=aX HWa hy;replace c0:=c0 y;replace c1:=c1 y;replace c2:=c2 y;replace c3:=c3 y;replace s0:=s0 y;replace s1:=s1 y;replace s2:=s2 y;replace s3:=s3 y;have f0:y.x.frozen? ⟨S,a,none⟩=false:=(ft Ja (by have:=lL.out;omega)).2;have f1:y.x.frozen? ⟨S,b,none⟩=false:=(ft Ja (by have:=lL.out;omega)).2;have f2:y.x.frozen? ⟨S,c,none⟩=false:=(ft Ja (by have:=lL.out;omega)).2;have f3:y.x.frozen? ⟨S,d,none⟩=false:=(ft Ja (by have:=lL.out;omega)).2;have HSy:=aa Ja;clear Ja Pi hy aBR;generalize y.x=wy at*;have hSP:Pb≠S:=λe=>hPS e.symm;go_region_held3 (λw'=>w'.cell? ⟨Pb,0,none⟩=some (.int .i64 (a:Nat))/\w'.cell? ⟨Pb,1,none⟩=some (.int .i64 (b:Nat))/\w'.cell? ⟨Pb,2,none⟩=some (.int .i64 (c:Nat))/\w'.cell? ⟨Pb,3,none⟩=some (.int .i64 (d:Nat))) (go_keep) (fail);go_wp2_with fail;refine⟨⟨m+1,ae,by go_num,?_,?_,?_⟩,by simp[intOf];omega⟩
     ·have h:=mv (mv (mv (mv HSy a (lU xa xb xc xd).1) b (lU xa xb xc xd).2.1) c (lU xa xb xc xd).2.2.1) d (lU xa xb xc xd).2.2.2;have e:BE (xE st k) (m+1)=(((sv.set a (lU xa xb xc xd).1).set b (lU xa xb xc xd).2.1).set c (lU xa xb xc xd).2.2.1).set d (lU xa xb xc xd).2.2.2:=by
       rw[sg.out];simp only[DA,Ha.out,Hb.out,Hc.out,Hd.out]
      rw[e];exact h
     ·have aO:S0≠S:=ae;exact (bz _ _ _ _ aO).trans ((bz _ _ _ _ aO).trans ((bz _ _ _ _ aO).trans ((bz _ _ _ _ aO).trans aDB)))
     ·exact ((((HWy.setCell (by simp only;omega) _).setCell (by simp only;omega) _).setCell (by simp only;omega) _).setCell (by simp only;omega) _).drew
    ·obtain rfl:m=8:=ae;have y8:=aa kZ;have Dg:=aa qk;have mQ:=aa nG;clear kZ qk nG;go_wp2_with fail;exact⟨⟨k+1,ae,by go_num,y8,Dg,mQ⟩,by simp[intOf];omega⟩
  ·obtain rfl:k=10:=ae;go_wp2_with fail;obtain⟨fin,tu⟩: ∃fin,fin=xE st 10:=⟨_,rfl⟩
   rw[<-tu]at kw EP;rw[zj.out]at O6;have Fz:=EP.1;have vf:=Hl.out;have zx:=aa tu;clear tu;go_loopw [78] (λi wi=> ∃k:Nat,k<=16/\i= .int .i64 k/\wi.heap[S]?=some (.cells (ints (mZ fin st k)).toArray 299 (0,0))/\wi.heap[S0]?=some (.cells (ints st).toArray 299 (0,0))/\aD w wi) (λi _=>16 -(intOf i).toNat);case atStart=>exact⟨0,ae,rfl,by rw[al6 fin st Fz];exact kw.out,O6,gO⟩
   case round=>
    obtain⟨i,hi,rfl,kZ,qk,nG⟩:=hrel;by_cases QD:i<16
    ·have s0:=(ft kZ (i:=i) (by rw[DC];exact QD)).1;have f0:=(ft kZ (i:=i) (by rw[DC];exact QD)).2;have t0:=(ft qk (i:=i) ae).1;rw[al7 fin st i QD]at s0;have KK:Wd (fin.getD i 0):=xF EP.2 i;have L4:Wd (st.getD i 0):=xF HWd.2 i;have cZ:=aa (al8 fin st i QD);have Mk:=aa (zQ.2 ⟨KK,L4⟩);generalize fin.getD i 0=x at s0 cZ Mk;generalize st.getD i 0=y at t0 cZ Mk;have y8:=aa kZ;have Dg:=aa qk;have mQ:=aa nG;have ii:(i:Int)<16:=ae;have hSl:=bf kZ;have aC7:=bf qk;clear kZ qk nG KK L4;go_wp2_with fail;go_region_law (first|(go_simp;go_at_call 246;refine (Rx _ _ _ [x,y] _ (by exact jk _ _ _ _ ak) rfl ak Mk).mono ?_;rintro e w' ⟨rfl,rfl⟩));all_goals
      go_wp2_with fail
      have aO:S0≠S:=ae
      have e1:=mv y8 i (eU [x,y])
      rw[cZ.out]at e1
      have e2:=(bz wr ⟨S,i,none⟩ (.int .i64 (eU [x,y])) S0 aO).trans Dg.out
      have e3:=mQ.setCell (p:=⟨S,i,none⟩) (by simp only;omega) (.int .i64 (eU [x,y]))
      refine⟨?_,by simp[intOf];omega⟩
      repeat apply Exists.intro
      refine⟨⟨i+1,ae,by go_num,?_,?_,?_⟩,rfl⟩
      ·exact (Below.heap_alloc _ _ _ (bf e1)).trans e1
      ·exact (Below.heap_alloc _ _ _ (bf e2)).trans e2
      ·exact (e3.alloc e3.size _).drew
    ·obtain rfl:i=16:=ae;have ev:Hid (Rd wr (aw S) (ints (mZ fin st 16))):=by
      intro j u hu;have hj:j<(mZ fin st 16).length:=by
       rcases mg j (mZ fin st 16).length with h|h
       ·exact h
       ·simp[ints,h]at hu
      refine⟨S,0,rfl,?_⟩;rw[Nat.zero_add,(ft kZ hj).1];simpa[ints,hj] using hu
     have mQ:=aa nG;have sf:Hid (ez (mZ fin st 16)=true):=by
      show ez (mZ fin st 16)=true;rw[ez,List.all_eq_true];intro x hx;obtain⟨j,hj,rfl⟩:=List.mem_map.1 hx;rw[if_pos (by simpa using hj)];have hz:=tY [fin.getD j 0,st.getD j 0];generalize eU [fin.getD j 0,st.getD j 0]=z at hz⊢;unfold Wd at hz;simp[fW,hz]
     clear kZ qk nG;go_wp2_with fail;refine (amz _ _ _ (mZ fin st 16) _ ev (by rw[DC]) (by rw[DC];omega) sf).mono ?_;rintro e w5 ⟨rfl,qw⟩;have qd:=aa (bg mQ qw);clear qw;go_wp2;go_ret2;refine⟨?_,qd⟩;rw[zx.out,eG.out];rfl
set_option maxRecDepth 100000 in
theorem abj (key nonce:ag) (n:Int) (w:World) (gq:key.size<=9223372036854775807) (fQ:nonce.size<=9223372036854775807) (h: ¬(key.size=32/\nonce.size=12/\Wd n)):
  Calls prog 165 #[.string key,.string nonce,.int .i64 n] w (bF w (.tuple #[.string (bs []),.int .i64 1])):=by
 have H:=aa h;go_in;go_wp2_with fail;refine (abi key nonce n w gq fQ H).mono ?_;rintro e w1 ⟨rfl,hw⟩;go_wp2_with (refine sF ah 299 (.tmp 8) (.tmp 26) ah w1.heap.size tZ ah ah _ 299 (by exact aR w1 _) ah ax ax ?_);intro w2 jj fp;have cl:aD w w2:=(hw.alloc hw.size _).trans (gZ fp hw.size (by have:=hw.size;simp;omega));have dV:=aa cl;go_wp2;go_ret2;exact⟨rfl,dV⟩
def i8 (key nonce:aF) (n:Int) (s:aF) (k:Nat):aF:=
 (List.range s.length).map λi=>if i<k then s.getD i 0^^^(lV key nonce (n+(i / 64:Nat))).getD (i % 64) 0 else s.getD i 0
theorem F8 (key nonce:aF) (n:Int) (s:aF) (k:Nat):(i8 key nonce n s k).length=s.length:=by simp[i8]
theorem abk (key nonce:aF) (n:Int) (s:aF):i8 key nonce n s 0=s:=by
 apply List.ext_getElem
 ·simp[i8]
 ·intro j h1 h2;simp[i8,h2]
theorem ao9 (key nonce:aF) (n:Int) (s:aF) (k:Nat) (h:s.length<=k):i8 key nonce n s k=i8 key nonce n s s.length:=by
 apply List.ext_getElem
 ·simp[i8]
 ·intro j h1 h2;simp only[i8,kQ,List.length_range]at h1;simp only[i8,List.getElem_map,List.getElem_range];rw[if_pos ae,if_pos h1]
theorem ao' (key nonce:aF) (n:Int) (s:aF) (k:Nat) (h:k<s.length):(i8 key nonce n s k).getD k 0=s.getD k 0:=by
 simp[i8,h]
theorem apa (key nonce:aF) (n:Int) (s:aF) (k:Nat) (h:k<s.length):
  (i8 key nonce n s k).set k (s.getD k 0^^^(lV key nonce (n+(k / 64:Nat))).getD (k % 64) 0)=i8 key nonce n s (k+1):=by
 apply List.ext_getElem
 ·simp[i8]
 ·intro j h1 h2;rw[List.getElem_set];simp only[i8,List.getElem_map,List.getElem_range];exact ahD
set_option maxRecDepth 100000 in
theorem apb (key nonce s:ag) (n:Int) (w:World) (hT:iy w) (hk:key.size=32) (ho:nonce.size=12) (hn:Wd n) (hs:s.size<=4000) (hm:s.size=0\/n+((s.size:Int)+63)/ 64 - 1<=4294967295):
  Calls prog 171 #[.string key,.string nonce,.int .i64 n,.string s] w (bF w (.tuple #[.string (bs (i8 key.data.toList nonce.data.toList n s.data.toList s.size)),.int .i64 0])):=by
 have HT:=aa hT;have Hk:=aa hk;have Ho:=aa ho;have HN:=aa hn;clear hT hk ho hn;by_cases zB:s.size=0
 ·have hE:s.toList= []:=by
   rw[ByteArray.toList_eq];exact List.eq_nil_of_length_eq_zero zB
  have Y8:s.toList.isEmpty=true:=by rw[hE];rfl
  have hd:decide (4000<(s.size:Int))=false:=by simp;omega
  have aFr:s.size<=0:=ae;have ay9:=aa zB;clear hm zB;go_in;go_wp2_with fail;go_step3;go_wp2_with fail;refine (JF key nonce n w Hk Ho HN).mono ?_;rintro e w1 ⟨rfl,hw⟩;obtain⟨st,dE⟩: ∃st,st=mY key.data.toList nonce.data.toList n:=⟨_,rfl⟩
  rw[<-dE];have ka:st.length=16:=by rw[dE];simp[mY,gI]
  have db:=aa (show (prog.info? 299).map (·.size)=some (ints st).toArray.size by rw[rE,ka];kernel_rfl);have iZ:=aa (show (ints st).toArray.size=16 by rw[rE,ka]);have jd:=aa (Dz st);clear dE ka;generalize (ints st).toArray=dF at db iZ jd⊢;go_wp2_with (refine sF ah 299 (.tmp 10) (.tmp 22) ah w1.heap.size dF ah ah _ 299 (by exact aR w1 _) (by exact iZ.out) db jd ?_);intro w3 jj fp;have cl:aD w w3:=(hw.alloc hw.size _).trans (gZ fp hw.size (by have:=hw.size;simp;omega));have iK:=aa cl;clear hw cl jj fp;have il:=run_bytes_of_string (P:=prog) w3 9 34 5 s underlying9 underlying34 underlying5;have kY:=Ru w3.drew s (grownCap w3 s.size 0 5) 5 ((bytesRow s (grownCap w3 s.size 0 5)).size,(bytesRow s (grownCap w3 s.size 0 5)).size+1) (by simp[bytesRow]);have za:=iK.drew.alloc (w:=w3.drew) iK.size (Obj.cells (bytesRow s (grownCap w3 s.size 0 5)) 5 ((bytesRow s (grownCap w3 s.size 0 5)).size,(bytesRow s (grownCap w3 s.size 0 5)).size+1));generalize w3.drew.alloc (Obj.cells (bytesRow s (grownCap w3 s.size 0 5)) 5 ((bytesRow s (grownCap w3 s.size 0 5)).size,(bytesRow s (grownCap w3 s.size 0 5)).size+1))=w4 at il kY za;generalize grownCap w3 s.size 0 5=ai at il;have nI:nc w4 w3.heap.size s.data.toList:=kY;have LI:=Ji nI ai s.size rfl;have wN:=aa za;clear kY nI za;go_wp2_with fail;go_step3;go_wp2_with fail;go_loopw [13] (λi wr=>i= .int .i64 0/\wr=w4) (λ_ _=>0);case atStart=>exact⟨rfl,rfl⟩
  case round=>
   obtain⟨rfl,rfl⟩:=hrel;go_wp2_with fail;try rw[Exit.noGoto_ret]
   go_ret2;refine⟨?_,wN⟩;rw[ay9.out,abk];rfl
 ·have hE: ¬s.toList= []:=Z9 zB;have Y8:s.toList.isEmpty=false:=by simpa using hE
  have zu:=HN.out;unfold Wd at zu;have hd:decide (4000<(s.size:Int))=false:=by simp;omega
  have hm':n+((s.size:Int)+63)/ 64 - 1<=4294967295:=by rcases hm with h|h;exact absurd h zB;exact h
  go_in;go_wp2_with fail;go_step3;go_wp2_with fail;refine (JF key nonce n w Hk Ho HN).mono ?_;rintro e w1 ⟨rfl,hw⟩;obtain⟨st,dE⟩: ∃st,st=mY key.data.toList nonce.data.toList n:=⟨_,rfl⟩
  rw[<-dE];have ka:st.length=16:=by rw[dE];simp[mY,gI]
  have db:=aa (show (prog.info? 299).map (·.size)=some (ints st).toArray.size by rw[rE,ka];kernel_rfl);have iZ:=aa (show (ints st).toArray.size=16 by rw[rE,ka]);have jd:=aa (Dz st);clear dE ka;generalize (ints st).toArray=dF at db iZ jd⊢;go_wp2_with (refine sF ah 299 (.tmp 10) (.tmp 22) ah w1.heap.size dF ah ah _ 299 (by exact aR w1 _) (by exact iZ.out) db jd ?_);intro w2 jj fp;have cl:aD w w2:=(hw.alloc hw.size _).trans (gZ fp hw.size (by have:=hw.size;simp;omega));have dV:=aa cl;clear hw cl jj fp;go_wp2_with fail;refine (FP _ _ _ [n+((s.size:Int)+64 - 1)/ 64 - 1] _ (by exact qC w2 _ _) rfl ak).mono ?_;rintro e w3 ⟨rfl,fo⟩;rw[FJ.2 ⟨ae,ae⟩];have iK:=aa (jX dV fo);clear fo;have il:=run_bytes_of_string (P:=prog) w3 9 34 5 s underlying9 underlying34 underlying5;have kY:=Ru w3.drew s (grownCap w3 s.size 0 5) 5 ((bytesRow s (grownCap w3 s.size 0 5)).size,(bytesRow s (grownCap w3 s.size 0 5)).size+1) (by simp[bytesRow]);have za:=iK.drew.alloc (w:=w3.drew) iK.size (Obj.cells (bytesRow s (grownCap w3 s.size 0 5)) 5 ((bytesRow s (grownCap w3 s.size 0 5)).size,(bytesRow s (grownCap w3 s.size 0 5)).size+1));generalize w3.drew.alloc (Obj.cells (bytesRow s (grownCap w3 s.size 0 5)) 5 ((bytesRow s (grownCap w3 s.size 0 5)).size,(bytesRow s (grownCap w3 s.size 0 5)).size+1))=w4 at il kY za;generalize grownCap w3 s.size 0 5=ai at il;have dD:=aa kY;have wN:=aa za;have hg3:=iK.size;clear kY za;go_wp2_with fail;go_step3;go_wp2_with fail;obtain⟨g,hg⟩: ∃g,g=w3.heap.size:=⟨_,rfl⟩
  have jz:Hid (nc w4 g s.data.toList):=by rw[hg];exact dD.out
  rw[<-hg]at hg3 il⊢;clear hg il;have vf:=bP s;clear vf hE Y8;go_loopw [13] (λi wr=> ∃q:Nat,64*q<=s.size+63/\i= .int .i64 (64*q:Nat)/\nc wr g (i8 key.data.toList nonce.data.toList n s.data.toList (64*q))/\aD w wr) (λi _=>s.size+64 -(intOf i).toNat);case atStart=>exact⟨0,ae,rfl,by rw[abk];exact jz.out,wN⟩
  case round=>
   obtain⟨q,hq,rfl,hB,hW⟩:=hrel;have HB:=aa hB;have HW:=aa hW;clear hB hW;obtain⟨i64,K4⟩: ∃i64,i64=64*q:=⟨_,rfl⟩
   rw[<-K4]at HB hq⊢;have wU:(i64:Int)/ 64=(q:Int):=ae;have Hi:=aa K4;clear K4;by_cases aK:i64<s.size
   ·have Zv:Wd (n+(q:Int)):=⟨ae,by have:=Hi.out;omega⟩
    have hqb:n+(q:Int)<=4294967295:=Zv.2;obtain⟨wo,sy⟩: ∃wo:World,wo=wr:=⟨_,rfl⟩
    rw[<-sy]at HB HW⊢;clear sy;go_wp2_with fail;refine (M1 key nonce (n+(q:Int)) wo (HT.below HW) Hk Ho Zv).mono ?_;rintro e w5 ⟨rfl,qw⟩;have jz:=aa (HB.below qw);have qd:=aa (bg HW qw);obtain⟨Lc,QR⟩: ∃Lc,Lc=bs (lV key.data.toList nonce.data.toList (n+(q:Int))):=⟨_,rfl⟩
    rw[<-QR];have XW:Lc.size=64:=(by rw[QR,ei,lV,oP,DC]);have aDm:=aa QR;have YU:=aa XW;clear qw QR XW;go_wp2_with fail;go_loopw [62] (λx wi=> ∃k:Nat,k<=64/\i64+k<=s.size/\x= .int .i64 k/\nc wi g (i8 key.data.toList nonce.data.toList n s.data.toList (i64+k))/\aD w wi) (λx _=>64 -(intOf x).toNat);case atStart=>exact⟨0,ae,ae,rfl,jz,qd⟩
    case round=>
     obtain⟨k,aAh,Qc,rfl,rk,nG⟩:=hrel;have mQ:=aa nG;by_cases hk:k<64
     ·by_cases he:i64+k=s.size
      ·have heB:((i64:Int)+(k:Int)==(s.size:Int))=true:=beq_iff_eq.2 ae;have LI:=Ji rk ai s.size (by rw[F8];rfl);have He:=aa he;clear rk nG he;generalize jh:i8 key.data.toList nonce.data.toList n s.data.toList (i64+k)=Dd at LI;have mU:=aa jh;clear jh;go_wp2_with fail;try rw[Exit.noGoto_ret]
       go_ret2;refine⟨?_,mQ⟩;rw[<-mU.out,He.out];rfl
      ·have heB:((i64:Int)+(k:Int)==(s.size:Int))=false:=beq_eq_false_iff_ne.2 ae;obtain⟨j,hj⟩: ∃j,j=i64+k:=⟨_,rfl⟩
       rw[<-hj]at rk he Qc;have Lj:j<s.size:=ae;have hc:=(rk j (by rw[F8];exact Lj)).1;have hf:=(rk j (by rw[F8];exact Lj)).2;rw[ao' _ _ _ _ _ Lj]at hc;have cZ:=aa (apa key.data.toList nonce.data.toList n s.data.toList j Lj);have I3:j / 64=q:=(by have:=Hi.out;omega);have hjr:j % 64=k:=(by have:=Hi.out;omega);rw[I3,hjr]at cZ;obtain⟨u,hu⟩: ∃u,u=s.data.toList.getD j 0:=⟨_,rfl⟩
       rw[<-hu]at hc cZ;have cS:IntKind.i64.wrap ((i64:Int)+(k:Int))=(j:Int):=(by rw[IntWalk.i64_in _ ae];omega);have BC:(k:Int)<(Lc.size:Int):=(by have:=YU.out;omega);have hjI:(j:Int)<(s.size:Int):=ae;have Is:=aa rk;have Hj:=aa hj;clear rk nG he hj hu I3 hjr;go_wp2_with fail;go_still_tail 11,ax;have j6:Lc[k]'(by have:=YU.out;omega)=(lV key.data.toList nonce.data.toList (n+(q:Int))).getD k 0:=by
        have h1:=aDm.out;subst h1;have:k<(lV key.data.toList nonce.data.toList (n+(q:Int))).length:=(by have:=YU.out;rw[ei]at this;omega);simp[bs,ByteArray.getElem_eq_getElem_data,this]
       rw[aaa,j6];change wpList _ _ _ _ _ wr.drew;clear j6;generalize hv:u^^^(lV key.data.toList nonce.data.toList (n+(q:Int))).getD k 0=v at cZ⊢;clear hv;go_wp2;go_roundw;case rel=>
        refine⟨k+1,ae,by have:=Hj.out;omega,by go_num,?_,(mQ.setCell (p:=⟨g,j,none⟩) (by simp only;omega) _).drew⟩;have h:=(Is.set j v).drew;rw[cZ.out]at h;rw[show i64+(k+1)=j+1 by have:=Hj.out;omega];exact h
       case measure=>exact cM
     ·obtain rfl:k=64:=ae;have Is:=aa rk;clear rk nG;go_wp2;go_roundw;case rel=>
       refine⟨q+1,by have:=Hi.out;omega,?_,?_,mQ⟩
       ·have:=Hi.out;go_num
       ·rw[show 64*(q+1)=i64+64 by have:=Hi.out;omega];exact Is.out
      case measure=>exact cM
   ·have hBB:=HB.out;have LI:=Ji hBB ai s.size (by rw[F8];rfl);generalize jh:i8 key.data.toList nonce.data.toList n s.data.toList i64=Dd at LI;have mU:=aa jh;clear jh hBB;go_wp2_with fail;try rw[Exit.noGoto_ret]
    go_ret2;refine⟨?_,HW⟩;rw[<-mU.out,ao9 _ _ _ _ i64 (by show s.size<=i64;omega)];rfl
theorem ag7 (h:P:=by
 intro w2 jj fp;have cl:aD w w2:=(hw.alloc hw.size _).trans (gZ fp hw.size (by have:=hw.size;simp;omega));have dV:=aa cl;go_wp2_with fail;try rw[Exit.noGoto_ret]
 go_ret2;exact⟨rfl,dV⟩):P:=h
theorem apc (key nonce s:ag) (n:Int) (w:World) (gq:key.size<=9223372036854775807) (fQ:nonce.size<=9223372036854775807) (h: ¬(key.size=32/\nonce.size=12/\Wd n)):
  Calls prog 171 #[.string key,.string nonce,.int .i64 n,.string s] w (bF w (.tuple #[.string (bs []),.int .i64 1])):=by
 have H:=aa h;go_in;go_wp2_with fail;go_step3;go_wp2_with fail;refine (abi key nonce n w gq fQ H).mono ?_;rintro e w1 ⟨rfl,hw⟩;go_wp2_with (refine sF ah 299 (.tmp 10) (.tmp 22) ah w1.heap.size tZ ah ah _ 299 (by exact aR w1 _) ah ax ax ?_);exact ag7
theorem apd (key nonce s:ag) (n:Int) (w:World) (hk:key.size=32) (ho:nonce.size=12) (hn:Wd n) (mN:s.size<=maxLen) (h:4000<s.size\/(0<s.size/\s.size<=4000/\4294967295<n+((s.size:Int)+63)/ 64 - 1)):
  Calls prog 171 #[.string key,.string nonce,.int .i64 n,.string s] w (bF w (.tuple #[.string (bs []),.int .i64 2])):=by
 unfold maxLen at mN;have Hk:=aa hk;have Ho:=aa ho;have HN:=aa hn;have start: ∀w1:World,aD w w1->True:=λ_ _=>trivial;by_cases tN:4000<s.size
 ·clear h start;have hbI:(4000:Int)<(s.size:Int):=ae;go_in;go_wp2_with fail;go_step3;go_wp2_with fail;refine (JF key nonce n w Hk Ho HN).mono ?_;rintro e w1 ⟨rfl,hw⟩;obtain⟨st,dE⟩: ∃st,st=mY key.data.toList nonce.data.toList n:=⟨_,rfl⟩
  rw[<-dE];have ka:st.length=16:=by rw[dE];simp[mY,gI]
  have db:=aa (show (prog.info? 299).map (·.size)=some (ints st).toArray.size by rw[rE,ka];kernel_rfl);have iZ:=aa (show (ints st).toArray.size=16 by rw[rE,ka]);have jd:=aa (Dz st);generalize (ints st).toArray=dF at db iZ jd⊢;go_wp2_with (refine sF ah 299 (.tmp 10) (.tmp 22) ah w1.heap.size dF ah ah _ 299 (by exact aR w1 _) (by exact iZ.out) db jd ?_);exact ag7
 ·have h2:0<s.size/\s.size<=4000/\4294967295<n+((s.size:Int)+63)/ 64 - 1:=h.resolve_left tN;obtain⟨hp,h4,hm⟩:=h2;have hE: ¬s.toList= []:=Z9 ae;have Y8:s.toList.isEmpty=false:=by simpa using hE
  have zu:=HN.out;unfold Wd at zu;go_in;go_wp2_with fail;go_step3;go_wp2_with fail;refine (JF key nonce n w Hk Ho HN).mono ?_;rintro e w1 ⟨rfl,hw⟩;obtain⟨st,dE⟩: ∃st,st=mY key.data.toList nonce.data.toList n:=⟨_,rfl⟩
  rw[<-dE];have ka:st.length=16:=by rw[dE];simp[mY,gI]
  have db:=aa (show (prog.info? 299).map (·.size)=some (ints st).toArray.size by rw[rE,ka];kernel_rfl);have iZ:=aa (show (ints st).toArray.size=16 by rw[rE,ka]);have jd:=aa (Dz st);generalize (ints st).toArray=dF at db iZ jd⊢;go_wp2_with (refine sF ah 299 (.tmp 10) (.tmp 22) ah w1.heap.size dF ah ah _ 299 (by exact aR w1 _) (by exact iZ.out) db jd ?_);intro w2 jj fp;have cl:aD w w2:=(hw.alloc hw.size _).trans (gZ fp hw.size (by have:=hw.size;simp;omega));have dV:=aa cl;go_wp2_with fail;refine (FP _ _ _ [n+((s.size:Int)+64 - 1)/ 64 - 1] _ (by exact qC w2 _ _) rfl ak).mono ?_;rintro e w3 ⟨rfl,fo⟩;have hf:ez [n+((s.size:Int)+64 - 1)/ 64 - 1]=false:=by
   rw[Bool.eq_false_iff];intro e;have:=FJ.1 e;omega
  rw[hf];have iK:=aa (jX dV fo);go_wp2_with fail;try rw[Exit.noGoto_ret]
  go_ret2;exact⟨rfl,iK⟩
theorem ape (a b:UInt8):(a^^^b)^^^b=a:=by
 rw[UInt8.xor_assoc,UInt8.xor_self,UInt8.xor_zero]
theorem apf (key nonce:aF) (n:Int) (s:aF):i8 key nonce n (i8 key nonce n s s.length) s.length=s:=by
 apply List.ext_getElem
 ·simp[i8]
 ·intro j h1 h2;simp only[i8,List.getElem_map,List.getElem_range];rw[if_pos h2];have:(List.map (λi=>if i<s.length then s.getD i 0^^^(lV key nonce (n+(i / 64:Nat))).getD (i % 64) 0 else s.getD i 0) (List.range s.length)).getD j 0=s.getD j 0^^^(lV key nonce (n+(j / 64:Nat))).getD (j % 64) 0:=by
   simp[h2]
  rw[this,ape];simp[h2]
def pc (key nonce s:ag) (n:Int):Nat:=
 if key.size=32/\nonce.size=12/\0<=n/\n<=4294967295 then (if 4000<s.size\/(0<s.size/\4294967295<n+((s.size:Int)+63)/ 64 - 1) then 2 else 0) else 1
def gQ (key nonce s:ag) (n:Int):ag:=if pc key nonce s n=0 then bs (i8 key.data.toList nonce.data.toList n s.data.toList s.size) else bs []
theorem abl (key nonce s:ag) (n:Int) (w:World) (hT:iy w) (gq:key.size<=maxLen) (fQ:nonce.size<=maxLen) (jJ:s.size<=maxLen):
  Calls prog 171 #[.string key,.string nonce,.int .i64 n,.string s] w (bF w (.tuple #[.string (gQ key nonce s n),.int .i64 (pc key nonce s n:Nat)])):=by
 have fC:=gq;have dy:=fQ;unfold maxLen at fC dy;by_cases h:key.size=32/\nonce.size=12/\0<=n/\n<=4294967295
 ·by_cases h2:4000<s.size\/(0<s.size/\4294967295<n+((s.size:Int)+63)/ 64 - 1)
  ·have hb:pc key nonce s n=2:=by rw[pc,if_pos h,if_pos h2]
   rw[gQ,hb];refine apd key nonce s n w h.1 h.2.1 h.2.2 jJ ?_;by_cases h4:4000<s.size
   ·exact .inl h4
   ·have:=h2.resolve_left h4;exact .inr ⟨this.1,ae,this.2⟩
  ·have hb:pc key nonce s n=0:=by rw[pc,if_pos h,if_neg h2]
   rw[gQ,if_pos hb,hb];refine apb key nonce s n w hT h.1 h.2.1 h.2.2 ae ?_;by_cases h0:s.size=0
   ·exact .inl h0
   ·exact .inr (by
    have: ¬(0<s.size/\4294967295<n+((s.size:Int)+63)/ 64 - 1):=λe=>h2 (.inr e);omega)
 ·have hb:pc key nonce s n=1:=by rw[pc,if_neg h]
  rw[gQ,hb];exact apc key nonce s n w fC dy h
theorem M2 (key nonce s:ag) (n:Int) (h:pc key nonce s n=0):(gQ key nonce s n).size=s.size:=by
 rw[gQ,if_pos h,ei,F8];rfl
theorem apg (key nonce s t:ag) (n:Int) (h:t.size=s.size):pc key nonce t n=pc key nonce s n:=by
 unfold pc;rw[h]
theorem aph (key nonce s:ag) (n:Int) (h:pc key nonce s n=0):pc key nonce (gQ key nonce s n) n=0/\gQ key nonce (gQ key nonce s n) n=s:=by
 have h1:=apg key nonce s (gQ key nonce s n) n (M2 key nonce s n h);have h2:pc key nonce (gQ key nonce s n) n=0:=h1.trans h;refine⟨h2,?_⟩;rw[gQ,if_pos h2,M2 key nonce s n h];rw[gQ,if_pos h,sD];have e:i8 key.data.toList nonce.data.toList n (i8 key.data.toList nonce.data.toList n s.data.toList s.size) s.size=s.data.toList:=apf key.data.toList nonce.data.toList n s.data.toList;rw[e,Dx]
end
section
open Go.Shelf
variable {B R b:Nat} {cs:bx} {fr:Nat×Nat} {t:TypeId} {w w':World}
def api:Nat->Nat
 |99=>241
 |105=>164
 |137=>338
 |138=>135
 |143=>136
 |154=>339
 |155=>328
 |165=>242
 |166=>12
 |167=>14
 |169=>15
 |170=>243
 |195=>217
 |197=>218
 |206=>298
 |212=>240
 |217=>277
 |218=>219
 |219=>220
 |224=>279
 |225=>278
 |240=>33
 |241=>299
 |260=>276
 |263=>296
 |264=>297
 |266=>329
 |267=>280
 |276=>79
 |277=>334
 |314=>330
 |n=>n
def apj:Nat->Nat
 |0=>0
 |3=>3
 |4=>4
 |5=>5
 |9=>9
 |20=>20
 |21=>21
 |37=>34
 |46=>295
 |51=>337
 |53=>278
 |70=>33
 |72=>36
 |75=>40
 |76=>41
 |80=>45
 |105=>274
 |109=>296
 |119=>375
 |127=>62
 |138=>377
 |139=>378
 |146=>345
 |148=>347
 |164=>135
 |n=>n
def apk:Nat->Nat
 |1=>2
 |3=>4
 |4=>5
 |n=>n
def Af:Go.Shelf.Ren:=⟨api,apj,apk⟩
theorem sR:Builder.Extra prog Af:= {
 sizeBuilder:=ax
 liesBuilder:=ax
 t5:=underlying5
 a5:=Tryz.isAgg5
 z5:=Tryz.sizeOf5
 v5:=zeroValue5
 infoByte:=ax
 cellsByte:=ax
 sizeByte:=ax
 neB5:=au
}
theorem apl:Lays.n165 prog Af:= {
 mixed:=ax
 f165:=func242.trans (congrArg some ax)
 f240:=func33.trans (congrArg some ax)
 f241:=func299.trans (congrArg some ax)
 f276:=func79.trans (congrArg some ax)
 f277:=func334.trans (congrArg some ax)
 t0:=underlying0
 a0:=Tryz.isAgg0
 z0:=Tryz.sizeOf0
 v0:=zeroValue0
 t3:=underlying3
 a3:=Tryz.isAgg3
 z3:=Tryz.sizeOf3
 v3:=zeroValue3
 t4:=underlying4
 a4:=Tryz.isAgg4
 z4:=Tryz.sizeOf4
 v4:=zeroValue4
 t9:=underlying9
 a9:=Tryz.isAgg9
 z9:=Tryz.sizeOf9
 v9:=zeroValue9
 t20:=underlying20
 a20:=Tryz.isAgg20
 z20:=Tryz.sizeOf20
 v20:=zeroValue20
 t37:=underlying34
 a37:=Tryz.isAgg34
 z37:=Tryz.sizeOf34
 v37:=zeroValue34
 t70:=underlying33
 a70:=Tryz.isAgg33
 z70:=Tryz.sizeOf33
 v70:=zeroValue33
 t72:=underlying36
 a72:=Tryz.isAgg36
 z72:=Tryz.sizeOf36
 v72:=zeroValue36
 t164:=underlying135
 a164:=Tryz.isAgg135
 z164:=Tryz.sizeOf135
 v164:=zeroValue135
}
theorem M3:Lays.n166 prog Af:= {
 mixed:=ax
 f166:=func12.trans (congrArg some ax)
 f240:=func33.trans (congrArg some ax)
 f276:=func79.trans (congrArg some ax)
 t0:=underlying0
 a0:=Tryz.isAgg0
 z0:=Tryz.sizeOf0
 v0:=zeroValue0
 t3:=underlying3
 a3:=Tryz.isAgg3
 z3:=Tryz.sizeOf3
 v3:=zeroValue3
 t4:=underlying4
 a4:=Tryz.isAgg4
 z4:=Tryz.sizeOf4
 v4:=zeroValue4
 t9:=underlying9
 a9:=Tryz.isAgg9
 z9:=Tryz.sizeOf9
 v9:=zeroValue9
 t20:=underlying20
 a20:=Tryz.isAgg20
 z20:=Tryz.sizeOf20
 v20:=zeroValue20
 t37:=underlying34
 a37:=Tryz.isAgg34
 z37:=Tryz.sizeOf34
 v37:=zeroValue34
 t70:=underlying33
 a70:=Tryz.isAgg33
 z70:=Tryz.sizeOf33
 v70:=zeroValue33
 t72:=underlying36
 a72:=Tryz.isAgg36
 z72:=Tryz.sizeOf36
 v72:=zeroValue36
 t75:=underlying40
 a75:=Tryz.isAgg40
 z75:=Tryz.sizeOf40
 v75:=zeroValue40
 t164:=underlying135
 a164:=Tryz.isAgg135
 z164:=Tryz.sizeOf135
 v164:=zeroValue135
}
theorem apm:Lays.n167 prog Af:= {
 mixed:=ax
 f167:=func14.trans (congrArg some ax)
 f240:=func33.trans (congrArg some ax)
 f276:=func79.trans (congrArg some ax)
 t0:=underlying0
 a0:=Tryz.isAgg0
 z0:=Tryz.sizeOf0
 v0:=zeroValue0
 t4:=underlying4
 a4:=Tryz.isAgg4
 z4:=Tryz.sizeOf4
 v4:=zeroValue4
 t5:=underlying5
 a5:=Tryz.isAgg5
 z5:=Tryz.sizeOf5
 v5:=zeroValue5
 t9:=underlying9
 a9:=Tryz.isAgg9
 z9:=Tryz.sizeOf9
 v9:=zeroValue9
 t20:=underlying20
 a20:=Tryz.isAgg20
 z20:=Tryz.sizeOf20
 v20:=zeroValue20
 t37:=underlying34
 a37:=Tryz.isAgg34
 z37:=Tryz.sizeOf34
 v37:=zeroValue34
 t70:=underlying33
 a70:=Tryz.isAgg33
 z70:=Tryz.sizeOf33
 v70:=zeroValue33
 t72:=underlying36
 a72:=Tryz.isAgg36
 z72:=Tryz.sizeOf36
 v72:=zeroValue36
 t75:=underlying40
 a75:=Tryz.isAgg40
 z75:=Tryz.sizeOf40
 v75:=zeroValue40
 t164:=underlying135
 a164:=Tryz.isAgg135
 z164:=Tryz.sizeOf135
 v164:=zeroValue135
}
theorem JG:Lays.n169 prog Af:= {
 mixed:=ax
 f169:=func15.trans (congrArg some ax)
 t0:=underlying0
 a0:=Tryz.isAgg0
 z0:=Tryz.sizeOf0
 v0:=zeroValue0
 t3:=underlying3
 a3:=Tryz.isAgg3
 z3:=Tryz.sizeOf3
 v3:=zeroValue3
 t9:=underlying9
 a9:=Tryz.isAgg9
 z9:=Tryz.sizeOf9
 v9:=zeroValue9
 t37:=underlying34
 a37:=Tryz.isAgg34
 z37:=Tryz.sizeOf34
 v37:=zeroValue34
 t70:=underlying33
 a70:=Tryz.isAgg33
 z70:=Tryz.sizeOf33
 v70:=zeroValue33
 t72:=underlying36
 a72:=Tryz.isAgg36
 z72:=Tryz.sizeOf36
 v72:=zeroValue36
 t127:=underlying62
 a127:=Tryz.isAgg62
 z127:=Tryz.sizeOf62
 v127:=zeroValue62
}
theorem apn:Lays.n170 prog Af:= {
 mixed:=ax
 f170:=func243.trans (congrArg some ax)
 t0:=underlying0
 a0:=Tryz.isAgg0
 z0:=Tryz.sizeOf0
 v0:=zeroValue0
 t3:=underlying3
 a3:=Tryz.isAgg3
 z3:=Tryz.sizeOf3
 v3:=zeroValue3
 t37:=underlying34
 a37:=Tryz.isAgg34
 z37:=Tryz.sizeOf34
 v37:=zeroValue34
 t70:=underlying33
 a70:=Tryz.isAgg33
 z70:=Tryz.sizeOf33
 v70:=zeroValue33
 t72:=underlying36
 a72:=Tryz.isAgg36
 z72:=Tryz.sizeOf36
 v72:=zeroValue36
}
theorem apo:Lays.n105 prog Af:= {
 mixed:=ax
 f99:=func241.trans (congrArg some ax)
 f105:=func164.trans (congrArg some ax)
 f165:=func242.trans (congrArg some ax)
 f166:=func12.trans (congrArg some ax)
 f169:=func15.trans (congrArg some ax)
 f170:=func243.trans (congrArg some ax)
 f206:=func298.trans (congrArg some ax)
 f212:=func240.trans (congrArg some ax)
 f240:=func33.trans (congrArg some ax)
 f241:=func299.trans (congrArg some ax)
 f263:=func296.trans (congrArg some ax)
 f264:=func297.trans (congrArg some ax)
 f276:=func79.trans (congrArg some ax)
 f277:=func334.trans (congrArg some ax)
 t0:=underlying0
 a0:=Tryz.isAgg0
 z0:=Tryz.sizeOf0
 v0:=zeroValue0
 t3:=underlying3
 a3:=Tryz.isAgg3
 z3:=Tryz.sizeOf3
 v3:=zeroValue3
 t4:=underlying4
 a4:=Tryz.isAgg4
 z4:=Tryz.sizeOf4
 v4:=zeroValue4
 t5:=underlying5
 a5:=Tryz.isAgg5
 z5:=Tryz.sizeOf5
 v5:=zeroValue5
 t9:=underlying9
 a9:=Tryz.isAgg9
 z9:=Tryz.sizeOf9
 v9:=zeroValue9
 t20:=underlying20
 a20:=Tryz.isAgg20
 z20:=Tryz.sizeOf20
 v20:=zeroValue20
 t37:=underlying34
 a37:=Tryz.isAgg34
 z37:=Tryz.sizeOf34
 v37:=zeroValue34
 t46:=underlying295
 a46:=Tryz.isAgg295
 z46:=Tryz.sizeOf295
 v46:=zeroValue295
 t51:=underlying337
 a51:=Tryz.isAgg337
 z51:=Tryz.sizeOf337
 v51:=zeroValue337
 t53:=underlying278
 a53:=Tryz.isAgg278
 z53:=Tryz.sizeOf278
 v53:=zeroValue278
 t70:=underlying33
 a70:=Tryz.isAgg33
 z70:=Tryz.sizeOf33
 v70:=zeroValue33
 t72:=underlying36
 a72:=Tryz.isAgg36
 z72:=Tryz.sizeOf36
 v72:=zeroValue36
 t75:=underlying40
 a75:=Tryz.isAgg40
 z75:=Tryz.sizeOf40
 v75:=zeroValue40
 t76:=underlying41
 a76:=Tryz.isAgg41
 z76:=Tryz.sizeOf41
 v76:=zeroValue41
 t109:=underlying296
 a109:=Tryz.isAgg296
 z109:=Tryz.sizeOf296
 v109:=zeroValue296
 t127:=underlying62
 a127:=Tryz.isAgg62
 z127:=Tryz.sizeOf62
 v127:=zeroValue62
 t146:=underlying345
 a146:=Tryz.isAgg345
 z146:=Tryz.sizeOf345
 v146:=zeroValue345
 t148:=underlying347
 a148:=Tryz.isAgg347
 z148:=Tryz.sizeOf347
 v148:=zeroValue347
 t164:=underlying135
 a164:=Tryz.isAgg135
 z164:=Tryz.sizeOf135
 v164:=zeroValue135
}
theorem apq:Lays.n155 prog Af:= {
 mixed:=ax
 f138:=func135.trans (congrArg some ax)
 f143:=func136.trans (congrArg some ax)
 f154:=func339.trans (congrArg some ax)
 f155:=func328.trans (congrArg some ax)
 f165:=func242.trans (congrArg some ax)
 f166:=func12.trans (congrArg some ax)
 f169:=func15.trans (congrArg some ax)
 f195:=func217.trans (congrArg some ax)
 f197:=func218.trans (congrArg some ax)
 f217:=func277.trans (congrArg some ax)
 f218:=func219.trans (congrArg some ax)
 f219:=func220.trans (congrArg some ax)
 f224:=func279.trans (congrArg some ax)
 f225:=func278.trans (congrArg some ax)
 f240:=func33.trans (congrArg some ax)
 f241:=func299.trans (congrArg some ax)
 f260:=func276.trans (congrArg some ax)
 f266:=func329.trans (congrArg some ax)
 f267:=func280.trans (congrArg some ax)
 f276:=func79.trans (congrArg some ax)
 f277:=func334.trans (congrArg some ax)
 f314:=func330.trans (congrArg some ax)
 t0:=underlying0
 a0:=Tryz.isAgg0
 z0:=Tryz.sizeOf0
 v0:=zeroValue0
 t3:=underlying3
 a3:=Tryz.isAgg3
 z3:=Tryz.sizeOf3
 v3:=zeroValue3
 t4:=underlying4
 a4:=Tryz.isAgg4
 z4:=Tryz.sizeOf4
 v4:=zeroValue4
 t5:=underlying5
 a5:=Tryz.isAgg5
 z5:=Tryz.sizeOf5
 v5:=zeroValue5
 t9:=underlying9
 a9:=Tryz.isAgg9
 z9:=Tryz.sizeOf9
 v9:=zeroValue9
 t20:=underlying20
 a20:=Tryz.isAgg20
 z20:=Tryz.sizeOf20
 v20:=zeroValue20
 t21:=underlying21
 a21:=Tryz.isAgg21
 z21:=Tryz.sizeOf21
 v21:=zeroValue21
 t37:=underlying34
 a37:=Tryz.isAgg34
 z37:=Tryz.sizeOf34
 v37:=zeroValue34
 t46:=underlying295
 a46:=Tryz.isAgg295
 z46:=Tryz.sizeOf295
 v46:=zeroValue295
 t51:=underlying337
 a51:=Tryz.isAgg337
 z51:=Tryz.sizeOf337
 v51:=zeroValue337
 t70:=underlying33
 a70:=Tryz.isAgg33
 z70:=Tryz.sizeOf33
 v70:=zeroValue33
 t72:=underlying36
 a72:=Tryz.isAgg36
 z72:=Tryz.sizeOf36
 v72:=zeroValue36
 t75:=underlying40
 a75:=Tryz.isAgg40
 z75:=Tryz.sizeOf40
 v75:=zeroValue40
 t76:=underlying41
 a76:=Tryz.isAgg41
 z76:=Tryz.sizeOf41
 v76:=zeroValue41
 t105:=underlying274
 a105:=Tryz.isAgg274
 z105:=Tryz.sizeOf274
 v105:=zeroValue274
 t119:=underlying375
 a119:=Tryz.isAgg375
 z119:=Tryz.sizeOf375
 t127:=underlying62
 a127:=Tryz.isAgg62
 z127:=Tryz.sizeOf62
 v127:=zeroValue62
 t138:=underlying377
 a138:=Tryz.isAgg377
 z138:=Tryz.sizeOf377
 v138:=zeroValue377
 t139:=underlying378
 a139:=Tryz.isAgg378
 z139:=Tryz.sizeOf378
 v139:=zeroValue378
 t146:=underlying345
 a146:=Tryz.isAgg345
 z146:=Tryz.sizeOf345
 v146:=zeroValue345
 t164:=underlying135
 a164:=Tryz.isAgg135
 z164:=Tryz.sizeOf135
 v164:=zeroValue135
 g1:=ax
 g3:=ax
 g4:=ax
}
theorem apr:Lays.n137 prog Af:= {
 mixed:=ax
 f137:=func338.trans (congrArg some ax)
 f217:=func277.trans (congrArg some ax)
 f266:=func329.trans (congrArg some ax)
 t3:=underlying3
 a3:=Tryz.isAgg3
 z3:=Tryz.sizeOf3
 v3:=zeroValue3
 t5:=underlying5
 a5:=Tryz.isAgg5
 z5:=Tryz.sizeOf5
 v5:=zeroValue5
 t9:=underlying9
 a9:=Tryz.isAgg9
 z9:=Tryz.sizeOf9
 v9:=zeroValue9
}
theorem aps (B b:Nat) (bs:bJ) (s:ag) (w:World) (h:Lib.IsBuilder 36 5 B b bs w) (ey:bs.length+s.size<=140737488355328) (fK:B<=w.heap.size):
  Calls prog 12 #[.pointer (aw b),.string s] w λe w'=>e= .returned (.tuple #[.int .i64 s.size,.nilIface])/\(Lib.BuilderAt 36 5 B b (.pointer (aw b)) (bs++Lib.strCells s) w'/\Below B w w'):=
 Any.Builder_WriteString M3 sR B b bs s w h ey fK
theorem apt (B b:Nat) (l:aF) (w:World) (h:Lib.IsBuilder 36 5 B b (Lib.byteCells l) w) (fK:B<=w.heap.size):
  Calls prog 15 #[.pointer (aw b)] w λe w'=>e= .returned (.string ⟨l.toArray⟩)/\Below B w w':=
 Any.Builder_String_any JG sR B b l w h fK
theorem apu (B b n:Nat) (w:World) (hB:B<=b) (mW:bj w b #[.pointer none,ay] 36) (fK:B<=w.heap.size) (hn:n<=281474976710656):
  Calls prog 242 #[.pointer (aw b),.int .i64 n] w λe w'=>e= .returned (.tuple #[])/\(Lib.BuilderAt 36 5 B b (.pointer (aw b)) [] w'/\Below B w w'):=
 Any.Builder_Grow_fresh apl sR B b n w hB mW fK hn
theorem So (s:ag) (c:Nat) (w:World) (hc:c<=9223372036854775807) (ey:s.size*c<=140737488355328):
  Calls prog 164 #[.string s,.int .i64 c] w (bF w (.string ⟨(Lib.repeatL s.data.toList c).toArray⟩)):=
 Any.strings_Repeat apo sR s c w hc ey
theorem abm (s fU new:ag) (m:Int) (w:World) (hs:s.size<4294967281) (hm:w.cell? ⟨2,0,none⟩=some (.int .i64 m)) (h1:1<=fU.size) (ey:s.size+Lib.countB s fU*new.size<=140737488355328):
  Calls prog 328 #[.string s,.string fU,.string new] w (bF w (.string ⟨(Lib.replaceAll s.data.toList fU.data.toList new.data.toList).toArray⟩)):=
 Any.strings_ReplaceAll apq sR s fU new m w hs hm h1 ey
theorem apv (s:ag) (c:Int) (w:World):
  Calls prog 338 #[.string s,.int .u8 c] w (eu w (.int .i64 (Lib.indexByte s.data.toList c.toNat.toUInt8))):=
 Any.strings_IndexByte apr s c w
def gC (w:World) (B b:Nat) (l:aF):Prop:=Lib.IsBuilderF 36 5 B b (Lib.byteCells l) w
theorem Sq (hB:B<=w.heap.size):gC (w.alloc (.cells #[.pointer none,ay] 36)) B w.heap.size []:=
 .inl ⟨hB,ay,aR w _,⟨rfl,.inl ⟨rfl,rfl⟩⟩,by simp[Value.ownBlock]⟩
theorem Sr {l:aF} (h:gC w B b l) (hb:w'.heap[b]?=w.heap[b]?) (hr: ∀(g:Nat) (cs:bx) (fz:Nat×Nat),w.heap[g]?=some (.cells cs 5 fz)->w'.heap[g]?=w.heap[g]?):gC w' B b l:=by
 have key: ∀p,Lib.BuilderAtF 36 5 B b p (Lib.byteCells l) w->Lib.BuilderAtF 36 5 B b p (Lib.byteCells l) w':=by
  rintro p ⟨hB,v,ky,⟨hl,lN⟩,aO⟩;refine⟨hB,v,hb.trans ky,⟨hl,?_⟩,aO⟩;rcases lN with h|⟨g,ai,bK,fz,hv,hg,hh,r⟩
  ·exact .inl h
  ·exact .inr ⟨g,ai,bK,fz,hv,hg,(hr g bK fz hh).trans hh,r⟩
 rcases h with h|h
 ·exact .inl (key _ h)
 ·exact .inr (key _ h)
theorem JH {l:aF} (h:gC w B b l):b<w.heap.size/\B<=b:=by
 rcases h with⟨hB,v,hb,_⟩|⟨hB,v,hb,_⟩<;>exact⟨bf hb,hB⟩
theorem M4 {l:aF} (h:gC w B b l) (hb:aD w w'):gC w' B b l:=
 Sr h (hb.block b (JH h).1) (λg cs fz hg=>hb.block g (bf hg))
theorem DM {l:aF} (h:gC w B b l) (hg:w.grownBy w' (some R)) (hR:w.heap[R]?=some (.cells cs t fr)) (ht:t≠5) (hb:R≠b):gC w' B b l:=
 Sr h (hg.block b (JH h).1 (λe=>hb (bW e).symm)) (λg c fz hh=>hg.block g (bf hh) (λe=>by
  obtain rfl:=bW e;rw[hR]at hh;injection hh with hh
  injection hh with _ h2 _
  exact ht h2))
theorem JI (h:Lib.OthersKept 5 (some b) w w') (hR:w.heap[R]?=some (.cells cs t fr)) (ht:t≠5) (hb:R≠b):w'.heap[R]?=some (.cells cs t fr):=
 h R _ hR (λe=>hb (bW e)) (λc fz e=>by injection e with _ h2 _;exact ht h2)
theorem M5 (B b:Nat) (l:aF) (x:UInt8) (w:World) (h:gC w B b l) (ey:l.length<=1000000000) (fK:B<=w.heap.size):
  Calls prog 14 #[.pointer (aw b),.int .u8 (x.toNat:Int)] w λe w'=>e= .returned .nilIface/\gC w' B b (l++ [x])/\Below B w w'/\Lib.OthersKept 5 (some b) w w':=
 (Any.Builder_WriteByte_k apm sR B b (Lib.byteCells l) (x.toNat:Int) w h (by rw[Lib.byteCells_length];omega) fK).mono λe w' ⟨he,h1,h2,h3⟩=>by
  refine⟨he,.inr ?_,h2,h3⟩;rw[Lib.byteCells_append];exact h1
theorem Ss (B b:Nat) (l:aF) (v:Nat) (hv:v<256) (w:World) (h:gC w B b l) (ey:l.length<=1000000000) (fK:B<=w.heap.size):
  Calls prog 14 #[.pointer (aw b),.int .u8 (v:Int)] w λe w'=>e= .returned .nilIface/\gC w' B b (l++ [UInt8.ofNat v])/\Below B w w'/\Lib.OthersKept 5 (some b) w w':=by
 have:=M5 B b l (UInt8.ofNat v) w h ey fK;rwa [show (UInt8.ofNat v).toNat=v by simp;omega]at this
theorem St (B b:Nat) (l:aF) (s:ag) (w:World) (h:gC w B b l) (ey:l.length+s.size<=1000000000) (fK:B<=w.heap.size):
  Calls prog 12 #[.pointer (aw b),.string s] w λe w'=>e= .returned (.tuple #[.int .i64 s.size,.nilIface])/\gC w' B b (l++s.data.toList)/\Below B w w'/\Lib.OthersKept 5 (some b) w w':=
 (Any.Builder_WriteString_k M3 sR B b (Lib.byteCells l) s w h (by rw[Lib.byteCells_length];omega) fK).mono λe w' ⟨he,h1,h2,h3⟩=>by
  refine⟨he,.inr ?_,h2,h3⟩;rw[Lib.byteCells_append];exact h1
theorem abn (B b:Nat) (l:aF) (w:World) (h:gC w B b l):
  Calls prog 243 #[.pointer (aw b)] w λe w'=>e= .returned (.int .i64 l.length)/\w=w':=
 (Any.Builder_Len_f apn B b (Lib.byteCells l) w h).mono λe w' ⟨he,hw⟩=>⟨by rw[he,Lib.byteCells_length],hw.symm⟩
theorem apw (B b:Nat) (l:aF) (w:World) (h:gC w B b l) (fK:B<=w.heap.size):
  Calls prog 15 #[.pointer (aw b)] w λe w'=>e= .returned (.string (bs l))/\Below B w w'/\Lib.OthersKept 5 (some b) w w':=by
 by_cases hl:l= []
 ·subst hl;exact (Any.Builder_String_empty_k JG sR B b w h fK).mono λe w' ⟨he,_,h2,h3⟩=>⟨he,h2,h3⟩
 ·exact (Any.Builder_String_k JG sR B b l w h hl).mono λe w' ⟨he,_,h2,h3⟩=>⟨he,h2,h3⟩
theorem JJ (B b:Nat) (l:aF) (w:World) (h:gC w B b l) (fK:B<=w.heap.size):
  Calls prog 15 #[.pointer (aw b)] w λe w'=>e= .returned (.string (bs l))/\Below B w w':=by
 by_cases hl:l= []
 ·subst hl;exact (Any.Builder_String_empty_k JG sR B b w h fK).mono λe w' ⟨he,_,h2,_⟩=>⟨he,h2⟩
 ·exact (Any.Builder_String_k JG sR B b l w h hl).mono λe w' ⟨he,_,h2,_⟩=>⟨he,h2⟩
end
section
variable {key nonce:ag}
def lz (key nonce:ag):Nat:=if key.size=32/\nonce.size=12 then 0 else 1
def qH (key nonce:ag):ag:=if lz key nonce=0 then bs ((lV key.data.toList nonce.data.toList 0).take 32) else ⟨#[]⟩
theorem abo (key nonce:aF) (n:Int):(lV key nonce n).length=64:=by
 unfold lV;rw[oP,DC]
theorem Su (h:lz key nonce=0):(qH key nonce).size=32:=by
 unfold qH;rw[if_pos h,ei,List.length_take,abo];rfl
theorem abp (key nonce:ag) (w:World) (hT:iy w) (gq:key.size<=maxLen) (fQ:nonce.size<=maxLen):
  Calls prog 170 #[.string key,.string nonce] w (bF w (.tuple #[.string (qH key nonce),.int .i64 (lz key nonce:Nat)])):=by
 have fC:=gq;have dy:=fQ;unfold maxLen at fC dy;by_cases h:key.size=32/\nonce.size=12
 ·have e:lz key nonce=0:=if_pos h;have e':qH key nonce=bs ((lV key.data.toList nonce.data.toList 0).take 32):=if_pos e;rw[e,e'];have HB:=aa (λW hW=>M1 key nonce 0 W hW h.1 h.2 ⟨ae,ae⟩);have HT:=aa hT;obtain⟨bl,lQ⟩: ∃bl,bl=bs (lV key.data.toList nonce.data.toList 0):=⟨_,rfl⟩
  have az4:bl.size=64:=by rw[lQ,ei,abo]
  have HE:=aa (show bl.extract 0 32=bs ((lV key.data.toList nonce.data.toList 0).take 32) by rw[lQ,lR,sD,List.drop_zero]);rw[<-lQ]at HB;have mX:(32:Int)<=(bl.size:Int):=ae;clear e e' h hT lQ az4 gq fQ fC dy;go_in;go_wp2_with fail;refine (HB _ HT).mono ?_;rintro e w1 ⟨rfl,aG⟩;go_wp2;go_ret2;rw[<-HE.out];exact⟨rfl,aG⟩
 ·have e:lz key nonce=1:=if_neg h;have e':qH key nonce=⟨#[]⟩:=by unfold qH;rw[e];rfl
  rw[e,e'];have HB:=aa (λW=>abj key nonce 0 W fC dy (λx=>h ⟨x.1,x.2.1⟩));clear e e' h hT gq fQ fC dy;go_in;go_wp2_with fail;refine (HB _).mono ?_;exact OG
def Ag (l:aF):aF:=l++List.replicate ((16 - l.length % 16)% 16) 0
theorem JK (l:aF):(Ag l).length % 16=0/\l.length<=(Ag l).length/\(Ag l).length<=l.length+15:=by
 unfold Ag;rw[dx,sd];omega
def vD (n:Nat):aF:=(List.range 8).map λi=>UInt8.ofNat (n>>>(8*i))
def lA (ss:List ag):Nat->List UInt8
 |0=> []
 |k+1=>Ag (lA ss k++(ss.getD k ⟨#[]⟩).data.toList)
def vE (ss:List ag) (l:aF):Nat->List UInt8
 |0=>l
 |k+1=>vE ss l k++vD (ss.getD k ⟨#[]⟩).size
def JL (ss:List ag):aF:=vE ss (lA ss ss.length) ss.length
theorem Sv {ss:List ag} (h: ∀s∈ss,s.size<=5000): ∀k,(lA ss k).length<=5015*k
 |0=>Nat.zero_le _
 |k+1=>by
  have ih:=Sv h k;have h2:=(JK (lA ss k++(ss.getD k ⟨#[]⟩).data.toList)).2.2;have h3:(ss.getD k ⟨#[]⟩).size<=5000:=by
   rw[dh];rcases mg k ss.length with hk|hk
   ·rw[cL hk];exact h _ (dY hk)
   ·rw[Cx hk];exact Nat.zero_le _
  rw[lA];rw[dx,bP]at h2;omega
theorem Sw (ss:List ag) (l:aF): ∀k,(vE ss l k).length=l.length+8*k
 |0=>rfl
 |k+1=>by rw[vE,dx,Sw ss l k];simp[vD];omega
theorem apx (A:aN) (n c:Nat) (ss:List ag) (w:World) (hr:Rd w A (aZ ss)) (hn:n=ss.length) (hl:ss.length<=2) (hs: ∀s∈ss,s.size<=5000):
  Calls prog 252 #[.slice A n c] w (bF w (.string (bs (JL ss)))):=by
 have HR:=aa hr;have HN:=aa hn;have HS:=aa hs;have su:n<=2:=ae;have ts:=aa (Sq (w:=w) (B:=w.heap.size) (aM _));have PH:=aa (be w (.cells #[.pointer none,ay] 36));clear hr hn hl hs;go_in;go_wp2_with fail;go_loopw [11] (λx wr=> ∃k:Nat,k<=n/\x= .int .i64 (k:Nat)/\gC wr w.heap.size w.heap.size (lA ss k)/\aD w wr) (λx _=>n -(intOf x).toNat);case atStart=>exact⟨0,ae,rfl,ts,PH⟩
 case round=>
  obtain⟨k,hk,rfl,hB,hb⟩:=hrel;have Bo:=aa hB;have Hb:=aa hb;have WZ:=aa (HR.below hb);clear hB hb;by_cases aK:k<n
  ·have e1:decide ((k:Int)<(n:Int))=true:=by simp;omega
   have e2:(k:Int)<(n:Int):=ae;have bB:k<ss.length:=(by rw[<-HN.out];exact aK);obtain⟨bb,aS,hA,c0⟩:=kG WZ bB;subst hA;have db:=aa (HS _ (dY bB));have iW:=aa (show lA ss (k+1)=Ag (lA ss k++ss[k].data.toList) by rw[lA,dh,cL bB];rfl);have kW:=aa (Sv HS k);generalize ss[k]=s at c0 db iW;have eX:=kW.out;have cg:=db.out;go_wp2_with fail;refine (St w.heap.size w.heap.size (lA ss k) s _ Bo ae Hb.size).mono ?_;rintro e w2 ⟨rfl,mi,av,_⟩;obtain⟨l1,px⟩: ∃l1,l1=lA ss k++s.data.toList:=⟨_,rfl⟩
   have aih:l1.length<=20000:=(by rw[px,dx,bP];omega);rw[<-px]at mi iW;obtain⟨P,hP⟩: ∃P,P=(16 - l1.length % 16)% 16:=⟨_,rfl⟩
   have HP:=aa hP;have azv:=aa (show lA ss (k+1)=l1++List.replicate P 0 by rw[iW.out,hP];rfl);have bq:=aa mi;have qs:=aa (Hb.trans av);have eT:=Hb.size;have Hl1:=aa aih;clear px mi av hP eX cg aih;go_wp2_with fail;go_loopg [17] P (λgk _ wv=> ∃j:Nat,j<=P/\P - j<=gk/\gC wv w.heap.size w.heap.size (l1++List.replicate j 0)/\aD w wv);case atStart=>exact⟨0,ae,ae,by rw[List.replicate_zero,List.append_nil];exact bq.out,qs⟩
   case round=>
    obtain⟨j,hj,hg,hBj,Ia⟩:=hrel;have oJ:=aa hBj;have CD:=aa Ia;clear hBj Ia;go_wp2_with fail;refine (abn w.heap.size w.heap.size _ _ oJ).mono ?_;rintro e w3 ⟨rfl,rfl⟩;rw[dx,sd];obtain⟨L,hL⟩: ∃L,L=l1.length+j:=⟨_,rfl⟩
    rw[<-hL];have hPo:=HP.out;by_cases hjP:j<P
    ·have e3:((L:Int)% 16 !=0)=true:=(by simp;omega);have Hn1:=aa (show l1++List.replicate j 0++ [0]=l1++List.replicate (j+1) 0 by rw[List.append_assoc,<-List.replicate_succ']);have Xu:=Hl1.out;have aCq:P<16:=ae;clear hPo hL;go_wp2_with fail;refine (Ss w.heap.size w.heap.size (l1++List.replicate j 0) 0 ae _ oJ (by rw[dx,sd];omega) CD.size).mono ?_;rintro e w4 ⟨rfl,kY,aP,_⟩;have dD:=aa kY;have qg:=aa (CD.trans aP);clear kY aP;go_wp2_with fail;go_roundg (P -(j+1));case measure=>omega
     case rel=>exact⟨j+1,ae,ae,by rw[<-Hn1.out];exact dD.out,qg⟩
    ·obtain rfl:j=P:=ae;have e3:((L:Int)% 16 !=0)=false:=(by simp;omega);clear hPo hL;go_wp2;go_roundw;case rel=>exact⟨k+1,ae,by go_num,by rw[azv.out];exact oJ.out,CD⟩
     case measure=>exact cM
  ·obtain rfl:k=n:=ae;have e1:decide ((k:Int)<(k:Int))=false:=ak;have kW:=aa (Sv HS k);obtain⟨l2,kz⟩: ∃l2,l2=lA ss k:=⟨_,rfl⟩
   have HE:=aa (show JL ss=vE ss l2 k by rw[kz,JL,<-HN.out]);rw[<-kz]at Bo kW;clear kz;go_wp2_with fail;go_loopw [24] (λx wv=> ∃i:Nat,i<=k/\x= .int .i64 (i:Nat)/\gC wv w.heap.size w.heap.size (vE ss l2 i)/\aD w wv) (λx _=>k -(intOf x).toNat);case atStart=>exact⟨0,ae,rfl,Bo,Hb⟩
   case round=>
    obtain⟨i,hi,rfl,hB,hb⟩:=hrel;replace Bo:=aa hB;replace WZ:=aa (HR.below hb);replace Hb:=aa hb;clear hB hb;by_cases aK:i<k
    ·have e1:decide ((i:Int)<(k:Int))=true:=(by simp;omega);have e2:(i:Int)<(k:Int):=ae;have bB:i<ss.length:=(by rw[<-HN.out];exact aK);obtain⟨bb,aS,hA,c0⟩:=kG WZ bB;subst hA;have db:=aa (HS _ (dY bB));have iW:=aa (show vE ss l2 (i+1)=vE ss l2 i++vD ss[i].size by rw[vE,dh,cL bB];rfl);have WV:=aa (Sw ss l2 i);generalize ss[i]=s at c0 db iW;go_wp2_with fail;go_loopw [28] (λx wv=> ∃m:Nat,m<=8/\x= .int .i64 (m:Nat)/\gC wv w.heap.size w.heap.size (vE ss l2 i++(vD s.size).take m)/\aD w wv) (λx _=>8 -(intOf x).toNat);case atStart=>exact⟨0,ae,rfl,by rw[List.take_zero,List.append_nil];exact Bo.out,Hb⟩
     case round=>
      obtain⟨m,hm,rfl,hB,hb⟩:=hrel;replace Bo:=aa hB;replace Hb:=aa hb;clear hB hb;by_cases WN:m<8
      ·have e3:decide ((m:Int)<(8:Int))=true:=(by simp;omega);have uN:=aa (aau s.size (8*m));have tP:=aa (show (vD s.size).take (m+1)=(vD s.size).take m++ [UInt8.ofNat (s.size>>>(8*m))] by
        rw[List.take_succ_eq_append_getElem (by simp[vD];exact WN)];simp[vD])
       have ey:(vE ss l2 i++(vD s.size).take m).length<=1000000000:=by
        have h1:=WV.out;have h2:=kW.out;rw[dx,List.length_take];simp[vD];omega
       have lL:=aa ey;clear ey;go_wp2_with fail;rw[uN.out];refine (M5 w.heap.size w.heap.size _ (UInt8.ofNat (s.size>>>(8*m))) _ Bo lL Hb.size).mono ?_;rintro e w4 ⟨rfl,kY,aP,_⟩;rw[List.append_assoc,<-tP.out]at kY;have dD:=aa kY;have qg:=aa (Hb.trans aP);clear kY aP;go_wp2;go_roundw;case rel=>exact⟨m+1,ae,by go_num,dD,qg⟩
       case measure=>exact cM
      ·obtain rfl:m=8:=ae;have e3:decide (((8:Nat):Int)<(8:Int))=false:=ak;go_wp2;go_roundw;case rel=>exact⟨i+1,ae,by go_num,by rw[iW.out];have h:=Bo.out;rwa [List.take_of_length_le (by simp[vD])]at h,Hb⟩
       case measure=>exact cM
    ·obtain rfl:i=k:=ae;have e1:decide ((i:Int)<(i:Int))=false:=ak;go_wp2_with fail;refine (JJ w.heap.size w.heap.size _ _ Bo Hb.size).mono ?_;rintro e w3 ⟨rfl,aL⟩;go_wp2;go_ret;rw[HE.out];exact⟨rfl,Hb.trans aL⟩
def vF (b h:ag):ag:=bs (JL [b,h])
theorem abq (b h:ag) (w:World) (hb:b.size<=5000) (hh:h.size<=5000):
  Calls prog 173 #[.string b,.string h] w (bF w (.string (vF b h))):=by
 have HP:=aa (λW A c hr=>apx A 2 c [b,h] W hr rfl ak (by simp[hb,hh]));have zw:=aa (be w (.cells #[.string b,.string h] 9));have qn:=aa (show Rd (w.alloc (.cells #[.string b,.string h] 9)) (some ⟨w.heap.size,0,none⟩) (aZ [b,h]) from jk w 9 #[.string b,.string h] _ rfl);go_in;go_wp2_with fail;refine (HP _ _ _ qn).mono ?_;rintro e w1 ⟨rfl,aG⟩;go_wp2;go_ret;exact⟨rfl,bg zw aG⟩
theorem Sx (b h:ag) (hb:b.size<=4000) (hh:h.size<=4000):(vF b h).size<=8200:=by
 have h1:=(JK (lA [b,h] 0++b.data.toList)).2.2;have h2:=(JK (lA [b,h] 1++h.data.toList)).2.2;have e1:lA [b,h] 1=Ag (lA [b,h] 0++b.data.toList):=rfl;have e2:lA [b,h] 2=Ag (lA [b,h] 1++h.data.toList):=rfl;unfold vF JL;rw[ei,Sw];show (lA [b,h] 2).length+8*2<=8200;rw[e2];rw[dx,bP]at h1 h2;rw[e1]at h2;simp only[lA,List.length_nil]at h1 h2;rw[e1];simp only[lA];have m1:=(JK ([]++b.data.toList)).1;have m2:=(JK (Ag ([]++b.data.toList)++h.data.toList)).1;omega
theorem apy (s t:ag):(s.toList==t.toList)=decide (s=t):=by
 rw[Bool.eq_iff_iff,beq_iff_eq,decide_eq_true_eq];refine⟨λh=>?_,λh=>by rw[h]⟩;rw[ByteArray.toList_eq,ByteArray.toList_eq]at h;exact ByteArray.ext (Array.toList_inj.1 h)
theorem apz (s t:ag) (w:World):Calls prog 103 #[.string s,.string t] w (eu w (.bool (decide (s=t)))):=by
 have h:=apy s t;go_in;go_wp2;go_ret;first|exact⟨rfl,rfl⟩|exact⟨by rw[h],rfl⟩
def vG (key nonce beside hidden:ag):ag:=bs (DL (qH key nonce).data.toList (vF beside hidden))
theorem abr (key nonce beside hidden:ag):(vG key nonce beside hidden).size=16:=by unfold vG;rw[ei,aoW]
theorem abs {beside hidden:ag} (h:lz key nonce=0) (hb:beside.size<=4000) (hh:hidden.size<=4000):vC (qH key nonce) (vF beside hidden)=0/\Ae (qH key nonce) (vF beside hidden)=vG key nonce beside hidden:=by
 have h1:=Su h;have h2:=Sx beside hidden hb hh;have e:vC (qH key nonce) (vF beside hidden)=0:=by unfold vC;rw[if_neg ae,if_neg ae]
 refine⟨e,?_⟩;unfold Ae vG;rw[if_pos e]
theorem abt (h:lz key nonce=0):key.size=32/\nonce.size=12:=by
 unfold lz at h;split at h
 ·assumption
 ·cases h
theorem Sy {s:ag} (h:lz key nonce=0) (hs:s.size<=4000):pc key nonce s 1=0:=by
 obtain⟨h1,h2⟩:=abt h;unfold pc;rw[if_pos ⟨h1,h2,ae,ae⟩,if_neg (by rintro (h|⟨_,h⟩)<;>omega)]
def iN (key nonce beside s:ag):Nat:=if lz key nonce≠0 then 1 else if 4000<beside.size\/4000<s.size then 2 else 0
def iO (key nonce beside s:ag):ag:=if iN key nonce beside s=0 then gQ key nonce s 1++vG key nonce beside (gQ key nonce s 1) else ⟨#[]⟩
theorem abu (h:lz key nonce≠0):lz key nonce=1/\qH key nonce=⟨#[]⟩:=by
 have e:lz key nonce=1:=by unfold lz at h⊢;split at h;exact absurd rfl h;rw[if_neg (by assumption)]
 exact⟨e,by unfold qH;rw[e];rfl⟩
theorem Ex {P:Prop} (h:P:=by
 go_in;go_wp2_with fail;refine (HO _ HT).mono ?_;rintro e w1 ⟨rfl,aG⟩;go_wp2;go_ret2;exact⟨rfl,aG⟩):P:=h
theorem abv (key nonce beside s:ag) (w:World) (hT:iy w) (hk:key.size<=maxLen) (ho:nonce.size<=maxLen) (hb:beside.size<=maxLen) (hs:s.size<=maxLen):
  Calls prog 99 #[.string key,.string nonce,.string beside,.string s] w (bF w (.tuple #[.string (iO key nonce beside s),.int .i64 (iN key nonce beside s:Nat)])):=by
 have HT:=aa hT;have HO:=aa (λW hW=>abp key nonce W hW hk ho);by_cases h1:lz key nonce=0
 ·by_cases fh:4000<beside.size
  ·have e:iN key nonce beside s=2:=by unfold iN;rw[if_neg (by simpa using h1),if_pos (.inl fh)]
   have e':iO key nonce beside s=⟨#[]⟩:=(by unfold iO;rw[e];rfl);rw[e,e'];rw[h1]at HO;have d2:decide ((beside.size:Int)>4000)=true:=(by simp;omega);clear hT hk ho hb hs e e' h1 fh;exact Ex
  ·by_cases pB:4000<s.size
   ·have e:iN key nonce beside s=2:=(by unfold iN;rw[if_neg (by simpa using h1),if_pos (.inr pB)]);have e':iO key nonce beside s=⟨#[]⟩:=(by unfold iO;rw[e];rfl);rw[e,e'];rw[h1]at HO;have d2:decide ((beside.size:Int)>4000)=false:=(by simp;omega);have d3:decide ((s.size:Int)>4000)=true:=(by simp;omega);clear hT hk ho hb hs e e' h1 fh pB;exact Ex
   ·have e:iN key nonce beside s=0:=(by unfold iN;rw[if_neg (by simpa using h1),if_neg ae]);have e':iO key nonce beside s=gQ key nonce s 1++vG key nonce beside (gQ key nonce s 1):=(by unfold iO;rw[if_pos e]);rw[e,e'];have hc:=Sy h1 (s:=s) ae;have C4:=M2 key nonce s 1 hc;have HC:=aa (λW hW=>abl key nonce s 1 W hW hk ho hs);obtain⟨t1,t2⟩:=abs h1 (beside:=beside) (hidden:=gQ key nonce s 1) ae ae;have Fu:=aa (λW=>abq beside (gQ key nonce s 1) W ae ae);have Bd:=aa (λW=>abh (qH key nonce) (vF beside (gQ key nonce s 1)) W (by rw[Su h1];decide) (bD (Sx _ _ ae ae) au));rw[t1,t2]at Bd;rw[hc]at HC;rw[h1]at HO;have hes:=abr key nonce beside (gQ key nonce s 1);generalize vG key nonce beside (gQ key nonce s 1)=en at Bd hes⊢;generalize vF beside (gQ key nonce s 1)=td at Fu Bd;generalize gQ key nonce s 1=hi at HC Fu C4⊢;have d2:decide ((beside.size:Int)>4000)=false:=(by simp;omega);have d3:decide ((s.size:Int)>4000)=false:=(by simp;omega);have d4: ¬9223372036854775807<hi.size+en.size:=ae;clear hT hk ho hb hs e e' h1 fh pB hc C4 t1 t2 hes;go_in;go_wp2_with fail;refine (HO _ HT).mono ?_;rintro e w1 ⟨rfl,aG⟩;go_wp2_with fail;refine (HC _ (HT.below aG)).mono ?_;rintro e w2 ⟨rfl,av⟩;go_wp2_with fail;refine (Fu _).mono ?_;rintro e w3 ⟨rfl,aL⟩;go_wp2_with fail;refine (Bd _).mono ?_;rintro e w4 ⟨rfl,aP⟩;go_wp2;go_ret2;exact⟨rfl,bg (bg (bg aG av) aL) aP⟩
 ·obtain⟨e1,e2⟩:=abu h1;have e:iN key nonce beside s=1:=by unfold iN;rw[if_pos h1]
  have e':iO key nonce beside s=⟨#[]⟩:=by unfold iO;rw[e];rfl
  rw[e,e'];rw[e1,e2]at HO;clear hT hk ho hb hs e e' h1 e1 e2;exact Ex
def lW (cz:ag):ag:=cz.extract 0 (cz.size - 16)
def F9 (cz:ag):ag:=cz.extract (cz.size - 16) cz.size
def F' (key nonce beside cz:ag):Bool:=decide (vG key nonce beside (lW cz)=F9 cz)
theorem Sz (cz:ag):(lW cz).size=cz.size - 16:=by unfold lW;rw[Cy];omega
theorem apA (key nonce beside cz:ag) (w:World) (h1:lz key nonce=0) (hb:beside.size<=4000) (hs:cz.size<=4016) (py:16<=cz.size):
  Calls prog 261 #[.string (qH key nonce),.string beside,.string cz] w (bF w (.bool (F' key nonce beside cz))):=by
 have hh:=Sz cz;obtain⟨t1,t2⟩:=abs h1 (beside:=beside) (hidden:=lW cz) hb ae;have Fu:=aa (λW=>abq beside (lW cz) W ae ae);have Bd:=aa (λW=>abh (qH key nonce) (vF beside (lW cz)) W (by rw[Su h1];decide) (bD (Sx _ _ hb ae) au));rw[t1,t2]at Bd;obtain⟨m,hm⟩: ∃m,cz.size=m+16:=⟨cz.size - 16,ae⟩
 have HE:=aa (show F' key nonce beside cz=decide (vG key nonce beside (lW cz)=F9 cz) from rfl);have eh:lW cz=cz.extract 0 m:=by unfold lW;rw[hm,Nat.add_sub_cancel]
 have et:F9 cz=cz.extract m cz.size:=by unfold F9;rw[hm,Nat.add_sub_cancel]
 rw[HE.out];generalize vG key nonce beside (lW cz)=en at Bd⊢;generalize vF beside (lW cz)=td at Fu Bd;rw[et];rw[eh]at Fu;have e1:wrap64 ((cz.size:Int)- 16)=(m:Int):=by rw[IntWalk.wrap64_in _ ⟨ae,ae⟩];omega
 have e2:(m:Int)<=(cz.size:Int):=ae;have HS:=aa (λW=>apz en (cz.extract m cz.size) W);clear h1 hb hs py hh t1 t2 hm eh et;go_in;go_wp2_with fail;refine (Fu _).mono ?_;rintro e w1 ⟨rfl,aG⟩;go_wp2_with fail;refine (Bd _).mono ?_;rintro e w2 ⟨rfl,av⟩;go_wp2_with fail;refine (HS _).mono ?_;rintro e w3 ⟨rfl,rfl⟩;go_wp2;go_ret;exact⟨rfl,bg aG av⟩
def jC (key nonce beside cz:ag):Nat:=if lz key nonce≠0 then 1 else if 4000<beside.size\/4016<cz.size then 2 else if cz.size<16\/F' key nonce beside cz=false then 60 else 0
def jO (key nonce beside cz:ag):ag:=if jC key nonce beside cz=0 then gQ key nonce (lW cz) 1 else ⟨#[]⟩
theorem abw (key nonce beside cz:ag) (w:World) (hT:iy w) (hk:key.size<=maxLen) (ho:nonce.size<=maxLen) (hb:beside.size<=maxLen) (hs:cz.size<=maxLen):
  Calls prog 185 #[.string key,.string nonce,.string beside,.string cz] w (bF w (.tuple #[.string (jO key nonce beside cz),.int .i64 (jC key nonce beside cz:Nat)])):=by
 have HT:=aa hT;have HO:=aa (λW hW=>abp key nonce W hW hk ho);have hm:maxLen<=9223372036854775807:=au;by_cases h1:lz key nonce=0
 ·rw[h1]at HO;by_cases fh:4000<beside.size
  ·have e:jC key nonce beside cz=2:=by unfold jC;rw[if_neg (by simpa using h1),if_pos (.inl fh)]
   have e':jO key nonce beside cz=⟨#[]⟩:=(by unfold jO;rw[e];rfl);rw[e,e'];have d2:decide ((beside.size:Int)>4000)=true:=(by simp;omega);clear hT hk ho hb hs e e' h1 fh hm;exact Ex
  ·have d2:decide ((beside.size:Int)>4000)=false:=by simp;omega
   by_cases pB:4016<cz.size
   ·have e:jC key nonce beside cz=2:=(by unfold jC;rw[if_neg (by simpa using h1),if_pos (.inr pB)]);have e':jO key nonce beside cz=⟨#[]⟩:=(by unfold jO;rw[e];rfl);rw[e,e'];have d3:decide ((cz.size:Int)>4016)=true:=(by simp;omega);clear hT hk ho hb hs e e' h1 fh pB hm;exact Ex
   ·have d3:decide ((cz.size:Int)>4016)=false:=(by simp;omega);by_cases py:cz.size<16
    ·have e:jC key nonce beside cz=60:=(by unfold jC;rw[if_neg (by simpa using h1),if_neg ae,if_pos (.inl py)]);have e':jO key nonce beside cz=⟨#[]⟩:=(by unfold jO;rw[e];rfl);rw[e,e'];have d4:decide ((cz.size:Int)<16)=true:=(by simp;omega);clear hT hk ho hb hs e e' h1 fh pB py hm;exact Ex
    ·have d4:decide ((cz.size:Int)<16)=false:=(by simp;omega);have HF:=aa (λW=>apA key nonce beside cz W h1 ae ae ae);cases hf:F' key nonce beside cz with
     |false=>
      have e:jC key nonce beside cz=60:=(by unfold jC;rw[if_neg (by simpa using h1),if_neg ae,if_pos (.inr hf)]);have e':jO key nonce beside cz=⟨#[]⟩:=(by unfold jO;rw[e];rfl);rw[e,e'];rw[hf]at HF;clear hT hk ho hb hs e e' h1 fh pB py hm hf;go_in;go_wp2_with fail;refine (HO _ HT).mono ?_;rintro e w1 ⟨rfl,aG⟩;go_wp2_with fail;refine (HF _).mono ?_;rintro e w2 ⟨rfl,av⟩;go_wp2;go_ret2;exact⟨rfl,bg aG av⟩
     |true=>
      have e:jC key nonce beside cz=0:=(by unfold jC;rw[if_neg (by simpa using h1),if_neg ae,if_neg (by rintro (h|h);omega;rw[hf]at h;cases h)]);have e':jO key nonce beside cz=gQ key nonce (lW cz) 1:=(by unfold jO;rw[if_pos e]);rw[e,e'];rw[hf]at HF;have hc:=Sy h1 (s:=lW cz) (by rw[Sz];omega);have HC:=aa (λW hW=>abl key nonce (lW cz) 1 W hW hk ho (by rw[Sz];omega));rw[hc]at HC;generalize gQ key nonce (lW cz) 1=hi at HC⊢;obtain⟨m,YN⟩: ∃m,cz.size=m+16:=⟨cz.size - 16,ae⟩
      have eh:lW cz=cz.extract 0 m:=(by unfold lW;rw[YN,Nat.add_sub_cancel]);rw[eh]at HC;have e1:wrap64 ((cz.size:Int)- 16)=(m:Int):=(by rw[IntWalk.wrap64_in _ ⟨ae,ae⟩];omega);have e2:(m:Int)<=(cz.size:Int):=ae;clear hT hk ho hb hs e e' h1 fh pB py hm hf hc YN eh;go_in;go_wp2_with fail;refine (HO _ HT).mono ?_;rintro e w1 ⟨rfl,aG⟩;go_wp2_with fail;refine (HF _).mono ?_;rintro e w2 ⟨rfl,av⟩;go_wp2_with fail;refine (HC _ ((HT.below aG).below av)).mono ?_;rintro e w3 ⟨rfl,aL⟩;go_wp2;go_ret2;exact⟨rfl,bg (bg aG av) aL⟩
 ·obtain⟨e1,e2⟩:=abu h1;have e:jC key nonce beside cz=1:=by unfold jC;rw[if_pos h1]
  have e':jO key nonce beside cz=⟨#[]⟩:=by unfold jO;rw[e];rfl
  rw[e,e'];rw[e1,e2]at HO;clear hT hk ho hb hs e e' h1 e1 e2 hm;exact Ex
end
theorem apB (a b:ag) (h:b.size=16):lW (a++b)=a/\F9 (a++b)=b:=by
 have hs:(a++b).size=a.size+16:=by rw[ByteArray.size_append,h]
 have ha:a.data.toList.length=a.size:=bP a;have hb:b.data.toList.length=16:=(bP b).trans h;unfold lW F9;rw[hs,Nat.add_sub_cancel,lR,lR,ByteArray.data_append,Array.toList_append];refine⟨?_,?_⟩
 ·rw[List.drop_zero,List.take_append_of_le_length ae,List.take_of_length_le ae];rfl
 ·rw[List.take_of_length_le (by rw[dx];omega),List.drop_append_of_le_length ae,List.drop_of_length_le ae,List.nil_append];rfl
theorem SA {key nonce beside s:ag} (h:iN key nonce beside s=0):jC key nonce beside (iO key nonce beside s)=0/\jO key nonce beside (iO key nonce beside s)=s/\(iO key nonce beside s).size=s.size+16:=by
 have h1:lz key nonce=0:=by
  unfold iN at h;split at h
  ·cases h
  ·rename_i e;simpa using e
 have h2: ¬(4000<beside.size\/4000<s.size):=by
  exact af9
 have hc:=Sy h1 (s:=s) ae;obtain⟨aG,av⟩:=aph key nonce s 1 hc;have hl:=M2 key nonce s 1 hc;have he:=abr key nonce beside (gQ key nonce s 1);have hS:iO key nonce beside s=gQ key nonce s 1++vG key nonce beside (gQ key nonce s 1):=by unfold iO;rw[if_pos h]
 obtain⟨e1,e2⟩:=apB (gQ key nonce s 1) _ he;have cg:(iO key nonce beside s).size=s.size+16:=by rw[hS,ByteArray.size_append,he,hl]
 have hf:F' key nonce beside (iO key nonce beside s)=true:=by
  unfold F';rw[hS,e1,e2];simp
 have hE:jC key nonce beside (iO key nonce beside s)=0:=by
  unfold jC;rw[if_neg (by simpa using h1),if_neg ae,if_neg (by rintro (e|e);omega;rw[hf]at e;cases e)]
 refine⟨hE,?_,cg⟩;unfold jO;rw[if_pos hE,hS,e1];exact av
section
variable {i:Int} {key nonce s:ag} {n:Nat}
def eR:ag:=⟨#[]⟩
def TD:ag:=⟨#[98,108,111,99,107,32]⟩
def Gq (i:Nat):ag:=⟨(Lib.decDigits i).toArray⟩
def kr (i:Int):ag:=TD++Gq i.toNat
def pi (i:Int):Bool:=decide (0<=i)&&decide (i<64)
theorem acO {i:Nat} (h:i<64):(Gq i).size<=2:=by
 have key: ∀n,n<64->(Lib.decDigits n).length<=2:=bU;exact key i h
theorem acP (h:pi i=true):(kr i).size<=8:=by
 simp only[pi,Bool.and_eq_true,decide_eq_true_eq]at h;have h2:=acO (i:=i.toNat) ae;unfold kr;rw[ByteArray.size_append,show TD.size=6 from rfl];omega
def pj (key nonce:ag) (i:Int) (s:ag):Nat:=if pi i=false then 1 else if 64<s.size then 2 else iN key nonce (kr i) s
def lF (key nonce:ag) (i:Int) (s:ag):ag:=if pj key nonce i s=0 then nonce++iO key nonce (kr i) s else eR
def pk (key:ag) (i:Int) (st:ag):Nat:=if pi i=false then 1 else if st.size=0 then 0 else if st.size<12 then 60 else jC key (st.extract 0 12) (kr i) (st.extract 12 st.size)
def pm (key:ag) (i:Int) (st:ag):ag:=if pi i=false\/st.size=0\/st.size<12 then eR else jO key (st.extract 0 12) (kr i) (st.extract 12 st.size)
theorem acQ (h:pj key nonce i s=0):pi i=true/\s.size<=64/\iN key nonce (kr i) s=0/\nonce.size=12/\lF key nonce i s=nonce++iO key nonce (kr i) s:=by
 have hs:lF key nonce i s=nonce++iO key nonce (kr i) s:=by unfold lF;rw[if_pos h]
 unfold pj at h;by_cases h1:pi i=false
 ·rw[if_pos h1]at h;cases h
 rw[if_neg h1]at h;by_cases h2:64<s.size
 ·rw[if_pos h2]at h;cases h
 rw[if_neg h2]at h;have hn:nonce.size=12:=by
  unfold iN at h;split at h
  ·cases h
  ·rename_i h1;have h3:lz key nonce=0:=Decidable.not_not.1 h1;unfold lz at h3;split at h3
   ·rename_i hk;exact hk.2
   ·cases h3
 exact⟨by simpa using h1,ae,h,hn,hs⟩
theorem acR (h:pj key nonce i s=0):pk key i (lF key nonce i s)=0/\pm key i (lF key nonce i s)=s/\(lF key nonce i s).size=28+s.size/\s.size<=64:=by
 obtain⟨h1,h2,h3,h4,h5⟩:=acQ h;obtain⟨o1,o2,o3⟩:=SA h3;have hz:(lF key nonce i s).size=28+s.size:=by rw[h5,ByteArray.size_append];omega
 have x1:(lF key nonce i s).extract 0 12=nonce:=by
  rw[h5,lR,ByteArray.data_append,Array.toList_append,List.drop_zero,List.take_append_of_le_length (by rw[bP];omega),List.take_of_length_le (by rw[bP];omega)];rfl
 have x2:(lF key nonce i s).extract 12 (lF key nonce i s).size=iO key nonce (kr i) s:=by
  rw[hz,h5,lR,ByteArray.data_append,Array.toList_append,List.take_of_length_le (by rw[dx,bP,bP];omega),List.drop_append_of_le_length (by rw[bP];omega),List.drop_of_length_le (by rw[bP];omega),List.nil_append];rfl
 have hp: ¬pi i=false:=by rw[h1];simp
 refine⟨?_,?_,hz,h2⟩
 ·unfold pk;rw[if_neg hp,if_neg ae,if_neg ae,x1,x2];exact o1
 ·unfold pm;rw[if_neg (by rintro (h|h|h);exact hp h;omega;omega),x1,x2];exact o2
theorem acS (h1:pi i=true):pk key i eR=0/\pm key i eR=eR:=by
 unfold pk pm;rw[if_neg (by rw[h1];simp),if_pos (show eR.size=0 from rfl),if_pos (.inr (.inl rfl))];exact⟨rfl,rfl⟩
structure dW where
 bl:List ByteArray
 rt:ByteArray
def D4:dW:=⟨[],eR⟩
def countB (n:Nat):Bool:=decide (1<=n)&&decide (n<=64)&&decide (n&&&(n - 1)=0)
theorem J7 (h:countB n=true):lE n=true:=by
 simp only[countB,lE,Bool.and_eq_true,decide_eq_true_eq]at h⊢;exact⟨⟨h.1.1,ae⟩,h.2⟩
theorem yh (h:countB n=true):1<=n/\n<=64:=by
 simp only[countB,Bool.and_eq_true,decide_eq_true_eq]at h;exact h.1
def ks (v:dW):Bool:=countB v.bl.length&&decide (v.rt.size=32)&&v.bl.all λb=>decide (b.size<=92)
def mG (v:dW) (there:Bool):Nat:=if ks v=false then 160 else if there=false then 1 else if iQ v.bl=v.rt then 0 else 161
def pT (v:dW) (i:Int):Bool:=decide (0<=i)&&decide (i<(v.bl.length:Int))
def um (v:dW) (key:ag) (i:Int):Nat:=if mG v (pT v i)≠0 then mG v (pT v i) else pk key i (v.bl.getD i.toNat eR)
def un (v:dW) (key:ag) (i:Int):ag:=if mG v (pT v i)≠0 then eR else pm key i (v.bl.getD i.toNat eR)
def sY (v:dW) (key nonce:ag) (i:Int) (s:ag):Nat:=if mG v (pT v i)≠0 then mG v (pT v i) else pj key nonce i s
def Ch (l:List ag):dW:=⟨l,iQ l⟩
def uo (v:dW) (key nonce:ag) (i:Int) (s:ag):dW:=if sY v key nonce i s=0 then Ch (v.bl.set i.toNat (lF key nonce i s)) else D4
theorem TE {v:dW} {t:Bool} (h:mG v t=0):ks v=true/\t=true/\iQ v.bl=v.rt:=by
 unfold mG at h;by_cases h1:ks v=false
 ·rw[if_pos h1]at h;cases h
 rw[if_neg h1]at h;by_cases h2:t=false
 ·rw[if_pos h2]at h;cases h
 rw[if_neg h2]at h;by_cases h3:iQ v.bl=v.rt
 ·exact⟨by simpa using h1,by simpa using h2,h3⟩
 ·rw[if_neg h3]at h;cases h
theorem D5 {v:dW} (h:ks v=true):countB v.bl.length=true/\v.rt.size=32/\ ∀b∈v.bl,b.size<=92:=by
 simp only[ks,Bool.and_eq_true,decide_eq_true_eq,List.all_eq_true]at h;exact⟨h.1.1,h.1.2,h.2⟩
theorem asM {l:List ag} (h1:countB l.length=true) (h2: ∀b∈l,b.size<=92):ks (Ch l)=true:=by
 unfold ks Ch;simp only[Bool.and_eq_true,decide_eq_true_eq,List.all_eq_true];exact⟨⟨h1,asL (J7 h1)⟩,h2⟩
def acT (key:ag) (i:Nat) (b uK:ag):Prop:=(b=eR/\uK=eR)\/ ∃nonce,pj key nonce i uK=0/\b=lF key nonce i uK
theorem asN {i:Nat} {b uK:ag} (hi:i<64) (h:acT key i b uK):pk key i b=0/\pm key i b=uK/\b.size<=92/\uK.size<=64:=by
 have hp:pi (i:Int)=true:=by simp only[pi,Bool.and_eq_true,decide_eq_true_eq];omega
 rcases h with⟨rfl,rfl⟩|⟨nonce,h1,rfl⟩
 ·obtain⟨e1,e2⟩:=acS (key:=key) hp;exact⟨e1,e2,Nat.zero_le _,Nat.zero_le _⟩
 ·obtain⟨e1,e2,e3,e4⟩:=acR h1;exact⟨e1,e2,ae,e4⟩
structure acU (key:ag) (bl uK:List ag):Prop where
 cnt:countB bl.length=true
 len:uK.length=bl.length
 at_: ∀i,i<bl.length->acT key i (bl.getD i eR) (uK.getD i eR)
theorem asO {bl uK:List ag} (h:acU key bl uK):ks (Ch bl)=true:=by
 refine asM h.cnt λb hb=>?_;obtain⟨i,hi,rfl⟩:=List.getElem_of_mem hb;have h1:=h.at_ i hi;have EO:=(yh h.cnt).2;have:=(asN ae h1).2.2.1;rw[dh,cL hi]at this;exact this
theorem asP (key:ag) (h:countB n=true):acU key (List.replicate n eR) (List.replicate n eR):=by
 refine⟨by rw[sd];exact h,ak,λi hi=> .inl ⟨?_,?_⟩⟩<;>
 ·rw[sd]at hi;rw[dh,List.getElem?_replicate,if_pos hi];rfl
end
def iR:Nat->Nat->List Nat
 |0,_=> []
 |k+1,n=>iR k (n / 2)++ [n % 2]
def yk (l:List Nat):Nat:=l.foldl (λa b=>2*a+b) 0
theorem Aw: ∀k n,(iR k n).length=k
 |0,_=>rfl
 |k+1,n=>by simp[iR,Aw k]
theorem ac1: ∀k n,∀x∈iR k n,x<2
 |0,_,x,h=>by cases h
 |k+1,n,x,h=>by
  rcases List.mem_append.1 h with h|h
  ·exact ac1 k _ x h
  ·simp at h;omega
theorem ac2 (l:List Nat) (b:Nat):yk (l++ [b])=2*yk l+b:=by simp[yk]
theorem TK: ∀k n,n<2^k->yk (iR k n)=n
 |0,n,h=>by simp at h;subst h;rfl
 |k+1,n,h=>by
  rw[iR,ac2,TK k (n / 2) (by rw[Nat.pow_succ]at h;omega)];omega
theorem asX {α:Type} (l:List α) (h:l≠ []): ∃m b,l=m++ [b]:=⟨l.dropLast,l.getLast h,(List.dropLast_concat_getLast h).symm⟩
theorem ac3: ∀k (l:List Nat),l.length=k->(∀x∈l,x<2)->iR k (yk l)=l
 |0,l,h,_=>by rw[List.eq_nil_of_length_eq_zero h];rfl
 |k+1,l,h,hd=>by
  obtain⟨m,b,rfl⟩:=asX l (by intro e;rw[e]at h;cases h);have hb:b<2:=hd b ak;rw[ac2,iR,show (2*yk m+b)/ 2=yk m by omega,show (2*yk m+b)% 2=b by omega,
   ac3 k m (by simpa using h) (λx hx=>hd x (by simp[hx]))]
theorem J8 (a:Nat): ∀b x y,y<2^b->iR (a+b) (x*2^b+y)=iR a x++iR b y
 |0,x,y,h=>by simp at h;subst h;simp[iR]
 |b+1,x,y,h=>by
  rw[Nat.pow_succ]at h;rw[<-Nat.add_assoc,iR,iR,show (x*2^(b+1)+y)/ 2=x*2^b+y / 2 by rw[Nat.pow_succ,<-Nat.mul_assoc];generalize x*2^b=m;omega,
   show (x*2^(b+1)+y)% 2=y % 2 by rw[Nat.pow_succ,<-Nat.mul_assoc];generalize x*2^b=m;omega,J8 a b x (y / 2) ae,List.append_assoc]
theorem ac4: ∀k,iR k 0=List.replicate k 0
 |0=>rfl
 |k+1=>by rw[iR,Nat.zero_div,ac4 k,List.replicate_succ']
theorem ac5 (a b n:Nat) (h:n<2^(a+b)):iR (a+b) n=iR a (n / 2^b)++iR b (n % 2^b):=by
 have h2:=Nat.mod_lt n (Nat.two_pow_pos b);rw[<-J8 a b _ _ h2,Nat.div_add_mod']
def jo (k:Nat) (vs:List Nat):List Nat:=vs.flatMap (iR k)
theorem J9 (k:Nat) (vs:List Nat) (v:Nat):jo k (vs++ [v])=jo k vs++iR k v:=by simp[jo]
theorem TL (k:Nat) (v:Nat) (vs:List Nat):jo k (v::vs)=iR k v++jo k vs:=by simp[jo]
theorem uq (k:Nat): ∀vs,(jo k vs).length=k*vs.length
 | []=>rfl
 |v::vs=>by rw[TL,dx,Aw,uq k vs,List.length_cons,Nat.mul_succ,Nat.add_comm]
theorem asY (k:Nat) (vs:List Nat): ∀x∈jo k vs,x<2:=λx hx=>by
 obtain⟨v,_,h⟩:=List.mem_flatMap.1 hx;exact ac1 k v x h
def Ay (k:Nat):Nat->List Nat->List Nat
 |0,_=> []
 |f+1,l=>if l.length<k then [] else yk (l.take k)::Ay k f (l.drop k)
def Gu (k:Nat) (l:List Nat):List Nat:=Ay k l.length l
theorem ac6 (k:Nat) (r:List Nat) (hr:r.length<k): ∀(vs:List Nat) (f:Nat),vs.length<=f->(∀v∈vs,v<2^k)->Ay k f (jo k vs++r)=vs
 | [],0,_,_=>rfl
 | [],f+1,_,_=>by simp[Ay,jo,hr]
 |v::vs,0,h,_=>by simp at h
 |v::vs,f+1,h,hv=>by
  rw[TL,List.append_assoc,Ay,if_neg (by rw[dx,Aw];omega)];have e1:(iR k v++(jo k vs++r)).take k=iR k v:=by rw[List.take_append_of_le_length (by rw[Aw];omega),List.take_of_length_le (by rw[Aw];omega)]
  have e2:(iR k v++(jo k vs++r)).drop k=jo k vs++r:=by
   have:=List.drop_left (l₁:=iR k v) (l₂:=jo k vs++r);rwa [Aw]at this
  rw[e1,e2,TK k v (hv v ak),ac6 k r hr vs f (by simp at h;omega) (λx hx=>hv x (by simp[hx]))]
theorem TM (k:Nat) (hk:0<k) (vs r:List Nat) (hv: ∀v∈vs,v<2^k) (hr:r.length<k):Gu k (jo k vs++r)=vs:=by
 refine ac6 k r hr vs _ ?_ hv;rw[dx,uq];have:vs.length<=k*vs.length:=Nat.le_mul_of_pos_left _ hk;omega
theorem ac7 (k:Nat): ∀(f:Nat) (l:List Nat),(Ay k f l).length<=f
 |0,_=>aM _
 |f+1,l=>by
  unfold Ay;split
  ·simp
  ·simp only[List.length_cons];have:=ac7 k f (l.drop k);omega
theorem ac8 (k:Nat) (l:List Nat):(Gu k l).length<=l.length:=ac7 k _ l
theorem ac9 (k:Nat) (hk:0<k): ∀(f:Nat) (l:List Nat),l.length<=f->(∀x∈l,x<2)-> ∃r,l=jo k (Ay k f l)++r/\r.length<k
 |0,l,h,_=>⟨[],by rw[List.eq_nil_of_length_eq_zero (by omega:l.length=0)];rfl,hk⟩
 |f+1,l,h,hd=>by
  unfold Ay;split
  ·rename_i aK;exact⟨l,by simp[jo],aK⟩
  ·rename_i jy;obtain⟨r,e,hr⟩:=ac9 k hk f (l.drop k) (by rw[List.length_drop];omega) (λx hx=>hd x (List.mem_of_mem_drop hx));refine⟨r,?_,hr⟩;rw[TL,ac3 k (l.take k) (by simp;omega) (λx hx=>hd x (List.mem_of_mem_take hx)),List.append_assoc,<-e,List.take_append_drop]
theorem asZ (k:Nat) (hk:0<k) (l:List Nat) (hd: ∀x∈l,x<2): ∃r,l=jo k (Gu k l)++r/\r.length<k:=ac9 k hk _ l (aM _) hd
open Go.ChangeAt Go.ChangeShapes Go.WideShapes
variable {W:World} {xe:List (String×DataW Unit)}
theorem U1 {α β:Type} {f g:α->List β} : ∀(l:List α),(∀x∈l,f x=g x)->l.flatMap f=l.flatMap g
 | [],_=>rfl
 |a::l,h=>by
  rw[List.flatMap_cons,List.flatMap_cons,h a ak,U1 l λx hx=>h x (by simp[hx])]
theorem afZ {α:Type} (m:Nat): ∀(n:Nat) (cs:List α),cs.length=n*m->cs=(List.range n).flatMap λi=>(cs.drop (i*m)).take m
 |0,cs,h=>by
  have:cs= []:=List.eq_nil_of_length_eq_zero (by simpa using h);subst this;rfl
 |n+1,cs,h=>by
  have h1:(cs.take (n*m)).length=n*m:=by
   rw[List.length_take,h,Nat.succ_mul];omega
  have ih:=afZ m n (cs.take (n*m)) h1;rw[List.range_succ,List.flatMap_append];have e1:(List.range n).flatMap (λi=>(cs.drop (i*m)).take m)=(List.range n).flatMap λi=>((cs.take (n*m)).drop (i*m)).take m:=by
   apply U1;intro i hi;have qm:i<n:=(by simpa using hi);rw[List.drop_take,List.take_take];congr 1;have:(i+1)*m<=n*m:=Nat.mul_le_mul_right m qm;rw[Nat.succ_mul]at this;omega
  rw[e1,<-ih];simp only[List.flatMap_cons,List.flatMap_nil,List.append_nil];rw[List.take_of_length_le (l:=cs.drop (n*m)) (by rw[List.length_drop,h,Nat.succ_mul];omega),List.take_append_drop]
theorem ayL {H:Type} {enc:TypeId×Value->H} {P:Program} {w:World} {base:Nat} {sp:Nat->Bool} {akz:Bool} {cB:Nat} {t e f:TypeId} {n m:Nat} {k:IntKind} {cs:bJ} {zss:List (List Int)} {p:List MemPlace} (ht:P.underlying t=some (.array n e)) (he:P.underlying e=some (.array m f)) (hf:P.underlying f=some (.int k)) (Rc:P.cellsOf f=1) (sr:P.cellsOf e=m) (hct:P.cellsOf t=n*m) (h:DataW.trod enc P w base sp akz cB t cs=some (.agg (zss.map (Lib.tabData k)),p)):cs=zss.flatMap λzs=>zs.map λz=>Value.int k z:=by
 obtain⟨xs,q,_,hx,hl,zL,hi⟩:=DataW.trod_array ht h;rw[sr]at hi;have wF:zss.map (Lib.tabData (H:=H) k)=xs.map (·.1):=by
  have:=congrArg Prod.fst hx;exact oC
 have PE:zss.length=n:=by
  have:=congrArg List.length wF;simpa[zL] using this
 rw[hct]at hl;rw[afZ m n cs hl];have hz:zss=(List.range n).map λi=>zss.getD i []:=by
  apply List.ext_getElem
  ·simp[PE]
  ·intro j h1 h2;simp[h1]
 rw[hz,List.flatMap_map];apply U1;intro i aCt;have oN:i<n:=by simpa using aCt
 have AS:i<zss.length:=ae;have sA:i<xs.length:=ae;have h1:=hi i oN;have h2:Lib.tabData (H:=H) k zss[i]=(xs[i]).1:=by
  have:=congrArg (·[i]?) wF;simpa[AS,sA] using this
 have h3:DataW.trod enc P w base sp akz q e ((cs.drop (i*m)).take m)=some (Lib.tabData k zss[i],(xs[i]).2):=by
  rw[h1,cL sA,h2]
 rw[Lib.cells_of_tab he hf Rc sr h3];simp[AS]
def putCells (cs:bx):Obj->Obj
 | .cells _ t frozen=> .cells cs t frozen
 |o=>o
theorem Ow {P:Program} {W:World} {n:String} {d:DataW Unit} : ∀ {xe:List (String×DataW Unit)} {ps:List MemPlace},DataW.LaidVars P W xe ps->(n,d)∈xe->
  ∃g t cs cB p,P.globalNamed n=some g/\(P.globals[g]?).map (·.type)=some t/\W.var? P n=some cs/\DataW.trod (λ_=>()) P W 0 (λ_=>true) false cB t cs.toList=some (d,p)
 | [],_,_,h=>by cases h
 |(n',d')::r,ps,hv,h=>by
  obtain⟨g,t,cs,cB,p,q,h1,h2,h3,h4,h5,_⟩:=hv;rcases List.mem_cons.1 h with e|e
  ·injection e with e1 e2
   subst e1;subst e2;exact⟨g,t,cs,cB,p,h1,h2,h3,h4⟩
  ·exact Ow h5 e
def ayM:List (List Int):= [[0,4,8,12],[1,5,9,13],[2,6,10,14],[3,7,11,15],[0,5,10,15],[1,6,11,12],[2,7,8,13],[3,4,9,14]]
theorem agP {P:Prop} (h:P:=by
 intro j v hv;have hc:=World.var?_cell hg Qi j;rw[Nat.zero_add,hc,<-Array.getElem?_toList,e];exact hv):P:=h
theorem turns_laid (h:laidMet prog xe W) (hm:("keyhole/stream.turns",Rows.laid_keyhole_stream_turns)∈xe):iy W:=by
 obtain⟨ps,hv,_⟩:=h;obtain⟨g',t',cs,cB,p,kF,Lw,Qi,hd⟩:=Ow hv hm;have hg:prog.globalNamed "keyhole/stream.turns" =some 1:=ax;have qo:(prog.globals[1]?).map (·.type)=some 303:=ax;obtain rfl:=bW (hg.symm.trans kF);obtain rfl:=bW (qo.symm.trans Lw);have e:=ayL (zss:=ayM) underlying303 underlying302 underlying3 ax ax ax hd;exact agP
theorem rounds_laid (h:laidMet prog xe W) (hm:("keyhole/digest.rounds",Rows.laid_keyhole_digest_rounds)∈xe):cX W:=by
 obtain⟨ps,hv,_⟩:=h;obtain⟨g',t',cs,cB,p,kF,Lw,Qi,hd⟩:=Ow hv hm;have hg:prog.globalNamed "keyhole/digest.rounds" =some 0:=ax;have qo:(prog.globals[0]?).map (·.type)=some 292:=ax;obtain rfl:=bW (hg.symm.trans kF);obtain rfl:=bW (qo.symm.trans Lw);have e:=Lib.cells_of_tab (zs:=roundsT) underlying292 underlying3 ax ax hd;exact agP
def acceptC:bx:= #[.int .u8 128,.int .u8 191,.int .u8 160,.int .u8 191,.int .u8 128,.int .u8 159,.int .u8 144,.int .u8 191,.int .u8 128,.int .u8 143,.int .u8 0,.int .u8 0,.int .u8 0,.int .u8 0,.int .u8 0,.int .u8 0,.int .u8 0,.int .u8 0,.int .u8 0,.int .u8 0,.int .u8 0,.int .u8 0,.int .u8 0,.int .u8 0,.int .u8 0,.int .u8 0,.int .u8 0,.int .u8 0,.int .u8 0,.int .u8 0,.int .u8 0,.int .u8 0]
def firstC:bx:=(Pinned.utf8FirstZ.map λn:Nat=>Value.int .u8 (n:Int)).toArray
theorem maxLen_shape (h:W.ShapedOpen prog): ∃m,W.cell? ⟨2,0,none⟩=some (.int .i64 m):=
 cell_of_shapedOpen_int (t:=3) (zero:= #[.int .i64 0]) h (of_decide_eq_true ax) ax rfl ax ax underlying3
end Go.Proofs.YtaglcaocpcbiiaaGreatDoor
