import Derived.Test.YtaglcaocpcbiiaaGreatDoorX01
import Derived.Laws.Cover1
import Derived.Laws.EntriesVeiled
import Derived.Laws.StructEq
import Derived.Deep.Cut
import Derived.Deep.CutRange
import Derived.Maps.OwnSet
import Derived.Maps.OwnOps
import Derived.Maps.Views
import Derived.OrdersHeld
set_option linter.unusedVariables false
set_option linter.unusedSimpArgs false
set_option maxRecDepth 100000
set_option maxHeartbeats 3000000
namespace Go.Proofs.YtaglcaocpcbiiaaGreatDoor
open Go.Proofs.Tryz Go.RowKit
section
variable {P:Prop} {a b x:ag} {i:Nat} {w:World}
def eN:ag:=⟨#[]⟩
structure dS where
 e:Int
 k:Int
 ns:List ByteArray
 ps:List ByteArray
def xH (c:UInt8):Bool:=(decide (97<=c.toNat)&&decide (c.toNat<=122))||(decide (48<=c.toNat)&&decide (c.toNat<=57))
def zV (s:ag):Bool:=decide (1<=s.size)&&decide (s.size<=20)&&s.data.toList.all xH
def ua (a b:ag):Bool:=Op.bytesLess a.toList b.toList
def DG (r:dS):Bool:=decide (1<=r.e)&&decide (r.e<=1000000)&&decide (1<=r.ns.length)&&decide (r.ns.length<=16)&&decide (r.ps.length=r.ns.length)&&decide (1<=r.k)&&decide (r.k<=r.ns.length)
def rF (r:dS) (i:Nat):Bool:=zV (r.ns.getD i eN)&&decide ((r.ps.getD i eN).size=32)&&(decide (i=0)||ua (r.ns.getD (i - 1) eN) (r.ns.getD i eN))
def fX (r:dS):Bool:=DG r&&(List.range r.ns.length).all (rF r)
theorem amh (x:aF): ∀y,Op.bytesLess x y=true↔x<y:=by
 induction x with
 |nil=>intro y;cases y<;>simp[Op.bytesLess]
 |cons a x ih=>
  intro y;cases y with
  |nil=>simp[Op.bytesLess]
  |cons b y=>simp[Op.bytesLess,List.cons_lt_cons_iff,ih y]
theorem MH (a b:ag):ua a b=decide (a.data.toList<b.data.toList):=by
 unfold ua;rw[Bool.eq_iff_iff,amh,ByteArray.toList_eq,ByteArray.toList_eq,decide_eq_true_eq]
theorem ami (a b:ag):(Op.bytesLess a.toList b.toList||a.toList==b.toList)=!ua b a:=by
 have h1:Op.bytesLess a.toList b.toList=decide (a.data.toList<b.data.toList):=MH a b;have h2:(a.toList==b.toList)=decide (a.data.toList=b.data.toList):=by
  rw[ByteArray.toList_eq,ByteArray.toList_eq];rw[Bool.eq_iff_iff,beq_iff_eq,decide_eq_true_eq]
 rw[h1,h2,MH];generalize a.data.toList=x;generalize b.data.toList=y;rw[Bool.eq_iff_iff];simp only[Bool.or_eq_true,decide_eq_true_eq,Bool.not_eq_true',decide_eq_false_iff_not];constructor
 ·rintro (h|h)
  ·exact λh'=>List.lt_asymm h h'
  ·rw[h];exact List.lt_irrefl y
 ·intro h;by_cases e:x=y
  ·exact .inr e
  ·left;have:=List.not_lt.1 h;rcases List.le_iff_lt_or_eq.1 this with h|h
   ·exact h
   ·exact absurd h e
theorem amj {c:ag} (h:ua a b=true) (h':ua b c=true):ua a c=true:=by
 rw[MH,decide_eq_true_eq]at h h'⊢;exact List.lt_trans h h'
theorem amk (h:ua a b=true):a≠b:=by
 rintro rfl;rw[MH,decide_eq_true_eq]at h;exact List.lt_irrefl _ h
theorem zW {r:dS} (h:fX r=true):1<=r.e/\r.e<=1000000/\1<=r.ns.length/\r.ns.length<=16/\r.ps.length=r.ns.length/\1<=r.k/\r.k<=r.ns.length:=by
 simp only[fX,DG,Bool.and_eq_true,decide_eq_true_eq]at h;obtain⟨⟨⟨⟨⟨⟨⟨h1,h2⟩,h3⟩,h4⟩,h5⟩,h6⟩,h7⟩,_⟩:=h;exact⟨h1,h2,h3,h4,h5,h6,h7⟩
theorem aab {r:dS} (h:fX r=true) (i:Nat) (hi:i<r.ns.length):rF r i=true:=by
 simp only[fX,Bool.and_eq_true]at h;exact List.all_eq_true.1 h.2 i (List.mem_range.2 hi)
theorem aac {r:dS} (h:fX r=true): ∀(d i:Nat),i+d+1<r.ns.length->ua (r.ns.getD i eN) (r.ns.getD (i+d+1) eN)=true
 |0,i,hi=>by
  have:=aab h (i+1) hi;simp only[rF,Bool.and_eq_true,Bool.or_eq_true,decide_eq_true_eq]at this;rcases this.2 with e|e
  ·omega
  ·exact e
 |d+1,i,hi=>by
  have h1:=aac h d i ae;have:=aab h (i+(d+1)+1) hi;simp only[rF,Bool.and_eq_true,Bool.or_eq_true,decide_eq_true_eq]at this;rcases this.2 with e|e
  ·omega
  ·exact amj h1 e
theorem aml {r:dS} (h:fX r=true):r.ns.Nodup:=by
 refine List.pairwise_iff_getElem.2 λi j hi hj hij=>?_;have h1:=aac h (j - i - 1) i ae;have h2:=amk h1;rw[show i+(j - i - 1)+1=j by omega]at h2;simpa[dh,hi,hj] using h2
def pJ (r:dS) (name:ag):Bool:=fX r&&r.ns.any λn=>decide (n=name)
def oT (r:dS) (name:ag):Nat:=if pJ r name=true then r.ns.findIdx (λn=>decide (n=name))+1 else 0
theorem Rv {l:List ag}:(l.any λn=>decide (n=x))=true↔x∈l:=by simp[List.any_eq_true]
theorem amm {l:List ag} (hi:i<l.length) (h:l[i]=x) (hn:x∉l.take i):l.findIdx (λn=>decide (n=x))=i:=by
 rw[List.findIdx_eq hi];refine⟨by simpa using h,λj hj=>?_⟩;rw[decide_eq_false_iff_not];intro e;exact hn (List.mem_iff_getElem.2 ⟨j,by simp;omega,by rw[List.getElem_take];exact e⟩)
theorem amn {l:List ag} (hi:i<l.length) (h:l[i]≠x) (hn:x∉l.take i):x∉l.take (i+1):=by
 rw[List.take_succ_eq_append_getElem hi];simp only[List.mem_append,List.mem_singleton,not_or];exact⟨hn,λe=>h e.symm⟩
theorem amo {r:dS} (h:fX r=true) (i:Nat) (hi:i<r.ns.length):pJ r r.ns[i]=true/\oT r r.ns[i]=i+1:=by
 have hp:pJ r r.ns[i]=true:=by rw[pJ,h,Rv.2 (dY hi)];rfl
 refine⟨hp,?_⟩;rw[oT,if_pos hp,amm hi rfl];intro hm;obtain⟨j,hj,e⟩:=List.mem_iff_getElem.1 hm;rw[List.getElem_take]at e;have Fj:j<i:=by simp at hj;omega
 have:=List.pairwise_iff_getElem.1 (aml h) j i ae hi Fj;exact this e
theorem amp (r:dS) (name:ag) (h:pJ r name=true):1<=oT r name/\oT r name<=r.ns.length/\fX r=true/\r.ns.getD (oT r name - 1) eN=name/\name∈r.ns:=by
 have h2:=h;simp only[pJ,Bool.and_eq_true]at h2;have hm:=Rv.1 h2.2;rw[oT,if_pos h];have hl:r.ns.findIdx (λn=>decide (n=name))<r.ns.length:=List.findIdx_lt_length_of_exists ⟨name,hm,ak⟩;refine⟨ae,ae,h2.1,?_,hm⟩;have:=List.findIdx_getElem (p:=λn=>decide (n=name)) (w:=hl);rw[Nat.add_sub_cancel,dh,cL hl,Option.getD_some];exact of_decide_eq_true this
theorem amq (c:UInt8):xH c=((decide ((c.toNat:Int)>=97)&&decide ((c.toNat:Int)<=122))||(decide ((c.toNat:Int)>=48)&&decide ((c.toNat:Int)<=57))):=by
 unfold xH;simp only[ge_iff_le];rw[Bool.eq_iff_iff];simp only[Bool.or_eq_true,Bool.and_eq_true,decide_eq_true_eq];omega
theorem amr {l:aF} (hi:i<l.length) (h:xH l[i]=false):l.all xH=false:=List.all_eq_false.2 ⟨l[i],dY hi,by simp[h]⟩
theorem Va (h:P:=by
 have Hc:=aa (show xH s[k]=false by rw[Hcp.out];simp;omega);have Hf:=aa (amr (l:=s.data.toList) (i:=k) (by rw[bP];exact aK) Hc);go_wp2_with fail;try rw[Exit.noGoto_ret]
 go_ret;exact⟨by rw[HE.out,Hf.out];rfl,rfl⟩):P:=h
theorem ahx (h:P:=by
 have HE:=aa (show zV s=false by simp[zV];omega);go_in;go_wp2;go_ret;rw[HE.out];exact⟨rfl,rfl⟩):P:=h
theorem af1 (h:P:=by
 have Hc:=aa (show xH s[k]=true by rw[Hcp.out];simp;omega);go_wp2;go_roundw;case rel=>exact⟨k+1,ae,by go_num,by rw[Ht.out,List.all_append,ke.out,List.all_cons,Hc.out];rfl,trivial⟩
 case measure=>exact cM):P:=h
theorem ams (s:ag) (w:World):
  Calls prog 181 #[.string s] w (eu w (.bool (zV s))):=by
 by_cases h1:s.size<1
 ·have d1:decide ((s.size:Int)<1)=true:=by simp;omega
  exact ahx
 have d1:decide ((s.size:Int)<1)=false:=by simp;omega
 by_cases h2:20<s.size
 ·have d2:decide ((s.size:Int)>20)=true:=by simp;omega
  exact ahx
 have d2:decide ((s.size:Int)>20)=false:=by simp;omega
 have HE:=aa (show zV s=s.data.toList.all xH by simp[zV,show 1<=s.size by omega,show s.size<=20 by omega]);have aFa:s.size<=20:=ae;go_in;go_wp2_with fail;go_loopw [16] (λx wr=> ∃k:Nat,k<=s.size/\x= .int .i64 (k:Nat)/\(s.data.toList.take k).all xH=true/\wr=w) (λx _=>s.size -(intOf x).toNat);case atStart=>exact⟨0,ae,rfl,rfl,rfl⟩
 case round=>
  obtain⟨k,hk,rfl,mr,rfl⟩:=hrel;have ke:=aa mr;by_cases aK:k<s.size
  ·have e1:decide ((k:Int)<(s.size:Int))=true:=by simp;omega
   have fg:s.data.toList[k]'(by rw[bP];exact aK)=s[k]:=rfl;have Ht:=aa (show s.data.toList.take (k+1)=s.data.toList.take k++ [s[k]] by rw[List.take_succ_eq_append_getElem (by rw[bP];exact aK)];rfl);have Hcp:=aa (amq s[k]);by_cases p1:(97:Int)<=(s[k].toNat:Int)
   ·have p3:(48:Int)<=(s[k].toNat:Int):=ae;have p4: ¬(s[k].toNat:Int)<=57:=ae;by_cases p2:(s[k].toNat:Int)<=122
    ·exact af1
    ·exact Va
   ·by_cases p3:(48:Int)<=(s[k].toNat:Int)
    ·by_cases p4:(s[k].toNat:Int)<=57
     ·exact af1
     ·exact Va
    ·exact Va
  ·obtain rfl:k=s.size:=ae;have e1:decide ((s.size:Int)<(s.size:Int))=false:=ak;have Hf:=aa (show s.data.toList.all xH=true by have h:=ke.out;rwa [List.take_of_length_le (by rw[bP];exact aM _)]at h);go_wp2;go_ret;exact⟨by rw[HE.out,Hf.out];rfl,rfl⟩
def RV (w:World) (v:Value) (r:dS):Prop:= ∃A n c B m d,v= .agg #[.int .i64 r.e,.int .i64 r.k,.slice A n c,.slice B m d]/\Rd w A (aZ r.ns)/\n=r.ns.length/\Rd w B (aZ r.ps)/\m=r.ps.length
theorem RV.below {w':World} {v:Value} {r:dS} (h:RV w v r) (hb:aD w w'):RV w' v r:=by
 obtain⟨A,n,c,B,m,d,rfl,h1,h2,h3,h4⟩:=h;exact⟨A,n,c,B,m,d,rfl,h1.below hb,h2,h3.below hb,h4⟩
theorem amt {r:dS} (i:Nat) (hi:i<r.ns.length) (h:rF r i=false):fX r=false:=by
 have:(List.range r.ns.length).all (rF r)=false:=List.all_eq_false.2 ⟨i,List.mem_range.2 hi,by simp[h]⟩;rw[fX,this,Bool.and_false]
theorem amu {r:dS} (h:DG r=true) (ha: ∀j,j<r.ns.length->rF r j=true):fX r=true:=by
 rw[fX,h,List.all_eq_true.2 λj hj=>ha j (List.mem_range.1 hj)];rfl
theorem eV {g:Nat} {t:TypeId} {cs:bx} (h:w.heap[g]?=some (.cells cs t (0,0))) (i:Nat) (u:Value) (hu:cs[i]?=some u):w.cell? ⟨g,i,none⟩=some u:=by
 unfold World.cell?;simp[h,hu]
theorem AP (h:P:=by
 go_wp2;go_ret;exact⟨by rw[Hf.out];rfl,HW⟩):P:=h
theorem Vo (h:P:=by
 go_wp2_with fail;refine (tS _).mono ?_;rintro e w2 ⟨rfl,rfl⟩;go_wp2_with fail;try rw[Exit.noGoto_ret]
 go_ret;exact⟨by rw[Hf.out];rfl,HW⟩):P:=h
theorem FN (v:Value) (r:dS) (w:World) (hv:RV w v r):
  Calls prog 104 #[v] w (bF w (.bool (fX r))):=by
 obtain⟨A,n,c,B,m,d,rfl,hA,hn,hB,hm⟩:=hv;obtain⟨ee,kk,ns,ps⟩:=r;simp only at hA hn hB hm⊢;have HA:=aa hA;have HB:=aa hB;have HN:=aa hn;have HM:=aa hm;obtain⟨fF,mT⟩: ∃fF:dS,fF=⟨ee,kk,ns,ps⟩:=⟨_,rfl⟩
 rw[<-mT];have Xm:=aa (show fF.ns=ns by rw[mT]);have Hps:=aa (show fF.ps=ps by rw[mT]);have hW:=be w (.cells #[.int .i64 ee,.int .i64 kk,.slice A n c,.slice B m d] 64);have HW:=aa hW;have HH:=aa (show DG fF=(decide (1<=ee)&&decide (ee<=1000000)&&decide (1<=n)&&decide (n<=16)&&decide (m=n)&&decide (1<=kk)&&decide (kk<=n)) by rw[mT,hm,hn];rfl);have uE:=aa (show DG fF=false->fX fF=false from λh=>by rw[fX,h];rfl);clear hA hn hB hm hW mT;by_cases q1:ee<1
 ·have d1:decide (ee<1)=true:=by simpa using q1
  have Hf:=aa (uE (by rw[HH.out];simp;omega));clear q1;go_in;exact AP
 have d1:decide (ee<1)=false:=by simpa using q1
 by_cases q2:ee>1000000
 ·have d2:decide (ee>1000000)=true:=by simpa using q2
  have Hf:=aa (uE (by rw[HH.out];simp;omega));clear q1 q2;go_in;exact AP
 have d2:decide (ee>1000000)=false:=by simpa using q2
 by_cases q3:n<1
 ·have d3:decide ((n:Int)<1)=true:=by simp;omega
  have Hf:=aa (uE (by rw[HH.out];simp;omega));clear q1 q2 q3;go_in;exact AP
 have d3:decide ((n:Int)<1)=false:=by simp;omega
 by_cases q4:n>16
 ·have d4:decide ((n:Int)>16)=true:=by simp;omega
  have Hf:=aa (uE (by rw[HH.out];simp;omega));clear q1 q2 q3 q4;go_in;exact AP
 have d4:decide ((n:Int)>16)=false:=by simp;omega
 by_cases q5:m=n
 ·by_cases q6:kk<1
  ·have d5:((m:Int) !=(n:Int))=false:=by simp;omega
   have d6:decide (kk<1)=true:=(by simpa using q6);have Hf:=aa (uE (by rw[HH.out];simp;omega));clear q1 q2 q3 q4 q5 q6;go_in;exact AP
  have d6:decide (kk<1)=false:=by simpa using q6
  by_cases q7:(n:Int)<kk
  ·have d5:((m:Int) !=(n:Int))=false:=by simp;omega
   have d7:decide ((n:Int)<kk)=true:=(by simpa using q7);have Hf:=aa (uE (by rw[HH.out];simp;omega));clear q1 q2 q3 q4 q5 q6 q7;go_in;exact AP
  have d7:decide ((n:Int)<kk)=false:=by simpa using q7
  have Hy:=aa (show DG fF=true by rw[HH.out];simp;omega);obtain rfl:=q5;have If:m<=16:=ae;clear q1 q2 q3 q4 q6 q7;have hX:=aR w (.cells #[.int .i64 ee,.int .i64 kk,.slice A m c,.slice B m d] 64);have HX:=aa hX;clear hX;go_in;go_wp2_with fail;go_loopw [44] (λx wr=> ∃i:Nat,i<=m/\x= .int .i64 (i:Nat)/\(∀j,j<i->rF fF j=true)/\bj wr w.heap.size #[.int .i64 ee,.int .i64 kk,.slice A m c,.slice B m d] 64/\aD w wr) (λx _=>m -(intOf x).toNat);case atStart=>exact⟨0,ae,rfl,λj hj=>ae,HX,HW⟩
  case round=>
   obtain⟨i,hi,rfl,mr,hX,hW⟩:=hrel;have ke:=aa mr;replace HX:=aa hX;replace HW:=aa hW;clear mr hX hW d1 d2 d3 d4 d6 d7;by_cases aK:i<m
   ·have e1:decide ((i:Int)<(m:Int))=true:=(by simp;omega);have oN:i<ns.length:=(by rw[<-HN.out];exact aK);have qr:i<ps.length:=(by rw[<-HM.out];exact aK);have ais:i<fF.ns.length:=(by rw[Xm.out];exact oN);obtain⟨b,aS,bG,c1⟩:=kG (HA.below HW) oN;obtain⟨b2,O0,KQ,c2⟩:=kG (HB.below HW) qr;have nC:=aa (show rF fF i=(zV ns[i]&&decide (ps[i].size=32)&&(decide (i=0)||ua (ns.getD (i - 1) eN) ns[i])) by
     unfold rF;rw[Xm.out,Hps.out,dh,dh,cL oN,cL qr];rfl)
    have II:=aa (amt (r:=fF) i ais);have CG:=aa (show rF fF i=true-> ∀j,j<i+1->rF fF j=true from λh j hj=>by
     rcases Nat.lt_or_eq_of_le (Nat.le_of_lt_succ hj) with h2|h2
     ·exact ke.out j h2
     ·rw[h2];exact h)
    subst bG KQ;have Hc3:=aa (show∀j,i=j+1->wr.cell? ⟨b,aS+j,none⟩=some (.string (ns.getD j eN)) from λj hj=>by
     have qW:j<ns.length:=ae;obtain⟨b',ve,aDl,c3⟩:=kG (HA.below HW) qW;injection aDl with h1
     injection h1 with h1 h2
     subst h1 h2;rw[c3,dh,cL qW];rfl)
    generalize ns[i]=nm at c1 nC;generalize ps[i]=pl at c2 nC;have x2:=eV HX 2 _ rfl;have x3:=eV HX 3 _ rfl;clear oN qr ais;have tS:=aa (λW=>ams nm W);cases nK:zV nm with
    |false=>
     rw[nK]at tS;have Hf:=aa (II (by rw[nC.out,nK];rfl));clear nK;exact Vo
    |true=>
     rw[nK]at tS;by_cases mX:pl.size=32
     ·have d2:((pl.size:Int) !=32)=false:=(by simp;omega);by_cases h0:i=0
      ·have d3: ¬0<i:=ae;have Hx:=aa (CG (by rw[nC.out,nK,mX,h0];rfl));clear nK mX h0;go_wp2_with fail;refine (tS _).mono ?_;rintro e w2 ⟨rfl,rfl⟩;go_wp2;go_roundw;case rel=>exact⟨i+1,ae,by go_num,Hx,HX,HW⟩
       case measure=>exact cM
      ·obtain⟨j,rfl⟩: ∃j,i=j+1:=⟨i - 1,ae⟩
       have d3:0<j+1:=ae;have c3:=Hc3.out j rfl;have L6:=aa (show rF fF (j+1)=ua (ns.getD j eN) nm by rw[nC.out,nK,mX];rfl);generalize ns.getD j eN=pv at c3 L6;have eT:=ami nm pv;cases C9:ua pv nm with
       |false=>
        rw[C9]at eT L6;have Hf:=aa (II L6);clear nK mX h0 C9;exact Vo
       |true=>
        rw[C9]at eT L6;have Hx:=aa (CG L6);clear nK mX h0 C9;go_wp2_with fail;refine (tS _).mono ?_;rintro e w2 ⟨rfl,rfl⟩;go_wp2;go_roundw;case rel=>exact⟨j+1+1,ae,by go_num,Hx,HX,HW⟩
        case measure=>exact cM
     ·have d2:((pl.size:Int) !=32)=true:=(by simp;omega);have Hf:=aa (II (by rw[nC.out,decide_eq_false mX];simp));clear nK mX;exact Vo
   ·obtain rfl:i=m:=ae;have e1:decide ((i:Int)<(i:Int))=false:=ak;have Hf:=aa (amu Hy (by rw[Xm.out,<-HN.out];exact ke.out));exact AP
 ·have d5:((m:Int) !=(n:Int))=true:=by simp;omega
  have Hf:=aa (uE (by rw[HH.out];simp;omega));clear q1 q2 q3 q4 q5;go_in;exact AP
theorem amv (v:Value) (r:dS) (name:ag) (w:World) (hv:RV w v r):
  Calls prog 308 #[v,.string name] w (bF w (.tuple #[.int .i64 (oT r name:Nat),.bool (pJ r name)])):=by
 have HV:=aa hv;obtain⟨A,n,c,B,m,d,rfl,hA,hn,hB,hm⟩:=hv;have HA:=aa hA;have HN:=aa hn;have hW:=be w (.cells #[.int .i64 r.e,.int .i64 r.k,.slice A n c,.slice B m d] 64);have hX:=aR w (.cells #[.int .i64 r.e,.int .i64 r.k,.slice A n c,.slice B m d] 64);have HW:=aa hW;have HX:=aa hX;have HC:=aa (λW h=>FN (.agg #[.int .i64 r.e,.int .i64 r.k,.slice A n c,.slice B m d]) r W h);cases hc:fX r with
 |false=>
  rw[hc]at HC;have Hb:=aa (show pJ r name=false by rw[pJ,hc];rfl);have Hp:=aa (show oT r name=0 by rw[oT,if_neg (by rw[Hb.out];simp)]);clear hA hn hB hm hW hX hc;go_in;go_wp2_with fail;refine (HC _ (HV.below HW)).mono ?_;rintro e w2 ⟨rfl,av⟩;go_wp2;go_ret2;rw[Hb.out,Hp.out];exact⟨rfl,ju HW av⟩
 |true=>
  rw[hc]at HC;have Hc:=aa hc;have hmx:n<=16:=by have:=zW hc;omega
  clear hA hn hB hm hW hX hc;go_in;go_wp2_with fail;refine (HC _ (HV.below HW)).mono ?_;rintro e w2 ⟨rfl,av⟩;have x2:=eV (aJ HX av) 2 _ rfl;have dV:=aX HW av;clear av;go_wp2_with fail;clear x2;go_loopw [14] (λx wr=> ∃i:Nat,i<=n/\x= .int .i64 (i:Nat)/\name∉r.ns.take i/\aD w wr) (λx _=>n -(intOf x).toNat);case atStart=>exact⟨0,ae,rfl,ak,dV⟩
  case round=>
   obtain⟨i,hi,rfl,j0,hW⟩:=hrel;have Hnt:=aa j0;replace dV:=aa hW;clear j0 hW;by_cases aK:i<n
   ·have e1:decide ((i:Int)<(n:Int))=true:=(by simp;omega);have oN:i<r.ns.length:=(by rw[<-HN.out];exact aK);obtain⟨b,aS,bG,c1⟩:=kG (HA.below dV) oN;have kW:=aa (amo Hc i oN);have uJ:=aa (show r.ns[i]≠name->name∉r.ns.take (i+1) from λh=>amn oN h Hnt);subst bG;generalize r.ns[i]=nm at c1 kW uJ;by_cases fj:nm=name
    ·have d1:(nm.toList==name.toList)=true:=(by rw[fj];exact beq_self_eq_true _);have Hb:=aa (show pJ r name=true by rw[<-fj];exact kW.1);have Hp:=aa (show oT r name=i+1 by rw[<-fj];exact kW.2);clear fj oN;go_wp2_with fail;try rw[Exit.noGoto_ret]
     go_ret2;rw[Hb.out,Hp.out];exact⟨rfl,dV⟩
    ·have d1:=zU fj;have Hx:=aa (uJ fj);clear fj oN;go_wp2;go_roundw;case rel=>exact⟨i+1,ae,by go_num,Hx,dV⟩
     case measure=>exact cM
   ·obtain rfl:i=n:=ae;have e1:decide ((i:Int)<(i:Int))=false:=ak;have qf:name∉r.ns:=(by have h:=Hnt.out;rwa [HN.out,List.take_of_length_le (aM _)]at h);have Hb:=aa (show pJ r name=false by
     rw[pJ,Hc.out,Bool.true_and];exact Bool.eq_false_iff.2 λh=>qf (Rv.1 h))
    have Hp:=aa (show oT r name=0 by rw[oT,if_neg (by rw[Hb.out];simp)]);clear qf;go_wp2;go_ret2;rw[Hb.out,Hp.out];exact⟨rfl,dV⟩
end
section
variable {a b:UInt8}
def BM (a:Nat):Nat:=if 2*a<256 then 2*a else (2*a - 256)^^^27
def vu (a:Nat):Nat:=a^^^BM a
def eH:Nat->Nat->Nat
 |0,a=>a
 |n+1,a=>eH n (vu a)
def aaB:Nat->Nat->List Nat
 |0,_=> []
 |n+1,a=>a::aaB n (vu a)
def amY:List Nat:=aaB 255 1
def my (a:Nat):Nat:=amY.idxOf a
theorem FU {p:Nat->Bool} (h:(List.range 256).all p=true) (a:Nat) (ha:a<256):p a=true:=List.all_eq_true.1 h a (by simpa using ha)
theorem RN (a:Nat) (ha:a<256):vu a<256:=by
 have:(List.range 256).all (λa=>decide (vu a<256))=true:=bU;simpa using FU this a ha
theorem amZ:vu 0=0:=au
theorem am0 (a b:Nat) (ha:a<256) (hb:b<256):vu (a^^^b)=vu a^^^vu b:=by
 have:(List.range 256).all (λa=>(List.range 256).all λb=>decide (vu (a^^^b)=vu a^^^vu b))=true:=bU;have h1:=FU this a ha;have h2:=FU h1 b hb;simpa using h2
theorem FV: ∀(m n a:Nat),eH (m+n) a=eH n (eH m a)
 |0,n,a=>by simp[eH]
 |m+1,n,a=>by rw[Nat.succ_add,eH,eH,FV m n]
theorem FW: ∀(n a:Nat),a<256->eH n a<256
 |0,a,h=>h
 |n+1,a,h=>FW n _ (RN a h)
theorem RO: ∀n,eH n 0=0
 |0=>rfl
 |n+1=>by rw[eH,amZ,RO n]
theorem aaC: ∀(n a b:Nat),a<256->b<256->eH n (a^^^b)=eH n a^^^eH n b
 |0,_,_,_,_=>rfl
 |n+1,a,b,ha,hb=>by rw[eH,am0 a b ha hb,aaC n _ _ (RN a ha) (RN b hb)];rfl
theorem aaD (a:Nat) (ha:a<256):eH 255 a=a:=by
 have:(List.range 256).all (λa=>decide (eH 255 a=a))=true:=bU;simpa using FU this a ha
theorem Jo (a:Nat) (h0:a≠0) (ha:a<256):eH (my a) 1=a/\my a<255:=by
 have:(List.range 256).all (λa=>decide (a≠0->eH (my a) 1=a/\my a<255))=true:=bU;have h:=FU this a ha;rw[decide_eq_true_eq]at h;exact h h0
theorem RP (n:Nat) (hn:n<255):my (eH n 1)=n:=by
 have:(List.range 255).all (λn=>decide (my (eH n 1)=n))=true:=bU;have h:=List.all_eq_true.1 this n (by simpa using hn);simpa using h
theorem RQ (n a:Nat) (ha:a<256):eH (n % 255) a=eH n a:=by
 have key: ∀q r,eH (255*q+r) a=eH r a:=by
  intro q;induction q with
  |zero=>intro r;rw[Nat.mul_zero,Nat.zero_add]
  |succ q ih=>intro r;rw[Nat.mul_succ,Nat.add_assoc,ih,FV,aaD a ha]
 conv=>rhs;rw[<-Nat.div_add_mod n 255,key]
theorem am1 (n a:Nat) (h0:a≠0) (ha:a<256):eH n a≠0:=by
 intro e;have h:=congrArg (eH (255 - n % 255)) e;rw[RO,<-RQ n a ha,<-FV,show n % 255+(255 - n % 255)=255 by omega,aaD a ha]at h;exact h0 h
def gP (a b:Nat):Nat:=if a=0 then 0 else eH (my a) b
theorem am2 (a b:Nat) (hb:b<256):gP a b<256:=by
 unfold gP;split
 ·omega
 ·exact FW _ _ hb
theorem Jp (a:Nat):gP a 0=0:=by
 unfold gP;split
 ·rfl
 ·exact RO _
theorem FX (b:Nat):gP 0 b=0:=rfl
theorem MK (a b:Nat) (ha:a≠0) (hb:b≠0) (ha2:a<256) (av:b<256):gP a b=eH ((my a+my b)% 255) 1:=by
 rw[gP,if_neg ha,RQ _ _ ae,Nat.add_comm,FV,(Jo b hb av).1]
theorem am3 (a b:Nat) (ha:a<256) (hb:b<256):gP a b=gP b a:=by
 by_cases h1:a=0
 ·rw[h1,FX,Jp]
 ·by_cases h2:b=0
  ·rw[h2,FX,Jp]
  ·rw[MK a b h1 h2 ha hb,MK b a h2 h1 hb ha,Nat.add_comm]
theorem am4 (a b c:Nat) (hb:b<256) (hc:c<256):gP a (b^^^c)=gP a b^^^gP a c:=by
 unfold gP;split
 ·rfl
 ·exact aaC _ _ _ hb hc
theorem am5 (b:Nat):gP 1 b=b:=by
 rw[gP,if_neg au,show my 1=0 by decide+kernel];rfl
theorem am6 (a b:Nat) (ha:a≠0) (hb:b≠0) (av:b<256):gP a b≠0:=by
 rw[gP,if_neg ha];exact am1 _ _ hb av
theorem am7 (a b c:Nat) (ha:a<256) (hb:b<256) (hc:c<256):gP (gP a b) c=gP a (gP b c):=by
 by_cases h1:a=0
 ·rw[h1,FX,FX,FX]
 ·by_cases h2:b=0
  ·rw[h2,Jp,FX,Jp]
  ·have h3:=am6 a b h1 h2 hb;rw[show gP (gP a b) c=eH (my (gP a b)) c by rw[gP,if_neg h3],MK a b h1 h2 ha hb,RP _ (Nat.mod_lt _ ae),RQ _ _ hc,
    show gP a (gP b c)=eH (my a) (gP b c) by rw[gP,if_neg h1],show gP b c=eH (my b) c by rw[gP,if_neg h2],<-FV,Nat.add_comm]
def ML (a:Nat):Nat:=eH ((255 - my a)% 255) 1
theorem am8 (a:Nat):ML a<256:=FW _ _ ae
def gm (a b:UInt8):UInt8:=UInt8.ofNat (gP a.toNat b.toNat)
def gi (a:UInt8):UInt8:=UInt8.ofNat (ML a.toNat)
theorem Jq (h:a.toNat=b.toNat):a=b:=UInt8.toNat_inj.1 h
theorem ud (a b:UInt8):(gm a b).toNat=gP a.toNat b.toNat:=by
 have:=am2 a.toNat b.toNat b.toNat_lt;rw[gm,UInt8.toNat_ofNat'];exact Nat.mod_eq_of_lt this
theorem am9 (a:UInt8):(gi a).toNat=ML a.toNat:=by
 have:=am8 a.toNat;rw[gi,UInt8.toNat_ofNat'];exact Nat.mod_eq_of_lt this
theorem RR (a b:UInt8):gm a b=gm b a:=Jq (by rw[ud,ud,am3 _ _ a.toNat_lt b.toNat_lt])
theorem am' (a b c:UInt8):gm (gm a b) c=gm a (gm b c):=Jq (by rw[ud,ud,ud,ud,am7 _ _ _ a.toNat_lt b.toNat_lt c.toNat_lt])
theorem ana (a b c:UInt8):gm a (b^^^c)=gm a b^^^gm a c:=Jq (by rw[ud,UInt8.toNat_xor,am4 _ _ _ b.toNat_lt c.toNat_lt,UInt8.toNat_xor,ud,ud])
theorem RS (a:UInt8):gm a 0=0:=Jq (by rw[ud];exact Jp _)
theorem anb (a:UInt8):gm 0 a=0:=by rw[RR,RS]
theorem anc (a:UInt8):gm 1 a=a:=Jq (by rw[ud];exact am5 _)
theorem ane (a b c:UInt8):a^^^b^^^c=a^^^(b^^^c):=UInt8.xor_assoc a b c
theorem anf (h:a^^^b=0):a=b:=UInt8.xor_eq_zero_iff.1 h
theorem ang (h:a≠b):a^^^b≠0:=λe=>h (anf e)
def oU:List UInt8->UInt8->UInt8
 | [],_=>0
 |a::l,x=>a^^^gm x (oU l x)
def xJ (l m:aF):aF:=List.zipWith (· ^^^ ·) l m
def wP (dQ x:UInt8) (os:aF) (p:UInt8):UInt8:=os.foldl (λp o=>gm p (gm (x^^^o) (gi (dQ^^^o)))) p
def FY (l:aF):UInt8:=l.foldl (· ^^^ ·) 0
theorem Jr (l:aF) (i:Nat) (h:i<l.length):l.getD i 0=l[i]:=by simp[List.getD,h]
def atP (xs ys:aF) (x:UInt8):UInt8:=FY ((List.range xs.length).map λi=>gm (wP (xs.getD i 0) x (xs.eraseIdx i) 1) (ys.getD i 0))
end
section
variable {B g i n n0:Nat} {L:List Int} {P:Prop} {cs:bx} {e t:TypeId} {row:Option Nat} {w w':World} {x:Int} {xs:bJ}
abbrev cA (a:UInt8):Value:= .int .i64 (a.toNat:Int)
theorem RT (a b:Nat) (ha:a<65536) (hb:b<65536):bits .xor .i64 (a:Int) (b:Int)=((a^^^b:Nat):Int):=by
 have:=ZQ (a:Int) (b:Int) (zQ.2 ⟨⟨ae,ae⟩,⟨ae,ae⟩⟩);rw[this];simp[sE]
theorem anh (a:Nat) (w:World) (ha:a<256):Calls prog 312 #[.int .i64 (a:Int)] w (eu w (.int .i64 ((BM a:Nat):Int))):=by
 have Hx:=aa (RT (2*a - 256) 27 ae ae);by_cases h:2*a<256
 ·go_in;go_wp2;go_ret;refine⟨Dw ?_,rfl⟩;rw[BM,if_pos h];omega
 ·go_in;go_wp2;go_ret;refine⟨Dw ?_,rfl⟩;rw[BM,if_neg h,<-Hx.out];congr 1;omega
theorem ani (x:Int) (w:World):Calls prog 313 #[.int .i64 x] w (eu w (.bool (decide (0<=x)&&decide (x<=255)))):=by
 by_cases h:0<=x
 ·go_in;go_wp2;go_ret;exact⟨by simp[h],rfl⟩
 ·go_in;go_wp2;go_ret;exact⟨by simp;omega,rfl⟩
theorem xK (a:UInt8) (w:World):Calls prog 313 #[cA a] w (eu w (.bool true)):=
 (ani _ w).mono λe w' ⟨h1,h2⟩=>⟨by rw[h1];have:=a.toNat_lt;simp;omega,h2⟩
theorem anj (a b:UInt8) (w:World):Calls prog 323 #[cA a,cA b] w (eu w (.tuple #[cA (a^^^b),.bool true])):=by
 have Hx:=aa (RT a.toNat b.toNat (by have:=a.toNat_lt;omega) (by have:=b.toNat_lt;omega));go_in;go_wp2_with fail;refine (xK a _).mono ?_;rintro e w' ⟨rfl,rfl⟩;go_wp2_with fail;refine (xK b _).mono ?_;rintro e w' ⟨rfl,rfl⟩;go_wp2;go_ret2;refine⟨?_,rfl⟩;rw[Hx.out];simp[UInt8.toNat_xor]
def lw (w:World) (g:Nat):Prop:= ∃L:List Int,w.heap[g]?=some (.cells (ints L).toArray 361 (0,0))/\L.length=511/\(∀a,a≠0->a<256->L.getD a 0=(my a:Nat))/\ ∀i,i<255->L.getD (256+i) 0=(eH i 1:Nat)
theorem lw.keep (h:lw w g) (hb:aD w w'):lw w' g:=by
 obtain⟨L,h1,h2⟩:=h;exact⟨L,aJ h1 hb,h2⟩
theorem lw.lt (h:lw w g):g<w.heap.size:=by
 obtain⟨L,h1,h2⟩:=h;exact bf h1
def MM (L:List Int) (k:Nat):Prop:=L.length=511/\ ∀j,j<k->L.getD (256+j) 0=(eH j 1:Nat)/\L.getD (eH j 1) 0=(j:Int)
theorem aaF (h:i<L.length):(L.set i x).getD i 0=x:=by simp[h]
theorem FZ {j:Nat} (h:i≠j):(L.set i x).getD j 0=L.getD j 0:=by simp[List.getElem?_set_ne h]
theorem ank {k:Nat} (h:MM L k) (hk:k<255):MM ((L.set (eH k 1) (k:Int)).set (256+k) (eH k 1:Nat)) (k+1):=by
 obtain⟨hl,h⟩:=h;have h3:=FW k 1 ae;refine⟨by simp[hl],λj hj=>?_⟩;by_cases e:j=k
 ·subst e;refine⟨aaF (by simp;omega),?_⟩;rw[FZ ae,aaF ae]
 ·have hj':j<k:=ae;obtain⟨h1,h2⟩:=h j hj';have h4:=FW j 1 ae;refine⟨?_,?_⟩
  ·rw[FZ ae,FZ ae,h1]
  ·have:eH k 1≠eH j 1:=λe2=>e (by rw[<-RP j ae,<-e2,RP k ae]);rw[FZ ae,FZ this,h2]
theorem anl (h:w.heap[g]?=some (.cells (ints L).toArray 361 (0,0))) (hl:MM L 255):lw w g:=by
 refine⟨L,h,hl.1,λa h0 ha=>?_,λi hi=>(hl.2 i hi).1⟩;obtain⟨h1,h2⟩:=Jo a h0 ha;have:=(hl.2 _ h2).2;rw[h1]at this;exact this
theorem anm (k:Nat):eH (k+1) 1=eH k 1^^^BM (eH k 1):=by
 rw[FV k 1];rfl
theorem ann (a:Nat) (h:a<256):BM a<256:=by
 have:(List.range 256).all (λa=>decide (BM a<256))=true:=bU;simpa using FU this a h
theorem RU (w:World):Calls prog 258 #[] w λe w'=> ∃g,e= .returned (.pointer (aw g))/\lw w' g/\w.heap.size<=g/\aD w w':=by
 go_in;go_wp2_with fail;go_loopw [2,3,5] (λx _ i wr=> ∃(k:Nat) (L:List Int),k<=255/\x= .int .i64 (eH k 1:Nat)/\i= .int .i64 (k:Nat)/\wr.heap[w.heap.size]?=some (.cells (ints L).toArray 361 (0,0))/\MM L k/\aD w wr) (λ_ _ i _=>255 -(intOf i).toNat);case atStart=>exact⟨0,List.replicate 511 0,ae,rfl,rfl,aR w _,⟨ak,λj hj=>ae⟩,(aI _ _).alloc (aM _) _⟩
 case round=>
  obtain⟨k,L,hk,rfl,rfl,hL,hT,hW⟩:=hrel;by_cases aK:k<255
  ·have hx:=FW k 1 ae;have HN:=aa (ank hT aK);have HS:=aa (anm k);generalize eH k 1=x at hx HN HS;have ey:=hT.1;obtain⟨gu,ry⟩:=ft hL (i:=x) ae;have Pj:=mv hL x (k:Int);obtain⟨fi,Mq⟩:=ft Pj (i:=256+k) (by simp;omega);have yU:=mv Pj (256+k) (x:Int);have sn:=(hW.setCell (p:=⟨w.heap.size,x,none⟩) (aM _) (.int .i64 (k:Int))).setCell (p:=⟨w.heap.size,256+k,none⟩) (aM _) (.int .i64 (x:Int));have jI:=aa yU;have Hx:=aa (RT x (BM x) ae (by have:=ann x hx;omega));have aG:(x:Int)<256:=ae;go_wp2_with fail;refine (anh x _ hx).mono ?_;rintro e w' ⟨rfl,rfl⟩;go_wp2;go_roundw;case rel=>exact⟨k+1,_,ae,by rw[Hx.out,HS.out],by go_num,jI,HN,sn⟩
   case measure=>exact cM
  ·obtain rfl:k=255:=ae;have Hf:=aa (anl hL hT);go_wp2;go_ret;exact⟨_,rfl,Hf,aM _,hW⟩
theorem RW (h:lw w g):(∀a,a≠0->a<256->w.cell? ⟨g,a,none⟩=some (.int .i64 (my a:Nat)))/\ ∀i,i<255->w.cell? ⟨g,256+i,none⟩=some (.int .i64 (eH i 1:Nat)):=by
 obtain⟨L,h1,h2,h3,h4⟩:=h;exact⟨λa h0 ha=>by rw[(ft h1 ae).1,h3 a h0 ha],λi hi=>by rw[(ft h1 ae).1,h4 i hi]⟩
theorem RY (w:World) (g:Nat) (h:lw w g):Calls prog 314 #[.pointer (aw g)] w (eu w (.pointer (aw g))):=by
 have hc:w.cell? ⟨g,256,none⟩=some (.int .i64 1):=(RW h).2 0 ae;exact jt
theorem ahI (h:P:=by
 clear hz;go_quiet (fail);rename_i nq;have HB:=tX (aI w'.heap.size w') nq;go_wp2;go_ret2;refine⟨?_,HB⟩;simp only[cA,Hp.out,EJ.out];rfl):P:=h
theorem RZ (a b:UInt8) (w:World) (g:Nat) (h:lw w g):Calls prog 315 #[.pointer (aw g),cA a,cA b] w (bF w (.tuple #[cA (gm a b),.bool true])):=by
 have H:=aa h;clear h;have Hz:=aa (anb b);have Hz2:=aa (RS a);have ha:=a.toNat_lt;have hb:=b.toNat_lt;by_cases h0:a.toNat=0
 ·obtain rfl:a=0:=UInt8.toNat_inj.1 h0;go_in;go_wp2_with fail;refine (xK 0 _).mono ?_;rintro e w' ⟨rfl,rfl⟩;go_wp2_with fail;refine (xK b _).mono ?_;rintro e w' ⟨rfl,rfl⟩;go_wp2;go_ret2;refine⟨?_,aI _ _⟩;rw[Hz.out];rfl
 ·by_cases h1:b.toNat=0
  ·obtain rfl:b=0:=UInt8.toNat_inj.1 h1;go_in;go_wp2_with fail;refine (xK a _).mono ?_;rintro e w' ⟨rfl,rfl⟩;go_wp2_with fail;refine (xK 0 _).mono ?_;rintro e w' ⟨rfl,rfl⟩;go_wp2;go_ret2;refine⟨?_,aI _ _⟩;rw[Hz2.out];rfl
  ·have e1:((a.toNat:Int)==0)=false:=by simp;omega
   have e2:((b.toNat:Int)==0)=false:=(by simp;omega);go_in;go_wp2_with fail;refine (xK a _).mono ?_;rintro e w' ⟨rfl,rfl⟩;go_wp2_with fail;refine (xK b _).mono ?_;rintro e w' ⟨rfl,rfl⟩;go_wp2_with fail;refine (RY _ g H).mono ?_;rintro e w' ⟨rfl,rfl⟩;go_wp2_with fail;obtain⟨hn,ht⟩:=RW H.out;have c1:=hn _ h0 ha;have c2:=hn _ h1 hb;have Hp:=aa (ud a b);have EJ:=aa (MK _ _ h0 h1 ha hb);have n1:=(Jo _ h0 ha).2;have n2:=(Jo _ h1 hb).2;clear hn;generalize my a.toNat=x at c1 n1 EJ;generalize my b.toNat=y at c2 n2 EJ;have hm:=Nat.mod_lt (x+y) (show 0<255 by omega);obtain⟨z,hz⟩: ∃z,z=(x+y)% 255:=⟨_,rfl⟩
   rw[<-hz]at hm EJ;have c3:=ht z hm;clear ht;have hz':(IntKind.i64.wrap ((x:Int)+(y:Int))).tmod 255=(z:Int):=by
    rw[IntWalk.i64_in _ ae,Int.tmod_eq_emod_of_nonneg ae];omega
   have aAm:(((x:Int)+(y:Int))).tmod 255=(z:Int):=by
    rw[Int.tmod_eq_emod_of_nonneg ae];omega
   exact ahI
theorem ano (a:UInt8) (w:World) (g:Nat) (h:lw w g) (h0:a≠0):Calls prog 335 #[.pointer (aw g),cA a] w (bF w (.tuple #[cA (gi a),.bool true])):=by
 have H:=aa h;clear h;have ha:=a.toNat_lt;have h0:a.toNat≠0:=λe=>h0 (UInt8.toNat_inj.1 e);have e1:((a.toNat:Int)==0)=false:=by simp;omega
 go_in;go_wp2_with fail;refine (xK a _).mono ?_;rintro e w' ⟨rfl,rfl⟩;go_wp2_with fail;refine (RY _ g H).mono ?_;rintro e w' ⟨rfl,rfl⟩;go_wp2_with fail;obtain⟨hn,ht⟩:=RW H.out;have c1:=hn _ h0 ha;have Hp:=aa (am9 a);have EJ:=aa (show ML a.toNat=eH ((255 - my a.toNat)% 255) 1 from rfl);have n1:=(Jo _ h0 ha).2;clear hn;generalize my a.toNat=x at c1 n1 EJ;have hm:=Nat.mod_lt (255 - x) (show 0<255 by omega);obtain⟨z,hz⟩: ∃z,z=(255 - x)% 255:=⟨_,rfl⟩
 rw[<-hz]at hm EJ;have c3:=ht z hm;clear ht;have aAm:((255 -(x:Int))).tmod 255=(z:Int):=by
  rw[Int.tmod_eq_emod_of_nonneg ae];omega
 exact ahI
theorem anp (a x:UInt8) (w:World) (gp ga g:Nat) (h:lw w g) (hp:w.cell? ⟨gp,0,none⟩=some (.func (.func 315) #[.pointer (aw g)] #[])) (ha:w.cell? ⟨ga,0,none⟩=some (cA a)):
  Calls prog 316 #[.int .u8 (x.toNat:Int),.pointer (aw gp),.pointer (aw ga)] w (bF w (.int .u8 ((gm a x).toNat:Int))):=by
 have H:=aa h;have hx:=x.toNat_lt;have hg:=(gm a x).toNat_lt;go_in;go_wp2_with fail;refine (RZ a x _ g H).mono ?_;exact OQ
def sI (a:UInt8) (l:aF) (k:Nat):aF:=(l.take k).map (gm a)++l.drop k
theorem aaG (a:UInt8) (l:aF) (k:Nat):(sI a l k).length=l.length:=by simp[sI];omega
theorem anq (a:UInt8) (l:aF):sI a l 0=l:=by simp[sI]
theorem anr (a:UInt8) (l:aF):sI a l l.length=l.map (gm a):=by simp[sI]
theorem ant (a:UInt8) (l:aF) (k:Nat) (h:k<l.length):(sI a l k).getD k 0=l.getD k 0:=by
 have:((l.take k).map (gm a)).length=k:=by simp;omega
 simp only[sI,dh];rw[ux ae,this];simp
theorem anu (a:UInt8) (l:aF) (k:Nat) (h:k<l.length):(sI a l k).set k (gm a (l.getD k 0))=sI a l (k+1):=by
 have hl:((l.take k).map (gm a)).length=k:=by simp;omega
 simp only[sI];rw[List.set_append_right _ _ ae,hl,Nat.sub_self,List.drop_eq_getElem_cons h,List.set_cons_zero,List.take_succ_eq_append_getElem h,List.map_append];simp[h]
theorem mz {v:Value} (h:w.heap[g]?=some (.cells #[v] t (0,0))):w.cell? ⟨g,0,none⟩=some v:=by
 exact Ez
theorem anv (a:UInt8) (s:ag) (w:World) (g:Nat) (h:lw w g) (hs:s.size<=100000):Calls prog 259 #[.pointer (aw g),cA a,.string s] w λe w'=>e= .returned (.tuple #[.string (bs (s.data.toList.map (gm a))),.bool true])/\aD w w':=by
 have H:=aa h;go_in;go_wp2_with fail;refine (xK a _).mono ?_;rintro e w' ⟨rfl,rfl⟩;go_wp2_with fail;refine (RY _ g (H.keep ((aI _ _).alloc (aM _) _))).mono ?_;rintro e w' ⟨rfl,rfl⟩;obtain⟨w1,cS⟩: ∃w1,w1=(w.alloc (.cells #[cA a] 3)).alloc (.cells #[.func (.func 315) #[.pointer (aw g)] #[]] 344):=⟨_,rfl⟩
 obtain⟨ai,w2,il,mi,sn,sB⟩:=MG w1 s (w.heap.size+1+1) (by rw[cS];simp);have jJ:w1.heap.size=w.heap.size+1+1:=by rw[cS];simp
 have gu:w2.heap[w.heap.size]?=some (.cells #[cA a] 3 (0,0)):=by
  rw[sn.block _ ae,cS];exact (Below.heap_alloc _ _ _ ak).trans (aR w _)
 have fi:w2.heap[w.heap.size+1]?=some (.cells #[.func (.func 315) #[.pointer (aw g)] #[]] 344 (0,0)):=by
  rw[sn.block _ ae,cS];have:=aR (w.alloc (.cells #[cA a] 3)) (.cells #[.func (.func 315) #[.pointer (aw g)] #[]] 344);exact oC
 have hWw:aD w w2:=by
  have h1:aD w w1:=by rw[cS];exact ((aI _ _).alloc (aM _) _).alloc ak _
  exact bg h1 sn
 rw[cS]at il;have bq:=aa mi;have Hc1:=aa gu;have PR:=aa fi;have HWw:=aa hWw;go_wp2_with fail;go_loopw [11,12,28] (λ_ _ i wr=> ∃k:Nat,k<=s.size/\i= .int .i64 (k:Nat)/\nc wr (w.heap.size+1+1) (sI a s.data.toList k)/\wr.heap[w.heap.size]?=some (.cells #[cA a] 3 (0,0))/\wr.heap[w.heap.size+1]?=some (.cells #[.func (.func 315) #[.pointer (aw g)] #[]] 344 (0,0))/\aD w wr) (λ_ _ i _=>s.size -(intOf i).toNat);case atStart=>exact⟨0,ae,rfl,by rw[anq];exact bq.out,Hc1,PR,HWw⟩
 case round=>
  obtain⟨k,hk,rfl,hB,hA,hP,hW⟩:=hrel;by_cases aK:k<s.size
  ·have hl:k<(sI a s.data.toList k).length:=by rw[aaG];exact aK
   obtain⟨hc,hf⟩:=hB k hl;have cZ:=aa (anu a s.data.toList k aK);rw[ant a _ k aK]at hc;generalize s.data.toList.getD k 0=x at hc cZ;have HB:=aa hB;have HA:=aa hA;have HP:=aa hP;have HF:=aa (H.keep hW);have HW:=aa hW;have Hl:=aa hl;go_wp2_with fail;refine (anp a x _ _ _ g HF (mz HP) (mz HA)).mono ?_;rintro e w3 ⟨rfl,hb⟩;have zM:=HB.below hb;obtain⟨vn,hf3⟩:=zM k Hl.out;have cj:=aa (zM.set k (gm a x));rw[cZ.out]at cj;have pC:=aa ((bz _ ⟨w.heap.size+1+1,k,none⟩ (.int .u8 ((gm a x).toNat:Int)) w.heap.size (by simp only;omega)).trans (aJ HA hb));have jL:=aa ((bz _ ⟨w.heap.size+1+1,k,none⟩ (.int .u8 ((gm a x).toNat:Int)) (w.heap.size+1) (by simp only;omega)).trans (aJ HP hb));have iK:=aa ((bg HW hb).setCell (p:=⟨w.heap.size+1+1,k,none⟩) (by simp only;omega) (.int .u8 ((gm a x).toNat:Int)));go_wp2;go_roundw;case rel=>exact⟨k+1,ae,by go_num,cj,pC,jL,iK⟩
   case measure=>exact cM
  ·obtain rfl:k=s.size:=ae;have LI:=Ji hB ai s.size (by rw[aaG];rfl);have ke:=aa (anr a s.data.toList);rw[bP]at ke;have HW:=aa hW;go_wp2;go_ret2;exact⟨by rw[ke.out];rfl,HW⟩
theorem ayN (h:P:=by
 obtain rfl:k=xs.length:=ae;have HI:=aa hI;go_wp2;go_ret;exact⟨_,rfl,HI⟩):P:=h
theorem agF (h:P:=by
 subst hn;have H0:=aa h0;have HR:=aa dw;have HS:=aa Iy;go_in;go_wp2_with fail;go_loopw [1,8,11] (λs _ i wr=> ∃k:Nat,k<=xs.length/\i= .int .i64 (k:Nat)/\I k s wr) (λ_ _ i _=>xs.length -(intOf i).toNat);case atStart=>exact⟨0,ae,rfl,H0⟩
 case round=>
  obtain⟨k,hk,rfl,hI⟩:=hrel;by_cases aK:k<xs.length
  ·obtain⟨b,aS,hA,hc⟩:=(HR _ _ _ hI).int_at aK;subst hA;have HI:=aa hI;generalize hx:xs.getD k 0=x at hc;have Hx:=aa hx;go_wp2_with fail;refine Calls.mono (Hx.out▸HS.out k _ _ aK HI) ?_;rintro e w3 ⟨v',rfl,hI'⟩;have HI':=aa hI';go_wp2;go_roundw;case rel=>exact⟨k+1,ae,by go_num,HI'⟩
   case measure=>exact cM
  ·exact ayN):P:=h
theorem aaH (xs:List Int) (A:aN) (n c:Nat) (start:Value) (fn:FuncId) (ai:bx) (w:World) (I:Nat->Value->World->Prop) (hn:n=xs.length) (hl:xs.length<=1000000) (Dh: ∀args W,(callFunc fn args).run prog W= .ok (.enter fn args) W) (h0:I 0 start w) (dw: ∀k v W,I k v W->Rd W A (ints xs)) (Iy: ∀k v W,k<xs.length->I k v W->Calls prog fn (#[v,.int .i64 (xs.getD k 0)]++ai) W λe W'=> ∃v',e= .returned v'/\I (k+1) v' W'):
  Calls prog 269 #[.slice A n c,start,.func (.func fn) #[] ai] w λe w'=> ∃v,e= .returned v/\I xs.length v w':=by
 exact agF
theorem anw (xs:List Int) (A:aN) (n c:Nat) (start:Value) (fn:FuncId) (ai:bx) (w:World) (I:Nat->Value->World->Prop) (hn:n=xs.length) (hl:xs.length<=1000000) (Dh: ∀args W,(callFunc fn args).run prog W= .ok (.enter fn args) W) (h0:I 0 start w) (dw: ∀k v W,I k v W->Rd W A (ints xs)) (Iy: ∀k v W,k<xs.length->I k v W->Calls prog fn (#[v,.int .i64 (xs.getD k 0)]++ai) W λe W'=> ∃v',e= .returned v'/\I (k+1) v' W'):
  Calls prog 321 #[.slice A n c,start,.func (.func fn) #[] ai] w λe w'=> ∃v,e= .returned v/\I xs.length v w':=by
 exact agF
def uf (x:Int):Bool:=decide (0<=x)&&decide (x<=255)
theorem anx (b:Bool) (x:Int) (w:World):Calls prog 322 #[.bool b,.int .i64 x] w (eu w (.bool (b&&uf x))):=by
 cases b
 ·exact jt
 ·by_cases h:0<=x
  ·go_in;go_wp2;go_ret;exact⟨by simp[uf,h],rfl⟩
  ·go_in;go_wp2;go_ret;exact⟨by simp[uf];omega,rfl⟩
theorem anz (xs:List Int) (k:Nat) (h:k<xs.length):(xs.take (k+1)).all uf=((xs.take k).all uf&&uf (xs.getD k 0)):=by
 rw[List.take_succ_eq_append_getElem h,List.all_append];simp[h]
theorem MN (xs:List Int) (A:aN) (n c:Nat) (w:World) (hr:Rd w A (ints xs)) (hn:n=xs.length) (hl:xs.length<=1000000):
  Calls prog 268 #[.slice A n c] w (eu w (.bool (xs.all uf))):=by
 have H:=aa hr;have HN:=aa hn;clear hr hn;go_in;go_wp2_with fail;refine (anw xs A n c (.bool true) 322 #[] w (λk v W=>v= .bool ((xs.take k).all uf)/\W=w) HN hl (enters_of func322 ax rfl) ⟨rfl,rfl⟩ (λk v W h=>h.2▸H.out) ?_).mono ?_
 ·rintro k v W hk ⟨rfl,rfl⟩;refine (anx _ _ W).mono ?_;rintro e w' ⟨rfl,rfl⟩;exact⟨_,rfl,by rw[anz xs k hk],rfl⟩
 ·rintro e w' ⟨v,rfl,rfl,rfl⟩;go_wp2;go_ret;exact⟨ak,rfl⟩
theorem R0 (a b:UInt8) (w:World):Calls prog 271 #[cA a,cA b] w (eu w (cA (a^^^b))):=by
 go_in;go_wp2_with fail;refine (anj a b _).mono ?_;rintro e w' ⟨rfl,rfl⟩;exact tp
theorem R1 (a b:UInt8) (w:World) (g:Nat) (h:lw w g):Calls prog 272 #[.pointer (aw g),cA a,cA b] w (bF w (cA (gm a b))):=by
 have H:=aa h;go_in;go_wp2_with fail;refine (RZ a b _ g H).mono ?_;exact OQ
def eY (l:aF):List Int:=l.map λa=>(a.toNat:Int)
theorem rH (l:aF):(eY l).length=l.length:=by simp[eY]
theorem MO (l:aF):(eY l).all uf=true:=by
 rw[List.all_eq_true];intro x hx;obtain⟨a,_,rfl⟩:=List.mem_map.1 hx;have:=a.toNat_lt;simp[uf];omega
theorem MP (l:aF) (k:Nat) (h:k<l.length):(eY l).getD k 0=((l.getD k 0).toNat:Int):=by simp[eY,h]
def pw (x:UInt8):Nat->UInt8
 |0=>1
 |k+1=>gm (pw x k) x
theorem aaI (x:UInt8): ∀(l m:aF),oU (l++m) x=oU l x^^^gm (pw x l.length) (oU m x)
 | [],m=>by simp[oU,pw,anc]
 |a::l,m=>by
  rw[List.cons_append,oU,oU,aaI x l m,ana,ane,List.length_cons,pw,RR (pw x l.length) x,am']
theorem anA (l:aF) (x:UInt8) (k:Nat) (h:k<l.length):oU (l.take (k+1)) x=oU (l.take k) x^^^gm (l.getD k 0) (pw x k):=by
 rw[List.take_succ_eq_append_getElem h,aaI];have:(l.take k).length=k:=by simp;omega
 rw[this,RR (l.getD k 0)];simp[oU,RS,h]
theorem F1 {a:World} (h:a.grownBy w row) (k:w.grownBy w' row):a.grownBy w' row:=
 ⟨k.os.trans h.os,k.tape.trans h.tape,k.output.trans h.output,bD h.size k.size,λi hi hr=>(k.block i (jY hi h.size) hr).trans (h.block i hi hr)⟩
abbrev eB (w:World) (g:Nat) (t:TypeId) (v:Value):Prop:=w.heap[g]?=some (.cells #[v] t (0,0))
theorem R2 {v:Value} (h:eB w g t v) (u:Value):eB (w.setCell ⟨g,0,none⟩ u) g t u:=bt h 0 u
theorem R3 {v:Value} (h:eB w g t v):w.frozen? ⟨g,0,none⟩=false:=by
 exact OP
theorem anB (s a p x:UInt8) (w:World) (g gf gp gx:Nat) (h:lw w g) (hf:eB w gf 320 (.pointer (aw g))) (hp:eB w gp 3 (cA p)) (hx:eB w gx 3 (cA x)):
  Calls prog 270 #[cA s,cA a,.pointer (aw gf),.pointer (aw gp),.pointer (aw gx)] w λe w'=>e= .returned (cA (s^^^gm a p))/\eB w' gp 3 (cA (gm p x))/\w.grownBy w' (some gp):=by
 have H:=aa h;have Hf:=aa hf;have Hp:=aa hp;have Hx:=aa hx;have cf:=mz hf;have cp:=mz hp;go_in;go_wp2_with fail;refine (R1 a p _ g H).mono ?_;rintro e w1 ⟨rfl,aG⟩;go_wp2_with fail;refine (R0 s (gm a p) _).mono ?_;rintro e w1' ⟨rfl,rfl⟩;have cf:=mz (aJ Hf aG);have cp:=mz (aJ Hp aG);have cx:=mz (aJ Hx aG);go_wp2_with fail;refine (R1 p x _ g (H.keep aG)).mono ?_;rintro e w2 ⟨rfl,av⟩;have hb:=bg aG av;have bp:=aJ Hp hb;have cp:=mz bp;have cp':=R3 bp;have Hbp:=aa (R2 bp (cA (gm p x)));have Hg:Hid (w.grownBy (w2.setCell ⟨gp,0,none⟩ (cA (gm p x))) (some gp)):=aa ⟨hb.os,hb.tape,hb.output,by simpa using hb.size,λi hi aO=>(bz _ _ _ _ (λe=>aO (by rw[e]))).trans (hb.block i hi)⟩;go_wp2;go_ret;exact⟨rfl,Hbp,Hg⟩
theorem anC (l:aF) (x:UInt8) (A:aN) (n c:Nat) (w:World) (hr:Rd w A (ints (eY l))) (hn:n=l.length) (hl:l.length<=255):
  Calls prog 212 #[.slice A n c,cA x] w (bF w (.tuple #[cA (oU l x),.bool true])):=by
 have H:=aa hr;have HN:=aa (show n=(eY l).length by rw[rH,hn]);have hn':n<=255:=ae;have HL:Hid ((eY l).length<=255):=aa (by rw[rH];omega);have HA:=aa (MO l);have HX:=aa (show [(x.toNat:Int)].all uf=true from MO [x]);clear hr hn;go_in;go_wp2_with fail;refine (MN (eY l) A n c _ (H.below ((aI _ _).alloc (aM _) _)) HN (bD HL ae)).mono ?_;rintro e w1 ⟨rfl,rfl⟩;rw[HA.out];go_wp2_with fail;refine (MN [(x.toNat:Int)] _ 1 1 _ (by exact jk _ _ _ _ ak) rfl ak).mono ?_;rintro e w1 ⟨rfl,rfl⟩;rw[HX.out];go_wp2_with fail;refine (RU _).mono ?_;rintro e w1 ⟨g,rfl,hF,hg,aG⟩;have wF:eB w1 w.heap.size 3 (cA x):=by
  rw[eB,aG.block _ (by simp;omega)];exact (Below.heap_alloc _ _ _ ak).trans (aR w _)
 have yW:aD w w1:=bg (((aI _ _).alloc (aM _) _).alloc ak _) aG;have ED:=aa wF;have HF:=aa hF;have fR:=aa yW;clear wF hF aG hg yW;go_wp2_with fail;obtain⟨w2,cl⟩: ∃w2,w2=(w1.alloc (.cells #[.pointer (aw g)] 320)).alloc (.cells #[cA 1] 3):=⟨_,rfl⟩
 have WP:aD w1 w2:=by rw[cl];exact ((aI _ _).alloc (aM _) _).alloc ak _
 have sn:=bg fR WP;have Mq:eB w2 w1.heap.size 320 (.pointer (aw g)):=by
  rw[eB,cl];exact (Below.heap_alloc _ _ _ ak).trans (aR w1 _)
 have rx:eB w2 (w1.heap.size+1) 3 (cA 1):=by
  rw[eB,cl];have:=aR (w1.alloc (.cells #[.pointer (aw g)] 320)) (.cells #[cA 1] 3);exact oC
 have Bg:=aJ ED WP;have hF2:=HF.keep WP;have Dv:w1.heap.size+1+1=w2.heap.size:=by rw[cl];simp
 have zL:=bf ED.out;have jy:w.heap.size<=w1.heap.size:=fR.size;have EH:=H.below sn;refine Calls.mono (cl▸aaH (eY l) A n c (.int .i64 0) 270 #[.pointer (some ⟨w1.heap.size,0,none⟩),.pointer (some ⟨w1.heap.size+1,0,none⟩),.pointer (some ⟨w.heap.size,0,none⟩)] w2
  (λk v W=>k<=l.length/\v=cA (oU (l.take k) x)/\eB W (w1.heap.size+1) 3 (cA (pw x k))/\w2.grownBy W (some (w1.heap.size+1))) HN (bD HL ae) (enters_of func270 ax rfl) ⟨ae,by simp[oU],rx,World.grownBy.refl _ _⟩ ?rd ?st) ?fin
 case rd=>
  rintro k v W ⟨_,_,_,hG⟩;exact λi u hu=>by
   obtain⟨b,aS,hA,hc⟩:=H.out i u hu;have Zm:=cU hc;have fi:w2.cell? ⟨b,aS+i,none⟩=some u:=(sn.cell Zm).trans hc;refine⟨b,aS,hA,?_⟩;have aO:b≠w1.heap.size+1:=(by simp only at Zm;omega);have:=hG.block b (by simp only at Zm;omega) (λe=>by injection e;omega);unfold World.cell? at fi⊢;rw[this];exact fi
 case st=>
  rintro k v W hk ⟨cY,rfl,hbox,hG⟩;have vh:k<l.length:=by rw[rH]at hk;exact hk
  have kk: ∀i o,i<w2.heap.size->i≠w1.heap.size+1->w2.heap[i]?=some o->W.heap[i]?=some o:=λi o hi aO ho=>(hG.block i hi (λe=>by injection e;omega)).trans ho;have hFW:lw W g:=by
   obtain⟨L,e1,e2⟩:=hF2;have:g<w1.heap.size:=HF.lt;exact⟨L,kk g _ ae ae e1,e2⟩
  have hfW:eB W w1.heap.size 320 (.pointer (aw g)):=kk _ _ ae ae Mq;have hxW:eB W w.heap.size 3 (cA x):=kk _ _ ae ae Bg;rw[MP l k vh];refine (anB _ (l.getD k 0) (pw x k) x W g _ _ _ hFW hfW hbox hxW).mono ?_;rintro e w' ⟨rfl,ky,hG'⟩;exact⟨_,rfl,ae,by rw[anA l x k vh],ky,F1 hG hG'⟩
 case fin=>
  rintro e w3 ⟨v,rfl,_,rfl,_,hG⟩;rw[rH,List.take_of_length_le (aM _)];rw[<-cl]at hG;have Q8:aD w w3:=sn.trans (gZ hG ae ae);go_wp2;go_ret2;exact⟨rfl,Q8⟩
abbrev Js (l:aF):Value:= .agg (dK l).toArray
theorem aaJ (l:aF) (w:World) (hl:l.length=32):Calls prog 213 #[Js l] w (bF w (.string (bs l))):=by
 obtain⟨dF,lp⟩: ∃dF,dF=(dK l).toArray:=⟨_,rfl⟩
 have il:=DF (w:=w.alloc (.cells (dK l).toArray 270)) (A:=⟨w.heap.size,0,none⟩) (l:=l) (qC w _ _) 32 32 hl.symm;rw[Js,<-lp];go_in;go_wp2;go_ret;exact⟨rfl,(aI _ _).alloc (aM _) _⟩
def pK (f:Nat->UInt8) (l:aF) (k:Nat):aF:=(List.range l.length).map λi=>if i<k then f i else l.getD i 0
theorem anD (f:Nat->UInt8) (l:aF) (k:Nat):(pK f l k).length=l.length:=by simp[pK]
theorem anE (f:Nat->UInt8) (l:aF):pK f l 0=l:=by
 apply List.ext_getElem
 ·simp[pK]
 ·intro j h1 h2;simp[pK,h2]
theorem anF (f:Nat->UInt8) (l:aF) (k:Nat) (h:k<l.length):(pK f l k).getD k 0=l.getD k 0:=by simp[pK,h]
theorem anG (f:Nat->UInt8) (l:aF) (k:Nat) (h:k<l.length):(pK f l k).set k (f k)=pK f l (k+1):=by
 apply List.ext_getElem
 ·simp[pK]
 ·intro j h1 h2;rw[List.getElem_set];simp only[pK,List.getElem_map,List.getElem_range];exact ahD
theorem anH (f:Nat->UInt8) (l:aF):pK f l l.length=(List.range l.length).map f:=by
 apply List.map_congr_left;intro i hi;rw[if_pos (by simpa using hi)]
theorem anI (l m:aF) (h:l.length=m.length):pK (λi=>l.getD i 0^^^m.getD i 0) l l.length=xJ l m:=by
 rw[anH];apply List.ext_getElem
 ·simp[xJ,h]
 ·intro j h1 h2;have hj:j<l.length:=by simpa using h1
  have I0:j<m.length:=ae;simp[xJ,hj,I0]
theorem R4 (s:ag) (k:Nat) (h:k<s.size):s[k]=s.data.toList.getD k 0:=by
 exact U5
theorem R5 (w:World) (o o2:Obj):((w.alloc o).alloc o2).heap[w.heap.size+1]?=some o2:=by
 have:=aR (w.alloc o) o2;exact oC
theorem aaK {l:aF} (h:w.heap[g]?=some (.cells (dK l).toArray t (0,0))) (hi:i<l.length):
  w.cell? ⟨g,i,none⟩=some (.int .u8 ((l.getD i 0).toNat:Int))/\w.frozen? ⟨g,i,none⟩=false:=by
 refine⟨?_,?_⟩
 ·unfold World.cell?;simp only[h];simp[dK,hi]
 ·unfold World.frozen?;simp only[h];simp
theorem aaL {l:aF} (h:w.heap[g]?=some (.cells (dK l).toArray t (0,0))) (i:Nat) (x:UInt8):
  (w.setCell ⟨g,i,none⟩ (.int .u8 (x.toNat:Int))).heap[g]?=some (.cells (dK (l.set i x)).toArray t (0,0)):=by
 rw[bt h];simp[dK]
def zZ:bx:=(dK (List.replicate 32 0)).toArray
theorem R6 (l:aF):(dK l).toArray.all (·.oneCell')=true:=by
 have:=amg l;exact oC
theorem Jt (l:aF) (h:l.length=32):(prog.info? 270).map (·.size)=some (dK l).toArray.size:=by
 rw[List.size_toArray,Jh,h];kernel_rfl
theorem anJ (l:aF) (s:ag) (w:World) (hl:l.length=32) (hs:s.size=32):Calls prog 260 #[Js l,.string s] w (bF w (Js (xJ l s.data.toList))):=by
 obtain⟨dF,lp⟩: ∃dF,dF=(dK l).toArray:=⟨_,rfl⟩
 have Hl:=aa hl;rw[show Js l= .agg dF by rw[lp]];have zj:=aa lp;clear lp;go_in;go_wp2_with fail;go_loopw [5,6] (λ_ i wr=> ∃k:Nat,k<=32/\i= .int .i64 (k:Nat)/\wr.heap[w.heap.size]?=some (.cells (dK (pK (λi=>l.getD i 0^^^s.data.toList.getD i 0) l k)).toArray 270 (0,0))/\bj wr (w.heap.size+1) zZ 270/\aD w wr) (λ_ i _=>32 -(intOf i).toNat);case atStart=>
  refine⟨0,ae,rfl,?_,?_,?_⟩
  ·rw[anE,<-zj.out];exact (Below.heap_alloc _ _ _ ak).trans (aR w _)
  ·exact R5 w _ _
  ·exact ((aI _ _).alloc (aM _) _).alloc ak _
 case round=>
  obtain⟨k,hk,rfl,hB,hZ,hW⟩:=hrel;by_cases aK:k<32
  ·obtain⟨hc,hf⟩:=aaK hB (i:=k) (by rw[anD];omega);rw[anF _ _ _ ae]at hc;have cZ:=aa (show (pK (λi=>l.getD i 0^^^s.data.toList.getD i 0) l k).set k (l.getD k 0^^^s.data.toList.getD k 0)=pK (λi=>l.getD i 0^^^s.data.toList.getD i 0) l (k+1) from anG _ l k ae);have Xe:=aa (R4 s k ae);have HB:=aa hB;have HZ:=aa hZ;have HW:=aa hW;have hks:(k:Int)<(s.size:Int):=ae;have aET:(k:Int)<32:=ae;generalize l.getD k 0=u at hc cZ;clear hB hZ hW;go_wp2_with fail;go_still_tail 8,ax;rw[aaa,Xe.out];change wpList _ _ _ _ _ wr.drew;generalize hv:u^^^s.data.toList.getD k 0=v at cZ⊢;clear hv;go_wp2;go_roundw;case rel=>
    refine⟨k+1,ae,by go_num,?_,?_,(HW.setCell (p:=⟨w.heap.size,k,none⟩) (aM _) _).drew⟩
    ·have h:=aaL HB.out k v;rw[cZ.out]at h;exact h
    ·exact (bz _ _ _ _ (by simp only;omega)).trans HZ.out
   case measure=>exact cM
  ·obtain rfl:k=32:=ae;have pz:(xJ l s.data.toList).length=32:=by rw[xJ,List.length_zipWith,hl,bP,hs];rfl
   have WM:=anI l s.data.toList (by rw[hl,bP,hs]);rw[Hl.out]at WM;rw[WM]at hB;obtain⟨Dd,jh⟩: ∃Dd,Dd=xJ l s.data.toList:=⟨_,rfl⟩
   rw[<-jh]at hB pz;have mU:=aa jh;have db:=aa (Jt Dd pz);have jd:=aa (R6 Dd);have iZ:=aa (show (dK Dd).toArray.size=zZ.size by rw[List.size_toArray,Jh,pz];rfl);have HB:=aa hB;have HZ:=aa hZ;have HW:=aa hW;clear hB hZ hW jh WM pz;obtain⟨ar,YT⟩: ∃ar,ar=(dK Dd).toArray:=⟨_,rfl⟩
   rw[<-YT]at db jd iZ HB;have Har:=aa YT;clear YT;go_wp2_with (first
    |(refine wpList_load_row ah 270 (.tmp 2) ah w.heap.size ah 270 ar (0,0) _ HB.out underlying270 rfl db.out ?_)
    |(refine sF ah 270 (.tmp 4) (.tmp 18) ah (w.heap.size+1) ar ah ah _ 270 (by exact HZ.out) (by exact iZ.out) db.out jd.out ?_))
   intro w4 rf uP;have nP:=aa rf;clear rf;go_wp2_with fail;have rf:=nP.out;have hr:w4.rangeAt (w.heap.size+1) 0 ar.toList:=(by simpa using World.rangeAt_of_block rf 0 ar.size);have hl:=run_loadVar_mid (P:=prog) _ (w.heap.size+1) 0 270 ar.toList _ hr underlying270 rfl (by simpa using db.out);refine bodyPost_ret (vt rfl _ _ (w.heap.size+1) rfl _ hl) rfl ?_;exact⟨by rw[Har.out,mU.out],HW.trans (gZ uP ae HW.size)⟩
def ug (s t:aF) (j m:Nat):aF:=s.getD j 0::(List.range m).map λq=>t.getD (j+32*q) 0
theorem anK (s t:aF) (j m:Nat):(ug s t j m).length=m+1:=by simp[ug]
theorem anL (s t:aF) (j m:Nat):ug s t j (m+1)=ug s t j m++ [t.getD (j+32*m) 0]:=by simp[ug,List.range_succ]
theorem anM (l m:aF):eY (l++m)=eY l++eY m:=by simp[eY]
theorem anN (l m:List Int):ints (l++m)=ints l++ints m:=by simp[ints]
theorem aaM (x:UInt8):wrap64 (x.toNat:Int)=(x.toNat:Int):=by
 have:=x.toNat_lt;exact IntWalk.wrap64_in _ ⟨ae,ae⟩
theorem anO (s t:ag) (j m gs gt:Nat) (w:World) (hs:eB w gs 9 (.string s)) (ht:eB w gt 9 (.string t)) (hj:j<32) (cg:s.size=32) (htz:t.size=32*m) (hm:m<=300):
  Calls prog 211 #[.int .i64 (j:Int),.pointer (aw gs),.pointer (aw gt)] w λe w'=> ∃A c,e= .returned (.slice A (m+1) c)/\w'.ownsRow w.heap.size 3 1 (.slice A (m+1) c) (m+1) (ints (eY (ug s.data.toList t.data.toList j m)))/\aD w w':=by
 have Ht:=aa ht;have cs:=mz hs;have Xe:=aa (R4 s j ae);have Lj:(j:Int)<(s.size:Int):=ae;clear hs ht;go_in;go_wp2_with fail;rw[Xe.out];obtain⟨x,hx⟩: ∃x,x=s.data.toList.getD j 0:=⟨_,rfl⟩
 rw[<-hx,aaM];have Hx:=aa hx;clear hx;have HO0:=aa (ME (w:=w) (B:=w.heap.size) (e:=3) (size:=1) (n:=1) (cs:=(ints (eY [x])).toArray) (aM _) rfl au);go_loopw [5,6] (λv a wr=> ∃(q:Nat) (A:aN) (ai:Nat),q<=m/\a= .int .i64 ((j+32*q:Nat):Int)/\v= .slice A (q+1) ai/\wr.ownsRow w.heap.size 3 1 v (q+1) (ints (eY (ug s.data.toList t.data.toList j q)))/\aD w wr) (λ_ a _=>j+32*m -(intOf a).toNat);case atStart=>exact⟨0,_,_,ae,ak,rfl,by rw[show ug s.data.toList t.data.toList j 0= [x] by rw[Hx.out];rfl];exact HO0.out,(aI _ _).alloc (aM _) _⟩
 case round=>
  obtain⟨q,A,ai,hq,rfl,rfl,ho,hb⟩:=hrel;have ct:=mz (aJ Ht hb);obtain⟨T,hT⟩: ∃T,T=j+32*q:=⟨_,rfl⟩
  rw[<-hT];by_cases aK:q<m
  ·have hTl:T<t.size:=ae;have hTi:(T:Int)<(t.size:Int):=ae;have Ws:T<=100000:=ae;have YB:=aa (R4 t T hTl);have HO:=aa ho;have HT:=aa hT;clear ho hT;go_wp2_with (refine oS ah (.tmp 19) (.tmp 24) 55 ah w.heap.size 3 (.int .i64 0) 1 8 underlying55 rD rfl ae wr _ _ _ _ _ ah HO _ 1 1 ah ah ah ah ae ae ae (by exact hb.size) ?_);intro g2 eM w2 dy av _ _ _;rw[YB.out,aaM]at dy;have dl:=aa dy;clear dy;go_wp2;go_roundw;case rel=>
    refine⟨q+1,_,eM,ae,by have:=HT.out;go_num,rfl,?_,hb.trans av⟩;have:=dl.out;rw[HT.out]at this;rw[anL,anM,anN];exact this
   case measure=>have:=HT.out;simp[intOf];omega
  ·obtain rfl:q=m:=ae;have HO:=aa ho;clear ho;go_wp2;go_ret;exact⟨A,ai,rfl,HO,hb⟩
def nS (F:Nat->Nat->UInt8) (n j i:Nat):aF:=(List.range (n*32)).map λp=>if p % 32<j\/(p % 32=j/\p / 32<i) then F (p / 32) (p % 32) else 0
theorem anP (F:Nat->Nat->UInt8) (n j i:Nat):(nS F n j i).length=n*32:=by simp[nS]
theorem anQ (F:Nat->Nat->UInt8) (n:Nat):nS F n 0 0=List.replicate (n*32) 0:=by
 apply List.ext_getElem
 ·simp[nS]
 ·intro p h1 h2;simp[nS]
theorem anR (F:Nat->Nat->UInt8) (n j i:Nat) (hj:j<32) (hi:i<n):(nS F n j i).set (i*32+j) (F i j)=nS F n j (i+1):=by
 apply List.ext_getElem
 ·simp[nS]
 ·intro p h1 h2;rw[List.getElem_set];simp only[nS,List.getElem_map,List.getElem_range];by_cases e:i*32+j=p
  ·subst e;rw[if_pos rfl,if_pos ae];congr 1<;>omega
  ·rw[if_neg e];by_cases e2:p % 32<j\/(p % 32=j/\p / 32<i)
   ·rw[if_pos e2,if_pos ae]
   ·rw[if_neg e2,if_neg ae]
theorem anS (F:Nat->Nat->UInt8) (n j:Nat):nS F n j n=nS F n (j+1) 0:=by
 apply List.map_congr_left;intro p hp;rw[List.mem_range]at hp;by_cases e:p % 32<j+1
 ·rw[if_pos ae,if_pos ae]
 ·rw[if_neg ae,if_neg ae]
theorem anT (F:Nat->Nat->UInt8) (n i:Nat) (hi:i<n):((nS F n 32 0).drop (i*32)).take 32=(List.range 32).map (F i):=by
 apply List.ext_getElem
 ·simp[nS];omega
 ·intro p h1 h2;have hp:p<32:=by simpa using h2
  simp only[nS,List.getElem_take,List.getElem_drop,List.getElem_map,List.getElem_range];rw[if_pos ae];congr 1<;>omega
abbrev bZ:=Int×ByteArray
def BO (p:bZ):bJ:= [.int .i64 p.1,.string p.2]
def dq (l:List bZ):bJ:=l.flatMap BO
theorem aaN (p:bZ) (l:List bZ):dq (p::l)=BO p++dq l:=rfl
theorem Ju (l:List bZ):(dq l).length=l.length*2:=by
 induction l with
 |nil=>rfl
 |cons a l ih=>rw[dq,List.flatMap_cons,dx,<-dq,ih,List.length_cons];simp[BO];omega
theorem anU (l:List bZ) (i:Nat) (p:bZ) (h:l[i]?=some p):(dq l)[i*2]?=some (.int .i64 p.1)/\(dq l)[i*2+1]?=some (.string p.2):=by
 induction l generalizing i with
 |nil=>simp at h
 |cons a l ih=>
  cases i with
  |zero=>
   simp at h;subst h;exact⟨rfl,rfl⟩
  |succ i=>
   have:=ih i (by simpa using h);rw[dq,List.flatMap_cons,<-dq];have e:(BO a).length=2:=rfl;exact U9
theorem anV (l:List bZ) (i:Nat) (p:bZ) (h:i<l.length):((dq l).set (i*2) (.int .i64 p.1)).set (i*2+1) (.string p.2)=dq (l.set i p):=by
 induction l generalizing i with
 |nil=>simp at h
 |cons a l ih=>
  cases i with
  |zero=>rfl
  |succ i=>
   have:=ih i (by simpa using h);rw[List.set_cons_succ,aaN,aaN,<-this];have e:(BO a).length=2:=rfl;rw[List.set_append_right _ _ ae,List.set_append_right _ _ ae,e,show (i+1)*2 - 2=i*2 by omega,show (i+1)*2+1 - 2=i*2+1 by omega]
def BP (s t:aF) (m i j:Nat):UInt8:=oU (ug s t j m) (UInt8.ofNat (i+1))
def lx (s t:aF) (m i:Nat):aF:=(List.range 32).map (BP s t m i)
def rI (s t:aF) (n m:Nat):List bZ:=(List.range n).map λi=>(((i+1:Nat):Int),bs (lx s t m i))
def rJ (s t:aF) (n m i:Nat):List bZ:=(List.range n).map λq=>if q<i then (((q+1:Nat):Int),bs (lx s t m q)) else (0,⟨#[]⟩)
theorem anW (s t:aF) (n m:Nat):rJ s t n m n=rI s t n m:=by
 apply List.map_congr_left;intro q hq;rw[if_pos (by simpa using hq)]
theorem anX (s t:aF) (n m i:Nat):(rJ s t n m i).length=n:=by simp[rJ]
theorem anY (s t:aF) (n m i:Nat) (hi:i<n):(rJ s t n m i).set i (((i+1:Nat):Int),bs (lx s t m i))=rJ s t n m (i+1):=by
 apply List.ext_getElem
 ·simp[rJ]
 ·intro j h1 h2;rw[List.getElem_set];simp only[rJ,List.getElem_map,List.getElem_range];exact OD
theorem anZ:(prog.info? 270).map (λi=>(i.zero,i.size,i.bytes))=some (some (.agg zZ),32,32):=ax
theorem MQ:(prog.info? 101).map (λi=>(i.zero,i.size,i.bytes))=some (some (.agg #[.int .i64 0,.string ⟨#[]⟩]),2,24):=ax
theorem an0 (n:Nat):(madeCells zZ (n*32)).toList=dK (List.replicate (n*32) 0):=by
 apply List.ext_getElem
 ·simp[madeCells,dK]
 ·intro p h1 h2;have hz:zZ=Array.replicate 32 (.int .u8 0):=ah;have hp:p % 32<32:=Nat.mod_lt _ ae;simp[madeCells,dK,hp,hz]
theorem an1 (n:Nat):(madeCells #[.int .i64 0,.string ⟨#[]⟩] (n*2)).toList=dq (List.replicate n (0,⟨#[]⟩)):=by
 induction n with
 |zero=>simp[madeCells,dq]
 |succ n ih=>
  rw[List.replicate_succ',dq,List.flatMap_append,<-dq,<-ih,Nat.succ_mul];simp[madeCells,Array.range_succ,BO,show (n*2+1)% 2=1 by omega]
theorem Jv {size:Nat} (h:w.ownsRow B e size (.slice (aw g) n n) n xs):w.heap[g]?=some (.cells xs.toArray e (0,0))/\B<=g:=by
 rcases h.2 with⟨hv,_⟩|⟨g1,ai,bK,hv,hB,hg,_,_,hc,ht⟩
 ·cases hv
 ·injection hv with h1 h2 h3
  injection h1 with h1
  injection h1 with h1
  subst h1 h3;rw[List.take_of_length_le (by simp[hc])]at ht;refine⟨?_,hB⟩;rw[hg,<-ht]
theorem R7 {size:Nat} (h:w.heap[g]?=some (.cells xs.toArray e (0,0))) (hB:B<=g) (hl:xs.length=n*size) (hn:n<=1000000):w.ownsRow B e size (.slice (aw g) n n) n xs:=
 ⟨hl,.inr ⟨g,n,xs.toArray,rfl,hB,h,aM _,by unfold maxLen;omega,by simpa using hl,by rw[<-hl];simp⟩⟩
theorem F2 (h:w.grownBy w' none) (hB:B<=w.heap.size):Below B w w':=⟨h.os,h.tape,h.output,h.size,λk hk=>h.block k ae ak⟩
theorem an2 {size:Nat} {v:Value} (h:w.ownsRow B e size v n xs) (p:Addr) (u:Value) (hp:p.block<B):(w.setCell p u).ownsRow B e size v n xs:=by
 refine⟨h.1,?_⟩;rcases h.2 with h|⟨g,ai,bK,hv,hB,hg,hr⟩
 ·exact .inl h
 ·exact .inr ⟨g,ai,bK,hv,hB,(bz _ _ _ _ ae).trans hg,hr⟩
theorem aaO (h:w.heap[g]?=some (.cells cs t (0,0))) (i:Nat) (hi:i<cs.size):w.cell? ⟨g,i,none⟩=some cs[i]/\w.frozen? ⟨g,i,none⟩=false:=by
 refine⟨?_,?_⟩
 ·unfold World.cell?;simp[h,hi]
 ·unfold World.frozen?;simp[h]
theorem aaP (s t:ag) (n m:Nat) (w:World) (hs:s.size=32) (ht:t.size=32*m) (hn:n<=255) (hm:m+1<=n):
  Calls prog 125 #[.string s,.int .i64 (n:Int),.int .i64 ((m+1:Nat):Int),.string t] w λe w'=> ∃g,e= .returned (.tuple #[.slice (aw g) n n,.int .i64 0])/\w'.ownsRow w.heap.size 101 2 (.slice (aw g) n n) n (dq (rI s.data.toList t.data.toList n m))/\aD w w':=by
 obtain⟨k,hk⟩: ∃k,k=m+1:=⟨_,rfl⟩
 rw[<-hk];have d1:decide ((n:Int)<1)=false:=by simp;omega
 have d2:decide ((255:Int)<(n:Int))=false:=by simp;omega
 have d3:decide ((k:Int)<1)=false:=by simp;omega
 have CE: ¬(n:Int)<(k:Int):=ae;have Hs:=aa hs;have Ht:=aa ht;have e1:((s.size:Int) !=32)=false:=by simp;omega
 have e2:((t.size:Int) !=32*((k:Int)- 1))=false:=by simp;omega
 have Hm:=aa hk;have fC:k<=255:=ae;obtain⟨iL,hL0,Pj,yU,QO⟩:=info_parts anZ;obtain⟨iS,jj,tH,tA,it⟩:=info_parts MQ;clear hs ht hk;go_in;go_wp2_with (refine wpList_make_full _ ah (.tmp 49) (.tmp 49) 267 ah w.heap.size 270 iL (.agg zZ) 32 underlying267 hL0 Pj yU .i64 .i64 _ _ n ah ah rfl rfl (by rw[QO];omega) (by unfold maxLen;omega) (by simp;omega) ?_);intro w2 dy fE;clear d1 d2 d3 e1 e2 CE;rw[an0]at dy;have lQ:=Jv dy;have sn:aD w w2:=(((aI _ _).alloc (aM _) _).alloc ak _).trans (F2 fE (by simp;omega));have wH:eB w2 w.heap.size 9 (.string s):=(fE.block _ (by simp;omega) ak).trans ((Below.heap_alloc _ _ _ ak).trans (aR w _));have hbt:eB w2 (w.heap.size+1) 9 (.string t):=(fE.block _ ak ak).trans (R5 w _ _);obtain⟨G,hG⟩: ∃G,G=w.heap.size+1+1:=⟨_,rfl⟩
 rw[<-hG]at lQ⊢;have BD:w.heap.size<=G:=lQ.2;have Xi:w.heap.size≠G:=ae;have hGt:w.heap.size+1≠G:=ae;have jI:=aa lQ.1;rw[<-anQ (BP s.data.toList t.data.toList m) n]at jI;have dV:=aa sn;have uN:=aa wH;have Hbt:=aa hbt;clear dy fE lQ sn wH hbt hG;go_wp2_with fail;go_loopw [51] (λx wr=> ∃j:Nat,j<=32/\x= .int .i64 (j:Nat)/\wr.heap[G]?=some (.cells (dK (nS (BP s.data.toList t.data.toList m) n j 0)).toArray 270 (0,0))/\eB wr w.heap.size 9 (.string s)/\eB wr (w.heap.size+1) 9 (.string t)/\aD w wr) (λx _=>32 -(intOf x).toNat);case atStart=>exact⟨0,ae,rfl,jI,uN,Hbt,dV⟩
 case round=>
  obtain⟨j,hj,rfl,hL,hS,hT,hW⟩:=hrel;have HL:=aa hL;have HS:=aa hS;have HT:=aa hT;have HW:=aa hW;clear hL hS hT hW;by_cases aK:j<32
  ·go_wp2_with fail;refine (anO s t j m _ _ _ HS HT aK Hs Ht ae).mono ?_;rintro e w3 ⟨A,c,rfl,dw,aL⟩;have HL3:=aa (aJ HL aL);have ql:=aa (aJ HS aL);have tv:=aa (aJ HT aL);have iK:=aa (bg HW aL);rw[<-Hm.out]at dw⊢;have qn:=aa dw;have VH:=aa (show k=(ug s.data.toList t.data.toList j m).length by rw[anK,Hm.out]);have HGl:=aa (bf HL);generalize wr.heap.size=B3 at qn HGl;clear dw aL;have Hcf:=aa (show∀i,BP s.data.toList t.data.toList m i j=oU (ug s.data.toList t.data.toList j m) (UInt8.ofNat (i+1)) from λ_=>rfl);generalize ug s.data.toList t.data.toList j m=Ps at qn VH Hcf;have hjI:(j:Int)<32:=ae;go_wp2_with fail;go_loopw [59] (λx wi=> ∃i:Nat,i<=n/\x= .int .i64 (i:Nat)/\wi.heap[G]?=some (.cells (dK (nS (BP s.data.toList t.data.toList m) n j i)).toArray 270 (0,0))/\wi.ownsRow B3 3 1 (.slice A k c) k (ints (eY Ps))/\eB wi w.heap.size 9 (.string s)/\eB wi (w.heap.size+1) 9 (.string t)/\aD w wi) (λx _=>n -(intOf x).toNat);case atStart=>exact⟨0,ae,rfl,HL3,qn,ql,tv,iK⟩
   case round=>
    obtain⟨i,hi,rfl,hL,hR,hS,hT,hW⟩:=hrel;have IN:=aa hL;have HRi:=aa hR;have y8:=aa hS;have HTi:=aa hT;have mQ:=aa hW;clear hL hR hS hT hW;by_cases iU:i<n
    ·have hx:(i:Int)+1=((UInt8.ofNat (i+1)).toNat:Int):=by
      rw[UInt8.toNat_ofNat'];omega
     have cZ:=aa (anR (BP s.data.toList t.data.toList m) n j i aK iU);rw[Hcf.out]at cZ;have Hx:=aa hx;clear hx;generalize UInt8.ofNat (i+1)=xi at Hx cZ;go_wp2_with fail;rw[Hx.out];refine (anC Ps xi A k c _ (gz HRi) VH (by rw[<-VH.out];omega)).mono ?_;rintro e w5 ⟨rfl,aY⟩;have CO:=aJ IN aY;obtain⟨Fk,hf5⟩:=aaK CO (i:=i*32+j) (by rw[anP];omega);have Ip:=aa (aaL CO (i*32+j) (oU Ps xi));rw[cZ.out]at Ip;clear CO;generalize oU Ps xi=y at Ip⊢;have X8:=aa (an2 (eO HRi aY) ⟨G,i*32+j,none⟩ (.int .u8 (y.toNat:Int)) HGl);have jK:=aa ((bz _ ⟨G,i*32+j,none⟩ (.int .u8 (y.toNat:Int)) w.heap.size Xi).trans (aJ y8 aY));have Pp:=aa ((bz _ ⟨G,i*32+j,none⟩ (.int .u8 (y.toNat:Int)) (w.heap.size+1) hGt).trans (aJ HTi aY));have qd:=aa ((bg mQ aY).setCell (p:=⟨G,i*32+j,none⟩) BD (.int .u8 (y.toNat:Int)));have hy:=y.toNat_lt;clear aY;go_wp2;go_roundw;case rel=>exact⟨i+1,ae,by go_num,Ip,X8,jK,Pp,qd⟩
     case measure=>exact cM
    ·obtain rfl:i=n:=ae;rw[anS]at IN;go_wp2;go_roundw;case rel=>exact⟨j+1,ae,by go_num,IN,y8,HTi,mQ⟩
     case measure=>exact cM
  ·obtain rfl:j=32:=ae;have ahZ:=bf HL.out;go_wp2_with (refine wpList_make_full _ ah (.tmp 78) (.tmp 78) 65 ah w.heap.size 101 iS (.agg #[.int .i64 0,.string ⟨#[]⟩]) 2 underlying65 jj tH tA .i64 .i64 _ _ n ah ah rfl rfl (by rw[it];omega) (by unfold maxLen;omega) (by exact HW.size) ?_);intro w6 AY yO;rw[an1]at AY;have Ri:=Jv AY;have XE:=aa (HW.trans (F2 yO HW.size));have Xp:=aa ((yO.block _ ahZ ak).trans HL);obtain⟨G2,fp⟩: ∃G2,G2=wr.heap.size:=⟨_,rfl⟩
   rw[<-fp]at Ri⊢;have Zo:w.heap.size<=G2:=Ri.2;have ajE:G≠G2:=ae;have oD:=aa Ri.1;rw[show List.replicate n ((0:Int),(⟨#[]⟩:ag))=rJ s.data.toList t.data.toList n m 0 by simp[rJ,List.map_const']]at oD;clear AY yO Ri HS HW HL ahZ fp;go_wp2_with fail;go_loopw [82] (λx wi=> ∃i:Nat,i<=n/\x= .int .i64 (i:Nat)/\wi.heap[G]?=some (.cells (dK (nS (BP s.data.toList t.data.toList m) n 32 0)).toArray 270 (0,0))/\wi.heap[G2]?=some (.cells (dq (rJ s.data.toList t.data.toList n m i)).toArray 101 (0,0))/\aD w wi) (λx _=>n -(intOf x).toNat);case atStart=>exact⟨0,ae,rfl,Xp,oD,XE⟩
   case round=>
    obtain⟨i,hi,rfl,hL,hS,hW⟩:=hrel;by_cases iU:i<n
    ·have bH:wr.rangeAt G (i*32) (dK (lx s.data.toList t.data.toList m i)):=by
      have:=World.rangeAt_of_block hL (i*32) 32;rw[show ((dK (nS (BP s.data.toList t.data.toList m) n 32 0)).toArray.extract (i*32) (i*32+32)).toList=dK (lx s.data.toList t.data.toList m i) by
       rw[lx,<-anT _ n i iU];simp[dK,List.map_take,List.map_drop]]at this
      exact this
     have mm:=aa bH;have cZ:=aa (anY s.data.toList t.data.toList n m i iU);have mp:(lx s.data.toList t.data.toList m i).length=32:=(by simp[lx]);generalize lx s.data.toList t.data.toList m i=sl at mm cZ mp;have HL:=aa hL;have HS:=aa hS;have HW:=aa hW;have db:=aa (Jt sl mp);have jd:=aa (R6 sl);have iZ:=aa (show (dK sl).toArray.size=zZ.size by rw[List.size_toArray,Jh,mp];rfl);have WV:=aa mp;have zh:=aa (anX s.data.toList t.data.toList n m i);clear bH mp hL hS hW;go_wp2_with (first
      |(refine wpList_load_mid ah 270 (.tmp 85) ah G (i*32) ah (dK sl) _ (by exact mm.out) underlying270 rfl (by have:=db.out;rw[List.size_toArray]at this;exact this) ?_)
      |(refine sF ah 270 (.tmp 19) (.tmp 86) ah wr.heap.size (dK sl).toArray ah ah zZ 270 (by exact aR wr _) (by exact iZ.out) db jd ?_))
     intro w7 hR7 qx;have LO:=aa hR7;have hW7:aD w w7:=(HW.alloc HW.size _).trans (gZ qx HW.size (by have:=HW.size;simp;omega));have Ij:=aa ((qx.block G (by simp;have:=bf HL.out;omega) (λe=>by injection e with e;have:=bf HL.out;omega)).trans ((Below.heap_alloc _ _ _ (bf HL)).trans HL));have YC:=aa ((qx.block G2 (by simp;have:=bf HS.out;omega) (λe=>by injection e with e;have:=bf HS.out;omega)).trans ((Below.heap_alloc _ _ _ (bf HS)).trans HS));have HW7:=aa hW7;clear hR7 qx hW7;go_wp2_with (refine wpList_load_row ah 270 (.tmp 19) ah wr.heap.size ah 270 (dK sl).toArray (0,0) _ LO underlying270 rfl db ?_);refine (aaJ sl _ WV).mono ?_;rintro e w8 ⟨rfl,cG⟩;have HL8:=aJ Ij cG;have Pc:=aJ YC cG;have HW8:=bg HW7 cG;obtain⟨c1,f1⟩:=aaO Pc (i*2) (by rw[List.size_toArray,Ju,zh.out];omega);obtain⟨c2,f2⟩:=aaO Pc (i*2+1) (by rw[List.size_toArray,Ju,zh.out];omega);have bn:=bt (bt Pc (i*2) (.int .i64 ((i+1:Nat):Int))) (i*2+1) (.string (bs sl));rw[show (((dq (rJ s.data.toList t.data.toList n m i)).toArray.setIfInBounds (i*2) (.int .i64 ((i+1:Nat):Int))).setIfInBounds (i*2+1) (.string (bs sl)))=(dq (rJ s.data.toList t.data.toList n m (i+1))).toArray by
      rw[<-cZ.out,<-anV _ _ _ (by rw[zh.out];exact iU)];simp]at bn
     have Ba:=aa bn;clear bn Pc;generalize (dq (rJ s.data.toList t.data.toList n m i)).toArray[i*2]'(by rw[List.size_toArray,Ju,zh.out];omega)=v1 at c1;generalize (dq (rJ s.data.toList t.data.toList n m i)).toArray[i*2+1]'(by rw[List.size_toArray,Ju,zh.out];omega)=v2 at c2;have HL9:=aa ((bz (w8.setCell ⟨G2,i*2,none⟩ (.int .i64 ((i+1:Nat):Int))) ⟨G2,i*2+1,none⟩ (.string (bs sl)) G ajE).trans ((bz w8 ⟨G2,i*2,none⟩ (.int .i64 ((i+1:Nat):Int)) G ajE).trans HL8));have HW9:=aa ((HW8.setCell (p:=⟨G2,i*2,none⟩) Zo (.int .i64 ((i+1:Nat):Int))).setCell (p:=⟨G2,i*2+1,none⟩) Zo (.string (bs sl)));rw[show ((i+1:Nat):Int)=(i:Int)+1 by omega]at Ba HL9 HW9;clear HL8 HW8 cG;go_wp2;go_roundw;case rel=>exact⟨i+1,ae,by go_num,HL9,Ba,HW9⟩
     case measure=>exact cM
    ·obtain rfl:i=n:=ae;rw[anW]at hS;have HO:=aa (R7 hS Zo (show (dq (rI s.data.toList t.data.toList i m)).length=i*2 by rw[Ju];simp[rI]) ae);have HW:=aa hW;clear hL hS hW;go_wp2;go_ret2;exact⟨G2,rfl,HO,HW⟩
def pL (s t:ag) (n k:Int):Bool:=decide (s.size=32)&&decide (1<=n)&&decide (n<=255)&&decide (1<=k)&&decide (k<=n)&&decide ((t.size:Int)=32*(k - 1))
theorem G4 (h:P:=by
 go_in;go_wp2;go_ret2;exact⟨rfl,hW⟩):P:=h
theorem an3 (s t:ag) (n k:Int) (w:World) (h:pL s t n k=false):
  Calls prog 125 #[.string s,.int .i64 n,.int .i64 k,.string t] w (bF w (.tuple #[ay,.int .i64 1])):=by
 have hW:=(be w (.cells #[.string s] 9)).alloc ak (.cells #[.string t] 9);by_cases h1:s.size=32
 ·have e1:((s.size:Int) !=32)=false:=by simp;omega
  by_cases h2:n<1
  ·have e2:decide (n<1)=true:=by simp;omega
   exact G4
  ·have e2:decide (n<1)=false:=by simp;omega
   by_cases h3:255<n
   ·have e3:decide (255<n)=true:=(by simp;omega);exact G4
   ·have e3:decide (255<n)=false:=(by simp;omega);by_cases h4:k<1
    ·have e4:decide (k<1)=true:=(by simp;omega);exact G4
    ·have e4:decide (k<1)=false:=(by simp;omega);by_cases h5:n<k
     ·have e5:decide (n<k)=true:=(by simp;omega);exact G4
     ·have e5:decide (n<k)=false:=(by simp;omega);have e6:((t.size:Int) !=32*(k - 1))=true:=by
       rw[bne_iff_ne];intro e;have:pL s t n k=true:=(by simp[pL];omega);rw[h]at this;cases this
      exact G4
 ·have e1:((s.size:Int) !=32)=true:=by simp;omega
  exact G4
def sJ (gY:Int) (p:bZ):Bool:=decide (gY<=p.1)&&decide (p.1<=255)&&decide (p.2.size=32)
def jB (l:List bZ) (gY:Int):Bool:=decide (1<=l.length)&&decide (l.length<=255)&&l.all (sJ gY)&&decide ((l.map Prod.fst).Nodup)
theorem Rd.shr {A:aN} {l:List bZ} (h:Rd w A (dq l)) (hi:i<l.length):
  ∃b aS,A=some ⟨b,aS,none⟩/\w.cell? ⟨b,aS+i*2,none⟩=some (.int .i64 l[i].1)/\w.cell? ⟨b,aS+i*2+1,none⟩=some (.string l[i].2):=by
 obtain⟨h1,h2⟩:=anU l i l[i] (cL hi);obtain⟨b,aS,hA,c1⟩:=h _ _ h1;obtain⟨b',ve,fV,c2⟩:=h _ _ h2;rw[hA]at fV;injection fV with e
 injection e with e1 e2
 subst e1 e2;exact⟨b,aS,hA,c1,by rw[Nat.add_assoc];exact c2⟩
theorem aaQ (l:List bZ) (gY:Int) (i:Nat) (hi:i<l.length) (h:sJ gY l[i]=false):jB l gY=false:=by
 have:l.all (sJ gY)=false:=List.all_eq_false.2 ⟨l[i],dY hi,by simp[h]⟩;simp[jB,this]
theorem an4 (l:List bZ) (gY:Int) (i:Nat) (hi:i<l.length) (h:l[i].1∈(l.take i).map Prod.fst):jB l gY=false:=by
 have: ¬(l.map Prod.fst).Nodup:=by
  intro hn;rw[<-List.take_append_drop i l,List.map_append,List.nodup_append]at hn;exact hn.2.2 _ h l[i].1 (List.mem_map.2 ⟨l[i],(List.drop_eq_getElem_cons hi).symm▸Vs,rfl⟩) rfl
 simp[jB,this]
theorem an5 (l:List bZ) (gY:Int) (i:Nat) (hi:i<l.length) (ha:(l.take i).all (sJ gY)=true) (hn:((l.take i).map Prod.fst).Nodup) (h:sJ gY l[i]=true) (h2:l[i].1∉(l.take i).map Prod.fst):
  (l.take (i+1)).all (sJ gY)=true/\((l.take (i+1)).map Prod.fst).Nodup:=by
 rw[List.take_succ_eq_append_getElem hi];refine⟨by rw[List.all_append,ha];simp[h],?_⟩;rw[List.map_append,List.nodup_append];refine⟨hn,ak,λa EV b hb=>?_⟩;simp at hb;subst hb;intro e;exact h2 (e▸EV)
theorem an6 {l:List bZ} {y:Nat} (hi:i<l.length) (hx:l[i].1=(y:Int)) (h:w.rowIs g t 256 (λx=> .bool (decide ((x:Int)∈(l.take i).map Prod.fst)))):
  (w.setCell ⟨g,y,none⟩ (.bool true)).rowIs g t 256 (λx=> .bool (decide ((x:Int)∈(l.take (i+1)).map Prod.fst))):=by
 refine (h.set y (.bool true)).congr λj hj=>?_;rw[List.take_succ_eq_append_getElem hi,List.map_append];by_cases e:j=y
 ·subst e;simp[hx]
 ·rw[if_neg e];congr 2;simp only[List.mem_append,List.map_cons,List.map_nil,List.mem_singleton,hx];simp;omega
theorem Vh (h:P:=by
 go_wp2_with fail;try rw[Exit.noGoto_ret]
 go_ret;exact⟨by rw[Hf.out];rfl,HW.alloc HW.size _⟩):P:=h
theorem ag0 (h:P:=by
 have Hf:=aa (aaQ l gY i bB (by rw[<-Hp.out];simp[sJ];omega));exact Vh):P:=h
theorem R8 (l:List bZ) (gY:Int) (A:aN) (n c:Nat) (w:World) (hr:Rd w A (dq l)) (hn:n=l.length) (h0:0<=gY):
  Calls prog 183 #[.slice A n c,.int .i64 gY] w (bF w (.bool (jB l gY))):=by
 by_cases fL:n=0
 ·have Hf:=aa (show jB l gY=false by simp[jB];omega);clear hr hn;subst fL;go_in;go_wp2;go_ret;exact⟨by rw[Hf.out];rfl,aI _ _⟩
 by_cases su:255<n
 ·have Hf:=aa (show jB l gY=false by simp[jB];omega);clear hr hn;have d1:decide ((n:Int)<1)=false:=by simp;omega
  have d2:decide (255<(n:Int))=true:=by simp;omega
  go_in;go_wp2;go_ret;exact⟨by rw[Hf.out];rfl,aI _ _⟩
 have HR:=aa hr;have HN:=aa hn;have d1:decide ((n:Int)<1)=false:=by simp;omega
 have d2:decide (255<(n:Int))=false:=by simp;omega
 clear hr hn;go_in;go_wp2_with fail;go_loopw [18] (λx wr=> ∃i:Nat,i<=n/\x= .int .i64 (i:Nat)/\(l.take i).all (sJ gY)=true/\((l.take i).map Prod.fst).Nodup/\wr.rowIs w.heap.size 317 256 (λx=> .bool (decide ((x:Int)∈(l.take i).map Prod.fst)))/\aD w wr) (λx _=>n -(intOf x).toNat);case atStart=>
  refine⟨0,ae,rfl,rfl,ak,⟨_,aR w _,rfl,λi hi=>?_⟩,(aI _ _).alloc (aM _) _⟩;have hz: ∀(c:bx),c=Array.replicate 256 (.bool false)->c[i]?=some (.bool (decide ((i:Int)∈(l.take 0).map Prod.fst))):=λc hc=>by
   rw[hc];simp[hi]
  exact hz _ rfl
 case round=>
  obtain⟨i,hi,rfl,mr,ln,bH,hW⟩:=hrel;by_cases aK:i<n
  ·have bB:i<l.length:=by rw[<-HN.out];exact aK
   obtain⟨b,aS,hA,c1,c2⟩:=(HR.below hW).shr bB;subst hA;have ke:=aa mr;have VP:=aa ln;have mm:=aa bH;have HW:=aa hW;obtain⟨p,hp⟩: ∃p,p=l[i]:=⟨_,rfl⟩
   rw[<-hp]at c1 c2;have Hp:=aa hp;clear mr ln bH hW hp;obtain⟨x,bb⟩:=p;simp only at c1 c2;have QA:=mm.lt;by_cases k1:x<gY
   ·have d3:decide (x<gY)=true:=(by simp;omega);exact ag0
   have d3:decide (x<gY)=false:=(by simp;omega);by_cases k2:255<x
   ·have d4:decide (255<x)=true:=(by simp;omega);exact ag0
   have d4:decide (255<x)=false:=(by simp;omega);obtain⟨y,rfl⟩: ∃y:Nat,x=(y:Int):=⟨x.toNat,ae⟩
   have hy:(y:Int)<256:=ae;have cy:=mm.cell (i:=y) ae;have fy:=mm.frozen y;by_cases k3:(y:Int)∈(l.take i).map Prod.fst
   ·have Hf:=aa (an4 l gY i bB (by rw[<-Hp.out];exact k3));rw[decide_eq_true k3]at cy;clear k3;exact Vh
   rw[decide_eq_false k3]at cy;have K3:=aa k3;clear k3;by_cases k4:bb.size=32
   ·have d5:((bb.size:Int) !=32)=false:=(by simp;omega);obtain⟨s1,s2⟩:=an5 l gY i bB ke VP (by rw[<-Hp.out];simp[sJ,k4];omega) (by rw[<-Hp.out];exact K3.out);have S1:=aa s1;have S2:=aa s2;clear s1 s2 k4;go_wp2;go_roundw;case rel=>exact⟨i+1,ae,by go_num,S1,S2,(an6 bB (by rw[<-Hp.out]) mm).alloc _,(HW.setCell (p:=⟨w.heap.size,y,none⟩) (aM _) _).alloc (by simpa using HW.size) _⟩
    case measure=>exact cM
   ·have d5:((bb.size:Int) !=32)=true:=(by simp;omega);have Hf:=aa (aaQ l gY i bB (by rw[<-Hp.out];simp[sJ,k4]));clear k4;exact Vh
  ·obtain rfl:i=n:=ae;have bB:i=l.length:=HN.out;rw[bB,List.take_of_length_le (aM _)]at mr ln;have Hf:=aa (show jB l gY=true by simp only[jB,mr,ln];simp;omega);have HW:=aa hW;clear mr ln bH hW bB;exact AP
def vw (l:List bZ) (i:Nat):List Int:=((l.take i).map Prod.fst)++List.replicate (l.length - i) 0
theorem an7 (l:List bZ) (i:Nat) (hi:i<=l.length):(vw l i).length=l.length:=by simp[vw];omega
theorem an8 (l:List bZ) (i:Nat) (hi:i<l.length):(vw l i).set i l[i].1=vw l (i+1):=by
 have h1:((l.take i).map Prod.fst).length=i:=by simp;omega
 rw[vw,List.set_append_right _ _ ae,h1,Nat.sub_self,show l.length - i=(l.length -(i+1))+1 by omega,List.replicate_succ,List.set_cons_zero,vw,List.take_succ_eq_append_getElem hi,List.map_append,List.append_assoc];rfl
theorem aaR (n:Nat):(madeCells #[.int .i64 0] n).toList=ints (List.replicate n 0):=by
 apply List.ext_getElem
 ·simp[madeCells,ints]
 ·intro p h1 h2;simp[madeCells,ints,Nat.mod_one]
theorem an9 (l:List bZ) (A:aN) (n c:Nat) (w:World) (hr:Rd w A (dq l)) (hn:n=l.length) (hl:l.length<=255):
  Calls prog 257 #[.slice A n c] w λe w'=> ∃g,e= .returned (.slice (aw g) n n)/\w'.ownsRow w.heap.size 3 1 (.slice (aw g) n n) n (ints (l.map Prod.fst))/\aD w w':=by
 have HR:=aa hr;have HN:=aa hn;have su:n<=255:=ae;obtain⟨iI,YS,ZA,Xv,XM⟩:=info_parts rD;clear hr hn;go_in;go_wp2_with (refine wpList_make_full _ ah (.tmp 7) (.tmp 7) 55 ah w.heap.size 3 iI (.int .i64 0) 1 underlying55 YS ZA Xv .i64 .i64 _ _ n ah ah rfl rfl (by rw[XM];omega) (by unfold maxLen;omega) ae ?_);intro w2 dy fE;try simp only[Nat.mul_one]at dy
 rw[aaR]at dy;have lQ:=Jv dy;rw[show List.replicate n (0:Int)=vw l 0 by simp[vw,HN.out]]at lQ;have jI:=aa lQ.1;have dV:=aa (F2 fE (aM _));clear dy fE lQ;go_wp2_with fail;go_loopw [11] (λx wr=> ∃i:Nat,i<=n/\x= .int .i64 (i:Nat)/\wr.heap[w.heap.size]?=some (.cells (ints (vw l i)).toArray 3 (0,0))/\aD w wr) (λx _=>n -(intOf x).toNat);case atStart=>exact⟨0,ae,rfl,jI,dV⟩
 case round=>
  clear jI;obtain⟨i,hi,rfl,hL,hW⟩:=hrel;have QA:=bf hL;by_cases aK:i<n
  ·have bB:i<l.length:=by rw[<-HN.out];exact aK
   obtain⟨b,aS,hA,c1,c2⟩:=(HR.below hW).shr bB;subst hA;obtain⟨p,hp⟩: ∃p,p=l[i]:=⟨_,rfl⟩
   have cZ:=aa (an8 l i bB);rw[<-hp]at c1 c2 cZ;clear hp;obtain⟨x,bb⟩:=p;simp only at c1 c2 cZ;obtain⟨cc,ff⟩:=ft hL (i:=i) (by rw[an7 l i ae];exact bB);have jI:=aa (mv hL i x);rw[cZ.out]at jI;have HW:=aa (hW.setCell (p:=⟨w.heap.size,i,none⟩) (aM _) (.int .i64 x));clear hL hW;go_wp2;go_roundw;case rel=>exact⟨i+1,ae,by go_num,(Below.heap_alloc _ _ _ (by simpa using QA)).trans jI,HW.alloc (by simpa using Nat.le_of_lt QA) _⟩
   case measure=>exact cM
  ·obtain rfl:i=n:=ae;rw[show vw l i=l.map Prod.fst by rw[HN.out];simp[vw]]at hL;have HO:=aa (R7 hL (aM _) (show (ints (l.map Prod.fst)).length=i*1 by simp[ints,HN.out]) ae);have HW:=aa hW;clear hL hW;go_wp2;go_ret;exact⟨_,rfl,HO,HW⟩
def aaS:ag:=⟨#[112,108,101,100,103,101]⟩
def jm (salt:ag) (p:bZ):Bool:=decide (salt.size=16)&&decide (1<=p.1)&&decide (p.1<=255)&&decide (p.2.size=32)
def Aa (salt:ag) (p:bZ):ag:=aaS++salt++bs [UInt8.ofNat p.1.toNat]++p.2
theorem R9 {salt:ag} {p:bZ} (h:jm salt p=true):salt.size=16/\1<=p.1/\p.1<=255/\p.2.size=32:=by
 simp[jm]at h;exact⟨h.1.1.1,h.1.1.2,h.1.2,h.2⟩
theorem an' (salt:ag) (p:bZ):(Aa salt p).size=7+salt.size+p.2.size:=by
 unfold Aa;rw[ByteArray.size_append,ByteArray.size_append,ByteArray.size_append,ei];show 6+salt.size+1+p.2.size=_;omega
theorem R' (h:w.heap[g]?=some (.cells cs t (0,0))) (i:Nat) (u:Value) (hu:cs[i]?=some u):w.cell? ⟨g,i,none⟩=some u:=by
 unfold World.cell?;simp[h,hu]
theorem aoa (s t:ag):(s.toList==t.toList)=decide (s=t):=by
 exact agj
theorem OM (h:P:=by
 go_in;go_wp2;go_ret;rw[HE.out];exact⟨rfl,(aI _ _).alloc (aM _) _⟩):P:=h
theorem aob (salt:ag) (x:Int) (b:ag) (w:World):
  Calls prog 286 #[.agg #[.string salt,.int .i64 x,.string b]] w (bF w (.bool (jm salt (x,b)))):=by
 by_cases h1:salt.size=16
 ·have d1:((salt.size:Int)==16)=true:=by simp;omega
  by_cases h2:1<=x
  ·have d2:decide (1<=x)=true:=by simpa using h2
   have jG:decide (x>=1)=true:=(by simpa using h2);by_cases h3:x<=255
   ·have d3:decide (x<=255)=true:=(by simpa using h3);have HE:=aa (show jm salt (x,b)=((b.size:Int)==32) by
     simp[jm,h1,h2,h3];rw[Bool.eq_iff_iff,decide_eq_true_eq,beq_iff_eq];omega)
    exact OM
   ·have d3:decide (x<=255)=false:=(by simpa using h3);have HE:=aa (show jm salt (x,b)=false by simp[jm,h3]);exact OM
  ·have d2:decide (1<=x)=false:=by simpa using h2
   have jG:decide (x>=1)=false:=(by simpa using h2);have HE:=aa (show jm salt (x,b)=false by simp[jm,h2]);exact OM
 ·have d1:((salt.size:Int)==16)=false:=by simp;omega
  have HE:=aa (show jm salt (x,b)=false by simp[jm,h1]);exact OM
theorem aoc (w:World) (u:UInt8) (g:Nat) (hg:w.heap.size=g):(convert 34 9 (.slice (aw g) 1 1)).run prog (w.alloc (.cells #[.int .u8 (u.toNat:Int)] 5))= .ok (.string (bs [u])) (w.alloc (.cells #[.int .u8 (u.toNat:Int)] 5)):=
 DF (l:= [u]) (jk w 5 #[.int .u8 (u.toNat:Int)] g hg) 1 1 rfl
theorem aod (x:Int) (h1:1<=x) (h2:x<=255):IntKind.u8.wrap x=((UInt8.ofNat x.toNat).toNat:Int):=by
 rw[UInt8.toNat_ofNat',IntKind.wrap_u8];omega
theorem aoe (salt:ag) (x:Int) (b:ag) (w:World) (h:jm salt (x,b)=true):
  Calls prog 288 #[.agg #[.string salt,.int .i64 x,.string b]] w (bF w (.string (Aa salt (x,b)))):=by
 obtain⟨h1,h2,h3,h4⟩:=R9 h;have hb:=aod x h2 h3;have HE:=aa (show Aa salt (x,b)=aaS++salt++bs [UInt8.ofNat x.toNat]++b from rfl);generalize UInt8.ofNat x.toNat=u at hb HE;have k1: ¬9223372036854775807<(⟨#[112,108,101,100,103,101]⟩:ag).size+salt.size:=by rw[h1];decide
 have k2: ¬9223372036854775807<((⟨#[112,108,101,100,103,101]⟩:ag)++salt).size+(bs [u]).size:=by rw[ByteArray.size_append,h1];show¬9223372036854775807<6+16+1;decide
 have k3: ¬9223372036854775807<((⟨#[112,108,101,100,103,101]⟩:ag)++salt++bs [u]).size+b.size:=by rw[ByteArray.size_append,ByteArray.size_append,h1,h4];show¬9223372036854775807<6+16+1+32;decide
 have il:=λW g hg=>aoc W u g hg;go_in;go_wp2;go_ret;rw[HE.out];exact⟨rfl,((aI _ _).alloc (aM _) _).alloc ak _⟩
def nT (salt:ag) (p:bZ):ag:=bs (jA (Aa salt p).data.toList)
theorem aof (salt:ag) (x:Int) (b:ag) (w:World) (hR:cX w) (h:jm salt (x,b)=true):
  Calls prog 287 #[.func (.func 288) #[.agg #[.string salt,.int .i64 x,.string b]] #[]] w (bF w (.string (nT salt (x,b)))):=by
 have HR:=aa hR;have HT:=aa (λW=>aoe salt x b W h);have HS:=aa (λW hW=>FS (Aa salt (x,b)) W hW (by obtain⟨h1,_,_,h4⟩:=R9 h;rw[an',h1,h4];decide));have HE:=aa (show nT salt (x,b)=bs (jA (Aa salt (x,b)).data.toList) from rfl);rw[HE.out];generalize bs (jA (Aa salt (x,b)).data.toList)=r at HS;generalize Aa salt (x,b)=t at HT HS;go_in;go_wp2_with fail;refine (HT _).mono ?_;rintro e w1 ⟨rfl,aG⟩;go_wp2_with fail;refine (HS _ (HR.below aG)).mono ?_;rintro e w2 ⟨rfl,av⟩;go_wp2;go_ret;exact⟨rfl,bg aG av⟩
def vx (salt:ag) (p:bZ):ag:=if jm salt p=true then nT salt p else ⟨#[]⟩
def sK (salt:ag) (p:bZ):Nat:=if jm salt p=true then 0 else 1
theorem aaT (salt:ag) (x:Int) (b:ag) (w:World) (hR:cX w):
  Calls prog 226 #[.string salt,.agg #[.int .i64 x,.string b]] w (bF w (.tuple #[.string (vx salt (x,b)),.int .i64 (sK salt (x,b):Nat)])):=by
 have HR:=aa hR;have hW:=(be w (.cells #[.int .i64 x,.string b] 101)).alloc ak (.cells #[.string salt,.int .i64 x,.string b] 341);have HW:=aa hW;have HB:=aa (λW=>aob salt x b W);have hX:=aR (w.alloc (.cells #[.int .i64 x,.string b] 101)) (.cells #[.string salt,.int .i64 x,.string b] 341);rw[World.size_alloc]at hX;have HX:=aa hX;cases h:jm salt (x,b) with
 |false=>
  have HE:=aa (show vx salt (x,b)=⟨#[]⟩/\sK salt (x,b)=1 by unfold vx sK;rw[h];exact⟨rfl,rfl⟩);rw[HE.1,HE.2];rw[h]at HB;go_in;go_wp2_with fail;refine (HB _).mono ?_;rintro e w1 ⟨rfl,aG⟩;go_wp2;go_ret2;exact⟨rfl,ju HW aG⟩
 |true=>
  have HE:=aa (show vx salt (x,b)=nT salt (x,b)/\sK salt (x,b)=0 by unfold vx sK;rw[h];exact⟨rfl,rfl⟩);rw[HE.1,HE.2];rw[h]at HB;have HS:=aa (λW hW=>aof salt x b W hW h);go_in;go_wp2_with fail;refine (HB _).mono ?_;rintro e w1 ⟨rfl,aG⟩;have x0:=R' (aJ HX aG) 0 _ rfl;have x1:=R' (aJ HX aG) 1 _ rfl;have x2:=R' (aJ HX aG) 2 _ rfl;have fR:=aX HW aG;go_wp2_with fail;refine (HS _ (HR.below fR)).mono ?_;rintro e w2 ⟨rfl,av⟩;go_wp2;go_ret2;exact⟨rfl,ju fR av⟩
def uh (pl salt:ag) (p:bZ):Bool:=jm salt p&&decide (nT salt p=pl)
theorem aaU (pl salt:ag) (x:Int) (b:ag) (w:World) (hR:cX w):
  Calls prog 161 #[.string pl,.string salt,.agg #[.int .i64 x,.string b]] w (bF w (.bool (uh pl salt (x,b)))):=by
 have HR:=aa hR;have hW:=be w (.cells #[.int .i64 x,.string b] 101);have HW:=aa hW;have HM:=aa (λW hW=>aaT salt x b W hW);clear hR hW;cases h:jm salt (x,b) with
 |false=>
  have HE:=aa (show sK salt (x,b)=1 by unfold sK;rw[h];rfl);rw[HE.out]at HM;rw[uh,h,Bool.false_and];generalize vx salt (x,b)=ms at HM;clear h;go_in;go_wp2_with fail;refine (HM _ (HR.below HW)).mono ?_;rintro e w1 ⟨rfl,aG⟩;go_wp2;go_ret;exact⟨rfl,ju HW aG⟩
 |true=>
  have HE:=aa (show vx salt (x,b)=nT salt (x,b)/\sK salt (x,b)=0 by unfold vx sK;rw[h];exact⟨rfl,rfl⟩);rw[HE.1,HE.2]at HM;rw[uh,h,Bool.true_and];generalize nT salt (x,b)=ms at HM;have hd:=aoa ms pl;rw[<-hd];clear h;go_in;go_wp2_with fail;refine (HM _ (HR.below HW)).mono ?_;rintro e w1 ⟨rfl,aG⟩;clear hd;go_wp2;go_ret;exact⟨rfl,ju HW aG⟩
def oV (ss:List ag) (l:List bZ):Bool:=(ss.zip l).all λq=>jm q.1 q.2
def mA (ss:List ag) (l:List bZ):List ag:=(ss.zip l).map λq=>nT q.1 q.2
def vy (ss:List ag) (l:List bZ):Nat:=if ss.length≠l.length then 170 else if oV ss l=true then 0 else 1
def BQ (ss:List ag) (l:List bZ):List ag:=if vy ss l=0 then mA ss l else []
def DJ (w:World) (l:List ag) (n:Nat) (e:Ending) (w':World):Prop:=
 ∃A m ai,e= .returned (.tuple #[.slice A m ai,.int .i64 (n:Nat)])/\m=l.length/\w'.ownsRow w.heap.size 9 1 (.slice A m ai) m (aZ l)/\aD w w'
theorem aog (ss:List ag) (l:List bZ) (A A2:aN) (n c m c2:Nat) (w:World) (hr:Rd w A (aZ ss)) (ed:Rd w A2 (dq l)) (hn:n=ss.length) (hm:m=l.length) (hl:ss.length=l.length) (kz:l.length<=1000) (hR:cX w):
  Calls prog 225 #[.slice A n c,.slice A2 m c2,.func (.func 226) #[] #[]] w (DJ w (if oV ss l=true then mA ss l else []) (if oV ss l=true then 0 else 1)):=by
 have HA:=aa hr;have dN:=aa ed;have HN:=aa hn;have HM:=aa hm;have HR:=aa hR;have fL:n<=1000:=ae;have HY:=aa (show oV ss l=true->DJ w (if oV ss l=true then mA ss l else []) (if oV ss l=true then 0 else 1)=DJ w (mA ss l) 0 from λh=>by rw[h];rfl);have HF:=aa (show oV ss l=false->DJ w (if oV ss l=true then mA ss l else []) (if oV ss l=true then 0 else 1)=DJ w [] 1 from λh=>by rw[h];rfl);generalize DJ w (if oV ss l=true then mA ss l else []) (if oV ss l=true then 0 else 1)=Q at HY HF⊢;obtain⟨iS,jj,tH,tA,it⟩:=info_parts mx;obtain rfl:n=m:=ae;clear hr ed hn hm hl kz hR;go_in;go_wp2_with (refine wpList_make_own _ ah (.const (.int .i64 0)) (.tmp 14) 28 ah w.heap.size 9 iS (.string ⟨#[]⟩) 1 underlying28 jj tH tA .i64 .i64 _ n ah ah rfl (by rw[it];omega) (by unfold maxLen;omega) ae ?_);intro w2 dy fE;have dl:=aa dy;have dV:=aa (F2 fE (aM _));clear dy fE;go_wp2_with fail;go_loopw [8,18] (λv x wr=> ∃(i ai:Nat) (B:aN),i<=n/\x= .int .i64 (i:Nat)/\v= .slice B i ai/\wr.ownsRow w.heap.size 9 1 v i (aZ (((ss.zip l).take i).map λq=>nT q.1 q.2))/\((ss.zip l).take i).all (λq=>jm q.1 q.2)=true/\aD w wr) (λ_ x _=>n -(intOf x).toNat);case atStart=>exact⟨0,_,_,ae,rfl,rfl,dl,rfl,dV⟩
 case round=>
  obtain⟨i,ai,B,hi,rfl,rfl,ho,mr,hW⟩:=hrel;have HO:=aa ho;have HW:=aa hW;have ke:=aa mr;clear ho hW mr;by_cases aK:i<n
  ·have e1:decide ((i:Int)<(n:Int))=true:=by simp;omega
   have bB:i<l.length:=(by rw[<-HM.out];exact aK);have yN:i<ss.length:=(by rw[<-HN.out];exact aK);have XA:i<(ss.zip l).length:=(by rw[List.length_zip];omega);obtain⟨b,aS,bG,c1⟩:=kG (HA.below HW) yN;obtain⟨b2,O0,aCT,d1,d2⟩:=(dN.below HW).shr bB;subst bG aCT;have tP:=aa (show (ss.zip l).take (i+1)=(ss.zip l).take i++ [(ss[i],l[i])] by rw[List.take_succ_eq_append_getElem XA,List.getElem_zip]);have W4:=aa (show jm ss[i] l[i]=false->oV ss l=false from λh=>List.all_eq_false.2 ⟨(ss.zip l)[i],dY XA,by rw[List.getElem_zip,h];simp⟩);generalize ss[i]=s at c1 tP W4;generalize l[i]=p at d1 d2 tP W4;obtain⟨x,bb⟩:=p;simp only at d1 d2;clear bB yN XA;have IX:=aa (λW hW=>aaT s x bb W hW);cases hbr:jm s (x,bb) with
   |false=>
    have HE:=aa (show sK s (x,bb)=1 by unfold sK;rw[hbr];rfl);rw[HE.out]at IX;rw[HF.out (W4.out hbr)];generalize vx s (x,bb)=ms at IX;clear hbr;go_wp2_with fail;refine (IX _ (HR.below HW)).mono ?_;rintro e w3 ⟨rfl,aL⟩;go_wp2_with fail;try rw[Exit.noGoto_ret]
    go_ret2;exact⟨none,0,0,rfl,rfl,⟨rfl,.inl ⟨rfl,rfl⟩⟩,bg HW aL⟩
   |true=>
    have HE:=aa (show vx s (x,bb)=nT s (x,bb)/\sK s (x,bb)=0 by unfold vx sK;rw[hbr];exact⟨rfl,rfl⟩);rw[HE.1,HE.2]at IX;have Yb:=aa (show ((ss.zip l).take (i+1)).map (λq=>nT q.1 q.2)=((ss.zip l).take i).map (λq=>nT q.1 q.2)++ [nT s (x,bb)] by rw[tP.out,List.map_append];rfl);have azw:=aa (show ((ss.zip l).take (i+1)).all (λq=>jm q.1 q.2)=true by rw[tP.out,List.all_append,ke.out];simp[hbr]);generalize nT s (x,bb)=ms at IX Yb;generalize ((ss.zip l).take i).map (λq=>nT q.1 q.2)=ps at HO Yb;clear hbr;go_wp2_with fail;refine (IX _ (HR.below HW)).mono ?_;rintro e w3 ⟨rfl,aL⟩;have gX:=aa (eO HO aL);have iK:=aa (bg HW aL);clear aL c1 d1 d2;go_wp2_with (at_builtin;refine oS ah (.tmp 36) (.tmp 38) 28 ah w.heap.size 9 (.string ⟨#[]⟩) 1 16 underlying28 mx rfl ae w3 _ _ _ _ _ ah gX _ 1 1 ah ah ah ah ae ae ae (by exact iK.size) ?_);intro g4 qy w4 kg aP _ _ _;have iu:=aa kg;have wN:=aa (iK.trans aP);clear kg aP;go_wp2;go_roundw;case rel=>exact⟨i+1,qy,_,ae,by go_num,rfl,by rw[Yb.out,BG];exact iu.out,azw,wN⟩
    case measure=>exact cM
  ·obtain rfl:i=n:=ae;have e1:decide ((i:Int)<(i:Int))=false:=ak;have PE:(ss.zip l).length<=i:=by rw[List.length_zip,<-HN.out];omega
   rw[List.take_of_length_le PE]at HO ke;have jI:=aa (show i=(mA ss l).length by rw[mA,kQ,List.length_zip,<-HN.out,<-HM.out,Nat.min_self]);clear PE;go_wp2_with fail;rw[HY.out ke.out];exact⟨B,i,ai,rfl,jI,HO,HW⟩
theorem aoh (ss:List ag) (l:List bZ) (A A2:aN) (n c m c2:Nat) (w:World) (hr:Rd w A (aZ ss)) (ed:Rd w A2 (dq l)) (hn:n=ss.length) (hm:m=l.length) (kz:l.length<=1000) (hR:cX w):
  Calls prog 143 #[.slice A n c,.slice A2 m c2] w (DJ w (BQ ss l) (vy ss l)):=by
 by_cases hl:ss.length=l.length
 ·have HE:=aa (λW h1 h2 hR=>aog ss l A A2 n c m c2 W h1 h2 hn hm hl kz hR);have HA:=aa hr;have dN:=aa ed;have HR:=aa hR;have h1:(if oV ss l=true then 0 else 1)=vy ss l:=by unfold vy;rw[if_neg (show¬ss.length≠l.length by simpa using hl)]
  have h2:(if oV ss l=true then mA ss l else [])=BQ ss l:=by
   unfold BQ vy;rw[if_neg (show¬ss.length≠l.length by simpa using hl)];cases oV ss l<;>rfl
  rw[h1,h2]at HE;obtain rfl:n=m:=ae;have d1:((n:Int) !=(n:Int))=false:=ak;generalize BQ ss l=rl at HE⊢;generalize vy ss l=re at HE⊢;clear hr ed hn hm kz hR hl h1 h2;go_in;go_wp2_with fail;refine (HE _ HA dN HR).mono ?_;rintro e w1 ⟨B,k,ai,rfl,h1,h2,h3⟩;go_wp2;go_ret2;exact⟨B,_,ai,rfl,rfl,(by rw[<-h1];exact h2),h3⟩
 ·have h1:vy ss l=170:=by rw[vy,if_pos hl]
  have h2:BQ ss l= []:=by rw[BQ,h1];rfl
  rw[h1,h2];have d1:((n:Int) !=(m:Int))=true:=by simp;omega
  clear hr ed hn hm kz hR hl h1 h2;go_in;go_wp2;go_ret2;exact⟨none,0,0,rfl,rfl,⟨rfl,.inl ⟨rfl,rfl⟩⟩,aI _ _⟩
theorem bM.rounds (y:bM w) (h:cX w):cX y.x:=h.below y.ok
def Ah (n0:Nat) (bs:List Nat) (W W':World):Prop:=Below n0 W W'/\rG bs W W'
theorem abx {bs:List Nat} {A B C:World} (h:Ah n0 bs A B) (k:Ah n0 bs B C):Ah n0 bs A C:=⟨h.1.trans k.1,Jl h.2 k.2⟩
theorem aby {bs:List Nat} (hn:n0<=w.heap.size) (hb: ∀b∈bs,b<w.heap.size) (W:World) (l:Nat) (o o':Obj) (hl:w.heap.size<=l) (h1:W.heap[l]?=some o) (h2:o.isCells=false) (h3:o.isWalk=false):Ah n0 bs W (W.putObj l o'):=
 ⟨belowK_b hn W l o o' hl h1 h2 h3,Jm hb W l o o' hl h1 h2 h3⟩
theorem apC {β:Type} (b:Nat) (C:bx) (t:TypeId):Own (λ(_:β) W=>W.heap[b]?=some (.cells C t (0,0))):=λs A B row hs hg hr=>by
 exact Ox
theorem rL {b:Nat} {C:bx} {X Y:World} (h:X.heap[b]?=some (.cells C t (0,0))) (hg:X.grownBy Y row) (hr: ∀r,row=some r-> ∃o:Obj,X.heap[r]?=some o/\o.isCells=false):Y.heap[b]?=some (.cells C t (0,0)):=apC (β:=Unit) b C t () X Y row h hg hr
theorem aj (h:w.heap[g]?=some (.cells cs t (0,0))) (i:Nat) (u:Value) (hu:cs[i]?=some u):w.cell? ⟨g,i,none⟩=some u:=by
 unfold World.cell?;simp[h,hu]
theorem aU (h:w.heap[g]?=some (.cells cs t (0,0))) (i:Nat):w.frozen? ⟨g,i,none⟩=false:=by
 unfold World.frozen?;simp[h]
theorem apD (w:World) (o1 o2 o3 o4:Obj):((((w.alloc o1).alloc o2).alloc o3).alloc o4).heap[w.heap.size]?=some o1/\((((w.alloc o1).alloc o2).alloc o3).alloc o4).heap[w.heap.size+1]?=some o2/\((((w.alloc o1).alloc o2).alloc o3).alloc o4).heap[w.heap.size+1+1]?=some o3/\((((w.alloc o1).alloc o2).alloc o3).alloc o4).heap[w.heap.size+1+1+1]?=some o4/\aD w ((((w.alloc o1).alloc o2).alloc o3).alloc o4)/\((((w.alloc o1).alloc o2).alloc o3).alloc o4).heap.size=w.heap.size+4:=by
 have h1:=aR w o1;have h2:=aR (w.alloc o1) o2;have h3:=aR ((w.alloc o1).alloc o2) o3;have h4:=aR (((w.alloc o1).alloc o2).alloc o3) o4;simp only[World.size_alloc]at h2 h3 h4;refine⟨?_,?_,?_,h4,?_,ak⟩
 ·exact (Below.heap_alloc _ _ _ (by simp only[World.size_alloc];omega)).trans ((Below.heap_alloc _ _ _ (by simp only[World.size_alloc];omega)).trans ((Below.heap_alloc _ _ _ (by simp only[World.size_alloc];omega)).trans h1))
 ·exact (Below.heap_alloc _ _ _ (by simp only[World.size_alloc];omega)).trans ((Below.heap_alloc _ _ _ (by simp only[World.size_alloc];omega)).trans h2)
 ·exact (Below.heap_alloc _ _ _ (by simp only[World.size_alloc];omega)).trans h3
 ·exact ((((aI _ _).alloc (aM _) _).alloc ak _).alloc (by simp;omega) _).alloc (by simp;omega) _
end
section
open Go.Maps Go.WideMaps
variable {G g:Nat} {w w' w1 w2:World}
theorem JM:Keyed prog 3:=int_keyed underlying3
def vH (xs:aF):Nat->DataW Unit
 |0=> .map []
 |k+1=>(vH xs k).put (.int .i64 ((xs.getD k 0).toNat:Int)) (.lit (.int .i64 (k:Int)))
theorem abF (xs:aF) (hn:xs.Nodup): ∀k,k<=xs.length->Tidy (vH xs k)/\Maps.size (vH xs k)=k/\ ∀a:UInt8,a∉xs.take k->Maps.has (vH xs k) (.int .i64 (a.toNat:Int))=false
 |0,_=>⟨tidy_empty,rfl,λa _=>rfl⟩
 |k+1,hk=>by
  obtain⟨h1,h2,h3⟩:=abF xs hn k ae;have hx:xs.getD k 0=xs[k]:=Jr xs k ae;have xz:xs.getD k 0∉xs.take k:=by
   rw[hx];intro hm;obtain⟨j,hj,e⟩:=List.mem_iff_getElem.1 hm;rw[List.getElem_take]at e;have QS:j<k:=by
    have:=hj;simp at this;omega
   exact (List.pairwise_iff_getElem.1 hn j k ae ae QS) e
  refine⟨h1.put (show WideAt.IsKeyLit (.int .i64 ((xs.getD k 0).toNat:Int)) from trivial) _,?_,λa ha=>?_⟩
  ·rw[vH,size_put h1,h3 _ xz,h2];rfl
  ·rw[List.take_succ_eq_append_getElem (by omega:k<xs.length),List.mem_append,not_or]at ha;have aO:(Lit.int .i64 (a.toNat:Int))≠ .int .i64 ((xs.getD k 0).toNat:Int):=λe=>by
    injection e with _ e
    apply ha.2;rw[hx]at e;have:a=xs[k]:=UInt8.toNat_inj.1 ae;rw[this];simp
   rw[vH,has_put_other aO];exact h3 a ha.1
theorem M7 (k:Nat) (h:k<=1000000):(Lit.int .i64 (k:Int)).wf=true:=by
 have e:IntKind.i64.min= -9223372036854775808:=rfl;have e2:IntKind.i64.max=9223372036854775807:=rfl;simp[Lit.wf,e];omega
theorem abG (a:UInt8):(Lit.int .i64 (a.toNat:Int)).wf=true:=M7 _ (by have:=a.toNat_lt;omega)
theorem apW (xs:aF) (A:aN) (n c:Nat) (w:World) (hr:Rd w A (ints (eY xs))) (hn:n=xs.length) (h1:1<=xs.length) (h2:xs.length<=255) (ln:xs.Nodup):
  Calls prog 309 #[.slice A n c] w (bF w (.bool true)):=by
 have HR:=aa hr;have HN:=aa hn;have HA:=aa (MO xs);have HP:=aa (abF xs ln);have Zw:=aa (show n=(eY xs).length by rw[rH];exact hn);have d1:decide ((n:Int)<1)=false:=by simp;omega
 have d2:decide ((255:Int)<(n:Int))=false:=by simp;omega
 have su:n<=255:=ae;have hmm:= @run_makeMap prog;clear hr hn ln;go_in;go_wp2_with fail;refine (MN (eY xs) A n c _ HR Zw (by rw[rH];omega)).mono ?_;rintro e w1 ⟨rfl,rfl⟩;rw[HA.out];go_wp2_with fail;go_loopw [22] (λi wr=> ∃k:Nat,k<=n/\i= .int .i64 (k:Nat)/\wr.ownsMap prog 3 (plainElem prog 3) w1.heap.size k (vH xs k)/\aD w1 wr) (λi _=>n -(intOf i).toNat);case atStart=>exact⟨0,Nat.zero_le _,rfl,World.ownsMap_made _ _ _ _,(aI _ _).alloc (aM _) _⟩
 case round=>
  obtain⟨k,hk,rfl,lN,Br⟩:=hrel;by_cases aK:k<n
  ·have cY:k<xs.length:=by rw[<-HN.out];exact aK
   obtain⟨b,aS,hA,hc⟩:=(HR.below Br).int_at (i:=k) (by rw[rH];exact cY);rw[MP xs k cY]at hc;subst hA;have HM:=aa (show vH xs (k+1)=(vH xs k).put (.int .i64 ((xs.getD k 0).toNat:Int)) (.lit (.int .i64 (k:Int))) from rfl);generalize xs.getD k 0=a at hc HM;generalize vH xs k=D at lN HM;have hwk:(Lit.int .i64 (k:Int)).wf=true:=M7 k ae;go_wp2_with (first
    |(at_mapUpdate;refine wpList_mapUpdate_own _ rfl _ _ _ 271 rfl 3 3 JM underlying271 (plainElem (H:=Unit) prog 3) w1.heap.size k _ rfl lN (by unfold maxLen;omega) _ _ _ rfl rfl (keyOf_int_mk underlying3 (abG a)) _ [] (plainElem_int underlying3 hwk) ?_;intro w2 aDq aBc))
   have dl:=aa aDq;go_roundw;case rel=>exact⟨k+1,ae,by go_num,by rw[HM.out];exact dl.out,Br.trans (gZ aBc (aM _) Br.size)⟩
   case measure=>exact cM
  ·obtain rfl:k=n:=ae;have cg:=(HP k (by rw[HN.out];exact aM _)).2.1;generalize vH xs k=D at lN cg;go_wp2_with (first
    |(at_len;refine wpList_len_own _ rfl _ 271 rfl 3 3 underlying271 _ w1.heap.size k _ rfl lN ?_))
   go_ret;exact⟨ak,Br⟩
theorem agB {P:Prop} (h:P:=by
 rintro e w2 ⟨rfl,av⟩;have hb:=bg aG av;go_wp2;go_ret2;exact⟨rfl,hb⟩):P:=h
theorem apX (a b:UInt8) (w:World) (g:Nat) (h:lw w g) (hb:b≠0):Calls prog 311 #[.pointer (aw g),cA a,cA b] w (bF w (.tuple #[cA (gm a (gi b)),.bool true])):=by
 have H:=aa h;have HB:=aa hb;go_in;go_wp2_with fail;refine (ano b _ g H HB).mono ?_;rintro e w1 ⟨rfl,aG⟩;go_wp2_with fail;refine (RZ a (gi b) _ g (H.keep aG)).mono ?_;exact agB
def BU (dQ x:UInt8) (xs:aF) (i:Nat):Nat->UInt8
 |0=>1
 |j+1=>if j=i then BU dQ x xs i j else gm (BU dQ x xs i j) (gm (x^^^xs.getD j 0) (gi (dQ^^^xs.getD j 0)))
theorem abH (dQ x:UInt8) (xs:aF) (i:Nat): ∀j,j<=xs.length->BU dQ x xs i j=wP dQ x ((xs.take j).eraseIdx i) 1
 |0,_=>by simp[BU,wP]
 |j+1,hj=>by
  have ih:=abH dQ x xs i j ae;have ey:(xs.take j).length=j:=by simp;omega
  rw[BU,List.take_succ_eq_append_getElem (by omega:j<xs.length)];by_cases e:j=i
  ·subst e;rw[if_pos rfl,ih,List.eraseIdx_append_of_length_le ae,ey,Nat.sub_self];rw[List.eraseIdx_of_length_le ae];simp
  ·rw[if_neg e,ih,Jr xs j ae];by_cases c:i<j
   ·rw[List.eraseIdx_append_of_lt_length ae,wP,wP,List.foldl_append];rfl
   ·rw[List.eraseIdx_append_of_length_le ae,List.eraseIdx_of_length_le (by omega:(xs.take j).length<=i),List.eraseIdx_of_length_le (by simp;omega),wP,wP,List.foldl_append];rfl
theorem apY (p o x dQ:UInt8) (k:Int) (w:World) (g gk tW gf gx ga:Nat) (hk:eB w gk 3 (.int .i64 (k - 1))) (hi:eB w tW 3 (.int .i64 k)) (aO:tW≠gk) (Il:0<=k/\k<=1000):
  Calls prog 310 #[cA p,cA o,.pointer (aw gk),.pointer (aw tW),.pointer (aw gf),.pointer (aw gx),.pointer (aw ga)] w λe w'=>e= .returned (cA p)/\eB w' gk 3 (.int .i64 k)/\w.grownBy w' (some gk):=by
 have ck:=mz hk;have fk:=R3 hk;have ci:=mz hi;have Hk:=aa (R2 hk (.int .i64 k));have gq:k - 1+1=k:=ae;obtain⟨h0,h1⟩:=Il;go_in;go_wp2;go_ret;exact⟨rfl,Hk,⟨rfl,rfl,rfl,ak,λi hi aO=>bz _ _ _ _ (λe=>aO (by rw[e]))⟩⟩
theorem Gb {r:Option Nat} (h:w.grownBy w1 r) (hb:aD w1 w2):w.grownBy w2 r:=
 ⟨hb.os.trans h.os,hb.tape.trans h.tape,hb.output.trans h.output,bD h.size hb.size,λi hi hr=>(hb.block i (jY hi h.size)).trans (h.block i hi hr)⟩
theorem apZ (p o x dQ:UInt8) (k i:Int) (w:World) (g gk tW gf gx ga:Nat) (hk:eB w gk 3 (.int .i64 (k - 1))) (hi:eB w tW 3 (.int .i64 i)) (hf:eB w gf 320 (.pointer (aw g))) (hx:eB w gx 3 (cA x)) (ha:eB w ga 3 (cA dQ)) (hF:lw w g) (hni:tW≠gk) (hnf:gf≠gk) (Br:gx≠gk) (lh:ga≠gk) (hng:g≠gk) (Il:0<=k/\k<=1000) (VW:k≠i) (hao:dQ≠o):
  Calls prog 310 #[cA p,cA o,.pointer (aw gk),.pointer (aw tW),.pointer (aw gf),.pointer (aw gx),.pointer (aw ga)] w λe w'=>e= .returned (cA (gm p (gm (x^^^o) (gi (dQ^^^o)))))/\eB w' gk 3 (.int .i64 k)/\w.grownBy w' (some gk):=by
 obtain⟨w1,cS⟩: ∃w1,w1=w.setCell ⟨gk,0,none⟩ (.int .i64 k):=⟨_,rfl⟩
 have kk: ∀b o,w.heap[b]?=some o->b≠gk->w1.heap[b]?=some o:=λb o h aO=>by rw[cS];exact (bz _ _ _ _ aO).trans h
 have ry:eB w1 gf 320 (.pointer (aw g)):=kk _ _ hf hnf;have wF:eB w1 gx 3 (cA x):=kk _ _ hx Br;have V7:eB w1 ga 3 (cA dQ):=kk _ _ ha lh;have hF1:lw w1 g:=by
  obtain⟨L,h1,h2⟩:=hF;exact⟨L,kk _ _ h1 hng,h2⟩
 have Hk1:=aa (show eB w1 gk 3 (.int .i64 k) by rw[cS];exact R2 hk _);have HG:=aa (show w.grownBy w1 (some gk) by rw[cS];exact⟨rfl,rfl,rfl,ak,λi hi aO=>bz _ _ _ _ (λe=>aO (by rw[e]))⟩);have ck:=mz hk;have fk:=R3 hk;have ci:=mz hi;have cf: ∀y:bM w1,y.x.cell? ⟨gf,0,none⟩=some (.pointer (aw g)):=λy=>y.cell (mz ry);have cx: ∀y:bM w1,y.x.cell? ⟨gx,0,none⟩=some (cA x):=λy=>y.cell (mz wF);have ca: ∀y:bM w1,y.x.cell? ⟨ga,0,none⟩=some (cA dQ):=λy=>y.cell (mz V7);have H1:Hid (∀y:bM w1,Calls prog 271 #[cA x,cA o] y.x λe w'=>e= .returned (cA (x^^^o))/\ ∃z:bM w1,w'=z.x):=aa λy=>(R0 x o y.x).mono λe w' ⟨h1,h2⟩=>⟨h1,y,h2⟩
 have H2:Hid (∀y:bM w1,Calls prog 271 #[cA dQ,cA o] y.x λe w'=>e= .returned (cA (dQ^^^o))/\ ∃z:bM w1,w'=z.x):=aa λy=>(R0 dQ o y.x).mono λe w' ⟨h1,h2⟩=>⟨h1,y,h2⟩
 have H3:Hid (∀y:bM w1,Calls prog 311 #[.pointer (aw g),cA (x^^^o),cA (dQ^^^o)] y.x λe w'=>e= .returned (.tuple #[cA (gm (x^^^o) (gi (dQ^^^o))),.bool true])/\ ∃z:bM w1,w'=z.x):=
  aa λy=>lS (apX _ _ y.x g (hF1.keep y.ok) (ang hao))
 have YJ:=aa hF1;have gq:k - 1+1=k:=ae;have eki:(k==i)=false:=by simpa using VW
 obtain⟨h0,h1⟩:=Il;generalize x^^^o=xo at H1 H3⊢;generalize dQ^^^o=ao at H2 H3⊢;generalize gm xo (gi ao)=qq at H3⊢;go_in;go_wp2_with fail;rw[<-cS];refine rC ax ax ?_;repeat (go_big_quiet_step (first|with_reducible exact H1.out _|with_reducible exact H2.out _|with_reducible exact H3.out _))
 refine wpQuiet_nil ?_;rintro _ ⟨y,rfl⟩;have cfy:=cf y;go_wp2_with fail;refine (R1 p qq _ g (YJ.keep y.ok)).mono ?_;rintro e w2 ⟨rfl,av⟩;have hb:=bg y.ok av;go_wp2;go_ret;exact⟨rfl,aJ Hk1 hb,Gb HG hb⟩
theorem abI {A:aN} {xs:bJ} (h:w.grownBy w' (some G)) (hr:Rd w A xs) (aO: ∀b aS,A=some ⟨b,aS,none⟩->b≠G):Rd w' A xs:=by
 intro i u hu;obtain⟨b,aS,hA,hc⟩:=hr i u hu;refine⟨b,aS,hA,?_⟩;have:=h.block b (cU hc) (λe=>by injection e with e;exact aO b aS hA e);unfold World.cell? at hc⊢;rw[this];exact hc
theorem uj {k:Nat} {o:Obj} (h:w.grownBy w' (some G)) (hk:w.heap[k]?=some o) (aO:k≠G):w'.heap[k]?=some o:=
 (h.block k (bf hk) (λe=>by injection e;omega)).trans hk
theorem SD (h:w.grownBy w' (some G)) (hk:lw w g) (aO:g≠G):lw w' g:=by
 obtain⟨L,h1,h2⟩:=hk;exact⟨L,uj h h1 aO,h2⟩
theorem ap0 (xs:aF) (x:UInt8) (i:Nat) (A:aN) (n c:Nat) (w:World) (g gk tW gf gx ga:Nat) (hr:Rd w A (ints (eY xs))) (hn:n=xs.length) (hl:xs.length<=255) (ln:xs.Nodup) (bB:i<xs.length) (hk:eB w gk 3 (.int .i64 (-1))) (hi:eB w tW 3 (.int .i64 (i:Int))) (hf:eB w gf 320 (.pointer (aw g))) (hx:eB w gx 3 (cA x)) (ha:eB w ga 3 (cA (xs.getD i 0))) (hF:lw w g) (hni:tW≠gk) (hnf:gf≠gk) (Br:gx≠gk) (lh:ga≠gk) (hng:g≠gk) (hnA: ∀b aS,A=some ⟨b,aS,none⟩->b≠gk):
  Calls prog 269 #[.slice A n c,.int .i64 1,.func (.func 310) #[] #[.pointer (aw gk),.pointer (aw tW),.pointer (aw gf),.pointer (aw gx),.pointer (aw ga)]] w λe w'=>e= .returned (cA (wP (xs.getD i 0) x (xs.eraseIdx i) 1))/\w.grownBy w' (some gk):=by
 refine (aaH (eY xs) A n c (.int .i64 1) 310 _ w (λk v W=>k<=xs.length/\v=cA (BU (xs.getD i 0) x xs i k)/\eB W gk 3 (.int .i64 ((k:Int)- 1))/\w.grownBy W (some gk)) (by rw[rH];exact hn) (by rw[rH];omega) (enters_of func310 ax rfl) ⟨ae,rfl,by rw[show ((0:Nat):Int)- 1= -1 from rfl];exact hk,World.grownBy.refl _ _⟩ (λk v W h=>abI h.2.2.2 hr hnA) ?_).mono ?_
 ·rintro k v W cY ⟨_,rfl,hb,hG⟩;have Po:k<xs.length:=by rw[rH]at cY;exact cY
  rw[MP xs k Po];by_cases e:k=i
  ·subst e;refine (apY _ (xs.getD k 0) x (xs.getD k 0) (k:Int) W g gk tW gf gx ga hb (uj hG hi hni) hni ⟨ae,ae⟩).mono ?_;rintro e w' ⟨rfl,ky,hG'⟩;exact⟨_,rfl,ae,by rw[BU,if_pos rfl],by rw[show ((k+1:Nat):Int)- 1=(k:Int) by omega];exact ky,F1 hG hG'⟩
  ·have aO:xs.getD i 0≠xs.getD k 0:=by
    rw[Jr xs i bB,Jr xs k Po];rcases Nat.lt_or_gt_of_ne e with h|h
    ·exact λe2=>(List.pairwise_iff_getElem.1 ln k i Po bB h) e2.symm
    ·exact List.pairwise_iff_getElem.1 ln i k bB Po h
   refine (apZ _ (xs.getD k 0) x (xs.getD i 0) (k:Int) (i:Int) W g gk tW gf gx ga hb (uj hG hi hni) (uj hG hf hnf) (uj hG hx Br) (uj hG ha lh) (SD hG hF hng) hni hnf Br lh hng ⟨ae,ae⟩ ae aO).mono ?_;rintro e' w' ⟨rfl,ky,hG'⟩;exact⟨_,rfl,ae,by rw[BU,if_neg e],by rw[show ((k+1:Nat):Int)- 1=(k:Int) by omega];exact ky,F1 hG hG'⟩
 ·rintro e w' ⟨v,rfl,_,rfl,_,hG⟩;refine⟨?_,hG⟩;rw[rH,abH _ _ _ _ _ (aM _),List.take_of_length_le (aM _)]
def vJ (xs:aF) (x:UInt8):aF:=(List.range xs.length).map λi=>wP (xs.getD i 0) x (xs.eraseIdx i) 1
theorem abJ (xs:aF) (x:UInt8):(vJ xs x).length=xs.length:=by simp[vJ]
def qJ (xs:aF) (x:UInt8) (i:Nat):aF:=(List.range xs.length).map λj=>if j<i then wP (xs.getD j 0) x (xs.eraseIdx j) 1 else 0
theorem ap1 (xs:aF) (x:UInt8) (i:Nat):(qJ xs x i).length=xs.length:=by simp[qJ]
theorem ap2 (xs:aF) (x:UInt8) (i:Nat) (hi:i<xs.length):(qJ xs x i).set i (wP (xs.getD i 0) x (xs.eraseIdx i) 1)=qJ xs x (i+1):=by
 apply List.ext_getElem
 ·simp[qJ]
 ·intro j h1 h2;rw[List.getElem_set];simp only[qJ,List.getElem_map,List.getElem_range];exact OD
theorem ap3 (xs:aF) (x:UInt8):qJ xs x xs.length=vJ xs x:=by
 apply List.map_congr_left;intro j hj;rw[if_pos (by simpa using hj)]
theorem ap4 (w:World) (o o2 o3:Obj):(((w.alloc o).alloc o2).alloc o3).heap[w.heap.size+1+1]?=some o3:=by
 have:=aR ((w.alloc o).alloc o2) o3;exact oC
theorem ap5 {W:World} {i b o:Nat} {u v:Value} (h:W.cell? ⟨b,o,none⟩=some v) (aO:b≠g):(W.setCell ⟨g,i,none⟩ u).cell? ⟨b,o,none⟩=some v:=(World.cell?_setCell_other _ _ _ _ (λe=>aO (by injection e with e _;exact e.symm))).trans h
theorem ap6 {gk:Nat} (h:w.grownBy w1 (some G)) (h2:w1.grownBy w2 (some gk)) (hk:w.heap.size<=gk):w.grownBy w2 (some G):=
 ⟨h2.os.trans h.os,h2.tape.trans h.tape,h2.output.trans h.output,bD h.size h2.size,λi hi hr=>(h2.block i (jY hi h.size) (λe=>by injection e with e;omega)).trans (h.block i hi hr)⟩
theorem ap7 (h:w.grownBy w1 (some G)) (G' i:Nat) (v:Value) (e:G'=G:=by rfl):w.grownBy (w1.setCell ⟨G',i,none⟩ v) (some G):=by
 subst e;exact⟨h.os,h.tape,h.output,by simpa using h.size,λk hk aO=>(bz _ _ _ _ (λe=>aO (by rw[e]))).trans (h.block k hk aO)⟩
theorem ap8 (xs:aF) (x:UInt8) (A:aN) (n c:Nat) (w:World) (hr:Rd w A (ints (eY xs))) (hn:n=xs.length) (h1:1<=xs.length) (h2:xs.length<=255) (ln:xs.Nodup):
  Calls prog 256 #[.slice A n c,cA x] w λe w'=> ∃G,e= .returned (.tuple #[.slice (aw G) n n,.bool true])/\w'.ownsRow w.heap.size 3 1 (.slice (aw G) n n) n (ints (eY (vJ xs x)))/\aD w w':=by
 have HR:=aa hr;have HN:=aa hn;have HL':=aa h2;have HND:=aa ln;have su:n<=255:=ae;have HX:=aa (show [(x.toNat:Int)].all uf=true from MO [x]);have hA:Hid (∀b aS,A=some ⟨b,aS,none⟩->b<w.heap.size):=aa λb aS e=>by
  obtain⟨b',ve,e',hc⟩:=hr.int_at (i:=0) (by rw[rH];omega);rw[e]at e';injection e' with e'
  injection e' with e'
  have:=cU hc;simp only at this;omega
 obtain⟨iI,YS,ZA,Xv,XM⟩:=info_parts rD;clear hr hn ln;go_in;go_wp2_with fail;refine (apW xs A n c _ (HR.below ((aI _ _).alloc (aM _) _)) HN h1 h2 HND).mono ?_;rintro e w1 ⟨rfl,aG⟩;have Zi:=vq aG;replace aG:=jX (aI _ _) aG;have cx:=mz Zi;have Bx1:=aa Zi;clear Zi;go_wp2_with fail;refine (MN [(x.toNat:Int)] _ 1 1 _ (by exact jk _ _ _ _ ak) rfl ak).mono ?_;rintro e w2 ⟨rfl,rfl⟩;rw[HX.out];go_wp2_with fail;refine (RU _).mono ?_;rintro e w3 ⟨g,rfl,hF,_,aL⟩;have Wz:=jX (aI _ _) aL;have Bx3:=aa (aJ Bx1 Wz);replace aL:=bg aG Wz;have IF:=aa hF;clear aG Wz cx hF;obtain⟨F0,X3⟩: ∃F0,F0=w3.heap.size:=⟨_,rfl⟩
 have ah9:=bf Bx3.out;have XI:=IF.lt;go_wp2_with (refine wpList_make_full _ ah (.tmp 22) (.tmp 22) 55 ah w.heap.size 3 iI (.int .i64 0) 1 underlying55 YS ZA Xv .i64 .i64 _ _ n ah ah rfl rfl (by rw[XM];omega) (by unfold maxLen;omega) (by have:=aL.size;simp;omega) ?_);intro w5 qp pH;try simp only[Nat.mul_one]at qp
 rw[aaR,show List.replicate n (0:Int)=eY (qJ xs x 0) by rw[HN.out];simp[eY,qJ,List.map_const']]at qp;obtain⟨w4,tL⟩: ∃w4,w4=w3.alloc (.cells #[.pointer (aw g)] 320):=⟨_,rfl⟩
 rw[<-tL]at pH;have h34:aD w3 w4:=by rw[tL];exact (aI _ _).alloc (aM _) _
 have PJ:=bg h34 (F2 pH (aM _));have IK:=aa (IF.keep PJ);have Bx5:=aa (aJ Bx3 PJ);have Bf5:Hid (eB w5 F0 320 (.pointer (aw g))):=aa (aJ (by rw[tL,X3];exact aR w3 _) (F2 pH (aM _)));have qd:=aa (bg aL PJ);rw[<-X3]at qp ah9 XI⊢;obtain⟨G,hG⟩: ∃G,G=F0+1:=⟨_,rfl⟩
 rw[<-hG]at qp⊢;have yZ:=aa (Jv qp).1;have BD:=(Jv qp).2;have hxG:w.heap.size≠G:=ae;have YW:g≠G:=ae;have hfG:F0≠G:=ae;have hwF:w.heap.size<F0:=ah9;clear qp pH tL h34 PJ aL X3 hG;go_wp2_with fail;go_loopw [26] (λv wr=> ∃i:Nat,i<=n/\v= .int .i64 (i:Nat)/\w5.grownBy wr (some G)/\wr.heap[G]?=some (.cells (ints (eY (qJ xs x i))).toArray 3 (0,0))) (λv _=>n -(intOf v).toNat);case atStart=>exact⟨0,ae,rfl,World.grownBy.refl _ _,yZ⟩
 case round=>
  obtain⟨i,hi,rfl,Du,hL⟩:=hrel;have el:=aa Du;have HL:=aa hL;clear Du hL;by_cases aK:i<n
  ·have bB:i<xs.length:=by rw[<-HN.out];exact aK
   have hW:aD w wr:=qd.trans (gZ el BD qd.size);obtain⟨b,aS,fV,hc⟩:=(HR.below hW).int_at (i:=i) (by rw[rH];exact bB);rw[MP xs i bB]at hc;subst fV;have zg:=aa (SD el IK YW);have Bxr:=aa (uj el Bx5 hxG);have Bfr:=aa (uj el Bf5 hfG);have cZ:=aa (ap2 xs x i bB);have QA:=bf HL.out;have Lm:=aa (ap1 xs x i);have gO:=aa hW;obtain⟨a,VJ⟩: ∃a,a=xs.getD i 0:=⟨_,rfl⟩
   rw[<-VJ]at hc;have Hae:=aa VJ;clear hW VJ;go_wp2_with fail;obtain⟨w6,qZ⟩: ∃w6,w6=((wr.alloc (.cells #[.int .i64 (i:Int)] 3)).alloc (.cells #[cA a] 3)).alloc (.cells #[.int .i64 (-1)] 3):=⟨_,rfl⟩
   have bO:aD wr w6:=(by rw[qZ];exact (((aI _ _).alloc (aM _) _).alloc ak _).alloc (by simp;omega) _);have Qb:eB w6 wr.heap.size 3 (.int .i64 (i:Int)):=by
    rw[qZ];exact (Below.heap_alloc _ _ _ (by simp;omega)).trans ((Below.heap_alloc _ _ _ ak).trans (aR wr _))
   have ba6:eB w6 (wr.heap.size+1) 3 (cA a):=by
    rw[qZ];exact (Below.heap_alloc _ _ _ ak).trans (R5 wr _ _)
   have Zh:eB w6 (wr.heap.size+1+1) 3 (.int .i64 (-1)):=by
    rw[qZ];exact ap4 wr _ _ _
   rw[<-qZ];obtain⟨gk,LB⟩: ∃gk,gk=wr.heap.size+1+1:=⟨_,rfl⟩
   rw[<-LB]at Zh⊢;have aDM:G≠gk:=ae;have cT:b<w.heap.size:=hA.out b aS rfl;have C0:=gO.size;have lO:g<wr.heap.size:=zg.lt;have VG:F0<wr.heap.size:=bf Bfr.out;have HC:=aa (ap0 xs x i (some ⟨b,aS,none⟩) n c w6.drew g gk wr.heap.size F0 w.heap.size (wr.heap.size+1) ((HR.below gO).below bO.drew) HN HL' HND bB Zh Qb (aJ Bfr bO.drew) (aJ Bxr bO.drew) (by rw[<-Hae.out];exact ba6) (zg.keep bO.drew) ae ae ae ae ae (λb' ve e=>by injection e with e;injection e with e;omega));rw[<-Hae.out]at HC cZ;generalize wP a x (xs.eraseIdx i) 1=wt at HC cZ;have K6:w6.drew.cell? ⟨wr.heap.size,0,none⟩=some (.int .i64 (i:Int)):=mz Qb;have Xp:Hid (w6.drew.heap[G]?=some (.cells (ints (eY (qJ xs x i))).toArray 3 (0,0))):=aa (aJ HL bO.drew);have zI:=aa (Gb el bO.drew);have hn7:wr.heap.size≠gk:=ae;have aFH:wr.heap.size<=gk:=ae;have hnG:wr.heap.size≠G:=ae;have Ij:Hid (∀w7,w6.drew.grownBy w7 (some gk)->w7.heap[G]?=some (.cells (ints (eY (qJ xs x i))).toArray 3 (0,0))):=aa λw7 h=>uj h Xp aDM;have QP:Hid (∀w7,w6.drew.grownBy w7 (some gk)->w7.cell? ⟨wr.heap.size,0,none⟩=some (.int .i64 (i:Int))):=aa λw7 h=>mz (uj h (show w6.drew.heap[wr.heap.size]?=_ from Qb) hn7);have IW:Hid (∀w7,w6.drew.grownBy w7 (some gk)->w7.cell? ⟨G,i,none⟩=some (.int .i64 ((eY (qJ xs x i)).getD i 0))/\w7.frozen? ⟨G,i,none⟩=false):=aa λw7 h=>ft (Ij w7 h) (by rw[rH,Lm.out];exact bB);have hiI:(i:Int)<(n:Int):=ae;clear Qb ba6 Zh qZ hc LB;go_region_held3 (λw'=>w'.cell? ⟨wr.heap.size,0,none⟩=some (.int .i64 (i:Int)))
    (first|assumption|exact ap5 (by assumption) hnG)
    (first|(go_at_call 269;refine Calls.mono HC ?_;rintro e w7 ⟨rfl,qx⟩;have K7:=QP.out w7 qx;obtain⟨c7,f7⟩:=IW.out w7 qx))
   have e1:=mv (Ij w7 qx) i (wt.toNat:Int);rw[show (eY (qJ xs x i)).set i (wt.toNat:Int)=eY (qJ xs x (i+1)) by rw[<-cZ.out];simp[eY]]at e1;have j5:=aa e1;have pD:=aa (ap7 (ap6 zI qx (show w5.heap.size<=gk by have h2:=el.size;omega)) G i (.int .i64 (wt.toNat:Int)));clear e1 c7 f7 K7 qx;go_wp2;go_roundw;case rel=>exact⟨i+1,ae,by go_num,pD,j5⟩
   case measure=>exact cM
  ·obtain rfl:i=n:=ae;rw[HN.out,ap3]at HL;have HO:=aa (R7 HL BD (show (ints (eY (vJ xs x))).length=i*1 by rw[HN.out];simp[ints,eY,vJ]) ae);have HW:=aa (qd.trans (gZ el BD qd.size));go_wp2;go_ret2;exact⟨G,rfl,HO,HW⟩
end
section
variable {B ai g n:Nat} {e:TypeId} {w:World} {xs:bJ}
def nX (l:List bZ):aF:=l.map λp=>UInt8.ofNat p.1.toNat
def SF (l:List bZ) (j:Nat):aF:=l.map λp=>p.2.data.toList.getD j 0
theorem ap9 {l:List bZ} {gY:Int} (h:jB l gY=true) (h0:0<=gY):l.map Prod.fst=eY (nX l)/\(∀p∈l,p.2.size=32)/\(nX l).Nodup/\1<=l.length/\l.length<=255/\(1<=gY->(0:UInt8)∉nX l):=by
 simp only[jB,Bool.and_eq_true,decide_eq_true_eq,List.all_eq_true]at h;obtain⟨⟨⟨h1,h2⟩,h3⟩,h4⟩:=h;have hx: ∀p∈l,p.1=((UInt8.ofNat p.1.toNat).toNat:Int)/\p.2.size=32/\gY<=p.1:=λp hp=>by
  have:=h3 p hp;simp[sJ]at this;refine⟨?_,this.2,this.1.1⟩;rw[UInt8.toNat_ofNat'];omega
 have e:l.map Prod.fst=eY (nX l):=by
  rw[eY,nX,List.map_map];exact List.map_congr_left λp hp=>(hx p hp).1
 refine⟨e,λp hp=>(hx p hp).2.1,?_,h1,h2,λhl h0'=>?_⟩
 ·rw[e]at h4;exact (List.pairwise_map.1 h4).imp λh e=>h (by rw[e])
 ·obtain⟨p,hp,e0⟩:=List.mem_map.1 h0';have h5:=hx p hp;rw[e0]at h5;have:p.1=0:=h5.1;omega
def pN (l:List bZ) (x:UInt8) (i:Nat):aF:=(List.range 32).map λj=>FY ((List.range i).map λq=>gm ((vJ (nX l) x).getD q 0) ((SF l j).getD q 0))
def nj (l:List bZ) (x:UInt8):aF:=(List.range 32).map λj=>atP (nX l) (SF l j) x
theorem abK (l:List bZ) (x:UInt8) (i:Nat):(pN l x i).length=32:=by simp[pN]
theorem ap' (l:aF) (a:UInt8):FY (l++ [a])=FY l^^^a:=by simp[FY,List.foldl_append]
theorem aqa (l:List bZ) (x:UInt8) (i:Nat) (hi:i<l.length) (mX:l[i].2.size=32):xJ (pN l x i) (l[i].2.data.toList.map (gm ((vJ (nX l) x).getD i 0)))=pN l x (i+1):=by
 apply List.ext_getElem
 ·simp[xJ,pN,mX]
 ·intro j h1 h2;have hj:j<32:=by simpa[pN] using h2
  simp only[xJ,pN,List.getElem_zipWith,List.getElem_map,List.getElem_range];rw[show List.range (i+1)=List.range i++ [i] from List.range_succ,List.map_append,List.map_cons,List.map_nil,ap'];congr 2;have cg:j<l[i].2.data.size:=by have e:l[i].2.data.size=l[i].2.size:=rfl;omega
  simp[SF,hi];rw[Array.getElem?_eq_getElem cg];rfl
theorem aqb (l:List bZ) (x:UInt8):pN l x l.length=nj l x:=by
 apply List.map_congr_left;intro j _;rw[atP];have e:(nX l).length=l.length:=by simp[nX]
 rw[e];congr 1;apply List.map_congr_left;intro q hq;have hq:q<l.length:=by simpa using hq
 congr 1;rw[Jr _ q (by rw[abJ,e];exact hq)];simp[vJ]
theorem aqc {w':World} {G:Nat} {size:Nat} (h:w.grownBy w' (some G)) (hk:w.ownsRow B e size (.slice (aw g) n ai) n xs) (aO:g≠G):w'.ownsRow B e size (.slice (aw g) n ai) n xs:=by
 refine⟨hk.1,?_⟩;rcases hk.2 with hk|⟨g1,lH,bK,hv,hB,hg,hr⟩
 ·exact .inl hk
 ·have hv':=hv;injection hv' with e1 e2 e3
  injection e1 with e1
  injection e1 with e1
  exact .inr ⟨g1,lH,bK,hv,hB,uj h hg ae,hr⟩
theorem aqd (h:w.ownsRow B e 1 (.slice (aw g) n ai) n xs) {i:Nat} (hi:i<n) {v:Value} (hv:xs[i]?=some v):w.cell? ⟨g,i,none⟩=some v/\w.frozen? ⟨g,i,none⟩=false:=by
 rcases h.2 with⟨e1,_⟩|⟨g1,lH,bK,e1,hB,hg,h1,h2,h3,h4⟩
 ·cases e1
 ·injection e1 with e1 e2 e3
  injection e1 with e1
  injection e1 with e1
  subst e1 e3;rw[<-h4,List.getElem?_take_of_lt ae,Array.getElem?_toList]at hv;refine⟨?_,?_⟩
  ·unfold World.cell?;simp[hg,hv]
  ·unfold World.frozen?;simp[hg]
theorem aqe (l:aF) (i:Nat) (h:i<l.length):(ints (eY l))[i]?=some (cA (l.getD i 0)):=by simp[eY,ints,h]
theorem aqf (l:List bZ) (x:UInt8) (A:aN) (n c:Nat) (w:World) (hr:Rd w A (dq l)) (hn:n=l.length) (h:jB l 0=true):
  Calls prog 184 #[.slice A n c,cA x] w (bF w (.tuple #[.string (bs (nj l x)),.int .i64 0])):=by
 obtain⟨q1,q2,q3,q4,q5,q6⟩:=ap9 h ae;have HR:=aa hr;have HN:=aa hn;have H1:=aa h;have Hx:=aa q1;have H32:=aa q2;have VP:=aa q3;have su:n<=255:=ae;have zz:(nX l).length=l.length:=by simp[nX]
 have Hxl:=aa (show n=(nX l).length by rw[hn,zz]);have ED:=aa (show 1<=(nX l).length by omega);have Hx2:=aa (show (nX l).length<=255 by omega);clear hr hn h q1 q2 q3 q4 q5 q6 zz;go_in;go_wp2_with fail;refine (R8 l 0 A n c _ HR HN ae).mono ?_;rintro e w1 ⟨rfl,aG⟩;rw[H1.out];go_wp2_with fail;refine (an9 l A n c _ (HR.below aG) HN (by rw[<-HN.out];omega)).mono ?_;rintro e w2 ⟨gx,rfl,hox,av⟩;rw[Hx.out]at hox;have VT:=aa hox;replace av:=bg aG av;clear aG hox;go_wp2_with fail;refine (ap8 (nX l) x _ n n _ (gz VT) Hxl ED Hx2 VP).mono ?_;rintro e w3 ⟨gw,rfl,L7,aL⟩;have IQ:=aa L7;replace aL:=bg av aL;clear av L7;go_wp2_with fail;refine (RU _).mono ?_;rintro e w4 ⟨g,rfl,hF,_,aP⟩;have alE:=aa (eO IQ aP);have G8:=aa hF;replace aP:=bg aL aP;clear aL hF;go_wp2_with fail;obtain⟨G,hG⟩: ∃G,G=w4.heap.size:=⟨_,rfl⟩
 obtain⟨w5,qw⟩: ∃w5,w5=w4.alloc (.cells zZ 270):=⟨_,rfl⟩
 have Zl:aD w4 w5:=by rw[qw];exact (aI _ _).alloc (aM _) _
 have Ip:Hid (w5.heap[G]?=some (.cells (dK (pN l x 0)).toArray 270 (0,0))):=aa (by
  rw[show dK (pN l x 0)=dK (List.replicate 32 0) by simp[pN,FY,List.map_const'],qw,hG];exact aR w4 _)
 have aCX:=aa (eO alE Zl);have IK:=aa (G8.keep Zl);have qd:=aa (bg aP Zl);have YW:g≠G:=by have:=G8.lt;omega
 have BD:w.heap.size<=G:=by rw[hG];exact aP.size
 have hwG:gw≠G:=by
  rcases alE.2 with⟨e1,_⟩|⟨g1,_,_,e1,_,h3,_⟩
  ·cases e1
  ·injection e1 with e1
   injection e1 with e1
   injection e1 with e1
   have:=bf h3;omega
 rw[<-hG];have ah5:=aa qw;clear hG qw;go_loopw [29] (λv wr=> ∃i:Nat,i<=n/\v= .int .i64 (i:Nat)/\w5.grownBy wr (some G)/\wr.heap[G]?=some (.cells (dK (pN l x i)).toArray 270 (0,0))) (λv _=>n -(intOf v).toNat);case atStart=>exact⟨0,ae,rfl,ah5.out▸World.grownBy.refl _ _,ah5.out▸Ip.out⟩
 case round=>
  clear Ip;obtain⟨i,hi,rfl,Du,hL⟩:=hrel;have el:=aa Du;have HL:=aa hL;clear Du hL;have hW:aD w wr:=qd.trans (gZ el BD qd.size);by_cases aK:i<n
  ·have bB:i<l.length:=by rw[<-HN.out];exact aK
   obtain⟨b,aS,hA,c1,oH⟩:=(HR.below hW).shr bB;subst hA;have zg:=aa (SD el IK YW);have L7:=aqc el aCX hwG;have sq:(vJ (nX l) x).length=n:=(by rw[abJ,<-Hxl.out]);have cw:=(aqd L7 (i:=i) aK (aqe _ _ (by rw[sq];exact aK))).1;have sg:=aa (aqa l x i bB (H32 _ (dY bB)));have ES:=aa (H32 _ (dY bB));generalize (vJ (nX l) x).getD i 0=wt at cw sg;generalize l[i]=p at c1 oH sg ES;obtain⟨X,bb⟩:=p;simp only at c1 oH sg ES;obtain⟨wa,Xz⟩: ∃wa,wa=wr.alloc (.cells #[.int .i64 X,.string bb] 101):=⟨_,rfl⟩
   have bE:aD wr wa:=(by rw[Xz];exact (aI _ _).alloc (aM _) _);have hS:bj wa wr.heap.size #[.int .i64 X,.string bb] 101:=(by rw[Xz];exact aR wr _);have cwy: ∀y:bM wa,y.x.cell? ⟨gw,i,none⟩=some (cA wt):=λy=>y.cell ((bE.cell (cU cw)).trans cw);have cby: ∀y:bM wa,y.x.cell? ⟨wr.heap.size,1,none⟩=some (.string bb):=λy=>y.cell (aV hS).2.1;have HC:Hid (∀y:bM wa,Calls prog 259 #[.pointer (aw g),cA wt,.string bb] y.x λe w'=>e= .returned (.tuple #[.string (bs (bb.data.toList.map (gm wt))),.bool true])/\ ∃z:bM wa,w'=z.x):=
    aa λy=>lS (anv wt bb y.x g ((zg.keep bE).keep y.ok) (by rw[ES.out];omega))
   have kW:=aa (show (bs (bb.data.toList.map (gm wt))).size=32 by rw[ei,kQ,bP,ES.out]);have Hpd:=aa (show (bs (bb.data.toList.map (gm wt))).data.toList=bb.data.toList.map (gm wt) from rfl);generalize bs (bb.data.toList.map (gm wt))=part at HC kW Hpd;rw[<-Hpd.out]at sg;have hiI:(i:Int)<(n:Int):=ae;have HLa:=aa (aJ HL bE);have QJ:=aa (Gb el bE);clear L7 cw bE hS sq hW;go_wp2_with fail;rw[<-Xz];refine rC ax ax ?_;repeat (go_big_quiet_step (exact HC.out _))
   refine wpQuiet_nil ?_;rintro _ ⟨y,rfl⟩;have XY:=aa (aJ HLa y.ok);have HGy:=aa (Gb QJ y.ok);have vf:=abK l x i;have Me:=aa vf;have db:=aa (Jt _ vf);generalize pN l x i=sm at XY sg Me db;clear vf cwy cby;go_wp2_with (refine wpList_load_row ah 270 (.tmp 9) ah G ah 270 (dK sm).toArray (0,0) _ XY underlying270 rfl db ?_);refine (anJ sm part _ Me kW).mono ?_;rintro e w7 ⟨rfl,cJ⟩;rw[sg.out];have Ij:=aa (aJ XY cJ);have HG7:=aa (Gb HGy cJ);have Ql:=abK l x (i+1);have Hz7:=aa (Jt _ Ql);have PN:=aa (R6 (pN l x (i+1)));have iZ:=aa (show (dK (pN l x (i+1))).toArray.size=(dK sm).toArray.size by rw[List.size_toArray,List.size_toArray,Jh,Jh,Ql,Me.out]);clear cJ Ql;obtain⟨Xa,X6⟩: ∃Xa,Xa=pN l x (i+1):=⟨_,rfl⟩
   rw[<-X6]at Hz7 PN iZ⊢;have aCV:=aa X6;clear X6;go_wp2_with (refine sF ah 270 (.tmp 9) (.tmp 47) ah G (dK Xa).toArray ah ah _ 270 (by exact Ij.out) (by exact iZ.out) Hz7 PN ?_);intro w8 hR8 hG8;have HR8:=aa hR8;have HG8:=aa (F1 HG7 hG8);clear hR8 hG8;go_wp2;go_roundw;case rel=>exact⟨i+1,ae,by go_num,HG8,by rw[<-aCV.out];exact HR8.out⟩
   case measure=>exact cM
  ·obtain rfl:i=n:=ae;rw[HN.out,aqb]at HL;have gF:(nj l x).length=32:=by simp[nj]
   have zw:=aa gF;have db:=aa (Jt _ gF);have HW:=aa hW;obtain⟨sm,mN⟩: ∃sm,sm=nj l x:=⟨_,rfl⟩
   rw[<-mN]at HL zw db;have zc:=aa mN;clear gF hW mN;go_wp2_with (refine wpList_load_row ah 270 (.tmp 9) ah G ah 270 (dK sm).toArray (0,0) _ HL underlying270 rfl db ?_);refine (aaJ sm _ zw).mono ?_;rintro e w7 ⟨rfl,cJ⟩;have hb:=bg HW cJ;go_wp2;go_ret2;exact⟨by rw[<-zc.out];rfl,hb⟩
theorem aqg {l:List bZ} (h:jB l 1=true):jB l 0=true:=by
 simp only[jB,Bool.and_eq_true,List.all_eq_true]at h⊢;refine⟨⟨h.1.1,λp hp=>?_⟩,h.2⟩;have:=h.1.2 p hp;simp[sJ]at this⊢;omega
theorem abL (l:List bZ) (A:aN) (n c:Nat) (w:World) (hr:Rd w A (dq l)) (hn:n=l.length) (h:jB l 1=true):
  Calls prog 106 #[.slice A n c] w (bF w (.tuple #[.string (bs (nj l 0)),.int .i64 0])):=by
 have HR:=aa hr;have HN:=aa hn;have H:=aa h;clear hr hn h;go_in;go_wp2_with fail;refine (R8 l 1 A n c _ HR HN ae).mono ?_;rintro e w1 ⟨rfl,aG⟩;rw[H.out];go_wp2_with fail;refine Calls.mono (by exact aqf l 0 A n c _ (HR.below aG) HN (aqg H)) ?_;exact agB
theorem aqh (l:List bZ) (A:aN) (n c:Nat) (w:World) (hr:Rd w A (dq l)) (hn:n=l.length) (h:jB l 1=false):
  Calls prog 106 #[.slice A n c] w (bF w (.tuple #[.string ⟨#[]⟩,.int .i64 90])):=by
 have HR:=aa hr;have HN:=aa hn;have H:=aa h;clear hr hn h;go_in;go_wp2_with fail;refine (R8 l 1 A n c _ HR HN ae).mono ?_;rintro e w1 ⟨rfl,aG⟩;rw[H.out];go_wp2;go_ret2;exact⟨rfl,aG⟩
end
def Ak (s t:aF) (m i:Nat):bZ:=(((i+1:Nat):Int),bs (lx s t m i))
theorem abN (s t:aF) (m i:Nat):(lx s t m i).length=32:=by simp[lx]
section
variable {B R ai g h i k m n:Nat} {P:Prop} {W W' w:World} {X:aN} {cs:bx} {sv:Value} {t:TypeId} {xs:bJ}
def kM (w:World) (R n c:Nat):Prop:=bj w R #[.int .i64 (n:Int),.int .i64 (c:Int)] 373
theorem kM.cells {c:Nat} (h:kM w R n c):w.cell? ⟨R,0,none⟩=some (.int .i64 (n:Int))/\w.cell? ⟨R,1,none⟩=some (.int .i64 (c:Int))/\w.frozen? ⟨R,0,none⟩=false/\w.frozen? ⟨R,1,none⟩=false:=by
 refine⟨?_,?_,?_,?_⟩
 ·unfold World.cell?;simp only[show w.heap[R]?=_ from h];rfl
 ·unfold World.cell?;simp only[show w.heap[R]?=_ from h];rfl
 ·unfold World.frozen?;simp only[show w.heap[R]?=_ from h];rfl
 ·unfold World.frozen?;simp only[show w.heap[R]?=_ from h];rfl
theorem kM.set0 {c:Nat} (h:kM w R n c) (m:Nat):kM (w.setCell ⟨R,0,none⟩ (.int .i64 (m:Int))) R m c:=by
 have:=bt h 0 (.int .i64 (m:Int));exact this
theorem kM.set1 {c:Nat} (h:kM w R n c) (m:Nat):kM (w.setCell ⟨R,1,none⟩ (.int .i64 (m:Int))) R n m:=by
 have:=bt h 1 (.int .i64 (m:Int));exact this
theorem asW (n x k:Nat) (hx:x<2^k):n*2^k|||x=n*2^k+x:=by
 rw[Nat.mul_comm];exact (Nat.two_pow_add_eq_or_of_lt hx n).symm
theorem TJ (R n c x k:Nat) (w:World) (h:kM w R n c) (hn:n<4096) (hc:c<=100) (hk:k<=8) (hx:x<2^k):
  Calls prog 325 #[.pointer (aw R),.int .i64 (x:Int),.int .i64 (k:Int)] w λe w'=>e= .returned (.tuple #[])/\kM w' R (n*2^k+x) (c+k)/\w.grownBy w' (some R):=by
 obtain⟨c0,c1,f0,f1⟩:=h.cells;have hp:2^k<=256:=by
  have:2^k<=2^8:=Nat.pow_le_pow_right ae hk;omega
 have hm:n*2^k<=4096*256:=Nat.mul_le_mul ae hp;have Hs:=aa (show wrap64 ((n:Int)*2^k)=((n*2^k:Nat):Int) by
  have e:(n:Int)*2^k=((n*2^k:Nat):Int):=ak;rw[e,IntWalk.wrap64_in _ ae])
 have ho:bits .or .i64 ((n*2^k:Nat):Int) (x:Int)=((n*2^k+x:Nat):Int):=by
  rw[ZP _ _ ae ae,asW _ _ _ hx]
 have H:=aa h;clear h hx hp;go_in;go_wp2_with fail;go_end0;have e:bits .or .i64 (wrap64 ((n:Int)*2^k)) (x:Int)=((n*2^k+x:Nat):Int):=by
  rw[Hs.out,ho]
 have e2:(c:Int)+(k:Int)=((c+k:Nat):Int):=ae;rw[e,e2];exact⟨rfl,(H.set0 _).set1 _,sH (sH (RG w R) 0 _) 1 _⟩
theorem ac0 (R n c k:Nat) (w:World) (h:kM w R n c) (hk:c<k):
  Calls prog 326 #[.pointer (aw R),.int .i64 (k:Int)] w λe w'=>e= .returned (.tuple #[.int .i64 0,.bool false])/\w=w':=by
 obtain⟨c0,c1,f0,f1⟩:=h.cells;have aK:decide ((c:Int)<(k:Int))=true:=by simp;omega
 clear h;exact U3
theorem NC (R n c k:Nat) (w:World) (h:kM w R n c) (hn:n<4096) (hc:c<=12) (hk:k<=c):
  Calls prog 326 #[.pointer (aw R),.int .i64 (k:Int)] w λe w'=>e= .returned (.tuple #[.int .i64 ((n / 2^(c - k):Nat):Int),.bool true])/\kM w' R (n % 2^(c - k)) (c - k)/\w.grownBy w' (some R):=by
 obtain⟨c0,c1,f0,f1⟩:=h.cells;have H:=aa h;obtain⟨d,hd⟩: ∃d,d=c - k:=⟨_,rfl⟩
 have aGi:d<=12:=ae;have aK:decide ((c:Int)<(k:Int))=false:=by simp;omega
 have akY:(c:Int)-(k:Int)=(d:Int):=ae;have Hd:=aa hd;clear h hd;go_in;go_wp2_with fail;have h1:=H.set1 d;have hG:=sH (RG w R) 1 (.int .i64 (d:Int));generalize w.setCell ⟨R,1,none⟩ (.int .i64 (d:Int))=w1 at h1 hG⊢;have H1:=aa h1;clear c0 c1 f0 f1;obtain⟨c0,c1,f0,f1⟩:=h1.cells;clear h1;go_quiet (fail);have H2:Hid (kM (w1.drewN nq) R n d):=H1;have fp:w.grownBy (w1.drewN nq) (some R):=⟨hG.os,hG.tape,hG.output,hG.size,hG.block⟩
 clear c0 c1 f0 f1 hG;generalize w1.drewN nq=w2 at H2 fp⊢;go_wp2_with fail;obtain⟨c0,c1,f0,f1⟩:=H2.cells;go_region;go_wp2;go_ret2;rw[<-Hd.out];refine⟨?_,?_,?_⟩
 ·simp
 ·have e:wrap64 ((n:Int)- wrap64 ((n:Int)/ 2^d*2^d))=((n % 2^d:Nat):Int):=by
   have e1:(n:Int)/ 2^d*2^d=((n / 2^d*2^d:Nat):Int):=ak;have e2:n / 2^d*2^d+n % 2^d=n:=Nat.div_add_mod' n (2^d);rw[e1,IntWalk.wrap64_in (((n / 2^d*2^d:Nat):Int)) ae,IntWalk.wrap64_in _ ae];omega
  rw[e];exact H2.set0 (n % 2^d)
 ·exact sH (⟨fp.os,fp.tape,fp.output,fp.size,fp.block⟩:w.grownBy w2.drew (some R)) 0 _
theorem agt (h:P:=by
 go_in;go_wp2_with fail;refine (HX _).mono ?_;rintro e w1 ⟨rfl,rfl⟩;go_wp2_with fail;refine (HS _ HR).mono ?_;rintro e w1 ⟨rfl,hb⟩;exact OC):P:=h
theorem aus (s:ag) (w:World) (hR:cX w) (hs:s.size<=1000000):
  Calls prog 317 #[.string s] w (bF w (.string (vR s))):=by
 have HX:Hid (∀W,Calls prog 336 #[.string s] W (eu W (.string (D0 s)))):=aa λW=>by
  exact jt
 have HS:=aa (λW h=>FS (D0 s) W h (by unfold D0;rw[ByteArray.size_append];have:(⟨#[0]⟩:ag).size=1:=rfl;omega));have HR:=aa hR;show Calls _ _ _ _ λe w'=>e= .returned (.string (bs (jA (D0 s).data.toList)))/\aD w w';generalize bs (jA (D0 s).data.toList)=r at HS⊢;generalize D0 s=x at HX HS;exact agt
theorem aut (a b:ag) (w:World) (hR:cX w) (ha:a.size<=1000000) (hb:b.size<=1000000):
  Calls prog 337 #[.string a,.string b] w (bF w (.string (D3 a b))):=by
 have HX:Hid (∀W,Calls prog 340 #[.string a,.string b] W (eu W (.string (D1 a b)))):=aa λW=>by
  exact jt
 have HS:=aa (λW h=>FS (D1 a b) W h (by unfold D1;rw[ByteArray.size_append,ByteArray.size_append];have:(⟨#[1]⟩:ag).size=1:=rfl;omega));have HR:=aa hR;show Calls _ _ _ _ λe w'=>e= .returned (.string (bs (jA (D1 a b).data.toList)))/\aD w w';generalize bs (jA (D1 a b).data.toList)=r at HS⊢;generalize D1 a b=x at HX HS;exact agt
theorem adP (n:Nat) (h1:1<=n) (h2:n<=1024):bits .and .i64 (n:Int) ((n:Int)- 1)=((n&&&(n - 1):Nat):Int):=by
 obtain⟨k,rfl⟩: ∃k,n=k+1:=⟨n - 1,ae⟩
 rw[show (((k+1:Nat):Int)- 1)=(k:Int) by omega];show IntKind.i64.wrap ((BitVec.ofInt 64 (((k+1:Nat)):Int)&&&BitVec.ofInt 64 (k:Int)).toNat:Int)=_;rw[BitVec.toNat_and,pI (k+1) ae,pI k ae,IntKind.wrap_i64,Nat.add_sub_cancel];have:(k+1)&&&k<=k:=Nat.and_le_right;omega
theorem auu (n:Nat) (w:World) (h0:n<=9223372036854775807):Calls prog 262 #[.int .i64 (n:Nat)] w (eu w (.bool (lE n))):=by
 by_cases h1:1<=n
 ·by_cases h2:n<=1024
  ·have e1:decide ((n:Int)>=1)=true:=by simp;omega
   have e2:decide ((n:Int)<=1024)=true:=(by simp;omega);have ha:=adP n h1 h2;have hm:lE n=decide (n&&&(n - 1)=0):=(by unfold lE;rw[decide_eq_true h1,decide_eq_true h2];rfl);exact ahj
  ·have e1:decide ((n:Int)>=1)=true:=by simp;omega
   have e2:decide ((n:Int)<=1024)=false:=(by simp;omega);have hm:lE n=false:=(by unfold lE;rw[decide_eq_false h2];simp);rw[hm];clear hm;exact jt
 ·have e1:decide ((n:Int)>=1)=false:=by simp;omega
  have hm:lE n=false:=by unfold lE;rw[decide_eq_false h1];rfl
  rw[hm];clear hm;exact jt
def qT (W:World) (sv:Value) (l:List ag):Prop:= ∃b aS n c cs,sv= .slice (some ⟨b,aS,none⟩) n c/\W.heap[b]?=some (.cells cs 9 (0,0))/\n=l.length/\Rd W (some ⟨b,aS,none⟩) (aZ l)
theorem qT.keep {l:List ag} (h:qT W sv l) (hk: ∀(k:Nat) (cs:bx),W.heap[k]?=some (.cells cs 9 (0,0))->W'.heap[k]?=W.heap[k]?):qT W' sv l:=by
 obtain⟨b,aS,n,c,cs,h1,h2,h3,h4⟩:=h;refine⟨b,aS,n,c,cs,h1,(hk b cs h2).trans h2,h3,λi u hu=>?_⟩;obtain⟨b',o',e,hc⟩:=h4 i u hu;refine⟨b',o',e,?_⟩;injection e with e
 injection e with e1 e2
 subst e1;unfold World.cell? at hc⊢;simp only[hk _ cs h2];exact hc
theorem qT.below {l:List ag} (h:qT W sv l) (hb:aD W W'):qT W' sv l:=
 h.keep λk cs hk=>hb.block k (bf hk)
theorem adQ {l:List ag} (h:W.ownsRow B 9 1 (.slice (aw g) n ai) n (aZ l)) (hn:n=l.length):qT W (.slice (aw g) n ai) l:=by
 have hr:=gz h;rcases h.2 with⟨hv,_⟩|⟨g',ja,bK,hv,hB,hg,_⟩
 ·cases hv
 ·injection hv with hv
  injection hv with hv
  injection hv with e1
  subst e1;exact⟨_,_,_,_,_,rfl,hg,hn,hr⟩
theorem T8 (g:Nat) (A:aN) (n c:Nat) (X:aN) (m ai k:Nat) (iJ:bJ) (b aS nt ct:Nat) (w:World) (hX:bj w g #[.slice A n c,.slice X m ai] 327) (hr:Rd w X iJ) (hm:m=k+1) (YN:m<=1000) (hs:iJ[k]?=some (.slice (some ⟨b,aS,none⟩) nt ct)):
  Calls prog 318 #[.pointer (aw g)] w (bF w (.slice (some ⟨b,aS,none⟩) nt ct)):=by
 obtain⟨bX,oX,hbX,c1⟩:=hr k _ hs;subst hbX;have x1:=aj hX 1 _ rfl;have cS:IntKind.i64.wrap ((m:Int)- 1)=(k:Int):=by rw[IntWalk.i64_in _ ae];omega
 have BC:(k:Int)<(m:Int):=ae;exact OH
theorem auv:(prog.info? 28).map (λi=>(i.zero,i.size,i.bytes))=some (some (ay),1,24):=ax
structure Eh (W:World) (B g:Nat) (A:aN) (n c:Nat) (l:List ag) (h:Nat) (X:aN) (ai:Nat) (iJ:bJ):Prop where
 box:bj W g #[.slice A n c,.slice X (h+1) ai] 327
 own:W.ownsRow B 28 1 (.slice X (h+1) ai) (h+1) iJ
 lev: ∀k,k<=h-> ∃sv,iJ[k]?=some sv/\qT W sv (lev l k)
theorem Eh.below {A:aN} {c:Nat} {l:List ag} {iJ:bJ} (r:Eh W B g A n c l h X ai iJ) (hb:aD W W'):Eh W' B g A n c l h X ai iJ:=
 ⟨aJ r.box hb,eO r.own hb,λk hk=>by obtain⟨sv,h1,h2⟩:=r.lev k hk;exact⟨sv,h1,h2.below hb⟩⟩
theorem agy (h:P:=by
 intro e;rcases h.2 with⟨rfl,_⟩|⟨g,ai,bK,rfl,_,hg,_⟩
 ·cases e
 ·injection e with e
  subst e;rw[hg]at hk;injection hk with hk
  injection hk with _ h2 _
  cases h2):P:=h
theorem adR {v:Value} (h:W.ownsRow B 28 1 v m xs) (hk:W.heap[k]?=some (.cells cs 9 (0,0))):some k≠v.ownBlock:=by
 exact agy
theorem adS {v:Value} (h:W.ownsRow B 28 1 v m xs) (hk:W.heap[k]?=some (.cells cs 327 (0,0))):some k≠v.ownBlock:=by
 exact agy
theorem T9 {v:Value} (h:W.ownsRow B 28 1 v m xs) (hg:bj W g cs 327) (u:Value):(W.setCell ⟨g,i,none⟩ u).ownsRow B 28 1 v m xs:=by
 have hn:=adS h hg;refine⟨h.1,?_⟩;rcases h.2 with h2|⟨g',ai,bK,hv,hB,kF,hr⟩
 ·exact .inl h2
 ·refine .inr ⟨g',ai,bK,hv,hB,(bz _ _ _ _ (λe=>hn ?_)).trans kF,hr⟩;rw[hv];simp only at e;rw[e];rfl
theorem qT.set {l:List ag} (h:qT W sv l) (hg:W.heap[g]?=some (.cells cs 327 (0,0))) (u:Value):qT (W.setCell ⟨g,i,none⟩ u) sv l:=
 h.keep λk AZ hk=>bz _ _ _ _ (λe=>by
  simp only at e;subst e;rw[hg]at hk;injection hk with hk
  injection hk with _ h2 _
  cases h2)
theorem auw {e:TypeId} {size:Nat} {v:Value} (ho:W.ownsRow B e size v n xs) (hg:W.grownBy W' v.ownBlock) (hB:B<=W.heap.size):Below B W W':=
 (aI B W).grown hg hB λk ek=>by
  rcases ho.2 with⟨rfl,_⟩|⟨g,ai,bK,rfl,hb,_⟩
  ·cases ek
  ·injection ek with ek
   simp only at ek;omega
theorem aux (B g:Nat) (A:aN) (n c:Nat) (l:List ag) (h:Nat) (X:aN) (ai:Nat) (iJ:bJ) (w:World) (hr:Eh w B g A n c l h X ai iJ) (hB:B<=g) (hh:h<=100) (hl:(lev l h).length<=100000) (hR:cX w):
  Calls prog 319 #[.pointer (aw g)] w λe w'=>e= .returned (.tuple #[])/\(Below B w w'/\w.heap.size<=w'.heap.size)/\ ∃X' ja svs',Eh w' B g A n c l (h+1) X' ja svs':=by
 obtain⟨sv,tr,b,aS,nt,ct,cs,rfl,mW,j0,dw⟩:=hr.lev h (aM _);have Ic:=aa (T8 g A n c X (h+1) ai h iJ b aS nt ct w hr.box (gz hr.own) rfl ae tr);have Hr:=aa hr;have ev:=aa dw;have HN:=aa j0;have HR:=aa hR;have ai9:=aa (show lev l (h+1)=pS (lev l h) from rfl);have db:=aa (acK l h);have XI:=bf hr.box;have aBf:=bf mW;rw[<-j0]at hl;obtain⟨zA,Bz⟩: ∃zA,zA=lev l h:=⟨_,rfl⟩
 rw[<-Bz]at ev HN ai9 db;obtain⟨iS,jj,tH,tA,it⟩:=info_parts mx;clear hr tr mW j0 dw hR Bz;go_in;go_wp2_with fail;refine (Ic).mono ?_;rintro e w1 ⟨rfl,aG⟩;have YV:=aa aG;clear aG;go_wp2_with (refine wpList_make_own _ ah (.const (.int .i64 0)) (.tmp 9) 28 ah w.heap.size 9 iS (.string ⟨#[]⟩) 1 underlying28 jj tH tA .i64 .i64 _ (nt / 2) ah ah (by first|rfl|omega) (by rw[it];omega) (by unfold maxLen;omega) (by exact YV.size) ?_);intro w2 dy fE;have dl:=aa dy;have qs:=aa (YV.grown fE YV.size (λk e=>by cases e));clear dy fE;go_wp2_with fail;go_loopw [3,4] (λv x wr=> ∃(q j gN cN:Nat),j=2*q/\q<=nt / 2/\x= .int .i64 (j:Nat)/\v= .slice (aw gN) q cN/\wr.ownsRow w.heap.size 9 1 (.slice (aw gN) q cN) q (aZ ((pS zA).take q))/\aD w wr) (λ_ x _=>nt+1 -(intOf x).toNat);case atStart=>exact⟨0,0,w1.heap.size,nt / 2,rfl,ae,rfl,rfl,dl,qs⟩
 case round=>
  obtain⟨q,j,gN,cN,hj,hq,rfl,rfl,ho,hb⟩:=hrel;have HO:=aa ho;have Hb:=aa hb;clear ho hb;have I0:j<=100000:=ae;by_cases aK:j+1<nt
  ·have e1:decide ((j:Int)+1<(nt:Int))=true:=by simp;omega
   have cS:IntKind.i64.wrap ((j:Int)+1)=(j:Int)+1:=IntWalk.i64_in _ ae;have i4:(0:Int)<=(j:Int)+1:=ae;have i5:((j:Int)+1).toNat=j+1:=ae;have i1:(j:Int)<(nt:Int):=ae;have i2:((j+1:Nat):Int)<(nt:Int):=ae;have i3:(j:Int)+1<(nt:Int):=ae;have la:j<zA.length:=(by rw[<-HN.out];omega);have Db:j+1<zA.length:=(by rw[<-HN.out];omega);obtain⟨b',ve,e0,c1⟩:=kG (ev.below Hb) la;injection e0 with e0
   injection e0 with t1 t2
   subst t1 t2;obtain⟨b',ve,e0,c2⟩:=kG (ev.below Hb) Db;injection e0 with e0
   injection e0 with t1 t2
   subst t1 t2;subst hj;have dG:=aa (asJ zA q Db);have z1:=db.out _ (dY la);have z2:=db.out _ (dY Db);generalize zA[2*q]=ta at c1 dG z1;generalize zA[2*q+1]=tb at c2 dG z2;have HNd:=aa (λW h=>aut ta tb W h ae ae);generalize D3 ta tb=nd at HNd dG;obtain⟨j,hj⟩: ∃j,j=2*q:=⟨_,rfl⟩
   rw[<-hj]at c1 c2 cS i1 i2 i3 i4 i5 e1 aK I0⊢;have aF0:q<=100000:=ae;have Hj:=aa hj;clear la Db z1 z2 hj;have j':b<w.heap.size:=aBf;have q1:wr.drew.cell? ⟨b,aS+j,none⟩=some (.string ta)/\wr.drew.cell? ⟨b,aS+(j+1),none⟩=some (.string tb):=⟨c1,c2⟩
   have BB:=Hb.drew;have OO:=eO HO (tq wr);clear c1 c2;go_wp2_with fail;go_region_held3 (λw'=>w'.cell? ⟨b,aS+j,none⟩=some (.string ta)/\w'.cell? ⟨b,aS+(j+1),none⟩=some (.string tb))
    (first|with_reducible assumption|with_reducible exact t8 q1)
    (first
     |((go_at_call 337;refine (HNd _ (HR.below BB)).mono ?_);rintro _ w3 ⟨rfl,aL⟩;replace q1:=i6 q1 aL;replace OO:=eO OO aL;replace BB:=bg BB aL;clear aL)
     |(refine step_append_lies _ ah (.tmp 18) (.tmp 29) 28 ah w.heap.size 9 iS (.string ⟨#[]⟩) 1 16 underlying28 jj tH tA it rfl ae (.slice (aw gN) q cN) q (aZ ((pS zA).take q)) ah (OO.alloc _) ⟨w3.heap.size,0,none⟩ 1 1 [.string nd] ah ah (World.news_of_block (aR w3 _)) (by simp[Value.oneCell']) ae (by unfold maxLen;omega) ae (by have:=BB.size;simp;omega) _ rfl ?_;intro g4 qy w4 kg hg4 xw YX;have aP:=auw (OO.alloc _) hg4 (by have:=BB.size;simp;omega);have q4:w4.cell? ⟨b,aS+j,none⟩=some (.string ta)/\w4.cell? ⟨b,aS+(j+1),none⟩=some (.string tb):=⟨(aP.cell j').trans (t8 q1).1,(aP.cell j').trans (t8 q1).2⟩))
   have iu:=aa kg;have qg:=aa (BB.trans ((be w3 _).mono BB.size|>.trans aP));clear kg hg4 xw YX aP q4 q1 OO BB;go_wp2;go_roundw;case rel=>
    refine⟨q+1,j+2,g4,qy,by have:=Hj.out;omega,by have:=Hj.out;omega,by go_num,rfl,?_,qg⟩;rw[dG.out,BG];exact iu.out
   case measure=>(simp[intOf];omega)
  ·have e1:decide ((j:Int)+1<(nt:Int))=false:=by simp;omega
   have uX:q=nt / 2:=ae;have lL:=aa (show q=(pS zA).length by rw[TB,<-HN.out];exact uX);rw[List.take_of_length_le (by rw[<-lL.out];exact aM _)]at HO;have rb:=Hr.below Hb.out;have x1:=aj rb.box 1 _ rfl;have vm:=Hb.size;clear uX hj hq;go_wp2_with (at_builtin;refine oS ah (.tmp 35) (.tmp 37) 325 ah B 28 (ay) 1 24 underlying325 auv rfl ae wr #[.slice (aw gN) q cN] 28 (.slice X (h+1) ai) (h+1) iJ ah rb.own wr.heap.size 1 1 ah ah ah ah ae ae ae ae ?_);intro g5 ajx w5 qp aY wI azZ Y';have Mi:=(wI g ae (adS rb.own rb.box)).trans rb.box;have Lv5:=aa (show∀k,k<=h+1-> ∃sv,(iJ++ [.slice (aw gN) q cN])[k]?=some sv/\qT w5 sv (lev l k) from λk hk=>by
    have vf:iJ.length=h+1:=(by have:=rb.own.1;omega);by_cases e:k<=h
    ·obtain⟨sv,s1,s2⟩:=rb.lev k e;exact⟨sv,by rw[Vv ae];exact s1,s2.keep λk' AZ vh=>wI k' (bf vh) (adR rb.own vh)⟩
    ·obtain rfl:k=h+1:=ae;refine⟨_,by rw[ux ae,vf,Nat.sub_self];rfl,?_⟩;rw[ai9.out];exact (adQ HO lL).keep λk' AZ vh=>wI k' (bf vh) (adR rb.own vh))
   have aCc:=aa qp;have aj1:=aa Mi;have y1:=aj Mi 1 _ rfl;have f1:=aU Mi 1;have di:=bt Mi 1 (.slice (aw g5) (h+1+1) ajx);simp only[List.setIfInBounds_toArray,List.set_cons_zero,List.set_cons_succ]at di;have cZ:=aa di;have zx:=aa (((Hb.mono (by omega:B<=w.heap.size)).trans aY).setCell (p:=⟨g,1,none⟩) hB (.slice (aw g5) (h+1+1) ajx));clear qp aY wI azZ Y' di Mi rb x1;go_wp2_with fail;go_end0;exact⟨rfl,⟨zx,zx.size⟩,_,_,_,⟨cZ,T9 aCc aj1 _,λk hk=>by obtain⟨sv,s1,s2⟩:=Lv5.out k hk;exact⟨sv,s1,s2.set aj1 _⟩⟩⟩
def Ua (W:World) (g:Nat):Nat:=
 match W.heap[g]? with
 |some (Obj.cells cs _ _)=>match cs[1]? with
  |some (Value.slice _ m _)=>m
  |_=>0
 |_=>0
theorem adT {u:Value} (h:W.heap[g]?=some (.cells #[u,.slice X m ai] t (0,0))):Ua W g=m:=by
 unfold Ua;rw[h];rfl
def auy (w:World) (A:aN) (n c:Nat) (l:List ag) (H:Nat) (e:Ending) (w':World):Prop:=
 ∃X ai iJ,e= .returned (.agg #[.slice A n c,.slice X (H+1) ai])/\iJ.length=H+1/\Rd w' X iJ/\(∀k,k<=H-> ∃sv,iJ[k]?=some sv/\qT w' sv (lev l k))/\aD w w'
theorem auz {a b:Value} (h:w.heap[g]?=some (.cells #[a,b] t (0,0))):(loadVar 327 ⟨g,0,none⟩).run prog w= .ok (.agg #[a,b]) w:=by
 have:=run_loadVar_mid (P:=prog) w g 0 327 [a,b] _ (λj v hj=>by
  rw[Nat.zero_add,cell_of_row w g j _ _ _ h];simpa using hj) underlying327 rfl ax
 exact oC
theorem auA {l:List ag} {H:Nat} (hl:l.length=2^H) (hh:h<=H):(lev l h).length=2^(H - h):=by rw[acI,hl,Nat.pow_div hh ae]
theorem auB (A:aN) (n c:Nat) (l:List ag) (H:Nat) (w:World) (hr:Rd w A (aZ l)) (hn:n=l.length) (hl:l.length=2^H) (hH:H<=10) (hz: ∀s∈l,s.size<=1000000) (hR:cX w):
  Calls prog 263 #[.slice A n c] w (auy w A n c l H):=by
 have ev:=aa hr;have HN:=aa hn;have HR:=aa hR;have HZ:=aa hz;have HL:=aa hl;have aGl:n<=1024:=by
  rw[hn,hl];exact bD (Nat.pow_le_pow_right ae hH) au
 obtain⟨iS,jj,tH,tA,it⟩:=info_parts mx;have ts:=aa (be w (.cells #[ay,ay] 327));have wX:=aa (aR w (.cells #[ay,ay] 327));clear hr hn hR hz hl;go_in;go_wp2_with (refine wpList_make_own _ ah (.const (.int .i64 0)) (.tmp 8) 28 ah (w.heap.size+1) 9 iS (.string ⟨#[]⟩) 1 underlying28 jj tH tA .i64 .i64 _ n ah ah (by first|rfl|omega) (by rw[it];omega) (by unfold maxLen;omega) ak ?_);intro w2 dy fE;have dl:=aa dy;have qs:=aa (ts.grown fE ak (λk e=>by cases e));have mU:=aa ((fE.block w.heap.size ak ak).trans wX);clear dy fE;go_wp2_with fail;go_loopw [3,12] (λv x wr=> ∃(i gN cN:Nat),i<=n/\x= .int .i64 (i:Nat)/\v= .slice (aw gN) i cN/\wr.ownsRow (w.heap.size+1) 9 1 (.slice (aw gN) i cN) i (aZ ((l.take i).map vR))/\bj wr w.heap.size #[ay,ay] 327/\aD w wr) (λ_ x _=>n -(intOf x).toNat);case atStart=>exact⟨0,_,_,ae,rfl,rfl,dl,mU,qs⟩
 case round=>
  clear mU;obtain⟨i,gN,cN,hi,rfl,rfl,ho,jh,hb⟩:=hrel;have HO:=aa ho;have mU:=aa jh;have Hb:=aa hb;clear ho jh hb;by_cases aK:i<n
  ·have e1:decide ((i:Int)<(n:Int))=true:=by simp;omega
   have bB:i<l.length:=(by rw[<-HN.out];exact aK);obtain⟨bA,oA,bG,c1⟩:=kG (ev.below Hb) bB;subst bG;have dG:=aa (show (l.take (i+1)).map vR=(l.take i).map vR++ [vR l[i]] by rw[List.take_succ_eq_append_getElem bB,List.map_append];rfl);have z1:=HZ.out _ (dY bB);generalize l[i]=ta at c1 dG z1;have QM:=aa (λW h=>aus ta W h z1);generalize vR ta=nd at QM dG;generalize (l.take i).map vR=ps at HO dG;clear bB z1;go_wp2_with fail;refine (QM _ (HR.below Hb)).mono ?_;rintro e w3 ⟨rfl,aL⟩;have gX:=aa (eO HO aL);have ak0:=aa (aJ mU aL);have nO:=aX Hb aL;have E3:=bf ak0.out;clear aL c1;go_wp2_with (at_builtin;refine oS ah (.tmp 16) (.tmp 19) 28 ah (w.heap.size+1) 9 (.string ⟨#[]⟩) 1 16 underlying28 mx rfl ae w3 #[.string nd] 9 (.slice (aw gN) i cN) i (aZ ps) ah gX w3.heap.size 1 1 ah ah ah ah ae ae ae ae ?_);intro g4 qy w4 kg aP _ _ _;have iu:=aa kg;have aCs:=aa ((aP.block w.heap.size ae).trans ak0);have qg:=aa (nO.trans (aP.mono ae));clear kg aP;go_wp2;go_roundw;case rel=>
    refine⟨i+1,g4,qy,ae,by go_num,rfl,?_,aCs,qg⟩;rw[dG.out,BG];exact iu.out
   case measure=>(simp[intOf];omega)
  ·obtain rfl:i=n:=ae;have e1:decide ((i:Int)<(i:Int))=false:=ak;rw[HN.out,List.take_of_length_le (aM _),<-HN.out]at HO;have Lv0:=aa (show qT wr (.slice (aw gN) i cN) (lev l 0) from adQ HO (by show i=(l.map vR).length;rw[kQ];exact HN.out));have aFA:=bf mU.out;have al1:=be wr (.cells #[.slice (aw gN) i cN] 28);have alj:=ME (w:=wr) (B:=w.heap.size+1) (e:=28) (size:=1) (n:=1) (cs:= #[.slice (aw gN) i cN]) ae rfl au;have PF:=al1.alloc ak (.cells #[.slice A i c,.slice (some ⟨wr.heap.size,0,none⟩) 1 1] 327);have Vz:=aR (wr.alloc (.cells #[.slice (aw gN) i cN] 28)) (.cells #[.slice A i c,.slice (some ⟨wr.heap.size,0,none⟩) 1 1] 327);rw[World.size_alloc]at Vz;have Y9:Hid (Eh ((wr.alloc (.cells #[.slice (aw gN) i cN] 28)).alloc (.cells #[.slice A i c,.slice (some ⟨wr.heap.size,0,none⟩) 1 1] 327)) (w.heap.size+1) (wr.heap.size+1) A i c l 0 (some ⟨wr.heap.size,0,none⟩) 1 [.slice (aw gN) i cN]):=aa ⟨Vz,alj.alloc _,λk hk=>by
    obtain rfl:k=0:=ae;exact⟨_,rfl,Lv0.below PF⟩⟩
   have aDk:=aa (aJ mU PF);have PH:=aX Hb PF;obtain⟨G,hG⟩: ∃G,G=wr.heap.size+1:=⟨_,rfl⟩
   rw[<-hG]at Y9;have HG:=aa hG;have BD:w.heap.size+1<=G:=ae;clear al1 alj PF Vz Hb hG;go_wp2_with fail;rw[<-HG.out];go_loopw [26] (λ_ wx=> ∃(h:Nat) (X:aN) (ai:Nat) (iJ:bJ),h<=H/\Eh wx (w.heap.size+1) G A i c l h X ai iJ/\bj wx w.heap.size #[ay,ay] 327/\aD w wx) (λ_ wx=>H+2 - Ua wx G);case atStart=>exact⟨0,_,_,_,ae,Y9,aDk,PH⟩
   case round=>
    clear Y9 PH;obtain⟨h,X,ai,iJ,hh,In,jh,hb⟩:=hrel;have Rw:=aa In;have Rw0:=aa In.box;have uU:=aa jh;have Hb:=aa hb;obtain⟨sv,tr,b,aS,nt,ct,cs,rfl,mW,j0,dw⟩:=In.lev h (aM _);have Ic:=aa (T8 G A i c X (h+1) ai h iJ b aS nt ct wr In.box (gz In.own) rfl ae tr);have hp:=auA HL hh;have rx:(lev l h).length<=100000:=by
     rw[hp];exact bD (Nat.pow_le_pow_right ae (by omega:H - h<=10)) au
    rw[<-j0]at hp;clear In jh hb tr mW j0 dw;by_cases aK:h<H
    ·have su:1<nt:=(by rw[hp];exact Nat.one_lt_two_pow ae);have e1:decide ((nt:Int)>1)=true:=decide_eq_true ae;clear hp;go_wp2_with fail;refine (Ic).mono ?_;rintro e w3 ⟨rfl,aL⟩;replace Rw:=aa (Rw.below aL);replace uU:=aa (aJ uU aL);replace Hb:=aX Hb aL;clear aL;go_wp2_with fail;refine (aux (w.heap.size+1) G A i c l h X ai iJ w3 Rw BD ae rx (HR.below Hb)).mono ?_;rintro e w4 ⟨rfl,⟨aP,EE⟩,X',ja,svs',mj⟩;have Rw4:=aa mj;have aA8:=aa ((aP.block w.heap.size ae).trans uU);have qg:=aa (Hb.trans (aP.mono ae));clear mj aP EE;go_wp2;go_roundw;case rel=>exact⟨h+1,X',ja,svs',ae,Rw4,aA8,qg⟩
     case measure=>
      rw[adT Rw4.box,adT Rw0.out];omega
    ·obtain rfl:h=H:=ae;have fL:nt=1:=(by rw[hp,Nat.sub_self]);have e1:decide ((nt:Int)>1)=false:=decide_eq_false ae;clear hp fL;go_wp2_with fail;refine (Ic).mono ?_;rintro e w3 ⟨rfl,aL⟩;replace Rw:=aa (Rw.below aL);replace uU:=aa (aJ uU aL);replace Hb:=aX Hb aL;clear aL;have x0:=aj Rw.box 0 _ rfl;have x1:=aj Rw.box 1 _ rfl;have y0:=aj uU 0 _ rfl;have y1:=aj uU 1 _ rfl;have f0:=aU uU 0;have f1:=aU uU 1;have s0:=bt uU 0 (.slice A i c);simp only[List.setIfInBounds_toArray,List.set_cons_zero,List.set_cons_succ]at s0;have S0:=aa s0;have s1:=bt s0 1 (.slice X (h+1) ai);simp only[List.setIfInBounds_toArray,List.set_cons_zero,List.set_cons_succ]at s1;have S1:=aa s1;clear s0 s1;go_wp2_with fail;refine bodyPost_ret (vt rfl _ _ w.heap.size ah _ (auz S1)) rfl ?_;refine⟨X,ai,iJ,rfl,by have:=Rw.own.1;omega,gz (T9 (T9 Rw.own uU _) S0 _),λk hk=>?_,((Hb.setCell (p:=⟨w.heap.size,0,none⟩) (aM _) _).setCell (p:=⟨w.heap.size,1,none⟩) (aM _) _)⟩;obtain⟨sv,h1,h2⟩:=Rw.lev k hk;exact⟨sv,h1,(h2.set uU _).set S0 _⟩
theorem auC (g:Nat) (A:aN) (n c:Nat) (X:aN) (ai:Nat) (l:List ag) (H:Nat) (iJ:bJ) (w:World) (hX:bj w g #[.slice A n c,.slice X (H+1) ai] 327) (hr:Rd w X iJ) (hH:H<=10) (hlev: ∀k,k<=H-> ∃sv,iJ[k]?=some sv/\qT w sv (lev l k)) (hl:l.length=2^H):
  Calls prog 264 #[.pointer (aw g)] w (bF w (.string (Cg l H))):=by
 obtain⟨sv,tr,b,aS,nt,ct,cs,rfl,mW,j0,dw⟩:=hlev H (aM _);have Ic:=aa (T8 g A n c X (H+1) ai H iJ b aS nt ct w hX hr rfl ae tr);have fL:nt=1:=by rw[j0];exact acL hl
 rw[acM hl]at dw;have ev:=aa dw;subst fL;go_in;go_wp2_with fail;refine (Ic).mono ?_;rintro e w3 ⟨rfl,aL⟩;obtain⟨b',ve,e0,c1⟩:=kG (i:=0) (ev.below aL) ak;injection e0 with e0
 injection e0 with t1 t2
 subst t1 t2;have c2:w3.cell? ⟨b,aS,none⟩=some (.string (Cg l H)):=c1;go_wp2;go_ret;exact⟨rfl,aL⟩
def Ei (l:List ag):Nat:=if lE l.length=true then 0 else 1
def Ej (l:List ag):ag:=if lE l.length=true then iQ l else ⟨#[]⟩
theorem Ub (A:aN) (n c:Nat) (l:List ag) (w:World) (hr:Rd w A (aZ l)) (hn:n=l.length) (hm:n<=9223372036854775807) (hz: ∀s∈l,s.size<=1000000) (hR:cX w):
  Calls prog 186 #[.slice A n c] w (bF w (.tuple #[.string (Ej l),.int .i64 (Ei l:Nat)])):=by
 have HM:=aa (λW=>auu n W hm);rw[hn]at HM;rw[<-hn]at HM;cases Bp:lE l.length with
 |false=>
  have HE:=aa (show Ei l=1/\Ej l=⟨#[]⟩ by unfold Ei Ej;rw[Bp];exact⟨rfl,rfl⟩);rw[HE.1,HE.2];rw[hn,Bp,<-hn]at HM;clear hr hn hm hz hR Bp;go_in;go_wp2_with fail;refine (HM _).mono ?_;rintro e w1 ⟨rfl,rfl⟩;exact Ew
 |true=>
  obtain⟨H,hH,hl⟩:=acG Bp;have HE:=aa (show Ei l=0/\Ej l=Cg l H by unfold Ei Ej;rw[Bp,<-acN hl];exact⟨rfl,rfl⟩);rw[HE.1,HE.2];rw[hn,Bp,<-hn]at HM;have Lr:=aa (auB A n c l H w hr hn hl hH hz hR);have HL:=aa hl;clear hr hn hm hz hR Bp hl;go_in;go_wp2_with fail;refine (HM _).mono ?_;rintro e w1 ⟨rfl,rfl⟩;go_wp2_with fail;refine (Lr).mono ?_;rintro e w2 ⟨X,ai,iJ,rfl,vf,dw,hlev,hb⟩;have al:=be w2 (.cells #[.slice A n c,.slice X (H+1) ai] 327);have kB:=aa (auC w2.heap.size A n c X ai l H iJ _ (aR w2 (.cells #[.slice A n c,.slice X (H+1) ai] 327)) (dw.below al) hH (λk hk=>by obtain⟨sv,h1,h2⟩:=hlev k hk;exact⟨sv,h1,h2.below al⟩) HL);have Hb:=aa (hb.trans (al.mono hb.size));clear dw hlev hb al;go_wp2_with fail;refine (kB).mono ?_;rintro e w3 ⟨rfl,aL⟩;go_wp2;go_ret2;exact⟨rfl,ju Hb aL⟩
end
open Go
variable {a:Act} {cB i:Nat} {cq:Array Bool} {o oi:Oper} {rs:List Nat} {w:World}
section
variable {P:Program} {bk:Array Oper} {Q:Exit->Act->World->Prop} {md:Region.Mode} {S:World->Prop} {n:Nat}
def pr (P:Program) (md:Region.Mode) (bk:Array Oper) (Q:Exit->Act->World->Prop) (S:World->Prop) (n:Nat):Nat->Array Bool->Act->World->Prop
 |0,_,_,_=>False
 |cB+1,cq,a,w=>
  Region.ready md bk cq≠ []/\
  ∀i∈Region.ready md bk cq,(i≠n->wpOp P bk Q i (λa' w'=>S w'/\pr P md bk Q S n cB (cq.setIfInBounds i true) a' w') a w)/\
   (i=n->wpOp P bk Q i (wpAny P md bk Q cB (cq.setIfInBounds i true)) a w)
theorem aeh: ∀(cB:Nat) (cq:Array Bool) (a:Act) (w:World),pr P md bk Q S n cB cq a w->wpAny P md bk Q cB cq a w
 |0,_,_,_,h=>h.elim
 |cB+1,_,_,_,h=>⟨λh0=>absurd h0 h.1,λi hi=>by
  by_cases e:i=n
  ·exact (h.2 i hi).2 e
  ·exact wpOp_mono (λa' w' h'=>aeh cB _ a' w' h'.2) ((h.2 i hi).1 e)⟩
def OV (md:Region.Mode) (bk:Array Oper) (n i:Nat):Bool:=
 match bk[n]? with
 |some o=>o.after.any λe=>Region.binds md e&&e.on==i
 |none=>false
theorem avi {v:Value} (hi:bk[i]?=some oi) (oN:i≠n) (hlast:OV md bk n i=true) (alN: ∀(j:Nat) (o:Oper) cs b,bk[j]?=some o->o.op≠ .select cs b) (hQ: ∀c a w,Q (.panic c) (a.put oi.dst v) w->Q (.panic c) a w):
  ∀(cB:Nat) (cq:Array Bool) (a:Act) (w:World),
   (∀j oj,bk[j]?=some oj->j≠i->cq.getD j true=false->(∀e∈oj.after,Region.binds md e=true->e.on≠i)->oi.apart bk oj=true)->
   i∈Region.ready md bk cq->YieldsIf P bk S oi v a->S w->
   pr P md bk Q S n cB (cq.setIfInBounds i true) (a.put oi.dst v) w->pr P md bk Q S n (cB+1) cq a w:=by
 intro cB;induction cB with
 |zero=>intro cq a w _ _ _ _ H;exact H.elim
 |succ cB ih=>
  intro cq a w als hr hy hS H;have Iz:=(mem_ready.1 hr).1;have aEq:cq.getD i false=false:=by
   rcases mg i cq.size with h'|h'
   ·simp[h']at Iz⊢;exact Iz
   ·simp[Array.getElem?_eq_none h']at Iz
  refine⟨λh=>(by rw[h]at hr;cases hr),λj hj=>?_⟩;obtain⟨alK,oj,Q0,mr⟩:=mem_ready.1 hj;have xz: ∀e∈oj.after,Region.binds md e=true->e.on≠i:=λe he hb tU=>by
   have h1:=mr e he hb;rw[tU,aEq]at h1;cases h1
  have qW:j≠n:=λe=>by
   subst e;unfold OV at hlast;rw[Q0]at hlast;obtain⟨e,he,hb⟩:=Array.any_eq_true'.1 hlast;simp only[Bool.and_eq_true,beq_iff_eq]at hb;exact xz e he hb.1 hb.2
  refine⟨λ_=>?_,λe=>absurd e qW⟩;by_cases Fj:j=i
  ·subst Fj;exact hy.wpOp hi hS ⟨hS,H⟩
  ·have h1:=(H.2 j (ready_mono hj Fj)).1 qW;have h2:=wpOp_putIf Q0 (als j oj Q0 Fj alK xz) (λcs b=>alN i oi cs b hi) (λcs b=>alN j oj cs b Q0) hQ hy h1;have aAI: ∀k ok,bk[k]?=some ok->k≠i->(cq.setIfInBounds j true).getD k true=false->
     (∀e∈ok.after,Region.binds md e=true->e.on≠i)->oi.apart bk ok=true:=λk ok hk VW Iz qf=>by
    refine als k ok hk VW ?_ qf
    by_cases QS:j=k
    ·subst QS;exact alK
    ·rw[getD_set_ne true QS]at Iz;exact Iz
   refine wpOp_mono (λa' w' h3=>⟨h3.2.1,ih (cq.setIfInBounds j true) a' w' aAI (ready_mono hr (Ne.symm Fj)) h3.1 h3.2.1 ?_⟩) h2;rw[Array.setIfInBounds_comm _ _ Fj];exact h3.2.2
theorem avj {v:Value} (i:Nat) (hi:bk[i]?=some oi) (oN:i≠n) (hlast:OV md bk n i=true) (hs:Region.noSelect bk=true) (hf:Region.free md bk cq i=true) (hr:(Region.ready md bk cq).contains i=true) (hQ: ∀c a w,Q (.panic c) (a.put oi.dst v) w->Q (.panic c) a w) (hy:YieldsIf P bk S oi v a) (hS:S w) (h:pr P md bk Q S n cB (cq.setIfInBounds i true) (a.put oi.dst v) w):pr P md bk Q S n (cB+1) cq a w:=
 avi hi oN hlast (Region.noSelect_spec hs) hQ cB cq a w (Region.free_spec hi hf) (by simpa using hr) hy hS h
def qb (P:Program) (md:Region.Mode) (bk:Array Oper) (Q:Exit->Act->World->Prop) (S:World->Prop) (n cB:Nat) (cq:Array Bool) (a:Act) (w:World) (rs:List Nat):Prop:=
 ∀i∈rs,wpOp P bk Q i (λa' w'=>S w'/\pr P md bk Q S n cB (cq.setIfInBounds i true) a' w') a w
theorem qb.nil:qb P md bk Q S n cB cq a w []:=λ_ h=>by cases h
theorem qb.cons (ho:bk[i]?=some oi) (h: ∀K:Act->World->Prop,Hid (∀a' w',S w'->(S w'->pr P md bk Q S n cB (cq.setIfInBounds i true) a' w')->K a' w')->if Region.wanted oi (yielded bk a.tmps)=true then Oper.wp P oi a w K Q else K (a.put oi.dst undef) w) (hs:qb P md bk Q S n cB cq a w rs):qb P md bk Q S n cB cq a w (i::rs):=λj hj=>by
 rcases List.mem_cons.1 hj with rfl|hj
 ·have:=h (λa' w'=>S w'/\pr P md bk Q S n cB (cq.setIfInBounds j true) a' w') (aa (λa' w' hS hW=>⟨hS,hW hS⟩))
  unfold wpOp
  simp only[ho]
  split
  ·rename_i hw;rw[if_pos hw]at this;exact .inl this
  ·rename_i hw;rw[if_neg hw]at this;exact this
 ·exact hs j hj
theorem Uq (hr:Region.ready md bk cq=rs) (aO:rs≠ []) (hn:rs.contains n=false) (h:qb P md bk Q S n cB cq a w rs):pr P md bk Q S n (cB+1) cq a w:=
 ⟨λh0=>aO (hr▸h0),λi hi=>⟨λ_=>h i (hr▸hi),λe=>by
  rw[hr]at hi;subst e;rw[List.contains_eq_mem]at hn;simp[hi]at hn⟩⟩
theorem avk (hr:Region.ready md bk cq= [n]) (ho:bk[n]?=some o) (CQ:Region.ready md bk (cq.setIfInBounds n true)= []) (h: ∀K:Act->World->Prop,Hid (∀a' w',Q .normal a' w'->K a' w')->if Region.wanted o (yielded bk a.tmps)=true then Oper.wp P o a w K Q else K (a.put o.dst undef) w):pr P md bk Q S n (cB+1) cq a w:=by
 refine⟨by rw[hr];simp,λi hi=>?_⟩;rw[hr]at hi;obtain rfl:i=n:=by simpa using hi
 refine⟨λe=>absurd rfl e,λ_=>?_⟩;have:=h (wpAny P md bk Q cB (cq.setIfInBounds i true)) (aa (λa' w' hq=>by
  cases cB with
  |zero=>exact⟨CQ,hq⟩
  |succ cB=>exact⟨λ_=>hq,λj hj=>by rw[CQ]at hj;cases hj⟩))
 unfold wpOp;simp only[ho];split
 ·rename_i hw;rw[if_pos hw]at this;exact .inl this
 ·rename_i hw;rw[if_neg hw]at this;exact this
theorem kT {v:Value} (i:Nat) (hi:bk[i]?=some oi) (hb:(decide (i≠n)&&OV md bk n i&&Region.noSelect bk&&Region.free md bk cq i&&(Region.ready md bk cq).contains i)=true) (hQ: ∀c a w,Q (.panic c) (a.put oi.dst v) w->Q (.panic c) a w) (hg:Region.wanted oi (yielded bk a.tmps)=true) (hS:S w) (hy: ∀w,S w->(execOp a.eval oi).run P w= .ok (.value v) w) (h:pr P md bk Q S n cB (cq.setIfInBounds i true) (a.put oi.dst v) w):pr P md bk Q S n (cB+1) cq a w:=by
 simp only[Bool.and_eq_true,decide_eq_true_eq]at hb;obtain⟨⟨⟨⟨h1,h2⟩,h3⟩,h4⟩,h5⟩:=hb;exact avj i hi h1 h2 h3 h4 h5 hQ (.inl ⟨hg,hy⟩) hS h
theorem kR (i:Nat) (h: ∀K:Act->World->Prop,Hid (∀a' w',S w'->(S w'->pr P md bk Q S n cB (cq.setIfInBounds i true) a' w')->K a' w')->if Region.wanted oi (yielded bk a.tmps)=true then Oper.wp P oi a w K Q else K (a.put oi.dst undef) w) (hr:Region.ready md bk cq= [i]:=by kernel_rfl) (hn: [i].contains n=false:=by kernel_rfl) (ho:bk[i]?=some oi:=by rfl):pr P md bk Q S n (cB+1) cq a w:=
 Uq hr ak hn (qb.cons ho h qb.nil)
theorem kL (h: ∀K:Act->World->Prop,Hid (∀a' w',Q .normal a' w'->K a' w')->if Region.wanted o (yielded bk a.tmps)=true then Oper.wp P o a w K Q else K (a.put o.dst undef) w) (hr:Region.ready md bk cq= [n]:=by kernel_rfl) (ho:bk[n]?=some o:=by rfl) (CQ:Region.ready md bk (cq.setIfInBounds n true)= []:=by kernel_rfl):pr P md bk Q S n (cB+1) cq a w:=
 avk hr ho CQ h
theorem jr {id:Nat} (n:Nat) (hm:P.follows .mixedOrders=true) (hS:S w.drew) (h:S w.drew->pr P .any bk Q S n bk.size (Array.replicate bk.size false) a w.drew):(Code.region id bk true).wp P Q a w:=
 wp_region_any hm (aeh _ _ _ _ (h hS))
end
end Go.Proofs.YtaglcaocpcbiiaaGreatDoor
