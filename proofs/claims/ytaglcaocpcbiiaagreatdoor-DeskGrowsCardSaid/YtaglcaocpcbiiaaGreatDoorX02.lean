import Derived.Test.YtaglcaocpcbiiaaGreatDoorX01
import Derived.Deep.Upon
import Derived.Maps.OwnSet
import Derived.Deep.RegionHeldLaw
import Derived.Laws.EntriesVeiled
set_option linter.unusedVariables false
set_option linter.unusedSimpArgs false
set_option maxRecDepth 100000
set_option maxHeartbeats 3000000
namespace Go.Proofs.YtaglcaocpcbiiaaGreatDoor
open Go.Proofs.Tryz Go.RowKit
section
variable {P:Program} {Q:Exit->Act->World->Prop} {a:Act} {bk:Array Oper} {o:Oper} {w:World}
theorem aqy (b aS j:Nat):(⟨b,aS,none⟩:Addr).add j=⟨b,aS+j,none⟩:=by
 unfold Addr.add;split
 ·rename_i h;subst h;rfl
 ·rfl
theorem abX (w:World) (t ty:TypeId) (B:Nat) (e:TypeId) (z:Value) (size bytes:Nat) (ht:P.underlying t=some (.slice e)) (hi:(P.info? e).map (λi=>(i.zero,i.size,i.bytes))=some (some z,size,bytes)) (nQ:z.cells.size=size) (cg:0<size) (A:aN) (m c:Nat) (news:bJ) (hr:Rd w A news) (hl:news.length=m*size) (h1: ∀u∈news,u.oneCell'=true) (h63:m<=1000000000) (hbytes:bytes<=1000) (hB:B<=w.heap.size):
  ∃A' ai w',(Builtin.append_ #[t,t] ty #[ay,.slice A m c]).run P w= .ok (.slice A' m ai) w'/\w'.ownsRow B e size (.slice A' m ai) m news/\aD w w':=by
 obtain⟨i,yQ,AS,sA,CB⟩:=info_parts hi;by_cases hm:m=0
 ·subst hm;rw[Nat.zero_mul]at hl;obtain rfl:news= []:=List.eq_nil_of_length_eq_zero hl;refine⟨none,0,w,?_,World.ownsRow_nil w B e size,aI _ _⟩;cases A with
  |none=>exact run_append_nothing w t t ty e i ht yQ none 0 0 (aM _) _ (Src.ofNil w ht c)
  |some a=>exact run_append_nothing w t t ty e i ht yQ none 0 0 (aM _) _ (Src.ofSlice w ht a 0 c [] ak ak ak)
 ·have ey:0<news.length:=by rw[hl];exact Nat.mul_pos ae cg
  obtain⟨b,aS,hA,_⟩:=hr 0 news[0] (by simp[ey]);subst hA;obtain⟨g,ai,w',j2,ho,hg,xw,aK⟩:=run_append_lies (P:=P) w t ty B e i z size bytes ht yQ AS sA CB nQ cg (ay) 0 [] (World.ownsRow_nil w B e size) ⟨b,aS,none⟩ m c news hl
   (λj u hu=>by
    obtain⟨b',ve,hA,hc⟩:=hr j u hu;injection hA with hA
    injection hA with e1 e2
    subst e1 e2;rw[aqy,hc]) h1 ae (by unfold maxLen;omega) (by
     have:(0+m)*bytes<=1000000000*1000:=Nat.mul_le_mul ae hbytes;omega) hB _ rfl
  rw[Nat.zero_add]at j2 ho;exact⟨some ⟨g,0,none⟩,ai,w',j2,ho,⟨hg.os,hg.tape,hg.output,hg.size,λk hk=>hg.block k hk (by simp[Value.ownBlock])⟩⟩
theorem Am {K:Act->World->Prop} {E:Prop} (lM:o.guard=none) (s x:Operand) (t:TypeId) (ho:o.op= .call {callee:= .builtin .append,args:= #[s,x],argTypes:= #[t,t]}) (B:Nat) (e:TypeId) (z:Value) (size bytes:Nat) (ht:P.underlying t=some (.slice e)) (hi:(P.info? e).map (λi=>(i.zero,i.size,i.bytes))=some (some z,size,bytes)) (nQ:z.cells.size=size) (cg:0<size) (hs:a.eval s=ay) (A:aN) (m c:Nat) (hx:a.eval x= .slice A m c) (news:bJ) (hr:Rd w A news) (hl:news.length=m*size) (h1: ∀u∈news,u.oneCell'=true) (h63:m<=1000000000) (hbytes:bytes<=1000) (hB:B<=w.heap.size) (h: ∀A' ai w',w'.ownsRow B e size (.slice A' m ai) m news->aD w w'->K (a.put o.dst (.slice A' m ai)) w'):
  if Region.wanted o (yielded bk a.tmps)=true then Oper.wp P o a w K Q else E:=by
 have hw:Region.wanted o (yielded bk a.tmps)=true:=by simp[Region.wanted,lM]
 rw[if_pos hw];obtain⟨A',ai,w',j2,h2,h3⟩:=abX (P:=P) w t o.type B e z size bytes ht hi nQ cg A m c news hr hl h1 h63 hbytes hB;unfold Oper.wp execOp;simp only[ho,resolve,invoke,builtin,Sem.run_bind,Sem.run_pure,Result.andThen_ok,List.map_toArray,List.map_cons,List.map_nil,hs,hx,j2];exact h A' ai w' h2 h3
theorem Na {rest:List Oper} (lM:o.guard=none) (s x:Operand) (t:TypeId) (ho:o.op= .call {callee:= .builtin .append,args:= #[s,x],argTypes:= #[t,t]}) (B:Nat) (e:TypeId) (z:Value) (size bytes:Nat) (ht:P.underlying t=some (.slice e)) (hi:(P.info? e).map (λi=>(i.zero,i.size,i.bytes))=some (some z,size,bytes)) (nQ:z.cells.size=size) (cg:0<size) (hs:a.eval s=ay) (A:aN) (m c:Nat) (hx:a.eval x= .slice A m c) (news:bJ) (hr:Rd w A news) (hl:news.length=m*size) (h1: ∀u∈news,u.oneCell'=true) (h63:m<=1000000000) (hbytes:bytes<=1000) (hB:B<=w.heap.size) (h: ∀A' ai w',w'.ownsRow B e size (.slice A' m ai) m news->aD w w'->wpList P bk Q rest (a.put o.dst (.slice A' m ai)) w'):
  wpList P bk Q (o::rest) a w:=by
 refine wpList_plain lM λK hK=>?_;obtain⟨A',ai,w',j2,h2,h3⟩:=abX (P:=P) w t o.type B e z size bytes ht hi nQ cg A m c news hr hl h1 h63 hbytes hB;unfold Oper.wp execOp;simp only[ho,resolve,invoke,builtin,Sem.run_bind,Sem.run_pure,Result.andThen_ok,List.map_toArray,List.map_cons,List.map_nil,hs,hx,j2];exact hK _ _ (h A' ai w' h2 h3)
theorem Gc (A b k:Nat) (hb:b<256):A<<<(k+8)|||b<<<k=(A*256+b)<<<k:=by
 have h:A<<<8+b=A<<<8|||b:=Nat.shiftLeft_add_eq_or_of_lt (show b<2^8 from hb) A;rw[Nat.add_comm k 8,Nat.shiftLeft_add,<-Nat.shiftLeft_or_distrib,<-h,Nat.shiftLeft_eq A 8]
theorem aqz (x y z t:Nat):x|||y|||z|||t=t|||z|||y|||x:=by
 rw[Nat.or_comm (x|||y|||z) t,Nat.or_comm (x|||y) z,Nat.or_comm x y,<-Nat.or_assoc,<-Nat.or_assoc]
def JQ (s:aF) (a:Nat) (dZ:Bool):Nat->Nat
 |0=>0
 |i+1=>256*JQ s a dZ i+(s.getD (if dZ then a+i else a+3 - i) 0).toNat
theorem abY (s:aF) (dZ:Bool) (j:Nat): ∀i,i<=4*j->fG s dZ i j=0
 |0,_=>rfl
 |i+1,h=>by rw[fG,if_neg ae,abY s dZ j i ae]
theorem abZ (s:aF) (dZ:Bool) (j:Nat): ∀d,fG s dZ (4*j+4+d) j=fG s dZ (4*j+4) j
 |0=>rfl
 |d+1=>by rw[<-Nat.add_assoc,fG,if_neg ae,abZ s dZ j d]
theorem aqA (s:aF) (dZ:Bool) (j:Nat) (h:4*j+4<=s.length):fG s dZ s.length j=JQ s (4*j) dZ 4:=by
 obtain⟨d,hd⟩: ∃d,s.length=4*j+4+d:=⟨s.length -(4*j+4),ae⟩
 rw[hd,abZ];have z:=abY s dZ j (4*j) (aM _);have b0:=(s.getD (4*j) 0).toNat_lt;have b1:=(s.getD (4*j+1) 0).toNat_lt;have b2:=(s.getD (4*j+2) 0).toNat_lt;have b3:=(s.getD (4*j+3) 0).toNat_lt;rw[fG,if_pos ae,fG,if_pos ae,fG,if_pos ae,fG,if_pos ae,z,Nat.zero_or];rw[show (4*j+3)% 4=3 by omega,show (4*j+2)% 4=2 by omega,show (4*j+1)% 4=1 by omega,show 4*j % 4=0 by omega];cases dZ with
 |true=>
  simp only[lT,JQ,if_true,Nat.add_zero];generalize (s.getD (4*j) 0).toNat=x0 at b0;generalize (s.getD (4*j+1) 0).toNat=x1 at b1;generalize (s.getD (4*j+2) 0).toNat=x2 at b2;generalize (s.getD (4*j+3) 0).toNat=x3 at b3;have e1:=Gc x0 x1 16 b1;have e2:=Gc (x0*256+x1) x2 8 b2;have e3:=Gc ((x0*256+x1)*256+x2) x3 0 b3;simp only[Nat.reduceAdd,Nat.reduceMul,Nat.reduceSub,Nat.zero_add]at e1 e2 e3⊢;rw[e1,e2,e3,Nat.shiftLeft_zero];omega
 |false=>
  simp only[lT,JQ,Bool.false_eq_true,if_false];simp only[show 4*j+3 - 0=4*j+3 by omega,show 4*j+3 - 1=4*j+2 by omega,show 4*j+3 - 2=4*j+1 by omega,show 4*j+3 - 3=4*j by omega];generalize (s.getD (4*j) 0).toNat=x0 at b0;generalize (s.getD (4*j+1) 0).toNat=x1 at b1;generalize (s.getD (4*j+2) 0).toNat=x2 at b2;generalize (s.getD (4*j+3) 0).toNat=x3 at b3;rw[aqz];have e1:=Gc x3 x2 16 b2;have e2:=Gc (x3*256+x2) x1 8 b1;have e3:=Gc ((x3*256+x2)*256+x1) x0 0 b0;simp only[Nat.reduceAdd,Nat.reduceMul,Nat.zero_add,Nat.mul_zero]at e1 e2 e3⊢;rw[e1,e2,e3,Nat.shiftLeft_zero];omega
def JR (x:Nat) (dZ:Bool):aF:=if dZ then [UInt8.ofNat (x / 16777216),UInt8.ofNat (x / 65536),UInt8.ofNat (x / 256),UInt8.ofNat x] else [UInt8.ofNat x,UInt8.ofNat (x / 256),UInt8.ofNat (x / 65536),UInt8.ofNat (x / 16777216)]
theorem aqB (x:Nat):UInt8.ofNat (x % 256)=UInt8.ofNat x:=by
 apply UInt8.toNat_inj.1;simp
theorem aqC (xs:List Int) (x:Nat) (dZ:Bool):lu (xs++ [(x:Int)]) dZ=lu xs dZ++JR x dZ:=by
 apply List.ext_getElem
 ·rw[oP,dx,dx,oP];cases dZ<;>simp[JR]<;>omega
 ·intro p h1 h2;rw[oP,dx]at h1;simp only[List.length_cons,List.length_nil]at h1;by_cases c:p<4*xs.length
  ·rw[List.getElem_append_left (by rw[oP];exact c)];simp only[lu,List.getElem_map,List.getElem_range,vp];rw[show (xs++ [(x:Int)]).getD (p / 4) 0=xs.getD (p / 4) 0 by rw[dh,Vv ae,dh]]
  ·rw[List.getElem_append_right (by rw[oP];omega)];simp only[oP];obtain⟨r,hr⟩: ∃r,p=4*xs.length+r:=⟨p - 4*xs.length,ae⟩
   subst hr;have oK:r<4:=ae;have hd:(4*xs.length+r)/ 4=xs.length:=ae;have hm:(4*xs.length+r)% 4=r:=ae;simp only[lu,List.getElem_map,List.getElem_range,vp,hd,hm,aqB,Nat.shiftRight_eq_div_pow];have hg:(xs++ [(x:Int)]).getD xs.length 0=(x:Int):=ak;rw[hg,Int.toNat_natCast];have hs:4*xs.length+r - 4*xs.length=r:=ae;have By:r=0\/r=1\/r=2\/r=3:=ae;cases dZ<;>rcases By with rfl|rfl|rfl|rfl<;>simp[lT,JR]
end
section
variable {i:Nat}
structure az where
 ss:List ByteArray
 cs:List (Int×ByteArray)
def bo:ag:=⟨#[]⟩
def bI:az:=⟨[],[]⟩
def gJ (n:Nat) (dQ:Int):Bool:=decide (0<=dQ)&&decide (dQ<(n:Int))
def sT (n:Nat) (c:Int×ByteArray):Bool:=decide (c.2.size<=128)&&gJ n c.1
def fY (P:az):Bool:=decide (1<=P.ss.length)&&decide (P.ss.length<=200)&&decide (P.cs.length<=100)&&P.ss.all (λs=>decide (s.size<=128))&&P.cs.all (sT P.ss.length)
def DP (cs:List (Int×ByteArray)) (i:Int):Option ag:=(cs.reverse.find? (λc=>c.1==i)).map Prod.snd
def kh (P:az) (i:Int):ag:=(DP P.cs i).getD (P.ss.getD i.toNat bo)
def eK (P:az) (dQ:Int):ByteArray×Int:=if fY P=false then (bo,1) else if gJ P.ss.length dQ=false then (bo,130) else (kh P dQ,0)
def i' (dQ:Int) (s:ag) (P:az):az×Int:=
 if fY P=false then (bI,1) else if gJ P.ss.length dQ=false then (bI,130) else if 128<s.size then (bI,2) else if 100<=P.cs.length then (bI,260) else (⟨P.ss,P.cs++ [(dQ,s)]⟩,0)
def An (fU s:ag) (n:Nat):ag:=bs (s.data.toList.take n++fU.data.toList.drop n)
def rM (ss:List ag) (c:Int×ByteArray) (kC:Int):List ag:=
 if kC<=0 then ss else if kC=1 then ss.set c.1.toNat c.2 else ss.set c.1.toNat (An (ss.getD c.1.toNat bo) c.2 (kC - 2).toNat)
def rN (P:az) (f:Nat->Int):Nat->List ByteArray
 |0=>P.ss
 |k+1=>rM (rN P f k) (P.cs.getD k (0,bo)) (f k)
theorem aqD (ss:List ag) (c:Int×ByteArray) (kC:Int):(rM ss c kC).length=ss.length:=by
 unfold rM;split
 ·rfl
 ·split<;>simp
theorem Nb (P:az) (f:Nat->Int): ∀k,(rN P f k).length=P.ss.length
 |0=>rfl
 |k+1=>by rw[rN,aqD,Nb P f k]
def uk (f:Nat->Int) (P:az):az×Int:=if fY P=false then (bI,1) else (⟨rN P f P.cs.length,[]⟩,0)
def lX (P:az):az×Int:=uk (λ_=>1) P
def eW (fates:List Int) (P:az):az×Int:=uk (λi=>fates.getD i 0) P
def iz:ag:=bs [48]
def lY:ag:=bs [49]
def nY (mark:ag):Option Int:=if mark=iz then some 1 else if mark=lY then some 2 else none
def cF (P:az) (dQ:Int):ByteArray×Bool×Int:=
 if (eK P dQ).2≠0\/(eK P dQ).1=bo then (bo,false,(eK P dQ).2)
 else match nY (eK P dQ).1 with
  |none=>(bo,false,140)
  |some far=>((eK P (dQ+far)).1,decide ((eK P (dQ+far)).2=0),(eK P (dQ+far)).2)
def fa:List (az->az×Int)->az->az×Int
 | [],P=>(P,0)
 |f::l,P=>if (f P).2≠0 then (bI,(f P).2) else fa l (f P).1
def vK (aH:Int) (n:Nat):Nat:=if aH<0\/(n:Int)<aH then n else aH.toNat
def vL (P:az) (aH:Int) (fs:List (az->az×Int)):az×Bool×Int:=
 if (fa (fs.take (vK aH fs.length)) P).2≠0 then (bI,false,(fa (fs.take (vK aH fs.length)) P).2)
 else ((fa (fs.take (vK aH fs.length)) P).1,decide (vK aH fs.length=fs.length),0)
def BW (fU:ag):ag:=if fU=iz then lY else iz
def vM (fU:ag):Int:=if fU=iz then 2 else 1
def pQ (dQ:Int) (s fU:ag):List (az->az×Int):= [i' (dQ+vM fU) s,lX,i' dQ (BW fU),lX]
def eC (P:az) (dQ:Int) (s:ag) (aH:Int):az×Bool×Int:=
 if (cF P dQ).2.2≠0 then (bI,false,(cF P dQ).2.2) else vL P aH (pQ dQ s (eK P dQ).1)
theorem Nc {P:az} {dQ:Int} (h:(cF P dQ).2.2=0):(eK P dQ).2=0:=by
 unfold cF at h;split at h
 ·exact h
 ·rename_i hn;exact Decidable.not_not.1 λe=>hn (.inl e)
def qK:List (Int×ByteArray)->az->Int->az×Int
 | [],P,_=>(P,0)
 |(a,s)::l,P,d=>if (eC P a s (min d 4)).2.2≠0 then (bI,(eC P a s (min d 4)).2.2) else if (eC P a s (min d 4)).2.1=true then qK l (eC P a s (min d 4)).1 (d - 4) else ((eC P a s (min d 4)).1,230)
def JS (aH:Int) (n:Nat):Int:=if aH<0\/4*(n:Int)<aH then 4*(n:Int) else aH
def eq (P:az) (aH:Int) (l:List (Int×ByteArray)):az×Int:=qK l P (JS aH l.length)
structure Hd where
 epoch:Int
 tries:Int
 x:Int
 b:ByteArray
 salt:ByteArray
 cred:ByteArray
 next:Int
 nx:Int
 nb:ByteArray
 nsalt:ByteArray
def eQ:Hd:=⟨0,0,0,bo,bo,bo,0,0,bo,bo⟩
def jD (n:Nat):ag:=bs (List.replicate n 0)
structure pf where
 rest:ByteArray
 bad:Bool
def ie (n:Nat) (r:pf):ByteArray×pf:=if r.rest.size<n then (bo,⟨bo,true⟩) else (r.rest.extract 0 n,⟨r.rest.extract n r.rest.size,r.bad⟩)
def SN (s:ag) (i:Nat):Nat:=(s.data.toList.getD i 0).toNat
def sU (r:pf):Int×pf:=(if (ie 1 r).1.size=0 then 0 else ((SN (ie 1 r).1 0:Nat):Int),(ie 1 r).2)
def xT (r:pf):Int×pf:=if (ie 4 r).1.size=4 then (((fG (ie 4 r).1.data.toList true 4 0:Nat):Int),(ie 4 r).2) else (0,⟨(ie 4 r).2.rest,true⟩)
abbrev HR:=Hd×pf
def SO (p:HR):HR:=({p.1 with epoch:=(xT p.2).1},(xT p.2).2)
def SP (p:HR):HR:=({p.1 with tries:=(sU p.2).1},(sU p.2).2)
def SQ (p:HR):HR:=({p.1 with x:=(sU p.2).1},(sU p.2).2)
def SR (p:HR):HR:=({p.1 with b:=(ie 32 p.2).1},(ie 32 p.2).2)
def SS (p:HR):HR:=({p.1 with salt:=(ie 16 p.2).1},(ie 16 p.2).2)
def SV (p:HR):HR:=({p.1 with cred:=(ie 32 p.2).1},(ie 32 p.2).2)
def SW (p:HR):HR:=({p.1 with next:=(xT p.2).1},(xT p.2).2)
def SY (p:HR):HR:=({p.1 with nx:=(sU p.2).1},(sU p.2).2)
def SZ (p:HR):HR:=({p.1 with nb:=(ie 32 p.2).1},(ie 32 p.2).2)
def S3 (p:HR):HR:=({p.1 with nsalt:=(ie 16 p.2).1},(ie 16 p.2).2)
def sV:List (HR->HR):= [SO,SP,SQ,SR,SS,SV]
def qL:List (HR->HR):= [SW,SY,SZ,S3]
def lB (l:List (HR->HR)) (p:HR):HR:=l.foldl (λp f=>f p) p
def rO (r:pf):Bool:=!r.bad&&decide (r.rest.size=0)
def Ao (n:Int):Bool:=decide (1<=n)&&decide (n<=1000000)
def DQ (h:Hd) (ok:Bool):Hd×Bool:=
 if ok=false\/5<h.tries then (eQ,false)
 else if h.x≠0 then (if Ao h.epoch then (h,true) else (eQ,false))
 else if h.epoch≠0\/h.b≠jD 32\/h.salt≠jD 16 then (eQ,false)
 else ({h with x:=0,b:=bo,salt:=bo},true)
def jP (s:ag):Hd×Bool:=DQ (lB sV (eQ,⟨s,false⟩)).1 (rO (lB sV (eQ,⟨s,false⟩)).2)
def Aq (h:Hd) (ok:Bool):Hd×Bool:=if ok=false\/Ao h.next=false\/h.nx=0 then (eQ,false) else (h,true)
def pg (h:Hd) (s:ag):Hd×Bool:=
 if s.size=0 then (h,true) else Aq (lB qL (h,⟨s,false⟩)).1 (rO (lB qL (h,⟨s,false⟩)).2)
def qM (n:Int):aF:=if fW n then lu [n] true else []
def u8 (n:Int):UInt8:=UInt8.ofNat (n % 256).toNat
def eD (h:Hd):ag:=bs (qM h.epoch++ [u8 h.tries]++ [u8 h.x]++(if h.x=0 then List.replicate 32 0 else h.b.data.toList)++(if h.x=0 then List.replicate 16 0 else h.salt.data.toList)++h.cred.data.toList)
def BX (epoch x:Int) (b salt:ag):ag:=bs (qM epoch++ [u8 x]++b.data.toList++salt.data.toList)
def dr (P:az):Hd×Int:=
 if (cF P 0).2.2≠0 then (eQ,(cF P 0).2.2)
 else if (cF P 0).2.1=false then (eQ,212)
 else if (jP (cF P 0).1).2=false then (eQ,140)
 else if (cF P 3).2.2≠0 then (eQ,(cF P 3).2.2)
 else if (cF P 3).2.1=false then ((jP (cF P 0).1).1,0)
 else if (pg (jP (cF P 0).1).1 (cF P 3).1).2=false then (eQ,140)
 else ((pg (jP (cF P 0).1).1 (cF P 3).1).1,0)
def gD (n:Nat):az:=⟨List.replicate n bo,[]⟩
def lZ (sum:ag):az×Int:=eq (gD 6) (-1) [(0,eD {eQ with cred:=sum})]
def nZ (P:az) (epoch x:Int) (b salt:ag) (aH:Int):az×Int:=
 if (dr P).2≠0 then (bI,(dr P).2)
 else if x<1\/255<x\/b.size≠32\/salt.size≠16 then (bI,1)
 else if epoch<=(dr P).1.epoch\/1000000<epoch then (bI,181)
 else eq P aH [(3,BX epoch x b salt)]
def fI (P:az) (epoch aH:Int):az×Int:=
 if (dr P).2≠0 then (bI,(dr P).2)
 else if epoch≠0/\(dr P).1.epoch=epoch then eq P aH [(3,bo),(3,bo)]
 else if epoch=0\/(dr P).1.next≠epoch then (bI,181)
 else
  let now:=eD {eQ with epoch:=(dr P).1.next,x:=(dr P).1.nx,b:=(dr P).1.nb,salt:=(dr P).1.nsalt,cred:=(dr P).1.cred}
  eq P aH [(0,now),(0,now),(3,bo),(3,bo)]
structure S4 where
 x:Int
 b:ByteArray
 salt:ByteArray
 p:az
 e:Int
def ki (p:az) (e:Int):S4:=⟨0,bo,bo,p,e⟩
def kH (P:az) (sum:ag) (aH:Int):S4:=
 if (dr P).2≠0 then ki bI (dr P).2
 else if (dr P).1.x=0 then ki bI 212
 else if 5<=(dr P).1.tries then ki bI 210
 else
  let q:=eq P aH [(0,eD {(dr P).1 with tries:=(dr P).1.tries+1})]
  if q.2≠0 then ki q.1 q.2
  else if (dr P).1.cred≠sum then ki q.1 211
  else
   let r:=eq q.1 (if 4<=aH then aH - 4 else aH) [(0,eD {(dr P).1 with tries:=0})]
   if r.2≠0 then ki r.1 r.2 else ⟨(dr P).1.x,(dr P).1.b,(dr P).1.salt,r.1,0⟩
theorem aqE (x:Nat):lu [(x:Int)] true=JR x true:=aqC [] x true
structure T3 where
 m:ByteArray
 t:ByteArray
 u:ByteArray
def T3.l (T:T3):List ag:= [T.m,T.t,T.u]
def T3.ok (T:T3):Prop:=(T.m=bo\/T.m=iz\/T.m=lY)/\T.t.size<=128/\T.u.size<=128
def T3.put (T:T3) (s:ag):T3:=if T.m=iz then ⟨lY,T.t,s⟩ else ⟨iz,s,T.u⟩
def T3.get (T:T3):ByteArray×Bool:=if T.m=bo then (bo,false) else if T.m=iz then (T.t,true) else (T.u,true)
theorem Ge:iz≠bo/\lY≠bo/\lY≠iz:=by
 refine⟨λe=>?_,λe=>?_,λe=>?_⟩<;>exact absurd (congrArg (λx:ByteArray=>x.data.toList) e) au
theorem ahT {T:T3} (h:T.ok):T.m.size<=128:=by
 rcases h.1 with e|e|e<;>rw[e]<;>decide
theorem ayT {T:T3} (h:T.ok) {s:ag} (hs:s.size<=128):(T.put s).ok:=by
 unfold T3.put;split
 ·exact⟨.inr (.inr rfl),h.2.1,hs⟩
 ·exact⟨.inr (.inl rfl),hs,h.2.2⟩
theorem ayU {T:T3} (s:ag):(T.put s).get=(s,true):=by
 unfold T3.put T3.get;split
 ·simp[Ge]
 ·simp[Ge]
def pl (A B:T3):az:=⟨A.l++B.l,[]⟩
theorem ab0 {A B:T3} (hA:A.ok) (hB:B.ok):fY (pl A B)=true:=by
 have a:=ahT hA;have b:=ahT hB;obtain⟨_,a1,a2⟩:=hA;obtain⟨_,b1,b2⟩:=hB;simp[fY,pl,T3.l,a,b,a1,a2,b1,b2]
theorem Nd {P:az} (h:fY P=true) (hc:P.cs= []) (hi:i<P.ss.length):eK P (i:Int)=(P.ss.getD i bo,0):=by
 have hh:gJ P.ss.length (i:Int)=true:=by simp[gJ];omega
 simp[eK,h,hh,kh,DP,hc]
theorem ab1 {P:az} (h:fY P=true) (hc:P.cs= []) (hi:i<P.ss.length) {s:ag} (hs:s.size<=128) (l:List (az->az×Int)):
  fa (i' (i:Int) s::lX::l) P=fa l ⟨P.ss.set i s,[]⟩:=by
 have hh:gJ P.ss.length (i:Int)=true:=by simp[gJ];omega
 have hw:i' (i:Int) s P=(⟨P.ss,[((i:Int),s)]⟩,0):=by
  simp[i',h,hh,hc];omega
 have hk:fY ⟨P.ss,[((i:Int),s)]⟩=true:=by
  have h':=h;simp only[fY,hc,Bool.and_eq_true,decide_eq_true_eq,List.all_nil]at h'⊢;simp only[List.all_cons,List.all_nil,sT,hh,Bool.and_true,decide_eq_true_eq,List.length_cons,List.length_nil];exact⟨⟨⟨h'.1.1.1,ae⟩,h'.1.2⟩,hs⟩
 have Q3:lX ⟨P.ss,[((i:Int),s)]⟩=(⟨P.ss.set i s,[]⟩,0):=by
  simp[lX,uk,hk,rN,rM]
 simp only[fa,hw,Q3,ne_eq,not_true_eq_false,if_false]
theorem aqF {P:az} (h:fY P=true) (hc:P.cs= []) (i:Nat) {s:ag} (hs:s.size<=128):fY ⟨P.ss.set i s,[]⟩=true:=by
 simp only[fY,hc,Bool.and_eq_true,decide_eq_true_eq,List.all_nil,List.length_set,List.all_eq_true]at h⊢;refine⟨⟨⟨h.1.1.1,ak⟩,λx hx=>?_⟩,trivial⟩;rcases List.mem_or_eq_of_mem_set hx with hx|rfl
 ·exact h.1.2 x hx
 ·exact hs
theorem aqG {P:az} (h:fY P=true) (hc:P.cs= []) (hi:i+2<P.ss.length) {s:ag} (hs:s.size<=128) (hg:(cF P (i:Int)).2.2=0):
  eC P (i:Int) s 4=(⟨(P.ss.set (i+(vM (P.ss.getD i bo)).toNat) s).set i (BW (P.ss.getD i bo)),[]⟩,true,0):=by
 have hr:(eK P (i:Int)).1=P.ss.getD i bo:=by rw[Nd h hc ae]
 have hf:((i:Int)+vM (P.ss.getD i bo))=((i+(vM (P.ss.getD i bo)).toNat:Nat):Int):=by
  unfold vM;split<;>simp
 have Mq:i+(vM (P.ss.getD i bo)).toNat<P.ss.length:=by unfold vM;split<;>simp<;>omega
 have hm:(BW (P.ss.getD i bo)).size<=128:=by unfold BW;split<;>decide
 have e:fa (pQ (i:Int) s (P.ss.getD i bo)) P=(⟨(P.ss.set (i+(vM (P.ss.getD i bo)).toNat) s).set i (BW (P.ss.getD i bo)),[]⟩,0):=by
  rw[pQ,hf,ab1 h hc Mq hs,ab1 (aqF h hc _ hs) rfl (by simp;omega) hm];rfl
 simp only[eC,hg,ne_eq,not_true_eq_false,if_false,hr,vL];have e4:vK 4 (pQ (i:Int) s (P.ss.getD i bo)).length=4:=by simp[vK,pQ]
 rw[e4,show (pQ (i:Int) s (P.ss.getD i bo)).take 4=pQ (i:Int) s (P.ss.getD i bo) from rfl,e];simp[pQ]
theorem S5:nY iz=some 1:=by simp[nY]
theorem S6:nY lY=some 2:=by simp[nY,Ge]
theorem aqH {A B:T3} (hA:A.ok) (hB:B.ok):cF (pl A B) 0=(A.get.1,A.get.2,0):=by
 have hc:=ab0 hA hB;have r0:eK (pl A B) 0=(A.m,0):=Nd (i:=0) hc rfl (by simp[pl,T3.l]);have r1:eK (pl A B) 1=(A.t,0):=Nd (i:=1) hc rfl (by simp[pl,T3.l]);have r2:eK (pl A B) 2=(A.u,0):=Nd (i:=2) hc rfl (by simp[pl,T3.l]);unfold cF T3.get;rw[r0];rcases hA.1 with e|e|e
 ·simp[e]
 ·simp[e,S5,Ge,r1]
 ·simp[e,S6,Ge,r2]
theorem aqI {A B:T3} (hA:A.ok) (hB:B.ok) {s:ag} (hs:s.size<=128):eC (pl A B) 0 s 4=(pl (A.put s) B,true,0):=by
 have:=aqG (i:=0) (ab0 hA hB) rfl (by simp[pl,T3.l]) hs (by rw[show ((0:Nat):Int)=0 from rfl,aqH hA hB]);rw[show ((0:Nat):Int)=0 from rfl]at this;rw[this];have e:(pl A B).ss.getD 0 bo=A.m:=rfl;rw[e];unfold T3.put vM BW;split<;>rfl
theorem aqJ {A B:T3} (hA:A.ok) (hB:B.ok) {s:ag} (hs:s.size<=128) (l:List (Int×ByteArray)) {d:Int} (hd:4<=d):qK ((0,s)::l) (pl A B) d=qK l (pl (A.put s) B) (d - 4):=by
 simp[qK,Int.min_eq_right hd,aqI hA hB hs]
theorem aqK {n:Int} (h0:0<=n) (h1:n<256):(((u8 n).toNat:Nat):Int)=n:=by
 simp[u8];omega
def DR (c:ag):Hd:= {eQ with cred:=c}
theorem aqL {c:ag} (hc:c.size<=32):(eD (DR c)).size<=128:=by
 have:(eD (DR c)).size=54+c.size:=by
  simp[eD,DR,eQ,ei,qM,oP,show fW 0=true by decide];omega
 omega
def Z3:T3:=⟨bo,bo,bo⟩
theorem Nf:Z3.ok:=⟨.inl rfl,au,au⟩
theorem aqM:Z3.get=(bo,false):=by simp[Z3,T3.get]
theorem aqN:gD 6=pl Z3 Z3:=rfl
theorem aqO (n:Nat):JS (-1) n=4*(n:Int):=by unfold JS;rw[if_pos (.inl ae)]
theorem aqP {A B:T3} (hA:A.ok) (hB:B.ok) {s:ag} (hs:s.size<=128):eq (pl A B) (-1) [(0,s)]=(pl (A.put s) B,0):=by
 rw[eq,aqO,List.length_cons,List.length_nil,aqJ hA hB hs _ ae];rfl
structure aqQ (P:az) (c:ag):Prop where
 ex: ∃A B:T3,P=pl A B/\A.ok/\B.ok/\A.get=(eD (DR c),true)/\B.get=(bo,false)
theorem aqR {c:ag} (hc:c.size<=32):(lZ c).2=0/\aqQ (lZ c).1 c:=by
 have hs:=aqL hc;have e:lZ c=(pl (Z3.put (eD (DR c))) Z3,0):=by
  rw[lZ,aqN];exact aqP Nf Nf hs
 rw[e];exact⟨rfl,_,_,rfl,ayT Nf hs,Nf,ayU _,aqM⟩
def aqS (x:Int) (b salt:ag):Prop:=1<=x/\x<=255/\b.size=32/\salt.size=16
def qN (e t x:Int) (b salt c:ag):Hd:=⟨e,t,x,b,salt,c,0,0,bo,bo⟩
structure gK (h:Hd):Prop where
 epoch:fW h.epoch=true
 next:fW h.next=true
 t0:0<=h.tries
 t1:h.tries<=255
 b:h.b.size<=32
 s:h.salt.size<=16
 c:h.cred.size<=32
 nb:h.nb.size<=32
 ns:h.nsalt.size<=16
theorem xU:gK eQ:=⟨au,au,au,au,au,au,au,au,au⟩
theorem JT (n:Nat) (r:pf):(ie n r).1.size<=n:=by
 unfold ie;split
 ·exact Nat.zero_le _
 ·simp;omega
theorem ab2 (r:pf):fW (xT r).1=true:=by
 unfold xT;split
 ·have:=Mw (ie 4 r).1.data.toList true 4 0;simp[fW];omega
 ·show fW 0=true;decide
theorem ab3 (r:pf):0<=(sU r).1/\(sU r).1<=255:=by
 unfold sU;split
 ·exact⟨ak,ak⟩
 ·have:=((ie 1 r).1.data.toList.getD 0 0).toNat_lt;simp only[SN];omega
theorem aqT (p:HR) (h:gK p.1):gK (SO p).1:=⟨ab2 _,h.next,h.t0,h.t1,h.b,h.s,h.c,h.nb,h.ns⟩
theorem aqU (p:HR) (h:gK p.1):gK (SP p).1:=⟨h.epoch,h.next,(ab3 _).1,(ab3 _).2,h.b,h.s,h.c,h.nb,h.ns⟩
theorem aqV (p:HR) (h:gK p.1):gK (SQ p).1:=⟨h.epoch,h.next,h.t0,h.t1,h.b,h.s,h.c,h.nb,h.ns⟩
theorem aqW (p:HR) (h:gK p.1):gK (SR p).1:=⟨h.epoch,h.next,h.t0,h.t1,JT _ _,h.s,h.c,h.nb,h.ns⟩
theorem aqX (p:HR) (h:gK p.1):gK (SS p).1:=⟨h.epoch,h.next,h.t0,h.t1,h.b,JT _ _,h.c,h.nb,h.ns⟩
theorem aqY (p:HR) (h:gK p.1):gK (SV p).1:=⟨h.epoch,h.next,h.t0,h.t1,h.b,h.s,JT _ _,h.nb,h.ns⟩
theorem aqZ (p:HR) (h:gK p.1):gK (SW p).1:=⟨h.epoch,ab2 _,h.t0,h.t1,h.b,h.s,h.c,h.nb,h.ns⟩
theorem aq0 (p:HR) (h:gK p.1):gK (SY p).1:=⟨h.epoch,h.next,h.t0,h.t1,h.b,h.s,h.c,h.nb,h.ns⟩
theorem aq1 (p:HR) (h:gK p.1):gK (SZ p).1:=⟨h.epoch,h.next,h.t0,h.t1,h.b,h.s,h.c,JT _ _,h.ns⟩
theorem aq2 (p:HR) (h:gK p.1):gK (S3 p).1:=⟨h.epoch,h.next,h.t0,h.t1,h.b,h.s,h.c,h.nb,JT _ _⟩
theorem aq3 (p:HR) (h:gK p.1):gK (lB sV p).1:=aqY _ (aqX _ (aqW _ (aqV _ (aqU _ (aqT p h)))))
theorem aq4 (p:HR) (h:gK p.1):gK (lB qL p).1:=aq2 _ (aq1 _ (aq0 _ (aqZ p h)))
theorem aq5 {h:Hd} (hw:gK h) (ok:Bool):gK (DQ h ok).1:=by
 unfold DQ;split
 ·exact xU
 ·split
  ·split
   ·exact hw
   ·exact xU
  ·split
   ·exact xU
   ·exact⟨hw.epoch,hw.next,hw.t0,hw.t1,Nat.zero_le _,Nat.zero_le _,hw.c,hw.nb,hw.ns⟩
theorem aq6 (s:ag):gK (jP s).1:=aq5 (aq3 _ xU) _
theorem aq7 {h:Hd} (hw:gK h) (ok:Bool):gK (Aq h ok).1:=by
 unfold Aq;split
 ·exact xU
 ·exact hw
theorem aq8 {h:Hd} (hw:gK h) (s:ag):gK (pg h s).1:=by
 have h2:gK (Aq (lB qL (h,⟨s,false⟩)).1 (rO (lB qL (h,⟨s,false⟩)).2)).1:=aq7 (aq4 (h,⟨s,false⟩) hw) _;unfold pg;generalize Aq (lB qL (h,⟨s,false⟩)).1 (rO (lB qL (h,⟨s,false⟩)).2)=q at h2⊢;split
 ·exact hw
 ·exact h2
theorem S7 (P:az):gK (dr P).1:=by
 have h1:=aq6 (cF P 0).1;have h2:=aq8 h1 (cF P 3).1;unfold dr;generalize pg (jP (cF P 0).1).1 (cF P 3).1=r at h2⊢;generalize jP (cF P 0).1=q at h1⊢;generalize cF P 0=a;generalize cF P 3=b;split
 ·exact xU
 ·split
  ·exact xU
  ·split
   ·exact xU
   ·split
    ·exact xU
    ·split
     ·exact h1
     ·split
      ·exact xU
      ·exact h2
end
section
open Go.Maps Go.WideMaps
variable {A B:aN} {B0 g i m n:Nat} {P:az} {a b:Value} {cs:bx} {e t:TypeId} {w w':World} {xs:bJ}
theorem JU (l m:aF):bs l++bs m=bs (l++m):=by
 apply ByteArray.ext;apply Array.ext';simp[bs]
abbrev l8:=Int×ByteArray
def JV (p:l8):bJ:= [.int .i64 p.1,.string p.2]
def jn (l:List l8):bJ:=l.flatMap JV
theorem Gf (l:List l8):(jn l).length=l.length*2:=by
 induction l with
 |nil=>rfl
 |cons a l ih=>rw[jn,List.flatMap_cons,dx,<-jn,ih,List.length_cons];simp[JV];omega
theorem aq9 (l m:List l8):jn (l++m)=jn l++jn m:=by simp[jn]
theorem aq' (l:List l8) (i:Nat) (p:l8) (h:l[i]?=some p):(jn l)[i*2]?=some (.int .i64 p.1)/\(jn l)[i*2+1]?=some (.string p.2):=by
 induction l generalizing i with
 |nil=>simp at h
 |cons a l ih=>
  cases i with
  |zero=>
   simp at h;subst h;exact⟨rfl,rfl⟩
  |succ i=>
   have:=ih i (by simpa using h);rw[jn,List.flatMap_cons,<-jn];have e:(JV a).length=2:=rfl;exact U9
theorem ag1 {P:Prop} (h:P:=by
 intro u hu;obtain⟨p,_,hp⟩:=List.mem_flatMap.1 hu;simp[JV]at hp;rcases hp with rfl|rfl<;>rfl):P:=h
theorem JW (l:List l8): ∀u∈jn l,u.oneCell'=true:=by
 exact ag1
theorem DS (l:List ag): ∀u∈aZ l,u.oneCell'=true:=by
 intro u hu;exact G5
theorem qO (l:List ag):(aZ l).length=l.length:=by simp[aZ]
theorem Ng {l:List l8} (h:Rd w A (jn l)) (hi:i<l.length):
  ∃b aS,A=some ⟨b,aS,none⟩/\w.cell? ⟨b,aS+i*2,none⟩=some (.int .i64 l[i].1)/\w.cell? ⟨b,aS+i*2+1,none⟩=some (.string l[i].2):=by
 obtain⟨h1,h2⟩:=aq' l i l[i] (by simp[hi]);obtain⟨b,aS,hA,c1⟩:=h _ _ h1;obtain⟨b2,O0,oL,c2⟩:=h _ _ h2;rw[hA]at oL;injection oL with oL
 injection oL with e1 e2
 subst e1 e2;exact⟨b,aS,hA,c1,c2⟩
theorem Gg:(prog.info? 257).map (λi=>(i.zero,i.size,i.bytes))=some (some (.agg #[.int .i64 0,.string ⟨#[]⟩]),2,24):=ax
def Ty (w:World) (A:aN) (t:TypeId):Prop:= ∀b aS,A=some ⟨b,aS,none⟩-> ∃cs,w.heap[b]?=some (.cells cs t (0,0))
theorem EA (w:World) (t:TypeId):Ty w none t:=λb aS h=>by cases h
theorem Ty.below (h:Ty w A t) (hb:aD w w'):Ty w' A t:=λb aS e=>by
 obtain⟨cs,hc⟩:=h b aS e;exact⟨cs,aJ hc hb⟩
theorem Ty.set (h:Ty w A t) (g i:Nat) (u:Value):Ty (w.setCell ⟨g,i,none⟩ u) A t:=λb aS e=>by
 obtain⟨cs,hc⟩:=h b aS e;by_cases hb:b=g
 ·subst hb;refine⟨cs.setIfInBounds i u,?_⟩;exact heap_setCell_same w b i cs t u hc
 ·exact⟨cs,(bz w ⟨g,i,none⟩ u b hb).trans hc⟩
theorem Ty.grown {T:TypeId} {fr:Nat×Nat} (h:Ty w A t) (hg:w.grownBy w' (some g)) (hT:w.heap[g]?=some (.cells cs T fr)) (aO:T≠t):Ty w' A t:=λb aS e=>by
 obtain⟨AZ,hc⟩:=h b aS e;have hb:b≠g:=λe2=>by
  subst e2;rw[hT]at hc;injection hc with hc
  injection hc with _ hc
  exact aO hc
 have aK:b<w.heap.size:=by
  rcases mg b w.heap.size with h'|h'
  ·exact h'
  ·rw[Array.getElem?_eq_none h']at hc;cases hc
 exact⟨AZ,(hg.block b aK (λe2=>hb (bW e2))).trans hc⟩
structure PB (w:World) (A:aN) (n:Nat) (B:aN) (m:Nat) (P:az):Prop where
 hn:n=P.ss.length
 hm:m=P.cs.length
 rs:Rd w A (aZ P.ss)
 rc:Rd w B (jn P.cs)
 ta:Ty w A 9
 tb:Ty w B 257
theorem PB.below (h:PB w A n B m P) (hb:aD w w'):PB w' A n B m P:=⟨h.hn,h.hm,h.rs.below hb,h.rc.below hb,h.ta.below hb,h.tb.below hb⟩
def dT (w:World) (v:Value) (P:az):Prop:= ∃A n c B m d,v= .agg #[.slice A n c,.slice B m d]/\PB w A n B m P
theorem dT.below {v:Value} (h:dT w v P) (hb:aD w w'):dT w' v P:=by
 obtain⟨A,n,c,B,m,d,rfl,h⟩:=h;exact⟨A,n,c,B,m,d,rfl,h.below hb⟩
def noV:Value:= .agg #[ay,ay]
theorem dT.no (w:World):dT w noV bI:=⟨none,0,0,none,0,0,rfl,rfl,rfl,Rd.nil _ _,Rd.nil _ _,EA _ _,EA _ _⟩
theorem arb (h0:w.cell? ⟨g,0,none⟩=some a) (h1:w.cell? ⟨g,1,none⟩=some b):(loadVar 74 ⟨g,0,none⟩).run prog w= .ok (.agg #[a,b]) w:=
 run_loadVar_mid (P:=prog) w g 0 74 [a,b] _ (λj v hj=>by
  cases j with
  |zero=>simp at hj;subst hj;exact h0
  |succ j=>cases j with
   |zero=>simp at hj;subst hj;exact h1
   |succ j=>simp at hj) underlying74 rfl ax
theorem eP (h:w.heap[g]?=some (.cells #[a,b] t (0,0))):(loadVar 74 ⟨g,0,none⟩).run prog w= .ok (.agg #[a,b]) w:=arb (aV h).1 (aV h).2.1
theorem BZ {P:Program} {fn:Func} {a t u:Tmp} {ty:TypeId} (h:fn.results= #[.cell a ty,.tmp t,.tmp u]) (tmps:bx) (w:World) (g:Nat) (ha:tmps.getD a undef= .pointer (aw g)) (v:Value) (hl:(loadVar ty ⟨g,0,none⟩).run P w= .ok v w):(results fn tmps).run P w= .ok (.tuple #[v,tmps.getD t undef,tmps.getD u undef]) w:=by
 exact OL
theorem JX (A B:aN) (n c m d:Nat) (i:Int) (w:World):Calls prog 195 #[.agg #[.slice A n c,.slice B m d],.int .i64 i] w (bF w (.bool (gJ n i))):=by
 by_cases h0:0<=i
 ·have d0:decide (0<=i)=true:=by simpa using h0
  go_in;go_wp2;go_ret;exact⟨by simp[gJ,h0],(aI _ _).alloc (aM _) _⟩
 ·have d0:decide (0<=i)=false:=by simpa using h0
  go_in;go_wp2;go_ret;exact⟨zO (by simp[gJ];intro;omega),(aI _ _).alloc (aM _) _⟩
theorem Nh (s:ag) (w:World):Calls prog 265 #[.string s] w (eu w (.bool (decide (128<s.size)))):=by
 go_in;go_wp2;go_ret;exact⟨zO (by simp;omega),rfl⟩
def Ar (s:ag):Bool:=decide (128<s.size)
theorem arc (l:List ag) (A:aN) (n c:Nat) (w:World) (hr:Rd w A (aZ l)) (hn:n=l.length) (hl:n<=1000000):
  Calls prog 320 #[.slice A n c,.func (.func 265) #[] #[]] w λe w'=>(∃x:Int,e= .returned (.int .i64 x)/\decide (0<=x)=l.any Ar)/\w'=w:=by
 have HR:=aa hr;have HN:=aa hn;clear hr hn;go_in;go_wp2_with fail;go_loopw [8] (λx wr=> ∃k:Nat,k<=n/\x= .int .i64 (k:Nat)/\(l.take k).any Ar=false/\wr=w) (λx _=>n -(intOf x).toNat);case atStart=>exact⟨0,ae,rfl,ak,rfl⟩
 case round=>
  obtain⟨k,hk,rfl,hf,rfl⟩:=hrel;have HF:=aa hf;clear hf;by_cases aK:k<n
  ·have bB:k<l.length:=by rw[<-HN.out];exact aK
   obtain⟨b,aS,rfl,hc⟩:=kG HR bB;have d0:decide ((k:Int)<(n:Int))=true:=(by simp;omega);have gq:(k:Int)<(n:Int):=ae;have Hx:=aa (show l.take (k+1)=l.take k++ [l[k]] from List.take_succ_eq_append_getElem bB);have Hm:=aa (dY bB);generalize l[k]=s at hc Hx Hm;by_cases hs:128<s.size
   ·have d1:decide (128<s.size)=true:=(by simpa using hs);go_wp2_with fail;refine (Nh s _).mono ?_;rintro e w1 ⟨rfl,rfl⟩;go_wp2;go_ret;refine⟨⟨_,rfl,?_⟩,rfl⟩;rw[decide_eq_true ae];exact (List.any_eq_true.2 ⟨s,Hm,d1⟩).symm
   ·have d1:decide (128<s.size)=false:=(by simpa using hs);go_wp2_with fail;refine (Nh s _).mono ?_;rintro e w1 ⟨rfl,rfl⟩;go_wp2;go_roundw;case rel=>exact⟨k+1,ae,by go_num,by rw[Hx.out,List.any_append,HF.out];simp[Ar];omega⟩
    case measure=>exact cM
  ·obtain rfl:k=n:=ae;have d0:decide ((k:Int)<(k:Int))=false:=ak;go_wp2;go_ret;refine⟨⟨-1,rfl,?_⟩,rfl⟩;have:=HF.out;rw[List.take_of_length_le (by rw[HN.out];exact aM _)]at this;rw[this];rfl
theorem ab4 (l:List ag) (A:aN) (n c:Nat) (w:World) (hr:Rd w A (aZ l)) (hn:n=l.length) (hl:n<=1000000):
  Calls prog 266 #[.slice A n c,.func (.func 265) #[] #[]] w (eu w (.bool (l.any Ar))):=by
 have HR:=aa hr;have HN:=aa hn;clear hr hn;go_in;go_wp2_with fail;refine (arc l A n c _ HR HN hl).mono ?_;rintro e w1 ⟨⟨x,rfl,hx⟩,rfl⟩;have Hx:=aa hx;clear hx;go_wp2;go_ret;exact⟨zO Hx,rfl⟩
theorem ard (l:List ag):l.all (λs=>decide (s.size<=128))=!(l.any Ar):=by
 induction l with
 |nil=>rfl
 |cons a l ih=>
  rw[List.all_cons,List.any_cons,ih];by_cases h:128<a.size
  ·simp[Ar,h];omega
  ·simp[Ar,h];intro _;omega
theorem OI {P:Prop} (h:P:=by
 go_wp2;go_ret;exact⟨by rw[Hf.out];rfl,bG⟩):P:=h
theorem JY (A B:aN) (n c m d:Nat) (P:az) (w:World) (h:PB w A n B m P):
  Calls prog 191 #[.agg #[.slice A n c,.slice B m d]] w (bF w (.bool (fY P))):=by
 have H:=aa h;have X4:=aa (show fY P=(decide (1<=n)&&decide (n<=200)&&decide (m<=100)&&!(P.ss.any Ar)&&P.cs.all (sT n)) by rw[fY,ard,h.hn,h.hm]);clear h;have bG:=be w (.cells #[.slice A n c,.slice B m d] 74);by_cases h1:1<=n/\n<=200/\m<=100
 ·obtain⟨h1,h2,h3⟩:=h1;have d1:decide ((n:Int)<1)=false:=by simp;omega
  have d2:decide (200<(n:Int))=false:=by simp;omega
  have d3:decide (100<(m:Int))=false:=by simp;omega
  have Mu:=aa (H.below bG);cases hany:P.ss.any Ar with
  |true=>
   have Hf:=aa (show fY P=false by rw[X4.out,hany];simp);have Ha:=aa hany;clear hany;go_in;go_wp2_with fail;refine (ab4 P.ss A n c _ Mu.rs Mu.hn ae).mono ?_;rintro e w1 ⟨rfl,rfl⟩;rw[Ha.out];exact OI
  |false=>
   have Hf:=aa (show fY P=P.cs.all (sT n) by rw[X4.out,hany,decide_eq_true h1,decide_eq_true h2,decide_eq_true h3];simp);have Ha:=aa hany;clear hany;go_in;go_wp2_with fail;refine (ab4 P.ss A n c _ Mu.rs Mu.hn ae).mono ?_;rintro e w1 ⟨rfl,rfl⟩;rw[Ha.out];go_wp2_with fail;go_loopw [29] (λx wr=> ∃k:Nat,k<=m/\x= .int .i64 (k:Nat)/\(P.cs.take k).all (sT n)=true/\Below (w.alloc (.cells #[.slice A n c,.slice B m d] 74)).heap.size (w.alloc (.cells #[.slice A n c,.slice B m d] 74)) wr) (λx _=>m -(intOf x).toNat);case atStart=>exact⟨0,ae,rfl,ak,aI _ _⟩
   case round=>
    obtain⟨k,hk,rfl,hf,hW⟩:=hrel;have HF:=aa hf;have HW:=aa hW;have hX:=vq hW;obtain⟨x0,x1,_,_⟩:=aV hX;have YM:=aa (Mu.below hW);clear hf hW hX;by_cases aK:k<m
    ·have bB:k<P.cs.length:=(by rw[<-YM.hm];exact aK);obtain⟨b,aS,hB,c0,c1⟩:=Ng YM.rc bB;subst hB;have d0:decide ((k:Int)<(m:Int))=true:=(by simp;omega);have gq:(k:Int)<(m:Int):=ae;have Hx:=aa (show P.cs.take (k+1)=P.cs.take k++ [P.cs[k]] from List.take_succ_eq_append_getElem bB);have Hm:=aa (dY bB);generalize P.cs[k]=q at c0 c1 Hx Hm;obtain⟨i,s⟩:=q;simp only at c0 c1;by_cases hs:128<s.size
     ·have d4:decide (128<s.size)=true:=(by simpa using hs);have ke:=aa (show P.cs.all (sT n)=false by rw[List.all_eq_false];exact⟨_,Hm,by simp[sT];omega⟩);go_wp2_with fail;refine (Nh s _).mono ?_;rintro e w1 ⟨rfl,rfl⟩;rw[d4];go_wp2;go_ret;exact⟨by rw[Hf.out,ke.out];rfl,bg bG (HW.alloc HW.size _)⟩
     ·have d4:decide (128<s.size)=false:=(by simpa using hs);go_wp2_with fail;refine (Nh s _).mono ?_;rintro e w1 ⟨rfl,rfl⟩;rw[d4];have KQ:=HW.alloc HW.size (.cells #[.int .i64 i,.string s] 257);have y0:=(Below.cell (Below.alloc (aI wr.heap.size wr) (aM _) (.cells #[.int .i64 i,.string s] 257)) (cU x0)).trans x0;have y1:=(Below.cell (Below.alloc (aI wr.heap.size wr) (aM _) (.cells #[.int .i64 i,.string s] 257)) (cU x1)).trans x1;go_wp2_with fail;refine (JX _ _ n c m d i _).mono ?_;rintro e w1 ⟨rfl,aG⟩;have fR:=aa (bg KQ aG);clear aG;cases hh:gJ n i with
      |true=>
       have Hp:=aa (show sT n (i,s)=true by simp[sT,hh];omega);clear hh;go_wp2;go_roundw;case rel=>exact⟨k+1,ae,by go_num,by rw[Hx.out,List.all_append,HF.out];simp[Hp.out],fR⟩
       case measure=>exact cM
      |false=>
       have ke:=aa (show P.cs.all (sT n)=false by rw[List.all_eq_false];exact⟨_,Hm,by simp[sT,hh]⟩);clear hh;go_wp2;go_ret;exact⟨by rw[Hf.out,ke.out];rfl,bg bG fR⟩
    ·obtain rfl:k=m:=ae;have d0:decide ((k:Int)<(k:Int))=false:=ak;have ke:=aa (show P.cs.all (sT n)=true by
      have:=HF.out;rw[List.take_of_length_le (by rw[YM.hm];exact aM _)]at this;exact this)
     go_wp2;go_ret;exact⟨by rw[Hf.out,ke.out];rfl,bg bG HW⟩
 ·have Hf:=aa (show fY P=false by
   rw[X4.out];by_cases a1:1<=n
   ·by_cases a2:n<=200
    ·have a3: ¬m<=100:=λe=>h1 ⟨a1,a2,e⟩;simp[a3]
    ·simp[a2]
   ·simp[a1])
  by_cases a1:1<=n
  ·have d1:decide ((n:Int)<1)=false:=by simp;omega
   by_cases a2:n<=200
   ·have d2:decide (200<(n:Int))=false:=(by simp;omega);have d3:decide (100<(m:Int))=true:=(by simp;omega);go_in;exact OI
   ·have d2:decide (200<(n:Int))=true:=(by simp;omega);go_in;exact OI
  ·have d1:decide ((n:Int)<1)=true:=by simp;omega
   go_in;exact OI
theorem ab5 {H:Type} {P:Program} (w:World) {bk:Array Oper} {rest:List Oper} {o:Oper} {a:Act} {Q:Exit->Act->World->Prop} (hg:o.guard=none) (m x v:Operand) (t:TypeId) (je:o.op=Op.insert t m x v) (k e:TypeId) (K:Keyed P k) (ht:P.underlying t=some (.map k e)) (R:Value->Option (DataW H×List MemPlace)) (b n:Nat) (D:DataW H) (hm:a.eval m= .map (some b)) (lN:w.ownsMap P k R b n D) (hn:n<maxLen) (key val:Value) (kl:Lit) (hx:a.eval x=key) (hv:a.eval v=val) (Wt:keyOf P k key=some kl) (d:DataW H) (ps:List MemPlace) (P4:R val=some (d,ps)) (hK: ∀w',w'.ownsMap P k R b (n+1) (D.put kl d)->w.grownBy w' (some b)->wpList P bk Q rest (a.put o.dst undef) w'):
  wpList P bk Q (o::rest) a w:=by
 refine wpList_plain hg λK' uY=>?_;obtain⟨w',j2,r1,r2⟩:=lN.update K ht hn Wt P4;unfold Oper.wp;simp[execOp,je,hm,hx,hv,j2,Result.andThen];exact uY _ _ (hK w' r1 r2)
theorem JZ {m m':ag} (h:m≠m'):(Lit.string m.data.toList)≠Lit.string m'.data.toList:=λe=>h (by
 injection e with e
 have:=congrArg bs e;rwa [Dx,Dx]at this)
def J0:DataW Unit:=((DataW.map []).put (.string iz.data.toList) (.lit (.int .i64 1))).put (.string lY.data.toList) (.lit (.int .i64 2))
theorem are (mark:ag):J0.atKey (.string mark.data.toList) (.lit (.int .i64 0))= .lit (.int .i64 ((nY mark).getD 0))/\Maps.has J0 (.string mark.data.toList)=(nY mark).isSome:=by
 have ne:lY≠iz:=λe=>absurd (congrArg (λx:ByteArray=>x.data.toList) e) au;by_cases h0:mark=iz
 ·subst h0;have k:=JZ (Ne.symm ne);rw[J0,atKey_put_other k,atKey_put_same isMap_empty (show WideAt.IsKeyLit (.string iz.data.toList) from trivial),has_put_other k,has_put_same isMap_empty (show WideAt.IsKeyLit (.string iz.data.toList) from trivial)];simp[nY]
 ·by_cases h1:mark=lY
  ·subst h1;rw[J0,atKey_put_same (isMap_empty.put _ _) (show WideAt.IsKeyLit (.string lY.data.toList) from trivial),has_put_same (isMap_empty.put _ _) (show WideAt.IsKeyLit (.string lY.data.toList) from trivial)];simp[nY,ne]
  ·rw[J0,atKey_put_other (JZ h1),atKey_put_other (JZ h0),has_put_other (JZ h1),has_put_other (JZ h0)];simp[nY,h0,h1];exact⟨rfl,rfl⟩
theorem arf (w:World):(zeroValue 3).run prog w= .ok (.int .i64 0) w:=zeroValue3 w
theorem Ni (mark:ag) (w:World) (hm:mark.size<=1000):Calls prog 146 #[.string mark] w (bF w (.tuple #[.int .i64 ((nY mark).getD 0),.bool (nY mark).isSome])):=by
 have hmm:= @run_makeMap prog;have Qq:(w.alloc (.map #[] 0)).ownsMap prog 9 (plainElem (H:=Unit) prog 3) w.heap.size 0 (.map []):=World.ownsMap_made _ _ _ _;have HM:=aa (are mark);go_in;go_wp2_with (first
  |(refine ab5 _ rfl _ _ _ 288 rfl 9 3 (string_keyed underlying9) underlying288 (plainElem (H:=Unit) prog 3) w.heap.size 0 _ rfl Qq (by unfold maxLen;omega) _ _ _ rfl rfl (keyOf_string_mk underlying9 (show iz.size<=maxLen by decide)) _ [] (plainElem_int underlying3 (a:=1) au) ?_;intro w1 hM1 Du;have aG:aD w w1:=((aI _ w).alloc (aM _) _).trans (gZ Du (aM _) ak))
  |(refine ab5 _ rfl _ _ _ 288 rfl 9 3 (string_keyed underlying9) underlying288 (plainElem (H:=Unit) prog 3) w.heap.size 1 _ rfl hM1 (by unfold maxLen;omega) _ _ _ rfl rfl (keyOf_string_mk underlying9 (show lY.size<=maxLen by decide)) _ [] (plainElem_int underlying3 (a:=2) au) ?_;intro w2 Pm fp;have av:aD w w2:=aG.trans (gZ fp (aM _) aG.size))
  |(at_lookup;refine wpList_lookup_own_ok_int _ rfl _ _ 288 rfl 9 3 .i64 (string_keyed underlying9) underlying288 underlying3 (arf _) w.heap.size _ _ rfl Pm _ _ rfl (keyOf_string_mk underlying9 (show mark.size<=maxLen by unfold maxLen;omega)) ?_;intro c xw hwc))
 go_ret2;have h1:=HM.1.symm.trans xw;have h2:=HM.2;injection h1 with h1
 injection h1 with _ h1
 refine⟨?_,av⟩;rw[<-h2,h1];rfl
theorem Nj {size:Nat} {c:Nat} (h:w.ownsRow B0 e size (.slice A m c) n xs):Ty w A e:=λb aS e'=>by
 rcases h.2 with⟨hv,_⟩|⟨g,ai,bK,hv,_,hg,_⟩
 ·injection hv with hA
  rw[hA]at e';cases e'
 ·injection hv with hA
  rw[hA]at e';injection e' with e'
  injection e' with e'
  subst e';exact⟨bK,hg⟩
structure OB (w:World) (B0:Nat) (A:aN) (n c:Nat) (B:aN) (m d:Nat) (P:az):Prop where
 hn:n=P.ss.length
 hm:m=P.cs.length
 os:w.ownsRow B0 9 1 (.slice A n c) n (aZ P.ss)
 oc:w.ownsRow B0 257 2 (.slice B m d) m (jn P.cs)
theorem OB.pb {c d:Nat} (h:OB w B0 A n c B m d P):PB w A n B m P:=⟨h.hn,h.hm,gz h.os,gz h.oc,Nj h.os,Nj h.oc⟩
theorem OB.below {c d:Nat} (h:OB w B0 A n c B m d P) (hb:aD w w'):OB w' B0 A n c B m d P:=⟨h.hn,h.hm,eO h.os hb,eO h.oc hb⟩
def oa (w:World) (B0 g:Nat) (P:az):Prop:= ∃A n c B m d,bj w g #[.slice A n c,.slice B m d] 259/\B0<=g/\OB w B0 A n c B m d P
theorem oa.below (h:oa w B0 g P) (hb:aD w w'):oa w' B0 g P:=by
 obtain⟨A,n,c,B,m,d,h1,h2,h3⟩:=h;exact⟨A,n,c,B,m,d,aJ h1 hb,h2,h3.below hb⟩
theorem S8 (A B:aN) (n c m d:Nat) (P:az) (w:World) (h:PB w A n B m P) (hn:n<=1000000) (hm:m<=1000000):
  Calls prog 192 #[.agg #[.slice A n c,.slice B m d]] w λe w'=> ∃g,e= .returned (.pointer (aw g))/\oa w' w.heap.size g P/\aD w w':=by
 have H:=aa h;have bG:=be w (.cells #[.slice A n c,.slice B m d] 74);have HP:=aa (H.below bG);have x0:(w.alloc (.cells #[.slice A n c,.slice B m d] 74)).cell? ⟨w.heap.size,0,none⟩=some (.slice A n c):=(aV (aR w _)).1;have x1:(w.alloc (.cells #[.slice A n c,.slice B m d] 74)).cell? ⟨w.heap.size,1,none⟩=some (.slice B m d):=(aV (aR w _)).2.1;have nH:=aa bG;go_in;go_wp2_with fail;go_region_held3 (λw'=>w'.cell? ⟨w.heap.size,0,none⟩=some (.slice A n c)/\w'.cell? ⟨w.heap.size,1,none⟩=some (.slice B m d))
  (first|assumption|exact⟨x0,x1⟩|exact t8 (by assumption)|exact i6 ⟨x0,x1⟩ (by assumption)|exact i6 (by assumption) (by assumption))
  (first
   |(refine Am ah _ _ 28 ah w.heap.size 9 (.string ⟨#[]⟩) 1 16 underlying28 mx rfl ae ah A n c ah (aZ P.ss) (by exact HP.rs) (by rw[qO,<-H.hn,Nat.mul_one]) (DS _) ae ae (by exact nH.size) ?_;intro A1 lH w1 fQ AQ;have aG:=bg ((aI _ (w.alloc (.cells #[.slice A n c,.slice B m d] 74))).drew) AQ)
   |(refine Am ah _ _ 72 ah w.heap.size 257 (.agg #[.int .i64 0,.string ⟨#[]⟩]) 2 24 underlying72 Gg rfl ae ah B m d ah (jn P.cs) (by exact HP.rc.below aG) (by rw[Gf,<-H.hm]) (JW _) ae ae (by exact bD nH.size aG.size) ?_;intro B1 eM w2 dy av))
 go_wp2;go_ret;have aL:=(aI _ w2).alloc (aM _) (.cells #[.slice A1 n lH,.slice B1 m eM] 259);exact⟨w2.heap.size,rfl,⟨A1,n,lH,B1,m,eM,aR w2 _,bD nH.size (bD aG.size av.size),H.hn,H.hm,eO (eO fQ av) aL,eO dy aL⟩,bg (bg (bg nH aG) av) aL⟩
theorem As {size:Nat} {v:Value} (h:w.ownsRow B0 e size v n xs): ∀k,v.ownBlock=some k-> ∃bK,w.heap[k]?=some (.cells bK e (0,0)):=by
 intro k hk;rcases h.2 with⟨hv,_⟩|⟨g,ai,bK,hv,_,hg,_⟩
 ·rw[hv]at hk;cases hk
 ·rw[hv]at hk;injection hk with hk
  subst hk;exact⟨bK,hg⟩
theorem ab6 {e':TypeId} {size ay3:Nat} {v v':Value} {n':Nat} {xs':bJ} (h:w.ownsRow B0 e size v n xs) (h':w.ownsRow B0 e' ay3 v' n' xs') (aO:e≠e'):v.ownBlock=none\/v.ownBlock≠v'.ownBlock:=by
 cases hv:v.ownBlock with
 |none=>exact .inl rfl
 |some k=>
  refine .inr λhk=>?_;obtain⟨c,hc⟩:=As h k hv;obtain⟨c',wV⟩:=As h' k hk.symm;rw[hc]at wV;injection wV with wV
  injection wV with _ wV
  exact aO wV
theorem mC {size:Nat} {v:Value} (hg:w.heap[g]?=some (.cells cs t (0,0))) (h:w.ownsRow B0 e size v n xs) (aO:t≠e):some g≠v.ownBlock:=λhk=>by
 obtain⟨c,hc⟩:=As h g hk.symm;rw[hg]at hc;injection hc with hc
 injection hc with _ hc
 exact aO hc
theorem jQ {b:Nat} (h:B0<=b) (u:Value):Below B0 w (w.setCell ⟨b,i,none⟩ u):=
 ⟨rfl,rfl,rfl,ak,λk hk=>bz w ⟨b,i,none⟩ u k (by simp;omega)⟩
theorem S9 (B0 g:Nat) (P:az) (w:World) (h:oa w B0 g P):
  Calls prog 194 #[.pointer (aw g)] w λe w'=> ∃A n c B m d,e= .returned (.agg #[.slice A n c,.slice B m d])/\OB w' B0 A n c B m d P/\aD w w':=by
 obtain⟨A,n,c,B,m,d,hg,hB,hO⟩:=h;have HO:=aa hO;have aK:g<w.heap.size:=bf hg;obtain⟨x0,x1,y0,y1⟩:=aV hg;have aO:w.heap.size≠g:=ae;go_in;go_wp2_with fail;go_region_held3 (λw'=>w'.cell? ⟨g,0,none⟩=some (.slice A n c)/\w'.cell? ⟨g,1,none⟩=some (.slice B m d))
  (first|assumption|exact⟨x0,x1⟩|exact t8 ⟨x0,x1⟩|exact ip (ip (t8 ⟨x0,x1⟩) (by simp;omega) (by simp;omega)) (by simp;omega) (by simp;omega))
  (fail)
 go_wp2_with fail;have bG:=(be w (.cells #[.slice A n c,.slice B m d] 74)).drew;have hn:=aR w (.cells #[.slice A n c,.slice B m d] 74);refine bodyPost_ret (vt rfl _ _ w.heap.size ah _ (eP (w:=(w.alloc (.cells #[.slice A n c,.slice B m d] 74)).drew) hn)) rfl ?_;exact⟨A,n,c,B,m,d,rfl,HO.below bG,bG⟩
theorem arg (B0 g:Nat) (P:az) (i:Int) (s:ag) (w:World) (h:oa w B0 g P) (kD:B0<=w.heap.size) (hc:P.cs.length<=1000):
  Calls prog 229 #[.pointer (aw g),.int .i64 i,.string s] w λe w'=>(∃v,e= .returned v)/\oa w' B0 g ⟨P.ss,P.cs++ [(i,s)]⟩/\Below B0 w w':=by
 obtain⟨A,n,c,B,m,d,hg,hB,hO⟩:=h;have aK:g<w.heap.size:=bf hg;have mO:m<=1000:=by rw[hO.hm];exact hc
 have HO:=aa hO;have HG:=aa hg;obtain⟨x0,x1,y0,y1⟩:=aV hg;have HF:=aa (mC hg hO.oc au);go_in;go_wp2_with (at_builtin;refine oS ah (.tmp 10) (.tmp 14) 72 ah B0 257 (.agg #[.int .i64 0,.string ⟨#[]⟩]) 2 24 underlying72 Gg rfl ae w _ _ _ _ _ ah HO.oc _ 1 1 ah ah ah ah ae ae ae (by exact kD) ?_);intro g2 eM w2 dy av fC aE' iU;have fE:=(fC g aK HF).trans HG.out;obtain⟨x0',x1',y0',y1'⟩:=aV fE;have FD:=aa fE;have dl:=aa dy;have dg:=aa (HO.os.kept (row:=(Value.slice B m d).ownBlock) ⟨av.os,av.tape,av.output,av.size,fC⟩ (ab6 HO.os HO.oc au));have bq:=aa av;go_wp2_with fail;go_end0;have aO:=mC FD dl au;have va:=mC FD dg au;refine⟨⟨_,rfl⟩,⟨A,n,c,_,m+1,eM,bt FD 1 (.slice (aw g2) (m+1) eM),hB,HO.hn,by simp[HO.hm],ownsRow_setCell_other dg (λe=>va e.symm) _,?_⟩,(bq).trans (jQ hB _)⟩;rw[aq9];exact ownsRow_setCell_other dl (λe=>aO e.symm) _
def sW (w w':World):Prop:= ∀(k:Nat) (o:Obj),w.heap[k]?=some o->(∀cs fr,o≠Obj.cells cs 9 fr)->w'.heap[k]?=some o
theorem sW.trans {a b c:World} (h:sW a b) (h':sW b c):sW a c:=λk o ho hn=>h' k o (h k o ho hn) hn
theorem sW.below (h:aD w w'):sW w w':=λk o ho _=>aJ ho h
theorem ab7 {ga ai:Nat} (h:w.ownsRow B0 9 1 (.slice (aw ga) n ai) n xs) (u:Value):sW w (w.setCell ⟨ga,i,none⟩ u):=λk o ho hn=>by
 obtain⟨bK,hc⟩:=As h ga rfl;refine (bz w ⟨ga,i,none⟩ u k (λe=>?_)).trans ho;subst e;rw[hc]at ho;exact hn _ _ (bW ho).symm
theorem agO {P:Prop} (h:P:=by
 refine ownsRow_setCell_other HO.oc (λe=>?_) _;rcases ab6 HO.oc HO.os au with h|h
 ·rw[h]at e;cases e
 ·exact h e):P:=h
theorem ab8 (B0 g:Nat) (P:az) (i:Nat) (s:ag) (w:World) (h:oa w B0 g P) (hi:i<P.ss.length):
  Calls prog 121 #[.pointer (aw g),.int .i64 (i:Nat),.string s] w λe w'=>(∃v,e= .returned v)/\oa w' B0 g ⟨P.ss.set i s,P.cs⟩/\Below B0 w w'/\sW w w':=by
 obtain⟨A,n,c,B,m,d,hg,hB,hO⟩:=h;have oN:i<n:=by rw[hO.hn];exact hi
 have aAC:(i:Int)<(n:Int):=ae;obtain⟨ga,ai,hA,uW,azW⟩:=hO.os.form ae;injection hA with hA _ hc
 subst hA hc;obtain⟨x0,x1,y0,y1⟩:=aV hg;have c0:=hO.os.cellAt i ae;rw[show (aZ P.ss)[i]?=some (.string P.ss[i]) by simp[aZ,hi]]at c0;have f0:=hO.os.frozenAt i;have HO:=aa hO;have HG:=aa hg;generalize P.ss[i]=fU at c0;go_in;go_wp2_with fail;go_end0;have st:=HO.os.stored i (.string s);have aO:g≠ga:=λe=>mC HG HO.os au (by simp[Value.ownBlock,e]);refine⟨⟨_,rfl⟩,⟨_,n,c,B,m,d,(bz w ⟨ga,i,none⟩ _ g aO).trans HG,hB,by simp[HO.hn],HO.hm,?_,?_⟩,jQ uW _,ab7 HO.os _⟩
 ·rw[show aZ (P.ss.set i s)=(aZ P.ss).set i (.string s) by simp[aZ]];exact st.1
 ·exact agO
theorem arh (B0 g:Nat) (P:az) (i:Nat) (s:ag) (k:Nat) (T:ag) (HT0:Hid (T=An (P.ss.getD i bo) s k)) (w:World) (h:oa w B0 g P) (hi:i<P.ss.length) (hs:s.size<=1000) (qN: ∀x∈P.ss,x.size<=1000):
  Calls prog 267 #[.pointer (aw g),.int .i64 (i:Nat),.string s,.int .i64 (k:Nat)] w λe w'=>(∃v,e= .returned v)/\oa w' B0 g ⟨P.ss.set i T,P.cs⟩/\Below B0 w w'/\sW w w':=by
 obtain⟨A,n,c,B,m,d,hg,hB,hO⟩:=h;have oN:i<n:=by rw[hO.hn];exact hi
 have aAC:(i:Int)<(n:Int):=ae;obtain⟨ga,ai,hA,uW,azW⟩:=hO.os.form ae;injection hA with hA _ hc
 subst hA hc;obtain⟨x0,x1,y0,y1⟩:=aV hg;have c0:=hO.os.cellAt i ae;rw[show (aZ P.ss)[i]?=some (.string P.ss[i]) by simp[aZ,hi]]at c0;have f0:=hO.os.frozenAt i;have HO:=aa hO;have HG:=aa hg;have HD:=aa (show P.ss.getD i bo=P.ss[i] by simp[hi]);have WE:=qN _ (dY hi);generalize P.ss[i]=fU at c0 HD WE;have LD:min (k:Int) (s.size:Int)=((min k s.size:Nat):Int):=ae;have HT:=aa (show s.data.toList.take k=s.data.toList.take (min k s.size) by
  by_cases h:k<=s.size
  ·rw[Nat.min_eq_left h]
  ·rw[Nat.min_eq_right ae,List.take_of_length_le (by rw[bP];omega),List.take_of_length_le (by rw[bP];exact aM _)])
 have hq:min k s.size<=s.size:=Nat.min_le_right _ _;generalize min k s.size=q at LD HT hq;have pA:(q:Int)<=(s.size:Int):=ae;have aCo: ∀(u:ag),u=An fU s k->((∃v,Ending.returned (.tuple #[])= .returned v)/\oa (w.setCell ⟨ga,i,none⟩ (.string u)) B0 g ⟨P.ss.set i T,P.cs⟩/\Below B0 w (w.setCell ⟨ga,i,none⟩ (.string u))/\sW w (w.setCell ⟨ga,i,none⟩ (.string u))):=by
  intro u hu;rw[show T=u by rw[HT0.out,HD.out,hu]];have st:=HO.os.stored i (.string u);have aO:g≠ga:=λe=>mC HG HO.os au (by simp[Value.ownBlock,e]);refine⟨⟨_,rfl⟩,⟨_,n,c,B,m,d,(bz w ⟨ga,i,none⟩ _ g aO).trans HG,hB,by simp[HO.hn],HO.hm,?_,?_⟩,jQ uW _,ab7 HO.os _⟩
  ·rw[show aZ (P.ss.set i u)=(aZ P.ss).set i (.string u) by simp[aZ]];exact st.1
  ·exact agO
 have HM:=aa aCo;by_cases hko:k<fU.size
 ·have d1:decide ((k:Int)<(fU.size:Int))=true:=by simp;omega
  have aFS: ¬9223372036854775807<(s.extract 0 q).size+(fU.extract k fU.size).size:=by simp;omega
  go_in;go_wp2_with fail;go_end0;refine HM _ ?_;rw[lR,lR,JU,An,HT.out,List.drop_zero,List.take_of_length_le (l:=fU.data.toList) (Nat.le_of_eq (bP fU))]
 ·have d1:decide ((k:Int)<(fU.size:Int))=false:=by simp;omega
  go_in;go_wp2_with fail;go_end0;refine HM _ ?_;rw[lR,An,HT.out,List.drop_zero,List.drop_of_length_le (l:=fU.data.toList) (by rw[bP];omega),List.append_nil]
theorem ari (B0 g:Nat) (P:az) (i:Nat) (s:ag) (k:Nat) (w:World) (h:oa w B0 g P) (hi:i<P.ss.length) (hs:s.size<=1000) (qN: ∀x∈P.ss,x.size<=1000):
  Calls prog 267 #[.pointer (aw g),.int .i64 (i:Nat),.string s,.int .i64 (k:Nat)] w λe w'=>(∃v,e= .returned v)/\oa w' B0 g ⟨P.ss.set i (An (P.ss.getD i bo) s k),P.cs⟩/\Below B0 w w'/\sW w w':=
 arh B0 g P i s k _ (aa rfl) w h hi hs qN
theorem arj (B0 g:Nat) (P:az) (i:Nat) (s:ag) (kC:Int) (w:World) (h:oa w B0 g P) (kD:B0<=w.heap.size) (hi:i<P.ss.length) (hs:s.size<=1000) (qN: ∀x∈P.ss,x.size<=1000) (hf:kC<=9223372036854775807):
  Calls prog 193 #[.pointer (aw g),.agg #[.int .i64 (i:Nat),.string s],.int .i64 kC] w λe w'=>(∃v,e= .returned v)/\oa w' B0 g ⟨rM P.ss ((i:Int),s) kC,P.cs⟩/\Below B0 w w'/\sW w w':=by
 have bG:=be w (.cells #[.int .i64 (i:Nat),.string s] 257);have HD:=aa (h.below bG);have nH:=aa (bG.mono kD);have HK:=aa (sW.below bG);clear h bG;by_cases h0:kC<=0
 ·have HF:=aa (show rM P.ss ((i:Int),s) kC=P.ss by rw[rM,if_pos h0]);have d0:decide (kC<=0)=true:=by simpa using h0
  go_in;go_wp2_with fail;go_end0;exact⟨⟨_,rfl⟩,by rw[HF.out];exact HD.out,nH.out,HK.out⟩
 ·have d0:decide (kC<=0)=false:=by simpa using h0
  by_cases h1:kC=1
  ·have HF:=aa (show rM P.ss ((i:Int),s) kC=P.ss.set i s by rw[rM,if_neg h0,if_pos h1];rfl);have d1:(kC==1)=true:=by simpa using h1
   clear h1;go_in;go_wp2_with fail;refine (ab8 B0 g P i s _ HD.out hi).mono ?_;rintro e w1 ⟨⟨v,rfl⟩,hD1,aG,gq⟩;have Za:=aa hD1;have cu:=aa (nH.out.trans aG);have YA:=aa (HK.out.trans gq);clear hD1 aG gq;go_wp2_with fail;go_end0;exact⟨⟨_,rfl⟩,by rw[HF.out];exact Za.out,cu.out,YA.out⟩
  ·have HF:=aa (show rM P.ss ((i:Int),s) kC=P.ss.set i (An (P.ss.getD i bo) s (kC - 2).toNat) by rw[rM,if_neg h0,if_neg h1];rfl);have d1:(kC==1)=false:=by simpa using h1
   obtain⟨k,hk⟩:=Int.eq_ofNat_of_zero_le (show 0<=kC - 2 by omega);have Hk2:=aa (show kC - 2=((k:Nat):Int) from hk);have Hk:=aa (show (kC - 2).toNat=k by omega);clear h1 hk;go_in;go_wp2_with fail;rw[Hk2.out];with_reducible refine (ari B0 g P i s k _ HD.out hi hs qN).mono ?_;rintro e w1 ⟨⟨v,rfl⟩,hD1,aG,gq⟩;have Za:=aa hD1;have cu:=aa (nH.out.trans aG);have YA:=aa (HK.out.trans gq);clear hD1 aG gq;go_wp2_with fail;go_end0;exact⟨⟨_,rfl⟩,by rw[HF.out,Hk.out];exact Za.out,cu.out,YA.out⟩
end
section
open Go.Shelf
variable {A B:aN} {B0 Bb b g m n n0:Nat} {P:az} {cs:bx} {i:Int} {s:ag} {t:TypeId} {w:World} {xs:bJ}
section
def ab9 (w:World) (r:az×Int) (e:Ending) (w':World):Prop:= ∃v,e= .returned (.tuple #[v,.int .i64 r.2])/\(∃A n c B m d,v= .agg #[.slice A n c,.slice B m d]/\n<=c/\PB w' A n B m r.1)/\aD w w'
theorem ark {B:Nat} {e:TypeId} {size:Nat} {c:Nat} (h:w.ownsRow B e size (.slice A n c) m xs):n<=c:=by
 rcases h.2 with⟨hv,_⟩|⟨g,ai,bK,hv,_,_,eT,_⟩
 ·injection hv with _ h1 h2
  omega
 ·injection hv with _ h1 h2
  omega
def kj (w:World) (r:az×Int) (e:Ending) (w':World):Prop:= ∃v,e= .returned (.tuple #[v,.int .i64 r.2])/\dT w' v r.1/\aD w w'
theorem OB.set {c d:Nat} (h:OB w B0 A n c B m d P) (hb:w.heap[b]?=some (.cells cs t (0,0))) (h1:t≠9) (h2:t≠257) (i:Nat) (u:Value):OB (w.setCell ⟨b,i,none⟩ u) B0 A n c B m d P:=
 ⟨h.hn,h.hm,ownsRow_setCell_other h.os (λe=>mC hb h.os h1 e.symm) _,ownsRow_setCell_other h.oc (λe=>mC hb h.oc h2 e.symm) _⟩
theorem OB.two {c d:Nat} (h:OB w B0 A n c B m d P) {x y:Value} (hb:bj w b #[x,y] 74) (u v:Value):OB ((w.setCell ⟨b,0,none⟩ u).setCell ⟨b,1,none⟩ v) B0 A n c B m d P:=
 (h.set hb au au 0 u).set (bt hb 0 u) au au 1 v
abbrev zP:bx:= #[ay,ay]
theorem qP (w:World) (v:bx) (t:TypeId):((w.alloc (.cells v t)).alloc (.cells zP 74)).heap[w.heap.size+1]?=some (.cells zP 74 (0,0))/\((w.alloc (.cells v t)).alloc (.cells zP 74)).heap[w.heap.size]?=some (.cells v t (0,0))/\aD w ((w.alloc (.cells v t)).alloc (.cells zP 74)):=by
 have h1:=aR (w.alloc (.cells v t)) (.cells zP 74);rw[World.size_alloc]at h1;exact⟨h1,(Below.heap_alloc (w.alloc (.cells v t)) (.cells zP 74) w.heap.size ak).trans (aR w _),((aI _ w).alloc (aM _) _).alloc ak _⟩
theorem Ta (n:Nat) (w:World) (h1:1<=n) (h2:n<=200):Calls prog 47 #[.int .i64 (n:Nat)] w (kj w (⟨List.replicate n bo,[]⟩,0)):=by
 have d1:decide ((n:Int)<1)=false:=by simp;omega
 have d2:decide ((200:Int)<(n:Int))=false:=by simp;omega
 have j6:=λW=>run_make_row' (P:=prog) 28 9 (.string ⟨#[]⟩) 16 underlying28 mx rfl .i64 .i64 n ae ae W;go_in;go_wp2_with fail;generalize hC:(#[.slice (some ⟨w.heap.size+1,0,none⟩) n n,ay]:bx)=C;have hA:=aR w (.cells C 74);have oL:=(Below.heap_alloc (w.alloc (.cells C 74)) (.cells (madeCells #[.string ⟨#[]⟩] n) 9) w.heap.size ak).trans hA;have bG:aD w ((w.alloc (.cells C 74)).alloc (.cells (madeCells #[.string ⟨#[]⟩] n) 9)):=((aI _ w).alloc (aM _) _).alloc ak _;have ho:OB ((w.alloc (.cells C 74)).alloc (.cells (madeCells #[.string ⟨#[]⟩] n) 9)) w.heap.size (some ⟨(w.alloc (.cells C 74)).heap.size,0,none⟩) n n none 0 0 ⟨List.replicate n bo,[]⟩:=by
  refine⟨ak,rfl,?_,World.ownsRow_nil _ _ _ _⟩;have:=ME (w:=w.alloc (.cells C 74)) (B:=w.heap.size) (e:=9) (size:=1) (n:=n) (cs:=madeCells #[.string ⟨#[]⟩] n) ak (by simp[madeCells]) (by unfold maxLen;omega);rw[toList_madeCells_one]at this;rw[show aZ (List.replicate n bo)=List.replicate n (.string ⟨#[]⟩) by simp[aZ,bo]];exact this
 rw[World.size_alloc]at ho;subst hC;refine bodyPost_ret (dJ rfl _ _ w.heap.size ah _ (eP oL)) rfl ?_;exact⟨_,rfl,⟨_,_,_,_,_,_,rfl,ho.pb⟩,bG⟩
def Ca (P:az) (i:Int) (s:ag) (yL:Bool):az×Int:=if fY P=false then (bI,1) else if gJ P.ss.length i=false then (bI,130) else if 128<s.size then (bI,2) else if yL then (bI,260) else (⟨P.ss,P.cs++ [(i,s)]⟩,0)
theorem xV (h:fY P=true):1<=P.ss.length/\P.ss.length<=200/\P.cs.length<=100/\(∀x∈P.ss,x.size<=128)/\ ∀c∈P.cs,c.2.size<=128/\0<=c.1/\c.1<P.ss.length:=by
 simp only[fY,Bool.and_eq_true,decide_eq_true_eq,List.all_eq_true,sT,gJ]at h;exact⟨h.1.1.1.1,h.1.1.1.2,h.1.1.2,h.1.2,λc hc=>⟨(h.2 c hc).1,(h.2 c hc).2.1,(h.2 c hc).2.2⟩⟩
theorem arl (g:Nat) (w:World):Calls prog 228 #[.pointer (aw g)] w (eu w (.func (.func 229) #[.pointer (aw g)] #[])):=by
 exact jt
theorem arn (A B:aN) (n c m d:Nat) (P:az) (i:Int) (s:ag) (yL:Bool) (w:World) (h:PB w A n B m P):
  Calls prog 119 #[.agg #[.slice A n c,.slice B m d],.int .i64 i,.string s,.bool yL,.func (.func 228) #[] #[]] w (kj w (Ca P i s yL)):=by
 obtain⟨hX,hA,bG⟩:=qP w #[.slice A n c,.slice B m d] 74;have HP:=aa (h.below bG);have HX:=aa hX;have HA:=aa hA;have HB:=aa bG;have HN:=aa h.hn;have HM:=aa h.hm;go_in;go_wp2_with fail;refine (JY A B n c m d P _ HP).mono ?_;rintro e w1 ⟨rfl,aG⟩;replace HP:=aa (HP.below aG);replace HX:=aT HX aG;replace HA:=aT HA aG;replace HB:=aX HB aG;obtain⟨x0,x1,x2,x3⟩:=aV HX.out;obtain⟨a0,a1,_,_⟩:=aV HA.out;cases hc:fY P with
 |false=>
  have Hc:=aa hc;go_wp2_with fail;refine bodyPost_ret (dJ rfl _ _ (w.heap.size+1) ah _ (eP (eA HX _ _))) rfl ?_;rw[Ca,if_pos Hc.out];exact⟨_,rfl,dT.no _,dL HB ae _ _⟩
 |true=>
  have Hc:=aa hc;obtain⟨gq,fC,jx,jZ,wI⟩:=xV Hc.out;have VD:n<=200:=by rw[HN.out];exact fC
  have KW:m<=100:=by rw[HM.out];exact jx
  go_wp2_with fail;refine (JX A B n c m d i _).mono ?_;rintro e w2 ⟨rfl,av⟩;replace HP:=aa (HP.below av);replace HX:=aT HX av;replace HA:=aT HA av;replace HB:=aX HB av;obtain⟨x0,x1,x2,x3⟩:=aV HX.out;obtain⟨a0,a1,_,_⟩:=aV HA.out;cases hh:gJ n i with
  |false=>
   have Hh:=aa (show gJ P.ss.length i=false by rw[<-HN.out];exact hh);go_wp2_with fail;refine bodyPost_ret (dJ rfl _ _ (w.heap.size+1) ah _ (eP (eA HX _ _))) rfl ?_;rw[Ca,if_neg (by rw[Hc.out];simp),if_pos Hh.out];exact⟨_,rfl,dT.no _,dL HB ae _ _⟩
  |true=>
   have Hh:=aa (show gJ P.ss.length i=true by rw[<-HN.out];exact hh);by_cases IV:128<s.size
   ·have d1:decide ((128:Int)<(s.size:Int))=true:=(by simp;omega);go_wp2_with fail;refine bodyPost_ret (dJ rfl _ _ (w.heap.size+1) ah _ (eP (eA HX _ _))) rfl ?_;rw[Ca,if_neg (by rw[Hc.out];simp),if_neg (by rw[Hh.out];simp),if_pos IV];exact⟨_,rfl,dT.no _,dL HB ae _ _⟩
   ·have d1:decide ((128:Int)<(s.size:Int))=false:=(by simp;omega);cases yL with
    |true=>
     go_wp2_with fail;refine bodyPost_ret (dJ rfl _ _ (w.heap.size+1) ah _ (eP (eA HX _ _))) rfl ?_;rw[Ca,if_neg (by rw[Hc.out];simp),if_neg (by rw[Hh.out];simp),if_neg IV,if_pos rfl];exact⟨_,rfl,dT.no _,dL HB ae _ _⟩
    |false=>
     go_wp2_with fail;refine (S8 A B n c m d P _ HP ae ae).mono ?_;rintro e w3 ⟨g,rfl,hD,aL⟩;replace HX:=aT HX aL;have XX:w.heap.size+1<w2.heap.size:=cU x0;have HD:=aa hD;have cj:=aa aL;have rv:=aL.size;go_wp2_with fail;refine (arl g _).mono ?_;rintro e w4 ⟨rfl,rfl⟩;go_wp2_with fail;refine (arg w2.heap.size g P i s _ HD rv ae).mono ?_;rintro e w4 ⟨⟨v,rfl⟩,hD4,aP⟩;have V2:=aa hD4;have dD:=aa (cj.trans aP);replace HX:=aa ((aP.block (w.heap.size+1) XX).trans HX);go_wp2_with fail;refine (S9 w2.heap.size g _ _ V2).mono ?_;rintro e w5 ⟨A5,n5,c5,B5,m5,d5,rfl,lK,aY⟩;replace HX:=aT HX aY;have yZ:=aa lK;have jz:=aa (HB.trans ((ju dD aY).mono HB.size));obtain⟨x0,x1,x2,x3⟩:=aV HX.out;go_wp2_with fail;refine bodyPost_ret (dJ rfl _ _ (w.heap.size+1) ah _ (eP (eA HX _ _))) rfl ?_;rw[Ca,if_neg (by rw[Hc.out];simp),if_neg (by rw[Hh.out];simp),if_neg IV,if_neg ak];exact⟨_,rfl,⟨_,_,_,_,_,_,rfl,(yZ.two HX _ _).pb⟩,dL jz ae _ _⟩
def ko:Value->Bool
 | .slice _ _ _=>true
 |_=>false
theorem ab' (h:Rd w A xs) (hx: ∀u∈xs,ko u=false) (hb: ∀j u,w.cell? ⟨b,j,none⟩=some u->ko u=true) (i:Nat) (v:Value):Rd (w.setCell ⟨b,i,none⟩ v) A xs:=by
 intro j u hu;obtain⟨b',aS,hA,hc⟩:=h j u hu;refine⟨b',aS,hA,?_⟩;have aO:b'≠b:=λe=>by
  subst e;have h1:=hb _ _ hc;exact OE
 exact (fB (bz w ⟨b,i,none⟩ v b' aO)).trans hc
theorem Gh (l:List ag): ∀u∈aZ l,ko u=false:=by
 intro u hu;exact G5
theorem aca (l:List l8): ∀u∈jn l,ko u=false:=by
 exact ag1
theorem PB.set (h:PB w A n B m P) (hb: ∀j u,w.cell? ⟨b,j,none⟩=some u->ko u=true) (i:Nat) (v:Value):PB (w.setCell ⟨b,i,none⟩ v) A n B m P:=
 ⟨h.hn,h.hm,ab' h.rs (Gh _) hb i v,ab' h.rc (aca _) hb i v,h.ta.set b i v,h.tb.set b i v⟩
theorem PB.setT (h:PB w A n B m P) {fr:Nat×Nat} (hb:w.heap[b]?=some (.cells cs t fr)) (h1:t≠9) (h2:t≠257) (i:Nat) (v:Value):PB (w.setCell ⟨b,i,none⟩ v) A n B m P:=
 ⟨h.hn,h.hm,λj u hu=>by
  obtain⟨b',aS,e,hc⟩:=h.rs j u hu;obtain⟨AZ,ht⟩:=h.ta b' aS e;have aO:b'≠b:=λe2=>by subst e2;rw[hb]at ht;injection ht with ht;injection ht with _ ht;exact h1 ht
  exact⟨b',aS,e,(fB (bz w ⟨b,i,none⟩ v b' aO)).trans hc⟩,λj u hu=>by
  obtain⟨b',aS,e,hc⟩:=h.rc j u hu;obtain⟨AZ,ht⟩:=h.tb b' aS e;have aO:b'≠b:=λe2=>by subst e2;rw[hb]at ht;injection ht with ht;injection ht with _ ht;exact h2 ht
  exact⟨b',aS,e,(fB (bz w ⟨b,i,none⟩ v b' aO)).trans hc⟩,h.ta.set b i v,h.tb.set b i v⟩
theorem acb {c d:Nat} (h:w.heap[b]?=some (.cells #[.slice A n c,.slice B m d] t (0,0))): ∀j u,w.cell? ⟨b,j,none⟩=some u->ko u=true:=by
 intro j u hu;rw[cell_of_row w b j _ _ _ h]at hu;match j with
 |0=>simp at hu;rw[<-hu];rfl
 |1=>simp at hu;rw[<-hu];rfl
 |j+2=>simp at hu
theorem PB.two {A2 B2 A3 B3:aN} {n2 c2 m2 d2 n3 c3 m3 d3:Nat} (h:PB w A n B m P) (hb:w.heap[b]?=some (.cells #[.slice A2 n2 c2,.slice B2 m2 d2] t (0,0))):PB ((w.setCell ⟨b,0,none⟩ (.slice A3 n3 c3)).setCell ⟨b,1,none⟩ (.slice B3 m3 d3)) A n B m P:=
 (h.set (acb hb) 0 _).set (acb (bt hb 0 (.slice A3 n3 c3))) 1 _
theorem aro (A B:aN) (n c m d:Nat) (P:az) (i:Int) (s:ag) (yL:Bool) (r:az×Int) (w:World) (h:PB w A n B m P) (hf:yL=decide (100<=m)) (hr:r=Ca P i s yL):
  Calls prog 149 #[.agg #[.slice A n c,.slice B m d],.int .i64 i,.string s] w (kj w r):=by
 obtain⟨hX,hA,bG⟩:=qP w #[.slice A n c,.slice B m d] 74;have HP:=aa (h.below bG);have HX:=aa hX;have HB:=aa bG;have HR:=aa hr;have IH:decide ((100:Int)<=(m:Int))=yL:=by rw[hf];exact decide_eq_decide.2 ae
 clear h hX hA bG hr hf;go_in;go_wp2_with fail;refine (arn A B n c m d P i s yL _ HP).mono ?_;exact Vc
theorem acd (v:Value) (P:az) (i:Int) (s:ag) (w:World) (h:dT w v P):Calls prog 149 #[v,.int .i64 i,.string s] w (kj w (i' i s P)):=by
 obtain⟨A,n,c,B,m,d,rfl,h⟩:=h;refine aro A B n c m d P i s (decide (100<=m)) _ w h rfl ?_;rw[Ca,i',h.hm];simp only[decide_eq_true_eq]
theorem arp {fU:ag} (h1:fU.size<=b) (h2:s.size<=b):(An fU s n).size<=b:=by
 rw[An,ei,dx,List.length_take,List.length_drop,bP,bP];omega
theorem arq {ss:List ag} {c:Int×ByteArray} {kC:Int} (h: ∀x∈ss,x.size<=b) (hc:c.2.size<=b): ∀x∈rM ss c kC,x.size<=b:=by
 intro x hx;unfold rM at hx;split at hx
 ·exact h x hx
 ·split at hx
  ·rcases List.mem_or_eq_of_mem_set hx with hx|rfl
   ·exact h x hx
   ·exact hc
  ·rcases List.mem_or_eq_of_mem_set hx with hx|rfl
   ·exact h x hx
   ·refine arp ?_ hc;rw[dh];cases hg:ss[c.1.toNat]? with
    |none=>exact Nat.zero_le _
    |some y=>simpa using h y (List.mem_of_getElem? hg)
theorem ace {P:az} (hc:fY P=true) (f:Nat->Int): ∀k,k<=P.cs.length-> ∀x∈rN P f k,x.size<=128
 |0,_=>(xV hc).2.2.2.1
 |k+1,hk=>by
  rw[rN];refine arq (ace hc f k ae) ?_;have:=(xV hc).2.2.2.2 (P.cs.getD k (0,bo)) (by
   rw[dh,cL ae];exact dY _)
  exact this.1
def Tc (P:az) (f:Nat->Int):az×Int:=(⟨rN P f P.cs.length,[]⟩,0)
theorem acf (A B:aN) (n c m d:Nat) (P:az) (f:Nat->Int) (fn:FuncId) (ai:bx) (w:World) (h:PB w A n B m P) (Dh: ∀args W,(callFunc fn args).run prog W= .ok (.enter fn args) W) (hF: ∀(i:Nat) W',aD w W'->i<100->Calls prog fn (#[.int .i64 (i:Nat)]++ai) W' λe Y5=>e= .returned (.int .i64 (f i))/\Y5=W') (hf: ∀i,f i<=9223372036854775807):
  Calls prog 117 #[.agg #[.slice A n c,.slice B m d],.func (.func fn) #[] ai] w (ab9 w (uk f P)):=by
 obtain⟨hX,hA,bG⟩:=qP w #[.slice A n c,.slice B m d] 74;have HP:=aa (h.below bG);have HX:=aa hX;have HA:=aa hA;have HB:=aa bG;have HN:=aa h.hn;have HM:=aa h.hm;have HF:=aa hF;have Hf:=aa hf;go_in;go_wp2_with fail;refine (JY A B n c m d P _ HP).mono ?_;rintro e w1 ⟨rfl,aG⟩;replace HP:=aa (HP.below aG);replace HX:=aT HX aG;replace HA:=aT HA aG;replace HB:=aX HB aG;obtain⟨x0,x1,x2,x3⟩:=aV HX.out;obtain⟨a0,a1,_,_⟩:=aV HA.out;cases hc:fY P with
 |false=>
  have Hc:=aa hc;go_wp2_with fail;refine bodyPost_ret (dJ rfl _ _ (w.heap.size+1) ah _ (eP (eA HX _ _))) rfl ?_;rw[uk,if_pos Hc.out];exact⟨_,rfl,⟨none,0,0,none,0,0,rfl,aM _,rfl,rfl,Rd.nil _ _,Rd.nil _ _,EA _ _,EA _ _⟩,dL HB ae _ _⟩
 |true=>
  have Hc:=aa hc;have HE:=aa (show uk f P=Tc P f by rw[uk,if_neg (by rw[hc];simp),Tc]);obtain⟨gq,fC,jx,jZ,wI⟩:=xV hc;have HK:=aa wI;have VD:n<=200:=by rw[HN.out];exact fC
  have KW:m<=100:=by rw[HM.out];exact jx
  go_wp2_with fail;refine (S8 A B n c m d P _ HP ae ae).mono ?_;rintro e w3 ⟨g,rfl,hD,aL⟩;have aGg:w.heap.size+1<w1.heap.size:=cU x0;have rv:=aL.size;replace HX:=aT HX aL;replace HA:=aT HA aL;have aBg:=aa aL;have HD:=aa hD;have cj:=aX HB aL;obtain⟨a0,a1,_,_⟩:=aV HA.out;go_wp2_with fail;go_loopw [21] (λx wr=> ∃k:Nat,k<=m/\x= .int .i64 (k:Nat)/\oa wr w1.heap.size g ⟨rN P f k,P.cs⟩/\Below w1.heap.size w3 wr) (λx _=>m -(intOf x).toNat);case atStart=>exact⟨0,ae,rfl,HD,aI _ _⟩
  case round=>
   obtain⟨k,hk,rfl,hDk,mW⟩:=hrel;have Qp:=aa hDk;have XV:=aBg.trans mW;have EP:=aX HB XV;have Wr:=aa (HP.below XV);have HXk:=aa ((mW.block (w.heap.size+1) ae).trans HX);have hsk:=XV.size;have QG:=aa mW;by_cases aK:k<m
   ·have bB:k<P.cs.length:=(by rw[<-HM.out];exact aK);obtain⟨b,aS,hB,c0,c1⟩:=Ng Wr.rc bB;subst hB;have gq:(k:Int)<(m:Int):=ae;have iW:=aa (show rN P f (k+1)=rM (rN P f k) P.cs[k] (f k) by rw[rN,dh,cL bB];rfl);have hq:=HK.out _ (dY bB);generalize P.cs[k]=q at c0 c1 hq iW;obtain⟨i,s⟩:=q;obtain⟨hs,h0,hi⟩:=hq;simp only at c0 c1 hs h0 hi;obtain⟨i,rfl⟩:=Int.eq_ofNat_of_zero_le h0;have qm:i<P.ss.length:=ae;have y0:=(aV (aR wr (.cells #[.int .i64 (i:Nat),.string s] 257))).1;have y1:=(aV (aR wr (.cells #[.int .i64 (i:Nat),.string s] 257))).2.1;have bE:=(be wr (.cells #[.int .i64 (i:Nat),.string s] 257)).drew;have HDa:=aa (Qp.below bE);have HFa:=aa (HF k _ (ju EP bE) ae);have HBa:=aa (QG.trans (bE.mono (bD rv QG.size)));have Hls:=aa (ace Hc f k ae);have HXa:=aa (aJ (aR wr (.cells #[.int .i64 (i:Nat),.string s] 257)) ya3);go_wp2_with fail;go_region_held3 (λw'=>w'.cell? ⟨wr.heap.size,0,none⟩=some (.int .i64 (i:Nat))/\w'.cell? ⟨wr.heap.size,1,none⟩=some (.string s))
     (first|assumption|exact⟨y0,y1⟩|exact⟨(aV hx5).1,(aV hx5).2.1⟩)
     (first
      |((go_at_call 193;refine (arj w1.heap.size g ⟨rN P f k,P.cs⟩ i s (f k) _ HDa (by simp;omega) (by rw[Nb];exact qm) ae (λx hx=>bD (Hls x hx) ae) (Hf k)).mono ?_);rintro _ w' ⟨⟨v5,rfl⟩,hD5,aY,wI⟩;have hx5:=wI _ _ HXa (by rintro cs fr ⟨⟩))
      |(with_reducible refine Calls.mono HFa.out ?_;rintro _ w' ⟨rfl,rfl⟩))
    go_wp2;go_roundw;case rel=>exact⟨k+1,ae,by go_num,by rw[iW.out];exact hD5,HBa.trans aY⟩
    case measure=>exact cM
   ·obtain rfl:k=m:=ae;obtain⟨A6,n6,c6,B6,m6,d6,yO,Bu,nB⟩:=Qp.out;obtain⟨g0,g1,g2,g3⟩:=aV yO;have zI:=aa yO;have yR:=aa nB;go_wp2_with fail;have hD7:oa (wr.setCell ⟨g,1,none⟩ (ay)) w1.heap.size g ⟨rN P f k,[]⟩:=by
     have ho:=yR.set zI au au 1 (ay);exact⟨A6,n6,c6,none,0,0,bt zI 1 (ay),Bu,ho.hn,rfl,ho.os,World.ownsRow_nil _ _ _ _⟩
    have hX7:=(bz wr ⟨g,1,none⟩ (ay) (w.heap.size+1) (by simp;omega)).trans HXk.out;have zp:=EP.trans (jQ (w:=wr) (b:=g) (i:=1) (B0:=w.heap.size) ae (ay));refine (S9 w1.heap.size g _ _ hD7).mono ?_;rintro e w5 ⟨A5,n5,c5,B5,m5,d5,rfl,lK,aY⟩;have zb:=aa (aJ hX7 aY);have yZ:=aa lK;have jz:=aa (zp.trans (aY.mono zp.size));obtain⟨x0,x1,x2,x3⟩:=aV zb.out;go_wp2_with fail;refine bodyPost_ret (dJ rfl _ _ (w.heap.size+1) ah _ (eP (eA zb _ _))) rfl ?_;rw[HE.out,Tc,<-HM.out];exact⟨_,rfl,⟨_,_,_,_,_,_,rfl,ark yZ.os,(yZ.two zb _ _).pb⟩,dL jz ae _ _⟩
theorem ars (A B:aN) (n c m d:Nat) (P:az) (f:Nat->Int) (fn:FuncId) (ai:bx) (w:World) (h:PB w A n B m P) (Dh: ∀args W,(callFunc fn args).run prog W= .ok (.enter fn args) W) (hF: ∀(i:Nat) W',aD w W'->i<100->Calls prog fn (#[.int .i64 (i:Nat)]++ai) W' λe Y5=>e= .returned (.int .i64 (f i))/\Y5=W') (hf: ∀i,f i<=9223372036854775807):
  Calls prog 117 #[.agg #[.slice A n c,.slice B m d],.func (.func fn) #[] ai] w (kj w (uk f P)):=by
 refine (acf A B n c m d P f fn ai w h Dh hF hf).mono ?_;rintro e w' ⟨v,rfl,⟨A',n',c',B',m',d',rfl,-,hp⟩,hb⟩;exact⟨_,rfl,⟨_,_,_,_,_,_,rfl,hp⟩,hb⟩
theorem art (i:Int) (w:World):Calls prog 230 #[.int .i64 i] w (eu w (.int .i64 1)):=by
 exact jt
theorem Nk (v:Value) (P:az) (w:World) (h:dT w v P):Calls prog 152 #[v] w (kj w (lX P)):=by
 obtain⟨A,n,c,B,m,d,rfl,h⟩:=h;obtain⟨hX,hA,bG⟩:=qP w #[.slice A n c,.slice B m d] 74;have HP:=aa (h.below bG);have HX:=aa hX;have HB:=aa bG;go_in;go_wp2_with fail;refine (ars A B n c m d P (λ_=>1) 230 #[] _ HP (enters_of func230 ax rfl) (λi W' _ _=>art i W') (λ_=>ae)).mono ?_;rintro e w1 ⟨v1,rfl,qt,aG⟩;rw[<-lX]at qt⊢;obtain⟨A5,n5,c5,B5,m5,d5,rfl,lK⟩:=qt;replace HX:=aT HX aG;replace HB:=aX HB aG;have HO:=aa lK;obtain⟨x0,x1,x2,x3⟩:=aV HX.out;go_wp2_with fail;refine bodyPost_ret (dJ rfl _ _ (w.heap.size+1) ah _ (eP (eA HX _ _))) rfl ?_;exact⟨_,rfl,⟨_,_,_,_,_,_,rfl,HO.two HX⟩,dL HB ae _ _⟩
theorem aru (F:aN) (nf cf g i:Nat) (fs:List Int) (w:World) (hc:w.cell? ⟨g,0,none⟩=some (.slice F nf cf)) (hr:Rd w F (ints fs)) (hn:nf=fs.length) (hi:i<=100000) (hl:nf<=maxLen):
  Calls prog 118 #[.int .i64 (i:Nat),.pointer (aw g)] w (eu w (.int .i64 (fs.getD i 0))):=by
 have HR:=aa hr;have HN:=aa hn;unfold maxLen at hl;by_cases h:i<nf
 ·obtain⟨b,aS,hF,c0⟩:=HR.int_at (i:=i) (by rw[<-HN.out];exact h);subst hF;generalize fs.getD i 0=x at c0⊢;have d1:decide ((i:Int)<(nf:Int))=true:=by simp;omega
  have d2:(i:Int)<(nf:Int):=ae;exact jt
 ·have hz:fs.getD i 0=0:=by
   rw[dh,Cx (by rw[<-HN.out];omega)];rfl
  rw[hz];have d1:decide ((i:Int)<(nf:Int))=false:=by simp;omega
  exact jt
theorem arv (v:Value) (P:az) (F:aN) (nf cf:Nat) (fs:List Int) (w:World) (h:dT w v P) (hr:Rd w F (ints fs)) (hn:nf=fs.length) (hl:nf<=maxLen) (hf: ∀x∈fs,x<=9223372036854775807):
  Calls prog 63 #[v,.slice F nf cf] w (ab9 w (eW fs P)):=by
 obtain⟨A,n,c,B,m,d,rfl,h⟩:=h;have aG:=be w (.cells #[.slice A n c,.slice B m d] 74);have av:=(aI (w.alloc (.cells #[.slice A n c,.slice B m d] 74)).heap.size (w.alloc (.cells #[.slice A n c,.slice B m d] 74))).alloc (aM _) (.cells #[.slice F nf cf] 55);have aL:=(aI ((w.alloc (.cells #[.slice A n c,.slice B m d] 74)).alloc (.cells #[.slice F nf cf] 55)).heap.size ((w.alloc (.cells #[.slice A n c,.slice B m d] 74)).alloc (.cells #[.slice F nf cf] 55))).alloc (aM _) (.cells zP 74);have hX:=aR ((w.alloc (.cells #[.slice A n c,.slice B m d] 74)).alloc (.cells #[.slice F nf cf] 55)) (.cells zP 74);have io:=aJ (aR (w.alloc (.cells #[.slice A n c,.slice B m d] 74)) (.cells #[.slice F nf cf] 55)) aL;simp only[World.size_alloc]at hX io;have hB:=bg (bg aG av) aL;have HX:=aa hX;have HBX:=aa io;have HB:=aa hB;have HP:=aa (h.below hB);have HR:=aa (hr.below hB);have HN:=aa hn;have HF:=aa (show∀i:Nat,fs.getD i 0<=9223372036854775807 from λi=>by
  rw[dh];cases hg:fs[i]? with
  |none=>simp
  |some y=>simpa using hf y (List.mem_of_getElem? hg))
 clear h hX io hB hr hn aG av aL hf
 ·go_in;go_wp2_with fail;refine (acf A B n c m d P (λi=>fs.getD i 0) 118 #[.pointer (some ⟨w.heap.size+1,0,none⟩)] _ HP (enters_of func118 ax rfl) (λi W' hW hi=>aru F nf cf (w.heap.size+1) i fs W' (cell_of_one (aJ HBX hW)) (HR.below hW) HN ae hl) HF).mono ?_;rintro e w1 ⟨v1,rfl,qt,aG⟩;rw[<-eW]at qt⊢;obtain⟨A5,n5,c5,B5,m5,d5,rfl,Fk,lK⟩:=qt;replace HX:=aT HX aG;replace HB:=aX HB aG;have HO:=aa lK;clear aG lK;obtain⟨x0,x1,x2,x3⟩:=aV HX.out;go_wp2_with fail;refine bodyPost_ret (dJ rfl _ _ (w.heap.size+1+1) ah _ (eP (eA HX _ _))) rfl ?_;exact⟨_,rfl,⟨_,_,_,_,_,_,rfl,Fk,HO.two HX⟩,dL HB ae _ _⟩
theorem arw (v:Value) (P:az) (F:aN) (nf cf:Nat) (fs:List Int) (w:World) (h:dT w v P) (hr:Rd w F (ints fs)) (hn:nf=fs.length) (hl:nf<=maxLen) (hf: ∀x∈fs,x<=9223372036854775807):
  Calls prog 63 #[v,.slice F nf cf] w (kj w (eW fs P)):=by
 refine (arv v P F nf cf fs w h hr hn hl hf).mono ?_;rintro e w' ⟨v',rfl,⟨A',n',c',B',m',d',rfl,-,hp⟩,hb⟩;exact⟨_,rfl,⟨_,_,_,_,_,_,rfl,hp⟩,hb⟩
attribute [local go_sem] Oper.semAt_some
theorem acg {β:Type} (b:Nat) (C:bx) (t:TypeId):Own (λ(_:β) W=>W.heap[b]?=some (.cells C t (0,0))):=λs A B row hs hg hr=>by
 exact Ox
def Gi (n0 Bb:Nat) (W W':World):Prop:=Below n0 W W'/\rG [Bb] W W'
theorem arx {A B C:World} (h:Gi n0 Bb A B) (k:Gi n0 Bb B C):Gi n0 Bb A C:=⟨h.1.trans k.1,Jl h.2 k.2⟩
theorem ary (hn:n0<=w.heap.size) (hb:Bb<w.heap.size) (W:World) (l:Nat) (o o':Obj) (hl:w.heap.size<=l) (h1:W.heap[l]?=some o) (h2:o.isCells=false) (h3:o.isWalk=false):Gi n0 Bb W (W.putObj l o'):=
 ⟨belowK_b hn W l o o' hl h1 h2 h3,Jm (by simp;exact hb) W l o o' hl h1 h2 h3⟩
set_option maxHeartbeats 1000000 in
theorem arz (F:Fence) (n:Nat) (hf:F.fn 289) (mn:F.round=none) (hn:1<=n) (l Bb n0:Nat) (B:aN) (m d:Nat) (cs:List l8) (hm:m=cs.length) (hl:m<=1000) (J Jx:List l8->World->Prop) (hY: ∀aQ x W,J aQ W->aQ.length<m->YieldAt F (n - 1) prog l #[.agg #[.int .i64 x.1,.string x.2]] W λe W'=>
   (e= .returned (.bool true)/\J (aQ++ [x]) W'/\Gi n0 Bb W W')\/(e= .returned (.bool false)/\Jx (aQ++ [x]) W')) (w0 W:World) (hw0:w0.heap.size<=n0) (Lb:Below n0 w0 W) (EN:bj W Bb #[.slice B m d] 72) (hr:Rd w0 B (jn cs)) (h0:J [] W):
  CallsIn F n prog 289 #[.func (.yield l) #[] #[],.pointer (aw Bb)] W λe W'=>(∃v,e= .returned v)/\
   ((∃ys,ys=cs.reverse/\J ys W')\/(∃aQ,aQ<+:cs.reverse/\Jx aQ W')):=by
 have HY:=aa hY;have HM:=aa hm;have HR:=aa hr;clear hY hm hr;have cb:=cell_of_one EN;refine callsIn_of_wp func289 rfl hf ?_ mn;simp only[ntmps289,List.size_toArray,List.length_cons,List.length_nil,Nat.reduceAdd,Nat.reduceSub,Array.replicate_succ,Array.replicate_zero,List.push_toArray,List.append_toArray,List.nil_append,List.cons_append];gi_wp2;gi_loopw [3] (λv wr=> ∃(j:Nat) (i:Int),j<=m/\v= .int .i64 i/\i=(j:Int)- 1/\bj wr Bb #[.slice B m d] 72/\Below n0 w0 wr/\J (cs.reverse.take (m - j)) wr) (λv _=>(intOf v+1).toNat);case atStart=>exact⟨m,_,aM _,rfl,rfl,EN,Lb,by rw[Nat.sub_self];exact h0⟩
 case round=>
  obtain⟨j,i,hj,rfl,hi,ZC,mW,hJ⟩:=hrel;have ck:=cell_of_one ZC;cases j with
  |zero=>
   obtain rfl:i= -1:=ae;clear hi;gi_wp2;go_end0;refine⟨⟨_,rfl⟩,.inl ⟨_,rfl,?_⟩⟩;rw[Nat.sub_zero,List.take_of_length_le (by rw[List.length_reverse,HM.out];exact aM _)]at hJ;exact hJ
  |succ j=>
   obtain rfl:i=(j:Int):=ae;have WR:j<cs.length:=(by rw[<-HM.out];omega);obtain⟨b,aS,hB,c0,c1⟩:=Ng (HR.below (mW.mono hw0)) WR;subst hB;have hjm:(j:Int)<(m:Int):=ae;have Hx:=aa (show cs.reverse.take (m - j)=cs.reverse.take (m -(j+1))++ [cs[j]] by
    have e:m - j=(m -(j+1))+1:=ae;have kz:m -(j+1)<cs.reverse.length:=(by rw[List.length_reverse,<-HM.out];omega);rw[e,List.take_succ_eq_append_getElem kz,List.getElem_reverse];congr 3;rw[<-HM.out];omega)
   have sC:=aa ZC;have QG:=aa mW;generalize cs[j]=q at c0 c1 Hx;have ey:(cs.reverse.take (m -(j+1))).length<m:=(by rw[List.length_take];omega);obtain⟨fn,tmps,assign,body,hy,hR⟩:=HY.out _ q wr hJ ey;have jc:=aa hR;obtain⟨i0,s⟩:=q;simp only at c0 c1 hy;clear hR hi ZC mW hJ ey;gi_wp2;refine jc.mono ?_;rintro e W3 (⟨rfl,hJ3,jx⟩|⟨rfl,hJx3⟩)
   ·have EU:=aa hJ3;have zM:=(jx.2 Bb ak).trans sC.out;have aL:=QG.trans jx.1;clear hJ3 jx;gi_wp2;go_roundw;case rel=>exact⟨j,_,ae,rfl,rfl,zM,aL,by rw[Hx.out];exact EU.out⟩
    case measure=>simp[intOf]
   ·have aCi:=aa hJx3;clear hJx3;gi_wp2;refine bodyPost_ret (results_none rfl _ _ _) rfl ?_;refine⟨⟨_,rfl⟩,.inr ⟨_,?_,aCi⟩⟩;rw[<-Hx.out];exact List.take_prefix _ _
theorem arA (F:Fence) (n:Nat) (hf:F.fn 227) (mn:F.round=none) (B:aN) (m d:Nat) (w:World):
  CallsIn F n prog 227 #[.slice B m d] w λe w'=>e= .returned (.func (.func 289) #[] #[.pointer (some ⟨w.heap.size,0,none⟩)])/\w'=w.alloc (.cells #[.slice B m d] 72):=by
 refine callsIn_of_wp func227 rfl hf ?_ mn;simp only[ntmps227,List.size_toArray,List.length_cons,List.length_nil,Nat.reduceAdd,Nat.reduceSub,Array.replicate_succ,Array.replicate_zero,List.push_toArray,List.append_toArray,List.nil_append,List.cons_append];exact G1
theorem Td {P:Program} {fn:Func} {a b:Tmp} {ta tb:TypeId} (h:fn.results= #[.cell a ta,.cell b tb]) (tmps:bx) (w:World) (g k:Nat) (ha:tmps.getD a undef= .pointer (aw g)) (hb:tmps.getD b undef= .pointer (aw k)) (u v:Value) (hl:(loadVar ta ⟨g,0,none⟩).run P w= .ok u w) (hk:(loadVar tb ⟨k,0,none⟩).run P w= .ok v w):(results fn tmps).run P w= .ok (.tuple #[u,v]) w:=by
 exact Ve
theorem Tf (h:w.cell? ⟨g,0,none⟩=some (.string s)):(loadVar 9 ⟨g,0,none⟩).run prog w= .ok (.string s) w:=by
 go_simp
theorem Tg {x:Int} (h:w.cell? ⟨g,0,none⟩=some (.int .i64 x)):(loadVar 24 ⟨g,0,none⟩).run prog w= .ok (.int .i64 x) w:=by
 go_simp
def Th (w:World) (r:ByteArray×Int) (e:Ending) (w':World):Prop:=e= .returned (.tuple #[.string r.1,.int .i64 r.2])/\aD w w'
theorem Nl (w:World) (a b c d:bx) (ta tb tc td:TypeId):
  ((((w.alloc (.cells a ta)).alloc (.cells b tb)).alloc (.cells c tc)).alloc (.cells d td)).heap[w.heap.size]?=some (.cells a ta (0,0))/\((((w.alloc (.cells a ta)).alloc (.cells b tb)).alloc (.cells c tc)).alloc (.cells d td)).heap[w.heap.size+1]?=some (.cells b tb (0,0))/\
  ((((w.alloc (.cells a ta)).alloc (.cells b tb)).alloc (.cells c tc)).alloc (.cells d td)).heap[w.heap.size+1+1]?=some (.cells c tc (0,0))/\((((w.alloc (.cells a ta)).alloc (.cells b tb)).alloc (.cells c tc)).alloc (.cells d td)).heap[w.heap.size+1+1+1]?=some (.cells d td (0,0))/\
  aD w ((((w.alloc (.cells a ta)).alloc (.cells b tb)).alloc (.cells c tc)).alloc (.cells d td)):=by
 have h0:=aR w (.cells a ta);have h1:=aR (w.alloc (.cells a ta)) (.cells b tb);have h2:=aR ((w.alloc (.cells a ta)).alloc (.cells b tb)) (.cells c tc);have h3:=aR (((w.alloc (.cells a ta)).alloc (.cells b tb)).alloc (.cells c tc)) (.cells d td);have b1:=(aI (w.alloc (.cells a ta)).heap.size (w.alloc (.cells a ta))).alloc (aM _) (.cells b tb);have b2:=(aI ((w.alloc (.cells a ta)).alloc (.cells b tb)).heap.size ((w.alloc (.cells a ta)).alloc (.cells b tb))).alloc (aM _) (.cells c tc);have b3:=(aI (((w.alloc (.cells a ta)).alloc (.cells b tb)).alloc (.cells c tc)).heap.size (((w.alloc (.cells a ta)).alloc (.cells b tb)).alloc (.cells c tc))).alloc (aM _) (.cells d td);have hB:=(be w (.cells a ta))
 have c0:=aJ (aJ (aJ h0 b1) b2) b3;have c1:=aJ (aJ h1 b2) b3;have c2:=aJ h2 b3;simp only[World.size_alloc]at c1 c2 h3;exact⟨c0,c1,c2,h3,bg (bg (bg hB b1) b2) b3⟩
theorem Nm {W:World} {k:Nat} {T2 T3:TypeId} {u0 v0:Value} (aO:g≠k) (h2:W.heap[g]?=some (.cells #[u0] T2 (0,0))) (h3:W.heap[k]?=some (.cells #[v0] T3 (0,0))) (u v:Value):
  ((W.setCell ⟨g,0,none⟩ u).setCell ⟨k,0,none⟩ v).heap[g]?=some (.cells #[u] T2 (0,0))/\((W.setCell ⟨g,0,none⟩ u).setCell ⟨k,0,none⟩ v).heap[k]?=some (.cells #[v] T3 (0,0)):=by
 have a:=bt h2 0 u;have b:=(bz W ⟨g,0,none⟩ u k (λe=>aO e.symm)).trans h3;exact⟨(bz (W.setCell ⟨g,0,none⟩ u) ⟨k,0,none⟩ v g aO).trans a,bt b 0 v⟩
set_option maxHeartbeats 2000000 in
theorem agq {P:Prop} (h:P:=by
 refine bodyPost_ret (Td rfl _ _ (w.heap.size+1+1) (w.heap.size+1+1+1) ah ah _ _ (Tf (cell_of_one q2)) (Tg (cell_of_one q3))) rfl ?_;rw[Hr.out];exact⟨rfl,(HB.trans (jQ ae _)).trans (jQ ae _)⟩):P:=h
theorem ach (A B:aN) (n c m d:Nat) (P:az) (i:Int) (w:World) (h:PB w A n B m P) (Bh:fY P=false\/gJ P.ss.length i=false):
  Calls prog 145 #[.agg #[.slice A n c,.slice B m d],.int .i64 i] w (Th w (eK P i)):=by
 obtain⟨h0,h1,h2,h3,hb⟩:=Nl w #[.slice A n c,.slice B m d] #[.int .i64 i] #[.string ⟨#[]⟩] #[.int .i64 0] 74 3 9 24;have H:=aa (h.below hb);have HN:=aa h.hn;have HB:=aa hb;have H0:=aa h0;have H1:=aa h1;have H2:=aa h2;have H3:=aa h3;go_in;go_wp2_with fail;refine (JY A B n c m d P _ H).mono ?_;rintro e w1 ⟨rfl,aG⟩;replace H0:=aT H0 aG;replace H1:=aT H1 aG;replace H2:=aT H2 aG;replace H3:=aT H3 aG;replace HB:=aX HB aG;have aK:=bf H3.out;have r0:=cell_of_one H2.out;have r1:=Boxed.frozen H2.out;have e0:=cell_of_one H3.out;have e1:=Boxed.frozen H3.out;cases hc:fY P with
 |false=>
  have Hr:=aa (show eK P i=(bo,1) by rw[eK,if_pos hc]);go_wp2_with fail;obtain⟨q2,q3⟩:=Nm ae H2 H3 (.string ⟨#[]⟩) (.int .i64 1);exact agq
 |true=>
  have hh:gJ P.ss.length i=false:=Bh.resolve_left (by rw[hc];simp);have Hr:=aa (show eK P i=(bo,130) by rw[eK,if_neg (by rw[hc];simp),if_pos hh]);have Hh:=aa (show gJ n i=false by rw[HN.out];exact hh);obtain⟨a0,a1,_,_⟩:=aV H0.out;have b0:=cell_of_one H1.out;go_wp2_with fail;refine (JX A B n c m d i _).mono ?_;rintro e w2 ⟨rfl,av⟩;replace H2:=aT H2 av;replace H3:=aT H3 av;replace HB:=aX HB av;rw[Hh.out];have r0:=cell_of_one H2.out;have r1:=Boxed.frozen H2.out;have e0:=cell_of_one H3.out;have e1:=Boxed.frozen H3.out;have iU:=bf H3.out;go_wp2_with fail;obtain⟨q2,q3⟩:=Nm ae H2 H3 (.string ⟨#[]⟩) (.int .i64 130);exact agq
theorem arB {cs:List l8} (h: ∀q∈cs.reverse,¬q.1=i):DP cs i=none:=by
 rw[DP,List.find?_eq_none.2 (λq hq=>by simpa using h q hq)];rfl
theorem arC {cs aQ:List l8} {q:l8} (h:aQ++ [q]<+:cs.reverse) (hp: ∀x∈aQ,¬x.1=i) (hq:q.1=i):DP cs i=some q.2:=by
 obtain⟨t,ht⟩:=h;rw[DP,<-ht,List.append_assoc,List.find?_append,List.find?_eq_none.2 (λx hx=>by simpa using hp x hx)];simp[hq]
structure RI (w:World) (i:Int) (C:bx) (sz:Nat) (aQ:List l8) (W:World):Prop where
 hp: ∀q∈aQ,¬q.1=i
 g0:bj W w.heap.size C 74
 g1:bj W (w.heap.size+1) #[.int .i64 i] 3
 g2:W.heap[w.heap.size+1+1]?=some (.cells #[.string ⟨#[]⟩] 9 (0,0))
 g3:bj W (w.heap.size+1+1+1) #[.int .i64 0] 24
 gB:aD w W
 gs:sz<=W.heap.size
structure RX (w:World) (i:Int) (cd:Code) (aQ:List l8) (W:World):Prop where
 cd:cd= .ret
 ex: ∃VF q,aQ=VF++ [q]/\(∀x∈VF,¬x.1=i)/\q.1=i/\bj W (w.heap.size+1+1) #[.string q.2] 9
 g3:bj W (w.heap.size+1+1+1) #[.int .i64 0] 24
 gB:aD w W
theorem xW {C:bx} {X Y:World} {row:Option Nat} (h:X.heap[b]?=some (.cells C t (0,0))) (hg:X.grownBy Y row) (hr: ∀r,row=some r-> ∃o:Obj,X.heap[r]?=some o/\o.isCells=false):Y.heap[b]?=some (.cells C t (0,0)):=acg (β:=Unit) b C t () X Y row h hg hr
theorem arD (w:World) (i:Int) (C:bx) (sz B:Nat) (hB:w.heap.size<=B):OwnFrom B (RI w i C sz):=λs X Y row h hg hr=>
 ⟨h.hp,xW h.g0 hg (λr e=>(hr r e).2),xW h.g1 hg (λr e=>(hr r e).2),xW h.g2 hg (λr e=>(hr r e).2),xW h.g3 hg (λr e=>(hr r e).2),ownFrom_below (β:=Unit) (w₀:=w) (aM _) hB () X Y row h.gB hg hr,bD h.gs hg.size⟩
theorem arE (w:World) (i:Int) (cd:Code) (B:Nat) (hB:w.heap.size<=B):OwnFrom B (RX w i cd):=λs X Y row h hg hr=>by
 obtain⟨p',q,h2,h3,h4,h5⟩:=h.ex;exact⟨h.cd,⟨p',q,h2,h3,h4,xW h5 hg (λr e=>(hr r e).2)⟩,xW h.g3 hg (λr e=>(hr r e).2),ownFrom_below (β:=Unit) (w₀:=w) (aM _) hB () X Y row h.gB hg hr⟩
set_option maxHeartbeats 4000000 in
theorem arF (A B:aN) (n c m d:Nat) (P:az) (i:Nat) (w:World) (h:PB w A n B m P) (hc:fY P=true) (hi:i<P.ss.length):
  Calls prog 145 #[.agg #[.slice A n c,.slice B m d],.int .i64 (i:Nat)] w (Th w (kh P i,0)):=by
 obtain⟨h0,h1,h2,h3,hb⟩:=Nl w #[.slice A n c,.slice B m d] #[.int .i64 (i:Nat)] #[.string ⟨#[]⟩] #[.int .i64 0] 74 3 9 24;have H:=aa (h.below hb);have HM:=aa h.hm;have tM:=aa h.rc;have uL:=aa h.rs;have HB:=aa hb;have H0:=aa h0;have H1:=aa h1;have H2:=aa h2;have H3:=aa h3;have KW:m<=1000:=by have:=(xV hc).2.2.1;rw[h.hm];omega
 have Hh:=aa (show gJ n (i:Nat)=true by rw[h.hn];simp[gJ];omega);have Hc:=aa hc;have oN:(i:Int)<(n:Int):=by rw[h.hn];omega
 clear h h0 h1 h2 h3 hb hc;refine (callsIn_wide (n:=4)).1 ?_;refine callsIn_of_wp_marks func145 rfl trivial ?_ rfl;simp only[ntmps145,List.size_toArray,List.length_cons,List.length_nil,Nat.reduceAdd,Nat.reduceSub,Array.replicate_succ,Array.replicate_zero,List.push_toArray,List.append_toArray,List.nil_append,List.cons_append];gi_wp2_with (first
  |(refine⟨trivial,?_⟩;gi_at_call 191;refine (callsIn_wide.2 (JY A B n c m d P _ H)).mono ?_;rintro e w1 ⟨rfl,aG⟩;rw[Hc.out];replace H:=aa (H.below aG);replace H0:=aT H0 aG;replace H1:=aT H1 aG;replace H2:=aT H2 aG;replace H3:=aT H3 aG;replace HB:=aX HB aG;clear aG;obtain⟨a0,a1,_,_⟩:=aV H0.out;have b0:=cell_of_one H1)
  |(refine⟨trivial,?_⟩;gi_at_call 195;refine (callsIn_wide.2 (JX A B n c m d (i:Nat) _)).mono ?_;rintro e w2 ⟨rfl,av⟩;rw[Hh.out];replace H:=aa (H.below av);replace H0:=aT H0 av;replace H1:=aT H1 av;replace H2:=aT H2 av;replace H3:=aT H3 av;replace HB:=aX HB av;clear av a0 a1 b0;obtain⟨a0,a1,_,_⟩:=aV H0)
  |(refine⟨trivial,?_⟩;gi_at_call 227;refine (arA Fence.wide _ trivial rfl B m d _).mono ?_;rintro e w3 ⟨rfl,rfl⟩))
 have hH0:=aJ H0 (be w2 (.cells #[.slice B m d] 72));have hH1:=aJ H1 (be w2 (.cells #[.slice B m d] 72));have hH2:=aJ H2 (be w2 (.cells #[.slice B m d] 72));have hH3:=aJ H3 (be w2 (.cells #[.slice B m d] 72));have VS:=aR w2 (.cells #[.slice B m d] 72);have Lb:=HB.alloc HB.size (.cells #[.slice B m d] 72);have iU:=bf H3.out;have cg:(w2.alloc (.cells #[.slice B m d] 72)).heap.size=w2.heap.size+1:=ak;obtain⟨Bb,EN⟩: ∃b,b=w2.heap.size:=⟨_,rfl⟩
 rw[<-EN]at VS cg iU⊢;obtain⟨W0,xC⟩: ∃W,W=w2.alloc (.cells #[.slice B m d] 72):=⟨_,rfl⟩
 rw[<-xC]at hH0 hH1 hH2 hH3 VS Lb cg⊢;clear xC EN a0 a1 H0 H1 H2 H3 HB;refine wpIn_rangeFunc_ownH rfl ae (gf:=289) (lb:= #[.pointer (aw Bb)]) rfl trivial (enters_of func289 ax rfl)
  (encs:=λx:l8=> #[.agg #[.int .i64 x.1,.string x.2]]) (Kp:=Gi w.heap.size Bb) (S:=λys=>ys=P.cs.reverse) (Sp:=λaQ=>aQ<+:P.cs.reverse) (N:=m) (w0:=W0)
  (λl J Jx W hW _ _ hY h0=>arz Fence.wide 3 trivial rfl ae l Bb w.heap.size B m d P.cs HM KW J Jx hY w W (aM _) (Lb.trans (hW.mono ae)) (aJ VS hW) tM h0)
  arx (ary ae ae) (aI _ _) (λ_=>rfl)
  (RI w (i:Int) #[.slice A n c,.slice B m d] (Bb+1)) (RX w (i:Int)) (arD _ _ _ _ _ ae) (λcd=>arE _ _ _ _ ae)
  ⟨ak,hH0,hH1,hH2,hH3,Lb,ae⟩
  (λx a' W=> ∃Bx,Bb<Bx/\bj W Bx #[.int .i64 x.1,.string x.2] 257/\a'= {tmps:= #[.agg #[.slice A n c,.slice B m d],.int .i64 (i:Nat),.pointer (some ⟨w.heap.size,0,none⟩),.pointer (some ⟨w.heap.size+1,0,none⟩),.pointer (some ⟨w.heap.size+1+1,0,none⟩),.pointer (some ⟨w.heap.size+1+1+1,0,none⟩),.pointer (aw Bx),.agg #[.slice A n c,.slice B m d],.bool true,.bool false,.agg #[.slice A n c,.slice B m d],.int .i64 (i:Nat),.bool true,.bool false,.pointer (some ⟨w.heap.size,1,none⟩),.slice B m d,.func (.func 289) #[] #[.pointer (aw Bb)],.agg #[.int .i64 x.1,.string x.2],undef,undef,undef,undef,undef,undef,undef,undef,undef,undef,undef],defers:= []})
  (λx a' _ X Y row hs hg hr=>by obtain⟨Bx,e1,e2,e3⟩:=hs;exact⟨Bx,e1,acg (β:=Unit) Bx _ _ () X Y row e2 hg (λr e=>(hr r e).2),e3⟩)
  ?assign ?body ?done ?stop
 case assign=>
  rintro l aQ x W K hI hK;have hs:=hI.gB.size;have sB:=hI.gs;have al:=be W (.cells #[.int .i64 x.1,.string x.2] 257);have hn:=aR W (.cells #[.int .i64 x.1,.string x.2] 257);gi_wp2;refine hK _ _ ((KeepsOthers.alloc _ _).from _) ⟨(aI _ W).alloc hs _,aav (by simp;omega) al⟩ ⟨hI.hp,aJ hI.g0 al,aJ hI.g1 al,aJ hI.g2 al,aJ hI.g3 al,hI.gB.alloc hs _,by simp;omega⟩ ⟨W.heap.size,ae,hn,rfl⟩
 case body=>
  rintro l aQ x a' W hl ⟨r,hr⟩ hI ⟨Bx,hBx,bX,rfl⟩ aK;obtain⟨y0,y1,_,_⟩:=aV bX;have z1:=cell_of_one hI.g1;have z2:=cell_of_one hI.g2;have z3:=cell_of_one hI.g3;have f2:=Boxed.frozen hI.g2;have f3:=Boxed.frozen hI.g3;obtain⟨xi,xs⟩:=x;simp only at y0 y1;have HI:=aa hI;clear hr hI;have LE:w.heap.size+1+1+1<Bb:=iU;by_cases hx:xi=(i:Int)
  ·have d1:(xi==(i:Int))=true:=by simpa using hx
   have Hx:=aa hx;clear hx;gi_wp2;have q:=Nm ae HI.g2 HI.g3 (.string xs) (.int .i64 0);exact⟨((KeepsOthers.setCell _ _ _).trans (KeepsOthers.setCell _ _ _)).from _,⟨rfl,⟨aQ,(xi,xs),rfl,HI.hp,Hx,q.1⟩,q.2,(HI.gB.trans (jQ ae _)).trans (jQ ae _)⟩⟩
  ·have d1:(xi==(i:Int))=false:=by simpa using hx
   have Hx:=aa hx;clear hx;gi_wp2;refine⟨KeepsFrom.refl _ _,⟨aI _ _,λ_ _=>rfl⟩,⟨λq hq=>?_,HI.g0,HI.g1,HI.g2,HI.g3,HI.gB,HI.gs⟩⟩;rcases List.mem_append.1 hq with hq|hq
   ·exact HI.hp q hq
   ·obtain rfl:=List.mem_singleton.1 hq;exact Hx.out
 case done=>
  rintro D ys W hD rfl hI hK;have HL:=aa (arB hI.hp);obtain⟨y0,y1,_,_⟩:=aV hI.g0;have z1:=cell_of_one hI.g1;have z2:=cell_of_one hI.g2;have z3:=cell_of_one hI.g3;have f2:=Boxed.frozen hI.g2;have f3:=Boxed.frozen hI.g3;obtain⟨b,aS,hA,c0⟩:=kG (uL.below hI.gB) hi;subst hA;have HS:=aa (show kh P (i:Int)=P.ss[i] by rw[kh,HL.out];simp[hi]);generalize P.ss[i]=s at c0 HS;have HI:=aa hI;have HK:=aa hK;have aE7:D<W.heap.size:=bf hK;clear hI hK;gi_wp2;obtain⟨q2,q3⟩:=Nm ae HI.g2 HI.g3 (.string s) (.int .i64 0);have hBf:=(HI.gB.trans (jQ (w:=W) (b:=w.heap.size+1+1) (i:=0) (B0:=w.heap.size) ae (.string s))).trans (jQ (w:=W.setCell ⟨w.heap.size+1+1,0,none⟩ (.string s)) (b:=w.heap.size+1+1+1) (i:=0) (B0:=w.heap.size) ae (.int .i64 0));have uY:=(((KeepsOthers.setCell W ⟨w.heap.size+1+1,0,none⟩ (.string s)).trans (KeepsOthers.setCell _ ⟨w.heap.size+1+1+1,0,none⟩ (.int .i64 0)))).same D _ HK rfl;refine⟨ak,.inl ⟨_,_,rfl,run_takeDeferred uY,?_⟩⟩;have k2:=xW q2 (grownBy_putObj' _ D (.deferred none)) (λr e=>by cases e;exact⟨_,uY,rfl⟩);have k3:=xW q3 (grownBy_putObj' _ D (.deferred none)) (λr e=>by cases e;exact⟨_,uY,rfl⟩);refine⟨_,Td rfl _ _ (w.heap.size+1+1) (w.heap.size+1+1+1) ah ah _ _ (Tf (cell_of_one k2)) (Tg (cell_of_one k3)),?_,hBf.trans (belowK_b (w:=w) (aM _) _ D _ _ ae uY rfl rfl)⟩;rw[HS.out]
 case stop=>
  rintro D cd aQ W hD xy hX hK;obtain⟨rfl,⟨VF,q,rfl,hp,hq,g2⟩,g3,gB⟩:=hX;have HS:=aa (show kh P (i:Int)=q.2 by rw[kh,arC xy hp hq];rfl);have HK:=aa hK;have G2:=aa g2;have G3:=aa g3;have GB:=aa gB;clear hK g2 g3 gB hp hq xy;gi_wp2;refine⟨ak,.inl ⟨_,_,rfl,run_takeDeferred HK,?_⟩⟩;have k2:=xW G2 (grownBy_putObj' _ D (.deferred none)) (λr e=>by cases e;exact⟨_,HK,rfl⟩);have k3:=xW G3 (grownBy_putObj' _ D (.deferred none)) (λr e=>by cases e;exact⟨_,HK,rfl⟩);refine⟨_,Td rfl _ _ (w.heap.size+1+1) (w.heap.size+1+1+1) ah ah _ _ (Tf (cell_of_one k2)) (Tg (cell_of_one k3)),?_,GB.trans (belowK_b (w:=w) (aM _) _ D _ _ ae HK rfl rfl)⟩;rw[HS.out]
theorem DT (v:Value) (P:az) (i:Int) (w:World) (h:dT w v P):Calls prog 145 #[v,.int .i64 i] w (Th w (eK P i)):=by
 obtain⟨A,n,c,B,m,d,rfl,h⟩:=h;by_cases hc:fY P=true
 ·by_cases hh:gJ P.ss.length i=true
  ·have hi:0<=i/\i<(P.ss.length:Int):=by simpa[gJ] using hh
   obtain⟨k,rfl⟩:=Int.eq_ofNat_of_zero_le hi.1;rw[eK,if_neg (by rw[hc];simp),if_neg (by rw[hh];simp)];exact arF A B n c m d P k w h hc ae
  ·exact ach A B n c m d P i w h (.inr (by simpa using hh))
 ·exact ach A B n c m d P i w h (.inl (by simpa using hc))
end
end
section
variable {P:Prop} {i:Int} {w w':World}
def aci (w:World) (r:ByteArray×Bool×Int) (e:Ending) (w':World):Prop:=e= .returned (.tuple #[.string r.1,.bool r.2.1,.int .i64 r.2.2])/\aD w w'
theorem Gj {P:az} (h:(eK P i).2=0):fY P=true/\gJ P.ss.length i=true:=by
 unfold eK at h;split at h
 ·simp at h
 ·split at h
  ·simp at h
  ·rename_i h1 h2;exact⟨by simpa using h1,by simpa using h2⟩
theorem Ti {P:az} (h:(eK P i).2=0):(eK P i).1.size<=128:=by
 obtain⟨hc,hh⟩:=Gj h;obtain⟨_,_,_,h4,h5⟩:=xV hc;rw[eK,if_neg (by rw[hc];simp),if_neg (by rw[hh];simp)];simp only[kh,DP];cases hf:List.find? (λc=>c.1==i) P.cs.reverse with
 |none=>
  simp only[Option.map_none,Option.getD_none];rw[dh];cases hg:P.ss[i.toNat]? with
  |none=>exact Nat.zero_le _
  |some y=>simpa using h4 y (List.mem_of_getElem? hg)
 |some q=>
  have:=List.mem_reverse.1 (List.mem_of_find?_eq_some hf);exact (h5 q this).1
theorem ag8 (h:P:=by
 go_in;go_wp2_with fail;refine (DT _ P i _ ⟨_,_,_,_,_,_,rfl,HP⟩).mono ?_;rintro e w1 ⟨rfl,aG⟩;rw[<-HR.out];have cu:=aX HB aG;go_wp2_with fail;go_ret3;rw[HG.out];exact⟨rfl,cu⟩):P:=h
theorem ahm (h:P:=by
 have h1:=dI.2;have h2:=(xV dI.1).2.1;simp only[gJ,Bool.and_eq_true,decide_eq_true_eq]at h1;omega):P:=h
theorem DU (A B:aN) (n c m d:Nat) (P:az) (i:Int) (w:World) (h:PB w A n B m P) (hi:i<=9223372036854775000):
  Calls prog 97 #[.agg #[.slice A n c,.slice B m d],.int .i64 i] w (aci w (cF P i)):=by
 have hA:=aR w (.cells #[.slice A n c,.slice B m d] 74);have bG:=be w (.cells #[.slice A n c,.slice B m d] 74);have HP:=aa (h.below bG);have HA:=aa hA;have HB:=aa bG;obtain⟨r,hr⟩: ∃r,r=eK P i:=⟨_,rfl⟩
 obtain⟨s,x⟩:=r;have HR:=aa hr;by_cases hx:x=0
 ·subst hx;by_cases hs:s.size=0
  ·have HG:=aa (show cF P i=(bo,false,0) by
    rw[cF,<-HR.out,if_pos (.inr (ByteArray.size_eq_zero_iff.1 hs))])
   have e1:=(sG s).2 hs;exact ag8
  ·have dI:=Gj (show (eK P i).2=0 by rw[<-HR.out]);have cg:=Ti (show (eK P i).2=0 by rw[<-HR.out]);rw[<-HR.out]at cg;have yQ:0<=i/\i<200:=by
    exact ahm
   have uz:=aa (show¬(((s,(0:Int)):ByteArray×Int).2≠0\/((s,(0:Int)):ByteArray×Int).1=bo) by
    rintro (h|h)
    ·exact h rfl
    ·exact hs (by rw[show s=bo from h];rfl))
   have e1:s.toList.isEmpty=false:=toList_some s hs;have e2: ¬s.toList= []:=λe=>hs ((sG s).1 e);cases hbo:nY s with
   |none=>
    have HG:=aa (show cF P i=(bo,false,140) by rw[cF,<-HR.out,if_neg uz.out];simp only[hbo]);have HO:=aa hbo;go_in;go_wp2_with fail;refine (DT _ P i _ ⟨_,_,_,_,_,_,rfl,HP⟩).mono ?_;rintro e w1 ⟨rfl,aG⟩;rw[<-HR.out];have cu:=aX HB aG;go_wp2_with fail;refine (Ni s _ ae).mono ?_;rintro e w2 ⟨rfl,av⟩;have bq:=aX cu av;rw[HO.out];go_wp2_with fail;go_ret3;rw[HG.out];exact⟨rfl,bq⟩
   |some far=>
    have HG:=aa (show cF P i=((eK P (i+far)).1,decide ((eK P (i+far)).2=0),(eK P (i+far)).2) by rw[cF,<-HR.out,if_neg uz.out];simp only[hbo]);have HO:=aa hbo;have C3:far=1\/far=2:=by
     unfold nY at hbo;split at hbo
     ·injection hbo with hbo;exact .inl hbo.symm
     ·split at hbo
      ·injection hbo with hbo;exact .inr hbo.symm
      ·cases hbo
    have ry:1<=far:=ae;have Mq:far<=2:=ae;go_in;go_wp2_with fail;refine (DT _ P i _ ⟨_,_,_,_,_,_,rfl,HP⟩).mono ?_;rintro e w1 ⟨rfl,aG⟩;rw[<-HR.out];have cu:=aX HB aG;have u9:=aT HA aG;have gM:=aa (HP.below aG);go_wp2_with fail;refine (Ni s _ ae).mono ?_;rintro e w2 ⟨rfl,av⟩;have bq:=aX cu av;have dN:=aT u9 av;have fP:=aa (gM.below av);rw[HO.out];obtain⟨a0,a1,_,_⟩:=aV dN.out;go_wp2_with fail;refine (DT _ P (i+far) _ ⟨_,_,_,_,_,_,rfl,fP⟩).mono ?_;rintro e w3 ⟨rfl,aL⟩;have cj:=aX bq aL;obtain⟨r3,Lg⟩: ∃r,r=eK P (i+far):=⟨_,rfl⟩
    rw[<-Lg]at HG⊢;obtain⟨s3,x3⟩:=r3;simp only at HG⊢;go_wp2_with fail;go_ret3;rw[HG.out];exact⟨rfl,cj⟩
 ·have HG:=aa (show cF P i=(bo,false,x) by rw[cF,<-HR.out,if_pos (.inl hx)]);have d1:(x !=0)=true:=by simpa using hx
  exact ag8
theorem acj (A B:aN) (n c m d:Nat) (P:az) (w:World) (h:PB w A n B m P) (hn:n<=1000000) (hm:m<=1000000):
  Calls prog 151 #[.agg #[.slice A n c,.slice B m d]] w λe w'=> ∃A' n' c' B' m' d',e= .returned (.agg #[.slice A' n' c',.slice B' m' d'])/\PB w' A' n' B' m' P/\aD w w':=by
 obtain⟨hX,hA,bG⟩:=qP w #[.slice A n c,.slice B m d] 74;have H:=aa h;have HP:=aa (h.below bG);have HX:=aa hX;have x0:=(aV hA).1;have x1:=(aV hA).2.1;have nH:=aa bG;have f0:=(aV hX).1;have f1:=(aV hX).2.1;have f2:=(aV hX).2.2.1;have f3:=(aV hX).2.2.2;go_in;go_wp2_with fail;go_region_held3 (λw'=>(w'.cell? ⟨w.heap.size,0,none⟩=some (.slice A n c)/\w'.cell? ⟨w.heap.size,1,none⟩=some (.slice B m d)))
  (first|assumption|exact⟨x0,x1⟩|exact i6 ⟨x0,x1⟩ (by assumption)|exact i6 (by assumption) (by assumption)|exact ip (ip (by assumption) ak ak) ak ak)
  (first
   |(refine Am ah _ _ 28 ah w.heap.size 9 (.string ⟨#[]⟩) 1 16 underlying28 mx rfl ae ah A n c ah (aZ P.ss) (by exact HP.rs) (by rw[qO,<-H.hn,Nat.mul_one]) (DS _) ae ae (by exact nH.size) ?_;intro A1 lH w1 fQ AQ;have aG:=bg ((aI _ ((w.alloc (.cells #[.slice A n c,.slice B m d] 74)).alloc (.cells zP 74))).drew) AQ)
   |(refine Am ah _ _ 72 ah w.heap.size 257 (.agg #[.int .i64 0,.string ⟨#[]⟩]) 2 24 underlying72 Gg rfl ae ah B m d ah (jn P.cs) (by exact HP.rc.below aG) (by rw[Gf,<-H.hm]) (JW _) ae ae (by exact bD nH.size aG.size) ?_;intro B1 eM w2 dy av;replace HX:=aT (aT HX aG) av;obtain⟨f0',f1',f2',f3'⟩:=aV HX))
 exact ahp
theorem Nn (i:Int) (s:ag) (w:World):Calls prog 147 #[.int .i64 i,.string s] w λe w'=>e= .returned (.func (.func 148) #[] #[.pointer (some ⟨w.heap.size,0,none⟩),.pointer (some ⟨w.heap.size+1,0,none⟩)])/\w'=(w.alloc (.cells #[.int .i64 i] 3)).alloc (.cells #[.string s] 9):=by
 exact jt
theorem ack (v:Value) (P:az) (ba fJ:Nat) (i:Int) (s:ag) (w:World) (h:dT w v P) (hi:w.cell? ⟨ba,0,none⟩=some (.int .i64 i)) (hs:w.cell? ⟨fJ,0,none⟩=some (.string s)):
  Calls prog 148 #[v,.pointer (aw ba),.pointer (aw fJ)] w (kj w (i' i s P)):=by
 obtain⟨A,n,c,B,m,d,rfl,h⟩:=h;obtain⟨hX,hA,bG⟩:=qP w #[.slice A n c,.slice B m d] 74;have HP:=aa (h.below bG);have HX:=aa hX;have HB:=aa bG;have h1:=cU hi;have h2:=cU hs;simp only at h1 h2;obtain⟨r,hr⟩: ∃r,r=i' i s P:=⟨_,rfl⟩
 have HR:=aa hr;rw[<-hr];clear h hX hA bG hr;go_in;go_wp2_with fail;refine (acd _ P i s _ ⟨_,_,_,_,_,_,rfl,HP⟩).mono ?_;exact Vc
def J1 (w:World) (v:Value) (f:az->az×Int):Prop:=
 (v= .func (.func 152) #[] #[]/\f=lX)\/ ∃ba fJ i s,v= .func (.func 148) #[] #[.pointer (aw ba),.pointer (aw fJ)]/\w.cell? ⟨ba,0,none⟩=some (.int .i64 i)/\w.cell? ⟨fJ,0,none⟩=some (.string s)/\f=i' i s
theorem No {p:Addr} {v:Value} (h:w.cell? p=some v) (hb:aD w w'):w'.cell? p=some v:=(hb.cell (cU h)).trans h
theorem J1.below {v:Value} {f:az->az×Int} (h:J1 w v f) (hb:aD w w'):J1 w' v f:=by
 rcases h with h|⟨ba,fJ,i,s,h1,h2,h3,h4⟩
 ·exact .inl h
 ·exact .inr ⟨ba,fJ,i,s,h1,No h2 hb,No h3 hb,h4⟩
def Cb (w:World) (r:az×Bool×Int) (e:Ending) (w':World):Prop:= ∃v,e= .returned (.tuple #[v,.bool r.2.1,.int .i64 r.2.2])/\dT w' v r.1/\aD w w'
theorem J2: ∀(l:List (az->az×Int)) (f:az->az×Int) (P Q:az),fa l P=(Q,0)->fa (l++ [f]) P=if (f Q).2≠0 then (bI,(f Q).2) else ((f Q).1,0)
 | [],f,P,Q,h=>by
  injection h with h _
  subst h;rfl
 |g::l,f,P,Q,h=>by
  rw[fa]at h;split at h
  ·rename_i h1;injection h with _ h
   exact absurd h h1
  ·rename_i h1;rw[List.cons_append,fa,if_neg h1];exact J2 l f _ Q h
theorem Np: ∀(l m:List (az->az×Int)) (P:az),(fa l P).2≠0->fa (l++m) P=(bI,(fa l P).2)
 | [],m,P,h=>absurd rfl h
 |g::l,m,P,h=>by
  rw[fa]at h;rw[List.cons_append,fa,fa];split
  ·rfl
  ·rename_i h1;rw[if_neg h1]at h;exact Np l m _ h
theorem Tj {α:Type} (l:List α) {j m:Nat} (h:j<=m):l.take m=l.take j++(l.take m).drop j:=by
 have:=List.take_append_drop j (l.take m);rw[List.take_take,Nat.min_eq_left h]at this;exact this.symm
theorem arG (aH:Int) (n:Nat):vK aH n<=n:=by
 unfold vK;split
 ·exact aM _
 ·omega
theorem agS (h:P:=by
 refine⟨k+1,Q2,A2,n2,c2,B2,m2,jG,ae,by go_num,by rw[gV.out,if_neg ak],eA pC _ _,?_,gX.two pC,dL cj (aM _) _ _⟩;exact (bz _ ⟨w.heap.size,1,none⟩ _ (w.heap.size+1) ak).trans ((bz _ ⟨w.heap.size,0,none⟩ _ (w.heap.size+1) ak).trans jb)):P:=h
theorem ag3 (h:P:=by
 rw[<-hq]at gV dl gX⊢;obtain⟨Q2,er⟩:=q;clear av qc bE a0 a1 a2 a3 x0 x1 x2 x3 hq c0;obtain⟨a0,a1,a2,a3⟩:=aV pC.out;obtain⟨p0,p1,p2,p3⟩:=aV dN.out;obtain⟨q0,q1,q2,q3⟩:=aV bT.out;obtain⟨x0,x1,x2,x3⟩:=aV jb.out;simp only at gV dl gX⊢;by_cases dO:er=0
 ·subst dO;go_wp2;go_roundw;case rel=>
   exact agS
  case measure=>simp[intOf];omega
 ·have d9:(er !=0)=true:=by simpa using dO
  have uz:=aa dO;clear dO;go_wp2_with fail;try simp only[Exit.inBlock,Exit.then]
  refine bodyPost_ret (BZ rfl _ _ (w.heap.size+1) ah _ (eP (aJ (eA bT _ _) ((aI _ _).alloc (aM _) _)))) rfl ?_;have e2:fa (l.take (k+1)) P=(bI,er):=by rw[gV.out,if_pos uz.out]
  have e3:l.take mL=l.take (k+1)++(l.take mL).drop (k+1):=Tj l (by have:=Ln;have:=HmN.out;omega);have e4:fa (l.take mL) P=(bI,er):=by
   rw[e3,Np _ _ _ (by rw[e2];exact uz.out),e2]
  rw[HR.out,e4,if_pos uz.out];have wD:=dL (w0:=w) (w:=w2) bq (show w.heap.size<=w.heap.size+1 by omega) (ay) (ay);exact⟨_,rfl,dT.no _,wD.alloc wD.size _⟩):P:=h
theorem Zz3 (h:P:=by
 clear si;go_in;go_wp2_with fail;go_loopw [27] (λx wr=> ∃(k:Nat) (Q:az) (A1:aN) (n1 c1:Nat) (B1:aN) (m1 d1:Nat),k<=N/\x= .int .i64 (k:Nat)/\fa (l.take k) P=(Q,0)/\bj wr w.heap.size #[.slice A1 n1 c1,.slice B1 m1 d1] 74/\bj wr (w.heap.size+1) zP 74/\PB wr A1 n1 B1 m1 Q/\aD w wr) (λx _=>N -(intOf x).toNat);case atStart=>exact⟨0,P,A,n,c,B,m,d,ae,rfl,rfl,HA,HX,HP,HB⟩
 case round=>
  obtain⟨k,Q,A1,n1,c1,B1,m1,wL,hk,rfl,j2,mh,pF,tD,C5⟩:=hrel;have u9:=aa mh;have j9:=aa pF;have gM:=aa tD;have cu:=aa C5;have HQ:=aa j2;obtain⟨a0,a1,a2,a3⟩:=aV mh;obtain⟨x0,x1,x2,x3⟩:=aV pF;have Bm:=bf pF;clear mh pF tD C5 j2;by_cases aK:k<N
  ·have cY:k<l.length:=by rw[<-HN.out];omega
   have C7:k<vs.length:=(by rw[HL.out];exact cY);obtain⟨b,aS,tR,c0⟩:=(HD.below cu) k vs[k] (by simp[C7]);subst tR;have wU:=(HV k vs[k] l[k] (by simp[C7]) (by simp[cY])).below cu.out;have Hs:=aa (show fa (l.take (k+1)) P=if (l[k] Q).2≠0 then (bI,(l[k] Q).2) else ((l[k] Q).1,0) by
    rw[List.take_succ_eq_append_getElem cY];exact J2 _ _ _ _ HQ)
   have gq:(k:Int)<(N:Int):=ae;have fC:(k:Int)<(N:Int):=ae;have Ln:k<N:=aK;generalize vs[k]=v at c0 wU;generalize l[k]=f at wU Hs;rcases wU with⟨rfl,rfl⟩|⟨ba,fJ,i,s,rfl,hi,hs,rfl⟩
   ·have gV:=Hs;go_wp2_with fail;refine (Nk _ Q _ ⟨_,_,_,_,_,_,rfl,gM⟩).mono ?_;rintro e w2 ⟨v2,rfl,ml,av⟩;obtain⟨A2,n2,c2,B2,m2,jG,rfl,qc⟩:=ml;have bT:=aT j9 av;have dN:=aT u9 av;have bq:=aX cu av;have bE:=be w2 (.cells #[.slice A2 n2 c2,.slice B2 m2 jG] 74);have jb:=aT bT bE;have pC:=aT dN bE;have dl:=aa qc;have gX:=aa (qc.below bE);have cj:=aX bq bE;have iU:=bf bT.out;obtain⟨q,hq⟩: ∃q,q=lX Q:=⟨_,rfl⟩
    exact ag3
   ·have gV:=Hs;go_wp2_with fail;refine (ack _ Q ba fJ i s _ ⟨_,_,_,_,_,_,rfl,gM⟩ hi hs).mono ?_;rintro e w2 ⟨v2,rfl,ml,av⟩;obtain⟨A2,n2,c2,B2,m2,jG,rfl,qc⟩:=ml;have bT:=aT j9 av;have dN:=aT u9 av;have bq:=aX cu av;have bE:=be w2 (.cells #[.slice A2 n2 c2,.slice B2 m2 jG] 74);have jb:=aT bT bE;have pC:=aT dN bE;have dl:=aa qc;have gX:=aa (qc.below bE);have cj:=aX bq bE;have iU:=bf bT.out;obtain⟨q,hq⟩: ∃q,q=i' i s Q:=⟨_,rfl⟩
    exact ag3
  ·obtain rfl:k=N:=ae;have Le: ¬(k:Int)<(k:Int):=ae;go_wp2_with fail;try simp only[Exit.inBlock,Exit.then]
   refine bodyPost_ret (BZ rfl _ _ (w.heap.size+1) ah _ (eP (eA j9 _ _))) rfl ?_;rw[HR.out,HmN.out,HQ.out];refine⟨.agg #[.slice A1 n1 c1,.slice B1 m1 wL],?_,⟨_,_,_,_,_,_,rfl,gM.two j9⟩,dL cu ae _ _⟩;simp):P:=h
theorem Zz8 (h:P:=by
 subst dO;go_wp2;go_roundw;case rel=>
  exact agS
 case measure=>simp[intOf];omega):P:=h
theorem ayS (h:P:=by
 have e4:fa (l.take mL) P=(bI,er):=by
  rw[e3,Np _ _ _ (by rw[e2];exact uz.out),e2]
 rw[HR.out,e4,if_pos uz.out];have wD:=dL (w0:=w) (w:=w2) bq (show w.heap.size<=w.heap.size+1 by omega) (ay) (ay);exact⟨_,rfl,dT.no _,wD.alloc wD.size _⟩):P:=h
theorem ahE (h:P:=by
 rw[<-hq]at gV dl gX⊢;obtain⟨Q2,er⟩:=q;clear av qc bE a0 a1 a2 a3 x0 x1 x2 x3 hq c0;obtain⟨a0,a1,a2,a3⟩:=aV pC.out;obtain⟨p0,p1,p2,p3⟩:=aV dN.out;obtain⟨q0,q1,q2,q3⟩:=aV bT.out;obtain⟨x0,x1,x2,x3⟩:=aV jb.out;simp only at gV dl gX⊢;by_cases dO:er=0
 ·exact Zz8
 ·have d9:(er !=0)=true:=by simpa using dO
  have uz:=aa dO;clear dO;go_wp2_with fail;try simp only[Exit.inBlock,Exit.then]
  refine bodyPost_ret (BZ rfl _ _ (w.heap.size+1) ah _ (eP (aJ (eA bT _ _) ((aI _ _).alloc (aM _) _)))) rfl ?_;have e2:fa (l.take (k+1)) P=(bI,er):=by rw[gV.out,if_pos uz.out]
  have e3:l.take mL=l.take (k+1)++(l.take mL).drop (k+1):=Tj l (by have:=Ln;omega);exact ayS):P:=h
theorem arH (A B D:aN) (n c m d cd N mL:Nat) (aH:Int) (P:az) (l:List (az->az×Int)) (vs:bJ) (w:World) (h:PB w A n B m P) (hD:Rd w D vs) (hN:N=l.length) (hv:vs.length=l.length) (QQ: ∀(i:Nat) (v:Value) (f:az->az×Int),vs[i]?=some v->l[i]?=some f->J1 w v f) (hm:mL=vK aH N) (KT:N<=1000) (CT:N<=cd) (r:az×Bool×Int) (hr:r=vL P aH l):
  Calls prog 150 #[.agg #[.slice A n c,.slice B m d],.int .i64 aH,.slice D N cd] w (Cb w r):=by
 obtain⟨hX,hA,bG⟩:=qP w #[.slice A n c,.slice B m d] 74;have HP:=aa (h.below bG);have HX:=aa hX;have HA:=aa hA;have HB:=aa bG;have HV:=aa QQ;have HL:=aa hv;have HN:=aa hN;have HD:=aa hD;have XW:mL<=N:=by rw[hm];exact arG _ _
 have HR:=aa (show r=if (fa (l.take mL) P).2≠0 then (bI,false,(fa (l.take mL) P).2) else ((fa (l.take mL) P).1,decide (mL=N),0) by rw[hr,vL,hm,hN]);have By:(aH<0\/(N:Int)<aH)/\mL=N\/ ¬aH<0/\ ¬(N:Int)<aH/\aH=(mL:Int):=by
  rw[hm];unfold vK;by_cases h:aH<0\/(N:Int)<aH
  ·rw[if_pos h];exact .inl ⟨h,rfl⟩
  ·rw[if_neg h];exact .inr ⟨λe=>h (.inl e),λe=>h (.inr e),ae⟩
 clear h hX hA bG QQ hv hN hD hm hr;have aBa: ∀t1 b1 b2:Value,True:=λ_ _ _=>trivial;clear aBa;rcases By with⟨si,hmN⟩|⟨gu,fi,vn⟩
 ·have HmN:=aa hmN;clear hmN;rcases Decidable.em (aH<0) with ji|ji
  ·have d1:decide (aH<0)=true:=by simpa using ji
   exact Zz3
  ·have d1:decide (aH<0)=false:=by simpa using ji
   have d2:decide ((N:Int)<aH)=true:=(by simpa using si.resolve_left ji);exact Zz3
 ·have d1:decide (aH<0)=false:=by simpa using gu
  have d2:decide ((N:Int)<aH)=false:=by simpa using fi
  subst vn;clear gu fi;go_in;go_wp2_with fail;go_loopw [27] (λx wr=> ∃(k:Nat) (Q:az) (A1:aN) (n1 c1:Nat) (B1:aN) (m1 d1:Nat),k<=mL/\x= .int .i64 (k:Nat)/\fa (l.take k) P=(Q,0)/\bj wr w.heap.size #[.slice A1 n1 c1,.slice B1 m1 d1] 74/\bj wr (w.heap.size+1) zP 74/\PB wr A1 n1 B1 m1 Q/\aD w wr) (λx _=>mL -(intOf x).toNat);case atStart=>exact⟨0,P,A,n,c,B,m,d,ae,rfl,rfl,HA,HX,HP,HB⟩
  case round=>
   obtain⟨k,Q,A1,n1,c1,B1,m1,wL,hk,rfl,j2,mh,pF,tD,C5⟩:=hrel;have u9:=aa mh;have j9:=aa pF;have gM:=aa tD;have cu:=aa C5;have HQ:=aa j2;obtain⟨a0,a1,a2,a3⟩:=aV mh;obtain⟨x0,x1,x2,x3⟩:=aV pF;have Bm:=bf pF;clear mh pF tD C5 j2;by_cases aK:k<mL
   ·have cY:k<l.length:=(by rw[<-HN.out];omega);have C7:k<vs.length:=(by rw[HL.out];exact cY);obtain⟨b,aS,tR,c0⟩:=(HD.below cu) k vs[k] (by simp[C7]);subst tR;have wU:=(HV k vs[k] l[k] (by simp[C7]) (by simp[cY])).below cu.out;have Hs:=aa (show fa (l.take (k+1)) P=if (l[k] Q).2≠0 then (bI,(l[k] Q).2) else ((l[k] Q).1,0) by
     rw[List.take_succ_eq_append_getElem cY];exact J2 _ _ _ _ HQ)
    have gq:(k:Int)<(mL:Int):=ae;have fC:(k:Int)<(N:Int):=ae;have Ln:k<mL:=aK;generalize vs[k]=v at c0 wU;generalize l[k]=f at wU Hs;rcases wU with⟨rfl,rfl⟩|⟨ba,fJ,i,s,rfl,hi,hs,rfl⟩
    ·have gV:=Hs;go_wp2_with fail;refine (Nk _ Q _ ⟨_,_,_,_,_,_,rfl,gM⟩).mono ?_;rintro e w2 ⟨v2,rfl,ml,av⟩;obtain⟨A2,n2,c2,B2,m2,jG,rfl,qc⟩:=ml;have bT:=aT j9 av;have dN:=aT u9 av;have bq:=aX cu av;have bE:=be w2 (.cells #[.slice A2 n2 c2,.slice B2 m2 jG] 74);have jb:=aT bT bE;have pC:=aT dN bE;have dl:=aa qc;have gX:=aa (qc.below bE);have cj:=aX bq bE;have iU:=bf bT.out;obtain⟨q,hq⟩: ∃q,q=lX Q:=⟨_,rfl⟩
     exact ahE
    ·have gV:=Hs;go_wp2_with fail;refine (ack _ Q ba fJ i s _ ⟨_,_,_,_,_,_,rfl,gM⟩ hi hs).mono ?_;rintro e w2 ⟨v2,rfl,ml,av⟩;obtain⟨A2,n2,c2,B2,m2,jG,rfl,qc⟩:=ml;have bT:=aT j9 av;have dN:=aT u9 av;have bq:=aX cu av;have bE:=be w2 (.cells #[.slice A2 n2 c2,.slice B2 m2 jG] 74);have jb:=aT bT bE;have pC:=aT dN bE;have dl:=aa qc;have gX:=aa (qc.below bE);have cj:=aX bq bE;have iU:=bf bT.out;obtain⟨q,hq⟩: ∃q,q=i' i s Q:=⟨_,rfl⟩
     exact ahE
   ·obtain rfl:k=mL:=ae;have Le: ¬(k:Int)<(k:Int):=ae;go_wp2_with fail;try simp only[Exit.inBlock,Exit.then]
    refine bodyPost_ret (BZ rfl _ _ (w.heap.size+1) ah _ (eP (eA j9 _ _))) rfl ?_;rw[HR.out,HQ.out];refine⟨.agg #[.slice A1 n1 c1,.slice B1 m1 wL],?_,⟨_,_,_,_,_,_,rfl,gM.two j9⟩,dL cu ae _ _⟩;rw[show decide (k=N)=((k:Int)==(N:Int)) by rw[Bool.eq_iff_iff];simp only[decide_eq_true_eq,beq_iff_eq];omega];rfl
theorem arI (A B D:aN) (n c m d cd N:Nat) (aH:Int) (P:az) (l:List (az->az×Int)) (vs:bJ) (w:World) (h:PB w A n B m P) (hD:Rd w D vs) (hN:N=l.length) (hv:vs.length=l.length) (QQ: ∀(i:Nat) (v:Value) (f:az->az×Int),vs[i]?=some v->l[i]?=some f->J1 w v f) (KT:N<=1000) (CT:N<=cd):
 Calls prog 150 #[.agg #[.slice A n c,.slice B m d],.int .i64 aH,.slice D N cd] w (Cb w (vL P aH l)):=arH A B D n c m d cd N _ aH P l vs w h hD hN hv QQ rfl KT CT _ rfl
theorem acl (s:ag):(s.toList== [48])=decide (s=iz):=by
 rw[ByteArray.toList_eq];by_cases h:s=iz
 ·rw[decide_eq_true h,h];rfl
 ·rw[decide_eq_false h];refine beq_eq_false_iff_ne.2 λe=>h ?_;rw[<-Dx s,e];rfl
theorem acm (A B:aN) (n c m d:Nat) (P:az) (a b aH:Int) (s t:ag) (T:TypeId) (w:World) (h:PB w A n B m P):
  Calls prog 150 #[.agg #[.slice A n c,.slice B m d],.int .i64 aH,.slice (some ⟨w.heap.size+1+1+1+1,0,none⟩) 4 4]
   (((((w.alloc (.cells #[.int .i64 a] 3)).alloc (.cells #[.string s] 9)).alloc (.cells #[.int .i64 b] 3)).alloc (.cells #[.string t] 9)).alloc (.cells #[.func (.func 148) #[] #[.pointer (some ⟨w.heap.size,0,none⟩),.pointer (some ⟨w.heap.size+1,0,none⟩)],.func (.func 152) #[] #[],.func (.func 148) #[] #[.pointer (some ⟨w.heap.size+1+1,0,none⟩),.pointer (some ⟨w.heap.size+1+1+1,0,none⟩)],.func (.func 152) #[] #[]] T))
   (Cb w (vL P aH [i' a s,lX,i' b t,lX])):=by
 obtain⟨h0,h1,h2,h3,hb⟩:=Nl w #[.int .i64 a] #[.string s] #[.int .i64 b] #[.string t] 3 9 3 9;have hs:((((w.alloc (.cells #[.int .i64 a] 3)).alloc (.cells #[.string s] 9)).alloc (.cells #[.int .i64 b] 3)).alloc (.cells #[.string t] 9)).heap.size=w.heap.size+1+1+1+1:=ak;generalize (((w.alloc (.cells #[.int .i64 a] 3)).alloc (.cells #[.string s] 9)).alloc (.cells #[.int .i64 b] 3)).alloc (.cells #[.string t] 9)=w5 at h0 h1 h2 h3 hb hs⊢;rw[<-hs];generalize hC:(#[.func (.func 148) #[] #[.pointer (some ⟨w.heap.size,0,none⟩),.pointer (some ⟨w.heap.size+1,0,none⟩)],.func (.func 152) #[] #[],.func (.func 148) #[] #[.pointer (some ⟨w.heap.size+1+1,0,none⟩),.pointer (some ⟨w.heap.size+1+1+1,0,none⟩)],.func (.func 152) #[] #[]]:bx)=C;have bE:=be w5 (.cells C T);have dw:=qC w5 T C;refine (arI A B (some ⟨w5.heap.size,0,none⟩) n c m d 4 4 aH P [i' a s,lX,i' b t,lX] C.toList _ ((h.below hb).below bE) dw rfl (by rw[<-hC];rfl) ?_ ae ae).mono ?_
 ·intro i v f hv hf;rw[<-hC]at hv;match i with
  |0=>
   simp at hv hf;subst hv hf;exact .inr ⟨_,_,a,s,rfl,cell_of_one (aJ h0 bE),cell_of_one (aJ h1 bE),rfl⟩
  |1=>
   simp at hv hf;subst hv hf;exact .inl ⟨rfl,rfl⟩
  |2=>
   simp at hv hf;subst hv hf;exact .inr ⟨_,_,b,t,rfl,cell_of_one (aJ h2 bE),cell_of_one (aJ h3 bE),rfl⟩
  |3=>
   simp at hv hf;subst hv hf;exact .inl ⟨rfl,rfl⟩
  |k+4=>simp at hf
 ·rintro e w' ⟨v,he,hv,ky⟩;exact⟨v,he,hv,bg (bg hb bE) ky⟩
theorem arJ (A B:aN) (n c m d:Nat) (P:az) (i aH:Int) (s:ag) (w:World) (h:PB w A n B m P) (hi:i<=9223372036854775000) (hg:(cF P i).2.2≠0):
  Calls prog 86 #[.agg #[.slice A n c,.slice B m d],.int .i64 i,.string s,.int .i64 aH] w (Cb w (eC P i s aH)):=by
 obtain⟨hX,hA,bG⟩:=qP w #[.slice A n c,.slice B m d] 74;have HP:=aa (h.below bG);have HX:=aa hX;have HB:=aa bG;have HG:=aa hg;have HR:=aa (show eC P i s aH=(bI,false,(cF P i).2.2) by rw[eC,if_pos hg]);obtain⟨r,hr⟩: ∃r,r=cF P i:=⟨_,rfl⟩
 rw[<-hr]at HG HR;have Hr:=aa hr;obtain⟨s1,b1,x1⟩:=r;have d1:(x1 !=0)=true:=by simpa using HG.out
 simp only at HR;go_in;go_wp2_with fail;refine (DU A B n c m d P i _ HP hi).mono ?_;rintro e w1 ⟨rfl,aG⟩;rw[<-Hr.out];replace HX:=aT HX aG;replace HB:=aX HB aG;obtain⟨x0,x1',x2,x3⟩:=aV HX.out;go_wp2_with fail;refine bodyPost_ret (BZ rfl _ _ (w.heap.size+1) ah _ (eP (eA HX _ _))) rfl ?_;rw[HR.out];exact⟨_,rfl,dT.no _,dL HB ae _ _⟩
theorem ahO (h:P:=by
 rw[<-HF.out,<-HR.out];rintro e w6 ⟨v6,rfl,W8,bO⟩;obtain⟨A6,n6,c6,B6,m6,d6,rfl,hP6⟩:=W8;replace HX:=aT HX bO;replace HB:=aX HB bO;have CU:=aa hP6;clear bO hP6;obtain⟨x0,x1',x2,x3⟩:=aV HX.out;go_wp2_with fail;refine bodyPost_ret (BZ rfl _ _ (w.heap.size+1) ah _ (eP (eA HX _ _))) rfl ?_;exact⟨_,rfl,⟨_,_,_,_,_,_,rfl,CU.two HX⟩,dL HB ae _ _⟩):P:=h
theorem arK (A B:aN) (n c m d:Nat) (P:az) (i aH:Int) (s:ag) (w:World) (h:PB w A n B m P) (hg:(cF P i).2.2=0):
  Calls prog 86 #[.agg #[.slice A n c,.slice B m d],.int .i64 i,.string s,.int .i64 aH] w (Cb w (eC P i s aH)):=by
 obtain⟨hX,hA,bG⟩:=qP w #[.slice A n c,.slice B m d] 74;have dI:=Gj (Nc hg);have yQ:0<=i/\i<200:=by
  exact ahm
 obtain⟨AS,sA⟩:=yQ;have hk:=xV dI.1;have VD:n<=200:=by rw[h.hn];exact hk.2.1
 have KW:m<=100:=by rw[h.hm];exact hk.2.2.1
 have HP:=aa (h.below bG);have HX:=aa hX;have HA:=aa hA;have HB:=aa bG;have qn:=aa (Nc hg);have HR:=aa (show eC P i s aH=vL P aH (pQ i s (eK P i).1) by rw[eC,if_neg (by rw[hg];simp)]);obtain⟨r,hr⟩: ∃r,r=cF P i:=⟨_,rfl⟩
 rw[<-hr]at hg;have Hr:=aa hr;obtain⟨s1,b1,x1⟩:=r;obtain rfl:x1=0:=hg;obtain⟨q,hq⟩: ∃q,q=eK P i:=⟨_,rfl⟩
 rw[<-hq]at qn HR;have Hq:=aa hq;obtain⟨fU,x2⟩:=q;obtain rfl:x2=0:=qn.out;simp only at HR;clear h hX hA bG hr hq dI hk;by_cases qN:fU=iz
 ·have j6:(fU.toList== [48])=true:=by rw[acl];exact decide_eq_true qN
  have HF:=aa (show pQ i s fU= [i' (i+2) s,lX,i' i lY,lX] by rw[pQ,vM,BW,if_pos qN,if_pos qN]);clear qN;go_in;go_wp2_with fail;refine (DU A B n c m d P i _ HP ae).mono ?_;rintro e w1 ⟨rfl,aG⟩;rw[<-Hr.out];replace HX:=aT HX aG;replace HA:=aT HA aG;replace HP:=aa (HP.below aG);replace HB:=aX HB aG;clear aG;obtain⟨a0,a1,_,_⟩:=aV HA.out;go_wp2_with fail;refine (DT _ P i _ ⟨_,_,_,_,_,_,rfl,HP⟩).mono ?_;rintro e w2 ⟨rfl,av⟩;rw[<-Hq.out];replace HX:=aT HX av;replace HA:=aT HA av;replace HP:=aa (HP.below av);replace HB:=aX HB av;clear av a0 a1;obtain⟨a0,a1,_,_⟩:=aV HA.out;go_wp2_with fail;refine (Ni lY _ au).mono ?_;rintro e w3 ⟨rfl,aL⟩;rw[show nY lY=some 2 from S6];replace HX:=aT HX aL;replace HA:=aT HA aL;replace HP:=aa (HP.below aL);replace HB:=aX HB aL;clear aL a0 a1;obtain⟨a0,a1,_,_⟩:=aV HA.out;go_wp2_with fail;refine (acj A B n c m d P _ HP ae ae).mono ?_;rintro e w4 ⟨A4,n4,c4,B4,m4,d4,rfl,hP4,aP⟩;replace HX:=aT HX aP;have pG:=aa hP4;replace HB:=aX HB aP;clear aP hP4 a0 a1;go_wp2_with fail;refine (Nn (i+2) s _).mono ?_;rintro e w5 ⟨rfl,rfl⟩;go_wp2_with fail;refine (Nn i lY _).mono ?_;rintro e w5 ⟨rfl,rfl⟩;go_wp2_with fail;refine (acm A4 B4 n4 c4 m4 d4 P (i+2) i aH s lY _ w4 pG).mono ?_;exact ahO
 ·have j6:(fU.toList== [48])=false:=by rw[acl];exact decide_eq_false qN
  have HF:=aa (show pQ i s fU= [i' (i+1) s,lX,i' i iz,lX] by rw[pQ,vM,BW,if_neg qN,if_neg qN]);clear qN;go_in;go_wp2_with fail;refine (DU A B n c m d P i _ HP ae).mono ?_;rintro e w1 ⟨rfl,aG⟩;rw[<-Hr.out];replace HX:=aT HX aG;replace HA:=aT HA aG;replace HP:=aa (HP.below aG);replace HB:=aX HB aG;clear aG;obtain⟨a0,a1,_,_⟩:=aV HA.out;go_wp2_with fail;refine (DT _ P i _ ⟨_,_,_,_,_,_,rfl,HP⟩).mono ?_;rintro e w2 ⟨rfl,av⟩;rw[<-Hq.out];replace HX:=aT HX av;replace HA:=aT HA av;replace HP:=aa (HP.below av);replace HB:=aX HB av;clear av a0 a1;obtain⟨a0,a1,_,_⟩:=aV HA.out;go_wp2_with fail;refine (Ni iz _ au).mono ?_;rintro e w3 ⟨rfl,aL⟩;rw[show nY iz=some 1 from S5];replace HX:=aT HX aL;replace HA:=aT HA aL;replace HP:=aa (HP.below aL);replace HB:=aX HB aL;clear aL a0 a1;obtain⟨a0,a1,_,_⟩:=aV HA.out;go_wp2_with fail;refine (acj A B n c m d P _ HP ae ae).mono ?_;rintro e w4 ⟨A4,n4,c4,B4,m4,d4,rfl,hP4,aP⟩;replace HX:=aT HX aP;have pG:=aa hP4;replace HB:=aX HB aP;clear aP hP4 a0 a1;go_wp2_with fail;refine (Nn (i+1) s _).mono ?_;rintro e w5 ⟨rfl,rfl⟩;go_wp2_with fail;refine (Nn i iz _).mono ?_;rintro e w5 ⟨rfl,rfl⟩;go_wp2_with fail;refine (acm A4 B4 n4 c4 m4 d4 P (i+1) i aH s iz _ w4 pG).mono ?_;exact ahO
theorem Nq (v:Value) (P:az) (i aH:Int) (s:ag) (w:World) (h:dT w v P) (hi:i<=9223372036854775000):
  Calls prog 86 #[v,.int .i64 i,.string s,.int .i64 aH] w (Cb w (eC P i s aH)):=by
 obtain⟨A,n,c,B,m,d,rfl,h⟩:=h;by_cases hg:(cF P i).2.2=0
 ·exact arK A B n c m d P i aH s w h hg
 ·exact arJ A B n c m d P i aH s w h hi hg
end
variable {i:Nat}
theorem arL {n:Nat} (h:i<n):gJ n (i:Int)=true:=by simp[gJ];omega
theorem arM {P:az} (h:fY P=true) (hi:i<P.ss.length):eK P (i:Int)=(kh P (i:Int),0):=by
 simp[eK,h,arL hi]
def Cc (e:Int) (l:List az):Bool:=l.any λP=>decide ((dr P).1.epoch=e)
def kq {α:Type} (f:α->Int):List α->Int
 | []=>0
 |a::l=>if f a≠0 then f a else kq f l
def l9 (l:List az) (e:Int):List az×Int:=
 if e<1\/1000000<e then ([],1)
 else if kq (λP=>(dr P).2) l≠0 then ([],kq (λP=>(dr P).2) l)
 else if Cc e l=false then (l,0)
 else if kq (λP=>(fI P e (-1)).2) l≠0 then ([],kq (λP=>(fI P e (-1)).2) l)
 else (l.map λP=>(fI P e (-1)).1,0)
theorem Tk {α:Type} {f:α->Int} : ∀ {l:List α},kq f l=0↔ ∀a∈l,f a=0
 | []=>⟨λ_ a h=>by simp at h,λ_=>rfl⟩
 |a::l=>by
  rw[kq];by_cases h:f a=0
  ·rw[if_neg (by simpa using h),Tk];exact⟨λg b hb=>by rcases List.mem_cons.1 hb with rfl|hb;exact h;exact g b hb,λg b hb=>g b (Vu _ hb)⟩
  ·rw[if_pos h];exact⟨λg=>absurd g h,λg=>absurd (g a ak) h⟩
structure Hs (P:az) (a b:ByteArray×Bool):Prop where
 chk:fY P=true
 cs:P.cs= []
 len:5<P.ss.length
 g0:cF P 0=(a.1,a.2,0)
 g3:cF P 3=(b.1,b.2,0)
structure xX where
 e:Int
 x:Int
 b:ByteArray
 salt:ByteArray
def dz (f:Nat->az->Int->az×Int) (gW:Int) (l:List az) (d:Int):Nat->List az×Int×Int
 |0=>(l,d,0)
 |k+1=>
  if (dz f gW l d k).2.2≠0 then dz f gW l d k
  else if (f k ((dz f gW l d k).1.getD k bI) (min (dz f gW l d k).2.1 gW)).2=0 then ((dz f gW l d k).1.set k (f k ((dz f gW l d k).1.getD k bI) (min (dz f gW l d k).2.1 gW)).1,(dz f gW l d k).2.1 - gW,0)
  else if (f k ((dz f gW l d k).1.getD k bI) (min (dz f gW l d k).2.1 gW)).2=230 then ((dz f gW l d k).1.set k (f k ((dz f gW l d k).1.getD k bI) (min (dz f gW l d k).2.1 gW)).1,(dz f gW l d k).2.1,230)
  else ((dz f gW l d k).1,(dz f gW l d k).2.1,(f k ((dz f gW l d k).1.getD k bI) (min (dz f gW l d k).2.1 gW)).2)
def lC (g:Nat->xX) (i:Nat) (P:az) (d:Int):az×Int:=nZ P (g i).e (g i).x (g i).b (g i).salt d
def rQ (g:Nat->xX) (i:Nat) (P:az) (d:Int):az×Int:=fI P (g i).e d
def oh (n:Nat) (aH:Int):Int:=if aH<0\/20*(n:Int)<aH then 20*(n:Int) else aH
def rR (g:Nat->xX) (l:List az) (aH:Int):List az×Bool×Int:=
 let a:=dz (lC g) 4 l (oh l.length aH) l.length
 if a.2.2=230 then (a.1,false,0) else if a.2.2≠0 then ([],false,a.2.2)
 else
  let b:=dz (rQ g) 16 a.1 a.2.1 l.length
  if b.2.2=230 then (b.1,false,0) else if b.2.2≠0 then ([],false,b.2.2) else (b.1,true,0)
end Go.Proofs.YtaglcaocpcbiiaaGreatDoor
