import Derived.Test.YtaglcaocpcbiiaaGreatDoorX03
import Derived.Test.YtaglcaocpcbiiaaGreatDoorX04
import Derived.Laws.AppendOwn
import Derived.Test.YtaglcaocpcbiiaaGreatDoorX02
set_option linter.unusedVariables false
set_option linter.unusedSimpArgs false
set_option maxRecDepth 100000
set_option maxHeartbeats 3000000
namespace Go.Proofs.YtaglcaocpcbiiaaGreatDoor
open Go.Proofs.Tryz Go.RowKit
section
variable {C:bx} {Ds:List Nat} {P:Prop} {W w w1:World} {Z i:Nat} {out:List bZ} {r:dS}
section
def nW:ag:=⟨#[109,97,115,116,101,114]⟩
def nh (fd nonce jg:ag):Nat:=if jg.size≠32 then 1 else iN fd nonce nW jg
def qI (fd nonce jg:ag):ag:=if nh fd nonce jg=0 then nonce++iO fd nonce nW jg else ⟨#[]⟩
theorem apE {key nonce beside s:ag} (h:iN key nonce beside s=0):key.size=32/\nonce.size=12/\s.size<=4000:=by
 have h1:lz key nonce=0:=by
  unfold iN at h;split at h
  ·cases h
  ·rename_i e;simpa using e
 have h2: ¬(4000<beside.size\/4000<s.size):=by
  exact af9
 obtain⟨a,b⟩:=abt h1;exact⟨a,b,ae⟩
theorem abz (fd nonce jg:ag) (w:World) (hT:iy w) (hs:fd.size<=maxLen) (hn:nonce.size<=maxLen) (hm:jg.size<=maxLen):
  Calls prog 51 #[.string fd,.string nonce,.string jg] w (bF w (.tuple #[.string (qI fd nonce jg),.int .i64 (nh fd nonce jg:Nat)])):=by
 have HT:=aa hT;by_cases mX:jg.size=32
 ·have hE:nh fd nonce jg=iN fd nonce nW jg:=by unfold nh;rw[if_neg (by simpa using mX)]
  have HS:=aa (λW hW=>abv fd nonce nW jg W hW hs hn au hm);have d1:((jg.size:Int) !=32)=false:=by simp;omega
  by_cases h0:iN fd nonce nW jg=0
  ·have hW:qI fd nonce jg=nonce++iO fd nonce nW jg:=by unfold qI;rw[hE,if_pos h0]
   have cg:(iO fd nonce nW jg).size=jg.size+16:=(SA h0).2.2;have vk:=(apE h0).2.1;rw[hE,hW,h0];rw[h0]at HS;generalize iO fd nonce nW jg=t at HS cg⊢;have k1: ¬9223372036854775807<nonce.size+t.size:=ae;go_in;go_wp2_with fail;refine (HS _ HT).mono ?_;exact OG
  ·have hW:qI fd nonce jg=⟨#[]⟩:=by unfold qI;rw[hE,if_neg h0]
   rw[hE,hW];have d2:((iN fd nonce nW jg:Int) !=0)=true:=(by simp;omega);generalize iN fd nonce nW jg=er at HS d2⊢;generalize iO fd nonce nW jg=t at HS;go_in;go_wp2_with fail;refine (HS _ HT).mono ?_;exact OG
 ·have hE:nh fd nonce jg=1:=by unfold nh;rw[if_pos mX]
  have hW:qI fd nonce jg=⟨#[]⟩:=by unfold qI;rw[hE];rfl
  rw[hE,hW];have d1:((jg.size:Int) !=32)=true:=by simp;omega
  go_in;exact Ew
def Ai (fd fD:ag):Nat:=if fD.size≠60 then 60 else jC fd (fD.extract 0 12) nW (fD.extract 12 fD.size)
def Aj (fd fD:ag):ag:=if fD.size≠60 then ⟨#[]⟩ else jO fd (fD.extract 0 12) nW (fD.extract 12 fD.size)
theorem bM.turns (y:bM w) (h:iy w):iy y.x:=h.below y.ok
theorem apF (fd fD:ag) (w:World) (hT:iy w) (hs:fd.size<=maxLen):
  Calls prog 107 #[.string fd,.string fD] w (bF w (.tuple #[.string (Aj fd fD),.int .i64 (Ai fd fD:Nat)])):=by
 by_cases I4:fD.size=60
 ·have hE:Ai fd fD=jC fd (fD.extract 0 12) nW (fD.extract 12 fD.size):=by unfold Ai;rw[if_neg (by simpa using I4)]
  have hS:Aj fd fD=jO fd (fD.extract 0 12) nW (fD.extract 12 fD.size):=by unfold Aj;rw[if_neg (by simpa using I4)]
  have d1:((fD.size:Int) !=60)=false:=by simp;omega
  have d2:(12:Int)<=(fD.size:Int):=ae;have z1:(fD.extract 0 12).size<=maxLen:=by rw[Cy];unfold maxLen;omega
  have z2:(fD.extract 12 fD.size).size<=maxLen:=by rw[Cy];unfold maxLen;omega
  have HO:=aa (λy:bM w=>lS (y:=y) (abw fd (fD.extract 0 12) nW (fD.extract 12 fD.size) y.x (y.turns hT) hs z1 au z2));rw[hE,hS];generalize jC fd (fD.extract 0 12) nW (fD.extract 12 fD.size)=er at HO⊢;generalize jO fd (fD.extract 0 12) nW (fD.extract 12 fD.size)=t at HO⊢;clear hE hS I4 hs hT z1 z2;go_in;go_wp2_with fail;refine rC ax ax ?_;repeat (go_big_quiet_step (exact HO.out _))
  refine wpQuiet_nil ?_;rintro _ ⟨y,rfl⟩;go_wp2;go_ret2;exact⟨rfl,y.ok⟩
 ·have hE:Ai fd fD=60:=by unfold Ai;rw[if_pos I4]
  have hS:Aj fd fD=⟨#[]⟩:=by unfold Aj;rw[if_pos I4]
  rw[hE,hS];have d1:((fD.size:Int) !=60)=true:=by simp;omega
  clear hE hS I4 hs hT;go_in;exact Ew
structure fM where
 nm:ByteArray
 salt:ByteArray
 x:Int
 b:ByteArray
def M6 (a:fM):bJ:= [.string a.nm,.string a.salt,.int .i64 a.x,.string a.b]
def Ga (r:dS) (a:fM):Bool:=pJ r a.nm&&decide (a.x=(oT r a.nm:Nat))&&uh (r.ps.getD (oT r a.nm - 1) eN) a.salt (a.x,a.b)
theorem agk (h:P:=by
 clear aG;go_wp2_with fail;go_quiet (fail);rename_i nq;have HQ:=tX fR nq;go_wp2;go_ret;rw[Hf.out];exact⟨rfl,HQ⟩):P:=h
theorem apG (v:Value) (r:dS) (a:fM) (w:World) (hv:RV w v r) (hR:cX w):
  Calls prog 255 #[v,.agg #[.string a.nm,.string a.salt,.int .i64 a.x,.string a.b]] w (bF w (.bool (Ga r a))):=by
 have HV:=aa hv;have HR:=aa hR;have iY:=aa (λv nm W h=>amv v r nm W h);have HEq:=aa (show Ga r a=(pJ r a.nm&&decide (a.x=(oT r a.nm:Nat))&&uh (r.ps.getD (oT r a.nm - 1) eN) a.salt (a.x,a.b)) from rfl);obtain⟨A,n,c,B,m,d,rfl,hA,hn,hB,hm⟩:=hv;have HB:=aa hB;have HM:=aa hm;have HLe:=aa (λnm (h:pJ r nm=true)=>amp r nm h);have mq:=aa (λh=>(zW (r:=r) h).2.2.2.2.1);have aDO:=aa (λh=>(zW (r:=r) h).2.2.2.1);obtain⟨nm,salt,x,b⟩:=a;simp only at HEq⊢;generalize Ga r ⟨nm,salt,x,b⟩=fb at HEq⊢;have hW:=(be w (.cells #[.int .i64 r.e,.int .i64 r.k,.slice A n c,.slice B m d] 64)).alloc ak (.cells #[.string nm,.string salt,.int .i64 x,.string b] 105);have hX:=(Below.heap_alloc (w.alloc (.cells #[.int .i64 r.e,.int .i64 r.k,.slice A n c,.slice B m d] 64)) (.cells #[.string nm,.string salt,.int .i64 x,.string b] 105) w.heap.size ak).trans (aR w (.cells #[.int .i64 r.e,.int .i64 r.k,.slice A n c,.slice B m d] 64));have hY:=aR (w.alloc (.cells #[.int .i64 r.e,.int .i64 r.k,.slice A n c,.slice B m d] 64)) (.cells #[.string nm,.string salt,.int .i64 x,.string b] 105);rw[World.size_alloc]at hY;have HW:=aa hW;have HX:=aa hX;have HY:=aa hY;have HP:=aa (iY _ nm _ (HV.below HW));have E0:=aa (HLe nm);clear hA hn hB hm hW hX hY hR;obtain⟨pb,xt⟩: ∃pb,pb=pJ r nm:=⟨_,rfl⟩
 obtain⟨pn,Bq⟩: ∃pn,pn=oT r nm:=⟨_,rfl⟩
 rw[<-xt,<-Bq]at HP HEq E0;clear xt Bq;cases pb with
 |false=>
  have Hf:=aa (show fb=false by rw[HEq.out];rfl);go_in;go_wp2_with fail;refine HP.mono ?_;rintro e w1 ⟨rfl,aG⟩;have fR:=aX HW aG;exact agk
 |true=>
  obtain⟨l1,l2,l3,l4,l5⟩:=E0.out rfl;by_cases hx:x=(pn:Nat)
  ·have d1:(x==(pn:Int))=true:=by simpa using hx
   have wL:((pn:Int)==(pn:Int))=true:=ak;obtain⟨q,rfl⟩: ∃q,pn=q+1:=⟨pn - 1,ae⟩
   have Mm:r.ps.length=r.ns.length:=mq.out l3;have zE:q<r.ps.length:=ae;have aF1:q<=16:=(by have:=aDO.out l3;omega);have Zv:wrap64 (q:Int)=(q:Int):=IntWalk.wrap64_in _ ⟨ae,ae⟩;have hqm:q<m:=(by rw[HM.out];exact zE);have aFZ:(q:Int)<(m:Int):=ae;obtain⟨b2,O0,KQ,c2⟩:=kG HB zE;have Hf:=aa (show fb=uh r.ps[q] salt (x,b) by
    rw[HEq.out,decide_eq_true hx,Nat.add_sub_cancel,dh,cL zE];rfl)
   subst KQ;generalize r.ps[q]=pl at c2 Hf;have PR:=aa c2;clear Mm zE l1 l2 l3 l4 l5 c2;subst hx;go_in;go_wp2_with fail;refine HP.mono ?_;rintro e w1 ⟨rfl,aG⟩;have fR:=aX HW aG;have x3:=λy:bM w1=>y.cell (eV (aJ HX aG) 3 _ rfl);have y1:=λy:bM w1=>y.cell (eV (aJ HY aG) 1 _ rfl);have y2:=λy:bM w1=>y.cell (eV (aJ HY aG) 2 _ rfl);have y3:=λy:bM w1=>y.cell (eV (aJ HY aG) 3 _ rfl);have p1:=λy:bM w1=>y.cell ((fR.cell (cU PR)).trans PR);have HC:=aa (λy:bM w1=>lS (y:=y) (aaU pl salt ((q+1:Nat):Int) b y.x (y.rounds (HR.below fR))));rw[<-Hf.out]at HC;clear aG;go_wp2_with fail;refine rC ax ax ?_;repeat (go_big_quiet_step (exact HC.out _))
   refine wpQuiet_nil ?_;rintro _ ⟨y,rfl⟩;go_wp2;go_ret;exact⟨rfl,fR.trans (y.ok.mono fR.size)⟩
  ·have d1:(x==(pn:Int))=false:=by simpa using hx
   have Hf:=aa (show fb=false by rw[HEq.out,decide_eq_false hx];rfl);clear hx l1 l2 l3 l4 l5;go_in;go_wp2_with fail;refine HP.mono ?_;rintro e w1 ⟨rfl,aG⟩;have fR:=aX HW aG;have y2:=eV (aJ HY aG) 2 _ rfl;exact agk
def pd (l:List fM):bJ:=l.flatMap M6
theorem apH (p:fM) (l:List fM):pd (p::l)=M6 p++pd l:=rfl
theorem apI (l:List fM) (i:Nat) (p:fM) (h:l[i]?=some p):(pd l)[i*4]?=some (.string p.nm)/\(pd l)[i*4+1]?=some (.string p.salt)/\(pd l)[i*4+2]?=some (.int .i64 p.x)/\(pd l)[i*4+3]?=some (.string p.b):=by
 induction l generalizing i with
 |nil=>simp at h
 |cons a l ih=>
  cases i with
  |zero=>
   simp at h;subst h;exact⟨rfl,rfl,rfl,rfl⟩
  |succ i=>
   have:=ih i (by simpa using h);rw[apH];have e:(M6 a).length=4:=rfl;refine⟨?_,?_,?_,?_⟩
   ·rw[ux ae,e,show (i+1)*4 - 4=i*4 by omega];exact this.1
   ·rw[ux ae,e,show (i+1)*4+1 - 4=i*4+1 by omega];exact this.2.1
   ·rw[ux ae,e,show (i+1)*4+2 - 4=i*4+2 by omega];exact this.2.2.1
   ·rw[ux ae,e,show (i+1)*4+3 - 4=i*4+3 by omega];exact this.2.2.2
theorem Rd.ans {A:aN} {l:List fM} (h:Rd w A (pd l)) (hi:i<l.length):
  ∃b aS,A=some ⟨b,aS,none⟩/\w.cell? ⟨b,aS+i*4,none⟩=some (.string l[i].nm)/\w.cell? ⟨b,aS+i*4+1,none⟩=some (.string l[i].salt)/\w.cell? ⟨b,aS+i*4+2,none⟩=some (.int .i64 l[i].x)/\w.cell? ⟨b,aS+i*4+3,none⟩=some (.string l[i].b):=by
 obtain⟨h0,h1,h2,h3⟩:=apI l i l[i] (cL hi);obtain⟨b,aS,hA,c0⟩:=h _ _ h0;have hh: ∀k u,(pd l)[k]?=some u->w.cell? ⟨b,aS+k,none⟩=some u:=λk u hk=>by
  obtain⟨b',ve,fV,c⟩:=h _ _ hk;rw[hA]at fV;injection fV with e
  injection e with e1 e2
  subst e1 e2;exact c
 exact⟨b,aS,hA,c0,by rw[Nat.add_assoc];exact hh _ _ h1,by rw[Nat.add_assoc];exact hh _ _ h2,by rw[Nat.add_assoc];exact hh _ _ h3⟩
def pe (r:dS) (name:ag) (any:Bool) (a:fM):Bool:=(any||decide (a.nm=name))&&Ga r a
abbrev FA (r:dS) (name:ag) (any:Bool):= {a:fM // pe r name any a=true}
def fH (r:dS) (name:ag) (any:Bool) (l:List fM):List (FA r name any):=l.filterMap λa=>if h:pe r name any a=true then some ⟨a,h⟩ else none
theorem apJ (r:dS) (name:ag) (any:Bool) (l:List fM):(fH r name any l).map Subtype.val=l.filter (pe r name any):=by
 induction l with
 |nil=>rfl
 |cons a l ih=>
  rw[fH,List.filterMap_cons,List.filter_cons];by_cases h:pe r name any a=true
  ·rw[dif_pos h,if_pos h,List.map_cons,<-fH,ih]
  ·rw[dif_neg h,if_neg h,<-fH,ih]
theorem apK {name:ag} {any:Bool} {l:List fM} (hi:i<l.length):fH r name any (l.take (i+1))=fH r name any (l.take i)++(if h:pe r name any l[i]=true then [⟨l[i],h⟩] else []):=by
 rw[List.take_succ_eq_append_getElem hi,fH,List.filterMap_append,<-fH];congr 1;rw[List.filterMap_cons];split
 ·rename_i h;split at h
  ·cases h
  ·rw[dif_neg (by assumption)];rfl
 ·rename_i h;split at h
  ·rw[dif_pos (by assumption)];obtain rfl:=bW h;rfl
  ·cases h
theorem apL (r:dS) (name:ag) (any:Bool) (l:List fM) (i:Nat):fH r name any (l.take i)<+:fH r name any l:=by
 rw[show fH r name any l=fH r name any (l.take i++l.drop i) by rw[List.take_append_drop]];rw[fH,fH,List.filterMap_append];exact List.prefix_append _ _
theorem agW (h:P:=by
 have YO:=aa lP;clear lP;gi_wp2_with (refine⟨trivial,?_⟩;gi_at_call 255;refine (callsIn_wide.2 (HF _ (HV.below HB) (HR.below HB))).mono ?_;rintro e w2 ⟨rfl,av⟩;rw[YO.out];have Yi:=aa (aJ Yh av);have Y7:=aa (aJ XG av);have Zk:=aa (aJ Xr av);have VQ:=aa (aJ WA av);have wR:=aJ BY av;have y0:=aj wR 0 _ rfl;have y1:=aj wR 1 _ rfl;have y2:=aj wR 2 _ rfl;have y3:=aj wR 3 _ rfl;have cj:=aX HB av;have ql:=aa (bD HS av.size);have EU:=aa (LX _ _ w2 none HJ (ub av none) (λr e=>by cases e));clear av wR q1 q2 q3 q4 q5 q6;obtain⟨fn,tmps,assign,body,hy,hR⟩:=HY.out _ ⟨⟨nm,salt,x,b⟩,ht⟩ w2 EU wC.out;simp only at hy;have jc:=aa hR;clear hR EU);refine jc.mono ?_;rintro e W3 (⟨rfl,hJ4,jZ⟩|⟨rfl,hJx4⟩)
 ·rw[<-gV.out]at hJ4;have K9:=aa hJ4;have BL4:=aa ((jZ.2 BL ak).trans Yi);have BA4:=aa ((jZ.2 BA ak).trans Y7);have BN4:=aa ((jZ.2 BN ak).trans Zk);have BR4:=aa ((jZ.2 BR ak).trans VQ);have dD:=aa (cj.trans jZ.1);have j4:=aa (bD ql jZ.1.size);clear hJ4 jZ;gi_wp2;go_roundw;case rel=>exact⟨i+1,ae,by go_num,BL4,BA4,BN4,BR4,dD,j4,K9⟩
  case measure=>simp[intOf];omega
 ·have Lt:=aa hJx4;clear hJx4;gi_wp2;refine bodyPost_ret (results_none rfl _ _ _) rfl ?_;refine⟨⟨_,rfl⟩,.inr ⟨_,?_,Lt⟩⟩;rw[<-gV.out];exact FG.out):P:=h
theorem agc (h:P:=by
 have YO:=aa lP;clear lP;gi_wp2_with (refine⟨trivial,?_⟩;gi_at_call 255;refine (callsIn_wide.2 (HF _ (HV.below HB) (HR.below HB))).mono ?_;rintro e w2 ⟨rfl,av⟩;rw[YO.out];have Yi:=aa (aJ Yh av);have Y7:=aa (aJ XG av);have Zk:=aa (aJ Xr av);have VQ:=aa (aJ WA av);have wR:=aJ BY av;have y0:=aj wR 0 _ rfl;have y1:=aj wR 1 _ rfl;have y2:=aj wR 2 _ rfl;have y3:=aj wR 3 _ rfl;have cj:=aX HB av;have ql:=aa (bD HS av.size);have EU:=aa (LX _ _ w2 none HJ (ub av none) (λr e=>by cases e));clear av wR q1 q2 q3 q4 q5 q6;rw[<-gV.out]at EU);refine⟨λf hf=>(by cases hf),?_⟩;gi_wp2;go_roundw;case rel=>exact⟨i+1,ae,by go_num,Yi,Y7,Zk,VQ,cj,ql,EU⟩
 case measure=>exact cM):P:=h
theorem apM (n:Nat) (hn:1<=n) (yl BL BA BN BR T:Nat) (A:aN) (m c:Nat) (ls:List fM) (name:ag) (any:Bool) (r:dS) (v0 v1 v2 v3:Value) (w1 W:World) (hT:T=w1.heap.size) (cS:Below T w1 W) (hv:RV w1 (.agg #[v0,v1,v2,v3]) r) (hr:Rd w1 A (pd ls)) (hm:m=ls.length) (hl:m<=10000) (hR:cX w1) (bL:bj W BL #[.slice A m c] 98) (bA:bj W BA #[.bool any] 4) (bN:bj W BN #[.string name] 9) (bR:bj W BR #[v0,v1,v2,v3] 64) (J Jx:List (FA r name any)->World->Prop) (hJ:AbidesFrom W.heap.size J) (hY: ∀aQ x W',J aQ W'->aQ.length<(fH r name any ls).length->YieldAt Fence.wide (n - 1) prog yl #[.agg #[.string x.1.nm,.string x.1.salt,.int .i64 x.1.x,.string x.1.b]] W' λe W2=>
   (e= .returned (.bool true)/\J (aQ++ [x]) W2/\Ah T [BL,BA,BN,BR] W' W2)\/(e= .returned (.bool false)/\Jx (aQ++ [x]) W2)) (h0:J [] W):
  CallsIn Fence.wide n prog 254 #[.func (.yield yl) #[] #[],.pointer (aw BL),.pointer (aw BA),.pointer (aw BN),.pointer (aw BR)] W λe W'=>(∃v,e= .returned v)/\
   ((∃ys,ys=fH r name any ls/\J ys W')\/(∃aQ,aQ<+:fH r name any ls/\Jx aQ W')):=by
 have HY:=aa hY;have HM:=aa hm;have ev:=aa hr;have HV:=aa hv;have HR:=aa hR;have LX:=aa hJ;have aiK:w1.heap.size<=W.heap.size:=cS.size;subst hT;clear hY hm hr hv hR hJ;have c1:=cell_of_one bL;refine callsIn_of_wp func254 rfl trivial ?_ rfl;simp only[ntmps254,List.size_toArray,List.length_cons,List.length_nil,Nat.reduceAdd,Nat.reduceSub,Array.replicate_succ,Array.replicate_zero,List.push_toArray,List.append_toArray,List.nil_append,List.cons_append];gi_wp2;gi_loopw [10] (λu wr=> ∃i:Nat,i<=m/\u= .int .i64 (i:Nat)/\bj wr BL #[.slice A m c] 98/\bj wr BA #[.bool any] 4/\bj wr BN #[.string name] 9/\bj wr BR #[v0,v1,v2,v3] 64/\aD w1 wr/\W.heap.size<=wr.heap.size/\J (fH r name any (ls.take i)) wr) (λu _=>m -(intOf u).toNat);case atStart=>exact⟨0,ae,rfl,bL,bA,bN,bR,cS,aM _,h0⟩
 case round=>
  clear c1 bL bA bN bR cS h0;obtain⟨i,hi,rfl,bL,bA,bN,bR,hb,cg,hJ⟩:=hrel;by_cases aK:i<m
  ·have e1:decide ((i:Int)<(m:Int))=true:=by simp;omega
   have bB:i<ls.length:=(by rw[<-HM.out];exact aK);obtain⟨bb,aS,hA,k0,k1,k2,k3⟩:=(ev.below hb).ans bB;subst hA;have dG:=aa (apK (r:=r) (name:=name) (any:=any) bB);have FG:=aa (apL r name any ls (i+1));generalize ls[i]=a at k0 k1 k2 k3 dG;obtain⟨nm,salt,x,b⟩:=a;simp only at k0 k1 k2 k3;have gF:=be wr (.cells #[.string nm,.string salt,.int .i64 x,.string b] 105);have Yv:=aJ bA gF;have Xk:=aJ bN gF;have I':=aJ bR gF;have bL2:=aJ bL gF;have bY:=aR wr (.cells #[.string nm,.string salt,.int .i64 x,.string b] 105);have q0:=cell_of_one bL;have q1:=cell_of_one Yv;have q2:=cell_of_one Xk;have q3:=aj I' 0 _ rfl;have q4:=aj I' 1 _ rfl;have q5:=aj I' 2 _ rfl;have q6:=aj I' 3 _ rfl;have av:=hb.alloc (bD aiK cg) (.cells #[.string nm,.string salt,.int .i64 x,.string b] 105);have Dv:W.heap.size<=(wr.alloc (.cells #[.string nm,.string salt,.int .i64 x,.string b] 105)).heap.size:=(by rw[World.size_alloc];omega);have P6:=LX.out _ _ (wr.alloc (.cells #[.string nm,.string salt,.int .i64 x,.string b] 105)) none hJ (ub gF none) (λr e=>by cases e);have HB:=aa av;have HS:=aa Dv;have HJ:=aa P6;have Yh:=aa bL2;have XG:=aa Yv;have Xr:=aa Xk;have WA:=aa I';have BY:=aa bY;have HF:=aa (λW h1 h2=>apG (.agg #[v0,v1,v2,v3]) r ⟨nm,salt,x,b⟩ W h1 h2);simp only at HF;clear bL bA bN bR hb cg hJ gF Yv Xk I' bL2 bY av Dv P6;cases any with
   |true=>
    cases lP:Ga r ⟨nm,salt,x,b⟩ with
    |false=>
     have Ht:=aa (show¬pe r name true ⟨nm,salt,x,b⟩=true by rw[pe,lP];simp);have gV:=aa (show fH r name true (ls.take (i+1))=fH r name true (ls.take i) by rw[dG.out,dif_neg Ht.out,List.append_nil]);exact agc
    |true=>
     have ht:pe r name true ⟨nm,salt,x,b⟩=true:=(by rw[pe,lP];rfl);have gV:=aa (show fH r name true (ls.take (i+1))=fH r name true (ls.take i)++ [⟨⟨nm,salt,x,b⟩,ht⟩] by rw[dG.out,dif_pos ht]);have wC:=aa (show (fH r name true (ls.take i)).length<(fH r name true ls).length by
      have h1:=FG.length_le;rw[gV.out,dx]at h1;simp at h1;omega)
     exact agW
   |false=>
    by_cases fj:nm=name
    ·have d1:(nm.toList==name.toList)=true:=(by rw[fj];exact beq_self_eq_true _);have aiu:decide (nm=name)=true:=decide_eq_true fj;have Hnm:=aa aiu;clear fj aiu;cases lP:Ga r ⟨nm,salt,x,b⟩ with
     |false=>
      have Ht:=aa (show¬pe r name false ⟨nm,salt,x,b⟩=true by rw[pe,lP];simp);have gV:=aa (show fH r name false (ls.take (i+1))=fH r name false (ls.take i) by rw[dG.out,dif_neg Ht.out,List.append_nil]);exact agc
     |true=>
      have ht:pe r name false ⟨nm,salt,x,b⟩=true:=(by rw[pe,lP];rw[Hnm.out];rfl);have gV:=aa (show fH r name false (ls.take (i+1))=fH r name false (ls.take i)++ [⟨⟨nm,salt,x,b⟩,ht⟩] by rw[dG.out,dif_pos ht]);have wC:=aa (show (fH r name false (ls.take i)).length<(fH r name false ls).length by
       have h1:=FG.length_le;rw[gV.out,dx]at h1;simp at h1;omega)
      exact agW
    ·have d1:=zU fj;have Ht:=aa (show¬pe r name false ⟨nm,salt,x,b⟩=true by rw[pe,decide_eq_false fj];simp);have gV:=aa (show fH r name false (ls.take (i+1))=fH r name false (ls.take i) by rw[dG.out,dif_neg Ht.out,List.append_nil]);clear fj;rw[<-gV.out]at HJ;gi_wp2;refine⟨trivial,?_⟩;gi_wp2;refine⟨λf hf=>(by cases hf),?_⟩;gi_wp2;go_roundw;case rel=>exact⟨i+1,ae,by go_num,Yh,XG,Xr,WA,HB,HS,HJ⟩
     case measure=>exact cM
  ·obtain rfl:i=m:=ae;have e1:decide ((i:Int)<(i:Int))=false:=ak;rw[HM.out,List.take_of_length_le (aM _)]at hJ;clear bL bA bN bR;gi_wp2;go_end0;exact⟨⟨_,rfl⟩,.inl ⟨_,rfl,hJ⟩⟩
theorem apN (n:Nat) (v0 v1 v2 v3:Value) (A:aN) (m c:Nat) (name:ag) (any:Bool) (w:World):
  CallsIn Fence.wide n prog 182 #[.agg #[v0,v1,v2,v3],.slice A m c,.string name,.bool any] w λe w'=>e= .returned (.func (.func 254) #[] #[.pointer (some ⟨w.heap.size+1,0,none⟩),.pointer (some ⟨w.heap.size+1+1+1,0,none⟩),.pointer (some ⟨w.heap.size+1+1,0,none⟩),.pointer (some ⟨w.heap.size,0,none⟩)])/\
   w'=(((w.alloc (.cells #[v0,v1,v2,v3] 64)).alloc (.cells #[.slice A m c] 98)).alloc (.cells #[.string name] 9)).alloc (.cells #[.bool any] 4):=by
 refine callsIn_of_wp func182 rfl trivial ?_ rfl;simp only[ntmps182,List.size_toArray,List.length_cons,List.length_nil,Nat.reduceAdd,Nat.reduceSub,Array.replicate_succ,Array.replicate_zero,List.push_toArray,List.append_toArray,List.nil_append,List.cons_append];exact G1
attribute [local go_sem] Oper.semAt_some
def BT (r:dS) (l:List fM) (nm:ag):Option bZ:=(l.find? (pe r nm false)).map λa=>(a.x,a.b)
def mB (r:dS) (l:List fM) (i:Nat):List bZ:=(r.ns.take i).filterMap (BT r l)
def ni (r:dS) (l:List fM):List bZ:=if fX r=true then (mB r l r.ns.length).take r.k.toNat else []
def SB (w:World) (l:List bZ) (e:Ending) (w':World):Prop:= ∃A n ai,e= .returned (.slice A n ai)/\n=l.length/\Rd w' A (dq l)/\aD w w'
theorem apO {ls:List fM} (hi:i<r.ns.length):mB r ls (i+1)=mB r ls i++(BT r ls r.ns[i]).toList:=by
 rw[mB,List.take_succ_eq_append_getElem hi,List.filterMap_append,<-mB];congr 1
theorem apP (r:dS) (ls:List fM) (i:Nat) (hi:i<=r.ns.length):mB r ls i<+:mB r ls r.ns.length:=by
 unfold mB;rw[List.take_length];conv=>rhs;rw[<-List.take_append_drop i r.ns]
 rw[List.filterMap_append];exact List.prefix_append _ _
theorem apQ {ls:List fM} (hi:i<=r.ns.length) (h:(mB r ls i).length=r.k.toNat):(mB r ls r.ns.length).take r.k.toNat=mB r ls i:=by
 rw[<-h];exact (List.prefix_iff_eq_take.1 (apP r ls i hi)).symm
theorem abA {nm:ag} {ls:List fM}:((fH r nm false ls).map Subtype.val).head?=ls.find? (pe r nm false):=by
 rw[apJ,List.head?_filter]
theorem apR {nm:ag} {ls:List fM} (h:fH r nm false ls= []):BT r ls nm=none:=by
 rw[BT,<-abA,h];rfl
theorem apS {nm:ag} {ls:List fM} {x:FA r nm false} (h: [x]<+:fH r nm false ls):BT r ls nm=some (x.1.x,x.1.b):=by
 obtain⟨t,ht⟩:=h;rw[BT,<-abA,<-ht];rfl
def SC (Ds:List Nat):List Deferred:=Ds.map λD=> {target:= .collected D,args:= #[]}
structure abB (B:Nat) (W W':World):Prop where
 hb:Below B W W'
 hc: ∀(k:Nat) (cs:bx) (t:TypeId),W.heap[k]?=some (.cells cs t (0,0))->W'.heap[k]?=some (.cells cs t (0,0))
theorem abC {F:Fence} {n:Nat} {P:Program} {fn:Func} {tmps:bx} {R:Ending->World->Prop} (B:Nat): ∀(Ds:List Nat) (W:World),Ds.Nodup->(∀D∈Ds,B<=D/\W.heap[D]?=some (.deferred (some [])))->
  (∀W',abB B W W'-> ∃v,(results fn tmps).run P W'= .ok v W'/\R (.returned v) W')->LeavesInM F n P fn tmps R (SC Ds) .returning W
 | [],W,_,_,hR=>hR W ⟨aI _ _,λ_ _ _ h=>h⟩
 |D::Ds,W,ln,hD,hR=>by
  obtain⟨h1,h2⟩:=hD D ak;rw[List.nodup_cons]at ln;have aK:D<W.heap.size:=bf h2;have hb:Below B W (W.putObj D (.deferred none)):=(aI B W).grown (grownBy_putObj' W D (.deferred none)) ae (λk e=>by cases e;omega);refine⟨ak,.inl ⟨D,_,rfl,run_takeDeferred h2,abC B Ds _ ln.2 (λD' rj=>⟨(hD D' (by simp[rj])).1,?_⟩) λW' LY=>hR W' ⟨hb.trans LY.hb,λk cs t hk=>LY.hc k cs t ?_⟩⟩⟩
  ·exact agI
  ·rw[World.putObj_heap_other (λe=>by subst e;rw[h2]at hk;cases hk)];exact hk
structure CS (w w1:World) (C:bx) (Ds:List Nat) (Z:Nat) (v:Value) (out:List bZ) (W:World):Prop where
 g0:bj W w.heap.size C 64
 gG:Boxed W w1.heap.size 65 v
 ow:W.ownsRow w1.heap.size 101 2 v out.length (dq out)
 hb:aD w1 W
 nd:Ds.Nodup
 md: ∀D∈Ds,w1.heap.size<=D/\D<Z/\W.heap[D]?=some (.deferred (some []))
 hz:Z<=W.heap.size
theorem CS.kept {v:Value} {W':World} {row:Option Nat} (h:CS w w1 C Ds Z v out W) (hg:W.grownBy W' row) (hB:w1.heap.size<=Z) (hr: ∀r,row=some r->Z<=r/\ ∃o:Obj,W.heap[r]?=some o/\o.isCells=false):CS w w1 C Ds Z v out W':=by
 have ed: ∀r,row=some r-> ∃o:Obj,W.heap[r]?=some o/\o.isCells=false:=λr e=>(hr r e).2;refine⟨rL h.g0 hg ed,rL h.gG hg ed,h.ow.kept hg ?_,h.hb.grown hg (bD hB h.hz) (λk e=>bD hB (hr k e).1),h.nd,λD hD=>?_,bD h.hz hg.size⟩
 ·rcases h.ow.2 with⟨rfl,_⟩|⟨g,ai,bK,rfl,_,xl,_⟩
  ·exact .inl rfl
  ·right;intro e;obtain⟨o,ho,hc⟩:=ed g e.symm;rw[xl]at ho;exact OR
 ·obtain⟨h1,h2,h3⟩:=h.md D hD;refine⟨h1,h2,(hg.block D (bf h3) (λe=>?_)).trans h3⟩;have:=(hr D e.symm).1;omega
theorem CS.more {Z':Nat} {v:Value} (h:CS w w1 C Ds Z v out W) (h1:Z<=Z') (h2:Z'<=W.heap.size):CS w w1 C Ds Z' v out W:=
 ⟨h.g0,h.gG,h.ow,h.hb,h.nd,λD hD=>⟨(h.md D hD).1,by have:=(h.md D hD).2.1;omega,(h.md D hD).2.2⟩,h2⟩
theorem CS.mark {D:Nat} {v:Value} (h:CS w w1 C Ds Z v out W) (hB:w1.heap.size<=Z) (hD:Z<=D) (hK:W.heap[D]?=some (.deferred (some []))):CS w w1 C (D::Ds) W.heap.size v out W:=
 ⟨h.g0,h.gG,h.ow,h.hb,List.nodup_cons.2 ⟨λe=>by have:=(h.md D e).2.1;omega,h.nd⟩,λD' rj=>by
  rcases List.mem_cons.1 rj with rfl|rj
  ·exact⟨ae,bf hK,hK⟩
  ·have:=h.md D' rj;exact⟨this.1,jY this.2.1 h.hz,this.2.2⟩,aM _⟩
structure CX (w w1:World) (C:bx) (Ds:List Nat) (Z:Nat) (out:List bZ) (K:Int) (r:dS) (nm:ag) (cd:Code) (aQ:List (FA r nm false)) (W:World):Prop where
 ex: ∃(x:FA r nm false) (B:aN) (ai:Nat),aQ= [x]/\CS w w1 C Ds Z (.slice B (out.length+1) ai) (out++ [(x.1.x,x.1.b)]) W/\((cd= .exit 0/\(out.length:Int)+1=K)\/(cd= .exit 1/\ ¬(out.length:Int)+1=K))
structure CI (w w1:World) (C:bx) (Ds:List Nat) (Z:Nat) (v:Value) (out:List bZ) (r:dS) (nm:ag) (aQ:List (FA r nm false)) (W:World):Prop where
 hp:aQ= []
 cs:CS w w1 C Ds Z v out W
theorem apT {w':World} {B0 B:Nat} {e:TypeId} {size:Nat} {v:Value} {n:Nat} {xs:bJ} (h:w.ownsRow B e size v n xs) (hs:abB B0 w w'):w'.ownsRow B e size v n xs:=by
 refine⟨h.1,?_⟩;rcases h.2 with h|⟨g,ai,bK,hv,hB,hg,hr⟩
 ·exact .inl h
 ·exact .inr ⟨g,ai,bK,hv,hB,hs.hc _ _ _ hg,hr⟩
theorem abD {B:aN} {ai:Nat} (cs:CS w w1 C Ds Z (.slice B out.length ai) out W) (hw:aD w w1) (tmps:bx) (ht:tmps.getD 4 undef= .slice B out.length ai):
  LeavesInM Fence.wide 4 prog Tryz.f105 tmps (SB w out) (SC Ds) .returning W:=
 abC w1.heap.size Ds W cs.nd (λD hD=>⟨(cs.md D hD).1,(cs.md D hD).2.2⟩) λW' hS=>⟨_,results_tmp rfl _ _ _,by
  rw[ht];exact⟨B,out.length,ai,rfl,rfl,gz (apT cs.ow hS),hw.trans ((cs.hb.trans hS.hb).mono hw.size)⟩⟩
theorem apU (l:List bZ) (p:bZ):dq (l++ [p])=dq l++ [.int .i64 p.1,.string p.2]:=by simp[dq,BO]
theorem abE (w:World) (x y:Value) (t:TypeId): ∀j u,[x,y][j]?=some u->(w.alloc (.cells #[x,y] t)).cell? ((⟨w.heap.size,0,none⟩:Addr).add j)=some u:=by
 intro j u hj;match j,hj with
 |0,hj=>simp at hj;subst hj;simp[Addr.add]
 |1,hj=>simp at hj;subst hj;simp[Addr.add]
theorem apV (v0 v1 v2 v3:Value) (r:dS) (A:aN) (m c:Nat) (ls:List fM) (w:World) (hv:RV w (.agg #[v0,v1,v2,v3]) r) (hr:Rd w A (pd ls)) (hm:m=ls.length) (hl:m<=10000) (hR:cX w) (hc:fX r=true):
  Calls prog 105 #[.agg #[v0,v1,v2,v3],.slice A m c] w (SB w ((mB r ls r.ns.length).take r.k.toNat)):=by
 have HV:=aa hv;have HC:=aa (λW h=>FN (.agg #[v0,v1,v2,v3]) r W h);rw[hc]at HC;obtain⟨A1,n1,c1,A2,n2,c2,Qn,mh,fL,oL,su⟩:=hv;injection Qn with Qn
 obtain⟨rfl,rfl,rfl,rfl⟩:v0= .int .i64 r.e/\v1= .int .i64 r.k/\v2= .slice A1 n1 c1/\v3= .slice A2 n2 c2:=by simpa using Qn
 have ev:=aa hr;have HR:=aa hR;have HN:=aa mh;have zJ:=aa fL;have HM:=aa hm;have hW:=be w (.cells #[.int .i64 r.e,.int .i64 r.k,.slice A1 n1 c1,.slice A2 n2 c2] 64);have hX:=aR w (.cells #[.int .i64 r.e,.int .i64 r.k,.slice A1 n1 c1,.slice A2 n2 c2] 64);have HW:=aa hW;have HX:=aa hX;clear Qn mh fL oL su hr hR hW hX hm;refine (callsIn_wide (n:=4)).1 ?_;refine callsIn_of_wp_marks func105 rfl trivial ?_ rfl;simp only[ntmps105,List.size_toArray,List.length_cons,List.length_nil,Nat.reduceAdd,Nat.reduceSub,Array.replicate_succ,Array.replicate_zero,List.push_toArray,List.append_toArray,List.nil_append,List.cons_append];gi_wp2;refine wpIn_wide.2 (wp_scope_straight ((wpIn_wide (n:=4)).1 ?_));gi_wp2_with (refine⟨trivial,?_⟩;gi_at_call 104;refine (callsIn_wide.2 (HC _ (HV.below HW))).mono ?_;rintro e w1 ⟨rfl,aG⟩;have j9:=aa (aJ HX aG);have fR:=aX HW aG;clear aG;have Bm:=bf j9.out;have x2:=aj ((Below.heap_alloc w1 (.cells #[ay] 65) w.heap.size Bm).trans j9) 2 _ rfl);refine wpIn_label ?_;gi_wp2;clear x2;have aiU:w.heap.size<w1.heap.size:=Bm;have aCa:=aa (Boxed.new w1 65 (ay));have aiw:Hid (CS w w1 #[.int .i64 r.e,.int .i64 r.k,.slice A1 n1 c1,.slice A2 n2 c2] [] (w1.heap.size+1) (ay) [] (w1.alloc (.cells #[ay] 65))):=aa ⟨(Below.heap_alloc w1 _ _ Bm).trans j9,aCa,⟨rfl,.inl ⟨rfl,rfl⟩⟩,(aI _ _).alloc (aM _) _,List.nodup_nil,λD hD=>by simp at hD,by rw[World.size_alloc];exact aM _⟩;obtain⟨h1e,h2e,h3e,h4e,h5e,h6e,h7e⟩:=zW hc;have HK0:=aa h6e;have HV1:=aa (HV.below fR);have ay7:=aa (ev.below fR);have im:=aa (HR.below fR);have aj7:=aa h4e;obtain⟨iS,jj,tH,tA,it⟩:=info_parts MQ;clear h1e h2e h3e h4e h5e h6e h7e Bm hc;refine wpIn_loop (λa wr=> ∃(i:Nat) (u7 u16 u17 u18 u19 u20 u21 u22 u34:Value) (Ds:List Nat) (Z:Nat) (B:aN) (ai:Nat) (out:List bZ),a= {tmps:= #[.agg #[.int .i64 r.e,.int .i64 r.k,.slice A1 n1 c1,.slice A2 n2 c2],.slice A m c,.pointer (some ⟨w.heap.size,0,none⟩),undef,ay,.pointer (some ⟨w1.heap.size,0,none⟩),undef,u7,undef,.agg #[.int .i64 r.e,.int .i64 r.k,.slice A1 n1 c1,.slice A2 n2 c2],.bool true,.bool false,.pointer (some ⟨w.heap.size,2,none⟩),.slice A1 n1 c1,.int .i64 n1,.int .i64 (i:Nat),u16,u17,u18,u19,u20,u21,u22,undef,undef,undef,undef,undef,undef,undef,undef,undef,undef,undef,u34,undef],defers:=SC Ds} /\i<=n1/\w1.heap.size<=Z/\out=mB r ls i/\(out.length:Int)<r.k/\CS w w1 #[.int .i64 r.e,.int .i64 r.k,.slice A1 n1 c1,.slice A2 n2 c2] Ds Z (.slice B out.length ai) out wr) (λa _=>n1 -(intOf (a.tmps.getD 15 undef)).toNat) ?_ ?_
 ·exact⟨0,_,_,_,_,_,_,_,_,_,[],_,none,0,[],rfl,ae,Nat.le_succ _,rfl,by have:=HK0.out;simp;omega,aiw⟩
 ·clear aiw;rintro _ wr ⟨i,u7,u16,u17,u18,u19,u20,u21,u22,u34,Ds,Z,B,ai,out,rfl,hi,hZ,hout,ey,si⟩;have yM:=aa si;have KU:=aa hout;have lL:=aa ey;have HZ:=aa hZ;clear si hout ey hZ;by_cases aK:i<n1
  ·have e1:decide ((i:Int)<(n1:Int))=true:=by simp;omega
   have bB:i<r.ns.length:=(by rw[<-zJ.out];exact aK);have aDG:=fR.trans (yM.hb.mono fR.size);obtain⟨b0,zk,bG,k0⟩:=kG (HN.below aDG) bB;subst bG;have dG:=aa (apO (r:=r) (ls:=ls) bB);have Hpi:=aa (show i+1<=r.ns.length from bB);generalize r.ns[i]=nm at k0 dG;have q0:=aj yM.g0 0 _ rfl;have q1:=aj yM.g0 1 _ rfl;have q2:=aj yM.g0 2 _ rfl;have q3:=aj yM.g0 3 _ rfl;gi_wp2_with (refine⟨trivial,?_⟩;gi_at_call 182;refine (apN _ _ _ _ _ _ _ _ _ _ _).mono ?_;rintro e w4 ⟨rfl,rfl⟩);have If:n1<=16:=(by have h1:=aj7.out;have h2:=zJ.out;omega);have kA:=apD wr (.cells #[.int .i64 r.e,.int .i64 r.k,.slice (some ⟨b0,zk,none⟩) n1 c1,.slice A2 n2 c2] 64) (.cells #[.slice A m c] 98) (.cells #[.string nm] 9) (.cells #[.bool false] 4);obtain⟨kR,kL,kN,kA,kb,mo⟩:=kA;clear q0 q1 q2 q3 k0;obtain⟨w4,tL⟩: ∃w4,w4=(((wr.alloc (.cells #[.int .i64 r.e,.int .i64 r.k,.slice (some ⟨b0,zk,none⟩) n1 c1,.slice A2 n2 c2] 64)).alloc (.cells #[.slice A m c] 98)).alloc (.cells #[.string nm] 9)).alloc (.cells #[.bool false] 4):=⟨_,rfl⟩
   rw[<-tL]at kR kL kN kA kb mo⊢;clear tL;have hZr:w1.heap.size<=wr.heap.size:=bD HZ yM.hz;have ail:=(yM.kept (ub kb none) HZ (λr e=>by cases e)).more (Z':=w4.heap.size) (bD yM.hz kb.size) (aM _);have uB:=aa ail;have tV:w1.heap.size<=w4.heap.size:=ae;clear ail;refine wpIn_rangeFunc_ownH rfl ae (gf:=254) (lb:= #[.pointer (some ⟨wr.heap.size+1,0,none⟩),.pointer (some ⟨wr.heap.size+1+1+1,0,none⟩),.pointer (some ⟨wr.heap.size+1+1,0,none⟩),.pointer (some ⟨wr.heap.size,0,none⟩)]) rfl trivial (enters_of func254 ax rfl)
    (encs:=λx:FA r nm false=> #[.agg #[.string x.1.nm,.string x.1.salt,.int .i64 x.1.x,.string x.1.b]]) (Kp:=Ah w1.heap.size [wr.heap.size+1,wr.heap.size+1+1+1,wr.heap.size+1+1,wr.heap.size]) (S:=λys=>ys=fH r nm false ls) (Sp:=λaQ=>aQ<+:fH r nm false ls) (N:=(fH r nm false ls).length) (w0:=w4)
    (λl J Jx W hW hJ _ hY h0=>apM 3 ae l _ _ _ _ w1.heap.size A m c ls nm false r _ _ _ _ w1 W rfl (uB.hb.trans (hW.mono tV)) HV1 ay7 HM hl im (aJ kL hW) (aJ kA hW) (aJ kN hW) (aJ kR hW) J Jx hJ hY h0)
    abx (aby tV (by simp;omega)) (aI _ _) (λ_=>rfl)
    (CI w w1 #[.int .i64 r.e,.int .i64 r.k,.slice (some ⟨b0,zk,none⟩) n1 c1,.slice A2 n2 c2] Ds w4.heap.size (.slice B out.length ai) out r nm) (CX w w1 #[.int .i64 r.e,.int .i64 r.k,.slice (some ⟨b0,zk,none⟩) n1 c1,.slice A2 n2 c2] Ds w4.heap.size out r.k r nm)
    (λs X Y row h hg hr=>⟨h.hp,h.cs.kept hg tV hr⟩) (λcd s X Y row h hg hr=>by obtain⟨x,B',ja,t1,t2,t3⟩:=h.ex;exact⟨⟨x,B',ja,t1,t2.kept hg tV hr,t3⟩⟩)
    ⟨rfl,uB⟩
    (λx a' W=> ∃Bx,w1.heap.size<=Bx/\bj W Bx #[.string x.1.nm,.string x.1.salt,.int .i64 x.1.x,.string x.1.b] 105/\a'= {tmps:= #[.agg #[.int .i64 r.e,.int .i64 r.k,.slice (some ⟨b0,zk,none⟩) n1 c1,.slice A2 n2 c2],.slice A m c,.pointer (some ⟨w.heap.size,0,none⟩),undef,ay,.pointer (some ⟨w1.heap.size,0,none⟩),undef,(.string nm),.pointer (aw Bx),.agg #[.int .i64 r.e,.int .i64 r.k,.slice (some ⟨b0,zk,none⟩) n1 c1,.slice A2 n2 c2],.bool true,.bool false,.pointer (some ⟨w.heap.size,2,none⟩),.slice (some ⟨b0,zk,none⟩) n1 c1,.int .i64 n1,.int .i64 (i:Nat),(.bool true),.pointer (some ⟨b0,zk+i,none⟩),(.string nm),(.agg #[.int .i64 r.e,.int .i64 r.k,.slice (some ⟨b0,zk,none⟩) n1 c1,.slice A2 n2 c2]),(.slice A m c),(.string nm),(.func (.func 254) #[] #[.pointer (some ⟨wr.heap.size+1,0,none⟩),.pointer (some ⟨wr.heap.size+1+1+1,0,none⟩),.pointer (some ⟨wr.heap.size+1+1,0,none⟩),.pointer (some ⟨wr.heap.size,0,none⟩)]),(.agg #[.string x.1.nm,.string x.1.salt,.int .i64 x.1.x,.string x.1.b]),undef,undef,undef,undef,undef,undef,undef,undef,undef,undef,u34,undef],defers:= []})
    (λx a' _ X Y row hs hg hr=>by obtain⟨Bx,t0,t1,t2⟩:=hs;exact⟨Bx,t0,rL t1 hg (λr e=>(hr r e).2),t2⟩)
    ?assign ?body ?done ?stop
   case assign=>
    rintro l aQ x W K hI hK;have al:=be W (.cells #[.string x.1.nm,.string x.1.salt,.int .i64 x.1.x,.string x.1.b] 105);have hn:=aR W (.cells #[.string x.1.nm,.string x.1.salt,.int .i64 x.1.x,.string x.1.b] 105);have hz:=hI.cs.hz;gi_wp2;refine hK _ _ ((KeepsOthers.alloc _ _).from _) ⟨(aI _ W).alloc ae _,aav (by simp;omega) al⟩ ⟨hI.hp,hI.cs.kept (ub al none) tV (λr e=>by cases e)⟩ ⟨W.heap.size,ae,hn,rfl⟩
   case body=>
    rintro l aQ x a' W hl' ⟨r',mj⟩ ⟨rfl,cs⟩ ⟨Bx,hBx,bX,rfl⟩ PQ;obtain⟨⟨xn,xs,xx,xb⟩,hxt⟩:=x;simp only at bX;have y2:=aj bX 2 _ rfl;have y3:=aj bX 3 _ rfl;have q5:=cs.gG.cell;have Cs:=aa cs;have O7:=aa (show w1.heap.size<=W.heap.size by have:=cs.hz;omega);have ED:=aa (λ(W2:World) (h2:Below w1.heap.size W W2)=>aj ((h2.block w.heap.size aiU).trans cs.g0) 1 _ rfl);have WE:out.length<=16:=by
     have h1:out.length=(mB r ls i).length:=(by rw[<-KU.out]);have h2:=List.length_filterMap_le (BT r ls) (r.ns.take i);have h3:=aj7.out;rw[List.length_take]at h2;unfold mB at h1;omega
    have Hmk:=aa (λ(W2:World) (B2:aN) (eM:Nat) (hg:Boxed W2 w1.heap.size 65 (.slice B2 (out.length+1) eM)) (hw:W2.ownsRow w1.heap.size 101 2 (.slice B2 (out.length+1) eM) (out.length+1) (dq out++ [.int .i64 xx,.string xb])) (hk:KeepsOthers W W2) (hb:Below w1.heap.size W W2)=>
     (⟨(hb.block w.heap.size aiU).trans cs.g0,hg,by rw[apU,dx];exact hw,cs.hb.trans hb,cs.nd,λD hD=>⟨(cs.md D hD).1,(cs.md D hD).2.1,hk.same D _ (cs.md D hD).2.2 rfl⟩,bD cs.hz hb.size⟩:CS w w1 #[.int .i64 r.e,.int .i64 r.k,.slice (some ⟨b0,zk,none⟩) n1 c1,.slice A2 n2 c2] Ds w4.heap.size (.slice B2 (out.length+1) eM) (out++ [(xx,xb)]) W2))
    clear cs bX mj hl';by_cases vg:(out.length:Int)+1=r.k
    ·have d1:((out.length:Int)+1==r.k)=true:=(by simpa using vg);have ET:=aa vg;clear vg;gi_wp2_with (gi_at_builtin;refine wpListIn_append_own _ rfl (.tmp 24) (.tmp 27) 65 rfl w1.heap.size 101 iS (.agg #[.int .i64 0,.string ⟨#[]⟩]) 2 24 underlying65 jj tH tA it rfl au (.slice B out.length ai) out.length (dq out) rfl (Cs.ow.alloc _) ⟨W.heap.size,0,none⟩ 1 1 [.int .i64 xx,.string xb] rfl rfl (abE _ _ _ _) (by simp[Value.oneCell']) (by unfold maxLen;omega) ae (by have:=O7.out;simp;omega) ?_;intro v' w5 Fv Md _;obtain⟨g',ja,rfl⟩:=ownsRow_succ Fv;obtain⟨qt,ml,ed,fC,av⟩:=Boxed.appended Cs.gG au Cs.ow O7 (aM _) Fv Md;have gu:=qt.cell;have ry:=qt.frozen;have x1:=ED.out _ av);have zx:=aa (Hmk _ _ _ ml ed fC av);refine⟨fC.from _,⟨⟨⟨⟨xn,xs,xx,xb⟩,hxt⟩,_,_,rfl,zx,.inl ⟨rfl,ET⟩⟩⟩⟩
    ·have d1:((out.length:Int)+1==r.k)=false:=(by simpa using vg);have ET:=aa vg;clear vg;gi_wp2_with (gi_at_builtin;refine wpListIn_append_own _ rfl (.tmp 24) (.tmp 27) 65 rfl w1.heap.size 101 iS (.agg #[.int .i64 0,.string ⟨#[]⟩]) 2 24 underlying65 jj tH tA it rfl au (.slice B out.length ai) out.length (dq out) rfl (Cs.ow.alloc _) ⟨W.heap.size,0,none⟩ 1 1 [.int .i64 xx,.string xb] rfl rfl (abE _ _ _ _) (by simp[Value.oneCell']) (by unfold maxLen;omega) ae (by have:=O7.out;simp;omega) ?_;intro v' w5 Fv Md _;obtain⟨g',ja,rfl⟩:=ownsRow_succ Fv;obtain⟨qt,ml,ed,fC,av⟩:=Boxed.appended Cs.gG au Cs.ow O7 (aM _) Fv Md;have gu:=qt.cell;have ry:=qt.frozen;have x1:=ED.out _ av);have zx:=aa (Hmk _ _ _ ml ed fC av);refine⟨fC.from _,⟨⟨⟨⟨xn,xs,xx,xb⟩,hxt⟩,_,_,rfl,zx,.inr ⟨rfl,ET⟩⟩⟩⟩
   case done=>
    rintro D ys W hD hys ⟨rfl,cs⟩ hK;have sw:=apR hys.symm;have uJ:=aa (show out=mB r ls (i+1) by rw[dG.out,sw,Option.toList_none,List.append_nil];exact KU.out);have P8:=aa (cs.mark tV hD hK);have Ya:w1.heap.size<=W.heap.size:=bD tV cs.hz;clear cs sw hys hK;gi_wp2;exact⟨⟨i+1,_,_,_,_,_,_,_,_,_,D::Ds,W.heap.size,B,ai,out,rfl,ae,Ya,uJ,lL,P8⟩,by simp[intOf];omega⟩
   case stop=>
    rintro D cd aQ W hD xy hX hK;obtain⟨x,B',ja,rfl,cs,CT⟩:=hX.ex;have hfs:=apS xy;have uJ:=aa (show out++ [(x.1.x,x.1.b)]=mB r ls (i+1) by rw[dG.out,hfs,Option.toList_some,<-KU.out]);have kz:(out++ [(x.1.x,x.1.b)]).length=out.length+1:=(by rw[dx];rfl);rw[<-kz]at cs;have P8:=aa (cs.mark tV hD hK);have Ya:w1.heap.size<=W.heap.size:=bD tV cs.hz;have q5:=cs.gG.cell;clear cs hfs xy hK hX;rcases CT with⟨rfl,vg⟩|⟨rfl,vg⟩
    ·have ET:=aa vg;clear vg;have ZB:=aa (show (mB r ls r.ns.length).take r.k.toNat=out++ [(x.1.x,x.1.b)] by rw[uJ.out];exact apQ Hpi (by rw[<-uJ.out,kz];have:=ET.out;omega));gi_wp2;rw[ZB.out];exact abD P8 fR _ (by rw[kz];rfl)
    ·have ET:=aa vg;clear vg;gi_wp2;exact⟨⟨i+1,_,_,_,_,_,_,_,_,_,D::Ds,W.heap.size,_,_,_,rfl,ae,Ya,uJ,by rw[kz];have h1:=lL.out;have h2:=ET.out;omega,P8⟩,by simp[intOf];omega⟩
  ·obtain rfl:i=n1:=ae;have e1:decide ((i:Int)<(i:Int))=false:=ak;have q5:=yM.gG.cell;have ZB:=aa (show (mB r ls r.ns.length).take r.k.toNat=out by rw[KU.out,<-zJ.out,List.take_of_length_le (by have h1:=lL.out;rw[KU.out]at h1;omega)]);gi_wp2;rw[ZB.out];exact abD yM fR _ rfl
end
theorem aqi (v0 v1 v2 v3:Value) (r:dS) (A:aN) (m c:Nat) (ls:List fM) (w:World) (hv:RV w (.agg #[v0,v1,v2,v3]) r) (hr:Rd w A (pd ls)) (hm:m=ls.length) (hl:m<=10000) (hR:cX w):
  Calls prog 105 #[.agg #[v0,v1,v2,v3],.slice A m c] w (SB w (ni r ls)):=by
 cases hc:fX r with
 |true=>
  rw[ni,if_pos hc];exact apV v0 v1 v2 v3 r A m c ls w hv hr hm hl hR hc
 |false=>
  rw[show ni r ls= [] by rw[ni,hc];rfl];have HV:=aa hv;have HC:=aa (λW h=>FN (.agg #[v0,v1,v2,v3]) r W h);rw[hc]at HC;have hW:=be w (.cells #[v0,v1,v2,v3] 64);have HW:=aa hW;clear hv hr hm hl hR hc hW;refine (callsIn_wide (n:=4)).1 ?_;refine callsIn_of_wp_marks func105 rfl trivial ?_ rfl;simp only[ntmps105,List.size_toArray,List.length_cons,List.length_nil,Nat.reduceAdd,Nat.reduceSub,Array.replicate_succ,Array.replicate_zero,List.push_toArray,List.append_toArray,List.nil_append,List.cons_append];gi_wp2;refine wpIn_wide.2 (wp_scope_straight ((wpIn_wide (n:=4)).1 ?_));gi_wp2_with (refine⟨trivial,?_⟩;gi_at_call 104;refine (callsIn_wide.2 (HC _ (HV.below HW))).mono ?_;rintro e w1 ⟨rfl,aG⟩;have fR:=aX HW aG;clear aG);exact⟨_,results_tmp rfl _ _ _,none,0,0,rfl,rfl,Rd.nil _ _,fR⟩
def xS (r:dS) (ls:List fM) (wp:ag):Nat:=if fX r=false then 180 else if ((ni r ls).length:Int)<r.k then 220 else if jB (ni r ls) 1=false then 90 else Ai (bs (nj (ni r ls) 0)) wp
def BV (r:dS) (ls:List fM) (wp:ag):ag:=if fX r=false then ⟨#[]⟩ else if ((ni r ls).length:Int)<r.k then ⟨#[]⟩ else if jB (ni r ls) 1=false then ⟨#[]⟩ else Aj (bs (nj (ni r ls) 0)) wp
def abM (w:World) (s:ag) (n:Nat) (e:Ending) (w':World):Prop:=e= .returned (.tuple #[.string s,.int .i64 (n:Nat)])/\aD w w'
theorem aqj (l:List bZ) (x:UInt8):(nj l x).length=32:=by simp[nj]
theorem aqk (v:Value) (r:dS) (A:aN) (m c:Nat) (ls:List fM) (wp:ag) (w:World) (hv:RV w v r) (hr:Rd w A (pd ls)) (hm:m=ls.length) (hl:m<=10000) (hR:cX w) (hT:iy w):
  Calls prog 56 #[v,.slice A m c,.string wp] w (abM w (BV r ls wp) (xS r ls wp)):=by
 have HV:=aa hv;obtain⟨A1,n1,c1,A2,n2,c2,rfl,mh,fL,oL,su⟩:=hv;have HC:=aa (λW h=>FN (.agg #[.int .i64 r.e,.int .i64 r.k,.slice A1 n1 c1,.slice A2 n2 c2]) r W h);have HS:=aa (λW h1 h2 h3=>aqi (.int .i64 r.e) (.int .i64 r.k) (.slice A1 n1 c1) (.slice A2 n2 c2) r A m c ls W h1 h2 hm hl h3);have ev:=aa hr;have HR:=aa hR;have HT:=aa hT;have hW:=be w (.cells #[.int .i64 r.e,.int .i64 r.k,.slice A1 n1 c1,.slice A2 n2 c2] 64);have hX:=aR w (.cells #[.int .i64 r.e,.int .i64 r.k,.slice A1 n1 c1,.slice A2 n2 c2] 64);have HW:=aa hW;have HX:=aa hX;clear mh fL oL su hr hR hT hW hX hm;have HE:=aa (show xS r ls wp=if fX r=false then 180 else if ((ni r ls).length:Int)<r.k then 220 else if jB (ni r ls) 1=false then 90 else Ai (bs (nj (ni r ls) 0)) wp from rfl);have vc:=aa (show BV r ls wp=if fX r=false then ⟨#[]⟩ else if ((ni r ls).length:Int)<r.k then ⟨#[]⟩ else if jB (ni r ls) 1=false then ⟨#[]⟩ else Aj (bs (nj (ni r ls) 0)) wp from rfl);have alt:=aa (show fX r=true->(ni r ls).length<=16 from λh=>by
  have h1:=(zW h).2.2.2.1;rw[ni,if_pos h];have h2:=List.length_filterMap_le (BT r ls) (r.ns.take r.ns.length);rw[List.length_take]at h2⊢;unfold mB;omega)
 generalize xS r ls wp=ue at HE⊢;generalize BV r ls wp=us at vc⊢;generalize ni r ls=ch at HS HE vc alt;cases hc:fX r with
 |false=>
  rw[hc]at HC HE vc;rw[HE.out,vc.out,if_pos rfl,if_pos rfl];clear hc;go_in;go_wp2_with fail;refine (HC _ (HV.below HW)).mono ?_;rintro e w1 ⟨rfl,aG⟩;have b1:=ju HW aG;have q0:=aj (aJ HX aG) 0 _ rfl;have q1:=aj (aJ HX aG) 1 _ rfl;have q2:=aj (aJ HX aG) 2 _ rfl;have q3:=aj (aJ HX aG) 3 _ rfl;have cu:=aa b1;clear aG b1;go_wp2_with fail;refine (HS _ (HV.below cu) (ev.below cu) (HR.below cu)).mono ?_;rintro e w2 ⟨B,n,ai,rfl,hn,dw,av⟩;have bq:=aa (bg cu av);clear hn dw av q0 q1 q2 q3;go_wp2;go_ret2;exact⟨rfl,bq⟩
 |true=>
  rw[hc]at HC HE vc;have hch:=alt.out hc;rw[if_neg (show¬true=false by simp)]at HE vc;clear hc;by_cases hK:(ch.length:Int)<r.k
  ·have d1:decide ((ch.length:Int)<r.k)=true:=by simpa using hK
   rw[HE.out,vc.out,if_pos hK,if_pos hK];clear hK;go_in;go_wp2_with fail;refine (HC _ (HV.below HW)).mono ?_;rintro e w1 ⟨rfl,aG⟩;have b1:=ju HW aG;have X1:=aa (aJ HX aG);have q0:=aj X1 0 _ rfl;have q1:=aj X1 1 _ rfl;have q2:=aj X1 2 _ rfl;have q3:=aj X1 3 _ rfl;have cu:=aa b1;clear aG b1;go_wp2_with fail;refine (HS _ (HV.below cu) (ev.below cu) (HR.below cu)).mono ?_;rintro e w2 ⟨B,n,ai,rfl,rfl,dw,av⟩;have bq:=aa (bg cu av);have q4:=aj (aJ X1 av) 1 _ rfl;clear dw av q0 q1 q2 q3;go_wp2;go_ret2;exact⟨rfl,bq⟩
  ·have d1:decide ((ch.length:Int)<r.k)=false:=by simpa using hK
   rw[if_neg hK]at HE vc;clear hK;cases ll:jB ch 1 with
   |false=>
    rw[ll,if_pos rfl]at HE vc;rw[HE.out,vc.out];have Pu:=aa (λA c W h=>aqh ch A ch.length c W h rfl ll);clear ll;go_in;go_wp2_with fail;refine (HC _ (HV.below HW)).mono ?_;rintro e w1 ⟨rfl,aG⟩;have b1:=ju HW aG;have X1:=aa (aJ HX aG);have q0:=aj X1 0 _ rfl;have q1:=aj X1 1 _ rfl;have q2:=aj X1 2 _ rfl;have q3:=aj X1 3 _ rfl;have cu:=aa b1;clear aG b1;go_wp2_with fail;refine (HS _ (HV.below cu) (ev.below cu) (HR.below cu)).mono ?_;rintro e w2 ⟨B,n,ai,rfl,rfl,dw,av⟩;have bq:=aa (bg cu av);have qn:=aa dw;have q4:=aj (aJ X1 av) 1 _ rfl;clear dw av q0 q1 q2 q3;go_wp2_with fail;refine (Pu _ _ _ qn).mono ?_;rintro e w3 ⟨rfl,aL⟩;have cj:=aa (bg bq aL);clear aL;go_wp2;go_ret2;exact⟨rfl,cj⟩
   |true=>
    rw[ll,if_neg (show¬true=false by simp)]at HE vc;rw[HE.out,vc.out];have Pu:=aa (λA c W h=>abL ch A ch.length c W h rfl ll);have HU:=aa (λW h=>apF (bs (nj ch 0)) wp W h (by rw[ei,aqj];decide));generalize bs (nj ch 0)=sec at Pu HU;generalize Ai sec wp=ee at HU;generalize Aj sec wp=se at HU;clear ll;go_in;go_wp2_with fail;refine (HC _ (HV.below HW)).mono ?_;rintro e w1 ⟨rfl,aG⟩;have b1:=ju HW aG;have X1:=aa (aJ HX aG);have q0:=aj X1 0 _ rfl;have q1:=aj X1 1 _ rfl;have q2:=aj X1 2 _ rfl;have q3:=aj X1 3 _ rfl;have cu:=aa b1;clear aG b1;go_wp2_with fail;refine (HS _ (HV.below cu) (ev.below cu) (HR.below cu)).mono ?_;rintro e w2 ⟨B,n,ai,rfl,rfl,dw,av⟩;have bq:=aa (bg cu av);have qn:=aa dw;have q4:=aj (aJ X1 av) 1 _ rfl;clear dw av q0 q1 q2 q3;go_wp2_with fail;refine (Pu _ _ _ qn).mono ?_;rintro e w3 ⟨rfl,aL⟩;have cj:=aa (bg bq aL);clear aL;go_wp2_with fail;refine (HU _ (HT.below cj)).mono ?_;rintro e w4 ⟨rfl,aP⟩;have dD:=aa (bg cj aP);clear aP;go_wp2;go_ret2;exact⟨rfl,dD⟩
end
structure eZ where
 r:dS
 sec:ByteArray
 sh:List bZ
 sa:List ByteArray
structure abO (D:eZ) (m:Nat) (t:aF):Prop where
 ck:fX D.r=true
 kk:D.r.k=((m+1:Nat):Int)
 hm:m+1<=D.r.ns.length
 sz:D.sec.size=32
 sh:D.sh=(List.range D.r.ns.length).map (Ak D.sec.data.toList t m)
 sl:D.sa.length=D.r.ns.length
 br: ∀i,i<D.r.ns.length->jm (D.sa.getD i eN) (Ak D.sec.data.toList t m i)=true
 pl: ∀i,i<D.r.ns.length->D.r.ps.getD i eN=nT (D.sa.getD i eN) (Ak D.sec.data.toList t m i)
variable {B B0 i k m n t:Nat} {L:aF} {T:TypeId} {aH d' e:Int} {ai:bx} {fn:FuncId} {g:Nat->xX} {ns:List ag} {w w':World} {xs:bJ}
def pO (L:aF) (j:Nat):aF:=(L.drop (64*j)).take 64
theorem aql (s:ag) (j p:Nat) (w:World) (hs:s.size<=100000) (hj:64*j<s.size) (hp:w.cell? ⟨p,0,none⟩=some (.string s)):
  Calls prog 247 #[.int .i64 j,.pointer (aw p)] w λe w'=>e= .returned (.string (bs (pO s.data.toList j)))/\w=w':=by
 obtain⟨hi,hhi⟩: ∃hi,hi=min (64*j+64) s.size:=⟨_,rfl⟩
 have H1:=aa (show s.extract (64*j) hi=bs (pO s.data.toList j) by
  have hl:=bP s;rw[lR,pO,List.drop_take];congr 1;apply List.take_eq_take_iff.2;rw[List.length_drop,hl];omega)
 have h1:(64:Int)*(j:Int)<=(hi:Int):=ae;have h2:(hi:Int)<=(s.size:Int):=ae;have h3:(0:Int)<=64*(j:Int):=ae;have h4:min ((64:Int)*(j:Int)+64) (s.size:Int)=(hi:Int):=ae;clear hhi;go_in;go_wp2;go_ret;exact⟨congrArg (λx=>Ending.returned (.string x)) H1,rfl⟩
def JN (t:TypeId):Prop:=t=239
theorem aqm:JN 239:=by unfold JN;decide
theorem SG: ¬JN 9:=by unfold JN;decide
def M8 (B0:Nat) (w:World) (i:Nat):Prop:=i<B0\/ ∀cs ty fr,JN ty->w.heap[i]?≠some (.cells cs ty fr)
def JO (B0:Nat) (w0:World) (fn:FuncId) (ai:bx) (L:aF):Prop:=
 ∀W:World,(∀i,i<w0.heap.size->M8 B0 w0 i->W.heap[i]?=w0.heap[i]?)->w0.heap.size<=W.heap.size-> ∀j:Nat,64*j<L.length->
  Calls prog fn (#[.int .i64 j]++ai) W λe W'=>e= .returned (.string (bs (pO L j)))/\aD W W'
def DN (B0:Nat) (w:World) (t:Nat) (L:aF) (k:Nat):Prop:=
 ∃fn ai,w.heap[t]?=some (.cells #[.int .i64 L.length,.int .i64 k,.func (.func fn) #[] ai] 239 (0,0))/\JO B0 w fn ai L/\k<=L.length/\L.length<=100000/\(∀args W,(callFunc fn args).run prog W= .ok (.enter fn args) W)/\B0<=t
def pP (B0:Nat) (w:World) (t:Nat) (L:aF) (k:Nat) (fn:FuncId) (ai:bx):Prop:=
 w.heap[t]?=some (.cells #[.int .i64 L.length,.int .i64 k,.func (.func fn) #[] ai] 239 (0,0))/\JO B0 w fn ai L/\k<=L.length/\L.length<=100000/\(∀args W,(callFunc fn args).run prog W= .ok (.enter fn args) W)/\B0<=t
theorem pP.is (h:pP B0 w t L k fn ai):DN B0 w t L k:=⟨fn,ai,h⟩
theorem SH {cs:bx} {fr:Nat×Nat} (h:M8 B0 w t) (hB:B0<=t) (hh:w.heap[t]?=some (.cells cs 239 fr)):False:=by
 rcases h with h|h
 ·omega
 ·exact h _ _ _ aqm hh
theorem JO.keep (h:JO B0 w fn ai L) (hk: ∀i,i<w.heap.size->M8 B0 w i->w'.heap[i]?=w.heap[i]?) (hs:w.heap.size<=w'.heap.size):JO B0 w' fn ai L:=
 λW hW hz j hj=>h W (λi hi aO=>(hW i ae (aO.imp id λaO cs ty fr qo e=>aO cs ty fr qo ((hk i hi (.inr aO)).symm.trans e))).trans (hk i hi aO)) ae j hj
theorem SJ {o:Obj} (h:w.heap[t]?=some o):t<w.heap.size:=by
 exact agu
theorem pP.below (h:pP B0 w t L k fn ai) (hb:aD w w'):pP B0 w' t L k fn ai:=by
 obtain⟨hh,hs,hk⟩:=h;exact⟨(hb.block t (SJ hh)).trans hh,hs.keep (λi hi _=>hb.block i hi) hb.size,hk⟩
theorem pP.re {k':Nat} (h:pP B0 w t L k fn ai) (hw: ∀i,i<w.heap.size->i≠t->w'.heap[i]?=w.heap[i]?) (ht:w'.heap[t]?=some (.cells #[.int .i64 L.length,.int .i64 k',.func (.func fn) #[] ai] 239 (0,0))) (hs:w.heap.size<=w'.heap.size) (hk:k'<=L.length):pP B0 w' t L k' fn ai:=by
 obtain⟨hh,h2,_,h4,h5,h6⟩:=h;exact⟨ht,h2.keep (λi hi hn=>hw i hi (λe=>by subst e;exact SH hn h6 hh)) hs,hk,h4,h5,h6⟩
def SK (B0:Nat) (L:aF) (w:World) (e:Ending) (w':World):Prop:=
 ∃t,e= .returned (.pointer (aw t))/\w.heap.size<=t/\DN B0 w' t L 0/\aD w w'
theorem aqn (B0:Nat) (s:ag) (w:World) (hs:s.size<=100000) (kD:B0<=w.heap.size):
  Calls prog 166 #[.string s] w (SK B0 s.data.toList w):=by
 go_in;go_wp2;go_ret;have cg:((w.alloc (Obj.cells #[Value.string s] 9)).alloc (Obj.cells #[Value.int IntKind.i64 s.size,Value.int IntKind.i64 0,Value.func (Fn.func 247) #[] #[Value.pointer (some ⟨w.heap.size,0,none⟩)]] 239)).heap.size=w.heap.size+2:=ak;refine⟨w.heap.size+1,rfl,ae,⟨247,#[Value.pointer (some ⟨w.heap.size,0,none⟩)],?_,?_,Nat.zero_le _,hs,enters_of func247 ax rfl,ae⟩,((aI _ _).alloc (aM _) _).alloc ak _⟩
 ·have h:=aR (w.alloc (Obj.cells #[Value.string s] 9)) (Obj.cells #[Value.int IntKind.i64 s.size,Value.int IntKind.i64 0,Value.func (Fn.func 247) #[] #[Value.pointer (some ⟨w.heap.size,0,none⟩)]] 239);rw[show (w.alloc (Obj.cells #[Value.string s] 9)).heap.size=w.heap.size+1 by simp]at h;exact h
 ·intro W hW hz j hj;refine (aql s j w.heap.size W hs hj ?_).mono λe w' h=>⟨h.1,Mv h.2⟩
  have h2:(w.alloc (Obj.cells #[Value.string s] 9)).heap[w.heap.size]?=some (Obj.cells #[Value.string s] 9 (0,0)):=aR w _;have h3:((w.alloc (Obj.cells #[Value.string s] 9)).alloc (Obj.cells #[Value.int IntKind.i64 s.size,Value.int IntKind.i64 0,Value.func (Fn.func 247) #[] #[Value.pointer (some ⟨w.heap.size,0,none⟩)]] 239)).heap[w.heap.size]?=some (Obj.cells #[Value.string s] 9 (0,0)):=(Below.heap_alloc _ _ _ ak).trans h2;have h1:=(hW w.heap.size ae (.inr λcs ty fr qo e=>by rw[h3]at e;simp at e;rw[<-e.2.1]at qo;exact SG qo)).trans h3;unfold World.cell?;simp only[h1];rfl
theorem SL {n k:Int} {f:Value} (h:w.heap[t]?=some (.cells #[.int .i64 n,.int .i64 k,f] T (0,0))):
  w.cell? ⟨t,0,none⟩=some (.int .i64 n)/\w.cell? ⟨t,1,none⟩=some (.int .i64 k)/\w.cell? ⟨t,2,none⟩=some f/\w.frozen? ⟨t,1,none⟩=false:=by
 refine⟨?_,?_,?_,?_⟩
 ·exact Ez
 ·exact Ez
 ·exact Ez
 ·exact OP
theorem abP (t:Nat) (n k:Int) (w:World) (h0:w.cell? ⟨t,0,none⟩=some (.int .i64 n)) (h1:w.cell? ⟨t,1,none⟩=some (.int .i64 k)) (hk:0<=k) (CE:k<=n) (hn:n<=100000):
  Calls prog 168 #[.pointer (aw t)] w (bF w (.int .i64 (n - k))):=by
 have hw:IntKind.i64.wrap (n - k)=n - k:=IntWalk.i64_in _ ae;go_in;go_wp2_with fail;go_quiet (fail);go_wp2;go_ret;exact⟨rfl,tX (aI _ _) _⟩
def Al (L:aF) (k m:Nat):aF:=((pO L (k / 64)).drop (k % 64)).take m
theorem abQ (L:aF) (k m:Nat) (hk:k<L.length):(Al L k m).length=min m (min (64 - k % 64) (L.length - k)):=by
 simp[Al,pO];omega
theorem aqo (L:aF) (k m:Nat):Al L k m=(L.drop k).take (min m (64 - k % 64)):=by
 unfold Al pO;rw[List.drop_take,List.drop_drop,List.take_take,show 64*(k / 64)+k % 64=k by omega]
theorem aqp (L:aF) (k m n:Nat) (hk:k+m<L.length) (hm:m<n) (hn:k+n<=L.length):
  (L.drop k).take m++Al L (k+m) (n - m)=(L.drop k).take (m+(Al L (k+m) (n - m)).length):=by
 rw[abQ _ _ _ hk,aqo,List.take_add,List.drop_drop];congr 1;apply List.take_eq_take_iff.2;simp
theorem aqq {e:TypeId} {size:Nat} {v:Value} (h:w.ownsRow B e size v n xs) (hk: ∀g,B<=g->g<w.heap.size->w'.heap[g]?=w.heap[g]?):w'.ownsRow B e size v n xs:=by
 obtain⟨h1,h2⟩:=h;refine⟨h1,?_⟩;rcases h2 with h2|⟨g,ai,bK,hv,hg,hh,r⟩
 ·exact .inl h2
 ·have aK:g<w.heap.size:=by
   rcases mg g w.heap.size with aK|jy
   ·exact aK
   ·rw[Array.getElem?_eq_none jy]at hh;cases hh
  exact .inr ⟨g,ai,bK,hv,hg,(hk g hg aK).trans hh,r⟩
theorem abR {e:TypeId} {b:Nat} (h:Lib.IsBuilder T e B b xs w) (hk: ∀g,B<=g->g<w.heap.size->w'.heap[g]?=w.heap[g]?):Lib.IsBuilder T e B b xs w':=by
 have key: ∀p,Lib.BuilderAt T e B b p xs w->Lib.BuilderAt T e B b p xs w':=by
  rintro p ⟨hB,v,hb,lN,aO⟩;have aK:b<w.heap.size:=by
   rcases mg b w.heap.size with aK|jy
   ·exact aK
   ·rw[Array.getElem?_eq_none jy]at hb;cases hb
  exact⟨hB,v,(hk b hB aK).trans hb,aqq lN hk,aO⟩
 rcases h with h|h
 ·exact .inl (key _ h)
 ·exact .inr (key _ h)
theorem aqr (L:aF) (q rr r:Nat) (h:rr<=(pO L q).length):
  ((bs (pO L q)).extract rr (bs (pO L q)).size).extract 0 (min (r:Int) (((bs (pO L q)).size - rr:Nat):Int)).toNat=bs (((pO L q).drop rr).take r):=by
 rw[lR,lR,sD,sD,ei,List.drop_zero,List.take_of_length_le (aM (pO L q).length)];congr 1;apply List.take_eq_take_iff.2;rw[List.length_drop];omega
theorem aqs (t:Nat) (L:aF) (k n:Nat) (fn:FuncId) (ai:bx) (w:World) (h:pP B0 w t L k fn ai) (hn:k+n<=L.length):
  Calls prog 169 #[.pointer (aw t),.int .i64 n] w λe w'=>e= .returned (.string (bs ((L.drop k).take n)))/\pP B0 w' t L (k+n) fn ai/\w.grownBy w' (some t):=by
 obtain⟨hh,hs,hk,hL,Dh,kD⟩:=h;have ht:t<w.heap.size:=by
  rcases mg t w.heap.size with aK|jy
  ·exact aK
  ·rw[Array.getElem?_eq_none jy]at hh;cases hh
 have HH:=aa hh;have HS:=aa hs;clear hh hs;go_in;go_wp2_with fail;refine (apu w.heap.size w.heap.size n _ (aM _) (aR w _) ak ae).mono ?_;rintro e w1 ⟨rfl,aG,px⟩;have HB:=aa aG;have lI:=aa px;clear aG px;go_wp2_with fail;go_loopw [1,6] (λr _ wr=> ∃m r':Nat,m+r'=n/\r= .int .i64 r'/\Lib.IsBuilder 36 5 w.heap.size w.heap.size (Lib.byteCells ((L.drop k).take m)) wr/\
  wr.heap[t]?=some (.cells #[.int .i64 L.length,.int .i64 (k+m:Nat),.func (.func fn) #[] ai] 239 (0,0))/\w.grownBy wr (some t)) (λr _ _=>(intOf r).toNat)
 case atStart=>
  refine⟨0,n,Nat.zero_add _,rfl,.inr HB,?_,?_⟩
  ·exact (lI.block t ht).trans ((Below.heap_alloc _ _ _ ht).trans HH)
  ·have hb:=Below.trans (be w _) lI.out;exact⟨hb.os,hb.tape,hb.output,hb.size,λi hi _=>hb.block i hi⟩
 case round=>
  obtain⟨m,r,rz,rfl,hB,hT,hG⟩:=hrel;by_cases hr:0<r
  ·obtain⟨km,BC⟩: ∃km,km=k+m:=⟨_,rfl⟩
   obtain⟨q,hq⟩: ∃q,q=km / 64:=⟨_,rfl⟩
   obtain⟨rr,PV⟩: ∃rr,rr=km % 64:=⟨_,rfl⟩
   have aK:km<L.length:=ae;have Ii:r<=100000:=ae;rw[<-BC]at hT;obtain⟨d0,d1,d2,d3⟩:=SL hT;have c1: ∀y:bM wr,y.x.cell? ⟨t,1,none⟩=some (.int .i64 (km:Nat)):=λy=>y.cell d1;have c2: ∀y:bM wr,y.x.cell? ⟨t,2,none⟩=some (.func (.func fn) #[] ai):=λy=>y.cell d2;have cS:IntKind.i64.wrap ((km:Int)/ 64)=(q:Int):=(by rw[IntWalk.i64_in _ ae];omega);have cl:(km:Int).tmod 64=(rr:Int):=(by rw[Int.tmod_eq_emod_of_nonneg ae];omega);obtain⟨s1,jJ⟩: ∃s1,s1=bs (pO L q):=⟨_,rfl⟩
   have cg:s1.size=min 64 (L.length - 64*q):=(by rw[jJ,ei];simp[pO]);have Dl: ∀y:bM wr,Calls prog fn (#[.int .i64 q]++ai) y.x λe w'=>e= .returned (.string s1)/\ ∃z:bM wr,w'=z.x:=λy=>by
    refine lS ?_;rw[jJ];refine HS y.x (λi hi aO=>?_) ?_ q ae
    ·have hb:=y.ok;exact (hb.block i (jY hi hG.size)).trans (hG.block i hi (λe=>by injection e with e;subst e;exact SH aO kD HH))
    ·exact bD hG.size y.ok.size
   have h1:(rr:Int)<=(s1.size:Int):=ae;have HC:=aa Dl;have YQ:=aa hB;have HT:=aa hT;have HG:=aa hG;have CJ:=aa BC;have Hq:=aa hq;have zi:=aa PV;have ZM:=aa jJ;have db:=aa cg;have I5:=aa rz;clear Dl hB hT hG BC hq PV jJ cg rz d0 d1 d2;go_wp2_with fail;refine rC ax ax ?_;repeat (go_big_quiet_step (exact HC.out _))
   refine wpQuiet_nil ?_;rintro _ ⟨y,rfl⟩;go_wp2_with fail;have hp:(s1.extract rr s1.size).extract 0 (min (r:Int) ((s1.size - rr:Nat):Int)).toNat=bs (Al L km r):=by
    have h2:=db.out;have h3:=ZM.out;rw[h3]at h2⊢;rw[ei]at h2;rw[aqr L q rr r (by have:=Hq.out;have:=zi.out;omega),Al,Hq.out,zi.out]
   rw[hp];have eX:=abQ L km r aK;have iW:=aa (aqp L k m n (by have:=CJ.out;omega) (by have:=I5.out;omega) hn);have fj:n - m=r:=(by have:=I5.out;omega);rw[fj,<-CJ.out]at iW;obtain⟨pt,QE⟩: ∃pt,pt=Al L km r:=⟨_,rfl⟩
   rw[<-QE]at eX iW⊢;have ajZ:(bs pt).size=pt.length:=rfl;have aAe:=zi.out;have Dr:1<=pt.length:=ae;have hpr:pt.length<=r:=ae;have Lu:km+pt.length<=L.length:=ae;have uN:=aa ajZ;have oM:(bs pt).size<=r:=ae;have mP:km+(bs pt).size<=L.length:=ae;clear hp eX fj QE ajZ aAe;have hyz:=y.ok.size;refine (aps w.heap.size w.heap.size _ (bs pt) _ (abR YQ (λg _ hg=>y.ok.block g hg)) (by
    have:=I5.out;rw[Lib.byteCells_length,uN.out,List.length_take];omega) (by have:=HG.size;omega)).mono ?_
   rintro e w2 ⟨rfl,mi,yU⟩;have zm:w2.heap[t]?=some (.cells #[.int .i64 L.length,.int .i64 (km:Nat),.func (.func fn) #[] ai] 239 (0,0)):=
    (yU.block t ht).trans ((y.ok.block t (by have:=HG.size;omega)).trans HT)
   obtain⟨e0,e1,e2,e3⟩:=SL zm;have bq:=aa mi;have jI:=aa yU;have j1:=aa zm;rw[uN.out];clear mi yU zm e0 e2 c1 c2 d3;go_wp2_with fail;refine⟨⟨m+pt.length,r - pt.length,by have:=I5.out;omega,?_,?_,?_,?_⟩,?_⟩
   ·rw[uN.out];go_num
   ·rw[<-iW.out,Lib.byteCells_append];refine abR (.inr bq) (λg hg _=>bz _ _ _ _ (by simp only;omega))
   ·have:(km:Int)+((bs pt).size:Int)=((k+(m+pt.length):Nat):Int):=(by rw[uN.out,CJ.out];omega);rw[this];have h:=j1.out;exact Vn
   ·have h1:=HG.out;have h2:=y.ok;have h3:=jI.out;refine⟨h3.os.trans (h2.os.trans h1.os),h3.tape.trans (h2.tape.trans h1.tape),h3.output.trans (h2.output.trans h1.output),?_,λi hi aO=>?_⟩
    ·have e1:=h1.size;have e2:=h2.size;have e3:=h3.size;simp[World.setCell];omega
    ·rw[bz _ _ _ _ (by simp only;exact λe=>aO (by rw[e])),h3.block i hi,h2.block i (jY hi h1.size),h1.block i hi aO]
   ·have:=uN.out;simp[intOf];omega
  ·have Qz:r=0:=ae;subst Qz;have YQ:=aa hB;have HT:=aa hT;have HG:=aa hG;have I5:=aa rz;clear hB hT hG rz;go_wp2_with fail;refine (apt w.heap.size w.heap.size _ _ YQ HG.size).mono ?_;rintro e w2 ⟨rfl,yU⟩;have jI:=aa yU;clear yU;go_wp2;go_ret;obtain rfl:m=n:=by have:=I5.out;omega
   refine⟨rfl,⟨(jI.block t ht).trans HT,?_,hn,hL,Dh,kD⟩,?_⟩
   ·exact HS.keep (λi hi aO=>(jI.block i hi).trans (HG.block i hi (λe=>by injection e with e;subst e;exact SH aO kD HH))) (bD HG.size jI.size)
   ·have h1:=HG.out;have h3:=jI.out;exact⟨h3.os.trans h1.os,h3.tape.trans h1.tape,h3.output.trans h1.output,bD h1.size h3.size,λi hi aO=>(h3.block i hi).trans (h1.block i hi aO)⟩
def aqt (B0 t:Nat) (L:aF) (k n:Nat) (w:World) (e:Ending) (w':World):Prop:=
 e= .returned (.tuple #[.string (bs ((L.drop k).take n)),.int .i64 0])/\DN B0 w' t L (k+n)/\w.grownBy w' (some t)
theorem DN.cells (h:DN B0 w t L k):w.cell? ⟨t,0,none⟩=some (.int .i64 L.length)/\w.cell? ⟨t,1,none⟩=some (.int .i64 k)/\k<=L.length/\L.length<=100000:=by
 obtain⟨fn,ai,hh,hs,hk,hL,Dh,kD⟩:=h;obtain⟨a,b,_⟩:=SL hh;exact⟨a,b,hk,hL⟩
theorem M9 (t:Nat) (L:aF) (k n:Nat) (fn:FuncId) (ai:bx) (w:World) (h:pP B0 w t L k fn ai) (hn:k+n<=L.length):
  Calls prog 96 #[.pointer (aw t),.int .i64 n] w λe w'=>e= .returned (.tuple #[.string (bs ((L.drop k).take n)),.int .i64 0])/\pP B0 w' t L (k+n) fn ai/\w.grownBy w' (some t):=by
 obtain⟨c0,c1,hk,hL⟩:=h.is.cells;have H:=aa h;go_in;go_wp2_with fail;refine (abP t L.length k w c0 c1 ae ae ae).mono ?_;rintro e w1 ⟨rfl,aG⟩;have HB:=aa aG;go_wp2_with fail;refine (aqs t L k n fn ai w1 (H.below HB) hn).mono ?_;rintro e w2 ⟨rfl,hT,hG⟩;have HT:=aa hT;have HG:=aa hG;go_wp2;go_ret2;refine⟨rfl,HT,?_⟩;have h1:=HB.out;have h2:=HG.out;exact⟨h2.os.trans h1.os,h2.tape.trans h1.tape,h2.output.trans h1.output,bD h1.size h2.size,λi hi aO=>(h2.block i (jY hi h1.size) aO).trans (h1.block i hi)⟩
theorem aqu (t:Nat) (L:aF) (k n:Nat) (w:World) (h:DN B0 w t L k) (hn:k+n<=L.length):
  Calls prog 96 #[.pointer (aw t),.int .i64 n] w (aqt B0 t L k n w):=by
 obtain⟨fn,ai,h⟩:=h;exact (M9 t L k n fn ai w h hn).mono λe w' ⟨a,b,c⟩=>⟨a,⟨fn,ai,b⟩,c⟩
theorem aqv (t:Nat) (n:Int) (w:World) (hn:n<0):
  Calls prog 96 #[.pointer (aw t),.int .i64 n] w λe w'=>e= .returned (.tuple #[.string (bs []),.int .i64 1])/\w=w':=by
 exact U3
theorem abS (t:Nat) (L:aF) (k:Nat) (n:Int) (w:World) (h:DN B0 w t L k) (hn:(L.length:Int)- k<n):
  Calls prog 96 #[.pointer (aw t),.int .i64 n] w (bF w (.tuple #[.string (bs []),.int .i64 120])):=by
 obtain⟨c0,c1,hk,hL⟩:=h.cells;go_in;go_wp2_with fail;refine (abP t L.length k w c0 c1 ae ae ae).mono ?_;rintro e w1 ⟨rfl,aG⟩;have HB:=aa aG;go_wp2;go_ret2;exact⟨rfl,HB⟩
def DO:aF:=List.replicate 12 0
theorem SM {α:Type} {f:Nat->List α} {m:Nat} (hf: ∀j,(f j).length=m): ∀n,((List.range n).flatMap f).length=m*n
 |0=>rfl
 |n+1=>by
  rw[List.range_succ,List.flatMap_append,dx,SM hf n];simp[hf,Nat.mul_succ]
theorem abT {α:Type} {f:Nat->List α} {m:Nat} (hf: ∀j,(f j).length=m): ∀n j,j<n->(((List.range n).flatMap f).drop (m*j)).take m=f j
 |0,j,h=>ae
 |n+1,j,h=>by
  rw[List.range_succ,List.flatMap_append];have hl:=SM hf n;by_cases e:j<n
  ·have eT:m*j+m<=m*n:=by rw[<-Nat.mul_succ];exact Nat.mul_le_mul_left _ e
   rw[List.drop_append_of_le_length (by rw[hl];omega),List.take_append_of_le_length (by rw[List.length_drop,hl];omega)];exact abT hf n j e
  ·obtain rfl:j=n:=ae;rw[<-hl,List.drop_left,List.flatMap_cons,List.flatMap_nil,List.append_nil,List.take_of_length_le (Nat.le_of_eq (hf j))]
theorem abU (key nonce:aF) (n:Int):(lV key nonce n).length=64:=by
 rw[lV,oP,DC]
def JP (key:aF):aF:=(List.range 1024).flatMap λj=>lV key DO ((j:Nat):Int)
theorem M' (key:aF):(JP key).length=65536:=SM (λj=>abU _ _ _) 1024
theorem aqw (key:aF) (j:Nat) (h:j<1024):pO (JP key) j=lV key DO (j:Nat):=abT (λj=>abU _ _ _) 1024 j h
theorem abV:Lib.repeatL (⟨#[0]⟩:ag).data.toList 12=DO:=bU
theorem aqx (key nonce:ag) (n:Int) (p q:Nat) (w:World) (hT:iy w) (hk:key.size=32) (ho:nonce.size=12) (hn:Wd n) (hp:w.cell? ⟨p,0,none⟩=some (.string key)) (hq:w.cell? ⟨q,0,none⟩=some (.string nonce)):
  Calls prog 167 #[.int .i64 n,.pointer (aw p),.pointer (aw q)] w (bF w (.string (bs (lV key.data.toList nonce.data.toList n)))):=by
 have HT:=aa hT;have Hk:=aa hk;have Ho:=aa ho;have HN:=aa hn;go_in;go_wp2_with fail;refine (M1 key nonce n w HT Hk Ho HN).mono ?_;rintro e w1 ⟨rfl,hb⟩;exact OC
structure sS (B0:Nat) (w:World):Prop where
 turns:iy w
 rounds:cX w
 tt:1<B0
 rt:0<B0
theorem sS.below (h:sS B0 w) (hb:aD w w'):sS B0 w':=⟨h.turns.below hb,h.rounds.below hb,h.tt,h.rt⟩
theorem sS.lt (h:sS B0 w):1<w.heap.size/\0<w.heap.size:=
 ⟨cU (p:=⟨1,0+0,none⟩) (h.turns 0 _ rfl),cU (p:=⟨0,0+0,none⟩) (h.rounds 0 _ rfl)⟩
theorem sS.kept {W:World} (h:sS B0 w) (hk: ∀i,i<w.heap.size->M8 B0 w i->W.heap[i]?=w.heap[i]?):sS B0 W:=
 ⟨λj v hv=>(fB (hk _ h.lt.1 (.inl h.tt))).trans (h.turns j v hv),λj v hv=>(fB (hk _ h.lt.2 (.inl h.rt))).trans (h.rounds j v hv),h.tt,h.rt⟩
theorem ahS (h:iy w) (k:cX w):sS w.heap.size w:=
 ⟨h,k,cU (p:=⟨1,0+0,none⟩) (h 0 _ rfl),cU (p:=⟨0,0+0,none⟩) (k 0 _ rfl)⟩
theorem abW (B0:Nat) (seed:ag) (w:World) (hT:sS B0 w) (hs:seed.size<=1000000000) (kD:B0<=w.heap.size):
  Calls prog 95 #[.string seed] w (SK B0 (JP (jA seed.data.toList)) w):=by
 have HT:=aa hT;have KP:=aa (FT seed.data.toList);go_in;go_wp2_with fail;refine (FS seed w HT.rounds hs).mono ?_;rintro e w1 ⟨rfl,aG⟩;generalize Wt:jA seed.data.toList=key at KP⊢;have aCZ:=aa Wt;have HB:=aa aG;go_wp2_with fail;refine (So ⟨#[0]⟩ 12 _ au au).mono ?_;rintro e w2 ⟨rfl,av⟩;rw[abV];have fC:=vq av;have iU:w1.heap.size<w2.heap.size:=bf fC;have ck:w2.cell? ⟨w1.heap.size,0,none⟩=some (.string (bs key)):=cell_of_one fC;have Zs:=aa fC;replace HB:=aa (jX HB av);have aO:w2.heap.size≠w1.heap.size:=ae;go_wp2_with fail;refine (M1 (bs key) (bs DO) 0 _ ((HT.turns.below HB).below ((aI _ _).alloc (aM _) _)) KP rfl MC).mono ?_;rintro e w3 ⟨rfl,aL⟩;go_wp2;go_ret;have h1:bj w3 w1.heap.size #[.string (bs key)] 9:=aJ ((Below.heap_alloc _ _ _ iU).trans Zs) aL;have h2:bj w3 w2.heap.size #[.string (bs DO)] 9:=vq aL;have hb:=jX HB aL;have O':=HT.below hb;rw[aCZ.out];refine⟨w3.heap.size,rfl,hb.size,⟨167,#[.pointer (some ⟨w1.heap.size,0,none⟩),.pointer (some ⟨w2.heap.size,0,none⟩)],?_,?_,Nat.zero_le _,by rw[M'];omega,enters_of func167 ax rfl,bD kD hb.size⟩,hb.alloc hb.size _⟩
 ·rw[M'];exact aR w3 _
 ·intro W hW hz j hj;rw[M']at hj;rw[aqw key j ae];have E3:=O'.below ((aI _ w3).alloc (aM _) (.cells #[.int .i64 65536,.int .i64 0,.func (.func 167) #[] #[.pointer (some ⟨w1.heap.size,0,none⟩),.pointer (some ⟨w2.heap.size,0,none⟩)]] 239));have e1:=(Below.heap_alloc w3 (.cells #[.int .i64 65536,.int .i64 0,.func (.func 167) #[] #[.pointer (some ⟨w1.heap.size,0,none⟩),.pointer (some ⟨w2.heap.size,0,none⟩)]] 239) _ (bf h1)).trans h1;have e2:=(Below.heap_alloc w3 (.cells #[.int .i64 65536,.int .i64 0,.func (.func 167) #[] #[.pointer (some ⟨w1.heap.size,0,none⟩),.pointer (some ⟨w2.heap.size,0,none⟩)]] 239) _ (bf h2)).trans h2;have k1:=(hW _ (bf e1) (.inr λcs ty fr qo e=>by rw[e1]at e;simp at e;rw[<-e.2.1]at qo;exact SG qo)).trans e1;have k2:=(hW _ (bf e2) (.inr λcs ty fr qo e=>by rw[e2]at e;simp at e;rw[<-e.2.1]at qo;exact SG qo)).trans e2;exact aqx (bs key) (bs DO) j w1.heap.size w2.heap.size W (E3.kept hW).turns KP rfl ⟨ae,ae⟩ (cell_of_one k1) (cell_of_one k2)
def pR (seed:ag):aF:=JP (jA seed.data.toList)
theorem Nr (seed:ag):(pR seed).length=65536:=M' _
def xY (L:aF):ag:=bs ((L.drop 0).take 32)
def xZ (L:aF) (m:Nat):ag:=bs ((L.drop 32).take (32*m))
def yc (L:aF) (m i:Nat):ag:=bs ((L.drop (32+32*m+16*i)).take 16)
def iA (L:aF) (m n:Nat):List ag:=(List.range n).map (yc L m)
def lD (L:aF) (m n:Nat):List bZ:=rI (xY L).data.toList (xZ L m).data.toList n m
def yd (L:aF) (ns:List ag) (m:Nat) (e:Int):eZ:=
 ⟨⟨e,((m+1:Nat):Int),ns,mA (iA L m ns.length) (lD L m ns.length)⟩,xY L,lD L m ns.length,iA L m ns.length⟩
def Ns:eZ:=⟨⟨0,0,[],[]⟩,⟨#[]⟩,[],[]⟩
def Cd (ns:List ag) (k:Int):Bool:=decide (ns.length<=16)&&decide (1<=k)&&decide (k<=ns.length)
def mD (seed:ag) (ns:List ag) (k e:Int):Bool:=Cd ns k&&decide (seed.size<=1000000000)&&fX (yd (pR seed) ns (k - 1).toNat e).r
def du (seed:ag) (ns:List ag) (k e:Int):eZ:=if mD seed ns k e=true then yd (pR seed) ns (k - 1).toNat e else Ns
def kJ (seed:ag) (ns:List ag) (k e:Int):Int:=if mD seed ns k e=true then 0 else 180
theorem J3 {k:Int} (h:Cd ns k=true):ns.length<=16/\1<=k/\k<=ns.length:=by
 simp only[Cd,Bool.and_eq_true,decide_eq_true_eq]at h;exact⟨h.1.1,h.1.2,h.2⟩
theorem Tm {a:Nat} (h:a+n<=L.length):((L.drop a).take n).length=n:=by
 rw[List.length_take,List.length_drop];omega
theorem acn (h:L.length=65536):(xY L).size=32:=by unfold xY;rw[ei,Tm ae]
theorem arN (h:L.length=65536) (hm:m<=15):(xZ L m).size=32*m:=by unfold xZ;rw[ei,Tm ae]
theorem arO (h:L.length=65536) (hm:m<=15) (hi:i<16):(yc L m i).size=16:=by unfold yc;rw[ei,Tm ae]
theorem DW (L:aF) (m n:Nat):(iA L m n).length=n:=by simp[iA]
theorem DX (L:aF) (m n:Nat):(lD L m n).length=n:=by simp[lD,rI]
theorem aco (hi:i<n):(iA L m n).getD i eN=yc L m i:=by
 rw[iA,dh,nA,List.getElem?_range hi];rfl
theorem arP (L:aF) (m n:Nat):iA L m (n+1)=iA L m n++ [yc L m n]:=by simp[iA,List.range_succ]
theorem acp (h:L.length=65536) (hm:m<=15) (hi:i<16) (s t:aF):jm (yc L m i) (Ak s t m i)=true:=by
 have hz:(bs (lx s t m i)).size=32:=by rw[ei,abN]
 have h1:=arO h hm hi;show (decide ((yc L m i).size=16)&&decide ((1:Int)<=((i+1:Nat):Int))&&decide (((i+1:Nat):Int)<=255)&&decide ((bs (lx s t m i)).size=32))=true;rw[decide_eq_true h1,decide_eq_true ae,decide_eq_true ae,decide_eq_true hz];rfl
theorem acq (hi:i<n):((iA L m n).zip (lD L m n))[i]?=some (yc L m i,Ak (xY L).data.toList (xZ L m).data.toList m i):=by
 rw[cL (by rw[List.length_zip,DW,DX];omega),List.getElem_zip];simp[iA,lD,rI,Ak]
theorem arQ (h:L.length=65536) (hm:m<=15) (hn:n<=16):oV (iA L m n) (lD L m n)=true:=by
 rw[oV,List.all_eq_true];intro q hq;obtain⟨i,hi,he⟩:=List.mem_iff_getElem.1 hq;have hl:i<n:=by rw[List.length_zip,DW,DX]at hi;omega
 have:=acq (L:=L) (m:=m) hl;rw[cL hi,he,Option.some.injEq]at this;rw[this];exact acp h hm ae _ _
theorem arR (h:L.length=65536) (hm:m<=15) (hn:n<=16):vy (iA L m n) (lD L m n)=0/\BQ (iA L m n) (lD L m n)=mA (iA L m n) (lD L m n):=by
 have e:vy (iA L m n) (lD L m n)=0:=by
  unfold vy;rw[if_neg (by rw[DW,DX];simp),if_pos (arQ h hm hn)]
 exact⟨e,by rw[BQ,if_pos e]⟩
theorem arS (hi:i<n):(mA (iA L m n) (lD L m n)).getD i eN=nT (yc L m i) (Ak (xY L).data.toList (xZ L m).data.toList m i):=by
 rw[mA,dh,nA,acq hi];rfl
theorem Tn (L:aF) (m n:Nat):(mA (iA L m n) (lD L m n)).length=n:=by
 rw[mA,kQ,List.length_zip,DW,DX];omega
theorem arT (h:L.length=65536) (hn:ns.length<=16) (hm:m+1<=ns.length) (hc:fX (yd L ns m e).r=true):abO (yd L ns m e) m (xZ L m).data.toList:=by
 refine⟨hc,rfl,hm,acn h,rfl,DW _ _ _,λi hi=>?_,λi hi=>?_⟩
 ·have qm:i<ns.length:=hi;show jm ((iA L m ns.length).getD i eN) _=true;rw[aco qm];exact acp h ae ae _ _
 ·have qm:i<ns.length:=hi;show (mA (iA L m ns.length) (lD L m ns.length)).getD i eN=nT ((iA L m ns.length).getD i eN) _;rw[arS qm,aco qm];rfl
theorem acr {seed:ag} {k:Int} (h:mD seed ns k e=true): ∃m:Nat,k=((m+1:Nat):Int)/\m+1<=ns.length/\ns.length<=16/\du seed ns k e=yd (pR seed) ns m e/\abO (du seed ns k e) m (xZ (pR seed) m).data.toList/\(du seed ns k e).r.e=e/\(du seed ns k e).r.ns=ns:=by
 have h':=h;unfold mD at h';rw[Bool.and_eq_true,Bool.and_eq_true]at h';obtain⟨h1,h2,h3⟩:=J3 h'.1.1;have he:du seed ns k e=yd (pR seed) ns (k - 1).toNat e:=by rw[du,if_pos h]
 refine⟨(k - 1).toNat,ae,ae,h1,he,?_,by rw[he];rfl,by rw[he];rfl⟩;rw[he];exact arT (Nr seed) h1 ae h'.2
def sX (D:eZ):Bool:=fX D.r&&decide (D.sh.length=D.r.ns.length)&&decide (D.sa.length=D.r.ns.length)&&(List.range D.r.ns.length).all λi=>decide ((D.sh.getD i (0,eN)).1=((i+1:Nat):Int))&&uh (D.r.ps.getD i eN) (D.sa.getD i eN) (D.sh.getD i (0,eN))
def ig (D:eZ) (i:Nat):xX:=⟨D.r.e,(D.sh.getD i (0,eN)).1,(D.sh.getD i (0,eN)).2,D.sa.getD i eN⟩
theorem arU {s:ag} {p:bZ} (h:jm s p=true):aqS p.1 p.2 s:=by
 obtain⟨h1,h2,h3,h4⟩:=R9 h;exact⟨h2,h3,h4,h1⟩
theorem J4 {f:Nat->az->Int->az×Int} {c:Int} {l:List az} {d:Int} {j:Nat} (h:(dz f c l d j).2.2≠0): ∀k,dz f c l d (j+k)=dz f c l d j
 |0=>rfl
 |k+1=>by
  rw[<-Nat.add_assoc,dz,J4 h k,if_pos h]
theorem Nt (f:Nat->az->Int->az×Int) (c:Int) (l:List az) (d:Int): ∀k,(dz f c l d k).1.length=l.length
 |0=>rfl
 |k+1=>by
  have:=Nt f c l d k;rw[dz];split
  ·exact this
  ·split
   ·exact oC
   ·split
    ·exact oC
    ·exact this
theorem Nu {f:Nat->az->Int->az×Int} {c:Int} (hc:0<=c) (fi:c<=16) (l:List az) (d:Int): ∀k:Nat,d - 16*k<=(dz f c l d k).2.1/\(dz f c l d k).2.1<=d
 |0=>by simp[dz]
 |k+1=>by
  have:=Nu (f:=f) hc fi l d k;rw[dz];split
  ·exact⟨ae,this.2⟩
  ·split
   ·exact⟨by simp only;omega,by simp only;omega⟩
   ·split
    ·exact⟨by simp only;omega,this.2⟩
    ·exact⟨by simp only;omega,this.2⟩
theorem acs {f:Nat->az->Int->az×Int} {c:Int} {l L:List az} {d:Int} (h:dz f c l d k=(L,d',0)) {r:az×Int} (hr:r=f k (L.getD k bI) (min d' c)):
  (r.2=0->dz f c l d (k+1)=(L.set k r.1,d' - c,0))/\(r.2=230->dz f c l d (k+1)=(L.set k r.1,d',230))/\(r.2≠0->r.2≠230->dz f c l d (k+1)=(L,d',r.2)):=by
 subst hr;refine⟨λh1=>?_,λh1=>?_,λh1 h2=>?_⟩
 ·rw[dz,h];simp only;rw[if_neg ak,if_pos h1]
 ·rw[dz,h];simp only;rw[if_neg ak,if_neg ae,if_pos h1]
 ·rw[dz,h];simp only;rw[if_neg ak,if_neg h1,if_neg h2]
def phF (g:Nat->xX):Nat->Nat->az->Int->az×Int
 |0=>lC g
 |_+1=>rQ g
def phC:Nat->Int
 |0=>4
 |_+1=>16
def vN (g:Nat->xX) (l:List az) (aH:Int):Nat->List az->Int->Prop
 |0,L,d=>L=l/\d=oh l.length aH
 |1,L,d=>dz (lC g) 4 l (oh l.length aH) l.length=(L,d,0)
 |_,L,d=> ∃L1 d1,dz (lC g) 4 l (oh l.length aH) l.length=(L1,d1,0)/\dz (rQ g) 16 L1 d1 l.length=(L,d,0)
theorem vN.len {l:List az} {L:List az} {d:Int} (h:vN g l aH k L d):L.length=l.length:=by
 match k,h with
 |0,h=>rw[h.1]
 |1,h=>
  have:=Nt (lC g) 4 l (oh l.length aH) l.length;rw[show dz _ _ _ _ _=_ from h]at this;exact this
 |k+2,h=>
  obtain⟨L1,d1,h1,h2⟩:=h;have e1:=Nt (lC g) 4 l (oh l.length aH) l.length;have e2:=Nt (rQ g) 16 L1 d1 l.length;rw[h1]at e1;rw[h2]at e2;exact e2.trans e1
theorem vN.d {l:List az} {L:List az} {d:Int} (h:vN g l aH k L d) (hn:l.length<=16) (hk:k<2): -256<=d/\d<=320:=by
 have h0:0<=oh l.length aH/\oh l.length aH<=320:=by
  unfold oh;split<;>omega
 match k,h with
 |0,h=>rw[h.2];omega
 |1,h=>
  have:=Nu (f:=lC g) (c:=4) ae ae l (oh l.length aH) l.length;rw[show dz _ _ _ _ _=_ from h]at this;simp only at this;omega
theorem vN.next {l:List az} {L L':List az} {d:Int} (h:vN g l aH k L d) (hk:k<2) (hp:dz (phF g k) (phC k) L d l.length=(L',d',e)):
  (e=0->vN g l aH (k+1) L' d')/\(e=230->rR g l aH=(L',false,0))/\(e≠0->e≠230->rR g l aH=([],false,e)):=by
 match k,h,hk,hp with
 |0,h,_,hp=>
  obtain⟨rfl,rfl⟩:=h;have hp:dz (lC g) 4 L (oh L.length aH) L.length=(L',d',e):=hp;refine⟨λh0=>?_,λh0=>?_,λh0 h1=>?_⟩
  ·rw[h0]at hp;exact hp
  ·rw[rR,hp];simp only;rw[if_pos h0]
  ·rw[rR,hp];simp only;rw[if_neg h1,if_pos h0]
 |1,h,_,hp=>
  have h:dz (lC g) 4 l (oh l.length aH) l.length=(L,d,0):=h;have hp:dz (rQ g) 16 L d l.length=(L',d',e):=hp;refine⟨λh0=>?_,λh0=>?_,λh0 h1=>?_⟩
  ·rw[h0]at hp;exact⟨L,d,h,hp⟩
  ·rw[rR,h];simp only;rw[if_neg ae,if_neg ak,hp,if_pos h0]
  ·rw[rR,h];simp only;rw[if_neg ae,if_neg ak,hp,if_neg h1,if_pos h0]
theorem vN.done {l:List az} {L:List az} {d:Int} (h:vN g l aH 2 L d):rR g l aH=(L,true,0):=by
 obtain⟨L1,d1,h1,h2⟩:=h;rw[rR,h1];simp only;rw[if_neg ae,if_neg ak,h2,if_neg ak,if_neg ak]
def ij (D:eZ) (l:List az) (aH:Int):List az×Bool×Int:=if sX D=true/\l.length=D.r.ns.length then rR (ig D) l aH else ([],false,1)
end Go.Proofs.YtaglcaocpcbiiaaGreatDoor
