import Derived.Test.YtaglcaocpcbiiaaGreatDoorX07
import Derived.WalkMore
set_option linter.unusedVariables false
set_option linter.unusedSimpArgs false
set_option maxRecDepth 100000
set_option maxHeartbeats 3000000
namespace Go.Proofs.YtaglcaocpcbiiaaGreatDoor
open Go.Proofs.Tryz Go.RowKit
section
variable {B b g i n:Nat} {P:Prop} {a0 a1 a2 a3 a4:Value} {o:Obj} {t:TypeId} {w:World}
theorem auQ (n:Int):IntKind.u8.wrap n=(((u8 n).toNat:Nat):Int):=by
 rw[IntKind.wrap_u8];simp[u8];omega
theorem auR (x:UInt8) (w:World) (g:Nat) (hg:w.heap.size=g):(convert 34 9 (.slice (aw g) 1 1)).run prog (w.alloc (.cells #[.int .u8 (x.toNat:Int)] 5))= .ok (.string (bs [x])) (w.alloc (.cells #[.int .u8 (x.toNat:Int)] 5)):=
 DF (l:= [x]) (jk w _ _ g hg) 1 1 rfl
theorem ad2 (gen area:Int) (root:ag) (w:World) (hz:root.size<=1000000000):
  Calls prog 87 #[.int .i64 gen,.int .i64 area,.string root] w (bF w (.string (qR gen area root))):=by
 have no:pV gen area root=false->qR gen area root=⟨#[]⟩:=λh=>by rw[qR,if_neg (by rw[h];simp)];rfl
 by_cases h1:gen<0
 ·rw[no (by simp[pV];omega)];have d1:decide (gen<0)=true:=decide_eq_true h1;go_in;exact GZ
 have d1:decide (gen<0)=false:=decide_eq_false h1;by_cases h2:gen>1000000000
 ·rw[no (by simp[pV];omega)];have d2:decide (gen>1000000000)=true:=decide_eq_true h2;go_in;exact GZ
 have d2:decide (gen>1000000000)=false:=decide_eq_false h2;by_cases h3:area<0
 ·rw[no (by simp[pV];omega)];have d3:decide (area<0)=true:=decide_eq_true h3;go_in;exact GZ
 have d3:decide (area<0)=false:=decide_eq_false h3;by_cases h4:area>1
 ·rw[no (by simp[pV];omega)];have d4:decide (area>1)=true:=decide_eq_true h4;go_in;exact GZ
 have d4:decide (area>1)=false:=decide_eq_false h4;by_cases h5:root.size=32
 ·have hb:pV gen area root=true:=by simp[pV,h5];omega
  have d5:((root.size:Int) !=32)=false:=by simp;omega
  have hw:fW gen=true:=by simp[fW];omega
  have Bc:ez [gen]=true:=by simp[ez,hw]
  obtain⟨F,hF⟩: ∃F,F=bs (lu [gen] true):=⟨_,rfl⟩
  have hFs:F.size=4:=by rw[hF,ei,oP];rfl
  have HS:=aa (show qR gen area root=F++bs [u8 area]++root by
   rw[qR,if_pos hb,qM,if_pos hw,hF,<-JU,<-JU,Dx])
  have C0:=auQ area;have hF':=aa hF;have aFn:(bs [u8 area]).size=1:=rfl;clear no hb hF h1 h2 h3 h4;go_in;go_wp2_with fail;refine (Ry _ 1 1 [gen] _ (by exact jk _ _ _ _ rfl) rfl ak Bc).mono ?_;rintro e w1 ⟨rfl,aG⟩;rw[<-hF'.out];have hB:=bg (be w (.cells #[.int .i64 gen] 3)) aG;have HB:=aa hB;have il:=auR (u8 area) w1 w1.heap.size rfl;have s1: ¬9223372036854775807<F.size+(bs [u8 area]).size:=ae;have s2: ¬9223372036854775807<F.size+(bs [u8 area]).size+root.size:=ae;clear aG hB;go_wp2;go_ret;rw[HS.out];exact⟨rfl,HB.alloc HB.size _⟩
 ·rw[no (by simp[pV];omega)];have d5:((root.size:Int) !=32)=true:=by simp;omega
  go_in;exact GZ
theorem auS (x:UInt8):wrap64 (x.toNat:Int)=(x.toNat:Int):=by
 have:=x.toNat_lt;unfold wrap64;omega
theorem auT (s:ag) (k:Nat) (h:k<s.size):s[k]=s.data.toList.getD k 0:=by
 exact U5
theorem Uf {fn:Func} {t u v x:Tmp} (h:fn.results= #[.tmp t,.tmp u,.tmp v,.tmp x]) (tmps:bx) (P:Program) (w:World):
  (results fn tmps).run P w= .ok (.tuple #[tmps.getD t undef,tmps.getD u undef,tmps.getD v undef,tmps.getD x undef]) w:=by
 simp[results,h]
theorem ahv (h:P:=by
 go_in;go_wp2_with fail;refine (Jj (s.extract 0 4) _ ae ae).mono ?_;rintro e w2 ⟨g,rfl,hg,bH,av⟩;rw[HL.out,HL4.out]at bH⊢;have bq:=aa av;have c0:=bH.cell (i:=0) ae;rw[<-Hv.out]at c0;clear av hg bH;go_wp2_with fail;((try simp only[Exit.inBlock,Exit.then]);refine bodyPost_ret (Uf rfl _ _ _) rfl ?_);exact⟨rfl,bq⟩):P:=h
theorem auU (s:ag) (w:World) (hz:s.size<=9223372036854775807):
  Calls prog 179 #[.string s] w (bF w (.tuple #[.int .i64 (gj s).gen,.int .i64 (gj s).area,.string (gj s).root,.bool (gj s).ok])):=by
 by_cases Pe:s.size=37
 ·have d1:((s.size:Int) !=37)=false:=by simp;omega
  have hx4:(s.extract 0 4).size=4:=by rw[Cy];omega
  have zL:(s.extract 0 4).data.toList=s.data.toList.take 4:=by rw[lR,sD,List.drop_zero]
  have CC:(s.data.toList.take 4).length=4:=by rw[<-zL,bP,hx4]
  obtain⟨v,hv⟩: ∃v,v=fG (s.data.toList.take 4) true 4 0:=⟨_,rfl⟩
  obtain⟨b,hb⟩: ∃b,b=s.data.toList.getD 4 0:=⟨_,rfl⟩
  have H0:=aa (show¬(v<=1000000000/\b.toNat<=1)->gj s=⟨0,0,bo,false⟩ from λh=>by
   rw[gj,if_neg];rw[Ci,<-hv,<-hb];simp only[Bool.and_eq_true,decide_eq_true_eq];exact λh'=>h ⟨h'.1.2,h'.2⟩)
  have H1:=aa (show (v<=1000000000/\b.toNat<=1)->gj s=⟨v,b.toNat,s.extract 5 37,true⟩ from λh=>by
   rw[gj,if_pos]
   ·rw[<-hv,<-hb,Pe]
   ·rw[Ci,<-hv,<-hb];simp[Pe,h.1,h.2])
  have EE:=auT s 4 ae;rw[<-hb]at EE;have Hv:=aa hv;have HL:=aa zL;have HL4:=aa CC;have aK:=b.toNat_lt;have hub:=auS b;clear hv hb zL CC;have cg:s.size=37:=Pe;by_cases gu:v<=1000000000
  ·by_cases fi:b.toNat<=1
   ·rw[H1.out ⟨gu,fi⟩];have d2:decide ((v:Int)>1000000000)=false:=decide_eq_false ae;have d3:decide (((b.toNat:Nat):Int)>1)=false:=decide_eq_false ae;go_in;go_wp2_with fail;refine (Jj (s.extract 0 4) _ ae ae).mono ?_;rintro e w2 ⟨g,rfl,hg,bH,av⟩;rw[HL.out,HL4.out]at bH⊢;have bq:=aa av;have c0:=bH.cell (i:=0) ae;rw[<-Hv.out]at c0;clear av hg bH;go_wp2_with fail;go_quiet (fail);rename_i nq;go_wp2_with fail;((try simp only[Exit.inBlock,Exit.then]);refine bodyPost_ret (Uf rfl _ _ _) rfl ?_);exact⟨rfl,tX bq nq⟩
   ·rw[H0.out (λh=>fi h.2)];have d2:decide ((v:Int)>1000000000)=false:=decide_eq_false ae;have d3:decide (((b.toNat:Nat):Int)>1)=true:=decide_eq_true ae;exact ahv
  ·rw[H0.out (λh=>gu h.1)];have d2:decide ((v:Int)>1000000000)=true:=decide_eq_true ae;exact ahv
 ·have d1:((s.size:Int) !=37)=true:=by simp;omega
  rw[show gj s=⟨0,0,bo,false⟩ by rw[gj,if_neg];simp[Ci,Pe]];go_in;go_wp2_with fail;((try simp only[Exit.inBlock,Exit.then]);refine bodyPost_ret (Uf rfl _ _ _) rfl ?_);exact⟨rfl,aI _ _⟩
theorem ad3 (n area:Nat) (a0:Nat) (i:Nat) (w:World) (hn:n<=64) (ha:area<=1) (hi:i<=64):
  Calls prog 180 #[.agg #[.int .i64 (n:Nat),.int .i64 (a0:Nat)],.int .i64 (area:Nat),.int .i64 (i:Nat)] w (bF w (.int .i64 ((3+area*n+i:Nat):Int))):=by
 have hX:=aR w (.cells #[.int .i64 (n:Nat),.int .i64 (a0:Nat)] 169);have hA:=be w (.cells #[.int .i64 (n:Nat),.int .i64 (a0:Nat)] 169);obtain⟨x0,x1,_,_⟩:=aV hX;have h:area=0\/area=1:=ae;rcases h with rfl|rfl
 ·have e1:((0:Nat):Int)*(n:Int)=0:=ak;have e2:((3+0*n+i:Nat):Int)=3+0+(i:Int):=ae;rw[e2];go_in;go_wp2;go_ret;exact⟨rfl,hA⟩
 ·have e1:((1:Nat):Int)*(n:Int)=(n:Int):=ak;have e2:((3+1*n+i:Nat):Int)=3+(n:Int)+(i:Int):=ae;rw[e2];go_in;go_wp2;go_ret;exact⟨rfl,hA⟩
theorem auV (m j:Nat) (hj:j<=6) (h:m=3+2*2^j):pU m=2^j:=by
 subst h;have: ∀j,j<=6->pU (3+2*2^j)=2^j:=au;exact this j hj
theorem auW (m:Nat) (h: ∀i,i<7->m≠3+2*2^i):pU m=0:=by
 have h0:=h 0 ae;have h1:=h 1 ae;have h2:=h 2 ae;have h3:=h 3 ae;have h4:=h 4 ae;have h5:=h 5 ae;have h6:=h 6 ae;simp only[pU];simp at h0 h1 h2 h3 h4 h5 h6;simp[h0,h1,h2,h3,h4,h5,h6]
theorem auX (m:Nat) (w:World) (hm:m<=maxLen):
  Calls prog 178 #[.int .i64 (m:Nat)] w (bF w (.tuple #[.int .i64 (pU m:Nat),.bool (decide (pU m≠0))])):=by
 go_in;go_wp2_with fail;go_loopw [4] (λx wr=> ∃j:Nat,j<=7/\x= .int .i64 ((2^j:Nat):Int)/\(∀i,i<j->m≠3+2*2^i)/\wr=w) (λx _=>200 -(intOf x).toNat);case atStart=>exact⟨0,ae,rfl,λi hi=>ae,rfl⟩
 case round=>
  obtain⟨j,hj,rfl,xz,rfl⟩:=hrel;by_cases h7:j=7
  ·subst h7;have hs:=auW m xz;have e1:decide (((2^7:Nat):Int)<=64)=false:=au;go_wp2;go_ret2;rw[hs];exact⟨rfl,aI _ _⟩
  ·have eT: ∀j,j<=6->2^j<=64/\1<=2^j/\2^(j+1)=2*2^j:=au;obtain⟨t1,t2,t3⟩:=eT j ae;have akK:=aa (auV m j ae);have aCf:=aa xz;obtain⟨t,ht⟩: ∃t,t=2^j:=⟨_,rfl⟩
   have HT:=aa ht;rw[<-ht]at t1 t2 t3 akK⊢;have tv:=aa t3;clear xz eT ht t3;have e1:decide ((t:Int)<=64)=true:=decide_eq_true ae;by_cases hm3:m=3+2*t
   ·have hs:=akK.out hm3;have e2:((m:Int)==3+2*(t:Int))=true:=(by simp;omega);have e3:decide (t≠0)=true:=decide_eq_true ae;go_wp2;go_ret2;rw[hs,e3];exact⟨rfl,aI _ _⟩
   ·have e2:((m:Int)==3+2*(t:Int))=false:=(by simp;omega);go_wp2;go_roundw;case rel=>
     refine⟨j+1,ae,?_,λi hi=>?_,trivial⟩
     ·rw[tv.out];go_num
     ·by_cases he:i=j
      ·subst he;rw[<-HT.out];exact hm3
      ·exact aCf.out i ae
    case measure=>exact cM
theorem ago (h:P:=by
 go_in;go_wp2_with fail;refine (kB _ (HA.below HB) (HR.below HB)).mono ?_;rintro e w2 ⟨rfl,av⟩;have x2:=aj (aJ HX av) 1 _ rfl;have bq:=aX HB av;clear av x0 x1;go_wp2;go_ret;exact⟨rfl,bq⟩):P:=h
theorem ad4 (v:Value) (V:dW) (w:World) (hv:VV w v V) (hc:ks V=true) (hR:cX w):
  Calls prog 115 #[v] w (bF w (.bool (decide (iQ V.bl=V.rt)))):=by
 obtain⟨A,n,c,rfl,hA,hn⟩:=hv;obtain⟨bl,rt⟩:=V;simp only at hA hn⊢;obtain⟨p1,p2,p3⟩:=D5 hc;obtain⟨r1,r2⟩:=Ud (J7 p1);have eT:=(yh p1).2;simp only at p1 p2 p3 r1 r2 eT;have kB:=aa (λW h1 h2=>Ub A n c bl W h1 hn ae (λs hs=>by have:=p3 s hs;omega) h2);rw[r1,r2]at kB;have HA:=aa hA;have HR:=aa hR;have HX:=aa (aR w (.cells #[.slice A n c,.string rt] 80));have HB:=aa (be w (.cells #[.slice A n c,.string rt] 80));have x0:=aj HX 0 _ rfl;have x1:=aj HX 1 _ rfl;clear hA hn hR hc p1 p2 p3 r1 r2 eT;by_cases tU:iQ bl=rt
 ·have d1:(rt.toList==rt.toList)=true:=ak;rw[tU]at kB⊢;have e1:decide (rt=rt)=true:=ak;rw[e1];clear tU;exact ago
 ·have d1:=zU tU;have e1:decide (iQ bl=rt)=false:=by simpa using tU
  rw[e1];generalize iQ bl=r at d1 kB;clear tU e1;exact ago
theorem auY (n:Nat) (w:World) (hn:countB n=false) (hR:cX w):
  Calls prog 41 #[.int .i64 (n:Nat)] w (kj w (bI,1)):=by
 have HF:=aa (λW h=>ad1 n W h);rw[hn,if_neg ak,if_neg ak]at HF;have HX:=aa (aR w (.cells zP 74));have HB:=aa (be w (.cells zP 74));have HR:=aa hR;clear hR hn;go_in;go_wp2_with fail;refine (HF _ (HR.below HB)).mono ?_;rintro e w1 ⟨v,rfl,⟨A,n1,c,rfl,hr,fL⟩,aG⟩;have b1:=be w1 (.cells #[.slice A n1 c,.string D4.rt] 80);have bT:=aT (aT HX aG) b1;have bq:=aa (HB.trans ((bg aG b1).mono HB.size));clear aG b1 hr fL;obtain⟨x0,x1,x2,x3⟩:=aV bT.out;go_wp2_with fail;refine bodyPost_ret (dJ rfl _ _ w.heap.size ah _ (eP (eA bT _ _))) rfl ?_;exact⟨_,rfl,dT.no _,dL bq (aM _) _ _⟩
theorem auZ (n:Nat) (w:World) (hn:countB n=true) (hR:cX w):
  Calls prog 41 #[.int .i64 (n:Nat)] w (kj w (TF n)):=by
 have eT:=yh hn;have HF:=aa (λW h=>ad1 n W h);rw[hn,if_pos rfl,if_pos rfl]at HF;have ajI:(iQ (List.replicate n eR)).size=32:=(D5 (asO (asP eR hn))).2.1;obtain⟨R,uQ⟩: ∃R,R=(Ch (List.replicate n eR)).rt:=⟨_,rfl⟩
 have hRs:R.size=32:=by rw[uQ];exact ajI
 have uS:=aa (λW=>ad2 0 0 R W ae);have LP:=aa (λW=>show Calls prog 47 #[.int .i64 (3+2*(n:Int))] W (kj W (gD (3+2*n),0)) from by
  have h:=Ta (3+2*n) W ae ae;rw[show ((3+2*n:Nat):Int)=3+2*(n:Int) by omega]at h;exact h)
 have HE:=aa (show TF n=((eC (gD (3+2*n)) 0 (qR 0 0 R) (-1)).1,(eC (gD (3+2*n)) 0 (qR 0 0 R) (-1)).2.2) by rw[uQ];rfl);have HX:=aa (aR w (.cells zP 74));have HB:=aa (be w (.cells zP 74));have HR:=aa hR;have wX:=aa uQ;generalize qR 0 0 R=hd at uS HE;clear hR hn ajI uQ hRs;have PA:n<=64:=eT.2;clear eT;go_in;go_wp2_with fail;refine (HF _ (HR.below HB)).mono ?_;rintro e w1 ⟨v,rfl,⟨A,n1,c,rfl,hr,fL⟩,aG⟩;rw[<-wX.out];have b1:=be w1 (.cells #[.slice A n1 c,.string R] 80);have bT:=aT (aT HX aG) b1;have pE:=aa (aR w1 (.cells #[.slice A n1 c,.string R] 80));have bq:=aa (HB.trans ((bg aG b1).mono HB.size));have QL:w.heap.size<w1.heap.size:=by have:=aG.size;simp at this;omega
 clear aG b1 hr fL;go_wp2_with fail;refine (LP _).mono ?_;rintro e w2 ⟨v2,rfl,ml,av⟩;obtain⟨A2,n2,c2,B2,m2,d2,rfl,Qk⟩:=ml;have b2:=be w2 (.cells #[.slice A2 n2 c2,.slice B2 m2 d2] 74);replace bT:=aT (aT bT av) b2;replace pE:=aT (aT pE av) b2;have fP:=aa (PB.below (show PB w2 A2 n2 B2 m2 (gD (3+2*n)) from Qk) b2);have nM:=aa (aR w2 (.cells #[.slice A2 n2 c2,.slice B2 m2 d2] 74));replace bq:=aa (bq.trans ((bg av b2).mono bq.size));have aO:w1.heap.size≠w2.heap.size:=by have:=av.size;simp at this;omega
 have va:w.heap.size≠w2.heap.size:=by have h3:=av.size;simp at h3;omega
 have I2:w.heap.size<=w2.heap.size:=by have h3:=av.size;simp at h3;omega
 obtain⟨w3,fo⟩: ∃w3,w3=w2.alloc (.cells #[.slice A2 n2 c2,.slice B2 m2 d2] 74):=⟨_,rfl⟩
 have Fh:=aa fo;rw[<-fo]at bT pE fP nM bq;clear Qk av b2 fo;obtain⟨q0,q1,q2,q3⟩:=aV nM.out;obtain⟨y0,y1,y2,y3⟩:=aV pE.out;go_wp2_with fail;rw[<-Fh.out];go_region_law (first
  |(go_simp;go_at_call 87;refine Calls.mono (uS _) ?_;rintro _ w4 ⟨rfl,hb4'⟩;have aP:=bg ((aI _ w3).drew) hb4';clear hb4';replace bT:=aT bT aP;replace pE:=aT pE aP;replace nM:=aT nM aP;replace fP:=aa (fP.below aP);replace bq:=aX bq aP;obtain⟨s0,s1,s2,s3⟩:=aV nM)
  |(go_simp;go_at_call 86;refine (Nq _ (gD (3+2*n)) 0 (-1) hd _ ⟨_,_,_,_,_,_,rfl,fP⟩ ae).mono ?_;rintro _ w5 ⟨v5,rfl,hv5,aY⟩;replace bT:=aT bT aY;replace nM:=aT nM aY;replace bq:=aX bq aY;obtain⟨A6,n6,c6,B6,m6,d6,rfl,nB⟩:=hv5;obtain⟨u0,u1,u2,u3⟩:=aV nM))
 all_goals
  have G6:=(bz (w5.setCell ⟨w2.heap.size,0,none⟩ (.slice A6 n6 c6)) ⟨w2.heap.size,1,none⟩ (.slice B6 m6 d6) w.heap.size (by simpa using va)).trans ((bz w5 ⟨w2.heap.size,0,none⟩ (.slice A6 n6 c6) w.heap.size (by simpa using va)).trans bT)
  have hq6:=eA nM (.slice A6 n6 c6) (.slice B6 m6 d6)
  have AW:=(show PB ((w5.setCell ⟨w2.heap.size,0,none⟩ (.slice A6 n6 c6)).setCell ⟨w2.heap.size,1,none⟩ (.slice B6 m6 d6)) A6 n6 B6 m6 _ from nB.two nM)
  obtain⟨t0,t1,t2,t3⟩:=aV G6
  obtain⟨r0,r1,r2,r3⟩:=aV hq6
  have Hx6:=aa G6
  clear G6 hq6
  go_wp2_with fail
  refine bodyPost_ret (dJ rfl _ _ w.heap.size ah _ (eP (eA Hx6 _ _))) rfl ?_
  rw[HE.out]
  exact⟨_,rfl,⟨_,_,_,_,_,_,rfl,AW.two Hx6⟩,dL (dL bq I2 _ _) (aM _) _ _⟩
abbrev zC:bx:= #[.int .i64 0,.int .i64 0,.int .i64 0,ay,.string ⟨#[]⟩]
theorem jV (h:w.heap[g]?=some (.cells #[a0,a1,a2,a3,a4] t (0,0))):
  (w.cell? ⟨g,0,none⟩=some a0/\w.cell? ⟨g,1,none⟩=some a1/\w.cell? ⟨g,2,none⟩=some a2/\w.cell? ⟨g,3,none⟩=some a3/\w.cell? ⟨g,4,none⟩=some a4)/\ ∀i,w.frozen? ⟨g,i,none⟩=false:=
 ⟨⟨aj h 0 _ rfl,aj h 1 _ rfl,aj h 2 _ rfl,aj h 3 _ rfl,aj h 4 _ rfl⟩,λi=>aU h i⟩
theorem GI (h:w.heap[g]?=some (.cells #[a0,a1,a2,a3,a4] t (0,0))) (b0 b1 b2 b3 b4:Value):
  (((((w.setCell ⟨g,0,none⟩ b0).setCell ⟨g,1,none⟩ b1).setCell ⟨g,2,none⟩ b2).setCell ⟨g,3,none⟩ b3).setCell ⟨g,4,none⟩ b4).heap[g]?=some (.cells #[b0,b1,b2,b3,b4] t (0,0)):=by
 exact ahy
theorem GJ {w0:World} (h:Below B w0 w) (hB:B<=g) (b0 b1 b2 b3 b4:Value):
  Below B w0 (((((w.setCell ⟨g,0,none⟩ b0).setCell ⟨g,1,none⟩ b1).setCell ⟨g,2,none⟩ b2).setCell ⟨g,3,none⟩ b3).setCell ⟨g,4,none⟩ b4):=
 ((((h.setCell (p:=⟨g,0,none⟩) hB b0).setCell (p:=⟨g,1,none⟩) hB b1).setCell (p:=⟨g,2,none⟩) hB b2).setCell (p:=⟨g,3,none⟩) hB b3).setCell (p:=⟨g,4,none⟩) hB b4
theorem GK (h:w.heap[g]?=some (.cells #[a0,a1,a2,a3,a4] t (0,0))):(loadVar 171 ⟨g,0,none⟩).run prog w= .ok (.agg #[a0,a1,a2,a3,a4]) w:=by
 have:=run_loadVar_mid (P:=prog) w g 0 171 [a0,a1,a2,a3,a4] _ (λj v hj=>by
  rw[Nat.zero_add,cell_of_row w g j _ _ _ h];simpa using hj) underlying171 rfl ax
 exact oC
theorem au0 (w:World) (o1 o2 o3:Obj):(((w.alloc o1).alloc o2).alloc o3).heap[w.heap.size]?=some o1/\(((w.alloc o1).alloc o2).alloc o3).heap[w.heap.size+1]?=some o2/\(((w.alloc o1).alloc o2).alloc o3).heap[w.heap.size+1+1]?=some o3/\aD w (((w.alloc o1).alloc o2).alloc o3)/\(((w.alloc o1).alloc o2).alloc o3).heap.size=w.heap.size+3:=by
 have h1:=aR w o1;have h2:=aR (w.alloc o1) o2;have h3:=aR ((w.alloc o1).alloc o2) o3;simp only[World.size_alloc]at h2 h3;refine⟨?_,?_,h3,?_,ak⟩
 ·exact (Below.heap_alloc _ _ _ (by simp only[World.size_alloc];omega)).trans ((Below.heap_alloc _ _ _ (by simp only[World.size_alloc];omega)).trans h1)
 ·exact (Below.heap_alloc _ _ _ (by simp only[World.size_alloc];omega)).trans h2
 ·exact (((aI _ _).alloc (aM _) _).alloc ak _).alloc (by simp;omega) _
theorem cI (h:w.heap[b]?=some o) (aO:b≠g) (u:Value):(w.setCell ⟨g,i,none⟩ u).heap[b]?=some o:=(bz _ ⟨g,i,none⟩ _ b aO).trans h
theorem au1 {P:az} (h:(cF P 0).2.2=0):(cF P 0).1.size<=128:=by
 unfold cF at h⊢;split
 ·exact Nat.zero_le _
 ·rename_i hn;rw[if_neg hn]at h;cases hb:nY (eK P 0).1 with
  |none=>exact Nat.zero_le _
  |some far=>
   rw[hb]at h;exact Ti h
def ad5 (w:World) (r:Gs×Int) (e:Ending) (w':World):Prop:=
 ∃A c,e= .returned (.tuple #[.agg #[.int .i64 (r.1.n:Nat),.int .i64 (r.1.area:Nat),.int .i64 (r.1.gen:Nat),.slice A r.1.V.bl.length c,.string r.1.V.rt],.int .i64 r.2])/\(Rd w' A (aZ r.1.V.bl)/\ ∀b o,A=some ⟨b,o,none⟩->w.heap.size<=b)/\aD w w'
theorem Kd (w w':World) (x:Int) (h:aD w w'):ad5 w (mH,x) (.returned (.tuple #[.agg zC,.int .i64 x])) w':=
 ⟨none,0,rfl,⟨Rd.nil _ _,λ_ _ h=>by cases h⟩,h⟩
theorem au2 {e:TypeId} {size:Nat} {A:aN} {m ai:Nat} {xs:bJ} (h:w.ownsRow B e size (.slice A m ai) n xs): ∀b o,A=some ⟨b,o,none⟩->B<=b:=by
 intro b o hA;rcases h.2 with⟨hv,_⟩|⟨g,ja,bK,hv,hB,_⟩
 ·injection hv with e1
  rw[e1]at hA;cases hA
 ·injection hv with e1
  rw[e1]at hA;injection hA with hA
  injection hA with hA
  omega
theorem au3 {P:az} {area:Nat} (hi:i<n):(vS P n area)[i]?=some (kh P ((3+area*n+i:Nat):Int)):=by
 simp[vS,hi]
theorem ag6 (h:P:=by
 go_upto_region 10 with (fail)
 rw[<-PO.out];go_wp2_with fail;refine bodyPost_ret (dJ rfl _ _ (w.heap.size+1) ah _ (GK (GI I8 _ _ _ _ _))) rfl ?_;rw[HE.out];exact Kd _ _ _ (GJ mR ae _ _ _ _ _)):P:=h
theorem ad6 (v:Value) (P:az) (w:World) (h:dT w v P) (hl:P.ss.length<=maxLen) (hR:cX w):
  Calls prog 101 #[v] w (ad5 w (cR P)):=by
 obtain⟨A,n,c,B,m,d,rfl,h⟩:=h;have hn:=h.hn;obtain⟨kp,kx,kc,kb,mo⟩:=au0 w (.cells #[.slice A n c,.slice B m d] 74) (.cells zC 171) (.cells zC 171);have IJ:=aa h;have tM:=aa hR;have HB:=aa kb;have HQ:=aa kp;have HX:=aa kx;have HC:=aa kc;obtain⟨N,hN⟩: ∃N,N=pU P.ss.length:=⟨_,rfl⟩
 have HS:=aa (λW=>auX n W (by rw[hn];exact hl));rw[hn,<-hN,<-hn]at HS;have fj:n<=9223372036854775807:=by rw[hn];exact hl
 obtain⟨q0,q1,_,_⟩:=aV kp;by_cases h0:N=0
 ·have HE:=aa (show cR P=(mH,160) by unfold cR;rw[if_pos (by rw[<-hN];exact h0)]);subst h0;clear h hl hR kp kx kc kb hN hn;go_in;go_wp2_with fail;refine (HS _).mono ?_;rintro e w2 ⟨rfl,av⟩;have bT:=aT HX av;have bq:=aX HB av;obtain⟨⟨x0,x1,x2,x3,x4⟩,xf⟩:=jV bT.out;have y0:=xf 0;have y1:=xf 1;have y2:=xf 2;have y3:=xf 3;have y4:=xf 4;clear av q0 q1 xf;go_wp2_with fail;refine bodyPost_ret (dJ rfl _ _ (w.heap.size+1) ah _ (GK (GI bT _ _ _ _ _))) rfl ?_;rw[HE.out];exact Kd _ _ _ (GJ bq ae _ _ _ _ _)
 obtain⟨jJ,sB,rv,EE⟩:=acV (m:=P.ss.length) (by rw[<-hN];exact h0);rw[<-hN]at jJ sB rv EE;have qY:decide (N≠0)=true:=decide_eq_true h0;rw[qY]at HS;obtain⟨r,hr⟩: ∃r,r=cF P 0:=⟨_,rfl⟩
 have HG:=aa (λ(W:World) (hW:PB W A n B m P)=>DU A B n c m d P 0 W hW ae);rw[<-hr]at HG;have Hr:=aa hr;have HN:=aa hN;have ZM:=aa jJ;have zc:=aa (show r.2.2=0->r.1.size<=128 from λhe=>by rw[hr]at he⊢;exact au1 he);obtain⟨s,there,er⟩:=r;simp only at HG zc;have HO:=aa (show cR P=if er≠0 then (mH,er) else if there=false\/(gj s).ok=false then (mH,160) else if ks (yi P)=false then (mH,160) else if iQ (yi P).bl≠(yi P).rt then (mH,161) else (⟨N,(gj s).gen,(gj s).area,yi P⟩,0) by
  unfold cR;rw[<-hr,<-hN,if_neg h0])
 clear h hl hR kp kx kc kb hN jJ qY hr hn;have PA:N<=64:=rv;go_in;go_wp2_with fail;refine (HS _).mono ?_;rintro e w2 ⟨rfl,av⟩;have bT:=aT HX av;have nM:=aT HQ av;have qB:=aT HC av;have bq:=aX HB av;clear av q0 q1;have di:=bt qB 0 (.int .i64 (N:Nat));simp only[List.setIfInBounds_toArray,List.set_cons_zero,List.set_cons_succ]at di;have Q7:=aa di;have jb:=aa (cI (g:=w.heap.size+1+1) (i:=0) bT ae (.int .i64 (N:Nat)));have CY:=aa (cI (g:=w.heap.size+1+1) (i:=0) nM ae (.int .i64 (N:Nat)));have cj:=aa (bq.setCell (p:=⟨w.heap.size+1+1,0,none⟩) (by show w.heap.size<=w.heap.size+1+1;omega) (.int .i64 (N:Nat)));obtain⟨_,cf⟩:=jV qB.out;have cf0:=cf 0;obtain⟨⟨c0,c1,c2,c3,c4⟩,_⟩:=jV qB.out;obtain⟨q0,q1,_,_⟩:=aV CY.out;clear di cf HX HQ HC bT nM qB;go_wp2_with fail;refine (HG _ (IJ.below cj)).mono ?_;rintro e w4 ⟨rfl,aP⟩;have nF:=aT jb aP;have Qv:=aT CY aP;have uB:=aT Q7 aP;have dD:=aX cj aP;clear aP q0 q1 c0 c1 c2 c3 c4 cf0;by_cases dO:er=0
 ·subst dO;have Hs:=aa (zc rfl);have Y6:=aa (λW=>auU s W (by have:=Hs.out;omega));obtain⟨H,hH⟩: ∃H,H=gj s:=⟨_,rfl⟩
  rw[<-hH]at Y6 HO;have HH:=aa hH;obtain⟨gen,area,root,ok⟩:=H;simp only at Y6 HO;clear hH;have d1:((0:Int) !=0)=false:=rfl;go_wp2_with fail;refine (Y6 _).mono ?_;rintro e w5 ⟨rfl,aY⟩;have xp:=aT nF aY;have CM:=aT Qv aY;have Bi:=aT uB aY;have jz:=aX dD aY;clear aY nF Qv uB dD bq;obtain⟨⟨c0,c1,c2,c3,c4⟩,cf⟩:=jV Bi.out;have cf1:=cf 1;have cf2:=cf 2;have cf4:=cf 4;have di:=bt (bt (bt Bi 2 (.int .i64 (gen:Nat))) 1 (.int .i64 (area:Nat))) 4 (.string root);simp only[List.setIfInBounds_toArray,List.set_cons_zero,List.set_cons_succ]at di;obtain⟨w6,qZ⟩: ∃w6,w6=((w5.setCell ⟨w.heap.size+1+1,2,none⟩ (.int .i64 (gen:Nat))).setCell ⟨w.heap.size+1+1,1,none⟩ (.int .i64 (area:Nat))).setCell ⟨w.heap.size+1+1,4,none⟩ (.string root):=⟨_,rfl⟩
  have PO:=aa qZ;have I8:=aa (cI (g:=w.heap.size+1+1) (i:=4) (cI (g:=w.heap.size+1+1) (i:=1) (cI (g:=w.heap.size+1+1) (i:=2) xp ae (.int .i64 (gen:Nat))) ae (.int .i64 (area:Nat))) ae (.string root));have HQ6:=aa (cI (g:=w.heap.size+1+1) (i:=4) (cI (g:=w.heap.size+1+1) (i:=1) (cI (g:=w.heap.size+1+1) (i:=2) CM ae (.int .i64 (gen:Nat))) ae (.int .i64 (area:Nat))) ae (.string root));have eT:w.heap.size<=w.heap.size+1+1:=ae;have mR:=aa (((jz.setCell (p:=⟨w.heap.size+1+1,2,none⟩) eT (.int .i64 (gen:Nat))).setCell (p:=⟨w.heap.size+1+1,1,none⟩) eT (.int .i64 (area:Nat))).setCell (p:=⟨w.heap.size+1+1,4,none⟩) eT (.string root));rw[<-qZ]at di I8 HQ6 mR;have WJ:=aa di;obtain⟨⟨x0,x1,x2,x3,x4⟩,xf⟩:=jV I8.out;have y0:=xf 0;have y1:=xf 1;have y2:=xf 2;have y3:=xf 3;have y4:=xf 4;obtain⟨⟨k0,k1,k2,k3,k4⟩,_⟩:=jV di;clear di qZ cf xf xp CM Bi jz c0 c3;cases there with
  |false=>
   have HE:=aa (show cR P=(mH,160) by rw[HO.out,if_neg ak,if_pos (.inl rfl)]);exact ag6
  |true=>
  cases ok with
  |false=>
   have HE:=aa (show cR P=(mH,160) by rw[HO.out,if_neg ak,if_pos (.inr rfl)]);exact ag6
  |true=>
  obtain⟨Dr,rx,bQ,xq⟩:=acW (s:=s) (by rw[<-HH.out]);rw[<-HH.out]at rx bQ xq;simp only at rx bQ xq;have IM:=acY (P:=P) (by rw[<-Hr.out]) (by rw[<-Hr.out]);have La:=aa IM.1;have HV:=aa (show yi P=⟨vS P N area,root⟩ by
   unfold yi;rw[<-HN.out,<-Hr.out,<-HH.out])
  have dl:=aa (show cR P=if ks ⟨vS P N area,root⟩=false then (mH,160) else if iQ (vS P N area)≠root then (mH,161) else (⟨N,gen,area,⟨vS P N area,root⟩⟩,0) by
   rw[HO.out,if_neg ak,if_neg ak,HV.out])
  obtain⟨bl,lQ⟩: ∃bl,bl=vS P N area:=⟨_,rfl⟩
  rw[<-lQ]at dl;have Zg:=aa lQ;clear Dr xq IM lQ;go_upto_region 10 with (fail)
  rw[<-PO.out];go_wp2_with fail;go_loopw [58] (λx wr=> ∃(i:Nat) (A2:aN) (ai:Nat),i<=N/\x= .int .i64 (i:Nat)/\bj wr w.heap.size #[.slice A n c,.slice B m d] 74/\bj wr (w.heap.size+1) zC 171/\bj wr (w.heap.size+1+1) #[.int .i64 (N:Nat),.int .i64 (area:Nat),.int .i64 (gen:Nat),.slice A2 i ai,.string root] 171/\wr.ownsRow w.heap.size 9 1 (.slice A2 i ai) i (aZ (bl.take i))/\aD w wr) (λx _=>N -(intOf x).toNat);case atStart=>exact⟨0,none,0,ae,rfl,HQ6,I8,WJ,⟨rfl,.inl ⟨rfl,rfl⟩⟩,mR⟩
  case round=>
   clear x0 x1 x2 x3 x4 y0 y1 y2 y3 y4 k0 k1 k2 k3 k4;obtain⟨i,A2,ai,hi,rfl,hQ,hX,hC,hO,hB⟩:=hrel;have HQ:=aa hQ;have HX:=aa hX;have HC:=aa hC;have IQ:=aa hO;have HB:=aa hB;clear hQ hX hC hO hB;by_cases aK:i<N
   ·have e1:decide ((i:Int)<(N:Int))=true:=(by simp;omega);obtain⟨st,dE⟩: ∃st,st=kh P ((3+area*N+i:Nat):Int):=⟨_,rfl⟩
    have tP:=aa (show bl.take (i+1)=bl.take i++ [st] by
     rw[List.take_add_one,Zg.out,au3 aK,<-dE];rfl)
    have Iq:3+area*N+i<P.ss.length:=by
     have h:=(asU (area:=area) (n:=N) (i:=i) ae aK).2;rw[ZM.out];exact h
    have dw:eK P ((3+area*N+i:Nat):Int)=(st,0):=(by rw[dE];exact arM La Iq);have K1:Hid (∀y:bM wr,Calls prog 180 #[.agg #[.int .i64 (N:Nat),.int .i64 (area:Nat)],.int .i64 (area:Nat),.int .i64 (i:Nat)] y.x λe w'=>e= .returned (.int .i64 ((3+area*N+i:Nat):Int))/\ ∃z:bM wr,w'=z.x):=aa λy=>lS (ad3 N area area i y.x ae ae ae);have K2:Hid (∀y:bM wr,Calls prog 145 #[.agg #[.slice A n c,.slice B m d],.int .i64 ((3+area*N+i:Nat):Int)] y.x λe w'=>e= .returned (.tuple #[.string st,.int .i64 0])/\ ∃z:bM wr,w'=z.x):=aa λy=>lS (by
     have h:=DT (.agg #[.slice A n c,.slice B m d]) P ((3+area*N+i:Nat):Int) y.x ⟨A,n,c,B,m,d,rfl,IJ.below (HB.trans (y.ok.mono HB.size))⟩;rw[dw]at h;exact h)
    obtain⟨c0,c1,c2,c3,c4⟩:=(jV HC).1;obtain⟨q0,q1,_,_⟩:=aV HQ.out;have EY: ∀y:bM wr,y.x.cell? ⟨w.heap.size+1+1,0,none⟩=some (.int .i64 (N:Nat)):=λy=>y.cell c0;have PZ: ∀y:bM wr,y.x.cell? ⟨w.heap.size+1+1,1,none⟩=some (.int .i64 (area:Nat)):=λy=>y.cell c1;have XP: ∀y:bM wr,y.x.cell? ⟨w.heap.size,0,none⟩=some (.slice A n c):=λy=>y.cell q0;have Qa: ∀y:bM wr,y.x.cell? ⟨w.heap.size,1,none⟩=some (.slice B m d):=λy=>y.cell q1;have d3:((0:Int) !=0)=false:=rfl;clear c0 c1 c2 c3 c4 q0 q1 dE Iq dw;generalize 3+area*N+i=ix at K1 K2;go_wp2_with fail;refine rC ax ax ?_;repeat (go_big_quiet_step (first|with_reducible exact K1.out _|with_reducible exact K2.out _))
    refine wpQuiet_nil ?_;rintro _ ⟨y,rfl⟩;have qB:=aa (aJ HC y.ok);have bT:=aa (aJ HX y.ok);have nM:=aa (aJ HQ y.ok);have gX:=aa (eO IQ y.ok);have bq:=aa (HB.trans (y.ok.mono HB.size));have HF:=aa (mC qB gX au);have YE:=aa (mC bT gX au);have Zy:=aa (mC nM gX au);have c3:=(jV qB).1.2.2.2.1;clear EY PZ XP Qa K1 K2;go_wp2_with (at_builtin;refine oS ah (.tmp 79) (.tmp 81) 28 ah w.heap.size 9 (.string ⟨#[]⟩) 1 16 underlying28 mx rfl ae y.x _ _ _ _ _ ah gX _ 1 1 ah ah ah ah ae ae ae (by exact bq.size) ?_);intro g4 qy w4 kg aP jZ _ _;have K8:=(jZ (w.heap.size+1+1) (bf qB) HF).trans qB.out;have L8:=(jZ (w.heap.size+1) (bf bT) YE).trans bT.out;have hQ4:=(jZ w.heap.size (bf nM) Zy).trans nM.out;have uB:=aa K8;have nF:=aa L8;have Qv:=aa hQ4;have iu:=aa kg;have dD:=aa (bq.trans aP);have c3:=(jV K8).1.2.2.2.1;have cf3:=(jV K8).2 3;have G8:=aa (mC uB iu au);have di:=bt K8 3 (.slice (aw g4) (i+1) qy);simp only[List.setIfInBounds_toArray,List.set_cons_zero,List.set_cons_succ]at di;have Bi:=aa di;clear kg aP jZ K8 L8 hQ4 di;go_wp2;go_roundw;case rel=>exact⟨i+1,some ⟨g4,0,none⟩,qy,ae,by go_num,cI Qv ae _,cI nF ae _,Bi,by rw[tP.out,BG];exact ownsRow_setCell_other iu (λe=>G8.out e.symm) _,dD.setCell (p:=⟨w.heap.size+1+1,3,none⟩) (by show w.heap.size<=w.heap.size+1+1;omega) _⟩
    case measure=>exact cM
   ·obtain rfl:i=N:=ae;have e1:decide ((i:Int)<(i:Int))=false:=ak;have tP:=aa (show bl.take i=bl by rw[List.take_of_length_le];rw[Zg.out,TG];exact aM _);have akf:=aa (show bl.length=i by rw[Zg.out,TG]);rw[tP.out]at IQ;obtain⟨c0,c1,c2,c3,c4⟩:=(jV HC).1;have L5:=aa (show VV wr (.agg #[.slice A2 i ai,.string root]) ⟨bl,root⟩ from⟨A2,i,ai,rfl,gz IQ,akf.symm⟩);have wS:=aa (λW h=>Uc (.agg #[.slice A2 i ai,.string root]) ⟨bl,root⟩ W h);have lg:=aa (tM.below HB);cases fg:ks ⟨bl,root⟩ with
    |false=>
     rw[fg]at wS;have HE:=aa (show cR P=(mH,160) by rw[dl.out,if_pos fg]);clear fg;go_wp2_with fail;refine (wS _ L5).mono ?_;rintro e w7 ⟨rfl,cJ⟩;have zb:=aa (aJ HX cJ);have wW:=aX HB cJ;clear cJ c0 c1 c2 c3 c4;obtain⟨⟨x0,x1,x2,x3,x4⟩,xf⟩:=jV zb.out;have y0:=xf 0;have y1:=xf 1;have y2:=xf 2;have y3:=xf 3;have y4:=xf 4;clear xf;go_wp2_with fail;refine bodyPost_ret (dJ rfl _ _ (w.heap.size+1) ah _ (GK (GI zb _ _ _ _ _))) rfl ?_;rw[HE.out];exact Kd _ _ _ (GJ wW ae _ _ _ _ _)
    |true=>
     rw[fg]at wS;have kB:=aa (λW h1 h3=>ad4 (.agg #[.slice A2 i ai,.string root]) ⟨bl,root⟩ W h1 fg h3);simp only at kB;rw[if_neg (by rw[fg];simp)]at dl;by_cases ll:iQ bl=root
     ·rw[decide_eq_true ll]at kB;have HE:=aa (show cR P=(⟨i,gen,area,⟨bl,root⟩⟩,0) by rw[dl.out,if_neg (by simpa using ll)]);clear fg ll;go_wp2_with fail;refine (wS _ L5).mono ?_;rintro e w7 ⟨rfl,cJ⟩;have zb:=aa (aJ HX cJ);have IW:=aa (aJ HC cJ);have Xo:=aa (eO IQ cJ);have wW:=aX HB cJ;have Yj:=aa (L5.below cJ);have LO:=aa (lg.below cJ);clear cJ c0 c1 c2 c3 c4;obtain⟨c0,c1,c2,c3,c4⟩:=(jV IW).1;go_wp2_with fail;refine (kB _ Yj LO).mono ?_;rintro e w8 ⟨rfl,cG⟩;have IZ:=aa (aJ zb cG);have HC8:=aa (aJ IW cG);have X9:=aa (eO Xo cG);have ze:=aX wW cG;have YE:=aa (mC IZ X9 au);clear cG c0 c1 c2 c3 c4;obtain⟨c0,c1,c2,c3,c4⟩:=(jV HC8).1;obtain⟨⟨x0,x1,x2,x3,x4⟩,xf⟩:=jV IZ.out;have y0:=xf 0;have y1:=xf 1;have y2:=xf 2;have y3:=xf 3;have y4:=xf 4;clear xf;go_wp2_with fail;refine bodyPost_ret (dJ rfl _ _ (w.heap.size+1) ah _ (GK (GI IZ _ _ _ _ _))) rfl ?_;rw[HE.out];have aO: ∀b o,A2=some ⟨b,o,none⟩->w.heap.size+1≠b:=λb o e h=>YE.out (by rw[e,h];rfl);refine⟨A2,ai,?_,⟨?_,au2 X9⟩,GJ ze ae _ _ _ _ _⟩
      ·show _=Ending.returned (.tuple #[.agg #[.int .i64 (i:Nat),.int .i64 (area:Nat),.int .i64 (gen:Nat),.slice A2 bl.length ai,.string root],.int .i64 0]);rw[akf.out];rfl
      ·exact tj (tj (tj (tj (tj (gz X9) aO _) aO _) aO _) aO _) aO _
     ·rw[decide_eq_false ll]at kB;have HE:=aa (show cR P=(mH,161) by rw[dl.out,if_pos ll]);clear fg ll;go_wp2_with fail;refine (wS _ L5).mono ?_;rintro e w7 ⟨rfl,cJ⟩;have zb:=aa (aJ HX cJ);have IW:=aa (aJ HC cJ);have wW:=aX HB cJ;have Yj:=aa (L5.below cJ);have LO:=aa (lg.below cJ);clear cJ c0 c1 c2 c3 c4;obtain⟨c0,c1,c2,c3,c4⟩:=(jV IW).1;go_wp2_with fail;refine (kB _ Yj LO).mono ?_;rintro e w8 ⟨rfl,cG⟩;have IZ:=aa (aJ zb cG);have ze:=aX wW cG;clear cG c0 c1 c2 c3 c4;obtain⟨⟨x0,x1,x2,x3,x4⟩,xf⟩:=jV IZ.out;have y0:=xf 0;have y1:=xf 1;have y2:=xf 2;have y3:=xf 3;have y4:=xf 4;clear xf;go_wp2_with fail;refine bodyPost_ret (dJ rfl _ _ (w.heap.size+1) ah _ (GK (GI IZ _ _ _ _ _))) rfl ?_;rw[HE.out];exact Kd _ _ _ (GJ ze ae _ _ _ _ _)
 ·have HE:=aa (show cR P=(mH,er) by rw[HO.out,if_pos dO]);have d1:(er !=0)=true:=by simpa using dO
  obtain⟨⟨x0,x1,x2,x3,x4⟩,xf⟩:=jV nF.out;have y0:=xf 0;have y1:=xf 1;have y2:=xf 2;have y3:=xf 3;have y4:=xf 4;clear xf dO;go_wp2_with fail;refine bodyPost_ret (dJ rfl _ _ (w.heap.size+1) ah _ (GK (GI nF _ _ _ _ _))) rfl ?_;rw[HE.out];exact Kd _ _ _ (GJ dD ae _ _ _ _ _)
theorem Ug {P:az} (h:(cR P).2≠0):(cR P).1=mH:=by
 unfold cR at h⊢;split at h
 ·rename_i h0;rw[if_pos h0]
 rename_i h0;rw[if_neg h0];split at h
 ·rename_i h1;rw[if_pos h1]
 rename_i h1;rw[if_neg h1];split at h
 ·rename_i h2;rw[if_pos h2]
 rename_i h2;rw[if_neg h2];split at h
 ·rename_i h3;rw[if_pos h3]
 rename_i h3;rw[if_neg h3];split at h
 ·rename_i h4;rw[if_pos h4]
 ·exact absurd rfl h
theorem pZ (h:w.heap[b]?=some o) (o':Obj):(w.alloc o').heap[b]?=some o:=(Below.heap_alloc _ _ _ (bf h)).trans h
theorem pq (w:World) (o1 o2:Obj):((w.alloc o1).alloc o2).heap[w.heap.size]?=some o1/\((w.alloc o1).alloc o2).heap[w.heap.size+1]?=some o2/\aD w ((w.alloc o1).alloc o2)/\((w.alloc o1).alloc o2).heap.size=w.heap.size+2:=by
 have h2:=aR (w.alloc o1) o2;simp only[World.size_alloc]at h2;exact⟨pZ (aR w o1) _,h2,((aI _ _).alloc (aM _) _).alloc ak _,ak⟩
def ad7 (w:World) (r:Gs×Int) (e:Ending) (w':World):Prop:=
 ∃A c,e= .returned (.tuple #[.agg #[.slice A r.1.V.bl.length c,.string r.1.V.rt],.int .i64 (r.1.gen:Nat),.int .i64 r.2])/\(Rd w' A (aZ r.1.V.bl)/\ ∀b o,A=some ⟨b,o,none⟩->w.heap.size<=b)/\aD w w'
theorem Uh (v:Value) (P:az) (w:World) (h:dT w v P) (hl:P.ss.length<=maxLen) (hR:cX w):
  Calls prog 53 #[v] w (ad7 w (cR P)):=by
 obtain⟨A,n,c,B,m,d,rfl,h⟩:=h;obtain⟨kp,kx,kb,mo⟩:=pq w (.cells #[.slice A n c,.slice B m d] 74) (.cells #[ay,.string ⟨#[]⟩] 80);have HP:=aa (h.below kb);have HR:=aa (hR.below kb);have HB:=aa kb;have HX:=aa kx;have HSz:=aa mo;have uM:=aa (λW h1 h2=>ad6 (.agg #[.slice A n c,.slice B m d]) P W h1 hl h2);have Hn:=aa (λh=>Ug (P:=P) h);obtain⟨r,hr⟩: ∃r,r=cR P:=⟨_,rfl⟩
 rw[<-hr]at uM Hn⊢;obtain⟨⟨N,gen,area,⟨bl,rt⟩⟩,er⟩:=r;simp only at uM Hn;obtain⟨q0,q1,_,_⟩:=aV kp;clear h hl hR kp kx kb mo hr;go_in;go_wp2_with fail;refine (uM _ ⟨_,_,_,_,_,_,rfl,HP⟩ HR).mono ?_;rintro e w2 ⟨A2,c2,rfl,⟨dw,C3⟩,av⟩;simp only at dw⊢;have bT:=aT HX av;have bq:=aX HB av;have aL:=be w2 (.cells #[.int .i64 (N:Nat),.int .i64 (area:Nat),.int .i64 (gen:Nat),.slice A2 bl.length c2,.string rt] 171);have jb:=aT bT aL;have Q7:=aa (aR w2 (.cells #[.int .i64 (N:Nat),.int .i64 (area:Nat),.int .i64 (gen:Nat),.slice A2 bl.length c2,.string rt] 171));have cj:=aX bq aL;have XQ:=aa (dw.below aL);have zg:=aa (show∀b o,A2=some ⟨b,o,none⟩->w.heap.size+2<=b from λb o e=>by have h1:=C3 b o e;rw[HSz.out]at h1;exact h1);obtain⟨w3,fo⟩: ∃w3,w3=w2.alloc (.cells #[.int .i64 (N:Nat),.int .i64 (area:Nat),.int .i64 (gen:Nat),.slice A2 bl.length c2,.string rt] 171):=⟨_,rfl⟩
 have Fh:=aa fo;rw[<-fo]at jb Q7 cj XQ;clear av aL dw C3 q0 q1 bT bq fo;go_upto_region 2 with fail
 rw[<-Fh.out];obtain⟨x0,x1,x2,x3⟩:=aV jb.out;obtain⟨⟨c0,c1,oH,c3,c4⟩,_⟩:=jV Q7.out;by_cases dO:er=0
 ·subst dO;have d1:((0:Int) !=0)=false:=rfl;go_upto_region 4 with fail
  go_region_law (fail);all_goals
   go_wp2_with fail
   (try simp only[Exit.inBlock,Exit.then])
   refine bodyPost_ret (BZ rfl _ _ (w.heap.size+1) ah _ (AI (El (t:=80) jb _ _))) rfl ?_
   refine⟨A2,c2,rfl,⟨?_,λb o e=>by have:=zg.out b o e;omega⟩,?_⟩
   ·first
    |exact tj (tj XQ (λb o e h=>by have:=zg.out b o e;omega) _) (λb o e h=>by have:=zg.out b o e;omega) _
    |exact (tj (g:=w.heap.size+1) (i:=1) (tj (g:=w.heap.size+1) (i:=0) XQ (λb o e h=>by have:=zg.out b o e;omega) (.slice A2 bl.length c2)) (λb o e h=>by have:=zg.out b o e;omega) (.string rt)).below ya3
   ·first
    |exact dL cj ae _ _
    |exact (dL (g:=w.heap.size+1) cj ae (.slice A2 bl.length c2) (.string rt)).drew
 ·have d1:(er !=0)=true:=by simpa using dO
  have qf:=Hn.out dO;simp only[mH,D4,Gs.mk.injEq,dW.mk.injEq]at qf;have uE:=aa qf;clear dO qf;go_wp2_with fail;(try simp only[Exit.inBlock,Exit.then]);refine bodyPost_ret (BZ rfl _ _ (w.heap.size+1) ah _ (AI (El jb _ _))) rfl ?_;obtain⟨h1,h2,h3,h4,h5⟩:=uE.out;refine⟨none,0,?_,⟨?_,λ_ _ h=>by cases h⟩,dL cj ae _ _⟩
  ·simp only[h2,h4,h5];rfl
  ·simp only[h4];exact Rd.nil _ _
end
open Go
variable {a:Act} {cB:Nat} {cq:Array Bool} {oi:Oper} {rs:List Nat} {w:World}
section
variable {P:Program} {bk:Array Oper} {Q:Exit->Act->World->Prop} {md:Region.Mode} {S:World->Prop}
theorem hT {v:Value} (i:Nat) (hi:bk[i]?=some oi) (hb:(Region.noSelect bk&&Region.free md bk cq i&&(Region.ready md bk cq).contains i)=true) (hQ: ∀c a w,Q (.panic c) (a.put oi.dst v) w->Q (.panic c) a w) (hg:Region.wanted oi (yielded bk a.tmps)=true) (hS:S w) (hy: ∀w,S w->(execOp a.eval oi).run P w= .ok (.value v) w) (h:wpAnyH P md bk Q S cB (cq.setIfInBounds i true) (a.put oi.dst v) w):wpAnyH P md bk Q S (cB+1) cq a w:=by
 simp only[Bool.and_eq_true]at hb;exact wpAnyH_take hi hb.1.1 hb.1.2 hb.2 hQ (.inl ⟨hg,hy⟩) hS h
def jE (P:Program) (md:Region.Mode) (bk:Array Oper) (Q:Exit->Act->World->Prop) (S:World->Prop) (cB:Nat) (cq:Array Bool) (a:Act) (w:World) (rs:List Nat):Prop:=
 ∀i∈rs,wpOp P bk Q i (λa' w'=>S w'/\wpAnyH P md bk Q S cB (cq.setIfInBounds i true) a' w') a w
theorem jE.nil:jE P md bk Q S cB cq a w []:=λ_ h=>by cases h
theorem jE.cons {i:Nat} (ho:bk[i]?=some oi) (h: ∀K:Act->World->Prop,Hid (∀a' w',S w'->(S w'->wpAnyH P md bk Q S cB (cq.setIfInBounds i true) a' w')->K a' w')->if Region.wanted oi (yielded bk a.tmps)=true then Oper.wp P oi a w K Q else K (a.put oi.dst undef) w) (hs:jE P md bk Q S cB cq a w rs):jE P md bk Q S cB cq a w (i::rs):=λj hj=>by
 rcases List.mem_cons.1 hj with rfl|hj
 ·have:=h (λa' w'=>S w'/\wpAnyH P md bk Q S cB (cq.setIfInBounds j true) a' w') (aa (λa' w' hS hW=>⟨hS,hW hS⟩))
  unfold wpOp
  simp only[ho]
  split
  ·rename_i hw;rw[if_pos hw]at this;exact .inl this
  ·rename_i hw;rw[if_neg hw]at this;exact this
 ·exact hs j hj
theorem yB (hr:Region.ready md bk cq=rs) (aO:rs≠ []) (h:jE P md bk Q S cB cq a w rs):wpAnyH P md bk Q S (cB+1) cq a w:=wpAnyH_all hr aO h
theorem hV {v:Value} {G:Prop} (i:Nat) (hi:bk[i]?=some oi) (hS:S w) (hy: ∀w,S w->(execOp a.eval oi).run P w= .ok (.value v) w) (h:G) (hb:(Region.noSelect bk&&Region.free md bk cq i&&(Region.ready md bk cq).contains i)=true:=by kernel_rfl) (hQ: ∀c a w,Q (.panic c) (a.put oi.dst v) w->Q (.panic c) a w:=by exact λ_ _ _ h=>h) (hg:Region.wanted oi (yielded bk a.tmps)=true:=by rfl) (e:wpAnyH P md bk Q S cB (cq.setIfInBounds i true) (a.put oi.dst v) w=G:=by first|(simp only[Act.put,List.setIfInBounds_toArray,List.set_cons_zero,List.set_cons_succ];exact rfl)|exact rfl):wpAnyH P md bk Q S (cB+1) cq a w:=
 hT i hi hb hQ hg hS hy (e.symm▸h)
theorem Km {id:Nat} (hm:P.follows .mixedOrders=true) (hS:S w.drew) (h:S w.drew->wpAnyH P .any bk Q S bk.size (Array.replicate bk.size false) a w.drew):(Code.region id bk true).wp P Q a w:=wp_region_held hm (h hS)
end
end Go.Proofs.YtaglcaocpcbiiaaGreatDoor
