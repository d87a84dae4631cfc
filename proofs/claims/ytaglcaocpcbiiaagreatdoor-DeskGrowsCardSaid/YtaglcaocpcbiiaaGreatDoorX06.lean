import Derived.Test.YtaglcaocpcbiiaaGreatDoorX03
import Derived.Test.YtaglcaocpcbiiaaGreatDoorX04
set_option linter.unusedVariables false
set_option linter.unusedSimpArgs false
set_option maxRecDepth 100000
set_option maxHeartbeats 3000000
namespace Go.Proofs.YtaglcaocpcbiiaaGreatDoor
open Go.Proofs.Tryz Go.RowKit
section
variable {P:Prop} {n:Nat} {s:aF} {vs:List Nat}
def J':aF:= [97,98,99,100,101,102,103,104,105,106,107,108,109,110,111,112,113,114,115,116,117,118,119,120,121,122,50,51,52,53,54,55]
def ur (x:Nat):UInt8:=J'.getD x 0
def Gv (s:aF):List Nat:=s.map (·.toNat)
def vT (s:aF):List Nat:=jo 8 (Gv s)++List.replicate ((5 - 8*s.length % 5)% 5) 0
def Cj (s:aF):List Nat:=Gu 5 (vT s)
def vU (s:aF):aF:=(Cj s).map ur
structure vV (s:aF) (vs:List Nat) (n c:Nat):Prop where
 digits:jo 8 (Gv s)=jo 5 vs++iR c n
 small:n<2^c
 vals: ∀v∈vs,v<2^5
theorem as0 {c:Nat} (h:vV s vs n c) (x:UInt8):vV (s++ [x]) vs (n*2^8+x.toNat) (c+8):=by
 have hx:=x.toNat_lt;refine⟨?_,?_,h.vals⟩
 ·rw[Gv,List.map_append,List.map_cons,List.map_nil,J9,J8 c 8 n x.toNat hx,<-List.append_assoc,<-h.digits];rfl
 ·rw[Nat.pow_add];have:=h.small;have h2:(n+1)*2^8<=2^c*2^8:=Nat.mul_le_mul_right _ this;rw[Nat.add_mul]at h2;omega
theorem agM (h:P:=by
 intro v hv;rcases List.mem_append.1 hv with hv|hv
 ·exact h.vals v hv
 ·simp at hv;rw[hv];exact aK):P:=h
theorem ac' {c:Nat} (h:vV s vs n c) (hc:5<=c):vV s (vs++ [n / 2^(c - 5)]) (n % 2^(c - 5)) (c - 5)/\n / 2^(c - 5)<32:=by
 have hs:=h.small;have e:c=5+(c - 5):=ae;have aK:n / 2^(c - 5)<2^5:=by
  rw[Nat.div_lt_iff_lt_mul (Nat.two_pow_pos _),<-Nat.pow_add,<-e];exact hs
 refine⟨⟨?_,Nat.mod_lt _ (Nat.two_pow_pos _),?_⟩,aK⟩
 ·rw[J9,List.append_assoc,<-ac5 5 (c - 5) n (by rw[<-e];exact hs),<-e];exact h.digits
 ·exact agM
theorem ND {c:Nat} (h:vV s vs n c):8*s.length=5*vs.length+c:=by
 have:=congrArg List.length h.digits;rw[uq,dx,uq,Aw,Gv,kQ]at this;exact this
theorem as1 {c:Nat} (h:vV s vs n c) (hc:c=0):vs=Cj s:=by
 subst hc;have hl:=ND h;rw[Cj,vT,show (5 - 8*s.length % 5)% 5=0 by omega,h.digits];simp only[iR,List.append_nil,List.replicate_zero];have:=TM 5 ae vs [] h.vals au;rw[List.append_nil]at this;exact this.symm
theorem as2 {c:Nat} (h:vV s vs n c) (h0:0<c) (hc:c<5):vs++ [n*2^(5 - c)]=Cj s:=by
 have hl:=ND h;have hb:=J8 c (5 - c) n 0 (Nat.two_pow_pos _);rw[show c+(5 - c)=5 by omega,ac4,Nat.add_zero]at hb;have mN:n*2^(5 - c)<2^5:=by
  have h1:(n+1)*2^(5 - c)<=2^c*2^(5 - c):=Nat.mul_le_mul_right _ h.small;rw[<-Nat.pow_add,show c+(5 - c)=5 by omega,Nat.add_mul]at h1;have:=Nat.two_pow_pos (5 - c);omega
 rw[Cj,vT,show (5 - 8*s.length % 5)% 5=5 - c by omega,h.digits,List.append_assoc,<-hb,<-J9];have:=TM 5 ae (vs++ [n*2^(5 - c)]) [] (by
  intro v hv;rcases List.mem_append.1 hv with hv|hv
  ·exact h.vals v hv
  ·simp at hv;rw[hv];exact mN) au
 rw[List.append_nil]at this;exact this.symm
def TN (w:World) (R:Nat):Nat:=match w.cell? ⟨R,1,none⟩ with
 |some (.int _ n)=>n.toNat
 |_=>0
theorem TO {w:World} {R c:Nat} (h:kM w R n c):TN w R=c:=by
 unfold TN;rw[h.cells.2.1];simp
def TP:Value->Nat
 | .bool true=>1
 |_=>0
def ada (s:aF) (B b R:Nat) (x ok:Value) (w:World):Prop:=
 (∃(vs:List Nat) (v n c:Nat),x= .int .i64 (v:Int)/\ok= .bool true/\v<32/\vV s (vs++ [v]) n c/\c<=7/\kM w R n c/\gC w B b (vs.map ur))\/
 (∃(vs:List Nat) (n c:Nat),x= .int .i64 0/\ok= .bool false/\vV s vs n c/\c<5/\kM w R n c/\gC w B b (vs.map ur))
theorem adb (v:Nat) (h:v<(⟨#[97,98,99,100,101,102,103,104,105,106,107,108,109,110,111,112,113,114,115,116,117,118,119,120,121,122,50,51,52,53,54,55]⟩:ag).size):
  (⟨#[97,98,99,100,101,102,103,104,105,106,107,108,109,110,111,112,113,114,115,116,117,118,119,120,121,122,50,51,52,53,54,55]⟩:ag)[v]'h=ur v:=by
 have h2:v<J'.length:=h;show J'[v]'h2=ur v;rw[ur,dh,cL h2];rfl
theorem Gw {c:Nat} (h:c<=12):2^c<=4096:=by
 have:2^c<=2^12:=Nat.pow_le_pow_right ae h;omega
set_option maxRecDepth 100000 in
theorem af6 (h:P:=by
 have:=aR (w.alloc (.cells #[.pointer none,ay] 36)) (.cells #[.int .i64 0,.int .i64 0] 373);rw[World.size_alloc,<-hR]at this;exact this):P:=h
theorem ahz (h:P:=by
 rw[hb];exact M4 (Sq (aM _)) ((aI _ _).alloc (aM _) _)):P:=h
theorem as3 (s:ag) (w:World) (hs:s.size<=1000000):
  Calls prog 274 #[.string s] w (bF w (.string (bs (vU s.data.toList)))):=by
 go_in;go_wp2_with fail;obtain⟨b,hb⟩: ∃b,b=w.heap.size:=⟨_,rfl⟩
 obtain⟨R,hR⟩: ∃R,R=w.heap.size+1:=⟨_,rfl⟩
 have zN:R≠b:=ae;have Dj:w.heap.size<=R:=ae;have kD:gC ((w.alloc (.cells #[.pointer none,ay] 36)).alloc (.cells #[.int .i64 0,.int .i64 0] 373)) w.heap.size b []:=by
  exact ahz
 have uQ:kM ((w.alloc (.cells #[.pointer none,ay] 36)).alloc (.cells #[.int .i64 0,.int .i64 0] 373)) R 0 0:=by
  exact af6
 have xC:aD w ((w.alloc (.cells #[.pointer none,ay] 36)).alloc (.cells #[.int .i64 0,.int .i64 0] 373)):=((aI _ _).alloc (aM _) _).alloc ak _;simp only[<-hR];generalize (w.alloc (.cells #[.pointer none,ay] 36)).alloc (.cells #[.int .i64 0,.int .i64 0] 373)=w1 at kD uQ xC⊢;have ts:=aa kD;have wX:=aa uQ;clear hR kD uQ;rw[<-hb];clear hb;go_loopw [14] (λi wr=> ∃(k:Nat) (vs:List Nat) (n c:Nat),k<=s.size/\i= .int .i64 k/\vV (s.data.toList.take k) vs n c/\c<5/\kM wr R n c/\gC wr w.heap.size b (vs.map ur)/\aD w wr) (λi _=>s.size -(intOf i).toNat);case atStart=>exact⟨0,[],0,0,ae,rfl,⟨rfl,au,ak⟩,ae,wX,ts,xC⟩
 case round=>
  obtain⟨k,vs,n,c,hk,rfl,hT,hc,zl,K5,cP⟩:=hrel;have HT:=aa hT;have HR:=aa zl;have HB:=aa K5;clear hT zl K5;by_cases aK:k<s.size
  ·have hx:=s[k].toNat_lt;have hn:n<4096:=jY HT.small (Gw ae);go_wp2_with fail;refine (TJ R n c s[k].toNat 8 wr HR hn ae ae hx).mono ?_;rintro e w2 ⟨rfl,EH,fp⟩;have j1:=aa (show vV (s.data.toList.take (k+1)) vs (n*2^8+s[k].toNat) (c+8) by
    rw[List.take_succ_eq_append_getElem (by rw[bP];exact aK)];exact as0 HT s[k])
   have bq:=aa (DM HB fp HR au zN);have jc:=aa EH;replace cP:=cP.trans (gZ fp Dj cP.size);clear EH fp HT HB HR;generalize su:n*2^8+s[k].toNat=n2 at j1 jc;have Zr:n2<4096:=jY j1.small (Gw ae);clear su;go_wp2_with fail;refine (NC R n2 (c+8) 5 w2 jc Zr ae ae).mono ?_;rintro e w3 ⟨rfl,zq,oE⟩;obtain⟨O',tw⟩:=ac' j1 ae;have hP:ada (s.data.toList.take (k+1)) w.heap.size b R (.int .i64 ((n2 / 2^(c+8 - 5):Nat):Int)) (.bool true) w3:= .inl ⟨vs,_,_,_,rfl,rfl,tw,O',ae,zq,DM bq oE jc au zN⟩;have HP:=aa hP;replace cP:=cP.trans (gZ oE Dj cP.size);clear hP zq oE O' tw;generalize n2 / 2^(c+8 - 5)=v at HP⊢;go_wp2_with fail;obtain⟨wo,sy⟩: ∃wo:World,wo=w3:=⟨_,rfl⟩
   rw[<-sy]at HP cP⊢;clear sy;go_loopw [8,9] (λx ok wi=>ada (s.data.toList.take (k+1)) w.heap.size b R x ok wi/\aD w wi) (λx ok wi=>TN wi R+TP ok);case atStart=>exact⟨HP,cP⟩
   case round=>
    obtain⟨hP,yX⟩:=hrel;clear cP;rcases hP with⟨vs,v,n,c,rfl,rfl,hv,hT,hc7,Mh,rk⟩|⟨vs,n,c,rfl,rfl,hT,Fk,Mh,rk⟩
    ·have HT:=aa hT;have HR:=aa Mh;have HB:=aa rk;have ey:=ND hT;have hvl:vs.length<=10000000:=(by simp at ey;omega);have mX:(v:Int)<32:=ae;clear hT Mh rk ey;go_wp2_with fail;rw[adb];refine (M5 w.heap.size b (vs.map ur) (ur v) wr HB (by simp;omega) yX.size).mono ?_;rintro e w4 ⟨rfl,kY,aP,hO4⟩;have rf:kM w4 R n c:=JI hO4 HR au zN;have dD:Hid (gC w4 w.heap.size b ((vs++ [v]).map ur)):=(by rw[List.map_append];exact kY);have nP:=aa rf;have aY:=yX.trans aP;have Hrc:=aa (TO HR);have hn:n<4096:=jY HT.small (Gw ae);clear kY aP hO4 rf;go_wp2_with fail;by_cases h5:5<=c
     ·refine (NC R n c 5 w4 nP hn ae h5).mono ?_;rintro e w6 ⟨rfl,hR6,hG6⟩;obtain⟨hT6,W8⟩:=ac' HT h5;have mR:=aa (DM dD hG6 nP au zN);have bO:=aY.trans (gZ hG6 Dj aY.size);have HR6:=aa hR6;have HT6:=aa hT6;clear hR6 hG6 hT6;go_wp2;go_roundw;case rel=>exact⟨.inl ⟨_,_,_,_,rfl,rfl,W8,HT6,ae,HR6,mR⟩,bO⟩
      case measure=>rw[Hrc.out,TO HR6.out];simp[TP];omega
     ·refine (ac0 R n c 5 w4 nP ae).mono ?_;rintro e w6 ⟨rfl,rfl⟩;go_wp2;go_roundw;case rel=>exact⟨.inr ⟨_,_,_,rfl,rfl,HT,ae,nP,dD⟩,aY⟩
      case measure=>rw[Hrc.out,TO nP.out];simp[TP]
    ·have HT:=aa hT;have HR:=aa Mh;have HB:=aa rk;clear hT Mh rk;go_wp2_with fail;exact⟨⟨k+1,vs,n,c,ae,by go_num,HT,Fk,HR,HB,yX⟩,by simp[intOf];omega⟩
  ·have Do:s.data.toList.take k=s.data.toList:=List.take_of_length_le (by rw[bP];omega);rw[Do]at HT;obtain⟨c0,c1,f0,f1⟩:=HR.cells;have ey:=ND HT.out;have hn:n<4096:=jY HT.small (Gw ae);clear Do;by_cases kE:c=0
   ·subst kE;have He:=aa (as1 HT rfl);clear ey;go_wp2_with fail;refine (JJ w.heap.size b _ wr HB cP.size).mono ?_;rintro e w4 ⟨rfl,aP⟩;go_wp2;go_ret;exact⟨by rw[vU,<-He.out];rfl,cP.trans aP⟩
   ·have zo:0<c:=ae;have He:=aa (as2 HT zo hc);have zc:=aa (HT.small);have hvl:vs.length<=10000000:=(by rw[bP]at ey;omega);obtain⟨m,hm⟩: ∃m,m=5 - c:=⟨_,rfl⟩
    have akY:(5:Int)-(c:Int)=(m:Int):=ae;rw[<-hm]at He;clear ey kE;have Hm:=aa hm;clear hm;go_wp2_with fail;refine (TJ R n c 0 m wr HR hn ae (by have:=Hm.out;omega) (Nat.two_pow_pos m)).mono ?_;rintro e w2 ⟨rfl,EH,fp⟩;rw[Nat.add_zero,show c+m=5 by have:=Hm.out;omega]at EH;have aK:n*2^m<32:=by
     have h1:(n+1)*2^m<=2^c*2^m:=Nat.mul_le_mul_right _ zc.out;rw[<-Nat.pow_add,show c+m=5 by have:=Hm.out;omega,Nat.add_mul]at h1;have:=Nat.two_pow_pos m;omega
    have bq:=aa (DM HB fp HR au zN);have jc:=aa EH;replace cP:=cP.trans (gZ fp Dj cP.size);clear EH fp c0 c1 f0 f1;generalize n*2^m=x at He aK jc;go_wp2_with fail;refine (NC R x 5 5 w2 jc ae ae ae).mono ?_;rintro e w3 ⟨rfl,zq,oE⟩;rw[show x / 2^(5 - 5)=x by simp];have cj:=aa (DM bq oE jc au zN);replace cP:=cP.trans (gZ oE Dj cP.size);clear zq oE;have mX:(x:Int)<32:=ae;go_wp2_with fail;rw[adb];refine (M5 w.heap.size b (vs.map ur) (ur x) w3 cj (by simp;omega) cP.size).mono ?_;rintro e w4 ⟨rfl,kY,aP,hO4⟩;have dD:=aa kY;replace cP:=cP.trans aP;clear kY aP hO4;go_wp2_with fail;refine (JJ w.heap.size b _ w4 dD cP.size).mono ?_;rintro e w5 ⟨rfl,aY⟩;go_wp2;go_ret;refine⟨?_,cP.trans aY⟩;rw[vU,<-He.out,List.map_append];rfl
end
section
open Go.Shelf
variable {B b:Nat}
section
attribute [local go_sem] Oper.semAt_some
abbrev ym:= {b:ag // 1<=b.size/\b.size<=5}
def Gx (l:aF) (i:Nat):ym:=
 if h:1<=((l.drop (5*i)).take 5).length/\((l.drop (5*i)).take 5).length<=5 then ⟨bs ((l.drop (5*i)).take 5),h⟩ else ⟨bs [0],au⟩
theorem as4 {l:aF} {i:Nat} (h:5*i<l.length):(Gx l i).1=bs ((l.drop (5*i)).take 5):=by
 have:1<=((l.drop (5*i)).take 5).length/\((l.drop (5*i)).take 5).length<=5:=by
  rw[List.length_take,List.length_drop];omega
 simp only[Gx,this,and_self,dif_pos]
def Az (l:aF) (k:Nat):List ym:=(List.range k).map (Gx l)
theorem as5 (l:aF) (k:Nat):Az l (k+1)=Az l k++ [Gx l k]:=by simp[Az,List.range_succ]
theorem adc (l:aF) (k:Nat):(Az l k).length=k:=by simp[Az]
set_option maxHeartbeats 1000000 in
theorem as6 (F:Fence) (n:Nat) (hf:F.fn 324) (mn:F.round=none) (hn:1<=n) (l Bs N:Nat) (s:ag) (hs:s.size<=1000000) (hN:N=(s.size+4)/ 5) (J Jx:List ym->World->Prop) (hY: ∀aQ x W,J aQ W->aQ.length<N->YieldAt F (n - 1) prog l #[.string x.1] W λe W'=>
   (e= .returned (.bool true)/\J (aQ++ [x]) W'/\rG [Bs] W W')\/(e= .returned (.bool false)/\Jx (aQ++ [x]) W')) (W:World) (LE:W.cell? ⟨Bs,0,none⟩=some (.string s)) (h0:J [] W):
  CallsIn F n prog 324 #[.func (.yield l) #[] #[],.pointer (aw Bs)] W λe W'=>(∃v,e= .returned v)/\
   ((∃ys,ys=Az s.data.toList N/\J ys W')\/(∃aQ,True/\Jx aQ W')):=by
 have HY:=aa hY;have HN:=aa hN;clear hY hN;refine callsIn_of_wp func324 rfl hf ?_ mn;simp only[ntmps324,List.size_toArray,List.length_cons,List.length_nil,Nat.reduceAdd,Nat.reduceSub,Array.replicate_succ,Array.replicate_zero,List.push_toArray,List.append_toArray,List.nil_append,List.cons_append];gi_wp2;gi_loopw [3] (λv wr=> ∃(k:Nat),k<=N/\v= .int .i64 ((5*k:Nat):Int)/\wr.cell? ⟨Bs,0,none⟩=some (.string s)/\J (Az s.data.toList k) wr) (λv _=>5000000 -(intOf v).toNat);case atStart=>exact⟨0,ae,rfl,LE,h0⟩
 case round=>
  obtain⟨k,hk,rfl,CZ,hJ⟩:=hrel;by_cases aK:k<N
  ·obtain⟨i,hi⟩: ∃i,i=5*k:=⟨_,rfl⟩
   have bB:i<s.size:=(by have:=HN.out;omega);obtain⟨P7,hh⟩: ∃h,h=min (i+5) s.size:=⟨_,rfl⟩
   have hm:min ((i:Int)+5) (s.size:Int)=(P7:Int):=ae;have hx:(Gx s.data.toList k).1=s.extract i P7:=by
    rw[as4 (by rw[bP];omega),lR,<-hi,List.drop_take];congr 1;apply List.take_eq_take_iff.2;rw[List.length_drop,bP];omega
   have h1:(i:Int)<=(P7:Int):=ae;have h2:(P7:Int)<=(s.size:Int):=ae;obtain⟨fn,tmps,assign,body,hy,hR⟩:=HY.out _ (Gx s.data.toList k) wr hJ (by rw[adc];exact aK);rw[hx]at hy;have HR:=aa hR;have Hi:=aa hi;rw[<-hi];clear hR hx hh hi;gi_wp2;refine HR.mono ?_;rintro e W3 (⟨rfl,hJ3,jx⟩|⟨rfl,hJx3⟩)
   ·have Lf:W3.cell? ⟨Bs,0,none⟩=some (.string s):=(fB (jx Bs ak)).trans CZ;gi_wp2;go_roundw;case rel=>exact⟨k+1,ae,by rw[Hi.out];go_num,Lf,by rw[as5];exact hJ3⟩
    case measure=>have:=Hi.out;simp[intOf];omega
   ·exact OJ
  ·obtain rfl:k=N:=ae;have jy: ¬(((5*k:Nat):Int)<(s.size:Int)):=by have:=HN.out;omega
   have aFj: ¬(5*k<s.size):=(by have:=HN.out;omega);gi_wp2;go_end0;first|exact⟨⟨_,rfl⟩,.inl hJ⟩|exact⟨⟨_,rfl⟩,.inl ⟨_,rfl,hJ⟩⟩
theorem as7 (F:Fence) (n:Nat) (hf:F.fn 273) (mn:F.round=none) (s:ag) (w:World):
  CallsIn F n prog 273 #[.string s] w λe w'=>e= .returned (.func (.func 324) #[] #[.pointer (some ⟨w.heap.size,0,none⟩)])/\w'=w.alloc (.cells #[.string s] 9):=by
 refine callsIn_of_wp func273 rfl hf ?_ mn;simp only[ntmps273,List.size_toArray,List.length_cons,List.length_nil,Nat.reduceAdd,Nat.reduceSub,Array.replicate_succ,Array.replicate_zero,List.push_toArray,List.append_toArray,List.nil_append,List.cons_append];exact G1
def yn (aQ:List ym):aF:=aQ.foldl (λcH p=>if 0<cH.length then cH++ [45]++p.1.data.toList else cH++p.1.data.toList) []
theorem as8 (aQ:List ym) (x:ym):yn (aQ++ [x])=if 0<(yn aQ).length then yn aQ++ [45]++x.1.data.toList else yn aQ++x.1.data.toList:=by simp[yn]
theorem TQ: ∀(aQ:List ym) (cH:aF),(aQ.foldl (λcH p=>if 0<cH.length then cH++ [45]++p.1.data.toList else cH++p.1.data.toList) cH).length<=cH.length+6*aQ.length
 | [],cH=>ak
 |x::aQ,cH=>by
  refine bD (TQ aQ _) ?_;have hx:=x.2.2;have hl:=bP x.1;simp only[List.length_cons];split
  ·simp only[dx,List.length_cons,List.length_nil];omega
  ·simp only[dx];omega
def te (s:aF):aF:=yn (Az (vU (s++(jA s).take 3)) (((vU (s++(jA s).take 3)).length+4)/ 5))
theorem as9 (B b:Nat) (f:List ym->List UInt8):Own (λaQ W=>gC W B b (f aQ)):=λs A B' row hs hg hr=>by
 refine Sr hs (hg.block b (JH hs).1 (λe=>?_)) (λg cs fz hh=>hg.block g (bf hh) (λe=>?_))
 ·obtain⟨o,ho,hc⟩:=hr b e.symm;have: ∃cs t fr,A.heap[b]?=some (.cells cs t fr):=by
   rcases hs with⟨_,v,hb,_⟩|⟨_,v,hb,_⟩<;>exact⟨_,_,_,hb⟩
  obtain⟨cs,t,fr,h⟩:=this;rw[h]at ho;exact OR
 ·obtain⟨o,ho,hc⟩:=hr g e.symm;rw[hh]at ho;exact OR
theorem as' (b:Nat) (o:List ym->Array Value) (t:TypeId):Own (λaQ W=>W.heap[b]?=some (.cells (o aQ) t (0,0))):=λs A B row hs hg hr=>by
 exact Ox
theorem ata {w:World} {l:aF} (h:gC w B b l): ∃cs t fr,w.heap[b]?=some (.cells cs t fr):=by
 rcases h with⟨_,v,hb,_⟩|⟨_,v,hb,_⟩<;>exact⟨_,_,_,hb⟩
theorem TR {W W':World} {l:aF} (h:gC W B b l) (ho:Lib.OthersKept 5 (some b) W W') (hs:W.heap.size<=W'.heap.size):KeepsOthers W W':=
 ⟨hs,λk o hk hc=>ho k o hk (λe=>by
  obtain rfl:=bW e;obtain⟨cs,t,fr,hb⟩:=ata h;rw[hk]at hb;obtain rfl:=bW hb;cases hc) (λc fz e=>by subst e;cases hc)⟩
set_option maxHeartbeats 1000000 in
theorem ahB {P:Prop} (h:P:=by
 rw[vT,dx,uq,sd,Gv,kQ];omega):P:=h
theorem ade (s:ag) (w:World) (hR:cX w) (hs:s.size<=200):
  Calls prog 214 #[.string s] w (bF w (.tuple #[.string (bs (te s.data.toList)),.int .i64 0])):=by
 have HR:=aa hR;have Me:=aa (FT s.data.toList);refine (callsIn_wide (n:=3)).1 ?_;refine callsIn_of_wp_marks func214 rfl trivial ?_ rfl;simp only[ntmps214,List.size_toArray,List.length_cons,List.length_nil,Nat.reduceAdd,Nat.reduceSub,Array.replicate_succ,Array.replicate_zero,List.push_toArray,List.append_toArray,List.nil_append,List.cons_append];have wH:(bs (jA s.data.toList)).size=32:=Me.out;gi_wp2_with fail;refine⟨trivial,?_⟩;refine (callsIn_wide.2 (FS s _ (HR.below ((aI _ _).alloc (aM _) _)) ae)).mono ?_;rintro e w2 ⟨rfl,av⟩;have mi:gC w2 w.heap.size w.heap.size []:=M4 (Sq (aM _)) av;have sn:aD w w2:=jX (aI _ _) av;have HB:=aa mi;have HW:=aa sn;gi_wp2_with fail;refine⟨trivial,?_⟩;have PX:=aa (show (s++(bs (jA s.data.toList)).extract 0 3).data.toList=s.data.toList++(jA s.data.toList).take 3 by
  rw[lR];simp[bs])
 have Wk:(s++(bs (jA s.data.toList)).extract 0 3).size<=1000:=by
  rw[<-bP,PX.out,dx,bP,List.length_take];omega
 generalize s++(bs (jA s.data.toList)).extract 0 3=t at PX Wk⊢;refine (callsIn_wide.2 (as3 t w2 ae)).mono ?_;rintro e w3 ⟨rfl,aL⟩;replace HB:=aa (M4 HB aL);replace HW:=aa (bg HW aL);have j':w.heap.size<w3.heap.size:=(JH HB).1;have mp:(bs (vU t.data.toList)).size<=10000:=by
  rw[ei,vU,kQ];have h1:=ac8 5 (vT t.data.toList);have h2:(vT t.data.toList).length<=8*t.data.toList.length+5:=by
   exact ahB
  rw[bP]at h2;rw[Cj];omega
 generalize aK:bs (vU t.data.toList)=ls at mp⊢;have Hlt:=aa aK;gi_wp2_with (refine⟨trivial,?_⟩;gi_at_call 273;refine (as7 Fence.wide _ trivial rfl _ _).mono ?_;rintro e w4 ⟨rfl,rfl⟩);obtain⟨Bw,fK⟩: ∃B,B=w3.heap.size:=⟨_,rfl⟩
 have h5:=aR w3 (.cells #[.string ls] 9);have kY:=M4 HB ((aI _ w3).alloc (aM _) (.cells #[.string ls] 9));have za:=HW.alloc HW.size (.cells #[.string ls] 9);have cg:(w3.alloc (.cells #[.string ls] 9)).heap.size=Bw+1:=by simp[fK]
 simp only[<-fK]at h5 j'⊢;generalize w3.alloc (.cells #[.string ls] 9)=w4 at h5 kY za cg⊢;obtain⟨N,hN⟩: ∃N,N=(ls.size+4)/ 5:=⟨_,rfl⟩
 have Qh:N<=3000:=ae;refine wpIn_rangeFunc_ownF rfl ae (gf:=324) (lb:= #[.pointer (aw Bw)]) rfl trivial (enters_of func324 ax rfl)
  (encs:=λx:ym=> #[.string x.1]) (Kp:=rG [Bw]) (S:=λys=>ys=Az ls.data.toList N) (Sp:=λ_=>True) (N:=N) (w0:=w4)
  (λl J Jx W hW _ _ hY h0=>as6 Fence.wide 2 trivial rfl ae l Bw N ls ae hN J Jx hY W (cell_of_one (aJ h5 hW)) h0)
  Jl (Jm (by simp[cg])) (aI _ _) (λ_=>rfl)
  (λaQ W=>gC W w.heap.size w.heap.size (yn aQ)/\bj W Bw #[.string ls] 9/\aD w W)
  (λ_ _ _=>False)
  (OwnFrom.and (Own.from (as9 _ _ _) _) (OwnFrom.and (Own.from (as' _ (λ_=> #[.string ls]) _) _) (ownFrom_below (aM _) ae)))
  (λ_ _ _ _ _ hs _ _=>hs)
  ⟨kY,h5,za⟩ ?a1 ?assign ?body ?done ?stop
 case assign=>
  intro l x W K hK;gi_wp2;exact hK
 case body=>
  rintro l aQ x W ⟨hB,hw,cP⟩ ey;have hdl:(yn aQ).length<=20000:=by
   have:=TQ aQ [];have e:(yn aQ).length<=0+6*aQ.length:=this;omega
  have dG:=aa (as8 aQ x);have Wo:=x.2.2;have HB:=aa hB;have Hw:=aa hw;have hd:1<=3 - 1 - 1:=ae;gi_wp2_with fail;refine⟨trivial,?_⟩;refine (CallsIn.inRound l (callsIn_wide.2 (abn w.heap.size w.heap.size _ W HB))).mono ?_;rintro e w5 ⟨rfl,rfl⟩;generalize hdp:yn aQ=dp at HB dG hdl⊢;by_cases h0:0<dp.length
  ·rw[if_pos h0]at dG;gi_wp2_with fail;refine⟨trivial,?_⟩;refine (CallsIn.inRound l (callsIn_wide.2 (Ss w.heap.size w.heap.size dp 45 ae W HB ae cP.size))).mono ?_;rintro e w6 ⟨rfl,Bu,bO,nB⟩;have mR:=aa Bu;have aij:=cP.trans bO;have qZ:=JI nB Hw au ae;have Hk6:=aa (TR HB nB bO.size);have PO:=aa qZ;gi_wp2_with fail;refine⟨trivial,?_⟩;refine (CallsIn.inRound l (callsIn_wide.2 (St w.heap.size w.heap.size _ x.1 w6 mR (by simp;omega) aij.size))).mono ?_;rintro e w7 ⟨rfl,zp,cJ,AW⟩;have ZL:=JI AW PO au ae;have I7:=Hk6.trans (TR mR AW cJ.size);have wW:=aa zp;have LS:=aa ZL;have VM:=aa I7;gi_wp2_with fail;refine⟨VM,λb hb=>?_,?_,LS,aij.trans cJ⟩
   ·obtain rfl:b=Bw:=(by simpa using hb);rw[LS.out,Hw.out]
   ·rw[dG.out];exact wW.out
  ·rw[if_neg h0]at dG;gi_wp2_with fail;refine⟨trivial,?_⟩;refine (CallsIn.inRound l (callsIn_wide.2 (St w.heap.size w.heap.size _ x.1 W HB ae cP.size))).mono ?_;rintro e w7 ⟨rfl,zp,cJ,AW⟩;have ZL:=JI AW Hw au ae;have I7:=TR HB AW cJ.size;have wW:=aa zp;have LS:=aa ZL;have VM:=aa I7;gi_wp2_with fail;refine⟨VM,λb hb=>?_,?_,LS,cP.trans cJ⟩
   ·obtain rfl:b=Bw:=(by simpa using hb);rw[LS.out,Hw.out]
   ·rw[dG.out];exact wW.out
 case done=>
  rintro D ys W hD rfl ⟨hB,hw,cP⟩ hK;have HB:=aa hB;have HK:=aa hK;gi_wp2_with fail;refine⟨trivial,?_⟩;refine (callsIn_wide.2 (apw w.heap.size w.heap.size _ W HB cP.size)).mono ?_;rintro e w7 ⟨rfl,cJ,AW⟩;have QP:=aa (AW D _ HK (by intro e;have:=bW e;omega) (λ_ _ e=>by cases e));gi_wp2_with fail;refine⟨ak,.inl ⟨_,_,rfl,run_takeDeferred QP,?_⟩⟩;refine⟨_,results_tmp2 rfl _ _ _,?_,(cP.trans cJ).trans (belowK_b (w:=w) (aM _) _ D _ _ ae QP rfl rfl)⟩;have e:vU t.data.toList=ls.data.toList:=by rw[<-Hlt.out];rfl
  rw[te,<-PX.out,e,bP];rfl
 case stop=>
  rintro D c aQ W _ _ h _;exact h.elim
end
end
section
variable {P:Prop} {j8 ws:List Nat} {n:Nat} {s w:aF}
def vW (c:UInt8):Int:=Lib.indexByte J' c
def pW (w:aF):List Nat:=w.map λc=>(vW c).toNat
def ut (w:aF):Bool:=w.all λc=>decide (0<=vW c)
def TS (w:aF):Bool:=decide (5*w.length % 8<5)&&decide (yk ((jo 5 (pW w)).drop (8*(5*w.length / 8)))=0)
def AB (w:aF):Option (aF):=if ut w&&TS w then some ((Gu 8 (jo 5 (pW w))).map UInt8.ofNat) else none
def rT (code:Int):Option (aF)->Value
 |some l=> .tuple #[.string (bs l),.int .i64 0]
 |none=> .tuple #[.string (bs []),.int .i64 code]
theorem adf: ∀(l:aF) (c:UInt8),Lib.indexByte l c<l.length
 | [],c=>by simp[Lib.indexByte]
 |b::l,c=>by
  have ih:=adf l c;unfold Lib.indexByte;split
  ·simp<;>omega
  ·split
   ·simp<;>omega
   ·simp<;>omega
theorem atb (c:UInt8):vW c<32:=adf J' c
structure Ck (ws j8:List Nat) (n c:Nat):Prop where
 digits:jo 5 ws=jo 8 j8++iR c n
 small:n<2^c
 vals: ∀v∈j8,v<2^8
theorem atc {c:Nat} (h:Ck ws j8 n c) (x:Nat) (hx:x<2^5):Ck (ws++ [x]) j8 (n*2^5+x) (c+5):=by
 refine⟨?_,?_,h.vals⟩
 ·rw[J9,J8 c 5 n x hx,<-List.append_assoc,<-h.digits]
 ·rw[Nat.pow_add];have h2:(n+1)*2^5<=2^c*2^5:=Nat.mul_le_mul_right _ h.small;rw[Nat.add_mul]at h2;omega
theorem atd {c:Nat} (h:Ck ws j8 n c) (hc:8<=c):Ck ws (j8++ [n / 2^(c - 8)]) (n % 2^(c - 8)) (c - 8)/\n / 2^(c - 8)<256:=by
 have hs:=h.small;have e:c=8+(c - 8):=ae;have aK:n / 2^(c - 8)<2^8:=by
  rw[Nat.div_lt_iff_lt_mul (Nat.two_pow_pos _),<-Nat.pow_add,<-e];exact hs
 refine⟨⟨?_,Nat.mod_lt _ (Nat.two_pow_pos _),?_⟩,aK⟩
 ·rw[J9,List.append_assoc,<-ac5 8 (c - 8) n (by rw[<-e];exact hs),<-e];exact h.digits
 ·exact agM
theorem adg {c:Nat} (h:Ck ws j8 n c):5*ws.length=8*j8.length+c:=by
 have:=congrArg List.length h.digits;rwa [uq,dx,uq,Aw]at this
theorem ate {c:Nat} (h:Ck (pW w) j8 n c) (hc:c<8):
  Gu 8 (jo 5 (pW w))=j8/\TS w=(decide (c<5)&&decide (n=0)):=by
 have hl:=adg h;have sq:(pW w).length=w.length:=by simp[pW]
 rw[sq]at hl;refine⟨?_,?_⟩
 ·rw[h.digits];exact TM 8 ae j8 _ h.vals (by rw[Aw];exact hc)
 ·rw[TS,h.digits,show 5*w.length % 8=c by omega,show 5*w.length / 8=j8.length by omega,<-uq 8 j8,List.drop_left,TK c n h.small]
theorem atf (w:aF) (k:Nat) (h:k<w.length):ut (w.take (k+1))=(ut (w.take k)&&decide (0<=vW w[k]))/\pW (w.take (k+1))=pW (w.take k)++ [(vW w[k]).toNat]:=by
 refine⟨?_,?_⟩
 ·rw[List.take_succ_eq_append_getElem h,ut,List.all_append,<-ut];simp
 ·rw[List.take_succ_eq_append_getElem h,pW,List.map_append,<-pW];rfl
theorem atg (w:aF) (k:Nat) (h:k<w.length) (hx:vW w[k]<0):ut w=false:=by
 rw[ut,List.all_eq_false];exact⟨w[k],dY h,by simp;omega⟩
theorem ath (x:UInt8):((x.toNat:Int)).toNat.toUInt8=x:=ak
theorem ati (x:UInt8) (w:World):
  Calls prog 338 #[.string ⟨#[97,98,99,100,101,102,103,104,105,106,107,108,109,110,111,112,113,114,115,116,117,118,119,120,121,122,50,51,52,53,54,55]⟩,.int .u8 (x.toNat:Int)] w λe w'=>e= .returned (.int .i64 (vW x))/\w=w':=
 (apv _ _ w).mono λe w' ⟨he,hw⟩=>⟨by rw[he,ath];rfl,hw.symm⟩
set_option maxRecDepth 100000 in
theorem adh (s:ag) (w:World) (hs:s.size<=1000000):
  Calls prog 327 #[.string s] w (bF w (rT 100 (AB s.data.toList))):=by
 go_in;go_wp2_with fail;obtain⟨b,hb⟩: ∃b,b=w.heap.size:=⟨_,rfl⟩
 obtain⟨R,hR⟩: ∃R,R=w.heap.size+1:=⟨_,rfl⟩
 have zN:R≠b:=ae;have Dj:w.heap.size<=R:=ae;have kD:gC ((w.alloc (.cells #[.pointer none,ay] 36)).alloc (.cells #[.int .i64 0,.int .i64 0] 373)) w.heap.size b []:=by
  exact ahz
 have uQ:kM ((w.alloc (.cells #[.pointer none,ay] 36)).alloc (.cells #[.int .i64 0,.int .i64 0] 373)) R 0 0:=by
  exact af6
 have xC:aD w ((w.alloc (.cells #[.pointer none,ay] 36)).alloc (.cells #[.int .i64 0,.int .i64 0] 373)):=((aI _ _).alloc (aM _) _).alloc ak _;simp only[<-hR];generalize (w.alloc (.cells #[.pointer none,ay] 36)).alloc (.cells #[.int .i64 0,.int .i64 0] 373)=w1 at kD uQ xC⊢;have ts:=aa kD;have wX:=aa uQ;clear hR kD uQ;rw[<-hb];clear hb;go_loopw [14] (λi wr=> ∃(k:Nat) (j8:List Nat) (n c:Nat),k<=s.size/\i= .int .i64 k/\Ck (pW (s.data.toList.take k)) j8 n c/\ut (s.data.toList.take k)=true/\c<8/\kM wr R n c/\gC wr w.heap.size b (j8.map UInt8.ofNat)/\aD w wr) (λi _=>s.size -(intOf i).toNat);case atStart=>exact⟨0,[],0,0,ae,rfl,⟨rfl,au,ak⟩,rfl,ae,wX,ts,xC⟩
 case round=>
  obtain⟨k,j8,n,c,hk,rfl,hT,hA,hc,zl,K5,cP⟩:=hrel;have HT:=aa hT;have HA:=aa hA;have HR:=aa zl;have HB:=aa K5;clear hT zl K5 hA;by_cases aK:k<s.size
  ·have dG:=aa (atf s.data.toList k (by rw[bP];exact aK));have L9:=aa (atg s.data.toList k (by rw[bP];exact aK));have hn:n<4096:=jY HT.small (Gw ae);go_wp2_with fail;refine (ati s[k] wr).mono ?_;rintro e w2 ⟨rfl,rfl⟩;have aC':=atb s[k];have dG:Hid (ut (s.data.toList.take (k+1))=(ut (s.data.toList.take k)&&decide (0<=vW s[k]))/\pW (s.data.toList.take (k+1))=pW (s.data.toList.take k)++ [(vW s[k]).toNat]):=dG;have L9:Hid (vW s[k]<0->ut s.data.toList=false):=L9;generalize vW s[k]=x at dG L9 aC'⊢;by_cases zK:x<0
   ·go_wp2;go_ret2;refine⟨?_,cP⟩;rw[AB,L9.out zK];rfl
   ·obtain⟨x,rfl⟩:=Int.eq_ofNat_of_zero_le (by omega:0<=x);have hxn:x<32:=ae;go_wp2_with fail;refine (TJ R n c x 5 _ HR hn ae ae hxn).mono ?_;rintro e w3 ⟨rfl,zq,oE⟩;have tv:=aa (show Ck (pW (s.data.toList.take (k+1))) j8 (n*2^5+x) (c+5) by
     rw[dG.2];exact atc HT x hxn)
    have pC:=aa (show ut (s.data.toList.take (k+1))=true by rw[dG.1,HA.out];simp);have cj:=aa (DM HB oE HR au zN);have j3:=aa zq;have aL:=cP.trans (gZ oE Dj cP.size);clear zq oE dG L9;generalize su:n*2^5+x=n2 at tv j3;have Zr:n2<4096:=jY tv.small (Gw ae);clear su;go_wp2_with fail;by_cases h8:8<=c+5
    ·refine (NC R n2 (c+5) 8 w3 j3 Zr ae h8).mono ?_;rintro e w4 ⟨rfl,rf,uP⟩;obtain⟨IU,hv4⟩:=atd tv h8;have HT4:=aa IU;have dD:=aa (DM cj uP j3 au zN);have nP:=aa rf;have aP:=aL.trans (gZ uP Dj aL.size);have WE:j8.length<=10000000:=by
      have:=adg tv.out;simp[pW]at this;omega
     clear rf uP IU;generalize n2 / 2^(c+5 - 8)=v at HT4 hv4;go_wp2_with fail;refine (Ss w.heap.size b (j8.map UInt8.ofNat) v hv4 w4 dD (by simp;omega) aP.size).mono ?_;rintro e w5 ⟨rfl,nI,aY,lK⟩;have jz:Hid (gC w5 w.heap.size b ((j8++ [v]).map UInt8.ofNat)):=(by rw[List.map_append];exact nI);have EL:kM w5 R (n2 % 2^(c+5 - 8)) (c+5 - 8):=JI lK nP au zN;have X8:=aa EL;clear nI lK EL;go_wp2;go_roundw;case rel=>exact⟨k+1,_,_,_,ae,by go_num,HT4,pC,ae,X8,jz,aP.trans aY⟩
     case measure=>exact cM
    ·refine (ac0 R n2 (c+5) 8 w3 j3 ae).mono ?_;rintro e w4 ⟨rfl,rfl⟩;go_wp2;go_roundw;case rel=>exact⟨k+1,_,_,_,ae,by go_num,tv,pC,ae,j3,cj,aL⟩
     case measure=>exact cM
  ·have Do:s.data.toList.take k=s.data.toList:=List.take_of_length_le (by rw[bP];omega);rw[Do]at HT HA;obtain⟨c0,c1,f0,f1⟩:=HR.cells;obtain⟨uT,he2⟩:=ate HT hc;have He1:=aa uT;have Yw:=aa he2;clear Do uT he2;by_cases Fk:c<5
   ·by_cases qv:n=0
    ·subst qv;have hd:decide ((5:Int)<=(c:Int))=false:=(by simp;omega);go_wp2_with fail;refine (JJ w.heap.size b _ wr HB cP.size).mono ?_;rintro e w4 ⟨rfl,aP⟩;go_wp2;go_ret2;refine⟨?_,cP.trans aP⟩;rw[AB,HA.out,Yw.out,He1.out];simp[Fk,rT]
    ·have hd:decide ((5:Int)<=(c:Int))=false:=(by simp;omega);have fL:((n:Int) !=0)=true:=(by rw[bne_iff_ne];omega);go_wp2;go_ret2;refine⟨?_,cP⟩;rw[AB,HA.out,Yw.out];simp[qv,rT];rfl
   ·have hd:decide ((5:Int)<=(c:Int))=true:=(by simp;omega);go_wp2;go_ret2;refine⟨?_,cP⟩;rw[AB,HA.out,Yw.out];simp[Fk,rT];rfl
def AC (l:aF):aF:=l.filter λx=>x !=45
theorem adi {c:UInt8} {i:Nat} (h: ∀k,k<i->s[k]?≠some c):(s.take i).filter (λx=>x !=c)=s.take i:=by
 rw[List.filter_eq_self];intro x hx;obtain⟨k,hk,rfl⟩:=List.mem_iff_getElem.1 hx;have fC:k<i/\k<s.length:=by simp at hk;omega
 have:=h k fC.1;rw[cL fC.2]at this;simp only[List.getElem_take,bne_iff_ne,ne_eq];exact λe=>this (by rw[e])
theorem adj (c:UInt8): ∀(n:Nat) (s:aF),s.length<=n->Lib.replaceK [c] [] (Lib.count s [c]) s=s.filter λx=>x !=c
 |0,s,h=>by
  have:s= []:=List.eq_nil_of_length_eq_zero ae;subst this;have h0:Lib.index [] [c]= -1:=by rw[Lib.index_one];rfl
  rw[Lib.count_miss h0];rfl
 |n+1,s,h=>by
  have jy:=Lib.index_ge s [c];by_cases hm:Lib.index s [c]= -1
  ·rw[Lib.count_miss hm,Lib.replaceK];rw[Lib.index_one]at hm;have:=Lib.indexByte_none hm;have h2:=adi (i:=s.length) (c:=c) (s:=s) (λk _=>this k);rw[List.take_length]at h2;exact h2.symm
  ·obtain⟨i,hi⟩: ∃i:Nat,Lib.index s [c]=i:=⟨(Lib.index s [c]).toNat,ae⟩
   rw[Lib.count_hit ak hi,Nat.add_comm,Lib.replaceK_hit _ _ _ _ i hi];rw[Lib.index_one]at hi;obtain⟨h1,h2⟩:=Lib.indexByte_some hi;obtain⟨aK,he⟩:=List.getElem?_eq_some_iff.1 h1;have ih:=adj c n (s.drop (i+1)) (by rw[List.length_drop];omega);rw[show i+ [c].length=i+1 from rfl,ih,List.append_nil];conv=>rhs;rw[<-List.take_append_drop i s,List.filter_append,adi h2,List.drop_eq_getElem_cons aK,he,List.filter_cons]
   simp
theorem adk (s:aF):Lib.replaceAll s [45] []=AC s:=by
 rw[Lib.replaceAll,Lib.replace,if_neg au,Lib.replaceNum,if_pos (.inl au)];exact adj 45 s.length s (aM _)
theorem atj (s:aF): ∀x∈vT s,x<2:=λx hx=>by
 rcases List.mem_append.1 hx with h|h
 ·exact asY 8 _ x h
 ·rw[(List.mem_replicate.1 h).2];omega
theorem atk (s:aF):(vT s).length % 5=0:=by
 exact ahB
theorem atl (s:aF):jo 5 (Cj s)=vT s:=by
 obtain⟨r,h,hr⟩:=asZ 5 ae (vT s) (atj s);have hl:=congrArg List.length h;have h5:=atk s;rw[dx,uq]at hl;have:r= []:=List.eq_nil_of_length_eq_zero ae;rw[this,List.append_nil]at h;exact h.symm
theorem atm (s:aF):(Cj s).length=(8*s.length+4)/ 5:=by
 have h:=congrArg List.length (atl s);rw[uq,vT,dx,uq,sd,Gv,kQ]at h;omega
theorem atn (s:aF):(vU s).length=(8*s.length+4)/ 5:=by rw[vU,kQ,atm]
theorem ato (s:aF):((jA s).take 3).length=3:=by rw[List.length_take,FT];rfl
def D7 (w:aF):Option (aF):=
 match AB (AC w) with
 |none=>none
 |some b=>if 3<=b.length/\b.length - 3<=200/\te (b.take (b.length - 3))=w then some (b.take (b.length - 3)) else none
theorem atp (h:D7 w=some s):s.length<=200/\te s=w:=by
 unfold D7 at h;split at h
 ·cases h
 ·split at h
  ·rename_i b _ hc;obtain rfl:=bW h;exact⟨by rw[List.length_take];omega,hc.2.2⟩
  ·cases h
theorem atq (s:ag) (w:World) (hs:200<s.size) (sB:s.size<=9223372036854775807):
  Calls prog 214 #[.string s] w (bF w (.tuple #[.string (bs []),.int .i64 2])):=by
 go_in;exact Ew
structure yo (w:World):Prop where
 rounds:cX w
 maxLen: ∃m,w.cell? ⟨2,0,none⟩=some (.int .i64 m)
theorem yo.below {w w':World} (h:yo w) (hb:aD w w'):yo w':=by
 obtain⟨m,hm⟩:=h.maxLen;exact⟨h.rounds.below hb,m,(hb.cell (cU hm)).trans hm⟩
theorem atr (l:aF):(AC l).length<=l.length:=List.length_filter_le _ _
theorem NE (s:ag) (w:World) (hT:yo w) (hs:s.size<=1000000):
  Calls prog 275 #[.string s] w (bF w (rT 100 (D7 s.data.toList))):=by
 have HT:=aa hT;obtain⟨m,hm⟩:=hT.maxLen;have Hm:=aa hm;have hg:D7 s.data.toList=match AB (AC s.data.toList) with
  |none=>none
  |some b=>if 3<=b.length/\b.length - 3<=200/\te (b.take (b.length - 3))=s.data.toList then some (b.take (b.length - 3)) else none:=rfl
 clear hT hm;have hc:=Lib.countB_mul_le (bs [45]) au s.size s (aM _);have ln:=atr s.data.toList;rw[bP]at ln;clear hc;cases hb:AB (AC s.data.toList) with
 |none=>
  rw[hb]at hg;have Hg:=aa hg;have Hb:=aa hb;clear hg hb;go_in;go_wp2_with fail;refine (abm s (bs [45]) (bs []) m w ae Hm au (by rw[ei];simp;omega)).mono ?_;rintro e w1 ⟨rfl,aG⟩;rw[show (⟨(Lib.replaceAll s.data.toList (bs [45]).data.toList (bs []).data.toList).toArray⟩:ag)=bs (AC s.data.toList) by rw[<-adk];rfl];go_wp2_with fail;refine (adh (bs (AC s.data.toList)) w1 (by rw[ei];omega)).mono ?_;rintro e w2 ⟨rfl,av⟩;rw[sD,Hb.out];have HB:=aa (bg aG av);clear aG av;simp only[rT];go_wp2;go_ret2;exact⟨by rw[Hg.out];rfl,HB⟩
 |some b=>
  rw[hb]at hg;have Hg:=aa hg;have Hb:=aa hb;have lQ:b.length<=10000000:=by
   have h:=hb;unfold AB at h;split at h
   ·obtain rfl:=bW h;rw[kQ];refine bD (ac8 8 _) ?_;rw[uq,pW,kQ];omega
   ·cases h
  clear hg hb;go_in;go_wp2_with fail;refine (abm s (bs [45]) (bs []) m w ae Hm au (by rw[ei];simp;omega)).mono ?_;rintro e w1 ⟨rfl,aG⟩;rw[show (⟨(Lib.replaceAll s.data.toList (bs [45]).data.toList (bs []).data.toList).toArray⟩:ag)=bs (AC s.data.toList) by rw[<-adk];rfl];go_wp2_with fail;refine (adh (bs (AC s.data.toList)) w1 (by rw[ei];omega)).mono ?_;rintro e w2 ⟨rfl,av⟩;rw[sD,Hb.out];replace HT:=aa (HT.below (bg aG av));have HB:=aa (bg aG av);clear aG av;simp only[rT];obtain⟨bb,fh⟩: ∃bb,bb=bs b:=⟨_,rfl⟩
  have wH:bb.size=b.length:=by rw[fh,ei]
  have Hbb:=aa fh;rw[<-fh];clear fh;by_cases h3:3<=b.length
  ·have h3':3<=bb.size:=ae;have uN:=aa wH;have aFO:bb.size<=10000000:=ae;obtain⟨k,hk⟩: ∃k,k=bb.size - 3:=⟨_,rfl⟩
   have akY:(bb.size:Int)- 3=(k:Int):=ae;have Hk:=aa hk;have cY:k<=bb.size:=ae;clear wH hk;go_wp2_with fail;have hx:bb.extract 0 k=bs (b.take (b.length - 3)):=by
    rw[lR,List.drop_zero,Hbb.out,sD,Hk.out,uN.out]
   rw[hx];have Il:k=b.length - 3:=(by have:=Hk.out;have:=uN.out;omega);have Pr:=aa Il;clear hx Il;by_cases aBJ:k<=200
   ·refine (ade (bs (b.take (b.length - 3))) w2 HT.rounds (by rw[ei,List.length_take];have:=Pr.out;omega)).mono ?_;rintro e w3 ⟨rfl,aL⟩;replace HB:=aa (bg HB aL);clear aL;rw[sD];by_cases he:te (b.take (b.length - 3))=s.data.toList
    ·rw[show bs (te (b.take (b.length - 3)))=s by rw[he];rfl];go_wp2;go_ret2;refine⟨?_,HB⟩;rw[Hg.out,if_pos ⟨h3,by have:=Pr.out;omega,he⟩];rfl
    ·have aO:((bs (te (b.take (b.length - 3)))).toList==s.toList)=false:=zU λe=>he (by rw[<-e];rfl);go_wp2;go_ret2;refine⟨?_,HB⟩;rw[Hg.out,if_neg (λh=>he h.2.2)];rfl
   ·refine (atq (bs (b.take (b.length - 3))) w2 (by rw[ei,List.length_take];have:=Pr.out;omega) (by rw[ei,List.length_take];omega)).mono ?_;rintro e w3 ⟨rfl,aL⟩;replace HB:=aa (bg HB aL);clear aL;go_wp2;go_ret2;refine⟨?_,HB⟩;rw[Hg.out,if_neg (λh=>aBJ (by have:=Pr.out;omega))];rfl
  ·have h3':bb.size<3:=ae;clear wH;go_wp2;go_ret2;refine⟨?_,HB⟩;rw[Hg.out,if_neg (λh=>h3 h.1)];rfl
def D8 (x:Int) (b:aF):Value:= .agg #[.int .i64 x,.string (bs b)]
def D9 (x:Int) (b:aF):Option (aF):=if 1<=x/\x<=255/\b.length=32 then some (te (UInt8.ofNat x.toNat::b)) else none
def Ka (w:aF):Option (Int×List UInt8):=
 match D7 w with
 |some s=>if s.length=33/\s.getD 0 0≠0 then some (((s.getD 0 0).toNat:Int),s.drop 1) else none
 |none=>none
def AD (code:Int):Option (Int×List UInt8)->Value
 |some (x,b)=> .tuple #[D8 x b,.int .i64 0]
 |none=> .tuple #[D8 0 [],.int .i64 code]
theorem ats (x:Int) (h0:0<=x) (h1:x<=255):x=((UInt8.ofNat x.toNat).toNat:Int):=by
 obtain⟨n,rfl⟩:=Int.eq_ofNat_of_zero_le h0;simp;omega
set_option maxRecDepth 100000 in
theorem Vk (h:P:=by
 go_in;go_wp2;go_ret2;exact⟨by rw[mU.out,if_neg ae];rfl,(aI _ _).alloc (aM _) _⟩):P:=h
theorem att (x:Int) (b:ag) (w:World) (hR:cX w) (hb:b.size<=9223372036854775807):
  Calls prog 127 #[.agg #[.int .i64 x,.string b]] w (bF w (rT 1 (D9 x b.data.toList))):=by
 have HR:=aa hR;clear hR;have jh:D9 x b.data.toList=if 1<=x/\x<=255/\b.size=32 then some (te (UInt8.ofNat x.toNat::b.data.toList)) else none:=rfl;have mU:=aa jh;clear jh;by_cases h1:x<1
 ·exact Vk
 ·by_cases h2:255<x
  ·have d1:decide (x<1)=false:=by simp;omega
   exact Vk
  ·have d1:decide (x<1)=false:=by simp;omega
   have d2:decide (255<x)=false:=(by simp;omega);by_cases h3:b.size=32
   ·have d3:((b.size:Int) !=32)=false:=(by simp[h3]);have VL:1<=x:=ae;have KM:x<=255:=ae;have hx:=ats x ae ae;obtain⟨c,hc⟩: ∃c,c=UInt8.ofNat x.toNat:=⟨_,rfl⟩
    rw[<-hc]at hx;have il:(convert 34 9 (.slice (some ⟨w.heap.size+1,0,none⟩) 1 1)).run prog ((w.alloc (.cells #[.int .i64 x,.string b] 101)).alloc (.cells #[.int .u8 x] 5))= .ok (.string (bs [c])) ((w.alloc (.cells #[.int .i64 x,.string b] 101)).alloc (.cells #[.int .u8 x] 5)):=by
     refine DF ?_ 1 1 rfl;have:=jk (w.alloc (.cells #[.int .i64 x,.string b] 101)) 5 #[.int .u8 x] (w.heap.size+1) ak;rw[hx]at this⊢;exact this
    have Hc:=aa hc;have ES:=aa h3;have ky:b.size<=32:=ae;have gu:(bs [c]).size<=1:=aM 1;clear hx hc h1 h2 h3 hb;go_in;go_wp2_with fail;have Hd:=aa (show (bs [c]++b).data.toList=c::b.data.toList by simp[bs]);have cg:(bs [c]++b).size=33:=by
     rw[<-bP,Hd.out,List.length_cons,bP,ES.out]
    refine (ade (bs [c]++b) _ (HR.below (((aI _ _).alloc (aM _) _).alloc ak _)) ae).mono ?_;rintro e w2 ⟨rfl,av⟩;rw[Hd.out];have cP:=Jd av;clear av il;go_wp2;go_ret2;exact⟨by rw[mU.out,if_pos ⟨VL,KM,ES.out⟩,<-Hc.out];rfl,cP⟩
   ·have d3:((b.size:Int) !=32)=true:=(by rw[bne_iff_ne];omega);exact Vk
theorem atu (s:ag) (w:World) (hT:yo w) (hs:s.size<=1000000):
  Calls prog 216 #[.string s] w (bF w (AD 100 (Ka s.data.toList))):=by
 have HT:=aa hT;clear hT;have hg:Ka s.data.toList=match D7 s.data.toList with
  |some s=>if s.length=33/\s.getD 0 0≠0 then some (((s.getD 0 0).toNat:Int),s.drop 1) else none
  |none=>none:=rfl
 cases hr:D7 s.data.toList with
 |none=>
  rw[hr]at hg;have Hg:=aa hg;have Hr:=aa hr;clear hg hr;go_in;go_wp2_with fail;refine (NE s _ (HT.below ((aI _ _).alloc (aM _) _)) hs).mono ?_;rintro e w2 ⟨rfl,av⟩;rw[Hr.out];simp only[rT];have H1:=aa (vq av);have cP:=jX (aI _ _) av;clear av;have hz:w2.heap[w.heap.size]?=some (.cells #[.int .i64 0,.string (bs [])] 101 (0,0)):=H1.out;obtain⟨c0,c1,f0,f1⟩:=aV hz;have Hz:=aa hz;clear hz;go_wp2_with fail;obtain⟨d0,d1,_,_⟩:=aV (eA Hz (.int .i64 0) (.string ⟨#[]⟩));refine bodyPost_ret (v:=AD 100 none) (by simp[results,results216,go_sem,d0,d1,AD,D8,bs]) rfl ⟨by rw[Hg.out],dL cP (aM _) _ _⟩
 |some l=>
  rw[hr]at hg;have Hg:=aa hg;have Hr:=aa hr;have mp:=(atp hr).1;clear hg hr;obtain⟨lb,AU⟩: ∃lb,lb=bs l:=⟨_,rfl⟩
  have C9:lb.size=l.length:=by rw[AU,ei]
  by_cases QK:l.length=33
  ·have d33:((lb.size:Int) !=33)=false:=by rw[C9,QK];rfl
   have cg:0<lb.size:=ae;have Dv:(1:Int)<=(lb.size:Int):=ae;have aAs:lb.size<=33:=ae;have zK:(lb[0]'cg)=l.getD 0 0:=by
    subst AU;have:0<l.length:=ae;show l[0]=_;simp[this]
   have H33:=aa QK;have LR:=aa AU;clear C9 AU QK;by_cases h0:l.getD 0 0=0
   ·have hq:((lb[0]'cg).toNat:Int)=0:=(by rw[zK,h0];rfl);clear zK;go_in;go_wp2_with fail;refine (NE s _ (HT.below ((aI _ _).alloc (aM _) _)) hs).mono ?_;rintro e w2 ⟨rfl,av⟩;rw[Hr.out];simp only[rT];rw[<-LR.out];have H1:=aa (vq av);have cP:=jX (aI _ _) av;clear av;have hz:w2.heap[w.heap.size]?=some (.cells #[.int .i64 0,.string (bs [])] 101 (0,0)):=H1.out;obtain⟨c0,c1,f0,f1⟩:=aV hz;have Hz:=aa hz;clear hz;go_wp2_with fail;obtain⟨d0,d1,_,_⟩:=aV (eA Hz (.int .i64 0) (.string ⟨#[]⟩));refine bodyPost_ret (v:=AD 100 none) (by simp[results,results216,go_sem,d0,d1,AD,D8,bs]) rfl ⟨by rw[Hg.out,if_neg (λh=>h.2 h0)],dL cP (aM _) _ _⟩
   ·have hq:(((lb[0]'cg).toNat:Int)==0)=false:=by
     rw[zK];refine beq_eq_false_iff_ne.2 λe=>h0 ?_;apply UInt8.toNat_inj.1;simpa using e
    have Hx0:=aa zK;clear zK;go_in;go_wp2_with fail;refine (NE s _ (HT.below ((aI _ _).alloc (aM _) _)) hs).mono ?_;rintro e w2 ⟨rfl,av⟩;rw[Hr.out];simp only[rT];rw[<-LR.out];have H1:=aa (vq av);have cP:=jX (aI _ _) av;clear av;have hz:w2.heap[w.heap.size]?=some (.cells #[.int .i64 0,.string (bs [])] 101 (0,0)):=H1.out;obtain⟨c0,c1,f0,f1⟩:=aV hz;have Hz:=aa hz;clear hz;go_wp2_with fail;go_region;all_goals go_wp2_with fail
    have aCk:wrap64 ((lb[0]'cg).toNat:Int)=((lb[0]'cg).toNat:Int):=IntWalk.wrap64_in _ (by have:=(lb[0]'cg).toNat_lt;omega);rw[aCk];obtain⟨d0,d1,_,_⟩:=aV (eA Hz (.int .i64 ((lb[0]'cg).toNat:Int)) (.string (lb.extract 1 lb.size)));have P2:lb.extract 1 lb.size=bs (l.drop 1):=by
     rw[lR,LR.out,sD,ei,List.take_of_length_le (aM _)]
    refine bodyPost_ret (v:= .tuple #[.agg #[.int .i64 ((lb[0]'cg).toNat:Int),.string (lb.extract 1 lb.size)],.int .i64 0]) (by simp[results,results216,go_sem,d0,d1]) rfl ⟨?_,(dL cP (aM _) _ _).drew⟩;rw[Hg.out,if_pos ⟨H33.out,h0⟩,P2,Hx0.out];rfl
  ·have d33:((lb.size:Int) !=33)=true:=by rw[bne_iff_ne];omega
   have aAs:lb.size<=200:=ae;have LR:=aa AU;clear C9 AU;go_in;go_wp2_with fail;refine (NE s _ (HT.below ((aI _ _).alloc (aM _) _)) hs).mono ?_;rintro e w2 ⟨rfl,av⟩;rw[Hr.out];simp only[rT];rw[<-LR.out];have H1:=aa (vq av);have cP:=jX (aI _ _) av;clear av;have hz:w2.heap[w.heap.size]?=some (.cells #[.int .i64 0,.string (bs [])] 101 (0,0)):=H1.out;obtain⟨c0,c1,f0,f1⟩:=aV hz;have Hz:=aa hz;clear hz;go_wp2_with fail;obtain⟨d0,d1,_,_⟩:=aV (eA Hz (.int .i64 0) (.string ⟨#[]⟩));refine bodyPost_ret (v:=AD 100 none) (by simp[results,results216,go_sem,d0,d1,AD,D8,bs]) rfl ⟨by rw[Hg.out,if_neg (λh=>QK h.1)],dL cP (aM _) _ _⟩
def Cl (p:bZ):Option ag:=(D9 p.1 p.2.data.toList).map bs
def po (l:List bZ):List ag:=l.filterMap Cl
def AE (s:ag):Option bZ:=(Ka s.data.toList).map λq=>(q.1,bs q.2)
def gR (l:List ag):List bZ:=l.filterMap AE
theorem adl {α β:Type} (f:α->Option β) (l:List α) (k:Nat) (h:k<l.length):(l.take (k+1)).filterMap f=(l.take k).filterMap f++(f l[k]).toList:=by
 rw[List.take_succ_eq_append_getElem h,List.filterMap_append];cases hf:f l[k]<;>simp[hf]
theorem TT (l m:List bZ):dq (l++m)=dq l++dq m:=by simp[dq]
theorem adm {w:World} {B B':Nat} {e:TypeId} {size:Nat} {v:Value} {xs:bJ} (h:w.ownsRow B' e size v n xs) (hB:B<=B'):w.ownsRow B e size v n xs:=by
 refine⟨h.1,?_⟩;rcases h.2 with h|⟨g,ai,bK,hv,hb,hr⟩
 ·exact .inl h
 ·exact .inr ⟨g,ai,bK,hv,ae,hr⟩
theorem agw (h:P:=by
 obtain rfl:i=n:=ae;rw[HN.out,List.take_of_length_le (aM _)]at HO⊢;clear ho hW;go_wp2;go_ret;exact⟨B,ai,rfl,HO,HW⟩):P:=h
theorem atv (l:List bZ) (A:aN) (n c:Nat) (w:World) (hr:Rd w A (dq l)) (hn:n=l.length) (hl:l.length<=10000) (hT:cX w) (hs: ∀p∈l,p.2.size<=1000000):
  Calls prog 126 #[.slice A n c,.func (.func 127) #[] #[]] w λe w'=> ∃B ai,e= .returned (.slice B (po l).length ai)/\w'.ownsRow w.heap.size 9 1 (.slice B (po l).length ai) (po l).length (aZ (po l))/\aD w w':=by
 have HR:=aa hr;have HN:=aa hn;have HT:=aa hT;have HS:=aa hs;have mS:n<=10000:=ae;clear hr hn hT hs;go_in;go_wp2_with fail;go_loopw [5,12] (λv x wr=> ∃(i ai:Nat) (B:aN),i<=n/\x= .int .i64 (i:Nat)/\v= .slice B (po (l.take i)).length ai/\wr.ownsRow w.heap.size 9 1 v (po (l.take i)).length (aZ (po (l.take i)))/\aD w wr) (λ_ x _=>n -(intOf x).toNat);case atStart=>exact⟨0,0,none,ae,rfl,rfl,⟨rfl,.inl ⟨rfl,rfl⟩⟩,aI _ _⟩
 case round=>
  obtain⟨i,ai,B,hi,rfl,rfl,ho,hW⟩:=hrel;have HO:=aa ho;have HW:=aa hW;by_cases aK:i<n
  ·have bB:i<l.length:=by rw[<-HN.out];exact aK
   obtain⟨b,aS,hA,c1,oH⟩:=(HR.below hW).shr bB;subst hA;have dG:=aa (show po (l.take (i+1))=po (l.take i)++(Cl l[i]).toList from adl Cl l i bB);have Hb:=aa (HS _ (dY bB));have eX:(po (l.take i)).length<=i:=by
    have h1:=List.length_filterMap_le Cl (l.take i);simp only[List.length_take]at h1;unfold po;omega
   generalize po (l.take i)=ps at HO dG eX;generalize l[i]=p at c1 oH dG Hb;obtain⟨x,bb⟩:=p;simp only at c1 oH Hb;have VI:=aa (HT.below (hW.alloc hW.size (.cells #[.int .i64 x,.string bb] 101)));clear ho hW;go_wp2_with fail;refine (att x bb _ VI (by have:=Hb.out;omega)).mono ?_;rintro e w2 ⟨rfl,av⟩;have Qw:=jX (aI wr.heap.size wr) av;have dl:=aa (eO HO Qw);have dV:=aa (bg HW Qw);cases jh:D9 x bb.data.toList with
   |none=>
    have tT:=aa (show po (l.take (i+1))=ps by rw[dG.out,Cl,jh];simp);clear jh av Qw;simp only[rT];go_wp2;go_roundw;case rel=>exact⟨i+1,ai,B,ae,by go_num,by rw[tT.out],by rw[tT.out];exact dl.out,dV⟩
    case measure=>exact cM
   |some t=>
    have tT:=aa (show po (l.take (i+1))=ps++ [bs t] by rw[dG.out,Cl,jh];simp);clear jh av Qw;simp only[rT];generalize bs t=tx at tT⊢;have rx:ps.length<=10000:=ae;go_wp2_with (refine oS ah (.tmp 24) (.tmp 26) 28 ah w.heap.size 9 (.string ⟨#[]⟩) 1 16 underlying28 mx rfl ae w2 _ _ _ _ _ ah dl _ 1 1 ah ah ah ah ae ae ae (by exact dV.size) ?_);intro g2 eM w3 ri aL _ _ _;have gX:=aa ri;have iK:=aa (dV.trans aL);clear ri aL;go_wp2;go_roundw;case rel=>
     refine⟨i+1,eM,some ⟨g2,0,none⟩,ae,by go_num,by rw[tT.out];simp,?_,iK⟩;rw[tT.out,BG];simp only[dx,List.length_cons,List.length_nil];exact gX.out
    case measure=>exact cM
  ·exact agw
theorem atw (l:List ag) (A:aN) (n c:Nat) (w:World) (hr:Rd w A (aZ l)) (hn:n=l.length) (hl:l.length<=10000) (hT:yo w) (hs: ∀p∈l,p.size<=1000000):
  Calls prog 215 #[.slice A n c,.func (.func 216) #[] #[]] w λe w'=> ∃B ai,e= .returned (.slice B (gR l).length ai)/\w'.ownsRow w.heap.size 101 2 (.slice B (gR l).length ai) (gR l).length (dq (gR l))/\aD w w':=by
 have HR:=aa hr;have HN:=aa hn;have HT:=aa hT;have HS:=aa hs;have mS:n<=10000:=ae;clear hr hn hT hs;go_in;go_wp2_with fail;go_loopw [5,12] (λv x wr=> ∃(i ai:Nat) (B:aN),i<=n/\x= .int .i64 (i:Nat)/\v= .slice B (gR (l.take i)).length ai/\wr.ownsRow w.heap.size 101 2 v (gR (l.take i)).length (dq (gR (l.take i)))/\aD w wr) (λ_ x _=>n -(intOf x).toNat);case atStart=>exact⟨0,0,none,ae,rfl,rfl,⟨rfl,.inl ⟨rfl,rfl⟩⟩,aI _ _⟩
 case round=>
  obtain⟨i,ai,B,hi,rfl,rfl,ho,hW⟩:=hrel;have HO:=aa ho;have HW:=aa hW;by_cases aK:i<n
  ·have bB:i<l.length:=by rw[<-HN.out];exact aK
   obtain⟨b,aS,hA,hc⟩:=(HR.below hW) i (.string l[i]) (by simp[aZ,bB]);subst hA;have dG:=aa (show gR (l.take (i+1))=gR (l.take i)++(AE l[i]).toList from adl AE l i bB);have Hb:=aa (HS _ (dY bB));have eX:(gR (l.take i)).length<=i:=by
    have h1:=List.length_filterMap_le AE (l.take i);simp only[List.length_take]at h1;unfold gR;omega
   generalize gR (l.take i)=ps at HO dG eX;generalize l[i]=s at hc dG Hb;have VI:=aa (HT.below hW);clear ho hW;go_wp2_with fail;refine (atu s _ VI Hb).mono ?_;rintro e w2 ⟨rfl,av⟩;have dl:=aa (eO HO av);have dV:=aa (bg HW av);cases jh:Ka s.data.toList with
   |none=>
    have tT:=aa (show gR (l.take (i+1))=ps by rw[dG.out,AE,jh];simp);clear jh av;simp only[AD,D8];have bG:=be w2 (.cells #[.int .i64 0,.string (bs [])] 101);go_wp2;go_roundw;case rel=>exact⟨i+1,ai,B,ae,by go_num,by rw[tT.out],by rw[tT.out];exact eO dl bG,dV.alloc dV.size _⟩
    case measure=>exact cM
   |some q=>
    obtain⟨x,bl⟩:=q;have tT:=aa (show gR (l.take (i+1))=ps++ [(x,bs bl)] by rw[dG.out,AE,jh];simp);clear jh av;simp only[AD,D8];generalize bs bl=bb at tT⊢;have rx:ps.length<=10000:=ae;have bG:=be w2 (.cells #[.int .i64 x,.string bb] 101);have gX:=aa (eO dl bG);go_wp2_with (refine oS ah (.tmp 24) (.tmp 26) 65 ah w.heap.size 101 (.agg #[.int .i64 0,.string ⟨#[]⟩]) 2 24 underlying65 MQ rfl ae (w2.alloc (.cells #[.int .i64 x,.string bb] 101)) _ _ _ _ _ ah gX _ 1 1 ah ak ah ah ae ae ae (by have:=dV.size;simp;omega) ?_);intro g2 eM w3 ri aL _ _ _;have iu:=aa ri;have iK:=aa ((dV.alloc dV.size _).trans aL);clear ri aL;go_wp2;go_roundw;case rel=>
     refine⟨i+1,eM,some ⟨g2,0,none⟩,ae,by go_num,by rw[tT.out];simp,?_,iK⟩;rw[tT.out,TT];simp only[dx,List.length_cons,List.length_nil];exact iu.out
    case measure=>exact cM
  ·exact agw
def nk (s t:aF) (n m:Nat):List ag:=po (rI s t n m)
theorem atx (s t:aF) (n m:Nat): ∀p∈rI s t n m,p.2.size=32:=by
 intro p hp;obtain⟨i,_,rfl⟩:=List.mem_map.1 hp;simp[ei,lx]
theorem adn (s t:aF) (n m:Nat):(rI s t n m).length=n:=by simp[rI]
theorem aty (s t:ag) (n m:Nat) (w:World) (hT:cX w) (hs:s.size=32) (ht:t.size=32*m) (hn:n<=255) (hm:m+1<=n):
  Calls prog 71 #[.string s,.int .i64 (n:Int),.int .i64 ((m+1:Nat):Int),.string t] w λe w'=> ∃B ai,e= .returned (.tuple #[.slice B (nk s.data.toList t.data.toList n m).length ai,.int .i64 0])/\w'.ownsRow w.heap.size 9 1 (.slice B (nk s.data.toList t.data.toList n m).length ai) (nk s.data.toList t.data.toList n m).length (aZ (nk s.data.toList t.data.toList n m))/\aD w w':=by
 have HT:=aa hT;have Hs:=aa hs;have Ht:=aa ht;obtain⟨k,hk⟩: ∃k,k=m+1:=⟨_,rfl⟩
 rw[<-hk];have Hk:=aa hk;clear hT hs ht hk;go_in;go_wp2_with fail;refine Calls.mono (Hk.out▸aaP s t n m w Hs Ht hn hm) ?_;rintro e w1 ⟨g,rfl,fQ,aG⟩;have IE:=aa fQ;clear fQ;go_wp2_with fail;refine (atv (rI s.data.toList t.data.toList n m) _ n n _ (gz IE) (adn _ _ _ _).symm (by rw[adn];omega) (HT.below aG) (λp hp=>by rw[atx _ _ _ _ p hp];omega)).mono ?_;rintro e w2 ⟨B,ai,rfl,dy,av⟩;have dl:=aa dy;obtain⟨E,hE⟩: ∃E,E=nk s.data.toList t.data.toList n m:=⟨_,rfl⟩
 rw[show po (rI s.data.toList t.data.toList n m)=E from hE.symm]at dl⊢;have HE:=aa hE;clear hE;have hb:=bg aG av;clear dy;go_wp2;go_ret2;exact⟨B,ai,by rw[<-HE.out];rfl,by rw[<-HE.out];exact adm dl aG.size,hb⟩
theorem atz (s t:ag) (n k:Int) (w:World) (h:pL s t n k=false):
  Calls prog 71 #[.string s,.int .i64 n,.int .i64 k,.string t] w (bF w (.tuple #[ay,.int .i64 1])):=by
 have H:=aa h;clear h;go_in;go_wp2_with fail;refine (an3 s t n k _ H).mono ?_;exact OG
end
section
open Go.Maps Go.WideMaps
variable {B G:Nat} {w:World}
def yp (l:List bZ) (x:Int):Bool:=l.any λq=>decide (q.1=x)
def nu (l:List bZ):Nat->List bZ
 |0=> []
 |i+1=>if yp (l.take i) (l.getD i (0,⟨#[]⟩)).1=true then nu l i else nu l i++ [l.getD i (0,⟨#[]⟩)]
def nv (l:List bZ):List bZ:=nu l l.length
theorem ado (l:List bZ): ∀i,(nu l i).length<=i
 |0=>by simp[nu]
 |i+1=>by
  have:=ado l i;rw[nu];split
  ·omega
  ·simp;omega
theorem atA (l:List bZ) (i:Nat) (hi:i<l.length) (x:Int):yp (l.take (i+1)) x=(yp (l.take i) x||decide (l[i].1=x)):=by
 rw[yp,List.take_succ_eq_append_getElem hi,List.any_append,<-yp];simp
theorem atB {s:ag} {p:bZ} (h:AE s=some p):(∃a:UInt8,a≠0/\p.1=(a.toNat:Int))/\p.2.size=32:=by
 simp only[AE,Ka,Option.map_eq_some_iff]at h;obtain⟨q,hq,rfl⟩:=h;split at hq
 ·rename_i s' _;split at hq
  ·rename_i hc;injection hq with hq
   subst hq;refine⟨⟨s'.getD 0 0,hc.2,rfl⟩,?_⟩;simp only[ei,List.length_drop];omega
  ·cases hq
 ·cases hq
theorem adp (l:List ag): ∀p∈gR l,(∃a:UInt8,a≠0/\p.1=(a.toNat:Int))/\p.2.size=32:=by
 intro p hp;obtain⟨s,_,hs⟩:=List.mem_filterMap.1 hp;exact atB hs
theorem adq {w':World} {e:TypeId} {size:Nat} {v:Value} {n:Nat} {xs:bJ} (h:w.ownsRow B e size v n xs) (hg:w.grownBy w' (some G)) (hG:G<B):w'.ownsRow B e size v n xs:=by
 refine⟨h.1,?_⟩;rcases h.2 with h|⟨g,ai,bK,hv,hB,zF,hr⟩
 ·exact .inl h
 ·exact .inr ⟨g,ai,bK,hv,hB,uj hg zF ae,hr⟩
theorem atC {w1 w2:World} (h:w.grownBy w1 (some G)) (hk: ∀k,k<w1.heap.size->k<B->w2.heap[k]?=w1.heap[k]?) (hb:Below B w1 w2) (hB:w.heap.size<=B):w.grownBy w2 (some G):=
 ⟨hb.os.trans h.os,hb.tape.trans h.tape,hb.output.trans h.output,bD h.size hb.size,λi hi hr=>(hk i (jY hi h.size) ae).trans (h.block i hi hr)⟩
theorem adr (w:World):(zeroValue 3).run prog w= .ok (.int .i64 0) w:=ax
theorem ads {a b:Int} (h:(DataW.lit (.int .i64 a):DataW Unit)= .lit (.int .i64 b)):a=b:=by
 injection h with h
 injection h
theorem adt {Dm:DataW Unit} {a:UInt8} {f f':Int->Bool} (hD:IsMap Dm) (h: ∀a':UInt8,Dm.atKey (.int .i64 (a'.toNat:Int)) (.lit (.int .i64 0))= .lit (.int .i64 (if f (a'.toNat:Int)=true then 1 else 0))) (hf: ∀a':UInt8,f' (a'.toNat:Int)=(f (a'.toNat:Int)||decide ((a.toNat:Int)=(a'.toNat:Int)))):
  ∀a':UInt8,(Dm.put (.int .i64 (a.toNat:Int)) (.lit (.int .i64 1))).atKey (.int .i64 (a'.toNat:Int)) (.lit (.int .i64 0))= .lit (.int .i64 (if f' (a'.toNat:Int)=true then 1 else 0)):=by
 intro a';by_cases e:a'=a
 ·subst e;rw[atKey_put_same hD (show WideAt.IsKeyLit (.int .i64 (a'.toNat:Int)) from trivial),hf];simp
 ·have aO:(Lit.int .i64 (a'.toNat:Int))≠ .int .i64 (a.toNat:Int):=λh=>by
   injection h with _ h
   exact e (UInt8.toNat_inj.1 ae)
  have va: ¬(a.toNat:Int)=(a'.toNat:Int):=λh=>e (UInt8.toNat_inj.1 ae);rw[atKey_put_other aO,h a',hf,decide_eq_false va,Bool.or_false]
theorem atD (l:List ag) (A:aN) (n c:Nat) (w:World) (hr:Rd w A (aZ l)) (hn:n=l.length) (hl:l.length<=10000) (hT:yo w) (hs: ∀p∈l,p.size<=1000000):
  Calls prog 128 #[.slice A n c] w λe w'=> ∃B ai,e= .returned (.slice B (nv (gR l)).length ai)/\w'.ownsRow w.heap.size 101 2 (.slice B (nv (gR l)).length ai) (nv (gR l)).length (dq (nv (gR l)))/\aD w w':=by
 have HR:=aa hr;have HN:=aa hn;have HT:=aa hT;have HS:=aa hs;have mS:n<=10000:=ae;have hmm:= @run_makeMap prog;have Qq:(w.alloc (.map #[] 0)).ownsMap prog 3 (plainElem (H:=Unit) prog 3) w.heap.size 0 (.map []):=World.ownsMap_made _ _ _ _;clear hr hn hT hs;go_in;go_wp2_with fail;have ZK:=be w (.map #[] 0);refine (atw l A n c _ (HR.below ZK) HN hl (HT.below ZK) HS).mono ?_;rintro e w2 ⟨B2,eM,rfl,dy,av⟩;have Pm:w2.ownsMap prog 3 (plainElem (H:=Unit) prog 3) w.heap.size 0 (.map []):=by
  obtain⟨es,Ly,h1,h2⟩:=Qq;exact⟨es,Ly,aJ h1 av,h2⟩
 have V3:w.heap.size<w2.heap.size:=by have:=av.size;simp at this;omega
 have dl:=aa dy;have Yy:=aa Pm;have dV:=aa (jX (aI _ _) av);have FE:(gR l).length<=10000:=by
  have:=List.length_filterMap_le AE l;unfold gR;omega
 have HG:=aa (adp l);obtain⟨gs,H'⟩: ∃gs,gs=gR l:=⟨_,rfl⟩
 rw[<-H']at dl HG FE⊢;have Hgs:=aa H';have mi:Hid (∀b aS,B2=some ⟨b,aS,none⟩->b≠w.heap.size):=aa λb aS e=>by
  rcases dl.2 with⟨e1,_⟩|⟨g1,_,_,e1,h2,_⟩
  ·injection e1 with e1
   rw[e1]at e;cases e
  ·injection e1 with e1
   rw[e1]at e;injection e with e
   injection e with e
   simp at h2;omega
 clear Qq Pm dy av ZK H';obtain⟨m,hm⟩: ∃m,m=gs.length:=⟨_,rfl⟩
 rw[<-hm]at dl FE⊢;have Hm:=aa hm;clear hm;go_wp2_with fail;go_loopw [3,11] (λv x wr=> ∃(i ai:Nat) (B:aN) (Dm:DataW Unit),i<=m/\x= .int .i64 (i:Nat)/\v= .slice B (nu gs i).length ai/\wr.ownsRow w2.heap.size 101 2 v (nu gs i).length (dq (nu gs i))/\wr.ownsMap prog 3 (plainElem (H:=Unit) prog 3) w.heap.size i Dm/\IsMap Dm/\(∀a:UInt8,Dm.atKey (.int .i64 (a.toNat:Int)) (.lit (.int .i64 0))= .lit (.int .i64 (if yp (gs.take i) (a.toNat:Int)=true then 1 else 0)))/\w2.grownBy wr (some w.heap.size)) (λ_ x _=>m -(intOf x).toNat);case atStart=>exact⟨0,0,none,.map [],ae,rfl,rfl,⟨rfl,.inl ⟨rfl,rfl⟩⟩,Yy,isMap_empty,λa=>by simp[yp];rfl,World.grownBy.refl _ _⟩
 case round=>
  obtain⟨i,ai,B,Dm,hi,rfl,rfl,ho,hM,hD,xw,hG⟩:=hrel;have HO:=aa ho;have HD:=aa hD;have WU:=aa xw;have zD:=aa hG;clear ho hD xw hG;by_cases aK:i<m
  ·have bB:i<gs.length:=by rw[<-Hm.out];exact aK
   obtain⟨b,aS,fV,c1,oH⟩:=(abI zD (gz dl) mi).shr bB;subst fV;obtain⟨⟨a,ha0,KV⟩,_⟩:=HG.out _ (dY bB);have uy:=aa (show nu gs (i+1)=if yp (gs.take i) (gs.getD i (0,⟨#[]⟩)).1=true then nu gs i else nu gs i++ [gs.getD i (0,⟨#[]⟩)] from rfl);have dG:=aa (λx=>atA gs i bB x);have lM:gs.getD i (0,⟨#[]⟩)=gs[i]:=(by simp[bB]);rw[lM]at uy;have hrl:=ado gs i;generalize nu gs i=rs at HO uy hrl;generalize gs[i]=p at c1 oH KV uy dG;obtain⟨X,bb⟩:=p;simp only at c1 oH KV uy dG;subst KV;have PM:=aa (WU a);have hk:=keyOf_int_mk (P:=prog) underlying3 (abG a);have bG:=be wr (.cells #[cA a,.string bb] 101);have PW:(wr.alloc (.cells #[cA a,.string bb] 101)).ownsMap prog 3 (plainElem (H:=Unit) prog 3) w.heap.size i Dm:=by
    obtain⟨es,Ly,h1,h2⟩:=hM;exact⟨es,Ly,aJ h1 bG,h2⟩
   have LF:=aa (eO HO bG);have QJ:=aa (Gb zD bG);have aGk:=zD.size;clear lM;by_cases aik:yp (gs.take i) (a.toNat:Int)=true
   ·rw[if_pos aik]at uy PM;go_wp2_with (first
     |(at_lookup;refine wpList_lookup_own_int _ rfl _ _ 271 rfl 3 3 .i64 JM underlying271 underlying3 (adr _) w.heap.size i _ rfl PW _ _ rfl hk ?_;intro cc Yd hwc;obtain rfl:cc=1:=ads (Yd.symm.trans PM))
     |(at_mapUpdate;refine wpList_mapUpdate_own _ rfl _ _ _ 271 rfl 3 3 JM underlying271 (plainElem (H:=Unit) prog 3) w.heap.size i _ rfl PW (by unfold maxLen;omega) _ _ _ rfl rfl hk _ [] (plainElem_int underlying3 (M7 1 ae)) ?_;intro w4 Wu LH))
    have Yu:=aa Wu;have Io:=aa (F1 QJ LH);have iu:=aa (adq LF LH V3);go_roundw;case rel=>exact⟨i+1,ai,B,_,ae,by go_num,by rw[uy.out],by rw[uy.out];exact iu.out,Yu,HD.put _ _,adt HD WU (λa'=>dG.out _),Io⟩
    case measure=>exact cM
   ·rw[if_neg aik]at uy PM;have ed:rs.length<=10000:=ae;go_wp2_with (first
     |(at_lookup;refine wpList_lookup_own_int _ rfl _ _ 271 rfl 3 3 .i64 JM underlying271 underlying3 (adr _) w.heap.size i _ rfl PW _ _ rfl hk ?_;intro cc Yd hwc;obtain rfl:cc=0:=ads (Yd.symm.trans PM))
     |(refine oS ah (.tmp 20) (.tmp 22) 65 ah w2.heap.size 101 (.agg #[.int .i64 0,.string ⟨#[]⟩]) 2 24 underlying65 MQ rfl ae (wr.alloc (.cells #[cA a,.string bb] 101)) _ _ _ _ _ ah LF _ 1 1 ah ak ah ah ae ae ae (by simp;omega) ?_))
    intro g3 aEr w3 ri aL jx aAu E3;have hM3:w3.ownsMap prog 3 (plainElem (H:=Unit) prog 3) w.heap.size i Dm:=by
     obtain⟨es,Ly,h1,h2⟩:=PW;exact⟨es,Ly,(aL.block _ V3).trans h1,h2⟩
    have it:=jx wr.heap.size ak (λe=>by
     rcases HO.2 with⟨e1,_⟩|⟨g1,_,_,e1,_,h3,_⟩
     ·injection e1 with e1
      rw[e1]at e;cases e
     ·injection e1 with e1
      rw[e1]at e;injection e with e
      have:=bf h3;simp only at e;omega)
    have akO:bj w3 wr.heap.size #[cA a,.string bb] 101:=it.trans (aR wr _);obtain⟨c3,_,_,_⟩:=aV akO;have gX:=aa ri;have Rh:=aa (atC QJ (λk _ hkB=>aL.block k hkB) aL (aM _));clear ri it akO aAu jx E3 aL;go_wp2_with (first
     |(at_mapUpdate;refine wpList_mapUpdate_own _ rfl _ _ _ 271 rfl 3 3 JM underlying271 (plainElem (H:=Unit) prog 3) w.heap.size i _ rfl hM3 (by unfold maxLen;omega) _ _ _ rfl rfl hk _ [] (plainElem_int underlying3 (M7 1 ae)) ?_;intro w4 Wu LH))
    have Yu:=aa Wu;have Io:=aa (F1 Rh LH);have iu:=aa (adq gX LH V3);go_roundw;case rel=>
     refine⟨i+1,aEr,some ⟨g3,0,none⟩,_,ae,by go_num,by rw[uy.out];simp,?_,Yu,HD.put _ _,adt HD WU (λa'=>dG.out _),Io⟩;rw[uy.out,TT];simp only[dx,List.length_cons,List.length_nil];exact iu.out
    case measure=>exact cM
  ·obtain rfl:i=m:=ae;have dw:nu gs i=nv gs:=by rw[nv,Hm.out]
   rw[dw]at HO⊢;have HWf:=aa (dV.trans (gZ zD (aM _) dV.size));have Qo:=aa (adm HO dV.size);rw[Hgs.out]at Qo⊢;clear dw hM;go_wp2;go_ret;exact⟨B,ai,rfl,Qo,HWf⟩
end
theorem adu (l:List bZ): ∀i,i<=l.length->(∀p∈nu l i,p∈l.take i)/\((nu l i).map Prod.fst).Nodup/\ ∀p∈l.take i,∃q∈nu l i,q.1=p.1
 |0,_=>by simp[nu]
 |i+1,hi=>by
  obtain⟨h1,h2,h3⟩:=adu l i ae;have bB:i<l.length:=ae;have hg:l.getD i (0,⟨#[]⟩)=l[i]:=by simp[bB]
  rw[nu,hg,List.take_succ_eq_append_getElem bB];by_cases hs:yp (l.take i) l[i].1=true
  ·rw[if_pos hs];obtain⟨q,hq,uX⟩:=List.any_eq_true.1 hs;refine⟨λp hp=>List.mem_append.2 (.inl (h1 p hp)),h2,λp hp=>?_⟩;rcases List.mem_append.1 hp with hp|hp
   ·exact h3 p hp
   ·simp at hp;subst hp;obtain⟨r,hr,nL⟩:=h3 q hq;exact⟨r,hr,by rw[nL];simpa using uX⟩
  ·rw[if_neg hs];refine⟨λp hp=>?_,?_,λp hp=>?_⟩
   ·rcases List.mem_append.1 hp with hp|hp
    ·exact List.mem_append.2 (.inl (h1 p hp))
    ·exact List.mem_append.2 (.inr hp)
   ·rw[List.map_append,List.nodup_append];refine⟨h2,ak,λa ha b hb=>?_⟩;simp only[List.map_cons,List.map_nil,List.mem_singleton]at hb;subst hb;intro e;obtain⟨r,hr,nL⟩:=List.mem_map.1 ha;apply hs;exact List.any_eq_true.2 ⟨r,h1 r hr,by simp[nL,e]⟩
   ·rcases List.mem_append.1 hp with hp|hp
    ·obtain⟨q,hq,uX⟩:=h3 p hp;exact⟨q,List.mem_append.2 (.inl hq),uX⟩
    ·simp at hp;subst hp;exact⟨l[i],ak,rfl⟩
theorem atE (l:List bZ):(∀p∈nv l,p∈l)/\((nv l).map Prod.fst).Nodup/\ ∀p∈l,∃q∈nv l,q.1=p.1:=by
 have:=adu l l.length (aM _);rw[List.take_of_length_le (aM _)]at this;exact this
theorem atF (l:List ag) (k:Nat) (h1:1<=k) (h2:k<=255) (hk:k<=(nv (gR l)).length):jB ((nv (gR l)).take k) 1=true:=by
 obtain⟨f1,f2,_⟩:=atE (gR l);simp only[jB,Bool.and_eq_true,decide_eq_true_eq,List.all_eq_true,List.length_take];refine⟨⟨⟨ae,ae⟩,λp hp=>?_⟩,?_⟩
 ·obtain⟨⟨a,ha,hx⟩,hb⟩:=adp l p (f1 p (List.mem_of_mem_take hp));have h3:=a.toNat_lt;have h0:a.toNat≠0:=λe=>ha (UInt8.toNat_inj.1 e);simp[sJ,hb];omega
 ·rw[List.map_take];exact f2.sublist (List.take_sublist _ _)
def Ea (l:List ag) (k:Int):Value:=if k<1\/255<k then .tuple #[.string ⟨#[]⟩,.int .i64 1] else if ((nv (gR l)).length:Int)<k then .tuple #[.string ⟨#[]⟩,.int .i64 240] else .tuple #[.string (bs (nj ((nv (gR l)).take k.toNat) 0)),.int .i64 0]
theorem atG (R:Value) (l:List ag) (k:Int) (A:aN) (n c:Nat) (w:World) (hr:Rd w A (aZ l)) (hn:n=l.length) (hl:l.length<=10000) (hT:yo w) (hs: ∀p∈l,p.size<=1000000) (hR:R=Ea l k):
  Calls prog 72 #[.slice A n c,.int .i64 k] w λe w'=>e= .returned R/\aD w w':=by
 have HR:=aa hr;have HN:=aa hn;have HT:=aa hT;have HS:=aa hs;have HV:=aa hR;clear hr hn hT hs hR;by_cases h1:k<1
 ·have d1:decide (k<1)=true:=by simp;omega
  have H:=aa (show R= .tuple #[.string ⟨#[]⟩,.int .i64 1] by rw[HV.out,Ea,if_pos (.inl h1)]);clear h1;go_in;go_wp2;go_ret2;exact⟨by rw[H.out];rfl,aI _ _⟩
 have d1:decide (k<1)=false:=by simp;omega
 by_cases h2:255<k
 ·have d2:decide (255<k)=true:=by simp;omega
  have H:=aa (show R= .tuple #[.string ⟨#[]⟩,.int .i64 1] by rw[HV.out,Ea,if_pos (.inr h2)]);clear h1 h2;go_in;go_wp2;go_ret2;exact⟨by rw[H.out];rfl,aI _ _⟩
 have d2:decide (255<k)=false:=by simp;omega
 obtain⟨K,rfl⟩: ∃K:Nat,k=(K:Int):=⟨k.toNat,ae⟩
 have pE:=aa (show R=if ((nv (gR l)).length:Int)<(K:Int) then .tuple #[.string ⟨#[]⟩,.int .i64 240] else .tuple #[.string (bs (nj ((nv (gR l)).take K) 0)),.int .i64 0] by rw[HV.out,Ea,if_neg ae];rfl);have V':=aa (atF l K ae ae);go_in;go_wp2_with fail;refine (atD l A n c _ HR HN hl HT HS).mono ?_;rintro e w1 ⟨B,ai,rfl,fQ,aG⟩;have IE:=aa fQ;clear fQ;have ZH:Hid (∀x,(nv (gR l)).length=x->x<=ai\/x=0):=aa λx hx=>by
  rcases IE.2 with⟨e1,h2⟩|⟨g1,lH,_,e1,_,_,h3,_⟩
  ·right;omega
  ·injection e1 with _ _ e1
   left;omega
 generalize nv (gR l)=rs at IE pE V' ZH⊢;obtain⟨M,hM⟩: ∃M,M=rs.length:=⟨_,rfl⟩
 rw[<-hM]at IE pE V' ZH⊢;have HM:=aa hM;clear hM;by_cases h3:M<K
 ·have d3:decide (M<K)=true:=by simp;omega
  have H:=aa (show R= .tuple #[.string ⟨#[]⟩,.int .i64 240] by rw[pE.out,if_pos ae]);go_wp2;go_ret2;exact⟨by rw[H.out];rfl,aG⟩
 ·have d3:decide (M<K)=false:=by simp;omega
  have fi:K<=ai:=by
   rcases ZH M rfl with h|h<;>omega
  have H:=aa (show R= .tuple #[.string (bs (nj (rs.take K) 0)),.int .i64 0] by rw[pE.out,if_neg ae]);have hKM:(K:Int)<=(M:Int):=ae;have hKc:(K:Int)<=(ai:Int):=ae;have qn:Hid (Rd w1 B (dq (rs.take K))):=aa λj u hu=>by
   refine gz IE j u ?_;have e:dq rs=dq (rs.take K)++dq (rs.drop K):=(by rw[<-TT,List.take_append_drop]);have hj:j<(dq (rs.take K)).length:=by
    rcases mg j (dq (rs.take K)).length with h|h
    ·exact h
    ·rw[Cx h]at hu;cases hu
   rw[e,Vv hj];exact hu
  have KP:=aa (show K=(rs.take K).length by rw[List.length_take,<-HM.out];omega);have uy:=aa (V' ae);go_wp2_with fail;refine (abL (rs.take K) _ K ai _ qn KP uy).mono ?_;rintro e w2 ⟨rfl,av⟩;have hb:=bg aG av;go_wp2;go_ret2;exact⟨by rw[H.out];rfl,hb⟩
theorem atH (l:List ag) (k:Int) (A:aN) (n c:Nat) (w:World) (hr:Rd w A (aZ l)) (hn:n=l.length) (hl:l.length<=10000) (hT:yo w) (hs: ∀p∈l,p.size<=1000000):
 Calls prog 72 #[.slice A n c,.int .i64 k] w (bF w (Ea l k)):=atG _ l k A n c w hr hn hl hT hs rfl
def NT (s t:aF) (m i:Nat):ag:=bs (te (UInt8.ofNat (i+1)::lx s t m i))
theorem au8 (s t:aF) (m i:Nat) (hi:i<255):Cl (Ak s t m i)=some (NT s t m i):=by
 have h:D9 ((i+1:Nat):Int) (lx s t m i)=some (te (UInt8.ofNat (i+1)::lx s t m i)):=by
  unfold D9;rw[if_pos ⟨ae,ae,abN _ _ _ _⟩,Int.toNat_natCast]
 show Option.map bs (D9 ((i+1:Nat):Int) (lx s t m i))=_;rw[h];rfl
theorem Uj (s t:aF) (n m:Nat) (hn:n<=255):nk s t n m=(List.range n).map (NT s t m):=by
 rw[nk,po,rI];have: ∀(k:Nat),k<=255->(((List.range k).map (Ak s t m)).filterMap Cl)=(List.range k).map (NT s t m):=by
  intro k;induction k with
  |zero=>intro _;rfl
  |succ k ih=>
   intro hk;rw[List.range_succ,List.map_append,List.filterMap_append,ih ae,List.map_append];simp[au8 s t m k ae]
 exact this n hn
theorem au9 (s t:aF) (n m:Nat) (hn:n<=255):(nk s t n m).length=n:=by rw[Uj s t n m hn];simp
def UZ (w:World) (m:Nat) (e:Ending) (w':World):Prop:= ∃A ai l,e= .returned (.slice A l.length ai)/\Rd w' A (aZ l)/\l.length<=m/\aD w w'
theorem ayD (s:ag) (c:Int) (w:World) (hs:s.size<=10000):
  Calls prog 16 #[.string s,.int .u8 c] w (UZ w (s.size+1)):=by
 go_in;go_wp2_with fail;go_loopw [5,6,7] (λv y x wr=> ∃(i f ai:Nat) (B:aN) (ps:List ag),i<=s.size+1/\f<=i/\ps.length<=i/\x= .int .i64 (i:Nat)/\y= .int .i64 (f:Nat)/\v= .slice B ps.length ai/\wr.ownsRow w.heap.size 9 1 v ps.length (aZ ps)/\aD w wr) (λ_ _ x _=>s.size+2 -(intOf x).toNat);case atStart=>exact⟨0,0,0,none,[],ae,ae,ak,rfl,rfl,rfl,⟨rfl,.inl ⟨rfl,rfl⟩⟩,aI _ _⟩
 case round=>
  obtain⟨i,f,ai,B,ps,hi,hf,hp,rfl,rfl,rfl,ho,hW⟩:=hrel;have HO:=aa ho;have HW:=aa hW;clear ho;by_cases eT:i<=s.size
  ·by_cases he:i=s.size
   ·subst he;go_wp2_with (at_builtin;refine oS ah (.tmp 25) (.tmp 30) 28 ah w.heap.size 9 (.string ⟨#[]⟩) 1 16 underlying28 mx rfl ae wr #[.string (s.extract f s.size)] 9 (.slice B ps.length ai) ps.length (aZ ps) ah HO wr.heap.size 1 1 ah ah ah ah ae ae ae (by exact HW.size) ?_);intro g4 qy w4 kg aP _ _ _;have iu:=aa kg;have wN:=aa (HW.trans aP);clear kg aP;go_wp2;go_roundw;case rel=>exact⟨s.size+1,s.size+1,qy,some ⟨g4,0,none⟩,ps++ [s.extract f s.size],ae,ae,by rw[dx];exact Nat.succ_le_succ hp,by go_num,by go_num,ak,by rw[dx,BG];exact iu.out,wN⟩
    case measure=>(simp[intOf]<;>omega)
   ·have aK:i<s.size:=ae;by_cases hc:(((s[i]).toNat:Nat):Int)=c
    ·skip;go_wp2_with (at_builtin;refine oS ah (.tmp 25) (.tmp 30) 28 ah w.heap.size 9 (.string ⟨#[]⟩) 1 16 underlying28 mx rfl ae wr #[.string (s.extract f i)] 9 (.slice B ps.length ai) ps.length (aZ ps) ah HO wr.heap.size 1 1 ah ah ah ah ae ae ae (by exact HW.size) ?_);intro g4 qy w4 kg aP _ _ _;have iu:=aa kg;have wN:=aa (HW.trans aP);clear kg aP;go_wp2;go_roundw;case rel=>exact⟨i+1,i+1,qy,some ⟨g4,0,none⟩,ps++ [s.extract f i],ae,ae,by rw[dx];exact Nat.succ_le_succ hp,by go_num,by go_num,ak,by rw[dx,BG];exact iu.out,wN⟩
     case measure=>(simp[intOf]<;>omega)
    ·have b1:((i:Int)==(s.size:Int))=false:=(by simp;omega);have b2:((((s[i]).toNat:Nat):Int)==c)=false:=(by simpa using hc);go_wp2;go_roundw;case rel=>exact⟨i+1,f,ai,B,ps,ae,ae,ae,by go_num,rfl,rfl,HO,HW⟩
     case measure=>(simp[intOf]<;>omega)
  ·obtain rfl:i=s.size+1:=ae;go_wp2;go_ret;exact⟨B,ai,ps,rfl,gz HO,ae,HW⟩
theorem af8 {P:Prop} (h:P:=by
 rintro e w2 ⟨A,c,l,rfl,hr,hl,hb⟩;go_wp2;go_ret;exact⟨A,c,l,rfl,hr,ae,hb⟩):P:=h
theorem ayE (s:ag) (w:World) (hs:s.size<=10000):
  Calls prog 9 #[.string s] w (UZ w (s.size+1)):=by
 by_cases h0:s=⟨#[]⟩
 ·subst h0;go_in;go_wp2;go_ret;exact⟨none,0,[],rfl,Rd.nil _ _,Nat.zero_le _,aI _ _⟩
 ·obtain⟨k,hk⟩: ∃k,s.size=k+1:=⟨s.size - 1,by
   have:s.size≠0:=λe=>h0 (by
    cases s with
    |mk d=>exact congrArg _ (Array.eq_empty_of_size_eq_zero e))
   omega⟩
  have e1:((s.size:Int)- 1)=(k:Int):=ae;have b0:s.toList.isEmpty=false:=toList_some s ae;have HC:=aa (λ(u:ag) (hu:u.size<=s.size)=>(ayD u 10 w ae).mono λe w' ⟨A,c,l,h1,h2,h3,h4⟩=>(⟨A,c,l,h1,h2,bD h3 ae,h4⟩:UZ w (s.size+1) e w'));go_in;by_cases hc:(((s[k]'ae).toNat:Nat):Int)=10
  ·go_wp2_with fail;refine (HC _ (by rw[Cy];omega)).mono ?_;exact af8
  ·have b2:((((s[k]'ae).toNat:Nat):Int)==10)=false:=by simpa using hc
   go_wp2_with fail;refine (HC _ (aM _)).mono ?_;exact af8
def BoR (s:ag) (w:World) (e:Ending) (w':World):Prop:= ∃b,e= .returned (.bool b)/\(b=false->s.size<=9000)/\aD w w'
theorem Ot (s:ag) (w:World):
  Calls prog 6 #[.string s] w (BoR s w):=by
 by_cases h0:3000<s.size
 ·have h1:(3000:Int)<(s.size:Int):=ae;by_cases h2:s.size<=6000
  ·go_in;go_wp2;go_ret;exact⟨_,rfl,(λh=>ae),aI _ _⟩
  ·go_in;go_wp2;go_ret;exact⟨_,rfl,(λh=>by simp at h;omega),aI _ _⟩
 ·have HL:=aa (ayE s w ae);go_in;go_wp2_with fail;refine (HL).mono ?_;rintro e w1 ⟨A,ai,l,rfl,hr,hl,hb⟩;have HR:=aa hr;have HB:=aa hb;clear hr hb;go_wp2_with fail;go_loopw [4,5] (λy x wr=> ∃(i:Nat) (h:Nat),i<=l.length/\h<=i/\x= .int .i64 (i:Nat)/\y= .int .i64 (h:Nat)/\aD w1 wr) (λ_ x _=>l.length -(intOf x).toNat);case atStart=>exact⟨0,0,ae,ae,rfl,rfl,aI _ _⟩
  case round=>
   obtain⟨i,h,hi,hh,rfl,rfl,hW⟩:=hrel;have HW:=aa hW;by_cases aK:i<l.length
   ·obtain⟨b,aS,hA,c0⟩:=(HR.below HW) i _ (by unfold aZ;rw[nA,cL aK];rfl);subst hA;generalize l[i]=x at c0;by_cases h3:2<x.size;all_goals
     go_wp2_with fail
     all_goals
      go_roundw
      case rel=>first|exact⟨i+1,h,ae,ae,by go_num,rfl,HW⟩|exact⟨i+1,h+1,ae,ae,by go_num,by go_num,HW⟩
      case measure=>(simp[intOf]<;>omega)
   ·obtain rfl:i=l.length:=ae;go_wp2_with fail;all_goals
     go_ret
     exact⟨_,rfl,(λ_=>ae),HB.trans (HW.mono HB.size)⟩
end Go.Proofs.YtaglcaocpcbiiaaGreatDoor
