import Derived.Test.YtaglcaocpcbiiaaGreatDoorX14
import Derived.Test.YtaglcaocpcbiiaaGreatDoorX13
set_option linter.unusedVariables false
set_option linter.unusedSimpArgs false
set_option maxRecDepth 100000
set_option maxHeartbeats 3000000
namespace Go.Proofs.YtaglcaocpcbiiaaGreatDoor
open Go.Proofs.Tryz Go.RowKit
theorem Y9q {n:Nat} {w:World}:Below n w w.drew:=(aI _ _).drew
section
variable {A:aN} {W:World} {g:Nat} {xs:bJ}
theorem k4s {i p q r s p' q' r' s':Nat} {a u v x y:Value} (h:W.cell? ⟨p,p',none⟩=some u/\W.cell? ⟨q,q',none⟩=some v/\W.cell? ⟨r,r',none⟩=some x/\W.cell? ⟨s,s',none⟩=some y) (n:p≠g/\q≠g/\r≠g/\s≠g):
  (W.setCell ⟨g,i,none⟩ a).cell? ⟨p,p',none⟩=some u/\(W.setCell ⟨g,i,none⟩ a).cell? ⟨q,q',none⟩=some v/\(W.setCell ⟨g,i,none⟩ a).cell? ⟨r,r',none⟩=some x/\(W.setCell ⟨g,i,none⟩ a).cell? ⟨s,s',none⟩=some y:=
 have e: ∀b k u,b≠g->W.cell? ⟨b,k,none⟩=some u->(W.setCell ⟨g,i,none⟩ a).cell? ⟨b,k,none⟩=some u:=λb k u hb hc=>(fB (bz W ⟨g,i,none⟩ a b hb)).trans hc
 ⟨e _ _ _ n.1 h.1,e _ _ _ n.2.1 h.2.1,e _ _ _ n.2.2.1 h.2.2.1,e _ _ _ n.2.2.2 h.2.2.2⟩
theorem aeO (A D:aN) (n c m d:Nat) (P:az) (W:World) (h:PB W A n D m P):Calls prog 63 #[.agg #[.slice A n c,.slice D m d],ay] W (kj W (eW [] P)):=
 arw _ P none 0 0 [] W ⟨_,_,_,_,_,_,rfl,h⟩ (Rd.nil _ _) rfl (Nat.zero_le _) (λx h=>by cases h)
theorem af4 {P:Prop} (h:P:=by
 refine kR 18 λK hK=>?_;have u0:=aj cm 0 _ rfl;have u1:=aj cm 1 _ rfl;have v0:=aU cm 0;have v1:=aU cm 1;have E:=aa (NZ (c:=c3) (d:=d3) hS ae cm bQ);go_simp;refine hK.out _ _ E.1 (λhS=>?_);clear hK K;try go_frame
 refine kU 19 hS ?_;refine kL λK hK=>?_;go_simp;refine hK.out _ _ ?_;clear hK K;go_wp2;go_meet;case rel=>exact⟨_,A3,n3,c3,B3,m3,d3,rfl,rfl,rfl,E.2.1,E.2.2,ae,H0.below E.1,dM.trans (E.1.mono dM.size)⟩):P:=h
theorem awb (B rb wb:Nat) (S:aW) (y:cQ) (A C:aN) (n c m d:Nat) (ms:List Int) (w:World) (h:Rm w B rb wb S y) (hS:Gd S) (hm:Rd w C (ints ms)) (mO:m=ms.length) (h2:1<=ms.length):
  Calls prog 22 #[.pointer (aw rb),.agg #[.slice A n c,.slice C m d]] w (ov B rb w (Gy S (ix ms 0))):=by
 have hb:=be w (.cells #[.slice A n c,.slice C m d] 57);obtain⟨cb,co,rfl,fT⟩:=tl (hm.below hb) (k:=0) ae;rw[Nat.add_zero]at fT;generalize ix ms 0=i at fT⊢;have HR:=aa h;have HB:=aa hb;have H1:=aa (h.below hb);have r0:=(h.below hb).at_;have ir:=(h.below hb).c 17 (.bool S.op) rfl;have L:=aa (And.intro (vY w A (some ⟨cb,co,none⟩) n c m d).2 fT);have e1:0<m:=ae;have sq:=h.wlt;have jJ:=hb.size;obtain⟨op,je⟩: ∃op,op=S.op:=⟨_,rfl⟩
 have HQ:=aa (show Gy S i=if op=false then (S,.er 212) else if (iB S.ch S.v i).2.2≠0 then (S,.er (iB S.ch S.v i).2.2) else if (iB S.ch S.v i).2.1=true then ({S with ch:=(iB S.ch S.v i).1},.ok gT)
  else if (eW [] (iB S.ch S.v i).1).2≠0 then (S,.er (eW [] (iB S.ch S.v i).1).2) else if (cR (eW [] (iB S.ch S.v i).1).1).2≠0 then (S,.er (cR (eW [] (iB S.ch S.v i).1).1).2)
  else (jq {S with ch:=(eW [] (iB S.ch S.v i).1).1,v:=(cR (eW [] (iB S.ch S.v i).1).1).1.V},.ok TU) by rw[je];rfl)
 have HV:=aa (λv vv W h1 h2 hR=>awa v vv S.ch S.v i W h1 h2 (by have:=hS.ch.1;unfold maxLen;omega) (by have:=hS.bl;unfold maxLen;omega) hR);have hP:=aed S.ch S.v i hS.ch;have HO:=NX (eW [] (iB S.ch S.v i).1).1;rw[<-je]at ir;clear h hb hS hm mO h2 fT je;generalize iB S.ch S.v i=r at HV HQ hP HO;obtain⟨P,wh,er⟩:=r;simp only at HV HQ hP HO;have hQ:gl (eW [] P).1:=Em _ P hP;have HC:=aa (λA D n c m d W h=>aeO A D n c m d P W h);generalize eW [] P=r at HC HQ hQ HO;obtain⟨Q,ec⟩:=r;simp only at HC HQ hQ HO;have HL:=aa (λv W hW hR=>Uh v Q W hW (by have:=hQ.1;unfold maxLen;omega) hR);generalize cR Q=r at HL HQ HO;obtain⟨⟨rn,rg,ra,⟨bl,rt⟩⟩,eo⟩:=r;simp only at HL HQ HO;clear hP hQ HO;cases op with
 |false=>
  exact Oz
 |true=>
  rw[if_neg au]at HQ;go_in;go_wp2_with fail;refine (Kb rb wb _ r0 ir).mono ?_;rintro e w1 ⟨rfl,rfl⟩;go_upto_region 2 with fail
  go_cut [6,7,8] from 11 (λs6 s7 s8 wx=> ∃g A3 n3 c3 B3 m3 d3,s6= .pointer (aw g)/\s7= .bool wh/\s8= .int .i64 er/\bj wx g #[.slice A3 n3 c3,.slice B3 m3 d3] 74/\PB wx A3 n3 B3 m3 P/\w.heap.size<=g/\Rm wx B rb wb S y/\aD w wx);case first=>
   refine jr (S:=λW=>Below ((w.alloc (.cells #[.slice A n c,.slice (some ⟨cb,co,none⟩) m d] 57)).drew).heap.size ((w.alloc (.cells #[.slice A n c,.slice (some ⟨cb,co,none⟩) m d] 57)).drew) W) 20 ax (aI _ _) (λhS=>?_);have H0:=aa (H1.below Y9q);have dM:=aa (HB.drew);replace L:=aa (mK L Y9q);have fS:=dM.size;generalize (w.alloc (.cells #[.slice A n c,.slice (some ⟨cb,co,none⟩) m d] 57)).drew=w0 at hS H0 dM L fS⊢;clear r0 ir;refine kU 0 hS ?_;refine kU 1 hS ?_;refine kU 2 hS ?_;refine kV 3 rfl hS (by intro _ h9;have c7:=(H0.out.below h9).c 7 (.slice y.ca.A y.ca.n y.ca.c) rfl;have c8:=(H0.out.below h9).c 8 (.slice y.cb.A y.cb.n y.cb.c) rfl;go_simp;try with_reducible rfl) ?_;refine kU 4 hS ?_;refine kU 5 hS ?_;refine kU 6 hS ?_;refine kV 7 rfl hS (by intro _ h9;have c9:=(H0.out.below h9).c 9 (.slice y.bl.A y.bl.n y.bl.c) rfl;have XO:=(H0.out.below h9).c 10 (.string S.v.rt) rfl;go_simp;try with_reducible rfl) ?_;refine kU 8 hS ?_;refine kV 9 rfl hS (by intro _ h9;have c0:=(mK L.out h9).1;go_simp;try with_reducible rfl) ?_;refine kU 10 hS ?_;refine kV 11 rfl hS (by intro _ h9;have c0:=(mK L.out h9).2;go_simp;try with_reducible rfl) ?_;refine kR2 12 17 (λK hK=>?_) (λK hK=>?_)
   ·go_simp;refine Calls.mono (by exact HV.out _ _ _ ⟨_,_,_,_,_,_,rfl,(H0.below hS).wm.dt.ch⟩ ⟨_,_,_,rfl,(H0.below hS).wm.dt.bl.1,(H0.below hS).wm.dt.bl.2.1⟩ (H0.below hS).ld.lv.arm.rounds) ?_;rintro _ w3 ⟨_,rfl,⟨A3,n3,c3,B3,m3,d3,rfl,bQ⟩,aL⟩;go_simp;simp only at bQ⊢;refine hK.out _ _ (hS.trans (aL.mono hS.size)) (λhS=>?_);clear hK K;try go_frame
    refine kU 13 hS ?_;refine kU 14 hS ?_;refine kU 15 hS ?_;refine kU 16 hS ?_;refine kR 17 λK hK=>?_
    ·go_simp;have cm:=aR w3 (.cells #[ay,ay] 74);have pu:=hS.size;replace bQ:=PB.below bQ (be w3 (.cells #[ay,ay] 74));have bn:=hS.alloc hS.size (.cells #[ay,ay] 74);refine hK.out _ _ bn (λhS=>?_);clear hK K;try go_frame
     generalize w3.alloc (.cells #[ay,ay] 74)=x6 at hS bn cm bQ⊢;clear bn;exact af4
   ·go_simp;have cm:=aR w0 (.cells #[ay,ay] 74);have pu:=hS.size;have bn:=hS.alloc hS.size (.cells #[ay,ay] 74);refine hK.out _ _ bn (λhS=>?_);clear hK K;try go_frame
    generalize w0.alloc (.cells #[ay,ay] 74)=x6 at hS bn cm⊢;clear bn;refine kR 12 λK hK=>?_
    ·go_simp;refine Calls.mono (by exact HV.out _ _ _ ⟨_,_,_,_,_,_,rfl,(H0.below hS).wm.dt.ch⟩ ⟨_,_,_,rfl,(H0.below hS).wm.dt.bl.1,(H0.below hS).wm.dt.bl.2.1⟩ (H0.below hS).ld.lv.arm.rounds) ?_;rintro _ w3 ⟨_,rfl,⟨A3,n3,c3,B3,m3,d3,rfl,bQ⟩,aL⟩;go_simp;simp only at bQ⊢;replace cm:=aJ cm aL;refine hK.out _ _ (hS.trans (aL.mono hS.size)) (λhS=>?_);clear hK K;try go_frame
     refine kU 13 hS ?_;refine kU 14 hS ?_;refine kU 15 hS ?_;refine kU 16 hS ?_;exact af4
  case rest=>
   obtain⟨g,A3,n3,c3,B3,m3,d3,rfl,rfl,rfl,hg,hp,FE,hx,hb⟩:=hcut;have HX:=aa hx;have HG:=aa hg;have HP:=aa hp;have iX:=aa hb;clear hg hp hx hb r0 ir HV;by_cases he:er=0;case neg=>
    rw[if_pos he]at HQ;go_wp2_with fail;refine (AH er he _).mono ?_;rintro e w2 ⟨rfl,rfl⟩;exact⟨rfl,HX.er (HR.fq iX) HQ⟩
   subst he;rw[if_neg au]at HQ;have p0:=aj HG 0 _ rfl;have p1:=aj HG 1 _ rfl;cases wh with
   |true=>
    rw[if_pos rfl]at HQ;have z7:=HX.c 7 (.slice y.ca.A y.ca.n y.ca.c) rfl;have z8:=HX.c 8 (.slice y.cb.A y.cb.n y.cb.c) rfl;have f7:=HX.f 7;have f8:=HX.f 8;go_wp2_with fail;refine (rV _).mono ?_;rintro e w2 ⟨rfl,rfl⟩;go_wp2_with fail;have HE:=aa (Ur (c:=c3) (d:=d3) HX HP);clear z7 z8 f7 f8 p0 p1;go_wp2;go_ret;exact HE.1.ok_ ((HR.fq iX).trans HE.2) HQ.out
   |false=>
    rw[if_neg au]at HQ;go_wp2_with fail;refine (rV _).mono ?_;rintro e w2 ⟨rfl,rfl⟩;go_wp2_with fail;refine (HC _ _ _ _ _ _ _ HP).mono ?_;rintro e w3 ⟨_,rfl,⟨A4,n4,c4,B4,m4,d4,rfl,xq⟩,aP⟩;simp only at xq⊢;replace HX:=aa (HX.below aP);replace HG:=aa (aJ HG aP);replace iX:=aX iX aP;have pG:=aa xq;clear aP xq p0 p1;by_cases Yk:ec=0;case neg=>
     rw[if_pos Yk]at HQ;go_wp2_with fail;refine (NK _ _ _ _ _ _ ec Yk _).mono ?_;rintro e w4 ⟨rfl,aY⟩;exact⟨rfl,(HX.below aY).er ((HR.fq iX).trans (HX.fq aY)) HQ⟩
    subst Yk;rw[if_neg au]at HQ;go_wp2_with fail;refine (En _ _ _ _ _ _ _).mono ?_;rintro e w4 ⟨rfl,aY⟩;replace HX:=aa (HX.below aY);replace HG:=aa (aJ HG aY);replace iX:=aX iX aY;replace pG:=aa (pG.below aY);clear aY;have p0:=aj HG 0 _ rfl;have p1:=aj HG 1 _ rfl;have p2:=aU HG 0;have p3:=aU HG 1;have xj:g≠wb:=ae;have pB:=iX.size;have E:=avr (c:=c4) (d:=d4) HR iX FE HG pG.out;replace HX:=aa E.1;replace HG:=aa E.2.1;replace pG:=aa E.2.2.1;replace iX:=aa E.2.2.2;clear E;go_wp2_with fail;clear p0 p1 p2 p3;generalize (w4.setCell ⟨g,0,none⟩ (.slice A4 n4 c4)).setCell ⟨g,1,none⟩ (.slice B4 m4 d4)=w5 at*;refine (HL _ _ ⟨_,_,_,_,_,_,rfl,pG⟩ HX.ld.lv.arm.rounds).mono ?_;rintro e w6 ⟨A6,c6,rfl,⟨hr6,hf6⟩,bO⟩;simp only at hr6⊢;have Xy:=bO.size;have aBV:=HX.wlt;have bE:=be w6 (.cells #[.slice A6 bl.length c6,.string rt] 80);have cJ:=bg bO bE;have Xt:=aa (show∀b o,A6=some ⟨b,o,none⟩->w.heap.size<=b from λb o e=>by have h1:=hf6 b o e;have h2:=iX.size;omega);have HV:=aa (eF.below (⟨hr6,rfl,λb o e=>by have:=hf6 b o e;omega⟩:eF w6 wb ⟨A6,bl.length,c6⟩ (aZ bl) bl.length) bE);have HZ:=aa (aR w6 (.cells #[.slice A6 bl.length c6,.string rt] 80));replace HX:=aa (HX.below cJ);replace HG:=aa (aJ HG cJ);replace iX:=aX iX cJ;replace pG:=aa (pG.below cJ);clear hr6 hf6 bO bE cJ;by_cases ZF:eo=0;case neg=>
     rw[if_pos ZF]at HQ;go_wp2_with fail;refine (AH eo ZF _).mono ?_;rintro e w2 ⟨rfl,rfl⟩;exact⟨rfl,HX.er (HR.fq iX) HQ⟩
    subst ZF;rw[if_neg au]at HQ;go_wp2_with fail;refine (rV _).mono ?_;rintro e w2 ⟨rfl,rfl⟩;go_wp2_with fail;have Pd:w6.heap.size≠wb:=ae;generalize w6.alloc (.cells #[.slice A6 bl.length c6,.string rt] 80)=w7 at*;refine jr (S:=λW=>W.cell? ⟨g,0,none⟩=some (.slice A4 n4 c4)/\W.cell? ⟨g,1,none⟩=some (.slice B4 m4 d4)/\W.cell? ⟨w6.heap.size,0,none⟩=some (.slice A6 bl.length c6)/\W.cell? ⟨w6.heap.size,1,none⟩=some (.string rt)) 9 ax ⟨aj HG 0 _ rfl,aj HG 1 _ rfl,aj HZ 0 _ rfl,aj HZ 1 _ rfl⟩ (λhS=>?_);replace HX:=aa (HX.below Y9q);replace pG:=aa (pG.below Y9q);replace HV:=aa (HV.below Y9q);replace iX:=aa (iX.drew);generalize w7.drew=w8 at hS HX pG HV iX⊢;have z7:=HX.c 7 (.slice y.ca.A y.ca.n y.ca.c) rfl;have z8:=HX.c 8 (.slice y.cb.A y.cb.n y.cb.c) rfl;have z9:=HX.c 9 (.slice y.bl.A y.bl.n y.bl.c) rfl;have Lz:=HX.c 10 (.string S.v.rt) rfl;have f7:=HX.f 7;have f8:=HX.f 8;have f9:=HX.f 9;have f10:=HX.f 10;refine kV 0 rfl hS ya2 ?_;refine kV 1 rfl hS ya2 ?_;refine kV 2 rfl hS ya2 ?_;refine kV 3 rfl hS ya2 ?_;refine kR 4 λK hK=>?_;go_simp;refine hK.out _ _ hS (λhS=>?_);clear hK K;try go_frame
    refine kR 5 λK hK=>?_;go_simp;refine hK.out _ _ hS (λhS=>?_);clear hK K;try go_frame
    refine kR 6 λK hK=>?_;go_simp;refine hK.out _ _ (k4s (k4s hS ⟨xj,xj,Pd,Pd⟩) ⟨xj,xj,Pd,Pd⟩) (λhS=>?_);clear hK K;try go_frame
    refine kR 7 λK hK=>?_;go_simp;refine hK.out _ _ hS (λhS=>?_);clear hK K;try go_frame
    refine kR 8 λK hK=>?_;go_simp;refine hK.out _ _ hS (λhS=>?_);clear hK K;try go_frame
    refine kL λK hK=>?_;go_simp;have E1:=Ur (c:=c4) (d:=d4) HX pG.out;have E2:=aei (c:=c6) (V:=⟨bl,rt⟩) E1.1 (HV.gb (gU w8 wb 7 8 (.slice A4 n4 c4) (.slice B4 m4 d4))) ((HR.fq iX).trans E1.2) Xt.out;have HE:=aa E2;refine hK.out _ _ ?_;clear hK K hS z7 z8 z9 Lz f7 f8 f9 f10 E1 E2;skip;go_wp2_with fail;refine (adw wb _ _ _ (HE.1.c 17 _ rfl) (HE.1.c 18 _ rfl) (HE.1.f 17) (HE.1.f 18)).mono ?_;rintro e w9 ⟨rfl,rfl⟩;have pD:=aa (Us HE.1 ⟨#[]⟩ false);go_wp2;go_ret;exact pD.1.ok_ (HE.2.trans pD.2) HQ.out
def yC (l:List ag):ag:=l.foldl (λa s=>a++(dU++s)) TX
theorem awc (l:List ag) (s:ag):yC (l++ [s])=yC l++(dU++s):=by unfold yC;rw[List.foldl_append];rfl
theorem aeP: ∀(l:List ag) (a:ag),(∀s∈l,s.size<=100)->(l.foldl (λa s=>a++(dU++s)) a).size<=a.size+101*l.length
 | [],a,_=>aM _
 |s::l,a,h=>by
  have h1:=aeP l (a++(dU++s)) (λx hx=>h x (by simp[hx]));have h2:=h s ak;have h3:dU.size=1:=rfl;rw[ByteArray.size_append,ByteArray.size_append,h3]at h1;rw[List.foldl_cons,List.length_cons];omega
theorem aeQ (l:List ag) (h: ∀s∈l,s.size<=100):(yC l).size<=6+101*l.length:=aeP l TX h
theorem aeR (s t:aF) (n m:Nat) (hn:n<=255): ∀x∈nk s t n m,x.size<=100:=by
 intro x hx;rw[Uj s t n m hn]at hx;obtain⟨i,_,rfl⟩:=List.mem_map.1 hx;rw[NT,ei];have e:(te (UInt8.ofNat (i+1)::lx s t m i)).length<=0+6*_:=TQ _ [];have hl:(UInt8.ofNat (i+1)::lx s t m i).length=33:=by simp[lx]
 rw[adc,atn,dx,ato,hl]at e;omega
def Uw (w:World) (s t:ag) (n k:Int) (e:Ending) (w':World):Prop:=
 ∃A l c,e= .returned (.tuple #[.slice A l c,.int .i64 (if pL s t n k=true then 0 else 1)])/\(pL s t n k=true->l=(nk s.data.toList t.data.toList n.toNat (k - 1).toNat).length/\Rd w' A (aZ (nk s.data.toList t.data.toList n.toNat (k - 1).toNat)))/\aD w w'
theorem awd (s t:ag) (n k:Int) (w:World) (hT:cX w):Calls prog 71 #[.string s,.int .i64 n,.int .i64 k,.string t] w (Uw w s t n k):=by
 unfold Uw;cases h:pL s t n k with
 |false=>exact (atz s t n k w h).mono λe w' ⟨h1,h2⟩=>⟨none,0,0,h1,λh=>(by cases h),h2⟩
 |true=>
  have h':=h;unfold pL at h';simp only[Bool.and_eq_true,decide_eq_true_eq]at h';obtain⟨⟨⟨⟨⟨h1,h2⟩,h3⟩,h4⟩,h5⟩,h6⟩:=h';obtain⟨N,rfl⟩:=Int.eq_ofNat_of_zero_le (show 0<=n by omega);obtain⟨m,hm⟩: ∃m:Nat,k=((m+1:Nat):Int):=⟨(k - 1).toNat,ae⟩
  subst hm;have hk:(((m+1:Nat):Int)- 1).toNat=m:=ae;rw[hk];exact (aty s t N m w hT h1 ae ae ae).mono λe w' ⟨B,ai,e1,e2,e3⟩=>⟨B,_,ai,e1,λ_=>⟨rfl,gz e2⟩,e3⟩
theorem awe (B rb wb:Nat) (S:aW) (y:cQ) (A C:aN) (n c m d:Nat) (ws:List ag) (ms:List Int) (w:World) (h:Rm w B rb wb S y) (hS:Gd S) (ha:Rd w A (aZ ws)) (hn:n=ws.length) (hm:Rd w C (ints ms)) (mO:m=ms.length) (h1:1<=ws.length) (h2:3<=ms.length) (hz: ∀x∈ws,x.size<=1000000) (Lp: ∀x∈ms,0<=x/\x<=1000000):
  Calls prog 26 #[.pointer (aw rb),.agg #[.slice A n c,.slice C m d]] w (ov B rb w (GD S (wx ws 0) (ix ms 1) (ix ms 2))):=by
 have hb:=be w (.cells #[.slice A n c,.slice C m d] 57);have nQ:(wx ws 0).size<=1000000:=hz _ (by unfold wx;rw[dh,cL ae];exact dY _);have hzk:0<=ix ms 2/\ix ms 2<=1000000:=Lp _ (by unfold ix;rw[dh,cL ae];exact dY _);obtain⟨ab,ao,rfl,lJ⟩:=tk (ha.below hb) (k:=0) ae;obtain⟨cb,co,rfl,gu⟩:=tl (hm.below hb) (k:=1) ae;obtain⟨cb',co',e,fi⟩:=tl (hm.below hb) (k:=2) ae;injection e with e
 injection e with e1 e2
 subst e1 e2;rw[Nat.add_zero]at lJ;generalize wx ws 0=s at lJ nQ⊢;generalize ix ms 1=N at gu⊢;generalize ix ms 2=k at fi hzk⊢;have HR:=aa h;have HB:=aa hb;have H1:=aa (h.below hb);have r0:=(h.below hb).at_;have ir:=(h.below hb).c 17 (.bool S.op) rfl;have l0:=vY w (some ⟨ab,ao,none⟩) (some ⟨cb,co,none⟩) n c m d;have L:=aa (And.intro l0.1 (And.intro lJ (And.intro l0.2 (And.intro gu fi))));have e0:0<n:=ae;have e1:(1:Int)<(m:Int):=ae;have e2:(2:Int)<(m:Int):=ae;have aEU:IntKind.i64.wrap (k - 1)=k - 1:=IntWalk.i64_in _ ae;have aFN:IntKind.i64.wrap (32*(k - 1))=32*(k - 1):=IntWalk.i64_in _ ae;obtain⟨op,je⟩: ∃op,op=S.op:=⟨_,rfl⟩
 have HQ:=aa (show GD S s N k=if op=false then (S,.er 212) else if (jT s (32*(k - 1))).2≠0 then (S,.er (jT s (32*(k - 1))).2) else if pL S.ms (jT s (32*(k - 1))).1 N k=false then (S,.er 1)
  else (S,.ok (yC (nk S.ms.data.toList (jT s (32*(k - 1))).1.data.toList N.toNat (k - 1).toNat))) by rw[je];rfl)
 have wT:=aa (λW hT hR=>ad9 s (32*(k - 1)) W hT hR ae);generalize jT s (32*(k - 1))=r at HQ wT;obtain⟨t,re⟩:=r;have Pg:=aa (λW hR=>awd S.ms t N k W hR);unfold Uw at Pg;have j5:=aa (show pL S.ms t N k=true-> ∀x∈nk S.ms.data.toList t.data.toList N.toNat (k - 1).toNat,x.size<=100 from λh=>aeR _ _ _ _ (by
  unfold pL at h;simp only[Bool.and_eq_true,decide_eq_true_eq]at h;omega))
 have pD:=aa (show pL S.ms t N k=true->(nk S.ms.data.toList t.data.toList N.toNat (k - 1).toNat).length<=255 from λh=>by
  unfold pL at h;simp only[Bool.and_eq_true,decide_eq_true_eq]at h;rw[au9 _ _ _ _ ae];omega)
 generalize nk S.ms.data.toList t.data.toList N.toNat (k - 1).toNat=E at HQ Pg j5 pD;generalize pL S.ms t N k=ok at HQ Pg j5 pD;rw[<-je]at ir;clear h hb hS ha hn hm mO h1 h2 hz Lp lJ gu fi je l0 nQ hzk;cases op with
 |false=>
  exact Oz
 |true=>
  rw[if_neg au]at HQ;go_in;go_wp2_with fail;refine (Kb rb wb _ r0 ir).mono ?_;rintro e w1 ⟨rfl,rfl⟩;go_wp2_with fail;refine Km (S:=λW=>Below ((w.alloc (.cells #[.slice (some ⟨ab,ao,none⟩) n c,.slice (some ⟨cb,co,none⟩) m d] 57)).drew).heap.size ((w.alloc (.cells #[.slice (some ⟨ab,ao,none⟩) n c,.slice (some ⟨cb,co,none⟩) m d] 57)).drew) W) ax (aI _ _) (λhS=>?_);have HD:=aa (H1.below Y9q);have dM:=aa (HB.drew);replace L:=aa (jW L Y9q);generalize (w.alloc (.cells #[.slice (some ⟨ab,ao,none⟩) n c,.slice (some ⟨cb,co,none⟩) m d] 57)).drew=w0 at hS HD dM L⊢;clear r0 ir;refine hU 0 hS ?_;refine hV 1 rfl hS (by intro _ h9;have c2:=(jW L.out h9).2.2.1;go_simp;try with_reducible rfl) ?_;refine hU 2 hS ?_;refine hV 3 rfl hS (by intro _ h9;have c3:=(jW L.out h9).2.2.2.1;go_simp;try with_reducible rfl) ?_;refine hU 4 hS ?_;refine hV 5 rfl hS (by intro _ h9;have c2:=(jW L.out h9).2.2.1;go_simp;try with_reducible rfl) ?_;refine hU 6 hS ?_;refine hV 7 rfl hS (by intro _ h9;have c4:=(jW L.out h9).2.2.2.2;go_simp;try with_reducible rfl) ?_;refine hU 8 hS ?_;refine hU 9 hS ?_;refine wpAnyH_done ax ?_ _;go_wp2_with fail;refine Km (S:=λW=>Below w0.drew.heap.size w0.drew W) ax (aI _ _) (λhS=>?_);replace HD:=aa (HD.below Y9q);replace dM:=aa (dM.drew);replace L:=aa (jW L Y9q);skip;generalize w0.drew=w9 at hS HD dM L⊢;refine hU 0 hS ?_;refine hU 1 hS ?_;refine hU 2 hS ?_;refine hV 3 rfl hS (by intro _ h9;have c18:=(HD.out.below h9).c 18 (.string S.ms) rfl;go_simp;try with_reducible rfl) ?_;refine hU 4 hS ?_;refine hU 5 hS ?_;refine hU 6 hS ?_;refine hV 7 rfl hS (by intro _ h9;have c0:=(jW L.out h9).1;go_simp;try with_reducible rfl) ?_;refine hU 8 hS ?_;refine hV 9 rfl hS (by intro _ h9;have c1:=(jW L.out h9).2.1;go_simp;try with_reducible rfl) ?_;refine hU 10 hS ?_;refine hU 11 hS ?_;refine hU 12 hS ?_;refine hU 19 hS ?_;refine yB (rs:= [13]) ax ak (jE.cons rfl (λK hK=>?_) jE.nil);go_simp;refine Calls.mono (by exact wT.out _ (HD.below hS).ld.lv.turns (HD.below hS).ld.lv.arm.rounds) ?_;rintro _ w2 ⟨ml,av⟩;simp only at ml;by_cases nL:re=0;case neg=>
   rw[if_neg nL]at ml;subst ml;rw[if_pos nL]at HQ;exact⟨rfl,(HD.below (hS.trans (av.mono hS.size))).er ((HR.fq dM).trans (HD.fq (hS.trans (av.mono hS.size)))) HQ⟩
  rw[if_pos nL]at ml;subst ml nL;rw[if_neg au]at HQ;go_simp;refine hK.out _ _ (hS.trans (av.mono hS.size)) (λhS=>?_);clear hK K;try go_frame
  refine yB (rs:= [14]) ax ak (jE.cons rfl (λK hK=>?_) jE.nil);go_simp;refine Calls.mono (by exact Pg.out _ (HD.below hS).ld.lv.arm.rounds) ?_;rintro _ w3 ⟨A3,l3,c3,rfl,ID,aL⟩;go_simp;refine hK.out _ _ (hS.trans (aL.mono hS.size)) (λhS=>?_);clear hK K;try go_frame
  refine hU 15 hS ?_;refine hU 16 hS ?_;refine yB (rs:= [17]) ax ak (jE.cons rfl (λK hK=>?_) jE.nil);cases ok with
  |false=>
   rw[if_pos rfl]at HQ;go_simp;refine Calls.mono (by exact atQ _ _ _ 1 au _) ?_;rintro _ w4 ⟨rfl,rfl⟩;exact⟨rfl,(HD.below hS).er ((HR.fq dM).trans (HD.fq hS)) HQ⟩
  |true=>
  rw[if_neg au]at HQ;obtain⟨rfl,Lg⟩:=ID rfl;go_simp;refine Calls.mono (by exact atO _ _ _ _) ?_;rintro _ w4 ⟨rfl,rfl⟩;go_simp;refine hK.out _ _ hS (λhS=>?_);clear hK K;try go_frame
  refine hU 18 hS ?_;refine wpAnyH_done ax ?_ _;go_wp2_with fail;have HS:=aX dM hS;have j3:=aa Lg;replace HD:=aa (HD.below hS);replace j5:=aa (j5 trivial);replace pD:=aa (pD trivial);clear hS Lg ID aL;go_loopw [8,40] (λx i wr=> ∃k:Nat,k<=E.length/\i= .int .i64 k/\x= .string (yC (E.take k))/\wr=w4) (λ_ i _=>E.length -(intOf i).toNat);case atStart=>exact⟨0,Nat.zero_le _,rfl,rfl,rfl⟩
  case round=>
   obtain⟨j,hj,rfl,rfl,rfl⟩:=hrel;by_cases aK:j<E.length
   ·have Qg:=aK;have Xu:=pD.out;obtain⟨b,o,rfl,hc⟩:=tk j3 Qg;have hx:wx E j=E[j]:=(by unfold wx;rw[dh,cL Qg];rfl);have Q3:yC (E.take (j+1))=yC (E.take j)++(dU++wx E j):=(by rw[List.take_succ_eq_append_getElem Qg,awc,hx]);have jJ:(wx E j).size<=100:=(by rw[hx];exact j5.out _ (dY _));have sB:=aeQ (E.take j) (λx hx=>j5.out x (List.mem_of_mem_take hx));have rv:(E.take j).length<=255:=(by rw[List.length_take];have:=pD.out;omega);have dG:=aa Q3;generalize wx E j=x at hc dG jJ;obtain⟨P,hP⟩: ∃P,P=yC (E.take j):=⟨_,rfl⟩
    rw[<-hP]at dG sB⊢;have z1: ¬9223372036854775807<1+x.size:=ae;have z2: ¬9223372036854775807<P.size+(1+x.size):=ae;have e5:(j:Int)<(E.length:Int):=ae;have hj9:j<=254:=ae;clear Q3 hx hP jJ sB rv Qg aK hj;go_wp2;go_roundw;case rel=>exact⟨j+1,ae,by go_num,by rw[dG.out];rfl,by first|rfl|trivial⟩
    case measure=>exact cM
   ·obtain rfl:j=E.length:=ae;rw[List.take_length];clear hj aK;go_wp2;go_ret;exact HD.ok_ (HR.fq HS) HQ.out
theorem Kn {W':World} (h:Rd W A xs) (hx: ∀u∈xs,ko u=false) (hs: ∀j u,W.cell? ⟨g,j,none⟩=some u->ko u=true) (hg:W.grownBy W' (some g)):Rd W' A xs:=by
 intro j u hu;obtain⟨b,aS,hA,hc⟩:=h j u hu;refine⟨b,aS,hA,(fB (hg.block b (cU hc) (λe=>?_))).trans hc⟩;have e:=bW e;subst e;have h1:=hs _ _ hc;exact OE
theorem aeS (l:List Int): ∀u∈ints l,ko u=false:=by
 intro u hu;exact G5
theorem awf {w:World} {B:Nat} {e:TypeId} {size:Nat} {n c m:Nat} (h:w.ownsRow B e size (.slice A n c) m xs) (hn:0<n): ∃g,A=some ⟨g,0,none⟩/\B<=g:=by
 obtain⟨-,h⟩:=h;rcases h with⟨hv,_⟩|⟨g,ai,bK,hv,hb,_⟩
 ·injection hv with _ h1 _
  omega
 ·injection hv with h1 _ _
  exact⟨g,h1,hb⟩
theorem aeT (x:ag): ∀(zs:List ag) (k:Nat),Lib.idxFromS zs x k= -1\/((k:Int)<=Lib.idxFromS zs x k/\Lib.idxFromS zs x k<((k+zs.length:Nat):Int))
 | [],k=> .inl rfl
 |z::zs,k=>by
  rw[Lib.idxFromS];split
  ·right;rw[List.length_cons];omega
  ·rcases aeT x zs (k+1) with h|⟨h1,h2⟩
   ·exact .inl h
   ·right;rw[List.length_cons];omega
theorem awg (zs:List ag) (x:ag) (h: ¬Lib.idxOfS zs x<0): ∃k:Nat,Lib.idxOfS zs x=(k:Int)/\k<zs.length:=by
 unfold Lib.idxOfS at h⊢;rcases aeT x zs 0 with h1|⟨h1,h2⟩
 ·omega
 ·exact⟨(Lib.idxFromS zs x 0).toNat,ae,ae⟩
end
section
variable {P:Prop} {S:aW}
abbrev gL (e:Int):Prop:=0<=e/\e<=1000
def Ob (f:az->az×Int):Prop:= ∀P,gL (f P).2
theorem yI (h:P:=by
 repeat' split
 all_goals first|decide|(dsimp only;decide)):P:=h
theorem UI (a:Int) (s:ag):Ob (i' a s):=λP=>by
 unfold i';exact yI
theorem Kt (f:Nat->Int):Ob (uk f):=λP=>by
 unfold uk;split;all_goals first|decide|(dsimp only;decide)
theorem UJ: ∀(l:List (az->az×Int)) (P:az),(∀f∈l,Ob f)->gL (fa l P).2
 | [],P,_=>by unfold fa;first|decide|(dsimp only;decide)
 |f::l,P,hl=>by
  rw[fa];split
  ·exact hl f (Vs ..) P
  ·exact UJ l _ λg hg=>hl g (Vu _ hg)
theorem ae' (P:az) (a:Int):gL (eK P a).2:=by
 unfold eK;exact yI
theorem AO (h:P:=by
 first|decide|(dsimp only;decide)):P:=h
theorem UK (P:az) (a:Int):gL (cF P a).2.2:=by
 unfold cF;split
 ·exact ae' P a
 ·split
  ·exact AO
  ·exact ae' _ _
theorem aw4 (P:az) (d:Int) (fs:List (az->az×Int)) (h: ∀f∈fs,Ob f):gL (vL P d fs).2.2:=by
 unfold vL;split
 ·exact UJ _ _ λf hf=>h f (List.mem_of_mem_take hf)
 ·exact AO
theorem Oc (P:az) (a:Int) (s:ag) (d:Int):gL (eC P a s d).2.2:=by
 unfold eC;split
 ·exact UK P a
 ·refine aw4 _ _ _ λf hf=>?_;simp only[pQ,List.mem_cons,List.not_mem_nil,or_false]at hf;rcases hf with rfl|rfl|rfl|rfl
  ·exact UI _ _
  ·exact Kt _
  ·exact UI _ _
  ·exact Kt _
theorem afa: ∀(l:List (Int×ByteArray)) (P:az) (d:Int),gL (qK l P d).2
 | [],P,d=>by unfold qK;first|decide|(dsimp only;decide)
 |(a,s)::l,P,d=>by
  rw[qK];split
  ·exact Oc _ _ _ _
  ·split
   ·exact afa l _ _
   ·exact AO
theorem afb (P:az) (d:Int) (l:List (Int×ByteArray)):gL (eq P d l).2:=afa l P _
theorem UL (P:az):gL (dr P).2:=by
 unfold dr;repeat' split
 all_goals first|exact UK _ _|decide|(dsimp only;decide)
theorem agX (h:P:=by
 repeat' split
 all_goals first|exact UL _|exact afb _ _ _|decide|(dsimp only;decide)):P:=h
theorem aw5 (P:az) (e x:Int) (b s:ag) (d:Int):gL (nZ P e x b s d).2:=by
 unfold nZ;exact agX
theorem afc (P:az) (e d:Int):gL (fI P e d).2:=by
 unfold fI;exact agX
theorem UM {f:Nat->az->Int->az×Int} (hf: ∀i P d,gL (f i P d).2) (gW:Int) (l:List az) (d:Int): ∀k,gL (dz f gW l d k).2.2
 |0=>by unfold dz;first|decide|(dsimp only;decide)
 |k+1=>by
  have h:=UM hf gW l d k;rw[dz];repeat' split
  all_goals first|exact h|exact hf _ _ _|decide|(dsimp only;decide)
theorem afd (D:eZ) (l:List az) (d:Int):gL (ij D l d).2.2:=by
 unfold ij;split
 ·unfold rR;simp only;repeat' split
  all_goals first|decide|(dsimp only;decide)|exact UM (f:=lC (ig D)) (λi P d=>aw5 P _ _ _ _ _) _ _ _ _|exact UM (f:=rQ (ig D)) (λi P d=>afc P _ _) _ _ _ _
 ·exact AO
theorem Od {f:az->Int} (hf: ∀P,gL (f P)): ∀l,gL (kq f l)
 | []=>by unfold kq;first|decide|(dsimp only;decide)
 |P::l=>by
  rw[kq];split
  ·exact hf P
  ·exact Od hf l
theorem aw6 (l:List az) (e:Int):gL (l9 l e).2:=by
 unfold l9;repeat' split
 all_goals first|decide|(dsimp only;decide)|exact Od UL _|exact Od (f:=λP=>(fI P e (-1)).2) (λP=>afc P e (-1)) _
theorem aw7 (l:List az) (e:Int):gL (me l e).2:=by
 unfold me;split
 ·exact Od (f:=λP=>(eW [] P).2) (λP=>Kt _ P) _
 ·exact aw6 _ _
theorem Oe (P:az):gL (cR P).2:=by
 unfold cR;repeat' split
 all_goals first|decide|(dsimp only;decide)|exact UK _ _
theorem aw8 (P:az) (V:dW) (d:Int):gL (iB P V d).2.2:=by
 unfold iB;repeat' split
 all_goals first|exact Oe _|decide|(dsimp only;decide)|skip
 unfold D6;repeat' split
 all_goals first|decide|(dsimp only;decide)|exact Oc _ _ _ _|skip
 refine UJ _ P λf hf=>?_;have hf:=List.mem_of_mem_take hf;unfold sZ Gt at hf;rcases List.mem_append.1 hf with h1|h1
 ·obtain⟨i,_,rfl⟩:=List.mem_map.1 h1;exact UI _ _
 ·rw[List.mem_singleton.1 h1];exact Kt _
theorem afe (P:az) (a b c:Int):gL (fN P a b c).2.2.2.2:=by
 unfold fN;repeat' split
 all_goals first|decide|(dsimp only;decide)|exact Oc _ _ _ _
theorem aff (S:aW):gL (dX S).2.2:=by
 unfold dX;split
 ·exact afe _ _ _ _
 ·exact AO
theorem afg (a b c d:ag):iN a b c d<=1000:=by
 unfold iN;exact yI
theorem afh (a b c d:ag):jC a b c d<=1000:=by
 unfold jC;exact yI
theorem afi (a b c:ag):nh a b c<=1000:=by
 unfold nh;split
 ·exact AO
 ·exact afg _ _ _ _
theorem aw9 (r:dS) (ls:List fM) (wp:ag):xS r ls wp<=1000:=by
 unfold xS;repeat' split
 all_goals first|decide|(dsimp only;decide)|skip
 unfold Ai;split
 ·exact AO
 ·exact afh _ _ _ _
theorem afj (v:dW) (t:Bool):mG v t<=1000:=by
 unfold mG;exact yI
theorem aw' (v:dW) (k:ag) (i:Int):um v k i<=1000:=by
 unfold um;split
 ·exact afj _ _
 ·unfold pk;repeat' split
  all_goals first|decide|(dsimp only;decide)|exact afh _ _ _ _
theorem axa (v:dW) (k n:ag) (i:Int) (s:ag):sY v k n i s<=1000:=by
 unfold sY;split
 ·exact afj _ _
 ·unfold pj;repeat' split
  all_goals first|decide|(dsimp only;decide)|exact afg _ _ _ _
theorem afk (s:ag) (n:Int):gL (jT s n).2:=by
 unfold jT;exact yI
theorem afl (s:ag) (l:List ag) (k e:Int):gL (kJ s l k e):=by
 unfold kJ;split;all_goals first|decide|(dsimp only;decide)
theorem Ku {n:Nat} (h:n<=1000):gL (n:Int):=⟨ae,ae⟩
def ku:Tl->Prop
 | .ok s=>s.size<=40000
 | .er e=>gL e
theorem v8:ku (.ok gT):=by unfold ku;decide
theorem wg:ku (.ok TU):=by unfold ku;decide
theorem wj:ku (.ok TV):=by unfold ku;decide
theorem Ct:ku (.er 212):=by unfold ku;decide
theorem Cu:ku (.er 1):=by unfold ku;decide
theorem GR {n:Int} (h0: -1000000000<=n) (h1:n<=1000000000):(fc n).size<=21:=NM n ae ae
theorem afm {t:Tl} (h:ku t):(mI t).size<=40000:=by
 cases t with
 |ok s=>exact h
 |er e=>
  have h1:gL e:=h;have:=GR (n:=e) ae ae;unfold mI;rw[ByteArray.size_append];show 6+_<=_;omega
theorem axb (r:dS) (ls:List fM) (wp:ag):(BV r ls wp).size<=1000000:=by
 unfold BV;repeat' split
 all_goals first|exact Nat.zero_le _|skip
 unfold Aj;exact ahH
theorem afn (cred:ag) (ns:List ag): ∀(l:List ag) (p:List az×List fM),kt p.1->kt (l.foldl (ik cred ns) p).1/\(l.foldl (ik cred ns) p).1.length=p.1.length/\(l.foldl (ik cred ns) p).2.length<=p.2.length+l.length
 | [],p,h=>⟨h,rfl,aM _⟩
 |x::l,p,h=>by
  have h1:kt (ik cred ns p x).1/\(ik cred ns p x).1.length=p.1.length/\(ik cred ns p x).2.length<=p.2.length+1:=by
   unfold ik;simp only;split
   ·exact⟨h,rfl,ae⟩
   ·refine⟨?_,?_,?_⟩;all_goals dsimp only
    ·split
     ·exact Un h _ (au' _ _ _ (aec h _))
     ·exact h
    ·split
     ·exact List.length_set ..
     ·rfl
    ·split
     ·rw[dx];exact aM _
     ·omega
  obtain⟨a,b,c⟩:=afn cred ns l _ h1.1;refine⟨a,b.trans h1.2.1,?_⟩;rw[List.length_cons];exact bD c ae
theorem Of {D:eZ} {l:List az} {d:Int} (h:kt l) (h0:(ij D l d).2.2=0):(ij D l d).1.length=l.length:=by
 unfold ij at h0⊢;split at h0
 ·rename_i hc;rw[if_pos hc];unfold rR at h0⊢;have h1:=Kf (f:=lC (ig D)) (λi P d hP=>aeb P _ _ _ _ _ hP) 4 l (oh l.length d) h l.length;have h2:=Kf (f:=rQ (ig D)) (λi P d hP=>Um P _ _ hP) 16 _ (dz (lC (ig D)) 4 l (oh l.length d) l.length).2.1 h1.1 l.length;simp only at h0⊢;split
  ·exact h1.2
  ·rename_i a1;rw[if_neg a1]at h0;split
   ·rename_i a2;rw[if_pos a2]at h0;exact absurd h0 a2
   ·rename_i a2;rw[if_neg a2]at h0;split
    ·exact h2.2.trans h1.2
    ·rename_i a3;rw[if_neg a3]at h0;split
     ·rename_i a4;rw[if_pos a4]at h0;exact absurd h0 a4
     ·exact h2.2.trans h1.2
 ·exact absurd h0 au
theorem afo {l:List az} {e:Int} (h0:(me l e).2=0):(me l e).1.length=l.length:=by
 unfold me at h0⊢;split at h0
 ·rename_i a1;exact absurd h0 a1
 ·rename_i a1;rw[if_neg a1];unfold l9 at h0⊢;split at h0
  ·exact absurd h0 au
  ·rename_i a2;rw[if_neg a2];split at h0
   ·rename_i a3;exact absurd h0 a3
   ·rename_i a3;rw[if_neg a3];split at h0
    ·rename_i a4;rw[if_pos a4];exact kQ ..
    ·rename_i a4;rw[if_neg a4];split at h0
     ·rename_i a5;exact absurd h0 a5
     ·rename_i a5;rw[if_neg a5];simp only[kQ]
theorem afp (S:aW):(dX S).1.ds=S.ds/\(dX S).1.ns=S.ns:=by
 unfold dX;split<;>exact⟨rfl,rfl⟩
theorem afq (h:Gd S):Gd (jq S):= {h with ms:=Nat.zero_le _}
theorem axc (h:Gd S) (cred:ag) (l:List ag):Gd (vX S cred l).1/\ku (vX S cred l).2:=by
 obtain⟨h1,h2,_⟩:=afn cred S.ns l (S.ds,[]) h.ds;have hG:Gd {S with ds:=(l.foldl (ik cred S.ns) (S.ds,[])).1} := {h with ds:=h1,dn:=h2.trans h.dn}
 unfold vX;simp only;split
 ·exact⟨hG,Ku (aw9 _ _ _)⟩
 ·exact⟨{hG with ms:=axb _ _ _},by first|exact v8|exact wg|exact wj|(dsimp only;decide)⟩
theorem axd (h:Gd S) (i:Int):Gd (nz S i).1/\ku (nz S i).2:=by
 unfold nz;split
 ·exact⟨h,by first|exact Ct|exact Cu|(dsimp only;decide)⟩
 ·split
  ·exact⟨h,Ku (aw' _ _ _)⟩
  ·refine⟨h,?_⟩;have:=aef S.v S.ms i;show (AF++un S.v S.ms i).size<=40000;rw[ByteArray.size_append];show 5+_<=_;omega
theorem axe (h:Gd S) (i:Int) (s:ag):Gd (yu S i s).1/\ku (yu S i s).2:=by
 unfold yu;split
 ·exact⟨h,by first|exact Ct|exact Cu|(dsimp only;decide)⟩
 ·split
  ·exact⟨h,aff S⟩
  ·split
   ·exact⟨Kh h,Ku (axa _ _ _ _ _)⟩
   ·rename_i a;refine⟨{Kh h with bl:=?_},by first|exact v8|exact wg|exact wj|(dsimp only;decide)⟩;show (uo _ _ _ _ _).bl.length<=1000000;unfold uo;rw[if_pos (Decidable.not_not.1 a)];show (List.set _ _ _).length<=_;rw[List.length_set];exact h.bl
theorem axf (h:Gd S) (d:Int):Gd (Gy S d).1/\ku (Gy S d).2:=by
 have h1:=aed S.ch S.v d h.ch;have h2:gl (eW [] (iB S.ch S.v d).1).1:=Em _ _ h1;unfold Gy;simp only;split
 ·exact⟨h,by first|exact Ct|exact Cu|(dsimp only;decide)⟩
 ·split
  ·exact⟨h,aw8 _ _ _⟩
  ·split
   ·exact⟨{h with ch:=h1},by first|exact v8|exact wg|exact wj|(dsimp only;decide)⟩
   ·split
    ·exact⟨h,Kt _ _⟩
    ·split
     ·exact⟨h,Oe _⟩
     ·exact⟨afq {h with ch:=h2,bl:=NX _},by first|exact v8|exact wg|exact wj|(dsimp only;decide)⟩
theorem agx (h:P:=by
 show (Gz++fc _).size<=40000;rw[ByteArray.size_append];show 4+_<=_;omega):P:=h
theorem axg (h:Gd S):Gd (GA S).1/\ku (GA S).2:=by
 unfold GA;split
 ·exact⟨h,Oe _⟩
 ·refine⟨{h with bl:=NX _},?_⟩;have:=GR (n:=((cR S.ch).1.gen:Nat)) ae (by have:=aeg S.ch;omega);exact agx
theorem axh (h:Gd S) (i:Int) (s:ag):Gd (GC S i s).1/\ku (GC S i s).2:=by
 unfold GC;split
 ·refine⟨h,?_⟩;show gL _;unfold pY;exact yI
 ·refine⟨{h with ch:=?_},by first|exact v8|exact wg|exact wj|(dsimp only;decide)⟩;show gl _;unfold pY;repeat' split
  all_goals first|exact mJ|exact⟨by simp only[List.length_set];exact h.ch.1,h.ch.2.1,by simp only[List.length_set];exact h.ch.2.2⟩
theorem axi (h:Gd S) (seed:ag) (k d:Int):Gd (Cm S seed k d).1/\ku (Cm S seed k d).2:=by
 have hn:=Kh h;have hds:=afp S;unfold Cm;simp only;split
 ·exact⟨h,by first|exact Ct|exact Cu|(dsimp only;decide)⟩
 ·split
  ·exact⟨h,aff S⟩
  ·split
   ·exact⟨hn,afl _ _ _ _⟩
   ·rename_i a3;split
    ·exact⟨hn,Ku (afi _ _ _)⟩
    ·split
     ·exact⟨hn,afd _ _ _⟩
     ·rename_i a5;have a5:=Decidable.not_not.1 a5;obtain⟨d1,d2,d3,d4,d5,d6⟩:=Up (Decidable.not_not.1 a3);have l1:=Of h.ds a5;have s1:=(NW (du seed S.ns k (S.r.e+1)) S.ds d h.ds).1;generalize ij (du seed S.ns k (S.r.e+1)) S.ds d=R at a5 l1 s1⊢;obtain⟨Rl,Rb,Re⟩:=R;simp only at a5 l1 s1⊢;have hT:gL (if Rb=true then (Rl,(0:Int)) else me Rl (S.r.e+1)).2:=by
       split
       ·exact AO
       ·exact aw7 _ _
      have Pz:kt (if Rb=true then (Rl,(0:Int)) else me Rl (S.r.e+1)).1:=by
       split
       ·exact s1
       ·exact (avb _ _ s1).1
      have zm:(if Rb=true then (Rl,(0:Int)) else me Rl (S.r.e+1)).2=0->(if Rb=true then (Rl,(0:Int)) else me Rl (S.r.e+1)).1.length=S.ds.length:=by
       split
       ·exact λ_=>l1
       ·exact λh=>(afo h).trans l1
      generalize (if Rb=true then (Rl,(0:Int)) else me Rl (S.r.e+1))=T at hT Pz zm⊢;obtain⟨Tl,Te⟩:=T;simp only at hT Pz zm⊢;split
      ·exact⟨hn,hT⟩
      ·rename_i a6;have hd:Tl.length=(dX S).1.ns.length:=by
        rw[zm (Decidable.not_not.1 a6),hds.2];exact h.dn
       split
       ·exact⟨hn,UL _⟩
       ·split
        ·exact⟨{hn with ds:=Pz,dn:=hd},by first|exact v8|exact wg|exact wj|(dsimp only;decide)⟩
        ·refine⟨{hn with ds:=Pz,dn:=hd,e0:=d1,e1:=d2,rn:=d5,rp:=d6},?_⟩;have h0:=h.e0;have h1:=h.e1;have:=GR (n:=S.r.e+1) ae ae;show (TW++fc _).size<=40000;rw[ByteArray.size_append];show 6+_<=_;omega
theorem axj (h:Gd S) (seed:ag) (n k:Int):Gd (GD S seed n k).1/\ku (GD S seed n k).2:=by
 unfold GD;simp only;split
 ·exact⟨h,by first|exact Ct|exact Cu|(dsimp only;decide)⟩
 ·split
  ·exact⟨h,afk _ _⟩
  ·split
   ·exact⟨h,by first|exact Ct|exact Cu|(dsimp only;decide)⟩
   ·rename_i a;refine⟨h,?_⟩;have akN:n.toNat<=255:=by
     have a:=Bool.of_not_eq_false a;unfold pL at a;simp only[Bool.and_eq_true,decide_eq_true_eq]at a;omega
    have hl:(nk S.ms.data.toList (jT seed (32*(k - 1))).1.data.toList n.toNat (k - 1).toNat).length=n.toNat:=by
     rw[Uj _ _ _ _ akN];simp
    have h1:=aeQ (nk S.ms.data.toList (jT seed (32*(k - 1))).1.data.toList n.toNat (k - 1).toNat) (aeR _ _ _ _ akN);rw[hl]at h1;show (yC (nk S.ms.data.toList (jT seed (32*(k - 1))).1.data.toList n.toNat (k - 1).toNat)).size<=40000;omega
theorem afr (h:Gd S) (c:Nat) (ws:List ag) (ms:List Int):Gd (uu c S ws ms).1/\ku (uu c S ws ms).2:=by
 unfold uu;by_cases a1:c=1
 ·rw[if_pos a1];exact axc h _ _
 rw[if_neg a1];by_cases a2:c=2
 ·rw[if_pos a2];exact⟨afq h,by first|exact v8|exact wg|exact wj|(dsimp only;decide)⟩
 rw[if_neg a2];by_cases a3:c=3
 ·rw[if_pos a3];exact axd h _
 rw[if_neg a3];by_cases a4:c=4
 ·rw[if_pos a4];exact axe h _ _
 rw[if_neg a4];by_cases a5:c=5
 ·rw[if_pos a5];exact axf h _
 rw[if_neg a5];by_cases a6:c=6
 ·rw[if_pos a6];exact axg h
 rw[if_neg a6];by_cases a7:c=7
 ·rw[if_pos a7];exact axh h _ _
 rw[if_neg a7];by_cases a8:c=8
 ·rw[if_pos a8];exact axi h _ _ _
 rw[if_neg a8];by_cases a9:c=9
 ·rw[if_pos a9];exact axj h _ _ _
 rw[if_neg a9];by_cases a10:c=10
 ·rw[if_pos a10];unfold NG;split
  ·refine⟨h,?_⟩;show gL _;unfold AG;exact yI
  ·exact⟨{h with ms:=avc _ _},by first|exact v8|exact wg|exact wj|(dsimp only;decide)⟩
 rw[if_neg a10];by_cases a11:c=11
 ·rw[if_pos a11];unfold NH;split
  ·refine⟨h,?_⟩;show gL _;unfold kO;exact yI
  ·refine⟨{h with an:=?_},by first|exact v8|exact wg|exact wj|(dsimp only;decide)⟩;show (kO _ _ _).1.length<=_;unfold kO;repeat' split
   all_goals first|exact Nat.zero_le _|(rw[List.length_set];exact h.an)
 rw[if_neg a11];by_cases a12:c=12
 ·rw[if_pos a12];unfold NI;split
  ·refine⟨h,?_⟩;show gL _;unfold oq;exact yI
  ·refine⟨h,?_⟩;obtain⟨k0,k1⟩:=aeo S.an (ix ms 0);have:=GR (n:=(oq S.an (ix ms 0)).1) ae ae;exact agx
 rw[if_neg a12]
 ·refine⟨h,?_⟩;have h0:=h.e0;have h1:=h.e1;have:=GR (n:=S.r.e) ae ae;show (fc _++_).size<=40000;rw[ByteArray.size_append];split
  ·show _+5<=_;omega
  ·show _+5<=_;omega
theorem axk (s:ag) (n:Int):(jT s n).1.size<=65536:=by
 unfold jT;repeat' split
 all_goals first|exact Nat.zero_le _|skip
 rw[ei,List.length_take];omega
theorem afs (n:Int):gl (pp n).1:=by
 unfold pp;split
 ·rename_i h;have:=(yh h).2;exact Ke _ _ _ _ (Kg _ ae ae)
 ·exact mJ
theorem aft (seed cred:ag) (ns:List ag) (k n:Int):(∀S,(mc seed cred ns k n).1=some S->Gd S)/\ku (mc seed cred ns k n).2:=by
 have no: ∀ {t:Tl},ku t->(∀S,((none,t):Option aW×Tl).1=some S->Gd S)/\ku ((none,t):Option aW×Tl).2:=λht=>⟨λS h=>(by cases h),ht⟩
 unfold mc;simp only;split
 ·exact no (afl _ _ _ _)
 rename_i a1;split
 ·refine no ?_;show gL _;unfold pp;split
  ·exact Oc _ _ _ _
  ·exact AO
 split
 ·exact no (afb _ _ _)
 split
 ·exact no (afd _ _ _)
 rename_i a4;split
 ·exact no (afk _ _)
 split
 ·exact no (afe _ _ _ _)
 split
 ·exact no (Ku (afi _ _ _))
 split
 ·exact no (Oe _)
 obtain⟨d1,d2,d3,d4,d5,d6⟩:=Up (Decidable.not_not.1 a1);have hs:kt (List.replicate ns.length (lZ (gE cred)).1):=λP hP=>by
  rw[(List.mem_replicate.1 hP).2];exact GM _ _ _ (Kg 6 au au)
 have l1:=Of hs (Decidable.not_not.1 a4);rw[sd]at l1;refine⟨λS e=>?_,by first|exact v8|exact wg|exact wj|(dsimp only;decide)⟩;injection e with e
 subst e;exact⟨(NW _ _ _ hs).1,l1,bD d3 au,d1,d2,bD (axk _ _) au,afs _,NX _,aee (Kg 3 au au) _ _ _,rfl,by
  show (List.replicate _ _).length<=_;rw[sd];omega,d4,d5,d6⟩
theorem afu {R:Option aW} (h: ∀S,R=some S->Gd S) (s:ag):(∀S,(fw R s).1=some S->Gd S)/\(fw R s).2.size<=40000:=by
 unfold fw;split
 ·exact⟨h,by first|exact Ct|exact Cu|(dsimp only;decide)⟩
 ·split
  ·exact⟨h,by first|exact Ct|exact Cu|(dsimp only;decide)⟩
  ·split
   ·simp only;obtain⟨g1,g2⟩:=aft (wx ((dP s dU).drop 1) 0) (wx ((dP s dU).drop 1) 1) ((dP s dU).drop 5) (ix _ 2) (ix _ 3);refine⟨λS e=>?_,afm g2⟩;rcases Option.or_eq_some_iff.1 e with e|⟨_,e⟩
    ·exact g1 S e
    ·exact h S e
   ·split
    ·exact⟨λS e=>(by cases e),by first|exact v8|exact wg|exact wj|(dsimp only;decide)⟩
    ·rename_i S0;obtain⟨g1,g2⟩:=afr (h S0 rfl) _ ((dP s dU).drop 1) _;refine⟨λS e=>?_,afm g2⟩;injection e with e
     exact e▸g1
end
variable {A:aN} {B B0 g j m n:Nat} {P:Prop} {W w w' w1:World} {xs:bJ}
theorem Es {tQ:World} {r:Option Nat} (h:w.grownBy w' r) (hb:aD w' tQ):w.grownBy tQ r:=
 ⟨hb.os.trans h.os,hb.tape.trans h.tape,hb.output.trans h.output,bD h.size hb.size,λk hk aO=>(hb.block k (jY hk h.size)).trans (h.block k hk aO)⟩
theorem axm (h:w.grownBy w' none):aD w w':=⟨h.os,h.tape,h.output,h.size,λk hk=>h.block k hk (λe=>by cases e)⟩
theorem Oj {e:TypeId} {size:Nat} {v:Value} (o:w.ownsRow B e size v m xs) (hg:w.grownBy w' v.ownBlock):
  aD w w'\/ ∃g cs,v.ownBlock=some g/\B<=g/\w.heap[g]?=some (.cells cs e (0,0))/\w.grownBy w' (some g):=by
 rcases o.2 with⟨hv,_⟩|⟨g,ai,bK,hv,hb,hc,_⟩
 ·subst hv;exact .inl (axm hg)
 ·subst hv;exact .inr ⟨g,bK,rfl,hb,hc,hg⟩
theorem Rm.dks {rb wb:Nat} {S:aW} {y:cQ} (h:Rm w B rb wb S y) (hg:w.grownBy W (Value.ownBlock y.dk.v)) {l':List Dk} (ho:dC W B y.dk.A y.dk.n y.dk.c l'):
  Rm W B rb wb {S with ds:=bu l'} {y with l:=l'} /\Fq B rb w W/\(∀ {A:aN} {xs:bJ},Rd w A xs->(∀u∈xs,ko u=false)->Rd W A xs)/\
  ∀(b:Nat) (cs:bx) (t:TypeId) (fz:Nat×Nat),w.heap[b]?=some (.cells cs t fz)->t≠74->W.heap[b]?=some (.cells cs t fz):=by
 obtain⟨q1,q2,q3,q4,q5,q6,q7,q8,q9⟩:=h.wm.dt;rcases Oj q2.os hg with hb|⟨g,cs,e,hB,hc,hg⟩
 ·have h':=h.below hb;obtain⟨p1,p2,p3,p4,p5,p6,p7,p8,p9⟩:=h'.wm.dt;exact⟨⟨h'.rm,h.lt,⟨h.wm.lo,h'.wm.blk,⟨p1,ho,rfl,p4,p5,p6,p7,p8,p9⟩⟩,h'.ld⟩,h.fq hb,λhr _=>hr.below hb,λb cs t fz hk _=>aJ hk hb⟩
 ·have hA:y.dk.A=some ⟨g,0,none⟩:=by
   exact age
  have hs: ∀j u,w.cell? ⟨g,j,none⟩=some u->ko u=true:=q2.sl g 0 hA;have aO:wb≠g:=kP h.wm.blk hc au;have aK:=h.lt;have ot: ∀ {z:Sl} {l:List ag} {n:Nat},eF w wb z (aZ l) n->eF W wb z (aZ l) n:=λho=>⟨Kn ho.1 (Gh _) hs hg,ho.2⟩
  refine⟨⟨dH hg h.rm ae,h.lt,⟨h.wm.lo,dH hg h.wm.blk aO,⟨ot q1,ho,rfl,ot q4,ot q5,q6.gbT hc au au hg,ot q7,q8.gbT hc au au hg,⟨Kn q9.1 (aeS _) hs hg,q9.2⟩⟩⟩,h.ld.gb hg hB⟩,Vr h.ld.le hg (.inl hB) hc au λk _ hn=> .inr ⟨wb,S,y,dH hg h.rm ae,dH hg h.wm.blk aO,hn.at_ h.rm h.wm.blk⟩,λhr hx=>Kn hr hx hs hg,λb AZ t fz hk ht=>dH hg hk (λe=>?_)⟩;subst e;rw[hc]at hk;injection hk with hk
  injection hk with _ hk
  exact ht hk.symm
theorem Et {c:Nat} {l:List Dk} (h:dC w B0 A n c l) (hj:j<l.length): ∃g,A=some ⟨g,0,none⟩/\B0<=g/\w.cell? ⟨g,j*2,none⟩=some (.slice l[j].A l[j].n l[j].c)/\w.cell? ⟨g,j*2+1,none⟩=some (.slice l[j].B l[j].m l[j].d):=by
 obtain⟨g,hA,hB⟩:=awf h.os (by have:=h.hn;omega);obtain⟨b,aS,fV,h1,h2⟩:=NO h.rd.rd hj;rw[hA]at fV;injection fV with e
 injection e with e1 e2
 subst e1 e2;rw[Nat.zero_add]at h1 h2;exact⟨g,hA,hB,h1,h2⟩
theorem axn {wx w3:World} {row:Option Nat} {c:Nat} {l:List Dk} {v:Value} (hg:w1.grownBy wx row) (ho:dC wx B A n c l) (EK:wx.ownsRow w1.heap.size 105 4 v m xs) (hb:Below w1.heap.size wx w3) (lO: ∀k,k<wx.heap.size->some k≠v.ownBlock->w3.heap[k]?=wx.heap[k]?):
  w1.grownBy w3 row/\dC w3 B A n c l:=by
 rcases Oj EK (⟨hb.os,hb.tape,hb.output,hb.size,lO⟩:wx.grownBy w3 v.ownBlock) with hB|⟨g,cs,e,hB,hc,kF⟩
 ·exact⟨Es hg hB,ho.below hB⟩
 ·exact⟨⟨hb.os.trans hg.os,hb.tape.trans hg.tape,hb.output.trans hg.output,bD hg.size hb.size,λk hk aO=>(kF.block k (jY hk hg.size) (λe=>by have:=bW e;omega)).trans (hg.block k hk aO)⟩,ho.gbT hc au au au kF⟩
theorem Cv {c:Nat} {l:List Dk} (h:dC w B0 (aw g) n c l) (hj:j<l.length):w.cell? ⟨g,j*2,none⟩=some (.slice l[j].A l[j].n l[j].c)/\w.cell? ⟨g,j*2+1,none⟩=some (.slice l[j].B l[j].m l[j].d)/\w.frozen? ⟨g,j*2,none⟩=false/\w.frozen? ⟨g,j*2+1,none⟩=false:=by
 obtain⟨g',e,_,h1,h2⟩:=Et h hj;injection e with e
 injection e with e _
 subst e;exact⟨h1,h2,h.os.frozenAt _,h.os.frozenAt _⟩
theorem afw {c gx:Nat} {l:List Dk} {v:Value} {cs:bx} {fz:Nat×Nat} (hg:w1.grownBy W (some g)) (ho:dC W B (aw g) n c l) (EK:W.ownsRow w1.heap.size 105 4 v m xs) {i:Nat} (hi:i<n) {x:Dk} (hx:x.ok W) (hz:W.heap[gx]?=some (.cells cs 101 fz)):
  w1.grownBy ((W.setCell ⟨g,i*2,none⟩ (.slice x.A x.n x.c)).setCell ⟨g,i*2+1,none⟩ (.slice x.B x.m x.d)) (some g)/\dC ((W.setCell ⟨g,i*2,none⟩ (.slice x.A x.n x.c)).setCell ⟨g,i*2+1,none⟩ (.slice x.B x.m x.d)) B (aw g) n c (l.set i x)/\
  ((W.setCell ⟨g,i*2,none⟩ (.slice x.A x.n x.c)).setCell ⟨g,i*2+1,none⟩ (.slice x.B x.m x.d)).ownsRow w1.heap.size 105 4 v m xs/\((W.setCell ⟨g,i*2,none⟩ (.slice x.A x.n x.c)).setCell ⟨g,i*2+1,none⟩ (.slice x.B x.m x.d)).heap[gx]?=some (.cells cs 101 fz)/\W.heap.size<=((W.setCell ⟨g,i*2,none⟩ (.slice x.A x.n x.c)).setCell ⟨g,i*2+1,none⟩ (.slice x.B x.m x.d)).heap.size:=by
 obtain⟨h1,h2⟩:=ho.set hi hx;obtain⟨bK,hc⟩:=As ho.os g rfl;have hf:=mC hc EK au;exact⟨mE hg h2,h1,EK.kept h2 (.inr (Ne.symm hf)),dH h2 hz (kP hz hc au),h2.size⟩
theorem yF {W0:World} {x y a b:Value} {T:TypeId} (hS:aD W0 W) (hg:W0.heap.size<=g) (hz:W.heap[g]?=some (.cells #[x,y] T (0,0))):
  aD W0 ((W.setCell ⟨g,0,none⟩ a).setCell ⟨g,1,none⟩ b)/\((W.setCell ⟨g,0,none⟩ a).setCell ⟨g,1,none⟩ b).heap[g]?=some (.cells #[a,b] T (0,0))/\W.grownBy ((W.setCell ⟨g,0,none⟩ a).setCell ⟨g,1,none⟩ b) (some g):=
 ⟨hS.trans (iC (gU _ _ _ _ _ _) hg hS.size),bt (bt hz 0 _) 1 _,gU _ _ _ _ _ _⟩
theorem axo:(prog.info? 105).map (λi=>(i.zero,i.size,i.bytes))=some (some (.agg #[.string ⟨#[]⟩,.string ⟨#[]⟩,.int .i64 0,.string ⟨#[]⟩]),4,56):=ax
theorem axp (l:List fM) (a b c:ag) (x:Int):pd (l++ [⟨a,b,x,c⟩])=pd l++ [.string a,.string b,.int .i64 x,.string c]:=by simp[pd,M6]
theorem afx (cred:ag) (ns:List ag): ∀(l:List ag) (p:List az×List fM),(l.foldl (ik cred ns) p).1.length=p.1.length/\(l.foldl (ik cred ns) p).2.length<=p.2.length+l.length
 | [],p=>⟨rfl,aM _⟩
 |x::l,p=>by
  have h1:(ik cred ns p x).1.length=p.1.length/\(ik cred ns p x).2.length<=p.2.length+1:=by
   unfold ik;simp only;repeat' split
   all_goals first|exact⟨rfl,ae⟩|exact⟨rfl,ak⟩|exact⟨ak,ae⟩|exact⟨ak,ak⟩
  obtain⟨a,b⟩:=afx cred ns l (ik cred ns p x);refine⟨a.trans h1.1,?_⟩;rw[List.length_cons];exact bD b ae
theorem G0 (h:P:=by
 refine kU 20 hS ?_;refine kR 21 λK hK=>?_;have u0:=aj dR 0 _ rfl;have u1:=aj dR 1 _ rfl;have v0:=aU dR 0;have v1:=aU dR 1;have E:=NZ (c:=c3) (d:=d3) hS KS dR bQ;have aC8:=dH (gU x8 _ 0 1 (.slice A3 n3 c3) (.slice B3 m3 d3)) uA (Ne.symm uD);go_simp;refine hK.out _ _ E.1 (λhS=>?_);clear hK K;try go_frame
 refine kL λK hK=>?_;go_simp;refine hK.out _ _ ?_;clear hK K;go_wp2;go_meet;case rel=>exact⟨_,_,A3,n3,c3,B3,m3,d3,rfl,rfl,rfl,rfl,aC8,E.2.1,E.2.2,ae,ae,dM.trans (E.1.mono fS)⟩):P:=h
theorem af5 (h:P:=by
 go_wp2_with fail;go_roundg g2;case rel=>exact⟨k+1,l',AA,na,ca,by have:=HK.out;omega,by go_num,rfl,by rw[eG.out,HA.out];exact LU.out,HG,HO,by rw[eG.out,HA.out];exact iY.out,by rw[eG.out,HA.out];exact iw.out⟩
 case measure=>omega):P:=h
theorem axq (B rb wb:Nat) (S:aW) (y:cQ) (A C:aN) (n c m d:Nat) (ws:List ag) (w:World) (h:Rm w B rb wb S y) (hS:Gd S) (ha:Rd w A (aZ ws)) (hn:n=ws.length) (h1:2<=ws.length) (mM:n<=c) (hl:ws.length<=10000):
  Calls prog 18 #[.pointer (some ⟨rb,0,none⟩),.agg #[.slice A n c,.slice C m d]] w (ov B rb w (vX S (wx ws 0) (ws.drop 1))):=by
 have hb:=be w (.cells #[.slice A n c,.slice C m d] 57);have hX:=aR w (.cells #[.slice A n c,.slice C m d] 57);have eS:=ha.below hb;obtain⟨ab,ao,rfl,-⟩:=tk eS (k:=0) ae;have HR:=aa h;have HB:=aa hb;have H1:=aa (h.below hb);have r0:=(h.below hb).at_;have l0:=vY w (some ⟨ab,ao,none⟩) C n c m d;have L0:=l0.1;have e1:(1:Int)<=(n:Int):=ae;have e2:n<=c:=mM;have e3: ¬c=1:=ae;have e4:0<n:=ae;obtain⟨cred,vs,rfl⟩: ∃cred vs,ws=cred::vs:=by
  cases ws with
  |nil=>simp at h1
  |cons a t=>exact⟨a,t,rfl⟩
 have fL:n - 1=vs.length:=by rw[hn];rfl
 have hvl:vs.length<=10000:=by simp at hl;omega
 show Calls _ _ _ _ (ov B rb w (vX S cred vs));have HQ:=aa (show vX S cred vs=if xS S.r (vs.foldl (ik cred S.ns) (S.ds,[])).2 S.wr≠0 then ({S with ds:=(vs.foldl (ik cred S.ns) (S.ds,[])).1},.er (xS S.r (vs.foldl (ik cred S.ns) (S.ds,[])).2 S.wr:Nat)) else ({S with ds:=(vs.foldl (ik cred S.ns) (S.ds,[])).1,ms:=BV S.r (vs.foldl (ik cred S.ns) (S.ds,[])).2 S.wr,op:=true},.ok gT) from rfl);have ev:=aa eS;have HX:=aa hX;have Dp:=hS.dn;have mS:=hS.ns;clear h hb hS ha hn h1 mM hl l0 eS hX;obtain⟨w1,cS⟩: ∃w1,w1=w.alloc (.cells #[.slice (some ⟨ab,ao,none⟩) n c,.slice C m d] 57):=⟨_,rfl⟩
 go_in;go_wp2_with fail;try rw[fL]
 rw[<-cS]at HB H1 r0 L0 ev HX⊢;have HF:=aa (HR.fq HB);generalize w.heap.size=lb at*;clear cS r0 L0;go_loopg [6,22] vs.length (λgh x i wr=> ∃(k:Nat) (l':List Dk) (AA:aN) (na ca:Nat),k+gh=vs.length/\i= .int .i64 k/\x= .slice AA na ca/\na=((vs.take k).foldl (ik cred S.ns) (S.ds,[])).2.length/\w1.grownBy wr (Value.ownBlock y.dk.v)/\dC wr B y.dk.A y.dk.n y.dk.c l'/\bu l'=((vs.take k).foldl (ik cred S.ns) (S.ds,[])).1/\
  wr.ownsRow w1.heap.size 105 4 (.slice AA na ca) na (pd ((vs.take k).foldl (ik cred S.ns) (S.ds,[])).2))
 case atStart=>exact⟨0,y.l,none,0,0,Nat.zero_add _,rfl,rfl,rfl,ub (aI _ _) _,H1.wm.dt.dk,H1.wm.dt.pl,World.ownsRow_nil _ _ _ _⟩
 case round=>
  obtain⟨k,l',AA,na,ca,hk,rfl,rfl,lh,hg,ho,eX,EK⟩:=hrel;obtain⟨q1,q2,q3,q4⟩:=H1.dks hg ho;have HW:=aa q1;have HWF:=aa q2;have gO:=aa (q3 ev (Gh _));have XJ:=aa (q4 _ _ _ _ HX au);have HG:=aa hg;have HO:=aa ho;have iY:=aa eX;have iw:=aa EK;have hsr:=hg.size;have Fz:=afx cred S.ns (vs.take k) (S.ds,[]);have htk:(vs.take k).length<=vs.length:=by rw[List.length_take];omega
  have mp:l'.length=S.ns.length:=by rw[<-rW,eX,Fz.1];exact Dp
  have aEN:na<=10000:=by rw[lh];simp only[List.length_nil]at Fz;omega
  have LU:=aa lh;clear q1 q2 q3 q4 hg ho eX EK Fz htk lh;have HK:=aa hk;clear hk;cases gk with
  |succ g2=>
   have aK:k<vs.length:=(by have:=HK.out;omega);have dE:(vs.take (k+1)).foldl (ik cred S.ns) (S.ds,[])=ik cred S.ns ((vs.take k).foldl (ik cred S.ns) (S.ds,[])) vs[k]:=by
    rw[List.take_succ_eq_append_getElem aK,List.foldl_append];rfl
   obtain⟨b',o',e,CR⟩:=tk (N1 1 gO) (k:=k) (by simpa using aK);injection e with e
   injection e with e5 e6
   subst e5 e6;rw[show wx (List.drop 1 (cred::vs)) k=vs[k] by unfold wx;rw[dh,List.drop_one,List.tail_cons,cL aK];rfl]at CR;generalize vs[k]=nm at dE CR;generalize (vs.take k).foldl (ik cred S.ns) (S.ds,[])=p at dE iY iw LU;have eG:=aa dE;have e5:(k:Int)<(vs.length:Int):=ae;have hk9:k<=10000:=ae;clear dE aK;have hpc:=aek wb y.nm.A y.nm.n y.nm.c S.ns nm wr (HW.c 0 _ rfl) HW.wm.dt.nm.1 HW.wm.dt.nm.2.1 (by have:=HW.wm.dt.nm.2.1;simp only at this;omega);have zd:=aa hpc;clear hpc;go_wp2_with fail;refine (zd).mono ?_;rintro e wr ⟨rfl,rfl⟩;clear CR;by_cases hi:Lib.idxOfS S.ns nm<0
   ·have HA:=aa (show ik cred S.ns p nm=p by unfold ik;simp only;rw[if_pos hi]);generalize Lib.idxOfS S.ns nm=ix0 at hi;exact af5
   ·obtain⟨j,hj,WR⟩:=awg _ _ hi;rw[hj];have xv:j<l'.length:=(by rw[mp];exact WR);have lM:p.1.getD j bI=l'[j].P:=by
     rw[<-iY.out,dh,bu,nA,cL xv];rfl
    have HA:=aa (show ik cred S.ns p nm=(if (kH l'[j].P (gE cred) (-1)).e=0\/(kH l'[j].P (gE cred) (-1)).e=211 then p.1.set j (kH l'[j].P (gE cred) (-1)).p else p.1,if (kH l'[j].P (gE cred) (-1)).e=0 then p.2++ [⟨nm,(kH l'[j].P (gE cred) (-1)).salt,(kH l'[j].P (gE cred) (-1)).x,(kH l'[j].P (gE cred) (-1)).b⟩] else p.2) by
     unfold ik;simp only;rw[if_neg hi,hj,Int.toNat_natCast,lM])
    clear hi hj lM;obtain⟨g,zr,XK,qY,IH⟩:=Et HO xv;have aEY:y.dk.n=l'.length:=HO.hn;have sx:=aa (λW (hb:aD wr W) hR=>axl (.agg #[.slice l'[j].A l'[j].n l'[j].c,.slice l'[j].B l'[j].m l'[j].d]) l'[j].P cred (-1) W ⟨_,_,_,_,_,_,rfl,(HO.ok _ (dY xv)).below hb⟩ hR au);generalize kH l'[j].P (gE cred) (-1)=T at HA sx;obtain⟨Tx,Tb,Ts,Tp,Te⟩:=T;unfold afv at sx;simp only at HA sx;have HD:=aa (And.intro qY IH);generalize l'[j].A=dA at sx HD;generalize l'[j].n=dn at sx HD;generalize l'[j].c=dc at sx HD;generalize l'[j].B=dB at sx HD;generalize l'[j].m=dm at sx HD;generalize l'[j].d=dd at sx HD;obtain⟨c9,o9,e9,wM⟩:=tk gO (k:=0) ak;injection e9 with e9
    injection e9 with e9 e8
    subst e9 e8;rw[Nat.add_zero,show wx (cred::vs) 0=cred from rfl]at wM;have HC:=aa (And.intro wM (aj XJ 0 _ rfl));have e6:(j:Int)<(y.dk.n:Int):=ae;have e7: ¬(j:Int)<0:=ae;clear qY IH wM;go_upto_region 8 with fail
    go_cut [10,11,12,13] from 23 to 69 (λVK Bk Yf Zp wx=> ∃gx gp A3 n3 c3 B3 m3 d3,VK= .pointer (some ⟨gx,0,none⟩)/\Bk= .string Ts/\Yf= .pointer (some ⟨gp,0,none⟩)/\Zp= .int .i64 Te/\bj wx gx #[.int .i64 Tx,.string Tb] 101/\bj wx gp #[.slice A3 n3 c3,.slice B3 m3 d3] 74/\PB wx A3 n3 B3 m3 Tp/\wr.heap.size<=gx/\wr.heap.size<=gp/\aD wr wx);case first=>
     refine jr (S:=λW=>Below wr.drew.heap.size wr.drew W) 22 ax (aI _ _) (λhS=>?_);replace HW:=aa (HW.below Y9q);replace HD:=aa (mK HD Y9q);replace HC:=aa (mK HC Y9q);have dM:=aa (tq wr);have fS:=dM.size;generalize wr.drew=w0 at hS HW HD HC dM fS⊢;refine kU 0 hS ?_;refine kU 1 hS ?_;refine kU 2 hS ?_;refine kV 3 rfl hS (by intro _ h9;have c1:=(HW.out.below h9).c 1 (.slice (some ⟨g,0,none⟩) y.dk.n y.dk.c) (by rw[<-zr];rfl);go_simp;try with_reducible rfl) ?_;refine kU 4 hS ?_;refine kU 5 hS ?_;refine kV 6 rfl hS (by intro _ h9;have c2:=(mK HD.out h9).1;have c3:=(mK HD.out h9).2;go_simp;try with_reducible rfl) ?_;refine kU 7 hS ?_;refine kV 8 rfl hS (by intro _ h9;have c4:=(mK HC.out h9).2;go_simp;try with_reducible rfl) ?_;refine kU 9 hS ?_;refine kV 10 rfl hS (by intro _ h9;have c5:=(mK HC.out h9).1;go_simp;try with_reducible rfl) ?_;refine Uq (rs:= [11,17,18]) ax ak ax (qb.cons rfl (λK hK=>?_) (qb.cons rfl (λK hK=>?_) (qb.cons rfl (λK hK=>?_) qb.nil)))
     ·go_simp;refine Calls.mono (by exact sx.out _ (dM.trans (hS.mono fS)) (HW.below hS).ld.lv.arm.rounds) ?_;rintro _ w3 ⟨_,rfl,⟨A3,n3,c3,B3,m3,d3,rfl,bQ⟩,aL⟩;go_simp;refine hK.out _ _ (hS.trans (aL.mono hS.size)) (λhS=>?_);clear hK K;try go_frame
      refine kU 12 hS ?_;refine kU 13 hS ?_;refine kU 14 hS ?_;refine kU 15 hS ?_;refine kU 16 hS ?_;refine kR2 17 18 (λK hK=>?_) (λK hK=>?_)
      ·go_simp;have cm:=aR w3 (.cells #[.int .i64 0,.string ⟨#[]⟩] 101);have pu:=hS.size;replace bQ:=PB.below bQ (be w3 (.cells #[.int .i64 0,.string ⟨#[]⟩] 101));have bn:=hS.alloc hS.size (.cells #[.int .i64 0,.string ⟨#[]⟩] 101);refine hK.out _ _ bn (λhS=>?_);clear hK K;try go_frame
       generalize w3.alloc (.cells #[.int .i64 0,.string ⟨#[]⟩] 101)=x6 at hS bn cm bQ⊢;clear bn;refine kR 18 λK hK=>?_
       ·go_simp;have dR:=aR x6 (.cells #[ay,ay] 74);have KS:=hS.size;replace bQ:=PB.below bQ (be x6 (.cells #[ay,ay] 74));replace cm:=aJ cm (be x6 (.cells #[ay,ay] 74));have bn:=hS.alloc hS.size (.cells #[ay,ay] 74);refine hK.out _ _ bn (λhS=>?_);clear hK K;try go_frame
        generalize x6.alloc (.cells #[ay,ay] 74)=x7 at hS bn dR bQ cm⊢;clear bn;refine kR 19 λK hK=>?_;have u0:=aj cm 0 _ rfl;have u1:=aj cm 1 _ rfl;have v0:=aU cm 0;have v1:=aU cm 1;have uD:=kP dR cm au;have E1:=yF (a:= .int .i64 Tx) (b:= .string Tb) hS pu cm;go_simp;refine hK.out _ _ E1.1 (λhS=>?_);clear hK K;try go_frame
        clear u0 u1 v0 v1;have uA:=E1.2.1;replace bQ:=PB.gbT bQ cm au au E1.2.2;replace dR:=dH E1.2.2 dR uD;clear cm E1;generalize (x7.setCell ⟨w3.heap.size,0,none⟩ (.int .i64 Tx)).setCell ⟨w3.heap.size,1,none⟩ (.string Tb)=x8 at hS uA bQ dR⊢;exact G0
      ·go_simp;have dR:=aR w3 (.cells #[ay,ay] 74);have KS:=hS.size;replace bQ:=PB.below bQ (be w3 (.cells #[ay,ay] 74));have bn:=hS.alloc hS.size (.cells #[ay,ay] 74);refine hK.out _ _ bn (λhS=>?_);clear hK K;try go_frame
       generalize w3.alloc (.cells #[ay,ay] 74)=x7 at hS bn dR bQ⊢;clear bn;refine kR 17 λK hK=>?_
       ·go_simp;have cm:=aR x7 (.cells #[.int .i64 0,.string ⟨#[]⟩] 101);have pu:=hS.size;replace bQ:=PB.below bQ (be x7 (.cells #[.int .i64 0,.string ⟨#[]⟩] 101));replace dR:=aJ dR (be x7 (.cells #[.int .i64 0,.string ⟨#[]⟩] 101));have bn:=hS.alloc hS.size (.cells #[.int .i64 0,.string ⟨#[]⟩] 101);refine hK.out _ _ bn (λhS=>?_);clear hK K;try go_frame
        generalize x7.alloc (.cells #[.int .i64 0,.string ⟨#[]⟩] 101)=x6 at hS bn cm bQ dR⊢;clear bn;refine kR 19 λK hK=>?_;have u0:=aj cm 0 _ rfl;have u1:=aj cm 1 _ rfl;have v0:=aU cm 0;have v1:=aU cm 1;have uD:=kP dR cm au;have E1:=yF (a:= .int .i64 Tx) (b:= .string Tb) hS pu cm;go_simp;refine hK.out _ _ E1.1 (λhS=>?_);clear hK K;try go_frame
        clear u0 u1 v0 v1;have uA:=E1.2.1;replace bQ:=PB.gbT bQ cm au au E1.2.2;replace dR:=dH E1.2.2 dR uD;clear cm E1;generalize (x6.setCell ⟨x7.heap.size,0,none⟩ (.int .i64 Tx)).setCell ⟨x7.heap.size,1,none⟩ (.string Tb)=x8 at hS uA bQ dR⊢;exact G0
     ·go_simp;have cm:=aR w0 (.cells #[.int .i64 0,.string ⟨#[]⟩] 101);have pu:=hS.size;have bn:=hS.alloc hS.size (.cells #[.int .i64 0,.string ⟨#[]⟩] 101);refine hK.out _ _ bn (λhS=>?_);clear hK K;try go_frame
      generalize w0.alloc (.cells #[.int .i64 0,.string ⟨#[]⟩] 101)=x6 at hS bn cm⊢;clear bn;refine kR2 11 18 (λK hK=>?_) (λK hK=>?_)
      ·go_simp;refine Calls.mono (by exact sx.out _ (dM.trans (hS.mono fS)) (HW.below hS).ld.lv.arm.rounds) ?_;rintro _ w3 ⟨_,rfl,⟨A3,n3,c3,B3,m3,d3,rfl,bQ⟩,aL⟩;go_simp;replace cm:=aJ cm aL;refine hK.out _ _ (hS.trans (aL.mono hS.size)) (λhS=>?_);clear hK K;try go_frame
       refine kU 12 hS ?_;refine kU 13 hS ?_;refine kU 14 hS ?_;refine kU 15 hS ?_;refine kU 16 hS ?_;refine kR 18 λK hK=>?_
       ·go_simp;have dR:=aR w3 (.cells #[ay,ay] 74);have KS:=hS.size;replace cm:=aJ cm (be w3 (.cells #[ay,ay] 74));replace bQ:=PB.below bQ (be w3 (.cells #[ay,ay] 74));have bn:=hS.alloc hS.size (.cells #[ay,ay] 74);refine hK.out _ _ bn (λhS=>?_);clear hK K;try go_frame
        generalize w3.alloc (.cells #[ay,ay] 74)=x7 at hS bn dR cm bQ⊢;clear bn;refine kR 19 λK hK=>?_;have u0:=aj cm 0 _ rfl;have u1:=aj cm 1 _ rfl;have v0:=aU cm 0;have v1:=aU cm 1;have uD:=kP dR cm au;have E1:=yF (a:= .int .i64 Tx) (b:= .string Tb) hS pu cm;go_simp;refine hK.out _ _ E1.1 (λhS=>?_);clear hK K;try go_frame
        clear u0 u1 v0 v1;have uA:=E1.2.1;replace bQ:=PB.gbT bQ cm au au E1.2.2;replace dR:=dH E1.2.2 dR uD;clear cm E1;generalize (x7.setCell ⟨w0.heap.size,0,none⟩ (.int .i64 Tx)).setCell ⟨w0.heap.size,1,none⟩ (.string Tb)=x8 at hS uA bQ dR⊢;exact G0
      ·go_simp;have dR:=aR x6 (.cells #[ay,ay] 74);have KS:=hS.size;replace cm:=aJ cm (be x6 (.cells #[ay,ay] 74));have bn:=hS.alloc hS.size (.cells #[ay,ay] 74);refine hK.out _ _ bn (λhS=>?_);clear hK K;try go_frame
       generalize x6.alloc (.cells #[ay,ay] 74)=x7 at hS bn dR cm⊢;clear bn;refine kR 11 λK hK=>?_
       ·go_simp;refine Calls.mono (by exact sx.out _ (dM.trans (hS.mono fS)) (HW.below hS).ld.lv.arm.rounds) ?_;rintro _ w3 ⟨_,rfl,⟨A3,n3,c3,B3,m3,d3,rfl,bQ⟩,aL⟩;go_simp;replace cm:=aJ cm aL;replace dR:=aJ dR aL;refine hK.out _ _ (hS.trans (aL.mono hS.size)) (λhS=>?_);clear hK K;try go_frame
        refine kU 12 hS ?_;refine kU 13 hS ?_;refine kU 14 hS ?_;refine kU 15 hS ?_;refine kU 16 hS ?_;refine kR 19 λK hK=>?_;have u0:=aj cm 0 _ rfl;have u1:=aj cm 1 _ rfl;have v0:=aU cm 0;have v1:=aU cm 1;have uD:=kP dR cm au;have E1:=yF (a:= .int .i64 Tx) (b:= .string Tb) hS pu cm;go_simp;refine hK.out _ _ E1.1 (λhS=>?_);clear hK K;try go_frame
        clear u0 u1 v0 v1;have uA:=E1.2.1;replace bQ:=PB.gbT bQ cm au au E1.2.2;replace dR:=dH E1.2.2 dR uD;clear cm E1;generalize (w3.setCell ⟨w0.heap.size,0,none⟩ (.int .i64 Tx)).setCell ⟨w0.heap.size,1,none⟩ (.string Tb)=x8 at hS uA bQ dR⊢;exact G0
     ·go_simp;have dR:=aR w0 (.cells #[ay,ay] 74);have KS:=hS.size;have bn:=hS.alloc hS.size (.cells #[ay,ay] 74);refine hK.out _ _ bn (λhS=>?_);clear hK K;try go_frame
      generalize w0.alloc (.cells #[ay,ay] 74)=x7 at hS bn dR⊢;clear bn;refine kR2 11 17 (λK hK=>?_) (λK hK=>?_)
      ·go_simp;refine Calls.mono (by exact sx.out _ (dM.trans (hS.mono fS)) (HW.below hS).ld.lv.arm.rounds) ?_;rintro _ w3 ⟨_,rfl,⟨A3,n3,c3,B3,m3,d3,rfl,bQ⟩,aL⟩;go_simp;replace dR:=aJ dR aL;refine hK.out _ _ (hS.trans (aL.mono hS.size)) (λhS=>?_);clear hK K;try go_frame
       refine kU 12 hS ?_;refine kU 13 hS ?_;refine kU 14 hS ?_;refine kU 15 hS ?_;refine kU 16 hS ?_;refine kR 17 λK hK=>?_
       ·go_simp;have cm:=aR w3 (.cells #[.int .i64 0,.string ⟨#[]⟩] 101);have pu:=hS.size;replace dR:=aJ dR (be w3 (.cells #[.int .i64 0,.string ⟨#[]⟩] 101));replace bQ:=PB.below bQ (be w3 (.cells #[.int .i64 0,.string ⟨#[]⟩] 101));have bn:=hS.alloc hS.size (.cells #[.int .i64 0,.string ⟨#[]⟩] 101);refine hK.out _ _ bn (λhS=>?_);clear hK K;try go_frame
        generalize w3.alloc (.cells #[.int .i64 0,.string ⟨#[]⟩] 101)=x6 at hS bn cm dR bQ⊢;clear bn;refine kR 19 λK hK=>?_;have u0:=aj cm 0 _ rfl;have u1:=aj cm 1 _ rfl;have v0:=aU cm 0;have v1:=aU cm 1;have uD:=kP dR cm au;have E1:=yF (a:= .int .i64 Tx) (b:= .string Tb) hS pu cm;go_simp;refine hK.out _ _ E1.1 (λhS=>?_);clear hK K;try go_frame
        clear u0 u1 v0 v1;have uA:=E1.2.1;replace bQ:=PB.gbT bQ cm au au E1.2.2;replace dR:=dH E1.2.2 dR uD;clear cm E1;generalize (x6.setCell ⟨w3.heap.size,0,none⟩ (.int .i64 Tx)).setCell ⟨w3.heap.size,1,none⟩ (.string Tb)=x8 at hS uA bQ dR⊢;exact G0
      ·go_simp;have cm:=aR x7 (.cells #[.int .i64 0,.string ⟨#[]⟩] 101);have pu:=hS.size;replace dR:=aJ dR (be x7 (.cells #[.int .i64 0,.string ⟨#[]⟩] 101));have bn:=hS.alloc hS.size (.cells #[.int .i64 0,.string ⟨#[]⟩] 101);refine hK.out _ _ bn (λhS=>?_);clear hK K;try go_frame
       generalize x7.alloc (.cells #[.int .i64 0,.string ⟨#[]⟩] 101)=x6 at hS bn cm dR⊢;clear bn;refine kR 11 λK hK=>?_
       ·go_simp;refine Calls.mono (by exact sx.out _ (dM.trans (hS.mono fS)) (HW.below hS).ld.lv.arm.rounds) ?_;rintro _ w3 ⟨_,rfl,⟨A3,n3,c3,B3,m3,d3,rfl,bQ⟩,aL⟩;go_simp;replace dR:=aJ dR aL;replace cm:=aJ cm aL;refine hK.out _ _ (hS.trans (aL.mono hS.size)) (λhS=>?_);clear hK K;try go_frame
        refine kU 12 hS ?_;refine kU 13 hS ?_;refine kU 14 hS ?_;refine kU 15 hS ?_;refine kU 16 hS ?_;refine kR 19 λK hK=>?_;have u0:=aj cm 0 _ rfl;have u1:=aj cm 1 _ rfl;have v0:=aU cm 0;have v1:=aU cm 1;have uD:=kP dR cm au;have E1:=yF (a:= .int .i64 Tx) (b:= .string Tb) hS pu cm;go_simp;refine hK.out _ _ E1.1 (λhS=>?_);clear hK K;try go_frame
        clear u0 u1 v0 v1;have uA:=E1.2.1;replace bQ:=PB.gbT bQ cm au au E1.2.2;replace dR:=dH E1.2.2 dR uD;clear cm E1;generalize (w3.setCell ⟨x7.heap.size,0,none⟩ (.int .i64 Tx)).setCell ⟨x7.heap.size,1,none⟩ (.string Tb)=x8 at hS uA bQ dR⊢;exact G0
    case rest=>
     obtain⟨gx,gp,A3,n3,c3,B3,m3,d3,rfl,rfl,rfl,rfl,hzx,hzp,bQ,PY,hgp,io⟩:=hcut;replace HW:=aa (HW.below io);replace HO:=aa (HO.below io);replace iw:=aa (eO iw io);replace HG:=aa (Es HG io);have Cz:=aa hzx;have Pv:=aa hzp;have jL:=aa bQ;have qu:=io.size;clear HC XJ hzx hzp bQ io;by_cases CH:Te=0
     ·subst CH;rw[if_pos (.inl rfl),if_pos rfl]at HA;go_upto_region 10 with fail
      refine jr (S:=λW=>Below wc.drew.heap.size wc.drew W) 7 ax (aI _ _) (λhS=>?_);replace HW:=aa (HW.below Y9q);replace HO:=aa (HO.below Y9q);replace iw:=aa (eO iw Y9q);replace HG:=aa (Es HG Y9q);replace Cz:=aa (aJ Cz Y9q);replace jL:=aa (jL.below Y9q);have HC:=aa (And.intro (aj (aJ Pv Y9q) 0 _ rfl) (aj (aJ Pv Y9q) 1 _ rfl));have uV:=(tq wc).size;generalize wc.drew=wz at hS HW HO iw HG Cz jL HC uV⊢;refine kU 0 hS ?_;refine kU 1 hS ?_;refine kU 2 hS ?_;refine kV 3 rfl hS (by intro _ h9;have c1:=(HW.out.below h9).c 1 (.slice (some ⟨g,0,none⟩) y.dk.n y.dk.c) (by rw[<-zr];rfl);go_simp;try with_reducible rfl) ?_;refine kU 4 hS ?_;refine kV 5 rfl hS (by intro _ h9;have c2:=(mK HC.out h9).1;have c3:=(mK HC.out h9).2;go_simp;try with_reducible rfl) ?_;refine kU 6 hS ?_;refine kL λK hK=>?_;have lf:=aa (show dC _ B (some ⟨g,0,none⟩) y.dk.n y.dk.c l' by rw[<-zr];exact HO.below hS);have p0:=(Cv lf xv).1;have p1:=(Cv lf xv).2.1;have f0:=(Cv lf xv).2.2.1;have f1:=(Cv lf xv).2.2.2;generalize l'[j].A=oA at p0;generalize l'[j].n=on at p0;generalize l'[j].c=oc at p0;generalize l'[j].B=oB at p1;generalize l'[j].m=om at p1;generalize l'[j].d=od at p1;go_simp;have EM:Value.ownBlock y.dk.v=some g:=(by show Value.ownBlock (.slice y.dk.A y.dk.n y.dk.c)=_;rw[zr];rfl);have E:=aa (afw (w1:=w1) (x:=⟨A3,n3,c3,B3,m3,d3,Tp⟩) (i:=j) (by rw[<-EM];exact Es HG hS) lf (eO iw hS) ae (jL.below hS) (aJ Cz hS));replace HG:=aa (show w1.grownBy _ (Value.ownBlock y.dk.v) by rw[EM];exact E.1);replace HO:=aa (show dC _ B y.dk.A y.dk.n y.dk.c (l'.set j ⟨A3,n3,c3,B3,m3,d3,Tp⟩) by rw[zr];exact E.2.1);replace iw:=aa E.2.2.1;have E6:=aa E.2.2.2.1;have Y4:=E.2.2.2.2;have aBN:=hS.size;refine hK.out _ _ ?_;clear hK K hS p0 p1 f0 f1 EM E;generalize (wz.setCell ⟨g,j*2,none⟩ (.slice A3 n3 c3)).setCell ⟨g,j*2+1,none⟩ (.slice B3 m3 d3)=wy at HG HO iw E6 Y4⊢;have x0:=aj E6 0 _ rfl;have x1:=aj E6 1 _ rfl;go_wp2_with (at_builtin;refine oS ah (.tmp 63) (.tmp 68) 98 ah w1.heap.size 105 (.agg #[.string ⟨#[]⟩,.string ⟨#[]⟩,.int .i64 0,.string ⟨#[]⟩]) 4 56 underlying98 axo rfl ae wy #[.string nm,.string Ts,.int .i64 Tx,.string Tb] 105 (.slice AA na ca) na (pd p.2) ah iw wy.heap.size 1 1 ah ah ah ah ae ae ae ae ?_);intro gA eM w5 qp aY ajG _ _;have aBr:=aa qp;obtain⟨hG5,lK⟩:=axn HG HO iw aY ajG;have E5:=aa hG5;have yZ:=aa lK;clear qp aY ajG hG5 lK x0 x1;go_wp2_with fail;go_roundg g2;case rel=>exact⟨k+1,l'.set j ⟨A3,n3,c3,B3,m3,d3,Tp⟩,_,_,_,by have:=HK.out;omega,by go_num,rfl,by rw[eG.out,HA.out,LU.out];simp,E5,yZ,by rw[eG.out,HA.out,Ef,iY.out],by rw[eG.out,HA.out,axp];exact aBr.out⟩
      case measure=>omega
     ·have d0:(Te==0)=false:=(by simpa using CH);by_cases uT:Te=211
      ·subst uT;rw[if_pos (.inr rfl),if_neg CH]at HA;go_upto_region 10 with fail
       refine jr (S:=λW=>Below wc.drew.heap.size wc.drew W) 7 ax (aI _ _) (λhS=>?_);replace HW:=aa (HW.below Y9q);replace HO:=aa (HO.below Y9q);replace iw:=aa (eO iw Y9q);replace HG:=aa (Es HG Y9q);replace Cz:=aa (aJ Cz Y9q);replace jL:=aa (jL.below Y9q);have HC:=aa (And.intro (aj (aJ Pv Y9q) 0 _ rfl) (aj (aJ Pv Y9q) 1 _ rfl));have uV:=(tq wc).size;generalize wc.drew=wz at hS HW HO iw HG Cz jL HC uV⊢;refine kU 0 hS ?_;refine kU 1 hS ?_;refine kU 2 hS ?_;refine kV 3 rfl hS (by intro _ h9;have c1:=(HW.out.below h9).c 1 (.slice (some ⟨g,0,none⟩) y.dk.n y.dk.c) (by rw[<-zr];rfl);go_simp;try with_reducible rfl) ?_;refine kU 4 hS ?_;refine kV 5 rfl hS (by intro _ h9;have c2:=(mK HC.out h9).1;have c3:=(mK HC.out h9).2;go_simp;try with_reducible rfl) ?_;refine kU 6 hS ?_;refine kL λK hK=>?_;have lf:=aa (show dC _ B (some ⟨g,0,none⟩) y.dk.n y.dk.c l' by rw[<-zr];exact HO.below hS);have p0:=(Cv lf xv).1;have p1:=(Cv lf xv).2.1;have f0:=(Cv lf xv).2.2.1;have f1:=(Cv lf xv).2.2.2;generalize l'[j].A=oA at p0;generalize l'[j].n=on at p0;generalize l'[j].c=oc at p0;generalize l'[j].B=oB at p1;generalize l'[j].m=om at p1;generalize l'[j].d=od at p1;go_simp;have EM:Value.ownBlock y.dk.v=some g:=(by show Value.ownBlock (.slice y.dk.A y.dk.n y.dk.c)=_;rw[zr];rfl);have E:=aa (afw (w1:=w1) (x:=⟨A3,n3,c3,B3,m3,d3,Tp⟩) (i:=j) (by rw[<-EM];exact Es HG hS) lf (eO iw hS) ae (jL.below hS) (aJ Cz hS));replace HG:=aa (show w1.grownBy _ (Value.ownBlock y.dk.v) by rw[EM];exact E.1);replace HO:=aa (show dC _ B y.dk.A y.dk.n y.dk.c (l'.set j ⟨A3,n3,c3,B3,m3,d3,Tp⟩) by rw[zr];exact E.2.1);replace iw:=aa E.2.2.1;have E6:=aa E.2.2.2.1;have Y4:=E.2.2.2.2;have aBN:=hS.size;refine hK.out _ _ ?_;clear hK K hS p0 p1 f0 f1 EM E;generalize (wz.setCell ⟨g,j*2,none⟩ (.slice A3 n3 c3)).setCell ⟨g,j*2+1,none⟩ (.slice B3 m3 d3)=wy at HG HO iw E6 Y4⊢;have x0:=aj E6 0 _ rfl;have x1:=aj E6 1 _ rfl;clear x0 x1;go_wp2_with fail;go_roundg g2;case rel=>exact⟨k+1,l'.set j ⟨A3,n3,c3,B3,m3,d3,Tp⟩,_,_,_,by have:=HK.out;omega,by go_num,rfl,by rw[eG.out,HA.out,LU.out],HG,HO,by rw[eG.out,HA.out,Ef,iY.out],by rw[eG.out,HA.out];exact iw.out⟩
       case measure=>omega
      ·have d1:(Te==211)=false:=(by simpa using uT);rw[if_neg ae,if_neg CH]at HA;exact af5
  |zero=>
   obtain rfl:k=vs.length:=HK.out;have lh:=LU.out;rw[List.take_length]at iY iw lh;generalize vs.foldl (ik cred S.ns) (S.ds,[])=q at iY iw lh HQ;obtain⟨q1,q2⟩:=q;simp only at iY iw lh HQ;subst lh;have HV:=aa (λv W hv hr hR hT=>aqk v S.r AA q2.length ca q2 S.wr W hv hr rfl ae hR hT);generalize xS S.r q2 S.wr=ue at HV HQ;generalize BV S.r q2 S.wr=us at HV HQ;unfold abM at HV;have FF:=aa (HF.trans HWF);have e9: ¬((vs.length:Nat):Int)<((vs.length:Nat):Int):=ae;clear XJ;go_wp2_with fail;refine jr (S:=λW=>W.cell? ⟨wb,2,none⟩=some (.int .i64 S.r.e)/\W.cell? ⟨wb,3,none⟩=some (.int .i64 S.r.k)/\W.cell? ⟨wb,4,none⟩=some (.slice y.rn.A y.rn.n y.rn.c)/\W.cell? ⟨wb,5,none⟩=some (.slice y.rq.A y.rq.n y.rq.c)/\W.cell? ⟨wb,6,none⟩=some (.string S.wr)) 15 ax ⟨(HW.below Y9q).c 2 _ rfl,(HW.below Y9q).c 3 _ rfl,(HW.below Y9q).c 4 _ rfl,(HW.below Y9q).c 5 _ rfl,(HW.below Y9q).c 6 _ rfl⟩ (λhS=>?_);replace FF:=aa (FF.trans (HW.fq Y9q));replace HW:=aa (HW.below Y9q);replace iw:=aa (eO iw Y9q);generalize wr.drew=wd at hS HW iw FF⊢;have Yn:=aa (show RV wd (.agg #[.int .i64 S.r.e,.int .i64 S.r.k,.slice y.rn.A y.rn.n y.rn.c,.slice y.rq.A y.rq.n y.rq.c]) S.r from⟨_,_,_,_,_,_,rfl,HW.wm.dt.rn.1,HW.wm.dt.rn.2.1,HW.wm.dt.rq.1,HW.wm.dt.rq.2.1⟩);refine kU 0 hS ?_;refine kU 1 hS ?_;refine kU 2 hS ?_;refine kU 3 hS ?_;refine kV 4 rfl hS (by intro _ h9;have c0:=h9.1;have c1:=h9.2.1;have c2:=h9.2.2.1;have c3:=h9.2.2.2.1;go_simp;try with_reducible rfl) ?_;refine kU 5 hS ?_;refine kU 6 hS ?_;refine kU 7 hS ?_;refine kU 8 hS ?_;refine kV 9 rfl hS (by intro _ h9;have c4:=h9.2.2.2.2;go_simp;try with_reducible rfl) ?_;refine kR 10 λK hK=>?_;go_simp;have KN:=Yn.out;have mn:=gz iw.out;have PV:=HW.ld.lv.arm.rounds;have ll:=HW.ld.lv.turns;refine Calls.mono (HV _ _ KN mn PV ll) ?_;rintro _ w4 ⟨rfl,aP⟩;go_simp;replace FF:=aa (FF.trans (HW.fq aP));replace HW:=aa (HW.below aP);refine hK.out _ _ (jW hS aP) (λhS=>?_);clear hK K;try go_frame
   refine kU 11 hS ?_;refine kU 12 hS ?_;refine kR 13 λK hK=>?_;go_simp;by_cases he:ue=0;case neg=>
    rw[if_pos he]at HQ;refine Calls.mono (by exact Ed _ (ue:Int) ae _) ?_;rintro _ w5 ⟨rfl,rfl⟩;exact⟨rfl,HW.er FF (by rw[HQ.out,iY.out])⟩
   subst he;rw[if_neg au]at HQ;refine Calls.mono (by exact GG _ _) ?_;rintro _ w5 ⟨rfl,rfl⟩;go_simp;refine hK.out _ _ hS (λhS=>?_);clear hK K;try go_frame
   refine kR 14 λK hK=>?_;go_simp;refine Calls.mono (by exact TZ wb us _ _ _ (HW.c 17 _ rfl) (HW.c 18 _ rfl) (HW.f 17) (HW.f 18)) ?_;rintro _ w6 ⟨rfl,rfl⟩;go_simp;have HE:=aa (Us HW us true);refine hK.out _ _ ⟨HE.1.c 2 _ rfl,HE.1.c 3 _ rfl,HE.1.c 4 _ rfl,HE.1.c 5 _ rfl,HE.1.c 6 _ rfl⟩ (λhS=>?_);clear hK K;try go_frame
   refine kL λK hK=>?_;go_simp;refine hK.out _ _ ?_;clear hK K;go_wp2;go_ret;exact HE.1.ok_ (FF.trans HE.2) (by rw[HQ.out,iY.out])
end Go.Proofs.YtaglcaocpcbiiaaGreatDoor
