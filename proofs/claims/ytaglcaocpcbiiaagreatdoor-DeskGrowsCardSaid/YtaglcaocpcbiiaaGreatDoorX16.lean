import Derived.Test.YtaglcaocpcbiiaaGreatDoorX15
import Derived.Shelf.Small.Wraps
set_option linter.unusedVariables false
set_option linter.unusedSimpArgs false
set_option maxRecDepth 100000
set_option maxHeartbeats 3000000
namespace Go.Proofs.YtaglcaocpcbiiaaGreatDoor
open Go.Proofs.Tryz Go.RowKit
section
variable {A p:aN} {B B0 g n nb q rb:Nat} {D:eZ} {K:Act->World->Prop} {P:Prop} {R:Option aW} {S:aW} {W W' w w':World} {e k:Int} {ms:List Int} {ns ws:List ag} {o:Obj} {r:Option aW×Tl} {s seed:ag} {xs:bJ} {y:cQ}
theorem UQ {ep:Int} {A1 A2 A3 A4:aN} {n1 c1 n2 c2 n3 c3 n4 c4:Nat} (h:mF B0 w (.agg #[.int .i64 ep,.int .i64 k,.slice A1 n1 c1,.slice A2 n2 c2,.string s,.slice A3 n3 c3,.slice A4 n4 c4]) D):
  ep=D.r.e/\k=D.r.k/\s=D.sec/\(Rd w A1 (aZ D.r.ns)/\n1=D.r.ns.length/\qQ B0 A1)/\Rd w A2 (aZ D.r.ps)/\n2=D.r.ps.length/\qQ B0 A2:=by
 obtain⟨A,n,c,B,m,d,C,p,q,E,s',t,e,h1,h2,h3,h4,h5,h6,h7,h8,g1,g2,g3,g4⟩:=h;simp only[Value.agg.injEq,Array.mk.injEq,List.cons.injEq,Value.int.injEq,Value.slice.injEq,Value.string.injEq,true_and,and_true]at e;obtain⟨rfl,rfl,⟨rfl,rfl,rfl⟩,⟨rfl,rfl,rfl⟩,rfl,⟨rfl,rfl,rfl⟩,rfl,rfl,rfl⟩:=e;exact⟨rfl,rfl,rfl,⟨h1,h2,g1⟩,h3,h4,g2⟩
theorem mF.below {v:Value} (h:mF B0 w v D) (hb:aD w w'):mF B0 w' v D:=by
 obtain⟨A,n,c,B,m,d,C,p,q,E,s,t,e,h1,h2,h3,h4,h5,h6,h7,h8,g⟩:=h;exact⟨A,n,c,B,m,d,C,p,q,E,s,t,e,h1.below hb,h2,h3.below hb,h4,h5.below hb,h6,h7.below hb,h8,g⟩
theorem axA {v:Value} (h:mF B0 w v D): ∃A1 n1 c1 A2 n2 c2 A3 n3 c3 A4 n4 c4,v= .agg #[.int .i64 D.r.e,.int .i64 D.r.k,.slice A1 n1 c1,.slice A2 n2 c2,.string D.sec,.slice A3 n3 c3,.slice A4 n4 c4]:=by
 obtain⟨A,n,c,B,m,d,C,p,q,E,s,t,e,_⟩:=h;exact⟨A,n,c,B,m,d,C,p,q,E,s,t,e⟩
theorem mF.to {B1:Nat} {v:Value} (h:mF B0 w v D) (hB:B1<=B0):mF B1 w v D:=by
 obtain⟨A,n,c,B,m,d,C,p,q,E,s,t,e,h1,h2,h3,h4,h5,h6,h7,h8,g1,g2,g3,g4⟩:=h;have f: ∀ {X:aN},qQ B0 X->qQ B1 X:=λhX b o e=>bD hB (hX b o e);exact⟨A,n,c,B,m,d,C,p,q,E,s,t,e,h1,h2,h3,h4,h5,h6,h7,h8,f g1,f g2,f g3,f g4⟩
theorem mF.gb {v:Value} (h:mF B0 w v D) (hg:w.grownBy w' (some g)) (hB:g<B0):mF B0 w' v D:=by
 obtain⟨A,n,c,B,m,d,C,p,q,E,s,t,e,h1,h2,h3,h4,h5,h6,h7,h8,g1,g2,g3,g4⟩:=h;have f: ∀ {X:aN} {l:bJ},qQ B0 X->Rd w X l->Rd w' X l:=λhX hr=>Cf hr hg (λb o e=>by have:=hX b o e;omega);exact⟨A,n,c,B,m,d,C,p,q,E,s,t,e,f g1 h1,h2,f g2 h3,h4,f g3 h5,h6,f g4 h7,h8,g1,g2,g3,g4⟩
theorem afC {l:List Dk} (h:kt (bu l)) (hk: ∀x∈l,x.ok w): ∀x∈l,x.n<=1000000/\x.m<=1000000:=λx hx=>by
 obtain⟨h1,h2,_⟩:=h x.P (List.mem_map.2 ⟨x,hx,rfl⟩);have h3:=hk x hx;exact⟨h3.hn▸h1,h3.hm▸h2⟩
def Kz (S:aW) (l:List az) (e:Int) (r:dS) (s:ag):aW×Tl:=
 if (dr (l.getD 0 bI)).2≠0 then (S,.er (dr (l.getD 0 bI)).2)
 else if (dr (l.getD 0 bI)).1.epoch≠e then ({S with ds:=l},.ok TV)
 else ({S with ds:=l,r:=r,wr:=s},.ok (TW++fc e))
def Ol (S:aW) (t seed:ag) (k d:Int):aW×Tl:=
 if kJ seed S.ns k (S.r.e+1)≠0 then (S,.er (kJ seed S.ns k (S.r.e+1)))
 else if nh (du seed S.ns k (S.r.e+1)).sec t S.ms≠0 then (S,.er (nh (du seed S.ns k (S.r.e+1)).sec t S.ms:Nat))
 else if (ij (du seed S.ns k (S.r.e+1)) S.ds d).2.2≠0 then (S,.er (ij (du seed S.ns k (S.r.e+1)) S.ds d).2.2)
 else if (ij (du seed S.ns k (S.r.e+1)) S.ds d).2.1=true then Kz S (ij (du seed S.ns k (S.r.e+1)) S.ds d).1 (S.r.e+1) (du seed S.ns k (S.r.e+1)).r (qI (du seed S.ns k (S.r.e+1)).sec t S.ms)
 else if (me (ij (du seed S.ns k (S.r.e+1)) S.ds d).1 (S.r.e+1)).2≠0 then (S,.er (me (ij (du seed S.ns k (S.r.e+1)) S.ds d).1 (S.r.e+1)).2)
 else Kz S (me (ij (du seed S.ns k (S.r.e+1)) S.ds d).1 (S.r.e+1)).1 (S.r.e+1) (du seed S.ns k (S.r.e+1)).r (qI (du seed S.ns k (S.r.e+1)).sec t S.ms)
theorem afD {ds:List az} (B:Nat) (A:aN) (n c:Nat) (l:List Dk) (v:Value) (D:eZ) (d:Int) (w:World) (ho:dC w B A n c l) (eX:bu l=ds) (hs:kt ds) (hn:n<=100000) (hv:DV w v D) (hR:cX w):
  Calls prog 43 #[.slice A n c,v,.int .i64 d] w (wu w (ij D ds d)):=by
 subst eX;exact axz A n c l v D d w ho.rd ho.hn hn (afC hs ho.ok) hv hR
theorem afE (seed:ag) (ns:List ag) (A:aN) (n c:Nat) (k ep:Int) (w:World) (hr:Rd w A (aZ ns)) (hn:n=ns.length) (j7:n<=maxLen) (hT:iy w) (hR:cX w):
  Calls prog 38 #[.string seed,.slice A n c,.int .i64 k,.int .i64 ep] w λe w'=> ∃A1 n1 c1 A2 n2 c2 A3 n3 c3 A4 n4 c4,e= .returned (.tuple #[.agg #[.int .i64 (du seed ns k ep).r.e,.int .i64 (du seed ns k ep).r.k,.slice A1 n1 c1,.slice A2 n2 c2,.string (du seed ns k ep).sec,.slice A3 n3 c3,.slice A4 n4 c4],.int .i64 (kJ seed ns k ep)])/\
   mF w.heap.size w' (.agg #[.int .i64 (du seed ns k ep).r.e,.int .i64 (du seed ns k ep).r.k,.slice A1 n1 c1,.slice A2 n2 c2,.string (du seed ns k ep).sec,.slice A3 n3 c3,.slice A4 n4 c4]) (du seed ns k ep)/\aD w w':=by
 refine (asE seed ns A n c k ep w hr hn j7 hT hR).mono ?_;rintro e w' ⟨v,rfl,hv,hb⟩;obtain⟨A1,n1,c1,A2,n2,c2,A3,n3,c3,A4,n4,c4,rfl⟩:=axA hv;exact⟨A1,n1,c1,A2,n2,c2,A3,n3,c3,A4,n4,c4,rfl,hv,hb⟩
theorem axB (f:az->az) (l:List az) (k:Nat) (hk:k<l.length):((l.take k).map f++l.drop k).set k (f l[k])=(l.take (k+1)).map f++l.drop (k+1):=by
 have h1:((l.take k).map f).length=k:=by rw[kQ,List.length_take];omega
 rw[List.drop_eq_getElem_cons hk,List.set_append_right _ _ ae,h1,Nat.sub_self,List.set_cons_zero,List.take_succ_eq_append_getElem hk,List.map_append];simp
theorem take_zero {l:List az} {k:Nat} (hk:k<l.length) (h: ∀P∈l.take k,(eW [] P).2=0) (h2:(eW [] l[k]).2=0): ∀P∈l.take (k+1),(eW [] P).2=0:=λP hP=>by
 rw[List.take_succ_eq_append_getElem hk,List.mem_append]at hP;rcases hP with hP|hP
 ·exact h P hP
 ·rw[List.mem_singleton.1 hP];exact h2
theorem axC {l:List az} {k:Nat} (hk:k<l.length) (h: ∀P∈l.take k,(eW [] P).2=0) (hc:(eW [] l[k]).2≠0):(me l e).2=(eW [] l[k]).2:=by
 have h1:=NR (f:=λP=>(eW [] P).2) hk (λi hi aK=>h _ (by rw[List.mem_take_iff_getElem];exact⟨i,ae,rfl⟩)) hc;unfold me;rw[h1,if_pos hc]
theorem axD {l:List az} (h: ∀P∈l,(eW [] P).2=0):me l e=l9 (l.map λP=>(eW [] P).1) e:=by
 unfold me;rw[Tk.2 h,if_neg au]
theorem axE (S:aW):(dX S).1.r=S.r/\(dX S).1.ms=S.ms:=by
 unfold dX;split<;>exact⟨rfl,rfl⟩
theorem axF (S:aW) (seed:ag) (k d:Int):Cm S seed k d=if S.op=false then (S,.er 212) else if (dX S).2.2≠0 then (S,.er (dX S).2.2) else Ol (dX S).1 (dX S).2.1 seed k d:=by
 obtain⟨h1,h2⟩:=axE S;obtain⟨h3,h4⟩:=afp S;unfold Cm Ol Kz;simp only[h1,h2,h3,h4];by_cases a:(ij (du seed S.ns k (S.r.e+1)) S.ds d).2.1=true
 ·simp only[a,if_true,ne_eq,not_true_eq_false,if_false]
 ·simp only[a,if_false];rfl
theorem afF (h:kJ seed ns k e=0):(du seed ns k e).sec.size=32/\1<=ns.length/\ns.length<=16:=by
 have hc:mD seed ns k e=true:=by
  exact Vf
 obtain⟨m,hm,_,_,_,hg,_,vk⟩:=acr hc;have hp:Cd ns k=true:=by
  unfold mD at hc;rw[Bool.and_eq_true,Bool.and_eq_true]at hc;exact hc.1.1
 obtain⟨p1,p2,p3⟩:=J3 hp;exact⟨hg.sz,ae,p1⟩
theorem ahq (h:P:=by
 have z0:=aj HZ 0 (.int .i64 h0) rfl;by_cases G9:h0=ep;case neg=>
  have d0:(h0 !=ep)=true:=by simpa using G9
  have d1:(h0==ep)=false:=by simpa using G9
  rw[if_pos G9]at HQ;go_wp2;go_ret;exact HE.1.ok_ HF (by rw[HQ.out,iY.out];rfl)
 have d0:(h0 !=ep)=false:=by simp[G9]
 rw[if_neg (Decidable.not_not.2 G9)]at HQ;subst G9;have q0:=aj HG 0 (.int .i64 D.r.e) rfl;have q1:=aj HG 1 (.int .i64 D.r.k) rfl;have q2:=aj HG 2 (.slice A1 n1 c1) rfl;have q3:=aj HG 3 (.slice A2 n2 c2) rfl;go_upto_region 19 with fail
 clear z0 d0;obtain⟨-,-,-,⟨v1,v2,v3⟩,v4,v5,v6⟩:=UQ HV.out;have E1:=avn (c:=c1) (d:=c2) (r:=D.r) HE.1 (eF.far v1 (by rw[qO];exact v2) v3 Qj v2) (eF.far v4 (by rw[qO];exact v5) v6 Qj v5);have E2:=avo E1.1 wt;have pD:=aa E2.1;replace HF:=aa ((HF.trans E1.2).trans E2.2);have z2:=HE.1.c 2 (.int .i64 S1.r.e) rfl;have z3:=HE.1.c 3 (.int .i64 S1.r.k) rfl;have z4:=HE.1.c 4 (.slice y1.rn.A y1.rn.n y1.rn.c) rfl;have z5:=HE.1.c 5 (.slice y1.rq.A y1.rq.n y1.rq.c) rfl;have z6:=HE.1.c 6 (.string S1.wr) rfl;have f2:=HE.1.f 2;have f3:=HE.1.f 3;have f4:=HE.1.f 4;have f5:=HE.1.f 5;have f6:=HE.1.f 6;clear v1 v2 v3 v4 v5 v6 E1 E2;go_upto_region 20 with fail
 clear z2 z3 z4 z5 z6 f2 f3 f4 f5 f6 q0 q1 q2 q3;go_wp2_with fail;refine (Kc _ _ pD.ld.lv.pow (by have:=QC.out;have:=KO.out;omega) (by have:=QC.out;have:=KO.out;omega)).mono ?_;rintro e u2 ⟨rfl,cT⟩;have cg:=GR (n:=h0) (by have:=QC.out;have:=KO.out;omega) (by have:=QC.out;have:=KO.out;omega);have fT: ¬9223372036854775807<6+(fc h0).size:=ae;go_wp2;go_ret;exact (pD.below cT).ok_ (HF.trans (pD.fq cT)) (by rw[HQ.out,iY.out];rfl)):P:=h
theorem Vj (h:P:=by
 rw[if_pos wJ]at HQ;refine Calls.mono (by exact ael _ _ _ _ _ _ _ _ _ _ _ _ _ _ _ de wJ _) ?_;rintro _ w5 ⟨rfl,aY⟩;exact⟨rfl,(HD.below (hS.trans (aY.mono hS.size))).er (HF.trans (HD.fq (hS.trans (aY.mono hS.size)))) HQ⟩):P:=h
theorem ahr (h:P:=by
 refine hK.out _ _ ?_;clear hK K;go_wp2;go_meet;case rel=>exact⟨_,A1,n1,c1,A2,n2,c2,A3,n3,c3,A4,n4,c4,rfl,Px,hd7,ae,by first|rfl|trivial,dM.trans (cJ.mono fS)⟩):P:=h
theorem ahP (h:P:=by
 rw[if_pos uX]at HQ;go_wp2_with fail;refine (avz _ _ _ _ _ _ _ _ _ _ qe uX _).mono ?_;rintro e w9 ⟨rfl,cT⟩;exact⟨rfl,(HD.below cT).er (HF.trans (HD.fq cT)) HQ⟩):P:=h
theorem ag5 (h:P:=by
 rw[<-iY.out,dh,bu,nA,cL mp];rfl):P:=h
theorem agh (h:P:=by
 have cJ:=hS.trans (iC g7 pu hS.size);have hd7:=(tw.below (gH.trans (iC g7 (aM _) gH.size))).to (show w2.heap.size<=_ by omega);exact ahr):P:=h
theorem axG (B rb wb:Nat) (S:aW) (y:cQ) (A C:aN) (n c m d:Nat) (ws:List ag) (ms:List Int) (w:World) (h:Rm w B rb wb S y) (hS:Gd S) (ha:Rd w A (aZ ws)) (hn:n=ws.length) (hm:Rd w C (ints ms)) (mO:m=ms.length) (h1:1<=ws.length) (h2:3<=ms.length) (CN: ∀b o,A=some ⟨b,o,none⟩->b≠wb) (uO: ∀b o,C=some ⟨b,o,none⟩->b≠wb):
  Calls prog 25 #[.pointer (aw rb),.agg #[.slice A n c,.slice C m d]] w (ov B rb w (Cm S (wx ws 0) (ix ms 1) (ix ms 2))):=by
 have hb:=be w (.cells #[.slice A n c,.slice C m d] 57);obtain⟨ab,ao,rfl,lJ⟩:=tk (ha.below hb) (k:=0) ae;obtain⟨cb,co,rfl,gu⟩:=tl (hm.below hb) (k:=1) ae;obtain⟨cb',co',e,fi⟩:=tl (hm.below hb) (k:=2) ae;injection e with e
 injection e with e1 e2
 subst e1 e2;rw[Nat.add_zero]at lJ;have lh:=CN ab ao rfl;have mM:=uO cb co rfl;generalize wx ws 0=s at lJ⊢;generalize ix ms 1=K at gu⊢;generalize ix ms 2=N at fi⊢;have HR:=aa h;have HB:=aa hb;have H1:=aa (h.below hb);have r0:=(h.below hb).at_;have ir:=(h.below hb).c 17 (.bool S.op) rfl;have l0:=vY w (some ⟨ab,ao,none⟩) (some ⟨cb,co,none⟩) n c m d;have L:=aa (And.intro l0.1 (And.intro lJ (And.intro l0.2 (And.intro gu fi))));have e0:0<n:=ae;have e1:(1:Int)<(m:Int):=ae;have e2:(2:Int)<(m:Int):=ae;have sq:=h.wlt;have mS:w.heap.size≠wb:=ae;obtain⟨op,je⟩: ∃op,op=S.op:=⟨_,rfl⟩
 have HQ:=aa (axF S s K N);have HE:(dX S).2.2≠0->(dX S).1=S:=by
  unfold dX;split
  ·exact λ_=>rfl
  ·exact λh=>absurd rfl h
 have el:=Kh hS;have zJ:=aev S;have HN:=aa (λW hW=>aeu B rb wb S y W hW hS);rw[<-je]at ir HQ;generalize Cm S s K N=X at HQ⊢;clear h hb hS ha hn hm mO h1 h2 CN uO lJ gu fi je l0;generalize dX S=r at HN HQ HE el zJ;obtain⟨S1,t,re⟩:=r;simp only at HQ HE el zJ;have HE:=aa HE;have rB:=aa el;have QC:=aa (And.intro el.e0 el.e1);have C0:IntKind.i64.wrap (S1.r.e+1)=S1.r.e+1:=IntWalk.i64_in _ (by have:=el.e0;have:=el.e1;omega);clear el;cases op with
 |false=>
  exact Oz
 |true=>
  rw[if_neg au]at HQ;go_in;go_wp2_with fail;refine (Kb rb wb _ r0 ir).mono ?_;rintro e w1 ⟨rfl,rfl⟩;go_wp2_with fail;refine (HN _ H1).mono ?_;rintro e w2 ⟨he,⟨y1,hr,hy1⟩,hg⟩;simp only at he hr;have HD:=aa hr;have HF:=aa ((HR.fq HB).trans (ahU H1 hr hy1 hg));replace L:=aa (And.intro (AK hg mS L.1) (And.intro (AK hg lh L.2.1) (And.intro (AK hg mS L.2.2.1) (And.intro (AK hg mM L.2.2.2.1) (AK hg mM L.2.2.2.2)))));clear hr hy1 hg r0 ir;by_cases nL:re=0;case neg=>
   exact agb
  rw[if_pos nL]at he;subst he nL;rw[if_neg au]at HQ;have c2:=HD.c 2 (.int .i64 S1.r.e) rfl;obtain⟨ep,jM⟩: ∃ep,ep=S1.r.e+1:=⟨_,rfl⟩
  have nM:=aa (show Ol S1 t s K N=_ by unfold Ol;rw[<-jM]);rw[nM.out]at HQ;have KO:=aa jM;clear jM;have zv:=aa (λA n c W hr hn j7 hT hR=>afE s S1.ns A n c K ep W hr hn j7 hT hR);have Bl:=aa (λh=>afF (seed:=s) (ns:=S1.ns) (k:=K) (e:=ep) h);generalize kJ s S1.ns K ep=de at HQ zv Bl;generalize du s S1.ns K ep=D at HQ zv Bl;have HW:=aa (λW hT hs hn hm=>abz D.sec t S1.ms W hT hs hn hm);generalize nh D.sec t S1.ms=we at HQ HW;generalize qI D.sec t S1.ms=wt at HQ HW;have jv:=aa (λA n c l v W h1 h2 h3 hv hR=>afD (ds:=S1.ds) B A n c l v D N W h1 h2 rB.ds h3 hv hR);unfold wu at jv;have uL:=aa ((NW D S1.ds N rB.ds).1);have Fb:=aa (λh=>Of (D:=D) (d:=N) rB.ds h);generalize ij D S1.ds N=R at HQ jv uL Fb;obtain⟨Rl,Rb,Re⟩:=R;simp only at HQ jv uL Fb;have HTl:=aa (λh=>afo (l:=Rl) (e:=ep) h);have Qj:=HD.wlt;have tS:=aa (show y1.nm.n=S1.ns.length/\y1.nm.n<=maxLen from by
   have h1:=HD.wm.dt.nm.2.1;have h2:=rB.ns;exact⟨h1,by unfold maxLen;omega⟩)
  have Qp:=aa (show y1.dk.n<=100000 from by
   have h1:=HD.wm.dt.dk.hn;have h2:=HD.wm.dt.pl;have h3:=rB.dn;have h4:=rB.ns;rw[<-h2,rW]at h3;omega)
  have HZw:=aa (show t.size<=maxLen/\S1.ms.size<=maxLen from⟨by unfold maxLen;omega,by have:=rB.ms;unfold maxLen;omega⟩);go_upto_region 4 with fail
  rw[<-KO.out];clear C0;go_cut [8] from 26 to 42 (λs8 wx=> ∃gd A1 n1 c1 A2 n2 c2 A3 n3 c3 A4 n4 c4,s8= .pointer (aw gd)/\bj wx gd #[.int .i64 D.r.e,.int .i64 D.r.k,.slice A1 n1 c1,.slice A2 n2 c2,.string D.sec,.slice A3 n3 c3,.slice A4 n4 c4] 67/\mF w2.heap.size wx (.agg #[.int .i64 D.r.e,.int .i64 D.r.k,.slice A1 n1 c1,.slice A2 n2 c2,.string D.sec,.slice A3 n3 c3,.slice A4 n4 c4]) D/\w2.heap.size<=gd/\de=0/\aD w2 wx);case first=>
   refine jr (S:=λW=>Below w2.drew.heap.size w2.drew W) 18 ax (aI _ _) (λhS=>?_);replace HF:=aa (HF.trans (HD.fq Y9q));replace HD:=aa (HD.below Y9q);replace L:=aa (jW L Y9q);have dM:=aa (tq w2);have fS:=dM.size;generalize w2.drew=w0 at hS HD L dM HF fS⊢;refine kU 0 hS ?_;refine kV 1 rfl hS (by intro _ h9;have k0:=(jW L.out h9).1;go_simp;try with_reducible rfl) ?_;refine kU 2 hS ?_;refine kV 3 rfl hS (by intro _ h9;have k1:=(jW L.out h9).2.1;go_simp;try with_reducible rfl) ?_;refine kU 4 hS ?_;refine kU 5 hS ?_;refine kU 6 hS ?_;refine kV 7 rfl hS (by intro _ h9;have c0:=(HD.out.below h9).c 0 (.slice y1.nm.A y1.nm.n y1.nm.c) rfl;go_simp;try with_reducible rfl) ?_;refine kU 8 hS ?_;refine kV 9 rfl hS (by intro _ h9;have k2:=(jW L.out h9).2.2.1;go_simp;try with_reducible rfl) ?_;refine kU 10 hS ?_;refine kV 11 rfl hS (by intro _ h9;have k3:=(jW L.out h9).2.2.2.1;go_simp;try with_reducible rfl) ?_;refine kU 12 hS ?_;refine kR2 13 17 (λK hK=>?_) (λK hK=>?_)
   ·go_simp;have hsB:w0.heap.size<=w0.heap.size:=hS.size;refine Calls.mono (by exact zv.out _ _ _ _ (HD.below hS).wm.dt.nm.1 tS.1 tS.2 (HD.below hS).ld.lv.turns (HD.below hS).ld.lv.arm.rounds) ?_;rintro _ w3 ⟨A1,n1,c1,A2,n2,c2,A3,n3,c3,A4,n4,c4,rfl,tw,aL⟩;go_simp;refine hK.out _ _ (hS.trans (aL.mono hS.size)) (λhS=>?_);clear hK K;try go_frame
    clear aL;refine kU 14 hS ?_;refine kU 15 hS ?_;refine kR2 16 17 (λK hK=>?_) (λK hK=>?_)
    ·go_simp;by_cases wJ:de=0;case neg=>
      exact Vj
     subst wJ;refine Calls.mono (by exact N0 _ _ _ _ _ _ _ _ _ _ _ _ _ _ _ _) ?_;rintro _ w5 ⟨rfl,aY⟩;go_simp;replace tw:=tw.below aY;refine hK.out _ _ (hS.trans (aY.mono hS.size)) (λhS=>?_);clear hK K;try go_frame
     clear aY;refine kR 17 λK hK=>?_
     ·go_simp;have hz:=aR w5 (.cells #[.int .i64 0,.int .i64 0,ay,ay,.string ⟨#[]⟩,ay,ay] 67);have pu:=hS.size;have gH:=(be w5 (.cells #[.int .i64 0,.int .i64 0,ay,ay,.string ⟨#[]⟩,ay,ay] 67))
      have bn:=hS.alloc hS.size (.cells #[.int .i64 0,.int .i64 0,ay,ay,.string ⟨#[]⟩,ay,ay] 67);refine hK.out _ _ bn (λhS=>?_);clear hK K;try go_frame
      generalize w5.alloc (.cells #[.int .i64 0,.int .i64 0,ay,ay,.string ⟨#[]⟩,ay,ay] 67)=x6 at hS bn hz gH⊢;clear bn;refine kL λK hK=>?_;have u0:=aj hz 0 _ rfl;have u1:=aj hz 1 _ rfl;have u2:=aj hz 2 _ rfl;have u3:=aj hz 3 _ rfl;have u4:=aj hz 4 _ rfl;have u5:=aj hz 5 _ rfl;have u6:=aj hz 6 _ rfl;have v0:=aU hz 0;have v1:=aU hz 1;have v2:=aU hz 2;have v3:=aU hz 3;have v4:=aU hz 4;have v5:=aU hz 5;have v6:=aU hz 6;go_simp;have Px:=Gk hz (.int .i64 D.r.e) (.int .i64 D.r.k) (.slice A1 n1 c1) (.slice A2 n2 c2) (.string D.sec) (.slice A3 n3 c3) (.slice A4 n4 c4);have g7:=Gl x6 (w5.heap.size) (.int .i64 D.r.e) (.int .i64 D.r.k) (.slice A1 n1 c1) (.slice A2 n2 c2) (.string D.sec) (.slice A3 n3 c3) (.slice A4 n4 c4);exact agh
    ·go_simp;have hz:=aR w3 (.cells #[.int .i64 0,.int .i64 0,ay,ay,.string ⟨#[]⟩,ay,ay] 67);have pu:=hS.size;have gH:=(be w3 (.cells #[.int .i64 0,.int .i64 0,ay,ay,.string ⟨#[]⟩,ay,ay] 67))
     have bn:=hS.alloc hS.size (.cells #[.int .i64 0,.int .i64 0,ay,ay,.string ⟨#[]⟩,ay,ay] 67);refine hK.out _ _ bn (λhS=>?_);clear hK K;try go_frame
     generalize w3.alloc (.cells #[.int .i64 0,.int .i64 0,ay,ay,.string ⟨#[]⟩,ay,ay] 67)=x6 at hS bn hz gH⊢;clear bn;refine kR 16 λK hK=>?_
     ·go_simp;by_cases wJ:de=0;case neg=>
       exact Vj
      subst wJ;refine Calls.mono (by exact N0 _ _ _ _ _ _ _ _ _ _ _ _ _ _ _ _) ?_;rintro _ w5 ⟨rfl,aY⟩;go_simp;replace hz:=aJ hz aY;replace gH:=gH.trans (aY.mono gH.size);refine hK.out _ _ (hS.trans (aY.mono hS.size)) (λhS=>?_);clear hK K;try go_frame
      clear aY;refine kL λK hK=>?_;have u0:=aj hz 0 _ rfl;have u1:=aj hz 1 _ rfl;have u2:=aj hz 2 _ rfl;have u3:=aj hz 3 _ rfl;have u4:=aj hz 4 _ rfl;have u5:=aj hz 5 _ rfl;have u6:=aj hz 6 _ rfl;have v0:=aU hz 0;have v1:=aU hz 1;have v2:=aU hz 2;have v3:=aU hz 3;have v4:=aU hz 4;have v5:=aU hz 5;have v6:=aU hz 6;go_simp;have Px:=Gk hz (.int .i64 D.r.e) (.int .i64 D.r.k) (.slice A1 n1 c1) (.slice A2 n2 c2) (.string D.sec) (.slice A3 n3 c3) (.slice A4 n4 c4);have g7:=Gl w5 (w3.heap.size) (.int .i64 D.r.e) (.int .i64 D.r.k) (.slice A1 n1 c1) (.slice A2 n2 c2) (.string D.sec) (.slice A3 n3 c3) (.slice A4 n4 c4);exact agh
   ·go_simp;have hz:=aR w0 (.cells #[.int .i64 0,.int .i64 0,ay,ay,.string ⟨#[]⟩,ay,ay] 67);have pu:=hS.size;have bn:=hS.alloc hS.size (.cells #[.int .i64 0,.int .i64 0,ay,ay,.string ⟨#[]⟩,ay,ay] 67);refine hK.out _ _ bn (λhS=>?_);clear hK K;try go_frame
    generalize w0.alloc (.cells #[.int .i64 0,.int .i64 0,ay,ay,.string ⟨#[]⟩,ay,ay] 67)=x6 at hS bn hz⊢;clear bn;refine kR 13 λK hK=>?_
    ·go_simp;have hsB:w0.heap.size<=x6.heap.size:=hS.size;have XK:=bf hz;refine Calls.mono (by exact zv.out _ _ _ _ (HD.below hS).wm.dt.nm.1 tS.1 tS.2 (HD.below hS).ld.lv.turns (HD.below hS).ld.lv.arm.rounds) ?_;rintro _ w3 ⟨A1,n1,c1,A2,n2,c2,A3,n3,c3,A4,n4,c4,rfl,tw,aL⟩;go_simp;replace hz:=aJ hz aL;refine hK.out _ _ (hS.trans (aL.mono hS.size)) (λhS=>?_);clear hK K;try go_frame
     clear aL;refine kU 14 hS ?_;refine kU 15 hS ?_;refine kR 16 λK hK=>?_
     ·go_simp;by_cases wJ:de=0;case neg=>
       exact Vj
      subst wJ;refine Calls.mono (by exact N0 _ _ _ _ _ _ _ _ _ _ _ _ _ _ _ _) ?_;rintro _ w5 ⟨rfl,aY⟩;go_simp;replace hz:=aJ hz aY;replace tw:=tw.below aY;refine hK.out _ _ (hS.trans (aY.mono hS.size)) (λhS=>?_);clear hK K;try go_frame
      clear aY;refine kL λK hK=>?_;have u0:=aj hz 0 _ rfl;have u1:=aj hz 1 _ rfl;have u2:=aj hz 2 _ rfl;have u3:=aj hz 3 _ rfl;have u4:=aj hz 4 _ rfl;have u5:=aj hz 5 _ rfl;have u6:=aj hz 6 _ rfl;have v0:=aU hz 0;have v1:=aU hz 1;have v2:=aU hz 2;have v3:=aU hz 3;have v4:=aU hz 4;have v5:=aU hz 5;have v6:=aU hz 6;go_simp;have Px:=Gk hz (.int .i64 D.r.e) (.int .i64 D.r.k) (.slice A1 n1 c1) (.slice A2 n2 c2) (.string D.sec) (.slice A3 n3 c3) (.slice A4 n4 c4);have g7:=Gl w5 (w0.heap.size) (.int .i64 D.r.e) (.int .i64 D.r.k) (.slice A1 n1 c1) (.slice A2 n2 c2) (.string D.sec) (.slice A3 n3 c3) (.slice A4 n4 c4);have cJ:=hS.trans (iC g7 pu hS.size);have hd7:=(tw.gb g7 XK).to (show w2.heap.size<=_ by omega);exact ahr
  case rest=>
   obtain⟨gd,A1,n1,c1,A2,n2,c2,A3,n3,c3,A4,n4,c4,rfl,lM,wU,FE,rfl,io⟩:=hcut;rw[if_neg au]at HQ;have Xg:=aa (Bl rfl);replace HF:=aa (HF.trans (HD.fq io));replace HD:=aa (HD.below io);replace L:=aa (jW L io);have HG:=aa lM;have HV:=aa wU;have xj:gd≠wb:=ae;clear lM wU io;go_wp2_with fail;refine Km (S:=λW=>Below wc.drew.heap.size wc.drew W) ax (aI _ _) (λhS=>?_);replace HF:=aa (HF.trans (HD.fq Y9q));replace HD:=aa (HD.below Y9q);replace L:=aa (jW L Y9q);replace HG:=aa (aJ HG Y9q);replace HV:=aa (HV.below Y9q);generalize wc.drew=w3 at hS HF HD L HG HV⊢;refine hU 0 hS ?_;refine hV 1 rfl hS (by intro _ h9;have q4:=aj (aJ HG.out h9) 4 (.string D.sec) rfl;go_simp;try with_reducible rfl) ?_;refine hU 2 hS ?_;refine hU 3 hS ?_;refine hU 4 hS ?_;refine hU 5 hS ?_;refine hV 6 rfl hS (by intro _ h9;have c18:=(HD.out.below h9).c 18 (.string S1.ms) rfl;go_simp;try with_reducible rfl) ?_;refine yB (rs:= [7]) ax ak (jE.cons rfl (λK hK=>?_) jE.nil);go_simp;refine Calls.mono (by exact HW.out _ (HD.below hS).ld.lv.turns (by rw[Xg.1];decide) HZw.1 HZw.2) ?_;rintro _ w4 ⟨rfl,aP⟩;go_simp;refine hK.out _ _ (hS.trans (aP.mono hS.size)) (λhS=>?_);clear hK K;try go_frame
   clear aP;refine hU 8 hS ?_;refine hU 9 hS ?_;refine yB (rs:= [10]) ax ak (jE.cons rfl (λK hK=>?_) jE.nil);by_cases Dc:we=0;case neg=>
    rw[if_pos Dc]at HQ;go_simp;refine Calls.mono (by exact Ed _ (we:Int) ae _) ?_;rintro _ w5 ⟨rfl,rfl⟩;exact⟨rfl,(HD.below hS).er (HF.trans (HD.fq hS)) HQ⟩
   subst Dc;rw[if_neg au]at HQ;go_simp;refine Calls.mono (by exact GG _ _) ?_;rintro _ w4 ⟨rfl,rfl⟩;go_simp;refine hK.out _ _ hS (λhS=>?_);clear hK K;try go_frame
   refine yB (rs:= [11]) ax ak (jE.cons rfl (λK hK=>?_) jE.nil);go_simp;refine hK.out _ _ hS (λhS=>?_);clear hK K;try go_frame
   refine wpAnyH_done ax ?_ _;go_wp2_with fail;replace HF:=aa (HF.trans (HD.fq hS));replace HD:=aa (HD.below hS);replace L:=aa (jW L hS);replace HG:=aa (aJ HG hS);replace HV:=aa (HV.below hS);clear hS;skip;refine Km (S:=λW=>Below w4.drew.heap.size w4.drew W) ax (aI _ _) (λhS=>?_);replace HF:=aa (HF.trans (HD.fq Y9q));replace HD:=aa (HD.below Y9q);replace L:=aa (jW L Y9q);replace HG:=aa (aJ HG Y9q);replace HV:=aa (HV.below Y9q);generalize w4.drew=w5 at hS HF HD L HG HV⊢;refine hU 0 hS ?_;refine hU 1 hS ?_;refine hU 2 hS ?_;refine hV 3 rfl hS (by intro _ h9;have c1:=(HD.out.below h9).c 1 (.slice y1.dk.A y1.dk.n y1.dk.c) rfl;go_simp;try with_reducible rfl) ?_;refine hV 4 rfl hS (by intro _ h9;have g9:=aJ HG.out h9;have q0:=aj g9 0 (.int .i64 D.r.e) rfl;have q1:=aj g9 1 (.int .i64 D.r.k) rfl;have q2:=aj g9 2 (.slice A1 n1 c1) rfl;have q3:=aj g9 3 (.slice A2 n2 c2) rfl;have q4:=aj g9 4 (.string D.sec) rfl;have q5:=aj g9 5 (.slice A3 n3 c3) rfl;have q6:=aj g9 6 (.slice A4 n4 c4) rfl;clear g9;go_simp;try with_reducible rfl) ?_;refine hU 5 hS ?_;refine hV 6 rfl hS (by intro _ h9;have k2:=(jW L.out h9).2.2.1;go_simp;try with_reducible rfl) ?_;refine hU 7 hS ?_;refine hV 8 rfl hS (by intro _ h9;have k4:=(jW L.out h9).2.2.2.2;go_simp;try with_reducible rfl) ?_;refine yB (rs:= [9]) ax ak (jE.cons rfl (λK hK=>?_) jE.nil);have Ms:=hS.size;go_simp;refine Calls.mono (by exact jv.out _ _ _ _ _ _ (HD.below hS).wm.dt.dk (HD.below hS).wm.dt.pl Qp (HV.below hS).dv (HD.below hS).ld.lv.arm.rounds) ?_;rintro _ w6 ⟨A6,n6,c6,l6,rfl,I6,hpl6,hrd6,bO,AY⟩;clear I6;go_simp;refine hK.out _ _ (hS.trans (bO.mono hS.size)) (λhS=>?_);clear hK K;try go_frame
   have HO:=aa (AY.mono Ms);have iY:=aa hpl6;clear bO AY hpl6 hrd6 Ms;refine hU 10 hS ?_;refine hU 11 hS ?_;refine hU 12 hS ?_;refine hU 13 hS ?_;refine hU 14 hS ?_;refine hU 15 hS ?_;refine yB (rs:= [16]) ax ak (jE.cons rfl (λK hK=>?_) jE.nil);go_simp;refine hK.out _ _ hS (λhS=>?_);clear hK K;try go_frame
   refine wpAnyH_done ax ?_ _;go_wp2_with fail;have oD:=aa hS;clear hS L;by_cases yY:Re=0;case neg=>
    rw[if_pos yY]at HQ;refine (AH Re yY _).mono ?_;rintro e w7 ⟨rfl,rfl⟩;exact⟨rfl,(HD.below oD).er (HF.trans (HD.fq oD)) HQ⟩
   subst yY;rw[if_neg au]at HQ;have wC:=aa (Fb rfl);have y9:=aa (And.intro rB.dn Xg.2);have fK:B<=w5.heap.size:=HD.ld.le;have mp:0<l6.length:=by
    have h1:=wC.out;have h2:=y9.out;rw[<-iY.out,rW]at h1;omega
   clear rB Xg;refine (rV _).mono ?_;rintro e w7 ⟨rfl,rfl⟩;cases Rb with
   |true=>
    rw[if_pos rfl]at HQ;replace HF:=aa (HF.trans (HD.fq oD));replace HG:=aa (aJ HG oD);replace HV:=aa (HV.below oD);replace HD:=aa (HD.below oD);obtain⟨g6,yO,Bu,d0,d1⟩:=Et HO mp;subst yO;rw[Nat.zero_mul]at d0 d1;rw[Nat.zero_add]at d1;have Xy:(Rl).getD 0 bI=l6[0].P:=by
     exact ag5
    have dI:=HO.ok _ (dY mp);have mu:=HQ.out;unfold Kz at mu;rw[Xy]at mu;generalize l6[0]=x6 at d0 d1 dI mu;obtain⟨xA,xn,xc,xB,xm,xd,xP⟩:=x6;simp only at d0 d1 dI mu;have uR:=aa (Gm (.agg #[.slice xA xn xc,.slice xB xm xd]) xP w7 ⟨_,_,_,_,_,_,rfl,dI⟩);unfold Tt at uR;generalize dr xP=qq at uR mu;obtain⟨⟨h0,h1,h2,h3,h4,h5,h6,h7,h8,h9⟩,qe⟩:=qq;simp only[kK]at uR mu;replace HQ:=aa mu;have e8:0<n6:=(by have:=HO.hn;omega);clear Xy dI mu mp;go_wp2_with fail;refine (uR).mono ?_;rintro e w8 ⟨rfl,cG⟩;clear d0 d1;replace HF:=aa (HF.trans (HD.fq cG));replace HD:=aa (HD.below cG);replace HG:=aa (aJ HG cG);replace HV:=aa (HV.below cG);replace HO:=aa (HO.below cG);clear cG;by_cases uX:qe=0;case neg=>
     exact ahP
    subst uX;rw[if_neg au]at HQ;go_wp2_with fail;refine (aem _ _ _ _ _ _ _ _ _ _ _).mono ?_;rintro e w9 ⟨rfl,cT⟩;have bE:=be w9 (.cells #[.int .i64 h0,.int .i64 h1,.int .i64 h2,.string h3,.string h4,.string h5,.int .i64 h6,.int .i64 h7,.string h8,.string h9] 120);have HZ:=aa (aR w9 (.cells #[.int .i64 h0,.int .i64 h1,.int .i64 h2,.string h3,.string h4,.string h5,.int .i64 h6,.int .i64 h7,.string h8,.string h9] 120));have gH:=bg cT bE;replace HF:=aa (HF.trans (HD.fq gH));replace HD:=aa (HD.below gH);replace HG:=aa (aJ HG gH);replace HV:=aa (HV.below gH);replace HO:=aa (HO.below gH);have O3:=bf (aJ HG (aI _ _));clear cT bE gH O3;obtain⟨u0,qz⟩: ∃u,u=w9.alloc (.cells #[.int .i64 h0,.int .i64 h1,.int .i64 h2,.string h3,.string h4,.string h5,.int .i64 h6,.int .i64 h7,.string h8,.string h9] 120):=⟨_,rfl⟩
    have Fx:=aa qz;rw[<-qz]at HF HD HG HV HO HZ;clear qz;go_upto_region 16 with fail
    rw[<-Fx.out];have z1:=HD.c 1 (.slice y1.dk.A y1.dk.n y1.dk.c) rfl;have f1:=HD.f 1;have Wy:=kP HZ HD.wm.blk au;generalize w9.heap.size=gh at*;have E:=aej (c:=c6) HD (HO.mono fK);have HE:=aa E;replace HF:=aa (HF.trans E.2);replace HG:=aa (dH (eE u0 wb 1 (.slice (aw g6) n6 c6)) HG xj);replace HV:=aa (HV.gb (eE u0 wb 1 (.slice (aw g6) n6 c6)) Qj);replace HZ:=aa (dH (eE u0 wb 1 (.slice (aw g6) n6 c6)) HZ Wy);clear E;go_upto_region 17 with fail
    clear z1 f1;generalize u0.setCell ⟨wb,1,none⟩ (.slice (aw g6) n6 c6)=u1 at*;exact ahq
   |false=>
    rw[if_neg au]at HQ;obtain⟨g6,yO,Bu,-,-⟩:=Et HO mp;subst yO;have I6:=HO.hn;have alo:Rl.length=n6:=(by rw[<-iY.out,rW,I6]);have aE1:n6<=16:=(by have h1:=wC.out;have h2:=y9.out;omega);have aiL:=aa alo;clear mp I6 alo;go_wp2_with fail;go_loopg [74] n6 (λgh i wr=> ∃(k:Nat) (l':List Dk),k+gh=n6/\i= .int .i64 k/\dC wr w5.heap.size (aw g6) n6 c6 l'/\bu l'=(Rl.take k).map (λP=>(eW [] P).1)++Rl.drop k/\(∀P∈Rl.take k,(eW [] P).2=0)/\aD w5 wr);case atStart=>exact⟨0,l6,Nat.zero_add _,rfl,HO,by rw[iY.out];rfl,λP h=>by simp at h,oD⟩
    case round=>
     obtain⟨k,l',hk,rfl,ho,eX,hz,mW⟩:=hrel;have mS:=ho.hn;cases gk with
     |succ g2=>
      have cY:k<l'.length:=ae;have Ml:k<Rl.length:=(by have:=aiL.out;omega);obtain⟨g9,ro,-,d0,d1⟩:=Et ho cY;injection ro with ro
      injection ro with ro _
      subst ro;have dI:=ho.ok _ (dY cY);have hP:l'[k].P=Rl[k]:=by
       have h1:(bu l')[k]?=some l'[k].P:=(by rw[bu,nA,cL cY];rfl);rw[eX,ux (by rw[kQ,List.length_take];omega),kQ,List.length_take,Nat.min_eq_left ae,Nat.sub_self,List.getElem?_drop,Nat.add_zero,cL Ml]at h1;exact (bW h1).symm
      have PC:=aa (axB (λP=>(eW [] P).1) Rl k Ml);have PL:=aa (λh=>axC (e:=ep) Ml hz h);have PT:=aa (λh=>take_zero Ml hz h);rw[<-hP]at PC PL PT;have oG:=aa ho;have Wr:=aa eX;have sC:=aa mW;have HK:=aa (And.intro hk mS);generalize l'[k]=x6 at d0 d1 dI PC PL PT;obtain⟨xA,xn,xc,xB,xm,xd,xP⟩:=x6;simp only at d0 d1 dI PC PL PT;have az':=dI;have bE:=be wr (.cells #[.slice xA xn xc,.slice xB xm xd] 74);have HX:=aa (aR wr (.cells #[.slice xA xn xc,.slice xB xm xd] 74));have HCr:=aa (aeO xA xB xn xc xm xd xP _ (PB.below dI bE));have e1:(k:Int)<(n6:Int):=ae;have I1:=aa bE;clear ho eX hz mW dI az' hP Ml cY hk mS bE;have x0:=aj HX 0 _ rfl;have x1:=aj HX 1 _ rfl;go_wp2_with fail;clear d0 d1;refine (HCr).mono ?_;rintro e w8 ⟨_,rfl,⟨A4,n4,c4,B4,m4,d4,rfl,xq⟩,aP⟩;simp only at xq⊢;clear x0 x1;by_cases sr:(eW [] xP).2=0;case neg=>
       rw[PL.out sr,if_pos sr]at HQ;go_wp2_with fail;refine (NK _ _ _ _ _ _ _ sr _).mono ?_;rintro e w9 ⟨rfl,cT⟩;have vm:=sC.trans ((I1.trans ((aP.mono I1.size).trans (cT.mono (bD I1.size aP.size)))).mono sC.size);exact⟨rfl,(HD.below vm).er (HF.trans (HD.fq vm)) HQ⟩
      go_wp2_with fail;rw[sr];refine (En _ _ _ _ _ _ _).mono ?_;rintro e w9 ⟨rfl,cT⟩;have j':=(I1.trans ((aP.mono I1.size).trans (cT.mono (bD I1.size aP.size))))
      have lf:=aa (oG.below j');have WI:=ju sC j';obtain⟨g9,ro,-,p0,p1⟩:=Et lf (j:=k) (by have:=HK.out;omega);injection ro with ro
      injection ro with ro _
      subst ro;have f0:=lf.os.frozenAt (k*2);have f1:=lf.os.frozenAt (k*2+1);have di:=lf.set (i:=k) (by have:=HK.out;omega) (x:=⟨A4,n4,c4,B4,m4,d4,(eW [] xP).1⟩) (xq.below cT);have Ba:=aa di.1;have AR:=aa (WI.trans (iC di.2 Bu WI.size));have aCO:k<l'.length:=(by have:=HK.out;omega);generalize l'[k].A=oA at p0;generalize l'[k].n=on at p0;generalize l'[k].c=oc at p0;generalize l'[k].B=oB at p1;generalize l'[k].m=om at p1;generalize l'[k].d=od at p1;have PK:=aa (PT sr);clear di WI j' aP cT xq aCO;go_wp2_with fail;go_roundg g2;case measure=>omega
      case rel=>exact⟨k+1,_,by have:=HK.out;omega,by go_num,Ba,by rw[Ef,Wr.out];exact PC.out,PK,AR⟩
     |zero=>
      obtain rfl:k=n6:=hk;rw[<-aiL.out,List.take_length]at hz eX;rw[List.drop_length,List.append_nil]at eX;have hTq:=axD (e:=ep) hz;have mN:=Uo uL (f:=eW []) (Em _);rw[<-eX]at mN;have eG:=aa (aur (aw g6) k c6 l' ep wr ho.rd mS ae (afC mN ho.ok));unfold Co at eG;rw[eX]at eG;have It:=aa (HTl);rw[hTq]at HQ It;generalize l9 (Rl.map λP=>(eW [] P).1) ep=T at HQ It eG;obtain⟨Tl,Te⟩:=T;simp only at HQ It eG;have sC:=aa mW;have e9: ¬(k:Int)<(k:Int):=ae;clear ho eX hz mW hTq mN iY HO mS;go_wp2_with fail;refine (eG).mono ?_;rintro e w8 ⟨A7,n7,c7,l7,rfl,hpl7,ho7,cJ⟩;have ze:=aX sC cJ;have Qy:=aa (show Te=0->0<l7.length from λh=>by
       have h1:=It.out h;have h2:=wC.out;have h3:=y9.out;rw[<-hpl7,rW]at h1;omega)
      have HO:=aa (ho7.mono sC.size);have iY:=aa hpl7;clear hpl7 ho7 cJ;by_cases VO:Te=0;case neg=>
       rw[if_pos VO]at HQ;go_wp2_with fail;refine (atU _ _ _ Te VO _).mono ?_;rintro e w9 ⟨rfl,rfl⟩;exact⟨rfl,(HD.below ze).er (HF.trans (HD.fq ze)) HQ⟩
      subst VO;rw[if_neg au]at HQ;have mp:=Qy.out rfl;have cG:=ze.out;clear ze;replace HF:=aa (HF.trans (HD.fq cG));replace HD:=aa (HD.below cG);replace HG:=aa (aJ HG cG);replace HV:=aa (HV.below cG);clear cG;go_wp2_with fail;refine (atT _ _ _ _).mono ?_;rintro e w9 ⟨rfl,rfl⟩;obtain⟨g7,hg7,zp,d0,d1⟩:=Et HO mp;subst hg7;rw[Nat.zero_mul]at d0 d1;rw[Nat.zero_add]at d1;have sj:(Tl).getD 0 bI=l7[0].P:=by
       exact ag5
      have dI:=HO.ok _ (dY mp);have mu:=HQ.out;unfold Kz at mu;rw[sj]at mu;generalize l7[0]=x7 at d0 d1 dI mu;obtain⟨xA,xn,xc,xB,xm,xd,xP⟩:=x7;simp only at d0 d1 dI mu;have uR:=aa (Gm (.agg #[.slice xA xn xc,.slice xB xm xd]) xP w9 ⟨_,_,_,_,_,_,rfl,dI⟩);unfold Tt at uR;generalize dr xP=qq at uR mu;obtain⟨⟨h0,h1,h2,h3,h4,h5,h6,h7,h8,h9⟩,qe⟩:=qq;simp only[kK]at uR mu;replace HQ:=aa mu;have e8:0<n7:=(by have:=HO.hn;omega);clear sj dI mu mp;go_wp2_with fail;refine (uR).mono ?_;rintro e w8 ⟨rfl,cG⟩;clear d0 d1;replace HF:=aa (HF.trans (HD.fq cG));replace HD:=aa (HD.below cG);replace HG:=aa (aJ HG cG);replace HV:=aa (HV.below cG);replace HO:=aa (HO.below cG);clear cG;by_cases uX:qe=0;case neg=>
       exact ahP
      subst uX;rw[if_neg au]at HQ;go_wp2_with fail;refine (aem _ _ _ _ _ _ _ _ _ _ _).mono ?_;rintro e w9 ⟨rfl,cT⟩;have bE:=be w9 (.cells #[.int .i64 h0,.int .i64 h1,.int .i64 h2,.string h3,.string h4,.string h5,.int .i64 h6,.int .i64 h7,.string h8,.string h9] 120);have HZ:=aa (aR w9 (.cells #[.int .i64 h0,.int .i64 h1,.int .i64 h2,.string h3,.string h4,.string h5,.int .i64 h6,.int .i64 h7,.string h8,.string h9] 120));have gH:=bg cT bE;replace HF:=aa (HF.trans (HD.fq gH));replace HD:=aa (HD.below gH);replace HG:=aa (aJ HG gH);replace HV:=aa (HV.below gH);replace HO:=aa (HO.below gH);have O3:=bf (aJ HG (aI _ _));clear cT bE gH O3;obtain⟨u0,qz⟩: ∃u,u=w9.alloc (.cells #[.int .i64 h0,.int .i64 h1,.int .i64 h2,.string h3,.string h4,.string h5,.int .i64 h6,.int .i64 h7,.string h8,.string h9] 120):=⟨_,rfl⟩
      have Fx:=aa qz;rw[<-qz]at HF HD HG HV HO HZ;clear qz;go_upto_region 16 with fail
      rw[<-Fx.out];have z1:=HD.c 1 (.slice y1.dk.A y1.dk.n y1.dk.c) rfl;have f1:=HD.f 1;have Wy:=kP HZ HD.wm.blk au;generalize w9.heap.size=gh at*;have E:=aej (c:=c7) HD (HO.mono fK);have HE:=aa E;replace HF:=aa (HF.trans E.2);replace HG:=aa (dH (eE u0 wb 1 (.slice (aw g7) n7 c7)) HG xj);replace HV:=aa (HV.gb (eE u0 wb 1 (.slice (aw g7) n7 c7)) Qj);replace HZ:=aa (dH (eE u0 wb 1 (.slice (aw g7) n7 c7)) HZ Wy);clear E;go_upto_region 17 with fail
      clear z1 f1;generalize u0.setCell ⟨wb,1,none⟩ (.slice (aw g7) n7 c7)=u1 at*;exact ahq
def GS (B rb:Nat) (R:Option aW) (w:World) (r:Option aW×Tl) (e:Ending) (w':World):Prop:=e=NS r.2/\iT w' B rb (r.1.or R)/\Ld rb w'/\Fq B rb w w'
theorem Ld.up {A:Nat} (h:Ld A w) (hB:A<=B) (hw:B<=w.heap.size):Ld B w:=by
 obtain⟨w0,h1,h2,h3,h4⟩:=h;exact⟨w0,h1,bD h2 hB,hw,h4⟩
theorem Ld.fq {A:Nat} (h:Ld rb w) (hB:rb<=B) (hf:Fq B rb w w'):Ld rb w':=by
 obtain⟨w0,h1,h2,h3,h4⟩:=h;exact⟨w0,h1,h2,bD h3 hf.size,hf.os.trans h4.os,hf.tape.trans h4.tape,hf.output.trans h4.output,bD h4.size hf.size,λk hk=>(hf.low k ae ae).trans (h4.block k hk)⟩
theorem iT.below (h:iT w B rb R) (hb:aD w w'):iT w' B rb R:=by
 cases R with
 |none=>exact aJ h hb
 |some S=>
  obtain⟨wb,y,h1,h2⟩:=h;exact⟨wb,y,aJ h1 hb,h2.below hb⟩
theorem KC {x:Int} (hR:iT w B rb R) (hl:Ld rb w) (hB:B<=w.heap.size) (hb:aD w W) (hr:r=(none,.er x)):GS B rb R w r (ma x) W:=by
 subst hr;exact⟨rfl,by rw[Option.none_or];exact hR.below hb,hl.below hb,wA hB hb⟩
def UR:Value->Bool
 | .pointer _=>true
 |_=>false
theorem OU (h:P:=by
 obtain⟨p,_,rfl⟩:=List.mem_map.1 hv;rfl):P:=h
theorem axL (l:List ag): ∀v∈aZ l,UR v=false:=λv hv=>by
 exact OU
theorem axM (l:List Int): ∀v∈ints l,UR v=false:=λv hv=>by
 exact OU
theorem afJ {T:TypeId} (h:Rd W A xs) (hx: ∀v∈xs,UR v=false) (hR:W.heap[rb]?=some (.cells #[.pointer p] T (0,0))) (hg:W.grownBy W' (some rb)):Rd W' A xs:=by
 intro j u hu;obtain⟨b,o,hA,hc⟩:=h j u hu;have aO:b≠rb:=λe=>by
  subst e;rw[cell_of_row W b (o+j) _ _ _ hR]at hc;rcases Nat.eq_zero_or_pos (o+j) with h0|h0
  ·rw[h0]at hc;have e:Value.pointer p=u:=by simpa using hc
   have h1:=hx u (List.mem_of_getElem? hu);rw[<-e]at h1;cases h1
  ·rw[Array.getElem?_eq_none (by simp;omega)]at hc;cases hc
 exact⟨b,o,hA,(fB (hg.block b (cU hc) (λe=>aO (bW e)))).trans hc⟩
theorem iT.cell (h:iT w B rb R): ∃p,bj w rb #[.pointer p] 32:=by
 cases R with
 |none=>exact⟨_,h⟩
 |some S=>
  obtain⟨wb,y,h1,h2⟩:=h;exact⟨_,h1⟩
theorem axN (hR:bj W rb #[.pointer p] 32) (aK:rb<B) (hl:Ld rb w) (hB:B<=w.heap.size) (hb:aD w W) (hn:Nw W B nb S y) (hy: ∀b o,y.bl.A=some ⟨b,o,none⟩->w.heap.size<=b) (hr:r=(some S,.ok gT)):
  GS B rb R w r (.returned (.string gT)) (W.setCell ⟨rb,0,none⟩ (.pointer (aw nb))):=by
 subst hr;have hg:=eE W rb 0 (.pointer (aw nb));have aO:nb≠rb:=kP hn.wm.blk hR au;obtain⟨q1,q2,q3,q4,q5,q6,q7,q8,q9⟩:=hn.wm.dt;have og: ∀ {z:Sl} {l:List ag} {n:Nat},eF W nb z (aZ l) n->eF (W.setCell ⟨rb,0,none⟩ (.pointer (aw nb))) nb z (aZ l) n:=λho=>⟨afJ ho.1 (axL _) hR hg,ho.2⟩
 refine⟨rfl,⟨nb,y,bt hR 0 _,hn.wm.lo,dH hg hn.wm.blk aO,⟨og q1,q2.gbT hR au au au hg,q3,og q4,og q5,q6.gbT hR au au hg,og q7,q8.gbT hR au au hg,⟨afJ q9.1 (axM _) hR hg,q9.2⟩⟩⟩,(hl.below hb).gb hg (aM _),(wA hB hb).new (bD hB hb.size) hg (.inr rfl) hR au λk hk _=> .inr ⟨nb,S,y,bt hR 0 _,dH hg hn.wm.blk aO,λ_ o e=>by have:=hy _ _ e;omega⟩⟩
theorem axO (h:Nw W B nb S y) (hg:W.grownBy W' (Value.ownBlock y.dk.v)) {A':aN} {n' c':Nat} {l':List Dk} (ho:dC W' B A' n' c' l'):
  Nw (W'.setCell ⟨nb,1,none⟩ (.slice A' n' c')) B nb {S with ds:=bu l'} {y with dk:=⟨A',n',c'⟩,l:=l'} /\W'.heap[nb]?=some (.cells (ou S y) 84 (0,0)):=by
 obtain⟨q1,q2,q3,q4,q5,q6,q7,q8,q9⟩:=h.wm.dt;have key:W'.heap[nb]?=some (.cells (ou S y) 84 (0,0))/\Ld B W'/\eF W' nb y.nm (aZ S.ns) S.ns.length/\eF W' nb y.rn (aZ S.r.ns) S.r.ns.length/\eF W' nb y.rq (aZ S.r.ps) S.r.ps.length/\PB W' y.ca.A y.ca.n y.cb.A y.cb.n S.ch/\
   eF W' nb y.bl (aZ S.v.bl) S.v.bl.length/\PB W' y.sa.A y.sa.n y.sb.A y.sb.n S.sp/\eF W' nb y.an (ints S.an) S.an.length:=by
  rcases Oj q2.os hg with hb|⟨g,cs,e,hB,hc,hg⟩
  ·exact⟨aJ h.wm.blk hb,h.ld.below hb,q1.below hb,q4.below hb,q5.below hb,q6.below hb,q7.below hb,q8.below hb,q9.below hb⟩
  ·have hA:y.dk.A=some ⟨g,0,none⟩:=by
    exact age
   have hs: ∀j u,W.cell? ⟨g,j,none⟩=some u->ko u=true:=q2.sl g 0 hA;have aO:nb≠g:=kP h.wm.blk hc au;have ot: ∀ {z:Sl} {l:List ag} {n:Nat},eF W nb z (aZ l) n->eF W' nb z (aZ l) n:=λho=>⟨Kn ho.1 (Gh _) hs hg,ho.2⟩
   exact⟨dH hg h.wm.blk aO,h.ld.gb hg hB,ot q1,ot q4,ot q5,q6.gbT hc au au hg,ot q7,q8.gbT hc au au hg,⟨Kn q9.1 (aeS _) hs hg,q9.2⟩⟩
 obtain⟨k,kl,k1,k4,k5,k6,k7,k8,k9⟩:=key;have gg:=eE W' nb 1 (.slice A' n' c');exact⟨⟨⟨h.wm.lo,bt k 1 _,⟨k1.gb gg,ho.gbT k au au au gg,rfl,k4.gb gg,k5.gb gg,k6.gbT k au au gg,k7.gb gg,k8.gbT k au au gg,k9.gb gg⟩⟩,kl.gb gg h.wm.lo⟩,k⟩
theorem axP {bk:Array Oper} {o:Oper} {a:Act} {Q:Exit->Act->World->Prop} (s x:Operand) (ho:o.op= .call {callee:= .builtin .append,args:= #[s,x],argTypes:= #[78,78]}) (hw:Region.wanted o (yielded bk a.tmps)=true) {ai:Nat} {l:List Dk} (w:World) (hs:a.eval s= .slice A n ai) (h:dC w B0 A n ai l) (y:Dk) (hy:y.ok w) (g0:Nat) (hxv:a.eval x= .slice (aw g0) 1 1) (tb:TypeId) (AT:w.heap[g0]?=some (.cells #[.slice y.A y.n y.c,.slice y.B y.m y.d] tb (0,0))) (j7:n<=1000000) (hB:B0<=w.heap.size) (k: ∀g ja w',dC w' B0 (aw g) (n+1) ja (l++ [y])->w.grownBy w' (Value.ownBlock (.slice A n ai))->g<w'.heap.size->K (a.put o.dst (.slice (aw g) (n+1) ja)) w'):
  if Region.wanted o (yielded bk a.tmps)=true then Oper.wp prog o a w K Q else K (a.put o.dst undef) w:=by
 rw[if_pos hw];obtain⟨g,ja,w',hr,h2,h3,h4⟩:=aup o.type h y hy g0 tb AT j7 hB;unfold Oper.wp execOp;simp only[ho,resolve,invoke,builtin,Sem.run_bind,Sem.run_pure,Result.andThen_ok,List.map_toArray,List.map_cons,List.map_nil,hs,hxv,hr];exact k g ja w' h2 h3 h4
theorem Om {c:Nat} {l:bJ} (h:Rd w A l) (hl:0<l.length) {m:Nat} (nK:w.heap.size<=nb) (hm:n=m) (hb:aD w w'):eF w' nb ⟨A,n,c⟩ l m:=
 ⟨h.below hb,hm,λb o e=>by
  subst e;obtain⟨v,t,rfl⟩: ∃v t,l=v::t:=by
   cases l with
   |nil=>simp at hl
   |cons a t=>exact⟨a,t,rfl⟩
  have:=avU h;omega⟩
def yG:ag:=⟨#[47,109,97,115,116,101,114]⟩
theorem axQ (s cr:ag) (ns:List ag) (k n:Int):mc s cr ns k n=
  if kJ s ns k 1≠0 then (none,.er (kJ s ns k 1)) else if (pp n).2≠0 then (none,.er (pp n).2)
  else if (ij (du s ns k 1) (List.replicate ns.length (lZ (gE cr)).1) (-1)).2.2≠0 then (none,.er (ij (du s ns k 1) (List.replicate ns.length (lZ (gE cr)).1) (-1)).2.2)
  else if nh (du s ns k 1).sec (jS 0) (jT (s++yG) 32).1≠0 then (none,.er (nh (du s ns k 1).sec (jS 0) (jT (s++yG) 32).1:Nat))
  else if (cR (pp n).1).2≠0 then (none,.er (cR (pp n).1).2)
  else (some ⟨ns,(ij (du s ns k 1) (List.replicate ns.length (lZ (gE cr)).1) (-1)).1,(du s ns k 1).r,qI (du s ns k 1).sec (jS 0) (jT (s++yG) 32).1,(pp n).1,(cR (pp n).1).1.V,(fN (gD 3) 0 0 0).2.2.2.1,0,1,16,List.replicate ns.length 0,true,(jT (s++yG) 32).1⟩,.ok gT):=by
 have h1:(lZ (gE cr)).2=0:=afG cr;obtain⟨M,h2,_⟩:=afI (s++yG);obtain⟨P3,h3⟩: ∃P3,fN (gD 3) 0 0 0=(jS 0,1,16,P3,0):=⟨_,afH⟩
 have KM:jT (s++⟨#[47,109,97,115,116,101,114]⟩) 32=(M,0):=h2;unfold mc;simp only[h1,h2,KM,h3,ne_eq,not_true_eq_false,if_false]
theorem axR (h:kJ seed ns k e=0):(du seed ns k e).r.ns=ns/\(du seed ns k e).r.ps.length=ns.length:=by
 have hc:mD seed ns k e=true:=by
  exact Vf
 obtain⟨m,_,_,_,_,hg,_,vk⟩:=acr hc;exact⟨vk,by rw[(zW hg.ck).2.2.2.2.1,vk]⟩
theorem axS {c:Nat} {l:List Dk} (h:dC w B A n c l) (kD:B<=w.heap.size) (hg:w.grownBy w' (Value.ownBlock (.slice A n c))):Below B w w':=by
 rcases Oj h.os hg with hb|⟨g,cs,e,hB,hc,hg⟩
 ·exact hb.mono kD
 ·exact iC hg hB (bD hB (Nat.le_of_lt (bf hc)))
theorem axT (cr:ag) (w:World) (hR:cX w):Calls prog 42 #[.string cr] w (kj w ((lZ (gE cr)).1,0)):=by
 have h:=ass cr w hR;have e:lZ (gE cr)=((lZ (gE cr)).1,0):=Prod.ext rfl (afG cr);rw[e]at h;exact h
theorem axU (cr:ag):gl (lZ (gE cr)).1:=GM _ _ _ (Kg 6 au au)
theorem US {P:az} (h:gl P):kt (List.replicate n P):=λQ hQ=>by
 rw[(List.mem_replicate.1 hQ).2];exact h
theorem axV (s:ag) (hs:s.size<=1000000) (w:World) (hT:iy w) (hR:cX w):Calls prog 46 #[.string (s++yG),.int .i64 32] w (Ui w (jT (s++yG) 32)):=
 ad9 (s++yG) 32 w hT hR (by rw[ByteArray.size_append];have:yG.size=7:=rfl;omega)
def GT (ns:List ag) (r:dS) (P:az):aW:=⟨ns,[],r,bo,P,⟨[],bo⟩,bI,0,0,0,List.replicate ns.length 0,false,bo⟩
def KD (x y z:Sl) (a b:Sl) (t:Sl):cQ:=⟨x,⟨none,0,0⟩,y,z,a,b,⟨none,0,0⟩,⟨none,0,0⟩,⟨none,0,0⟩,t,[]⟩
def AN (ns:List ag) (r:dS) (P:az) (ds:List az) (M:ag) (sp:az):aW:=⟨ns,ds,r,bo,P,⟨[],bo⟩,sp,0,0,0,List.replicate ns.length 0,true,M⟩
theorem afK (hB:B<=W.heap.size) (hl:Ld B W) {r:dS} {P:az} {x y z a b t:Sl} (hn:0<ns.length) (vk:r.ns=ns) (Mm:r.ps.length=ns.length) (h1:Rd W x.A (aZ ns)) (h2:x.n=ns.length) (h3:Rd W y.A (aZ r.ns)) (h4:y.n=r.ns.length) (h5:Rd W z.A (aZ r.ps)) (h6:z.n=r.ps.length) (h7:PB W a.A a.n b.A b.n P) (h8:Rd W t.A (ints (List.replicate ns.length 0))) (h9:t.n=ns.length):
  Nw (W.alloc (.cells (ou (GT ns r P) (KD x y z a b t)) 84)) B W.heap.size (GT ns r P) (KD x y z a b t):=by
 have hb:=be W (.cells (ou (GT ns r P) (KD x y z a b t)) 84);have hz: ∀ {n:Nat},n=0->eF (W.alloc (.cells (ou (GT ns r P) (KD x y z a b t)) 84)) W.heap.size ⟨none,0,0⟩ (aZ []) n:=λh=>⟨Rd.nil _ _,h.symm,λb o e=>by cases e⟩
 refine⟨⟨hB,aR W _,⟨Om h1 (by rw[qO];exact hn) (aM _) h2 hb,dC.nil _ _,rfl,Om h3 (by rw[qO,vk];exact hn) (aM _) h4 hb,Om h5 (by rw[qO,Mm];exact hn) (aM _) h6 hb,h7.below hb,hz rfl,adL _,?_⟩⟩,hl.below hb⟩;exact Om h8 (by unfold ints;rw[kQ,sd];exact hn) (aM _) (by rw[h9];exact (sd ..).symm) hb
theorem axW (h:w.heap[rb]?=some o) (aK:rb<B) (hB:B<=w.heap.size) (hb:aD w W):W.heap[rb]?=some o:=(hb.block rb ae).trans h
theorem axX (N:Nat) (w:World) (hR:cX w):Calls prog 41 #[.int .i64 (N:Nat)] w (kj w (pp (N:Int))):=by
 unfold pp;rw[Int.toNat_natCast];cases h:countB N with
 |true=>rw[if_pos rfl];exact auZ N w h hR
 |false=>rw[if_neg au];exact auY N w h hR
theorem axY (n:Nat):madeCells #[Value.int .i64 0] n=(ints (List.replicate n 0)).toArray:=by
 apply Array.ext';rw[toList_madeCells_one];simp[ints]
theorem agG (h:P:=by
 rw[if_pos lq]at HQ;refine Calls.mono (by exact NK _ _ _ _ _ _ fe lq _) ?_;rintro _ w8 ⟨rfl,cG⟩;exact⟨rfl,KC Fd oO fK ((ju HB hS).trans (cG.mono (bD HB.size hS.size))) HQ⟩):P:=h
theorem Zz4 (h:P:=by
 refine kR 11 λK hK=>?_
 ·go_simp;by_cases lq:fe=0;case neg=>
   exact agG
  subst lq;refine Calls.mono (by exact En _ _ _ _ _ _ _) ?_;rintro _ w8 ⟨rfl,cG⟩;go_simp;replace fj:=fj.below cG;replace oF:=PB.below oF cG;replace nJ:=nJ.below cG;refine hK.out _ _ (hS.trans (cG.mono hS.size)) (λhS=>?_);clear hK K;try go_frame
  clear cG;refine kU 15 hS ?_;refine kR 16 λK hK=>?_;go_simp;have vv:=UQ (HV.below hS);have v1:=vv.2.2.2.1.1;have v2:=vv.2.2.2.1.2.1;have v4:=vv.2.2.2.2.1;have v5:=vv.2.2.2.2.2.1;clear vv;have E:=aa (afK (W:=w8) (B:=B) (x:=⟨A6,ns.length,c6⟩) (y:=⟨A1,n1,c1⟩) (z:=⟨A2,n2,c2⟩) (a:=⟨A8,n8,c8⟩) (b:=⟨B8,m8,d8⟩) (t:=⟨some ⟨_,0,none⟩,ns.length,ns.length⟩) (by have:=hS.size;have:=HB.size;omega) (((oO.below (ju HB hS)).up ae (by have:=hS.size;have:=HB.size;omega))) (by have:=Be.1;omega) wT.1 wT.2 fj rfl v1 v2 v4 v5 oF nJ rfl);clear v1 v2 v4 v5;have Ma:=hS;refine hK.out _ _ (hS.alloc hS.size _) (λhS=>?_);clear hK K;try go_frame
  refine kL λK hK=>?_;go_simp;refine hK.out _ _ ?_;clear hK K;go_wp2;go_meet;case rel=>first|exact⟨w8,_,_,_,_,_,_,rfl,by first|rfl|trivial,dM.trans (Ma.mono fS),(aI _ _).alloc (aM _) _,E⟩|exact⟨w8,_,_,_,_,_,_,rfl,dM.trans (Ma.mono fS),(aI _ _).alloc (aM _) _,E⟩):P:=h
theorem ahe (h:P:=by
 refine kR 8 λK hK=>?_
 ·go_simp;refine Calls.mono (by exact Qf.out _ (oO.below (ju HB hS)).lv.arm.rounds) ?_;rintro _ w7 ⟨_,rfl,⟨A8,n8,c8,B8,m8,d8,rfl,oF⟩,cJ⟩;simp only at oF⊢;go_simp;replace fj:=fj.below cJ;replace nJ:=nJ.below cJ;refine hK.out _ _ (hS.trans (cJ.mono hS.size)) (λhS=>?_);clear hK K;try go_frame
  clear cJ;refine kU 9 hS ?_;refine kU 10 hS ?_;exact Zz4):P:=h
theorem axZ (B rb:Nat) (R:Option aW) (A C:aN) (n c m d:Nat) (ws:List ag) (ms:List Int) (w:World) (Ie:iT w B rb R) (aK:rb<B) (hld:Ld rb w) (fK:B<=w.heap.size) (ha:Rd w A (aZ ws)) (hn:n=ws.length) (hm:Rd w C (ints ms)) (mO:m=ms.length) (h1:5<=ws.length) (h2:4<=ms.length) (mM:n<=c) (hl:ws.length<=10000) (hz: ∀x∈ws,x.size<=1000000) (Lp: ∀x∈ms,0<=x/\x<=1000000):
  Calls prog 17 #[.pointer (aw rb),.agg #[.slice A n c,.slice C m d]] w (GS B rb R w (mc (wx ws 0) (wx ws 1) (ws.drop 4) (ix ms 2) (ix ms 3))):=by
 have hb:=be w (.cells #[.slice A n c,.slice C m d] 57);have eS:=ha.below hb;have nQ:(wx ws 0).size<=1000000:=hz _ (by unfold wx;rw[dh,cL ae];exact dY _);have hN0:0<=ix ms 3:=(Lp _ (by unfold ix;rw[dh,cL ae];exact dY _)).1;obtain⟨ab,ao,rfl,zB⟩:=tk eS (k:=0) ae;obtain⟨b',o',e,jJ⟩:=tk eS (k:=1) ae;injection e with e
 injection e with e1 e2
 subst e1 e2;rw[Nat.add_zero]at zB;obtain⟨cb,co,rfl,fi⟩:=tl (hm.below hb) (k:=2) ae;obtain⟨b',o',e,vn⟩:=tl (hm.below hb) (k:=3) ae;injection e with e
 injection e with e1 e2
 subst e1 e2;have hT:=N1 4 eS;have tO:n - 4=(ws.drop 4).length:=by rw[List.length_drop];omega
 have fL:1<=(ws.drop 4).length/\(ws.drop 4).length<=10000:=by rw[List.length_drop];omega
 obtain⟨N,hN⟩: ∃N:Nat,ix ms 3=(N:Int):=⟨(ix ms 3).toNat,ae⟩
 rw[hN]at vn⊢;have l0:=vY w (some ⟨ab,ao,none⟩) (some ⟨cb,co,none⟩) n c m d;have HQ:=aa (axQ (wx ws 0) (wx ws 1) (ws.drop 4) (ix ms 2) (N:Int));generalize mc (wx ws 0) (wx ws 1) (ws.drop 4) (ix ms 2) (N:Int)=X at HQ⊢;generalize wx ws 0=s at zB nQ HQ;generalize wx ws 1=cr at jJ HQ;generalize ix ms 2=K at fi HQ;generalize ws.drop 4=ns at hT tO fL HQ;have Fd:=aa Ie;obtain⟨rp,LC⟩:=Ie.cell;have qj:=aa LC;clear LC;have oO:=aa hld;have HB:=aa hb;have HT:=aa hT;have Wx:=aa tO;have Be:=aa fL;have L:=aa (And.intro l0.1 (And.intro zB (And.intro jJ (And.intro l0.2 (And.intro fi vn)))));have e0:0<n:=ae;have e1:(1:Int)<(n:Int):=ae;have e2:(4:Int)<=(n:Int):=ae;have e3:n<=c:=mM;have e4: ¬c=4:=ae;have e5:(2:Int)<(m:Int):=ae;have e6:(3:Int)<(m:Int):=ae;clear Ie hld hb eS hT tO fL l0 zB jJ fi vn ha hn hm mO h1 h2 mM hl hz Lp hN hN0;have zv:=aa (λA n c W hr hn j7 hT hR=>afE s ns A n c K 1 W hr hn j7 hT hR);have Bl:=aa (λh=>afF (seed:=s) (ns:=ns) (k:=K) (e:=1) h);have wT:=aa (λh=>axR (seed:=s) (ns:=ns) (k:=K) (e:=1) h);have Bt:=aa (λh=>Up (seed:=s) (ns:=ns) (k:=K) (e:=1) h);generalize kJ s ns K 1=de at HQ zv Bl wT Bt;generalize du s ns K 1=D at HQ zv Bl wT Bt;have Qf:=aa (λW hR=>axX N W hR);have P5:=aa (afs (N:Int));generalize pp (N:Int)=r at HQ Qf P5;obtain⟨Pf,fe⟩:=r;simp only at HQ Qf P5;have eG:=aa (λW hR=>axT cr W hR);have QH:=aa (axU cr);generalize (lZ (gE cr)).1=P0 at HQ eG QH;have uL:=aa ((NW D (List.replicate ns.length P0) (-1) (US QH)).1);have Fb:=aa (λh=>Of (D:=D) (d:= -1) (US (n:=ns.length) QH) h);have jv:=aa (λB A n c l v W h1 h2 h3 hv hR=>afD (ds:=List.replicate ns.length P0) B A n c l v D (-1) W h1 h2 (US QH) h3 hv hR);unfold wu at jv;generalize ij D (List.replicate ns.length P0) (-1)=r at HQ uL Fb jv;obtain⟨Rl,Rb,Re⟩:=r;simp only at HQ uL Fb jv;have Yx:=aa (axV s nQ);have fT: ¬9223372036854775807<s.size+7:=ae;obtain⟨M,hM,ah6⟩:=afI (s++yG);rw[hM]at HQ Yx;simp only at HQ;unfold Ui at Yx;have HM:=aa ah6;have HW:=aa (λW hT hs hm=>abz D.sec (jS 0) M W hT hs (by rw[axK];decide) hm);generalize nh D.sec (jS 0) M=we at HQ HW;generalize qI D.sec (jS 0) M=wt at HQ HW;have HO:=aa (λv W h hR=>Uh v Pf W h (by have:=P5.1;unfold maxLen;omega) hR);unfold ad7 at HO;generalize cR Pf=r at HQ HO;obtain⟨⟨rn,rg,ra,⟨vb,vr⟩⟩,oe⟩:=r;simp only at HQ HO;obtain⟨P3,h3⟩: ∃P3,fN (gD 3) 0 0 0=(jS 0,1,16,P3,0):=⟨_,afH⟩
 rw[h3]at HQ;simp only at HQ;have HNx:=aa h3;clear hM ah6 h3 nQ;go_in;go_wp2_with fail;refine jr (S:=λW=>Below ((w.alloc (.cells #[.slice (some ⟨ab,ao,none⟩) n c,.slice (some ⟨cb,co,none⟩) m d] 57)).drew).heap.size ((w.alloc (.cells #[.slice (some ⟨ab,ao,none⟩) n c,.slice (some ⟨cb,co,none⟩) m d] 57)).drew) W) 13 ax (aI _ _) (λhS=>?_);replace HB:=aa (HB.drew);replace HT:=aa (HT.below Y9q);replace L:=aa (AJ L Y9q);generalize (w.alloc (.cells #[.slice (some ⟨ab,ao,none⟩) n c,.slice (some ⟨cb,co,none⟩) m d] 57)).drew=w1 at hS HB HT L⊢;refine kU 0 hS ?_;refine kV 1 rfl hS (by intro _ h9;have k0:=(AJ L.out h9).1;go_simp;try with_reducible rfl) ?_;refine kU 2 hS ?_;refine kV 3 rfl hS (by intro _ h9;have k1:=(AJ L.out h9).2.1;go_simp;try with_reducible rfl) ?_;refine kU 4 hS ?_;refine kV 5 rfl hS (by intro _ h9;have k0:=(AJ L.out h9).1;go_simp;try with_reducible rfl) ?_;refine kU 6 hS ?_;refine kV 7 rfl hS (by intro _ h9;have k2:=(AJ L.out h9).2.2.1;go_simp;try with_reducible rfl) ?_;refine kU 8 hS ?_;refine kV 9 rfl hS (by intro _ h9;have k0:=(AJ L.out h9).1;go_simp;try with_reducible rfl) ?_;refine kU 10 hS ?_;refine kU 11 hS ?_;refine kU 12 hS ?_;refine kL λK hK=>?_;go_simp;refine hK.out _ _ ?_;clear hK K hS;have k3:=L.2.2.2.1;have k4:=L.2.2.2.2.1;have L2:=aa (And.intro k3 L.2.2.2.2.2);clear L;go_upto_region 2 with fail
 try rw[Wx.out]
 go_wp2_with fail;refine (zv _ _ _ _ HT rfl (by have:=Be.2;unfold maxLen;omega) (oO.below HB).lv.turns (oO.below HB).lv.arm.rounds).mono ?_;rintro e w3 ⟨A1,n1,c1,A2,n2,c2,A3,n3,c3,A4,n4,c4,rfl,tw,aL⟩;clear k3 k4;replace HB:=aX HB aL;replace HT:=aa (HT.below aL);replace L2:=aa (mK L2 aL);have HV:=aa tw;clear tw aL;by_cases wJ:de=0;case neg=>
  rw[if_pos wJ]at HQ;go_wp2_with fail;refine (ael _ _ _ _ _ _ _ _ _ _ _ _ _ _ _ de wJ _).mono ?_;rintro e w5 ⟨rfl,aY⟩;exact⟨rfl,KC Fd oO fK (ju HB aY) HQ⟩
 subst wJ;rw[if_neg au]at HQ;replace Bl:=aa (Bl rfl);replace wT:=aa (wT rfl);replace Bt:=aa (Bt rfl);go_wp2_with fail;refine (N0 _ _ _ _ _ _ _ _ _ _ _ _ _ _ _ _).mono ?_;rintro e w5 ⟨rfl,aY⟩;have bE:=bg aY (be w5 (.cells #[.int .i64 D.r.e,.int .i64 D.r.k,.slice A1 n1 c1,.slice A2 n2 c2,.string D.sec,.slice A3 n3 c3,.slice A4 n4 c4] 67));have HG:=aa (aR w5 (.cells #[.int .i64 D.r.e,.int .i64 D.r.k,.slice A1 n1 c1,.slice A2 n2 c2,.string D.sec,.slice A3 n3 c3,.slice A4 n4 c4] 67));have xj:w.heap.size<=w5.heap.size:=by have:=HB.size;have:=aY.size;omega
 replace HB:=aX HB bE;replace HT:=aa (HT.below bE);replace L2:=aa (mK L2 bE);replace HV:=aa (HV.below bE);obtain⟨u0,qz⟩: ∃u,u=w5.alloc (.cells #[.int .i64 D.r.e,.int .i64 D.r.k,.slice A1 n1 c1,.slice A2 n2 c2,.string D.sec,.slice A3 n3 c3,.slice A4 n4 c4] 67):=⟨_,rfl⟩
 have Fx:=aa qz;rw[<-qz]at HB HT L2 HV HG;clear aY bE qz;go_upto_region 3 with fail
 rw[<-Fx.out];generalize w5.heap.size=gd at*;have HCl:=aa (λW h=>axH ab (ao+4) ns.length (c - 4) ns W h rfl (by have:=Be.2;omega));have j6:=λW=>run_make_row' (P:=prog) 55 3 (.int .i64 0) 8 underlying55 rD rfl .i64 .i64 ns.length (by have:=Be.2;omega) (by have:=Be.2;omega) W;rw[axY]at j6;go_cut [9] from 34 to 50 (λs9 wx=> ∃(wz:World) (x y z a b t:Sl),s9= .pointer (some ⟨wz.heap.size,0,none⟩)/\fe=0/\aD u0 wz/\aD wz wx/\Nw wx B wz.heap.size (GT ns D.r Pf) (KD x y z a b t));case first=>
  refine jr (S:=λW=>Below u0.drew.heap.size u0.drew W) 17 ax (aI _ _) (λhS=>?_);have dM:=aa (tq u0);have fS:=dM.size;replace HB:=aa (HB.drew);replace HT:=aa (HT.below Y9q);replace L2:=aa (mK L2 Y9q);replace HV:=aa (HV.below Y9q);replace HG:=aa (aJ HG Y9q);generalize u0.drew=w0 at hS dM fS HB HT L2 HV HG⊢;refine kU 0 hS ?_;refine kU 2 hS ?_;refine kV 3 rfl hS (by intro _ h9;have g9:=aJ HG.out h9;have q0:=aj g9 0 (.int .i64 D.r.e) rfl;have q1:=aj g9 1 (.int .i64 D.r.k) rfl;have q2:=aj g9 2 (.slice A1 n1 c1) rfl;have q3:=aj g9 3 (.slice A2 n2 c2) rfl;clear g9;go_simp;try with_reducible rfl) ?_;refine kU 4 hS ?_;refine kV 5 rfl hS (by intro _ h9;have k3:=(mK L2.out h9).1;go_simp;try with_reducible rfl) ?_;refine kU 6 hS ?_;refine kV 7 rfl hS (by intro _ h9;have k4:=(mK L2.out h9).2;go_simp;try with_reducible rfl) ?_;refine kU 12 hS ?_;refine kU 13 hS ?_;refine kR2 1 14 (λK hK=>?_) (λK hK=>?_)
  ·go_simp;refine Calls.mono (by exact HCl.out _ (HT.below hS)) ?_;rintro _ w6 ⟨A6,c6,rfl,fj,-,bO⟩;go_simp;refine hK.out _ _ (hS.trans (bO.mono hS.size)) (λhS=>?_);clear hK K;try go_frame
   clear bO;refine kR2 8 14 (λK hK=>?_) (λK hK=>?_)
   ·go_simp;refine Calls.mono (by exact Qf.out _ (oO.below (ju HB hS)).lv.arm.rounds) ?_;rintro _ w7 ⟨_,rfl,⟨A8,n8,c8,B8,m8,d8,rfl,oF⟩,cJ⟩;simp only at oF⊢;go_simp;replace fj:=fj.below cJ;refine hK.out _ _ (hS.trans (cJ.mono hS.size)) (λhS=>?_);clear hK K;try go_frame
    clear cJ;refine kU 9 hS ?_;refine kU 10 hS ?_;refine kR2 11 14 (λK hK=>?_) (λK hK=>?_)
    ·go_simp;by_cases lq:fe=0;case neg=>
      exact agG
     subst lq;refine Calls.mono (by exact En _ _ _ _ _ _ _) ?_;rintro _ w8 ⟨rfl,cG⟩;go_simp;replace fj:=fj.below cG;replace oF:=PB.below oF cG;refine hK.out _ _ (hS.trans (cG.mono hS.size)) (λhS=>?_);clear hK K;try go_frame
     clear cG;refine kR 14 λK hK=>?_
     ·go_simp;have nJ:=qC w8 3 (ints (List.replicate ns.length 0)).toArray;simp only[List.toList_toArray]at nJ;replace fj:=fj.below (be w8 (.cells (ints (List.replicate ns.length 0)).toArray 3));replace oF:=PB.below oF (be w8 (.cells (ints (List.replicate ns.length 0)).toArray 3));have bn:=hS.alloc hS.size (.cells (ints (List.replicate ns.length 0)).toArray 3);refine hK.out _ _ bn (λhS=>?_);clear hK K;try go_frame
      skip;generalize w8.alloc (.cells (ints (List.replicate ns.length 0)).toArray 3)=x9 at hS bn nJ fj oF⊢;clear bn;refine kU 15 hS ?_;refine kR 16 λK hK=>?_;go_simp;have vv:=UQ (HV.below hS);have v1:=vv.2.2.2.1.1;have v2:=vv.2.2.2.1.2.1;have v4:=vv.2.2.2.2.1;have v5:=vv.2.2.2.2.2.1;clear vv;have E:=aa (afK (W:=x9) (B:=B) (x:=⟨A6,ns.length,c6⟩) (y:=⟨A1,n1,c1⟩) (z:=⟨A2,n2,c2⟩) (a:=⟨A8,n8,c8⟩) (b:=⟨B8,m8,d8⟩) (t:=⟨some ⟨_,0,none⟩,ns.length,ns.length⟩) (by have:=hS.size;have:=HB.size;omega) (((oO.below (ju HB hS)).up ae (by have:=hS.size;have:=HB.size;omega))) (by have:=Be.1;omega) wT.1 wT.2 fj rfl v1 v2 v4 v5 oF nJ rfl);clear v1 v2 v4 v5;have Ma:=hS;refine hK.out _ _ (hS.alloc hS.size _) (λhS=>?_);clear hK K;try go_frame
      refine kL λK hK=>?_;go_simp;refine hK.out _ _ ?_;clear hK K;go_wp2;go_meet;case rel=>first|exact⟨x9,_,_,_,_,_,_,rfl,by first|rfl|trivial,dM.trans (Ma.mono fS),(aI _ _).alloc (aM _) _,E⟩|exact⟨x9,_,_,_,_,_,_,rfl,dM.trans (Ma.mono fS),(aI _ _).alloc (aM _) _,E⟩
    ·go_simp;have nJ:=qC w7 3 (ints (List.replicate ns.length 0)).toArray;simp only[List.toList_toArray]at nJ;replace fj:=fj.below (be w7 (.cells (ints (List.replicate ns.length 0)).toArray 3));replace oF:=PB.below oF (be w7 (.cells (ints (List.replicate ns.length 0)).toArray 3));have bn:=hS.alloc hS.size (.cells (ints (List.replicate ns.length 0)).toArray 3);refine hK.out _ _ bn (λhS=>?_);clear hK K;try go_frame
     skip;generalize w7.alloc (.cells (ints (List.replicate ns.length 0)).toArray 3)=x9 at hS bn nJ fj oF⊢;clear bn;exact Zz4
   ·go_simp;have nJ:=qC w6 3 (ints (List.replicate ns.length 0)).toArray;simp only[List.toList_toArray]at nJ;replace fj:=fj.below (be w6 (.cells (ints (List.replicate ns.length 0)).toArray 3));have bn:=hS.alloc hS.size (.cells (ints (List.replicate ns.length 0)).toArray 3);refine hK.out _ _ bn (λhS=>?_);clear hK K;try go_frame
    skip;generalize w6.alloc (.cells (ints (List.replicate ns.length 0)).toArray 3)=x9 at hS bn nJ fj⊢;clear bn;exact ahe
  ·go_simp;have nJ:=qC w0 3 (ints (List.replicate ns.length 0)).toArray;simp only[List.toList_toArray]at nJ;have bn:=hS.alloc hS.size (.cells (ints (List.replicate ns.length 0)).toArray 3);refine hK.out _ _ bn (λhS=>?_);clear hK K;try go_frame
   skip;generalize w0.alloc (.cells (ints (List.replicate ns.length 0)).toArray 3)=x9 at hS bn nJ⊢;clear bn;refine kR 1 λK hK=>?_
   ·go_simp;refine Calls.mono (by exact HCl.out _ (HT.below hS)) ?_;rintro _ w6 ⟨A6,c6,rfl,fj,-,bO⟩;go_simp;replace nJ:=nJ.below bO;refine hK.out _ _ (hS.trans (bO.mono hS.size)) (λhS=>?_);clear hK K;try go_frame
    clear bO;exact ahe
 case rest=>
  obtain⟨wz,yx,yy,yz,ya,yb,yt,rfl,lq,vm,io,zu⟩:=hcut;subst lq;rw[if_neg au]at HQ;replace HB:=aX HB vm;replace HV:=aa (HV.below vm);have O3:=bf (aJ HG vm);replace HG:=aa (aJ HG vm);have HN:=aa zu;have HBz:=aa io;have hwz:w.heap.size<=wz.heap.size:=HB.size;have LJ:gd≠wz.heap.size:=ae;clear vm io zu j6;go_wp2_with fail;go_loopg [53] ns.length (λgh i wr=> ∃(k:Nat) (y:cQ),k+gh=ns.length/\i= .int .i64 k/\aD wz wr/\Nw wr B wz.heap.size {GT ns D.r Pf with ds:=List.replicate k P0} y/\dC wr wz.heap.size y.dk.A y.dk.n y.dk.c y.l);case atStart=>exact⟨0,_,Nat.zero_add _,rfl,HBz,HN,dC.nil _ _⟩
  case round=>
   obtain⟨k,y,hk,rfl,vm,zu,ho⟩:=hrel;have HK:=aa hk;have HZ:=aa vm;have cO:=aa zu;have oG:=aa ho;have CE:k<=ns.length:=ae;have hyn:y.dk.n=k:=by
    have h1:=ho.hn;have h2:=zu.wm.dt.pl;have h3:(bu y.l).length=k:=(by rw[h2];exact sd ..);rw[rW]at h3;omega
   have aFg:k<=10000:=(by have:=Be.2;omega);have HY:=aa hyn;clear hk vm zu ho hyn;cases gk with
   |succ g2=>
    have e9:(k:Int)<(ns.length:Int):=(by have:=HK.out;omega);go_wp2_with fail;refine jr (S:=λW=>W.cell? ⟨wz.heap.size,1,none⟩=some (.slice y.dk.A y.dk.n y.dk.c)) 14 ax ((cO.below Y9q).c 1 _ rfl) (λhS=>?_);replace cO:=aa (cO.below Y9q);replace oG:=aa (oG.below Y9q);replace HZ:=aa (HZ.drew);generalize wr.drew=w6 at hS cO oG HZ⊢;refine kU 0 hS ?_;refine kU 1 hS ?_;refine kU 2 hS ?_;refine kU 3 hS ?_;refine kV 4 rfl hS (by intro _ h9;have c1:=h9;go_simp;try with_reducible rfl) ?_;refine kU 5 hS ?_;refine kR 6 λK hK=>?_;go_simp;refine Calls.mono (by exact eG.out _ (oO.below (HB.trans (HZ.mono HB.size))).lv.arm.rounds) ?_;rintro _ w7 ⟨_,rfl,⟨A7,n7,c7,B7,m7,d7,rfl,Dq⟩,cJ⟩;simp only at Dq⊢;go_simp;replace cO:=aa (cO.below cJ);replace oG:=aa (oG.below cJ);replace HZ:=aX HZ cJ;refine hK.out _ _ ((fB (cJ.block _ (cU hS))).trans hS) (λhS=>?_);clear hK K;try go_frame
    clear cJ;refine kU 7 hS ?_;refine kU 8 hS ?_;refine kR 9 λK hK=>?_;go_simp;refine Calls.mono (by exact En _ _ _ _ _ _ _) ?_;rintro _ w8 ⟨rfl,cG⟩;go_simp;replace cO:=aa (cO.below cG);replace oG:=aa (oG.below cG);replace HZ:=aX HZ cG;replace Dq:=PB.below Dq cG;refine hK.out _ _ ((fB (cG.block _ (cU hS))).trans hS) (λhS=>?_);clear hK K;try go_frame
    clear cG;refine kR 10 λK hK=>?_;go_simp;have hx:=aR w8 (.cells #[.slice A7 n7 c7,.slice B7 m7 d7] 74);have cT:=be w8 (.cells #[.slice A7 n7 c7,.slice B7 m7 d7] 74);replace cO:=aa (cO.below cT);replace oG:=aa (oG.below cT);replace HZ:=aX HZ cT;replace Dq:=PB.below Dq cT;refine hK.out _ _ ((fB (cT.block _ (cU hS))).trans hS) (λhS=>?_);clear hK K;try go_frame
    clear cT;generalize w8.alloc (.cells #[.slice A7 n7 c7,.slice B7 m7 d7] 74)=x9 at hS hx Dq cO oG HZ⊢;refine kR 11 λK hK=>?_;refine axP (.tmp 59) (.tmp 65) rfl ax x9 ah oG ⟨A7,n7,c7,B7,m7,d7,P0⟩ Dq w8.heap.size ah 74 hx (by rw[HY.out];omega) HZ.size ?_;intro g ja w9 Id ro Xu;have E:=aa (axO cO ro (Id.mono (bD cO.wm.lo (aM _))));have lf:=aa Id;have CV:=aa (HZ.trans (axS oG HZ.size ro));refine hK.out _ _ (aj E.2 1 _ rfl) (λhS=>?_);clear hK K;try go_frame
    clear hx Dq Id Xu ro;refine kR 12 λK hK=>?_;go_simp;refine hK.out _ _ hS (λhS=>?_);clear hK K;try go_frame
    refine kU 13 hS ?_;refine kL λK hK=>?_;have f1:=aU E.2 1;go_simp;have tu:=CV.trans (iC (eE w9 wz.heap.size 1 (.slice (aw g) (y.dk.n+1) ja)) (aM _) CV.size);have HF9:=aa tu;have Qo:=aa (lf.gbT E.2 au au au (eE w9 wz.heap.size 1 (.slice (aw g) (y.dk.n+1) ja)));have HEf:=aa E.1;have HPf:=aa cO.wm.dt.pl;refine hK.out _ _ ?_;clear hK K hS f1 tu;go_wp2_with fail;go_roundg g2;case measure=>omega
    case rel=>
     refine⟨k+1, {y with dk:=⟨some ⟨g,0,none⟩,y.dk.n+1,ja⟩,l:=y.l++ [⟨A7,n7,c7,B7,m7,d7,P0⟩]},by have:=HK.out;omega,by go_num,HF9,?_,Qo⟩;have h9:=HEf.out;have e9:bu (y.l++ [⟨A7,n7,c7,B7,m7,d7,P0⟩])=List.replicate (k+1) P0:=(by rw[bu,List.map_append,<-bu,HPf.out,List.replicate_succ'];rfl);rw[e9]at h9;exact h9
   |zero=>
    obtain rfl:k=ns.length:=HK.out;have e9: ¬(ns.length:Int)<(ns.length:Int):=ae;have iY:=aa (show bu y.l=List.replicate ns.length P0 from cO.wm.dt.pl);have HYn:=aa (show y.dk.n<=100000 by rw[HY.out];omega);have iv:=aa (aJ HG HZ);have QT:=aa (HV.below HZ);go_wp2_with fail;refine Km (S:=λW=>Below wr.drew.heap.size wr.drew W) ax (aI _ _) (λhS=>?_);replace HZ:=aa (HZ.drew);replace cO:=aa (cO.below Y9q);replace iv:=aa (aJ iv Y9q);replace QT:=aa (QT.below Y9q);replace oG:=aa (oG.below Y9q);generalize wr.drew=w5 at hS HZ cO iv QT oG⊢;refine hU 0 hS ?_;refine hU 1 hS ?_;refine hU 2 hS ?_;refine hV 3 rfl hS (by intro _ h9;have c1:=(cO.out.below h9).c 1 (.slice y.dk.A y.dk.n y.dk.c) rfl;go_simp;try with_reducible rfl) ?_;refine hV 4 rfl hS (by intro _ h9;have g9:=aJ iv.out h9;have q0:=aj g9 0 (.int .i64 D.r.e) rfl;have q1:=aj g9 1 (.int .i64 D.r.k) rfl;have q2:=aj g9 2 (.slice A1 n1 c1) rfl;have q3:=aj g9 3 (.slice A2 n2 c2) rfl;have q4:=aj g9 4 (.string D.sec) rfl;have q5:=aj g9 5 (.slice A3 n3 c3) rfl;have q6:=aj g9 6 (.slice A4 n4 c4) rfl;clear g9;go_simp;try with_reducible rfl) ?_;refine yB (rs:= [5]) ax ak (jE.cons rfl (λK hK=>?_) jE.nil);have Ms:=hS.size;go_simp;refine Calls.mono (by exact jv.out _ _ _ _ _ _ _ (oG.below hS) iY HYn (QT.below hS).dv (oO.below (HB.trans ((ju HZ hS).mono HB.size))).lv.arm.rounds) ?_;rintro _ w6 ⟨A6,n6,c6,l6,rfl,I6,hpl6,-,bO,AY⟩;clear I6;go_simp;refine hK.out _ _ (hS.trans (bO.mono hS.size)) (λhS=>?_);clear hK K;try go_frame
    have yR:=aa (AY.mono (bD HZ.size Ms));have ZJ:=aa hpl6;clear bO AY hpl6 Ms;refine hU 6 hS ?_;refine hU 7 hS ?_;refine hU 8 hS ?_;refine hU 9 hS ?_;refine hU 10 hS ?_;refine hU 11 hS ?_;refine yB (rs:= [12]) ax ak (jE.cons rfl (λK hK=>?_) jE.nil);go_simp;refine hK.out _ _ hS (λhS=>?_);clear hK K;try go_frame
    refine wpAnyH_done ax ?_ _;go_wp2_with fail;replace cO:=aa (cO.below hS);replace iv:=aa (aJ iv hS);replace HZ:=aX HZ hS;clear hS;by_cases yY:Re=0;case neg=>
     rw[if_pos yY]at HQ;refine (AH Re yY _).mono ?_;rintro e w7 ⟨rfl,rfl⟩;exact⟨rfl,KC Fd oO fK (HB.trans (HZ.mono HB.size)) HQ⟩
    subst yY;rw[if_neg au]at HQ;refine (rV _).mono ?_;rintro e w7 ⟨rfl,rfl⟩;have z1:=cO.c 1 (.slice y.dk.A y.dk.n y.dk.c) rfl;have f1:=cO.f 1;go_upto_region 11 with fail
    clear z1 f1;have jH:=aa (avN (c:=c6) cO (yR.mono cO.wm.lo));have g9:=eE w7 wz.heap.size 1 (.slice A6 n6 c6);replace HZ:=aa (HZ.trans (iC g9 (aM _) HZ.size));replace iv:=aa (dH g9 iv LJ);clear g9 cO;generalize w7.setCell ⟨wz.heap.size,1,none⟩ (.slice A6 n6 c6)=u1 at*;go_wp2_with fail;refine (Yx _ (oO.below (HB.trans (HZ.mono HB.size))).lv.turns (oO.below (HB.trans (HZ.mono HB.size))).lv.arm.rounds).mono ?_;rintro e w8 ⟨he,cG⟩;rw[if_pos trivial]at he;subst he;have cO:=aa (jH.below cG);replace iv:=aa (aJ iv cG);replace HZ:=aX HZ cG;clear cG jH;go_wp2_with fail;refine (TZ wz.heap.size M _ _ _ (cO.c 17 _ rfl) (cO.c 18 _ rfl) (cO.f 17) (cO.f 18)).mono ?_;rintro e w9 ⟨rfl,rfl⟩;have jH:=aa (avM cO M true);have g9:=gU w8 wz.heap.size 18 17 (.string M) (.bool true);replace HZ:=aa (HZ.trans (iC g9 (aM _) HZ.size));replace iv:=aa (dH g9 iv LJ);clear g9 cO;generalize (w8.setCell ⟨wz.heap.size,18,none⟩ (.string M)).setCell ⟨wz.heap.size,17,none⟩ (.bool true)=u2 at*;have HN3:=aa (show Calls prog 47 #[.int .i64 3] u2 (kj u2 (gD 3,0)) from Ta 3 u2 au au);go_wp2_with fail;refine (HN3).mono ?_;rintro e w9 ⟨_,rfl,⟨A9,n9,c9,B9,m9,d9,rfl,hp9⟩,cT⟩;simp only at hp9⊢;have cO:=aa (jH.below cT);replace iv:=aa (aJ iv cT);replace HZ:=aX HZ cT;have HP:=aa hp9;clear cT jH hp9;go_wp2_with fail;refine (En _ _ _ _ _ _ _).mono ?_;rintro e Df ⟨rfl,cT⟩;replace cO:=aa (cO.below cT);replace iv:=aa (aJ iv cT);replace HZ:=aX HZ cT;replace HP:=aa (HP.below cT);clear cT;have z1:=cO.c 11 (.slice y.sa.A y.sa.n y.sa.c) rfl;have z2:=cO.c 12 (.slice y.sb.A y.sb.n y.sb.c) rfl;have f1:=cO.f 11;have f2:=cO.f 12;go_upto_region 13 with fail
    clear z1 z2 f1 f2;have jH:=aa (aer (c:=c9) (d:=d9) cO HP);have g9:=gU Df wz.heap.size 11 12 (.slice A9 n9 c9) (.slice B9 m9 d9);replace HZ:=aa (HZ.trans (iC g9 (aM _) HZ.size));replace HP:=aa (HP.gbT cO.wm.blk au au g9);replace iv:=aa (dH g9 iv LJ);clear g9 cO;generalize (Df.setCell ⟨wz.heap.size,11,none⟩ (.slice A9 n9 c9)).setCell ⟨wz.heap.size,12,none⟩ (.slice B9 m9 d9)=u3 at*;have z1:=jH.c 11 (.slice A9 n9 c9) rfl;have z2:=jH.c 12 (.slice B9 m9 d9) rfl;go_wp2_with fail;refine (axI A9 B9 n9 c9 m9 d9 (gD 3) _ HP axJ).mono ?_;rintro e w11 ⟨rfl,cT⟩;clear z1 z2;have cO:=aa (jH.below cT);replace iv:=aa (aJ iv cT);replace HZ:=aX HZ cT;clear cT jH;go_wp2_with fail;refine (avy _ _ _ _).mono ?_;rintro e O5 ⟨rfl,cT⟩;replace cO:=aa (cO.below cT);replace iv:=aa (aJ iv cT);replace HZ:=aX HZ cT;clear cT;have z1:=cO.c 13 (.int .i64 0) rfl;have z2:=cO.c 14 (.int .i64 0) rfl;have z3:=cO.c 15 (.int .i64 0) rfl;have f1:=cO.f 13;have f2:=cO.f 14;have f3:=cO.f 15;go_upto_region 14 with fail
    clear z1 z2 z3 f1 f2 f3;have jH:=aa (aeq cO 0 0 0);have g9:=Kj O5 wz.heap.size 13 14 15 (.int .i64 0) (.int .i64 0) (.int .i64 0);replace HZ:=aa (HZ.trans (iC g9 (aM _) HZ.size));replace iv:=aa (dH g9 iv LJ);clear g9 cO;generalize ((O5.setCell ⟨wz.heap.size,13,none⟩ (.int .i64 0)).setCell ⟨wz.heap.size,14,none⟩ (.int .i64 0)).setCell ⟨wz.heap.size,15,none⟩ (.int .i64 0)=u4 at*;have wC:=aa (show Rl.length=ns.length by have h:=Fb.out (by first|rfl|trivial);first|exact h|(rw[sd]at h;exact h));have rB:=aa (show Gd (AN ns D.r Pf (bu l6) M (gD 3)) from⟨by rw[ZJ.out];exact uL.out,by rw[ZJ.out];exact wC.out,by have:=Be.2;exact this,Bt.1,Bt.2.1,bD (Nat.le_of_eq HM) au,P5,Nat.zero_le _,Kg 3 au au,rfl,bD (Nat.le_of_eq (sd ..)) (by have:=Be.2;omega),Bt.2.2.2.1,Bt.2.2.2.2.1,Bt.2.2.2.2.2⟩);have CP:=aa (λW h=>aet B wz.heap.size (AN ns D.r Pf (bu l6) M (gD 3)) {y with dk:=⟨A6,n6,c6⟩,l:=l6,sa:=⟨A9,n9,c9⟩,sb:=⟨B9,m9,d9⟩} W h rB);have HnQ:=aa (show dX (AN ns D.r Pf (bu l6) M (gD 3))=({AN ns D.r Pf (bu l6) M P3 with nx:=1,lm:=16},jS 0,0) by
     unfold dX;rw[show fN (AN ns D.r Pf (bu l6) M (gD 3)).sp (AN ns D.r Pf (bu l6) M (gD 3)).pt (AN ns D.r Pf (bu l6) M (gD 3)).nx (AN ns D.r Pf (bu l6) M (gD 3)).lm=(jS 0,1,16,P3,0) from HNx.out,if_neg ak];rfl)
    rw[HnQ.out]at CP;unfold N3 at CP;have cO:=aa (show Nw u4 B wz.heap.size (AN ns D.r Pf (bu l6) M (gD 3)) {y with dk:=⟨A6,n6,c6⟩,l:=l6,sa:=⟨A9,n9,c9⟩,sb:=⟨B9,m9,d9⟩} from jH.out);clear jH;go_wp2_with fail;refine jr (S:=λW=>W.cell? ⟨wz.heap.size,18,none⟩=some (.string M)/\W.cell? ⟨gd,4,none⟩=some (.string D.sec)) 15 ax ⟨(cO.below Y9q).c 18 _ rfl,aj (aJ iv Y9q) 4 _ rfl⟩ (λhS=>?_);replace cO:=aa (cO.below Y9q);replace iv:=aa (aJ iv Y9q);replace HZ:=aa (HZ.drew);generalize u4.drew=O5 at hS cO iv HZ⊢;refine kU 0 hS ?_;refine kU 1 hS ?_;refine kV 2 rfl hS (by intro _ h9;have c4:=h9.2;go_simp;try with_reducible rfl) ?_;refine kU 3 hS ?_;refine kU 5 hS ?_;refine kU 6 hS ?_;refine kU 7 hS ?_;refine kV 8 rfl hS (by intro _ h9;have c5:=h9.1;go_simp;try with_reducible rfl) ?_;refine kR 4 λK hK=>?_;go_simp;refine Calls.mono (by exact CP.out _ cO) ?_;rintro _ w13 ⟨he,⟨y13,hn13,hy13⟩,hg13⟩;simp only[if_true]at he;subst he;clear hy13;try simp only at hn13
    go_simp;have jH:=aa hn13;replace HZ:=aa (HZ.trans (iC hg13 (aM _) HZ.size));replace iv:=aa (dH hg13 iv LJ);refine hK.out _ _ ⟨jH.c 18 _ rfl,aj iv 4 _ rfl⟩ (λhS=>?_);clear hK K;try go_frame
    clear hn13 hg13 cO;refine kR 9 λK hK=>?_;go_simp;refine Calls.mono (by exact HW.out _ (oO.below (HB.trans (HZ.mono HB.size))).lv.turns (by rw[Bl.1];decide) (by rw[HM.out];decide)) ?_;rintro _ w14 ⟨rfl,cT⟩;go_simp;have cO:=aa (jH.below cT);replace HZ:=aX HZ cT;refine hK.out _ _ (mK hS cT) (λhS=>?_);clear hK K;try go_frame
    clear cT jH;refine kU 10 hS ?_;refine kU 11 hS ?_;refine kR 12 λK hK=>?_;go_simp;by_cases Dc:we=0;case neg=>
     rw[if_pos Dc]at HQ;refine Calls.mono (by exact Ed _ (we:Int) ae _) ?_;rintro _ w15 ⟨rfl,rfl⟩;exact⟨rfl,KC Fd oO fK (HB.trans (HZ.mono HB.size)) HQ⟩
    subst Dc;rw[if_neg au]at HQ;refine Calls.mono (by exact GG _ _) ?_;rintro _ w15 ⟨rfl,rfl⟩;go_simp;refine hK.out _ _ hS (λhS=>?_);clear hK K;try go_frame
    refine kR 13 λK hK=>?_;go_simp;refine hK.out _ _ hS (λhS=>?_);clear hK K;try go_frame
    refine kU 14 hS ?_;refine kL λK hK=>?_;have z6:=cO.c 6 (.string bo) rfl;have f6:=cO.f 6;go_simp;refine hK.out _ _ ?_;clear hK K hS z6 f6;have jH:=aa (avO cO wt);have g9:=eE w15 wz.heap.size 6 (.string wt);replace HZ:=aa (HZ.trans (iC g9 (aM _) HZ.size));clear g9 cO;generalize w15.setCell ⟨wz.heap.size,6,none⟩ (.string wt)=u5 at*;have z7:=jH.c 7 (.slice y13.ca.A y13.ca.n y13.ca.c) rfl;have z8:=jH.c 8 (.slice y13.cb.A y13.cb.n y13.cb.c) rfl;go_wp2_with fail;refine (HO _ _ ⟨_,_,_,_,_,_,rfl,jH.wm.dt.ch⟩ (oO.below (HB.trans (HZ.mono HB.size))).lv.arm.rounds).mono ?_;rintro e w16 ⟨A16,uG,rfl,⟨hr16,hf16⟩,hb16⟩;clear z7 z8;simp only at hr16 hf16⊢;have Y':=jH.wlt;have cO:=aa (jH.below hb16);have Xt:=aa (show∀b o,A16=some ⟨b,o,none⟩->w.heap.size<=b from λb o e=>by have h1:=hf16 b o e;have h2:=HZ.size;have h3:=HB.size;omega);have HVo:=aa (⟨hr16,rfl,λb o e=>by have:=hf16 b o e;omega⟩:eF w16 wz.heap.size ⟨A16,vb.length,uG⟩ (aZ vb) vb.length);replace HZ:=aX HZ hb16;clear hr16 hf16 hb16 jH Y';have z9:=cO.c 9 (.slice y13.bl.A y13.bl.n y13.bl.c) rfl;have Lz:=cO.c 10 (.string bo) rfl;have f9:=cO.f 9;have f10:=cO.f 10;go_upto_region 16 with fail
    clear z9 Lz f9 f10;have jH:=aa (avP (c:=uG) (V:=⟨vb,vr⟩) cO HVo);have g9:=gU w16 wz.heap.size 9 10 (.slice A16 vb.length uG) (.string vr);replace HZ:=aa (HZ.trans (iC g9 (aM _) HZ.size));clear g9;generalize (w16.setCell ⟨wz.heap.size,9,none⟩ (.slice A16 vb.length uG)).setCell ⟨wz.heap.size,10,none⟩ (.string vr)=u6 at*;by_cases Zf:oe=0;case neg=>
     rw[if_pos Zf]at HQ;go_wp2_with fail;refine (AH oe Zf _).mono ?_;rintro e ir ⟨rfl,rfl⟩;exact⟨rfl,KC Fd oO fK (HB.trans (HZ.mono HB.size)) HQ⟩
    subst Zf;rw[if_neg au]at HQ;go_wp2_with fail;refine (rV _).mono ?_;rintro e ir ⟨rfl,rfl⟩;have qh:=aX HB HZ;have Pw:=axW qj aK fK qh.out;have lg:=aa Pw;have z0:=aj Pw 0 _ rfl;have f0:=aU Pw 0;clear Pw;go_wp2;go_ret;exact axN lg aK oO fK qh jH Xt (by rw[HQ.out,<-ZJ.out];rfl)
theorem UU {a b:Value} {t:TypeId} (h:w.heap[g]?=some (.cells #[a,b] t (0,0))):(loadVar 57 ⟨g,0,none⟩).run prog w= .ok (.agg #[a,b]) w:=
 run_loadVar_mid (P:=prog) w g 0 57 [a,b] _ (λj v hj=>by
  cases j with
  |zero=>simp at hj;subst hj;exact (aV h).1
  |succ j=>cases j with
   |zero=>simp at hj;subst hj;exact (aV h).2.1
   |succ j=>simp at hj) underlying57 rfl ax
def On (A:aN) (n c:Nat) (r:Option (List Int)) (w:World) (e:Ending) (w':World):Prop:=
 (match r with
  |none=>e= .returned (.tuple #[.agg #[ay,ay],.bool false])
  |some ms=> ∃g,w.heap.size<=g/\e= .returned (.tuple #[.agg #[.slice A n c,.slice (aw g) ms.length ms.length],.bool true])/\w'.heap[g]?=some (.cells (ints ms).toArray 3 (0,0)))/\aD w w'
theorem ahC (h:P:=by
 cases hq:jR f l with
 |none=>rw[hq]at h;cases h
 |some m=>
  rw[hq]at h;have h:=bW h;rw[<-h,List.length_cons,List.length_cons,afN f l m hq]):P:=h
theorem afN: ∀(f:aF) (ws:List ag) (ms:List Int),jR f ws=some ms->ms.length=f.length
 | [],_,ms,h=>by
  rw[jR]at h;injection h with h
  subst h;rfl
 |_::_,[],ms,h=>by
  rw[jR]at h;cases h
 |c::f,x::l,ms,h=>by
  rw[jR]at h;split at h
  ·split at h
   ·cases h
   ·exact ahC
  ·exact ahC
theorem ax5 (dn:List Int) (r:Nat):dn++List.replicate (r+1) 0=(dn++ [0])++List.replicate r 0:=by rw[List.replicate_succ];simp
theorem ax6 (dn:List Int) (r:Nat) (v:Int):(ints (dn++List.replicate (r+1) 0)).toArray.setIfInBounds dn.length (.int .i64 v)=(ints ((dn++ [v])++List.replicate r 0)).toArray:=by
 rw[List.setIfInBounds_toArray,List.replicate_succ];congr 1;unfold ints;simp
theorem aha (h:P:=by
 clear Bh h1;go_in;go_wp2_with fail;refine (HC).mono ?_;rintro e w2 ⟨rfl,rfl⟩;go_wp2_with fail;refine bodyPost_ret (dJ rfl _ _ (w.heap.size+1) ah _ (UU KX)) rfl ?_;rw[HX.out];exact⟨rfl,KB⟩):P:=h
theorem ax7 (form fx:ag) (F:Value) (more:Bool) (A:aN) (n c:Nat) (ws:List ag) (w:World) (XR:(⟨(Lib.trimSuffix form.data.toList [43]).toArray⟩:ag)=fx) (XZ:Lib.hasSuffix form.data.toList [43]=more) (hf9:form.size<=100) (hq9:fx.size<=100) (hr:Rd w A (aZ ws)) (hn:n=ws.length) (hl:ws.length<=10000) (hz: ∀x∈ws,x.size<=1000000):
  Calls prog 34 #[.agg #[.string form,F],.slice A n c] w (On A n c (oo fx.data.toList more ws) w):=by
 have hC:=Any.strings_CutSuffix at0 form ⟨#[43]⟩ ((w.alloc (.cells #[.string form,F] 51)).alloc (.cells #[ay,ay] 57)) ae;rw[show (⟨#[43]⟩:ag).data.toList= [43] from rfl,XR,XZ]at hC;have HC:=aa hC;obtain⟨kp,kx,kb,mo⟩:=pq w (.cells #[.string form,F] 51) (.cells #[ay,ay] 57);have KX:=aa kx;have KB:=aa kb;have p0:=aj kp 0 _ rfl;have hL:fx.data.toList.length=fx.size:=bP fx;obtain⟨w1,cS⟩: ∃w1,w1=(w.alloc (.cells #[.string form,F] 51)).alloc (.cells #[ay,ay] 57):=⟨_,rfl⟩
 have HQ:=aa (show oo fx.data.toList more ws=if ws.length<fx.size\/more≠decide (fx.size<ws.length) then none else jR fx.data.toList ws by unfold oo;rw[hL]);generalize oo fx.data.toList more ws=X at HQ⊢;subst hn;by_cases Bh:ws.length<fx.size\/more≠decide (fx.size<ws.length)
 ·rw[if_pos Bh]at HQ;have HX:=aa HQ.out;have x0:=aj KX 0 _ rfl;have x1:=aj KX 1 _ rfl;have f0:=aU KX 0;have f1:=aU KX 1;clear cS hr hz XR XZ kx kb kp hC;by_cases h1:ws.length<fx.size
  ·have e1:(ws.length:Int)<(fx.size:Int):=ae;exact aha
  ·have e1: ¬(ws.length:Int)<(fx.size:Int):=ae;have e2:(!more==decide (fx.size<ws.length))=true:=by
    rcases Bh with h|h
    ·exact absurd h h1
    ·cases more<;>cases hd:decide (fx.size<ws.length)<;>simp_all
   exact aha
 rw[if_neg Bh]at HQ;have e1: ¬(ws.length:Int)<(fx.size:Int):=ae;have e2:(!more==decide (fx.size<ws.length))=false:=by
  have h:=Decidable.not_not.1 λh=>Bh (.inr h);rw[<-h];cases more<;>rfl
 have e3: ¬ws.length<fx.size:=ae;have eT:fx.size<=ws.length:=ae;have j6:=λW=>run_make_row' (P:=prog) 55 3 (.int .i64 0) 8 underlying55 rD rfl .i64 .i64 fx.size ae ae W;have ajq:madeCells #[Value.int .i64 0] fx.size=(ints (List.replicate fx.size 0)).toArray:=by
  apply Array.ext';rw[toList_madeCells_one];simp[ints]
 rw[ajq]at j6;have av:=be w1 (.cells (ints (List.replicate fx.size 0)).toArray 3);have bH:=aR w1 (.cells (ints (List.replicate fx.size 0)).toArray 3);obtain⟨w2,cl⟩: ∃w2,w2=w1.alloc (.cells (ints (List.replicate fx.size 0)).toArray 3):=⟨_,rfl⟩
 rw[<-cl]at av bH;obtain⟨ai,w3,il,KY,aL,cg⟩:=MG w2 fx w2.heap.size rfl;have PI:=aa KY;rw[<-cS]at KX KB mo;have HKX:=aa (aJ (aJ KX av) aL);have Li:=aa (aJ bH aL);have uW:w1.heap.size=w.heap.size+2:=mo;have H':w2.heap.size=w1.heap.size+1:=by rw[cl];exact World.size_alloc _ _
 have cj:=aa (Below.trans (Below.trans KB (av.mono KB.size)) (aL.mono (bD KB.size av.size)));have ev:=aa hr;have HZ:=aa hz;have HS:=aa (And.intro uW (And.intro H' cg));clear hr hz KY av aL bH uW H' cg kx kb kp hC ajq XR XZ Bh;go_in;go_wp2_with fail;refine (HC).mono ?_;rintro e w4 ⟨rfl,rfl⟩;go_upto_region 5 with fail
 rw[<-cS,<-cl];obtain⟨ga,uW⟩: ∃ga,ga=w.heap.size+1+1:=⟨_,rfl⟩
 rw[<-uW];obtain⟨gb,xl⟩: ∃gb,gb=w2.heap.size:=⟨_,rfl⟩
 rw[<-xl]at il PI;have HG:=aa (show w1.heap.size=ga/\gb=ga+1/\ga=w.heap.size+2 from⟨by rw[HS.1,uW],by rw[xl,HS.2.1,HS.1,uW],uW⟩);rw[HG.1]at Li;have aO:gb≠ga:=by have:=HG.2.1;omega
 have va:w.heap.size+1≠ga:=ae;clear j6 p0 uW xl cS cl mo e2 e3;go_wp2_with fail;clear il;go_loopg [40] fx.size (λgh i wr=> ∃(k:Nat) (dn:List Int),k+gh=fx.size/\i= .int .i64 k/\dn.length=k/\jR fx.data.toList ws=(jR (fx.data.toList.drop k) (ws.drop k)).map (dn++ ·)/\w3.grownBy wr (some ga)/\wr.heap[ga]?=some (.cells (ints (dn++List.replicate (fx.size - k) 0)).toArray 3 (0,0))/\aD w wr);case atStart=>exact⟨0,[],Nat.zero_add _,rfl,rfl,by rw[List.drop_zero,List.drop_zero];cases jR fx.data.toList ws<;>rfl,ub (aI _ _) _,Li,cj⟩
 case round=>
  obtain⟨k,dn,hk,rfl,Dp,sw,hg,bH,j'⟩:=hrel;have HK:=aa hk;have y9:=aa Dp;have Di:=aa sw;have zD:=aa hg;have tM:=aa bH;have Mr:=aa j';have HX:=aa (dH hg HKX va);clear sw hg bH j' Dp;cases gk with
  |zero=>
   obtain rfl:k=fx.size:=hk;have e9: ¬(fx.size:Int)<(fx.size:Int):=ae;have x0:=aj HX 0 _ rfl;have x1:=aj HX 1 _ rfl;have f0:=aU HX 0;have f1:=aU HX 1;have tu:=Di.out;rw[<-hL,List.drop_length,jR]at tu;have E:=aa (bt (bt HX 0 (.slice A ws.length c)) 1 (.slice (aw ga) fx.size fx.size));have HRf:=aa (dH (gU wr (w.heap.size+1) 0 1 (.slice A ws.length c) (.slice (aw ga) fx.size fx.size)) tM (Ne.symm va));have aDU:=aa tu;clear tu;go_wp2_with fail;refine bodyPost_ret (dJ rfl _ _ (w.heap.size+1) ah _ (UU E)) rfl ?_;have h9:=aDU.out;have h8:=HRf.out;rw[Nat.sub_self,List.replicate_zero,List.append_nil]at h8;rw[HQ.out,h9];refine⟨⟨ga,by have:=HG.2.2;omega,?_,?_⟩,Mr.trans (iC (gU _ _ _ _ _ _) ae Mr.size)⟩
   ·show Ending.returned _=Ending.returned _;simp only[List.append_nil];rw[y9.out];rfl
   ·simp only[List.append_nil];exact h8
  |succ g2=>
   have cY:k<fx.data.toList.length:=ae;have QZ:k<ws.length:=ae;have kE:=(PI k cY).1;have hc:=(fB (zD.block gb (cU kE) (λe=>aO (bW e)))).trans kE;obtain⟨b',o',hA,hx⟩:=tk (ev.below Mr) (k:=k) QZ;have qu:(wx ws k).size<=1000000:=HZ.out _ (by unfold wx;rw[dh,cL QZ];exact dY _);have sw:=Di.out;rw[List.drop_eq_getElem_cons cY,List.drop_eq_getElem_cons QZ,jR]at sw;rw[show ws[k]=wx ws k by unfold wx;rw[dh,cL QZ];rfl]at sw;rw[show fx.data.toList.getD k 0=fx.data.toList[k] by rw[dh,cL cY];rfl]at hc;generalize wx ws k=x at hx qu sw;generalize fx.data.toList[k]=kd at hc sw;have Yg:=aa sw;have LC:fx.size - k=(fx.size -(k+1))+1:=ae;have Pk:=aa LC;have e9:(k:Int)<(fx.size:Int):=ae;have e8:(k:Int)<(ws.length:Int):=ae;subst hA;clear sw LC kE cY hk;by_cases VE:kd=110
   ·subst VE;have tS:=aa (ax4 x wr qu);unfold afL at tS;go_wp2_with fail;refine (tS).mono ?_;rintro e w5 ⟨rfl,aY⟩;have lO:=Es zD aY;have aD6:=aa lO;have ayV:=aa (aJ tM aY);have xp:=aa (aJ HX aY);have PG:=aX Mr aY;clear lO aY hc hx;cases hnq:yr x with
    |none=>
     have P1:=aa (show X=none by rw[HQ.out,Yg.out,if_pos trivial,hnq];rfl);have x0:=aj xp 0 _ rfl;have x1:=aj xp 1 _ rfl;have f0:=aU xp 0;have f1:=aU xp 1;have E:=aa (bt (bt xp 0 (ay)) 1 (ay));clear hnq;go_wp2_with fail;refine bodyPost_ret (dJ rfl _ _ (w.heap.size+1) ah _ (UU E)) rfl ?_;rw[P1.out];exact⟨rfl,PG.trans (iC (gU _ _ _ _ _ _) ae PG.size)⟩
    |some v=>
     have IF:=aa (show jR fx.data.toList ws=(jR (fx.data.toList.drop (k+1)) (ws.drop (k+1))).map ((dn++ [(v:Int)])++ ·) by
      rw[Yg.out,if_pos trivial,hnq];cases jR (fx.data.toList.drop (k+1)) (ws.drop (k+1))<;>simp)
     have qi:=ayV.out;rw[Pk.out]at qi;have wH:=bt qi k (.int .i64 (v:Int));have zt:=ax6 dn (fx.size -(k+1)) (v:Int);rw[y9.out]at zt;rw[zt]at wH;have tK:=aa wH;have p0:w5.cell? ⟨ga,k,none⟩=some (.int .i64 0):=aj qi k _ (by rw[OW];unfold ints;rw[nA,ux (by rw[y9.out];exact aM _),y9.out,Nat.sub_self];rfl);have p1:=aU qi k;have HGn:=aa (mE aD6 (eE w5 ga k (.int .i64 (v:Int))));have HBn:=aa (PG.trans (iC (eE w5 ga k (.int .i64 (v:Int))) (by have:=HG.2.2;omega) PG.size));clear hnq qi wH zt;go_wp2_with fail;go_roundg g2;case measure=>omega
     case rel=>exact⟨k+1,dn++ [(v:Int)],by have:=HK.out;omega,by go_num,by rw[dx,y9.out];rfl,IF,HGn,tK,HBn⟩
   ·have hy:=(Nat.lt_irrefl 0)
    have e7:(((kd.toNat:Nat):Int)==110)=false:=by
     rw[beq_eq_false_iff_ne];intro e;exact VE (UInt8.toNat_inj.1 (show kd.toNat=110 by omega))
    have e6: ¬((kd.toNat:Nat):Int)=110:=(by simpa using e7);have IF:=aa (show jR fx.data.toList ws=(jR (fx.data.toList.drop (k+1)) (ws.drop (k+1))).map ((dn++ [(0:Int)])++ ·) by
     rw[Yg.out,if_neg VE];cases jR (fx.data.toList.drop (k+1)) (ws.drop (k+1))<;>simp)
    have qi:=tM.out;rw[Pk.out,ax5]at qi;have tK:=aa qi;clear qi hy hx;generalize kd.toNat=kn at hc e7 e6;go_wp2_with fail;go_roundg g2;case measure=>omega
    case rel=>exact⟨k+1,dn++ [(0:Int)],by have:=HK.out;omega,by go_num,by rw[dx,y9.out];rfl,IF,zD,tK,Mr⟩
theorem agn (h:P:=by
 cases hq:jR f l with
 |none=>rw[hq]at h;cases h
 |some m=>
  rw[hq]at h;have h:=bW h;subst h;intro y hy;rcases List.mem_cons.1 hy with rfl|hy
  ·omega
  ·exact afO f l m hq y hy):P:=h
theorem afO: ∀(f:aF) (ws:List ag) (ms:List Int),jR f ws=some ms-> ∀x∈ms,0<=x/\x<=1000000
 | [],_,ms,h=>by
  rw[jR]at h;injection h with h
  subst h;exact λx hx=>by cases hx
 |_::_,[],ms,h=>by
  rw[jR]at h;cases h
 |c::f,x::l,ms,h=>by
  rw[jR]at h;split at h
  ·cases hn:yr x with
   |none=>rw[hn]at h;cases h
   |some v=>
    rw[hn]at h;have hv:v<=1000000:=by
     unfold yr at hn;split at hn
     ·cases hn
     ·exact afM _ _ _ hn ae
    exact agn
  ·exact agn
theorem ax8 {f:aF} {more:Bool} (h:oo f more ws=some ms):ms.length=f.length/\f.length<=ws.length/\(more=true->f.length<ws.length)/\ ∀x∈ms,0<=x/\x<=1000000:=by
 unfold oo at h;split at h
 ·cases h
 ·rename_i hb;refine⟨afN f ws ms h,ae,λhm=>?_,afO f ws ms h⟩;have h2:=Decidable.not_not.1 λe=>hb (.inr e);rw[hm]at h2;exact of_decide_eq_true h2.symm
def GU:List (Nat×Nat×Bool):= [(0,4,true),(1,1,true),(2,0,false),(3,1,false),(4,2,false),(5,1,false),(6,0,false),(7,2,false),(8,3,false),(9,3,false),(10,1,true),(11,2,false),(12,1,false),(13,0,false)]
theorem ax9 {f:aF} {more:Bool} {c:Nat} (h:tg s=some (f,more,c)):(c,f.length,more)∈GU:=by
 unfold tg at h;obtain⟨p,hp,he⟩:=Option.map_eq_some_iff.1 h;have hm:=List.mem_of_find?_eq_some hp;simp only[List.mem_cons,List.not_mem_nil,or_false]at hm;rcases hm with rfl|rfl|rfl|rfl|rfl|rfl|rfl|rfl|rfl|rfl|rfl|rfl|rfl|rfl
 all_goals
  injection he with e1 e2
  injection e2 with e2 e3
  subst e1 e2 e3
  decide
theorem ax' {r:aW×Tl} {e:Ending} (h:ov B rb w r e w') (hl:Ld rb w) (aK:rb<B):GS B rb (some S) w (some r.1,r.2) e w':=
 ⟨h.1,h.2.1,Ld.fq (A:=0) hl ae h.2.2.2,h.2.2.2⟩
def sc (c:Nat) (R:Option aW) (ws:List ag) (ms:List Int):Option aW×Tl:=
 if c=0 then mc (wx ws 0) (wx ws 1) (ws.drop 4) (ix ms 2) (ix ms 3)
 else match R with
  |none=>(none,.er 0)
  |some S=>(some (uu c S ws ms).1,(uu c S ws ms).2)
theorem aya (B rb:Nat) (R:Option aW) (c:Nat) (f:aF) (more:Bool) (ws:List ag) (ms:List Int) (A:aN) (n2 c2 gm:Nat) (W:World) (hR:iT W B rb R) (aK:rb<B) (hl:Ld rb W) (hB:B<=W.heap.size) (hG: ∀S,R=some S->Gd S) (hf:oo f more ws=some ms) (hc:(c,f.length,more)∈GU) (hn:c≠0->R≠none) (ha:Rd W A (aZ ws)) (h2:n2=ws.length) (mM:n2<=c2) (hA: ∀b o,A=some ⟨b,o,none⟩-> ∃cs fz,W.heap[b]?=some (.cells cs 9 fz)) (hm:W.heap[gm]?=some (.cells (ints ms).toArray 3 (0,0))) (hz: ∀x∈ws,x.size<=1000000) (IA:ws.length<=10000):
  Calls prog (yH c) #[.pointer (aw rb),.agg #[.slice A n2 c2,.slice (aw gm) ms.length ms.length]] W (GS B rb R W (sc c R ws ms)):=by
 obtain⟨l1,l2,l3,l4⟩:=ax8 hf;have rz:Rd W (aw gm) (ints ms):=by
  intro j u hu;refine⟨gm,0,rfl,?_⟩;rw[Nat.zero_add];exact aj hm j u (by rw[OW];exact hu)
 by_cases h0:c=0
 ·subst h0;have hq:f.length=4/\more=true:=by simpa[GU] using hc
  have l3:=l3 hq.2;exact axZ B rb R A (aw gm) n2 c2 ms.length ms.length ws ms W hR aK hl hB ha h2 rz rfl ae ae mM IA hz l4
 cases R with
 |none=>exact absurd rfl (hn h0)
 |some S=>
  obtain⟨wb,y,hr,hw⟩:=hR;have H:Rm W B rb wb S y:=⟨hr,aK,hw,hl.up ae hB⟩
  have hS:=hG S rfl;have CN: ∀b o,A=some ⟨b,o,none⟩->b≠wb:=λb o e=>by
   obtain⟨cs,fz,h⟩:=hA b o e;exact kP h hw.blk au
  have uO: ∀b o,(some ⟨gm,0,none⟩:aN)=some ⟨b,o,none⟩->b≠wb:=λb o e=>by
   injection e with e
   injection e with e
   subst e;exact kP hm hw.blk au
  have key: ∀ {K:Nat} {r:aW×Tl},yH c=K->uu c S ws ms=r->Calls prog K #[.pointer (aw rb),.agg #[.slice A n2 c2,.slice (aw gm) ms.length ms.length]] W (ov B rb W r)->Calls prog (yH c) #[.pointer (aw rb),.agg #[.slice A n2 c2,.slice (aw gm) ms.length ms.length]] W (GS B rb (some S) W (sc c (some S) ws ms)):=by
   intro K r e1 e2 hC;subst e1 e2;have e3:sc c (some S) ws ms=(some (uu c S ws ms).1,(uu c S ws ms).2):=(by unfold sc;rw[if_neg h0]);rw[e3];exact hC.mono λe w' h=>ax' h hl aK
  have C4: ∃fl,f.length=fl:=⟨_,rfl⟩
  obtain⟨fl,Fz⟩:=C4;rw[Fz]at hc l1 l2 l3;simp only[GU,List.mem_cons,Prod.mk.injEq,List.not_mem_nil,or_false]at hc;rcases hc with⟨rfl,rfl,rfl⟩|⟨rfl,rfl,rfl⟩|⟨rfl,rfl,rfl⟩|⟨rfl,rfl,rfl⟩|⟨rfl,rfl,rfl⟩|⟨rfl,rfl,rfl⟩|⟨rfl,rfl,rfl⟩|⟨rfl,rfl,rfl⟩|⟨rfl,rfl,rfl⟩|⟨rfl,rfl,rfl⟩|⟨rfl,rfl,rfl⟩|⟨rfl,rfl,rfl⟩|⟨rfl,rfl,rfl⟩|⟨rfl,rfl,rfl⟩
  ·exact absurd rfl h0
  ·exact key rfl rfl (axq B rb wb S y A _ n2 c2 _ _ ws W H hS ha h2 (by have:=l3 rfl;omega) mM IA)
  ·exact key rfl rfl (avf B rb wb S y A _ n2 c2 _ _ W H)
  ·exact key rfl rfl (avl B rb wb S y A _ n2 c2 _ _ ms W H hS rz rfl ae)
  ·exact key rfl rfl (avV B rb wb S y A _ n2 c2 _ _ ws ms W H hS ha h2 rz rfl ae ae CN uO hz)
  ·exact key rfl rfl (awb B rb wb S y A _ n2 c2 _ _ ms W H hS rz rfl ae)
  ·exact key rfl rfl (avh B rb wb S y A _ n2 c2 _ _ W H hS)
  ·exact key rfl rfl (avA B rb wb S y A _ n2 c2 _ _ ws ms W H hS ha h2 rz rfl ae ae)
  ·exact key rfl rfl (axG B rb wb S y A _ n2 c2 _ _ ws ms W H hS ha h2 rz rfl ae ae CN uO)
  ·exact key rfl rfl (awe B rb wb S y A _ n2 c2 _ _ ws ms W H hS ha h2 rz rfl ae ae hz l4)
  ·exact key rfl rfl (avD B rb wb S y A _ n2 c2 _ _ ws ms W H hS ha h2 rz rfl (by have:=l3 rfl;omega) ae mM hz IA uO)
  ·exact key rfl rfl (avB B rb wb S y A _ n2 c2 _ _ ws ms W H hS ha h2 rz rfl ae ae)
  ·exact key rfl rfl (avC B rb wb S y A _ n2 c2 _ _ ws ms W H hS ha h2 rz rfl ae ae)
  ·exact key rfl rfl (avg B rb wb S y A _ n2 c2 _ _ W H hS)
theorem Oo (c:UInt8): ∀(l:aF),(iD c l).length<=l.length+1/\ ∀x∈iD c l,x.length<=l.length
 | []=>⟨by simp[iD],by simp[iD]⟩
 |x::l=>by
  obtain⟨h1,h2⟩:=Oo c l;rw[iD];split
  ·refine⟨by simp only[List.length_cons];omega,λy hy=>?_⟩;rcases List.mem_cons.1 hy with rfl|hy
   ·exact Nat.zero_le _
   ·have:=h2 y hy;rw[List.length_cons];omega
  ·cases hq:iD c l with
   |nil=>exact absurd hq (aeU c l)
   |cons a t=>
    rw[hq]at h1 h2;refine⟨by simp only[List.length_cons,List.headD_cons,List.tail_cons]at h1⊢;omega,λy hy=>?_⟩;simp only[List.headD_cons,List.tail_cons]at hy;rcases List.mem_cons.1 hy with rfl|hy
    ·have:=h2 a (Vs ..);simp only[List.length_cons];omega
    ·have:=h2 y (Vu _ hy);simp only[List.length_cons];omega
theorem ayb (s:ag):(dP s dU).length<=s.size+1:=by
 show (dP s ⟨#[32]⟩).length<=_;rw[Cp,kQ,<-bP];exact (Oo 32 _).1
theorem ayc (s:ag): ∀x∈dP s dU,x.size<=s.size:=by
 show∀x∈dP s ⟨#[32]⟩,_;rw[Cp,<-bP];intro x hx;obtain⟨y,hy,rfl⟩:=List.mem_map.1 hx;rw[ei];exact (Oo 32 _).2 y hy
theorem Cw {b:Nat} (h:w.heap[b]?=some o):b<w.heap.size:=by
 rcases mg b w.heap.size with h'|h'
 ·exact h'
 ·rw[Array.getElem?_eq_none h']at h;cases h
theorem Oq (h:Rd W A xs) (hx:xs≠ [.string bo]) (hq:bj W q #[.string bo] 9) (hg:W.grownBy W' (some q)):Rd W' A xs:=by
 intro j u hu;obtain⟨b,o,hA,hc⟩:=h j u hu;by_cases hb:b=q
 ·subst hb;rw[cell_of_row W b (o+j) _ _ _ hq]at hc;have h0:o+j=0:=by
   rcases Nat.eq_zero_or_pos (o+j) with h0|h0
   ·exact h0
   ·rw[Array.getElem?_eq_none (by simp;omega)]at hc;cases hc
  rw[h0]at hc;have e:Value.string bo=u:=by simpa using hc
  have ej:j=0:=ae;subst ej;match xs,hx,h,hu with
  | [],_,_,hu=>cases hu
  | [x],hx,_,hu=>
   have e2:x=u:=(by simpa using hu);exact absurd (by rw[e2,e]) hx
  |x::y::r,_,h,_=>
   obtain⟨b',o',fV,wV⟩:=h 1 y rfl;rw[hA]at fV;injection fV with e3
   injection e3 with e3 e4
   subst e3 e4;rw[cell_of_row W b (o+1) _ _ _ hq,Array.getElem?_eq_none ak]at wV;cases wV
 ·exact⟨b,o,hA,(fB (hg.block b (cU hc) (λe=>hb (bW e)))).trans hc⟩
theorem afP {l:List ag} (h:l≠ [bo]):aZ l≠ [.string bo]:=λe=>by
 match l,h,e with
 | [],_,e=>cases e
 | [x],h,e=>
  unfold aZ at e;rw[List.map_cons,List.map_nil]at e;injection e with e _
  injection e with e
  exact h (by rw[e])
 |x::y::r,_,e=>
  unfold aZ at e;rw[List.map_cons,List.map_cons]at e;injection e with _ e
  cases e
theorem ayf {l:List ag} (h:l.length≠1):l≠ [bo]:=λe=>h (by rw[e];rfl)
theorem ayg (l:List Int):ints l≠ [.string bo]:=λe=>by
 match l,e with
 | [],e=>cases e
 |x::r,e=>
  unfold ints at e;rw[List.map_cons]at e;injection e with e _
  cases e
theorem ayh (l:List l8):jn l≠ [.string bo]:=λe=>by
 have h:=Gf l;rw[e]at h;have h:1=l.length*2:=h;omega
theorem ayi (h:iT W B rb R) (hG: ∀S,R=some S->Gd S) (hq:bj W q #[.string bo] 9) (hn:qa W rb q) (t:ag):iT (W.setCell ⟨q,0,none⟩ (.string t)) B rb R:=by
 have hg:=eE W q 0 (.string t);cases R with
 |none=>exact dH hg h (kP h hq au)
 |some S=>
  obtain⟨wb,y,hr,C8,hk,hd⟩:=h;have hS:=hG S rfl;have hb:=hn.at_ hr hk;obtain⟨q1,q2,q3,q4,q5,q6,q7,q8,q9⟩:=hd;have pb: ∀ {A D:aN} {n m:Nat} {P:az},P.ss.length≠1->PB W A n D m P->PB (W.setCell ⟨q,0,none⟩ (.string t)) A n D m P:=λhl h=>⟨h.hn,h.hm,Oq h.rs (afP (ayf hl)) hq hg,Oq h.rc (ayh _) hq hg,h.ta.set _ _ _,h.tb.set _ _ _⟩
  have ot: ∀ {z:Sl} {l:List ag} {n:Nat},l≠ [bo]->eF W wb z (aZ l) n->eF (W.setCell ⟨q,0,none⟩ (.string t)) wb z (aZ l) n:=λhl h=>⟨Oq h.1 (afP hl) hq hg,h.2⟩
  refine⟨wb,y,dH hg hr (kP hr hq au),C8,dH hg hk (kP hk hq au),⟨ot hS.nq q1,?_,q3,ot hS.rn q4,ot hS.rp q5,pb hS.ch.2.2 q6,⟨?_,q7.2⟩,pb hS.sp.2.2 q8,⟨Oq q9.1 (ayg _) hq hg,q9.2⟩⟩⟩
  ·have aO:=mC hq q2.os au;refine⟨q2.hn,q2.os.kept hg (.inr (Ne.symm aO)),λb aS e j u hu=>q2.sl b aS e j u ?_,λx hx=>pb ((hS.ds x.P (by rw[<-q3];exact List.mem_map.2 ⟨x,hx,rfl⟩)).2.2) (q2.ok x hx)⟩;have hb:b≠q:=λeb=>aO (by rw[e,eb];rfl);have aK:b<W.heap.size:=(q2.os.lt b (by rw[e];rfl)).2;exact (fB (hg.block b aK (λe2=>hb (bW e2)))).symm.trans hu
  ·intro j u hu;obtain⟨b,o,hA,hc⟩:=q7.1 j u hu;have hbq:b≠q:=λe=>by
    subst e;refine hb ?_ o hA;have h1:=(List.getElem?_eq_some_iff.1 hu).1;rw[qO]at h1;rw[q7.2.1];omega
   exact⟨b,o,hA,(fB (hg.block b (cU hc) (λe=>hbq (bW e)))).trans hc⟩
theorem iT.no (h:iT w B rb R):qa w rb w.heap.size:=by
 cases R with
 |none=>exact .inl h
 |some S=>
  obtain⟨wb,y,hr,C8,hk,hd⟩:=h;refine .inr ⟨wb,S,y,hr,hk,λh0 o e=>?_⟩;have hl:=hd.bl.2.1;have h1:0<(aZ S.v.bl).length:=by rw[qO];omega
  obtain⟨b,o',hA,hc⟩:=hd.bl.1 0 _ (cL h1);rw[e]at hA;injection hA with e1
  injection e1 with e1 e2
  have h2:b<w.heap.size:=cU hc;omega
theorem afQ (hR:iT W B rb R) (hG: ∀S,R=some S->Gd S) (hl:Ld rb W) (hf:Fq B rb w W) (hq:bj W w.heap.size #[.string bo] 9) (hn:qa W rb w.heap.size) (hB:B<=w.heap.size) (aK:rb<B) (t:ag):
  iT (W.setCell ⟨w.heap.size,0,none⟩ (.string t)) B rb R/\Ld rb (W.setCell ⟨w.heap.size,0,none⟩ (.string t))/\Fq B rb w (W.setCell ⟨w.heap.size,0,none⟩ (.string t)):=by
 have hg:=eE W w.heap.size 0 (.string t);refine⟨ayi hR hG hq hn t,hl.gb hg ae,hg.os.trans hf.os,hg.tape.trans hf.tape,hg.output.trans hf.output,bD hf.size hg.size,λk hk hr=>?_,λg cs T fz kF hT=>?_,λk hk h=>?_⟩
 ·exact (hg.block k (by have:=hf.size;omega) (λe=>by have:=bW e;omega)).trans (hf.low k hk hr)
 ·have:=bf kF;exact (hg.block g (by have:=hf.size;omega) (λe=>by have:=bW e;omega)).trans (hf.u8 g cs T fz kF hT)
 ·rcases hf.bl k hk h with h1|⟨wb,S,y,h1,h2,h3⟩
  ·exact .inl (dH hg h1 (kP h1 hq au))
  ·exact .inr ⟨wb,S,y,dH hg h1 (kP h1 hq au),dH hg h2 (kP h2 hq au),h3⟩
theorem ayj (s:ag) (w:World) (hM:Ee w) (hs:s.size<4294967281):
  Calls prog 31 #[.string s,.string dU] w λe w'=>e= .returned (.slice (some ⟨w.heap.size,0,none⟩) (dP s dU).length (dP s dU).length)/\w'.heap[w.heap.size]?=some (.cells (aZ (dP s dU)).toArray 9 (0,0))/\aD w w':=by
 obtain⟨m,hm⟩:=hM;refine (Any.strings_Split adz ax s dU m w hs hm au).mono λe w' ⟨h2,h3⟩=>?_;subst h3;have e1:(dP s dU).length=Lib.countB s dU+1:=T0 s dU au;refine⟨?_,aR w _,be w _⟩;rw[h2,e1]
theorem ayk {f:aF} {more:Bool} {c:Nat} (h:tg s=some (f,more,c)):(c=0↔s=⟨#[110,101,119]⟩):=by
 unfold tg at h;obtain⟨p,hp,he⟩:=Option.map_eq_some_iff.1 h;have hm:=List.mem_of_find?_eq_some hp;have hd:p.1=s.data.toList:=by
  have h':=List.find?_some hp;simpa using h'
 have hs:s=⟨p.1.toArray⟩:=by rw[hd]
 simp only[List.mem_cons,List.not_mem_nil,or_false]at hm;rcases hm with rfl|rfl|rfl|rfl|rfl|rfl|rfl|rfl|rfl|rfl|rfl|rfl|rfl|rfl
 all_goals
  injection he with e1 e2
  injection e2 with e2 e3
  subst e1 e2 e3 hs
  decide
theorem ayl {f:aF} {more:Bool} {c:Nat} (h:tg (wx (dP s dU) 0)=some (f,more,c)):fw R s=(match oo f more ((dP s dU).drop 1) with
  |none=>(R,yv)
  |some ms=>if c≠0/\R=none then (none,yw) else ((sc c R ((dP s dU).drop 1) ms).1.or R,mI (sc c R ((dP s dU).drop 1) ms).2)):=by
 unfold fw;rw[h];simp only;cases hf:oo f more ((dP s dU).drop 1) with
 |none=>rfl
 |some ms=>
  simp only;by_cases h0:c=0
  ·subst h0;rw[if_pos rfl,if_neg ak];unfold sc;rw[if_pos rfl,List.drop_drop]
  ·rw[if_neg h0];cases R with
   |none=>rw[if_pos ⟨h0,rfl⟩]
   |some S=>
    rw[if_neg ak];unfold sc;rw[if_neg h0];rfl
def Eu (B rb:Nat) (w:World) (r:Option aW×ByteArray) (e:Ending) (w':World):Prop:=e= .returned (.string r.2)/\iT w' B rb r.1/\Ld rb w'/\Fq B rb w w'
theorem afR (hR:iT w B rb R) (hl:Ld rb w) (hB:B<=w.heap.size) (hb:aD w W) (t:ag):Eu B rb w (R,t) (.returned (.string t)) W:=⟨rfl,hR.below hb,hl.below hb,wA hB hb⟩
theorem aym (fm:ag) (f:aF) (F:Value) (more:Bool) (A:aN) (n c:Nat) (ws:List ag) (w:World) (h3:Lib.trimSuffix fm.data.toList [43]=f) (h4:Lib.hasSuffix fm.data.toList [43]=more) (h7:fm.size<=100) (hr:Rd w A (aZ ws)) (hn:n=ws.length) (hl:ws.length<=10000) (hz: ∀x∈ws,x.size<=1000000):
  Calls prog 34 #[.agg #[.string fm,F],.slice A n c] w (On A n c (oo f more ws) w):=by
 have hq:(⟨f.toArray⟩:ag).size<=100:=by
  show f.toArray.size<=100;rw[<-h3,List.size_toArray];unfold Lib.trimSuffix;have:=bP fm;split
  ·rw[List.length_take];omega
  ·omega
 exact ax7 fm ⟨f.toArray⟩ F more A n c ws w (by rw[h3]) h4 h7 hq hr hn hl hz
theorem UV {P:Program} {fn:Func} {t1 t2:bx} {R:Ending->World->Prop} (h:results fn t1=results fn t2): ∀(ds:List Deferred) (m:FrameMode) (w:World),Leaves P fn t1 R ds m w->Leaves P fn t2 R ds m w
 | [],.returning,w,hl=>by
  unfold Leaves at hl⊢;rw[<-h];exact hl
 | [],.panicking chain,w,hl=>by
  unfold Leaves at hl⊢;exact hl
 | [],.run,w,hl=>by
  unfold Leaves at hl;exact hl.elim
 |d::ds,m,w,hl=>by
  unfold Leaves at hl⊢;obtain⟨h1,fv,ai,f,args,h2,h3,h4⟩:=hl;refine⟨h1,fv,ai,f,args,h2,h3,h4.mono λe u' w' he=>?_⟩;cases e with
  |returned v=>exact UV h ds _ _ he
  |panicked c=>exact UV h ds _ _ he
  |outgrown=>exact he
theorem gn {w0:World} {X:Option aW×ByteArray} (d:Nat) (hd:d≠6) (c:List PanicEntry) (a:Act) (v:Value) (w:World) (h:Exit.then K (bodyPostD prog Tryz.f13 (Eu B rb w0 X)) (.panic c) (a.put (some d) v) w):Exit.then K (bodyPostD prog Tryz.f13 (Eu B rb w0 X)) (.panic c) a w:=by
 have h':Leaves prog Tryz.f13 (a.tmps.setIfInBounds d v) (Eu B rb w0 X) a.defers (.panicking c) w:=h;have e:results Tryz.f13 (a.tmps.setIfInBounds d v)=results Tryz.f13 a.tmps:=by
  simp[results,results13,Array.getD_eq_getD_getElem?,Array.getElem?_setIfInBounds,hd]
 exact UV e _ _ _ h'
theorem afS:(⟨#[110,101,119]⟩:ag).toList= [110,101,119]:=bU
theorem ayn (h:iT w B rb R) (hp:bj w rb #[.pointer p] 32):p=none↔R=none:=by
 cases R with
 |none=>
  have e:=h.symm.trans hp;simp at e;simp[e]
 |some S=>
  obtain⟨wb,y,h1,_⟩:=h;have e:=h1.symm.trans hp;simp at e;simp[<-e]
theorem ayo {c:Nat} (hG: ∀S,R=some S->Gd S):(∀S,(sc c R ws ms).1.or R=some S->Gd S)/\ku (sc c R ws ms).2:=by
 unfold sc;split
 ·obtain⟨h1,h2⟩:=aft (wx ws 0) (wx ws 1) (ws.drop 4) (ix ms 2) (ix ms 3);refine⟨λS h=>?_,h2⟩;cases hq:(mc (wx ws 0) (wx ws 1) (ws.drop 4) (ix ms 2) (ix ms 3)).1 with
  |none=>rw[hq]at h;exact hG S h
  |some T=>rw[hq]at h;exact h1 S (hq.trans h)
 ·cases R with
  |none=>exact⟨λS h=>(by cases h),(show gL 0 from by decide)⟩
  |some T=>
   obtain⟨h1,h2⟩:=afr (hG T rfl) c ws ms;exact⟨λS h=>by injection h with h;rw[<-h];exact h1,h2⟩
theorem ayp {c:Nat} {more:Bool} (hc:(c,n,more)∈GU): ∀(args:bx) (W:World),(callFunc (yH c) args).run prog W= .ok (.enter (yH c) args) W:=by
 simp only[GU,List.mem_cons,Prod.mk.injEq,List.not_mem_nil,or_false]at hc;rcases hc with⟨rfl,_⟩|⟨rfl,_⟩|⟨rfl,_⟩|⟨rfl,_⟩|⟨rfl,_⟩|⟨rfl,_⟩|⟨rfl,_⟩|⟨rfl,_⟩|⟨rfl,_⟩|⟨rfl,_⟩|⟨rfl,_⟩|⟨rfl,_⟩|⟨rfl,_⟩|⟨rfl,_⟩
 ·exact enters_of func17 ax rfl
 ·exact enters_of func18 ax rfl
 ·exact enters_of func19 ax rfl
 ·exact enters_of func20 ax rfl
 ·exact enters_of func21 ax rfl
 ·exact enters_of func22 ax rfl
 ·exact enters_of func23 ax rfl
 ·exact enters_of func24 ax rfl
 ·exact enters_of func25 ax rfl
 ·exact enters_of func26 ax rfl
 ·exact enters_of func27 ax rfl
 ·exact enters_of func28 ax rfl
 ·exact enters_of func29 ax rfl
 ·exact enters_of func30 ax rfl
theorem iE (h:P:=by
 intro _ h9;go_simp;try with_reducible rfl):P:=h
theorem agf (h:P:=by
 refine kR 8 λK hK=>?_;have u0:=aj hz 0 _ rfl;have u1:=aj hz 1 _ rfl;have v0:=aU hz 0;have v1:=aU hz 1;have E:=yF (a:= .slice (some ⟨b,1,none⟩) (l.length - 1) (l.length - 1)) (b:= .slice (aw gm) ms.length ms.length) hS sj hz;have wE:=dH E.2.2 bH (kP bH hz au);have VX:=E.2.1;go_simp;refine hK.out _ _ E.1 (λhS=>?_);clear hK K;try go_frame
 refine kL λK hK=>?_;go_simp;refine hK.out _ _ ?_;clear hK K;go_wp2;go_meet;case rel=>exact⟨_,(some ⟨b,1,none⟩),(l.length - 1),rfl,by rw[hY];rfl,λYq e=>(by rw[hY]at e;injection e with e;subst e;exact⟨gm,by rw[show ws.length=(l.length - 1) by have:=yV.out;omega];exact VX,wE⟩),(gO.below E.1),(by have:=yV.out;omega),λb' o e=>by injection e with e;injection e with e;exact e.symm,dM.trans (E.1.mono fS)⟩):P:=h
theorem ahN (h:P:=by
 refine kR 8 λK hK=>?_;have u0:=aj hz 0 _ rfl;have u1:=aj hz 1 _ rfl;have v0:=aU hz 0;have v1:=aU hz 1;have E:=yF (a:= .slice (aw b) 0 0) (b:= .slice (aw gm) ms.length ms.length) hS sj hz;have wE:=dH E.2.2 bH (kP bH hz au);have VX:=E.2.1;go_simp;refine hK.out _ _ E.1 (λhS=>?_);clear hK K;try go_frame
 refine kL λK hK=>?_;go_simp;refine hK.out _ _ ?_;clear hK K;go_wp2;go_meet;case rel=>exact⟨_,(aw b),0,rfl,by rw[hY];rfl,λYq e=>(by rw[hY]at e;injection e with e;subst e;exact⟨gm,by rw[show ws.length=0 by rw[sk.out lI.out];rfl];exact VX,wE⟩),(by rw[sk.out lI.out];exact Rd.nil _ _),(by rw[sk.out lI.out];exact aM _),λb' o e=>by injection e with e;injection e with e;exact e.symm,dM.trans (E.1.mono fS)⟩):P:=h
theorem ag4 (h:P:=by
 refine kR 8 λK hK=>?_;have u0:=aj hz 0 _ rfl;have u1:=aj hz 1 _ rfl;have v0:=aU hz 0;have v1:=aU hz 1;have E:=yF (a:=ay) (b:=ay) hS sj hz;go_simp;refine hK.out _ _ E.1 (λhS=>?_);clear hK K;try go_frame
 refine kL λK hK=>?_;go_simp;refine hK.out _ _ ?_;clear hK K;go_wp2;go_meet;case rel=>exact⟨_,(aw b),0,rfl,by rw[hY];rfl,λYq e=>(by rw[hY]at e;cases e),(by rw[sk.out lI.out];exact Rd.nil _ _),(by rw[sk.out lI.out];exact aM _),λb' o e=>by injection e with e;injection e with e;exact e.symm,dM.trans (E.1.mono fS)⟩):P:=h
theorem agd (h:P:=by
 refine kR 8 λK hK=>?_;have u0:=aj hz 0 _ rfl;have u1:=aj hz 1 _ rfl;have v0:=aU hz 0;have v1:=aU hz 1;have E:=yF (a:=ay) (b:=ay) hS sj hz;go_simp;refine hK.out _ _ E.1 (λhS=>?_);clear hK K;try go_frame
 refine kL λK hK=>?_;go_simp;refine hK.out _ _ ?_;clear hK K;go_wp2;go_meet;case rel=>exact⟨_,(some ⟨b,1,none⟩),(l.length - 1),rfl,by rw[hY];rfl,λYq e=>(by rw[hY]at e;cases e),(gO.below E.1),(by have:=yV.out;omega),λb' o e=>by injection e with e;injection e with e;exact e.symm,dM.trans (E.1.mono fS)⟩):P:=h
theorem OA (h:P:=by
 intro _ h9;have y0:=aj (aJ HY.out h9) 0 _ rfl;have y1:=aj (aJ HY.out h9) 1 _ rfl;go_simp;try with_reducible rfl):P:=h
theorem agA (h:P:=by
 rw[HQ.out];simp only[yv]at z0 fin⊢;simp[bodyPostD,Leaves,settle,results,results13,go_sem,z0];exact fin):P:=h
theorem ayq (B rb tb:Nat) (R:Option aW) (s:ag) (w:World) (hR:iT w B rb R) (aK:rb<B) (hl:Ld rb w) (hB:B<=w.heap.size) (hG: ∀S,R=some S->Gd S) (Fw:w.heap[tb]?=some (.map (ww rY 0).toArray 14)) (hs:s.size<=10000):
  Calls prog 13 #[.pointer (aw rb),.map (some tb),.string s] w (Eu B rb w (fw R s)):=by
 have eL:=be w (.cells #[.string ⟨#[]⟩] 9);have hX:=aR w (.cells #[.string ⟨#[]⟩] 9);have jv:=aa (ayj s _ (hl.below eL).lv.max ae);have ts:=aa eL;have Ir:=aa hX;have HR:=aa hR;have HL:=aa hl;have HT:=aa Fw;have fL:1<=(dP s dU).length:=by rw[T0 s dU au];omega
 have HZ:=aa (ayc s);have Vy:=aa (ayb s);have HQ:=aa (show fw R s=_ by unfold fw;rfl);have Zt:=aa (λf more c h=>ayl (R:=R) (s:=s) (f:=f) (more:=more) (c:=c) h);generalize fw R s=X at HQ Zt⊢;generalize dP s dU=l at jv fL HZ Vy HQ Zt;obtain⟨u,hu⟩: ∃u,u=w.alloc (.cells #[.string ⟨#[]⟩] 9):=⟨_,rfl⟩
 have Hu:=aa hu;rw[<-hu]at jv ts Ir;clear eL hX hR hl Fw hu;go_enter_defers func13,ntmps13;go_wp2_with fail;rw[<-Hu.out];refine (jv).mono ?_;rintro e w2 ⟨rfl,bH,av⟩;have Li:=aa bH;have HX:=aa (aJ Ir av);have HB:=aX ts av;have hq:w.heap.size<u.heap.size:=bf Ir.out;generalize u.heap.size=b at*;have YH:=HT.out;have j1:=aa ((HB.block tb (Cw YH)).trans YH);clear bH av YH;have c0:w2.cell? ⟨b,0,none⟩=some (.string (wx l 0)):=aj Li 0 _ (by rw[OW,aZ,nA,cL ae,wx,dh,cL ae];rfl);have e0:0<l.length:=ae;rcases ax3 (wx l 0) with⟨t1,t2⟩|⟨p,f,more,c,t1,t2,t3,t4,t5,t6,t7⟩
 ·rw[t2]at HQ;have wZ:=ax1 j1 t1;clear t1 t2;have bE:=be w2 (.cells #[.string ⟨#[]⟩,.nilFunc] 51);have jb:=aa (aJ HX bE);have cj:=aX HB bE;have x0:=aj jb 0 _ rfl;have f0:=aU jb 0;clear bE;go_wp2_with fail;generalize w2.alloc (.cells #[.string ⟨#[]⟩,.nilFunc] 51)=w3 at*;have z0:=aj (bt jb 0 (.string yv)) 0 _ rfl;have fin:=afR HR HL hB (cj.trans (iC (eE w3 w.heap.size 0 (.string yv)) (aM _) cj.size)) yv;exact agA
 ·obtain⟨cn,fm,K⟩:=p;simp only at t3 t4 t5 t7;subst t5;replace HQ:=aa (Zt f more c t2);have hnz:=ayk t2;have Rc:=ax9 t2;have wZ:=ax2 j1 t1;simp only at wZ;have bE:=be w2 (.cells #[.string fm,.func (.func (yH c)) #[] #[]] 51);have HY:=aa (aR w2 (.cells #[.string fm,.func (.func (yH c)) #[] #[]] 51));have jb:=aa (aJ HX bE);have cj:=aX HB bE;have j3:=aa (aJ Li bE);obtain⟨w3,fo⟩: ∃w3,w3=w2.alloc (.cells #[.string fm,.func (.func (yH c)) #[] #[]] 51):=⟨_,rfl⟩
  have Fh:=aa fo;rw[<-fo]at HY jb cj j3 bE;have Xh:=aa hnz;have HCf:=aa Rc;have HW:=aa (And.intro t3 (And.intro t4 t7));have hg8:w2.heap.size<w3.heap.size:=bf HY.out;clear fo bE t1 t2 t3 t4 t7 hnz Rc HB;go_upto_region 5 with fail
  rw[<-Fh.out];clear wZ c0;generalize w2.heap.size=g8 at*;have sk:=aa (show l.length=1->l.drop 1= [] from λh=>List.drop_of_length_le ae);have yV:=aa (show (l.drop 1).length=l.length - 1 from by rw[List.length_drop]);have dw:Rd w3 (aw b) (aZ l):=by
   intro j u hu;refine⟨b,0,rfl,?_⟩;rw[Nat.zero_add];exact aj j3 j u (by rw[OW];exact hu)
  have gO:=aa (show Rd w3 (some ⟨b,1,none⟩) (aZ (l.drop 1)) from N1 1 dw);have qX:=aa (λA n c' W (hr:Rd W A (aZ (l.drop 1))) (hn:n=(l.drop 1).length)=>aym fm f (.func (.func (yH c)) #[] #[]) more A n c' (l.drop 1) W HW.1 HW.2.1 HW.2.2 hr hn (by have h1:=Vy.out;have h2:=yV.out;omega) (λx hx=>by have:=HZ.out x (List.mem_of_mem_drop hx);omega));have HWz:=aa (λx (hx:x∈l.drop 1)=>show x.size<=1000000 by have:=HZ.out x (List.mem_of_mem_drop hx);omega);clear dw;generalize l.drop 1=ws at sk yV gO qX HWz HQ;go_cut [9,10] from 11 (λs9 VK wx=> ∃(EG:Nat) (A2:aN) (c2:Nat),VK= .pointer (aw EG)/\s9= .bool (oo f more ws).isSome/\(∀ms,oo f more ws=some ms-> ∃gm,bj wx EG #[.slice A2 ws.length c2,.slice (aw gm) ms.length ms.length] 57/\wx.heap[gm]?=some (.cells (ints ms).toArray 3 (0,0)))/\Rd wx A2 (aZ ws)/\ws.length<=c2/\(∀b' o,A2=some ⟨b',o,none⟩->b'=b)/\aD w3 wx);case first=>
   cases hY:oo f more ws with
   |none=>
    rw[hY]at qX;unfold On at qX;simp only at qX;have e1:(1:Int)<=(l.length:Int):=ae;by_cases px:l.length=1
    ·have lI:=aa px;clear px;refine jr (S:=λW=>Below w3.drew.heap.size w3.drew W) 9 ax (aI _ _) (λhS=>?_);have dM:=aa (tq w3);have fS:=dM.size;replace HY:=aa (aJ HY Y9q);replace gO:=aa (gO.below Y9q);generalize w3.drew=w4 at hS dM fS HY gO⊢;refine kT 0 (v:=?_) rfl ax (λc a w h=>gn 24 au c a _ w h) rfl hS ?_ ?_;rotate_left
     ·exact OA
     try go_frame
     refine kT 1 (v:=?_) rfl ax (λc a w h=>gn 25 au c a _ w h) rfl hS ?_ ?_;rotate_left
     ·exact iE
     try go_frame
     refine kT 2 (v:=?_) rfl ax (λc a w h=>gn 26 au c a _ w h) rfl hS ?_ ?_;rotate_left
     ·intro _ h9;have px:=lI.out;go_simp;try with_reducible rfl
     try go_frame
     refine kR2 3 7 (λK hK=>?_) (λK hK=>?_)
     ·go_simp;refine Calls.mono (by exact qX.out (aw b) 0 0 _ (by rw[sk.out lI.out];exact Rd.nil _ _) (by rw[sk.out lI.out];rfl)) ?_;rintro _ w6 ⟨rfl,bO⟩;go_simp;refine hK.out _ _ (hS.trans (bO.mono hS.size)) (λhS=>?_);clear hK K;try go_frame
      clear bO;refine kT 4 (v:=?_) rfl ax (λc a w h=>gn 23 au c a _ w h) rfl hS ?_ ?_;rotate_left
      ·exact iE
      try go_frame
      refine kT 5 (v:=?_) rfl ax (λc a w h=>gn 28 au c a _ w h) rfl hS ?_ ?_;rotate_left
      ·exact iE
      try go_frame
      refine kT 6 (v:=?_) rfl ax (λc a w h=>gn 29 au c a _ w h) rfl hS ?_ ?_;rotate_left
      ·exact iE
      try go_frame
      refine kR 7 λK hK=>?_
      ·go_simp;have hz:=aR w6 (.cells #[ay,ay] 57);have sj:=hS.size;have bn:=hS.alloc hS.size (.cells #[ay,ay] 57);refine hK.out _ _ bn (λhS=>?_);clear hK K;try go_frame
       generalize w6.alloc (.cells #[ay,ay] 57)=x6 at hS bn hz⊢;clear bn;exact ag4
     ·go_simp;have hz:=aR w4 (.cells #[ay,ay] 57);have sj:=hS.size;have bn:=hS.alloc hS.size (.cells #[ay,ay] 57);refine hK.out _ _ bn (λhS=>?_);clear hK K;try go_frame
      generalize w4.alloc (.cells #[ay,ay] 57)=x6 at hS bn hz⊢;clear bn;refine kR 3 λK hK=>?_
      ·go_simp;refine Calls.mono (by exact qX.out (aw b) 0 0 _ (by rw[sk.out lI.out];exact Rd.nil _ _) (by rw[sk.out lI.out];rfl)) ?_;rintro _ w6 ⟨rfl,bO⟩;go_simp;replace hz:=aJ hz bO;refine hK.out _ _ (hS.trans (bO.mono hS.size)) (λhS=>?_);clear hK K;try go_frame
       clear bO;refine kT 4 (v:=?_) rfl ax (λc a w h=>gn 23 au c a _ w h) rfl hS ?_ ?_;rotate_left
       ·exact iE
       try go_frame
       refine kT 5 (v:=?_) rfl ax (λc a w h=>gn 28 au c a _ w h) rfl hS ?_ ?_;rotate_left
       ·exact iE
       try go_frame
       refine kT 6 (v:=?_) rfl ax (λc a w h=>gn 29 au c a _ w h) rfl hS ?_ ?_;rotate_left
       ·exact iE
       try go_frame
       exact ag4
    ·skip;refine jr (S:=λW=>Below w3.drew.heap.size w3.drew W) 9 ax (aI _ _) (λhS=>?_);have dM:=aa (tq w3);have fS:=dM.size;replace HY:=aa (aJ HY Y9q);replace gO:=aa (gO.below Y9q);generalize w3.drew=w4 at hS dM fS HY gO⊢;refine kT 0 (v:=?_) rfl ax (λc a w h=>gn 24 au c a _ w h) rfl hS ?_ ?_;rotate_left
     ·exact OA
     try go_frame
     refine kT 1 (v:=?_) rfl ax (λc a w h=>gn 25 au c a _ w h) rfl hS ?_ ?_;rotate_left
     ·exact iE
     try go_frame
     refine kT 2 (v:=?_) rfl ax (λc a w h=>gn 26 au c a _ w h) rfl hS ?_ ?_;rotate_left
     ·exact iE
     try go_frame
     refine kR2 3 7 (λK hK=>?_) (λK hK=>?_)
     ·go_simp;refine Calls.mono (by exact qX.out (some ⟨b,1,none⟩) (l.length - 1) (l.length - 1) _ (gO.below hS) (by have:=yV.out;omega)) ?_;rintro _ w6 ⟨rfl,bO⟩;go_simp;refine hK.out _ _ (hS.trans (bO.mono hS.size)) (λhS=>?_);clear hK K;try go_frame
      clear bO;refine kT 4 (v:=?_) rfl ax (λc a w h=>gn 23 au c a _ w h) rfl hS ?_ ?_;rotate_left
      ·exact iE
      try go_frame
      refine kT 5 (v:=?_) rfl ax (λc a w h=>gn 28 au c a _ w h) rfl hS ?_ ?_;rotate_left
      ·exact iE
      try go_frame
      refine kT 6 (v:=?_) rfl ax (λc a w h=>gn 29 au c a _ w h) rfl hS ?_ ?_;rotate_left
      ·exact iE
      try go_frame
      refine kR 7 λK hK=>?_
      ·go_simp;have hz:=aR w6 (.cells #[ay,ay] 57);have sj:=hS.size;have bn:=hS.alloc hS.size (.cells #[ay,ay] 57);refine hK.out _ _ bn (λhS=>?_);clear hK K;try go_frame
       generalize w6.alloc (.cells #[ay,ay] 57)=x6 at hS bn hz⊢;clear bn;exact agd
     ·go_simp;have hz:=aR w4 (.cells #[ay,ay] 57);have sj:=hS.size;have bn:=hS.alloc hS.size (.cells #[ay,ay] 57);refine hK.out _ _ bn (λhS=>?_);clear hK K;try go_frame
      generalize w4.alloc (.cells #[ay,ay] 57)=x6 at hS bn hz⊢;clear bn;refine kR 3 λK hK=>?_
      ·go_simp;refine Calls.mono (by exact qX.out (some ⟨b,1,none⟩) (l.length - 1) (l.length - 1) _ (gO.below hS) (by have:=yV.out;omega)) ?_;rintro _ w6 ⟨rfl,bO⟩;go_simp;replace hz:=aJ hz bO;refine hK.out _ _ (hS.trans (bO.mono hS.size)) (λhS=>?_);clear hK K;try go_frame
       clear bO;refine kT 4 (v:=?_) rfl ax (λc a w h=>gn 23 au c a _ w h) rfl hS ?_ ?_;rotate_left
       ·exact iE
       try go_frame
       refine kT 5 (v:=?_) rfl ax (λc a w h=>gn 28 au c a _ w h) rfl hS ?_ ?_;rotate_left
       ·exact iE
       try go_frame
       refine kT 6 (v:=?_) rfl ax (λc a w h=>gn 29 au c a _ w h) rfl hS ?_ ?_;rotate_left
       ·exact iE
       try go_frame
       exact agd
   |some ms=>
    rw[hY]at qX;unfold On at qX;simp only at qX;have e1:(1:Int)<=(l.length:Int):=ae;by_cases px:l.length=1
    ·have lI:=aa px;clear px;refine jr (S:=λW=>Below w3.drew.heap.size w3.drew W) 9 ax (aI _ _) (λhS=>?_);have dM:=aa (tq w3);have fS:=dM.size;replace HY:=aa (aJ HY Y9q);replace gO:=aa (gO.below Y9q);generalize w3.drew=w4 at hS dM fS HY gO⊢;refine kT 0 (v:=?_) rfl ax (λc a w h=>gn 24 au c a _ w h) rfl hS ?_ ?_;rotate_left
     ·exact OA
     try go_frame
     refine kT 1 (v:=?_) rfl ax (λc a w h=>gn 25 au c a _ w h) rfl hS ?_ ?_;rotate_left
     ·exact iE
     try go_frame
     refine kT 2 (v:=?_) rfl ax (λc a w h=>gn 26 au c a _ w h) rfl hS ?_ ?_;rotate_left
     ·intro _ h9;have px:=lI.out;go_simp;try with_reducible rfl
     try go_frame
     refine kR2 3 7 (λK hK=>?_) (λK hK=>?_)
     ·go_simp;refine Calls.mono (by exact qX.out (aw b) 0 0 _ (by rw[sk.out lI.out];exact Rd.nil _ _) (by rw[sk.out lI.out];rfl)) ?_;rintro _ w6 ⟨⟨gm,IT,rfl,bH⟩,bO⟩;go_simp;refine hK.out _ _ (hS.trans (bO.mono hS.size)) (λhS=>?_);clear hK K;try go_frame
      clear bO;refine kT 4 (v:=?_) rfl ax (λc a w h=>gn 23 au c a _ w h) rfl hS ?_ ?_;rotate_left
      ·exact iE
      try go_frame
      refine kT 5 (v:=?_) rfl ax (λc a w h=>gn 28 au c a _ w h) rfl hS ?_ ?_;rotate_left
      ·exact iE
      try go_frame
      refine kT 6 (v:=?_) rfl ax (λc a w h=>gn 29 au c a _ w h) rfl hS ?_ ?_;rotate_left
      ·exact iE
      try go_frame
      refine kR 7 λK hK=>?_
      ·go_simp;have hz:=aR w6 (.cells #[ay,ay] 57);have sj:=hS.size;replace bH:=aJ bH (be w6 (.cells #[ay,ay] 57));have bn:=hS.alloc hS.size (.cells #[ay,ay] 57);refine hK.out _ _ bn (λhS=>?_);clear hK K;try go_frame
       generalize w6.alloc (.cells #[ay,ay] 57)=x6 at hS bn hz bH⊢;clear bn;exact ahN
     ·go_simp;have hz:=aR w4 (.cells #[ay,ay] 57);have sj:=hS.size;have bn:=hS.alloc hS.size (.cells #[ay,ay] 57);refine hK.out _ _ bn (λhS=>?_);clear hK K;try go_frame
      generalize w4.alloc (.cells #[ay,ay] 57)=x6 at hS bn hz⊢;clear bn;refine kR 3 λK hK=>?_
      ·go_simp;refine Calls.mono (by exact qX.out (aw b) 0 0 _ (by rw[sk.out lI.out];exact Rd.nil _ _) (by rw[sk.out lI.out];rfl)) ?_;rintro _ w6 ⟨⟨gm,IT,rfl,bH⟩,bO⟩;go_simp;replace hz:=aJ hz bO;refine hK.out _ _ (hS.trans (bO.mono hS.size)) (λhS=>?_);clear hK K;try go_frame
       clear bO;refine kT 4 (v:=?_) rfl ax (λc a w h=>gn 23 au c a _ w h) rfl hS ?_ ?_;rotate_left
       ·exact iE
       try go_frame
       refine kT 5 (v:=?_) rfl ax (λc a w h=>gn 28 au c a _ w h) rfl hS ?_ ?_;rotate_left
       ·exact iE
       try go_frame
       refine kT 6 (v:=?_) rfl ax (λc a w h=>gn 29 au c a _ w h) rfl hS ?_ ?_;rotate_left
       ·exact iE
       try go_frame
       exact ahN
    ·skip;refine jr (S:=λW=>Below w3.drew.heap.size w3.drew W) 9 ax (aI _ _) (λhS=>?_);have dM:=aa (tq w3);have fS:=dM.size;replace HY:=aa (aJ HY Y9q);replace gO:=aa (gO.below Y9q);generalize w3.drew=w4 at hS dM fS HY gO⊢;refine kT 0 (v:=?_) rfl ax (λc a w h=>gn 24 au c a _ w h) rfl hS ?_ ?_;rotate_left
     ·exact OA
     try go_frame
     refine kT 1 (v:=?_) rfl ax (λc a w h=>gn 25 au c a _ w h) rfl hS ?_ ?_;rotate_left
     ·exact iE
     try go_frame
     refine kT 2 (v:=?_) rfl ax (λc a w h=>gn 26 au c a _ w h) rfl hS ?_ ?_;rotate_left
     ·exact iE
     try go_frame
     refine kR2 3 7 (λK hK=>?_) (λK hK=>?_)
     ·go_simp;refine Calls.mono (by exact qX.out (some ⟨b,1,none⟩) (l.length - 1) (l.length - 1) _ (gO.below hS) (by have:=yV.out;omega)) ?_;rintro _ w6 ⟨⟨gm,IT,rfl,bH⟩,bO⟩;go_simp;refine hK.out _ _ (hS.trans (bO.mono hS.size)) (λhS=>?_);clear hK K;try go_frame
      clear bO;refine kT 4 (v:=?_) rfl ax (λc a w h=>gn 23 au c a _ w h) rfl hS ?_ ?_;rotate_left
      ·exact iE
      try go_frame
      refine kT 5 (v:=?_) rfl ax (λc a w h=>gn 28 au c a _ w h) rfl hS ?_ ?_;rotate_left
      ·exact iE
      try go_frame
      refine kT 6 (v:=?_) rfl ax (λc a w h=>gn 29 au c a _ w h) rfl hS ?_ ?_;rotate_left
      ·exact iE
      try go_frame
      refine kR 7 λK hK=>?_
      ·go_simp;have hz:=aR w6 (.cells #[ay,ay] 57);have sj:=hS.size;replace bH:=aJ bH (be w6 (.cells #[ay,ay] 57));have bn:=hS.alloc hS.size (.cells #[ay,ay] 57);refine hK.out _ _ bn (λhS=>?_);clear hK K;try go_frame
       generalize w6.alloc (.cells #[ay,ay] 57)=x6 at hS bn hz bH⊢;clear bn;exact agf
     ·go_simp;have hz:=aR w4 (.cells #[ay,ay] 57);have sj:=hS.size;have bn:=hS.alloc hS.size (.cells #[ay,ay] 57);refine hK.out _ _ bn (λhS=>?_);clear hK K;try go_frame
      generalize w4.alloc (.cells #[ay,ay] 57)=x6 at hS bn hz⊢;clear bn;refine kR 3 λK hK=>?_
      ·go_simp;refine Calls.mono (by exact qX.out (some ⟨b,1,none⟩) (l.length - 1) (l.length - 1) _ (gO.below hS) (by have:=yV.out;omega)) ?_;rintro _ w6 ⟨⟨gm,IT,rfl,bH⟩,bO⟩;go_simp;replace hz:=aJ hz bO;refine hK.out _ _ (hS.trans (bO.mono hS.size)) (λhS=>?_);clear hK K;try go_frame
       clear bO;refine kT 4 (v:=?_) rfl ax (λc a w h=>gn 23 au c a _ w h) rfl hS ?_ ?_;rotate_left
       ·exact iE
       try go_frame
       refine kT 5 (v:=?_) rfl ax (λc a w h=>gn 28 au c a _ w h) rfl hS ?_ ?_;rotate_left
       ·exact iE
       try go_frame
       refine kT 6 (v:=?_) rfl ax (λc a w h=>gn 29 au c a _ w h) rfl hS ?_ ?_;rotate_left
       ·exact iE
       try go_frame
       exact agf
  case rest=>
   obtain⟨EG,A2,c2,rfl,rfl,hms,hrA,fi,O8,aP⟩:=hcut;rename World=>w4;have nF:=aa (aJ jb aP);have dD:=aX cj aP;have E7:=aa (aJ HY aP);have nP:=aa (aJ j3 aP);have HM:=aa hms;have HA:=aa (And.intro hrA (And.intro fi O8));have AX:=Cw nF.out;clear hms hrA fi O8 aP cj;have x0:=aj nF 0 _ rfl;have f0:=aU nF 0;have z0:=aj (bt nF 0 (.string yv)) 0 _ rfl;have zn:=aj (bt nF 0 (.string yw)) 0 _ rfl;have HE:=aa (λt=>afR HR HL hB (dD.trans (iC (eE w4 w.heap.size 0 (.string t)) (aM _) dD.size)) t);cases hY:oo f more ws with
   |none=>
    rw[hY]at HQ;simp only at HQ;simp only[Option.isSome_none];have fin:=HE.out yv;go_wp2_with fail;exact agA
   |some ms=>
    rw[hY]at HQ;simp only at HQ;simp only[Option.isSome_some];obtain⟨gm,ajH,IT⟩:=HM.out ms hY;have ah8:=aa ajH;have HGm:=aa IT;have Zy:=aa hY;clear hY ajH IT;have b0:w4.cell? ⟨b,0,none⟩=some (.string (wx l 0)):=aj nP 0 _ (by rw[OW,aZ,nA,cL e0,wx,dh,cL e0];rfl);generalize wx l 0=a0 at b0 Xh;obtain⟨p,hp⟩:=(HR.below dD).cell;have r0:=aj hp 0 _ rfl;have Bq:p=none↔R=none:=ayn (HR.below dD) hp;by_cases kf:p=none/\c≠0
    ·obtain⟨rfl,kE⟩:=kf;have hX:X=(none,yw):=(by rw[HQ.out,if_pos ⟨kE,Bq.1 rfl⟩]);have d1:(a0.toList== [110,101,119])=false:=by
      have h:a0≠⟨#[110,101,119]⟩:=λe=>kE (Xh.2 e);rw[<-afS];exact zU h
     have hRn:=Bq.1 rfl;have fin:=HE.out yw;rw[hRn]at fin;clear Bq;go_wp2_with fail;rw[hX];simp only[yw]at zn fin⊢;simp[bodyPostD,Leaves,settle,results,results13,go_sem,zn];exact fin
    ·have Bj:=aa (show (p=none/\(a0.toList== [110,101,119])=true)\/ ∃ad,p=some ad from by
      cases p with
      |some ad=>exact .inr ⟨ad,rfl⟩
      |none=>
       have h0:c=0:=Decidable.byContradiction λe=>kf ⟨rfl,e⟩;exact .inl ⟨rfl,by rw[Xh.1 h0,afS];rfl⟩)
     have hX:X=((sc c R ws ms).1.or R,mI (sc c R ws ms).2):=(by rw[HQ.out,if_neg (λh=>kf ⟨Bq.2 h.2,h.1⟩)]);have C6:c≠0->R≠none:=λh e=>kf ⟨Bq.2 e,h⟩;have YF:=aa hX;have rB:=aa (ayo (c:=c) (ws:=ws) (ms:=ms) hG);have hAt: ∀b' o,A2=some ⟨b',o,none⟩-> ∃cs fz,w4.heap[b']?=some (.cells cs 9 fz):=λb' o e=>by
      have h:=HA.2.2 b' o e;subst h;exact⟨_,_,nP⟩
     have HC:=aa (aya B rb R c f more ws ms A2 ws.length c2 gm w4 (HR.below dD) aK (HL.below dD) (bD hB dD.size) hG Zy HCf C6 HA.1 rfl HA.2.1 hAt HGm (HWz) (by have h1:=Vy.out;have h2:=yV.out;omega));have hen:=ayp HCf.out;have y1:=aj E7 1 _ rfl;have t0:=aj ah8 0 _ rfl;have t1:=aj ah8 1 _ rfl;have hmf: ∀(fn:Fn) (first ai:bx) (w:World),(Instr.makeFunc fn first ai).run prog w= .ok (.func fn first ai) w:=λ_ _ _ _=>rfl;have Wx:=aa (qa.below HR.no dD);have G8:=aa (wA (rb:=rb) hB dD);clear hX Bq kf C6 hAt;go_upto_region 8 with fail
     go_cut [42] from 43 (λs42 wx=>s42= .bool false/\wx=w4);case first=>
      rcases Bj with⟨rfl,d1⟩|⟨ad,rfl⟩
      ·go_wp2;go_meet;case rel=>exact⟨rfl,rfl⟩
      ·go_wp2;go_meet;case rel=>exact⟨rfl,rfl⟩
     case rest=>
      obtain⟨rfl,rfl⟩:=hcut;clear r0 b0;go_wp2_with fail;refine (HC).mono ?_;rintro e w5 ⟨rfl,EL,CO,hF5⟩;have Ff:=(hF5.u8 _ _ _ _ nF (.inr rfl)).trans nF.out;have P':=G8.trans hF5;have Xc:=hF5.bl _ AX Wx.out;have OZ:=rB.1;generalize sc c R ws ms=r at EL OZ rB YF⊢;obtain⟨r1,r2⟩:=r;cases r2 with
      |ok t=>
       have x5:=aj Ff 0 _ rfl;have f5:=aU Ff 0;have H5:=aa (afQ EL OZ CO P' Ff Xc hB aK t);have Z5:=aa (aj (bt Ff 0 (.string t)) 0 _ rfl);clear EL CO hF5 P' Xc Ff OZ;simp only[NS];go_wp2_with fail;refine leaves_cons (f:=35) (args:= #[.pointer (some ⟨w.heap.size,0,none⟩)]) ak (by simp[go_sem]) ?_;refine (aye ⟨w.heap.size,0,none⟩ _).mono ?_;rintro e u' tQ ⟨rfl,rfl,rfl⟩;have z5:=Z5.out;have fin:Eu B rb w (r1.or R,mI (.ok t)) (.returned (.string t)) _:=⟨rfl,H5⟩
       simp[Leaves,settle,results,results13,go_sem,z5];rw[YF.out];exact fin
      |er x=>
       have hx:=rB.2;simp only[NS,ma];go_wp2_with fail;refine leaves_cons (f:=35) (args:= #[.pointer (some ⟨w.heap.size,0,none⟩)]) ak (by simp[go_sem]) ?_;refine (ayd w.heap.size x w5 _ Ff CO.lv.pow hx.1 hx.2).mono ?_;rintro e u' tQ ⟨rfl,rfl,w1,aG,rfl⟩;have pF:=aJ Ff aG;have z5:=aj (bt pF 0 (.string (GF++fc x))) 0 _ rfl;have fin:Eu B rb w (r1.or R,mI (.er x)) (.returned (.string (GF++fc x))) (w1.setCell ⟨w.heap.size,0,none⟩ (.string (GF++fc x))):=⟨rfl,afQ (EL.below aG) OZ (CO.below aG) (P'.trans (wA (bD hB P'.size) aG)) pF (qa.below Xc aG) hB aK (GF++fc x)⟩
       simp[Leaves,settle,results,results13,go_sem,z5];rw[YF.out];exact fin
end
section
open Go.Shelf
variable {A:aN} {B b g:Nat} {Q:Exit->Act->World->Prop} {W W' w w':World} {a:Act} {bk:Array Oper} {cs:bx} {fr:Nat×Nat} {m:aF} {o:Oper} {rest:List Oper} {t:TypeId} {v':Value}
def oz:Value->Bool
 | .int .u8 _=>true
 |_=>false
def GV:Value->Bool
 | .string _=>true
 | .int .i64 _=>true
 |_=>false
theorem ayr {v:Value} (h:oz v=true):GV v=false:=by
 unfold oz at h;split at h
 ·rfl
 ·cases h
theorem GW (h:w.heap[g]?=some (.cells cs t fr)) (hs: ∀u∈cs,oz u=true) (j:Nat) (u:Value) (hu:w.cell? ⟨g,j,none⟩=some u):oz u=true:=by
 exact ahd
theorem UW (h:w.heap[g]?=some (.cells cs t fr)) (hs: ∀j u,w.cell? ⟨g,j,none⟩=some u->oz u=true): ∀u∈cs,oz u=true:=λu hu=>by
 obtain⟨j,hj,rfl⟩:=Array.mem_iff_getElem.1 hu;exact hs j _ (by rw[cell_of_row w g j cs _ _ h,Array.getElem?_eq_getElem hj])
theorem Os (k:Nat): ∀u∈Builtin.zeroCells (Value.int .u8 0).cells k,oz u=true:=by
 intro u hu;unfold Builtin.zeroCells at hu;obtain⟨i,_,rfl⟩:=Array.mem_map.1 hu;simp[Value.cells,Nat.mod_one,oz]
theorem Ev (l:aF): ∀u∈Lib.byteCells l,oz u=true:=λu hu=>by
 exact G5
def GX (w:World) (B:Nat) (v:Value) (l m:aF) (v':Value) (w':World):Prop:=
 w'.ownsRow B 5 1 v' (l.length+m.length) (Lib.byteCells l++Lib.byteCells m)/\w.grownBy w' v.ownBlock/\(v'.ownBlock=none\/v'.ownBlock=v.ownBlock\/v'.ownBlock=some w.heap.size)/\ ∀g,v'.ownBlock=some g-> ∀j u,w'.cell? ⟨g,j,none⟩=some u->oz u=true
theorem ays {v:Value} {l:aF} (ty:TypeId) (s:ag) (ho:w.ownsRow B 5 1 v l.length (Lib.byteCells l)) (hU: ∀g,v.ownBlock=some g-> ∀j u,w.cell? ⟨g,j,none⟩=some u->oz u=true) (hl:l.length+s.size<=1000000000) (hB:B<=w.heap.size):
  ∃v' w',(Builtin.append_ #[34,9] ty #[v,.string s]).run prog w= .ok v' w'/\GX w B v l s.data.toList v' w':=by
 obtain⟨i,hi,nE,oM,mP⟩:=info_parts Jc;have zL:(Lib.byteCells l).length=l.length:=Lib.byteCells_length l;obtain⟨v',w',hr,h2,h3,h4⟩:=Lib.run_append_own_string (P:=prog) w B 34 9 ty 5 i underlying34 underlying9 hi nE oM mP v l.length (Lib.byteCells l) ho s (by unfold maxLen;omega) ae hB;refine⟨v',w',hr,by rw[bP];exact h2,h3,?_⟩;rcases ho.2 with⟨hv,qv⟩|⟨g,ai,bK,hv,ZN,hg,mM,Qd,si,ajl⟩
 ·subst hv;by_cases hm:s.size=0
  ·have e:=h4.2 ⟨rfl,hm⟩;subst e;exact⟨.inl rfl,λg h=>by cases h⟩
  ·have ed:=run_append_nil_string (P:=prog) w 34 9 ty 5 i (.int .u8 0) underlying34 underlying9 hi nE s ae ae (by rw[mP];omega);rw[qv,hr] at*;injection ed with e1 e2
   subst e1 e2;refine⟨.inr (.inr rfl),λg h=>?_⟩;obtain rfl:=bW h;refine GW (aR w.drew _) (λu hu=>?_);rcases Array.mem_append.1 hu with hu|hu
   ·obtain⟨p,_,rfl⟩:=Array.mem_map.1 hu;rfl
   ·exact Os _ u hu
 ·subst hv;have Mj:=UW hg (hU g rfl);by_cases G7:l.length+s.size<=ai
  ·have ed:=Lib.run_append_room_string (P:=prog) w 34 9 ty 5 i underlying34 underlying9 hi oM g l.length ai bK hg s G7 ae;rw[hr]at ed;injection ed with e1 e2
   subst e1 e2;refine⟨.inr (.inl rfl),λg' h=>?_⟩;obtain rfl:=bW h;refine GW (setRow_heap w g bK _ _ _ hg) (λu hu=>?_);rw[List.mem_toArray,List.mem_append,List.mem_append]at hu;rcases hu with (hu|hu)|hu
   ·exact Mj u (by simpa using List.mem_of_mem_take hu)
   ·exact Ev s.data.toList u hu
   ·exact Mj u (by simpa using List.mem_of_mem_drop hu)
  ·have ed:=Lib.run_append_grow_string (P:=prog) w 34 9 ty 5 i (.int .u8 0) underlying34 underlying9 hi nE ⟨g,0,none⟩ l.length ai (Lib.byteCells l) (by rw[oM,zL,Nat.mul_one]) (ho.cells (g:=g) rfl) s ae ae (by rw[mP];exact growslice_fits ae ae);rw[hr]at ed;injection ed with e1 e2
   subst e1 e2;refine⟨.inr (.inr rfl),λg' h=>?_⟩;obtain rfl:=bW h;refine GW (aR w.drew _) (λu hu=>?_);rcases Array.mem_append.1 hu with hu|hu
   ·rcases Array.mem_append.1 hu with hu|hu
    ·exact Ev l u (by simpa using hu)
    ·exact Ev s.data.toList u (by simpa[Lib.strCells_eq] using hu)
   ·exact Os _ u hu
theorem ayt {v:Value} {l:aF} (ty:TypeId) (c:UInt8) (g0:Nat) (AT:w.cell? ⟨g0,0,none⟩=some (.int .u8 (c.toNat:Int))) (ho:w.ownsRow B 5 1 v l.length (Lib.byteCells l)) (hU: ∀g,v.ownBlock=some g-> ∀j u,w.cell? ⟨g,j,none⟩=some u->oz u=true) (hl:l.length+1<=1000000000) (hB:B<=w.heap.size):
  ∃v' w',(Builtin.append_ #[34,34] ty #[v,.slice (aw g0) 1 1]).run prog w= .ok v' w'/\GX w B v l [c] v' w':=by
 obtain⟨i,hi,nE,oM,mP⟩:=info_parts Jc;have zL:(Lib.byteCells l).length=l.length:=Lib.byteCells_length l;have wY: ∀j u,(Lib.byteCells [c])[j]?=some u->w.cell? ((⟨g0,0,none⟩:Addr).add j)=some u:=by
  intro j u hj;match j,hj with
  |0,hj=>
   have e:Value.int .u8 (c.toNat:Int)=u:=bW hj;subst e;exact AT
 have h1: ∀u∈Lib.byteCells [c],u.oneCell'=true:=λu hu=>by
  exact G5
 have pz:(Lib.byteCells [c]).length=1*i.size:=by rw[oM];rfl
 obtain⟨v',w',hr,h2,h3,h4,h5⟩:=run_append_own_at (P:=prog) w B 34 ty 5 i (.int .u8 0) 1 1 underlying34 hi nE oM mP rfl ae v l.length (Lib.byteCells l) ho ⟨g0,0,none⟩ 1 1 (Lib.byteCells [c]) rfl wY h1 (by unfold maxLen;omega) ae hB;refine⟨v',w',hr,h2,h3,.inr h5,?_⟩;rcases ho.2 with⟨hv,qv⟩|⟨g,ai,bK,hv,ZN,hg,mM,Qd,si,ajl⟩
 ·subst hv;have ed:=run_append_nil (P:=prog) w 34 ty 5 i (.int .u8 0) underlying34 hi nE ⟨g0,0,none⟩ 1 1 (Lib.byteCells [c]) pz wY ae ae (by rw[mP];omega);rw[qv,hr] at*;injection ed with e1 e2
  subst e1 e2;intro g h;obtain rfl:=bW h;refine GW (aR w.drew _) (λu hu=>?_);rcases Array.mem_append.1 hu with hu|hu
  ·exact Ev [c] u (by simpa using hu)
  ·exact Os _ u hu
 ·subst hv;have Mj:=UW hg (hU g rfl);by_cases G7:l.length+1<=ai
  ·have lP:l.length*i.size+(Lib.byteCells [c]).length<=bK.size:=by
    rw[pz,oM,si];omega
   have ed:=run_append_room (P:=prog) w 34 ty 5 i underlying34 hi g l.length ai bK hg ⟨g0,0,none⟩ 1 1 (Lib.byteCells [c]) pz wY h1 G7 lP;rw[hr]at ed;injection ed with e1 e2
   subst e1 e2;intro g' h;obtain rfl:=bW h;refine GW (setRow_heap w g bK _ _ _ hg) (λu hu=>?_);rw[List.mem_toArray,List.mem_append,List.mem_append]at hu;rcases hu with (hu|hu)|hu
   ·exact Mj u (by simpa using List.mem_of_mem_take hu)
   ·exact Ev [c] u hu
   ·exact Mj u (by simpa using List.mem_of_mem_drop hu)
  ·have ed:=run_append_grow (P:=prog) w 34 ty 5 i (.int .u8 0) underlying34 hi nE ⟨g,0,none⟩ l.length ai (Lib.byteCells l) (by rw[oM,zL,Nat.mul_one]) (ho.cells (g:=g) rfl) ⟨g0,0,none⟩ 1 1 (Lib.byteCells [c]) pz wY ae ae (by rw[mP];exact growslice_fits ae ae);rw[hr]at ed;injection ed with e1 e2
   subst e1 e2;intro g' h;obtain rfl:=bW h;refine GW (aR w.drew _) (λu hu=>?_);rcases Array.mem_append.1 hu with hu|hu
   ·rcases Array.mem_append.1 hu with hu|hu
    ·exact Ev l u (by simpa using hu)
    ·exact Ev [c] u (by simpa using hu)
   ·exact Os _ u hu
theorem af0 {P:Prop} (h:P:=by
 unfold Oper.wp execOp;simp only[ho,resolve,invoke,builtin,Sem.run_bind,Sem.run_pure,Result.andThen_ok,List.map_toArray,List.map_cons,List.map_nil,hs,hx,hr];exact hK _ _ (k v' w' h2)):P:=h
theorem ayu (lM:o.guard=none) (s x:Operand) (ho:o.op= .call {callee:= .builtin .append,args:= #[s,x],argTypes:= #[34,9]}) {v:Value} {l:aF} (t:ag) (hs:a.eval s=v) (hx:a.eval x= .string t) (h:w.ownsRow B 5 1 v l.length (Lib.byteCells l)) (hU: ∀g,v.ownBlock=some g-> ∀j u,w.cell? ⟨g,j,none⟩=some u->oz u=true) (hl:l.length+t.size<=1000000000) (hB:B<=w.heap.size) (k: ∀v' w',GX w B v l t.data.toList v' w'->wpList prog bk Q rest (a.put o.dst v') w'):wpList prog bk Q (o::rest) a w:=by
 refine wpList_plain lM λK hK=>?_;obtain⟨v',w',hr,h2⟩:=ays o.type t h hU hl hB;exact af0
theorem ayv (lM:o.guard=none) (s x:Operand) (ho:o.op= .call {callee:= .builtin .append,args:= #[s,x],argTypes:= #[34,34]}) {v:Value} {l:aF} (c:UInt8) (g0:Nat) (hs:a.eval s=v) (hx:a.eval x= .slice (aw g0) 1 1) (AT:w.cell? ⟨g0,0,none⟩=some (.int .u8 (c.toNat:Int))) (h:w.ownsRow B 5 1 v l.length (Lib.byteCells l)) (hU: ∀g,v.ownBlock=some g-> ∀j u,w.cell? ⟨g,j,none⟩=some u->oz u=true) (hl:l.length+1<=1000000000) (hB:B<=w.heap.size) (k: ∀v' w',GX w B v l [c] v' w'->wpList prog bk Q rest (a.put o.dst v') w'):wpList prog bk Q (o::rest) a w:=by
 refine wpList_plain lM λK hK=>?_;obtain⟨v',w',hr,h2⟩:=ayt o.type c g0 AT h hU hl hB;exact af0
def BI (w:World) (B b:Nat) (l:aF):Prop:=
 B<=b/\ ∃p v,bj w b #[.pointer p,v] 36/\(p=none\/p=some ⟨b,0,none⟩)/\w.ownsRow B 5 1 v l.length (Lib.byteCells l)/\v.ownBlock≠some b/\(∃A n c,v= .slice A n c)/\ ∀g,v.ownBlock=some g-> ∀j u,w.cell? ⟨g,j,none⟩=some u->oz u=true
theorem BI.bld {l:aF} (h:BI w B b l):gC w B b l:=by
 obtain⟨hB,p,v,hb,hp,ho,aO,_⟩:=h;have ER:w.ownsRowF B 5 1 v (Lib.byteCells l).length (Lib.byteCells l):=by rw[Lib.byteCells_length];exact World.ownsRowF_of ho
 rcases hp with rfl|rfl
 ·exact .inl ⟨hB,v,hb,ER,aO⟩
 ·exact .inr ⟨hB,v,hb,ER,aO⟩
theorem BI.new (hB:B<=w.heap.size):BI (w.alloc (.cells #[.pointer none,ay] 36)) B w.heap.size []:=
 ⟨hB,none,ay,aR w _,.inl rfl,⟨rfl,.inl ⟨rfl,rfl⟩⟩,(by simp[Value.ownBlock]),⟨_,_,_,rfl⟩,λg h=>by cases h⟩
theorem BI.kept {l:aF} (h:BI w B b l) (hb:w'.heap[b]?=w.heap[b]?) (hr: ∀(g:Nat) (cs:bx) (fz:Nat×Nat),w.heap[g]?=some (.cells cs 5 fz)->w'.heap[g]?=w.heap[g]?):BI w' B b l:=by
 obtain⟨hB,p,v,ky,hp,⟨hl,ho⟩,aO,hs,hu⟩:=h;refine⟨hB,p,v,hb.trans ky,hp,⟨hl,?_⟩,aO,hs,λg hg j u hj=>?_⟩
 ·rcases ho with h|⟨g,ai,bK,hv,hg,hh,r⟩
  ·exact .inl h
  ·exact .inr ⟨g,ai,bK,hv,hg,(hr g bK _ hh).trans hh,r⟩
 ·rcases ho with⟨h,_⟩|⟨g',ai,bK,hv,_,hh,r⟩
  ·rw[h]at hg;cases hg
  ·rw[hv]at hg;obtain rfl:=bW hg;exact hu g' (by rw[hv];rfl) j u ((fB (hr g' bK _ hh)).symm.trans hj)
def js (B:Nat) (w w':World):Prop:=Below B w w'/\ ∀(k:Nat) (o:Obj),w.heap[k]?=some o->w'.heap[k]?=some o\/ ∃cs T fz,o=Obj.cells cs T fz/\(T=5\/T=36)/\ ∀v∈cs,GV v=false
theorem js.refl (B:Nat) (w:World):js B w w:=⟨aI B w,λk o h=> .inl h⟩
theorem js.trans {a b c:World} (h:js B a b) (k:js B b c):js B a c:=⟨h.1.trans k.1,λi o hi=>(h.2 i o hi).elim (λh1=>k.2 i o h1) .inr⟩
theorem js.set {j:Nat} {p:aN} {v u:Value} (hB:B<=b) (hb:bj w b #[.pointer p,v] 36) (hv: ∃A n c,v= .slice A n c):js B w (w.setCell ⟨b,j,none⟩ u):=by
 refine⟨(aI B w).setCell (p:=⟨b,j,none⟩) hB u,λk o hk=>?_⟩;by_cases e:k=b
 ·subst e;obtain⟨A,n,c,rfl⟩:=hv;rw[hb]at hk;refine .inr ⟨_,_,_,(bW hk).symm,.inr rfl,λv hv=>?_⟩;simp at hv;rcases hv with rfl|rfl<;>rfl
 ·exact .inl ((bz w ⟨b,j,none⟩ u k e).trans hk)
theorem ahV {v:Value} {l:aF} (ho:w.ownsRow B 5 1 v l.length (Lib.byteCells l)) (hU: ∀g,v.ownBlock=some g-> ∀j u,w.cell? ⟨g,j,none⟩=some u->oz u=true) (h:GX w B v l m v' w') (hB:B<=w.heap.size):js B w w':=by
 obtain⟨_,hg,_,_⟩:=h;refine⟨⟨hg.os,hg.tape,hg.output,hg.size,λk hk=>hg.block k ae (λe=>by have:=(ho.lt k e.symm).1;omega)⟩,λk o hk=>?_⟩;have aK:=Cw hk;by_cases e:v.ownBlock=some k
 ·rcases ho.2 with⟨hv,_⟩|⟨g,ai,bK,hv,_,hh,_⟩
  ·rw[hv]at e;cases e
  ·rw[hv]at e;obtain rfl:=bW e;rw[hh]at hk;exact .inr ⟨_,_,_,(bW hk).symm,.inl rfl,λu hu=>ayr (UW hh (hU g (by rw[hv];rfl)) u hu)⟩
 ·exact .inl ((hg.block k aK (λe2=>e e2.symm)).trans hk)
theorem afT (B b:Nat) (l:aF) (w:World) (h:BI w B b l):
  Calls prog 33 #[.pointer (aw b)] w λe w'=>e= .returned (.tuple #[])/\(∃v,bj w' b #[.pointer (aw b),v] 36/\w'.ownsRow B 5 1 v l.length (Lib.byteCells l)/\v.ownBlock≠some b/\(∃A n c,v= .slice A n c)/\ ∀g,v.ownBlock=some g-> ∀j u,w'.cell? ⟨g,j,none⟩=some u->oz u=true)/\js B w w':=by
 obtain⟨hB,p,v,hb,hp,ho,aO,hs,hu⟩:=h;rcases hp with rfl|rfl
 ·refine (Any.Builder_copyCheck_fresh {M3 with} sR.toX72 b w (aj hb 0 _ rfl) (by simp[World.shape?,hb];rfl) (aU hb 0)).mono ?_;rintro e w' ⟨rfl,rfl⟩;have hg:=eE w b 0 (.pointer (aw b));refine⟨rfl,⟨v,bt hb 0 _,ho.kept hg (.inr aO),aO,hs,λg kF j u hj=>hu g kF j u ?_⟩,js.set hB hb hs⟩;exact (fB (bz w ⟨b,0,none⟩ _ g (λe=>aO (by rw[kF,e])))).symm.trans hj
 ·refine (Any.Builder_copyCheck_used {M3 with} sR.toX72 b w (aj hb 0 _ rfl)).mono ?_;rintro e w' ⟨rfl,rfl⟩;exact⟨rfl,⟨v,hb,ho,aO,hs,hu⟩,js.refl _ _⟩
theorem afU {w1 w2:World} {v:Value} {l:aF} (hB:B<=b) (hb:bj w1 b #[.pointer (aw b),v] 36) (aO:v.ownBlock≠some b) (hs: ∃A n c,v= .slice A n c) (h:GX w1 B v l m v' w2):
  bj w2 b #[.pointer (aw b),v] 36/\BI (w2.setCell ⟨b,1,none⟩ v') B b (l++m)/\js B w2 (w2.setCell ⟨b,1,none⟩ v')/\ ∃A n c,v'= .slice A n c:=by
 obtain⟨ho,hg,hx,hu⟩:=h;have aK:=Cw hb;have av:=(hg.block b aK (λe=>aO e.symm)).trans hb;have ZD:v'.ownBlock≠some b:=λe=>by
  rcases hx with h|h|h
  ·rw[h]at e;cases e
  ·exact aO (h.symm.trans e)
  ·have:=bW (h.symm.trans e);omega
 have gg:=eE w2 b 1 v';have tr: ∃A n c,v'= .slice A n c:=by rcases ho.2 with⟨hv,_⟩|⟨g,ai,bK,hv,_⟩<;>exact⟨_,_,_,hv⟩
 refine⟨av,⟨hB,some ⟨b,0,none⟩,v',bt av 1 _,.inr rfl,by rw[dx,Lib.byteCells_append];exact ho.kept gg (.inr ZD),ZD,tr,λg kF j u hj=>hu g kF j u ?_⟩,js.set hB av hs,tr⟩;exact (fB (bz w2 ⟨b,1,none⟩ _ g (λe=>ZD (by rw[kF,e])))).symm.trans hj
theorem ayw (B b:Nat) (l:aF) (s:ag) (w:World) (h:BI w B b l) (hl:l.length+s.size<=1000000000) (fK:B<=w.heap.size):
  Calls prog 12 #[.pointer (aw b),.string s] w λe w'=>e= .returned (.tuple #[.int .i64 s.size,.nilIface])/\BI w' B b (l++s.data.toList)/\js B w w':=by
 have hB:=h.1;have HC:=aa (afT B b l w h);go_in;go_wp2_with fail;refine (HC).mono ?_;rintro e w1 ⟨rfl,⟨v,hb,ho,aO,hs,hu⟩,ht⟩;have c1:=aj hb 1 _ rfl;go_wp2_with (at_builtin;refine ayu ah (.tmp 12) (.tmp 13) ah (v:=v) s ah ah ho hu hl (bD fK ht.1.size) ?_);intro v' w2 ha;obtain⟨av,yX,Db,A3,n3,c3,rfl⟩:=afU hB hb aO hs ha;have c2:=aj av 1 _ rfl;have f2:=aU av 1;have la:=ht.trans ((ahV ho hu ha (bD fK ht.1.size)).trans Db);go_wp2;go_ret2;exact⟨rfl,yX,la⟩
theorem ayx (B b:Nat) (l:aF) (c:UInt8) (w:World) (h:BI w B b l) (hl:l.length+1<=1000000000) (fK:B<=w.heap.size):
  Calls prog 14 #[.pointer (aw b),.int .u8 (c.toNat:Int)] w λe w'=>e= .returned .nilIface/\BI w' B b (l++ [c])/\js B w w':=by
 have hB:=h.1;have HC:=aa (afT B b l w h);go_in;go_wp2_with fail;refine (HC).mono ?_;rintro e w1 ⟨rfl,⟨v,hb,ho,aO,hs,hu⟩,ht⟩;have c1:=aj hb 1 _ rfl;have V7:js B w1 (w1.alloc (.cells #[.int .u8 (c.toNat:Int)] 5)):=⟨(aI B w1).alloc (bD fK ht.1.size) _,λk o hk=> .inl ((Below.heap_alloc w1 _ k (Cw hk)).trans hk)⟩
 have aG:=(Below.heap_alloc w1 (.cells #[.int .u8 (c.toNat:Int)] 5) b (Cw hb)).trans hb;have hx:=aR w1 (.cells #[.int .u8 (c.toNat:Int)] 5);have fQ:=ho.alloc (.cells #[.int .u8 (c.toNat:Int)] 5);have hu1: ∀g,v.ownBlock=some g-> ∀j u,(w1.alloc (.cells #[.int .u8 (c.toNat:Int)] 5)).cell? ⟨g,j,none⟩=some u->oz u=true:=λg hg j u hj=>hu g hg j u ((fB (Below.heap_alloc w1 _ g (ho.lt g hg).2)).symm.trans hj);have la:=ht.trans V7;go_wp2_with (at_builtin;refine ayv ah (.tmp 11) (.tmp 13) ah c w1.heap.size ah ah (aj hx 0 _ rfl) fQ hu1 hl (bD fK la.1.size) ?_);intro v' w2 ha;obtain⟨av,yX,Db,A3,n3,c3,rfl⟩:=afU hB aG aO hs ha;have c2:=aj av 1 _ rfl;have f2:=aU av 1;have ht3:=la.trans ((ahV fQ hu1 ha (bD fK la.1.size)).trans Db);go_wp2;go_ret;exact⟨rfl,yX,ht3⟩
theorem ayy (B b:Nat) (l:aF) (w:World) (h:BI w B b l) (hl:l.length+1<=1000000000) (fK:B<=w.heap.size):
 Calls prog 14 #[.pointer (aw b),.int .u8 10] w λe w'=>e= .returned .nilIface/\BI w' B b (l++ [10])/\js B w w':=ayx B b l 10 w h hl fK
theorem KE (h:js B W W') {xs:bJ} (hr:Rd W A xs) (hx: ∀v∈xs,GV v=true):Rd W' A xs:=by
 intro j u hu;obtain⟨b,o,hA,hc⟩:=hr j u hu;refine⟨b,o,hA,?_⟩;cases hh:W.heap[b]? with
 |none=>have:=cU hc;rw[Array.getElem?_eq_getElem this]at hh;cases hh
 |some ob=>
  rcases h.2 b ob hh with h1|⟨cs,T,fz,rfl,_,hd⟩
  ·exact (fB (h1.trans hh.symm)).trans hc
  ·rw[cell_of_row W b (o+j) cs T fz hh]at hc;have h1:=hd u (Array.mem_of_getElem? hc);exact OE
theorem UX (l:List ag): ∀v∈aZ l,GV v=true:=λv hv=>by
 exact OU
theorem ayz (l:List Int): ∀v∈ints l,GV v=true:=λv hv=>by
 exact OU
theorem ayA (l:List l8): ∀v∈jn l,GV v=true:=λv hv=>by
 unfold jn at hv;obtain⟨p,_,h⟩:=List.mem_flatMap.1 hv;simp only[JV,List.mem_cons,List.not_mem_nil,or_false]at h;rcases h with rfl|rfl<;>rfl
theorem GY (h:js B W W') {T:TypeId} {fz:Nat×Nat} (hb:W.heap[b]?=some (.cells cs T fz)) (h1:T≠5) (h2:T≠36):W'.heap[b]?=some (.cells cs T fz):=by
 rcases h.2 b _ hb with h3|⟨AZ,T',fz',e,h4,_⟩
 ·exact h3
 ·injection e with _ e _
  subst e;exact (h4.elim h1 h2).elim
theorem afV (h:js B W W') (hT:Ty W A t) (h1:t≠5) (h2:t≠36):Ty W' A t:=λb o e=>by
 obtain⟨cs,hc⟩:=hT b o e;exact⟨cs,GY h hc h1 h2⟩
theorem UY (h:js B W W') {D:aN} {n m:Nat} {P:az} (hp:PB W A n D m P):PB W' A n D m P:=
 ⟨hp.hn,hp.hm,KE h hp.rs (UX _),KE h hp.rc (ayA _),afV h hp.ta au au,afV h hp.tb au au⟩
theorem ayB {B0 rb:Nat} {R:Option aW} (h:js B0 W W') (hR:iT W B rb R):iT W' B rb R:=by
 cases R with
 |none=>exact GY h hR au au
 |some S=>
  obtain⟨wb,y,hr,C8,hk,hd⟩:=hR;obtain⟨q1,q2,q3,q4,q5,q6,q7,q8,q9⟩:=hd;have ot: ∀ {z:Sl} {l:List ag} {n:Nat},eF W wb z (aZ l) n->eF W' wb z (aZ l) n:=λho=>⟨KE h ho.1 (UX _),ho.2⟩
  refine⟨wb,y,GY h hr au au,C8,GY h hk au au,⟨ot q1,⟨q2.hn,⟨q2.os.1,?_⟩,λb aS e j u hu=>q2.sl b aS e j u ?_,λx hx=>UY h (q2.ok x hx)⟩,q3,ot q4,ot q5,UY h q6,ot q7,UY h q8,⟨KE h q9.1 (ayz _),q9.2⟩⟩⟩
  ·rcases q2.os.2 with h1|⟨g,ai,bK,hv,hg,hh,r⟩
   ·exact .inl h1
   ·exact .inr ⟨g,ai,bK,hv,hg,GY h hh au au,r⟩
  ·rcases q2.os.2 with⟨hv,_⟩|⟨g,ai,bK,hv,hg,hh,r⟩
   ·injection hv with hv
    rw[e]at hv;cases hv
   ·injection hv with hv
    rw[e]at hv;injection hv with hv
    injection hv with hv
    subst hv;exact (fB ((GY h hh au au).trans hh.symm)).symm.trans hu
end
variable {B:Nat}
structure RJ (B rb tb:Nat) (A:aN) (l:List ag) (w0:World) (k:Nat) (R:Option aW) (oI:ag) (wr:World):Prop where
 rm:iT wr B rb R
 ld:Ld rb wr
 gd: ∀S,R=some S->Gd S
 bi:BI wr (rb+1) (rb+1) oI.data.toList
 tb:wr.heap[tb]?=some (.map (ww rY 0).toArray 14)
 rd:Rd wr A (aZ l)
 sz:B<=wr.heap.size
 low:aD w0 wr
 ok:fA R (l.drop k) oI=fA none l ⟨#[]⟩
 len:oI.size<=k*40001
theorem Ld.oth {B0:Nat} {w w':World} (h:Ld B w) (ho:Below B0 w w') (hB:B<=B0):Ld B w':=by
 obtain⟨w0,h1,h2,h3,h4⟩:=h;exact⟨w0,h1,h2,bD h3 ho.size,h4.trans (ho.mono (bD h2 hB))⟩
theorem RJ.step {rb tb:Nat} {A:aN} {l:List ag} {w0 wr w1 w3:World} {k:Nat} {R:Option aW} {oI:ag} (h:RJ B rb tb A l w0 k R oI wr) (hk:k<l.length) (Ii:w0.heap.size=rb) (hB:rb+1<B) (Fw:tb<B) (aO:tb≠rb) (hA: ∀b o,A=some ⟨b,o,none⟩->b<B/\b≠rb) (hR:iT w1 B rb (fw R l[k]).1) (hL:Ld rb w1) (hf:Fq B rb wr w1) (ho:js (rb+1) w1 w3) (hb:BI w3 (rb+1) (rb+1) (oI.data.toList++(fw R l[k]).2.data.toList++ [10])):
  RJ B rb tb A l w0 (k+1) (fw R l[k]).1 (oI++(fw R l[k]).2++ny) w3:=by
 have hg:=afu h.gd l[k];have A0:aD w0 w1:=⟨hf.os.trans h.low.os,hf.tape.trans h.low.tape,hf.output.trans h.low.output,bD h.low.size hf.size,λi hi=>(hf.low i ae ae).trans (h.low.block i hi)⟩
 refine⟨ayB ho hR,hL.oth ho.1 ae,hg.1,?_,?_,?_,bD (bD h.sz hf.size) ho.1.size,A0.trans (ho.1.mono ae),?_,?_⟩
 ·have e:(oI++(fw R l[k]).2++ny).data.toList=oI.data.toList++(fw R l[k]).2.data.toList++ [10]:=by
   rw[ByteArray.data_append,ByteArray.data_append,Array.toList_append,Array.toList_append];rfl
  rw[e];exact hb
 ·rcases ho.2 tb _ ((hf.low tb Fw aO).trans h.tb) with h1|⟨cs,T,fz,e,_⟩
  ·exact h1
  ·cases e
 ·refine KE ho ?_ (UX _);intro j u hu;obtain⟨b,o,e,hc⟩:=h.rd j u hu;exact⟨b,o,e,(fB (hf.low b (hA b o e).1 (hA b o e).2)).trans hc⟩
 ·rw[<-h.ok,List.drop_eq_getElem_cons hk,fA]
 ·rw[ByteArray.size_append,ByteArray.size_append,show ny.size=1 from rfl];have h1:=h.len;have h2:=hg.2;rw[Nat.add_mul];omega
theorem ayC (s:ag):(jp s).length<=s.size+1/\ ∀x∈jp s,x.size<=s.size:=by
 unfold jp;split
 ·exact⟨Nat.zero_le _,λx hx=>by cases hx⟩
 ·have ht:(Lib.trimSuffix s.data.toList [10]).length<=s.size:=by
   rw[<-bP];unfold Lib.trimSuffix;split
   ·rw[List.length_take];omega
   ·exact aM _
  have hq:dP (Eb s ny) ny=(iD 10 (Lib.trimSuffix s.data.toList [10])).map bs:=Cp (Eb s ny) 10;rw[hq];obtain⟨h1,h2⟩:=Oo 10 (Lib.trimSuffix s.data.toList [10]);refine⟨by rw[kQ];omega,λx hx=>?_⟩;obtain⟨y,hy,rfl⟩:=List.mem_map.1 hx;rw[ei];exact bD (h2 y hy) ht
theorem KF (s:ag) (w:World) (hLv:Lv w):
  Calls prog 8 #[.string s] w (bF w (.tuple #[.string (mf s).1,.int .i64 (mf s).2])):=by
 by_cases hs:6000<s.size
 ·have hq:mf s=(⟨#[]⟩,2):=by unfold mf;rw[if_pos hs]
  rw[hq];have d1:(6000:Int)<(s.size:Int):=ae;go_in;exact Ew
 ·have hq:mf s=(jU s,0):=by unfold mf;rw[if_neg hs]
  rw[hq];have HT:=aa (show jU s=fA none (jp s) ⟨#[]⟩ from rfl);generalize jU s=X at HT⊢;obtain⟨u,hu⟩: ∃u,u=(w.alloc (.cells #[.pointer none] 32)).alloc (.cells #[.pointer none,ay] 36):=⟨_,rfl⟩
  have eL:=be w (.cells #[.pointer none] 32);have zG:aD w u:=hu▸eL.alloc eL.size _;have cg:(w.alloc (.cells #[.pointer none] 32)).heap.size=w.heap.size+1:=ak;have Ie:bj u w.heap.size #[.pointer none] 32:=by
   rw[hu];exact (Below.heap_alloc _ _ _ ak).trans (aR w _)
  have yX:BI u (w.heap.size+1) (w.heap.size+1) []:=by
   have h:=BI.new (w:=w.alloc (.cells #[.pointer none] 32)) (B:=w.heap.size+1) ae;rw[cg,<-hu]at h;exact h
  have Hu:=aa hu;have HU:=aa zG;have Fd:=aa Ie;have Is:=aa yX;have uF:=aa (ax0 u);have HLv:=aa hLv;obtain⟨px,kz⟩:=ayC s;have lI:=aa px;have jI:=aa kz;have d1: ¬((6000:Int)<(s.size:Int)):=ae;have aAd:s.size<4294967281:=ae;have IN:=aa (λW hM=>at3 s W hM aAd);generalize hl:jp s=l at HT lI jI IN;clear hu zG Ie yX hLv px kz eL cg hl;go_in;go_wp2_with fail;rw[<-Hu.out];refine (uF).mono ?_;rintro e w1 ⟨tb,rfl,Fw,htu,aG⟩;have HTb:=aa Fw;have cu:=aa aG;clear Fw aG;go_wp2_with fail;refine (IN w1 (HLv.max.below (HU.trans (cu.mono HU.size)))).mono ?_;rintro e w2 ⟨A,n,c,rfl,hn,hr,hA,av⟩;have zG:=HU.out;have oM:w.heap.size+1<u.heap.size:=(JH Is.bld).1;have mP:=cu.size;have PP:=av.size;have htl:=Cw HTb.out;have A0:aD w w2:=HU.trans ((ju cu av).mono HU.size);have EQ:aD u w2:=ju cu av;have O8: ∀b o,A=some ⟨b,o,none⟩->w1.heap.size<=b:=λb o e=>hA b o none e;have hAd:0<l.length-> ∀b o,A=some ⟨b,o,none⟩->b<w2.heap.size:=λh b o e=>by
   obtain⟨b',o',e',hc⟩:=hr 0 _ (cL (by rw[qO];exact h));rw[e]at e';injection e' with e'
   injection e' with e'
   subst e';exact cU hc
  have H0:RJ w2.heap.size w.heap.size tb A l w 0 none ⟨#[]⟩ w2:=by
   refine⟨aJ Fd EQ,⟨w,HLv,aM _,A0.size,A0⟩,(λS h=>by cases h),?_,aJ HTb av,hr,aM _,A0,rfl,Nat.zero_le _⟩;exact Is.kept (EQ.block _ oM) (λg cs fz hg=>EQ.block g (Cw hg))
  have HJ0:=aa H0;subst hn;clear H0 hr hA A0 EQ zG av;generalize hB:w2.heap.size=B at*;go_wp2_with fail;go_loopw [16] (λx wr=> ∃(k:Nat) (R:Option aW) (oI:ag),k<=l.length/\x= .int .i64 (k:Nat)/\RJ B w.heap.size tb A l w k R oI wr) (λx _=>l.length -(intOf x).toNat);case atStart=>exact⟨0,none,⟨#[]⟩,Nat.zero_le _,rfl,HJ0⟩
  case round=>
   obtain⟨k,R,oI,hk,rfl,hJ⟩:=hrel;have HJ:=aa hJ;have aEL:=lI.out;by_cases aK:k<l.length
   ·have PQ:(k:Int)<(l.length:Int):=ae;obtain⟨b,aS,hAe,c0⟩:=hJ.rd k (.string l[k]) (by unfold aZ;rw[nA,cL aK];rfl);have Xw:=hAd ae;have hsk:=jI.out l[k] (dY aK);have Yl:=aa (ayq B w.heap.size tb R l[k] wr hJ.rm ae hJ.ld hJ.sz hJ.gd hJ.tb ae);have oL: ∀b o,A=some ⟨b,o,none⟩->b<B/\b≠w.heap.size:=λb o e=>⟨Xw b o e,by have:=O8 b o e;omega⟩
    have eG:=aa (λw1 w3 h1 h2 h3 h4 h5=>hJ.step (w1:=w1) (w3:=w3) aK rfl ae ae ae oL h1 h2 h3 h4 h5);have hg:=aa (afu hJ.gd l[k]).2;subst hAe;clear hJ oL;generalize fw R l[k]=r at Yl eG hg;obtain⟨r1,t⟩:=r;generalize l[k]=lk at c0 Yl hsk;go_wp2_with fail;refine (Yl).mono ?_;rintro e w3 ⟨rfl,zq,QO,LK⟩;have ai5:=HJ.bi.kept (LK.low (w.heap.size+1) ae ae) (λg cs fz hg=>LK.u8 g cs _ fz hg (.inl rfl));have hz4:=LK.size;have fS:=HJ.sz;have ey:oI.data.toList.length+t.size+1<=1000000000:=by
     rw[bP];have h1:=HJ.len;have h2:k*40001<=6001*40001:=Nat.mul_le_mul_right _ ae;have h3:t.size<=40000:=hg.out;omega
    have j3:=aa (And.intro zq (And.intro QO LK));have HW:=aa (ayw (w.heap.size+1) (w.heap.size+1) oI.data.toList t w3 ai5 ae ae);clear zq QO LK ai5;go_wp2_with fail;refine (HW).mono ?_;rintro e w4 ⟨rfl,aP,kg⟩;have HN:=aa (ayy (w.heap.size+1) (w.heap.size+1) (oI.data.toList++t.data.toList) w4 aP (by rw[dx,bP t];omega) (by have:=kg.1.size;omega));have iu:=aa kg;clear aP kg;go_wp2_with fail;refine (HN).mono ?_;rintro e w5 ⟨rfl,aY,qp⟩;have HJ2:=aa (eG w3 w5 j3.1 j3.2.1 j3.2.2 (iu.trans qp) aY);clear aY qp;go_wp2;go_roundw;case rel=>exact⟨k+1,r1,oI++t++ny,ae,by go_num,HJ2⟩
    case measure=>exact cM
   ·obtain rfl:k=l.length:=ae;have PQ: ¬((l.length:Int)<(l.length:Int)):=ae;have hX:X=oI:=by
     have h:=hJ.ok;rw[List.drop_length,fA]at h;rw[HT.out,<-h]
    have HS:=aa (JJ (w.heap.size+1) (w.heap.size+1) oI.data.toList wr hJ.bi.bld (by have:=hJ.sz;omega));have HLo:=aa hJ.low;clear hJ;subst hX;go_wp2_with fail;refine (HS).mono ?_;rintro e w3 ⟨rfl,aL⟩;have cj:=aa aL;clear aL;go_wp2;go_ret2;exact⟨rfl,HLo.trans (cj.mono ae)⟩
theorem ayG:mf N7=(UB,0):=by unfold mf;rw[if_neg au,awZ]
theorem ayH:mf Ko=(N8,0):=by unfold mf;rw[if_neg au,aw1]
def Ou (w:World) (e:Ending) (w':World):Prop:=e= .returned (.bool true)/\aD w w'
theorem U0 (w:World) (hL:Lv w):Calls prog 7 #[] w (Ou w):=by
 have H1:=aa (KF N7 w hL);have H2:=aa (λW h=>KF Ko W h);have HL:=aa hL;go_in;go_wp2_with fail;refine (H1).mono ?_;rintro e w1 ⟨rfl,aG⟩;rw[ayG];have cu:=aa aG;go_wp2_with fail;refine (H2 _ (HL.below cu)).mono ?_;rintro e w2 ⟨rfl,av⟩;rw[ayH];have bq:=aX cu av;have d1:(UB.toList== [110,111,110,101,10,119,104,97,116,10])=true:=bU;have d2:(N8.toList== [111,107,10,111,107,10,116,101,120,116,32,104,105,10,111,107,10,101,114,114,111,114,32,50,49,50,10,111,107,10,116,101,120,116,32,104,105,10])=true:=bU;go_wp2;go_ret;exact⟨rfl,bq⟩
end Go.Proofs.YtaglcaocpcbiiaaGreatDoor
