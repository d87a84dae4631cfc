import Derived.Test.YtaglcaocpcbiiaaGreatDoorX05
import Derived.Maps.AppendAt
set_option linter.unusedVariables false
set_option linter.unusedSimpArgs false
set_option maxRecDepth 100000
set_option maxHeartbeats 3000000
namespace Go.Proofs.YtaglcaocpcbiiaaGreatDoor
open Go.Proofs.Tryz Go.RowKit
variable {B0 ai g i:Nat} {W w w':World} {cs:bx} {fr:Nat×Nat} {o:Obj} {p q r s:Addr} {u x y:Value}
structure Dk where
 A:Option Addr
 n:Nat
 c:Nat
 B:Option Addr
 m:Nat
 d:Nat
 P:az
def qS (x:Dk):bJ:= [.slice x.A x.n x.c,.slice x.B x.m x.d]
def dkA (x:Dk):Value:= .agg #[.slice x.A x.n x.c,.slice x.B x.m x.d]
def fO (l:List Dk):bJ:=l.flatMap qS
def bu (l:List Dk):List az:=l.map Dk.P
theorem rW (l:List Dk):(bu l).length=l.length:=by simp[bu]
def Dk.ok (w:World) (x:Dk):Prop:=PB w x.A x.n x.B x.m x.P
theorem Dk.ok.below {x:Dk} (h:x.ok w) (hb:aD w w'):x.ok w':=PB.below h hb
theorem T4 (l:List Dk):(fO l).length=l.length*2:=by
 induction l with
 |nil=>rfl
 |cons a l ih=>rw[fO,List.flatMap_cons,dx,<-fO,ih,List.length_cons];simp[qS];omega
theorem auj (l m:List Dk):fO (l++m)=fO l++fO m:=by simp[fO]
theorem rX (l:List Dk) (i:Nat) (x:Dk) (h:l[i]?=some x):(fO l)[i*2]?=some (.slice x.A x.n x.c)/\(fO l)[i*2+1]?=some (.slice x.B x.m x.d):=by
 induction l generalizing i with
 |nil=>simp at h
 |cons a l ih=>
  cases i with
  |zero=>
   simp at h;subst h;exact⟨rfl,rfl⟩
  |succ i=>
   have:=ih i (by simpa using h);rw[fO,List.flatMap_cons,<-fO];have e:(qS a).length=2:=rfl;exact U9
theorem T5 (l:List Dk) (i:Nat) (x:Dk) (h:i<l.length):((fO l).set (i*2) (.slice x.A x.n x.c)).set (i*2+1) (.slice x.B x.m x.d)=fO (l.set i x):=by
 induction l generalizing i with
 |nil=>simp at h
 |cons a l ih=>
  cases i with
  |zero=>rfl
  |succ i=>
   have:=ih i (by simpa using h);rw[List.set_cons_succ,fO,fO,List.flatMap_cons,List.flatMap_cons,<-fO,<-fO,<-this];have e:(qS a)= [.slice a.A a.n a.c,.slice a.B a.m a.d]:=rfl;rw[e,show (i+1)*2=i*2+1+1 by omega];rfl
theorem agU {P:Prop} (h:P:=by
 intro u hu;obtain⟨p,_,hp⟩:=List.mem_flatMap.1 hu;simp[qS]at hp;rcases hp with rfl|rfl<;>rfl):P:=h
theorem auk (l:List Dk): ∀u∈fO l,u.oneCell'=true:=by
 exact agU
theorem T6 (l:List Dk): ∀u∈fO l,ko u=true:=by
 exact agU
structure ti (w:World) (A:aN) (l:List Dk):Prop where
 rd:Rd w A (fO l)
 ok: ∀x∈l,x.ok w
theorem ti.nil (w:World) (A:aN):ti w A []:=⟨Rd.nil _ _,λx h=>(by cases h)⟩
theorem ti.below {A:aN} {l:List Dk} (h:ti w A l) (hb:aD w w'):ti w' A l:=⟨h.rd.below hb,λx hx=>(h.ok x hx).below hb⟩
theorem NO {A:aN} {l:List Dk} (h:Rd w A (fO l)) (hi:i<l.length):
  ∃b aS,A=some ⟨b,aS,none⟩/\w.cell? ⟨b,aS+i*2,none⟩=some (.slice l[i].A l[i].n l[i].c)/\w.cell? ⟨b,aS+i*2+1,none⟩=some (.slice l[i].B l[i].m l[i].d):=by
 obtain⟨h1,h2⟩:=rX l i l[i] (by simp[hi]);obtain⟨b,aS,hA,c1⟩:=h _ _ h1;obtain⟨b2,O0,oL,c2⟩:=h _ _ h2;rw[hA]at oL;cases oL
 exact⟨b,aS,hA,c1,c2⟩
theorem NP {A:aN} {xs:bJ} (h:Rd w A xs) (hx: ∀u∈xs,ko u=false) (hs: ∀j u,w.cell? ⟨g,j,none⟩=some u->ko u=true) (hg:w.grownBy w' (some g)):Rd w' A xs:=by
 intro j u hu;obtain⟨b,aS,hA,hc⟩:=h j u hu;have aO:b≠g:=λe=>by
  subst e;have h1:=hs _ _ hc;exact OE
 exact⟨b,aS,hA,(fB (hg.block b (cU hc) (λe=>aO (bW e)))).trans hc⟩
theorem PB.grown {A B:aN} {n m:Nat} {P:az} (h:PB w A n B m P) {T:TypeId} (hT:w.heap[g]?=some (.cells cs T fr)) (h1:T≠9) (h2:T≠257) (hs: ∀j u,w.cell? ⟨g,j,none⟩=some u->ko u=true) (hg:w.grownBy w' (some g)):PB w' A n B m P:=
 ⟨h.hn,h.hm,NP h.rs (Gh _) hs hg,NP h.rc (aca _) hs hg,h.ta.grown hg hT h1,h.tb.grown hg hT h2⟩
structure dC (w:World) (B0:Nat) (A:aN) (n ai:Nat) (l:List Dk):Prop where
 hn:n=l.length
 os:w.ownsRow B0 74 2 (.slice A n ai) n (fO l)
 sl: ∀b aS,A=some ⟨b,aS,none⟩-> ∀j u,w.cell? ⟨b,j,none⟩=some u->ko u=true
 ok: ∀x∈l,x.ok w
theorem dC.rd {A:aN} {n:Nat} {l:List Dk} (h:dC w B0 A n ai l):ti w A l:=⟨gz h.os,h.ok⟩
theorem dC.nil (w:World) (B0:Nat):dC w B0 none 0 0 []:=⟨rfl,World.ownsRow_nil _ _ _ _,λb aS e=>(by cases e),λx h=>(by cases h)⟩
theorem dC.below {A:aN} {n:Nat} {l:List Dk} (h:dC w B0 A n ai l) (hb:aD w w'):dC w' B0 A n ai l:=by
 refine⟨h.hn,eO h.os hb,λb aS e j u hu=>?_,λx hx=>(h.ok x hx).below hb⟩;have aK:b<w.heap.size:=(h.os.lt b (by rw[e];rfl)).2;exact h.sl b aS e j u ((fB (hb.block b aK)).symm.trans hu)
theorem dC.set {n:Nat} {l:List Dk} (h:dC w B0 (aw g) n ai l) (hi:i<n) {x:Dk} (hx:x.ok w):
  dC ((w.setCell ⟨g,i*2,none⟩ (.slice x.A x.n x.c)).setCell ⟨g,i*2+1,none⟩ (.slice x.B x.m x.d)) B0 (aw g) n ai (l.set i x)/\w.grownBy ((w.setCell ⟨g,i*2,none⟩ (.slice x.A x.n x.c)).setCell ⟨g,i*2+1,none⟩ (.slice x.B x.m x.d)) (some g):=by
 obtain⟨s1,g1⟩:=h.os.stored (i*2) (.slice x.A x.n x.c);obtain⟨s2,g2⟩:=s1.stored (i*2+1) (.slice x.B x.m x.d);rw[T5 l i x (by rw[<-h.hn];exact hi)]at s2;have zF:w.grownBy ((w.setCell ⟨g,i*2,none⟩ (.slice x.A x.n x.c)).setCell ⟨g,i*2+1,none⟩ (.slice x.B x.m x.d)) (some g):=
  ⟨g2.os.trans g1.os,g2.tape.trans g1.tape,g2.output.trans g1.output,bD g1.size g2.size,λk hk aO=>(g2.block k (jY hk g1.size) aO).trans (g1.block k hk aO)⟩
 obtain⟨bK,hc⟩:=As h.os g rfl;have ajt: ∀y:Dk,y.ok w->y.ok ((w.setCell ⟨g,i*2,none⟩ (.slice x.A x.n x.c)).setCell ⟨g,i*2+1,none⟩ (.slice x.B x.m x.d)):=λy hy=>PB.grown hy hc au au (h.sl g 0 rfl) zF;refine⟨⟨by rw[List.length_set];exact h.hn,s2,λb aS e j u hu=>?_,λy hy=>?_⟩,zF⟩
 ·injection e with e
  injection e with e
  subst e;have fi:(((w.setCell ⟨g,i*2,none⟩ (.slice x.A x.n x.c)).setCell ⟨g,i*2+1,none⟩ (.slice x.B x.m x.d))).heap[g]?=some (.cells ((bK.setIfInBounds (i*2) (.slice x.A x.n x.c)).setIfInBounds (i*2+1) (.slice x.B x.m x.d)) 74 (0,0)):=
   heap_setCell_same _ g _ _ _ _ (heap_setCell_same w g _ _ _ _ hc)
  rw[cell_of_row _ g j _ _ _ fi,Array.getElem?_setIfInBounds,Array.getElem?_setIfInBounds]at hu;split at hu
  ·split at hu
   ·cases hu;rfl
   ·cases hu
  ·split at hu
   ·split at hu
    ·cases hu;rfl
    ·cases hu
   ·refine h.sl g 0 rfl j u ?_;rw[cell_of_row w g j _ _ _ hc];exact hu
 ·rcases List.mem_or_eq_of_mem_set hy with hy|rfl
  ·exact ajt y (h.ok y hy)
  ·exact ajt y hx
theorem Ef (l:List Dk) (i:Nat) (x:Dk):bu (l.set i x)=(bu l).set i x.P:=by simp[bu]
theorem adH {l:List Dk} (hi:i<l.length):(bu l).getD i bI=l[i].P:=by
 rw[dh,bu,nA,cL hi];rfl
theorem adI (w:World) (a b c:bx) (ta tb tc:TypeId):
  (((w.alloc (.cells a ta)).alloc (.cells b tb)).alloc (.cells c tc)).heap[w.heap.size]?=some (.cells a ta (0,0))/\(((w.alloc (.cells a ta)).alloc (.cells b tb)).alloc (.cells c tc)).heap[w.heap.size+1]?=some (.cells b tb (0,0))/\
  (((w.alloc (.cells a ta)).alloc (.cells b tb)).alloc (.cells c tc)).heap[w.heap.size+1+1]?=some (.cells c tc (0,0))/\aD w (((w.alloc (.cells a ta)).alloc (.cells b tb)).alloc (.cells c tc)):=by
 have h0:=aR w (.cells a ta);have h1:=aR (w.alloc (.cells a ta)) (.cells b tb);have h2:=aR ((w.alloc (.cells a ta)).alloc (.cells b tb)) (.cells c tc);have b1:=(aI (w.alloc (.cells a ta)).heap.size (w.alloc (.cells a ta))).alloc (aM _) (.cells b tb);have b2:=(aI ((w.alloc (.cells a ta)).alloc (.cells b tb)).heap.size ((w.alloc (.cells a ta)).alloc (.cells b tb))).alloc (aM _) (.cells c tc);have hB:=(be w (.cells a ta))
 have c0:=aJ (aJ h0 b1) b2;have c1:=aJ h1 b2;simp only[World.size_alloc]at c1 h2;exact⟨c0,c1,h2,bg (bg hB b1) b2⟩
theorem Eg {v:Value} (h:(W.cell? p=some u/\W.cell? q=some v)/\(W.cell? r=some x/\W.cell? s=some y)) (hb:aD W w'):(w'.cell? p=some u/\w'.cell? q=some v)/\(w'.cell? r=some x/\w'.cell? s=some y):=⟨i6 h.1 hb,i6 h.2 hb⟩
theorem NQ {v:Value} (h:(W.cell? p=some u/\W.cell? q=some v)/\(W.cell? r=some x/\W.cell? s=some y)):((W.alloc o).cell? p=some u/\(W.alloc o).cell? q=some v)/\((W.alloc o).cell? r=some x/\(W.alloc o).cell? s=some y):=⟨t8 h.1,t8 h.2⟩
theorem Cn {a:Addr} {z v:Value} (h:(W.cell? p=some u/\W.cell? q=some v)/\(W.cell? r=some x/\W.cell? s=some y)) (h1:a≠p) (h2:a≠q) (h3:a≠r) (h4:a≠s):((W.setCell a z).cell? p=some u/\(W.setCell a z).cell? q=some v)/\((W.setCell a z).cell? r=some x/\(W.setCell a z).cell? s=some y):=⟨ip h.1 h1 h2,ip h.2 h3 h4⟩
theorem Ey {P:Prop} (h:P:=by
 go_wp2_with fail;refine bodyPost_ret (dJ rfl _ _ (w.heap.size+1+1) ah _ (eP (aJ (eA HX _ _) ((aI _ _).alloc (aM _) _)))) rfl ?_;rw[HE.out];have wD:=dL (w0:=w) (w:=w1) HB (show w.heap.size<=w.heap.size+1+1 by omega) (ay) (ay);exact⟨_,rfl,dT.no _,wD.alloc wD.size _⟩):P:=h
theorem aul (v:Value) (P:az) (epoch x:Int) (b salt:ag) (aH:Int) (w:World) (h:dT w v P) (cT:b.size<=maxLen) (vj:salt.size<=maxLen):
  Calls prog 162 #[v,.int .i64 epoch,.agg #[.int .i64 x,.string b],.string salt,.int .i64 aH] w (kj w (nZ P epoch x b salt aH)):=by
 obtain⟨A,n,c,B,m,d,rfl,h⟩:=h;obtain⟨hA,hS,hX,bG⟩:=adI w #[.slice A n c,.slice B m d] #[.int .i64 x,.string b] zP 74 101 74;have HA:=aa hA;have HS:=aa hS;have HX:=aa hX;have HB:=aa bG;have HP:=aa (h.below bG);have jM:=aa (S7 P);unfold maxLen at cT vj;obtain⟨q,hq⟩: ∃q,q=dr P:=⟨_,rfl⟩
 have HG:Hid (nZ P epoch x b salt aH=if q.2≠0 then (bI,q.2) else if x<1\/255<x\/b.size≠32\/salt.size≠16 then (bI,1) else if epoch<=q.1.epoch\/1000000<epoch then (bI,181) else eq P aH [(3,BX epoch x b salt)]):=aa (by rw[hq];rfl);rw[<-hq]at jM;have Hq:=aa hq;obtain⟨⟨h0,h1,h2,h3,h4,h5,h6,h7,h8,h9⟩,er⟩:=q;simp only at HG jM;clear h hA hS hX bG hq;go_in;go_wp2_with fail;refine (Gm _ P _ ⟨_,_,_,_,_,_,rfl,HP⟩).mono ?_;rintro e w1 ⟨rfl,aG⟩;rw[<-Hq.out];replace HX:=aT HX aG;replace HA:=aT HA aG;replace HS:=aT HS aG;replace HB:=aX HB aG;replace HP:=aa (HP.below aG);have av:=be w1 (.cells #[.int .i64 h0,.int .i64 h1,.int .i64 h2,.string h3,.string h4,.string h5,.int .i64 h6,.int .i64 h7,.string h8,.string h9] 120);have H4:=aa (aR w1 (.cells #[.int .i64 h0,.int .i64 h1,.int .i64 h2,.string h3,.string h4,.string h5,.int .i64 h6,.int .i64 h7,.string h8,.string h9] 120));have bT:=aT HX av;have dN:=aT HA av;have dg:=aT HS av;have bq:=aX HB av;have fP:=aa (HP.below av);have EB:=bf HX.out;clear aG av;unfold kK;by_cases dO:er=0
 ·subst dO;obtain⟨a0,a1,_,_⟩:=aV dN.out;obtain⟨s0,s1,_,_⟩:=aV dg.out;obtain⟨x0,x1,x2,x3⟩:=aV bT.out;obtain⟨p0,p1,p2,p3⟩:=aV HX.out;obtain⟨⟨e0,e1,e2,e3,e4,e5,e6,e7,e8,e9⟩,ef⟩:=fu H4.out;clear e1 e2 e3 e4 e5 e6 e7 e8 e9 ef;by_cases c1:x<1
  ·have HE:=aa (show nZ P epoch x b salt aH=(bI,1) by rw[HG.out,if_neg ak,if_pos (.inl c1)]);have d1:decide (x<1)=true:=by simpa using c1
   exact Ey
  ·have d1:decide (x<1)=false:=by simpa using c1
   by_cases c2:255<x
   ·have HE:=aa (show nZ P epoch x b salt aH=(bI,1) by rw[HG.out,if_neg ak,if_pos (.inr (.inl c2))]);have d2:decide (255<x)=true:=(by simpa using c2);exact Ey
   ·have d2:decide (255<x)=false:=(by simpa using c2);by_cases c3:b.size=32
    ·have d3:((b.size:Int) !=32)=false:=(by simp;omega);by_cases c4:salt.size=16
     ·have d4:((salt.size:Int) !=16)=false:=(by simp;omega);have FD:=aa (show nZ P epoch x b salt aH=if epoch<=h0\/1000000<epoch then (bI,181) else eq P aH [(3,BX epoch x b salt)] by
       rw[HG.out,if_neg ak,if_neg (by rintro (h|h|h|h)<;>omega)])
      by_cases c5:epoch<=h0
      ·have HE:=aa (show nZ P epoch x b salt aH=(bI,181) by rw[FD.out,if_pos (.inl c5)]);have d5:decide (epoch<=h0)=true:=(by simpa using c5);exact Ey
      ·have d5:decide (epoch<=h0)=false:=(by simpa using c5);by_cases c6:1000000<epoch
       ·have HE:=aa (show nZ P epoch x b salt aH=(bI,181) by rw[FD.out,if_pos (.inr c6)]);have d6:decide (1000000<epoch)=true:=(by simpa using c6);exact Ey
       ·have d6:decide (1000000<epoch)=false:=(by simpa using c6);have HE:=aa (show nZ P epoch x b salt aH=eq P aH [(3,BX epoch x b salt)] by rw[FD.out,if_neg (by rintro (h|h)<;>omega)]);have Ft:fW epoch=true:=by
         have:=jM.epoch;simp only[fW,Bool.and_eq_true,decide_eq_true_eq]at this⊢;omega
        have tG:=aa (λW=>asl epoch x b salt W Ft ae ae);generalize BX epoch x b salt=tx at tG HE;go_wp2_with fail;obtain⟨w2,cl⟩: ∃w2,w2=w1.alloc (.cells #[.int .i64 h0,.int .i64 h1,.int .i64 h2,.string h3,.string h4,.string h5,.int .i64 h6,.int .i64 h7,.string h8,.string h9] 120):=⟨_,rfl⟩
        rw[<-cl]at a0 a1 s0 s1 bT dN dg bq fP⊢;clear cl c1 c2 c5 c6 x0 x1 x2 x3 p0 p1 p2 p3 e0;go_region_held3 (λw'=>(w'.cell? ⟨w.heap.size,0,none⟩=some (.slice A n c)/\w'.cell? ⟨w.heap.size,1,none⟩=some (.slice B m d))/\(w'.cell? ⟨w.heap.size+1,0,none⟩=some (.int .i64 x)/\w'.cell? ⟨w.heap.size+1,1,none⟩=some (.string b)))
         (first|assumption|exact⟨⟨a0,a1⟩,⟨s0,s1⟩⟩|exact Eg (by assumption) hb5'|exact NQ (by assumption)|exact Eg ⟨⟨a0,a1⟩,⟨s0,s1⟩⟩ (by assumption)|exact Cn (Cn (by assumption) ak ak ak ak) ak ak ak ak)
         (first
          |((go_at_call 239;refine Calls.mono (tG _) ?_);rintro _ w4 ⟨rfl,hb4'⟩;have aP:=bg ((aI _ w2).drew) hb4';clear hb4';replace bT:=aT bT aP;replace bq:=aX bq aP;replace fP:=aa (fP.below aP);have bE:=be w4 (.cells #[.int .i64 3,.string tx] 148))
          |((go_at_call 88;refine (Gn _ _ 1 1 aH P [(3,tx)] _ ⟨_,_,_,_,_,_,rfl,fP.below bE⟩ (by exact jk w4 _ _ _ rfl) rfl ak ae ae).mono ?_);rintro _ w5 ⟨v5,rfl,hv5,hb5'⟩;have aY:=bg bE hb5';replace bT:=aT bT aY;replace bq:=aX bq aY;rw[<-HE.out]at hv5⊢;obtain⟨A6,n6,c6,B6,m6,d6,rfl,nB⟩:=hv5;obtain⟨y0,y1,y2,y3⟩:=aV bT))
        go_wp2_with fail;refine bodyPost_ret (dJ rfl _ _ (w.heap.size+1+1) ah _ (eP (eA bT _ _))) rfl ?_;exact⟨_,rfl,⟨_,_,_,_,_,_,rfl,nB.two bT⟩,dL bq ae _ _⟩
     ·have HE:=aa (show nZ P epoch x b salt aH=(bI,1) by rw[HG.out,if_neg ak,if_pos (.inr (.inr (.inr c4)))]);have d4:((salt.size:Int) !=16)=true:=(by simp;omega);exact Ey
    ·have HE:=aa (show nZ P epoch x b salt aH=(bI,1) by rw[HG.out,if_neg ak,if_pos (.inr (.inr (.inl c3)))]);have d3:((b.size:Int) !=32)=true:=(by simp;omega);exact Ey
 ·have HE:=aa (show nZ P epoch x b salt aH=(bI,er) by rw[HG.out,if_pos dO]);have d1:(er !=0)=true:=by simpa using dO
  obtain⟨p0,p1,p2,p3⟩:=aV HX.out;clear dO;exact Ey
theorem U2 {P:Prop} (h:P:=by
 go_wp2_with fail;refine bodyPost_ret (dJ rfl _ _ (w.heap.size+1) ah _ (eP (eA bT _ _))) rfl ?_;rw[HE.out];exact⟨_,rfl,dT.no _,dL bq ae _ _⟩):P:=h
theorem agJ {P:Prop} (h:P:=by
 go_wp2_with fail;refine bodyPost_ret (dJ rfl _ _ (w.heap.size+1) ah _ (eP (eA bT _ _))) rfl ?_;exact⟨_,rfl,⟨_,_,_,_,_,_,rfl,nB.two bT⟩,dL bq ae _ _⟩):P:=h
theorem adJ (v:Value) (P:az) (epoch aH:Int) (w:World) (h:dT w v P):
  Calls prog 122 #[v,.int .i64 epoch,.int .i64 aH] w (kj w (fI P epoch aH)):=by
 obtain⟨A,n,c,B,m,d,rfl,h⟩:=h;obtain⟨hX,hA,bG⟩:=qP w #[.slice A n c,.slice B m d] 74;have HA:=aa hA;have HX:=aa hX;have HB:=aa bG;have HP:=aa (h.below bG);have jM:=aa (S7 P);obtain⟨q,hq⟩: ∃q,q=dr P:=⟨_,rfl⟩
 have HG:Hid (fI P epoch aH=if q.2≠0 then (bI,q.2) else if epoch≠0/\q.1.epoch=epoch then eq P aH [(3,bo),(3,bo)] else if epoch=0\/q.1.next≠epoch then (bI,181)
  else eq P aH [(0,eD {eQ with epoch:=q.1.next,x:=q.1.nx,b:=q.1.nb,salt:=q.1.nsalt,cred:=q.1.cred}),(0,eD {eQ with epoch:=q.1.next,x:=q.1.nx,b:=q.1.nb,salt:=q.1.nsalt,cred:=q.1.cred}),(3,bo),(3,bo)]):=aa (by rw[hq];rfl)
 rw[<-hq]at jM;have Hq:=aa hq;obtain⟨⟨h0,h1,h2,h3,h4,h5,h6,h7,h8,h9⟩,er⟩:=q;simp only at HG jM;clear h hA hX bG hq;go_in;go_wp2_with fail;refine (Gm _ P _ ⟨_,_,_,_,_,_,rfl,HP⟩).mono ?_;rintro e w1 ⟨rfl,aG⟩;rw[<-Hq.out];replace HX:=aT HX aG;replace HA:=aT HA aG;replace HB:=aX HB aG;replace HP:=aa (HP.below aG);have av:=be w1 (.cells #[.int .i64 h0,.int .i64 h1,.int .i64 h2,.string h3,.string h4,.string h5,.int .i64 h6,.int .i64 h7,.string h8,.string h9] 120);have aL:=(aI (w1.alloc (.cells #[.int .i64 h0,.int .i64 h1,.int .i64 h2,.string h3,.string h4,.string h5,.int .i64 h6,.int .i64 h7,.string h8,.string h9] 120)).heap.size (w1.alloc (.cells #[.int .i64 h0,.int .i64 h1,.int .i64 h2,.string h3,.string h4,.string h5,.int .i64 h6,.int .i64 h7,.string h8,.string h9] 120))).alloc (aM _) (.cells #[.int .i64 3,.string ⟨#[]⟩] 148);have H4:=aa (aJ (aR w1 (.cells #[.int .i64 h0,.int .i64 h1,.int .i64 h2,.string h3,.string h4,.string h5,.int .i64 h6,.int .i64 h7,.string h8,.string h9] 120)) aL);have Iv:=aR (w1.alloc (.cells #[.int .i64 h0,.int .i64 h1,.int .i64 h2,.string h3,.string h4,.string h5,.int .i64 h6,.int .i64 h7,.string h8,.string h9] 120)) (.cells #[.int .i64 3,.string ⟨#[]⟩] 148);rw[World.size_alloc]at Iv;have H5:=aa Iv;have Mc:=bg av aL;have bT:=aT HX Mc;have dN:=aT HA Mc;have bq:=aX HB Mc;have fP:=aa (HP.below Mc);have EB:=bf HX.out;clear aG av aL Mc Iv;unfold kK;obtain⟨p0,p1,p2,p3⟩:=aV HX.out;by_cases dO:er=0
 ·subst dO;obtain⟨a0,a1,_,_⟩:=aV dN.out;obtain⟨x0,x1,x2,x3⟩:=aV bT.out;obtain⟨n0,n1,_,_⟩:=aV H5.out;obtain⟨⟨e0,e1,e2,e3,e4,e5,e6,e7,e8,e9⟩,ef⟩:=fu H4.out;clear e1 e2 e3 e4 ef;by_cases c1:epoch=0
  ·have HE:=aa (show fI P epoch aH=(bI,181) by rw[HG.out,if_neg ak,if_neg (by rintro⟨h,_⟩;exact h c1),if_pos (.inl c1)]);have d1:(epoch !=0)=false:=by simpa using c1
   have d2:(epoch==0)=true:=(by simpa using c1);clear c1;exact U2
  ·have d1:(epoch !=0)=true:=by simpa using c1
   have d2:(epoch==0)=false:=(by simpa using c1);by_cases c2:h0=epoch
   ·have HE:=aa (show fI P epoch aH=eq P aH [(3,bo),(3,bo)] by rw[HG.out,if_neg ak,if_pos ⟨c1,c2⟩]);have d3:(h0==epoch)=true:=(by simpa using c2);clear c1 c2 p0 p1 p2 p3;go_wp2_with fail;generalize hW:(w1.alloc (.cells #[.int .i64 h0,.int .i64 h1,.int .i64 h2,.string h3,.string h4,.string h5,.int .i64 h6,.int .i64 h7,.string h8,.string h9] 120)).alloc (.cells #[.int .i64 3,.string ⟨#[]⟩] 148)=w2 at bT bq fP⊢;have cg:w1.heap.size+1+1=w2.heap.size:=(by rw[<-hW];simp);have bE:=be w2 (.cells #[.int .i64 3,.string ⟨#[]⟩,.int .i64 3,.string ⟨#[]⟩] 148);clear hW a0 a1 x0 x1 x2 x3 n0 n1 e0 e5 e6 e7 e8 e9;refine (Gn _ _ 2 2 aH P [(3,bo),(3,bo)] _ ⟨_,_,_,_,_,_,rfl,fP.below bE⟩ (by rw[cg];exact jk w2 _ _ _ rfl) rfl ak ae ae).mono ?_;rintro e w5 ⟨v5,rfl,hv5,aY⟩;rw[<-HE.out]at hv5⊢;obtain⟨A6,n6,c6,B6,m6,d6,rfl,nB⟩:=hv5;have nI:=bg bE aY;replace bT:=aT bT nI;replace bq:=aX bq nI;obtain⟨y0,y1,y2,y3⟩:=aV bT.out;clear aY nI bE;exact agJ
   ·have d3:(h0==epoch)=false:=(by simpa using c2);by_cases c3:h6=epoch
    ·have d4:(h6 !=epoch)=false:=(by simpa using c3);have HE:=aa (show fI P epoch aH=eq P aH [(0,eD ⟨h6,0,h7,h8,h9,h5,0,0,bo,bo⟩),(0,eD ⟨h6,0,h7,h8,h9,h5,0,0,bo,bo⟩),(3,bo),(3,bo)] by rw[HG.out,if_neg ak,if_neg (by rintro⟨_,h⟩;exact c2 h),if_neg (by rintro (h|h);exact c1 h;exact h c3)];rfl);have tG:=aa (λW=>Ny ⟨h6,0,h7,h8,h9,h5,0,0,bo,bo⟩ W jM.next (bD jM.nb ae) (bD jM.ns ae) (bD jM.c ae));generalize eD ⟨h6,0,h7,h8,h9,h5,0,0,bo,bo⟩=tx at tG HE;unfold kK at tG;clear c1 c2 c3 p0 p1 p2 p3;go_wp2_with fail;refine Calls.mono (tG _) ?_;rintro e w4 ⟨rfl,aP⟩;replace bT:=aT bT aP;replace dN:=aT dN aP;replace H5:=aT H5 aP;replace bq:=aX bq aP;replace fP:=aa (fP.below aP);have bE:=be w4 (.cells #[.int .i64 0,.string tx] 148);have H6:=aa (aR w4 (.cells #[.int .i64 0,.string tx] 148));replace bT:=aT bT bE;replace dN:=aT dN bE;replace H5:=aT H5 bE;replace bq:=aX bq bE;replace fP:=aa (fP.below bE);clear aP bE a0 a1 x0 x1 x2 x3 n0 n1 e0 e5 e6 e7 e8 e9;obtain⟨a0,a1,_,_⟩:=aV dN.out;obtain⟨n0,n1,_,_⟩:=aV H5.out;obtain⟨m0,m1,_,_⟩:=aV H6.out;go_wp2_with fail;have cg:w4.heap.size+1=(w4.alloc (.cells #[.int .i64 0,.string tx] 148)).heap.size:=ak;generalize w4.alloc (.cells #[.int .i64 0,.string tx] 148)=w3 at cg bT bq fP⊢;have fh:=be w3 (.cells #[.int .i64 0,.string tx,.int .i64 0,.string tx,.int .i64 3,.string ⟨#[]⟩,.int .i64 3,.string ⟨#[]⟩] 148);clear a0 a1 n0 n1 m0 m1;refine (Gn _ _ 4 4 aH P [(0,tx),(0,tx),(3,bo),(3,bo)] _ ⟨_,_,_,_,_,_,rfl,fP.below fh⟩ (by rw[cg];exact jk w3 _ _ _ rfl) rfl ak ae ae).mono ?_;rintro e w5 ⟨v5,rfl,hv5,aY⟩;rw[<-HE.out]at hv5⊢;obtain⟨A6,n6,c6,B6,m6,d6,rfl,nB⟩:=hv5;have nI:=bg fh aY;replace bT:=aT bT nI;replace bq:=aX bq nI;obtain⟨y0,y1,y2,y3⟩:=aV bT.out;clear aY nI fh;exact agJ
    ·have HE:=aa (show fI P epoch aH=(bI,181) by rw[HG.out,if_neg ak,if_neg (by rintro⟨_,h⟩;exact c2 h),if_pos (.inr c3)]);have d4:(h6 !=epoch)=true:=(by simpa using c3);clear c1 c2 c3;exact U2
 ·have HE:=aa (show fI P epoch aH=(bI,er) by rw[HG.out,if_pos dO]);have d1:(er !=0)=true:=by simpa using dO
  obtain⟨x0,x1,x2,x3⟩:=aV bT.out;clear dO;exact U2
theorem adK:(prog.info? 74).map (λi=>(i.zero,i.size,i.bytes))=some (some (.agg #[ay,ay]),2,48):=ax
def uw:Dk:=⟨none,0,0,none,0,0,bI⟩
theorem adL (w:World):uw.ok w:=⟨rfl,rfl,Rd.nil _ _,Rd.nil _ _,EA _ _,EA _ _⟩
theorem aum (n:Nat):(madeCells #[ay,ay] (n*2)).toList=fO (List.replicate n uw):=by
 apply List.ext_getElem?;intro j;by_cases hj:j<n*2
 ·have h1:(List.replicate n uw)[j / 2]?=some uw:=by rw[List.getElem?_replicate,if_pos ae]
  obtain⟨g0,g1⟩:=rX _ (j / 2) uw h1;have hm:j % 2=0\/j % 2=1:=ae;rcases hm with hm|hm
  ·rw[show j / 2*2=j by omega]at g0;rw[g0];simp[madeCells,hj,hm,uw]
  ·rw[show j / 2*2+1=j by omega]at g1;rw[g1];simp[madeCells,hj,hm,uw]
 ·rw[Cx (by simp[madeCells];omega),Cx (by rw[T4];simp;omega)]
theorem dC.set1 {n:Nat} {l l':List Dk} (h:dC w B0 (aw g) n ai l) (j:Nat) (u:Value) (hu:ko u=true) (hl:fO l'=(fO l).set j u) (ey:l'.length=l.length) (dI: ∀x∈l',x.ok w):
  dC (w.setCell ⟨g,j,none⟩ u) B0 (aw g) n ai l'/\w.grownBy (w.setCell ⟨g,j,none⟩ u) (some g):=by
 obtain⟨s1,g1⟩:=h.os.stored j u;rw[<-hl]at s1;obtain⟨bK,hc⟩:=As h.os g rfl;refine⟨⟨by rw[ey];exact h.hn,s1,λb aS e k v hv=>?_,λy hy=>PB.grown (dI y hy) hc au au (h.sl g 0 rfl) g1⟩,g1⟩;injection e with e
 injection e with e
 subst e;rw[cell_of_row _ g k _ _ _ (heap_setCell_same w g j _ _ _ hc),Array.getElem?_setIfInBounds]at hv;split at hv
 ·split at hv
  ·cases hv;exact hu
  ·cases hv
 ·refine h.sl g 0 rfl k v ?_;rw[cell_of_row w g k _ _ _ hc];exact hv
theorem aun (l:List Dk) (i:Nat) (x:Dk) (h:i<l.length) (hB:x.B=l[i].B/\x.m=l[i].m/\x.d=l[i].d):fO (l.set i x)=(fO l).set (i*2) (.slice x.A x.n x.c):=by
 rw[<-T5 l i x h];have h1:=(rX l i l[i] (by simp[h])).2;apply List.ext_getElem?;intro j;rw[List.getElem?_set];by_cases hj:i*2+1=j
 ·subst hj;rw[if_pos rfl,if_pos (by rw[List.length_set,T4];omega),List.getElem?_set_ne ae,h1,hB.1,hB.2.1,hB.2.2]
 ·rw[if_neg hj]
theorem auo (l:List Dk) (i:Nat) (x:Dk) (h:i<l.length) (hA:x.A=l[i].A/\x.n=l[i].n/\x.c=l[i].c):fO (l.set i x)=(fO l).set (i*2+1) (.slice x.B x.m x.d):=by
 rw[<-T5 l i x h];have h1:=(rX l i l[i] (by simp[h])).1;congr 1;apply List.ext_getElem?;intro j;rw[List.getElem?_set];by_cases hj:i*2=j
 ·subst hj;rw[if_pos rfl,if_pos (by rw[T4];omega),h1,hA.1,hA.2.1,hA.2.2]
 ·rw[if_neg hj]
theorem dC.pb {n:Nat} {l:List Dk} (h:dC w B0 (aw g) n ai l) (hg:w.grownBy w' (some g)) {A B:aN} {a m:Nat} {P:az} (hp:PB w A a B m P):PB w' A a B m P:=by
 obtain⟨bK,hc⟩:=As h.os g rfl;exact PB.grown hp hc au au (h.sl g 0 rfl) hg
theorem dH {b:Nat} (hg:w.grownBy w' (some g)) (h:w.heap[b]?=some o) (aO:b≠g):w'.heap[b]?=some o:=by
 exact agD
theorem iC {B:Nat} (h:w.grownBy w' (some g)) (hB:B<=g) (mi:B<=w.heap.size):Below B w w':=
 ⟨h.os,h.tape,h.output,h.size,λk hk=>h.block k ae (λe=>by injection e;omega)⟩
theorem adM (A:aN) (n c:Nat) (l:List Dk) (w:World) (h:ti w A l) (hn:n=l.length) (j7:n<=100000) (hl: ∀x∈l,x.n<=1000000/\x.m<=1000000):
  Calls prog 92 #[.slice A n c] w λe w'=> ∃l',e= .returned (.slice (some ⟨w.heap.size,0,none⟩) n n)/\bu l'=bu l/\dC w' w.heap.size (some ⟨w.heap.size,0,none⟩) n n l'/\aD w w':=by
 have H:=aa h;have HN:=aa hn;have HL:=aa hl;clear h hn hl;obtain⟨iP,hP0,tD,Qk,mt⟩:=info_parts adK;go_in;go_wp2_with (refine wpList_make_full _ ah (.tmp 7) (.tmp 7) 78 ah w.heap.size 74 iP (.agg #[ay,ay]) 2 underlying78 hP0 tD Qk .i64 .i64 _ _ n ah ah rfl rfl (by rw[mt];omega) (by unfold maxLen;omega) (aM _) ?_);intro w1 fQ da;have QV:w1.ownsRow w.heap.size 74 2 (.slice (some ⟨w.heap.size,0,none⟩) n n) n (fO (List.replicate n uw)):=by
  have:=aum n;rw[<-this];exact fQ
 have hO1:dC w1 w.heap.size (some ⟨w.heap.size,0,none⟩) n n (List.replicate n uw):=by
  refine⟨ak,QV,λb aS e j u hu=>?_,λx hx=>by rw[List.eq_of_mem_replicate hx];exact adL _⟩;injection e with e
  injection e with e
  subst e;obtain⟨bK,hc⟩:=As QV w.heap.size rfl;rcases QV.2 with⟨h1,_⟩|⟨g',ja,aid,h1,_,h3,h4,_,h6,h7⟩
  ·cases h1
  ·injection h1 with h1 _ QI
   injection h1 with h1
   injection h1 with h1
   subst h1 QI;rw[cell_of_row _ _ j _ _ _ h3]at hu;have hm:u∈aid.toList:=Array.mem_toList_iff.2 (Array.mem_of_getElem? hu);rw[<-List.take_of_length_le (l:=aid.toList) (i:=n*2) (by rw[Array.length_toList,h6];exact aM _),h7]at hm;exact T6 _ u hm
 have HO:=aa hO1;have aG:aD w w1:=⟨da.os,da.tape,da.output,da.size,λk hk=>da.block k hk ak⟩
 have HB:=aa aG;clear fQ da QV hO1 aG;go_wp2_with fail;go_loopw [11] (λx wr=> ∃(k:Nat) (lk:List Dk),k<=n/\x= .int .i64 (k:Nat)/\bu lk=(bu l).take k++List.replicate (n - k) bI/\dC wr w.heap.size (some ⟨w.heap.size,0,none⟩) n n lk/\aD w wr/\(∀j (hj:j<lk.length),k<=j->lk[j]=uw)) (λx _=>n -(intOf x).toNat);case atStart=>exact⟨0,List.replicate n uw,ae,rfl,by simp[bu,uw],HO,HB,λj hj _=>ak⟩
 case round=>
  clear HO HB;obtain⟨k,lk,hk,rfl,eX,hO,hB,hz⟩:=hrel;have HO:=aa hO;have HB:=aa hB;have kW:=aa eX;have Hz:=aa hz;have ey:lk.length=n:=hO.hn.symm;have lL:=aa ey;have cg:w.heap.size<wr.heap.size:=(hO.os.lt _ rfl).2;clear eX hO hB hz ey;by_cases aK:k<n
  ·have bB:k<l.length:=by rw[<-HN.out];exact aK
   have Pn:k<lk.length:=(by rw[lL.out];exact aK);obtain⟨b,aS,hA,c0,c1⟩:=NO (H.below HB).rd bB;subst hA;have dI:=(H.below HB).ok _ (dY bB);have QW:=HL.out _ (dY bB);have Lu:(bu l)[k]?=some l[k].P:=(by simp[bu,bB]);generalize l[k]=x at c0 c1 dI QW Lu;obtain⟨xA,xn,xc,xB,xm,xd,xP⟩:=x;simp only at c0 c1 QW Lu;obtain⟨hbn,hbm⟩:=QW;have akA:PB wr xA xn xB xm xP:=dI;have e1:(k:Int)<(n:Int):=ae;have io:=be wr (.cells #[.slice xA xn xc,.slice xB xm xd] 74);have HX:=aa (aR wr (.cells #[.slice xA xn xc,.slice xB xm xd] 74));have LF:=aa (HO.below io);have Fa:=aa (akA.below io);have iX:=aX HB io;have Hpk:=aa Lu;have Hlk:=aa (Hz k Pn (aM _));obtain⟨u0,qz⟩: ∃u,u=wr.alloc (.cells #[.slice xA xn xc,.slice xB xm xd] 74):=⟨_,rfl⟩
   have Fx:=aa qz;rw[<-qz]at HX LF Fa iX;have Wo:wr.heap.size<u0.heap.size:=bf HX.out;clear dI akA Lu io qz bB;go_upto_region 5 with fail
   rw[<-Fx.out];clear c0 c1;generalize PY:wr.heap.size=gx at*;clear PY;obtain⟨x0,x1,_,_⟩:=aV HX.out;go_wp2_with (at_builtin;refine Na ah _ _ 28 ah w.heap.size 9 (.string ⟨#[]⟩) 1 16 underlying28 mx rfl ae ah xA xn xc ah (aZ xP.ss) (by exact Fa.rs) (by rw[qO,<-Fa.hn,Nat.mul_one]) (DS _) ae ae ae ?_);intro A2 eM w2 dy av;have dl:=aa (LF.below av);replace HX:=aT HX av;replace Fa:=aa (Fa.below av);replace iX:=aX iX av;have sB:u0.heap.size<=w2.heap.size:=av.size;have p0:=dl.os.cellAt (k*2) ae;have p1:=dl.os.frozenAt (k*2);rw[(rX lk k _ (cL Pn)).1]at p0;have KR:(⟨A2,xn,eM,none,0,0,⟨xP.ss,[]⟩⟩:Dk).ok w2:=⟨Fa.hn,rfl,gz dy,Rd.nil _ _,Nj dy,EA _ _⟩
   have dE:=dl.set1 (k*2) (.slice A2 xn eM) rfl (aun lk k ⟨A2,xn,eM,none,0,0,⟨xP.ss,[]⟩⟩ Pn (by rw[Hlk.out];exact⟨rfl,rfl,rfl⟩)) (by rw[List.length_set]) (λy hy=>by
    rcases List.mem_or_eq_of_mem_set hy with hy|rfl
    ·exact dl.ok y hy
    ·exact KR)
   have HS:=aa dE;clear x0 x1 av dy KR dE;generalize lk[k]=fU at p0;have XS:=dH HS.2 HX (show gx≠w.heap.size by omega);have mt:=dl.pb HS.2 Fa.out;have zM:=iX.trans (iC HS.2 (aM _) ae);have rv:w2.heap.size<=(w2.setCell ⟨w.heap.size,k*2,none⟩ (.slice A2 xn eM)).heap.size:=HS.2.size;obtain⟨u3,Zu⟩: ∃u,u=w2.setCell ⟨w.heap.size,k*2,none⟩ (.slice A2 xn eM):=⟨_,rfl⟩
   have Hu3:=aa Zu;rw[<-Zu]at HS XS mt zM rv;have jb:=aa XS;have jL:=aa mt;have cj:=aa zM;clear XS mt zM Zu;go_upto_region 6 with fail
   rw[<-Hu3.out];clear p0 p1 HX iX;obtain⟨x0,x1,_,_⟩:=aV jb.out;go_wp2_with (at_builtin;refine Na ah _ _ 72 ah w.heap.size 257 (.agg #[.int .i64 0,.string ⟨#[]⟩]) 2 24 underlying72 Gg rfl ae ah xB xm xd ah (jn xP.cs) (by exact jL.rc) (by rw[Gf,<-jL.hm]) (JW _) ae ae ae ?_);intro B4 qy w4 kg aP;have iu:=aa (HS.1.below aP);have EE:u3.heap.size<=w4.heap.size:=aP.size;have Wj:k<(lk.set k (⟨A2,xn,eM,none,0,0,⟨xP.ss,[]⟩⟩:Dk)).length:=(by rw[List.length_set];exact Pn);have p0:=iu.os.cellAt (k*2+1) ae;have p1:=iu.os.frozenAt (k*2+1);rw[(rX _ k _ (cL Wj)).2]at p0;have fg:=iu.ok _ (dY Wj);have hek:(lk.set k (⟨A2,xn,eM,none,0,0,⟨xP.ss,[]⟩⟩:Dk))[k]=⟨A2,xn,eM,none,0,0,⟨xP.ss,[]⟩⟩:=ak;rw[hek]at fg p0;have KR:(⟨A2,xn,eM,B4,xm,qy,xP⟩:Dk).ok w4:=⟨jL.hn,jL.hm,fg.rs,gz kg,fg.ta,Nj kg⟩
   have dE:=iu.set1 (k*2+1) (.slice B4 xm qy) rfl (auo _ k ⟨A2,xn,eM,B4,xm,qy,xP⟩ Wj (by rw[hek];exact⟨rfl,rfl,rfl⟩)) (by rw[List.length_set]) (λy hy=>by
    rcases List.mem_or_eq_of_mem_set hy with hy|rfl
    ·exact iu.ok y hy
    ·exact KR)
   have j4:=aa dE;have dD:=aa ((ju cj aP).trans (iC dE.2 (aM _) ae));clear x0 x1 aP kg KR dE fg;go_wp2;go_roundw;case rel=>
    refine⟨k+1,_,ae,by go_num,?_,j4.1,dD,λj hj hkj=>?_⟩
    ·rw[Ef,Ef,kW.out,List.set_set];simp only;have h1:((bu l).take k).length=k:=(by rw[List.length_take,rW,<-HN.out];omega);rw[List.set_append_right _ _ ae,h1,Nat.sub_self,show n - k=(n -(k+1))+1 by omega,List.replicate_succ,List.set_cons_zero,List.take_add_one,Hpk.out];simp
    ·rw[List.length_set,List.length_set]at hj;rw[List.getElem_set_ne ae,List.getElem_set_ne ae];exact Hz.out j hj ae
   case measure=>exact cM
  ·obtain rfl:k=n:=ae;go_wp2;go_ret;refine⟨lk,rfl,?_,HO,HB⟩;rw[kW.out,Nat.sub_self,List.replicate_zero,List.append_nil,List.take_of_length_le (by rw[rW,<-HN.out];exact aM _)]
theorem adN (k:Nat): ∀u∈(Builtin.zeroCells #[ay,ay] k),ko u=true:=by
 intro u hu;unfold Builtin.zeroCells at hu;obtain⟨i,_,rfl⟩:=Array.mem_map.1 hu;have:i % 2=0\/i % 2=1:=ae;simp only[List.size_toArray,List.length_cons,List.length_nil,Nat.zero_add,Nat.reduceAdd];rcases this with h|h<;>rw[h]<;>rfl
theorem T7 {t:TypeId} (h:w.heap[g]?=some (.cells cs t fr)) (hs: ∀u∈cs,ko u=true) (j:Nat) (u:Value) (hu:w.cell? ⟨g,j,none⟩=some u):ko u=true:=by
 exact ahd
theorem aup {A:aN} {n:Nat} {l:List Dk} (ty:TypeId) (h:dC w B0 A n ai l) (x:Dk) (hx:x.ok w) (g0:Nat) (tb:TypeId) (AT:w.heap[g0]?=some (.cells #[.slice x.A x.n x.c,.slice x.B x.m x.d] tb (0,0))) (j7:n<=1000000) (hB:B0<=w.heap.size):
  ∃g ja w',(Builtin.append_ #[78,78] ty #[.slice A n ai,.slice (aw g0) 1 1]).run prog w= .ok (.slice (aw g) (n+1) ja) w'/\
   dC w' B0 (aw g) (n+1) ja (l++ [x])/\w.grownBy w' (Value.ownBlock (.slice A n ai))/\g<w'.heap.size:=by
 obtain⟨i,hi,nE,oM,mP⟩:=info_parts adK;have wY: ∀j u,(qS x)[j]?=some u->w.cell? ((⟨g0,0,none⟩:Addr).add j)=some u:=World.news_of_block AT;have h1: ∀u∈qS x,u.oneCell'=true:=λu hu=>auk [x] u (by simpa[fO] using hu);have qu: ∀u∈qS x,ko u=true:=λu hu=>T6 [x] u (by simpa[fO] using hu);have hl:(qS x).length=1*i.size:=by rw[oM];rfl
 obtain⟨v',w',hr,h2,h3,h4,h5⟩:=run_append_own_at (P:=prog) w B0 78 ty 74 i (.agg #[ay,ay]) 2 48 underlying78 hi nE oM mP rfl ae (.slice A n ai) n (fO l) h.os ⟨g0,0,none⟩ 1 1 (qS x) rfl wY h1 (by unfold maxLen;omega) ae hB;obtain⟨g,ja,rfl,_,aK⟩:=h2.form ae;refine⟨g,ja,w',hr,⟨?_,?_,?_,?_⟩,h3,aK⟩
 ·rw[dx,<-h.hn];rfl
 ·rw[auj];have e:fO [x]=qS x:=by simp[fO]
  rw[e];exact h2
 ·intro b aS e;injection e with e
  injection e with e1 e2
  subst e1;rcases h.os.2 with⟨hv,qv⟩|⟨go,ay2,bK,hv,ZN,hg,mM,Qd,si,ajl⟩
  ·injection hv with e1 e2 e3
   subst e1 e2 e3;have ed:=run_append_nil (P:=prog) w 78 ty 74 i (.agg #[ay,ay]) underlying78 hi nE ⟨g0,0,none⟩ 1 1 (qS x) hl wY ae ae (by rw[mP];omega);rw[hr]at ed;injection ed with e1 e2
   injection e1 with e1
   injection e1 with e1
   injection e1 with e1
   subst e1 e2;refine λj u hu=>T7 (aR w.drew _) (λv hv=>?_) j u hu;rcases Array.mem_append.1 hv with hv|hv
   ·exact qu v (by simpa using hv)
   ·exact adN _ v hv
  ·injection hv with e1 e2 e3
   subst e1 e3;have vf:=h.sl go 0 rfl;have ai7: ∀u∈bK,ko u=true:=λu hu=>by
    obtain⟨j,hj,rfl⟩:=Array.mem_iff_getElem.1 hu;exact vf j _ (by rw[cell_of_row w go j bK _ _ hg,Array.getElem?_eq_getElem hj])
   by_cases G7:n+1<=ai
   ·have lP:n*i.size+(qS x).length<=bK.size:=by
     rw[hl,oM,si,<-Nat.add_mul];exact Nat.mul_le_mul_right _ G7
    have ed:=run_append_room (P:=prog) w 78 ty 74 i underlying78 hi go n ai bK hg ⟨g0,0,none⟩ 1 1 (qS x) hl wY h1 G7 lP;rw[hr]at ed;injection ed with e1 e2
    injection e1 with e1
    injection e1 with e1
    injection e1 with e1
    subst e1 e2;refine λj u hu=>T7 (setRow_heap w g bK _ _ _ hg) (λv hv=>?_) j u hu;rw[List.mem_toArray,List.mem_append,List.mem_append]at hv;rcases hv with (hv|hv)|hv
    ·exact ai7 v (by simpa using List.mem_of_mem_take hv)
    ·exact qu v hv
    ·exact ai7 v (by simpa using List.mem_of_mem_drop hv)
   ·have aB5: ∀j u,(fO l)[j]?=some u->w.cell? ((⟨go,0,none⟩:Addr).add j)=some u:=h.os.cells (g:=go) rfl;have ed:=run_append_grow (P:=prog) w 78 ty 74 i (.agg #[ay,ay]) underlying78 hi nE ⟨go,0,none⟩ n ai (fO l) (by rw[oM];exact h.os.1) aB5 ⟨g0,0,none⟩ 1 1 (qS x) hl wY ae ae (growslice_fits ae (by rw[mP];omega));rw[hr]at ed;injection ed with e1 e2
    injection e1 with e1
    injection e1 with e1
    injection e1 with e1
    subst e1 e2;refine λj u hu=>T7 (aR w.drew _) (λv hv=>?_) j u hu;rcases Array.mem_append.1 hv with hv|hv
    ·rcases Array.mem_append.1 hv with hv|hv
     ·exact T6 l v (by simpa using hv)
     ·exact qu v (by simpa using hv)
    ·exact adN _ v hv
 ·have hk: ∀y:Dk,y.ok w->y.ok w':=by
   intro y hy;rcases h.os.2 with⟨hv,qv⟩|⟨go,ay2,bK,hv,ZN,hg,_⟩
   ·rw[hv]at h3;exact Dk.ok.below hy ⟨h3.os,h3.tape,h3.output,h3.size,λk hk=>h3.block k hk (by simp[Value.ownBlock])⟩
   ·injection hv with e1 e2 e3
    subst e1 e3;exact PB.grown hy hg au au (h.sl go 0 rfl) h3
  intro y hy;rcases List.mem_append.1 hy with hy|hy
  ·exact hk y (h.ok y hy)
  ·rw[List.mem_singleton.1 hy];exact hk x hx
theorem NR {α:Type} {f:α->Int} : ∀ {l:List α} {k:Nat} (hk:k<l.length),(∀i (hi:i<l.length),i<k->f l[i]=0)->f l[k]≠0->kq f l=f l[k]
 |a::l,0,_,_,h=>by
  have h':f a≠0:=h;rw[kq,if_pos h'];rfl
 |a::l,k+1,hk,h0,h=>by
  have ha:f a=0:=h0 0 ak ae;rw[kq,if_neg (by simpa using ha)];exact NR (by simpa using hk) (λi hi Qc=>h0 (i+1) (by simpa using hi) ae) h
theorem adO {α:Type} {f:α->Int} {l:List α} (h: ∀i (hi:i<l.length),f l[i]=0):kq f l=0:=
 Tk.2 λa ha=>by
  obtain⟨i,hi,rfl⟩:=List.mem_iff_getElem.1 ha;exact h i hi
def Co (w:World) (r:List az×Int) (E:Ending) (w':World):Prop:= ∃A n ai l',E= .returned (.tuple #[.slice A n ai,.int .i64 r.2])/\bu l'=r.1/\dC w' w.heap.size A n ai l'/\aD w w'
theorem Co.no (w w':World) (x:Int) (h:aD w w'):Co w ([],x) (.returned (.tuple #[ay,.int .i64 x])) w':=⟨none,0,0,[],rfl,rfl,dC.nil _ _,h⟩
theorem dC.mono {B1:Nat} {A:aN} {n:Nat} {l:List Dk} (h:dC w B1 A n ai l) (hB:B0<=B1):dC w B0 A n ai l:=⟨h.hn,h.os.mono hB,h.sl,h.ok⟩
theorem auq {e:Int} {l:List az} {k:Nat} (hk:k<l.length):Cc e (l.take (k+1))=(Cc e (l.take k)||decide ((dr l[k]).1.epoch=e)):=by
 unfold Cc;rw[List.take_succ_eq_append_getElem hk,List.any_append];simp
theorem aur (A:aN) (n c:Nat) (l:List Dk) (e:Int) (w:World) (h:ti w A l) (hn:n=l.length) (j7:n<=100000) (hl: ∀x∈l,x.n<=1000000/\x.m<=1000000):
  Calls prog 67 #[.slice A n c,.int .i64 e] w (Co w (l9 (bu l) e)):=by
 have H:=aa h;have HN:=aa hn;have WS:=aa (λW hW=>adM A n c l W hW hn j7 hl);have eX:(bu l).length=n:=by rw[rW,hn]
 have kW:=aa eX;clear h hn hl eX;by_cases h1:e<1
 ·have d1:decide (e<1)=true:=decide_eq_true h1;have HD:=aa (show l9 (bu l) e=([],1) by unfold l9;rw[if_pos (.inl h1)]);go_in;go_wp2;go_ret2;rw[HD.out];exact Co.no _ _ _ (aI _ _)
 have d1:decide (e<1)=false:=decide_eq_false h1;by_cases h2:1000000<e
 ·have d2:decide (e>1000000)=true:=decide_eq_true h2;have HD:=aa (show l9 (bu l) e=([],1) by unfold l9;rw[if_pos (.inr h2)]);go_in;go_wp2;go_ret2;rw[HD.out];exact Co.no _ _ _ (aI _ _)
 have d2:decide (e>1000000)=false:=decide_eq_false h2;have aO: ¬(e<1\/1000000<e):=ae;have V1:=aa (show l9 (bu l) e=(if kq (λP=>(dr P).2) (bu l)≠0 then ([],kq (λP=>(dr P).2) (bu l))
  else if Cc e (bu l)=false then (bu l,0)
  else if kq (λP=>(fI P e (-1)).2) (bu l)≠0 then ([],kq (λP=>(fI P e (-1)).2) (bu l))
  else ((bu l).map λP=>(fI P e (-1)).1,0)) by unfold l9;rw[if_neg aO])
 clear aO;go_in;go_wp2_with fail;go_loopw [6,24] (λv x wr=> ∃k:Nat,k<=n/\x= .int .i64 (k:Nat)/\v= .bool (Cc e ((bu l).take k))/\(∀i (hi:i<(bu l).length),i<k->(dr (bu l)[i]).2=0)/\aD w wr) (λ_ x _=>n -(intOf x).toNat);case atStart=>exact⟨0,ae,rfl,rfl,λi _ h=>absurd h ae,aI _ _⟩
 case round=>
  obtain⟨k,hk,rfl,rfl,h0,hB⟩:=hrel;have HB:=aa hB;have H0:=aa h0;clear hB h0;by_cases aK:k<n
  ·have bB:k<l.length:=by rw[<-HN.out];exact aK
   have qr:k<(bu l).length:=(by rw[kW.out];exact aK);obtain⟨b,aS,hA,c0,c1⟩:=NO (H.below HB).rd bB;subst hA;have dI:=(H.below HB).ok _ (dY bB);have LV:(bu l)[k]=l[k].P:=(by simp[bu]);have iW:=aa (auq (e:=e) qr);have tE:=aa (NR (f:=λP=>(dr P).2) qr H0);have Hz:=aa (show (dr (bu l)[k]).2=0-> ∀i (hi:i<(bu l).length),i<k+1->(dr (bu l)[i]).2=0 from λhz i hi Qc=>by
    by_cases e:i=k
    ·subst e;exact hz
    ·exact H0.out i hi ae)
   rw[LV]at iW tE Hz;generalize l[k]=x at c0 c1 dI iW tE Hz;obtain⟨xA,xn,xc,xB,xm,xd,xP⟩:=x;simp only at c0 c1 iW tE Hz;have uR:=aa (λW (h:PB W xA xn xB xm xP)=>Gm (.agg #[.slice xA xn xc,.slice xB xm xd]) xP W ⟨_,_,_,_,_,_,rfl,h⟩);have nC:=aa (show PB wr xA xn xB xm xP from dI);obtain⟨rg,LT⟩: ∃rg,rg=dr xP:=⟨_,rfl⟩
   rw[<-LT]at uR iW tE Hz;obtain⟨⟨h0,VL,KM,h3,h4,h5,h6,h7,h8,h9⟩,ge⟩:=rg;simp only at iW tE Hz;have e1:(k:Int)<(n:Int):=ae;have io:=be wr (.cells #[.slice xA xn xc,.slice xB xm xd] 74);have iX:=aX HB io;have V9:=aa (nC.below io);clear dI LT LV bB qr io;generalize Cc e ((bu l).take k)=th at*;go_wp2_with fail;refine (uR _ V9).mono ?_;rintro E w2 ⟨rfl,av⟩;have mi:=ju iX av;have bq:=aa (mi.alloc mi.size (.cells #[.int .i64 h0,.int .i64 VL,.int .i64 KM,.string h3,.string h4,.string h5,.int .i64 h6,.int .i64 h7,.string h8,.string h9] 120));clear mi av c0 c1;simp only[kK];by_cases jy:ge=0;case neg=>
    have d3:(ge !=0)=true:=(by simpa using jy);have HD:=aa (show l9 (bu l) e=([],ge) by rw[V1.out,tE.out jy,if_pos jy]);clear jy;go_wp2;go_ret2;rw[HD.out];exact Co.no _ _ _ bq.out
   subst jy;have d3:((0:Int) !=0)=false:=rfl;cases th with
   |true=>
    go_wp2;go_roundw;case rel=>exact⟨k+1,ae,by go_num,by rw[iW.out];rfl,Hz rfl,bq⟩
    case measure=>exact cM
   |false=>
    have d4:(h0==e)=decide (h0=e):=by
     by_cases hh:h0=e
     ·rw[decide_eq_true hh];simpa using hh
     ·rw[decide_eq_false hh];simpa using hh
    go_wp2;go_roundw;case rel=>exact⟨k+1,ae,by go_num,by rw[iW.out,Bool.false_or],Hz rfl,bq⟩
    case measure=>exact cM
  ·obtain rfl:k=n:=ae;have e1: ¬(k:Int)<(k:Int):=ae;have Hf0:=aa (show kq (λP=>(dr P).2) (bu l)=0 from adO λi hi=>H0.out i hi (by rw[<-kW.out];exact hi));rw[show (bu l).take k=bu l by rw[<-kW.out,List.take_length]];obtain⟨th,XN⟩: ∃th,th=Cc e (bu l):=⟨_,rfl⟩
   have Hth:=aa XN;rw[<-XN];clear XN;go_wp2_with fail;refine (WS _ (H.below HB)).mono ?_;rintro E w3 ⟨l3,rfl,bQ,hO3,aL⟩;have hl3:l3.length=k:=hO3.hn.symm;have gX:=aa hO3;have cj:=aX HB aL;have Hp3:=aa bQ;have fo:wr.heap.size<w3.heap.size:=(hO3.os.lt _ rfl).2;have C0:w.heap.size<=wr.heap.size:=HB.size;clear bQ hO3 hl3 aL;generalize zF:wr.heap.size=g at*;clear zF;cases th with
   |false=>
    have HD:=aa (show l9 (bu l) e=(bu l,0) by rw[V1.out,Hf0.out,if_neg ak,if_pos Hth.symm]);go_wp2;go_ret2;rw[HD.out];exact⟨_,_,_,l3,rfl,Hp3,gX.mono ae,cj⟩
   |true=>
    have akW:=aa (show l9 (bu l) e=(if kq (λP=>(fI P e (-1)).2) (bu l)≠0 then ([],kq (λP=>(fI P e (-1)).2) (bu l)) else ((bu l).map λP=>(fI P e (-1)).1,0)) by rw[V1.out,Hf0.out,if_neg ak,if_neg (by rw[<-Hth.out];simp)]);go_wp2_with fail;go_loopw [51] (λx wr=> ∃(j:Nat) (lj:List Dk),j<=k/\x= .int .i64 (j:Nat)/\bu lj=((bu l).take j).map (λP=>(fI P e (-1)).1)++(bu l).drop j/\(∀i (hi:i<(bu l).length),i<j->(fI (bu l)[i] e (-1)).2=0)/\dC wr g (aw g) k k lj/\aD w wr) (λx _=>k -(intOf x).toNat);case atStart=>exact⟨0,l3,ae,rfl,by simp[Hp3.out],λi _ h=>absurd h ae,gX,cj⟩
    case round=>
     clear cj;obtain⟨j,lj,hj,rfl,hpj,XF,hO,hB⟩:=hrel;have HO:=aa hO;have oJ:=aa hB;have XD:=aa hpj;have YD:=aa XF;have Hlj:=aa (show lj.length=k from hO.hn.symm);have FE:g<wr.heap.size:=(hO.os.lt _ rfl).2;clear hO hB hpj XF;by_cases iU:j<k
     ·have bB:j<lj.length:=(by rw[Hlj.out];exact iU);have qr:j<(bu l).length:=(by rw[kW.out];exact iU);obtain⟨b,aS,hA,c0,c1⟩:=NO HO.rd.rd bB;injection hA with hA
      injection hA with mh oL
      subst mh oL;rw[Nat.zero_add]at c0 c1;have dI:=HO.ok _ (dY bB);have LV:lj[j].P=(bu l)[j]:=by
       have h1:(bu lj)[j]?=some lj[j].P:=(by simp[bu,bB]);rw[XD.out,ux (by simp;omega)]at h1;have h2:((bu l).take j).length=j:=(by rw[List.length_take];omega);rw[kQ,h2,Nat.sub_self,List.getElem?_drop,Nat.add_zero,cL qr]at h1;exact (bW h1).symm
      have tE:=aa (NR (f:=λP=>(fI P e (-1)).2) qr YD);have Hz:=aa (show (fI (bu l)[j] e (-1)).2=0-> ∀i (hi:i<(bu l).length),i<j+1->(fI (bu l)[i] e (-1)).2=0 from λhz i hi Qc=>by
       by_cases e:i=j
       ·subst e;exact hz
       ·exact YD.out i hi ae)
      have Im:=aa (show ((bu l).take (j+1)).map (λP=>(fI P e (-1)).1)=((bu l).take j).map (λP=>(fI P e (-1)).1)++ [(fI (bu l)[j] e (-1)).1] by rw[List.take_succ_eq_append_getElem qr,List.map_append];rfl);have Gr:=aa (show (bu l).drop j=(bu l)[j]::(bu l).drop (j+1) from List.drop_eq_getElem_cons qr);rw[<-LV]at tE Hz Im Gr;generalize lj[j]=x at c0 c1 dI tE Hz Im Gr;obtain⟨xA,xn,xc,xB,xm,xd,xP⟩:=x;simp only at c0 c1 tE Hz Im Gr;have uF:=aa (λW (h:PB W xA xn xB xm xP)=>adJ (.agg #[.slice xA xn xc,.slice xB xm xd]) xP e (-1) W ⟨_,_,_,_,_,_,rfl,h⟩);have nC:=aa (show PB wr xA xn xB xm xP from dI);obtain⟨rg,LT⟩: ∃rg,rg=fI xP e (-1):=⟨_,rfl⟩
      rw[<-LT]at uF tE Hz Im;obtain⟨Q,ce⟩:=rg;simp only at tE Hz Im;have e3:(j:Int)<(k:Int):=ae;have io:=be wr (.cells #[.slice xA xn xc,.slice xB xm xd] 74);have iX:=aX oJ io;have VT:=aa (HO.below io);have V9:=aa (nC.below io);have qu:wr.heap.size<(wr.alloc (.cells #[.slice xA xn xc,.slice xB xm xd] 74)).heap.size:=ak;clear dI LT LV io bB;go_wp2_with fail;refine (uF _ V9).mono ?_;rintro E w5 ⟨v5,rfl,⟨A5,n5,c5,B5,m5,d5,rfl,kX⟩,aY⟩;simp only at kX⊢;have al:=be w5 (.cells #[.slice A5 n5 c5,.slice B5 m5 d5] 74);have bO:=bg aY al;have yR:=aa (VT.below bO);have mR:=aX iX bO;have HY:=aa (aR w5 (.cells #[.slice A5 n5 c5,.slice B5 m5 d5] 74));have I9:=aa (PB.below (show PB w5 A5 n5 B5 m5 Q from kX) al);have ru:=aY.size;obtain⟨u5,Zz⟩: ∃u,u=w5.alloc (.cells #[.slice A5 n5 c5,.slice B5 m5 d5] 74):=⟨_,rfl⟩
      have Hu5:=aa Zz;rw[<-Zz]at yR mR HY I9;clear aY al bO Zz kX c0 c1 iX;go_upto_region 19 with fail
      rw[<-Hu5.out];have hgy:g<w5.heap.size:=ae;generalize hyy:w5.heap.size=gy at*;clear hyy;obtain⟨y0,y1,_,_⟩:=aV HY.out;by_cases sr:ce=0;case neg=>
       have f0:(ce !=0)=true:=(by simpa using sr);have HD:=aa (show l9 (bu l) e=([],ce) by rw[akW.out,tE.out sr,if_pos sr]);clear sr;go_wp2;go_ret2;rw[HD.out];exact Co.no _ _ _ mR.out
      subst sr;have f0:((0:Int) !=0)=false:=rfl;have p0:=yR.os.cellAt (j*2) ae;have p1:=yR.os.frozenAt (j*2);have p2:=yR.os.cellAt (j*2+1) ae;have p3:=yR.os.frozenAt (j*2+1);have bB:j<lj.length:=(by rw[Hlj.out];exact iU);rw[(rX lj j _ (cL bB)).1]at p0;rw[(rX lj j _ (cL bB)).2]at p2;have di:=yR.set iU (x:=⟨A5,n5,c5,B5,m5,d5,Q⟩) I9.out;have HS:=aa di;have Xs:=aa (mR.trans (iC di.2 (show w.heap.size<=g by omega) (by have:=mR.size;omega)));generalize lj[j]=fU at p0 p2;clear di;go_wp2;go_roundw;case rel=>
       refine⟨j+1,lj.set j ⟨A5,n5,c5,B5,m5,d5,Q⟩,ae,by go_num,?_,Hz rfl,HS.1,Xs⟩;rw[Ef,XD.out,Im.out,Gr.out];have h2:(((bu l).take j).map (λP=>(fI P e (-1)).1)).length=j:=(by rw[kQ,List.length_take];omega);rw[List.set_append_right _ _ ae,h2,Nat.sub_self,List.set_cons_zero,List.append_assoc];rfl
      case measure=>exact cM
     ·obtain rfl:j=k:=ae;have e3: ¬(j:Int)<(j:Int):=ae;have Hfc:=aa (show kq (λP=>(fI P e (-1)).2) (bu l)=0 from adO λi hi=>YD.out i hi (by rw[<-kW.out];exact hi));have HD:=aa (show l9 (bu l) e=((bu l).map (λP=>(fI P e (-1)).1),0) by rw[akW.out,Hfc.out,if_neg ak]);have oF:bu lj=(bu l).map λP=>(fI P e (-1)).1:=by
       rw[XD.out,<-kW.out,List.take_length,List.drop_length,List.append_nil]
      have Hpf:=aa oF;clear oF;go_wp2;go_ret2;rw[HD.out];exact⟨_,_,_,lj,rfl,Hpf,HO.mono ae,oJ⟩
end Go.Proofs.YtaglcaocpcbiiaaGreatDoor
