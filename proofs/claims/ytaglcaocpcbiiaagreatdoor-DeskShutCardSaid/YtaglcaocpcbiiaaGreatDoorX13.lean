import Derived.Test.YtaglcaocpcbiiaaGreatDoorX10
import Derived.OrdersIn
import Derived.TacticsIn
import Derived.Test.YtaglcaocpcbiiaaGreatDoorX11
import Derived.Test.YtaglcaocpcbiiaaGreatDoorX09
import Derived.Test.YtaglcaocpcbiiaaGreatDoorX12
import Derived.MapKept
set_option linter.unusedVariables false
set_option linter.unusedSimpArgs false
set_option maxRecDepth 100000
set_option maxHeartbeats 3000000
namespace Go.Proofs.YtaglcaocpcbiiaaGreatDoor
open Go.Proofs.Tryz Go.RowKit
section
variable {A:aN} {B N gf i id k m r:Nat} {F:Fence} {Kp:World->World->Prop} {R:Ending->World->Prop} {V:dW} {X Y:World} {assign body:Code} {fn:Func} {lb:bx} {o:Oper} {row:Option Nat} {t:TypeId} {xs:bJ}
def aew {α:Type} (F:Fence) (n:Nat) (P:Program) (g:Nat) (lb:bx) (encs:α->Array Value) (E:List α->α->World->Prop) (Kp:World->World->Prop) (S Sp:List α->Prop) (w:World):Prop:=
 ∀(l:Nat) (J Jx:List α->World->Prop) (W:World),aD w W->AbidesFrom W.heap.size J->AbidesFrom W.heap.size Jx->
  (∀aQ x X,J aQ X->E aQ x X->YieldAt F (n - 1) P l (encs x) X λe Y=>e= .returned (.bool true)/\J (aQ++ [x]) Y/\Kp X Y\/e= .returned (.bool false)/\Jx (aQ++ [x]) Y)->
  J [] W->CallsIn F n P g (#[.func (.yield l) #[] #[]]++lb) W λe Y=>(∃v,e= .returned v)/\((∃xs,S xs/\J xs Y)\/ ∃aQ,Sp aQ/\Jx aQ Y)
def aex (l:Nat) (r:Loop) (R:Option Code->World->Prop):Exit->Act->World->Prop
 | .normal,_,X=>X.heap[l]?=some (.loop {r with state:= .busy})/\R none (X.putObj l (.loop {r with state:= .ready,pending:=none}))
 | .ret,_,X=>X.heap[l]?=some (.loop {r with state:= .busy})/\R (some .ret) (X.putObj l (.loop {r with state:= .done,pending:=some .ret}))
 | .exit i,_,X=>X.heap[l]?=some (.loop {r with state:= .busy})/\R (some (.exit i)) (X.putObj l (.loop {r with state:= .done,pending:=some (.exit i)}))
 | .goto i,_,X=>X.heap[l]?=some (.loop {r with state:= .busy})/\R (some (.goto i)) (X.putObj l (.loop {r with state:= .done,pending:=some (.goto i)}))
 | .panic _,_,_=>False
 | .outgrown,_,_=>False
theorem avW {P:Program} {l:Nat} {r:Loop} {args:bx} (hl:X.heap[l]?=some (.loop r)) (hr:r.state= .ready) (hs:args.size=r.params.size) (hf:F.fn r.fn) (h:r.assign.wpIn (F.inRound l) m P (Exit.then (λa Y=>Y.heap[l]?=some (.loop r)/\r.body.wpIn (F.inRound l) m P (aex l r λj Z=>R (.returned (.bool j.isNone)) Z) a (Y.putObj l (.loop {r with state:= .busy}))) (λ_ _ _=>False))
   {tmps:=(r.params.zip args).foldl (λt (p,v)=>t.setIfInBounds p v) r.tmps,defers:= []} X):YieldAt F m P l args X R:=by
 refine⟨_,_,_,_,run_yield hl hs,roundIn_of_wpIn hf (wpIn_mono h ?_)⟩;intro e a Y hy;match e,hy with
 | .normal,⟨hY,hb⟩=>
  refine⟨_,run_beginRound hY hr,wpIn_mono hb ?_⟩;intro e2 a2 Z hz;match e2,hz with
  | .normal,⟨hZ,hR⟩=>exact⟨_,_,run_endRound none hZ,hR⟩
  | .ret,⟨hZ,hR⟩=>exact⟨_,_,run_endRound (some .ret) hZ,hR⟩
  | .exit i,⟨hZ,hR⟩=>exact⟨_,_,run_endRound (some (.exit i)) hZ,hR⟩
  | .goto i,⟨hZ,hR⟩=>exact⟨_,_,run_endRound (some (.goto i)) hZ,hR⟩
def aey {α:Type} (B:Nat) (Kp:World->World->Prop) (I:List α->World->Prop) (Ix:Code->List α->World->Prop) (xs:List α) (X:World):Exit->Act->World->Prop
 | .normal,_,Y=>KeepsFrom B X Y/\Kp X Y/\I xs Y
 | .ret,_,Y=>KeepsFrom B X Y/\Ix .ret xs Y
 | .exit i,_,Y=>KeepsFrom B X Y/\Ix (.exit i) xs Y
 | .goto i,_,Y=>KeepsFrom B X Y/\Ix (.goto i) xs Y
 | .panic _,_,_=>False
 | .outgrown,_,_=>False
theorem avX {n:Nat} {P:Program} {w:World} {α:Type} {g:Operand} {ps:Array Tmp} {Q:Exit->Act->World->Prop} {a:Act} (mn:F.round=none) (h1:1<=n) (hg:a.eval g= .func (.func gf) #[] lb) (hFg:F.fn gf) (eg: ∀args w,(callFunc gf args).run P w= .ok (.enter gf args) w) {encs:α->Array Value} {E:List α->α->World->Prop} {S Sp:List α->Prop} {w0:World} (hseq:aew F (n - 1) P gf lb encs E Kp S Sp w0) (eL:aD w0 w) (hKt: ∀ {A B C:World},Kp A B->Kp B C->Kp A C) (hKb: ∀(X:World) (l:Nat) (o o':Obj),w.heap.size<=l->X.heap[l]?=some o->o.isCells=false->o.isWalk=false->Kp X (X.putObj l o')) (Mm: ∀x,(encs x).size=ps.size) (I:List α->World->Prop) (Ix:Code->List α->World->Prop) (hI:OwnFrom w.heap.size I) (hIx: ∀c,OwnFrom w.heap.size (Ix c)) (h0:I [] w) (Ax:List α->α->Act->World->Prop) (Xw: ∀aQ x b,OwnFrom w.heap.size (λ(_:Unit) X=>Ax aQ x b X)) (hassign: ∀(l:Nat) (aQ:List α) (x:α) (X:World) (K:Act->World->Prop),I aQ X->E aQ x X->(∀b Y,KeepsFrom w.heap.size X Y->Kp X Y->I aQ Y->Ax aQ x b Y->K b Y)->
   assign.wpIn (F.inRound l) (n - 1 - 1) P (Exit.then K (λ_ _ _=>False)) {tmps:=(ps.zip (encs x)).foldl (λt (p,v)=>t.setIfInBounds p v) a.tmps,defers:= []} X) (hbody: ∀(l:Nat) (aQ:List α) (x:α) (b:Act) (X:World),w.heap.size<=l->(∃r,X.heap[l]?=some (.loop r))->I aQ X->Ax aQ x b X->body.wpIn (F.inRound l) (n - 1 - 1) P (aey w.heap.size Kp I Ix (aQ++ [x]) X) b X) (CQ: ∀(D:Nat) (xs:List α) (X:World),w.heap.size<=D->S xs->I xs X->X.heap[D]?=some (.deferred (some []))->Q .normal {a with defers:= {target:= .collected D,args:= #[]} ::a.defers} X) (kf: ∀(D:Nat) (c:Code) (aQ:List α) (X:World),w.heap.size<=D->Sp aQ->Ix c aQ X->X.heap[D]?=some (.deferred (some []))->c.wpIn F n P Q {a with defers:= {target:= .collected D,args:= #[]} ::a.defers} X):
  (Code.rangeFunc g ps assign body).wpIn F n P Q a w:=by
 refine wpIn_rangeFunc λfn sw=>?_;rw[mn];obtain⟨fF,mT⟩: ∃fF:LoopState->Option Code->Loop,∀s p,fF s p= {state:=s,pending:=p,fn:=fn,tmps:=a.tmps,params:=ps,assign:=assign,body:=body,defers:=w.heap.size} :=⟨_,λ_ _=>rfl⟩
 obtain⟨d,hd⟩: ∃d,d=w.heap.size:=⟨_,rfl⟩
 obtain⟨V,hV⟩: ∃V,V=(w.alloc (.deferred (some []))).alloc (.loop (fF .ready none)):=⟨_,rfl⟩
 have vs:V.heap.size=d+2:=by rw[hV,hd];simp
 have vl:V.heap[d+1]?=some (.loop (fF .ready none)):=by
  rw[hV,hd];have:=World.alloc_heap_new (w.alloc (.deferred (some []))) (.loop (fF .ready none));rwa [World.size_alloc]at this
 have vd:V.heap[d]?=some (.deferred (some [])):=by
  rw[hV,hd];exact (Below.heap_alloc _ _ _ ak).trans (World.alloc_heap_new w _)
 have vb:aD w V:=by rw[hV];exact ((aI _ w).alloc (aM _) _).alloc ak _
 have vi:I [] V:=by rw[hV];exact hI.alloc _ (hI.alloc _ h0)
 obtain⟨tB,xh⟩: ∃tB:LoopState->Option Code->World->Prop,∀s p X,tB s p X↔X.heap[d+1]?=some (.loop (fF s p))/\X.heap[d]?=some (.deferred (some [])):=⟨λs p X=>X.heap[d+1]?=some (.loop (fF s p))/\X.heap[d]?=some (.deferred (some [])),λ_ _ _=>Iff.rfl⟩
 have Ky: ∀s p {X Y:World} {row:Option Nat},tB s p X->X.grownBy Y row->(∀r,row=some r-> ∃o:Obj,X.heap[r]?=some o/\o.isWalk=true)->tB s p Y:=by
  intro s p X Y row ht lO bH;rw[xh]at ht⊢;exact⟨(grownBy_keeps lO bH ht.1 rfl).trans ht.1,(grownBy_keeps lO bH ht.2 rfl).trans ht.2⟩
 have Yr: ∀s p s' p' {X:World},tB s p X->tB s' p' (X.putObj (d+1) (.loop (fF s' p'))):=by
  intro s p s' p' X ht;rw[xh]at ht⊢;exact⟨World.putObj_heap_same (Array.getElem?_eq_some_iff.1 ht.1).1,(World.putObj_heap_other ae).trans ht.2⟩
 have WD: ∀s p {X Y:World},tB s p X->KeepsFrom w.heap.size X Y->tB s p Y:=by
  intro s p X Y ht hk;rw[xh]at ht⊢;exact⟨hk.same _ _ ae ht.1 rfl,hk.same _ _ ae ht.2 rfl⟩
 have far: ∀ {X:World} {row:Option Nat},(∀r,row=some r->V.heap.size<=r/\ ∃o:Obj,X.heap[r]?=some o/\o.isWalk=true)-> ∀r,row=some r->w.heap.size<=r/\ ∃o:Obj,X.heap[r]?=some o/\o.isCells=false:=by
  intro X row h r e;obtain⟨hB,o,ho,hw⟩:=h r e;exact⟨ae,o,ho,Obj.not_cells_of_walk hw⟩
 refine⟨d+1,[{target:= .collected d,args:= #[]}],V, {target:= .fn (.func gf) lb,args:= #[.func (.yield (d+1)) #[] #[]]},V,gf,#[.func (.yield (d+1)) #[] #[]]++lb,V,?_,?_,?_,?_,λ_=>h1,?_⟩
 ·have:=run_enterLoop_outer (P:=P) (w:=w) fn a.tmps ps assign body;rw[hV,hd,mT];exact this
 ·simp only[resolve,hg];simp[go_sem]
 ·intro f' hf';simp[Target.leads]at hf';subst hf';exact hFg
 ·simp[invoke,go_sem,eg]
 refine (hseq (d+1) (λaQ X=>I aQ X/\tB .ready none X) (λaQ X=> ∃c,Ix c aQ X/\tB .done (some c) X) V (eL.trans (vb.mono eL.size))
  (λs X Y row hs lO bH=>⟨hI s X Y row hs.1 lO (far bH),Ky _ _ hs.2 lO λr e=>(bH r e).2⟩)
  (λs X Y row ⟨c,hc,ht⟩ lO bH=>⟨c,hIx c s X Y row hc lO (far bH),Ky _ _ ht lO λr e=>(bH r e).2⟩)
  ?_ ⟨vi,(xh _ _ _).2 ⟨vl,vd⟩⟩).mono ?_
 ·rintro aQ x X ⟨hi,ht⟩ hE;have hl:=((xh _ _ _).1 ht).1;refine avW hl (by rw[mT]) (by rw[mT];exact Mm x) (by rw[mT];exact sw) ?_;have Wq:=hassign (d+1) aQ x X (λb Y=>Y.heap[d+1]?=some (.loop (fF .ready none))/\body.wpIn (F.inRound (d+1)) (n - 1 - 1) P (aex (d+1) (fF .ready none) λj Z=>(.returned (.bool j.isNone):Ending)= .returned (.bool true)/\(I (aQ++ [x]) Z/\tB .ready none Z)/\Kp X Z\/(.returned (.bool j.isNone):Ending)= .returned (.bool false)/\ ∃c,Ix c (aQ++ [x]) Z/\tB .done (some c) Z) b (Y.putObj (d+1) (.loop (fF .busy none)))) hi hE ?_
  ·rw[mT]at Wq⊢;simp only[mT]at Wq⊢;exact Wq
  intro b Y hkf hkp hiY KV;have htY:=WD _ _ ht hkf;have QF:=((xh _ _ _).1 htY).1;refine⟨QF,?_⟩;have VA:=Yr _ _ .busy none htY;have gq:Kp Y (Y.putObj (d+1) (.loop (fF .busy none))):=hKb _ _ _ _ ae QF rfl rfl;refine wpIn_mono (hbody (d+1) aQ x b _ ae ⟨_,((xh _ _ _).1 VA).1⟩ (hI.putObj _ hiY ae QF rfl) ((Xw aQ x b).putObj (s:=()) _ KV ae QF rfl)) ?_;have Ii: ∀s p,({fF .ready none with state:=s,pending:=p} :Loop)=fF s p:=λs p=>by rw[mT,mT]
  have akG:({fF .ready none with state:= .busy} :Loop)=fF .busy none:=by rw[mT,mT]
  have left: ∀(c:Code) {Z:World},KeepsFrom w.heap.size (Y.putObj (d+1) (.loop (fF .busy none))) Z->Ix c (aQ++ [x]) Z->Z.heap[d+1]?=some (.loop {fF .ready none with state:= .busy})/\ ∃c',Ix c' (aQ++ [x]) (Z.putObj (d+1) (.loop {fF .ready none with state:= .done,pending:=some c}))/\tB .done (some c') (Z.putObj (d+1) (.loop {fF .ready none with state:= .done,pending:=some c})):=by
   intro c Z hk hx;have Mo:=WD _ _ VA hk;have Iw:=((xh _ _ _).1 Mo).1;rw[akG,Ii];exact⟨Iw,c,(hIx c).putObj _ hx ae Iw rfl,Yr _ _ _ _ Mo⟩
  intro e b2 Z hz;match e,hz with
  | .normal,⟨hk,hkp2,hiZ⟩=>
   have Mo:=WD _ _ VA hk;have Iw:=((xh _ _ _).1 Mo).1;show Z.heap[d+1]?=some (.loop {fF .ready none with state:= .busy})/\_;rw[akG,Ii];exact⟨Iw,.inl ⟨rfl,⟨hI.putObj _ hiZ ae Iw rfl,Yr _ _ _ _ Mo⟩,hKt hkp (hKt (hKt gq hkp2) (hKb _ _ _ _ ae Iw rfl rfl))⟩⟩
  | .ret,⟨hk,hx⟩=>exact⟨(left _ hk hx).1,.inr ⟨rfl,(left _ hk hx).2⟩⟩
  | .exit i,⟨hk,hx⟩=>exact⟨(left _ hk hx).1,.inr ⟨rfl,(left _ hk hx).2⟩⟩
  | .goto i,⟨hk,hx⟩=>exact⟨(left _ hk hx).1,.inr ⟨rfl,(left _ hk hx).2⟩⟩
 ·rintro e X ⟨⟨v,rfl⟩,⟨xs,hS,hi,ht⟩|⟨aQ,O1,c,hx,ht⟩⟩
  ·obtain⟨hl,hk⟩:=(xh _ _ _).1 ht;have LA:=run_endLoop (P:=P) hl (by rw[mT];simp);have hp:(fF .ready none).pending=none:=by rw[mT]
   rw[hp]at LA;exact⟨none,_,LA,CQ d xs _ ae hS (hI.putObj _ hi ae hl rfl) ((World.putObj_heap_other ae).trans hk)⟩
  ·obtain⟨hl,hk⟩:=(xh _ _ _).1 ht;have LA:=run_endLoop (P:=P) hl (by rw[mT];simp);have hp:(fF .done (some c)).pending=some c:=by rw[mT]
   rw[hp]at LA;exact⟨some c,_,LA,kf d c aQ _ ae O1 ((hIx c).putObj _ hx ae hl rfl) ((World.putObj_heap_other ae).trans hk)⟩
theorem avY {n:Nat} {P:Program} {w:World} {g:Operand} {p t:Tmp} {Q:Exit->Act->World->Prop} {a:Act} (mn:F.round=none) (h1:1<=n) (hg:a.eval g= .func (.func gf) #[] lb) (hFg:F.fn gf) (eg: ∀args w,(callFunc gf args).run P w= .ok (.enter gf args) w) {E:List Value->Value->World->Prop} {S Sp:List Value->Prop} (hseq:aew F (n - 1) P gf lb (λx:Value=> #[x]) E Kp S Sp w) (hKt: ∀ {A B C:World},Kp A B->Kp B C->Kp A C) (hKr: ∀X,Kp X X) (hKb: ∀(X:World) (l:Nat) (o o':Obj),w.heap.size<=l->X.heap[l]?=some o->o.isCells=false->o.isWalk=false->Kp X (X.putObj l o')) (I:List Value->World->Prop) (Ix:Code->List Value->World->Prop) (hI:OwnFrom w.heap.size I) (hIx: ∀c,OwnFrom w.heap.size (Ix c)) (h0:I [] w) (hE: ∀aQ x,OwnFrom w.heap.size (λ(_:Unit) X=>E aQ x X)) (hassign: ∀(l:Nat) (x:Value) (X:World) (K:Act->World->Prop),K {tmps:=(a.tmps.setIfInBounds p x).setIfInBounds t x,defers:= []} X->assign.wpIn (F.inRound l) (n - 1 - 1) P (Exit.then K (λ_ _ _=>False)) {tmps:=a.tmps.setIfInBounds p x,defers:= []} X) (hbody: ∀(l:Nat) (aQ:bJ) (x:Value) (X:World),w.heap.size<=l->(∃r,X.heap[l]?=some (.loop r))->I aQ X->E aQ x X->body.wpIn (F.inRound l) (n - 1 - 1) P (aey w.heap.size Kp I Ix (aQ++ [x]) X) {tmps:=(a.tmps.setIfInBounds p x).setIfInBounds t x,defers:= []} X) (CQ: ∀(D:Nat) (xs:bJ) (X:World),w.heap.size<=D->S xs->I xs X->X.heap[D]?=some (.deferred (some []))->Q .normal {a with defers:= {target:= .collected D,args:= #[]} ::a.defers} X) (kf: ∀(D:Nat) (c:Code) (aQ:bJ) (X:World),w.heap.size<=D->Sp aQ->Ix c aQ X->X.heap[D]?=some (.deferred (some []))->c.wpIn F n P Q {a with defers:= {target:= .collected D,args:= #[]} ::a.defers} X):
  (Code.rangeFunc g #[p] assign body).wpIn F n P Q a w:=
 avX mn h1 hg hFg eg hseq (aI _ _) hKt hKb (λ_=>rfl) I Ix hI hIx h0
  (λaQ x b X=>b= {tmps:=(a.tmps.setIfInBounds p x).setIfInBounds t x,defers:= []} /\E aQ x X)
  (λaQ x b s X Y row h hg hr=>⟨h.1,hE aQ x () X Y row h.2 hg hr⟩)
  (λl aQ x X K hi he hK=>by
   have:=hassign l x X K (hK _ _ ⟨aM _,λk o _ h _=>h⟩ (hKr X) hi ⟨rfl,he⟩);simpa using this)
  (λl aQ x b X hl hr hi hb=>by
   obtain⟨rfl,he⟩:=hb;exact hbody l aQ x X hl hr hi he)
  CQ kf
def ChA (w:World) (b:Nat) (N area:Nat):Prop:= ∃x y z,bj w b #[.int .i64 (N:Nat),.int .i64 (area:Nat),x,y,z] 171
abbrev K6 (g bC bi fJ:Nat) (a b c1 c2 d e:Value) (W:World):Prop:=(W.cell? ⟨g,0,none⟩=some a/\W.cell? ⟨g,1,none⟩=some b)/\(W.cell? ⟨bC,0,none⟩=some c1/\W.cell? ⟨bC,1,none⟩=some c2)/\(W.cell? ⟨bi,0,none⟩=some d/\W.cell? ⟨fJ,0,none⟩=some e)
section
variable {g bC bi fJ:Nat} {a b c1 c2 d e:Value} {W W':World}
theorem Ut (h:K6 g bC bi fJ a b c1 c2 d e W) (hb:aD W W'):K6 g bC bi fJ a b c1 c2 d e W':=⟨i6 h.1 hb,i6 h.2.1 hb,i6 h.2.2 hb⟩
theorem aeA (h:K6 g bC bi fJ a b c1 c2 d e W):K6 g bC bi fJ a b c1 c2 d e W.drew:=Ut h ya3
theorem GP {b b' o o':Nat} (h:b≠b'):(⟨b,o,none⟩:Addr)≠⟨b',o',none⟩:=λe=>h (congrArg Addr.block e)
theorem aeB (h:K6 g bC bi fJ a b c1 c2 d e W) (n1:r≠g) (n2:r≠bC) (n3:r≠bi) (n4:r≠fJ) (u:Value):K6 g bC bi fJ a b c1 c2 d e (W.setCell ⟨r,i,none⟩ u):=
 ⟨ip h.1 (GP n1) (GP n1),ip h.2.1 (GP n2) (GP n2),ip h.2.2 (GP n3) (GP n4)⟩
theorem avZ (h:K6 g bC bi fJ a b c1 c2 d e W) (n1:r≠g) (n2:r≠bC) (n3:r≠bi) (n4:r≠fJ) (u v:Value):K6 g bC bi fJ a b c1 c2 d e ((W.setCell ⟨r,0,none⟩ u).setCell ⟨r,1,none⟩ v):=aeB (aeB h n1 n2 n3 n4 u) n1 n2 n3 n4 v
end
theorem aeC (v:Value) (P:az) (bC bi fJ:Nat) (N area i:Nat) (s:ag) (w:World) (h:dT w v P) (hC:ChA w bC N area) (hi:w.cell? ⟨bi,0,none⟩=some (.int .i64 (i:Nat))) (hs:w.cell? ⟨fJ,0,none⟩=some (.string s)) (hN:N<=64) (ha:area<=1) (K4:i<=64):
  Calls prog 190 #[v,.pointer (aw bC),.pointer (aw bi),.pointer (aw fJ)] w (kj w (i' ((3+(1 - area)*N+i:Nat):Int) s P)):=by
 obtain⟨A,n,c,B,m,d,rfl,h⟩:=h;obtain⟨x,y,z,hC⟩:=hC;obtain⟨hX,hA,bG⟩:=qP w #[.slice A n c,.slice B m d] 74;have HP:=aa (h.below bG);have HX:=aa hX;have HB:=aa bG;have lc:=bf hC;have li:=cU hi;have ls:=cU hs;simp only at li ls;obtain⟨p0,p1,_,_⟩:=aV hA;obtain⟨⟨c0,c1,_,_,_⟩,_⟩:=jV (aJ hC bG);have i0:=No hi bG;have s0:=No hs bG;have HSe:=aa (λW=>ad3 N (1 - area) area i W hN ae K4);have fo:(1:Int)-(area:Int)=((1 - area:Nat):Int):=ae;have hw:IntKind.i64.wrap ((1 - area:Nat):Int)=((1 - area:Nat):Int):=IntWalk.i64_in _ ae;generalize 3+(1 - area)*N+i=ix at HSe⊢;have HW:=aa (λW (hW:PB W A n B m P)=>acd (.agg #[.slice A n c,.slice B m d]) P (ix:Nat) s W ⟨_,_,_,_,_,_,rfl,hW⟩);obtain⟨r,hr⟩: ∃r,r=i' (ix:Nat) s P:=⟨_,rfl⟩
 rw[<-hr]at HW⊢;clear h hX hA bG hC hi hs hr;go_in;go_upto_region 1 with fail
 obtain⟨W0,xC⟩: ∃W0,W0=((w.alloc (.cells #[.slice A n c,.slice B m d] 74)).alloc (.cells zP 74)):=⟨_,rfl⟩
 rw[<-xC]at HP HX HB p0 p1 c0 c1 i0 s0⊢;have K0:K6 w.heap.size bC bi fJ (.slice A n c) (.slice B m d) (.int .i64 (N:Nat)) (.int .i64 (area:Nat)) (.int .i64 (i:Nat)) (.string s) W0:=⟨⟨p0,p1⟩,⟨c0,c1⟩,⟨i0,s0⟩⟩
 have n1:w.heap.size+1≠w.heap.size:=ae;have n2:w.heap.size+1≠bC:=ae;have n3:w.heap.size+1≠bi:=ae;have n4:w.heap.size+1≠fJ:=ae;clear xC p0 p1 c0 c1 i0 s0 lc li ls;go_region_held3 (λW=>(W.cell? ⟨w.heap.size,0,none⟩=some (.slice A n c)/\W.cell? ⟨w.heap.size,1,none⟩=some (.slice B m d))/\(W.cell? ⟨bC,0,none⟩=some (.int .i64 (N:Nat))/\W.cell? ⟨bC,1,none⟩=some (.int .i64 (area:Nat)))/\(W.cell? ⟨bi,0,none⟩=some (.int .i64 (i:Nat))/\W.cell? ⟨fJ,0,none⟩=some (.string s)))
  (first|with_reducible assumption|with_reducible exact aeA K0|with_reducible exact avZ Q5 n1 n2 n3 n4 _ _)
  (first
   |((go_at_call 180;with_reducible refine (HSe.out _).mono ?_);rintro _ w4 ⟨rfl,hb4'⟩;have aP:=bg ((aI _ W0).drew) hb4';have Q4:=Ut (aeA K0) hb4';clear hb4';replace HX:=aT HX aP;replace HP:=aa (HP.out.below aP);replace HB:=aX HB aP)
   |((go_at_call 149;with_reducible refine (HW.out _ HP.out).mono ?_);rintro _ w5 ⟨v5,rfl,⟨A5,n5,c5,B5,m5,d5,rfl,lK⟩,aY⟩;have Q5:=Ut Q4 aY;replace HX:=aT HX aY;replace HB:=aX HB aY;obtain⟨x0,x1,x2,x3⟩:=aV HX.out))
 all_goals
  go_wp2_with fail
  refine bodyPost_ret (dJ rfl _ _ (w.heap.size+1) ah _ (eP (eA HX _ _))) rfl ?_
  exact⟨_,rfl,⟨_,_,_,_,_,_,rfl,lK.two HX⟩,dL HB ae _ _⟩
def Eo (bC N area:Nat) (V:dW) (k:Nat) (w:World) (v:Value):Prop:=
 (k=N/\v= .func (.func 152) #[] #[])\/
 (k<N/\ ∃bi fJ,v= .func (.func 190) #[] #[.pointer (aw bC),.pointer (aw bi),.pointer (aw fJ)]/\bj w bi #[.int .i64 (k:Nat)] 3/\bj w fJ #[.string (V.bl.getD k eR)] 9/\ChA w bC N area)
theorem Eo.kept {bC area:Nat} {v:Value} (h:Eo bC N area V k X v) (hg:X.grownBy Y row) (hr: ∀r,row=some r-> ∃o:Obj,X.heap[r]?=some o/\o.isCells=false):Eo bC N area V k Y v:=by
 rcases h with h|⟨hk,bi,fJ,h1,h2,h3,x,y,z,h4⟩
 ·exact .inl h
 ·exact .inr ⟨hk,bi,fJ,h1,rL h2 hg hr,rL h3 hg hr,x,y,z,rL h4 hg hr⟩
def Ep (V:dW) (N area k:Nat):az->az×Int:=if k<N then acX V N area k else lX
theorem aeD {area:Nat} (hk:k<=N):(sZ V N area).take (k+1)=(sZ V N area).take k++ [Ep V N area k]:=by
 rw[List.take_add_one];congr 1;unfold sZ Ep;by_cases h:k<N
 ·rw[if_pos h,Vv (by rw[NB];exact h),Gt,nA,List.getElem?_range h];rfl
 ·have:k=N:=ae;subst this;rw[if_neg h,ux (by rw[NB];exact aM _),NB,Nat.sub_self];rfl
theorem av0 (n:Nat) (hn:1<=n) (yl bV bC T:Nat) (N area nV cV:Nat) (AV:aN) (V:dW) (x y z:Value) (w1 W:World) (hT:T=w1.heap.size) (cS:Below T w1 W) (hr:Rd w1 AV (aZ V.bl)) (hm:nV=V.bl.length) (hN:N=nV) (hl:nV<=64) (bv:bj W bV #[.slice AV nV cV,.string V.rt] 80) (bc:bj W bC #[.int .i64 (N:Nat),.int .i64 (area:Nat),x,y,z] 171) (J Jx:List Value->World->Prop) (hJ:AbidesFrom W.heap.size J) (hY: ∀aQ x W',J aQ W'->Eo bC N area V aQ.length W' x->YieldAt Fence.wide (n - 1) prog yl #[x] W' λe W2=>(e= .returned (.bool true)/\J (aQ++ [x]) W2/\Ah T [bV,bC] W' W2)\/(e= .returned (.bool false)/\Jx (aQ++ [x]) W2)) (h0:J [] W):
  CallsIn Fence.wide n prog 189 #[.func (.yield yl) #[] #[],.pointer (aw bV),.pointer (aw bC)] W λe W'=>(∃v,e= .returned v)/\((∃xs:bJ,xs.length=N+1/\J xs W')\/(∃aQ:bJ,True/\Jx aQ W')):=by
 have HY:=aa hY;have HM:=aa hm;have ev:=aa hr;have LX:=aa hJ;subst hT hN;have aiK:w1.heap.size<=W.heap.size:=cS.size;have c1:=(aV bv).1;refine callsIn_of_wp func189 rfl trivial ?_ rfl;simp only[ntmps189,List.size_toArray,List.length_cons,List.length_nil,Nat.reduceAdd,Nat.reduceSub,Array.replicate_succ,Array.replicate_zero,List.push_toArray,List.append_toArray,List.nil_append,List.cons_append];gi_wp2;gi_loopw [10] (λu wr=> ∃(i:Nat) (aQ:bJ),i<=N/\u= .int .i64 (i:Nat)/\aQ.length=i/\bj wr bV #[.slice AV N cV,.string V.rt] 80/\bj wr bC #[.int .i64 (N:Nat),.int .i64 (area:Nat),x,y,z] 171/\aD w1 wr/\W.heap.size<=wr.heap.size/\J aQ wr) (λu _=>N -(intOf u).toNat);case atStart=>exact⟨0,[],ae,rfl,rfl,bv,bc,cS,aM _,h0⟩
 case round=>
  obtain⟨i,aQ,hi,rfl,xy,bv,bc,hb,cg,hJ⟩:=hrel;by_cases aK:i<N
  ·have e1:decide ((i:Int)<(N:Int))=true:=by simp;omega
   have bB:i<V.bl.length:=(by rw[<-HM.out];exact aK);obtain⟨bb,aS,hA,k0⟩:=kG (ev.below hb) bB;subst hA;have Hs:=aa (show V.bl.getD i eR=V.bl[i] by rw[dh,cL bB];rfl);generalize V.bl[i]=s at k0 Hs;obtain⟨kI,kS,kb,mo⟩:=pq wr (.cells #[.int .i64 (i:Nat)] 3) (.cells #[.string s] 9);have BV2:=aa (aJ bv kb);have BC2:=aa (aJ bc kb);have P6:=LX.out _ _ _ none hJ (ub kb none) (λr e=>by cases e);have bq:=aa (hb.trans (kb.mono hb.size));have dg:=aa (bD cg kb.size);have hD:Eo bC N area V aQ.length ((wr.alloc (.cells #[.int .i64 (i:Nat)] 3)).alloc (.cells #[.string s] 9)) (.func (.func 190) #[] #[.pointer (aw bC),.pointer (some ⟨wr.heap.size,0,none⟩),.pointer (some ⟨wr.heap.size+1,0,none⟩)]):=
    .inr ⟨ae,wr.heap.size,wr.heap.size+1,rfl,by rw[xy];exact kI,by rw[xy,Hs.out];exact kS,x,y,z,BC2⟩
   obtain⟨fn,tmps,assign,body,hy,hR⟩:=HY.out aQ _ _ P6 hD;have jc:=aa hR;have FG:=aa xy;have q0:=(aV bv).1;gi_wp2;refine jc.mono ?_;rintro e W3 (⟨rfl,hJ4,jZ⟩|⟨rfl,hJx4⟩)
   ·have K9:=aa hJ4;have BV4:=aa ((jZ.2 bV ak).trans BV2);have BC4:=aa ((jZ.2 bC ak).trans BC2);have dD:=aa (bq.trans jZ.1);have j4:=aa (bD dg jZ.1.size);gi_wp2;go_roundw;case rel=>exact⟨i+1,_,ae,by go_num,by rw[dx,FG.out];rfl,BV4,BC4,dD,j4,K9⟩
    case measure=>exact cM
   ·have Lt:=aa hJx4;gi_wp2;refine bodyPost_ret (results_none rfl _ _ _) rfl ?_;exact⟨⟨_,rfl⟩,.inr ⟨_,trivial,Lt⟩⟩
  ·obtain rfl:i=N:=ae;have e1:decide ((i:Int)<(i:Int))=false:=ak;have hD:Eo bC i area V aQ.length wr (.func (.func 152) #[] #[]):= .inl ⟨xy,rfl⟩;obtain⟨fn,tmps,assign,body,hy,hR⟩:=HY.out aQ _ _ hJ hD;have jc:=aa hR;have FG:=aa xy;gi_wp2;refine jc.mono ?_;rintro e W3 (⟨rfl,hJ4,jZ⟩|⟨rfl,hJx4⟩)
   ·have K9:=aa hJ4;gi_wp2;go_end0;exact⟨⟨_,rfl⟩,.inl ⟨_,by rw[dx,FG.out];rfl,K9⟩⟩
   ·have Lt:=aa hJx4;gi_wp2;go_end0;exact⟨⟨_,rfl⟩,.inr ⟨_,trivial,Lt⟩⟩
theorem av1 (n:Nat) (c0 c1 c2 c3 c4 v0 v1:Value) (w:World):
  CallsIn Fence.wide n prog 116 #[.agg #[c0,c1,c2,c3,c4],.agg #[v0,v1]] w λe w'=>e= .returned (.func (.func 189) #[] #[.pointer (some ⟨w.heap.size+1,0,none⟩),.pointer (some ⟨w.heap.size,0,none⟩)])/\
   w'=(w.alloc (.cells #[c0,c1,c2,c3,c4] 171)).alloc (.cells #[v0,v1] 80):=by
 refine callsIn_of_wp func116 rfl trivial ?_ rfl;simp only[ntmps116,List.size_toArray,List.length_cons,List.length_nil,Nat.reduceAdd,Nat.reduceSub,Array.replicate_succ,Array.replicate_zero,List.push_toArray,List.append_toArray,List.nil_append,List.cons_append];exact G1
def GQ (Q:Exit->Act->World->Prop):Exit->Act->World->Prop
 | .normal,a,w=>Q .normal a w
 |_,_,_=>False
theorem aeE (Q:Exit->Act->World->Prop): ¬LetsOut (GQ Q):=λ⟨_,_,h⟩=>h
def aeF (o:Oper):Bool:=match o.op with| .defer _=>false|_=>true
def N4 (bk:Array Oper):Bool:=bk.toList.all aeF
theorem av2 {bk:Array Oper} (h:N4 bk=true) (hi:bk[i]?=some o): ∀c,o.op≠ .defer c:=by
 intro c e;have hm:o∈bk.toList:=by
  have:=Array.mem_of_getElem? hi;exact oC
 have:=List.all_eq_true.1 h o hm;unfold aeF at this;rw[e]at this;cases this
section
variable {P:Program} {bk:Array Oper} {md:Region.Mode} {l n:Nat} {Q:Exit->Act->World->Prop}
theorem av3 {a:Act} {w:World} {K K':Act->World->Prop} (hd: ∀c,o.op≠ .defer c) (hK: ∀a w,K a w->K' a w) (h:o.wp P a w K (GQ Q)):o.wpIn (Fence.wide.inRound l) n P a w K' Q:=by
 unfold Oper.wpIn;unfold Oper.wp at h;refine⟨λ_ _=>trivial,?_⟩;rw[show (Fence.wide.inRound l).round=some l from rfl,Oper.semAt_some l _ _ hd];generalize (execOp a.eval o).run P w=r at*;cases r with
 |ok x w'=>
  cases x<;>simp only[Oper.upon]at h<;>simp only[Oper.uponIn]
  case value=>exact hK _ _ h
  case skip=>exact hK _ _ h
  case defer=>exact hK _ _ h
  case enter f args=>
   refine⟨λhh=>(by cases hh),?_⟩;refine (CallsIn.inRound l (callsIn_wide.2 h)).mono λe tQ he=>?_;cases e with
   |returned v=>exact hK _ _ he
   |panicked c=>exact he.elim
   |outgrown=>exact (aeE Q he).elim
  case row row args=>
   refine⟨λhh=>(by cases hh),λc cs _=>?_⟩;obtain⟨v,tQ,hv,hs⟩:=h c cs;exact⟨v,tQ,hK _ _ hv,stepsIn_wide.2 hs⟩
 |halt x w'=>cases x<;>simp only[Oper.upon]at h<;>exact h.elim
theorem N5 (hd:N4 bk=true):
  ∀(cB:Nat) (cq:Array Bool) (a:Act) (w:World),wpAny P md bk (GQ Q) cB cq a w->wpAnyIn (Fence.wide.inRound l) n P md bk Q cB cq a w
 |0,_,_,_,h=>⟨h.1,h.2⟩
 |cB+1,cq,a,w,h=>⟨λh0=>h.1 h0,λi hi=>by
  have h1:=h.2 i hi;unfold wpOp at h1;unfold wpOpIn;split
  ·rename_i ho;simp only[ho]at h1;exact N5 hd cB _ _ _ h1
  ·rename_i o ho;simp only[ho]at h1;split
   ·rename_i hw;simp only[hw,if_true]at h1;rcases h1 with h1|h1
    ·exact av3 (av2 hd ho) (λa' w' h'=>N5 hd cB _ _ _ h') h1
    ·exact (aeE Q h1.2).elim
   ·rename_i hw;simp only[hw]at h1;exact⟨λ_ _=>trivial,N5 hd cB _ _ _ h1⟩⟩
theorem av4 {a:Act} {w:World} (hd:N4 bk=true) (hm:P.follows .mixedOrders=true) (h:wpAny P .any bk (GQ Q) bk.size (Array.replicate bk.size false) a {w with drawn:=w.drawn+1}):(Code.region id bk true).wpIn (Fence.wide.inRound l) n P Q a w:=
 wpIn_region_any hm (N5 hd _ _ _ _ h)
theorem av5 {a:Act} {w:World} {S:World->Prop} (hd:N4 bk=true) (hm:P.follows .mixedOrders=true) (h:wpAnyH P .any bk (GQ Q) S bk.size (Array.replicate bk.size false) a {w with drawn:=w.drawn+1}):(Code.region id bk true).wpIn (Fence.wide.inRound l) n P Q a w:=
 av4 hd hm (wpAny_of_held _ _ _ _ h)
end
structure ST (w:World) (p0 p1 v0 v1:Value) (D:Int) (r0 r1:Value) (z:Bool) (x:Int) (W:World):Prop where
 gp:bj W w.heap.size #[p0,p1] 74
 gv:bj W (w.heap.size+1) #[v0,v1] 80
 gd:bj W (w.heap.size+1+1) #[.int .i64 D] 3
 gr:bj W (w.heap.size+1+1+1) #[r0,r1] 74
 gb:bj W (w.heap.size+1+1+1+1) #[.bool z] 4
 ge:bj W (w.heap.size+1+1+1+1+1) #[.int .i64 x] 24
 hb:aD w W
 hz:w.heap.size+6<=W.heap.size
section
variable {w W W':World} {p0 p1 v0 v1 r0 r1:Value} {D x:Int} {z:Bool}
theorem ST.below (h:ST w p0 p1 v0 v1 D r0 r1 z x W) (hb:aD W W'):ST w p0 p1 v0 v1 D r0 r1 z x W':=
 ⟨aJ h.gp hb,aJ h.gv hb,aJ h.gd hb,aJ h.gr hb,aJ h.gb hb,aJ h.ge hb,h.hb.trans (hb.mono h.hb.size),bD h.hz hb.size⟩
theorem ST.kept (h:ST w p0 p1 v0 v1 D r0 r1 z x W) (hg:W.grownBy W' row) (hr: ∀r,row=some r->w.heap.size<=r/\ ∃o:Obj,W.heap[r]?=some o/\o.isCells=false):ST w p0 p1 v0 v1 D r0 r1 z x W':=
 have ed: ∀r,row=some r-> ∃o:Obj,W.heap[r]?=some o/\o.isCells=false:=λr e=>(hr r e).2
 ⟨rL h.gp hg ed,rL h.gv hg ed,rL h.gd hg ed,rL h.gr hg ed,rL h.gb hg ed,rL h.ge hg ed,h.hb.grown hg (Below.size h.hb) (λk e=>(hr k e).1),bD h.hz hg.size⟩
theorem ST.far (h:ST w p0 p1 v0 v1 D r0 r1 z x W) {g:Nat} (hg:w.heap.size+6<=g) (u:Value):ST w p0 p1 v0 v1 D r0 r1 z x (W.setCell ⟨g,i,none⟩ u):=
 ⟨cI h.gp ae _,cI h.gv ae _,cI h.gd ae _,cI h.gr ae _,cI h.gb ae _,cI h.ge ae _,h.hb.setCell (by dsimp only;omega) _,by simpa using h.hz⟩
theorem ST.setP (h:ST w p0 p1 v0 v1 D r0 r1 z x W) (a b:Value):ST w a b v0 v1 D r0 r1 z x ((W.setCell ⟨w.heap.size,0,none⟩ a).setCell ⟨w.heap.size,1,none⟩ b):=
 ⟨eA h.gp a b,cI (cI h.gv ae _) ae _,cI (cI h.gd ae _) ae _,cI (cI h.gr ae _) ae _,cI (cI h.gb ae _) ae _,cI (cI h.ge ae _) ae _,dL h.hb (aM _) _ _,by simpa using h.hz⟩
theorem ST.setD (h:ST w p0 p1 v0 v1 D r0 r1 z x W) (u:Int):ST w p0 p1 v0 v1 u r0 r1 z x (W.setCell ⟨w.heap.size+1+1,0,none⟩ (.int .i64 u)):=
 ⟨cI h.gp ae _,cI h.gv ae _,by have:=bt h.gd 0 (.int .i64 u);simpa using this,cI h.gr ae _,cI h.gb ae _,cI h.ge ae _,h.hb.setCell (by dsimp only;omega) _,by simpa using h.hz⟩
theorem ST.setR (h:ST w p0 p1 v0 v1 D r0 r1 z x W) (a b:Value) (z':Bool) (x':Int):ST w p0 p1 v0 v1 D a b z' x' ((((W.setCell ⟨w.heap.size+1+1+1,0,none⟩ a).setCell ⟨w.heap.size+1+1+1,1,none⟩ b).setCell ⟨w.heap.size+1+1+1+1,0,none⟩ (.bool z')).setCell ⟨w.heap.size+1+1+1+1+1,0,none⟩ (.int .i64 x')):=by
 have h4: ∀ {k:Nat} {o:Obj},W.heap[k]?=some o->k<w.heap.size+3->((((W.setCell ⟨w.heap.size+1+1+1,0,none⟩ a).setCell ⟨w.heap.size+1+1+1,1,none⟩ b).setCell ⟨w.heap.size+1+1+1+1,0,none⟩ (.bool z')).setCell ⟨w.heap.size+1+1+1+1+1,0,none⟩ (.int .i64 x')).heap[k]?=some o:=
  λhk hl=>cI (cI (cI (cI hk ae _) ae _) ae _) ae _
 refine⟨h4 h.gp ae,h4 h.gv ae,h4 h.gd ae,cI (cI (eA h.gr a b) ae _) ae _,?_,?_,(((h.hb.setCell (by dsimp only;omega) _).setCell (by dsimp only;omega) _).setCell (by dsimp only;omega) _).setCell (by dsimp only;omega) _,by simpa using h.hz⟩
 ·refine cI ?_ ae _;have:=bt (cI (cI h.gb (show w.heap.size+1+1+1+1≠w.heap.size+1+1+1 by omega) (i:=0) a) (show w.heap.size+1+1+1+1≠w.heap.size+1+1+1 by omega) (i:=1) b) 0 (.bool z');exact oC
 ·have:=bt (cI (cI (cI h.ge (show w.heap.size+1+1+1+1+1≠w.heap.size+1+1+1 by omega) (i:=0) a) (show w.heap.size+1+1+1+1+1≠w.heap.size+1+1+1 by omega) (i:=1) b) (show w.heap.size+1+1+1+1+1≠w.heap.size+1+1+1+1 by omega) (i:=0) (.bool z')) 0 (.int .i64 x');exact oC
end
theorem av6 (w:World) (p0 p1 v0 v1:Value) (D:Int):ST w p0 p1 v0 v1 D (ay) (ay) false 0 ((((((w.alloc (.cells #[p0,p1] 74)).alloc (.cells #[v0,v1] 80)).alloc (.cells #[.int .i64 D] 3)).alloc (.cells zP 74)).alloc (.cells #[.bool false] 4)).alloc (.cells #[.int .i64 0] 24)):=by
 have e: ∀(W:World) (o:Obj) (k:Nat),W.heap.size=k->(W.alloc o).heap[k]?=some o:=λW o k h=>by subst h;exact aR W o
 refine⟨pZ (pZ (pZ (pZ (pZ (aR w _) _) _) _) _) _,pZ (pZ (pZ (pZ (e _ _ _ ak) _) _) _) _,pZ (pZ (pZ (e _ _ _ ak) _) _) _,pZ (pZ (e _ _ _ ak) _) _,pZ (e _ _ _ ak) _,e _ _ _ ak,?_,ak⟩;exact ((((((aI _ _).alloc (aM _) _).alloc ak _).alloc (by simp;omega) _).alloc (by simp;omega) _).alloc (by simp;omega) _).alloc (by simp;omega) _
def aeG (Ds:List Nat):List Deferred:=Ds.map λD=> {target:= .collected D,args:= #[]}
structure Uu (B:Nat) (W W':World):Prop where
 hb:Below B W W'
 hc: ∀(k:Nat) (o:Obj),W.heap[k]?=some o->o.isCells=true->W'.heap[k]?=some o
theorem aeH {F:Fence} {n:Nat} {P:Program} {fn:Func} {tmps:bx} {R:Ending->World->Prop} (B:Nat): ∀(Ds:List Nat) (W:World),Ds.Nodup->(∀D∈Ds,B<=D/\W.heap[D]?=some (.deferred (some [])))->
  (∀W',Uu B W W'-> ∃v,(results fn tmps).run P W'= .ok v W'/\R (.returned v) W')->LeavesInM F n P fn tmps R (aeG Ds) .returning W
 | [],W,_,_,hR=>hR W ⟨aI _ _,λ_ _ h _=>h⟩
 |D::Ds,W,ln,hD,hR=>by
  obtain⟨h1,h2⟩:=hD D ak;rw[List.nodup_cons]at ln;have aK:D<W.heap.size:=bf h2;have hb:Below B W (W.putObj D (.deferred none)):=(aI B W).grown (grownBy_putObj' W D (.deferred none)) ae (λk e=>by cases e;omega);refine⟨ak,.inl ⟨D,_,rfl,run_takeDeferred h2,aeH B Ds _ ln.2 (λD' rj=>⟨(hD D' (by simp[rj])).1,?_⟩) λW' LY=>hR W' ⟨hb.trans LY.hb,λk o hk ho=>LY.hc k o ?_ ho⟩⟩⟩
  ·exact agI
  ·rw[World.putObj_heap_other (λe=>by subst e;rw[h2]at hk;cases hk;cases ho)];exact hk
theorem aeI {W W':World} (h:Rd W A xs) (hs:Uu B W W'):Rd W' A xs:=by
 intro j u hu;obtain⟨b,aS,hA,hc⟩:=h j u hu;refine⟨b,aS,hA,?_⟩;cases ho:W.heap[b]? with
 |none=>unfold World.cell? at hc;simp[ho]at hc
 |some o=>
  have Xx:o.isCells=true:=by
   unfold World.cell? at hc;cases o<;>simp[ho,Obj.isCells]at hc⊢
  exact (fB ((hs.hc b o ho Xx).trans ho.symm)).trans hc
theorem Ty.cells {w w':World} (h:Ty w A t) (hc: ∀(k:Nat) (o:Obj),w.heap[k]?=some o->o.isCells=true->w'.heap[k]?=some o):Ty w' A t:=λb aS e=>by
 obtain⟨cs,h1⟩:=h b aS e;exact⟨cs,hc b _ h1 rfl⟩
theorem dT.shut {W W':World} {v:Value} {P:az} (h:dT W v P) (hs:Uu B W W'):dT W' v P:=by
 obtain⟨A,n,c,B',m,d,rfl,h⟩:=h;exact⟨A,n,c,B',m,d,rfl,⟨h.hn,h.hm,aeI h.rs hs,aeI h.rc hs,h.ta.cells hs.hc,h.tb.cells hs.hc⟩⟩
theorem av7 {P:Program} {a b c:Tmp} {ta tb tc:TypeId} (h:fn.results= #[.cell a ta,.cell b tb,.cell c tc]) (tmps:bx) (w:World) (g k m:Nat) (ha:tmps.getD a undef= .pointer (aw g)) (hb:tmps.getD b undef= .pointer (aw k)) (hc:tmps.getD c undef= .pointer (aw m)) (x y z:Value) (hl:(loadVar ta ⟨g,0,none⟩).run P w= .ok x w) (hk:(loadVar tb ⟨k,0,none⟩).run P w= .ok y w) (hm:(loadVar tc ⟨m,0,none⟩).run P w= .ok z w):(results fn tmps).run P w= .ok (.tuple #[x,y,z]) w:=by
 have EV:tmps[a]?.getD undef= .pointer (aw g):=by simpa using ha
 have ky:tmps[b]?.getD undef= .pointer (aw k):=by simpa using hb
 have wV:tmps[c]?.getD undef= .pointer (aw m):=by simpa using hc
 simp[results,h,asAddr,EV,ky,wV,hl,hk,hm]
theorem av8 {w:World} {g:Nat} {s:Bool} (h:w.cell? ⟨g,0,none⟩=some (.bool s)):(loadVar 4 ⟨g,0,none⟩).run prog w= .ok (.bool s) w:=by
 go_simp
theorem av9 {w:World} {g:Nat} {s:Int} (h:w.cell? ⟨g,0,none⟩=some (.int .i64 s)):(loadVar 24 ⟨g,0,none⟩).run prog w= .ok (.int .i64 s) w:=by
 go_simp
theorem Kk {w W:World} {p0 p1 v0 v1 r0 r1:Value} {D x:Int} {z:Bool} (h:ST w p0 p1 v0 v1 D r0 r1 z x W) {r:az×Bool×Int} (hP:dT W (.agg #[r0,r1]) r.1) (hz:z=r.2.1) (hx:x=r.2.2) (Ds:List Nat) (hn:Ds.Nodup) (hD: ∀D∈Ds,w.heap.size<=D/\W.heap[D]?=some (.deferred (some []))) (tmps:bx) (ha:tmps.getD 6 undef= .pointer (some ⟨w.heap.size+1+1+1,0,none⟩)) (hb:tmps.getD 7 undef= .pointer (some ⟨w.heap.size+1+1+1+1,0,none⟩)) (hc:tmps.getD 8 undef= .pointer (some ⟨w.heap.size+1+1+1+1+1,0,none⟩)):
  LeavesInM Fence.wide 4 prog Tryz.f62 tmps (Cb w r) (aeG Ds) .returning W:=
 aeH w.heap.size Ds W hn hD λW' hS=>⟨_,av7 rfl _ _ _ _ _ ha hb hc _ _ _ (eP (hS.hc _ _ h.gr rfl)) (av8 (aj (hS.hc _ _ h.gb rfl) 0 _ rfl)) (av9 (aj (hS.hc _ _ h.ge rfl) 0 _ rfl)),by
  subst hz hx;exact⟨_,rfl,hP.shut hS,h.hb.trans hS.hb⟩⟩
structure SU (w:World) (gc gx:Nat) (cC:bx) (v0 v1:Value) (D:Int) (er:Int) (A1:aN) (n1 c1:Nat) (B1:aN) (m1 d1:Nat) (Q:az) (W:World):Prop where
 st:ST w (.slice A1 n1 c1) (.slice B1 m1 d1) v0 v1 D (ay) (ay) false 0 W
 pb:PB W A1 n1 B1 m1 Q
 hc:bj W gc cC 171
 hx:bj W gx #[.int .i64 er] 24
section
variable {w W W':World} {gc gx:Nat} {cC:bx} {v0 v1:Value} {D er:Int} {A1 B1:aN} {n1 c1 m1 d1:Nat} {Q:az}
theorem SU.below (h:SU w gc gx cC v0 v1 D er A1 n1 c1 B1 m1 d1 Q W) (hb:aD W W'):SU w gc gx cC v0 v1 D er A1 n1 c1 B1 m1 d1 Q W':=⟨h.st.below hb,h.pb.below hb,aJ h.hc hb,aJ h.hx hb⟩
theorem aeJ (h:Rd W A xs) (hc: ∀(k:Nat) (o:Obj),W.heap[k]?=some o->o.isCells=true->W'.heap[k]?=some o):Rd W' A xs:=by
 intro j u hu;obtain⟨b,aS,hA,fT⟩:=h j u hu;refine⟨b,aS,hA,?_⟩;cases ho:W.heap[b]? with
 |none=>unfold World.cell? at fT;simp[ho]at fT
 |some o=>
  have Xx:o.isCells=true:=by
   unfold World.cell? at fT;cases o<;>simp[ho,Obj.isCells]at fT⊢
  exact (fB ((hc b o ho Xx).trans ho.symm)).trans fT
theorem N6 (hg:W.grownBy W' row) (hr: ∀r,row=some r-> ∃o:Obj,W.heap[r]?=some o/\o.isCells=false): ∀(k:Nat) (o:Obj),W.heap[k]?=some o->o.isCells=true->W'.heap[k]?=some o:=λk o hk ho=>by
 refine (hg.block k (bf hk) (λe=>?_)).trans hk;obtain⟨o',ER,hc⟩:=hr k e.symm;rw[hk]at ER;obtain rfl:=bW ER;rw[ho]at hc;cases hc
theorem PB.kept {B:aN} {n:Nat} {P:az} (h:PB W A n B m P) (hg:W.grownBy W' row) (hr: ∀r,row=some r-> ∃o:Obj,W.heap[r]?=some o/\o.isCells=false):PB W' A n B m P:=
 ⟨h.hn,h.hm,aeJ h.rs (N6 hg hr),aeJ h.rc (N6 hg hr),h.ta.cells (N6 hg hr),h.tb.cells (N6 hg hr)⟩
theorem SU.kept (h:SU w gc gx cC v0 v1 D er A1 n1 c1 B1 m1 d1 Q W) (hg:W.grownBy W' row) (hr: ∀r,row=some r->w.heap.size<=r/\ ∃o:Obj,W.heap[r]?=some o/\o.isCells=false):SU w gc gx cC v0 v1 D er A1 n1 c1 B1 m1 d1 Q W':=
 ⟨h.st.kept hg hr,h.pb.kept hg (λr e=>(hr r e).2),rL h.hc hg (λr e=>(hr r e).2),rL h.hx hg (λr e=>(hr r e).2)⟩
end
structure SI (w:World) (gc gx:Nat) (cC:bx) (v0 v1:Value) (D:Nat) (l:List (az->az×Int)) (P:az) (aQ:bJ) (W:World):Prop where
 ex: ∃A1 n1 c1 B1 m1 d1 Q,fa (l.take aQ.length) P=(Q,0)/\aQ.length<=D/\SU w gc gx cC v0 v1 ((D - aQ.length:Nat):Int) 0 A1 n1 c1 B1 m1 d1 Q W
structure SX (w:World) (r:az×Bool×Int) (cd:Code) (W:World):Prop where
 ex:cd= .ret/\ ∃p0 p1 v0 v1 D r0 r1 z x,ST w p0 p1 v0 v1 D r0 r1 z x W/\dT W (.agg #[r0,r1]) r.1/\z=r.2.1/\x=r.2.2
theorem SI.kept {w:World} {gc gx:Nat} {cC:bx} {v0 v1:Value} {D:Nat} {l:List (az->az×Int)} {P:az} {aQ:bJ} {W W':World} (h:SI w gc gx cC v0 v1 D l P aQ W) (hg:W.grownBy W' row) (hr: ∀r,row=some r->w.heap.size<=r/\ ∃o:Obj,W.heap[r]?=some o/\o.isCells=false):SI w gc gx cC v0 v1 D l P aQ W':=by
 obtain⟨A1,n1,c1,B1,m1,d1,Q,h1,h2,h3⟩:=h.ex;exact⟨A1,n1,c1,B1,m1,d1,Q,h1,h2,h3.kept hg hr⟩
theorem SX.kept {w:World} {r:az×Bool×Int} {cd:Code} {W W':World} (h:SX w r cd W) (hg:W.grownBy W' row) (hr: ∀r,row=some r->w.heap.size<=r/\ ∃o:Obj,W.heap[r]?=some o/\o.isCells=false):SX w r cd W':=by
 obtain⟨h1,p0,p1,v0,v1,D,r0,r1,z,x,h2,⟨A,n,c,B,m,d,e,h3⟩,h4,h5⟩:=h.ex;exact⟨h1,p0,p1,v0,v1,D,r0,r1,z,x,h2.kept hg hr,⟨A,n,c,B,m,d,e,h3.kept hg (λr e=>(hr r e).2)⟩,h4,h5⟩
theorem Kl {n:Nat} {P:Program} {tmps:bx} {ds:List Deferred} {W:World} (h:LeavesInM F n P fn tmps R ds .returning W):NoPanic (bodyPostM F n P fn R) .ret {tmps:=tmps,defers:=ds} W:=h
theorem aeK {W:World} (h:Rd W A xs) {g:Nat} (aO:xs≠ []-> ∀b o,A=some ⟨b,o,none⟩->b≠g) (i:Nat) (v:Value):Rd (W.setCell ⟨g,i,none⟩ v) A xs:=by
 intro j u hu;obtain⟨b,aS,hA,hc⟩:=h j u hu;have hn:xs≠ []:=by rintro rfl;simp at hu
 exact⟨b,aS,hA,(fB (bz W ⟨g,i,none⟩ v b (aO hn b aS hA))).trans hc⟩
theorem PB.one {W:World} {B:aN} {n:Nat} {P:az} (h:PB W A n B m P) {g:Nat} {u:Value} (hg:W.heap[g]?=some (.cells #[u] t (0,0))) (hu: ∀s,u≠ .string s) (v:Value):PB (W.setCell ⟨g,0,none⟩ v) A n B m P:=by
 refine⟨h.hn,h.hm,aeK h.rs (λaO b o hA e=>?_) 0 v,aeK h.rc (λaO b o hA e=>?_) 0 v,h.ta.set g 0 v,h.tb.set g 0 v⟩
 ·subst e;cases pB:P.ss with
  |nil=>rw[pB]at aO;exact aO rfl
  |cons s l=>
   obtain⟨b',o',fV,hc⟩:=h.rs 0 (.string s) (by rw[pB];rfl);rw[hA]at fV;injection fV with fV
   injection fV with e1 e2
   subst e1 e2;rw[cell_of_row W b _ _ _ _ hg]at hc;match o with
   |0=>simp at hc;exact hu s hc
   |k+1=>simp at hc
 ·subst e;cases pB:P.cs with
  |nil=>rw[pB]at aO;exact aO rfl
  |cons s l=>
   obtain⟨b',o',fV,hc⟩:=h.rc 1 (.string s.2) (by rw[pB];rfl);rw[hA]at fV;injection fV with fV
   injection fV with e1 e2
   subst e1 e2;rw[cell_of_row W b _ _ _ _ hg]at hc;simp at hc
structure TC (w:World) (gx:Nat) (X Y:World):Prop where
 hb:Below w.heap.size X Y
 blk: ∀k,k<X.heap.size->w.heap.size+6<=k->k≠gx->Y.heap[k]?=X.heap[k]?
theorem TC.refl (w:World) (gx:Nat) (X:World):TC w gx X X:=⟨aI _ _,λ_ _ _ _=>rfl⟩
theorem TC.below {w:World} {gx:Nat} {Z:World} (h:TC w gx X Y) (hz:w.heap.size<=Y.heap.size) (hb:aD Y Z):TC w gx X Z:=
 ⟨h.hb.trans (hb.mono hz),λk hk h6 hx=>(hb.block k (jY hk h.hb.size)).trans (h.blk k hk h6 hx)⟩
theorem TC.set {w:World} {gx:Nat} (h:TC w gx X Y) {g:Nat} (hg:w.heap.size<=g/\g<w.heap.size+6\/g=gx/\w.heap.size<=gx) (u:Value):TC w gx X (Y.setCell ⟨g,i,none⟩ u):=
 ⟨h.hb.setCell (by dsimp only;omega) u,λk hk h6 hx=>(bz Y ⟨g,i,none⟩ u k (by dsimp only;omega)).trans (h.blk k hk h6 hx)⟩
theorem TC.keeps {w:World} {gx:Nat} (h:TC w gx X Y) (h6:w.heap.size+6<=B) (hx:gx<B):KeepsFrom B X Y:=
 ⟨h.hb.size,λk o hk ho _=>(h.blk k (bf ho) ae ae).trans ho⟩
theorem TC.kpt {w:World} {gx:Nat} (h:TC w gx X Y) {a b:Nat} (ha:w.heap.size+6<=a/\a≠gx/\a<X.heap.size) (hb:w.heap.size+6<=b/\b≠gx/\b<X.heap.size):Ah w.heap.size [a,b] X Y:=
 ⟨h.hb,λk hk=>by
  simp only[List.mem_cons,List.mem_nil_iff,or_false]at hk;rcases hk with rfl|rfl
  ·exact h.blk _ ha.2.2 ha.1 ha.2.1
  ·exact h.blk _ hb.2.2 hb.1 hb.2.1⟩
abbrev KA (a1 a2 a3 a4 a5 a6:Addr) (v1 v2 v3 v4 v5 v6:Value) (W:World):Prop:=(W.cell? a1=some v1/\W.cell? a2=some v2)/\(W.cell? a3=some v3/\W.cell? a4=some v4)/\(W.cell? a5=some v5/\W.cell? a6=some v6)
section
variable {a1 a2 a3 a4 a5 a6:Addr} {v1 v2 v3 v4 v5 v6:Value} {W W':World}
theorem Uv (h:KA a1 a2 a3 a4 a5 a6 v1 v2 v3 v4 v5 v6 W) (hb:aD W W'):KA a1 a2 a3 a4 a5 a6 v1 v2 v3 v4 v5 v6 W':=⟨i6 h.1 hb,i6 h.2.1 hb,i6 h.2.2 hb⟩
theorem aeL (h:KA a1 a2 a3 a4 a5 a6 v1 v2 v3 v4 v5 v6 W):KA a1 a2 a3 a4 a5 a6 v1 v2 v3 v4 v5 v6 W.drew:=Uv h ya3
theorem AL (h:KA a1 a2 a3 a4 a5 a6 v1 v2 v3 v4 v5 v6 W) (hr:r≠a1.block/\r≠a2.block/\r≠a3.block/\r≠a4.block/\r≠a5.block/\r≠a6.block) (u:Value):KA a1 a2 a3 a4 a5 a6 v1 v2 v3 v4 v5 v6 (W.setCell ⟨r,i,none⟩ u):=
 ⟨ip h.1 (λe=>hr.1 (congrArg Addr.block e)) (λe=>hr.2.1 (congrArg Addr.block e)),ip h.2.1 (λe=>hr.2.2.1 (congrArg Addr.block e)) (λe=>hr.2.2.2.1 (congrArg Addr.block e)),ip h.2.2 (λe=>hr.2.2.2.2.1 (congrArg Addr.block e)) (λe=>hr.2.2.2.2.2 (congrArg Addr.block e))⟩
end
def SE (gx:Nat) (er:Int) (W:World):Prop:=W.cell? ⟨gx,0,none⟩=some (.int .i64 er)
theorem SE.set {gx:Nat} {er:Int} {W:World} (h:SE gx er W) (hr:r≠gx) (u:Value):SE gx er (W.setCell ⟨r,i,none⟩ u):=
 (fB (bz W ⟨r,i,none⟩ u gx (by dsimp only;omega))).trans h
theorem av' {l:List (az->az×Int)} {P:az} {D:Nat} {er:Int} (hk:k<=D) (h:fa (l.take k) P=(bI,er)) (he:er≠0):fa (l.take D) P=(bI,er):=by
 rw[Tj l hk,Np _ _ _ (by rw[h];exact he),h]
section
attribute [local go_sem] Oper.semAt_some
theorem aeM (W:World) (o1 o2:Obj):((W.alloc o1).alloc o2).heap[W.heap.size]?=some o1/\((W.alloc o1).alloc o2).heap[W.heap.size+1]?=some o2/\aD W ((W.alloc o1).alloc o2):=⟨(pq W o1 o2).1,(pq W o1 o2).2.1,(pq W o1 o2).2.2.1⟩
theorem Zz5 {P:Prop} (h:P:=by
 gi_wp2;have la:=((j1.set (g:=w.heap.size) (i:=0) (.inl ae) (.slice A3 n3 c3)).set (g:=w.heap.size) (i:=1) (.inl ae) (.slice B3 m3 d3)).set (g:=gx) (i:=0) (.inr ⟨rfl,ae⟩) (.int .i64 er);have qu:=(iG.st.setP (.slice A3 n3 c3) (.slice B3 m3 d3)).far (g:=gx) (i:=0) ae (.int .i64 er);have CF:=bt (cI (cI iG.hx ae (.slice A3 n3 c3) (g:=w.heap.size) (i:=0)) ae (.slice B3 m3 d3) (g:=w.heap.size) (i:=1)) 0 (.int .i64 er);obtain⟨Y1,hY1⟩: ∃Y,Y=((W2.setCell ⟨w.heap.size,0,none⟩ (.slice A3 n3 c3)).setCell ⟨w.heap.size,1,none⟩ (.slice B3 m3 d3)).setCell ⟨gx,0,none⟩ (.int .i64 er):=⟨_,rfl⟩
 rw[<-hY1]at la qu CF⊢;clear hY1 p0 p1 p2 p3 x0 x1 wG Ih r0 r1 r2 r3 b0 b1 e0 e1;refine av5 (S:=SE gx er) ax ax ?_;change wpAnyH _ _ _ _ _ _ _ _ (Y1.drew);have uV:=qu.below ya3;have YK:=la.below qu.hb.size ya3;have hS:SE gx er Y1.drew:=aj CF 0 _ rfl;obtain⟨Y2,hY2⟩: ∃Y,Y=Y1.drew:=⟨_,rfl⟩
 rw[<-hY2]at uV YK hS⊢;clear hY2 la qu CF;have Hsd:=aa uV;have Htd:=aa YK;obtain⟨r0,r1,r2,r3⟩:=aV uV.gr;have b0:=aj uV.gb 0 _ rfl;have b1:=aU uV.gb 0;have e0:=aj uV.ge 0 _ rfl;have e1:=aU uV.ge 0;clear uV YK;refine wpAnyH_take (i:=0) (v:= .agg #[ay,ay]) rfl ax ax ax (λ_ _ _ h=>h) (Or.inl ⟨ah,?_⟩) hS ?_
 ·intro W7 IB;unfold SE at IB;go_simp
 try go_frame
 refine wpAnyH_take (i:=1) (v:= .int .i64 er) rfl ax ax ax (λ_ _ _ h=>h) (Or.inl ⟨ah,?_⟩) hS ?_
 ·intro W7 IB;unfold SE at IB;go_simp
 try go_frame
 refine wpAnyH_ready (rs:= [2]) ax ak ?_;refine AllReadyH.cons rfl (λK hK=>?_) AllReadyH.nil;go_simp;refine hK.out _ _ ((hS.set ae _).set ae _) (λqA=>?_);clear hK K;replace hS:=qA;clear qA;try go_frame
 refine wpAnyH_ready (rs:= [3]) ax ak ?_;refine AllReadyH.cons rfl (λK hK=>?_) AllReadyH.nil;go_simp;refine hK.out _ _ (hS.set ae _) (λqA=>?_);clear hK K;replace hS:=qA;clear qA;try go_frame
 refine wpAnyH_ready (rs:= [4]) ax ak ?_;refine AllReadyH.cons rfl (λK hK=>?_) AllReadyH.nil;go_simp;refine hK.out _ _ (hS.set ae _) (λqA=>?_);clear hK K;replace hS:=qA;clear qA;try go_frame
 refine wpAnyH_done ax ?_ _;simp only[GQ];gi_wp2;have eG:=aa (show iB P V aH=(bI,false,er) by
  have eS:fa ((sZ V nV area).take (aQ.length+1)) P=(bI,er):=by rw[aeD Qt,J2 _ _ _ _ Ye.out,<-aiH.out,if_pos Pa.out]
  rw[HE.out,<-HD.out,av' ae eS Pa.out,D6,if_pos Pa.out])
 have ht9:=(((Htd.set (g:=w.heap.size+1+1+1) (i:=0) (.inl ae) (ay)).set (g:=w.heap.size+1+1+1) (i:=1) (.inl ae) (ay)).set (g:=w.heap.size+1+1+1+1) (i:=0) (.inl ae) (.bool false)).set (g:=w.heap.size+1+1+1+1+1) (i:=0) (.inl ae) (.int .i64 er);refine⟨ht9.keeps ae ae,⟨rfl,_,_,_,_,_,_,_,_,_,Hsd.setR _ _ _ _,?_,?_,?_⟩⟩
 ·rw[eG.out];exact dT.no _
 ·rw[eG.out]
 ·rw[eG.out]):P:=h
theorem ahn {P:Prop} (h:P:=by
 gi_wp2;have ht:=(((j1.set (g:=w.heap.size) (i:=0) (.inl ae) (.slice A3 n3 c3)).set (g:=w.heap.size) (i:=1) (.inl ae) (.slice B3 m3 d3)).set (g:=gx) (i:=0) (.inr ⟨rfl,ae⟩) (.int .i64 0)).set (g:=w.heap.size+1+1) (i:=0) (.inl ae) (.int .i64 ((D -(aQ.length+1):Nat):Int));have qu:=(iG.st.setP (.slice A3 n3 c3) (.slice B3 m3 d3)).far (g:=gx) (i:=0) ae (.int .i64 0);have vj:=qu.setD ((D -(aQ.length+1):Nat):Int);have g1:=jL.two (A3:=A3) (n3:=n3) (c3:=c3) (B3:=B3) (m3:=m3) (d3:=d3) iG.st.gp;have g2:=g1.one (cI (cI iG.hx ae _) ae _) (λs h=>by cases h) (.int .i64 0);have g3:=g2.one qu.gd (λs h=>by cases h) (.int .i64 ((D -(aQ.length+1):Nat):Int));have CF:=cI (g:=w.heap.size+1+1) (i:=0) (bt (cI (cI iG.hx ae (.slice A3 n3 c3) (g:=w.heap.size) (i:=0)) ae (.slice B3 m3 d3) (g:=w.heap.size) (i:=1)) 0 (.int .i64 0)) ae (.int .i64 ((D -(aQ.length+1):Nat):Int));have Fi:=cI (g:=w.heap.size+1+1) (i:=0) (cI (g:=gx) (i:=0) (cI (cI iG.hc ae (.slice A3 n3 c3) (g:=w.heap.size) (i:=0)) ae (.slice B3 m3 d3) (g:=w.heap.size) (i:=1)) ae (.int .i64 0)) ae (.int .i64 ((D -(aQ.length+1):Nat):Int));refine⟨ht.keeps ae ae,ht.kpt (a:=g7+1) (b:=g7) ⟨ae,ae,ae⟩ ⟨ae,ae,ae⟩,⟨A3,n3,c3,B3,m3,d3,Q2,?_,by rw[lL.out];omega,?_⟩⟩
 ·rw[lL.out,aeD Qt,J2 _ _ _ _ Ye.out,<-aiH.out,if_neg ak]
 ·rw[lL.out];exact⟨vj,g3,Fi,CF⟩):P:=h
theorem agp {P:Prop} (h:P:=by
 go_wp2_with fail;(try simp only[Exit.inBlock,Exit.then]);rw[j5.out];refine Kl (Kk (j4.setR _ _ _ _) (dT.no _) rfl rfl [] List.nodup_nil (λD hD=>by cases hD) _ ah ah ah)):P:=h
theorem ahK {P:Prop} (h:P:=by
 go_wp2_with fail;(try simp only[Exit.inBlock,Exit.then]);rw[j5.out];refine Kl (Kk (jK.setR _ _ _ _) (dT.no _) rfl rfl [] List.nodup_nil (λD hD=>by cases hD) _ ah ah ah)):P:=h
theorem Vb {P:Prop} (h:P:=by
 go_wp2;go_meet;case rel=>exact⟨congrArg Value.bool f9.symm,rfl⟩):P:=h
theorem awa (v vv:Value) (P:az) (V:dW) (aH:Int) (w:World) (h:dT w v P) (hv:VV w vv V) (hl:P.ss.length<=maxLen) (hlv:V.bl.length<=maxLen) (hR:cX w):
  Calls prog 62 #[v,vv,.int .i64 aH] w (Cb w (iB P V aH)):=by
 obtain⟨A,n,c,B,m,d,rfl,h⟩:=h;obtain⟨AV,nV,cV,rfl,KN,hnV⟩:=hv;have dE:=av6 w (.slice A n c) (.slice B m d) (.slice AV nV cV) (.string V.rt) aH;have HS:=aa dE;have HP:=aa (h.below dE.hb);have Yn:=aa (KN.below dE.hb);have HR:=aa (hR.below dE.hb);have HN:=aa hnV;have uM:=aa (λW h1 h2=>ad6 (.agg #[.slice A n c,.slice B m d]) P W h1 hl h2);have wS:=aa (λW h=>Uc (.agg #[.slice AV nV cV,.string V.rt]) V W h);have VN:=aa (λh=>TH (P:=P) h);have IJ:=aa h;have tM:=aa KN;obtain⟨r,hr⟩: ∃r,r=cR P:=⟨_,rfl⟩
 rw[<-hr]at uM VN;obtain⟨⟨N,gen,area,V0⟩,er⟩:=r;simp only at uM VN;have HE:=aa (show iB P V aH=if er≠0 then (bI,false,er)
   else if ks V=false\/V.bl.length≠N then (bI,false,160) else if iQ V.bl≠V.rt then (bI,false,161) else if gen=1000000000 then (bI,false,260)
   else D6 (fa ((sZ V N area).take (yj N aH)) P) ⟨N,gen,area,V0⟩ V (yj N aH) by
  unfold iB
  rw[<-hr])
 have fj:nV<=9223372036854775807:=by unfold maxLen at hlv;omega
 obtain⟨p0,p1⟩:=Ek dE.gp;clear h KN hnV dE hr hl hlv hR;refine (callsIn_wide (n:=4)).1 ?_;refine callsIn_of_wp_marks func62 rfl trivial ?_ rfl;simp only[ntmps62,List.size_toArray,List.length_cons,List.length_nil,Nat.reduceAdd,Nat.reduceSub,Array.replicate_succ,Array.replicate_zero,List.push_toArray,List.append_toArray,List.nil_append,List.cons_append];refine wpIn_wide.2 ?_;refine Code.wp_mono NoPanic.imp ?_;go_wp2_with fail;refine (uM _ ⟨_,_,_,_,_,_,rfl,HP⟩ HR).mono ?_;rintro e w2 ⟨A2,c2,rfl,⟨dw,C3⟩,av⟩;simp only;obtain⟨gc,hgc⟩: ∃gc,gc=w2.heap.size:=⟨_,rfl⟩
 obtain⟨kc,kx,kb⟩:=aeM w2 (.cells #[.int .i64 (N:Nat),.int .i64 (area:Nat),.int .i64 (gen:Nat),.slice A2 V0.bl.length c2,.string V0.rt] 171) (.cells #[.int .i64 er] 24);have fh:=bg av kb;have dg:=aa (HS.below fh);have fP:=aa (HP.below fh);have aks:=aa (Yn.below fh);have jc:=aa (HR.below fh);have pE:=aa (show VV _ (.agg #[.slice AV nV cV,.string V.rt]) V from⟨AV,nV,cV,rfl,aks,HN⟩);obtain⟨w3,fo⟩: ∃w3,w3=(w2.alloc (.cells #[.int .i64 (N:Nat),.int .i64 (area:Nat),.int .i64 (gen:Nat),.slice A2 V0.bl.length c2,.string V0.rt] 171)).alloc (.cells #[.int .i64 er] 24):=⟨_,rfl⟩
 have Fh:=aa fo;have Mb:=aa (show w.heap.size+6<=w2.heap.size from bD HS.hz av.size);rw[<-fo]at kc kx dg fP aks jc pE;have HC:=aa kc;have HX:=aa kx;clear dw C3 av kb fh fo p0 p1 kc kx;go_upto_region 2 with fail
 rw[<-Fh.out];subst hgc;have yT:=aa (show w.heap.size+7<=w2.heap.size+1 by have:=Mb.out;omega);have Hcx:=aa (show w2.heap.size<w2.heap.size+1 by omega);generalize w2.heap.size+1=gx at*;generalize w2.heap.size=gc at*;have x0:=aj HX 0 _ rfl;obtain⟨r0,r1,r2,r3⟩:=aV dg.gr;have b0:=aj dg.gb 0 _ rfl;have b1:=aU dg.gb 0;have e0:=aj dg.ge 0 _ rfl;have e1:=aU dg.ge 0;have m1: ¬gx=w.heap.size+1+1+1:=by have:=yT.out;omega
 have m2: ¬gx=w.heap.size+1+1+1+1:=by have:=yT.out;omega
 have m3: ¬gx=w.heap.size+1+1+1+1+1:=by have:=yT.out;omega
 have m1': ¬w.heap.size+1+1+1=gx:=by have:=yT.out;omega
 have m2': ¬w.heap.size+1+1+1+1=gx:=by have:=yT.out;omega
 have m3': ¬w.heap.size+1+1+1+1+1=gx:=by have:=yT.out;omega
 by_cases dO:er=0;case neg=>
  have d1:(er !=0)=true:=by simpa using dO
  have j5:=aa (show iB P V aH=(bI,false,er) by rw[HE.out,if_pos dO]);clear dO;go_upto_region 3 with fail
  go_region_law (fail);all_goals
   go_wp2_with fail
   (try simp only[Exit.inBlock,Exit.then])
   rw[j5.out]
   refine Kl (Kk ((dg.setR _ _ _ _).below ya3) (dT.no _) rfl rfl [] List.nodup_nil (λD hD=>by cases hD) _ ah ah ah)
 subst dO;have d1:((0:Int) !=0)=false:=rfl;have Qu:=aa (VN rfl);rw[if_neg (λhh=>hh rfl)]at HE;have Qh:=Qu.area;have hN2:=yh Qu.cnt;obtain⟨v0,v1⟩:=Ek dg.gv;obtain⟨⟨c0,c1,oH,c3,c4⟩,_⟩:=jV HC.out;cases fg:ks V with
 |false=>
  rw[fg]at wS;have j5:=aa (show iB P V aH=(bI,false,160) by rw[HE.out,if_pos (.inl fg)]);clear fg;go_wp2_with fail;refine (wS _ pE).mono ?_;rintro e w4 ⟨rfl,aP⟩;have j4:=aa (dg.below aP);clear aP x0 r0 r1 r2 r3 b0 b1 e0 e1 v0 v1 c0 c1 oH c3 c4;obtain⟨r0,r1,r2,r3⟩:=aV j4.gr;have b0:=aj j4.gb 0 _ rfl;have b1:=aU j4.gb 0;have e0:=aj j4.ge 0 _ rfl;have e1:=aU j4.ge 0;exact agp
 |true=>
 rw[fg]at wS;by_cases Rf:nV=N;case neg=>
  have d2:((nV:Int) !=(N:Int))=true:=by simp;omega
  have j5:=aa (show iB P V aH=(bI,false,160) by rw[HE.out,if_pos (.inr (by rw[<-HN.out];exact Rf))]);clear fg Rf;go_wp2_with fail;refine (wS _ pE).mono ?_;rintro e w4 ⟨rfl,aP⟩;have j4:=aa (dg.below aP);have uB:=aa (aJ HC aP);clear aP x0 r0 r1 r2 r3 b0 b1 e0 e1 v0 v1 c0 c1 oH c3 c4;obtain⟨r0,r1,r2,r3⟩:=aV j4.gr;have b0:=aj j4.gb 0 _ rfl;have b1:=aU j4.gb 0;have e0:=aj j4.ge 0 _ rfl;have e1:=aU j4.ge 0;obtain⟨v0,v1⟩:=Ek j4.gv;obtain⟨⟨c0,c1,oH,c3,c4⟩,_⟩:=jV uB.out;exact agp
 have xz: ¬(ks V=false\/V.bl.length≠N):=by
  rintro (hh|hh)
  ·rw[fg]at hh;cases hh
  ·exact hh (HN.symm.trans Rf)
 rw[if_neg xz]at HE;subst Rf;have d2:((nV:Int) !=(nV:Int))=false:=ak;clear xz;have kB:=aa (λW h1 h2=>ad4 (.agg #[.slice AV nV cV,.string V.rt]) V W h1 fg h2);go_wp2_with fail;refine (wS _ pE).mono ?_;rintro e w4 ⟨rfl,aP⟩;have j4:=aa (dg.below aP);have uB:=aa (aJ HC aP);have nF:=aa (aJ HX aP);have pG:=aa (fP.below aP);have nP:=aa (jc.below aP);have HV4:=aa (pE.below aP);clear aP x0 r0 r1 r2 r3 b0 b1 e0 e1 v0 v1 c0 c1 oH c3 c4;obtain⟨v0,v1⟩:=Ek j4.gv;obtain⟨⟨c0,c1,oH,c3,c4⟩,_⟩:=jV uB.out;go_wp2_with fail;refine (kB _ HV4 nP).mono ?_;rintro e w5 ⟨rfl,aY⟩;have jK:=aa (j4.below aY);have Bi:=aa (aJ uB aY);have xp:=aa (aJ nF aY);have I9:=aa (pG.below aY);clear aY v0 v1 c0 c1 oH c3 c4;obtain⟨r0,r1,r2,r3⟩:=aV jK.gr;have b0:=aj jK.gb 0 _ rfl;have b1:=aU jK.gb 0;have e0:=aj jK.ge 0 _ rfl;have e1:=aU jK.ge 0;by_cases ll:iQ V.bl=V.rt;case neg=>
  have j5:=aa (show iB P V aH=(bI,false,161) by rw[HE.out,if_pos ll]);rw[decide_eq_false ll];clear ll;exact ahK
 rw[if_neg (λhh=>hh ll)]at HE;rw[decide_eq_true ll];obtain⟨⟨c0,c1,oH,c3,c4⟩,_⟩:=jV Bi.out;by_cases Py:gen=1000000000;case pos=>
  have j5:=aa (show iB P V aH=(bI,false,260) by rw[HE.out,if_pos Py]);have d3:((gen:Int)==1000000000)=true:=by simp;omega
  clear Py ll;exact ahK
 rw[if_neg Py]at HE;have d3:((gen:Int)==1000000000)=false:=by simp;omega
 clear Py ll r0 r1 r2 r3 b0 b1 e0 e1;clear m1 m2 m3 m1' m2' m3' I9;go_upto_region 11 with fail
 clear c1 oH c3 c4;obtain⟨D,hD⟩: ∃D,D=yj nV aH:=⟨_,rfl⟩
 have HD:=aa hD;have wG:=aj jK.gd 0 _ rfl;have Ih:=aU jK.gd 0;go_cut [58] from 52 to 58 (λv wc=>v= .bool (decide (aH<0\/(nV:Int)+1+4<aH))/\wc=w5);case first=>
  clear hD;by_cases ji:aH<0
  ·have f1:decide (aH<0)=true:=decide_eq_true ji;have f9:=aa (decide_eq_true (show aH<0\/(nV:Int)+1+4<aH from .inl ji));clear ji;exact Vb
  ·have f1:decide (aH<0)=false:=decide_eq_false ji;by_cases tN:(nV:Int)+1+4<aH
   ·have f2:decide (aH>(nV:Int)+1+4)=true:=decide_eq_true tN;have f9:=aa (decide_eq_true (show aH<0\/(nV:Int)+1+4<aH from .inr tN));clear ji tN;exact Vb
   ·have f2:decide (aH>(nV:Int)+1+4)=false:=decide_eq_false tN;have f9:=aa (decide_eq_false (show¬(aH<0\/(nV:Int)+1+4<aH) from by omega));clear ji tN;exact Vb
 case rest=>
 obtain⟨rfl,rfl⟩:=hcut;rename World=>w5;go_upto_if 58 with fail
 go_cut [] from 58 to 59 (λwc=>ST w (.slice A n c) (.slice B m d) (.slice AV nV cV) (.string V.rt) (D:Nat) (ay) (ay) false 0 wc/\bj wc gc #[.int .i64 (nV:Nat),.int .i64 (area:Nat),.int .i64 (gen:Nat),.slice A2 V0.bl.length c2,.string V0.rt] 171/\bj wc gx #[.int .i64 0] 24);case first=>
  by_cases ji:aH<0\/(nV:Int)+1+4<aH
  ·rw[decide_eq_true ji];have tR:(nV:Int)+1+4=((D:Nat):Int):=by rw[hD];unfold yj;rw[if_pos ae];omega
   have X0:=aa tR;clear ji hD tR;go_wp2;go_meet;case rel=>
    have h6:=jK.setD ((nV:Int)+1+4);refine⟨?_,cI Bi (by have:=Mb.out;omega) _,cI xp (by have:=yT.out;omega) _⟩;rw[<-X0.out];exact h6
  ·rw[decide_eq_false ji];have tR:aH=((D:Nat):Int):=by rw[hD];unfold yj;rw[if_neg ae];omega
   have X0:=aa tR;clear ji hD tR;go_wp2;go_meet;case rel=>
    have h6:=jK.out;rw[X0.out]at h6;exact⟨h6,Bi,xp⟩
 case rest=>
 obtain⟨xg,hc6,G6⟩:=hcut;rename World=>w6;have oD:=aa xg;have WJ:=aa hc6;have I8:=aa G6;have zI:=aa xg.gp;have CU:=aa (IJ.below xg.hb);have hl:=Qu.len;have ay0:=(xV Qu.chk).2.2.1;have j7:n<=1000000:=by rw[IJ.hn,hl];omega
 have hm9:m<=1000000:=by rw[IJ.hm];omega
 have aFk:w.heap.size<w6.heap.size:=bf xg.gp;clear xg hc6 G6 wG Ih c0 hl ay0 hD;obtain⟨p0,p1,p2,p3⟩:=aV zI.out;go_upto_region 13 with fail
 go_cut [] from 60 to 66 (λwc=> ∃A1 c1 B1 d1,SU w gc gx #[.int .i64 (nV:Nat),.int .i64 (area:Nat),.int .i64 (gen:Nat),.slice A2 V0.bl.length c2,.string V0.rt] (.slice AV nV cV) (.string V.rt) (D:Nat) 0 A1 n c1 B1 m d1 P wc);case first=>
  go_region_law (first
   |(refine Am ah _ _ 28 ah w6.heap.size 9 (.string ⟨#[]⟩) 1 16 underlying28 mx rfl ae ah A n c ah (aZ P.ss) (by exact CU.rs) (by rw[qO,<-CU.hn,Nat.mul_one]) (DS _) ae ae (by exact aM _) ?_;intro A1 lH w7 fQ QY;have cJ:=bg ((aI _ w6).drew) QY;clear QY;obtain⟨q0,q1,q2,q3⟩:=aV (aT zI cJ).out)
   |(refine Am ah _ _ 72 ah w6.heap.size 257 (.agg #[.int .i64 0,.string ⟨#[]⟩]) 2 24 underlying72 Gg rfl ae ah B m d ah (jn P.cs) (by exact CU.rc.below cJ) (by rw[Gf,<-CU.hm]) (JW _) ae ae (by exact cJ.size) ?_;intro B1 eM w8 dy cG;obtain⟨t0,t1,t2,t3⟩:=aV (aT (aT zI cJ) cG).out))
  all_goals
   have WX:=(oD.below cJ).below cG
   have hO:=(show OB w8 w6.heap.size A1 n lH B1 m eM P from⟨CU.hn,CU.hm,eO fQ cG,dy⟩)
   have hc8:=aJ (aJ WJ cJ) cG
   have YZ:=aJ (aJ I8 cJ) cG
   have C':=aa (show SU w gc gx #[.int .i64 (nV:Nat),.int .i64 (area:Nat),.int .i64 (gen:Nat),.slice A2 V0.bl.length c2,.string V0.rt] (.slice AV nV cV) (.string V.rt) (D:Nat) 0 A1 n lH B1 m eM P ((w8.setCell ⟨w.heap.size,0,none⟩ (.slice A1 n lH)).setCell ⟨w.heap.size,1,none⟩ (.slice B1 m eM)) from
    ⟨WX.setP _ _,hO.pb.two WX.gp,cI (cI hc8 (by have:=Mb.out;omega) _) (by have:=Mb.out;omega) _,cI (cI YZ (by have:=yT.out;omega) _) (by have:=yT.out;omega) _⟩)
   clear WX hO hc8 YZ
   go_wp2
   go_meet
   case rel=>first|exact⟨_,_,_,_,C'⟩|exact⟨_,_,_,_,C'.drew⟩
 case rest=>
 obtain⟨A1,c1,B1,d1,hu⟩:=hcut;rename World=>w7;have HU:=aa hu;have Px:w.heap.size+6<=w7.heap.size/\gx<w7.heap.size:=⟨hu.st.hz,bf hu.hx⟩
 obtain⟨v0,v1⟩:=Ek hu.st.gv;obtain⟨⟨y0,y1,y2,y3,y4⟩,_⟩:=jV hu.hc;clear hu p0 p1 p2 p3;go_wp2_with fail;refine (callsIn_wide.1 (av1 4 _ _ _ _ _ _ _ _)).mono ?_;rintro e w8 ⟨rfl,rfl⟩;obtain⟨kc,kv,kb⟩:=aeM w7 (.cells #[.int .i64 (nV:Nat),.int .i64 (area:Nat),.int .i64 (gen:Nat),.slice A2 V0.bl.length c2,.string V0.rt] 171) (.cells #[.slice AV nV cV,.string V.rt] 80);have C':=aa (HU.below kb);obtain⟨w8,Fl⟩: ∃w8,w8=((w7.alloc (.cells #[.int .i64 (nV:Nat),.int .i64 (area:Nat),.int .i64 (gen:Nat),.slice A2 V0.bl.length c2,.string V0.rt] 171)).alloc (.cells #[.slice AV nV cV,.string V.rt] 80)):=⟨_,rfl⟩
 have aFY:w8.heap.size=w7.heap.size+2:=by rw[Fl];simp
 rw[<-Fl]at kc kv C';have HKc:=aa kc;have HKv:=aa kv;have Hw8:=aa Fl;clear kc kv kb v0 v1 y0 y1 y2 y3 y4 Fl;go_wp2_with fail;rw[<-Hw8.out];have hz8:w.heap.size<=w8.heap.size:=C'.st.hb.size;have aEH:gx<w8.heap.size:=bf C'.hx;generalize w7.heap.size=g7 at*;have da:=yT.out;have fE:=Mb.out;have hg3:=Hcx.out;have aEB:D<=nV+5:=by rw[HD.out];exact asV _ _
 refine (wpIn_wide (n:=4)).1 ?_;refine avY (t:=12) rfl ae (gf:=189) (lb:= #[.pointer (some ⟨g7+1,0,none⟩),.pointer (aw g7)]) rfl trivial (enters_of func189 ax rfl)
  (E:=λaQ x X=>Eo g7 nV area V aQ.length X x) (Kp:=Ah w.heap.size [g7+1,g7]) (S:=λxs=>xs.length=nV+1) (Sp:=λ_=>True)
  (λl J Jx W hW hJ _ hY h0=>av0 3 ae l _ _ w.heap.size nV area nV cV AV V _ _ _ w W rfl (C'.st.hb.trans (hW.mono hz8)) tM HN rfl ae (aJ HKv hW) (aJ HKc hW) J Jx hJ hY h0)
  abx (λX=>⟨aI _ _,λb _=>rfl⟩) (aby hz8 (by simp;omega))
  (SI w gc gx #[.int .i64 (nV:Nat),.int .i64 (area:Nat),.int .i64 (gen:Nat),.slice A2 V0.bl.length c2,.string V0.rt] (.slice AV nV cV) (.string V.rt) D (sZ V nV area) P) (λcd aQ W=>SX w (iB P V aH) cd W)
  (λs X Y row h hg hr=>h.kept hg (λr e=>⟨by have:=(hr r e).1;omega,(hr r e).2⟩)) (λcd s X Y row h hg hr=>h.kept hg (λr e=>⟨by have:=(hr r e).1;omega,(hr r e).2⟩))
  ⟨A1,n,c1,B1,m,d1,P,rfl,Nat.zero_le _,C'⟩ (λaQ x s X Y row h hg hr=>h.kept hg (λr e=>(hr r e).2))
  ?assign ?body ?done ?stop
 case assign=>
  rintro l x X K hK;(try simp only[List.setIfInBounds_toArray,List.set_cons_zero,List.set_cons_succ]at hK⊢);gi_wp2;exact hK
 case body=>
  rintro l aQ x X hl ⟨r,hr⟩ hI hE;obtain⟨A4,n4,c4,B4,m4,d4,Q,j2,eT,mV⟩:=hI.ex;have hlX:w8.heap.size<X.heap.size:=OX hl (bf hr);have Qt:aQ.length<=nV:=by
   rcases hE with⟨h,_⟩|⟨h,_⟩
   ·omega
   ·omega
  have nN:=aa mV;have Ye:=aa j2;have HEd:=aa hE;have ey:(aQ++ [x]).length=aQ.length+1:=by rw[dx];rfl
  have lL:=aa ey;obtain⟨p0,p1,p2,p3⟩:=aV mV.st.gp;have wG:=aj mV.st.gd 0 _ rfl;obtain⟨r0,r1,r2,r3⟩:=aV mV.st.gr;have b0:=aj mV.st.gb 0 _ rfl;have b1:=aU mV.st.gb 0;have e0:=aj mV.st.ge 0 _ rfl;have e1:=aU mV.st.ge 0;simp only[List.setIfInBounds_toArray,List.set_cons_zero,List.set_cons_succ];clear hI mV j2 hE hr ey;by_cases hD0:D=aQ.length
  ·have f1:(((D - aQ.length:Nat):Int)==0)=true:=by simp;omega
   have eG:=aa (show iB P V aH=(Q,false,0) by
    rw[HE.out,<-HD.out,hD0,Ye.out,D6,if_neg ak,if_pos (by show _<nV+1;omega)])
   clear hD0;gi_wp2;have ht:=((((TC.refl w gx X).set (g:=w.heap.size+1+1+1) (i:=0) (.inl ae) (.slice A4 n4 c4)).set (g:=w.heap.size+1+1+1) (i:=1) (.inl ae) (.slice B4 m4 d4)).set (g:=w.heap.size+1+1+1+1) (i:=0) (.inl ae) (.bool false)).set (g:=w.heap.size+1+1+1+1+1) (i:=0) (.inl ae) (.int .i64 0);refine⟨ht.keeps ae ae,⟨rfl,_,_,_,_,_,_,_,_,_,nN.st.setR _ _ _ _,?_,?_,?_⟩⟩
   ·rw[eG.out];have g1:=nN.pb.two (A3:=A4) (n3:=n4) (c3:=c4) (B3:=B4) (m3:=m4) (d3:=d4) nN.st.gr;have g2:=g1.one (cI (cI nN.st.gb ae _) ae _) (λs h=>by cases h) (.bool false);exact⟨_,_,_,_,_,_,rfl,g2.one (cI (cI (cI nN.st.ge ae _) ae _) ae _) (λs h=>by cases h) (.int .i64 0)⟩
   ·rw[eG.out]
   ·rw[eG.out]
  ·have f1:(((D - aQ.length:Nat):Int)==0)=false:=by simp;omega
   obtain⟨q,hq⟩: ∃q,q=Ep V nV area aQ.length Q:=⟨_,rfl⟩
   have Ib:=aa hq;have aiH:=aa hq;obtain⟨Q2,er⟩:=q;clear hq;rcases HEd with⟨Zd,rfl⟩|⟨Zd,bi,fJ,rfl,sA,sB,fi⟩
   ·have hqs:Ep V nV area aQ.length Q=lX Q:=(by unfold Ep;rw[if_neg ae]);rw[hqs]at Ib;clear hqs Zd;by_cases dO:er=0
    ·subst dO;have f2:((0:Int) !=0)=false:=rfl;have f3:IntKind.i64.wrap (((D - aQ.length:Nat):Int)- 1)=((D -(aQ.length+1):Nat):Int):=(by rw[IntWalk.i64_in _ ae];omega);have f4:(((D - aQ.length:Nat):Int)- 1)=((D -(aQ.length+1):Nat):Int):=ae;gi_wp2_with (refine⟨trivial,?_⟩;gi_at_call 152;refine (CallsIn.inRound l (callsIn_wide.2 (Nk _ Q _ ⟨_,_,_,_,_,_,rfl,nN.pb⟩))).mono ?_;rintro e W2 ⟨v2,rfl,⟨A3,n3,c3,B3,m3,d3,rfl,mt⟩,av⟩;rw[<-Ib.out]at mt⊢;have iG:=aa (nN.below av);have jL:=aa mt;have j1:=aa ((TC.refl w gx X).below nN.st.hb.size av);clear av mt p0 p1 p2 p3 wG;obtain⟨p0,p1,p2,p3⟩:=aV iG.st.gp;have x0:=aj iG.hx 0 _ rfl;have x1:=aU iG.hx 0;have wG:=aj iG.st.gd 0 _ rfl;have Ih:=aU iG.st.gd 0);exact ahn
    ·have f2:(er !=0)=true:=(by simpa using dO);have Pa:=aa dO;clear dO;gi_wp2_with (refine⟨trivial,?_⟩;gi_at_call 152;refine (CallsIn.inRound l (callsIn_wide.2 (Nk _ Q _ ⟨_,_,_,_,_,_,rfl,nN.pb⟩))).mono ?_;rintro e W2 ⟨v2,rfl,⟨A3,n3,c3,B3,m3,d3,rfl,mt⟩,av⟩;rw[<-Ib.out]at mt⊢;have iG:=aa (nN.below av);have jL:=aa mt;have j1:=aa ((TC.refl w gx X).below nN.st.hb.size av);clear av mt p0 p1 p2 p3 wG;obtain⟨p0,p1,p2,p3⟩:=aV iG.st.gp;have x0:=aj iG.hx 0 _ rfl;have x1:=aU iG.hx 0;have wG:=aj iG.st.gd 0 _ rfl;have Ih:=aU iG.st.gd 0);exact Zz5
   ·have zE:Ep V nV area aQ.length Q=i' ((3+(1 - area)*nV+aQ.length:Nat):Int) (V.bl.getD aQ.length eR) Q:=(by unfold Ep;rw[if_pos Zd];rfl);rw[zE]at Ib;have qB:=aa fi;have CB:=aj sA 0 _ rfl;have rv:=aj sB 0 _ rfl;clear zE fi sA sB;by_cases dO:er=0
    ·subst dO;have f2:((0:Int) !=0)=false:=rfl;have f3:IntKind.i64.wrap (((D - aQ.length:Nat):Int)- 1)=((D -(aQ.length+1):Nat):Int):=(by rw[IntWalk.i64_in _ ae];omega);have f4:(((D - aQ.length:Nat):Int)- 1)=((D -(aQ.length+1):Nat):Int):=ae;gi_wp2_with (refine⟨trivial,?_⟩;gi_at_call 190;refine (CallsIn.inRound l (callsIn_wide.2 (aeC _ Q g7 bi fJ nV area aQ.length (V.bl.getD aQ.length eR) _ ⟨_,_,_,_,_,_,rfl,nN.pb⟩ qB CB rv ae Qh.1 ae))).mono ?_;rintro e W2 ⟨v2,rfl,⟨A3,n3,c3,B3,m3,d3,rfl,mt⟩,av⟩;rw[<-Ib.out]at mt⊢;have iG:=aa (nN.below av);have jL:=aa mt;have j1:=aa ((TC.refl w gx X).below nN.st.hb.size av);clear av mt p0 p1 p2 p3 wG;obtain⟨p0,p1,p2,p3⟩:=aV iG.st.gp;have x0:=aj iG.hx 0 _ rfl;have x1:=aU iG.hx 0;have wG:=aj iG.st.gd 0 _ rfl;have Ih:=aU iG.st.gd 0);exact ahn
    ·have f2:(er !=0)=true:=(by simpa using dO);have Pa:=aa dO;clear dO;gi_wp2_with (refine⟨trivial,?_⟩;gi_at_call 190;refine (CallsIn.inRound l (callsIn_wide.2 (aeC _ Q g7 bi fJ nV area aQ.length (V.bl.getD aQ.length eR) _ ⟨_,_,_,_,_,_,rfl,nN.pb⟩ qB CB rv ae Qh.1 ae))).mono ?_;rintro e W2 ⟨v2,rfl,⟨A3,n3,c3,B3,m3,d3,rfl,mt⟩,av⟩;rw[<-Ib.out]at mt⊢;have iG:=aa (nN.below av);have jL:=aa mt;have j1:=aa ((TC.refl w gx X).below nN.st.hb.size av);clear av mt p0 p1 p2 p3 wG;obtain⟨p0,p1,p2,p3⟩:=aV iG.st.gp;have x0:=aj iG.hx 0 _ rfl;have x1:=aU iG.hx 0;have wG:=aj iG.st.gd 0 _ rfl;have Ih:=aU iG.st.gd 0);exact Zz5
 case done=>
  rintro D' xs X rj Wo hI hK;obtain⟨A4,n4,c4,B4,m4,d4,Q,j2,eT,mV⟩:=hI.ex;rw[Wo]at j2 eT mV;rw[acZ (aM _)]at j2;have aB2:V.rt.size=32:=(D5 fg).2.1;obtain⟨dd,Pq⟩: ∃dd,dd=((D -(nV+1):Nat):Int):=⟨_,rfl⟩
  obtain⟨hd,WT⟩: ∃hd,hd=qR ((gen:Int)+1) ((1 - area:Nat):Int) V.rt:=⟨_,rfl⟩
  have eG:=aa (show iB P V aH=eC Q 0 hd dd by
   rw[HE.out,<-HD.out,acZ eT,j2,D6,if_neg ak,if_neg (by show¬D<nV+1;omega),WT,Pq];rfl)
  have uS:=aa (λW=>ad2 ((gen:Int)+1) ((1 - area:Nat):Int) V.rt W ae);rw[<-WT]at uS;rw[<-Pq]at mV;have CA:=aa (λW (hW:PB W A4 n4 B4 m4 Q)=>Nq (.agg #[.slice A4 n4 c4,.slice B4 m4 d4]) Q 0 dd hd W ⟨_,_,_,_,_,_,rfl,hW⟩ ae);obtain⟨r,hr⟩: ∃r,r=eC Q 0 hd dd:=⟨_,rfl⟩
  rw[<-hr]at eG CA;obtain⟨rP,rb,re⟩:=r;obtain⟨mh,Du⟩:=Qh;have fo:(1:Int)-(area:Int)=((1 - area:Nat):Int):=ae;have hw:IntKind.i64.wrap ((1 - area:Nat):Int)=((1 - area:Nat):Int):=IntWalk.i64_in _ ae;have hwg:IntKind.i64.wrap ((gen:Int)+1)=(gen:Int)+1:=IntWalk.i64_in _ ae;have K1:KA ⟨w.heap.size,0,none⟩ ⟨w.heap.size,1,none⟩ ⟨gc,1,none⟩ ⟨gc,2,none⟩ ⟨w.heap.size+1,1,none⟩ ⟨w.heap.size+1+1,0,none⟩ (.slice A4 n4 c4) (.slice B4 m4 d4) (.int .i64 (area:Nat)) (.int .i64 (gen:Nat)) (.string V.rt) (.int .i64 dd) X:=
   ⟨⟨aj mV.st.gp 0 _ rfl,aj mV.st.gp 1 _ rfl⟩,⟨aj mV.hc 1 _ rfl,aj mV.hc 2 _ rfl⟩,⟨aj mV.st.gv 1 _ rfl,aj mV.st.gd 0 _ rfl⟩⟩
  have nN:=aa mV;have hZ: ∀k,w.heap.size+3<=k->k<w.heap.size+6->k≠(⟨w.heap.size,0,none⟩:Addr).block/\k≠(⟨w.heap.size,1,none⟩:Addr).block/\k≠(⟨gc,1,none⟩:Addr).block/\k≠(⟨gc,2,none⟩:Addr).block/\k≠(⟨w.heap.size+1,1,none⟩:Addr).block/\k≠(⟨w.heap.size+1+1,0,none⟩:Addr).block:=λk h1 h2=>by
   dsimp only;omega
  have z1:=hZ (w.heap.size+1+1+1) ae ae;have z2:=hZ (w.heap.size+1+1+1+1) ae ae;have z3:=hZ (w.heap.size+1+1+1+1+1) ae ae;have HK:=aa hK;clear hI mV j2 Pq WT hr hZ hK aB2;simp only[Exit.then];go_upto_region 22 with fail
  go_region_held3 (λW=>(W.cell? ⟨w.heap.size,0,none⟩=some (.slice A4 n4 c4)/\W.cell? ⟨w.heap.size,1,none⟩=some (.slice B4 m4 d4))/\(W.cell? ⟨gc,1,none⟩=some (.int .i64 (area:Nat))/\W.cell? ⟨gc,2,none⟩=some (.int .i64 (gen:Nat)))/\(W.cell? ⟨w.heap.size+1,1,none⟩=some (.string V.rt)/\W.cell? ⟨w.heap.size+1+1,0,none⟩=some (.int .i64 dd)))
   (first|with_reducible assumption|with_reducible exact aeL K1|with_reducible exact AL (AL WL z1 _) z1 _|with_reducible exact AL (AL (AL WL z1 _) z1 _) z2 _|with_reducible exact AL (AL (AL (AL WL z1 _) z1 _) z2 _) z3 _)
   (first
    |((go_at_call 87;with_reducible refine (uS.out _).mono ?_);rintro _ w9 ⟨rfl,hb9'⟩;have cT:=bg ((aI _ X).drew) hb9';have Q9:=Uv (aeL K1) hb9';clear hb9';have HU9:=aa (nN.out.below cT);have HK9:=aa ((cT.block D' (bf HK.out)).trans HK.out))
    |((go_at_call 86;with_reducible refine (CA.out _ HU9.out.pb).mono ?_);rintro _ Df ⟨v10,rfl,⟨A5,n5,c5,B5,m5,d5,rfl,hP5⟩,hb10⟩;have WL:=Uv Q9 hb10;have Bn:=aa (HU9.out.below hb10);have I9:=aa hP5;have aCQ:=aa ((hb10.block D' (bf HK9.out)).trans HK9.out);clear hP5 hb10;obtain⟨r0,r1,r2,r3⟩:=aV Bn.out.st.gr;have b0:=aj Bn.out.st.gb 0 _ rfl;have b1:=aU Bn.out.st.gb 0;have e0:=aj Bn.out.st.ge 0 _ rfl;have e1:=aU Bn.out.st.ge 0))
  all_goals
   have aFF:w8.heap.size<=D':=rj
   go_wp2_with fail
   (try simp only[Exit.inBlock,Exit.then])
   rw[eG.out]
   have g1:=I9.two (A3:=A5) (n3:=n5) (c3:=c5) (B3:=B5) (m3:=m5) (d3:=d5) Bn.st.gr
   have g2:=g1.one (cI (cI Bn.st.gb ae _) ae _) (λs h=>by cases h) (.bool rb)
   have g3:=g2.one (cI (cI (cI Bn.st.ge ae _) ae _) ae _) (λs h=>by cases h) (.int .i64 re)
   exact Kl (Kk (r:=(rP,rb,re)) (Bn.st.setR _ _ _ _) ⟨_,_,_,_,_,_,rfl,g3⟩ rfl rfl [D'] ak (λk hk=>by rw[List.mem_singleton]at hk;subst hk;exact⟨ae,cI (cI (cI (cI aCQ ae _) ae _) ae _) ae _⟩) _ ah ah ah)
 case stop=>
  rintro D' cd aQ X rj _ hX hK;obtain⟨rfl,p0,p1,v0,v1,D2,r0,r1,z,x,h2,h3,h4,h5⟩:=hX.ex;gi_wp2;exact Kl (Kk h2 h3 h4 h5 [D'] ak (λk hk=>by rw[List.mem_singleton]at hk;subst hk;exact⟨ae,hK⟩) _ ah ah ah)
end
end
section
variable {ms:List Int} {s w:ag} {ws:List ag}
def iD (c:UInt8):List UInt8->List (aF)
 | []=> [[]]
 |x::l=>if x=c then []::iD c l else (x::(iD c l).headD [])::(iD c l).tail
theorem aeU (c:UInt8) (t:aF):iD c t≠ []:=by
 cases t with
 |nil=>simp[iD]
 |cons x t=>
  rw[iD];split<;>simp
theorem aeW (c:UInt8): ∀l:aF,Lib.splitK [c] 0 (Lib.count l [c]) l=iD c l
 | []=>by rw[Lib.count_one];rfl
 |x::l=>by
  have ih:=aeW c l;by_cases h:x=c
  ·subst h;have Iq:Lib.index (x::l) [x]=0:=by rw[Lib.index];simp[List.isPrefixOf]
   rw[Lib.count_cons_eq,Nat.add_comm 1 _,Lib.splitK,iD,if_pos rfl,<-ih,Iq];simp
  ·have hp:([c]:aF).isPrefixOf (x::l)=false:=by simp[List.isPrefixOf,Ne.symm h]
   have Iq:Lib.index (x::l) [c]=if Lib.index l [c]== -1 then -1 else Lib.index l [c]+1:=(by rw[Lib.index,hp];simp);rw[Lib.count_cons_ne x c l h,iD,if_neg h,<-ih];by_cases hm:Lib.index l [c]= -1
   ·rw[Lib.count_miss hm];rfl
   ·have jy:=Lib.index_ge l [c];obtain⟨j,hj⟩: ∃j:Nat,Lib.index l [c]=j:=⟨(Lib.index l [c]).toNat,ae⟩
    have aCy:Lib.index (x::l) [c]=((j+1:Nat):Int):=(by rw[Iq,if_neg (λe=>hm (beq_iff_eq.1 e)),hj];omega);have n1: ¬(((j+1:Nat):Int)== -1)=true:=λe=>by have:=beq_iff_eq.1 e;omega
    have n2: ¬((j:Int)== -1)=true:=λe=>by have:=beq_iff_eq.1 e;omega
    rw[Lib.count_hit ak hj,Nat.add_comm 1 _,Lib.splitK,Lib.splitK,aCy,hj,if_neg n1,if_neg n2];simp
theorem Cp (s:ag) (c:UInt8):dP s ⟨#[c]⟩=(iD c s.data.toList).map bs:=by
 have h:=Lib.splitB_data ⟨#[c]⟩ 0 (Lib.countB s ⟨#[c]⟩) s;have h2:Lib.countB s ⟨#[c]⟩=Lib.count s.data.toList [c]:=rfl;have h3:(⟨#[c]⟩:ag).data.toList= [c]:=rfl;rw[h3,h2,aeW]at h;rw[<-h,List.map_map];unfold dP;rw[h2];exact (List.map_id _).symm
def aeX:ag:=⟨#[110,101,119]⟩
def qU:ag:=⟨#[115]⟩
def oy:ag:=⟨#[119,111,114,100]⟩
def w2T:ag:=⟨#[50]⟩
def w4T:ag:=⟨#[52]⟩
def qV:ag:=⟨#[97,110,110]⟩
def Uz:ag:=⟨#[98,111,98]⟩
def Cq:ag:=⟨#[99,121]⟩
def awl:ag:=⟨#[119,114,105,116,101]⟩
def vZ:ag:=⟨#[49]⟩
def v7:ag:=⟨#[104,105]⟩
def UA:ag:=⟨#[114,101,97,100]⟩
def awm:ag:=⟨#[108,111,99,107]⟩
def awn:ag:=⟨#[117,110,108,111,99,107]⟩
def awo:ag:=⟨#[115,104,111,119]⟩
def awp:ag:=⟨#[120]⟩
def N7:ag:=⟨#[115,104,111,119,10,120,10]⟩
def Ko:ag:=⟨#[110,101,119,32,115,32,119,111,114,100,32,50,32,52,32,97,110,110,32,98,111,98,32,99,121,10,119,114,105,116,101,32,49,32,104,105,10,114,101,97,100,32,49,10,108,111,99,107,10,114,101,97,100,32,49,10,117,110,108,111,99,107,32,119,111,114,100,32,97,110,110,32,99,121,10,114,101,97,100,32,49]⟩
def UB:ag:=⟨#[110,111,110,101,10,119,104,97,116,10]⟩
def N8:ag:=⟨#[111,107,10,111,107,10,116,101,120,116,32,104,105,10,111,107,10,101,114,114,111,114,32,50,49,50,10,111,107,10,116,101,120,116,32,104,105,10]⟩
def UC:ag:=⟨#[110,101,119,32,115,32,119,111,114,100,32,50,32,52,32,97,110,110,32,98,111,98,32,99,121]⟩
def UD:ag:=⟨#[119,114,105,116,101,32,49,32,104,105]⟩
def N9:ag:=⟨#[114,101,97,100,32,49]⟩
def ln3:ag:=⟨#[108,111,99,107]⟩
def UE:ag:=⟨#[114,101,97,100,32,49]⟩
def UF:ag:=⟨#[117,110,108,111,99,107,32,119,111,114,100,32,97,110,110,32,99,121]⟩
def ln6:ag:=⟨#[114,101,97,100,32,49]⟩
def Kq:ag:=⟨#[115,104,111,119]⟩
def lnX:ag:=⟨#[120]⟩
def Kr:ag:=⟨#[108,111,99,107]⟩
theorem yE (s:ag) (m:List ag) (h:iD 32 s.data.toList=m.map (·.data.toList)):dP s dU=m:=by
 show dP s ⟨#[32]⟩=m;rw[Cp,h,List.map_map];exact List.map_id _
theorem Oa (s:ag) (hz:s.size≠0) (m:List ag) (h:iD 10 (Lib.trimSuffix s.data.toList [10])=m.map (·.data.toList)):jp s=m:=by
 unfold jp;rw[if_neg hz];show dP _ ⟨#[10]⟩=m;rw[Cp];show (iD 10 (Lib.trimSuffix s.data.toList [10])).map bs=m;rw[h,List.map_map];exact List.map_id _
theorem awr:dP UC dU= [aeX,qU,oy,w2T,w4T,qV,Uz,Cq]:=yE _ _ bU
theorem aws:dP UD dU= [awl,vZ,v7]:=yE _ _ bU
theorem awt:dP N9 dU= [UA,vZ]:=yE _ _ bU
theorem awu:dP UE dU= [UA,vZ]:=yE _ _ bU
theorem awv:dP UF dU= [awn,oy,qV,Cq]:=yE _ _ bU
theorem ae2:dP Kq dU= [awo]:=yE _ _ bU
theorem aww:dP lnX dU= [awp]:=yE _ _ bU
theorem ae4:dP Kr dU= [awm]:=yE _ _ bU
theorem awy:jp N7= [Kq,lnX]:=Oa _ au _ bU
theorem awz:jp Ko= [UC,UD,N9,ln3,UE,UF,ln6]:=Oa _ au _ bU
theorem agR {P:Prop} (h:P:=by
 unfold fw;rw[hw,show wx (w::ws) 0=w from rfl,hc,show (w::ws).drop 1=ws from rfl];simp only[hf];rw[if_neg h0]):P:=h
theorem Eq {f:aF} {more:Bool} {c:Nat} (hw:dP s dU=w::ws) (hc:tg w=some (f,more,c)) (hf:oo f more ws=some ms) (h0:c≠0) (S:aW):
  fw (some S) s=(some (uu c S ws ms).1,mI (uu c S ws ms).2):=by
 exact agR
theorem UG {f:aF} {more:Bool} {c:Nat} (hw:dP s dU=w::ws) (hc:tg w=some (f,more,c)) (hf:oo f more ws=some ms) (h0:c≠0):
  fw none s=(none,yw):=by
 exact agR
theorem ae5 {f:aF} {more:Bool} (hw:dP s dU=w::ws) (hc:tg w=some (f,more,0)) (hf:oo f more ws=some ms) (R:Option aW):
  fw R s=((mc (wx ws 0) (wx ws 1) (ws.drop 4) (ix ms 2) (ix ms 3)).1.or R,mI (mc (wx ws 0) (wx ws 1) (ws.drop 4) (ix ms 2) (ix ms 3)).2):=by
 unfold fw;rw[hw,show wx (w::ws) 0=w from rfl,hc,show (w::ws).drop 1=ws from rfl,show (w::ws).drop 5=ws.drop 4 from rfl];simp only[hf];rw[if_pos trivial]
theorem awC (hw:dP s dU=w::ws) (hc:tg w=none) (R:Option aW):fw R s=(R,yv):=by
 unfold fw;rw[hw,show wx (w::ws) 0=w from rfl,hc]
theorem awE:fw none Kq=(none,yw):=UG (c:=13) (f:= []) (more:=false) (ms:= []) ae2 bU bU au
theorem ae6 (S:aW):fw (some S) Kr=(some (jq S),gT):=Eq (c:=2) (f:= []) (more:=false) (ms:= []) ae4 bU bU au S
theorem ae7:mI (.er 212)=⟨#[101,114,114,111,114,32,50,49,50]⟩:=bU
theorem ae8 (S:aW) (i:Int):nz (jq S) i=(jq S,.er 212):=by
 unfold nz;rw[if_pos (show (jq S).op=false from rfl)]
def tn:aW:=⟨[⟨#[97,110,110]⟩,⟨#[98,111,98]⟩,⟨#[99,121]⟩],
 [⟨[⟨#[48]⟩,⟨#[0,0,0,1,0,1,139,18,65,88,133,2,12,195,242,117,15,235,108,56,202,106,178,255,206,203,84,106,55,198,125,192,65,123,63,144,180,54,81,104,30,246,16,10,91,158,81,1,242,252,252,58,52,192,152,193,235,78,233,52,118,116,55,99,135,143,203,150,162,95,188,154,23,80,116,214,64,4,119,158,203,82,66,246,69,230]⟩,⟨#[0,0,0,1,0,1,139,18,65,88,133,2,12,195,242,117,15,235,108,56,202,106,178,255,206,203,84,106,55,198,125,192,65,123,63,144,180,54,81,104,30,246,16,10,91,158,81,1,242,252,252,58,52,192,152,193,235,78,233,52,118,116,55,99,135,143,203,150,162,95,188,154,23,80,116,214,64,4,119,158,203,82,66,246,69,230]⟩,⟨#[48]⟩,⟨#[]⟩,⟨#[]⟩],[]⟩,⟨[⟨#[48]⟩,⟨#[0,0,0,1,0,2,191,36,81,15,255,63,242,74,23,72,6,156,142,146,190,137,163,42,56,91,78,105,198,226,190,18,14,145,28,233,75,237,96,91,100,238,218,50,88,128,217,46,156,105,39,48,113,188,152,193,235,78,233,52,118,116,55,99,135,143,203,150,162,95,188,154,23,80,116,214,64,4,119,158,203,82,66,246,69,230]⟩,⟨#[0,0,0,1,0,2,191,36,81,15,255,63,242,74,23,72,6,156,142,146,190,137,163,42,56,91,78,105,198,226,190,18,14,145,28,233,75,237,96,91,100,238,218,50,88,128,217,46,156,105,39,48,113,188,152,193,235,78,233,52,118,116,55,99,135,143,203,150,162,95,188,154,23,80,116,214,64,4,119,158,203,82,66,246,69,230]⟩,⟨#[48]⟩,⟨#[]⟩,⟨#[]⟩],[]⟩,⟨[⟨#[48]⟩,⟨#[0,0,0,1,0,3,90,54,168,203,32,221,81,196,189,170,1,177,208,244,146,33,172,144,106,43,177,104,96,254,255,92,194,62,244,55,30,164,186,109,6,250,45,214,62,109,73,157,136,238,11,217,18,59,152,193,235,78,233,52,118,116,55,99,135,143,203,150,162,95,188,154,23,80,116,214,64,4,119,158,203,82,66,246,69,230]⟩,⟨#[0,0,0,1,0,3,90,54,168,203,32,221,81,196,189,170,1,177,208,244,146,33,172,144,106,43,177,104,96,254,255,92,194,62,244,55,30,164,186,109,6,250,45,214,62,109,73,157,136,238,11,217,18,59,152,193,235,78,233,52,118,116,55,99,135,143,203,150,162,95,188,154,23,80,116,214,64,4,119,158,203,82,66,246,69,230]⟩,⟨#[48]⟩,⟨#[]⟩,⟨#[]⟩],[]⟩],
 ⟨1,2,[⟨#[97,110,110]⟩,⟨#[98,111,98]⟩,⟨#[99,121]⟩],[⟨#[21,137,5,150,33,56,49,229,50,30,178,13,170,160,201,173,70,170,236,74,71,145,9,34,32,96,65,152,73,161,15,62]⟩,⟨#[199,155,0,244,172,66,25,120,233,188,251,214,119,123,111,60,174,27,117,102,85,151,248,150,34,59,228,184,213,151,217,82]⟩,⟨#[82,157,26,167,129,93,251,239,137,76,10,182,25,33,243,2,116,140,153,96,142,170,240,168,221,200,49,164,29,40,141,0]⟩]⟩,
 ⟨#[0,0,0,0,0,0,0,0,0,0,0,0,252,191,145,210,236,177,106,64,247,213,9,144,63,203,171,184,91,101,236,5,197,42,136,72,91,100,236,79,78,124,224,205,232,49,134,3,38,157,180,165,83,148,56,9,125,70,13,205]⟩,
 ⟨[⟨#[48]⟩,⟨#[0,0,0,0,0,222,184,46,21,89,84,214,190,20,89,44,102,204,247,161,236,225,147,238,235,205,171,175,116,123,145,244,69,25,240,159,71]⟩,⟨#[]⟩,⟨#[]⟩,⟨#[]⟩,⟨#[]⟩,⟨#[]⟩,⟨#[]⟩,⟨#[]⟩,⟨#[]⟩,⟨#[]⟩],[]⟩,
 ⟨[⟨#[]⟩,⟨#[]⟩,⟨#[]⟩,⟨#[]⟩],⟨#[222,184,46,21,89,84,214,190,20,89,44,102,204,247,161,236,225,147,238,235,205,171,175,116,123,145,244,69,25,240,159,71]⟩⟩,
 ⟨[⟨#[48]⟩,⟨#[49,54]⟩,⟨#[]⟩],[]⟩,
 0,1,16,[0,0,0],true,⟨#[89,21,209,245,73,184,168,32,207,255,121,55,221,22,72,76,218,89,198,159,111,75,22,185,137,137,239,255,9,71,160,189]⟩⟩
def Ks:aW:= {tn with v:=⟨[⟨#[]⟩,⟨#[0,0,0,0,0,0,0,0,0,0,0,1,86,54,181,38,132,225,250,164,74,48,83,218,27,98,167,114,226,19]⟩,⟨#[]⟩,⟨#[]⟩],⟨#[230,119,38,51,242,2,199,80,42,109,120,180,179,69,59,232,151,237,97,189,132,250,215,180,44,35,221,186,183,157,191,198]⟩⟩,nx:=2}
def UH:aW:= {Ks with ds:= [⟨[⟨#[48]⟩,⟨#[0,0,0,1,0,1,139,18,65,88,133,2,12,195,242,117,15,235,108,56,202,106,178,255,206,203,84,106,55,198,125,192,65,123,63,144,180,54,81,104,30,246,16,10,91,158,81,1,242,252,252,58,52,192,152,193,235,78,233,52,118,116,55,99,135,143,203,150,162,95,188,154,23,80,116,214,64,4,119,158,203,82,66,246,69,230]⟩,⟨#[0,0,0,1,1,1,139,18,65,88,133,2,12,195,242,117,15,235,108,56,202,106,178,255,206,203,84,106,55,198,125,192,65,123,63,144,180,54,81,104,30,246,16,10,91,158,81,1,242,252,252,58,52,192,152,193,235,78,233,52,118,116,55,99,135,143,203,150,162,95,188,154,23,80,116,214,64,4,119,158,203,82,66,246,69,230]⟩,⟨#[48]⟩,⟨#[]⟩,⟨#[]⟩],[]⟩,⟨[⟨#[48]⟩,⟨#[0,0,0,1,0,2,191,36,81,15,255,63,242,74,23,72,6,156,142,146,190,137,163,42,56,91,78,105,198,226,190,18,14,145,28,233,75,237,96,91,100,238,218,50,88,128,217,46,156,105,39,48,113,188,152,193,235,78,233,52,118,116,55,99,135,143,203,150,162,95,188,154,23,80,116,214,64,4,119,158,203,82,66,246,69,230]⟩,⟨#[0,0,0,1,0,2,191,36,81,15,255,63,242,74,23,72,6,156,142,146,190,137,163,42,56,91,78,105,198,226,190,18,14,145,28,233,75,237,96,91,100,238,218,50,88,128,217,46,156,105,39,48,113,188,152,193,235,78,233,52,118,116,55,99,135,143,203,150,162,95,188,154,23,80,116,214,64,4,119,158,203,82,66,246,69,230]⟩,⟨#[48]⟩,⟨#[]⟩,⟨#[]⟩],[]⟩,⟨[⟨#[48]⟩,⟨#[0,0,0,1,0,3,90,54,168,203,32,221,81,196,189,170,1,177,208,244,146,33,172,144,106,43,177,104,96,254,255,92,194,62,244,55,30,164,186,109,6,250,45,214,62,109,73,157,136,238,11,217,18,59,152,193,235,78,233,52,118,116,55,99,135,143,203,150,162,95,188,154,23,80,116,214,64,4,119,158,203,82,66,246,69,230]⟩,⟨#[0,0,0,1,1,3,90,54,168,203,32,221,81,196,189,170,1,177,208,244,146,33,172,144,106,43,177,104,96,254,255,92,194,62,244,55,30,164,186,109,6,250,45,214,62,109,73,157,136,238,11,217,18,59,152,193,235,78,233,52,118,116,55,99,135,143,203,150,162,95,188,154,23,80,116,214,64,4,119,158,203,82,66,246,69,230]⟩,⟨#[48]⟩,⟨#[]⟩,⟨#[]⟩],[]⟩]}
def yD:eZ:=⟨⟨1,2,[qV,Uz,Cq],[⟨#[21,137,5,150,33,56,49,229,50,30,178,13,170,160,201,173,70,170,236,74,71,145,9,34,32,96,65,152,73,161,15,62]⟩,⟨#[199,155,0,244,172,66,25,120,233,188,251,214,119,123,111,60,174,27,117,102,85,151,248,150,34,59,228,184,213,151,217,82]⟩,⟨#[82,157,26,167,129,93,251,239,137,76,10,182,25,33,243,2,116,140,153,96,142,170,240,168,221,200,49,164,29,40,141,0]⟩]⟩,⟨#[110,0,184,156,90,224,175,77,88,151,8,198,50,94,230,194,189,69,156,187,171,107,145,218,60,142,141,212,215,78,225,127]⟩,
 [(1,⟨#[139,18,65,88,133,2,12,195,242,117,15,235,108,56,202,106,178,255,206,203,84,106,55,198,125,192,65,123,63,144,180,54]⟩),(2,⟨#[191,36,81,15,255,63,242,74,23,72,6,156,142,146,190,137,163,42,56,91,78,105,198,226,190,18,14,145,28,233,75,237]⟩),(3,⟨#[90,54,168,203,32,221,81,196,189,170,1,177,208,244,146,33,172,144,106,43,177,104,96,254,255,92,194,62,244,55,30,164]⟩)],
 [⟨#[81,104,30,246,16,10,91,158,81,1,242,252,252,58,52,192]⟩,⟨#[96,91,100,238,218,50,88,128,217,46,156,105,39,48,113,188]⟩,⟨#[186,109,6,250,45,214,62,109,73,157,136,238,11,217,18,59]⟩]⟩
def yP:az:=⟨[⟨#[48]⟩,⟨#[0,0,0,0,0,0,0,0,0,0,0,0,0,0,0,0,0,0,0,0,0,0,0,0,0,0,0,0,0,0,0,0,0,0,0,0,0,0,0,0,0,0,0,0,0,0,0,0,0,0,0,0,0,0,152,193,235,78,233,52,118,116,55,99,135,143,203,150,162,95,188,154,23,80,116,214,64,4,119,158,203,82,66,246,69,230]⟩,⟨#[]⟩,⟨#[]⟩,⟨#[]⟩,⟨#[]⟩],[]⟩
abbrev Er:List ag:= [qV,Uz,Cq]
theorem y_e:kJ qU Er 2 1=0:=ax
theorem y_d:du qU Er 2 1=yD:=ax
theorem y_p:lZ (gE oy)=(yP,0):=ax
theorem y_s:ij yD (List.replicate Er.length yP) (-1)=(tn.ds,true,0):=ax
theorem y_f:pp 4=(tn.ch,0):=ax
theorem y_m:jT (qU++⟨#[47,109,97,115,116,101,114]⟩) 32=(tn.ms,0):=ax
theorem y_n:fN (gD 3) 0 0 0=(jS 0,1,16,tn.sp,0):=ax
theorem y_w:nh yD.sec (jS 0) tn.ms=0:=ax
theorem y_x:qI yD.sec (jS 0) tn.ms=tn.wr:=ax
theorem y_o:(cR tn.ch).2=0:=ax
theorem y_v:(cR tn.ch).1.V=tn.v:=ax
theorem y_0:mc qU oy Er 2 4=(some tn,.ok gT):=by
 unfold mc;simp only[y_e,y_d,y_p,y_s,y_f,y_m,y_n,y_w,y_x,y_o,y_v,ne_eq,not_true_eq_false,if_false];rfl
theorem y_1:yu tn 1 v7=(Ks,.ok gT):=ax
theorem y_2:nz Ks 1=(Ks,.ok (AF++v7)):=ax
theorem y_3:vX (jq Ks) oy [qV,Cq]=(UH,.ok gT):=ax
theorem y_5:nz UH 1=(UH,.ok (AF++v7)):=ax
theorem awZ:jU N7=UB:=by
 unfold jU;rw[awy,fA,awE,fA,awC aww bU,fA];dsimp only;decide+kernel
theorem aw0 {S T U:aW} (h0:mc qU oy Er 2 4=(some S,.ok gT)) (h1:yu S 1 v7=(T,.ok gT)) (h2:nz T 1=(T,.ok (AF++v7))) (h3:vX (jq T) oy [qV,Cq]=(U,.ok gT)) (h4:nz U 1=(U,.ok (AF++v7))):jU Ko=N8:=by
 have l0:fw none UC=(some S,gT):=by
  rw[ae5 (f:= [116,116,110,110]) (more:=true) (ms:= [0,0,2,4]) awr bU bU none];show ((mc qU oy Er 2 4).1.or none,mI (mc qU oy Er 2 4).2)=_;rw[h0];rfl
 have l1:fw (some S) UD=(some T,gT):=by
  rw[Eq (c:=4) (f:= [110,116]) (more:=false) (ms:= [1,0]) aws bU bU au S];show (some (yu S 1 v7).1,mI (yu S 1 v7).2)=_;rw[h1];rfl
 have rd: ∀V:aW,nz V 1=(V,.ok (AF++v7))->fw (some V) N9=(some V,AF++v7):=λV h=>by
  rw[Eq (c:=3) (f:= [110]) (more:=false) (ms:= [1]) awt bU bU au V];show (some (nz V 1).1,mI (nz V 1).2)=_;rw[h];rfl
 have l4:fw (some (jq T)) UE=(some (jq T),mI (.er 212)):=by
  rw[Eq (c:=3) (f:= [110]) (more:=false) (ms:= [1]) awu bU bU au (jq T)];show (some (nz (jq T) 1).1,mI (nz (jq T) 1).2)=_;rw[ae8]
 have l5:fw (some (jq T)) UF=(some U,gT):=by
  rw[Eq (c:=1) (f:= [116]) (more:=true) (ms:= [0]) awv bU bU au (jq T)];show (some (vX (jq T) oy [qV,Cq]).1,mI (vX (jq T) oy [qV,Cq]).2)=_;rw[h3];rfl
 unfold jU;rw[awz,fA,l0,fA,l1,fA,rd T h2,fA,show ln3=Kr from rfl,ae6,fA,l4,fA,l5,fA,show ln6=N9 from rfl,rd U h4,fA,ae7];dsimp only;decide+kernel
theorem aw1:jU Ko=N8:=aw0 y_0 y_1 y_2 y_3 y_5
end
section
variable {A5 B5:aN} {B0 S ai c5 d5 g i j k m5 n5:Nat} {D:eZ} {P:Prop} {Q:az} {W w w' w5:World} {a u u2 v2 x x2 y y2 z:Value} {b e r:Addr} {o:Obj}
def afv (w:World) (r:S4) (e:Ending) (w':World):Prop:= ∃v,e= .returned (.tuple #[.agg #[.int .i64 r.x,.string r.b],.string r.salt,v,.int .i64 r.e])/\dT w' v r.p/\aD w w'
theorem Og {P:Program} {fn:Func} {a b t u:Tmp} {ta tb:TypeId} (h:fn.results= #[.cell a ta,.tmp t,.cell b tb,.tmp u]) (tmps:bx) (w:World) (g k:Nat) (ha:tmps.getD a undef= .pointer (aw g)) (hb:tmps.getD b undef= .pointer (aw k)) (x y:Value) (hl:(loadVar ta ⟨g,0,none⟩).run P w= .ok x w) (hk:(loadVar tb ⟨k,0,none⟩).run P w= .ok y w):(results fn tmps).run P w= .ok (.tuple #[x,tmps.getD t undef,y,tmps.getD u undef]) w:=by
 exact Ve
theorem Oh {b:Value} {t:TypeId} (h:w.heap[g]?=some (.cells #[a,b] t (0,0))):(loadVar 101 ⟨g,0,none⟩).run prog w= .ok (.agg #[a,b]) w:=
 run_loadVar_mid (P:=prog) w g 0 101 [a,b] _ (λj v hj=>by
  cases j with
  |zero=>simp at hj;subst hj;exact (aV h).1
  |succ j=>cases j with
   |zero=>simp at hj;subst hj;exact (aV h).2.1
   |succ j=>simp at hj) underlying101 rfl ax
theorem PB.two_two {A B:aN} {n m:Nat} {P:az} (h:PB w A n B m P) {b c d:Value} {t:TypeId} (hg:w.heap[g]?=some (.cells #[a,b] t (0,0))) (hk:bj w k #[c,d] 74) (h1:t≠9) (h2:t≠257) (aO:g≠k) (x y p q:Value):
  PB ((((w.setCell ⟨g,0,none⟩ x).setCell ⟨g,1,none⟩ y).setCell ⟨k,0,none⟩ p).setCell ⟨k,1,none⟩ q) A n B m P:=by
 have e2:((w.setCell ⟨g,0,none⟩ x).setCell ⟨g,1,none⟩ y).heap[k]?=some (.cells #[c,d] 74 (0,0)):=(bz _ ⟨g,1,none⟩ y k (Ne.symm aO)).trans ((bz w ⟨g,0,none⟩ x k (Ne.symm aO)).trans hk);exact (((h.setT hg h1 h2 0 x).setT (bt hg 0 x) h1 h2 1 y).setT e2 au au 0 p).setT (bt e2 0 p) au au 1 q
theorem wk {p q:Addr} {v:Value} (h:W.cell? p=some u/\W.cell? q=some v):W.drew.cell? p=some u/\W.drew.cell? q=some v:=h
theorem Oi {p q s:Addr} {v:Value} (h:(W.cell? p=some u/\W.cell? q=some v)/\(W.cell? r=some x/\W.cell? s=some y)):(W.drew.cell? p=some u/\W.drew.cell? q=some v)/\(W.drew.cell? r=some x/\W.drew.cell? s=some y):=h
theorem Kv {b:Nat} {c v:Value} (aO:g≠b) (h:W.cell? ⟨b,i,none⟩=some u/\W.cell? ⟨b,j,none⟩=some v):((W.setCell ⟨g,0,none⟩ a).setCell ⟨g,1,none⟩ c).cell? ⟨b,i,none⟩=some u/\((W.setCell ⟨g,0,none⟩ a).setCell ⟨g,1,none⟩ c).cell? ⟨b,j,none⟩=some v:=
 ip (ip h (by simp[aO]) (by simp[aO])) (by simp[aO]) (by simp[aO])
theorem UN {b m n:Nat} {c v:Value} (aO:g≠b) (va:g≠k) (h:(W.cell? ⟨b,i,none⟩=some u/\W.cell? ⟨b,j,none⟩=some v)/\(W.cell? ⟨k,m,none⟩=some x/\W.cell? ⟨k,n,none⟩=some y)):
 (((W.setCell ⟨g,0,none⟩ a).setCell ⟨g,1,none⟩ c).cell? ⟨b,i,none⟩=some u/\((W.setCell ⟨g,0,none⟩ a).setCell ⟨g,1,none⟩ c).cell? ⟨b,j,none⟩=some v)/\(((W.setCell ⟨g,0,none⟩ a).setCell ⟨g,1,none⟩ c).cell? ⟨k,m,none⟩=some x/\((W.setCell ⟨g,0,none⟩ a).setCell ⟨g,1,none⟩ c).cell? ⟨k,n,none⟩=some y):=⟨Kv aO h.1,Kv va h.2⟩
abbrev zS:bx:= #[.int .i64 0,.string ⟨#[]⟩]
theorem two_two {t u:TypeId} {b c d:Value} (aO:g≠k) (hg:w.heap[g]?=some (.cells #[a,b] t (0,0))) (hk:w.heap[k]?=some (.cells #[c,d] u (0,0))) (x y p q:Value):
  ((((w.setCell ⟨g,0,none⟩ x).setCell ⟨g,1,none⟩ y).setCell ⟨k,0,none⟩ p).setCell ⟨k,1,none⟩ q).heap[g]?=some (.cells #[x,y] t (0,0))/\((((w.setCell ⟨g,0,none⟩ x).setCell ⟨g,1,none⟩ y).setCell ⟨k,0,none⟩ p).setCell ⟨k,1,none⟩ q).heap[k]?=some (.cells #[p,q] u (0,0))/\((w.setCell ⟨g,0,none⟩ x).setCell ⟨g,1,none⟩ y).heap[k]?=some (.cells #[c,d] u (0,0)):=by
 have h1:=eA hg x y;have h2:((w.setCell ⟨g,0,none⟩ x).setCell ⟨g,1,none⟩ y).heap[k]?=some (.cells #[c,d] u (0,0)):=(bz _ ⟨g,1,none⟩ y k (Ne.symm aO)).trans ((bz w ⟨g,0,none⟩ x k (Ne.symm aO)).trans hk);exact⟨(bz _ ⟨k,1,none⟩ q g aO).trans ((bz _ ⟨k,0,none⟩ p g aO).trans h1),eA h2 p q,h2⟩
theorem agi (h:P:=by
 go_wp2_with fail;go_region_held3 (λw'=>w'.cell? ⟨w.heap.size,0,none⟩=some (.slice A1 n1 c1)/\w'.cell? ⟨w.heap.size,1,none⟩=some (.slice B1 m1 wL))
  (first|with_reducible assumption|with_reducible exact wk ⟨p0,p1⟩|with_reducible exact wk (ip (ip (ip (ip ⟨p0,p1⟩ ak ak) ak ak) ak ak) ak ak)|with_reducible exact wk (ip (ip ⟨p0,p1⟩ ak ak) ak ak))
  (fail)
 all_goals
  go_wp2_with fail
  obtain⟨k1,k2,k3⟩:=two_two (show w.heap.size+1≠w.heap.size+1+1 by omega) uH uZ (.int .i64 0) (.string ⟨#[]⟩) (.slice A1 n1 c1) (.slice B1 m1 wL)
  have hW:=(dL (dL qh (show w.heap.size<=w.heap.size+1 by omega) (.int .i64 0) (.string ⟨#[]⟩)) (show w.heap.size<=w.heap.size+1+1 by omega) (.slice A1 n1 c1) (.slice B1 m1 wL)).drew
  have hQ:=zd.two_two uH uZ au au ae (.int .i64 0) (.string ⟨#[]⟩) (.slice A1 n1 c1) (.slice B1 m1 wL)
  refine bodyPost_ret (Og rfl _ _ (w.heap.size+1) (w.heap.size+1+1) ah ah _ _ (Oh (w:=World.drew _) k1) (eP (w:=World.drew _) k2)) rfl ?_
  rw[HE.out]
  exact⟨_,rfl,⟨_,_,_,_,_,_,rfl,hQ.below ya3⟩,hW⟩):P:=h
theorem Vd (h:P:=by
 go_wp2_with fail;obtain⟨k1,k2,k3⟩:=two_two (show w.heap.size+1≠w.heap.size+1+1 by omega) dg bT (.int .i64 0) (.string ⟨#[]⟩) (ay) (ay);try simp only[Exit.inBlock,Exit.then]
 refine bodyPost_ret (Og rfl _ _ (w.heap.size+1) (w.heap.size+1+1) ah ah _ _ (Oh k1) (eP k2)) rfl ?_;rw[HE.out];exact⟨_,rfl,dT.no _,dL (dL bq ae _ _) ae _ _⟩):P:=h
theorem axl (v:Value) (P:az) (cred:ag) (aH:Int) (w:World) (h:dT w v P) (hR:cX w) (Pq:aH<=9223372036854775807):
  Calls prog 55 #[v,.string cred,.int .i64 aH] w (afv w (kH P (gE cred) aH)):=by
 obtain⟨A,n,c,B,m,d,rfl,h⟩:=h;obtain⟨hA,hS,hX,bG⟩:=adI w #[.slice A n c,.slice B m d] zS zP 74 101 74;have HA:=aa hA;have HS:=aa hS;have HX:=aa hX;have HB:=aa bG;have HP:=aa (h.below bG);have tM:=aa hR;have HR:=aa hR;have X7:=aa bG;have jM:=aa (S7 P);obtain⟨sm,mN⟩: ∃sm,sm=gE cred:=⟨_,rfl⟩
 have zc:=aa mN;rw[<-mN];obtain⟨q,hq⟩: ∃q,q=dr P:=⟨_,rfl⟩
 have HG:Hid (kH P sm aH=if q.2≠0 then ki bI q.2 else if q.1.x=0 then ki bI 212 else if 5<=q.1.tries then ki bI 210
  else if (eq P aH [(0,eD {q.1 with tries:=q.1.tries+1})]).2≠0 then ki (eq P aH [(0,eD {q.1 with tries:=q.1.tries+1})]).1 (eq P aH [(0,eD {q.1 with tries:=q.1.tries+1})]).2
  else if q.1.cred≠sm then ki (eq P aH [(0,eD {q.1 with tries:=q.1.tries+1})]).1 211
  else if (eq (eq P aH [(0,eD {q.1 with tries:=q.1.tries+1})]).1 (if 4<=aH then aH - 4 else aH) [(0,eD {q.1 with tries:=0})]).2≠0 then ki (eq (eq P aH [(0,eD {q.1 with tries:=q.1.tries+1})]).1 (if 4<=aH then aH - 4 else aH) [(0,eD {q.1 with tries:=0})]).1 (eq (eq P aH [(0,eD {q.1 with tries:=q.1.tries+1})]).1 (if 4<=aH then aH - 4 else aH) [(0,eD {q.1 with tries:=0})]).2
  else ⟨q.1.x,q.1.b,q.1.salt,(eq (eq P aH [(0,eD {q.1 with tries:=q.1.tries+1})]).1 (if 4<=aH then aH - 4 else aH) [(0,eD {q.1 with tries:=0})]).1,0⟩):=aa (by rw[hq];rfl)
 rw[<-hq]at jM;have Hq:=aa hq;obtain⟨⟨h0,h1,h2,h3,h4,h5,h6,h7,h8,h9⟩,er⟩:=q;simp only at HG jM;clear h hA hS hX bG hq mN hR;go_in;go_wp2_with fail;refine (Gm _ P _ ⟨_,_,_,_,_,_,rfl,HP⟩).mono ?_;rintro e w1 ⟨rfl,aG⟩;rw[<-Hq.out];replace HX:=aT HX aG;replace HA:=aT HA aG;replace HS:=aT HS aG;replace HB:=aX HB aG;replace HP:=aa (HP.below aG);replace HR:=aa ((HR.below (X7)).below aG);have EB:=bf HX.out;clear aG;have al: ∀C:bx,aD w1 (w1.alloc (.cells C 120)):=λC=>be w1 _;have av:=al #[.int .i64 h0,.int .i64 h1,.int .i64 h2,.string h3,.string h4,.string h5,.int .i64 h6,.int .i64 h7,.string h8,.string h9];have bT:=aT HX av;have dN:=aT HA av;have dg:=aT HS av;have bq:=aX HB av;have H4:=aa (aR w1 (.cells #[.int .i64 h0,.int .i64 h1,.int .i64 h2,.string h3,.string h4,.string h5,.int .i64 h6,.int .i64 h7,.string h8,.string h9] 120));obtain⟨x0,x1,x2,x3⟩:=aV bT.out;obtain⟨s0,s1,s2,s3⟩:=aV dg.out;obtain⟨a0,a1,_,_⟩:=aV dN.out;obtain⟨⟨e0,e1,e2,e3,e4,e5,e6,e7,e8,e9⟩,ef⟩:=fu H4.out;have Da:=ef 1;clear av ef;unfold kK;by_cases dO:er=0
 ·subst dO;by_cases hx:h2=0
  ·have HE:=aa (show kH P sm aH=ki bI 212 by rw[HG.out,if_neg ak,if_pos hx]);have d1:(h2==0)=true:=by simpa using hx
   clear hx;exact Vd
  ·have d1:(h2==0)=false:=by simpa using hx
   by_cases ht:5<=h1
   ·have HE:=aa (show kH P sm aH=ki bI 210 by rw[HG.out,if_neg ak,if_neg hx,if_pos ht]);have d2:decide (5<=h1)=true:=(by simpa using ht);clear hx ht;exact Vd
   ·have d2:decide (5<=h1)=false:=(by simpa using ht);have ht0:=jM.t0;simp only at ht0;have aL:=al #[.int .i64 h0,.int .i64 (h1+1),.int .i64 h2,.string h3,.string h4,.string h5,.int .i64 h6,.int .i64 h7,.string h8,.string h9];replace bT:=aT HX aL;replace dN:=aT HA aL;replace dg:=aT HS aL;replace bq:=aX HB aL;have fP:=aa (HP.below aL);replace HR:=aa (HR.below aL);replace H4:=aa (aR w1 (.cells #[.int .i64 h0,.int .i64 (h1+1),.int .i64 h2,.string h3,.string h4,.string h5,.int .i64 h6,.int .i64 h7,.string h8,.string h9] 120));clear aL s0 s1 s2 s3 x0 x1 x2 x3;obtain⟨tx,xu⟩: ∃tx,tx=eD ⟨h0,h1+1,h2,h3,h4,h5,h6,h7,h8,h9⟩:=⟨_,rfl⟩
    have tG:=aa (show∀W,Calls prog 89 #[.agg #[.int .i64 h0,.int .i64 (h1+1),.int .i64 h2,.string h3,.string h4,.string h5,.int .i64 h6,.int .i64 h7,.string h8,.string h9]] W λe w'=>e= .returned (.string tx)/\aD W w' from λW=>by rw[xu];exact Ny ⟨h0,h1+1,h2,h3,h4,h5,h6,h7,h8,h9⟩ W jM.epoch (bD jM.b ae) (bD jM.s ae) (bD jM.c ae));have YB:=aa xu;clear xu a0 a1 e0 e1 e2 e3 e4 e5 e6 e7 e8 e9 Da;have Da:=(fu (aR w1 (.cells #[.int .i64 h0,.int .i64 h1,.int .i64 h2,.string h3,.string h4,.string h5,.int .i64 h6,.int .i64 h7,.string h8,.string h9] 120))).2 1;obtain⟨⟨_,e1,e2,_⟩,_⟩:=fu (aR w1 (.cells #[.int .i64 h0,.int .i64 h1,.int .i64 h2,.string h3,.string h4,.string h5,.int .i64 h6,.int .i64 h7,.string h8,.string h9] 120));go_wp2_with fail;obtain⟨w2,cl⟩: ∃w2,w2=w1.alloc (.cells #[.int .i64 h0,.int .i64 (h1+1),.int .i64 h2,.string h3,.string h4,.string h5,.int .i64 h6,.int .i64 h7,.string h8,.string h9] 120):=⟨_,rfl⟩
    rw[<-cl]at bT dN dg bq fP HR H4⊢;clear cl e1 e2 Da;have iU:=bf H4.out;obtain⟨a0,a1,_,_⟩:=aV dN.out;obtain⟨⟨e0,e1,e2,e3,e4,e5,e6,e7,e8,e9⟩,_⟩:=fu H4.out;have wX:=tM;go_cut [11] from 40 to 49 (λv wc=> ∃(er:Int) (Qx:az) (A1:aN) (n1 c1:Nat) (B1:aN) (m1 d1:Nat),v= .int .i64 er/\eq P aH [(0,tx)]=(Qx,er)/\bj wc w.heap.size #[.slice A1 n1 c1,.slice B1 m1 d1] 74/\bj wc (w.heap.size+1) zS 101/\bj wc (w.heap.size+1+1) zP 74/\bj wc w1.heap.size #[.int .i64 h0,.int .i64 (h1+1),.int .i64 h2,.string h3,.string h4,.string h5,.int .i64 h6,.int .i64 h7,.string h8,.string h9] 120/\PB wc A1 n1 B1 m1 Qx/\aD w wc/\cX wc);case first=>
     go_region_law (first
      |(go_simp;go_at_call 89;refine Calls.mono (tG _) ?_;rintro _ w4 ⟨rfl,hb4'⟩;have aP:=bg ((aI _ w2).drew) hb4';clear hb4';replace dN:=aT dN aP;replace dg:=aT dg aP;replace bT:=aT bT aP;replace H4:=aT H4 aP;replace bq:=aX bq aP;replace fP:=aa (fP.below aP);replace HR:=aa (HR.below aP);have bE:=be w4 (.cells #[.int .i64 0,.string tx] 148);obtain⟨b0,b1,_,_⟩:=aV dN.out;obtain⟨f0,f1,_,_⟩:=aV (aJ dN bE))
      |(go_simp;go_at_call 88;refine (Gn _ _ 1 1 aH P [(0,tx)] _ ⟨_,_,_,_,_,_,rfl,fP.below bE⟩ (by exact jk w4 _ _ _ rfl) rfl ak ae ae).mono ?_;rintro _ w5 ⟨v5,rfl,hv5,hb5'⟩;have aY:=bg bE hb5';replace dN:=aT dN aY;replace dg:=aT dg aY;replace bT:=aT bT aY;replace H4:=aT H4 aY;replace bq:=aX bq aY;replace HR:=aa (HR.below aY);obtain⟨A6,n6,c6,B6,m6,d6,rfl,nB⟩:=hv5;obtain⟨y0,y1,y2,y3⟩:=aV dN))
     all_goals
      go_wp2
      go_meet
      case rel=>
       obtain⟨q,hq⟩: ∃q,q=eq P aH [(0,tx)]:=⟨_,rfl⟩
       rw[<-hq]at nB⊢
       obtain⟨Qx,WC⟩:=q
       have LG:=dL (w0:=w) (w:=w5) bq (aM w.heap.size) (.slice A6 n6 c6) (.slice B6 m6 d6)
       refine⟨WC,Qx,A6,n6,c6,B6,m6,d6,rfl,rfl,eA dN _ _,(bz _ ⟨w.heap.size,1,none⟩ _ (w.heap.size+1) ak).trans ((bz _ ⟨w.heap.size,0,none⟩ _ (w.heap.size+1) ak).trans dg),(bz _ ⟨w.heap.size,1,none⟩ _ (w.heap.size+1+1) (by simp;omega)).trans ((bz _ ⟨w.heap.size,0,none⟩ _ (w.heap.size+1+1) (by simp;omega)).trans bT),(bz _ ⟨w.heap.size,1,none⟩ _ w1.heap.size (by simp;omega)).trans ((bz _ ⟨w.heap.size,0,none⟩ _ w1.heap.size (by simp;omega)).trans H4),nB.two dN,LG,wX.below LG⟩
    case rest=>
     obtain⟨er,Q1,A1,n1,c1,B1,m1,wL,rfl,bH,fV,qA,Fe,Ik,LN,EZ,Qm⟩:=hcut;have Lo:=aa fV;have uH:=aa qA;have uZ:=aa Fe;have IY:=aa Ik;have zd:=aa LN;have qh:=aa EZ;have qj:=aa Qm;have Rh:=aa (show kH P sm aH=if er≠0 then ki Q1 er else if h5≠sm then ki Q1 211 else if (eq Q1 (if 4<=aH then aH - 4 else aH) [(0,eD ⟨h0,0,h2,h3,h4,h5,h6,h7,h8,h9⟩)]).2≠0 then ki (eq Q1 (if 4<=aH then aH - 4 else aH) [(0,eD ⟨h0,0,h2,h3,h4,h5,h6,h7,h8,h9⟩)]).1 (eq Q1 (if 4<=aH then aH - 4 else aH) [(0,eD ⟨h0,0,h2,h3,h4,h5,h6,h7,h8,h9⟩)]).2
      else ⟨h2,h3,h4,(eq Q1 (if 4<=aH then aH - 4 else aH) [(0,eD ⟨h0,0,h2,h3,h4,h5,h6,h7,h8,h9⟩)]).1,0⟩ by rw[HG.out,if_neg ak,if_neg hx,if_neg (show¬5<=h1 by omega),<-YB.out,bH])
     clear a0 a1 e0 e1 e2 e3 e4 e5 e6 e7 e8 e9 d1 d2;obtain⟨p0,p1,_,_⟩:=aV fV;obtain⟨s0,s1,s2,s3⟩:=aV qA;obtain⟨x0,x1,x2,x3⟩:=aV Fe;obtain⟨⟨e0,e1,e2,e3,e4,e5,e6,e7,e8,e9⟩,ef⟩:=fu Ik;have Da:=ef 1;clear fV qA Fe Ik LN EZ Qm ef tG bH;by_cases Bf:er=0
     ·subst Bf;clear e0 e1 e2 e3 e4 e6 e7 e8 e9 p0 p1;have Io:=aa (show kH P sm aH=if h5≠sm then ki Q1 211 else if (eq Q1 (if 4<=aH then aH - 4 else aH) [(0,eD ⟨h0,0,h2,h3,h4,h5,h6,h7,h8,h9⟩)]).2≠0 then ki (eq Q1 (if 4<=aH then aH - 4 else aH) [(0,eD ⟨h0,0,h2,h3,h4,h5,h6,h7,h8,h9⟩)]).1 (eq Q1 (if 4<=aH then aH - 4 else aH) [(0,eD ⟨h0,0,h2,h3,h4,h5,h6,h7,h8,h9⟩)]).2
       else ⟨h2,h3,h4,(eq Q1 (if 4<=aH then aH - 4 else aH) [(0,eD ⟨h0,0,h2,h3,h4,h5,h6,h7,h8,h9⟩)]).1,0⟩ by rw[Rh.out,if_neg ak])
      go_wp2_with fail;go_region_held3 (λw'=>w'.cell? ⟨w1.heap.size,5,none⟩=some (.string h5)/\w'.cell? ⟨w1.heap.size,5,none⟩=some (.string h5))
       (first|with_reducible assumption|with_reducible exact wk ⟨e5,e5⟩|with_reducible exact i6 (wk ⟨e5,e5⟩) (by assumption))
       (first
        |((go_at_call 90;refine (Tv cred _ (by exact qj.out)).mono ?_);rintro _ w6 ⟨rfl,hb6'⟩;rw[<-zc.out];have bO:=bg ((aI _ wc).drew) hb6')
        |((go_at_call 103;refine (asr h5 sm _).mono ?_);rintro _ w7 ⟨rfl,rfl⟩))
      replace Lo:=aT Lo bO;replace uH:=aT uH bO;replace uZ:=aT uZ bO;replace IY:=aT IY bO;replace zd:=aa (zd.below bO);replace qh:=aX qh bO;clear s0 s1 s2 s3 x0 x1 x2 x3 e5 Da;obtain⟨p0,p1,_,_⟩:=aV Lo.out;obtain⟨s0,s1,s2,s3⟩:=aV uH.out;obtain⟨x0,x1,x2,x3⟩:=aV uZ.out;by_cases wM:h5=sm
      ·have dd:decide (h5=sm)=true:=(by simpa using wM);have E5:=aa (show kH P sm aH=if (eq Q1 (if 4<=aH then aH - 4 else aH) [(0,eD ⟨h0,0,h2,h3,h4,h5,h6,h7,h8,h9⟩)]).2≠0 then ki (eq Q1 (if 4<=aH then aH - 4 else aH) [(0,eD ⟨h0,0,h2,h3,h4,h5,h6,h7,h8,h9⟩)]).1 (eq Q1 (if 4<=aH then aH - 4 else aH) [(0,eD ⟨h0,0,h2,h3,h4,h5,h6,h7,h8,h9⟩)]).2
        else ⟨h2,h3,h4,(eq Q1 (if 4<=aH then aH - 4 else aH) [(0,eD ⟨h0,0,h2,h3,h4,h5,h6,h7,h8,h9⟩)]).1,0⟩ by rw[Io.out,if_neg (by simpa using wM)])
       clear HG wM p0 p1 s0 s1 s2 s3 x0 x1 x2 x3;simp only[dd,Bool.not_true];clear dd;obtain⟨Fp,Q6⟩: ∃y,y=(if 4<=aH then aH - 4 else aH):=⟨_,rfl⟩
       have hdl:Fp<=9223372036854775807:=(by rw[Q6];split<;>omega);rw[<-Q6]at E5;have ak8:=aa Q6;clear Q6;iterate 7 go_step
       go_cut [2] from 63 to 66 (λv wc=>v= .int .i64 Fp/\wc=w7);case first=>
        by_cases PU:4<=aH
        ·have d4:decide (aH>=4)=true:=(by simpa using PU);have e5:Fp=aH - 4:=(by rw[ak8.out,if_pos PU]);go_wp2;go_meet;case rel=>exact⟨by rw[e5],rfl⟩
        ·have d4:decide (aH>=4)=false:=(by simpa using PU);have e5:Fp=aH:=(by rw[ak8.out,if_neg PU]);go_wp2;go_meet;case rel=>exact⟨by rw[e5],rfl⟩
       case rest=>
        obtain⟨rfl,rfl⟩:=hcut;obtain⟨⟨_,e1,_⟩,ef⟩:=fu IY.out;have Da:=ef 1;clear ef;go_upto_region 17 with fail
        clear e1 Da;have dN:=aa ((bz wc ⟨w1.heap.size,1,none⟩ (.int .i64 0) w.heap.size (by simp;omega)).trans Lo);have dg:=aa ((bz wc ⟨w1.heap.size,1,none⟩ (.int .i64 0) (w.heap.size+1) (by simp;omega)).trans uH);have bT:=aa ((bz wc ⟨w1.heap.size,1,none⟩ (.int .i64 0) (w.heap.size+1+1) (by simp;omega)).trans uZ);have Wv:=bt IY 1 (.int .i64 0);simp only[List.setIfInBounds_toArray,List.set_cons_zero,List.set_cons_succ]at Wv;have H4:=aa Wv;have bq:=aa (qh.trans (jQ (show w.heap.size<=w1.heap.size by omega) (i:=1) (w:=wc) (.int .i64 0)));have fP:=aa (zd.setT IY au au 1 (.int .i64 0));clear Wv;obtain⟨w8,Fl⟩: ∃w8,w8=wc.setCell ⟨w1.heap.size,1,none⟩ (.int .i64 0):=⟨_,rfl⟩
        rw[<-Fl]at dN dg bT H4 bq fP⊢;clear Fl Lo uH uZ IY zd qh HX HA HS HB;have HR:=aa (tM.below bq);have wX:=tM;have iU:=bf H4.out;obtain⟨tx,xu⟩: ∃tx,tx=eD ⟨h0,0,h2,h3,h4,h5,h6,h7,h8,h9⟩:=⟨_,rfl⟩
        have tG:=aa (show∀W,Calls prog 89 #[.agg #[.int .i64 h0,.int .i64 0,.int .i64 h2,.string h3,.string h4,.string h5,.int .i64 h6,.int .i64 h7,.string h8,.string h9]] W λe w'=>e= .returned (.string tx)/\aD W w' from λW=>by rw[xu];exact Ny ⟨h0,0,h2,h3,h4,h5,h6,h7,h8,h9⟩ W jM.epoch (bD jM.b ae) (bD jM.s ae) (bD jM.c ae));rw[<-xu]at E5;clear xu;obtain⟨a0,a1,_,_⟩:=aV dN.out;obtain⟨⟨e0,e1,e2,e3,e4,e5,e6,e7,e8,e9⟩,_⟩:=fu H4.out;go_cut [11] from 68 to 77 (λv wc=> ∃(er:Int) (Qx:az) (A1:aN) (n1 c1:Nat) (B1:aN) (m1 d1:Nat),v= .int .i64 er/\eq Q1 Fp [(0,tx)]=(Qx,er)/\bj wc w.heap.size #[.slice A1 n1 c1,.slice B1 m1 d1] 74/\bj wc (w.heap.size+1) zS 101/\bj wc (w.heap.size+1+1) zP 74/\bj wc w1.heap.size #[.int .i64 h0,.int .i64 0,.int .i64 h2,.string h3,.string h4,.string h5,.int .i64 h6,.int .i64 h7,.string h8,.string h9] 120/\PB wc A1 n1 B1 m1 Qx/\aD w wc/\cX wc);case first=>
         go_region_law (first
          |(go_simp;go_at_call 89;refine Calls.mono (tG _) ?_;rintro _ w4 ⟨rfl,hb4'⟩;have aP:=bg ((aI _ w8).drew) hb4';clear hb4';replace dN:=aT dN aP;replace dg:=aT dg aP;replace bT:=aT bT aP;replace H4:=aT H4 aP;replace bq:=aX bq aP;replace fP:=aa (fP.below aP);replace HR:=aa (HR.below aP);have bE:=be w4 (.cells #[.int .i64 0,.string tx] 148);obtain⟨b0,b1,_,_⟩:=aV dN.out;obtain⟨f0,f1,_,_⟩:=aV (aJ dN bE))
          |(go_simp;go_at_call 88;refine (Gn _ _ 1 1 Fp Q1 [(0,tx)] _ ⟨_,_,_,_,_,_,rfl,fP.below bE⟩ (by exact jk w4 _ _ _ rfl) rfl ak ae ae).mono ?_;rintro _ w5 ⟨v5,rfl,hv5,hb5'⟩;have aY:=bg bE hb5';replace dN:=aT dN aY;replace dg:=aT dg aY;replace bT:=aT bT aY;replace H4:=aT H4 aY;replace bq:=aX bq aY;replace HR:=aa (HR.below aY);obtain⟨A6,n6,c6,B6,m6,d6,rfl,nB⟩:=hv5;obtain⟨y0,y1,y2,y3⟩:=aV dN))
         all_goals
          go_wp2
          go_meet
          case rel=>
           obtain⟨q,hq⟩: ∃q,q=eq Q1 Fp [(0,tx)]:=⟨_,rfl⟩
           rw[<-hq]at nB⊢
           obtain⟨Qx,WC⟩:=q
           have LG:=dL (w0:=w) (w:=w5) bq (aM w.heap.size) (.slice A6 n6 c6) (.slice B6 m6 d6)
           refine⟨WC,Qx,A6,n6,c6,B6,m6,d6,rfl,rfl,eA dN _ _,(bz _ ⟨w.heap.size,1,none⟩ _ (w.heap.size+1) ak).trans ((bz _ ⟨w.heap.size,0,none⟩ _ (w.heap.size+1) ak).trans dg),(bz _ ⟨w.heap.size,1,none⟩ _ (w.heap.size+1+1) (by simp;omega)).trans ((bz _ ⟨w.heap.size,0,none⟩ _ (w.heap.size+1+1) (by simp;omega)).trans bT),(bz _ ⟨w.heap.size,1,none⟩ _ w1.heap.size (by simp;omega)).trans ((bz _ ⟨w.heap.size,0,none⟩ _ w1.heap.size (by simp;omega)).trans H4),nB.two dN,LG,wX.below LG⟩
        case rest=>
         obtain⟨er,Q2,A2,n2,c2,B2,m2,jG,rfl,bH,fV,qA,Fe,Ik,LN,EZ,Qm⟩:=hcut;have uH:=aa qA;have uZ:=aa Fe;have zd:=aa LN;have qh:=aa EZ;rw[bH]at E5;clear a0 a1 e0 e1 e2 e3 e4 e5 e6 e7 e8 e9;obtain⟨p0,p1,_,_⟩:=aV fV;obtain⟨s0,s1,s2,s3⟩:=aV qA;obtain⟨x0,x1,x2,x3⟩:=aV Fe;obtain⟨⟨_,_,e2,e3,e4,_⟩,_⟩:=fu Ik;clear fV qA Fe Ik LN EZ Qm bH;by_cases Bf:er=0
         ·subst Bf;have HE:=aa (show kH P sm aH=⟨h2,h3,h4,Q2,0⟩ by rw[E5.out];simp);go_upto_region 20 with fail
          have Qr:w.heap.size+1≠w.heap.size:=ae;have q20:w.heap.size+1+1≠w.heap.size:=ae;have O4:w.heap.size+1≠w1.heap.size:=ae;have q2h:w.heap.size+1+1≠w1.heap.size:=ae;go_region_held3 (λw'=>((w'.cell? ⟨w.heap.size,0,none⟩=some (.slice A2 n2 c2)/\w'.cell? ⟨w.heap.size,1,none⟩=some (.slice B2 m2 jG))/\(w'.cell? ⟨w1.heap.size,2,none⟩=some (.int .i64 h2)/\w'.cell? ⟨w1.heap.size,3,none⟩=some (.string h3)))/\(w'.cell? ⟨w1.heap.size,4,none⟩=some (.string h4)/\w'.cell? ⟨w1.heap.size,4,none⟩=some (.string h4)))
           (first|with_reducible assumption|with_reducible exact⟨Oi ⟨⟨p0,p1⟩,⟨e2,e3⟩⟩,wk ⟨e4,e4⟩⟩|with_reducible exact⟨Oi (UN q20 q2h (UN Qr O4 ⟨⟨p0,p1⟩,⟨e2,e3⟩⟩)),wk (Kv q2h (Kv O4 ⟨e4,e4⟩))⟩|with_reducible exact⟨Oi (UN Qr O4 ⟨⟨p0,p1⟩,⟨e2,e3⟩⟩),wk (Kv O4 ⟨e4,e4⟩)⟩)
           (fail)
          all_goals
           go_wp2_with fail
           obtain⟨k1,k2,k3⟩:=two_two (show w.heap.size+1≠w.heap.size+1+1 by omega) uH uZ (.int .i64 h2) (.string h3) (.slice A2 n2 c2) (.slice B2 m2 jG)
           have hW:=(dL (dL qh (show w.heap.size<=w.heap.size+1 by omega) (.int .i64 h2) (.string h3)) (show w.heap.size<=w.heap.size+1+1 by omega) (.slice A2 n2 c2) (.slice B2 m2 jG)).drew
           have hQ:=zd.two_two uH uZ au au ae (.int .i64 h2) (.string h3) (.slice A2 n2 c2) (.slice B2 m2 jG)
           refine bodyPost_ret (Og rfl _ _ (w.heap.size+1) (w.heap.size+1+1) ah ah _ _ (Oh (w:=World.drew _) k1) (eP (w:=World.drew _) k2)) rfl ?_
           rw[HE.out]
           exact⟨_,rfl,⟨_,_,_,_,_,_,rfl,hQ.below ya3⟩,hW⟩
         ·have dd:(er !=0)=true:=(by simpa using Bf);have HE:=aa (show kH P sm aH=ki Q2 er by rw[E5.out,if_pos Bf]);have p0d:wc.drew.cell? ⟨w.heap.size,0,none⟩=some (.slice A2 n2 c2):=p0;have p1d:wc.drew.cell? ⟨w.heap.size,1,none⟩=some (.slice B2 m2 jG):=p1;clear Bf e2 e3 e4;go_upto_region 19 with fail
          go_region_held3 (λw'=>w'.cell? ⟨w.heap.size,0,none⟩=some (.slice A2 n2 c2)/\w'.cell? ⟨w.heap.size,1,none⟩=some (.slice B2 m2 jG))
           (first|with_reducible assumption|with_reducible exact wk ⟨p0,p1⟩|with_reducible exact wk (ip (ip (ip (ip ⟨p0,p1⟩ ak ak) ak ak) ak ak) ak ak)|with_reducible exact wk (ip (ip ⟨p0,p1⟩ ak ak) ak ak))
           (fail)
          all_goals
           go_wp2_with fail
           obtain⟨k1,k2,k3⟩:=two_two (show w.heap.size+1≠w.heap.size+1+1 by omega) uH uZ (.int .i64 0) (.string ⟨#[]⟩) (.slice A2 n2 c2) (.slice B2 m2 jG)
           have hW:=(dL (dL qh (show w.heap.size<=w.heap.size+1 by omega) (.int .i64 0) (.string ⟨#[]⟩)) (show w.heap.size<=w.heap.size+1+1 by omega) (.slice A2 n2 c2) (.slice B2 m2 jG)).drew
           have hQ:=zd.two_two uH uZ au au ae (.int .i64 0) (.string ⟨#[]⟩) (.slice A2 n2 c2) (.slice B2 m2 jG)
           refine bodyPost_ret (Og rfl _ _ (w.heap.size+1) (w.heap.size+1+1) ah ah _ _ (Oh (w:=World.drew _) k1) (eP (w:=World.drew _) k2)) rfl ?_
           rw[HE.out]
           exact⟨_,rfl,⟨_,_,_,_,_,_,rfl,hQ.below ya3⟩,hW⟩
      ·have dd:decide (h5=sm)=false:=(by simpa using wM);have HE:=aa (show kH P sm aH=ki Q1 211 by rw[Io.out,if_pos wM]);clear wM;clear HG;simp only[dd,Bool.not_false];clear dd;exact agi
     ·have dd:(er !=0)=true:=(by simpa using Bf);have HE:=aa (show kH P sm aH=ki Q1 er by rw[Rh.out,if_pos Bf]);have p0d:wc.drew.cell? ⟨w.heap.size,0,none⟩=some (.slice A1 n1 c1):=p0;have p1d:wc.drew.cell? ⟨w.heap.size,1,none⟩=some (.slice B1 m1 wL):=p1;clear Bf e0 e1 e2 e3 e4 e5 e6 e7 e8 e9 Da;exact agi
 ·have HE:=aa (show kH P sm aH=ki bI er by rw[HG.out,if_pos dO]);have d1:(er !=0)=true:=by simpa using dO
  clear dO;exact Vd
structure wn where
 A:Option Addr
 n:Nat
 c:Nat
 B:Option Addr
 m:Nat
 d:Nat
 C:Option Addr
 p:Nat
 q:Nat
 E:Option Addr
 s:Nat
 t:Nat
theorem axr (l:List bZ): ∀u∈dq l,ko u=false:=by
 intro u hu;obtain⟨p,_,hp⟩:=List.mem_flatMap.1 hu;simp[BO]at hp;rcases hp with rfl|rfl<;>rfl
structure lG (B0 S g n ai:Nat) (l:List Dk) (D:eZ) (y:wn) (w:World):Prop where
 blk:bj w S #[.slice (aw g) n ai,.int .i64 D.r.e,.int .i64 D.r.k,.slice y.A y.n y.c,.slice y.B y.m y.d,.string D.sec,.slice y.C y.p y.q,.slice y.E y.s y.t] 153
 own:dC w B0 (aw g) n ai l
 sh:Rd w y.C (dq D.sh)
 sa:Rd w y.E (aZ D.sa)
 hp:y.p=D.sh.length
 hs:y.s=D.sa.length
theorem lG.below {n:Nat} {l:List Dk} {y:wn} (h:lG B0 S g n ai l D y w) (hb:aD w w'):lG B0 S g n ai l D y w':=
 ⟨aJ h.blk hb,h.own.below hb,h.sh.below hb,h.sa.below hb,h.hp,h.hs⟩
theorem lG.ne {n:Nat} {l:List Dk} {y:wn} (h:lG B0 S g n ai l D y w):S≠g:=λe=>mC h.blk h.own.os au (by rw[e];rfl)
theorem lG.set {n:Nat} {l:List Dk} {y:wn} (h:lG B0 S g n ai l D y w) (hi:i<n) {x:Dk} (hx:x.ok w):
  lG B0 S g n ai (l.set i x) D y ((w.setCell ⟨g,i*2,none⟩ (.slice x.A x.n x.c)).setCell ⟨g,i*2+1,none⟩ (.slice x.B x.m x.d)):=by
 obtain⟨o,hg⟩:=h.own.set hi hx;exact⟨dH hg h.blk h.ne,o,NP h.sh (axr _) (h.own.sl g 0 rfl) hg,NP h.sa (Gh _) (h.own.sl g 0 rfl) hg,h.hp,h.hs⟩
theorem Ok {r:Option Nat} (h:aD w w'):w.grownBy w' r:=⟨h.os,h.tape,h.output,h.size,λk hk _=>h.block k hk⟩
def Kw (l:List Dk) (i:Nat) (x:Dk) (e:Int):List Dk:=if e=0\/e=230 then l.set i x else l
theorem aht (h:P:=by
 go_in;go_upto_region 2 with fail
 rw[<-Hu.out];generalize PY:w.heap.size=gx at*;clear PY;obtain⟨x0,x1,_,_⟩:=aV HX.out;have s0:=eV HS.blk 0 _ rfl;have p0:=HS.own.os.cellAt (i*2) ae;have p1:=HS.own.os.frozenAt (i*2);have p2:=HS.own.os.cellAt (i*2+1) ae;have p3:=HS.own.os.frozenAt (i*2+1);have bB:i<l.length:=by rw[<-HS.own.hn];exact hi
 rw[(rX l i _ (cL bB)).1]at p0;rw[(rX l i _ (cL bB)).2]at p2;generalize l[i]=fU at p0 p2;have zF:=(HS.own.set hi (x:=⟨xA,xn,xc,xB,xm,xd,xP⟩) HO).2;have Xs:=aa (mE HB zF);have HSf:=aa (HS.set hi (x:=⟨xA,xn,xc,xB,xm,xd,xP⟩) HO);have hxf:=(aV (dH zF HX ae))
 have sf0:=eV HSf.blk 0 _ rfl;clear zF bB;have qm:(i:Int)<(n:Int):=ae;go_wp2_with fail;go_region_held3 (λw'=>w'.cell? ⟨S,0,none⟩=some (.slice (aw g) n ai)/\(w'.cell? ⟨gx,0,none⟩=some (.slice xA xn xc)/\w'.cell? ⟨gx,1,none⟩=some (.slice xB xm xd)))
  (first|assumption|exact⟨s0,x0,x1⟩|exact⟨sf0,hxf.1,hxf.2.1⟩)
  (fail)
 all_goals
  go_wp2
  go_ret
  exact⟨rfl,HSf.below ya3,mE Xs (Ok ya3)⟩):P:=h
theorem afy (B0 S g n ai:Nat) (l:List Dk) (D:eZ) (y:wn) (i:Nat) (x:Dk) (e:Int) (w:World) (h:lG B0 S g n ai l D y w) (hi:i<n) (hx:x.ok w) (hB:B0<=w.heap.size):
  Calls prog 163 #[.pointer (aw S),.int .i64 (i:Nat),dkA x,.int .i64 e] w λE w'=>E= .returned (.int .i64 e)/\lG B0 S g n ai (Kw l i x e) D y w'/\w.grownBy w' (some g):=by
 have hX:=aR w (.cells #[.slice x.A x.n x.c,.slice x.B x.m x.d] 74);have hb:=be w (.cells #[.slice x.A x.n x.c,.slice x.B x.m x.d] 74);obtain⟨u,hu⟩: ∃u,u=w.alloc (.cells #[.slice x.A x.n x.c,.slice x.B x.m x.d] 74):=⟨_,rfl⟩
 rw[<-hu]at hX hb;have HX:=aa hX;have HS:=aa (h.below hb);have HO:=aa (hx.below hb);have HB:Hid (w.grownBy u (some g)):=aa (Ok hb);have xj:g<w.heap.size:=(h.own.os.lt _ rfl).2;have aO:S≠g:=h.ne;have IB:S<w.heap.size:=bf h.blk;have Hu:=aa hu;clear hX hb h hx hu;obtain⟨xA,xn,xc,xB,xm,xd,xP⟩:=x;simp only[dkA] at*;by_cases h0:e=0
 ·subst h0;have d1:((0:Int)==0)=true:=rfl;exact aht
 ·have d1:(e==0)=false:=by simpa using h0
  by_cases h1:e=230
  ·subst h1;have d2:((230:Int)==230)=true:=rfl;exact aht
  ·have d2:(e==230)=false:=by simpa using h1
   have HE:=aa (show Kw l i ⟨xA,xn,xc,xB,xm,xd,xP⟩ e=l by unfold Kw;rw[if_neg ae]);go_in;go_wp2_with fail;rw[<-Hu.out,HE.out];go_ret;exact⟨rfl,HS,HB⟩
def Kx (B0 S g n ai:Nat) (l:List Dk) (D:eZ) (y:wn) (i:Nat) (w:World) (r:az×Int) (E:Ending) (w':World):Prop:=
 E= .returned (.int .i64 r.2)/\ ∃l',lG B0 S g n ai l' D y w'/\bu l'=(if r.2=0\/r.2=230 then (bu l).set i r.1 else bu l)/\w.grownBy w' (some g)
theorem afz {n:Nat} {l:List Dk} {y:wn} {w1:World} {P:az} {c:Int} {x:Dk} (hxP:x.P=P) {E:Ending} (hE:E= .returned (.int .i64 c)) (h:lG B0 S g n ai (Kw l i x c) D y w') (aG:w.grownBy w1 (some g)) (hb:w1.grownBy w' (some g)):Kx B0 S g n ai l D y i w (P,c) E w':=by
 refine⟨hE,_,h,?_,mE aG hb⟩;subst hxP;unfold Kw;simp only;split
 ·rw[Ef]
 ·rfl
theorem Ky {n:Nat} {l:List Dk} {y:wn} (hS:lG B0 S g n ai l D y w) (hb:aD w w5) (kX:PB w5 A5 n5 B5 m5 Q) (hz:bj w5 w.heap.size #[ay,ay] 74):
  ∃W,W=(w5.setCell ⟨w.heap.size,0,none⟩ (.slice A5 n5 c5)).setCell ⟨w.heap.size,1,none⟩ (.slice B5 m5 d5)/\W.cell? ⟨w.heap.size,0,none⟩=some (.slice A5 n5 c5)/\W.cell? ⟨w.heap.size,1,none⟩=some (.slice B5 m5 d5)/\
   aD w W/\lG B0 S g n ai l D y W/\PB W A5 n5 B5 m5 Q:=by
 have fE:=mE (eE w5 w.heap.size 0 (.slice A5 n5 c5)) (eE _ w.heap.size 1 (.slice B5 m5 d5));have j':=hb.trans (vP fE (aM _) hb.size);obtain⟨z0,z1,_,_⟩:=aV (eA hz (.slice A5 n5 c5) (.slice B5 m5 d5));refine⟨_,rfl,z0,z1,j',hS.below j',PB.grown kX hz au au (λj u hu=>?_) fE⟩;rw[cell_of_row _ _ j _ _ _ hz]at hu;match j,hu with
 |0,hu=>cases hu;rfl
 |1,hu=>cases hu;rfl
 |j+2,hu=>simp at hu
theorem afA {n:Nat} {l:List Dk} {y:wn} (hS:lG B0 S g n ai l D y w) (hb:aD w w5) (kX:PB w5 A5 n5 B5 m5 Q):
  ∃W,W=w5.alloc (.cells #[.slice A5 n5 c5,.slice B5 m5 d5] 74)/\W.cell? ⟨w5.heap.size,0,none⟩=some (.slice A5 n5 c5)/\W.cell? ⟨w5.heap.size,1,none⟩=some (.slice B5 m5 d5)/\
   aD w W/\lG B0 S g n ai l D y W/\PB W A5 n5 B5 m5 Q:=by
 have al:=be w5 (.cells #[.slice A5 n5 c5,.slice B5 m5 d5] 74);obtain⟨z0,z1,_,_⟩:=aV (aR w5 (.cells #[.slice A5 n5 c5,.slice B5 m5 d5] 74));have j':=bg hb al;exact⟨_,rfl,z0,z1,j',hS.below j',kX.below al⟩
theorem axs (B0 S g n ai:Nat) (l:List Dk) (D:eZ) (y:wn) (i:Nat) (aH:Int) (w:World) (h:lG B0 S g n ai l D y w) (hi:i<n) (hB:B0<=w.heap.size):
  Calls prog 94 #[.pointer (aw S),.int .i64 (i:Nat),.int .i64 aH] w (Kx B0 S g n ai l D y i w (fI ((bu l).getD i bI) D.r.e aH)):=by
 have bB:i<l.length:=by rw[<-h.own.hn];exact hi
 rw[adH bB];have hO:=h.own.ok _ (dY bB);have p0:=h.own.os.cellAt (i*2) ae;have p2:=h.own.os.cellAt (i*2+1) ae;rw[(rX l i _ (cL bB)).1]at p0;rw[(rX l i _ (cL bB)).2]at p2;generalize l[i]=x at p0 p2 hO⊢;obtain⟨xA,xn,xc,xB,xm,xd,xP⟩:=x;simp only at p0 p2⊢;have uF:=aa (λW (h:PB W xA xn xB xm xP)=>adJ (.agg #[.slice xA xn xc,.slice xB xm xd]) xP D.r.e aH W ⟨_,_,_,_,_,_,rfl,h⟩);have HO:=aa (show PB w xA xn xB xm xP from hO);generalize fI xP D.r.e aH=r at uF⊢;obtain⟨Q,ce⟩:=r;have HS:=aa h;have HB:=aa hB;have s0:w.cell? ⟨S,0,none⟩=some (.slice (aw g) n ai):=eV h.blk 0 _ rfl;have s1:w.cell? ⟨S,1,none⟩=some (.int .i64 D.r.e):=eV h.blk 1 _ rfl;have qm:(i:Int)<(n:Int):=ae;have HT:=aa (λx e W hS hx hb=>afy B0 S g n ai l D y i x e W hS hi hx hb);have IB:S<w.heap.size:=bf h.blk;have xj:g<w.heap.size:=(h.own.os.lt g rfl).2;have K2: ∀(W:World) (a b:Value),((W.cell? ⟨S,0,none⟩=some (.slice (aw g) n ai)/\W.cell? ⟨S,1,none⟩=some (.int .i64 D.r.e))/\(W.cell? ⟨g,i*2,none⟩=some (.slice xA xn xc)/\W.cell? ⟨g,i*2+1,none⟩=some (.slice xB xm xd)))->
   ((((W.setCell ⟨w.heap.size,0,none⟩ a).setCell ⟨w.heap.size,1,none⟩ b).cell? ⟨S,0,none⟩=some (.slice (aw g) n ai)/\((W.setCell ⟨w.heap.size,0,none⟩ a).setCell ⟨w.heap.size,1,none⟩ b).cell? ⟨S,1,none⟩=some (.int .i64 D.r.e))/\(((W.setCell ⟨w.heap.size,0,none⟩ a).setCell ⟨w.heap.size,1,none⟩ b).cell? ⟨g,i*2,none⟩=some (.slice xA xn xc)/\((W.setCell ⟨w.heap.size,0,none⟩ a).setCell ⟨w.heap.size,1,none⟩ b).cell? ⟨g,i*2+1,none⟩=some (.slice xB xm xd))):=by
  intro W a b hW
  have e1:w.heap.size≠S:=ae
  have e2:w.heap.size≠g:=ae
  exact Cn (Cn hW (by simp[e1]) (by simp[e1]) (by simp[e2]) (by simp[e2])) (by simp[e1]) (by simp[e1]) (by simp[e2]) (by simp[e2])
 clear h hO bB hB;go_in;go_wp2_with fail;go_region_held3 (λw'=>(w'.cell? ⟨S,0,none⟩=some (.slice (aw g) n ai)/\w'.cell? ⟨S,1,none⟩=some (.int .i64 D.r.e))/\(w'.cell? ⟨g,i*2,none⟩=some (.slice xA xn xc)/\w'.cell? ⟨g,i*2+1,none⟩=some (.slice xB xm xd)))
  (first|assumption|exact⟨⟨s0,s1⟩,p0,p2⟩|exact NQ (by assumption)|exact NQ (Oi ⟨⟨s0,s1⟩,p0,p2⟩)|exact NQ ⟨⟨s0,s1⟩,p0,p2⟩|exact K2 _ _ _ (by assumption))
  (first
   |(go_at_call 122;refine Calls.mono (uF _ (HO.below ya3)) ?_;rintro _ w5 ⟨v5,rfl,⟨A5,n5,c5,B5,m5,d5,rfl,kX⟩,aY⟩;have bO:=bg (tq w) aY;have k5:=Eg ⟨⟨s0,s1⟩,p0,p2⟩ bO)
   |(go_at_call 122;refine Calls.mono (uF _ (HO.below ((be w (.cells #[ay,ay] 74)).drew))) ?_;rintro _ w5 ⟨v5,rfl,⟨A5,n5,c5,B5,m5,d5,rfl,kX⟩,aY⟩;have bO:=bg ((be w (.cells #[ay,ay] 74)).drew) aY;have k5:=Eg ⟨⟨s0,s1⟩,p0,p2⟩ bO;have hz:=aJ (W:=(w.alloc (.cells #[ay,ay] 74)).drew) (aR w _) aY;obtain⟨z0,z1,E8,EI⟩:=aV hz))
 all_goals
  clear p0 p2 s0 s1 K2 k5
  first
   |(obtain⟨W,hW,t0,t1,j',FI,Fm⟩:=Ky (c5:=c5) (d5:=d5) HS bO kX hz;clear hz z0 z1 E8 EI)
   |obtain⟨W,hW,t0,t1,j',FI,Fm⟩:=afA (c5:=c5) (d5:=d5) HS bO kX
  rw[<-hW]
  have dg:=aa FI
  have fP:=aa Fm
  have LW:=aa j'
  clear hW FI Fm j' bO kX aY
  go_wp2_with fail
  refine (HT ⟨A5,n5,c5,B5,m5,d5,Q⟩ ce W dg fP (bD HB LW.size)).mono ?_
  rintro E w6 ⟨rfl,xg,hb6'⟩
  have oD:=aa xg
  have mR:=aa hb6'
  clear xg hb6'
  go_wp2
  go_ret
  exact afz rfl rfl oD (Ok LW) mR.out
theorem UO {p q s a c d:Addr} {v:Value} (h:((W.cell? p=some u/\W.cell? q=some v)/\(W.cell? r=some x/\W.cell? s=some y))/\((W.cell? a=some u2/\W.cell? b=some v2)/\(W.cell? c=some x2/\W.cell? d=some y2))/\W.cell? e=some z) (hb:aD W w'):
  ((w'.cell? p=some u/\w'.cell? q=some v)/\(w'.cell? r=some x/\w'.cell? s=some y))/\((w'.cell? a=some u2/\w'.cell? b=some v2)/\(w'.cell? c=some x2/\w'.cell? d=some y2))/\w'.cell? e=some z:=
 ⟨Eg h.1 hb,Eg h.2.1 hb,(hb.cell (cU h.2.2)).trans h.2.2⟩
theorem UP {p q s a c d:Addr} {v:Value} (h:((W.cell? p=some u/\W.cell? q=some v)/\(W.cell? r=some x/\W.cell? s=some y))/\((W.cell? a=some u2/\W.cell? b=some v2)/\(W.cell? c=some x2/\W.cell? d=some y2))/\W.cell? e=some z):
  (((W.alloc o).cell? p=some u/\(W.alloc o).cell? q=some v)/\((W.alloc o).cell? r=some x/\(W.alloc o).cell? s=some y))/\(((W.alloc o).cell? a=some u2/\(W.alloc o).cell? b=some v2)/\((W.alloc o).cell? c=some x2/\(W.alloc o).cell? d=some y2))/\(W.alloc o).cell? e=some z:=
 UO h ((aI _ _).alloc (aM _) _)
theorem axt (B0 S g n ai:Nat) (l:List Dk) (D:eZ) (y:wn) (i:Nat) (aH:Int) (w:World) (h:lG B0 S g n ai l D y w) (hi:i<n) (hB:B0<=w.heap.size) (hsh:n=D.sh.length) (hsa:n=D.sa.length) (CF:(ig D i).b.size<=maxLen) (vj:(ig D i).salt.size<=maxLen):
  Calls prog 93 #[.pointer (aw S),.int .i64 (i:Nat),.int .i64 aH] w (Kx B0 S g n ai l D y i w (lC (ig D) i ((bu l).getD i bI) aH)):=by
 have bB:i<l.length:=by rw[<-h.own.hn];exact hi
 rw[adH bB];have hO:=h.own.ok _ (dY bB);have p0:=h.own.os.cellAt (i*2) ae;have p2:=h.own.os.cellAt (i*2+1) ae;rw[(rX l i _ (cL bB)).1]at p0;rw[(rX l i _ (cL bB)).2]at p2;generalize l[i]=x at p0 p2 hO⊢;obtain⟨xA,xn,xc,xB,xm,xd,xP⟩:=x;simp only at p0 p2⊢;have yN:i<D.sh.length:=ae;have Fc:i<D.sa.length:=ae;have hib:i<y.s:=by have:=h.hs;omega
 have hic:i<y.p:=by have:=h.hp;omega
 obtain⟨b1,o1,e1,c1⟩:=kG h.sa Fc;obtain⟨b2,o2,e2⟩: ∃b o,y.C=some ⟨b,o,none⟩:=by
  obtain⟨b,o,h,_⟩:=h.sh.shr yN;exact⟨b,o,h⟩
 have Xf:=h.sh;rw[e2]at Xf;obtain⟨c2,c3⟩:=acE Xf yN;have hg:lC (ig D) i xP aH=nZ xP D.r.e (D.sh.getD i (0,eN)).1 (D.sh.getD i (0,eN)).2 (D.sa.getD i eN) aH:=rfl;have ak4:D.sa[i]=D.sa.getD i eN:=by rw[dh,cL Fc];rfl
 rw[ak4]at c1;have OY:(D.sh.getD i (0,eN)).2.size<=maxLen:=CF;have YI:(D.sa.getD i eN).size<=maxLen:=vj;rw[hg];generalize D.sa.getD i eN=sl at c1 YI⊢;generalize D.sh.getD i (0,eN)=sp at c2 c3 OY⊢;obtain⟨z,b⟩:=sp;simp only at c2 c3 OY⊢;have uF:=aa (λW (h:PB W xA xn xB xm xP)=>aul (.agg #[.slice xA xn xc,.slice xB xm xd]) xP D.r.e z b sl aH W ⟨_,_,_,_,_,_,rfl,h⟩ OY YI);have HO:=aa (show PB w xA xn xB xm xP from hO);generalize nZ xP D.r.e z b sl aH=r at uF⊢;obtain⟨Q,ce⟩:=r;have HS:=aa h;have HB:=aa hB;have s0:w.cell? ⟨S,0,none⟩=some (.slice (aw g) n ai):=eV h.blk 0 _ rfl;have s1:w.cell? ⟨S,1,none⟩=some (.int .i64 D.r.e):=eV h.blk 1 _ rfl;have s6:w.cell? ⟨S,6,none⟩=some (.slice (some ⟨b2,o2,none⟩) y.p y.q):=by
  have:=eV h.blk 6 _ rfl;rw[<-e2];exact this
 have s7:w.cell? ⟨S,7,none⟩=some (.slice (some ⟨b1,o1,none⟩) y.s y.t):=by
  have:=eV h.blk 7 _ rfl;rw[<-e1];exact this
 have qm:(i:Int)<(n:Int):=ae;have aF4:(i:Int)<(y.s:Int):=ae;have aFf:(i:Int)<(y.p:Int):=ae;have HT:=aa (λx e W hS hx hb=>afy B0 S g n ai l D y i x e W hS hi hx hb);have IB:S<w.heap.size:=bf h.blk;have xj:g<w.heap.size:=(h.own.os.lt g rfl).2;have aG:b1<w.heap.size:=cU c1;have av:b2<w.heap.size:=cU c2;have K0:((w.cell? ⟨S,0,none⟩=some (.slice (aw g) n ai)/\w.cell? ⟨S,1,none⟩=some (.int .i64 D.r.e))/\(w.cell? ⟨S,6,none⟩=some (.slice (some ⟨b2,o2,none⟩) y.p y.q)/\w.cell? ⟨S,7,none⟩=some (.slice (some ⟨b1,o1,none⟩) y.s y.t)))/\
  ((w.cell? ⟨g,i*2,none⟩=some (.slice xA xn xc)/\w.cell? ⟨g,i*2+1,none⟩=some (.slice xB xm xd))/\(w.cell? ⟨b2,o2+i*2,none⟩=some (.int .i64 z)/\w.cell? ⟨b2,o2+i*2+1,none⟩=some (.string b)))/\w.cell? ⟨b1,o1+i,none⟩=some (.string sl):=⟨⟨⟨s0,s1⟩,s6,s7⟩,⟨⟨p0,p2⟩,c2,c3⟩,c1⟩
 have Zs:=aa (show∀(W:World) (u v:Value),(((W.cell? ⟨S,0,none⟩=some (.slice (aw g) n ai)/\W.cell? ⟨S,1,none⟩=some (.int .i64 D.r.e))/\(W.cell? ⟨S,6,none⟩=some (.slice (some ⟨b2,o2,none⟩) y.p y.q)/\W.cell? ⟨S,7,none⟩=some (.slice (some ⟨b1,o1,none⟩) y.s y.t)))/\
   ((W.cell? ⟨g,i*2,none⟩=some (.slice xA xn xc)/\W.cell? ⟨g,i*2+1,none⟩=some (.slice xB xm xd))/\(W.cell? ⟨b2,o2+i*2,none⟩=some (.int .i64 z)/\W.cell? ⟨b2,o2+i*2+1,none⟩=some (.string b)))/\W.cell? ⟨b1,o1+i,none⟩=some (.string sl))->
   ∀V,V=(W.setCell ⟨w.heap.size,0,none⟩ u).setCell ⟨w.heap.size,1,none⟩ v->((V.cell? ⟨S,0,none⟩=some (.slice (aw g) n ai)/\V.cell? ⟨S,1,none⟩=some (.int .i64 D.r.e))/\(V.cell? ⟨S,6,none⟩=some (.slice (some ⟨b2,o2,none⟩) y.p y.q)/\V.cell? ⟨S,7,none⟩=some (.slice (some ⟨b1,o1,none⟩) y.s y.t)))/\
   ((V.cell? ⟨g,i*2,none⟩=some (.slice xA xn xc)/\V.cell? ⟨g,i*2+1,none⟩=some (.slice xB xm xd))/\(V.cell? ⟨b2,o2+i*2,none⟩=some (.int .i64 z)/\V.cell? ⟨b2,o2+i*2+1,none⟩=some (.string b)))/\V.cell? ⟨b1,o1+i,none⟩=some (.string sl) by
  intro W u v hW V hV
  subst hV
  have e1:w.heap.size≠S:=ae
  have e2:w.heap.size≠g:=ae
  have e3:w.heap.size≠b1:=ae
  have e4:w.heap.size≠b2:=ae
  exact⟨Cn (Cn hW.1 (by simp[e1]) (by simp[e1]) (by simp[e1]) (by simp[e1])) (by simp[e1]) (by simp[e1]) (by simp[e1]) (by simp[e1]),
   Cn (Cn hW.2.1 (by simp[e2]) (by simp[e2]) (by simp[e4]) (by simp[e4])) (by simp[e2]) (by simp[e2]) (by simp[e4]) (by simp[e4]),
   (World.cell?_setCell_other _ _ _ _ (by simp[e3])).trans ((World.cell?_setCell_other _ _ _ _ (by simp[e3])).trans hW.2.2)⟩)
 clear h hO bB hB hg ak4 CF vj OY YI e1 e2 Xf yN Fc hsh hsa hib hic aG av s0 s1 s6 s7 p0 p2 c1 c2 c3;go_in;go_wp2_with fail;go_region_held3 (λw'=>((w'.cell? ⟨S,0,none⟩=some (.slice (aw g) n ai)/\w'.cell? ⟨S,1,none⟩=some (.int .i64 D.r.e))/\(w'.cell? ⟨S,6,none⟩=some (.slice (some ⟨b2,o2,none⟩) y.p y.q)/\w'.cell? ⟨S,7,none⟩=some (.slice (some ⟨b1,o1,none⟩) y.s y.t)))/\
   ((w'.cell? ⟨g,i*2,none⟩=some (.slice xA xn xc)/\w'.cell? ⟨g,i*2+1,none⟩=some (.slice xB xm xd))/\(w'.cell? ⟨b2,o2+i*2,none⟩=some (.int .i64 z)/\w'.cell? ⟨b2,o2+i*2+1,none⟩=some (.string b)))/\w'.cell? ⟨b1,o1+i,none⟩=some (.string sl))
  (first|assumption|exact K0|exact UP (by assumption)|exact UP (keep9_drew K0)|exact UP K0|exact Zs.out _ _ _ (by assumption) _ rfl)
  (first
   |(go_at_call 162;refine Calls.mono (uF _ (HO.below ya3)) ?_;rintro _ w5 ⟨v5,rfl,⟨A5,n5,c5,B5,m5,d5,rfl,kX⟩,aY⟩;have bO:=bg (tq w) aY;have k5:=UO K0 bO)
   |(go_at_call 162;refine Calls.mono (uF _ (HO.below ((be w (.cells #[ay,ay] 74)).drew))) ?_;rintro _ w5 ⟨v5,rfl,⟨A5,n5,c5,B5,m5,d5,rfl,kX⟩,aY⟩;have bO:=bg ((be w (.cells #[ay,ay] 74)).drew) aY;have k5:=UO K0 bO;have hz:=aJ (W:=(w.alloc (.cells #[ay,ay] 74)).drew) (aR w _) aY;obtain⟨z0,z1,E8,EI⟩:=aV hz))
 all_goals
  clear K0 k5
  first
   |(obtain⟨W,hW,t0,t1,j',FI,Fm⟩:=Ky (c5:=c5) (d5:=d5) HS bO kX hz;clear hz z0 z1 E8 EI)
   |obtain⟨W,hW,t0,t1,j',FI,Fm⟩:=afA (c5:=c5) (d5:=d5) HS bO kX
  rw[<-hW]
  have dg:=aa FI
  have fP:=aa Fm
  have LW:=aa j'
  clear hW FI Fm j' bO kX aY
  go_wp2_with fail
  refine (HT ⟨A5,n5,c5,B5,m5,d5,Q⟩ ce W dg fP (bD HB LW.size)).mono ?_
  rintro E w6 ⟨rfl,xg,hb6'⟩
  have oD:=aa xg
  have mR:=aa hb6'
  clear xg hb6'
  go_wp2
  go_ret
  exact afz rfl rfl oD (Ok LW) mR.out
def wu (w:World) (r:List az×Bool×Int) (E:Ending) (w':World):Prop:= ∃A n ai l',E= .returned (.tuple #[.slice A n ai,.bool r.2.1,.int .i64 r.2.2])/\n=l'.length/\bu l'=r.1/\ti w' A l'/\aD w w'/\dC w' w.heap.size A n ai l'
theorem wu.no (w w':World) (x:Int) (h:aD w w'):wu w ([],false,x) (.returned (.tuple #[ay,.bool false,.int .i64 x])) w':=⟨none,0,0,[],rfl,rfl,rfl,ti.nil _ _,h,dC.nil _ _⟩
theorem axu (h:sX D=true):fX D.r=true/\D.sh.length=D.r.ns.length/\D.sa.length=D.r.ns.length/\ ∀i,i<D.r.ns.length->(ig D i).b.size<=maxLen/\(ig D i).salt.size<=maxLen:=by
 rw[Gp]at h;simp only[Bool.and_eq_true,decide_eq_true_eq,List.all_eq_true]at h;obtain⟨⟨⟨h1,h2⟩,h3⟩,h4⟩:=h;refine⟨h1,h2,h3,λi hi=>?_⟩;have:=h4 i (List.mem_range.2 hi);unfold vQ uh at this;simp only[Bool.and_eq_true,decide_eq_true_eq]at this;have hf:=arU this.2.1;unfold maxLen ig;simp only;have e1:=hf.2.2.1;have e2:=hf.2.2.2;omega
theorem afB {p q s a c:Addr} {v:Value} (h:((W.cell? p=some u/\W.cell? q=some v)/\(W.cell? r=some x/\W.cell? s=some y))/\(W.cell? a=some u2/\W.cell? b=some v2)/\W.cell? c=some x2) (hb:aD W w'):
  ((w'.cell? p=some u/\w'.cell? q=some v)/\(w'.cell? r=some x/\w'.cell? s=some y))/\(w'.cell? a=some u2/\w'.cell? b=some v2)/\w'.cell? c=some x2:=
 ⟨Eg h.1 hb,i6 h.2.1 hb,(hb.cell (cU h.2.2)).trans h.2.2⟩
theorem axv {p q s a c:Addr} {v:Value} (h:((W.cell? p=some u/\W.cell? q=some v)/\(W.cell? r=some x/\W.cell? s=some y))/\(W.cell? a=some u2/\W.cell? b=some v2)/\W.cell? c=some x2):
  (((W.alloc o).cell? p=some u/\(W.alloc o).cell? q=some v)/\((W.alloc o).cell? r=some x/\(W.alloc o).cell? s=some y))/\((W.alloc o).cell? a=some u2/\(W.alloc o).cell? b=some v2)/\(W.alloc o).cell? c=some x2:=
 afB h ((aI _ _).alloc (aM _) _)
theorem agH (h:P:=by
 go_in;go_wp2_with fail;go_step3;go_wp2_with fail;refine mq.mono ?_;rintro e w1 ⟨rfl,hb⟩;replace HB:=aX HB hb;obtain⟨⟨z0,z1,z2,z3,z4,z5,z6⟩,zf⟩:=yg (aT HX hb).out;clear hb zf;go_wp2_with fail;try rw[Exit.noGoto_ret]
 go_ret3;exact wu.no _ _ _ HB.out):P:=h
theorem axw (A:aN) (n c:Nat) (l:List Dk) (v:Value) (D:eZ) (aH:Int) (w:World) (hn:n=l.length) (j7:n<=100000) (hv:DV w v D) (hR:cX w) (qf: ¬(sX D=true/\n=D.r.ns.length)):
  Calls prog 43 #[.slice A n c,v,.int .i64 aH] w (wu w (ij D (bu l) aH)):=by
 have O1:ij D (bu l) aH=([],false,1):=by unfold ij;rw[if_neg (by rw[rW,<-hn];exact qf)]
 rw[O1];obtain⟨aA,an,ac,aB,am,ad,aC,ap,aq,aE,es,et,rfl,h1,h2,h3,h4,h5,h6,h7,h8⟩:=hv;have eL:=be w (.cells #[.int .i64 D.r.e,.int .i64 D.r.k,.slice aA an ac,.slice aB am ad,.string D.sec,.slice aC ap aq,.slice aE es et] 67);have hX:=aR w (.cells #[.int .i64 D.r.e,.int .i64 D.r.k,.slice aA an ac,.slice aB am ad,.string D.sec,.slice aC ap aq,.slice aE es et] 67);have mq:=aa (acF (.agg #[.int .i64 D.r.e,.int .i64 D.r.k,.slice aA an ac,.slice aB am ad,.string D.sec,.slice aC ap aq,.slice aE es et]) D _ ⟨aA,an,ac,aB,am,ad,aC,ap,aq,aE,es,et,rfl,h1.below eL,h2,h3.below eL,h4,h5.below eL,h6,h7.below eL,h8⟩ (hR.below eL));have HX:=aa hX;have HB:=aa eL;have HL:=aa h2;clear h1 h2 h3 h4 h5 h6 h7 h8 hX eL hR O1 hn j7;cases fg:sX D with
 |false=>
  rw[fg]at mq;clear fg qf;exact agH
 |true=>
  have aO:n≠an:=λe=>qf ⟨fg,by rw[e];exact HL.out⟩;have d1:((n:Int) !=(an:Int))=true:=by simp;omega
  rw[fg]at mq;clear fg qf aO;exact agH
theorem axx {B B':Nat} {e:TypeId} {size:Nat} {v:Value} {n:Nat} {xs:bJ} (h:w.ownsRow B' e size v n xs) (hB:B<=B'):w.ownsRow B e size v n xs:=by
 refine⟨h.1,?_⟩;rcases h.2 with h2|⟨g,ai,bK,hv,hg,r⟩
 ·exact .inl h2
 ·exact .inr ⟨g,ai,bK,hv,bD hB hg,r⟩
theorem axy (A:aN) (n c:Nat) (l:List Dk) (v:Value) (D:eZ) (aH:Int) (w:World) (h:ti w A l) (hn:n=l.length) (hl: ∀x∈l,x.n<=1000000/\x.m<=1000000) (hv:DV w v D) (hR:cX w) (fg:sX D=true) (C6:n=D.r.ns.length):
  Calls prog 43 #[.slice A n c,v,.int .i64 aH] w (wu w (rR (ig D) (bu l) aH)):=by
 have hmf: ∀(fn:Fn) (first ai:bx) (w:World),(Instr.makeFunc fn first ai).run prog w= .ok (.func fn first ai) w:=λ_ _ _ _=>rfl;obtain⟨k1,k2,k3,k4⟩:=axu fg;have If:n<=16:=by rw[C6];exact (zW k1).2.2.2.1
 have qv:1<=n:=by rw[C6];exact (zW k1).2.2.1
 obtain⟨aA,an,ac,aB,am,ad,aC,ap,aq,aE,es,et,rfl,h1,h2,h3,h4,h5,h6,h7,h8⟩:=hv;have eL:=be w (.cells #[.int .i64 D.r.e,.int .i64 D.r.k,.slice aA an ac,.slice aB am ad,.string D.sec,.slice aC ap aq,.slice aE es et] 67);have hX:=aR w (.cells #[.int .i64 D.r.e,.int .i64 D.r.k,.slice aA an ac,.slice aB am ad,.string D.sec,.slice aC ap aq,.slice aE es et] 67);have mq:=acF (.agg #[.int .i64 D.r.e,.int .i64 D.r.k,.slice aA an ac,.slice aB am ad,.string D.sec,.slice aC ap aq,.slice aE es et]) D _ ⟨aA,an,ac,aB,am,ad,aC,ap,aq,aE,es,et,rfl,h1.below eL,h2,h3.below eL,h4,h5.below eL,h6,h7.below eL,h8⟩ (hR.below eL);rw[fg]at mq;replace mq:=aa mq;have HX:=aa hX;have HB:=aa eL;have IR:=aa h5;have Qs:=aa h7;have wC:=aa (And.intro h6 h8);have HK:=aa (And.intro k2 (And.intro k3 k4));have HD:=aa h;have HN:=aa hn;have CP:=aa C6;have WS:=aa (λW (hW:ti W A l)=>adM A n c l W hW hn ae hl);obtain rfl:n=an:=by rw[C6,h2]
 clear h h1 h2 h3 h4 h5 h6 h7 h8 hX eL hR hn hl fg C6 k1 k2 k3 k4;have d1:((n:Int) !=(n:Int))=false:=ak;obtain⟨d0,qY⟩: ∃d0,d0=oh n aH:=⟨_,rfl⟩
 have By:(decide (aH<0)=true/\d0=20*(n:Int))\/(decide (aH<0)=false/\decide (aH>20*(n:Int))=true/\d0=20*(n:Int))\/(decide (aH<0)=false/\decide (aH>20*(n:Int))=false/\d0=aH):=by
  unfold oh at qY;by_cases q1:aH<0
  ·exact .inl ⟨decide_eq_true q1,by rw[qY,if_pos (.inl q1)]⟩
  ·by_cases q2:aH>20*(n:Int)
   ·exact .inr (.inl ⟨decide_eq_false q1,decide_eq_true q2,by rw[qY,if_pos (.inr q2)]⟩)
   ·exact .inr (.inr ⟨decide_eq_false q1,decide_eq_false q2,by rw[qY,if_neg ae]⟩)
 have HD0:=aa qY;clear qY;rcases By with⟨c1,e1⟩|⟨c1,c2,e1⟩|⟨c1,c2,e1⟩
 all_goals
  have j5:=aa e1
  clear e1
  go_in
  go_wp2_with fail
  go_step3
  go_wp2_with fail
  refine mq.mono ?_
  rintro e w1 ⟨rfl,hb⟩
  replace HB:=aX HB hb
  replace HX:=aT HX hb
  obtain⟨⟨z0,z1,z2,z3,z4,z5,z6⟩,zf⟩:=yg HX.out
  clear hb zf mq
  go_wp2_with fail
  have z:=And.intro (And.intro (And.intro z0 z1) (And.intro z2 z3)) (And.intro (And.intro z4 z5) z6)
  clear z0 z1 z2 z3 z4 z5 z6
  have hwB:aD w w1.drew:=HB.drew
  have HwB:=aa hwB
  clear hwB
  go_region_held3 (λw'=>((w'.cell? ⟨w.heap.size,0,none⟩=some (.int .i64 D.r.e)/\w'.cell? ⟨w.heap.size,1,none⟩=some (.int .i64 D.r.k))/\(w'.cell? ⟨w.heap.size,2,none⟩=some (.slice aA n ac)/\w'.cell? ⟨w.heap.size,3,none⟩=some (.slice aB am ad)))/\(w'.cell? ⟨w.heap.size,4,none⟩=some (.string D.sec)/\w'.cell? ⟨w.heap.size,5,none⟩=some (.slice aC ap aq))/\w'.cell? ⟨w.heap.size,6,none⟩=some (.slice aE es et))
   (first|with_reducible assumption|exact z|exact axv (by assumption)|exact afB z aL)
   (first
    |(go_at_call 92;refine Calls.mono (WS _ (HD.below HwB)) ?_;rintro _ w2 ⟨l2,rfl,eX,ho,av⟩;have aL:=bg (tq w1) av))
  rename_i aCS
  clear aCS av
  have QL:w.heap.size<=w1.heap.size:=HB.size
  have bq:=aa (HB.trans (aL.mono QL))
  have jv:Hid (lG w.heap.size w2.heap.size w1.heap.size n n l2 D ⟨aA,n,ac,aB,am,ad,aC,ap,aq,aE,es,et⟩ (w2.alloc (.cells #[.slice (some ⟨w1.heap.size,0,none⟩) n n,.int .i64 D.r.e,.int .i64 D.r.k,.slice aA n ac,.slice aB am ad,.string D.sec,.slice aC ap aq,.slice aE es et] 153))):=aa (by
   have al:=be w2 (.cells #[.slice (some ⟨w1.heap.size,0,none⟩) n n,.int .i64 D.r.e,.int .i64 D.r.k,.slice aA n ac,.slice aB am ad,.string D.sec,.slice aC ap aq,.slice aE es et] 153);have ER:dC w2 w.heap.size (some ⟨w1.heap.size,0,none⟩) n n l2:=⟨ho.hn,axx ho.os QL,ho.sl,ho.ok⟩
   exact⟨aR _ _,ER.below al,(IR.below bq).below al,(Qs.below bq).below al,wC.1,wC.2⟩)
  have cj:=aa (bq.alloc bq.size (.cells #[.slice (some ⟨w1.heap.size,0,none⟩) n n,.int .i64 D.r.e,.int .i64 D.r.k,.slice aA n ac,.slice aB am ad,.string D.sec,.slice aC ap aq,.slice aE es et] 153))
  have kW:=aa eX
  obtain⟨u,hu⟩: ∃u,u=w2.alloc (.cells #[.slice (some ⟨w1.heap.size,0,none⟩) n n,.int .i64 D.r.e,.int .i64 D.r.k,.slice aA n ac,.slice aB am ad,.string D.sec,.slice aC ap aq,.slice aE es et] 153):=⟨_,rfl⟩
  rw[<-hu]at jv cj⊢
  clear hu eX ho aL z HB HX
  generalize w1.heap.size=g at*
  generalize w2.heap.size=S at*
  clear QL
  go_wp2_with fail
  go_step3
  go_wp2_with fail
  have wB:=aa (aR u (.cells #[.func (.func 93) #[.pointer (aw S)] #[],.int .i64 4,.func (.func 94) #[.pointer (aw S)] #[],.int .i64 16] 156))
  have bE:=be u (.cells #[.func (.func 93) #[.pointer (aw S)] #[],.int .i64 4,.func (.func 94) #[.pointer (aw S)] #[],.int .i64 16] 156)
  have aDS:=aa (jv.below bE)
  have dD:=aX cj bE
  have iW:Hid (vN (ig D) (bu l) aH 0 (bu l2) d0):=aa ⟨kW,by rw[HD0.out,rW,<-HN.out]⟩
  clear bE jv cj
  generalize u.heap.size=Pb at*
  go_loopg [2,11,52] 2 (λgh s2 Bk V8 wx=> ∃(k:Nat) (d:Int) (lk:List Dk),((k=0/\V8= .int .i64 0/\gh=2)\/(k=1/\V8= .int .i64 1/\gh=1)\/(k=2/\V8= .int .i64 2/\gh=0))/\s2= .int .i64 d/\Bk= .bool true/\vN (ig D) (bu l) aH k (bu lk) d/\
   lG w.heap.size S g n n lk D ⟨aA,n,ac,aB,am,ad,aC,ap,aq,aE,es,et⟩ wx/\wx.heap[Pb]?=some (.cells #[.func (.func 93) #[.pointer (aw S)] #[],.int .i64 4,.func (.func 94) #[.pointer (aw S)] #[],.int .i64 16] 156 (0,0))/\aD w wx)
  case atStart=>exact⟨0,d0,l2,.inl ⟨rfl,rfl,rfl⟩,by rw[j5.out],rfl,iW,aDS,wB,dD⟩
  case round=>
   obtain⟨k,d,lk,hk,rfl,rfl,dE,so,xt,hB⟩:=hrel
   have eG:=aa dE
   have Iu:=aa so
   have IC:=aa xt
   have sC:=aa hB
   clear dE so xt hB iW dD
   rcases hk with⟨rfl,rfl,rfl⟩|⟨rfl,rfl,rfl⟩|⟨rfl,rfl,rfl⟩
   ·
    have q0:=eV IC 0 _ rfl
    have q1:=eV IC 1 _ rfl
    go_upto_region 11 with fail
    have al:=be wr (.cells #[.func (.func 93) #[.pointer (aw S)] #[],.int .i64 4] 156)
    have CY:=aa (aR wr (.cells #[.func (.func 93) #[.pointer (aw S)] #[],.int .i64 4] 156))
    have Fy:=aa (Iu.below al)
    have Fo:=aT IC al
    have cj:=aX sC al
    have V6:=sC.size
    obtain⟨w3,fo⟩: ∃w3,w3=wr.alloc (.cells #[.func (.func 93) #[.pointer (aw S)] #[],.int .i64 4] 156):=⟨_,rfl⟩
    rw[<-fo]at CY Fy Fo cj⊢
    clear fo al q0 q1
    generalize wr.heap.size=Q at*
    clear V6
    have s0:=eV Fy.blk 0 _ rfl
    go_wp2_with fail
    clear s0
    go_loopg [2,11,61] n (λg2 s2 Bk Zc wy=> ∃(j:Nat) (d':Int) (lj:List Dk),j+g2=n/\Zc= .int .i64 (j:Nat)/\s2= .int .i64 d'/\Bk= .bool true/\dz (lC (ig D)) 4 (bu lk) d j=(bu lj,d',0)/\
     lG w.heap.size S g n n lj D ⟨aA,n,ac,aB,am,ad,aC,ap,aq,aE,es,et⟩ wy/\wy.heap[Pb]?=some (.cells #[.func (.func 93) #[.pointer (aw S)] #[],.int .i64 4,.func (.func 94) #[.pointer (aw S)] #[],.int .i64 16] 156 (0,0))/\wy.heap[Q]?=some (.cells #[.func (.func 93) #[.pointer (aw S)] #[],.int .i64 4] 156 (0,0))/\aD w wy)
    case atStart=>exact⟨0,d,lk,ae,rfl,rfl,rfl,rfl,Fy,Fo,CY,cj⟩
    case round=>
     obtain⟨j,d',lj,hj,rfl,rfl,rfl,EW,so,xt,hq,hB⟩:=hrel
     have xk:=aa so
     have E9:=aa xt
     have EC:=aa hq
     have oJ:=aa hB
     have pz:(bu l).length=n:=by rw[rW,<-HN.out]
     have wZ:(bu lk).length=n:=eG.len.trans pz
     have LZ:=aa EW
     have hdb: -512<=d'/\d'<=320:=by
      have h1:=eG.d ae ae;have h2:=Nu (f:=lC (ig D)) (c:=4) ae ae (bu lk) d j;rw[EW]at h2;simp only at h2;omega
     have E':=aa (And.intro pz wZ)
     clear so xt hq hB Fo cj pz wZ EW
     cases gk with
     |zero=>
      obtain rfl:j=n:=ae
      have e9: ¬(j:Int)<(j:Int):=ae
      have uJ:=aa ((eG.next ae (by rw[E'.1];exact LZ.out)).1 rfl)
      go_wp2_with fail
      go_roundg 1
      case measure=>omega
      case rel=>exact⟨1,d',lj,.inr (.inl ⟨rfl,rfl,rfl⟩),rfl,rfl,uJ,xk,E9,oJ⟩
     |succ g2=>
      have e9:(j:Int)<(n:Int):=ae
      obtain⟨t0,t1,_,_⟩:=aV EC.out
      have HC:Hid (Calls prog 93 #[.pointer (aw S),.int .i64 (j:Nat),.int .i64 (min d' 4)] wr (Kx w.heap.size S g n n lj D ⟨aA,n,ac,aB,am,ad,aC,ap,aq,aE,es,et⟩ j wr (lC (ig D) j ((bu lj).getD j bI) (min d' 4)))):=aa (axt w.heap.size S g n n lj D ⟨aA,n,ac,aB,am,ad,aC,ap,aq,aE,es,et⟩ j (min d' 4) wr xk ae oJ.size (by rw[HK.1];exact CP.out) (by rw[HK.2.1];exact CP.out) (HK.2.2 j (by rw[<-CP.out];omega)).1 (HK.2.2 j (by rw[<-CP.out];omega)).2)
      obtain⟨r,hr⟩: ∃r,r=lC (ig D) j ((bu lj).getD j bI) (min d' 4):=⟨_,rfl⟩
      rw[<-hr]at HC
      have Bj:=aa (acs LZ hr)
      clear hr
      obtain⟨Q',ce⟩:=r
      have IM:=xk.own.os.lt g rfl
      have WO:Pb≠g:=λe=>mC E9 xk.own.os au (by rw[e];rfl)
      have WH:Q≠g:=λe=>mC EC xk.own.os au (by rw[e];rfl)
      go_wp2_with fail
      refine HC.mono ?_
      rintro e w5 ⟨rfl,l5,ru,kX,pH⟩
      have jK:=aa ru
      have YP:=aa (ye pH E9 WO)
      have CM:=aa (ye pH EC WH)
      have jz:=aa (oJ.trans (vP pH IM.1 oJ.size))
      have s0:=eV jK.blk 0 _ rfl
      obtain⟨t0,t1,_,_⟩:=aV CM.out
      have Ls:=aa kX
      clear ru kX pH HC
      by_cases kE:ce=0
      ·subst kE
       have f1:((0:Int)==0)=true:=rfl
       have Ym:=aa (Bj.1 rfl)
       go_wp2_with fail
       go_roundg g2
       case measure=>omega
       case rel=>exact⟨j+1,d' - 4,l5,ae,by go_num,rfl,rfl,by rw[Ym.out,Ls.out,if_pos ak],jK,YP,CM,jz⟩
      have f1:(ce==0)=false:=by simpa using kE
      have qW:j+1+g2=n:=ae
      by_cases gu:ce=230
      ·subst gu
       have f2:((230:Int)==230)=true:=rfl
       have rA:=Bj.2.1 rfl
       have kf:=J4 (f:=lC (ig D)) (c:=4) (l:=bu lk) (d:=d) (j:=j+1) (by rw[rA];simp) g2
       rw[qW,rA]at kf
       have jv:=aa ((eG.next ae (by rw[E'.1];exact kf)).2.1 rfl)
       clear rA kf qW
       go_wp2_with fail
       try rw[Exit.noGoto_ret]
       go_ret3
       rw[jv.out]
       exact⟨_,_,_,l5,rfl,jK.own.hn,by rw[Ls.out,if_pos ak],jK.own.rd,jz,jK.own⟩
      ·have f2:(ce==230)=false:=by simpa using gu
       have rA:=Bj.2.2 kE gu
       have kf:=J4 (f:=lC (ig D)) (c:=4) (l:=bu lk) (d:=d) (j:=j+1) (by rw[rA];exact kE) g2
       rw[qW,rA]at kf
       have jv:=aa ((eG.next ae (by rw[E'.1];exact kf)).2.2 kE gu)
       clear rA kf qW
       go_wp2_with fail
       try rw[Exit.noGoto_ret]
       go_ret3
       rw[jv.out]
       exact wu.no _ _ _ jz.out
    skip
   ·
    have q0:=eV IC 2 _ rfl
    have q1:=eV IC 3 _ rfl
    go_upto_region 11 with fail
    have al:=be wr (.cells #[.func (.func 94) #[.pointer (aw S)] #[],.int .i64 16] 156)
    have CY:=aa (aR wr (.cells #[.func (.func 94) #[.pointer (aw S)] #[],.int .i64 16] 156))
    have Fy:=aa (Iu.below al)
    have Fo:=aT IC al
    have cj:=aX sC al
    have V6:=sC.size
    obtain⟨w3,fo⟩: ∃w3,w3=wr.alloc (.cells #[.func (.func 94) #[.pointer (aw S)] #[],.int .i64 16] 156):=⟨_,rfl⟩
    rw[<-fo]at CY Fy Fo cj⊢
    clear fo al q0 q1
    generalize wr.heap.size=Q at*
    clear V6
    have s0:=eV Fy.blk 0 _ rfl
    go_wp2_with fail
    clear s0
    go_loopg [2,11,61] n (λg2 s2 Bk Zc wy=> ∃(j:Nat) (d':Int) (lj:List Dk),j+g2=n/\Zc= .int .i64 (j:Nat)/\s2= .int .i64 d'/\Bk= .bool true/\dz (rQ (ig D)) 16 (bu lk) d j=(bu lj,d',0)/\
     lG w.heap.size S g n n lj D ⟨aA,n,ac,aB,am,ad,aC,ap,aq,aE,es,et⟩ wy/\wy.heap[Pb]?=some (.cells #[.func (.func 93) #[.pointer (aw S)] #[],.int .i64 4,.func (.func 94) #[.pointer (aw S)] #[],.int .i64 16] 156 (0,0))/\wy.heap[Q]?=some (.cells #[.func (.func 94) #[.pointer (aw S)] #[],.int .i64 16] 156 (0,0))/\aD w wy)
    case atStart=>exact⟨0,d,lk,ae,rfl,rfl,rfl,rfl,Fy,Fo,CY,cj⟩
    case round=>
     obtain⟨j,d',lj,hj,rfl,rfl,rfl,EW,so,xt,hq,hB⟩:=hrel
     have xk:=aa so
     have E9:=aa xt
     have EC:=aa hq
     have oJ:=aa hB
     have pz:(bu l).length=n:=by rw[rW,<-HN.out]
     have wZ:(bu lk).length=n:=eG.len.trans pz
     have LZ:=aa EW
     have hdb: -512<=d'/\d'<=320:=by
      have h1:=eG.d ae ae;have h2:=Nu (f:=rQ (ig D)) (c:=16) ae ae (bu lk) d j;rw[EW]at h2;simp only at h2;omega
     have E':=aa (And.intro pz wZ)
     clear so xt hq hB Fo cj pz wZ EW
     cases gk with
     |zero=>
      obtain rfl:j=n:=ae
      have e9: ¬(j:Int)<(j:Int):=ae
      have uJ:=aa ((eG.next ae (by rw[E'.1];exact LZ.out)).1 rfl)
      go_wp2_with fail
      go_roundg 0
      case measure=>omega
      case rel=>exact⟨2,d',lj,.inr (.inr ⟨rfl,rfl,rfl⟩),rfl,rfl,uJ,xk,E9,oJ⟩
     |succ g2=>
      have e9:(j:Int)<(n:Int):=ae
      obtain⟨t0,t1,_,_⟩:=aV EC.out
      have HC:Hid (Calls prog 94 #[.pointer (aw S),.int .i64 (j:Nat),.int .i64 (min d' 16)] wr (Kx w.heap.size S g n n lj D ⟨aA,n,ac,aB,am,ad,aC,ap,aq,aE,es,et⟩ j wr (rQ (ig D) j ((bu lj).getD j bI) (min d' 16)))):=aa (axs w.heap.size S g n n lj D ⟨aA,n,ac,aB,am,ad,aC,ap,aq,aE,es,et⟩ j (min d' 16) wr xk ae oJ.size)
      obtain⟨r,hr⟩: ∃r,r=rQ (ig D) j ((bu lj).getD j bI) (min d' 16):=⟨_,rfl⟩
      rw[<-hr]at HC
      have Bj:=aa (acs LZ hr)
      clear hr
      obtain⟨Q',ce⟩:=r
      have IM:=xk.own.os.lt g rfl
      have WO:Pb≠g:=λe=>mC E9 xk.own.os au (by rw[e];rfl)
      have WH:Q≠g:=λe=>mC EC xk.own.os au (by rw[e];rfl)
      go_wp2_with fail
      refine HC.mono ?_
      rintro e w5 ⟨rfl,l5,ru,kX,pH⟩
      have jK:=aa ru
      have YP:=aa (ye pH E9 WO)
      have CM:=aa (ye pH EC WH)
      have jz:=aa (oJ.trans (vP pH IM.1 oJ.size))
      have s0:=eV jK.blk 0 _ rfl
      obtain⟨t0,t1,_,_⟩:=aV CM.out
      have Ls:=aa kX
      clear ru kX pH HC
      by_cases kE:ce=0
      ·subst kE
       have f1:((0:Int)==0)=true:=rfl
       have Ym:=aa (Bj.1 rfl)
       go_wp2_with fail
       go_roundg g2
       case measure=>omega
       case rel=>exact⟨j+1,d' - 16,l5,ae,by go_num,rfl,rfl,by rw[Ym.out,Ls.out,if_pos ak],jK,YP,CM,jz⟩
      have f1:(ce==0)=false:=by simpa using kE
      have qW:j+1+g2=n:=ae
      by_cases gu:ce=230
      ·subst gu
       have f2:((230:Int)==230)=true:=rfl
       have rA:=Bj.2.1 rfl
       have kf:=J4 (f:=rQ (ig D)) (c:=16) (l:=bu lk) (d:=d) (j:=j+1) (by rw[rA];simp) g2
       rw[qW,rA]at kf
       have jv:=aa ((eG.next ae (by rw[E'.1];exact kf)).2.1 rfl)
       clear rA kf qW
       go_wp2_with fail
       try rw[Exit.noGoto_ret]
       go_ret3
       rw[jv.out]
       exact⟨_,_,_,l5,rfl,jK.own.hn,by rw[Ls.out,if_pos ak],jK.own.rd,jz,jK.own⟩
      ·have f2:(ce==230)=false:=by simpa using gu
       have rA:=Bj.2.2 kE gu
       have kf:=J4 (f:=rQ (ig D)) (c:=16) (l:=bu lk) (d:=d) (j:=j+1) (by rw[rA];exact kE) g2
       rw[qW,rA]at kf
       have jv:=aa ((eG.next ae (by rw[E'.1];exact kf)).2.2 kE gu)
       clear rA kf qW
       go_wp2_with fail
       try rw[Exit.noGoto_ret]
       go_ret3
       rw[jv.out]
       exact wu.no _ _ _ jz.out
    skip
   ·have s0:=eV Iu.blk 0 _ rfl
    go_wp2_with fail
    try rw[Exit.noGoto_ret]
    go_ret3
    rw[eG.done]
    exact⟨_,_,_,lk,rfl,Iu.own.hn,rfl,Iu.own.rd,sC,Iu.own⟩
theorem axz (A:aN) (n c:Nat) (l:List Dk) (v:Value) (D:eZ) (aH:Int) (w:World) (h:ti w A l) (hn:n=l.length) (j7:n<=100000) (hl: ∀x∈l,x.n<=1000000/\x.m<=1000000) (hv:DV w v D) (hR:cX w):
  Calls prog 43 #[.slice A n c,v,.int .i64 aH] w (wu w (ij D (bu l) aH)):=by
 by_cases hh:sX D=true/\n=D.r.ns.length
 ·have hE:ij D (bu l) aH=rR (ig D) (bu l) aH:=by unfold ij;rw[if_pos ⟨hh.1,by rw[rW,<-hn];exact hh.2⟩]
  rw[hE];exact axy A n c l v D aH w h hn hl hv hR hh.1 hh.2
 ·exact axw A n c l v D aH w hn j7 hv hR hh
theorem afG (c:ag):(lZ (gE c)).2=0:=(aqR (acC c)).1
end
theorem afH:fN (gD 3) 0 0 0=(jS 0,1,16,(fN (gD 3) 0 0 0).2.2.2.1,0):=by
 have h:fc (0+16)=bs [49,54]:=bU;have hp:(eC (gD 3) 0 (bs [49,54]) (-1)).2.2=0/\(eC (gD 3) 0 (bs [49,54]) (-1)).2.1=true:=bU;unfold fN;rw[if_neg au,if_neg au,if_neg au,h,hp.1,hp.2];rfl
theorem axK (n:Int):(jS n).size=12:=by
 unfold jS;show (List.toArray _).size=12;simp
theorem afI (s:ag): ∃M,jT s 32=(M,0)/\M.size=32:=by
 unfold jT;rw[if_neg au,if_neg au];refine⟨_,rfl,?_⟩;rw[ei,List.length_take,Nr];rfl
open Go.MapKept
variable {r:Nat} {s:ag} {w:World}
def ww:List (ByteArray×ByteArray×Nat)->Nat->List MapEntry
 | [],_=> []
 |p::l,n=> {key:= .string p.1,val:= .agg #[.string p.2.1,.func (.func p.2.2) #[] #[]],born:=n} ::ww l (n+1)
def rY:List (ByteArray×ByteArray×Nat):= [(⟨#[110,101,119]⟩,⟨#[116,116,110,110,43]⟩,17),(⟨#[117,110,108,111,99,107]⟩,⟨#[116,43]⟩,18),(⟨#[108,111,99,107]⟩,⟨#[]⟩,19),(⟨#[114,101,97,100]⟩,⟨#[110]⟩,20),(⟨#[119,114,105,116,101]⟩,⟨#[110,116]⟩,21),(⟨#[102,108,117,115,104]⟩,⟨#[110]⟩,22),(⟨#[108,111,97,100]⟩,⟨#[]⟩,23),(⟨#[116,97,109,112,101,114]⟩,⟨#[110,116]⟩,24),(⟨#[101,112,111,99,104]⟩,⟨#[116,110,110]⟩,25),(⟨#[101,115,99,114,111,119]⟩,⟨#[116,110,110]⟩,26),(⟨#[114,101,99,111,118,101,114]⟩,⟨#[110,43]⟩,27),(⟨#[97,110,99,104,111,114]⟩,⟨#[116,110]⟩,28),(⟨#[107,110,111,119,110]⟩,⟨#[110]⟩,29),(⟨#[115,104,111,119]⟩,⟨#[]⟩,30)]
theorem rZ {es:List MapEntry} {c:Nat} {B:Nat} (key:ag) (v:Value) (hb:w.heap[r]?=some (.map es.toArray c)) (hn:Instr.findNow .string (.string key) es 0=some none) (hB:B<=r) (kD:B<=w.heap.size):
  ∃w',(Instr.mapUpdate 37 (.map (some r)) (.string key) v).run prog w= .ok () w'/\w'.heap[r]?=some (.map (es++ [({key:= .string key,val:=v,born:=c} :MapEntry)]).toArray (c+1))/\Below B w w':=by
 have hk:IsKey .string (.string key):=by simp[IsKey]
 refine⟨{w with heap:=w.heap.setIfInBounds r (.map (es.toArray.push ({key:= .string key,val:=v,born:=c} :MapEntry)) (c+1))},?_,?_,?_⟩
 ·simp[Instr.mapUpdate,run_underlying underlying37,Go.MapKept.run_getObj_map hb,run_checkKey underlying9 hk,run_findKey underlying9 hn,Go.MapKept.run_setObj_map _ hb,Result.andThen]
 ·rw[(heap_set hb).1];simp
 ·exact⟨rfl,rfl,rfl,ak,λk hk=>(heap_set hb).2 k ae⟩
theorem ax0 (w:World):Calls prog 10 #[] w λe w'=> ∃r,e= .returned (.map (some r))/\w'.heap[r]?=some (.map (ww rY 0).toArray 14)/\w.heap.size<=r/\aD w w':=by
 have b0:aD w (w.alloc (.map #[] 0)):=be w _;have k0:(w.alloc (.map #[] 0)).heap[w.heap.size]?=some (.map ([]:List MapEntry).toArray 0):=aR w _;obtain⟨w1,r0,k1,c0⟩:=rZ (B:=w.heap.size) ⟨#[110,101,119]⟩ (.agg #[.string ⟨#[116,116,110,110,43]⟩,.func (.func 17) #[] #[]]) k0 ah (aM _) b0.size;have b1:=b0.trans c0;obtain⟨w2,r1,k2,c1⟩:=rZ (B:=w.heap.size) ⟨#[117,110,108,111,99,107]⟩ (.agg #[.string ⟨#[116,43]⟩,.func (.func 18) #[] #[]]) k1 ah (aM _) b1.size;have b2:=b1.trans c1;obtain⟨w3,r2,k3,c2⟩:=rZ (B:=w.heap.size) ⟨#[108,111,99,107]⟩ (.agg #[.string ⟨#[]⟩,.func (.func 19) #[] #[]]) k2 ah (aM _) b2.size;have b3:=b2.trans c2;obtain⟨w4,r3,k4,c3⟩:=rZ (B:=w.heap.size) ⟨#[114,101,97,100]⟩ (.agg #[.string ⟨#[110]⟩,.func (.func 20) #[] #[]]) k3 ah (aM _) b3.size;have b4:=b3.trans c3;obtain⟨w5,r4,k5,c4⟩:=rZ (B:=w.heap.size) ⟨#[119,114,105,116,101]⟩ (.agg #[.string ⟨#[110,116]⟩,.func (.func 21) #[] #[]]) k4 ah (aM _) b4.size;have b5:=b4.trans c4;obtain⟨w6,r5,k6,c5⟩:=rZ (B:=w.heap.size) ⟨#[102,108,117,115,104]⟩ (.agg #[.string ⟨#[110]⟩,.func (.func 22) #[] #[]]) k5 ah (aM _) b5.size;have b6:=b5.trans c5;obtain⟨w7,r6,k7,c6⟩:=rZ (B:=w.heap.size) ⟨#[108,111,97,100]⟩ (.agg #[.string ⟨#[]⟩,.func (.func 23) #[] #[]]) k6 ah (aM _) b6.size;have b7:=b6.trans c6;obtain⟨w8,r7,k8,c7⟩:=rZ (B:=w.heap.size) ⟨#[116,97,109,112,101,114]⟩ (.agg #[.string ⟨#[110,116]⟩,.func (.func 24) #[] #[]]) k7 ah (aM _) b7.size;have b8:=b7.trans c7;obtain⟨w9,r8,k9,c8⟩:=rZ (B:=w.heap.size) ⟨#[101,112,111,99,104]⟩ (.agg #[.string ⟨#[116,110,110]⟩,.func (.func 25) #[] #[]]) k8 ah (aM _) b8.size;have b9:=b8.trans c8;obtain⟨Df,r9,Pt,c9⟩:=rZ (B:=w.heap.size) ⟨#[101,115,99,114,111,119]⟩ (.agg #[.string ⟨#[116,110,110]⟩,.func (.func 26) #[] #[]]) k9 ah (aM _) b9.size;have b10:=b9.trans c9;obtain⟨w11,r10,k11,XO⟩:=rZ (B:=w.heap.size) ⟨#[114,101,99,111,118,101,114]⟩ (.agg #[.string ⟨#[110,43]⟩,.func (.func 27) #[] #[]]) Pt ah (aM _) b10.size;have b11:=b10.trans XO;obtain⟨O5,r11,k12,iH⟩:=rZ (B:=w.heap.size) ⟨#[97,110,99,104,111,114]⟩ (.agg #[.string ⟨#[116,110]⟩,.func (.func 28) #[] #[]]) k11 ah (aM _) b11.size;have b12:=b11.trans iH;obtain⟨w13,r12,k13,iM⟩:=rZ (B:=w.heap.size) ⟨#[107,110,111,119,110]⟩ (.agg #[.string ⟨#[110]⟩,.func (.func 29) #[] #[]]) k12 ah (aM _) b12.size;have b13:=b12.trans iM;obtain⟨w14,r13,k14,iF⟩:=rZ (B:=w.heap.size) ⟨#[115,104,111,119]⟩ (.agg #[.string ⟨#[]⟩,.func (.func 30) #[] #[]]) k13 ah (aM _) b13.size;have b14:=b13.trans iF;have j6:(Instr.makeMap 37 none).run prog w= .ok (.map (some w.heap.size)) (w.alloc (.map #[] 0)):=by first|rfl|simp[Instr.makeMap,Result.andThen]
 have HK:=aa k14;have HB:=aa b14;go_in;go_wp2;go_ret;exact⟨_,rfl,HK,aM _,HB⟩
theorem UT (s:ag): ∀(l:List (ByteArray×ByteArray×Nat)) (n i:Nat),(l.find? (λp=>decide (p.1=s))=none/\Instr.findNow .string (.string s) (ww l n) i=some none)\/ ∃p j,l.find? (λp=>decide (p.1=s))=some p/\Instr.findNow .string (.string s) (ww l n) i=some (some (j,.agg #[.string p.2.1,.func (.func p.2.2) #[] #[]]))
 | [],n,i=> .inl ⟨rfl,rfl⟩
 |p::l,n,i=>by
  rw[ww,Instr.findNow,List.find?_cons];by_cases h:p.1=s
  ·right;refine⟨p,i,by rw[decide_eq_true h],?_⟩;have e:Instr.sameNow .string (.string s) (.string p.1)=some true:=by
    rw[h];show some (s==s)=some true;rw[(bytes_beq s s).2 rfl]
   rw[e]
  ·have e:Instr.sameNow .string (.string s) (.string p.1)=some false:=by
    show some (s==p.1)=some false;congr 1;cases hb:s==p.1 with
    |false=>rfl
    |true=>exact absurd ((bytes_beq s p.1).1 hb).symm h
   rw[e,decide_eq_false h];exact UT s l (n+1) (i+1)
theorem ax1 (hb:w.heap[r]?=some (.map (ww rY 0).toArray 14)) (h:rY.find? (λp=>decide (p.1=s))=none):
  (Instr.lookup 37 (.map (some r)) (.string s) true).run prog w= .ok (.tuple #[.agg #[.string ⟨#[]⟩,.nilFunc],.bool false]) w:=by
 have hk:IsKey .string (.string s):=by simp[IsKey]
 have hz:(zeroValue 51).run prog w= .ok (.agg #[.string ⟨#[]⟩,.nilFunc]) w:=ax;rcases UT s rY 0 0 with⟨_,h2⟩|⟨p,j,h1,_⟩
 ·have e:(ww rY 0).toArray.isEmpty=false:=rfl;simp[Instr.lookup,run_underlying underlying37,Go.MapKept.run_getObj_map hb,e,run_checkKey underlying9 hk,run_findKey underlying9 h2,hz,Result.andThen]
 ·rw[h]at h1;cases h1
theorem ax2 (hb:w.heap[r]?=some (.map (ww rY 0).toArray 14)) {p:ByteArray×ByteArray×Nat} (h:rY.find? (λp=>decide (p.1=s))=some p):
  (Instr.lookup 37 (.map (some r)) (.string s) true).run prog w= .ok (.tuple #[.agg #[.string p.2.1,.func (.func p.2.2) #[] #[]],.bool true]) w:=by
 have hk:IsKey .string (.string s):=by simp[IsKey]
 rcases UT s rY 0 0 with⟨h1,_⟩|⟨q,j,h1,h2⟩
 ·rw[h]at h1;cases h1
 ·rw[h]at h1;injection h1 with h1
  subst h1;have e:(ww rY 0).toArray.isEmpty=false:=rfl;simp[Instr.lookup,run_underlying underlying37,Go.MapKept.run_getObj_map hb,e,run_checkKey underlying9 hk,run_findKey underlying9 h2,Result.andThen]
def yH (c:Nat):Nat:= [17,18,19,20,21,22,23,24,25,26,27,28,29,30].getD c 0
theorem ax3 (s:ag):(rY.find? (λp=>decide (p.1=s))=none/\tg s=none)\/ ∃p f more c,rY.find? (λp=>decide (p.1=s))=some p/\tg s=some (f,more,c)/\Lib.trimSuffix p.2.1.data.toList [43]=f/\Lib.hasSuffix p.2.1.data.toList [43]=more/\p.2.2=yH c/\c<=13/\p.2.1.size<=100:=by
 by_cases h0:s=⟨#[110,101,119]⟩
 ·subst h0;exact .inr ⟨_,_,_,_,rfl,rfl,bU,bU,rfl,au,au⟩
 by_cases h1:s=⟨#[117,110,108,111,99,107]⟩
 ·subst h1;exact .inr ⟨_,_,_,_,rfl,rfl,bU,bU,rfl,au,au⟩
 by_cases h2:s=⟨#[108,111,99,107]⟩
 ·subst h2;exact .inr ⟨_,_,_,_,rfl,rfl,bU,bU,rfl,au,au⟩
 by_cases h3:s=⟨#[114,101,97,100]⟩
 ·subst h3;exact .inr ⟨_,_,_,_,rfl,rfl,bU,bU,rfl,au,au⟩
 by_cases h4:s=⟨#[119,114,105,116,101]⟩
 ·subst h4;exact .inr ⟨_,_,_,_,rfl,rfl,bU,bU,rfl,au,au⟩
 by_cases h5:s=⟨#[102,108,117,115,104]⟩
 ·subst h5;exact .inr ⟨_,_,_,_,rfl,rfl,bU,bU,rfl,au,au⟩
 by_cases h6:s=⟨#[108,111,97,100]⟩
 ·subst h6;exact .inr ⟨_,_,_,_,rfl,rfl,bU,bU,rfl,au,au⟩
 by_cases h7:s=⟨#[116,97,109,112,101,114]⟩
 ·subst h7;exact .inr ⟨_,_,_,_,rfl,rfl,bU,bU,rfl,au,au⟩
 by_cases h8:s=⟨#[101,112,111,99,104]⟩
 ·subst h8;exact .inr ⟨_,_,_,_,rfl,rfl,bU,bU,rfl,au,au⟩
 by_cases h9:s=⟨#[101,115,99,114,111,119]⟩
 ·subst h9;exact .inr ⟨_,_,_,_,rfl,rfl,bU,bU,rfl,au,au⟩
 by_cases Yo:s=⟨#[114,101,99,111,118,101,114]⟩
 ·subst Yo;exact .inr ⟨_,_,_,_,rfl,rfl,bU,bU,rfl,au,au⟩
 by_cases ZI:s=⟨#[97,110,99,104,111,114]⟩
 ·subst ZI;exact .inr ⟨_,_,_,_,rfl,rfl,bU,bU,rfl,au,au⟩
 by_cases tJ:s=⟨#[107,110,111,119,110]⟩
 ·subst tJ;exact .inr ⟨_,_,_,_,rfl,rfl,bU,bU,rfl,au,au⟩
 by_cases Y0:s=⟨#[115,104,111,119]⟩
 ·subst Y0;exact .inr ⟨_,_,_,_,rfl,rfl,bU,bU,rfl,au,au⟩
 left;have ne: ∀ {l:aF},s≠⟨l.toArray⟩-> ¬l=s.data.toList:=λh e=>h (by rw[e]);refine⟨?_,?_⟩
 ·rw[List.find?_eq_none];intro p hp;simp only[rY,List.mem_cons,List.not_mem_nil,or_false]at hp;rw[decide_eq_true_eq];rcases hp with rfl|rfl|rfl|rfl|rfl|rfl|rfl|rfl|rfl|rfl|rfl|rfl|rfl|rfl
  ·exact λe=>h0 e.symm
  ·exact λe=>h1 e.symm
  ·exact λe=>h2 e.symm
  ·exact λe=>h3 e.symm
  ·exact λe=>h4 e.symm
  ·exact λe=>h5 e.symm
  ·exact λe=>h6 e.symm
  ·exact λe=>h7 e.symm
  ·exact λe=>h8 e.symm
  ·exact λe=>h9 e.symm
  ·exact λe=>Yo e.symm
  ·exact λe=>ZI e.symm
  ·exact λe=>tJ e.symm
  ·exact λe=>Y0 e.symm
 ·unfold tg;rw[Option.map_eq_none_iff,List.find?_eq_none];intro p hp;simp only[List.mem_cons,List.not_mem_nil,or_false]at hp;rw[decide_eq_true_eq];rcases hp with rfl|rfl|rfl|rfl|rfl|rfl|rfl|rfl|rfl|rfl|rfl|rfl|rfl|rfl
  ·exact ne h0
  ·exact ne h1
  ·exact ne h2
  ·exact ne h3
  ·exact ne h4
  ·exact ne h5
  ·exact ne h6
  ·exact ne h7
  ·exact ne h8
  ·exact ne h9
  ·exact ne Yo
  ·exact ne ZI
  ·exact ne tJ
  ·exact ne Y0
end Go.Proofs.YtaglcaocpcbiiaaGreatDoor
