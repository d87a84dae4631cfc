import Derived.Test.YtaglcaocpcbiiaaGreatDoorX12
import Derived.Test.YtaglcaocpcbiiaaGreatDoorX11
import Derived.Test.YtaglcaocpcbiiaaGreatDoorX09
import Derived.Test.YtaglcaocpcbiiaaGreatDoorX10
import Derived.Shelf.Slices.Turned
import Derived.Lib.SliceRun
set_option linter.unusedVariables false
set_option linter.unusedSimpArgs false
set_option maxRecDepth 100000
set_option maxHeartbeats 3000000
namespace Go.Proofs.YtaglcaocpcbiiaaGreatDoor
open Go.Proofs.Tryz Go.RowKit
section
theorem kQ9 {P:Prop} (h:P:=by first|(simp only[Act.put,List.setIfInBounds_toArray,List.set_cons_zero,List.set_cons_succ];exact rfl)|exact rfl):P:=h
variable {P:Program} {bk:Array Oper} {Q:Exit->Act->World->Prop} {md:Region.Mode} {S:World->Prop} {n:Nat} {oi oj:Oper} {v:Value} {cB:Nat} {cq:Array Bool} {a:Act} {w:World} {G:Prop}
theorem kV (i:Nat) (hi:bk[i]?=some oi) (hS:S w) (hy: ∀w,S w->(execOp a.eval oi).run P w= .ok (.value v) w) (h:G) (hb:(decide (i≠n)&&OV md bk n i&&Region.noSelect bk&&Region.free md bk cq i&&(Region.ready md bk cq).contains i)=true:=by kernel_rfl) (hQ: ∀c a w,Q (.panic c) (a.put oi.dst v) w->Q (.panic c) a w:=by exact λ_ _ _ h=>h) (hg:Region.wanted oi (yielded bk a.tmps)=true:=by rfl) (e:pr P md bk Q S n cB (cq.setIfInBounds i true) (a.put oi.dst v) w=G:=by exact kQ9):pr P md bk Q S n (cB+1) cq a w:=
 kT i hi hb hQ hg hS hy (e.symm▸h)
theorem kU (i:Nat) (hS:S w) (h:G) (hi:bk[i]?=some oi:=by rfl) (hy: ∀w,S w->(execOp a.eval oi).run P w= .ok (.value v) w:=by intro _ h9;go_simp;try with_reducible rfl) (hb:(decide (i≠n)&&OV md bk n i&&Region.noSelect bk&&Region.free md bk cq i&&(Region.ready md bk cq).contains i)=true:=by kernel_rfl) (hQ: ∀c a w,Q (.panic c) (a.put oi.dst v) w->Q (.panic c) a w:=by exact λ_ _ _ h=>h) (hg:Region.wanted oi (yielded bk a.tmps)=true:=by rfl) (e:pr P md bk Q S n cB (cq.setIfInBounds i true) (a.put oi.dst v) w=G:=by exact kQ9):pr P md bk Q S n (cB+1) cq a w:=
 kT i hi hb hQ hg hS hy (e.symm▸h)
theorem kR2 (i j:Nat) (h: ∀K:Act->World->Prop,Hid (∀a' w',S w'->(S w'->pr P md bk Q S n cB (cq.setIfInBounds i true) a' w')->K a' w')->if Region.wanted oi (yielded bk a.tmps)=true then Oper.wp P oi a w K Q else K (a.put oi.dst undef) w) (k: ∀K:Act->World->Prop,Hid (∀a' w',S w'->(S w'->pr P md bk Q S n cB (cq.setIfInBounds j true) a' w')->K a' w')->if Region.wanted oj (yielded bk a.tmps)=true then Oper.wp P oj a w K Q else K (a.put oj.dst undef) w) (hr:Region.ready md bk cq= [i,j]:=by kernel_rfl) (hn: [i,j].contains n=false:=by kernel_rfl) (ho:bk[i]?=some oi:=by rfl) (hp:bk[j]?=some oj:=by rfl):pr P md bk Q S n (cB+1) cq a w:=
 Uq hr ak hn (qb.cons ho h (qb.cons hp k qb.nil))
theorem hU (i:Nat) (hS:S w) (h:G) (hi:bk[i]?=some oi:=by rfl) (hy: ∀w,S w->(execOp a.eval oi).run P w= .ok (.value v) w:=by intro _ h9;go_simp;try with_reducible rfl) (hb:(Region.noSelect bk&&Region.free md bk cq i&&(Region.ready md bk cq).contains i)=true:=by kernel_rfl) (hQ: ∀c a w,Q (.panic c) (a.put oi.dst v) w->Q (.panic c) a w:=by exact λ_ _ _ h=>h) (hg:Region.wanted oi (yielded bk a.tmps)=true:=by rfl) (e:wpAnyH P md bk Q S cB (cq.setIfInBounds i true) (a.put oi.dst v) w=G:=by exact kQ9):wpAnyH P md bk Q S (cB+1) cq a w:=
 hT i hi hb hQ hg hS hy (e.symm▸h)
end
section
variable {B g k m rb wb:Nat} {P:Prop} {S S':aW} {T:TypeId} {W a w w':World} {cs:bx} {fr:Nat×Nat}
theorem rV (w:World):Calls prog 44 #[.int .i64 0] w (eu w (.tuple #[])):=by
 go_in;go_wp2_with fail;exact⟨rfl,_,by simp[results,results44],rfl,rfl⟩
theorem AH (x:Int) (hx:x≠0) (w:World):Calls prog 44 #[.int .i64 x] w λe w'=>e=ma x/\w'=w:=by
 exact ahA
theorem KI (h:P:=by
 go_in;go_wp2_with fail;refine (rV _).mono ?_;rintro e w1 ⟨rfl,rfl⟩;exact tp):P:=h
theorem GG (s:ag) (w:World):Calls prog 50 #[.string s,.int .i64 0] w (eu w (.string s)):=by
 exact KI
theorem KG (h:P:=by
 go_in;go_wp2_with fail;refine (AH x hx _).mono ?_;rintro e w1 ⟨rfl,rfl⟩;exact⟨rfl,rfl,rfl⟩):P:=h
theorem Ed (s:ag) (x:Int) (hx:x≠0) (w:World):Calls prog 50 #[.string s,.int .i64 x] w λe w'=>e=ma x/\w'=w:=by
 exact KG
theorem atM (n:Int) (w:World):Calls prog 75 #[.int .i64 n,.int .i64 0] w (eu w (.int .i64 n)):=by
 exact KI
theorem atN (n:Int) (x:Int) (hx:x≠0) (w:World):Calls prog 75 #[.int .i64 n,.int .i64 x] w λe w'=>e=ma x/\w'=w:=by
 exact KG
theorem atO (A:aN) (n c:Nat) (w:World):Calls prog 70 #[.slice A n c,.int .i64 0] w (eu w (.slice A n c)):=by
 exact KI
theorem atQ (A:aN) (n c:Nat) (x:Int) (hx:x≠0) (w:World):Calls prog 70 #[.slice A n c,.int .i64 x] w λe w'=>e=ma x/\w'=w:=by
 exact KG
theorem atR (A:aN) (n c:Nat) (w:World):Calls prog 73 #[.slice A n c,.int .i64 0] w (eu w (.slice A n c)):=by
 exact KI
theorem atS (A:aN) (n c:Nat) (x:Int) (hx:x≠0) (w:World):Calls prog 73 #[.slice A n c,.int .i64 x] w λe w'=>e=ma x/\w'=w:=by
 exact KG
theorem atT (A:aN) (n c:Nat) (w:World):Calls prog 66 #[.slice A n c,.int .i64 0] w (eu w (.slice A n c)):=by
 exact KI
theorem atU (A:aN) (n c:Nat) (x:Int) (hx:x≠0) (w:World):Calls prog 66 #[.slice A n c,.int .i64 x] w λe w'=>e=ma x/\w'=w:=by
 exact KG
theorem OT (h:P:=by
 go_in;go_wp2_with fail;refine (AH x hx _).mono ?_;rintro e w1 ⟨rfl,rfl⟩;exact⟨rfl,rfl,(be w _).alloc ak _⟩):P:=h
theorem NK (A B:aN) (n c m d:Nat) (x:Int) (hx:x≠0) (w:World):Calls prog 40 #[.agg #[.slice A n c,.slice B m d],.int .i64 x] w λe w'=>e=ma x/\aD w w':=by
 exact OT
theorem atV (A:aN) (n c:Nat) (r:ag) (x:Int) (hx:x≠0) (w:World):Calls prog 60 #[.agg #[.slice A n c,.string r],.int .i64 x] w λe w'=>e=ma x/\aD w w':=by
 exact OT
theorem TZ (wb:Nat) (s:ag) (w:World) (u v:Value) (EX:w.cell? ⟨wb,17,none⟩=some u) (h18:w.cell? ⟨wb,18,none⟩=some v) (f17:w.frozen? ⟨wb,17,none⟩=false) (f18:w.frozen? ⟨wb,18,none⟩=false):
  Calls prog 45 #[.pointer (aw wb),.string s] w λe w'=>e= .returned (.string gT)/\w'=(w.setCell ⟨wb,18,none⟩ (.string s)).setCell ⟨wb,17,none⟩ (.bool true):=by
 exact jt
theorem adw (wb:Nat) (w:World) (u v:Value) (EX:w.cell? ⟨wb,17,none⟩=some u) (h18:w.cell? ⟨wb,18,none⟩=some v) (f17:w.frozen? ⟨wb,17,none⟩=false) (f18:w.frozen? ⟨wb,18,none⟩=false):
  Calls prog 57 #[.pointer (aw wb)] w λe w'=>e= .returned (.tuple #[])/\w'=(w.setCell ⟨wb,18,none⟩ (.string ⟨#[]⟩)).setCell ⟨wb,17,none⟩ (.bool false):=by
 go_in;go_wp2_with fail;exact⟨rfl,_,by simp[results,results57],rfl,rfl⟩
theorem Kb (rb wb:Nat) (w:World) (h:w.cell? ⟨rb,0,none⟩=some (.pointer (aw wb))) (EX:w.cell? ⟨wb,17,none⟩=some (.bool true)):
  Calls prog 58 #[.pointer (aw rb)] w (eu w (.pointer (aw wb))):=by
 exact jt
theorem adx (rb wb:Nat) (w:World) (h:w.cell? ⟨rb,0,none⟩=some (.pointer (aw wb))) (EX:w.cell? ⟨wb,17,none⟩=some (.bool false)):
  Calls prog 58 #[.pointer (aw rb)] w λe w'=>e=ma 212/\w'=w:=by
 go_in;go_wp2_with fail;exact⟨rfl,rfl,rfl⟩
structure Sl where
 A:Option Addr
 n:Nat
 c:Nat
abbrev Sl.v (x:Sl):Value:= .slice x.A x.n x.c
structure cQ where
 nm:Sl
 dk:Sl
 rn:Sl
 rq:Sl
 ca:Sl
 cb:Sl
 bl:Sl
 sa:Sl
 sb:Sl
 an:Sl
 l:List Dk
def ou (S:aW) (y:cQ):bx:=
 #[y.nm.v,y.dk.v,.int .i64 S.r.e,.int .i64 S.r.k,y.rn.v,y.rq.v,.string S.wr,y.ca.v,y.cb.v,y.bl.v,.string S.v.rt,y.sa.v,y.sb.v,.int .i64 S.pt,.int .i64 S.nx,.int .i64 S.lm,y.an.v,.bool S.op,.string S.ms]
def eF (w:World) (wb:Nat) (x:Sl) (l:bJ) (n:Nat):Prop:=Rd w x.A l/\x.n=n/\ ∀b o,x.A=some ⟨b,o,none⟩->b≠wb
theorem eF.below {x:Sl} {l:bJ} {n:Nat} (h:eF w wb x l n) (hb:aD w w'):eF w' wb x l n:=⟨h.1.below hb,h.2⟩
theorem eF.gb {x:Sl} {l:bJ} {n:Nat} (h:eF w wb x l n) (hg:w.grownBy w' (some wb)):eF w' wb x l n:=⟨Cf h.1 hg h.2.2,h.2⟩
theorem eF.far {A:aN} {c n:Nat} {l:bJ} (h:Rd w A l) (hn:n=l.length) (hf:qQ B A) (hB:wb<B) (hm:n=m):eF w wb ⟨A,n,c⟩ l m:=
 ⟨h,hm,λb o e=>by have:=hf b o e;omega⟩
structure Dt (w:World) (B wb:Nat) (S:aW) (y:cQ):Prop where
 nm:eF w wb y.nm (aZ S.ns) S.ns.length
 dk:dC w B y.dk.A y.dk.n y.dk.c y.l
 pl:bu y.l=S.ds
 rn:eF w wb y.rn (aZ S.r.ns) S.r.ns.length
 rq:eF w wb y.rq (aZ S.r.ps) S.r.ps.length
 ch:PB w y.ca.A y.ca.n y.cb.A y.cb.n S.ch
 bl:eF w wb y.bl (aZ S.v.bl) S.v.bl.length
 sp:PB w y.sa.A y.sa.n y.sb.A y.sb.n S.sp
 an:eF w wb y.an (ints S.an) S.an.length
theorem PB.gbT {A B:aN} {n:Nat} {P:az} (h:PB w A n B m P) (hT:w.heap[g]?=some (.cells cs T fr)) (h1:T≠9) (h2:T≠257) (hg:w.grownBy w' (some g)):PB w' A n B m P:=by
 have ne: ∀ {X:aN} {t:TypeId},Ty w X t->T≠t-> ∀b o,X=some ⟨b,o,none⟩->b≠g:=λhX ht b o e eb=>by
  obtain⟨AZ,hc⟩:=hX b o e;subst eb;rw[hT]at hc;injection hc with hc
  injection hc with _ hc
  exact ht hc
 exact⟨h.hn,h.hm,Cf h.rs hg (ne h.ta h1),Cf h.rc hg (ne h.tb h2),h.ta.grown hg hT h1,h.tb.grown hg hT h2⟩
theorem dC.gbT {B0:Nat} {A:aN} {n ai:Nat} {l:List Dk} (h:dC w B0 A n ai l) (hT:w.heap[g]?=some (.cells cs T (0,0))) (h1:T≠9) (h2:T≠257) (h3:T≠74) (hg:w.grownBy w' (some g)):dC w' B0 A n ai l:=by
 have aO:=mC hT h.os h3;refine⟨h.hn,h.os.kept hg (.inr (Ne.symm aO)),λb aS e j u hu=>h.sl b aS e j u ?_,λx hx=>PB.gbT (h.ok x hx) hT h1 h2 hg⟩;have hb:b≠g:=λeb=>aO (by rw[e,eb];rfl);have aK:b<w.heap.size:=(h.os.lt b (by rw[e];rfl)).2;exact (fB (hg.block b aK (λe2=>hb (bW e2)))).symm.trans hu
theorem Dt.below {y:cQ} (h:Dt w B wb S y) (hb:aD w w'):Dt w' B wb S y:=
 ⟨h.nm.below hb,h.dk.below hb,h.pl,h.rn.below hb,h.rq.below hb,h.ch.below hb,h.bl.below hb,h.sp.below hb,h.an.below hb⟩
theorem Dt.gb {y:cQ} (h:Dt w B wb S y) (hT:bj w wb cs 84) (hg:w.grownBy w' (some wb)):Dt w' B wb S y:=
 ⟨h.nm.gb hg,h.dk.gbT hT au au au hg,h.pl,h.rn.gb hg,h.rq.gb hg,h.ch.gbT hT au au hg,h.bl.gb hg,h.sp.gbT hT au au hg,h.an.gb hg⟩
theorem Dt.to {y:cQ} (h:Dt w B wb S y) (e1:S'.ns=S.ns) (e2:S'.ds=S.ds) (e3:S'.r=S.r) (e4:S'.ch=S.ch) (e5:S'.v=S.v) (e6:S'.sp=S.sp) (e7:S'.an=S.an):Dt w B wb S' y:=
 ⟨e1▸h.nm,h.dk,e2▸h.pl,e3▸h.rn,e3▸h.rq,e4▸h.ch,e5▸h.bl,e6▸h.sp,e7▸h.an⟩
structure Wm (w:World) (B wb:Nat) (S:aW) (y:cQ):Prop where
 lo:B<=wb
 blk:w.heap[wb]?=some (.cells (ou S y) 84 (0,0))
 dt:Dt w B wb S y
theorem Wm.below {y:cQ} (h:Wm w B wb S y) (hb:aD w w'):Wm w' B wb S y:=⟨h.lo,aJ h.blk hb,h.dt.below hb⟩
def qa (w:World) (rb k:Nat):Prop:=w.heap[rb]?=some (.cells #[.pointer none] 32 (0,0))\/ ∃wb S y,w.heap[rb]?=some (.cells #[.pointer (aw wb)] 32 (0,0))/\w.heap[wb]?=some (.cells (ou S y) 84 (0,0))/\(y.bl.n≠0-> ∀o,y.bl.A≠some ⟨k,o,none⟩)
theorem qa.below (h:qa w rb k) (hb:aD w w'):qa w' rb k:=
 h.imp (λh=>aJ h hb) (λ⟨wb,S,y,h1,h2,h3⟩=>⟨wb,S,y,aJ h1 hb,aJ h2 hb,h3⟩)
theorem qa.at_ {y:cQ} (h:qa w rb k) (h1:w.heap[rb]?=some (.cells #[.pointer (aw wb)] 32 (0,0))) (h2:w.heap[wb]?=some (.cells (ou S y) 84 (0,0))):y.bl.n≠0-> ∀o,y.bl.A≠some ⟨k,o,none⟩:=by
 rcases h with h|⟨wb',S',y',k1,k2,k3⟩
 ·rw[h1]at h;cases h
 ·have e:some (Obj.cells #[Value.pointer (aw wb)] 32 (0,0))=some (.cells #[.pointer (aw wb')] 32 (0,0)):=h1.symm.trans k1;have ew:wb=wb':=by simpa using e
  subst ew;have e2:ou S y=ou S' y':=by
   have e':=h2.symm.trans k2;injection e' with e'
   injection e' with e'
  have e3:(ou S y)[9]?=(ou S' y')[9]?:=by rw[e2]
  have e4:y.bl.v=y'.bl.v:=bW e3;unfold Sl.v at e4;injection e4 with e5 e6 e7
  rw[e5,e6];exact k3
structure Fq (B rb:Nat) (w w':World):Prop where
 os:w'.os=w.os
 tape:w'.tape=w.tape
 output:w'.output=w.output
 size:w.heap.size<=w'.heap.size
 low: ∀k,k<B->k≠rb->w'.heap[k]?=w.heap[k]?
 u8: ∀(g:Nat) (cs:bx) (T:TypeId) (fz:Nat×Nat),w.heap[g]?=some (.cells cs T fz)->T=5\/T=9->w'.heap[g]?=w.heap[g]?
 bl: ∀k<w.heap.size,qa w rb k->qa w' rb k
theorem Fq.trans {b c:World} (h:Fq B rb a b) (k:Fq B rb b c):Fq B rb a c:=
 ⟨k.os.trans h.os,k.tape.trans h.tape,k.output.trans h.output,bD h.size k.size,λi h1 h2=>(k.low i h1 h2).trans (h.low i h1 h2),λg cs T fz hg hT=>(k.u8 g cs T fz ((h.u8 g cs T fz hg hT).trans hg) hT).trans (h.u8 g cs T fz hg hT),λi hi hn=>k.bl i (jY hi h.size) (h.bl i hi hn)⟩
theorem wA (hB:B<=w.heap.size) (h:aD w w'):Fq B rb w w':=
 ⟨h.os,h.tape,h.output,h.size,λk hk _=>h.block k ae,λg cs T fz hg _=>h.block g (bf hg),λ_ _ hn=>hn.below h⟩
theorem Fq.new (h0:Fq B rb a w) (hB:B<=w.heap.size) (h:w.grownBy w' (some g)) (hg:B<=g\/g=rb) (hT:w.heap[g]?=some (.cells cs T fr)) (h1:T≠5/\T≠9) (hn: ∀k<a.heap.size,qa a rb k->qa w' rb k):Fq B rb a w':=by
 have u: ∀(k:Nat) (c:bx) (U:TypeId) (fz:Nat×Nat),w.heap[k]?=some (.cells c U fz)->U=5\/U=9->w'.heap[k]?=w.heap[k]?:=λk c U fz hk hU=>h.block k (bf hk) (λe=>by
  have e:=bW e;subst e;rw[hT]at hk;injection hk with hk
  injection hk with _ hk
  subst hk;rcases hU with hU|hU
  ·exact h1.1 hU
  ·exact h1.2 hU)
 exact⟨h.os.trans h0.os,h.tape.trans h0.tape,h.output.trans h0.output,bD h0.size h.size,λk hk hr=>(h.block k ae (λe=>by have:=bW e;omega)).trans (h0.low k hk hr),λk c U fz hk hU=>(u k c U fz ((h0.u8 k c U fz hk hU).trans hk) hU).trans (h0.u8 k c U fz hk hU),hn⟩
theorem Vr (hB:B<=w.heap.size) (h:w.grownBy w' (some g)) (hg:B<=g\/g=rb) (hT:w.heap[g]?=some (.cells cs T fr)) (h1:T≠5/\T≠9) (hn: ∀k<w.heap.size,qa w rb k->qa w' rb k):Fq B rb w w':=
 (wA hB (aI _ w)).new hB h hg hT h1 hn
structure Lv (w:World):Prop where
 turns:iy w
 arm:yo w
 pow:uv w
 max:Ee w
theorem Lv.below (h:Lv w) (hb:aD w w'):Lv w':=⟨h.turns.below hb,h.arm.below hb,h.pow.below hb,h.max.below hb⟩
def Ld (B:Nat) (w:World):Prop:= ∃w0,Lv w0/\w0.heap.size<=B/\B<=w.heap.size/\aD w0 w
theorem Ld.lv (h:Ld B w):Lv w:=by
 obtain⟨w0,h1,_,_,h2⟩:=h;exact h1.below h2
theorem Ld.below (h:Ld B w) (hb:aD w w'):Ld B w':=by
 obtain⟨w0,h1,h2,h3,h4⟩:=h;exact⟨w0,h1,h2,bD h3 hb.size,h4.trans (hb.mono h4.size)⟩
theorem Ld.gb (h:Ld B w) (hg:w.grownBy w' (some g)) (hB:B<=g):Ld B w':=by
 obtain⟨w0,h1,h2,h3,h4⟩:=h;exact⟨w0,h1,h2,bD h3 hg.size,h4.trans ⟨hg.os,hg.tape,hg.output,hg.size,λk hk=>hg.block k ae (λe=>by have:=bW e;omega)⟩⟩
def iT (w:World) (B rb:Nat):Option aW->Prop
 |none=>bj w rb #[.pointer none] 32
 |some S=> ∃wb y,bj w rb #[.pointer (aw wb)] 32/\Wm w B wb S y
def NS:Tl->Ending
 | .ok s=> .returned (.string s)
 | .er e=>ma e
def ov (B rb:Nat) (w:World) (r:aW×Tl) (e:Ending) (w':World):Prop:=e=NS r.2/\iT w' B rb (some r.1)/\Ld B w'/\Fq B rb w w'
theorem Wm.at_ {y:cQ} (h:Wm w B wb S y) (k:Nat) (u:Value) (hu:(ou S y)[k]?=some u):w.cell? ⟨wb,k,none⟩=some u/\w.frozen? ⟨wb,k,none⟩=false:=⟨aj h.blk k u hu,aU h.blk k⟩
structure Rm (w:World) (B rb wb:Nat) (S:aW) (y:cQ):Prop where
 rm:bj w rb #[.pointer (aw wb)] 32
 lt:rb<B
 wm:Wm w B wb S y
 ld:Ld B w
theorem Ld.le (h:Ld B w):B<=w.heap.size:=by
 obtain⟨_,_,_,h,_⟩:=h;exact h
theorem Rm.below {y:cQ} (h:Rm w B rb wb S y) (hb:aD w w'):Rm w' B rb wb S y:=⟨aJ h.rm hb,h.lt,h.wm.below hb,h.ld.below hb⟩
theorem Rm.at_ {y:cQ} (h:Rm w B rb wb S y):w.cell? ⟨rb,0,none⟩=some (.pointer (aw wb)):=aj h.rm 0 _ rfl
theorem Rm.wlt {y:cQ} (h:Rm w B rb wb S y):wb<w.heap.size:=bf h.wm.blk
theorem ad8 {y y':cQ} (h:Rm w B rb wb S y) (hb:aD w W) (hg:W.grownBy w' (some wb)) (hk:w'.heap[wb]?=some (.cells (ou S' y') 84 (0,0))) (hd:Dt w' B wb S' y') (hy:y'.bl=y.bl\/ ∀b o,y'.bl.A=some ⟨b,o,none⟩->w.heap.size<=b):
  iT w' B rb (some S')/\Ld B w'/\Fq B rb w w':=by
 have hW:=h.below hb;have aO:rb≠wb:=by have:=h.lt;have:=h.wm.lo;omega
 have hr:=dH hg hW.rm aO;exact⟨⟨wb,y',hr,h.wm.lo,hk,hd⟩,hW.ld.gb hg h.wm.lo,Fq.new (wA h.ld.le hb) hW.ld.le hg (.inl h.wm.lo) hW.wm.blk au λk vh hn=> .inr ⟨wb,S',y',hr,hk,λh0 o=>by
  rcases hy with hy|hy
  ·rw[hy]at h0⊢;exact hn.at_ h.rm h.wm.blk h0 o
  ·intro e;have:=hy _ _ e;omega⟩⟩
theorem GL {y:cQ} (h:Rm w B rb wb S y) (hb:aD w W):iT W B rb (some S)/\Ld B W/\Fq B rb w W:=
 ⟨⟨wb,y,(h.below hb).rm,(h.below hb).wm⟩,(h.below hb).ld,wA h.ld.le hb⟩
theorem gU (w:World) (b i j:Nat) (u v:Value):w.grownBy ((w.setCell ⟨b,i,none⟩ u).setCell ⟨b,j,none⟩ v) (some b):=mE (eE _ _ _ _) (eE _ _ _ _)
theorem au4 {W':World} (h:iT W B rb (some S)/\Ld B W/\Fq B rb w W) (hb:aD W W'):iT W' B rb (some S)/\Ld B W'/\Fq B rb w W':=by
 obtain⟨⟨wb,y,h1,h2⟩,h3,h4⟩:=h;exact⟨⟨wb,y,aJ h1 hb,h2.below hb⟩,h3.below hb,h4.trans (wA h3.le hb)⟩
def Ui (w:World) (r:ByteArray×Int) (e:Ending) (w':World):Prop:=(if r.2=0 then e= .returned (.string r.1) else e=ma r.2)/\aD w w'
theorem ad9 (seed:ag) (n:Int) (w:World) (hT:iy w) (hR:cX w) (hs:seed.size<=1000000000):
  Calls prog 46 #[.string seed,.int .i64 n] w (Ui w (jT seed n)):=by
 have HN:=aa (abW w.heap.size seed w (ahS hT hR) hs (aM _));have hL:=Nr seed;have hq:JP (jA seed.data.toList)=pR seed:=rfl;rw[hq]at HN;unfold jT;generalize pR seed=L at HN hL;clear hT hR hs hq;by_cases h1:n<0
 ·rw[if_pos h1];go_in;go_wp2_with fail;refine HN.mono ?_;rintro e w1 ⟨t,rfl,hwt,hi,aG⟩;have HB:=aa aG;clear hwt hi aG;go_wp2_with fail;refine (aqv t n w1 h1).mono ?_;rintro e w2 ⟨rfl,rfl⟩;go_wp2_with fail;refine (Ed _ 1 au _).mono ?_;rintro e w3 ⟨rfl,rfl⟩;exact⟨rfl,rfl,HB⟩
 rw[if_neg h1];by_cases h2:65536<n
 ·rw[if_pos h2];go_in;go_wp2_with fail;refine HN.mono ?_;rintro e w1 ⟨t,rfl,hwt,hi,aG⟩;have HB:=aa aG;have HI:=aa hi;clear hwt hi aG;go_wp2_with fail;refine (abS t L 0 n w1 HI (by rw[hL];omega)).mono ?_;rintro e w2 ⟨rfl,av⟩;have bq:=aX HB av;clear av;go_wp2_with fail;refine (Ed _ 120 au _).mono ?_;rintro e w3 ⟨rfl,rfl⟩;exact⟨rfl,rfl,bq⟩
 rw[if_neg h2];obtain⟨m,rfl⟩:=Int.eq_ofNat_of_zero_le (show 0<=n by omega);have FC:=aa (λt W h=>aqu (B0:=w.heap.size) t L 0 m W h (by rw[hL];omega));clear h1 h2;go_in;go_wp2_with fail;refine HN.mono ?_;rintro e w1 ⟨t,rfl,hwt,hi,aG⟩;have HB:=aa aG;have HI:=aa hi;have HW:=aa hwt;clear hwt hi aG;go_wp2_with fail;refine (FC t w1 HI).mono ?_;rintro e w2 ⟨rfl,sA,fE⟩;have bq:=aa (HB.grown fE HB.size (λk e=>by cases e;exact HW.out));clear sA fE;go_wp2_with fail;refine (GG _ _).mono ?_;rintro e w3 ⟨rfl,rfl⟩;go_wp2;go_ret;exact⟨rfl,bq⟩
theorem ad' (n:Int) (w:World) (hP:uv w) (h0: -9223372036854775808<=n) (h1:n<=9223372036854775807):
  Calls prog 64 #[.int .i64 n] w (bF w (.string (Gz++fc n))):=by
 have HI:=aa (Kc n w hP h0 h1);have hz:=NM n h0 h1;generalize fc n=s at HI hz⊢;exact agL
theorem au5 {l:List Int} {p:Int->Bool} (hk:k<l.length):(l.take (k+1)).filter p=(l.take k).filter p++(if p (l.getD k 0)=true then [l.getD k 0] else []):=by
 rw[List.take_succ_eq_append_getElem hk,List.filter_append,show l.getD k 0=l[k] by simp[hk]];congr 1;by_cases h:p l[k]=true
 ·simp[h]
 ·simp[h]
theorem U6 (h:P:=by
 go_in;go_wp2_with fail;refine (tz _ HR).mono ?_;rintro e w1 ⟨rfl,rfl⟩;go_wp2;go_ret2;exact⟨rfl,rfl⟩):P:=h
theorem au6 (A:aN) (n c:Nat) (l:List Int) (a:Int) (w:World) (hr:Rd w A (ints l)) (hn:n=l.length) (hl:n<=1000000) (hh:rU l=false\/a<1\/(l.length:Int)<a):
  Calls prog 76 #[.slice A n c,.int .i64 a] w (eu w (.tuple #[.int .i64 0,.int .i64 1])):=by
 have tz:=aa (λW h=>T1 A n c l W h hn hl);have HR:=aa hr;rw[<-hn]at hh;cases hq:rU l with
 |false=>
  rw[hq]at tz;clear hq hr hn hh;exact U6
 |true=>
 rw[hq]at tz hh;have hh:a<1\/(n:Int)<a:=by simpa using hh
 clear hq hr hn;by_cases h1:a<1
 ·have d1:decide (a<1)=true:=decide_eq_true h1;clear hh;exact U6
 ·have h2:(n:Int)<a:=ae;have d1:decide (a<1)=false:=decide_eq_false h1;have d2:decide (a>(n:Int))=true:=decide_eq_true h2;clear hh;exact U6
theorem au7 (A:aN) (n c:Nat) (l:List Int) (a:Int) (w:World) (hr:Rd w A (ints l)) (hn:n=l.length) (hl:n<=1000000):
  Calls prog 76 #[.slice A n c,.int .i64 a] w (bF w (.tuple #[.int .i64 (oq l a).1,.int .i64 (oq l a).2])):=by
 by_cases hh:rU l=false\/a<1\/(l.length:Int)<a
 ·have hK:oq l a=(0,1):=by unfold oq;rw[if_pos hh]
  rw[hK];exact (au6 A n c l a w hr hn hl hh).mono λe w' ⟨h1,h2⟩=>⟨h1,h2▸aI _ _⟩
 have hK:oq l a=((NF l a).foldl max 0,0):=by unfold oq;rw[if_neg hh]
 rw[hK];have tz:=aa (λW h=>T1 A n c l W h hn hl);have HC:=aa (λy b0 W h h0=>aub A n c l y b0 W h hn hl h0);have HR:=aa hr;have HN:=aa hn;have hq:rU l=true:=by
  cases h:rU l with
  |true=>rfl
  |false=>exact absurd (.inl h) hh
 rw[hq]at tz;have h1: ¬a<1:=λh=>hh (.inr (.inl h));have h2: ¬(n:Int)<a:=λh=>hh (.inr (.inr (by rw[<-hn];exact h)));have d1:decide (a<1)=false:=decide_eq_false h1;have d2:decide (a>(n:Int))=false:=decide_eq_false h2;obtain⟨p,hp⟩: ∃p:Int->Bool,p=λg=>decide (a<=((l.countP λx=>decide (g<=x):Nat):Int)):=⟨_,rfl⟩
 have Pi: ∀y,p y=decide (a<=((l.countP (λx=>decide (x>=y)):Nat):Int)):=λy=>by rw[hp]
 have yY:NF l a=l.filter p:=by unfold NF;rw[hp]
 rw[yY];have HPy:=aa Pi;clear hr hn hh hK hq hp Pi yY h1 h2;go_in;go_wp2_with fail;refine (tz _ HR).mono ?_;rintro e w1 ⟨rfl,rfl⟩;go_wp2_with fail;go_loopw [6,24] (λv x wr=> ∃(k q ai:Nat) (B:aN),k<=n/\x= .int .i64 (k:Nat)/\q=((l.take k).filter p).length/\v= .slice B q ai/\wr.ownsRow w1.heap.size 3 1 v q (ints ((l.take k).filter p))/\aD w1 wr) (λ_ x _=>n -(intOf x).toNat);case atStart=>exact⟨0,0,0,none,ae,rfl,rfl,rfl,⟨rfl,.inl ⟨rfl,rfl⟩⟩,aI _ _⟩
 case round=>
  obtain⟨k,q,ai,B,hk,rfl,hq,rfl,ho,hW⟩:=hrel;have HO:=aa ho;have HW:=aa hW;have HQ:=aa hq;by_cases aK:k<n
  ·have cY:k<l.length:=by rw[<-HN.out];exact aK
   have e1:(k:Int)<(n:Int):=ae;obtain⟨b,aS,hA,hc⟩:=(HR.below hW).int_at cY;have Hf:=aa (au5 (p:=p) cY);have zE:q<=k:=by
    rw[hq];have:=List.length_filter_le p (l.take k);simp only[List.length_take]at this;omega
   generalize (l.take k).filter p=rs at HO Hf HQ;generalize l.getD k 0=y at hc Hf;subst hA;have X7:=aa (be wr (.cells #[.int .i64 y] 3));have HX:=aa (aR wr (.cells #[.int .i64 y] 3));have lg:=aa ((HR.below hW).below X7);have dl:=aa (HO.alloc (.cells #[.int .i64 y] 3));have dV:=aa (HW.alloc HW.size (.cells #[.int .i64 y] 3));have x0:=aj HX 0 _ rfl;clear ho hW hq;go_wp2_with fail;refine (HC y wr.heap.size _ lg ((cell_of_row _ _ 0 _ _ (0,0) HX).trans rfl)).mono ?_;rintro e w2 ⟨rfl,rfl⟩;have WG:=aa (HPy y);generalize l.countP (λx=>decide (x>=y))=cn at WG;by_cases jy:a<=(cn:Int)
   ·have d3:decide ((cn:Int)>=a)=true:=decide_eq_true jy;have FH:=aa (show (l.take (k+1)).filter p=rs++ [y] by rw[Hf.out,WG.out,decide_eq_true jy];rfl);go_wp2_with (at_builtin;refine oS ah (.tmp 33) (.tmp 35) 55 ah w1.heap.size 3 (.int .i64 0) 1 8 underlying55 rD rfl ae _ _ _ _ _ _ ah dl _ 1 1 ah ak ah ah ae ae ae (by exact dV.size) ?_);intro g2 eM w3 ri aL _ _ _;have gX:=aa ri;have iK:=aa (dV.trans aL);clear ri aL;go_wp2;go_roundw;case rel=>
     refine⟨k+1,q+1,eM,some ⟨g2,0,none⟩,ae,by go_num,by rw[FH.out];simp[HQ.out],rfl,?_,iK⟩;rw[FH.out,show ints (rs++ [y])=ints rs++ [.int .i64 y] by simp[ints]];exact gX.out
    case measure=>exact cM
   ·have d3:decide ((cn:Int)>=a)=false:=decide_eq_false jy;have FH:=aa (show (l.take (k+1)).filter p=rs by rw[Hf.out,WG.out,decide_eq_false jy];simp);go_wp2;go_roundw;case rel=>exact⟨k+1,q,ai,B,ae,by go_num,by rw[FH.out];exact HQ.out,rfl,by rw[FH.out];exact dl.out,dV⟩
    case measure=>exact cM
  ·obtain rfl:k=n:=ae;have e1: ¬(k:Int)<(k:Int):=ae;have hT:l.take k=l:=by rw[HN.out];exact List.take_of_length_le (aM _)
   rw[hT]at HO HQ;have zE:q<=1000000:=by
    have:=HQ.out;have h3:=List.length_filter_le p l;have:=HN.out;omega
   have zD:=aa (aue B q ai (l.filter p) wr (NN HO) HQ zE);clear hT ho hW hq;go_wp2_with fail;refine zD.mono ?_;rintro e w2 ⟨rfl,rfl⟩;go_wp2;go_ret2;exact⟨rfl,HW⟩
end
section
variable {P:az}
def gl (P:az):Prop:=P.ss.length<=1000000/\P.cs.length<=1000000/\P.ss.length≠1
theorem mJ:gl bI:=⟨Nat.zero_le _,Nat.zero_le _,au⟩
def NU (f:az->az×Int):Prop:= ∀P,gl P->gl (f P).1
theorem Uk (a:Int) (s:ag):NU (i' a s):=λP h=>by
 unfold i';split
 ·exact mJ
 ·split
  ·exact mJ
  ·split
   ·exact mJ
   ·split
    ·exact mJ
    ·exact⟨h.1,by simp only[dx,List.length_cons,List.length_nil];omega,h.2.2⟩
theorem Em (f:Nat->Int):NU (uk f):=λP h=>by
 unfold uk;split
 ·exact mJ
 ·exact⟨by simp only[Nb];exact h.1,Nat.zero_le _,by simp only[Nb];exact h.2.2⟩
theorem Ul: ∀(l:List (az->az×Int)) (P:az),(∀f∈l,NU f)->gl P->gl (fa l P).1
 | [],P,_,h=>h
 |f::l,P,hl,h=>by
  rw[fa];split
  ·exact mJ
  ·exact Ul l _ (λg hg=>hl g (Vu _ hg)) (hl f (Vs ..) P h)
theorem Ke (P:az) (a:Int) (s:ag) (d:Int) (h:gl P):gl (eC P a s d).1:=by
 unfold eC;split
 ·exact mJ
 ·unfold vL;split
  ·exact mJ
  ·refine Ul _ P (λf hf=>?_) h;have hf:=List.mem_of_mem_take hf;simp only[pQ,List.mem_cons,List.not_mem_nil,or_false]at hf;rcases hf with rfl|rfl|rfl|rfl
   ·exact Uk _ _
   ·exact Em _
   ·exact Uk _ _
   ·exact Em _
theorem aea: ∀(l:List (Int×ByteArray)) (P:az) (d:Int),gl P->gl (qK l P d).1
 | [],P,_,h=>h
 |(a,s)::l,P,d,h=>by
  rw[qK];split
  ·exact mJ
  ·split
   ·exact aea l _ _ (Ke P a s _ h)
   ·exact Ke P a s _ h
theorem GM (P:az) (d:Int) (l:List (Int×ByteArray)) (h:gl P):gl (eq P d l).1:=aea l P _ h
theorem aeb (P:az) (e x:Int) (b s:ag) (d:Int) (h:gl P):gl (nZ P e x b s d).1:=by
 unfold nZ;repeat' split
 all_goals first|exact mJ|exact GM _ _ _ h
theorem Um (P:az) (e d:Int) (h:gl P):gl (fI P e d).1:=by
 unfold fI;repeat' split
 all_goals first|exact mJ|exact GM _ _ _ h
theorem au' (P:az) (c:ag) (d:Int) (h:gl P):gl (kH P c d).p:=by
 unfold kH;split
 ·exact mJ
 ·split
  ·exact mJ
  ·split
   ·exact mJ
   ·have h1:=GM P d [(0,eD {(dr P).1 with tries:=(dr P).1.tries+1})] h;simp only;repeat' split
    all_goals first|exact h1|exact GM _ _ _ h1
def kt (l:List az):Prop:= ∀P∈l,gl P
theorem NV:kt []:=λP h=>by cases h
theorem Un {l:List az} (h:kt l) (i:Nat) (hP:gl P):kt (l.set i P):=λQ hQ=>by
 rcases List.mem_or_eq_of_mem_set hQ with h1|h1
 ·exact h Q h1
 ·exact h1▸hP
theorem aec {l:List az} (h:kt l) (i:Nat):gl (l.getD i bI):=by
 rw[dh];cases hq:l[i]? with
 |none=>exact mJ
 |some P=>exact h P (List.mem_of_getElem? hq)
theorem Uo {l:List az} (h:kt l) {f:az->az×Int} (hf:NU f):kt (l.map λP=>(f P).1):=λQ hQ=>by
 obtain⟨P,hP,rfl⟩:=List.mem_map.1 hQ;exact hf P (h P hP)
theorem Kf {f:Nat->az->Int->az×Int} (hf: ∀i P d,gl P->gl (f i P d).1) (gW:Int) (l:List az) (d:Int) (h:kt l): ∀k,kt (dz f gW l d k).1/\(dz f gW l d k).1.length=l.length
 |0=>⟨h,rfl⟩
 |k+1=>by
  obtain⟨h1,h2⟩:=Kf hf gW l d h k;rw[dz];split
  ·exact⟨h1,h2⟩
  ·have h3:=hf k _ (min (dz f gW l d k).2.1 gW) (aec h1 k);split
   ·exact⟨Un h1 k h3,by simp only[List.length_set];exact h2⟩
   ·split
    ·exact⟨Un h1 k h3,by simp only[List.length_set];exact h2⟩
    ·exact⟨h1,h2⟩
theorem NW (D:eZ) (l:List az) (d:Int) (h:kt l):kt (ij D l d).1/\(ij D l d).1.length<=l.length:=by
 unfold ij;split
 ·unfold rR;have h1:=Kf (f:=lC (ig D)) (λi P d hP=>aeb P _ _ _ _ _ hP) 4 l (oh l.length d) h l.length;have h2:=Kf (f:=rQ (ig D)) (λi P d hP=>Um P _ _ hP) 16 _ (dz (lC (ig D)) 4 l (oh l.length d) l.length).2.1 h1.1 l.length;simp only;repeat' split
  all_goals first|exact⟨NV,Nat.zero_le _⟩|exact⟨h1.1,by rw[h1.2];exact aM _⟩|exact⟨h2.1,by rw[h2.2,h1.2];exact aM _⟩
 ·exact⟨NV,Nat.zero_le _⟩
theorem ava (l:List az) (e:Int) (h:kt l):kt (l9 l e).1/\(l9 l e).1.length<=l.length:=by
 unfold l9;repeat' split
 all_goals first|exact⟨NV,Nat.zero_le _⟩|exact⟨h,aM _⟩|exact⟨Uo h (f:=λP=>fI P e (-1)) (λP hP=>Um P e (-1) hP),ak⟩
theorem avb (l:List az) (e:Int) (h:kt l):kt (me l e).1/\(me l e).1.length<=l.length:=by
 unfold me;split
 ·exact⟨NV,Nat.zero_le _⟩
 ·have:=ava (l.map λP=>(eW [] P).1) e (Uo h (f:=eW []) (Em _));rwa [kQ]at this
theorem aed (P:az) (V:dW) (d:Int) (h:gl P):gl (iB P V d).1:=by
 unfold iB;repeat' split
 all_goals first|exact mJ|skip
 unfold D6;have hr:gl (fa ((sZ V (cR P).1.n (cR P).1.area).take (yj (cR P).1.n d)) P).1:=by
  refine Ul _ P (λf hf=>?_) h;have hf:=List.mem_of_mem_take hf;unfold sZ Gt at hf;rcases List.mem_append.1 hf with h1|h1
  ·obtain⟨i,_,rfl⟩:=List.mem_map.1 h1;exact Uk _ _
  ·rw[List.mem_singleton.1 h1];exact Em _
 split
 ·exact mJ
 ·split
  ·exact hr
  ·exact Ke _ _ _ _ hr
theorem Kg (n:Nat) (h:n<=1000000) (h1:n≠1):gl (gD n):=⟨by simp[gD];exact h,Nat.zero_le _,by simp[gD];exact h1⟩
theorem NX (P:az):(cR P).1.V.bl.length<=1000000:=by
 by_cases h:(cR P).2=0
 ·have hv:=TH h;rw[hv.blen];have:=(yh hv.cnt).2;omega
 ·rw[Ug h];decide
structure Gd (S:aW):Prop where
 ds:kt S.ds
 dn:S.ds.length=S.ns.length
 ns:S.ns.length<=10000
 e0:0<=S.r.e
 e1:S.r.e<=1000000
 ms:S.ms.size<=1000000
 ch:gl S.ch
 bl:S.v.bl.length<=1000000
 sp:gl S.sp
 pt:S.pt=0
 an:S.an.length<=1000000
 nq:S.ns≠ [bo]
 rn:S.r.ns≠ [bo]
 rp:S.r.ps≠ [bo]
theorem Up {seed:ag} {ns:List ag} {k e:Int} (h:kJ seed ns k e=0):0<=(du seed ns k e).r.e/\(du seed ns k e).r.e<=1000000/\ns.length<=16/\ns≠ [bo]/\(du seed ns k e).r.ns≠ [bo]/\(du seed ns k e).r.ps≠ [bo]:=by
 have hc:mD seed ns k e=true:=by
  exact Vf
 have hd:du seed ns k e=yd (pR seed) ns (k - 1).toNat e:=by rw[du,if_pos hc]
 unfold mD at hc;rw[Bool.and_eq_true,Bool.and_eq_true]at hc;have h3:=hc.2;rw[<-hd]at h3;have hn:(du seed ns k e).r.ns=ns:=by rw[hd];rfl
 unfold fX DG at h3;simp only[Bool.and_eq_true,decide_eq_true_eq,List.all_eq_true]at h3;have h4:=h3.2 0 (List.mem_range.2 ae);unfold rF zV at h4;simp only[Bool.and_eq_true,decide_eq_true_eq]at h4;have h5:(du seed ns k e).r.ns≠ [bo]:=λe=>by
  have:=h4.1.1.1.1;rw[e]at this;exact absurd this au
 exact⟨ae,ae,(J3 hc.1.1).1,hn▸h5,h5,λe=>by
  have:=h4.1.2;rw[e]at this;exact absurd this au⟩
theorem aee (h:gl P) (a b c:Int):gl (fN P a b c).2.2.2.1:=by
 unfold fN;repeat' split
 all_goals first|exact mJ|exact h|exact Ke _ _ _ _ h
theorem Kh {S:aW} (h:Gd S):Gd (dX S).1:=by
 unfold dX;split
 ·exact h
 ·exact {h with sp:=aee h.sp _ _ _}
theorem avc (l:List ag) (k:Int):(Ec l k).size<=1000000:=by
 unfold Ec;split
 ·rw[ei];simp[nj]
 ·exact Nat.zero_le _
theorem avd (key nonce s:ag) (n:Int):(gQ key nonce s n).size<=s.size:=by
 unfold gQ;split
 ·rw[ei,F8,bP];exact aM _
 ·exact Nat.zero_le _
theorem ave (key nonce b s:ag):(jO key nonce b s).size<=s.size:=by
 unfold jO;split
 ·refine bD (avd _ _ _ _) ?_;unfold lW;exact OS
 ·exact Nat.zero_le _
theorem aef (v:dW) (key:ag) (i:Int):(un v key i).size<=1000:=by
 unfold un;split
 ·exact Nat.zero_le _
 ·rename_i hf;have hc:ks v=true:=(TE (Decidable.not_not.1 hf)).1;have hb:(v.bl.getD i.toNat eR).size<=92:=by
   rw[dh];cases hq:v.bl[i.toNat]? with
   |none=>exact Nat.zero_le _
   |some b=>exact (D5 hc).2.2 b (List.mem_of_getElem? hq)
  unfold pm;exact ahH
end
variable {A D:aN} {B b g i j k m n o rb wb:Nat} {P:Prop} {S S':aW} {V:dW} {W W' w w':World} {a u x z:Value} {a1 b1 c1 lm nx pt:Int} {p q r s t:Addr} {y y' y0:cQ}
theorem avf (B rb wb:Nat) (S:aW) (y:cQ) (A C:aN) (n c m d:Nat) (w:World) (h:Rm w B rb wb S y):
  Calls prog 19 #[.pointer (aw rb),.agg #[.slice A n c,.slice C m d]] w (ov B rb w (jq S,.ok gT)):=by
 have hb:=be w (.cells #[.slice A n c,.slice C m d] 57);have HR:=aa h;have HB:=aa hb;have H1:=aa (h.below hb);have r0:=(h.below hb).at_;clear h hb;go_in;go_wp2_with fail;have ir:=H1.wm.at_ 17 (.bool S.op) rfl;have W6:=H1.wm.at_ 18 (.string S.ms) rfl;refine (adw wb _ _ _ ir.1 W6.1 ir.2 W6.2).mono ?_;rintro e w1 ⟨rfl,rfl⟩;have hk:=bt (bt H1.wm.blk 18 (.string ⟨#[]⟩)) 17 (.bool false);have hg:=gU (w.alloc (.cells #[.slice A n c,.slice C m d] 57)) wb 18 17 (.string ⟨#[]⟩) (.bool false);have hd:Dt _ B wb (jq S) y:=(H1.wm.dt.gb H1.wm.blk hg).to rfl rfl rfl rfl rfl rfl rfl;have HE:=aa (ad8 (S':=jq S) HR HB hg hk hd (.inl rfl));clear hk hg hd ir W6;go_wp2;go_ret;exact⟨rfl,HE⟩
theorem avg (B rb wb:Nat) (S:aW) (y:cQ) (A C:aN) (n c m d:Nat) (w:World) (h:Rm w B rb wb S y) (hS:Gd S):
  Calls prog 30 #[.pointer (aw rb),.agg #[.slice A n c,.slice C m d]] w (ov B rb w (GE S)):=by
 have hb:=be w (.cells #[.slice A n c,.slice C m d] 57);have HR:=aa h;have HB:=aa hb;have H1:=aa (h.below hb);have CH:=hS.e0;have uT:=hS.e1;have r0:=(h.below hb).at_;have w2:=((h.below hb).wm.at_ 2 (.int .i64 S.r.e) rfl).1;have ir:=((h.below hb).wm.at_ 17 (.bool S.op) rfl).1;have hz:=NM S.r.e ae ae;have HI:=aa (λW hp=>Kc S.r.e W hp ae ae);have HQ:=aa (show GE S=(S,.ok (fc S.r.e++if S.op=true then TY else adv)) from rfl);clear h hb hS CH uT;generalize fc S.r.e=t at HI hz HQ;obtain⟨op,je⟩: ∃op,op=S.op:=⟨_,rfl⟩
 rw[<-je]at ir HQ;go_in;go_wp2_with fail;refine (HI _ H1.ld.lv.pow).mono ?_;rintro e w1 ⟨rfl,aG⟩;have cu:=aa (bg HB aG);have q0:=(HR.below cu).at_;have q17:=((HR.below cu).wm.at_ 17 (.bool S.op) rfl).1;rw[<-je]at q17;clear aG r0 w2 ir je;cases op with
 |true=>
  go_wp2;go_ret;rw[HQ.out];exact⟨rfl,GL HR cu⟩
 |false=>
  go_wp2;go_ret;rw[HQ.out];exact⟨rfl,GL HR cu⟩
theorem aeg (P:az):(cR P).1.gen<=1000000000:=by
 by_cases h:(cR P).2=0
 ·have hv:=(TH h).hb;unfold pV at hv;simp only[Bool.and_eq_true,decide_eq_true_eq]at hv;omega
 ·rw[Ug h];decide
theorem avh (B rb wb:Nat) (S:aW) (y:cQ) (A C:aN) (n c m d:Nat) (w:World) (h:Rm w B rb wb S y) (hS:Gd S):
  Calls prog 23 #[.pointer (aw rb),.agg #[.slice A n c,.slice C m d]] w (ov B rb w (GA S)):=by
 have hb:=be w (.cells #[.slice A n c,.slice C m d] 57);have HR:=aa h;have HB:=aa hb;have H1:=aa (h.below hb);have r0:=(h.below hb).at_;have w7:=((h.below hb).wm.at_ 7 (.slice y.ca.A y.ca.n y.ca.c) rfl).1;have w8:=((h.below hb).wm.at_ 8 (.slice y.cb.A y.cb.n y.cb.c) rfl).1;have HL:=aa (λW hW hR=>Uh (.agg #[.slice y.ca.A y.ca.n y.ca.c,.slice y.cb.A y.cb.n y.cb.c]) S.ch W ⟨_,_,_,_,_,_,rfl,hW⟩ (by have:=hS.ch.1;unfold maxLen;omega) hR);have hG:=aeg S.ch;have HQ:=aa (show GA S=if (cR S.ch).2≠0 then (S,.er (cR S.ch).2) else ({S with v:=(cR S.ch).1.V},.ok (Gz++fc ((cR S.ch).1.gen:Nat))) from rfl);generalize cR S.ch=r at HL hG HQ;obtain⟨⟨rn,rg,ra,⟨bl,rt⟩⟩,re⟩:=r;simp only at HL hG HQ;have sq:=h.wlt;clear h hb hS;go_in;go_wp2_with fail;refine (HL _ H1.wm.dt.ch H1.ld.lv.arm.rounds).mono ?_;rintro e w1 ⟨A1,c1,rfl,⟨dw,C3⟩,aG⟩;simp only at dw⊢;have av:=be w1 (.cells #[.slice A1 bl.length c1,.string rt] 80);have cu:=aa (bg HB (bg aG av));have HV:=aa (dw.below av);have HF:=aa C3;have H2:=aa (HR.below cu);have jJ:=aG.size;rw[World.size_alloc]at jJ;clear dw C3 aG av r0 w7 w8;by_cases he:re=0;case neg=>
  rw[if_pos he]at HQ;go_wp2_with fail;refine (AH re he _).mono ?_;rintro e w2 ⟨rfl,rfl⟩;rw[HQ.out];exact⟨rfl,rfl,GL HR cu⟩
 subst he;rw[if_neg au]at HQ;have w9:=H2.wm.at_ 9 (.slice y.bl.A y.bl.n y.bl.c) rfl;have Df:=H2.wm.at_ 10 (.string S.v.rt) rfl;obtain⟨w9,f9⟩:=w9;obtain⟨Df,f10⟩:=Df;go_wp2_with fail;refine (rV _).mono ?_;rintro e w2 ⟨rfl,rfl⟩;go_wp2_with fail;generalize hu:w1.alloc (.cells #[.slice A1 bl.length c1,.string rt] 80)=u at*;have hk:=bt (bt H2.wm.blk 9 (.slice A1 bl.length c1)) 10 (.string rt);have hg:=gU u wb 9 10 (.slice A1 bl.length c1) (.string rt);have hd:=H2.wm.dt.gb H2.wm.blk hg;have ho:eF ((u.setCell ⟨wb,9,none⟩ (.slice A1 bl.length c1)).setCell ⟨wb,10,none⟩ (.string rt)) wb ⟨A1,bl.length,c1⟩ (aZ bl) bl.length:=
  eF.gb (w:=u) ⟨HV,rfl,λb o e=>by have:=HF.out b o e;rw[World.size_alloc]at this;omega⟩ hg
 obtain⟨u2,EQ⟩: ∃u2,u2=(u.setCell ⟨wb,9,none⟩ (.slice A1 bl.length c1)).setCell ⟨wb,10,none⟩ (.string rt):=⟨_,rfl⟩
 rw[<-EQ]at hk hg hd ho⊢;have HE:=aa (ad8 (S':= {S with v:=⟨bl,rt⟩}) (y':= {y with bl:=⟨A1,bl.length,c1⟩}) HR cu hg hk ⟨hd.nm,hd.dk,hd.pl,hd.rn,hd.rq,hd.ch,ho,hd.sp,hd.an⟩ (.inr λb o e=>by have h1:=HF.out b o e;have h2:=HB.size;omega));clear hk hg hd ho EQ hu;refine (ad' (rg:Nat) _ HE.2.1.lv.pow ae ae).mono ?_;rintro e w3 ⟨rfl,aL⟩;have Yp:=aa (au4 HE aL);clear aL;go_wp2;go_ret;rw[HQ.out];exact⟨rfl,Yp⟩
theorem jW {v y:Value} (h:W.cell? p=some u/\W.cell? q=some v/\W.cell? r=some x/\W.cell? s=some y/\W.cell? t=some z) (hb:aD W W'):
  W'.cell? p=some u/\W'.cell? q=some v/\W'.cell? r=some x/\W'.cell? s=some y/\W'.cell? t=some z:=
 ⟨(hb.cell (cU h.1)).trans h.1,(hb.cell (cU h.2.1)).trans h.2.1,(hb.cell (cU h.2.2.1)).trans h.2.2.1,(hb.cell (cU h.2.2.2.1)).trans h.2.2.2.1,(hb.cell (cU h.2.2.2.2)).trans h.2.2.2.2⟩
theorem vY (w:World) (A C:aN) (n c m d:Nat):(w.alloc (.cells #[.slice A n c,.slice C m d] 57)).cell? ⟨w.heap.size,0,none⟩=some (.slice A n c)/\(w.alloc (.cells #[.slice A n c,.slice C m d] 57)).cell? ⟨w.heap.size,1,none⟩=some (.slice C m d):=
 ⟨(aV (aR w _)).1,(aV (aR w _)).2.1⟩
theorem avl (B rb wb:Nat) (S:aW) (y:cQ) (A C:aN) (n c m d:Nat) (ms:List Int) (w:World) (h:Rm w B rb wb S y) (hS:Gd S) (hm:Rd w C (ints ms)) (mO:m=ms.length) (h1:1<=ms.length):
  Calls prog 20 #[.pointer (aw rb),.agg #[.slice A n c,.slice C m d]] w (ov B rb w (nz S (ix ms 0))):=by
 have hb:=be w (.cells #[.slice A n c,.slice C m d] 57);obtain⟨cb,co,rfl,hc⟩:=(hm.below hb).int_at h1;have hx:ms.getD 0 0=ix ms 0:=rfl;rw[hx,Nat.add_zero]at hc;generalize ix ms 0=i at hc;have HR:=aa h;have HB:=aa hb;have H1:=aa (h.below hb);have r0:=(h.below hb).at_;have ir:=((h.below hb).wm.at_ 17 (.bool S.op) rfl).1;have l0:=vY w A (some ⟨cb,co,none⟩) n c m d;have e0:0<m:=ae;have K0:_/\_/\_/\_/\_:=⟨((h.below hb).wm.at_ 9 (.slice y.bl.A y.bl.n y.bl.c) rfl).1,((h.below hb).wm.at_ 10 (.string S.v.rt) rfl).1,((h.below hb).wm.at_ 18 (.string S.ms) rfl).1,l0.2,hc⟩
 have HV:=aa (λW hv hR hT=>auM (.agg #[.slice y.bl.A y.bl.n y.bl.c,.string S.v.rt]) S.v S.ms i W ⟨y.bl.A,y.bl.n,y.bl.c,rfl,hv⟩ (by have:=hS.ms;unfold maxLen;omega) hR hT);have HQ:=aa (show nz S i=if S.op=false then (S,.er 212) else if um S.v S.ms i≠0 then (S,.er (um S.v S.ms i:Nat)) else (S,.ok (AF++un S.v S.ms i)) from rfl);have hz:(un S.v S.ms i).size<=1000:=aef S.v S.ms i;generalize um S.v S.ms i=re at HV HQ;generalize un S.v S.ms i=t at HV HQ hz;have z5: ¬9223372036854775807<5+t.size:=ae;obtain⟨op,je⟩: ∃op,op=S.op:=⟨_,rfl⟩
 rw[<-je]at ir HQ;clear h hb hS hm hc hx je mO h1 l0;cases op with
 |false=>
  rw[if_pos rfl]at HQ;go_in;go_wp2_with fail;refine (adx rb wb _ r0 ir).mono ?_;rintro e w1 ⟨rfl,rfl⟩;rw[HQ.out];exact⟨rfl,rfl,GL HR HB⟩
 |true=>
  rw[if_neg au]at HQ;go_in;go_wp2_with fail;refine (Kb rb wb _ r0 ir).mono ?_;rintro e w1 ⟨rfl,rfl⟩;go_wp2_with fail;refine jr (S:=λW=>W.cell? ⟨wb,9,none⟩=some (.slice y.bl.A y.bl.n y.bl.c)/\W.cell? ⟨wb,10,none⟩=some (.string S.v.rt)/\W.cell? ⟨wb,18,none⟩=some (.string S.ms)/\W.cell? ⟨w.heap.size,1,none⟩=some (.slice (some ⟨cb,co,none⟩) m d)/\W.cell? ⟨cb,co,none⟩=some (.int .i64 i)) 17 ax (jW K0 ya3) (λhS=>?_);have HD:=aa (H1.below ya3);have dM:=aa (HB.drew);generalize (w.alloc (.cells #[.slice A n c,.slice (some ⟨cb,co,none⟩) m d] 57)).drew=W0 at hS HD dM⊢;clear K0 r0 ir;refine kV 0 rfl hS ya1 ?_;refine kV 1 rfl hS ya1 ?_;refine kV 2 rfl hS ya1 ?_;refine kV 3 rfl hS ya1 ?_;refine kV 4 rfl hS ya1 ?_;refine kV 5 rfl hS ya1 ?_;refine kV 6 rfl hS ya1 ?_;refine kV 7 rfl hS ya1 ?_;refine kV 8 rfl hS ya1 ?_;refine kV 9 rfl hS ya1 ?_;refine kV 10 rfl hS ya1 ?_;refine kV 11 rfl hS ya1 ?_;refine kR 12 λK hK=>?_;go_simp;refine Calls.mono (by exact HV.out _ ⟨HD.wm.dt.bl.1,HD.wm.dt.bl.2.1⟩ HD.ld.lv.arm.rounds HD.ld.lv.turns) ?_;rintro _ w4 ⟨rfl,aP⟩;go_simp;replace dM:=aX dM aP;refine hK.out _ _ (jW hS aP) (λhS=>?_);clear hK K;try go_frame
  refine kV 13 rfl hS ya1 ?_;refine kV 14 rfl hS ya1 ?_;refine kR 15 λK hK=>?_;go_simp;by_cases he:re=0;case neg=>
   rw[if_pos he]at HQ;refine Calls.mono (by exact Ed _ _ ae _) ?_;rintro _ w5 ⟨rfl,rfl⟩;rw[HQ.out];exact⟨rfl,rfl,GL HR dM⟩
  subst he;rw[if_neg au]at HQ;refine Calls.mono (by exact GG _ _) ?_;rintro _ w5 ⟨rfl,rfl⟩;go_simp;refine hK.out _ _ hS (λhS=>?_);clear hK K;try go_frame
  refine kV 16 rfl hS ya1 ?_;refine kL λK hK=>?_;go_simp;refine hK.out _ _ ?_;clear hK K;go_wp2;go_ret;rw[HQ.out];exact⟨rfl,GL HR dM⟩
theorem Rm.end_ (h:Rm W B rb wb S y) (hf:Fq B rb w W):iT W B rb (some S)/\Ld B W/\Fq B rb w W:=⟨⟨wb,y,h.rm,h.wm⟩,h.ld,hf⟩
theorem Rm.fq (h:Rm w B rb wb S y) (hb:aD w W):Fq B rb w W:=wA h.ld.le hb
theorem Rm.er (h:Rm W B rb wb S y) (hf:Fq B rb w W) {r:aW×Tl} {x:Int} (hr:r=(S,.er x)):ov B rb w r (ma x) W:=hr▸⟨rfl,h.end_ hf⟩
theorem Rm.ok_ (h:Rm W B rb wb S y) (hf:Fq B rb w W) {r:aW×Tl} {s:ag} (hr:r=(S,.ok s)):ov B rb w r (.returned (.string s)) W:=hr▸⟨rfl,h.end_ hf⟩
theorem Rm.put (h:Rm W B rb wb S y) (hg:W.grownBy W' (some wb)) (hk:W'.heap[wb]?=some (.cells (ou S' y') 84 (0,0))) (hd:Dt W' B wb S y->Dt W' B wb S' y') (hy:y'.bl=y.bl:=by rfl):Rm W' B rb wb S' y'/\Fq B rb W W':=
 have hr:=dH hg h.rm (by have:=h.lt;have:=h.wm.lo;omega)
 ⟨⟨hr,h.lt,⟨h.wm.lo,hk,hd (h.wm.dt.gb h.wm.blk hg)⟩,h.ld.gb hg h.wm.lo⟩,Vr h.ld.le hg (.inl h.wm.lo) h.wm.blk au λk _ hn=> .inr ⟨wb,S',y',hr,hk,hy▸hn.at_ h.rm h.wm.blk⟩⟩
theorem Ur (h:Rm W B rb wb S y) {c d:Nat} {P:az} (hp:PB W A n D m P):
  Rm ((W.setCell ⟨wb,7,none⟩ (.slice A n c)).setCell ⟨wb,8,none⟩ (.slice D m d)) B rb wb {S with ch:=P} {y with ca:=⟨A,n,c⟩,cb:=⟨D,m,d⟩} /\Fq B rb W ((W.setCell ⟨wb,7,none⟩ (.slice A n c)).setCell ⟨wb,8,none⟩ (.slice D m d)):=
 h.put (gU _ _ _ _ _ _) (bt (bt h.wm.blk 7 _) 8 _) λq=>⟨q.nm,q.dk,q.pl,q.rn,q.rq,hp.gbT h.wm.blk au au (gU _ _ _ _ _ _),q.bl,q.sp,q.an⟩
theorem aei (h:Rm W B rb wb S y) {c:Nat} (hp:eF W wb ⟨A,n,c⟩ (aZ V.bl) V.bl.length) {w0:World} (hf:Fq B rb w0 W) (hA: ∀b o,A=some ⟨b,o,none⟩->w0.heap.size<=b):
  Rm ((W.setCell ⟨wb,9,none⟩ (.slice A n c)).setCell ⟨wb,10,none⟩ (.string V.rt)) B rb wb {S with v:=V} {y with bl:=⟨A,n,c⟩} /\Fq B rb w0 ((W.setCell ⟨wb,9,none⟩ (.slice A n c)).setCell ⟨wb,10,none⟩ (.string V.rt)):=
 have hg:=gU W wb 9 10 (.slice A n c) (.string V.rt)
 have hr:=dH hg h.rm (by have:=h.lt;have:=h.wm.lo;omega)
 have hk:=bt (bt h.wm.blk 9 (.slice A n c)) 10 (.string V.rt)
 have q:=h.wm.dt.gb h.wm.blk hg
 ⟨⟨hr,h.lt,⟨h.wm.lo,hk,⟨q.nm,q.dk,q.pl,q.rn,q.rq,q.ch,hp.gb hg,q.sp,q.an⟩⟩,h.ld.gb hg h.wm.lo⟩,hf.new h.ld.le hg (.inl h.wm.lo) h.wm.blk au λk vh _=> .inr ⟨wb, {S with v:=V}, {y with bl:=⟨A,n,c⟩},hr,hk,λ_ o e=>by have:=hA _ _ e;omega⟩⟩
theorem avm (h:Rm W B rb wb S y) {c:Nat} {l:List Int} (hp:eF W wb ⟨A,n,c⟩ (ints l) l.length):
  Rm (W.setCell ⟨wb,16,none⟩ (.slice A n c)) B rb wb {S with an:=l} {y with an:=⟨A,n,c⟩} /\Fq B rb W (W.setCell ⟨wb,16,none⟩ (.slice A n c)):=
 h.put (eE _ _ _ _) (bt h.wm.blk 16 _) λq=>⟨q.nm,q.dk,q.pl,q.rn,q.rq,q.ch,q.bl,q.sp,hp.gb (eE _ _ _ _)⟩
theorem Us (h:Rm W B rb wb S y) (s:ag) (o:Bool):
  Rm ((W.setCell ⟨wb,18,none⟩ (.string s)).setCell ⟨wb,17,none⟩ (.bool o)) B rb wb {S with ms:=s,op:=o} y/\Fq B rb W ((W.setCell ⟨wb,18,none⟩ (.string s)).setCell ⟨wb,17,none⟩ (.bool o)):=
 h.put (gU _ _ _ _ _ _) (bt (bt h.wm.blk 18 _) 17 _) λq=>q.to rfl rfl rfl rfl rfl rfl rfl
theorem aej (h:Rm W B rb wb S y) {c:Nat} {l:List Dk} (hp:dC W B A n c l):
  Rm (W.setCell ⟨wb,1,none⟩ (.slice A n c)) B rb wb {S with ds:=bu l} {y with dk:=⟨A,n,c⟩,l:=l} /\Fq B rb W (W.setCell ⟨wb,1,none⟩ (.slice A n c)):=
 h.put (eE _ _ _ _) (bt h.wm.blk 1 _) λq=>⟨q.nm,hp.gbT h.wm.blk au au au (eE _ _ _ _),rfl,q.rn,q.rq,q.ch,q.bl,q.sp,q.an⟩
theorem avn (h:Rm W B rb wb S y) {c d:Nat} {r:dS} (h1:eF W wb ⟨A,n,c⟩ (aZ r.ns) r.ns.length) (h2:eF W wb ⟨D,m,d⟩ (aZ r.ps) r.ps.length):
  Rm ((((W.setCell ⟨wb,2,none⟩ (.int .i64 r.e)).setCell ⟨wb,3,none⟩ (.int .i64 r.k)).setCell ⟨wb,4,none⟩ (.slice A n c)).setCell ⟨wb,5,none⟩ (.slice D m d)) B rb wb {S with r:=r} {y with rn:=⟨A,n,c⟩,rq:=⟨D,m,d⟩} /\
  Fq B rb W ((((W.setCell ⟨wb,2,none⟩ (.int .i64 r.e)).setCell ⟨wb,3,none⟩ (.int .i64 r.k)).setCell ⟨wb,4,none⟩ (.slice A n c)).setCell ⟨wb,5,none⟩ (.slice D m d)):=
 have g:=mE (gU W wb 2 3 (.int .i64 r.e) (.int .i64 r.k)) (gU _ wb 4 5 (.slice A n c) (.slice D m d))
 h.put g (bt (bt (bt (bt h.wm.blk 2 _) 3 _) 4 _) 5 _) λq=>⟨q.nm,q.dk,q.pl,h1.gb g,h2.gb g,q.ch,q.bl,q.sp,q.an⟩
theorem avo (h:Rm W B rb wb S y) (s:ag):
  Rm (W.setCell ⟨wb,6,none⟩ (.string s)) B rb wb {S with wr:=s} y/\Fq B rb W (W.setCell ⟨wb,6,none⟩ (.string s)):=
 h.put (eE _ _ _ _) (bt h.wm.blk 6 _) λq=>q.to rfl rfl rfl rfl rfl rfl rfl
theorem Rm.c (h:Rm w B rb wb S y) (k:Nat) (u:Value) (hu:(ou S y)[k]?=some u):w.cell? ⟨wb,k,none⟩=some u:=aj h.wm.blk k u hu
theorem Rm.f (h:Rm w B rb wb S y) (k:Nat):w.frozen? ⟨wb,k,none⟩=false:=aU h.wm.blk k
theorem mK {v:Value} (h:W.cell? p=some u/\W.cell? q=some v) (hb:aD W W'):W'.cell? p=some u/\W'.cell? q=some v:=⟨(hb.cell (cU h.1)).trans h.1,(hb.cell (cU h.2)).trans h.2⟩
theorem kc3 {v:Value} (h:W.cell? p=some u/\W.cell? q=some v/\W.cell? r=some x) (hb:aD W W'):W'.cell? p=some u/\W'.cell? q=some v/\W'.cell? r=some x:=⟨(hb.cell (cU h.1)).trans h.1,mK h.2 hb⟩
theorem yA {v y:Value} (h:W.cell? p=some u/\W.cell? q=some v/\W.cell? r=some x/\W.cell? s=some y) (hb:aD W W'):W'.cell? p=some u/\W'.cell? q=some v/\W'.cell? r=some x/\W'.cell? s=some y:=⟨(hb.cell (cU h.1)).trans h.1,kc3 h.2 hb⟩
theorem AJ {o:Addr} {l v y:Value} (h:W.cell? o=some l/\W.cell? p=some u/\W.cell? q=some v/\W.cell? r=some x/\W.cell? s=some y/\W.cell? t=some z) (hb:aD W W'):
 W'.cell? o=some l/\W'.cell? p=some u/\W'.cell? q=some v/\W'.cell? r=some x/\W'.cell? s=some y/\W'.cell? t=some z:=⟨(hb.cell (cU h.1)).trans h.1,jW h.2 hb⟩
theorem NY {c:Value} (aO:b≠g) (h:W.cell? ⟨b,k,none⟩=some u):((W.setCell ⟨g,i,none⟩ a).setCell ⟨g,j,none⟩ c).cell? ⟨b,k,none⟩=some u:=by
 rw[fB (bz _ ⟨g,j,none⟩ c b aO),fB (bz _ ⟨g,i,none⟩ a b aO)];exact h
theorem avq {p0 q0 r0 s0 p1 q1 r1 s1:Nat} {c v y:Value} (h1:p0≠g) (h2:q0≠g) (h3:r0≠g) (h4:s0≠g) (h:W.cell? ⟨p0,p1,none⟩=some u/\W.cell? ⟨q0,q1,none⟩=some v/\W.cell? ⟨r0,r1,none⟩=some x/\W.cell? ⟨s0,s1,none⟩=some y):
  ((W.setCell ⟨g,i,none⟩ a).setCell ⟨g,j,none⟩ c).cell? ⟨p0,p1,none⟩=some u/\((W.setCell ⟨g,i,none⟩ a).setCell ⟨g,j,none⟩ c).cell? ⟨q0,q1,none⟩=some v/\((W.setCell ⟨g,i,none⟩ a).setCell ⟨g,j,none⟩ c).cell? ⟨r0,r1,none⟩=some x/\((W.setCell ⟨g,i,none⟩ a).setCell ⟨g,j,none⟩ c).cell? ⟨s0,s1,none⟩=some y:=
 ⟨NY h1 h.1,NY h2 h.2.1,NY h3 h.2.2.1,NY h4 h.2.2.2⟩
theorem NZ {W0:World} {y:Value} {c d:Nat} {P:az} (hS:aD W0 W) (hg:W0.heap.size<=g) (hz:bj W g #[x,y] 74) (hp:PB W A n D m P):
  aD W0 ((W.setCell ⟨g,0,none⟩ (.slice A n c)).setCell ⟨g,1,none⟩ (.slice D m d))/\((W.setCell ⟨g,0,none⟩ (.slice A n c)).setCell ⟨g,1,none⟩ (.slice D m d)).heap[g]?=some (.cells #[.slice A n c,.slice D m d] 74 (0,0))/\PB ((W.setCell ⟨g,0,none⟩ (.slice A n c)).setCell ⟨g,1,none⟩ (.slice D m d)) A n D m P:=
 ⟨hS.trans (iC (gU _ _ _ _ _ _) hg hS.size),bt (bt hz 0 _) 1 _,hp.gbT hz au au (gU _ _ _ _ _ _)⟩
theorem avr {c d:Nat} {P:az} (h:Rm w B rb wb S y) (hb:aD w W) (hg:w.heap.size<=g) (hz:bj W g #[x,z] 74) (hp:PB W A n D m P):
  Rm ((W.setCell ⟨g,0,none⟩ (.slice A n c)).setCell ⟨g,1,none⟩ (.slice D m d)) B rb wb S y/\((W.setCell ⟨g,0,none⟩ (.slice A n c)).setCell ⟨g,1,none⟩ (.slice D m d)).heap[g]?=some (.cells #[.slice A n c,.slice D m d] 74 (0,0))/\PB ((W.setCell ⟨g,0,none⟩ (.slice A n c)).setCell ⟨g,1,none⟩ (.slice D m d)) A n D m P/\aD w ((W.setCell ⟨g,0,none⟩ (.slice A n c)).setCell ⟨g,1,none⟩ (.slice D m d)):=
 have av:=hb.trans (iC (gU W g 0 1 (.slice A n c) (.slice D m d)) hg hb.size)
 ⟨h.below av,bt (bt hz 0 _) 1 _,hp.gbT hz au au (gU _ _ _ _ _ _),av⟩
theorem avs (g:Nat) (w:World):Calls prog 120 #[.pointer (aw g)] w (eu w (.func (.func 121) #[.pointer (aw g)] #[])):=by
 exact jt
theorem avt (A B:aN) (n c m d:Nat) (P:az) (i:Int) (s:ag) (w:World) (h:PB w A n B m P):
  Calls prog 119 #[.agg #[.slice A n c,.slice B m d],.int .i64 i,.string s,.bool false,.func (.func 120) #[] #[]] w (kj w (pY P i s)):=by
 obtain⟨hX,hA,bG⟩:=qP w #[.slice A n c,.slice B m d] 74;have HP:=aa (h.below bG);have HX:=aa hX;have HA:=aa hA;have HB:=aa bG;have HN:=aa h.hn;have HM:=aa h.hm;clear h hX hA bG;go_in;go_wp2_with fail;refine (JY A B n c m d P _ HP).mono ?_;rintro e w1 ⟨rfl,aG⟩;replace HP:=aa (HP.below aG);replace HX:=aT HX aG;replace HA:=aT HA aG;replace HB:=aX HB aG;clear aG;obtain⟨x0,x1,x2,x3⟩:=aV HX.out;obtain⟨a0,a1,_,_⟩:=aV HA.out;cases hc:fY P with
 |false=>
  have Hc:=aa hc;clear hc;go_wp2_with fail;refine bodyPost_ret (dJ rfl _ _ (w.heap.size+1) ah _ (eP (eA HX _ _))) rfl ?_;rw[pY,if_pos Hc.out];exact⟨_,rfl,dT.no _,dL HB ae _ _⟩
 |true=>
  have Hc:=aa hc;clear hc;obtain⟨gq,fC,jx,jZ,wI⟩:=xV Hc.out;have VD:n<=200:=by rw[HN.out];exact fC
  have KW:m<=100:=by rw[HM.out];exact jx
  clear gq fC jZ wI;go_wp2_with fail;refine (JX A B n c m d i _).mono ?_;rintro e w2 ⟨rfl,av⟩;replace HP:=aa (HP.below av);replace HX:=aT HX av;replace HA:=aT HA av;replace HB:=aX HB av;clear av x0 x1 x2 x3 a0 a1;obtain⟨x0,x1,x2,x3⟩:=aV HX.out;obtain⟨a0,a1,_,_⟩:=aV HA.out;cases hh:gJ n i with
  |false=>
   have Hh:=aa (show gJ P.ss.length i=false by rw[<-HN.out];exact hh);clear hh;go_wp2_with fail;refine bodyPost_ret (dJ rfl _ _ (w.heap.size+1) ah _ (eP (eA HX _ _))) rfl ?_;rw[pY,if_neg (by rw[Hc.out];simp),if_pos Hh.out];exact⟨_,rfl,dT.no _,dL HB ae _ _⟩
  |true=>
   have Hh:=aa (show gJ P.ss.length i=true by rw[<-HN.out];exact hh);clear hh;by_cases IV:128<s.size
   ·have d1:decide ((128:Int)<(s.size:Int))=true:=(by simp;omega);go_wp2_with fail;refine bodyPost_ret (dJ rfl _ _ (w.heap.size+1) ah _ (eP (eA HX _ _))) rfl ?_;rw[pY,if_neg (by rw[Hc.out];simp),if_neg (by rw[Hh.out];simp),if_pos IV];exact⟨_,rfl,dT.no _,dL HB ae _ _⟩
   ·have d1:decide ((128:Int)<(s.size:Int))=false:=(by simp;omega);obtain⟨Ln,gq⟩:0<=i/\i<(P.ss.length:Int):=(by simpa[gJ] using Hh.out);obtain⟨kk,rfl⟩:=Int.eq_ofNat_of_zero_le Ln;have Le:kk<P.ss.length:=ae;go_wp2_with fail;refine (S8 A B n c m d P _ HP ae ae).mono ?_;rintro e w3 ⟨g,rfl,hD,aL⟩;replace HX:=aT HX aL;have XX:w.heap.size+1<w2.heap.size:=cU x0;have HD:=aa hD;have cj:=aa aL;have rv:=aL.size;clear hD aL x0 x1 x2 x3 a0 a1;go_wp2_with fail;refine (avs g _).mono ?_;rintro e w4 ⟨rfl,rfl⟩;go_wp2_with fail;refine (ab8 w2.heap.size g P kk s _ HD Le).mono ?_;rintro e w4 ⟨⟨v,rfl⟩,hD4,aP,-⟩;have V2:=aa hD4;have dD:=aa (cj.trans aP);replace HX:=aa ((aP.block (w.heap.size+1) XX).trans HX);clear hD4 aP;go_wp2_with fail;refine (S9 w2.heap.size g _ _ V2).mono ?_;rintro e w5 ⟨A5,n5,c5,B5,m5,d5,rfl,lK,aY⟩;replace HX:=aT HX aY;have yZ:=aa lK;have jz:=aa (HB.trans ((ju dD aY).mono HB.size));clear lK aY;obtain⟨x0,x1,x2,x3⟩:=aV HX.out;go_wp2_with fail;refine bodyPost_ret (dJ rfl _ _ (w.heap.size+1) ah _ (eP (eA HX _ _))) rfl ?_;rw[pY,if_neg (by rw[Hc.out];simp),if_neg (by rw[Hh.out];simp),if_neg IV];exact⟨_,rfl,⟨_,_,_,_,_,_,rfl,(yZ.two HX _ _).pb⟩,dL jz ae _ _⟩
theorem avu (A B:aN) (n c m d:Nat) (P:az) (i:Int) (s:ag) (r:az×Int) (w:World) (h:PB w A n B m P) (hr:r=pY P i s):
  Calls prog 65 #[.agg #[.slice A n c,.slice B m d],.int .i64 i,.string s] w (kj w r):=by
 obtain⟨hX,hA,bG⟩:=qP w #[.slice A n c,.slice B m d] 74;have HP:=aa (h.below bG);have HX:=aa hX;have HB:=aa bG;have HR:=aa hr;clear h hX hA bG hr;go_in;go_wp2_with fail;refine (avt A B n c m d P i s _ HP).mono ?_;exact Vc
theorem avv (v:Value) (P:az) (i:Int) (s:ag) (w:World) (h:dT w v P):Calls prog 65 #[v,.int .i64 i,.string s] w (kj w (pY P i s)):=by
 obtain⟨A,n,c,B,m,d,rfl,h⟩:=h;exact avu A B n c m d P i s _ w h rfl
theorem avw (A:aN) (n c:Nat) (l:List ag) (x:ag) (w:World) (hr:Rd w A (aZ l)) (hn:n=l.length) (hl:n<=1000000):
  Calls prog 102 #[.slice A n c,.string x] w (eu w (.int .i64 (Lib.idxOfS l x))):=by
 cases l with
 |nil=>
  subst hn;exact (Any.slices_Index_string_empty ady A c x w).mono λe w' ⟨h1,h2⟩=>⟨h1,h2⟩
 |cons s l=>
  obtain⟨b,aS,hA,_⟩:=hr 0 (.string s) rfl;subst hA;refine (Any.slices_Index_string ady b aS n c (s::l) x w ae ae (λj hj=>?_)).mono λe w' ⟨h1,h2⟩=>⟨by rw[h1,hn,List.take_of_length_le (aM _)],h2⟩
  obtain⟨b',ve,hA,hc⟩:=hr j (.string ((s::l).getD j ByteArray.empty)) (by rw[aZ,nA,cL hj,List.getD,cL hj];rfl);injection hA with hA
  injection hA with e1 e2
  subst e1 e2;exact hc
theorem aek (wb:Nat) (A:aN) (n c:Nat) (l:List ag) (x:ag) (w:World) (h0:w.cell? ⟨wb,0,none⟩=some (.slice A n c)) (hr:Rd w A (aZ l)) (hn:n=l.length) (hl:n<=1000000):
  Calls prog 54 #[.pointer (aw wb),.string x] w (eu w (.int .i64 (Lib.idxOfS l x))):=by
 have HI:=aa (avw A n c l x w hr hn hl);clear hr hn hl;go_in;go_wp2_with fail;refine HI.mono ?_;rintro e w1 ⟨rfl,rfl⟩;exact tp
theorem GN {b c:Value} {t:TypeId} (h:w.heap[g]?=some (.cells #[a,b,c] t (0,0))):(loadVar 82 ⟨g,0,none⟩).run prog w= .ok (.agg #[a,b,c]) w:=
 run_loadVar_mid (P:=prog) w g 0 82 [a,b,c] _ (λj v hj=>by
  have e:=cell_of_row w g j _ t (0,0) h;rw[Nat.zero_add,e];simpa using hj) underlying82 rfl ax
theorem En (A B:aN) (n c m d:Nat) (w:World):Calls prog 40 #[.agg #[.slice A n c,.slice B m d],.int .i64 0] w (bF w (.agg #[.slice A n c,.slice B m d])):=by
 obtain⟨x1,x2,kb,mo⟩:=pq w (.cells #[.slice A n c,.slice B m d] 74) (.cells #[ay,ay] 74);have a0:=aj x1 0 _ rfl;have c0:=aU x1 0;have b0:=aj x2 0 _ rfl;have d0:=aU x2 0;have a1:=aj x1 1 _ rfl;have c1:=aU x1 1;have b1:=aj x2 1 _ rfl;have d1:=aU x2 1;clear x1 x2 kb mo;go_in;go_wp2_with fail;refine (rV _).mono ?_;rintro e w1 ⟨rfl,rfl⟩;go_wp2_with fail;obtain⟨-,y2,yb,-⟩:=pq w (.cells #[.slice A n c,.slice B m d] 74) (.cells #[.slice A n c,.slice B m d] 74);refine bodyPost_ret (vt rfl _ _ (w.heap.size+1) ah _ (eP y2)) rfl ?_;exact⟨rfl,yb⟩
theorem avx (A:aN) (n c:Nat) (r:ag) (w:World):Calls prog 60 #[.agg #[.slice A n c,.string r],.int .i64 0] w (bF w (.agg #[.slice A n c,.string r])):=by
 obtain⟨x1,x2,kb,mo⟩:=pq w (.cells #[.slice A n c,.string r] 80) (.cells #[ay,.string ⟨#[]⟩] 80);have a0:=aj x1 0 _ rfl;have c0:=aU x1 0;have b0:=aj x2 0 _ rfl;have d0:=aU x2 0;have a1:=aj x1 1 _ rfl;have c1:=aU x1 1;have b1:=aj x2 1 _ rfl;have d1:=aU x2 1;clear x1 x2 kb mo;go_in;go_wp2_with fail;refine (rV _).mono ?_;rintro e w1 ⟨rfl,rfl⟩;go_wp2_with fail;obtain⟨-,y2,yb,-⟩:=pq w (.cells #[.slice A n c,.string r] 80) (.cells #[.slice A n c,.string r] 80);refine bodyPost_ret (vt rfl _ _ (w.heap.size+1) ah _ (AI y2)) rfl ?_;exact⟨rfl,yb⟩
theorem avy (a b c:Int) (w:World):Calls prog 48 #[.agg #[.int .i64 a,.int .i64 b,.int .i64 c],.int .i64 0] w (bF w (.agg #[.int .i64 a,.int .i64 b,.int .i64 c])):=by
 obtain⟨x1,x2,kb,mo⟩:=pq w (.cells #[.int .i64 a,.int .i64 b,.int .i64 c] 82) (.cells #[.int .i64 0,.int .i64 0,.int .i64 0] 82);have a0:=aj x1 0 _ rfl;have c0:=aU x1 0;have b0:=aj x2 0 _ rfl;have d0:=aU x2 0;have a1:=aj x1 1 _ rfl;have c1:=aU x1 1;have b1:=aj x2 1 _ rfl;have d1:=aU x2 1;have a2:=aj x1 2 _ rfl;have c2:=aU x1 2;have b2:=aj x2 2 _ rfl;have d2:=aU x2 2;clear x1 x2 kb mo;go_in;go_wp2_with fail;refine (rV _).mono ?_;rintro e w1 ⟨rfl,rfl⟩;go_wp2_with fail;obtain⟨-,y2,yb,-⟩:=pq w (.cells #[.int .i64 a,.int .i64 b,.int .i64 c] 82) (.cells #[.int .i64 a,.int .i64 b,.int .i64 c] 82);refine bodyPost_ret (vt rfl _ _ (w.heap.size+1) ah _ (GN y2)) rfl ?_;exact⟨rfl,yb⟩
theorem N0 (ep k:Int) (s:ag) (A B C E:aN) (n c m d p q u v:Nat) (w:World):Calls prog 37 #[.agg #[.int .i64 ep,.int .i64 k,.slice A n c,.slice B m d,.string s,.slice C p q,.slice E u v],.int .i64 0] w (bF w (.agg #[.int .i64 ep,.int .i64 k,.slice A n c,.slice B m d,.string s,.slice C p q,.slice E u v])):=by
 obtain⟨x1,x2,kb,mo⟩:=pq w (.cells #[.int .i64 ep,.int .i64 k,.slice A n c,.slice B m d,.string s,.slice C p q,.slice E u v] 67) (.cells #[.int .i64 0,.int .i64 0,ay,ay,.string ⟨#[]⟩,ay,ay] 67);have a0:=aj x1 0 _ rfl;have c0:=aU x1 0;have b0:=aj x2 0 _ rfl;have d0:=aU x2 0;have a1:=aj x1 1 _ rfl;have c1:=aU x1 1;have b1:=aj x2 1 _ rfl;have d1:=aU x2 1;have a2:=aj x1 2 _ rfl;have c2:=aU x1 2;have b2:=aj x2 2 _ rfl;have d2:=aU x2 2;have a3:=aj x1 3 _ rfl;have c3:=aU x1 3;have b3:=aj x2 3 _ rfl;have d3:=aU x2 3;have a4:=aj x1 4 _ rfl;have c4:=aU x1 4;have b4:=aj x2 4 _ rfl;have d4:=aU x2 4;have a5:=aj x1 5 _ rfl;have c5:=aU x1 5;have b5:=aj x2 5 _ rfl;have d5:=aU x2 5;have a6:=aj x1 6 _ rfl;have c6:=aU x1 6;have b6:=aj x2 6 _ rfl;have d6:=aU x2 6;clear x1 x2 kb mo;go_in;go_wp2_with fail;refine (rV _).mono ?_;rintro e w1 ⟨rfl,rfl⟩;go_wp2_with fail;obtain⟨-,y2,yb,-⟩:=pq w (.cells #[.int .i64 ep,.int .i64 k,.slice A n c,.slice B m d,.string s,.slice C p q,.slice E u v] 67) (.cells #[.int .i64 ep,.int .i64 k,.slice A n c,.slice B m d,.string s,.slice C p q,.slice E u v] 67);refine bodyPost_ret (vt rfl _ _ (w.heap.size+1) ah _ (act y2)) rfl ?_;exact⟨rfl,yb⟩
theorem ael (ep k:Int) (s:ag) (A B C E:aN) (n c m d p q u v:Nat) (x:Int) (hx:x≠0) (w:World):Calls prog 37 #[.agg #[.int .i64 ep,.int .i64 k,.slice A n c,.slice B m d,.string s,.slice C p q,.slice E u v],.int .i64 x] w λe w'=>e=ma x/\aD w w':=by
 exact OT
theorem aem (ep t x nx nn:Int) (s1 s2 s3 s4 s5:ag) (w:World):Calls prog 68 #[.agg #[.int .i64 ep,.int .i64 t,.int .i64 x,.string s1,.string s2,.string s3,.int .i64 nx,.int .i64 nn,.string s4,.string s5],.int .i64 0] w (bF w (.agg #[.int .i64 ep,.int .i64 t,.int .i64 x,.string s1,.string s2,.string s3,.int .i64 nx,.int .i64 nn,.string s4,.string s5])):=by
 obtain⟨x1,x2,kb,mo⟩:=pq w (.cells #[.int .i64 ep,.int .i64 t,.int .i64 x,.string s1,.string s2,.string s3,.int .i64 nx,.int .i64 nn,.string s4,.string s5] 120) (.cells #[.int .i64 0,.int .i64 0,.int .i64 0,.string ⟨#[]⟩,.string ⟨#[]⟩,.string ⟨#[]⟩,.int .i64 0,.int .i64 0,.string ⟨#[]⟩,.string ⟨#[]⟩] 120);have a0:=aj x1 0 _ rfl;have c0:=aU x1 0;have b0:=aj x2 0 _ rfl;have d0:=aU x2 0;have a1:=aj x1 1 _ rfl;have c1:=aU x1 1;have b1:=aj x2 1 _ rfl;have d1:=aU x2 1;have a2:=aj x1 2 _ rfl;have c2:=aU x1 2;have b2:=aj x2 2 _ rfl;have d2:=aU x2 2;have a3:=aj x1 3 _ rfl;have c3:=aU x1 3;have b3:=aj x2 3 _ rfl;have d3:=aU x2 3;have a4:=aj x1 4 _ rfl;have c4:=aU x1 4;have b4:=aj x2 4 _ rfl;have d4:=aU x2 4;have a5:=aj x1 5 _ rfl;have c5:=aU x1 5;have b5:=aj x2 5 _ rfl;have d5:=aU x2 5;have a6:=aj x1 6 _ rfl;have c6:=aU x1 6;have b6:=aj x2 6 _ rfl;have d6:=aU x2 6;have a7:=aj x1 7 _ rfl;have c7:=aU x1 7;have b7:=aj x2 7 _ rfl;have d7:=aU x2 7;have a8:=aj x1 8 _ rfl;have c8:=aU x1 8;have b8:=aj x2 8 _ rfl;have d8:=aU x2 8;have a9:=aj x1 9 _ rfl;have c9:=aU x1 9;have b9:=aj x2 9 _ rfl;have d9:=aU x2 9;clear x1 x2 kb mo;go_in;go_wp2_with fail;refine (rV _).mono ?_;rintro e w1 ⟨rfl,rfl⟩;go_wp2_with fail;obtain⟨-,y2,yb,-⟩:=pq w (.cells #[.int .i64 ep,.int .i64 t,.int .i64 x,.string s1,.string s2,.string s3,.int .i64 nx,.int .i64 nn,.string s4,.string s5] 120) (.cells #[.int .i64 ep,.int .i64 t,.int .i64 x,.string s1,.string s2,.string s3,.int .i64 nx,.int .i64 nn,.string s4,.string s5] 120);refine bodyPost_ret (vt rfl _ _ (w.heap.size+1) ah _ (Au y2 rfl)) rfl ?_;exact⟨rfl,yb⟩
theorem avz (ep t y nx nn:Int) (s1 s2 s3 s4 s5:ag) (x:Int) (hx:x≠0) (w:World):Calls prog 68 #[.agg #[.int .i64 ep,.int .i64 t,.int .i64 y,.string s1,.string s2,.string s3,.int .i64 nx,.int .i64 nn,.string s4,.string s5],.int .i64 x] w λe w'=>e=ma x/\aD w w':=by
 exact OT
theorem tk {l:List ag} (h:Rd w A (aZ l)) (hk:k<l.length): ∃b o,A=some ⟨b,o,none⟩/\w.cell? ⟨b,o+k,none⟩=some (.string (wx l k)):=
 h k _ (by rw[aZ,nA,cL hk];simp[wx,dh,cL hk])
theorem tl {l:List Int} (h:Rd w A (ints l)) (hk:k<l.length): ∃b o,A=some ⟨b,o,none⟩/\w.cell? ⟨b,o+k,none⟩=some (.int .i64 (ix l k)):=h.int_at hk
theorem aen (M:Int): ∀(l:List Int) (a:Int),0<=a->a<=M->(∀x∈l,x<=M)->0<=l.foldl max a/\l.foldl max a<=M
 | [],a,h0,h1,_=>⟨h0,h1⟩
 |x::l,a,h0,h1,h=>aen M l (max a x) ae (by have:=h x ak;omega) (λy hy=>h y (by simp[hy]))
theorem aeo (l:List Int) (a:Int):0<=(oq l a).1/\(oq l a).1<=1000000000:=by
 unfold oq;split
 ·exact⟨Int.le_refl _,au⟩
 ·rename_i h;refine aen _ _ 0 (Int.le_refl _) au λx hx=>?_;have Bg:=(List.mem_filter.1 hx).1;have hr:rU l=true:=by
   cases hq:rU l with
   |true=>rfl
   |false=>exact absurd (.inl hq) h
  unfold rU at hr;simp only[Bool.and_eq_true,List.all_eq_true]at hr;have:=hr.2 x Bg;unfold mb pX at this;simp only[Bool.and_eq_true,decide_eq_true_eq]at this;exact this.2
theorem Vi (h:P:=by
 refine hK.out _ _ ?_;clear hK K;go_wp2;go_ret;exact HE.1.ok_ (HF.trans HE.2) HQ.out):P:=h
theorem avA (B rb wb:Nat) (S:aW) (y:cQ) (A C:aN) (n c m d:Nat) (ws:List ag) (ms:List Int) (w:World) (h:Rm w B rb wb S y) (hS:Gd S) (ha:Rd w A (aZ ws)) (hn:n=ws.length) (hm:Rd w C (ints ms)) (mO:m=ms.length) (h1:2<=ws.length) (h2:1<=ms.length):
  Calls prog 24 #[.pointer (aw rb),.agg #[.slice A n c,.slice C m d]] w (ov B rb w (GC S (ix ms 0) (wx ws 1))):=by
 have hb:=be w (.cells #[.slice A n c,.slice C m d] 57);obtain⟨ab,ao,rfl,lJ⟩:=tk (ha.below hb) (k:=1) ae;obtain⟨cb,co,rfl,fT⟩:=tl (hm.below hb) (k:=0) ae;generalize wx ws 1=s at lJ⊢;rw[Nat.add_zero]at fT;generalize ix ms 0=i at fT⊢;have HR:=aa h;have HB:=aa hb;have H1:=aa (h.below hb);have r0:=(h.below hb).at_;have l0:=vY w (some ⟨ab,ao,none⟩) (some ⟨cb,co,none⟩) n c m d;have e0:(1:Int)<(n:Int):=ae;have e1:0<m:=ae;have K0:_/\_/\_/\_/\_/\_:=⟨((h.below hb).c 7 (.slice y.ca.A y.ca.n y.ca.c) rfl),((h.below hb).c 8 (.slice y.cb.A y.cb.n y.cb.c) rfl),l0.1,lJ,l0.2,fT⟩
 have HV:=aa (λW hW=>avv (.agg #[.slice y.ca.A y.ca.n y.ca.c,.slice y.cb.A y.cb.n y.cb.c]) S.ch i s W ⟨_,_,_,_,_,_,rfl,hW⟩);have HQ:=aa (show GC S i s=if (pY S.ch i s).2≠0 then (S,.er (pY S.ch i s).2) else ({S with ch:=(pY S.ch i s).1},.ok gT) from rfl);generalize pY S.ch i s=r at HV HQ;obtain⟨P,re⟩:=r;simp only at HV HQ;clear h hb hS ha hn hm mO h1 h2 l0 lJ fT;go_in;go_wp2_with fail;refine jr (S:=λW=>W.cell? ⟨wb,7,none⟩=some (.slice y.ca.A y.ca.n y.ca.c)/\W.cell? ⟨wb,8,none⟩=some (.slice y.cb.A y.cb.n y.cb.c)/\W.cell? ⟨w.heap.size,0,none⟩=some (.slice (some ⟨ab,ao,none⟩) n c)/\W.cell? ⟨ab,ao+1,none⟩=some (.string s)/\W.cell? ⟨w.heap.size,1,none⟩=some (.slice (some ⟨cb,co,none⟩) m d)/\W.cell? ⟨cb,co,none⟩=some (.int .i64 i)) 19 ax (AJ K0 ya3) (λhS=>?_);have HD:=aa (H1.below ya3);have HF:=aa (HR.fq (HB.drew));generalize (w.alloc (.cells #[.slice (some ⟨ab,ao,none⟩) n c,.slice (some ⟨cb,co,none⟩) m d] 57)).drew=W0 at hS HD HF⊢;clear K0 r0;refine kV 0 rfl hS ya0 ?_;refine kV 1 rfl hS ya0 ?_;refine kV 2 rfl hS ya0 ?_;refine kV 3 rfl hS ya0 ?_;refine kV 4 rfl hS ya0 ?_;refine kV 5 rfl hS ya0 ?_;refine kV 6 rfl hS ya0 ?_;refine kV 7 rfl hS ya0 ?_;refine kV 8 rfl hS ya0 ?_;refine kV 9 rfl hS ya0 ?_;refine kV 10 rfl hS ya0 ?_;refine kV 11 rfl hS ya0 ?_;refine kV 12 rfl hS ya0 ?_;refine kR 13 λK hK=>?_;go_simp;refine Calls.mono (by exact HV.out _ HD.wm.dt.ch) ?_;rintro _ w4 ⟨_,rfl,⟨A4,n4,c4,B4,m4,d4,rfl,hp⟩,aP⟩;go_simp;simp only at hp⊢;replace HF:=aa (HF.trans (HD.fq aP));replace HD:=aa (HD.below aP);have HP:=aa hp;clear hp;refine hK.out _ _ (AJ hS aP) (λhS=>?_);clear hK K;try go_frame
 refine kV 14 rfl hS ya0 ?_;refine kV 15 rfl hS ya0 ?_;refine kR 16 λK hK=>?_;go_simp;by_cases he:re=0;case neg=>
  rw[if_pos he]at HQ;refine Calls.mono (by exact NK _ _ _ _ _ _ _ he _) ?_;rintro _ w5 ⟨rfl,aY⟩;replace HF:=aa (HF.trans (HD.fq aY));replace HD:=aa (HD.below aY);exact⟨rfl,HD.er HF HQ⟩
 subst he;rw[if_neg au]at HQ;refine Calls.mono (by exact En _ _ _ _ _ _ _) ?_;rintro _ w5 ⟨rfl,aY⟩;go_simp;replace HF:=aa (HF.trans (HD.fq aY));replace HD:=aa (HD.below aY);replace HP:=aa (HP.below aY);refine hK.out _ _ (AJ hS aY) (λhS=>?_);clear hK K;try go_frame
 refine kR 17 λK hK=>?_;go_simp;refine hK.out _ _ hS (λhS=>?_);clear hK K;try go_frame
 refine kR 18 λK hK=>?_;go_simp;refine hK.out _ _ hS (λhS=>?_);clear hK K;try go_frame
 refine kL λK hK=>?_;obtain⟨q7,q8,_⟩:=hS;have f7:=HD.f 7;have f8:=HD.f 8;go_simp;have HE:=aa (Ur (c:=c4) (d:=d4) HD HP);exact Vi
theorem Vq (h:P:=by
 rintro _ w5 ⟨rfl,rfl⟩;exact⟨rfl,HD.er HF HQ⟩):P:=h
theorem avB (B rb wb:Nat) (S:aW) (y:cQ) (A C:aN) (n c m d:Nat) (ws:List ag) (ms:List Int) (w:World) (h:Rm w B rb wb S y) (hS:Gd S) (ha:Rd w A (aZ ws)) (hn:n=ws.length) (hm:Rd w C (ints ms)) (mO:m=ms.length) (h1:1<=ws.length) (h2:2<=ms.length):
  Calls prog 28 #[.pointer (aw rb),.agg #[.slice A n c,.slice C m d]] w (ov B rb w (NH S (wx ws 0) (ix ms 1))):=by
 have hb:=be w (.cells #[.slice A n c,.slice C m d] 57);obtain⟨ab,ao,rfl,lJ⟩:=tk (ha.below hb) (k:=0) ae;obtain⟨cb,co,rfl,fT⟩:=tl (hm.below hb) (k:=1) ae;rw[Nat.add_zero]at lJ;generalize wx ws 0=s at lJ⊢;generalize ix ms 1=i at fT⊢;have HR:=aa h;have HB:=aa hb;have H1:=aa (h.below hb);have r0:=(h.below hb).at_;have l0:=vY w (some ⟨ab,ao,none⟩) (some ⟨cb,co,none⟩) n c m d;have e0:0<n:=ae;have e1:(1:Int)<(m:Int):=ae;have K0:_/\_/\_/\_/\_:=⟨((h.below hb).c 16 (.slice y.an.A y.an.n y.an.c) rfl),l0.1,lJ,l0.2,fT⟩
 have iY:=aa (λW (h0:W.cell? ⟨wb,0,none⟩=some (.slice y.nm.A y.nm.n y.nm.c)) (hW:eF W wb y.nm (aZ S.ns) S.ns.length)=>aek wb y.nm.A y.nm.n y.nm.c S.ns s W h0 hW.1 hW.2.1 (by rw[hW.2.1];have:=hS.ns;omega));have HV:=aa (λW (hW:eF W wb y.an (ints S.an) S.an.length)=>aui y.an.A y.an.n y.an.c S.an (Lib.idxOfS S.ns s) i W hW.1 hW.2.1 (by rw[hW.2.1];exact hS.an));have HQ:=aa (show NH S s i=if (kO S.an (Lib.idxOfS S.ns s) i).2≠0 then (S,.er (kO S.an (Lib.idxOfS S.ns s) i).2) else ({S with an:=(kO S.an (Lib.idxOfS S.ns s) i).1},.ok gT) from rfl);generalize kO S.an (Lib.idxOfS S.ns s) i=r at HV HQ;generalize Lib.idxOfS S.ns s=p at iY HV;obtain⟨l,re⟩:=r;simp only at HV HQ;clear h hb hS ha hn hm mO h1 h2 l0 lJ fT;go_in;go_wp2_with fail;refine jr (S:=λW=>W.cell? ⟨wb,16,none⟩=some (.slice y.an.A y.an.n y.an.c)/\W.cell? ⟨w.heap.size,0,none⟩=some (.slice (some ⟨ab,ao,none⟩) n c)/\W.cell? ⟨ab,ao,none⟩=some (.string s)/\W.cell? ⟨w.heap.size,1,none⟩=some (.slice (some ⟨cb,co,none⟩) m d)/\W.cell? ⟨cb,co+1,none⟩=some (.int .i64 i)) 21 ax (jW K0 ya3) (λhS=>?_);have HD:=aa (H1.below ya3);have HF:=aa (HR.fq (HB.drew));generalize (w.alloc (.cells #[.slice (some ⟨ab,ao,none⟩) n c,.slice (some ⟨cb,co,none⟩) m d] 57)).drew=W0 at hS HD HF⊢;clear K0 r0;refine kV 0 rfl hS ya1 ?_;refine kV 1 rfl hS ya1 ?_;refine kV 2 rfl hS ya1 ?_;refine kV 3 rfl hS ya1 ?_;refine kV 4 rfl hS ya1 ?_;refine kV 5 rfl hS ya1 ?_;refine kV 6 rfl hS ya1 ?_;refine kV 7 rfl hS ya1 ?_;refine kV 8 rfl hS ya1 ?_;refine kV 9 rfl hS ya1 ?_;refine kV 11 rfl hS ya1 ?_;refine kV 12 rfl hS ya1 ?_;refine kV 13 rfl hS ya1 ?_;refine kV 14 rfl hS ya1 ?_;refine kR 10 λK hK=>?_;go_simp;refine Calls.mono (by exact iY.out _ (HD.c 0 _ rfl) HD.wm.dt.nm) ?_;rintro _ w4 ⟨rfl,rfl⟩;go_simp;refine hK.out _ _ hS (λhS=>?_);clear hK K;try go_frame
 refine kR 15 λK hK=>?_;go_simp;refine Calls.mono (by exact HV.out _ HD.wm.dt.an) ?_;rintro _ w4 ⟨A4,_,c4,rfl,rfl,oK,hf4,aP⟩;go_simp;simp only at oK⊢;have sq:=HD.wlt;replace HF:=aa (HF.trans (HD.fq aP));replace HD:=aa (HD.below aP);have HP:=aa (show eF w4 wb ⟨A4,l.length,c4⟩ (ints l) l.length from⟨oK,rfl,λb o e=>by have:=hf4 b o _ e;omega⟩);clear oK hf4 sq;refine hK.out _ _ (jW hS aP) (λhS=>?_);clear hK K;try go_frame
 refine kV 16 rfl hS ya1 ?_;refine kV 17 rfl hS ya1 ?_;refine kR 18 λK hK=>?_;go_simp;by_cases he:re=0;case neg=>
  rw[if_pos he]at HQ;refine Calls.mono (by exact atS _ _ _ _ he _) ?_;exact Vq
 subst he;rw[if_neg au]at HQ;refine Calls.mono (by exact atR _ _ _ _) ?_;rintro _ w5 ⟨rfl,rfl⟩;go_simp;refine hK.out _ _ hS (λhS=>?_);clear hK K;try go_frame
 refine kR 19 λK hK=>?_;go_simp;refine hK.out _ _ hS (λhS=>?_);clear hK K;try go_frame
 refine kR 20 λK hK=>?_;go_simp;refine hK.out _ _ hS (λhS=>?_);clear hK K;try go_frame
 refine kL λK hK=>?_;obtain⟨q16,_⟩:=hS;have f16:=HD.f 16;go_simp;have HE:=aa (avm HD HP);exact Vi
theorem avC (B rb wb:Nat) (S:aW) (y:cQ) (A C:aN) (n c m d:Nat) (ws:List ag) (ms:List Int) (w:World) (h:Rm w B rb wb S y) (hS:Gd S) (ha:Rd w A (aZ ws)) (hn:n=ws.length) (hm:Rd w C (ints ms)) (mO:m=ms.length) (h1:0<=ws.length) (h2:1<=ms.length):
  Calls prog 29 #[.pointer (aw rb),.agg #[.slice A n c,.slice C m d]] w (ov B rb w (NI S (ix ms 0))):=by
 have hb:=be w (.cells #[.slice A n c,.slice C m d] 57);obtain⟨cb,co,rfl,fT⟩:=tl (hm.below hb) (k:=0) ae;rw[Nat.add_zero]at fT;generalize ix ms 0=i at fT⊢;have HR:=aa h;have HB:=aa hb;have H1:=aa (h.below hb);have r0:=(h.below hb).at_;have l0:=vY w A (some ⟨cb,co,none⟩) n c m d;have e1:0<m:=ae;have K0:_/\_/\_:=⟨((h.below hb).c 16 (.slice y.an.A y.an.n y.an.c) rfl),l0.2,fT⟩
 have HV:=aa (λW (hW:eF W wb y.an (ints S.an) S.an.length)=>au7 y.an.A y.an.n y.an.c S.an i W hW.1 hW.2.1 (by rw[hW.2.1];exact hS.an));have HQ:=aa (show NI S i=if (oq S.an i).2≠0 then (S,.er (oq S.an i).2) else (S,.ok (Gz++fc (oq S.an i).1)) from rfl);have hz:=aeo S.an i;generalize oq S.an i=r at HV HQ hz;obtain⟨x,re⟩:=r;simp only at HV HQ hz;have k0:=K0.1;have k1:=K0.2.1;have k2:=K0.2.2;clear h hb hS ha hn hm mO h1 h2 l0 fT;go_in;go_wp2_with fail;refine jr (S:=λW=>W.cell? ⟨rb,0,none⟩=some (.pointer (aw wb))/\W.cell? ⟨wb,16,none⟩=some (.slice y.an.A y.an.n y.an.c)/\W.cell? ⟨w.heap.size,1,none⟩=some (.slice (some ⟨cb,co,none⟩) m d)/\W.cell? ⟨cb,co,none⟩=some (.int .i64 i)) 16 ax (yA ⟨r0,K0⟩ ya3) (λhS=>?_);have HD:=aa (H1.below ya3);have HF:=aa (HR.fq (HB.drew));generalize (w.alloc (.cells #[.slice A n c,.slice (some ⟨cb,co,none⟩) m d] 57)).drew=W0 at hS HD HF⊢;clear K0 r0 k0 k1 k2;refine kV 0 rfl hS ya2 ?_;refine kV 1 rfl hS ya2 ?_;refine kV 2 rfl hS ya2 ?_;refine kV 3 rfl hS ya2 ?_;refine kV 4 rfl hS ya2 ?_;refine kV 5 rfl hS ya2 ?_;refine kV 6 rfl hS ya2 ?_;refine kV 7 rfl hS ya2 ?_;refine kV 8 rfl hS ya2 ?_;refine kV 9 rfl hS ya2 ?_;refine kV 10 rfl hS ya2 ?_;refine kR 11 λK hK=>?_;go_simp;refine Calls.mono (by exact HV.out _ HD.wm.dt.an) ?_;rintro _ w4 ⟨rfl,aP⟩;go_simp;replace HF:=aa (HF.trans (HD.fq aP));replace HD:=aa (HD.below aP);refine hK.out _ _ (yA hS aP) (λhS=>?_);clear hK K;try go_frame
 refine kV 12 rfl hS ya2 ?_;refine kV 13 rfl hS ya2 ?_;refine kR 14 λK hK=>?_;go_simp;by_cases he:re=0;case neg=>
  rw[if_pos he]at HQ;refine Calls.mono (by exact atN _ _ he _) ?_;exact Vq
 subst he;rw[if_neg au]at HQ;refine Calls.mono (by exact atM _ _) ?_;rintro _ w5 ⟨rfl,rfl⟩;go_simp;refine hK.out _ _ hS (λhS=>?_);clear hK K;try go_frame
 refine kR 15 λK hK=>?_;go_simp;refine Calls.mono (by exact ad' x _ HD.ld.lv.pow ae ae) ?_;rintro _ w6 ⟨rfl,bO⟩;go_simp;replace HF:=aa (HF.trans (HD.fq bO));replace HD:=aa (HD.below bO);refine hK.out _ _ (yA hS bO) (λhS=>?_);clear hK K;try go_frame
 refine kL λK hK=>?_;go_simp;refine hK.out _ _ ?_;clear hK K;go_wp2;go_ret;exact HD.ok_ HF HQ.out
theorem N1 {l:List ag} (k:Nat) (h:Rd w (some ⟨b,o,none⟩) (aZ l)):Rd w (some ⟨b,o+k,none⟩) (aZ (l.drop k)):=by
 intro i u hu;rw[aZ,nA,List.getElem?_drop]at hu;obtain⟨b',o',e,hc⟩:=h (k+i) u (by rw[aZ,nA];exact hu);injection e with e
 injection e with e1 e2
 subst e1 e2;exact⟨b,o+k,rfl,by rw[Nat.add_assoc];exact hc⟩
theorem avD (B rb wb:Nat) (S:aW) (y:cQ) (A C:aN) (n c m d:Nat) (ws:List ag) (ms:List Int) (w:World) (h:Rm w B rb wb S y) (hS:Gd S) (ha:Rd w A (aZ ws)) (hn:n=ws.length) (hm:Rd w C (ints ms)) (mO:m=ms.length) (h1:2<=ws.length) (h2:1<=ms.length) (mM:n<=c) (hz: ∀x∈ws,x.size<=1000000) (hl:ws.length<=10000) (uO: ∀b o,C=some ⟨b,o,none⟩->b≠wb):
  Calls prog 27 #[.pointer (aw rb),.agg #[.slice A n c,.slice C m d]] w (ov B rb w (NG S (ix ms 0) (ws.drop 1))):=by
 have hb:=be w (.cells #[.slice A n c,.slice C m d] 57);obtain⟨ab,ao,rfl,-⟩:=tk (ha.below hb) (k:=0) ae;obtain⟨cb,co,rfl,fT⟩:=tl (hm.below hb) (k:=0) ae;rw[Nat.add_zero]at fT;have CZ:=uO cb co rfl;have C4:cb<w.heap.size:=by
  obtain⟨b',o',e,hc⟩:=tl hm (k:=0) ae;injection e with e
  injection e with e1 e2
  subst e1;exact cU hc
 generalize ix ms 0=i at fT⊢;have HR:=aa h;have HB:=aa hb;have H1:=aa (h.below hb);have l0:=vY w (some ⟨ab,ao,none⟩) (some ⟨cb,co,none⟩) n c m d;have e1:0<m:=ae;have e2:(1:Int)<=(n:Int):=ae;have e3:n<=c:=mM;have e4: ¬c=1:=ae;have sq:=h.wlt;have Ii:rb≠wb:=by have:=h.lt;have:=h.wm.lo;omega
 have AU:w.heap.size≠wb:=ae;have K0:_/\_/\_/\_:=⟨(h.below hb).at_,l0.1,l0.2,fT⟩
 have fL:n - 1=(ws.drop 1).length:=by rw[List.length_drop];omega
 have HA:=aa (N1 1 (ha.below hb));have HV:=aa (λW cc (hW:Rd W (some ⟨ab,ao+1,none⟩) (aZ (ws.drop 1))) hT=>atH (ws.drop 1) i (some ⟨ab,ao+1,none⟩) (n - 1) cc W hW fL (by rw[List.length_drop];omega) hT (λp hp=>hz p (List.mem_of_mem_drop hp)));have HQ:=aa (show NG S i (ws.drop 1)=if AG (ws.drop 1) i≠0 then (S,.er (AG (ws.drop 1) i)) else ({S with ms:=Ec (ws.drop 1) i,op:=true},.ok gT) from rfl);rw[atI]at HV;clear fL;generalize AG (ws.drop 1) i=re at HV HQ;generalize Ec (ws.drop 1) i=t at HV HQ;generalize ws.drop 1=q at HV HQ HA⊢;clear h hb hS ha hn hm mO h1 h2 l0 fT mM hz hl uO;go_in;go_wp2_with fail;refine jr (S:=λW=>W.cell? ⟨rb,0,none⟩=some (.pointer (aw wb))/\W.cell? ⟨w.heap.size,0,none⟩=some (.slice (some ⟨ab,ao,none⟩) n c)/\W.cell? ⟨w.heap.size,1,none⟩=some (.slice (some ⟨cb,co,none⟩) m d)/\W.cell? ⟨cb,co,none⟩=some (.int .i64 i)) 16 ax (yA K0 ya3) (λhS=>?_);have HD:=aa (H1.below ya3);replace HA:=aa (HA.below ya3);have HF:=aa (HR.fq (HB.drew));generalize (w.alloc (.cells #[.slice (some ⟨ab,ao,none⟩) n c,.slice (some ⟨cb,co,none⟩) m d] 57)).drew=W0 at hS HD HF HA⊢;clear K0;refine kV 0 rfl hS ya2 ?_;refine kV 1 rfl hS ya2 ?_;refine kV 2 rfl hS ya2 ?_;refine kV 3 rfl hS ya2 ?_;refine kV 4 rfl hS ya2 ?_;refine kV 5 rfl hS ya2 ?_;refine kV 6 rfl hS ya2 ?_;refine kV 7 rfl hS ya2 ?_;refine kV 8 rfl hS ya2 ?_;refine kV 9 rfl hS ya2 ?_;refine kV 10 rfl hS ya2 ?_;refine kR 11 λK hK=>?_;go_simp;refine Calls.mono (by exact HV.out _ _ HA HD.ld.lv.arm) ?_;rintro _ w4 ⟨rfl,aP⟩;go_simp;replace HF:=aa (HF.trans (HD.fq aP));replace HD:=aa (HD.below aP);refine hK.out _ _ (yA hS aP) (λhS=>?_);clear hK K;try go_frame
 refine kV 12 rfl hS ya2 ?_;refine kV 13 rfl hS ya2 ?_;refine kR 14 λK hK=>?_;go_simp;by_cases he:re=0;case neg=>
  rw[if_pos he]at HQ;refine Calls.mono (by exact Ed _ _ he _) ?_;exact Vq
 subst he;rw[if_neg au]at HQ;refine Calls.mono (by exact GG _ _) ?_;rintro _ w5 ⟨rfl,rfl⟩;go_simp;refine hK.out _ _ hS (λhS=>?_);clear hK K;try go_frame
 refine kR 15 λK hK=>?_;go_simp;refine Calls.mono (by exact TZ wb t _ _ _ (HD.c 17 _ rfl) (HD.c 18 _ rfl) (HD.f 17) (HD.f 18)) ?_;rintro _ w6 ⟨rfl,rfl⟩;go_simp;have HE:=aa (Us HD t true);refine hK.out _ _ (avq Ii AU AU CZ hS) (λhS=>?_);clear hK K;try go_frame
 refine kL λK hK=>?_;go_simp;exact Vi
def avI (w:World) (pt:Int) (r:ByteArray×Int×Int×az×Int) (e:Ending) (w':World):Prop:=
 ∃v q,e= .returned (.tuple #[.string r.1,.agg #[.int .i64 q,.int .i64 r.2.1,.int .i64 r.2.2.1],v,.int .i64 r.2.2.2.2])/\(r.2.2.2.2=0->q=pt)/\dT w' v r.2.2.2.1/\aD w w'
theorem N2 {P:Program} {fn:Func} {a b t u:Tmp} {ta tb:TypeId} (h:fn.results= #[.tmp t,.cell a ta,.cell b tb,.tmp u]) (tmps:bx) (w:World) (g k:Nat) (ha:tmps.getD a undef= .pointer (aw g)) (hb:tmps.getD b undef= .pointer (aw k)) (x y:Value) (hl:(loadVar ta ⟨g,0,none⟩).run P w= .ok x w) (hk:(loadVar tb ⟨k,0,none⟩).run P w= .ok y w):(results fn tmps).run P w= .ok (.tuple #[tmps.getD t undef,x,y,tmps.getD u undef]) w:=by
 exact Ve
theorem avJ {X:World} {y b c:Value} (da:W.grownBy X (some g)) {Y:World} (fE:X.grownBy Y (some k)) (h1:bj W g #[a,b,c] 82) (h2:bj W k #[x,y] 74) (hb:aD w W) (l1:w.heap.size<=g) (l2:w.heap.size<=k) (aO:g≠k):
  aD w Y/\ ∀A D n m P,PB W A n D m P->PB Y A n D m P:=by
 have e2:=dH da h2 (Ne.symm aO);have hs:=hb.size;have h3:=da.size;exact⟨(hb.trans (iC da l1 hs)).trans (iC fE l2 ae),λA D n m P hp=>(hp.gbT h1 au au da).gbT e2 au au fE⟩
theorem Ki {b c y:Value} (h1:bj W g #[a,b,c] 82) (h2:bj W k #[x,y] 74) (hb:aD w W) (l1:w.heap.size<=g) (l2:w.heap.size<=k) (aO:g≠k) (p q r u v:Value):
  let X:=((((W.setCell ⟨g,0,none⟩ p).setCell ⟨g,1,none⟩ q).setCell ⟨g,2,none⟩ r).setCell ⟨k,0,none⟩ u).setCell ⟨k,1,none⟩ v
  bj X g #[p,q,r] 82/\bj X k #[u,v] 74/\aD w X/\ ∀A D n m P,PB W A n D m P->PB X A n D m P:=by
 intro X;have e1:=bt (bt (bt h1 0 p) 1 q) 2 r;have da:=mE (mE (eE W g 0 p) (eE _ g 1 q)) (eE _ g 2 r);have e2:=dH da h2 (Ne.symm aO);have fE:(((W.setCell ⟨g,0,none⟩ p).setCell ⟨g,1,none⟩ q).setCell ⟨g,2,none⟩ r).grownBy X (some k):=gU _ k 0 1 u v;exact⟨dH fE e1 aO,bt (bt e2 0 u) 1 v,avJ da fE h1 h2 hb l1 l2 aO⟩
structure Nx (W:World) (w:World) (A B:aN) (n c m d:Nat) (P:az) (pt nx lm:Int) (a1 b1 c1:Int):Prop where
 k0:bj W w.heap.size #[.slice A n c,.slice B m d] 74
 k1:bj W (w.heap.size+1) #[.int .i64 a1,.int .i64 b1,.int .i64 c1] 82
 k2:bj W (w.heap.size+1+1) #[.int .i64 0,.int .i64 0,.int .i64 0] 82
 k3:bj W (w.heap.size+1+1+1) #[ay,ay] 74
 k4:bj W (w.heap.size+1+1+1+1) #[.int .i64 pt,.int .i64 nx,.int .i64 lm] 164
 pb:PB W A n B m P
 by_:aD w W
theorem Nx.below {B:aN} {c d:Nat} {P:az} (h:Nx W w A B n c m d P pt nx lm a1 b1 c1) (hb:aD W W'):Nx W' w A B n c m d P pt nx lm a1 b1 c1:=
 ⟨aJ h.k0 hb,aJ h.k1 hb,aJ h.k2 hb,aJ h.k3 hb,aJ h.k4 hb,h.pb.below hb,h.by_.trans (hb.mono h.by_.size)⟩
theorem Nx.put0 {B:aN} {c d:Nat} {P:az} (h:Nx W w A B n c m d P pt nx lm a1 b1 c1) {A' B':aN} {n' c' m' d':Nat} {Q:az} (hp:PB W A' n' B' m' Q):
  Nx ((W.setCell ⟨w.heap.size,0,none⟩ (.slice A' n' c')).setCell ⟨w.heap.size,1,none⟩ (.slice B' m' d')) w A' B' n' c' m' d' Q pt nx lm a1 b1 c1:=by
 have hg:=gU W w.heap.size 0 1 (.slice A' n' c') (.slice B' m' d');exact⟨bt (bt h.k0 0 _) 1 _,dH hg h.k1 ae,dH hg h.k2 ae,dH hg h.k3 ae,dH hg h.k4 ae,hp.gbT h.k0 au au hg,h.by_.trans (iC hg (aM _) h.by_.size)⟩
theorem Nx.put4 {B:aN} {c d:Nat} {P:az} (h:Nx W w A B n c m d P pt nx lm a1 b1 c1) (x y:Int) (i:Nat) (hi:i=1/\x=y\/i=2/\x=y):
  Nx (W.setCell ⟨w.heap.size+1+1+1+1,i,none⟩ (.int .i64 x)) w A B n c m d P pt (if i=1 then x else nx) (if i=2 then x else lm) a1 b1 c1:=by
 have hg:=eE W (w.heap.size+1+1+1+1) i (.int .i64 x);have hb:=h.by_.size;refine⟨dH hg h.k0 ae,dH hg h.k1 ae,dH hg h.k2 ae,dH hg h.k3 ae,?_,h.pb.gbT h.k4 au au hg,h.by_.trans (iC hg ae hb)⟩;have:=bt h.k4 i (.int .i64 x);rcases hi with⟨rfl,_⟩|⟨rfl,_⟩
 ·exact this
 ·exact this
theorem ox {p q r s t p' q' r' s' t':Nat} {v y:Value} (h:W.cell? ⟨p,p',none⟩=some u/\W.cell? ⟨q,q',none⟩=some v/\W.cell? ⟨r,r',none⟩=some x/\W.cell? ⟨s,s',none⟩=some y/\W.cell? ⟨t,t',none⟩=some z) (n:p≠g/\q≠g/\r≠g/\s≠g/\t≠g):
  (W.setCell ⟨g,i,none⟩ a).cell? ⟨p,p',none⟩=some u/\(W.setCell ⟨g,i,none⟩ a).cell? ⟨q,q',none⟩=some v/\(W.setCell ⟨g,i,none⟩ a).cell? ⟨r,r',none⟩=some x/\(W.setCell ⟨g,i,none⟩ a).cell? ⟨s,s',none⟩=some y/\(W.setCell ⟨g,i,none⟩ a).cell? ⟨t,t',none⟩=some z:=
 have e: ∀b k u,b≠g->W.cell? ⟨b,k,none⟩=some u->(W.setCell ⟨g,i,none⟩ a).cell? ⟨b,k,none⟩=some u:=λb k u hb hc=>(fB (bz W ⟨g,i,none⟩ a b hb)).trans hc
 ⟨e _ _ _ n.1 h.1,e _ _ _ n.2.1 h.2.1,e _ _ _ n.2.2.1 h.2.2.1,e _ _ _ n.2.2.2.1 h.2.2.2.1,e _ _ _ n.2.2.2.2 h.2.2.2.2⟩
theorem Nx.put4a {B:aN} {c d:Nat} {P:az} (h:Nx W w A B n c m d P pt nx lm a1 b1 c1) (x:Int):Nx (W.setCell ⟨w.heap.size+1+1+1+1,1,none⟩ (.int .i64 x)) w A B n c m d P pt x lm a1 b1 c1:=h.put4 x x 1 (.inl ⟨rfl,rfl⟩)
theorem Nx.put4b {B:aN} {c d:Nat} {P:az} (h:Nx W w A B n c m d P pt nx lm a1 b1 c1) (x:Int):Nx (W.setCell ⟨w.heap.size+1+1+1+1,2,none⟩ (.int .i64 x)) w A B n c m d P pt nx x a1 b1 c1:=h.put4 x x 2 (.inr ⟨rfl,rfl⟩)
theorem agE (h:P:=by
 refine kR 12 λK hK=>?_;have u0:=aj hz 0 _ rfl;have u1:=aj hz 1 _ rfl;have u2:=aU hz 0;have u3:=aU hz 1;have E:=aa (NZ (c:=c3) (d:=d3) hS ae hz bQ);go_simp;refine hK.out _ _ E.1 (λhS=>?_);try go_frame
 refine kV 13 rfl hS (by intro _ h9;have p0:=aj (H0.out.below h9).k0 0 _ rfl;have p1:=aj (H0.out.below h9).k0 1 _ rfl;have q0:=aj (H0.out.below h9).k4 0 _ rfl;go_simp;try with_reducible rfl) ?_;refine kL λK hK=>?_;go_simp;refine hK.out _ _ ?_;go_wp2;go_meet;case rel=>exact⟨_,A3,n3,c3,B3,m3,d3,rfl,rfl,rfl,E.2.1,E.2.2,ae,H0.below E.1⟩):P:=h
theorem ag9 (h:P:=by
 refine kR 6 λK hK=>?_
 ·go_simp;refine Calls.mono (by exact CA.out _ (H0.below hS).pb) ?_;rintro _ w3 ⟨_,rfl,⟨A3,n3,c3,B3,m3,d3,rfl,bQ⟩,aL⟩;go_simp;simp only at bQ⊢;replace hz:=aJ hz aL;refine hK.out _ _ (hS.trans (aL.mono hS.size)) (λhS=>?_);try go_frame
  refine kV 7 rfl hS (by intro _ h9;have p0:=aj (H0.out.below h9).k0 0 _ rfl;have p1:=aj (H0.out.below h9).k0 1 _ rfl;have q0:=aj (H0.out.below h9).k4 0 _ rfl;go_simp;try with_reducible rfl) ?_;refine kV 8 rfl hS (by intro _ h9;have p0:=aj (H0.out.below h9).k0 0 _ rfl;have p1:=aj (H0.out.below h9).k0 1 _ rfl;have q0:=aj (H0.out.below h9).k4 0 _ rfl;go_simp;try with_reducible rfl) ?_;refine kV 9 rfl hS (by intro _ h9;have p0:=aj (H0.out.below h9).k0 0 _ rfl;have p1:=aj (H0.out.below h9).k0 1 _ rfl;have q0:=aj (H0.out.below h9).k4 0 _ rfl;go_simp;try with_reducible rfl) ?_;refine kV 10 rfl hS (by intro _ h9;have p0:=aj (H0.out.below h9).k0 0 _ rfl;have p1:=aj (H0.out.below h9).k0 1 _ rfl;have q0:=aj (H0.out.below h9).k4 0 _ rfl;go_simp;try with_reducible rfl) ?_;exact agE):P:=h
theorem ags (h:P:=by
 have s0:=aj HX.k2 0 _ rfl;have s1:=aj HX.k2 1 _ rfl;have s2:=aj HX.k2 2 _ rfl;have t0:=aj HX.k3 0 _ rfl;have t1:=aj HX.k3 1 _ rfl;have f0:=aU HX.k2 0;have f1:=aU HX.k2 1;have f2:=aU HX.k2 2;have f3:=aU HX.k3 0;have f4:=aU HX.k3 1;go_wp2_with fail;obtain⟨r1,r2,r3,-⟩:=Ki HX.k2 HX.k3 HX.by_ ae ae ae (.int .i64 0) (.int .i64 0) (.int .i64 0) (ay) (ay);refine bodyPost_ret (N2 rfl _ _ (w.heap.size+1+1) (w.heap.size+1+1+1) ah ah _ _ (GN r1) (eP r2)) rfl ?_;rw[HQ.out];exact⟨_,0,rfl,λh=>absurd h au,dT.no _,r3⟩):P:=h
theorem ahb (h:P:=by
 refine bodyPost_ret (N2 rfl _ _ (w.heap.size+1+1) (w.heap.size+1+1+1) ah ah _ _ (GN r1) (eP r2)) rfl ?_;rw[HQ.out];exact⟨_,pt,rfl,λ_=>rfl,⟨_,_,_,_,_,_,rfl,r4 _ _ _ _ _ HX.pb⟩,r3⟩):P:=h
theorem avK (A B:aN) (n c m d:Nat) (P:az) (pt nx lm:Int) (w:World) (h:PB w A n B m P) (hn:n<=1000000) (hm:m<=1000000) (QE:pt<=9223372036854775000) (hP:uv w):
  Calls prog 100 #[.agg #[.slice A n c,.slice B m d],.agg #[.int .i64 pt,.int .i64 nx,.int .i64 lm],.int .i64 (-1)] w (avI w pt (fN P pt nx lm)):=by
 obtain⟨k0,k1,k2,k3,k4,kb⟩:=Tr w #[.slice A n c,.slice B m d] #[.int .i64 pt,.int .i64 nx,.int .i64 lm] #[.int .i64 0,.int .i64 0,.int .i64 0] #[ay,ay] #[.int .i64 pt,.int .i64 nx,.int .i64 lm] 74 82 82 74 164;have HX:=aa (show Nx _ w A B n c m d P pt nx lm pt nx lm from⟨k0,k1,k2,k3,k4,h.below kb,kb⟩);have HW:=aa (hP.below kb);go_in;go_wp2_with fail;refine (avE (w.heap.size+1+1+1+1) nx lm _ (aj HX.k4 1 _ rfl) (aj HX.k4 2 _ rfl)).mono ?_;rintro e w1 ⟨rfl,aG⟩;replace HX:=aa (HX.below aG);replace HW:=aa (HW.below aG);by_cases hr: ¬(0<=nx/\nx<=lm/\lm<=pX)
 ·have HQ:=aa (show fN P pt nx lm=(bo,0,0,bI,1) by unfold fN;rw[if_pos hr]);have e1:GO nx lm=false:=by
   unfold GO;by_cases h1:0<=nx<;>by_cases h2:nx<=lm<;>by_cases h3:lm<=pX<;>simp[h1,h2,h3];exact hr ⟨h1,h2,h3⟩
  rw[e1];exact ags
 have hr:=Decidable.not_not.1 hr;have e1:GO nx lm=true:=by
  unfold GO;rw[decide_eq_true hr.1,decide_eq_true hr.2.1,decide_eq_true hr.2.2];rfl
 rw[e1];obtain⟨Qz,eS,ed⟩:=hr;have Lg:lm<=1000000000:=ed;have q0:=aj HX.k4 0 _ rfl;have q1:=aj HX.k4 1 _ rfl;have q2:=aj HX.k4 2 _ rfl;have p0:=aj HX.k0 0 _ rfl;have p1:=aj HX.k0 1 _ rfl;have w1':IntKind.i64.wrap (nx+1)=nx+1:=IntWalk.i64_in _ ae;by_cases aK:nx<lm
 ·have HQ:=aa (show fN P pt nx lm=(jS nx,nx+1,lm,P,0) by unfold fN;rw[if_neg ae,if_pos aK]);obtain⟨k,rfl⟩:=Int.eq_ofNat_of_zero_le Qz;go_wp2_with fail;refine (avH A B n c m d P _ HX.pb hn hm).mono ?_;rintro e w2 ⟨A2,n2,c2,B2,m2,d2,rfl,rx,av⟩;have j9:=aa (HX.below av);replace HX:=aa ((HX.below av).put0 (c':=c2) (d':=d2) rx);have g0:=aj j9.k0 0 _ rfl;have g1:=aj j9.k0 1 _ rfl;have g4:=aj j9.k4 1 _ rfl;have g2:=aU j9.k0 0;have g3:=aU j9.k0 1;go_wp2_with fail;generalize (w2.setCell ⟨w.heap.size,0,none⟩ (.slice A2 n2 c2)).setCell ⟨w.heap.size,1,none⟩ (.slice B2 m2 d2)=w5 at HX⊢;refine (aep k _ (by unfold pX;omega)).mono ?_;rintro e w3 ⟨rfl,aL⟩;replace HX:=aa (HX.below aL);have q1:=aj HX.k4 1 _ rfl;have f1:=aU HX.k4 1;go_wp2_with fail;replace HX:=aa (HX.put4a ((k:Int)+1));generalize w3.setCell ⟨w.heap.size+1+1+1+1,1,none⟩ (.int .i64 ((k:Int)+1))=w4 at HX⊢;refine jr (S:=λW=>W.cell? ⟨w.heap.size+1+1+1+1,0,none⟩=some (.int .i64 pt)/\W.cell? ⟨w.heap.size+1+1+1+1,1,none⟩=some (.int .i64 ((k:Int)+1))/\W.cell? ⟨w.heap.size+1+1+1+1,2,none⟩=some (.int .i64 lm)/\W.cell? ⟨w.heap.size,0,none⟩=some (.slice A2 n2 c2)/\W.cell? ⟨w.heap.size,1,none⟩=some (.slice B2 m2 d2)) 7 ax ⟨aj HX.k4 0 _ rfl,aj HX.k4 1 _ rfl,aj HX.k4 2 _ rfl,aj HX.k0 0 _ rfl,aj HX.k0 1 _ rfl⟩ (λhS=>?_);replace HX:=aa (HX.below ya3);generalize w4.drew=w5 at hS HX⊢;have s0:=aj HX.k2 0 _ rfl;have s1:=aj HX.k2 1 _ rfl;have s2:=aj HX.k2 2 _ rfl;have t0:=aj HX.k3 0 _ rfl;have t1:=aj HX.k3 1 _ rfl;have f0:=aU HX.k2 0;have f1:=aU HX.k2 1;have f2:=aU HX.k2 2;have f3:=aU HX.k3 0;have f4:=aU HX.k3 1;refine kV 0 rfl hS ya1 ?_;refine kV 1 rfl hS ya1 ?_;refine kV 2 rfl hS ya1 ?_;refine kV 3 rfl hS ya1 ?_;refine kV 4 rfl hS ya1 ?_;refine kR 5 λK hK=>?_;go_simp;refine hK.out _ _ (ox (ox (ox hS ae) ae) ae) (λhS=>?_);try go_frame
  refine kR 6 λK hK=>?_;go_simp;refine hK.out _ _ (ox (ox hS ae) ae) (λhS=>?_);try go_frame
  refine kL λK hK=>?_;go_simp;refine hK.out _ _ ?_;go_wp2_with fail;obtain⟨r1,r2,r3,r4⟩:=Ki HX.k2 HX.k3 HX.by_ ae ae ae (.int .i64 pt) (.int .i64 ((k:Int)+1)) (.int .i64 lm) (.slice A2 n2 c2) (.slice B2 m2 d2);exact ahb
 obtain rfl:nx=lm:=ae;obtain⟨k,rfl⟩:=Int.eq_ofNat_of_zero_le Qz;have wl:IntKind.i64.wrap ((k:Int)+16)=(k:Int)+16:=IntWalk.i64_in _ ae;have e2: ¬((k:Int)<(k:Int)):=ae;by_cases tN:pX<(k:Int)+16
 ·have HQ:=aa (show fN P pt k k=(bo,0,0,bI,150) by unfold fN;rw[if_neg ae,if_neg ae,if_pos tN]);have e3:(1000000000:Int)<(k:Int)+16:=tN;exact ags
 have d3:decide ((k:Int)+16>1000000000)=false:=decide_eq_false tN;have HQ:=aa (show fN P pt k k=if (eC P pt (fc ((k:Int)+16)) (-1)).2.2≠0 then (bo,0,0,bI,(eC P pt (fc ((k:Int)+16)) (-1)).2.2) else if (eC P pt (fc ((k:Int)+16)) (-1)).2.1=false then (bo,(k:Int),(k:Int),(eC P pt (fc ((k:Int)+16)) (-1)).1,0) else (jS k,(k:Int)+1,(k:Int)+16,(eC P pt (fc ((k:Int)+16)) (-1)).1,0) by unfold fN;rw[if_neg ae,if_neg ae,if_neg tN]);have CA:=aa (λW (hW:PB W A n B m P)=>Nq (.agg #[.slice A n c,.slice B m d]) P pt (-1) (fc ((k:Int)+16)) W ⟨_,_,_,_,_,_,rfl,hW⟩ QE);have ZG:=aa (λW hp h2=>avF (w.heap.size+1+1+1+1) (k:Int) W hp ae ed h2);have hk9: ¬((k:Int)+16>1000000000):=tN;generalize fc ((k:Int)+16)=tx at CA ZG HQ;generalize eC P pt tx (-1)=r at CA HQ;obtain⟨Q,wh,er⟩:=r;simp only at CA HQ;go_upto_region 8 with fail
 go_cut [11,12,13] from 16 (λBk Yf Zp wx=> ∃g A3 n3 c3 B3 m3 d3,Bk= .pointer (aw g)/\Yf= .bool wh/\Zp= .int .i64 er/\bj wx g #[.slice A3 n3 c3,.slice B3 m3 d3] 74/\PB wx A3 n3 B3 m3 Q/\w.heap.size+5<=g/\Nx wx w A B n c m d P pt k k pt k k);case first=>
  have H0:=aa (HX.below ya3);have H5:=aa (HW.below ya3);have fS:w.heap.size+5<=w1.drew.heap.size:=by have:=bf H0.k4;omega
  refine jr (S:=λW=>Below w1.drew.heap.size w1.drew W) 14 ax (aI _ _) (λhS=>?_);generalize w1.drew=w0 at hS H0 H5 fS⊢;refine kV 0 rfl hS (by intro _ h9;have p0:=aj (H0.out.below h9).k0 0 _ rfl;have p1:=aj (H0.out.below h9).k0 1 _ rfl;have q0:=aj (H0.out.below h9).k4 0 _ rfl;go_simp;try with_reducible rfl) ?_;refine kV 1 rfl hS (by intro _ h9;have p0:=aj (H0.out.below h9).k0 0 _ rfl;have p1:=aj (H0.out.below h9).k0 1 _ rfl;have q0:=aj (H0.out.below h9).k4 0 _ rfl;go_simp;try with_reducible rfl) ?_;refine kV 2 rfl hS (by intro _ h9;have p0:=aj (H0.out.below h9).k0 0 _ rfl;have p1:=aj (H0.out.below h9).k0 1 _ rfl;have q0:=aj (H0.out.below h9).k4 0 _ rfl;go_simp;try with_reducible rfl) ?_;refine kV 3 rfl hS (by intro _ h9;have p0:=aj (H0.out.below h9).k0 0 _ rfl;have p1:=aj (H0.out.below h9).k0 1 _ rfl;have q0:=aj (H0.out.below h9).k4 0 _ rfl;go_simp;try with_reducible rfl) ?_;refine kV 5 rfl hS (by intro _ h9;have p0:=aj (H0.out.below h9).k0 0 _ rfl;have p1:=aj (H0.out.below h9).k0 1 _ rfl;have q0:=aj (H0.out.below h9).k4 0 _ rfl;go_simp;try with_reducible rfl) ?_;refine kR2 4 11 (λK hK=>?_) (λK hK=>?_)
  ·go_simp;refine Calls.mono (by exact ZG.out _ (H5.below hS) (aj (H0.below hS).k4 2 _ rfl)) ?_;rintro _ w2 ⟨rfl,av⟩;go_simp;refine hK.out _ _ (hS.trans (av.mono hS.size)) (λhS=>?_);try go_frame
   refine kR2 6 11 (λK hK=>?_) (λK hK=>?_)
   ·go_simp;refine Calls.mono (by exact CA.out _ (H0.below hS).pb) ?_;rintro _ w3 ⟨_,rfl,⟨A3,n3,c3,B3,m3,d3,rfl,bQ⟩,aL⟩;go_simp;simp only at bQ⊢;refine hK.out _ _ (hS.trans (aL.mono hS.size)) (λhS=>?_);try go_frame
    refine kV 7 rfl hS (by intro _ h9;have p0:=aj (H0.out.below h9).k0 0 _ rfl;have p1:=aj (H0.out.below h9).k0 1 _ rfl;have q0:=aj (H0.out.below h9).k4 0 _ rfl;go_simp;try with_reducible rfl) ?_;refine kV 8 rfl hS (by intro _ h9;have p0:=aj (H0.out.below h9).k0 0 _ rfl;have p1:=aj (H0.out.below h9).k0 1 _ rfl;have q0:=aj (H0.out.below h9).k4 0 _ rfl;go_simp;try with_reducible rfl) ?_;refine kV 9 rfl hS (by intro _ h9;have p0:=aj (H0.out.below h9).k0 0 _ rfl;have p1:=aj (H0.out.below h9).k0 1 _ rfl;have q0:=aj (H0.out.below h9).k4 0 _ rfl;go_simp;try with_reducible rfl) ?_;refine kV 10 rfl hS (by intro _ h9;have p0:=aj (H0.out.below h9).k0 0 _ rfl;have p1:=aj (H0.out.below h9).k0 1 _ rfl;have q0:=aj (H0.out.below h9).k4 0 _ rfl;go_simp;try with_reducible rfl) ?_;refine kR 11 λK hK=>?_
    ·go_simp;have hz:=aR w3 (.cells #[ay,ay] 74);have hl:=hS.size;replace bQ:=PB.below bQ (be w3 (.cells #[ay,ay] 74));have bn:=hS.alloc hS.size (.cells #[ay,ay] 74);refine hK.out _ _ bn (λhS=>?_);try go_frame
     generalize w3.alloc (.cells #[ay,ay] 74)=w9 at hS hz bn bQ⊢;exact agE
   ·go_simp;have hz:=aR w2 (.cells #[ay,ay] 74);have hl:=hS.size;have bn:=hS.alloc hS.size (.cells #[ay,ay] 74);refine hK.out _ _ bn (λhS=>?_);try go_frame
    generalize w2.alloc (.cells #[ay,ay] 74)=w9 at hS hz bn⊢;exact ag9
  ·go_simp;have hz:=aR w0 (.cells #[ay,ay] 74);have hl:=hS.size;have bn:=hS.alloc hS.size (.cells #[ay,ay] 74);refine hK.out _ _ bn (λhS=>?_);try go_frame
   generalize w0.alloc (.cells #[ay,ay] 74)=w9 at hS hz bn⊢;refine kR 4 λK hK=>?_
   ·go_simp;refine Calls.mono (by exact ZG.out _ (H5.below hS) (aj (H0.below hS).k4 2 _ rfl)) ?_;rintro _ w2 ⟨rfl,av⟩;go_simp;replace hz:=aJ hz av;refine hK.out _ _ (hS.trans (av.mono hS.size)) (λhS=>?_);try go_frame
    exact ag9
 case rest=>
  obtain⟨g,A3,n3,c3,B3,m3,d3,rfl,rfl,rfl,hg,hp,FE,hx⟩:=hcut;replace HX:=aa hx;have HG:=aa hg;have jL:=aa hp;by_cases he:er=0;case neg=>
   rw[if_pos he]at HQ;have d5:(er !=0)=true:=(by simpa using he);have s0:=aj HX.k2 0 _ rfl;have s1:=aj HX.k2 1 _ rfl;have s2:=aj HX.k2 2 _ rfl;have t0:=aj HX.k3 0 _ rfl;have t1:=aj HX.k3 1 _ rfl;have f0:=aU HX.k2 0;have f1:=aU HX.k2 1;have f2:=aU HX.k2 2;have f3:=aU HX.k3 0;have f4:=aU HX.k3 1;go_wp2_with fail;obtain⟨r1,r2,r3,-⟩:=Ki HX.k2 HX.k3 HX.by_ ae ae ae (.int .i64 0) (.int .i64 0) (.int .i64 0) (ay) (ay);refine bodyPost_ret (N2 rfl _ _ (w.heap.size+1+1) (w.heap.size+1+1+1) ah ah _ _ (GN r1) (eP r2)) rfl ?_;rw[HQ.out];exact⟨_,0,rfl,λh=>absurd h he,dT.no _,r3⟩
  subst he;rw[if_neg au]at HQ;have d5:((0:Int) !=0)=false:=rfl;cases wh with
  |false=>
   rw[if_pos rfl]at HQ;go_wp2_with fail;refine jr (S:=λW=>W.cell? ⟨w.heap.size+1,0,none⟩=some (.int .i64 pt)/\W.cell? ⟨w.heap.size+1,1,none⟩=some (.int .i64 (k:Int))/\W.cell? ⟨w.heap.size+1,2,none⟩=some (.int .i64 (k:Int))/\W.cell? ⟨g,0,none⟩=some (.slice A3 n3 c3)/\W.cell? ⟨g,1,none⟩=some (.slice B3 m3 d3)) 5 ax ⟨aj HX.k1 0 _ rfl,aj HX.k1 1 _ rfl,aj HX.k1 2 _ rfl,aj HG 0 _ rfl,aj HG 1 _ rfl⟩ (λhS=>?_);replace HX:=aa (HX.below ya3);replace jL:=aa (jL.below ya3);generalize wc.drew=w5 at hS HX jL⊢;have s0:=aj HX.k2 0 _ rfl;have s1:=aj HX.k2 1 _ rfl;have s2:=aj HX.k2 2 _ rfl;have t0:=aj HX.k3 0 _ rfl;have t1:=aj HX.k3 1 _ rfl;have f0:=aU HX.k2 0;have f1:=aU HX.k2 1;have f2:=aU HX.k2 2;have f3:=aU HX.k3 0;have f4:=aU HX.k3 1;refine kV 0 rfl hS ya1 ?_;refine kV 1 rfl hS ya1 ?_;refine kV 2 rfl hS ya1 ?_;refine kR 3 λK hK=>?_;go_simp;refine hK.out _ _ (ox (ox (ox hS ae) ae) ae) (λhS=>?_);try go_frame
   refine kR 4 λK hK=>?_;go_simp;refine hK.out _ _ (ox (ox hS ae) ae) (λhS=>?_);try go_frame
   refine kL λK hK=>?_;go_simp;refine hK.out _ _ ?_;go_wp2_with fail;obtain⟨r1,r2,r3,r4⟩:=Ki HX.k2 HX.k3 HX.by_ ae ae ae (.int .i64 pt) (.int .i64 (k:Int)) (.int .i64 (k:Int)) (.slice A3 n3 c3) (.slice B3 m3 d3);refine bodyPost_ret (N2 rfl _ _ (w.heap.size+1+1) (w.heap.size+1+1+1) ah ah _ _ (GN r1) (eP r2)) rfl ?_;rw[HQ.out];exact⟨_,pt,rfl,λ_=>rfl,⟨_,_,_,_,_,_,rfl,r4 _ _ _ _ _ jL⟩,r3⟩
  |true=>
   rw[if_neg au]at HQ;have g0:=aj HX.k0 0 _ rfl;have g1:=aj HX.k0 1 _ rfl;have g4:=aj HX.k4 1 _ rfl;have g5:=aj HX.k4 2 _ rfl;have g2:=aU HX.k0 0;have g3:=aU HX.k0 1;have g6:=aU HX.k4 2;have y0:=aj HG 0 _ rfl;have y1:=aj HG 1 _ rfl;replace HX:=aa ((HX.put0 (c':=c3) (d':=d3) jL).put4b ((k:Int)+16));go_wp2_with fail;generalize ((wc.setCell ⟨w.heap.size,0,none⟩ (.slice A3 n3 c3)).setCell ⟨w.heap.size,1,none⟩ (.slice B3 m3 d3)).setCell ⟨w.heap.size+1+1+1+1,2,none⟩ (.int .i64 ((k:Int)+16))=w5 at HX⊢;refine (aep k _ (by unfold pX;omega)).mono ?_;rintro e w3 ⟨rfl,aL⟩;replace HX:=aa (HX.below aL);have q1:=aj HX.k4 1 _ rfl;have f1:=aU HX.k4 1;go_wp2_with fail;replace HX:=aa (HX.put4a ((k:Int)+1));generalize w3.setCell ⟨w.heap.size+1+1+1+1,1,none⟩ (.int .i64 ((k:Int)+1))=w4 at HX⊢;refine jr (S:=λW=>W.cell? ⟨w.heap.size+1+1+1+1,0,none⟩=some (.int .i64 pt)/\W.cell? ⟨w.heap.size+1+1+1+1,1,none⟩=some (.int .i64 ((k:Int)+1))/\W.cell? ⟨w.heap.size+1+1+1+1,2,none⟩=some (.int .i64 ((k:Int)+16))/\W.cell? ⟨w.heap.size,0,none⟩=some (.slice A3 n3 c3)/\W.cell? ⟨w.heap.size,1,none⟩=some (.slice B3 m3 d3)) 7 ax ⟨aj HX.k4 0 _ rfl,aj HX.k4 1 _ rfl,aj HX.k4 2 _ rfl,aj HX.k0 0 _ rfl,aj HX.k0 1 _ rfl⟩ (λhS=>?_);replace HX:=aa (HX.below ya3);generalize w4.drew=w5 at hS HX⊢;have s0:=aj HX.k2 0 _ rfl;have s1:=aj HX.k2 1 _ rfl;have s2:=aj HX.k2 2 _ rfl;have t0:=aj HX.k3 0 _ rfl;have t1:=aj HX.k3 1 _ rfl;have f0:=aU HX.k2 0;have f1:=aU HX.k2 1;have f2:=aU HX.k2 2;have f3:=aU HX.k3 0;have f4:=aU HX.k3 1;refine kV 0 rfl hS ya1 ?_;refine kV 1 rfl hS ya1 ?_;refine kV 2 rfl hS ya1 ?_;refine kV 3 rfl hS ya1 ?_;refine kV 4 rfl hS ya1 ?_;refine kR 5 λK hK=>?_;go_simp;refine hK.out _ _ (ox (ox (ox hS ae) ae) ae) (λhS=>?_);try go_frame
   refine kR 6 λK hK=>?_;go_simp;refine hK.out _ _ (ox (ox hS ae) ae) (λhS=>?_);try go_frame
   refine kL λK hK=>?_;go_simp;refine hK.out _ _ ?_;go_wp2_with fail;obtain⟨r1,r2,r3,r4⟩:=Ki HX.k2 HX.k3 HX.by_ ae ae ae (.int .i64 pt) (.int .i64 ((k:Int)+1)) (.int .i64 ((k:Int)+16)) (.slice A3 n3 c3) (.slice B3 m3 d3);exact ahb
theorem kP {a:Nat} {c d:bx} {t u:TypeId} {f f':Nat×Nat} (h1:W.heap[a]?=some (.cells c t f)) (h2:W.heap[b]?=some (.cells d u f')) (aO:t≠u):a≠b:=λe=>by
 subst e;rw[h1]at h2;injection h2 with h2
 injection h2 with _ h2
 exact aO h2
theorem Kj (W:World) (g i j k:Nat) (p q r:Value):W.grownBy (((W.setCell ⟨g,i,none⟩ p).setCell ⟨g,j,none⟩ q).setCell ⟨g,k,none⟩ r) (some g):=mE (gU _ _ _ _ _ _) (eE _ _ _ _)
theorem avL {o:Obj} (h:W.heap[g]?=some o) (i j k:Nat) (p q r:Value):W.grownBy (((W.setCell ⟨g,i,none⟩ p).setCell ⟨g,j,none⟩ q).setCell ⟨g,k,none⟩ r) (some g):=Kj W g i j k p q r
structure Nw (w:World) (B wb:Nat) (S:aW) (y:cQ):Prop where
 wm:Wm w B wb S y
 ld:Ld B w
theorem Rm.nw (h:Rm w B rb wb S y):Nw w B wb S y:=⟨h.wm,h.ld⟩
theorem Nw.below (h:Nw w B wb S y) (hb:aD w w'):Nw w' B wb S y:=⟨h.wm.below hb,h.ld.below hb⟩
theorem Nw.wlt (h:Nw w B wb S y):wb<w.heap.size:=bf h.wm.blk
theorem Nw.c (h:Nw w B wb S y) (k:Nat) (u:Value) (hu:(ou S y)[k]?=some u):w.cell? ⟨wb,k,none⟩=some u:=aj h.wm.blk k u hu
theorem Nw.f (h:Nw w B wb S y) (k:Nat):w.frozen? ⟨wb,k,none⟩=false:=aU h.wm.blk k
theorem Nw.put (h:Nw W B wb S y) (hg:W.grownBy W' (some wb)) (hk:W'.heap[wb]?=some (.cells (ou S' y') 84 (0,0))) (hd:Dt W' B wb S y->Dt W' B wb S' y'):Nw W' B wb S' y':=
 ⟨⟨h.wm.lo,hk,hd (h.wm.dt.gb h.wm.blk hg)⟩,h.ld.gb hg h.wm.lo⟩
theorem aeq (h:Nw W B wb S y) (a b c:Int):Nw (((W.setCell ⟨wb,13,none⟩ (.int .i64 a)).setCell ⟨wb,14,none⟩ (.int .i64 b)).setCell ⟨wb,15,none⟩ (.int .i64 c)) B wb {S with pt:=a,nx:=b,lm:=c} y:=
 h.put (mE (gU _ _ _ _ _ _) (eE _ _ _ _)) (bt (bt (bt h.wm.blk 13 _) 14 _) 15 _) λq=>q.to rfl rfl rfl rfl rfl rfl rfl
theorem aer (h:Nw W B wb S y) {c d:Nat} {P:az} (hp:PB W A n D m P):Nw ((W.setCell ⟨wb,11,none⟩ (.slice A n c)).setCell ⟨wb,12,none⟩ (.slice D m d)) B wb {S with sp:=P} {y with sa:=⟨A,n,c⟩,sb:=⟨D,m,d⟩} :=
 h.put (gU _ _ _ _ _ _) (bt (bt h.wm.blk 11 _) 12 _) λq=>⟨q.nm,q.dk,q.pl,q.rn,q.rq,q.ch,q.bl,hp.gbT h.wm.blk au au (gU _ _ _ _ _ _),q.an⟩
theorem avM (h:Nw W B wb S y) (s:ag) (o:Bool):Nw ((W.setCell ⟨wb,18,none⟩ (.string s)).setCell ⟨wb,17,none⟩ (.bool o)) B wb {S with ms:=s,op:=o} y:=
 h.put (gU _ _ _ _ _ _) (bt (bt h.wm.blk 18 _) 17 _) λq=>q.to rfl rfl rfl rfl rfl rfl rfl
theorem avN (h:Nw W B wb S y) {c:Nat} {l:List Dk} (hp:dC W B A n c l):Nw (W.setCell ⟨wb,1,none⟩ (.slice A n c)) B wb {S with ds:=bu l} {y with dk:=⟨A,n,c⟩,l:=l} :=
 h.put (eE _ _ _ _) (bt h.wm.blk 1 _) λq=>⟨q.nm,hp.gbT h.wm.blk au au au (eE _ _ _ _),rfl,q.rn,q.rq,q.ch,q.bl,q.sp,q.an⟩
theorem avO (h:Nw W B wb S y) (s:ag):Nw (W.setCell ⟨wb,6,none⟩ (.string s)) B wb {S with wr:=s} y:=
 h.put (eE _ _ _ _) (bt h.wm.blk 6 _) λq=>q.to rfl rfl rfl rfl rfl rfl rfl
theorem avP (h:Nw W B wb S y) {c:Nat} (hp:eF W wb ⟨A,n,c⟩ (aZ V.bl) V.bl.length):Nw ((W.setCell ⟨wb,9,none⟩ (.slice A n c)).setCell ⟨wb,10,none⟩ (.string V.rt)) B wb {S with v:=V} {y with bl:=⟨A,n,c⟩} :=
 h.put (gU _ _ _ _ _ _) (bt (bt h.wm.blk 9 _) 10 _) λq=>⟨q.nm,q.dk,q.pl,q.rn,q.rq,q.ch,hp.gb (gU _ _ _ _ _ _),q.sp,q.an⟩
def N3 (B wb:Nat) (y0:cQ) (w:World) (r:aW×ByteArray×Int) (e:Ending) (w':World):Prop:=(if r.2.2=0 then e= .returned (.string r.2.1) else e=ma r.2.2)/\(∃y',Nw w' B wb r.1 y'/\y'.bl=y0.bl)/\w.grownBy w' (some wb)
def avQ (B rb wb:Nat) (y0:cQ) (w:World) (r:aW×ByteArray×Int) (e:Ending) (w':World):Prop:=(if r.2.2=0 then e= .returned (.string r.2.1) else e=ma r.2.2)/\(∃y',Rm w' B rb wb r.1 y'/\y'.bl=y0.bl)/\w.grownBy w' (some wb)
theorem aes {r:Option Nat} (h:aD w w'):w.grownBy w' r:=⟨h.os,h.tape,h.output,h.size,λk hk _=>h.block k hk⟩
theorem avR {r:aW×ByteArray×Int} {x:Int} {t:ag} (h:Nw w' B wb S y) (hg:w.grownBy w' (some wb)) (hr:r=(S,t,x)) (hx:x≠0) (hy:y.bl=y0.bl:=by rfl):N3 B wb y0 w r (ma x) w':=by
 subst hr;exact⟨by simp[hx],⟨y,h,hy⟩,hg⟩
theorem avS {r:aW×ByteArray×Int} {t:ag} (h:Nw w' B wb S y) (hg:w.grownBy w' (some wb)) (hr:r=(S,t,0)) (hy:y.bl=y0.bl:=by rfl):N3 B wb y0 w r (.returned (.string t)) w':=by
 subst hr;exact⟨ak,⟨y,h,hy⟩,hg⟩
theorem Vm (h:P:=by
 refine kV 16 rfl hS (by intro _ h9;have iH:=(H0.out.below h9).c 11 (.slice y.sa.A y.sa.n y.sa.c) rfl;have iM:=(H0.out.below h9).c 12 (.slice y.sb.A y.sb.n y.sb.c) rfl;have iF:=(H0.out.below h9).c 13 (.int .i64 S.pt) rfl;have jf:=(H0.out.below h9).c 14 (.int .i64 S.nx) rfl;have iq:=(H0.out.below h9).c 15 (.int .i64 S.lm) rfl;go_simp;try with_reducible rfl) ?_;refine kR 17 λK hK=>?_;have aO:=kP jw jF au;have u0:=aj jw 0 _ rfl;have u1:=aj jw 1 _ rfl;have u2:=aj jw 2 _ rfl;have v0:=aU jw 0;have v1:=aU jw 1;have v2:=aU jw 2;have e4:=bt (bt (bt jw 0 (.int .i64 q)) 1 (.int .i64 r1)) 2 (.int .i64 r2);have g4:=avL jw 0 1 2 (.int .i64 q) (.int .i64 r1) (.int .i64 r2);replace bQ:=bQ.gbT jw au au g4;replace jF:=dH g4 jF (Ne.symm aO);have bn:=hS.trans (iC g4 Pl hS.size);go_simp;refine hK.out _ _ bn (λhS=>?_);try go_frame
 generalize YZ:((Go.World.setCell _ _ _).setCell _ _).setCell _ _=x8 at bn jF bQ e4⊢;have hS:=bn;refine kR 18 λK hK=>?_;have u0:=aj jF 0 _ rfl;have u1:=aj jF 1 _ rfl;have v0:=aU jF 0;have v1:=aU jF 1;have E:=aa (NZ (c:=c3) (d:=d3) hS ae jF bQ);have e5:=aa (dH (gU x8 _ 0 1 (.slice A3 n3 c3) (.slice B3 m3 d3)) e4 aO);go_simp;refine hK.out _ _ E.1 (λhS=>?_);try go_frame
 refine kL λK hK=>?_;go_simp;refine hK.out _ _ ?_;go_wp2;go_meet;case rel=>exact⟨_,_,q,A3,n3,c3,B3,m3,d3,rfl,rfl,rfl,rfl,e5,E.2.1,E.2.2,hq,ae,ae,H0.below E.1,HB.trans (E.1.mono HB.size)⟩):P:=h
theorem ahu (h:P:=by
 refine kR 8 λK hK=>?_
 ·go_simp;refine Calls.mono (by exact HN.out _ (H0.below hS).wm.dt.sp (H0.below hS).ld.lv.pow) ?_;rintro _ wq ⟨_,q,rfl,hq,⟨A3,n3,c3,B3,m3,d3,rfl,bQ⟩,aL⟩;go_simp;simp only at hq bQ⊢;replace jw:=aJ jw aL;replace jF:=aJ jF aL;refine hK.out _ _ (hS.trans (aL.mono hS.size)) (λhS=>?_);try go_frame
  refine kV 9 rfl hS (by intro _ h9;have iH:=(H0.out.below h9).c 11 (.slice y.sa.A y.sa.n y.sa.c) rfl;have iM:=(H0.out.below h9).c 12 (.slice y.sb.A y.sb.n y.sb.c) rfl;have iF:=(H0.out.below h9).c 13 (.int .i64 S.pt) rfl;have jf:=(H0.out.below h9).c 14 (.int .i64 S.nx) rfl;have iq:=(H0.out.below h9).c 15 (.int .i64 S.lm) rfl;go_simp;try with_reducible rfl) ?_;refine kV 10 rfl hS (by intro _ h9;have iH:=(H0.out.below h9).c 11 (.slice y.sa.A y.sa.n y.sa.c) rfl;have iM:=(H0.out.below h9).c 12 (.slice y.sb.A y.sb.n y.sb.c) rfl;have iF:=(H0.out.below h9).c 13 (.int .i64 S.pt) rfl;have jf:=(H0.out.below h9).c 14 (.int .i64 S.nx) rfl;have iq:=(H0.out.below h9).c 15 (.int .i64 S.lm) rfl;go_simp;try with_reducible rfl) ?_;refine kV 11 rfl hS (by intro _ h9;have iH:=(H0.out.below h9).c 11 (.slice y.sa.A y.sa.n y.sa.c) rfl;have iM:=(H0.out.below h9).c 12 (.slice y.sb.A y.sb.n y.sb.c) rfl;have iF:=(H0.out.below h9).c 13 (.int .i64 S.pt) rfl;have jf:=(H0.out.below h9).c 14 (.int .i64 S.nx) rfl;have iq:=(H0.out.below h9).c 15 (.int .i64 S.lm) rfl;go_simp;try with_reducible rfl) ?_;refine kV 12 rfl hS (by intro _ h9;have iH:=(H0.out.below h9).c 11 (.slice y.sa.A y.sa.n y.sa.c) rfl;have iM:=(H0.out.below h9).c 12 (.slice y.sb.A y.sb.n y.sb.c) rfl;have iF:=(H0.out.below h9).c 13 (.int .i64 S.pt) rfl;have jf:=(H0.out.below h9).c 14 (.int .i64 S.nx) rfl;have iq:=(H0.out.below h9).c 15 (.int .i64 S.lm) rfl;go_simp;try with_reducible rfl) ?_;refine kV 13 rfl hS (by intro _ h9;have iH:=(H0.out.below h9).c 11 (.slice y.sa.A y.sa.n y.sa.c) rfl;have iM:=(H0.out.below h9).c 12 (.slice y.sb.A y.sb.n y.sb.c) rfl;have iF:=(H0.out.below h9).c 13 (.int .i64 S.pt) rfl;have jf:=(H0.out.below h9).c 14 (.int .i64 S.nx) rfl;have iq:=(H0.out.below h9).c 15 (.int .i64 S.lm) rfl;go_simp;try with_reducible rfl) ?_;exact Vm):P:=h
theorem ahG (h:P:=by
 refine kR 14 λK hK=>?_
 ·go_simp;have jw:=aR wq (.cells #[.int .i64 0,.int .i64 0,.int .i64 0] 82);have Pl:=hS.size;replace bQ:=PB.below bQ (be wq (.cells #[.int .i64 0,.int .i64 0,.int .i64 0] 82));replace jF:=aJ jF (be wq (.cells #[.int .i64 0,.int .i64 0,.int .i64 0] 82));have bn:=hS.alloc hS.size (.cells #[.int .i64 0,.int .i64 0,.int .i64 0] 82);refine hK.out _ _ bn (λhS=>?_);try go_frame
  generalize wq.alloc (.cells #[.int .i64 0,.int .i64 0,.int .i64 0] 82)=wq at hS bn jw bQ jF⊢;exact Vm):P:=h
theorem af3 (h:P:=by
 refine kR 15 λK hK=>?_
 ·go_simp;have jF:=aR wq (.cells #[ay,ay] 74);have XL:=hS.size;replace bQ:=PB.below bQ (be wq (.cells #[ay,ay] 74));replace jw:=aJ jw (be wq (.cells #[ay,ay] 74));have bn:=hS.alloc hS.size (.cells #[ay,ay] 74);refine hK.out _ _ bn (λhS=>?_);try go_frame
  generalize wq.alloc (.cells #[ay,ay] 74)=wq at hS bn jF bQ jw⊢;exact Vm):P:=h
theorem aet (B wb:Nat) (S:aW) (y:cQ) (w:World) (h:Nw w B wb S y) (hS:Gd S):
  Calls prog 52 #[.pointer (aw wb)] w (N3 B wb y w (dX S)):=by
 have HN:=aa (λW (hW:PB W y.sa.A y.sa.n y.sb.A y.sb.n S.sp) hP=>avK y.sa.A y.sb.A y.sa.n y.sa.c y.sb.n y.sb.c S.sp S.pt S.nx S.lm W hW (by rw[hW.hn];exact hS.sp.1) (by rw[hW.hm];exact hS.sp.2.1) (by rw[hS.pt];decide) hP);have HQ:=aa (show dX S=if (fN S.sp S.pt S.nx S.lm).2.2.2.2≠0 then (S,bo,(fN S.sp S.pt S.nx S.lm).2.2.2.2) else ({S with nx:=(fN S.sp S.pt S.nx S.lm).2.1,lm:=(fN S.sp S.pt S.nx S.lm).2.2.1,sp:=(fN S.sp S.pt S.nx S.lm).2.2.2.1},(fN S.sp S.pt S.nx S.lm).1,0) from rfl);generalize fN S.sp S.pt S.nx S.lm=r at HN HQ;obtain⟨t,r1,r2,Q,er⟩:=r;simp only at HN HQ;have HR:=aa h;go_in;go_upto_region 1 with fail
 go_cut [3,4,5,6] from 7 (λs3 s4 s5 s6 wx=> ∃g4 g5 q A3 n3 c3 B3 m3 d3,s3= .string t/\s4= .pointer (aw g4)/\s5= .pointer (aw g5)/\s6= .int .i64 er/\bj wx g4 #[.int .i64 q,.int .i64 r1,.int .i64 r2] 82/\bj wx g5 #[.slice A3 n3 c3,.slice B3 m3 d3] 74/\PB wx A3 n3 B3 m3 Q/\(er=0->q=S.pt)/\w.heap.size<=g4/\w.heap.size<=g5/\Nw wx B wb S y/\aD w wx);case first=>
  have H0:=aa (HR.below ya3);have HB:=aa (tq w);have fS:w.heap.size<=w.drew.heap.size:=aM _;refine jr (S:=λW=>Below w.drew.heap.size w.drew W) 19 ax (aI _ _) (λhS=>?_);generalize w.drew=w0 at hS H0 HB fS⊢;refine kV 0 rfl hS (by intro _ h9;have iH:=(H0.out.below h9).c 11 (.slice y.sa.A y.sa.n y.sa.c) rfl;have iM:=(H0.out.below h9).c 12 (.slice y.sb.A y.sb.n y.sb.c) rfl;have iF:=(H0.out.below h9).c 13 (.int .i64 S.pt) rfl;have jf:=(H0.out.below h9).c 14 (.int .i64 S.nx) rfl;have iq:=(H0.out.below h9).c 15 (.int .i64 S.lm) rfl;go_simp;try with_reducible rfl) ?_;refine kV 1 rfl hS (by intro _ h9;have iH:=(H0.out.below h9).c 11 (.slice y.sa.A y.sa.n y.sa.c) rfl;have iM:=(H0.out.below h9).c 12 (.slice y.sb.A y.sb.n y.sb.c) rfl;have iF:=(H0.out.below h9).c 13 (.int .i64 S.pt) rfl;have jf:=(H0.out.below h9).c 14 (.int .i64 S.nx) rfl;have iq:=(H0.out.below h9).c 15 (.int .i64 S.lm) rfl;go_simp;try with_reducible rfl) ?_;refine kV 2 rfl hS (by intro _ h9;have iH:=(H0.out.below h9).c 11 (.slice y.sa.A y.sa.n y.sa.c) rfl;have iM:=(H0.out.below h9).c 12 (.slice y.sb.A y.sb.n y.sb.c) rfl;have iF:=(H0.out.below h9).c 13 (.int .i64 S.pt) rfl;have jf:=(H0.out.below h9).c 14 (.int .i64 S.nx) rfl;have iq:=(H0.out.below h9).c 15 (.int .i64 S.lm) rfl;go_simp;try with_reducible rfl) ?_;refine kV 3 rfl hS (by intro _ h9;have iH:=(H0.out.below h9).c 11 (.slice y.sa.A y.sa.n y.sa.c) rfl;have iM:=(H0.out.below h9).c 12 (.slice y.sb.A y.sb.n y.sb.c) rfl;have iF:=(H0.out.below h9).c 13 (.int .i64 S.pt) rfl;have jf:=(H0.out.below h9).c 14 (.int .i64 S.nx) rfl;have iq:=(H0.out.below h9).c 15 (.int .i64 S.lm) rfl;go_simp;try with_reducible rfl) ?_;refine kV 4 rfl hS (by intro _ h9;have iH:=(H0.out.below h9).c 11 (.slice y.sa.A y.sa.n y.sa.c) rfl;have iM:=(H0.out.below h9).c 12 (.slice y.sb.A y.sb.n y.sb.c) rfl;have iF:=(H0.out.below h9).c 13 (.int .i64 S.pt) rfl;have jf:=(H0.out.below h9).c 14 (.int .i64 S.nx) rfl;have iq:=(H0.out.below h9).c 15 (.int .i64 S.lm) rfl;go_simp;try with_reducible rfl) ?_;refine kV 5 rfl hS (by intro _ h9;have iH:=(H0.out.below h9).c 11 (.slice y.sa.A y.sa.n y.sa.c) rfl;have iM:=(H0.out.below h9).c 12 (.slice y.sb.A y.sb.n y.sb.c) rfl;have iF:=(H0.out.below h9).c 13 (.int .i64 S.pt) rfl;have jf:=(H0.out.below h9).c 14 (.int .i64 S.nx) rfl;have iq:=(H0.out.below h9).c 15 (.int .i64 S.lm) rfl;go_simp;try with_reducible rfl) ?_;refine kV 6 rfl hS (by intro _ h9;have iH:=(H0.out.below h9).c 11 (.slice y.sa.A y.sa.n y.sa.c) rfl;have iM:=(H0.out.below h9).c 12 (.slice y.sb.A y.sb.n y.sb.c) rfl;have iF:=(H0.out.below h9).c 13 (.int .i64 S.pt) rfl;have jf:=(H0.out.below h9).c 14 (.int .i64 S.nx) rfl;have iq:=(H0.out.below h9).c 15 (.int .i64 S.lm) rfl;go_simp;try with_reducible rfl) ?_;refine kV 7 rfl hS (by intro _ h9;have iH:=(H0.out.below h9).c 11 (.slice y.sa.A y.sa.n y.sa.c) rfl;have iM:=(H0.out.below h9).c 12 (.slice y.sb.A y.sb.n y.sb.c) rfl;have iF:=(H0.out.below h9).c 13 (.int .i64 S.pt) rfl;have jf:=(H0.out.below h9).c 14 (.int .i64 S.nx) rfl;have iq:=(H0.out.below h9).c 15 (.int .i64 S.lm) rfl;go_simp;try with_reducible rfl) ?_;refine Uq (rs:= [8,14,15]) ax ak ax (qb.cons rfl (λK hK=>?_) (qb.cons rfl (λK hK=>?_) (qb.cons rfl (λK hK=>?_) qb.nil)))
  ·go_simp;refine Calls.mono (by exact HN.out _ (H0.below hS).wm.dt.sp (H0.below hS).ld.lv.pow) ?_;rintro _ wq ⟨_,q,rfl,hq,⟨A3,n3,c3,B3,m3,d3,rfl,bQ⟩,aL⟩;go_simp;simp only at hq bQ⊢;refine hK.out _ _ (hS.trans (aL.mono hS.size)) (λhS=>?_);try go_frame
   refine kV 9 rfl hS (by intro _ h9;have iH:=(H0.out.below h9).c 11 (.slice y.sa.A y.sa.n y.sa.c) rfl;have iM:=(H0.out.below h9).c 12 (.slice y.sb.A y.sb.n y.sb.c) rfl;have iF:=(H0.out.below h9).c 13 (.int .i64 S.pt) rfl;have jf:=(H0.out.below h9).c 14 (.int .i64 S.nx) rfl;have iq:=(H0.out.below h9).c 15 (.int .i64 S.lm) rfl;go_simp;try with_reducible rfl) ?_;refine kV 10 rfl hS (by intro _ h9;have iH:=(H0.out.below h9).c 11 (.slice y.sa.A y.sa.n y.sa.c) rfl;have iM:=(H0.out.below h9).c 12 (.slice y.sb.A y.sb.n y.sb.c) rfl;have iF:=(H0.out.below h9).c 13 (.int .i64 S.pt) rfl;have jf:=(H0.out.below h9).c 14 (.int .i64 S.nx) rfl;have iq:=(H0.out.below h9).c 15 (.int .i64 S.lm) rfl;go_simp;try with_reducible rfl) ?_;refine kV 11 rfl hS (by intro _ h9;have iH:=(H0.out.below h9).c 11 (.slice y.sa.A y.sa.n y.sa.c) rfl;have iM:=(H0.out.below h9).c 12 (.slice y.sb.A y.sb.n y.sb.c) rfl;have iF:=(H0.out.below h9).c 13 (.int .i64 S.pt) rfl;have jf:=(H0.out.below h9).c 14 (.int .i64 S.nx) rfl;have iq:=(H0.out.below h9).c 15 (.int .i64 S.lm) rfl;go_simp;try with_reducible rfl) ?_;refine kV 12 rfl hS (by intro _ h9;have iH:=(H0.out.below h9).c 11 (.slice y.sa.A y.sa.n y.sa.c) rfl;have iM:=(H0.out.below h9).c 12 (.slice y.sb.A y.sb.n y.sb.c) rfl;have iF:=(H0.out.below h9).c 13 (.int .i64 S.pt) rfl;have jf:=(H0.out.below h9).c 14 (.int .i64 S.nx) rfl;have iq:=(H0.out.below h9).c 15 (.int .i64 S.lm) rfl;go_simp;try with_reducible rfl) ?_;refine kV 13 rfl hS (by intro _ h9;have iH:=(H0.out.below h9).c 11 (.slice y.sa.A y.sa.n y.sa.c) rfl;have iM:=(H0.out.below h9).c 12 (.slice y.sb.A y.sb.n y.sb.c) rfl;have iF:=(H0.out.below h9).c 13 (.int .i64 S.pt) rfl;have jf:=(H0.out.below h9).c 14 (.int .i64 S.nx) rfl;have iq:=(H0.out.below h9).c 15 (.int .i64 S.lm) rfl;go_simp;try with_reducible rfl) ?_;refine kR2 14 15 (λK hK=>?_) (λK hK=>?_)
   ·go_simp;have jw:=aR wq (.cells #[.int .i64 0,.int .i64 0,.int .i64 0] 82);have Pl:=hS.size;replace bQ:=PB.below bQ (be wq (.cells #[.int .i64 0,.int .i64 0,.int .i64 0] 82));have bn:=hS.alloc hS.size (.cells #[.int .i64 0,.int .i64 0,.int .i64 0] 82);refine hK.out _ _ bn (λhS=>?_);try go_frame
    generalize wq.alloc (.cells #[.int .i64 0,.int .i64 0,.int .i64 0] 82)=wq at hS bn jw bQ⊢;exact af3
   ·go_simp;have jF:=aR wq (.cells #[ay,ay] 74);have XL:=hS.size;replace bQ:=PB.below bQ (be wq (.cells #[ay,ay] 74));have bn:=hS.alloc hS.size (.cells #[ay,ay] 74);refine hK.out _ _ bn (λhS=>?_);try go_frame
    generalize wq.alloc (.cells #[ay,ay] 74)=wq at hS bn jF bQ⊢;exact ahG
  ·go_simp;have jw:=aR w0 (.cells #[.int .i64 0,.int .i64 0,.int .i64 0] 82);have Pl:=hS.size;have bn:=hS.alloc hS.size (.cells #[.int .i64 0,.int .i64 0,.int .i64 0] 82);refine hK.out _ _ bn (λhS=>?_);try go_frame
   generalize w0.alloc (.cells #[.int .i64 0,.int .i64 0,.int .i64 0] 82)=wq at hS bn jw⊢;refine kR2 8 15 (λK hK=>?_) (λK hK=>?_)
   ·go_simp;refine Calls.mono (by exact HN.out _ (H0.below hS).wm.dt.sp (H0.below hS).ld.lv.pow) ?_;rintro _ wq ⟨_,q,rfl,hq,⟨A3,n3,c3,B3,m3,d3,rfl,bQ⟩,aL⟩;go_simp;simp only at hq bQ⊢;replace jw:=aJ jw aL;refine hK.out _ _ (hS.trans (aL.mono hS.size)) (λhS=>?_);try go_frame
    refine kV 9 rfl hS (by intro _ h9;have iH:=(H0.out.below h9).c 11 (.slice y.sa.A y.sa.n y.sa.c) rfl;have iM:=(H0.out.below h9).c 12 (.slice y.sb.A y.sb.n y.sb.c) rfl;have iF:=(H0.out.below h9).c 13 (.int .i64 S.pt) rfl;have jf:=(H0.out.below h9).c 14 (.int .i64 S.nx) rfl;have iq:=(H0.out.below h9).c 15 (.int .i64 S.lm) rfl;go_simp;try with_reducible rfl) ?_;refine kV 10 rfl hS (by intro _ h9;have iH:=(H0.out.below h9).c 11 (.slice y.sa.A y.sa.n y.sa.c) rfl;have iM:=(H0.out.below h9).c 12 (.slice y.sb.A y.sb.n y.sb.c) rfl;have iF:=(H0.out.below h9).c 13 (.int .i64 S.pt) rfl;have jf:=(H0.out.below h9).c 14 (.int .i64 S.nx) rfl;have iq:=(H0.out.below h9).c 15 (.int .i64 S.lm) rfl;go_simp;try with_reducible rfl) ?_;refine kV 11 rfl hS (by intro _ h9;have iH:=(H0.out.below h9).c 11 (.slice y.sa.A y.sa.n y.sa.c) rfl;have iM:=(H0.out.below h9).c 12 (.slice y.sb.A y.sb.n y.sb.c) rfl;have iF:=(H0.out.below h9).c 13 (.int .i64 S.pt) rfl;have jf:=(H0.out.below h9).c 14 (.int .i64 S.nx) rfl;have iq:=(H0.out.below h9).c 15 (.int .i64 S.lm) rfl;go_simp;try with_reducible rfl) ?_;refine kV 12 rfl hS (by intro _ h9;have iH:=(H0.out.below h9).c 11 (.slice y.sa.A y.sa.n y.sa.c) rfl;have iM:=(H0.out.below h9).c 12 (.slice y.sb.A y.sb.n y.sb.c) rfl;have iF:=(H0.out.below h9).c 13 (.int .i64 S.pt) rfl;have jf:=(H0.out.below h9).c 14 (.int .i64 S.nx) rfl;have iq:=(H0.out.below h9).c 15 (.int .i64 S.lm) rfl;go_simp;try with_reducible rfl) ?_;refine kV 13 rfl hS (by intro _ h9;have iH:=(H0.out.below h9).c 11 (.slice y.sa.A y.sa.n y.sa.c) rfl;have iM:=(H0.out.below h9).c 12 (.slice y.sb.A y.sb.n y.sb.c) rfl;have iF:=(H0.out.below h9).c 13 (.int .i64 S.pt) rfl;have jf:=(H0.out.below h9).c 14 (.int .i64 S.nx) rfl;have iq:=(H0.out.below h9).c 15 (.int .i64 S.lm) rfl;go_simp;try with_reducible rfl) ?_;exact af3
   ·go_simp;have jF:=aR wq (.cells #[ay,ay] 74);have XL:=hS.size;replace jw:=aJ jw (be wq (.cells #[ay,ay] 74));have bn:=hS.alloc hS.size (.cells #[ay,ay] 74);refine hK.out _ _ bn (λhS=>?_);try go_frame
    generalize wq.alloc (.cells #[ay,ay] 74)=wq at hS bn jF jw⊢;exact ahu
  ·go_simp;have jF:=aR w0 (.cells #[ay,ay] 74);have XL:=hS.size;have bn:=hS.alloc hS.size (.cells #[ay,ay] 74);refine hK.out _ _ bn (λhS=>?_);try go_frame
   generalize w0.alloc (.cells #[ay,ay] 74)=wq at hS bn jF⊢;refine kR2 8 14 (λK hK=>?_) (λK hK=>?_)
   ·go_simp;refine Calls.mono (by exact HN.out _ (H0.below hS).wm.dt.sp (H0.below hS).ld.lv.pow) ?_;rintro _ wq ⟨_,q,rfl,hq,⟨A3,n3,c3,B3,m3,d3,rfl,bQ⟩,aL⟩;go_simp;simp only at hq bQ⊢;replace jF:=aJ jF aL;refine hK.out _ _ (hS.trans (aL.mono hS.size)) (λhS=>?_);try go_frame
    refine kV 9 rfl hS (by intro _ h9;have iH:=(H0.out.below h9).c 11 (.slice y.sa.A y.sa.n y.sa.c) rfl;have iM:=(H0.out.below h9).c 12 (.slice y.sb.A y.sb.n y.sb.c) rfl;have iF:=(H0.out.below h9).c 13 (.int .i64 S.pt) rfl;have jf:=(H0.out.below h9).c 14 (.int .i64 S.nx) rfl;have iq:=(H0.out.below h9).c 15 (.int .i64 S.lm) rfl;go_simp;try with_reducible rfl) ?_;refine kV 10 rfl hS (by intro _ h9;have iH:=(H0.out.below h9).c 11 (.slice y.sa.A y.sa.n y.sa.c) rfl;have iM:=(H0.out.below h9).c 12 (.slice y.sb.A y.sb.n y.sb.c) rfl;have iF:=(H0.out.below h9).c 13 (.int .i64 S.pt) rfl;have jf:=(H0.out.below h9).c 14 (.int .i64 S.nx) rfl;have iq:=(H0.out.below h9).c 15 (.int .i64 S.lm) rfl;go_simp;try with_reducible rfl) ?_;refine kV 11 rfl hS (by intro _ h9;have iH:=(H0.out.below h9).c 11 (.slice y.sa.A y.sa.n y.sa.c) rfl;have iM:=(H0.out.below h9).c 12 (.slice y.sb.A y.sb.n y.sb.c) rfl;have iF:=(H0.out.below h9).c 13 (.int .i64 S.pt) rfl;have jf:=(H0.out.below h9).c 14 (.int .i64 S.nx) rfl;have iq:=(H0.out.below h9).c 15 (.int .i64 S.lm) rfl;go_simp;try with_reducible rfl) ?_;refine kV 12 rfl hS (by intro _ h9;have iH:=(H0.out.below h9).c 11 (.slice y.sa.A y.sa.n y.sa.c) rfl;have iM:=(H0.out.below h9).c 12 (.slice y.sb.A y.sb.n y.sb.c) rfl;have iF:=(H0.out.below h9).c 13 (.int .i64 S.pt) rfl;have jf:=(H0.out.below h9).c 14 (.int .i64 S.nx) rfl;have iq:=(H0.out.below h9).c 15 (.int .i64 S.lm) rfl;go_simp;try with_reducible rfl) ?_;refine kV 13 rfl hS (by intro _ h9;have iH:=(H0.out.below h9).c 11 (.slice y.sa.A y.sa.n y.sa.c) rfl;have iM:=(H0.out.below h9).c 12 (.slice y.sb.A y.sb.n y.sb.c) rfl;have iF:=(H0.out.below h9).c 13 (.int .i64 S.pt) rfl;have jf:=(H0.out.below h9).c 14 (.int .i64 S.nx) rfl;have iq:=(H0.out.below h9).c 15 (.int .i64 S.lm) rfl;go_simp;try with_reducible rfl) ?_;exact ahG
   ·go_simp;have jw:=aR wq (.cells #[.int .i64 0,.int .i64 0,.int .i64 0] 82);have Pl:=hS.size;replace jF:=aJ jF (be wq (.cells #[.int .i64 0,.int .i64 0,.int .i64 0] 82));have bn:=hS.alloc hS.size (.cells #[.int .i64 0,.int .i64 0,.int .i64 0] 82);refine hK.out _ _ bn (λhS=>?_);try go_frame
    generalize wq.alloc (.cells #[.int .i64 0,.int .i64 0,.int .i64 0] 82)=wq at hS bn jw jF⊢;exact ahu
 case rest=>
  obtain⟨g4,g5,q,A3,n3,c3,B3,m3,d3,rfl,rfl,rfl,rfl,h4,h5,hp,hq,l4,l5,hr,hb⟩:=hcut;have H4:=aa h4;have H5:=aa h5;have HP:=aa hp;have HX:=aa hr;have HB:=aa hb;by_cases he:er=0;case neg=>
   rw[if_pos he]at HQ;go_wp2_with fail;refine (AH er he _).mono ?_;rintro e w2 ⟨rfl,rfl⟩;exact⟨rfl,avR HX (aes HB) HQ he⟩
  subst he;rw[if_neg au]at HQ;obtain rfl:=hq rfl;go_wp2_with fail;refine (rV _).mono ?_;rintro e w2 ⟨rfl,rfl⟩;go_wp2_with fail;refine jr (S:=λW=>W.cell? ⟨g4,0,none⟩=some (.int .i64 S.pt)/\W.cell? ⟨g4,1,none⟩=some (.int .i64 r1)/\W.cell? ⟨g4,2,none⟩=some (.int .i64 r2)/\W.cell? ⟨g5,0,none⟩=some (.slice A3 n3 c3)/\W.cell? ⟨g5,1,none⟩=some (.slice B3 m3 d3)) 9 ax ⟨aj H4 0 _ rfl,aj H4 1 _ rfl,aj H4 2 _ rfl,aj H5 0 _ rfl,aj H5 1 _ rfl⟩ (λhS=>?_);have aK:=HR.wlt;have tO:g4≠wb:=ae;have IS:g5≠wb:=ae;replace HX:=aa (HX.below ya3);replace HP:=aa (HP.below ya3);replace HB:=aa (HB.drew);generalize World.drew _=w5 at hS HX HP HB⊢;have z11:=HX.c 11 (.slice y.sa.A y.sa.n y.sa.c) rfl;have z12:=HX.c 12 (.slice y.sb.A y.sb.n y.sb.c) rfl;have z13:=HX.c 13 (.int .i64 S.pt) rfl;have z14:=HX.c 14 (.int .i64 S.nx) rfl;have z15:=HX.c 15 (.int .i64 S.lm) rfl;have f11:=HX.f 11;have f12:=HX.f 12;have f13:=HX.f 13;have f14:=HX.f 14;have f15:=HX.f 15;refine kV 0 rfl hS ya1 ?_;refine kV 1 rfl hS ya1 ?_;refine kV 2 rfl hS ya1 ?_;refine kV 3 rfl hS ya1 ?_;refine kR 4 λK hK=>?_;go_simp;refine hK.out _ _ hS (λhS=>?_);try go_frame
  refine kR 5 λK hK=>?_;go_simp;refine hK.out _ _ hS (λhS=>?_);try go_frame
  refine kR 6 λK hK=>?_;go_simp;refine hK.out _ _ (ox (ox (ox hS ⟨tO,tO,tO,IS,IS⟩) ⟨tO,tO,tO,IS,IS⟩) ⟨tO,tO,tO,IS,IS⟩) (λhS=>?_);try go_frame
  refine kR 7 λK hK=>?_;go_simp;refine hK.out _ _ hS (λhS=>?_);try go_frame
  refine kR 8 λK hK=>?_;go_simp;refine hK.out _ _ hS (λhS=>?_);try go_frame
  refine kL λK hK=>?_;go_simp;have E1:=aeq HX S.pt r1 r2;have E2:=aer (c:=c3) (d:=d3) E1 (HP.gbT HX.wm.blk au au (Kj w5 wb 13 14 15 (.int .i64 S.pt) (.int .i64 r1) (.int .i64 r2)));have HE:=aa (And.intro E2 (mE (Kj w5 wb 13 14 15 (.int .i64 S.pt) (.int .i64 r1) (.int .i64 r2)) (gU _ wb 11 12 (.slice A3 n3 c3) (.slice B3 m3 d3))));refine hK.out _ _ ?_;go_wp2;go_ret;exact avS HE.1 (mE (aes HB) HE.2) HQ.out
theorem aeu (B rb wb:Nat) (S:aW) (y:cQ) (w:World) (h:Rm w B rb wb S y) (hS:Gd S):
  Calls prog 52 #[.pointer (aw wb)] w (avQ B rb wb y w (dX S)):=
 (aet B wb S y w h.nw hS).mono λe w' ⟨h1,⟨y',h2,hy⟩,h3⟩=>⟨h1,⟨y',⟨dH h3 h.rm (by have:=h.lt;have:=h.wm.lo;omega),h.lt,h2.wm,h2.ld⟩,hy⟩,h3⟩
theorem ahU (h:Rm w B rb wb S y) (h':Rm w' B rb wb S' y') (hy:y'.bl=y.bl) (hg:w.grownBy w' (some wb)):Fq B rb w w':=Vr h.ld.le hg (.inl h.wm.lo) h.wm.blk au λk _ hn=> .inr ⟨wb,S',y',h'.rm,h'.wm.blk,hy▸hn.at_ h.rm h.wm.blk⟩
theorem AK (hg:w.grownBy w' (some g)) (aO:b≠g) (h:w.cell? ⟨b,k,none⟩=some u):w'.cell? ⟨b,k,none⟩=some u:=
 (fB (hg.block b (cU h) (λe=>aO (bW e)))).trans h
theorem avT (P:az) (a b c:Int):(fN P a b c).1.size<=12:=by
 unfold fN;have h: ∀n,(jS n).size=12:=λn=>by
  unfold jS;show (List.toArray _).size=12;simp
 repeat' split
 all_goals first|exact Nat.zero_le _|(simp only;rw[h];exact aM _)
theorem aev (S:aW):(dX S).2.1.size<=12:=by
 unfold dX;split
 ·exact Nat.zero_le _
 ·exact avT _ _ _ _
theorem avU {v:Value} {l:bJ} (h:Rd w (some ⟨b,o,none⟩) (v::l)):b<w.heap.size:=by
 obtain⟨b',o',e,hc⟩:=h 0 v rfl;injection e with e
 injection e with e1 e2
 subst e1;exact cU hc
theorem avV (B rb wb:Nat) (S:aW) (y:cQ) (A C:aN) (n c m d:Nat) (ws:List ag) (ms:List Int) (w:World) (h:Rm w B rb wb S y) (hS:Gd S) (ha:Rd w A (aZ ws)) (hn:n=ws.length) (hm:Rd w C (ints ms)) (mO:m=ms.length) (h1:2<=ws.length) (h2:1<=ms.length) (CN: ∀b o,A=some ⟨b,o,none⟩->b≠wb) (uO: ∀b o,C=some ⟨b,o,none⟩->b≠wb) (hz: ∀x∈ws,x.size<=1000000):
  Calls prog 21 #[.pointer (aw rb),.agg #[.slice A n c,.slice C m d]] w (ov B rb w (yu S (ix ms 0) (wx ws 1))):=by
 have hb:=be w (.cells #[.slice A n c,.slice C m d] 57);have nQ:(wx ws 1).size<=1000000:=hz _ (by unfold wx;rw[dh,cL ae];exact dY _);obtain⟨ab,ao,rfl,lJ⟩:=tk (ha.below hb) (k:=1) ae;obtain⟨cb,co,rfl,fT⟩:=tl (hm.below hb) (k:=0) ae;rw[Nat.add_zero]at fT;have lh:=CN ab ao rfl;have mM:=uO cb co rfl;generalize wx ws 1=s at lJ nQ⊢;generalize ix ms 0=i at fT⊢;have HR:=aa h;have HB:=aa hb;have H1:=aa (h.below hb);have r0:=(h.below hb).at_;have ir:=(h.below hb).c 17 (.bool S.op) rfl;have l0:=vY w (some ⟨ab,ao,none⟩) (some ⟨cb,co,none⟩) n c m d;have e0:(1:Int)<(n:Int):=ae;have e1:0<m:=ae;have sq:=h.wlt;have mS:w.heap.size≠wb:=ae;have L:=aa (And.intro l0.1 (And.intro lJ (And.intro l0.2 fT)));have HG:=aa (Kh hS);have zJ:=aev S;have HN:=aa (λW hW=>aeu B rb wb S y W hW hS);obtain⟨op,je⟩: ∃op,op=S.op:=⟨_,rfl⟩
 have HQ:=aa (show yu S i s=if op=false then (S,.er 212) else if (dX S).2.2≠0 then (S,.er (dX S).2.2) else if sY S.v S.ms (dX S).2.1 i s≠0 then ((dX S).1,.er (sY S.v S.ms (dX S).2.1 i s:Nat)) else ({(dX S).1 with v:=uo S.v S.ms (dX S).2.1 i s},.ok gT) by rw[je];rfl);rw[<-je]at ir;have j5:(dX S).1.v=S.v/\(dX S).1.ms=S.ms/\((dX S).2.2≠0->(dX S).1=S):=by
  unfold dX;split
  ·exact⟨rfl,rfl,λ_=>rfl⟩
  ·exact⟨rfl,rfl,λh=>absurd rfl h⟩
 clear h hb hS ha hn hm mO h1 h2 CN uO hz l0 lJ fT je;rw[<-j5.1,<-j5.2.1]at HQ;have HE:=aa j5.2.2;clear j5;generalize dX S=r at HN HQ HG zJ HE;obtain⟨S1,t,re⟩:=r;simp only at HQ HG zJ HE;have HV:=aa (λv W hv hR hT=>auP v S1.v S1.ms t i s W hv (by have:=HG.ms;unfold maxLen;omega) (by unfold maxLen;omega) (by unfold maxLen;omega) hR hT);generalize sY S1.v S1.ms t i s=we at HV HQ;generalize uo S1.v S1.ms t i s=V at HV HQ;clear zJ nQ;cases op with
 |false=>
  exact Oz
 |true=>
  rw[if_neg au]at HQ;go_in;go_wp2_with fail;refine (Kb rb wb _ r0 ir).mono ?_;rintro e w1 ⟨rfl,rfl⟩;go_wp2_with fail;refine (HN _ H1).mono ?_;rintro e w2 ⟨he,⟨y1,hr,hy1⟩,hg⟩;have HD:=aa hr;have HF:=aa ((HR.fq HB).trans (ahU H1 hr hy1 hg));replace L:=aa (And.intro (AK hg mS L.1) (And.intro (AK hg lh L.2.1) (And.intro (AK hg mS L.2.2.1) (AK hg mM L.2.2.2))));clear hr hy1 hg r0 ir;simp only at he;by_cases nL:re=0;case neg=>
   exact agb
  rw[if_pos nL]at he;subst he nL;rw[if_neg au]at HQ;go_wp2_with fail;refine jr (S:=λW=>Below w2.drew.heap.size w2.drew W) 24 ax (aI _ _) (λhS=>?_);replace HD:=aa (HD.below ya3);replace HF:=aa (HF.trans (wA HD.ld.le ya3));replace L:=aa (yA L ya3);generalize w2.drew=w0 at hS HD HF L⊢;refine kU 0 hS ?_;refine kU 1 hS ?_;refine kU 2 hS ?_;refine kU 3 hS ?_;refine kV 4 rfl hS (by intro _ h9;have c9:=(HD.out.below h9).c 9 (.slice y1.bl.A y1.bl.n y1.bl.c) rfl;have XO:=(HD.out.below h9).c 10 (.string S1.v.rt) rfl;go_simp;try with_reducible rfl) ?_;refine kU 5 hS ?_;refine kU 6 hS ?_;refine kU 7 hS ?_;refine kV 8 rfl hS (by intro _ h9;have c18:=(HD.out.below h9).c 18 (.string S1.ms) rfl;go_simp;try with_reducible rfl) ?_;refine kU 9 hS ?_;refine kU 10 hS ?_;refine kV 11 rfl hS (by intro _ h9;have c2:=(yA L.out h9).2.2.1;go_simp;try with_reducible rfl) ?_;refine kU 12 hS ?_;refine kV 13 rfl hS (by intro _ h9;have c3:=(yA L.out h9).2.2.2;go_simp;try with_reducible rfl) ?_;refine kU 14 hS ?_;refine kV 15 rfl hS (by intro _ h9;have c0:=(yA L.out h9).1;go_simp;try with_reducible rfl) ?_;refine kU 16 hS ?_;refine kV 17 rfl hS (by intro _ h9;have c1:=(yA L.out h9).2.1;go_simp;try with_reducible rfl) ?_;refine kR 18 λK hK=>?_;go_simp;refine Calls.mono (by exact HV.out _ _ ⟨_,_,_,rfl,(HD.below hS).wm.dt.bl.1,(HD.below hS).wm.dt.bl.2.1⟩ (HD.below hS).ld.lv.arm.rounds (HD.below hS).ld.lv.turns) ?_;rintro _ w3 ⟨_,rfl,⟨A4,_,c4,rfl,⟨oK,hf4⟩,rfl⟩,aP⟩;go_simp;refine hK.out _ _ (hS.trans (aP.mono hS.size)) (λhS=>?_);clear hK K;try go_frame
  refine kU 19 hS ?_;refine kU 20 hS ?_;refine kR 21 λK hK=>?_;go_simp;by_cases Dc:we=0;case neg=>
   rw[if_pos Dc]at HQ;refine Calls.mono (by exact atV _ _ _ _ (we:Int) ae _) ?_;rintro _ w5 ⟨rfl,aY⟩;exact⟨rfl,(HD.below (hS.trans (aY.mono hS.size))).er (HF.trans (HD.fq (hS.trans (aY.mono hS.size)))) HQ⟩
  subst Dc;rw[if_neg au]at HQ;refine Calls.mono (by exact avx _ _ _ _ _) ?_;rintro _ w5 ⟨rfl,aY⟩;go_simp;refine hK.out _ _ (hS.trans (aY.mono hS.size)) (λhS=>?_);clear hK K;try go_frame
  refine kR 22 λK hK=>?_;go_simp;refine hK.out _ _ hS (λhS=>?_);clear hK K;try go_frame
  refine kR 23 λK hK=>?_;go_simp;refine hK.out _ _ hS (λhS=>?_);clear hK K;try go_frame
  refine kL λK hK=>?_;have LL:=aa (HD.below hS);have z9:=LL.c 9 (.slice y1.bl.A y1.bl.n y1.bl.c) rfl;have Lz:=LL.c 10 (.string S1.v.rt) rfl;have f9:=LL.f 9;have f10:=LL.f 10;have aBV:=HD.wlt;have EE:=hS.size;have IK:=aa (HF.trans (HD.fq hS));have E:=aa (aei (c:=c4) LL (⟨oK.below aY,rfl,λb o e=>by have:=hf4 b o e;omega⟩:eF w5 wb ⟨A4,V.bl.length,c4⟩ (aZ V.bl) V.bl.length) IK (λb o e=>by have h1:=hf4 b o e;have h2:=IK.size;have h3:=HF.size;omega));go_simp;refine hK.out _ _ ?_;clear hK K hS z9 Lz f9 f10;go_wp2;go_ret;exact E.1.ok_ E.2 HQ.out
theorem axH (b o n c:Nat) (l:List ag) (w:World) (hr:Rd w (some ⟨b,o,none⟩) (aZ l)) (hn:n=l.length) (hl:n<=1000000):
  Calls prog 39 #[.slice (some ⟨b,o,none⟩) n c] w λe w'=> ∃A' ai,e= .returned (.slice A' n ai)/\Rd w' A' (aZ l)/\qQ w.heap.size A'/\aD w w':=by
 obtain⟨i0,hi,nE,oM,mP⟩:=info_parts mx;have q24: ∀(w:World) (a:aN) (n c n' c':Nat),(binOp .eql 28 (.slice a n c) (.slice none n' c')).run prog w= .ok (.bool a.isNone) w:=λw a n c n' c'=>Lib.run_eql_slice_nil w _ _ a n c n' c' underlying28;have H:=aa hr;have HN:=aa hn;clear hr hn;go_in;go_wp2_with (at_builtin;refine wpList_append_own _ rfl _ _ 28 rfl w.heap.size 9 i0 (.string ⟨#[]⟩) 1 16 underlying28 hi nE oM mP rfl au _ _ _ rfl (World.ownsRow_made w #[] 0 (aM _) (Nat.zero_le _) rfl) ⟨b,o,none⟩ n c (aZ l) rfl ?qc1 ?qc2 ?qc3 ?qc4 ?qc5 ?qc6 ?_);case qc1=>rw[qO,<-HN.out,Nat.mul_one]
 case qc2=>
  intro j u hj;obtain⟨b',o',e,hc⟩:=H.out j u hj;injection e with e
  injection e with e1 e2
  subst e1 e2;rw[Addr.add_lit];exact Lib.cell?_alloc_some _ hc
 case qc3=>exact DS _
 case qc4=>unfold maxLen;omega
 case qc5=>omega
 case qc6=>simp
 intro v' w1 lN Md aBK;go_wp2;go_ret;rcases lN.2 with⟨hv,h0⟩|⟨g,ai,bK,hv,hb,_⟩
 ·exact absurd hv aBK
 ·subst hv;exact⟨_,ai,rfl,NN lN,λb' o' e=>by
   injection e with e
   injection e with e
   omega,((aI _ w).alloc (aM _) _).grown Md ak (by intro k hk;simp[Value.ownBlock]at hk;omega)⟩
theorem axI (A B:aN) (n c m d:Nat) (P:az) (w:World) (h:PB w A n B m P) (hg:cF P 0=(bo,false,0)):
  Calls prog 49 #[.agg #[.slice A n c,.slice B m d],.int .i64 0] w (bF w (.tuple #[.agg #[.int .i64 0,.int .i64 0,.int .i64 0],.int .i64 0])):=by
 obtain⟨kp,kx,kb,mo⟩:=pq w (.cells #[.slice A n c,.slice B m d] 74) (.cells #[.int .i64 0,.int .i64 0,.int .i64 0] 82);have HG:=aa (DU A B n c m d P 0 _ (h.below kb) au);rw[hg]at HG;unfold aci at HG;have KX:=aa kx;have KB:=aa kb;have p0:=aj kp 0 _ rfl;have p1:=aj kp 1 _ rfl;clear h hg kp kx kb;go_in;go_wp2_with fail;refine (HG).mono ?_;rintro e w1 ⟨rfl,aG⟩;clear p0 p1;have bE:=be w1 (.cells #[.int .i64 0,.int .i64 0,.int .i64 0] 164);have KZ:=aa (aR w1 (.cells #[.int .i64 0,.int .i64 0,.int .i64 0] 164));replace KX:=aa (aJ (aJ KX aG) bE);replace KB:=aa ((ju KB aG).trans (bE.mono (bD KB.size aG.size)));have x0:=aj KX 0 _ rfl;have x1:=aj KX 1 _ rfl;have x2:=aj KX 2 _ rfl;have f0:=aU KX 0;have f1:=aU KX 1;have f2:=aU KX 2;have z0:=aj KZ 0 _ rfl;have z1:=aj KZ 1 _ rfl;have z2:=aj KZ 2 _ rfl;have E:=aa (bt (bt (bt KX 0 (.int .i64 0)) 1 (.int .i64 0)) 2 (.int .i64 0));clear aG bE;go_wp2_with fail;refine bodyPost_ret (dJ rfl _ _ (w.heap.size+1) ah _ (GN E)) rfl ?_;exact⟨rfl,KB.trans (iC (Kj _ _ _ _ _ _ _ _) ae KB.size)⟩
theorem axJ:cF (gD 3) 0=(bo,false,0):=bU
def afL (s:ag) (w:World) (e:Ending) (w':World):Prop:=e= .returned (.tuple #[.int .i64 (((yr s).getD 0:Nat):Int),.bool (yr s).isSome])/\aD w w'
theorem afM: ∀(l:aF) (n m:Nat),yq l n=some m->n<=1000000->m<=1000000
 | [],n,m,h,hn=>by
  rw[yq]at h;injection h with h
  omega
 |c::l,n,m,h,hn=>by
  rw[yq]at h;split at h
  ·cases h
  ·split at h
   ·cases h
   ·exact afM l _ m h ae
theorem ax4 (s:ag) (w:World) (hs:s.size<=1000000):Calls prog 81 #[.string s] w (afL s w):=by
 by_cases h0:s.size=0
 ·obtain rfl:s=⟨#[]⟩:=ByteArray.size_eq_zero_iff.1 h0;go_in;go_wp2_with fail;refine bodyPost_ret (results_tmp2 rfl _ _ _) rfl ?_;exact⟨rfl,aI _ _⟩
 have e1:s.toList.isEmpty=false:=toList_some s h0;by_cases h1:1<s.size/\s.data.toList.head?=some 48
 ·have hN:yr s=none:=by unfold yr;rw[if_pos (.inr h1)]
  have hi:0<s.data.toList.length:=by rw[bP];omega
  have hx:s.data.toList[0]=48:=by
   have h:=h1.2;rw[List.head?_eq_getElem?,cL hi]at h;exact bW h
  have nE:0<s.size:=ae;have aFT:(((s[0]'nE).toNat:Int)==48)=true:=by
   have e:s[0]'nE=48:=hx;rw[e];rfl
  have e2:(1:Int)<(s.size:Int):=ae;have HN:=aa hN;clear h1 hN hx hi;go_in;go_wp2_with fail;refine bodyPost_ret (results_tmp2 rfl _ _ _) rfl ?_;exact⟨by rw[HN.out];rfl,aI _ _⟩
 have hN:yr s=yq s.data.toList 0:=by unfold yr;rw[if_neg (by rintro (h|h);exact h0 h;exact h1 h)]
 have HN:=aa hN;obtain⟨ai,w1,il,KY,hb,cg⟩:=MG w s w.heap.size rfl;have hL:s.data.toList.length=s.size:=bP s;have PI:=aa KY;have HB:=aa hb;have By:(¬(1:Int)<(s.size:Int))\/((1:Int)<(s.size:Int)/\ ∃nE:0<s.size,(((s[0]'nE).toNat:Int)==48)=false):=by
  by_cases h2:1<s.size
  ·right;have hi:0<s.data.toList.length:=ae;refine⟨ae,ae,?_⟩;rw[beq_eq_false_iff_ne];intro e;refine h1 ⟨h2,?_⟩;rw[List.head?_eq_getElem?,cL hi];congr 1;apply UInt8.toNat_inj.1;have e2:((s.data.toList[0]).toNat:Int)=48:=e;show _=48;omega
  ·left;omega
 clear h1 hN KY hb cg;rcases By with e2|⟨e2,nE,zK⟩
 all_goals
  go_in
  go_wp2_with fail
  go_loopg [4,22] s.size (λgh v i wr=> ∃(k m:Nat),k+gh=s.size/\i= .int .i64 k/\v= .int .i64 m/\m<=1000000/\yq (s.data.toList.drop k) m=yq s.data.toList 0/\wr=w1)
  case atStart=>exact⟨0,0,Nat.zero_add _,rfl,rfl,ae,rfl,by first|rfl|trivial⟩
  case round=>
   obtain⟨k,m,hk,rfl,rfl,hm,j0,rfl⟩:=hrel
   have HK:=aa hk
   have HT:=aa j0
   cases gk with
   |zero=>
    obtain rfl:k=s.size:=hk
    have e9: ¬(s.size:Int)<(s.size:Int):=ae
    clear j0
    go_wp2_with fail
    refine bodyPost_ret (results_tmp2 rfl _ _ _) rfl ?_
    have h9:=HT.out
    rw[<-hL,List.drop_length,yq]at h9
    exact⟨by rw[HN.out,<-h9];rfl,HB⟩
   |succ g2=>
    have cY:k<s.data.toList.length:=ae
    have hc:=(PI k cY).1
    rw[List.drop_eq_getElem_cons cY,yq]at j0
    have aK:=(s.data.toList[k]).toNat_lt
    rw[show s.data.toList.getD k 0=s.data.toList[k] by rw[dh,cL cY];rfl]at hc
    generalize s.data.toList[k]=c at hc j0 aK
    have aK:c.toNat<256:=aK
    generalize c.toNat=y at hc j0 aK
    have j1:=aa j0
    have e9:(k:Int)<(s.size:Int):=ae
    clear cY j0 hk
    by_cases a1:y<48
    ·have b1:(y:Int)<48:=ae
     go_wp2_with fail
     refine bodyPost_ret (results_tmp2 rfl _ _ _) rfl ?_
     have h9:=j1.out
     rw[if_pos (.inl a1)]at h9
     exact⟨by rw[HN.out,<-h9];rfl,HB⟩
    have b1: ¬(y:Int)<48:=ae
    by_cases a2:57<y
    ·have b2:(57:Int)<(y:Int):=ae
     go_wp2_with fail
     refine bodyPost_ret (results_tmp2 rfl _ _ _) rfl ?_
     have h9:=j1.out
     rw[if_pos (.inr a2)]at h9
     exact⟨by rw[HN.out,<-h9];rfl,HB⟩
    have b2: ¬(57:Int)<(y:Int):=ae
    have q1:IntKind.u8.wrap ((y:Int)- 48)=((y - 48:Nat):Int):=by rw[IntKind.wrap_u8];omega
    have q2:IntKind.i64.wrap ((y - 48:Nat):Int)=((y - 48:Nat):Int):=IntWalk.i64_in _ ae
    have q3:IntKind.i64.wrap ((m:Int)*10)=((m*10:Nat):Int):=by rw[IntWalk.i64_in _ ae];omega
    have q4:IntKind.i64.wrap (((m*10:Nat):Int)+((y - 48:Nat):Int))=((m*10+(y - 48):Nat):Int):=by rw[IntWalk.i64_in _ ae];omega
    by_cases a3:1000000<m*10+(y - 48)
    ·have b3:(1000000:Int)<((m*10+(y - 48):Nat):Int):=ae
     go_wp2_with fail
     refine bodyPost_ret (results_tmp2 rfl _ _ _) rfl ?_
     have h9:=j1.out
     rw[if_neg ae,if_pos a3]at h9
     exact⟨by rw[HN.out,<-h9];rfl,HB⟩
    have b3: ¬(1000000:Int)<((m*10+(y - 48):Nat):Int):=ae
    have h9:=j1.out
    rw[if_neg ae,if_neg a3]at h9
    have tv:=aa h9
    clear h9
    go_wp2_with fail
    go_roundg g2
    case measure=>omega
    case rel=>exact⟨k+1,m*10+(y - 48),by have:=HK.out;omega,by go_num,rfl,ae,tv,by first|rfl|trivial⟩
theorem ayd (q:Nat) (x:Int) (w:World) (e0:Value) (hE:bj w q #[e0] 9) (hP:uv w) (h0:0<=x) (h1:x<=1000):
  CallsD prog 35 #[.pointer (aw q)] (.panicking [{v:= .iface 24 (.int .i64 x),recovered:=false}]) w λe u' w'=>
   e= .returned (.tuple #[])/\u'= .panicking [{v:= .iface 24 (.int .i64 x),recovered:=true}]/\ ∃w1,aD w w1/\w'=w1.setCell ⟨q,0,none⟩ (.string (GF++fc x)):=by
 have HI:=aa (Kc x w hP ae ae);have cg:=NM x ae ae;have fT: ¬9223372036854775807<6+(fc x).size:=ae;have HE:=aa hE;clear hE hP;have hta: ∀W,(Instr.typeAssert (.iface 24 (.int .i64 x)) 20 24 true).run prog W= .ok (.tuple #[.int .i64 x,.bool true]) W:=λW=>ax;refine callsD_of_wpS func35 rfl λc₀ cs hu=>?_;change Code.wpS _ _ _ ⟨#[.pointer (aw q),undef,undef,undef,undef,undef,undef,undef,undef,undef,undef,undef,undef,undef,undef,undef,undef],[]⟩ _ _;apply wpS_seq;apply wpS_region;simp[wpOpsS,go_sem,recoverD,hu,Exit.thenS];refine wpS_of_wp ?_;go_wp2_with fail;refine (HI).mono ?_;rintro e w1 ⟨rfl,hb⟩;have Zn:=aJ HE hb;have z0:=aj Zn 0 _ rfl;have f0:=aU Zn 0;have HB:=aa hb;clear Zn hb;go_wp2_with fail;simp[bodyPostS,results,results35];exact⟨w1,HB,rfl⟩
theorem aye (p:Addr) (w:World):
  CallsD prog 35 #[.pointer (some p)] .returning w λe u' w'=>e= .returned (.tuple #[])/\u'= .returning/\w'=w:=by
 refine callsD_of_wpS func35 rfl λc₀ cs hu=>?_;change Code.wpS _ _ _ ⟨#[.pointer (some p),undef,undef,undef,undef,undef,undef,undef,undef,undef,undef,undef,undef,undef,undef,undef,undef],[]⟩ _ _;apply wpS_seq;apply wpS_region;simp[wpOpsS,go_sem,recoverD,hu,Exit.thenS];refine wpS_of_wp ?_;go_wp2_with fail;cases c₀
 simp_all[bodyPostS,results,results35]
end Go.Proofs.YtaglcaocpcbiiaaGreatDoor
