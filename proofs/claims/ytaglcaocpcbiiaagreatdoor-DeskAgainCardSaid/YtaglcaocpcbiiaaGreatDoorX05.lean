import Derived.Test.YtaglcaocpcbiiaaGreatDoorX02
import Derived.Test.YtaglcaocpcbiiaaGreatDoorX04
import Derived.WalkMore
set_option linter.unusedVariables false
set_option linter.unusedSimpArgs false
set_option maxRecDepth 100000
set_option maxHeartbeats 3000000
namespace Go.Proofs.YtaglcaocpcbiiaaGreatDoor
open Go.Proofs.Tryz Go.RowKit
variable {B a b g:Nat} {P:Prop} {W W' w:World} {a0 a1 a2 a3 a4 a5 a6 a7 a8 a9:Value} {t:TypeId}
def kK (h:Hd):bx:= #[.int .i64 h.epoch,.int .i64 h.tries,.int .i64 h.x,.string h.b,.string h.salt,.string h.cred,.int .i64 h.next,.int .i64 h.nx,.string h.nb,.string h.nsalt]
def rdV (r:pf):bx:= #[.string r.rest,.bool r.bad]
def ph (w:World) (b:Nat) (r:pf):Prop:=w.heap[b]?=some (.cells (rdV r) 264 (0,0))
theorem acu (n:Nat) (r:pf):(ie n r).1.size=n\/(ie n r).1=bo:=by
 unfold ie;split
 ·exact .inr rfl
 ·exact .inl (by simp;omega)
theorem rS (w:World) (b i:Nat) (v:Value):w.grownBy (w.setCell ⟨b,i,none⟩ v) (some b):=
 ⟨rfl,rfl,rfl,ak,λk _ hk=>heap_setCell_other w ⟨b,i,none⟩ k v (λe=>hk (by simp[e]))⟩
theorem arY (s:ag) (k:Nat) (h:k<s.size):s[k]=s.data.toList.getD k 0:=by
 exact U5
theorem arZ (x:UInt8):wrap64 (x.toNat:Int)=(x.toNat:Int):=by
 have:=x.toNat_lt;unfold wrap64;omega
theorem ar0 (i j:Nat) (u v:Value):w.grownBy ((w.setCell ⟨b,i,none⟩ u).setCell ⟨b,j,none⟩ v) (some b):=
 Jn (rS w b i u) (rS _ b j v)
theorem At (n b:Nat) (r:pf) (w:World) (h:ph w b r) (hn:n<=1000):
  Calls prog 203 #[.pointer (aw b),.int .i64 (n:Nat)] w λe w'=>e= .returned (.string (ie n r).1)/\ph w' b (ie n r).2/\w.grownBy w' (some b):=by
 obtain⟨s,bad⟩:=r;have H:=aa (show bj w b #[.string s,.bool bad] 264 from h);obtain⟨x0,x1,x2,x3⟩:=aV H.out;by_cases aK:s.size<n
 ·have HT:=aa (show ie n ⟨s,bad⟩=(bo,⟨bo,true⟩) by rw[ie,if_pos aK]);have d1:decide ((s.size:Int)<(n:Int))=true:=by simp;omega
  go_in;go_wp2;go_ret;rw[HT.out];exact⟨rfl,eA H _ _,ar0 0 1 _ _⟩
 ·have HT:=aa (show ie n ⟨s,bad⟩=(s.extract 0 n,⟨s.extract n s.size,bad⟩) by rw[ie,if_neg aK]);have d1:decide ((s.size:Int)<(n:Int))=false:=by simp;omega
  have d2:(n:Int)<=(s.size:Int):=ae;go_in;go_wp2;go_ret;rw[HT.out];exact⟨rfl,bt H 0 _,rS w b 0 _⟩
theorem To (b:Nat) (r:pf) (w:World) (h:ph w b r):
  Calls prog 200 #[.pointer (aw b)] w λe w'=>e= .returned (.int .i64 (sU r).1)/\ph w' b (sU r).2/\w.grownBy w' (some b):=by
 have H:=aa h;have HS:=aa (acu 1 r);obtain⟨q,hq⟩: ∃q,q=ie 1 r:=⟨_,rfl⟩
 have Hq:=aa hq;have HD:=aa (show sU r=(if q.1.size=0 then 0 else ((SN q.1 0:Nat):Int),q.2) by rw[Hq.out,sU]);rw[<-Hq.out]at HS;obtain⟨s,r'⟩:=q;simp only at HS HD;by_cases h0:s.size=0
 ·have e1:=(sG s).2 h0;go_in;go_wp2_with fail;refine (At 1 b r _ H ae).mono ?_;rintro e w1 ⟨rfl,eS,da⟩;rw[<-Hq.out]at eS⊢;have im:=aa eS;have el:=aa da;go_wp2;go_ret;rw[HD.out,if_pos h0];exact⟨rfl,im,el⟩
 ·have jJ:s.size=1:=HS.resolve_right (λe=>h0 (by rw[e];rfl));have e1:s.toList.isEmpty=false:=toList_some s h0;have e2: ¬s.toList= []:=λe=>h0 ((sG s).1 e);have hz:(0:Int)<(s.size:Int):=ae;go_in;go_wp2_with fail;refine (At 1 b r _ H ae).mono ?_;rintro e w1 ⟨rfl,eS,da⟩;rw[<-Hq.out]at eS⊢;have im:=aa eS;have el:=aa da;go_wp2;go_ret;rw[HD.out,if_neg h0];refine⟨?_,im,el⟩;show Ending.returned (.int .i64 (wrap64 (s[0].toNat:Int)))=_;rw[arZ,arY s 0 ae];rfl
theorem acv (b:Nat) (r:pf) (w:World) (h:ph w b r):
  Calls prog 198 #[.pointer (aw b)] w λe w'=>e= .returned (.int .i64 (xT r).1)/\ph w' b (xT r).2/\w.grownBy w' (some b):=by
 have H:=aa h;have HS:=aa (acu 4 r);obtain⟨q,hq⟩: ∃q,q=ie 4 r:=⟨_,rfl⟩
 have Hq:=aa hq;have HD:=aa (show xT r=if q.1.size=4 then (((fG q.1.data.toList true 4 0:Nat):Int),q.2) else (0,⟨q.2.rest,true⟩) by rw[Hq.out,xT]);rw[<-Hq.out]at HS;obtain⟨s,r'⟩:=q;simp only at HS HD;by_cases h4:s.size=4
 ·have HL:=aa (show s.data.toList.length=4 by rw[bP];exact h4);go_in;go_wp2_with fail;refine (At 4 b r _ H ae).mono ?_;rintro e w1 ⟨rfl,eS,da⟩;rw[<-Hq.out]at eS⊢;have im:=aa eS;have el:=aa da;go_wp2_with fail;refine (Jj s _ ae ae).mono ?_;rintro e w2 ⟨g,rfl,hg,bH,av⟩;rw[HL.out]at bH⊢;have bq:=aa av;have c0:=bH.cell (i:=0) ae;generalize hv:((fG s.data.toList true 4 0:Nat):Int)=v at c0;have Hv:=aa hv;go_wp2;go_ret;rw[HD.out,if_pos h4,Hv.out];exact⟨rfl,aJ im bq,Jn el (ub bq _)⟩
 ·have h0:s.size=0:=by
   rcases HS with h|h
   ·exact absurd h h4
   ·rw[h];rfl
  have HL:=aa (show s.data.toList.length=0 by rw[bP];exact h0);go_in;go_wp2_with fail;refine (At 4 b r _ H ae).mono ?_;rintro e w1 ⟨rfl,eS,da⟩;rw[<-Hq.out]at eS⊢;have im:=aa eS;have el:=aa da;go_wp2_with fail;refine (Jj s _ ae ae).mono ?_;rintro e w2 ⟨g,rfl,hg,bH,av⟩;rw[HL.out];have bq:=aa av;have jc:=aa (show bj w2 b #[.string r'.rest,.bool r'.bad] 264 from aJ im av);obtain⟨x0,x1,x2,x3⟩:=aV jc.out;go_wp2;go_ret;rw[HD.out,if_neg h4];exact⟨rfl,bt jc 1 _,Jn (Jn el (ub bq _)) (rS _ b 1 _)⟩
structure fZ (W W':World) (a b:Nat):Prop where
 os:W'.os=W.os
 tape:W'.tape=W.tape
 output:W'.output=W.output
 size:W.heap.size<=W'.heap.size
 block: ∀k,k<W.heap.size->k≠a->k≠b->W'.heap[k]?=W.heap[k]?
theorem fZ.refl (W:World) (a b:Nat):fZ W W a b:=⟨rfl,rfl,rfl,aM _,λ_ _ _ _=>rfl⟩
theorem fZ.trans {X Y Z:World} (h:fZ X Y a b) (k:fZ Y Z a b):fZ X Z a b:=
 ⟨k.os.trans h.os,k.tape.trans h.tape,k.output.trans h.output,bD h.size k.size,λi hi h1 h2=>(k.block i (jY hi h.size) h1 h2).trans (h.block i hi h1 h2)⟩
theorem yJ (b:Nat) (h:W.grownBy W' (some a)):fZ W W' a b:=⟨h.os,h.tape,h.output,h.size,λk hk h1 _=>h.block k hk (λe=>h1 (bW e))⟩
theorem yK (a:Nat) (h:W.grownBy W' (some b)):fZ W W' a b:=⟨h.os,h.tape,h.output,h.size,λk hk _ h2=>h.block k hk (λe=>h2 (bW e))⟩
theorem fZ.below (h:fZ W W' a b) (ha:B<=a) (hb:B<=b) (hB:B<=W.heap.size):Below B W W':=⟨h.os,h.tape,h.output,h.size,λk hk=>h.block k ae ae ae⟩
def acw (w:World) (b:Nat) (h:Hd):Prop:=w.heap[b]?=some (.cells (kK h) 120 (0,0))
theorem fu (h:w.heap[g]?=some (.cells #[a0,a1,a2,a3,a4,a5,a6,a7,a8,a9] t (0,0))):
  (w.cell? ⟨g,0,none⟩=some a0/\w.cell? ⟨g,1,none⟩=some a1/\w.cell? ⟨g,2,none⟩=some a2/\w.cell? ⟨g,3,none⟩=some a3/\w.cell? ⟨g,4,none⟩=some a4/\w.cell? ⟨g,5,none⟩=some a5/\w.cell? ⟨g,6,none⟩=some a6/\w.cell? ⟨g,7,none⟩=some a7/\w.cell? ⟨g,8,none⟩=some a8/\w.cell? ⟨g,9,none⟩=some a9)/\ ∀i,w.frozen? ⟨g,i,none⟩=false:=by
 refine⟨⟨?_,?_,?_,?_,?_,?_,?_,?_,?_,?_⟩,λi=>frozen_of_row w g i _ _ h⟩<;>(unfold World.cell?;simp only[h];rfl)
structure ol (W:World) (bp br bh:Nat) (p:HR):Prop where
 hp:W.heap[bp]?=some (.cells #[.pointer (aw br)] 262 (0,0))
 hr:ph W br p.2
 hh:acw W bh p.1
theorem ol.ne {bp br bh:Nat} {p:HR} (h:ol W bp br bh p):bp≠br/\bp≠bh/\bh≠br:=by
 refine⟨λe=>?_,λe=>?_,λe=>?_⟩
 ·have:=h.hp;rw[e,show W.heap[br]?=_ from h.hr]at this;cases this
 ·have:=h.hp;rw[e,show W.heap[bh]?=_ from h.hh]at this;cases this
 ·have:=h.hh;rw[acw,e,show W.heap[br]?=_ from h.hr]at this;cases this
def vO (W:World) (bp br bh:Nat) (p:HR) (e:Ending) (W':World):Prop:=(∃v,e= .returned v)/\ol W' bp br bh p/\fZ W W' br bh
theorem ar1 (bp br bh:Nat) (p:HR) (W:World) (h:ol W bp br bh p):Calls prog 197 #[.pointer (aw bp),.pointer (aw bh)] W (vO W bp br bh (SO p)):=by
 obtain⟨n1,n2,n3⟩:=h.ne;obtain⟨⟨h0,h1,h2,h3,h4,h5,h6,h7,h8,h9⟩,r⟩:=p;have HP:=aa h.hp;have HR:=aa (show ph W br r from h.hr);have HH:=aa (show bj W bh #[.int .i64 h0,.int .i64 h1,.int .i64 h2,.string h3,.string h4,.string h5,.int .i64 h6,.int .i64 h7,.string h8,.string h9] 120 from h.hh);have c0:=cell_of_one HP.out;go_in;go_wp2_with fail;refine (acv br r W HR).mono ?_;rintro e W1 ⟨rfl,eS,da⟩;have gM:=aa ((da.block bp (bf HP) (λe=>n1 (bW e))).trans HP);have iV:=aa ((da.block bh (bf HH) (λe=>n3 (bW e))).trans HH);have im:=aa eS;have el:=aa da;obtain⟨⟨_,_,_,_,_,_,_,_,_,_⟩,hf⟩:=fu iV.out;have hf:=hf 0;go_wp2_with fail;go_end0;refine⟨⟨_,rfl⟩,⟨(bz W1 ⟨bh,0,none⟩ _ bp n2).trans gM,(bz W1 ⟨bh,0,none⟩ _ br (Ne.symm n3)).trans im,bt iV 0 _⟩,(yJ bh el).trans (yK br (rS W1 bh 0 _))⟩
theorem ar2 (bp br bh:Nat) (p:HR) (W:World) (h:ol W bp br bh p):Calls prog 199 #[.pointer (aw bp),.pointer (aw bh)] W (vO W bp br bh (SP p)):=by
 obtain⟨n1,n2,n3⟩:=h.ne;obtain⟨⟨h0,h1,h2,h3,h4,h5,h6,h7,h8,h9⟩,r⟩:=p;have HP:=aa h.hp;have HR:=aa (show ph W br r from h.hr);have HH:=aa (show bj W bh #[.int .i64 h0,.int .i64 h1,.int .i64 h2,.string h3,.string h4,.string h5,.int .i64 h6,.int .i64 h7,.string h8,.string h9] 120 from h.hh);have c0:=cell_of_one HP.out;go_in;go_wp2_with fail;refine (To br r W HR).mono ?_;rintro e W1 ⟨rfl,eS,da⟩;have gM:=aa ((da.block bp (bf HP) (λe=>n1 (bW e))).trans HP);have iV:=aa ((da.block bh (bf HH) (λe=>n3 (bW e))).trans HH);have im:=aa eS;have el:=aa da;obtain⟨⟨_,_,_,_,_,_,_,_,_,_⟩,hf⟩:=fu iV.out;have hf:=hf 1;go_wp2_with fail;go_end0;refine⟨⟨_,rfl⟩,⟨(bz W1 ⟨bh,1,none⟩ _ bp n2).trans gM,(bz W1 ⟨bh,1,none⟩ _ br (Ne.symm n3)).trans im,bt iV 1 _⟩,(yJ bh el).trans (yK br (rS W1 bh 1 _))⟩
theorem ar3 (bp br bh:Nat) (p:HR) (W:World) (h:ol W bp br bh p):Calls prog 201 #[.pointer (aw bp),.pointer (aw bh)] W (vO W bp br bh (SQ p)):=by
 obtain⟨n1,n2,n3⟩:=h.ne;obtain⟨⟨h0,h1,h2,h3,h4,h5,h6,h7,h8,h9⟩,r⟩:=p;have HP:=aa h.hp;have HR:=aa (show ph W br r from h.hr);have HH:=aa (show bj W bh #[.int .i64 h0,.int .i64 h1,.int .i64 h2,.string h3,.string h4,.string h5,.int .i64 h6,.int .i64 h7,.string h8,.string h9] 120 from h.hh);have c0:=cell_of_one HP.out;go_in;go_wp2_with fail;refine (To br r W HR).mono ?_;rintro e W1 ⟨rfl,eS,da⟩;have gM:=aa ((da.block bp (bf HP) (λe=>n1 (bW e))).trans HP);have iV:=aa ((da.block bh (bf HH) (λe=>n3 (bW e))).trans HH);have im:=aa eS;have el:=aa da;obtain⟨⟨_,_,_,_,_,_,_,_,_,_⟩,hf⟩:=fu iV.out;have hf:=hf 2;go_wp2_with fail;go_end0;refine⟨⟨_,rfl⟩,⟨(bz W1 ⟨bh,2,none⟩ _ bp n2).trans gM,(bz W1 ⟨bh,2,none⟩ _ br (Ne.symm n3)).trans im,bt iV 2 _⟩,(yJ bh el).trans (yK br (rS W1 bh 2 _))⟩
theorem ar4 (bp br bh:Nat) (p:HR) (W:World) (h:ol W bp br bh p):Calls prog 202 #[.pointer (aw bp),.pointer (aw bh)] W (vO W bp br bh (SR p)):=by
 obtain⟨n1,n2,n3⟩:=h.ne;obtain⟨⟨h0,h1,h2,h3,h4,h5,h6,h7,h8,h9⟩,r⟩:=p;have HP:=aa h.hp;have HR:=aa (show ph W br r from h.hr);have HH:=aa (show bj W bh #[.int .i64 h0,.int .i64 h1,.int .i64 h2,.string h3,.string h4,.string h5,.int .i64 h6,.int .i64 h7,.string h8,.string h9] 120 from h.hh);have c0:=cell_of_one HP.out;go_in;go_wp2_with fail;refine (At 32 br r W HR ae).mono ?_;rintro e W1 ⟨rfl,eS,da⟩;have gM:=aa ((da.block bp (bf HP) (λe=>n1 (bW e))).trans HP);have iV:=aa ((da.block bh (bf HH) (λe=>n3 (bW e))).trans HH);have im:=aa eS;have el:=aa da;obtain⟨⟨_,_,_,_,_,_,_,_,_,_⟩,hf⟩:=fu iV.out;have hf:=hf 3;go_wp2_with fail;go_end0;refine⟨⟨_,rfl⟩,⟨(bz W1 ⟨bh,3,none⟩ _ bp n2).trans gM,(bz W1 ⟨bh,3,none⟩ _ br (Ne.symm n3)).trans im,bt iV 3 _⟩,(yJ bh el).trans (yK br (rS W1 bh 3 _))⟩
theorem ar5 (bp br bh:Nat) (p:HR) (W:World) (h:ol W bp br bh p):Calls prog 204 #[.pointer (aw bp),.pointer (aw bh)] W (vO W bp br bh (SS p)):=by
 obtain⟨n1,n2,n3⟩:=h.ne;obtain⟨⟨h0,h1,h2,h3,h4,h5,h6,h7,h8,h9⟩,r⟩:=p;have HP:=aa h.hp;have HR:=aa (show ph W br r from h.hr);have HH:=aa (show bj W bh #[.int .i64 h0,.int .i64 h1,.int .i64 h2,.string h3,.string h4,.string h5,.int .i64 h6,.int .i64 h7,.string h8,.string h9] 120 from h.hh);have c0:=cell_of_one HP.out;go_in;go_wp2_with fail;refine (At 16 br r W HR ae).mono ?_;rintro e W1 ⟨rfl,eS,da⟩;have gM:=aa ((da.block bp (bf HP) (λe=>n1 (bW e))).trans HP);have iV:=aa ((da.block bh (bf HH) (λe=>n3 (bW e))).trans HH);have im:=aa eS;have el:=aa da;obtain⟨⟨_,_,_,_,_,_,_,_,_,_⟩,hf⟩:=fu iV.out;have hf:=hf 4;go_wp2_with fail;go_end0;refine⟨⟨_,rfl⟩,⟨(bz W1 ⟨bh,4,none⟩ _ bp n2).trans gM,(bz W1 ⟨bh,4,none⟩ _ br (Ne.symm n3)).trans im,bt iV 4 _⟩,(yJ bh el).trans (yK br (rS W1 bh 4 _))⟩
theorem ar6 (bp br bh:Nat) (p:HR) (W:World) (h:ol W bp br bh p):Calls prog 205 #[.pointer (aw bp),.pointer (aw bh)] W (vO W bp br bh (SV p)):=by
 obtain⟨n1,n2,n3⟩:=h.ne;obtain⟨⟨h0,h1,h2,h3,h4,h5,h6,h7,h8,h9⟩,r⟩:=p;have HP:=aa h.hp;have HR:=aa (show ph W br r from h.hr);have HH:=aa (show bj W bh #[.int .i64 h0,.int .i64 h1,.int .i64 h2,.string h3,.string h4,.string h5,.int .i64 h6,.int .i64 h7,.string h8,.string h9] 120 from h.hh);have c0:=cell_of_one HP.out;go_in;go_wp2_with fail;refine (At 32 br r W HR ae).mono ?_;rintro e W1 ⟨rfl,eS,da⟩;have gM:=aa ((da.block bp (bf HP) (λe=>n1 (bW e))).trans HP);have iV:=aa ((da.block bh (bf HH) (λe=>n3 (bW e))).trans HH);have im:=aa eS;have el:=aa da;obtain⟨⟨_,_,_,_,_,_,_,_,_,_⟩,hf⟩:=fu iV.out;have hf:=hf 5;go_wp2_with fail;go_end0;refine⟨⟨_,rfl⟩,⟨(bz W1 ⟨bh,5,none⟩ _ bp n2).trans gM,(bz W1 ⟨bh,5,none⟩ _ br (Ne.symm n3)).trans im,bt iV 5 _⟩,(yJ bh el).trans (yK br (rS W1 bh 5 _))⟩
theorem ar7 (bp br bh:Nat) (p:HR) (W:World) (h:ol W bp br bh p):Calls prog 207 #[.pointer (aw bp),.pointer (aw bh)] W (vO W bp br bh (SW p)):=by
 obtain⟨n1,n2,n3⟩:=h.ne;obtain⟨⟨h0,h1,h2,h3,h4,h5,h6,h7,h8,h9⟩,r⟩:=p;have HP:=aa h.hp;have HR:=aa (show ph W br r from h.hr);have HH:=aa (show bj W bh #[.int .i64 h0,.int .i64 h1,.int .i64 h2,.string h3,.string h4,.string h5,.int .i64 h6,.int .i64 h7,.string h8,.string h9] 120 from h.hh);have c0:=cell_of_one HP.out;go_in;go_wp2_with fail;refine (acv br r W HR).mono ?_;rintro e W1 ⟨rfl,eS,da⟩;have gM:=aa ((da.block bp (bf HP) (λe=>n1 (bW e))).trans HP);have iV:=aa ((da.block bh (bf HH) (λe=>n3 (bW e))).trans HH);have im:=aa eS;have el:=aa da;obtain⟨⟨_,_,_,_,_,_,_,_,_,_⟩,hf⟩:=fu iV.out;have hf:=hf 6;go_wp2_with fail;go_end0;refine⟨⟨_,rfl⟩,⟨(bz W1 ⟨bh,6,none⟩ _ bp n2).trans gM,(bz W1 ⟨bh,6,none⟩ _ br (Ne.symm n3)).trans im,bt iV 6 _⟩,(yJ bh el).trans (yK br (rS W1 bh 6 _))⟩
theorem ar8 (bp br bh:Nat) (p:HR) (W:World) (h:ol W bp br bh p):Calls prog 208 #[.pointer (aw bp),.pointer (aw bh)] W (vO W bp br bh (SY p)):=by
 obtain⟨n1,n2,n3⟩:=h.ne;obtain⟨⟨h0,h1,h2,h3,h4,h5,h6,h7,h8,h9⟩,r⟩:=p;have HP:=aa h.hp;have HR:=aa (show ph W br r from h.hr);have HH:=aa (show bj W bh #[.int .i64 h0,.int .i64 h1,.int .i64 h2,.string h3,.string h4,.string h5,.int .i64 h6,.int .i64 h7,.string h8,.string h9] 120 from h.hh);have c0:=cell_of_one HP.out;go_in;go_wp2_with fail;refine (To br r W HR).mono ?_;rintro e W1 ⟨rfl,eS,da⟩;have gM:=aa ((da.block bp (bf HP) (λe=>n1 (bW e))).trans HP);have iV:=aa ((da.block bh (bf HH) (λe=>n3 (bW e))).trans HH);have im:=aa eS;have el:=aa da;obtain⟨⟨_,_,_,_,_,_,_,_,_,_⟩,hf⟩:=fu iV.out;have hf:=hf 7;go_wp2_with fail;go_end0;refine⟨⟨_,rfl⟩,⟨(bz W1 ⟨bh,7,none⟩ _ bp n2).trans gM,(bz W1 ⟨bh,7,none⟩ _ br (Ne.symm n3)).trans im,bt iV 7 _⟩,(yJ bh el).trans (yK br (rS W1 bh 7 _))⟩
theorem ar9 (bp br bh:Nat) (p:HR) (W:World) (h:ol W bp br bh p):Calls prog 209 #[.pointer (aw bp),.pointer (aw bh)] W (vO W bp br bh (SZ p)):=by
 obtain⟨n1,n2,n3⟩:=h.ne;obtain⟨⟨h0,h1,h2,h3,h4,h5,h6,h7,h8,h9⟩,r⟩:=p;have HP:=aa h.hp;have HR:=aa (show ph W br r from h.hr);have HH:=aa (show bj W bh #[.int .i64 h0,.int .i64 h1,.int .i64 h2,.string h3,.string h4,.string h5,.int .i64 h6,.int .i64 h7,.string h8,.string h9] 120 from h.hh);have c0:=cell_of_one HP.out;go_in;go_wp2_with fail;refine (At 32 br r W HR ae).mono ?_;rintro e W1 ⟨rfl,eS,da⟩;have gM:=aa ((da.block bp (bf HP) (λe=>n1 (bW e))).trans HP);have iV:=aa ((da.block bh (bf HH) (λe=>n3 (bW e))).trans HH);have im:=aa eS;have el:=aa da;obtain⟨⟨_,_,_,_,_,_,_,_,_,_⟩,hf⟩:=fu iV.out;have hf:=hf 8;go_wp2_with fail;go_end0;refine⟨⟨_,rfl⟩,⟨(bz W1 ⟨bh,8,none⟩ _ bp n2).trans gM,(bz W1 ⟨bh,8,none⟩ _ br (Ne.symm n3)).trans im,bt iV 8 _⟩,(yJ bh el).trans (yK br (rS W1 bh 8 _))⟩
theorem ar' (bp br bh:Nat) (p:HR) (W:World) (h:ol W bp br bh p):Calls prog 210 #[.pointer (aw bp),.pointer (aw bh)] W (vO W bp br bh (S3 p)):=by
 obtain⟨n1,n2,n3⟩:=h.ne;obtain⟨⟨h0,h1,h2,h3,h4,h5,h6,h7,h8,h9⟩,r⟩:=p;have HP:=aa h.hp;have HR:=aa (show ph W br r from h.hr);have HH:=aa (show bj W bh #[.int .i64 h0,.int .i64 h1,.int .i64 h2,.string h3,.string h4,.string h5,.int .i64 h6,.int .i64 h7,.string h8,.string h9] 120 from h.hh);have c0:=cell_of_one HP.out;go_in;go_wp2_with fail;refine (At 16 br r W HR ae).mono ?_;rintro e W1 ⟨rfl,eS,da⟩;have gM:=aa ((da.block bp (bf HP) (λe=>n1 (bW e))).trans HP);have iV:=aa ((da.block bh (bf HH) (λe=>n3 (bW e))).trans HH);have im:=aa eS;have el:=aa da;obtain⟨⟨_,_,_,_,_,_,_,_,_,_⟩,hf⟩:=fu iV.out;have hf:=hf 9;go_wp2_with fail;go_end0;refine⟨⟨_,rfl⟩,⟨(bz W1 ⟨bh,9,none⟩ _ bp n2).trans gM,(bz W1 ⟨bh,9,none⟩ _ br (Ne.symm n3)).trans im,bt iV 9 _⟩,(yJ bh el).trans (yK br (rS W1 bh 9 _))⟩
def Tq (bp br bh:Nat) (v:Value) (f:HR->HR):Prop:=
 ∃KL,v= .func (.func KL) #[] #[.pointer (aw bp),.pointer (aw bh)]/\(∀args W,(callFunc KL args).run prog W= .ok (.enter KL args) W)/\ ∀p W,ol W bp br bh p->Calls prog KL #[.pointer (aw bp),.pointer (aw bh)] W (vO W bp br bh (f p))
theorem asa (s:ag):(s.toList== [])=decide (s.size=0):=by
 by_cases h:s.size=0
 ·rw[(sG s).2 h,decide_eq_true h];rfl
 ·rw[decide_eq_false h];exact beq_eq_false_iff_ne.2 λe=>h ((sG s).1 e)
theorem asb (l:List (HR->HR)) (f:HR->HR) (p:HR):lB (l++ [f]) p=f (lB l p):=by simp[lB]
theorem acx (bp br bh bS n:Nat) (vs:bJ) (T:TypeId) (fs:List (HR->HR)) (p:HR) (w:World) (h:ol w bp br bh p) (hS:w.heap[bS]?=some (.cells vs.toArray T (0,0))) (h1:bS≠br) (h2:bS≠bh) (hn:n=fs.length) (hv:vs.length=fs.length) (hF: ∀(i:Nat) (v:Value) (f:HR->HR),vs[i]?=some v->fs[i]?=some f->Tq bp br bh v f) (j7:n<=100):
  Calls prog 196 #[.pointer (aw br),.slice (aw bS) n n] w λe w'=>e= .returned (.bool (rO (lB fs p).2))/\ol w' bp br bh (lB fs p)/\fZ w w' br bh:=by
 have H:=aa h;have HS:=aa hS;have HN:=aa hn;have HV:=aa hv;have HF:=aa hF;clear h hS hn hv hF;go_in;go_wp2_with fail;go_loopw [9] (λx wr=> ∃k:Nat,k<=n/\x= .int .i64 (k:Nat)/\ol wr bp br bh (lB (fs.take k) p)/\fZ w wr br bh) (λx _=>n -(intOf x).toNat);case atStart=>exact⟨0,ae,rfl,H,fZ.refl _ _ _⟩
 case round=>
  obtain⟨k,hk,rfl,hf,ht⟩:=hrel;have HFk:=aa hf;have FC:=aa ht;clear hf ht;by_cases aK:k<n
  ·have cY:k<fs.length:=by rw[<-HN.out];exact aK
   have C7:k<vs.length:=(by rw[HV.out];exact cY);have c0:wr.cell? ⟨bS,k,none⟩=some vs[k]:=by
    rw[cell_of_row wr bS k _ _ _ ((FC.block bS (bf HS.out) h1 h2).trans HS.out)];simp[C7]
   obtain⟨KL,hv,Dh,Dl⟩:=HF.out k vs[k] fs[k] (by simp[C7]) (by simp[cY]);rw[hv]at c0;have Hs:=aa (show lB (fs.take (k+1)) p=fs[k] (lB (fs.take k) p) by rw[List.take_succ_eq_append_getElem cY,asb]);have HC:=aa (Dl _ wr HFk);have gq:(k:Int)<(n:Int):=ae;clear Dl hv;go_wp2_with fail;refine Calls.mono HC ?_;rintro e w1 ⟨⟨v,rfl⟩,ry,la⟩;have YJ:=aa ry;have HT1:=aa la;clear ry la c0;go_wp2;go_roundw;case rel=>exact⟨k+1,ae,by go_num,by rw[Hs.out];exact YJ.out,FC.trans HT1⟩
   case measure=>exact cM
  ·obtain rfl:k=n:=ae;have Le: ¬(k:Int)<(k:Int):=ae;have Di:=aa (show ol wr bp br bh (lB fs p) by
    have:=HFk.out;rw[List.take_of_length_le (by rw[HN.out];exact aM _)]at this;exact this)
   obtain⟨q,hq⟩: ∃q,q=lB fs p:=⟨_,rfl⟩
   rw[<-hq]at Di;have Hq:=aa hq;obtain⟨hh,⟨rest,bad⟩⟩:=q;obtain⟨x0,x1,_,_⟩:=aV (show bj wr br #[.string rest,.bool bad] 264 from Di.hr);have hte:=asa rest;clear hq;cases bad with
   |true=>
    go_wp2;go_ret;rw[<-Hq.out];exact⟨rfl,Di,FC⟩
   |false=>
    by_cases hz:rest.size=0
    ·have e1:=(sG rest).2 hz;have HE:=aa (show rO ⟨rest,false⟩=true by simp[rO,hz]);clear hte;go_wp2;go_ret;rw[<-Hq.out,HE.out];exact⟨rfl,Di,FC⟩
    ·have e1:rest.toList.isEmpty=false:=toList_some rest hz;have e2: ¬rest.toList= []:=λe=>hz ((sG rest).1 e);have HE:=aa (show rO ⟨rest,false⟩=false by simp[rO,hz]);clear hte;go_wp2;go_ret;rw[<-Hq.out,HE.out];exact⟨rfl,Di,FC⟩
theorem DY (h:w.heap[g]?=some (.cells #[a0,a1,a2,a3,a4,a5,a6,a7,a8,a9] t (0,0))) (b0 b1 b2 b3 b4 b5 b6 b7 b8 b9:Value):
  ((((((((((w.setCell ⟨g,0,none⟩ b0).setCell ⟨g,1,none⟩ b1).setCell ⟨g,2,none⟩ b2).setCell ⟨g,3,none⟩ b3).setCell ⟨g,4,none⟩ b4).setCell ⟨g,5,none⟩ b5).setCell ⟨g,6,none⟩ b6).setCell ⟨g,7,none⟩ b7).setCell ⟨g,8,none⟩ b8).setCell ⟨g,9,none⟩ b9).heap[g]?=some (.cells #[b0,b1,b2,b3,b4,b5,b6,b7,b8,b9] t (0,0)):=by
 have:=bt (bt (bt (bt (bt (bt (bt (bt (bt (bt h 0 b0) 1 b1) 2 b2) 3 b3) 4 b4) 5 b5) 6 b6) 7 b7) 8 b8) 9 b9;exact ON
theorem Ce (hB:B<=g) (b0 b1 b2 b3 b4 b5 b6 b7 b8 b9:Value):
  Below B w ((((((((((w.setCell ⟨g,0,none⟩ b0).setCell ⟨g,1,none⟩ b1).setCell ⟨g,2,none⟩ b2).setCell ⟨g,3,none⟩ b3).setCell ⟨g,4,none⟩ b4).setCell ⟨g,5,none⟩ b5).setCell ⟨g,6,none⟩ b6).setCell ⟨g,7,none⟩ b7).setCell ⟨g,8,none⟩ b8).setCell ⟨g,9,none⟩ b9):=
 (((((((((jQ hB b0).trans (jQ hB b1)).trans (jQ hB b2)).trans (jQ hB b3)).trans (jQ hB b4)).trans (jQ hB b5)).trans (jQ hB b6)).trans (jQ hB b7)).trans (jQ hB b8)).trans (jQ hB b9)
theorem asc {k:Nat} (aO:k≠g) (b0 b1 b2 b3 b4 b5 b6 b7 b8 b9:Value):
  ((((((((((w.setCell ⟨g,0,none⟩ b0).setCell ⟨g,1,none⟩ b1).setCell ⟨g,2,none⟩ b2).setCell ⟨g,3,none⟩ b3).setCell ⟨g,4,none⟩ b4).setCell ⟨g,5,none⟩ b5).setCell ⟨g,6,none⟩ b6).setCell ⟨g,7,none⟩ b7).setCell ⟨g,8,none⟩ b8).setCell ⟨g,9,none⟩ b9).heap[k]?=w.heap[k]?:=by
 iterate 10 rw[bz _ ⟨g,_,none⟩ _ k aO]
theorem Au {C:bx} (h:w.heap[g]?=some (.cells C t (0,0))) (hc:C.size=10):(loadVar 120 ⟨g,0,none⟩).run prog w= .ok (.agg C) w:=by
 have:=run_loadVar_mid (P:=prog) w g 0 120 C.toList _ (λj v hj=>by
  rw[Nat.zero_add,cell_of_row w g j _ _ _ h];simpa using hj) underlying120 rfl (by rw[show C.toList.length=10 by simpa using hc];kernel_rfl)
 exact oC
theorem acy (x:Int) (w:World):Calls prog 206 #[.int .i64 x] w (eu w (.bool (Ao x))):=by
 by_cases h:1<=x
 ·have d1:decide (1<=x)=true:=by simpa using h
  go_in;go_wp2;go_ret;exact⟨zO (by simp[Ao,h]),rfl⟩
 ·have d1:decide (1<=x)=false:=by simpa using h
  go_in;go_wp2;go_ret;exact⟨zO (by simp[Ao];intro;omega),rfl⟩
theorem asd (n:Nat):(⟨(Lib.repeatL [0] n).toArray⟩:ag)=jD n:=by
 have: ∀n,Lib.repeatL [(0:UInt8)] n=List.replicate n 0:=λn=>by
  induction n with
  |zero=>rfl
  |succ n ih=>rw[Lib.repeatL,ih,List.replicate_succ];rfl
 rw[this];rfl
theorem Nv (n:Nat) (w:World) (hn:n<=1000):Calls prog 154 #[.int .i64 (n:Nat)] w (bF w (.string (jD n))):=by
 go_in;go_wp2_with fail;refine (So ⟨#[0]⟩ n _ ae (by rw[show (⟨#[0]⟩:ag).size=1 from rfl];omega)).mono ?_;rintro e w1 ⟨rfl,hb⟩;go_wp2;go_ret;exact⟨by rw[<-asd];rfl,hb⟩
abbrev zH:bx:= #[.int .i64 0,.int .i64 0,.int .i64 0,.string ⟨#[]⟩,.string ⟨#[]⟩,.string ⟨#[]⟩,.int .i64 0,.int .i64 0,.string ⟨#[]⟩,.string ⟨#[]⟩]
theorem Tr (w:World) (a b c d f:bx) (ta tb tc td tf:TypeId):
  (((((w.alloc (.cells a ta)).alloc (.cells b tb)).alloc (.cells c tc)).alloc (.cells d td)).alloc (.cells f tf)).heap[w.heap.size]?=some (.cells a ta (0,0))/\(((((w.alloc (.cells a ta)).alloc (.cells b tb)).alloc (.cells c tc)).alloc (.cells d td)).alloc (.cells f tf)).heap[w.heap.size+1]?=some (.cells b tb (0,0))/\
  (((((w.alloc (.cells a ta)).alloc (.cells b tb)).alloc (.cells c tc)).alloc (.cells d td)).alloc (.cells f tf)).heap[w.heap.size+1+1]?=some (.cells c tc (0,0))/\(((((w.alloc (.cells a ta)).alloc (.cells b tb)).alloc (.cells c tc)).alloc (.cells d td)).alloc (.cells f tf)).heap[w.heap.size+1+1+1]?=some (.cells d td (0,0))/\
  (((((w.alloc (.cells a ta)).alloc (.cells b tb)).alloc (.cells c tc)).alloc (.cells d td)).alloc (.cells f tf)).heap[w.heap.size+1+1+1+1]?=some (.cells f tf (0,0))/\
  aD w (((((w.alloc (.cells a ta)).alloc (.cells b tb)).alloc (.cells c tc)).alloc (.cells d td)).alloc (.cells f tf)):=by
 obtain⟨h0,h1,h2,h3,hb⟩:=Nl w a b c d ta tb tc td;have hs:((((w.alloc (.cells a ta)).alloc (.cells b tb)).alloc (.cells c tc)).alloc (.cells d td)).heap.size=w.heap.size+1+1+1+1:=ak;generalize (((w.alloc (.cells a ta)).alloc (.cells b tb)).alloc (.cells c tc)).alloc (.cells d td)=w5 at h0 h1 h2 h3 hb hs⊢;have bE:=be w5 (.cells f tf);have h4:=aR w5 (.cells f tf);rw[hs]at h4;exact⟨aJ h0 bE,aJ h1 bE,aJ h2 bE,aJ h3 bE,h4,bg hb bE⟩
def Av (bp bh:Nat):bJ:= [197,199,201,202,204,205].map λf=>Value.func (.func f) #[] #[.pointer (aw bp),.pointer (aw bh)]
theorem ase (bp br bh:Nat): ∀(i:Nat) (v:Value) (f:HR->HR),(Av bp bh)[i]?=some v->sV[i]?=some f->Tq bp br bh v f:=by
 intro i v f hv hf;match i with
 |0=>simp[Av,sV]at hv hf;subst hv hf;exact⟨_,rfl,enters_of func197 ax rfl,λp W h=>ar1 bp br bh p W h⟩
 |1=>simp[Av,sV]at hv hf;subst hv hf;exact⟨_,rfl,enters_of func199 ax rfl,λp W h=>ar2 bp br bh p W h⟩
 |2=>simp[Av,sV]at hv hf;subst hv hf;exact⟨_,rfl,enters_of func201 ax rfl,λp W h=>ar3 bp br bh p W h⟩
 |3=>simp[Av,sV]at hv hf;subst hv hf;exact⟨_,rfl,enters_of func202 ax rfl,λp W h=>ar4 bp br bh p W h⟩
 |4=>simp[Av,sV]at hv hf;subst hv hf;exact⟨_,rfl,enters_of func204 ax rfl,λp W h=>ar5 bp br bh p W h⟩
 |5=>simp[Av,sV]at hv hf;subst hv hf;exact⟨_,rfl,enters_of func205 ax rfl,λp W h=>ar6 bp br bh p W h⟩
 |k+6=>simp[sV]at hf
def DZ (bp bh:Nat):bJ:= [207,208,209,210].map λf=>Value.func (.func f) #[] #[.pointer (aw bp),.pointer (aw bh)]
theorem asf (bp br bh:Nat): ∀(i:Nat) (v:Value) (f:HR->HR),(DZ bp bh)[i]?=some v->qL[i]?=some f->Tq bp br bh v f:=by
 intro i v f hv hf;match i with
 |0=>simp[DZ,qL]at hv hf;subst hv hf;exact⟨_,rfl,enters_of func207 ax rfl,λp W h=>ar7 bp br bh p W h⟩
 |1=>simp[DZ,qL]at hv hf;subst hv hf;exact⟨_,rfl,enters_of func208 ax rfl,λp W h=>ar8 bp br bh p W h⟩
 |2=>simp[DZ,qL]at hv hf;subst hv hf;exact⟨_,rfl,enters_of func209 ax rfl,λp W h=>ar9 bp br bh p W h⟩
 |3=>simp[DZ,qL]at hv hf;subst hv hf;exact⟨_,rfl,enters_of func210 ax rfl,λp W h=>ar' bp br bh p W h⟩
 |k+4=>simp[qL]at hf
def acz (w:World) (r:Hd×Bool) (e:Ending) (w':World):Prop:=e= .returned (.tuple #[.agg (kK r.1),.bool r.2])/\aD w w'
theorem U4 (h:P:=by
 go_wp2_with fail;refine rC ax ax ?_;repeat (go_big_quiet_step (first|with_reducible exact Z32.out _|with_reducible exact Z16.out _))
 refine wpQuiet_nil ?_;rintro _ ⟨y,rfl⟩;replace H0:=aT H0 y.ok;replace H1:=aT H1 y.ok;replace HB:=aa (HB.trans (y.ok.mono HB.size));obtain⟨⟨z0,z1,z2,z3,z4,z5,z6,z7,z8,z9⟩,zf⟩:=fu H0.out;have f0:=zf 0;have f1:=zf 1;have f2:=zf 2;have f3:=zf 3;have f4:=zf 4;have f5:=zf 5;have f6:=zf 6;have f7:=zf 7;have f8:=zf 8;have f9:=zf 9;obtain⟨⟨c0,c1,c2,c3,c4,c5,c6,c7,c8,c9⟩,cf⟩:=fu H1.out;have k2:=cf 2;have k3:=cf 3;have k4:=cf 4;clear EY Qa cy4;go_wp2_with fail;refine bodyPost_ret (dJ rfl _ _ w.heap.size ah _ (Au (DY H0 _ _ _ _ _ _ _ _ _ _) rfl)) rfl ?_;rw[HE.out];exact⟨rfl,HB.trans (Ce (aM _) _ _ _ _ _ _ _ _ _ _)⟩):P:=h
theorem OF (h:P:=by
 go_wp2_with fail;refine bodyPost_ret (dJ rfl _ _ w.heap.size ah _ (Au (DY H0 _ _ _ _ _ _ _ _ _ _) rfl)) rfl ?_;rw[HE.out];exact⟨rfl,HB.trans (Ce (aM _) _ _ _ _ _ _ _ _ _ _)⟩):P:=h
theorem asg (s:ag) (w:World) (hs:s.size<=1000):
  Calls prog 123 #[.string s] w (acz w (jP s)):=by
 obtain⟨q,hq⟩: ∃q,q=lB sV (eQ,⟨s,false⟩):=⟨_,rfl⟩
 have Hq:=aa hq;have HR:=aa (show jP s=DQ q.1 (rO q.2) by rw[jP,hq]);obtain⟨g0,g1,g2,g3,g4,hb⟩:=Tr w zH zH #[.string s,.bool false] #[.pointer (some ⟨w.heap.size+1+1,0,none⟩)] (Av (w.heap.size+1+1+1) (w.heap.size+1)).toArray 120 120 264 262 1;have HW:=aa hb;have HC:=aa (acx (w.heap.size+1+1+1) (w.heap.size+1+1) (w.heap.size+1) (w.heap.size+1+1+1+1) 6 (Av (w.heap.size+1+1+1) (w.heap.size+1)) 1 sV (eQ,⟨s,false⟩) _ ⟨g3,g2,g1⟩ g4 ae ae rfl rfl (ase _ _ _) ae);have H0:=aa g0;clear hq g0 g1 g2 g3 g4 hb;go_in;go_wp2_with fail;refine Calls.mono HC ?_;rintro e w1 ⟨rfl,ry,la⟩;rw[<-Hq.out]at ry⊢;obtain⟨⟨h0,h1,h2,h3,h4,h5,h6,h7,h8,h9⟩,r⟩:=q;replace H0:=aa ((la.block w.heap.size (bf H0) ae ae).trans H0);have HB:=aa (HW.trans (la.below ae ae HW.size));have H1:=aa (show bj w1 (w.heap.size+1) #[.int .i64 h0,.int .i64 h1,.int .i64 h2,.string h3,.string h4,.string h5,.int .i64 h6,.int .i64 h7,.string h8,.string h9] 120 from ry.hh);obtain⟨⟨c0,c1,c2,c3,c4,c5,c6,c7,c8,c9⟩,cf⟩:=fu H1.out;obtain⟨⟨z0,z1,z2,z3,z4,z5,z6,z7,z8,z9⟩,zf⟩:=fu H0.out;have f0:=zf 0;have f1:=zf 1;have f2:=zf 2;have f3:=zf 3;have f4:=zf 4;have f5:=zf 5;have f6:=zf 6;have f7:=zf 7;have f8:=zf 8;have f9:=zf 9;have k2:=cf 2;have k3:=cf 3;have k4:=cf 4;have Bm:=bf H1.out;clear la ry zf cf;simp only at HR;cases dI:rO r with
 |false=>
  have HE:=aa (show jP s=(eQ,false) by rw[HR.out,dI,DQ,if_pos (.inl rfl)]);clear dI;exact OF
 |true=>
  have nC:=aa dI;clear dI;by_cases Mg:5<h1
  ·have HE:=aa (show jP s=(eQ,false) by rw[HR.out,DQ,if_pos (.inr Mg)]);have d1:decide (5<h1)=true:=by simpa using Mg
   exact OF
  ·have d1:decide (5<h1)=false:=by simpa using Mg
   have jc:=aa (show jP s=if h2≠0 then (if Ao h0 then (⟨h0,h1,h2,h3,h4,h5,h6,h7,h8,h9⟩,true) else (eQ,false)) else if h0≠0\/h3≠jD 32\/h4≠jD 16 then (eQ,false) else (⟨h0,h1,0,bo,bo,h5,h6,h7,h8,h9⟩,true) by
    rw[HR.out,DQ,if_neg (by rw[nC.out];simp;simpa using Mg)])
   clear Mg;by_cases hx:h2=0
   ·have j3:=aa (show jP s=if h0≠0\/h3≠jD 32\/h4≠jD 16 then (eQ,false) else (⟨h0,h1,0,bo,bo,h5,h6,h7,h8,h9⟩,true) by rw[jc.out,if_neg (by rw[hx];simp)]);have d2:(h2 !=0)=false:=(by simpa using hx);have EY: ∀y:bM w1,y.x.cell? ⟨w.heap.size+1,0,none⟩=some (.int .i64 h0):=λy=>y.cell c0;have Qa: ∀y:bM w1,y.x.cell? ⟨w.heap.size+1,3,none⟩=some (.string h3):=λy=>y.cell c3;have cy4: ∀y:bM w1,y.x.cell? ⟨w.heap.size+1,4,none⟩=some (.string h4):=λy=>y.cell c4;have Z32:Hid (∀y:bM w1,Calls prog 154 #[.int .i64 32] y.x λe w'=>e= .returned (.string (jD 32))/\ ∃z:bM w1,w'=z.x):=aa λy=>lS (Nv 32 y.x ae);have Z16:Hid (∀y:bM w1,Calls prog 154 #[.int .i64 16] y.x λe w'=>e= .returned (.string (jD 16))/\ ∃z:bM w1,w'=z.x):=aa λy=>lS (Nv 16 y.x ae);clear hx;by_cases he:h0=0
    ·have d3:(h0 !=0)=false:=(by simpa using he);by_cases aL:h3=jD 32
     ·by_cases aP:h4=jD 16
      ·have HE:=aa (show jP s=(⟨h0,h1,0,bo,bo,h5,h6,h7,h8,h9⟩,true) by rw[j3.out,if_neg (by simp[he,aL,aP])]);have d4:(h3.toList==(jD 32).toList)=true:=(by rw[aL];exact beq_self_eq_true _);have d5:(h4.toList==(jD 16).toList)=true:=(by rw[aP];exact beq_self_eq_true _);clear he aL aP;go_wp2_with fail;refine rC ax ax ?_;repeat (go_big_quiet_step (first|with_reducible exact Z32.out _|with_reducible exact Z16.out _))
       refine wpQuiet_nil ?_;rintro _ ⟨y,rfl⟩;replace H0:=aT H0 y.ok;replace H1:=aT H1 y.ok;replace HB:=aa (HB.trans (y.ok.mono HB.size));obtain⟨⟨z0,z1,z2,z3,z4,z5,z6,z7,z8,z9⟩,zf⟩:=fu H0.out;have f0:=zf 0;have f1:=zf 1;have f2:=zf 2;have f3:=zf 3;have f4:=zf 4;have f5:=zf 5;have f6:=zf 6;have f7:=zf 7;have f8:=zf 8;have f9:=zf 9;obtain⟨⟨c0,c1,c2,c3,c4,c5,c6,c7,c8,c9⟩,cf⟩:=fu H1.out;have k2:=cf 2;have k3:=cf 3;have k4:=cf 4;clear EY Qa cy4;go_wp2_with fail;have q0:=(bz (((y.x.setCell ⟨w.heap.size+1,2,none⟩ (.int .i64 0)).setCell ⟨w.heap.size+1,3,none⟩ (.string ⟨#[]⟩))) ⟨w.heap.size+1,4,none⟩ (.string ⟨#[]⟩) w.heap.size ak).trans ((bz (y.x.setCell ⟨w.heap.size+1,2,none⟩ (.int .i64 0)) ⟨w.heap.size+1,3,none⟩ (.string ⟨#[]⟩) w.heap.size ak).trans ((bz y.x ⟨w.heap.size+1,2,none⟩ (.int .i64 0) w.heap.size ak).trans H0));refine bodyPost_ret (dJ rfl _ _ w.heap.size ah _ (Au (DY q0 _ _ _ _ _ _ _ _ _ _) rfl)) rfl ?_;rw[HE.out];exact⟨rfl,(((HB.trans (jQ ae _)).trans (jQ ae _)).trans (jQ ae _)).trans (Ce (aM _) _ _ _ _ _ _ _ _ _ _)⟩
      ·have HE:=aa (show jP s=(eQ,false) by rw[j3.out,if_pos (.inr (.inr aP))]);have d4:(h3.toList==(jD 32).toList)=true:=(by rw[aL];exact beq_self_eq_true _);have d5:(h4.toList==(jD 16).toList)=false:=zU aP;clear he aL aP;exact U4
     ·have HE:=aa (show jP s=(eQ,false) by rw[j3.out,if_pos (.inr (.inl aL))]);have d4:(h3.toList==(jD 32).toList)=false:=zU aL;clear he aL;exact U4
    ·have d3:(h0 !=0)=true:=(by simpa using he);have HE:=aa (show jP s=(eQ,false) by rw[j3.out,if_pos (.inl he)]);clear he;exact U4
   ·have d2:(h2 !=0)=true:=(by simpa using hx);have Hx:=aa hx;clear hx;go_wp2_with fail;refine (acy h0 _).mono ?_;rintro e w2 ⟨rfl,rfl⟩;cases he:Ao h0 with
    |false=>
     have HE:=aa (show jP s=(eQ,false) by rw[jc.out,if_pos Hx.out,he];rfl);clear he;exact OF
    |true=>
     have HE:=aa (show jP s=(⟨h0,h1,h2,h3,h4,h5,h6,h7,h8,h9⟩,true) by rw[jc.out,if_pos Hx.out,he];rfl);clear he;exact OF
theorem Oy (h:P:=by
 go_wp2_with fail;refine bodyPost_ret (dJ rfl _ _ (w.heap.size+1) ah _ (Au (DY H0 _ _ _ _ _ _ _ _ _ _) rfl)) rfl ?_;rw[HE.out];exact⟨rfl,HB.trans (Ce ae _ _ _ _ _ _ _ _ _ _)⟩):P:=h
theorem ash (h:Hd) (s:ag) (w:World) (hs:s.size<=1000):
  Calls prog 124 #[.agg (kK h),.string s] w (acz w (pg h s)):=by
 by_cases hz:s.size=0
 ·have HE:=aa (show pg h s=(h,true) by rw[pg,if_pos hz]);have e1:=(sG s).2 hz;obtain⟨h0,h1,h2,h3,h4,h5,h6,h7,h8,h9⟩:=h;have g0:=aR w (.cells (kK ⟨h0,h1,h2,h3,h4,h5,h6,h7,h8,h9⟩) 120);have b0:=be w (.cells (kK ⟨h0,h1,h2,h3,h4,h5,h6,h7,h8,h9⟩) 120);have ts:=aa b0;have hX:=aR (w.alloc (.cells (kK ⟨h0,h1,h2,h3,h4,h5,h6,h7,h8,h9⟩) 120)) (.cells (kK ⟨h0,h1,h2,h3,h4,h5,h6,h7,h8,h9⟩) 120);rw[World.size_alloc]at hX;have HX:=aa hX;unfold kK;go_in;go_wp2_with fail;refine bodyPost_ret (dJ rfl _ _ (w.heap.size+1) ah _ (Au HX rfl)) rfl ?_;rw[HE.out];exact⟨rfl,ts.alloc ts.size _⟩
 ·have e1:s.toList.isEmpty=false:=toList_some s hz;have e2: ¬s.toList= []:=λe=>hz ((sG s).1 e);obtain⟨q,hq⟩: ∃q,q=lB qL (h,⟨s,false⟩):=⟨_,rfl⟩
  have Hq:=aa hq;have HR:=aa (show pg h s=Aq q.1 (rO q.2) by rw[pg,if_neg hz,hq]);obtain⟨g0,g1,g2,g3,g4,hb⟩:=Tr w (kK h) zH #[.string s,.bool false] #[.pointer (some ⟨w.heap.size+1+1,0,none⟩)] (DZ (w.heap.size+1+1+1) w.heap.size).toArray 120 120 264 262 1;have HW:=aa hb;have HC:=aa (acx (w.heap.size+1+1+1) (w.heap.size+1+1) w.heap.size (w.heap.size+1+1+1+1) 4 (DZ (w.heap.size+1+1+1) w.heap.size) 1 qL (h,⟨s,false⟩) _ ⟨g3,g2,g0⟩ g4 ae ae rfl rfl (asf _ _ _) ae);have H0:=aa g1;obtain⟨a0,a1,a2,a3,a4,a5,a6,a7,a8,a9⟩:=h;unfold kK at HC;show Calls prog 124 #[.agg #[.int .i64 a0,.int .i64 a1,.int .i64 a2,.string a3,.string a4,.string a5,.int .i64 a6,.int .i64 a7,.string a8,.string a9],.string s] w _;go_in;go_wp2_with fail;refine Calls.mono HC ?_;rintro e w1 ⟨rfl,ry,la⟩;rw[<-Hq.out]at ry⊢;obtain⟨⟨h0,h1,h2,h3,h4,h5,h6,h7,h8,h9⟩,r⟩:=q;replace H0:=aa ((la.block (w.heap.size+1) (bf H0) ae ae).trans H0);have HB:=aa (HW.trans (la.below ae ae HW.size));have H1:=aa (show bj w1 w.heap.size #[.int .i64 h0,.int .i64 h1,.int .i64 h2,.string h3,.string h4,.string h5,.int .i64 h6,.int .i64 h7,.string h8,.string h9] 120 from ry.hh);obtain⟨⟨c0,c1,c2,c3,c4,c5,c6,c7,c8,c9⟩,cf⟩:=fu H1.out;obtain⟨⟨z0,z1,z2,z3,z4,z5,z6,z7,z8,z9⟩,zf⟩:=fu H0.out;have f0:=zf 0;have f1:=zf 1;have f2:=zf 2;have f3:=zf 3;have f4:=zf 4;have f5:=zf 5;have f6:=zf 6;have f7:=zf 7;have f8:=zf 8;have f9:=zf 9;have Bm:=bf H0.out;simp only at HR;cases dI:rO r with
  |false=>
   have HE:=aa (show pg ⟨a0,a1,a2,a3,a4,a5,a6,a7,a8,a9⟩ s=(eQ,false) by rw[HR.out,dI,Aq,if_pos (.inl rfl)]);exact Oy
  |true=>
   have nC:=aa dI;have hr: ∀b:Bool,(Ao h6=false\/h7=0)=(b=true)->Aq ⟨h0,h1,h2,h3,h4,h5,h6,h7,h8,h9⟩ (rO r)=if b then (eQ,false) else (⟨h0,h1,h2,h3,h4,h5,h6,h7,h8,h9⟩,true):=by
    intro b hb;rw[Aq,nC.out];cases b with
    |true=>rw[if_pos (.inr (by rw[hb]))];rfl
    |false=>rw[if_neg (by rintro (h|h);cases h;rw[hb]at h;cases h)];rfl
   have Hr:=aa hr;go_wp2_with fail;refine (acy h6 _).mono ?_;rintro e w2 ⟨rfl,rfl⟩;cases he:Ao h6 with
   |false=>
    have HE:=aa (show pg ⟨a0,a1,a2,a3,a4,a5,a6,a7,a8,a9⟩ s=(eQ,false) by rw[HR.out,Hr.out true (by simp[he])];rfl);exact Oy
   |true=>
    by_cases hx:h7=0
    ·have HE:=aa (show pg ⟨a0,a1,a2,a3,a4,a5,a6,a7,a8,a9⟩ s=(eQ,false) by rw[HR.out,Hr.out true (by simp[hx])];rfl);have d2:(h7==0)=true:=(by simpa using hx);exact Oy
    ·have HE:=aa (show pg ⟨a0,a1,a2,a3,a4,a5,a6,a7,a8,a9⟩ s=(⟨h0,h1,h2,h3,h4,h5,h6,h7,h8,h9⟩,true) by rw[HR.out,Hr.out false (by simp[he,hx])];rfl);have d2:(h7==0)=false:=(by simpa using hx);exact Oy
def Tt (w:World) (r:Hd×Int) (e:Ending) (w':World):Prop:=e= .returned (.tuple #[.agg (kK r.1),.int .i64 r.2])/\aD w w'
theorem acA {P:az} {i:Int} (h:(cF P i).2.2=0):(cF P i).1.size<=128:=by
 have hr:=Nc h;unfold cF at h⊢;split
 ·exact Nat.zero_le _
 ·rename_i hn;rw[if_neg hn]at h;split
  ·exact Nat.zero_le _
  ·rename_i far hf;rw[hf]at h;exact Ti h
theorem OK (h:P:=by
 go_wp2_with fail;refine bodyPost_ret (dJ rfl _ _ (w.heap.size+1) ah _ (Au (DY HX _ _ _ _ _ _ _ _ _ _) rfl)) rfl ?_;rw[HE.out];exact⟨rfl,HB.trans (Ce ae _ _ _ _ _ _ _ _ _ _)⟩):P:=h
theorem ahc (h:P:=by
 go_wp2_with fail;refine bodyPost_ret (dJ rfl _ _ (w.heap.size+1) ah _ (Au (DY ((asc (g:=w2.heap.size) (k:=w.heap.size+1) ae _ _ _ _ _ _ _ _ _ _).trans HX) _ _ _ _ _ _ _ _ _ _) rfl)) rfl ?_;rw[HE.out];exact⟨rfl,(HB.trans (Ce ae _ _ _ _ _ _ _ _ _ _)).trans (Ce ae _ _ _ _ _ _ _ _ _ _)⟩):P:=h
theorem Gm (v:Value) (P:az) (w:World) (h:dT w v P):Calls prog 69 #[v] w (Tt w (dr P)):=by
 obtain⟨A,n,c,B,m,d,rfl,h⟩:=h;have h0:=aR w (.cells #[.slice A n c,.slice B m d] 74);have b0:=be w (.cells #[.slice A n c,.slice B m d] 74);have h1:=aR (w.alloc (.cells #[.slice A n c,.slice B m d] 74)) (.cells zH 120);have b1:=(aI (w.alloc (.cells #[.slice A n c,.slice B m d] 74)).heap.size (w.alloc (.cells #[.slice A n c,.slice B m d] 74))).alloc (aM _) (.cells zH 120);rw[World.size_alloc]at h1;have HX:=aa h1;have HA:=aa (aJ h0 b1);have HB:=aa (bg b0 b1);have HP:=aa ((h.below b0).below b1);obtain⟨q1,mu⟩: ∃q,q=cF P 0:=⟨_,rfl⟩
 have HG:Hid (dr P=if q1.2.2≠0 then (eQ,q1.2.2) else if q1.2.1=false then (eQ,212) else if (jP q1.1).2=false then (eQ,140) else if (cF P 3).2.2≠0 then (eQ,(cF P 3).2.2)
  else if (cF P 3).2.1=false then ((jP q1.1).1,0) else if (pg (jP q1.1).1 (cF P 3).1).2=false then (eQ,140) else ((pg (jP q1.1).1 (cF P 3).1).1,0)):=aa (by rw[mu];rfl)
 have CL:=aa (show q1.2.2=0->q1.1.size<=128 by rw[mu];exact acA);have Hq1:=aa mu;obtain⟨s1,ok1,e1⟩:=q1;simp only at HG CL;go_in;go_wp2_with fail;refine (DU A B n c m d P 0 _ HP ae).mono ?_;rintro e w1 ⟨rfl,aG⟩;rw[<-Hq1.out];replace HP:=aa (HP.below aG);replace HX:=aT HX aG;replace HA:=aT HA aG;replace HB:=aX HB aG;obtain⟨a0,a1,_,_⟩:=aV HA.out;obtain⟨⟨z0,z1,z2,z3,z4,z5,z6,z7,z8,z9⟩,zf⟩:=fu HX.out;have f0:=zf 0;have f1:=zf 1;have f2:=zf 2;have f3:=zf 3;have f4:=zf 4;have f5:=zf 5;have f6:=zf 6;have f7:=zf 7;have f8:=zf 8;have f9:=zf 9;have EB:=bf HX.out;by_cases uT:e1=0
 ·subst uT;have jJ:=CL.out rfl;cases ok1 with
  |false=>
   have HE:=aa (show dr P=(eQ,212) by rw[HG.out];rfl);exact OK
  |true=>
   obtain⟨q2,Fr⟩: ∃q,q=jP s1:=⟨_,rfl⟩
   rw[<-Fr]at HG;have Hq2:=aa Fr;obtain⟨⟨h0,h1,h2,h3,h4,h5,h6,h7,h8,h9⟩,r1⟩:=q2;simp only at HG;go_wp2_with fail;refine (asg s1 _ ae).mono ?_;rintro e w2 ⟨rfl,av⟩;rw[<-Hq2.out];replace HP:=aa (HP.below av);replace HX:=aT HX av;replace HA:=aT HA av;replace HB:=aX HB av;have aL:=be w2 (.cells #[.int .i64 h0,.int .i64 h1,.int .i64 h2,.string h3,.string h4,.string h5,.int .i64 h6,.int .i64 h7,.string h8,.string h9] 120);have H3:=aa (aR w2 (.cells #[.int .i64 h0,.int .i64 h1,.int .i64 h2,.string h3,.string h4,.string h5,.int .i64 h6,.int .i64 h7,.string h8,.string h9] 120));obtain⟨a0,a1,_,_⟩:=aV HA.out;obtain⟨⟨z0,z1,z2,z3,z4,z5,z6,z7,z8,z9⟩,zf⟩:=fu HX.out;have f0:=zf 0;have f1:=zf 1;have f2:=zf 2;have f3:=zf 3;have f4:=zf 4;have f5:=zf 5;have f6:=zf 6;have f7:=zf 7;have f8:=zf 8;have f9:=zf 9;have EB:=bf HX.out;have aO:w2.heap.size≠w.heap.size+1:=ae;unfold kK;cases r1 with
   |false=>
    have HE:=aa (show dr P=(eQ,140) by rw[HG.out];rfl);go_wp2_with fail;refine bodyPost_ret (dJ rfl _ _ (w.heap.size+1) ah _ (Au (aJ (DY HX _ _ _ _ _ _ _ _ _ _) ((aI _ _).alloc (aM _) _)) rfl)) rfl ?_;rw[HE.out];have hB:=HB.trans (Ce (w:=w2) (B:=w.heap.size) (g:=w.heap.size+1) ae (.int .i64 0) (.int .i64 0) (.int .i64 0) (.string ⟨#[]⟩) (.string ⟨#[]⟩) (.string ⟨#[]⟩) (.int .i64 0) (.int .i64 0) (.string ⟨#[]⟩) (.string ⟨#[]⟩));exact⟨rfl,hB.alloc hB.size _⟩
   |true=>
    replace HP:=aa (HP.below aL);replace HX:=aT HX aL;replace HA:=aT HA aL;replace HB:=aX HB aL;obtain⟨a0,a1,_,_⟩:=aV HA.out;obtain⟨⟨z0,z1,z2,z3,z4,z5,z6,z7,z8,z9⟩,zf⟩:=fu HX.out;have f0:=zf 0;have f1:=zf 1;have f2:=zf 2;have f3:=zf 3;have f4:=zf 4;have f5:=zf 5;have f6:=zf 6;have f7:=zf 7;have f8:=zf 8;have f9:=zf 9;have EB:=bf HX.out;have dg:=aa (show (cF P 3).2.2=0->(cF P 3).1.size<=128 from acA);obtain⟨q3,hq3⟩: ∃q,q=cF P 3:=⟨_,rfl⟩
    rw[<-hq3]at HG dg;have Hq3:=aa hq3;obtain⟨s3,ok3,e3⟩:=q3;simp only at HG dg;go_wp2_with fail;refine (DU A B n c m d P 3 _ HP ae).mono ?_;rintro e w3 ⟨rfl,aP⟩;rw[<-Hq3.out];replace H3:=aT H3 aP;replace HX:=aT HX aP;replace HA:=aT HA aP;replace HB:=aX HB aP;obtain⟨a0,a1,_,_⟩:=aV HA.out;obtain⟨⟨z0,z1,z2,z3,z4,z5,z6,z7,z8,z9⟩,zf⟩:=fu HX.out;have f0:=zf 0;have f1:=zf 1;have f2:=zf 2;have f3:=zf 3;have f4:=zf 4;have f5:=zf 5;have f6:=zf 6;have f7:=zf 7;have f8:=zf 8;have f9:=zf 9;have EB:=bf HX.out;obtain⟨⟨d0,d1,d2,d3,d4,d5,d6,d7,d8,d9⟩,df⟩:=fu H3.out;have df0:=df 0;have df1:=df 1;have df2:=df 2;have df3:=df 3;have df4:=df 4;have df5:=df 5;have df6:=df 6;have df7:=df 7;have df8:=df 8;have df9:=df 9;by_cases ID:e3=0
    ·subst ID;have rv:=dg.out rfl;cases ok3 with
     |false=>
      have HE:=aa (show dr P=(⟨h0,h1,h2,h3,h4,h5,h6,h7,h8,h9⟩,0) by rw[HG.out];rfl);exact OK
     |true=>
      have HN:=aa (ash ⟨h0,h1,h2,h3,h4,h5,h6,h7,h8,h9⟩ s3 w3 ae);obtain⟨q4,AX⟩: ∃q,q=pg ⟨h0,h1,h2,h3,h4,h5,h6,h7,h8,h9⟩ s3:=⟨_,rfl⟩
      rw[<-AX]at HG HN;obtain⟨⟨k0,k1,k2,k3,k4,k5,k6,k7,k8,k9⟩,r4⟩:=q4;simp only at HG;unfold kK at HN;go_wp2_with fail;refine Calls.mono HN ?_;rintro e w4 ⟨rfl,aY⟩;replace H3:=aT H3 aY;replace HX:=aT HX aY;replace HA:=aT HA aY;replace HB:=aX HB aY;obtain⟨a0,a1,_,_⟩:=aV HA.out;obtain⟨⟨z0,z1,z2,z3,z4,z5,z6,z7,z8,z9⟩,zf⟩:=fu HX.out;have f0:=zf 0;have f1:=zf 1;have f2:=zf 2;have f3:=zf 3;have f4:=zf 4;have f5:=zf 5;have f6:=zf 6;have f7:=zf 7;have f8:=zf 8;have f9:=zf 9;have EB:=bf HX.out;obtain⟨⟨d0,d1,d2,d3,d4,d5,d6,d7,d8,d9⟩,df⟩:=fu H3.out;have df0:=df 0;have df1:=df 1;have df2:=df 2;have df3:=df 3;have df4:=df 4;have df5:=df 5;have df6:=df 6;have df7:=df 7;have df8:=df 8;have df9:=df 9;unfold kK;cases r4 with
      |false=>
       have HE:=aa (show dr P=(eQ,140) by rw[HG.out];rfl);exact ahc
      |true=>
       have HE:=aa (show dr P=(⟨k0,k1,k2,k3,k4,k5,k6,k7,k8,k9⟩,0) by rw[HG.out];rfl);exact ahc
    ·have dd:(e3 !=0)=true:=(by simpa using ID);have HE:=aa (show dr P=(eQ,e3) by rw[HG.out];simp[ID]);exact OK
 ·have dd:(e1 !=0)=true:=by simpa using uT
  have HE:=aa (show dr P=(eQ,e1) by rw[HG.out];simp[uT]);exact OK
theorem Tu (n:Int) (w:World) (h:fW n=true):Calls prog 155 #[.int .i64 n] w (bF w (.string (bs (qM n)))):=by
 have hw:ez [n]=true:=by simp[ez,h]
 have HF:=aa (show qM n=lu [n] true by rw[qM,if_pos h]);go_in;go_wp2_with fail;refine (Ry _ 1 1 [n] _ (by exact jk _ _ _ _ rfl) rfl ak hw).mono ?_;rintro e w1 ⟨rfl,hb⟩;have hB:=bg (be w (.cells #[.int .i64 n] 3)) hb;go_wp2;go_ret;rw[HF.out];exact⟨rfl,hB⟩
theorem asi (n:Int):IntKind.u8.wrap n=(((u8 n).toNat:Nat):Int):=by
 rw[IntKind.wrap_u8];simp[u8];omega
theorem asj (x:UInt8) (w:World) (g:Nat) (hg:w.heap.size=g):(convert 34 9 (.slice (aw g) 1 1)).run prog (w.alloc (.cells #[.int .u8 (x.toNat:Int)] 5))= .ok (.string (bs [x])) (w.alloc (.cells #[.int .u8 (x.toNat:Int)] 5)):=
 DF (l:= [x]) (jk w _ _ g hg) 1 1 rfl
theorem J6 (n:Int) (w:World):Calls prog 156 #[.int .i64 n] w (bF w (.string (bs [u8 n]))):=by
 have C0:=asi n;have il:=asj (u8 n) w w.heap.size rfl;go_in;go_wp2;go_ret;exact⟨rfl,(aI _ w).alloc (aM _) _⟩
theorem acB (F T X S L C:ag):bs (F.data.toList++T.data.toList++X.data.toList++S.data.toList++L.data.toList++C.data.toList)=F++T++X++S++L++C:=by
 simp only[<-JU,Dx]
theorem af' (h:P:=by
 go_wp2_with fail;refine rC ax ax ?_;repeat (go_big_quiet_step (first|with_reducible exact K1.out _|with_reducible exact K2.out _|with_reducible exact K3.out _))
 refine wpQuiet_nil ?_;rintro _ ⟨y,rfl⟩;go_wp2;go_ret;rw[HN.out];exact⟨rfl,bg bq y.ok⟩):P:=h
theorem Ny (h:Hd) (w:World) (hw:fW h.epoch=true) (hb:h.b.size<=100000) (hs:h.salt.size<=100000) (hc:h.cred.size<=100000):
  Calls prog 89 #[.agg (kK h)] w (bF w (.string (eD h))):=by
 obtain⟨h0,h1,h2,h3,h4,h5,h6,h7,h8,h9⟩:=h;simp only at hw hb hs hc;obtain⟨F,hF⟩: ∃F,F=bs (qM h0):=⟨_,rfl⟩
 obtain⟨T,hT⟩: ∃T,T=bs [u8 h1]:=⟨_,rfl⟩
 obtain⟨X,hX⟩: ∃X,X=bs [u8 h2]:=⟨_,rfl⟩
 have hFs:F.size<=4:=by rw[hF,ei,qM,if_pos hw,oP];simp
 have hTs:T.size=1:=by rw[hT];rfl
 have hXs:X.size=1:=by rw[hX];rfl
 have HF:=aa hF;have HT:=aa hT;have HX:=aa hX;have al:=be w (.cells #[.int .i64 h0,.int .i64 h1,.int .i64 h2,.string h3,.string h4,.string h5,.int .i64 h6,.int .i64 h7,.string h8,.string h9] 120);have H0:=aa (aR w (.cells #[.int .i64 h0,.int .i64 h1,.int .i64 h2,.string h3,.string h4,.string h5,.int .i64 h6,.int .i64 h7,.string h8,.string h9] 120));have HB:=aa al;clear hF hT hX al;unfold kK;by_cases hx:h2=0
 ·have HN:=aa (show eD ⟨h0,h1,h2,h3,h4,h5,h6,h7,h8,h9⟩=F++T++X++jD 32++jD 16++h5 by
   rw[<-acB,eD,HF.out,HT.out,HX.out];simp only[hx,if_true];rfl)
  have z1:(jD 32).size=32:=au;have z2:(jD 16).size=16:=au;have d1:(h2==0)=true:=by simpa using hx
  clear hx;obtain⟨⟨c0,c1,c2,c3,c4,c5,c6,c7,c8,c9⟩,cf⟩:=fu H0.out;go_in;go_wp2_with fail;go_quiet (fail);rename_i nq;go_wp2_with fail;refine (Nv 32 _ ae).mono ?_;rintro e w1 ⟨rfl,aG⟩;go_wp2_with fail;refine (Nv 16 _ ae).mono ?_;rintro e w2 ⟨rfl,av⟩;have fh:=bg (bg (tX (aI _ (w.alloc (.cells #[.int .i64 h0,.int .i64 h1,.int .i64 h2,.string h3,.string h4,.string h5,.int .i64 h6,.int .i64 h7,.string h8,.string h9] 120))) nq) aG) av;clear aG av;have H2:=aa (aJ H0 fh);have bq:=aa (bg HB fh);clear fh;obtain⟨⟨e0,e1,e2,e3,e4,e5,e6,e7,e8,e9⟩,ef⟩:=fu H2.out;have EY: ∀y:bM w2,y.x.cell? ⟨w.heap.size,0,none⟩=some (.int .i64 h0):=λy=>y.cell e0;have PZ: ∀y:bM w2,y.x.cell? ⟨w.heap.size,1,none⟩=some (.int .i64 h1):=λy=>y.cell e1;have XP: ∀y:bM w2,y.x.cell? ⟨w.heap.size,2,none⟩=some (.int .i64 h2):=λy=>y.cell e2;have cy5: ∀y:bM w2,y.x.cell? ⟨w.heap.size,5,none⟩=some (.string h5):=λy=>y.cell e5;have K1:Hid (∀y:bM w2,Calls prog 155 #[.int .i64 h0] y.x λe w'=>e= .returned (.string F)/\ ∃z:bM w2,w'=z.x):=aa λy=>lS (by rw[HF.out];exact Tu h0 y.x hw);have K2:Hid (∀y:bM w2,Calls prog 156 #[.int .i64 h1] y.x λe w'=>e= .returned (.string T)/\ ∃z:bM w2,w'=z.x):=aa λy=>lS (by rw[HT.out];exact J6 h1 y.x);have K3:Hid (∀y:bM w2,Calls prog 156 #[.int .i64 h2] y.x λe w'=>e= .returned (.string X)/\ ∃z:bM w2,w'=z.x):=aa λy=>lS (by rw[HX.out];exact J6 h2 y.x);have s1: ¬9223372036854775807<F.size+T.size:=ae;have s2: ¬9223372036854775807<F.size+T.size+X.size:=ae;have s3: ¬9223372036854775807<F.size+T.size+X.size+(jD 32).size:=ae;have s4: ¬9223372036854775807<F.size+T.size+X.size+(jD 32).size+(jD 16).size:=ae;have s5: ¬9223372036854775807<F.size+T.size+X.size+(jD 32).size+(jD 16).size+h5.size:=ae;clear e0 e1 e2 e3 e4 e5 e6 e7 e8 e9 ef c0 c1 c2 c3 c4 c5 c6 c7 c8 c9 cf;exact af'
 ·have HN:=aa (show eD ⟨h0,h1,h2,h3,h4,h5,h6,h7,h8,h9⟩=F++T++X++h3++h4++h5 by
   rw[<-acB,eD,HF.out,HT.out,HX.out];simp only[hx,if_false];rfl)
  have d1:(h2==0)=false:=by simpa using hx
  clear hx;obtain⟨⟨c0,c1,c2,c3,c4,c5,c6,c7,c8,c9⟩,cf⟩:=fu H0.out;go_in;go_wp2_with fail;go_quiet (fail);rename_i nq;have fh:=tX (aI (w.alloc (.cells #[.int .i64 h0,.int .i64 h1,.int .i64 h2,.string h3,.string h4,.string h5,.int .i64 h6,.int .i64 h7,.string h8,.string h9] 120)).heap.size (w.alloc (.cells #[.int .i64 h0,.int .i64 h1,.int .i64 h2,.string h3,.string h4,.string h5,.int .i64 h6,.int .i64 h7,.string h8,.string h9] 120))) nq;obtain⟨w2,cl⟩: ∃w2,w2=(w.alloc (.cells #[.int .i64 h0,.int .i64 h1,.int .i64 h2,.string h3,.string h4,.string h5,.int .i64 h6,.int .i64 h7,.string h8,.string h9] 120)).drewN nq:=⟨_,rfl⟩
  rw[<-cl]at fh⊢;clear cl;have H2:=aa (aJ H0 fh);have bq:=aa (bg HB fh);clear fh;obtain⟨⟨e0,e1,e2,e3,e4,e5,e6,e7,e8,e9⟩,ef⟩:=fu H2.out;have EY: ∀y:bM w2,y.x.cell? ⟨w.heap.size,0,none⟩=some (.int .i64 h0):=λy=>y.cell e0;have PZ: ∀y:bM w2,y.x.cell? ⟨w.heap.size,1,none⟩=some (.int .i64 h1):=λy=>y.cell e1;have XP: ∀y:bM w2,y.x.cell? ⟨w.heap.size,2,none⟩=some (.int .i64 h2):=λy=>y.cell e2;have cy5: ∀y:bM w2,y.x.cell? ⟨w.heap.size,5,none⟩=some (.string h5):=λy=>y.cell e5;have K1:Hid (∀y:bM w2,Calls prog 155 #[.int .i64 h0] y.x λe w'=>e= .returned (.string F)/\ ∃z:bM w2,w'=z.x):=aa λy=>lS (by rw[HF.out];exact Tu h0 y.x hw);have K2:Hid (∀y:bM w2,Calls prog 156 #[.int .i64 h1] y.x λe w'=>e= .returned (.string T)/\ ∃z:bM w2,w'=z.x):=aa λy=>lS (by rw[HT.out];exact J6 h1 y.x);have K3:Hid (∀y:bM w2,Calls prog 156 #[.int .i64 h2] y.x λe w'=>e= .returned (.string X)/\ ∃z:bM w2,w'=z.x):=aa λy=>lS (by rw[HX.out];exact J6 h2 y.x);have s1: ¬9223372036854775807<F.size+T.size:=ae;have s2: ¬9223372036854775807<F.size+T.size+X.size:=ae;have s3: ¬9223372036854775807<F.size+T.size+X.size+h3.size:=ae;have s4: ¬9223372036854775807<F.size+T.size+X.size+h3.size+h4.size:=ae;have s5: ¬9223372036854775807<F.size+T.size+X.size+h3.size+h4.size+h5.size:=ae;clear e0 e1 e3 e4 e5 e6 e7 e8 e9 ef c0 c1 c2 c3 c4 c5 c6 c7 c8 c9 cf;exact af'
theorem ask (F X S L:ag):bs (F.data.toList++X.data.toList++S.data.toList++L.data.toList)=F++X++S++L:=by
 simp only[<-JU,Dx]
theorem asl (epoch x:Int) (b salt:ag) (w:World) (hw:fW epoch=true) (hb:b.size<=100000) (hs:salt.size<=100000):
  Calls prog 239 #[.int .i64 epoch,.agg #[.int .i64 x,.string b],.string salt] w (bF w (.string (BX epoch x b salt))):=by
 obtain⟨F,hF⟩: ∃F,F=bs (qM epoch):=⟨_,rfl⟩
 obtain⟨X,hX⟩: ∃X,X=bs [u8 x]:=⟨_,rfl⟩
 have hFs:F.size<=4:=by rw[hF,ei,qM,if_pos hw,oP];simp
 have hXs:X.size=1:=by rw[hX];rfl
 have HN:=aa (show BX epoch x b salt=F++X++b++salt by rw[<-ask,BX,hF,hX];rfl);have al:=be w (.cells #[.int .i64 x,.string b] 101);obtain⟨e0,e1,_,_⟩:=aV (aR w (.cells #[.int .i64 x,.string b] 101));have HB:=aa al;obtain⟨w2,cl⟩: ∃w2,w2=w.alloc (.cells #[.int .i64 x,.string b] 101):=⟨_,rfl⟩
 have Zx:=aa cl;rw[<-cl]at HB e0 e1;have EY: ∀y:bM w2,y.x.cell? ⟨w.heap.size,0,none⟩=some (.int .i64 x):=λy=>y.cell e0;have PZ: ∀y:bM w2,y.x.cell? ⟨w.heap.size,1,none⟩=some (.string b):=λy=>y.cell e1;have K1:Hid (∀y:bM w2,Calls prog 155 #[.int .i64 epoch] y.x λe w'=>e= .returned (.string F)/\ ∃z:bM w2,w'=z.x):=aa λy=>lS (by rw[hF];exact Tu epoch y.x hw);have K2:Hid (∀y:bM w2,Calls prog 156 #[.int .i64 x] y.x λe w'=>e= .returned (.string X)/\ ∃z:bM w2,w'=z.x):=aa λy=>lS (by rw[hX];exact J6 x y.x);have s1: ¬9223372036854775807<F.size+X.size:=ae;have s2: ¬9223372036854775807<F.size+X.size+b.size:=ae;have s3: ¬9223372036854775807<F.size+X.size+b.size+salt.size:=ae;clear hF hX al e0 e1 cl;go_in;go_wp2_with fail;rw[<-Zx.out];refine rC ax ax ?_;repeat (go_big_quiet_step (first|with_reducible exact K1.out _|with_reducible exact K2.out _))
 refine wpQuiet_nil ?_;rintro _ ⟨y,rfl⟩;go_wp2;go_ret;rw[HN.out];exact⟨rfl,bg HB y.ok⟩
theorem asm {P:az} {a d:Int} {s:ag} (h0:0<=d) (h:(eC P a s (min d 4)).2.1=true):4<=d:=by
 unfold eC at h;split at h
 ·cases h
 ·unfold vL at h;split at h
  ·cases h
  ·simp only[decide_eq_true_eq,pQ,List.length_cons,List.length_nil]at h;rcases Int.lt_or_le d 4 with aK|jy
   ·rw[Int.min_eq_left ae]at h;exfalso;unfold vK at h;split at h
    ·rename_i hc;simp at hc;omega
    ·simp at h;omega
   ·exact jy
theorem U7 (h:P:=by
 go_in;go_wp2_with fail;go_step3;go_wp2_with fail;go_step3;go_wp2_with fail;go_loopw [1,8,28] (λy z x wr=> ∃(k:Nat) (e:Int) (Q:az) (A1:aN) (n1 c1:Nat) (B1:aN) (m1 d1:Nat),k<=N/\x= .int .i64 (k:Nat)/\y= .int .i64 e/\z= .int .i64 0/\0<=e/\e<=4000/\r=qK (l.drop k) Q e/\bj wr w.heap.size #[.slice A1 n1 c1,.slice B1 m1 d1] 74/\bj wr (w.heap.size+1) zP 74/\PB wr A1 n1 B1 m1 Q/\aD w wr) (λ_ _ x _=>N -(intOf x).toNat);case atStart=>exact⟨0,_,P,A,n,c,B,m,d,ae,rfl,rfl,rfl,ae,ae,by rw[HR.out,Hd.out];rfl,HA,HX,HP,HB⟩
 case round=>
  obtain⟨k,e0,Q,A1,n1,c1,B1,m1,wL,hk,rfl,rfl,rfl,CH,uT,j2,mh,pF,tD,C5⟩:=hrel;have u9:=aa mh;have j9:=aa pF;have gM:=aa tD;have cu:=aa C5;have HQ:=aa j2;obtain⟨a0,a1,a2,a3⟩:=aV mh;obtain⟨x0,x1,x2,x3⟩:=aV pF;have Bm:=bf pF;clear mh pF tD C5 j2;by_cases aK:k<N
  ·have cY:k<l.length:=by rw[<-HN.out];omega
   obtain⟨b,aS,tR,c0,YR⟩:=Ng (HD.below cu) cY;subst tR;have hq:=HL.out _ (dY cY);have Hs:=aa (show r=qK (l[k]::l.drop (k+1)) Q e0 by rw[HQ.out,List.drop_eq_getElem_cons cY]);have gq:(k:Int)<(N:Int):=ae;generalize l[k]=q at c0 YR hq Hs;obtain⟨i,s⟩:=q;simp only at c0 YR hq;have bE:=be wr (.cells #[.int .i64 i,.string s] 148);replace u9:=aT u9 bE;replace j9:=aT j9 bE;replace gM:=aa (gM.below bE);replace cu:=aX cu bE;clear bE;obtain⟨b0,b1,b2,b3⟩:=aV u9.out;go_wp2_with fail;refine (Nq _ Q i (min e0 4) s _ ⟨_,_,_,_,_,_,rfl,gM⟩ hq).mono ?_;rintro e w2 ⟨v2,rfl,ml,av⟩;obtain⟨A2,n2,c2,B2,m2,jG,rfl,qc⟩:=ml;have bT:=aT j9 av;have dN:=aT u9 av;have bq:=aX cu av;have fh:=be w2 (.cells #[.slice A2 n2 c2,.slice B2 m2 jG] 74);have jb:=aT bT fh;have pC:=aT dN fh;have gX:=aa (qc.below fh);have cj:=aX bq fh;have iU:=bf bT.out;have XT:=aa (λh=>asm (P:=Q) (a:=i) (s:=s) CH h);have gV:=aa (show r=if (eC Q i s (min e0 4)).2.2≠0 then (bI,(eC Q i s (min e0 4)).2.2) else if (eC Q i s (min e0 4)).2.1=true then qK (l.drop (k+1)) (eC Q i s (min e0 4)).1 (e0 - 4) else ((eC Q i s (min e0 4)).1,230) by rw[Hs.out,qK]);obtain⟨q,pA⟩: ∃q,q=eC Q i s (min e0 4):=⟨_,rfl⟩
   rw[<-pA]at gV gX XT⊢;obtain⟨Q2,done,er⟩:=q;clear av qc fh a0 a1 a2 a3 b0 b1 b2 b3 x0 x1 x2 x3 pA c0 YR;obtain⟨a0,a1,a2,a3⟩:=aV pC.out;obtain⟨x0,x1,x2,x3⟩:=aV jb.out;obtain⟨p0,p1,p2,p3⟩:=aV dN.out;obtain⟨q0,q1,q2,q3⟩:=aV bT.out;simp only at gV gX XT⊢;by_cases dO:er=0
   ·subst dO;cases done with
    |true=>
     have he4:=XT.out rfl;go_wp2;go_roundw;case rel=>
      refine⟨k+1,_,Q2,A2,n2,c2,B2,m2,jG,ae,by go_num,rfl,rfl,ae,ae,by rw[gV.out];rfl,eA pC _ _,?_,gX.two pC,dL cj (aM _) _ _⟩;exact (bz _ ⟨w.heap.size,1,none⟩ _ (w.heap.size+1) ak).trans ((bz _ ⟨w.heap.size,0,none⟩ _ (w.heap.size+1) ak).trans jb)
     case measure=>simp[intOf];omega
    |false=>
     go_wp2_with fail;try simp only[Exit.inBlock,Exit.then,Exit.noGoto_ret]
     have L8:=(bz ((w2.alloc (.cells #[.slice A2 n2 c2,.slice B2 m2 jG] 74)).setCell ⟨w.heap.size,0,none⟩ (.slice A2 n2 c2)) ⟨w.heap.size,1,none⟩ (.slice B2 m2 jG) (w.heap.size+1) ak).trans ((bz (w2.alloc (.cells #[.slice A2 n2 c2,.slice B2 m2 jG] 74)) ⟨w.heap.size,0,none⟩ (.slice A2 n2 c2) (w.heap.size+1) ak).trans jb);refine bodyPost_ret (dJ rfl _ _ (w.heap.size+1) ah _ (eP (eA L8 _ _))) rfl ?_;rw[gV.out];exact⟨_,rfl,⟨_,_,_,_,_,_,rfl,(gX.two pC).two L8⟩,dL (dL cj (aM _) _ _) ae _ _⟩
   ·have d9:(er !=0)=true:=(by simpa using dO);have uz:=aa dO;clear dO;go_wp2_with fail;try simp only[Exit.inBlock,Exit.then,Exit.noGoto_ret]
    refine bodyPost_ret (dJ rfl _ _ (w.heap.size+1) ah _ (eP (aJ (eA bT _ _) ((aI _ _).alloc (aM _) _)))) rfl ?_;have wD:=dL (w0:=w) (w:=w2) bq (show w.heap.size<=w.heap.size+1 by omega) (ay) (ay);rw[gV.out,if_pos uz.out];exact⟨_,rfl,dT.no _,wD.alloc wD.size _⟩
  ·obtain rfl:k=N:=ae;have Le: ¬(k:Int)<(k:Int):=ae;have HE:=aa (show r=(Q,0) by rw[HQ.out,List.drop_of_length_le (by rw[HN.out];exact aM _)];rfl);go_wp2_with fail;try simp only[Exit.inBlock,Exit.then,Exit.noGoto_ret]
   refine bodyPost_ret (dJ rfl _ _ (w.heap.size+1) ah _ (eP (eA j9 _ _))) rfl ?_;rw[HE.out];exact⟨_,rfl,⟨_,_,_,_,_,_,rfl,gM.two j9⟩,dL cu ae _ _⟩):P:=h
theorem asn (A B D:aN) (n c m d cd N:Nat) (aH d0:Int) (P:az) (l:List l8) (r:az×Int) (w:World) (h:PB w A n B m P) (hD:Rd w D (jn l)) (hN:N=l.length) (hl: ∀q∈l,q.1<=9223372036854775000) (KT:N<=1000) (CT:N<=cd) (qY:d0=JS aH N) (hr:r=qK l P d0):
  Calls prog 88 #[.agg #[.slice A n c,.slice B m d],.int .i64 aH,.slice D N cd] w (kj w r):=by
 obtain⟨hX,hA,bG⟩:=qP w #[.slice A n c,.slice B m d] 74;have HP:=aa (h.below bG);have HX:=aa hX;have HA:=aa hA;have HB:=aa bG;have HN:=aa hN;have HD:=aa hD;have HL:=aa hl;have HR:=aa hr;have By:(aH<0\/4*(N:Int)<aH)/\d0=4*(N:Int)\/ ¬aH<0/\ ¬4*(N:Int)<aH/\d0=aH:=by
  rw[qY];unfold JS;by_cases h:aH<0\/4*(N:Int)<aH
  ·rw[if_pos h];exact .inl ⟨h,rfl⟩
  ·rw[if_neg h];exact .inr ⟨λe=>h (.inl e),λe=>h (.inr e),rfl⟩
 clear h hX hA bG hN hD hl hr qY;rcases By with⟨si,hd⟩|⟨gu,fi,vn⟩
 ·have Hd:=aa hd;clear hd;rcases Decidable.em (aH<0) with ji|ji
  ·have d1:decide (aH<0)=true:=by simpa using ji
   clear si;exact U7
  ·have d1:decide (aH<0)=false:=by simpa using ji
   have d2:decide (4*(N:Int)<aH)=true:=(by simpa using si.resolve_left ji);clear si;exact U7
 ·have d1:decide (aH<0)=false:=by simpa using gu
  have d2:decide (4*(N:Int)<aH)=false:=by simpa using fi
  have Hd:=aa vn;clear vn;exact U7
theorem Gn (v:Value) (D:aN) (cd N:Nat) (aH:Int) (P:az) (l:List l8) (w:World) (h:dT w v P) (hD:Rd w D (jn l)) (hN:N=l.length) (hl: ∀q∈l,q.1<=9223372036854775000) (KT:N<=1000) (CT:N<=cd):
  Calls prog 88 #[v,.int .i64 aH,.slice D N cd] w (kj w (eq P aH l)):=by
 obtain⟨A,n,c,B,m,d,rfl,h⟩:=h;exact asn A B D n c m d cd N aH _ P l _ w h hD hN hl KT CT rfl (by rw[eq,hN])
theorem aso (n:Nat) (w:World) (hn:1000000000<n):Calls prog 157 #[.int .i64 (n:Nat)] w (eu w (.tuple #[.string ⟨#[]⟩,.bool false])):=by
 have d1:decide ((n:Int)<0)=false:=ak;have d2:decide ((1000000000:Int)<(n:Int))=true:=by simp;omega
 exact U3
theorem asp (s:ag) (w:World) (hs:1000000000<s.size):Calls prog 90 #[.string s] w (bF w (.string bo)):=by
 go_in;go_wp2_with fail;refine (aso s.size _ hs).mono ?_;rintro e w1 ⟨rfl,rfl⟩;exact GZ
def gE (s:ag):ag:=if s.size<=1000000000 then bs (jA s.data.toList) else bo
theorem acC (s:ag):(gE s).size<=32:=by
 unfold gE;split
 ·rw[ei,FT];exact aM _
 ·exact Nat.zero_le _
theorem Tv (s:ag) (w:World) (hR:cX w):Calls prog 90 #[.string s] w (bF w (.string (gE s))):=by
 by_cases h:s.size<=1000000000
 ·rw[gE,if_pos h];exact FS s w hR h
 ·rw[gE,if_neg h];exact asp s w ae
theorem asq (s t:ag):(s.toList==t.toList)=decide (s=t):=by
 exact agj
theorem asr (s t:ag) (w:World):Calls prog 103 #[.string s,.string t] w (eu w (.bool (decide (s=t)))):=by
 have he:=asq s t;have HE:=aa he;clear he;go_in;go_wp2;go_ret;exact⟨zO HE,rfl⟩
theorem ass (s:ag) (w:World) (hR:cX w):Calls prog 42 #[.string s] w (kj w (lZ (gE s))):=by
 have hX:=aR w (.cells zP 74);have b0:=be w (.cells zP 74);have HX:=aa hX;have HB:=aa b0;have HR:=aa (hR.below b0);obtain⟨sm,mN⟩: ∃sm,sm=gE s:=⟨_,rfl⟩
 have pB:sm.size<=32:=by rw[mN];exact acC s
 have zc:=aa mN;rw[<-mN];obtain⟨tx,xu⟩: ∃tx,tx=eD (DR sm):=⟨_,rfl⟩
 have tG:Hid (∀W,Calls prog 89 #[.agg #[.int .i64 0,.int .i64 0,.int .i64 0,.string ⟨#[]⟩,.string ⟨#[]⟩,.string sm,.int .i64 0,.int .i64 0,.string ⟨#[]⟩,.string ⟨#[]⟩]] W (bF W (.string tx))):=aa λW=>by
  rw[xu];exact Ny (DR sm) W (show fW 0=true by decide) (Nat.zero_le _) (Nat.zero_le _) (by show sm.size<=100000;omega)
 have HE:=aa (show lZ sm=eq (gD 6) (-1) [(0,tx)] by rw[xu];rfl);clear hX b0 mN xu hR;go_in;go_wp2_with fail;refine (Ta 6 _ ae ae).mono ?_;rintro e w1 ⟨v1,rfl,qt,aG⟩;obtain⟨A2,n2,c2,B2,m2,d2,rfl,tD⟩:=qt;have ajP:PB w1 A2 n2 B2 m2 (gD 6):=tD;have b1:=be w1 (.cells #[.slice A2 n2 c2,.slice B2 m2 d2] 74);replace HX:=aT (aT HX aG) b1;have H4:=aa (aR w1 (.cells #[.slice A2 n2 c2,.slice B2 m2 d2] 74));replace HB:=aa (HB.trans ((bg aG b1).mono HB.size));replace HR:=aa ((HR.below aG).below b1);have HP:=aa (ajP.below b1);obtain⟨x0,x1,_,_⟩:=aV H4.out;have aO:w.heap.size≠w1.heap.size:=by have:=aG.size;simp at this;omega
 obtain⟨w2,cl⟩: ∃w2,w2=w1.alloc (.cells #[.slice A2 n2 c2,.slice B2 m2 d2] 74):=⟨_,rfl⟩
 have Zx:=aa cl;rw[<-cl]at HX H4 HB HR HP x0 x1;clear tD ajP aG b1 cl;go_wp2_with fail;rw[<-Zx.out];go_region_held3 (λw'=>w'.cell? ⟨w1.heap.size,0,none⟩=some (.slice A2 n2 c2)/\w'.cell? ⟨w1.heap.size,1,none⟩=some (.slice B2 m2 d2))
  (first|assumption|exact⟨x0,x1⟩|exact i6 (by assumption) hb5'|exact t8 (by assumption)|exact i6 ⟨x0,x1⟩ (by assumption)|exact i6 (by assumption) (by assumption)|exact ip (ip (by assumption) (by simp[aO]) (by simp[aO])) (by simp[aO]) (by simp[aO]))
  (first
   |((go_at_call 90;refine (Tv s _ (by exact HR.out)).mono ?_);rintro _ w3 ⟨rfl,hb3'⟩;rw[<-zc.out];have aL:=bg ((aI _ w2).drew) hb3';clear hb3';replace HX:=aT HX aL;replace HB:=aX HB aL;replace HP:=aa (HP.below aL))
   |((go_at_call 89;refine Calls.mono (tG _) ?_);rintro _ w4 ⟨rfl,aP⟩;replace HX:=aT HX aP;replace HB:=aX HB aP;replace HP:=aa (HP.below aP);have bE:=be w4 (.cells #[.int .i64 0,.string tx] 148))
   |((go_at_call 88;refine (Gn _ _ 1 1 (-1) (gD 6) [(0,tx)] _ ⟨_,_,_,_,_,_,rfl,HP.below bE⟩ (by exact jk w4 _ _ _ rfl) rfl ak ae ae).mono ?_);rintro _ w5 ⟨v5,rfl,hv5,hb5'⟩;have aY:=bg bE hb5';replace HX:=aT HX aY;replace HB:=aX HB aY;rw[<-HE.out]at hv5⊢;obtain⟨A6,n6,c6,B6,m6,d6,rfl,nB⟩:=hv5;obtain⟨y0,y1,y2,y3⟩:=aV HX))
 go_wp2_with fail;refine bodyPost_ret (dJ rfl _ _ w.heap.size ah _ (eP (eA HX _ _))) rfl ?_;exact⟨_,rfl,⟨_,_,_,_,_,_,rfl,nB.two HX⟩,dL HB (aM _) _ _⟩
end Go.Proofs.YtaglcaocpcbiiaaGreatDoor
