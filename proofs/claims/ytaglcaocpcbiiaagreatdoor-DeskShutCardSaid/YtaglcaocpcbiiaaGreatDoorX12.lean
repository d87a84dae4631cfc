import Derived.Test.YtaglcaocpcbiiaaGreatDoorX08
import Derived.Test.YtaglcaocpcbiiaaGreatDoorX05
import Derived.WalkLawsBesides
import Derived.Defers
import Derived.Recover
set_option linter.unusedVariables false
set_option linter.unusedSimpArgs false
set_option maxRecDepth 100000
set_option maxHeartbeats 3000000
namespace Go.Proofs.YtaglcaocpcbiiaaGreatDoor
open Go.Proofs.Tryz Go.RowKit
variable {A:aN} {B B0 B1 b g n:Nat} {D:eZ} {P:Prop} {a0 a1 a2 a3 a4 a5 a6:Value} {e t:TypeId} {w w':World} {xs:bJ}
def DV (w:World) (v:Value) (D:eZ):Prop:= ∃A n c B m d C p q E s t,v= .agg #[.int .i64 D.r.e,.int .i64 D.r.k,.slice A n c,.slice B m d,.string D.sec,.slice C p q,.slice E s t]/\Rd w A (aZ D.r.ns)/\n=D.r.ns.length/\Rd w B (aZ D.r.ps)/\m=D.r.ps.length/\Rd w C (dq D.sh)/\p=D.sh.length/\Rd w E (aZ D.sa)/\s=D.sa.length
theorem eE (w:World) (b i:Nat) (v:Value):w.grownBy (w.setCell ⟨b,i,none⟩ v) (some b):=
 ⟨rfl,rfl,rfl,ak,λk hk aO=>bz w ⟨b,i,none⟩ v k (by simp;exact λe=>aO (by rw[e]))⟩
theorem mE {w1 w2:World} {r:Option Nat} (h:w.grownBy w1 r) (h':w1.grownBy w2 r):w.grownBy w2 r:=
 ⟨h'.os.trans h.os,h'.tape.trans h.tape,h'.output.trans h.output,bD h.size h'.size,λk hk aO=>(h'.block k (jY hk h.size) aO).trans (h.block k hk aO)⟩
theorem Gk {W:World} (h:W.heap[g]?=some (.cells #[a0,a1,a2,a3,a4,a5,a6] t (0,0))) (b0 b1 b2 b3 b4 b5 b6:Value):
  (((((((W.setCell ⟨g,0,none⟩ b0).setCell ⟨g,1,none⟩ b1).setCell ⟨g,2,none⟩ b2).setCell ⟨g,3,none⟩ b3).setCell ⟨g,4,none⟩ b4).setCell ⟨g,5,none⟩ b5).setCell ⟨g,6,none⟩ b6).heap[g]?=some (.cells #[b0,b1,b2,b3,b4,b5,b6] t (0,0)):=by
 have:=bt (bt (bt (bt (bt (bt (bt h 0 b0) 1 b1) 2 b2) 3 b3) 4 b4) 5 b5) 6 b6;exact ON
theorem Gl (W:World) (g:Nat) (b0 b1 b2 b3 b4 b5 b6:Value):W.grownBy (((((((W.setCell ⟨g,0,none⟩ b0).setCell ⟨g,1,none⟩ b1).setCell ⟨g,2,none⟩ b2).setCell ⟨g,3,none⟩ b3).setCell ⟨g,4,none⟩ b4).setCell ⟨g,5,none⟩ b5).setCell ⟨g,6,none⟩ b6) (some g):=
 mE (mE (mE (mE (mE (mE (eE _ _ _ _) (eE _ _ _ _)) (eE _ _ _ _)) (eE _ _ _ _)) (eE _ _ _ _)) (eE _ _ _ _)) (eE _ _ _ _)
theorem J5 {size:Nat} {v:Value} (h:w.ownsRow B e size v n xs) (hg:w.grownBy w' (some g)) (hB:g<B):w'.ownsRow B e size v n xs:=by
 refine h.kept hg ?_;rcases h.2 with⟨rfl,_⟩|⟨g',ai,bK,rfl,hb,_⟩
 ·exact .inl rfl
 ·right;intro e';injection e' with e'
  simp only at e';omega
theorem act (h:w.heap[g]?=some (.cells #[a0,a1,a2,a3,a4,a5,a6] t (0,0))):(loadVar 67 ⟨g,0,none⟩).run prog w= .ok (.agg #[a0,a1,a2,a3,a4,a5,a6]) w:=by
 have:=run_loadVar_mid (P:=prog) w g 0 67 [a0,a1,a2,a3,a4,a5,a6] _ (λj v hj=>by
  rw[Nat.zero_add,cell_of_row w g j _ _ _ h];simpa using hj) underlying67 rfl ax
 exact oC
theorem Tw (s:ag) (w:World):Calls prog 140 #[.string s,.int .i64 0] w (eu w (.string s)):=by
 exact jt
theorem ast (A:aN) (n c:Nat) (w:World):Calls prog 141 #[.slice A n c,.int .i64 0] w (eu w (.slice A n c)):=by
 exact jt
theorem asu (A:aN) (n c:Nat) (w:World):Calls prog 142 #[.slice A n c,.int .i64 0] w (eu w (.slice A n c)):=by
 exact jt
def ma (x:Int):Ending:= .panicked [{v:= .iface 24 (.int .i64 x),recovered:=false}]
abbrev ul:bx:= #[.int .i64 0,.int .i64 0,ay,ay,.string ⟨#[]⟩,ay,ay]
def qQ (B0:Nat) (A:aN):Prop:= ∀b o,A=some ⟨b,o,none⟩->B0<=b
theorem Nz (h:qQ B1 A) (hB:B0<=B1):qQ B0 A:=λb o e=>bD hB (h b o e)
theorem NA {size:Nat} {c m:Nat} (h:w.ownsRow B0 e size (.slice A n c) m xs) (hB:B1<=B0):qQ B1 A:=by
 intro b o hA;rcases h.2 with⟨hv,_⟩|⟨g,ai,bK,hv,hg,_⟩
 ·injection hv with hv;rw[hA]at hv;cases hv
 ·injection hv with hv
  rw[hA]at hv;injection hv with hv
  injection hv with hv
  omega
def mF (B0:Nat) (w:World) (v:Value) (D:eZ):Prop:= ∃A n c B m d C p q E s t,v= .agg #[.int .i64 D.r.e,.int .i64 D.r.k,.slice A n c,.slice B m d,.string D.sec,.slice C p q,.slice E s t]/\Rd w A (aZ D.r.ns)/\n=D.r.ns.length/\Rd w B (aZ D.r.ps)/\m=D.r.ps.length/\Rd w C (dq D.sh)/\p=D.sh.length/\Rd w E (aZ D.sa)/\s=D.sa.length/\qQ B0 A/\qQ B0 B/\qQ B0 C/\qQ B0 E
def Tz (w:World) (seed:ag) (ns:List ag) (k ep:Int) (E:Ending) (w':World):Prop:=
 ((mD seed ns k ep=true/\ ∃v,E= .returned v/\mF w.heap.size w' v (du seed ns k ep))\/(mD seed ns k ep=false/\ ∃x,E=ma x))/\aD w w'
theorem U8 (h:P:=by
 go_in;go_wp2_with fail;exact⟨rfl,.inr ⟨HC,180,rfl⟩,HB⟩):P:=h
theorem asv (seed:ag) (ns:List ag) (A:aN) (n c:Nat) (k ep:Int) (w:World) (hn:n=ns.length) (j7:n<=maxLen) (h:Cd ns k=false):
  Calls prog 84 #[.string seed,.slice A n c,.int .i64 k,.int .i64 ep] w (Tz w seed ns k ep):=by
 have hc:mD seed ns k ep=false:=by unfold mD;rw[h];rfl
 have HC:=aa hc;have hb:=be w (.cells ul 67);have HB:=aa hb;have Bh:16<n\/k<1\/(n:Int)<k:=by
  rw[hn];rcases mg 16 ns.length with h1|h1
  ·exact .inl h1
  ·rcases Int.lt_or_le k 1 with h2|h2
   ·exact .inr (.inl h2)
   ·rcases Int.lt_or_le (ns.length:Int) k with h3|h3
    ·exact .inr (.inr h3)
    ·unfold Cd at h;rw[decide_eq_true h1,decide_eq_true h2,decide_eq_true h3]at h;cases h
 unfold maxLen at j7;by_cases h1:16<n
 ·have d1:decide ((n:Int)>16)=true:=decide_eq_true ae;exact U8
 have d1:decide ((n:Int)>16)=false:=decide_eq_false ae;by_cases h2:k<1
 ·have d2:decide (k<1)=true:=decide_eq_true h2;exact U8
 have d2:decide (k<1)=false:=decide_eq_false h2;have h3:(n:Int)<k:=ae;have d3:decide (k>(n:Int))=true:=decide_eq_true h3;exact U8
theorem asw (s:ag) (x:Int) (hx:x≠0) (w:World):Calls prog 140 #[.string s,.int .i64 x] w λe w'=>e=ma x/\w'=w:=by
 exact ahA
theorem asx (B0:Nat) (seed:ag) (w:World) (hs: ¬seed.size<=1000000000) (hR:cX w) (kD:B0<=w.heap.size):
  Calls prog 95 #[.string seed] w (SK B0 [] w):=by
 have hk:gE seed=bo:=by unfold gE;rw[if_neg hs]
 have HS:=Tv seed w hR;rw[hk]at HS;replace HS:=aa HS;go_in;go_wp2_with fail;refine HS.mono ?_;rintro e w1 ⟨rfl,aG⟩;have HB:=aa aG;go_wp2_with fail;refine (So ⟨#[0]⟩ 12 _ au au).mono ?_;rintro e w2 ⟨rfl,av⟩;rw[abV];have fC:=vq av;have iU:w1.heap.size<w2.heap.size:=bf fC;have ck:w2.cell? ⟨w1.heap.size,0,none⟩=some (.string bo):=cell_of_one fC;replace HB:=aa (jX HB av);have aO:w2.heap.size≠w1.heap.size:=ae;go_wp2_with fail;refine (abj bo (bs DO) 0 _ au au (λh=>absurd h.1 au)).mono ?_;rintro e w3 ⟨rfl,aL⟩;have cj:=aa (jX HB aL);go_wp2_with fail;refine (aqn B0 ⟨#[]⟩ _ au (bD kD cj.size)).mono ?_;rintro e w4 ⟨t,rfl,ht,hi,aP⟩;have dD:=aa (bg cj aP);have HI:=aa hi;have Ht:=aa (bD cj.size ht);go_wp2;go_ret;exact⟨t,rfl,Ht,HI,dD⟩
theorem asy (seed:ag) (ns:List ag) (A:aN) (n c:Nat) (k ep:Int) (w:World) (hn:n=ns.length) (hh:Cd ns k=true) (hs: ¬seed.size<=1000000000) (hR:cX w):
  Calls prog 84 #[.string seed,.slice A n c,.int .i64 k,.int .i64 ep] w (Tz w seed ns k ep):=by
 obtain⟨py,gq,CE⟩:=J3 hh;have HC:=aa (show mD seed ns k ep=false by unfold mD;rw[decide_eq_false hs,Bool.and_false];rfl);have eL:=be w (.cells ul 67);have HB:=aa eL;have LP:=aa (asx _ seed _ hs (hR.below eL) (aM _));have d1:decide ((n:Int)>16)=false:=decide_eq_false ae;have d2:decide (k<1)=false:=decide_eq_false ae;have d3:decide (k>(n:Int))=false:=decide_eq_false ae;go_in;go_wp2_with fail;refine LP.mono ?_;rintro e w1 ⟨t,rfl,hwt,hi,aG⟩;have cu:=aa (bg HB aG);have HI:=aa hi;go_wp2_with fail;refine (abS t [] 0 32 w1 HI ak).mono ?_;rintro e w2 ⟨rfl,av⟩;have bq:=aa (bg cu av);go_wp2_with fail;refine (asw _ _ au _).mono ?_;rintro e w3 ⟨rfl,rfl⟩;exact⟨rfl,.inr ⟨HC,120,rfl⟩,bq⟩
theorem ye {o:Obj} (hg:w.grownBy w' (some g)) (h:w.heap[b]?=some o) (aO:b≠g):w'.heap[b]?=some o:=by
 exact agD
theorem vP (h:w.grownBy w' (some g)) (hB:B<=g) (mi:B<=w.heap.size):Below B w w':=
 ⟨h.os,h.tape,h.output,h.size,λk hk=>h.block k ae (λe=>by injection e;omega)⟩
theorem asz {size:Nat} {v:Value} (h:w.ownsRow B e size v n xs) (hw: ∀i,B<=i/\i<w.heap.size->w'.heap[i]?=w.heap[i]?) {B':Nat} (hB:B'<=B):w'.ownsRow B' e size v n xs:=by
 refine⟨h.1,?_⟩;rcases h.2 with h2|⟨g,ai,bK,hv,hg,hh,r⟩
 ·exact .inl h2
 ·exact .inr ⟨g,ai,bK,hv,bD hB hg,(hw g ⟨hg,bf hh⟩).trans hh,r⟩
theorem acD {a b c d:Value} (h:w.heap[g]?=some (.cells #[a,b,c,d] t (0,0))):w.cell? ⟨g,0,none⟩=some a/\w.cell? ⟨g,1,none⟩=some b/\w.cell? ⟨g,2,none⟩=some c/\w.cell? ⟨g,3,none⟩=some d:=
 ⟨eV h 0 _ rfl,eV h 1 _ rfl,eV h 2 _ rfl,eV h 3 _ rfl⟩
theorem yg (h:w.heap[g]?=some (.cells #[a0,a1,a2,a3,a4,a5,a6] t (0,0))):
  (w.cell? ⟨g,0,none⟩=some a0/\w.cell? ⟨g,1,none⟩=some a1/\w.cell? ⟨g,2,none⟩=some a2/\w.cell? ⟨g,3,none⟩=some a3/\w.cell? ⟨g,4,none⟩=some a4/\w.cell? ⟨g,5,none⟩=some a5/\w.cell? ⟨g,6,none⟩=some a6)/\ ∀i,w.frozen? ⟨g,i,none⟩=false:=
 ⟨⟨eV h 0 _ rfl,eV h 1 _ rfl,eV h 2 _ rfl,eV h 3 _ rfl,eV h 4 _ rfl,eV h 5 _ rfl,eV h 6 _ rfl⟩,λi=>frozen_of_row w g i _ _ h⟩
theorem asA (h:Rd w A xs) (hb:Below B1 w w') (aK: ∀b o,A=some ⟨b,o,none⟩->b<B1):Rd w' A xs:=λi u hu=>by
 obtain⟨b,aS,hA,hc⟩:=h i u hu;exact⟨b,aS,hA,(fB (hb.block b (aK b aS hA))).trans hc⟩
theorem Cf {t:Nat} (h:Rd w A xs) (hg:w.grownBy w' (some t)) (aK: ∀b o,A=some ⟨b,o,none⟩->b≠t):Rd w' A xs:=λi u hu=>by
 obtain⟨b,aS,hA,hc⟩:=h i u hu;exact⟨b,aS,hA,(fB (hg.block b (cU hc) (λe=>aK b aS hA (bW e)))).trans hc⟩
theorem asB (seed:ag) (ns:List ag) (A:aN) (n c:Nat) (k ep:Int) (w:World) (hr:Rd w A (aZ ns)) (hn:n=ns.length) (j7:n<=maxLen) (hT:iy w) (hR:cX w):
  Calls prog 84 #[.string seed,.slice A n c,.int .i64 k,.int .i64 ep] w (Tz w seed ns k ep):=by
 cases hh:Cd ns k with
 |false=>exact asv seed ns A n c k ep w hn j7 hh
 |true=>
 obtain⟨py,gq,CE⟩:=J3 hh;by_cases hs:seed.size<=1000000000;case neg=>exact asy seed ns A n c k ep w hn hh hs hR
 obtain⟨m,hm⟩: ∃m:Nat,k=((m+1:Nat):Int):=⟨(k - 1).toNat,ae⟩
 have LD:m+1<=n:=ae;have If:n<=16:=ae;have aiT:m<=15:=ae;have BC:(k - 1).toNat=m:=ae;have V5:=aa (show mD seed ns k ep=fX (yd (pR seed) ns m ep).r by unfold mD;rw[hh,BC,decide_eq_true hs,Bool.true_and,Bool.true_and]);have HDC:=aa (show mD seed ns k ep=true->du seed ns k ep=yd (pR seed) ns m ep from λh=>by unfold du;rw[if_pos h,BC]);have Qy:=aa (Nr seed);have eL:=be w (.cells ul 67);have HZ:=aa (aR w (.cells ul 67));have tK:=aa (hr.below eL);have HB:=aa eL;have wO:=aa hn;have Ws:=ahS (hT.below eL) (hR.below eL);have LP:=aa (abW _ seed _ Ws hs (aM _));have HR:=aa hR;have d1:decide ((n:Int)>16)=false:=decide_eq_false ae;have d2:decide (k<1)=false:=decide_eq_false ae;have d3:decide (k>(n:Int))=false:=decide_eq_false ae;have Yt:k<=16:=ae;have CJ:=aa hm;have hA0: ∀b o,A=some ⟨b,o,none⟩->b<w.heap.size:=λb o e=>by
  obtain⟨b',o',e',hc⟩:=hr 0 _ (show (aZ ns)[0]?=some (.string (ns[0]'ae)) by simp[aZ]);rw[e]at e';cases e'
  exact cU hc
 have Zb:=aa hA0;clear hh CE hm BC eL hr hn Ws hs hT hR j7 py hA0;rw[show pR seed=pR seed from rfl]at V5;go_in;go_wp2_with fail;refine LP.mono ?_;rintro e w1 ⟨t,rfl,hwt,⟨fn,ai,hTf⟩,aG⟩;have Mt:pP (w.alloc (.cells ul 67)).heap.size w1 t (pR seed) 0 fn ai:=hTf;rw[World.size_alloc]at Mt hwt;generalize pR seed=L at Mt V5 HDC Qy;replace HZ:=aT HZ aG;replace tK:=aa (tK.below aG);replace HB:=aX HB aG;have YL:=Qy.out;have PX:t<w1.heap.size:=SJ Mt.1;clear hTf aG;go_wp2_with fail;refine (M9 t L 0 32 fn ai _ Mt ae).mono ?_;rintro e w2 ⟨rfl,zm,fp⟩;replace HZ:=aa (ye fp HZ.out (show w.heap.size≠t by omega));replace tK:=aa (Cf tK.out fp (λb o e=>by have:=Zb.out b o e;omega));replace HB:=aa (HB.trans (vP fp ae HB.size));rw[show bs ((L.drop 0).take 32)=xY L from rfl];clear Mt fp;go_wp2_with fail;refine (Tw _ _).mono ?_;rintro e w3 ⟨rfl,rfl⟩;have VY:(32:Int)*(k - 1)=((32*m:Nat):Int):=by have:=CJ.out;omega
 have E32:=aa VY;clear VY;go_wp2_with fail;rw[E32.out];refine (M9 t L (0+32) (32*m) fn ai _ zm ae).mono ?_;rintro e w4 ⟨rfl,IU,uP⟩;replace HZ:=aa (ye uP HZ.out (show w.heap.size≠t by omega));replace tK:=aa (Cf tK.out uP (λb o e=>by have:=Zb.out b o e;omega));replace HB:=aa (HB.trans (vP uP ae HB.size));rw[show bs ((L.drop (0+32)).take (32*m))=xZ L m from rfl];clear zm uP;go_wp2_with fail;refine (Tw _ _).mono ?_;rintro e w5 ⟨rfl,rfl⟩;rename World=>w4;have so:Calls prog 125 #[.string (xY L),.int .i64 (n:Int),.int .i64 k,.string (xZ L m)] w4 λe w'=> ∃g,e= .returned (.tuple #[.slice (aw g) n n,.int .i64 0])/\w'.ownsRow w4.heap.size 101 2 (.slice (aw g) n n) n (dq (lD L m n))/\aD w4 w':=by
  rw[CJ.out];exact aaP (xY L) (xZ L m) n m w4 (acn YL) (arN YL aiT) ae LD
 have jv:=aa so;clear so;have aFW:t<w4.heap.size:=SJ IU.1;go_wp2_with fail;refine jv.mono ?_;rintro e w5 ⟨gS,rfl,hOS,aY⟩;have hT5:=IU.below aY;replace HZ:=aT HZ aY;replace tK:=aa (tK.below aY);replace HB:=aX HB aY;have hgS:=hOS.lt gS rfl;have HOS:=aa hOS;have ru:=aY.size;clear IU aY hOS;go_wp2_with fail;refine (ast _ _ _ _).mono ?_;rintro e w6 ⟨rfl,rfl⟩;rename World=>w5;have fS:=bf HZ.out;have alG:t<w5.heap.size:=ae;have Pp:=aa hT5;clear hT5;go_wp2_with fail;go_loopw [13,55] (λv x wr=> ∃(j:Nat) (A1:aN) (c1:Nat),j<=n/\x= .int .i64 (j:Nat)/\v= .slice A1 j c1/\wr.ownsRow w5.heap.size 9 1 (.slice A1 j c1) j (aZ (iA L m j))/\pP (w.heap.size+1) wr t L (32+32*m+16*j) fn ai/\(∀i,i<w5.heap.size->i≠t->wr.heap[i]?=w5.heap[i]?)/\Below (w.heap.size+1) w5 wr) (λ_ x _=>n -(intOf x).toNat);case atStart=>exact⟨0,none,0,ae,rfl,rfl,World.ownsRow_nil _ _ _ _,by simpa using Pp.out,λ_ _ _=>rfl,aI _ _⟩
 case round=>
  obtain⟨j,A1,c1,hj,rfl,rfl,hO,hTj,hag,Ia⟩:=hrel;have HO:=aa hO;have HTj:=aa hTj;have Hag:=aa hag;have CD:=aa Ia;have hsj:=Ia.size;clear hO hTj hag Ia;by_cases aK:j<n
  ·have e1:(j:Int)<(n:Int):=ae;go_wp2_with fail;refine (M9 t L (32+32*m+16*j) 16 fn ai _ HTj.out ae).mono ?_;rintro e w7 ⟨rfl,hT7,qx⟩;rw[show bs ((L.drop (32+32*m+16*j)).take 16)=yc L m j from rfl];have Xo:=aa (J5 HO.out qx alG);have It:=aa hT7;have akk:=aa (show∀i,i<w5.heap.size->i≠t->w7.heap[i]?=w5.heap[i]? from λi hi aO=>(qx.block i ae (λe=>aO (bW e))).trans (Hag.out i hi aO));have Xb:=aa (CD.trans (vP qx hwt ae));have Ql:=qx.size;clear hT7 qx;go_wp2_with fail;refine (Tw _ _).mono ?_;rintro e w8 ⟨rfl,rfl⟩;rename World=>w7;go_wp2_with (at_builtin;refine oS ah (.tmp 57) (.tmp 63) 28 ah w5.heap.size 9 (.string ⟨#[]⟩) 1 16 underlying28 mx rfl ae w7 _ _ _ _ _ ah Xo.out _ 1 1 ah ah ah ah ae ae ae ae ?_);intro g8 aBw w8 ho8 cG hk8 aCD aGm;have hT8:pP (w.heap.size+1) w8 t L (32+32*m+16*j+16) fn ai:=Pp.re (λi hi aO=>(cG.block i hi).trans (akk.out i hi aO)) ((cG.block t alG).trans It.1) (by have:=cG.size;omega) ae;have mU:=aa (show (w8.ownsRow w5.heap.size 9 1 (.slice (aw g8) (j+1) aBw) (j+1) (aZ (iA L m (j+1)))/\pP (w.heap.size+1) w8 t L (32+32*m+16*(j+1)) fn ai/\(∀i,i<w5.heap.size->i≠t->w8.heap[i]?=w5.heap[i]?)/\Below (w.heap.size+1) w5 w8) from
    ⟨by rw[arP,BG];exact ho8,by rw[show 32+32*m+16*(j+1)=32+32*m+16*j+16 by omega];exact hT8,λi hi aO=>(cG.block i hi).trans (akk.out i hi aO),Xb.trans (cG.mono ae)⟩)
   clear ho8 cG hk8 aCD hT8;go_wp2;go_roundw;case rel=>exact⟨j+1,_,_,ae,by go_num,rfl,mU.1,mU.2.1,mU.2.2.1,mU.2.2.2⟩
   case measure=>exact cM
  ·obtain rfl:j=n:=ae;have e1: ¬(j:Int)<(j:Int):=ae;have HRj:=aa (asA tK.out CD.out (λb o e=>by have:=Zb.out b o e;omega));have HZj:=aa ((CD.block w.heap.size ae).trans HZ.out);have oJ:=aa (HB.trans (CD.mono ae));have HSj:=aa (asz HOS.out (λi hi=>Hag.out i hi.2 (by have:=hi.1;omega)) (B':=w4.heap.size) ae);go_wp2_with (at_builtin;refine Na ah _ _ 28 ah (w.heap.size+1) 9 (.string ⟨#[]⟩) 1 16 underlying28 mx rfl ae ah A j c ah (aZ ns) (by exact HRj.out) (by rw[qO,<-wO.out,Nat.mul_one]) (DS _) ae ae ae ?_);intro A9 Fg w9 Id cT;have Yz:=aa Id;have lf:=aa (eO HO.out cT);have Ba:=aa (eO HSj.out cT);have CV:=aT HZj cT;have AR:=aX oJ cT;obtain⟨hE,hAl⟩:=arR (L:=L) YL (m:=m) (n:=j) aiT If;have iY:=aa (λW h1 h2 h3=>aoh (iA L m j) (lD L m j) A1 (aw gS) j c1 j j W h1 h2 (DW L m j).symm (DX L m j).symm (by rw[DX];omega) h3);rw[hE,hAl]at iY;clear Id cT hE hAl;have vj:w.heap.size<w9.heap.size:=bf CV.out;go_wp2_with fail;refine (iY.out _ (gz lf.out) (gz Ba.out) (HR.below AR.out)).mono ?_;rintro e wa ⟨Ap,np,capp,rfl,hnp,je,bE⟩;rw[Tn]at hnp;obtain rfl:np=j:=hnp;have HPa:=aa je;replace Yz:=aa (eO Yz.out bE);replace lf:=aa (eO lf.out bE);replace Ba:=aa (eO Ba.out bE);replace CV:=aT CV bE;replace AR:=aX AR bE;clear je bE;go_wp2_with fail;refine (asu _ _ _ _).mono ?_;rintro e wb ⟨rfl,rfl⟩;rename World=>wa;have al:=be wa (.cells #[.int .i64 ep,.int .i64 k,.slice A9 np Fg,.slice Ap np capp] 64);have HN:=aa (eO Yz.out al);have HO:=aa (eO lf.out al);have HS:=aa (eO Ba.out al);have wB:=aa (eO HPa.out al);have LM:=aT CV al;have Wl:=aX AR al;have qj:=aa (aR wa (.cells #[.int .i64 ep,.int .i64 k,.slice A9 np Fg,.slice Ap np capp] 64));obtain⟨u,hu⟩: ∃u,u=wa.alloc (.cells #[.int .i64 ep,.int .i64 k,.slice A9 np Fg,.slice Ap np capp] 64):=⟨_,rfl⟩
   have Hu:=aa hu;rw[<-hu]at HN HO HS wB LM Wl qj;clear al hu CV AR;go_upto_region 13 with fail
   rw[<-Hu.out];generalize lO:wa.heap.size=gr at*;clear lO;have mq:=aa (show Calls prog 104 #[.agg #[.int .i64 ep,.int .i64 k,.slice A9 np Fg,.slice Ap np capp]] u λe w'=>e= .returned (.bool (mD seed ns k ep))/\aD u w' from by
    rw[V5.out];refine FN _ (yd L ns m ep).r u ⟨A9,np,Fg,Ap,np,capp,?_,gz HN.out,wO.out,?_,?_⟩
    ·rw[CJ.out];rfl
    ·show Rd u Ap (aZ (mA (iA L m ns.length) (lD L m ns.length)));rw[<-wO.out];exact gz wB.out
    ·show np=(mA (iA L m ns.length) (lD L m ns.length)).length;rw[Tn];exact wO.out)
   obtain⟨r0,r1,r2,r3⟩:=acD qj.out;cases dI:mD seed ns k ep with
   |false=>
    rw[dI]at mq;have nC:=aa dI;clear dI;go_wp2_with fail;refine mq.mono ?_;rintro e wc ⟨rfl,gH⟩;have qh:=aX Wl gH;clear gH;go_wp2_with fail;exact⟨rfl,.inr ⟨nC.out,180,rfl⟩,qh.out⟩
   |true=>
    rw[dI]at mq;have nC:=aa dI;clear dI;go_wp2_with fail;refine mq.mono ?_;rintro e wc ⟨rfl,gH⟩;replace qj:=aT qj gH;replace LM:=aT LM gH;replace HN:=aa (eO HN.out gH);replace HO:=aa (eO HO.out gH);replace HS:=aa (eO HS.out gH);replace wB:=aa (eO wB.out gH);have qh:=aX Wl gH;clear gH r0 r1 r2 r3;obtain⟨r0,r1,r2,r3⟩:=acD qj.out;obtain⟨⟨z0,z1,z2,z3,z4,z5,z6⟩,zf⟩:=yg LM.out;have f0:=zf 0;have f1:=zf 1;have f2:=zf 2;have f3:=zf 3;have f4:=zf 4;have f5:=zf 5;have f6:=zf 6;go_wp2_with fail;have xl:=Gl wc w.heap.size (.int .i64 ep) (.int .i64 k) (.slice A9 np Fg) (.slice Ap np capp) (.string (xY L)) (.slice (aw gS) np np) (.slice A1 np c1);refine bodyPost_ret (vt rfl _ _ w.heap.size ah _ (act (Gk LM.out _ _ _ _ _ _ _))) rfl ?_;refine⟨.inl ⟨nC.out,_,rfl,?_⟩,qh.trans (vP xl (aM _) qh.size)⟩;rw[HDC.out nC.out];refine⟨A9,np,Fg,Ap,np,capp,some ⟨gS,0,none⟩,np,np,A1,np,c1,?_,?_,wO.out,?_,?_,?_,?_,?_,?_,NA HN.out ae,NA wB.out ae,NA HS.out ae,NA HO.out ae⟩
    ·rw[CJ.out];rfl
    ·exact gz (J5 HN.out xl ae)
    ·show Rd _ Ap (aZ (mA (iA L m ns.length) (lD L m ns.length)));rw[<-wO.out];exact gz (J5 wB.out xl ae)
    ·show np=(mA (iA L m ns.length) (lD L m ns.length)).length;rw[Tn];exact wO.out
    ·show Rd _ _ (dq (lD L m ns.length));rw[<-wO.out];exact gz (J5 HS.out xl ae)
    ·show np=(lD L m ns.length).length;rw[DX];exact wO.out
    ·show Rd _ A1 (aZ (iA L m ns.length));rw[<-wO.out];exact gz (J5 HO.out xl ae)
    ·show np=(iA L m ns.length).length;rw[DW];exact wO.out
theorem asC (g q:Nat) (u:TypeId) (pv:Value) (w:World) (a0 a1 a2 a3 a4 a5 a6 e0:Value) (t t':TypeId) (hD:w.heap[g]?=some (.cells #[a0,a1,a2,a3,a4,a5,a6] t (0,0))) (hE:w.heap[q]?=some (.cells #[e0] t' (0,0))) (aO:g≠q):
  CallsD prog 83 #[.pointer (aw g),.pointer (aw q)] (.panicking [{v:= .iface u pv,recovered:=false}]) w λe u' w'=>
   e= .returned (.tuple #[])/\u'= .panicking [{v:= .iface u pv,recovered:=true}]/\w'.heap[g]?=some (.cells ul t (0,0))/\w'.heap[q]?=some (.cells #[.int .i64 180] t' (0,0))/\ ∀B,B<=g->B<=q->B<=w.heap.size->Below B w w':=by
 obtain⟨⟨z0,z1,z2,z3,z4,z5,z6⟩,zf⟩:=yg hD;have c0:w.cell? ⟨q,0,none⟩=some e0:=eV hE 0 _ rfl;have f0:=zf 0;have f1:=zf 1;have f2:=zf 2;have f3:=zf 3;have f4:=zf 4;have f5:=zf 5;have f6:=zf 6;have fq:=frozen_of_row w q 0 _ _ hE;refine callsD_of_wpS func83 rfl λc₀ cs hu=>?_;apply wpS_seq;apply wpS_region;simp[wpOpsS,go_sem,recoverD,hu,ntmps83,Exit.thenS];refine wpS_cond (t:=true) (by simp[Act.eval,Array.replicate]) ?_;simp only[if_true];apply wpS_region;simp[wpOpsS,go_sem,bodyPostS,results,results83,z0,z1,z2,z3,z4,z5,z6,f0,f1,f2,f3,f4,f5,f6,c0,fq,aO];have h7:=Gk hD (.int .i64 0) (.int .i64 0) (ay) (ay) (.string ⟨#[]⟩) (ay) (ay);have g7:=Gl w g (.int .i64 0) (.int .i64 0) (ay) (ay) (.string ⟨#[]⟩) (ay) (ay);have q7:=ye g7 hE (Ne.symm aO);have g8:=eE (((((((w.setCell ⟨g,0,none⟩ (.int .i64 0)).setCell ⟨g,1,none⟩ (.int .i64 0)).setCell ⟨g,2,none⟩ (ay)).setCell ⟨g,3,none⟩ (ay)).setCell ⟨g,4,none⟩ (.string ⟨#[]⟩)).setCell ⟨g,5,none⟩ (ay)).setCell ⟨g,6,none⟩ (ay)) q 0 (.int .i64 180);exact⟨ye g8 h7 aO,bt q7 0 (.int .i64 180),λB h1 h2 h3=>(vP g7 h1 h3).trans (vP g8 h2 (bD h3 g7.size))⟩
theorem asD (p q:Addr) (w:World):
  CallsD prog 83 #[.pointer (some p),.pointer (some q)] .returning w λe u' w'=>e= .returned (.tuple #[])/\u'= .returning/\w'=w:=by
 refine callsD_of_wpS func83 rfl λc₀ cs hu=>?_;apply wpS_seq;apply wpS_region;simp[wpOpsS,go_sem,recoverD,hu,ntmps83,Exit.thenS];refine wpS_cond (t:=false) (by simp[Act.eval,Array.replicate]) ?_;simp only[Bool.false_eq_true,if_false];refine wpS_of_wp (wp_skip ?_);cases c₀
 simp_all[bodyPostS,results,results83]
def TA (w:World) (D:eZ) (x:Int) (E:Ending) (w':World):Prop:= ∃v,E= .returned (.tuple #[v,.int .i64 x])/\mF w.heap.size w' v D/\aD w w'
theorem mF.dv {v:Value} (h:mF B0 w v D):DV w v D:=by
 obtain⟨A,n,c,B,m,d,C,p,q,E,s,t,rfl,h1,h2,h3,h4,h5,h6,h7,h8,_⟩:=h;exact⟨A,n,c,B,m,d,C,p,q,E,s,t,rfl,h1,h2,h3,h4,h5,h6,h7,h8⟩
theorem mF.zero (B0:Nat) (w:World):mF B0 w (.agg ul) Ns:=⟨none,0,0,none,0,0,none,0,0,none,0,0,rfl,Rd.nil _ _,rfl,Rd.nil _ _,rfl,Rd.nil _ _,rfl,Rd.nil _ _,rfl,λ_ _ h=>(by cases h),λ_ _ h=>(by cases h),λ_ _ h=>(by cases h),λ_ _ h=>(by cases h)⟩
theorem ahl (h:P:=by
 simp[Leaves,settle,results,results38,go_sem,z0,z1,z2,z3,z4,z5,z6,q0];exact fin):P:=h
theorem asE (seed:ag) (ns:List ag) (A:aN) (n c:Nat) (k ep:Int) (w:World) (hr:Rd w A (aZ ns)) (hn:n=ns.length) (j7:n<=maxLen) (hT:iy w) (hR:cX w):
  Calls prog 38 #[.string seed,.slice A n c,.int .i64 k,.int .i64 ep] w (TA w (du seed ns k ep) (kJ seed ns k ep)):=by
 have hmf: ∀(fn:Fn) (first ai:bx) (w:World),(Instr.makeFunc fn first ai).run prog w= .ok (.func fn first ai) w:=λ_ _ _ _=>rfl;obtain⟨u,hu⟩: ∃u,u=(w.alloc (.cells ul 67)).alloc (.cells #[.int .i64 0] 24):=⟨_,rfl⟩
 have eL:aD w u:=hu▸(be w (.cells ul 67)).alloc ak (.cells #[.int .i64 0] 24);have hDl:=asB seed ns A n c k ep u (hr.below eL) hn j7 (hT.below eL) (hR.below eL);have h8:u.heap[w.heap.size]?=some (.cells ul 67):=by
  rw[hu];exact (Below.heap_alloc _ _ _ ak).trans (aR w _)
 have h9:u.heap[w.heap.size+1]?=some (.cells #[.int .i64 0] 24):=by
  rw[hu];have:=aR (w.alloc (.cells ul 67)) (.cells #[.int .i64 0] 24);rwa [World.size_alloc]at this
 have zv:=aa hDl;have H8:=aa h8;have H9:=aa h9;have HB:=aa eL;have HU:=aa (show u.heap.size=w.heap.size+2 by rw[hu];simp);have Hu:=aa hu;clear hDl h8 h9 eL hr hn j7 hT hR hu;go_enter_defers func38,ntmps38;go_wp2_with fail;rw[<-Hu.out];refine zv.mono ?_;rintro e w1 ⟨hd,hb⟩;replace H8:=aT H8 hb;replace H9:=aT H9 hb;have cu:=aX HB hb;clear hb;have aO:w.heap.size≠w.heap.size+1:=ae;have cg:w.heap.size<w1.heap.size:=bf H8.out;rcases hd with⟨dI,v,rfl,hv⟩|⟨dI,x,rfl⟩
 ·obtain⟨A,n,c,B,m,d,C,p,q,E,s,t,rfl,h1,h2,h3,h4,h5,h6,h7,h8,r1,r2,r3,r4⟩:=hv;have im:=aa h1;have jc:=aa h3;have j3:=aa h5;have nP:=aa h7;have HL:=aa (And.intro h2 (And.intro h4 (And.intro h6 h8)));have HF:=aa (And.intro r1 (And.intro r2 (And.intro r3 r4)));clear h1 h2 h3 h4 h5 h6 h7 h8 r1 r2 r3 r4;obtain⟨⟨z0,z1,z2,z3,z4,z5,z6⟩,zf⟩:=yg H8.out;have q0:=eV H9 0 _ rfl;have f0:=zf 0;have f1:=zf 1;have f2:=zf 2;have f3:=zf 3;have f4:=zf 4;have f5:=zf 5;have f6:=zf 6;have fq:=frozen_of_row w1 (w.heap.size+1) 0 _ _ H9.out;go_wp2_with fail;obtain⟨De,hDe⟩: ∃x,x=du seed ns k ep:=⟨_,rfl⟩
  have hE:kJ seed ns k ep=0:=by unfold kJ;rw[if_pos dI]
  rw[hE];rw[<-hDe]at im jc j3 nP HL⊢;have g7:=Gl w1 w.heap.size (.int .i64 De.r.e) (.int .i64 De.r.k) (.slice A n c) (.slice B m d) (.string De.sec) (.slice C p q) (.slice E s t);have k7:=Gk H8 (.int .i64 De.r.e) (.int .i64 De.r.k) (.slice A n c) (.slice B m d) (.string De.sec) (.slice C p q) (.slice E s t);have k9:=ye g7 H9 (Ne.symm aO);clear z0 z1 z2 z3 z4 z5 z6 f0 f1 f2 f3 f4 f5 f6 fq q0 zf hDe;generalize (((((((w1.setCell {block:=w.heap.size,off:=0} (.int .i64 De.r.e)).setCell {block:=w.heap.size,off:=1} (.int .i64 De.r.k)).setCell {block:=w.heap.size,off:=2} (.slice A n c)).setCell {block:=w.heap.size,off:=3} (.slice B m d)).setCell {block:=w.heap.size,off:=4} (.string De.sec)).setCell {block:=w.heap.size,off:=5} (.slice C p q)).setCell {block:=w.heap.size,off:=6} (.slice E s t))=w2 at g7 k7 k9⊢;have g8:=eE w2 (w.heap.size+1) 0 (.int .i64 0);have k8:=ye g8 k7 aO;have Pt:=bt k9 0 (.int .i64 0);have Dv:w.heap.size+1<w2.heap.size:=bf k9;generalize w2.setCell {block:=w.heap.size+1,off:=0} (.int .i64 0)=w3 at g8 k8 Pt⊢;refine leaves_cons (f:=83) (args:= #[.pointer (some ⟨w.heap.size,0,none⟩),.pointer (some ⟨w.heap.size+1,0,none⟩)]) ak (by simp[go_sem]) ?_;refine (asD ⟨w.heap.size,0,none⟩ ⟨w.heap.size+1,0,none⟩ _).mono ?_;rintro e u' tQ ⟨rfl,rfl,rfl⟩;obtain⟨⟨z0,z1,z2,z3,z4,z5,z6⟩,zf⟩:=yg k8;have q0:=eV Pt 0 _ rfl;have zM:aD w tQ:=(cu.trans (vP g7 (aM _) ae)).trans (vP g8 ae ae);have dw: ∀ {X:aN} {xs:bJ},Rd w1 X xs->qQ u.heap.size X->Rd tQ X xs:=λh hf=>
   Cf (Cf h g7 (λb o e=>by have:=hf b o e;have:=HU.out;omega)) g8 (λb o e=>by have:=hf b o e;have:=HU.out;omega)
  have PD:w.heap.size<=u.heap.size:=by have:=HU.out;omega
  have fin:TA w De 0 (.returned (.tuple #[.agg #[.int .i64 De.r.e,.int .i64 De.r.k,.slice A n c,.slice B m d,.string De.sec,.slice C p q,.slice E s t],.int .i64 0])) tQ:=
   ⟨_,rfl,⟨A,n,c,B,m,d,C,p,q,E,s,t,rfl,dw im HF.1,HL.1,dw jc HF.2.1,HL.2.1,dw j3 HF.2.2.1,HL.2.2.1,dw nP HF.2.2.2,HL.2.2.2,Nz HF.1 PD,Nz HF.2.1 PD,Nz HF.2.2.1 PD,Nz HF.2.2.2 PD⟩,zM⟩
  exact ahl
 ·refine leaves_cons (f:=83) (args:= #[.pointer (some ⟨w.heap.size,0,none⟩),.pointer (some ⟨w.heap.size+1,0,none⟩)]) ak (by simp[go_sem]) ?_;refine (asC w.heap.size (w.heap.size+1) _ _ w1 _ _ _ _ _ _ _ _ _ _ H8 H9 aO).mono ?_;rintro e u' tQ ⟨rfl,rfl,k8,k9,lQ⟩;obtain⟨⟨z0,z1,z2,z3,z4,z5,z6⟩,zf⟩:=yg k8;have q0:=eV k9 0 _ rfl;have hE:kJ seed ns k ep=180:=by unfold kJ;rw[if_neg (by rw[dI];decide)]
  have tR:du seed ns k ep=Ns:=by unfold du;rw[if_neg (by rw[dI];decide)]
  rw[hE,tR];have fin:TA w Ns 180 (.returned (.tuple #[.agg ul,.int .i64 180])) tQ:=⟨_,rfl,mF.zero _ _,cu.trans (lQ _ (aM _) ae ae)⟩
  exact ahl
theorem acE {aS:Nat} {l:List bZ} {i:Nat} (h:Rd w (some ⟨b,aS,none⟩) (dq l)) (hi:i<l.length):
  w.cell? ⟨b,aS+i*2,none⟩=some (.int .i64 (l.getD i (0,eN)).1)/\w.cell? ⟨b,aS+i*2+1,none⟩=some (.string (l.getD i (0,eN)).2):=by
 obtain⟨b',ve,hA,h1,h2⟩:=h.shr hi;injection hA with hA
 injection hA with e1 e2
 subst e1 e2;rw[dh,cL hi];exact⟨h1,h2⟩
def vQ (D:eZ) (i:Nat):Bool:=decide ((D.sh.getD i (0,eN)).1=((i+1:Nat):Int))&&uh (D.r.ps.getD i eN) (D.sa.getD i eN) (D.sh.getD i (0,eN))
theorem Gp (D:eZ):sX D=(fX D.r&&decide (D.sh.length=D.r.ns.length)&&decide (D.sa.length=D.r.ns.length)&&(List.range D.r.ns.length).all (vQ D)):=rfl
theorem asF (i:Nat) (hi:i<D.r.ns.length) (h:vQ D i=false):sX D=false:=by
 rw[Gp];have:(List.range D.r.ns.length).all (vQ D)=false:=by
  rw[List.all_eq_false];exact⟨i,List.mem_range.2 hi,by rw[h];decide⟩
 rw[this,Bool.and_false]
theorem asG (h1:fX D.r=true) (h2:D.sh.length=D.r.ns.length) (h3:D.sa.length=D.r.ns.length) (h: ∀j,j<D.r.ns.length->vQ D j=true):sX D=true:=by
 rw[Gp,h1,decide_eq_true h2,decide_eq_true h3,Bool.true_and,Bool.true_and,Bool.true_and,List.all_eq_true];exact λj hj=>h j (List.mem_range.1 hj)
theorem Vg (h:P:=by
 go_in;go_wp2_with fail;refine mq.mono ?_;rintro e w1 ⟨rfl,hb⟩;replace HB:=aX HB hb;obtain⟨⟨z0,z1,z2,z3,z4,z5,z6⟩,zf⟩:=yg (aT HX hb).out;clear hb zf;go_wp2;go_ret;exact⟨by rw[HD.out];rfl,HB⟩):P:=h
theorem ahJ (h:P:=by
 refine rC ax ax ?_;repeat (go_big_quiet_step (exact HC.out _))
 refine wpQuiet_nil ?_;rintro _ ⟨y,rfl⟩;go_wp2;go_ret;exact⟨by rw[Hf.out];rfl,bg Xd y.ok⟩):P:=h
theorem acF (v:Value) (D:eZ) (w:World) (hv:DV w v D) (hR:cX w):
  Calls prog 91 #[v] w (bF w (.bool (sX D))):=by
 obtain⟨A,n,c,B,m,d,C,p,q,E,s,t,rfl,h1,h2,h3,h4,h5,h6,h7,h8⟩:=hv;have eL:=be w (.cells #[.int .i64 D.r.e,.int .i64 D.r.k,.slice A n c,.slice B m d,.string D.sec,.slice C p q,.slice E s t] 67);have hX:=aR w (.cells #[.int .i64 D.r.e,.int .i64 D.r.k,.slice A n c,.slice B m d,.string D.sec,.slice C p q,.slice E s t] 67);have mq:=aa (FN (.agg #[.int .i64 D.r.e,.int .i64 D.r.k,.slice A n c,.slice B m d]) D.r _ ⟨A,n,c,B,m,d,rfl,h1.below eL,h2,h3.below eL,h4⟩);have HX:=aa hX;have HB:=aa eL;have HR:=aa hR;have Pk:=aa h3;have uL:=aa h5;have tF:=aa h7;have HL:=aa (And.intro h2 (And.intro h4 (And.intro h6 h8)));clear h1 h2 h3 h4 h5 h6 h7 h8 hX eL hR;cases fg:fX D.r with
 |false=>
  rw[fg]at mq;have HD:=aa (show sX D=false by rw[Gp,fg];rfl);clear fg;exact Vg
 |true=>
 rw[fg]at mq;have La:=aa fg;obtain⟨k1,k2,k3,If,k5,k6,k7⟩:=zW fg;have HM:=aa k5;rw[<-HL.1]at If;clear fg k1 k2 k3 k5 k6 k7;by_cases hp:p=n;case neg=>
  have d1:((p:Int) !=(n:Int))=true:=by simp;omega
  have HD:=aa (show sX D=false by
   rw[Gp,La.out,decide_eq_false (by rw[<-HL.1,<-HL.2.2.1];exact hp)];rfl)
  clear hp;exact Vg
 subst hp;have d1:((p:Int) !=(p:Int))=false:=ak;by_cases hs:s=p;case neg=>
  have d2:((s:Int) !=(p:Int))=true:=by simp;omega
  have HD:=aa (show sX D=false by
   rw[Gp,La.out,decide_eq_false (p:=D.sa.length=_) (by rw[<-HL.1,<-HL.2.2.2];exact hs)];simp)
  clear hs;exact Vg
 subst hs;obtain rfl:s=m:=by rw[HL.2.1,HM.out,<-HL.1]
 go_in;go_wp2_with fail;refine mq.mono ?_;rintro e w1 ⟨rfl,hb⟩;replace HB:=aX HB hb;replace HX:=aT HX hb;obtain⟨⟨z0,z1,z2,z3,z4,z5,z6⟩,zf⟩:=yg HX.out;clear hb zf;go_wp2_with fail;clear z0 z1 z2 z3 z4 z5 z6;have Ir:=HX;go_loopw [31] (λx wr=> ∃i:Nat,i<=s/\x= .int .i64 (i:Nat)/\(∀j,j<i->vQ D j=true)/\bj wr w.heap.size #[.int .i64 D.r.e,.int .i64 D.r.k,.slice A s c,.slice B s d,.string D.sec,.slice C s q,.slice E s t] 67/\aD w wr) (λx _=>s -(intOf x).toNat);case atStart=>exact⟨0,ae,rfl,λj hj=>ae,Ir,HB⟩
 case round=>
  obtain⟨i,hi,rfl,mr,hX,hW⟩:=hrel;have ke:=aa mr;clear Ir HX HB d1;have HX:=aa hX;have HB:=aa hW;clear mr hX hW;by_cases aK:i<s
  ·have e1:decide ((i:Int)<(s:Int))=true:=by simp;omega
   have QX:(i:Int)<(s:Int):=ae;have Dp:i<D.r.ns.length:=(by rw[<-HL.1];exact aK);have qr:i<D.r.ps.length:=(by rw[HM.out];exact Dp);have yN:i<D.sh.length:=(by rw[<-HL.2.2.1];exact aK);have Fc:i<D.sa.length:=(by rw[<-HL.2.2.2];exact aK);obtain⟨b1,o1,e2,c1⟩:=kG (Pk.below HB) qr;obtain⟨b2,o2,e3,c2⟩:=kG (tF.below HB) Fc;obtain⟨b3,o3,e4⟩: ∃b o,C=some ⟨b,o,none⟩:=by
    obtain⟨b,o,h,_⟩:=(uL.below HB).shr yN;exact⟨b,o,h⟩
   subst e2 e3 e4;obtain⟨c3,c4⟩:=acE (uL.below HB) yN;have II:=aa (asF (D:=D) i Dp);have CG:=aa (show vQ D i=true-> ∀j,j<i+1->vQ D j=true from λh j hj=>by
    rcases Nat.lt_or_eq_of_le (Nat.le_of_lt_succ hj) with h2|h2
    ·exact ke.out j h2
    ·rw[h2];exact h)
   have IL:=aa (show vQ D i=(decide ((D.sh.getD i (0,eN)).1=((i+1:Nat):Int))&&uh D.r.ps[i] D.sa[i] (D.sh.getD i (0,eN))) by
    unfold vQ;rw[dh (l:=D.r.ps),cL qr,dh (l:=D.sa),cL Fc];rfl)
   generalize D.sh.getD i (0,eN)=sh at c3 c4 IL;obtain⟨x,b⟩:=sh;generalize D.r.ps[i]=pl at c1 IL;generalize D.sa[i]=sl at c2 IL;simp only at c3 c4 IL;obtain⟨u,hu⟩: ∃u,u=wr.alloc (.cells #[.int .i64 x,.string b] 101):=⟨_,rfl⟩
   have zG:aD wr u:=hu▸be wr _;have hxu:bj u wr.heap.size #[.int .i64 x,.string b] 101:=hu▸aR wr _;have HU:=aa hu;have WF:=aa hxu;replace HX:=aT HX zG;have Xd:=aX HB zG;have C1:=aa ((zG.cell (cU c1)).trans c1);have C2:=aa ((zG.cell (cU c2)).trans c2);clear hu hxu zG Dp qr yN Fc c1 c2;go_upto_region 7 with fail
   rw[<-HU.out];clear c3 c4;generalize wr.heap.size=gs at WF;obtain⟨x0,x1,x2,x3,x4,x5,x6⟩:=(yg HX).1;have y3:=λy:bM u=>y.cell x3;have y6:=λy:bM u=>y.cell x6;have s0:=λy:bM u=>y.cell (eV WF 0 _ rfl);have s1:=λy:bM u=>y.cell (eV WF 1 _ rfl);have p1:=λy:bM u=>y.cell C1.out;have p2:=λy:bM u=>y.cell C2.out;have HC:=aa (λy:bM u=>lS (y:=y) (aaU pl sl x b y.x (y.rounds (HR.below Xd))));clear x0 x1 x2 x3 x4 x5 x6;by_cases hx:x=((i+1:Nat):Int)
   ·have d1:(x !=(i:Int)+1)=false:=(by subst hx;simp);have HE:=aa (show vQ D i=uh pl sl (x,b) by rw[IL.out,decide_eq_true hx,Bool.true_and]);clear hx;cases zo:uh pl sl (x,b) with
    |true=>
     rw[zo]at HC HE;clear zo;refine rC ax ax ?_;repeat (go_big_quiet_step (exact HC.out _))
     refine wpQuiet_nil ?_;rintro _ ⟨y,rfl⟩;go_wp2;go_roundw;case rel=>exact⟨i+1,ae,by go_num,CG HE,aJ HX y.ok,bg Xd y.ok⟩
     case measure=>exact cM
    |false=>
     rw[zo]at HC HE;have Hf:=aa (II HE);clear zo;exact ahJ
   ·have d1:(x !=(i:Int)+1)=true:=(by simp;omega);have Hf:=aa (II (by rw[IL.out,decide_eq_false hx];rfl));clear hx;exact ahJ
  ·obtain rfl:i=s:=ae;have e1:decide ((i:Int)<(i:Int))=false:=ak;have Hf:=aa (asG La (by rw[<-HL.1,<-HL.2.2.1]) (by rw[<-HL.1,<-HL.2.2.2]) (by rw[<-HL.1];exact ke.out));go_wp2;go_ret;exact⟨by rw[Hf.out];rfl,HB⟩
end Go.Proofs.YtaglcaocpcbiiaaGreatDoor
