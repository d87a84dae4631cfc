import Derived.WalkKit
import Derived.Lib.Hide
import Derived.Deep.Draws
import Derived.Deep.QuietTactic
import Derived.BigQuiet
import Derived.Shelf.Strings.Builder1
import Derived.Shelf.Strings.Builder2
import Derived.StillTailTactics
import Derived.Deep.OwnRows
import Derived.Deep.RegionHeld3
import Derived.Deep.RegionLaw
import Derived.Deep.DrawnRows
import Derived.Deep.AppendLies
import Derived.OwnWalk
import Derived.Test.YtaglcaocpcbiiaaGreatDoorProg
import Derived.RangeFuncNested
import Derived.RangeFuncBound
import Derived.RangeFuncCalls
import Derived.RangeFuncLeaves
import Derived.RangeFuncFrom
import Derived.Shelf.Abstract
import Derived.Shelf.RegionOpen
import Derived.OwnWalkIn
import Derived.TacticsInMore
import Derived.LoopNIn
import Derived.LoopIn
import Derived.Maps.RangeWalk
import Derived.KernelRfl
import Derived.Below
set_option linter.unusedVariables false
set_option linter.unusedSimpArgs false
set_option maxRecDepth 100000
set_option maxHeartbeats 3000000
namespace Go.Proofs.YtaglcaocpcbiiaaGreatDoor
open Go.Proofs.Tryz Go.RowKit
theorem ya0 {P:Prop} (h:P:=by rintro _ ⟨c0,c1,c2,c3,c4,c5⟩;go_simp;try with_reducible rfl):P:=h
theorem ya1 {P:Prop} (h:P:=by rintro _ ⟨c0,c1,c2,c3,c4⟩;go_simp;try with_reducible rfl):P:=h
theorem ya2 {P:Prop} (h:P:=by rintro _ ⟨c0,c1,c2,c3⟩;go_simp;try with_reducible rfl):P:=h
theorem ya3 {n:Nat} {w:World}:Below n w w.drew:=(Below.refl _ _).drew
theorem aa {p:Prop} (h:p):Hid p:=Lib.hid h
theorem ae {p:Prop} (h:p:=by omega):p:=h
theorem ax {p:Prop} (h:p:=by kernel_rfl):p:=h
theorem ak {p:Prop} (h:p:=by simp):p:=h
theorem au {p:Prop} (h:p:=by decide):p:=h
theorem ah {p:Prop} (h:p:=by rfl):p:=h
theorem bU {p:Prop} (h:p:=by decide +kernel):p:=h
abbrev aD (w w':World):Prop:=Below w.heap.size w w'
abbrev bF (w:World) (v:Value) (e:Ending) (w':World):Prop:=e= .returned v∧Below w.heap.size w w'
abbrev eu (w:World) (v:Value) (e:Ending) (w':World):Prop:=e= .returned v∧w'=w
abbrev ay:Value:=.slice none 0 0
abbrev aw (g:Nat):Option Addr:=some ⟨g,0,none⟩
theorem be (w:World) (o:Obj):Below w.heap.size w (w.alloc o):=(Below.refl _ _).alloc (Nat.le_refl _) o
theorem tq (w:World):Below w.heap.size w w.drew:=(Below.refl _ _).drew
theorem aX {a b c:World} (h:Hid (Below a.heap.size a b)) (k:Below b.heap.size b c):Hid (Below a.heap.size a c):=Lib.hid (h.out.trans (k.mono h.out.size))
theorem ju {a b c:World} (h:Hid (Below a.heap.size a b)) (k:Below b.heap.size b c):Below a.heap.size a c:=h.out.trans (k.mono h.out.size)
abbrev bj (w:World) (g:Nat) (c:Array Value) (T:TypeId):Prop:=w.heap[g]?=some (.cells c T (0,0))
abbrev QCA:=Calls Tryz.prog
abbrev aI:=@Below.refl
abbrev aM:=@Nat.le_refl
abbrev aR:=@heap_alloc_new
abbrev bz:=@Below.heap_setCell
abbrev bD:=@Nat.le_trans
abbrev bW:=@Option.some.inj
abbrev cL:=@List.getElem?_eq_getElem
abbrev dh:=@List.getD_eq_getElem?_getD
abbrev dx:=@List.length_append
abbrev dY:=@List.getElem_mem
abbrev fB:=@World.cell?_of_block
abbrev jY:=@Nat.lt_of_lt_of_le
abbrev kQ:=@List.length_map
abbrev mg:=@Nat.lt_or_ge
abbrev nA:=@List.getElem?_map
abbrev sd:=@List.length_replicate
abbrev ux:=@List.getElem?_append_right
abbrev Cx:=@List.getElem?_eq_none
abbrev Cy:=@ByteArray.size_extract
abbrev OW:=@List.getElem?_toArray
abbrev OX:=@Nat.lt_of_le_of_lt
abbrev Vs:=@List.mem_cons_self
abbrev Vu:=@List.mem_cons_of_mem
abbrev Vv:=@List.getElem?_append_left
abbrev ag:=ByteArray
abbrev aF:=List UInt8
abbrev aN:=Option Addr
abbrev bd:=List ByteArray
abbrev bx:=Array Value
abbrev bJ:=List Value
section
variable {A:aN} {B S g i k m n:Nat} {P:Prop} {Q:Exit->Act->World->Prop} {W w w' w0 w1 w2:World} {a b e:Int} {bk:Array Oper} {cs:bx} {fn:Func} {o o2:Obj} {p q:Addr} {rest:List Oper} {s:ag} {st xs:List Int} {t ty:TypeId} {u:Value}
theorem ahg (h:P:=by
 show IntKind.i64.wrap ((BitVec.ofInt 64 (a:Int)|||BitVec.ofInt 64 (b:Int)).toNat:Int)=_;rw[BitVec.toNat_or,pI a ae,pI b ae,IntKind.wrap_i64];omega):P:=h
theorem agu (h:P:=by
 rcases mg t w.heap.size with aK|jy
 ·exact aK
 ·rw[Array.getElem?_eq_none jy]at h;cases h):P:=h
theorem Vn (h:P:=by
 simp[World.setCell,Array.getElem?_modify,h]):P:=h
theorem OL (h:P:=by
 have EV:tmps[a]?.getD undef= .pointer (aw g):=by simpa using ha
 simp[results,h,asAddr,EV,hl]):P:=h
theorem OD (h:P:=by
 by_cases e:i=j
 ·subst e;rw[if_pos rfl,if_pos ae]
 ·rw[if_neg e];by_cases e2:j<i
  ·rw[if_pos e2,if_pos ae]
  ·rw[if_neg e2,if_neg ae]):P:=h
theorem oC (h:P:=by
 simpa using this):P:=h
theorem Ez (h:P:=by
 unfold World.cell?;simp only[h];rfl):P:=h
theorem OP (h:P:=by
 unfold World.frozen?;simp only[h];rfl):P:=h
theorem cM (h:P:=by
 simp[intOf];omega):P:=h
theorem tp (h:P:=by
 go_wp2;go_ret;exact⟨rfl,rfl⟩):P:=h
theorem jt (h:P:=by
 go_in;exact tp):P:=h
theorem OC (h:P:=by
 go_wp2;go_ret;exact⟨rfl,hb⟩):P:=h
theorem OQ (h:P:=by
 rintro e w' ⟨rfl,hb⟩;exact OC):P:=h
theorem OJ (h:P:=by
 gi_wp2;refine bodyPost_ret (results_none rfl _ _ _) rfl ?_;exact⟨⟨_,rfl⟩,.inr ⟨_,trivial,hJx3⟩⟩):P:=h
theorem G1 (h:P:=by
 gi_wp2;go_ret;exact⟨rfl,rfl⟩):P:=h
theorem Ox (h:P:=by
 refine (hg.block b (bf hs) (λe=>?_)).trans hs;obtain⟨o,ho,hc⟩:=hr b e.symm;rw[hs]at ho;obtain rfl:=bW ho;cases hc):P:=h
theorem ahD (h:P:=by
 by_cases e:k=j
 ·subst e;rw[if_pos rfl,if_pos ae]
 ·rw[if_neg e];by_cases e2:j<k
  ·rw[if_pos e2,if_pos ae]
  ·rw[if_neg e2,if_neg ae]):P:=h
theorem U5 (h:P:=by
 have h2:k<s.data.size:=h;rw[ByteArray.getElem_eq_getElem_data,dh,Array.getElem?_toList,Array.getElem?_eq_getElem h2];rfl):P:=h
theorem U9 (h:P:=by
 rw[ux ae,ux ae,e,show (i+1)*2 - 2=i*2 by omega,show (i+1)*2+1 - 2=i*2+1 by omega];exact this):P:=h
theorem agj (h:P:=by
 by_cases h:s=t
 ·rw[h,decide_eq_true rfl];exact beq_self_eq_true _
 ·rw[decide_eq_false h];exact zU h):P:=h
theorem ON (h:P:=by
 simp only[List.setIfInBounds_toArray,List.set_cons_zero,List.set_cons_succ]at this;exact this):P:=h
theorem ahy (h:P:=by
 have:=bt (bt (bt (bt (bt h 0 b0) 1 b1) 2 b2) 3 b3) 4 b4;exact ON):P:=h
theorem OS (h:P:=by
 rw[Cy];omega):P:=h
theorem OR (h:P:=by
 obtain rfl:=bW ho;cases hc):P:=h
theorem Ew (h:P:=by
 go_wp2;go_ret2;exact⟨rfl,aI _ _⟩):P:=h
theorem OG (h:P:=by
 rintro e w1 ⟨rfl,aG⟩;go_wp2;go_ret2;exact⟨rfl,aG⟩):P:=h
theorem af9 (h:P:=by
 intro e;unfold iN at h;rw[if_neg (by simpa using h1),if_pos e]at h;cases h):P:=h
theorem agI (h:P:=by
 rw[World.putObj_heap_other (λe=>ln.1 (by rw[e]at rj;exact rj))];exact (hD D' (by simp[rj])).2):P:=h
theorem U3 (h:P:=by
 go_in;go_wp2;go_ret2;exact⟨rfl,rfl⟩):P:=h
theorem G5 (h:P:=by
 obtain⟨p,_,rfl⟩:=List.mem_map.1 hu;rfl):P:=h
theorem OE (h:P:=by
 rw[hx u (List.mem_of_getElem? hu)]at h1;cases h1):P:=h
theorem Vc (h:P:=by
 rintro e w1 ⟨v1,rfl,qt,aG⟩;rw[<-HR.out]at qt⊢;obtain⟨A5,n5,c5,B5,m5,d5,rfl,lK⟩:=qt;replace HX:=aT HX aG;replace HB:=aX HB aG;have HO:=aa lK;clear aG lK;obtain⟨x0,x1,x2,x3⟩:=aV HX.out;go_wp2_with fail;refine bodyPost_ret (dJ rfl _ _ (w.heap.size+1) ah _ (eP (eA HX _ _))) rfl ?_;exact⟨_,rfl,⟨_,_,_,_,_,_,rfl,HO.two HX⟩,dL HB ae _ _⟩):P:=h
theorem Ve (h:P:=by
 have EV:tmps[a]?.getD undef= .pointer (aw g):=by simpa using ha
 have ky:tmps[b]?.getD undef= .pointer (aw k):=by simpa using hb
 simp[results,h,asAddr,EV,ky,hl,hk]):P:=h
theorem ahp (h:P:=by
 go_wp2_with fail;have mi:=bg (bg nH aG) av;have ho:OB w2 w.heap.size A1 n lH B1 m eM P:=⟨H.hn,H.hm,eO fQ av,dy⟩
 refine bodyPost_ret (vt rfl _ _ (w.heap.size+1) ah _ (eP (eA HX _ _))) rfl ?_;exact⟨_,_,_,_,_,_,rfl,(ho.two HX _ _).pb,dL mi ae _ _⟩):P:=h
theorem GZ (h:P:=by
 go_wp2;go_ret;exact⟨rfl,aI _ _⟩):P:=h
theorem ahA (h:P:=by
 have d1:(x !=0)=true:=by simpa using hx
 go_in;go_wp2_with fail;exact⟨rfl,rfl,rfl⟩):P:=h
theorem agD (h:P:=by
 have aK:b<w.heap.size:=by
  rcases mg b w.heap.size with h'|h'
  ·exact h'
  ·rw[Array.getElem?_eq_none h']at h;cases h
 exact (hg.block b aK (λe=>aO (bW e))).trans h):P:=h
theorem ahd (h:P:=by
 rw[cell_of_row w g j cs t fr h]at hu;exact hs u (Array.mem_of_getElem? hu)):P:=h
theorem ahj (h:P:=by
 rw[hm];cases hq:decide (n&&&(n - 1)=0) with
 |true=>
  have Fr:n&&&(n - 1)=0:=of_decide_eq_true hq;rw[Fr]at ha;clear hq Fr hm;go_in;exact tp
 |false=>
  have Fr: ¬n&&&(n - 1)=0:=of_decide_eq_false hq;obtain⟨y,hy⟩: ∃y,y=n&&&(n - 1):=⟨_,rfl⟩
  rw[<-hy]at ha Fr;have e3:((y:Int)==0)=false:=by simp;omega
  clear hq hm hy;go_in;exact tp):P:=h
theorem OH (h:P:=by
 go_in;go_wp2_with fail;go_quiet (fail);go_wp2;go_ret;exact⟨rfl,tX (aI _ _) nq⟩):P:=h
theorem agL (h:P:=by
 go_in;go_wp2_with fail;refine HI.mono ?_;rintro e w1 ⟨rfl,hb⟩;have HB:=aa hb;clear hb;go_wp2;go_ret;exact⟨rfl,HB⟩):P:=h
theorem Vf (h:P:=by
 unfold kJ at h;split at h
 ·assumption
 ·exact absurd h au):P:=h
theorem ahH (h:P:=by
 split
 ·exact Nat.zero_le _
 ·refine bD (ave _ _ _ _) ?_;exact OS):P:=h
theorem Oz (h:P:=by
 rw[if_pos rfl]at HQ;go_in;go_wp2_with fail;refine (adx rb wb _ r0 ir).mono ?_;rintro e w1 ⟨rfl,rfl⟩;exact⟨rfl,H1.er (HR.fq HB) HQ⟩):P:=h
theorem agb (h:P:=by
 rw[if_neg nL]at he;subst he;rw[if_pos nL]at HQ;exact⟨rfl,HD.er HF (by rw[HQ.out,HE.out nL])⟩):P:=h
theorem age (h:P:=by
 rcases q2.os.2 with⟨hv,_⟩|⟨g',ai,bK,hv,_⟩
 ·injection hv with h1 h2 h3
  have e':Value.ownBlock (.slice y.dk.A y.dk.n y.dk.c)=some g:=e;rw[h1,h2,h3]at e';cases e'
 ·injection hv with h1 h2 h3
  have e':Value.ownBlock (.slice y.dk.A y.dk.n y.dk.c)=some g:=e;rw[h1]at e';injection e' with e'
  rw[h1,<-e']):P:=h
def Rd (w:World) (A:aN) (xs:bJ):Prop:=
 ∀i u,xs[i]?=some u-> ∃b aS,A=some ⟨b,aS,none⟩/\w.cell? ⟨b,aS+i,none⟩=some u
def ints (xs:List Int):bJ:=xs.map (Value.int .i64)
theorem Rd.nil (w:World) (A:aN):Rd w A []:=λi u h=>by simp at h
theorem cU (h:w.cell? p=some u):p.block<w.heap.size:=by
 rcases mg p.block w.heap.size with aK|jy
 ·exact aK
 ·unfold World.cell? at h;rw[Array.getElem?_eq_none jy]at h;cases h
theorem Rd.below {xs:bJ} (h:Rd w A xs) (hb:aD w w'):Rd w' A xs:=
 λi u hu=>by
  obtain⟨b,aS,hA,hc⟩:=h i u hu;exact⟨b,aS,hA,(hb.cell (p:=⟨b,aS+i,none⟩) (cU hc)).trans hc⟩
theorem Rd.int_at (h:Rd w A (ints xs)) (hi:i<xs.length):
  ∃b aS,A=some ⟨b,aS,none⟩/\w.cell? ⟨b,aS+i,none⟩=some (.int .i64 (xs.getD i 0)):=
 h i _ (by simp[ints,hi])
theorem qC (w:World) (t:TypeId) (cs:bx):Rd (w.alloc (.cells cs t)) (some ⟨w.heap.size,0,none⟩) cs.toList:=by
 intro i u hu;refine⟨_,_,rfl,?_⟩;have h:(w.alloc (.cells cs t)).heap[w.heap.size]?=some (.cells cs t (0,0)):=aR w _;unfold World.cell?;simp only[h];rw[Nat.zero_add,<-hu,Array.getElem?_toList];rfl
theorem jk (w:World) (t:TypeId) (cs:bx) (g:Nat) (hg:w.heap.size=g):Rd (w.alloc (.cells cs t)) (aw g) cs.toList:=by
 subst hg;exact qC w t cs
theorem tX {a:World} (h:Below B a w) (n:Nat):Below B a (w.drewN n):=⟨h.os,h.tape,h.output,h.size,h.block⟩
theorem bg (h:aD w w1) (h':aD w1 w2):aD w w2:=h.trans (h'.mono h.size)
theorem jX (h:aD w w1) (h':Below (w1.alloc o).heap.size (w1.alloc o) w2):aD w w2:=
 bg (h.alloc h.size o) h'
theorem Mv (h:w=w'):aD w w':=h▸aI _ _
theorem zO {a b:Bool} (h:a=b):Ending.returned (.bool a)= .returned (.bool b):=by rw[h]
theorem Dw {k:IntKind} (h:a=b):Ending.returned (.int k a)= .returned (.int k b):=by rw[h]
def bs (l:aF):ag:=⟨l.toArray⟩
theorem sD (l:aF):(bs l).data.toList=l:=rfl
theorem ei (l:aF):(bs l).size=l.length:=rfl
theorem bP (s:ag):s.data.toList.length=s.size:=rfl
theorem Dx (s:ag):bs s.data.toList=s:=rfl
theorem lR (s:ag) (a b:Nat):s.extract a b=bs ((s.data.toList.take b).drop a):=by
 apply ByteArray.ext;rw[ByteArray.data_extract];apply Array.ext';simp[bs,List.drop_take]
structure bM (w:World) where
 x:World
 ok:aD w x
instance later_some (w:World):Nonempty (bM w):=⟨⟨w,aI _ _⟩⟩
theorem rC {P:Program} {id:Nat} {a:Act} {l:List Oper} (hm:P.follows .mixedOrders=true) (hB:Region.lexB .any l.toArray=true) (h:wpQuiet P l.toArray (λW=> ∃y:bM w,W=y.x) (λa'=> ∀W,(∃y:bM w,W=y.x)->Q .normal a' W) l a):(Code.region id l.toArray true).wp P Q a w:=
 wp_region_quiet (C:=λW=> ∃y:bM w,W=y.x) hm hB ⟨⟨w.drew,(aI _ _).drew⟩,rfl⟩ (by simpa using h)
theorem lS {P:Program} {f:FuncId} {args:bx} {y:bM w} {v:Value} (h:Calls P f args y.x λe w'=>e= .returned v/\Below y.x.heap.size y.x w'):
  Calls P f args y.x λe w'=>e= .returned v/\ ∃z:bM w,w'=z.x:=
 h.mono λ_ _ ⟨he,hb⟩=>⟨he,⟨⟨_,bg y.ok hb⟩,rfl⟩⟩
theorem bM.cell (y:bM w) {v:Value} (h:w.cell? p=some v):y.x.cell? p=some v:=(y.ok.cell (cU h)).trans h
theorem pI (a:Nat) (ha:a<9223372036854775808):(BitVec.ofInt 64 (a:Int)).toNat=a:=by
 rw[BitVec.ofInt_natCast,BitVec.toNat_ofNat];exact Nat.mod_eq_of_lt ae
theorem ZO (a:Nat) (ha:a<4294967296):(BitVec.ofInt 32 (a:Int)).toNat=a:=by
 rw[BitVec.ofInt_natCast,BitVec.toNat_ofNat];exact Nat.mod_eq_of_lt ae
theorem ZP (a b:Nat) (ha:a<4294967296) (hb:b<4294967296):bits .or .i64 (a:Int) (b:Int)=((a|||b:Nat):Int):=by
 have hx:a|||b<2^32:=Nat.or_lt_two_pow ae ae;exact ahg
def fW (x:Int):Bool:=decide (0<=x)&&decide (x<=4294967295)
def ez (xs:List Int):Bool:=xs.all fW
theorem alP (xs:List Int) (k:Nat) (h:k<xs.length):ez (xs.take (k+1))=(ez (xs.take k)&&fW (xs.getD k 0)):=by
 rw[List.take_succ_eq_append_getElem h,ez,ez,List.all_append];simp[h]
theorem alQ (xs:List Int) (k:Nat) (h:k<xs.length) (hx:fW (xs.getD k 0)=false):ez xs=false:=by
 rw[ez,List.all_eq_false];refine⟨xs[k],dY h,?_⟩;simp[h]at hx;simp[hx]
def sE (a b:Int):Int:=((a.toNat^^^b.toNat:Nat):Int)
def vo (a b:Int):Int:=((a.toNat&&&b.toNat:Nat):Int)
theorem ZQ (a b:Int) (h:ez [a,b]=true):bits .xor .i64 a b=sE a b:=by
 simp[ez,fW]at h;obtain⟨x,rfl⟩:=Int.eq_ofNat_of_zero_le h.1.1;obtain⟨y,rfl⟩:=Int.eq_ofNat_of_zero_le h.2.1;have hx:x^^^y<2^32:=Nat.xor_lt_two_pow ae ae;show IntKind.i64.wrap ((BitVec.ofInt 64 (x:Int)^^^BitVec.ofInt 64 (y:Int)).toNat:Int)=_;rw[BitVec.toNat_xor,pI x ae,pI y ae,IntKind.wrap_i64];simp only[sE,Int.toNat_natCast];omega
theorem alR (a b:Int) (h:ez [a,b]=true):bits .and .i64 a b=vo a b:=by
 simp[ez,fW]at h;obtain⟨x,rfl⟩:=Int.eq_ofNat_of_zero_le h.1.1;obtain⟨y,rfl⟩:=Int.eq_ofNat_of_zero_le h.2.1;have hx:x&&&y<2^32:=Nat.and_lt_two_pow _ ae;show IntKind.i64.wrap ((BitVec.ofInt 64 (x:Int)&&&BitVec.ofInt 64 (y:Int)).toNat:Int)=_;rw[BitVec.toNat_and,pI x ae,pI y ae,IntKind.wrap_i64];simp only[vo,Int.toNat_natCast];omega
theorem alS (a:Int) (h0:0<=a) (h1:a<=9223372036854775807):bits .and .i64 a 4294967295=a % 4294967296:=by
 obtain⟨x,rfl⟩:=Int.eq_ofNat_of_zero_le h0;have hx:x&&&4294967295=x % 4294967296:=Nat.and_two_pow_sub_one_eq_mod x 32;show IntKind.i64.wrap ((BitVec.ofInt 64 (x:Int)&&&BitVec.ofInt 64 ((4294967295:Nat):Int)).toNat:Int)=_;rw[BitVec.toNat_and,pI x ae,pI 4294967295 ae,IntKind.wrap_i64,hx];omega
def eU (xs:List Int):Int:=xs.sum % 4294967296
theorem alT (xs:List Int) (k:Nat) (h:k<xs.length):eU (xs.take (k+1))=(eU (xs.take k)+xs.getD k 0)% 4294967296:=by
 rw[List.take_succ_eq_append_getElem h,eU,eU,List.sum_append];simp[h]
theorem ZR (xs:List Int):0<=eU xs/\eU xs<4294967296:=by unfold eU;omega
theorem Rj (hw:ez xs=true) (h:k<xs.length):0<=xs.getD k 0/\xs.getD k 0<=4294967295:=by
 rw[ez,List.all_eq_true]at hw;have:=hw _ (dY h);simp[fW]at this;simpa[h] using this
def lr (x n:Int):Int:=(((x.toNat<<<(n.toNat % 32))% 4294967296|||x.toNat>>>(32 - n.toNat % 32):Nat):Int)
theorem Rk (x n:Int) (h0:0<=x) (h1:x<=4294967295):0<=lr x n/\lr x n<=4294967295:=by
 have h2:x.toNat>>>(32 - n.toNat % 32)<4294967296:=by
  have:=Nat.shiftRight_le x.toNat (32 - n.toNat % 32);omega
 have h3:(x.toNat<<<(n.toNat % 32))% 4294967296|||x.toNat>>>(32 - n.toNat % 32)<2^32:=Nat.or_lt_two_pow ae ae;unfold lr;omega
theorem alU (n:Nat) (h:n<4294967296):bits .and .u64 (n:Int) 31=((n % 32:Nat):Int):=by
 have hx:n&&&31=n % 32:=Nat.and_two_pow_sub_one_eq_mod n 5;show IntKind.u64.wrap ((BitVec.ofInt 64 (n:Int)&&&BitVec.ofInt 64 ((31:Nat):Int)).toNat:Int)=_;rw[BitVec.toNat_and,pI n ae,pI 31 ae,IntKind.wrap_u64,hx];omega
theorem alV (a b:Nat) (ha:a<4294967296) (hb:b<4294967296):bits .or .u32 (a:Int) (b:Int)=((a|||b:Nat):Int):=by
 have hx:a|||b<2^32:=Nat.or_lt_two_pow ae ae;show IntKind.u32.wrap ((BitVec.ofInt 32 (a:Int)|||BitVec.ofInt 32 (b:Int)).toNat:Int)=_;rw[BitVec.toNat_or,ZO a ha,ZO b hb,IntKind.wrap_u32];omega
def lT (dZ:Bool) (i:Nat):Nat:=if dZ then 24 - 8*i else 8*i
def fG (s:aF) (dZ:Bool):Nat->Nat->Nat
 |0,_=>0
 |i+1,j=>if i / 4=j then fG s dZ i j|||((s.getD i 0).toNat<<<lT dZ (i % 4)) else fG s dZ i j
theorem Jb (dZ:Bool) (i:Nat) (h:i<4):lT dZ i<=24:=by unfold lT;split<;>omega
theorem Rn (x:UInt8) (p:Nat) (h:p<=24):x.toNat<<<p<4294967296:=by
 have h2:x.toNat<2^8:=x.toNat_lt;rw[Nat.shiftLeft_eq];have h3:x.toNat*2^p<2^8*2^p:=Nat.mul_lt_mul_of_pos_right h2 (Nat.two_pow_pos _);have h4:2^8*2^p<=2^8*2^24:=Nat.mul_le_mul_left _ (Nat.pow_le_pow_right ae h);omega
theorem Mw (s:aF) (dZ:Bool) (i j:Nat):fG s dZ i j<4294967296:=by
 induction i with
 |zero=>simp[fG]
 |succ i ih=>
  unfold fG;split
  ·exact Nat.or_lt_two_pow (n:=32) ih (Rn _ _ (Jb _ _ ae))
  ·exact ih
def ZS (s:aF) (dZ:Bool) (w:World) (e:Ending) (w':World):Prop:=
 ∃g,e= .returned (.tuple #[.slice (aw g) (s.length / 4) (s.length / 4),.bool true])/\w.heap.size<=g/\w'.rowIs g 3 (s.length / 4) (λj=> .int .i64 (fG s dZ s.length j:Nat))/\aD w w'
theorem rD:(prog.info? 3).map (λi=>(i.zero,i.size,i.bytes))=some (some (.int .i64 0),1,8):=ax
theorem alW (x:UInt8) (p:Nat) (h:p<=24):IntKind.i64.wrap ((x.toNat:Int)*2^min p 64)=((x.toNat<<<p:Nat):Int):=by
 have h2:=Rn x p h;rw[Nat.min_eq_left ae,Nat.shiftLeft_eq] at*;rw[IntWalk.i64_in _ (by
  have e:(x.toNat:Int)*2^p=((x.toNat*2^p:Nat):Int):=ak;rw[e];omega)]
 simp
def vp (xs:List Int) (dZ:Bool) (i:Nat):Nat:=((xs.getD (i / 4) 0).toNat>>>lT dZ (i % 4))% 256
def lu (xs:List Int) (dZ:Bool):aF:=(List.range (4*xs.length)).map λi=>UInt8.ofNat (vp xs dZ i)
theorem oP (xs:List Int) (dZ:Bool):(lu xs dZ).length=4*xs.length:=by simp[lu]
theorem Jc:(prog.info? 5).map (λi=>(i.zero,i.size,i.bytes))=some (some (.int .u8 0),1,1):=ax
theorem alX (x p:Nat) (h:p<=24):IntKind.u8.wrap ((x:Int)/ 2^min p 64)=((x>>>p % 256:Nat):Int):=by
 rw[Nat.min_eq_left ae,Nat.shiftRight_eq_div_pow,IntKind.wrap_u8];simp
theorem Vp (h:P:=by
 unfold Addr.add;split
 ·rename_i h;rw[h]
 ·simp):P:=h
theorem Ro {l:aF} (h:w.rowIs g t n (λj=> .int .u8 ((l.getD j 0).toNat:Nat))) (hn:n=l.length):
  ∀j (hj:j<l.length),w.cell? ((⟨g,0,none⟩:Addr).add j)=some (.int .u8 (l[j].toNat:Int)):=by
 intro j hj;have e:(⟨g,0,none⟩:Addr).add j=⟨g,j,none⟩:=by
  exact Vp
 rw[e,h.cell ae];simp[hj]
theorem FJ:ez [a]=true↔(0<=a/\a<=4294967295):=by simp[ez,fW]
theorem zQ:ez [a,b]=true↔(0<=a/\a<=4294967295)/\(0<=b/\b<=4294967295):=by simp[ez,fW]
theorem Mx (ha:0<=a/\a<=4294967295) (hb:0<=b/\b<=4294967295):0<=sE a b/\sE a b<=4294967295:=by
 have:a.toNat^^^b.toNat<2^32:=Nat.xor_lt_two_pow ae ae;unfold sE;omega
def Wd (x:Int):Prop:=0<=x/\x<=4294967295
theorem tY (xs:List Int):Wd (eU xs):=by have:=ZR xs;exact⟨this.1,ae⟩
theorem alY {t u v x y:Tmp} (h:fn.results= #[.tmp t,.tmp u,.tmp v,.tmp x,.tmp y]) (tmps:bx) (P:Program) (w:World):
 (results fn tmps).run P w= .ok (.tuple #[tmps.getD t undef,tmps.getD u undef,tmps.getD v undef,tmps.getD x undef,tmps.getD y undef]) w:=by simp[results,h]
def gI (s:aF) (dZ:Bool) (n:Nat):List Int:=(List.range n).map λj=>((fG s dZ s.length j:Nat):Int)
theorem My (h:Below ((w.alloc o).alloc o2).heap.size ((w.alloc o).alloc o2) w1):w1.heap[w.heap.size]?=some o:=
 (h.block w.heap.size (by simp;omega)).trans ((Below.heap_alloc _ _ _ ak).trans (aR w o))
theorem Jd (h:Below ((w.alloc o).alloc o2).heap.size ((w.alloc o).alloc o2) w1):aD w w1:=
 jX ((aI _ _).alloc (aM _) _) h
theorem bf {t:Nat} (h:w.heap[t]?=some o):t<w.heap.size:=by
 exact agu
theorem vq (h:Below (w.alloc o).heap.size (w.alloc o) w1):w1.heap[w.heap.size]?=some o:=
 (h.block w.heap.size ak).trans (aR w o)
theorem gZ {t:Nat} (h:w.grownBy w' (some t)) (hB:B<=t) (mi:B<=w.heap.size):Below B w w':=
 ⟨h.os,h.tape,h.output,h.size,λi hi=>h.block i ae (λe=>by injection e with e;omega)⟩
theorem Rp {s:aF} {dZ:Bool} (h:w.rowIs g t n (λj=> .int .i64 (fG s dZ m j:Nat))) (hm:m=s.length):
  ∀j v,(ints (gI s dZ n))[j]?=some v->w.cell? ((⟨g,0,none⟩:Addr).add j)=some v:=by
 subst hm;intro j v hv;have hj:j<n:=by
  rcases mg j n with h|h
  ·exact h
  ·simp[ints,gI,h]at hv
 have e:(⟨g,0,none⟩:Addr).add j=⟨g,j,none⟩:=by
  exact Vp
 rw[e,h.cell hj];simpa[ints,gI,hj] using hv
theorem ZT (o Mn:Nat) (bK:bx) (xs:List Int) (hS:w.heap[S]?=some (.cells bK t (0,0))) (Wi: ∀j v,(ints xs)[j]?=some v->w.cell? ((⟨g,0,none⟩:Addr).add j)=some v) (lP:o+xs.length<=bK.size) (hn:n=xs.length):
  ∃w',(Builtin.copy_ #[55,55] 3 #[.slice (some ⟨S,o,none⟩) n Mn,.slice (aw g) n n]).run prog w= .ok (.int .i64 n) w'/\
   w'.heap[S]?=some (.cells (bK.toList.take o++ints xs++bK.toList.drop (o+xs.length)).toArray t (0,0))/\w.grownBy w' (some S):=by
 subst hn;have hl:(ints xs).length=xs.length:=by simp[ints]
 have h:=run_copy_row (P:=prog) w 55 55 3 3 S o xs.length Mn ⟨g,0,none⟩ xs.length xs.length bK t (ints xs) underlying55 ax hS (by rw[hl];exact (Nat.min_self _).symm) Wi (by rw[hl];exact lP) (by
  intro v hv;obtain⟨x,_,rfl⟩:=List.mem_map.1 hv;rfl)
 rw[hl]at h;refine⟨_,h,setRow_heap w S bK _ t (0,0) hS,⟨rfl,rfl,rfl,ak,λi hi aO=>setRow_other w S i _ (λe=>aO (by rw[e]))⟩⟩
theorem bt (h:w.heap[g]?=some (.cells cs t (0,0))) (i:Nat) (u:Value):(w.setCell ⟨g,i,none⟩ u).heap[g]?=some (.cells (cs.setIfInBounds i u) t (0,0)):=by
 exact Vn
theorem Dy (h:w.heap[g]?=some (.cells cs t (0,0))) (hn:n<=cs.size):w.there g 0 n:=by
 intro j hj;have e:(0:Nat)+j=j:=Nat.zero_add j;refine⟨?_,?_⟩
 ·unfold World.cell?;simp only[h,e];have:cs[j]?=some cs[j]:=Array.getElem?_eq_getElem ae;simp[this]
 ·unfold World.frozen?;simp only[h];simp
theorem dJ {P:Program} {a t:Tmp} (h:fn.results= #[.cell a ty,.tmp t]) (tmps:bx) (w:World) (g:Nat) (ha:tmps.getD a undef= .pointer (aw g)) (v:Value) (hl:(loadVar ty ⟨g,0,none⟩).run P w= .ok v w):(results fn tmps).run P w= .ok (.tuple #[v,tmps.getD t undef]) w:=by
 exact OL
theorem Mz {B b:Nat} {w0:World} (hb:B<=b): ∀(vs:bJ) (o:Nat) (w:World),Below B w0 w->Below B w0 (w.setCells b o vs)
 | [],_,_,h=>h
 |v::r,o,w,h=>by
  rw[World.setCells];exact Mz hb r _ _ (h.setCell (p:=⟨b,o,none⟩) hb v)
theorem ZU (b:Nat): ∀(vs:bJ) (o:Nat) (w:World),(w.setCells b o vs).heap.size=w.heap.size
 | [],_,_=>rfl
 |v::r,o,w=>by
  rw[World.setCells,ZU b r];simp[World.setCell]
theorem ZV (b k:Nat) (hk:k≠b): ∀(vs:bJ) (o:Nat) (w:World),(w.setCells b o vs).heap[k]?=w.heap[k]?
 | [],_,_=>rfl
 |v::r,o,w=>by
  rw[World.setCells,ZV b k hk r];exact bz _ _ _ _ hk
theorem ZW (b:Nat): ∀(vs:bJ) (o:Nat) (w:World),(w.setCells b o vs).os=w.os/\(w.setCells b o vs).tape=w.tape/\(w.setCells b o vs).output=w.output
 | [],_,_=>⟨rfl,rfl,rfl⟩
 |v::r,o,w=>by
  rw[World.setCells];exact ZW b r _ _
theorem ZX (b:Nat) (t:TypeId) (fr:Nat×Nat): ∀(vs:bJ) (o:Nat) (w:World) (cs:bx),w.heap[b]?=some (.cells cs t fr)->o+vs.length<=cs.size->
  ∃ds:bx,(w.setCells b o vs).heap[b]?=some (.cells ds t fr)/\ds.size=cs.size/\ ∀i,ds[i]?=if o<=i/\i<o+vs.length then vs[i - o]? else cs[i]?
 | [],o,w,cs,h,_=>⟨cs,h,rfl,λi=>by rw[if_neg (by simp only[List.length_nil];omega)]⟩
 |v::r,o,w,cs,h,hl=>by
  simp only[List.length_cons]at hl;rw[World.setCells];have h1:(w.setCell ⟨b,o,none⟩ v).heap[b]?=some (.cells (cs.setIfInBounds o v) t fr):=by
   exact Vn
  obtain⟨ds,hd,hs,hi⟩:=ZX b t fr r (o+1) _ _ h1 (by simp;omega);refine⟨ds,hd,by simpa using hs,λi=>?_⟩;rw[hi i,Array.getElem?_setIfInBounds];by_cases e:o=i
  ·subst e;rw[if_neg ae,if_pos rfl,if_pos ae,if_pos ak];simp
  ·by_cases e2:o<=i/\i<o+(v::r).length
   ·simp only[List.length_cons]at e2;rw[if_pos ae,if_pos (by simp;omega),show i - o=(i -(o+1))+1 by omega];simp
   ·simp only[List.length_cons]at e2;rw[if_neg ae,if_neg e,if_neg (by simp;omega)]
theorem sF {P:Program} {op:Oper} {a:Act} (lM:op.guard=none) (ty:TypeId) (x y:Operand) (ho:op.op= .store ty x y) (g:Nat) (dF:bx) (hx:a.eval x= .pointer (aw g)) (hy:a.eval y= .agg dF) (cs:bx) (t:TypeId) (hg:w.heap[g]?=some (.cells cs t (0,0))) (cg:dF.size=cs.size) (hi:(P.info? ty).map (·.size)=some dF.size) (h1:dF.all (·.oneCell')=true) (h: ∀w',w'.heap[g]?=some (.cells dF t (0,0))->w.grownBy w' (some g)->wpList P bk Q rest (a.put op.dst undef) w'):wpList P bk Q (op::rest) a w:=by
 refine wpList_store_mid lM ty x y ho g 0 dF hx hy (Dy hg (Nat.le_of_eq cg)) hi h1 (h _ ?_ ?_)
 ·obtain⟨ds,hd,hs,he⟩:=ZX g t (0,0) dF.toList 0 w cs hg (by simp[cg]);have:ds=dF:=by
   apply Array.ext_getElem?;intro i;rw[he i];by_cases aK:i<dF.size
   ·rw[if_pos (by simp;omega)];simp
   ·rw[if_neg (by simp;omega),Array.getElem?_eq_none ae,Array.getElem?_eq_none ae]
  rw[hd,this]
 ·obtain⟨e1,e2,e3⟩:=ZW g dF.toList 0 w;exact⟨e1,e2,e3,Nat.le_of_eq (ZU g _ _ _).symm,λi hi aO=>ZV g i (λe=>aO (by rw[e])) _ _ _⟩
theorem Dz (xs:List Int):(ints xs).toArray.all (·.oneCell')=true:=by
 rw[Array.all_eq_true'];intro v hv;obtain⟨x,_,rfl⟩:=List.mem_map.1 (by simpa[ints] using hv:v∈ints xs);rfl
theorem rE (xs:List Int):(ints xs).toArray.size=xs.length:=by simp[ints]
theorem ft (h:w.heap[g]?=some (.cells (ints xs).toArray t (0,0))) (hi:i<xs.length):
  w.cell? ⟨g,i,none⟩=some (.int .i64 (xs.getD i 0))/\w.frozen? ⟨g,i,none⟩=false:=by
 refine⟨?_,?_⟩
 ·unfold World.cell?;simp only[h];simp[ints,hi]
 ·unfold World.frozen?;simp only[h];simp
theorem mv (h:w.heap[g]?=some (.cells (ints xs).toArray t (0,0))) (i:Nat) (x:Int):
  (w.setCell ⟨g,i,none⟩ (.int .i64 x)).heap[g]?=some (.cells (ints (xs.set i x)).toArray t (0,0)):=by
 rw[bt h];simp[ints]
def zR (a b:Int):Int:=eU [a,b]
def oQ (a b c n:Int):Int:=lr (sE c (eU [a,b])) n
theorem MA (a b:Int):Wd (zR a b):=tY _
theorem xD {c:Int} (n:Int) (hc:Wd c):Wd (oQ a b c n):=Rk _ _ (Mx hc (tY _)).1 (Mx hc (tY _)).2
def lU (a b c d:Int):Int×Int×Int×Int:=
 let a1:=zR a b;let d1:=oQ a b d 16;let c1:=zR c d1;let b1:=oQ c d1 b 12
 let a2:=zR a1 b1;let d2:=oQ a1 b1 d1 8;let c2:=zR c1 d2;let b2:=oQ c1 d2 b1 7
 (a2,b2,c2,d2)
def mY (key nonce:aF) (n:Int):List Int:= [1634760805,857760878,2036477234,1797285236]++gI key false 8++ [n]++gI nonce false 3
def tZ:bx:= #[.int .i64 0,.int .i64 0,.int .i64 0,.int .i64 0,.int .i64 0,.int .i64 0,.int .i64 0,.int .i64 0,.int .i64 0,.int .i64 0,.int .i64 0,.int .i64 0,.int .i64 0,.int .i64 0,.int .i64 0,.int .i64 0]
def FK:List (Nat×Nat×Nat×Nat):= [(0,4,8,12),(1,5,9,13),(2,6,10,14),(3,7,11,15),(0,5,10,15),(1,6,11,12),(2,7,8,13),(3,4,9,14)]
def ZY (p:Nat×Nat×Nat×Nat):bJ:= [.int .i64 (p.1:Nat),.int .i64 (p.2.1:Nat),.int .i64 (p.2.2.1:Nat),.int .i64 (p.2.2.2:Nat)]
def turnsL:bJ:=FK.flatMap ZY
def DA (st:List Int) (p:Nat×Nat×Nat×Nat):List Int:=
 let t:=lU (st.getD p.1 0) (st.getD p.2.1 0) (st.getD p.2.2.1 0) (st.getD p.2.2.2 0)
 (((st.set p.1 t.1).set p.2.1 t.2.1).set p.2.2.1 t.2.2.1).set p.2.2.2 t.2.2.2
def ZZ (p:Nat×Nat×Nat×Nat):Bool:=decide (p.1<16)&&decide (p.2.1<16)&&decide (p.2.2.1<16)&&decide (p.2.2.2<16)&&decide (p.1≠p.2.1)&&decide (p.1≠p.2.2.1)&&decide (p.1≠p.2.2.2)&&decide (p.2.1≠p.2.2.1)&&decide (p.2.1≠p.2.2.2)&&decide (p.2.2.1≠p.2.2.2)
def BE (st:List Int) (j:Nat):List Int:=(FK.take j).foldl DA st
def xE (st:List Int):Nat->List Int
 |0=>st
 |i+1=>BE (xE st i) 8
theorem alZ (st:List Int) (p:Nat×Nat×Nat×Nat):(DA st p).length=st.length:=by simp[DA]
theorem al0 {c d:Int} (ha:Wd a) (hb:Wd b) (hc:Wd c) (hd:Wd d):Wd (lU a b c d).1/\Wd (lU a b c d).2.1/\Wd (lU a b c d).2.2.1/\Wd (lU a b c d).2.2.2:=
 ⟨MA _ _,xD _ (xD _ hb),MA _ _,xD _ (xD _ hd)⟩
theorem ahw (h:P:=by
 have:st.getD i 0=st[i]:=by simp[hi]
 rw[this];exact h _ (dY hi)):P:=h
theorem xF (h: ∀x∈st,Wd x) (i:Nat):Wd (st.getD i 0):=by
 by_cases hi:i<st.length
 ·exact ahw
 ·have:st.getD i 0=0:=by simp[Nat.not_lt.1 hi]
  rw[this];exact⟨ae,ae⟩
theorem MB (h: ∀x∈st,Wd x) (i:Nat) {y:Int} (hy:Wd y): ∀x∈st.set i y,Wd x:=by
 intro x hx;rcases List.mem_or_eq_of_mem_set hx with h1|h1
 ·exact h x h1
 ·exact h1▸hy
theorem al3 (h: ∀x∈st,Wd x) (p:Nat×Nat×Nat×Nat): ∀x∈DA st p,Wd x:=by
 obtain⟨h1,h2,h3,h4⟩:=al0 (xF h p.1) (xF h p.2.1) (xF h p.2.2.1) (xF h p.2.2.2);exact MB (MB (MB (MB h _ h1) _ h2) _ h3) _ h4
def DB (st:List Int):Prop:=st.length=16/\ ∀x∈st,Wd x
theorem Rq: ∀(l:List (Nat×Nat×Nat×Nat)) {st:List Int},DB st->DB (l.foldl DA st)
 | [],_,h=>h
 |p::l,st,h=>Rq l ⟨(alZ st p).trans h.1,al3 h.2 p⟩
theorem al4 (st:List Int) {j:Nat} {p:Nat×Nat×Nat×Nat} (h:FK[j]?=some p):BE st (j+1)=DA (BE st j) p:=by
 have hj:j<FK.length:=(List.getElem?_eq_some_iff.1 h).1;have e:FK[j]=p:=(List.getElem?_eq_some_iff.1 h).2;rw[BE,List.take_succ_eq_append_getElem hj,List.foldl_append,e];rfl
theorem Z0 {st:List Int} (h:DB st): ∀i,DB (xE st i)
 |0=>h
 |i+1=>Rq _ (Z0 h i)
theorem agK (h:P:=by
 intro x hx;obtain⟨j,_,rfl⟩:=List.mem_map.1 hx;have:=Mw s dZ s.length j;exact⟨ae,ae⟩):P:=h
theorem Z1 (s:aF) (dZ:Bool) (n:Nat): ∀x∈gI s dZ n,Wd x:=by
 exact agK
theorem al5 (key nonce:aF) (n:Int) (hn:Wd n):DB (mY key nonce n):=by
 refine⟨by simp[mY,gI],λx hx=>?_⟩;simp only[mY,List.mem_append,List.mem_cons,List.not_mem_nil,or_false]at hx;rcases hx with ((h|h)|h)|h
 ·rcases h with h|h|h|h<;>subst h<;>exact⟨ae,ae⟩
 ·exact Z1 _ _ _ x h
 ·exact h▸hn
 ·exact Z1 _ _ _ x h
def mZ (fin st:List Int) (i:Nat):List Int:=(List.range 16).map λj=>if j<i then eU [fin.getD j 0,st.getD j 0] else fin.getD j 0
theorem DC (fin st:List Int) (i:Nat):(mZ fin st i).length=16:=by simp[mZ]
theorem al6 (fin st:List Int) (h:fin.length=16):mZ fin st 0=fin:=by
 apply List.ext_getElem
 ·simp[mZ,h]
 ·intro j h1 h2;simp[mZ,h2]
theorem al7 (fin st:List Int) (i:Nat) (h:i<16):(mZ fin st i).getD i 0=fin.getD i 0:=by
 simp[mZ,h]
theorem al8 (fin st:List Int) (i:Nat) (h:i<16):(mZ fin st i).set i (eU [fin.getD i 0,st.getD i 0])=mZ fin st (i+1):=by
 apply List.ext_getElem
 ·simp[mZ]
 ·intro j h1 h2;rw[List.getElem_set];simp only[mZ,List.getElem_map,List.getElem_range];exact OD
def lV (key nonce:aF) (n:Int):aF:=lu (mZ (xE (mY key nonce n) 10) (mY key nonce n) 16) false
def oR (xs:List Int):Int:=xs.foldl sE 0
theorem al9 (ha:Wd a) (hb:Wd b):Wd (sE a b):=Mx ha hb
theorem xG (ha:Wd a) (hb:Wd b):Wd (vo a b):=by
 have h1:=ha.1;have h2:=ha.2;have:a.toNat&&&b.toNat<=a.toNat:=Nat.and_le_left;unfold vo Wd;omega
theorem mw {x:Int} (n:Int) (hx:Wd x):Wd (lr x n):=Rk _ _ hx.1 hx.2
theorem MC:Wd 0:=⟨ae,ae⟩
theorem Z2: ∀(xs:List Int) (a:Int),Wd a->(∀x∈xs,Wd x)->Wd (xs.foldl sE a)
 | [],_,ha,_=>ha
 |x::xs,a,ha,h=>Z2 xs _ (al9 ha (h x ak)) λy hy=>h y (by simp[hy])
theorem DD (h: ∀x∈xs,Wd x):Wd (oR xs):=Z2 xs 0 MC h
theorem al' (h:ez xs=true): ∀x∈xs,Wd x:=by
 intro x hx;have:=List.all_eq_true.1 h x hx;simpa[fW,Wd] using this
theorem Je (h: ∀x∈xs,Wd x):ez xs=true:=by
 rw[ez,List.all_eq_true];intro x hx;have:=h x hx;unfold Wd at this;simp[fW,this]
theorem Rr {c:Int} (ha:Wd a) (hb:Wd b) (hc:Wd c):ez [a,b,c]=true:=Je (by simp;exact⟨ha,hb,hc⟩)
theorem wd4 {c d:Int} (ha:Wd a) (hb:Wd b) (hc:Wd c) (hd:Wd d):ez [a,b,c,d]=true:=Je (by simp;exact⟨ha,hb,hc,hd⟩)
theorem wd5 {c d:Int} (ha:Wd a) (hb:Wd b) (hc:Wd c) (hd:Wd d) (he:Wd e):ez [a,b,c,d,e]=true:=Je (by simp;exact⟨ha,hb,hc,hd,he⟩)
def BF (x n:Int):Int:=x / 2^n.toNat
theorem Jf {x:Int} (n:Int) (hx:Wd x):Wd (BF x n):=by
 obtain⟨h0,h1⟩:=hx;obtain⟨y,rfl⟩:=Int.eq_ofNat_of_zero_le h0;have e:BF (y:Int) n=((y / 2^n.toNat:Nat):Int):=by simp[BF]
 have:y / 2^n.toNat<=y:=Nat.div_le_self _ _;rw[e];exact⟨Int.natCast_nonneg _,ae⟩
def FL (p:Int):Int:=oR [lr p 25,lr p 14,BF p 3]
def FM (q:Int):Int:=oR [lr q 15,lr q 13,BF q 10]
def Z4 (l:List Int) (i:Nat):Int:=eU [l.getD (i - 16) 0,FL (l.getD (i - 15) 0),l.getD (i - 7) 0,FM (l.getD (i - 2) 0)]
def jl (l:List Int):Nat->List Int
 |0=>l++List.replicate 48 0
 |k+1=>(jl l k).set (16+k) (Z4 (jl l k) (16+k))
theorem Jg (l:List Int) (h:l.length=16): ∀k,(jl l k).length=64
 |0=>by simp[jl,h]
 |k+1=>by simp[jl,Jg l h k]
theorem zT (h: ∀x∈st,Wd x) (i:Nat):Wd (st.getD i 0):=by
 by_cases hi:i<st.length
 ·exact ahw
 ·have:st.getD i 0=0:=by simp[Nat.not_lt.1 hi]
  rw[this];exact MC
theorem amc {p:Int} (h:Wd p):Wd (FL p):=DD (by simp;exact⟨mw _ h,mw _ h,Jf _ h⟩)
theorem amd {p:Int} (h:Wd p):Wd (FM p):=DD (by simp;exact⟨mw _ h,mw _ h,Jf _ h⟩)
theorem Rs (l:List Int) (h: ∀x∈l,Wd x): ∀k,∀x∈jl l k,Wd x
 |0,x,hx=>by
  rcases List.mem_append.1 hx with h1|h1
  ·exact h x h1
  ·rw[(List.mem_replicate.1 h1).2];exact MC
 |k+1,x,hx=>by
  rcases List.mem_or_eq_of_mem_set hx with h1|h1
  ·exact Rs l h k x h1
  ·rw[h1];exact tY _
theorem Z6 (s:aF) (dZ:Bool) (n:Nat): ∀x∈gI s dZ n,Wd x:=by
 exact agK
theorem aJ (h:W.heap[g]?=some o) (hb:aD W w'):w'.heap[g]?=some o:=(hb.block g (bf h)).trans h
theorem i6 {v:Value} (h:W.cell? p=some u/\W.cell? q=some v) (hb:aD W w'):w'.cell? p=some u/\w'.cell? q=some v:=
 ⟨(hb.cell (cU h.1)).trans h.1,(hb.cell (cU h.2)).trans h.2⟩
theorem t8 {v:Value} (h:W.cell? p=some u/\W.cell? q=some v):(W.alloc o).cell? p=some u/\(W.alloc o).cell? q=some v:=
 i6 h ((aI _ _).alloc (aM _) _)
theorem ip {r:Addr} {x v:Value} (h:W.cell? p=some u/\W.cell? q=some v) (hp:r≠p) (hq:r≠q):(W.setCell r x).cell? p=some u/\(W.setCell r x).cell? q=some v:=
 ⟨(World.cell?_setCell_other _ _ _ _ hp).trans h.1,(World.cell?_setCell_other _ _ _ _ hq).trans h.2⟩
theorem aT (h:Hid (W.heap[g]?=some o)) (hb:aD W w'):Hid (w'.heap[g]?=some o):=aa (aJ h hb)
theorem MD (h:Hid (W.heap[g]?=some o)) (hb:Below (W.alloc o2).heap.size (W.alloc o2) w'):Hid (w'.heap[g]?=some o):=
 aT (aa ((Below.heap_alloc _ _ _ (bf h)).trans h)) hb
theorem ame (Vx Mn:Nat) (bK:bx) (xs:List Int) (hS:w.heap[S]?=some (.cells bK t (0,0))) (Wi: ∀j v,(ints xs)[j]?=some v->w.cell? ((⟨g,0,none⟩:Addr).add j)=some v) (lP:xs.length<=bK.size) (hn:n=xs.length) (hd:n<=Vx):
  ∃w',(Builtin.copy_ #[55,55] 3 #[.slice (aw S) Vx Mn,.slice (aw g) n n]).run prog w= .ok (.int .i64 n) w'/\
   w'.heap[S]?=some (.cells (ints xs++bK.toList.drop xs.length).toArray t (0,0))/\w.grownBy w' (some S):=by
 subst hn;have hl:(ints xs).length=xs.length:=by simp[ints]
 have h:=run_copy_row (P:=prog) w 55 55 3 3 S 0 Vx Mn ⟨g,0,none⟩ xs.length xs.length bK t (ints xs) underlying55 ax hS (by rw[hl];exact (Nat.min_eq_left hd).symm) Wi (by rw[hl];omega) (by
  intro v hv;obtain⟨x,_,rfl⟩:=List.mem_map.1 hv;rfl)
 rw[hl]at h;refine⟨_,h,?_,⟨rfl,rfl,rfl,ak,λi hi aO=>setRow_other w S i _ (λe=>aO (by rw[e]))⟩⟩;rw[setRow_heap w S bK _ t (0,0) hS];simp
theorem vt {P:Program} {a:Tmp} (h:fn.results= #[.cell a ty]) (tmps:bx) (w:World) (g:Nat) (ha:tmps.getD a undef= .pointer (aw g)) (v:Value) (hl:(loadVar ty ⟨g,0,none⟩).run P w= .ok v w):(results fn tmps).run P w= .ok v w:=by
 exact OL
theorem Z7 (h:Below (w.alloc o).heap.size (w.alloc o) w1) (hg:w.heap.size=g):w1.heap[g]?=some o:=hg▸vq h
def DE:bx:=(List.replicate 64 (Value.int .i64 0)).toArray
theorem ahi (h:P:=by
 rcases lN.2 with⟨hv,_⟩|⟨g1,lH,bK,hv,hb,_⟩
 ·rw[hv]at e;cases e
 ·rw[hv]at e;injection e with e
  simp only at e;omega):P:=h
theorem oS {P:Program} {o:Oper} {a:Act} (lM:o.guard=none) (s x:Operand) (t:TypeId) (ho:o.op= .call {callee:= .builtin .append,args:= #[s,x],argTypes:= #[t,t]}) (B:Nat) (e:TypeId) (z:Value) (size bytes:Nat) (ht:P.underlying t=some (.slice e)) (hi:(P.info? e).map (λi=>(i.zero,i.size,i.bytes))=some (some z,size,bytes)) (nQ:z.cells.size=size) (cg:0<size) (w0:World) (news:bx) (tb:TypeId) (v:Value) (n:Nat) (xs:bJ) (hs:a.eval s=v) (lN:w0.ownsRow B e size v n xs) (g0 m c:Nat) (hx:a.eval x= .slice (aw g0) m c) (AT:w0.heap.size=g0) (hl:news.size=m*size) (h1:news.toList.all (·.oneCell')=true) (hm:0<m) (h63:n+m<=1000000000) (hbytes:bytes<=1000) (hB:B<=w0.heap.size) (h: ∀g ai w',w'.ownsRow B e size (.slice (aw g) (n+m) ai) (n+m) (xs++news.toList)->Below B w0 w'->(∀k,k<w0.heap.size->some k≠v.ownBlock->w'.heap[k]?=w0.heap[k]?)->(v.ownBlock=some g\/w0.heap.size<g)->g<w'.heap.size->wpList P bk Q rest (a.put o.dst (.slice (aw g) (n+m) ai)) w'):
  wpList P bk Q (o::rest) a (w0.alloc (.cells news tb)):=by
 subst AT;obtain⟨i,yQ,AS,sA,CB⟩:=info_parts hi;have Fv:(w0.alloc (.cells news tb)).ownsRow B e size v n xs:=lN.alloc _;refine wpList_append_lies (w0.alloc (.cells news tb)) lM s x t ho B e i z size bytes ht yQ AS sA CB nQ cg v n xs hs Fv ⟨w0.heap.size,0,none⟩ m c news.toList hx (by simpa using hl) (World.news_of_block (aR w0 _)) (λu hu=>List.all_eq_true.1 h1 u hu) hm (by unfold maxLen;omega) (by
  have:(n+m)*bytes<=1000000000*1000:=Nat.mul_le_mul h63 hbytes;omega) (by simp;omega) _ rfl ?_
 intro g ai w' ho hg xw aK;have lO: ∀k,k<w0.heap.size->some k≠v.ownBlock->w'.heap[k]?=w0.heap[k]?:=λk hk aO=>(hg.block k (by simp;omega) aO).trans (Below.heap_alloc _ _ _ hk);refine h g ai w' ho ⟨hg.os,hg.tape,hg.output,?_,λk hk=>lO k ae (λe=>?_)⟩ lO ?_ aK
 ·have:=hg.size;simp at this;omega
 ·exact ahi
 ·rcases xw with h|h
  ·exact .inl h
  ·right;simp at h;omega
theorem agC (h:P:=by
 injection hA with hA
 subst hA;have e:(⟨b,aS,none⟩:Addr).add j=⟨b,aS+j,none⟩:=by
  unfold Addr.add;split
  ·rename_i h;subst h;rfl
  ·rfl
 rw[e,hc]):P:=h
theorem amf {P:Program} {o:Oper} {a:Act} (lM:o.guard=none) (s x:Operand) (t:TypeId) (ho:o.op= .call {callee:= .builtin .append,args:= #[s,x],argTypes:= #[t,t]}) (B:Nat) (e:TypeId) (z:Value) (size bytes:Nat) (ht:P.underlying t=some (.slice e)) (hi:(P.info? e).map (λi=>(i.zero,i.size,i.bytes))=some (some z,size,bytes)) (nQ:z.cells.size=size) (cg:0<size) (w0:World) (news:bJ) (v:Value) (n:Nat) (xs:bJ) (hs:a.eval s=v) (lN:w0.ownsRow B e size v n xs) (ad:Addr) (m c:Nat) (hx:a.eval x= .slice (some ad) m c) (wY:Rd w0 (some ad) news) (hl:news.length=m*size) (h1: ∀u∈news,u.oneCell'=true) (hm:0<m) (h63:n+m<=1000000000) (hbytes:bytes<=1000) (hB:B<=w0.heap.size) (h: ∀g ai w',w'.ownsRow B e size (.slice (aw g) (n+m) ai) (n+m) (xs++news)->Below B w0 w'->(∀k,k<w0.heap.size->some k≠v.ownBlock->w'.heap[k]?=w0.heap[k]?)->(v.ownBlock=some g\/w0.heap.size<=g)->g<w'.heap.size->wpList P bk Q rest (a.put o.dst (.slice (aw g) (n+m) ai)) w'):
  wpList P bk Q (o::rest) a w0:=by
 obtain⟨i,yQ,AS,sA,CB⟩:=info_parts hi;refine wpList_append_lies w0 lM s x t ho B e i z size bytes ht yQ AS sA CB nQ cg v n xs hs lN ad m c news hx hl (λj u hu=>?_) h1 hm (by unfold maxLen;omega) (by
  have:(n+m)*bytes<=1000000000*1000:=Nat.mul_le_mul h63 hbytes;omega) hB _ rfl ?_
 ·obtain⟨b,aS,hA,hc⟩:=wY j u hu;exact agC
 ·intro g ai w' ho hg xw aK;have lO: ∀k,k<w0.heap.size->some k≠v.ownBlock->w'.heap[k]?=w0.heap[k]?:=λk hk aO=>hg.block k hk aO;refine h g ai w' ho ⟨hg.os,hg.tape,hg.output,hg.size,λk hk=>lO k ae (λe=>?_)⟩ lO ?_ aK
  ·exact ahi
  ·rcases xw with h|h
   ·exact .inl h
   ·right;omega
theorem eO {e:TypeId} {size:Nat} {v:Value} {xs:bJ} (h:w.ownsRow B e size v n xs) (hb:aD w w'):w'.ownsRow B e size v n xs:=by
 refine⟨h.1,?_⟩;rcases h.2 with h|⟨g,ai,bK,hv,hB,hg,hr⟩
 ·exact .inl h
 ·exact .inr ⟨g,ai,bK,hv,hB,aJ hg hb,hr⟩
theorem gz {e:TypeId} {size:Nat} {ai:Nat} {xs:bJ} (h:w.ownsRow B e size (.slice A m ai) n xs):Rd w A xs:=by
 rcases h.2 with⟨hv,hn⟩|⟨g,ai,bK,hv,hB,hg,gu,fi,vn,hc4⟩
 ·have:xs= []:=List.eq_nil_of_length_eq_zero (by rw[h.1,hn,Nat.zero_mul]);subst this;exact Rd.nil _ _
 ·injection hv with hA _ _
  subst hA;intro i u hu;refine⟨g,0,rfl,?_⟩;rw[Nat.zero_add];unfold World.cell?;simp only[hg];have hi:i<xs.length:=by
   rcases mg i xs.length with h|h
   ·exact h
   ·rw[Cx h]at hu;cases hu
  have qm:i<n*size:=by rw[<-h.1];exact hi
  have:bK.toList[i]?=some u:=by
   rw[<-hc4,List.getElem?_take_of_lt qm]at hu;exact hu
  rw[Array.getElem?_toList]at this;exact oC
theorem ME {e:TypeId} {size:Nat} (hB:B<=w.heap.size) (hs:cs.size=n*size) (hn:n<=maxLen):(w.alloc (.cells cs e)).ownsRow B e size (.slice (some ⟨w.heap.size,0,none⟩) n n) n cs.toList:=by
 refine⟨by simpa using hs,.inr ⟨w.heap.size,n,cs,rfl,hB,aR w _,aM _,hn,hs,?_⟩⟩;rw[List.take_of_length_le (by simp;omega)]
def dK (l:aF):bJ:=l.map λx=>Value.int .u8 x.toNat
theorem Jh (l:aF):(dK l).length=l.length:=by simp[dK]
theorem amg (l:aF):(dK l).all (·.oneCell')=true:=by
 rw[List.all_eq_true];intro u hu;obtain⟨x,_,rfl⟩:=List.mem_map.1 hu;rfl
theorem Rt:(prog.info? 5).map (λi=>(i.zero,i.size,i.bytes))=some (some (.int .u8 0),1,1):=ax
theorem DF {A:Addr} {l:aF} (h:Rd w (some A) (dK l)) (ai n:Nat) (hn:n=l.length):(convert 34 9 (.slice (some A) n ai)).run prog w= .ok (.string (bs l)) w:=by
 subst hn;refine run_convert_bytes_back (P:=prog) w 34 9 5 A ai l underlying34 underlying5 underlying9 λj hj=>?_;obtain⟨b,aS,hA,hc⟩:=h j (.int .u8 (l[j]).toNat) (by simp[dK,hj]);exact agC
def Z8:Value->Nat
 | .slice _ n _=>n
 |_=>0
theorem sG (r:ag):r.toList= []↔r.size=0:=by rw[ByteArray.toList_eq,List.eq_nil_iff_length_eq_zero,bP]
theorem toList_some (r:ag) (h:r.size≠0):r.toList.isEmpty=false:=by
 rw[<-Bool.not_eq_true,List.isEmpty_iff,sG];exact h
theorem zU {t:ag} (h: ¬s=t):(s.toList==t.toList)=false:=by
 rw[ByteArray.toList_eq,ByteArray.toList_eq];refine beq_eq_false_iff_ne.2 λe=>h ?_;apply ByteArray.ext;apply Array.ext';exact e
theorem aV {a b:Value} (h:w.heap[g]?=some (.cells #[a,b] t (0,0))):
  w.cell? ⟨g,0,none⟩=some a/\w.cell? ⟨g,1,none⟩=some b/\w.frozen? ⟨g,0,none⟩=false/\w.frozen? ⟨g,1,none⟩=false:=by
 refine⟨?_,?_,?_,?_⟩
 ·exact Ez
 ·exact Ez
 ·exact OP
 ·exact OP
theorem eA {a b:Value} (h:w.heap[g]?=some (.cells #[a,b] t (0,0))) (x y:Value):
  ((w.setCell ⟨g,0,none⟩ x).setCell ⟨g,1,none⟩ y).heap[g]?=some (.cells #[x,y] t (0,0)):=by
 have:=bt (bt h 0 x) 1 y;exact this
theorem dL (h:Below B w0 w) (hB:B<=g) (x y:Value):Below B w0 ((w.setCell ⟨g,0,none⟩ x).setCell ⟨g,1,none⟩ y):=
 (h.setCell (p:=⟨g,0,none⟩) hB x).setCell (p:=⟨g,1,none⟩) hB y
def MF:Value->Nat
 | .string s=>s.size
 |_=>0
theorem Z9 (h: ¬s.size=0): ¬s.toList= []:=by
 intro e;rw[ByteArray.toList_eq]at e;exact h (by have:=congrArg List.length e;exact this)
def nc (w:World) (g:Nat) (l:aF):Prop:= ∀i,i<l.length->w.cell? ⟨g,i,none⟩=some (.int .u8 ((l.getD i 0).toNat:Nat))/\w.frozen? ⟨g,i,none⟩=false
theorem nc.below {l:aF} (h:nc w g l) (hb:aD w w'):nc w' g l:=λi hi=>by
 have aK:=cU (h i hi).1;exact⟨(hb.cell aK).trans (h i hi).1,(hb.frozen aK).trans (h i hi).2⟩
theorem nc.set {l:aF} (h:nc w g l) (k:Nat) (u:UInt8):nc (w.setCell ⟨g,k,none⟩ (.int .u8 (u.toNat:Nat))) g (l.set k u):=by
 intro i hi;rw[List.length_set]at hi;obtain⟨h1,h2⟩:=h i hi;refine⟨?_,?_⟩
 ·by_cases e:i=k
  ·subst e;rw[World.cell?_setCell_same _ _ _ h1];simp[hi]
  ·rw[World.cell?_setCell_other _ _ _ _ (by intro e2;injection e2 with _ e3;exact e e3.symm),h1];have e': ¬k=i:=λx=>e x.symm;have:(l.set k u).getD i 0=l.getD i 0:=by simp[e']
   rw[this]
 ·rw[World.frozen?_setCell];exact h2
theorem nc.drew {l:aF} (h:nc w g l):nc w.drew g l:=h
theorem Ru (w:World) (s:ag) (ai:Nat) (t:TypeId) (fr:Nat×Nat) (VG:s.size<=fr.1):nc (w.alloc (.cells (bytesRow s ai) t fr)) w.heap.size s.data.toList:=by
 have h:(w.alloc (.cells (bytesRow s ai) t fr)).heap[w.heap.size]?=some (.cells (bytesRow s ai) t fr):=aR w _;intro i hi;have qm:i<s.size:=hi;refine⟨?_,?_⟩
 ·unfold World.cell?;simp only[h];have:(bytesRow s ai)[i]?=some (.int .u8 ((s.data.toList.getD i 0).toNat:Nat)):=by
   unfold bytesRow;rw[Array.getElem?_append_left (by simpa using qm)];simp[qm]
  exact oC
 ·unfold World.frozen?;simp only[h];simp;omega
theorem Ji {l:aF} (h:nc w g l) (ai n:Nat) (hn:n=l.length):(convert 34 9 (.slice (aw g) n ai)).run prog w= .ok (.string (bs l)) w:=by
 subst hn;refine run_convert_bytes_back (P:=prog) w 34 9 5 ⟨g,0,none⟩ ai l underlying34 underlying5 underlying9 λj hj=>?_;have e:(⟨g,0,none⟩:Addr).add j=⟨g,j,none⟩:=by
  exact Vp
 rw[e,(h j hj).1];simp[hj]
theorem aaa (a b:UInt8):bits .xor .u8 (a.toNat:Int) (b.toNat:Int)=(((a^^^b).toNat:Nat):Int):=by
 have h1:=a.toNat_lt;have h2:=b.toNat_lt;have hx:a.toNat^^^b.toNat<2^8:=Nat.xor_lt_two_pow ae ae;have e: ∀x:Nat,x<256->(BitVec.ofInt 8 (x:Int)).toNat=x:=λx hx=>by
  rw[BitVec.ofInt_natCast,BitVec.toNat_ofNat];exact Nat.mod_eq_of_lt hx
 show IntKind.u8.wrap ((BitVec.ofInt 8 (a.toNat:Int)^^^BitVec.ofInt 8 (b.toNat:Int)).toNat:Int)=_;rw[BitVec.toNat_xor,e _ h1,e _ h2,IntKind.wrap_u8,UInt8.toNat_xor];omega
theorem MG (w:World) (s:ag) (g:Nat) (hg:w.heap.size=g): ∃ai w',(convert 9 34 (.string s)).run prog w= .ok (.slice (aw g) s.size ai) w'/\nc w' g s.data.toList/\aD w w'/\w'.heap.size=w.heap.size+1:=by
 subst hg;have il:=run_bytes_of_string (P:=prog) w 9 34 5 s underlying9 underlying34 underlying5;exact⟨_,_,il,Ru w.drew s _ _ _ (by simp[bytesRow]),(aI w.heap.size w).drew.alloc (w:=w.drew) (aM _) _,ak⟩
def aZ (l:List ag):bJ:=l.map Value.string
theorem BG (l m:List ag):aZ (l++m)=aZ l++aZ m:=by simp[aZ]
theorem mx:(prog.info? 9).map (λi=>(i.zero,i.size,i.bytes))=some (some (.string ⟨#[]⟩),1,16):=ax
theorem kG {l:List ag} (h:Rd w A (aZ l)) (hi:i<l.length): ∃b aS,A=some ⟨b,aS,none⟩/\w.cell? ⟨b,aS+i,none⟩=some (.string l[i]):=h i (.string l[i]) (by simp[aZ,hi])
theorem FO (A:aN) (n c:Nat) (xs:List Int) (w:World) (h:Rd w A (ints xs)) (hn:n=xs.length) (hl:xs.length<=9223372036854775807):
  Calls prog 231 #[.slice A n c] w λe w'=>e= .returned (.bool (ez xs))/\w=w':=by
 subst hn;have H:=aa h;go_in;go_wp2;go_loop [4,7] (λx i=> ∃k:Nat,k<=xs.length/\i= .int .i64 k/\ez (xs.take k)=true) (λ_ i=>xs.length -(intOf i).toNat);case atStart=>exact⟨0,Nat.zero_le _,rfl,rfl⟩
 case round=>
  obtain⟨k,hk,rfl,hw⟩:=hrel;have Hw:=aa hw;by_cases aK:k<xs.length
  ·obtain⟨b,aS,rfl,hc⟩:=H.int_at aK;have Hs:=aa (alP xs k aK);have Hf:=aa (alQ xs k aK);generalize xs.getD k 0=x at hc Hs Hf;by_cases h0:0<=x
   ·by_cases h1:x<=4294967295
    ·have Hx:=aa (show fW x=true by simp[fW,h0,h1]);go_wp2;go_round;case rel=>exact⟨k+1,ae,by go_num,by rw[Hs.out,Hw.out,Hx.out];rfl⟩
     case measure=>exact cM
    ·have Hx:=aa (show fW x=false by simp[fW,h1]);go_wp2;go_ret;exact⟨zO (Hf Hx).symm,rfl⟩
   ·have Hx:=aa (show fW x=false by simp[fW,h0]);go_wp2;go_ret;exact⟨zO (Hf Hx).symm,rfl⟩
  ·go_wp2;go_ret;exact⟨zO (by rw[<-Hw.out,List.take_of_length_le ae]),rfl⟩
theorem agY (h:P:=by
 have H:=aa h;go_in;go_wp2_with fail;refine (FO _ _ _ [a,b] _ (qC w _ _) rfl ak).mono ?_;rintro e w' ⟨rfl,rfl⟩;rw[H.out];go_wp2;go_ret2;exact⟨rfl,(aI _ _).alloc (aM _) _⟩):P:=h
theorem aad (a b:Int) (w:World) (h:ez [a,b]=true):
  Calls prog 293 #[.int .i64 a,.int .i64 b] w (bF w (.tuple #[.int .i64 (sE a b),.bool true])):=by
 have hx:=ZQ a b h;exact agY
theorem amw (a b:Int) (w:World) (h:ez [a,b]=true):
  Calls prog 295 #[.int .i64 a,.int .i64 b] w (bF w (.tuple #[.int .i64 (vo a b),.bool true])):=by
 have hx:=alR a b h;exact agY
theorem Rx (A:aN) (n c:Nat) (xs:List Int) (w:World) (h:Rd w A (ints xs)) (hn:n=xs.length) (hl:xs.length<=9223372036854775807) (hw:ez xs=true):
  Calls prog 246 #[.slice A n c] w λe w'=>e= .returned (.tuple #[.int .i64 (eU xs),.bool true])/\w=w':=by
 subst hn;have H:=aa h;have HW:=aa hw;go_in;go_wp2_with fail;refine (FO _ _ _ xs _ H rfl hl).mono ?_;rintro e w' ⟨rfl,rfl⟩;rw[HW.out];go_wp2_with fail;go_loop [4,6,12] (λs x i=> ∃k:Nat,k<=xs.length/\i= .int .i64 k/\s= .int .i64 (eU (xs.take k))) (λ_ _ i=>xs.length -(intOf i).toNat);case atStart=>exact⟨0,Nat.zero_le _,rfl,rfl⟩
 case round=>
  obtain⟨k,hk,rfl,rfl⟩:=hrel;by_cases aK:k<xs.length
  ·obtain⟨b,aS,rfl,hc⟩:=H.int_at aK;have Hs:=aa (alT xs k aK);have hr:=ZR (xs.take k);have hx:=Rj HW aK;generalize xs.getD k 0=x at hc Hs hx;generalize eU (xs.take k)=y at Hs hr;have ha:=alS (y+x) ae ae;go_wp2;go_round;case rel=>exact⟨k+1,ae,by go_num,by rw[Hs.out]⟩
   case measure=>exact cM
  ·have He:=aa (show xs.take k=xs from List.take_of_length_le ae);go_wp2;go_ret2;exact⟨by rw[He.out];rfl,rfl⟩
theorem amx (x n:Int) (w:World) (zK:0<=x) (wF:x<=4294967295) (qv:0<=n) (fL:n<=32):
  Calls prog 333 #[.int .u32 x,.int .i64 n] w λe w'=>e= .returned (.int .u32 (lr x n))/\w=w':=by
 obtain⟨x,rfl⟩:=Int.eq_ofNat_of_zero_le zK;obtain⟨n,rfl⟩:=Int.eq_ofNat_of_zero_le qv;have Hr:=aa (show lr x n=(((x<<<(n % 32))% 4294967296|||x>>>(32 - n % 32):Nat):Int) from by simp[lr]);have ha:=alU n ae;have hs:n % 32<32:=ae;generalize n % 32=s at*;go_in;go_wp2;go_ret;refine⟨Dw ?_,rfl⟩;rw[Hr.out];have h2:x>>>(32 - s)<4294967296:=by
  have:=Nat.shiftRight_le x (32 - s);omega
 rw[<-alV _ _ ae h2,Nat.shiftLeft_eq,Nat.shiftRight_eq_div_pow];simp
theorem aae (x n:Int) (w:World) (hx:ez [x]=true) (qv:0<=n) (fL:n<=32):
  Calls prog 294 #[.int .i64 x,.int .i64 n] w (bF w (.tuple #[.int .i64 (lr x n),.bool true])):=by
 have hr:0<=x/\x<=4294967295:=by simpa[ez,fW] using hx
 have hb:0<=lr x n/\lr x n<=4294967295:=Rk x n hr.1 hr.2;have H:=aa hx;go_in;go_wp2_with fail;refine (FO _ _ _ [x] _ (qC w _ _) rfl ak).mono ?_;rintro e w' ⟨rfl,rfl⟩;rw[H.out];go_wp2_with fail;refine (amx _ _ _ ae ae ae ae).mono ?_;rintro e w' ⟨rfl,rfl⟩;go_wp2;go_ret2;exact⟨rfl,(aI _ _).alloc (aM _) _⟩
theorem FP (A:aN) (n c:Nat) (xs:List Int) (w:World) (h:Rd w A (ints xs)) (hn:n=xs.length) (hl:xs.length<=9223372036854775807):
  Calls prog 231 #[.slice A n c] w (bF w (.bool (ez xs))):=
 (FO A n c xs w h hn hl).mono λ_ _ h=>⟨h.1,Mv h.2⟩
theorem amy (A:aN) (n c:Nat) (xs:List Int) (w:World) (h:Rd w A (ints xs)) (hn:n=xs.length) (hl:xs.length<=9223372036854775807) (hw:ez xs=true):
  Calls prog 246 #[.slice A n c] w (bF w (.tuple #[.int .i64 (eU xs),.bool true])):=
 (Rx A n c xs w h hn hl hw).mono λ_ _ h=>⟨h.1,Mv h.2⟩
theorem aaf (w:World):
  Calls prog 232 #[.bool true] w λe w'=>e= .returned (.func (.func 290) #[] #[])/\w=w':=by
 exact jt
theorem aag (i:Nat) (w:World) (hi:i<4):
  Calls prog 290 #[.int .i64 i] w (eu w (.int .i64 (lT true i:Nat))):=by
 go_in;go_wp2;go_ret;exact⟨Dw (by simp[lT];omega),rfl⟩
theorem aah (w:World):
  Calls prog 232 #[.bool false] w λe w'=>e= .returned (.func (.func 291) #[] #[])/\w=w':=by
 exact jt
theorem aai (i:Nat) (w:World) (hi:i<4):
  Calls prog 291 #[.int .i64 i] w (eu w (.int .i64 (lT false i:Nat))):=by
 go_in;go_wp2;go_ret;exact⟨Dw (by simp[lT]),rfl⟩
set_option maxRecDepth 100000 in
theorem ahk (h:P:=by
 have Do:k=s.size:=ae;have mm:=aa bH;have tI:=aa cP;have Hke:=aa Do;clear bH cP Do;go_wp2;go_ret2;refine⟨w.heap.size,by rw[VZ.out];rfl,aM _,?_,tI⟩;rw[VZ.out];have:=mm.out;rw[Hke.out]at this;exact this):P:=h
theorem ayQ (h:P:=by
 refine⟨k+1,ae,by go_num,?_,(tI.setCell (aM _) _).drew⟩;refine ((mm.set q _).drew).congr λj _=>?_;by_cases hj:j=q
 ·rw[if_pos hj,hj,Hv.out]
 ·rw[if_neg hj,fG,if_neg (by rw[<-O9.out];exact λe=>hj e.symm)]):P:=h
theorem agQ (h:P:=by
 refine⟨0,Nat.zero_le _,rfl,?_,(aI _ _).alloc (aM _) _⟩;exact World.rowIs_made _ _ _ _):P:=h
theorem agl (h:P:=by
 rw[IntWalk.i64_in (s[k].toNat:Int) ae,alW _ _ eX,ZP _ _ ha (Rn _ _ eX)]):P:=h
theorem ag2 (h:P:=by
 change wpList _ _ _ _ _ wr.drew;go_wp2;go_roundw;case rel=>
  exact ayQ
 case measure=>exact cM):P:=h
theorem Jj (s:ag) (w:World) (h4:s.size % 4=0) (hs:s.size<=1000000):
  Calls prog 253 #[.string s,.bool true] w (ZS s.data.toList true w):=by
 obtain⟨n,hn⟩: ∃n,s.size=4*n:=⟨s.size / 4,ae⟩
 have hl:s.data.toList.length=4*n:=hn;have CC:s.data.toList.length / 4=n:=ae;have hq:(s.size:Int)/ 4=(n:Int):=ae;have hq0:(s.size:Int)% 4=0:=ae;have nK:n<=250000:=ae;have j6:=λW=>run_make_row' (P:=prog) 55 3 (.int .i64 0) 8 underlying55 rD rfl .i64 .i64 n ae ae W;have Hn:=aa hn;have VZ:=aa CC;clear hn hl CC;go_in;go_wp2_with fail;refine (aaf _).mono ?_;rintro e w' ⟨rfl,rfl⟩;go_wp2_with fail;go_loopw [8,21] (λ_ i wr=> ∃k:Nat,k<=s.size/\i= .int .i64 k/\wr.rowIs w.heap.size 3 n (λj=> .int .i64 (fG s.data.toList true k j:Nat))/\aD w wr) (λ_ i _=>s.size -(intOf i).toNat);case atStart=>
  exact agQ
 case round=>
  obtain⟨k,hk,rfl,bH,cP⟩:=hrel;by_cases aK:k<s.size
  ·have hc:=bH.cell (i:=k / 4) (by have:=Hn.out;omega);have hf:=bH.frozen (k / 4);have mm:=aa bH;have tI:=aa cP;obtain⟨q,pA⟩: ∃q,q=k / 4:=⟨_,rfl⟩
   obtain⟨r,mj⟩: ∃r,r=k % 4:=⟨_,rfl⟩
   have E4:q<n:=(by have:=Hn.out;omega);have oK:r<4:=ae;have cS:IntKind.i64.wrap ((k:Int)/ 4)=(q:Int):=(by rw[IntWalk.i64_in _ ae];omega);have cl:(k:Int).tmod 4=(r:Int):=(by rw[Int.tmod_eq_emod_of_nonneg ae];omega);rw[<-pA]at hc hf;have O9:=aa pA;have WQ:=aa mj;generalize yS:fG s.data.toList true k q=cH at hc;have Mp:=aa yS;clear bH cP pA mj yS;go_wp2_with fail;go_still_tail 16,ax;still_call (aag r _ oK);repeat still_step
   try refine wpStill_nil ?_
   have hb:=s[k].toNat_lt;have ha:cH<4294967296:=(by rw[<-Mp.out];exact Mw _ _ _ _);have eX:=Jb true r oK;have hv:bits .or .i64 (cH:Int) (IntKind.i64.wrap (IntKind.i64.wrap (s[k].toNat:Int)*2^min (lT true r) 64))=((cH|||s[k].toNat<<<lT true r:Nat):Int):=by
    exact agl
   rw[hv];have Hv:=aa (show (cH|||s[k].toNat<<<lT true r)=fG s.data.toList true (k+1) q by
    rw[fG,if_pos O9.symm,Mp.out,WQ.out];simp[ByteArray.getElem_eq_getElem_data,aK])
   clear hv hb eX ha;generalize (cH|||s[k].toNat<<<lT true r)=v at Hv⊢;exact ag2
  ·exact ahk
set_option maxRecDepth 100000 in
theorem aaj (s:ag) (w:World) (h4:s.size % 4=0) (hs:s.size<=1000000):
  Calls prog 253 #[.string s,.bool false] w (ZS s.data.toList false w):=by
 obtain⟨n,hn⟩: ∃n,s.size=4*n:=⟨s.size / 4,ae⟩
 have hl:s.data.toList.length=4*n:=hn;have CC:s.data.toList.length / 4=n:=ae;have hq:(s.size:Int)/ 4=(n:Int):=ae;have hq0:(s.size:Int)% 4=0:=ae;have nK:n<=250000:=ae;have j6:=λW=>run_make_row' (P:=prog) 55 3 (.int .i64 0) 8 underlying55 rD rfl .i64 .i64 n ae ae W;have Hn:=aa hn;have VZ:=aa CC;clear hn hl CC;go_in;go_wp2_with fail;refine (aah _).mono ?_;rintro e w' ⟨rfl,rfl⟩;go_wp2_with fail;go_loopw [8,21] (λ_ i wr=> ∃k:Nat,k<=s.size/\i= .int .i64 k/\wr.rowIs w.heap.size 3 n (λj=> .int .i64 (fG s.data.toList false k j:Nat))/\aD w wr) (λ_ i _=>s.size -(intOf i).toNat);case atStart=>
  exact agQ
 case round=>
  obtain⟨k,hk,rfl,bH,cP⟩:=hrel;by_cases aK:k<s.size
  ·have hc:=bH.cell (i:=k / 4) (by have:=Hn.out;omega);have hf:=bH.frozen (k / 4);have mm:=aa bH;have tI:=aa cP;obtain⟨q,pA⟩: ∃q,q=k / 4:=⟨_,rfl⟩
   obtain⟨r,mj⟩: ∃r,r=k % 4:=⟨_,rfl⟩
   have E4:q<n:=(by have:=Hn.out;omega);have oK:r<4:=ae;have cS:IntKind.i64.wrap ((k:Int)/ 4)=(q:Int):=(by rw[IntWalk.i64_in _ ae];omega);have cl:(k:Int).tmod 4=(r:Int):=(by rw[Int.tmod_eq_emod_of_nonneg ae];omega);rw[<-pA]at hc hf;have O9:=aa pA;have WQ:=aa mj;generalize yS:fG s.data.toList false k q=cH at hc;have Mp:=aa yS;clear bH cP pA mj yS;go_wp2_with fail;go_still_tail 16,ax;still_call (aai r _ oK);repeat still_step
   try refine wpStill_nil ?_
   have hb:=s[k].toNat_lt;have ha:cH<4294967296:=(by rw[<-Mp.out];exact Mw _ _ _ _);have eX:=Jb false r oK;have hv:bits .or .i64 (cH:Int) (IntKind.i64.wrap (IntKind.i64.wrap (s[k].toNat:Int)*2^min (lT false r) 64))=((cH|||s[k].toNat<<<lT false r:Nat):Int):=by
    exact agl
   rw[hv];have Hv:=aa (show (cH|||s[k].toNat<<<lT false r)=fG s.data.toList false (k+1) q by
    rw[fG,if_pos O9.symm,Mp.out,WQ.out];simp[ByteArray.getElem_eq_getElem_data,aK])
   clear hv hb eX ha;generalize (cH|||s[k].toNat<<<lT false r)=v at Hv⊢;exact ag2
  ·exact ahk
set_option maxRecDepth 100000 in
theorem ayR (h:P:=by
 refine⟨k+1,ae,by go_num,?_,(tI.setCell (aM _) _).drew⟩;refine ((mm.set k _).drew).congr λj _=>?_;by_cases hj:j=k
 ·rw[if_pos hj,hj,if_pos ae]
 ·rw[if_neg hj];by_cases I0:j<k
  ·rw[if_pos I0,if_pos ae]
  ·rw[if_neg I0,if_neg ae]):P:=h
theorem ahL (h:P:=by
 refine⟨0,Nat.zero_le _,rfl,?_,(aI _ _).alloc (aM _) _⟩;exact (World.rowIs_made _ _ _ _).congr λj _=>ak):P:=h
theorem agT (h:P:=by
 rw[oP,<-Hm.out]at il;have tI:=aa cP;clear bH wE cP;go_wp2;go_ret2;exact⟨rfl,tI⟩):P:=h
theorem ahh (h:P:=by
 rw[alX _ _ eX,<-Hj.out];change wpList _ _ _ _ _ wr.drew;clear eX;go_wp2;go_roundw;case rel=>
  exact ayR
 case measure=>exact cM):P:=h
theorem Ry (A:aN) (n c:Nat) (xs:List Int) (w:World) (h:Rd w A (ints xs)) (hn:n=xs.length) (hl:xs.length<=100000) (hw:ez xs=true):
  Calls prog 153 #[.slice A n c,.bool true] w (bF w (.tuple #[.string (bs (lu xs true)),.bool true])):=by
 subst hn;obtain⟨m,hm⟩: ∃m,m=4*xs.length:=⟨_,rfl⟩
 have hq:(4:Int)*(xs.length:Int)=(m:Int):=ae;have Bp:m<=400000:=ae;have j6:=λW=>run_make_row' (P:=prog) 34 5 (.int .u8 0) 1 underlying34 Jc rfl .i64 .i64 m ae ae W;have H:=aa h;have HW:=aa hw;have Hm:=aa hm;clear h hw hm;go_in;go_wp2_with fail;refine (FO _ _ _ xs _ H rfl ae).mono ?_;rintro e w' ⟨rfl,rfl⟩;rw[HW.out];go_wp2_with fail;refine (aaf _).mono ?_;rintro e w' ⟨rfl,rfl⟩;go_wp2_with fail;go_loopw [8,20] (λ_ i wr=> ∃k:Nat,k<=m/\i= .int .i64 k/\wr.rowIs w.heap.size 5 m (λj=> .int .u8 (if j<k then vp xs true j else 0:Nat))/\aD w wr) (λ_ i _=>m -(intOf i).toNat);case atStart=>
  exact ahL
 case round=>
  obtain⟨k,hk,rfl,bH,cP⟩:=hrel;by_cases aK:k<m
  ·obtain⟨q,pA⟩: ∃q,q=k / 4:=⟨_,rfl⟩
   obtain⟨r,mj⟩: ∃r,r=k % 4:=⟨_,rfl⟩
   have E4:q<xs.length:=(by have:=Hm.out;omega);obtain⟨b,aS,rfl,hc⟩:=(H.below cP).int_at E4;have hx:=Rj HW E4;obtain⟨x,zz⟩:=Int.eq_ofNat_of_zero_le hx.1;rw[zz]at hc;have kE:=bH.cell aK;have hf:=bH.frozen k;have mm:=aa bH;have tI:=aa cP;have oK:r<4:=ae;have cS:IntKind.i64.wrap ((k:Int)/ 4)=(q:Int):=(by rw[IntWalk.i64_in _ ae];omega);have cl:(k:Int).tmod 4=(r:Int):=(by rw[Int.tmod_eq_emod_of_nonneg ae];omega);have Hj:=aa (show vp xs true k=x>>>lT true r % 256 by rw[vp,<-pA,<-mj,zz];simp);clear bH cP pA mj zz hx;go_wp2_with fail;go_still_tail 14,ax;still_call (aag r _ oK);repeat still_step
   try refine wpStill_nil ?_
   have eX:=Jb true r oK;exact ahh
  ·obtain rfl:k=m:=ae;have wE:wr.rowIs w.heap.size 5 k (λj=> .int .u8 (((lu xs true).getD j 0).toNat:Nat)):=by
    refine bH.congr λj hj=>?_;rw[if_pos hj];have VU:j<4*xs.length:=(by rw[<-Hm.out];exact hj);have hb:vp xs true j<256:=Nat.mod_lt _ ae;simp[lu,VU,Nat.mod_eq_of_lt hb]
   have il:=run_convert_bytes_back (P:=prog) wr 34 9 5 ⟨w.heap.size,0,none⟩ k (lu xs true) underlying34 underlying5 underlying9 (Ro wE (by rw[oP,Hm.out]));exact agT
set_option maxRecDepth 100000 in
theorem amz (A:aN) (n c:Nat) (xs:List Int) (w:World) (h:Rd w A (ints xs)) (hn:n=xs.length) (hl:xs.length<=100000) (hw:ez xs=true):
  Calls prog 153 #[.slice A n c,.bool false] w (bF w (.tuple #[.string (bs (lu xs false)),.bool true])):=by
 subst hn;obtain⟨m,hm⟩: ∃m,m=4*xs.length:=⟨_,rfl⟩
 have hq:(4:Int)*(xs.length:Int)=(m:Int):=ae;have Bp:m<=400000:=ae;have j6:=λW=>run_make_row' (P:=prog) 34 5 (.int .u8 0) 1 underlying34 Jc rfl .i64 .i64 m ae ae W;have H:=aa h;have HW:=aa hw;have Hm:=aa hm;clear h hw hm;go_in;go_wp2_with fail;refine (FO _ _ _ xs _ H rfl ae).mono ?_;rintro e w' ⟨rfl,rfl⟩;rw[HW.out];go_wp2_with fail;refine (aah _).mono ?_;rintro e w' ⟨rfl,rfl⟩;go_wp2_with fail;go_loopw [8,20] (λ_ i wr=> ∃k:Nat,k<=m/\i= .int .i64 k/\wr.rowIs w.heap.size 5 m (λj=> .int .u8 (if j<k then vp xs false j else 0:Nat))/\aD w wr) (λ_ i _=>m -(intOf i).toNat);case atStart=>
  exact ahL
 case round=>
  obtain⟨k,hk,rfl,bH,cP⟩:=hrel;by_cases aK:k<m
  ·obtain⟨q,pA⟩: ∃q,q=k / 4:=⟨_,rfl⟩
   obtain⟨r,mj⟩: ∃r,r=k % 4:=⟨_,rfl⟩
   have E4:q<xs.length:=(by have:=Hm.out;omega);obtain⟨b,aS,rfl,hc⟩:=(H.below cP).int_at E4;have hx:=Rj HW E4;obtain⟨x,zz⟩:=Int.eq_ofNat_of_zero_le hx.1;rw[zz]at hc;have kE:=bH.cell aK;have hf:=bH.frozen k;have mm:=aa bH;have tI:=aa cP;have oK:r<4:=ae;have cS:IntKind.i64.wrap ((k:Int)/ 4)=(q:Int):=(by rw[IntWalk.i64_in _ ae];omega);have cl:(k:Int).tmod 4=(r:Int):=(by rw[Int.tmod_eq_emod_of_nonneg ae];omega);have Hj:=aa (show vp xs false k=x>>>lT false r % 256 by rw[vp,<-pA,<-mj,zz];simp);clear bH cP pA mj zz hx;go_wp2_with fail;go_still_tail 14,ax;still_call (aai r _ oK);repeat still_step
   try refine wpStill_nil ?_
   have eX:=Jb false r oK;exact ahh
  ·obtain rfl:k=m:=ae;have wE:wr.rowIs w.heap.size 5 k (λj=> .int .u8 (((lu xs false).getD j 0).toNat:Nat)):=by
    refine bH.congr λj hj=>?_;rw[if_pos hj];have VU:j<4*xs.length:=(by rw[<-Hm.out];exact hj);have hb:vp xs false j<256:=Nat.mod_lt _ ae;simp[lu,VU,Nat.mod_eq_of_lt hb]
   have il:=run_convert_bytes_back (P:=prog) wr 34 9 5 ⟨w.heap.size,0,none⟩ k (lu xs false) underlying34 underlying5 underlying9 (Ro wE (by rw[oP,Hm.out]));exact agT
theorem aak (A:aN) (n c:Nat) (xs:List Int) (w:World) (h:Rd w A (ints xs)) (hn:n=xs.length) (hl:xs.length<=9223372036854775807) (hw:ez xs=true):
  Calls prog 235 #[.slice A n c] w λe w'=>e= .returned (.int .i64 (eU xs))/\w=w':=by
 have H:=aa h;have HW:=aa hw;have HN:=aa hn;clear h hw hn;go_in;go_wp2_with fail;refine (Rx A n c xs w H HN hl HW).mono ?_;rintro e w' ⟨rfl,rfl⟩;exact tp
theorem Rz (A:aN) (n c:Nat) (xs:List Int) (w:World) (h:Rd w A (ints xs)) (hn:n=xs.length) (hl:xs.length<=9223372036854775807) (hw:ez xs=true):
  Calls prog 235 #[.slice A n c] w (bF w (.int .i64 (eU xs))):=
 (aak A n c xs w h hn hl hw).mono λ_ _ h=>⟨h.1,Mv h.2⟩
theorem aal (a b:Int) (w:World) (ha:Wd a) (hb:Wd b):
  Calls prog 238 #[.int .i64 a,.int .i64 b] w (bF w (.int .i64 (vo a b))):=by
 have HA:=aa ha;have HB:=aa hb;go_in;go_wp2_with fail;refine (amw a b w (zQ.2 ⟨HA,HB⟩)).mono ?_;exact OQ
theorem RA (x n:Int) (w:World) (hx:Wd x) (h0:0<=n) (h1:n<=32):
  Calls prog 237 #[.int .i64 x,.int .i64 n] w (bF w (.int .i64 (lr x (32 - n)))):=by
 have HX:=aa hx;go_in;go_wp2_with fail;refine (aae x (32 - n) w (FJ.2 HX) ae ae).mono ?_;exact OQ
theorem amA (x n:Int) (w:World) (hx:Wd x) (hn:0<=n) (h1:n<=32):
  Calls prog 292 #[.int .i64 x,.int .i64 n] w (bF w (.int .i64 (BF x n))):=by
 have h0:=hx.1;have h2:=hx.2;obtain⟨m,rfl⟩:=Int.eq_ofNat_of_zero_le hn;go_in;go_wp2;go_ret;refine⟨Dw ?_,aI _ _⟩;have hm:min m 64=m:=Nat.min_eq_left ae;have hf:=Jf m hx;unfold BF Wd at hf;unfold BF;first
  |(simp;done)
  |(rw[IntWalk.i64_in _ (by simp[hm]at hf⊢;omega)];simp[hm])
theorem RB (A:aN) (n c:Nat) (xs:List Int) (w:World) (h:Rd w A (ints xs)) (hn:n=xs.length) (hl:xs.length<=1000) (hw:ez xs=true):
  Calls prog 236 #[.slice A n c] w (bF w (.int .i64 (oR xs))):=by
 subst hn;have H:=aa h;have HW:=aa (al' hw);go_in;go_wp2;go_loopw [3,8] (λs i wr=> ∃k:Nat,k<=xs.length/\i= .int .i64 k/\s= .int .i64 (oR (xs.take k))/\aD w wr) (λ_ i _=>xs.length -(intOf i).toNat);case atStart=>exact⟨0,Nat.zero_le _,rfl,rfl,aI _ _⟩
 case round=>
  obtain⟨k,hk,rfl,rfl,hb⟩:=hrel;have HB:=aa hb;by_cases aK:k<xs.length
  ·obtain⟨b,aS,rfl,hc⟩:=(H.below HB).int_at aK;have Hs:=aa (show oR (xs.take (k+1))=sE (oR (xs.take k)) (xs.getD k 0) by
    rw[List.take_succ_eq_append_getElem aK,oR,List.foldl_append];simp[oR,aK])
   have Hx:=aa (show Wd (xs.getD k 0) from by
    have:xs.getD k 0=xs[k]:=(by simp[aK]);rw[this];exact HW.out _ (dY aK))
   have Hp:=aa (show Wd (oR (xs.take k)) from DD λx hx=>HW.out x (List.mem_of_mem_take hx));generalize xs.getD k 0=x at hc Hs Hx;generalize oR (xs.take k)=s at Hs Hp;go_wp2_with fail;refine (aad s x wr (zQ.2 ⟨Hp,Hx⟩)).mono ?_;rintro e w' ⟨rfl,hb⟩;have bq:=aa (bg HB hb);go_wp2;go_roundw;case rel=>exact⟨k+1,ae,by go_num,by rw[Hs.out],bq⟩
   case measure=>exact cM
  ·go_wp2;go_ret;exact⟨Dw (by rw[List.take_of_length_le ae]),HB⟩
theorem amB (a b:Int) (c g:Nat) (w:World) (hg:w.heap.size=g) (ha:Wd a) (hb:Wd b):
  Calls prog 236 #[.slice (aw g) 2 c] (w.alloc (.cells #[.int .i64 a,.int .i64 b] 3)) λe w'=>e= .returned (.int .i64 (oR [a,b]))/\Below (w.alloc (.cells #[.int .i64 a,.int .i64 b] 3)).heap.size (w.alloc (.cells #[.int .i64 a,.int .i64 b] 3)) w':=
 RB _ _ _ [a,b] _ (jk _ _ _ _ hg) rfl ak (zQ.2 ⟨ha,hb⟩)
theorem aam (a b d:Int) (c g:Nat) (w:World) (hg:w.heap.size=g) (ha:Wd a) (hb:Wd b) (hd:Wd d):
  Calls prog 236 #[.slice (aw g) 3 c] (w.alloc (.cells #[.int .i64 a,.int .i64 b,.int .i64 d] 3)) λe w'=>e= .returned (.int .i64 (oR [a,b,d]))/\Below (w.alloc (.cells #[.int .i64 a,.int .i64 b,.int .i64 d] 3)).heap.size (w.alloc (.cells #[.int .i64 a,.int .i64 b,.int .i64 d] 3)) w':=
 RB _ _ _ [a,b,d] _ (jk _ _ _ _ hg) rfl ak (Rr ha hb hd)
theorem amC (a b:Int) (c g:Nat) (w:World) (hg:w.heap.size=g) (ha:Wd a) (hb:Wd b):
  Calls prog 235 #[.slice (aw g) 2 c] (w.alloc (.cells #[.int .i64 a,.int .i64 b] 3)) λe w'=>e= .returned (.int .i64 (eU [a,b]))/\Below (w.alloc (.cells #[.int .i64 a,.int .i64 b] 3)).heap.size (w.alloc (.cells #[.int .i64 a,.int .i64 b] 3)) w':=
 Rz _ _ _ [a,b] _ (jk _ _ _ _ hg) rfl ak (zQ.2 ⟨ha,hb⟩)
set_option maxRecDepth 100000 in
theorem amD (s:ag) (w:World) (hs:s.size=64):
  Calls prog 234 #[.string s] w λe w'=>e= .returned (.agg (ints (jl (gI s.data.toList true 16) 48)).toArray)/\aD w w':=by
 have Hs:=aa hs;clear hs;go_in;go_wp2_with fail;refine (Jj s _ (by rw[Hs.out]) (by rw[Hs.out];decide)).mono ?_;rintro e w2 ⟨g,rfl,hg,bH,cl⟩;rw[bP,Hs.out]at bH;rw[bP,Hs.out];have HR:Hid (bj w2 w.heap.size DE 292):=My cl;have aAl:w.heap.size+1<w2.heap.size:=by have:=cl.size;simp at this;omega
 have HS:Hid (bj w2 (w.heap.size+1) DE 292):=by
  exact Z7 cl ak
 have HW:=aa (Jd cl);have mm:=aa bH;clear bH cl hg;obtain⟨S,hS⟩: ∃S,S=w.heap.size+1:=⟨_,rfl⟩
 rw[<-hS]at HS aAl⊢;have hRS:w.heap.size≠S:=ae;have eT:w.heap.size<=S:=ae;clear hS;obtain⟨w3,zo,it,jx⟩:=ame (w:=w2) 64 64 _ (gI s.data.toList true 16) HS.out (Rp mm.out (by rw[bP,Hs.out])) (by simp[gI,DE]) (show 16=_ by simp[gI]) ae;have iK:=aa (HW.trans (gZ jx ae HW.size));have j3:=aa ((jx.block w.heap.size (bf HR.out) (λe=>by injection e;omega)).trans HR.out);have ql:Hid (w3.heap[S]?=some (.cells (ints (jl (gI s.data.toList true 16) 0)).toArray 292 (0,0))):=by
  have h:=it;rw[show (ints (gI s.data.toList true 16)++DE.toList.drop (gI s.data.toList true 16).length)=ints (jl (gI s.data.toList true 16) 0) by simp[jl,ints,gI,DE]]at h;exact h
 have Hl:Hid ((gI s.data.toList true 16).length=16):=aa (by simp[gI]);have Hwd:=aa (Z6 s.data.toList true 16);generalize aje:gI s.data.toList true 16=l at ql Hl Hwd;have aBd:=aa aje;clear aje;clear it jx HR HS;go_wp2_with fail;go_loopw [6] (λi wr=> ∃k:Nat,k<=48/\i= .int .i64 ((16+k:Nat):Int)/\wr.heap[S]?=some (.cells (ints (jl l k)).toArray 292 (0,0))/\bj wr w.heap.size DE 292/\aD w wr) (λi _=>64 -(intOf i).toNat);case atStart=>exact⟨0,ae,rfl,ql.out,j3.out,iK.out⟩
 case round=>
  obtain⟨k,hk,rfl,uC,zl,FB⟩:=hrel;have hSl:=bf uC;by_cases aK:k<48
  ·have ey:=Jg l Hl.out k;have Ft:=Rs l Hwd.out k;obtain⟨j,hj⟩: ∃j,j=16+k:=⟨_,rfl⟩
   obtain⟨Dn,py⟩: ∃a,a=j - 16:=⟨_,rfl⟩
   obtain⟨IP,h15⟩: ∃a,a=j - 15:=⟨_,rfl⟩
   obtain⟨a7,h7⟩: ∃a,a=j - 7:=⟨_,rfl⟩
   obtain⟨a2,h2⟩: ∃a,a=j - 2:=⟨_,rfl⟩
   have uG:=(ft uC (i:=Dn) ae).1;have iq:=(ft uC (i:=IP) ae).1;have c7:=(ft uC (i:=a7) ae).1;have c2:=(ft uC (i:=a2) ae).1;have sg:=aa (show jl l (k+1)=(jl l k).set j (eU [(jl l k).getD Dn 0,FL ((jl l k).getD IP 0),(jl l k).getD a7 0,FM ((jl l k).getD a2 0)]) by
    rw[jl,Z4,<-hj,<-py,<-h15,<-h7,<-h2])
   have W16:=aa (zT Ft Dn);have EF:=aa (zT Ft IP);have W7:=aa (zT Ft a7);have W2:=aa (zT Ft a2);generalize (jl l k).getD Dn 0=P9 at uG sg W16;generalize (jl l k).getD IP 0=Yc at iq sg EF;generalize (jl l k).getD a7 0=x7 at c7 sg W7;generalize (jl l k).getD a2 0=x2 at c2 sg W2;rw[<-hj];have b16:IntKind.i64.wrap ((j:Int)- 16)=(Dn:Int):=(by rw[IntWalk.i64_in _ ae];omega);have b15:IntKind.i64.wrap ((j:Int)- 15)=(IP:Int):=(by rw[IntWalk.i64_in _ ae];omega);have b7:IntKind.i64.wrap ((j:Int)- 7)=(a7:Int):=(by rw[IntWalk.i64_in _ ae];omega);have b2:IntKind.i64.wrap ((j:Int)- 2)=(a2:Int):=(by rw[IntWalk.i64_in _ ae];omega);have d16:(Dn:Int)<64:=ae;have d15:(IP:Int)<64:=ae;have d7:(a7:Int)<64:=ae;have d2:(a2:Int)<64:=ae;have dj:(j:Int)<64:=ae;have n16:(⟨S,j,none⟩:Addr)≠⟨S,Dn,none⟩:=λe=>by injection e with _ e;omega
   have n7:(⟨S,j,none⟩:Addr)≠⟨S,a7,none⟩:=λe=>by injection e with _ e;omega
   have kw:=aa uC;have lg:=aa zl;have HB:=FB;have lL:=aa ey;have aCq:16<=j:=ae;have Hj:=aa hj;clear uC zl FB Ft ey py h15 h7 h2 hj;go_wp2_with fail;go_quiet (fail);rename_i nq;replace HB:=tX HB nq;replace kw:Hid ((wr.drewN nq).heap[S]?=_):=kw;replace lg:Hid ((wr.drewN nq).heap[w.heap.size]?=_):=lg;replace uG:(wr.drewN nq).cell? _=_:=uG;replace c7:(wr.drewN nq).cell? _=_:=c7;clear iq c2;generalize wr.drewN nq=wq at HB kw lg uG c7⊢;go_wp2_with fail;replace HB:=HB.drew;replace kw:Hid (wq.drew.heap[S]?=_):=kw;replace lg:Hid (wq.drew.heap[w.heap.size]?=_):=lg;go_region_held3 (λw'=>w'.cell? ⟨S,Dn,none⟩=some (.int .i64 P9)/\w'.cell? ⟨S,a7,none⟩=some (.int .i64 x7))
    (first|exact⟨uG,c7⟩|exact i6 (by assumption) (by assumption)|exact t8 (by assumption)|exact ip (by assumption) n16 n7)
    (first
     |(go_at_call 237;refine (RA _ _ _ (by first|exact EF.out|exact W2.out) ae ae).mono ?_;rintro e w' ⟨rfl,hb⟩;replace kw:=aT kw hb;replace lg:=aT lg hb;replace HB:=bg HB hb)
     |(go_at_call 292;refine (amA _ _ _ (by first|exact EF.out|exact W2.out) ae ae).mono ?_;rintro e w' ⟨rfl,hb⟩;replace kw:=aT kw hb;replace lg:=aT lg hb;replace HB:=bg HB hb)
     |(go_at_call 236;refine (RB _ _ _ [_,_,_] _ (by exact jk _ _ _ _ ak) rfl ak (by first|exact Rr (mw _ EF.out) (mw _ EF.out) (Jf _ EF.out)|exact Rr (mw _ W2.out) (mw _ W2.out) (Jf _ W2.out))).mono ?_;rintro e w' ⟨rfl,hb⟩;replace kw:=MD kw hb;replace lg:=MD lg hb;replace HB:=jX HB hb)
     |(go_at_call 235;refine (Rz _ _ _ [_,_,_,_] _ (by exact jk _ _ _ _ ak) rfl ak (by exact wd4 W16.out (amc EF.out) W7.out (amd W2.out))).mono ?_;rintro e w' ⟨rfl,hb⟩;replace kw:=MD kw hb;replace lg:=MD lg hb;replace HB:=jX HB hb;have XF:=(ft kw.out (i:=j) (by have:=lL.out;omega)).1;have hfj:=(ft kw.out (i:=j) (by have:=lL.out;omega)).2))
   rename_i W;go_wp2_with fail;have e1:=mv kw.out j (eU [P9,FL Yc,x7,FM x2]);rw[<-sg.out]at e1;have e2:=(bz _ ⟨S,j,none⟩ (.int .i64 (eU [P9,FL Yc,x7,FM x2])) w.heap.size hRS).trans lg.out;have e3:=HB.setCell (p:=⟨S,j,none⟩) (by simp only;omega) (.int .i64 (eU [P9,FL Yc,x7,FM x2]));go_roundw;case rel=>exact⟨k+1,ae,by rw[Hj.out];go_num,e1,e2,e3⟩
   case measure=>have:=Hj.out;simp[intOf];omega
  ·obtain rfl:k=48:=ae;have db:=aa (show (prog.info? 292).map (·.size)=some (ints (jl l 48)).toArray.size by rw[rE,Jg l Hl.out];kernel_rfl);have iZ:=aa (show (ints (jl l 48)).toArray.size=DE.size by rw[rE,Jg l Hl.out];rfl);have jd:=aa (Dz (jl l 48));have kw:=aa uC;have lg:=aa zl;have gO:=aa FB;clear uC zl FB;obtain⟨dF,lp⟩: ∃dF,dF=(ints (jl l 48)).toArray:=⟨_,rfl⟩
   rw[<-lp]at db iZ jd kw;have zj:=aa lp;clear lp;go_wp2_with (first
    |(refine wpList_load_row ah 292 (.tmp 3) ah S ah 292 dF (0,0) _ kw.out underlying292 rfl db.out ?_)
    |(refine sF ah 292 (.tmp 2) (.tmp 57) ah w.heap.size dF ah ah _ 292 (by exact lg.out) (by exact iZ.out) db.out jd.out ?_))
   intro w4 rf uP;have nP:=aa rf;clear rf;go_wp2_with fail;have rf:=nP.out;have hr:w4.rangeAt w.heap.size 0 dF.toList:=(by simpa using World.rangeAt_of_block rf 0 dF.size);have hl:=run_loadVar_mid (P:=prog) _ w.heap.size 0 292 dF.toList _ hr underlying292 rfl (by simpa using db.out);refine bodyPost_ret (vt rfl _ _ w.heap.size rfl _ hl) rfl ?_;exact⟨by rw[zj.out,aBd.out],gO.trans (gZ uP (aM _) gO.size)⟩
def S1I (e:Int):Int:=oR [lr e 26,lr e 21,lr e 7]
def S0I (a:Int):Int:=oR [lr a 30,lr a 19,lr a 10]
def chI (e f g:Int):Int:=oR [vo e f,vo (4294967295 - e) g]
def aaq (a b c:Int):Int:=oR [vo a b,vo a c,vo b c]
def uI (K W e f g h:Int):Int:=eU [h,S1I e,chI e f g,K,W]
def vI (a b c:Int):Int:=eU [S0I a,aaq a b c]
theorem RC (h:Wd e):Wd (4294967295 - e):=⟨by have:=h.2;omega,by have:=h.1;omega⟩
theorem amE {p:Int} (h:Wd p):Wd (S1I p):=DD (by simp;exact⟨mw _ h,mw _ h,mw _ h⟩)
theorem amF {p:Int} (h:Wd p):Wd (S0I p):=DD (by simp;exact⟨mw _ h,mw _ h,mw _ h⟩)
theorem amG {f g:Int} (he:Wd e) (hf:Wd f) (hg:Wd g):Wd (chI e f g):=DD (by simp;exact⟨xG he hf,xG (RC he) hg⟩)
theorem amH {c:Int} (ha:Wd a) (hb:Wd b) (hc:Wd c):Wd (aaq a b c):=DD (by simp;exact⟨xG ha hb,xG ha hc,xG hb hc⟩)
def RD (K W:Int):List Int->List Int
 | [a,b,c,d,e,f,g,h]=> [eU [uI K W e f g h,vI a b c],a,b,c,eU [d,uI K W e f g h],e,f,g]
 |l=>l
def roundsT:List Int:= [0x428a2f98,0x71374491,0xb5c0fbcf,0xe9b5dba5,0x3956c25b,0x59f111f1,0x923f82a4,0xab1c5ed5,
 0xd807aa98,0x12835b01,0x243185be,0x550c7dc3,0x72be5d74,0x80deb1fe,0x9bdc06a7,0xc19bf174,
 0xe49b69c1,0xefbe4786,0x0fc19dc6,0x240ca1cc,0x2de92c6f,0x4a7484aa,0x5cb0a9dc,0x76f988da,
 0x983e5152,0xa831c66d,0xb00327c8,0xbf597fc7,0xc6e00bf3,0xd5a79147,0x06ca6351,0x14292967,
 0x27b70a85,0x2e1b2138,0x4d2c6dfc,0x53380d13,0x650a7354,0x766a0abb,0x81c2c92e,0x92722c85,
 0xa2bfe8a1,0xa81a664b,0xc24b8b70,0xc76c51a3,0xd192e819,0xd6990624,0xf40e3585,0x106aa070,
 0x19a4c116,0x1e376c08,0x2748774c,0x34b0bcb5,0x391c0cb3,0x4ed8aa4a,0x5b9cca4f,0x682e6ff3,
 0x748f82ee,0x78a5636f,0x84c87814,0x8cc70208,0x90befffa,0xa4506ceb,0xbef9a3f7,0xc67178f2]
theorem amI: ∀x∈roundsT,Wd x:=by
 have h:roundsT.all (λx=>decide (0<=x)&&decide (x<=4294967295))=true:=bU;intro x hx;have:=List.all_eq_true.1 h x hx;simpa[Wd] using this
def cX (w:World):Prop:=w.rangeAt 0 0 (ints roundsT)
theorem cX.below (h:cX w) (hb:aD w w'):cX w':=λj v hv=>
 (hb.cell (p:=⟨0,0+j,none⟩) (cU (h j v hv))).trans (h j v hv)
theorem cX.cell (h:cX w) (hk:k<64):w.cell? ⟨0,k,none⟩=some (.int .i64 (roundsT.getD k 0)):=by
 have:=h k (.int .i64 (roundsT.getD k 0)) (by
  have vh:k<roundsT.length:=hk;rw[ints,nA];simp[cL vh])
 rwa [Nat.zero_add]at this
def BH (ws st:List Int):Nat->List Int
 |0=>st
 |i+1=>RD (roundsT.getD i 0) (ws.getD i 0) (BH ws st i)
def qD (st:List Int):Prop:=st.length=8/\ ∀x∈st,Wd x
theorem FQ (h:qD st): ∃a b c d e f g i,st= [a,b,c,d,e,f,g,i]/\Wd a/\Wd b/\Wd c/\Wd d/\Wd e/\Wd f/\Wd g/\Wd i:=by
 match st,h.1 with
 | [a,b,c,d,e,f,g,i],_=>exact⟨a,b,c,d,e,f,g,i,rfl,h.2 _ ak,h.2 _ ak,h.2 _ ak,h.2 _ ak,h.2 _ ak,h.2 _ ak,h.2 _ ak,h.2 _ ak⟩
theorem amJ {c d f g i:Int} (ha:Wd a) (hb:Wd b) (hc:Wd c) (hd:Wd d) (he:Wd e) (hf:Wd f) (hg:Wd g) (hi:Wd i):qD [a,b,c,d,e,f,g,i]:=
 ⟨rfl,by simp;exact⟨ha,hb,hc,hd,he,hf,hg,hi⟩⟩
theorem amK {K W:Int} (h:qD st):qD (RD K W st):=by
 obtain⟨a,b,c,d,e,f,g,i,rfl,ha,hb,hc,hd,he,hf,hg,hi⟩:=FQ h;exact amJ (tY _) ha hb hc (tY _) he hf hg
theorem MI {ws st:List Int} (h:qD st): ∀i,qD (BH ws st i)
 |0=>h
 |i+1=>amK (MI h i)
def qE (st fin:List Int) (i:Nat):List Int:=(List.range 8).map λj=>if j<i then eU [st.getD j 0,fin.getD j 0] else fin.getD j 0
theorem MJ (st fin:List Int) (i:Nat):(qE st fin i).length=8:=by simp[qE]
theorem amL (st fin:List Int) (h:fin.length=8):qE st fin 0=fin:=by
 apply List.ext_getElem
 ·simp[qE,h]
 ·intro j h1 h2;simp[qE,h2]
theorem amM (st fin:List Int) (i:Nat) (h:i<8):(qE st fin i).getD i 0=fin.getD i 0:=by
 simp[qE,h]
theorem amN (st fin:List Int) (i:Nat) (h:i<8):(qE st fin i).set i (eU [st.getD i 0,fin.getD i 0])=qE st fin (i+1):=by
 apply List.ext_getElem
 ·simp[qE]
 ·intro j h1 h2;rw[List.getElem_set];simp only[qE,List.getElem_map,List.getElem_range];exact OD
theorem aar (st fin:List Int) (h: ∀x∈fin,Wd x) (i:Nat):qD (qE st fin i):=by
 refine⟨MJ _ _ _,λx hx=>?_⟩;obtain⟨j,hj,rfl⟩:=List.mem_map.1 hx;split
 ·exact tY _
 ·exact zT h j
def DH (st:List Int) (block:aF):List Int:=qE st (BH (jl (gI block true 16) 48) st 64) 8
theorem aas (h:qD st) (block:aF):qD (DH st block):=aar _ _ (MI h 64).2 8
def RE:bx:= #[.int .i64 0,.int .i64 0,.int .i64 0,.int .i64 0,.int .i64 0,.int .i64 0,.int .i64 0,.int .i64 0]
theorem Jk {c d f i h:Int} (hg:w.heap[g]?=some (.cells (ints [a,b,c,d,e,f,i,h]).toArray t (0,0))):
  (w.cell? ⟨g,0,none⟩=some (.int .i64 a)/\w.cell? ⟨g,1,none⟩=some (.int .i64 b)/\w.cell? ⟨g,2,none⟩=some (.int .i64 c)/\w.cell? ⟨g,3,none⟩=some (.int .i64 d)/\w.cell? ⟨g,4,none⟩=some (.int .i64 e)/\w.cell? ⟨g,5,none⟩=some (.int .i64 f)/\w.cell? ⟨g,6,none⟩=some (.int .i64 i)/\w.cell? ⟨g,7,none⟩=some (.int .i64 h))/\
  w.frozen? ⟨g,0,none⟩=false/\w.frozen? ⟨g,1,none⟩=false/\w.frozen? ⟨g,2,none⟩=false/\w.frozen? ⟨g,3,none⟩=false/\w.frozen? ⟨g,4,none⟩=false/\w.frozen? ⟨g,5,none⟩=false/\w.frozen? ⟨g,6,none⟩=false/\w.frozen? ⟨g,7,none⟩=false:=
 have p:=λk (hk:k<8)=>ft hg (i:=k) hk
 ⟨⟨(p 0 ae).1,(p 1 ae).1,(p 2 ae).1,(p 3 ae).1,(p 4 ae).1,(p 5 ae).1,(p 6 ae).1,(p 7 ae).1⟩,
  (p 0 ae).2,(p 1 ae).2,(p 2 ae).2,(p 3 ae).2,(p 4 ae).2,(p 5 ae).2,(p 6 ae).2,(p 7 ae).2⟩
def DI (w:World) (g:Nat) (a b c d e f i h:Int):World:=
 (((((((w.setCell ⟨g,0,none⟩ (.int .i64 a)).setCell ⟨g,1,none⟩ (.int .i64 b)).setCell ⟨g,2,none⟩ (.int .i64 c)).setCell ⟨g,3,none⟩ (.int .i64 d)).setCell ⟨g,4,none⟩ (.int .i64 e)).setCell ⟨g,5,none⟩ (.int .i64 f)).setCell ⟨g,6,none⟩ (.int .i64 i)).setCell ⟨g,7,none⟩ (.int .i64 h)
theorem RF (hx:xs.length=8) (hg:w.heap[g]?=some (.cells (ints xs).toArray t (0,0))) (a b c d e f i h:Int):
  (DI w g a b c d e f i h).heap[g]?=some (.cells (ints [a,b,c,d,e,f,i,h]).toArray t (0,0)):=by
 have:=mv (mv (mv (mv (mv (mv (mv (mv hg 0 a) 1 b) 2 c) 3 d) 4 e) 5 f) 6 i) 7 h;match xs,hx with
 | [x0,x1,x2,x3,x4,x5,x6,x7],_=>exact this
theorem RG (w:World) (g:Nat):w.grownBy w (some g):=⟨rfl,rfl,rfl,aM _,λ_ _ _=>rfl⟩
theorem sH (h:w0.grownBy w (some g)) (i:Nat) (v:Value):w0.grownBy (w.setCell ⟨g,i,none⟩ v) (some g):=
 ⟨h.os,h.tape,h.output,by simpa[World.setCell] using h.size,λk hk aO=>(bz _ _ _ _ (λe=>aO (by rw[e]))).trans (h.block k hk aO)⟩
theorem RH (w:World) (g:Nat) (a b c d e f i h:Int):w.grownBy (DI w g a b c d e f i h) (some g):=
 sH (sH (sH (sH (sH (sH (sH (sH (RG w g) 0 _) 1 _) 2 _) 3 _) 4 _) 5 _) 6 _) 7 _
theorem amO {B7 B6 B2 B4:Nat} {o6 o4:Obj} (hx:xs.length=8) (h7:W.heap[B7]?=some (.cells (ints xs).toArray t (0,0))) (h6:W.heap[B6]?=some o6) (h2:W.heap[B2]?=some o2) (h4:W.heap[B4]?=some o4) (hB:Below B w W) (n6:B6≠B7) (n2:B2≠B7) (n4:B4≠B7) (eT:B<=B7) (hw:B<=W.heap.size) (a b c d e f i h:Int):
  (DI W B7 a b c d e f i h).heap[B7]?=some (.cells (ints [a,b,c,d,e,f,i,h]).toArray t (0,0))/\(DI W B7 a b c d e f i h).heap[B6]?=some o6/\(DI W B7 a b c d e f i h).heap[B2]?=some o2/\(DI W B7 a b c d e f i h).heap[B4]?=some o4/\Below B w (DI W B7 a b c d e f i h):=
 have hG:=RH W B7 a b c d e f i h
 ⟨RF hx h7 a b c d e f i h,(hG.block _ (bf h6) (λe=>n6 (bW e))).trans h6,(hG.block _ (bf h2) (λe=>n2 (bW e))).trans h2,(hG.block _ (bf h4) (λe=>n4 (bW e))).trans h4,hB.trans (gZ hG eT hw)⟩
set_option maxRecDepth 100000 in
theorem amP (ws st:List Int) (s:ag) (w:World) (hR:cX w) (dE:qD st) (hs:s.size=64) (sq:ws.length=64) (hww: ∀x∈ws,Wd x) (so: ∀W,QCA 234 #[.string s] W (bF W (.agg (ints ws).toArray))):
  Calls prog 160 #[.agg (ints st).toArray,.string s] w λe w'=>e= .returned (.tuple #[.agg (ints (qE st (BH ws st 64) 8)).toArray,.bool true])/\aD w w':=by
 have Hsp:=aa so;have X5:=aa sq;have Mk:=aa hww;clear sq hww so;have EO:((s.size:Int) !=64)=false:=by simp[hs]
 have HR:=aa hR;have iW:=aa dE;obtain⟨s0,s1,s2,s3,s4,s5,s6,s7,Ze,_⟩:=FQ dE;have Lq:=aa Ze;have HW:=aa (Je dE.2);rw[show (ints st).toArray= #[.int .i64 s0,.int .i64 s1,.int .i64 s2,.int .i64 s3,.int .i64 s4,.int .i64 s5,.int .i64 s6,.int .i64 s7] by rw[Ze];rfl];clear hs hR dE Ze;go_in;go_wp2_with fail;refine (FP _ _ _ st _ (by rw[Lq.out];exact (qC w _ _).below ((aI _ _).alloc (aM _) _)) (by rw[Lq.out];rfl) (by rw[Lq.out];simp)).mono ?_;rintro e w1 ⟨rfl,hw⟩;rw[HW.out];have H2:=aa (My hw);have H4:Hid (bj w1 (w.heap.size+1) RE 225):=Z7 hw ak;have HB:=aa (Jd hw);clear hw;go_wp2_with fail;refine (Hsp w1).mono ?_;rintro e w2 ⟨rfl,cl⟩;replace H2:=aT H2 cl;replace H4:=aT H4 cl;replace HB:=aa (bg HB cl);clear cl;have db:=aa (show (prog.info? 292).map (·.size)=some (ints ws).toArray.size by rw[rE,X5.out];kernel_rfl);have iZ:=aa (show (ints ws).toArray.size=64 by rw[rE,X5.out]);have jd:=aa (Dz ws);have YX:w.heap.size+1<w2.heap.size:=bf H4.out;obtain⟨dF,lp⟩: ∃dF,dF=(ints ws).toArray:=⟨_,rfl⟩
 rw[<-lp]at db iZ jd⊢;have zj:=aa lp;clear lp;go_wp2_with (refine sF ah 292 (.tmp 6) (.tmp 30) ah w2.heap.size dF ah ah _ 292 (by exact aR w2 _) (by exact iZ.out) db jd ?_);intro w3 it oE;rw[zj.out]at it;have aL:aD w2 w3:=((aI _ _).alloc (aM _) _).trans (gZ oE (aM _) ak);obtain⟨B6,Bu⟩: ∃B,B=w2.heap.size:=⟨_,rfl⟩
 rw[<-Bu]at it YX⊢;have H6:=aa it;have azS:B6<w3.heap.size:=bf it;replace H2:=aT H2 aL;replace H4:=aT H4 aL;replace HB:=aa (bg HB aL);clear it oE aL Bu;have c20:w3.cell? ⟨w.heap.size,0,none⟩=some (.int .i64 s0):=by unfold World.cell?;simp only[H2.out];rfl
 have c21:w3.cell? ⟨w.heap.size,1,none⟩=some (.int .i64 s1):=by unfold World.cell?;simp only[H2.out];rfl
 have c22:w3.cell? ⟨w.heap.size,2,none⟩=some (.int .i64 s2):=by unfold World.cell?;simp only[H2.out];rfl
 have c23:w3.cell? ⟨w.heap.size,3,none⟩=some (.int .i64 s3):=by unfold World.cell?;simp only[H2.out];rfl
 have c24:w3.cell? ⟨w.heap.size,4,none⟩=some (.int .i64 s4):=by unfold World.cell?;simp only[H2.out];rfl
 have c25:w3.cell? ⟨w.heap.size,5,none⟩=some (.int .i64 s5):=by unfold World.cell?;simp only[H2.out];rfl
 have c26:w3.cell? ⟨w.heap.size,6,none⟩=some (.int .i64 s6):=by unfold World.cell?;simp only[H2.out];rfl
 have c27:w3.cell? ⟨w.heap.size,7,none⟩=some (.int .i64 s7):=by unfold World.cell?;simp only[H2.out];rfl
 go_wp2_with fail;have H7:Hid ((w3.alloc (.cells #[.int .i64 s0,.int .i64 s1,.int .i64 s2,.int .i64 s3,.int .i64 s4,.int .i64 s5,.int .i64 s6,.int .i64 s7] 225)).heap[w3.heap.size]?=some (.cells (ints st).toArray 225 (0,0))):=by
  rw[Lq.out];exact aR w3 _
 have aP:aD w3 (w3.alloc (.cells #[.int .i64 s0,.int .i64 s1,.int .i64 s2,.int .i64 s3,.int .i64 s4,.int .i64 s5,.int .i64 s6,.int .i64 s7] 225)):=(aI _ _).alloc (aM _) _;rw[show #[Value.int .i64 s0,.int .i64 s1,.int .i64 s2,.int .i64 s3,.int .i64 s4,.int .i64 s5,.int .i64 s6,.int .i64 s7]=(ints st).toArray by rw[Lq.out];rfl]at H2;replace H2:=aT H2 aP;replace H4:=aT H4 aP;replace H6:=aT H6 aP;replace HB:=aa (bg HB aP);obtain⟨B7,zp⟩: ∃B,B=w3.heap.size:=⟨_,rfl⟩
 rw[<-zp]at H7 azS⊢;generalize w3.alloc (.cells #[.int .i64 s0,.int .i64 s1,.int .i64 s2,.int .i64 s3,.int .i64 s4,.int .i64 s5,.int .i64 s6,.int .i64 s7] 225)=w4 at H2 H4 H6 H7 HB⊢;clear aP c20 c21 c22 c23 c24 c25 c26 c27 zp;go_loopw [32] (λi wr=> ∃k:Nat,k<=64/\i= .int .i64 k/\wr.heap[B7]?=some (.cells (ints (BH ws st k)).toArray 225 (0,0))/\wr.heap[B6]?=some (.cells (ints ws).toArray 292 (0,0))/\wr.heap[w.heap.size]?=some (.cells (ints st).toArray 225 (0,0))/\bj wr (w.heap.size+1) RE 225/\aD w wr) (λi _=>64 -(intOf i).toNat);case atStart=>exact⟨0,ae,rfl,H7,H6,H2,H4,HB⟩
 case round=>
  obtain⟨k,hk,rfl,h7,h6,h2,h4,hB⟩:=hrel;replace H7:=aa h7;replace H6:=aa h6;replace H2:=aa h2;replace H4:=aa h4;replace HB:=aa hB;clear h7 h6 h2 h4 hB;by_cases aK:k<64
  ·obtain⟨a,b,c,d,e,f,g,h,XU,ha,hb,hc,hd,he,hf,hg,hh⟩:=FQ (MI (ws:=ws) iW k);have Wa:=aa ha;have Wb:=aa hb;have Wc:=aa hc;have Wd':=aa hd;have We:=aa he;have Wf:=aa hf;have Wg:=aa hg;have Wh:=aa hh;have CG:=aa (show BH ws st (k+1)=RD (roundsT.getD k 0) (ws.getD k 0) [a,b,c,d,e,f,g,h] by rw[BH,XU]);rw[XU]at H7;have ky:=he.1;have aEv:=he.2;clear ha hb hc hd he hf hg hh XU;have cK:=(HR.below HB).cell aK;have cW:=(ft H6 (i:=k) (by rw[X5.out];exact aK)).1;have WK:=aa (zT amI k);have WW:=aa (zT Mk k);generalize roundsT.getD k 0=K at cK WK CG;generalize ws.getD k 0=X at cW WW CG;have CK:=aa cK;have CW:=aa cW;clear cK cW;go_wp2_with fail;have c0:wr.cell? ⟨B7,0,none⟩=some (.int .i64 a):=(ft H7 (i:=0) ak).1;have c1:wr.cell? ⟨B7,1,none⟩=some (.int .i64 b):=(ft H7 (i:=1) ak).1;have c2:wr.cell? ⟨B7,2,none⟩=some (.int .i64 c):=(ft H7 (i:=2) ak).1;have c3:wr.cell? ⟨B7,3,none⟩=some (.int .i64 d):=(ft H7 (i:=3) ak).1;go_quiet (fail);clear c0 c1 c2 c3;replace H7:Hid ((wr.drewN nq).heap[B7]?=_):=H7;replace H6:Hid ((wr.drewN nq).heap[B6]?=_):=H6;replace H2:Hid ((wr.drewN nq).heap[w.heap.size]?=_):=H2;replace H4:Hid ((wr.drewN nq).heap[w.heap.size+1]?=_):=H4;replace CK:Hid ((wr.drewN nq).cell? _=_):=CK;replace CW:Hid ((wr.drewN nq).cell? _=_):=CW;replace HB:=aa (tX HB nq);generalize wr.drewN nq=wq at H7 H6 H2 H4 HB CK CW⊢;go_wp2_with fail;have c4:wq.cell? ⟨B7,4,none⟩=some (.int .i64 e):=(ft H7 (i:=4) ak).1;have c5:wq.cell? ⟨B7,5,none⟩=some (.int .i64 f):=(ft H7 (i:=5) ak).1;have c6:wq.cell? ⟨B7,6,none⟩=some (.int .i64 g):=(ft H7 (i:=6) ak).1;have c7:wq.cell? ⟨B7,7,none⟩=some (.int .i64 h):=(ft H7 (i:=7) ak).1;go_quiet (fail);clear c4 c5 c6 c7;replace H7:Hid ((wq.drewN nq).heap[B7]?=_):=H7;replace H6:Hid ((wq.drewN nq).heap[B6]?=_):=H6;replace H2:Hid ((wq.drewN nq).heap[w.heap.size]?=_):=H2;replace H4:Hid ((wq.drewN nq).heap[w.heap.size+1]?=_):=H4;replace CK:Hid ((wq.drewN nq).cell? _=_):=CK;replace CW:Hid ((wq.drewN nq).cell? _=_):=CW;replace HB:=aa (tX HB nq);generalize wq.drewN nq=wx at H7 H6 H2 H4 HB CK CW⊢;go_wp2_with fail;have HX:aD wx wx.drew:=(aI _ _).drew;have cK:=CK.out;have cW:=CW.out;have dk:(k:Int)<64:=ae;have aO:IntKind.i64.wrap (4294967295 - e)=4294967295 - e:=IntWalk.i64_in _ ae;go_region_held3 (λw'=>w'.cell? ⟨0,k,none⟩=some (.int .i64 K)/\w'.cell? ⟨B6,k,none⟩=some (.int .i64 X))
    (first|exact⟨cK,cW⟩|exact i6 (by assumption) (by assumption)|exact t8 (by assumption))
    (first
     |(go_at_call 237;refine (RA _ _ _ (by exact We.out) ae ae).mono ?_;rintro _ w' ⟨rfl,hb⟩;replace HX:=bg HX hb)
     |(go_at_call 238;refine (aal _ _ _ (by first|exact We.out|exact RC We) (by first|exact Wf.out|exact Wg.out)).mono ?_;rintro _ w' ⟨rfl,hb⟩;replace HX:=bg HX hb)
     |(go_at_call 236;(first|(with_reducible refine (aam _ _ _ _ _ _ ak (by exact mw _ We.out) (by exact mw _ We.out) (by exact mw _ We.out)).mono ?_)|(with_reducible refine (amB _ _ _ _ _ ak (by exact xG We.out Wf.out) (by exact xG (RC We.out) Wg.out)).mono ?_));rintro _ w' ⟨rfl,hb⟩;replace HX:=jX HX hb)
     |(go_at_call 235;refine (Rz _ _ _ [_,_,_,_,_] _ (by exact jk _ _ _ _ ak) rfl ak (by exact wd5 Wh (amE We) (amG We Wf Wg) WK WW)).mono ?_;rintro _ w' ⟨rfl,hb⟩;replace HX:=jX HX hb))
   clear cK cW;go_wp2_with (first
    |(go_at_call 237;refine (RA _ _ _ (by exact Wa.out) ae ae).mono ?_;rintro _ w' ⟨rfl,hb⟩;replace HX:=bg HX hb)
    |(go_at_call 238;refine (aal _ _ _ (by first|exact Wa.out|exact Wb.out) (by first|exact Wb.out|exact Wc.out)).mono ?_;rintro _ w' ⟨rfl,hb⟩;replace HX:=bg HX hb)
    |(go_at_call 236;refine (aam _ _ _ _ _ _ ak (by first|exact mw _ Wa|exact xG Wa Wb) (by first|exact mw _ Wa|exact xG Wa Wc) (by first|exact mw _ Wa|exact xG Wb Wc)).mono ?_;rintro _ w' ⟨rfl,hb⟩;replace HX:=jX HX hb)
    |(go_at_call 235;refine (amC _ _ _ _ _ ak (by first|exact amF Wa|exact Wd'.out|exact tY _) (by first|exact amH Wa Wb Wc|exact tY _)).mono ?_;rintro _ w' ⟨rfl,hb⟩;replace HX:=jX HX hb;obtain⟨⟨c0,c1,c2,c3,c4,c5,c6,c7⟩,f0,f1,f2,f3,f4,f5,f6,f7⟩:=Jk (aJ H7 HX)))
   have hB:=bg HB HX;have mr:=amO (xs:= [a,b,c,d,e,f,g,h]) rfl (aJ H7 HX) (aJ H6 HX) (aJ H2 HX) (aJ H4 HX) hB ae ae ae ae hB.size (eU [uI K X e f g h,vI a b c]) a b c (eU [d,uI K X e f g h]) e f g;have ke:=aa mr;clear mr c0 c1 c2 c3 c4 c5 c6 c7 f0 f1 f2 f3 f4 f5 f6 f7 hB;go_roundw;case rel=>
    refine⟨k+1,ae,by go_num,?_⟩;rw[CG.out];exact ke.out
   case measure=>exact cM
  ·obtain rfl:k=64:=ae;have Ph:=aa (MI (ws:=ws) iW 64);generalize tu:BH ws st 64=fin at H7 Ph;have zx:=aa tu;clear tu;go_wp2_with fail;obtain⟨wo,sy⟩: ∃wo:World,wo=wr:=⟨_,rfl⟩
   rw[<-sy]at H7 H6 H2 H4 HB⊢;clear sy;go_loopw [114] (λi wr=> ∃k:Nat,k<=8/\i= .int .i64 k/\wr.heap[B7]?=some (.cells (ints (qE st fin k)).toArray 225 (0,0))/\wr.heap[w.heap.size]?=some (.cells (ints st).toArray 225 (0,0))/\bj wr (w.heap.size+1) RE 225/\aD w wr) (λi _=>8 -(intOf i).toNat);case atStart=>exact⟨0,ae,rfl,by rw[amL st fin Ph.1];exact H7.out,H2,H4,HB⟩
   case round=>
    obtain⟨i,hi,rfl,kZ,qk,QN,nG⟩:=hrel;clear H7 H6 H2 H4;by_cases Mf:i<8
    ·have s0:=(ft kZ (i:=i) (by rw[MJ];exact Mf)).1;have f0:=(ft kZ (i:=i) (by rw[MJ];exact Mf)).2;have t0:=(ft qk (i:=i) (by rw[iW.1];exact Mf)).1;rw[amM st fin i Mf]at s0;have KK:Wd (fin.getD i 0):=zT Ph.2 i;have L4:Wd (st.getD i 0):=zT iW.2 i;have cZ:=aa (amN st fin i Mf);have WB:=aa (zQ.2 ⟨L4,KK⟩);generalize fin.getD i 0=x at s0 cZ WB;generalize st.getD i 0=y at t0 cZ WB;have y8:=aa kZ;have Dg:=aa qk;have HZi:=aa QN;have mQ:=aa nG;have ii:(i:Int)<8:=ae;have hSl:=bf kZ;have aC7:=bf qk;clear kZ qk nG KK L4 QN;go_wp2_with fail;go_region_law (first|(go_simp;go_at_call 235;refine (aak _ _ _ [y,x] _ (by exact jk _ _ _ _ ak) rfl ak WB).mono ?_;rintro e w' ⟨rfl,rfl⟩));all_goals
      go_wp2_with fail
      have e1:=mv y8 i (eU [y,x])
      rw[cZ.out]at e1
      have e2:=(bz wr ⟨B7,i,none⟩ (.int .i64 (eU [y,x])) w.heap.size (by simp only;omega)).trans Dg.out
      have e4:=(bz wr ⟨B7,i,none⟩ (.int .i64 (eU [y,x])) (w.heap.size+1) (by simp only;omega)).trans HZi.out
      have e3:=mQ.setCell (p:=⟨B7,i,none⟩) (by simp only;omega) (.int .i64 (eU [y,x]))
      refine⟨?_,by simp[intOf];omega⟩
      repeat apply Exists.intro
      refine⟨⟨i+1,ae,by go_num,?_,?_,?_,?_⟩,rfl⟩
      ·exact (Below.heap_alloc _ _ _ (bf e1)).trans e1
      ·exact (Below.heap_alloc _ _ _ (bf e2)).trans e2
      ·exact (Below.heap_alloc _ _ _ (bf e4)).trans e4
      ·exact (e3.alloc e3.size _).drew
    ·obtain rfl:i=8:=ae;obtain⟨x0,x1,x2,x3,x4,x5,x6,x7,hx,_⟩:=FQ (aar st fin Ph.2 8);rw[hx]at kZ;obtain⟨⟨c0,c1,c2,c3,c4,c5,c6,c7⟩,f0,f1,f2,f3,f4,f5,f6,f7⟩:=Jk kZ;have hz:wr.heap[w.heap.size+1]?=some (.cells (ints [0,0,0,0,0,0,0,0]).toArray 225 (0,0)):=QN;obtain⟨⟨z0,z1,z2,z3,z4,z5,z6,z7⟩,g0,g1,g2,g3,g4,g5,g6,g7⟩:=Jk hz;have Hz:=aa hz;have mQ:=aa nG;have Hx:=aa hx;clear kZ qk QN hz nG hx;go_wp2_with fail;have h8:=RF (xs:= [0,0,0,0,0,0,0,0]) rfl Hz x0 x1 x2 x3 x4 x5 x6 x7;have hG:=RH wr (w.heap.size+1) x0 x1 x2 x3 x4 x5 x6 x7;have hr:=World.rangeAt_of_block h8 0 8;have hl:=run_loadVar_mid (P:=prog) _ (w.heap.size+1) 0 225 _ _ hr underlying225 rfl ax;refine bodyPost_ret (dJ rfl _ _ (w.heap.size+1) rfl _ hl) rfl ?_;refine⟨?_,mQ.trans (gZ hG ae mQ.size)⟩;rw[zx.out,Hx.out];rfl
theorem amQ (st:List Int) (s:ag) (w:World) (hR:cX w) (dE:qD st) (hs:s.size=64):
  Calls prog 160 #[.agg (ints st).toArray,.string s] w (bF w (.tuple #[.agg (ints (DH st s.data.toList)).toArray,.bool true])):=
 amP _ st s w hR dE hs (Jg _ (by simp[gI]) _) (Rs _ (Z6 _ _ _) _) λW=>amD s W hs
end
section
open Go.Shelf
variable {A B C W W':World} {g:Nat}
section
def nR:List Int:= [1779033703,3144134277,1013904242,2773480762,1359893119,2600822924,528734635,1541459225]
theorem amR:qD nR:=by
 refine⟨rfl,?_⟩;have h:nR.all (λx=>decide (0<=x)&&decide (x<=4294967295))=true:=bU;intro x hx;have:=List.all_eq_true.1 h x hx;simpa[Wd] using this
theorem amS (w:World):Calls prog 158 #[] w (bF w (.agg (ints nR).toArray)):=by
 go_in;go_wp2_with fail;refine bodyPost_ret (v:= .agg (ints nR).toArray) (by simp[results,results158,go_sem,ints,nR]) rfl ⟨rfl,(aI _ _).alloc (aM _) _⟩
def zX (n:Nat) (k:Nat):aF:=(List.range k).map λi=>UInt8.ofNat (n>>>(56 - 8*i))
def qF (n:Nat):Nat:=(119 - n % 64)% 64
def zY (n:Nat):aF:=128::List.replicate (qF n) 0++zX (8*n) 8
theorem aat (n:Nat):(zY n).length=9+qF n:=by simp[zY,zX];omega
theorem aau (m s:Nat):((m:Nat):Int)/ 2^s % 256=((UInt8.ofNat (m>>>s)).toNat:Int):=by
 simp[Nat.shiftRight_eq_div_pow]
set_option maxRecDepth 100000 in
theorem amT (n:Nat) (w:World) (hn:n<=1000000000):
  Calls prog 157 #[.int .i64 (n:Int)] w (bF w (.tuple #[.string (bs (zY n)),.bool true])):=by
 have hz:qF n<=63:=by unfold qF;omega
 go_in;go_wp2_with fail;go_loopw [4] (λv wr=> ∃(k g ai:Nat),1<=k/\k<=1+qF n/\v= .slice (aw g) k ai/\wr.ownsRow w.heap.size 5 1 v k (dK (128::List.replicate (k - 1) 0))/\aD w wr) (λv _=>100 - Z8 v);case atStart=>exact⟨1,w.heap.size,1,ae,ae,rfl,ME (aM _) rfl (by unfold maxLen;omega),(aI _ _).alloc (aM _) _⟩
 case round=>
  obtain⟨k,g,ai,gq,fC,rfl,ho,hb⟩:=hrel;have HO:=aa ho;clear ho;by_cases aK:k<1+qF n
  ·have aO:(((n:Int)+(k:Int)+8)% 64 !=0)=true:=by
    rw[bne_iff_ne];unfold qF at aK;omega
   go_wp2_with (refine oS ah (.tmp 20) (.tmp 21) 34 ah w.heap.size 5 (.int .u8 0) 1 1 underlying34 Rt rfl ae wr _ _ _ _ _ ah HO.out _ 1 1 ah ah ah ah ae ae ae (by exact hb.size) ?_);intro g2 eM w2 dy av _ _ _;have dl:=aa dy;clear dy;go_wp2;go_roundw;case rel=>
    refine⟨k+1,g2,eM,ae,ae,rfl,?_,hb.trans av⟩;have:=dl.out;rw[show dK (128::List.replicate (k - 1) 0)++ [Value.int .u8 0]=dK (128::List.replicate (k+1 - 1) 0) by
     rw[show k+1 - 1=(k - 1)+1 by omega,List.replicate_succ'];simp[dK]]at this
    exact this
   case measure=>simp[Z8];omega
  ·obtain rfl:k=1+qF n:=ae;have aO:(((n:Int)+((1+qF n:Nat):Int)+8)% 64 !=0)=false:=by
    rw[bne_eq_false_iff_eq];unfold qF;omega
   obtain⟨k,hk⟩: ∃k,k=1+qF n:=⟨_,rfl⟩
   rw[<-hk]at aO HO⊢;have Hk:=aa hk;have aAh:k<=64:=ae;clear hk gq fC aK;go_wp2_with fail;obtain⟨wo,sy⟩: ∃wo:World,wo=wr:=⟨_,rfl⟩
   rw[<-sy]at HO hb⊢;clear sy;go_loopw [4,23] (λv i wr=> ∃(j g ai:Nat),j<=8/\i= .int .i64 j/\v= .slice (aw g) (k+j) ai/\wr.ownsRow w.heap.size 5 1 v (k+j) (dK (128::List.replicate (k - 1) 0++zX (8*n) j))/\aD w wr) (λ_ i _=>8 -(intOf i).toNat);case atStart=>exact⟨0,g,ai,ae,rfl,rfl,by simpa[zX] using HO.out,hb⟩
   case round=>
    obtain⟨j,g,ai,hj,rfl,rfl,ho,hb⟩:=hrel;clear HO;have HO:=aa ho;clear ho;by_cases aK:j<8
    ·go_wp2_with (refine oS ah (.tmp 26) (.tmp 34) 34 ah w.heap.size 5 (.int .u8 0) 1 1 underlying34 Rt rfl ae wr _ _ _ _ _ ah HO.out _ 1 1 ah ah ah ah ae ae ae (by exact hb.size) ?_);intro g2 eM w2 dy av _ _ _;have dl:=aa dy;clear dy;go_wp2;go_roundw;case rel=>
      refine⟨j+1,g2,eM,ae,by go_num,by rw[Nat.add_assoc],?_,hb.trans av⟩;have:=dl.out;rw[show dK (128::List.replicate (k - 1) 0++zX (8*n) (j+1))=dK (128::List.replicate (k - 1) 0++zX (8*n) j)++ [Value.int .u8 ((UInt8.ofNat ((8*n)>>>(56 - 8*j))).toNat:Int)] by
       rw[zX,List.range_succ,List.map_append,<-zX];simp[dK]]
      rw[show k+(j+1)=k+j+1 by omega];rw[<-aau];exact this
     case measure=>exact cM
    ·obtain rfl:j=8:=ae;have il:=DF (gz HO.out) ai (k+8) (by have:=Hk.out;simp[zX];omega);go_wp2;go_ret2;refine⟨?_,hb⟩;rw[zY,show qF n=k - 1 by have:=Hk.out;omega];rfl
def rG (bs:List Nat) (W W':World):Prop:= ∀b∈bs,W'.heap[b]?=W.heap[b]?
theorem Jl {bs:List Nat} (h:rG bs A B) (k:rG bs B C):rG bs A C:=λb hb=>(k b hb).trans (h b hb)
theorem Jm {bs:List Nat} {w:World} (hn: ∀b∈bs,b<w.heap.size) (W:World) (l:Nat) (o o':Obj) (hl:w.heap.size<=l) (_:W.heap[l]?=some o) (_:o.isCells=false) (_:o.isWalk=false):rG bs W (W.putObj l o'):=λb hb=>by
 have aO:l≠b:=by have:=hn b hb;omega
 simp[World.putObj,aO]
theorem aav {bs:List Nat} (hn: ∀b∈bs,b<W.heap.size) (h:aD W W'):rG bs W W':=λb hb=>h.block b (hn b hb)
theorem aaw {bs:List Nat} (hn: ∀b∈bs,b<W.heap.size) (hg: ∀b∈bs,b≠g) (h:W.grownBy W' (some g)):rG bs W W':=λb hb=>h.block b (hn b hb) (λe=>hg b hb (bW e))
theorem ub (h:aD W W') (r:Option Nat):W.grownBy W' r:=⟨h.os,h.tape,h.output,h.size,λi hi _=>h.block i hi⟩
theorem Jn (h:A.grownBy B (some g)) (k:B.grownBy C (some g)):A.grownBy C (some g):=
 ⟨k.os.trans h.os,k.tape.trans h.tape,k.output.trans h.output,bD h.size k.size,λi hi aO=>(k.block i (jY hi h.size) aO).trans (h.block i hi aO)⟩
attribute [local go_sem] Oper.semAt_some
abbrev xI:= {b:ag // b.size=64}
def BJ (l:aF) (i:Nat):xI:=
 if h:((l.drop (64*i)).take 64).length=64 then ⟨bs ((l.drop (64*i)).take 64),h⟩ else ⟨bs (List.replicate 64 0),rfl⟩
theorem RK {l:aF} {i:Nat} (h:64*i+64<=l.length):(BJ l i).1=bs ((l.drop (64*i)).take 64):=by
 have:((l.drop (64*i)).take 64).length=64:=by simp;omega
 simp only[BJ,this,dif_pos]
def uc (l:aF) (k:Nat):List xI:=(List.range k).map (BJ l)
theorem RL (l:aF) (k:Nat):uc l (k+1)=uc l k++ [BJ l k]:=by simp[uc,List.range_succ]
theorem aax (l:aF) (k:Nat):(uc l k).length=k:=by simp[uc]
set_option maxHeartbeats 1000000 in
theorem ahs {P:Prop} (h:P:=by
 rw[lR,sD,List.take_of_length_le (Nat.le_of_eq (bP r)),Hr.out,List.drop_drop,Nat.mul_succ]):P:=h
theorem amU (F:Fence) (n:Nat) (hf:F.fn 233) (mn:F.round=none) (hn:1<=n) (l Bs Bb N:Nat) (s t:ag) (hs:s.size<=1000000000) (hN:s.size+t.size=64*N) (ht:t.size<=1000) (J Jx:List xI->World->Prop) (hY: ∀aQ x W,J aQ W->aQ.length<N->YieldAt F (n - 1) prog l #[.string x.1] W λe W'=>
   (e= .returned (.bool true)/\J (aQ++ [x]) W'/\rG [Bb] W W')\/(e= .returned (.bool false)/\Jx (aQ++ [x]) W')) (W:World) (LE:W.cell? ⟨Bs,0,none⟩=some (.string s)) (EN:W.cell? ⟨Bb,0,none⟩=some (.string t)) (h0:J [] W):
  CallsIn F n prog 233 #[.func (.yield l) #[] #[],.pointer (aw Bs),.pointer (aw Bb)] W λe W'=>(∃v,e= .returned v)/\
   ((∃ys,ys=uc (s.data.toList++t.data.toList) N/\J ys W')\/(∃aQ,True/\Jx aQ W')):=by
 have HY:=aa hY;have HN:=aa hN;obtain⟨L,hL⟩: ∃L,L=s.data.toList++t.data.toList:=⟨_,rfl⟩
 have HL:=aa hL;have hLl:L.length=64*N:=by rw[hL,dx,bP,bP];exact hN
 have Lm:=aa hLl;clear hL hLl hY hN;refine callsIn_of_wp func233 rfl hf ?_ mn;simp only[ntmps233,List.size_toArray,List.length_cons,List.length_nil,Nat.reduceAdd,Nat.reduceSub,Array.replicate_succ,Array.replicate_zero,List.push_toArray,List.append_toArray,List.nil_append,List.cons_append];gi_wp2;gi_loopw [4] (λv wr=> ∃(k:Nat) (r:ag),64*k<=s.size/\v= .string r/\r.data.toList=s.data.toList.drop (64*k)/\wr.cell? ⟨Bb,0,none⟩=some (.string t)/\J (uc L k) wr) (λv _=>MF v);case atStart=>exact⟨0,s,ae,rfl,rfl,EN,h0⟩
 case round=>
  obtain⟨k,r,hk,rfl,hr,CZ,hJ⟩:=hrel;have zt:r.size=s.size - 64*k:=by rw[<-bP,hr,List.length_drop,bP]
  by_cases aK:64<=r.size
  ·have hx:(BJ L k).1=r.extract 0 64:=by
    rw[RK (by rw[Lm.out,<-HN.out];omega),lR,HL.out,hr,List.drop_append_of_le_length (by rw[bP];omega),List.take_append_of_le_length (by rw[List.length_drop,bP];omega),List.drop_zero]
   obtain⟨fn,tmps,assign,body,hy,hR⟩:=HY.out _ (BJ L k) wr hJ (by rw[aax];have:=HN.out;omega);rw[hx]at hy;have Hr:=aa hr;have Hrs:=aa zt;have HR:=aa hR;clear hr zt hR hx;gi_wp2;refine HR.mono ?_;rintro e W3 (⟨rfl,hJ3,jx⟩|⟨rfl,hJx3⟩)
   ·have Lf:W3.cell? ⟨Bb,0,none⟩=some (.string t):=(fB (jx Bb ak)).trans CZ;gi_wp2;go_roundw;case rel=>
     refine⟨k+1,_,by have:=Hrs.out;omega,rfl,?_,Lf,by rw[RL];exact hJ3⟩;exact ahs
    case measure=>simp[MF];omega
   ·exact OJ
  ·have Hr:=aa hr;clear hr zt;gi_wp2;have fC:64*k<=s.size:=hk;gi_loopw [4] (λv wr=> ∃(k:Nat) (r:ag),k<=N/\v= .string r/\r.data.toList=L.drop (64*k)/\J (uc L k) wr) (λv _=>MF v);case atStart=>
    refine⟨k,_,by have:=HN.out;omega,rfl,?_,hJ⟩;rw[HL.out,List.drop_append_of_le_length (by rw[bP];omega),<-Hr.out];simp
   case round=>
    obtain⟨k,r,hk,rfl,hr,hJ⟩:=hrel;clear Hr;have zt:r.size=64*N - 64*k:=(by rw[<-bP,hr,List.length_drop,Lm.out]);by_cases aK:k<N
    ·have hx:(BJ L k).1=r.extract 0 64:=by
      rw[RK (by rw[Lm.out];omega),lR,hr,List.drop_zero]
     obtain⟨fn,tmps,assign,body,hy,hR⟩:=HY.out _ (BJ L k) wr hJ (by rw[aax];exact aK);rw[hx]at hy;have EO:64<=r.size:=ae;have aO: ¬r.toList= []:=(by rw[sG];omega);have va:r.toList.isEmpty=false:=toList_some r ae;have Hr:=aa hr;have HR:=aa hR;clear hr zt hR hx;gi_wp2;refine HR.mono ?_;rintro e W3 (⟨rfl,hJ3,jx⟩|⟨rfl,hJx3⟩)
     ·gi_wp2;go_roundw;case rel=>
       refine⟨k+1,_,ae,rfl,?_,by rw[RL];exact hJ3⟩;exact ahs
      case measure=>simp[MF];omega
     ·exact OJ
    ·obtain rfl:k=N:=ae;have aO:r.toList= []:=(by rw[sG];omega);clear hr zt;gi_wp2;go_end0;exact⟨⟨_,rfl⟩,.inl ⟨_,by rw[<-HL.out],hJ⟩⟩
theorem amV (F:Fence) (n:Nat) (hf:F.fn 159) (mn:F.round=none) (s t:ag) (w:World):
  CallsIn F n prog 159 #[.string s,.string t] w λe w'=>e= .returned (.func (.func 233) #[] #[.pointer (some ⟨w.heap.size,0,none⟩),.pointer (some ⟨w.heap.size+1,0,none⟩)])/\w'=(w.alloc (.cells #[.string s] 9)).alloc (.cells #[.string t] 9):=by
 refine callsIn_of_wp func159 rfl hf ?_ mn;simp only[ntmps159,List.size_toArray,List.length_cons,List.length_nil,Nat.reduceAdd,Nat.reduceSub,Array.replicate_succ,Array.replicate_zero,List.push_toArray,List.append_toArray,List.nil_append,List.cons_append];exact G1
attribute [local go_sem] Oper.semAt_some
def BK (aQ:List xI):List Int:=aQ.foldl (λst b=>DH st b.1.data.toList) nR
theorem aay (aQ:List xI) (x:xI):BK (aQ++ [x])=DH (BK aQ) x.1.data.toList:=by simp[BK]
theorem aaz: ∀(aQ:List xI) {st:List Int},qD st->qD (aQ.foldl (λst b=>DH st b.1.data.toList) st)
 | [],_,h=>h
 |x::aQ,st,h=>aaz aQ (aas h _)
theorem RM (aQ:List xI):qD (BK aQ):=aaz aQ amR
def FR (l:aF):Nat->List Int
 |0=>nR
 |k+1=>DH (FR l k) ((l.drop (64*k)).take 64)
theorem aaA (l:aF): ∀k,64*k<=l.length->BK (uc l k)=FR l k
 |0,_=>rfl
 |k+1,h=>by
  rw[RL,aay,aaA l k ae,RK ae,FR];rfl
def jA (s:aF):aF:=lu (FR (s++zY s.length) ((s.length+(zY s.length).length)/ 64)) true
theorem amW (n:Nat): ∃N,n+(zY n).length=64*N:=by
 rw[aat];exact⟨(n+(9+qF n))/ 64,by unfold qF;omega⟩
theorem amX (b:Nat) (t:TypeId) (f:List xI->Array Value):Own (λaQ W=>W.heap[b]?=some (.cells (f aQ) t (0,0))):=λs A B row hs hg hr=>by
 exact Ox
set_option maxHeartbeats 1000000 in
theorem FS (s:ag) (w:World) (hR:cX w) (hs:s.size<=1000000000):
  Calls prog 90 #[.string s] w (bF w (.string (bs (jA s.data.toList)))):=by
 have HR:=aa hR;obtain⟨N,hN⟩:=amW s.size;have HN:=aa hN;clear hR hN;refine (callsIn_wide (n:=3)).1 ?_;refine callsIn_of_wp_marks func90 rfl trivial ?_ rfl;simp only[ntmps90,List.size_toArray,List.length_cons,List.length_nil,Nat.reduceAdd,Nat.reduceSub,Array.replicate_succ,Array.replicate_zero,List.push_toArray,List.append_toArray,List.nil_append,List.cons_append];gi_wp2_with (first
  |(refine⟨trivial,?_⟩;gi_at_call 157;refine (callsIn_wide.2 (amT s.size _ hs)).mono ?_;rintro e w1 ⟨rfl,cS⟩)
  |(refine⟨trivial,?_⟩;gi_at_call 158;refine (callsIn_wide.2 (amS _)).mono ?_;rintro e w2 ⟨rfl,cl⟩;rw[show (ints nR).toArray= #[.int .i64 1779033703,.int .i64 3144134277,.int .i64 1013904242,.int .i64 2773480762,.int .i64 1359893119,.int .i64 2600822924,.int .i64 528734635,.int .i64 1541459225] from rfl])
  |(refine⟨trivial,?_⟩;gi_at_call 159;refine (amV Fence.wide _ trivial rfl _ _ _).mono ?_;rintro e w3 ⟨rfl,rfl⟩))
 have dV:=aa (bg cS cl);clear cS cl;obtain⟨t,ht⟩: ∃t,t=bs (zY s.size):=⟨_,rfl⟩
 rw[<-ht];have Wk:s.size+t.size=64*N:=by rw[ht,ei];exact HN.out
 have htl:t.size<=1000:=by rw[ht,ei,aat];unfold qF;omega
 have Ht:=aa ht;obtain⟨B5,nI⟩: ∃B,B=w2.heap.size:=⟨_,rfl⟩
 have h5:=aR w2 (.cells (ints nR).toArray 225);have ru:=aR (w2.alloc (.cells (ints nR).toArray 225)) (.cells #[.string s] 9);have aY:=aR ((w2.alloc (.cells (ints nR).toArray 225)).alloc (.cells #[.string s] 9)) (.cells #[.string t] 9);simp only[World.size_alloc]at ru aY;rw[<-nI]at h5 ru aY;have Q8:aD w (((w2.alloc (.cells (ints nR).toArray 225)).alloc (.cells #[.string s] 9)).alloc (.cells #[.string t] 9)):=((dV.alloc dV.size _).alloc (by have:=dV.size;simp;omega) _).alloc (by have:=dV.size;simp;omega) _;have Iv:=(Below.heap_alloc ((w2.alloc (.cells (ints nR).toArray 225)).alloc (.cells #[.string s] 9)) (.cells #[.string t] 9) B5 (by simp;omega)).trans ((Below.heap_alloc (w2.alloc (.cells (ints nR).toArray 225)) (.cells #[.string s] 9) B5 (by simp;omega)).trans h5);have ake:=(Below.heap_alloc ((w2.alloc (.cells (ints nR).toArray 225)).alloc (.cells #[.string s] 9)) (.cells #[.string t] 9) (B5+1) (by simp;omega)).trans ru;have cg:(((w2.alloc (.cells (ints nR).toArray 225)).alloc (.cells #[.string s] 9)).alloc (.cells #[.string t] 9)).heap.size=B5+1+1+1:=by simp[nI]
 have azN:w.heap.size<=B5:=by rw[nI];exact dV.size
 change Code.wpIn _ _ _ _ _ _ (((w2.alloc (.cells (ints nR).toArray 225)).alloc (.cells #[.string s] 9)).alloc (.cells #[.string t] 9));simp only[<-nI];generalize ((w2.alloc (.cells (ints nR).toArray 225)).alloc (.cells #[.string s] 9)).alloc (.cells #[.string t] 9)=w3 at Q8 Iv ake aY cg⊢;clear h5 ru ht nI;refine wpIn_rangeFunc_ownF rfl ae (gf:=233) (lb:= #[.pointer (some ⟨B5+1,0,none⟩),.pointer (some ⟨B5+1+1,0,none⟩)]) rfl trivial (enters_of func233 ax rfl)
  (encs:=λx:xI=> #[.string x.1]) (Kp:=rG [B5+1+1]) (S:=λys=>ys=uc (s.data.toList++t.data.toList) N) (Sp:=λ_=>True) (N:=N) (w0:=w3)
  (λl J Jx W hW _ _ hY h0=>amU Fence.wide 2 trivial rfl ae l (B5+1) (B5+1+1) N s t hs Wk htl J Jx hY W (cell_of_one (aJ ake hW)) (cell_of_one (aJ aY hW)) h0)
  Jl (Jm (by simp[cg])) (aI _ _) (λ_=>rfl)
  (λaQ W=>W.heap[B5]?=some (.cells (ints (BK aQ)).toArray 225 (0,0))/\aD w W/\B5+1+1<W.heap.size)
  (λ_ _ _=>False)
  (OwnFrom.and (Own.from (amX _ _ _) _) (OwnFrom.and (ownFrom_below (aM _) ae) (λ_ _ _ _ hs hg _=>jY hs hg.size)))
  (λ_ _ _ _ _ hs _ _=>hs)
  ⟨Iv,Q8,ae⟩ ?a1 ?assign ?body ?done ?stop
 case assign=>
  intro l x W K hK;gi_wp2;exact hK
 case body=>
  rintro l aQ x W ⟨h5,hB,hWs⟩ ey;have dG:=aa (aay aQ x);obtain⟨y0,y1,y2,y3,y4,y5,y6,y7,hy,_⟩:=FQ (aas (RM aQ) x.1.data.toList);have Hy:=aa hy;have Bc:=RM aQ;have sf:=aa Bc;obtain⟨x0,x1,x2,x3,x4,x5,x6,x7,hx,_⟩:=FQ Bc;rw[hx]at h5;have Hx:=aa hx;obtain⟨⟨c0,c1,c2,c3,c4,c5,c6,c7⟩,f0,f1,f2,f3,f4,f5,f6,f7⟩:=Jk h5;have H5:=aa h5;clear h5 hy hx Bc;have hd:1<=3 - 1 - 1:=ae;gi_wp2_with (refine⟨trivial,?_⟩;gi_at_call 160;refine (CallsIn.inRound l (callsIn_wide.2 (by have:=amQ (BK aQ) x.1 W (HR.below hB) sf x.2;rw[Hx.out]at this;exact this))).mono ?_;rintro e w' ⟨rfl,hb⟩;have H5':=aT H5 hb;clear c0 c1 c2 c3 c4 c5 c6 c7 f0 f1 f2 f3 f4 f5 f6 f7;obtain⟨⟨c0,c1,c2,c3,c4,c5,c6,c7⟩,f0,f1,f2,f3,f4,f5,f6,f7⟩:=Jk H5'.out;rw[show (ints (DH [x0,x1,x2,x3,x4,x5,x6,x7] x.1.data.toList)).toArray= #[.int .i64 y0,.int .i64 y1,.int .i64 y2,.int .i64 y3,.int .i64 y4,.int .i64 y5,.int .i64 y6,.int .i64 y7] by rw[<-Hx.out,Hy.out];rfl]);rename_i w';have hG:=Jn (ub hb (some B5)) (RH w' B5 y0 y1 y2 y3 y4 y5 y6 y7);have h8:=RF (xs:= [x0,x1,x2,x3,x4,x5,x6,x7]) rfl H5' y0 y1 y2 y3 y4 y5 y6 y7;have Xi:=hG.size;refine⟨KeepsOthers.of_grownBy hG (λj o e ho=>?_),aaw ?_ ?_ hG,?_,?_,jY hWs Xi⟩
  ·obtain rfl:=bW e;rw[H5.out]at ho;obtain rfl:=bW ho;rfl
  ·simp;omega
  ·simp;omega
  ·rw[dG.out,Hy.out];exact h8
  ·exact hB.trans (gZ hG azN hB.size)
 case done=>
  rintro D ys W hD rfl ⟨h5,hB,_⟩ hK;have hN2:=HN.out;have Hto:=aa (aaA (s.data.toList++t.data.toList) N (by rw[dx,bP,bP];omega));have sf:=aa (RM (uc (s.data.toList++t.data.toList) N));generalize BK (uc (s.data.toList++t.data.toList) N)=st at h5 Hto sf;have ev:Hid (Rd W (aw B5) (ints st)):=aa (by
   intro j u hu;have hj:j<st.length:=by
    rcases mg j st.length with h|h
    ·exact h
    ·simp[ints,h]at hu
   refine⟨B5,0,rfl,?_⟩;rw[Nat.zero_add,(ft h5 hj).1];simpa[ints,hj] using hu)
  have HK:=aa hK;clear h5 hK;gi_wp2_with (refine⟨trivial,?_⟩;gi_at_call 153;refine (callsIn_wide.2 (Ry _ _ _ st _ ev sf.1.symm (by rw[sf.1];decide) (Je sf.2))).mono ?_;rintro e w' ⟨rfl,hb⟩);have uY:=aJ HK hb;refine⟨ak,.inl ⟨_,_,rfl,run_takeDeferred uY,?_⟩⟩;refine⟨_,results_tmp rfl _ _ _,?_,(bg hB hb).trans (belowK_b (w:=w) (aM _) _ D _ _ ae uY rfl rfl)⟩;rw[Hto.out,jA];show Ending.returned (.string (bs (lu (FR (s.data.toList++t.data.toList) N) true)))=_;have e1:zY s.data.toList.length=t.data.toList:=by rw[Ht.out];rfl
  have e2:(s.data.toList.length+t.data.toList.length)/ 64=N:=by rw[bP,bP];omega
  rw[e1,e2]
 case stop=>
  rintro D c aQ W _ _ h _;exact h.elim
theorem FT (s:aF):(jA s).length=32:=by
 rw[jA,oP];have: ∀l k,(FR l k).length=8:=λl k=>by
  cases k with
  |zero=>rfl
  |succ k=>exact MJ _ _ _
 rw[this]
end
end
variable {H:Nat}
def D0 (s:ag):ag:=⟨#[0]⟩++s
def D1 (a b:ag):ag:=⟨#[1]⟩++a++b
def vR (s:ag):ag:=bs (jA (D0 s).data.toList)
def D3 (a b:ag):ag:=bs (jA (D1 a b).data.toList)
theorem asH (s:ag):(vR s).size=32:=by unfold vR;rw[ei,FT]
theorem asI (a b:ag):(D3 a b).size=32:=by unfold D3;rw[ei,FT]
def lE (n:Nat):Bool:=decide (1<=n)&&decide (n<=1024)&&decide (n&&&(n - 1)=0)
theorem acG {n:Nat} (h:lE n=true): ∃H,H<=10/\n=2^H:=by
 have key: ∀m,m<1025->lE m=true-> ∃H,H<11/\m=2^H:=bU;have hn:n<1025:=by
  simp only[lE,Bool.and_eq_true,decide_eq_true_eq]at h;omega
 obtain⟨H,h1,h2⟩:=key n hn h;exact⟨H,ae,h2⟩
def pS:List ByteArray->List ByteArray
 |a::b::r=>D3 a b::pS r
 |_=> []
theorem TB: ∀l:List ag,(pS l).length=l.length / 2
 | []=>rfl
 | [_]=>by simp[pS]
 |a::b::r=>by
  show (pS r).length+1=(r.length+1+1)/ 2;rw[TB r];omega
theorem acH: ∀(l:List ag) (q:Nat) (h:2*q+1<l.length),(pS l)[q]?=some (D3 (l[2*q]'ae) (l[2*q+1]))
 | [],_,h=>absurd h (Nat.not_lt_zero _)
 | [_],q,h=>by simp at h
 |a::b::r,0,h=>rfl
 |a::b::r,q+1,h=>by
  have h2:2*q+1<r.length:=by simp only[List.length_cons]at h;omega
  have:=acH r q h2;show (pS r)[q]?=_;rw[this];rfl
theorem asJ (l:List ag) (q:Nat) (h:2*q+1<l.length):(pS l).take (q+1)=(pS l).take q++ [D3 (l[2*q]'ae) (l[2*q+1])]:=by
 have h1:=acH l q h;rw[List.take_add_one,h1];rfl
def lev (l:List ag):Nat->List ByteArray
 |0=>l.map vR
 |h+1=>pS (lev l h)
theorem acI (l:List ag) (h:Nat):(lev l h).length=l.length / 2^h:=by
 induction h with
 |zero=>simp[lev]
 |succ h ih=>rw[lev,TB,ih,Nat.pow_succ,Nat.div_div_eq_div_mul]
theorem acJ: ∀l:List ag,∀s∈pS l,s.size=32
 | []=>by simp[pS]
 | [_]=>by simp[pS]
 |a::b::r=>λs hs=>by
  rcases List.mem_cons.1 hs with rfl|hs
  ·exact asI a b
  ·exact acJ r s hs
theorem acK (l:List ag) (h:Nat): ∀s∈lev l h,s.size=32:=by
 cases h with
 |zero=>
  intro s hs;obtain⟨x,_,rfl⟩:=List.mem_map.1 hs;exact asH x
 |succ h=>exact acJ _
def Cg (l:List ag) (H:Nat):ag:=(lev l H).getD 0 ⟨#[]⟩
theorem acL {l:List ag} (h:l.length=2^H):(lev l H).length=1:=by rw[acI,h,Nat.div_self (Nat.pos_of_ne_zero ak)]
theorem acM {l:List ag} (h:l.length=2^H):lev l H= [Cg l H]:=by
 have hl:=acL h;match hm:lev l H,hl with
 | [x],_=>unfold Cg;rw[hm];rfl
theorem asK {l:List ag} (h:l.length=2^H):(Cg l H).size=32:=acK l H _ (by rw[acM h];simp)
def iQ (l:List ag):ag:=Cg l (Nat.log2 l.length)
theorem acN {l:List ag} (h:l.length=2^H):iQ l=Cg l H:=by
 unfold iQ;rw[h,Nat.log2_two_pow]
theorem asL {l:List ag} (h:lE l.length=true):(iQ l).size=32:=by
 obtain⟨H,_,h2⟩:=acG h;rw[acN h2];exact asK h2
end Go.Proofs.YtaglcaocpcbiiaaGreatDoor
