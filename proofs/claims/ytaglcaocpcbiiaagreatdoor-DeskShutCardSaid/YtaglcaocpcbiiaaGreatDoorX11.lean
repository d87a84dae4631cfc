import Derived.Test.YtaglcaocpcbiiaaGreatDoorX08
import Derived.Test.YtaglcaocpcbiiaaGreatDoorX07
import Derived.Test.YtaglcaocpcbiiaaGreatDoorX06
import Derived.Test.YtaglcaocpcbiiaaGreatDoorX05
import Derived.Lib.Split
import Derived.Lib.Strings
import Derived.Shelf.Lays
import Derived.Shelf.Strings.Split
import Derived.Shelf.Strings.Prefix
import Derived.Lib.SplitLaws
import Derived.Lib.ItoaLen
set_option linter.unusedVariables false
set_option linter.unusedSimpArgs false
set_option maxRecDepth 100000
set_option maxHeartbeats 3000000
namespace Go.Proofs.YtaglcaocpcbiiaaGreatDoor
open Go.Proofs.Tryz Go.RowKit
structure aW where
 ns:List ByteArray
 ds:List az
 r:dS
 wr:ByteArray
 ch:az
 v:dW
 sp:az
 pt:Int
 nx:Int
 lm:Int
 an:List Int
 op:Bool
 ms:ByteArray
inductive Tl where
 |ok (s:ag)
 |er (e:Int)
def dU:ag:=⟨#[32]⟩
def ny:ag:=⟨#[10]⟩
def dP (s rh:ag):List ag:=Lib.splitB rh 0 (Lib.countB s rh) s
def Eb (s p:ag):ag:=⟨(Lib.trimSuffix s.data.toList p.data.toList).toArray⟩
def jp (s:ag):List ag:=if s.size=0 then [] else dP (Eb s ny) ny
def fc (n:Int):ag:=⟨(Lib.itoa n).toArray⟩
def yq:List UInt8->Nat->Option Nat
 | [],n=>some n
 |c::l,n=>if c.toNat<48\/57<c.toNat then none else if 1000000<n*10+(c.toNat - 48) then none else yq l (n*10+(c.toNat - 48))
def yr (s:ag):Option Nat:=if s.size=0\/1<s.size/\s.data.toList.head?=some 48 then none else yq s.data.toList 0
def jR:List UInt8->List ByteArray->Option (List Int)
 | [],_=>some []
 |_::_,[]=>none
 |c::f,x::l=>
  if c=110 then
   match yr x with
   |none=>none
   |some n=>(jR f l).map ((n:Int):: ·)
  else (jR f l).map ((0:Int):: ·)
def oo (f:aF) (more:Bool) (ws:List ag):Option (List Int):=if ws.length<f.length\/more≠decide (f.length<ws.length) then none else jR f ws
def pX:Int:=1000000000
def jS (n:Int):ag:=⟨((List.range 12).map λj=>if j<4 then (0:UInt8) else UInt8.ofNat ((n / 2^(8*(11 - j)))% 256).toNat).toArray⟩
def fN (P:az) (pt nx lm:Int):ByteArray×Int×Int×az×Int:=
 if¬(0<=nx/\nx<=lm/\lm<=pX) then (bo,0,0,bI,1)
 else if nx<lm then (jS nx,nx+1,lm,P,0)
 else if pX<lm+16 then (bo,0,0,bI,150)
 else if (eC P pt (fc (lm+16)) (-1)).2.2≠0 then (bo,0,0,bI,(eC P pt (fc (lm+16)) (-1)).2.2)
 else if (eC P pt (fc (lm+16)) (-1)).2.1=false then (bo,nx,lm,(eC P pt (fc (lm+16)) (-1)).1,0)
 else (jS nx,nx+1,lm+16,(eC P pt (fc (lm+16)) (-1)).1,0)
def dX (S:aW):aW×ByteArray×Int:=
 if (fN S.sp S.pt S.nx S.lm).2.2.2.2≠0 then (S,bo,(fN S.sp S.pt S.nx S.lm).2.2.2.2)
 else ({S with nx:=(fN S.sp S.pt S.nx S.lm).2.1,lm:=(fN S.sp S.pt S.nx S.lm).2.2.1,sp:=(fN S.sp S.pt S.nx S.lm).2.2.2.1},(fN S.sp S.pt S.nx S.lm).1,0)
def gT:ag:=⟨#[111,107]⟩
def pY (P:az) (dQ:Int) (s:ag):az×Int:=
 if fY P=false then (bI,1) else if gJ P.ss.length dQ=false then (bI,130) else if 128<s.size then (bI,2)
 else (⟨P.ss.set dQ.toNat s,P.cs⟩,0)
def mb (g:Int):Bool:=decide (0<=g)&&decide (g<=pX)
def rU (l:List Int):Bool:=decide (l.length<=16)&&l.all mb
def kO (l:List Int) (i g:Int):List Int×Int:=
 if rU l=false\/i<0\/(l.length:Int)<=i then ([],1)
 else if g<l.getD i.toNat 0\/mb g=false then ([],250)
 else (l.set i.toNat g,0)
def NF (l:List Int) (a:Int):List Int:=l.filter λg=>decide (a<=((l.countP λx=>decide (g<=x):Nat):Int))
def oq (l:List Int) (a:Int):Int×Int:=
 if rU l=false\/a<1\/(l.length:Int)<a then (0,1) else ((NF l a).foldl max 0,0)
def jT (seed:ag) (n:Int):ByteArray×Int:=
 if n<0 then (bo,1) else if 65536<n then (bo,120) else (bs ((pR seed).take n.toNat),0)
def pp (n:Int):az×Int:=if countB n.toNat=true then TF n.toNat else (bI,1)
def mc (seed cred:ag) (ns:List ag) (k n:Int):Option aW×Tl:=
 if kJ seed ns k 1≠0 then (none,.er (kJ seed ns k 1))
 else if (pp n).2≠0 then (none,.er (pp n).2)
 else if (lZ (gE cred)).2≠0 then (none,.er (lZ (gE cred)).2)
 else
  let D:=du seed ns k 1
  let R:=ij D (List.replicate ns.length (lZ (gE cred)).1) (-1)
  if R.2.2≠0 then (none,.er R.2.2)
  else
   let M:=jT (seed++⟨#[47,109,97,115,116,101,114]⟩) 32
   if M.2≠0 then (none,.er M.2)
   else
    let N:=fN (gD 3) 0 0 0
    if N.2.2.2.2≠0 then (none,.er N.2.2.2.2)
    else if nh D.sec N.1 M.1≠0 then (none,.er (nh D.sec N.1 M.1:Nat))
    else
     let O:=cR (pp n).1
     if O.2≠0 then (none,.er O.2)
     else (some ⟨ns,R.1,D.r,qI D.sec N.1 M.1,(pp n).1,O.1.V,N.2.2.2.1,0,N.2.1,N.2.2.1,List.replicate ns.length 0,true,M.1⟩,.ok gT)
def ik (cred:ag) (ns:List ag) (p:List az×List fM) (nm:ag):List az×List fM:=
 let i:=Lib.idxOfS ns nm
 if i<0 then p
 else
  let t:=kH (p.1.getD i.toNat bI) (gE cred) (-1)
  (if t.e=0\/t.e=211 then p.1.set i.toNat t.p else p.1,if t.e=0 then p.2++ [⟨nm,t.salt,t.x,t.b⟩] else p.2)
def vX (S:aW) (cred:ag) (l:List ag):aW×Tl:=
 let q:=l.foldl (ik cred S.ns) (S.ds,[])
 let S':= {S with ds:=q.1}
 if xS S.r q.2 S.wr≠0 then (S',.er (xS S.r q.2 S.wr:Nat)) else ({S' with ms:=BV S.r q.2 S.wr,op:=true},.ok gT)
def jq (S:aW):aW:= {S with ms:=bo,op:=false}
def AF:ag:=⟨#[116,101,120,116,32]⟩
def nz (S:aW) (i:Int):aW×Tl:=
 if S.op=false then (S,.er 212)
 else if um S.v S.ms i≠0 then (S,.er (um S.v S.ms i:Nat)) else (S,.ok (AF++un S.v S.ms i))
def yu (S:aW) (i:Int) (s:ag):aW×Tl:=
 if S.op=false then (S,.er 212)
 else if (dX S).2.2≠0 then (S,.er (dX S).2.2)
 else if sY S.v S.ms (dX S).2.1 i s≠0 then ((dX S).1,.er (sY S.v S.ms (dX S).2.1 i s:Nat))
 else ({(dX S).1 with v:=uo S.v S.ms (dX S).2.1 i s},.ok gT)
def TU:ag:=⟨#[115,116,111,112,112,101,100]⟩
def Gy (S:aW) (aH:Int):aW×Tl:=
 if S.op=false then (S,.er 212)
 else
  let R:=iB S.ch S.v aH
  if R.2.2≠0 then (S,.er R.2.2)
  else if R.2.1=true then ({S with ch:=R.1},.ok gT)
  else if (eW [] R.1).2≠0 then (S,.er (eW [] R.1).2)
  else if (cR (eW [] R.1).1).2≠0 then (S,.er (cR (eW [] R.1).1).2)
  else (jq {S with ch:=(eW [] R.1).1,v:=(cR (eW [] R.1).1).1.V},.ok TU)
def Gz:ag:=⟨#[103,101,110,32]⟩
def GA (S:aW):aW×Tl:=
 if (cR S.ch).2≠0 then (S,.er (cR S.ch).2) else ({S with v:=(cR S.ch).1.V},.ok (Gz++fc ((cR S.ch).1.gen:Nat)))
def GC (S:aW) (i:Int) (s:ag):aW×Tl:=
 if (pY S.ch i s).2≠0 then (S,.er (pY S.ch i s).2) else ({S with ch:=(pY S.ch i s).1},.ok gT)
def TV:ag:=⟨#[107,101,112,116]⟩
def TW:ag:=⟨#[101,112,111,99,104,32]⟩
def me (l:List az) (e:Int):List az×Int:=
 if kq (λP=>(eW [] P).2) l≠0 then ([],kq (λP=>(eW [] P).2) l)
 else l9 (l.map λP=>(eW [] P).1) e
def Cm (S:aW) (seed:ag) (k aH:Int):aW×Tl:=
 if S.op=false then (S,.er 212)
 else if (dX S).2.2≠0 then (S,.er (dX S).2.2)
 else
  let S1:=(dX S).1
  let s:=(dX S).2.1
  let e:=S.r.e+1
  if kJ seed S.ns k e≠0 then (S1,.er (kJ seed S.ns k e))
  else
   let D:=du seed S.ns k e
   if nh D.sec s S.ms≠0 then (S1,.er (nh D.sec s S.ms:Nat))
   else
    let R:=ij D S.ds aH
    if R.2.2≠0 then (S1,.er R.2.2)
    else
     let T:=if R.2.1=true then (R.1,0) else me R.1 e
     if T.2≠0 then (S1,.er T.2)
     else
      let h:=dr (T.1.getD 0 bI)
      if h.2≠0 then (S1,.er h.2)
      else if h.1.epoch≠e then ({S1 with ds:=T.1},.ok TV)
      else ({S1 with ds:=T.1,r:=D.r,wr:=qI D.sec s S.ms},.ok (TW++fc e))
def TX:ag:=⟨#[112,97,112,101,114,115]⟩
def GD (S:aW) (seed:ag) (n k:Int):aW×Tl:=
 if S.op=false then (S,.er 212)
 else
  let t:=jT seed (32*(k - 1))
  if t.2≠0 then (S,.er t.2)
  else if pL S.ms t.1 n k=false then (S,.er 1)
  else (S,.ok ((nk S.ms.data.toList t.1.data.toList n.toNat (k - 1).toNat).foldl (λa s=>a++(dU++s)) TX))
def AG (l:List ag) (k:Int):Int:=if k<1\/255<k then 1 else if ((nv (gR l)).length:Int)<k then 240 else 0
def Ec (l:List ag) (k:Int):ag:=if AG l k=0 then bs (nj ((nv (gR l)).take k.toNat) 0) else ⟨#[]⟩
theorem atI (l:List ag) (k:Int):Ea l k= .tuple #[.string (Ec l k),.int .i64 (AG l k)]:=by
 unfold Ea Ec AG;split
 ·rfl
 ·split<;>rfl
def NG (S:aW) (k:Int) (l:List ag):aW×Tl:=
 if AG l k≠0 then (S,.er (AG l k)) else ({S with ms:=Ec l k,op:=true},.ok gT)
def NH (S:aW) (nm:ag) (g:Int):aW×Tl:=
 if (kO S.an (Lib.idxOfS S.ns nm) g).2≠0 then (S,.er (kO S.an (Lib.idxOfS S.ns nm) g).2) else ({S with an:=(kO S.an (Lib.idxOfS S.ns nm) g).1},.ok gT)
def NI (S:aW) (a:Int):aW×Tl:=
 if (oq S.an a).2≠0 then (S,.er (oq S.an a).2) else (S,.ok (Gz++fc (oq S.an a).1))
def TY:ag:=⟨#[32,111,112,101,110]⟩
def adv:ag:=⟨#[32,115,104,117,116]⟩
def GE (S:aW):aW×Tl:=(S,.ok (fc S.r.e++if S.op=true then TY else adv))
def tg (s:ag):Option (List UInt8×Bool×Nat):=
 (([([110,101,119],([116,116,110,110],true,0)),
  ([117,110,108,111,99,107],([116],true,1)),
  ([108,111,99,107],([],false,2)),
  ([114,101,97,100],([110],false,3)),
  ([119,114,105,116,101],([110,116],false,4)),
  ([102,108,117,115,104],([110],false,5)),
  ([108,111,97,100],([],false,6)),
  ([116,97,109,112,101,114],([110,116],false,7)),
  ([101,112,111,99,104],([116,110,110],false,8)),
  ([101,115,99,114,111,119],([116,110,110],false,9)),
  ([114,101,99,111,118,101,114],([110],true,10)),
  ([97,110,99,104,111,114],([116,110],false,11)),
  ([107,110,111,119,110],([110],false,12)),
  ([115,104,111,119],([],false,13))]:List (List UInt8×(List UInt8×Bool×Nat))).find? λp=>decide (p.1=s.data.toList)).map Prod.snd
def ix (l:List Int) (i:Nat):Int:=l.getD i 0
def wx (l:List ag) (i:Nat):ag:=l.getD i ⟨#[]⟩
def uu (c:Nat) (S:aW) (ws:List ag) (ms:List Int):aW×Tl:=
 if c=1 then vX S (wx ws 0) (ws.drop 1)
 else if c=2 then (jq S,.ok gT)
 else if c=3 then nz S (ix ms 0)
 else if c=4 then yu S (ix ms 0) (wx ws 1)
 else if c=5 then Gy S (ix ms 0)
 else if c=6 then GA S
 else if c=7 then GC S (ix ms 0) (wx ws 1)
 else if c=8 then Cm S (wx ws 0) (ix ms 1) (ix ms 2)
 else if c=9 then GD S (wx ws 0) (ix ms 1) (ix ms 2)
 else if c=10 then NG S (ix ms 0) (ws.drop 1)
 else if c=11 then NH S (wx ws 0) (ix ms 1)
 else if c=12 then NI S (ix ms 0)
 else GE S
def yv:ag:=⟨#[119,104,97,116]⟩
def yw:ag:=⟨#[110,111,110,101]⟩
def GF:ag:=⟨#[101,114,114,111,114,32]⟩
def mI:Tl->ByteArray
 | .ok s=>s
 | .er e=>GF++fc e
def fw (R:Option aW) (s:ag):Option aW×ByteArray:=
 match tg (wx (dP s dU) 0) with
 |none=>(R,yv)
 |some (f,more,c)=>
  match oo f more ((dP s dU).drop 1) with
  |none=>(R,yv)
  |some ms=>
   if c=0 then
    let B:=mc (wx ((dP s dU).drop 1) 0) (wx ((dP s dU).drop 1) 1) ((dP s dU).drop 5) (ix ms 2) (ix ms 3)
    (B.1.or R,mI B.2)
   else match R with
    |none=>(none,yw)
    |some S=>(some (uu c S ((dP s dU).drop 1) ms).1,mI (uu c S ((dP s dU).drop 1) ms).2)
def fA:Option aW->List ByteArray->ByteArray->ByteArray
 |_,[],a=>a
 |R,s::l,a=>fA (fw R s).1 l (a++(fw R s).2++ny)
def jU (s:ag):ag:=fA none (jp s) ⟨#[]⟩
def mf (s:ag):ByteArray×Int:=if 6000<s.size then (⟨#[]⟩,2) else (jU s,0)
end Go.Proofs.YtaglcaocpcbiiaaGreatDoor
namespace Go.Proofs.YtaglcaocpcbiiaaGreatDoor
open Go.Proofs.Tryz Go.Shelf
def atW:Nat->Nat
 |102=>32
 |104=>80
 |109=>102
 |138=>135
 |143=>136
 |146=>31
 |195=>217
 |197=>218
 |207=>137
 |209=>78
 |211=>138
 |217=>277
 |218=>219
 |219=>220
 |221=>77
 |224=>279
 |225=>278
 |260=>276
 |266=>329
 |267=>280
 |268=>134
 |314=>330
 |n=>n
def atX:Nat->Nat
 |0=>0
 |3=>3
 |4=>4
 |5=>5
 |9=>9
 |21=>21
 |24=>137
 |31=>28
 |46=>295
 |51=>337
 |105=>274
 |119=>375
 |138=>377
 |139=>378
 |146=>345
 |n=>n
def atY:Nat->Nat
 |1=>2
 |3=>4
 |4=>5
 |n=>n
def NL:Go.Shelf.Ren:=⟨atW,atX,atY⟩
theorem atZ:Lays.n102 prog NL:= {
 mixed:=ax
 f102:=func32.trans (congrArg some ax)
 f207:=func137.trans (congrArg some ax)
 f209:=func78.trans (congrArg some ax)
 t3:=underlying3
 a3:=Tryz.isAgg3
 z3:=Tryz.sizeOf3
 v3:=zeroValue3
 t4:=underlying4
 a4:=Tryz.isAgg4
 z4:=Tryz.sizeOf4
 v4:=zeroValue4
 t9:=underlying9
 a9:=Tryz.isAgg9
 z9:=Tryz.sizeOf9
 v9:=zeroValue9
}
theorem at0:Lays.n104 prog NL:= {
 mixed:=ax
 f104:=func80.trans (congrArg some ax)
 f207:=func137.trans (congrArg some ax)
 f211:=func138.trans (congrArg some ax)
 t3:=underlying3
 a3:=Tryz.isAgg3
 z3:=Tryz.sizeOf3
 v3:=zeroValue3
 t4:=underlying4
 a4:=Tryz.isAgg4
 z4:=Tryz.sizeOf4
 v4:=zeroValue4
 t9:=underlying9
 a9:=Tryz.isAgg9
 z9:=Tryz.sizeOf9
 v9:=zeroValue9
 t24:=underlying137
 a24:=Tryz.isAgg137
 z24:=Tryz.sizeOf137
 v24:=zeroValue137
}
theorem ady:Lays.n109 prog NL:= {
 mixed:=ax
 f109:=func102.trans (congrArg some ax)
 t0:=underlying0
 a0:=Tryz.isAgg0
 z0:=Tryz.sizeOf0
 v0:=zeroValue0
 t3:=underlying3
 a3:=Tryz.isAgg3
 z3:=Tryz.sizeOf3
 v3:=zeroValue3
 t4:=underlying4
 a4:=Tryz.isAgg4
 z4:=Tryz.sizeOf4
 v4:=zeroValue4
 t9:=underlying9
 a9:=Tryz.isAgg9
 z9:=Tryz.sizeOf9
 v9:=zeroValue9
 t31:=underlying28
 a31:=Tryz.isAgg28
 z31:=Tryz.sizeOf28
 v31:=zeroValue28
}
theorem adz:Lays.n146 prog NL:= {
 mixed:=ax
 f138:=func135.trans (congrArg some ax)
 f143:=func136.trans (congrArg some ax)
 f146:=func31.trans (congrArg some ax)
 f195:=func217.trans (congrArg some ax)
 f197:=func218.trans (congrArg some ax)
 f217:=func277.trans (congrArg some ax)
 f218:=func219.trans (congrArg some ax)
 f219:=func220.trans (congrArg some ax)
 f221:=func77.trans (congrArg some ax)
 f224:=func279.trans (congrArg some ax)
 f225:=func278.trans (congrArg some ax)
 f260:=func276.trans (congrArg some ax)
 f266:=func329.trans (congrArg some ax)
 f267:=func280.trans (congrArg some ax)
 f268:=func134.trans (congrArg some ax)
 f314:=func330.trans (congrArg some ax)
 t0:=underlying0
 a0:=Tryz.isAgg0
 z0:=Tryz.sizeOf0
 v0:=zeroValue0
 t3:=underlying3
 a3:=Tryz.isAgg3
 z3:=Tryz.sizeOf3
 v3:=zeroValue3
 t4:=underlying4
 a4:=Tryz.isAgg4
 z4:=Tryz.sizeOf4
 v4:=zeroValue4
 t5:=underlying5
 a5:=Tryz.isAgg5
 z5:=Tryz.sizeOf5
 v5:=zeroValue5
 t9:=underlying9
 a9:=Tryz.isAgg9
 z9:=Tryz.sizeOf9
 v9:=zeroValue9
 t21:=underlying21
 a21:=Tryz.isAgg21
 z21:=Tryz.sizeOf21
 v21:=zeroValue21
 t31:=underlying28
 a31:=Tryz.isAgg28
 z31:=Tryz.sizeOf28
 v31:=zeroValue28
 t46:=underlying295
 a46:=Tryz.isAgg295
 z46:=Tryz.sizeOf295
 v46:=zeroValue295
 t51:=underlying337
 a51:=Tryz.isAgg337
 z51:=Tryz.sizeOf337
 v51:=zeroValue337
 t105:=underlying274
 a105:=Tryz.isAgg274
 z105:=Tryz.sizeOf274
 v105:=zeroValue274
 t119:=underlying375
 a119:=Tryz.isAgg375
 z119:=Tryz.sizeOf375
 t138:=underlying377
 a138:=Tryz.isAgg377
 z138:=Tryz.sizeOf377
 v138:=zeroValue377
 t139:=underlying378
 a139:=Tryz.isAgg378
 z139:=Tryz.sizeOf378
 v139:=zeroValue378
 t146:=underlying345
 a146:=Tryz.isAgg345
 z146:=Tryz.sizeOf345
 v146:=zeroValue345
 g1:=ax
 g3:=ax
 g4:=ax
}
end Go.Proofs.YtaglcaocpcbiiaaGreatDoor
namespace Go.Proofs.YtaglcaocpcbiiaaGreatDoor
open Go.Proofs.Tryz Go.RowKit
def Ee (w:World):Prop:= ∃m,w.cell? ⟨2,0,none⟩=some (.int .i64 m)
theorem Ee.below {w w':World} (h:Ee w) (hb:aD w w'):Ee w':=by
 obtain⟨m,hm⟩:=h;exact⟨m,(hb.cell (cU hm)).trans hm⟩
def adA (w:World) (l:List ag) (e:Ending) (w':World):Prop:=
 ∃A n c,e= .returned (.slice A n c)/\n=l.length/\Rd w' A (aZ l)/\(∀b o s,A=some ⟨b,o,s⟩->w.heap.size<=b)/\aD w w'
theorem T0 (s rh:ag) (h1:1<=rh.size):(dP s rh).length=Lib.countB s rh+1:=Lib.splitB_all rh h1 0 _ s rfl
theorem at1 (s rh:ag) (w:World) (hM:Ee w) (hs:s.size<4294967281) (h1:1<=rh.size):
  Calls prog 31 #[.string s,.string rh] w (adA w (dP s rh)):=by
 obtain⟨m,hm⟩:=hM;refine (Any.strings_Split adz ax s rh m w hs hm h1).mono λe w' ⟨h2,h3⟩=>?_;subst h3;refine⟨_,_,_,h2,(T0 s rh h1).symm,?_,λb o s' h=>?_,be w _⟩
 ·have:=qC w 9 ((Lib.splitB rh 0 (Lib.countB s rh) s).map Value.string).toArray;exact this
 ·first
  |(cases h;done)
  |(cases h;exact aM _)
theorem at2 (s p:ag):(Eb s p).size<=s.size:=by
 unfold Eb Lib.trimSuffix;split
 ·show (List.take _ s.data.toList).toArray.size<=s.size;simp
 ·exact aM _
theorem at3 (s:ag) (w:World) (hM:Ee w) (hs:s.size<4294967281):
  Calls prog 11 #[.string s] w (adA w (jp s)):=by
 by_cases h0:s=⟨#[]⟩
 ·subst h0;have hL:jp ⟨#[]⟩= []:=rfl;rw[hL];go_in;go_wp2;go_ret;exact⟨none,0,0,rfl,rfl,Rd.nil _ _,λ_ _ _ h=>by (cases h),aI _ _⟩
 ·have hz:s.size≠0:=λh=>h0 (by
   apply ByteArray.ext;exact Array.eq_empty_of_size_eq_zero h)
  have e1:s.toList.isEmpty=false:=toList_some s hz;have hL:jp s=dP (Eb s ny) ny:=by unfold jp;rw[if_neg hz]
  rw[hL];have HT:=aa (Any.strings_TrimSuffix atZ s ny w ae);have HS:=aa (at1 (Eb s ny) ny w hM (OX (at2 s ny) hs) au);clear h0 hz hL hM hs;go_in;go_wp2_with fail;refine HT.mono ?_;rintro e w1 ⟨rfl,rfl⟩;go_wp2_with fail;refine HS.mono ?_;rintro e w2 ⟨A,n,c,rfl,h1,h2,h3,h4⟩;have H:=aa (And.intro h1 (And.intro h2 (And.intro h3 h4)));clear h1 h2 h3 h4;go_wp2;go_ret;exact⟨A,n,c,rfl,H⟩
section
open Go.Shelf
theorem at7:LaysM.n171 prog adB:= {adC with
 i0:=ax
 i2:=ax
 i3:=ax
 i4:=ax
 i5:=ax
 i9:=ax
 i20:=ax
 i37:=ax
 i46:=ax
 i51:=ax
 i53:=ax
 i171:=ax
 i173:=ax
 i212:=ax
 i232:=ax
 i233:=ax
 m17:=ax
 m18:=ax
 m19:=by kernel_rfl}
def uv (w:World):Prop:=Lib.TabIs prog w "internal/strconv.uint64pow10" .u64 Lib.pow10Tab
theorem uv.below {w w':World} (h:uv w) (hb:aD w w'):uv w':=by
 unfold uv Lib.TabIs World.var? at*;cases hg:prog.globalNamed "internal/strconv.uint64pow10" with
 |none=>simp[hg]at h
 |some g=>
  simp only[hg,Option.bind_some]at h⊢;have aK:g<w.heap.size:=by
   rcases mg g w.heap.size with h'|h'
   ·exact h'
   ·rw[Array.getElem?_eq_none h']at h;cases h
  rw[hb.block g aK];exact h
theorem NM (n:Int) (h0: -9223372036854775808<=n) (h1:n<=9223372036854775807):(fc n).size<=21:=by
 unfold fc;exact Lib.itoa_length_le n h0 h1
theorem at8 (w:World) (k:Nat) (os:Array Obj):aD w (Sort.grow (w.drewN k) os):=
 ⟨rfl,rfl,rfl,by simp[Sort.grow,World.drewN],λi hi=>by simp[Sort.grow,World.drewN,Array.getElem?_append,hi]⟩
theorem Kc (n:Int) (w:World) (hP:uv w) (h0: -9223372036854775808<=n) (h1:n<=9223372036854775807):
  Calls prog 36 #[.int .i64 n] w (bF w (.string (fc n))):=
 (Any.strconv_Itoa at7 n h0 h1 w hP).mono λe w' ⟨h,k,os,hw⟩=>⟨h,hw▸at8 w k os⟩
end
section
variable {A:aN} {B ai k n:Nat} {P:Prop} {e:TypeId} {w:World} {xs:bJ}
theorem adD (g:Int) (w:World):Calls prog 130 #[.int .i64 g] w (eu w (.bool (mb g))):=by
 unfold mb pX;by_cases h1:0<=g
 ·have e1:decide (0<=g)=true:=decide_eq_true h1;rw[e1,Bool.true_and];exact jt
 ·have e1:decide (0<=g)=false:=decide_eq_false h1;rw[e1,Bool.false_and];exact jt
theorem at9 (g x:Int) (b:Nat) (w:World) (h:w.cell? ⟨b,0,none⟩=some (.int .i64 g)):Calls prog 132 #[.int .i64 x,.pointer (aw b)] w (eu w (.bool (decide (x>=g)))):=by
 exact jt
theorem adE {l:List Int} {p:Int->Bool} (hk:k<l.length):(l.take (k+1)).countP p=(l.take k).countP p+(if p (l.getD k 0)=true then 1 else 0):=by
 rw[List.take_succ_eq_append_getElem hk,List.countP_append,List.countP_cons,List.countP_nil,show l.getD k 0=l[k] by simp[hk]];simp
theorem U' (h:P:=by
 obtain rfl:k=n:=ae;have e1: ¬(k:Int)<(k:Int):=ae;have hT:l.take k=l:=by rw[HN.out];exact List.take_of_length_le (aM _)
 rw[hT];clear hT;exact tp):P:=h
theorem af7 (h:P:=by
 clear hy;go_wp2;go_roundw;case rel=>exact⟨trivial,k+1,ae,by go_num,by rw[gV.out];go_num⟩
 case measure=>exact cM):P:=h
theorem ahM (h:P:=by
 clear hy;go_wp2;go_roundw;case rel=>exact⟨trivial,k+1,ae,by go_num,by rw[gV.out]⟩
 case measure=>exact cM):P:=h
theorem aua (A:aN) (n c:Nat) (l:List Int) (w:World) (hr:Rd w A (ints l)) (hn:n=l.length) (hl:n<=1000000):
  Calls prog 131 #[.slice A n c,.func (.func 130) #[] #[]] w (eu w (.int .i64 (l.countP (mb):Nat))):=by
 have HR:=aa hr;have HN:=aa hn;clear hr hn;go_in;go_wp2_with fail;go_loopw [5,10] (λs x wr=>wr=w/\ ∃k:Nat,k<=n/\x= .int .i64 (k:Nat)/\s= .int .i64 (((l.take k).countP (mb):Nat):Int)) (λ_ x _=>n -(intOf x).toNat);case atStart=>exact⟨rfl,0,ae,rfl,rfl⟩
 case round=>
  obtain⟨rfl,k,hk,rfl,rfl⟩:=hrel;by_cases aK:k<n
  ·have cY:k<l.length:=by rw[<-HN.out];exact aK
   have e1:(k:Int)<(n:Int):=ae;obtain⟨b,aS,hA,hc⟩:=HR.int_at cY;subst hA;have Hs:=aa (adE (p:=mb) cY);have eT:(l.take k).countP (mb)<=k:=bD List.countP_le_length (by simp;omega);generalize (l.take k).countP (mb)=q at Hs eT⊢;generalize l.getD k 0=y at hc Hs;go_wp2_with fail;refine (adD y _).mono ?_;rintro e w1 ⟨rfl,rfl⟩;cases hy:(mb y:Bool) with
   |true=>
    have gV:=aa (show (l.take (k+1)).countP (mb)=q+1 by rw[Hs.out];simp[hy]);exact af7
   |false=>
    have gV:=aa (show (l.take (k+1)).countP (mb)=q by rw[Hs.out];simp[hy]);exact ahM
  ·exact U'
theorem aub (A:aN) (n c:Nat) (l:List Int) (g:Int) (b0:Nat) (w:World) (hr:Rd w A (ints l)) (hn:n=l.length) (hl:n<=1000000) (h0:w.cell? ⟨b0,0,none⟩=some (.int .i64 g)):
  Calls prog 131 #[.slice A n c,.func (.func 132) #[] #[.pointer (aw b0)]] w λe w'=>e= .returned (.int .i64 (l.countP (λx=>decide (x>=g)):Nat))/\w'=w:=by
 have HR:=aa hr;have HN:=aa hn;clear hr hn;go_in;go_wp2_with fail;go_loopw [5,10] (λs x wr=>wr=w/\ ∃k:Nat,k<=n/\x= .int .i64 (k:Nat)/\s= .int .i64 (((l.take k).countP (λx=>decide (x>=g)):Nat):Int)) (λ_ x _=>n -(intOf x).toNat);case atStart=>exact⟨rfl,0,ae,rfl,rfl⟩
 case round=>
  obtain⟨rfl,k,hk,rfl,rfl⟩:=hrel;by_cases aK:k<n
  ·have cY:k<l.length:=by rw[<-HN.out];exact aK
   have e1:(k:Int)<(n:Int):=ae;obtain⟨b,aS,hA,hc⟩:=HR.int_at cY;subst hA;have Hs:=aa (adE (p:=λx=>decide (x>=g)) cY);have eT:(l.take k).countP (λx=>decide (x>=g))<=k:=bD List.countP_le_length (by simp;omega);generalize (l.take k).countP (λx=>decide (x>=g))=q at Hs eT⊢;generalize l.getD k 0=y at hc Hs;go_wp2_with fail;refine (at9 g y b0 _ h0).mono ?_;rintro e w1 ⟨rfl,rfl⟩;cases hy:(decide (y>=g):Bool) with
   |true=>
    have gV:=aa (show (l.take (k+1)).countP (λx=>decide (x>=g))=q+1 by rw[Hs.out];simp[hy]);exact af7
   |false=>
    have gV:=aa (show (l.take (k+1)).countP (λx=>decide (x>=g))=q by rw[Hs.out];simp[hy]);exact ahM
  ·exact U'
theorem auc (l:List Int):(decide (((l.countP mb:Nat):Int)=(l.length:Nat)))=l.all mb:=by
 by_cases h:l.all mb=true
 ·rw[h,List.countP_eq_length.2 (by simpa[List.all_eq_true] using h)];simp
 ·have aO:l.countP mb≠l.length:=λe=>h (by
   have:=List.countP_eq_length.1 e;simpa[List.all_eq_true] using this)
  rw[show l.all mb=false by simpa using h];exact decide_eq_false ae
theorem T1 (A:aN) (n c:Nat) (l:List Int) (w:World) (hr:Rd w A (ints l)) (hn:n=l.length) (hl:n<=1000000):
  Calls prog 129 #[.slice A n c] w (eu w (.bool (rU l))):=by
 have HC:=aa (λW h=>aua A n c l W h hn hl);have HR:=aa hr;have HA:=aa (auc l);have hq:l.countP mb<=l.length:=List.countP_le_length;unfold rU;rw[<-HA.out,<-hn];rw[<-hn]at hq;generalize l.countP mb=q at HC hq⊢;clear hr hn;by_cases h1:n<=16
 ·have e1:decide ((n:Int)<=16)=true:=decide_eq_true ae;have e2:decide (n<=16)=true:=decide_eq_true h1;rw[e2,Bool.true_and];go_in;go_wp2_with fail;refine (HC _ HR).mono ?_;rintro e w1 ⟨rfl,rfl⟩;exact tp
 ·have e1:decide ((n:Int)<=16)=false:=decide_eq_false ae;have e2:decide (n<=16)=false:=decide_eq_false h1;rw[e2,Bool.false_and];exact jt
theorem aud {l:List Int} (hk:k<l.length):(l.take (k+1)).foldl max 0=max ((l.take k).foldl max 0) (l.getD k 0):=by
 rw[List.take_succ_eq_append_getElem hk,List.foldl_append,show l.getD k 0=l[k] by simp[hk]];rfl
theorem aue (A:aN) (n c:Nat) (l:List Int) (w:World) (hr:Rd w A (ints l)) (hn:n=l.length) (hl:n<=1000000):
  Calls prog 133 #[.slice A n c] w (eu w (.int .i64 (l.foldl max 0))):=by
 have HR:=aa hr;have HN:=aa hn;clear hr hn;go_in;go_wp2_with fail;go_loopw [3,8] (λs x wr=>wr=w/\ ∃k:Nat,k<=n/\x= .int .i64 (k:Nat)/\s= .int .i64 ((l.take k).foldl max 0)) (λ_ x _=>n -(intOf x).toNat);case atStart=>exact⟨rfl,0,ae,rfl,rfl⟩
 case round=>
  obtain⟨rfl,k,hk,rfl,rfl⟩:=hrel;by_cases aK:k<n
  ·have cY:k<l.length:=by rw[<-HN.out];exact aK
   have e1:(k:Int)<(n:Int):=ae;obtain⟨b,aS,hA,hc⟩:=HR.int_at cY;subst hA;have Hs:=aa (aud cY);generalize (l.take k).foldl max 0=q at Hs⊢;generalize l.getD k 0=y at hc Hs;go_wp2;go_roundw;case rel=>exact⟨trivial,k+1,ae,by go_num,by rw[Hs.out]⟩
   case measure=>exact cM
  ·exact U'
theorem auf {g:Nat} (h:w.ownsRow B e 1 (.slice (aw g) n ai) n xs) (i:Nat) (hi:i<n) (u:Value):(w.setCell ⟨g,i,none⟩ u).ownsRow B e 1 (.slice (aw g) n ai) n (xs.set i u):=by
 refine⟨by rw[List.length_set];exact h.1,?_⟩;rcases h.2 with⟨hv,_⟩|⟨g1,lH,bK,hv,hB,hg,h1,h2,hc,ht⟩
 ·cases hv
 ·injection hv with e1 e2 e3
  injection e1 with e1
  injection e1 with e1
  subst e1 e3;refine .inr ⟨g,ai,bK.setIfInBounds i u,rfl,hB,heap_setCell_same w g i bK e u hg,h1,h2,by simpa using hc,?_⟩;rw[<-ht];simp[List.take_set]
theorem NN (h:w.ownsRow B e 1 (.slice A n ai) n xs):Rd w A xs:=by
 intro i u hu;rcases h.2 with⟨hv,h0⟩|⟨g1,lH,bK,hv,hB,hg,h1,h2,hc,ht⟩
 ·subst h0;have:=h.1;rw[Nat.zero_mul]at this;rw[List.eq_nil_of_length_eq_zero this]at hu;simp at hu
 ·injection hv with e1 e2 e3
  subst e1;refine⟨g1,0,rfl,?_⟩;rw[cell_of_row w g1 _ bK e (0,0) hg];rw[<-ht,Nat.mul_one,List.getElem?_take]at hu;split at hu
  ·rw[Nat.zero_add,<-Array.getElem?_toList];exact hu
  ·cases hu
theorem adF (h:w.ownsRow B e 1 (.slice A n ai) n xs): ∀b o s,A=some ⟨b,o,s⟩->B<=b:=by
 intro b o s hA;subst hA;rcases h.2 with⟨hv,h0⟩|⟨g1,lH,bK,hv,hB,_⟩
 ·cases hv
 ·injection hv with e1
  injection e1 with e1
  injection e1 with e1
  subst e1;exact hB
theorem aug (l:List Int): ∀u∈ints l,u.oneCell'=true:=by
 intro u hu;unfold ints at hu;obtain⟨x,_,rfl⟩:=List.mem_map.1 hu;rfl
theorem auh (l:List Int) (i:Nat) (g:Int):(ints l).set i (.int .i64 g)=ints (l.set i g):=by simp[ints,List.map_set]
def GH (w:World) (r:List Int×Int) (e:Ending) (w':World):Prop:=
 ∃A n c,e= .returned (.tuple #[.slice A n c,.int .i64 r.2])/\n=r.1.length/\Rd w' A (ints r.1)/\(∀b o s,A=some ⟨b,o,s⟩->w.heap.size<=b)/\aD w w'
theorem GH.no (w:World) (x:Int):GH w ([],x) (.returned (.tuple #[ay,.int .i64 x])) w:=⟨none,0,0,rfl,rfl,Rd.nil _ _,λ_ _ _ h=>by (cases h),aI _ _⟩
theorem Vl (h:P:=by
 clear hq hS;go_in;go_wp2_with fail;refine (tz _ HR).mono ?_;rintro e w1 ⟨rfl,rfl⟩;go_wp2;go_ret2;exact GH.no _ 1):P:=h
theorem aui (A:aN) (n c:Nat) (l:List Int) (i g:Int) (w:World) (hr:Rd w A (ints l)) (hn:n=l.length) (hl:n<=1000000):
  Calls prog 74 #[.slice A n c,.int .i64 i,.int .i64 g] w (GH w (kO l i g)):=by
 have tz:=aa (λW h=>T1 A n c l W h hn hl);have HR:=aa hr;have HN:=aa hn;clear hr hn;cases hq:rU l with
 |false=>
  have hS:kO l i g=([],1):=by unfold kO;rw[if_pos (.inl hq)]
  rw[hS];rw[hq]at tz;exact Vl
 |true=>
 rw[hq]at tz;by_cases h1:i<0
 ·have hS:kO l i g=([],1):=by unfold kO;rw[if_pos (.inr (.inl h1))]
  rw[hS];have d1:decide (i<0)=true:=decide_eq_true h1;exact Vl
 by_cases h2:(n:Int)<=i
 ·have hS:kO l i g=([],1):=by unfold kO;rw[if_pos (.inr (.inr (by rw[<-HN.out];exact h2)))]
  rw[hS];have d1:decide (i<0)=false:=decide_eq_false h1;have d2:decide (i>=(n:Int))=true:=decide_eq_true h2;exact Vl
 obtain⟨k,rfl⟩:=Int.eq_ofNat_of_zero_le (show 0<=i by omega);have hk:k<n:=ae;have cY:k<l.length:=by rw[<-HN.out];exact hk
 have ji: ¬(rU l=false\/(k:Int)<0\/(l.length:Int)<=(k:Int)):=by rw[hq,<-HN.out];simp;omega
 have d1:decide ((k:Int)<0)=false:=decide_eq_false h1;have d2:decide ((k:Int)>=(n:Int))=false:=decide_eq_false h2;obtain⟨b,aS,hA,hc⟩:=HR.int_at cY;subst hA;have HG:=aa (λW=>adD g W);by_cases h3:g<l.getD k 0
 ·have hS:kO l k g=([],250):=by unfold kO;rw[if_neg ji,if_pos (.inl (by simpa using h3))]
  rw[hS];generalize l.getD k 0=y at hc h3;have d3:decide (g<y)=true:=decide_eq_true h3;clear hq hS ji;go_in;go_wp2_with fail;refine (tz _ HR).mono ?_;rintro e w1 ⟨rfl,rfl⟩;go_wp2;go_ret2;exact GH.no _ 250
 cases hg:mb g with
 |false=>
  have hS:kO l k g=([],250):=by unfold kO;rw[if_neg ji,if_pos (.inr hg)]
  rw[hS];rw[hg]at HG;generalize l.getD k 0=y at hc h3;have d3:decide (g<y)=false:=decide_eq_false h3;clear hq hS ji hg;go_in;go_wp2_with fail;refine (tz _ HR).mono ?_;rintro e w1 ⟨rfl,rfl⟩;go_wp2_with fail;refine (HG _).mono ?_;rintro e w1 ⟨rfl,rfl⟩;go_wp2;go_ret2;exact GH.no _ 250
 |true=>
  have hS:kO l k g=(l.set k g,0):=by unfold kO;rw[if_neg ji,if_neg (by rw[hg];simpa using h3)];rfl
  rw[hS];rw[hg]at HG;generalize l.getD k 0=y at hc h3;have d3:decide (g<y)=false:=decide_eq_false h3;clear hq hS ji hg;go_in;go_wp2_with fail;refine (tz _ HR).mono ?_;rintro e w1 ⟨rfl,rfl⟩;go_wp2_with fail;refine (HG _).mono ?_;rintro e w1 ⟨rfl,rfl⟩;go_wp2_with (at_builtin;refine Na ah (.const (ay)) (.tmp 33) 55 ah w1.heap.size 3 (.int .i64 0) 1 8 underlying55 rD rfl ae ah (some ⟨b,aS,none⟩) n c ah (ints l) (by exact HR.out) (by simp[ints,<-HN.out]) (aug _) ae ae (aM _) ?_);intro A1 lH w2 fQ aG;obtain⟨g1,mh⟩: ∃g1,A1=some ⟨g1,0,none⟩:=by
   rcases fQ.2 with⟨hv,h0⟩|⟨g1,_,_,hv,_⟩
   ·omega
   ·injection hv with e1
    exact⟨g1,e1⟩
  subst mh;have HB:=aa aG;have dl:=aa (auf fQ k hk (.int .i64 g));rw[auh]at dl;obtain⟨cs9,t9,h9⟩: ∃cs t,w2.heap[g1]?=some (.cells cs t (0,0)):=by
   rcases fQ.2 with⟨hv,h0⟩|⟨g2,_,bK,hv,_,hh,_⟩
   ·omega
   ·injection hv with e1
    injection e1 with e1
    injection e1 with e1
    subst e1;exact⟨_,_,hh⟩
  have hf9:=frozen_of_row w2 g1 k cs9 t9 h9;obtain⟨b9,o9,Ww,Fi⟩:=NN fQ k _ (cL (show k<(ints l).length by simp[ints,<-HN.out];exact hk));injection Ww with Ww
  injection Ww with e7 e8
  subst e7 e8;rw[Nat.zero_add]at Fi;clear fQ aG;go_wp2;go_ret2;exact⟨_,n,lH,rfl,by simp[<-HN.out],NN dl,adF dl,HB.trans (jQ (adF dl g1 0 none rfl) _)⟩
def GO (nx lm:Int):Bool:=decide (0<=nx)&&(decide (nx<=lm)&&decide (lm<=pX))
theorem avE (b:Nat) (nx lm:Int) (w:World) (c1:w.cell? ⟨b,1,none⟩=some (.int .i64 nx)) (c2:w.cell? ⟨b,2,none⟩=some (.int .i64 lm)):
  Calls prog 174 #[.pointer (aw b)] w (bF w (.bool (GO nx lm))):=by
 unfold GO pX;by_cases h1:0<=nx
 ·have e1:decide (0<=nx)=true:=decide_eq_true h1;by_cases h2:nx<=lm
  ·have e2:decide (nx<=lm)=true:=decide_eq_true h2;rw[e1,e2,Bool.true_and,Bool.true_and];exact OH
  ·have e2:decide (nx<=lm)=false:=decide_eq_false h2;rw[e1,e2,Bool.true_and,Bool.false_and];exact OH
 ·have e1:decide (0<=nx)=false:=decide_eq_false h1;rw[e1,Bool.false_and];exact OH
theorem avF (b:Nat) (lm:Int) (w:World) (hP:uv w) (h0:0<=lm) (h1:lm<=pX) (c2:w.cell? ⟨b,2,none⟩=some (.int .i64 lm)):
  Calls prog 176 #[.pointer (aw b)] w (bF w (.string (fc (lm+16)))):=by
 unfold pX at h1;have HI:=aa (Kc (lm+16) w hP ae ae);have hw:IntKind.i64.wrap (lm+16)=lm+16:=by
  unfold IntKind.wrap;simp[IntKind.bits,IntKind.signed];omega
 exact agL
def tm (n j:Nat):Nat:=if j<4 then 0 else n / 2^(8*(11 - j))% 256
theorem avG (n:Nat):jS (n:Int)=bs ((List.range 12).map λj=>UInt8.ofNat (tm n j)):=by
 unfold jS bs;refine congrArg (λl:List UInt8=>(⟨l.toArray⟩:ag)) ?_;refine List.map_congr_left λj _=>?_;have e:((n:Int)/ 2^(8*(11 - j))% 256)=((n / 2^(8*(11 - j))% 256:Nat):Int):=by norm_cast
 rw[e,Int.toNat_natCast];unfold tm;by_cases h:j<4
 ·rw[if_pos h,if_pos h];rfl
 ·rw[if_neg h,if_neg h]
theorem aep (n:Nat) (w:World) (h:(n:Int)<=pX):Calls prog 177 #[.int .i64 (n:Int)] w (bF w (.tuple #[.string (jS n),.int .i64 0])):=by
 unfold pX at h;have hn:n<=1000000000:=ae;have d1:decide ((n:Int)<0)=false:=decide_eq_false ae;have d2:decide ((n:Int)>1000000000)=false:=decide_eq_false ae;have HQ:=aa (avG n);have j6: ∀W,(Instr.makeSlice 34 (.int .i64 12) (.int .i64 12)).run prog W= .ok (.slice (some ⟨W.heap.size,0,none⟩) 12 12) (W.alloc (.cells (madeCells #[.int .u8 0] 12) 5)):=λW=>run_make_row' (P:=prog) 34 5 (.int .u8 0) 1 underlying34 Jc rfl .i64 .i64 12 ae ae W;go_in;go_wp2_with fail;go_loopw [13] (λi wr=> ∃k:Nat,k<=8/\i= .int .i64 k/\wr.rowIs w.heap.size 5 12 (λj=> .int .u8 (if 12 - k<=j then tm n j else 0:Nat))/\aD w wr) (λi _=>8 -(intOf i).toNat);case atStart=>
  refine⟨0,Nat.zero_le _,rfl,?_,(aI _ _).alloc (aM _) _⟩;exact (World.rowIs_made _ _ _ _).congr λj hj=>by rw[if_neg ae];rfl
 case round=>
  obtain⟨k,hk,rfl,bH,cP⟩:=hrel;by_cases aK:k<8
  ·obtain⟨q,hq⟩: ∃q,q=11 - k:=⟨_,rfl⟩
   have cS:IntKind.i64.wrap (11 -(k:Int))=(q:Int):=(by rw[IntWalk.i64_in _ ae];omega);have cl:IntKind.i64.wrap (8*(k:Int))=((8*k:Nat):Int):=(by rw[IntWalk.i64_in _ ae];omega);have e1:(k:Int)<8:=ae;have e2:(q:Int)<12:=ae;have kE:=bH.cell (i:=q) ae;have hf:=bH.frozen q;have mm:=aa bH;have tI:=aa cP;have Hq:=aa hq;clear bH cP hq;go_wp2;go_roundw;case rel=>
    refine⟨k+1,ae,by go_num,?_,tI.setCell (aM _) _⟩;refine (mm.set q _).congr λj hj=>?_;by_cases I3:j=q
    ·have hq:=Hq.out;rw[if_pos I3,if_pos ae,I3,tm,if_neg ae,show 8*(11 - q)=8*k by omega];norm_cast
    ·have hq:=Hq.out;rw[if_neg I3];by_cases h2:12 - k<=j
     ·rw[if_pos h2,if_pos ae]
     ·rw[if_neg h2,if_neg ae]
   case measure=>exact cM
  ·obtain rfl:k=8:=ae;have wE:wr.rowIs w.heap.size 5 12 (λj=> .int .u8 ((((List.range 12).map λj=>UInt8.ofNat (tm n j)).getD j 0).toNat:Nat)):=by
    refine bH.congr λj hj=>?_;have hb:tm n j<256:=by
     unfold tm;split
     ·omega
     ·exact Nat.mod_lt _ ae
    have hv:(((List.range 12).map λj=>UInt8.ofNat (tm n j)).getD j 0).toNat=tm n j:=by
     rw[dh,nA,List.getElem?_range hj];simp;omega
    rw[hv];by_cases h2:12 - 8<=j
    ·rw[if_pos h2]
    ·rw[if_neg h2,tm,if_pos ae]
   have il:=run_convert_bytes_back (P:=prog) wr 34 9 5 ⟨w.heap.size,0,none⟩ 12 ((List.range 12).map λj=>UInt8.ofNat (tm n j)) underlying34 underlying5 underlying9 (Ro wE ak);rw[show ((List.range 12).map λj=>UInt8.ofNat (tm n j)).length=12 by simp]at il;have tI:=aa cP;clear bH wE cP;generalize (List.range 12).map (λj=>UInt8.ofNat (tm n j))=l at il HQ;go_wp2;go_ret2;rw[HQ.out];exact⟨rfl,tI⟩
theorem avH (A B:aN) (n c m d:Nat) (P:az) (w:World) (h:PB w A n B m P) (hn:n<=1000000) (hm:m<=1000000):
  Calls prog 175 #[.agg #[.slice A n c,.slice B m d]] w λe w'=> ∃A' n' c' B' m' d',e= .returned (.agg #[.slice A' n' c',.slice B' m' d'])/\PB w' A' n' B' m' P/\aD w w':=by
 obtain⟨hX,hA,bG⟩:=qP w #[.slice A n c,.slice B m d] 74;have H:=aa h;have HP:=aa (h.below bG);have HX:=aa hX;have x0:=(aV hA).1;have x1:=(aV hA).2.1;have nH:=aa bG;have f0:=(aV hX).1;have f1:=(aV hX).2.1;have f2:=(aV hX).2.2.1;have f3:=(aV hX).2.2.2;clear h hX hA bG;go_in;go_wp2_with fail;go_region_held3 (λw'=>(w'.cell? ⟨w.heap.size,0,none⟩=some (.slice A n c)/\w'.cell? ⟨w.heap.size,1,none⟩=some (.slice B m d)))
  (first|assumption|exact⟨x0,x1⟩|exact i6 ⟨x0,x1⟩ (by assumption)|exact i6 (by assumption) (by assumption)|exact ip (ip (by assumption) ak ak) ak ak)
  (first
   |(refine Am ah _ _ 28 ah w.heap.size 9 (.string ⟨#[]⟩) 1 16 underlying28 mx rfl ae ah A n c ah (aZ P.ss) (by exact HP.rs) (by rw[qO,<-H.hn,Nat.mul_one]) (DS _) ae ae (by exact nH.size) ?_;intro A1 lH w1 fQ AQ;have aG:=bg ((aI _ ((w.alloc (.cells #[.slice A n c,.slice B m d] 74)).alloc (.cells zP 74))).drew) AQ;clear AQ)
   |(refine Am ah _ _ 72 ah w.heap.size 257 (.agg #[.int .i64 0,.string ⟨#[]⟩]) 2 24 underlying72 Gg rfl ae ah B m d ah (jn P.cs) (by exact HP.rc.below aG) (by rw[Gf,<-H.hm]) (JW _) ae ae (by exact bD nH.size aG.size) ?_;intro B1 eM w2 dy av;replace HX:=aT (aT HX aG) av;obtain⟨f0',f1',f2',f3'⟩:=aV HX))
 exact ahp
end
open Go.ChangeAt Go.ChangeShapes Go.WideShapes
theorem pow_laid {W:World} {xe:List (String×DataW Unit)} (h:laidMet prog xe W) (hm:("internal/strconv.uint64pow10",Rows.laid_internal_strconv_uint64pow10)∈xe):uv W:=by
 obtain⟨ps,hv,_⟩:=h;obtain⟨g',t',cs,cB,p,kF,Lw,Qi,hd⟩:=Ow hv hm;have hg:prog.globalNamed "internal/strconv.uint64pow10" =some 3:=ax;have qo:(prog.globals[3]?).map (·.type)=some 336:=ax;obtain rfl:=bW (hg.symm.trans kF);obtain rfl:=bW (qo.symm.trans Lw);have e:=Lib.cells_of_tab (zs:=Lib.pow10Tab) underlying336 underlying278 ax ax hd;unfold uv Lib.TabIs;rw[Qi,<-e]
end Go.Proofs.YtaglcaocpcbiiaaGreatDoor
