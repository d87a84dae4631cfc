import Derived.Test.YtaglcaocpcbiiaaGreatDoorX16
set_option linter.unusedVariables false
set_option linter.unusedSimpArgs false
set_option maxRecDepth 100000
set_option maxHeartbeats 3000000
namespace Go.Proofs.YtaglcaocpcbiiaaGreatDoor
open Go.Proofs.Tryz Go.RowKit
def NJ:Option aW->List ByteArray->Option aW
 |R,[]=>R
 |R,s::l=>NJ (fw R s).1 l
theorem atJ (R:Option aW) (l:List ag) (a b:ag):fA R l (a++b)=a++fA R l b:=by
 induction l generalizing R b with
 |nil=>rfl
 |cons s l ih=>
  rw[fA,fA,show a++b++(fw R s).2++ny=a++(b++(fw R s).2++ny) by simp only[ByteArray.append_assoc]];exact ih _ _
theorem atK (R:Option aW) (l m:List ag) (a:ag):fA R (l++m) a=fA R l a++fA (NJ R l) m ⟨#[]⟩:=by
 induction l generalizing R a with
 |nil=>
  have h:=atJ R m a ⟨#[]⟩;rw[show a++(⟨#[]⟩:ag)=a from ByteArray.append_empty]at h;exact h
 |cons s l ih=>exact ih _ _
theorem aeV (c:UInt8) (m:aF): ∀t:aF,iD c (t++c::m)=iD c t++iD c m
 | []=>by simp[iD]
 |x::t=>by
  rw[List.cons_append,iD,aeV c m t,iD];split
  ·rfl
  ·cases hq:iD c t with
   |nil=>exact absurd hq (aeU c t)
   |cons a q=>rfl
theorem Ux (l:aF) (x c:UInt8):Lib.trimSuffix (l++ [x]) [c]=if x=c then l else l++ [x]:=by
 unfold Lib.trimSuffix Lib.hasSuffix;by_cases h:x=c
 ·subst h;rw[if_pos rfl,if_pos (by simp[List.isSuffixOf,List.isPrefixOf])];simp
 ·rw[if_neg h,if_neg (by simp[List.isSuffixOf,List.isPrefixOf,Ne.symm h])]
theorem awh (t m:aF) (hm:m≠ []):Lib.trimSuffix (t++10::m) [10]=t++10::Lib.trimSuffix m [10]:=by
 rcases List.eq_nil_or_concat m with h|⟨q,x,h⟩
 ·exact absurd h hm
 ·subst h;rw[List.concat_eq_append,show t++10::(q++ [x])=(t++10::q)++ [x] by simp,Ux,Ux];split<;>simp
theorem awi (s m:ag) (t:aF) (hs:s.data.toList=t++ [10]) (hm:m.size≠0):jp (s++m)=jp s++jp m:=by
 have hz:s.size≠0:=by rw[<-bP,hs];simp
 have mP:(s++m).size≠0:=by rw[ByteArray.size_append];omega
 have LD:m.data.toList≠ []:=λh=>hm (by rw[<-bP,h];rfl);have hd:(s++m).data.toList=t++10::m.data.toList:=by rw[ByteArray.data_append,Array.toList_append,hs];simp
 have hn:ny.data.toList= [10]:=rfl;unfold jp;rw[if_neg hz,if_neg mP,if_neg hm];show dP _ ⟨#[10]⟩=dP _ ⟨#[10]⟩++dP _ ⟨#[10]⟩;rw[Cp,Cp,Cp,<-List.map_append];congr 1;show iD 10 (Lib.trimSuffix (s++m).data.toList [10])=iD 10 (Lib.trimSuffix s.data.toList [10])++iD 10 (Lib.trimSuffix m.data.toList [10]);rw[hd,awh t _ LD,hs,Ux,if_pos rfl,aeV]
theorem Uy (s m:ag) (hs:s.size=0\/ ∃t,s.data.toList=t++ [10]) (hm:m.size≠0):jU (s++m)=jU s++fA (NJ none (jp s)) (jp m) ⟨#[]⟩:=by
 unfold jU;rcases hs with h|⟨t,h⟩
 ·have e:s=⟨#[]⟩:=ByteArray.ext (Array.eq_empty_of_size_eq_zero h);subst e;rw[show (⟨#[]⟩:ag)++m=m from ByteArray.empty_append];exact (ByteArray.empty_append (b:=fA none (jp m) ⟨#[]⟩)).symm
 ·rw[awi s m t h hm,atK]
def w0T:ag:=⟨#[48]⟩
def N':ag:=⟨#[114,101,97,100,32,48]⟩
def ae1:ag:=⟨#[110,101,119,32,115,32,119,111,114,100,32,49,32,49,32,97,110,110]⟩
def AM:ag:=⟨#[108,111,99,107,10,114,101,97,100,32,48,10]⟩
def Cr:ag:=⟨#[110,101,119,32,115,32,119,111,114,100,32,49,32,49,32,97,110,110,10,115,104,111,119,10]⟩
theorem ae3:dP N' dU= [UA,w0T]:=yE _ _ bU
theorem awx:dP ae1 dU= [aeX,qU,oy,vZ,vZ,qV]:=yE _ _ bU
theorem awA:jp AM= [Kr,N']:=Oa _ au _ bU
theorem awB:jp Cr= [ae1,Kq]:=Oa _ au _ bU
theorem awD (S:aW):fw (some S) Kq=(some S,mI (GE S).2):=Eq (c:=13) (f:= []) (more:=false) (ms:= []) ae2 bU bU au S
theorem awF:fw none Kr=(none,yw):=UG (c:=2) (f:= []) (more:=false) (ms:= []) ae4 bU bU au
theorem awG (S:aW):fw (some (jq S)) N'=(some (jq S),mI (.er 212)):=by
 rw[Eq (c:=3) (f:= [110]) (more:=false) (ms:= [0]) ae3 bU bU au (jq S)];show (some (nz (jq S) 0).1,mI (nz (jq S) 0).2)=_;rw[ae8]
theorem awH:fw none N'=(none,yw):=UG (c:=3) (f:= [110]) (more:=false) (ms:= [0]) ae3 bU bU au
theorem awI (R:Option aW):fA R (jp AM) ⟨#[]⟩=⟨#[110,111,110,101,10,110,111,110,101,10]⟩\/fA R (jp AM) ⟨#[]⟩=⟨#[111,107,10,101,114,114,111,114,32,50,49,50,10]⟩:=by
 rw[awA];cases R with
 |none=>
  left;rw[fA,awF,fA,awH,fA];dsimp only;decide+kernel
 |some S=>
  right;rw[fA,ae6,fA,awG,fA,ae7];dsimp only;decide+kernel
def okB:Option aW×Tl->Bool
 |(some S,.ok t)=>S.op&&decide (S.r.e=1)&&decide (t=gT)
 |_=>false
theorem y_4:okB (mc qU oy [qV] 1 1)=true:=ax
theorem aw3 (R:Option aW):fA R (jp Cr) ⟨#[]⟩=⟨#[111,107,10,49,32,111,112,101,110,10]⟩:=by
 obtain⟨S,hS,je,nL⟩: ∃S,mc qU oy [qV] 1 1=(some S,.ok gT)/\S.op=true/\S.r.e=1:=by
  have h:=y_4;generalize mc qU oy [qV] 1 1=B at h⊢;match B,h with
  |(some S,.ok t),h=>
   simp only[okB,Bool.and_eq_true,decide_eq_true_eq]at h;exact⟨S,by rw[h.2],h.1.1,h.1.2⟩
 rw[awB,fA,ae5 (f:= [116,116,110,110]) (more:=true) (ms:= [0,0,1,1]) awx bU bU R];have hb:mc (wx [qU,oy,vZ,vZ,qV] 0) (wx [qU,oy,vZ,vZ,qV] 1) ([qU,oy,vZ,vZ,qV].drop 4) (ix [0,0,1,1] 2) (ix [0,0,1,1] 3)=(some S,.ok gT):=hS;rw[hb,fA,show (some S).or R=some S from rfl,awD,fA];have h1:(GE S).2= .ok (fc 1++TY):=by
  unfold GE;rw[nL,je,if_pos rfl]
 rw[h1];dsimp only;decide+kernel
theorem afW {s:ag} {k:Nat} (hk:s.size=k+1) (h:(((s[k]'ae).toNat:Nat):Int)=10): ∃t,s.data.toList=t++ [10]:=by
 have hl:s.data.toList.length=k+1:=by rw[bP,hk]
 refine⟨s.data.toList.take k,?_⟩;have h1:s.data.toList[k]'ae=10:=by
  have h2:(s[k]'ae)=s.data.toList[k]'ae:=rfl;rw[<-h2];apply UInt8.toNat_inj.1;have:(10:UInt8).toNat=10:=rfl;omega
 have h3:=List.take_append_drop k s.data.toList;rw[List.drop_eq_getElem_cons ae,h1,List.drop_of_length_le ae]at h3;exact h3.symm
theorem afX (a b:ag):(a++b).extract 0 a.size=a:=by
 apply ByteArray.ext;rw[ByteArray.data_extract,ByteArray.data_append];apply Array.ext';simp;exact List.take_of_length_le (Nat.le_of_eq (bP a))
theorem afY (a b:ag):(a++b).extract a.size (a++b).size=b:=by
 apply ByteArray.ext;rw[ByteArray.data_extract,ByteArray.data_append];apply Array.ext';simp;rw[List.drop_of_length_le (Nat.le_of_eq (bP a)),List.take_nil,List.nil_append];exact List.take_of_length_le (Nat.le_of_eq (bP b))
def ayJ:ag:=⟨#[110,111,110,101,10,110,111,110,101,10]⟩
def ayK:ag:=⟨#[111,107,10,101,114,114,111,114,32,50,49,50,10]⟩
def Ov:ag:=⟨#[111,107,10,49,32,111,112,101,110,10]⟩
theorem deskShut_law (s:ag) (hz:s.size<=maxLen) (w:World) (hL:Lv w):Calls prog 5 #[.string s] w (Ou w):=by
 have zy:=aa (λW=>Ot s W);have HR:=aa (λx W h=>KF x W h);have HT:=aa (λW h=>U0 W h);have HL:=aa hL;clear hL;unfold maxLen at hz;go_in;go_upto_region 1 with fail
 go_cut [29] from 30 (λv wx=> ∃st,v= .bool st/\(st=false->(s.size=0\/ ∃t,s.data.toList=t++ [10])/\s.size<=5000)/\aD w wx);case first=>
  go_wp2_with fail;refine (zy w).mono ?_;rintro e w1 ⟨b,rfl,cS,aG⟩;have fR:=aa cS;clear cS;have cu:=aa aG;clear aG;cases b with
  |true=>
   go_wp2;go_meet;case rel=>exact⟨true,rfl,(λh=>by cases h),cu⟩
  |false=>
   by_cases h5:s.size<=5000
   ·have q2: ¬((5000:Int)<(s.size:Int)):=ae;by_cases h0:s.size=0
    ·have q0: ¬((0:Int)<(s.size:Int)):=ae;have H0:=aa h0;clear h0;go_wp2;go_meet;case rel=>exact⟨false,by rw[decide_eq_false ae],(λ_=>⟨.inl H0,h5⟩),cu⟩
    ·have q0:(0:Int)<(s.size:Int):=ae;obtain⟨k,hk,aK,e1⟩: ∃k,s.size=k+1/\k<s.size/\((s.size:Int)- 1)=(k:Int):=⟨s.size - 1,ae,ae,ae⟩
     have Xq:=aa (show (((s[k]'aK).toNat:Nat):Int)=10-> ∃t,s.data.toList=t++ [10] from afW hk);clear hk;by_cases hc:(((s[k]'aK).toNat:Nat):Int)=10
     ·have HE:=aa (Xq hc);have q1:((((s[k]'aK).toNat:Nat):Int) !=10)=false:=(by rw[hc];rfl);go_wp2;go_meet;case rel=>exact⟨false,by rw[decide_eq_false ae],(λ_=>⟨.inr HE,h5⟩),cu⟩
     ·have q1:((((s[k]'aK).toNat:Nat):Int) !=10)=true:=(by rw[bne_iff_ne];exact hc);go_wp2;go_meet;case rel=>exact⟨true,rfl,(λh=>by cases h),cu⟩
   ·have q2:(5000:Int)<(s.size:Int):=ae;go_wp2;go_meet;case rel=>exact⟨true,rfl,(λh=>by cases h),cu⟩
 case rest=>
  obtain⟨st,rfl,dE,hb⟩:=hcut;rename World=>w2;have HB:=aa hb;clear hb;cases st with
  |true=>
   go_wp2_with fail;refine (HT _ (HL.below HB)).mono ?_;rintro e w3 ⟨rfl,aL⟩;have cj:=aX HB aL;clear aL;go_wp2;go_ret;exact⟨rfl,cj⟩
  |false=>
   obtain⟨ht,h6⟩:=dE rfl;have m1:AM.size=12:=rfl;have m2:Cr.size=24:=rfl;have wF:=Uy s AM ht (by rw[m1];omega);have Bg:=Uy s Cr ht (by rw[m2];omega);have jJ:=awI (NJ none (jp s));rw[aw3]at Bg;obtain⟨x,hx,sB⟩: ∃x,jU (s++AM)=jU s++x/\(x=ayJ\/x=ayK):=⟨_,wF,jJ⟩
   have ha:mf s=(jU s,0):=(by unfold mf;rw[if_neg ae]);have hb:mf (s++AM)=(jU (s++AM),0):=(by unfold mf;rw[if_neg (by rw[ByteArray.size_append,m1];omega)]);have hc:mf (s++Cr)=(jU (s++Cr),0):=(by unfold mf;rw[if_neg (by rw[ByteArray.size_append,m2];omega)]);have tF:=HR.out s;have tC:=HR.out (s++AM);have qj:=HR.out (s++Cr);rw[ha]at tF;rw[hb,hx]at tC;rw[hc,Bg]at qj;replace tF:=aa tF;replace tC:=aa tC;replace qj:=aa (show∀W,Lv W->Calls prog 8 #[.string (s++Cr)] W λe w'=>e= .returned (.tuple #[.string (jU s++Ov),.int .i64 0])/\aD W w' from qj);generalize jU s=a at tF tC qj;have l1:=afX a x;have l2:a.size<=(a++x).size:=(by rw[ByteArray.size_append];omega);have l3:=afY a x;have l4:a.size<=(a++Ov).size:=(by rw[ByteArray.size_append];omega);have l5:=afY a Ov;generalize a++x=c at tC l1 l2 l3;generalize a++Ov=d at qj l4 l5;have d1:((c.extract 0 a.size).toList==a.toList)=true:=(by rw[l1];exact beq_self_eq_true _);have d2: ¬((c.size:Int)<(a.size:Int)):=ae;have d3: ¬((d.size:Int)<(a.size:Int)):=ae;have d4:((d.extract a.size d.size).toList== [111,107,10,49,32,111,112,101,110,10])=true:=(by rw[l5];decide+kernel);have d5:(a.size:Int)<=(c.size:Int):=ae;have d6:(a.size:Int)<=(d.size:Int):=ae;have HD:=aa (show (((c.extract a.size c.size).toList== [110,111,110,101,10,110,111,110,101,10])=true)\/(((c.extract a.size c.size).toList== [110,111,110,101,10,110,111,110,101,10])=false/\((c.extract a.size c.size).toList== [111,107,10,101,114,114,111,114,32,50,49,50,10])=true) from by
    rw[l3];rcases sB with rfl|rfl
    ·exact .inl bU
    ·exact .inr ⟨bU,bU⟩)
   clear dE ht wF Bg jJ hx sB ha hb hc HR zy l1 l3 l5;go_wp2_with fail;refine (tF _ (HL.below HB)).mono ?_;rintro e w3 ⟨rfl,aL⟩;have cj:=aX HB aL;clear aL;go_wp2_with fail;refine (tC _ (HL.below cj)).mono ?_;rintro e w4 ⟨rfl,aP⟩;have dD:=aX cj aP;clear aP;go_wp2_with fail;refine (qj _ (HL.below dD)).mono ?_;rintro e w5 ⟨rfl,aY⟩;have jz:=aX dD aY;clear aY;go_wp2_with fail;refine (HT _ (HL.below jz)).mono ?_;rintro e w6 ⟨rfl,bO⟩;have mR:=aX jz bO;clear bO;rcases HD with d7|⟨d7,d8⟩
   ·go_wp2;go_ret;exact⟨rfl,mR⟩
   ·go_wp2;go_ret;exact⟨rfl,mR⟩
end Go.Proofs.YtaglcaocpcbiiaaGreatDoor
