import Derived.Test.YtaglcaocpcbiiaaGreatDoorX16
set_option linter.unusedVariables false
set_option linter.unusedSimpArgs false
set_option maxRecDepth 100000
set_option maxHeartbeats 3000000
namespace Go.Proofs.YtaglcaocpcbiiaaGreatDoor
open Go.Proofs.Tryz Go.RowKit
def NJ:Option aW->List ByteArray->Option aW
 |R,[]=>R
 |R,s::l=>NJ (fw R s).1 l
theorem atJ (R:Option aW) (l:List ag) (a b:ag):fA R l (a++b)=a++fA R l b:=by
 induction l generalizing R b with
 |nil=>rfl
 |cons s l ih=>
  rw[fA,fA,show a++b++(fw R s).2++ny=a++(b++(fw R s).2++ny) by simp only[ByteArray.append_assoc]];exact ih _ _
theorem atK (R:Option aW) (l m:List ag) (a:ag):fA R (l++m) a=fA R l a++fA (NJ R l) m ⟨#[]⟩:=by
 induction l generalizing R a with
 |nil=>
  have h:=atJ R m a ⟨#[]⟩;rw[show a++(⟨#[]⟩:ag)=a from ByteArray.append_empty]at h;exact h
 |cons s l ih=>exact ih _ _
theorem aeV (c:UInt8) (m:aF): ∀t:aF,iD c (t++c::m)=iD c t++iD c m
 | []=>by simp[iD]
 |x::t=>by
  rw[List.cons_append,iD,aeV c m t,iD];split
  ·rfl
  ·cases hq:iD c t with
   |nil=>exact absurd hq (aeU c t)
   |cons a q=>rfl
theorem Ux (l:aF) (x c:UInt8):Lib.trimSuffix (l++ [x]) [c]=if x=c then l else l++ [x]:=by
 unfold Lib.trimSuffix Lib.hasSuffix;by_cases h:x=c
 ·subst h;rw[if_pos rfl,if_pos (by simp[List.isSuffixOf,List.isPrefixOf])];simp
 ·rw[if_neg h,if_neg (by simp[List.isSuffixOf,List.isPrefixOf,Ne.symm h])]
theorem awh (t m:aF) (hm:m≠ []):Lib.trimSuffix (t++10::m) [10]=t++10::Lib.trimSuffix m [10]:=by
 rcases List.eq_nil_or_concat m with h|⟨q,x,h⟩
 ·exact absurd h hm
 ·subst h;rw[List.concat_eq_append,show t++10::(q++ [x])=(t++10::q)++ [x] by simp,Ux,Ux];split<;>simp
theorem awi (s m:ag) (t:aF) (hs:s.data.toList=t++ [10]) (hm:m.size≠0):jp (s++m)=jp s++jp m:=by
 have hz:s.size≠0:=by rw[<-bP,hs];simp
 have mP:(s++m).size≠0:=by rw[ByteArray.size_append];omega
 have LD:m.data.toList≠ []:=λh=>hm (by rw[<-bP,h];rfl);have hd:(s++m).data.toList=t++10::m.data.toList:=by rw[ByteArray.data_append,Array.toList_append,hs];simp
 have hn:ny.data.toList= [10]:=rfl;unfold jp;rw[if_neg hz,if_neg mP,if_neg hm];show dP _ ⟨#[10]⟩=dP _ ⟨#[10]⟩++dP _ ⟨#[10]⟩;rw[Cp,Cp,Cp,<-List.map_append];congr 1;show iD 10 (Lib.trimSuffix (s++m).data.toList [10])=iD 10 (Lib.trimSuffix s.data.toList [10])++iD 10 (Lib.trimSuffix m.data.toList [10]);rw[hd,awh t _ LD,hs,Ux,if_pos rfl,aeV]
theorem Uy (s m:ag) (hs:s.size=0\/ ∃t,s.data.toList=t++ [10]) (hm:m.size≠0):jU (s++m)=jU s++fA (NJ none (jp s)) (jp m) ⟨#[]⟩:=by
 unfold jU;rcases hs with h|⟨t,h⟩
 ·have e:s=⟨#[]⟩:=ByteArray.ext (Array.eq_empty_of_size_eq_zero h);subst e;rw[show (⟨#[]⟩:ag)++m=m from ByteArray.empty_append];exact (ByteArray.empty_append (b:=fA none (jp m) ⟨#[]⟩)).symm
 ·rw[awi s m t h hm,atK]
theorem afW {s:ag} {k:Nat} (hk:s.size=k+1) (h:(((s[k]'ae).toNat:Nat):Int)=10): ∃t,s.data.toList=t++ [10]:=by
 have hl:s.data.toList.length=k+1:=by rw[bP,hk]
 refine⟨s.data.toList.take k,?_⟩;have h1:s.data.toList[k]'ae=10:=by
  have h2:(s[k]'ae)=s.data.toList[k]'ae:=rfl;rw[<-h2];apply UInt8.toNat_inj.1;have:(10:UInt8).toNat=10:=rfl;omega
 have h3:=List.take_append_drop k s.data.toList;rw[List.drop_eq_getElem_cons ae,h1,List.drop_of_length_le ae]at h3;exact h3.symm
theorem afX (a b:ag):(a++b).extract 0 a.size=a:=by
 apply ByteArray.ext;rw[ByteArray.data_extract,ByteArray.data_append];apply Array.ext';simp;exact List.take_of_length_le (Nat.le_of_eq (bP a))
theorem ayI {s m:ag} (hs:s.size=0\/ ∃t,s.data.toList=t++ [10]): ∃x,jU (s++m)=jU s++x:=by
 by_cases hm:m.size=0
 ·have e:m=⟨#[]⟩:=ByteArray.ext (Array.eq_empty_of_size_eq_zero hm);subst e;exact⟨⟨#[]⟩,by rw[show s++(⟨#[]⟩:ag)=s from ByteArray.append_empty];exact (ByteArray.append_empty (b:=jU s)).symm⟩
 ·exact⟨_,Uy s m hs hm⟩
theorem deskGrows_law (s:ag) (hz:s.size<=maxLen) (m:ag) (hy:m.size<=maxLen) (w:World) (hL:Lv w):Calls prog 3 #[.string s,.string m] w (Ou w):=by
 have zy:=aa (λW=>Ot s W);have HWm:=aa (λW=>Ot m W);have HR:=aa (λx W h=>KF x W h);have HT:=aa (λW h=>U0 W h);have HL:=aa hL;clear hL;unfold maxLen at hz hy;go_in;go_upto_region 1 with fail
 go_cut [35] from 36 (λv wx=> ∃st,v= .bool st/\(st=false->(∃t,s.data.toList=t++ [10])/\s.size+m.size<=6000)/\aD w wx);case first=>
  go_wp2_with fail;refine (zy w).mono ?_;rintro e w1 ⟨b,rfl,cS,aG⟩;have fR:=aa cS;clear cS;have cu:=aa aG;clear aG;cases b with
  |true=>
   go_wp2;go_meet;case rel=>exact⟨true,rfl,(λh=>by cases h),cu⟩
  |false=>
   have cS:=fR.out rfl;go_wp2_with fail;refine (HWm w1).mono ?_;rintro e w2 ⟨b,rfl,cl,av⟩;have dV:=aa cl;clear cl;have bq:=aX cu av;clear av;cases b with
   |true=>
    go_wp2;go_meet;case rel=>exact⟨true,rfl,(λh=>by cases h),bq⟩
   |false=>
    have cl:=dV.out rfl;by_cases h0:s.size=0
    ·have q0:((s.size:Int)==0)=true:=(by simpa using h0);go_wp2;go_meet;case rel=>exact⟨true,rfl,(λh=>by cases h),bq⟩
    ·have q0:((s.size:Int)==0)=false:=beq_eq_false_iff_ne.2 ae;obtain⟨k,hk,aK,e1⟩: ∃k,s.size=k+1/\k<s.size/\((s.size:Int)- 1)=(k:Int):=⟨s.size - 1,ae,ae,ae⟩
     have Xq:=aa (show (((s[k]'aK).toNat:Nat):Int)=10-> ∃t,s.data.toList=t++ [10] from afW hk);clear hk;by_cases hc:(((s[k]'aK).toNat:Nat):Int)=10
     ·have HE:=aa (Xq hc);have q1:((((s[k]'aK).toNat:Nat):Int) !=10)=false:=(by rw[hc];rfl);by_cases h6:s.size+m.size<=6000
      ·have q2: ¬((6000:Int)<(s.size:Int)+(m.size:Int)):=ae;go_wp2;go_meet;case rel=>exact⟨false,by rw[decide_eq_false ae],(λ_=>⟨HE,h6⟩),bq⟩
      ·have q2:(6000:Int)<(s.size:Int)+(m.size:Int):=ae;go_wp2;go_meet;case rel=>exact⟨true,by first|rfl|rw[decide_eq_true ae],(λh=>by cases h),bq⟩
     ·have q1:((((s[k]'aK).toNat:Nat):Int) !=10)=true:=(by rw[bne_iff_ne];exact hc);go_wp2;go_meet;case rel=>exact⟨true,rfl,(λh=>by cases h),bq⟩
 case rest=>
  obtain⟨st,rfl,dE,hb⟩:=hcut;rename World=>w2;have HB:=aa hb;clear hb;cases st with
  |true=>
   go_wp2_with fail;refine (HT _ (HL.below HB)).mono ?_;rintro e w3 ⟨rfl,aL⟩;have cj:=aX HB aL;clear aL;go_wp2;go_ret;exact⟨rfl,cj⟩
  |false=>
   obtain⟨ht,h6⟩:=dE rfl;obtain⟨x,hx⟩:=ayI (m:=m) (.inr ht);have ha:mf s=(jU s,0):=(by unfold mf;rw[if_neg ae]);have hb:mf (s++m)=(jU (s++m),0):=(by unfold mf;rw[if_neg (by rw[ByteArray.size_append];omega)]);have tF:=HR.out s;have tC:=HR.out (s++m);rw[ha]at tF;rw[hb,hx]at tC;replace tF:=aa tF;replace tC:=aa tC;generalize jU s=a at tF tC;have l1:=afX a x;have l2:a.size<=(a++x).size:=(by rw[ByteArray.size_append];omega);generalize a++x=c at tC l1 l2;have d1:((c.extract 0 a.size).toList==a.toList)=true:=(by rw[l1];exact beq_self_eq_true _);have d2:(a.size:Int)<=(c.size:Int):=ae;clear dE ht hx ha hb HR zy HWm l1;go_wp2_with fail;refine (tF _ (HL.below HB)).mono ?_;rintro e w3 ⟨rfl,aL⟩;have cj:=aX HB aL;clear aL;go_wp2_with fail;refine (tC _ (HL.below cj)).mono ?_;rintro e w4 ⟨rfl,aP⟩;have dD:=aX cj aP;clear aP;go_wp2_with fail;refine (HT _ (HL.below dD)).mono ?_;rintro e w5 ⟨rfl,aY⟩;have jz:=aX dD aY;clear aY;go_wp2;go_ret;exact⟨rfl,jz⟩
end Go.Proofs.YtaglcaocpcbiiaaGreatDoor
