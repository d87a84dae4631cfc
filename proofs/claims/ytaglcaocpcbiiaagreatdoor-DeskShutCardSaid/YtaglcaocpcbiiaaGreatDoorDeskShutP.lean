/- Behind a line that locks nothing is read: the tied card of keyholelaw28.DeskShut. No condition beyond the given statement. -/
import Derived.Test.YtaglcaocpcbiiaaGreatDoorCards
import Derived.Test.YtaglcaocpcbiiaaGreatDoorTie
import Derived.Test.YtaglcaocpcbiiaaGreatDoorXS
import Derived.ProofKit
import Derived.OpenShut
import Derived.ShutString
import Derived.ChangeOld
import Derived.Lib.SmallJoins
import Derived.Deep.DeepHandedRow
import Derived.SliceStrings
namespace Go.Proofs.YtaglcaocpcbiiaaGreatDoor.deskShut
open Go.Proofs.Tryz Go.Proofs.YtaglcaocpcbiiaaGreatDoor.Rows
open Go.ChangeShapes Go.WideShapes Go.ChangeAt Go.RowKit
open Go.ChangeMaps (open_string shut_string)
set_option linter.unusedVariables false
set_option maxRecDepth 100000
noncomputable abbrev Qp:=Tryz.pinned.checked.prog
theorem own:ownKnob prog.godebug=Option.none:=ax
theorem laidOut:laidOutB prog=true:=ax
theorem contract (H:Type) (enc:TypeId×Value->H) (W:World) (base:Nat) (args:Array Value) (ds gs:List (DataW H)) (before:List MemPlace)
  (hval: ∀(j:Nat) t v,f5.params[j]?=some t->args[j]?=some v->Value.okWide prog W .any base t v)
  (hW:DataW.Whole enc prog f5.params.toList deskShutSpec.vars false W args.toList ds gs before) (hL:laidMetH prog deskShutRow.laid W) (hSh:W.ShapedOpen prog):
  Calls prog 5 args W λe W'=> ∃v,e= .returned v/\deskShutSpec.post enc prog f5 false true false false W args v W':=by
 have hW':=hW
 obtain⟨p,q,hA0,hV,rfl,hfz,hnd⟩:=hW
 have hA:DataW.TrodAll enc prog W 0 (λ_=>true) true f5.params.toList args.toList ds p:=hA0
 rw[params5]at hA hval
 obtain⟨v0,vs0,d0,ds0,p0,q0,hargs,rfl,rfl,h0,r0⟩:=trodAll_cons hA
 obtain⟨rfl,rfl,rfl⟩:=trodAll_nil r0
 obtain rfl:args= #[v0]:=by cases args;simp_all
 obtain⟨rfl,rfl⟩:=trodVars_none hV
 obtain⟨a0,rfl,rfl,rfl,w0⟩:=open_string underlying9 (hval 0 9 v0 rfl rfl) h0
 clear hA0
 refine (deskShut_law a0 w0 W ⟨turns_laid hL (.tail _ (.tail _ (.tail _ (.head _)))),⟨rounds_laid hL (.tail _ (.tail _ (.tail _ (.tail _ (.tail _ (.head _)))))),maxLen_shape hSh⟩,pow_laid hL (.tail _ (.tail _ (.head _))),maxLen_shape hSh⟩).mono λe W' ⟨he,bel⟩=>?_
 subst he
 exact⟨_,rfl,_,_,_,[],_,[],hW',trodAll_mk1 (shut_bool underlying4 _),(trodAll_cons_mk (shut_string underlying9 w0) trodAll_mk0),rfl,bel.frame _,λh=>by cases h⟩
def tabCells (d:DataW Unit):Array Value:=
 match d with
 | .agg l=>(l.map λx=>match x with
  |DataW.lit (Lit.int k n)=>Value.int k n
  |_=>undef).toArray
 |_=> #[]
noncomputable def laidWorld (os:Go.Os):World:=
 {World.holding prog os ⟨#[],#[],[]⟩ with heap:=((((((((World.holding prog os ⟨#[],#[],[]⟩).heap).modify 6 (putCells (tabCells Rows.laid_math_bits_deBruijn32tab))).modify 7 (putCells (tabCells Rows.laid_math_bits_deBruijn64tab))).modify 3 (putCells (tabCells Rows.laid_internal_strconv_uint64pow10))).modify 1 (putCells turnsL.toArray)).modify 5 (putCells acceptC)).modify 0 (putCells (ints roundsT).toArray)).modify 4 (putCells firstC)}
theorem laid_met (os:Go.Os):laidMet prog deskShutRow.laid ((laidWorld os).forCall (λ_ _=>0) ⟨#[],#[.string ByteArray.empty],[]⟩).memory:=
 laidMet_of_run' 8 ax ax
theorem reads (os:Go.Os) {H:Type} (enc:TypeId×Value->H): ∃places,DataW.whole enc prog ((laidWorld os).forCall (λ_ _=>0) ⟨#[],#[.string ByteArray.empty],[]⟩).memory f5.params.toList deskShutSpec.vars false (#[.string ByteArray.empty]:Array Value).toList 8=some ([.lit (.string [])],[],places):=
 ⟨[],by kernel_rfl⟩
theorem lifted (os:Go.Os) (started:os.Started) (H:Type) (enc:TypeId×Value->H) (F:Stop.Interp):
  ReturnsInHanded {} checked os 5 .any ((OpenSpec.ofChange deskShutSpec).preRow enc prog f5 deskShutRow.domain false deskShutRow.laid) (((OpenSpec.ofChange deskShutSpec).at F).post enc prog f5 false true false false):=by
 obtain⟨places,hx⟩:=reads os enc
 refine returnsInHanded_of_row (C:=checked) (s:=OpenSpec.ofChange deskShutSpec) own started ax func5
  (witness_row_at (enc:=enc) (C:=checked) false (laidWorld os) #[.string ByteArray.empty] rfl ax ax ax
   (OpenSpec.preRow_of_cond 8 hx ax (λk hk=>by cases hk) ax (laid_met os))) ?_
 intro W base args ds gs before hval hW _ _ _ hL hSh _
 exact contract H enc W base args ds gs before hval hW hL hSh
theorem jm:mapsRowed Qp=true:=ax
theorem ji:(deskShutRow.inPlace==Qp.inPlace 5)=true:=ax
theorem ju:(deskShutRow.unfollowed==Qp.unfollowed 5)=true:=ax
theorem jr:(deskShutRow.recurses==Qp.recurses 5)=true:=ax
theorem jn:(deskShutRow.named==Qp.varsNamed 5)=true:=ax
theorem jp:(deskShutRow.plainKeys==Qp.plainKeys)=true:=ax
theorem jh:Qp.stopsHeard=true:=ax
theorem jy:Qp.mayEnter=true:=ax
theorem jl:(deskShutRow.lifted==Qp.liftsFinal)=true:=ax
theorem closed:joinedFacts Qp 5 f5 (OpenSpec.ofChange deskShutSpec).bare deskShutRow=true:=by
 unfold joinedFacts
 rw[jm,ji,ju,jr,jn,jp,jh,jy,jl]
 kernel_rfl
theorem said:Rows.DeskShutSaid:=
 OpenClaim.holds_of_cond 5 f5 rfl rfl rfl rfl rfl rfl rfl ⟨rfl,rfl,rfl,rfl,rfl⟩ rfl rfl rfl rfl rfl ax func5 closed
  (of_decide_eq_true ax) (by unfold Func.isWrapper;first|(rw[if_pos (by decide+kernel)];kernel_rfl)|(rw[if_neg (by decide+kernel)];exact⟨rfl,rfl⟩))
  (λos started H enc _ F=>by rw[OpenClaim.pre_eq_preRow];exact lifted os started H enc F)
theorem plain (f:FuncId) (fn:Func) (hf:Qp.funcNamed "keyhole/keyholelaw28.DeskShut" =some f) (hfn:Qp.funcs[f]?=some fn):
  true=Qp.looks []/\ ∀(j:Nat) t,fn.params[j]?=some t->Qp.wantsStandIn t=false:=by
 obtain rfl:f=5:=Option.some.inj ((show prog.funcNamed "keyhole/keyholelaw28.DeskShut" =some 5 by kernel_rfl).symm.trans hf)|>.symm
 obtain rfl:fn=f5:=(Option.some.inj (func5.symm.trans hfn)).symm
 refine⟨by kernel_rfl,λj t ht=>?_⟩
 rw[params5]at ht
 have hm:=Array.mem_of_getElem? ht
 simp only[List.mem_toArray,List.mem_cons,List.not_mem_nil,or_false]at hm
 have all: ∀t,t=9->prog.wantsStandIn t=false:=by
  intro t ht
  subst ht
  kernel_rfl
 exact all t hm
theorem card:Rows.DeskShutCardSaid:=
 Claim7.holds_tied_plain_at .later [] _ _ _ _ said (λ_ h=>by cases h) ax (λ_ h=>by cases h) deskShut_row_tie rfl ⟨rfl,rfl⟩ ax rfl plain ax
end Go.Proofs.YtaglcaocpcbiiaaGreatDoor.deskShut
