import Derived.Test.YtaglcaocpcbiiaaGreatDoorX16
set_option linter.unusedVariables false
set_option linter.unusedSimpArgs false
set_option maxRecDepth 100000
set_option maxHeartbeats 3000000
namespace Go.Proofs.YtaglcaocpcbiiaaGreatDoor
open Go.Proofs.Tryz Go.RowKit
theorem deskAgain_law (s:ag) (_:s.size<=maxLen) (w:World) (hL:Lv w):Calls prog 4 #[.string s] w (Ou w):=by
 have HW:=aa (Ot s w);have HR:=aa (λW h=>KF s W h);have HT:=aa (λW h=>U0 W h);have HL:=aa hL;generalize mf s=r at HR;obtain⟨a,n⟩:=r;clear hL;go_in;go_wp2_with fail;refine (HW).mono ?_;rintro e w1 ⟨b,rfl,-,aG⟩;have cu:=aa aG;clear aG HW;cases b with
 |true=>
  go_wp2;go_ret;exact⟨rfl,cu⟩
 |false=>
  have d1:(a.toList==a.toList)=true:=beq_self_eq_true _;have d2:(n==n)=true:=beq_self_eq_true _;go_wp2_with fail;refine (HR _ (HL.below cu)).mono ?_;rintro e w2 ⟨rfl,av⟩;have bq:=aX cu av;clear av;go_wp2_with fail;refine (HR _ (HL.below bq)).mono ?_;rintro e w3 ⟨rfl,aL⟩;have cj:=aX bq aL;clear aL;go_wp2_with fail;refine (HT _ (HL.below cj)).mono ?_;rintro e w4 ⟨rfl,aP⟩;have dD:=aX cj aP;clear aP;go_wp2;go_ret;exact⟨rfl,dD⟩
end Go.Proofs.YtaglcaocpcbiiaaGreatDoor
