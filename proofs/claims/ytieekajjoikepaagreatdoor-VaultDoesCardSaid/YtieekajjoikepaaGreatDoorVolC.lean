/-
  Plain: the document's rows of volumes.
-/
import Derived.Test.YtieekajjoikepaaGreatDoorVolT2
namespace Go.Proofs.YtieekajjoikepaaGreatDoor
open Go.RowKit
set_option linter.unusedVariables false
set_option maxRecDepth 100000

def vrep (n : Nat) (c : UInt8) : ByteArray := bs (List.replicate n c)
def abcT : ByteArray := ⟨#[97, 98, 99]⟩
def XT : ByteArray := vrep 12 2 ++ (cryptS (vrep 32 1) (vrep 12 2) abcT 1 ++ endS (vrep 32 1) (vrep 12 2) (besT 1) (cryptS (vrep 32 1) (vrep 12 2) abcT 1))
theorem roots_differ : sumL (nodeX (leafT noT) (leafT XT)).data.toList ≠ sumL (nodeX (leafT noT) (leafT noT)).data.toList := by decide +kernel
theorem vrep_size (n : Nat) (c : UInt8) : (vrep n c).size = n := by unfold vrep; rw [bs_size, List.length_replicate]
def keyV : ByteArray := vrep 32 1
def nonV : ByteArray := vrep 12 2
def bl0 : List ByteArray := [noT, noT]
def hidV : ByteArray := hideS keyV nonV 1 abcT
def bl1 : List ByteArray := [noT, hidV]
theorem keeps0 : Keeps keyV bl0 bl0 := keeps_new (n := 2) keyV (by decide)
theorem write0 : writeE (rooted bl0) keyV nonV 1 abcT = 0 ∧ writeV (rooted bl0) keyV nonV 1 abcT = rooted bl1 ∧ Keeps keyV bl1 [noT, abcT] :=
  keeps_write keeps0 (i := 1) (by decide) (by decide) (vrep_size 32 1) (vrep_size 12 2)
theorem hidV_is : hidV = XT := by
  have h : hideE keyV nonV 1 abcT = 0 := hide_ok (by decide) (by decide) (vrep_size 32 1) (vrep_size 12 2)
  obtain ⟨_, _, h3, _, h5⟩ := hide_parts h
  unfold hidV
  rw [h5]
  unfold sealS
  rw [if_pos h3]
  rfl
theorem root2 (a b : ByteArray) : rootT [a, b] = nodeT (leafT a) (leafT b) := by
  rw [rootT_is (l := [a, b]) (H := 1) rfl]
  rfl
theorem roots_ne : rootT bl1 ≠ rootT bl0 := by
  unfold bl1 bl0
  rw [root2, root2, hidV_is]
  intro e
  exact roots_differ (bs_inj e)
theorem read01 : readE (rooted bl0) keyV 1 = 0 ∧ vreadS (rooted bl0) keyV 1 = noT := keeps_read keeps0 (i := 1) (by decide)
theorem read11 : readE (rooted bl1) keyV 1 = 0 ∧ vreadS (rooted bl1) keyV 1 = abcT := keeps_read write0.2.2 (i := 1) (by decide)
theorem read10 : readE (rooted bl1) keyV 0 = 0 ∧ vreadS (rooted bl1) keyV 0 = noT := keeps_read write0.2.2 (i := 0) (by decide)
theorem read12 : readE (rooted bl1) keyV 2 = 1 := by
  have hc := keeps_check write0.2.2
  have hf : fitE (rooted bl1) (hasV (rooted bl1) 2) = 1 := by
    rw [show hasV (rooted bl1) 2 = false from rfl]
    unfold fitE
    rw [if_neg (by rw [hc]; simp), if_pos rfl]
  unfold readE
  rw [if_pos (by rw [hf]; simp), hf]
def volX : Vol := ⟨bl1, rootT bl0⟩
theorem readX : readE volX keyV 1 = 161 := by
  have hc : checkV volX = true := by
    obtain ⟨p1, p2, p3⟩ := vol_parts (keeps_check write0.2.2)
    unfold checkV volX
    simp only [Bool.and_eq_true, decide_eq_true_eq, List.all_eq_true]
    exact ⟨⟨p1, rootT_size (l := bl0) (by decide)⟩, p3⟩
  have hf : fitE volX (hasV volX 1) = 161 := by
    rw [show hasV volX 1 = true from rfl]
    unfold fitE
    rw [if_neg (by rw [hc]; simp), if_neg (by simp), if_neg (show ¬ rootT volX.bl = volX.rt from roots_ne)]
  unfold readE
  rw [if_pos (by rw [hf]; simp), hf]
theorem check0V : checkV (rooted bl0) = true := keeps_check keeps0
end Go.Proofs.YtieekajjoikepaaGreatDoor
