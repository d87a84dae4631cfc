/-
  Contracts of the kit's shelf (proved once, over any program) at this program's numbers.
-/
import Derived.Shelf.Strconv.Itoa3
import Derived.Test.YtkldllnlakaehaaGreatDoorProg
namespace Go.Proofs.YtkldllnlakaehaaGreatDoor
open Go.Shelf

def fnumI : Nat → Nat
  | 129 => 146
  | 171 => 79
  | 243 => 113
  | 246 => 126
  | 283 => 138
  | 284 => 139
  | 285 => 140
  | 286 => 141
  | 317 => 145
  | 318 => 147
  | 319 => 148
  | 320 => 149
  | 337 => 150
  | 338 => 151
  | n => n
def tnumI : Nat → Nat
  | 0 => 0
  | 2 => 2
  | 3 => 3
  | 4 => 4
  | 5 => 5
  | 9 => 9
  | 20 => 20
  | 37 => 64
  | 46 => 123
  | 51 => 161
  | 53 => 164
  | 171 => 186
  | 173 => 189
  | 212 => 193
  | 213 => 194
  | 232 => 101
  | 233 => 197
  | n => n
def gnumI : Nat → Nat
  | 17 => 3
  | 18 => 4
  | 19 => 5
  | n => n
def renI : Go.Shelf.Ren := ⟨fnumI, tnumI, gnumI⟩

theorem lays171 : Lays.n171 Tryz.prog renI := {
  mixed := by kernel_rfl
  f129 := Tryz.func146.trans (congrArg some (by kernel_rfl))
  f171 := Tryz.func79.trans (congrArg some (by kernel_rfl))
  f243 := Tryz.func113.trans (congrArg some (by kernel_rfl))
  f246 := Tryz.func126.trans (congrArg some (by kernel_rfl))
  f283 := Tryz.func138.trans (congrArg some (by kernel_rfl))
  f284 := Tryz.func139.trans (congrArg some (by kernel_rfl))
  f285 := Tryz.func140.trans (congrArg some (by kernel_rfl))
  f286 := Tryz.func141.trans (congrArg some (by kernel_rfl))
  f317 := Tryz.func145.trans (congrArg some (by kernel_rfl))
  f318 := Tryz.func147.trans (congrArg some (by kernel_rfl))
  f319 := Tryz.func148.trans (congrArg some (by kernel_rfl))
  f320 := Tryz.func149.trans (congrArg some (by kernel_rfl))
  f337 := Tryz.func150.trans (congrArg some (by kernel_rfl))
  f338 := Tryz.func151.trans (congrArg some (by kernel_rfl))
  t0 := Tryz.underlying0
  a0 := Tryz.isAgg0
  z0 := Tryz.sizeOf0
  v0 := Tryz.zeroValue0
  t2 := Tryz.underlying2
  a2 := Tryz.isAgg2
  z2 := Tryz.sizeOf2
  v2 := Tryz.zeroValue2
  t3 := Tryz.underlying3
  a3 := Tryz.isAgg3
  z3 := Tryz.sizeOf3
  v3 := Tryz.zeroValue3
  t4 := Tryz.underlying4
  a4 := Tryz.isAgg4
  z4 := Tryz.sizeOf4
  v4 := Tryz.zeroValue4
  t5 := Tryz.underlying5
  a5 := Tryz.isAgg5
  z5 := Tryz.sizeOf5
  v5 := Tryz.zeroValue5
  t9 := Tryz.underlying9
  a9 := Tryz.isAgg9
  z9 := Tryz.sizeOf9
  v9 := Tryz.zeroValue9
  t20 := Tryz.underlying20
  a20 := Tryz.isAgg20
  z20 := Tryz.sizeOf20
  v20 := Tryz.zeroValue20
  t37 := Tryz.underlying64
  a37 := Tryz.isAgg64
  z37 := Tryz.sizeOf64
  v37 := Tryz.zeroValue64
  t46 := Tryz.underlying123
  a46 := Tryz.isAgg123
  z46 := Tryz.sizeOf123
  v46 := Tryz.zeroValue123
  t51 := Tryz.underlying161
  a51 := Tryz.isAgg161
  z51 := Tryz.sizeOf161
  v51 := Tryz.zeroValue161
  t53 := Tryz.underlying164
  a53 := Tryz.isAgg164
  z53 := Tryz.sizeOf164
  v53 := Tryz.zeroValue164
  t171 := Tryz.underlying186
  a171 := Tryz.isAgg186
  z171 := Tryz.sizeOf186
  v171 := Tryz.zeroValue186
  t173 := Tryz.underlying189
  a173 := Tryz.isAgg189
  z173 := Tryz.sizeOf189
  v173 := Tryz.zeroValue189
  t212 := Tryz.underlying193
  a212 := Tryz.isAgg193
  z212 := Tryz.sizeOf193
  v212 := Tryz.zeroValue193
  t213 := Tryz.underlying194
  a213 := Tryz.isAgg194
  z213 := Tryz.sizeOf194
  t232 := Tryz.underlying101
  a232 := Tryz.isAgg101
  z232 := Tryz.sizeOf101
  v232 := Tryz.zeroValue101
  t233 := Tryz.underlying197
  a233 := Tryz.isAgg197
  z233 := Tryz.sizeOf197
  v233 := Tryz.zeroValue197
  g17 := by kernel_rfl
  g18 := by kernel_rfl
  g19 := by kernel_rfl
}
end Go.Proofs.YtkldllnlakaehaaGreatDoor
