/-
  Contracts of the kit's shelf (proved once, over any program) at this program's numbers.
-/
import Derived.Shelf.Strconv.Itoa3
import Derived.Test.YtingcnfhdioejaaGreatDoorProg
namespace Go.Proofs.YtingcnfhdioejaaGreatDoor
open Go.Shelf

def fnumI : Nat → Nat
  | 129 => 185
  | 171 => 114
  | 243 => 130
  | 246 => 151
  | 283 => 163
  | 284 => 164
  | 285 => 165
  | 286 => 166
  | 317 => 184
  | 318 => 186
  | 319 => 187
  | 320 => 188
  | 337 => 196
  | 338 => 197
  | n => n
def tnumI : Nat → Nat
  | 0 => 0
  | 2 => 2
  | 3 => 3
  | 4 => 4
  | 5 => 5
  | 9 => 9
  | 20 => 20
  | 37 => 79
  | 46 => 160
  | 51 => 210
  | 53 => 195
  | 171 => 194
  | 173 => 198
  | 212 => 209
  | 213 => 211
  | 232 => 215
  | 233 => 216
  | n => n
def gnumI : Nat → Nat
  | 17 => 2
  | 18 => 3
  | 19 => 4
  | n => n
def renI : Go.Shelf.Ren := ⟨fnumI, tnumI, gnumI⟩

theorem lays171 : Lays.n171 Tryz.prog renI := {
  mixed := by kernel_rfl
  f129 := Tryz.func185.trans (congrArg some (by kernel_rfl))
  f171 := Tryz.func114.trans (congrArg some (by kernel_rfl))
  f243 := Tryz.func130.trans (congrArg some (by kernel_rfl))
  f246 := Tryz.func151.trans (congrArg some (by kernel_rfl))
  f283 := Tryz.func163.trans (congrArg some (by kernel_rfl))
  f284 := Tryz.func164.trans (congrArg some (by kernel_rfl))
  f285 := Tryz.func165.trans (congrArg some (by kernel_rfl))
  f286 := Tryz.func166.trans (congrArg some (by kernel_rfl))
  f317 := Tryz.func184.trans (congrArg some (by kernel_rfl))
  f318 := Tryz.func186.trans (congrArg some (by kernel_rfl))
  f319 := Tryz.func187.trans (congrArg some (by kernel_rfl))
  f320 := Tryz.func188.trans (congrArg some (by kernel_rfl))
  f337 := Tryz.func196.trans (congrArg some (by kernel_rfl))
  f338 := Tryz.func197.trans (congrArg some (by kernel_rfl))
  t0 := Tryz.underlying0
  a0 := Tryz.isAgg0
  z0 := Tryz.sizeOf0
  v0 := Tryz.zeroValue0
  t2 := Tryz.underlying2
  a2 := Tryz.isAgg2
  z2 := Tryz.sizeOf2
  v2 := Tryz.zeroValue2
  t3 := Tryz.underlying3
  a3 := Tryz.isAgg3
  z3 := Tryz.sizeOf3
  v3 := Tryz.zeroValue3
  t4 := Tryz.underlying4
  a4 := Tryz.isAgg4
  z4 := Tryz.sizeOf4
  v4 := Tryz.zeroValue4
  t5 := Tryz.underlying5
  a5 := Tryz.isAgg5
  z5 := Tryz.sizeOf5
  v5 := Tryz.zeroValue5
  t9 := Tryz.underlying9
  a9 := Tryz.isAgg9
  z9 := Tryz.sizeOf9
  v9 := Tryz.zeroValue9
  t20 := Tryz.underlying20
  a20 := Tryz.isAgg20
  z20 := Tryz.sizeOf20
  v20 := Tryz.zeroValue20
  t37 := Tryz.underlying79
  a37 := Tryz.isAgg79
  z37 := Tryz.sizeOf79
  v37 := Tryz.zeroValue79
  t46 := Tryz.underlying160
  a46 := Tryz.isAgg160
  z46 := Tryz.sizeOf160
  v46 := Tryz.zeroValue160
  t51 := Tryz.underlying210
  a51 := Tryz.isAgg210
  z51 := Tryz.sizeOf210
  v51 := Tryz.zeroValue210
  t53 := Tryz.underlying195
  a53 := Tryz.isAgg195
  z53 := Tryz.sizeOf195
  v53 := Tryz.zeroValue195
  t171 := Tryz.underlying194
  a171 := Tryz.isAgg194
  z171 := Tryz.sizeOf194
  v171 := Tryz.zeroValue194
  t173 := Tryz.underlying198
  a173 := Tryz.isAgg198
  z173 := Tryz.sizeOf198
  v173 := Tryz.zeroValue198
  t212 := Tryz.underlying209
  a212 := Tryz.isAgg209
  z212 := Tryz.sizeOf209
  v212 := Tryz.zeroValue209
  t213 := Tryz.underlying211
  a213 := Tryz.isAgg211
  z213 := Tryz.sizeOf211
  t232 := Tryz.underlying215
  a232 := Tryz.isAgg215
  z232 := Tryz.sizeOf215
  v232 := Tryz.zeroValue215
  t233 := Tryz.underlying216
  a233 := Tryz.isAgg216
  z233 := Tryz.sizeOf216
  v233 := Tryz.zeroValue216
  g17 := by kernel_rfl
  g18 := by kernel_rfl
  g19 := by kernel_rfl
}
end Go.Proofs.YtingcnfhdioejaaGreatDoor
