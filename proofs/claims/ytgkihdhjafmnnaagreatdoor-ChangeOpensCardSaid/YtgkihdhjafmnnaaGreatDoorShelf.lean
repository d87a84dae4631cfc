/-
  strings.Builder's contracts (proved once in the kit, over any program) at this program's numbers.
-/
import Derived.Shelf.Strings.Builder1
import Derived.Shelf.Strings.Builder2
import Derived.Shelf.Strings.Repeat
import Derived.Test.YtgkihdhjafmnnaaGreatDoorProg
namespace Go.Proofs.YtgkihdhjafmnnaaGreatDoor
open Go.Shelf

def fnum : Nat → Nat
  | 99 => 156
  | 105 => 103
  | 165 => 157
  | 166 => 158
  | 167 => 179
  | 169 => 160
  | 170 => 159
  | 206 => 194
  | 212 => 155
  | 240 => 195
  | 241 => 196
  | 263 => 192
  | 264 => 193
  | 276 => 202
  | 277 => 203
  | n => n
def tnum : Nat → Nat
  | 0 => 0
  | 3 => 3
  | 4 => 4
  | 5 => 5
  | 9 => 9
  | 20 => 20
  | 21 => 21
  | 37 => 190
  | 46 => 195
  | 51 => 257
  | 53 => 260
  | 70 => 224
  | 72 => 226
  | 75 => 229
  | 76 => 230
  | 80 => 149
  | 109 => 221
  | 127 => 263
  | 146 => 258
  | 148 => 261
  | 164 => 266
  | n => n
def gnum : Nat → Nat
  | 1 => 2
  | n => n
def ren : Go.Shelf.Ren := ⟨fnum, tnum, gnum⟩

theorem builderExtra : Builder.Extra Tryz.prog ren := {
  sizeBuilder := by kernel_rfl
  liesBuilder := by kernel_rfl
  t5 := Tryz.underlying5
  a5 := Tryz.isAgg5
  z5 := Tryz.sizeOf5
  v5 := Tryz.zeroValue5
  infoByte := by kernel_rfl
  cellsByte := by kernel_rfl
  sizeByte := by kernel_rfl
  neB5 := by decide
}
theorem lays165 : Lays.n165 Tryz.prog ren := {
  mixed := by kernel_rfl
  f165 := Tryz.func157.trans (congrArg some (by kernel_rfl))
  f240 := Tryz.func195.trans (congrArg some (by kernel_rfl))
  f241 := Tryz.func196.trans (congrArg some (by kernel_rfl))
  f276 := Tryz.func202.trans (congrArg some (by kernel_rfl))
  f277 := Tryz.func203.trans (congrArg some (by kernel_rfl))
  t0 := Tryz.underlying0
  a0 := Tryz.isAgg0
  z0 := Tryz.sizeOf0
  v0 := Tryz.zeroValue0
  t3 := Tryz.underlying3
  a3 := Tryz.isAgg3
  z3 := Tryz.sizeOf3
  v3 := Tryz.zeroValue3
  t4 := Tryz.underlying4
  a4 := Tryz.isAgg4
  z4 := Tryz.sizeOf4
  v4 := Tryz.zeroValue4
  t9 := Tryz.underlying9
  a9 := Tryz.isAgg9
  z9 := Tryz.sizeOf9
  v9 := Tryz.zeroValue9
  t20 := Tryz.underlying20
  a20 := Tryz.isAgg20
  z20 := Tryz.sizeOf20
  v20 := Tryz.zeroValue20
  t37 := Tryz.underlying190
  a37 := Tryz.isAgg190
  z37 := Tryz.sizeOf190
  v37 := Tryz.zeroValue190
  t70 := Tryz.underlying224
  a70 := Tryz.isAgg224
  z70 := Tryz.sizeOf224
  v70 := Tryz.zeroValue224
  t72 := Tryz.underlying226
  a72 := Tryz.isAgg226
  z72 := Tryz.sizeOf226
  v72 := Tryz.zeroValue226
  t164 := Tryz.underlying266
  a164 := Tryz.isAgg266
  z164 := Tryz.sizeOf266
  v164 := Tryz.zeroValue266
}
theorem lays166 : Lays.n166 Tryz.prog ren := {
  mixed := by kernel_rfl
  f166 := Tryz.func158.trans (congrArg some (by kernel_rfl))
  f240 := Tryz.func195.trans (congrArg some (by kernel_rfl))
  f276 := Tryz.func202.trans (congrArg some (by kernel_rfl))
  t0 := Tryz.underlying0
  a0 := Tryz.isAgg0
  z0 := Tryz.sizeOf0
  v0 := Tryz.zeroValue0
  t3 := Tryz.underlying3
  a3 := Tryz.isAgg3
  z3 := Tryz.sizeOf3
  v3 := Tryz.zeroValue3
  t4 := Tryz.underlying4
  a4 := Tryz.isAgg4
  z4 := Tryz.sizeOf4
  v4 := Tryz.zeroValue4
  t9 := Tryz.underlying9
  a9 := Tryz.isAgg9
  z9 := Tryz.sizeOf9
  v9 := Tryz.zeroValue9
  t20 := Tryz.underlying20
  a20 := Tryz.isAgg20
  z20 := Tryz.sizeOf20
  v20 := Tryz.zeroValue20
  t37 := Tryz.underlying190
  a37 := Tryz.isAgg190
  z37 := Tryz.sizeOf190
  v37 := Tryz.zeroValue190
  t70 := Tryz.underlying224
  a70 := Tryz.isAgg224
  z70 := Tryz.sizeOf224
  v70 := Tryz.zeroValue224
  t72 := Tryz.underlying226
  a72 := Tryz.isAgg226
  z72 := Tryz.sizeOf226
  v72 := Tryz.zeroValue226
  t75 := Tryz.underlying229
  a75 := Tryz.isAgg229
  z75 := Tryz.sizeOf229
  v75 := Tryz.zeroValue229
  t164 := Tryz.underlying266
  a164 := Tryz.isAgg266
  z164 := Tryz.sizeOf266
  v164 := Tryz.zeroValue266
}
theorem lays167 : Lays.n167 Tryz.prog ren := {
  mixed := by kernel_rfl
  f167 := Tryz.func179.trans (congrArg some (by kernel_rfl))
  f240 := Tryz.func195.trans (congrArg some (by kernel_rfl))
  f276 := Tryz.func202.trans (congrArg some (by kernel_rfl))
  t0 := Tryz.underlying0
  a0 := Tryz.isAgg0
  z0 := Tryz.sizeOf0
  v0 := Tryz.zeroValue0
  t4 := Tryz.underlying4
  a4 := Tryz.isAgg4
  z4 := Tryz.sizeOf4
  v4 := Tryz.zeroValue4
  t5 := Tryz.underlying5
  a5 := Tryz.isAgg5
  z5 := Tryz.sizeOf5
  v5 := Tryz.zeroValue5
  t9 := Tryz.underlying9
  a9 := Tryz.isAgg9
  z9 := Tryz.sizeOf9
  v9 := Tryz.zeroValue9
  t20 := Tryz.underlying20
  a20 := Tryz.isAgg20
  z20 := Tryz.sizeOf20
  v20 := Tryz.zeroValue20
  t37 := Tryz.underlying190
  a37 := Tryz.isAgg190
  z37 := Tryz.sizeOf190
  v37 := Tryz.zeroValue190
  t70 := Tryz.underlying224
  a70 := Tryz.isAgg224
  z70 := Tryz.sizeOf224
  v70 := Tryz.zeroValue224
  t72 := Tryz.underlying226
  a72 := Tryz.isAgg226
  z72 := Tryz.sizeOf226
  v72 := Tryz.zeroValue226
  t75 := Tryz.underlying229
  a75 := Tryz.isAgg229
  z75 := Tryz.sizeOf229
  v75 := Tryz.zeroValue229
  t164 := Tryz.underlying266
  a164 := Tryz.isAgg266
  z164 := Tryz.sizeOf266
  v164 := Tryz.zeroValue266
}
theorem lays169 : Lays.n169 Tryz.prog ren := {
  mixed := by kernel_rfl
  f169 := Tryz.func160.trans (congrArg some (by kernel_rfl))
  t0 := Tryz.underlying0
  a0 := Tryz.isAgg0
  z0 := Tryz.sizeOf0
  v0 := Tryz.zeroValue0
  t3 := Tryz.underlying3
  a3 := Tryz.isAgg3
  z3 := Tryz.sizeOf3
  v3 := Tryz.zeroValue3
  t9 := Tryz.underlying9
  a9 := Tryz.isAgg9
  z9 := Tryz.sizeOf9
  v9 := Tryz.zeroValue9
  t37 := Tryz.underlying190
  a37 := Tryz.isAgg190
  z37 := Tryz.sizeOf190
  v37 := Tryz.zeroValue190
  t70 := Tryz.underlying224
  a70 := Tryz.isAgg224
  z70 := Tryz.sizeOf224
  v70 := Tryz.zeroValue224
  t72 := Tryz.underlying226
  a72 := Tryz.isAgg226
  z72 := Tryz.sizeOf226
  v72 := Tryz.zeroValue226
  t127 := Tryz.underlying263
  a127 := Tryz.isAgg263
  z127 := Tryz.sizeOf263
  v127 := Tryz.zeroValue263
}
theorem lays170 : Lays.n170 Tryz.prog ren := {
  mixed := by kernel_rfl
  f170 := Tryz.func159.trans (congrArg some (by kernel_rfl))
  t0 := Tryz.underlying0
  a0 := Tryz.isAgg0
  z0 := Tryz.sizeOf0
  v0 := Tryz.zeroValue0
  t3 := Tryz.underlying3
  a3 := Tryz.isAgg3
  z3 := Tryz.sizeOf3
  v3 := Tryz.zeroValue3
  t37 := Tryz.underlying190
  a37 := Tryz.isAgg190
  z37 := Tryz.sizeOf190
  v37 := Tryz.zeroValue190
  t70 := Tryz.underlying224
  a70 := Tryz.isAgg224
  z70 := Tryz.sizeOf224
  v70 := Tryz.zeroValue224
  t72 := Tryz.underlying226
  a72 := Tryz.isAgg226
  z72 := Tryz.sizeOf226
  v72 := Tryz.zeroValue226
}
theorem lays105 : Lays.n105 Tryz.prog ren := {
  mixed := by kernel_rfl
  f99 := Tryz.func156.trans (congrArg some (by kernel_rfl))
  f105 := Tryz.func103.trans (congrArg some (by kernel_rfl))
  f165 := Tryz.func157.trans (congrArg some (by kernel_rfl))
  f166 := Tryz.func158.trans (congrArg some (by kernel_rfl))
  f169 := Tryz.func160.trans (congrArg some (by kernel_rfl))
  f170 := Tryz.func159.trans (congrArg some (by kernel_rfl))
  f206 := Tryz.func194.trans (congrArg some (by kernel_rfl))
  f212 := Tryz.func155.trans (congrArg some (by kernel_rfl))
  f240 := Tryz.func195.trans (congrArg some (by kernel_rfl))
  f241 := Tryz.func196.trans (congrArg some (by kernel_rfl))
  f263 := Tryz.func192.trans (congrArg some (by kernel_rfl))
  f264 := Tryz.func193.trans (congrArg some (by kernel_rfl))
  f276 := Tryz.func202.trans (congrArg some (by kernel_rfl))
  f277 := Tryz.func203.trans (congrArg some (by kernel_rfl))
  t0 := Tryz.underlying0
  a0 := Tryz.isAgg0
  z0 := Tryz.sizeOf0
  v0 := Tryz.zeroValue0
  t3 := Tryz.underlying3
  a3 := Tryz.isAgg3
  z3 := Tryz.sizeOf3
  v3 := Tryz.zeroValue3
  t4 := Tryz.underlying4
  a4 := Tryz.isAgg4
  z4 := Tryz.sizeOf4
  v4 := Tryz.zeroValue4
  t5 := Tryz.underlying5
  a5 := Tryz.isAgg5
  z5 := Tryz.sizeOf5
  v5 := Tryz.zeroValue5
  t9 := Tryz.underlying9
  a9 := Tryz.isAgg9
  z9 := Tryz.sizeOf9
  v9 := Tryz.zeroValue9
  t20 := Tryz.underlying20
  a20 := Tryz.isAgg20
  z20 := Tryz.sizeOf20
  v20 := Tryz.zeroValue20
  t37 := Tryz.underlying190
  a37 := Tryz.isAgg190
  z37 := Tryz.sizeOf190
  v37 := Tryz.zeroValue190
  t46 := Tryz.underlying195
  a46 := Tryz.isAgg195
  z46 := Tryz.sizeOf195
  v46 := Tryz.zeroValue195
  t51 := Tryz.underlying257
  a51 := Tryz.isAgg257
  z51 := Tryz.sizeOf257
  v51 := Tryz.zeroValue257
  t53 := Tryz.underlying260
  a53 := Tryz.isAgg260
  z53 := Tryz.sizeOf260
  v53 := Tryz.zeroValue260
  t70 := Tryz.underlying224
  a70 := Tryz.isAgg224
  z70 := Tryz.sizeOf224
  v70 := Tryz.zeroValue224
  t72 := Tryz.underlying226
  a72 := Tryz.isAgg226
  z72 := Tryz.sizeOf226
  v72 := Tryz.zeroValue226
  t75 := Tryz.underlying229
  a75 := Tryz.isAgg229
  z75 := Tryz.sizeOf229
  v75 := Tryz.zeroValue229
  t76 := Tryz.underlying230
  a76 := Tryz.isAgg230
  z76 := Tryz.sizeOf230
  v76 := Tryz.zeroValue230
  t109 := Tryz.underlying221
  a109 := Tryz.isAgg221
  z109 := Tryz.sizeOf221
  v109 := Tryz.zeroValue221
  t127 := Tryz.underlying263
  a127 := Tryz.isAgg263
  z127 := Tryz.sizeOf263
  v127 := Tryz.zeroValue263
  t146 := Tryz.underlying258
  a146 := Tryz.isAgg258
  z146 := Tryz.sizeOf258
  v146 := Tryz.zeroValue258
  t148 := Tryz.underlying261
  a148 := Tryz.isAgg261
  z148 := Tryz.sizeOf261
  v148 := Tryz.zeroValue261
  t164 := Tryz.underlying266
  a164 := Tryz.isAgg266
  z164 := Tryz.sizeOf266
  v164 := Tryz.zeroValue266
}
open Go.RowKit in
theorem writeString_b (B b : Nat) (bs : List Value) (s : ByteArray) (w : World) (h : Lib.IsBuilder 226 5 B b bs w) (hlen : bs.length + s.size ≤ 140737488355328) (hBw : B ≤ w.heap.size) :
    Calls Tryz.prog 158 #[.pointer (some ⟨b, 0, none⟩), .string s] w fun e w' => e = .returned (.tuple #[.int .i64 s.size, .nilIface]) ∧ (Lib.BuilderAt 226 5 B b (.pointer (some ⟨b, 0, none⟩)) (bs ++ Lib.strCells s) w' ∧ Below B w w') :=
  Any.Builder_WriteString lays166 builderExtra B b bs s w h hlen hBw
open Go.RowKit in
theorem writeByte_b (B b : Nat) (bs : List Value) (c : Int) (w : World) (h : Lib.IsBuilder 226 5 B b bs w) (hlen : bs.length + 1 ≤ 140737488355328) (hBw : B ≤ w.heap.size) :
    Calls Tryz.prog 179 #[.pointer (some ⟨b, 0, none⟩), .int .u8 c] w fun e w' => e = .returned .nilIface ∧ (Lib.BuilderAt 226 5 B b (.pointer (some ⟨b, 0, none⟩)) (bs ++ [.int .u8 c]) w' ∧ Below B w w') :=
  Any.Builder_WriteByte lays167 builderExtra B b bs c w h hlen hBw
open Go.RowKit in
theorem string_b (B b : Nat) (l : List UInt8) (w : World) (h : Lib.IsBuilder 226 5 B b (Lib.byteCells l) w) (hBw : B ≤ w.heap.size) :
    Calls Tryz.prog 160 #[.pointer (some ⟨b, 0, none⟩)] w fun e w' => e = .returned (.string ⟨l.toArray⟩) ∧ Below B w w' :=
  Any.Builder_String_any lays169 builderExtra B b l w h hBw
open Go.RowKit in
theorem len_b (B b : Nat) (bs : List Value) (w : World) (h : Lib.IsBuilder 226 5 B b bs w) :
    Calls Tryz.prog 159 #[.pointer (some ⟨b, 0, none⟩)] w fun e w' => e = .returned (.int .i64 bs.length) ∧ w' = w :=
  Any.Builder_Len lays170 B b bs w h
open Go.RowKit in
theorem grow_b (B b n : Nat) (w : World) (hB : B ≤ b) (hbk : w.heap[b]? = some (.cells #[.pointer none, .slice none 0 0] 226 (0, 0))) (hBw : B ≤ w.heap.size) (hn : n ≤ 281474976710656) :
    Calls Tryz.prog 157 #[.pointer (some ⟨b, 0, none⟩), .int .i64 n] w fun e w' => e = .returned (.tuple #[]) ∧ (Lib.BuilderAt 226 5 B b (.pointer (some ⟨b, 0, none⟩)) [] w' ∧ Below B w w') :=
  Any.Builder_Grow_fresh lays165 builderExtra B b n w hB hbk hBw hn
open Go.RowKit in
theorem repeat_b (s : ByteArray) (c : Nat) (w : World) (hc : c ≤ 9223372036854775807) (hlen : s.size * c ≤ 140737488355328) :
    Calls Tryz.prog 103 #[.string s, .int .i64 c] w fun e w' => e = .returned (.string ⟨(Lib.repeatL s.data.toList c).toArray⟩) ∧ Below w.heap.size w w' :=
  Any.strings_Repeat lays105 builderExtra s c w hc hlen
end Go.Proofs.YtgkihdhjafmnnaaGreatDoor
