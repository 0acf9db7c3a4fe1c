/- unicode/utf8.DecodeRuneInString at every string: the shelf's contract, laid for this program by the kit's tool. -/
import Derived.Shelf.Unicode.Decode
import Derived.Shelf.Unicode.DecodeSlow
import Derived.Shelf.Unicode.DecodeAny
import Derived.Test.YtfmlkagcmkbebaaDoorProg
namespace Go.Proofs.YtfmlkagcmkbebaaDoor
open Go.Shelf
def laysU_ren : Go.Shelf.Ren := ⟨fun | 197 => 139 | 260 => 141 | n => n, fun | 9 => 9 | 21 => 21 | 3 => 3 | 4 => 4 | 5 => 5 | 105 => 203 | 119 => 209 | 0 => 0 | 46 => 125 | 139 => 212 | 138 => 211 | n => n, fun | 3 => 6 | 4 => 7 | n => n⟩
theorem laysU : Go.Proofs.Lays.n197 Tryd.prog laysU_ren := {
  mixed := by kernel_rfl
  f197 := Tryd.func139.trans (congrArg some (by kernel_rfl))
  f260 := Tryd.func141.trans (congrArg some (by kernel_rfl))
  t0 := Tryd.underlying0
  a0 := Tryd.isAgg0
  z0 := Tryd.sizeOf0
  v0 := Tryd.zeroValue0
  t3 := Tryd.underlying3
  a3 := Tryd.isAgg3
  z3 := Tryd.sizeOf3
  v3 := Tryd.zeroValue3
  t4 := Tryd.underlying4
  a4 := Tryd.isAgg4
  z4 := Tryd.sizeOf4
  v4 := Tryd.zeroValue4
  t5 := Tryd.underlying5
  a5 := Tryd.isAgg5
  z5 := Tryd.sizeOf5
  v5 := Tryd.zeroValue5
  t9 := Tryd.underlying9
  a9 := Tryd.isAgg9
  z9 := Tryd.sizeOf9
  v9 := Tryd.zeroValue9
  t21 := Tryd.underlying21
  a21 := Tryd.isAgg21
  z21 := Tryd.sizeOf21
  v21 := Tryd.zeroValue21
  t46 := Tryd.underlying125
  a46 := Tryd.isAgg125
  z46 := Tryd.sizeOf125
  v46 := Tryd.zeroValue125
  t105 := Tryd.underlying203
  a105 := Tryd.isAgg203
  z105 := Tryd.sizeOf203
  v105 := Tryd.zeroValue203
  t119 := Tryd.underlying209
  a119 := Tryd.isAgg209
  z119 := Tryd.sizeOf209
  t138 := Tryd.underlying211
  a138 := Tryd.isAgg211
  z138 := Tryd.sizeOf211
  v138 := Tryd.zeroValue211
  t139 := Tryd.underlying212
  a139 := Tryd.isAgg212
  z139 := Tryd.sizeOf212
  v139 := Tryd.zeroValue212
  g3 := by kernel_rfl
  g4 := by kernel_rfl }
open Go.RowKit Go.Lib in
theorem utf8_DecodeRuneInString (s : ByteArray) (w : World) (hT : Lib.Utf8Tabs 6 7 w) :
    Calls Tryd.prog 139 #[.string s] w fun e w' => e = .returned (.tuple #[.int .i32 (Lib.decodeGo s).1, .int .i64 (Lib.decodeGo s).2]) ∧ Below w.heap.size w w' := Any.utf8_DecodeRuneInString laysU s w hT
end Go.Proofs.YtfmlkagcmkbebaaDoor
