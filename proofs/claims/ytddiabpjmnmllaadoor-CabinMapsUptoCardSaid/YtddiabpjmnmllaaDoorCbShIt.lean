/- Contracts of the library, laid at this program (printed by the kit's lay-shelf and lay-plain, cut by shelfcut.py; the numbers are this seat's). -/
import Derived.Shelf.Strconv.Itoa3
import Derived.Test.YtddiabpjmnmllaaDoorCbShelf
namespace Go.Proofs
open Go.Shelf
def Tryd.lays171_ren : Go.Shelf.Ren := ⟨fun | 171 => 52 | 243 => 59 | 246 => 74 | 283 => 90 | 284 => 91 | 285 => 92 | 286 => 93 | 129 => 108 | 317 => 107 | 318 => 109 | 319 => 110 | 320 => 111 | 337 => 119 | 338 => 120 | n => n, fun | 3 => 3 | 9 => 9 | 2 => 2 | 4 => 4 | 171 => 134 | 0 => 0 | 53 => 135 | 37 => 85 | 5 => 5 | 173 => 138 | 212 => 160 | 51 => 161 | 20 => 20 | 213 => 162 | 46 => 51 | 232 => 178 | 233 => 179 | n => n, fun | 17 => 6 | 18 => 7 | 19 => 8 | n => n⟩
theorem Tryd.lays171 : Go.Proofs.Lays.n171 Tryd.prog Tryd.lays171_ren := {
  mixed := by kernel_rfl
  f129 := Tryd.func108.trans (congrArg some (by kernel_rfl))
  f171 := Tryd.func52.trans (congrArg some (by kernel_rfl))
  f243 := Tryd.func59.trans (congrArg some (by kernel_rfl))
  f246 := Tryd.func74.trans (congrArg some (by kernel_rfl))
  f283 := Tryd.func90.trans (congrArg some (by kernel_rfl))
  f284 := Tryd.func91.trans (congrArg some (by kernel_rfl))
  f285 := Tryd.func92.trans (congrArg some (by kernel_rfl))
  f286 := Tryd.func93.trans (congrArg some (by kernel_rfl))
  f317 := Tryd.func107.trans (congrArg some (by kernel_rfl))
  f318 := Tryd.func109.trans (congrArg some (by kernel_rfl))
  f319 := Tryd.func110.trans (congrArg some (by kernel_rfl))
  f320 := Tryd.func111.trans (congrArg some (by kernel_rfl))
  f337 := Tryd.func119.trans (congrArg some (by kernel_rfl))
  f338 := Tryd.func120.trans (congrArg some (by kernel_rfl))
  t0 := Tryd.underlying0
  a0 := Tryd.isAgg0
  z0 := Tryd.sizeOf0
  v0 := Tryd.zeroValue0
  t2 := Tryd.underlying2
  a2 := Tryd.isAgg2
  z2 := Tryd.sizeOf2
  v2 := Tryd.zeroValue2
  t3 := Tryd.underlying3
  a3 := Tryd.isAgg3
  z3 := Tryd.sizeOf3
  v3 := Tryd.zeroValue3
  t4 := Tryd.underlying4
  a4 := Tryd.isAgg4
  z4 := Tryd.sizeOf4
  v4 := Tryd.zeroValue4
  t5 := Tryd.underlying5
  a5 := Tryd.isAgg5
  z5 := Tryd.sizeOf5
  v5 := Tryd.zeroValue5
  t9 := Tryd.underlying9
  a9 := Tryd.isAgg9
  z9 := Tryd.sizeOf9
  v9 := Tryd.zeroValue9
  t20 := Tryd.underlying20
  a20 := Tryd.isAgg20
  z20 := Tryd.sizeOf20
  v20 := Tryd.zeroValue20
  t37 := Tryd.underlying85
  a37 := Tryd.isAgg85
  z37 := Tryd.sizeOf85
  v37 := Tryd.zeroValue85
  t46 := Tryd.underlying51
  a46 := Tryd.isAgg51
  z46 := Tryd.sizeOf51
  v46 := Tryd.zeroValue51
  t51 := Tryd.underlying161
  a51 := Tryd.isAgg161
  z51 := Tryd.sizeOf161
  v51 := Tryd.zeroValue161
  t53 := Tryd.underlying135
  a53 := Tryd.isAgg135
  z53 := Tryd.sizeOf135
  v53 := Tryd.zeroValue135
  t171 := Tryd.underlying134
  a171 := Tryd.isAgg134
  z171 := Tryd.sizeOf134
  v171 := Tryd.zeroValue134
  t173 := Tryd.underlying138
  a173 := Tryd.isAgg138
  z173 := Tryd.sizeOf138
  v173 := Tryd.zeroValue138
  t212 := Tryd.underlying160
  a212 := Tryd.isAgg160
  z212 := Tryd.sizeOf160
  v212 := Tryd.zeroValue160
  t213 := Tryd.underlying162
  a213 := Tryd.isAgg162
  z213 := Tryd.sizeOf162
  t232 := Tryd.underlying178
  a232 := Tryd.isAgg178
  z232 := Tryd.sizeOf178
  v232 := Tryd.zeroValue178
  t233 := Tryd.underlying179
  a233 := Tryd.isAgg179
  z233 := Tryd.sizeOf179
  v233 := Tryd.zeroValue179
  g17 := by kernel_rfl
  g18 := by kernel_rfl
  g19 := by kernel_rfl }
open Go.RowKit Go.Sort Go.Lib in
/-- THE ROAD WITHOUT THE TABLE: 0 <= i < 100: NO PREMISE ON THE WORLD, AND THE WORLD IS AS IT WAS: a row that keeps its argument in that range need list no table ('laid = []'). (LAID: no walk: one application.) -/
theorem Tryd.strconv_Itoa_small (i : Nat) (hi : i < 100) (w : World) :
    Calls Tryd.prog 52 #[.int .i64 i] w fun e w' => e = .returned (.string ⟨(Lib.decDigits i).toArray⟩) ∧ w' = w := Any.strconv_Itoa_small Tryd.lays171 i hi w
end Go.Proofs
