/-
  Contracts of Go's library at this translation, laid by the kit's lay-shelf.mjs and lay-plain.mjs.
-/
import Derived.Shelf.Strings.Repeat
import Derived.Ground.Names2Prog
import Derived.Test.YtkoomlbnfhdhcaaGreatDoorProg
namespace Go.Proofs
open Go.Shelf
def Tryz.lays105_ren : Go.Shelf.Ren := ⟨fun | 105 => 124 | 212 => 152 | 99 => 153 | 165 => 154 | 166 => 155 | 170 => 156 | 169 => 157 | 263 => 170 | 264 => 171 | 206 => 172 | 240 => 173 | 241 => 174 | 276 => 200 | 277 => 201 | n => n, fun | 9 => 9 | 3 => 3 | 4 => 4 | 20 => 20 | 0 => 0 | 46 => 168 | 109 => 229 | 5 => 5 | 72 => 234 | 76 => 237 | 51 => 48 | 146 => 250 | 53 => 217 | 148 => 252 | 70 => 232 | 37 => 24 | 75 => 236 | 127 => 254 | 164 => 269 | 80 => 158 | n => n, fun | n => n⟩
theorem Tryz.lays105 : Go.Proofs.Lays.n105 Tryz.prog Tryz.lays105_ren := {
  mixed := by kernel_rfl
  f99 := Tryz.func153.trans (congrArg some (by kernel_rfl))
  f105 := Tryz.func124.trans (congrArg some (by kernel_rfl))
  f165 := Tryz.func154.trans (congrArg some (by kernel_rfl))
  f166 := Tryz.func155.trans (congrArg some (by kernel_rfl))
  f169 := Tryz.func157.trans (congrArg some (by kernel_rfl))
  f170 := Tryz.func156.trans (congrArg some (by kernel_rfl))
  f206 := Tryz.func172.trans (congrArg some (by kernel_rfl))
  f212 := Tryz.func152.trans (congrArg some (by kernel_rfl))
  f240 := Tryz.func173.trans (congrArg some (by kernel_rfl))
  f241 := Tryz.func174.trans (congrArg some (by kernel_rfl))
  f263 := Tryz.func170.trans (congrArg some (by kernel_rfl))
  f264 := Tryz.func171.trans (congrArg some (by kernel_rfl))
  f276 := Tryz.func200.trans (congrArg some (by kernel_rfl))
  f277 := Tryz.func201.trans (congrArg some (by kernel_rfl))
  t0 := Tryz.underlying0
  a0 := Tryz.isAgg0
  z0 := Tryz.sizeOf0
  v0 := Tryz.zeroValue0
  t3 := Tryz.underlying3
  a3 := Tryz.isAgg3
  z3 := Tryz.sizeOf3
  v3 := Tryz.zeroValue3
  t4 := Tryz.underlying4
  a4 := Tryz.isAgg4
  z4 := Tryz.sizeOf4
  v4 := Tryz.zeroValue4
  t5 := Tryz.underlying5
  a5 := Tryz.isAgg5
  z5 := Tryz.sizeOf5
  v5 := Tryz.zeroValue5
  t9 := Tryz.underlying9
  a9 := Tryz.isAgg9
  z9 := Tryz.sizeOf9
  v9 := Tryz.zeroValue9
  t20 := Tryz.underlying20
  a20 := Tryz.isAgg20
  z20 := Tryz.sizeOf20
  v20 := Tryz.zeroValue20
  t37 := Tryz.underlying24
  a37 := Tryz.isAgg24
  z37 := Tryz.sizeOf24
  v37 := Tryz.zeroValue24
  t46 := Tryz.underlying168
  a46 := Tryz.isAgg168
  z46 := Tryz.sizeOf168
  v46 := Tryz.zeroValue168
  t51 := Tryz.underlying48
  a51 := Tryz.isAgg48
  z51 := Tryz.sizeOf48
  v51 := Tryz.zeroValue48
  t53 := Tryz.underlying217
  a53 := Tryz.isAgg217
  z53 := Tryz.sizeOf217
  v53 := Tryz.zeroValue217
  t70 := Tryz.underlying232
  a70 := Tryz.isAgg232
  z70 := Tryz.sizeOf232
  v70 := Tryz.zeroValue232
  t72 := Tryz.underlying234
  a72 := Tryz.isAgg234
  z72 := Tryz.sizeOf234
  v72 := Tryz.zeroValue234
  t75 := Tryz.underlying236
  a75 := Tryz.isAgg236
  z75 := Tryz.sizeOf236
  v75 := Tryz.zeroValue236
  t76 := Tryz.underlying237
  a76 := Tryz.isAgg237
  z76 := Tryz.sizeOf237
  v76 := Tryz.zeroValue237
  t109 := Tryz.underlying229
  a109 := Tryz.isAgg229
  z109 := Tryz.sizeOf229
  v109 := Tryz.zeroValue229
  t127 := Tryz.underlying254
  a127 := Tryz.isAgg254
  z127 := Tryz.sizeOf254
  v127 := Tryz.zeroValue254
  t146 := Tryz.underlying250
  a146 := Tryz.isAgg250
  z146 := Tryz.sizeOf250
  v146 := Tryz.zeroValue250
  t148 := Tryz.underlying252
  a148 := Tryz.isAgg252
  z148 := Tryz.sizeOf252
  v148 := Tryz.zeroValue252
  t164 := Tryz.underlying269
  a164 := Tryz.isAgg269
  z164 := Tryz.sizeOf269
  v164 := Tryz.zeroValue269 }
theorem Tryz.Builder_Extra_105 : Builder.Extra Tryz.prog Tryz.lays105_ren := {
  sizeBuilder := by kernel_rfl
  liesBuilder := by kernel_rfl
  t5 := Tryz.underlying5
  a5 := Tryz.isAgg5
  z5 := Tryz.sizeOf5
  v5 := Tryz.zeroValue5
  infoByte := by kernel_rfl
  cellsByte := by kernel_rfl
  sizeByte := by kernel_rfl
  neB5 := by decide }
open Go.RowKit Go.Lib in
/-- **strings.Repeat: count ≥ 0, the result within one allocation: count copies of s.** (LAID: no walk: one application.) -/
theorem Tryz.strings_Repeat (s : ByteArray) (c : Nat) (w : World) (hc : c ≤ 9223372036854775807) (hlen : s.size * c ≤ 140737488355328) :
    Calls Tryz.prog 124 #[.string s, .int .i64 c] w fun e w' => e = .returned (.string ⟨(Lib.repeatL s.data.toList c).toArray⟩) ∧ Below w.heap.size w w' := Any.strings_Repeat Tryz.lays105 Tryz.Builder_Extra_105 s c w hc hlen
end Go.Proofs
