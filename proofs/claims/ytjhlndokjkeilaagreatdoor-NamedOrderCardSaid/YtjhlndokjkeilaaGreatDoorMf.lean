import Derived.Test.YtjhlndokjkeilaaGreatDoorMe
import Derived.Shelf.Small.Strs
import Derived.Shelf.Strconv.Itoa0
import Derived.Shelf.Strconv.Itoa1
import Derived.Shelf.LaysM
import Derived.Shelf.Strconv.Itoa2
import Derived.Shelf.Strconv.Itoa3
import Derived.Shelf.Strings.Search1
import Derived.Test.YtjhlndokjkeilaaGreatDoorProg
set_option linter.unusedSimpArgs false
set_option linter.unusedVariables false
set_option maxRecDepth 100000
namespace Go.Proofs
open Go.Shelf
def Tryz.lays137_ren:Go.Shelf.Ren:=⟨fun | 137=>105 | 217=>111 | 266=>120 | n=>n,fun | 9=>9 | 5=>5 | 3=>3 | n=>n,fun | n=>n⟩
theorem Tryz.lays137:Go.Proofs.Lays.n137 Tryz.prog Tryz.lays137_ren:={
 mixed:=by kernel_rfl
 f137:=Tryz.func105.trans (congrArg some (by kernel_rfl))
 f217:=Tryz.func111.trans (congrArg some (by kernel_rfl))
 f266:=Tryz.func120.trans (congrArg some (by kernel_rfl))
 t3:=Tryz.underlying3
 a3:=Tryz.isAgg3
 z3:=Tryz.sizeOf3
 v3:=Tryz.zeroValue3
 t5:=Tryz.underlying5
 a5:=Tryz.isAgg5
 z5:=Tryz.sizeOf5
 v5:=Tryz.zeroValue5
 t9:=Tryz.underlying9
 a9:=Tryz.isAgg9
 z9:=Tryz.sizeOf9
 v9:=Tryz.zeroValue9 }
open Go.RowKit in
theorem Tryz.strings_IndexByte (s:ByteArray) (c:Int) (w:World) :
  Calls Tryz.prog 105 #[.string s,.int .u8 c] w fun e w'=>e=.returned (.int .i64 (Lib.indexByte s.data.toList c.toNat.toUInt8))∧w'=w:=Any.strings_IndexByte Tryz.lays137 s c w
def Tryz.laysM171_ren:Go.Shelf.Ren:=⟨fun | 171=>68 | 243=>89 | 246=>107 | 283=>114 | 284=>115 | 285=>116 | 286=>117 | 129=>122 | 317=>121 | 318=>123 | 319=>124 | 320=>125 | 337=>126 | 338=>127 | n=>n,fun | 3=>3 | 9=>9 | 2=>2 | 4=>4 | 171=>152 | 0=>0 | 53=>153 | 37=>36 | 5=>5 | 173=>156 | 212=>161 | 51=>162 | 20=>20 | 213=>163 | 46=>164 | 232=>167 | 233=>168 | n=>n,fun | 17=>0 | 18=>2 | 19=>3 | n=>n⟩
theorem Tryz.laysM171:Go.Proofs.LaysM.n171 Tryz.prog Tryz.laysM171_ren:={
 mixed:=by kernel_rfl
 f129:=Tryz.func122.trans (congrArg some (by kernel_rfl))
 f171:=Tryz.func68.trans (congrArg some (by kernel_rfl))
 f243:=Tryz.func89.trans (congrArg some (by kernel_rfl))
 f246:=Tryz.func107.trans (congrArg some (by kernel_rfl))
 f283:=Tryz.func114.trans (congrArg some (by kernel_rfl))
 f284:=Tryz.func115.trans (congrArg some (by kernel_rfl))
 f285:=Tryz.func116.trans (congrArg some (by kernel_rfl))
 f286:=Tryz.func117.trans (congrArg some (by kernel_rfl))
 f317:=Tryz.func121.trans (congrArg some (by kernel_rfl))
 f318:=Tryz.func123.trans (congrArg some (by kernel_rfl))
 f319:=Tryz.func124.trans (congrArg some (by kernel_rfl))
 f320:=Tryz.func125.trans (congrArg some (by kernel_rfl))
 f337:=Tryz.func126.trans (congrArg some (by kernel_rfl))
 f338:=Tryz.func127.trans (congrArg some (by kernel_rfl))
 t0:=Tryz.underlying0
 a0:=Tryz.isAgg0
 z0:=Tryz.sizeOf0
 v0:=Tryz.zeroValue0
 t2:=Tryz.underlying2
 a2:=Tryz.isAgg2
 z2:=Tryz.sizeOf2
 v2:=Tryz.zeroValue2
 t3:=Tryz.underlying3
 a3:=Tryz.isAgg3
 z3:=Tryz.sizeOf3
 v3:=Tryz.zeroValue3
 t4:=Tryz.underlying4
 a4:=Tryz.isAgg4
 z4:=Tryz.sizeOf4
 v4:=Tryz.zeroValue4
 t5:=Tryz.underlying5
 a5:=Tryz.isAgg5
 z5:=Tryz.sizeOf5
 v5:=Tryz.zeroValue5
 t9:=Tryz.underlying9
 a9:=Tryz.isAgg9
 z9:=Tryz.sizeOf9
 v9:=Tryz.zeroValue9
 t20:=Tryz.underlying20
 a20:=Tryz.isAgg20
 z20:=Tryz.sizeOf20
 v20:=Tryz.zeroValue20
 t37:=Tryz.underlying36
 a37:=Tryz.isAgg36
 z37:=Tryz.sizeOf36
 v37:=Tryz.zeroValue36
 t46:=Tryz.underlying164
 a46:=Tryz.isAgg164
 z46:=Tryz.sizeOf164
 v46:=Tryz.zeroValue164
 t51:=Tryz.underlying162
 a51:=Tryz.isAgg162
 z51:=Tryz.sizeOf162
 v51:=Tryz.zeroValue162
 t53:=Tryz.underlying153
 a53:=Tryz.isAgg153
 z53:=Tryz.sizeOf153
 v53:=Tryz.zeroValue153
 t171:=Tryz.underlying152
 a171:=Tryz.isAgg152
 z171:=Tryz.sizeOf152
 v171:=Tryz.zeroValue152
 t173:=Tryz.underlying156
 a173:=Tryz.isAgg156
 z173:=Tryz.sizeOf156
 v173:=Tryz.zeroValue156
 t212:=Tryz.underlying161
 a212:=Tryz.isAgg161
 z212:=Tryz.sizeOf161
 v212:=Tryz.zeroValue161
 t213:=Tryz.underlying163
 a213:=Tryz.isAgg163
 z213:=Tryz.sizeOf163
 t232:=Tryz.underlying167
 a232:=Tryz.isAgg167
 z232:=Tryz.sizeOf167
 v232:=Tryz.zeroValue167
 t233:=Tryz.underlying168
 a233:=Tryz.isAgg168
 z233:=Tryz.sizeOf168
 v233:=Tryz.zeroValue168
 g17:=by kernel_rfl
 g18:=by kernel_rfl
 g19:=by kernel_rfl
 i0:=by kernel_rfl
 i2:=by kernel_rfl
 i3:=by kernel_rfl
 i4:=by kernel_rfl
 i5:=by kernel_rfl
 i9:=by kernel_rfl
 i20:=by kernel_rfl
 i37:=by kernel_rfl
 i46:=by kernel_rfl
 i51:=by kernel_rfl
 i53:=by kernel_rfl
 i171:=by kernel_rfl
 i173:=by kernel_rfl
 i212:=by kernel_rfl
 i232:=by kernel_rfl
 i233:=by kernel_rfl
 m17:=by kernel_rfl
 m18:=by kernel_rfl
 m19:=by kernel_rfl }
open Go.RowKit Go.Sort Go.Lib in
theorem Tryz.strconv_Itoa (n : Int) (h0 : -9223372036854775808 ≤ n) (h1 : n ≤ 9223372036854775807) (w : World) (htab : Lib.TabIs Tryz.prog w "internal/strconv.uint64pow10" .u64 Lib.pow10Tab) :
  Calls Tryz.prog 68 #[.int .i64 n] w fun e w'=>e=.returned (.string ⟨(Lib.itoa n).toArray⟩)∧∃k os,w'=grow (w.drewN k) os:=Any.strconv_Itoa Tryz.laysM171 n h0 h1 w htab
end Go.Proofs
