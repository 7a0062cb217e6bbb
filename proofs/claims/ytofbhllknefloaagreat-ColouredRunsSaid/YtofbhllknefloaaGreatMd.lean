import Derived.Test.YtofbhllknefloaaGreatMc
import Derived.Shelf.SlSortCmp.WholeK
import Derived.Ground.SlsfProg
import Derived.Test.YtofbhllknefloaaGreatProg
set_option linter.unusedSimpArgs false
set_option linter.unusedVariables false
set_option maxRecDepth 100000
namespace Go.Proofs
open Go.Shelf
def Tryz.sortPairs_ren:Go.Shelf.Ren:=⟨fun | 6=>32 | 15=>56 | 14=>55 | 28=>83 | 29=>84 | 20=>75 | 21=>76 | 22=>77 | 23=>78 | 24=>79 | 25=>80 | 26=>81 | 27=>82 | 46=>102 | 47=>103 | 48=>104 | 49=>105 | 50=>106 | 57=>113 | n=>n,fun | 22=>45 | 24=>49 | 25=>99 | 3=>3 | 39=>110 | 0=>0 | 53=>146 | 55=>149 | 4=>4 | 46=>161 | 45=>160 | 50=>165 | 5=>5 | 9=>9 | 66=>185 | 70=>189 | 76=>194 | 77=>195 | n=>n,fun | n=>n⟩
theorem Tryz.sortPairs:Go.Proofs.SlLaysF0.n6 Tryz.prog Tryz.sortPairs_ren:={
 mixed:=by kernel_rfl
 f6:=⟨Tryz.f32.name,by decide,Tryz.func32.trans (congrArg some (by kernel_rfl))⟩
 f14:=⟨Tryz.f55.name,by decide,Tryz.func55.trans (congrArg some (by kernel_rfl))⟩
 f15:=Tryz.func56.trans (congrArg some (by kernel_rfl))
 f20:=⟨Tryz.f75.name,by decide,Tryz.func75.trans (congrArg some (by kernel_rfl))⟩
 f21:=⟨Tryz.f76.name,by decide,Tryz.func76.trans (congrArg some (by kernel_rfl))⟩
 f22:=⟨Tryz.f77.name,by decide,Tryz.func77.trans (congrArg some (by kernel_rfl))⟩
 f23:=⟨Tryz.f78.name,by decide,Tryz.func78.trans (congrArg some (by kernel_rfl))⟩
 f24:=⟨Tryz.f79.name,by decide,Tryz.func79.trans (congrArg some (by kernel_rfl))⟩
 f25:=⟨Tryz.f80.name,by decide,Tryz.func80.trans (congrArg some (by kernel_rfl))⟩
 f26:=⟨Tryz.f81.name,by decide,Tryz.func81.trans (congrArg some (by kernel_rfl))⟩
 f27:=⟨Tryz.f82.name,by decide,Tryz.func82.trans (congrArg some (by kernel_rfl))⟩
 f28:=Tryz.func83.trans (congrArg some (by kernel_rfl))
 f29:=Tryz.func84.trans (congrArg some (by kernel_rfl))
 f46:=⟨Tryz.f102.name,by decide,Tryz.func102.trans (congrArg some (by kernel_rfl))⟩
 f47:=Tryz.func103.trans (congrArg some (by kernel_rfl))
 f48:=Tryz.func104.trans (congrArg some (by kernel_rfl))
 f49:=⟨Tryz.f105.name,by decide,Tryz.func105.trans (congrArg some (by kernel_rfl))⟩
 f50:=⟨Tryz.f106.name,by decide,Tryz.func106.trans (congrArg some (by kernel_rfl))⟩
 f57:=⟨Tryz.f113.name,by decide,Tryz.func113.trans (congrArg some (by kernel_rfl))⟩
 t0:=Tryz.underlying0
 a0:=Tryz.isAgg0
 z0:=Tryz.sizeOf0
 v0:=Tryz.zeroValue0
 t3:=Tryz.underlying3
 a3:=Tryz.isAgg3
 z3:=Tryz.sizeOf3
 v3:=Tryz.zeroValue3
 t4:=Tryz.underlying4
 a4:=Tryz.isAgg4
 z4:=Tryz.sizeOf4
 v4:=Tryz.zeroValue4
 t5:=Tryz.underlying5
 a5:=Tryz.isAgg5
 z5:=Tryz.sizeOf5
 v5:=Tryz.zeroValue5
 t9:=Tryz.underlying9
 a9:=Tryz.isAgg9
 z9:=Tryz.sizeOf9
 v9:=Tryz.zeroValue9
 t22:=Tryz.underlying45
 a22:=Tryz.isAgg45
 z22:=Tryz.sizeOf45
 v22:=Tryz.zeroValue45
 t25:=Tryz.underlying99
 a25:=Tryz.isAgg99
 z25:=Tryz.sizeOf99
 v25:=Tryz.zeroValue99
 t39:=Tryz.underlying110
 a39:=Tryz.isAgg110
 z39:=Tryz.sizeOf110
 v39:=Tryz.zeroValue110
 t45:=Tryz.underlying160
 a45:=Tryz.isAgg160
 z45:=Tryz.sizeOf160
 v45:=Tryz.zeroValue160
 t46:=Tryz.underlying161
 a46:=Tryz.isAgg161
 z46:=Tryz.sizeOf161
 v46:=Tryz.zeroValue161
 t50:=Tryz.underlying165
 a50:=Tryz.isAgg165
 z50:=Tryz.sizeOf165
 v50:=Tryz.zeroValue165
 t53:=Tryz.underlying146
 a53:=Tryz.isAgg146
 z53:=Tryz.sizeOf146
 v53:=Tryz.zeroValue146
 t55:=Tryz.underlying149
 a55:=Tryz.isAgg149
 z55:=Tryz.sizeOf149
 v55:=Tryz.zeroValue149
 t66:=Tryz.underlying185
 a66:=Tryz.isAgg185
 z66:=Tryz.sizeOf185
 v66:=Tryz.zeroValue185
 t70:=Tryz.underlying189
 a70:=Tryz.isAgg189
 z70:=Tryz.sizeOf189
 v70:=Tryz.zeroValue189
 t76:=Tryz.underlying194
 a76:=Tryz.isAgg194
 z76:=Tryz.sizeOf194
 v76:=Tryz.zeroValue194
 t77:=Tryz.underlying195
 a77:=Tryz.isAgg195
 z77:=Tryz.sizeOf195
 v77:=Tryz.zeroValue195 }
end Go.Proofs
