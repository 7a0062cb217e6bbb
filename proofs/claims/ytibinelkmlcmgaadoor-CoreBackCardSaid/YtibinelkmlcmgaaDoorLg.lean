/-
  Texts on the way to the statement, one behind the other, without what it does not reach.
-/
import Derived.Test.YtibinelkmlcmgaaDoorLf
import Derived.Shelf.SlIter.Nil
import Derived.Shelf.SortM.Plain
import Derived.Shelf.SortM.SortNone
import Derived.Ground.GgzProg
import Derived.Ground.SlgmProg
import Derived.Shelf.SlMaps.Clone
import Derived.Ground.SlmcProg
import Derived.Test.YtibinelkmlcmgaaDoorProg
set_option linter.unusedSimpArgs false
set_option linter.unusedVariables false
set_option maxRecDepth 100000
/-
  DERIVED: THE SHELF's CONTRACTS AT THIS DUMP, IN PLAIN WORDS (tools/lay-plain.mjs out of 'TrydIter.lean', which tools/lay-shelf.mjs wrote): THE SAME DECLARATIONS UNDER THE SAME NAMES: 'import', 'namespace', 'open', 'def', 'theorem' AND NOTHING ELSE: no command of the shelf's: FOR A HAND-IN. Each laying: the table of numbers ('.._ren') and one theorem, a field a fact of the dump's own or the kernel's comparison; each contract: ONE APPLICATION.
-/
namespace Go.Proofs
open Go.Shelf
def Tryd.keys26_ren : Go.Shelf.Ren := ⟨fun | 7 => 26 | 10 => 42 | n => n, fun | 23 => 52 | 26 => 9 | 3 => 3 | 28 => 60 | 0 => 0 | 27 => 59 | 33 => 76 | 4 => 4 | n => n, fun | n => n⟩
theorem Tryd.keys26 : Go.Proofs.SlLaysZ.n7 Tryd.prog Tryd.keys26_ren := {
  mixed := by kernel_rfl
  f7 := ⟨Tryd.f26.name, by decide, Tryd.func26.trans (congrArg some (by kernel_rfl))⟩
  f10 := ⟨Tryd.f42.name, by decide, Tryd.func42.trans (congrArg some (by kernel_rfl))⟩
  t0 := Tryd.underlying0
  a0 := Tryd.isAgg0
  z0 := Tryd.sizeOf0
  v0 := Tryd.zeroValue0
  t4 := Tryd.underlying4
  a4 := Tryd.isAgg4
  z4 := Tryd.sizeOf4
  v4 := Tryd.zeroValue4
  t23 := Tryd.underlying52
  a23 := Tryd.isAgg52
  z23 := Tryd.sizeOf52
  v23 := Tryd.zeroValue52
  t26 := Tryd.underlying9
  a26 := Tryd.isAgg9
  z26 := Tryd.sizeOf9
  v26 := Tryd.zeroValue9
  t27 := Tryd.underlying59
  a27 := Tryd.isAgg59
  z27 := Tryd.sizeOf59
  v27 := Tryd.zeroValue59
  t28 := Tryd.underlying60
  a28 := Tryd.isAgg60
  z28 := Tryd.sizeOf60
  v28 := Tryd.zeroValue60
  t33 := Tryd.underlying76
  a33 := Tryd.isAgg76
  z33 := Tryd.sizeOf76
  v33 := Tryd.zeroValue76 }
def Tryd.sorted25_ren : Go.Shelf.Ren := ⟨fun | 6 => 25 | 8 => 40 | 9 => 41 | 11 => 60 | 13 => 62 | 12 => 61 | 23 => 78 | 24 => 79 | 14 => 69 | 15 => 70 | 16 => 71 | 17 => 72 | 18 => 73 | 19 => 74 | 20 => 75 | 21 => 76 | 22 => 77 | 25 => 85 | 26 => 86 | 27 => 87 | 28 => 88 | 29 => 89 | 30 => 90 | 31 => 98 | n => n, fun | 26 => 9 | 28 => 60 | 24 => 22 | 0 => 0 | 3 => 3 | 37 => 96 | 48 => 110 | 50 => 112 | 4 => 4 | 40 => 103 | 39 => 102 | 45 => 71 | 5 => 5 | 9 => 9 | 51 => 120 | 55 => 50 | 57 => 130 | 58 => 131 | 33 => 76 | n => n, fun | n => n⟩
theorem Tryd.sorted25 : Go.Proofs.SlLaysZ.n6 Tryd.prog Tryd.sorted25_ren := {
  mixed := by kernel_rfl
  f6 := ⟨Tryd.f25.name, by decide, Tryd.func25.trans (congrArg some (by kernel_rfl))⟩
  f8 := ⟨Tryd.f40.name, by decide, Tryd.func40.trans (congrArg some (by kernel_rfl))⟩
  f11 := ⟨Tryd.f60.name, by decide, Tryd.func60.trans (congrArg some (by kernel_rfl))⟩
  t0 := Tryd.underlying0
  a0 := Tryd.isAgg0
  z0 := Tryd.sizeOf0
  v0 := Tryd.zeroValue0
  t24 := Tryd.underlying22
  a24 := Tryd.isAgg22
  z24 := Tryd.sizeOf22
  v24 := Tryd.zeroValue22
  t26 := Tryd.underlying9
  a26 := Tryd.isAgg9
  z26 := Tryd.sizeOf9
  v26 := Tryd.zeroValue9
  t28 := Tryd.underlying60
  a28 := Tryd.isAgg60
  z28 := Tryd.sizeOf60
  v28 := Tryd.zeroValue60
  i26 := by kernel_rfl }
def Tryd.sort41_ren : Go.Shelf.Ren := ⟨fun | 6 => 41 | 8 => 62 | 9 => 61 | 19 => 78 | 20 => 79 | 21 => 69 | 22 => 70 | 23 => 71 | 24 => 72 | 25 => 73 | 26 => 74 | 27 => 75 | 28 => 76 | 29 => 77 | 36 => 85 | 31 => 86 | 32 => 87 | 37 => 88 | 38 => 89 | 39 => 90 | 41 => 98 | n => n, fun | 27 => 22 | 29 => 9 | 3 => 3 | 32 => 96 | 26 => 22 | 0 => 0 | 44 => 110 | 46 => 112 | 4 => 4 | 36 => 103 | 35 => 102 | 41 => 71 | 5 => 5 | 9 => 9 | 53 => 120 | 57 => 50 | 63 => 130 | 64 => 131 | n => n, fun | n => n⟩
theorem Tryd.sort41 : Go.Proofs.SlLaysM.n6 Tryd.prog Tryd.sort41_ren := {
  mixed := by kernel_rfl
  f6 := ⟨Tryd.f41.name, by decide, Tryd.func41.trans (congrArg some (by kernel_rfl))⟩
  f8 := Tryd.func62.trans (congrArg some (by kernel_rfl))
  f9 := ⟨Tryd.f61.name, by decide, Tryd.func61.trans (congrArg some (by kernel_rfl))⟩
  f19 := Tryd.func78.trans (congrArg some (by kernel_rfl))
  f20 := Tryd.func79.trans (congrArg some (by kernel_rfl))
  f21 := ⟨Tryd.f69.name, by decide, Tryd.func69.trans (congrArg some (by kernel_rfl))⟩
  f22 := ⟨Tryd.f70.name, by decide, Tryd.func70.trans (congrArg some (by kernel_rfl))⟩
  f23 := ⟨Tryd.f71.name, by decide, Tryd.func71.trans (congrArg some (by kernel_rfl))⟩
  f24 := ⟨Tryd.f72.name, by decide, Tryd.func72.trans (congrArg some (by kernel_rfl))⟩
  f25 := ⟨Tryd.f73.name, by decide, Tryd.func73.trans (congrArg some (by kernel_rfl))⟩
  f26 := ⟨Tryd.f74.name, by decide, Tryd.func74.trans (congrArg some (by kernel_rfl))⟩
  f27 := ⟨Tryd.f75.name, by decide, Tryd.func75.trans (congrArg some (by kernel_rfl))⟩
  f28 := ⟨Tryd.f76.name, by decide, Tryd.func76.trans (congrArg some (by kernel_rfl))⟩
  f29 := ⟨Tryd.f77.name, by decide, Tryd.func77.trans (congrArg some (by kernel_rfl))⟩
  f31 := Tryd.func86.trans (congrArg some (by kernel_rfl))
  f32 := Tryd.func87.trans (congrArg some (by kernel_rfl))
  f36 := ⟨Tryd.f85.name, by decide, Tryd.func85.trans (congrArg some (by kernel_rfl))⟩
  f37 := ⟨Tryd.f88.name, by decide, Tryd.func88.trans (congrArg some (by kernel_rfl))⟩
  f38 := ⟨Tryd.f89.name, by decide, Tryd.func89.trans (congrArg some (by kernel_rfl))⟩
  f39 := ⟨Tryd.f90.name, by decide, Tryd.func90.trans (congrArg some (by kernel_rfl))⟩
  f41 := ⟨Tryd.f98.name, by decide, Tryd.func98.trans (congrArg some (by kernel_rfl))⟩
  t0 := Tryd.underlying0
  a0 := Tryd.isAgg0
  z0 := Tryd.sizeOf0
  v0 := Tryd.zeroValue0
  t3 := Tryd.underlying3
  a3 := Tryd.isAgg3
  z3 := Tryd.sizeOf3
  v3 := Tryd.zeroValue3
  t4 := Tryd.underlying4
  a4 := Tryd.isAgg4
  z4 := Tryd.sizeOf4
  v4 := Tryd.zeroValue4
  t5 := Tryd.underlying5
  a5 := Tryd.isAgg5
  z5 := Tryd.sizeOf5
  v5 := Tryd.zeroValue5
  t9 := Tryd.underlying9
  a9 := Tryd.isAgg9
  z9 := Tryd.sizeOf9
  v9 := Tryd.zeroValue9
  t26 := Tryd.underlying22
  a26 := Tryd.isAgg22
  z26 := Tryd.sizeOf22
  v26 := Tryd.zeroValue22
  t27 := Tryd.underlying22
  a27 := Tryd.isAgg22
  z27 := Tryd.sizeOf22
  v27 := Tryd.zeroValue22
  t29 := Tryd.underlying9
  a29 := Tryd.isAgg9
  z29 := Tryd.sizeOf9
  v29 := Tryd.zeroValue9
  t32 := Tryd.underlying96
  a32 := Tryd.isAgg96
  z32 := Tryd.sizeOf96
  v32 := Tryd.zeroValue96
  t35 := Tryd.underlying102
  a35 := Tryd.isAgg102
  z35 := Tryd.sizeOf102
  v35 := Tryd.zeroValue102
  t36 := Tryd.underlying103
  a36 := Tryd.isAgg103
  z36 := Tryd.sizeOf103
  v36 := Tryd.zeroValue103
  t41 := Tryd.underlying71
  a41 := Tryd.isAgg71
  z41 := Tryd.sizeOf71
  v41 := Tryd.zeroValue71
  t44 := Tryd.underlying110
  a44 := Tryd.isAgg110
  z44 := Tryd.sizeOf110
  v44 := Tryd.zeroValue110
  t46 := Tryd.underlying112
  a46 := Tryd.isAgg112
  z46 := Tryd.sizeOf112
  v46 := Tryd.zeroValue112
  t53 := Tryd.underlying120
  a53 := Tryd.isAgg120
  z53 := Tryd.sizeOf120
  v53 := Tryd.zeroValue120
  t57 := Tryd.underlying50
  a57 := Tryd.isAgg50
  z57 := Tryd.sizeOf50
  v57 := Tryd.zeroValue50
  t63 := Tryd.underlying130
  a63 := Tryd.isAgg130
  z63 := Tryd.sizeOf130
  v63 := Tryd.zeroValue130
  t64 := Tryd.underlying131
  a64 := Tryd.isAgg131
  z64 := Tryd.sizeOf131
  v64 := Tryd.zeroValue131 }
def Tryd.clone37_ren : Go.Shelf.Ren := ⟨fun | 5 => 37 | 7 => 59 | n => n, fun | 23 => 52 | 25 => 9 | 3 => 3 | 4 => 4 | 20 => 20 | n => n, fun | n => n⟩
theorem Tryd.clone37 : Go.Proofs.SlLaysW.n5 Tryd.prog Tryd.clone37_ren := {
  mixed := by kernel_rfl
  f5 := ⟨Tryd.f37.name, by decide, Tryd.func37.trans (congrArg some (by kernel_rfl))⟩
  f7 := Tryd.func59.trans (congrArg some (by kernel_rfl))
  t4 := Tryd.underlying4
  a4 := Tryd.isAgg4
  z4 := Tryd.sizeOf4
  v4 := Tryd.zeroValue4
  t20 := Tryd.underlying20
  a20 := Tryd.isAgg20
  z20 := Tryd.sizeOf20
  v20 := Tryd.zeroValue20
  t23 := Tryd.underlying52
  a23 := Tryd.isAgg52
  z23 := Tryd.sizeOf52
  v23 := Tryd.zeroValue52 }
/-- maps.Clone at whatever map that is not nil: a new block with the same entries. -/
theorem Tryd.maps_Clone (b : Nat) (es : Array MapEntry) (clock : Nat) (w : World) (hb : w.heap[b]? = some (.map es clock)) :
    Calls Tryd.prog 37 #[.map (some b)] w fun e w' => e = .returned (.map (some w.heap.size)) ∧ w' = w.alloc (.map es clock) := AnyW.maps_Clone Tryd.clone37 b es clock w hb
open Go.RowKit Go.Maps Go.Sort
/-- slices.Sort's two contracts at this dump, at the fence that asks nothing. -/
theorem Tryd.sorts25 (m : Nat) : AnyZ.SortsIn Tryd.prog Tryd.sorted25_ren Fence.wide m :=
  ⟨fun blk off cap ss W hH hblk hsz => callsIn_wide.2 (AnyM.slices_Sort_string Tryd.sort41 blk off cap ss W hH hblk hsz),
   fun p cap W => callsIn_wide.2 (AnyM.slices_Sort_string_none Tryd.sort41 p cap W)⟩
/-- **maps.Keys[map[string]int,string,int], at whatever map, the nil one too:** a function value over ONE NEW BLOCK, which holds the map. -/
theorem Tryd.maps_Keys_26 (mb : Option Nat) (W : World) : CallsIn Fence.wide 5 Tryd.prog 26 #[.map mb] W fun e w' => e = .returned (.func (.func 42) #[] #[.pointer (some ⟨W.heap.size, 0, none⟩)]) ∧ w' = W.alloc (.cells #[.map mb] 52) :=
  AnyZ.keys_in Tryd.keys26 Fence.wide 5 trivial rfl mb W
end Go.Proofs
