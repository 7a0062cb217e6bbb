/-
  Texts on the way to the statement, one behind the other, without what it does not reach.
-/
import Derived.Test.YtibinelkmlcmgaaGreatDoorKf
import Derived.Shelf.SlIter.Nil
import Derived.Shelf.SortM.Plain
import Derived.Shelf.SortM.SortNone
import Derived.Ground.GgzProg
import Derived.Ground.SlgmProg
import Derived.Shelf.SlMaps.Clone
import Derived.Ground.SlmcProg
import Derived.Test.YtibinelkmlcmgaaGreatDoorProg
set_option linter.unusedSimpArgs false
set_option linter.unusedVariables false
set_option maxRecDepth 100000
/-
  DERIVED: THE SHELF's CONTRACTS AT THIS DUMP, IN PLAIN WORDS (tools/lay-plain.mjs out of 'TryzIter.lean', which tools/lay-shelf.mjs wrote): THE SAME DECLARATIONS UNDER THE SAME NAMES: 'import', 'namespace', 'open', 'def', 'theorem' AND NOTHING ELSE: no command of the shelf's: FOR A HAND-IN. Each laying: the table of numbers ('.._ren') and one theorem, a field a fact of the dump's own or the kernel's comparison; each contract: ONE APPLICATION.
-/
namespace Go.Proofs
open Go.Shelf
def Tryz.keys24_ren : Go.Shelf.Ren := ⟨fun | 7 => 24 | 10 => 41 | n => n, fun | 23 => 44 | 26 => 9 | 3 => 3 | 28 => 55 | 0 => 0 | 27 => 54 | 33 => 75 | 4 => 4 | n => n, fun | n => n⟩
theorem Tryz.keys24 : Go.Proofs.SlLaysZ.n7 Tryz.prog Tryz.keys24_ren := {
  mixed := by kernel_rfl
  f7 := ⟨Tryz.f24.name, by decide, Tryz.func24.trans (congrArg some (by kernel_rfl))⟩
  f10 := ⟨Tryz.f41.name, by decide, Tryz.func41.trans (congrArg some (by kernel_rfl))⟩
  t0 := Tryz.underlying0
  a0 := Tryz.isAgg0
  z0 := Tryz.sizeOf0
  v0 := Tryz.zeroValue0
  t4 := Tryz.underlying4
  a4 := Tryz.isAgg4
  z4 := Tryz.sizeOf4
  v4 := Tryz.zeroValue4
  t23 := Tryz.underlying44
  a23 := Tryz.isAgg44
  z23 := Tryz.sizeOf44
  v23 := Tryz.zeroValue44
  t26 := Tryz.underlying9
  a26 := Tryz.isAgg9
  z26 := Tryz.sizeOf9
  v26 := Tryz.zeroValue9
  t27 := Tryz.underlying54
  a27 := Tryz.isAgg54
  z27 := Tryz.sizeOf54
  v27 := Tryz.zeroValue54
  t28 := Tryz.underlying55
  a28 := Tryz.isAgg55
  z28 := Tryz.sizeOf55
  v28 := Tryz.zeroValue55
  t33 := Tryz.underlying75
  a33 := Tryz.isAgg75
  z33 := Tryz.sizeOf75
  v33 := Tryz.zeroValue75 }
def Tryz.sorted23_ren : Go.Shelf.Ren := ⟨fun | 6 => 23 | 8 => 39 | 9 => 40 | 11 => 48 | 13 => 50 | 12 => 49 | 23 => 72 | 24 => 73 | 14 => 63 | 15 => 64 | 16 => 65 | 17 => 66 | 18 => 67 | 19 => 68 | 20 => 69 | 21 => 70 | 22 => 71 | 25 => 84 | 26 => 85 | 27 => 86 | 28 => 87 | 29 => 88 | 30 => 89 | 31 => 100 | n => n, fun | 26 => 9 | 28 => 55 | 24 => 22 | 0 => 0 | 3 => 3 | 37 => 82 | 48 => 100 | 50 => 102 | 4 => 4 | 40 => 93 | 39 => 92 | 45 => 62 | 5 => 5 | 9 => 9 | 51 => 108 | 55 => 61 | 57 => 124 | 58 => 125 | 33 => 75 | n => n, fun | n => n⟩
theorem Tryz.sorted23 : Go.Proofs.SlLaysZ.n6 Tryz.prog Tryz.sorted23_ren := {
  mixed := by kernel_rfl
  f6 := ⟨Tryz.f23.name, by decide, Tryz.func23.trans (congrArg some (by kernel_rfl))⟩
  f8 := ⟨Tryz.f39.name, by decide, Tryz.func39.trans (congrArg some (by kernel_rfl))⟩
  f11 := ⟨Tryz.f48.name, by decide, Tryz.func48.trans (congrArg some (by kernel_rfl))⟩
  t0 := Tryz.underlying0
  a0 := Tryz.isAgg0
  z0 := Tryz.sizeOf0
  v0 := Tryz.zeroValue0
  t24 := Tryz.underlying22
  a24 := Tryz.isAgg22
  z24 := Tryz.sizeOf22
  v24 := Tryz.zeroValue22
  t26 := Tryz.underlying9
  a26 := Tryz.isAgg9
  z26 := Tryz.sizeOf9
  v26 := Tryz.zeroValue9
  t28 := Tryz.underlying55
  a28 := Tryz.isAgg55
  z28 := Tryz.sizeOf55
  v28 := Tryz.zeroValue55
  i26 := by kernel_rfl }
def Tryz.sort40_ren : Go.Shelf.Ren := ⟨fun | 6 => 40 | 8 => 50 | 9 => 49 | 19 => 72 | 20 => 73 | 21 => 63 | 22 => 64 | 23 => 65 | 24 => 66 | 25 => 67 | 26 => 68 | 27 => 69 | 28 => 70 | 29 => 71 | 36 => 84 | 31 => 85 | 32 => 86 | 37 => 87 | 38 => 88 | 39 => 89 | 41 => 100 | n => n, fun | 27 => 22 | 29 => 9 | 3 => 3 | 32 => 82 | 26 => 22 | 0 => 0 | 44 => 100 | 46 => 102 | 4 => 4 | 36 => 93 | 35 => 92 | 41 => 62 | 5 => 5 | 9 => 9 | 53 => 108 | 57 => 61 | 63 => 124 | 64 => 125 | n => n, fun | n => n⟩
theorem Tryz.sort40 : Go.Proofs.SlLaysM.n6 Tryz.prog Tryz.sort40_ren := {
  mixed := by kernel_rfl
  f6 := ⟨Tryz.f40.name, by decide, Tryz.func40.trans (congrArg some (by kernel_rfl))⟩
  f8 := Tryz.func50.trans (congrArg some (by kernel_rfl))
  f9 := ⟨Tryz.f49.name, by decide, Tryz.func49.trans (congrArg some (by kernel_rfl))⟩
  f19 := Tryz.func72.trans (congrArg some (by kernel_rfl))
  f20 := Tryz.func73.trans (congrArg some (by kernel_rfl))
  f21 := ⟨Tryz.f63.name, by decide, Tryz.func63.trans (congrArg some (by kernel_rfl))⟩
  f22 := ⟨Tryz.f64.name, by decide, Tryz.func64.trans (congrArg some (by kernel_rfl))⟩
  f23 := ⟨Tryz.f65.name, by decide, Tryz.func65.trans (congrArg some (by kernel_rfl))⟩
  f24 := ⟨Tryz.f66.name, by decide, Tryz.func66.trans (congrArg some (by kernel_rfl))⟩
  f25 := ⟨Tryz.f67.name, by decide, Tryz.func67.trans (congrArg some (by kernel_rfl))⟩
  f26 := ⟨Tryz.f68.name, by decide, Tryz.func68.trans (congrArg some (by kernel_rfl))⟩
  f27 := ⟨Tryz.f69.name, by decide, Tryz.func69.trans (congrArg some (by kernel_rfl))⟩
  f28 := ⟨Tryz.f70.name, by decide, Tryz.func70.trans (congrArg some (by kernel_rfl))⟩
  f29 := ⟨Tryz.f71.name, by decide, Tryz.func71.trans (congrArg some (by kernel_rfl))⟩
  f31 := Tryz.func85.trans (congrArg some (by kernel_rfl))
  f32 := Tryz.func86.trans (congrArg some (by kernel_rfl))
  f36 := ⟨Tryz.f84.name, by decide, Tryz.func84.trans (congrArg some (by kernel_rfl))⟩
  f37 := ⟨Tryz.f87.name, by decide, Tryz.func87.trans (congrArg some (by kernel_rfl))⟩
  f38 := ⟨Tryz.f88.name, by decide, Tryz.func88.trans (congrArg some (by kernel_rfl))⟩
  f39 := ⟨Tryz.f89.name, by decide, Tryz.func89.trans (congrArg some (by kernel_rfl))⟩
  f41 := ⟨Tryz.f100.name, by decide, Tryz.func100.trans (congrArg some (by kernel_rfl))⟩
  t0 := Tryz.underlying0
  a0 := Tryz.isAgg0
  z0 := Tryz.sizeOf0
  v0 := Tryz.zeroValue0
  t3 := Tryz.underlying3
  a3 := Tryz.isAgg3
  z3 := Tryz.sizeOf3
  v3 := Tryz.zeroValue3
  t4 := Tryz.underlying4
  a4 := Tryz.isAgg4
  z4 := Tryz.sizeOf4
  v4 := Tryz.zeroValue4
  t5 := Tryz.underlying5
  a5 := Tryz.isAgg5
  z5 := Tryz.sizeOf5
  v5 := Tryz.zeroValue5
  t9 := Tryz.underlying9
  a9 := Tryz.isAgg9
  z9 := Tryz.sizeOf9
  v9 := Tryz.zeroValue9
  t26 := Tryz.underlying22
  a26 := Tryz.isAgg22
  z26 := Tryz.sizeOf22
  v26 := Tryz.zeroValue22
  t27 := Tryz.underlying22
  a27 := Tryz.isAgg22
  z27 := Tryz.sizeOf22
  v27 := Tryz.zeroValue22
  t29 := Tryz.underlying9
  a29 := Tryz.isAgg9
  z29 := Tryz.sizeOf9
  v29 := Tryz.zeroValue9
  t32 := Tryz.underlying82
  a32 := Tryz.isAgg82
  z32 := Tryz.sizeOf82
  v32 := Tryz.zeroValue82
  t35 := Tryz.underlying92
  a35 := Tryz.isAgg92
  z35 := Tryz.sizeOf92
  v35 := Tryz.zeroValue92
  t36 := Tryz.underlying93
  a36 := Tryz.isAgg93
  z36 := Tryz.sizeOf93
  v36 := Tryz.zeroValue93
  t41 := Tryz.underlying62
  a41 := Tryz.isAgg62
  z41 := Tryz.sizeOf62
  v41 := Tryz.zeroValue62
  t44 := Tryz.underlying100
  a44 := Tryz.isAgg100
  z44 := Tryz.sizeOf100
  v44 := Tryz.zeroValue100
  t46 := Tryz.underlying102
  a46 := Tryz.isAgg102
  z46 := Tryz.sizeOf102
  v46 := Tryz.zeroValue102
  t53 := Tryz.underlying108
  a53 := Tryz.isAgg108
  z53 := Tryz.sizeOf108
  v53 := Tryz.zeroValue108
  t57 := Tryz.underlying61
  a57 := Tryz.isAgg61
  z57 := Tryz.sizeOf61
  v57 := Tryz.zeroValue61
  t63 := Tryz.underlying124
  a63 := Tryz.isAgg124
  z63 := Tryz.sizeOf124
  v63 := Tryz.zeroValue124
  t64 := Tryz.underlying125
  a64 := Tryz.isAgg125
  z64 := Tryz.sizeOf125
  v64 := Tryz.zeroValue125 }
def Tryz.clone30_ren : Go.Shelf.Ren := ⟨fun | 5 => 30 | 7 => 44 | n => n, fun | 23 => 44 | 25 => 9 | 3 => 3 | 4 => 4 | 20 => 20 | n => n, fun | n => n⟩
theorem Tryz.clone30 : Go.Proofs.SlLaysW.n5 Tryz.prog Tryz.clone30_ren := {
  mixed := by kernel_rfl
  f5 := ⟨Tryz.f30.name, by decide, Tryz.func30.trans (congrArg some (by kernel_rfl))⟩
  f7 := Tryz.func44.trans (congrArg some (by kernel_rfl))
  t4 := Tryz.underlying4
  a4 := Tryz.isAgg4
  z4 := Tryz.sizeOf4
  v4 := Tryz.zeroValue4
  t20 := Tryz.underlying20
  a20 := Tryz.isAgg20
  z20 := Tryz.sizeOf20
  v20 := Tryz.zeroValue20
  t23 := Tryz.underlying44
  a23 := Tryz.isAgg44
  z23 := Tryz.sizeOf44
  v23 := Tryz.zeroValue44 }
/-- maps.Clone at whatever map that is not nil: a new block with the same entries. -/
theorem Tryz.maps_Clone (b : Nat) (es : Array MapEntry) (clock : Nat) (w : World) (hb : w.heap[b]? = some (.map es clock)) :
    Calls Tryz.prog 30 #[.map (some b)] w fun e w' => e = .returned (.map (some w.heap.size)) ∧ w' = w.alloc (.map es clock) := AnyW.maps_Clone Tryz.clone30 b es clock w hb
open Go.RowKit Go.Maps Go.Sort
/-- slices.Sort's two contracts at this dump, at the fence that asks nothing. -/
theorem Tryz.sorts23 (m : Nat) : AnyZ.SortsIn Tryz.prog Tryz.sorted23_ren Fence.wide m :=
  ⟨fun blk off cap ss W hH hblk hsz => callsIn_wide.2 (AnyM.slices_Sort_string Tryz.sort40 blk off cap ss W hH hblk hsz),
   fun p cap W => callsIn_wide.2 (AnyM.slices_Sort_string_none Tryz.sort40 p cap W)⟩
/-- **maps.Keys[map[string]int,string,int], at whatever map, the nil one too:** a function value over ONE NEW BLOCK, which holds the map. -/
theorem Tryz.maps_Keys_24 (mb : Option Nat) (W : World) : CallsIn Fence.wide 5 Tryz.prog 24 #[.map mb] W fun e w' => e = .returned (.func (.func 41) #[] #[.pointer (some ⟨W.heap.size, 0, none⟩)]) ∧ w' = W.alloc (.cells #[.map mb] 44) :=
  AnyZ.keys_in Tryz.keys24 Fence.wide 5 trivial rfl mb W
end Go.Proofs
