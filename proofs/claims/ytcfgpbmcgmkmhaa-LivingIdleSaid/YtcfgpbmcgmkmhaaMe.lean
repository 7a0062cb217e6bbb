/-
  Texts on the way to the statement, one behind the other, without what it does not reach.
-/
import Derived.Test.YtcfgpbmcgmkmhaaMd
import Derived.Ground.SlgmProg
import Derived.Shelf.SortM.Plain
import Derived.Shelf.SortM.SortNone
import Derived.Test.YtcfgpbmcgmkmhaaProg
set_option linter.unusedSimpArgs false
set_option linter.unusedVariables false
set_option maxRecDepth 100000
/-
  DERIVED: THE SHELF's CONTRACTS AT THIS DUMP, IN PLAIN WORDS (tools/lay-plain.mjs out of 'TryShelf.lean', which tools/lay-shelf.mjs wrote): THE SAME DECLARATIONS UNDER THE SAME NAMES: 'import', 'namespace', 'open', 'def', 'theorem' AND NOTHING ELSE: no command of the shelf's: FOR A HAND-IN. Each laying: the table of numbers ('.._ren') and one theorem, a field a fact of the dump's own or the kernel's comparison; each contract: ONE APPLICATION.
-/
namespace Go.Proofs
open Go.Shelf
def Try.laysSlM5_f33_ren : Go.Shelf.Ren := ⟨fun | 5 => 33 | 8 => 49 | 7 => 48 | 19 => 65 | 20 => 66 | 10 => 56 | 11 => 57 | 12 => 58 | 13 => 59 | 14 => 60 | 15 => 61 | 16 => 62 | 17 => 63 | 18 => 64 | 30 => 79 | 31 => 80 | 32 => 81 | 33 => 82 | 34 => 83 | 35 => 84 | 40 => 88 | n => n, fun | 23 => 40 | 25 => 3 | 3 => 3 | 32 => 122 | 22 => 40 | 0 => 0 | 44 => 143 | 46 => 145 | 4 => 4 | 36 => 135 | 35 => 134 | 41 => 140 | 5 => 5 | 9 => 9 | 53 => 157 | 57 => 161 | 63 => 165 | 64 => 166 | n => n, fun | n => n⟩
theorem Try.laysSlM5_f33 : Go.Proofs.SlLaysM.n5 Try.prog Try.laysSlM5_f33_ren := {
  mixed := by kernel_rfl
  f5 := ⟨Try.f33.name, by decide, Try.func33.trans (congrArg some (by kernel_rfl))⟩
  f7 := ⟨Try.f48.name, by decide, Try.func48.trans (congrArg some (by kernel_rfl))⟩
  f8 := Try.func49.trans (congrArg some (by kernel_rfl))
  f10 := ⟨Try.f56.name, by decide, Try.func56.trans (congrArg some (by kernel_rfl))⟩
  f11 := ⟨Try.f57.name, by decide, Try.func57.trans (congrArg some (by kernel_rfl))⟩
  f12 := ⟨Try.f58.name, by decide, Try.func58.trans (congrArg some (by kernel_rfl))⟩
  f13 := ⟨Try.f59.name, by decide, Try.func59.trans (congrArg some (by kernel_rfl))⟩
  f14 := ⟨Try.f60.name, by decide, Try.func60.trans (congrArg some (by kernel_rfl))⟩
  f15 := ⟨Try.f61.name, by decide, Try.func61.trans (congrArg some (by kernel_rfl))⟩
  f16 := ⟨Try.f62.name, by decide, Try.func62.trans (congrArg some (by kernel_rfl))⟩
  f17 := ⟨Try.f63.name, by decide, Try.func63.trans (congrArg some (by kernel_rfl))⟩
  f18 := ⟨Try.f64.name, by decide, Try.func64.trans (congrArg some (by kernel_rfl))⟩
  f19 := Try.func65.trans (congrArg some (by kernel_rfl))
  f20 := Try.func66.trans (congrArg some (by kernel_rfl))
  f30 := ⟨Try.f79.name, by decide, Try.func79.trans (congrArg some (by kernel_rfl))⟩
  f31 := Try.func80.trans (congrArg some (by kernel_rfl))
  f32 := Try.func81.trans (congrArg some (by kernel_rfl))
  f33 := ⟨Try.f82.name, by decide, Try.func82.trans (congrArg some (by kernel_rfl))⟩
  f34 := ⟨Try.f83.name, by decide, Try.func83.trans (congrArg some (by kernel_rfl))⟩
  f35 := ⟨Try.f84.name, by decide, Try.func84.trans (congrArg some (by kernel_rfl))⟩
  f40 := ⟨Try.f88.name, by decide, Try.func88.trans (congrArg some (by kernel_rfl))⟩
  t0 := Try.underlying0
  a0 := Try.isAgg0
  z0 := Try.sizeOf0
  v0 := Try.zeroValue0
  t3 := Try.underlying3
  a3 := Try.isAgg3
  z3 := Try.sizeOf3
  v3 := Try.zeroValue3
  t4 := Try.underlying4
  a4 := Try.isAgg4
  z4 := Try.sizeOf4
  v4 := Try.zeroValue4
  t5 := Try.underlying5
  a5 := Try.isAgg5
  z5 := Try.sizeOf5
  v5 := Try.zeroValue5
  t9 := Try.underlying9
  a9 := Try.isAgg9
  z9 := Try.sizeOf9
  v9 := Try.zeroValue9
  t22 := Try.underlying40
  a22 := Try.isAgg40
  z22 := Try.sizeOf40
  v22 := Try.zeroValue40
  t23 := Try.underlying40
  a23 := Try.isAgg40
  z23 := Try.sizeOf40
  v23 := Try.zeroValue40
  t25 := Try.underlying3
  a25 := Try.isAgg3
  z25 := Try.sizeOf3
  v25 := Try.zeroValue3
  t32 := Try.underlying122
  a32 := Try.isAgg122
  z32 := Try.sizeOf122
  v32 := Try.zeroValue122
  t35 := Try.underlying134
  a35 := Try.isAgg134
  z35 := Try.sizeOf134
  v35 := Try.zeroValue134
  t36 := Try.underlying135
  a36 := Try.isAgg135
  z36 := Try.sizeOf135
  v36 := Try.zeroValue135
  t41 := Try.underlying140
  a41 := Try.isAgg140
  z41 := Try.sizeOf140
  v41 := Try.zeroValue140
  t44 := Try.underlying143
  a44 := Try.isAgg143
  z44 := Try.sizeOf143
  v44 := Try.zeroValue143
  t46 := Try.underlying145
  a46 := Try.isAgg145
  z46 := Try.sizeOf145
  v46 := Try.zeroValue145
  t53 := Try.underlying157
  a53 := Try.isAgg157
  z53 := Try.sizeOf157
  v53 := Try.zeroValue157
  t57 := Try.underlying161
  a57 := Try.isAgg161
  z57 := Try.sizeOf161
  v57 := Try.zeroValue161
  t63 := Try.underlying165
  a63 := Try.isAgg165
  z63 := Try.sizeOf165
  v63 := Try.zeroValue165
  t64 := Try.underlying166
  a64 := Try.isAgg166
  z64 := Try.sizeOf166
  v64 := Try.zeroValue166 }
open Go.Sort Go.RowKit in
theorem Try.slices_Sort_int (blk off cap : Nat) (zs : List Int) (w : World) (hH : Holds (Value.int .i64) w blk off zs.toArray) (hblk : blk < w.heap.size) (hsz : zs.length < 4611686018427387904) :
    Calls Try.prog 33 #[.slice (some ⟨blk, off, none⟩) zs.length cap] w fun e w' =>
      e = .returned (.tuple #[]) ∧ ∃ n os, w' = grow (putRow (Value.int .i64) (Sort.ahead w n) blk off (zs.mergeSort fun x y => decide (x ≤ y)).toArray) os := AnyM.slices_Sort_int Try.laysSlM5_f33 blk off cap zs w hH hblk hsz
open Go.RowKit Go.Sort in
/-- .. and plain. (LAID AT THE INSTANCE 'slices.Sort[[]int,int]': no walk: one application.) -/
theorem Try.slices_Sort_int_none (p : Option Addr) (cap : Nat) (w : World) :
    Calls Try.prog 33 #[.slice p 0 cap] w fun e w' => e = .returned (.tuple #[]) ∧ w' = w := AnyM.slices_Sort_int_none Try.laysSlM5_f33 p cap w
end Go.Proofs
