/-
  Texts on the way to the statement, one behind the other, without what it does not reach.
-/
import Derived.Test.YtibinelkmlcmgaaGreatKh
import Derived.Shelf.Small.Bits
import Derived.Shelf.Small.Strs
import Derived.Shelf.Strconv.Itoa0
import Derived.Shelf.Strings.Search1
import Derived.Ground.Names2Prog
import Derived.Shelf.Slices.Clone
import Derived.Ground.SlgnProg
import Derived.Shelf.SlicesE.Clone
import Derived.Ground.SlgmProg
import Derived.Shelf.SortM.Plain
import Derived.Shelf.SortM.SortNone
import Derived.Test.YtibinelkmlcmgaaGreatProg
set_option linter.unusedSimpArgs false
set_option linter.unusedVariables false
set_option maxRecDepth 100000
/-
  DERIVED: THE SHELF's CONTRACTS AT THIS DUMP, IN PLAIN WORDS (tools/lay-plain.mjs out of 'TryzShelf.lean', which tools/lay-shelf.mjs wrote): THE SAME DECLARATIONS UNDER THE SAME NAMES: 'import', 'namespace', 'open', 'def', 'theorem' AND NOTHING ELSE: no command of the shelf's: FOR A HAND-IN. Each laying: the table of numbers ('.._ren') and one theorem, a field a fact of the dump's own or the kernel's comparison; each contract: ONE APPLICATION.
-/
namespace Go.Proofs
open Go.Shelf
def Tryz.lays137_ren : Go.Shelf.Ren := ⟨fun | 137 => 67 | 217 => 80 | 266 => 96 | n => n, fun | 9 => 9 | 5 => 5 | 3 => 3 | n => n, fun | n => n⟩
theorem Tryz.lays137 : Go.Proofs.Lays.n137 Tryz.prog Tryz.lays137_ren := {
  mixed := by kernel_rfl
  f137 := Tryz.func67.trans (congrArg some (by kernel_rfl))
  f217 := Tryz.func80.trans (congrArg some (by kernel_rfl))
  f266 := Tryz.func96.trans (congrArg some (by kernel_rfl))
  t3 := Tryz.underlying3
  a3 := Tryz.isAgg3
  z3 := Tryz.sizeOf3
  v3 := Tryz.zeroValue3
  t5 := Tryz.underlying5
  a5 := Tryz.isAgg5
  z5 := Tryz.sizeOf5
  v5 := Tryz.zeroValue5
  t9 := Tryz.underlying9
  a9 := Tryz.isAgg9
  z9 := Tryz.sizeOf9
  v9 := Tryz.zeroValue9 }
open Go.RowKit in
/-- strings.IndexByte: "IndexByte returns the index of the first instance of c in s, or -1 if c is not present in s.": IT RETURNS 'Lib.indexByte s c'; the world is as it was. (LAID: no walk: one application.) -/
theorem Tryz.strings_IndexByte (s : ByteArray) (c : Int) (w : World) :
    Calls Tryz.prog 67 #[.string s, .int .u8 c] w fun e w' => e = .returned (.int .i64 (Lib.indexByte s.data.toList c.toNat.toUInt8)) ∧ w' = w := Any.strings_IndexByte Tryz.lays137 s c w
def Tryz.laysSlM6_f59_ren : Go.Shelf.Ren := ⟨fun | 6 => 59 | 8 => 70 | 9 => 69 | 19 => 90 | 20 => 91 | 21 => 81 | 22 => 82 | 23 => 83 | 24 => 84 | 25 => 85 | 26 => 86 | 27 => 87 | 28 => 88 | 29 => 89 | 36 => 97 | 31 => 98 | 32 => 99 | 37 => 100 | 38 => 101 | 39 => 102 | 41 => 105 | n => n, fun | 27 => 23 | 29 => 9 | 3 => 3 | 32 => 97 | 26 => 23 | 0 => 0 | 44 => 115 | 46 => 117 | 4 => 4 | 36 => 108 | 35 => 107 | 41 => 59 | 5 => 5 | 9 => 9 | 53 => 120 | 57 => 82 | 63 => 130 | 64 => 131 | n => n, fun | n => n⟩
theorem Tryz.laysSlM6_f59 : Go.Proofs.SlLaysM.n6 Tryz.prog Tryz.laysSlM6_f59_ren := {
  mixed := by kernel_rfl
  f6 := ⟨Tryz.f59.name, by decide, Tryz.func59.trans (congrArg some (by kernel_rfl))⟩
  f8 := Tryz.func70.trans (congrArg some (by kernel_rfl))
  f9 := ⟨Tryz.f69.name, by decide, Tryz.func69.trans (congrArg some (by kernel_rfl))⟩
  f19 := Tryz.func90.trans (congrArg some (by kernel_rfl))
  f20 := Tryz.func91.trans (congrArg some (by kernel_rfl))
  f21 := ⟨Tryz.f81.name, by decide, Tryz.func81.trans (congrArg some (by kernel_rfl))⟩
  f22 := ⟨Tryz.f82.name, by decide, Tryz.func82.trans (congrArg some (by kernel_rfl))⟩
  f23 := ⟨Tryz.f83.name, by decide, Tryz.func83.trans (congrArg some (by kernel_rfl))⟩
  f24 := ⟨Tryz.f84.name, by decide, Tryz.func84.trans (congrArg some (by kernel_rfl))⟩
  f25 := ⟨Tryz.f85.name, by decide, Tryz.func85.trans (congrArg some (by kernel_rfl))⟩
  f26 := ⟨Tryz.f86.name, by decide, Tryz.func86.trans (congrArg some (by kernel_rfl))⟩
  f27 := ⟨Tryz.f87.name, by decide, Tryz.func87.trans (congrArg some (by kernel_rfl))⟩
  f28 := ⟨Tryz.f88.name, by decide, Tryz.func88.trans (congrArg some (by kernel_rfl))⟩
  f29 := ⟨Tryz.f89.name, by decide, Tryz.func89.trans (congrArg some (by kernel_rfl))⟩
  f31 := Tryz.func98.trans (congrArg some (by kernel_rfl))
  f32 := Tryz.func99.trans (congrArg some (by kernel_rfl))
  f36 := ⟨Tryz.f97.name, by decide, Tryz.func97.trans (congrArg some (by kernel_rfl))⟩
  f37 := ⟨Tryz.f100.name, by decide, Tryz.func100.trans (congrArg some (by kernel_rfl))⟩
  f38 := ⟨Tryz.f101.name, by decide, Tryz.func101.trans (congrArg some (by kernel_rfl))⟩
  f39 := ⟨Tryz.f102.name, by decide, Tryz.func102.trans (congrArg some (by kernel_rfl))⟩
  f41 := ⟨Tryz.f105.name, by decide, Tryz.func105.trans (congrArg some (by kernel_rfl))⟩
  t0 := Tryz.underlying0
  a0 := Tryz.isAgg0
  z0 := Tryz.sizeOf0
  v0 := Tryz.zeroValue0
  t3 := Tryz.underlying3
  a3 := Tryz.isAgg3
  z3 := Tryz.sizeOf3
  v3 := Tryz.zeroValue3
  t4 := Tryz.underlying4
  a4 := Tryz.isAgg4
  z4 := Tryz.sizeOf4
  v4 := Tryz.zeroValue4
  t5 := Tryz.underlying5
  a5 := Tryz.isAgg5
  z5 := Tryz.sizeOf5
  v5 := Tryz.zeroValue5
  t9 := Tryz.underlying9
  a9 := Tryz.isAgg9
  z9 := Tryz.sizeOf9
  v9 := Tryz.zeroValue9
  t26 := Tryz.underlying23
  a26 := Tryz.isAgg23
  z26 := Tryz.sizeOf23
  v26 := Tryz.zeroValue23
  t27 := Tryz.underlying23
  a27 := Tryz.isAgg23
  z27 := Tryz.sizeOf23
  v27 := Tryz.zeroValue23
  t29 := Tryz.underlying9
  a29 := Tryz.isAgg9
  z29 := Tryz.sizeOf9
  v29 := Tryz.zeroValue9
  t32 := Tryz.underlying97
  a32 := Tryz.isAgg97
  z32 := Tryz.sizeOf97
  v32 := Tryz.zeroValue97
  t35 := Tryz.underlying107
  a35 := Tryz.isAgg107
  z35 := Tryz.sizeOf107
  v35 := Tryz.zeroValue107
  t36 := Tryz.underlying108
  a36 := Tryz.isAgg108
  z36 := Tryz.sizeOf108
  v36 := Tryz.zeroValue108
  t41 := Tryz.underlying59
  a41 := Tryz.isAgg59
  z41 := Tryz.sizeOf59
  v41 := Tryz.zeroValue59
  t44 := Tryz.underlying115
  a44 := Tryz.isAgg115
  z44 := Tryz.sizeOf115
  v44 := Tryz.zeroValue115
  t46 := Tryz.underlying117
  a46 := Tryz.isAgg117
  z46 := Tryz.sizeOf117
  v46 := Tryz.zeroValue117
  t53 := Tryz.underlying120
  a53 := Tryz.isAgg120
  z53 := Tryz.sizeOf120
  v53 := Tryz.zeroValue120
  t57 := Tryz.underlying82
  a57 := Tryz.isAgg82
  z57 := Tryz.sizeOf82
  v57 := Tryz.zeroValue82
  t63 := Tryz.underlying130
  a63 := Tryz.isAgg130
  z63 := Tryz.sizeOf130
  v63 := Tryz.zeroValue130
  t64 := Tryz.underlying131
  a64 := Tryz.isAgg131
  z64 := Tryz.sizeOf131
  v64 := Tryz.zeroValue131 }
open Go.Sort Go.RowKit in
theorem Tryz.slices_Sort_string (blk off cap : Nat) (ss : List (List UInt8)) (w : World) (hH : Holds encStr w blk off ss.toArray) (hblk : blk < w.heap.size) (hsz : ss.length < 4611686018427387904) :
    Calls Tryz.prog 59 #[.slice (some ⟨blk, off, none⟩) ss.length cap] w fun e w' =>
      e = .returned (.tuple #[]) ∧ ∃ n os, w' = grow (putRow encStr (Sort.ahead w n) blk off (ss.mergeSort fun x y => decide (x ≤ y)).toArray) os := AnyM.slices_Sort_string Tryz.laysSlM6_f59 blk off cap ss w hH hblk hsz
open Go.RowKit Go.Sort in
/-- .. and plain. (LAID AT THE INSTANCE 'slices.Sort[[]string,string]': no walk: one application.) -/
theorem Tryz.slices_Sort_string_none (p : Option Addr) (cap : Nat) (w : World) :
    Calls Tryz.prog 59 #[.slice p 0 cap] w fun e w' => e = .returned (.tuple #[]) ∧ w' = w := AnyM.slices_Sort_string_none Tryz.laysSlM6_f59 p cap w
end Go.Proofs
