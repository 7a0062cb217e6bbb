/-
  Texts on the way to the statement, one behind the other, without what it does not reach.
-/
import Derived.Test.YtibinelkmlcmgaaGreatDoorKh
import Derived.Shelf.Small.Bits
import Derived.Shelf.Small.Strs
import Derived.Shelf.Strconv.Itoa0
import Derived.Shelf.Strconv.Itoa1
import Derived.Shelf.LaysM
import Derived.Shelf.Strconv.Itoa2
import Derived.Shelf.Strconv.Itoa3
import Derived.Shelf.Strings.Search1
import Derived.Ground.SlgmProg
import Derived.Shelf.SortM.Plain
import Derived.Shelf.SortM.SortNone
import Derived.Test.YtibinelkmlcmgaaGreatDoorProg
set_option linter.unusedSimpArgs false
set_option linter.unusedVariables false
set_option maxRecDepth 100000
/-
  DERIVED: THE SHELF's CONTRACTS AT THIS DUMP, IN PLAIN WORDS (tools/lay-plain.mjs out of 'TryzShelf.lean', which tools/lay-shelf.mjs wrote): THE SAME DECLARATIONS UNDER THE SAME NAMES: 'import', 'namespace', 'open', 'def', 'theorem' AND NOTHING ELSE: no command of the shelf's: FOR A HAND-IN. Each laying: the table of numbers ('.._ren') and one theorem, a field a fact of the dump's own or the kernel's comparison; each contract: ONE APPLICATION.
-/
namespace Go.Proofs
open Go.Shelf
def Tryz.lays137_ren : Go.Shelf.Ren := ⟨fun | 137 => 92 | 217 => 101 | 266 => 110 | n => n, fun | 9 => 9 | 5 => 5 | 3 => 3 | n => n, fun | n => n⟩
theorem Tryz.lays137 : Go.Proofs.Lays.n137 Tryz.prog Tryz.lays137_ren := {
  mixed := by kernel_rfl
  f137 := Tryz.func92.trans (congrArg some (by kernel_rfl))
  f217 := Tryz.func101.trans (congrArg some (by kernel_rfl))
  f266 := Tryz.func110.trans (congrArg some (by kernel_rfl))
  t3 := Tryz.underlying3
  a3 := Tryz.isAgg3
  z3 := Tryz.sizeOf3
  v3 := Tryz.zeroValue3
  t5 := Tryz.underlying5
  a5 := Tryz.isAgg5
  z5 := Tryz.sizeOf5
  v5 := Tryz.zeroValue5
  t9 := Tryz.underlying9
  a9 := Tryz.isAgg9
  z9 := Tryz.sizeOf9
  v9 := Tryz.zeroValue9 }
open Go.RowKit in
/-- strings.IndexByte: "IndexByte returns the index of the first instance of c in s, or -1 if c is not present in s.": IT RETURNS 'Lib.indexByte s c'; the world is as it was. (LAID: no walk: one application.) -/
theorem Tryz.strings_IndexByte (s : ByteArray) (c : Int) (w : World) :
    Calls Tryz.prog 92 #[.string s, .int .u8 c] w fun e w' => e = .returned (.int .i64 (Lib.indexByte s.data.toList c.toNat.toUInt8)) ∧ w' = w := Any.strings_IndexByte Tryz.lays137 s c w
def Tryz.laysM171_ren : Go.Shelf.Ren := ⟨fun | 171 => 43 | 243 => 58 | 246 => 80 | 283 => 94 | 284 => 95 | 285 => 96 | 286 => 97 | 129 => 73 | 317 => 104 | 318 => 105 | 319 => 106 | 320 => 107 | 337 => 111 | 338 => 112 | n => n, fun | 3 => 3 | 9 => 9 | 2 => 2 | 4 => 4 | 171 => 119 | 0 => 0 | 53 => 102 | 37 => 90 | 5 => 5 | 173 => 121 | 212 => 129 | 51 => 100 | 20 => 20 | 213 => 130 | 46 => 82 | 232 => 132 | 233 => 133 | n => n, fun | 17 => 0 | 18 => 2 | 19 => 3 | n => n⟩
theorem Tryz.laysM171 : Go.Proofs.LaysM.n171 Tryz.prog Tryz.laysM171_ren := {
  mixed := by kernel_rfl
  f129 := Tryz.func73.trans (congrArg some (by kernel_rfl))
  f171 := Tryz.func43.trans (congrArg some (by kernel_rfl))
  f243 := Tryz.func58.trans (congrArg some (by kernel_rfl))
  f246 := Tryz.func80.trans (congrArg some (by kernel_rfl))
  f283 := Tryz.func94.trans (congrArg some (by kernel_rfl))
  f284 := Tryz.func95.trans (congrArg some (by kernel_rfl))
  f285 := Tryz.func96.trans (congrArg some (by kernel_rfl))
  f286 := Tryz.func97.trans (congrArg some (by kernel_rfl))
  f317 := Tryz.func104.trans (congrArg some (by kernel_rfl))
  f318 := Tryz.func105.trans (congrArg some (by kernel_rfl))
  f319 := Tryz.func106.trans (congrArg some (by kernel_rfl))
  f320 := Tryz.func107.trans (congrArg some (by kernel_rfl))
  f337 := Tryz.func111.trans (congrArg some (by kernel_rfl))
  f338 := Tryz.func112.trans (congrArg some (by kernel_rfl))
  t0 := Tryz.underlying0
  a0 := Tryz.isAgg0
  z0 := Tryz.sizeOf0
  v0 := Tryz.zeroValue0
  t2 := Tryz.underlying2
  a2 := Tryz.isAgg2
  z2 := Tryz.sizeOf2
  v2 := Tryz.zeroValue2
  t3 := Tryz.underlying3
  a3 := Tryz.isAgg3
  z3 := Tryz.sizeOf3
  v3 := Tryz.zeroValue3
  t4 := Tryz.underlying4
  a4 := Tryz.isAgg4
  z4 := Tryz.sizeOf4
  v4 := Tryz.zeroValue4
  t5 := Tryz.underlying5
  a5 := Tryz.isAgg5
  z5 := Tryz.sizeOf5
  v5 := Tryz.zeroValue5
  t9 := Tryz.underlying9
  a9 := Tryz.isAgg9
  z9 := Tryz.sizeOf9
  v9 := Tryz.zeroValue9
  t20 := Tryz.underlying20
  a20 := Tryz.isAgg20
  z20 := Tryz.sizeOf20
  v20 := Tryz.zeroValue20
  t37 := Tryz.underlying90
  a37 := Tryz.isAgg90
  z37 := Tryz.sizeOf90
  v37 := Tryz.zeroValue90
  t46 := Tryz.underlying82
  a46 := Tryz.isAgg82
  z46 := Tryz.sizeOf82
  v46 := Tryz.zeroValue82
  t51 := Tryz.underlying100
  a51 := Tryz.isAgg100
  z51 := Tryz.sizeOf100
  v51 := Tryz.zeroValue100
  t53 := Tryz.underlying102
  a53 := Tryz.isAgg102
  z53 := Tryz.sizeOf102
  v53 := Tryz.zeroValue102
  t171 := Tryz.underlying119
  a171 := Tryz.isAgg119
  z171 := Tryz.sizeOf119
  v171 := Tryz.zeroValue119
  t173 := Tryz.underlying121
  a173 := Tryz.isAgg121
  z173 := Tryz.sizeOf121
  v173 := Tryz.zeroValue121
  t212 := Tryz.underlying129
  a212 := Tryz.isAgg129
  z212 := Tryz.sizeOf129
  v212 := Tryz.zeroValue129
  t213 := Tryz.underlying130
  a213 := Tryz.isAgg130
  z213 := Tryz.sizeOf130
  t232 := Tryz.underlying132
  a232 := Tryz.isAgg132
  z232 := Tryz.sizeOf132
  v232 := Tryz.zeroValue132
  t233 := Tryz.underlying133
  a233 := Tryz.isAgg133
  z233 := Tryz.sizeOf133
  v233 := Tryz.zeroValue133
  g17 := by kernel_rfl
  g18 := by kernel_rfl
  g19 := by kernel_rfl
  i0 := by kernel_rfl
  i2 := by kernel_rfl
  i3 := by kernel_rfl
  i4 := by kernel_rfl
  i5 := by kernel_rfl
  i9 := by kernel_rfl
  i20 := by kernel_rfl
  i37 := by kernel_rfl
  i46 := by kernel_rfl
  i51 := by kernel_rfl
  i53 := by kernel_rfl
  i171 := by kernel_rfl
  i173 := by kernel_rfl
  i212 := by kernel_rfl
  i232 := by kernel_rfl
  i233 := by kernel_rfl
  m17 := by kernel_rfl
  m18 := by kernel_rfl
  m19 := by kernel_rfl }
open Go.RowKit Go.Sort Go.Lib in
/-- strconv.Itoa: "Itoa is equivalent to FormatInt(int64(i), 10).": i's DECIMAL NUMERAL ('Lib.itoa': a '-' where i is negative, then the digits), FOR EVERY int. The world behind the call: the world before it, new blocks behind the heap (the library's 'var a [24]byte'), draws. (LAID: no walk: one application.) -/
theorem Tryz.strconv_Itoa (n : Int) (h0 : -9223372036854775808 ≤ n) (h1 : n ≤ 9223372036854775807) (w : World) (htab : Lib.TabIs Tryz.prog w "internal/strconv.uint64pow10" .u64 Lib.pow10Tab) :
    Calls Tryz.prog 43 #[.int .i64 n] w fun e w' => e = .returned (.string ⟨(Lib.itoa n).toArray⟩) ∧ ∃ k os, w' = grow (w.drewN k) os := Any.strconv_Itoa Tryz.laysM171 n h0 h1 w htab
def Tryz.laysSlM6_f40_ren : Go.Shelf.Ren := ⟨fun | 6 => 40 | 8 => 50 | 9 => 49 | 19 => 72 | 20 => 73 | 21 => 63 | 22 => 64 | 23 => 65 | 24 => 66 | 25 => 67 | 26 => 68 | 27 => 69 | 28 => 70 | 29 => 71 | 36 => 84 | 31 => 85 | 32 => 86 | 37 => 87 | 38 => 88 | 39 => 89 | 41 => 100 | n => n, fun | 27 => 22 | 29 => 9 | 3 => 3 | 32 => 82 | 26 => 22 | 0 => 0 | 44 => 100 | 46 => 102 | 4 => 4 | 36 => 93 | 35 => 92 | 41 => 62 | 5 => 5 | 9 => 9 | 53 => 108 | 57 => 61 | 63 => 124 | 64 => 125 | n => n, fun | n => n⟩
theorem Tryz.laysSlM6_f40 : Go.Proofs.SlLaysM.n6 Tryz.prog Tryz.laysSlM6_f40_ren := {
  mixed := by kernel_rfl
  f6 := ⟨Tryz.f40.name, by decide, Tryz.func40.trans (congrArg some (by kernel_rfl))⟩
  f8 := Tryz.func50.trans (congrArg some (by kernel_rfl))
  f9 := ⟨Tryz.f49.name, by decide, Tryz.func49.trans (congrArg some (by kernel_rfl))⟩
  f19 := Tryz.func72.trans (congrArg some (by kernel_rfl))
  f20 := Tryz.func73.trans (congrArg some (by kernel_rfl))
  f21 := ⟨Tryz.f63.name, by decide, Tryz.func63.trans (congrArg some (by kernel_rfl))⟩
  f22 := ⟨Tryz.f64.name, by decide, Tryz.func64.trans (congrArg some (by kernel_rfl))⟩
  f23 := ⟨Tryz.f65.name, by decide, Tryz.func65.trans (congrArg some (by kernel_rfl))⟩
  f24 := ⟨Tryz.f66.name, by decide, Tryz.func66.trans (congrArg some (by kernel_rfl))⟩
  f25 := ⟨Tryz.f67.name, by decide, Tryz.func67.trans (congrArg some (by kernel_rfl))⟩
  f26 := ⟨Tryz.f68.name, by decide, Tryz.func68.trans (congrArg some (by kernel_rfl))⟩
  f27 := ⟨Tryz.f69.name, by decide, Tryz.func69.trans (congrArg some (by kernel_rfl))⟩
  f28 := ⟨Tryz.f70.name, by decide, Tryz.func70.trans (congrArg some (by kernel_rfl))⟩
  f29 := ⟨Tryz.f71.name, by decide, Tryz.func71.trans (congrArg some (by kernel_rfl))⟩
  f31 := Tryz.func85.trans (congrArg some (by kernel_rfl))
  f32 := Tryz.func86.trans (congrArg some (by kernel_rfl))
  f36 := ⟨Tryz.f84.name, by decide, Tryz.func84.trans (congrArg some (by kernel_rfl))⟩
  f37 := ⟨Tryz.f87.name, by decide, Tryz.func87.trans (congrArg some (by kernel_rfl))⟩
  f38 := ⟨Tryz.f88.name, by decide, Tryz.func88.trans (congrArg some (by kernel_rfl))⟩
  f39 := ⟨Tryz.f89.name, by decide, Tryz.func89.trans (congrArg some (by kernel_rfl))⟩
  f41 := ⟨Tryz.f100.name, by decide, Tryz.func100.trans (congrArg some (by kernel_rfl))⟩
  t0 := Tryz.underlying0
  a0 := Tryz.isAgg0
  z0 := Tryz.sizeOf0
  v0 := Tryz.zeroValue0
  t3 := Tryz.underlying3
  a3 := Tryz.isAgg3
  z3 := Tryz.sizeOf3
  v3 := Tryz.zeroValue3
  t4 := Tryz.underlying4
  a4 := Tryz.isAgg4
  z4 := Tryz.sizeOf4
  v4 := Tryz.zeroValue4
  t5 := Tryz.underlying5
  a5 := Tryz.isAgg5
  z5 := Tryz.sizeOf5
  v5 := Tryz.zeroValue5
  t9 := Tryz.underlying9
  a9 := Tryz.isAgg9
  z9 := Tryz.sizeOf9
  v9 := Tryz.zeroValue9
  t26 := Tryz.underlying22
  a26 := Tryz.isAgg22
  z26 := Tryz.sizeOf22
  v26 := Tryz.zeroValue22
  t27 := Tryz.underlying22
  a27 := Tryz.isAgg22
  z27 := Tryz.sizeOf22
  v27 := Tryz.zeroValue22
  t29 := Tryz.underlying9
  a29 := Tryz.isAgg9
  z29 := Tryz.sizeOf9
  v29 := Tryz.zeroValue9
  t32 := Tryz.underlying82
  a32 := Tryz.isAgg82
  z32 := Tryz.sizeOf82
  v32 := Tryz.zeroValue82
  t35 := Tryz.underlying92
  a35 := Tryz.isAgg92
  z35 := Tryz.sizeOf92
  v35 := Tryz.zeroValue92
  t36 := Tryz.underlying93
  a36 := Tryz.isAgg93
  z36 := Tryz.sizeOf93
  v36 := Tryz.zeroValue93
  t41 := Tryz.underlying62
  a41 := Tryz.isAgg62
  z41 := Tryz.sizeOf62
  v41 := Tryz.zeroValue62
  t44 := Tryz.underlying100
  a44 := Tryz.isAgg100
  z44 := Tryz.sizeOf100
  v44 := Tryz.zeroValue100
  t46 := Tryz.underlying102
  a46 := Tryz.isAgg102
  z46 := Tryz.sizeOf102
  v46 := Tryz.zeroValue102
  t53 := Tryz.underlying108
  a53 := Tryz.isAgg108
  z53 := Tryz.sizeOf108
  v53 := Tryz.zeroValue108
  t57 := Tryz.underlying61
  a57 := Tryz.isAgg61
  z57 := Tryz.sizeOf61
  v57 := Tryz.zeroValue61
  t63 := Tryz.underlying124
  a63 := Tryz.isAgg124
  z63 := Tryz.sizeOf124
  v63 := Tryz.zeroValue124
  t64 := Tryz.underlying125
  a64 := Tryz.isAgg125
  z64 := Tryz.sizeOf125
  v64 := Tryz.zeroValue125 }
open Go.Sort Go.RowKit in
theorem Tryz.slices_Sort_string (blk off cap : Nat) (ss : List (List UInt8)) (w : World) (hH : Holds encStr w blk off ss.toArray) (hblk : blk < w.heap.size) (hsz : ss.length < 4611686018427387904) :
    Calls Tryz.prog 40 #[.slice (some ⟨blk, off, none⟩) ss.length cap] w fun e w' =>
      e = .returned (.tuple #[]) ∧ ∃ n os, w' = grow (putRow encStr (Sort.ahead w n) blk off (ss.mergeSort fun x y => decide (x ≤ y)).toArray) os := AnyM.slices_Sort_string Tryz.laysSlM6_f40 blk off cap ss w hH hblk hsz
open Go.RowKit Go.Sort in
/-- .. and plain. (LAID AT THE INSTANCE 'slices.Sort[[]string,string]': no walk: one application.) -/
theorem Tryz.slices_Sort_string_none (p : Option Addr) (cap : Nat) (w : World) :
    Calls Tryz.prog 40 #[.slice p 0 cap] w fun e w' => e = .returned (.tuple #[]) ∧ w' = w := AnyM.slices_Sort_string_none Tryz.laysSlM6_f40 p cap w
end Go.Proofs
