/-
  NARROWER THAN 'FOR EVERY INPUT', by the rows' own cells (each row's printed sentence says how): LivingTells: loops · LivingBehind: loops · LivingBack: loops · LivingRead: loops · ColouredEdges: loops · ColouredApart: loops.
  DERIVED. THE GIVEN ROWS OF THIS SEAT. 7 by the template 'for every input the law returns true; each argument reads behind the call as it read before'; 0 by the template 'total and deterministic' (their statements: YtlbbmcpppfiplaaTotals.lean).
  GIVEN WITH THE SEED: the statements are not yours to turn. If you find one false, say at which input.
  Laid BY PROGRAM, IN A SANDBOX (cutbox-rows.mjs): the forced cells as the released guide's own fill.sh prints them over the translation 361ff5c72fb0a4cb… (all of the seat's roots in one cut). By AI agents, Wed Nov 11 2026. No macro, syntax, notation, axiom, sorry.
-/
import Derived.Test.YtlbbmcpppfiplaaChecked
import GoSem.Claim
import GoSem.ClaimJoined
import GoSem.ClaimMapViews
import Derived.JoinedTies
import Derived.KernelRfl
namespace Go.Proofs.Ytlbbmcpppfiplaa
/- THE CELL 'sum', in the pinned program and in every row, IS THE sha256 OF THE DUMP (.gsa) THAT YtlbbmcpppfiplaaProg.lean LOADS. Nothing in Lean hashes anything: it is a label: what it is worth is what the hold of that sum in a sandbox is worth. -/
noncomputable def Try.pinned : Pinned := { name := "ytlbbmcpppfiplaa", sum := "361ff5c72fb0a4cb24caa745d35ed7fd76f9e40c216778ca49c83c457f53fdc5", checked := Try.checked }
namespace Rows
def none {H : Type} : Left H := { results := [], args := [] }

/-- 'scrimshawlaw17.LivingTells': WHATEVER THE INPUT: true; the input reads as it did. -/
def livingTellsSpec : ChangeSpec := { name := "livingTells", fn := fun _ => fun
  | [d1, d2] => { results := [.lit (.bool true)], args := [d1, d2] }
  | _ => none }
def livingTellsRow : OpenClaim := { program := "ytlbbmcpppfiplaa", sum := "361ff5c72fb0a4cb24caa745d35ed7fd76f9e40c216778ca49c83c457f53fdc5", func := "scrimshaw/scrimshawlaw17.LivingTells", spec := "livingTells", unfollowed := true, recurses := true, loops := true, apart := false }
def LivingTellsSaid : Prop := livingTellsRow.holds Try.pinned (OpenSpec.ofChange livingTellsSpec)

/-- ITS FALSE NEIGHBOUR: 'it returns false'. Refute it at one input. -/
def livingTellsWrong : ChangeSpec := { name := "livingTells", fn := fun _ => fun
  | [d1, d2] => { results := [.lit (.bool false)], args := [d1, d2] }
  | _ => none }
def LivingTellsWrongFalsely : Prop := livingTellsRow.holds Try.pinned (OpenSpec.ofChange livingTellsWrong)

/-- 'scrimshawlaw17.LivingBehind': WHATEVER THE INPUT: true; the input reads as it did. -/
def livingBehindSpec : ChangeSpec := { name := "livingBehind", fn := fun _ => fun
  | [d1, d2] => { results := [.lit (.bool true)], args := [d1, d2] }
  | _ => none }
def livingBehindRow : OpenClaim := { program := "ytlbbmcpppfiplaa", sum := "361ff5c72fb0a4cb24caa745d35ed7fd76f9e40c216778ca49c83c457f53fdc5", func := "scrimshaw/scrimshawlaw17.LivingBehind", spec := "livingBehind", unfollowed := true, recurses := true, loops := true, apart := false }
def LivingBehindSaid : Prop := livingBehindRow.holds Try.pinned (OpenSpec.ofChange livingBehindSpec)

/-- ITS FALSE NEIGHBOUR: 'it returns false'. Refute it at one input. -/
def livingBehindWrong : ChangeSpec := { name := "livingBehind", fn := fun _ => fun
  | [d1, d2] => { results := [.lit (.bool false)], args := [d1, d2] }
  | _ => none }
def LivingBehindWrongFalsely : Prop := livingBehindRow.holds Try.pinned (OpenSpec.ofChange livingBehindWrong)

/-- 'scrimshawlaw17.LivingBack': WHATEVER THE INPUT: true; the input reads as it did. -/
def livingBackSpec : ChangeSpec := { name := "livingBack", fn := fun _ => fun
  | [d1, d2] => { results := [.lit (.bool true)], args := [d1, d2] }
  | _ => none }
def livingBackRow : OpenClaim := { program := "ytlbbmcpppfiplaa", sum := "361ff5c72fb0a4cb24caa745d35ed7fd76f9e40c216778ca49c83c457f53fdc5", func := "scrimshaw/scrimshawlaw17.LivingBack", spec := "livingBack", unfollowed := true, recurses := true, loops := true, apart := false }
def LivingBackSaid : Prop := livingBackRow.holds Try.pinned (OpenSpec.ofChange livingBackSpec)

/-- ITS FALSE NEIGHBOUR: 'it returns false'. Refute it at one input. -/
def livingBackWrong : ChangeSpec := { name := "livingBack", fn := fun _ => fun
  | [d1, d2] => { results := [.lit (.bool false)], args := [d1, d2] }
  | _ => none }
def LivingBackWrongFalsely : Prop := livingBackRow.holds Try.pinned (OpenSpec.ofChange livingBackWrong)

/-- 'scrimshawlaw17.LivingRead': WHATEVER THE INPUT: true; the input reads as it did. -/
def livingReadSpec : ChangeSpec := { name := "livingRead", fn := fun _ => fun
  | [d1, d2, d3] => { results := [.lit (.bool true)], args := [d1, d2, d3] }
  | _ => none }
def livingReadRow : OpenClaim := { program := "ytlbbmcpppfiplaa", sum := "361ff5c72fb0a4cb24caa745d35ed7fd76f9e40c216778ca49c83c457f53fdc5", func := "scrimshaw/scrimshawlaw17.LivingRead", spec := "livingRead", unfollowed := true, recurses := true, loops := true, apart := false }
def LivingReadSaid : Prop := livingReadRow.holds Try.pinned (OpenSpec.ofChange livingReadSpec)

/-- ITS FALSE NEIGHBOUR: 'it returns false'. Refute it at one input. -/
def livingReadWrong : ChangeSpec := { name := "livingRead", fn := fun _ => fun
  | [d1, d2, d3] => { results := [.lit (.bool false)], args := [d1, d2, d3] }
  | _ => none }
def LivingReadWrongFalsely : Prop := livingReadRow.holds Try.pinned (OpenSpec.ofChange livingReadWrong)

/-- 'scrimshawlaw18.ColouredEdges': WHATEVER THE INPUT: true; the input reads as it did. -/
def colouredEdgesSpec : ChangeSpec := { name := "colouredEdges", fn := fun _ => fun
  | [d] => { results := [.lit (.bool true)], args := [d] }
  | _ => none }
def colouredEdgesRow : OpenClaim := { program := "ytlbbmcpppfiplaa", sum := "361ff5c72fb0a4cb24caa745d35ed7fd76f9e40c216778ca49c83c457f53fdc5", func := "scrimshaw/scrimshawlaw18.ColouredEdges", spec := "colouredEdges", unfollowed := true, recurses := true, loops := true, apart := false }
def ColouredEdgesSaid : Prop := colouredEdgesRow.holds Try.pinned (OpenSpec.ofChange colouredEdgesSpec)

/-- ITS FALSE NEIGHBOUR: 'it returns false'. Refute it at one input. -/
def colouredEdgesWrong : ChangeSpec := { name := "colouredEdges", fn := fun _ => fun
  | [d] => { results := [.lit (.bool false)], args := [d] }
  | _ => none }
def ColouredEdgesWrongFalsely : Prop := colouredEdgesRow.holds Try.pinned (OpenSpec.ofChange colouredEdgesWrong)

/-- 'scrimshawlaw18.ColouredApart': WHATEVER THE INPUT: true; the input reads as it did. -/
def colouredApartSpec : ChangeSpec := { name := "colouredApart", fn := fun _ => fun
  | [d1, d2] => { results := [.lit (.bool true)], args := [d1, d2] }
  | _ => none }
def colouredApartRow : OpenClaim := { program := "ytlbbmcpppfiplaa", sum := "361ff5c72fb0a4cb24caa745d35ed7fd76f9e40c216778ca49c83c457f53fdc5", func := "scrimshaw/scrimshawlaw18.ColouredApart", spec := "colouredApart", unfollowed := true, recurses := true, loops := true, apart := false }
def ColouredApartSaid : Prop := colouredApartRow.holds Try.pinned (OpenSpec.ofChange colouredApartSpec)

/-- ITS FALSE NEIGHBOUR: 'it returns false'. Refute it at one input. -/
def colouredApartWrong : ChangeSpec := { name := "colouredApart", fn := fun _ => fun
  | [d1, d2] => { results := [.lit (.bool false)], args := [d1, d2] }
  | _ => none }
def ColouredApartWrongFalsely : Prop := colouredApartRow.holds Try.pinned (OpenSpec.ofChange colouredApartWrong)

/-- 'scrimshawlaw18.ColouredMany': WHATEVER THE INPUT: true; the input reads as it did. -/
def colouredManySpec : ChangeSpec := { name := "colouredMany", fn := fun _ => fun
  | [d1, d2] => { results := [.lit (.bool true)], args := [d1, d2] }
  | _ => none }
def colouredManyRow : OpenClaim := { program := "ytlbbmcpppfiplaa", sum := "361ff5c72fb0a4cb24caa745d35ed7fd76f9e40c216778ca49c83c457f53fdc5", func := "scrimshaw/scrimshawlaw18.ColouredMany", spec := "colouredMany", unfollowed := true, recurses := true, apart := false }
def ColouredManySaid : Prop := colouredManyRow.holds Try.pinned (OpenSpec.ofChange colouredManySpec)

/-- ITS FALSE NEIGHBOUR: 'it returns false'. Refute it at one input. -/
def colouredManyWrong : ChangeSpec := { name := "colouredMany", fn := fun _ => fun
  | [d1, d2] => { results := [.lit (.bool false)], args := [d1, d2] }
  | _ => none }
def ColouredManyWrongFalsely : Prop := colouredManyRow.holds Try.pinned (OpenSpec.ofChange colouredManyWrong)

/- THE SECOND FORM. 'bulk': how many values and letters a reading holds, each counted each time it is reached (what is shared counts as often as it is met; a slice's spare places count too). A statement '..UptoSaid' is the law's where the arguments, and the package variables that the reading takes, are together of bulk at most 1048576: NARROWER than '..Said'. Prove '..Said' where nothing that the law and all that it calls make is longer than what came in: it says more and counts as full. Else prove '..UptoSaid'. A law counts once. -/
mutual
def uptoBulk {H : Type} : DataW H → Nat
  | .lit (.string bytes) => bytes.length + 1
  | .lit _ => 1
  | .nil => 1
  | .ptr d => uptoBulk d + 1
  | .slice elems spare => uptoBulkAll elems + uptoBulkAll spare + 1
  | .agg parts => uptoBulkAll parts + 1
  | .iface _ d => uptoBulk d + 1
  | .map entries => uptoBulkEntries entries + 1
  | .held _ => 1
def uptoBulkAll {H : Type} : List (DataW H) → Nat
  | [] => 0
  | d :: r => uptoBulk d + uptoBulkAll r
def uptoBulkEntries {H : Type} : List (Lit × DataW H) → Nat
  | [] => 0
  | x :: r => uptoBulkEntry x + uptoBulkEntries r
def uptoBulkEntry {H : Type} : Lit × DataW H → Nat
  | (.string bytes, d) => bytes.length + uptoBulk d + 1
  | (_, d) => uptoBulk d + 1
 end
def uptoSmall : (H : Type) → List (DataW H) → Bool := fun _ ds => decide (uptoBulkAll ds ≤ 1048576)
def OpenSpec.upto (s : _root_.Go.ChangeSpec) : _root_.Go.OpenSpec := { _root_.Go.OpenSpec.ofChange s with cond := some uptoSmall }

/-- 'scrimshawlaw17.LivingTells', WHERE WHAT IT READS IS OF BULK AT MOST 1048576: true; the input reads as it did. -/
def livingTellsUptoRow : OpenClaim := { program := "ytlbbmcpppfiplaa", sum := "361ff5c72fb0a4cb24caa745d35ed7fd76f9e40c216778ca49c83c457f53fdc5", func := "scrimshaw/scrimshawlaw17.LivingTells", spec := "livingTells", unfollowed := true, recurses := true, loops := true, apart := false, narrowed := true }
def LivingTellsUptoSaid : Prop := livingTellsUptoRow.holds Try.pinned (OpenSpec.upto livingTellsSpec)

/-- 'scrimshawlaw17.LivingBehind', WHERE WHAT IT READS IS OF BULK AT MOST 1048576: true; the input reads as it did. -/
def livingBehindUptoRow : OpenClaim := { program := "ytlbbmcpppfiplaa", sum := "361ff5c72fb0a4cb24caa745d35ed7fd76f9e40c216778ca49c83c457f53fdc5", func := "scrimshaw/scrimshawlaw17.LivingBehind", spec := "livingBehind", unfollowed := true, recurses := true, loops := true, apart := false, narrowed := true }
def LivingBehindUptoSaid : Prop := livingBehindUptoRow.holds Try.pinned (OpenSpec.upto livingBehindSpec)

/-- 'scrimshawlaw17.LivingBack', WHERE WHAT IT READS IS OF BULK AT MOST 1048576: true; the input reads as it did. -/
def livingBackUptoRow : OpenClaim := { program := "ytlbbmcpppfiplaa", sum := "361ff5c72fb0a4cb24caa745d35ed7fd76f9e40c216778ca49c83c457f53fdc5", func := "scrimshaw/scrimshawlaw17.LivingBack", spec := "livingBack", unfollowed := true, recurses := true, loops := true, apart := false, narrowed := true }
def LivingBackUptoSaid : Prop := livingBackUptoRow.holds Try.pinned (OpenSpec.upto livingBackSpec)

/-- 'scrimshawlaw17.LivingRead', WHERE WHAT IT READS IS OF BULK AT MOST 1048576: true; the input reads as it did. -/
def livingReadUptoRow : OpenClaim := { program := "ytlbbmcpppfiplaa", sum := "361ff5c72fb0a4cb24caa745d35ed7fd76f9e40c216778ca49c83c457f53fdc5", func := "scrimshaw/scrimshawlaw17.LivingRead", spec := "livingRead", unfollowed := true, recurses := true, loops := true, apart := false, narrowed := true }
def LivingReadUptoSaid : Prop := livingReadUptoRow.holds Try.pinned (OpenSpec.upto livingReadSpec)

/-- 'scrimshawlaw18.ColouredEdges', WHERE WHAT IT READS IS OF BULK AT MOST 1048576: true; the input reads as it did. -/
def colouredEdgesUptoRow : OpenClaim := { program := "ytlbbmcpppfiplaa", sum := "361ff5c72fb0a4cb24caa745d35ed7fd76f9e40c216778ca49c83c457f53fdc5", func := "scrimshaw/scrimshawlaw18.ColouredEdges", spec := "colouredEdges", unfollowed := true, recurses := true, loops := true, apart := false, narrowed := true }
def ColouredEdgesUptoSaid : Prop := colouredEdgesUptoRow.holds Try.pinned (OpenSpec.upto colouredEdgesSpec)

/-- 'scrimshawlaw18.ColouredApart', WHERE WHAT IT READS IS OF BULK AT MOST 1048576: true; the input reads as it did. -/
def colouredApartUptoRow : OpenClaim := { program := "ytlbbmcpppfiplaa", sum := "361ff5c72fb0a4cb24caa745d35ed7fd76f9e40c216778ca49c83c457f53fdc5", func := "scrimshaw/scrimshawlaw18.ColouredApart", spec := "colouredApart", unfollowed := true, recurses := true, loops := true, apart := false, narrowed := true }
def ColouredApartUptoSaid : Prop := colouredApartUptoRow.holds Try.pinned (OpenSpec.upto colouredApartSpec)

/-- 'scrimshawlaw18.ColouredMany', WHERE WHAT IT READS IS OF BULK AT MOST 1048576: true; the input reads as it did. -/
def colouredManyUptoRow : OpenClaim := { program := "ytlbbmcpppfiplaa", sum := "361ff5c72fb0a4cb24caa745d35ed7fd76f9e40c216778ca49c83c457f53fdc5", func := "scrimshaw/scrimshawlaw18.ColouredMany", spec := "colouredMany", unfollowed := true, recurses := true, apart := false, narrowed := true }
def ColouredManyUptoSaid : Prop := colouredManyUptoRow.holds Try.pinned (OpenSpec.upto colouredManySpec)

end Rows
end Go.Proofs.Ytlbbmcpppfiplaa
