/-
  NARROWER THAN 'FOR EVERY INPUT', by the rows' own cells (each row's printed sentence says how): LinkedBuilds: loops · LinkedRuns: loops · LinkedSteps: loops.
  DERIVED. THE GIVEN ROWS OF THIS SEAT. 7 by the template 'for every input the law returns true; each argument reads behind the call as it read before'; 0 by the template 'total and deterministic' (their statements: YtfkclejklgoccaaGreatTotals.lean).
  GIVEN WITH THE SEED: the statements are not yours to turn. If you find one false, say at which input.
  Laid BY PROGRAM, IN A SANDBOX (cutbox-rows.mjs): the forced cells as the released guide's own fill.sh prints them over the translation 81218a698d364231… (all of the seat's roots in one cut). By AI agents, Wed Nov 11 2026. No macro, syntax, notation, axiom, sorry.
-/
import Derived.Test.YtfkclejklgoccaaGreatChecked
import GoSem.Claim
import GoSem.ClaimJoined
import GoSem.ClaimMapViews
import Derived.JoinedTies
import Derived.KernelRfl
namespace Go.Proofs.YtfkclejklgoccaaGreat
/- THE CELL 'sum', in the pinned program and in every row, IS THE sha256 OF THE DUMP (.gsa) THAT YtfkclejklgoccaaGreatProg.lean LOADS. Nothing in Lean hashes anything: it is a label: what it is worth is what the hold of that sum in a sandbox is worth. -/
noncomputable def Tryz.pinned : Pinned := { name := "ytfkclejklgoccaagreat", sum := "81218a698d3642314be45ea6f74b2d8bce176a828f6661520c6d004007acc31f", checked := Tryz.checked }
namespace Rows
def none {H : Type} : Left H := { results := [], args := [] }

/-- 'scrimshawlaw24.GeneratedWords': WHATEVER THE INPUT: true; the input reads as it did. -/
def generatedWordsSpec : ChangeSpec := { name := "generatedWords", fn := fun _ => fun
  | [d1, d2] => { results := [.lit (.bool true)], args := [d1, d2] }
  | _ => none }
def generatedWordsRow : OpenClaim := { program := "ytfkclejklgoccaagreat", sum := "81218a698d3642314be45ea6f74b2d8bce176a828f6661520c6d004007acc31f", func := "scrimshaw/scrimshawlaw24.GeneratedWords", spec := "generatedWords", inPlace := ["internal/bytealg.IndexByteString"], unfollowed := true, recurses := true, apart := false }
def GeneratedWordsSaid : Prop := generatedWordsRow.holds Tryz.pinned (OpenSpec.ofChange generatedWordsSpec)

/-- ITS FALSE NEIGHBOUR: 'it returns false'. Refute it at one input. -/
def generatedWordsWrong : ChangeSpec := { name := "generatedWords", fn := fun _ => fun
  | [d1, d2] => { results := [.lit (.bool false)], args := [d1, d2] }
  | _ => none }
def GeneratedWordsWrongFalsely : Prop := generatedWordsRow.holds Tryz.pinned (OpenSpec.ofChange generatedWordsWrong)

/-- 'scrimshawlaw24.GeneratedTails': WHATEVER THE INPUT: true; the input reads as it did. -/
def generatedTailsSpec : ChangeSpec := { name := "generatedTails", fn := fun _ => fun
  | [d] => { results := [.lit (.bool true)], args := [d] }
  | _ => none }
def generatedTailsRow : OpenClaim := { program := "ytfkclejklgoccaagreat", sum := "81218a698d3642314be45ea6f74b2d8bce176a828f6661520c6d004007acc31f", func := "scrimshaw/scrimshawlaw24.GeneratedTails", spec := "generatedTails", inPlace := ["internal/bytealg.IndexByteString"], unfollowed := true, recurses := true, apart := false }
def GeneratedTailsSaid : Prop := generatedTailsRow.holds Tryz.pinned (OpenSpec.ofChange generatedTailsSpec)

/-- ITS FALSE NEIGHBOUR: 'it returns false'. Refute it at one input. -/
def generatedTailsWrong : ChangeSpec := { name := "generatedTails", fn := fun _ => fun
  | [d] => { results := [.lit (.bool false)], args := [d] }
  | _ => none }
def GeneratedTailsWrongFalsely : Prop := generatedTailsRow.holds Tryz.pinned (OpenSpec.ofChange generatedTailsWrong)

/-- 'scrimshawlaw24.GeneratedMany': WHATEVER THE INPUT: true; the input reads as it did. -/
def generatedManySpec : ChangeSpec := { name := "generatedMany", fn := fun _ => fun
  | [d1, d2] => { results := [.lit (.bool true)], args := [d1, d2] }
  | _ => none }
def generatedManyRow : OpenClaim := { program := "ytfkclejklgoccaagreat", sum := "81218a698d3642314be45ea6f74b2d8bce176a828f6661520c6d004007acc31f", func := "scrimshaw/scrimshawlaw24.GeneratedMany", spec := "generatedMany", inPlace := ["internal/bytealg.IndexByteString"], unfollowed := true, recurses := true, apart := false }
def GeneratedManySaid : Prop := generatedManyRow.holds Tryz.pinned (OpenSpec.ofChange generatedManySpec)

/-- ITS FALSE NEIGHBOUR: 'it returns false'. Refute it at one input. -/
def generatedManyWrong : ChangeSpec := { name := "generatedMany", fn := fun _ => fun
  | [d1, d2] => { results := [.lit (.bool false)], args := [d1, d2] }
  | _ => none }
def GeneratedManyWrongFalsely : Prop := generatedManyRow.holds Tryz.pinned (OpenSpec.ofChange generatedManyWrong)

/-- 'scrimshawlaw25.LinkedTells': WHATEVER THE INPUT: true; the input reads as it did. -/
def linkedTellsSpec : ChangeSpec := { name := "linkedTells", fn := fun _ => fun
  | [d1, d2, d3] => { results := [.lit (.bool true)], args := [d1, d2, d3] }
  | _ => none }
def linkedTellsRow : OpenClaim := { program := "ytfkclejklgoccaagreat", sum := "81218a698d3642314be45ea6f74b2d8bce176a828f6661520c6d004007acc31f", func := "scrimshaw/scrimshawlaw25.LinkedTells", spec := "linkedTells", inPlace := ["internal/bytealg.IndexByteString"], unfollowed := true, recurses := true, apart := false }
def LinkedTellsSaid : Prop := linkedTellsRow.holds Tryz.pinned (OpenSpec.ofChange linkedTellsSpec)

/-- ITS FALSE NEIGHBOUR: 'it returns false'. Refute it at one input. -/
def linkedTellsWrong : ChangeSpec := { name := "linkedTells", fn := fun _ => fun
  | [d1, d2, d3] => { results := [.lit (.bool false)], args := [d1, d2, d3] }
  | _ => none }
def LinkedTellsWrongFalsely : Prop := linkedTellsRow.holds Tryz.pinned (OpenSpec.ofChange linkedTellsWrong)

/-- 'scrimshawlaw25.LinkedBuilds': WHATEVER THE INPUT: true; the input reads as it did. -/
def linkedBuildsSpec : ChangeSpec := { name := "linkedBuilds", fn := fun _ => fun
  | [d1, d2, d3] => { results := [.lit (.bool true)], args := [d1, d2, d3] }
  | _ => none }
def linkedBuildsRow : OpenClaim := { program := "ytfkclejklgoccaagreat", sum := "81218a698d3642314be45ea6f74b2d8bce176a828f6661520c6d004007acc31f", func := "scrimshaw/scrimshawlaw25.LinkedBuilds", spec := "linkedBuilds", inPlace := ["internal/bytealg.IndexByteString"], unfollowed := true, recurses := true, loops := true, apart := false }
def LinkedBuildsSaid : Prop := linkedBuildsRow.holds Tryz.pinned (OpenSpec.ofChange linkedBuildsSpec)

/-- ITS FALSE NEIGHBOUR: 'it returns false'. Refute it at one input. -/
def linkedBuildsWrong : ChangeSpec := { name := "linkedBuilds", fn := fun _ => fun
  | [d1, d2, d3] => { results := [.lit (.bool false)], args := [d1, d2, d3] }
  | _ => none }
def LinkedBuildsWrongFalsely : Prop := linkedBuildsRow.holds Tryz.pinned (OpenSpec.ofChange linkedBuildsWrong)

/-- 'scrimshawlaw25.LinkedRuns': WHATEVER THE INPUT: true; the input reads as it did. -/
def linkedRunsSpec : ChangeSpec := { name := "linkedRuns", fn := fun _ => fun
  | [d] => { results := [.lit (.bool true)], args := [d] }
  | _ => none }
def linkedRunsRow : OpenClaim := { program := "ytfkclejklgoccaagreat", sum := "81218a698d3642314be45ea6f74b2d8bce176a828f6661520c6d004007acc31f", func := "scrimshaw/scrimshawlaw25.LinkedRuns", spec := "linkedRuns", inPlace := ["internal/bytealg.IndexByteString"], unfollowed := true, recurses := true, loops := true, apart := false }
def LinkedRunsSaid : Prop := linkedRunsRow.holds Tryz.pinned (OpenSpec.ofChange linkedRunsSpec)

/-- ITS FALSE NEIGHBOUR: 'it returns false'. Refute it at one input. -/
def linkedRunsWrong : ChangeSpec := { name := "linkedRuns", fn := fun _ => fun
  | [d] => { results := [.lit (.bool false)], args := [d] }
  | _ => none }
def LinkedRunsWrongFalsely : Prop := linkedRunsRow.holds Tryz.pinned (OpenSpec.ofChange linkedRunsWrong)

/-- 'scrimshawlaw25.LinkedSteps': WHATEVER THE INPUT: true; the input reads as it did. -/
def linkedStepsSpec : ChangeSpec := { name := "linkedSteps", fn := fun _ => fun
  | [d1, d2, d3] => { results := [.lit (.bool true)], args := [d1, d2, d3] }
  | _ => none }
def linkedStepsRow : OpenClaim := { program := "ytfkclejklgoccaagreat", sum := "81218a698d3642314be45ea6f74b2d8bce176a828f6661520c6d004007acc31f", func := "scrimshaw/scrimshawlaw25.LinkedSteps", spec := "linkedSteps", inPlace := ["internal/bytealg.IndexByteString"], unfollowed := true, recurses := true, loops := true, apart := false }
def LinkedStepsSaid : Prop := linkedStepsRow.holds Tryz.pinned (OpenSpec.ofChange linkedStepsSpec)

/-- ITS FALSE NEIGHBOUR: 'it returns false'. Refute it at one input. -/
def linkedStepsWrong : ChangeSpec := { name := "linkedSteps", fn := fun _ => fun
  | [d1, d2, d3] => { results := [.lit (.bool false)], args := [d1, d2, d3] }
  | _ => none }
def LinkedStepsWrongFalsely : Prop := linkedStepsRow.holds Tryz.pinned (OpenSpec.ofChange linkedStepsWrong)

/- THE SECOND FORM. 'bulk': how many values and letters a reading holds, each counted each time it is reached (what is shared counts as often as it is met; a slice's spare places count too). A statement '..UptoSaid' is the law's where the arguments, and the package variables that the reading takes, are together of bulk at most 1048576: NARROWER than '..Said'. Prove '..Said' where nothing that the law and all that it calls make is longer than what came in: it says more and counts as full. Else prove '..UptoSaid'. A law counts once. -/
mutual
def uptoBulk {H : Type} : DataW H → Nat
  | .lit (.string bytes) => bytes.length + 1
  | .lit _ => 1
  | .nil => 1
  | .ptr d => uptoBulk d + 1
  | .slice elems spare => uptoBulkAll elems + uptoBulkAll spare + 1
  | .agg parts => uptoBulkAll parts + 1
  | .iface _ d => uptoBulk d + 1
  | .map entries => uptoBulkEntries entries + 1
  | .held _ => 1
def uptoBulkAll {H : Type} : List (DataW H) → Nat
  | [] => 0
  | d :: r => uptoBulk d + uptoBulkAll r
def uptoBulkEntries {H : Type} : List (Lit × DataW H) → Nat
  | [] => 0
  | x :: r => uptoBulkEntry x + uptoBulkEntries r
def uptoBulkEntry {H : Type} : Lit × DataW H → Nat
  | (.string bytes, d) => bytes.length + uptoBulk d + 1
  | (_, d) => uptoBulk d + 1
 end
def uptoSmall : (H : Type) → List (DataW H) → Bool := fun _ ds => decide (uptoBulkAll ds ≤ 1048576)
def OpenSpec.upto (s : _root_.Go.ChangeSpec) : _root_.Go.OpenSpec := { _root_.Go.OpenSpec.ofChange s with cond := some uptoSmall }

/-- 'scrimshawlaw24.GeneratedWords', WHERE WHAT IT READS IS OF BULK AT MOST 1048576: true; the input reads as it did. -/
def generatedWordsUptoRow : OpenClaim := { program := "ytfkclejklgoccaagreat", sum := "81218a698d3642314be45ea6f74b2d8bce176a828f6661520c6d004007acc31f", func := "scrimshaw/scrimshawlaw24.GeneratedWords", spec := "generatedWords", inPlace := ["internal/bytealg.IndexByteString"], unfollowed := true, recurses := true, apart := false, narrowed := true }
def GeneratedWordsUptoSaid : Prop := generatedWordsUptoRow.holds Tryz.pinned (OpenSpec.upto generatedWordsSpec)

/-- 'scrimshawlaw24.GeneratedTails', WHERE WHAT IT READS IS OF BULK AT MOST 1048576: true; the input reads as it did. -/
def generatedTailsUptoRow : OpenClaim := { program := "ytfkclejklgoccaagreat", sum := "81218a698d3642314be45ea6f74b2d8bce176a828f6661520c6d004007acc31f", func := "scrimshaw/scrimshawlaw24.GeneratedTails", spec := "generatedTails", inPlace := ["internal/bytealg.IndexByteString"], unfollowed := true, recurses := true, apart := false, narrowed := true }
def GeneratedTailsUptoSaid : Prop := generatedTailsUptoRow.holds Tryz.pinned (OpenSpec.upto generatedTailsSpec)

/-- 'scrimshawlaw24.GeneratedMany', WHERE WHAT IT READS IS OF BULK AT MOST 1048576: true; the input reads as it did. -/
def generatedManyUptoRow : OpenClaim := { program := "ytfkclejklgoccaagreat", sum := "81218a698d3642314be45ea6f74b2d8bce176a828f6661520c6d004007acc31f", func := "scrimshaw/scrimshawlaw24.GeneratedMany", spec := "generatedMany", inPlace := ["internal/bytealg.IndexByteString"], unfollowed := true, recurses := true, apart := false, narrowed := true }
def GeneratedManyUptoSaid : Prop := generatedManyUptoRow.holds Tryz.pinned (OpenSpec.upto generatedManySpec)

/-- 'scrimshawlaw25.LinkedTells', WHERE WHAT IT READS IS OF BULK AT MOST 1048576: true; the input reads as it did. -/
def linkedTellsUptoRow : OpenClaim := { program := "ytfkclejklgoccaagreat", sum := "81218a698d3642314be45ea6f74b2d8bce176a828f6661520c6d004007acc31f", func := "scrimshaw/scrimshawlaw25.LinkedTells", spec := "linkedTells", inPlace := ["internal/bytealg.IndexByteString"], unfollowed := true, recurses := true, apart := false, narrowed := true }
def LinkedTellsUptoSaid : Prop := linkedTellsUptoRow.holds Tryz.pinned (OpenSpec.upto linkedTellsSpec)

/-- 'scrimshawlaw25.LinkedBuilds', WHERE WHAT IT READS IS OF BULK AT MOST 1048576: true; the input reads as it did. -/
def linkedBuildsUptoRow : OpenClaim := { program := "ytfkclejklgoccaagreat", sum := "81218a698d3642314be45ea6f74b2d8bce176a828f6661520c6d004007acc31f", func := "scrimshaw/scrimshawlaw25.LinkedBuilds", spec := "linkedBuilds", inPlace := ["internal/bytealg.IndexByteString"], unfollowed := true, recurses := true, loops := true, apart := false, narrowed := true }
def LinkedBuildsUptoSaid : Prop := linkedBuildsUptoRow.holds Tryz.pinned (OpenSpec.upto linkedBuildsSpec)

/-- 'scrimshawlaw25.LinkedRuns', WHERE WHAT IT READS IS OF BULK AT MOST 1048576: true; the input reads as it did. -/
def linkedRunsUptoRow : OpenClaim := { program := "ytfkclejklgoccaagreat", sum := "81218a698d3642314be45ea6f74b2d8bce176a828f6661520c6d004007acc31f", func := "scrimshaw/scrimshawlaw25.LinkedRuns", spec := "linkedRuns", inPlace := ["internal/bytealg.IndexByteString"], unfollowed := true, recurses := true, loops := true, apart := false, narrowed := true }
def LinkedRunsUptoSaid : Prop := linkedRunsUptoRow.holds Tryz.pinned (OpenSpec.upto linkedRunsSpec)

/-- 'scrimshawlaw25.LinkedSteps', WHERE WHAT IT READS IS OF BULK AT MOST 1048576: true; the input reads as it did. -/
def linkedStepsUptoRow : OpenClaim := { program := "ytfkclejklgoccaagreat", sum := "81218a698d3642314be45ea6f74b2d8bce176a828f6661520c6d004007acc31f", func := "scrimshaw/scrimshawlaw25.LinkedSteps", spec := "linkedSteps", inPlace := ["internal/bytealg.IndexByteString"], unfollowed := true, recurses := true, loops := true, apart := false, narrowed := true }
def LinkedStepsUptoSaid : Prop := linkedStepsUptoRow.holds Tryz.pinned (OpenSpec.upto linkedStepsSpec)

end Rows
end Go.Proofs.YtfkclejklgoccaaGreat
