/-
  DATA: a string's text.
-/
import Derived.Test.YtlnmmakbgldflaaDoorDf
set_option linter.unusedSimpArgs false
set_option linter.unusedVariables false
set_option maxRecDepth 100000
namespace Go.Proofs.YtlnmmakbgldflaaDoor.Vc
open Go

def quoteB (c : UInt8) : List UInt8 := if c = 34 ∨ c = 92 then [92, c] else if c = 10 then [92, 110] else if c < 32 ∨ 126 < c then [92, 120] ++ twoL c else [c]
def quotedL (l : List UInt8) : List UInt8 := [34] ++ l.flatMap quoteB ++ [34]
theorem quoteB_len (c : UInt8) : (quoteB c).length ≤ 4 := by
  unfold quoteB; split
  · simp
  split
  · simp
  split
  · simp [twoL]
  · simp
theorem quotes_len (l : List UInt8) : (l.flatMap quoteB).length ≤ 4 * l.length := by
  induction l with
  | nil => simp
  | cons c l ih =>
    have := quoteB_len c
    simp only [List.flatMap_cons, List.length_append, List.length_cons]; omega

end Go.Proofs.YtlnmmakbgldflaaDoor.Vc

