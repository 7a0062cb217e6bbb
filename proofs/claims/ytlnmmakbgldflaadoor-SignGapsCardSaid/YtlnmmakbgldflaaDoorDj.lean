/-
  DATA: the text of the document's answer.
-/
import Derived.Test.YtlnmmakbgldflaaDoorDi
set_option linter.unusedSimpArgs false
set_option linter.unusedVariables false
set_option maxRecDepth 100000
namespace Go.Proofs.YtlnmmakbgldflaaDoor.Vc
open Go

theorem Dat.txtL_eq (d : Dat) (bare : Bool) : d.txtL bare = if d.kind = 0 then (if d.int = 0 then [35, 102] else [35, 116]) else if d.kind = 1 then Lib.itoa d.int else if d.kind = 2 then (if bare then [byteOf d.int] else charL (byteOf d.int)) else if d.kind = 3 then (if bare then d.text else quotedL d.text) else if d.kind = 4 then d.text
      else (if d.kind = 7 then [35, 40] else [40]) ++ Dats.txtL bare (decide (d.kind = 6)) true d.list ++ [41] := by
  cases d; simp only [Dat.txtL, Dat.kind, Dat.int, Dat.text, Dat.list]; rfl
theorem drop_get {α : Type} {l : List α} {k : Nat} {a : α} (h : l[k]? = some a) : l.drop k = a :: l.drop (k + 1) := by
  obtain ⟨hk, rfl⟩ := List.getElem?_eq_some_iff.1 h
  exact List.drop_eq_getElem_cons hk
theorem u8conv (n : Int) : Value.int .u8 (IntKind.u8.wrap n) = .int .u8 ((byteOf n).toNat : Int) := by rw [byteOf_eq]
theorem le_quotedL (l : List UInt8) : l.length ≤ (quotedL l).length := by
  have : ∀ l : List UInt8, l.length ≤ (l.flatMap quoteB).length := fun l => by
    induction l with
    | nil => simp
    | cons c l ih =>
      have : 1 ≤ (quoteB c).length := by
        unfold quoteB; split
        · simp
        split
        · simp
        split
        · simp
        · simp
      simp only [List.flatMap_cons, List.length_append, List.length_cons]; omega
  have := this l
  simp only [quotedL, List.length_append]; omega

end Go.Proofs.YtlnmmakbgldflaaDoor.Vc

