/-
  Texts on the way to the statement, one behind the other, without what it does not reach.
-/
import Derived.Test.YtibinelkmlcmgaaGreatDoorKd
import Derived.Recover
set_option linter.unusedSimpArgs false
set_option linter.unusedVariables false
set_option maxRecDepth 100000
/-
  A FUNCTION THAT DEFERS A CLOSURE, in pieces: what goes on ahead of it, what goes on behind it, and the closure where the function leaves. No program in sight.
-/
namespace Go.Proofs.YtibinelkmlcmgaaGreatDoor.Vc
open Go

section
variable {P : Program} {D : Prot} {H0 : PH} {w0 : World} {X : List PanicEntry → PH → Prop}
end

section
variable {P : Program}
/-- these calls are deferred, and these slots stay as they are -/
def Prot.keep (l : List Deferred) (pr : List (Nat × Value)) : Prot :=
  ⟨fun a => a.defers = l ∧ ∀ y ∈ pr, a.tmps.getD y.1 undef = y.2, fun d => pr.all fun y => decide (y.1 ≠ d),
    fun a d v hd h => ⟨h.1, fun y hy => by
      have := List.all_eq_true.1 hd y hy
      rw [decide_eq_true_eq] at this
      rw [← h.2 y hy]
      simp only [Act.put, Array.getD_eq_getD_getElem?, Array.getElem?_setIfInBounds, if_neg (Ne.symm this)]⟩,
    fun a d v hd h => ⟨h.1, fun y hy => by
      have := List.all_eq_true.1 hd y hy
      rw [decide_eq_true_eq] at this
      rw [← h.2 y hy]
      simp only [Act.put, Array.getD_eq_getD_getElem?, Array.getElem?_setIfInBounds, if_neg (Ne.symm this)]⟩⟩
/-- what recover gives in a frame that leaves so, and how it leaves then -/
inductive Recov : FrameMode → Value → FrameMode → Prop
  | none : Recov .returning .nilIface .returning
  | some (v : Value) (older : List PanicEntry) : Recov (.panicking ({ v, recovered := false, goexit := false } :: older)) v (.panicking ({ v, recovered := true, goexit := false } :: older))
end
end Go.Proofs.YtibinelkmlcmgaaGreatDoor.Vc
