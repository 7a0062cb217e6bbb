/-
  RULES for what a formula means: calls by contract, loops, meeting points; and plain facts on numbers. No program in sight.
-/
import Derived.Test.YtlnmmakbgldflaaGreatDoorWb
set_option linter.unusedSimpArgs false
set_option linter.unusedVariables false
set_option maxRecDepth 100000
namespace Go.Proofs.YtlnmmakbgldflaaGreatDoor.Vc
open Go

/-! ### calls -/
def callB (P : Program) (f : FuncId) : Bool :=
  match P.funcs[f]? with
  | some fn => !(fn.name == "runtime.NumGoroutine") && fn.body.isSome
  | none => false
theorem callOk_of {P : Program} {f : FuncId} (h : callB P f = true) : callOk P f := by
  intro args w
  unfold callB at h
  split at h
  · rename_i fn hf
    simp only [Bool.and_eq_true, Bool.not_eq_true', beq_eq_false_iff_ne] at h
    obtain ⟨h1, h2⟩ := h
    have h3 : fn.body ≠ none := fun h => by rw [h] at h2; cases h2
    simp [callFunc, hf, h1, h3]
  · cases h

section
variable {P : Program} {X : List PanicEntry → PH → Prop} {α : Type} {E : List Value} {H : PH} {L : LK} {K : α → List Value → PH → LK → Prop}

/-- f, called so, gives v, and what was there stands -/
def Gives (P : Program) (f : FuncId) (args : List Value) (H : PH) (v : Value) : Prop := Tri P f args.toArray H fun e H' => e = .returned v ∧ PH.le H H'

theorem pendOk_le' {H' : PH} {pend : List (SV × List SV)} (h : pendOk E H pend) (hl : PH.le H H') : pendOk E H' pend := pendOk_le h hl

/-- a call by a contract -/
theorem den_call {f : FuncId} {args : List VE} {rs : RS} {pend : List (SV × List SV)} {k : Fm α} {R : Ending → PH → Prop} (hok : callB P f = true) (hc : Tri P f (args.map (evV E fun _ => 0)).toArray H R)
    (hk : ∀ e H', R e H' → ∃ v vs, e = .returned v ∧ tagsOk rs.tags vs = true ∧ v = rs.pack vs ∧ pendOk E H' pend ∧ den P X k (E ++ vs) H' L K) : den P X (.call (.fn f) args rs pend k) E H L K := by
  refine ⟨callOk_of hok, hc.mono fun e H' hr => ?_⟩
  obtain ⟨v, vs, rfl, h1, h2, h3, h4⟩ := hk e H' hr
  exact ⟨vs, h1, h2, h3, h4⟩
/-- a call that gives a value and leaves what was there -/
theorem den_gives {f : FuncId} {args : List VE} {rs : RS} {pend : List (SV × List SV)} {k : Fm α} (vs : List Value) (hok : callB P f = true) (hc : Gives P f (args.map (evV E fun _ => 0)) H (rs.pack vs)) (ht : tagsOk rs.tags vs = true) (hp : pendOk E H pend)
    (hk : ∀ H', PH.le H H' → den P X k (E ++ vs) H' L K) : den P X (.call (.fn f) args rs pend k) E H L K :=
  den_call hok hc fun _ H' ⟨he, hl⟩ => ⟨_, vs, he, ht, rfl, pendOk_le hp hl, hk H' hl⟩
theorem pendNil : pendOk E H [] := fun x hx => by cases hx
theorem lookup_hit {n : Nat} {J : List Value → PH → Prop} {L : LK} : ((n, J) :: L).lookup n = some J := by simp
theorem lookup_miss {n m : Nat} {J : List Value → PH → Prop} {L : LK} (h : n ≠ m) : ((n, J) :: L).lookup m = L.lookup m := by
  have : (m == n) = false := by simp [Ne.symm h]
  rw [List.lookup_cons, this]
end

/-! ### numbers -/
theorem w64 {n : Int} (h0 : -9223372036854775808 ≤ n) (h1 : n ≤ 9223372036854775807) : IntKind.i64.wrap n = n := by
  simp only [IntKind.wrap, IntKind.bits, IntKind.signed]; simp; omega
theorem wu8 {n : Int} (h0 : 0 ≤ n) (h1 : n ≤ 255) : IntKind.u8.wrap n = n := by
  simp only [IntKind.wrap, IntKind.bits, IntKind.signed]; simp; omega
end Go.Proofs.YtlnmmakbgldflaaGreatDoor.Vc
