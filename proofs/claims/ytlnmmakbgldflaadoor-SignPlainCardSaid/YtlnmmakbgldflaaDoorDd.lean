/-
  DATA: which data may be.
-/
import Derived.Test.YtlnmmakbgldflaaDoorDc
set_option linter.unusedSimpArgs false
set_option linter.unusedVariables false
set_option maxRecDepth 100000
namespace Go.Proofs.YtlnmmakbgldflaaDoor.Vc
open Go

mutual
theorem Dat.ind {p : Dat → Prop} (h : ∀ d, (∀ e ∈ d.list, p e) → p d) : ∀ d, p d
  | .mk _ _ _ l => h _ (Dats.ind h l)
theorem Dats.ind {p : Dat → Prop} (h : ∀ d, (∀ e ∈ d.list, p e) → p d) : ∀ (l : List Dat), ∀ e ∈ l, p e
  | [], e, he => by cases he
  | d :: l, e, he => (List.mem_cons.1 he).elim (fun h1 => h1 ▸ Dat.ind h d) (fun h1 => Dats.ind h l e h1)
end

mutual
/-- a datum within so many, so many being looked at: how many are then, and what is wrong -/
def Dat.chk : Dat → Nat → Nat → Nat × Int
  | .mk k n t l, deep, seen => if seen = 4096 then (seen, 22) else if nested k = true ∧ deep = 32 then (seen + 1, 21) else if formOk (.mk k n t l) = false then (seen + 1, 20) else Dats.chk l (deep + 1) (seen + 1)
def Dats.chk : List Dat → Nat → Nat → Nat × Int
  | [], _, seen => (seen, 0)
  | d :: l, deep, seen => if (Dat.chk d deep seen).2 ≠ 0 then Dat.chk d deep seen else Dats.chk l deep (Dat.chk d deep seen).1
end
theorem Dat.chk_eq (d : Dat) (deep seen : Nat) : d.chk deep seen = if seen = 4096 then (seen, 22) else if nested d.kind = true ∧ deep = 32 then (seen + 1, 21) else if formOk d = false then (seen + 1, 20) else Dats.chk d.list (deep + 1) (seen + 1) := by
  cases d; simp only [Dat.chk, Dat.kind, Dat.list]; rfl
mutual
theorem Dat.chk_le : ∀ (d : Dat) (deep seen : Nat), seen ≤ 4096 → (d.chk deep seen).1 ≤ 4096
  | .mk k n t l, deep, seen, h => by
    simp only [Dat.chk]
    split
    · exact h
    split
    · simp only; omega
    split
    · simp only; omega
    · exact Dats.chk_le l _ _ (by omega)
theorem Dats.chk_le : ∀ (l : List Dat) (deep seen : Nat), seen ≤ 4096 → (Dats.chk l deep seen).1 ≤ 4096
  | [], _, seen, h => by simp only [Dats.chk]; exact h
  | d :: l, deep, seen, h => by
    simp only [Dats.chk]
    split
    · exact Dat.chk_le d _ _ h
    · exact Dats.chk_le l _ _ (Dat.chk_le d _ _ h)
end
theorem evV_tu2 (E : List Value) (r : Nat → Nat) (a b : SV) : evV E r (.tu [(false, [a]), (false, [b])]) = .tuple #[ev E r a, ev E r b] := rfl
theorem formOk_nested {d : Dat} (h : formOk d = true) (hl : d.list ≠ []) : nested d.kind = true := by
  obtain ⟨k, n, t, l⟩ := d
  simp only [formOk, nested, Dat.kind, Dat.list, Dat.int, Dat.text] at *
  have : l.isEmpty = false := by cases l <;> simp at hl ⊢
  grind

end Go.Proofs.YtlnmmakbgldflaaDoor.Vc

