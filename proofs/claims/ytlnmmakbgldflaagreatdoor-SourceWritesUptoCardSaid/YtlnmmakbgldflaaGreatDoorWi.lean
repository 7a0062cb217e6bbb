/-
  TWO STRUCTS HELD AGAINST EACH OTHER. No program in sight.
-/
import Derived.Test.YtlnmmakbgldflaaGreatDoorWh
set_option linter.unusedSimpArgs false
set_option linter.unusedVariables false
set_option maxRecDepth 100000
namespace Go.Proofs.YtlnmmakbgldflaaGreatDoor.Vc
open Go

section
variable {P : Program} {Ψ : Value → PH → Prop} {H : PH}
theorem wpS_program {α : Type} {f : Program → Sem α} {Φ : α → PH → Prop} : wpS P (program >>= f) Φ Ψ H = wpS P (f P) Φ Ψ H := rfl
theorem wpS_ite {α : Type} {c : Prop} [Decidable c] {a b : Sem α} {Φ : α → PH → Prop} : wpS P (if c then a else b) Φ Ψ H = if c then wpS P a Φ Ψ H else wpS P b Φ Ψ H := by split <;> rfl
theorem exec_binOp {ρ : Operand → Value} {Φ : Next → PH → Prop} {op : BinOp} {T U ty : TypeId} {x y : Operand} : wpS P (execOp ρ (bare (.binOp op T x y U) ty)) Φ Ψ H = wpS P (eqGuard op T x y (ρ x) (ρ y)) (fun _ H' => wpS P (binOp op T (ρ x) (ρ y)) (fun v H' => Φ (.value v) H') Ψ H') Ψ H := by
  simp only [execOp, bare, wpS_bind', wpS_pure]
/-- a type of one cell -/
def flatB : TypeDesc → Bool
  | .int _ => true
  | .string => true
  | .bool => true
  | _ => false
theorem wpS_part {t : TypeId} {d : TypeDesc} (ht : P.underlying t = some d) (hd : flatB d = true) {cs : Array Value} {o : Nat} {v : Value} (hv : cs[o]? = some v) {Φ : Value → PH → Prop} : wpS P (part t cs o) Φ Ψ H = Φ v H := by
  unfold part isAgg
  simp only [wpS_bind', wpS_underlying ht, wpS_pure]
  cases d <;> simp [flatB] at hd <;> simp [hv, wpS_pure, wpS_bind']
def eqCell : Value → Value → Bool
  | .int _ a, .int _ b => a == b
  | .string a, .string b => a == b
  | .bool a, .bool b => a == b
  | _, _ => false
/-- these cells fit these fields -/
def FitB (P : Program) : List Field → List Value → List Value → Bool
  | [], [], [] => true
  | f :: fs, a :: as, b :: bs => f.name != "_" && (match P.underlying f.type, a, b with
    | some (.int _), .int k _, .int k' _ => decide (k = k')
    | some .string, .string _, .string _ => true
    | some .bool, .bool _, .bool _ => true
    | _, _, _ => false) && FitB P fs as bs
  | _, _, _ => false
def eqCells : List Value → List Value → Bool
  | a :: as, b :: bs => eqCell a b && eqCells as bs
  | _, _ => true
theorem wpS_equalIn1 {d : Nat} {t : TypeId} {a b : Value} (h : (match P.underlying t, a, b with
    | some (.int _), .int k _, .int k' _ => decide (k = k')
    | some .string, .string _, .string _ => true
    | some .bool, .bool _, .bool _ => true
    | _, _, _ => false) = true) {Φ : Bool → PH → Prop} : wpS P (Op.equalIn (d + 1) t a b) Φ Ψ H = Φ (eqCell a b) H := by
  unfold Op.equalIn
  split at h
  · rename_i k1 k m k' n hu
    have hk := of_decide_eq_true h
    subst hk
    simp only [wpS_bind', wpS_underlying hu, if_true, wpS_pure, eqCell]
  · rename_i hu
    simp only [wpS_bind', wpS_underlying hu, wpS_pure, eqCell]
  · rename_i hu
    simp only [wpS_bind', wpS_underlying hu, wpS_pure, eqCell]
  · cases h
def OffB : Nat → List Field → Bool
  | _, [] => true
  | k, f :: fs => decide (f.offset = k) && OffB (k + 1) fs
theorem drop_split {l : List Value} {k : Nat} {a : Value} {as : List Value} (h : l.drop k = a :: as) : l.toArray[k]? = some a ∧ l.drop (k + 1) = as := by
  have h1 : l[k]? = some a := by
    have := congrArg (·[0]?) h
    simpa [List.getElem?_drop] using this
  refine ⟨by simpa using h1, ?_⟩
  have := congrArg List.tail h
  simpa using this
theorem wpS_fieldLoop {d : Nat} {as bs : List Value} : ∀ (fs : List Field) (k : Nat), OffB k fs = true → FitB P fs (as.drop k) (bs.drop k) = true → ∀ {Φ : Option Bool × Unit → PH → Prop},
    wpS P (forIn fs ((none, ()) : Option Bool × Unit) fun f __s =>
      if f.name ≠ "_" then do
        let x ← part f.type as.toArray f.offset
        let y ← part f.type bs.toArray f.offset
        let z ← Op.equalIn (d + 1) f.type x y
        if (!z) = true then pure (ForInStep.done (some false, ())) else pure (ForInStep.yield (none, ()))
      else pure (ForInStep.yield (none, ()))) Φ Ψ H = Φ (if eqCells (as.drop k) (bs.drop k) = true then (none, ()) else (some false, ())) H
  | [], k, _, hf, Φ => by
    cases h1 : as.drop k with
    | nil => rfl
    | cons a r => cases h2 : bs.drop k <;> simp [h1, h2, FitB] at hf
  | f :: fs, k, ho, hf, Φ => by
    cases h1 : as.drop k with
    | nil => cases h2 : bs.drop k <;> simp [h1, h2, FitB] at hf
    | cons a r =>
      cases h2 : bs.drop k with
      | nil => simp [h1, h2, FitB] at hf
      | cons b q =>
        rw [h1, h2] at hf
        simp only [FitB, Bool.and_eq_true] at hf
        obtain ⟨⟨hn, hm⟩, hf⟩ := hf
        simp only [OffB, Bool.and_eq_true, decide_eq_true_eq] at ho
        obtain ⟨ho, ho2⟩ := ho
        obtain ⟨ga, gr⟩ := drop_split h1
        obtain ⟨gb, gq⟩ := drop_split h2
        have hn' : f.name ≠ "_" := by simpa using hn
        have hd : ∃ dd, P.underlying f.type = some dd ∧ flatB dd = true := by
          split at hm
          · rename_i hu; exact ⟨_, hu, rfl⟩
          · rename_i hu; exact ⟨_, hu, rfl⟩
          · rename_i hu; exact ⟨_, hu, rfl⟩
          · cases hm
        obtain ⟨dd, hu, hfl⟩ := hd
        rw [List.forIn_cons]
        simp only [wpS_bind', if_pos hn', ho, wpS_part hu hfl ga, wpS_part hu hfl gb, wpS_equalIn1 hm]
        cases he : eqCell a b with
        | false => simp [wpS_pure, eqCells, he]
        | true =>
          simp only [Bool.not_true, Bool.false_eq_true, if_false, wpS_pure]
          have ih := wpS_fieldLoop (d := d) (as := as) (bs := bs) fs (k + 1) ho2 (by rw [gr, gq]; exact hf) (Φ := Φ)
          rw [gr, gq] at ih
          simp only [eqCells, he, Bool.true_and]
          exact ih
theorem wpS_equalStruct {d : Nat} {t : TypeId} {fs : List Field} {as bs : List Value} (ht : P.underlying t = some (.struct fs.toArray)) (hheld : P.stoodInHeld t = false) (ho : OffB 0 fs = true) (hf : FitB P fs as bs = true) {Φ : Bool → PH → Prop} : wpS P (Op.equalIn (d + 2) t (.agg as.toArray) (.agg bs.toArray)) Φ Ψ H = Φ (eqCells as bs) H := by
  unfold Op.equalIn
  simp only [wpS_bind', wpS_underlying ht, List.forIn_toArray]
  show wpS P (if P.stoodInHeld t = true then _ else _) Φ Ψ H = _
  rw [if_neg (by rw [hheld]; simp)]
  rw [wpS_bind', wpS_fieldLoop (d := d) (as := as) (bs := bs) fs 0 ho (by simpa using hf)]
  simp only [List.drop_zero]
  cases eqCells as bs <;> rfl
theorem wpS_neqStruct {t : TypeId} {fs : List Field} {as bs : List Value} {x y : Operand} {Φ : Value → PH → Prop} (ht : P.underlying t = some (.struct fs.toArray)) (hheld : P.stoodInHeld t = false) (hg : P.eqGuardType P.depth t = false) (ho : OffB 0 fs = true) (hf : FitB P fs as bs = true) :
    wpS P (eqGuard .neq t x y (.agg as.toArray) (.agg bs.toArray)) (fun _ H' => wpS P (binOp .neq t (.agg as.toArray) (.agg bs.toArray)) Φ Ψ H') Ψ H = Φ (.bool (!eqCells as bs)) H := by
  have h1 : ∀ {Ξ : Unit → PH → Prop}, wpS P (eqGuard .neq t x y (.agg as.toArray) (.agg bs.toArray)) Ξ Ψ H = Ξ () H := by
    intro Ξ
    show wpS P (if (!P.eqGuardType P.depth t) = true then _ else _) Ξ Ψ H = _
    rw [if_pos (by rw [hg]; rfl)]; rfl
  rw [h1]
  show wpS P (do pure (.bool (!(← Op.equal t _ _)))) Φ Ψ H = _
  rw [wpS_bind']
  exact wpS_equalStruct (d := 9998) ht hheld ho hf
theorem den_neqStruct {X : List PanicEntry → PH → Prop} {β : Type} {E : List Value} {L : LK} {K : β → List Value → PH → LK → Prop} {t U ty : TypeId} {fs : List Field} {as bs : List Value} {x y : Operand} {args : List (Nat × VE)} {k : Fm β} (ht : P.underlying t = some (.struct fs.toArray)) (hheld : P.stoodInHeld t = false) (hg : P.eqGuardType P.depth t = false) (ho : OffB 0 fs = true)
    (hx : argEv E args x = .agg as.toArray) (hy : argEv E args y = .agg bs.toArray) (hf : FitB P fs as bs = true) (hk : den P X k (E ++ [.bool (!eqCells as bs)]) H L K) : den P X (.sem (.binOp .neq t x y U) ty args (.sc .bool) [] k) E H L K := by
  show wpS P (execOp (argEv E args) (bare _ ty)) _ _ H
  rw [exec_binOp, hx, hy, wpS_neqStruct ht hheld hg ho hf]
  exact ⟨[_], rfl, rfl, pendNil, hk⟩
end
end Go.Proofs.YtlnmmakbgldflaaGreatDoor.Vc
