/-
  BYTES MADE A TEXT. No program in sight.
-/
import Derived.Test.YtlnmmakbgldflaaGreatDoorWc
set_option linter.unusedSimpArgs false
set_option linter.unusedVariables false
set_option maxRecDepth 100000
namespace Go.Proofs.YtlnmmakbgldflaaGreatDoor.Vc
open Go

section
variable {P : Program} {Ψ : Value → PH → Prop} {H : PH} {ρ : Operand → Value}
theorem wpS_pushes {f : Value → ByteArray → Sem (ForInStep ByteArray)} (hf : ∀ (b : UInt8) s, f (.int .u8 (b.toNat : Int)) s = pure (.yield (s.push b))) : ∀ (l : List UInt8) (s : ByteArray) {Φ : ByteArray → PH → Prop}, Φ (l.foldl ByteArray.push s) H →
    wpS P (forIn (l.map fun b => Value.int .u8 (b.toNat : Int)) s f) Φ Ψ H
  | [], s, Φ, h => h
  | b :: l, s, Φ, h => by
    rw [List.map_cons, List.forIn_cons, wpS_bind', hf]
    exact wpS_pushes hf l (s.push b) h
theorem foldl_push (l : List UInt8) (s : ByteArray) : l.foldl ByteArray.push s = ⟨(s.data.toList ++ l).toArray⟩ := by
  induction l generalizing s with
  | nil => simp
  | cons b l ih => rw [List.foldl_cons, ih]; simp
theorem wpS_bytesToString {a : Addr} {l : List UInt8} {c : Nat} {Φ : Value → PH → Prop} (h : ∀ j u, (l.map fun b => Value.int .u8 (b.toNat : Int))[j]? = some u → H.cell? (a.add j) = some u) (hk : Φ (.string ⟨l.toArray⟩) H) : wpS P (Conv.bytesToString (.slice (some a) l.length c)) Φ Ψ H := by
  unfold Conv.bytesToString
  simp only [wpS_bind']
  refine wpS_loadCells (vs := l.map fun b => Value.int .u8 (b.toNat : Int)) (by simp) h ?_
  rw [List.forIn_toArray]
  refine wpS_pushes (fun b s => by simp) l ByteArray.empty ?_
  rw [foldl_push]
  exact hk
theorem exec_convert {a b ty : TypeId} {x : Operand} {Φ : Next → PH → Prop} : wpS P (execOp ρ (bare (.convert a b x) ty)) Φ Ψ H = wpS P (convert a b (ρ x)) (fun v H' => Φ (.value v) H') Ψ H := by
  simp only [execOp, bare, wpS_bind', wpS_pure]
/-- bytes made a text -/
theorem wpS_toText {s t e : TypeId} (hs : P.underlying s = some (.slice e)) (ht : P.underlying t = some .string) (he : P.underlying e = some (.int .u8)) {a : Addr} {l : List UInt8} {c : Nat} {Φ : Value → PH → Prop} (h : ∀ j u, (l.map fun b => Value.int .u8 (b.toNat : Int))[j]? = some u → H.cell? (a.add j) = some u) (hk : Φ (.string ⟨l.toArray⟩) H) :
    wpS P (convert s t (.slice (some a) l.length c)) Φ Ψ H := by
  unfold convert
  simp only [wpS_bind', wpS_underlying hs, wpS_underlying ht, wpS_underlying he]
  exact wpS_bytesToString h hk
theorem wpS_toText_nil {s t e : TypeId} (hs : P.underlying s = some (.slice e)) (ht : P.underlying t = some .string) (he : P.underlying e = some (.int .u8)) {Φ : Value → PH → Prop} (hk : Φ (.string ⟨#[]⟩) H) :
    wpS P (convert s t (.slice none 0 0)) Φ Ψ H := by
  unfold convert
  simp only [wpS_bind', wpS_underlying hs, wpS_underlying ht, wpS_underlying he]
  exact hk
end
end Go.Proofs.YtlnmmakbgldflaaGreatDoor.Vc
