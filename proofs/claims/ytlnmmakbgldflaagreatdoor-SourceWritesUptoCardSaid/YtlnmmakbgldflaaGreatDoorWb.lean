/-
  OPERATIONS OF THE CODE, told over a part of the heap: a row laid, a row appended to, bytes made a string. No program in sight.
-/
import Derived.Test.YtlnmmakbgldflaaGreatDoorWa
set_option linter.unusedSimpArgs false
set_option linter.unusedVariables false
set_option maxRecDepth 100000
namespace Go.Proofs.YtlnmmakbgldflaaGreatDoor.Vc
open Go

section
variable {P : Program} {Ψ : Value → PH → Prop} {H : PH} {Φ : Next → PH → Prop} {ρ : Operand → Value}

theorem exec_append {x y : Operand} {ts : Array TypeId} {ty : TypeId} : wpS P (execOp ρ (bare (.call ⟨.builtin .append, #[x, y], ts⟩) ty)) Φ Ψ H = wpS P (Builtin.append_ ts ty #[ρ x, ρ y]) (fun v H' => Φ (.value v) H') Ψ H := by
  simp only [execOp, bare, resolve, wpS_bind', wpS_pure]
  simp only [invoke, List.map_toArray, List.map_cons, List.map_nil, builtin, wpS_bind', wpS_pure]
theorem exec_buildSlice {T ty : TypeId} {n : Nat} {ps : Array (Nat × Operand)} : wpS P (execOp ρ (bare (.buildSlice T n ps) ty)) Φ Ψ H = wpS P (Instr.buildSlice T n (ps.map fun (i, x) => (i, ρ x))) (fun v H' => Φ (.value v) H') Ψ H := by
  simp only [execOp, bare, wpS_bind', wpS_pure]
theorem wpS_buildSlice {T e : TypeId} {i : TypeInfo} {z : Value} {n : Nat} {ps : Array (Nat × Value)} {cells : Array Value} {Φ : Value → PH → Prop} (ht : P.underlying T = some (.slice e)) (hi : P.info? e = some i) (hz : i.zero = some z) (hn : n * i.size ≠ 0) (hle : n * i.size ≤ 2 ^ 24)
    (hf : Instr.fill (fun j => some (j * i.size, i.size)) ((Array.range (n * i.size)).map (z.cells[· % z.cells.size]!)) ps.toList = some cells)
    (hk : ∀ r, H r = none → Φ (.slice (some ⟨r, 0, none⟩) n n) (H.upd r (.cells cells e))) : wpS P (Instr.buildSlice T n ps) Φ Ψ H := by
  unfold Instr.buildSlice
  have hle' : ¬ n * i.size > 2 ^ 24 := by omega
  simp only [wpS_bind', wpS_underlying ht, wpS_sizeOf hi, if_neg hle', if_neg hn, wpS_zeroValue hi hz, wpS_pure, hf, wpS_newRow]
  exact hk
end
end Go.Proofs.YtlnmmakbgldflaaGreatDoor.Vc
