/-
  A TEXT MADE BYTES; an interface value held against nil, and made. No program in sight.
-/
import Derived.Test.YtlnmmakbgldflaaGreatDoorWi
set_option linter.unusedSimpArgs false
set_option linter.unusedVariables false
set_option maxRecDepth 100000
namespace Go.Proofs.YtlnmmakbgldflaaGreatDoor.Vc
open Go

section
variable {P : Program} {Ψ : Value → PH → Prop} {H : PH} {ρ : Operand → Value}
/-- a text made bytes: a new row -/
theorem wpS_toBytes {s t e : TypeId} (hs : P.underlying s = some .string) (ht : P.underlying t = some (.slice e)) (he : P.underlying e = some (.int .u8)) {l : List UInt8} (hl : l.length ≤ maxLen) {Φ : Value → PH → Prop}
    (hk : ∀ r cap H', H r = none → PH.le H H' → l.length ≤ cap → cap ≤ maxLen → (∀ j u, (l.map fun b => Value.int .u8 (b.toNat : Int))[j]? = some u → H'.cell? ((⟨r, 0, none⟩ : Addr).add j) = some u) → Φ (.slice (some ⟨r, 0, none⟩) l.length cap) H') :
    wpS P (convert s t (.string ⟨l.toArray⟩)) Φ Ψ H := by
  unfold convert
  simp only [wpS_bind', wpS_underlying hs, wpS_underlying ht, wpS_underlying he]
  unfold Conv.stringToBytes
  have hsz : (⟨l.toArray⟩ : ByteArray).size = l.length := by simp [ByteArray.size]
  simp only [wpS_bind', wpS_newRow, hsz]
  rw [wpS_choose (q := .appendCap l.length 0 e) rfl]
  intro tp r hr
  have hcap : l.length ≤ Question.cut (.appendCap l.length 0 e) tp ∧ Question.cut (.appendCap l.length 0 e) tp ≤ maxLen := by
    simp only [Question.cut]
    simp only [maxLen] at hl ⊢
    have := Nat.mod_lt tp (show 0 < 2 ^ 63 - l.length by omega)
    omega
  generalize Question.cut (.appendCap l.length 0 e) tp = nc at hcap ⊢
  unfold markStringish
  simp only [wpS_bind']
  refine ⟨_, PH.upd_same, ?_⟩
  refine ⟨_, PH.upd_same, by decide, ?_⟩
  refine hk r nc _ hr ?_ hcap.1 hcap.2 ?_
  · intro k o hk
    have e : k ≠ r := fun e => by rw [e, hr] at hk; cases hk
    rw [PH.upd_other e, PH.upd_other e]; exact hk
  · intro j u hu
    have hj : j < l.length := by
      have := (List.getElem?_eq_some_iff.1 hu).1
      simpa using this
    rw [Addr.add_plain]
    unfold PH.cell?
    rw [PH.upd_same]
    simp only [PH.frzO, Option.bind_some, Nat.zero_add]
    rw [Array.getElem?_append_left (by simpa using hj)]
    simpa using hu
theorem exec_mkIface {T ty : TypeId} {x : Operand} {Φ : Next → PH → Prop} : wpS P (execOp ρ (bare (.makeInterface T x) ty)) Φ Ψ H = wpS P (Instr.makeInterface T (ρ x)) (fun v H' => Φ (.value v) H') Ψ H := by
  simp only [execOp, bare, wpS_bind', wpS_pure]
/-- an interface value's being nil -/
def isNilI : Value → Bool
  | .nilIface => true
  | _ => false
def IfaceV (v : Value) : Prop := v = .nilIface ∨ ∃ T u, v = .iface T u
end
section
variable {P : Program} {X : List PanicEntry → PH → Prop} {β : Type} {E : List Value} {L : LK} {K : β → List Value → PH → LK → Prop} {H : PH}
theorem den_neqNil {t U ty : TypeId} {ms} {v : Value} {x : Operand} {args : List (Nat × VE)} {k : Fm β} (ht : P.underlying t = some (.interface ms)) (hx : argEv E args x = v) (hv : IfaceV v)
    (hk : den P X k (E ++ [.bool (!isNilI v)]) H L K) : den P X (.sem (.binOp .neq t x (.const .nilIface) U) ty args (.sc .bool) [] k) E H L K := by
  show wpS P (execOp (argEv E args) (bare _ ty)) _ _ H
  rw [exec_binOp, hx]
  have hc : argEv E args (.const .nilIface) = .nilIface := rfl
  rw [hc]
  have h1 : wpS P (binOp .neq t v .nilIface) (fun v H' => nextPost (.sc .bool) [] E (fun E' H' => den P X k E' H' L K) (.value v) H') (fun v H' => X [{ v, recovered := false }] H') H := by
    have hbool : ∀ b : Bool, b = (!isNilI v) → nextPost (.sc .bool) [] E (fun E' H' => den P X k E' H' L K) (.value (.bool b)) H := fun b hb => by
      subst hb
      exact ⟨[_], rfl, rfl, pendNil, hk⟩
    have hb2 : binOp .neq t v .nilIface = (do pure (.bool (!(← Op.equal t v .nilIface)))) := by
      rcases hv with rfl | ⟨T, u, rfl⟩ <;> rfl
    rw [hb2, wpS_bind']
    show wpS P (Op.equalIn 10000 t v .nilIface) _ _ H
    unfold Op.equalIn
    rcases hv with rfl | ⟨T, u, rfl⟩ <;> simp only [wpS_bind', wpS_underlying ht, wpS_pure] <;> exact hbool _ rfl
  rcases hv with rfl | ⟨T, u, rfl⟩
  · cases x <;> exact h1
  · exact h1
theorem den_mkIface {T ty : TypeId} {kk : IntKind} {c : Value} {args : List (Nat × VE)} {k : Fm β} (ht : P.underlying T = some (.int kk)) (hk : den P X k (E ++ [.iface T c]) H L K) : den P X (.sem (.makeInterface T (.const c)) ty args (.sc .any) [] k) E H L K := by
  show wpS P (execOp (argEv E args) (bare _ ty)) _ _ H
  rw [exec_mkIface]
  unfold Instr.makeInterface
  simp only [wpS_bind', wpS_underlying ht, wpS_pure]
  exact ⟨[_], rfl, rfl, pendNil, hk⟩
end
end Go.Proofs.YtlnmmakbgldflaaGreatDoor.Vc
