/-
  A CALL BESIDE WHAT IT DOES NOT TOUCH. No program in sight.
-/
import Derived.Test.YtlnmmakbgldflaaGreatDoorWf
set_option linter.unusedSimpArgs false
set_option linter.unusedVariables false
set_option maxRecDepth 100000
namespace Go.Proofs.YtlnmmakbgldflaaGreatDoor.Vc
open Go

/-- a block that a call does not know stays as it was -/
theorem Tri.frame {P : Program} {f : FuncId} {args : Array Value} {H : PH} {R : Ending → PH → Prop} {g : Nat} {o : Obj} (hg : H g = some o) (ht : Tri P f args (H.del g) R) :
    Tri P f args H fun e H' => ∃ K, R e K ∧ K g = none ∧ H' = K.upd g o := by
  intro w hv
  have hv' : Vis (H.del g) w := fun k x hk => hv k x (PH.del_le H g k x hk)
  have hlt := hv.lt hg
  refine (ht w hv').mono ?_
  rintro e w' ⟨K, ha, hr⟩
  obtain ⟨h1, h2⟩ := ha.old g hlt PH.del_none
  refine ⟨K.upd g o, ⟨ha.size, ?_, ?_, ha.os, ha.tape, ha.out⟩, K, hr, h2, rfl⟩
  · intro k x hk
    by_cases e : k = g
    · subst e; rw [PH.upd_same] at hk; cases hk; rw [h1]; exact hv _ _ hg
    · rw [PH.upd_other e] at hk; exact ha.vis k x hk
  · intro k hk hn
    have e : k ≠ g := fun e => by rw [e, hg] at hn; cases hn
    obtain ⟨g1, g2⟩ := ha.old k hk (by rw [PH.del_other e]; exact hn)
    exact ⟨g1, by rw [PH.upd_other e]; exact g2⟩
theorem delV_own {H0 H : PH} {α : Type} [Enc α] {e : TypeId} {l : List α} {v : Value} (h : Acc H0 H e l v) : (ob v = none ∧ delV v H = H) ∨ ∃ g o, ob v = some g ∧ H g = some o ∧ delV v H = H.del g := by
  obtain ⟨xs, ho, _⟩ := h.own
  rcases ho.2 with ⟨rfl, _⟩ | ⟨g, cap, cur, rfl, h1, _⟩
  · exact .inl ⟨rfl, rfl⟩
  · exact .inr ⟨g, _, rfl, h1, rfl⟩
/-- a call beside a row that grows -/
theorem Acc.call {α : Type} [Enc α] {P : Program} {f : FuncId} {args : Array Value} {H0 H : PH} {e : TypeId} {l : List α} {v : Value} {R : Ending → PH → Prop} (hacc : Acc H0 H e l v) (hR : ∀ e K, R e K → PH.le (delV v H) K) (ht : Tri P f args (delV v H) R) :
    Tri P f args H fun x H' => R x (delV v H') ∧ Acc H0 H' e l v ∧ PH.le H H' := by
  rcases delV_own hacc with ⟨h1, h2⟩ | ⟨g, o, h1, h2, h3⟩
  · have h3 : ∀ K, delV v K = K := fun K => by unfold delV; rw [h1]
    rw [h2] at ht hR
    exact ht.mono fun x K hr => ⟨by rw [h3]; exact hr, hacc.mono (hR x K hr), hR x K hr⟩
  · have h4 : ∀ K, delV v K = K.del g := fun K => by unfold delV; rw [h1]
    rw [h3] at ht hR
    refine (Tri.frame h2 ht).mono ?_
    rintro x H' ⟨K, hr, hn, rfl⟩
    have hle := hR x K hr
    have hK : (K.upd g o).del g = K := by
      funext k
      by_cases e : k = g
      · subst e; rw [PH.del_none, hn]
      · rw [PH.del_other e, PH.upd_other e]
    have hHH : PH.le H (K.upd g o) := by
      intro k x hk
      by_cases e : k = g
      · subst e; rw [h2] at hk; rw [PH.upd_same]; exact hk
      · rw [PH.upd_other e]; exact hle k x (by rw [PH.del_other e]; exact hk)
    exact ⟨by rw [h4, hK]; exact hr, hacc.mono hHH, hHH⟩

/-- A ROW LAID, of nothing. -/
theorem den_lit0 {P : Program} {α : Type} [Enc α] {H : PH} {e : TypeId} {X : List PanicEntry → PH → Prop} {β : Type} {E : List Value} {L : LK} {K : β → List Value → PH → LK → Prop} {T ty : TypeId} {b : Nat} {args : List (Nat × VE)} {k : Fm β}
    (hT : P.underlying T = some (.slice e)) (he : ElemOk P e (sz α) b = true) (hk : ∀ v H', Acc (α := α) H H' e [] v → PH.le H H' → den P X k (E ++ [v]) H' L K) : den P X (.sem (.buildSlice T 0 #[]) ty args (.sc .sl) [] k) E H L K := by
  obtain ⟨i, z, hi, i1, i2, i3, i4⟩ := ElemOk.info he
  show wpS P (execOp (argEv E args) (bare (.buildSlice T 0 #[]) ty)) _ _ H
  rw [exec_buildSlice]
  unfold Instr.buildSlice
  simp only [wpS_bind', wpS_underlying hT, wpS_sizeOf hi, Nat.zero_mul, wpS_pure, if_true]
  have hc : ¬ (0 > 2 ^ 24) := by omega
  rw [if_neg hc]
  have hf : Instr.fill (fun j => some (j * i.size, i.size)) ((Array.range 0).map fun x => (#[] : Array Value)[x % (#[] : Array Value).size]!) ((#[] : Array (Nat × Operand)).map fun x => (x.1, argEv E args x.2)).toList = some #[] := by simp [Instr.fill]
  simp only [wpS_bind', wpS_pure, hf, wpS_newRow]
  intro r hr
  have hacc : Acc (α := α) H (H.upd r (.cells #[] e)) e [] (.slice (some ⟨r, 0, none⟩) 0 0) :=
    Acc.new (l := []) (cs := []) hr (PH.le_refl H) (by simp [PV.RepRow]) rfl (by omega)
  exact ⟨[_], rfl, rfl, pendNil, hk _ _ hacc (PH.le_upd hr)⟩
end Go.Proofs.YtlnmmakbgldflaaGreatDoor.Vc
