/-
  PARTIAL HEAPS. What an operation does, told over a part of the heap, and that this is what the model does. No program in sight.
-/
import Derived.WalkKit
set_option linter.unusedSimpArgs false
set_option linter.unusedVariables false
set_option maxRecDepth 100000
namespace Go.Proofs.YtlnmmakbgldflaaGreatDoor.Vc
open Go

abbrev PH := Nat → Option Obj

namespace PH
def upd (H : PH) (r : Nat) (o : Obj) : PH := fun k => if k = r then some o else H k
def cell? (H : PH) (a : Addr) : Option Value :=
  match H a.block with
  | some (.cells c _ _) => if a.spot.isSome then none else c[a.off]?
  | _ => none
def setC (a : Addr) (v : Value) : Obj → Obj
  | .cells c e f => .cells (if a.spot.isSome then c else c.setIfInBounds a.off v) e f
  | o => o
def frozenO (a : Addr) : Obj → Bool
  | .cells _ _ (lo, hi) => lo ≤ a.off && a.off < hi
  | _ => false
def frzO (a : Addr) (n : Nat) : Obj → Obj
  | .cells c e (lo, hi) => .cells c e (if lo == hi then (a.off, a.off + n) else (min lo a.off, max hi (a.off + n)))
  | o => o
def shapeO : Obj → Option (TypeId × Nat)
  | .cells c e _ => some (e, c.size)
  | _ => none
def isCells : Obj → Bool
  | .cells .. => true
  | _ => false
/-- H' holds all that H holds. -/
def le (H H' : PH) : Prop := ∀ k o, H k = some o → H' k = some o
theorem le_refl (H : PH) : le H H := fun _ _ h => h
theorem le_trans {A B C : PH} (h : le A B) (k : le B C) : le A C := fun _ _ x => k _ _ (h _ _ x)
theorem le_upd {H : PH} {r : Nat} {o : Obj} (h : H r = none) : le H (H.upd r o) := fun k o' hk => by
  unfold upd
  by_cases e : k = r
  · subst e; rw [h] at hk; cases hk
  · rw [if_neg e]; exact hk
theorem upd_same {H : PH} {r : Nat} {o : Obj} : (H.upd r o) r = some o := by simp [upd]
theorem upd_other {H : PH} {r k : Nat} {o : Obj} (h : k ≠ r) : (H.upd r o) k = H k := by simp [upd, h]
theorem cell_le {H H' : PH} (h : le H H') {a : Addr} {v : Value} (hc : cell? H a = some v) : cell? H' a = some v := by
  unfold cell? at *
  cases hb : H a.block with
  | none => simp [hb] at hc
  | some o => rw [hb] at hc; rw [h _ _ hb]; exact hc
end PH

/-- The part H of the heap lies in the world. -/
def Vis (H : PH) (w : World) : Prop := ∀ k o, H k = some o → w.heap[k]? = some o

/-- From (H, w) to (H', w'): what is not in H has not been touched, and is not in H'. -/
structure Adv (H : PH) (w : World) (H' : PH) (w' : World) : Prop where
  size : w.heap.size ≤ w'.heap.size
  vis : Vis H' w'
  old : ∀ k, k < w.heap.size → H k = none → w'.heap[k]? = w.heap[k]? ∧ H' k = none
  os : w'.os = w.os
  tape : w'.tape = w.tape
  out : w'.output = w.output

theorem Adv.refl {H : PH} {w : World} (h : Vis H w) : Adv H w H w := ⟨Nat.le_refl _, h, fun _ _ hk => ⟨rfl, hk⟩, rfl, rfl, rfl⟩
theorem Adv.trans {H1 H2 H3 : PH} {w1 w2 w3 : World} (h : Adv H1 w1 H2 w2) (k : Adv H2 w2 H3 w3) : Adv H1 w1 H3 w3 :=
  ⟨Nat.le_trans h.size k.size, k.vis,
    fun i hi hn => let ⟨a, b⟩ := h.old i hi hn; let ⟨c, d⟩ := k.old i (Nat.lt_of_lt_of_le hi h.size) b; ⟨c.trans a, d⟩,
    k.os.trans h.os, k.tape.trans h.tape, k.out.trans h.out⟩

theorem Vis.lt {H : PH} {w : World} (h : Vis H w) {k : Nat} {o : Obj} (hk : H k = some o) : k < w.heap.size := by
  have := h k o hk
  rcases Nat.lt_or_ge k w.heap.size with h | h
  · exact h
  · simp [Array.getElem?_eq_none h] at this
theorem Vis.new {H : PH} {w : World} (h : Vis H w) : H w.heap.size = none := by
  cases hk : H w.heap.size with
  | none => rfl
  | some o => have := h.lt hk; omega
theorem Vis.cell {H : PH} {w : World} (h : Vis H w) {a : Addr} {v : Value} (hc : H.cell? a = some v) : w.cell? a = some v := by
  unfold PH.cell? at hc
  unfold World.cell?
  cases hb : H a.block with
  | none => simp [hb] at hc
  | some o => rw [hb] at hc; rw [h _ _ hb]; exact hc

/-- one block of H set to o, in the world too -/
theorem Adv.put {H : PH} {w w' : World} (h : Vis H w) {r : Nat} {o o' : Obj} (hr : H r = some o)
    (hs : w'.heap.size = w.heap.size) (hh : ∀ k, w'.heap[k]? = if k = r then some o' else w.heap[k]?) (h1 : w'.os = w.os) (h2 : w'.tape = w.tape) (h3 : w'.output = w.output) :
    Adv H w (H.upd r o') w' := by
  refine ⟨by omega, ?_, ?_, h1, h2, h3⟩
  · intro k x hk
    rw [hh]
    unfold PH.upd at hk
    by_cases e : k = r
    · rw [if_pos e] at hk ⊢; exact hk
    · rw [if_neg e] at hk ⊢; exact h _ _ hk
  · intro k _ hn
    have e : k ≠ r := fun e => by rw [e, hr] at hn; cases hn
    exact ⟨by rw [hh, if_neg e], by rw [PH.upd_other e]; exact hn⟩

/-- a value of one cell -/
def oneC : Value → Bool
  | .agg _ => false
  | .tuple _ => false
  | _ => true

/-- WHAT A SEMANTIC PROGRAM DOES, told over a part of the heap: it ends with a value that meets Φ, or panics with one that meets Ψ. -/
def wpS (P : Program) {α : Type} : Sem α → (α → PH → Prop) → (Value → PH → Prop) → PH → Prop
  | .pure a, Φ, _, H => Φ a H
  | .load _ a k, Φ, Ψ, H => ∃ v, H.cell? a = some v ∧ wpS P (k v) Φ Ψ H
  | .store _ a v k, Φ, Ψ, H => oneC v = true ∧ ∃ o u, H a.block = some o ∧ H.cell? a = some u ∧ PH.frozenO a o = false ∧ wpS P k Φ Ψ (H.upd a.block (PH.setC a v o))
  | .new o k, Φ, Ψ, H => ∀ r, H r = none → wpS P (k r) Φ Ψ (H.upd r o)
  | .shape r k, Φ, Ψ, H => ∃ o, H r = some o ∧ wpS P (k (PH.shapeO o)) Φ Ψ H
  | .freeze a n k, Φ, Ψ, H => ∃ o, H a.block = some o ∧ n ≠ 0 ∧ wpS P k Φ Ψ (H.upd a.block (PH.frzO a n o))
  | .frozen a k, Φ, Ψ, H => ∃ o, H a.block = some o ∧ wpS P (k (PH.frozenO a o)) Φ Ψ H
  | .getObj r k, Φ, Ψ, H => ∃ o, H r = some o ∧ PH.isCells o = false ∧ wpS P (k o) Φ Ψ H
  | .setObj r o' k, Φ, Ψ, H => ∃ o, H r = some o ∧ PH.isCells o = false ∧ wpS P k Φ Ψ (H.upd r o')
  | .choose q k, Φ, Ψ, H => (q.forced = true → wpS P (k 0) Φ Ψ H) ∧ (q.forced = false → ∀ t, wpS P (k (q.cut t)) Φ Ψ H)
  | .sys _ _, _, _, _ => False
  | .program k, Φ, Ψ, H => wpS P (k P) Φ Ψ H
  | .mark _ k, Φ, Ψ, H => wpS P k Φ Ψ H
  | .halt (.panic v), _, Ψ, H => Ψ v H
  | .halt _, _, _, _ => False

def Ran (P : Program) {α : Type} (s : Sem α) (H : PH) (w : World) (Φ : α → PH → Prop) (Ψ : Value → PH → Prop) : Prop :=
  (∃ a w' H', s.run P w = .ok a w' ∧ Adv H w H' w' ∧ Φ a H') ∨ (∃ v w' H', s.run P w = .halt (.panic v) w' ∧ Adv H w H' w' ∧ Ψ v H')

theorem Ran.step {P : Program} {α : Type} {s s' : Sem α} {H H' : PH} {w w' : World} {Φ : α → PH → Prop} {Ψ : Value → PH → Prop}
    (hr : s.run P w = s'.run P w') (ha : Adv H w H' w') (h : Ran P s' H' w' Φ Ψ) : Ran P s H w Φ Ψ := by
  rcases h with ⟨a, w2, H2, h1, h2, h3⟩ | ⟨a, w2, H2, h1, h2, h3⟩
  · exact .inl ⟨a, w2, H2, hr.trans h1, ha.trans h2, h3⟩
  · exact .inr ⟨a, w2, H2, hr.trans h1, ha.trans h2, h3⟩

theorem wpS_ran {P : Program} {α : Type} (s : Sem α) : ∀ (Φ : α → PH → Prop) (Ψ : Value → PH → Prop) (H : PH) (w : World), Vis H w → wpS P s Φ Ψ H → Ran P s H w Φ Ψ := by
  induction s with
  | pure a => intro Φ Ψ H w hv h; exact .inl ⟨a, w, H, rfl, .refl hv, h⟩
  | load m a k ih =>
    intro Φ Ψ H w hv h
    obtain ⟨v, hc, h⟩ := h
    exact Ran.step (by simp [Sem.run, hv.cell hc]) (.refl hv) (ih v Φ Ψ H w hv h)
  | store m a v k ih =>
    intro Φ Ψ H w hv h
    obtain ⟨h1c, o, u, hb, hc, hf, h⟩ := h
    have hz : w.frozen? a = false := by
      unfold World.frozen?
      rw [hv _ _ hb]
      cases o <;> first | rfl | exact hf
    have hget : ∀ k : Nat, (w.setCell a v).heap[k]? = if k = a.block then some (PH.setC a v o) else w.heap[k]? := by
      intro k
      simp only [World.setCell, Array.getElem?_modify]
      by_cases e : k = a.block
      · rw [if_pos e, if_pos e.symm, e, hv _ _ hb]; cases o <;> rfl
      · rw [if_neg e, if_neg (Ne.symm e)]
    have hadv := Adv.put (w' := w.setCell a v) hv hb (by simp [World.setCell]) hget rfl rfl rfl
    have hrun : Sem.run P (.store m a v k) w = Sem.run P k (w.setCell a v) := by
      cases v with
      | agg c => exact absurd h1c Bool.false_ne_true
      | tuple c => exact absurd h1c Bool.false_ne_true
      | _ => simp only [Sem.run, hv.cell hc, hz, Bool.false_eq_true, if_false]
    exact Ran.step hrun hadv (ih Φ Ψ _ _ hadv.vis h)
  | new o k ih =>
    intro Φ Ψ H w hv h
    have hv' : Vis (H.upd w.heap.size o) { w with heap := w.heap.push o } := by
      intro j x hj
      unfold PH.upd at hj
      show (w.heap.push o)[j]? = some x
      rw [Array.getElem?_push]
      by_cases e : j = w.heap.size
      · rw [if_pos e] at hj; rw [if_pos e]; exact hj
      · rw [if_neg e] at hj; rw [if_neg e]; exact hv _ _ hj
    refine Ran.step (s' := k w.heap.size) (w' := { w with heap := w.heap.push o }) (by simp [Sem.run]) ⟨by simp, hv', ?_, rfl, rfl, rfl⟩ (ih _ Φ Ψ _ _ hv' (h _ hv.new))
    intro j hj hn
    refine ⟨?_, by rw [PH.upd_other (by omega)]; exact hn⟩
    show (w.heap.push o)[j]? = _
    rw [Array.getElem?_push, if_neg (by omega)]
  | shape r k ih =>
    intro Φ Ψ H w hv h
    obtain ⟨o, hb, h⟩ := h
    have e : w.shape? r = PH.shapeO o := by unfold World.shape?; rw [hv _ _ hb]; cases o <;> rfl
    exact Ran.step (by simp [Sem.run, e]) (.refl hv) (ih _ Φ Ψ H w hv h)
  | freeze a n k ih =>
    intro Φ Ψ H w hv h
    obtain ⟨o, hb, hn, h⟩ := h
    have hget : ∀ k : Nat, (w.freeze a n).heap[k]? = if k = a.block then some (PH.frzO a n o) else w.heap[k]? := by
      intro k
      simp only [World.freeze, if_neg hn, Array.getElem?_modify]
      by_cases e : k = a.block
      · rw [if_pos e, if_pos e.symm, e, hv _ _ hb]; cases o <;> rfl
      · rw [if_neg e, if_neg (Ne.symm e)]
    have hadv := Adv.put (w' := w.freeze a n) hv hb (by simp [World.freeze, if_neg hn]) hget (by simp [World.freeze, if_neg hn]) (by simp [World.freeze, if_neg hn]) (by simp [World.freeze, if_neg hn])
    exact Ran.step (by simp [Sem.run]) hadv (ih Φ Ψ _ _ hadv.vis h)
  | frozen a k ih =>
    intro Φ Ψ H w hv h
    obtain ⟨o, hb, h⟩ := h
    have e : w.frozen? a = PH.frozenO a o := by unfold World.frozen?; rw [hv _ _ hb]; cases o <;> rfl
    exact Ran.step (by simp [Sem.run, e]) (.refl hv) (ih _ Φ Ψ H w hv h)
  | getObj r k ih =>
    intro Φ Ψ H w hv h
    obtain ⟨o, hb, hc, h⟩ := h
    refine Ran.step (s' := k o) (w' := w) ?_ (.refl hv) (ih _ Φ Ψ H w hv h)
    simp only [Sem.run, hv _ _ hb]
    cases o <;> first | rfl | simp [PH.isCells] at hc
  | setObj r o' k ih =>
    intro Φ Ψ H w hv h
    obtain ⟨o, hb, hc, h⟩ := h
    have hlt := hv.lt hb
    have hget : ∀ k : Nat, ({ w with heap := w.heap.setIfInBounds r o' } : World).heap[k]? = if k = r then some o' else w.heap[k]? := by
      intro k
      show (w.heap.setIfInBounds r o')[k]? = _
      rw [Array.getElem?_setIfInBounds]
      by_cases e : k = r
      · rw [if_pos e, if_pos e.symm, if_pos (by omega)]
      · rw [if_neg e, if_neg (Ne.symm e)]
    have hadv := Adv.put (w' := { w with heap := w.heap.setIfInBounds r o' }) hv hb (by simp) hget rfl rfl rfl
    refine Ran.step (s' := k) ?_ hadv (ih Φ Ψ _ _ hadv.vis h)
    simp only [Sem.run, hv _ _ hb]
    cases o <;> first | rfl | simp [PH.isCells] at hc
  | choose q k ih =>
    intro Φ Ψ H w hv h
    cases hq : q.forced with
    | true => exact Ran.step (by simp [Sem.run, hq]) (.refl hv) (ih _ Φ Ψ H w hv (h.1 hq))
    | false =>
      have hv' : Vis H { w with drawn := w.drawn + 1 } := hv
      exact Ran.step (w' := { w with drawn := w.drawn + 1 }) (by simp only [Sem.run, hq, Bool.false_eq_true, if_false]) ⟨Nat.le_refl _, hv', fun _ _ hn => ⟨rfl, hn⟩, rfl, rfl, rfl⟩ (ih _ Φ Ψ H _ hv' (h.2 hq (w.tape w.drawn q)))
  | sys c k ih => intro Φ Ψ H w hv h; exact h.elim
  | program k ih => intro Φ Ψ H w hv h; exact Ran.step (by simp [Sem.run]) (.refl hv) (ih _ Φ Ψ H w hv h)
  | mark m k ih => intro Φ Ψ H w hv h; exact Ran.step (by simp [Sem.run]) (.refl hv) (ih Φ Ψ H w hv h)
  | halt x =>
    intro Φ Ψ H w hv h
    cases x <;> first
      | exact h.elim
      | exact .inr ⟨_, w, H, rfl, .refl hv, h⟩

theorem wpS_mono {P : Program} {α : Type} (s : Sem α) : ∀ {Φ Φ' : α → PH → Prop} {Ψ Ψ' : Value → PH → Prop} {H : PH}, (∀ a H, Φ a H → Φ' a H) → (∀ v H, Ψ v H → Ψ' v H) → wpS P s Φ Ψ H → wpS P s Φ' Ψ' H := by
  induction s with
  | pure a => intro _ _ _ _ H h1 h2 h; exact h1 _ _ h
  | load m a k ih => intro _ _ _ _ H h1 h2 h; obtain ⟨v, hc, h⟩ := h; exact ⟨v, hc, ih v h1 h2 h⟩
  | store m a v k ih =>
    intro _ _ _ _ H h1 h2 h
    obtain ⟨x0, o, u, x1, x2, x3, h⟩ := h
    exact ⟨x0, o, u, x1, x2, x3, ih h1 h2 h⟩
  | new o k ih => intro _ _ _ _ H h1 h2 h; exact fun r hr => ih r h1 h2 (h r hr)
  | shape r k ih => intro _ _ _ _ H h1 h2 h; obtain ⟨o, hb, h⟩ := h; exact ⟨o, hb, ih _ h1 h2 h⟩
  | freeze a n k ih => intro _ _ _ _ H h1 h2 h; obtain ⟨o, hb, hn, h⟩ := h; exact ⟨o, hb, hn, ih h1 h2 h⟩
  | frozen a k ih => intro _ _ _ _ H h1 h2 h; obtain ⟨o, hb, h⟩ := h; exact ⟨o, hb, ih _ h1 h2 h⟩
  | getObj r k ih => intro _ _ _ _ H h1 h2 h; obtain ⟨o, hb, hc, h⟩ := h; exact ⟨o, hb, hc, ih _ h1 h2 h⟩
  | setObj r o' k ih => intro _ _ _ _ H h1 h2 h; obtain ⟨o, hb, hc, h⟩ := h; exact ⟨o, hb, hc, ih h1 h2 h⟩
  | choose q k ih => intro _ _ _ _ H h1 h2 h; exact ⟨fun e => ih _ h1 h2 (h.1 e), fun e t => ih _ h1 h2 (h.2 e t)⟩
  | sys c k ih => intro _ _ _ _ H h1 h2 h; exact h.elim
  | program k ih => intro _ _ _ _ H h1 h2 h; exact ih _ h1 h2 h
  | mark m k ih => intro _ _ _ _ H h1 h2 h; exact ih h1 h2 h
  | halt x =>
    intro _ _ _ _ H h1 h2 h
    cases x <;> first
      | exact h.elim
      | exact h2 _ _ h

theorem wpS_bind {P : Program} {α β : Type} (s : Sem α) (f : α → Sem β) : ∀ {Φ : β → PH → Prop} {Ψ : Value → PH → Prop} {H : PH},
    wpS P (s.bind f) Φ Ψ H ↔ wpS P s (fun a H' => wpS P (f a) Φ Ψ H') Ψ H := by
  induction s with
  | pure a => intro _ _ _; exact Iff.rfl
  | load m a k ih => intro _ _ _; exact ⟨fun ⟨v, hc, h⟩ => ⟨v, hc, (ih v).1 h⟩, fun ⟨v, hc, h⟩ => ⟨v, hc, (ih v).2 h⟩⟩
  | store m a v k ih =>
    intro _ _ _
    exact ⟨fun ⟨x0, o, u, x1, x2, x3, h⟩ => ⟨x0, o, u, x1, x2, x3, ih.1 h⟩, fun ⟨x0, o, u, x1, x2, x3, h⟩ => ⟨x0, o, u, x1, x2, x3, ih.2 h⟩⟩
  | new o k ih => intro _ _ _; exact ⟨fun h r hr => (ih r).1 (h r hr), fun h r hr => (ih r).2 (h r hr)⟩
  | shape r k ih => intro _ _ _; exact ⟨fun ⟨o, hb, h⟩ => ⟨o, hb, (ih _).1 h⟩, fun ⟨o, hb, h⟩ => ⟨o, hb, (ih _).2 h⟩⟩
  | freeze a n k ih => intro _ _ _; exact ⟨fun ⟨o, hb, hn, h⟩ => ⟨o, hb, hn, ih.1 h⟩, fun ⟨o, hb, hn, h⟩ => ⟨o, hb, hn, ih.2 h⟩⟩
  | frozen a k ih => intro _ _ _; exact ⟨fun ⟨o, hb, h⟩ => ⟨o, hb, (ih _).1 h⟩, fun ⟨o, hb, h⟩ => ⟨o, hb, (ih _).2 h⟩⟩
  | getObj r k ih => intro _ _ _; exact ⟨fun ⟨o, hb, hn, h⟩ => ⟨o, hb, hn, (ih _).1 h⟩, fun ⟨o, hb, hn, h⟩ => ⟨o, hb, hn, (ih _).2 h⟩⟩
  | setObj r o' k ih => intro _ _ _; exact ⟨fun ⟨o, hb, hn, h⟩ => ⟨o, hb, hn, ih.1 h⟩, fun ⟨o, hb, hn, h⟩ => ⟨o, hb, hn, ih.2 h⟩⟩
  | choose q k ih => intro _ _ _; exact ⟨fun h => ⟨fun e => (ih _).1 (h.1 e), fun e t => (ih _).1 (h.2 e t)⟩, fun h => ⟨fun e => (ih _).2 (h.1 e), fun e t => (ih _).2 (h.2 e t)⟩⟩
  | sys c k ih => intro _ _ _; exact Iff.rfl
  | program k ih => intro _ _ _; exact ih _
  | mark m k ih => intro _ _ _; exact ih
  | halt x => intro _ _ _; cases x <;> exact Iff.rfl

/-- A CALL, told over a part of the heap. -/
def Tri (P : Program) (f : FuncId) (args : Array Value) (H : PH) (R : Ending → PH → Prop) : Prop :=
  ∀ w, Vis H w → Calls P f args w fun e w' => ∃ H', Adv H w H' w' ∧ R e H'

theorem Tri.mono {P : Program} {f : FuncId} {args : Array Value} {H : PH} {R R' : Ending → PH → Prop} (h : Tri P f args H R) (hr : ∀ e H', R e H' → R' e H') : Tri P f args H R' :=
  fun w hv => (h w hv).mono fun _ _ ⟨H', ha, r⟩ => ⟨H', ha, hr _ _ r⟩

end Go.Proofs.YtlnmmakbgldflaaGreatDoor.Vc
