/-
  ROWS THAT ARE WRITTEN INTO, over a part of the heap that stands: what rows hold lies in S; a row's own block does not. No program in sight.
-/
import Derived.Test.YtlnmmakbgldflaaGreatDoorWh
set_option linter.unusedSimpArgs false
set_option linter.unusedVariables false
set_option maxRecDepth 100000
namespace Go.Proofs.YtlnmmakbgldflaaGreatDoor.Vc
open Go

/-- A CALL, told over a part of what is known: what it does not know stays. -/
theorem Tri.within {P : Program} {f : FuncId} {args : Array Value} {S H : PH} {R : Ending → PH → Prop} (hS : PH.le S H) (ht : Tri P f args S R) :
    Tri P f args H fun e H' => ∃ K, R e K ∧ PH.le K H' ∧ ∀ k, S k = none → H k ≠ none → K k = none ∧ H' k = H k := by
  intro w hv
  have hv' : Vis S w := fun k x hk => hv k x (hS k x hk)
  refine (ht w hv').mono ?_
  rintro e w' ⟨K, ha, hr⟩
  have hlt : ∀ k, H k ≠ none → k < w.heap.size := fun k hk => by
    cases h : H k with
    | none => exact absurd h hk
    | some o => exact hv.lt h
  refine ⟨fun k => if S k = none then (match H k with | some o => some o | none => K k) else K k, ⟨ha.size, ?_, ?_, ha.os, ha.tape, ha.out⟩, K, hr, ?_, ?_⟩
  · intro k x hk
    dsimp only at hk
    split at hk
    · rename_i hs
      split at hk
      · rename_i o ho
        cases hk
        rw [(ha.old k (hlt k (by rw [ho]; exact fun h => by cases h)) hs).1]
        exact hv k x ho
      · exact ha.vis k x hk
    · exact ha.vis k x hk
  · intro k hk hn
    have hs : S k = none := by
      cases h : S k with
      | none => rfl
      | some o => rw [hS k o h] at hn; cases hn
    obtain ⟨h1, h2⟩ := ha.old k hk hs
    refine ⟨h1, ?_⟩
    show (if S k = none then (match H k with | some o => some o | none => K k) else K k) = none
    rw [if_pos hs, hn]; exact h2
  · intro k o hk
    show (if S k = none then (match H k with | some o => some o | none => K k) else K k) = some o
    by_cases hs : S k = none
    · rw [if_pos hs]
      cases ho : H k with
      | none => exact hk
      | some o' =>
        have := (ha.old k (hlt k (by rw [ho]; exact fun h => by cases h)) hs).2
        rw [this] at hk; cases hk
    · rw [if_neg hs]; exact hk
  · intro k hs ho
    refine ⟨(ha.old k (hlt k ho) hs).2, ?_⟩
    show (if S k = none then (match H k with | some o => some o | none => K k) else K k) = H k
    rw [if_pos hs]
    cases h : H k with
    | none => exact absurd h ho
    | some o => rfl
/-- what stands grows, and what is known; what is new was in neither -/
structure Ext (S H S' H' : PH) : Prop where
  s : PH.le S S'
  h : PH.le H H'
  i : PH.le S' H'
  n : ∀ k, S k = none → S' k ≠ none → H k = none
theorem Ext.refl {S H : PH} (h : PH.le S H) : Ext S H S H := ⟨PH.le_refl _, PH.le_refl _, h, fun _ h1 h2 => absurd h1 h2⟩
theorem Ext.of_le {S H H' : PH} (hS : PH.le S H) (h : PH.le H H') : Ext S H S H' := ⟨PH.le_refl _, h, PH.le_trans hS h, fun _ h1 h2 => absurd h1 h2⟩
theorem PH.none_of_le {H H' : PH} (h : PH.le H H') {k : Nat} (hk : H' k = none) : H k = none := by
  cases x : H k with
  | none => rfl
  | some o => rw [h k o x] at hk; cases hk
theorem Ext.trans {A B C X Y Z : PH} (a : Ext A X B Y) (b : Ext B Y C Z) : Ext A X C Z :=
  ⟨PH.le_trans a.s b.s, PH.le_trans a.h b.h, b.i, fun k h1 h2 => by
    cases h : B k with
    | none => exact PH.none_of_le a.h (b.n k h h2)
    | some o => exact a.n k h1 (by rw [h]; exact fun e => by cases e)⟩
/-- a call that leaves what stands -/
theorem Tri.ext {P : Program} {f : FuncId} {args : Array Value} {S H : PH} {R : Ending → PH → Prop} (hS : PH.le S H) (hR : ∀ e K, R e K → PH.le S K) (ht : Tri P f args S R) :
    Tri P f args H fun e H' => ∃ K, R e K ∧ Ext S H K H' := by
  refine (Tri.within hS ht).mono ?_
  rintro e H' ⟨K, hr, h1, h2⟩
  have h0 := hR e K hr
  refine ⟨K, hr, h0, ?_, h1, ?_⟩
  · intro k o hk
    cases hs : S k with
    | none => rw [(h2 k hs (by rw [hk]; exact fun e => by cases e)).2]; exact hk
    | some o' =>
      have := hS k o' hs
      rw [hk] at this; cases this
      exact h1 k o (h0 k o hs)
  · intro k hs hk
    cases h : H k with
    | none => rfl
    | some o => exact absurd (h2 k hs (by rw [h]; exact fun e => by cases e)).1 hk
theorem Gives.up {P : Program} {f : FuncId} {args : List Value} {S H : PH} {v : Value} (hS : PH.le S H) (h : Gives P f args S v) : Gives P f args H v := by
  refine (Tri.ext hS (fun e K hk => hk.2) h).mono ?_
  rintro e H' ⟨K, ⟨h1, _⟩, hx⟩
  exact ⟨h1, hx.h⟩

section
variable {α : Type} [Enc α] {S S' H H' : PH} {e : TypeId} {l : List α} {v : Value}
/-- A ROW OF ITS OWN: its block lies in H; what it holds lies in S, which has not the block. -/
structure Row (S H : PH) (e : TypeId) (l : List α) (v : Value) : Prop where
  off : ∀ g, ob v = some g → S g = none
  own : ∃ xs, Own H e (sz α) v l.length xs ∧ PV.RepRow S (l.flatMap pv) xs
theorem Row.dwell (h : Row S H e l v) {g : Nat} (hg : ob v = some g) : H g ≠ none := by
  obtain ⟨xs, ho, _⟩ := h.own
  rcases ho.2 with ⟨rfl, _⟩ | ⟨g', cap, cur, rfl, h1, _⟩
  · cases hg
  · simp only [ob, Option.some.injEq] at hg
    subst hg; rw [h1]; exact fun h => by cases h
theorem Row.acc (hS : PH.le S H) (h : Row S H e l v) : Acc S H e l v := by
  have hd : PH.le S (delV v H) := by
    intro k o hk
    rw [delV_at]
    · exact hS k o hk
    · intro hv; rw [h.off k hv] at hk; cases hk
  obtain ⟨xs, h1, h2⟩ := h.own
  exact ⟨hd, xs, h1, PV.RepRow.le hd h2⟩
theorem Row.ext (h : Row S H e l v) (x : Ext S H S' H') : Row S' H' e l v := by
  obtain ⟨xs, h1, h2⟩ := h.own
  refine ⟨fun g hg => ?_, xs, ?_, PV.RepRow.le x.s h2⟩
  · cases hs : S' g with
    | none => rfl
    | some o => exact absurd (x.n g (h.off g hg) (by rw [hs]; exact fun e => by cases e)) (h.dwell hg)
  · refine ⟨h1.1, ?_⟩
    rcases h1.2 with h | ⟨g, cap, cur, rfl, h3, h4⟩
    · exact .inl h
    · exact .inr ⟨g, cap, cur, rfl, x.h _ _ h3, h4⟩
theorem Row.nil (S H : PH) (e : TypeId) : Row (α := α) S H e [] (.slice none 0 0) := ⟨fun g hg => (by cases hg), [], Own.nil _ _ _, by simp [PV.RepRow]⟩
theorem Row.empty (hS : PH.le S H) (h : Acc (α := α) H H' e [] v) : Row (α := α) S H' e [] v := by
  obtain ⟨xs, h1, h2⟩ := h.own
  refine ⟨fun g hg => ?_, xs, h1, ?_⟩
  · cases hs : S g with
    | none => rfl
    | some o =>
      have h3 := h.le g o (hS g o hs)
      simp only [delV, hg] at h3
      rw [PH.del_none] at h3; cases h3
  · have : xs = [] := List.length_eq_zero_iff.1 (by rw [h1.1]; simp)
    subst this
    simp [PV.RepRow]
theorem Row.max (h : Row S H e l v) : l.length ≤ maxLen := by
  obtain ⟨xs, h1, h2⟩ := h.own
  rcases h1.2 with ⟨rfl, hz⟩ | ⟨g, cap, cur, rfl, h3, h4, h5, _⟩
  · omega
  · omega
theorem Row.sl (h : Row S H e l v) : ∃ b c, v = .slice b l.length c := by
  obtain ⟨xs, h1, h2⟩ := h.own; exact h1.slice
theorem Row.slR (hS : PH.le S H) (h : Row S H e l v) : SlR H l v := (h.acc hS).slR
/-- where another row goes on, this one stands -/
theorem Row.went {u u' : Value} (h : Row S H e l v) (w : Went H H' u u') (hn : ob v ≠ ob u ∨ ob v = none) : Row S H' e l v := by
  obtain ⟨xs, h1, h2⟩ := h.own
  refine ⟨h.off, xs, ⟨h1.1, ?_⟩, h2⟩
  rcases h1.2 with h | ⟨g, cap, cur, rfl, h3, h4⟩
  · exact .inl h
  · refine .inr ⟨g, cap, cur, rfl, w.keep _ _ h3 ?_, h4⟩
    rcases hn with hn | hn
    · exact hn
    · cases hn
theorem Row.apart {u u' : Value} (h : Row S H e l v) (w : Went H H' u u') (hn : ob v ≠ ob u ∨ ob v = none) : ob v ≠ ob u' ∨ ob v = none := by
  cases hv : ob v with
  | none => exact .inr rfl
  | some g =>
    refine .inl fun hu => ?_
    rcases w.fresh g hu.symm with h1 | h1
    · rcases hn with hn | hn
      · exact hn (by rw [hv, h1])
      · rw [hv] at hn; cases hn
    · exact h.dwell hv h1
/-- frozen: it stands too -/
theorem Row.freeze (hS : PH.le S H) (h : Row S H e l v) : ∃ S', SlR S' l v ∧ PH.le S S' ∧ PH.le S' H ∧ ∀ k, S k = none → S' k ≠ none → ob v = some k := by
  obtain ⟨xs, h1, h2⟩ := h.own
  rcases h1.2 with ⟨rfl, hz⟩ | ⟨g, cap, cur, rfl, h3, h4, h5, h6, h7⟩
  · refine ⟨S, SlR.mk_iff.2 ⟨by omega, .inl ⟨rfl, List.length_eq_zero_iff.1 hz⟩⟩, PH.le_refl _, hS, fun k h1 h2 => absurd h1 h2⟩
  · have hg := h.off g rfl
    have hx : PH.le S (S.upd g (.cells cur e (0, 0))) := PH.le_upd hg
    refine ⟨S.upd g (.cells cur e (0, 0)), SlR.mk_iff.2 ⟨by omega, .inr ⟨_, cap, rfl, h4, h5, RepRows.of (PV.RepRow.le hx h2) fun j u hj => ?_⟩⟩, hx, ?_, ?_⟩
    · rw [Addr.add_plain, PH.cell_at PH.upd_same, Nat.zero_add, ← Array.getElem?_toList]
      rw [← h7] at hj
      rw [List.getElem?_take] at hj
      split at hj
      · exact hj
      · cases hj
    · intro k o hk
      by_cases ek : k = g
      · subst ek; rw [PH.upd_same] at hk; cases hk; exact h3
      · rw [PH.upd_other ek] at hk; exact hS k o hk
    · intro k h1 h2
      by_cases ek : k = g
      · subst ek; rfl
      · rw [PH.upd_other ek] at h2; exact absurd h1 h2
/-- what lies at a place of it -/
theorem Row.get (h : Row S H e l v) {i : Nat} {a : α} (hi : l[i]? = some a) :
    (slBase v).isSome = true ∧ (pOf (eltV v (i : Int) (sz α))).isSome = true ∧ ∃ cs, CsR S a cs ∧ rowAt H (pOf (eltV v (i : Int) (sz α))) cs := by
  obtain ⟨xs, h1, h2⟩ := h.own
  rcases h1.2 with ⟨rfl, hz⟩ | ⟨g, cap, cur, rfl, h3, h4, h5, h6, h7⟩
  · have := List.length_eq_zero_iff.1 hz
    subst this; simp at hi
  · have key : ∀ (l : List α) (xs : List Value) (i : Nat), PV.RepRow S (l.flatMap pv) xs → l[i]? = some a → CsR S a ((xs.drop (i * sz α)).take (sz α)) := by
      intro l
      induction l with
      | nil => intro xs i _ hi; simp at hi
      | cons b l ih =>
        intro xs i hr hi
        rw [List.flatMap_cons] at hr
        have hsp := PV.RepRow.split hr
        rw [Enc.len] at hsp
        cases i with
        | zero =>
          simp at hi; subst hi
          rw [Nat.zero_mul, List.drop_zero]; exact hsp.1
        | succ i =>
          have := ih _ i hsp.2 (by simpa using hi)
          rw [List.drop_drop] at this
          rwa [show Enc.sz α + i * sz α = (i + 1) * sz α by rw [Nat.add_mul]; simp only [sz]; omega] at this
    refine ⟨rfl, rfl, _, key l xs i h2 hi, ⟨(⟨g, 0, none⟩ : Addr).add (i * sz α), by simp [eltV, pOf, slBase], fun j u hj => ?_⟩⟩
    rw [Addr.add_plain, Addr.add_plain, PH.cell_at h3]
    rw [List.getElem?_take] at hj
    split at hj
    · rw [List.getElem?_drop, ← h7, List.getElem?_take] at hj
      split at hj
      · rw [← Array.getElem?_toList, Nat.zero_add]; exact hj
      · cases hj
    · cases hj
/-- the first of it -/
theorem Row.take (h : Row S H e l v) {m : Nat} (hm : m ≤ l.length) (h0 : 0 < l.length) : Row S H e (l.take m) (slsV v 0 (m : Int) (sz α)) ∧ ob (slsV v 0 (m : Int) (sz α)) = ob v := by
  obtain ⟨xs, h1, h2⟩ := h.own
  rcases h1.2 with ⟨rfl, hz⟩ | ⟨g, cap, cur, rfl, h3, h4, h5, h6, h7⟩
  · omega
  · have hc : cap ≠ 0 := by omega
    have hv : slsV (.slice (some ⟨g, 0, none⟩) l.length cap) 0 (m : Int) (sz α) = .slice (some ⟨g, 0, none⟩) m cap := by
      simp [slsV, slCap, slBase, hc, Addr.add_plain]
    rw [hv]
    refine ⟨⟨h.off, xs.take (m * sz α), ⟨?_, .inr ⟨g, cap, cur, ?_, h3, ?_, h5, h6, ?_⟩⟩, ?_⟩, rfl⟩
    · rw [List.length_take, h1.1, List.length_take]
      have : m * sz α ≤ l.length * sz α := Nat.mul_le_mul_right _ hm
      rw [Nat.min_eq_left hm, Nat.min_eq_left this]
    · rw [List.length_take, Nat.min_eq_left hm]
    · rw [List.length_take]; omega
    · rw [List.length_take, Nat.min_eq_left hm, ← h7, List.take_take, Nat.min_eq_left (Nat.mul_le_mul_right _ hm)]
    · have e1 : l.flatMap pv = (l.take m).flatMap pv ++ (l.drop m).flatMap pv := by rw [← List.flatMap_append, List.take_append_drop]
      rw [e1] at h2
      have := (PV.RepRow.split h2).1
      rwa [pvs_length, List.length_take, Nat.min_eq_left hm] at this
end
end Go.Proofs.YtlnmmakbgldflaaGreatDoor.Vc
