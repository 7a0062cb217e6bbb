/-
  ROWS OF PLAIN THINGS, laid and appended to, in a formula. No program in sight.
-/
import Derived.Test.YtlnmmakbgldflaaGreatDoorWe
set_option linter.unusedSimpArgs false
set_option linter.unusedVariables false
set_option maxRecDepth 100000
namespace Go.Proofs.YtlnmmakbgldflaaGreatDoor.Vc
open Go

/-! ### a row laid -/
theorem zipfold : ∀ (cs : List Value) (j off : Nat) (cells : Array Value), off + j + cs.length ≤ cells.size →
    (cs.zipIdx j).foldl (fun a x => a.setIfInBounds (off + x.2) x.1) cells = splice cells (off + j) cs
  | [], j, off, cells, _ => by simp [splice_nil]
  | c :: cs, j, off, cells, h => by
    simp only [List.length_cons] at h
    rw [List.zipIdx_cons, List.foldl_cons, zipfold cs (j + 1) off _ (by simp; omega), ← Nat.add_assoc, splice_cons (by simp only [List.length_cons]; omega)]
theorem splice_splice {cells : Array Value} {o : Nat} {a b : List Value} (h : o + a.length + b.length ≤ cells.size) : splice (splice cells o a) (o + a.length) b = splice cells o (a ++ b) := by
  unfold splice
  congr 1
  simp only [List.toList_toArray, List.length_append]
  have h1 : (cells.toList.take o).length = o := by simp; omega
  have h3 : (cells.toList.take o ++ a ++ cells.toList.drop (o + a.length)).take (o + a.length) = cells.toList.take o ++ a :=
    List.take_left' (by simp only [List.length_append, h1])
  have h4 : (cells.toList.take o ++ a ++ cells.toList.drop (o + a.length)).drop (o + a.length + b.length) = cells.toList.drop (o + (a.length + b.length)) := by
    rw [List.drop_append, List.drop_eq_nil_of_le (by simp only [List.length_append, h1]; omega), List.nil_append, List.drop_drop, List.length_append, h1]
    congr 1; omega
  rw [h3, h4]
  simp
inductive All2 {α β : Type} (R : α → β → Prop) : List α → List β → Prop where
  | nil : All2 R [] []
  | cons {a : α} {b : β} {l : List α} {m : List β} : R a b → All2 R l m → All2 R (a :: l) (b :: m)
def idxs : Nat → List Value → List (Nat × Value)
  | _, [] => []
  | k, v :: vs => (k, v) :: idxs (k + 1) vs
theorem fill_rows {sz : Nat} : ∀ (vs : List Value) (k : Nat) (cells : Array Value), (∀ v ∈ vs, v.cells.size = sz) → (k + vs.length) * sz ≤ cells.size →
    Instr.fill (fun i => some (i * sz, sz)) cells (idxs k vs) = some (splice cells (k * sz) (vs.flatMap fun v => v.cells.toList))
  | [], k, cells, _, _ => by simp [idxs, Instr.fill, splice_nil]
  | v :: vs, k, cells, hv, hl => by
    have h1 := hv v (List.mem_cons_self ..)
    simp only [List.length_cons] at hl
    have h2 : k * sz + sz + vs.length * sz ≤ cells.size := by
      have : (k + (vs.length + 1)) * sz = k * sz + sz + vs.length * sz := by simp only [Nat.add_mul, Nat.one_mul]; omega
      omega
    have hcl : v.cells.toList.length = sz := by simpa using h1
    have hfl : (vs.flatMap fun v => v.cells.toList).length = vs.length * sz := by
      have : ∀ vs : List Value, (∀ v ∈ vs, v.cells.size = sz) → (vs.flatMap fun v => v.cells.toList).length = vs.length * sz := by
        intro vs
        induction vs with
        | nil => simp
        | cons v vs ih =>
          intro h
          rw [List.flatMap_cons, List.length_append, ih (fun u hu => h u (List.mem_cons_of_mem _ hu)), List.length_cons, Nat.add_mul]
          have := h v (List.mem_cons_self ..)
          simp only [Array.length_toList, this]; omega
      exact this vs fun u hu => hv u (List.mem_cons_of_mem _ hu)
    simp only [idxs, Instr.fill]
    have hc1 : (v.cells.size ≠ sz || decide (k * sz + v.cells.size > cells.size)) = false := by simp [h1]; omega
    rw [hc1]
    simp only [Bool.false_eq_true, if_false]
    have hz := zipfold v.cells.toList 0 (k * sz) cells (by omega)
    have e1 : v.cells.zipIdx.foldl (fun cs x => cs.setIfInBounds (k * sz + x.2) x.1) cells = splice cells (k * sz) v.cells.toList := by
      rw [← Array.foldl_toList, Array.toList_zipIdx]; exact hz
    have e2 : v.cells.zipIdx.foldl (fun cs x => match x with | (c, j) => cs.setIfInBounds (k * sz + j) c) cells = splice cells (k * sz) v.cells.toList := e1
    rw [e2, fill_rows vs (k + 1) _ (fun u hu => hv u (List.mem_cons_of_mem _ hu)) (by rw [splice_size (by omega)]; simp only [Nat.add_mul, Nat.one_mul]; omega)]
    congr 1
    rw [show (k + 1) * sz = k * sz + v.cells.toList.length by rw [Nat.add_mul, hcl, Nat.one_mul], splice_splice (by omega)]
    rfl
theorem splice_all {cells : Array Value} {vs : List Value} (h : cells.size = vs.length) : splice cells 0 vs = vs.toArray := by
  unfold splice
  simp [← h]

/-! ### plain things are no pairs -/
mutual
theorem PV.Rep.oneC {H : PH} : ∀ {p : PV} {v : Value}, p.Rep H v → oneC v = true
  | .int _ _, v, h => by simp only [PV.Rep] at h; rw [h.1]; rfl
  | .bool _, v, h => by simp only [PV.Rep] at h; rw [h]; rfl
  | .str _, v, h => by simp only [PV.Rep] at h; rw [h.1]; rfl
  | .sl rows, v, h => by
    simp only [PV.Rep] at h
    rcases h.2 with ⟨rfl, _⟩ | ⟨a, c, rfl, _⟩ <;> rfl
end
theorem PV.RepRow.oneC {H : PH} : ∀ {row : List PV} {cs : List Value}, PV.RepRow H row cs → ∀ u ∈ cs, Vc.oneC u = true
  | [], cs, h, u, hu => by simp only [PV.RepRow] at h; subst h; cases hu
  | p :: ps, cs, h, u, hu => by
    simp only [PV.RepRow] at h
    obtain ⟨v, vs, rfl, h1, h2⟩ := h
    rcases List.mem_cons.1 hu with rfl | hu
    · exact h1.oneC
    · exact PV.RepRow.oneC h2 u hu

section
variable {P : Program} {α : Type} [Enc α] {H0 H : PH} {e : TypeId} {l : List α} {v : Value}
theorem pvs_length (l : List α) : (l.flatMap pv).length = l.length * sz α := by
  induction l with
  | nil => simp
  | cons d l ih => rw [List.flatMap_cons, List.length_append, ih, Enc.len, List.length_cons, Nat.add_mul]; simp only [sz]; omega
theorem rows_of {l : List α} {vs : List Value} (h : All2 (fun a v => CsR H a v.cells.toList) l vs) : PV.RepRow H (l.flatMap pv) (vs.flatMap fun v => v.cells.toList) ∧ (∀ v ∈ vs, v.cells.size = sz α) ∧ vs.length = l.length := by
  induction h with
  | nil => exact ⟨by simp [PV.RepRow], by simp, rfl⟩
  | cons h1 h2 ih =>
    refine ⟨?_, ?_, by simp [ih.2.2]⟩
    · rw [List.flatMap_cons, List.flatMap_cons]; exact PV.RepRow.append h1 ih.1
    · intro u hu
      rcases List.mem_cons.1 hu with rfl | hu
      · have := PV.RepRow.length h1
        rw [Enc.len] at this
        simpa using this
      · exact ih.2.1 u hu

/-- what is known of an element's type -/
def ElemOk (P : Program) (e : TypeId) (n b : Nat) : Bool := match P.info? e with
  | some i => decide (i.size = n) && decide (i.bytes = b) && (match i.zero with | some z => decide (z.cells.size = n) | none => false)
  | none => false
theorem ElemOk.info {n b : Nat} (h : ElemOk P e n b = true) : ∃ i z, P.info? e = some i ∧ i.size = n ∧ i.bytes = b ∧ i.zero = some z ∧ z.cells.size = n := by
  unfold ElemOk at h
  split at h
  · rename_i i hi
    simp only [Bool.and_eq_true, decide_eq_true_eq] at h
    obtain ⟨⟨h1, h2⟩, h3⟩ := h
    split at h3
    · rename_i z hz
      exact ⟨i, z, hi, h1, h2, hz, of_decide_eq_true h3⟩
    · cases h3
  · cases h

/-- A ROW LAID, of plain things. -/
theorem den_lit {X : List PanicEntry → PH → Prop} {β : Type} {E : List Value} {L : LK} {K : β → List Value → PH → LK → Prop} {T ty : TypeId} {n b : Nat} {ps : Array (Nat × Operand)} {args : List (Nat × VE)} {pend : List (SV × List SV)} {k : Fm β} (vs : List Value)
    (hT : P.underlying T = some (.slice e)) (he : ElemOk P e (sz α) b = true) (hn : l.length = n) (h0 : n * sz α ≠ 0) (hle : n * sz α ≤ 2 ^ 24)
    (hps : ps.toList.map (fun x => (x.1, argEv E args x.2)) = idxs 0 vs) (hvs : All2 (fun a v => CsR H a v.cells.toList) l vs) (hp : pendOk E H pend)
    (hk : ∀ v H', Acc H H' e l v → PH.le H H' → pendOk E H' pend → den P X k (E ++ [v]) H' L K) : den P X (.sem (.buildSlice T n ps) ty args (.sc .sl) pend k) E H L K := by
  obtain ⟨i, z, hi, i1, i2, i3, i4⟩ := ElemOk.info he
  obtain ⟨hr, hsz, hlen⟩ := rows_of hvs
  show wpS P (execOp (argEv E args) (bare (.buildSlice T n ps) ty)) _ _ H
  rw [exec_buildSlice]
  have hcs : (vs.flatMap fun v => v.cells.toList).length = n * sz α := by
    rw [hr.length, pvs_length, hn]
  have hcells : ((Array.range (n * i.size)).map (z.cells[· % z.cells.size]!)).size = (vs.flatMap fun v => v.cells.toList).length := by simp [hcs, i1]
  refine wpS_buildSlice hT hi i3 (by rw [i1]; exact h0) (by rw [i1]; exact hle) (cells := (vs.flatMap fun v => v.cells.toList).toArray) ?_ fun r hr' => ?_
  · have hpl : (ps.map fun (i, x) => (i, argEv E args x)).toList = idxs 0 vs := by rw [← hps]; simp
    rw [hpl, i1, fill_rows vs 0 _ hsz (by simp [i1] at hcells ⊢; rw [hlen, hn]; omega)]
    congr 1
    rw [Nat.zero_mul]
    refine splice_all ?_
    rw [i1] at hcells; exact hcells
  · have hnn : n ≤ n * sz α := Nat.le_mul_of_pos_right _ (Nat.pos_of_ne_zero fun h => h0 (by rw [h]; simp))
    have hacc : Acc H (H.upd r (.cells (vs.flatMap fun v => v.cells.toList).toArray e (0, 0))) e l (.slice (some ⟨r, 0, none⟩) n n) := by
      have := Acc.new (H0 := H) (e := e) (l := l) (cap := n) hr' (PH.le_refl H) hr hn (by simp only [maxLen]; omega)
      rwa [hn] at this
    have hle' := PH.le_upd (o := .cells (vs.flatMap fun v => v.cells.toList).toArray e (0, 0)) hr'
    exact ⟨[_], rfl, rfl, pendOk_le hp hle', hk _ _ hacc hle' (pendOk_le hp hle')⟩

/-- where a row that grows goes on, what is not its own stands -/
structure Went (H H' : PH) (v v' : Value) : Prop where
  keep : ∀ k o, H k = some o → some k ≠ ob v → H' k = some o
  fresh : ∀ k, ob v' = some k → ob v = some k ∨ H k = none
theorem Went.le {H' : PH} {v' : Value} (h : Went H H' v v') : PH.le (delV v H) (delV v' H') := by
  intro k o hk
  have hk1 : H k = some o := delV_le v H k o hk
  have hne : some k ≠ ob v := by
    intro e
    unfold delV at hk
    rw [← e] at hk
    simp [PH.del] at hk
  have hk2 := h.keep k o hk1 hne
  unfold delV
  cases hg : ob v' with
  | none => exact hk2
  | some g =>
    show (H'.del g) k = some o
    by_cases e : k = g
    · subst e
      rcases h.fresh k hg with h1 | h1
      · exact absurd h1.symm hne
      · rw [h1] at hk1; cases hk1
    · rw [PH.del_other e]; exact hk2
theorem Went.of_le {H H1 H' : PH} {v v' : Value} (h : PH.le H H1) (w : Went H1 H' v v') : Went H H' v v' :=
  ⟨fun k o hk hn => w.keep k o (h k o hk) hn, fun k hk => (w.fresh k hk).imp id fun hn => by
    cases hx : H k with
    | none => rfl
    | some o => rw [h k o hx] at hn; cases hn⟩
theorem Went.trans {H H1 H2 : PH} {v v1 v2 : Value} (a : Went H H1 v v1) (b : Went H1 H2 v1 v2) : Went H H2 v v2 := by
  refine ⟨fun k o hk hn => b.keep k o (a.keep k o hk hn) ?_, fun k hk => ?_⟩
  · intro e
    rcases a.fresh k e.symm with h | h
    · exact hn h.symm
    · rw [h] at hk; cases hk
  · rcases b.fresh k hk with h | h
    · exact a.fresh k h
    · by_cases e : some k = ob v
      · exact .inl e.symm
      · right
        cases hx : H k with
        | none => rfl
        | some o => rw [a.keep k o hx e] at h; cases h
theorem Went.then_le {H H1 H2 : PH} {v v1 : Value} (a : Went H H1 v v1) (h : PH.le H1 H2) : Went H H2 v v1 := ⟨fun k o hk hn => h k o (a.keep k o hk hn), a.fresh⟩
theorem Went.refl (H : PH) (v : Value) : Went H H v v := ⟨fun _ _ h _ => h, fun _ h => .inl h⟩

theorem delV_at {v : Value} {H : PH} {k : Nat} (h : ob v ≠ some k) : (delV v H) k = H k := by
  unfold delV
  cases hg : ob v with
  | none => rfl
  | some g => exact PH.del_other fun e => h (by rw [hg, e])
theorem Acc.dwell {H0 H : PH} {e : TypeId} {l : List α} {v : Value} (h : Acc H0 H e l v) {g : Nat} (hg : ob v = some g) : H g ≠ none := by
  obtain ⟨xs, ho, _⟩ := h.own
  rcases ho.2 with ⟨rfl, _⟩ | ⟨g', cap, cur, rfl, h1, _⟩
  · cases hg
  · simp only [ob, Option.some.injEq] at hg
    subst hg; rw [h1]; exact fun h => by cases h
/-- APPENDED: plain things behind a row that grows. -/
theorem wpS_acc {Φ : Value → PH → Prop} {Ψ : Value → PH → Prop} {T t2 ty : TypeId} {d2 : TypeDesc} {b : Nat} {more : List α} {x : Value} {news : List Value}
    (hT : P.underlying T = some (.slice e)) (hT2 : P.underlying t2 = some d2) (hd2 : ∀ k, d2 ≠ .int k) (he : ElemOk P e (sz α) b = true)
    (hacc : Acc H0 H e l v) (hx : Src H x more.length news) (hr : PV.RepRow (delV v H) (more.flatMap pv) news) (h63 : l.length + more.length ≤ maxLen) (hby : (l.length + more.length) * b ≤ 140737488355328)
    (hk : ∀ v' H', Acc H0 H' e (l ++ more) v' → Went H H' v v' → Φ v' H') : wpS P (Builtin.append_ #[T, t2] ty #[v, x]) Φ Ψ H := by
  obtain ⟨i, z, hi, i1, i2, i3, i4⟩ := ElemOk.info he
  obtain ⟨xs, ho, hrow⟩ := hacc.own
  rw [← i1] at ho
  have hnl : news.length = more.length * i.size := by rw [hr.length, pvs_length, i1]
  refine wpS_append hT hT2 hd2 hi i3 (by rw [i4, i1]) ho hx hnl hr.oneC h63 (by rw [i2]; exact hby) fun v' H' h1 h2 h3 => ?_
  have hw : Went H H' v v' := ⟨h2, h3⟩
  refine hk v' H' ⟨PH.le_trans hacc.le hw.le, xs ++ news, ?_, ?_⟩ hw
  · rw [List.length_append, ← i1]; exact h1
  · rw [List.flatMap_append]
    exact PV.RepRow.le hw.le (PV.RepRow.append hrow hr)
/-- the same, in a formula: what is appended is a row -/
theorem den_append {X : List PanicEntry → PH → Prop} {β : Type} {E : List Value} {L : LK} {K : β → List Value → PH → LK → Prop} {T ty : TypeId} {b : Nat} {x y : Operand} {args : List (Nat × VE)} {pend : List (SV × List SV)} {k : Fm β} {more : List α} {w : Value}
    (hT : P.underlying T = some (.slice e)) (he : ElemOk P e (sz α) b = true) (hx : argEv E args x = v) (hy : argEv E args y = w)
    (hacc : Acc H0 H e l v) (hw : SlR (delV v H) more w) (h63 : l.length + more.length ≤ maxLen) (hby : (l.length + more.length) * b ≤ 140737488355328)
    (hk : ∀ v' H', Acc H0 H' e (l ++ more) v' → Went H H' v v' → pendOk E H' pend ∧ den P X k (E ++ [v']) H' L K) : den P X (.sem (.call ⟨.builtin .append, #[x, y], #[T, T]⟩) ty args (.sc .sl) pend k) E H L K := by
  show wpS P (execOp (argEv E args) (bare _ ty)) _ _ H
  rw [exec_append, hx, hy]
  obtain ⟨news, h1, h2, h3⟩ := hw.src
  have h3' : Src H w more.length news := by
    rcases h3 with ⟨b, c, rfl, h⟩ | h | h
    · exact .inl ⟨b, c, rfl, fun j u hu => PH.cell_le (delV_le v H) (h j u hu)⟩
    · exact .inr (.inl h)
    · exact .inr (.inr h)
  refine wpS_acc hT hT (fun k => by intro h; cases h) he hacc h3' h1 h63 hby fun v' H' g1 g2 => ?_
  obtain ⟨bb, c, hv'⟩ := g1.sl
  obtain ⟨g3, g4⟩ := hk v' H' g1 g2
  exact ⟨[v'], by rw [hv']; rfl, rfl, g3, g4⟩
/-- things appended one by one: a row laid, and appended -/
theorem den_push {X : List PanicEntry → PH → Prop} {β : Type} {E : List Value} {L : LK} {K : β → List Value → PH → LK → Prop} {T ty ty2 : TypeId} {n b : Nat} {ps : Array (Nat × Operand)} {args args2 : List (Nat × VE)} {pend pend2 : List (SV × List SV)} {x y : Operand} {k : Fm β} {more : List α} (vs : List Value)
    (hT : P.underlying T = some (.slice e)) (he : ElemOk P e (sz α) b = true) (hn : more.length = n) (h0 : n * sz α ≠ 0) (hle : n * sz α ≤ 2 ^ 24)
    (hps : ps.toList.map (fun x => (x.1, argEv E args x.2)) = idxs 0 vs) (hvs : All2 (fun a v' => CsR (delV v H) a v'.cells.toList) more vs) (hp : pendOk E H pend)
    (hacc : Acc H0 H e l v) (hx : ∀ u, argEv (E ++ [u]) args2 x = v) (hy : ∀ u, argEv (E ++ [u]) args2 y = u) (h63 : l.length + more.length ≤ maxLen) (hby : (l.length + more.length) * b ≤ 140737488355328)
    (hk : ∀ u v' H', Acc H0 H' e (l ++ more) v' → Went H H' v v' → pendOk (E ++ [u]) H' pend2 ∧ den P X k (E ++ [u] ++ [v']) H' L K) :
    den P X (.sem (.buildSlice T n ps) ty args (.sc .sl) pend (.sem (.call ⟨.builtin .append, #[x, y], #[T, T]⟩) ty2 args2 (.sc .sl) pend2 k)) E H L K := by
  obtain ⟨i, z, hi, i1, i2, i3, i4⟩ := ElemOk.info he
  obtain ⟨hr, hsz, hlen⟩ := rows_of hvs
  show wpS P (execOp (argEv E args) (bare (.buildSlice T n ps) ty)) _ _ H
  rw [exec_buildSlice]
  have hcs : (vs.flatMap fun v => v.cells.toList).length = n * sz α := by
    rw [hr.length, pvs_length, hn]
  have hcells : ((Array.range (n * i.size)).map (z.cells[· % z.cells.size]!)).size = (vs.flatMap fun v => v.cells.toList).length := by simp [hcs, i1]
  refine wpS_buildSlice hT hi i3 (by rw [i1]; exact h0) (by rw [i1]; exact hle) (cells := (vs.flatMap fun v => v.cells.toList).toArray) ?_ fun r hr' => ?_
  · have hpl : (ps.map fun (i, x) => (i, argEv E args x)).toList = idxs 0 vs := by rw [← hps]; simp
    rw [hpl, i1, fill_rows vs 0 _ hsz (by simp [i1] at hcells ⊢; rw [hlen, hn]; omega)]
    congr 1
    rw [Nat.zero_mul]
    refine splice_all ?_
    rw [i1] at hcells; exact hcells
  · have hnn : n ≤ n * sz α := Nat.le_mul_of_pos_right _ (Nat.pos_of_ne_zero fun h => h0 (by rw [h]; simp))
    have hle' := PH.le_upd (o := .cells (vs.flatMap fun v => v.cells.toList).toArray e (0, 0)) hr'
    refine ⟨[_], rfl, rfl, pendOk_le hp hle', ?_⟩
    have hob : ob v ≠ some r := fun h => hacc.dwell h hr'
    have hbl : (delV v (H.upd r (.cells (vs.flatMap fun v => v.cells.toList).toArray e (0, 0)))) r = some (.cells (vs.flatMap fun v => v.cells.toList).toArray e (0, 0)) := by rw [delV_at hob, PH.upd_same]
    have hsl : SlR (delV v (H.upd r (.cells (vs.flatMap fun v => v.cells.toList).toArray e (0, 0)))) more (.slice (some ⟨r, 0, none⟩) n n) := by
      rw [SlR.mk_iff]
      refine ⟨by simp only [maxLen]; omega, .inr ⟨⟨r, 0, none⟩, n, by rw [hn], by omega, by simp only [maxLen]; omega, RepRows.of (PV.RepRow.le (delV_mono hle') hr) fun j u hu => ?_⟩⟩
      rw [Addr.add_plain, PH.cell_at hbl, Nat.zero_add]
      simpa using hu
    exact den_append hT he (hx _) (hy _) (hacc.mono hle') hsl h63 hby fun v' H' g1 g2 => hk _ v' H' g1 (g2.of_le hle')
end
theorem txt_row {H : PH} (l : List UInt8) : PV.RepRow H (l.flatMap pv) (l.map fun b => Value.int .u8 (b.toNat : Int)) := by
  induction l with
  | nil => simp [PV.RepRow]
  | cons c l ih =>
    rw [List.flatMap_cons, List.map_cons]
    refine PV.RepRow.append (row := pv c) (cs := [_]) ?_ ih
    show PV.RepRow H [.int .u8 (c.toNat : Int)] [_]
    simp only [PV.RepRow, PV.Rep]
    have := UInt8.toNat_lt c
    refine ⟨_, _, rfl, ⟨rfl, ?_, ?_⟩, rfl⟩
    · show (0 : Int) ≤ _; omega
    · show _ ≤ (255 : Int); omega
theorem txt_src {H : PH} (l : List UInt8) : Src H (txt l) l.length (l.map fun b => Value.int .u8 (b.toNat : Int)) := .inr (.inr ⟨_, rfl, (txt_size l).symm, by simp⟩)
/-- a text behind bytes -/
theorem den_appendTxt {P : Program} {X : List PanicEntry → PH → Prop} {β : Type} {H0 H : PH} {E : List Value} {L : LK} {K : β → List Value → PH → LK → Prop} {e T S ty : TypeId} {x y : Operand} {args : List (Nat × VE)} {pend : List (SV × List SV)} {k : Fm β} {l more : List UInt8} {v : Value}
    (hT : P.underlying T = some (.slice e)) (hS : P.underlying S = some .string) (he : ElemOk P e 1 1 = true) (hx : argEv E args x = v) (hy : argEv E args y = txt more)
    (hacc : Acc H0 H e l v) (h63 : l.length + more.length ≤ 140737488355328)
    (hk : ∀ v' H', Acc H0 H' e (l ++ more) v' → Went H H' v v' → pendOk E H' pend ∧ den P X k (E ++ [v']) H' L K) : den P X (.sem (.call ⟨.builtin .append, #[x, y], #[T, S]⟩) ty args (.sc .sl) pend k) E H L K := by
  show wpS P (execOp (argEv E args) (bare _ ty)) _ _ H
  rw [exec_append, hx, hy]
  refine wpS_acc (b := 1) hT hS (fun k => by intro h; cases h) he hacc (txt_src more) (txt_row more) (by simp only [maxLen]; omega) (by omega) fun v' H' g1 g2 => ?_
  obtain ⟨bb, c, hv'⟩ := g1.sl
  obtain ⟨g3, g4⟩ := hk v' H' g1 g2
  exact ⟨[v'], by rw [hv']; rfl, rfl, g3, g4⟩
end Go.Proofs.YtlnmmakbgldflaaGreatDoor.Vc
