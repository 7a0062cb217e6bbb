/-
  ROWS THAT ARE WRITTEN INTO, in a formula. No program in sight.
-/
import Derived.Test.YtlnmmakbgldflaaGreatDoorWk
set_option linter.unusedSimpArgs false
set_option linter.unusedVariables false
set_option maxRecDepth 100000
namespace Go.Proofs.YtlnmmakbgldflaaGreatDoor.Vc
open Go

section
variable {P : Program} {α : Type} [Enc α] {S S' H H' : PH} {e : TypeId} {l : List α} {v : Value} {X : List PanicEntry → PH → Prop} {β : Type} {E : List Value} {L : LK} {K : β → List Value → PH → LK → Prop}
/-- what another row's freezing does to this one: nothing -/
theorem Row.other {u : Value} (h : Row S H e l v) (hs : PH.le S S') (hn : ∀ k, S k = none → S' k ≠ none → ob u = some k) (hne : ob v ≠ ob u ∨ ob v = none) : Row S' H e l v := by
  obtain ⟨xs, h1, h2⟩ := h.own
  refine ⟨fun g hg => ?_, xs, h1, PV.RepRow.le hs h2⟩
  cases hx : S' g with
  | none => rfl
  | some o =>
    have := hn g (h.off g hg) (by rw [hx]; exact fun e => by cases e)
    rcases hne with hne | hne
    · exact absurd (hg.trans this.symm) hne
    · rw [hne] at hg; cases hg
/-- what may be appended: things that stand, in a row that may be written into -/
def SrcS (S H : PH) (more : List α) (w : Value) : Prop := ∃ news, PV.RepRow S (more.flatMap pv) news ∧ Src H w more.length news
theorem SlR.srcS {more : List α} {w : Value} (hS : PH.le S H) (hw : SlR S more w) : SrcS S H more w := by
  obtain ⟨news, h1, h2, h3⟩ := hw.src
  refine ⟨news, h1, ?_⟩
  rcases h3 with ⟨b, c, rfl, h⟩ | h | h
  · exact .inl ⟨b, c, rfl, fun j u hu => PH.cell_le hS (h j u hu)⟩
  · exact .inr (.inl h)
  · exact .inr (.inr h)
theorem Row.srcS {more : List α} {w : Value} (hw : Row S H e more w) : SrcS S H more w := by
  obtain ⟨xs, h1, h2⟩ := hw.own
  exact ⟨xs, h2, h1.src⟩
/-- a row appended to a row of its own -/
theorem den_rowAppendS {T ty : TypeId} {b : Nat} {x y : Operand} {args : List (Nat × VE)} {pend : List (SV × List SV)} {k : Fm β} {more : List α} {w : Value}
    (hT : P.underlying T = some (.slice e)) (he : ElemOk P e (sz α) b = true) (hx : argEv E args x = v) (hy : argEv E args y = w)
    (hS : PH.le S H) (hr : Row S H e l v) (hw : SrcS S H more w) (h63 : l.length + more.length ≤ maxLen) (hby : (l.length + more.length) * b ≤ 140737488355328)
    (hk : ∀ v' H', Row S H' e (l ++ more) v' → Went H H' v v' → PH.le S H' → pendOk E H' pend ∧ den P X k (E ++ [v']) H' L K) : den P X (.sem (.call ⟨.builtin .append, #[x, y], #[T, T]⟩) ty args (.sc .sl) pend k) E H L K := by
  show wpS P (execOp (argEv E args) (bare _ ty)) _ _ H
  rw [exec_append, hx, hy]
  obtain ⟨i, z, hi, i1, i2, i3, i4⟩ := ElemOk.info he
  obtain ⟨xs, ho, hrow⟩ := hr.own
  rw [← i1] at ho
  obtain ⟨news, h1, h3'⟩ := hw
  have hnl : news.length = more.length * i.size := by rw [h1.length, pvs_length, i1]
  refine wpS_append hT hT (fun k => by intro h; cases h) hi i3 (by rw [i4, i1]) ho h3' hnl h1.oneC h63 (by rw [i2]; exact hby) fun v' H' g1 g2 g3 => ?_
  have hwt : Went H H' v v' := ⟨g2, g3⟩
  have hrow' : Row S H' e (l ++ more) v' := by
    refine ⟨fun g hg => ?_, xs ++ news, ?_, ?_⟩
    · rcases g3 g hg with h | h
      · exact hr.off g h
      · exact PH.none_of_le hS h
    · rw [List.length_append, ← i1]; exact g1
    · rw [List.flatMap_append]; exact PV.RepRow.append hrow h1
  have hS' : PH.le S H' := fun k o hk => g2 k o (hS k o hk) fun hv => by rw [hr.off k hv.symm] at hk; cases hk
  obtain ⟨bb, c, hv'⟩ := hrow'.sl
  obtain ⟨q1, q2⟩ := hk v' H' hrow' hwt hS'
  exact ⟨[v'], by rw [hv']; rfl, rfl, q1, q2⟩
theorem den_rowAppend {T ty : TypeId} {b : Nat} {x y : Operand} {args : List (Nat × VE)} {pend : List (SV × List SV)} {k : Fm β} {more : List α} {w : Value}
    (hT : P.underlying T = some (.slice e)) (he : ElemOk P e (sz α) b = true) (hx : argEv E args x = v) (hy : argEv E args y = w)
    (hS : PH.le S H) (hr : Row S H e l v) (hw : SlR S more w) (h63 : l.length + more.length ≤ maxLen) (hby : (l.length + more.length) * b ≤ 140737488355328)
    (hk : ∀ v' H', Row S H' e (l ++ more) v' → Went H H' v v' → PH.le S H' → pendOk E H' pend ∧ den P X k (E ++ [v']) H' L K) : den P X (.sem (.call ⟨.builtin .append, #[x, y], #[T, T]⟩) ty args (.sc .sl) pend k) E H L K :=
  den_rowAppendS hT he hx hy hS hr (hw.srcS hS) h63 hby hk
/-- a row laid, of things that stand: it stands -/
theorem den_rowLit {T ty : TypeId} {n b : Nat} {ps : Array (Nat × Operand)} {args : List (Nat × VE)} {pend : List (SV × List SV)} {k : Fm β} (vs : List Value)
    (hT : P.underlying T = some (.slice e)) (he : ElemOk P e (sz α) b = true) (hn : l.length = n) (h0 : n * sz α ≠ 0) (hle : n * sz α ≤ 2 ^ 24) (hS : PH.le S H)
    (hps : ps.toList.map (fun x => (x.1, argEv E args x.2)) = idxs 0 vs) (hvs : All2 (fun a v => CsR S a v.cells.toList) l vs) (hp : pendOk E H pend)
    (hk : ∀ v S' H', Ext S H S' H' → SlR S' l v → pendOk E H' pend → den P X k (E ++ [v]) H' L K) : den P X (.sem (.buildSlice T n ps) ty args (.sc .sl) pend k) E H L K := by
  obtain ⟨i, z, hi, i1, i2, i3, i4⟩ := ElemOk.info he
  obtain ⟨hr, hsz, hlen⟩ := rows_of hvs
  show wpS P (execOp (argEv E args) (bare (.buildSlice T n ps) ty)) _ _ H
  rw [exec_buildSlice]
  have hcs : (vs.flatMap fun v => v.cells.toList).length = n * sz α := by
    rw [hr.length, pvs_length, hn]
  have hcells : ((Array.range (n * i.size)).map (z.cells[· % z.cells.size]!)).size = (vs.flatMap fun v => v.cells.toList).length := by simp [hcs, i1]
  refine wpS_buildSlice hT hi i3 (by rw [i1]; exact h0) (by rw [i1]; exact hle) (cells := (vs.flatMap fun v => v.cells.toList).toArray) ?_ fun r hr' => ?_
  · have hpl : (ps.map fun (i, x) => (i, argEv E args x)).toList = idxs 0 vs := by rw [← hps]; simp
    rw [hpl, i1, fill_rows vs 0 _ hsz (by simp [i1] at hcells ⊢; rw [hlen, hn]; omega)]
    congr 1
    rw [Nat.zero_mul]
    refine splice_all ?_
    rw [i1] at hcells; exact hcells
  · have hnn : n ≤ n * sz α := Nat.le_mul_of_pos_right _ (Nat.pos_of_ne_zero fun h => h0 (by rw [h]; simp))
    have hle' := PH.le_upd (o := .cells (vs.flatMap fun v => v.cells.toList).toArray e (0, 0)) hr'
    have hs' := PH.le_upd (o := .cells (vs.flatMap fun v => v.cells.toList).toArray e (0, 0)) (PH.none_of_le hS hr')
    refine ⟨[_], rfl, rfl, pendOk_le hp hle', hk _ (S.upd r (.cells (vs.flatMap fun v => v.cells.toList).toArray e (0, 0))) _ ⟨hs', hle', ?_, ?_⟩ ?_ (pendOk_le hp hle')⟩
    · intro k o hk
      by_cases ek : k = r
      · subst ek; rw [PH.upd_same] at hk ⊢; exact hk
      · rw [PH.upd_other ek] at hk ⊢; exact hS k o hk
    · intro k h1 h2
      by_cases ek : k = r
      · subst ek; exact hr'
      · rw [PH.upd_other ek] at h2; exact absurd h1 h2
    · rw [SlR.mk_iff]
      refine ⟨by simp only [maxLen]; omega, .inr ⟨⟨r, 0, none⟩, n, by rw [hn], by omega, by simp only [maxLen]; omega, RepRows.of (PV.RepRow.le hs' hr) fun j u hu => ?_⟩⟩
      rw [Addr.add_plain, PH.cell_at PH.upd_same, Nat.zero_add]
      simpa using hu
/-- a row laid, of nothing -/
theorem den_rowLit0 {T ty : TypeId} {b : Nat} {args : List (Nat × VE)} {pend : List (SV × List SV)} {k : Fm β}
    (hT : P.underlying T = some (.slice e)) (he : ElemOk P e (sz α) b = true) (hS : PH.le S H) (hp : pendOk E H pend)
    (hk : ∀ v H', Row (α := α) S H' e [] v → PH.le H H' → (∀ g, ob v = some g → H g = none) → pendOk E H' pend → den P X k (E ++ [v]) H' L K) : den P X (.sem (.buildSlice T 0 #[]) ty args (.sc .sl) pend k) E H L K := by
  obtain ⟨i, z, hi, i1, i2, i3, i4⟩ := ElemOk.info he
  have key := @den_lit0 P α _ H e X β E L K T ty b args (.sem (.buildSlice T 0 #[]) ty args (.sc .sl) [] k)
  have h : den (α := Unit) P X (.sem (.buildSlice T 0 #[]) ty args (.sc .sl) [] (.leaf ())) E H L fun _ E' H' L' => ∃ v, E' = E ++ [v] ∧ L' = L ∧ Acc (α := α) H H' e [] v ∧ PH.le H H' :=
    den_lit0 (α := α) hT he fun v H' a hl => ⟨v, rfl, rfl, a, hl⟩
  refine wpS_mono _ ?_ ?_ h
  · intro nx H' hn
    cases nx with
    | value u =>
      obtain ⟨vs, h1, h2, h3, v, h4, _, h5, h6⟩ := hn
      have : vs = [v] := by simpa using h4
      subst this
      refine ⟨_, h1, h2, pendOk_le hp h6, hk v H' (Row.empty hS h5) h6 (fun g hg => ?_) (pendOk_le hp h6)⟩
      cases hx : H g with
      | none => rfl
      | some o =>
        have := h5.le g o hx
        simp only [delV, hg] at this
        rw [PH.del_none] at this; cases this
    | skip =>
      obtain ⟨_, h2, _⟩ := hn
      simp only [RS.pack, List.headD_nil, undef] at h2
      cases h2
    | _ => exact hn.elim
  · intro u H' hx; exact hx
/-- one cell of a row written -/
theorem Row.set {Ψ : Value → PH → Prop} (h : Row S H e l v) {i off : Nat} {a a' : α} {u : Value} (hi : l[i]? = some a) (hoff : off < sz α) (h1 : oneC u = true) (hu : ∀ ces, CsR S a ces → CsR S a' (ces.set off u)) :
    ∃ ad, (pOf (eltV v (i : Int) (sz α))).map (·.add off) = some ad ∧ ∀ {Φ : Unit → PH → Prop}, (∀ H', Row S H' e (l.set i a') v → Went H H' v v → Φ () H') → wpS P (storeCells ad [u]) Φ Ψ H := by
  obtain ⟨xs, ho, h2⟩ := h.own
  have hil : i < l.length := by
    rcases Nat.lt_or_ge i l.length with h | h
    · exact h
    · rw [List.getElem?_eq_none h] at hi; cases hi
  rcases ho.2 with ⟨rfl, hz⟩ | ⟨g, cap, cur, rfl, h3, h4, h5, h6, h7⟩
  · omega
  · refine ⟨⟨g, i * sz α + off, none⟩, by simp [eltV, pOf, slBase, Addr.add_plain], fun {Φ} hk => ?_⟩
    have hb : i * sz α + off < l.length * sz α := by
      have : (i + 1) * sz α ≤ l.length * sz α := Nat.mul_le_mul_right _ hil
      rw [Nat.add_mul, Nat.one_mul] at this; omega
    have hcap : l.length * sz α ≤ cap * sz α := Nat.mul_le_mul_right _ h4
    refine wpS_storeCells [u] (i * sz α + off) 0 cur H h3 (by simp; omega) (by intro x hx; simp at hx; rw [hx]; exact h1) (hk _ ?_ ?_)
    · have key : ∀ (l : List α) (xs : List Value) (i : Nat), PV.RepRow S (l.flatMap pv) xs → l[i]? = some a → PV.RepRow S ((l.set i a').flatMap pv) (xs.set (i * sz α + off) u) := by
        intro l
        induction l with
        | nil => intro xs i _ hi; simp at hi
        | cons b l ih =>
          intro xs i hr hi
          rw [List.flatMap_cons] at hr
          have hsp := PV.RepRow.split hr
          rw [Enc.len] at hsp
          have hl1 : (xs.take (sz α)).length = sz α := by
            have := hsp.1.length
            rwa [Enc.len] at this
          cases i with
          | zero =>
            simp at hi; subst hi
            rw [List.set_cons_zero, List.flatMap_cons, Nat.zero_mul, Nat.zero_add]
            have e1 : xs.set off u = (xs.take (sz α)).set off u ++ xs.drop (sz α) := by
              conv => lhs; rw [← List.take_append_drop (sz α) xs]
              rw [List.set_append_left _ _ (by rw [hl1]; exact hoff)]
            rw [e1]
            exact PV.RepRow.append (hu _ hsp.1) hsp.2
          | succ i =>
            rw [List.set_cons_succ, List.flatMap_cons]
            have := ih _ i hsp.2 (by simpa using hi)
            have e1 : xs.set ((i + 1) * sz α + off) u = xs.take (sz α) ++ (xs.drop (sz α)).set (i * sz α + off) u := by
              conv => lhs; rw [← List.take_append_drop (sz α) xs]
              rw [List.set_append_right _ _ (by rw [hl1, Nat.add_mul]; omega), hl1]
              congr 2
              rw [Nat.add_mul]; omega
            rw [e1]
            exact PV.RepRow.append hsp.1 this
      refine ⟨h.off, xs.set (i * sz α + off) u, ⟨by rw [List.length_set, ho.1, List.length_set], .inr ⟨g, cap, splice cur (i * sz α + off + 0) [u], by rw [List.length_set], PH.upd_same, by rw [List.length_set]; exact h4, h5, by rw [splice_size (by simp; omega)]; exact h6, ?_⟩⟩, key l xs i h2 hi⟩
      rw [List.length_set, ← h7, ← List.take_set]
      congr 1
      unfold splice
      rw [Nat.add_zero]
      simp only [List.toList_toArray, List.length_cons, List.length_nil, Nat.zero_add]
      rw [List.set_eq_take_append_cons_drop, if_pos (by rw [Array.length_toList]; omega)]
      simp
    · exact ⟨fun k o hk hn => by rw [PH.upd_other fun e => hn (by rw [e]; rfl)]; exact hk, fun k hk => .inl hk⟩
/-- a thing of a row written anew -/
theorem Row.put {Ψ : Value → PH → Prop} (h : Row S H e l v) {i : Nat} {a' : α} {ces : List Value} (hi : i < l.length) (h1 : ∀ u ∈ ces, oneC u = true) (hu : CsR S a' ces) :
    ∃ ad, pOf (eltV v (i : Int) (sz α)) = some ad ∧ ∀ {Φ : Unit → PH → Prop}, (∀ H', Row S H' e (l.set i a') v → Went H H' v v → Φ () H') → wpS P (storeCells ad ces) Φ Ψ H := by
  obtain ⟨xs, ho, h2⟩ := h.own
  have hcl : ces.length = sz α := by
    have := hu.length
    rwa [Enc.len] at this
  rcases ho.2 with ⟨rfl, hz⟩ | ⟨g, cap, cur, rfl, h3, h4, h5, h6, h7⟩
  · omega
  · refine ⟨⟨g, i * sz α, none⟩, by simp [eltV, pOf, slBase, Addr.add_plain], fun {Φ} hk => ?_⟩
    have hb : i * sz α + sz α ≤ l.length * sz α := by
      have : (i + 1) * sz α ≤ l.length * sz α := Nat.mul_le_mul_right _ hi
      rw [Nat.add_mul, Nat.one_mul] at this; omega
    have hcap : l.length * sz α ≤ cap * sz α := Nat.mul_le_mul_right _ h4
    refine wpS_storeCells ces (i * sz α) 0 cur H h3 (by omega) h1 (hk _ ?_ ?_)
    · have key : ∀ (l : List α) (xs : List Value) (i : Nat), PV.RepRow S (l.flatMap pv) xs → i < l.length → PV.RepRow S ((l.set i a').flatMap pv) (xs.take (i * sz α) ++ ces ++ xs.drop (i * sz α + ces.length)) := by
        intro l
        induction l with
        | nil => intro xs i _ hi; simp at hi
        | cons b l ih =>
          intro xs i hr hi
          rw [List.flatMap_cons] at hr
          have hsp := PV.RepRow.split hr
          rw [Enc.len] at hsp
          have hl1 : (xs.take (sz α)).length = sz α := by
            have := hsp.1.length
            rwa [Enc.len] at this
          cases i with
          | zero =>
            rw [List.set_cons_zero, List.flatMap_cons, Nat.zero_mul, List.take_zero, List.nil_append, Nat.zero_add, hcl]
            exact PV.RepRow.append hu hsp.2
          | succ i =>
            rw [List.set_cons_succ, List.flatMap_cons]
            have := ih _ i hsp.2 (by simpa using hi)
            have e1 : xs.take ((i + 1) * sz α) ++ ces ++ xs.drop ((i + 1) * sz α + ces.length) = xs.take (sz α) ++ ((xs.drop (sz α)).take (i * sz α) ++ ces ++ (xs.drop (sz α)).drop (i * sz α + ces.length)) := by
              rw [show (i + 1) * sz α = sz α + i * sz α by rw [Nat.add_mul, Nat.one_mul]; omega, List.take_add, List.drop_drop, List.append_assoc, List.append_assoc, List.append_assoc, Nat.add_assoc]
            rw [e1]
            exact PV.RepRow.append hsp.1 this
      have hk2 := key l xs i h2 hi
      refine ⟨h.off, xs.take (i * sz α) ++ ces ++ xs.drop (i * sz α + ces.length), ⟨?_, .inr ⟨g, cap, splice cur (i * sz α + 0) ces, by rw [List.length_set], PH.upd_same, by rw [List.length_set]; exact h4, h5, by rw [splice_size (by omega)]; exact h6, ?_⟩⟩, hk2⟩
      · rw [hk2.length, pvs_length]
      · rw [List.length_set, Nat.add_zero, ← h7]
        unfold splice
        simp only [List.toList_toArray]
        have e2 : (cur.toList.take (i * sz α)).length = i * sz α := by rw [List.length_take, Array.length_toList]; omega
        have hle : i * sz α ≤ l.length * sz α := by omega
        rw [List.take_append, List.take_append, List.drop_take, List.length_append, e2, List.take_take, List.take_take, Nat.min_eq_right hle, Nat.min_eq_left hle, List.take_of_length_le (l := ces) (by omega)]
    · exact ⟨fun k o hk hn => by rw [PH.upd_other fun e => hn (by rw [e]; rfl)]; exact hk, fun k hk => .inl hk⟩
end
end Go.Proofs.YtlnmmakbgldflaaGreatDoor.Vc
