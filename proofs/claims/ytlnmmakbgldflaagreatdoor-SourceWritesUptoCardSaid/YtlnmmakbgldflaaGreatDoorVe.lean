/-
  THE SYMBOLIC EXECUTOR IS RIGHT, part 2: an operation without effect yields what 'lightL' says.
-/
import Derived.Test.YtlnmmakbgldflaaGreatDoorVd
set_option linter.unusedSimpArgs false
set_option linter.unusedVariables false
set_option maxRecDepth 100000
namespace Go.Proofs.YtlnmmakbgldflaaGreatDoor.Vc
open Go

theorem run_ofOpt {P : Program} {α : Type} (x : Sem α) (v : α) (w : World) (h : x.run P w = .ok v w) : x.run P w = .ok v w := h
theorem run_und {P : Program} {t : TypeId} {d : TypeDesc} (h : P.underlying t = some d) (w : World) : (underlying t).run P w = .ok d w := by
  simp [underlying, h]
theorem run_inf {P : Program} {t : TypeId} {i : TypeInfo} (h : P.info? t = some i) (w : World) : (typeInfo t).run P w = .ok i w := by
  simp [typeInfo, h]
theorem run_siz {P : Program} {t : TypeId} {i : TypeInfo} (h : P.info? t = some i) (w : World) : (sizeOf t).run P w = .ok i.size w := by
  simp [sizeOf, run_inf h]
theorem run_agg {P : Program} {t : TypeId} {d : TypeDesc} (h : P.underlying t = some d) (w : World) : (isAgg t).run P w = .ok (isAggT P t) w := by
  unfold isAggT
  simp [isAgg, run_und h, h]
  cases d <;> rfl
theorem und_of_agg {P : Program} {t : TypeId} (h : isAggT P t = true) : ∃ d, P.underlying t = some d := by
  unfold isAggT at h
  cases hu : P.underlying t with
  | none => simp [hu] at h
  | some d => exact ⟨d, rfl⟩

/-- the cells of a box -/
theorem run_cells {P : Program} {w : World} {b o : Nat} {cs : List Value} {T : TypeId} {f : Nat × Nat} (hb : w.heap[b]? = some (.cells cs.toArray T f)) :
    ∀ (n i : Nat) (acc : Array Value), o + i + n ≤ cs.length → (loadCellsFrom ⟨b, o, none⟩ i n acc).run P w = .ok (acc ++ ((cs.drop (o + i)).take n).toArray) w := by
  intro n
  induction n with
  | zero => intro i acc _; simp [loadCellsFrom]
  | succ n ih =>
    intro i acc h
    have hc : w.cell? ((⟨b, o, none⟩ : Addr).add i) = some (cs[o + i]'(by omega)) := by
      unfold World.cell? Addr.add
      by_cases e : i = 0
      · subst e; simp [hb]
      · simp [e, hb]
    simp only [loadCellsFrom, Sem.run_bind, run_load, hc, Result.andThen_ok]
    rw [ih (i + 1) _ (by omega)]
    congr 1
    have : (cs.drop (o + i)).take (n + 1) = cs[o + i]'(by omega) :: (cs.drop (o + (i + 1))).take n := by
      rw [List.drop_eq_getElem_cons (by omega), List.take_succ_cons]; rfl
    rw [this]
    simp

section
variable {P : Program} {D : Prot} {H0 : PH} {w0 : World} {st : St} {E : List Value} {r : Nat → Nat} {H : PH} {a : Act} {w : World} {G : Guard}

theorem tag_ev (hR : Rel D H0 w0 st E r H a w) {s : SV} {t : Tag} (h : tagOf st.tags s = t) : t.ok (ev E r s) = true := h ▸ tagOf_sound r hR.tags s

theorem partL_ev {t : TypeId} {cs : List SV} {off : Nat} {v : VE} (h : partL P t cs off = some v) : (part t (cs.map (ev E r)).toArray off).run P w = .ok (evV E r v) w := by
  unfold partL at h
  split at h
  · rename_i ha
    obtain ⟨d, hd⟩ := und_of_agg ha
    cases hi : P.info? t with
    | none => simp [hi] at h
    | some i =>
      simp only [hi, cut] at h
      split at h
      · simp at h
        subst h
        simp [part, run_agg hd, ha, run_siz hi, evV, List.map_take, List.map_drop]
      · simp at h
  · rename_i ha
    cases hu : P.underlying t with
    | none => simp [hu] at h
    | some d =>
      simp only [hu] at h
      cases hc : cs[off]? with
      | none => simp [hc] at h
      | some s =>
        simp [hc] at h
        subst h
        simp [part, run_agg hu, ha, hc, evV]

theorem partL_load {T : TypeId} {b : Bx} {off : Nat} {v : VE} (hb : w.heap[r b.id]? = some (.cells (b.cs.map (ev E r)).toArray b.ty)) (h : partL P T b.cs off = some v) :
    (loadVar T ⟨r b.id, off, none⟩).run P w = .ok (evV E r v) w := by
  unfold partL at h
  split at h
  · rename_i ha
    obtain ⟨d, hd⟩ := und_of_agg ha
    cases hi : P.info? T with
    | none => simp [hi] at h
    | some i =>
      simp only [hi, cut] at h
      split at h
      · rename_i hle
        simp at h
        subst h
        have hrun := run_cells (P := P) (o := off) (cs := b.cs.map (ev E r)) hb i.size 0 #[] (by simp; omega)
        simp [loadVar, run_agg hd, ha, run_siz hi, loadCells, hrun, evV, List.map_take, List.map_drop]
      · simp at h
  · rename_i ha
    cases hu : P.underlying T with
    | none => simp [hu] at h
    | some d =>
      simp only [hu] at h
      cases hc : b.cs[off]? with
      | none => simp [hc] at h
      | some s =>
        simp [hc] at h
        subst h
        have hcell : w.cell? ⟨r b.id, off, none⟩ = some (ev E r s) := by simp [World.cell?, hb, hc]
        simp [loadVar, run_agg hu, ha, hcell, evV]

theorem findBx_mem {d : Nat} {b : Bx} (h : findBx st d = some b) : b ∈ st.bx ∧ b.id = d := by
  unfold findBx at h
  exact ⟨List.mem_of_find?_eq_some h, by have := List.find?_some h; simpa using this⟩

theorem fieldOff_run {T : TypeId} {f : Nat} {fd : Field} (h : fieldOff P T f = some fd) : ∃ fs, P.underlying T = some (.struct fs) ∧ fs[f]? = some fd := by
  unfold fieldOff at h
  split at h
  · rename_i fs hu; exact ⟨fs, hu, h⟩
  · cases h

theorem nn_sound (hR : Rel D H0 w0 st E r H a w) {p : SV} (hn : ∀ c ∈ nnL st p, c.noBox = true ∧ c.holds E) : (pOf (ev E r p)).isSome = true := by
  have key : ∀ p : SV, nnKnown st.kn p = true → (pOf (ev E r p)).isSome = true := by
    have get : ∀ q : SV, st.kn.any (fun c => c.same (.some q)) = true → (pOf (ev E r q)).isSome = true := fun q h => by
      obtain ⟨c, hc, he⟩ := List.any_eq_true.1 h
      have e := ckSame_eq he
      obtain ⟨hb, hh⟩ := hR.kn c hc
      subst e
      rw [ev_ev0 hb]; exact hh
    intro p
    induction p with
    | elt s i z _ _ =>
      intro h
      simp only [nnKnown, Bool.or_eq_true] at h
      rcases h with h | h
      · obtain ⟨c, hc, he⟩ := List.any_eq_true.1 h
        have e := ckSame_eq he
        obtain ⟨hb, hh⟩ := hR.kn c hc
        subst e
        simp only [Chk.noBox, Bool.and_eq_true] at hb
        have h1 := hh.1
        simp only [ev, eltV, pOf]
        rw [ev_ev0 hb.1, Option.isSome_map]
        exact h1
      · exact get _ h
    | padd p n ih =>
      intro h
      simp only [nnKnown, Bool.or_eq_true] at h
      rcases h with h | h
      · have := ih h
        simp only [ev, pOf, Option.isSome_map]
        exact this
      · exact get _ h
    | _ => intro h; exact get _ h
  unfold nnL at hn
  split at hn
  · rename_i h; exact key p h
  · obtain ⟨hb, hh⟩ := hn _ (List.mem_singleton.2 rfl)
    rw [ev_ev0 (s := p) hb]; exact hh

theorem eqIn_bool {T : TypeId} (hu : P.underlying T = some .bool) (i j : Bool) (d : Nat) : (Op.equalIn (d + 1) T (.bool i) (.bool j)).run P w = .ok (i == j) w := by
  simp [Op.equalIn, run_und hu]
theorem eqIn_sl {T e : TypeId} (hu : P.underlying T = some (.slice e)) (i : Option Addr) (m n : Nat) (d : Nat) : (Op.equalIn (d + 1) T (.slice i m n) (.slice none 0 0)).run P w = .ok i.isNone w := by
  cases i <;> simp [Op.equalIn, run_und hu]
theorem eqIn_map {T k e : TypeId} (hu : P.underlying T = some (.map k e)) (i : Option Nat) (d : Nat) : (Op.equalIn (d + 1) T (.map i) (.map none)).run P w = .ok i.isNone w := by
  cases i <;> simp [Op.equalIn, run_und hu]
theorem eqIn_ptr {T e : TypeId} (hu : P.underlying T = some (.pointer e)) (i : Option Addr) (d : Nat) : (Op.equalIn (d + 1) T (.pointer i) (.pointer none)).run P w = .ok i.isNone w := by
  cases i <;> simp [Op.equalIn, run_und hu]
theorem eql_of {T : TypeId} {x y : Value} {b : Bool} (he : binOp .eql T x y = (do pure (.bool (← Op.equal T x y)))) (h : (Op.equalIn (9999 + 1) T x y).run P w = .ok b w) : (binOp .eql T x y).run P w = .ok (.bool b) w := by
  rw [he]
  have : (Op.equal T x y).run P w = .ok b w := h
  simp [this]
theorem neq_of {T : TypeId} {x y : Value} {b : Bool} (he : binOp .neq T x y = (do pure (.bool (!(← Op.equal T x y))))) (h : (Op.equalIn (9999 + 1) T x y).run P w = .ok b w) : (binOp .neq T x y).run P w = .ok (.bool (!b)) w := by
  rw [he]
  have : (Op.equal T x y).run P w = .ok b w := h
  simp [this]

theorem isNil_sl {v : Value} (h : Tag.sl.ok v = true) : isNilV v = (slBase v).isNone := by
  rw [ok_sl h]; cases slBase v <;> rfl
theorem isNil_ptr {v : Value} (h : Tag.ptr.ok v = true) : isNilV v = (pOf v).isNone := by
  rw [ok_ptr h]; cases pOf v <;> rfl
theorem isNilC_eq {c : Nat} {s : SV} (h : isNilC c s = true) : s = .nil c := by
  cases s <;> simp [isNilC] at h ⊢
  exact h.symm

theorem wrap_nneg {k : IntKind} (h : (!k.signed) = true) (x : Int) : 0 ≤ k.wrap x := by
  cases k <;> simp [IntKind.signed] at h <;> simp [IntKind.wrap, IntKind.signed, IntKind.bits] <;> omega

theorem binL_sound (hR : Rel D H0 w0 st E r H a w) {op : BinOp} {xT : TypeId} {x y : SV} {cks : List Chk} {v : VE} (h : binL P st.tags op xT x y = some (cks, v))
    (hc : ∀ c ∈ cks, c.noBox = true ∧ c.holds E) (xo yo : Operand) : (do eqGuard op xT xo yo (ev E r x) (ev E r y); binOp op xT (ev E r x) (ev E r y) : Sem Value).run P w = .ok (evV E r v) w := by
  unfold binL at h
  split at h
  · rename_i k k' h1 h2
    have e1 := ok_int (tag_ev hR h1)
    have e2 := ok_int (tag_ev hR h2)
    have hg : ∀ i j : Int, (eqGuard op xT xo yo (.int k i) (.int k' j)).run P w = .ok () w := fun i j => by unfold eqGuard; split <;> simp
    have hev : ∀ o, evV E r (.sc (.ar o k x y)) = .int k (arI o k (iOf (ev E r x)) (iOf (ev E r y))) := fun _ => rfl
    have hcv : ∀ o, evV E r (.sc (.cmp o x y)) = .bool (cmpI o (iOf (ev E r x)) (iOf (ev E r y))) := fun _ => rfl
    rw [e1, e2]
    simp only [Sem.run_bind, hg, Result.andThen_ok]
    split at h
    · rename_i hop
      have hy : 0 ≤ iOf (ev E r y) := by
        split at h
        · rename_i hn
          cases y <;> simp only [isNneg] at hn <;> first
            | exact absurd hn Bool.false_ne_true
            | exact of_decide_eq_true hn
            | exact wrap_nneg hn _
        · cases h
          obtain ⟨hb, hh⟩ := hc _ (List.mem_singleton.2 rfl)
          have : 0 ≤ iOf (ev0 E y) := hh
          rwa [← ev_ev0 (r := r) (s := y) hb] at this
      have hv : v = .sc (.ar op k x y) := by split at h <;> (cases h; rfl)
      subst hv
      rw [hev]
      rcases hop with rfl | rfl <;> simp [binOp, Op.shift, Int.not_lt.2 hy, arI]
    · rename_i hop
      split at h
      · rename_i hk
        subst hk
        split at h
        · rename_i hcmp
          cases h
          rw [hcv]
          cases op <;> simp [isCmp] at hcmp <;> simp [binOp, Op.intCmp, cmpI]
        · rename_i hncmp
          split at h
          · rename_i hq
            have hy : iOf (ev E r y) ≠ 0 := by
              split at h
              · rename_i hn
                cases y <;> simp only [isNz] at hn <;> first
                  | exact absurd hn Bool.false_ne_true
                  | exact of_decide_eq_true hn
              · cases h
                obtain ⟨hb, hh⟩ := hc _ (List.mem_singleton.2 rfl)
                have : iOf (ev0 E y) ≠ 0 := hh
                rwa [← ev_ev0 (r := r) (s := y) hb] at this
            have hv : v = .sc (.ar op k x y) := by split at h <;> (cases h; rfl)
            subst hv
            rw [hev]
            rcases hq with rfl | rfl <;> simp [binOp, Op.intDiv, hy, arI]
          · rename_i hnq
            split at h
            · rename_i har
              cases h
              rw [hev]
              cases op <;> simp [isArith, isCmp] at har hncmp hop hnq <;> simp [binOp, Op.intArith, Op.intBits, arI]
            · cases h
      · cases h
  · rename_i h1 h2
    have e1 := ok_str (tag_ev hR h1)
    have e2 := ok_str (tag_ev hR h2)
    have hg : ∀ i j, (eqGuard op xT xo yo (.string i) (.string j)).run P w = .ok () w := fun i j => by unfold eqGuard; split <;> simp
    have hcv : ∀ o, evV E r (.sc (.scmp o x y)) = .bool (cmpS o (sOf (ev E r x)) (sOf (ev E r y))) := fun _ => rfl
    rw [e1, e2]
    simp only [Sem.run_bind, hg, Result.andThen_ok]
    split at h
    · rename_i hcmp
      cases h
      rw [hcv]
      cases op <;> simp [isCmp] at hcmp <;> simp [binOp, Op.stringOp, cmpS]
    · split at h
      · rename_i hop
        cases h
        subst hop
        obtain ⟨hb, hh⟩ := hc _ (List.mem_singleton.2 rfl)
        simp only [Chk.noBox, Bool.and_eq_true] at hb
        have h3 : (((sOf (ev0 E x)).size + (sOf (ev0 E y)).size : Nat) : Int) ≤ IntKind.i64.max := hh
        rw [← ev_ev0 (r := r) hb.1, ← ev_ev0 (r := r) hb.2] at h3
        have h4 : ¬ ((((sOf (ev E r x)).size + (sOf (ev E r y)).size : Nat) : Int) > IntKind.i64.max) := Int.not_lt.2 h3
        simp only [binOp, Op.stringOp, if_neg h4, Sem.run_pure, evV, ev]
      · cases h
  · rename_i h1 h2
    have e1 := ok_bool (tag_ev hR h1)
    have e2 := ok_bool (tag_ev hR h2)
    have hg : ∀ i j, (eqGuard op xT xo yo (.bool i) (.bool j)).run P w = .ok () w := fun i j => by unfold eqGuard; split <;> simp
    rw [e1, e2]
    simp only [Sem.run_bind, hg, Result.andThen_ok]
    split at h
    · rename_i hu
      have hu' : P.underlying xT = some .bool := by
        unfold isBoolT at hu
        cases hx : P.underlying xT with
        | none => simp [hx] at hu
        | some d => cases d <;> simp [hx] at hu ⊢
      split at h
      · rename_i hop; cases h; subst hop
        exact eql_of rfl (eqIn_bool hu' _ _ _)
      · split at h
        · rename_i hop; cases h; subst hop
          exact neq_of rfl (eqIn_bool hu' _ _ _)
        · cases h
    · cases h
  · rename_i h1 h2
    have e1 := ok_sl (tag_ev hR h1)
    split at h
    · rename_i hu
      have hu' : ∃ e, P.underlying xT = some (.slice e) := by
        have hu := hu.1
        unfold isSlT at hu
        cases hx : P.underlying xT with
        | none => simp [hx] at hu
        | some d => cases d <;> simp [hx] at hu ⊢
      obtain ⟨e, hu'⟩ := hu'
      have hy : y = .nil 1 := isNilC_eq hu.2
      subst hy
      have hn : ev E r (.nil 1) = .slice none 0 0 := rfl
      rw [hn, e1]
      have hg : ∀ i m n, (eqGuard op xT xo yo (.slice i m n) (.slice none 0 0)).run P w = .ok () w := fun i m n => by unfold eqGuard; split <;> simp
      simp only [Sem.run_bind, hg, Result.andThen_ok]
      have hnil : evV E r (.sc (.isnil x)) = .bool (slBase (ev E r x)).isNone := by
        show Value.bool (isNilV (ev E r x)) = _
        rw [isNil_sl (tag_ev hR h1)]
      have hnil2 : evV E r (.sc (.not (.isnil x))) = .bool (!(slBase (ev E r x)).isNone) := by
        show Value.bool (!isNilV (ev E r x)) = _
        rw [isNil_sl (tag_ev hR h1)]
      split at h
      · rename_i hop; cases h; subst hop
        rw [hnil]
        exact eql_of rfl (eqIn_sl hu' _ _ _ _)
      · split at h
        · rename_i hop; cases h; subst hop
          rw [hnil2]
          exact neq_of rfl (eqIn_sl hu' _ _ _ _)
        · cases h
    · cases h
  · rename_i h1 h2
    obtain ⟨m, e1⟩ := ok_map (tag_ev hR h1)
    split at h
    · rename_i hu
      have hu' : ∃ k e, P.underlying xT = some (.map k e) := by
        have hu := hu.1
        unfold isMapT at hu
        cases hx : P.underlying xT with
        | none => simp [hx] at hu
        | some d => cases d <;> simp [hx] at hu ⊢
      obtain ⟨ke, e, hu'⟩ := hu'
      have hy : y = .nil 2 := isNilC_eq hu.2
      subst hy
      have hn : ev E r (.nil 2) = .map none := rfl
      rw [hn, e1]
      have hg : ∀ i, (eqGuard op xT xo yo (.map i) (.map none)).run P w = .ok () w := fun i => by unfold eqGuard; split <;> simp
      simp only [Sem.run_bind, hg, Result.andThen_ok]
      have hnil : evV E r (.sc (.isnil x)) = .bool m.isNone := by
        show Value.bool (isNilV (ev E r x)) = _
        rw [e1]
        cases m <;> rfl
      have hnil2 : evV E r (.sc (.not (.isnil x))) = .bool (!m.isNone) := by
        show Value.bool (!isNilV (ev E r x)) = _
        rw [e1]
        cases m <;> rfl
      split at h
      · rename_i hop; cases h; subst hop
        rw [hnil]
        exact eql_of rfl (eqIn_map hu' _ _)
      · split at h
        · rename_i hop; cases h; subst hop
          rw [hnil2]
          exact neq_of rfl (eqIn_map hu' _ _)
        · cases h
    · cases h
  · rename_i h1 h2
    have e1 := ok_ptr (tag_ev hR h1)
    split at h
    · rename_i hu
      have hu' : ∃ e, P.underlying xT = some (.pointer e) := by
        have hu := hu.1
        unfold isPtrT at hu
        cases hx : P.underlying xT with
        | none => simp [hx] at hu
        | some d => cases d <;> simp [hx] at hu ⊢
      obtain ⟨e, hu'⟩ := hu'
      have hy : y = .nil 0 := isNilC_eq hu.2
      subst hy
      have hn : ev E r (.nil 0) = .pointer none := rfl
      rw [hn, e1]
      have hg : ∀ i, (eqGuard op xT xo yo (.pointer i) (.pointer none)).run P w = .ok () w := fun i => by unfold eqGuard; split <;> simp
      simp only [Sem.run_bind, hg, Result.andThen_ok]
      have hnil : evV E r (.sc (.isnil x)) = .bool (pOf (ev E r x)).isNone := by
        show Value.bool (isNilV (ev E r x)) = _
        rw [isNil_ptr (tag_ev hR h1)]
      have hnil2 : evV E r (.sc (.not (.isnil x))) = .bool (!(pOf (ev E r x)).isNone) := by
        show Value.bool (!isNilV (ev E r x)) = _
        rw [isNil_ptr (tag_ev hR h1)]
      split at h
      · rename_i hop; cases h; subst hop
        rw [hnil]
        exact eql_of rfl (eqIn_ptr hu' _ _)
      · split at h
        · rename_i hop; cases h; subst hop
          rw [hnil2]
          exact neq_of rfl (eqIn_ptr hu' _ _)
        · cases h
    · cases h
  · cases h
end

end Go.Proofs.YtlnmmakbgldflaaGreatDoor.Vc
