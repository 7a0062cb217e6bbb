/-
  THE SYMBOLIC EXECUTOR IS RIGHT, part 8: a function.
-/
import Derived.Test.YtlnmmakbgldflaaGreatDoorVk
set_option linter.unusedSimpArgs false
set_option linter.unusedVariables false
set_option maxRecDepth 100000
namespace Go.Proofs.YtlnmmakbgldflaaGreatDoor.Vc
open Go

section
variable {P : Program} {D : Prot} {H0 : PH} {w0 : World} {st : St} {E : List Value} {r : Nat → Nat} {H : PH} {a : Act} {w : World} {X : List PanicEntry → PH → Prop} {L : LK}

theorem atomsFrom_under : ∀ (ts : List Tag) (n : Nat), (atomsFrom n ts).all (SV.under (n + ts.length)) = true
  | [], n => rfl
  | t :: ts, n => by
    simp only [atomsFrom, List.all_cons, Bool.and_eq_true, List.length_cons]
    refine ⟨by simp [SV.under], ?_⟩
    rw [show n + (ts.length + 1) = n + 1 + ts.length by omega]
    exact atomsFrom_under ts (n + 1)
theorem tagsOk_drop : ∀ {ts us : List Tag} {vs : List Value}, tagsOk (ts ++ us) vs = true → tagsOk us (vs.drop ts.length) = true
  | [], us, vs, h => by simpa using h
  | t :: ts, us, [], h => absurd h Bool.false_ne_true
  | t :: ts, us, v :: vs, h => by
    simp only [List.cons_append, tagsOk, Bool.and_eq_true] at h
    simpa using tagsOk_drop h.2
theorem paramEs_ev : ∀ (l : List RS) (E1 E2 : List Value), l.all RS.plain = true → tagsOk (l.flatMap RS.tags) E2 = true →
    (paramEs E1.length l).length = l.length ∧ (packAll l E2).length = l.length ∧ ∀ (t : Nat) (e : Ent), (paramEs E1.length l)[t]? = some e → ∃ v, (packAll l E2)[t]? = some v ∧ e.g = [] ∧ evV (E1 ++ E2) r e.v = v
  | [], E1, E2, _, _ => ⟨rfl, rfl, fun t e h => by simp [paramEs] at h⟩
  | rs :: l, E1, E2, hp, ht => by
    simp only [List.all_cons, Bool.and_eq_true] at hp
    simp only [List.flatMap_cons] at ht
    have hlen : rs.tags.length ≤ E2.length := by have := tagsOk_length ht; simp at this; omega
    have h1 : tagsOk rs.tags (E2.take rs.tags.length) = true := by
      have := tagsOk_take ht rs.tags.length
      simpa using this
    have h2 : tagsOk (l.flatMap RS.tags) (E2.drop rs.tags.length) = true := tagsOk_drop ht
    have hE1 : (E1 ++ E2.take rs.tags.length).length = E1.length + rs.tags.length := by simp; omega
    obtain ⟨i1, i2, i3⟩ := paramEs_ev l (E1 ++ E2.take rs.tags.length) (E2.drop rs.tags.length) hp.2 h2
    rw [hE1] at i1 i3
    refine ⟨by simp [paramEs, i1], by simp [packAll, i2], fun t e he => ?_⟩
    cases t with
    | zero =>
      simp only [paramEs, List.getElem?_cons_zero, Option.some.injEq] at he
      subst he
      refine ⟨rs.pack (E2.take rs.tags.length), by simp only [packAll, List.getElem?_cons_zero], rfl, ?_⟩
      have hf : rs.fine := by cases rs <;> first | trivial | exact absurd hp.1 Bool.false_ne_true
      have hu : (rs.ve E1.length).under (E1 ++ E2.take rs.tags.length).length = true := by
        rw [hE1]
        cases rs with
        | sc t => simp [RS.ve, VE.under, SV.under, RS.tags]
        | ag ts => exact atomsFrom_under ts _
        | tu l => exact absurd hp.1 Bool.false_ne_true
      have h3 := RS.pack_ev (r := r) hf (E := E1) h1
      rw [← h3, ← evV_ext (F := E2.drop rs.tags.length) hu, List.append_assoc, List.take_append_drop]
    | succ t =>
      simp only [paramEs, List.getElem?_cons_succ] at he
      obtain ⟨v, hv, hg, hev⟩ := i3 t e he
      refine ⟨v, by simpa [packAll] using hv, hg, ?_⟩
      rw [← hev, List.append_assoc, List.take_append_drop]

def resF (tmps : Array Value) (x : ResultVar) : Sem Value :=
  match x with
  | .tmp t => pure (tmps.getD t undef)
  | .cell c t => do loadVar t (← asAddr (tmps.getD c undef))
theorem results_eq (fn : Func) (tmps : Array Value) : results fn tmps = (do
    let vs ← fn.results.mapM (resF tmps)
    pure (if h : vs.size = 1 then vs[0] else .tuple vs)) := by
  unfold results
  congr 2

theorem resL_run (hR : Rel D H0 w0 st E r H a w) {x : ResultVar} {v : VE} (h : resL P st x = some v) : (resF a.tmps x).run P w = .ok (evV E r v) w := by
  have g0 : Guard.holds E r ([] : Guard) := fun x hx => by cases hx
  cases x with
  | tmp t =>
    have := opv_sound hR g0 (x := .tmp t) h
    simp only [resF, Sem.run_pure]
    rw [← this]; rfl
  | cell c t =>
    simp only [resL] at h
    split at h
    · rename_i d off hs
      split at h
      · rename_i b hb
        obtain ⟨hm, hid⟩ := findBx_mem hb
        have h1 := ops1_sound hR g0 (x := .tmp c) hs
        have h2 : a.tmps.getD c undef = .pointer (some ⟨r d, off, none⟩) := h1
        have h3 := partL_load (P := P) (T := t) (hR.bx b hm).1 h
        subst hid
        simp only [resF, Sem.run_bind, h2, asAddr, Sem.run_pure, Result.andThen_ok, h3]
      · cases h
    · cases h

theorem resL_all (hR : Rel D H0 w0 st E r H a w) : ∀ {l : List ResultVar} {vs : List VE}, l.mapM (resL P st) = some vs → (l.mapM (resF a.tmps)).run P w = .ok (vs.map (evV E r)) w
  | [], vs, h => by simp at h; subst h; simp
  | x :: l, vs, h => by
    simp only [List.mapM_cons, Option.bind_eq_bind, Option.bind_eq_some_iff] at h
    obtain ⟨v, hv, us, hus, h⟩ := h
    cases h
    simp only [List.mapM_cons, Sem.run_bind, List.map_cons, resL_run hR hv, Result.andThen_ok, resL_all hR hus, Sem.run_pure]

theorem partOf_ev {v : VE} {p : Bool × List SV} (h : partOf v = some p) : partV E r p = evV E r v := by
  unfold partOf at h
  split at h
  · cases h; rfl
  · cases h; rfl
  · cases h
theorem parts_ev : ∀ {vs : List VE} {ps : List (Bool × List SV)}, vs.mapM partOf = some ps → ps.map (partV E r) = vs.map (evV E r) ∧ ps.length = vs.length
  | [], ps, h => by simp at h; subst h; exact ⟨rfl, rfl⟩
  | v :: vs, ps, h => by
    simp only [List.mapM_cons, Option.bind_eq_bind, Option.bind_eq_some_iff] at h
    obtain ⟨p, hp, qs, hqs, h⟩ := h
    cases h
    obtain ⟨i1, i2⟩ := parts_ev hqs
    exact ⟨by simp [partOf_ev hp, i1], by simp [i2]⟩

theorem retL_sound (hR : Rel D H0 w0 st E r H a w) {fn : Func} {K : VE → List Value → PH → LK → Prop} (h : den P X (retL P fn st) E H L K) :
    ∃ ve, K ve E H L ∧ (results fn a.tmps).run P w = .ok (evV E (fun _ => 0) ve) w := by
  have hres : ∀ vs, fn.results.toList.mapM (resL P st) = some vs → (results fn a.tmps).run P w = .ok (if h : (vs.map (evV E r)).toArray.size = 1 then (vs.map (evV E r)).toArray[0] else .tuple (vs.map (evV E r)).toArray) w := by
    intro vs hvs
    have h1 := resL_all hR hvs
    rw [results_eq, Array.mapM_eq_mapM_toList]
    simp only [Sem.run_bind, Sem.run_map, h1, Result.andThen_ok, Sem.run_pure]
  unfold retL at h
  split at h
  · rename_i v hvs
    split at h
    · rename_i hnb
      refine ⟨v, h, ?_⟩
      rw [hres _ hvs, ← evV_noBox (r := r) hnb]
      rfl
    · exact h.elim
  · rename_i vs hne hvs
    split at h
    · rename_i ps hps
      split at h
      · rename_i hnb
        refine ⟨.tu ps, h, ?_⟩
        obtain ⟨i1, i2⟩ := parts_ev (E := E) (r := r) hps
        rw [hres _ hvs, ← evV_noBox (r := r) hnb]
        have hs : ¬ (vs.map (evV E r)).toArray.size = 1 := by
          intro h1
          simp at h1
          obtain ⟨x, hx⟩ := List.length_eq_one_iff.1 h1
          exact hne x hx
        rw [dif_neg hs]
        simp only [evV, i1]
      · exact h.elim
    · exact h.elim
  · exact h.elim

/-- A FUNCTION does what its formula says. -/
theorem execF_sound {op : Opt} (hd : DrawSound P op.pub) {f : FuncId} {fn : Func} (hf : P.funcs[f]? = some fn) {args : Array Value} {E : List Value} (hE : tagsOk ((paramRS P fn).flatMap RS.tags) E = true) (hargs : args.toList = packAll (paramRS P fn) E) {H : PH} {R : Ending → PH → Prop}
    (hden : den P (fun c H' => R (.panicked c) H') (execF P op fn) E H [] (fun ve E' H' _ => R (.returned (evV E' (fun _ => 0) ve)) H')) : Tri P f args H R := by
  intro w hv
  unfold execF at hden
  split at hden
  · rename_i c hb
    split at hden
    · rename_i hpl
      rw [den_bind] at hden
      refine calls_of_wp hf hb ?_
      obtain ⟨p1, p2, p3⟩ := paramEs_ev (r := fun _ => 0) (paramRS P fn) [] E hpl hE
      have hsz : args.size = (paramRS P fn).length := by rw [← p2, ← hargs]; simp
      have hR : Rel (.plain []) H w (st0 P fn) E (fun _ => 0) H { tmps := args ++ Array.replicate (fn.ntmps - args.size) undef, defers := [] } w := by
        refine { adv := .refl hv, tags := hE, size := ?_, df := rfl, fr := ?_, bx := (fun b hb => by cases hb), inj := (fun b hb => by cases hb), nd := List.nodup_nil, as := (fun x hx => by cases hx), kn := (fun c hc => by cases hc) }
        · simp only [st0, List.length_append, List.length_replicate, Array.size_append, Array.size_replicate]
          have : (paramEs 0 (paramRS P fn)).length = (paramRS P fn).length := p1
          rw [this, hsz]
        · intro t e he hj
          have hp1 : (paramEs 0 (paramRS P fn)).length = (paramRS P fn).length := p1
          simp only [st0, List.getElem?_append, hp1] at he
          have hget : ({ tmps := args ++ Array.replicate (fn.ntmps - args.size) undef, defers := [] } : Act).tmps.getD t undef = if t < args.size then args.toList.getD t undef else undef := by
            simp only [Array.getD_eq_getD_getElem?, Array.getElem?_append, List.getD_eq_getElem?_getD, Array.getElem?_toList]
            split
            · rfl
            · simp only [Array.getElem?_replicate]
              split <;> rfl
          rw [hget]
          by_cases ht : t < (paramRS P fn).length
          · rw [if_pos ht] at he
            obtain ⟨v, hv', hg, hev⟩ := p3 t e he
            rw [if_pos (by rw [hsz]; exact ht), hargs, List.getD_eq_getElem?_getD, hv', hg]
            refine ⟨fun _ => ?_, fun h => absurd (fun x hx => by cases hx) h⟩
            rw [← hev]; rfl
          · rw [if_neg ht] at he
            rw [if_neg (by rw [hsz]; exact ht)]
            have : e = none0 := by
              rw [List.getElem?_replicate] at he
              split at he
              · cases he; rfl
              · cases he
            subst this
            exact ⟨fun _ => rfl, fun _ => rfl⟩
      refine execC_sound hd c (fun o _ => Prot.plain_may [] o) (st0 P fn) E _ H _ w [] _ _ hR hden ?_ ?_
      · intro e st' F r' H' L' a' w' h1 _ _ h4
        cases e with
        | normal =>
          obtain ⟨ve, hk, hrun⟩ := retL_sound h1 h4
          exact ⟨h1.df, _, hrun, H', h1.adv, hk⟩
        | ret =>
          obtain ⟨ve, hk, hrun⟩ := retL_sound h1 h4
          exact ⟨h1.df, _, hrun, H', h1.adv, hk⟩
        | exit j => exact h4.elim
      · rintro ch a' w' ⟨H', h1, h2⟩ hdf
        exact ⟨hdf, H', h1, h2⟩
    · exact hden.elim
  · exact hden.elim
end
end Go.Proofs.YtlnmmakbgldflaaGreatDoor.Vc
