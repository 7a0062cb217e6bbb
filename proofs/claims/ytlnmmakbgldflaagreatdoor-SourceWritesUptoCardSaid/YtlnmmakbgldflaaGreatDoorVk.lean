/-
  THE SYMBOLIC EXECUTOR IS RIGHT, part 7: code.
-/
import Derived.Test.YtlnmmakbgldflaaGreatDoorVj
set_option linter.unusedSimpArgs false
set_option linter.unusedVariables false
set_option maxRecDepth 100000
namespace Go.Proofs.YtlnmmakbgldflaaGreatDoor.Vc
open Go

/-- L' tells of the meeting points below n what L tells -/
def LExt (n : Nat) (L L' : LK) : Prop := ∀ i, i < n → L'.lookup i = L.lookup i
theorem LExt.refl (n : Nat) (L : LK) : LExt n L L := fun _ _ => rfl
theorem LExt.trans {n m : Nat} {L L' L'' : LK} (h : LExt n L L') (k : LExt m L' L'') (hm : n ≤ m) : LExt n L L'' := fun i hi => (k i (by omega)).trans (h i hi)
theorem LExt.cons {n : Nat} {L L' : LK} {J : List Value → PH → Prop} (h : LExt (n + 1) ((n, J) :: L) L') : LExt n L L' := fun i hi => by
  rw [h i (by omega), List.lookup_cons]
  have : (i == n) = false := by simp; omega
  rw [this]
theorem LExt.get {n : Nat} {L L' : LK} {J : List Value → PH → Prop} (h : LExt (n + 1) ((n, J) :: L) L') : L'.lookup n = some J := by
  rw [h n (by omega), List.lookup_cons]
  simp

def exOf : Ex → Exit
  | .normal => .normal
  | .exit id => .exit id
  | .ret => .ret

section
variable {P : Program} {D : Prot} {H0 : PH} {w0 : World} {X : List PanicEntry → PH → Prop}

/-- what is owed of a region whose order is drawn -/
def DrawSound (P : Program) (pub : List Nat) : Prop := ∀ (D : Prot) (H0 : PH) (w0 : World) (X : List PanicEntry → PH → Prop) (L : LK) (id : Nat) (ops : Array Oper), (∀ o ∈ ops.toList, D.may o) → ∀ (st : St) (E : List Value) (r : Nat → Nat) (H : PH) (a : Act) (w : World) (K : St → List Value → PH → LK → Prop) (Q : Exit → Act → World → Prop),
  P.follows .mixedOrders = true → Rel D H0 w0 st E r H a w → den P X (drawR P pub ops st) E H L K →
  (∀ st' F r' H' a' w', st'.nl = st.nl → Rel D H0 w0 st' (E ++ F) r' H' a' w' → K st' (E ++ F) H' L → Q .normal a' w') →
  (∀ ch a' w', PanOf H0 w0 X ch w' → D.ok a' → Q (.panic ch) a' w') → (Code.region id ops true).wp P Q a w

theorem sameEnt_ev {E : List Value} {r : Nat → Nat} {e f : Ent} (h : sameEnt e f = true) : e.g = [] ∧ f.g = [] ∧ evV E r e.v = evV E r f.v ∧ (e.v = .junk → False) ∧ (f.v = .junk → False) := by
  simp only [sameEnt, Bool.and_eq_true] at h
  obtain ⟨⟨h1, h2⟩, h3⟩ := h
  refine ⟨List.isEmpty_iff.1 h1, List.isEmpty_iff.1 h2, ?_, ?_, ?_⟩
  · generalize e.v = x at h3 ⊢
    generalize f.v = y at h3 ⊢
    cases x <;> cases y <;> simp only [VE.same] at h3 <;> first
      | exact absurd h3 Bool.false_ne_true
      | skip
    · rw [same_eq h3]
    · rename_i xs ys
      simp only [Bool.and_eq_true, beq_iff_eq] at h3
      have : xs = ys := by
        obtain ⟨hl, ha⟩ := h3
        induction xs generalizing ys with
        | nil => cases ys with
          | nil => rfl
          | cons y ys => simp at hl
        | cons x xs ih => cases ys with
          | nil => simp at hl
          | cons y ys =>
            simp only [List.zip_cons_cons, List.all_cons, Bool.and_eq_true] at ha
            rw [same_eq ha.1, ih ys (by simpa using hl) ha.2]
      rw [this]
    · rename_i xs ys
      simp only [Bool.and_eq_true, beq_iff_eq] at h3
      have e1 : xs = [] := List.length_eq_zero_iff.1 h3.1
      have e2 : ys = [] := List.length_eq_zero_iff.1 h3.2
      subst e1 e2; rfl
  · intro hj; rw [hj] at h3; cases hf : f.v <;> rw [hf] at h3 <;> exact absurd h3 Bool.false_ne_true
  · intro hj; rw [hj] at h3; cases hf : e.v <;> rw [hf] at h3 <;> exact absurd h3 Bool.false_ne_true

theorem mergeEs_get {c : SV} : ∀ {es fs gs : List Ent}, es.length = fs.length → es.length = gs.length → (mergeEs c es fs gs).length = es.length ∧
    ∀ (t : Nat) (m : Ent), (mergeEs c es fs gs)[t]? = some m → (m.v = .junk → False) → ∃ e f, es[t]? = some e ∧ fs[t]? = some f ∧ m.g = [] ∧ ((sameEnt e f = true ∧ m = e) ∨ (e.g = [] ∧ f.g = [] ∧ ∃ x y, e.v = .sc x ∧ f.v = .sc y ∧ m.v = .sc (.pick c x y)))
  | [], fs, gs, h1, h2 => by
    refine ⟨by simp [mergeEs], fun t m hm => by simp [mergeEs] at hm⟩
  | e :: es, [], gs, h1, h2 => by simp at h1
  | e :: es, f :: fs, [], h1, h2 => by simp at h2
  | e :: es, f :: fs, g :: gs, h1, h2 => by
    obtain ⟨i1, i2⟩ := mergeEs_get (c := c) (es := es) (fs := fs) (gs := gs) (by simpa using h1) (by simpa using h2)
    refine ⟨by simp [mergeEs, i1], fun t m hm hj => ?_⟩
    cases t with
    | zero =>
      simp only [mergeEs, List.getElem?_cons_zero, Option.some.injEq] at hm
      refine ⟨e, f, rfl, rfl, ?_⟩
      split at hm
      · rename_i hs
        subst hm
        exact ⟨(sameEnt_ev (E := []) (r := fun _ => 0) hs).1, .inl ⟨hs, rfl⟩⟩
      · split at hm
        · rename_i s x y he hf hg hx hy
          subst hm
          exact ⟨rfl, .inr ⟨he, hf, x, y, hx, hy, rfl⟩⟩
        · subst hm; exact absurd rfl (fun h => hj h)
    | succ t =>
      simp only [mergeEs, List.getElem?_cons_succ] at hm
      obtain ⟨e', f', h3, h4, h5⟩ := i2 t m hm hj
      exact ⟨e', f', by simpa using h3, by simpa using h4, h5⟩

theorem mergeBs_get {c : SV} : ∀ {as bs ms : List Bx}, mergeBs c as bs = some ms → ms.map (·.id) = as.map (·.id) ∧ ms.map (·.id) = bs.map (·.id) ∧
    (∀ m ∈ ms, ∃ x y, x ∈ as ∧ y ∈ bs ∧ m.id = x.id ∧ m.id = y.id ∧ m.ty = x.ty ∧ m.ty = y.ty ∧ x.cs.length = y.cs.length ∧ m.cs = x.cs.zipWith (mkPick c) y.cs)
  | [], [], ms, h => by simp [mergeBs] at h; subst h; exact ⟨rfl, rfl, fun m hm => by cases hm⟩
  | [], b :: bs, ms, h => by simp [mergeBs] at h
  | a :: as, [], ms, h => by simp [mergeBs] at h
  | a :: as, b :: bs, ms, h => by
    simp only [mergeBs] at h
    split at h
    · rename_i rr hr
      split at h
      · rename_i hc
        cases h
        obtain ⟨i1, i2, i3⟩ := mergeBs_get hr
        refine ⟨by simp [i1], by simp [i2, hc.1], fun m hm => ?_⟩
        rcases List.mem_cons.1 hm with rfl | hm
        · exact ⟨a, b, List.mem_cons_self .., List.mem_cons_self .., rfl, hc.1, rfl, hc.2.1, hc.2.2, rfl⟩
        · obtain ⟨x, y, h1, h2, h3⟩ := i3 m hm
          exact ⟨x, y, List.mem_cons_of_mem _ h1, List.mem_cons_of_mem _ h2, h3⟩
      · cases h
    · cases h

theorem zip_ev {E : List Value} {r : Nat → Nat} {c : SV} : ∀ {xs ys : List SV}, xs.length = ys.length → (xs.zipWith (mkPick c) ys).map (ev E r) = if bOf (ev E r c) then xs.map (ev E r) else ys.map (ev E r)
  | [], [], _ => by simp
  | [], y :: ys, h => by simp at h
  | x :: xs, [], h => by simp at h
  | x :: xs, y :: ys, h => by
    simp only [List.zipWith_cons_cons, List.map_cons, mkPick_ev]
    rw [zip_ev (by simpa using h)]
    split <;> rfl

/-- two ways of a test that has no effect: the state behind both -/
theorem merge_sound {E : List Value} {r : Nat → Nat} {H : PH} {a : Act} {w : World} {c : SV} {st s1 s2 s : St} (h : merge c st s1 s2 = some s) {b : Bool} (hb : bOf (ev E r c) = b)
    (hR : Rel D H0 w0 (if b then s1 else s2) E r H a w) : Rel D H0 w0 s E r H a w := by
  unfold merge at h
  split at h
  · rename_i bs hbs
    split at h
    · rename_i hc
      cases h
      obtain ⟨c1, c2, c3, c4, c5, c6, c7, c8⟩ := hc
      obtain ⟨m1, m2, m3⟩ := mergeBs_get hbs
      obtain ⟨e1, e2⟩ := mergeEs_get (c := c) (es := s1.fr) (fs := s2.fr) (gs := st.fr) c4 c5
      have pick : ∀ x y : SV, evV E r (.sc (.pick c x y)) = if b then ev E r x else ev E r y := fun x y => by
        show (if bOf (ev E r c) = true then _ else _) = _
        rw [hb]
      refine { adv := hR.adv, tags := ?_, size := ?_, df := hR.df, fr := ?_, bx := ?_, inj := ?_, nd := ?_, as := ?_, kn := ?_ }
      · cases b
        · have := hR.tags; simpa [c3] using this
        · exact hR.tags
      · cases b
        · have := hR.size; simp only [Bool.false_eq_true, if_false] at this; rw [this, e1, c4]
        · have := hR.size; simp only [if_true] at this; rw [this, e1]
      · intro t m hm hj
        obtain ⟨x, y, hx, hy, hg, hcase⟩ := e2 t m hm hj
        have hnil : ∀ F : List Value, Guard.holds F r ([] : Guard) := fun F x hx => by cases hx
        rw [hg]
        refine ⟨fun _ => ?_, fun h => absurd (hnil E) h⟩
        rcases hcase with ⟨hs, rfl⟩ | ⟨hxg, hyg, x', y', hxv, hyv, hmv⟩
        · obtain ⟨g1, g2, g3, g4, g5⟩ := sameEnt_ev (E := E) (r := r) hs
          cases b
          · have := (hR.fr t y (by simpa using hy) (fun h => g5 h)).1 (by rw [g2]; exact hnil E)
            rw [this, g3]
          · exact (hR.fr t m (by simpa using hx) (fun h => g4 h)).1 (by rw [g1]; exact hnil E)
        · rw [hmv, pick]
          cases b
          · have := (hR.fr t y (by simpa using hy) (by rw [hyv]; intro h; cases h)).1 (by rw [hyg]; exact hnil E)
            rw [this, hyv]; rfl
          · have := (hR.fr t x (by simpa using hx) (by rw [hxv]; intro h; cases h)).1 (by rw [hxg]; exact hnil E)
            rw [this, hxv]; rfl
      · intro m hm
        obtain ⟨x, y, hx, hy, i1, i2, i3, i4, i5, i6⟩ := m3 m hm
        cases b
        · obtain ⟨z1, z2, z3, z4⟩ := hR.bx y (by simpa using hy)
          rw [i2]
          refine ⟨?_, z2, z3, by simpa [c1] using z4⟩
          rw [z1, i6, zip_ev i5, hb, i4]; rfl
        · obtain ⟨z1, z2, z3, z4⟩ := hR.bx x (by simpa using hx)
          rw [i1]
          refine ⟨?_, z2, z3, by simpa using z4⟩
          rw [z1, i6, zip_ev i5, hb, i3]; rfl
      · intro m hm n hn he
        obtain ⟨x, y, hx, hy, i1, i2, _⟩ := m3 m hm
        obtain ⟨x', y', hx', hy', j1, j2, _⟩ := m3 n hn
        cases b
        · rw [i2, j2] at he ⊢; exact hR.inj y (by simpa using hy) y' (by simpa using hy') he
        · rw [i1, j1] at he ⊢; exact hR.inj x (by simpa using hx) x' (by simpa using hx') he
      · cases b
        · have := hR.nd; simp only [Bool.false_eq_true, if_false] at this
          show (bs.map (·.id)).Nodup
          rw [m2]; exact this
        · have := hR.nd; simp only [if_true] at this
          show (bs.map (·.id)).Nodup
          rw [m1]; exact this
      · intro x hx
        cases b
        · exact hR.as x (by simpa using hasG_mem (List.all_eq_true.1 c7 x hx))
        · exact hR.as x (by simpa using hasG_mem (List.all_eq_true.1 c6 x hx))
      · intro k hk
        have := List.all_eq_true.1 c8 k hk
        simp only [Bool.and_eq_true] at this
        cases b
        · obtain ⟨d, hd, he⟩ := List.any_eq_true.1 this.2
          rw [ckSame_eq he]; exact hR.kn d (by simpa using hd)
        · obtain ⟨d, hd, he⟩ := List.any_eq_true.1 this.1
          rw [ckSame_eq he]; exact hR.kn d (by simpa using hd)
    · cases h
  · cases h

theorem fits_tags {s sT : St} {n : Nat} {vs : List SV} {E : List Value} {r : Nat → Nat} {H : PH} {a : Act} {w : World} (hR : Rel D H0 w0 s E r H a w) (h : fits s sT n = some vs) :
    tagsOk (sT.tags.drop n) (vs.map (ev0 E)) = true := (fits_sound hR h).2.1

/-- what is promised of a piece of code -/
def ExecOk (P : Program) (op : Opt) (D : Prot) (H0 : PH) (w0 : World) (X : List PanicEntry → PH → Prop) (c : Code) : Prop :=
  ∀ (st : St) (E : List Value) (r : Nat → Nat) (H : PH) (a : Act) (w : World) (L : LK) (K : Ex × St → List Value → PH → LK → Prop) (Q : Exit → Act → World → Prop),
    Rel D H0 w0 st E r H a w → den P X (execC P op c st) E H L K →
    (∀ e st' F r' H' L' a' w', Rel D H0 w0 st' (E ++ F) r' H' a' w' → LExt st.nl L L' → st.nl ≤ st'.nl → K (e, st') (E ++ F) H' L' → Q (exOf e) a' w') →
    (∀ ch a' w', PanOf H0 w0 X ch w' → D.ok a' → Q (.panic ch) a' w') → c.wp P Q a w

theorem exec_region {op : Opt} (hd : DrawSound P op.pub) (id : Nat) (ops : Array Oper) (draw : Bool) (hm : ∀ o ∈ ops.toList, D.may o) : ExecOk P op D H0 w0 X (.region id ops draw) := by
  intro st E r H a w L K Q hR hden hK hX
  simp only [execC] at hden
  rw [den_bind] at hden
  cases draw with
  | true =>
    simp only [if_true] at hden
    split at hden
    · rename_i hmx
      refine hd D H0 w0 X L id ops hm st E r H a w _ Q hmx hR hden ?_ hX
      intro st' F r' H' a' w' h1 h2 h3
      exact hK .normal st' F r' H' L a' w' h2 (LExt.refl _ _) (Nat.le_of_eq h1.symm) h3
    · exact hden.elim
  | false =>
    simp only [Bool.false_eq_true, if_false] at hden
    refine wp_region_list ?_
    refine regionL_sound 400 ops.toList hm st E r H a w _ hR hden ?_ hX
    intro st' F r' H' a' w' h1 h2 h3
    exact hK .normal st' F r' H' L a' w' h2 (LExt.refl _ _) (Nat.le_of_eq h1.symm) h3

theorem execC_sound {op : Opt} (hd : DrawSound P op.pub) : ∀ c : Code, (∀ o ∈ opersC c, D.may o) → ExecOk P op D H0 w0 X c := by
  intro c
  induction c with
  | skip =>
    intro hm st E r H a w L K Q hR hden hK hX
    exact wp_skip (hK .normal st [] r H L a w (by rw [List.append_nil]; exact hR) (LExt.refl _ _) (Nat.le_refl _) (by rw [List.append_nil]; exact hden))
  | label l =>
    intro hm st E r H a w L K Q hR hden hK hX
    exact wp_label (hK .normal st [] r H L a w (by rw [List.append_nil]; exact hR) (LExt.refl _ _) (Nat.le_refl _) (by rw [List.append_nil]; exact hden))
  | exit id =>
    intro hm st E r H a w L K Q hR hden hK hX
    exact wp_exit (hK (.exit id) st [] r H L a w (by rw [List.append_nil]; exact hR) (LExt.refl _ _) (Nat.le_refl _) (by rw [List.append_nil]; exact hden))
  | ret =>
    intro hm st E r H a w L K Q hR hden hK hX
    exact wp_ret (hK .ret st [] r H L a w (by rw [List.append_nil]; exact hR) (LExt.refl _ _) (Nat.le_refl _) (by rw [List.append_nil]; exact hden))
  | region id ops draw => exact fun hm => exec_region hd id ops draw hm
  | scope b ih =>
    intro hm st E r H a w L K Q hR hden hK hX
    replace ih := ih hm
    refine wp_scope_straight (ih st E r H a w L K _ hR hden ?_ ?_)
    · intro e st' F r' H' L' a' w' h1 h2 h3 h4
      have := hK e st' F r' H' L' a' w' h1 h2 h3 h4
      cases e <;> exact this
    · exact hX
  | block id b ih =>
    intro hm st E r H a w L K Q hR hden hK hX
    replace ih := ih hm
    simp only [execC] at hden
    rw [den_bind] at hden
    refine wp_block (ih st E r H a w L _ _ hR hden ?_ hX)
    intro e st' F r' H' L' a' w' h1 h2 h3 h4
    cases e with
    | normal => exact hK .normal st' F r' H' L' a' w' h1 h2 h3 h4
    | ret => exact hK .ret st' F r' H' L' a' w' h1 h2 h3 h4
    | exit j =>
      simp only at h4
      show Exit.inBlock id Q (.exit j) a' w'
      by_cases hj : j = id
      · rw [if_pos hj] at h4
        simp only [Exit.inBlock, if_pos hj]
        exact hK .normal st' F r' H' L' a' w' h1 h2 h3 h4
      · rw [if_neg hj] at h4
        simp only [Exit.inBlock, if_neg hj]
        exact hK (.exit j) st' F r' H' L' a' w' h1 h2 h3 h4
  | cond c x y ihx ihy =>
    intro hm st E r H a w L K Q hR hden hK hX
    replace ihx := ihx fun o h => hm o (List.mem_append_left _ h)
    replace ihy := ihy fun o h => hm o (List.mem_append_right _ h)
    have g0 : Guard.holds E r ([] : Guard) := fun x hx => by cases hx
    simp only [execC] at hden
    split at hden
    · rename_i b hb
      have hc : a.eval c = .bool b := ops1_sound hR g0 hb
      cases b with
      | true => exact wp_cond_true hc (ihx st E r H a w L K Q hR hden hK hX)
      | false => exact wp_cond_false hc (ihy st E r H a w L K Q hR hden hK hX)
    · rename_i s _ hs
      split at hden
      · rename_i hcc
        have hb := ok_bool (tag_ev hR hcc.2)
        have hc : a.eval c = .bool (bOf (ev E r s)) := (ops1_sound hR g0 hs).trans hb
        have hb0 : bOf (ev0 E s) = bOf (ev E r s) := by rw [ev_ev0 hcc.1]
        have key : ∀ (X1 X2 : Fm (Ex × St)), X1 = execC P op x (assume st s true) → X2 = execC P op y (assume st s false) → den P X (iteL s st X1 X2) E H L K → (Code.cond c x y).wp P Q a w := by
          intro X1 X2 e1 e2 hd'
          have plain : den P X (.ite s X1 X2) E H L K → (Code.cond c x y).wp P Q a w := by
            intro hite
            cases hbb : bOf (ev E r s) with
            | true =>
              rw [hbb] at hc hb hb0
              exact wp_cond_true hc (ihx _ E r H a w L K Q (hR.assume hb) (by rw [← e1]; exact hite.1 hb0) hK hX)
            | false =>
              rw [hbb] at hc hb hb0
              exact wp_cond_false hc (ihy _ E r H a w L K Q (hR.assume hb) (by rw [← e2]; exact hite.2 hb0) hK hX)
          unfold iteL at hd'
          split at hd'
          · rename_i s1 s2
            split at hd'
            · rename_i sm hm
              have hnl : sm.nl = s1.nl ∧ sm.nl = s2.nl := by
                unfold merge at hm
                split at hm
                · split at hm
                  · rename_i hcm; cases hm; exact ⟨rfl, hcm.2.1⟩
                  · cases hm
                · cases hm
              have hshape : sm.nb = sm.nb := rfl
              cases hbb : bOf (ev E r s) with
              | true =>
                rw [hbb] at hc hb hb0
                refine wp_cond_true hc (ihx _ E r H a w L (fun z E' H' L' => z = (.normal, s1) ∧ E' = E ∧ H' = H ∧ L' = L) Q (hR.assume hb) (by rw [← e1]; exact ⟨rfl, rfl, rfl, rfl⟩) ?_ hX)
                rintro e st' F r' H' L' a' w' h1 h2 h3 ⟨h4, h5, h6, h7⟩
                cases h4
                rw [h5] at h1
                subst h6 h7
                -- the condition's value does not hang on the boxes' places
                have hev : bOf (ev E r' s) = true := by rw [ev_noBox r' r s hcc.1]; exact hbb
                have := merge_sound (b := true) hm hev h1
                refine hK .normal sm [] r' H' L' a' w' (by rw [List.append_nil]; exact this) h2 (by rw [hnl.1]; exact h3) (by rw [List.append_nil]; exact hd')
              | false =>
                rw [hbb] at hc hb hb0
                refine wp_cond_false hc (ihy _ E r H a w L (fun z E' H' L' => z = (.normal, s2) ∧ E' = E ∧ H' = H ∧ L' = L) Q (hR.assume hb) (by rw [← e2]; exact ⟨rfl, rfl, rfl, rfl⟩) ?_ hX)
                rintro e st' F r' H' L' a' w' h1 h2 h3 ⟨h4, h5, h6, h7⟩
                cases h4
                rw [h5] at h1
                subst h6 h7
                have hev : bOf (ev E r' s) = false := by rw [ev_noBox r' r s hcc.1]; exact hbb
                have := merge_sound (b := false) hm hev h1
                refine hK .normal sm [] r' H' L' a' w' (by rw [List.append_nil]; exact this) h2 (by rw [hnl.2]; exact h3) (by rw [List.append_nil]; exact hd')
            · exact plain hd'
          · exact plain hd'
        exact key _ _ rfl rfl hden
      · exact hden.elim
    · exact hden.elim
  | seq x y ihx ihy =>
    intro hm st E r H a w L K Q hR hden hK hX
    replace ihx := ihx fun o h => hm o (List.mem_append_left _ h)
    replace ihy := ihy fun o h => hm o (List.mem_append_right _ h)
    have hR1 : Rel D H0 w0 { st with nl := st.nl + 1 } E r H a w := { hR with }
    simp only [execC] at hden
    split at hden
    · rw [den_bind] at hden
      refine wp_seq (ihx _ E r H a w L _ _ hR1 hden ?_ ?_)
      · intro e st' F r' H' L' a' w' h1 h2 h3 h4
        cases e with
        | normal =>
          refine ihy st' (E ++ F) r' H' a' w' L' K Q h1 h4 ?_ hX
          intro e2 st2 F2 r2 H2 L2 a2 w2 g1 g2 g3 g4
          rw [List.append_assoc] at g1 g4
          have h3' : st.nl + 1 ≤ st'.nl := h3
          exact hK e2 st2 (F ++ F2) r2 H2 L2 a2 w2 g1 (fun i hi => ((LExt.trans h2 g2 h3) i (by show i < st.nl + 1; omega))) (by omega) g4
        | ret =>
          have h3' : st.nl + 1 ≤ st'.nl := h3
          exact hK .ret st' F r' H' L' a' w' h1 (fun i hi => h2 i (by show i < st.nl + 1; omega)) (by omega) h4
        | exit j =>
          have h3' : st.nl + 1 ≤ st'.nl := h3
          exact hK (.exit j) st' F r' H' L' a' w' h1 (fun i hi => h2 i (by show i < st.nl + 1; omega)) (by omega) h4
      · exact hX
    · obtain ⟨J, hJ, hmain⟩ := hden
      rw [den_bind] at hmain
      refine wp_seq (ihx _ E r H a w _ _ _ hR1 hmain ?_ ?_)
      · intro e st' F r' H' L' a' w' h1 h2 h3 h4
        have h3' : st.nl + 1 ≤ st'.nl := h3
        cases e with
        | normal =>
          simp only at h4
          split at h4
          · rename_i vs hvs
            obtain ⟨J', hl, hj⟩ := h4
            have hg : L'.lookup st.nl = some J := LExt.get h2
            rw [hg] at hl
            cases hl
            obtain ⟨f1, f2, f3, f4⟩ := fits_sound h1 hvs
            have hlen : st.tags.length = E.length := tagsOk_length hR.tags
            have htake : (E ++ F).take st.tags.length = E := by rw [hlen]; simp
            rw [htake] at f1
            refine ihy _ _ r' H' a' w' L K Q f1 (hJ _ H' f2 hj) ?_ hX
            intro e2 st2 F2 r2 H2 L2 a2 w2 g1 g2 g3 g4
            rw [List.append_assoc] at g1 g4
            have g3' : st.nl + 1 ≤ st2.nl := g3
            exact hK e2 st2 _ r2 H2 L2 a2 w2 g1 (fun i hi => g2 i (by show i < st.nl + 1; omega)) (by omega) g4
          · exact h4.elim
        | ret => exact hK .ret st' F r' H' L' a' w' h1 (LExt.cons h2) (by omega) h4
        | exit j => exact hK (.exit j) st' F r' H' L' a' w' h1 (LExt.cons h2) (by omega) h4
      · exact hX
  | loop b ih =>
    intro hm st E r H a w L K Q hR hden hK hX
    replace ih := ih hm
    simp only [execC] at hden
    split at hden
    · rename_i init hinit
      obtain ⟨I, ⟨n0, hI0⟩, hround⟩ := hden
      have hlen : st.tags.length = E.length := tagsOk_length hR.tags
      obtain ⟨f1, f2, f3, f4⟩ := fits_sound hR hinit
      rw [show E.take st.tags.length = E by rw [hlen]; simp] at f1
      refine wp_loop_ghost (fun n a w => ∃ vs r H, Rel D H0 w0 (absSt st st (writesC b) [] (fun _ _ => true) (fun x => ((storeSlots (opersC b)).filterMap fun t => match st.fr[t]? with
          | some e => (match e.g, e.v with | [], .sc (.box d _) => some d | _, _ => none)
          | none => none).contains x.id)) (E ++ vs) r H a w ∧ I n vs H ∧ tagsOk ((absSt st st (writesC b) [] (fun _ _ => true) (fun x => ((storeSlots (opersC b)).filterMap fun t => match st.fr[t]? with
          | some e => (match e.g, e.v with | [], .sc (.box d _) => some d | _, _ => none)
          | none => none).contains x.id)).tags.drop st.tags.length) vs = true) n0 ⟨_, r, H, f1, hI0, f2⟩ ?_
      rintro n a1 w1 ⟨vs, r1, H1, g1, g2, g3⟩
      have hb := hround n vs H1 g3 g2
      rw [den_bind] at hb
      refine ih _ _ r1 H1 a1 w1 _ _ _ g1 hb ?_ ?_
      · intro e st' F r' H' L' a' w' h1 h2 h3 h4
        have h3' : st.nl + 1 ≤ st'.nl := h3
        have h2' : LExt (st.nl + 1) _ L' := h2
        cases e with
        | normal =>
          simp only at h4
          split at h4
          · rename_i us hus
            obtain ⟨J', hl, hj⟩ := h4
            rw [LExt.get h2'] at hl
            cases hl
            obtain ⟨m, hm, hIm⟩ := hj
            obtain ⟨k1, k2, k3, k4⟩ := fits_sound h1 hus
            have htake : (E ++ vs ++ F).take st.tags.length = E := by rw [hlen, List.append_assoc]; simp
            rw [htake] at k1
            exact ⟨m, hm, _, r', H', k1, hIm, k2⟩
          · exact h4.elim
        | ret =>
          rw [List.append_assoc] at h1 h4
          exact hK .ret st' (vs ++ F) r' H' L' a' w' h1 (LExt.cons h2') (by omega) h4
        | exit j =>
          rw [List.append_assoc] at h1 h4
          exact hK (.exit j) st' (vs ++ F) r' H' L' a' w' h1 (LExt.cons h2') (by omega) h4
      · exact hX
    · exact hden.elim
  | rangeFunc f ps asg b => intro _ st E r H a w L K Q hR hden; exact hden.elim
  | goto l => intro _ st E r H a w L K Q hR hden; exact hden.elim
  | refuse why => intro _ st E r H a w L K Q hR hden; exact hden.elim

end
end Go.Proofs.YtlnmmakbgldflaaGreatDoor.Vc
