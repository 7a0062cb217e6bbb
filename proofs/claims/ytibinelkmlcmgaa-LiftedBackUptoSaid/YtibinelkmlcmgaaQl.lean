/-
  Texts on the way to the statement, one behind the other, without what it does not reach.
-/
import Derived.Test.YtibinelkmlcmgaaQk
set_option linter.unusedSimpArgs false
set_option linter.unusedVariables false
set_option maxRecDepth 100000
/-
  LIFT: what was lifted may be lowered, and is lowered to what it was. Plainly.
-/
namespace Go.Proofs.Ytibinelkmlcmgaa.Vc
open Go

theorem lift_ext_lam {fs gs : List FunX} {s s' : FunX} {sl : List FunX} (h : gs = fs ++ [s] ++ sl) : gs.set fs.length s' = fs ++ (s' :: sl) := by
  rw [h, List.append_assoc, List.set_append_right _ _ (Nat.le_refl _), Nat.sub_self]; rfl
/-- slots stand in F from n on -/
def StandAt (F : List FunX) (n : Nat) (sl : List FunX) : Prop := ∀ i, i < sl.length → F[n + i]? = sl[i]?
theorem StandAt.left {F : List FunX} {n : Nat} {a b : List FunX} (h : StandAt F n (a ++ b)) : StandAt F n a := fun i hi => by
  rw [h i (by rw [List.length_append]; omega), List.getElem?_append_left hi]
theorem StandAt.right {F : List FunX} {n : Nat} {a b : List FunX} (h : StandAt F n (a ++ b)) : StandAt F (n + a.length) b := fun i hi => by
  rw [Nat.add_assoc, h (a.length + i) (by rw [List.length_append]; omega), List.getElem?_append_right (by omega)]
  congr 1; omega
/-- what is lifted, told of an expression -/
structure Lifd (F : List FunX) (n : Nat) (sl : List FunX) (e m : Xp) : Prop where
  low : ∀ k, sl.length ≤ k → Xp.low F k m = e
  perm : (m.clos F ++ sl.flatMap fun f => f.body.clos F).Perm ((List.range' n sl.length).map fun i : Nat => (i : Int))
  main : ∀ x ∈ m.clos F, (n : Int) ≤ x
  body : ∀ (i : Nat) f, sl[i]? = some f → (∀ x ∈ f.body.clos F, ((n + i : Nat) : Int) < x) ∧ funOk f = true
  free : ∀ b x, x ∈ m.fr14 b ↔ x ∈ e.fr b
structure Lifds (F : List FunX) (n : Nat) (sl : List FunX) (l m : List Xp) : Prop where
  low : ∀ k, sl.length ≤ k → m.map (Xp.low F k) = l
  perm : (Xps.clos F m ++ sl.flatMap fun f => f.body.clos F).Perm ((List.range' n sl.length).map fun i : Nat => (i : Int))
  main : ∀ x ∈ Xps.clos F m, (n : Int) ≤ x
  body : ∀ (i : Nat) f, sl[i]? = some f → (∀ x ∈ f.body.clos F, ((n + i : Nat) : Int) < x) ∧ funOk f = true
  free : ∀ b inner k x, x ∈ Xps.fr14 b inner k m ↔ x ∈ Xps.fr b inner k l
theorem cloI_ok {F : List FunX} {n : Nat} {f : FunX} (hf : F[n]? = some f) : cloI F (cloX f.frees n) = (n : Int) := by
  unfold cloI
  rw [if_pos]
  · rfl
  · refine ⟨rfl, rfl, rfl, by show (0 : Int) ≤ (n : Int); omega, f, ?_, rfl⟩
    show F[((n : Int)).toNat]? = some f
    simpa using hf
theorem badK_any {e : Xp} (h : e.any badK = false) : badK e.kind = false ∧ ∀ k ∈ e.kids, k.any badK = false := by
  rw [Xp.any_eq, Bool.or_eq_false_iff] at h
  refine ⟨h.1, ?_⟩
  have key : ∀ l : List Xp, Xps.any badK l = false → ∀ k ∈ l, k.any badK = false := by
    intro l
    induction l with
    | nil => intro _ k hk; cases hk
    | cons a l ih =>
      intro h k hk
      rw [Xps.any, Bool.or_eq_false_iff] at h
      rcases List.mem_cons.1 hk with rfl | hk
      · exact h.1
      · exact ih h.2 k hk
  exact key _ h.2
theorem okF_kind {e : Xp} (h : e.okF true) : e.kind ≠ 11 := by
  intro h11
  have hf := (Xp.okF_form h).1
  unfold exForm at hf
  simp [h11] at hf
theorem lam_form {e : Xp} (h : e.okF true) (h5 : e.kind = 5) : ∃ b, e = .mk 5 [] e.names dat0 [b] ∧ e.names.length ≤ 6 ∧ namesOk e.names = true := by
  obtain ⟨hc, hn⟩ := form_split h (by omega)
  have hf := (Xp.okF_form h).1
  unfold exForm at hf
  rw [if_neg (by omega), if_neg (by omega), if_neg (by omega), if_neg (by omega), if_neg (by omega)] at hf
  simp only [h5, if_true, Bool.and_eq_true, decide_eq_true_eq] at hf
  obtain ⟨_, ⟨h1, h2⟩, h3⟩ := hf
  obtain ⟨b, hb⟩ := List.length_eq_one_iff.1 h3
  refine ⟨b, ?_, h2, hn⟩
  cases e with
  | mk k s ns d l =>
    simp only [Xp.kind, Xp.const, Xp.kids, Xp.name, Xp.names] at *
    rw [h5, hc, hb, List.isEmpty_iff.1 h1]
theorem range'_app (n a b : Nat) : (List.range' n (a + b)).map (fun i : Nat => (i : Int)) = (List.range' n a).map (fun i : Nat => (i : Int)) ++ (List.range' (n + a) b).map fun i : Nat => (i : Int) := by
  rw [← List.map_append, ← List.range'_append_1]
theorem lifted_all : ∀ e : Xp, e.okF true → e.any badK = false → ∀ fs : List FunX, ∃ sl, (Xp.lift fs e).2 = fs ++ sl ∧ ∀ F, StandAt F fs.length sl → Lifd F fs.length sl e (Xp.lift fs e).1 := by
  refine Xp.ind fun e ih hok hbad fs => ?_
  obtain ⟨hb1, hb2⟩ := badK_any hbad
  have hkok := (Xp.okF_form hok).2
  have h11 := okF_kind hok
  unfold badK at hb1
  rw [Bool.or_eq_false_iff, decide_eq_false_iff_not, decide_eq_false_iff_not] at hb1
  by_cases h5 : e.kind = 5
  · obtain ⟨b, hb0, hbm⟩ := lam_kid hok h5
    rw [Xp.lift_lam e b fs h5 hb0]
    obtain ⟨sl, hsl, hF⟩ := ih b hbm (hkok b hbm) (hb2 b hbm) (fs ++ [slot e exZ])
    generalize hrb : Xp.lift (fs ++ [slot e exZ]) b = rb at hsl hF
    refine ⟨slot e rb.1 :: sl, lift_ext_lam hsl, fun F hst => ?_⟩
    have hst1 : F[fs.length]? = some (slot e rb.1) := by have := hst 0 (by simp); simpa using this
    have hst2 : StandAt F (fs ++ [slot e exZ]).length sl := by
      have := StandAt.right (a := [slot e rb.1]) (b := sl) hst
      simpa using this
    have h := hF F hst2
    rw [List.length_append, List.length_singleton] at h
    obtain ⟨b', he, hn6, hnm⟩ := lam_form hok h5
    have hbb : b' = b := by rw [he] at hb0; simpa [Xp.kids] using hb0
    subst hbb
    have hclo : Xp.clos F (cloX (freeS (Xp.fr [] e)) fs.length) = [(fs.length : Int)] := by
      have := cloI_ok hst1
      simp only [cloX, Xp.clos, if_true]
      exact congrArg (fun x => [x]) this
    refine ⟨?_, ?_, ?_, ?_, ?_⟩
    · intro k hk
      rw [List.length_cons] at hk
      obtain ⟨k, rfl⟩ : ∃ j, k = j + 1 := ⟨k - 1, by omega⟩
      rw [Xp.low_clo (f := slot e rb.1) rfl (by show F[((fs.length : Int)).toNat]? = _; simpa using hst1)]
      show Xp.mk 5 [] e.names dat0 [Xp.low F k rb.1] = e
      rw [h.low k (by omega)]
      exact he.symm
    · rw [hclo, List.flatMap_cons, List.length_cons, List.range'_succ, List.map_cons]
      exact h.perm.cons _
    · intro x hx
      rw [hclo] at hx
      rw [List.mem_singleton.1 hx]; exact Int.le_refl _
    · intro i f hi
      cases i with
      | zero =>
        simp only [List.getElem?_cons_zero, Option.some.injEq] at hi
        subst hi
        refine ⟨fun x hx => ?_, ?_⟩
        · have := h.main x hx
          show ((fs.length + 0 : Nat) : Int) < x
          omega
        · show (namesOk (e.names ++ freeS (Xp.fr [] e)) && decide (e.names.length ≤ 6) && (Xp.fr14 (e.names ++ freeS (Xp.fr [] e)) rb.1).isEmpty) = true
          have hfr : ∀ x, x ∈ Xp.fr [] e ↔ x ∈ Xp.fr [] b' ∧ x ∉ e.names := by
            intro x
            rw [Xp.fr_eq, h5]
            have hkids : e.kids = [b'] := by rw [he]; rfl
            rw [hkids]
            simp only [Xps.fr, inB, List.nil_append, List.append_nil]
            rw [if_neg (by omega), List.nil_append]
            exact fr_iff b' e.names x
          simp only [Bool.and_eq_true, decide_eq_true_eq]
          refine ⟨⟨?_, hn6⟩, ?_⟩
          · rw [namesOk_iff] at hnm ⊢
            refine ⟨fun s hs => ?_, ?_⟩
            · rcases List.mem_append.1 hs with hs | hs
              · exact hnm.1 s hs
              · exact fr_name e [] hok s (mem_freeS.1 hs)
            · refine List.nodup_append.2 ⟨hnm.2, List.Pairwise.imp (fun {a b} (h : a < b) (q : a = b) => List.lt_irrefl a (by rw [← q] at h; exact h)) (freeS_sorted (Xp.fr [] e)), ?_⟩
              intro a ha c hc e1
              subst e1
              exact ((hfr a).1 (mem_freeS.1 hc)).2 ha
          · rw [List.isEmpty_iff]
            refine List.eq_nil_iff_forall_not_mem.2 fun x hx => ?_
            rw [h.free, fr_iff] at hx
            rw [List.mem_append, not_or, mem_freeS, hfr] at hx
            exact hx.2.2 ⟨hx.1, hx.2.1⟩
      | succ i =>
        rw [List.getElem?_cons_succ] at hi
        obtain ⟨g1, g2⟩ := h.body i f hi
        refine ⟨fun x hx => ?_, g2⟩
        have := g1 x hx
        omega
    · intro b x
      rw [fr_iff e b x]
      simp only [cloX, Xp.fr14, if_true, List.mem_filter, mem_freeS, Bool.not_eq_true', List.contains_eq_mem, decide_eq_false_iff_not]
  · rw [Xp.lift_other e fs h5]
    have key : ∀ (l : List Xp), (∀ a ∈ l, a ∈ e.kids) → ∀ fs : List FunX, ∃ sl, (mapS (fun s x => Xp.lift s x) fs l).2 = fs ++ sl ∧ ∀ F, StandAt F fs.length sl → Lifds F fs.length sl l (mapS (fun s x => Xp.lift s x) fs l).1 := by
      intro l
      induction l with
      | nil =>
        intro _ fs
        refine ⟨[], by simp [mapS], fun F _ => ⟨fun k _ => rfl, List.Perm.refl _, fun x hx => by simp [mapS, Xps.clos] at hx, fun i f h => by simp at h, fun b i k x => by simp [mapS, Xps.fr14, Xps.fr]⟩⟩
      | cons a l ihl =>
        intro hl fs
        have ha := hl a (List.mem_cons_self ..)
        obtain ⟨s1, h1, hF1⟩ := ih a ha (hkok a ha) (hb2 a ha) fs
        obtain ⟨s2, h2, hF2⟩ := ihl (fun y hy => hl y (List.mem_cons_of_mem _ hy)) (Xp.lift fs a).2
        refine ⟨s1 ++ s2, ?_, fun F hst => ?_⟩
        · simp only [mapS]
          rw [h2, h1, List.append_assoc]
        · have g1 := hF1 F hst.left
          have hst2 := hst.right
          have hlen : (Xp.lift fs a).2.length = fs.length + s1.length := by rw [h1, List.length_append]
          have g2 := hF2 F (by rw [hlen]; exact hst2)
          rw [hlen] at g2
          have hml := mapS_len (fun s x => Xp.lift s x) (Xp.lift fs a).2 l
          simp only [mapS]
          refine ⟨fun k hk => ?_, ?_, ?_, ?_, ?_⟩
          · rw [List.length_append] at hk
            rw [List.map_cons, g1.low k (by omega), g2.low k (by omega)]
          · rw [Xps.clos, List.flatMap_append, List.length_append, range'_app]
            have hp := g1.perm.append g2.perm
            refine List.Perm.trans ?_ hp
            rw [List.append_assoc, List.append_assoc]
            refine List.Perm.append_left _ ?_
            rw [← List.append_assoc, ← List.append_assoc]
            exact List.Perm.append_right _ List.perm_append_comm
          · intro x hx
            rw [Xps.clos, List.mem_append] at hx
            rcases hx with hx | hx
            · exact g1.main x hx
            · have := g2.main x hx; omega
          · intro i f hi
            by_cases hlt : i < s1.length
            · rw [List.getElem?_append_left hlt] at hi
              exact g1.body i f hi
            · rw [List.getElem?_append_right (by omega)] at hi
              obtain ⟨q1, q2⟩ := g2.body _ f hi
              refine ⟨fun x hx => ?_, q2⟩
              have := q1 x hx
              omega
          · intro b inner k x
            rw [Xps.fr14, Xps.fr, List.mem_append, List.mem_append]
            have hin : inB k (mapS (fun s x => Xp.lift s x) (Xp.lift fs a).2 l).1 = inB k l := by
              unfold inB
              have : (mapS (fun s x => Xp.lift s x) (Xp.lift fs a).2 l).1.isEmpty = l.isEmpty := by
                cases l <;> simp [mapS]
              rw [this]
            rw [hin]
            exact or_congr (g1.free _ x) (g2.free _ _ _ x)
    obtain ⟨sl, hs, hF⟩ := key e.kids (fun a h => h) fs
    refine ⟨sl, hs, fun F hst => ?_⟩
    have g := hF F hst
    refine ⟨fun k hk => ?_, ?_, ?_, g.body, ?_⟩
    · rw [Xp.low_other F k _ (by exact h11)]
      show Xp.mk e.kind e.name e.names e.const (List.map (Xp.low F k) (mapS (fun s x => Xp.lift s x) fs e.kids).1) = e
      rw [g.low k hk]
      cases e; rfl
    · rw [Xp.clos, if_neg h11, if_neg (by omega), List.nil_append]
      exact g.perm
    · rw [Xp.clos, if_neg h11, if_neg (by omega), List.nil_append]
      exact g.main
    · intro b x
      rw [Xp.fr14, if_neg h11, Xp.fr_eq, List.mem_append, List.mem_append]
      refine or_congr ?_ (g.free _ _ _ x)
      have : (e.kind = 1 ∨ e.kind = 2) ↔ e.kind = 1 := by omega
      simp only [this]
/-- what was lifted has the form, and is lowered to what it was -/
theorem lifted_good {e : Xp} (h : liftGood e = true) : GoodL ⟨(Xp.lift [] e).2, (Xp.lift [] e).1⟩ ∧ lowX ⟨(Xp.lift [] e).2, (Xp.lift [] e).1⟩ = e := by
  unfold liftGood at h
  simp only [Bool.and_eq_true, decide_eq_true_eq, Bool.not_eq_true', List.isEmpty_iff] at h
  obtain ⟨⟨hc, hf⟩, hb⟩ := h
  have hok := (Xp.chk_ok true e 0 0 hc).1
  obtain ⟨sl, hs, hF⟩ := lifted_all e hok hb []
  rw [List.nil_append] at hs
  have g := hF (Xp.lift [] e).2 (fun i hi => by rw [hs, List.length_nil, Nat.zero_add])
  have hlow : lowX ⟨(Xp.lift [] e).2, (Xp.lift [] e).1⟩ = e := g.low _ (by rw [hs]; exact Nat.le_refl _)
  refine ⟨⟨fun x hx => by have := g.main x hx; simpa using this, fun i f hi => ?_, fun j hj => ?_, ?_, by rw [hlow]; exact hc⟩, hlow⟩
  · simp only [hs] at hi
    have := g.body i f hi
    simpa using this
  · have := g.perm.count_eq (j : Int)
    unfold allC
    simp only
    rw [hs] at hj ⊢
    rw [hs] at this
    rw [this, List.count_eq_countP, List.countP_map, List.length_nil]
    have : List.countP ((fun x : Int => x == (j : Int)) ∘ fun i : Nat => (i : Int)) (List.range' 0 sl.length) = (List.range' 0 sl.length).count j := by
      rw [List.count_eq_countP]
      refine List.countP_congr fun x _ => ?_
      simp only [Function.comp, beq_iff_eq]
      omega
    rw [this]
    rw [List.Nodup.count List.nodup_range', if_pos (by rw [List.mem_range'_1]; simp only at hj; omega)]
  · refine List.eq_nil_iff_forall_not_mem.2 fun x hx => ?_
    rw [g.free [] x, ← mem_freeS, hf] at hx
    cases hx
end Go.Proofs.Ytibinelkmlcmgaa.Vc
/-
  LIFT: what may be lowered is lifted again: as many functions, with no new names. Plainly.
-/
namespace Go.Proofs.Ytibinelkmlcmgaa.Vc
open Go

mutual
/-- how many functions the lift makes -/
def Xp.nl : Xp → Nat
  | .mk k _ _ _ l => if k = 5 then 1 + Xps.nl1 l else Xps.nl l
def Xps.nl1 : List Xp → Nat
  | [] => 0
  | e :: _ => Xp.nl e
def Xps.nl : List Xp → Nat
  | [] => 0
  | e :: l => Xp.nl e + Xps.nl l
end
mutual
theorem Xp.lift_nl : ∀ (e : Xp) (fs : List FunX), (Xp.lift fs e).2.length = fs.length + e.nl
  | .mk k s ns d l, fs => by
    by_cases h : k = 5
    · simp only [Xp.lift, if_pos h, Xp.nl, List.length_set, Xps.lift1_nl l, List.length_append, List.length_singleton]; omega
    · simp only [Xp.lift, if_neg h, Xp.nl, Xps.lift_nl l]
theorem Xps.lift1_nl : ∀ (l : List Xp) (fs : List FunX), (Xps.lift1 fs l).2.length = fs.length + Xps.nl1 l
  | [], fs => by simp [Xps.lift1, Xps.nl1]
  | e :: l, fs => by simp only [Xps.lift1, Xps.nl1, Xp.lift_nl e]
theorem Xps.lift_nl : ∀ (l : List Xp) (fs : List FunX), (Xps.lift fs l).2.length = fs.length + Xps.nl l
  | [], fs => by simp [Xps.lift, Xps.nl]
  | e :: l, fs => by simp only [Xps.lift, Xps.nl, Xps.lift_nl l, Xp.lift_nl e]; omega
end
/-- an expression whose closures lie behind a place -/
def AtI (F : List FunX) (i : Int) (t : Xp) : Prop := ∀ x ∈ t.clos F, i < x
def FunsOk (F : List FunX) : Prop := ∀ (i : Nat) f, F[i]? = some f → AtI F i f.body ∧ funOk f = true
theorem AtI.kid {F : List FunX} {i : Int} {t : Xp} (h : AtI F i t) (h11 : t.kind ≠ 11) : ∀ k ∈ t.kids, AtI F i k := by
  intro k hk x hx
  refine h x ?_
  rw [Xp.clos_eq, if_neg h11]
  refine List.mem_append_right _ ?_
  have key : ∀ l : List Xp, k ∈ l → x ∈ Xps.clos F l := by
    intro l
    induction l with
    | nil => intro h; cases h
    | cons a l ih =>
      intro hm
      rw [Xps.clos, List.mem_append]
      rcases List.mem_cons.1 hm with rfl | hm
      · exact .inl hx
      · exact .inr (ih hm)
  exact key _ hk
theorem AtI.kinds {F : List FunX} {i : Int} (hi : -1 ≤ i) {t : Xp} (h : AtI F i t) (h11 : t.kind ≠ 11) : t.kind ≠ 2 ∧ t.kind ≠ 5 ∧ t.kind ≠ 9 := by
  have h1 : ¬ (t.kind = 2 ∨ t.kind = 5 ∨ t.kind = 9) := by
    intro hk
    have := h (-1) (by rw [Xp.clos_eq, if_neg h11, if_pos hk]; simp)
    omega
  exact ⟨fun e => h1 (.inl e), fun e => h1 (.inr (.inl e)), fun e => h1 (.inr (.inr e))⟩
theorem AtI.clo {F : List FunX} {i : Int} (hi : -1 ≤ i) {t : Xp} (h : AtI F i t) (h11 : t.kind = 11) : ∃ (n : Nat) (f : FunX), i < n ∧ F[n]? = some f ∧ f.frees = t.names ∧ t.const.int = n ∧ t.clos F = [(n : Int)] ∧ t = cloX f.frees n := by
  have h1 := h (cloI F t) (by rw [Xp.clos_eq, if_pos h11]; simp)
  have hcl : t.clos F = [cloI F t] := by rw [Xp.clos_eq, if_pos h11]
  unfold cloI at h1 hcl
  split at h1
  · rename_i hc
    rw [if_pos hc] at hcl
    obtain ⟨c1, c2, c3, c4, f, c5, c6⟩ := hc
    have hn : t.const.int = ((t.const.int.toNat : Nat) : Int) := by omega
    refine ⟨t.const.int.toNat, f, by omega, c5, c6, hn, by rw [hcl, ← hn], ?_⟩
    cases t with
    | mk k s ns d l =>
      simp only [Xp.kind, Xp.name, Xp.kids, Xp.const, Xp.names] at *
      subst c1 c2 h11
      rw [cloX, c6, ← hn, ← c3]
  · omega
/-- closures lie one behind the other: so whatever is shown with it of what lies behind is shown of all -/
theorem AtI.ind {F : List FunX} (hF : FunsOk F) {p : Int → Xp → Prop}
    (h1 : ∀ (i : Int) (t : Xp) (n : Nat) (f : FunX), -1 ≤ i → AtI F i t → t.kind = 11 → i < n → F[n]? = some f → t = cloX f.frees n → t.clos F = [(n : Int)] → p n f.body → p i t)
    (h2 : ∀ (i : Int) (t : Xp), -1 ≤ i → AtI F i t → t.kind ≠ 11 → t.kind ≠ 2 ∧ t.kind ≠ 5 ∧ t.kind ≠ 9 → (∀ k ∈ t.kids, p i k) → p i t) :
    ∀ (i : Int) (t : Xp), -1 ≤ i → AtI F i t → p i t := by
  have key : ∀ (m : Nat) (i : Int), -1 ≤ i → (F.length : Int) - i ≤ m → ∀ t, AtI F i t → p i t := by
    intro m
    induction m with
    | zero =>
      intro i hi hm
      refine Xp.ind fun t ih ht => ?_
      by_cases h11 : t.kind = 11
      · obtain ⟨n, f, g1, g2, g3, g4, g5, g6⟩ := ht.clo hi h11
        have := (List.getElem?_eq_some_iff.1 g2).1
        omega
      · exact h2 i t hi ht h11 (ht.kinds hi h11) fun k hk => ih k hk (ht.kid h11 k hk)
    | succ m ihm =>
      intro i hi hm
      refine Xp.ind fun t ih ht => ?_
      by_cases h11 : t.kind = 11
      · obtain ⟨n, f, g1, g2, g3, g4, g5, g6⟩ := ht.clo hi h11
        have := (List.getElem?_eq_some_iff.1 g2).1
        exact h1 i t n f hi ht h11 g1 g2 g6 g5 (ihm n (by omega) (by omega) f.body (hF n f g2).1)
      · exact h2 i t hi ht h11 (ht.kinds hi h11) fun k hk => ih k hk (ht.kid h11 k hk)
  intro i t hi ht
  exact key ((F.length : Int) - i).toNat i hi (by omega) t ht
theorem low_fuel {F : List FunX} (hF : FunsOk F) : ∀ (i : Int) (t : Xp), -1 ≤ i → AtI F i t → ∀ j k : Nat, (F.length : Int) - 1 - i ≤ j → (F.length : Int) - 1 - i ≤ k → Xp.low F j t = Xp.low F k t := by
  refine AtI.ind hF (p := fun i t => ∀ j k : Nat, (F.length : Int) - 1 - i ≤ j → (F.length : Int) - 1 - i ≤ k → Xp.low F j t = Xp.low F k t) ?_ ?_
  · intro i t n f hi ht h11 hn hf htc _ ih j k hj hk
    have hlt := (List.getElem?_eq_some_iff.1 hf).1
    obtain ⟨j, rfl⟩ : ∃ j', j = j' + 1 := ⟨j - 1, by omega⟩
    obtain ⟨k, rfl⟩ : ∃ k', k = k' + 1 := ⟨k - 1, by omega⟩
    have hf' : F[t.const.int.toNat]? = some f := by rw [htc]; show F[((n : Int)).toNat]? = some f; simpa using hf
    rw [Xp.low_clo h11 hf', Xp.low_clo h11 hf', ih j k (by omega) (by omega)]
  · intro i t hi ht h11 _ ih j k hj hk
    rw [Xp.low_other F j t h11, Xp.low_other F k t h11]
    congr 1
    exact List.map_congr_left fun x hx => ih x hx j k hj hk
/-- an expression lowered, all the way -/
def lowN (F : List FunX) (t : Xp) : Xp := Xp.low F F.length t
theorem lowN_other {F : List FunX} {t : Xp} (h : t.kind ≠ 11) : lowN F t = .mk t.kind t.name t.names t.const (t.kids.map (lowN F)) := Xp.low_other F _ t h
theorem lowN_clo {F : List FunX} (hF : FunsOk F) {n : Nat} {f : FunX} (hf : F[n]? = some f) : lowN F (cloX f.frees n) = .mk 5 [] f.params dat0 [lowN F f.body] := by
  have hlt := (List.getElem?_eq_some_iff.1 hf).1
  obtain ⟨m, hm⟩ : ∃ m, F.length = m + 1 := ⟨F.length - 1, by omega⟩
  unfold lowN
  rw [hm, Xp.low_clo (f := f) rfl (by show F[((n : Int)).toNat]? = some f; simpa using hf)]
  rw [low_fuel hF n f.body (by omega) (hF n f hf).1 m (m + 1) (by omega) (by omega)]
theorem low_free {F : List FunX} (hF : FunsOk F) : ∀ (i : Int) (t : Xp), -1 ≤ i → AtI F i t → ∀ b x, x ∈ (lowN F t).fr b → x ∈ t.fr14 b := by
  refine AtI.ind hF (p := fun _ t => ∀ b x, x ∈ (lowN F t).fr b → x ∈ t.fr14 b) ?_ ?_
  · intro i t n f hi ht h11 hn hf htc _ ih b x hx
    rw [htc, lowN_clo hF hf, fr_iff] at hx
    obtain ⟨hx, hb⟩ := hx
    rw [htc]
    simp only [cloX, Xp.fr14, if_true, List.mem_filter, Bool.not_eq_true', List.contains_eq_mem, decide_eq_false_iff_not]
    refine ⟨?_, hb⟩
    have hx' : x ∈ Xp.fr f.params (lowN F f.body) := by
      simpa [Xp.fr, Xps.fr, inB] using hx
    obtain ⟨g1, g2⟩ := (fr_iff _ _ _).1 hx'
    have hok := (hF n f hf).2
    unfold funOk at hok
    simp only [Bool.and_eq_true, List.isEmpty_iff] at hok
    by_cases hfr : x ∈ f.frees
    · exact hfr
    · have := ih (f.params ++ f.frees) x ((fr_iff _ _ _).2 ⟨g1, by rw [List.mem_append, not_or]; exact ⟨g2, hfr⟩⟩)
      rw [hok.2] at this
      cases this
  · intro i t hi ht h11 hk ih b x hx
    rw [lowN_other h11, Xp.fr, List.mem_append] at hx
    rw [Xp.fr14_eq, if_neg h11, List.mem_append]
    rcases hx with hx | hx
    · left
      have : (t.kind = 1 ∨ t.kind = 2) ↔ t.kind = 1 := by omega
      simp only [this] at hx
      exact hx
    · right
      have key : ∀ (l : List Xp), (∀ a ∈ l, a ∈ t.kids) → ∀ inner, x ∈ Xps.fr b inner t.kind (l.map (lowN F)) → x ∈ Xps.fr14 b inner t.kind l := by
        intro l
        induction l with
        | nil => intro _ inner h; simp [Xps.fr] at h
        | cons a l ihl =>
          intro hl inner h
          rw [List.map_cons, Xps.fr, List.mem_append] at h
          rw [Xps.fr14, List.mem_append]
          have hin : inB t.kind (l.map (lowN F)) = inB t.kind l := by unfold inB; cases l <;> rfl
          rw [hin] at h
          rcases h with h | h
          · exact .inl (ih a (hl a (List.mem_cons_self ..)) _ x h)
          · exact .inr (ihl (fun y hy => hl y (List.mem_cons_of_mem _ hy)) inner h)
      exact key _ (fun a h => h) _ hx
theorem low_any {F : List FunX} (hF : FunsOk F) : ∀ (i : Int) (t : Xp), -1 ≤ i → AtI F i t → (lowN F t).any badK = false := by
  refine AtI.ind hF (p := fun _ t => (lowN F t).any badK = false) ?_ ?_
  · intro i t n f hi ht h11 hn hf htc _ ih
    rw [htc, lowN_clo hF hf]
    simp only [Xp.any, Xps.any, ih]
    decide
  · intro i t hi ht h11 hk ih
    rw [lowN_other h11]
    have key : ∀ (l : List Xp), (∀ a ∈ l, a ∈ t.kids) → Xps.any badK (l.map (lowN F)) = false := by
      intro l
      induction l with
      | nil => intro _; rfl
      | cons a l ihl =>
        intro hl
        rw [List.map_cons, Xps.any, ih a (hl a (List.mem_cons_self ..)), ihl fun y hy => hl y (List.mem_cons_of_mem _ hy)]
        rfl
    simp only [Xp.any, key t.kids fun a h => h, badK]
    simp [hk]
def SlOk (F : List FunX) (f : FunX) : Prop := ∃ (i : Nat) (g : FunX), F[i]? = some g ∧ ∀ x ∈ f.frees, x ∈ g.frees
theorem low_slots {F : List FunX} (hF : FunsOk F) : ∀ (i : Int) (t : Xp), -1 ≤ i → AtI F i t → ∀ fs : List FunX, (∀ f ∈ fs, SlOk F f) → ∀ f ∈ (Xp.lift fs (lowN F t)).2, SlOk F f := by
  refine AtI.ind hF (p := fun _ t => ∀ fs : List FunX, (∀ f ∈ fs, SlOk F f) → ∀ f ∈ (Xp.lift fs (lowN F t)).2, SlOk F f) ?_ ?_
  · intro i t n f hi ht h11 hn hf htc _ ih fs hfs g hg
    have hfree := low_free hF i t hi ht
    rw [htc, lowN_clo hF hf] at hfree
    rw [htc, lowN_clo hF hf, Xp.lift_lam _ (lowN F f.body) fs rfl rfl] at hg
    have hslot : ∀ b, SlOk F (slot (.mk 5 [] f.params dat0 [lowN F f.body]) b) := by
      intro b
      refine ⟨n, f, hf, fun x hx => ?_⟩
      have := hfree [] x (mem_freeS.1 hx)
      simp only [cloX, Xp.fr14, if_true, List.mem_filter] at this
      exact this.1
    rcases List.mem_or_eq_of_mem_set hg with h | h
    · refine ih _ ?_ g h
      intro f' hf'
      rcases List.mem_append.1 hf' with h1 | h1
      · exact hfs f' h1
      · rw [List.mem_singleton.1 h1]; exact hslot _
    · rw [h]; exact hslot _
  · intro i t hi ht h11 hk ih fs hfs f hf
    rw [lowN_other h11, Xp.lift_other _ _ (by exact hk.2.1)] at hf
    simp only [Xp.kids] at hf
    have key : ∀ (l : List Xp), (∀ a ∈ l, a ∈ t.kids) → ∀ fs : List FunX, (∀ f ∈ fs, SlOk F f) → ∀ f ∈ (mapS (fun s x => Xp.lift s x) fs (l.map (lowN F))).2, SlOk F f := by
      intro l
      induction l with
      | nil => intro _ fs hfs f hf; exact hfs f hf
      | cons a l ihl =>
        intro hl fs hfs f hf
        simp only [List.map_cons, mapS] at hf
        exact ihl (fun y hy => hl y (List.mem_cons_of_mem _ hy)) _ (ih a (hl a (List.mem_cons_self ..)) fs hfs) f hf
    exact key _ (fun a h => h) fs hfs f hf
/-- how many functions come of a closure -/
def gI (F : List FunX) (x : Int) : Nat := match F[x.toNat]? with
  | some f => 1 + (lowN F f.body).nl
  | none => 0
theorem low_nl {F : List FunX} (hF : FunsOk F) : ∀ (i : Int) (t : Xp), -1 ≤ i → AtI F i t → (lowN F t).nl = ((t.clos F).map (gI F)).sum := by
  refine AtI.ind hF (p := fun _ t => (lowN F t).nl = ((t.clos F).map (gI F)).sum) ?_ ?_
  · intro i t n f hi ht h11 hn hf htc hcl ih
    rw [hcl]
    rw [htc, lowN_clo hF hf]
    have hg : gI F (n : Int) = 1 + (lowN F f.body).nl := by
      unfold gI
      rw [show ((n : Int)).toNat = n by omega, hf]
    simp only [Xp.nl, if_true, Xps.nl1, List.map_cons, List.map_nil, List.sum_cons, List.sum_nil, Nat.add_zero, hg]
  · intro i t hi ht h11 hk ih
    rw [lowN_other h11, Xp.clos_eq, if_neg h11, if_neg (by omega), List.nil_append]
    have key : ∀ (l : List Xp), (∀ a ∈ l, a ∈ t.kids) → Xps.nl (l.map (lowN F)) = ((Xps.clos F l).map (gI F)).sum := by
      intro l
      induction l with
      | nil => intro _; rfl
      | cons a l ihl =>
        intro hl
        rw [List.map_cons, Xps.nl, Xps.clos, List.map_append, List.sum_append, ih a (hl a (List.mem_cons_self ..)), ihl fun y hy => hl y (List.mem_cons_of_mem _ hy)]
    simp only [Xp.nl, if_neg hk.2.1]
    exact key _ fun a h => h
theorem perm_sum {l m : List Nat} (h : l.Perm m) : l.sum = m.sum := by
  induction h with
  | nil => rfl
  | cons x _ ih => simp only [List.sum_cons, ih]
  | swap x y l => simp only [List.sum_cons]; omega
  | trans _ _ ih1 ih2 => exact ih1.trans ih2
theorem perm_of_counts {l : List Int} {n : Nat} (h1 : ∀ x ∈ l, 0 ≤ x ∧ x < n) (h2 : ∀ j, j < n → l.count (j : Int) = 1) : l.Perm ((List.range n).map fun i : Nat => (i : Int)) := by
  rw [List.perm_iff_count]
  intro a
  by_cases ha : 0 ≤ a ∧ a < n
  · have he : a = ((a.toNat : Nat) : Int) := by omega
    rw [he, h2 _ (by omega)]
    symm
    have hnd : ((List.range n).map fun i : Nat => (i : Int)).Nodup := by
      refine List.pairwise_map.2 (List.Pairwise.imp (fun {a b} h e => h (by omega)) List.nodup_range)
    rw [List.Nodup.count hnd, if_pos (List.mem_map.2 ⟨a.toNat, by rw [List.mem_range]; omega, rfl⟩)]
  · rw [List.count_eq_zero.2 fun h => ha (h1 a h), List.count_eq_zero.2]
    intro h
    obtain ⟨j, hj, rfl⟩ := List.mem_map.1 h
    rw [List.mem_range] at hj
    omega
theorem clos_lt {F : List FunX} : ∀ (e : Xp), ∀ x ∈ e.clos F, x < F.length := by
  refine Xp.ind fun e ih x hx => ?_
  rw [Xp.clos_eq] at hx
  split at hx
  · rw [List.mem_singleton.1 hx]
    unfold cloI
    split
    · rename_i hc
      obtain ⟨_, _, _, c4, f, c5, _⟩ := hc
      have := (List.getElem?_eq_some_iff.1 c5).1
      omega
    · omega
  · rcases List.mem_append.1 hx with h | h
    · split at h
      · rw [List.mem_singleton.1 h]; omega
      · cases h
    · have key : ∀ (l : List Xp), (∀ a ∈ l, a ∈ e.kids) → x ∈ Xps.clos F l → x < F.length := by
        intro l
        induction l with
        | nil => intro _ h; simp [Xps.clos] at h
        | cons a l ihl =>
          intro hl h
          rw [Xps.clos, List.mem_append] at h
          rcases h with h | h
          · exact ih a (hl a (List.mem_cons_self ..)) x h
          · exact ihl (fun y hy => hl y (List.mem_cons_of_mem _ hy)) h
      exact key _ (fun a h => h) h
theorem GoodL.funs {l : LifX} (h : GoodL l) : FunsOk l.funs := fun i f hf => h.fn i f hf
theorem GoodL.at {l : LifX} (h : GoodL l) : AtI l.funs (-1) l.main := fun x hx => by have := h.main x hx; omega
theorem sum_flat (F G : List FunX) : ((G.flatMap fun f => f.body.clos F).map (gI F)).sum = (G.map fun f => ((f.body.clos F).map (gI F)).sum).sum := by
  induction G with
  | nil => rfl
  | cons f G ih => rw [List.flatMap_cons, List.map_append, List.sum_append, ih, List.map_cons, List.sum_cons]
theorem sum_one (G : List FunX) (g : FunX → Nat) : (G.map fun f => 1 + g f).sum = G.length + (G.map g).sum := by
  induction G with
  | nil => rfl
  | cons f G ih => simp only [List.map_cons, List.sum_cons, ih, List.length_cons]; omega
/-- what is lowered is lifted again -/
theorem lowered_good {l : LifX} (h : GoodL l) : liftGood (lowX l) = true ∧ (Xp.lift [] (lowX l)).2.length = l.funs.length ∧ ∀ f ∈ (Xp.lift [] (lowX l)).2, SlOk l.funs f := by
  have hF := h.funs
  refine ⟨?_, ?_, low_slots hF (-1) l.main (by omega) h.at [] (fun f hf => by cases hf)⟩
  · unfold liftGood
    rw [h.ok, show (lowX l).any badK = false from low_any hF (-1) l.main (by omega) h.at]
    have : freeS (Xp.fr [] (lowX l)) = [] := by
      refine List.eq_nil_iff_forall_not_mem.2 fun x hx => ?_
      have := low_free hF (-1) l.main (by omega) h.at [] x (mem_freeS.1 hx)
      rw [h.free] at this
      cases this
    rw [this]; rfl
  · rw [Xp.lift_nl, List.length_nil, Nat.zero_add]
    have h1 := low_nl hF (-1) l.main (by omega) h.at
    have hp : (allC l).Perm ((List.range l.funs.length).map fun i : Nat => (i : Int)) := by
      refine perm_of_counts (fun x hx => ?_) h.once
      unfold allC at hx
      rcases List.mem_append.1 hx with hx | hx
      · exact ⟨h.main x hx, clos_lt _ x hx⟩
      · obtain ⟨f, hf, hx⟩ := List.mem_flatMap.1 hx
        obtain ⟨i, hi⟩ := List.getElem?_of_mem hf
        have := (h.fn i f hi).1 x hx
        exact ⟨by omega, clos_lt _ x hx⟩
    have h2 := perm_sum (hp.map (gI l.funs))
    unfold allC at h2
    rw [List.map_append, List.sum_append, sum_flat] at h2
    have h3 : (((List.range l.funs.length).map fun i : Nat => (i : Int)).map (gI l.funs)) = l.funs.map fun f => 1 + ((f.body.clos l.funs).map (gI l.funs)).sum := by
      refine List.ext_getElem? fun i => ?_
      rw [List.map_map, List.getElem?_map, List.getElem?_map]
      by_cases hi : i < l.funs.length
      · rw [List.getElem?_range hi] 
        obtain ⟨f, hf⟩ : ∃ f, l.funs[i]? = some f := ⟨_, List.getElem?_eq_getElem hi⟩
        rw [hf]
        simp only [Option.map_some, Function.comp, gI, Option.some.injEq]
        rw [show ((i : Int)).toNat = i by omega, hf]
        simp only
        rw [low_nl hF i f.body (by omega) (hF i f hf).1]
      · rw [List.getElem?_eq_none (by rw [List.length_range]; omega), List.getElem?_eq_none (by omega)]; rfl
    rw [h3, sum_one] at h2
    show (lowN l.funs l.main).nl = _
    omega
end Go.Proofs.Ytibinelkmlcmgaa.Vc
/-
  LIFT: the program's checker: count, clo, body.
-/
namespace Go.Proofs.Ytibinelkmlcmgaa.Vc
open Go

/-- the checker's block -/
abbrev ckB (r : Nat) (T : TypeId) (x0 x1 x2 x3 x4 x5 x6 x7 x8 : Value) (m : Nat) (dp bd : Bool) (nv : Value) : Itm := bx r T [x0, x1, x2, x3, x4, x5, x6, x7, x8, .int .i64 (m : Int), .bool dp, .bool bd, nv]

/-! ### how many, how deep -/
theorem Xps.wi_snoc (a : Xp) : ∀ (l : List Xp) (d n : Nat), Xps.wi (l ++ [a]) d n = if (Xps.wi l d n).2 = true then a.wi d (Xps.wi l d n).1 else ((Xps.wi l d n).1, false)
  | [], d, n => by
    simp only [List.nil_append, Xps.wi, if_true]
    split
    · rename_i h; rw [← h]
    · rename_i h; rw [Bool.not_eq_true] at h; rw [← h]
  | e :: l, d, n => by
    simp only [List.cons_append, Xps.wi]
    by_cases h : (e.wi d n).2 = true
    · simp only [if_pos h, Xps.wi_snoc a l]
    · simp only [if_neg h, Bool.false_eq_true, if_false]
def Bad (m : Nat) (dp : Bool) : Prop := dp = true ∨ 4096 < m
structure CntR (w : Nat × Bool) (B : Nat) (m' : Nat) (dp' : Bool) : Prop where
  yes : w.2 = true → dp' = false ∧ m' + w.1 = 4096
  no : w.2 = false → Bad m' dp' ∧ m' ≤ B
def CntE (e : Xp) (d m : Nat) (dp : Bool) (m' : Nat) (dp' : Bool) : Prop :=
  (Bad m dp → Bad m' dp' ∧ m' = m + 1) ∧ (¬ Bad m dp → CntR (e.wi d (4096 - m)) (5000 + (252 - d) * 1048577) m' dp')
set_option maxHeartbeats 4000000 in
theorem count_tri (r : Nat) (T : TypeId) (x0 x1 x2 x3 x4 x5 x6 x7 x8 : Value) (bd : Bool) (nv : Value) : ∀ (e : Xp) (d m : Nat) (dp : Bool) (cs : List Value) (S K : PH), Held S K [ckB r T x0 x1 x2 x3 x4 x5 x6 x7 x8 m dp bd nv] → e.Rep S cs → e.fit → d ≤ 251 → m ≤ 900000000 →
    Tri Try.prog n_lift_checker__count #[pAt r, .agg cs.toArray, .int .i64 (d : Int)] K fun x K' => ∃ m' dp', x = .returned (.tuple #[]) ∧ Held S K' [ckB r T x0 x1 x2 x3 x4 x5 x6 x7 x8 m' dp' bd nv] ∧ CntE e d m dp m' dp' := by
  refine Xp.ind fun e ih d m dp cs S K h he hfit hd hm => ?_
  have he' := he
  obtain ⟨nb, db, kb, nc, dc, kc, rfl, hx⟩ := Xp.Rep.open he
  obtain ⟨f1, f2, f3⟩ := (Xp.fit_iff e).1 hfit
  refine tri_lift_checker__count (pAt r :: exVs e nb db kb nc dc kc ++ [.int .i64 (d : Int)]) (by kernel_rfl) (by kernel_rfl) ?_
  refine ⟨fun _ => rfl, ?_⟩
  refine den_bxLoad [.int .i64 (m : Int)] (off := 9) (by kernel_rfl) h (List.mem_cons_self ..) rfl rfl ?_
  refine den_bxStore (off := 9) (vs := [.int .i64 ((m + 1 : Nat) : Int)]) (by kernel_rfl) h ?_ (by simp [oneC]) (by simp) fun K1 h1 => ?_
  · simp only [ev0, ev, evV, List.cons_append, List.nil_append, List.getD_cons_zero, List.getD_cons_succ, List.map_cons, List.map_nil, iOf, bOf, sOf, pOf, slLen, slBase, cmpI, arI, Value.ite_bool, int_beq, int_bne, ite_band, ite_bor]
    rw [w64 (by omega) (by omega)]
    rfl
  have h1 : Held S K1 [ckB r T x0 x1 x2 x3 x4 x5 x6 x7 x8 (m + 1) dp bd nv] := h1
  refine den_bxLoad [.bool dp] (off := 10) (by kernel_rfl) h1 (List.mem_cons_self ..) rfl rfl ?_
  refine den_bxStore (off := 10) (vs := [.bool (dp || decide ((d : Int) > 250))]) (by kernel_rfl) h1 ?_ (by simp [oneC]) (by simp) fun K2 h2 => ?_
  · simp only [ev0, ev, evV, List.cons_append, List.nil_append, List.getD_cons_zero, List.getD_cons_succ, List.map_cons, List.map_nil, iOf, bOf, sOf, pOf, slLen, slBase, cmpI, arI, Value.ite_bool, int_beq, int_bne, ite_band, ite_bor]
  have h2 : Held S K2 [ckB r T x0 x1 x2 x3 x4 x5 x6 x7 x8 (m + 1) (dp || decide ((d : Int) > 250)) bd nv] := h2
  refine ⟨fun vs H' => vs = [.bool (dp || decide ((d : Int) > 250) || decide (4096 < m + 1))] ∧ H' = K2, ?_, ?_⟩
  · rintro vs K3 _ ⟨rfl, rfl⟩
    refine ⟨fun g => ?_, fun g => ?_⟩
    · simp only [ev0, ev, evV, List.cons_append, List.nil_append, List.getD_cons_zero, List.getD_cons_succ, List.map_cons, List.map_nil, iOf, bOf, sOf, pOf, slLen, slBase, cmpI, arI, Value.ite_bool, int_beq, int_bne, ite_band, ite_bor, Bool.or_eq_true, decide_eq_true_eq] at g
      refine ⟨_, _, rfl, h2, fun hb => ⟨?_, rfl⟩, fun hb => ?_⟩
      · rcases hb with hb | hb
        · exact .inl (by rw [hb]; rfl)
        · exact .inr (by omega)
      · have hdp : dp = false := by
          cases dp
          · rfl
          · exact absurd (.inl rfl) hb
        have hm4 : ¬ 4096 < m := fun h => hb (.inr h)
        have hw : e.wi d (4096 - m) = (0, false) := by
          rw [Xp.wi_eq, if_pos]
          rw [hdp] at g
          simp only [Bool.false_eq_true, false_or] at g
          omega
        rw [hw]
        refine ⟨fun h => (by cases h), fun _ => ⟨?_, by omega⟩⟩
        rw [hdp] at g
        simp only [Bool.false_eq_true, false_or] at g
        rcases g with g | g
        · exact .inl (by rw [decide_eq_true g]; exact Bool.or_true dp)
        · exact .inr g
    · simp only [ev0, ev, evV, List.cons_append, List.nil_append, List.getD_cons_zero, List.getD_cons_succ, List.map_cons, List.map_nil, iOf, bOf, sOf, pOf, slLen, slBase, cmpI, arI, Value.ite_bool, int_beq, int_bne, ite_band, ite_bor, Bool.or_eq_false_iff, decide_eq_false_iff_not] at g
      obtain ⟨⟨g1, g2⟩, g3⟩ := g
      subst g1
      have hdd : (false || decide ((d : Int) > 250)) = false := by rw [decide_eq_false g2]; rfl
      rw [hdd] at h2
      have hnb : ¬ Bad m false := by rintro (h | h); cases h; omega
      have hwe : e.wi d (4096 - m) = Xps.wi e.kids (d + 1) (4096 - (m + 1)) := by
        rw [Xp.wi_eq, if_neg (by omega)]; rfl
      refine ⟨fun n vs K' => ∃ (k mk : Nat) (dk : Bool), vs = [.int .i64 k] ∧ k + n = e.kids.length ∧ Held S K' [ckB r T x0 x1 x2 x3 x4 x5 x6 x7 x8 mk dk bd nv] ∧ CntR (Xps.wi (e.kids.take k) (d + 1) (4096 - (m + 1))) (5000 + (252 - (d + 1)) * 1048577 + k) mk dk,
        ⟨e.kids.length, 0, m + 1, false, rfl, by omega, h2, ⟨fun _ => ⟨rfl, by simp only [List.take_zero, Xps.wi]; omega⟩, fun h => by simp [Xps.wi] at h⟩⟩, ?_⟩
      rintro n vs K4 _ ⟨k, mk, dk, rfl, hkn, h4, hc⟩
      refine ⟨fun g4 => ?_, fun g4 => ?_⟩
      · simp only [ev0, ev, evV, List.cons_append, List.nil_append, List.getD_cons_zero, List.getD_cons_succ, List.map_cons, List.map_nil, iOf, bOf, sOf, pOf, slLen, slBase, cmpI, arI, Value.ite_bool, int_beq, int_bne, ite_band, ite_bor, decide_eq_true_eq] at g4
        obtain ⟨a, ha⟩ : ∃ a, e.kids[k]? = some a := ⟨_, List.getElem?_eq_getElem (show k < e.kids.length by omega)⟩
        obtain ⟨q1, _, ces, q2, q3⟩ := hx.kids.get ha
        have hmem := List.mem_of_getElem? ha
        have htags := Xp.Rep.tags q2
        have q2' := q2
        obtain ⟨nb', db', kb', nc', dc', kc', rfl, _⟩ := Xp.Rep.open q2'
        have hmk : mk ≤ 900000000 := by
          cases hw : (Xps.wi (e.kids.take k) (d + 1) (4096 - (m + 1))).2
          · have := (hc.no hw).2
            have : (252 - (d + 1)) * 1048577 ≤ 251 * 1048577 := Nat.mul_le_mul_right _ (by omega)
            omega
          · have := (hc.yes hw).2
            omega
        refine ⟨fun _ => ?_, _, htags, by simp only [ev0, ev, evV, List.cons_append, List.nil_append, List.getD_cons_zero, List.getD_cons_succ, List.map_cons, List.map_nil, iOf, bOf, sOf, pOf, slLen, slBase, cmpI, arI, Value.ite_bool, int_beq, int_bne, ite_band, ite_bor]; exact rowAt_le h4.sh q3, ?_⟩
        · simp only [Chk.holds, ev0, ev, evV, List.cons_append, List.nil_append, List.getD_cons_zero, List.getD_cons_succ, List.map_cons, List.map_nil, iOf, bOf, sOf, pOf, slLen, slBase, cmpI, arI, Value.ite_bool, int_beq, int_bne, ite_band, ite_bor]; exact ⟨q1, by omega, by omega⟩
        have hcall := ih a hmem (d + 1) mk dk _ S K4 h4 q2 (f3 a hmem) (by omega) hmk
        have hd1 : IntKind.i64.wrap ((d : Int) + 1) = ((d + 1 : Nat) : Int) := by rw [w64 (by omega) (by omega)]; rfl
        refine den_call cb_lift_checker__count (by simp only [ev0, ev, evV, List.cons_append, List.nil_append, List.getD_cons_zero, List.getD_cons_succ, List.map_cons, List.map_nil, iOf, bOf, sOf, pOf, slLen, slBase, cmpI, arI, Value.ite_bool, int_beq, int_bne, ite_band, ite_bor, hd1]; exact hcall) ?_
        rintro x K5 ⟨m5, dp5, rfl, h5, c5⟩
        refine ⟨_, [], rfl, rfl, rfl, pendNil, _, lookup_hit, n - 1, by omega, k + 1, m5, dp5, ?_, by omega, h5, ?_⟩
        · simp only [ev0, ev, evV, List.cons_append, List.nil_append, List.getD_cons_zero, List.getD_cons_succ, List.map_cons, List.map_nil, iOf, bOf, sOf, pOf, slLen, slBase, cmpI, arI, Value.ite_bool, int_beq, int_bne, ite_band, ite_bor, List.append_nil]
          rw [w64 (by omega) (by omega)]
          rfl
        · have hst : Xps.wi (e.kids.take (k + 1)) (d + 1) (4096 - (m + 1)) = if (Xps.wi (e.kids.take k) (d + 1) (4096 - (m + 1))).2 = true then a.wi (d + 1) (Xps.wi (e.kids.take k) (d + 1) (4096 - (m + 1))).1 else ((Xps.wi (e.kids.take k) (d + 1) (4096 - (m + 1))).1, false) := by
            rw [List.take_add_one, ha]; exact Xps.wi_snoc a _ _ _
          rw [hst]
          cases hw : (Xps.wi (e.kids.take k) (d + 1) (4096 - (m + 1))).2
          · obtain ⟨b1, b2⟩ := hc.no hw
            obtain ⟨b3, b4⟩ := c5.1 b1
            simp only [Bool.false_eq_true, if_false]
            exact ⟨fun h => (by cases h), fun _ => ⟨b3, by omega⟩⟩
          · obtain ⟨b1, b2⟩ := hc.yes hw
            simp only [if_true]
            have hnb5 : ¬ Bad mk dk := by rintro (h | h); rw [b1] at h; cases h; omega
            have c6 := c5.2 hnb5
            have e6 : 4096 - mk = (Xps.wi (e.kids.take k) (d + 1) (4096 - (m + 1))).1 := by omega
            rw [e6] at c6
            exact ⟨c6.yes, fun h => ⟨(c6.no h).1, by have := (c6.no h).2; omega⟩⟩
      · simp only [ev0, ev, evV, List.cons_append, List.nil_append, List.getD_cons_zero, List.getD_cons_succ, List.map_cons, List.map_nil, iOf, bOf, sOf, pOf, slLen, slBase, cmpI, arI, Value.ite_bool, int_beq, int_bne, ite_band, ite_bor, decide_eq_false_iff_not] at g4
        obtain rfl : k = e.kids.length := by omega
        rw [List.take_length] at hc
        refine ⟨mk, dk, rfl, h4, fun hb => absurd hb hnb, fun _ => ?_⟩
        rw [hwe]
        refine ⟨hc.yes, fun h => ⟨(hc.no h).1, ?_⟩⟩
        have h9 := (hc.no h).2
        have e9 : 252 - d = (252 - (d + 1)) + 1 := by omega
        rw [e9, Nat.add_mul]
        omega
  · refine den_bxLoad [.bool (dp || decide ((d : Int) > 250))] (off := 10) (by kernel_rfl) h2 (List.mem_cons_self ..) rfl rfl ?_
    refine ⟨fun g => ?_, fun g => ?_⟩
    · simp only [ev0, ev, evV, List.cons_append, List.nil_append, List.getD_cons_zero, List.getD_cons_succ, List.map_cons, List.map_nil, iOf, bOf, sOf, pOf, slLen, slBase, cmpI, arI, Value.ite_bool, int_beq, int_bne, ite_band, ite_bor] at g
      exact ⟨_, lookup_hit, by rw [g]; rfl, rfl⟩
    · simp only [ev0, ev, evV, List.cons_append, List.nil_append, List.getD_cons_zero, List.getD_cons_succ, List.map_cons, List.map_nil, iOf, bOf, sOf, pOf, slLen, slBase, cmpI, arI, Value.ite_bool, int_beq, int_bne, ite_band, ite_bor] at g
      refine den_bxLoad [.int .i64 ((m + 1 : Nat) : Int)] (off := 9) (by kernel_rfl) h2 (List.mem_cons_self ..) rfl rfl ?_
      refine ⟨_, lookup_hit, ?_, rfl⟩
      simp only [ev0, ev, evV, List.cons_append, List.nil_append, List.getD_cons_zero, List.getD_cons_succ, List.map_cons, List.map_nil, iOf, bOf, sOf, pOf, slLen, slBase, cmpI, arI, Value.ite_bool, int_beq, int_bne, ite_band, ite_bor, g, Bool.false_or]
      congr 2
      rw [decide_eq_decide]
      omega

/-! ### closures -/
/-- how often each place has come -/
def nmOf (N : Nat) (C : List Int) : List Int := (List.range N).map fun j : Nat => ((C.count (j : Int) : Nat) : Int)
theorem nmOf_len (N : Nat) (C : List Int) : (nmOf N C).length = N := by simp [nmOf]
theorem nmOf_get {N : Nat} {C : List Int} {j : Nat} (h : j < N) : (nmOf N C)[j]? = some ((C.count (j : Int) : Nat) : Int) := by
  unfold nmOf
  rw [List.getElem?_map, List.getElem?_range h]; rfl
theorem nmOf_put {N : Nat} {C : List Int} {j : Nat} (h : j < N) : (nmOf N C).set j (((C.count (j : Int) : Nat) : Int) + 1) = nmOf N (C ++ [(j : Int)]) := by
  refine List.ext_getElem? fun i => ?_
  rw [List.getElem?_set]
  by_cases hi : i < N
  · rw [nmOf_get hi, nmOf_get hi, List.count_append]
    by_cases e : j = i
    · subst e
      rw [if_pos rfl, if_pos (by rw [nmOf_len]; exact hi)]
      simp
    · rw [if_neg e]
      have : [(j : Int)].count (i : Int) = 0 := by
        rw [List.count_eq_zero]; simp; omega
      rw [this]; rfl
  · rw [List.getElem?_eq_none (by rw [nmOf_len]; omega), List.getElem?_eq_none (by rw [nmOf_len]; omega)]
    split
    · split
      · rename_i h1 h2; rw [nmOf_len] at h2; omega
      · rfl
    · rfl
theorem nmOf_nil (N : Nat) : nmOf N [] = List.replicate N 0 := by
  refine List.ext_getElem? fun i => ?_
  by_cases hi : i < N
  · rw [nmOf_get hi, List.getElem?_replicate, if_pos hi]; simp
  · rw [List.getElem?_eq_none (by rw [nmOf_len]; omega), List.getElem?_eq_none (by simp; omega)]
theorem den_hPut0 {α : Type} [Enc α] {P : Program} {X : List PanicEntry → PH → Prop} {β : Type} {E : List Value} {H S : PH} {L : LK} {K : β → List Value → PH → LK → Prop} {I : List Itm} {e : TypeId} {l : List α} {v : Value} {p : SV} {ss : List SV} {f : Fm β} {i : Nat} {a a' : α} {us : List Value} (hp : pOf (ev0 E p) = pOf (eltV v (i : Int) (sz α))) (h : Held S H (orow e l v :: I)) (hi : l[i]? = some a) (hs : us.length = sz α) (hv : ss.map (ev0 E) = us) (h1 : ∀ u ∈ us, oneC u = true)
    (hu : CsR S a' us)
    (hk : ∀ H', Held S H' (orow e (l.set i a') v :: I) → den P X f E H' L K) : den P X (.store p ss f) E H L K := by
  refine den_hPut (off := 0) (a' := a') ?_ h hi (by omega) hv h1 (fun ces hc => ?_) hk
  · rw [hp]
    cases pOf (eltV v (i : Int) (sz α)) with
    | none => rfl
    | some x => simp [Addr.add_zero]
  · have hl : ces.length = sz α := by
      have := PV.RepRow.length hc
      rw [Enc.len] at this; exact this
    rw [List.take_zero, List.nil_append, Nat.zero_add, hs, List.drop_of_length_le (by omega), List.append_nil]
    exact hu
theorem cloI_cases (F : List FunX) (e : Xp) : (CloOk F e ∧ cloI F e = e.const.int) ∨ (¬ CloOk F e ∧ cloI F e = -1) := by
  unfold cloI
  split
  · rename_i h; exact .inl ⟨h, rfl⟩
  · rename_i h; exact .inr ⟨h, rfl⟩
theorem Xp.clos_len (F : List FunX) : ∀ e : Xp, (e.clos F).length ≤ e.size := by
  refine Xp.ind fun e ih => ?_
  rw [Xp.clos_eq, Xp.size_eq]
  split
  · simp
  · rw [List.length_append]
    have key : ∀ l : List Xp, (∀ a ∈ l, a ∈ e.kids) → (Xps.clos F l).length ≤ Xps.size l := by
      intro l
      induction l with
      | nil => intro _; simp [Xps.clos]
      | cons a l ihl =>
        intro hl
        have h1 := ih a (hl a (List.mem_cons_self ..))
        have h2 := ihl fun y hy => hl y (List.mem_cons_of_mem _ hy)
        rw [Xps.clos, List.length_append, Xps.size]; omega
    have := key e.kids fun a h => h
    split <;> simp <;> omega
end Go.Proofs.Ytibinelkmlcmgaa.Vc
/-
  LIFT: the program's checker: closures, bodies.
-/
namespace Go.Proofs.Ytibinelkmlcmgaa.Vc
open Go

set_option maxHeartbeats 4000000 in
theorem clo_tri (l : LifX) (r : Nat) (T : TypeId) (fb : Option Addr) (fc : Nat) (x1 x2 x3 x4 x5 x6 x7 x8 : Value) (m : Nat) (dp bd : Bool) (nv : Value) (e : Xp) (cs : List Value) (i : Int) (hi : -1 ≤ i) (C : List Int) (hC : C.length ≤ 900000) (S K : PH) (hs0 : SlR S l.funs (.slice fb l.funs.length fc)) (h : Held S K [ckB r T (.slice fb l.funs.length fc) x1 x2 x3 x4 x5 x6 x7 x8 m dp bd nv, orow 3 (nmOf l.funs.length C) nv]) (he : e.Rep S cs) :
    Tri Try.prog n_lift_checker__clo #[pAt r, .agg cs.toArray, .int .i64 i] K fun x K' => x = .returned (.tuple #[]) ∧ Held S K' [ckB r T (.slice fb l.funs.length fc) x1 x2 x3 x4 x5 x6 x7 x8 m dp (bd || decide (cloI l.funs e ≤ i)) nv, orow 3 (nmOf l.funs.length (C ++ if i < cloI l.funs e then [cloI l.funs e] else [])) nv] := by
  have he' := he
  obtain ⟨nb, db, kb, nc, dc, kc, rfl, hx⟩ := Xp.Rep.open he
  refine tri_lift_checker__clo (pAt r :: exVs e nb db kb nc dc kc ++ [.int .i64 i]) (by kernel_rfl) (by kernel_rfl) ?_
  have hrow := h.row (List.mem_cons_of_mem _ (List.mem_cons_self ..))
  obtain ⟨vb, vc, hnv⟩ := hrow.sl
  rw [nmOf_len] at hnv
  subst hnv
  have hm0 := hs0.max
  simp only [maxLen] at hm0
  have hcase := cloI_cases l.funs e
  refine ⟨fun vs H' => vs = [.bool (decide (i < cloI l.funs e))] ∧ PH.le K H', ?_, ?_⟩
  · rintro vs K1 _ ⟨rfl, l1⟩
    have h1 := h.le l1
    refine ⟨fun g => ?_, fun g => ?_⟩
    · simp only [ev0, ev, evV, List.cons_append, List.nil_append, List.getD_cons_zero, List.getD_cons_succ, List.map_cons, List.map_nil, iOf, bOf, sOf, pOf, slLen, slBase, cmpI, arI, Value.ite_bool, int_beq, int_bne, ite_band, ite_bor, Bool.not_eq_true', decide_eq_false_iff_not] at g
      refine ⟨fun _ => rfl, ?_⟩
      refine den_bxStore (off := 11) (vs := [.bool true]) (by kernel_rfl) h1 (by kernel_rfl) (by simp [oneC]) (by simp) fun K2 h2 => ⟨rfl, ?_⟩
      rw [decide_eq_true (show cloI l.funs e ≤ i by omega), Bool.or_true, if_neg g, List.append_nil]
      exact h2
    · simp only [ev0, ev, evV, List.cons_append, List.nil_append, List.getD_cons_zero, List.getD_cons_succ, List.map_cons, List.map_nil, iOf, bOf, sOf, pOf, slLen, slBase, cmpI, arI, Value.ite_bool, int_beq, int_bne, ite_band, ite_bor, Bool.not_eq_false', decide_eq_true_eq] at g
      rcases hcase with ⟨hc, hci⟩ | ⟨_, hci⟩
      · obtain ⟨c1, c2, c3, c4, f, c5, c6⟩ := hc
        have hlt := (List.getElem?_eq_some_iff.1 c5).1
        obtain ⟨n, hn⟩ : ∃ n : Nat, e.const.int = (n : Int) := ⟨e.const.int.toNat, by omega⟩
        have hnt : e.const.int.toNat = n := by omega
        rw [hnt] at hlt
        have hrow1 := h1.row (List.mem_cons_of_mem _ (List.mem_cons_self ..))
        have hget := nmOf_get (C := C) hlt
        obtain ⟨q1, _, ces, q2, q3⟩ := (hrow1.slR h1.sh).get hget
        obtain ⟨rfl, hin⟩ := csIntL q2
        have hcl : C.count (n : Int) ≤ C.length := List.count_le_length
        refine ⟨fun _ => rfl, ?_⟩
        refine den_bxLoad [.slice vb l.funs.length vc] (off := 12) (by kernel_rfl) h1 (List.mem_cons_self ..) rfl rfl ?_
        refine ⟨fun _ => ?_, [.int .i64 ((C.count (n : Int) : Nat) : Int)], rfl, ?_, ?_⟩
        · simp only [Chk.holds, ev0, ev, evV, List.cons_append, List.nil_append, List.getD_cons_zero, List.getD_cons_succ, List.map_cons, List.map_nil, iOf, bOf, sOf, pOf, slLen, slBase, cmpI, arI, Value.ite_bool, int_beq, int_bne, ite_band, ite_bor, hn]
          exact ⟨q1, by omega, by omega⟩
        · simp only [ev0, ev, evV, List.cons_append, List.nil_append, List.getD_cons_zero, List.getD_cons_succ, List.map_cons, List.map_nil, iOf, bOf, sOf, pOf, slLen, slBase, cmpI, arI, Value.ite_bool, int_beq, int_bne, ite_band, ite_bor, hn]
          exact q3
        refine den_hPut0 (i := n) (a := ((C.count (n : Int) : Nat) : Int)) (a' := ((C.count (n : Int) : Nat) : Int) + 1) (us := [.int .i64 (((C.count (n : Int) : Nat) : Int) + 1)]) ?_ (h1.perm (List.Perm.swap _ _ _)) hget rfl ?_ (by simp [oneC]) (int_cs (by unfold InI; omega)) fun K2 h2 => ⟨rfl, ?_⟩
        · simp only [ev0, ev, evV, List.cons_append, List.nil_append, List.getD_cons_zero, List.getD_cons_succ, List.map_cons, List.map_nil, iOf, bOf, sOf, pOf, slLen, slBase, cmpI, arI, Value.ite_bool, int_beq, int_bne, ite_band, ite_bor, hn]; rfl
        · simp only [ev0, ev, evV, List.cons_append, List.nil_append, List.getD_cons_zero, List.getD_cons_succ, List.map_cons, List.map_nil, iOf, bOf, sOf, pOf, slLen, slBase, cmpI, arI, Value.ite_bool, int_beq, int_bne, ite_band, ite_bor]
          rw [w64 (by omega) (by omega)]
        · rw [decide_eq_false (show ¬ cloI l.funs e ≤ i by omega), Bool.or_false, if_pos g, hci, hn, ← nmOf_put hlt]
          exact h2.perm (List.Perm.swap _ _ _)
      · omega
  · refine ⟨fun g => ?_, fun g => ?_⟩
    · simp only [ev0, ev, evV, List.cons_append, List.nil_append, List.getD_cons_zero, List.getD_cons_succ, List.map_cons, List.map_nil, iOf, bOf, sOf, pOf, slLen, slBase, cmpI, arI, Value.ite_bool, int_beq, int_bne, ite_band, ite_bor, txt_eql] at g
      simp only [Bool.and_eq_true, decide_eq_true_eq] at g
      have hn1 : e.name = [] := g.1
      have hk1 : e.kids = [] := List.length_eq_zero_iff.1 (by omega)
      have hii : InI e.const.int := (Dat.Rep_iff.1 hx.const).choose_spec.2.2.1
      refine den_gives [.bool (decide (e.const = .mk 1 e.const.int [] []))] cb_data_Equal (Equal_gives e.const (.mk 1 e.const.int [] []) _ _ K (Dat.Rep.le h.sh _ hx.const) (leaf_rep (by decide) hii (by decide))) rfl pendNil fun K1 l1 => ?_
      refine ⟨fun _ => rfl, fun _ => rfl, fun _ => rfl, fun g2 => ?_, fun g2 => ?_⟩
      · simp only [ev0, ev, evV, List.cons_append, List.nil_append, List.getD_cons_zero, List.getD_cons_succ, List.map_cons, List.map_nil, iOf, bOf, sOf, pOf, slLen, slBase, cmpI, arI, Value.ite_bool, int_beq, int_bne, ite_band, ite_bor] at g2
        simp only [Bool.and_eq_true, decide_eq_true_eq] at g2
        have h1 := h.le l1
        refine den_bxLoad [.slice fb l.funs.length fc] (off := 0) (by kernel_rfl) h1 (List.mem_cons_self ..) rfl rfl ?_
        refine ⟨fun _ => rfl, fun _ => rfl, fun _ => rfl, fun g3 => ?_, fun g3 => ?_⟩
        · simp only [ev0, ev, evV, List.cons_append, List.nil_append, List.getD_cons_zero, List.getD_cons_succ, List.map_cons, List.map_nil, iOf, bOf, sOf, pOf, slLen, slBase, cmpI, arI, Value.ite_bool, int_beq, int_bne, ite_band, ite_bor, decide_eq_true_eq] at g3
          obtain ⟨n, hn⟩ : ∃ n : Nat, e.const.int = (n : Int) := ⟨e.const.int.toNat, by omega⟩
          obtain ⟨f, hf⟩ : ∃ f, l.funs[n]? = some f := ⟨_, List.getElem?_eq_getElem (show n < l.funs.length by omega)⟩
          refine den_bxLoad [.slice fb l.funs.length fc] (off := 0) (by kernel_rfl) h1 (List.mem_cons_self ..) rfl rfl ?_
          obtain ⟨q1, _, ces, q2, q3⟩ := (hs0.le h1.sh).get hf
          obtain ⟨pv, fv, bs, rfl, c1, c2, c3⟩ := fun_iff.1 q2
          obtain ⟨gb, gc, rfl⟩ := c2.sl
          refine ⟨fun _ => ?_, [.slice gb f.frees.length gc], rfl, ?_, ?_⟩
          · simp only [Chk.holds, ev0, ev, evV, List.cons_append, List.nil_append, List.getD_cons_zero, List.getD_cons_succ, List.map_cons, List.map_nil, iOf, bOf, sOf, pOf, slLen, slBase, cmpI, arI, Value.ite_bool, int_beq, int_bne, ite_band, ite_bor, hn]; exact ⟨q1, by omega, by omega⟩
          · have := rowAt_sub q3 1 1
            simp only [ev0, ev, evV, List.cons_append, List.nil_append, List.getD_cons_zero, List.getD_cons_succ, List.map_cons, List.map_nil, iOf, bOf, sOf, pOf, slLen, slBase, cmpI, arI, Value.ite_bool, int_beq, int_bne, ite_band, ite_bor, hn]
            exact this
          refine den_gives [.bool (decide (f.frees = e.names))] cb_slices_Equal___string_string_ (EqualT_gives f.frees e.names _ _ K1 c2 (hx.names.le h1.sh)) rfl pendNil fun K2 l2 => ⟨_, lookup_hit, ?_, PH.le_trans l1 l2⟩
          simp only [ev0, ev, evV, List.cons_append, List.nil_append, List.getD_cons_zero, List.getD_cons_succ, List.map_cons, List.map_nil, iOf, bOf, sOf, pOf, slLen, slBase, cmpI, arI, Value.ite_bool, int_beq, int_bne, ite_band, ite_bor]
          congr 2
          rw [decide_eq_decide]
          rcases hcase with ⟨hc, hci⟩ | ⟨hc, hci⟩
          · obtain ⟨_, _, _, _, f', c5, c6⟩ := hc
            rw [hci]
            constructor
            · intro _; omega
            · intro _
              rw [hn, Int.toNat_natCast, hf] at c5
              cases c5; exact c6
          · rw [hci]
            constructor
            · intro hh
              exact absurd ⟨hn1, hk1, g2.1, by omega, f, by rw [hn, Int.toNat_natCast]; exact hf, hh⟩ hc
            · intro _; omega
        · simp only [ev0, ev, evV, List.cons_append, List.nil_append, List.getD_cons_zero, List.getD_cons_succ, List.map_cons, List.map_nil, iOf, bOf, sOf, pOf, slLen, slBase, cmpI, arI, Value.ite_bool, int_beq, int_bne, ite_band, ite_bor, decide_eq_false_iff_not] at g3
          refine ⟨_, lookup_hit, ?_, l1⟩
          have hf : ¬ (i < cloI l.funs e) := by
            rcases hcase with ⟨hc, hci⟩ | ⟨hc, hci⟩
            · obtain ⟨_, _, _, _, f', c5, c6⟩ := hc
              have := (List.getElem?_eq_some_iff.1 c5).1
              omega
            · omega
          rw [decide_eq_false hf]; rfl
      · simp only [ev0, ev, evV, List.cons_append, List.nil_append, List.getD_cons_zero, List.getD_cons_succ, List.map_cons, List.map_nil, iOf, bOf, sOf, pOf, slLen, slBase, cmpI, arI, Value.ite_bool, int_beq, int_bne, ite_band, ite_bor] at g2
        simp only [Bool.and_eq_false_iff, decide_eq_false_iff_not] at g2
        refine ⟨_, lookup_hit, ?_, l1⟩
        have hf : ¬ (i < cloI l.funs e) := by
          rcases hcase with ⟨hc, hci⟩ | ⟨hc, hci⟩
          · obtain ⟨_, _, c3, _⟩ := hc
            rcases g2 with g2 | g2
            · exact absurd c3 g2
            · omega
          · omega
        rw [decide_eq_false hf]; rfl
    · simp only [ev0, ev, evV, List.cons_append, List.nil_append, List.getD_cons_zero, List.getD_cons_succ, List.map_cons, List.map_nil, iOf, bOf, sOf, pOf, slLen, slBase, cmpI, arI, Value.ite_bool, int_beq, int_bne, ite_band, ite_bor, txt_eql] at g
      simp only [Bool.and_eq_false_iff, decide_eq_false_iff_not] at g
      refine ⟨_, lookup_hit, ?_, PH.le_refl _⟩
      have hf : ¬ (i < cloI l.funs e) := by
        rcases hcase with ⟨hc, hci⟩ | ⟨hc, hci⟩
        · obtain ⟨c1, c2, _⟩ := hc
          rcases g with g | g
          · exact absurd c1 g
          · exact absurd (by rw [c2]; rfl) g
        · omega
      rw [decide_eq_false hf]; rfl
theorem Xps.clos_snoc (F : List FunX) (a : Xp) : ∀ l : List Xp, Xps.clos F (l ++ [a]) = Xps.clos F l ++ a.clos F
  | [] => by simp [Xps.clos]
  | e :: l => by simp only [List.cons_append, Xps.clos, Xps.clos_snoc F a l, List.append_assoc]
theorem Xps.clos_take {F : List FunX} {l : List Xp} {k : Nat} {a : Xp} (h : l[k]? = some a) : Xps.clos F (l.take (k + 1)) = Xps.clos F (l.take k) ++ a.clos F := by
  rw [List.take_add_one, h]; exact Xps.clos_snoc F a _
theorem Xps.clos_len (F : List FunX) : ∀ l : List Xp, (Xps.clos F l).length ≤ Xps.size l
  | [] => by simp [Xps.clos]
  | e :: l => by
    have h1 := Xp.clos_len F e
    have h2 := Xps.clos_len F l
    rw [Xps.clos, List.length_append, Xps.size]; omega
set_option maxHeartbeats 4000000 in
theorem body_tri (l : LifX) (r : Nat) (T : TypeId) (fb : Option Addr) (fc : Nat) (x1 x2 x3 x4 x5 x6 x7 x8 : Value) (m : Nat) (dp : Bool) (nv : Value) (i : Int) (hi : -1 ≤ i) : ∀ (e : Xp) (cs : List Value) (bd : Bool) (C : List Int) (S K : PH), C.length + e.size ≤ 900000 → SlR S l.funs (.slice fb l.funs.length fc) → Held S K [ckB r T (.slice fb l.funs.length fc) x1 x2 x3 x4 x5 x6 x7 x8 m dp bd nv, orow 3 (nmOf l.funs.length C) nv] → e.Rep S cs →
    Tri Try.prog n_lift_checker__body #[pAt r, .agg cs.toArray, .int .i64 i] K fun x K' => x = .returned (.tuple #[]) ∧ Held S K' [ckB r T (.slice fb l.funs.length fc) x1 x2 x3 x4 x5 x6 x7 x8 m dp (bd || (e.clos l.funs).any fun x => decide (x ≤ i)) nv, orow 3 (nmOf l.funs.length (C ++ (e.clos l.funs).filter fun x => decide (i < x))) nv] := by
  refine Xp.ind fun e ih cs bd C S K hC hs0 h he => ?_
  have he' := he
  obtain ⟨nb, db, kb, nc, dc, kc, rfl, hx⟩ := Xp.Rep.open he
  have hk := hx.kids.max
  simp only [maxLen] at hk
  have hsz := Xp.size_eq e
  refine tri_lift_checker__body (pAt r :: exVs e nb db kb nc dc kc ++ [.int .i64 i]) (by kernel_rfl) (by kernel_rfl) ?_
  refine ⟨fun vs K' => vs = [] ∧ e.kind ≠ 11 ∧ Held S K' [ckB r T (.slice fb l.funs.length fc) x1 x2 x3 x4 x5 x6 x7 x8 m dp (bd || decide (e.kind = 2 ∨ e.kind = 5 ∨ e.kind = 9)) nv, orow 3 (nmOf l.funs.length C) nv], ?_, fun g => ?_, fun g => ?_⟩
  · rintro vs K1 _ ⟨rfl, h11, h1⟩
    refine ⟨fun n vs K' => ∃ k : Nat, vs = [.int .i64 k] ∧ k + n = e.kids.length ∧ Held S K' [ckB r T (.slice fb l.funs.length fc) x1 x2 x3 x4 x5 x6 x7 x8 m dp (bd || decide (e.kind = 2 ∨ e.kind = 5 ∨ e.kind = 9) || (Xps.clos l.funs (e.kids.take k)).any fun x => decide (x ≤ i)) nv, orow 3 (nmOf l.funs.length (C ++ (Xps.clos l.funs (e.kids.take k)).filter fun x => decide (i < x))) nv],
      ⟨e.kids.length, 0, rfl, by omega, by simpa [Xps.clos] using h1⟩, ?_⟩
    rintro n vs K2 _ ⟨k, rfl, hkn, h2⟩
    refine ⟨fun g => ?_, fun g => ?_⟩
    · simp only [ev0, ev, evV, List.cons_append, List.nil_append, List.getD_cons_zero, List.getD_cons_succ, List.map_cons, List.map_nil, iOf, bOf, sOf, pOf, slLen, slBase, cmpI, arI, Value.ite_bool, int_beq, int_bne, ite_band, ite_bor, decide_eq_true_eq] at g
      obtain ⟨a, ha⟩ : ∃ a, e.kids[k]? = some a := ⟨_, List.getElem?_eq_getElem (show k < e.kids.length by omega)⟩
      obtain ⟨q1, _, ces, q2, q3⟩ := hx.kids.get ha
      have hmem := List.mem_of_getElem? ha
      have htags := Xp.Rep.tags q2
      have q2' := q2
      obtain ⟨nb', db', kb', nc', dc', kc', rfl, _⟩ := Xp.Rep.open q2'
      have hsa := Xps.size_at ha
      have hfl : ((Xps.clos l.funs (e.kids.take k)).filter fun x => decide (i < x)).length ≤ Xps.size (e.kids.take k) := Nat.le_trans (List.length_filter_le _ _) (Xps.clos_len l.funs _)
      refine ⟨fun _ => ?_, _, htags, by simp only [ev0, ev, evV, List.cons_append, List.nil_append, List.getD_cons_zero, List.getD_cons_succ, List.map_cons, List.map_nil, iOf, bOf, sOf, pOf, slLen, slBase, cmpI, arI, Value.ite_bool, int_beq, int_bne, ite_band, ite_bor]; exact rowAt_le h2.sh q3, ?_⟩
      · simp only [Chk.holds, ev0, ev, evV, List.cons_append, List.nil_append, List.getD_cons_zero, List.getD_cons_succ, List.map_cons, List.map_nil, iOf, bOf, sOf, pOf, slLen, slBase, cmpI, arI, Value.ite_bool, int_beq, int_bne, ite_band, ite_bor]; exact ⟨q1, by omega, by omega⟩
      refine den_call cb_lift_checker__body (ih a hmem _ _ _ S K2 (by rw [List.length_append]; omega) hs0 h2 q2) ?_
      rintro x K3 ⟨rfl, h3⟩
      refine ⟨_, [], rfl, rfl, rfl, pendNil, _, lookup_hit, n - 1, by omega, k + 1, ?_, by omega, ?_⟩
      · simp only [ev0, ev, evV, List.cons_append, List.nil_append, List.getD_cons_zero, List.getD_cons_succ, List.map_cons, List.map_nil, iOf, bOf, sOf, pOf, slLen, slBase, cmpI, arI, Value.ite_bool, int_beq, int_bne, ite_band, ite_bor, List.append_nil]
        rw [w64 (by omega) (by omega)]
        rfl
      · rw [Xps.clos_take ha, List.any_append, List.filter_append, ← Bool.or_assoc, ← List.append_assoc]
        exact h3
    · simp only [ev0, ev, evV, List.cons_append, List.nil_append, List.getD_cons_zero, List.getD_cons_succ, List.map_cons, List.map_nil, iOf, bOf, sOf, pOf, slLen, slBase, cmpI, arI, Value.ite_bool, int_beq, int_bne, ite_band, ite_bor, decide_eq_false_iff_not] at g
      rw [List.take_of_length_le (by omega)] at h2
      refine ⟨rfl, ?_⟩
      rw [Xp.clos_eq, if_neg h11, List.any_append, List.filter_append]
      by_cases hk : e.kind = 2 ∨ e.kind = 5 ∨ e.kind = 9
      · rw [if_pos hk]
        rw [decide_eq_true hk] at h2
        have e1 : [(-1 : Int)].any (fun x => decide (x ≤ i)) = true := by simp [hi]
        have e2 : [(-1 : Int)].filter (fun x => decide (i < x)) = [] := by simp [hi]
        rw [e1, e2, List.nil_append, ← Bool.or_assoc]
        exact h2
      · rw [if_neg hk]
        rw [decide_eq_false hk] at h2
        simpa using h2
  · simp only [ev0, ev, evV, List.cons_append, List.nil_append, List.getD_cons_zero, List.getD_cons_succ, List.map_cons, List.map_nil, iOf, bOf, sOf, pOf, slLen, slBase, cmpI, arI, Value.ite_bool, int_beq, int_bne, ite_band, ite_bor, decide_eq_true_eq] at g
    refine den_call cb_lift_checker__clo (clo_tri l r T fb fc x1 x2 x3 x4 x5 x6 x7 x8 m dp bd nv e _ i hi C (by omega) S K hs0 h he') ?_
    rintro x K1 ⟨rfl, h1⟩
    refine ⟨_, [], rfl, rfl, rfl, pendNil, rfl, ?_⟩
    rw [Xp.clos_eq, if_pos g]
    have e1 : [cloI l.funs e].any (fun x => decide (x ≤ i)) = decide (cloI l.funs e ≤ i) := by simp
    have e2 : [cloI l.funs e].filter (fun x => decide (i < x)) = if i < cloI l.funs e then [cloI l.funs e] else [] := by
      by_cases h : i < cloI l.funs e <;> simp [h]
    rw [e1, e2]
    exact h1
  · simp only [ev0, ev, evV, List.cons_append, List.nil_append, List.getD_cons_zero, List.getD_cons_succ, List.map_cons, List.map_nil, iOf, bOf, sOf, pOf, slLen, slBase, cmpI, arI, Value.ite_bool, int_beq, int_bne, ite_band, ite_bor, decide_eq_false_iff_not] at g
    refine ⟨fun vs K' => vs = [.bool (decide (e.kind = 2 ∨ e.kind = 5 ∨ e.kind = 9))] ∧ K' = K, ?_, fun g2 => ?_, fun g2 => ?_⟩
    · rintro vs K1 _ ⟨rfl, rfl⟩
      refine ⟨fun g2 => ?_, fun g2 => ?_⟩
      · simp only [ev0, ev, evV, List.cons_append, List.nil_append, List.getD_cons_zero, List.getD_cons_succ, List.map_cons, List.map_nil, iOf, bOf, sOf, pOf, slLen, slBase, cmpI, arI, Value.ite_bool, int_beq, int_bne, ite_band, ite_bor] at g2
        refine ⟨fun _ => rfl, ?_⟩
        refine den_bxStore (off := 11) (vs := [.bool true]) (by kernel_rfl) h (by kernel_rfl) (by simp [oneC]) (by simp) fun K2 h2 => ⟨_, lookup_hit, rfl, g, ?_⟩
        rw [g2, Bool.or_true]
        exact h2
      · simp only [ev0, ev, evV, List.cons_append, List.nil_append, List.getD_cons_zero, List.getD_cons_succ, List.map_cons, List.map_nil, iOf, bOf, sOf, pOf, slLen, slBase, cmpI, arI, Value.ite_bool, int_beq, int_bne, ite_band, ite_bor] at g2
        refine ⟨_, lookup_hit, rfl, g, ?_⟩
        rw [g2, Bool.or_false]
        exact h
    · simp only [ev0, ev, evV, List.cons_append, List.nil_append, List.getD_cons_zero, List.getD_cons_succ, List.map_cons, List.map_nil, iOf, bOf, sOf, pOf, slLen, slBase, cmpI, arI, Value.ite_bool, int_beq, int_bne, ite_band, ite_bor, decide_eq_true_eq] at g2
      refine ⟨_, lookup_hit, ?_, rfl⟩
      simp only [ev0, ev, evV, List.cons_append, List.nil_append, List.getD_cons_zero, List.getD_cons_succ, List.map_cons, List.map_nil, iOf, bOf, sOf, pOf, slLen, slBase, cmpI, arI, Value.ite_bool, int_beq, int_bne, ite_band, ite_bor]
      congr 2
      rw [decide_eq_decide]
      omega
    · simp only [ev0, ev, evV, List.cons_append, List.nil_append, List.getD_cons_zero, List.getD_cons_succ, List.map_cons, List.map_nil, iOf, bOf, sOf, pOf, slLen, slBase, cmpI, arI, Value.ite_bool, int_beq, int_bne, ite_band, ite_bor, decide_eq_false_iff_not] at g2
      refine ⟨_, lookup_hit, ?_, rfl⟩
      simp only [ev0, ev, evV, List.cons_append, List.nil_append, List.getD_cons_zero, List.getD_cons_succ, List.map_cons, List.map_nil, iOf, bOf, sOf, pOf, slLen, slBase, cmpI, arI, Value.ite_bool, int_beq, int_bne, ite_band, ite_bor]
      by_cases h9 : e.kind = 9 <;> by_cases h2 : e.kind = 2 <;> simp [h9, h2, g2]
end Go.Proofs.Ytibinelkmlcmgaa.Vc
/-
  LIFT: what is shown of an expression; the program's lower.
-/
namespace Go.Proofs.Ytibinelkmlcmgaa.Vc
open Go

def refX (s : List UInt8) : Xp := .mk 1 s [] dat0 []
mutual
/-- a closure being a call of what it holds -/
def Xp.shw : Xp → Xp
  | .mk k s ns d l => if k = 11 then .mk 6 [] [] dat0 (ns.map refX) else .mk k s ns d (Xps.shw l)
def Xps.shw : List Xp → List Xp
  | [] => []
  | e :: l => Xp.shw e :: Xps.shw l
end
theorem Xps.shw_eq : ∀ l : List Xp, Xps.shw l = l.map Xp.shw
  | [] => rfl
  | e :: l => by simp only [Xps.shw, List.map_cons, Xps.shw_eq l]
theorem Xp.shw_other {e : Xp} (h : e.kind ≠ 11) : e.shw = .mk e.kind e.name e.names e.const (e.kids.map Xp.shw) := by
  cases e with
  | mk k s ns d l => simp only [Xp.kind] at h; simp only [Xp.shw, if_neg h, Xps.shw_eq, Xp.kind, Xp.name, Xp.names, Xp.const, Xp.kids]
theorem Xp.shw_clo {e : Xp} (h : e.kind = 11) : e.shw = .mk 6 [] [] dat0 (e.names.map refX) := by
  cases e with
  | mk k s ns d l => simp only [Xp.kind] at h; simp only [Xp.shw, if_pos h, Xp.names]
theorem fr_refs (b i : List (List UInt8)) : ∀ ns : List (List UInt8), Xps.fr b i 6 (ns.map refX) = ns.filter fun x => !b.contains x
  | [] => by simp [Xps.fr]
  | a :: ns => by
    rw [List.map_cons, Xps.fr, fr_refs b i ns]
    have hin : inB 6 (ns.map refX) = false := by simp [inB]
    rw [hin]
    by_cases h : a ∈ b
    · simp [refX, Xp.fr, Xps.fr, h]
    · simp [refX, Xp.fr, Xps.fr, h]
/-- what is free in what is shown is free -/
theorem fr_shw {F : List FunX} {i : Int} (hi : -1 ≤ i) : ∀ (e : Xp), AtI F i e → ∀ b, e.shw.fr b = e.fr14 b := by
  refine Xp.ind fun e ih he b => ?_
  by_cases h11 : e.kind = 11
  · rw [Xp.shw_clo h11, Xp.fr14_eq, if_pos h11, Xp.fr, fr_refs]
    simp
  · obtain ⟨k2, _, _⟩ := he.kinds hi h11
    rw [Xp.shw_other h11, Xp.fr14_eq, if_neg h11, Xp.fr]
    have : (e.kind = 1 ∨ e.kind = 2) ↔ e.kind = 1 := by omega
    simp only [this]
    congr 1
    have key : ∀ (l : List Xp), (∀ a ∈ l, a ∈ e.kids) → ∀ inner, Xps.fr b inner e.kind (l.map Xp.shw) = Xps.fr14 b inner e.kind l := by
      intro l
      induction l with
      | nil => intro _ inner; rfl
      | cons a l ihl =>
        intro hl inner
        have hin : inB e.kind (l.map Xp.shw) = inB e.kind l := by unfold inB; cases l <;> rfl
        rw [List.map_cons, Xps.fr, Xps.fr14, hin, ih a (hl a (List.mem_cons_self ..)) (he.kid h11 a (hl a (List.mem_cons_self ..))), ihl fun y hy => hl y (List.mem_cons_of_mem _ hy)]
    exact key _ (fun a h => h) _
theorem refs_size : ∀ ns : List (List UInt8), Xps.size (ns.map refX) = ns.length ∧ Xps.bnd (ns.map refX) = []
  | [] => ⟨rfl, rfl⟩
  | a :: ns => by
    obtain ⟨h1, h2⟩ := refs_size ns
    simp only [List.map_cons, Xps.size, Xps.bnd, h1, h2, refX, Xp.size, Xp.bnd, List.length_cons]
    exact ⟨by omega, by simp⟩
theorem shw_size : ∀ e : Xp, e.fit → e.shw.size ≤ e.size * 1048577 ∧ e.shw.bnd.length ≤ e.size * 1048577 := by
  refine Xp.ind fun e ih hf => ?_
  obtain ⟨f1, f2, f3⟩ := (Xp.fit_iff e).1 hf
  have hse := Xp.size_eq e
  by_cases h11 : e.kind = 11
  · rw [Xp.shw_clo h11, Xp.size, Xp.bnd, (refs_size e.names).1, (refs_size e.names).2]
    have : 1048577 ≤ e.size * 1048577 := Nat.le_mul_of_pos_left _ (by omega)
    simp; omega
  · rw [Xp.shw_other h11, Xp.size, Xp.bnd, hse]
    have key : ∀ (l : List Xp), (∀ a ∈ l, a ∈ e.kids) → Xps.size (l.map Xp.shw) ≤ Xps.size l * 1048577 ∧ (Xps.bnd (l.map Xp.shw)).length ≤ Xps.size l * 1048577 := by
      intro l
      induction l with
      | nil => intro _; simp [Xps.size, Xps.bnd]
      | cons a l ihl =>
        intro hl
        have h1 := ih a (hl a (List.mem_cons_self ..)) (f3 a (hl a (List.mem_cons_self ..)))
        have h2 := ihl fun y hy => hl y (List.mem_cons_of_mem _ hy)
        simp only [List.map_cons, Xps.size, Xps.bnd, List.length_append, Nat.add_mul]
        omega
    have := key e.kids fun a h => h
    simp only [List.length_append, Nat.add_mul]
    omega
theorem mapS_unit (g : Xp → Xp) : ∀ l : List Xp, mapS (fun (s : Unit) e => (g e, s)) () l = (l.map g, ())
  | [] => rfl
  | e :: l => by simp only [mapS, mapS_unit g l, List.map_cons]
theorem refX_rep {S : PH} {s : List UInt8} (h : s.length ≤ maxLen) : (refX s).Rep S [.int .i64 1, txt s, .slice none 0 0, .int .i64 0, .int .i64 0, txt [], .slice none 0 0, .slice none 0 0] :=
  Xp.Rep_iff.2 ⟨_, _, _, rfl, (by decide : InI 1), h, SlR.mk_iff.2 ⟨Nat.zero_le _, .inl ⟨rfl, rfl⟩⟩, dat0_rep S, SlR.mk_iff.2 ⟨Nat.zero_le _, .inl ⟨rfl, rfl⟩⟩⟩
set_option maxHeartbeats 2000000 in
theorem shown_tri : ∀ (e : Xp) (cs : List Value) (S : PH), e.Rep S cs → e.fit → Tri Try.prog n_lift_shown #[.agg cs.toArray] S fun x S' => PH.le S S' ∧ XRet S' e.shw x := by
  refine Xp.ind fun e ih cs S he hfit => ?_
  have he' := he
  obtain ⟨nb, db, kb, nc, dc, kc, rfl, hx⟩ := Xp.Rep.open he
  obtain ⟨f1, f2, f3⟩ := (Xp.fit_iff e).1 hfit
  refine tri_lift_shown (exVs e nb db kb nc dc kc) (by kernel_rfl) (by kernel_rfl) ?_
  refine ⟨fun g => ?_, fun g => ?_⟩
  · simp only [ev0, ev, evV, List.cons_append, List.nil_append, List.getD_cons_zero, List.getD_cons_succ, List.map_cons, List.map_nil, iOf, bOf, sOf, pOf, slLen, slBase, cmpI, arI, Value.ite_bool, int_beq, int_bne, ite_band, ite_bor, decide_eq_true_eq] at g
    have hmap : Tri Try.prog n_pass_Map #[.agg (exVs e nb db kb nc dc kc).toArray, .func (.func n_lift_shown) #[] #[]] S fun x S' => PH.le S S' ∧ XRet S' e.shw x := by
      refine (Map_tri (fun (s : Unit) e => (e.shw, s)) (fun _ Js => Js = []) () e _ S S [] (g := n_lift_shown) (first := #[]) (caps := #[]) cb_lift_shown (Held.nil (PH.le_refl S)) rfl he' f2 ?_).mono ?_
      · intro j k hj S' K' Js cs l' h' hJs hk
        subst hJs
        have hm := List.mem_of_getElem? hj
        refine (h'.pure (ih k hm cs S' hk (f3 k hm))).mono ?_
        rintro x K2 ⟨S2, l2, h2, r2⟩
        exact ⟨S2, [], l2, h2, rfl, r2⟩
      · rintro x K2 ⟨S2, J2, l2, h2, hJ, r2⟩
        subst hJ
        rw [mapS_unit] at r2
        obtain ⟨es, rfl, r3⟩ := r2
        refine ⟨PH.le_trans l2 h2.sh, es, rfl, ?_⟩
        rw [Xp.shw_other g]
        exact Xp.Rep.le h2.sh _ r3
    refine den_call cb_pass_Map hmap ?_
    rintro x S2 ⟨l2, es, rfl, r2⟩
    have ht := Xp.Rep.tags r2
    have r2' := r2
    obtain ⟨p1, p2, p3, p4, p5, p6, rfl, _⟩ := Xp.Rep.open r2'
    exact ⟨_, _, rfl, ht, rfl, pendNil, l2, _, rfl, r2⟩
  · simp only [ev0, ev, evV, List.cons_append, List.nil_append, List.getD_cons_zero, List.getD_cons_succ, List.map_cons, List.map_nil, iOf, bOf, sOf, pOf, slLen, slBase, cmpI, arI, Value.ite_bool, int_beq, int_bne, ite_band, ite_bor, decide_eq_false_iff_not, ne_eq, Decidable.not_not] at g
    rw [Xp.shw_clo g]
    refine ⟨fun n vs K' => ∃ (k : Nat) (out : Value) (S' : PH), vs = [.int .i64 k, .int .i64 6, txt [], .slice none 0 0, .int .i64 0, .int .i64 0, txt [], .slice none 0 0, out] ∧ k + n = e.names.length ∧ PH.le S S' ∧ Held S' K' [orow 28 ((e.names.take k).map refX) out],
      ⟨e.names.length, 0, .slice none 0 0, S, rfl, by omega, PH.le_refl S, (Held.nil (PH.le_refl S)).empty _⟩, ?_⟩
    rintro n vs K1 _ ⟨k, out, S1, rfl, hkn, l1, h1⟩
    refine ⟨fun g1 => ?_, fun g1 => ?_⟩
    · simp only [ev0, ev, evV, List.cons_append, List.nil_append, List.getD_cons_zero, List.getD_cons_succ, List.map_cons, List.map_nil, iOf, bOf, sOf, pOf, slLen, slBase, cmpI, arI, Value.ite_bool, int_beq, int_bne, ite_band, ite_bor, decide_eq_true_eq] at g1
      obtain ⟨a, ha⟩ : ∃ a, e.names[k]? = some a := ⟨_, List.getElem?_eq_getElem (show k < e.names.length by omega)⟩
      obtain ⟨q1, _, ces, q2, q3⟩ := (hx.names.le (PH.le_trans l1 h1.sh)).get ha
      obtain ⟨rfl, hal⟩ := csTxts q2
      refine ⟨fun _ => ?_, [txt a], rfl, by simp only [ev0, ev, evV, List.cons_append, List.nil_append, List.getD_cons_zero, List.getD_cons_succ, List.map_cons, List.map_nil, iOf, bOf, sOf, pOf, slLen, slBase, cmpI, arI, Value.ite_bool, int_beq, int_bne, ite_band, ite_bor]; exact q3, ?_⟩
      · simp only [Chk.holds, ev0, ev, evV, List.cons_append, List.nil_append, List.getD_cons_zero, List.getD_cons_succ, List.map_cons, List.map_nil, iOf, bOf, sOf, pOf, slLen, slBase, cmpI, arI, Value.ite_bool, int_beq, int_bne, ite_band, ite_bor]; exact ⟨q1, by omega, by omega⟩
      refine den_gives [.int .i64 1, txt a, .slice none 0 0, .int .i64 0, .int .i64 0, txt [], .slice none 0 0, .slice none 0 0] cb_pass_Ref (Ref_gives a K1) rfl pendNil fun K2 l2 => ?_
      refine den_hPush (more := [refX a]) (b := 128) [.agg #[.int .i64 1, txt a, .slice none 0 0, .int .i64 0, .int .i64 0, txt [], .slice none 0 0, .slice none 0 0]] uExprs' elemExpr' rfl (by decide) (by decide) (h1.le l2) (by kernel_rfl) (.cons (refX_rep hal) .nil) pendNil (fun _ => by kernel_rfl) (fun _ => by kernel_rfl)
        (by simp only [maxLen, List.length_map, List.length_take, List.length_cons, List.length_nil]; omega) (by simp only [List.length_map, List.length_take, List.length_cons, List.length_nil]; omega) fun u v' S3 K3 l3 h3 => ⟨pendNil, _, lookup_hit, n - 1, by omega, k + 1, v', S3, ?_, by omega, PH.le_trans l1 l3, ?_⟩
      · simp only [ev0, ev, evV, List.cons_append, List.nil_append, List.getD_cons_zero, List.getD_cons_succ, List.map_cons, List.map_nil, iOf, bOf, sOf, pOf, slLen, slBase, cmpI, arI, Value.ite_bool, int_beq, int_bne, ite_band, ite_bor]
        rw [w64 (by omega) (by omega)]
        rfl
      · rw [List.take_add_one, ha, List.map_append]
        exact h3
    · simp only [ev0, ev, evV, List.cons_append, List.nil_append, List.getD_cons_zero, List.getD_cons_succ, List.map_cons, List.map_nil, iOf, bOf, sOf, pOf, slLen, slBase, cmpI, arI, Value.ite_bool, int_beq, int_bne, ite_band, ite_bor, decide_eq_false_iff_not] at g1
      rw [List.take_of_length_le (by omega)] at h1
      obtain ⟨S2, s2, l2, h2⟩ := h1.freeze
      refine ⟨PH.le_trans l1 (PH.le_trans l2 h2.sh), [.int .i64 6, txt [], .slice none 0 0, .int .i64 0, .int .i64 0, txt [], .slice none 0 0, out], rfl, ?_⟩
      exact Xp.Rep_iff.2 ⟨_, _, _, rfl, (by decide : InI 6), Nat.zero_le _, SlR.mk_iff.2 ⟨Nat.zero_le _, .inl ⟨rfl, rfl⟩⟩, dat0_rep K1, s2.le h2.sh⟩

/-! ### lower -/
def FitL (l : LifX) : Prop := l.funs.length ≤ 1048576 ∧ l.main.fit ∧ ∀ f ∈ l.funs, f.params.length ≤ 1048576 ∧ f.frees.length ≤ 1048576 ∧ f.body.fit
set_option maxHeartbeats 4000000 in
theorem lower_tri (l : LifX) (hF : FunsOk l.funs) (hL : FitL l) : ∀ (i : Int) (t : Xp), -1 ≤ i → AtI l.funs i t → t.fit → ∀ (S : PH) (ls cs : List Value), CsR S l ls → t.Rep S cs → Tri Try.prog n_lift_lower #[.agg ls.toArray, .agg cs.toArray] S fun x S' => PH.le S S' ∧ XRet S' (lowN l.funs t) x := by
  have hopen : ∀ (S : PH) (ls : List Value), CsR S l ls → ∃ fb fc p1 p2 p3 p4 p5 p6, ls = .slice fb l.funs.length fc :: exVs l.main p1 p2 p3 p4 p5 p6 ∧ SlR S l.funs (.slice fb l.funs.length fc) := by
    intro S ls hls
    obtain ⟨fv, bs, rfl, s1, r1⟩ := lif_iff.1 hls
    obtain ⟨fb, fc, rfl⟩ := s1.sl
    obtain ⟨p1, p2, p3, p4, p5, p6, rfl, _⟩ := Xp.Rep.open r1
    exact ⟨fb, fc, p1, p2, p3, p4, p5, p6, rfl, s1⟩
  refine AtI.ind hF ?_ ?_
  · intro i t n f hi ht h11 hn hf htc hcl ih hfit S ls cs hls he
    have hls' := hls
    obtain ⟨fb, fc, p1, p2, p3, p4, p5, p6, rfl, s1⟩ := hopen S ls hls
    have he' := he
    obtain ⟨nb, db, kb, nc, dc, kc, rfl, hx⟩ := Xp.Rep.open he
    have hci : t.const.int = (n : Int) := by rw [htc]; rfl
    have hlt := (List.getElem?_eq_some_iff.1 hf).1
    have hL1 := hL.1
    refine tri_lift_lower (.slice fb l.funs.length fc :: exVs l.main p1 p2 p3 p4 p5 p6 ++ exVs t nb db kb nc dc kc) (by kernel_rfl) (by kernel_rfl) ?_
    refine den_bxNew (vs := .slice fb l.funs.length fc :: exVs l.main p1 p2 p3 p4 p5 p6) (Held.nil (PH.le_refl S)) (by kernel_rfl) fun r K1 l1 h1 => ?_
    refine ⟨fun g => absurd g (by simp only [ev0, ev, evV, List.cons_append, List.nil_append, List.getD_cons_zero, List.getD_cons_succ, List.map_cons, List.map_nil, iOf, bOf, sOf, pOf, slLen, slBase, cmpI, arI, Value.ite_bool, int_beq, int_bne, ite_band, ite_bor, h11]; decide), fun _ => ?_⟩
    refine ⟨fun _ => rfl, ?_⟩
    refine den_bxLoad [.slice fb l.funs.length fc] (off := 0) (by kernel_rfl) h1 (List.mem_cons_self ..) rfl rfl ?_
    obtain ⟨q1, _, ces, q2, q3⟩ := s1.get hf
    obtain ⟨pv, fv, bs, rfl, c1, c2, c3⟩ := fun_iff.1 q2
    obtain ⟨a1, a2, rfl⟩ := c1.sl
    obtain ⟨a3, a4, rfl⟩ := c2.sl
    have c3s := c3
    obtain ⟨w1, w2, w3, w4, w5, w6, rfl, _⟩ := Xp.Rep.open c3
    refine ⟨fun _ => ?_, .slice a1 f.params.length a2 :: .slice a3 f.frees.length a4 :: exVs f.body w1 w2 w3 w4 w5 w6, rfl, ?_, ?_⟩
    · simp only [Chk.holds, ev0, ev, evV, List.cons_append, List.nil_append, List.getD_cons_zero, List.getD_cons_succ, List.map_cons, List.map_nil, iOf, bOf, sOf, pOf, slLen, slBase, cmpI, arI, Value.ite_bool, int_beq, int_bne, ite_band, ite_bor, hci]; exact ⟨q1, by omega, by omega⟩
    · simp only [ev0, ev, evV, List.cons_append, List.nil_append, List.getD_cons_zero, List.getD_cons_succ, List.map_cons, List.map_nil, iOf, bOf, sOf, pOf, slLen, slBase, cmpI, arI, Value.ite_bool, int_beq, int_bne, ite_band, ite_bor, hci]; exact rowAt_le h1.sh q3
    refine den_bxLoad (.slice fb l.funs.length fc :: exVs l.main p1 p2 p3 p4 p5 p6) (off := 0) (by kernel_rfl) h1 (List.mem_cons_self ..) rfl rfl ?_
    have hfm := hL.2.2 f (List.mem_of_getElem? hf)
    simp only [List.cons_append, List.nil_append]
    refine den_call cb_lift_lower (h1.pure (ih hfm.2.2 S _ _ hls' c3s)) ?_
    rintro x K2 ⟨S2, l2, h2, es, rfl, r2⟩
    have ht2 := Xp.Rep.tags r2
    have r2' := r2
    obtain ⟨z1, z2, z3, z4, z5, z6, rfl, _⟩ := Xp.Rep.open r2'
    refine ⟨_, _, rfl, ht2, rfl, pendNil, ?_⟩
    refine den_hLit (l := [lowN l.funs f.body]) (b := 128) [.agg (exVs (lowN l.funs f.body) z1 z2 z3 z4 z5 z6).toArray] uExprs' elemExpr' rfl (by decide) (by decide) h2 (by kernel_rfl) (.cons r2 .nil) pendNil fun v3 K3 h3 l3 _ => ?_
    obtain ⟨S4, s4, l4, h4⟩ := h3.freeze
    refine ⟨PH.le_trans l2 (PH.le_trans l4 h4.sh), [.int .i64 5, txt [], .slice a1 f.params.length a2, .int .i64 0, .int .i64 0, txt [], .slice none 0 0, v3], rfl, ?_⟩
    rw [htc, lowN_clo hF hf]
    have hpar := c1.le (PH.le_trans l2 (PH.le_trans l4 h4.sh))
    exact Xp.Rep_iff.2 ⟨_, _, _, rfl, (by decide : InI 5), Nat.zero_le _, hpar, dat0_rep _, s4.le h4.sh⟩
  · intro i t hi ht h11 hk ih hfit S ls cs hls he
    have hls' := hls
    obtain ⟨fb, fc, p1, p2, p3, p4, p5, p6, rfl, s1⟩ := hopen S ls hls
    have he' := he
    obtain ⟨nb, db, kb, nc, dc, kc, rfl, hx⟩ := Xp.Rep.open he
    obtain ⟨f1, f2, f3⟩ := (Xp.fit_iff t).1 hfit
    refine tri_lift_lower (.slice fb l.funs.length fc :: exVs l.main p1 p2 p3 p4 p5 p6 ++ exVs t nb db kb nc dc kc) (by kernel_rfl) (by kernel_rfl) ?_
    refine den_bxNew (vs := .slice fb l.funs.length fc :: exVs l.main p1 p2 p3 p4 p5 p6) (Held.nil (PH.le_refl S)) (by kernel_rfl) fun r K1 l1 h1 => ?_
    refine ⟨fun _ => ?_, fun g => absurd g (by simp only [ev0, ev, evV, List.cons_append, List.nil_append, List.getD_cons_zero, List.getD_cons_succ, List.map_cons, List.map_nil, iOf, bOf, sOf, pOf, slLen, slBase, cmpI, arI, Value.ite_bool, int_beq, int_bne, ite_band, ite_bor, decide_eq_false_iff_not]; simpa using h11)⟩
    refine den_makeFunc' (f := n_lift_lower_1) (F := #[]) (C := #[pAt r]) rfl (by kernel_rfl) (by kernel_rfl) ?_
    have hmap := Map_tri (fun (s : Unit) e => (lowN l.funs e, s)) (fun _ Js => Js = [bx r _ (.slice fb l.funs.length fc :: exVs l.main p1 p2 p3 p4 p5 p6)]) () t _ S K1 _ (g := n_lift_lower_1) (first := #[]) (caps := #[pAt r]) cb_lift_lower_1 h1 rfl he' f2 (by
      intro j k hj S' K' Js cs l' h' hJs hk
      subst hJs
      have hm := List.mem_of_getElem? hj
      have hk' := hk
      obtain ⟨nb', db', kb', nc', dc', kc', rfl, _⟩ := Xp.Rep.open hk
      refine tri_lift_lower_1 (exVs k nb' db' kb' nc' dc' kc' ++ [pAt r]) (by kernel_rfl) (by kernel_rfl) ?_
      refine den_bxLoad (.slice fb l.funs.length fc :: exVs l.main p1 p2 p3 p4 p5 p6) (off := 0) (by kernel_rfl) h' (List.mem_cons_self ..) rfl rfl ?_
      refine den_call cb_lift_lower (h'.pure (ih k hm (f3 k hm) S' _ _ (PV.RepRow.le l' hls') hk')) ?_
      rintro x K2 ⟨S2, l2, h2, es, rfl, r2⟩
      have ht2 := Xp.Rep.tags r2
      have r2' := r2
      obtain ⟨z1, z2, z3, z4, z5, z6, rfl, _⟩ := Xp.Rep.open r2'
      exact ⟨_, _, rfl, ht2, rfl, pendNil, S2, _, l2, h2, rfl, _, rfl, r2⟩)
    refine den_call cb_pass_Map hmap ?_
    rintro x K2 ⟨S2, J2, l2, h2, hj2, es, rfl, r2⟩
    simp only [mapS_unit] at r2
    have ht2 := Xp.Rep.tags r2
    have r2' := r2
    obtain ⟨z1, z2, z3, z4, z5, z6, rfl, _⟩ := Xp.Rep.open r2'
    refine ⟨_, _, rfl, ht2, rfl, pendNil, PH.le_trans l2 h2.sh, _, rfl, ?_⟩
    rw [lowN_other h11]
    exact Xp.Rep.le h2.sh _ r2
end Go.Proofs.Ytibinelkmlcmgaa.Vc
/-
  LIFT: the program's Check and Lower.
-/
namespace Go.Proofs.Ytibinelkmlcmgaa.Vc
open Go

theorem freeS_nil (l : List (List UInt8)) : (freeS l).length = 0 ↔ l = [] := by
  constructor
  · intro h
    have h1 := List.length_eq_zero_iff.1 h
    refine List.eq_nil_iff_forall_not_mem.2 fun x hx => ?_
    have := mem_freeS.2 hx
    rw [h1] at this; cases this
  · rintro rfl; rw [← freeS_puts]; rfl
theorem fr_lam (all : List (List UInt8)) (b : Xp) : Xp.fr [] (.mk 5 [] all dat0 [b]) = b.fr all := by
  simp [Xp.fr, Xps.fr, inB]
set_option maxHeartbeats 4000000 in
theorem within_gives (l : LifX) (f : FunX) (ls cs : List Value) (S : PH) (i : Int) (hi : -1 ≤ i) (hls : CsR S l ls) (hf : CsR S f cs) (f1 : f.params.length ≤ 1048576) (f2 : f.frees.length ≤ 1048576) (f3 : f.body.fit) (f4 : f.body.size ≤ 4096) (ha : AtI l.funs i f.body) : Gives Try.prog n_lift_within [.agg cs.toArray, .agg ls.toArray] S (.bool (funOk f)) := by
  obtain ⟨fv, bs, rfl, s1, r1⟩ := lif_iff.1 hls
  obtain ⟨fb, fc, rfl⟩ := s1.sl
  obtain ⟨p1, p2, p3, p4, p5, p6, rfl, _⟩ := Xp.Rep.open r1
  obtain ⟨pv, rv, bs, rfl, c1, c2, c3⟩ := fun_iff.1 hf
  obtain ⟨a1, a2, rfl⟩ := c1.sl
  obtain ⟨a3, a4, rfl⟩ := c2.sl
  have c3' := c3
  obtain ⟨w1, w2, w3, w4, w5, w6, rfl, _⟩ := Xp.Rep.open c3
  refine tri_lift_within (.slice a1 f.params.length a2 :: .slice a3 f.frees.length a4 :: exVs f.body w1 w2 w3 w4 w5 w6 ++ (.slice fb l.funs.length fc :: exVs l.main p1 p2 p3 p4 p5 p6)) (by kernel_rfl) (by kernel_rfl) ?_
  refine den_hLit (l := [f.params, f.frees]) (b := 24) [.slice a1 f.params.length a2, .slice a3 f.frees.length a4] uTxtss elemTxts rfl (by decide) (by decide) (Held.nil (PH.le_refl S)) (by kernel_rfl) (.cons (csTxtss.2 ⟨_, rfl, c1⟩) (.cons (csTxtss.2 ⟨_, rfl, c2⟩) .nil)) pendNil fun v1 K1 h1 l1 _ => ?_
  obtain ⟨S2, s2, l2, h2⟩ := h1.freeze
  have hfl : [f.params, f.frees].flatten = f.params ++ f.frees := by simp
  refine den_call (by kernel_rfl) (h2.pure (R := fun x S' => ∃ w, x = .returned w ∧ SlR S' [f.params, f.frees].flatten w) (Concat_tri [f.params, f.frees] v1 S2 s2 (by rw [hfl, List.length_append]; omega))) ?_
  rintro x K3 ⟨S3, l3, h3, w, rfl, s3⟩
  rw [hfl] at s3
  generalize hall : f.params ++ f.frees = all at s3
  have hlen : all.length ≤ 2097152 := by rw [← hall, List.length_append]; omega
  obtain ⟨ab, ac, rfl⟩ := s3.sl
  have hcap := s3.capLe
  refine ⟨_, [.slice ab all.length ac], rfl, rfl, rfl, pendNil, ?_⟩
  have l03 := PH.le_trans l2 l3
  have s3K := s3.le h3.sh
  have hfo : funOk f = (namesOk all && decide (f.params.length ≤ 6) && (Xp.fr14 all f.body).isEmpty) := by unfold funOk; rw [hall]
  refine ⟨fun n vs H' => ∃ k : Nat, vs = [.bool false, .int .i64 k] ∧ k + n = all.length ∧ namesOk all = namesFrom (all.take k) (all.drop k) ∧ PH.le K3 H', ⟨all.length, 0, rfl, by omega, by simp [namesOk], PH.le_refl _⟩, ?_⟩
  rintro n vs K4 _ ⟨k, rfl, hkn, hn, l4⟩
  refine ⟨fun h => ?_, fun h => ?_⟩
  · simp only [ev0, ev, evV, List.cons_append, List.nil_append, List.getD_cons_zero, List.getD_cons_succ, List.map_cons, List.map_nil, iOf, bOf, sOf, pOf, slLen, slBase, cmpI, arI, Value.ite_bool, int_beq, int_bne, ite_band, ite_bor, decide_eq_true_eq] at h
    obtain ⟨a, ha⟩ : ∃ a, all[k]? = some a := ⟨_, List.getElem?_eq_getElem (show k < all.length by omega)⟩
    obtain ⟨g1, _, ces, g2, g3⟩ := (s3K.le l4).get ha
    obtain ⟨rfl, hla⟩ := csTxts g2
    rw [drop_get ha] at hn
    refine ⟨fun _ => ?_, [txt a], rfl, by simp only [ev0, ev, evV, List.cons_append, List.nil_append, List.getD_cons_zero, List.getD_cons_succ, List.map_cons, List.map_nil, iOf, bOf, sOf, pOf, slLen, slBase, cmpI, arI, Value.ite_bool, int_beq, int_bne, ite_band, ite_bor]; exact g3, ?_⟩
    · simp only [Chk.holds, ev0, ev, evV, List.cons_append, List.nil_append, List.getD_cons_zero, List.getD_cons_succ, List.map_cons, List.map_nil, iOf, bOf, sOf, pOf, slLen, slBase, cmpI, arI, Value.ite_bool, int_beq, int_bne, ite_band, ite_bor]; exact ⟨g1, by omega, by omega⟩
    refine ⟨fun vs H' => vs = [.bool (!nameOk a || (all.take k).contains a)] ∧ PH.le K4 H', ?_, ?_⟩
    · rintro vs H' _ ⟨rfl, h1⟩
      refine ⟨fun h2 => ?_, fun h2 => ?_⟩
      · simp only [ev0, ev, evV, List.cons_append, List.nil_append, List.getD_cons_zero, List.getD_cons_succ, List.map_cons, List.map_nil, iOf, bOf, sOf, pOf, slLen, slBase, cmpI, arI, Value.ite_bool, int_beq, int_bne, ite_band, ite_bor, Bool.or_eq_true, Bool.not_eq_true'] at h2
        rw [hfo, hn, namesFrom_stop h2]
        exact ⟨rfl, PH.le_trans l03 (PH.le_trans h3.sh (PH.le_trans l4 h1))⟩
      · simp only [ev0, ev, evV, List.cons_append, List.nil_append, List.getD_cons_zero, List.getD_cons_succ, List.map_cons, List.map_nil, iOf, bOf, sOf, pOf, slLen, slBase, cmpI, arI, Value.ite_bool, int_beq, int_bne, ite_band, ite_bor, Bool.or_eq_false_iff, Bool.not_eq_false'] at h2
        refine ⟨_, lookup_hit, n - 1, by omega, k + 1, ?_, by omega, ?_, PH.le_trans l4 h1⟩
        · simp only [ev0, ev, evV, List.cons_append, List.nil_append, List.getD_cons_zero, List.getD_cons_succ, List.map_cons, List.map_nil, iOf, bOf, sOf, pOf, slLen, slBase, cmpI, arI, Value.ite_bool, int_beq, int_bne, ite_band, ite_bor]; rw [w64 (by omega) (by omega)]; rfl
        · rw [hn]
          simp only [namesFrom, h2.1, h2.2, Bool.not_false, Bool.true_and]
          rw [List.take_add_one, ha]; rfl
    · refine den_gives [.bool (nameOk a)] cb_data_Name (Name_gives a hla K4) rfl pendNil fun H2 h2 => ⟨fun _ => ?_, fun h3 => ?_, fun h3 => ?_⟩
      · simp only [Chk.holds, ev0, ev, evV, List.cons_append, List.nil_append, List.getD_cons_zero, List.getD_cons_succ, List.map_cons, List.map_nil, iOf, bOf, sOf, pOf, slLen, slBase, cmpI, arI, Value.ite_bool, int_beq, int_bne, ite_band, ite_bor, slCap]; omega
      · simp only [ev0, ev, evV, List.cons_append, List.nil_append, List.getD_cons_zero, List.getD_cons_succ, List.map_cons, List.map_nil, iOf, bOf, sOf, pOf, slLen, slBase, cmpI, arI, Value.ite_bool, int_beq, int_bne, ite_band, ite_bor, Bool.not_eq_true'] at h3
        exact ⟨_, lookup_hit, by simp only [ev0, ev, evV, List.cons_append, List.nil_append, List.getD_cons_zero, List.getD_cons_succ, List.map_cons, List.map_nil, iOf, bOf, sOf, pOf, slLen, slBase, cmpI, arI, Value.ite_bool, int_beq, int_bne, ite_band, ite_bor, h3]; rfl, h2⟩
      · simp only [ev0, ev, evV, List.cons_append, List.nil_append, List.getD_cons_zero, List.getD_cons_succ, List.map_cons, List.map_nil, iOf, bOf, sOf, pOf, slLen, slBase, cmpI, arI, Value.ite_bool, int_beq, int_bne, ite_band, ite_bor, Bool.not_eq_false'] at h3
        have hcut := (s3K.le (PH.le_trans l4 h2)).cut (a := 0) (b := k) (by omega) (by omega)
        rw [List.drop_zero] at hcut
        refine den_gives [.bool ((all.take k).contains a)] cb_slices_Contains___string_string_ ?_ rfl pendNil fun H4 h4 => ⟨_, lookup_hit, by simp only [ev0, ev, evV, List.cons_append, List.nil_append, List.getD_cons_zero, List.getD_cons_succ, List.map_cons, List.map_nil, iOf, bOf, sOf, pOf, slLen, slBase, cmpI, arI, Value.ite_bool, int_beq, int_bne, ite_band, ite_bor, h3]; rfl, PH.le_trans h2 h4⟩
        have := Contains_gives (all.take k) a _ H2 hcut
        simp only [ev0, ev, evV, List.cons_append, List.nil_append, List.getD_cons_zero, List.getD_cons_succ, List.map_cons, List.map_nil, iOf, bOf, sOf, pOf, slLen, slBase, cmpI, arI, Value.ite_bool, int_beq, int_bne, ite_band, ite_bor]
        exact this
  · simp only [ev0, ev, evV, List.cons_append, List.nil_append, List.getD_cons_zero, List.getD_cons_succ, List.map_cons, List.map_nil, iOf, bOf, sOf, pOf, slLen, slBase, cmpI, arI, Value.ite_bool, int_beq, int_bne, ite_band, ite_bor, decide_eq_false_iff_not] at h
    rw [List.drop_eq_nil_of_le (by omega)] at hn
    have hnt : namesOk all = true := hn
    have h4 := h3.le l4
    refine den_call cb_lift_shown (h4.pure (shown_tri f.body _ S3 (Xp.Rep.le l03 _ c3') f3)) ?_
    rintro x K5 ⟨S5, l5, h5, es, rfl, r5⟩
    have ht5 := Xp.Rep.tags r5
    have r5' := r5
    obtain ⟨z1, z2, z3, z4, z5, z6, rfl, _⟩ := Xp.Rep.open r5'
    refine ⟨_, _, rfl, ht5, rfl, pendNil, ?_⟩
    refine den_hLit (l := [f.body.shw]) (b := 128) [.agg (exVs f.body.shw z1 z2 z3 z4 z5 z6).toArray] uExprs' elemExpr' rfl (by decide) (by decide) h5 (by kernel_rfl) (.cons r5 .nil) pendNil fun v6 K6 h6 l6 _ => ?_
    obtain ⟨S7, s7, l7, h7⟩ := h6.freeze
    obtain ⟨zb, zc, rfl⟩ := s7.sl
    have l07 := PH.le_trans l03 (PH.le_trans l5 l7)
    have hss := shw_size f.body f3
    have hfr := fr_shw hi f.body ha all
    refine ⟨fun vs H' => vs = [.bool (funOk f)] ∧ PH.le K6 H', ?_, fun g => ?_, fun g => ?_⟩
    · rintro vs K8 _ ⟨rfl, l8⟩
      exact ⟨rfl, PH.le_trans l07 (PH.le_trans h7.sh l8)⟩
    · simp only [ev0, ev, evV, List.cons_append, List.nil_append, List.getD_cons_zero, List.getD_cons_succ, List.map_cons, List.map_nil, iOf, bOf, sOf, pOf, slLen, slBase, cmpI, arI, Value.ite_bool, int_beq, int_bne, ite_band, ite_bor, decide_eq_true_eq] at g
      have hrep : (Xp.mk 5 [] all dat0 [f.body.shw]).Rep K6 [.int .i64 5, txt [], .slice ab all.length ac, .int .i64 0, .int .i64 0, txt [], .slice none 0 0, .slice zb 1 zc] :=
        Xp.Rep_iff.2 ⟨_, _, _, rfl, (by decide : InI 5), Nat.zero_le _, s3.le (PH.le_trans l5 (PH.le_trans l7 h7.sh)), dat0_rep _, s7.le h7.sh⟩
      refine den_call cb_core_Free (CFree_tri _ _ K6 hrep (by simp only [Xp.bnd, Xps.bnd, List.append_nil, List.length_append]; omega) (by simp only [Xp.size, Xps.size]; omega)) ?_
      rintro x K8 ⟨v8, rfl, s8, l8⟩
      obtain ⟨b8, c8, rfl⟩ := s8.sl
      refine ⟨_, [.slice b8 _ c8], rfl, rfl, rfl, pendNil, _, lookup_hit, ?_, l8⟩
      simp only [ev0, ev, evV, List.cons_append, List.nil_append, List.getD_cons_zero, List.getD_cons_succ, List.map_cons, List.map_nil, iOf, bOf, sOf, pOf, slLen, slBase, cmpI, arI, Value.ite_bool, int_beq, int_bne, ite_band, ite_bor]
      rw [hfo, hnt, decide_eq_true (show f.params.length ≤ 6 by omega)]
      simp only [Bool.true_and]
      congr 2
      rw [fr_lam, hfr, Bool.eq_iff_iff, decide_eq_true_eq, List.isEmpty_iff, ← freeS_nil]
      omega
    · simp only [ev0, ev, evV, List.cons_append, List.nil_append, List.getD_cons_zero, List.getD_cons_succ, List.map_cons, List.map_nil, iOf, bOf, sOf, pOf, slLen, slBase, cmpI, arI, Value.ite_bool, int_beq, int_bne, ite_band, ite_bor, decide_eq_false_iff_not] at g
      refine ⟨_, lookup_hit, ?_, PH.le_refl _⟩
      rw [hfo, hnt, decide_eq_false (show ¬ f.params.length ≤ 6 by omega)]
      rfl

/-! ### Check -/
mutual
theorem Xp.wi_size : ∀ (e : Xp) (d n : Nat), (e.wi d n).2 = true → e.size ≤ n ∧ (e.wi d n).1 = n - e.size
  | .mk k s ns dd l, d, n => by
    intro h
    rw [Xp.wi] at h ⊢
    split at h
    · cases h
    · rename_i hn
      rw [if_neg hn]
      obtain ⟨h1, h2⟩ := Xps.wi_size l _ _ h
      rw [Xp.size]
      exact ⟨by omega, by omega⟩
theorem Xps.wi_size : ∀ (l : List Xp) (d n : Nat), (Xps.wi l d n).2 = true → Xps.size l ≤ n ∧ (Xps.wi l d n).1 = n - Xps.size l
  | [], d, n => by simp [Xps.wi, Xps.size]
  | e :: l, d, n => by
    intro h
    rw [Xps.wi] at h ⊢
    split at h
    · rename_i h1
      rw [if_pos h1]
      obtain ⟨g1, g2⟩ := Xp.wi_size e d n h1
      obtain ⟨g3, g4⟩ := Xps.wi_size l _ _ h
      rw [Xps.size]
      exact ⟨by omega, by omega⟩
    · cases h
end
theorem take_body {F : List FunX} {k : Nat} {f : FunX} (h : F[k]? = some f) : (F.take (k + 1)).map (·.body) = (F.take k).map (·.body) ++ [f.body] := by
  rw [List.take_add_one, h, List.map_append]; rfl
theorem sizes_take (F : List FunX) (k : Nat) : Xps.size ((F.take k).map (·.body)) ≤ Xps.size (F.map (·.body)) := by
  have := Xps.size_append ((F.take k).map (·.body)) ((F.drop k).map (·.body))
  rw [← List.map_append, List.take_append_drop] at this
  omega
theorem any_ne (N : Nat) (C : List Int) : (nmOf N C).any (fun k => decide (k ≠ 1)) = true ↔ ¬ ∀ j : Nat, j < N → C.count (j : Int) = 1 := by
  rw [List.any_eq_true]
  constructor
  · rintro ⟨x, hx, h1⟩ h2
    unfold nmOf at hx
    obtain ⟨j, hj, rfl⟩ := List.mem_map.1 hx
    rw [List.mem_range] at hj
    have := h2 j hj
    simp only [decide_eq_true_eq] at h1
    omega
  · intro h
    obtain ⟨j, hj⟩ := Classical.not_forall.1 h
    obtain ⟨h1, h2⟩ := Classical.not_imp.1 hj
    exact ⟨_, List.mem_of_getElem? (nmOf_get h1), by simp only [decide_eq_true_eq]; omega⟩
def InvL (l : LifX) (k : Nat) (bd : Bool) (C : List Int) : Prop :=
  (bd = true → ¬ GoodL l) ∧ (bd = false → (∀ x ∈ l.main.clos l.funs, 0 ≤ x) ∧ (∀ (j : Nat) f, j < k → l.funs[j]? = some f → AtI l.funs j f.body ∧ funOk f = true) ∧ C = l.main.clos l.funs ++ (l.funs.take k).flatMap fun f => f.body.clos l.funs) ∧ C.length ≤ l.main.size + Xps.size ((l.funs.take k).map (·.body))
set_option maxHeartbeats 8000000 in
theorem CheckL_gives (l : LifX) (hL : FitL l) (ls : List Value) (S : PH) (hls : CsR S l ls) : Gives Try.prog n_lift_Check [.agg ls.toArray] S (.int .i64 (chkL l)) := by
  obtain ⟨hL1, hL2, hL3⟩ := hL
  have hls' := hls
  obtain ⟨fv, bs, rfl, s1, r1⟩ := lif_iff.1 hls
  obtain ⟨fb, fc, rfl⟩ := s1.sl
  have r1' := r1
  obtain ⟨p1, p2, p3, p4, p5, p6, rfl, _⟩ := Xp.Rep.open r1
  refine tri_lift_Check (.slice fb l.funs.length fc :: exVs l.main p1 p2 p3 p4 p5 p6) (by kernel_rfl) (by kernel_rfl) ?_
  refine den_hMake (n := l.funs.length) (0 : Int) rfl (fun S => int_cs (by decide)) uIntsL oneInt (by kernel_rfl) (by kernel_rfl) (by simp only [maxLen]; omega) (by omega) (Held.nil (PH.le_refl S)) fun nv K1 h1 _ => ?_
  rw [← nmOf_nil] at h1
  obtain ⟨vb, vc, hnv⟩ := (h1.row (List.mem_cons_self ..)).sl
  rw [nmOf_len] at hnv
  subst hnv
  refine den_bxNew (vs := .slice fb l.funs.length fc :: exVs l.main p1 p2 p3 p4 p5 p6 ++ [.int .i64 ((0 : Nat) : Int), .bool false, .bool false, .slice vb l.funs.length vc]) h1 (by kernel_rfl) fun r K2 _ h2 => ?_
  refine ⟨fun g => ?_, fun g => ?_⟩
  · simp only [ev0, ev, evV, List.cons_append, List.nil_append, List.getD_cons_zero, List.getD_cons_succ, List.map_cons, List.map_nil, iOf, bOf, sOf, pOf, slLen, slBase, cmpI, arI, Value.ite_bool, int_beq, int_bne, ite_band, ite_bor, decide_eq_true_eq] at g
    refine ⟨?_, h2.sh⟩
    unfold chkL
    rw [if_pos (by omega)]; rfl
  simp only [ev0, ev, evV, List.cons_append, List.nil_append, List.getD_cons_zero, List.getD_cons_succ, List.map_cons, List.map_nil, iOf, bOf, sOf, pOf, slLen, slBase, cmpI, arI, Value.ite_bool, int_beq, int_bne, ite_band, ite_bor, decide_eq_false_iff_not] at g
  have h2 : Held S K2 [ckB r 68 (.slice fb l.funs.length fc) (.int .i64 l.main.kind) (txt l.main.name) (.slice p1 l.main.names.length p4) (.int .i64 l.main.const.kind) (.int .i64 l.main.const.int) (txt l.main.const.text) (.slice p2 l.main.const.list.length p5) (.slice p3 l.main.kids.length p6) 0 false false (.slice vb l.funs.length vc), orow 3 (nmOf l.funs.length []) (.slice vb l.funs.length vc)] := h2
  have hct := fun (e : Xp) (m : Nat) (dp : Bool) (cs : List Value) (K : PH) (h : Held S K [ckB r 68 (.slice fb l.funs.length fc) (.int .i64 l.main.kind) (txt l.main.name) (.slice p1 l.main.names.length p4) (.int .i64 l.main.const.kind) (.int .i64 l.main.const.int) (txt l.main.const.text) (.slice p2 l.main.const.list.length p5) (.slice p3 l.main.kids.length p6) m dp false (.slice vb l.funs.length vc), orow 3 (nmOf l.funs.length []) (.slice vb l.funs.length vc)]) (he : e.Rep S cs) (hf : e.fit) (hm : m ≤ 900000000) =>
    Held.call (P := Try.prog) (f := n_lift_checker__count) (args := #[pAt r, .agg cs.toArray, .int .i64 ((1 : Nat) : Int)]) (J := [ckB r 68 (.slice fb l.funs.length fc) (.int .i64 l.main.kind) (txt l.main.name) (.slice p1 l.main.names.length p4) (.int .i64 l.main.const.kind) (.int .i64 l.main.const.int) (txt l.main.const.text) (.slice p2 l.main.const.list.length p5) (.slice p3 l.main.kids.length p6) m dp false (.slice vb l.funs.length vc)]) (I := [orow 3 (nmOf l.funs.length []) (.slice vb l.funs.length vc)])
      (R := fun x S' J' => S' = S ∧ ∃ m' dp', x = .returned (.tuple #[]) ∧ J' = [ckB r 68 (.slice fb l.funs.length fc) (.int .i64 l.main.kind) (txt l.main.name) (.slice p1 l.main.names.length p4) (.int .i64 l.main.const.kind) (.int .i64 l.main.const.int) (txt l.main.const.text) (.slice p2 l.main.const.list.length p5) (.slice p3 l.main.kids.length p6) m' dp' false (.slice vb l.funs.length vc)] ∧ CntE e 1 m dp m' dp') h
      (fun K' hK => (count_tri r _ _ _ _ _ _ _ _ _ _ false _ e 1 m dp cs S K' hK he hf (by omega) hm).mono fun x K'' ⟨m', dp', q1, q2, q3⟩ => ⟨S, _, PH.le_refl S, q2, rfl, m', dp', q1, rfl, q3⟩)
  refine den_call cb_lift_checker__count (hct l.main 0 false _ K2 h2 r1' hL2 (by omega)) ?_
  rintro x K3 ⟨S3, J3, _, h3, rfl, m1, dp1, rfl, rfl, c3⟩
  refine ⟨_, [], rfl, rfl, rfl, pendNil, ?_⟩
  have hnb0 : ¬ Bad 0 false := by rintro (h | h); cases h; omega
  have hw1 : Xps.wi [l.main] 1 4096 = l.main.wi 1 4096 := by
    have := Xps.wi_snoc l.main [] 1 4096
    simpa [Xps.wi] using this
  refine ⟨fun n vs K' => ∃ (k mk : Nat) (dk : Bool), vs = [.int .i64 k] ∧ k + n = l.funs.length ∧ Held S3 K' [ckB r 68 (.slice fb l.funs.length fc) (.int .i64 l.main.kind) (txt l.main.name) (.slice p1 l.main.names.length p4) (.int .i64 l.main.const.kind) (.int .i64 l.main.const.int) (txt l.main.const.text) (.slice p2 l.main.const.list.length p5) (.slice p3 l.main.kids.length p6) mk dk false (.slice vb l.funs.length vc), orow 3 (nmOf l.funs.length []) (.slice vb l.funs.length vc)] ∧ CntR (Xps.wi (l.main :: (l.funs.take k).map (·.body)) 1 4096) (5000 + 251 * 1048577 + k) mk dk,
    ⟨l.funs.length, 0, m1, dp1, rfl, by omega, h3, by simp only [List.take_zero, List.map_nil, hw1]; exact c3.2 hnb0⟩, ?_⟩
  rintro n vs K4 _ ⟨k, mk, dk, rfl, hkn, h4, c4⟩
  have hlt := hL1
  refine ⟨fun g4 => ?_, fun g4 => ?_⟩
  · simp only [ev0, ev, evV, List.cons_append, List.nil_append, List.getD_cons_zero, List.getD_cons_succ, List.map_cons, List.map_nil, iOf, bOf, sOf, pOf, slLen, slBase, cmpI, arI, Value.ite_bool, int_beq, int_bne, ite_band, ite_bor, decide_eq_true_eq] at g4
    obtain ⟨f, hf⟩ : ∃ f, l.funs[k]? = some f := ⟨_, List.getElem?_eq_getElem (show k < l.funs.length by omega)⟩
    obtain ⟨q1, _, ces, q2, q3⟩ := s1.get hf
    obtain ⟨pv, rv, bs, rfl, d1, d2, d3⟩ := fun_iff.1 q2
    obtain ⟨a1, a2, rfl⟩ := d1.sl
    obtain ⟨a3, a4, rfl⟩ := d2.sl
    have d3' := d3
    obtain ⟨w1, w2, w3, w4, w5, w6, rfl, _⟩ := Xp.Rep.open d3
    have hfm := hL3 f (List.mem_of_getElem? hf)
    have hmk : mk ≤ 900000000 := by
      cases hw : (Xps.wi (l.main :: (l.funs.take k).map (·.body)) 1 4096).2
      · have := (c4.no hw).2; omega
      · have := (c4.yes hw).2; omega
    refine ⟨fun _ => ?_, .slice a1 f.params.length a2 :: .slice a3 f.frees.length a4 :: exVs f.body w1 w2 w3 w4 w5 w6, rfl, by simp only [ev0, ev, evV, List.cons_append, List.nil_append, List.getD_cons_zero, List.getD_cons_succ, List.map_cons, List.map_nil, iOf, bOf, sOf, pOf, slLen, slBase, cmpI, arI, Value.ite_bool, int_beq, int_bne, ite_band, ite_bor]; exact rowAt_le h4.sh q3, ?_⟩
    · simp only [Chk.holds, ev0, ev, evV, List.cons_append, List.nil_append, List.getD_cons_zero, List.getD_cons_succ, List.map_cons, List.map_nil, iOf, bOf, sOf, pOf, slLen, slBase, cmpI, arI, Value.ite_bool, int_beq, int_bne, ite_band, ite_bor]; exact ⟨q1, by omega, by omega⟩
    refine den_call cb_lift_checker__count (hct f.body mk dk _ K4 h4 d3' hfm.2.2 hmk) ?_
    rintro x K5 ⟨S5, J5, _, h5, rfl, m5, dp5, rfl, rfl, c5⟩
    refine ⟨_, [], rfl, rfl, rfl, pendNil, _, lookup_hit, n - 1, by omega, k + 1, m5, dp5, ?_, by omega, h5, ?_⟩
    · simp only [ev0, ev, evV, List.cons_append, List.nil_append, List.getD_cons_zero, List.getD_cons_succ, List.map_cons, List.map_nil, iOf, bOf, sOf, pOf, slLen, slBase, cmpI, arI, Value.ite_bool, int_beq, int_bne, ite_band, ite_bor, List.append_nil]
      rw [w64 (by omega) (by omega)]
      rfl
    · rw [take_body hf, ← List.cons_append, Xps.wi_snoc]
      cases hw : (Xps.wi (l.main :: (l.funs.take k).map (·.body)) 1 4096).2
      · obtain ⟨b1, b2⟩ := c4.no hw
        obtain ⟨b3, b4⟩ := c5.1 b1
        simp only [Bool.false_eq_true, if_false]
        exact ⟨fun h => (by cases h), fun _ => ⟨b3, by omega⟩⟩
      · obtain ⟨b1, b2⟩ := c4.yes hw
        simp only [if_true]
        have hnb5 : ¬ Bad mk dk := by rintro (h | h); rw [b1] at h; cases h; omega
        have c6 := c5.2 hnb5
        have e6 : 4096 - mk = (Xps.wi (l.main :: (l.funs.take k).map (·.body)) 1 4096).1 := by omega
        rw [e6] at c6
        exact ⟨c6.yes, fun h => ⟨(c6.no h).1, by have := (c6.no h).2; omega⟩⟩
  simp only [ev0, ev, evV, List.cons_append, List.nil_append, List.getD_cons_zero, List.getD_cons_succ, List.map_cons, List.map_nil, iOf, bOf, sOf, pOf, slLen, slBase, cmpI, arI, Value.ite_bool, int_beq, int_bne, ite_band, ite_bor, decide_eq_false_iff_not] at g4
  obtain rfl : k = l.funs.length := by omega
  rw [List.take_length] at c4
  have hbad : (dk || decide ((mk : Int) > 4096)) = !sizeL l := by
    unfold sizeL
    cases hw : (Xps.wi (l.main :: l.funs.map (·.body)) 1 4096).2
    · rcases (c4.no hw).1 with h | h
      · rw [h]; rfl
      · rw [decide_eq_true (show (mk : Int) > 4096 by omega), Bool.or_true]; rfl
    · obtain ⟨h, h'⟩ := c4.yes hw
      rw [h, decide_eq_false (show ¬ (mk : Int) > 4096 by omega)]; rfl
  refine ⟨fun vs K' => vs = [.bool (!sizeL l)] ∧ K' = K4, ?_, ?_⟩
  rotate_left
  · refine ⟨fun _ => rfl, ?_⟩
    refine den_bxLoad [.bool dk] (off := 10) (by kernel_rfl) h4 (List.mem_cons_self ..) rfl rfl ?_
    refine ⟨fun g5 => ?_, fun g5 => ?_⟩
    · simp only [ev0, ev, evV, List.cons_append, List.nil_append, List.getD_cons_zero, List.getD_cons_succ, List.map_cons, List.map_nil, iOf, bOf, sOf, pOf, slLen, slBase, cmpI, arI, Value.ite_bool, int_beq, int_bne, ite_band, ite_bor] at g5
      refine ⟨_, lookup_hit, ?_, rfl⟩
      rw [← hbad, g5]; rfl
    · simp only [ev0, ev, evV, List.cons_append, List.nil_append, List.getD_cons_zero, List.getD_cons_succ, List.map_cons, List.map_nil, iOf, bOf, sOf, pOf, slLen, slBase, cmpI, arI, Value.ite_bool, int_beq, int_bne, ite_band, ite_bor] at g5
      refine den_bxLoad [.int .i64 (mk : Int)] (off := 9) (by kernel_rfl) h4 (List.mem_cons_self ..) rfl rfl ?_
      refine ⟨_, lookup_hit, ?_, rfl⟩
      rw [← hbad, g5]
      simp only [ev0, ev, evV, List.cons_append, List.nil_append, List.getD_cons_zero, List.getD_cons_succ, List.map_cons, List.map_nil, iOf, bOf, sOf, pOf, slLen, slBase, cmpI, arI, Value.ite_bool, int_beq, int_bne, ite_band, ite_bor, Bool.false_or]
  rintro vs K5 _ ⟨rfl, rfl⟩
  refine ⟨fun g5 => ?_, fun g5 => ?_⟩
  · simp only [ev0, ev, evV, List.cons_append, List.nil_append, List.getD_cons_zero, List.getD_cons_succ, List.map_cons, List.map_nil, iOf, bOf, sOf, pOf, slLen, slBase, cmpI, arI, Value.ite_bool, int_beq, int_bne, ite_band, ite_bor, Bool.not_eq_true'] at g5
    refine ⟨?_, h4.sh⟩
    unfold chkL
    rw [if_neg (by omega), if_pos g5]; rfl
  simp only [ev0, ev, evV, List.cons_append, List.nil_append, List.getD_cons_zero, List.getD_cons_succ, List.map_cons, List.map_nil, iOf, bOf, sOf, pOf, slLen, slBase, cmpI, arI, Value.ite_bool, int_beq, int_bne, ite_band, ite_bor, Bool.not_eq_false'] at g5
  have hsize := (Xps.wi_size _ _ _ g5).1
  rw [Xps.size] at hsize
  have hchk : chkL l = open Classical in if GoodL l then 0 else 100 := by
    unfold chkL
    rw [if_neg (by omega), if_neg (by simp [g5])]
  refine den_call cb_lift_checker__body (body_tri l r _ fb fc _ _ _ _ _ _ _ _ mk dk _ (-1) (by omega) l.main _ false [] S3 K5 (by simp only [List.length_nil]; omega) s1 h4 r1') ?_
  rintro x K6 ⟨rfl, h6⟩
  refine ⟨_, [], rfl, rfl, rfl, pendNil, ?_⟩
  refine ⟨fun n vs K' => ∃ (k : Nat) (bd : Bool) (C : List Int), vs = [.int .i64 k] ∧ k + n = l.funs.length ∧ InvL l k bd C ∧ Held S3 K' [ckB r 68 (.slice fb l.funs.length fc) (.int .i64 l.main.kind) (txt l.main.name) (.slice p1 l.main.names.length p4) (.int .i64 l.main.const.kind) (.int .i64 l.main.const.int) (txt l.main.const.text) (.slice p2 l.main.const.list.length p5) (.slice p3 l.main.kids.length p6) mk dk bd (.slice vb l.funs.length vc), orow 3 (nmOf l.funs.length C) (.slice vb l.funs.length vc)],
    ⟨l.funs.length, 0, _, _, rfl, by omega, ?_, h6⟩, ?_⟩
  · have hcl := Xp.clos_len l.funs l.main
    refine ⟨fun hb hg => ?_, fun hb => ⟨?_, fun j f hj => absurd hj (by omega), ?_⟩, ?_⟩
    · simp only [Bool.false_or, List.any_eq_true, decide_eq_true_eq] at hb
      obtain ⟨x, hx, hx1⟩ := hb
      have := hg.main x hx
      omega
    · simp only [Bool.false_or, List.any_eq_false, decide_eq_true_eq] at hb
      intro x hx
      have := hb x hx
      omega
    · simp only [Bool.false_or, List.any_eq_false, decide_eq_true_eq] at hb
      simp only [List.nil_append, List.take_zero, List.flatMap_nil, List.append_nil]
      refine List.filter_eq_self.2 fun x hx => ?_
      have := hb x hx
      rw [decide_eq_true_eq]; omega
    · rw [List.nil_append]
      have := List.length_filter_le (fun x => decide ((-1 : Int) < x)) (l.main.clos l.funs)
      omega
  rintro n vs K7 _ ⟨k, bd, C, rfl, hkn7, hinv, h7⟩
  refine ⟨fun g7 => ?_, fun g7 => ?_⟩
  · simp only [ev0, ev, evV, List.cons_append, List.nil_append, List.getD_cons_zero, List.getD_cons_succ, List.map_cons, List.map_nil, iOf, bOf, sOf, pOf, slLen, slBase, cmpI, arI, Value.ite_bool, int_beq, int_bne, ite_band, ite_bor, decide_eq_true_eq] at g7
    obtain ⟨f, hf⟩ : ∃ f, l.funs[k]? = some f := ⟨_, List.getElem?_eq_getElem (show k < l.funs.length by omega)⟩
    obtain ⟨q1, _, ces, q2, q3⟩ := s1.get hf
    obtain ⟨pv, rv, bs, rfl, d1, d2, d3⟩ := fun_iff.1 q2
    obtain ⟨a1, a2, rfl⟩ := d1.sl
    obtain ⟨a3, a4, rfl⟩ := d2.sl
    have d3' := d3
    obtain ⟨w1, w2, w3, w4, w5, w6, rfl, _⟩ := Xp.Rep.open d3
    have hfm := hL3 f (List.mem_of_getElem? hf)
    have hst := sizes_take l.funs k
    have hst1 := sizes_take l.funs (k + 1)
    rw [take_body hf, Xps.size_append] at hst1
    simp only [Xps.size, Nat.add_zero] at hst1
    have hclb := Xp.clos_len l.funs f.body
    have hfil := List.length_filter_le (fun x => decide ((k : Int) < x)) (f.body.clos l.funs)
    refine ⟨fun vs K' => ∃ (bd : Bool) (C : List Int), vs = [] ∧ InvL l (k + 1) bd C ∧ Held S3 K' [ckB r 68 (.slice fb l.funs.length fc) (.int .i64 l.main.kind) (txt l.main.name) (.slice p1 l.main.names.length p4) (.int .i64 l.main.const.kind) (.int .i64 l.main.const.int) (txt l.main.const.text) (.slice p2 l.main.const.list.length p5) (.slice p3 l.main.kids.length p6) mk dk bd (.slice vb l.funs.length vc), orow 3 (nmOf l.funs.length C) (.slice vb l.funs.length vc)], ?_, ?_⟩
    · rintro vs K8 _ ⟨bd8, C8, rfl, inv8, h8⟩
      refine ⟨_, lookup_hit, n - 1, by omega, k + 1, bd8, C8, ?_, by omega, inv8, h8⟩
      simp only [ev0, ev, evV, List.cons_append, List.nil_append, List.getD_cons_zero, List.getD_cons_succ, List.map_cons, List.map_nil, iOf, bOf, sOf, pOf, slLen, slBase, cmpI, arI, Value.ite_bool, int_beq, int_bne, ite_band, ite_bor, List.append_nil]
      rw [w64 (by omega) (by omega)]
      rfl
    refine ⟨fun _ => ?_, .slice a1 f.params.length a2 :: .slice a3 f.frees.length a4 :: exVs f.body w1 w2 w3 w4 w5 w6, rfl, by simp only [ev0, ev, evV, List.cons_append, List.nil_append, List.getD_cons_zero, List.getD_cons_succ, List.map_cons, List.map_nil, iOf, bOf, sOf, pOf, slLen, slBase, cmpI, arI, Value.ite_bool, int_beq, int_bne, ite_band, ite_bor]; exact rowAt_le h7.sh q3, ?_⟩
    · simp only [Chk.holds, ev0, ev, evV, List.cons_append, List.nil_append, List.getD_cons_zero, List.getD_cons_succ, List.map_cons, List.map_nil, iOf, bOf, sOf, pOf, slLen, slBase, cmpI, arI, Value.ite_bool, int_beq, int_bne, ite_band, ite_bor]; exact ⟨q1, by omega, by omega⟩
    have hinv3 := hinv.2.2
    refine den_call cb_lift_checker__body (body_tri l r _ fb fc _ _ _ _ _ _ _ _ mk dk _ (k : Int) (by omega) f.body _ bd C S3 K7 (by omega) s1 h7 d3') ?_
    rintro x K8 ⟨rfl, h8⟩
    have hC8 : (C ++ (f.body.clos l.funs).filter fun x => decide ((k : Int) < x)).length ≤ l.main.size + Xps.size ((l.funs.take (k + 1)).map (·.body)) := by
      rw [take_body hf, Xps.size_append, List.length_append]
      simp only [Xps.size, Nat.add_zero]
      omega
    refine ⟨_, [], rfl, rfl, rfl, pendNil, fun _ => rfl, ?_⟩
    refine den_bxLoad [.bool (bd || (f.body.clos l.funs).any fun x => decide (x ≤ (k : Int)))] (off := 11) (by kernel_rfl) h8 (List.mem_cons_self ..) rfl rfl ?_
    refine ⟨fun g8 => ?_, fun g8 => ?_⟩
    · simp only [ev0, ev, evV, List.cons_append, List.nil_append, List.getD_cons_zero, List.getD_cons_succ, List.map_cons, List.map_nil, iOf, bOf, sOf, pOf, slLen, slBase, cmpI, arI, Value.ite_bool, int_beq, int_bne, ite_band, ite_bor] at g8
      refine den_bxStore (off := 11) (vs := [.bool true]) (by kernel_rfl) h8 (by kernel_rfl) (by simp [oneC]) (by simp) fun K9 h9 => ?_
      refine ⟨_, lookup_hit, true, _, rfl, ⟨fun _ hg => ?_, fun h => (by cases h), hC8⟩, h9⟩
      rw [Bool.or_eq_true] at g8
      rcases g8 with g8 | g8
      · exact hinv.1 g8 hg
      · obtain ⟨x, hx, hx1⟩ := List.any_eq_true.1 g8
        have := (hg.fn k f hf).1 x hx
        rw [decide_eq_true_eq] at hx1
        omega
    · simp only [ev0, ev, evV, List.cons_append, List.nil_append, List.getD_cons_zero, List.getD_cons_succ, List.map_cons, List.map_nil, iOf, bOf, sOf, pOf, slLen, slBase, cmpI, arI, Value.ite_bool, int_beq, int_bne, ite_band, ite_bor] at g8
      rw [Bool.or_eq_false_iff] at g8
      have hat : AtI l.funs (k : Int) f.body := by
        intro x hx
        have := (List.any_eq_false.1 g8.2) x hx
        rw [decide_eq_true_eq] at this
        omega
      refine den_gives [.bool (funOk f)] cb_lift_within (Gives.up h8.sh (within_gives l f _ _ S3 (k : Int) (by omega) hls' q2 hfm.1 hfm.2.1 hfm.2.2 (by omega) hat)) rfl pendNil fun K9 l9 => ?_
      refine den_bxStore (off := 11) (vs := [.bool (!funOk f)]) (by kernel_rfl) (h8.le l9) (by kernel_rfl) (by simp [oneC]) (by simp) fun K10 h10 => ?_
      refine ⟨_, lookup_hit, !funOk f, _, rfl, ⟨fun hb hg => ?_, fun hb => ⟨(hinv.2.1 g8.1).1, fun j f' hj hf' => ?_, ?_⟩, hC8⟩, h10⟩
      · have := (hg.fn k f hf).2
        rw [this] at hb; cases hb
      · by_cases hjk : j = k
        · subst hjk
          rw [hf] at hf'; cases hf'
          exact ⟨hat, by simpa using hb⟩
        · exact (hinv.2.1 g8.1).2.1 j f' (by omega) hf'
      · have hfe : ((f.body.clos l.funs).filter fun x => decide ((k : Int) < x)) = f.body.clos l.funs := List.filter_eq_self.2 fun x hx => decide_eq_true (hat x hx)
        rw [hfe, List.take_add_one, hf, List.flatMap_append, (hinv.2.1 g8.1).2.2]
        simp
  simp only [ev0, ev, evV, List.cons_append, List.nil_append, List.getD_cons_zero, List.getD_cons_succ, List.map_cons, List.map_nil, iOf, bOf, sOf, pOf, slLen, slBase, cmpI, arI, Value.ite_bool, int_beq, int_bne, ite_band, ite_bor, decide_eq_false_iff_not] at g7
  obtain rfl : k = l.funs.length := by omega
  refine ⟨fun vs K' => ∃ b : Bool, vs = [.bool b] ∧ (b = true ↔ ¬ GoodL l) ∧ PH.le S3 K', ?_, fun _ => rfl, ?_⟩
  · rintro vs K8 _ ⟨b, rfl, hb, l8⟩
    refine ⟨fun g8 => ?_, fun g8 => ?_⟩
    · simp only [ev0, ev, evV, List.cons_append, List.nil_append, List.getD_cons_zero, List.getD_cons_succ, List.map_cons, List.map_nil, iOf, bOf, sOf, pOf, slLen, slBase, cmpI, arI, Value.ite_bool, int_beq, int_bne, ite_band, ite_bor] at g8
      refine ⟨?_, l8⟩
      rw [hchk, if_neg (hb.1 g8)]; rfl
    · simp only [ev0, ev, evV, List.cons_append, List.nil_append, List.getD_cons_zero, List.getD_cons_succ, List.map_cons, List.map_nil, iOf, bOf, sOf, pOf, slLen, slBase, cmpI, arI, Value.ite_bool, int_beq, int_bne, ite_band, ite_bor] at g8
      refine ⟨?_, l8⟩
      rw [hchk, if_pos (Classical.not_not.1 fun h => by rw [hb.2 h] at g8; cases g8)]; rfl
  refine den_bxLoad [.bool bd] (off := 11) (by kernel_rfl) h7 (List.mem_cons_self ..) rfl rfl ?_
  refine ⟨fun g8 => ?_, fun g8 => ?_⟩
  · simp only [ev0, ev, evV, List.cons_append, List.nil_append, List.getD_cons_zero, List.getD_cons_succ, List.map_cons, List.map_nil, iOf, bOf, sOf, pOf, slLen, slBase, cmpI, arI, Value.ite_bool, int_beq, int_bne, ite_band, ite_bor] at g8
    exact ⟨_, lookup_hit, true, rfl, ⟨fun _ => hinv.1 g8, fun _ => rfl⟩, h7.sh⟩
  simp only [ev0, ev, evV, List.cons_append, List.nil_append, List.getD_cons_zero, List.getD_cons_succ, List.map_cons, List.map_nil, iOf, bOf, sOf, pOf, slLen, slBase, cmpI, arI, Value.ite_bool, int_beq, int_bne, ite_band, ite_bor] at g8
  obtain ⟨i1, i2, i3⟩ := hinv.2.1 g8
  rw [List.take_length] at i3
  have hCa : C = allC l := i3
  have hFO : FunsOk l.funs := fun j f hf => i2 j f (List.getElem?_eq_some_iff.1 hf).1 hf
  have hAM : AtI l.funs (-1) l.main := fun x hx => by have := i1 x hx; omega
  refine den_bxLoad [.slice vb l.funs.length vc] (off := 12) (by kernel_rfl) h7 (List.mem_cons_self ..) rfl rfl ?_
  have hrow7 := (h7.row (List.mem_cons_of_mem _ (List.mem_cons_self ..))).slR h7.sh
  refine den_gives [.bool ((nmOf l.funs.length C).any fun k => decide (k ≠ 1))] cb_slices_ContainsFunc___int_int_ (AnyNotOne_gives _ _ K7 hrow7) rfl pendNil fun K8 l8 => ⟨fun g9 => ?_, fun g9 => ?_⟩
  · simp only [ev0, ev, evV, List.cons_append, List.nil_append, List.getD_cons_zero, List.getD_cons_succ, List.map_cons, List.map_nil, iOf, bOf, sOf, pOf, slLen, slBase, cmpI, arI, Value.ite_bool, int_beq, int_bne, ite_band, ite_bor] at g9
    refine ⟨_, lookup_hit, true, rfl, ⟨fun _ hg => ?_, fun _ => rfl⟩, PH.le_trans h7.sh l8⟩
    rw [hCa] at g9
    exact (any_ne _ _).1 g9 hg.once
  simp only [ev0, ev, evV, List.cons_append, List.nil_append, List.getD_cons_zero, List.getD_cons_succ, List.map_cons, List.map_nil, iOf, bOf, sOf, pOf, slLen, slBase, cmpI, arI, Value.ite_bool, int_beq, int_bne, ite_band, ite_bor] at g9
  have honce : ∀ j : Nat, j < l.funs.length → (allC l).count (j : Int) = 1 := by
    rw [hCa] at g9
    exact Classical.not_not.1 fun h => by rw [(any_ne _ _).2 h] at g9; cases g9
  have h8 := h7.le l8
  refine den_call cb_lift_shown (h8.pure (shown_tri l.main _ S3 r1' hL2)) ?_
  rintro x K9 ⟨S9, l9, h9, es, rfl, r9⟩
  have ht9 := Xp.Rep.tags r9
  have r9' := r9
  obtain ⟨z1, z2, z3, z4, z5, z6, rfl, _⟩ := Xp.Rep.open r9'
  refine ⟨_, _, rfl, ht9, rfl, pendNil, ?_⟩
  have hss := shw_size l.main hL2
  refine den_call cb_core_Free (h9.pure (R := fun x S' => ∃ v, x = .returned v ∧ SlR S' (freeS (l.main.shw.fr [])) v) ((CFree_tri l.main.shw _ S9 r9 (by omega) (by omega)).mono fun x S' ⟨v, q1, q2, q3⟩ => ⟨q3, v, q1, q2⟩)) ?_
  rintro x K10 ⟨S10, l10, h10, v10, rfl, s10⟩
  obtain ⟨b10, c10, rfl⟩ := s10.sl
  rw [fr_shw (by omega) l.main hAM] at s10 ⊢
  refine ⟨_, [.slice b10 (freeS (l.main.fr14 [])).length c10], rfl, rfl, rfl, pendNil, fun g10 => ?_, fun g10 => ?_⟩
  · simp only [ev0, ev, evV, List.cons_append, List.nil_append, List.getD_cons_zero, List.getD_cons_succ, List.map_cons, List.map_nil, iOf, bOf, sOf, pOf, slLen, slBase, cmpI, arI, Value.ite_bool, int_beq, int_bne, ite_band, ite_bor, decide_eq_true_eq] at g10
    refine ⟨_, lookup_hit, true, rfl, ⟨fun _ hg => ?_, fun _ => rfl⟩, PH.le_trans l9 (PH.le_trans l10 h10.sh)⟩
    have := (freeS_nil _).2 hg.free
    omega
  simp only [ev0, ev, evV, List.cons_append, List.nil_append, List.getD_cons_zero, List.getD_cons_succ, List.map_cons, List.map_nil, iOf, bOf, sOf, pOf, slLen, slBase, cmpI, arI, Value.ite_bool, int_beq, int_bne, ite_band, ite_bor, decide_eq_false_iff_not] at g10
  have hfree : l.main.fr14 [] = [] := (freeS_nil _).1 (by omega)
  have l910 := PH.le_trans l9 l10
  refine den_call cb_lift_lower (h10.pure (lower_tri l hFO ⟨hL1, hL2, hL3⟩ (-1) l.main (by omega) hAM hL2 S10 _ _ (PV.RepRow.le l910 hls') (Xp.Rep.le l910 _ r1'))) ?_
  rintro x K11 ⟨S11, l11, h11, es, rfl, r11⟩
  have ht11 := Xp.Rep.tags r11
  have r11' := r11
  obtain ⟨y1, y2, y3, y4, y5, y6, rfl, _⟩ := Xp.Rep.open r11'
  refine ⟨_, _, rfl, ht11, rfl, pendNil, ?_⟩
  refine den_gives [.int .i64 ((lowN l.funs l.main).chk true 0 0).2] cb_core_Check (CCheckF_gives _ _ K11 (Xp.Rep.le h11.sh _ r11)) rfl pendNil fun K12 l12 => ⟨_, lookup_hit, decide (((lowN l.funs l.main).chk true 0 0).2 ≠ 0), ?_, ?_, PH.le_trans l910 (PH.le_trans l11 (PH.le_trans h11.sh l12))⟩
  · simp only [ev0, ev, evV, List.cons_append, List.nil_append, List.getD_cons_zero, List.getD_cons_succ, List.map_cons, List.map_nil, iOf, bOf, sOf, pOf, slLen, slBase, cmpI, arI, Value.ite_bool, int_beq, int_bne, ite_band, ite_bor, ne_eq]
  · rw [decide_eq_true_eq]
    constructor
    · intro h hg; exact h hg.ok
    · intro h hc
      exact h ⟨i1, fun j f hf => hFO j f hf, honce, hfree, hc⟩

/-! ### Lower -/
set_option maxHeartbeats 2000000 in
theorem LowerL_tri (l : LifX) (hL : FitL l) (ls : List Value) (S : PH) (hls : CsR S l ls) : Tri Try.prog n_lift_Lower #[.agg ls.toArray] S fun x S' => PH.le S S' ∧ ∃ es : List Value, x = .returned (.tuple #[.agg es.toArray, .int .i64 (lowerL l).2]) ∧ (lowerL l).1.Rep S' es := by
  have hls' := hls
  obtain ⟨fv, bs, rfl, s1, r1⟩ := lif_iff.1 hls
  obtain ⟨fb, fc, rfl⟩ := s1.sl
  have r1' := r1
  obtain ⟨p1, p2, p3, p4, p5, p6, rfl, _⟩ := Xp.Rep.open r1
  refine tri_lift_Lower (.slice fb l.funs.length fc :: exVs l.main p1 p2 p3 p4 p5 p6) (by kernel_rfl) (by kernel_rfl) ?_
  refine den_gives [.int .i64 (chkL l)] cb_lift_Check (CheckL_gives l hL _ S hls') rfl pendNil fun K1 l1 => ⟨fun g => ?_, fun g => ?_⟩
  · simp only [ev0, ev, evV, List.cons_append, List.nil_append, List.getD_cons_zero, List.getD_cons_succ, List.map_cons, List.map_nil, iOf, bOf, sOf, pOf, slLen, slBase, cmpI, arI, Value.ite_bool, int_beq, int_bne, ite_band, ite_bor, decide_eq_true_eq] at g
    have hlow : lowerL l = (exZ, chkL l) := by unfold lowerL; rw [if_neg g]
    rw [hlow]
    exact ⟨l1, [.int .i64 0, txt [], .slice none 0 0, .int .i64 0, .int .i64 0, txt [], .slice none 0 0, .slice none 0 0], rfl, ex0_rep K1⟩
  · simp only [ev0, ev, evV, List.cons_append, List.nil_append, List.getD_cons_zero, List.getD_cons_succ, List.map_cons, List.map_nil, iOf, bOf, sOf, pOf, slLen, slBase, cmpI, arI, Value.ite_bool, int_beq, int_bne, ite_band, ite_bor, decide_eq_false_iff_not, ne_eq, Decidable.not_not] at g
    have hlow : lowerL l = (lowX l, 0) := by unfold lowerL; rw [if_pos g]
    have hg : GoodL l := by
      unfold chkL at g
      split at g
      · cases g
      · split at g
        · cases g
        · split at g
          · assumption
          · cases g
    rw [hlow]
    refine den_call cb_lift_lower (lower_tri l hg.funs hL (-1) l.main (by omega) hg.at hL.2.1 K1 _ _ (PV.RepRow.le l1 hls') (Xp.Rep.le l1 _ r1')) ?_
    rintro x K2 ⟨l2, es, rfl, r2⟩
    have ht2 := Xp.Rep.tags r2
    have r2' := r2
    obtain ⟨y1, y2, y3, y4, y5, y6, rfl, _⟩ := Xp.Rep.open r2'
    refine ⟨_, _, rfl, ht2, rfl, pendNil, ?_⟩
    have hok : ((lowN l.funs l.main).chk true 0 0).2 = 0 := hg.ok
    refine den_call cb_pass_Told (Told_tri _ _ K2 r2) ?_
    rintro x K3 ⟨l3, es, hes, rfl, r3⟩
    rw [if_pos hok] at r3 ⊢
    have ht3 := Xp.Rep.tags r3
    have r3' := r3
    obtain ⟨z1, z2, z3, z4, z5, z6, rfl, _⟩ := Xp.Rep.open r3'
    exact ⟨_, exVs (lowN l.funs l.main) z1 z2 z3 z4 z5 z6 ++ [.int .i64 0], rfl, rfl, rfl, pendNil, PH.le_trans l1 (PH.le_trans l2 l3), _, rfl, r3⟩
end Go.Proofs.Ytibinelkmlcmgaa.Vc
/-
  LIFT: Same, the fixed call, and LiftedTells.
-/
namespace Go.Proofs.Ytibinelkmlcmgaa.Vc
open Go

theorem ck_sc2 {P : Program} {S0 : PH} {f : FuncId} {p q : PV} {out : List PV} {sh : Sh} (hcb : callB P f = true) (h : ∀ (S : PH) (v w : Value), PH.le S0 S → p.Rep S v → q.Rep S w → Tri P f #[v, w] S fun e S' => ∃ us, e = .returned (sh.pack us) ∧ PV.RepRow S' out us ∧ PH.le S S') : CK.Ok P S0 ⟨f, [(false, [p]), (false, [q])], sh, out⟩ := by
  refine ⟨hcb, fun S vs hS hv => ?_⟩
  cases hv with
  | cons h1 h2 =>
    cases h2 with
    | cons h3 h4 =>
      cases h4
      obtain ⟨cs, h5, h6⟩ := h1
      obtain ⟨cs2, h7, h8⟩ := h3
      simp only [Bool.false_eq_true, if_false] at h6 h8
      subst h6 h8
      simp only [PV.RepRow] at h5 h7
      obtain ⟨v, vs, e1, h9, rfl⟩ := h5
      cases e1
      obtain ⟨w, ws, e2, h10, rfl⟩ := h7
      cases e2
      exact h S _ _ hS h9 h10
/-! ### the fixed call -/
mutual
def Xp.liftP (fs : List FunX) : Xp → Xp × List FunX
  | .mk k s ns d l => if k = 5 then
      (cloX (putsT [] (Xp.fr [] (.mk k s ns d l))) fs.length, (Xps.lift1P (fs ++ [⟨ns, putsT [] (Xp.fr [] (.mk k s ns d l)), exZ⟩]) l).2.set fs.length ⟨ns, putsT [] (Xp.fr [] (.mk k s ns d l)), (Xps.lift1P (fs ++ [⟨ns, putsT [] (Xp.fr [] (.mk k s ns d l)), exZ⟩]) l).1⟩)
    else (.mk k s ns d (Xps.liftP fs l).1, (Xps.liftP fs l).2)
def Xps.lift1P (fs : List FunX) : List Xp → Xp × List FunX
  | [] => (exZ, fs)
  | e :: _ => Xp.liftP fs e
def Xps.liftP (fs : List FunX) : List Xp → List Xp × List FunX
  | [] => ([], fs)
  | e :: l => ((Xp.liftP fs e).1 :: (Xps.liftP (Xp.liftP fs e).2 l).1, (Xps.liftP (Xp.liftP fs e).2 l).2)
end
mutual
theorem Xp.liftP_eq : ∀ (e : Xp) (fs : List FunX), Xp.liftP fs e = Xp.lift fs e
  | .mk k s ns d l, fs => by simp only [Xp.liftP, Xp.lift, freeS_puts, Xps.lift1P_eq l, Xps.liftP_eq l]
theorem Xps.lift1P_eq : ∀ (l : List Xp) (fs : List FunX), Xps.lift1P fs l = Xps.lift1 fs l
  | [], fs => by simp only [Xps.lift1P, Xps.lift1]
  | e :: l, fs => by simp only [Xps.lift1P, Xps.lift1, Xp.liftP_eq e]
theorem Xps.liftP_eq : ∀ (l : List Xp) (fs : List FunX), Xps.liftP fs l = Xps.lift fs l
  | [], fs => by simp only [Xps.liftP, Xps.lift]
  | e :: l, fs => by simp only [Xps.liftP, Xps.lift, Xp.liftP_eq e, Xps.liftP_eq l]
end
def liftXP (e : Xp) : LifX × Int := if (decide ((e.chk true 0 0).2 = 0) && (putsT [] (e.fr [])).isEmpty && !e.any badK) = true then (⟨(Xp.liftP [] e).2, (Xp.liftP [] e).1⟩, 0) else (⟨[], exZ⟩, 100)
theorem liftXP_eq (e : Xp) : liftXP e = liftX e := by
  unfold liftXP liftX liftGood
  rw [freeS_puts, Xp.liftP_eq]
def refL (s : List UInt8) : Xp := .mk 1 s [] dat0 []
def plusL : Xp := .mk 7 [43] [] dat0 [refL [120], refL [121]]
def fixL : Xp := .mk 8 [] [[120]] dat0 [.mk 0 [] [] (.mk 1 1 [] []) [], .mk 5 [] [[121]] dat0 [.mk 5 [] [] dat0 [plusL]]]
theorem ck_refL {S0 : PH} (s : List UInt8) : CK.Ok Try.prog S0 ⟨n_scrimshawlaw14_fixed_1, [(false, [.str s])], .ag, (refL s).pv⟩ := by
  refine ck_sc cb_scrimshawlaw14_fixed_1 fun S v hS hv => ?_
  simp only [PV.Rep] at hv
  obtain ⟨rfl, hl⟩ := hv
  refine tri_scrimshawlaw14_fixed_1 [txt s] rfl rfl ?_
  refine ⟨[.int .i64 1, txt s, .slice none 0 0, .int .i64 0, .int .i64 0, txt [], .slice none 0 0, .slice none 0 0], rfl, ?_, PH.le_refl _⟩
  exact Xp.Rep_iff.2 ⟨_, _, _, rfl, (by decide : InI 1), hl, SlR.mk_iff.2 ⟨Nat.zero_le _, .inl ⟨rfl, rfl⟩⟩, dat0_rep S, SlR.mk_iff.2 ⟨Nat.zero_le _, .inl ⟨rfl, rfl⟩⟩⟩
theorem ck_lift {S0 : PH} (e : Xp) (c : Int) (hc : (liftXP e).2 = c) (hk : inK .i64 c = true) : CK.Ok Try.prog S0 ⟨n_lift_Lift, [(true, e.pv)], .tu [(true, 9), (false, 1)], Enc.pv (liftXP e).1 ++ [.int .i64 c]⟩ := by
  refine ck_ag cb_lift_Lift fun S cs hS hr => (CLiftTop_tri e cs S hr).mono ?_
  rintro x S' ⟨l1, ls, rfl, r1⟩
  rw [← liftXP_eq] at r1 ⊢
  rw [hc]
  have hl : ls.length = 9 := by have := PV.RepRow.length r1; rwa [Enc.len] at this
  refine ⟨ls ++ [.int .i64 c], ?_, PV.RepRow.append r1 (row1 (rep_int hk)), l1⟩
  simp only [Sh.pack, tuPackN]
  rw [← hl, List.take_left', List.drop_left']
  · rfl
  · rfl
  · rfl
theorem ck_texts {S0 : PH} (l : List (List UInt8)) : CK.Ok Try.prog S0 ⟨n_scrimshawref06_SameTexts, [(false, [slp l]), (false, [slp l])], .sc, [.bool true]⟩ :=
  ck_sc2 cb_scrimshawref06_SameTexts fun S v w hS hv hw => gives_ck (fun S' => by simp only [decide_true]; exact rep_bool S' true) (SameTexts_gives l l v w S hv hw)
def fixTab : List CK :=
  [⟨n_scrimshawlaw14_fixed_1, [(false, [.str [120]])], .ag, (refL [120]).pv⟩,
   ⟨n_scrimshawlaw14_fixed_1, [(false, [.str [121]])], .ag, (refL [121]).pv⟩,
   ⟨n_lift_Lift, [(true, fixL.pv)], .tu [(true, 9), (false, 1)], Enc.pv (liftXP fixL).1 ++ [.int .i64 0]⟩,
   ⟨n_lift_Lift, [(true, plusL.pv)], .tu [(true, 9), (false, 1)], Enc.pv (liftXP plusL).1 ++ [.int .i64 100]⟩,
   ⟨n_scrimshawref06_SameTexts, [(false, [slp ([[120], [121]] : List (List UInt8))]), (false, [slp ([[120], [121]] : List (List UInt8))])], .sc, [.bool true]⟩,
   ⟨n_scrimshawref06_SameTexts, [(false, [slp ([[120]] : List (List UInt8))]), (false, [slp ([[120]] : List (List UInt8))])], .sc, [.bool true]⟩]
theorem fixTab_ok {S0 : PH} : TabOk Try.prog S0 fixTab := by
  have key : ∀ c ∈ fixTab, CK.Ok Try.prog S0 c := by
    simp only [fixTab, List.forall_mem_cons, List.not_mem_nil, false_imp_iff, implies_true, and_true]
    exact ⟨ck_refL _, ck_refL _, ck_lift fixL 0 (by decide +kernel) (by decide), ck_lift plusL 100 (by decide +kernel) (by decide), ck_texts _, ck_texts _⟩
  exact key
theorem fix_runs : runsTrue Try.prog fixTab fm_scrimshawlaw14_fixed = true := by kernel_rfl
theorem LFixed_gives (H : PH) : Gives Try.prog n_scrimshawlaw14_fixed [] H (.bool true) := gives_run tri_scrimshawlaw14_fixed (by kernel_rfl) (by kernel_rfl) fixTab_ok fix_runs

/-! ### the law -/
end Go.Proofs.Ytibinelkmlcmgaa.Vc
/-
  LIFT: programs that come in; LiftedBack.
-/
namespace Go.Proofs.Ytibinelkmlcmgaa.Vc
open Go Go.ChangeShapes Go.WideShapes Go.ChangeAt Go.RowKit

/-! ### what comes in -/
def FunX.wt (f : FunX) : Nat := sumWt txtWt f.params + 1 + (sumWt txtWt f.frees + 1) + f.body.wt
def LifX.wt (l : LifX) : Nat := sumWt FunX.wt l.funs + 1 + l.main.wt
noncomputable def funFields : Array Field := match Try.prog.underlying 44 with
  | some (.struct fs) => fs
  | _ => #[]
theorem uFunS : Try.prog.underlying 44 = some (.struct funFields) := by kernel_rfl
theorem funF : funFields.toList.map (fun f => (f.type, f.offset)) = [(22, 0), (22, 1), (28, 2)] := by kernel_rfl
theorem cFunC : Try.prog.cellsOf 44 = 10 := by kernel_rfl
noncomputable def lifFields : Array Field := match Try.prog.underlying 31 with
  | some (.struct fs) => fs
  | _ => #[]
theorem uLifS : Try.prog.underlying 31 = some (.struct lifFields) := by kernel_rfl
theorem lifF : lifFields.toList.map (fun f => (f.type, f.offset)) = [(29, 0), (28, 1)] := by kernel_rfl
theorem cLifC : Try.prog.cellsOf 31 = 9 := by kernel_rfl
theorem cFunsC : Try.prog.cellsOf 29 = 1 := by kernel_rfl
theorem opens_fun {H : Type} {enc : TypeId × Value → H} {w : World} (fuel : Nat) : Opens (α := FunX) enc Try.prog w FunX.wt 44 fuel := by
  intro cs d ps h
  obtain ⟨xs, n, rfl, rfl, hc, hl, hi⟩ := trod_fields uFunS funF h
  rw [cFunC] at hc
  match xs, hl with
  | [x0, x1, x2], _ =>
  match cs, hc with
  | [c0, c1, c2, c3, c4, c5, c6, c7, c8, c9], _ =>
  have t0 := hi 0 22 0 x0 rfl rfl
  have t1 := hi 1 22 1 x1 rfl rfl
  have t2 := hi 2 28 2 x2 rfl rfl
  rw [cTxts] at t0 t1
  rw [cEx] at t2
  obtain ⟨ps, pv, hpv, hps, hpw⟩ := opens_slice (α := List UInt8) (wt := txtWt) uTxts cStr (fun j hj => opens_txt uString j) t0
  obtain ⟨fs, fv, hfv, hfs, hfw⟩ := opens_slice (α := List UInt8) (wt := txtWt) uTxts cStr (fun j hj => opens_txt uString j) t1
  obtain ⟨b, hb, hbw⟩ := opens_ex n _ _ _ t2
  have e0 : c0 = pv := by simpa using hpv
  have e1 : c1 = fv := by simpa using hfv
  subst e0 e1
  refine ⟨⟨ps, fs, b⟩, fun_iff.2 ⟨_, _, _, rfl, hps, hfs, hb⟩, ?_⟩
  simp only [FunX.wt, Rows.uptoBulk, Rows.uptoBulkAll, List.map_cons, List.map_nil]
  omega
theorem opens_lif {H : Type} {enc : TypeId × Value → H} {w : World} (fuel : Nat) : Opens (α := LifX) enc Try.prog w LifX.wt 31 fuel := by
  intro cs d ps h
  obtain ⟨xs, n, rfl, rfl, hc, hl, hi⟩ := trod_fields uLifS lifF h
  rw [cLifC] at hc
  match xs, hl with
  | [x0, x1], _ =>
  match cs, hc with
  | [c0, c1, c2, c3, c4, c5, c6, c7, c8], _ =>
  have t0 := hi 0 29 0 x0 rfl rfl
  have t1 := hi 1 28 1 x1 rfl rfl
  rw [cFunsC] at t0
  rw [cEx] at t1
  obtain ⟨fs, fv, hfv, hfs, hfw⟩ := opens_slice (α := FunX) (wt := FunX.wt) uFuns cFunC (fun j hj => opens_fun j) t0
  obtain ⟨b, hb, hbw⟩ := opens_ex n _ _ _ t1
  have e0 : c0 = fv := by simpa using hfv
  subst e0
  refine ⟨⟨fs, b⟩, lif_iff.2 ⟨_, _, rfl, hfs, hb⟩, ?_⟩
  simp only [LifX.wt, Rows.uptoBulk, Rows.uptoBulkAll, List.map_cons, List.map_nil]
  omega
/-- a program as an argument -/
theorem arg_lif {H : Type} {enc : TypeId × Value → H} {w : World} {v : Value} {d : DataW H} {p : List MemPlace} {r : Reach} {b : Nat} (hval : Value.okWide Try.prog w r b 31 v) (h : DataW.Trod enc Try.prog w 0 (fun _ => true) true 31 v d p) :
    ∃ (a : LifX) (cs : List Value), v = .agg cs.toArray ∧ CsR (whole w) a cs ∧ a.wt ≤ Rows.uptoBulk d := by
  obtain ⟨cs, rfl, _⟩ := okWide_struct uLifS hval
  obtain ⟨fuel, h⟩ := h
  obtain ⟨a, h1, h2⟩ := opens_lif fuel _ _ _ h
  exact ⟨a, cs.toList, by simp, h1, h2⟩
theorem txts_wt : ∀ l : List (List UInt8), l.length ≤ sumWt txtWt l
  | [] => Nat.le_refl _
  | a :: l => by
    have := txts_wt l
    simp only [sumWt, txtWt, List.length_cons]; omega
theorem Xp.wt_pos (e : Xp) : 1 ≤ e.wt := by cases e; simp only [Xp.wt]; omega
theorem exs_wt : ∀ l : List Xp, l.length ≤ Xps.wt l
  | [] => Nat.le_refl _
  | a :: l => by
    have := exs_wt l
    have := Xp.wt_pos a
    simp only [Xps.wt, List.length_cons]; omega
mutual
theorem Xp.fit_wt : ∀ e : Xp, e.wt ≤ 1048576 → e.fit
  | .mk k s ns d l, h => by
    simp only [Xp.wt] at h
    have h1 := txts_wt ns
    have h2 := exs_wt l
    exact ⟨by omega, by omega, Xps.fit_wt l (by omega)⟩
theorem Xps.fit_wt : ∀ l : List Xp, Xps.wt l ≤ 1048576 → Xps.fit l
  | [], _ => trivial
  | e :: l, h => by
    simp only [Xps.wt] at h
    exact ⟨Xp.fit_wt e (by omega), Xps.fit_wt l (by omega)⟩
end
theorem funs_wt : ∀ l : List FunX, l.length ≤ sumWt FunX.wt l ∧ ∀ f ∈ l, f.wt ≤ sumWt FunX.wt l
  | [] => ⟨Nat.le_refl _, fun f h => by cases h⟩
  | a :: l => by
    obtain ⟨h1, h2⟩ := funs_wt l
    simp only [sumWt]
    have : 1 ≤ a.wt := by unfold FunX.wt; omega
    refine ⟨by rw [List.length_cons]; omega, fun f hf => ?_⟩
    rcases List.mem_cons.1 hf with rfl | hf
    · omega
    · have := h2 f hf; omega
theorem fit_lif {l : LifX} (h : l.wt ≤ 1048576) : FitL l := by
  unfold LifX.wt at h
  obtain ⟨h1, h2⟩ := funs_wt l.funs
  refine ⟨by omega, Xp.fit_wt _ (by omega), fun f hf => ?_⟩
  have h3 : f.wt ≤ 1048576 := by have := h2 f hf; omega
  unfold FunX.wt at h3
  have h4 := txts_wt f.params
  have h5 := txts_wt f.frees
  exact ⟨by omega, by omega, Xp.fit_wt _ (by omega)⟩
def fitF (f : FunX) : Prop := f.params.length ≤ 1048576 ∧ f.frees.length ≤ 1048576 ∧ f.body.fit
theorem exZ_fit : exZ.fit := ⟨Nat.zero_le _, Nat.zero_le _, trivial⟩
theorem lift_fit : ∀ e : Xp, e.okF true → e.size ≤ 4096 → ∀ fs : List FunX, (∀ f ∈ fs, fitF f) → (Xp.lift fs e).1.fit ∧ ∀ f ∈ (Xp.lift fs e).2, fitF f := by
  refine Xp.ind fun e ih hok hsz fs hfs => ?_
  have hkok := (Xp.okF_form hok).2
  have hse := Xp.size_eq e
  by_cases h5 : e.kind = 5
  · obtain ⟨b, hb0, hbm⟩ := lam_kid hok h5
    rw [Xp.lift_lam e b fs h5 hb0]
    have hbs := Xps.size_at hb0
    obtain ⟨b', he, hn6, _⟩ := lam_form hok h5
    have hlen := free_len e
    have hslot : ∀ x : Xp, x.fit → fitF (slot e x) := fun x hx => ⟨by show e.names.length ≤ _; omega, by show (freeS (Xp.fr [] e)).length ≤ _; omega, hx⟩
    obtain ⟨g1, g2⟩ := ih b hbm (hkok b hbm) (by omega) (fs ++ [slot e exZ]) (fun f hf => by
      rcases List.mem_append.1 hf with h | h
      · exact hfs f h
      · rw [List.mem_singleton.1 h]; exact hslot _ exZ_fit)
    refine ⟨⟨by omega, Nat.zero_le _, trivial⟩, fun f hf => ?_⟩
    rcases List.mem_or_eq_of_mem_set hf with h | h
    · exact g2 f h
    · rw [h]; exact hslot _ g1
  · rw [Xp.lift_other e fs h5]
    have key : ∀ (l : List Xp), (∀ a ∈ l, a ∈ e.kids) → ∀ fs : List FunX, (∀ f ∈ fs, fitF f) → (∀ x ∈ (mapS (fun s x => Xp.lift s x) fs l).1, x.fit) ∧ ∀ f ∈ (mapS (fun s x => Xp.lift s x) fs l).2, fitF f := by
      intro l
      induction l with
      | nil => intro _ fs hfs; exact ⟨fun x h => by simp [mapS] at h, hfs⟩
      | cons a l ihl =>
        intro hl fs hfs
        have ha := hl a (List.mem_cons_self ..)
        have hsa : a.size ≤ Xps.size e.kids := by
          obtain ⟨j, hj⟩ := List.getElem?_of_mem ha
          have := Xps.size_at hj; omega
        obtain ⟨g1, g2⟩ := ih a ha (hkok a ha) (by omega) fs hfs
        obtain ⟨g3, g4⟩ := ihl (fun y hy => hl y (List.mem_cons_of_mem _ hy)) _ g2
        simp only [mapS]
        refine ⟨fun x hx => ?_, g4⟩
        rcases List.mem_cons.1 hx with rfl | hx
        · exact g1
        · exact g3 x hx
    obtain ⟨g1, g2⟩ := key e.kids (fun a h => h) fs hfs
    refine ⟨(Xp.fit_iff _).2 ⟨?_, ?_, g1⟩, g2⟩
    · show e.names.length ≤ 1048576
      have h1 := form_names (Xp.okF_form hok).1
      have h2 := Xps.size_len e.kids
      omega
    · show (mapS (fun s x => Xp.lift s x) fs e.kids).1.length ≤ 1048576
      rw [mapS_len]
      have h2 := Xps.size_len e.kids
      omega
theorem lifted_fit {e : Xp} (h : liftGood e = true) : FitL ⟨(Xp.lift [] e).2, (Xp.lift [] e).1⟩ := by
  have hc : (e.chk true 0 0).2 = 0 := by
    unfold liftGood at h
    simp only [Bool.and_eq_true, decide_eq_true_eq] at h
    exact h.1.1
  have hok := (Xp.chk_ok true e 0 0 hc).1
  have hsz := chk_size hc
  obtain ⟨g1, g2⟩ := lift_fit e hok hsz [] (fun f hf => by cases hf)
  have hk := (Xp.lift_keep e []).2.1
  rw [List.length_nil] at hk
  exact ⟨by show (Xp.lift [] e).2.length ≤ _; omega, g1, g2⟩

/-! ### all -/
def allN (F : List FunX) (s : List UInt8) : List (List UInt8) := (F.filter fun f => f.frees.contains s).map fun _ => s
theorem allN_snoc {F : List FunX} {k : Nat} {f : FunX} (s : List UInt8) (h : F[k]? = some f) : allN (F.take (k + 1)) s = allN (F.take k) s ++ if f.frees.contains s = true then [s] else [] := by
  unfold allN
  rw [List.take_add_one, h, List.filter_append, List.map_append]
  congr 1
  by_cases hs : s ∈ f.frees
  · simp [List.filter_cons, hs]
  · simp [List.filter_cons, hs]
theorem allN_len (F : List FunX) (s : List UInt8) : (allN F s).length ≤ F.length := by
  unfold allN
  rw [List.length_map]; exact List.length_filter_le _ _
theorem All_tri (l : LifX) (ls : List Value) (s : List UInt8) (hs : s.length ≤ maxLen) (S : PH) (hls : CsR S l ls) (hL : l.funs.length ≤ 1048576) : Tri Try.prog n_scrimshawlaw14_all #[.agg ls.toArray, txt s] S fun x S' => PH.le S S' ∧ ∃ v, x = .returned v ∧ SlR S' (allN l.funs s) v := by
  obtain ⟨fv, bs, rfl, s1, r1⟩ := lif_iff.1 hls
  obtain ⟨fb, fc, rfl⟩ := s1.sl
  obtain ⟨p1, p2, p3, p4, p5, p6, rfl, _⟩ := Xp.Rep.open r1
  refine tri_scrimshawlaw14_all (.slice fb l.funs.length fc :: exVs l.main p1 p2 p3 p4 p5 p6 ++ [txt s]) (by kernel_rfl) (by kernel_rfl) ?_
  refine den_hLit0 (α := List UInt8) (b := 16) uTxts elemTxt (Held.nil (PH.le_refl S)) pendNil fun v1 K1 h1 _ _ => ?_
  refine ⟨fun n vs K' => ∃ (k : Nat) (v : Value) (S' : PH), vs = [v, .int .i64 k] ∧ k + n = l.funs.length ∧ PH.le S S' ∧ Held S' K' [orow 9 (allN (l.funs.take k) s) v], ⟨l.funs.length, 0, v1, S, rfl, by omega, PH.le_refl S, h1⟩, ?_⟩
  rintro n vs K2 _ ⟨k, v, S2, rfl, hkn, l2, h2⟩
  obtain ⟨vb, vc, rfl⟩ := (h2.row (List.mem_cons_self ..)).sl
  refine ⟨fun g => ?_, fun g => ?_⟩
  · simp only [ev0, ev, evV, List.cons_append, List.nil_append, List.getD_cons_zero, List.getD_cons_succ, List.map_cons, List.map_nil, iOf, bOf, sOf, pOf, slLen, slBase, cmpI, arI, Value.ite_bool, int_beq, int_bne, ite_band, ite_bor, decide_eq_true_eq] at g
    obtain ⟨f, hf⟩ : ∃ f, l.funs[k]? = some f := ⟨_, List.getElem?_eq_getElem (show k < l.funs.length by omega)⟩
    obtain ⟨q1, _, ces, q2, q3⟩ := (s1.le (PH.le_trans l2 h2.sh)).get hf
    obtain ⟨pv, rv, bs, rfl, d1, d2, d3⟩ := fun_iff.1 q2
    obtain ⟨a3, a4, rfl⟩ := d2.sl
    refine ⟨fun vs K' => ∃ (v : Value) (S' : PH), vs = [v] ∧ PH.le S S' ∧ Held S' K' [orow 9 (allN (l.funs.take (k + 1)) s) v], ?_, fun _ => ?_, [.slice a3 f.frees.length a4], rfl, ?_, ?_⟩
    · rintro vs K3 _ ⟨v3, S3, rfl, l3, h3⟩
      refine ⟨_, lookup_hit, n - 1, by omega, k + 1, v3, S3, ?_, by omega, l3, h3⟩
      simp only [ev0, ev, evV, List.cons_append, List.nil_append, List.getD_cons_zero, List.getD_cons_succ, List.map_cons, List.map_nil, iOf, bOf, sOf, pOf, slLen, slBase, cmpI, arI, Value.ite_bool, int_beq, int_bne, ite_band, ite_bor]
      rw [w64 (by omega) (by omega)]
      rfl
    · simp only [Chk.holds, ev0, ev, evV, List.cons_append, List.nil_append, List.getD_cons_zero, List.getD_cons_succ, List.map_cons, List.map_nil, iOf, bOf, sOf, pOf, slLen, slBase, cmpI, arI, Value.ite_bool, int_beq, int_bne, ite_band, ite_bor]; exact ⟨q1, by omega, by omega⟩
    · have := rowAt_sub q3 1 1
      simp only [ev0, ev, evV, List.cons_append, List.nil_append, List.getD_cons_zero, List.getD_cons_succ, List.map_cons, List.map_nil, iOf, bOf, sOf, pOf, slLen, slBase, cmpI, arI, Value.ite_bool, int_beq, int_bne, ite_band, ite_bor]
      exact this
    refine den_gives [.bool (f.frees.contains s)] cb_scrimshawref06_Has (Has_gives f.frees s _ K2 d2) rfl pendNil fun K3 l3 => ⟨fun g3 => ?_, fun g3 => ?_⟩
    · simp only [ev0, ev, evV, List.cons_append, List.nil_append, List.getD_cons_zero, List.getD_cons_succ, List.map_cons, List.map_nil, iOf, bOf, sOf, pOf, slLen, slBase, cmpI, arI, Value.ite_bool, int_beq, int_bne, ite_band, ite_bor] at g3
      have hlen := allN_len (l.funs.take k) s
      rw [List.length_take] at hlen
      refine den_hPush (more := [s]) (b := 16) [txt s] uTxts elemTxt rfl (by decide) (by decide) (h2.le l3) (by kernel_rfl) (.cons ⟨_, _, rfl, ⟨rfl, hs⟩, rfl⟩ .nil) pendNil (fun _ => by kernel_rfl) (fun _ => by kernel_rfl)
        (by simp only [maxLen, List.length_cons, List.length_nil]; omega) (by simp only [List.length_cons, List.length_nil]; omega) fun u v' S4 K4 l4 h4 => ⟨pendNil, _, lookup_hit, v', S4, rfl, PH.le_trans l2 l4, ?_⟩
      rw [allN_snoc s hf, if_pos g3]
      exact h4
    · simp only [ev0, ev, evV, List.cons_append, List.nil_append, List.getD_cons_zero, List.getD_cons_succ, List.map_cons, List.map_nil, iOf, bOf, sOf, pOf, slLen, slBase, cmpI, arI, Value.ite_bool, int_beq, int_bne, ite_band, ite_bor] at g3
      refine ⟨_, lookup_hit, _, S2, rfl, l2, ?_⟩
      rw [allN_snoc s hf, if_neg (by rw [g3]; exact Bool.false_ne_true), List.append_nil]
      exact h2.le l3
  · simp only [ev0, ev, evV, List.cons_append, List.nil_append, List.getD_cons_zero, List.getD_cons_succ, List.map_cons, List.map_nil, iOf, bOf, sOf, pOf, slLen, slBase, cmpI, arI, Value.ite_bool, int_beq, int_bne, ite_band, ite_bor, decide_eq_false_iff_not] at g
    rw [List.take_of_length_le (by omega)] at h2
    obtain ⟨S3, s3, l3, h3⟩ := h2.freeze
    exact ⟨PH.le_trans l2 (PH.le_trans l3 h3.sh), _, rfl, by rw [List.take_of_length_le (by omega)]; exact s3.le h3.sh⟩

/-! ### the law -/
theorem lookup_two {n m : Nat} {J J' : List Value → PH → Prop} {L : LK} (h : (n == m) = false := by decide) : ((m, J') :: (n, J) :: L).lookup n = some J := by simp [List.lookup, h]
theorem good_chk {l : LifX} (h : GoodL l) : chkL l = 0 ∨ chkL l = 101 := by
  unfold chkL
  split
  · exact .inr rfl
  · split
    · exact .inr rfl
    · first | exact .inl rfl | (rw [if_pos h]; exact .inl rfl)
theorem chk_good {l : LifX} (h : chkL l = 0) : GoodL l := by
  unfold chkL at h
  split at h
  · cases h
  · split at h
    · cases h
    · split at h
      · assumption
      · cases h
set_option maxHeartbeats 8000000 in
theorem LiftedBack_law (e : Xp) (cs : List Value) (l : LifX) (ls : List Value) (H : PH) (he : e.Rep H cs) (hls : CsR H l ls) (hL : FitL l) : Gives Try.prog n_scrimshawlaw14_LiftedBack [.agg cs.toArray, .agg ls.toArray] H (.bool true) := by
  have he' := he
  obtain ⟨nb, db, kb, nc, dc, kc, rfl, hx⟩ := Xp.Rep.open he
  have hls' := hls
  obtain ⟨fv, bs, rfl, s1, r1⟩ := lif_iff.1 hls
  obtain ⟨fb, fc, rfl⟩ := s1.sl
  obtain ⟨p1, p2, p3, p4, p5, p6, rfl, _⟩ := Xp.Rep.open r1
  have hL1 := hL.1
  refine tri_scrimshawlaw14_LiftedBack (exVs e nb db kb nc dc kc ++ (.slice fb l.funs.length fc :: exVs l.main p1 p2 p3 p4 p5 p6)) (by kernel_rfl) (by kernel_rfl) ?_
  refine den_call cb_lift_Lift (CLiftTop_tri e _ H he') ?_
  rintro x H1 ⟨l1, las, rfl, r2⟩
  have r2' := r2
  obtain ⟨av, abs, rfl, s2, rr2⟩ := lif_iff.1 r2'
  obtain ⟨ab, ac, rfl⟩ := s2.sl
  obtain ⟨q1, q2, q3, q4, q5, q6, rfl, _⟩ := Xp.Rep.open rr2
  refine ⟨_, (.slice ab (liftX e).1.funs.length ac :: exVs (liftX e).1.main q1 q2 q3 q4 q5 q6) ++ [.int .i64 (liftX e).2], rfl, rfl, rfl, pendNil, ?_⟩
  refine den_gives [.bool true] cb_scrimshawlaw14_fixed (LFixed_gives H1) rfl pendNil fun H2 l2 => ⟨fun g => absurd g (by simp [ev0, ev, evV, List.cons_append, List.nil_append, List.getD_cons_zero, List.getD_cons_succ, List.map_cons, List.map_nil, iOf, bOf, sOf, pOf, slLen, slBase, cmpI, arI, Value.ite_bool]), fun _ => ?_⟩
  have l02 := PH.le_trans l1 l2
  refine ⟨fun vs H' => vs = [] ∧ PH.le H2 H', ?_, ?_⟩
  · rintro vs H3 _ ⟨rfl, l3⟩
    have l03 := PH.le_trans l02 l3
    simp only [List.cons_append, List.nil_append]
    refine den_call cb_lift_Lower (LowerL_tri l hL _ H3 (PV.RepRow.le l03 hls')) ?_
    rintro x H4 ⟨l4, es, rfl, r4⟩
    have ht4 := Xp.Rep.tags r4
    have r4' := r4
    obtain ⟨w1, w2, w3, w4, w5, w6, rfl, _⟩ := Xp.Rep.open r4'
    refine ⟨_, exVs (lowerL l).1 w1 w2 w3 w4 w5 w6 ++ [.int .i64 (lowerL l).2], rfl, rfl, rfl, pendNil, ?_⟩
    have l04 := PH.le_trans l03 l4
    refine ⟨fun g => ?_, fun g => ?_⟩
    · simp only [ev0, ev, evV, List.cons_append, List.nil_append, List.getD_cons_zero, List.getD_cons_succ, List.map_cons, List.map_nil, iOf, bOf, sOf, pOf, slLen, slBase, cmpI, arI, Value.ite_bool, int_beq, int_bne, ite_band, ite_bor, decide_eq_true_eq] at g
      have hlz : (lowerL l).1 = exZ := by
        unfold lowerL at g ⊢
        split
        · rename_i h; rw [if_pos h] at g; exact absurd rfl g
        · rfl
      rw [hlz] at r4
      refine den_gives [.bool (decide ((lowerL l).1 = exZ))] cb_scrimshawref06_Same ?_ rfl pendNil fun H5 l5 => ⟨?_, PH.le_trans l04 l5⟩
      · have := XSame_gives _ _ _ _ H4 (by rw [← hlz] at r4; exact r4) (ex0_rep H4)
        exact this
      · simp only [ev0, ev, evV, List.cons_append, List.nil_append, List.getD_cons_zero, List.getD_cons_succ, List.map_cons, List.map_nil, iOf, bOf, sOf, pOf, slLen, slBase, cmpI, arI, Value.ite_bool, int_beq, int_bne, ite_band, ite_bor, decide_eq_true hlz]
    · simp only [ev0, ev, evV, List.cons_append, List.nil_append, List.getD_cons_zero, List.getD_cons_succ, List.map_cons, List.map_nil, iOf, bOf, sOf, pOf, slLen, slBase, cmpI, arI, Value.ite_bool, int_beq, int_bne, ite_band, ite_bor, decide_eq_false_iff_not, ne_eq, Decidable.not_not] at g
      have hc0 : chkL l = 0 := by
        unfold lowerL at g
        split at g
        · assumption
        · exact g
      have hgl := chk_good hc0
      have hlow : lowerL l = (lowX l, 0) := by unfold lowerL; rw [if_pos hc0]
      obtain ⟨hg1, hg2, hg3⟩ := lowered_good hgl
      have hlx : liftX (lowX l) = (⟨(Xp.lift [] (lowX l)).2, (Xp.lift [] (lowX l)).1⟩, 0) := by unfold liftX; rw [if_pos hg1]
      rw [hlow] at r4 ⊢
      generalize hD : (Xp.lift [] (lowX l)).2 = D at hlx hg2 hg3
      generalize hM : (Xp.lift [] (lowX l)).1 = M at hlx
      simp only [List.cons_append, List.nil_append]
      refine den_call cb_lift_Lift (CLiftTop_tri (lowX l) _ H4 r4) ?_
      rintro x H5 ⟨l5, ds, rfl, r5⟩
      rw [hlx] at r5 ⊢
      obtain ⟨dv, dbs, rfl, s5, rr5⟩ := lif_iff.1 r5
      simp only at s5 rr5
      obtain ⟨dsb, dsc, rfl⟩ := s5.sl
      obtain ⟨y1, y2, y3, y4, y5, y6, rfl, _⟩ := Xp.Rep.open rr5
      refine ⟨_, (.slice dsb D.length dsc :: exVs M y1 y2 y3 y4 y5 y6) ++ [.int .i64 0], rfl, rfl, rfl, pendNil, ?_⟩
      have l05 := PH.le_trans l04 l5
      refine ⟨fun g5 => absurd g5 (by simp [ev0, ev, evV, List.cons_append, List.nil_append, List.getD_cons_zero, List.getD_cons_succ, List.map_cons, List.map_nil, iOf, bOf, sOf, pOf, slLen, slBase, cmpI, arI, Value.ite_bool, int_beq, int_bne, ite_band, ite_bor, hg2]), fun _ => ?_⟩
      refine ⟨fun n vs H' => ∃ k : Nat, vs = [.bool false, .int .i64 k] ∧ k + n = D.length ∧ PH.le H5 H', ⟨D.length, 0, rfl, by omega, PH.le_refl _⟩, ?_⟩
      rintro n vs H6 _ ⟨k, rfl, hkn, l6⟩
      refine ⟨fun g6 => ?_, fun g6 => ⟨rfl, PH.le_trans l05 l6⟩⟩
      simp only [ev0, ev, evV, List.cons_append, List.nil_append, List.getD_cons_zero, List.getD_cons_succ, List.map_cons, List.map_nil, iOf, bOf, sOf, pOf, slLen, slBase, cmpI, arI, Value.ite_bool, int_beq, int_bne, ite_band, ite_bor, decide_eq_true_eq] at g6
      obtain ⟨f, hf⟩ : ∃ f, D[k]? = some f := ⟨_, List.getElem?_eq_getElem (show k < D.length by omega)⟩
      obtain ⟨i, gi, hi, hsub⟩ := hg3 f (List.mem_of_getElem? hf)
      refine ⟨fun n2 vs H' => ∃ j : Nat, vs = [.bool false, .int .i64 j] ∧ j + n2 = f.frees.length ∧ PH.le H6 H', ⟨f.frees.length, 0, rfl, by omega, PH.le_refl _⟩, ?_⟩
      rintro n2 vs H7 _ ⟨j, rfl, hjn, l7⟩
      obtain ⟨z1, _, ces, z2, z3⟩ := (s5.le (PH.le_trans l6 l7)).get hf
      obtain ⟨pv, rv, bs, rfl, d1, d2, d3⟩ := fun_iff.1 z2
      obtain ⟨a3, a4, rfl⟩ := d2.sl
      have hm2 := d2.max
      simp only [maxLen] at hm2
      have hld : rowAt H7 ((pOf (eltV (.slice dsb D.length dsc) (k : Int) 10)).map (·.add 1)) [.slice a3 f.frees.length a4] := rowAt_sub z3 1 1
      refine ⟨fun _ => ?_, [.slice a3 f.frees.length a4], rfl, ?_, fun g7 => ?_, fun g7 => ?_⟩
      · simp only [Chk.holds, ev0, ev, evV, List.cons_append, List.nil_append, List.getD_cons_zero, List.getD_cons_succ, List.map_cons, List.map_nil, iOf, bOf, sOf, pOf, slLen, slBase, cmpI, arI, Value.ite_bool, int_beq, int_bne, ite_band, ite_bor]; exact ⟨z1, by omega, by omega⟩
      · simp only [ev0, ev, evV, List.cons_append, List.nil_append, List.getD_cons_zero, List.getD_cons_succ, List.map_cons, List.map_nil, iOf, bOf, sOf, pOf, slLen, slBase, cmpI, arI, Value.ite_bool, int_beq, int_bne, ite_band, ite_bor]; exact hld
      · simp only [ev0, ev, evV, List.cons_append, List.nil_append, List.getD_cons_zero, List.getD_cons_succ, List.map_cons, List.map_nil, iOf, bOf, sOf, pOf, slLen, slBase, cmpI, arI, Value.ite_bool, int_beq, int_bne, ite_band, ite_bor, decide_eq_true_eq] at g7
        obtain ⟨s, hs⟩ : ∃ s, f.frees[j]? = some s := ⟨_, List.getElem?_eq_getElem (show j < f.frees.length by omega)⟩
        obtain ⟨u1, _, ces2, u2, u3⟩ := d2.get hs
        obtain ⟨rfl, hsl⟩ := csTxts u2
        refine ⟨[.slice a3 f.frees.length a4], rfl, by simp only [ev0, ev, evV, List.cons_append, List.nil_append, List.getD_cons_zero, List.getD_cons_succ, List.map_cons, List.map_nil, iOf, bOf, sOf, pOf, slLen, slBase, cmpI, arI, Value.ite_bool, int_beq, int_bne, ite_band, ite_bor]; exact hld, fun _ => ?_, [txt s], rfl, by simp only [ev0, ev, evV, List.cons_append, List.nil_append, List.getD_cons_zero, List.getD_cons_succ, List.map_cons, List.map_nil, iOf, bOf, sOf, pOf, slLen, slBase, cmpI, arI, Value.ite_bool, int_beq, int_bne, ite_band, ite_bor]; exact u3, [.slice a3 f.frees.length a4], rfl, by simp only [ev0, ev, evV, List.cons_append, List.nil_append, List.getD_cons_zero, List.getD_cons_succ, List.map_cons, List.map_nil, iOf, bOf, sOf, pOf, slLen, slBase, cmpI, arI, Value.ite_bool, int_beq, int_bne, ite_band, ite_bor]; exact hld, fun _ => ?_, [txt s], rfl, by simp only [ev0, ev, evV, List.cons_append, List.nil_append, List.getD_cons_zero, List.getD_cons_succ, List.map_cons, List.map_nil, iOf, bOf, sOf, pOf, slLen, slBase, cmpI, arI, Value.ite_bool, int_beq, int_bne, ite_band, ite_bor]; exact u3, ?_⟩
        · simp only [Chk.holds, ev0, ev, evV, List.cons_append, List.nil_append, List.getD_cons_zero, List.getD_cons_succ, List.map_cons, List.map_nil, iOf, bOf, sOf, pOf, slLen, slBase, cmpI, arI, Value.ite_bool, int_beq, int_bne, ite_band, ite_bor]; exact ⟨u1, by omega, by omega⟩
        · simp only [Chk.holds, ev0, ev, evV, List.cons_append, List.nil_append, List.getD_cons_zero, List.getD_cons_succ, List.map_cons, List.map_nil, iOf, bOf, sOf, pOf, slLen, slBase, cmpI, arI, Value.ite_bool, int_beq, int_bne, ite_band, ite_bor]; exact ⟨u1, by omega, by omega⟩
        have hmem : s ∈ f.frees := List.mem_of_getElem? hs
        have hin : s ∈ allN l.funs s := by
          unfold allN
          refine List.mem_map.2 ⟨gi, List.mem_filter.2 ⟨List.mem_of_getElem? hi, ?_⟩, rfl⟩
          rw [List.contains_eq_mem]
          exact decide_eq_true (hsub s hmem)
        have l07 := PH.le_trans l05 (PH.le_trans l6 l7)
        simp only [List.cons_append, List.nil_append]
        refine den_call cb_scrimshawlaw14_all (All_tri l _ s hsl H7 (PV.RepRow.le l07 hls') hL1) ?_
        rintro x H8 ⟨l8, v8, rfl, s8⟩
        obtain ⟨b8, c8, hv8⟩ := s8.sl
        refine ⟨_, [v8], rfl, by rw [hv8]; rfl, rfl, ?_, ?_⟩
        · intro y hy
          rcases List.mem_cons.1 hy with rfl | hy
          · simp only [ev0, ev, evV, List.cons_append, List.nil_append, List.getD_cons_zero, List.getD_cons_succ, List.map_cons, List.map_nil, iOf, bOf, sOf, pOf, slLen, slBase, cmpI, arI, Value.ite_bool, int_beq, int_bne, ite_band, ite_bor]; exact rowAt_le l8 u3
          · rw [List.mem_singleton.1 hy]
            simp only [ev0, ev, evV, List.cons_append, List.nil_append, List.getD_cons_zero, List.getD_cons_succ, List.map_cons, List.map_nil, iOf, bOf, sOf, pOf, slLen, slBase, cmpI, arI, Value.ite_bool, int_beq, int_bne, ite_band, ite_bor]; exact rowAt_le l8 hld
        refine den_gives [.bool ((allN l.funs s).contains s)] cb_scrimshawref06_Has (Has_gives _ s _ H8 s8) rfl pendNil fun H9 l9 => ⟨fun g9 => ?_, fun _ => ?_⟩
        · simp only [ev0, ev, evV, List.cons_append, List.nil_append, List.getD_cons_zero, List.getD_cons_succ, List.map_cons, List.map_nil, iOf, bOf, sOf, pOf, slLen, slBase, cmpI, arI, Value.ite_bool, int_beq, int_bne, ite_band, ite_bor, List.contains_eq_mem, decide_eq_true hin] at g9
          cases g9
        · refine ⟨_, lookup_hit, n2 - 1, by omega, j + 1, ?_, by omega, PH.le_trans l7 (PH.le_trans l8 l9)⟩
          simp only [ev0, ev, evV, List.cons_append, List.nil_append, List.getD_cons_zero, List.getD_cons_succ, List.map_cons, List.map_nil, iOf, bOf, sOf, pOf, slLen, slBase, cmpI, arI, Value.ite_bool, int_beq, int_bne, ite_band, ite_bor]
          rw [w64 (by omega) (by omega)]
          rfl
      · simp only [ev0, ev, evV, List.cons_append, List.nil_append, List.getD_cons_zero, List.getD_cons_succ, List.map_cons, List.map_nil, iOf, bOf, sOf, pOf, slLen, slBase, cmpI, arI, Value.ite_bool, int_beq, int_bne, ite_band, ite_bor, decide_eq_false_iff_not] at g7
        have hm5 := s5.max
        simp only [maxLen] at hm5
        refine ⟨_, lookup_two, n - 1, by omega, k + 1, ?_, by omega, PH.le_trans l6 l7⟩
        simp only [ev0, ev, evV, List.cons_append, List.nil_append, List.getD_cons_zero, List.getD_cons_succ, List.map_cons, List.map_nil, iOf, bOf, sOf, pOf, slLen, slBase, cmpI, arI, Value.ite_bool, int_beq, int_bne, ite_band, ite_bor]
        rw [w64 (by omega) (by omega)]
        rfl
  · refine ⟨fun g => ?_, fun _ => ⟨_, lookup_hit, rfl, PH.le_refl _⟩⟩
    simp only [ev0, ev, evV, List.cons_append, List.nil_append, List.getD_cons_zero, List.getD_cons_succ, List.map_cons, List.map_nil, iOf, bOf, sOf, pOf, slLen, slBase, cmpI, arI, Value.ite_bool, int_beq, int_bne, ite_band, ite_bor, decide_eq_true_eq] at g
    have hgood : liftGood e = true := by
      unfold liftX at g
      split at g
      · assumption
      · exact absurd g (by decide)
    have hlx : liftX e = (⟨(Xp.lift [] e).2, (Xp.lift [] e).1⟩, 0) := by unfold liftX; rw [if_pos hgood]
    obtain ⟨hGL, hLe⟩ := lifted_good hgood
    have hfit := lifted_fit hgood
    rw [hlx] at r2 rr2 ⊢
    simp only at r2 rr2 ⊢
    generalize hA : (⟨(Xp.lift [] e).2, (Xp.lift [] e).1⟩ : LifX) = A at hGL hLe hfit r2
    have hA1 : (Xp.lift [] e).2 = A.funs := by rw [← hA]
    have hA2 : (Xp.lift [] e).1 = A.main := by rw [← hA]
    rw [hA1, hA2] at r2 ⊢
    simp only [List.cons_append, List.nil_append]
    have r2H := PV.RepRow.le l2 r2
    refine den_call cb_lift_Lower (LowerL_tri A hfit _ H2 r2H) ?_
    rintro x H3 ⟨l3, es, rfl, r3⟩
    have r3' := r3
    obtain ⟨w1, w2, w3, w4, w5, w6, rfl, _⟩ := Xp.Rep.open r3'
    refine ⟨_, exVs (lowerL A).1 w1 w2 w3 w4 w5 w6 ++ [.int .i64 (lowerL A).2], rfl, rfl, rfl, pendNil, ?_⟩
    simp only [List.cons_append, List.nil_append]
    refine den_gives [.int .i64 (chkL A)] cb_lift_Check (CheckL_gives A hfit _ H3 (PV.RepRow.le l3 r2H)) rfl pendNil fun H4 l4 => ?_
    have hl2 : (lowerL A).2 = chkL A := by
      unfold lowerL
      split
      · rename_i h; exact h.symm
      · rfl
    have hc := good_chk hGL
    refine ⟨fun vs H' => vs = [.bool false] ∧ PH.le H2 H', ?_, fun g4 => ?_, fun g4 => ⟨fun g5 => ?_, fun g5 => ⟨_, lookup_hit, rfl, PH.le_trans l3 l4⟩⟩⟩
    · rintro vs H5 _ ⟨rfl, l5⟩
      exact ⟨fun g5 => absurd g5 (by simp [ev0, ev, evV, List.cons_append, List.nil_append, List.getD_cons_zero, List.getD_cons_succ, List.map_cons, List.map_nil, iOf, bOf, sOf, pOf, slLen, slBase, cmpI, arI, Value.ite_bool]), fun _ => ⟨_, lookup_hit, rfl, l5⟩⟩
    · exfalso
      simp only [ev0, ev, evV, List.cons_append, List.nil_append, List.getD_cons_zero, List.getD_cons_succ, List.map_cons, List.map_nil, iOf, bOf, sOf, pOf, slLen, slBase, cmpI, arI, Value.ite_bool, int_beq, int_bne, ite_band, ite_bor, hl2] at g4
      rcases hc with h | h <;> rw [h] at g4 <;> simp at g4
    · simp only [ev0, ev, evV, List.cons_append, List.nil_append, List.getD_cons_zero, List.getD_cons_succ, List.map_cons, List.map_nil, iOf, bOf, sOf, pOf, slLen, slBase, cmpI, arI, Value.ite_bool, int_beq, int_bne, ite_band, ite_bor, decide_eq_true_eq, hl2] at g5
      have hlow : (lowerL A).1 = e := by
        unfold lowerL
        rw [if_pos g5]; exact hLe
      refine den_gives [.bool (decide ((lowerL A).1 = e))] cb_scrimshawref06_Same (XSame_gives _ _ _ _ H4 (Xp.Rep.le l4 _ r3) (Xp.Rep.le (PH.le_trans l02 (PH.le_trans l3 l4)) _ he')) rfl pendNil fun H5 l5 => ⟨_, lookup_hit, ?_, PH.le_trans l3 (PH.le_trans l4 l5)⟩
      simp only [ev0, ev, evV, List.cons_append, List.nil_append, List.getD_cons_zero, List.getD_cons_succ, List.map_cons, List.map_nil, iOf, bOf, sOf, pOf, slLen, slBase, cmpI, arI, Value.ite_bool, int_beq, int_bne, ite_band, ite_bor, decide_eq_true hlow]
      rfl
end Go.Proofs.Ytibinelkmlcmgaa.Vc
