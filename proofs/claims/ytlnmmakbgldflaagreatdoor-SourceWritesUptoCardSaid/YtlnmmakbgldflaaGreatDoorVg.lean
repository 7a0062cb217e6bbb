/-
  WHAT A FORMULA MEANS; what keeps the state's meaning.
-/
import Derived.Test.YtlnmmakbgldflaaGreatDoorVf
set_option linter.unusedSimpArgs false
set_option linter.unusedVariables false
set_option maxRecDepth 100000
namespace Go.Proofs.YtlnmmakbgldflaaGreatDoor.Vc
open Go

/-- these values stand in H from the place p on -/
def rowAt (H : PH) (p : Option Addr) (vs : List Value) : Prop := ∃ a, p = some a ∧ ∀ i v, vs[i]? = some v → H.cell? (a.add i) = some v
def callOk (P : Program) (f : FuncId) : Prop := ∀ args w, (callFunc f args).run P w = .ok (.enter f args) w
def pendOk (E : List Value) (H : PH) (pend : List (SV × List SV)) : Prop := ∀ x ∈ pend, rowAt H (pOf (ev0 E x.1)) (x.2.map (ev0 E))
def argEv (E : List Value) (args : List (Nat × VE)) : Operand → Value
  | .tmp t => match args.lookup t with
    | some v => evV E (fun _ => 0) v
    | none => undef
  | .const v => v
  | .global g => .pointer (some ⟨g, 0, none⟩)
  | .func f => .func (.func f) #[] #[]
def bare (o : Op) (ty : TypeId) : Oper := ⟨none, o, ty, "", #[], none⟩

/-- what a call must give -/
def callPost (X : List PanicEntry → PH → Prop) (rs : RS) (pend : List (SV × List SV)) (E : List Value) (k : List Value → PH → Prop) : Ending → PH → Prop
  | .returned v, H' => ∃ vs, tagsOk rs.tags vs = true ∧ v = rs.pack vs ∧ pendOk E H' pend ∧ k (E ++ vs) H'
  | .panicked c, H' => X c H'
  | .outgrown, _ => False
/-- what another operation must give -/
def nextPost (rs : RS) (pend : List (SV × List SV)) (E : List Value) (k : List Value → PH → Prop) : Next → PH → Prop
  | .value v, H' => ∃ vs, tagsOk rs.tags vs = true ∧ v = rs.pack vs ∧ pendOk E H' pend ∧ k (E ++ vs) H'
  | .skip, H' => rs.tags = [] ∧ undef = rs.pack [] ∧ pendOk E H' pend ∧ k (E ++ []) H'
  | _, _ => False
def altPost (r1 r2 : RS) (E : List Value) (k1 k2 : List Value → PH → Prop) : Next → PH → Prop
  | .value v, H' => (∃ vs, tagsOk r1.tags vs = true ∧ v = r1.pack vs ∧ k1 (E ++ vs) H') ∨ (∃ vs, tagsOk r2.tags vs = true ∧ v = r2.pack vs ∧ k2 (E ++ vs) H')
  | _, _ => False
abbrev LK := List (Nat × (List Value → PH → Prop))
/-- WHAT A FORMULA MEANS: 'K' at its leaves, 'X' where a panic leaves the function. -/
def den (P : Program) (X : List PanicEntry → PH → Prop) {α : Type} : Fm α → List Value → PH → LK → (α → List Value → PH → LK → Prop) → Prop
  | .leaf x, E, H, L, K => K x E H L
  | .fail _, _, _, _, _ => False
  | .ite c a b, E, H, L, K => (bOf (ev0 E c) = true → den P X a E H L K) ∧ (bOf (ev0 E c) = false → den P X b E H L K)
  | .chk g c k, E, H, L, K => (Guard.holds E (fun _ => 0) g → c.holds E) ∧ den P X k E H L K
  | .call f args rs pend k, E, H, L, K =>
    match f with
    | .fn fid => callOk P fid ∧ Tri P fid (args.map (evV E fun _ => 0)).toArray H (callPost X rs pend E fun E' H' => den P X k E' H' L K)
    | f => ∃ fid first capt, ev0 E f = .func (.func fid) first capt ∧ callOk P fid ∧ Tri P fid (first ++ (args.map (evV E fun _ => 0)).toArray ++ capt) H (callPost X rs pend E fun E' H' => den P X k E' H' L K)
  | .load p tags k, E, H, L, K => ∃ vs, tagsOk tags vs = true ∧ rowAt H (pOf (ev0 E p)) vs ∧ den P X k (E ++ vs) H L K
  | .store p cs k, E, H, L, K => ∃ a, pOf (ev0 E p) = some a ∧ wpS P (storeCells a (cs.map (ev0 E))) (fun _ H' => den P X k E H' L K) (fun _ _ => False) H
  | .new t cs k, E, H, L, K => ∀ r, H r = none → den P X k (E ++ [.pointer (some ⟨r, 0, none⟩)]) (H.upd r (.cells (cs.map (ev0 E)).toArray t)) L K
  | .sem o ty args rs pend k, E, H, L, K => wpS P (execOp (argEv E args) (bare o ty)) (nextPost rs pend E fun E' H' => den P X k E' H' L K) (fun v H' => X [{ v, recovered := false }] H') H
  | .alt o ty args r1 r2 k1 k2, E, H, L, K => wpS P (execOp (argEv E args) (bare o ty)) (altPost r1 r2 E (fun E' H' => den P X k1 E' H' L K) fun E' H' => den P X k2 E' H' L K) (fun v H' => X [{ v, recovered := false }] H') H
  | .loop id tags init body, E, H, L, K => ∃ I : Nat → List Value → PH → Prop, (∃ n, I n (init.map (ev0 E)) H) ∧
      ∀ n vs H', tagsOk tags vs = true → I n vs H' → den P X body (E ++ vs) H' ((id, fun vs' H'' => ∃ m, m < n ∧ I m vs' H'') :: L) K
  | .join id tags rest main, E, H, L, K => ∃ J : List Value → PH → Prop, (∀ vs H', tagsOk tags vs = true → J vs H' → den P X rest (E ++ vs) H' L K) ∧ den P X main E H ((id, J) :: L) K
  | .next id vs, E, H, L, _ => ∃ J, L.lookup id = some J ∧ J (vs.map (ev0 E)) H
  | .both a b, E, H, L, K => den P X a E H L K ∧ den P X b E H L K
  | .hold pend k, E, H, L, K => pendOk E H pend ∧ den P X k E H L K

theorem den_bind {P : Program} {X : List PanicEntry → PH → Prop} {α β : Type} (t : Fm α) (f : α → Fm β) (K : β → List Value → PH → LK → Prop) : ∀ (E : List Value) (H : PH) (L : LK),
    den P X (t.bind f) E H L K = den P X t E H L fun x E' H' L' => den P X (f x) E' H' L' K := by
  induction t with
  | leaf x => intro E H L; rfl
  | fail w => intro E H L; rfl
  | ite c a b iha ihb => intro E H L; simp only [Fm.bind, den, iha, ihb]
  | chk g c k ih => intro E H L; simp only [Fm.bind, den, ih]
  | call g args rs pend k ih =>
    intro E H L
    cases g <;> simp only [Fm.bind, den, ih]
  | load p tags k ih => intro E H L; simp only [Fm.bind, den, ih]
  | store p cs k ih => intro E H L; simp only [Fm.bind, den, ih]
  | new t cs k ih => intro E H L; simp only [Fm.bind, den, ih]
  | sem o ty args rs pend k ih => intro E H L; simp only [Fm.bind, den, ih]
  | alt o ty args r1 r2 k1 k2 ih1 ih2 => intro E H L; simp only [Fm.bind, den, ih1, ih2]
  | loop id tags init body ih => intro E H L; simp only [Fm.bind, den, ih]
  | join id tags rest main ih1 ih2 => intro E H L; simp only [Fm.bind, den, ih1, ih2]
  | next id vs => intro E H L; rfl
  | both a b iha ihb => intro E H L; simp only [Fm.bind, den, iha, ihb]
  | hold p k ih => intro E H L; simp only [Fm.bind, den, ih]

/-! ### shapes -/
theorem atomsFrom_ev {r : Nat → Nat} : ∀ (ts : List Tag) (E vs : List Value), tagsOk ts vs = true → (atomsFrom E.length ts).map (ev (E ++ vs) r) = vs
  | [], E, vs, h => by cases vs with
    | nil => rfl
    | cons v vs => exact absurd h Bool.false_ne_true
  | t :: ts, E, vs, h => by
    cases vs with
    | nil => exact absurd h Bool.false_ne_true
    | cons v vs =>
      simp only [tagsOk, Bool.and_eq_true] at h
      simp only [atomsFrom, List.map_cons]
      have e1 : ev (E ++ v :: vs) r (.atom E.length) = v := by simp [ev, List.getD_eq_getElem?_getD]
      have e2 := atomsFrom_ev (r := r) ts (E ++ [v]) vs h.2
      rw [e1]
      congr 1
      simpa using e2
theorem tuFrom_ev {r : Nat → Nat} : ∀ (l : List (Bool × List Tag)) (E vs : List Value), tagsOk (l.flatMap (·.2)) vs = true → (∀ x ∈ l, x.1 = false → x.2 ≠ []) →
    (tuFrom E.length l).map (partV (E ++ vs) r) = tuPack l vs
  | [], E, vs, _, _ => rfl
  | (b, ts) :: l, E, vs, h, hne => by
    have hl : ts.length ≤ vs.length := by have := tagsOk_length h; simp at this; omega
    have h1 : tagsOk ts (vs.take ts.length) = true := by
      have := tagsOk_take h ts.length
      simpa using this
    have h2 : tagsOk (l.flatMap (·.2)) (vs.drop ts.length) = true := by
      have key : ∀ (ts us : List Tag) (vs : List Value), tagsOk (ts ++ us) vs = true → tagsOk us (vs.drop ts.length) = true := by
        intro ts
        induction ts with
        | nil => intro us vs h; simpa using h
        | cons t ts ih =>
          intro us vs h
          cases vs with
          | nil => exact absurd h Bool.false_ne_true
          | cons v vs =>
            simp only [List.cons_append, tagsOk, Bool.and_eq_true] at h
            simpa using ih us vs h.2
      exact key ts _ vs (by simpa using h)
    have e1 := atomsFrom_ev (r := r) ts E (vs.take ts.length) h1
    have hsplit : E ++ vs = E ++ vs.take ts.length ++ vs.drop ts.length := by simp
    have e3 := tuFrom_ev (r := r) l (E ++ vs.take ts.length) (vs.drop ts.length) h2 (fun x hx => hne x (List.mem_cons_of_mem _ hx))
    have hlen : (E ++ vs.take ts.length).length = E.length + ts.length := by simp; omega
    rw [hlen, ← hsplit] at e3
    simp only [tuFrom, List.map_cons, tuPack, e3]
    congr 1
    have e2 : (atomsFrom E.length ts).map (ev (E ++ vs) r) = vs.take ts.length := by
      have hall : ∀ (ts : List Tag) (n : Nat) (s : SV), s ∈ atomsFrom n ts → s.under (n + ts.length) = true := by
        intro ts
        induction ts with
        | nil => intro n s hs; cases hs
        | cons t ts ih =>
          intro n s hs
          simp only [atomsFrom, List.mem_cons] at hs
          rcases hs with rfl | hs
          · simp [SV.under]
          · have := ih (n + 1) s hs
            rw [List.length_cons, show n + (ts.length + 1) = n + 1 + ts.length by omega]; exact this
      rw [← e1]
      refine List.map_congr_left fun s hs => ?_
      have := hall ts E.length s hs
      rw [hsplit]
      exact ev_append s (by rw [hlen]; exact this)
    unfold partV
    simp only [e2]
    cases b with
    | true => rfl
    | false =>
      have hn := hne (false, ts) (List.mem_cons_self ..) rfl
      simp only [Bool.false_eq_true, if_false]
      cases ts with
      | nil => exact absurd rfl hn
      | cons t ts =>
        cases vs with
        | nil => simp at hl
        | cons v vs =>
          simp only [atomsFrom, List.headD_cons]
          simp [ev, List.getD_eq_getElem?_getD]
/-- no part of a tuple is without a cell -/
def RS.fine : RS → Prop
  | .tu l => ∀ x ∈ l, x.1 = false → x.2 ≠ []
  | _ => True
theorem RS.pack_ev {r : Nat → Nat} {rs : RS} (hf : rs.fine) {E vs : List Value} (h : tagsOk rs.tags vs = true) : evV (E ++ vs) r (rs.ve E.length) = rs.pack vs := by
  cases rs with
  | sc t =>
    cases vs with
    | nil => exact absurd h Bool.false_ne_true
    | cons v vs => simp [RS.ve, evV, ev, RS.pack, List.getD_eq_getElem?_getD]
  | ag ts => simp only [RS.ve, evV, RS.pack, atomsFrom_ev (r := r) ts E vs h]
  | tu l => simp only [RS.ve, evV, RS.pack, tuFrom_ev (r := r) l E vs h hf]

section
variable {P : Program} {D : Prot} {H0 : PH} {w0 : World} {st : St} {E : List Value} {r : Nat → Nat} {H : PH} {a : Act} {w : World} {G : Guard}

theorem getD_put (a : Act) (d : Nat) (v : Value) (t : Nat) (hd : d < a.tmps.size) : (a.put (some d) v).tmps.getD t undef = if t = d then v else a.tmps.getD t undef := by
  simp only [Act.put, Array.getD_eq_getD_getElem?, Array.getElem?_setIfInBounds]
  by_cases e : t = d
  · subst e; simp [hd]
  · simp [e, Ne.symm e]

theorem Rel.put (hR : Rel D H0 w0 st E r H a w) (d : Option Nat) (g : Guard) (ve : VE) (v : Value) (h1 : Guard.holds E r g → v = evV E r ve) (h2 : ¬ Guard.holds E r g → v = undef) (hw : ∀ x, d = some x → D.free x = true) :
    Rel D H0 w0 (st.set d ⟨g, ve⟩) E r H (a.put d v) w := by
  cases d with
  | none => exact hR
  | some d =>
    refine { hR with size := ?_, fr := ?_, df := D.stable a d v (hw d rfl) hR.df }
    · simp [Act.put, St.set, hR.size]
    · intro t e he hj
      simp only [St.set, List.getElem?_set] at he
      by_cases hd : d < st.fr.length
      · rw [getD_put _ _ _ _ (by rw [hR.size]; exact hd)]
        by_cases e' : d = t
        · subst e'
          simp [hd] at he
          subst he
          simp only [if_true]
          exact ⟨h1, h2⟩
        · rw [if_neg e'] at he
          rw [if_neg (Ne.symm e')]
          exact hR.fr t e he hj
      · have hnot : ¬ d < a.tmps.size := by rw [hR.size]; exact hd
        have : (a.put (some d) v).tmps = a.tmps := by simp [Act.put, Array.setIfInBounds_eq_of_size_le (Nat.le_of_not_lt hnot)]
        rw [this]
        by_cases e' : d = t
        · subst e'; simp [hd] at he
        · rw [if_neg e'] at he; exact hR.fr t e he hj

theorem guard_ext {F : List Value} {g : Guard} (h : g.all (fun x => x.1.under E.length) = true) : Guard.holds (E ++ F) r g ↔ Guard.holds E r g := by
  constructor
  · intro hh x hx; have := hh x hx; rwa [ev_append _ (List.all_eq_true.1 h x hx)] at this
  · intro hh x hx; have := hh x hx; rwa [ev_append _ (List.all_eq_true.1 h x hx)]
theorem evV_ext {F : List Value} {v : VE} (h : v.under E.length = true) : evV (E ++ F) r v = evV E r v := by
  cases v with
  | junk => rfl
  | sc s => exact ev_append s h
  | ag cs =>
    simp only [evV]
    rw [List.map_congr_left fun s hs => ev_append s (List.all_eq_true.1 h s hs)]
  | tu vs =>
    simp only [evV]
    congr 2
    refine List.map_congr_left fun x hx => ?_
    have hx' : x.2.all (SV.under E.length) = true := List.all_eq_true.1 h x hx
    unfold partV
    have e1 : x.2.map (ev (E ++ F) r) = x.2.map (ev E r) := List.map_congr_left fun s hs => ev_append s (List.all_eq_true.1 hx' s hs)
    rw [e1]
    cases hc : x.2 with
    | nil => rfl
    | cons s ss =>
      rw [hc] at hx'
      simp only [List.all_cons, Bool.and_eq_true] at hx'
      simp only [List.headD_cons, ev_append s hx'.1]
theorem ckHolds_ext {F : List Value} {c : Chk} (h : c.under E.length = true) (hh : c.holds E) : c.holds (E ++ F) := by
  have key : ∀ s : SV, s.under E.length = true → ev0 (E ++ F) s = ev0 E s := fun s hs => ev_append s hs
  cases c <;> simp only [Chk.under, Bool.and_eq_true] at h <;> simp only [Chk.holds] at hh ⊢
  · rw [key _ h.1, key _ h.2]; exact hh
  · rw [key _ h.1, key _ h.2]; exact hh
  · rw [key _ h.1.1, key _ h.1.2, key _ h.2]; exact hh
  · rw [key _ h]; exact hh
  · rw [key _ h]; exact hh
  · rw [key _ h]; exact hh
  · rw [key _ h.1, key _ h.2]; exact hh

/-- new atoms -/
theorem Rel.ext (hR : Rel D H0 w0 st E r H a w) (hu : st.under = true) {ts : List Tag} {vs : List Value} (ht : tagsOk ts vs = true) :
    Rel D H0 w0 { st with tags := st.tags ++ ts } (E ++ vs) r H a w := by
  have hlen : st.tags.length = E.length := tagsOk_length hR.tags
  simp only [St.under, Bool.and_eq_true, hlen] at hu
  obtain ⟨⟨⟨u1, u2⟩, u3⟩, u4⟩ := hu
  refine { hR with tags := tagsOk_append hR.tags ht, fr := ?_, bx := ?_, as := ?_, kn := ?_ }
  · intro t e he hj
    have hm := List.all_eq_true.1 u1 e (List.mem_of_getElem? he)
    simp only [Bool.and_eq_true] at hm
    rw [guard_ext hm.2, evV_ext hm.1]
    exact hR.fr t e he hj
  · intro b hb
    have hm := List.all_eq_true.1 u2 b hb
    obtain ⟨x1, x2⟩ := hR.bx b hb
    refine ⟨?_, x2⟩
    rw [x1, List.map_congr_left fun s hs => (ev_append s (List.all_eq_true.1 hm s hs)).symm]
  · intro x hx
    show ev (E ++ vs) r x.1 = _
    rw [ev_append _ (List.all_eq_true.1 u3 x hx)]; exact hR.as x hx
  · intro c hc
    exact ⟨(hR.kn c hc).1, ckHolds_ext (List.all_eq_true.1 u4 c hc) (hR.kn c hc).2⟩

theorem Rel.res (hR : Rel D H0 w0 st E r H a w) (hu : st.under = true) {rs : RS} (hf : rs.fine) {vs : List Value} (ht : tagsOk rs.tags vs = true) (d : Option Nat) (hw : ∀ x, d = some x → D.free x = true) :
    Rel D H0 w0 (addRes st d rs) (E ++ vs) r H (a.put d (rs.pack vs)) w := by
  have hlen : st.tags.length = E.length := tagsOk_length hR.tags
  have h1 := (hR.ext hu ht).put d [] (rs.ve st.tags.length) (rs.pack vs) (fun _ => by rw [hlen, RS.pack_ev hf ht]) (fun h => absurd (fun x hx => by cases hx) h) hw
  have e : addRes st d rs = ({ st with tags := st.tags ++ rs.tags } : St).set d ⟨[], rs.ve st.tags.length⟩ := by
    cases d <;> rfl
  rw [e]; exact h1

/-- the world goes on, beside the function's own boxes -/
theorem Rel.adv' (hR : Rel D H0 w0 st E r H a w) {H' : PH} {w' : World} (h : Adv H w H' w') : Rel D H0 w0 st E r H' a w' := by
  refine { hR with adv := hR.adv.trans h, bx := ?_ }
  intro b hb
  obtain ⟨x1, x2, x3, x4⟩ := hR.bx b hb
  have hlt : r b.id < w.heap.size := by
    rcases Nat.lt_or_ge (r b.id) w.heap.size with h | h
    · exact h
    · simp [Array.getElem?_eq_none h] at x1
  obtain ⟨y1, y2⟩ := h.old _ hlt x2
  exact ⟨by rw [y1]; exact x1, y2, x3, x4⟩

theorem Rel.assume (hR : Rel D H0 w0 st E r H a w) {c : SV} {b : Bool} (h : ev E r c = .bool b) : Rel D H0 w0 (assume st c b) E r H a w := by
  refine { hR with as := ?_ }
  intro x hx
  rcases List.mem_cons.1 hx with rfl | hx
  · exact h
  · exact hR.as x hx

theorem Rel.learn (hR : Rel D H0 w0 st E r H a w) {g : Guard} {cks : List Chk} (h : g = [] → ∀ c ∈ cks, c.noBox = true ∧ c.holds E) : Rel D H0 w0 (learn st g cks) E r H a w := by
  unfold Vc.learn
  split
  · rename_i hg
    refine { hR with kn := ?_ }
    intro c hc
    rcases List.mem_append.1 hc with hc | hc
    · exact h (List.isEmpty_iff.1 hg) c hc
    · exact hR.kn c hc
  · exact hR
end
end Go.Proofs.YtlnmmakbgldflaaGreatDoor.Vc
