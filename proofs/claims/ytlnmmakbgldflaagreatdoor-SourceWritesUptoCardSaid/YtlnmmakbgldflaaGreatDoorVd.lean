/-
  THE SYMBOLIC EXECUTOR IS RIGHT, part 1: values, operands, operations without effect.
-/
import Derived.Test.YtlnmmakbgldflaaGreatDoorVc
set_option linter.unusedSimpArgs false
set_option linter.unusedVariables false
set_option maxRecDepth 100000
namespace Go.Proofs.YtlnmmakbgldflaaGreatDoor.Vc
open Go

/-! ### kinds -/
theorem ok_any {t : Tag} {v : Value} (h : t.ok v = true) : Tag.any.ok v = true := by
  cases t <;> cases v <;> first | rfl | exact absurd h Bool.false_ne_true
theorem ok_bool {v : Value} (h : Tag.bool.ok v = true) : v = .bool (bOf v) := by
  cases v <;> first | rfl | exact absurd h Bool.false_ne_true
theorem ok_int {k : IntKind} {v : Value} (h : (Tag.int k).ok v = true) : v = .int k (iOf v) := by
  cases v <;> first | (have e : k = _ := of_decide_eq_true h; subst e; rfl) | exact absurd h Bool.false_ne_true
theorem ok_str {v : Value} (h : Tag.str.ok v = true) : v = .string (sOf v) := by
  cases v <;> first | rfl | exact absurd h Bool.false_ne_true
theorem ok_sl {v : Value} (h : Tag.sl.ok v = true) : v = .slice (slBase v) (slLen v) (slCap v) := by
  cases v <;> first | rfl | exact absurd h Bool.false_ne_true
theorem ok_ptr {v : Value} (h : Tag.ptr.ok v = true) : v = .pointer (pOf v) := by
  cases v <;> first | rfl | exact absurd h Bool.false_ne_true
theorem ok_map {v : Value} (h : Tag.map.ok v = true) : ∃ r, v = .map r := by
  cases v <;> first | exact ⟨_, rfl⟩ | exact absurd h Bool.false_ne_true
theorem ok_oneC {t : Tag} {v : Value} (h : t.ok v = true) : oneC v = true := by
  cases t <;> cases v <;> first | rfl | exact absurd h Bool.false_ne_true
theorem oneC' {v : Value} (h : oneC v = true) : v.oneCell' = true := by cases v <;> first | rfl | exact absurd h Bool.false_ne_true

theorem tagsOk_get {ts : List Tag} {E : List Value} (h : tagsOk ts E = true) (i : Nat) : (ts.getD i .bool).ok (E.getD i (.bool false)) = true := by
  induction ts generalizing E i with
  | nil =>
    cases E with
    | nil => rfl
    | cons v vs => exact absurd h Bool.false_ne_true
  | cons t ts ih =>
    cases E with
    | nil => exact absurd h Bool.false_ne_true
    | cons v vs =>
      simp only [tagsOk, Bool.and_eq_true] at h
      cases i with
      | zero => exact h.1
      | succ i => simpa using ih h.2 i
theorem tagsOk_length {ts : List Tag} {E : List Value} (h : tagsOk ts E = true) : ts.length = E.length := by
  induction ts generalizing E with
  | nil =>
    cases E with
    | nil => rfl
    | cons v vs => exact absurd h Bool.false_ne_true
  | cons t ts ih =>
    cases E with
    | nil => exact absurd h Bool.false_ne_true
    | cons v vs =>
      simp only [tagsOk, Bool.and_eq_true] at h
      simp [ih h.2]
theorem tagsOk_append {ts us : List Tag} {E F : List Value} (h : tagsOk ts E = true) (k : tagsOk us F = true) : tagsOk (ts ++ us) (E ++ F) = true := by
  induction ts generalizing E with
  | nil =>
    cases E with
    | nil => exact k
    | cons v vs => exact absurd h Bool.false_ne_true
  | cons t ts ih =>
    cases E with
    | nil => exact absurd h Bool.false_ne_true
    | cons v vs =>
      simp only [tagsOk, Bool.and_eq_true] at h
      simp [tagsOk, h.1, ih h.2]
theorem tagsOk_take {ts : List Tag} {E : List Value} (h : tagsOk ts E = true) (n : Nat) : tagsOk (ts.take n) (E.take n) = true := by
  induction ts generalizing E n with
  | nil =>
    cases E with
    | nil => simp [tagsOk]
    | cons v vs => exact absurd h Bool.false_ne_true
  | cons t ts ih =>
    cases E with
    | nil => exact absurd h Bool.false_ne_true
    | cons v vs =>
      simp only [tagsOk, Bool.and_eq_true] at h
      cases n with
      | zero => rfl
      | succ n => simp [tagsOk, h.1, ih h.2]

theorem tagOf_sound {ts : List Tag} {E : List Value} (r : Nat → Nat) (h : tagsOk ts E = true) (s : SV) : (tagOf ts s).ok (ev E r s) = true := by
  induction s with
  | atom i => exact tagsOk_get h i
  | nil c =>
    match c with
    | 0 => rfl
    | 1 => rfl
    | 2 => rfl
    | 3 => rfl
    | 4 => rfl
    | _ + 5 => rfl
  | pick c a b _ iha ihb =>
    simp only [tagOf, ev]
    by_cases e : tagOf ts a = tagOf ts b
    · rw [if_pos e]
      split
      · exact iha
      · rw [e]; exact ihb
    · rw [if_neg e]
      split
      · exact ok_any iha
      · exact ok_any ihb
  | int k n => simp [tagOf, ev, Tag.ok]
  | ar op k a b => simp [tagOf, ev, Tag.ok]
  | com k a => simp [tagOf, ev, Tag.ok]
  | conv k a => simp [tagOf, ev, Tag.ok]
  | len a => simp [tagOf, ev, Tag.ok]
  | cap a => simp [tagOf, ev, Tag.ok]
  | slen a => simp [tagOf, ev, Tag.ok]
  | sidx a b => simp [tagOf, ev, Tag.ok]
  | _ => rfl

theorem ev_oneC {ts : List Tag} {E : List Value} (r : Nat → Nat) (h : tagsOk ts E = true) (s : SV) : oneC (ev E r s) = true := ok_oneC (tagOf_sound r h s)

/-! ### a longer list of atoms; other places of the boxes -/
theorem ev_under {E F : List Value} {r : Nat → Nat} {n : Nat} (hn : n ≤ E.length) (s : SV) (h : s.under n = true) : ev (E.take n ++ F) r s = ev E r s := by
  induction s with
  | atom i =>
    have hi : i < n := of_decide_eq_true h
    simp only [ev, List.getD_eq_getElem?_getD]
    rw [List.getElem?_append_left (by simp; omega), List.getElem?_take, if_pos hi]
  | ar op k a b iha ihb => simp only [SV.under, Bool.and_eq_true] at h; simp only [ev, iha h.1, ihb h.2]
  | cmp op a b iha ihb => simp only [SV.under, Bool.and_eq_true] at h; simp only [ev, iha h.1, ihb h.2]
  | scmp op a b iha ihb => simp only [SV.under, Bool.and_eq_true] at h; simp only [ev, iha h.1, ihb h.2]
  | beq a b iha ihb => simp only [SV.under, Bool.and_eq_true] at h; simp only [ev, iha h.1, ihb h.2]
  | sidx a b iha ihb => simp only [SV.under, Bool.and_eq_true] at h; simp only [ev, iha h.1, ihb h.2]
  | cat a b iha ihb => simp only [SV.under, Bool.and_eq_true] at h; simp only [ev, iha h.1, ihb h.2]
  | elt a b n iha ihb => simp only [SV.under, Bool.and_eq_true] at h; simp only [ev, iha h.1, ihb h.2]
  | pick c a b ihc iha ihb => simp only [SV.under, Bool.and_eq_true] at h; simp only [ev, ihc h.1.1, iha h.1.2, ihb h.2]
  | ssub c a b ihc iha ihb => simp only [SV.under, Bool.and_eq_true] at h; simp only [ev, ihc h.1.1, iha h.1.2, ihb h.2]
  | sls c a b n ihc iha ihb => simp only [SV.under, Bool.and_eq_true] at h; simp only [ev, ihc h.1.1, iha h.1.2, ihb h.2]
  | not a iha => simp only [SV.under] at h; simp only [ev, iha h]
  | com k a iha => simp only [SV.under] at h; simp only [ev, iha h]
  | conv k a iha => simp only [SV.under] at h; simp only [ev, iha h]
  | len a iha => simp only [SV.under] at h; simp only [ev, iha h]
  | cap a iha => simp only [SV.under] at h; simp only [ev, iha h]
  | slen a iha => simp only [SV.under] at h; simp only [ev, iha h]
  | padd a n iha => simp only [SV.under] at h; simp only [ev, iha h]
  | isnil a iha => simp only [SV.under] at h; simp only [ev, iha h]
  | _ => rfl
theorem ev_append {E F : List Value} {r : Nat → Nat} (s : SV) (h : s.under E.length = true) : ev (E ++ F) r s = ev E r s := by
  have := ev_under (E := E) (F := F) (r := r) (Nat.le_refl _) s h
  rwa [List.take_length] at this

theorem ev_noBox {E : List Value} (r r' : Nat → Nat) (s : SV) (h : s.noBox = true) : ev E r s = ev E r' s := by
  induction s with
  | box d o => exact absurd h Bool.false_ne_true
  | ar op k a b iha ihb => simp only [SV.noBox, Bool.and_eq_true] at h; simp only [ev, iha h.1, ihb h.2]
  | cmp op a b iha ihb => simp only [SV.noBox, Bool.and_eq_true] at h; simp only [ev, iha h.1, ihb h.2]
  | scmp op a b iha ihb => simp only [SV.noBox, Bool.and_eq_true] at h; simp only [ev, iha h.1, ihb h.2]
  | beq a b iha ihb => simp only [SV.noBox, Bool.and_eq_true] at h; simp only [ev, iha h.1, ihb h.2]
  | sidx a b iha ihb => simp only [SV.noBox, Bool.and_eq_true] at h; simp only [ev, iha h.1, ihb h.2]
  | cat a b iha ihb => simp only [SV.noBox, Bool.and_eq_true] at h; simp only [ev, iha h.1, ihb h.2]
  | elt a b n iha ihb => simp only [SV.noBox, Bool.and_eq_true] at h; simp only [ev, iha h.1, ihb h.2]
  | pick c a b ihc iha ihb => simp only [SV.noBox, Bool.and_eq_true] at h; simp only [ev, ihc h.1.1, iha h.1.2, ihb h.2]
  | ssub c a b ihc iha ihb => simp only [SV.noBox, Bool.and_eq_true] at h; simp only [ev, ihc h.1.1, iha h.1.2, ihb h.2]
  | sls c a b n ihc iha ihb => simp only [SV.noBox, Bool.and_eq_true] at h; simp only [ev, ihc h.1.1, iha h.1.2, ihb h.2]
  | not a iha => simp only [SV.noBox] at h; simp only [ev, iha h]
  | com k a iha => simp only [SV.noBox] at h; simp only [ev, iha h]
  | conv k a iha => simp only [SV.noBox] at h; simp only [ev, iha h]
  | len a iha => simp only [SV.noBox] at h; simp only [ev, iha h]
  | cap a iha => simp only [SV.noBox] at h; simp only [ev, iha h]
  | slen a iha => simp only [SV.noBox] at h; simp only [ev, iha h]
  | padd a n iha => simp only [SV.noBox] at h; simp only [ev, iha h]
  | isnil a iha => simp only [SV.noBox] at h; simp only [ev, iha h]
  | _ => rfl
theorem ev_ev0 {E : List Value} {r : Nat → Nat} {s : SV} (h : s.noBox = true) : ev E r s = ev0 E s := ev_noBox r _ s h

theorem same_eq {a b : SV} (h : a.same b = true) : a = b := by
  induction a generalizing b with
  | atom i => cases b <;> simp_all [SV.same]
  | int k n => cases b <;> simp_all [SV.same]
  | bool x => cases b <;> simp_all [SV.same]
  | str l => cases b <;> simp_all [SV.same]
  | nil c => cases b <;> simp_all [SV.same]
  | fn c => cases b <;> simp_all [SV.same]
  | glob c => cases b <;> simp_all [SV.same]
  | box c o => cases b <;> simp_all [SV.same]
  | ar op k x y ih1 ih2 => cases b <;> simp [SV.same] at h ⊢; exact ⟨h.1.1.1, h.1.1.2, ih1 h.1.2, ih2 h.2⟩
  | cmp op x y ih1 ih2 => cases b <;> simp [SV.same] at h ⊢; exact ⟨h.1.1, ih1 h.1.2, ih2 h.2⟩
  | scmp op x y ih1 ih2 => cases b <;> simp [SV.same] at h ⊢; exact ⟨h.1.1, ih1 h.1.2, ih2 h.2⟩
  | beq x y ih1 ih2 => cases b <;> simp [SV.same] at h ⊢; exact ⟨ih1 h.1, ih2 h.2⟩
  | sidx x y ih1 ih2 => cases b <;> simp [SV.same] at h ⊢; exact ⟨ih1 h.1, ih2 h.2⟩
  | cat x y ih1 ih2 => cases b <;> simp [SV.same] at h ⊢; exact ⟨ih1 h.1, ih2 h.2⟩
  | elt x y n ih1 ih2 => cases b <;> simp [SV.same] at h ⊢; exact ⟨ih1 h.1.1, ih2 h.1.2, h.2⟩
  | pick z x y ih0 ih1 ih2 => cases b <;> simp [SV.same] at h ⊢; exact ⟨ih0 h.1.1, ih1 h.1.2, ih2 h.2⟩
  | ssub z x y ih0 ih1 ih2 => cases b <;> simp [SV.same] at h ⊢; exact ⟨ih0 h.1.1, ih1 h.1.2, ih2 h.2⟩
  | sls z x y n ih0 ih1 ih2 => cases b <;> simp [SV.same] at h ⊢; exact ⟨ih0 h.1.1.1, ih1 h.1.1.2, ih2 h.1.2, h.2⟩
  | not x ih => cases b <;> simp [SV.same] at h ⊢; exact ih h
  | isnil x ih => cases b <;> simp [SV.same] at h ⊢; exact ih h
  | com k x ih => cases b <;> simp [SV.same] at h ⊢; exact ⟨h.1, ih h.2⟩
  | conv k x ih => cases b <;> simp [SV.same] at h ⊢; exact ⟨h.1, ih h.2⟩
  | len x ih => cases b <;> simp [SV.same] at h ⊢; exact ih h
  | cap x ih => cases b <;> simp [SV.same] at h ⊢; exact ih h
  | slen x ih => cases b <;> simp [SV.same] at h ⊢; exact ih h
  | padd x n ih => cases b <;> simp [SV.same] at h ⊢; exact ⟨ih h.1, h.2⟩

theorem ckSame_eq {a b : Chk} (h : a.same b = true) : a = b := by
  cases a <;> cases b <;> simp [Chk.same] at h ⊢
  · exact ⟨same_eq h.1, same_eq h.2⟩
  · exact ⟨same_eq h.1, same_eq h.2⟩
  · exact ⟨same_eq h.1.1, same_eq h.1.2, same_eq h.2⟩
  · exact same_eq h
  · exact same_eq h
  · exact same_eq h
  · exact ⟨same_eq h.1, same_eq h.2⟩
theorem hasG_mem {G : Guard} {x : SV × Bool} (h : hasG G x = true) : x ∈ G := by
  unfold hasG at h
  obtain ⟨y, hy, he⟩ := List.any_eq_true.1 h
  simp only [Bool.and_eq_true, beq_iff_eq] at he
  have : x = y := Prod.ext (same_eq he.1) he.2
  rw [this]; exact hy
theorem sub1_holds {E : List Value} {r : Nat → Nat} {g G : Guard} (h : sub1 g G = true) (hG : G.holds E r) : g.holds E r := fun x hx => by
  unfold sub1 at h
  exact hG x (hasG_mem (List.all_eq_true.1 h x hx))
theorem Guard.append {E : List Value} {r : Nat → Nat} {g G : Guard} (h : g.holds E r) (k : G.holds E r) : Guard.holds E r (g ++ G) := fun x hx => by
  rcases List.mem_append.1 hx with hx | hx
  · exact h x hx
  · exact k x hx
def asOk (E : List Value) (r : Nat → Nat) (as : Guard) : Prop := ∀ x ∈ as, ev E r x.1 = .bool x.2
theorem asOk.holds {E : List Value} {r : Nat → Nat} {as : Guard} (h : asOk E r as) : as.holds E r := fun x hx => by rw [h x hx]; rfl
theorem litOf_ev {E : List Value} {r : Nat → Nat} {as : Guard} {s : SV} (h : asOk E r as) : ev E r (litOf as s) = ev E r s := by
  unfold litOf
  split
  · rename_i h1; rw [h _ (hasG_mem h1)]; rfl
  · split
    · rename_i h1; rw [h _ (hasG_mem h1)]; rfl
    · rfl

/-! ### the state and the frame -/
/-- what of a function's own record is kept all along, and which slots may be written meanwhile -/
structure Prot where
  ok : Act → Prop
  free : Nat → Bool
  stable : ∀ (a : Act) (d : Nat) (v : Value), free d = true → ok a → ok (a.put (some d) v)
  back : ∀ (a : Act) (d : Nat) (v : Value), free d = true → ok (a.put (some d) v) → ok a
def Prot.may (D : Prot) (o : Oper) : Prop := ∀ d, o.dst = some d → D.free d = true
/-- these calls are deferred -/
def Prot.plain (l : List Deferred) : Prot := ⟨fun a => a.defers = l, fun _ => true, fun _ _ _ _ h => h, fun _ _ _ _ h => h⟩
theorem Prot.plain_may (l : List Deferred) (o : Oper) : (Prot.plain l).may o := fun _ _ => rfl
/-- The state tells what stands in the frame and in the world: H is what is seen of the world, (H0, w0) where the function began. -/
structure Rel (D : Prot) (H0 : PH) (w0 : World) (st : St) (E : List Value) (r : Nat → Nat) (H : PH) (a : Act) (w : World) : Prop where
  adv : Adv H0 w0 H w
  tags : tagsOk st.tags E = true
  size : a.tmps.size = st.fr.length
  df : D.ok a
  fr : ∀ (t : Nat) (e : Ent), st.fr[t]? = some e → (e.v = .junk → False) → (Guard.holds E r e.g → a.tmps.getD t undef = evV E r e.v) ∧ (¬ Guard.holds E r e.g → a.tmps.getD t undef = undef)
  bx : ∀ b ∈ st.bx, w.heap[r b.id]? = some (.cells (b.cs.map (ev E r)).toArray b.ty) ∧ H (r b.id) = none ∧ w0.heap.size ≤ r b.id ∧ b.id < st.nb
  inj : ∀ b ∈ st.bx, ∀ c ∈ st.bx, r b.id = r c.id → b.id = c.id
  nd : (st.bx.map (·.id)).Nodup
  as : asOk E r st.as
  kn : ∀ c ∈ st.kn, c.noBox = true ∧ c.holds E

theorem Rel.vis {D : Prot} {H0 : PH} {w0 : World} {st : St} {E : List Value} {r : Nat → Nat} {H : PH} {a : Act} {w : World} (h : Rel D H0 w0 st E r H a w) : Vis H w := h.adv.vis

theorem mapM_ev {E : List Value} {r : Nat → Nat} : ∀ {l : List Value} {cs : List SV}, l.mapM constC = some cs → cs.map (ev E r) = l
  | [], cs, h => by simp at h; subst h; rfl
  | v :: l, cs, h => by
    simp only [List.mapM_cons] at h
    cases hv : constC v with
    | none => simp [hv] at h
    | some s =>
      cases hl : l.mapM constC with
      | none => simp [hv, hl] at h
      | some ss =>
        simp [hv, hl] at h
        subst h
        simp only [List.map_cons, mapM_ev hl]
        congr 1
        unfold constC at hv
        split at hv <;> first | (cases hv; rfl) | (cases hv)
theorem constC_ev {E : List Value} {r : Nat → Nat} {v : Value} {s : SV} (h : constC v = some s) : ev E r s = v := by
  have := mapM_ev (E := E) (r := r) (l := [v]) (cs := [s]) (by simp [h])
  simpa using this
theorem constV_ev {E : List Value} {r : Nat → Nat} {v : Value} {x : VE} (h : constV v = some x) : evV E r x = v := by
  unfold constV at h
  split at h
  · rename_i cs
    cases hc : cs.toList.mapM constC with
    | none => simp [hc] at h
    | some ss => simp [hc] at h; subst h; simp [evV, mapM_ev hc]
  · rename_i vs
    split at h
    · rename_i h0
      cases h
      have : vs = #[] := Array.eq_empty_of_size_eq_zero h0
      subst this; rfl
    · cases h
  · cases hc : constC v with
    | none => simp [hc] at h
    | some s => simp [hc] at h; subst h; exact constC_ev hc

section
variable {P : Program} {D : Prot} {H0 : PH} {w0 : World} {st : St} {E : List Value} {r : Nat → Nat} {H : PH} {a : Act} {w : World} {G : Guard}

theorem opv_sound (hR : Rel D H0 w0 st E r H a w) (hG : Guard.holds E r G) {x : Operand} {v : VE} (h : opv st G x = some v) : a.eval x = evV E r v := by
  cases x with
  | tmp t =>
    simp only [opv] at h
    cases he : st.fr[t]? with
    | none => simp [he] at h
    | some e =>
      simp only [he] at h
      have hall := Guard.append hG hR.as.holds
      cases hv : e.v with
      | junk => simp [hv] at h
      | sc s =>
        simp only [hv] at h
        split at h
        · rename_i hs
          cases h
          have := (hR.fr t e he (by simp [hv])).1 (sub1_holds hs hall)
          rw [hv] at this
          simp only [evV, litOf_ev hR.as]
          exact this
        · cases h
      | ag cs =>
        simp only [hv] at h
        split at h
        · rename_i hs; cases h; have := (hR.fr t e he (by simp [hv])).1 (sub1_holds hs hall); rw [hv] at this; exact this
        · cases h
      | tu vs =>
        simp only [hv] at h
        split at h
        · rename_i hs; cases h; have := (hR.fr t e he (by simp [hv])).1 (sub1_holds hs hall); rw [hv] at this; exact this
        · cases h
  | const v' => exact (constV_ev h).symm
  | global g => cases h; rfl
  | func f => cases h; rfl

theorem ops1_sound (hR : Rel D H0 w0 st E r H a w) (hG : Guard.holds E r G) {x : Operand} {s : SV} (h : ops1 st G x = some s) : a.eval x = ev E r s := by
  unfold ops1 at h
  split at h
  · rename_i s' he; cases h; exact opv_sound hR hG he
  · cases h
end

end Go.Proofs.YtlnmmakbgldflaaGreatDoor.Vc
