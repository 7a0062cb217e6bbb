/-
  THE SYMBOLIC EXECUTOR IS RIGHT, part 9: a region whose order is drawn.
-/
import Derived.Test.YtlnmmakbgldflaaGreatDoorVl
import Derived.Test.YtlnmmakbgldflaaGreatDoorVm
set_option linter.unusedSimpArgs false
set_option linter.unusedVariables false
set_option maxRecDepth 100000
namespace Go.Proofs.YtlnmmakbgldflaaGreatDoor.Vc
open Go

/-! ### who waits for whom -/
theorem testBit_anc {anc : List Nat} {i : Nat} : ∀ {l : List Edge}, (l.foldr (fun e m => if Region.binds .any e then (1 <<< e.on) ||| (anc.getD e.on 0 ||| m) else m) 0).testBit i = true →
    ∃ e ∈ l, Region.binds .any e = true ∧ (e.on = i ∨ waits anc i e.on = true)
  | [], h => by simp at h
  | e :: l, h => by
    simp only [List.foldr_cons] at h
    split at h
    · rename_i hb
      simp only [Nat.testBit_or, Bool.or_eq_true] at h
      rcases h with h | h | h
      · refine ⟨e, List.mem_cons_self .., hb, .inl ?_⟩
        rw [Nat.shiftLeft_eq, Nat.one_mul, Nat.testBit_two_pow] at h
        exact of_decide_eq_true h
      · exact ⟨e, List.mem_cons_self .., hb, .inr h⟩
      · obtain ⟨f, hf, h2⟩ := testBit_anc h
        exact ⟨f, List.mem_cons_of_mem _ hf, h2⟩
    · obtain ⟨f, hf, h2⟩ := testBit_anc h
      exact ⟨f, List.mem_cons_of_mem _ hf, h2⟩

def waitersOf (ops : Array Oper) (anc : List Nat) (i : Nat) : List Nat := (List.range ops.size).filter (waits anc i)

theorem waits_lt {ops : Array Oper} {anc : List Nat} (h : ancOk ops anc = true) {i j : Nat} (hw : waits anc i j = true) : j < ops.size := by
  simp only [ancOk, Bool.and_eq_true, beq_iff_eq] at h
  rcases Nat.lt_or_ge j ops.size with hj | hj
  · exact hj
  · unfold waits at hw
    rw [List.getD_eq_getElem?_getD, List.getElem?_eq_none (by omega)] at hw
    simp at hw
theorem mem_waiters {ops : Array Oper} {anc : List Nat} (h : ancOk ops anc = true) {i j : Nat} : j ∈ waitersOf ops anc i ↔ waits anc i j = true := by
  unfold waitersOf
  rw [List.mem_filter, List.mem_range]
  exact ⟨fun h => h.2, fun hw => ⟨waits_lt h hw, hw⟩⟩
theorem waiters_edge {ops : Array Oper} {anc : List Nat} (h : ancOk ops anc = true) {i : Nat} : ∀ k ∈ waitersOf ops anc i, ∃ ok, ops[k]? = some ok ∧ ∃ e ∈ ok.after, Region.binds .any e = true ∧ (e.on = i ∨ e.on ∈ waitersOf ops anc i) := by
  intro k hk
  have hw := (mem_waiters h).1 hk
  have hlt := waits_lt h hw
  simp only [ancOk, Bool.and_eq_true, beq_iff_eq] at h
  have h2 := List.all_eq_true.1 h.2 k (List.mem_range.2 hlt)
  have hok : ops[k]? = some ops[k] := by simp [hlt]
  rw [hok] at h2
  simp only [beq_iff_eq] at h2
  unfold waits at hw
  rw [h2] at hw
  obtain ⟨e, he, hb, hon⟩ := testBit_anc (anc := anc) (i := i) hw
  refine ⟨_, hok, e, Array.mem_toList_iff.1 he, hb, ?_⟩
  rcases hon with hon | hon
  · exact .inl hon
  · refine .inr ?_
    unfold waitersOf
    rw [List.mem_filter, List.mem_range]
    refine ⟨?_, hon⟩
    rcases Nat.lt_or_ge e.on ops.size with hj | hj
    · exact hj
    · unfold waits at hon
      rw [List.getD_eq_getElem?_getD, List.getElem?_eq_none (by omega)] at hon
      simp at hon

/-! ### what has come up -/
structure UpIs (ops : Array Oper) (listed : Array Bool) (done : List Nat) : Prop where
  size : listed.size = ops.size
  up : ∀ k, upOf listed k = done.contains k
theorem UpIs.step {ops : Array Oper} {listed : Array Bool} {done : List Nat} (h : UpIs ops listed done) {i : Nat} (hi : i < ops.size) : UpIs ops (listed.setIfInBounds i true) (i :: done) := by
  refine ⟨by simp [h.size], fun k => ?_⟩
  by_cases e : k = i
  · subst e
    unfold upOf
    simp [h.size, hi]
  · rw [up_set e, h.up, List.contains_cons]
    simp [e]
theorem UpIs.getT {ops : Array Oper} {listed : Array Bool} {done : List Nat} (h : UpIs ops listed done) {k : Nat} (hk : k < ops.size) : listed.getD k true = done.contains k := by
  rw [← h.up]
  unfold upOf
  simp [h.size, hk]
theorem UpIs.ready {ops : Array Oper} {listed : Array Bool} {done : List Nat} (h : UpIs ops listed done) : Region.ready .any ops listed = readyL ops done := by
  unfold Region.ready readyL
  refine List.filter_congr fun i hi => ?_
  rw [h.getT (List.mem_range.1 hi)]
  congr 2
  congr 1
  funext o
  congr 1
  funext e
  have := h.up e.on
  unfold upOf at this
  rw [this]

/-! ### the rows that are held -/
theorem pendOk_ext {E F : List Value} {H : PH} {l : List (SV × List SV)} (hu : pendU E.length l = true) : pendOk (E ++ F) H l ↔ pendOk E H l := by
  have key : ∀ x ∈ l, ev0 (E ++ F) x.1 = ev0 E x.1 ∧ x.2.map (ev0 (E ++ F)) = x.2.map (ev0 E) := by
    intro x hx
    have := List.all_eq_true.1 hu x hx
    simp only [Bool.and_eq_true] at this
    exact ⟨ev_append _ this.1, List.map_congr_left fun s hs => ev_append s (List.all_eq_true.1 this.2 s hs)⟩
  constructor
  · intro h x hx
    have := h x hx
    rwa [(key x hx).1, (key x hx).2] at this
  · intro h x hx
    have := h x hx
    rwa [(key x hx).1, (key x hx).2]

abbrev HE := Hold × (World → Prop)
structure HOk (E : List Value) (H : PH) (w : World) (x : HE) : Prop where
  pend : pendOk E H x.1.2
  now : x.2 w
  stab : ∀ H' w', (Adv H w H' w' ∨ (x.1.2 ≠ [] ∧ Vis H' w')) → pendOk E H' x.1.2 → x.2 w'
/-- The conditions that are asked behind an operation follow from what is held. -/
def Asks (anc : List Nat) (S : Up → World → Prop) (done : List Nat) (HL : List HE) : Prop :=
  ∀ (D : Up) (w' : World), (∀ k ∈ done, D k = true) → (∀ x ∈ HL, (∀ k, waits anc x.1.1 k = true → D k = true → k ∈ done) → x.2 w') → S D w'

theorem Asks.held {ops : Array Oper} {anc : List Nat} (ha : ancOk ops anc = true) {S : Up → World → Prop} {done : List Nat} {HL : List HE} (h : Asks anc S done HL) {i : Nat} (hi : i ∉ done) (pr : List (SV × List SV)) (φ : World → Prop) :
    Asks anc (held S i (waitersOf ops anc i) φ) (i :: done) (((i, pr), φ) :: HL) := by
  intro D w' hD hx
  have hiD : D i = true := hD i (List.mem_cons_self ..)
  refine ⟨h D w' (fun k hk => hD k (List.mem_cons_of_mem _ hk)) fun x hm hw => hx x (List.mem_cons_of_mem _ hm) fun k h1 h2 => List.mem_cons_of_mem _ (hw k h1 h2), fun hno => ⟨?_, ?_⟩⟩
  · refine h (D.less i) w' (fun k hk => ?_) fun x hm hw => hx x (List.mem_cons_of_mem _ hm) fun k h1 h2 => ?_
    · have hne : k ≠ i := fun e => hi (by rw [← e]; exact hk)
      simp [Up.less, hne, hD k (List.mem_cons_of_mem _ hk)]
    · by_cases e : k = i
      · subst e; exact List.mem_cons_self ..
      · exact List.mem_cons_of_mem _ (hw k h1 (by simp [Up.less, e, h2]))
  · exact hx ((i, pr), φ) (List.mem_cons_self ..) fun k h1 h2 => by
      have := hno k ((mem_waiters ha).2 h1)
      rw [h2] at this; cases this
theorem Asks.drop {anc : List Nat} {S : Up → World → Prop} {done : List Nat} {HL : List HE} {h : Hold} {φ : World → Prop} (hφ : ∀ w, φ w) (hA : Asks anc S done ((h, φ) :: HL)) : Asks anc S done HL := by
  intro D w' hD hx
  refine hA D w' hD fun x hm hw => ?_
  rcases List.mem_cons.1 hm with rfl | hm
  · exact hφ w'
  · exact hx x hm hw
/-- number i has come up in its turn -/
theorem Asks.step {anc : List Nat} {S : Up → World → Prop} {done : List Nat} {HL HL' : List HE} (h : Asks anc S done HL) {i : Nat} (hi : i ∉ done) (hsub : ∀ x ∈ HL, waits anc x.1.1 i = false → x ∈ HL') : Asks anc S (i :: done) HL' := by
  intro D w' hD hx
  refine h D w' (fun k hk => hD k (List.mem_cons_of_mem _ hk)) fun x hm hw => ?_
  have hn : waits anc x.1.1 i = false := by
    cases hc : waits anc x.1.1 i with
    | false => rfl
    | true => exact absurd (hw i hc (hD i (List.mem_cons_self ..))) hi
  exact hx x (hsub x hm hn) fun k h1 h2 => List.mem_cons_of_mem _ (hw k h1 h2)
theorem Asks.here {anc : List Nat} {S : Up → World → Prop} {done : List Nat} {HL : List HE} (h : Asks anc S done HL) {i : Nat} (hi : i ∉ done) {D : Up} (hD : ∀ k, D k = (i :: done).contains k) {w' : World} (hx : ∀ x ∈ HL, waits anc x.1.1 i = false → x.2 w') : S D w' := by
  refine h D w' (fun k hk => by rw [hD]; simp [hk]) fun x hm hw => hx x hm ?_
  cases hc : waits anc x.1.1 i with
  | false => rfl
  | true => exact absurd (hw i hc (by rw [hD]; simp)) hi

section
variable {P : Program} {D : Prot} {H0 : PH} {w0 : World} {st : St} {E : List Value} {r : Nat → Nat} {H : PH} {a : Act} {w : World} {X : List PanicEntry → PH → Prop} {L : LK} {ops : Array Oper} {anc : List Nat}

/-- the boxes stand as they stood -/
def boxesAt (st : St) (E : List Value) (r : Nat → Nat) (w' : World) : Prop := ∀ b ∈ st.bx, w'.heap[r b.id]? = some (.cells (b.cs.map (ev E r)).toArray b.ty)

theorem Rel.view (hR : Rel D H0 w0 st E r H a w) {o : Oper} {w' : World} (hb : isLoad o = true → boxesAt st E r w') : Rel D (fun _ => none) { w' with heap := #[] } (viewOf st o) E r (fun _ => none) a w' := by
  have hadv : Adv (fun _ => none) { w' with heap := #[] } (fun _ => none) w' := ⟨Nat.zero_le _, (fun k o h => by cases h), (fun k hk => absurd hk (Nat.not_lt_zero k)), rfl, rfl, rfl⟩
  unfold viewOf
  cases hl : isLoad o with
  | true =>
    simp only [if_true]
    exact { adv := hadv, tags := hR.tags, size := hR.size, df := hR.df, fr := hR.fr, inj := hR.inj, nd := hR.nd, as := hR.as, kn := hR.kn,
            bx := fun b hm => ⟨hb hl b hm, rfl, Nat.zero_le _, (hR.bx b hm).2.2.2⟩ }
  | false =>
    simp only [Bool.false_eq_true, if_false]
    exact { adv := hadv, tags := hR.tags, size := hR.size, df := hR.df, fr := hR.fr, as := hR.as, kn := hR.kn,
            inj := (fun b hm => by cases hm), nd := List.nodup_nil, bx := (fun b hm => by cases hm) }

/-- under what a light operation is taken ahead -/
def lightφ (st : St) (E : List Value) (r : Nat → Nat) (o : Oper) (w' : World) : Prop := isLoad o = true → boxesAt st E r w'

theorem light_yields (hR : Rel D H0 w0 st E r H a w) {o : Oper} {G : Guard} {cks : List Chk} {v : VE} (hw0 : D.may o) (hg : guardOf ops st o = .ctx G) (hl : lightL P (viewOf st o) G o.op = some (cks, v))
    (hc : ∀ c ∈ cks, c.noBox = true ∧ (Guard.holds E r G → c.holds E)) :
    ∃ u, YieldsIf P ops (lightφ st E r o) o u a ∧ Rel D H0 w0 (learn (st.set o.dst ⟨G, v⟩) G cks) E r H (a.put o.dst u) w := by
  have hw := guardOf_ctx hR hg
  by_cases hG : Guard.holds E r G
  · have hck : ∀ c ∈ cks, c.noBox = true ∧ c.holds E := fun c hc' => ⟨(hc c hc').1, (hc c hc').2 hG⟩
    refine ⟨evV E r v, .inl ⟨hw.1 hG, fun w' hφ => ?_⟩, (hR.put o.dst G v _ (fun _ => rfl) (fun h => absurd hG h) hw0).learn (fun _ => hck)⟩
    exact lightL_sound (hR.view hφ) hG hl hck o.dst o.type o.pos o.after o.guard
  · exact ⟨undef, .inr ⟨hw.2 hG, rfl⟩, (hR.put o.dst G v undef (fun h => absurd h hG) (fun _ => rfl) hw0).learn (fun h => absurd (by subst h; exact fun x hx => by cases hx) hG)⟩

theorem boxes_now (hR : Rel D H0 w0 st E r H a w) : boxesAt st E r w := fun b hb => (hR.bx b hb).1
theorem boxes_stab (hR : Rel D H0 w0 st E r H a w) {H' : PH} {w' : World} (h : Adv H w H' w') : boxesAt st E r w' := fun b hb => by
  obtain ⟨x1, x2, _, _⟩ := hR.bx b hb
  have hlt : r b.id < w.heap.size := by
    rcases Nat.lt_or_ge (r b.id) w.heap.size with h | h
    · exact h
    · simp [Array.getElem?_eq_none h] at x1
  rw [(h.old _ hlt x2).1]; exact x1

theorem aheadK_spec {o : Oper} : (aheadK P ops st o = .never → guardOf ops st o = .never) ∧
    (∀ G cks v, aheadK P ops st o = .light G cks v → guardOf ops st o = .ctx G ∧ lightL P (viewOf st o) G o.op = some (cks, v)) ∧
    (∀ T s, aheadK P ops st o = .load T s → guardOf ops st o = .ctx [] ∧ ∃ p, o.op = .load T p ∧ ops1 st [] p = some s ∧ s.under st.tags.length = true) := by
  unfold aheadK
  split
  · rename_i h; exact ⟨fun _ => h, fun _ _ _ h => by (cases h), fun _ _ h => by (cases h)⟩
  · exact ⟨fun h => by (cases h), fun _ _ _ h => by (cases h), fun _ _ h => by (cases h)⟩
  · rename_i G hG
    split
    · rename_i cks v hl
      refine ⟨fun h => by (cases h), fun G' cks' v' h => ?_, fun _ _ h => by (cases h)⟩
      cases h
      exact ⟨hG, hl⟩
    · split
      · rename_i T p hop _
        split
        · rename_i s hs
          split
          · rename_i hu
            refine ⟨fun h => by (cases h), fun _ _ _ h => by (cases h), fun T' s' h => ?_⟩
            cases h
            exact ⟨hG, p, hop, hs, hu⟩
          · exact ⟨fun h => by (cases h), fun _ _ _ h => by (cases h), fun _ _ h => by (cases h)⟩
        · exact ⟨fun h => by (cases h), fun _ _ _ h => by (cases h), fun _ _ h => by (cases h)⟩
      · exact ⟨fun h => by (cases h), fun _ _ _ h => by (cases h), fun _ _ h => by (cases h)⟩

/-- a row of the heap that is there for good, taken ahead -/
theorem load_yields (hR : Rel D H0 w0 st E r H a w) (hu : st.under = true) {pub : List Nat} {o : Oper} {T : TypeId} {p : Operand} {s : SV} (hw0 : D.may o) (ho : o.op = .load T p) (hs : ops1 st [] p = some s) (hsu : s.under st.tags.length = true) (hg : guardOf ops st o = .ctx []) {K : St → List Value → PH → LK → Prop}
    (hden : den P X (heavyL P pub st o []) E H L K) :
    ∃ vs st' φ, st'.nl = st.nl ∧ YieldsIf P ops φ o ((loadRS P T).pack vs) a ∧ Rel D H0 w0 st' (E ++ vs) r H (a.put o.dst ((loadRS P T).pack vs)) w ∧ K st' (E ++ vs) H L ∧
      HOk (E ++ vs) H w ((0, [(s, atomsFrom st.tags.length (tagsOfT P 12 T))]), φ) := by
  have g0 : Guard.holds E r ([] : Guard) := fun x hx => by cases hx
  have hw := guardOf_ctx hR hg
  have hp := ops1_sound hR g0 hs
  have hlen : st.tags.length = E.length := tagsOk_length hR.tags
  have hden2 : ∃ i, P.info? T = some i ∧ den P X (loadH P st o T i.size s) E H L K := by
    unfold heavyL at hden
    rw [ho] at hden
    simp only [hs] at hden
    cases hi : P.info? T with
    | none => rw [hi] at hden; exact hden.elim
    | some i => rw [hi] at hden; exact ⟨i, rfl, hden⟩
  obtain ⟨i, hi, hden⟩ := hden2
  unfold loadH at hden
  split at hden
  · rename_i hc
    obtain ⟨ht, hnb, hl, hrs, hun⟩ := hc
    obtain ⟨vs, hts, ⟨ad, had, hrow⟩, hk⟩ := hden
    obtain ⟨d, hd⟩ := Option.isSome_iff_exists.1 hun
    have e1 := ok_ptr (tag_ev hR ht)
    rw [ev_ev0 hnb, had] at e1
    have hf : (loadRS P T).fine := by unfold loadRS; split <;> trivial
    refine ⟨vs, _, fun w' => ∀ j v, vs[j]? = some v → w'.cell? (ad.add j) = some v, ?_, .inl ⟨hw.1 g0, fun w' hφ => ?_⟩, hR.res hu hf (by rw [hrs]; exact hts) o.dst hw0, hk, ?_⟩
    · cases o.dst <;> rfl
    · have hload := loadVar_row hi hts hl hrs hd hφ
      obtain ⟨dst, op, ty, pos, af, gd⟩ := o
      cases ho
      simp [execOp, Instr.loadAt, hp, ev_ev0 hnb, e1, Instr.sureAddr, hload]
    · have hrow' : (atomsFrom st.tags.length (tagsOfT P 12 T)).map (ev0 (E ++ vs)) = vs := by rw [hlen]; exact atomsFrom_ev (r := fun _ => 0) _ E vs hts
      have hs' : ev0 (E ++ vs) s = ev0 E s := ev_append s (by rw [← hlen]; exact hsu)
      refine ⟨?_, fun j v hj => hR.vis.cell (hrow j v hj), ?_⟩
      · intro x hx
        rw [List.mem_singleton.1 hx]
        exact ⟨ad, by rw [hs']; exact had, fun j v hj => hrow j v (by rw [hrow'] at hj; exact hj)⟩
      · intro H' w' hadv hpd j v hj
        obtain ⟨ad', h1, h2⟩ := hpd _ (List.mem_singleton.2 rfl)
        rw [hs', had] at h1
        cases h1
        exact (hadv.elim (·.vis) (·.2)).cell (h2 j v (by rw [hrow']; exact hj))
  · exact hden.elim
end
end Go.Proofs.YtlnmmakbgldflaaGreatDoor.Vc
