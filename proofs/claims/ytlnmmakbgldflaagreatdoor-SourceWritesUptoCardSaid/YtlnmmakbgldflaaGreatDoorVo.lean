/-
  THE SYMBOLIC EXECUTOR IS RIGHT, part 10: a region whose order is drawn, and the whole.
-/
import Derived.Test.YtlnmmakbgldflaaGreatDoorVn
set_option linter.unusedSimpArgs false
set_option linter.unusedVariables false
set_option maxRecDepth 100000
namespace Go.Proofs.YtlnmmakbgldflaaGreatDoor.Vc
open Go

section
variable {P : Program} {D : Prot} {H0 : PH} {w0 : World} {X : List PanicEntry → PH → Prop} {L : LK} {ops : Array Oper} {anc : List Nat} {N : Act → World → Prop}

def QX (D : Prot) (H0 : PH) (w0 : World) (X : List PanicEntry → PH → Prop) (N : Act → World → Prop) : Exit → Act → World → Prop
  | .normal, a, w => N a w
  | .panic ch, a, w => PanOf H0 w0 X ch w ∧ D.ok a
  | _, _, _ => False
theorem QX.put {o : Oper} {v : Value} (hw : D.may o) (c : List PanicEntry) (a : Act) (w : World) (h : QX D H0 w0 X N (.panic c) (a.put o.dst v) w) : QX D H0 w0 X N (.panic c) a w := by
  obtain ⟨h1, h2⟩ := h
  refine ⟨h1, ?_⟩
  cases hd : o.dst with
  | none => rw [hd] at h2; exact h2
  | some d => rw [hd] at h2; exact D.back a d v (hw d hd) h2

theorem mem_readyL {done : List Nat} {i : Nat} (h : i ∈ readyL ops done) : i < ops.size ∧ i ∉ done := by
  unfold readyL at h
  obtain ⟨h1, h2⟩ := List.mem_filter.1 h
  simp only [Bool.and_eq_true, Bool.not_eq_true', List.contains_eq_mem, decide_eq_false_iff_not] at h2
  exact ⟨List.mem_range.1 h1, h2.1⟩

theorem ahead_case (ha : ancOk ops anc = true) (hns : Region.noSelect ops = true) {E : List Value} {H : PH} {a : Act} {w : World} {S : Up → World → Prop} {done : List Nat} {HL : List HE} {listed : Array Bool} {f i : Nat} {o : Oper} {φ : World → Prop} {v : Value}
    (hU : UpIs ops listed done) (him : i ∈ readyL ops done) (hw0 : D.may o) (ho : ops[i]? = some o) (hfree : freeL ops anc done i o = true) (hy : YieldsIf P ops φ o v a) (hφ : φ w) (hS : Asks anc S done HL) (hHL : ∀ x ∈ HL, HOk E H w x)
    (hk : wpAnyJ P .any ops (QX D H0 w0 X N) (held S i (waitersOf ops anc i) φ) f (listed.setIfInBounds i true) (a.put o.dst v) w) : wpAnyJ P .any ops (QX D H0 w0 X N) S (f + 1) listed a w := by
  obtain ⟨hlt, hnd⟩ := mem_readyL him
  simp only [freeL, Bool.and_eq_true] at hfree
  refine wpAnyJ_first ho (Region.noSelect_spec hns) (QX.put hw0) (waiters_edge ha) f listed a w ?_ ?_ (by rw [hU.ready]; exact him) hy hφ ?_ hk
  · intro j oj hj hne hun hW
    have hjl : j < ops.size := (Array.getElem?_eq_some_iff.1 hj).1
    have h2 := List.all_eq_true.1 hfree.2 j (List.mem_range.2 hjl)
    rw [hU.getT hjl] at hun
    have hw : waits anc i j = false := by
      cases hc : waits anc i j with
      | false => rfl
      | true => exact absurd ((mem_waiters ha).2 hc) hW
    rw [hj, hun, hw] at h2
    simpa [hne] using h2
  · intro k hk
    rw [hU.up]
    cases hc : done.contains k with
    | false => rfl
    | true =>
      have h1 := List.all_eq_true.1 hfree.1 k (by simpa using hc)
      rw [(mem_waiters ha).1 hk] at h1
      cases h1
  · exact hS.here hnd (hU.step hlt).up fun x hx _ => (hHL x hx).now

theorem bothL_den {E : List Value} {H : PH} {K : St → List Value → PH → LK → Prop} : ∀ {l : List (Fm St)} {a : Fm St}, den P X (bothL a l) E H L K → ∀ b ∈ a :: l, den P X b E H L K
  | [], a, h, b, hb => by rw [List.mem_singleton.1 hb]; exact h
  | c :: l, a, h, b, hb => by
    obtain ⟨h1, h2⟩ := h
    rcases List.mem_cons.1 hb with rfl | hb
    · exact h1
    · exact bothL_den h2 b hb

theorem set_nl (s : St) (d : Option Nat) (e : Ent) : (s.set d e).nl = s.nl := by cases d <;> rfl
theorem learn_nl (s : St) (d : Option Nat) (e : Ent) (G : Guard) (cks : List Chk) : (learn (s.set d e) G cks).nl = s.nl := by unfold learn; split <;> exact set_nl _ _ _

theorem drawL_sound (hmay : ∀ (i : Nat) (o : Oper), ops[i]? = some o → D.may o) (ha : ancOk ops anc = true) (hns : Region.noSelect ops = true) {pub : List Nat} {K : St → List Value → PH → LK → Prop} :
    ∀ (n : Nat) (done : List Nat) (hold : List Hold) (st : St) (E : List Value) (r : Nat → Nat) (H : PH) (a : Act) (w : World) (S : Up → World → Prop) (HL : List HE) (listed : Array Bool) (fuel : Nat),
      UpIs ops listed done → fuel + done.length = ops.size → HL.map (·.1) = hold → (∀ x ∈ HL, HOk E H w x) → Asks anc S done HL → Rel D H0 w0 st E r H a w →
      den P X (drawL P pub ops anc n done hold st) E H L K →
      (∀ st' F r' H' a' w', st'.nl = st.nl → Rel D H0 w0 st' (E ++ F) r' H' a' w' → K st' (E ++ F) H' L → N a' w') →
      wpAnyJ P .any ops (QX D H0 w0 X N) S fuel listed a w := by
  intro n
  induction n with
  | zero => intro done hold st E r H a w S HL listed fuel _ _ _ _ _ _ hden; exact hden.elim
  | succ n ih =>
    intro done hold st E r H a w S HL listed fuel hU hfl hHL hHO hS hR hden hK
    have hrdy := hU.ready
    simp only [drawL] at hden
    cases hrd : readyL ops done with
    | nil =>
      rw [hrd] at hden
      exact wpAnyJ_done (hrdy.trans hrd) (hK st [] r H a w rfl (by rw [List.append_nil]; exact hR) (by rw [List.append_nil]; exact hden)) _
    | cons i0 l0 =>
      rw [hrd] at hden
      simp only at hden
      split at hden
      case isFalse => exact hden.elim
      rename_i hlt
      obtain ⟨f, rfl⟩ : ∃ f, fuel = f + 1 := ⟨fuel - 1, by omega⟩
      have hfl' : ∀ i, f + (i :: done).length = ops.size := fun i => by simp only [List.length_cons]; omega
      split at hden
      · rename_i i hfind
        have him : i ∈ readyL ops done := by rw [hrd]; exact List.mem_of_find?_eq_some hfind
        obtain ⟨hil, hnd⟩ := mem_readyL him
        have hat := List.find?_some hfind
        split at hden
        case h_2 => exact hden.elim
        rename_i o ho
        simp only [aheadAt, ho, Bool.and_eq_true] at hat
        have hfree := hat.2
        obtain ⟨k1, k2, k3⟩ := aheadK_spec (P := P) (ops := ops) (st := st) (o := o)
        unfold drawAhead at hden
        split at hden
        · rename_i hk
          refine ahead_case ha hns hU him (hmay _ _ ho) ho hfree (v := undef) (φ := fun _ => True) (.inr ⟨guardOf_never hR (k1 hk), rfl⟩) trivial hS hHO ?_
          refine ih (i :: done) hold _ E r H _ w _ HL _ f (hU.step hil) (hfl' i) hHL hHO ((hS.held ha hnd [] _).drop fun _ => trivial) (hR.put o.dst [] (.tu []) undef (fun _ => rfl) (fun _ => rfl) (hmay _ _ ho)) hden ?_
          intro st' F r' H' a' w' h1 h2 h3
          exact hK st' F r' H' a' w' (h1.trans (set_nl _ _ _)) h2 h3
        · rename_i G cks v hk
          obtain ⟨hg, hl⟩ := k2 _ _ _ hk
          obtain ⟨hc, hd⟩ := chksL_den (r := r) hden
          obtain ⟨u, hy, hR'⟩ := light_yields hR (hmay _ _ ho) hg hl hc
          refine ahead_case ha hns hU him (hmay _ _ ho) ho hfree hy (fun _ => boxes_now hR) hS hHO ?_
          have hK' : ∀ st' F r' H' a' w', st'.nl = (learn (st.set o.dst ⟨G, v⟩) G cks).nl → Rel D H0 w0 st' (E ++ F) r' H' a' w' → K st' (E ++ F) H' L → N a' w' :=
            fun st' F r' H' a' w' h1 h2 h3 => hK st' F r' H' a' w' (h1.trans (learn_nl _ _ _ _ _)) h2 h3
          cases hil' : isLoad o with
          | true =>
            rw [hil'] at hd
            refine ih (i :: done) _ _ E r H _ w _ (((i, []), lightφ st E r o) :: HL) _ f (hU.step hil) (hfl' i) (by rw [List.map_cons, hHL]; rfl) ?_ (hS.held ha hnd [] _) hR' hd hK'
            intro x hx
            rcases List.mem_cons.1 hx with rfl | hx
            · exact ⟨(fun x hx => by cases hx), fun _ => boxes_now hR, fun H' w' hadv _ _ => boxes_stab hR (hadv.resolve_right fun h => h.1 rfl)⟩
            · exact hHO x hx
          | false =>
            rw [hil'] at hd
            exact ih (i :: done) hold _ E r H _ w _ HL _ f (hU.step hil) (hfl' i) hHL hHO ((hS.held ha hnd [] _).drop fun _ h => by rw [hil'] at h; cases h) hR' hd hK'
        · rename_i T s hk
          obtain ⟨hg, p, hop, hs, hsu⟩ := k3 _ _ hk
          split at hden
          case isFalse => exact hden.elim
          rename_i hu
          rw [den_bind] at hden
          obtain ⟨vs, st', φ, e1, hy, hR', hd, hO⟩ := load_yields hR hu.1 (hmay _ _ ho) hop hs hsu hg hden
          refine ahead_case ha hns hU him (hmay _ _ ho) ho hfree hy hO.now hS hHO ?_
          refine ih (i :: done) _ st' (E ++ vs) r H _ w _ (((i, [(s, atomsFrom st.tags.length (tagsOfT P 12 T))]), φ) :: HL) _ f (hU.step hil) (hfl' i) (by rw [List.map_cons, hHL]) ?_ (hS.held ha hnd _ _) hR' hd ?_
          · intro x hx
            rcases List.mem_cons.1 hx with rfl | hx
            · exact ⟨hO.pend, hO.now, hO.stab⟩
            · have hpu : pendU E.length x.1.2 = true := by
                rw [← tagsOk_length hR.tags]
                exact List.all_eq_true.1 hu.2 x.1 (by rw [← hHL]; exact List.mem_map.2 ⟨x, hx, rfl⟩)
              have := hHO x hx
              exact ⟨(pendOk_ext hpu).2 this.pend, this.now, fun H' w' h1 h2 => this.stab H' w' h1 ((pendOk_ext hpu).1 h2)⟩
          · intro st'' F r' H' a' w' h1 h2 h3
            rw [List.append_assoc] at h2 h3
            exact hK st'' (vs ++ F) r' H' a' w' (h1.trans e1) h2 h3
        · exact hden.elim
      · split at hden
        · rename_i c _
          split at hden
          · rename_i hc
            have hb := ok_bool (tag_ev hR hc.2)
            have hb0 : bOf (ev0 E c) = bOf (ev E r c) := by rw [ev_ev0 hc.1]
            cases hbb : bOf (ev E r c) with
            | true =>
              rw [hbb] at hb hb0
              exact ih done hold _ E r H a w S HL listed (f + 1) hU hfl hHL hHO hS (hR.assume hb) (hden.1 hb0) hK
            | false =>
              rw [hbb] at hb hb0
              exact ih done hold _ E r H a w S HL listed (f + 1) hU hfl hHL hHO hS (hR.assume hb) (hden.2 hb0) hK
          · exact hden.elim
        · refine ⟨fun h => (by rw [hrdy, hrd] at h; cases h), fun i hi => ?_⟩
          have him : i ∈ readyL ops done := by rw [← hrdy]; exact hi
          obtain ⟨hil, hnd⟩ := mem_readyL him
          have hd1 : den P X (drawStep P pub ops anc (drawL P pub ops anc n) done hold st i) E H L K := by
            refine bothL_den hden _ ?_
            rw [← List.map_cons (f := drawStep P pub ops anc (drawL P pub ops anc n) done hold st), ← hrd]
            exact List.mem_map.2 ⟨i, him, rfl⟩
          unfold drawStep at hd1
          split at hd1
          · exact hd1.elim
          rename_i o ho
          obtain ⟨k1, k2, k3⟩ := aheadK_spec (P := P) (ops := ops) (st := st) (o := o)
          have hSn : S (upOf (listed.setIfInBounds i true)) w := hS.here hnd (hU.step hil).up fun x hx _ => (hHO x hx).now
          split at hd1
          · rename_i hk
            refine YieldsIf.wpOp (S := fun _ => True) (v := undef) ho (.inr ⟨guardOf_never hR (k1 hk), rfl⟩) trivial ⟨hSn, ?_⟩
            refine ih (i :: done) hold _ E r H _ w S HL _ f (hU.step hil) (hfl' i) hHL hHO (hS.step hnd fun x hx _ => hx) (hR.put o.dst [] (.tu []) undef (fun _ => rfl) (fun _ => rfl) (hmay _ _ ho)) hd1 ?_
            intro st' F r' H' a' w' h1 h2 h3
            exact hK st' F r' H' a' w' (h1.trans (set_nl _ _ _)) h2 h3
          · rename_i G cks v hk
            obtain ⟨hg, hl⟩ := k2 _ _ _ hk
            obtain ⟨hc, hd⟩ := chksL_den (r := r) hd1
            obtain ⟨u, hy, hR'⟩ := light_yields hR (hmay _ _ ho) hg hl hc
            refine YieldsIf.wpOp ho hy (fun _ => boxes_now hR) ⟨hSn, ?_⟩
            refine ih (i :: done) hold _ E r H _ w S HL _ f (hU.step hil) (hfl' i) hHL hHO (hS.step hnd fun x hx _ => hx) hR' hd ?_
            intro st' F r' H' a' w' h1 h2 h3
            exact hK st' F r' H' a' w' (h1.trans (learn_nl _ _ _ _ _)) h2 h3
          · split at hd1
            · rename_i hg
              split at hd1
              case isFalse => exact hd1.elim
              rename_i hu
              rw [den_bind] at hd1
              have hG : Guard.holds E r ([] : Guard) := fun x hx => by cases hx
              have hw := (guardOf_ctx hR hg).1 hG
              have hpd : pendOk E H (pendFor anc hold i) := by
                intro x hx
                obtain ⟨h, hh, hxh⟩ := List.mem_flatMap.1 hx
                have hh' := (List.mem_filter.1 hh).1
                rw [← hHL] at hh'
                obtain ⟨y, hy, rfl⟩ := List.mem_map.1 hh'
                exact (hHO y hy).pend x hxh
              -- what is held is held behind it
              have hpu0 : ∀ x ∈ HL, waits anc x.1.1 i = false → (boxStore st o = false ∨ x.1.2 ≠ []) ∧ pendU E.length x.1.2 = true := by
                intro x hx hwx
                have := List.all_eq_true.1 hu.2 x.1 (by rw [← hHL]; exact List.mem_map.2 ⟨x, hx, rfl⟩)
                rw [hwx] at this
                simp only [Bool.false_or, Bool.and_eq_true, Bool.not_eq_true', Bool.or_eq_true] at this
                rw [← tagsOk_length hR.tags]
                refine ⟨this.1.imp id fun h e => ?_, this.2⟩
                rw [e] at h
                exact absurd h (by simp)
              have hh : HeavyOk P o a w (fun v w' => ∃ st' F r' H', st'.nl = st.nl ∧ Rel D H0 w0 st' (E ++ F) r' H' (a.put o.dst v) w' ∧ (∀ x ∈ HL, waits anc x.1.1 i = false → pendOk E H' x.1.2 ∧ (Adv H w H' w' ∨ (x.1.2 ≠ [] ∧ Vis H' w'))) ∧ den P X (drawL P pub ops anc n (i :: done) (hold.filter fun h => !waits anc h.1 i) st') (E ++ F) H' L K) (PanOf H0 w0 X) := by
                cases hbs : boxStore st o with
                | true =>
                  refine (heavyB_sound hR hbs hd1).mono (fun v w' ⟨st', r', h1, h2, h3⟩ => ⟨st', [], r', H, h1, by rw [List.append_nil]; exact h2, fun x hx hwx => ⟨(hHO x hx).pend, ?_⟩, by rw [List.append_nil]; exact h3⟩) fun _ _ h => h
                  rcases (hpu0 x hx hwx).1 with h | h
                  · rw [hbs] at h; cases h
                  · exact .inr ⟨h, h2.vis⟩
                | false =>
                  refine (heavyL_sound (pend := pendFor anc hold i) hR hu.1 hpd (hmay _ _ ho) hd1).mono (fun v w' ⟨st', F, r', H', h1, h2, h3, h4⟩ => ⟨st', F, r', H', h1, h2, fun x hx hwx => ?_, h4⟩) fun _ _ h => h
                  obtain ⟨h5, h6⟩ := h3 hbs
                  refine ⟨fun y hy => h5 y ?_, .inl h6⟩
                  refine List.mem_flatMap.2 ⟨x.1, List.mem_filter.2 ⟨?_, by simp [hwx]⟩, hy⟩
                  rw [← hHL]; exact List.mem_map.2 ⟨x, hx, rfl⟩
              unfold wpOp
              rw [ho]
              simp only [hw, if_true]
              refine .inl (hh _ _ a rfl ?_ ?_)
              · rintro v w' ⟨st', F, r', H', h1, h2, hpx, h4⟩
                have hst := hpu0
                have hnow : ∀ x ∈ HL, waits anc x.1.1 i = false → x.2 w' := fun x hx hwx => (hHO x hx).stab H' w' (hpx x hx hwx).2 (hpx x hx hwx).1
                refine ⟨hS.here hnd (hU.step hil).up hnow, ?_⟩
                refine ih (i :: done) _ st' (E ++ F) r' H' _ w' S (HL.filter fun x => !waits anc x.1.1 i) _ f (hU.step hil) (hfl' i) ?_ ?_ (hS.step hnd fun x hx hwx => List.mem_filter.2 ⟨hx, by simp [hwx]⟩) h2 h4 ?_
                · rw [← hHL, List.filter_map]; rfl
                · intro x hx
                  obtain ⟨hx, hwx⟩ := List.mem_filter.1 hx
                  simp only [Bool.not_eq_true'] at hwx
                  obtain ⟨p1, p2⟩ := hpx x hx hwx
                  have hpu := (hst x hx hwx).2
                  exact ⟨(pendOk_ext hpu).2 p1, hnow x hx hwx, fun H'' w'' g1 g2 => (hHO x hx).stab H'' w'' (p2.elim (fun p => g1.elim (fun g => .inl (p.trans g)) .inr) fun p => .inr ⟨p.1, g1.elim (·.vis) (·.2)⟩) ((pendOk_ext hpu).1 g2)⟩
                · intro st'' F' r'' H'' a'' w'' g1 g2 g3
                  rw [List.append_assoc] at g2 g3
                  exact hK st'' (F ++ F') r'' H'' a'' w'' (g1.trans h1) g2 g3
              · intro ch w' hp
                exact ⟨hp, hR.df⟩
            · exact hd1.elim
end

/-- A REGION WHOSE ORDER IS DRAWN does what its formula says. -/
theorem drawSound (P : Program) (pub : List Nat) : DrawSound P pub := by
  intro D H0 w0 X L id ops hmay st E r H a w K Q hm hR hden hK hX
  unfold drawR at hden
  simp only at hden
  split at hden
  · rename_i hc
    refine wp_mono (Q := QX D H0 w0 X (Q .normal)) (wp_region_J (S := fun _ _ => True) hm ?_) ?_
    · have hR' : Rel D H0 w0 st E r H a { w with drawn := w.drawn + 1 } :=
        { hR with adv := ⟨hR.adv.size, hR.adv.vis, hR.adv.old, hR.adv.os, hR.adv.tape, hR.adv.out⟩, bx := hR.bx }
      refine drawL_sound (fun i o ho => hmay o (Array.mem_toList_iff.2 (Array.mem_of_getElem? ho))) hc.1 hc.2 400 [] [] st E r H a _ _ [] _ ops.size ⟨by simp, fun k => ?_⟩ (by simp) rfl (fun x hx => by cases hx) (fun _ _ _ _ => trivial) hR' hden hK
      unfold upOf
      by_cases h : k < ops.size <;> simp [h]
    · intro e a' w' h
      cases e with
      | normal => exact h
      | panic ch => exact hX ch a' w' h.1 h.2
      | _ => exact h.elim
  · exact hden.elim

/-- WHAT A FUNCTION DOES: it does what its formula says. -/
theorem execF_tri {P : Program} {op : Opt} {f : FuncId} {fn : Func} {E : List Value} {args : Array Value} {H : PH} {R : Ending → PH → Prop} (hf : P.funcs[f]? = some fn) (hE : tagsOk ((paramRS P fn).flatMap RS.tags) E = true) (hargs : args.toList = packAll (paramRS P fn) E)
    (hden : den P (fun c H' => R (.panicked c) H') (execF P op fn) E H [] (fun ve E' H' _ => R (.returned (evV E' (fun _ => 0) ve)) H')) : Tri P f args H R :=
  execF_sound (drawSound P op.pub) hf hE hargs hden
end Go.Proofs.YtlnmmakbgldflaaGreatDoor.Vc
