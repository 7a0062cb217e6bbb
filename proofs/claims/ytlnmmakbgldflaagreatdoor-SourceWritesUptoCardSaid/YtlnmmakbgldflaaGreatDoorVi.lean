/-
  THE SYMBOLIC EXECUTOR IS RIGHT, part 5: a region whose order is that of the text.
-/
import Derived.Test.YtlnmmakbgldflaaGreatDoorVh
set_option linter.unusedSimpArgs false
set_option linter.unusedVariables false
set_option maxRecDepth 100000
namespace Go.Proofs.YtlnmmakbgldflaaGreatDoor.Vc
open Go

section
variable {P : Program} {D : Prot} {H0 : PH} {w0 : World} {st : St} {E : List Value} {r : Nat → Nat} {H : PH} {a : Act} {w : World} {X : List PanicEntry → PH → Prop} {L : LK}

theorem chksL_den {α : Type} {g : Guard} {k : Fm α} {K : α → List Value → PH → LK → Prop} : ∀ {cks : List Chk}, den P X (chksL g cks k) E H L K →
    (∀ c ∈ cks, c.noBox = true ∧ (Guard.holds E r g → c.holds E)) ∧ den P X k E H L K
  | [], h => ⟨(fun c hc => by cases hc), h⟩
  | c :: cks, h => by
    simp only [chksL] at h
    split at h
    · rename_i hc
      obtain ⟨h1, h2⟩ := h
      obtain ⟨i1, i2⟩ := chksL_den h2
      refine ⟨fun d hd => ?_, i2⟩
      rcases List.mem_cons.1 hd with rfl | hd
      · refine ⟨hc.1, fun hg => h1 fun x hx => ?_⟩
        have := hg x hx
        rwa [ev_noBox r (fun _ => 0) _ (List.all_eq_true.1 hc.2 x hx)] at this
      · exact i1 d hd
    · exact h.elim

theorem yielded_of {ops : Array Oper} {j d : Nat} {e : Ent} (hR : Rel D H0 w0 st E r H a w) (hd : (ops[j]?).bind (·.dst) = some d) (he : st.fr[d]? = some e) :
    yielded ops a.tmps j = match a.tmps.getD d undef with
      | .bool b => some b
      | _ => none := by
  have hlt : d < a.tmps.size := by
    rw [hR.size]
    rcases Nat.lt_or_ge d st.fr.length with h | h
    · exact h
    · simp [List.getElem?_eq_none h] at he
  unfold yielded
  rw [hd]
  simp [hlt]
  cases a.tmps[d] <;> rfl

theorem guardOf_ctx (hR : Rel D H0 w0 st E r H a w) {ops : Array Oper} {o : Oper} {G : Guard} (h : guardOf ops st o = .ctx G) :
    (Guard.holds E r G → Region.wanted o (yielded ops a.tmps) = true) ∧ (¬ Guard.holds E r G → Region.wanted o (yielded ops a.tmps) = false) := by
  unfold guardOf at h
  split at h
  · rename_i hn
    cases h
    refine ⟨fun _ => by simp [Region.wanted, hn], fun h => absurd (fun x hx => by cases hx) h⟩
  · rename_i j want hj
    split at h
    · cases h
    · rename_i d hd
      split at h
      · cases h
      · rename_i e he
        split at h
        · split at h <;> cases h
        · rename_i hcon
          have hy := yielded_of hR hd he
          have hw : Region.wanted o (yielded ops a.tmps) = (yielded ops a.tmps j == some want) := by simp [Region.wanted, hj]
          -- the guards that are left against the entry's own
          have hleft : Guard.holds E r (e.g.filter fun x => !hasG st.as x) ↔ Guard.holds E r e.g := by
            constructor
            · intro hh x hx
              by_cases hx' : hasG st.as x = true
              · exact hR.as.holds x (hasG_mem hx')
              · exact hh x (List.mem_filter.2 ⟨hx, by simpa using hx'⟩)
            · intro hh x hx; exact hh x (List.mem_filter.1 hx).1
          simp only at h
          split at h
          · rename_i s hs
            have hfr := hR.fr d e he (by rw [hs]; intro h; cases h)
            have hlit := litOf_ev (s := s) hR.as
            split at h
            · rename_i b hb
              rw [hb] at hlit
              have hev : ev E r s = .bool b := hlit.symm
              split at h
              · rename_i hbw
                cases h
                refine ⟨fun hG => ?_, fun hG => ?_⟩
                · have := hfr.1 (hleft.1 hG)
                  rw [hs] at this
                  rw [hw, hy, this]
                  simp [evV, hev, hbw]
                · have := hfr.2 (fun h => hG (hleft.2 h))
                  rw [hw, hy, this]
                  simp [undef]
              · cases h
            · rename_i c hc
              split at h
              · rename_i ht
                cases h
                have hb := ok_bool (tag_ev hR ht)
                rw [hlit] at hb
                refine ⟨fun hG => ?_, fun hG => ?_⟩
                · have h1 := hfr.1 (hleft.1 fun x hx => hG x (List.mem_append.2 (.inl hx)))
                  have h2 : bOf (ev E r (litOf st.as s)) = want := hG _ (List.mem_append.2 (.inr (List.mem_singleton.2 rfl)))
                  rw [hlit] at h2
                  rw [hs] at h1
                  rw [hw, hy, h1]
                  simp only [evV]
                  rw [hb, h2]
                  simp
                · rw [hw, hy]
                  by_cases hg : Guard.holds E r e.g
                  · have h1 := hfr.1 hg
                    rw [hs] at h1
                    have h2 : bOf (ev E r s) ≠ want := fun h2 => hG (Guard.append (hleft.2 hg) (fun x hx => by
                      rw [List.mem_singleton.1 hx]; show bOf (ev E r (litOf st.as s)) = want; rw [hlit]; exact h2))
                    rw [h1]
                    simp only [evV]
                    rw [hb]
                    simpa using h2
                  · rw [hfr.2 hg]; simp [undef]
              · cases h
          · cases h
          · cases h

theorem guardOf_never (hR : Rel D H0 w0 st E r H a w) {ops : Array Oper} {o : Oper} (h : guardOf ops st o = .never) : Region.wanted o (yielded ops a.tmps) = false := by
  unfold guardOf at h
  split at h
  · cases h
  · rename_i j want hj
    split at h
    · cases h
    · rename_i d hd
      split at h
      · cases h
      · rename_i e he
        have hy := yielded_of hR hd he
        have hw : Region.wanted o (yielded ops a.tmps) = (yielded ops a.tmps j == some want) := by simp [Region.wanted, hj]
        split at h
        · rename_i hcon
          obtain ⟨x, hx, hxa⟩ := List.any_eq_true.1 hcon
          split at h
          · cases h
          · rename_i hnj
            have hng : ¬ Guard.holds E r e.g := fun hh => by
              have h1 := hh x hx
              have h2 : ev E r x.1 = .bool (!x.2) := hR.as _ (hasG_mem hxa)
              rw [h2] at h1
              simp [bOf] at h1
            have := (hR.fr d e he (fun h => hnj h)).2 hng
            rw [hw, hy, this]; simp [undef]
        · simp only at h
          split at h
          · rename_i s hs
            have hfr := hR.fr d e he (by rw [hs]; intro h; cases h)
            have hlit := litOf_ev (s := s) hR.as
            split at h
            · rename_i b hb
              rw [hb] at hlit
              have hev : ev E r s = .bool b := hlit.symm
              split at h
              · cases h
              · rename_i hbw
                rw [hw, hy]
                by_cases hg : Guard.holds E r e.g
                · have h1 := hfr.1 hg
                  rw [hs] at h1
                  rw [h1]
                  simpa [evV, hev] using hbw
                · rw [hfr.2 hg]; simp [undef]
            · split at h <;> cases h
          · rename_i hs
            have hfr := hR.fr d e he (by rw [hs]; intro h; cases h)
            rw [hw, hy]
            by_cases hg : Guard.holds E r e.g
            · rw [hfr.1 hg, hs]; simp [evV]
            · rw [hfr.2 hg]; simp [undef]
          · cases h

theorem regionL_sound {pub : List Nat} {ops : Array Oper} {Q : Exit → Act → World → Prop} : ∀ (n : Nat) (rest : List Oper), (∀ o ∈ rest, D.may o) → ∀ (st : St) (E : List Value) (r : Nat → Nat) (H : PH) (a : Act) (w : World) (K : St → List Value → PH → LK → Prop),
    Rel D H0 w0 st E r H a w → den P X (regionL P pub ops n rest st) E H L K →
    (∀ st' F r' H' a' w', st'.nl = st.nl → Rel D H0 w0 st' (E ++ F) r' H' a' w' → K st' (E ++ F) H' L → Q .normal a' w') →
    (∀ ch a' w', PanOf H0 w0 X ch w' → D.ok a' → Q (.panic ch) a' w') → wpList P ops Q rest a w := by
  intro n
  induction n with
  | zero => intro rest _ st E r H a w K hR hden; cases rest <;> exact hden.elim
  | succ n ih =>
    intro rest hm st E r H a w K hR hden hK hX
    cases rest with
    | nil =>
      have hden' : K st E H L := hden
      exact hK st [] r H a w rfl (by rw [List.append_nil]; exact hR) (by rw [List.append_nil]; exact hden')
    | cons o rest =>
      have hmo : D.may o := hm o (List.mem_cons_self ..)
      have hmr : ∀ o' ∈ rest, D.may o' := fun o' h => hm o' (List.mem_cons_of_mem _ h)
      simp only [regionL] at hden
      have hnl : ∀ (s : St) (d : Option Nat) (e : Ent), (s.set d e).nl = s.nl := fun s d e => by cases d <;> rfl
      split at hden
      · exact hden.elim
      · rename_i hg
        have hw := guardOf_never hR hg
        unfold wpList
        rw [hw]
        refine ih rest hmr _ E r H _ w K (hR.put o.dst [] (.tu []) undef (fun _ => rfl) (fun _ => rfl) hmo) hden ?_ hX
        intro st' F r' H' a' w' h1 h2 h3
        exact hK st' F r' H' a' w' (h1.trans (hnl _ _ _)) h2 h3
      · rename_i G hg
        have hw := guardOf_ctx hR hg
        split at hden
        · rename_i cks v hl
          obtain ⟨hc, hk⟩ := chksL_den (r := r) hden
          have hnl2 : (learn (st.set o.dst ⟨G, v⟩) G cks).nl = st.nl := by
            unfold learn; split <;> exact hnl _ _ _
          unfold wpList
          by_cases hG : Guard.holds E r G
          · have hck : ∀ c ∈ cks, c.noBox = true ∧ c.holds E := fun c hc' => ⟨(hc c hc').1, (hc c hc').2 hG⟩
            rw [hw.1 hG]
            refine .inl ?_
            have hrun := lightL_sound hR hG hl hck o.dst o.type o.pos o.after o.guard
            unfold Oper.wp
            rw [hrun]
            show wpList P ops Q rest (a.put o.dst (evV E r v)) w
            refine ih rest hmr _ E r H _ w K ((hR.put o.dst G v _ (fun _ => rfl) (fun h => absurd hG h) hmo).learn (fun _ => hck)) hk ?_ hX
            intro st' F r' H' a' w' h1 h2 h3
            exact hK st' F r' H' a' w' (h1.trans hnl2) h2 h3
          · rw [hw.2 hG]
            refine ih rest hmr _ E r H _ w K ((hR.put o.dst G v undef (fun h => absurd h hG) (fun _ => rfl) hmo).learn (fun h => absurd (by subst h; exact fun x hx => by cases hx) hG)) hk ?_ hX
            intro st' F r' H' a' w' h1 h2 h3
            exact hK st' F r' H' a' w' (h1.trans hnl2) h2 h3
        · split at hden
          · split at hden
            · rename_i hu
              rw [den_bind] at hden
              have hG : Guard.holds E r ([] : Guard) := fun x hx => by cases hx
              unfold wpList
              rw [hw.1 hG]
              refine .inl ?_
              have hh := heavyL_sound (pend := []) hR hu (fun x hx => by cases hx) hmo hden
              refine hh (wpList P ops Q rest) Q a rfl ?_ ?_
              · rintro v w' ⟨st', F, r', H', h1, h2, _, h4⟩
                refine ih rest hmr st' (E ++ F) r' H' _ w' K h2 h4 ?_ hX
                intro st'' F' r'' H'' a'' w'' g1 g2 g3
                rw [List.append_assoc] at g2 g3
                exact hK st'' (F ++ F') r'' H'' a'' w'' (g1.trans h1) g2 g3
              · intro ch w' hp
                exact hX ch a w' hp hR.df
            · exact hden.elim
          · rename_i c _ _ _
            split at hden
            · rename_i hc
              have hb := ok_bool (tag_ev hR hc.2)
              have hb0 : bOf (ev0 E c) = bOf (ev E r c) := by rw [ev_ev0 hc.1]
              cases hbb : bOf (ev E r c) with
              | true =>
                rw [hbb] at hb hb0
                exact ih (o :: rest) hm _ E r H a w K (hR.assume hb) (hden.1 hb0) hK hX
              | false =>
                rw [hbb] at hb hb0
                exact ih (o :: rest) hm _ E r H a w K (hR.assume hb) (hden.2 hb0) hK hX
            · exact hden.elim

end
end Go.Proofs.YtlnmmakbgldflaaGreatDoor.Vc
