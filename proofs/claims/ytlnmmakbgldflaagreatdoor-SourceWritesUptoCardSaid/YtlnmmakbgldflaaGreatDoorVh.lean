/-
  THE SYMBOLIC EXECUTOR IS RIGHT, part 4: an operation with effect.
-/
import Derived.Test.YtlnmmakbgldflaaGreatDoorVg
set_option linter.unusedSimpArgs false
set_option linter.unusedVariables false
set_option maxRecDepth 100000
namespace Go.Proofs.YtlnmmakbgldflaaGreatDoor.Vc
open Go

theorem fine_of {rs : RS} (h : rs.fineB = true) : rs.fine := by
  cases rs with
  | tu l =>
    intro x hx hb
    have := List.all_eq_true.1 h x hx
    simp only [hb, Bool.false_or, Bool.not_eq_true', List.isEmpty_eq_false_iff] at this
    exact this
  | _ => trivial

/-- What comes of an operation: 'Post' of its value and the world, 'Pan' where it panics; for every frame in which it reads the same. -/
def HeavyOk (P : Program) (o : Oper) (a : Act) (w : World) (Post : Value → World → Prop) (Pan : List PanicEntry → World → Prop) : Prop :=
  ∀ (next : Act → World → Prop) (Q : Exit → Act → World → Prop) (aa : Act), execOp aa.eval o = execOp a.eval o →
    (∀ v w', Post v w' → next (aa.put o.dst v) w') → (∀ ch w', Pan ch w' → Q (.panic ch) aa w') → o.wp P aa w next Q

theorem HeavyOk.value {P : Program} {o : Oper} {a : Act} {w w' : World} {v : Value} {Post : Value → World → Prop} {Pan : List PanicEntry → World → Prop}
    (hr : (execOp a.eval o).run P w = .ok (.value v) w') (h : Post v w') : HeavyOk P o a w Post Pan := by
  intro next Q aa he hn _
  unfold Oper.wp
  rw [he, hr]
  exact hn v w' h
theorem HeavyOk.skip {P : Program} {o : Oper} {a : Act} {w w' : World} {Post : Value → World → Prop} {Pan : List PanicEntry → World → Prop}
    (hr : (execOp a.eval o).run P w = .ok .skip w') (h : Post undef w') : HeavyOk P o a w Post Pan := by
  intro next Q aa he hn _
  unfold Oper.wp
  rw [he, hr]
  exact hn undef w' h
theorem HeavyOk.mono {P : Program} {o : Oper} {a : Act} {w : World} {Post Post' : Value → World → Prop} {Pan Pan' : List PanicEntry → World → Prop}
    (h : HeavyOk P o a w Post Pan) (h1 : ∀ v w', Post v w' → Post' v w') (h2 : ∀ c w', Pan c w' → Pan' c w') : HeavyOk P o a w Post' Pan' :=
  fun next Q aa he hn hq => h next Q aa he (fun v w' x => hn v w' (h1 v w' x)) (fun c w' x => hq c w' (h2 c w' x))

section
variable {P : Program} {D : Prot} {H0 : PH} {w0 : World} {st : St} {E : List Value} {r : Nat → Nat} {H : PH} {a : Act} {w : World} {X : List PanicEntry → PH → Prop} {L : LK} {K : St → List Value → PH → LK → Prop}

def PostOf (D : Prot) (H0 : PH) (w0 : World) (st : St) (E : List Value) (H : PH) (w : World) (a : Act) (o : Oper) (pend : List (SV × List SV)) (L : LK) (K : St → List Value → PH → LK → Prop) (v : Value) (w' : World) : Prop :=
  ∃ st' F r' H', st'.nl = st.nl ∧ Rel D H0 w0 st' (E ++ F) r' H' (a.put o.dst v) w' ∧ (boxStore st o = false → pendOk E H' pend ∧ Adv H w H' w') ∧ K st' (E ++ F) H' L
def PanOf (H0 : PH) (w0 : World) (X : List PanicEntry → PH → Prop) (c : List PanicEntry) (w' : World) : Prop := ∃ H', Adv H0 w0 H' w' ∧ X c H'

theorem adv_push (hv : Vis H w) (o : Obj) : Adv H w H (w.alloc o) := by
  refine ⟨by simp, ?_, ?_, rfl, rfl, rfl⟩
  · intro k x hk
    rw [Go.RowKit.Below.heap_alloc _ _ _ (hv.lt hk)]; exact hv k x hk
  · intro k hk hn
    exact ⟨Go.RowKit.Below.heap_alloc _ _ _ hk, hn⟩
theorem adv_new (hv : Vis H w) (o : Obj) : Adv H w (H.upd w.heap.size o) (w.alloc o) := by
  refine ⟨by simp, ?_, ?_, rfl, rfl, rfl⟩
  · intro k x hk
    unfold PH.upd at hk
    by_cases e : k = w.heap.size
    · rw [if_pos e] at hk; subst e
      show (w.heap.push o)[_]? = _
      simpa using hk
    · rw [if_neg e] at hk
      rw [Go.RowKit.Below.heap_alloc _ _ _ (hv.lt hk)]; exact hv k x hk
  · intro k hk hn
    exact ⟨Go.RowKit.Below.heap_alloc _ _ _ hk, by rw [PH.upd_other (by omega)]; exact hn⟩

theorem ev_bxu {r' : Nat → Nat} {m : Nat} (h : ∀ d, d < m → r' d = r d) (s : SV) (hs : s.bxu m = true) : ev E r' s = ev E r s := by
  induction s with
  | box d o => simp only [ev, h d (of_decide_eq_true hs)]
  | ar op k a b iha ihb => simp only [SV.bxu, Bool.and_eq_true] at hs; simp only [ev, iha hs.1, ihb hs.2]
  | cmp op a b iha ihb => simp only [SV.bxu, Bool.and_eq_true] at hs; simp only [ev, iha hs.1, ihb hs.2]
  | scmp op a b iha ihb => simp only [SV.bxu, Bool.and_eq_true] at hs; simp only [ev, iha hs.1, ihb hs.2]
  | beq a b iha ihb => simp only [SV.bxu, Bool.and_eq_true] at hs; simp only [ev, iha hs.1, ihb hs.2]
  | sidx a b iha ihb => simp only [SV.bxu, Bool.and_eq_true] at hs; simp only [ev, iha hs.1, ihb hs.2]
  | cat a b iha ihb => simp only [SV.bxu, Bool.and_eq_true] at hs; simp only [ev, iha hs.1, ihb hs.2]
  | elt a b n iha ihb => simp only [SV.bxu, Bool.and_eq_true] at hs; simp only [ev, iha hs.1, ihb hs.2]
  | pick c a b ihc iha ihb => simp only [SV.bxu, Bool.and_eq_true] at hs; simp only [ev, ihc hs.1.1, iha hs.1.2, ihb hs.2]
  | ssub c a b ihc iha ihb => simp only [SV.bxu, Bool.and_eq_true] at hs; simp only [ev, ihc hs.1.1, iha hs.1.2, ihb hs.2]
  | sls c a b n ihc iha ihb => simp only [SV.bxu, Bool.and_eq_true] at hs; simp only [ev, ihc hs.1.1, iha hs.1.2, ihb hs.2]
  | not a iha => simp only [SV.bxu] at hs; simp only [ev, iha hs]
  | com k a iha => simp only [SV.bxu] at hs; simp only [ev, iha hs]
  | conv k a iha => simp only [SV.bxu] at hs; simp only [ev, iha hs]
  | len a iha => simp only [SV.bxu] at hs; simp only [ev, iha hs]
  | cap a iha => simp only [SV.bxu] at hs; simp only [ev, iha hs]
  | slen a iha => simp only [SV.bxu] at hs; simp only [ev, iha hs]
  | padd a n iha => simp only [SV.bxu] at hs; simp only [ev, iha hs]
  | isnil a iha => simp only [SV.bxu] at hs; simp only [ev, iha hs]
  | _ => rfl
theorem evV_bxu {r' : Nat → Nat} {m : Nat} (h : ∀ d, d < m → r' d = r d) (v : VE) (hv : v.bxu m = true) : evV E r' v = evV E r v := by
  cases v with
  | junk => rfl
  | sc s => exact ev_bxu h s hv
  | ag cs => simp only [evV]; rw [List.map_congr_left fun s hs => ev_bxu h s (List.all_eq_true.1 hv s hs)]
  | tu vs =>
    simp only [evV]
    congr 2
    refine List.map_congr_left fun x hx => ?_
    have hx' : x.2.all (SV.bxu m) = true := List.all_eq_true.1 hv x hx
    unfold partV
    have e1 : x.2.map (ev E r') = x.2.map (ev E r) := List.map_congr_left fun s hs => ev_bxu h s (List.all_eq_true.1 hx' s hs)
    rw [e1]
    cases hc : x.2 with
    | nil => rfl
    | cons s ss =>
      rw [hc] at hx'
      simp only [List.all_cons, Bool.and_eq_true] at hx'
      simp only [List.headD_cons, ev_bxu h s hx'.1]

/-- a new box of the function's own -/
theorem Rel.newBox (hR : Rel D H0 w0 st E r H a w) (hb : st.bxu = true) (T : TypeId) (cs : List SV) (hc : cs.all (SV.bxu st.nb) = true) (d : Option Nat) (hw : ∀ x, d = some x → D.free x = true) :
    Rel D H0 w0 (newBox st d T cs) E (fun x => if x = st.nb then w.heap.size else r x) H (a.put d (.pointer (some ⟨w.heap.size, 0, none⟩))) (w.alloc (.cells (cs.map (ev E r)).toArray T)) := by
  have hsame : ∀ x, x < st.nb → (if x = st.nb then w.heap.size else r x) = r x := fun x hx => if_neg (by omega)
  simp only [St.bxu, Bool.and_eq_true] at hb
  obtain ⟨⟨u1, u2⟩, u3⟩ := hb
  have h1 : Rel D H0 w0 { st with bx := ⟨st.nb, T, cs, d.getD 0⟩ :: st.bx, nb := st.nb + 1 } E (fun x => if x = st.nb then w.heap.size else r x) H a (w.alloc (.cells (cs.map (ev E r)).toArray T)) := by
    refine { adv := hR.adv.trans (adv_push hR.vis _), tags := hR.tags, size := hR.size, df := hR.df, fr := ?_, bx := ?_, inj := ?_, nd := ?_, as := ?_, kn := hR.kn }
    · intro t e he hj
      have hm := List.all_eq_true.1 u1 e (List.mem_of_getElem? he)
      simp only [Bool.and_eq_true] at hm
      have hg : Guard.holds E (fun x => if x = st.nb then w.heap.size else r x) e.g ↔ Guard.holds E r e.g := by
        constructor
        · intro hh x hx; have := hh x hx; rwa [ev_bxu hsame _ (List.all_eq_true.1 hm.2 x hx)] at this
        · intro hh x hx; have := hh x hx; rwa [ev_bxu hsame _ (List.all_eq_true.1 hm.2 x hx)]
      rw [hg, evV_bxu hsame _ hm.1]
      exact hR.fr t e he hj
    · intro b hbm
      rcases List.mem_cons.1 hbm with rfl | hbm
      · refine ⟨?_, ?_, ?_, Nat.lt_succ_self _⟩
        · simp only [if_true]
          show (w.heap.push _)[_]? = _
          rw [List.map_congr_left fun s hs => ev_bxu hsame s (List.all_eq_true.1 hc s hs)]
          simp
        · simp only [if_true]; exact hR.vis.new
        · simp only [if_true]; exact hR.adv.size
      · obtain ⟨x1, x2, x3, x4⟩ := hR.bx b hbm
        have hm := List.all_eq_true.1 u2 b hbm
        have hlt : r b.id < w.heap.size := by
          rcases Nat.lt_or_ge (r b.id) w.heap.size with h | h
          · exact h
          · simp [Array.getElem?_eq_none h] at x1
        simp only [hsame _ x4]
        refine ⟨?_, x2, x3, Nat.lt_succ_of_lt x4⟩
        rw [Go.RowKit.Below.heap_alloc _ _ _ hlt, x1, List.map_congr_left fun s hs => (ev_bxu hsame s (List.all_eq_true.1 hm s hs)).symm]
    · intro b hbm c hcm
      have lt : ∀ b ∈ st.bx, r b.id < w.heap.size ∧ b.id < st.nb := fun b hb => by
        obtain ⟨x1, x2, x3, x4⟩ := hR.bx b hb
        refine ⟨?_, x4⟩
        rcases Nat.lt_or_ge (r b.id) w.heap.size with h | h
        · exact h
        · simp [Array.getElem?_eq_none h] at x1
      rcases List.mem_cons.1 hbm with rfl | hbm <;> rcases List.mem_cons.1 hcm with rfl | hcm
      · intro _; rfl
      · intro h
        simp only [if_true, hsame _ (lt c hcm).2] at h
        have := (lt c hcm).1; omega
      · intro h
        simp only [if_true, hsame _ (lt b hbm).2] at h
        have := (lt b hbm).1; omega
      · intro h
        simp only [hsame _ (lt b hbm).2, hsame _ (lt c hcm).2] at h
        exact hR.inj b hbm c hcm h
    · simp only [List.map_cons, List.nodup_cons]
      refine ⟨?_, hR.nd⟩
      intro hm
      obtain ⟨b, hbm, he⟩ := List.mem_map.1 hm
      have := (hR.bx b hbm).2.2.2
      omega
    · intro x hx
      rw [ev_bxu hsame _ (List.all_eq_true.1 u3 x hx)]; exact hR.as x hx
  have h2 := h1.put d [] (.sc (.box st.nb 0)) (.pointer (some ⟨w.heap.size, 0, none⟩)) (fun _ => by simp [evV, ev]) (fun h => absurd (fun x hx => by cases hx) h) hw
  have e : Vc.newBox st d T cs = ({ st with bx := ⟨st.nb, T, cs, d.getD 0⟩ :: st.bx, nb := st.nb + 1 } : St).set d ⟨[], .sc (.box st.nb 0)⟩ := by
    cases d <;> rfl
  rw [e]; exact h2

theorem pendOk_le {H' : PH} {pend : List (SV × List SV)} (h : pendOk E H pend) (hl : PH.le H H') : pendOk E H' pend := fun x hx => by
  obtain ⟨ad, h1, h2⟩ := h x hx
  exact ⟨ad, h1, fun i v hi => PH.cell_le hl (h2 i v hi)⟩

theorem mkBox_sound (hR : Rel D H0 w0 st E r H a w) (hu : st.under = true) {pub : List Nat} {o : Oper} {T : TypeId} {cs : List SV} {pend : List (SV × List SV)} (hp : pendOk E H pend)
    (hrun : (execOp a.eval o).run P w = .ok (.value (.pointer (some ⟨w.heap.size, 0, none⟩))) (w.alloc (.cells (cs.map (ev E r)).toArray T)))
    (hmy : D.may o) (hden : den P X (mkBox pub st o T cs) E H L K) : HeavyOk P o a w (PostOf D H0 w0 st E H w a o pend L K) (PanOf H0 w0 X) := by
  refine HeavyOk.value hrun ?_
  unfold mkBox at hden
  split at hden
  · split at hden
    · rename_i hnb
      have hcs : cs.map (ev E r) = cs.map (ev0 E) := List.map_congr_left fun s hs => ev_ev0 (List.all_eq_true.1 hnb s hs)
      have hd := hden w.heap.size hR.vis.new
      rw [← hcs] at hd
      have hadv := adv_new hR.vis (.cells (cs.map (ev E r)).toArray T)
      have hR' := (hR.adv' hadv).res hu (rs := .sc .ptr) trivial (vs := [.pointer (some ⟨w.heap.size, 0, none⟩)]) rfl o.dst hmy
      refine ⟨_, [.pointer (some ⟨w.heap.size, 0, none⟩)], _, _, ?_, hR', fun _ => ⟨pendOk_le hp (PH.le_upd hR.vis.new), hadv⟩, hd⟩
      cases o.dst <;> rfl
    · exact hden.elim
  · split at hden
    · rename_i hb
      have hR' := hR.newBox hb.1 T cs hb.2 o.dst hmy
      refine ⟨_, [], _, _, ?_, by simpa using hR', fun _ => ⟨hp, adv_push hR.vis _⟩, by rw [List.append_nil]; exact hden⟩
      cases o.dst <;> rfl
    · exact hden.elim

/-! ### the cells of a box, written -/
theorem run_put {b : Nat} {T : TypeId} : ∀ (vs : List Value) (o i : Nat) (cs : List Value) (w : World), w.heap[b]? = some (.cells cs.toArray T) → o + i + vs.length ≤ cs.length → (∀ v ∈ vs, oneC v = true) →
    ∃ w', (storeCells ⟨b, o, none⟩ vs i).run P w = .ok () w' ∧ w'.heap.size = w.heap.size ∧ w'.os = w.os ∧ w'.tape = w.tape ∧ w'.output = w.output ∧
      ∀ k, w'.heap[k]? = if k = b then some (.cells (cs.take (o + i) ++ vs ++ cs.drop (o + i + vs.length)).toArray T) else w.heap[k]?
  | [], o, i, cs, w, hb, _, _ => by
    refine ⟨w, by simp [storeCells], rfl, rfl, rfl, rfl, fun k => ?_⟩
    by_cases e : k = b
    · subst e; simp [hb]
    · simp [e]
  | v :: vs, o, i, cs, w, hb, hl, h1 => by
    simp only [List.length_cons] at hl
    have hadd : (⟨b, o, none⟩ : Addr).add i = ⟨b, o + i, none⟩ := by
      unfold Addr.add; split
      · simp_all
      · rfl
    have hcell : w.cell? ⟨b, o + i, none⟩ = some (cs[o + i]'(by omega)) := by simp [World.cell?, hb]
    have hfz : w.frozen? ⟨b, o + i, none⟩ = false := by simp [World.frozen?, hb]
    have hst : (store (⟨b, o + i, none⟩ : Addr) v).run P w = .ok () (w.setCell ⟨b, o + i, none⟩ v) := by
      have := h1 v (List.mem_cons_self ..)
      cases v with
      | agg c => exact absurd this Bool.false_ne_true
      | tuple c => exact absurd this Bool.false_ne_true
      | _ => simp [store, Sem.run, hcell, hfz]
    have hb' : (w.setCell ⟨b, o + i, none⟩ v).heap[b]? = some (.cells (cs.set (o + i) v).toArray T) := by
      simp [World.setCell, Array.getElem?_modify, hb]
    obtain ⟨w', x1, x2, x3, x4, x5, x6⟩ := run_put vs o (i + 1) (cs.set (o + i) v) _ hb' (by simp; omega) (fun u hu => h1 u (List.mem_cons_of_mem _ hu))
    refine ⟨w', ?_, ?_, x3, x4, x5, fun k => ?_⟩
    · simp only [storeCells, Sem.run_bind, hadd, hst, Result.andThen_ok, x1]
    · rw [x2]; simp [World.setCell]
    · rw [x6]
      by_cases e : k = b
      · rw [if_pos e, if_pos e]
        congr 3
        rw [← Nat.add_assoc, List.take_succ_eq_append_getElem (by simp; omega), List.take_set_of_le (Nat.le_refl _), List.drop_set_of_lt (by omega)]
        simp only [List.getElem_set_self, List.append_assoc, List.length_cons, List.cons_append, List.nil_append]
        rw [show o + i + 1 + vs.length = o + i + (vs.length + 1) by omega]
      · rw [if_neg e, if_neg e, Go.RowKit.Below.heap_setCell _ _ _ _ e]

theorem run_storeVar {T : TypeId} {i : TypeInfo} (hi : P.info? T = some i) {v : Value} {b o : Nat} (hl : v.cells.size = i.size) {w w' : World}
    (hs : (storeCells ⟨b, o, none⟩ v.cells.toList).run P w = .ok () w') : (storeVar T ⟨b, o, none⟩ v).run P w = .ok () w' := by
  simp [storeVar, run_siz hi, hl, hs]

/-- a box of the function's own is written -/
theorem Rel.putBx (hR : Rel D H0 w0 st E r H a w) {b : Bx} (hb : b ∈ st.bx) {off : Nat} {cs : List SV} (hl : off + cs.length ≤ b.cs.length) {w' : World} (h1 : w'.heap.size = w.heap.size) (h2 : w'.os = w.os) (h3 : w'.tape = w.tape) (h4 : w'.output = w.output)
    (h5 : ∀ k, w'.heap[k]? = if k = r b.id then some (.cells ((b.cs.map (ev E r)).take off ++ cs.map (ev E r) ++ (b.cs.map (ev E r)).drop (off + cs.length)).toArray b.ty) else w.heap[k]?) :
    Rel D H0 w0 { st with bx := st.bx.map (Vc.putBx b.id off cs) } E r H a w' := by
  obtain ⟨x1, x2, x3, x4⟩ := hR.bx b hb
  have hid : ∀ c : Bx, (Vc.putBx b.id off cs c).id = c.id := fun c => by unfold Vc.putBx; split <;> rfl
  have hvis : Vis H w' := by
    intro k o hk
    have : k ≠ r b.id := fun e => by rw [e, x2] at hk; cases hk
    rw [h5, if_neg this]; exact hR.vis k o hk
  have hadv : Adv H0 w0 H w' := by
    refine ⟨by rw [h1]; exact hR.adv.size, hvis, ?_, h2.trans hR.adv.os, h3.trans hR.adv.tape, h4.trans hR.adv.out⟩
    intro k hk hn
    obtain ⟨y1, y2⟩ := hR.adv.old k hk hn
    refine ⟨?_, y2⟩
    rw [h5, if_neg (by omega)]; exact y1
  refine { adv := hadv, tags := hR.tags, size := hR.size, df := hR.df, fr := hR.fr, bx := ?_, inj := ?_, nd := ?_, as := hR.as, kn := hR.kn }
  · intro c hc
    obtain ⟨d, hd, rfl⟩ := List.mem_map.1 hc
    obtain ⟨y1, y2, y3, y4⟩ := hR.bx d hd
    rw [hid]
    refine ⟨?_, y2, y3, y4⟩
    unfold Vc.putBx
    by_cases e : d.id = b.id
    · have hdb : d = b := by
        have hnd := hR.nd
        have key : ∀ (l : List Bx), (l.map (·.id)).Nodup → d ∈ l → b ∈ l → d.id = b.id → d = b := by
          intro l
          induction l with
          | nil => intro _ h; cases h
          | cons x l ih =>
            intro hn h1 h2 he
            simp only [List.map_cons, List.nodup_cons] at hn
            rcases List.mem_cons.1 h1 with e1 | k1 <;> rcases List.mem_cons.1 h2 with e2 | k2
            · rw [e1, e2]
            · exact absurd (List.mem_map.2 ⟨b, k2, by rw [← e1]; exact he.symm⟩) hn.1
            · exact absurd (List.mem_map.2 ⟨d, k1, by rw [← e2]; exact he⟩) hn.1
            · exact ih hn.2 k1 k2 he
        exact key st.bx hnd hd hb e
      subst hdb
      rw [h5, if_pos rfl, if_pos rfl]
      simp [List.map_take, List.map_drop]
    · rw [if_neg e, h5, if_neg (fun h => e (hR.inj d hd b hb h)), y1]
  · intro c hc d hd h
    obtain ⟨c', hc', rfl⟩ := List.mem_map.1 hc
    obtain ⟨d', hd', rfl⟩ := List.mem_map.1 hd
    rw [hid, hid] at h ⊢
    exact hR.inj c' hc' d' hd' h
  · show ((st.bx.map (Vc.putBx b.id off cs)).map (·.id)).Nodup
    rw [List.map_map]
    have : (fun x : Bx => x.id) ∘ Vc.putBx b.id off cs = fun x => x.id := by funext c; exact hid c
    rw [this]; exact hR.nd

theorem put_none {o : Oper} (hd : o.dst = none) (v : Value) : a.put o.dst v = a := by rw [hd]; rfl

def PostB (D : Prot) (H0 : PH) (w0 : World) (st : St) (E : List Value) (H : PH) (a : Act) (o : Oper) (L : LK) (K : St → List Value → PH → LK → Prop) (v : Value) (w' : World) : Prop :=
  ∃ st' r', st'.nl = st.nl ∧ Rel D H0 w0 st' E r' H (a.put o.dst v) w' ∧ K st' E H L
theorem storeB_sound1 (hR : Rel D H0 w0 st E r H a w) {o : Oper} {T : TypeId} {p x : Operand} (ho : o.op = .store T p x) {d off : Nat} {ve : VE} {cs : List SV} {i : TypeInfo} (hp : a.eval p = ev E r (.box d off)) (hx : a.eval x = evV E r ve) (hcs : cellsOfVE ve = some cs) (hi : P.info? T = some i)
    (hden : den P X (storeB st o d off i.size cs) E H L K) : HeavyOk P o a w (PostB D H0 w0 st E H a o L K) (PanOf H0 w0 X) := by
  unfold storeB at hden
  split at hden
  · rename_i b hb
    obtain ⟨hm, hid⟩ := findBx_mem hb
    split at hden
    · rename_i hc
      obtain ⟨hl, hle, hd⟩ := hc
      subst hid
      have hv := cellsOfVE_ev hR hcs
      obtain ⟨w', y1, y2, y3, y4, y5, y6⟩ := run_put (P := P) (cs.map (ev E r)) off 0 (b.cs.map (ev E r)) w (hR.bx b hm).1 (by simp; omega) (fun v hv => by
        obtain ⟨s, _, rfl⟩ := List.mem_map.1 hv; exact ev_oneC r hR.tags s)
      have hrun : (execOp a.eval o).run P w = .ok .skip w' := by
        have hs := run_storeVar (P := P) (T := T) hi (v := evV E r ve) (b := r b.id) (o := off) (w := w) (w' := w') (by rw [hv]; simpa using hl) (by rw [hv]; exact y1)
        obtain ⟨dst, op, ty, pos, af, gd⟩ := o
        cases ho
        simp [execOp, Instr.storeAt, hp, hx, ev, Instr.sureAddr, hs]
      refine HeavyOk.skip hrun ?_
      have hR' := hR.putBx hm hle y2 y3 y4 y5 (fun k => by have := y6 k; simpa using this)
      exact ⟨{ st with bx := st.bx.map (putBx b.id off cs) }, _, rfl, by rw [put_none hd]; exact hR', hden⟩
    · exact hden.elim
  · exact hden.elim

theorem storeB_sound (hR : Rel D H0 w0 st E r H a w) {o : Oper} {T : TypeId} {p x : Operand} (ho : o.op = .store T p x) {d off : Nat} {ve : VE} {cs : List SV} {i : TypeInfo} (hp : a.eval p = ev E r (.box d off)) (hx : a.eval x = evV E r ve) (hcs : cellsOfVE ve = some cs) (hi : P.info? T = some i) {pend : List (SV × List SV)}
    (hbx : boxStore st o = true) (hden : den P X (storeB st o d off i.size cs) E H L K) : HeavyOk P o a w (PostOf D H0 w0 st E H w a o pend L K) (PanOf H0 w0 X) :=
  (storeB_sound1 hR ho hp hx hcs hi hden).mono (fun v w' ⟨st', r', h1, h2, h3⟩ => ⟨st', [], r', H, h1, by rw [List.append_nil]; exact h2, (fun h => by rw [hbx] at h; cases h), by rw [List.append_nil]; exact h3⟩) fun _ _ h => h

theorem storeH_sound (hR : Rel D H0 w0 st E r H a w) {o : Oper} {T : TypeId} {p x : Operand} (ho : o.op = .store T p x) {s : SV} {ve : VE} {cs : List SV} {i : TypeInfo} (hp : a.eval p = ev E r s) (hx : a.eval x = evV E r ve) (hcs : cellsOfVE ve = some cs) (hi : P.info? T = some i) {pend : List (SV × List SV)}
    (hden : den P X (storeH st o i.size s cs pend) E H L K) : HeavyOk P o a w (PostOf D H0 w0 st E H w a o pend L K) (PanOf H0 w0 X) := by
  unfold storeH at hden
  split at hden
  · rename_i hc
    obtain ⟨ht, hnb, hcb, hl, hd⟩ := hc
    obtain ⟨ad, had, hw⟩ := hden
    have hv := cellsOfVE_ev hR hcs
    have hcs' : cs.map (ev E r) = cs.map (ev0 E) := List.map_congr_left fun s hs => ev_ev0 (List.all_eq_true.1 hcb s hs)
    rw [← hcs'] at hw
    have e1 := ok_ptr (tag_ev hR ht)
    rw [ev_ev0 hnb, had] at e1
    rcases wpS_ran _ _ _ H w hR.vis hw with ⟨_, w', H', hr, hadv, hk⟩ | ⟨v, w', H', hr, hadv, hk⟩
    · have hrun : (execOp a.eval o).run P w = .ok .skip w' := by
        have hs : (storeVar T ad (evV E r ve)).run P w = .ok () w' := by
          simp [storeVar, run_siz hi, hv, hl, hr]
        obtain ⟨dst, op, ty, pos, af, gd⟩ := o
        cases ho
        simp [execOp, Instr.storeAt, hp, ev_ev0 hnb, e1, hx, Instr.sureAddr, hs]
      refine HeavyOk.skip hrun ?_
      have hk2 : pendOk E H' pend ∧ K st E H' L := by
        cases pend with
        | nil => exact ⟨fun x hx => (by cases hx), hk⟩
        | cons y l => exact hk
      exact ⟨_, [], _, _, rfl, by rw [List.append_nil, put_none hd]; exact hR.adv' hadv, fun _ => ⟨hk2.1, hadv⟩, by rw [List.append_nil]; exact hk2.2⟩
    · exact hk.elim
  · exact hden.elim

theorem loadVar_row {P : Program} {w : World} {T : TypeId} {i : TypeInfo} {d : TypeDesc} {ad : Addr} {vs : List Value} (hi : P.info? T = some i) (hts : tagsOk (tagsOfT P 12 T) vs = true) (hl : (tagsOfT P 12 T).length = i.size) (hrs : (loadRS P T).tags = tagsOfT P 12 T) (hd : P.underlying T = some d)
    (hrow : ∀ j v, vs[j]? = some v → w.cell? (ad.add j) = some v) : (loadVar T ad).run P w = .ok ((loadRS P T).pack vs) w := by
  have hvl : vs.length = i.size := by rw [← tagsOk_length hts]; exact hl
  unfold loadRS at hrs ⊢
  by_cases hag : isAggT P T = true
  · rw [if_pos hag]
    have key : ∀ (n j : Nat) (acc : Array Value), j + n = vs.length → (loadCellsFrom ad j n acc).run P w = .ok (acc ++ (vs.drop j).toArray) w := by
      intro n
      induction n with
      | zero => intro j acc h; simp at h; subst h; simp [loadCellsFrom]
      | succ n ih =>
        intro j acc h
        have hj : j < vs.length := by omega
        have hcell := hrow j vs[j] (by simp [hj])
        simp only [loadCellsFrom, Sem.run_bind, run_load, hcell, Result.andThen_ok]
        rw [ih (j + 1) _ (by omega), List.drop_eq_getElem_cons hj]
        simp
    have := key i.size 0 #[] (by omega)
    simp [loadVar, run_agg hd, hag, run_siz hi, loadCells, this, RS.pack]
  · rw [if_neg hag] at hrs ⊢
    simp only [RS.tags] at hrs
    have h1 : vs.length = 1 := by
      have := congrArg List.length hrs
      simp only [List.length_cons, List.length_nil] at this
      rw [← tagsOk_length hts]; omega
    obtain ⟨v, rfl⟩ : ∃ v, vs = [v] := by
      cases vs with
      | nil => simp at h1
      | cons v l => cases l with
        | nil => exact ⟨v, rfl⟩
        | cons _ _ => simp at h1
    have hcell := hrow 0 v (by simp)
    rw [show ad.add 0 = ad by simp [Addr.add]] at hcell
    simp only [Bool.not_eq_true] at hag
    simp [loadVar, run_agg hd, hag, hcell, RS.pack]

theorem loadH_sound (hR : Rel D H0 w0 st E r H a w) (hu : st.under = true) {o : Oper} {T : TypeId} {p : Operand} (ho : o.op = .load T p) {s : SV} {i : TypeInfo} (hp : a.eval p = ev E r s) (hi : P.info? T = some i) {pend : List (SV × List SV)} (hpd : pendOk E H pend)
    (hmy : D.may o) (hden : den P X (loadH P st o T i.size s) E H L K) : HeavyOk P o a w (PostOf D H0 w0 st E H w a o pend L K) (PanOf H0 w0 X) := by
  unfold loadH at hden
  split at hden
  · rename_i hc
    obtain ⟨ht, hnb, hl, hrs, hun⟩ := hc
    obtain ⟨vs, hts, ⟨ad, had, hrow⟩, hk⟩ := hden
    obtain ⟨d, hd⟩ := Option.isSome_iff_exists.1 hun
    have e1 := ok_ptr (tag_ev hR ht)
    rw [ev_ev0 hnb, had] at e1
    have hload := loadVar_row hi hts hl hrs hd fun j v hj => hR.vis.cell (hrow j v hj)
    have hrun : (execOp a.eval o).run P w = .ok (.value ((loadRS P T).pack vs)) w := by
      obtain ⟨dst, op, ty, pos, af, gd⟩ := o
      cases ho
      simp [execOp, Instr.loadAt, hp, ev_ev0 hnb, e1, Instr.sureAddr, hload]
    refine HeavyOk.value hrun ?_
    have hf : (loadRS P T).fine := by unfold loadRS; split <;> trivial
    refine ⟨_, vs, _, _, ?_, hR.res hu hf (by rw [hrs]; exact hts) o.dst hmy, fun _ => ⟨hpd, Adv.refl hR.vis⟩, hk⟩
    cases o.dst <;> rfl
  · exact hden.elim

theorem argVals (hR : Rel D H0 w0 st E r H a w) : ∀ {l : List Operand} {vs : List VE}, l.mapM (opv st []) = some vs → l.map a.eval = vs.map (evV E r)
  | [], vs, h => by simp at h; subst h; rfl
  | x :: l, vs, h => by
    simp only [List.mapM_cons, Option.bind_eq_bind, Option.bind_eq_some_iff] at h
    obtain ⟨v, hv, us, hus, h⟩ := h
    cases h
    simp only [List.map_cons, opv_sound hR (fun x hx => by cases hx) hv, argVals hR hus]
theorem evV_noBox {v : VE} (h : noBoxV v = true) : evV E r v = evV E (fun _ => 0) v := by
  cases v with
  | junk => rfl
  | sc s => exact ev_ev0 h
  | ag cs => simp only [evV]; rw [List.map_congr_left fun s hs => ev_noBox r _ s (List.all_eq_true.1 h s hs)]
  | tu vs =>
    simp only [evV]
    congr 2
    refine List.map_congr_left fun x hx => ?_
    have hx' : x.2.all SV.noBox = true := List.all_eq_true.1 h x hx
    unfold partV
    have e1 : x.2.map (ev E r) = x.2.map (ev E fun _ => 0) := List.map_congr_left fun s hs => ev_noBox r _ s (List.all_eq_true.1 hx' s hs)
    rw [e1]
    cases hc : x.2 with
    | nil => rfl
    | cons s ss =>
      rw [hc] at hx'
      simp only [List.all_cons, Bool.and_eq_true] at hx'
      simp only [List.headD_cons, ev_noBox r (fun _ => 0) s hx'.1]

theorem callH_sound (hR : Rel D H0 w0 st E r H a w) (hu : st.under = true) {o : Oper} {c : Call} {f : Operand} (ho : o.op = .call c) (hcal : c.callee = .value f) {fv : SV} {vs : List VE} (hf : a.eval f = ev E r fv) (hvs : c.args.toList.mapM (opv st []) = some vs) {pend : List (SV × List SV)}
    (hmy : D.may o) (hden : den P X (callH P st o pend fv vs) E H L K) : HeavyOk P o a w (PostOf D H0 w0 st E H w a o pend L K) (PanOf H0 w0 X) := by
  unfold callH at hden
  split at hden
  · rename_i hc
    obtain ⟨hfb, hvb, hfi⟩ := hc
    have hargs : c.args.map a.eval = (vs.map (evV E fun _ => 0)).toArray := by
      apply Array.ext'
      rw [Array.toList_map, argVals hR hvs]
      exact List.map_congr_left fun v hv => evV_noBox (List.all_eq_true.1 hvb v hv)
    have main : ∀ fid first capt, ev0 E fv = .func (.func fid) first capt → callOk P fid → Tri P fid (first ++ (vs.map (evV E fun _ => 0)).toArray ++ capt) H (callPost X (rsOf P o.type) pend E fun E' H' => den P X (.leaf (addRes st o.dst (rsOf P o.type))) E' H' L K) → HeavyOk P o a w (PostOf D H0 w0 st E H w a o pend L K) (PanOf H0 w0 X) := by
      intro fid first capt e1 hok htri next Q aa he hn hq
      have hrun : (execOp aa.eval o).run P w = .ok (.enter fid (first ++ (vs.map (evV E fun _ => 0)).toArray ++ capt)) w := by
        rw [he]
        obtain ⟨dst, op, ty, pos, af, gd⟩ := o
        cases ho
        obtain ⟨cal, args, tys⟩ := c
        cases hcal
        have hargs' : args.map a.eval = (vs.map (evV E fun _ => 0)).toArray := hargs
        simp [execOp, resolve, hf, ev_ev0 hfb, e1, Deferred.ofValue, invoke, hargs', hok _ w]
      unfold Oper.wp
      rw [hrun]
      show Calls P fid _ w _
      refine (htri w hR.vis).mono ?_
      rintro e w' ⟨H', hadv, hpost⟩
      cases e with
      | returned v =>
        obtain ⟨us, hts, rfl, hpd, hk⟩ := hpost
        refine hn _ _ ⟨_, us, _, _, ?_, (hR.adv' hadv).res hu (fine_of hfi) hts o.dst hmy, fun _ => ⟨hpd, hadv⟩, hk⟩
        cases o.dst <;> rfl
      | panicked ch => exact hq ch w' ⟨H', hR.adv.trans hadv, hpost⟩
      | outgrown => exact hpost.elim
    cases fv with
    | fn fid => exact main fid #[] #[] rfl hden.1 (by simpa using hden.2)
    | _ => obtain ⟨fid, first, capt, h1, h2, h3⟩ := hden; exact main fid first capt h1 h2 h3
  · exact hden.elim

theorem tmpArgs_get (hR : Rel D H0 w0 st E r H a w) : ∀ {l : List Operand} {args : List (Nat × VE)}, tmpArgs st l = some args →
    (∀ t v, args.lookup t = some v → a.tmps.getD t undef = evV E (fun _ => 0) v) ∧ ∀ t, Operand.tmp t ∈ l → (args.lookup t).isSome = true
  | [], args, h => by simp [tmpArgs] at h; subst h; exact ⟨fun t v h => by simp at h, fun t h => by cases h⟩
  | y :: l, args, h => by
    cases y with
    | tmp t =>
      simp only [tmpArgs] at h
      split at h
      · rename_i v rest hv hrest
        split at h
        · rename_i hnb
          cases h
          obtain ⟨i1, i2⟩ := tmpArgs_get hR hrest
          have hval : a.tmps.getD t undef = evV E (fun _ => 0) v := (opv_sound hR (fun x hx => by cases hx) hv).trans (evV_noBox hnb)
          refine ⟨fun u x hx => ?_, fun u hu => ?_⟩
          · simp only [List.lookup_cons] at hx
            split at hx
            · rename_i he
              cases hx
              rw [beq_iff_eq.1 he]; exact hval
            · exact i1 u x hx
          · simp only [List.lookup_cons]
            split
            · rfl
            · rename_i hne
              refine i2 u ?_
              rcases List.mem_cons.1 hu with he | hu
              · cases he; simp at hne
              · exact hu
        · cases h
      · cases h
    | const c => simp only [tmpArgs] at h; obtain ⟨i1, i2⟩ := tmpArgs_get hR h; exact ⟨i1, fun t ht => i2 t (by simpa using ht)⟩
    | global c => simp only [tmpArgs] at h; obtain ⟨i1, i2⟩ := tmpArgs_get hR h; exact ⟨i1, fun t ht => i2 t (by simpa using ht)⟩
    | func c => simp only [tmpArgs] at h; obtain ⟨i1, i2⟩ := tmpArgs_get hR h; exact ⟨i1, fun t ht => i2 t (by simpa using ht)⟩
theorem tmpArgs_sound (hR : Rel D H0 w0 st E r H a w) {l : List Operand} {args : List (Nat × VE)} (h : tmpArgs st l = some args) : ∀ x ∈ l, a.eval x = argEv E args x := by
  intro x hx
  obtain ⟨i1, i2⟩ := tmpArgs_get hR h
  cases x with
  | tmp t =>
    obtain ⟨v, hv⟩ := Option.isSome_iff_exists.1 (i2 t hx)
    simp only [argEv, hv]
    exact i1 t v hv
  | _ => rfl

theorem exec_bare (ρ : Operand → Value) (o : Oper) : execOp ρ o = execOp ρ (bare o.op o.type) := rfl

theorem sem_run (hR : Rel D H0 w0 st E r H a w) {o : Oper} (hs : ∀ cs b, o.op ≠ .select cs b) {args : List (Nat × VE)} (h : tmpArgs st o.op.operands.toList = some args) : execOp a.eval o = execOp (argEv E args) (bare o.op o.type) := by
  rw [exec_bare]
  exact execOp_congr (bare o.op o.type) hs fun x hx => tmpArgs_sound hR h x (Array.mem_toList_iff.2 hx)

theorem semCore (hR : Rel D H0 w0 st E r H a w) (hu : st.under = true) {o : Oper} {args : List (Nat × VE)} (he : execOp a.eval o = execOp (argEv E args) (bare o.op o.type)) {rs : RS} (hf : rs.fine) {pend : List (SV × List SV)} (st' : St) (hst : ∀ vs, tagsOk rs.tags vs = true → ∀ r H w, Rel D H0 w0 (addRes st o.dst rs) (E ++ vs) r H (a.put o.dst (rs.pack vs)) w → Rel D H0 w0 st' (E ++ vs) r H (a.put o.dst (rs.pack vs)) w) (hnl : st'.nl = st.nl)
    (hmy : D.may o) (hden : den P X (.sem o.op o.type args rs pend (.leaf st')) E H L K) : HeavyOk P o a w (PostOf D H0 w0 st E H w a o pend L K) (PanOf H0 w0 X) := by
  have hw : wpS P (execOp a.eval o) (nextPost rs pend E fun E' H' => K st' E' H' L) (fun v H' => X [{ v, recovered := false }] H') H := by rw [he]; exact hden
  rcases wpS_ran _ _ _ H w hR.vis hw with ⟨nx, w', H', hr, hadv, hk⟩ | ⟨v, w', H', hr, hadv, hk⟩
  · cases nx with
    | value v =>
      obtain ⟨vs, hts, rfl, hpd, hk⟩ := hk
      exact HeavyOk.value hr ⟨st', vs, _, _, hnl, hst vs hts _ _ _ ((hR.adv' hadv).res hu hf hts o.dst hmy), fun _ => ⟨hpd, hadv⟩, hk⟩
    | skip =>
      obtain ⟨hts, hpk, hpd, hk⟩ := hk
      refine HeavyOk.skip hr ⟨st', [], r, _, hnl, ?_, fun _ => ⟨hpd, hadv⟩, hk⟩
      rw [hpk]
      exact hst [] (by rw [hts]; rfl) _ _ _ ((hR.adv' hadv).res hu hf (by rw [hts]; rfl) o.dst hmy)
    | _ => exact hk.elim
  · intro next Q aa he' hn hq
    unfold Oper.wp
    rw [he', hr]
    exact hq _ _ ⟨H', hR.adv.trans hadv, hk⟩

theorem semH_sound (hR : Rel D H0 w0 st E r H a w) (hu : st.under = true) {o : Oper} {pend : List (SV × List SV)} (hmy : D.may o) (hden : den P X (semH P st o pend) E H L K) : HeavyOk P o a w (PostOf D H0 w0 st E H w a o pend L K) (PanOf H0 w0 X) := by
  unfold semH at hden
  split at hden
  · rename_i T x ho
    split at hden
    · rename_i args hargs
      have he := sem_run hR (o := o) (fun cs b => by rw [ho]; intro h; cases h) (by rw [ho]; exact hargs)
      rw [← ho] at hden
      refine semCore hR hu he (rs := .sc .ptr) trivial _ ?_ ?_ hmy hden
      · intro vs _ r H w hR'
        exact { hR' with }
      · cases o.dst <;> rfl
    · exact hden.elim
  · rename_i T x i ho
    split at hden
    · rename_i args hargs
      have he := sem_run hR (o := o) (fun cs b => by rw [ho]; intro h; cases h) (by rw [ho]; exact hargs)
      rw [← ho] at hden
      refine semCore hR hu he (rs := .sc .ptr) trivial _ (fun _ _ _ _ _ h => h) ?_ hmy hden
      cases o.dst <;> rfl
    · exact hden.elim
  · rename_i x ho
    split at hden
    · rename_i args k e hargs hm
      split at hden
      · rename_i hf
        have he := sem_run hR (o := o) (fun cs b => by rw [ho]; intro h; cases h) (by rw [ho]; exact hargs)
        rw [← ho] at hden
        refine semCore hR hu he (rs := .tu [k, e]) (fine_of hf) _ (fun _ _ _ _ _ h => h) ?_ hmy hden
        cases o.dst <;> rfl
      · exact hden.elim
    · exact hden.elim
  · split at hden
    · rename_i hok
      split at hden
      · rename_i args hargs
        split at hden
        · rename_i hf
          have he := sem_run hR (o := o) (fun cs b h => by rw [h] at hok; exact absurd hok Bool.false_ne_true) hargs
          refine semCore hR hu he (fine_of hf) _ (fun _ _ _ _ _ h => h) ?_ hmy hden
          cases o.dst <;> rfl
        · exact hden.elim
      · exact hden.elim
    · exact hden.elim

theorem altH_sound (hR : Rel D H0 w0 st E r H a w) (hu : st.under = true) {o : Oper} {x : Operand} {isS : Bool} (ho : o.op = .next x isS) (hmy : D.may o) (hden : den P X (altH P st o x isS) E H L K) : HeavyOk P o a w (PostOf D H0 w0 st E H w a o [] L K) (PanOf H0 w0 X) := by
  unfold altH at hden
  split at hden
  · rename_i args k e hargs hm
    split at hden
    · rename_i hf
      have he := sem_run hR (o := o) (fun cs b => by rw [ho]; intro h; cases h) (by rw [ho]; exact hargs)
      rw [← ho] at hden
      have hw : wpS P (execOp a.eval o) (altPost (.tu [(false, [.bool])]) (.tu [(false, [.bool]), k, e]) E (fun E' H' => K (addRes st o.dst (.tu [(false, [.bool])])) E' H' L) (fun E' H' => K (addRes st o.dst (.tu [(false, [.bool]), k, e])) E' H' L)) (fun v H' => X [{ v, recovered := false }] H') H := by rw [he]; exact hden
      have f1 : (RS.tu [(false, [Tag.bool])]).fine := fine_of rfl
      have f2 : (RS.tu [(false, [Tag.bool]), k, e]).fine := by
        intro x hx hb
        rcases List.mem_cons.1 hx with rfl | hx
        · simp
        · exact fine_of hf x hx hb
      rcases wpS_ran _ _ _ H w hR.vis hw with ⟨nx, w', H', hr, hadv, hk⟩ | ⟨v, w', H', hr, hadv, hk⟩
      · cases nx with
        | value v =>
          rcases hk with ⟨vs, hts, rfl, hk⟩ | ⟨vs, hts, rfl, hk⟩
          · refine HeavyOk.value hr ⟨_, vs, _, _, ?_, (hR.adv' hadv).res hu f1 hts o.dst hmy, (fun _ => ⟨(fun x hx => by cases hx), hadv⟩), hk⟩
            cases o.dst <;> rfl
          · refine HeavyOk.value hr ⟨_, vs, _, _, ?_, (hR.adv' hadv).res hu f2 hts o.dst hmy, (fun _ => ⟨(fun x hx => by cases hx), hadv⟩), hk⟩
            cases o.dst <;> rfl
        | _ => exact hk.elim
      · intro next Q aa he' hn hq
        unfold Oper.wp
        rw [he', hr]
        exact hq _ _ ⟨H', hR.adv.trans hadv, hk⟩
    · exact hden.elim
  · exact hden.elim

/-- AN OPERATION WITH EFFECT does what its formula says. -/
theorem heavyL_sound (hR : Rel D H0 w0 st E r H a w) (hu : st.under = true) {pub : List Nat} {o : Oper} {pend : List (SV × List SV)} (hp : pendOk E H pend) (hmy : D.may o) (hden : den P X (heavyL P pub st o pend) E H L K) : HeavyOk P o a w (PostOf D H0 w0 st E H w a o pend L K) (PanOf H0 w0 X) := by
  have g0 : Guard.holds E r ([] : Guard) := fun x hx => by cases hx
  obtain ⟨dst, op, ty, pos, af, gd⟩ := o
  unfold heavyL at hden
  simp only at hden
  split at hden
  · rename_i T x
    split at hden
    · rename_i cs hcs
      obtain ⟨v, hv, hc⟩ := Option.bind_eq_some_iff.1 hcs
      refine mkBox_sound hR hu hp ?_ hmy hden
      have hcell := cellsOfVE_ev hR hc
      simp [execOp, Instr.box, newVar, newRow, opv_sound hR g0 hv, hcell]
    · exact hden.elim
  · rename_i T
    split at hden
    · rename_i cs hcs
      obtain ⟨v, hv, hc⟩ := Option.bind_eq_some_iff.1 hcs
      refine mkBox_sound hR hu hp ?_ hmy hden
      have hcell := cellsOfVE_ev hR hc
      simp [execOp, Instr.alloc, newVar, newRow, zeroL_run (P := P) (w := w) (E := E) (r := r) hv, hcell]
    · exact hden.elim
  · rename_i T p x
    split at hden
    · rename_i d off cs i hp' hcs hi
      obtain ⟨v, hv, hc⟩ := Option.bind_eq_some_iff.1 hcs
      exact storeB_sound hR rfl (ops1_sound hR g0 hp') (opv_sound hR g0 hv) hc hi (by simp [boxStore, hp']) hden
    · rename_i s cs i _ hp' hcs hi
      obtain ⟨v, hv, hc⟩ := Option.bind_eq_some_iff.1 hcs
      exact storeH_sound hR rfl (ops1_sound hR g0 hp') (opv_sound hR g0 hv) hc hi hden
    · exact hden.elim
  · rename_i T p
    split at hden
    · rename_i s i hs hi
      exact loadH_sound hR hu rfl (ops1_sound hR g0 hs) hi hp hmy hden
    · exact hden.elim
  · rename_i c
    split at hden
    · rename_i f hf
      split at hden
      · rename_i fv vs hfv hvs
        exact callH_sound hR hu rfl hf (ops1_sound hR g0 hfv) hvs hmy hden
      · exact hden.elim
    · exact semH_sound hR hu hmy hden
  · rename_i x isS
    split at hden
    · rename_i he
      have : pend = [] := List.isEmpty_iff.1 he
      subst this
      exact altH_sound hR hu rfl hmy hden
    · exact hden.elim
  · exact semH_sound hR hu hmy hden

/-- a store into a block of the function's own leaves the rest as it was -/
theorem heavyB_sound (hR : Rel D H0 w0 st E r H a w) {pub : List Nat} {o : Oper} {pend : List (SV × List SV)} (hb : boxStore st o = true) (hden : den P X (heavyL P pub st o pend) E H L K) : HeavyOk P o a w (PostB D H0 w0 st E H a o L K) (PanOf H0 w0 X) := by
  have g0 : Guard.holds E r ([] : Guard) := fun x hx => by cases hx
  obtain ⟨dst, op, ty, pos, af, gd⟩ := o
  unfold boxStore at hb
  simp only at hb
  split at hb
  · rename_i T p x
    unfold heavyL at hden
    simp only at hden
    split at hb
    · rename_i d off hp
      rw [hp] at hden
      split at hden
      · rename_i d' off' cs i hp' hcs hi
        cases hp'
        obtain ⟨v, hv, hc⟩ := Option.bind_eq_some_iff.1 hcs
        exact storeB_sound1 hR rfl (ops1_sound hR g0 hp) (opv_sound hR g0 hv) hc hi hden
      · rename_i hno hp' _ _
        cases hp'
        exact (hno _ _ rfl).elim
      · exact hden.elim
    · cases hb
  · cases hb
end
end Go.Proofs.YtlnmmakbgldflaaGreatDoor.Vc
