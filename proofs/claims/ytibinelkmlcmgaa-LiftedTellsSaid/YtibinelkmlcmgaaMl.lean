/-
  Texts on the way to the statement, one behind the other, without what it does not reach.
-/
import Derived.Test.YtibinelkmlcmgaaMk
set_option linter.unusedSimpArgs false
set_option linter.unusedVariables false
set_option maxRecDepth 100000
/-
  LIFT: the document's free names; copies; what Told says.
-/
namespace Go.Proofs.Ytibinelkmlcmgaa.Vc
open Go

theorem Free6_tri : ∀ (e : Xp) (cs : List Value) (S : PH) (bl out : List (List UInt8)) (vb vo : Value), e.Rep S cs → SlR S bl vb → SlR S out vo → bl.length + e.bnd.length ≤ 900000 → out.length + e.size ≤ 900000 →
    Tri Try.prog n_scrimshawref06_free #[.agg cs.toArray, vb, vo] S fun x S' => PH.le S S' ∧ ∃ v', x = .returned v' ∧ SlR S' (putsT out (e.fr bl)) v' := by
  refine Xp.ind fun e ih cs S bl out vb vo he hb ho hbb hoo => ?_
  have he' := he
  obtain ⟨nb, db, kb, nc, dc, kc, rfl, hx⟩ := Xp.Rep.open he
  have hk := hx.kids.max
  simp only [maxLen] at hk
  rw [Xp.bnd_eq, List.length_append] at hbb
  have hsz : e.size = 1 + Xps.size e.kids := by cases e; simp only [Xp.size, Xp.kids]
  obtain ⟨b1, c1, rfl⟩ := hb.sl
  obtain ⟨b2, c2, rfl⟩ := ho.sl
  refine tri_scrimshawref06_free (exVs e nb db kb nc dc kc ++ [.slice b1 bl.length c1, .slice b2 out.length c2]) (by kernel_rfl) (by kernel_rfl) ?_
  obtain ⟨d1, hd1⟩ : ∃ d1, d1 = (if (e.kind = 1 ∨ e.kind = 2) ∧ e.name ∉ bl then [e.name] else []) := ⟨_, rfl⟩
  have hd1l : d1.length ≤ 1 := by rw [hd1]; split <;> simp
  refine ⟨fun vs S' => ∃ v1, vs = [v1] ∧ PH.le S S' ∧ SlR S' (putsT out d1) v1, ?_, ?_⟩
  rotate_left
  · refine ⟨fun vs S' => vs = [.bool (decide ((e.kind = 1 ∨ e.kind = 2) ∧ e.name ∉ bl))] ∧ PH.le S S', ?_, ?_⟩
    · rintro vs S1 _ ⟨rfl, l1⟩
      refine ⟨fun g => ?_, fun g => ?_⟩
      · simp only [ev0, ev, evV, List.cons_append, List.nil_append, List.getD_cons_zero, List.getD_cons_succ, List.map_cons, List.map_nil, iOf, bOf, sOf, pOf, slLen, slBase, cmpI, arI, Value.ite_bool, int_beq, int_bne, ite_band, ite_bor, decide_eq_true_eq] at g
        rw [if_pos g] at hd1
        refine den_call cb_scrimshawref06_put (Put6_tri out e.name _ S1 (ho.le l1) hx.name (by omega)) ?_
        rintro x S2 ⟨l2, v2, rfl, s2⟩
        obtain ⟨b3, c3, hv3⟩ := s2.sl
        exact ⟨_, [v2], rfl, by rw [hv3]; rfl, rfl, pendNil, _, lookup_hit, v2, rfl, PH.le_trans l1 l2, by rw [hd1]; exact s2⟩
      · simp only [ev0, ev, evV, List.cons_append, List.nil_append, List.getD_cons_zero, List.getD_cons_succ, List.map_cons, List.map_nil, iOf, bOf, sOf, pOf, slLen, slBase, cmpI, arI, Value.ite_bool, int_beq, int_bne, ite_band, ite_bor, decide_eq_false_iff_not] at g
        rw [if_neg g] at hd1
        exact ⟨_, lookup_hit, _, rfl, l1, by rw [hd1]; exact ho.le l1⟩
    · refine ⟨fun g => ?_, fun g => ?_⟩
      · simp only [ev0, ev, evV, List.cons_append, List.nil_append, List.getD_cons_zero, List.getD_cons_succ, List.map_cons, List.map_nil, iOf, bOf, sOf, pOf, slLen, slBase, cmpI, arI, Value.ite_bool, int_beq, int_bne, ite_band, ite_bor] at g
        have g : e.kind = 1 ∨ e.kind = 2 := by
          by_cases h1 : e.kind = 1
          · exact .inl h1
          · simp [h1] at g; exact .inr g
        refine den_gives [.bool (bl.contains e.name)] cb_scrimshawref06_Has (Has_gives bl e.name _ S hb) rfl pendNil fun S1 l1 => ⟨_, lookup_hit, ?_, l1⟩
        simp only [ev0, ev, evV, List.cons_append, List.nil_append, List.getD_cons_zero, List.getD_cons_succ, List.map_cons, List.map_nil, iOf, bOf, sOf, pOf, slLen, slBase, cmpI, arI, Value.ite_bool, int_beq, int_bne, ite_band, ite_bor]
        by_cases hm : e.name ∈ bl
        · simp [g, hm]
        · simp [g, hm]
      · simp only [ev0, ev, evV, List.cons_append, List.nil_append, List.getD_cons_zero, List.getD_cons_succ, List.map_cons, List.map_nil, iOf, bOf, sOf, pOf, slLen, slBase, cmpI, arI, Value.ite_bool, int_beq, int_bne, ite_band, ite_bor] at g
        have g : ¬ e.kind = 1 ∧ ¬ e.kind = 2 := by
          by_cases h1 : e.kind = 1
          · simp [h1] at g
          · simp [h1] at g; exact ⟨h1, g⟩
        refine ⟨_, lookup_hit, ?_, PH.le_refl _⟩
        rw [decide_eq_false fun h => by rcases h.1 with h | h; exact g.1 h; exact g.2 h]
        rfl
  rintro vs S1 _ ⟨v1, rfl, l1, s1⟩
  refine ⟨fun n vs S' => ∃ (k : Nat) (done : List (List UInt8)) (v : Value), vs = [v, .int .i64 k] ∧ k + n = e.kids.length ∧ PH.le S S' ∧ SlR S' (putsT out done) v ∧ e.fr bl = done ++ Xps.fr bl (bl ++ e.names) e.kind (e.kids.drop k) ∧ bl.length + e.names.length + (Xps.bnd (e.kids.drop k)).length ≤ 900000 ∧ out.length + done.length + Xps.size (e.kids.drop k) ≤ 900000,
    ⟨e.kids.length, 0, d1, v1, rfl, by omega, l1, s1, by rw [Xp.fr_eq, List.drop_zero, hd1], by rw [List.drop_zero]; omega, by rw [List.drop_zero]; omega⟩, ?_⟩
  rintro n vs S2 _ ⟨k, done, v2, rfl, hkn, l2, s2, hfr, hb2, ho2⟩
  obtain ⟨b2, c2, hv2⟩ := s2.sl
  refine ⟨fun g => ?_, fun g => ?_⟩
  · simp only [ev0, ev, evV, List.cons_append, List.nil_append, List.getD_cons_zero, List.getD_cons_succ, List.map_cons, List.map_nil, iOf, bOf, sOf, pOf, slLen, slBase, cmpI, arI, Value.ite_bool, int_beq, int_bne, ite_band, ite_bor, decide_eq_true_eq] at g
    obtain ⟨a, ha⟩ : ∃ a, e.kids[k]? = some a := ⟨_, List.getElem?_eq_getElem (show k < e.kids.length by omega)⟩
    have hmem := List.mem_of_getElem? ha
    have hbnd : Xps.bnd (e.kids.drop k) = a.bnd ++ Xps.bnd (e.kids.drop (k + 1)) := by rw [drop_get ha, Xps.bnd]
    have hsiz : Xps.size (e.kids.drop k) = a.size + Xps.size (e.kids.drop (k + 1)) := by rw [drop_get ha, Xps.size]
    rw [hbnd, List.length_append] at hb2
    rw [hsiz] at ho2
    obtain ⟨bi, hbi⟩ : ∃ bi, bi = inB e.kind (e.kids.drop (k + 1)) := ⟨_, rfl⟩
    have hfrs : Xps.fr bl (bl ++ e.names) e.kind (e.kids.drop k) = a.fr (if bi = true then bl ++ e.names else bl) ++ Xps.fr bl (bl ++ e.names) e.kind (e.kids.drop (k + 1)) := by rw [drop_get ha, Xps.fr, hbi]
    refine ⟨fun vs S' => ∃ v3, vs = [v3] ∧ PH.le S2 S' ∧ SlR S' (if bi = true then bl ++ e.names else bl) v3, ?_, ?_⟩
    · rintro vs S3 _ ⟨v3, rfl, l3, s3⟩
      have l03 := PH.le_trans l2 l3
      obtain ⟨g1, _, ces, g2, g3⟩ := (hx.kids.le l03).get ha
      have htags := Xp.Rep.tags g2
      have g2' := g2
      obtain ⟨nb', db', kb', nc', dc', kc', rfl, _⟩ := Xp.Rep.open g2'
      refine ⟨fun _ => ?_, _, htags, by simp only [ev0, ev, evV, List.cons_append, List.nil_append, List.getD_cons_zero, List.getD_cons_succ, List.map_cons, List.map_nil, iOf, bOf, sOf, pOf, slLen, slBase, cmpI, arI, Value.ite_bool, int_beq, int_bne, ite_band, ite_bor]; exact g3, ?_⟩
      · simp only [Chk.holds, ev0, ev, evV, List.cons_append, List.nil_append, List.getD_cons_zero, List.getD_cons_succ, List.map_cons, List.map_nil, iOf, bOf, sOf, pOf, slLen, slBase, cmpI, arI, Value.ite_bool, int_beq, int_bne, ite_band, ite_bor]; exact ⟨g1, by omega, by omega⟩
      have hpl := putsT_len done out
      have hfl := Xp.fr_len a (if bi = true then bl ++ e.names else bl)
      refine den_call cb_scrimshawref06_free (ih a hmem _ S3 _ (putsT out done) v3 v2 g2 s3 (s2.le l3) (by
        split
        · rw [List.length_append]; omega
        · omega) (by omega)) ?_
      rintro x S4 ⟨l4, v4, rfl, s4⟩
      obtain ⟨b4, c4, hv4⟩ := s4.sl
      refine ⟨_, [v4], rfl, by rw [hv4]; rfl, rfl, pendNil, _, lookup_hit, n - 1, by omega, k + 1, done ++ a.fr (if bi = true then bl ++ e.names else bl), v4, ?_, by omega, PH.le_trans l03 l4, ?_, ?_, by omega, by rw [List.length_append]; omega⟩
      · simp only [ev0, ev, evV, List.cons_append, List.nil_append, List.getD_cons_zero, List.getD_cons_succ, List.map_cons, List.map_nil, iOf, bOf, sOf, pOf, slLen, slBase, cmpI, arI, Value.ite_bool, int_beq, int_bne, ite_band, ite_bor]
        rw [w64 (by omega) (by omega)]
        rfl
      · rw [putsT_append]; exact s4
      · rw [hfr, hfrs, List.append_assoc]
    · refine den_gives [.bool bi] cb_scrimshawref06_Binds (by rw [hbi]; exact Binds6_gives e _ S2 (Xp.Rep.le l2 e he') k (by omega)) rfl pendNil fun S3 l3 => ?_
      refine ⟨fun g => ?_, fun g => ?_⟩
      · simp only [ev0, ev, evV, List.cons_append, List.nil_append, List.getD_cons_zero, List.getD_cons_succ, List.map_cons, List.map_nil, iOf, bOf, sOf, pOf, slLen, slBase, cmpI, arI, Value.ite_bool, int_beq, int_bne, ite_band, ite_bor] at g
        subst g
        refine den_hLit0 (α := List UInt8) (b := 16) uTxts elemTxt (Held.nil l3) pendNil fun w1 K1 h1 _ _ => ?_
        have hb1 := (hb.le l2)
        refine den_hApp (b := 16) (more := bl) uTxts elemTxt (by kernel_rfl) (by kernel_rfl) h1 (hb1.srcS h1.sh) (by simp only [maxLen, List.length_nil]; omega) (by simp only [List.length_nil]; omega) fun w2 K2 h2 _ => ⟨pendNil, ?_⟩
        have hn1 := (hx.names.le l2)
        refine den_hApp (b := 16) (more := e.names) uTxts elemTxt (by kernel_rfl) (by kernel_rfl) h2 (hn1.srcS h2.sh) (by simp only [maxLen, List.length_append, List.length_nil]; omega) (by simp only [List.length_append, List.length_nil]; omega) fun w3 K3 h3 _ => ⟨pendNil, ?_⟩
        obtain ⟨S5, s5, l5, h5⟩ := h3.freeze
        exact ⟨_, lookup_hit, w3, rfl, h3.sh, by rw [if_pos rfl]; exact s5.le h5.sh⟩
      · simp only [ev0, ev, evV, List.cons_append, List.nil_append, List.getD_cons_zero, List.getD_cons_succ, List.map_cons, List.map_nil, iOf, bOf, sOf, pOf, slLen, slBase, cmpI, arI, Value.ite_bool, int_beq, int_bne, ite_band, ite_bor] at g
        subst g
        exact ⟨_, lookup_hit, _, rfl, l3, hb.le (PH.le_trans l2 l3)⟩
  · simp only [ev0, ev, evV, List.cons_append, List.nil_append, List.getD_cons_zero, List.getD_cons_succ, List.map_cons, List.map_nil, iOf, bOf, sOf, pOf, slLen, slBase, cmpI, arI, Value.ite_bool, int_beq, int_bne, ite_band, ite_bor, decide_eq_false_iff_not] at g
    have hkk : k = e.kids.length := by omega
    subst hkk
    rw [List.drop_length] at hfr
    simp only [Xps.fr, List.append_nil] at hfr
    refine ⟨l2, v2, ?_, by rw [hfr]; exact s2⟩
    rw [hv2]; rfl
theorem RFree_tri (e : Xp) (cs : List Value) (S : PH) (he : e.Rep S cs) (hb : e.bnd.length ≤ 900000) (hz : e.size ≤ 900000) : Tri Try.prog n_scrimshawref06_Free #[.agg cs.toArray] S fun x S' => PH.le S S' ∧ ∃ v', x = .returned v' ∧ SlR S' (freeS (e.fr [])) v' := by
  have he' := he
  obtain ⟨nb, db, kb, nc, dc, kc, rfl, hx⟩ := Xp.Rep.open he
  have hnil : SlR S ([] : List (List UInt8)) (.slice none 0 0) := SlR.mk_iff.2 ⟨Nat.zero_le _, .inl ⟨rfl, rfl⟩⟩
  refine tri_scrimshawref06_Free (exVs e nb db kb nc dc kc) (by kernel_rfl) (by kernel_rfl) ?_
  refine den_call cb_scrimshawref06_free (Free6_tri e _ S [] [] _ _ he' hnil hnil (by simpa using hb) (by simpa using hz)) ?_
  rintro x S2 ⟨l2, v2, rfl, s2⟩
  rw [freeS_puts] at s2
  obtain ⟨b3, c3, hv3⟩ := s2.sl
  exact ⟨_, [v2], rfl, by rw [hv3]; rfl, rfl, pendNil, l2, v2, rfl, s2⟩

/-! ### copies -/
theorem mapS_id : ∀ l : List Xp, mapS (fun (s : Unit) e => (e, s)) () l = (l, ())
  | [] => rfl
  | e :: l => by simp only [mapS, mapS_id l]
theorem pcopied_tri : ∀ (e : Xp) (cs : List Value) (S : PH), e.Rep S cs → e.fit → Tri Try.prog n_pass_copied #[.agg cs.toArray] S fun x S' => PH.le S S' ∧ XRet S' e x := by
  refine Xp.ind fun e ih cs S he hfit => ?_
  have he' := he
  obtain ⟨nb, db, kb, nc, dc, kc, rfl, hx⟩ := Xp.Rep.open he
  obtain ⟨f1, f2, f3⟩ := (Xp.fit_iff e).1 hfit
  refine tri_pass_copied (exVs e nb db kb nc dc kc) (by kernel_rfl) (by kernel_rfl) ?_
  refine den_call (by kernel_rfl) (CloneS_tri e.names _ S hx.names f1) ?_
  rintro x S1 ⟨l1, v1, rfl, s1⟩
  obtain ⟨b3, c3, rfl⟩ := s1.sl
  refine ⟨_, [.slice b3 e.names.length c3], rfl, rfl, rfl, pendNil, ?_⟩
  have he1 : e.Rep S1 (exVs e b3 db kb c3 dc kc) := Xp.Rep_iff.2 ⟨_, _, _, rfl, hx.kind, hx.name, s1, Dat.Rep.le l1 _ hx.const, hx.kids.le l1⟩
  have hmap : Tri Try.prog n_pass_Map #[.agg (exVs e b3 db kb c3 dc kc).toArray, .func (.func n_pass_copied) #[] #[]] S1 fun x S' => PH.le S S' ∧ XRet S' e x := by
    refine (Map_tri (fun (s : Unit) e => (e, s)) (fun _ Js => Js = []) () e _ S1 S1 [] (g := n_pass_copied) (first := #[]) (caps := #[]) cb_pass_copied (Held.nil (PH.le_refl S1)) rfl he1 f2 ?_).mono ?_
    · intro j k hj S' K' Js cs l' h' hJs hk
      subst hJs
      have hm := List.mem_of_getElem? hj
      refine (h'.pure (ih k hm cs S' hk (f3 k hm))).mono ?_
      rintro x K2 ⟨S2, l2, h2, r2⟩
      exact ⟨S2, [], l2, h2, rfl, r2⟩
    · rintro x K2 ⟨S2, J2, l2, h2, hJ, r2⟩
      subst hJ
      rw [mapS_id] at r2
      obtain ⟨es, rfl, r3⟩ := r2
      refine ⟨PH.le_trans l1 (PH.le_trans l2 h2.sh), es, rfl, ?_⟩
      have : (Xp.mk e.kind e.name e.names e.const e.kids) = e := by cases e; rfl
      rw [this] at r3
      exact Xp.Rep.le h2.sh e r3
  refine den_call cb_pass_Map hmap ?_
  rintro x S2 ⟨l2, es, rfl, r2⟩
  have ht := Xp.Rep.tags r2
  have r2' := r2
  obtain ⟨p1, p2, p3, p4, p5, p6, rfl, _⟩ := Xp.Rep.open r2'
  exact ⟨_, _, rfl, ht, rfl, pendNil, l2, _, rfl, r2⟩
/-- Told: the code of the check, and a copy where it is zero -/
theorem Told_tri (e : Xp) (cs : List Value) (S : PH) (he : e.Rep S cs) : Tri Try.prog n_pass_Told #[.agg cs.toArray] S fun x S' => PH.le S S' ∧ ∃ es : List Value, es.length = 8 ∧ x = .returned (.tuple #[.agg es.toArray, .int .i64 (if (e.chk true 0 0).2 = 0 then 0 else 101)]) ∧ (if (e.chk true 0 0).2 = 0 then e else .mk 0 [] [] dat0 []).Rep S' es := by
  have he' := he
  obtain ⟨nb, db, kb, nc, dc, kc, rfl, hx⟩ := Xp.Rep.open he
  refine tri_pass_Told (exVs e nb db kb nc dc kc) (by kernel_rfl) (by kernel_rfl) ?_
  refine den_gives [.int .i64 (e.chk true 0 0).2] cb_core_Check (CCheckF_gives e _ S he') rfl pendNil fun H1 l1 => ?_
  refine ⟨fun g => ?_, fun g => ?_⟩
  · simp only [ev0, ev, evV, List.cons_append, List.nil_append, List.getD_cons_zero, List.getD_cons_succ, List.map_cons, List.map_nil, iOf, bOf, sOf, pOf, slLen, slBase, cmpI, arI, Value.ite_bool, int_beq, int_bne, ite_band, ite_bor, decide_eq_true_eq] at g
    refine ⟨l1, [.int .i64 0, txt [], .slice none 0 0, .int .i64 0, .int .i64 0, txt [], .slice none 0 0, .slice none 0 0], rfl, ?_, by rw [if_neg g]; exact ex0_rep H1⟩
    rw [if_neg g]; rfl
  · simp only [ev0, ev, evV, List.cons_append, List.nil_append, List.getD_cons_zero, List.getD_cons_succ, List.map_cons, List.map_nil, iOf, bOf, sOf, pOf, slLen, slBase, cmpI, arI, Value.ite_bool, int_beq, int_bne, ite_band, ite_bor, decide_eq_false_iff_not, ne_eq, Decidable.not_not] at g
    refine den_call cb_pass_copied (pcopied_tri e _ H1 (Xp.Rep.le l1 e he') (chk_bounds g).1) ?_
    rintro x S2 ⟨l2, es, rfl, r2⟩
    have ht := Xp.Rep.tags r2
    have r2' := r2
    obtain ⟨p1, p2, p3, p4, p5, p6, rfl, _⟩ := Xp.Rep.open r2'
    refine ⟨_, _, rfl, ht, rfl, pendNil, PH.le_trans l1 l2, _, rfl, ?_, by rw [if_pos g]; exact r2⟩
    rw [if_pos g]; rfl
end Go.Proofs.Ytibinelkmlcmgaa.Vc
/-
  LIFT: what is lifted, plainly; does an expression have kinds?
-/
namespace Go.Proofs.Ytibinelkmlcmgaa.Vc
open Go

def exZ : Xp := .mk 0 [] [] dat0 []
def cloX (fr : List (List UInt8)) (n : Nat) : Xp := .mk 11 [] fr (.mk 1 n [] []) []
mutual
def Xp.lift (fs : List FunX) : Xp → Xp × List FunX
  | .mk k s ns d l => if k = 5 then
      (cloX (freeS (Xp.fr [] (.mk k s ns d l))) fs.length, (Xps.lift1 (fs ++ [⟨ns, freeS (Xp.fr [] (.mk k s ns d l)), exZ⟩]) l).2.set fs.length ⟨ns, freeS (Xp.fr [] (.mk k s ns d l)), (Xps.lift1 (fs ++ [⟨ns, freeS (Xp.fr [] (.mk k s ns d l)), exZ⟩]) l).1⟩)
    else (.mk k s ns d (Xps.lift fs l).1, (Xps.lift fs l).2)
def Xps.lift1 (fs : List FunX) : List Xp → Xp × List FunX
  | [] => (exZ, fs)
  | e :: _ => Xp.lift fs e
def Xps.lift (fs : List FunX) : List Xp → List Xp × List FunX
  | [] => ([], fs)
  | e :: l => ((Xp.lift fs e).1 :: (Xps.lift (Xp.lift fs e).2 l).1, (Xps.lift (Xp.lift fs e).2 l).2)
end
theorem Xps.lift_mapS : ∀ (l : List Xp) (fs : List FunX), Xps.lift fs l = mapS (fun s e => Xp.lift s e) fs l
  | [], fs => by simp only [Xps.lift, mapS]
  | e :: l, fs => by simp only [Xps.lift, mapS, Xps.lift_mapS l]
theorem Xp.lift_other (e : Xp) (fs : List FunX) (h : e.kind ≠ 5) : Xp.lift fs e = (.mk e.kind e.name e.names e.const (mapS (fun s x => Xp.lift s x) fs e.kids).1, (mapS (fun s x => Xp.lift s x) fs e.kids).2) := by
  cases e with
  | mk k s ns d l =>
    simp only [Xp.kind] at h
    simp only [Xp.lift, if_neg h, Xps.lift_mapS]; rfl
def slot (e : Xp) (b : Xp) : FunX := ⟨e.names, freeS (Xp.fr [] e), b⟩
theorem Xp.lift_lam (e b : Xp) (fs : List FunX) (h : e.kind = 5) (hb : e.kids[0]? = some b) : Xp.lift fs e = (cloX (freeS (Xp.fr [] e)) fs.length, (Xp.lift (fs ++ [slot e exZ]) b).2.set fs.length (slot e (Xp.lift (fs ++ [slot e exZ]) b).1)) := by
  cases e with
  | mk k s ns d l =>
    simp only [Xp.kind, Xp.kids] at h hb
    cases l with
    | nil => simp at hb
    | cons a l =>
      simp only [List.getElem?_cons_zero, Option.some.injEq] at hb
      subst hb
      simp only [Xp.lift, if_pos h, Xps.lift1]
      rfl
mutual
theorem Xp.lift_keep : ∀ (e : Xp) (fs : List FunX), fs.length ≤ (Xp.lift fs e).2.length ∧ (Xp.lift fs e).2.length ≤ fs.length + e.size ∧ ∀ i, i < fs.length → (Xp.lift fs e).2[i]? = fs[i]?
  | .mk k s ns d l, fs => by
    by_cases h : k = 5
    · simp only [Xp.lift, if_pos h, Xp.size]
      obtain ⟨h1, h2, h3⟩ := Xps.lift1_keep l (fs ++ [⟨ns, freeS (Xp.fr [] (.mk k s ns d l)), exZ⟩])
      rw [List.length_append, List.length_singleton] at h1 h2
      refine ⟨by rw [List.length_set]; omega, by rw [List.length_set]; omega, fun i hi => ?_⟩
      rw [List.getElem?_set_ne (by omega), h3 i (by rw [List.length_append]; omega), List.getElem?_append_left hi]
    · simp only [Xp.lift, if_neg h, Xp.size]
      obtain ⟨h1, h2, h3⟩ := Xps.lift_keep l fs
      exact ⟨h1, by omega, h3⟩
theorem Xps.lift1_keep : ∀ (l : List Xp) (fs : List FunX), fs.length ≤ (Xps.lift1 fs l).2.length ∧ (Xps.lift1 fs l).2.length ≤ fs.length + Xps.size l ∧ ∀ i, i < fs.length → (Xps.lift1 fs l).2[i]? = fs[i]?
  | [], fs => by simp [Xps.lift1]
  | e :: l, fs => by
    obtain ⟨h1, h2, h3⟩ := Xp.lift_keep e fs
    simp only [Xps.lift1, Xps.size]
    exact ⟨h1, by omega, h3⟩
theorem Xps.lift_keep : ∀ (l : List Xp) (fs : List FunX), fs.length ≤ (Xps.lift fs l).2.length ∧ (Xps.lift fs l).2.length ≤ fs.length + Xps.size l ∧ ∀ i, i < fs.length → (Xps.lift fs l).2[i]? = fs[i]?
  | [], fs => by simp [Xps.lift]
  | e :: l, fs => by
    obtain ⟨h1, h2, h3⟩ := Xp.lift_keep e fs
    obtain ⟨h4, h5, h6⟩ := Xps.lift_keep l (Xp.lift fs e).2
    simp only [Xps.lift, Xps.size]
    exact ⟨by omega, by omega, fun i hi => by rw [h6 i (by omega), h3 i hi]⟩
end
theorem Xps.size_append : ∀ l m : List Xp, Xps.size (l ++ m) = Xps.size l + Xps.size m
  | [], m => by simp [Xps.size]
  | e :: l, m => by simp only [List.cons_append, Xps.size, Xps.size_append l m]; omega
theorem Xps.size_at {l : List Xp} {j : Nat} {a : Xp} (h : l[j]? = some a) : Xps.size (l.take j) + a.size ≤ Xps.size l := by
  have := Xps.size_append (l.take j) (l.drop j)
  rw [List.take_append_drop, drop_get h, Xps.size] at this
  omega
theorem Xp.size_eq (e : Xp) : e.size = 1 + Xps.size e.kids := by cases e; simp only [Xp.size, Xp.kids]
theorem lam_kid {e : Xp} (h : e.okF true) (h5 : e.kind = 5) : ∃ b, e.kids[0]? = some b ∧ b ∈ e.kids := by
  have hf := (Xp.okF_form h).1
  unfold exForm at hf
  rw [if_neg (by omega), if_neg (by omega), if_neg (by omega), if_neg (by omega), if_neg (by omega)] at hf
  simp only [h5, if_true, Bool.and_eq_true, decide_eq_true_eq] at hf
  have hl := hf.2.2
  refine ⟨e.kids[0]'(by omega), List.getElem?_eq_getElem (by omega), List.getElem_mem ..⟩

/-! ### does it have kinds? -/
mutual
def Xp.any (p : Int → Bool) : Xp → Bool
  | .mk k _ _ _ l => p k || Xps.any p l
def Xps.any (p : Int → Bool) : List Xp → Bool
  | [] => false
  | e :: l => Xp.any p e || Xps.any p l
end
mutual
theorem Xp.any_or (p q : Int → Bool) : ∀ e : Xp, Xp.any (fun k => p k || q k) e = (Xp.any p e || Xp.any q e)
  | .mk k _ _ _ l => by
    simp only [Xp.any, Xps.any_or p q l]
    cases p k <;> cases q k <;> cases Xps.any p l <;> cases Xps.any q l <;> rfl
theorem Xps.any_or (p q : Int → Bool) : ∀ l : List Xp, Xps.any (fun k => p k || q k) l = (Xps.any p l || Xps.any q l)
  | [] => by simp only [Xps.any]; rfl
  | e :: l => by
    simp only [Xps.any, Xp.any_or p q e, Xps.any_or p q l]
    cases Xp.any p e <;> cases Xp.any q e <;> cases Xps.any p l <;> cases Xps.any q l <;> rfl
end
theorem Xp.any_eq (p : Int → Bool) (e : Xp) : e.any p = (p e.kind || Xps.any p e.kids) := by cases e; simp only [Xp.any, Xp.kind, Xp.kids]
def badK (k : Int) : Bool := decide (k = 9) || decide (k = 2)
theorem Bad_gives (e : Xp) (cs : List Value) (H : PH) (he : e.Rep H cs) : Gives Try.prog n_lift_isBad [.agg cs.toArray] H (.bool (badK e.kind)) := by
  obtain ⟨nb, db, kb, nc, dc, kc, rfl, hx⟩ := Xp.Rep.open he
  refine tri_lift_isBad (exVs e nb db kb nc dc kc) (by kernel_rfl) (by kernel_rfl) ⟨?_, PH.le_refl _⟩
  simp only [ev0, ev, evV, List.cons_append, List.nil_append, List.getD_cons_zero, List.getD_cons_succ, List.map_cons, List.map_nil, iOf, bOf, sOf, pOf, slLen, slBase, cmpI, arI, Value.ite_bool, int_beq, int_bne, ite_band, ite_bor, badK]
theorem Any_gives : ∀ (e : Xp) (cs : List Value) (H : PH), e.Rep H cs → Gives Try.prog n_pass_Any [.agg cs.toArray, .func (.func n_lift_isBad) #[] #[]] H (.bool (e.any badK)) := by
  refine Xp.ind fun e ih cs H he => ?_
  have he' := he
  obtain ⟨nb, db, kb, nc, dc, kc, rfl, hx⟩ := Xp.Rep.open he
  have hk := hx.kids.max
  simp only [maxLen] at hk
  refine tri_pass_Any (exVs e nb db kb nc dc kc ++ [.func (.func n_lift_isBad) #[] #[]]) (by kernel_rfl) (by kernel_rfl) ?_
  rw [Xp.any_eq]
  refine den_callF (f := n_lift_isBad) (first := #[]) (caps := #[]) (by rfl) cb_lift_isBad (Bad_gives e _ H he') ?_
  rintro x H1 ⟨rfl, l1⟩
  refine ⟨_, [.bool (badK e.kind)], rfl, rfl, rfl, pendNil, ?_⟩
  refine ⟨fun g => ?_, fun g => ?_⟩
  · simp only [ev0, ev, evV, List.cons_append, List.nil_append, List.getD_cons_zero, List.getD_cons_succ, List.map_cons, List.map_nil, iOf, bOf, sOf, pOf, slLen, slBase, cmpI, arI, Value.ite_bool, int_beq, int_bne, ite_band, ite_bor] at g
    refine ⟨?_, l1⟩
    rw [g]; rfl
  simp only [ev0, ev, evV, List.cons_append, List.nil_append, List.getD_cons_zero, List.getD_cons_succ, List.map_cons, List.map_nil, iOf, bOf, sOf, pOf, slLen, slBase, cmpI, arI, Value.ite_bool, int_beq, int_bne, ite_band, ite_bor] at g
  refine ⟨fun n vs H' => ∃ k : Nat, vs = [.bool false, .int .i64 k] ∧ k + n = e.kids.length ∧ (badK e.kind || Xps.any badK e.kids) = Xps.any badK (e.kids.drop k) ∧ PH.le H H', ⟨e.kids.length, 0, rfl, by omega, by rw [g, List.drop_zero]; rfl, l1⟩, ?_⟩
  rintro n vs H2 _ ⟨k, rfl, hkn, hz, l2⟩
  refine ⟨fun g1 => ?_, fun g1 => ?_⟩
  · simp only [ev0, ev, evV, List.cons_append, List.nil_append, List.getD_cons_zero, List.getD_cons_succ, List.map_cons, List.map_nil, iOf, bOf, sOf, pOf, slLen, slBase, cmpI, arI, Value.ite_bool, int_beq, int_bne, ite_band, ite_bor, decide_eq_true_eq] at g1
    obtain ⟨a, ha⟩ : ∃ a, e.kids[k]? = some a := ⟨_, List.getElem?_eq_getElem (show k < e.kids.length by omega)⟩
    obtain ⟨q1, _, ces, g2, g3⟩ := (hx.kids.le l2).get ha
    have hmem := List.mem_of_getElem? ha
    have htags := Xp.Rep.tags g2
    have g2' := g2
    obtain ⟨nb', db', kb', nc', dc', kc', rfl, _⟩ := Xp.Rep.open g2'
    refine ⟨fun _ => ?_, _, htags, by simp only [ev0, ev, evV, List.cons_append, List.nil_append, List.getD_cons_zero, List.getD_cons_succ, List.map_cons, List.map_nil, iOf, bOf, sOf, pOf, slLen, slBase, cmpI, arI, Value.ite_bool, int_beq, int_bne, ite_band, ite_bor]; exact g3, ?_⟩
    · simp only [Chk.holds, ev0, ev, evV, List.cons_append, List.nil_append, List.getD_cons_zero, List.getD_cons_succ, List.map_cons, List.map_nil, iOf, bOf, sOf, pOf, slLen, slBase, cmpI, arI, Value.ite_bool, int_beq, int_bne, ite_band, ite_bor]; exact ⟨q1, by omega, by omega⟩
    rw [drop_get ha, Xps.any] at hz
    refine den_gives [.bool (a.any badK)] cb_pass_Any (ih a hmem _ H2 g2) rfl pendNil fun H3 l3 => ?_
    refine ⟨fun g4 => ?_, fun g4 => ?_⟩
    · simp only [ev0, ev, evV, List.cons_append, List.nil_append, List.getD_cons_zero, List.getD_cons_succ, List.map_cons, List.map_nil, iOf, bOf, sOf, pOf, slLen, slBase, cmpI, arI, Value.ite_bool, int_beq, int_bne, ite_band, ite_bor] at g4
      rw [hz, g4]
      exact ⟨rfl, PH.le_trans l2 l3⟩
    · simp only [ev0, ev, evV, List.cons_append, List.nil_append, List.getD_cons_zero, List.getD_cons_succ, List.map_cons, List.map_nil, iOf, bOf, sOf, pOf, slLen, slBase, cmpI, arI, Value.ite_bool, int_beq, int_bne, ite_band, ite_bor] at g4
      refine ⟨_, lookup_hit, n - 1, by omega, k + 1, ?_, by omega, by rw [hz, g4]; rfl, PH.le_trans l2 l3⟩
      simp only [ev0, ev, evV, List.cons_append, List.nil_append, List.getD_cons_zero, List.getD_cons_succ, List.map_cons, List.map_nil, iOf, bOf, sOf, pOf, slLen, slBase, cmpI, arI, Value.ite_bool, int_beq, int_bne, ite_band, ite_bor]
      rw [w64 (by omega) (by omega)]
      rfl
  · simp only [ev0, ev, evV, List.cons_append, List.nil_append, List.getD_cons_zero, List.getD_cons_succ, List.map_cons, List.map_nil, iOf, bOf, sOf, pOf, slLen, slBase, cmpI, arI, Value.ite_bool, int_beq, int_bne, ite_band, ite_bor, decide_eq_false_iff_not] at g1
    rw [List.drop_eq_nil_of_le (by omega)] at hz
    rw [hz]
    exact ⟨by simp only [Xps.any]; rfl, l2⟩
theorem Has10_gives (k0 : Int) : ∀ (e : Xp) (cs : List Value) (H : PH), e.Rep H cs → Gives Try.prog n_scrimshawref10_Has [.agg cs.toArray, .int .i64 k0] H (.bool (e.any fun k => decide (k = k0))) := by
  refine Xp.ind fun e ih cs H he => ?_
  have he' := he
  obtain ⟨nb, db, kb, nc, dc, kc, rfl, hx⟩ := Xp.Rep.open he
  have hk := hx.kids.max
  simp only [maxLen] at hk
  refine tri_scrimshawref10_Has (exVs e nb db kb nc dc kc ++ [.int .i64 k0]) (by kernel_rfl) (by kernel_rfl) ?_
  rw [Xp.any_eq]
  refine ⟨fun g => ?_, fun g => ?_⟩
  · simp only [ev0, ev, evV, List.cons_append, List.nil_append, List.getD_cons_zero, List.getD_cons_succ, List.map_cons, List.map_nil, iOf, bOf, sOf, pOf, slLen, slBase, cmpI, arI, Value.ite_bool, int_beq, int_bne, ite_band, ite_bor, decide_eq_true_eq] at g
    refine ⟨?_, PH.le_refl _⟩
    rw [g]; simp [ev0, ev, evV, List.cons_append, List.nil_append, List.getD_cons_zero, List.getD_cons_succ, List.map_cons, List.map_nil, iOf, bOf, sOf, pOf, slLen, slBase, cmpI, arI, Value.ite_bool, int_beq, int_bne, ite_band, ite_bor]
  simp only [ev0, ev, evV, List.cons_append, List.nil_append, List.getD_cons_zero, List.getD_cons_succ, List.map_cons, List.map_nil, iOf, bOf, sOf, pOf, slLen, slBase, cmpI, arI, Value.ite_bool, int_beq, int_bne, ite_band, ite_bor, decide_eq_false_iff_not] at g
  refine ⟨fun n vs H' => ∃ k : Nat, vs = [.bool false, .int .i64 k] ∧ k + n = e.kids.length ∧ (decide (e.kind = k0) || Xps.any (fun k => decide (k = k0)) e.kids) = Xps.any (fun k => decide (k = k0)) (e.kids.drop k) ∧ PH.le H H', ⟨e.kids.length, 0, rfl, by omega, by rw [decide_eq_false g, List.drop_zero]; rfl, PH.le_refl _⟩, ?_⟩
  rintro n vs H2 _ ⟨k, rfl, hkn, hz, l2⟩
  refine ⟨fun g1 => ?_, fun g1 => ?_⟩
  · simp only [ev0, ev, evV, List.cons_append, List.nil_append, List.getD_cons_zero, List.getD_cons_succ, List.map_cons, List.map_nil, iOf, bOf, sOf, pOf, slLen, slBase, cmpI, arI, Value.ite_bool, int_beq, int_bne, ite_band, ite_bor, decide_eq_true_eq] at g1
    obtain ⟨a, ha⟩ : ∃ a, e.kids[k]? = some a := ⟨_, List.getElem?_eq_getElem (show k < e.kids.length by omega)⟩
    obtain ⟨q1, _, ces, g2, g3⟩ := (hx.kids.le l2).get ha
    have hmem := List.mem_of_getElem? ha
    have htags := Xp.Rep.tags g2
    have g2' := g2
    obtain ⟨nb', db', kb', nc', dc', kc', rfl, _⟩ := Xp.Rep.open g2'
    refine ⟨fun _ => ?_, _, htags, by simp only [ev0, ev, evV, List.cons_append, List.nil_append, List.getD_cons_zero, List.getD_cons_succ, List.map_cons, List.map_nil, iOf, bOf, sOf, pOf, slLen, slBase, cmpI, arI, Value.ite_bool, int_beq, int_bne, ite_band, ite_bor]; exact g3, ?_⟩
    · simp only [Chk.holds, ev0, ev, evV, List.cons_append, List.nil_append, List.getD_cons_zero, List.getD_cons_succ, List.map_cons, List.map_nil, iOf, bOf, sOf, pOf, slLen, slBase, cmpI, arI, Value.ite_bool, int_beq, int_bne, ite_band, ite_bor]; exact ⟨q1, by omega, by omega⟩
    rw [drop_get ha, Xps.any] at hz
    refine den_gives [.bool (a.any fun k => decide (k = k0))] cb_scrimshawref10_Has (ih a hmem _ H2 g2) rfl pendNil fun H3 l3 => ?_
    refine ⟨fun g4 => ?_, fun g4 => ?_⟩
    · simp only [ev0, ev, evV, List.cons_append, List.nil_append, List.getD_cons_zero, List.getD_cons_succ, List.map_cons, List.map_nil, iOf, bOf, sOf, pOf, slLen, slBase, cmpI, arI, Value.ite_bool, int_beq, int_bne, ite_band, ite_bor] at g4
      rw [hz, g4]
      exact ⟨rfl, PH.le_trans l2 l3⟩
    · simp only [ev0, ev, evV, List.cons_append, List.nil_append, List.getD_cons_zero, List.getD_cons_succ, List.map_cons, List.map_nil, iOf, bOf, sOf, pOf, slLen, slBase, cmpI, arI, Value.ite_bool, int_beq, int_bne, ite_band, ite_bor] at g4
      refine ⟨_, lookup_hit, n - 1, by omega, k + 1, ?_, by omega, by rw [hz, g4]; rfl, PH.le_trans l2 l3⟩
      simp only [ev0, ev, evV, List.cons_append, List.nil_append, List.getD_cons_zero, List.getD_cons_succ, List.map_cons, List.map_nil, iOf, bOf, sOf, pOf, slLen, slBase, cmpI, arI, Value.ite_bool, int_beq, int_bne, ite_band, ite_bor]
      rw [w64 (by omega) (by omega)]
      rfl
  · simp only [ev0, ev, evV, List.cons_append, List.nil_append, List.getD_cons_zero, List.getD_cons_succ, List.map_cons, List.map_nil, iOf, bOf, sOf, pOf, slLen, slBase, cmpI, arI, Value.ite_bool, int_beq, int_bne, ite_band, ite_bor, decide_eq_false_iff_not] at g1
    rw [List.drop_eq_nil_of_le (by omega)] at hz
    rw [hz]
    exact ⟨by simp only [Xps.any]; rfl, l2⟩
end Go.Proofs.Ytibinelkmlcmgaa.Vc
/-
  LIFT: the program's walk.
-/
namespace Go.Proofs.Ytibinelkmlcmgaa.Vc
open Go

section
variable {P : Program} {X : List PanicEntry → PH → Prop} {β : Type} {E : List Value} {H : PH} {L : LK} {K : β → List Value → PH → LK → Prop}
theorem den_makeFunc' {fn : Fn} {first caps : Array Operand} {ty : TypeId} {args : List (Nat × VE)} {k : Fm β} {f : FuncId} {F C : Array Value} (hf : fn = .func f) (h1 : first.map (argEv E args) = F) (h2 : caps.map (argEv E args) = C) (hk : den P X k (E ++ [.func (.func f) F C]) H L K) :
    den P X (.sem (.makeFunc fn first caps) ty args (.sc .any) [] k) E H L K := by
  subst h1 h2
  exact den_makeFunc hf hk
end
def JF (r : Nat) (T : TypeId) (fs : List FunX) (Js : List Itm) : Prop := ∃ fv, Js = [bx r T [fv], orow 44 fs fv]
theorem clo_rep {S : PH} {fr : List (List UInt8)} {v : Value} {n : Nat} (hn : n ≤ 900000) (h : SlR S fr v) : (cloX fr n).Rep S [.int .i64 11, txt [], v, .int .i64 1, .int .i64 (n : Int), txt [], .slice none 0 0, .slice none 0 0] :=
  Xp.Rep_iff.2 ⟨_, _, _, rfl, (by decide : InI 11), Nat.zero_le _, h, leaf_rep (by decide) (by unfold InI; omega) (by decide), SlR.mk_iff.2 ⟨Nat.zero_le _, .inl ⟨rfl, rfl⟩⟩⟩
theorem slot_rep {S : PH} {e b : Xp} {v w : Value} {bs : List Value} (h1 : SlR S e.names v) (h2 : SlR S (freeS (Xp.fr [] e)) w) (h3 : b.Rep S bs) : CsR S (slot e b) (v :: w :: bs) := fun_iff.2 ⟨_, _, _, rfl, h1, h2, h3⟩
theorem freeS_len (l : List (List UInt8)) : (freeS l).length ≤ l.length := by
  rw [← freeS_puts]
  have := putsT_len l []
  simpa using this
theorem free_len (e : Xp) : (freeS (Xp.fr [] e)).length ≤ e.size := Nat.le_trans (freeS_len _) (Xp.fr_len e [])
theorem CLift_tri (r : Nat) (T : TypeId) : ∀ (e : Xp) (cs : List Value) (S K : PH) (fs : List FunX) (Js : List Itm), Held S K Js → JF r T fs Js → e.Rep S cs → e.okF true → e.size ≤ 4096 → fs.length + e.size ≤ 900000 →
    Tri Try.prog n_lift_lifter__lift #[pAt r, .agg cs.toArray] K fun x K' => ∃ S' J', PH.le S S' ∧ Held S' K' J' ∧ JF r T (Xp.lift fs e).2 J' ∧ XRet S' (Xp.lift fs e).1 x := by
  refine Xp.ind fun e ih cs S K fs Js h hJ he hok hsz hfl => ?_
  obtain ⟨fv, rfl⟩ := hJ
  have he' := he
  obtain ⟨nb, db, kb, nc, dc, kc, rfl, hx⟩ := Xp.Rep.open he
  have hbn := Xp.okF_bnd true e hok
  have hfit := Xp.fit_of e hsz (by omega)
  obtain ⟨f1, f2, f3⟩ := (Xp.fit_iff e).1 hfit
  have hse := Xp.size_eq e
  have hkok := (Xp.okF_form hok).2
  obtain ⟨fb, fc, rfl⟩ := (h.row (List.mem_cons_of_mem _ (List.mem_cons_self ..))).sl
  refine tri_lift_lifter__lift (pAt r :: exVs e nb db kb nc dc kc) (by kernel_rfl) (by kernel_rfl) ?_
  refine ⟨fun g => ?_, fun g => ?_⟩
  · simp only [ev0, ev, evV, List.cons_append, List.nil_append, List.getD_cons_zero, List.getD_cons_succ, List.map_cons, List.map_nil, iOf, bOf, sOf, pOf, slLen, slBase, cmpI, arI, Value.ite_bool, int_beq, int_bne, ite_band, ite_bor, decide_eq_true_eq] at g
    rw [Xp.lift_other e fs g]
    refine den_makeFunc' (f := n_lift_lifter__lift) (F := #[pAt r]) (C := #[]) rfl (by kernel_rfl) (by kernel_rfl) ?_
    have hmap : Tri Try.prog n_pass_Map #[.agg (exVs e nb db kb nc dc kc).toArray, .func (.func n_lift_lifter__lift) #[pAt r] #[]] K fun x K' => ∃ S' J', PH.le S S' ∧ Held S' K' J' ∧ JF r T (mapS (fun s x => Xp.lift s x) fs e.kids).2 J' ∧ XRet S' (.mk e.kind e.name e.names e.const (mapS (fun s x => Xp.lift s x) fs e.kids).1) x := by
      refine Map_tri (fun s x => Xp.lift s x) (JF r T) fs e _ S K _ (g := n_lift_lifter__lift) (first := #[pAt r]) (caps := #[]) cb_lift_lifter__lift h ⟨_, rfl⟩ he' f2 ?_
      intro j k hj S' K' Js cs l' h' hJs hk
      have hm := List.mem_of_getElem? hj
      have h1 := Xps.size_at hj
      have h2 := Xps.lift_keep (e.kids.take j) fs
      rw [Xps.lift_mapS] at h2
      exact ih k hm cs S' K' _ Js h' hJs hk (hkok k hm) (by omega) (by omega)
    refine den_call cb_pass_Map hmap ?_
    rintro x K2 ⟨S2, J2, l2, h2, hj2, es, rfl, r2⟩
    have ht := Xp.Rep.tags r2
    have r2' := r2
    obtain ⟨p1, p2, p3, p4, p5, p6, rfl, _⟩ := Xp.Rep.open r2'
    exact ⟨_, _, rfl, ht, rfl, pendNil, S2, J2, l2, h2, hj2, _, rfl, r2⟩
  simp only [ev0, ev, evV, List.cons_append, List.nil_append, List.getD_cons_zero, List.getD_cons_succ, List.map_cons, List.map_nil, iOf, bOf, sOf, pOf, slLen, slBase, cmpI, arI, Value.ite_bool, int_beq, int_bne, ite_band, ite_bor, decide_eq_false_iff_not, ne_eq, Decidable.not_not] at g
  obtain ⟨b, hb0, hbm⟩ := lam_kid hok g
  have hbs := Xps.size_at hb0
  have hlen := free_len e
  rw [Xp.lift_lam e b fs g hb0]
  refine ⟨fun _ => rfl, ?_⟩
  refine den_bxLoad [.slice fb fs.length fc] (off := 0) (by kernel_rfl) h (List.mem_cons_self ..) rfl rfl ?_
  have hfree := h.pure (R := fun x S' => ∃ v, x = .returned v ∧ SlR S' (freeS (Xp.fr [] e)) v) ((CFree_tri e _ S he' (by omega) (by omega)).mono fun x S' ⟨v, q1, q2, q3⟩ => ⟨q3, v, q1, q2⟩)
  refine den_call cb_core_Free hfree ?_
  rintro x K1 ⟨S1, l1, h1, v1, rfl, s1⟩
  obtain ⟨b1, c1, rfl⟩ := s1.sl
  refine ⟨_, [.slice b1 (freeS (Xp.fr [] e)).length c1], rfl, rfl, rfl, pendNil, ?_⟩
  refine den_bxLoad [.slice fb fs.length fc] (off := 0) (by kernel_rfl) h1 (List.mem_cons_self ..) rfl rfl ?_
  refine den_call (by kernel_rfl) (h1.pure (R := fun x S' => ∃ v', x = .returned v' ∧ SlR S' e.names v') (CloneS_tri e.names _ S1 (hx.names.le l1) f1)) ?_
  rintro x K2 ⟨S2, l2, h2, v2, rfl, s2⟩
  obtain ⟨b2, c2, rfl⟩ := s2.sl
  refine ⟨_, [.slice b2 e.names.length c2], rfl, rfl, rfl, ?_, ?_⟩
  · intro x hx
    rw [List.mem_singleton.1 hx]
    exact bx_row h2 (List.mem_cons_self ..) 0 1
  have hpush := h2.perm (List.Perm.swap _ _ _)
  refine den_hPush (more := [slot e exZ]) (b := 176) [.agg #[.slice b2 e.names.length c2, .slice b1 (freeS (Xp.fr [] e)).length c1, .int .i64 0, txt [], .slice none 0 0, .int .i64 0, .int .i64 0, txt [], .slice none 0 0, .slice none 0 0]] uFuns elemFun rfl (by decide) (by decide) hpush (by kernel_rfl) (.cons (slot_rep s2 (s1.le l2) (ex0_rep S2)) .nil)
    ?_ (fun _ => by kernel_rfl) (fun _ => by kernel_rfl)
    (by simp only [maxLen, List.length_cons, List.length_nil]; omega) (by simp only [List.length_cons, List.length_nil]; omega) fun u v3 S3 K3 l3 h3 => ⟨pendNil, ?_⟩
  · intro x hx
    rw [List.mem_singleton.1 hx]
    exact bx_row h2 (List.mem_cons_self ..) 0 1
  have h3' := h3.perm (List.Perm.swap _ _ _)
  refine den_bxStore (off := 0) (vs := [v3]) (by kernel_rfl) h3' (by kernel_rfl) (by obtain ⟨_, _, e3⟩ := (h3.row (List.mem_cons_self ..)).sl; rw [e3]; simp [oneC]) (by simp) fun K4 h4 => ?_
  have h4 : Held S3 K4 [bx r T [v3], orow 44 (fs ++ [slot e exZ]) v3] := h4
  have l03 := PH.le_trans l1 (PH.le_trans l2 l3)
  obtain ⟨q1, _, ces, q2, q3⟩ := (hx.kids.le l03).get hb0
  have htags := Xp.Rep.tags q2
  have q2' := q2
  obtain ⟨p1, p2, p3, p4, p5, p6, rfl, _⟩ := Xp.Rep.open q2'
  refine ⟨fun _ => ?_, _, htags, by simp only [ev0, ev, evV, List.cons_append, List.nil_append, List.getD_cons_zero, List.getD_cons_succ, List.map_cons, List.map_nil, iOf, bOf, sOf, pOf, slLen, slBase, cmpI, arI, Value.ite_bool, int_beq, int_bne, ite_band, ite_bor]; exact rowAt_le h4.sh q3, ?_⟩
  · simp only [Chk.holds, ev0, ev, evV, List.cons_append, List.nil_append, List.getD_cons_zero, List.getD_cons_succ, List.map_cons, List.map_nil, iOf, bOf, sOf, pOf, slLen, slBase, cmpI, arI, Value.ite_bool, int_beq, int_bne, ite_band, ite_bor]; exact ⟨q1, by omega, by
      have := (List.getElem?_eq_some_iff.1 hb0).1
      omega⟩
  refine den_call cb_lift_lifter__lift (ih b hbm _ S3 K4 (fs ++ [slot e exZ]) _ h4 ⟨_, rfl⟩ q2 (hkok b hbm) (by omega) (by rw [List.length_append, List.length_singleton]; omega)) ?_
  rintro x K5 ⟨S5, J5, l5, h5, ⟨fv5, rfl⟩, es, rfl, r5⟩
  obtain ⟨n1, n2, n3⟩ := Xp.lift_keep b (fs ++ [slot e exZ])
  rw [List.length_append, List.length_singleton] at n1 n2
  have hat : (Xp.lift (fs ++ [slot e exZ]) b).2[fs.length]? = some (slot e exZ) := by
    rw [n3 _ (by rw [List.length_append, List.length_singleton]; omega), List.getElem?_append_right (by omega)]
    simp
  generalize hrb : Xp.lift (fs ++ [slot e exZ]) b = rb at h5 r5 n1 n2 n3 hat
  have ht5 := Xp.Rep.tags r5
  have r5' := r5
  obtain ⟨w1, w2, w3, w4, w5, w6, rfl, _⟩ := Xp.Rep.open r5'
  refine ⟨_, exVs rb.1 w1 w2 w3 w4 w5 w6, rfl, ht5, rfl, pendNil, ?_⟩
  have hrow := h5.row (List.mem_cons_of_mem _ (List.mem_cons_self ..))
  obtain ⟨b5, c5, hv5⟩ := hrow.sl
  subst hv5
  refine den_bxLoad [.slice b5 rb.2.length c5] (off := 0) (by kernel_rfl) h5 (List.mem_cons_self ..) rfl rfl ?_
  refine ⟨fun _ => ?_, ?_⟩
  · obtain ⟨y1, _⟩ := (hrow.slR h5.sh).get hat
    simp only [Chk.holds, ev0, ev, evV, List.cons_append, List.nil_append, List.getD_cons_zero, List.getD_cons_succ, List.map_cons, List.map_nil, iOf, bOf, sOf, pOf, slLen, slBase, cmpI, arI, Value.ite_bool, int_beq, int_bne, ite_band, ite_bor]; exact ⟨y1, by omega, by omega⟩
  have s1' := s1.le (PH.le_trans l2 (PH.le_trans l3 l5))
  have s2' := s2.le (PH.le_trans l3 l5)
  refine den_hPut (i := fs.length) (off := 2) (a := slot e exZ) (a' := slot e rb.1) (us := exVs rb.1 w1 w2 w3 w4 w5 w6) (by kernel_rfl) (h5.perm (List.Perm.swap _ _ _)) hat (show 2 + 8 ≤ 10 by omega) (by kernel_rfl) (by simp [oneC]) ?_ fun K6 h6 => ?_
  · intro ces hc
    obtain ⟨pv, fv, bs, rfl, c1, c2, c3⟩ := fun_iff.1 hc
    have hl : bs.length = 8 := (PV.RepRow.length c3).trans (Xp.pv_len _)
    have : (pv :: fv :: bs).drop 10 = [] := List.drop_eq_nil_of_le (by simp [hl])
    show CsR S5 (slot e rb.1) (pv :: fv :: exVs rb.1 w1 w2 w3 w4 w5 w6 ++ (pv :: fv :: bs).drop 10)
    rw [this, List.append_nil]
    exact slot_rep c1 c2 r5
  refine den_call (by kernel_rfl) (h6.pure (R := fun x S' => ∃ v', x = .returned v' ∧ SlR S' (freeS (Xp.fr [] e)) v') (CloneS_tri _ _ S5 s1' (by omega))) ?_
  rintro x K7 ⟨S7, l7, h7, v7, rfl, s7⟩
  obtain ⟨b7, c7, rfl⟩ := s7.sl
  refine ⟨_, [.slice b7 (freeS (Xp.fr [] e)).length c7], rfl, rfl, rfl, pendNil, ?_⟩
  exact ⟨S7, _, PH.le_trans l03 (PH.le_trans l5 l7), h7.perm (List.Perm.swap _ _ _), ⟨_, rfl⟩, _, rfl, clo_rep (by omega) s7⟩
end Go.Proofs.Ytibinelkmlcmgaa.Vc
/-
  LIFT: the document's walk; both Lifts.
-/
namespace Go.Proofs.Ytibinelkmlcmgaa.Vc
open Go

def RLR (fs : List FunX) (e : Xp) (x : Ending) (S' : PH) (J' : List Itm) : Prop := ∃ (fv' : Value) (es : List Value), J' = [orow 44 (Xp.lift fs e).2 fv'] ∧ x = .returned (.tuple #[.agg es.toArray, fv']) ∧ (Xp.lift fs e).1.Rep S' es
theorem RLift14_tri : ∀ (e : Xp) (cs : List Value) (S K : PH) (fs : List FunX) (fv : Value), Held S K [orow 44 fs fv] → e.Rep S cs → e.okF true → e.size ≤ 4096 → fs.length + e.size ≤ 900000 →
    Tri Try.prog n_scrimshawref14_lift #[.agg cs.toArray, fv] K fun x K' => ∃ S' J', PH.le S S' ∧ Held S' K' J' ∧ RLR fs e x S' J' := by
  refine Xp.ind fun e ih cs S K fs fv h he hok hsz hfl => ?_
  have he' := he
  obtain ⟨nb, db, kb, nc, dc, kc, rfl, hx⟩ := Xp.Rep.open he
  have hbn := Xp.okF_bnd true e hok
  have hfit := Xp.fit_of e hsz (by omega)
  obtain ⟨f1, f2, f3⟩ := (Xp.fit_iff e).1 hfit
  have hse := Xp.size_eq e
  have hkok := (Xp.okF_form hok).2
  obtain ⟨fb, fc, rfl⟩ := (h.row (List.mem_cons_self ..)).sl
  refine tri_scrimshawref14_lift (exVs e nb db kb nc dc kc ++ [.slice fb fs.length fc]) (by kernel_rfl) (by kernel_rfl) ?_
  refine ⟨fun g => ?_, fun g => ?_⟩
  · simp only [ev0, ev, evV, List.cons_append, List.nil_append, List.getD_cons_zero, List.getD_cons_succ, List.map_cons, List.map_nil, iOf, bOf, sOf, pOf, slLen, slBase, cmpI, arI, Value.ite_bool, int_beq, int_bne, ite_band, ite_bor, decide_eq_true_eq] at g
    obtain ⟨b, hb0, hbm⟩ := lam_kid hok g
    have hbs := Xps.size_at hb0
    have hlen := free_len e
    unfold RLR
    rw [Xp.lift_lam e b fs g hb0]
    refine den_call cb_scrimshawref06_Free (h.pure (RFree_tri e _ S he' (by omega) (by omega))) ?_
    rintro x K1 ⟨S1, l1, h1, v1, rfl, s1⟩
    obtain ⟨b1, c1, rfl⟩ := s1.sl
    refine ⟨_, [.slice b1 (freeS (Xp.fr [] e)).length c1], rfl, rfl, rfl, pendNil, ?_⟩
    refine den_hPush (more := [slot e exZ]) (b := 176) [.agg #[.slice nb e.names.length nc, .slice b1 (freeS (Xp.fr [] e)).length c1, .int .i64 0, txt [], .slice none 0 0, .int .i64 0, .int .i64 0, txt [], .slice none 0 0, .slice none 0 0]] uFuns elemFun rfl (by decide) (by decide) h1 (by kernel_rfl) (.cons (slot_rep (hx.names.le l1) s1 (ex0_rep S1)) .nil)
      pendNil (fun _ => by kernel_rfl) (fun _ => by kernel_rfl)
      (by simp only [maxLen, List.length_cons, List.length_nil]; omega) (by simp only [List.length_cons, List.length_nil]; omega) fun u v3 S3 K3 l3 h3 => ⟨pendNil, ?_⟩
    have l03 := PH.le_trans l1 l3
    obtain ⟨q1, _, ces, q2, q3⟩ := (hx.kids.le l03).get hb0
    have htags := Xp.Rep.tags q2
    have q2' := q2
    obtain ⟨p1, p2, p3, p4, p5, p6, rfl, _⟩ := Xp.Rep.open q2'
    refine ⟨fun _ => ?_, _, htags, by simp only [ev0, ev, evV, List.cons_append, List.nil_append, List.getD_cons_zero, List.getD_cons_succ, List.map_cons, List.map_nil, iOf, bOf, sOf, pOf, slLen, slBase, cmpI, arI, Value.ite_bool, int_beq, int_bne, ite_band, ite_bor]; exact rowAt_le h3.sh q3, ?_⟩
    · simp only [Chk.holds, ev0, ev, evV, List.cons_append, List.nil_append, List.getD_cons_zero, List.getD_cons_succ, List.map_cons, List.map_nil, iOf, bOf, sOf, pOf, slLen, slBase, cmpI, arI, Value.ite_bool, int_beq, int_bne, ite_band, ite_bor]; exact ⟨q1, by omega, by
        have := (List.getElem?_eq_some_iff.1 hb0).1
        omega⟩
    refine den_call cb_scrimshawref14_lift (ih b hbm _ S3 K3 (fs ++ [slot e exZ]) v3 h3 q2 (hkok b hbm) (by omega) (by rw [List.length_append, List.length_singleton]; omega)) ?_
    rintro x K5 ⟨S5, J5, l5, h5, fv5, es, rfl, rfl, r5⟩
    obtain ⟨n1, n2, n3⟩ := Xp.lift_keep b (fs ++ [slot e exZ])
    rw [List.length_append, List.length_singleton] at n1 n2
    have hat : (Xp.lift (fs ++ [slot e exZ]) b).2[fs.length]? = some (slot e exZ) := by
      rw [n3 _ (by rw [List.length_append, List.length_singleton]; omega), List.getElem?_append_right (by omega)]
      simp
    generalize hrb : Xp.lift (fs ++ [slot e exZ]) b = rb at h5 r5 n1 n2 n3 hat
    have ht5 := Xp.Rep.tags r5
    have r5' := r5
    obtain ⟨w1, w2, w3, w4, w5, w6, rfl, _⟩ := Xp.Rep.open r5'
    have hrow := h5.row (List.mem_cons_self ..)
    obtain ⟨b5, c5, hv5⟩ := hrow.sl
    subst hv5
    refine ⟨_, exVs rb.1 w1 w2 w3 w4 w5 w6 ++ [.slice b5 rb.2.length c5], rfl, rfl, rfl, pendNil, ?_⟩
    refine ⟨fun _ => ?_, ?_⟩
    · obtain ⟨y1, _⟩ := (hrow.slR h5.sh).get hat
      simp only [Chk.holds, ev0, ev, evV, List.cons_append, List.nil_append, List.getD_cons_zero, List.getD_cons_succ, List.map_cons, List.map_nil, iOf, bOf, sOf, pOf, slLen, slBase, cmpI, arI, Value.ite_bool, int_beq, int_bne, ite_band, ite_bor]; exact ⟨y1, by omega, by omega⟩
    have s1' := s1.le (PH.le_trans l3 l5)
    refine den_hPut (i := fs.length) (off := 2) (a := slot e exZ) (a' := slot e rb.1) (us := exVs rb.1 w1 w2 w3 w4 w5 w6) (by kernel_rfl) h5 hat (show 2 + 8 ≤ 10 by omega) (by kernel_rfl) (by simp [oneC]) ?_ fun K6 h6 => ?_
    · intro ces hc
      obtain ⟨pv, fv, bs, rfl, c1, c2, c3⟩ := fun_iff.1 hc
      have hl : bs.length = 8 := (PV.RepRow.length c3).trans (Xp.pv_len _)
      have : (pv :: fv :: bs).drop 10 = [] := List.drop_eq_nil_of_le (by simp [hl])
      show CsR S5 (slot e rb.1) (pv :: fv :: exVs rb.1 w1 w2 w3 w4 w5 w6 ++ (pv :: fv :: bs).drop 10)
      rw [this, List.append_nil]
      exact slot_rep c1 c2 r5
    exact ⟨S5, _, PH.le_trans l03 l5, h6, _, [.int .i64 11, txt [], .slice b1 (freeS (Xp.fr [] e)).length c1, .int .i64 1, .int .i64 (fs.length : Int), txt [], .slice none 0 0, .slice none 0 0], rfl, rfl, clo_rep (by omega) s1'⟩
  simp only [ev0, ev, evV, List.cons_append, List.nil_append, List.getD_cons_zero, List.getD_cons_succ, List.map_cons, List.map_nil, iOf, bOf, sOf, pOf, slLen, slBase, cmpI, arI, Value.ite_bool, int_beq, int_bne, ite_band, ite_bor, decide_eq_false_iff_not] at g
  unfold RLR
  rw [Xp.lift_other e fs g]
  refine ⟨fun n vs K' => ∃ (k : Nat) (out fv1 : Value) (S' : PH), vs = [fv1, .int .i64 k] ++ (exVs e nb db none nc dc 0).take 7 ++ [out] ∧ k + n = e.kids.length ∧ PH.le S S' ∧ Held S' K' [orow 28 (mapS (fun s x => Xp.lift s x) fs (e.kids.take k)).1 out, orow 44 (mapS (fun s x => Xp.lift s x) fs (e.kids.take k)).2 fv1],
    ⟨e.kids.length, 0, .slice none 0 0, .slice fb fs.length fc, S, rfl, by omega, PH.le_refl S, h.empty _⟩, ?_⟩
  rintro n vs K1 _ ⟨k, out, fv1, S1, rfl, hkn, l1, h1⟩
  refine ⟨fun g1 => ?_, fun g1 => ?_⟩
  · simp only [ev0, ev, evV, List.cons_append, List.nil_append, List.getD_cons_zero, List.getD_cons_succ, List.map_cons, List.map_nil, iOf, bOf, sOf, pOf, slLen, slBase, cmpI, arI, Value.ite_bool, int_beq, int_bne, ite_band, ite_bor, decide_eq_true_eq] at g1
    obtain ⟨a, ha⟩ : ∃ a, e.kids[k]? = some a := ⟨_, List.getElem?_eq_getElem (show k < e.kids.length by omega)⟩
    obtain ⟨g2, _, ces, g3, g4⟩ := (hx.kids.le l1).get ha
    have hm := List.mem_of_getElem? ha
    have htags := Xp.Rep.tags g3
    have g3' := g3
    obtain ⟨nb', db', kb', nc', dc', kc', rfl, _⟩ := Xp.Rep.open g3'
    refine ⟨fun _ => ?_, _, htags, by simp only [ev0, ev, evV, List.cons_append, List.nil_append, List.getD_cons_zero, List.getD_cons_succ, List.map_cons, List.map_nil, iOf, bOf, sOf, pOf, slLen, slBase, cmpI, arI, Value.ite_bool, int_beq, int_bne, ite_band, ite_bor]; exact rowAt_le h1.sh g4, ?_⟩
    · simp only [Chk.holds, ev0, ev, evV, List.cons_append, List.nil_append, List.getD_cons_zero, List.getD_cons_succ, List.map_cons, List.map_nil, iOf, bOf, sOf, pOf, slLen, slBase, cmpI, arI, Value.ite_bool, int_beq, int_bne, ite_band, ite_bor]; exact ⟨g2, by omega, by omega⟩
    have z1 := Xps.size_at ha
    have z2 := Xps.lift_keep (e.kids.take k) fs
    rw [Xps.lift_mapS] at z2
    refine den_call cb_scrimshawref14_lift (Held.call (J := [orow 44 (mapS (fun s x => Xp.lift s x) fs (e.kids.take k)).2 fv1]) (h1.perm (List.Perm.swap _ _ _)) fun K' hK => ih a hm _ S1 K' _ fv1 hK g3 (hkok a hm) (by omega) (by omega)) ?_
    rintro x K2 ⟨S2, J2, l2, h2, fv2, es, rfl, rfl, r2⟩
    have ht2 := Xp.Rep.tags r2
    have r2' := r2
    obtain ⟨p1, p2, p3, p4, p5, p6, rfl, _⟩ := Xp.Rep.open r2'
    obtain ⟨b2, c2, hv2⟩ := (h2.row (List.mem_cons_self ..)).sl
    subst hv2
    have hst : mapS (fun s x => Xp.lift s x) fs (e.kids.take (k + 1)) = ((mapS (fun s x => Xp.lift s x) fs (e.kids.take k)).1 ++ [(Xp.lift (mapS (fun s x => Xp.lift s x) fs (e.kids.take k)).2 a).1], (Xp.lift (mapS (fun s x => Xp.lift s x) fs (e.kids.take k)).2 a).2) := by
      rw [List.take_add_one, ha, mapS_append]; rfl
    have hml := mapS_len (fun s x => Xp.lift s x) fs (e.kids.take k)
    rw [List.length_take] at hml
    refine ⟨_, exVs (Xp.lift (mapS (fun s x => Xp.lift s x) fs (e.kids.take k)).2 a).1 p1 p2 p3 p4 p5 p6 ++ [.slice b2 _ c2], rfl, rfl, rfl, pendNil, ?_⟩
    refine den_hPush (more := [(Xp.lift (mapS (fun s x => Xp.lift s x) fs (e.kids.take k)).2 a).1]) (b := 128) [.agg (exVs (Xp.lift (mapS (fun s x => Xp.lift s x) fs (e.kids.take k)).2 a).1 p1 p2 p3 p4 p5 p6).toArray] uExprs' elemExpr' rfl (by decide) (by decide) (h2.perm (List.Perm.swap _ _ _)) (by kernel_rfl) (.cons r2 .nil) pendNil (fun _ => by kernel_rfl) (fun _ => by kernel_rfl)
      (by simp only [maxLen, List.length_cons, List.length_nil]; omega) (by simp only [List.length_cons, List.length_nil]; omega) fun u v' S3 K3 l3 h3 => ⟨pendNil, _, lookup_hit, n - 1, by omega, k + 1, v', _, S3, ?_, by omega, PH.le_trans l1 (PH.le_trans l2 l3), by rw [hst]; exact h3⟩
    simp only [ev0, ev, evV, List.cons_append, List.nil_append, List.getD_cons_zero, List.getD_cons_succ, List.map_cons, List.map_nil, iOf, bOf, sOf, pOf, slLen, slBase, cmpI, arI, Value.ite_bool, int_beq, int_bne, ite_band, ite_bor]
    rw [w64 (by omega) (by omega)]
    rfl
  · simp only [ev0, ev, evV, List.cons_append, List.nil_append, List.getD_cons_zero, List.getD_cons_succ, List.map_cons, List.map_nil, iOf, bOf, sOf, pOf, slLen, slBase, cmpI, arI, Value.ite_bool, int_beq, int_bne, ite_band, ite_bor, decide_eq_false_iff_not] at g1
    have hkk : k = e.kids.length := by omega
    subst hkk
    rw [List.take_length] at h1
    obtain ⟨S2, s2, l2, h2⟩ := h1.freeze
    have l02 := PH.le_trans l1 l2
    refine ⟨S2, _, l02, h2, fv1, (exVs e nb db none nc dc 0).take 7 ++ [out], rfl, rfl, Xp.Rep_iff.2 ⟨_, _, _, rfl, hx.kind, hx.name, hx.names.le l02, Dat.Rep.le l02 _ hx.const, s2⟩⟩

/-! ### both Lifts -/
def liftGood (e : Xp) : Bool := decide ((e.chk true 0 0).2 = 0) && (freeS (e.fr [])).isEmpty && !e.any badK
def liftX (e : Xp) : LifX × Int := if liftGood e = true then (⟨(Xp.lift [] e).2, (Xp.lift [] e).1⟩, 0) else (⟨[], exZ⟩, 100)
def LRet (e : Xp) (x : Ending) (S' : PH) : Prop := ∃ ls : List Value, x = .returned (.tuple #[.agg ls.toArray, .int .i64 (liftX e).2]) ∧ CsR S' (liftX e).1 ls
theorem lif0_rep (S : PH) : CsR S (⟨[], exZ⟩ : LifX) [.slice none 0 0, .int .i64 0, txt [], .slice none 0 0, .int .i64 0, .int .i64 0, txt [], .slice none 0 0, .slice none 0 0] := lif_iff.2 ⟨_, _, rfl, SlR.mk_iff.2 ⟨Nat.zero_le _, .inl ⟨rfl, rfl⟩⟩, ex0_rep S⟩
theorem CLiftTop_tri (e : Xp) (cs : List Value) (S : PH) (he : e.Rep S cs) : Tri Try.prog n_lift_Lift #[.agg cs.toArray] S fun x S' => PH.le S S' ∧ LRet e x S' := by
  have he' := he
  obtain ⟨nb, db, kb, nc, dc, kc, rfl, hx⟩ := Xp.Rep.open he
  refine tri_lift_Lift (exVs e nb db kb nc dc kc) (by kernel_rfl) (by kernel_rfl) ?_
  refine ⟨fun vs S' => vs = [.bool (!liftGood e)] ∧ PH.le S S', ?_, ?_⟩
  · rintro vs S1 _ ⟨rfl, l1⟩
    refine ⟨fun g => ?_, fun g => ?_⟩
    · simp only [ev0, ev, evV, List.cons_append, List.nil_append, List.getD_cons_zero, List.getD_cons_succ, List.map_cons, List.map_nil, iOf, bOf, sOf, pOf, slLen, slBase, cmpI, arI, Value.ite_bool, int_beq, int_bne, ite_band, ite_bor, Bool.not_eq_true'] at g
      have hlx : liftX e = (⟨[], exZ⟩, 100) := by unfold liftX; rw [if_neg (by rw [g]; exact Bool.false_ne_true)]
      refine ⟨l1, [.slice none 0 0, .int .i64 0, txt [], .slice none 0 0, .int .i64 0, .int .i64 0, txt [], .slice none 0 0, .slice none 0 0], ?_, by rw [hlx]; exact lif0_rep S1⟩
      rw [hlx]; rfl
    simp only [ev0, ev, evV, List.cons_append, List.nil_append, List.getD_cons_zero, List.getD_cons_succ, List.map_cons, List.map_nil, iOf, bOf, sOf, pOf, slLen, slBase, cmpI, arI, Value.ite_bool, int_beq, int_bne, ite_band, ite_bor, Bool.not_eq_false'] at g
    have hlx : liftX e = (⟨(Xp.lift [] e).2, (Xp.lift [] e).1⟩, 0) := by unfold liftX; rw [if_pos g]
    have hc : (e.chk true 0 0).2 = 0 := by
      unfold liftGood at g
      simp only [Bool.and_eq_true, decide_eq_true_eq] at g
      exact g.1.1
    have hok := (Xp.chk_ok true e 0 0 hc).1
    have hsz := chk_size hc
    refine den_call cb_pass_Told (Told_tri e _ S1 (Xp.Rep.le l1 e he')) ?_
    rintro x S2 ⟨l2, es, _, rfl, r2⟩
    rw [if_pos hc] at r2 ⊢
    have ht2 := Xp.Rep.tags r2
    have r2' := r2
    obtain ⟨p1, p2, p3, p4, p5, p6, rfl, _⟩ := Xp.Rep.open r2'
    refine ⟨_, exVs e p1 p2 p3 p4 p5 p6 ++ [.int .i64 0], rfl, rfl, rfl, pendNil, ?_⟩
    refine den_bxNew (vs := [.slice none 0 0]) (Held.nil (PH.le_refl S2)) (by kernel_rfl) fun r K3 l3 h3 => ?_
    refine den_call cb_lift_lifter__lift (CLift_tri r _ e _ S2 K3 [] _ ((h3.empty (α := FunX) _).perm (List.Perm.swap _ _ _)) ⟨_, rfl⟩ r2 hok hsz (by simp only [List.length_nil]; omega)) ?_
    rintro x K4 ⟨S4, J4, l4, h4, ⟨fv4, rfl⟩, es, rfl, r4⟩
    have ht4 := Xp.Rep.tags r4
    have r4' := r4
    obtain ⟨w1, w2, w3, w4, w5, w6, hes, _⟩ := Xp.Rep.open r4'
    subst hes
    refine ⟨_, _, rfl, ht4, rfl, pendNil, fun _ => rfl, ?_⟩
    obtain ⟨b5, c5, hv5⟩ := (h4.row (List.mem_cons_of_mem _ (List.mem_cons_self ..))).sl
    refine den_bxLoad [fv4] (off := 0) (by kernel_rfl) h4 (List.mem_cons_self ..) rfl (by rw [hv5]; rfl) ?_
    obtain ⟨S5, s5, l5, h5⟩ := h4.tail.freeze
    refine ⟨PH.le_trans l1 (PH.le_trans l2 (PH.le_trans l4 (PH.le_trans l5 h5.sh))), fv4 :: exVs (Xp.lift [] e).1 w1 w2 w3 w4 w5 w6, ?_, ?_⟩
    · rw [hlx]; rfl
    · rw [hlx]; exact lif_iff.2 ⟨_, _, rfl, s5.le h5.sh, Xp.Rep.le (PH.le_trans l5 h5.sh) _ r4⟩
  refine den_gives [.int .i64 (e.chk true 0 0).2] cb_core_Check (CCheckF_gives e _ S he') rfl pendNil fun H1 l1 => ?_
  refine ⟨fun g => ?_, fun g => ?_⟩
  · simp only [ev0, ev, evV, List.cons_append, List.nil_append, List.getD_cons_zero, List.getD_cons_succ, List.map_cons, List.map_nil, iOf, bOf, sOf, pOf, slLen, slBase, cmpI, arI, Value.ite_bool, int_beq, int_bne, ite_band, ite_bor, decide_eq_true_eq] at g
    refine ⟨_, lookup_hit, ?_, l1⟩
    unfold liftGood
    rw [decide_eq_false g]; rfl
  simp only [ev0, ev, evV, List.cons_append, List.nil_append, List.getD_cons_zero, List.getD_cons_succ, List.map_cons, List.map_nil, iOf, bOf, sOf, pOf, slLen, slBase, cmpI, arI, Value.ite_bool, int_beq, int_bne, ite_band, ite_bor, decide_eq_false_iff_not, ne_eq, Decidable.not_not] at g
  have hb := chk_bounds g
  have hsz := chk_size g
  refine den_call cb_core_Free (CFree_tri e _ H1 (Xp.Rep.le l1 e he') (by omega) (by omega)) ?_
  rintro x H2 ⟨v2, rfl, s2, l2⟩
  obtain ⟨b2, c2, rfl⟩ := s2.sl
  refine ⟨_, [.slice b2 (freeS (e.fr [])).length c2], rfl, rfl, rfl, pendNil, ?_⟩
  refine ⟨fun g2 => ?_, fun g2 => ?_⟩
  · simp only [ev0, ev, evV, List.cons_append, List.nil_append, List.getD_cons_zero, List.getD_cons_succ, List.map_cons, List.map_nil, iOf, bOf, sOf, pOf, slLen, slBase, cmpI, arI, Value.ite_bool, int_beq, int_bne, ite_band, ite_bor, decide_eq_true_eq] at g2
    refine ⟨_, lookup_hit, ?_, PH.le_trans l1 l2⟩
    unfold liftGood
    rw [← list_empty, decide_eq_false (by omega : ¬ ((freeS (e.fr [])).length : Int) = 0)]
    simp [ev0, ev, evV, List.cons_append, List.nil_append, List.getD_cons_zero, List.getD_cons_succ, List.map_cons, List.map_nil, iOf, bOf, sOf, pOf, slLen, slBase, cmpI, arI, Value.ite_bool, int_beq, int_bne, ite_band, ite_bor]
  simp only [ev0, ev, evV, List.cons_append, List.nil_append, List.getD_cons_zero, List.getD_cons_succ, List.map_cons, List.map_nil, iOf, bOf, sOf, pOf, slLen, slBase, cmpI, arI, Value.ite_bool, int_beq, int_bne, ite_band, ite_bor, decide_eq_false_iff_not] at g2
  refine den_gives [.bool (e.any badK)] cb_pass_Any (Any_gives e _ H2 (Xp.Rep.le (PH.le_trans l1 l2) e he')) rfl pendNil fun H3 l3 => ⟨_, lookup_hit, ?_, PH.le_trans l1 (PH.le_trans l2 l3)⟩
  unfold liftGood
  rw [← list_empty, decide_eq_true (by omega : ((freeS (e.fr [])).length : Int) = 0), decide_eq_true g]
  simp [ev0, ev, evV, List.cons_append, List.nil_append, List.getD_cons_zero, List.getD_cons_succ, List.map_cons, List.map_nil, iOf, bOf, sOf, pOf, slLen, slBase, cmpI, arI, Value.ite_bool, int_beq, int_bne, ite_band, ite_bor]
theorem RLiftTop_tri (e : Xp) (cs : List Value) (S : PH) (he : e.Rep S cs) : Tri Try.prog n_scrimshawref14_Lift #[.agg cs.toArray] S fun x S' => PH.le S S' ∧ LRet e x S' := by
  have he' := he
  obtain ⟨nb, db, kb, nc, dc, kc, rfl, hx⟩ := Xp.Rep.open he
  refine tri_scrimshawref14_Lift (exVs e nb db kb nc dc kc) (by kernel_rfl) (by kernel_rfl) ?_
  refine ⟨fun vs S' => vs = [.bool (!liftGood e)] ∧ PH.le S S', ?_, ?_⟩
  · rintro vs S1 _ ⟨rfl, l1⟩
    refine ⟨fun g => ?_, fun g => ?_⟩
    · simp only [ev0, ev, evV, List.cons_append, List.nil_append, List.getD_cons_zero, List.getD_cons_succ, List.map_cons, List.map_nil, iOf, bOf, sOf, pOf, slLen, slBase, cmpI, arI, Value.ite_bool, int_beq, int_bne, ite_band, ite_bor, Bool.not_eq_true'] at g
      have hlx : liftX e = (⟨[], exZ⟩, 100) := by unfold liftX; rw [if_neg (by rw [g]; exact Bool.false_ne_true)]
      refine ⟨l1, [.slice none 0 0, .int .i64 0, txt [], .slice none 0 0, .int .i64 0, .int .i64 0, txt [], .slice none 0 0, .slice none 0 0], ?_, by rw [hlx]; exact lif0_rep S1⟩
      rw [hlx]; rfl
    simp only [ev0, ev, evV, List.cons_append, List.nil_append, List.getD_cons_zero, List.getD_cons_succ, List.map_cons, List.map_nil, iOf, bOf, sOf, pOf, slLen, slBase, cmpI, arI, Value.ite_bool, int_beq, int_bne, ite_band, ite_bor, Bool.not_eq_false'] at g
    have hlx : liftX e = (⟨(Xp.lift [] e).2, (Xp.lift [] e).1⟩, 0) := by unfold liftX; rw [if_pos g]
    have hc : (e.chk true 0 0).2 = 0 := by
      unfold liftGood at g
      simp only [Bool.and_eq_true, decide_eq_true_eq] at g
      exact g.1.1
    have hok := (Xp.chk_ok true e 0 0 hc).1
    have hsz := chk_size hc
    refine den_call cb_scrimshawref14_lift (RLift14_tri e _ S1 S1 [] _ ((Held.nil (PH.le_refl S1)).empty _) (Xp.Rep.le l1 e he') hok hsz (by simp only [List.length_nil]; omega)) ?_
    rintro x K4 ⟨S4, J4, l4, h4, fv4, es, rfl, rfl, r4⟩
    have ht4 := Xp.Rep.tags r4
    have r4' := r4
    obtain ⟨w1, w2, w3, w4, w5, w6, hes, _⟩ := Xp.Rep.open r4'
    subst hes
    obtain ⟨b5, c5, hv5⟩ := (h4.row (List.mem_cons_self ..)).sl
    obtain ⟨S5, s5, l5, h5⟩ := h4.freeze
    refine ⟨_, exVs (Xp.lift [] e).1 w1 w2 w3 w4 w5 w6 ++ [fv4], rfl, by rw [hv5]; rfl, rfl, pendNil, ?_⟩
    refine ⟨PH.le_trans l1 (PH.le_trans l4 (PH.le_trans l5 h5.sh)), fv4 :: exVs (Xp.lift [] e).1 w1 w2 w3 w4 w5 w6, ?_, ?_⟩
    · rw [hlx]; rfl
    · rw [hlx]; exact lif_iff.2 ⟨_, _, rfl, s5.le h5.sh, Xp.Rep.le (PH.le_trans l5 h5.sh) _ r4⟩
  refine den_gives [.int .i64 (e.chk false 0 0).2] cb_scrimshawref06_Check (RCheckF6_gives e _ S he') rfl pendNil fun H1 l1 => ?_
  refine ⟨fun g => ?_, fun g => ?_⟩
  · simp only [ev0, ev, evV, List.cons_append, List.nil_append, List.getD_cons_zero, List.getD_cons_succ, List.map_cons, List.map_nil, iOf, bOf, sOf, pOf, slLen, slBase, cmpI, arI, Value.ite_bool, int_beq, int_bne, ite_band, ite_bor, decide_eq_true_eq] at g
    refine ⟨_, lookup_hit, ?_, l1⟩
    unfold liftGood
    rw [decide_eq_false fun h => g ((chk_both e).2 h)]; rfl
  simp only [ev0, ev, evV, List.cons_append, List.nil_append, List.getD_cons_zero, List.getD_cons_succ, List.map_cons, List.map_nil, iOf, bOf, sOf, pOf, slLen, slBase, cmpI, arI, Value.ite_bool, int_beq, int_bne, ite_band, ite_bor, decide_eq_false_iff_not, ne_eq, Decidable.not_not] at g
  have g' := (chk_both e).1 g
  have hb := chk_bounds g'
  have hsz := chk_size g'
  refine den_call cb_scrimshawref06_Free (RFree_tri e _ H1 (Xp.Rep.le l1 e he') (by omega) (by omega)) ?_
  rintro x H2 ⟨l2, v2, rfl, s2⟩
  obtain ⟨b2, c2, rfl⟩ := s2.sl
  refine ⟨_, [.slice b2 (freeS (e.fr [])).length c2], rfl, rfl, rfl, pendNil, ?_⟩
  have hbad : e.any badK = (e.any (fun k => decide (k = 9)) || e.any (fun k => decide (k = 2))) := Xp.any_or _ _ e
  refine ⟨fun g2 => ?_, fun g2 => ?_⟩
  · simp only [ev0, ev, evV, List.cons_append, List.nil_append, List.getD_cons_zero, List.getD_cons_succ, List.map_cons, List.map_nil, iOf, bOf, sOf, pOf, slLen, slBase, cmpI, arI, Value.ite_bool, int_beq, int_bne, ite_band, ite_bor, decide_eq_true_eq] at g2
    refine ⟨_, lookup_hit, ?_, PH.le_trans l1 l2⟩
    unfold liftGood
    rw [← list_empty, decide_eq_false (by omega : ¬ ((freeS (e.fr [])).length : Int) = 0)]
    simp [ev0, ev, evV, List.cons_append, List.nil_append, List.getD_cons_zero, List.getD_cons_succ, List.map_cons, List.map_nil, iOf, bOf, sOf, pOf, slLen, slBase, cmpI, arI, Value.ite_bool, int_beq, int_bne, ite_band, ite_bor]
  simp only [ev0, ev, evV, List.cons_append, List.nil_append, List.getD_cons_zero, List.getD_cons_succ, List.map_cons, List.map_nil, iOf, bOf, sOf, pOf, slLen, slBase, cmpI, arI, Value.ite_bool, int_beq, int_bne, ite_band, ite_bor, decide_eq_false_iff_not] at g2
  have hgood : liftGood e = !e.any badK := by
    unfold liftGood
    rw [← list_empty, decide_eq_true (by omega : ((freeS (e.fr [])).length : Int) = 0), decide_eq_true g']; rfl
  refine den_gives [.bool (e.any fun k => decide (k = 9))] cb_scrimshawref10_Has (Has10_gives 9 e _ H2 (Xp.Rep.le (PH.le_trans l1 l2) e he')) rfl pendNil fun H3 l3 => ?_
  refine ⟨fun g3 => ?_, fun g3 => ?_⟩
  · simp only [ev0, ev, evV, List.cons_append, List.nil_append, List.getD_cons_zero, List.getD_cons_succ, List.map_cons, List.map_nil, iOf, bOf, sOf, pOf, slLen, slBase, cmpI, arI, Value.ite_bool, int_beq, int_bne, ite_band, ite_bor] at g3
    refine ⟨_, lookup_hit, ?_, PH.le_trans l1 (PH.le_trans l2 l3)⟩
    rw [hgood, hbad, g3]; rfl
  simp only [ev0, ev, evV, List.cons_append, List.nil_append, List.getD_cons_zero, List.getD_cons_succ, List.map_cons, List.map_nil, iOf, bOf, sOf, pOf, slLen, slBase, cmpI, arI, Value.ite_bool, int_beq, int_bne, ite_band, ite_bor] at g3
  refine den_gives [.bool (e.any fun k => decide (k = 2))] cb_scrimshawref10_Has (Has10_gives 2 e _ H3 (Xp.Rep.le (PH.le_trans l1 (PH.le_trans l2 l3)) e he')) rfl pendNil fun H4 l4 => ⟨_, lookup_hit, ?_, PH.le_trans l1 (PH.le_trans l2 (PH.le_trans l3 l4))⟩
  rw [hgood, hbad, g3]
  simp [ev0, ev, evV, List.cons_append, List.nil_append, List.getD_cons_zero, List.getD_cons_succ, List.map_cons, List.map_nil, iOf, bOf, sOf, pOf, slLen, slBase, cmpI, arI, Value.ite_bool, int_beq, int_bne, ite_band, ite_bor]
end Go.Proofs.Ytibinelkmlcmgaa.Vc
/-
  LIFT: Same, the fixed call, and LiftedTells.
-/
namespace Go.Proofs.Ytibinelkmlcmgaa.Vc
open Go

theorem ck_sc2 {P : Program} {S0 : PH} {f : FuncId} {p q : PV} {out : List PV} {sh : Sh} (hcb : callB P f = true) (h : ∀ (S : PH) (v w : Value), PH.le S0 S → p.Rep S v → q.Rep S w → Tri P f #[v, w] S fun e S' => ∃ us, e = .returned (sh.pack us) ∧ PV.RepRow S' out us ∧ PH.le S S') : CK.Ok P S0 ⟨f, [(false, [p]), (false, [q])], sh, out⟩ := by
  refine ⟨hcb, fun S vs hS hv => ?_⟩
  cases hv with
  | cons h1 h2 =>
    cases h2 with
    | cons h3 h4 =>
      cases h4
      obtain ⟨cs, h5, h6⟩ := h1
      obtain ⟨cs2, h7, h8⟩ := h3
      simp only [Bool.false_eq_true, if_false] at h6 h8
      subst h6 h8
      simp only [PV.RepRow] at h5 h7
      obtain ⟨v, vs, e1, h9, rfl⟩ := h5
      cases e1
      obtain ⟨w, ws, e2, h10, rfl⟩ := h7
      cases e2
      exact h S _ _ hS h9 h10
set_option maxHeartbeats 8000000 in
theorem Same14_gives (x : LifX) (cs cs2 : List Value) (H : PH) (h1 : CsR H x cs) (h2 : CsR H x cs2) : Gives Try.prog n_scrimshawref14_Same [.agg cs.toArray, .agg cs2.toArray] H (.bool true) := by
  obtain ⟨fv, bs, rfl, s1, r1⟩ := lif_iff.1 h1
  obtain ⟨fw, bs2, rfl, s2, r2⟩ := lif_iff.1 h2
  obtain ⟨fb, fc, rfl⟩ := s1.sl
  obtain ⟨gb, gc, rfl⟩ := s2.sl
  have hm := s1.max
  simp only [maxLen] at hm
  have r1' := r1
  have r2' := r2
  obtain ⟨p1, p2, p3, p4, p5, p6, rfl, _⟩ := Xp.Rep.open r1'
  obtain ⟨q1, q2, q3, q4, q5, q6, rfl, _⟩ := Xp.Rep.open r2'
  refine tri_scrimshawref14_Same (.slice fb x.funs.length fc :: exVs x.main p1 p2 p3 p4 p5 p6 ++ (.slice gb x.funs.length gc :: exVs x.main q1 q2 q3 q4 q5 q6)) (by kernel_rfl) (by kernel_rfl) ?_
  refine ⟨fun vs H' => vs = [.bool false] ∧ PH.le H H', ?_, ?_⟩
  rotate_left
  · refine ⟨fun g => absurd g (by simp [ev0, ev, evV, List.cons_append, List.nil_append, List.getD_cons_zero, List.getD_cons_succ, List.map_cons, List.map_nil, iOf, bOf, sOf, pOf, slLen, slBase, cmpI, arI, Value.ite_bool, int_beq, int_bne, ite_band, ite_bor]), fun _ => ?_⟩
    refine den_gives [.bool (decide (x.main = x.main))] cb_scrimshawref06_Same (XSame_gives _ _ _ _ H r1 r2) rfl pendNil fun H1 l1 => ⟨_, lookup_hit, ?_, l1⟩
    simp [ev0, ev, evV, List.cons_append, List.nil_append, List.getD_cons_zero, List.getD_cons_succ, List.map_cons, List.map_nil, iOf, bOf, sOf, pOf, slLen, slBase, cmpI, arI, Value.ite_bool, int_beq, int_bne, ite_band, ite_bor]
  rintro vs H1 _ ⟨rfl, l1⟩
  refine ⟨fun g => absurd g (by simp [ev0, ev, evV, List.cons_append, List.nil_append, List.getD_cons_zero, List.getD_cons_succ, List.map_cons, List.map_nil, iOf, bOf, sOf, pOf, slLen, slBase, cmpI, arI, Value.ite_bool, int_beq, int_bne, ite_band, ite_bor]), fun _ => ?_⟩
  refine ⟨fun n vs H' => ∃ k : Nat, vs = [.bool false, .int .i64 k] ∧ k + n = x.funs.length ∧ PH.le H H', ⟨x.funs.length, 0, rfl, by omega, l1⟩, ?_⟩
  rintro n vs H2 _ ⟨k, rfl, hkn, l2⟩
  refine ⟨fun g => ?_, fun g => ?_⟩
  · simp only [ev0, ev, evV, List.cons_append, List.nil_append, List.getD_cons_zero, List.getD_cons_succ, List.map_cons, List.map_nil, iOf, bOf, sOf, pOf, slLen, slBase, cmpI, arI, Value.ite_bool, int_beq, int_bne, ite_band, ite_bor, decide_eq_true_eq] at g
    obtain ⟨a, ha⟩ : ∃ a, x.funs[k]? = some a := ⟨_, List.getElem?_eq_getElem (show k < x.funs.length by omega)⟩
    obtain ⟨y1, _, ces, y2, y3⟩ := (s1.le l2).get ha
    obtain ⟨z1, _, des, z2, z3⟩ := (s2.le l2).get ha
    obtain ⟨pv, fv, bs, rfl, c1, c2, c3⟩ := fun_iff.1 y2
    obtain ⟨pw, fw, bt, rfl, d1, d2, d3⟩ := fun_iff.1 z2
    obtain ⟨a1, a2, rfl⟩ := c1.sl
    obtain ⟨a3, a4, rfl⟩ := c2.sl
    obtain ⟨e1, e2, rfl⟩ := d1.sl
    obtain ⟨e3, e4, rfl⟩ := d2.sl
    have c3' := c3
    have d3' := d3
    obtain ⟨v1, v2, v3, v4, v5, v6, rfl, _⟩ := Xp.Rep.open c3'
    obtain ⟨w1, w2, w3, w4, w5, w6, rfl, _⟩ := Xp.Rep.open d3'
    generalize hca : (Value.slice a1 a.params.length a2 :: Value.slice a3 a.frees.length a4 :: exVs a.body v1 v2 v3 v4 v5 v6) = ca at y3
    generalize hcb : (Value.slice e1 a.params.length e2 :: Value.slice e3 a.frees.length e4 :: exVs a.body w1 w2 w3 w4 w5 w6) = cb at z3
    refine ⟨fun vs K => ∃ (r1 r2 : Nat), vs = [pAt r1, pAt r2] ∧ Held H2 K [bx r1 44 ca, bx r2 44 cb], ?_, ?_⟩
    · rintro vs K _ ⟨r1, r2, rfl, hh⟩
      subst hca hcb
      have hm1 : bx r1 44 (Value.slice a1 a.params.length a2 :: Value.slice a3 a.frees.length a4 :: exVs a.body v1 v2 v3 v4 v5 v6) ∈ [bx r1 44 (Value.slice a1 a.params.length a2 :: Value.slice a3 a.frees.length a4 :: exVs a.body v1 v2 v3 v4 v5 v6), bx r2 44 (Value.slice e1 a.params.length e2 :: Value.slice e3 a.frees.length e4 :: exVs a.body w1 w2 w3 w4 w5 w6)] := List.mem_cons_self ..
      have hm2 : bx r2 44 (Value.slice e1 a.params.length e2 :: Value.slice e3 a.frees.length e4 :: exVs a.body w1 w2 w3 w4 w5 w6) ∈ [bx r1 44 (Value.slice a1 a.params.length a2 :: Value.slice a3 a.frees.length a4 :: exVs a.body v1 v2 v3 v4 v5 v6), bx r2 44 (Value.slice e1 a.params.length e2 :: Value.slice e3 a.frees.length e4 :: exVs a.body w1 w2 w3 w4 w5 w6)] := List.mem_cons_of_mem _ (List.mem_cons_self ..)
      refine ⟨fun vs K' => vs = [.bool false] ∧ PH.le H K', ?_, ?_⟩
      · rintro vs K' _ ⟨rfl, l3⟩
        refine ⟨fun g => absurd g (by simp [ev0, ev, evV, List.cons_append, List.nil_append, List.getD_cons_zero, List.getD_cons_succ, List.map_cons, List.map_nil, iOf, bOf, sOf, pOf, slLen, slBase, cmpI, arI, Value.ite_bool, int_beq, int_bne, ite_band, ite_bor]), fun _ => ⟨_, lookup_hit, n - 1, by omega, k + 1, ?_, by omega, l3⟩⟩
        simp only [ev0, ev, evV, List.cons_append, List.nil_append, List.getD_cons_zero, List.getD_cons_succ, List.map_cons, List.map_nil, iOf, bOf, sOf, pOf, slLen, slBase, cmpI, arI, Value.ite_bool, int_beq, int_bne, ite_band, ite_bor]
        rw [w64 (by omega) (by omega)]
        rfl
      refine ⟨fun _ => rfl, ?_⟩
      refine den_bxLoad [.slice a1 a.params.length a2] (off := 0) (by kernel_rfl) hh hm1 (by kernel_rfl) (by kernel_rfl) ?_
      refine ⟨fun _ => rfl, ?_⟩
      refine den_bxLoad [.slice e1 a.params.length e2] (off := 0) (by kernel_rfl) hh hm2 (by kernel_rfl) (by kernel_rfl) ?_
      refine den_call cb_scrimshawref06_SameTexts (hh.gives (SameTexts_gives a.params a.params _ _ H2 c1 d1)) ?_
      rintro x1 K1 ⟨rfl, h3, l3⟩
      refine ⟨_, [.bool (decide (a.params = a.params))], rfl, rfl, rfl, pendNil, fun g => absurd g (by simp [ev0, ev, evV, List.cons_append, List.nil_append, List.getD_cons_zero, List.getD_cons_succ, List.map_cons, List.map_nil, iOf, bOf, sOf, pOf, slLen, slBase, cmpI, arI, Value.ite_bool, int_beq, int_bne, ite_band, ite_bor]), fun _ => ?_⟩
      refine den_bxLoad [.slice a3 a.frees.length a4] (off := 1) (by kernel_rfl) h3 hm1 (by kernel_rfl) (by kernel_rfl) ?_
      refine den_bxLoad [.slice e3 a.frees.length e4] (off := 1) (by kernel_rfl) h3 hm2 (by kernel_rfl) (by kernel_rfl) ?_
      refine den_call cb_scrimshawref06_SameTexts (h3.gives (SameTexts_gives a.frees a.frees _ _ H2 c2 d2)) ?_
      rintro x1 K2 ⟨rfl, h4, l4⟩
      refine ⟨_, [.bool (decide (a.frees = a.frees))], rfl, rfl, rfl, pendNil, fun g => absurd g (by simp [ev0, ev, evV, List.cons_append, List.nil_append, List.getD_cons_zero, List.getD_cons_succ, List.map_cons, List.map_nil, iOf, bOf, sOf, pOf, slLen, slBase, cmpI, arI, Value.ite_bool, int_beq, int_bne, ite_band, ite_bor]), fun _ => ?_⟩
      refine den_bxLoad (exVs a.body v1 v2 v3 v4 v5 v6) (off := 2) (by kernel_rfl) h4 hm1 (by kernel_rfl) (by kernel_rfl) ?_
      refine den_bxLoad (exVs a.body w1 w2 w3 w4 w5 w6) (off := 2) (by kernel_rfl) h4 hm2 (by kernel_rfl) (by kernel_rfl) ?_
      have hs : Gives Try.prog n_scrimshawref06_Same [.agg (exVs a.body v1 v2 v3 v4 v5 v6).toArray, .agg (exVs a.body w1 w2 w3 w4 w5 w6).toArray] K2 (.bool true) := by
        have := XSame_gives a.body a.body _ _ K2 (Xp.Rep.le h4.sh _ c3) (Xp.Rep.le h4.sh _ d3)
        rwa [decide_eq_true rfl] at this
      simp only [List.cons_append, List.nil_append]
      refine den_gives [.bool true] cb_scrimshawref06_Same hs rfl pendNil fun K3 l5 => ⟨_, lookup_hit, ?_, PH.le_trans l2 (PH.le_trans h4.sh l5)⟩
      simp [ev0, ev, evV, List.cons_append, List.nil_append, List.getD_cons_zero, List.getD_cons_succ, List.map_cons, List.map_nil, iOf, bOf, sOf, pOf, slLen, slBase, cmpI, arI, Value.ite_bool, int_beq, int_bne, ite_band, ite_bor]
    · subst hca hcb
      refine ⟨fun _ => ?_, _, (by kernel_rfl : tagsOk _ (Value.slice a1 a.params.length a2 :: Value.slice a3 a.frees.length a4 :: exVs a.body v1 v2 v3 v4 v5 v6) = true), by simp only [ev0, ev, evV, List.cons_append, List.nil_append, List.getD_cons_zero, List.getD_cons_succ, List.map_cons, List.map_nil, iOf, bOf, sOf, pOf, slLen, slBase, cmpI, arI, Value.ite_bool, int_beq, int_bne, ite_band, ite_bor]; exact y3, ?_⟩
      · simp only [Chk.holds, ev0, ev, evV, List.cons_append, List.nil_append, List.getD_cons_zero, List.getD_cons_succ, List.map_cons, List.map_nil, iOf, bOf, sOf, pOf, slLen, slBase, cmpI, arI, Value.ite_bool, int_beq, int_bne, ite_band, ite_bor]; exact ⟨y1, by omega, by omega⟩
      refine ⟨fun _ => ?_, _, (by kernel_rfl : tagsOk _ (Value.slice e1 a.params.length e2 :: Value.slice e3 a.frees.length e4 :: exVs a.body w1 w2 w3 w4 w5 w6) = true), by simp only [ev0, ev, evV, List.cons_append, List.nil_append, List.getD_cons_zero, List.getD_cons_succ, List.map_cons, List.map_nil, iOf, bOf, sOf, pOf, slLen, slBase, cmpI, arI, Value.ite_bool, int_beq, int_bne, ite_band, ite_bor]; exact z3, ?_⟩
      · simp only [Chk.holds, ev0, ev, evV, List.cons_append, List.nil_append, List.getD_cons_zero, List.getD_cons_succ, List.map_cons, List.map_nil, iOf, bOf, sOf, pOf, slLen, slBase, cmpI, arI, Value.ite_bool, int_beq, int_bne, ite_band, ite_bor]; exact ⟨z1, by omega, by omega⟩
      refine ⟨?_, ?_⟩
      · refine den_bxNew (vs := [.slice none 0 0, .slice none 0 0, .int .i64 0, txt [], .slice none 0 0, .int .i64 0, .int .i64 0, txt [], .slice none 0 0, .slice none 0 0]) (Held.nil (PH.le_refl H2)) (by kernel_rfl) fun r1 K1 l3 h3 => ?_
        refine den_bxNew (vs := [.slice none 0 0, .slice none 0 0, .int .i64 0, txt [], .slice none 0 0, .int .i64 0, .int .i64 0, txt [], .slice none 0 0, .slice none 0 0]) h3 (by kernel_rfl) fun r2 K2 l4 h4 => ?_
        refine den_bxStore (off := 0) (vs := Value.slice a1 a.params.length a2 :: Value.slice a3 a.frees.length a4 :: exVs a.body v1 v2 v3 v4 v5 v6) (by kernel_rfl) (h4.perm (List.Perm.swap _ _ _)) (by kernel_rfl) (by simp [oneC]) (by simp) fun K3 h5 => ?_
        refine ⟨fun y hy => ?_, ?_⟩
        · rw [List.mem_singleton.1 hy]
          exact rowAt_le h5.sh z3
        refine den_bxStore (off := 0) (vs := Value.slice e1 a.params.length e2 :: Value.slice e3 a.frees.length e4 :: exVs a.body w1 w2 w3 w4 w5 w6) (by kernel_rfl) (h5.perm (List.Perm.swap _ _ _)) (by kernel_rfl) (by simp [oneC]) (by simp) fun K4 h6 => ?_
        exact ⟨_, lookup_hit, r1, r2, by kernel_rfl, h6.perm (List.Perm.swap _ _ _)⟩
      · refine den_bxNew (vs := [.slice none 0 0, .slice none 0 0, .int .i64 0, txt [], .slice none 0 0, .int .i64 0, .int .i64 0, txt [], .slice none 0 0, .slice none 0 0]) (Held.nil (PH.le_refl H2)) (by kernel_rfl) fun r2 K1 l3 h3 => ?_
        refine den_bxNew (vs := [.slice none 0 0, .slice none 0 0, .int .i64 0, txt [], .slice none 0 0, .int .i64 0, .int .i64 0, txt [], .slice none 0 0, .slice none 0 0]) h3 (by kernel_rfl) fun r1 K2 l4 h4 => ?_
        refine den_bxStore (off := 0) (vs := Value.slice a1 a.params.length a2 :: Value.slice a3 a.frees.length a4 :: exVs a.body v1 v2 v3 v4 v5 v6) (by kernel_rfl) h4 (by kernel_rfl) (by simp [oneC]) (by simp) fun K3 h5 => ?_
        refine ⟨fun y hy => ?_, ?_⟩
        · rw [List.mem_singleton.1 hy]
          exact rowAt_le h5.sh z3
        refine den_bxStore (off := 0) (vs := Value.slice e1 a.params.length e2 :: Value.slice e3 a.frees.length e4 :: exVs a.body w1 w2 w3 w4 w5 w6) (by kernel_rfl) (h5.perm (List.Perm.swap _ _ _)) (by kernel_rfl) (by simp [oneC]) (by simp) fun K4 h6 => ?_
        exact ⟨_, lookup_hit, r1, r2, by kernel_rfl, h6.perm (List.Perm.swap _ _ _)⟩
  · exact ⟨rfl, l2⟩

/-! ### the fixed call -/
mutual
def Xp.liftP (fs : List FunX) : Xp → Xp × List FunX
  | .mk k s ns d l => if k = 5 then
      (cloX (putsT [] (Xp.fr [] (.mk k s ns d l))) fs.length, (Xps.lift1P (fs ++ [⟨ns, putsT [] (Xp.fr [] (.mk k s ns d l)), exZ⟩]) l).2.set fs.length ⟨ns, putsT [] (Xp.fr [] (.mk k s ns d l)), (Xps.lift1P (fs ++ [⟨ns, putsT [] (Xp.fr [] (.mk k s ns d l)), exZ⟩]) l).1⟩)
    else (.mk k s ns d (Xps.liftP fs l).1, (Xps.liftP fs l).2)
def Xps.lift1P (fs : List FunX) : List Xp → Xp × List FunX
  | [] => (exZ, fs)
  | e :: _ => Xp.liftP fs e
def Xps.liftP (fs : List FunX) : List Xp → List Xp × List FunX
  | [] => ([], fs)
  | e :: l => ((Xp.liftP fs e).1 :: (Xps.liftP (Xp.liftP fs e).2 l).1, (Xps.liftP (Xp.liftP fs e).2 l).2)
end
mutual
theorem Xp.liftP_eq : ∀ (e : Xp) (fs : List FunX), Xp.liftP fs e = Xp.lift fs e
  | .mk k s ns d l, fs => by simp only [Xp.liftP, Xp.lift, freeS_puts, Xps.lift1P_eq l, Xps.liftP_eq l]
theorem Xps.lift1P_eq : ∀ (l : List Xp) (fs : List FunX), Xps.lift1P fs l = Xps.lift1 fs l
  | [], fs => by simp only [Xps.lift1P, Xps.lift1]
  | e :: l, fs => by simp only [Xps.lift1P, Xps.lift1, Xp.liftP_eq e]
theorem Xps.liftP_eq : ∀ (l : List Xp) (fs : List FunX), Xps.liftP fs l = Xps.lift fs l
  | [], fs => by simp only [Xps.liftP, Xps.lift]
  | e :: l, fs => by simp only [Xps.liftP, Xps.lift, Xp.liftP_eq e, Xps.liftP_eq l]
end
def liftXP (e : Xp) : LifX × Int := if (decide ((e.chk true 0 0).2 = 0) && (putsT [] (e.fr [])).isEmpty && !e.any badK) = true then (⟨(Xp.liftP [] e).2, (Xp.liftP [] e).1⟩, 0) else (⟨[], exZ⟩, 100)
theorem liftXP_eq (e : Xp) : liftXP e = liftX e := by
  unfold liftXP liftX liftGood
  rw [freeS_puts, Xp.liftP_eq]
def refL (s : List UInt8) : Xp := .mk 1 s [] dat0 []
def plusL : Xp := .mk 7 [43] [] dat0 [refL [120], refL [121]]
def fixL : Xp := .mk 8 [] [[120]] dat0 [.mk 0 [] [] (.mk 1 1 [] []) [], .mk 5 [] [[121]] dat0 [.mk 5 [] [] dat0 [plusL]]]
theorem ck_refL {S0 : PH} (s : List UInt8) : CK.Ok Try.prog S0 ⟨n_scrimshawlaw14_fixed_1, [(false, [.str s])], .ag, (refL s).pv⟩ := by
  refine ck_sc cb_scrimshawlaw14_fixed_1 fun S v hS hv => ?_
  simp only [PV.Rep] at hv
  obtain ⟨rfl, hl⟩ := hv
  refine tri_scrimshawlaw14_fixed_1 [txt s] rfl rfl ?_
  refine ⟨[.int .i64 1, txt s, .slice none 0 0, .int .i64 0, .int .i64 0, txt [], .slice none 0 0, .slice none 0 0], rfl, ?_, PH.le_refl _⟩
  exact Xp.Rep_iff.2 ⟨_, _, _, rfl, (by decide : InI 1), hl, SlR.mk_iff.2 ⟨Nat.zero_le _, .inl ⟨rfl, rfl⟩⟩, dat0_rep S, SlR.mk_iff.2 ⟨Nat.zero_le _, .inl ⟨rfl, rfl⟩⟩⟩
theorem ck_lift {S0 : PH} (e : Xp) (c : Int) (hc : (liftXP e).2 = c) (hk : inK .i64 c = true) : CK.Ok Try.prog S0 ⟨n_lift_Lift, [(true, e.pv)], .tu [(true, 9), (false, 1)], Enc.pv (liftXP e).1 ++ [.int .i64 c]⟩ := by
  refine ck_ag cb_lift_Lift fun S cs hS hr => (CLiftTop_tri e cs S hr).mono ?_
  rintro x S' ⟨l1, ls, rfl, r1⟩
  rw [← liftXP_eq] at r1 ⊢
  rw [hc]
  have hl : ls.length = 9 := by have := PV.RepRow.length r1; rwa [Enc.len] at this
  refine ⟨ls ++ [.int .i64 c], ?_, PV.RepRow.append r1 (row1 (rep_int hk)), l1⟩
  simp only [Sh.pack, tuPackN]
  rw [← hl, List.take_left', List.drop_left']
  · rfl
  · rfl
  · rfl
theorem ck_texts {S0 : PH} (l : List (List UInt8)) : CK.Ok Try.prog S0 ⟨n_scrimshawref06_SameTexts, [(false, [slp l]), (false, [slp l])], .sc, [.bool true]⟩ :=
  ck_sc2 cb_scrimshawref06_SameTexts fun S v w hS hv hw => gives_ck (fun S' => by simp only [decide_true]; exact rep_bool S' true) (SameTexts_gives l l v w S hv hw)
def fixTab : List CK :=
  [⟨n_scrimshawlaw14_fixed_1, [(false, [.str [120]])], .ag, (refL [120]).pv⟩,
   ⟨n_scrimshawlaw14_fixed_1, [(false, [.str [121]])], .ag, (refL [121]).pv⟩,
   ⟨n_lift_Lift, [(true, fixL.pv)], .tu [(true, 9), (false, 1)], Enc.pv (liftXP fixL).1 ++ [.int .i64 0]⟩,
   ⟨n_lift_Lift, [(true, plusL.pv)], .tu [(true, 9), (false, 1)], Enc.pv (liftXP plusL).1 ++ [.int .i64 100]⟩,
   ⟨n_scrimshawref06_SameTexts, [(false, [slp ([[120], [121]] : List (List UInt8))]), (false, [slp ([[120], [121]] : List (List UInt8))])], .sc, [.bool true]⟩,
   ⟨n_scrimshawref06_SameTexts, [(false, [slp ([[120]] : List (List UInt8))]), (false, [slp ([[120]] : List (List UInt8))])], .sc, [.bool true]⟩]
theorem fixTab_ok {S0 : PH} : TabOk Try.prog S0 fixTab := by
  have key : ∀ c ∈ fixTab, CK.Ok Try.prog S0 c := by
    simp only [fixTab, List.forall_mem_cons, List.not_mem_nil, false_imp_iff, implies_true, and_true]
    exact ⟨ck_refL _, ck_refL _, ck_lift fixL 0 (by decide +kernel) (by decide), ck_lift plusL 100 (by decide +kernel) (by decide), ck_texts _, ck_texts _⟩
  exact key
theorem fix_runs : runsTrue Try.prog fixTab fm_scrimshawlaw14_fixed = true := by kernel_rfl
theorem LFixed_gives (H : PH) : Gives Try.prog n_scrimshawlaw14_fixed [] H (.bool true) := gives_run tri_scrimshawlaw14_fixed (by kernel_rfl) (by kernel_rfl) fixTab_ok fix_runs

/-! ### the law -/
theorem LiftedTells_law (e : Xp) (cs : List Value) (H : PH) (he : e.Rep H cs) : Gives Try.prog n_scrimshawlaw14_LiftedTells [.agg cs.toArray] H (.bool true) := by
  have he' := he
  obtain ⟨nb, db, kb, nc, dc, kc, rfl, hx⟩ := Xp.Rep.open he
  refine tri_scrimshawlaw14_LiftedTells (exVs e nb db kb nc dc kc) (by kernel_rfl) (by kernel_rfl) ?_
  refine den_call cb_lift_Lift (CLiftTop_tri e _ H he') ?_
  rintro x H1 ⟨l1, ls, rfl, r1⟩
  have r1' := r1
  obtain ⟨fv, bs, rfl, s1, rr1⟩ := lif_iff.1 r1'
  obtain ⟨fb, fc, rfl⟩ := s1.sl
  obtain ⟨p1, p2, p3, p4, p5, p6, rfl, _⟩ := Xp.Rep.open rr1
  refine ⟨_, (.slice fb (liftX e).1.funs.length fc :: exVs (liftX e).1.main p1 p2 p3 p4 p5 p6) ++ [.int .i64 (liftX e).2], rfl, rfl, rfl, pendNil, ?_⟩
  refine den_call cb_scrimshawref14_Lift (RLiftTop_tri e _ H1 (Xp.Rep.le l1 e he')) ?_
  rintro x H2 ⟨l2, ls2, rfl, r2⟩
  have r2' := r2
  obtain ⟨fw, bs2, rfl, s2, rr2⟩ := lif_iff.1 r2'
  obtain ⟨gb, gc, rfl⟩ := s2.sl
  obtain ⟨q1, q2, q3, q4, q5, q6, rfl, _⟩ := Xp.Rep.open rr2
  refine ⟨_, (.slice gb (liftX e).1.funs.length gc :: exVs (liftX e).1.main q1 q2 q3 q4 q5 q6) ++ [.int .i64 (liftX e).2], rfl, rfl, rfl, pendNil, ?_⟩
  refine ⟨fun vs H' => vs = [.bool true] ∧ PH.le H H', ?_, ?_⟩
  · rintro vs H3 _ ⟨rfl, l3⟩; exact ⟨rfl, l3⟩
  have l12 := PH.le_trans l1 l2
  refine den_gives [.bool true] cb_scrimshawlaw14_fixed (LFixed_gives H2) rfl pendNil fun H3 l3 => ⟨fun _ => ?_, fun g => absurd g (by simp [ev0, ev, evV, List.cons_append, List.nil_append, List.getD_cons_zero, List.getD_cons_succ, List.map_cons, List.map_nil, iOf, bOf, sOf, pOf, slLen, slBase, cmpI, arI, Value.ite_bool])⟩
  refine den_gives [.bool true] cb_scrimshawref14_Same (Same14_gives (liftX e).1 _ _ H3 (PV.RepRow.le (PH.le_trans l2 l3) r1) (PV.RepRow.le l3 r2)) rfl pendNil fun H4 l4 => ⟨_, lookup_hit, ?_, PH.le_trans l12 (PH.le_trans l3 l4)⟩
  simp [ev0, ev, evV, List.cons_append, List.nil_append, List.getD_cons_zero, List.getD_cons_succ, List.map_cons, List.map_nil, iOf, bOf, sOf, pOf, slLen, slBase, cmpI, arI, Value.ite_bool, int_beq, int_bne, ite_band, ite_bor]
end Go.Proofs.Ytibinelkmlcmgaa.Vc
