/-
  Texts on the way to the statement, one behind the other, without what it does not reach.
-/
import Derived.Test.YtibinelkmlcmgaaGreatKk
set_option linter.unusedSimpArgs false
set_option linter.unusedVariables false
set_option maxRecDepth 100000
/-
  LIFT: the program's walk.
-/
namespace Go.Proofs.YtibinelkmlcmgaaGreat.Vc
open Go

section
variable {P : Program} {X : List PanicEntry → PH → Prop} {β : Type} {E : List Value} {H : PH} {L : LK} {K : β → List Value → PH → LK → Prop}
theorem den_makeFunc' {fn : Fn} {first caps : Array Operand} {ty : TypeId} {args : List (Nat × VE)} {k : Fm β} {f : FuncId} {F C : Array Value} (hf : fn = .func f) (h1 : first.map (argEv E args) = F) (h2 : caps.map (argEv E args) = C) (hk : den P X k (E ++ [.func (.func f) F C]) H L K) :
    den P X (.sem (.makeFunc fn first caps) ty args (.sc .any) [] k) E H L K := by
  subst h1 h2
  exact den_makeFunc hf hk
end
def JF (r : Nat) (T : TypeId) (fs : List FunX) (Js : List Itm) : Prop := ∃ fv, Js = [bx r T [fv], orow 47 fs fv]
theorem clo_rep {S : PH} {fr : List (List UInt8)} {v : Value} {n : Nat} (hn : n ≤ 900000) (h : SlR S fr v) : (cloX fr n).Rep S [.int .i64 11, txt [], v, .int .i64 1, .int .i64 (n : Int), txt [], .slice none 0 0, .slice none 0 0] :=
  Xp.Rep_iff.2 ⟨_, _, _, rfl, (by decide : InI 11), Nat.zero_le _, h, leaf_rep (by decide) (by unfold InI; omega) (by decide), SlR.mk_iff.2 ⟨Nat.zero_le _, .inl ⟨rfl, rfl⟩⟩⟩
theorem slot_rep {S : PH} {e b : Xp} {v w : Value} {bs : List Value} (h1 : SlR S e.names v) (h2 : SlR S (freeS (Xp.fr [] e)) w) (h3 : b.Rep S bs) : CsR S (slot e b) (v :: w :: bs) := fun_iff.2 ⟨_, _, _, rfl, h1, h2, h3⟩
theorem freeS_len (l : List (List UInt8)) : (freeS l).length ≤ l.length := by
  rw [← freeS_puts]
  have := putsT_len l []
  simpa using this
theorem free_len (e : Xp) : (freeS (Xp.fr [] e)).length ≤ e.size := Nat.le_trans (freeS_len _) (Xp.fr_len e [])
theorem CLift_tri (r : Nat) (T : TypeId) : ∀ (e : Xp) (cs : List Value) (S K : PH) (fs : List FunX) (Js : List Itm), Held S K Js → JF r T fs Js → e.Rep S cs → e.okF true → e.size ≤ 4096 → fs.length + e.size ≤ 900000 →
    Tri Tryz.prog n_lift_lifter__lift #[pAt r, .agg cs.toArray] K fun x K' => ∃ S' J', PH.le S S' ∧ Held S' K' J' ∧ JF r T (Xp.lift fs e).2 J' ∧ XRet S' (Xp.lift fs e).1 x := by
  refine Xp.ind fun e ih cs S K fs Js h hJ he hok hsz hfl => ?_
  obtain ⟨fv, rfl⟩ := hJ
  have he' := he
  obtain ⟨nb, db, kb, nc, dc, kc, rfl, hx⟩ := Xp.Rep.open he
  have hbn := Xp.okF_bnd true e hok
  have hfit := Xp.fit_of e hsz (by omega)
  obtain ⟨f1, f2, f3⟩ := (Xp.fit_iff e).1 hfit
  have hse := Xp.size_eq e
  have hkok := (Xp.okF_form hok).2
  obtain ⟨fb, fc, rfl⟩ := (h.row (List.mem_cons_of_mem _ (List.mem_cons_self ..))).sl
  refine tri_lift_lifter__lift (pAt r :: exVs e nb db kb nc dc kc) (by kernel_rfl) (by kernel_rfl) ?_
  refine ⟨fun g => ?_, fun g => ?_⟩
  · simp only [ev0, ev, evV, List.cons_append, List.nil_append, List.getD_cons_zero, List.getD_cons_succ, List.map_cons, List.map_nil, iOf, bOf, sOf, pOf, slLen, slBase, cmpI, arI, Value.ite_bool, int_beq, int_bne, ite_band, ite_bor, decide_eq_true_eq] at g
    rw [Xp.lift_other e fs g]
    refine den_makeFunc' (f := n_lift_lifter__lift) (F := #[pAt r]) (C := #[]) rfl (by kernel_rfl) (by kernel_rfl) ?_
    have hmap : Tri Tryz.prog n_pass_Map #[.agg (exVs e nb db kb nc dc kc).toArray, .func (.func n_lift_lifter__lift) #[pAt r] #[]] K fun x K' => ∃ S' J', PH.le S S' ∧ Held S' K' J' ∧ JF r T (mapS (fun s x => Xp.lift s x) fs e.kids).2 J' ∧ XRet S' (.mk e.kind e.name e.names e.const (mapS (fun s x => Xp.lift s x) fs e.kids).1) x := by
      refine Map_tri (fun s x => Xp.lift s x) (JF r T) fs e _ S K _ (g := n_lift_lifter__lift) (first := #[pAt r]) (caps := #[]) cb_lift_lifter__lift h ⟨_, rfl⟩ he' f2 ?_
      intro j k hj S' K' Js cs l' h' hJs hk
      have hm := List.mem_of_getElem? hj
      have h1 := Xps.size_at hj
      have h2 := Xps.lift_keep (e.kids.take j) fs
      rw [Xps.lift_mapS] at h2
      exact ih k hm cs S' K' _ Js h' hJs hk (hkok k hm) (by omega) (by omega)
    refine den_call cb_pass_Map hmap ?_
    rintro x K2 ⟨S2, J2, l2, h2, hj2, es, rfl, r2⟩
    have ht := Xp.Rep.tags r2
    have r2' := r2
    obtain ⟨p1, p2, p3, p4, p5, p6, rfl, _⟩ := Xp.Rep.open r2'
    exact ⟨_, _, rfl, ht, rfl, pendNil, S2, J2, l2, h2, hj2, _, rfl, r2⟩
  simp only [ev0, ev, evV, List.cons_append, List.nil_append, List.getD_cons_zero, List.getD_cons_succ, List.map_cons, List.map_nil, iOf, bOf, sOf, pOf, slLen, slBase, cmpI, arI, Value.ite_bool, int_beq, int_bne, ite_band, ite_bor, decide_eq_false_iff_not, ne_eq, Decidable.not_not] at g
  obtain ⟨b, hb0, hbm⟩ := lam_kid hok g
  have hbs := Xps.size_at hb0
  have hlen := free_len e
  rw [Xp.lift_lam e b fs g hb0]
  refine ⟨fun _ => rfl, ?_⟩
  refine den_bxLoad [.slice fb fs.length fc] (off := 0) (by kernel_rfl) h (List.mem_cons_self ..) rfl rfl ?_
  have hfree := h.pure (R := fun x S' => ∃ v, x = .returned v ∧ SlR S' (freeS (Xp.fr [] e)) v) ((CFree_tri e _ S he' (by omega) (by omega)).mono fun x S' ⟨v, q1, q2, q3⟩ => ⟨q3, v, q1, q2⟩)
  refine den_call cb_core_Free hfree ?_
  rintro x K1 ⟨S1, l1, h1, v1, rfl, s1⟩
  obtain ⟨b1, c1, rfl⟩ := s1.sl
  refine ⟨_, [.slice b1 (freeS (Xp.fr [] e)).length c1], rfl, rfl, rfl, pendNil, ?_⟩
  refine den_bxLoad [.slice fb fs.length fc] (off := 0) (by kernel_rfl) h1 (List.mem_cons_self ..) rfl rfl ?_
  refine den_call (by kernel_rfl) (h1.pure (R := fun x S' => ∃ v', x = .returned v' ∧ SlR S' e.names v') (CloneS_tri e.names _ S1 (hx.names.le l1) f1)) ?_
  rintro x K2 ⟨S2, l2, h2, v2, rfl, s2⟩
  obtain ⟨b2, c2, rfl⟩ := s2.sl
  refine ⟨_, [.slice b2 e.names.length c2], rfl, rfl, rfl, ?_, ?_⟩
  · intro x hx
    rw [List.mem_singleton.1 hx]
    exact bx_row h2 (List.mem_cons_self ..) 0 1
  have hpush := h2.perm (List.Perm.swap _ _ _)
  refine den_hPush (more := [slot e exZ]) (b := 176) [.agg #[.slice b2 e.names.length c2, .slice b1 (freeS (Xp.fr [] e)).length c1, .int .i64 0, txt [], .slice none 0 0, .int .i64 0, .int .i64 0, txt [], .slice none 0 0, .slice none 0 0]] uFuns elemFun rfl (by decide) (by decide) hpush (by kernel_rfl) (.cons (slot_rep s2 (s1.le l2) (ex0_rep S2)) .nil)
    ?_ (fun _ => by kernel_rfl) (fun _ => by kernel_rfl)
    (by simp only [maxLen, List.length_cons, List.length_nil]; omega) (by simp only [List.length_cons, List.length_nil]; omega) fun u v3 S3 K3 l3 h3 => ⟨pendNil, ?_⟩
  · intro x hx
    rw [List.mem_singleton.1 hx]
    exact bx_row h2 (List.mem_cons_self ..) 0 1
  have h3' := h3.perm (List.Perm.swap _ _ _)
  refine den_bxStore (off := 0) (vs := [v3]) (by kernel_rfl) h3' (by kernel_rfl) (by obtain ⟨_, _, e3⟩ := (h3.row (List.mem_cons_self ..)).sl; rw [e3]; simp [oneC]) (by simp) fun K4 h4 => ?_
  have h4 : Held S3 K4 [bx r T [v3], orow 47 (fs ++ [slot e exZ]) v3] := h4
  have l03 := PH.le_trans l1 (PH.le_trans l2 l3)
  obtain ⟨q1, _, ces, q2, q3⟩ := (hx.kids.le l03).get hb0
  have htags := Xp.Rep.tags q2
  have q2' := q2
  obtain ⟨p1, p2, p3, p4, p5, p6, rfl, _⟩ := Xp.Rep.open q2'
  refine ⟨fun _ => ?_, _, htags, by simp only [ev0, ev, evV, List.cons_append, List.nil_append, List.getD_cons_zero, List.getD_cons_succ, List.map_cons, List.map_nil, iOf, bOf, sOf, pOf, slLen, slBase, cmpI, arI, Value.ite_bool, int_beq, int_bne, ite_band, ite_bor]; exact rowAt_le h4.sh q3, ?_⟩
  · simp only [Chk.holds, ev0, ev, evV, List.cons_append, List.nil_append, List.getD_cons_zero, List.getD_cons_succ, List.map_cons, List.map_nil, iOf, bOf, sOf, pOf, slLen, slBase, cmpI, arI, Value.ite_bool, int_beq, int_bne, ite_band, ite_bor]; exact ⟨q1, by omega, by
      have := (List.getElem?_eq_some_iff.1 hb0).1
      omega⟩
  refine den_call cb_lift_lifter__lift (ih b hbm _ S3 K4 (fs ++ [slot e exZ]) _ h4 ⟨_, rfl⟩ q2 (hkok b hbm) (by omega) (by rw [List.length_append, List.length_singleton]; omega)) ?_
  rintro x K5 ⟨S5, J5, l5, h5, ⟨fv5, rfl⟩, es, rfl, r5⟩
  obtain ⟨n1, n2, n3⟩ := Xp.lift_keep b (fs ++ [slot e exZ])
  rw [List.length_append, List.length_singleton] at n1 n2
  have hat : (Xp.lift (fs ++ [slot e exZ]) b).2[fs.length]? = some (slot e exZ) := by
    rw [n3 _ (by rw [List.length_append, List.length_singleton]; omega), List.getElem?_append_right (by omega)]
    simp
  generalize hrb : Xp.lift (fs ++ [slot e exZ]) b = rb at h5 r5 n1 n2 n3 hat
  have ht5 := Xp.Rep.tags r5
  have r5' := r5
  obtain ⟨w1, w2, w3, w4, w5, w6, rfl, _⟩ := Xp.Rep.open r5'
  refine ⟨_, exVs rb.1 w1 w2 w3 w4 w5 w6, rfl, ht5, rfl, pendNil, ?_⟩
  have hrow := h5.row (List.mem_cons_of_mem _ (List.mem_cons_self ..))
  obtain ⟨b5, c5, hv5⟩ := hrow.sl
  subst hv5
  refine den_bxLoad [.slice b5 rb.2.length c5] (off := 0) (by kernel_rfl) h5 (List.mem_cons_self ..) rfl rfl ?_
  refine ⟨fun _ => ?_, ?_⟩
  · obtain ⟨y1, _⟩ := (hrow.slR h5.sh).get hat
    simp only [Chk.holds, ev0, ev, evV, List.cons_append, List.nil_append, List.getD_cons_zero, List.getD_cons_succ, List.map_cons, List.map_nil, iOf, bOf, sOf, pOf, slLen, slBase, cmpI, arI, Value.ite_bool, int_beq, int_bne, ite_band, ite_bor]; exact ⟨y1, by omega, by omega⟩
  have s1' := s1.le (PH.le_trans l2 (PH.le_trans l3 l5))
  have s2' := s2.le (PH.le_trans l3 l5)
  refine den_hPut (i := fs.length) (off := 2) (a := slot e exZ) (a' := slot e rb.1) (us := exVs rb.1 w1 w2 w3 w4 w5 w6) (by kernel_rfl) (h5.perm (List.Perm.swap _ _ _)) hat (show 2 + 8 ≤ 10 by omega) (by kernel_rfl) (by simp [oneC]) ?_ fun K6 h6 => ?_
  · intro ces hc
    obtain ⟨pv, fv, bs, rfl, c1, c2, c3⟩ := fun_iff.1 hc
    have hl : bs.length = 8 := (PV.RepRow.length c3).trans (Xp.pv_len _)
    have : (pv :: fv :: bs).drop 10 = [] := List.drop_eq_nil_of_le (by simp [hl])
    show CsR S5 (slot e rb.1) (pv :: fv :: exVs rb.1 w1 w2 w3 w4 w5 w6 ++ (pv :: fv :: bs).drop 10)
    rw [this, List.append_nil]
    exact slot_rep c1 c2 r5
  refine den_call (by kernel_rfl) (h6.pure (R := fun x S' => ∃ v', x = .returned v' ∧ SlR S' (freeS (Xp.fr [] e)) v') (CloneS_tri _ _ S5 s1' (by omega))) ?_
  rintro x K7 ⟨S7, l7, h7, v7, rfl, s7⟩
  obtain ⟨b7, c7, rfl⟩ := s7.sl
  refine ⟨_, [.slice b7 (freeS (Xp.fr [] e)).length c7], rfl, rfl, rfl, pendNil, ?_⟩
  exact ⟨S7, _, PH.le_trans l03 (PH.le_trans l5 l7), h7.perm (List.Perm.swap _ _ _), ⟨_, rfl⟩, _, rfl, clo_rep (by omega) s7⟩
end Go.Proofs.YtibinelkmlcmgaaGreat.Vc
/-
  LIFT: the document's walk; both Lifts.
-/
namespace Go.Proofs.YtibinelkmlcmgaaGreat.Vc
open Go

def liftGood (e : Xp) : Bool := decide ((e.chk true 0 0).2 = 0) && (freeS (e.fr [])).isEmpty && !e.any badK
def liftX (e : Xp) : LifX × Int := if liftGood e = true then (⟨(Xp.lift [] e).2, (Xp.lift [] e).1⟩, 0) else (⟨[], exZ⟩, 100)
def LRet (e : Xp) (x : Ending) (S' : PH) : Prop := ∃ ls : List Value, x = .returned (.tuple #[.agg ls.toArray, .int .i64 (liftX e).2]) ∧ CsR S' (liftX e).1 ls
theorem lif0_rep (S : PH) : CsR S (⟨[], exZ⟩ : LifX) [.slice none 0 0, .int .i64 0, txt [], .slice none 0 0, .int .i64 0, .int .i64 0, txt [], .slice none 0 0, .slice none 0 0] := lif_iff.2 ⟨_, _, rfl, SlR.mk_iff.2 ⟨Nat.zero_le _, .inl ⟨rfl, rfl⟩⟩, ex0_rep S⟩
theorem CLiftTop_tri (e : Xp) (cs : List Value) (S : PH) (he : e.Rep S cs) : Tri Tryz.prog n_lift_Lift #[.agg cs.toArray] S fun x S' => PH.le S S' ∧ LRet e x S' := by
  have he' := he
  obtain ⟨nb, db, kb, nc, dc, kc, rfl, hx⟩ := Xp.Rep.open he
  refine tri_lift_Lift (exVs e nb db kb nc dc kc) (by kernel_rfl) (by kernel_rfl) ?_
  refine ⟨fun vs S' => vs = [.bool (!liftGood e)] ∧ PH.le S S', ?_, ?_⟩
  · rintro vs S1 _ ⟨rfl, l1⟩
    refine ⟨fun g => ?_, fun g => ?_⟩
    · simp only [ev0, ev, evV, List.cons_append, List.nil_append, List.getD_cons_zero, List.getD_cons_succ, List.map_cons, List.map_nil, iOf, bOf, sOf, pOf, slLen, slBase, cmpI, arI, Value.ite_bool, int_beq, int_bne, ite_band, ite_bor, Bool.not_eq_true'] at g
      have hlx : liftX e = (⟨[], exZ⟩, 100) := by unfold liftX; rw [if_neg (by rw [g]; exact Bool.false_ne_true)]
      refine ⟨l1, [.slice none 0 0, .int .i64 0, txt [], .slice none 0 0, .int .i64 0, .int .i64 0, txt [], .slice none 0 0, .slice none 0 0], ?_, by rw [hlx]; exact lif0_rep S1⟩
      rw [hlx]; rfl
    simp only [ev0, ev, evV, List.cons_append, List.nil_append, List.getD_cons_zero, List.getD_cons_succ, List.map_cons, List.map_nil, iOf, bOf, sOf, pOf, slLen, slBase, cmpI, arI, Value.ite_bool, int_beq, int_bne, ite_band, ite_bor, Bool.not_eq_false'] at g
    have hlx : liftX e = (⟨(Xp.lift [] e).2, (Xp.lift [] e).1⟩, 0) := by unfold liftX; rw [if_pos g]
    have hc : (e.chk true 0 0).2 = 0 := by
      unfold liftGood at g
      simp only [Bool.and_eq_true, decide_eq_true_eq] at g
      exact g.1.1
    have hok := (Xp.chk_ok true e 0 0 hc).1
    have hsz := chk_size hc
    refine den_call cb_pass_Told (Told_tri e _ S1 (Xp.Rep.le l1 e he')) ?_
    rintro x S2 ⟨l2, es, _, rfl, r2⟩
    rw [if_pos hc] at r2 ⊢
    have ht2 := Xp.Rep.tags r2
    have r2' := r2
    obtain ⟨p1, p2, p3, p4, p5, p6, rfl, _⟩ := Xp.Rep.open r2'
    refine ⟨_, exVs e p1 p2 p3 p4 p5 p6 ++ [.int .i64 0], rfl, rfl, rfl, pendNil, ?_⟩
    refine den_bxNew (vs := [.slice none 0 0]) (Held.nil (PH.le_refl S2)) (by kernel_rfl) fun r K3 l3 h3 => ?_
    refine den_call cb_lift_lifter__lift (CLift_tri r _ e _ S2 K3 [] _ ((h3.empty (α := FunX) _).perm (List.Perm.swap _ _ _)) ⟨_, rfl⟩ r2 hok hsz (by simp only [List.length_nil]; omega)) ?_
    rintro x K4 ⟨S4, J4, l4, h4, ⟨fv4, rfl⟩, es, rfl, r4⟩
    have ht4 := Xp.Rep.tags r4
    have r4' := r4
    obtain ⟨w1, w2, w3, w4, w5, w6, hes, _⟩ := Xp.Rep.open r4'
    subst hes
    refine ⟨_, _, rfl, ht4, rfl, pendNil, fun _ => rfl, ?_⟩
    obtain ⟨b5, c5, hv5⟩ := (h4.row (List.mem_cons_of_mem _ (List.mem_cons_self ..))).sl
    refine den_bxLoad [fv4] (off := 0) (by kernel_rfl) h4 (List.mem_cons_self ..) rfl (by rw [hv5]; rfl) ?_
    obtain ⟨S5, s5, l5, h5⟩ := h4.tail.freeze
    refine ⟨PH.le_trans l1 (PH.le_trans l2 (PH.le_trans l4 (PH.le_trans l5 h5.sh))), fv4 :: exVs (Xp.lift [] e).1 w1 w2 w3 w4 w5 w6, ?_, ?_⟩
    · rw [hlx]; rfl
    · rw [hlx]; exact lif_iff.2 ⟨_, _, rfl, s5.le h5.sh, Xp.Rep.le (PH.le_trans l5 h5.sh) _ r4⟩
  refine den_gives [.int .i64 (e.chk true 0 0).2] cb_core_Check (CCheckF_gives e _ S he') rfl pendNil fun H1 l1 => ?_
  refine ⟨fun g => ?_, fun g => ?_⟩
  · simp only [ev0, ev, evV, List.cons_append, List.nil_append, List.getD_cons_zero, List.getD_cons_succ, List.map_cons, List.map_nil, iOf, bOf, sOf, pOf, slLen, slBase, cmpI, arI, Value.ite_bool, int_beq, int_bne, ite_band, ite_bor, decide_eq_true_eq] at g
    refine ⟨_, lookup_hit, ?_, l1⟩
    unfold liftGood
    rw [decide_eq_false g]; rfl
  simp only [ev0, ev, evV, List.cons_append, List.nil_append, List.getD_cons_zero, List.getD_cons_succ, List.map_cons, List.map_nil, iOf, bOf, sOf, pOf, slLen, slBase, cmpI, arI, Value.ite_bool, int_beq, int_bne, ite_band, ite_bor, decide_eq_false_iff_not, ne_eq, Decidable.not_not] at g
  have hb := chk_bounds g
  have hsz := chk_size g
  refine den_call cb_core_Free (CFree_tri e _ H1 (Xp.Rep.le l1 e he') (by omega) (by omega)) ?_
  rintro x H2 ⟨v2, rfl, s2, l2⟩
  obtain ⟨b2, c2, rfl⟩ := s2.sl
  refine ⟨_, [.slice b2 (freeS (e.fr [])).length c2], rfl, rfl, rfl, pendNil, ?_⟩
  refine ⟨fun g2 => ?_, fun g2 => ?_⟩
  · simp only [ev0, ev, evV, List.cons_append, List.nil_append, List.getD_cons_zero, List.getD_cons_succ, List.map_cons, List.map_nil, iOf, bOf, sOf, pOf, slLen, slBase, cmpI, arI, Value.ite_bool, int_beq, int_bne, ite_band, ite_bor, decide_eq_true_eq] at g2
    refine ⟨_, lookup_hit, ?_, PH.le_trans l1 l2⟩
    unfold liftGood
    rw [← list_empty, decide_eq_false (by omega : ¬ ((freeS (e.fr [])).length : Int) = 0)]
    simp [ev0, ev, evV, List.cons_append, List.nil_append, List.getD_cons_zero, List.getD_cons_succ, List.map_cons, List.map_nil, iOf, bOf, sOf, pOf, slLen, slBase, cmpI, arI, Value.ite_bool, int_beq, int_bne, ite_band, ite_bor]
  simp only [ev0, ev, evV, List.cons_append, List.nil_append, List.getD_cons_zero, List.getD_cons_succ, List.map_cons, List.map_nil, iOf, bOf, sOf, pOf, slLen, slBase, cmpI, arI, Value.ite_bool, int_beq, int_bne, ite_band, ite_bor, decide_eq_false_iff_not] at g2
  refine den_gives [.bool (e.any badK)] cb_pass_Any (Any_gives e _ H2 (Xp.Rep.le (PH.le_trans l1 l2) e he')) rfl pendNil fun H3 l3 => ⟨_, lookup_hit, ?_, PH.le_trans l1 (PH.le_trans l2 l3)⟩
  unfold liftGood
  rw [← list_empty, decide_eq_true (by omega : ((freeS (e.fr [])).length : Int) = 0), decide_eq_true g]
  simp [ev0, ev, evV, List.cons_append, List.nil_append, List.getD_cons_zero, List.getD_cons_succ, List.map_cons, List.map_nil, iOf, bOf, sOf, pOf, slLen, slBase, cmpI, arI, Value.ite_bool, int_beq, int_bne, ite_band, ite_bor]
end Go.Proofs.YtibinelkmlcmgaaGreat.Vc
/-
  LIFT: rows of names put together, held against each other; numbers sought in a row.
-/
namespace Go.Proofs.YtibinelkmlcmgaaGreat.Vc
open Go

instance encTxts : Enc (List (List UInt8)) := ⟨fun l => [slp l], 1, fun _ => rfl⟩
theorem csTxtss {H : PH} {l : List (List UInt8)} {cs : List Value} : CsR H l cs ↔ ∃ v, cs = [v] ∧ SlR H l v := by
  show PV.RepRow H [slp l] cs ↔ _
  simp only [PV.RepRow]
  constructor
  · rintro ⟨v, vs, rfl, h, rfl⟩; exact ⟨v, rfl, h⟩
  · rintro ⟨v, rfl, h⟩; exact ⟨v, [], rfl, h, rfl⟩
theorem csIntL {H : PH} {a : Int} {cs : List Value} (h : CsR H a cs) : cs = [.int .i64 a] ∧ InI a := by
  have h' : PV.RepRow H [.int .i64 a] cs := h
  simp only [PV.RepRow, PV.Rep] at h'
  obtain ⟨v, vs, rfl, ⟨rfl, h1⟩, rfl⟩ := h'
  exact ⟨rfl, inI64.1 h1⟩
theorem int_cs {S : PH} {a : Int} (h : InI a) : CsR S a [.int .i64 a] := by
  show PV.RepRow S [.int .i64 a] [.int .i64 a]
  simp only [PV.RepRow, PV.Rep]
  exact ⟨_, _, rfl, ⟨rfl, inI64.2 h⟩, rfl⟩
theorem uTxtss : Tryz.prog.underlying 87 = some (.slice 23) := by kernel_rfl
theorem elemTxts : ElemOk Tryz.prog 23 1 24 = true := by kernel_rfl
theorem uIntL : Tryz.prog.underlying 3 = some (.int .i64) := by kernel_rfl
theorem uIntsL : Tryz.prog.underlying 49 = some (.slice 3) := by kernel_rfl
theorem elemInt : ElemOk Tryz.prog 3 1 8 = true := by kernel_rfl
theorem oneStr : OneOk Tryz.prog 9 16 (txt []) := OneOk.of (by kernel_rfl) rfl
theorem oneInt : OneOk Tryz.prog 3 8 (.int .i64 0) := OneOk.of (by kernel_rfl) rfl

theorem Grow_tri (n : Nat) (hn : n ≤ 8000000) (S : PH) : Tri Tryz.prog n_slices_Grow___string_string_ #[.slice none 0 0, .int .i64 (n : Int)] S fun x S' => ∃ v, x = .returned v ∧ Held S S' [orow (α := List UInt8) 9 [] v] := by
  have hw : IntKind.i64.wrap ((n : Int) - IntKind.i64.wrap (((0 : Nat) : Int) - ((0 : Nat) : Int))) = (n : Int) := by
    rw [show (((0 : Nat) : Int) - ((0 : Nat) : Int)) = 0 by omega, show IntKind.i64.wrap 0 = 0 by decide, w64 (by omega) (by omega)]; omega
  refine tri_slices_Grow___string_string_ [.slice none 0 0, .int .i64 (n : Int)] (by kernel_rfl) (by kernel_rfl) ?_
  refine ⟨fun vs H' => vs = [] ∧ H' = S, ?_, ⟨fun g => ?_, fun _ => ⟨_, lookup_hit, rfl, rfl⟩⟩⟩
  · rintro vs H1 _ ⟨rfl, rfl⟩
    refine ⟨fun vs H' => ∃ v k, vs = [v, .int .i64 k] ∧ Held H1 H' [orow (α := List UInt8) 9 [] v], ?_, ⟨fun g => ?_, fun g => ?_⟩⟩
    · rintro vs H2 _ ⟨v, k, rfl, h2⟩
      exact ⟨v, rfl, h2⟩
    · simp only [ev0, ev, evV, List.cons_append, List.nil_append, List.getD_cons_zero, List.getD_cons_succ, List.map_cons, List.map_nil, iOf, bOf, sOf, pOf, slLen, slBase, cmpI, arI, Value.ite_bool, int_beq, int_bne, ite_band, ite_bor, slCap, decide_eq_true_eq, hw] at g
      refine ⟨fun _ => ?_, ?_⟩
      · simp only [Chk.holds, ev0, ev, evV, List.cons_append, List.nil_append, List.getD_cons_zero, List.getD_cons_succ, List.map_cons, List.map_nil, iOf, bOf, sOf, pOf, slLen, slBase, cmpI, arI, Value.ite_bool, int_beq, int_bne, ite_band, ite_bor, slCap]; omega
      refine den_hRoom (α := List UInt8) (b := 16) (n := n) rfl uTxts uIntL oneStr rfl (congrArg (Value.int .i64) hw) (by simp only [maxLen]; omega) (by omega) (by omega) (Held.nil (PH.le_refl H1)) fun r cap H2 hc h2 _ => ?_
      refine ⟨fun _ => ?_, _, lookup_hit, _, _, rfl, ?_⟩
      · simp only [Chk.holds, ev0, ev, evV, List.cons_append, List.nil_append, List.getD_cons_zero, List.getD_cons_succ, List.map_cons, List.map_nil, iOf, bOf, sOf, pOf, slLen, slBase, cmpI, arI, Value.ite_bool, int_beq, int_bne, ite_band, ite_bor, slCap]; omega
      · have : slsV (.slice (some ⟨r, 0, none⟩) n cap) 0 0 1 = .slice (some ⟨r, 0, none⟩) 0 cap := by
          have hcap : cap ≠ 0 := by
            intro e0
            rw [e0] at hc
            have : n = 0 := Nat.le_zero.1 hc
            rw [this] at g
            exact absurd g (by decide)
          unfold slsV
          rw [if_neg (show ¬ slCap (.slice (some ⟨r, 0, none⟩) n cap) = (0 : Int).toNat from hcap)]
          rfl
        have e : ev0 ([Value.slice none 0 0, Value.int .i64 (n : Int)] ++ [] ++ [.slice (some ⟨r, 0, none⟩) n cap]) (.sls (.atom 2) (.int .i64 0) (.len (.atom 0)) 1) = .slice (some ⟨r, 0, none⟩) 0 cap := this
        exact e ▸ h2
    · refine ⟨_, lookup_hit, _, _, rfl, Held.empty (Held.nil (PH.le_refl H1)) _⟩
  · simp only [ev0, ev, evV, List.cons_append, List.nil_append, List.getD_cons_zero, List.getD_cons_succ, List.map_cons, List.map_nil, iOf, bOf, sOf, pOf, slLen, slBase, cmpI, arI, Value.ite_bool, int_beq, int_bne, ite_band, ite_bor, decide_eq_true_eq] at g
    omega
theorem flat_succ {ls : List (List (List UInt8))} {k : Nat} {a : List (List UInt8)} (h : ls[k]? = some a) : (ls.take (k + 1)).flatten = (ls.take k).flatten ++ a := by
  rw [List.take_add_one, h, List.flatten_append]; simp
theorem flat_le (ls : List (List (List UInt8))) (k : Nat) : (ls.take k).flatten.length ≤ ls.flatten.length := by
  have := congrArg List.length (List.flatten_append (L₁ := ls.take k) (L₂ := ls.drop k))
  rw [List.take_append_drop, List.length_append] at this
  omega
theorem Concat_tri (ls : List (List (List UInt8))) (v : Value) (S : PH) (h : SlR S ls v) (hb : ls.flatten.length ≤ 4000000) : Tri Tryz.prog n_slices_Concat___string_string_ #[v] S fun x S' => PH.le S S' ∧ ∃ w, x = .returned w ∧ SlR S' ls.flatten w := by
  obtain ⟨b, c, rfl⟩ := h.sl
  have hm := h.max
  simp only [maxLen] at hm
  refine tri_slices_Concat___string_string_ [.slice b ls.length c] (by kernel_rfl) (by kernel_rfl) ?_
  refine ⟨fun n vs H' => ∃ k : Nat, vs = [.int .i64 ((ls.take k).flatten.length : Int), .int .i64 k] ∧ k + n = ls.length ∧ PH.le S H', ⟨ls.length, 0, rfl, by omega, PH.le_refl S⟩, ?_⟩
  rintro n vs H1 _ ⟨k, rfl, hkn, l1⟩
  refine ⟨fun g => ?_, fun g => ?_⟩
  · simp only [ev0, ev, evV, List.cons_append, List.nil_append, List.getD_cons_zero, List.getD_cons_succ, List.map_cons, List.map_nil, iOf, bOf, sOf, pOf, slLen, slBase, cmpI, arI, Value.ite_bool, int_beq, int_bne, ite_band, ite_bor, decide_eq_true_eq] at g
    obtain ⟨a, ha⟩ : ∃ a, ls[k]? = some a := ⟨_, List.getElem?_eq_getElem (show k < ls.length by omega)⟩
    obtain ⟨g1, _, ces, g2, g3⟩ := (h.le l1).get ha
    obtain ⟨w, rfl, sw⟩ := csTxtss.1 g2
    obtain ⟨wb, wc, rfl⟩ := sw.sl
    have hfl := flat_le ls (k + 1)
    rw [flat_succ ha, List.length_append] at hfl
    have hw : IntKind.i64.wrap (((ls.take k).flatten.length : Int) + (a.length : Int)) = (((ls.take (k + 1)).flatten.length : Nat) : Int) := by
      rw [flat_succ ha, List.length_append, w64 (by omega) (by omega)]; omega
    refine ⟨fun vs H' => vs = [.int .i64 ((ls.take (k + 1)).flatten.length : Int)] ∧ PH.le S H', ?_, fun _ => ?_, [.slice wb a.length wc], rfl, by simp only [ev0, ev, evV, List.cons_append, List.nil_append, List.getD_cons_zero, List.getD_cons_succ, List.map_cons, List.map_nil, iOf, bOf, sOf, pOf, slLen, slBase, cmpI, arI, Value.ite_bool, int_beq, int_bne, ite_band, ite_bor]; exact g3, fun g4 => ?_, fun _ => ⟨_, lookup_hit, ?_, l1⟩⟩
    · rintro vs H2 _ ⟨rfl, l2⟩
      refine ⟨_, lookup_hit, n - 1, by omega, k + 1, ?_, by omega, l2⟩
      simp only [ev0, ev, evV, List.cons_append, List.nil_append, List.getD_cons_zero, List.getD_cons_succ, List.map_cons, List.map_nil, iOf, bOf, sOf, pOf, slLen, slBase, cmpI, arI, Value.ite_bool, int_beq, int_bne, ite_band, ite_bor]; rw [w64 (by omega) (by omega)]; rfl
    · simp only [Chk.holds, ev0, ev, evV, List.cons_append, List.nil_append, List.getD_cons_zero, List.getD_cons_succ, List.map_cons, List.map_nil, iOf, bOf, sOf, pOf, slLen, slBase, cmpI, arI, Value.ite_bool, int_beq, int_bne, ite_band, ite_bor]; exact ⟨g1, by omega, by omega⟩
    · simp only [ev0, ev, evV, List.cons_append, List.nil_append, List.getD_cons_zero, List.getD_cons_succ, List.map_cons, List.map_nil, iOf, bOf, sOf, pOf, slLen, slBase, cmpI, arI, Value.ite_bool, int_beq, int_bne, ite_band, ite_bor, decide_eq_true_eq, hw] at g4
      omega
    · simp only [ev0, ev, evV, List.cons_append, List.nil_append, List.getD_cons_zero, List.getD_cons_succ, List.map_cons, List.map_nil, iOf, bOf, sOf, pOf, slLen, slBase, cmpI, arI, Value.ite_bool, int_beq, int_bne, ite_band, ite_bor, hw]
  · simp only [ev0, ev, evV, List.cons_append, List.nil_append, List.getD_cons_zero, List.getD_cons_succ, List.map_cons, List.map_nil, iOf, bOf, sOf, pOf, slLen, slBase, cmpI, arI, Value.ite_bool, int_beq, int_bne, ite_band, ite_bor, decide_eq_false_iff_not] at g
    obtain rfl : k = ls.length := by omega
    rw [List.take_length]
    refine den_call (by kernel_rfl) (Grow_tri ls.flatten.length (by omega) H1) ?_
    rintro x H2 ⟨v2, rfl, h2⟩
    obtain ⟨b2, c2, hv2⟩ := (h2.row (List.mem_cons_self ..)).sl
    refine ⟨_, [v2], rfl, by rw [hv2]; rfl, rfl, pendNil, ?_⟩
    refine ⟨fun n vs H' => ∃ (k : Nat) (w : Value) (S' : PH), vs = [w, .int .i64 k] ∧ k + n = ls.length ∧ PH.le S S' ∧ Held S' H' [orow 9 (ls.take k).flatten w], ⟨ls.length, 0, v2, H1, rfl, by omega, l1, h2⟩, ?_⟩
    rintro n vs H3 _ ⟨k, w, S3, rfl, hkn3, l3, h3⟩
    obtain ⟨wb, wc, rfl⟩ := (h3.row (List.mem_cons_self ..)).sl
    refine ⟨fun g => ?_, fun g => ?_⟩
    · simp only [ev0, ev, evV, List.cons_append, List.nil_append, List.getD_cons_zero, List.getD_cons_succ, List.map_cons, List.map_nil, iOf, bOf, sOf, pOf, slLen, slBase, cmpI, arI, Value.ite_bool, int_beq, int_bne, ite_band, ite_bor, decide_eq_true_eq] at g
      obtain ⟨a, ha⟩ : ∃ a, ls[k]? = some a := ⟨_, List.getElem?_eq_getElem (show k < ls.length by omega)⟩
      obtain ⟨g1, _, ces, g2, g3⟩ := (h.le (PH.le_trans l3 h3.sh)).get ha
      obtain ⟨w2, rfl, sw⟩ := csTxtss.1 g2
      have sw' : SlR S3 a w2 := by
        obtain ⟨_, _, ces', g2', g3'⟩ := (h.le l3).get ha
        obtain ⟨w2', rfl, sw'⟩ := csTxtss.1 g2'
        have e1 := rowAt_le h3.sh g3'
        have : w2' = w2 := by
          obtain ⟨a1, p1, q1⟩ := e1
          obtain ⟨a2, p2, q2⟩ := g3
          rw [p1] at p2; cases p2
          have r1 := q1 0 w2' rfl
          have r2 := q2 0 w2 rfl
          rw [r1] at r2; exact Option.some.inj r2
        rw [← this]; exact sw'
      obtain ⟨ab, ac, rfl⟩ := sw.sl
      have hfl := flat_le ls (k + 1)
      rw [flat_succ ha, List.length_append] at hfl
      refine ⟨fun _ => ?_, [.slice ab a.length ac], rfl, by simp only [ev0, ev, evV, List.cons_append, List.nil_append, List.getD_cons_zero, List.getD_cons_succ, List.map_cons, List.map_nil, iOf, bOf, sOf, pOf, slLen, slBase, cmpI, arI, Value.ite_bool, int_beq, int_bne, ite_band, ite_bor]; exact g3, ?_⟩
      · simp only [Chk.holds, ev0, ev, evV, List.cons_append, List.nil_append, List.getD_cons_zero, List.getD_cons_succ, List.map_cons, List.map_nil, iOf, bOf, sOf, pOf, slLen, slBase, cmpI, arI, Value.ite_bool, int_beq, int_bne, ite_band, ite_bor]; exact ⟨g1, by omega, by omega⟩
      refine den_hApp (b := 16) (more := a) uTxts elemTxt (by kernel_rfl) (by kernel_rfl) h3 (sw'.srcS h3.sh) (by simp only [maxLen]; omega) (by omega) fun v4 H4 h4 _ => ⟨pendNil, _, lookup_hit, n - 1, by omega, k + 1, v4, S3, ?_, by omega, l3, by rw [flat_succ ha]; exact h4⟩
      simp only [ev0, ev, evV, List.cons_append, List.nil_append, List.getD_cons_zero, List.getD_cons_succ, List.map_cons, List.map_nil, iOf, bOf, sOf, pOf, slLen, slBase, cmpI, arI, Value.ite_bool, int_beq, int_bne, ite_band, ite_bor]; rw [w64 (by omega) (by omega)]; rfl
    · simp only [ev0, ev, evV, List.cons_append, List.nil_append, List.getD_cons_zero, List.getD_cons_succ, List.map_cons, List.map_nil, iOf, bOf, sOf, pOf, slLen, slBase, cmpI, arI, Value.ite_bool, int_beq, int_bne, ite_band, ite_bor, decide_eq_false_iff_not] at g
      obtain rfl : k = ls.length := by omega
      rw [List.take_length] at h3
      obtain ⟨S4, s4, l4, h4⟩ := h3.freeze
      exact ⟨PH.le_trans l3 (PH.le_trans l4 h4.sh), _, rfl, by have := s4.le h4.sh; rw [List.take_length]; exact this⟩
theorem EqualT_gives (l m : List (List UInt8)) (va vb : Value) (H : PH) (hl : SlR H l va) (hm : SlR H m vb) : Gives Tryz.prog n_slices_Equal___string_string_ [va, vb] H (.bool (decide (l = m))) := by
  obtain ⟨b1, c1, rfl⟩ := hl.sl
  obtain ⟨b2, c2, rfl⟩ := hm.sl
  have m1 := hl.max
  have m2 := hm.max
  simp only [maxLen] at m1 m2
  refine tri_slices_Equal___string_string_ [.slice b1 l.length c1, .slice b2 m.length c2] (by kernel_rfl) (by kernel_rfl) ?_
  refine ⟨fun h => ?_, fun h => ?_⟩
  · simp only [ev0, ev, evV, List.cons_append, List.nil_append, List.getD_cons_zero, List.getD_cons_succ, List.map_cons, List.map_nil, iOf, bOf, sOf, pOf, slLen, slBase, cmpI, arI, Value.ite_bool, int_beq, int_bne, ite_band, ite_bor, decide_eq_true_eq] at h
    have : ¬ l = m := fun e => h (by rw [e])
    exact ⟨by simp only [ev0, ev, evV, List.cons_append, List.nil_append, List.getD_cons_zero, List.getD_cons_succ, List.map_cons, List.map_nil, iOf, bOf, sOf, pOf, slLen, slBase, cmpI, arI, Value.ite_bool, int_beq, int_bne, ite_band, ite_bor, decide_eq_false this], PH.le_refl H⟩
  simp only [ev0, ev, evV, List.cons_append, List.nil_append, List.getD_cons_zero, List.getD_cons_succ, List.map_cons, List.map_nil, iOf, bOf, sOf, pOf, slLen, slBase, cmpI, arI, Value.ite_bool, int_beq, int_bne, ite_band, ite_bor, decide_eq_false_iff_not, ne_eq, Decidable.not_not] at h
  refine ⟨fun n vs H' => ∃ k : Nat, vs = [.bool false, .int .i64 k] ∧ k + n = l.length ∧ l.take k = m.take k ∧ PH.le H H', ⟨l.length, 0, rfl, by omega, by simp, PH.le_refl H⟩, ?_⟩
  rintro n vs H' _ ⟨k, rfl, hkn, htk, hle⟩
  refine ⟨fun h5 => ?_, fun h5 => ?_⟩
  · simp only [ev0, ev, evV, List.cons_append, List.nil_append, List.getD_cons_zero, List.getD_cons_succ, List.map_cons, List.map_nil, iOf, bOf, sOf, pOf, slLen, slBase, cmpI, arI, Value.ite_bool, int_beq, int_bne, ite_band, ite_bor, decide_eq_true_eq] at h5
    obtain ⟨a, ha⟩ : ∃ a, l[k]? = some a := ⟨_, List.getElem?_eq_getElem (show k < l.length by omega)⟩
    obtain ⟨a', ha'⟩ : ∃ a, m[k]? = some a := ⟨_, List.getElem?_eq_getElem (show k < m.length by omega)⟩
    obtain ⟨g1, _, ces, g2, g3⟩ := (hl.le hle).get ha
    obtain ⟨g1', _, ces', g2', g3'⟩ := (hm.le hle).get ha'
    obtain ⟨rfl, _⟩ := csTxts g2
    obtain ⟨rfl, _⟩ := csTxts g2'
    refine ⟨fun _ => ?_, [txt a], rfl, by simp only [ev0, ev, evV, List.cons_append, List.nil_append, List.getD_cons_zero, List.getD_cons_succ, List.map_cons, List.map_nil, iOf, bOf, sOf, pOf, slLen, slBase, cmpI, arI, Value.ite_bool, int_beq, int_bne, ite_band, ite_bor]; exact g3, fun _ => ?_, [txt a'], rfl, by simp only [ev0, ev, evV, List.cons_append, List.nil_append, List.getD_cons_zero, List.getD_cons_succ, List.map_cons, List.map_nil, iOf, bOf, sOf, pOf, slLen, slBase, cmpI, arI, Value.ite_bool, int_beq, int_bne, ite_band, ite_bor]; exact g3', fun h6 => ?_, fun h6 => ?_⟩
    · simp only [Chk.holds, ev0, ev, evV, List.cons_append, List.nil_append, List.getD_cons_zero, List.getD_cons_succ, List.map_cons, List.map_nil, iOf, bOf, sOf, pOf, slLen, slBase, cmpI, arI, Value.ite_bool, int_beq, int_bne, ite_band, ite_bor]; exact ⟨g1, by omega, by omega⟩
    · simp only [Chk.holds, ev0, ev, evV, List.cons_append, List.nil_append, List.getD_cons_zero, List.getD_cons_succ, List.map_cons, List.map_nil, iOf, bOf, sOf, pOf, slLen, slBase, cmpI, arI, Value.ite_bool, int_beq, int_bne, ite_band, ite_bor]; exact ⟨g1', by omega, by omega⟩
    · simp only [ev0, ev, evV, List.cons_append, List.nil_append, List.getD_cons_zero, List.getD_cons_succ, List.map_cons, List.map_nil, iOf, bOf, sOf, pOf, slLen, slBase, cmpI, arI, Value.ite_bool, int_beq, int_bne, ite_band, ite_bor, txt_neq, decide_eq_true_eq] at h6
      have : ¬ l = m := fun x => h6 (by subst x; rw [ha] at ha'; exact Option.some.inj ha')
      exact ⟨by simp only [ev0, ev, evV, List.cons_append, List.nil_append, List.getD_cons_zero, List.getD_cons_succ, List.map_cons, List.map_nil, iOf, bOf, sOf, pOf, slLen, slBase, cmpI, arI, Value.ite_bool, int_beq, int_bne, ite_band, ite_bor, decide_eq_false this], hle⟩
    · simp only [ev0, ev, evV, List.cons_append, List.nil_append, List.getD_cons_zero, List.getD_cons_succ, List.map_cons, List.map_nil, iOf, bOf, sOf, pOf, slLen, slBase, cmpI, arI, Value.ite_bool, int_beq, int_bne, ite_band, ite_bor, txt_neq, decide_eq_false_iff_not, ne_eq, Decidable.not_not] at h6
      refine ⟨_, lookup_hit, n - 1, by omega, k + 1, ?_, by omega, take_eq_next htk ha ha' h6, hle⟩
      simp only [ev0, ev, evV, List.cons_append, List.nil_append, List.getD_cons_zero, List.getD_cons_succ, List.map_cons, List.map_nil, iOf, bOf, sOf, pOf, slLen, slBase, cmpI, arI, Value.ite_bool, int_beq, int_bne, ite_band, ite_bor]; rw [w64 (by omega) (by omega)]; rfl
  · simp only [ev0, ev, evV, List.cons_append, List.nil_append, List.getD_cons_zero, List.getD_cons_succ, List.map_cons, List.map_nil, iOf, bOf, sOf, pOf, slLen, slBase, cmpI, arI, Value.ite_bool, int_beq, int_bne, ite_band, ite_bor, decide_eq_false_iff_not] at h5
    have : l = m := by rw [List.take_of_length_le (by omega), List.take_of_length_le (by omega)] at htk; exact htk
    exact ⟨by simp only [ev0, ev, evV, List.cons_append, List.nil_append, List.getD_cons_zero, List.getD_cons_succ, List.map_cons, List.map_nil, iOf, bOf, sOf, pOf, slLen, slBase, cmpI, arI, Value.ite_bool, int_beq, int_bne, ite_band, ite_bor, decide_eq_true this], hle⟩
theorem NotOne_gives (n : Int) (H : PH) : Gives Tryz.prog n_lift_Check_1 [.int .i64 n] H (.bool (decide (n ≠ 1))) := by
  refine tri_lift_Check_1 [.int .i64 n] (by kernel_rfl) (by kernel_rfl) ⟨?_, PH.le_refl _⟩
  simp only [ev0, ev, evV, List.cons_append, List.nil_append, List.getD_cons_zero, List.getD_cons_succ, List.map_cons, List.map_nil, iOf, bOf, sOf, pOf, slLen, slBase, cmpI, arI, Value.ite_bool, int_beq, int_bne, ite_band, ite_bor, ne_eq]
theorem IndexInt_tri (l : List Int) (v : Value) (H : PH) (hl : SlR H l v) : Tri Tryz.prog n_slices_IndexFunc___int_int_ #[v, .func (.func n_lift_Check_1) #[] #[]] H fun e H' => ∃ n : Int, e = .returned (.int .i64 n) ∧ decide (0 ≤ n) = l.any (fun k => decide (k ≠ 1)) ∧ PH.le H H' := by
  obtain ⟨b, c, rfl⟩ := hl.sl
  have hm := hl.max
  simp only [maxLen] at hm
  refine tri_slices_IndexFunc___int_int_ [.slice b l.length c, .func (.func n_lift_Check_1) #[] #[]] (by kernel_rfl) (by kernel_rfl) ?_
  refine ⟨fun n vs H' => ∃ k : Nat, vs = [.int .i64 0, .int .i64 k] ∧ k + n = l.length ∧ (∀ x ∈ l.take k, x = 1) ∧ PH.le H H', ⟨l.length, 0, rfl, by omega, by simp, PH.le_refl H⟩, ?_⟩
  rintro n vs H' _ ⟨k, rfl, hkn, hno, hle⟩
  refine ⟨fun h => ?_, fun h => ?_⟩
  · simp only [ev0, ev, evV, List.cons_append, List.nil_append, List.getD_cons_zero, List.getD_cons_succ, List.map_cons, List.map_nil, iOf, bOf, sOf, pOf, slLen, slBase, cmpI, arI, Value.ite_bool, int_beq, int_bne, ite_band, ite_bor, decide_eq_true_eq] at h
    obtain ⟨a, ha⟩ : ∃ a, l[k]? = some a := ⟨_, List.getElem?_eq_getElem (show k < l.length by omega)⟩
    obtain ⟨g1, _, ces, g2, g3⟩ := (hl.le hle).get ha
    obtain ⟨rfl, _⟩ := csIntL g2
    refine ⟨fun _ => ?_, [.int .i64 a], rfl, by simp only [ev0, ev, evV, List.cons_append, List.nil_append, List.getD_cons_zero, List.getD_cons_succ, List.map_cons, List.map_nil, iOf, bOf, sOf, pOf, slLen, slBase, cmpI, arI, Value.ite_bool, int_beq, int_bne, ite_band, ite_bor]; exact g3, ?_⟩
    · simp only [Chk.holds, ev0, ev, evV, List.cons_append, List.nil_append, List.getD_cons_zero, List.getD_cons_succ, List.map_cons, List.map_nil, iOf, bOf, sOf, pOf, slLen, slBase, cmpI, arI, Value.ite_bool, int_beq, int_bne, ite_band, ite_bor]; exact ⟨g1, by omega, by omega⟩
    refine den_givesF [.bool (decide (a ≠ 1))] rfl cb_lift_Check_1 (NotOne_gives a H') rfl pendNil fun H2 l2 => ⟨fun h2 => ?_, fun h2 => ?_⟩
    · simp only [ev0, ev, evV, List.cons_append, List.nil_append, List.getD_cons_zero, List.getD_cons_succ, List.map_cons, List.map_nil, iOf, bOf, sOf, pOf, slLen, slBase, cmpI, arI, Value.ite_bool, int_beq, int_bne, ite_band, ite_bor, decide_eq_true_eq] at h2
      refine ⟨k, rfl, ?_, PH.le_trans hle l2⟩
      have : l.any (fun k => decide (k ≠ 1)) = true := List.any_eq_true.2 ⟨a, List.mem_of_getElem? ha, decide_eq_true h2⟩
      rw [this]; simp
    · simp only [ev0, ev, evV, List.cons_append, List.nil_append, List.getD_cons_zero, List.getD_cons_succ, List.map_cons, List.map_nil, iOf, bOf, sOf, pOf, slLen, slBase, cmpI, arI, Value.ite_bool, int_beq, int_bne, ite_band, ite_bor, decide_eq_false_iff_not, ne_eq, Decidable.not_not] at h2
      refine ⟨_, lookup_hit, n - 1, by omega, k + 1, ?_, by omega, fun x hx => ?_, PH.le_trans hle l2⟩
      · simp only [ev0, ev, evV, List.cons_append, List.nil_append, List.getD_cons_zero, List.getD_cons_succ, List.map_cons, List.map_nil, iOf, bOf, sOf, pOf, slLen, slBase, cmpI, arI, Value.ite_bool, int_beq, int_bne, ite_band, ite_bor]; rw [w64 (by omega) (by omega)]; rfl
      · rcases take_mem_succ ha hx with hx | hx
        · exact hno x hx
        · rw [hx]; exact h2
  · simp only [ev0, ev, evV, List.cons_append, List.nil_append, List.getD_cons_zero, List.getD_cons_succ, List.map_cons, List.map_nil, iOf, bOf, sOf, pOf, slLen, slBase, cmpI, arI, Value.ite_bool, int_beq, int_bne, ite_band, ite_bor, decide_eq_false_iff_not] at h
    rw [List.take_of_length_le (by omega)] at hno
    refine ⟨-1, rfl, ?_, hle⟩
    have : l.any (fun k => decide (k ≠ 1)) = false := by
      rw [List.any_eq_false]
      intro x hx
      simp [hno x hx]
    rw [this]; rfl
theorem AnyNotOne_gives (l : List Int) (v : Value) (H : PH) (hl : SlR H l v) : Gives Tryz.prog n_slices_ContainsFunc___int_int_ [v, .func (.func n_lift_Check_1) #[] #[]] H (.bool (l.any fun k => decide (k ≠ 1))) := by
  obtain ⟨b, c, rfl⟩ := hl.sl
  refine tri_slices_ContainsFunc___int_int_ [.slice b l.length c, .func (.func n_lift_Check_1) #[] #[]] (by kernel_rfl) (by kernel_rfl) ?_
  refine den_call cb_slices_IndexFunc___int_int_ (IndexInt_tri l _ H hl) ?_
  rintro e H' ⟨n, rfl, h1, h2⟩
  refine ⟨_, [_], rfl, rfl, rfl, pendNil, ?_, h2⟩
  simp only [ev0, ev, evV, List.cons_append, List.nil_append, List.getD_cons_zero, List.getD_cons_succ, List.map_cons, List.map_nil, iOf, bOf, sOf, pOf, slLen, slBase, cmpI, arI, Value.ite_bool, int_beq, int_bne, ite_band, ite_bor, h1]
theorem Ref_gives (s : List UInt8) (H : PH) : Gives Tryz.prog n_pass_Ref [txt s] H (.agg #[.int .i64 1, txt s, .slice none 0 0, .int .i64 0, .int .i64 0, txt [], .slice none 0 0, .slice none 0 0]) :=
  tri_pass_Ref [txt s] (by kernel_rfl) (by kernel_rfl) ⟨rfl, PH.le_refl _⟩
end Go.Proofs.YtibinelkmlcmgaaGreat.Vc
/-
  LIFT: which programs may be lowered, and to what, plainly. No program in sight.
-/
namespace Go.Proofs.YtibinelkmlcmgaaGreat.Vc
open Go

/-- may this closure be? -/
def CloOk (F : List FunX) (e : Xp) : Prop := e.name = [] ∧ e.kids = [] ∧ e.const = .mk 1 e.const.int [] [] ∧ 0 ≤ e.const.int ∧ ∃ f, F[e.const.int.toNat]? = some f ∧ f.frees = e.names
open Classical in
noncomputable def cloI (F : List FunX) (e : Xp) : Int := if CloOk F e then e.const.int else -1
mutual
/-- the places of the functions that closures are made of; -1: what may not be -/
noncomputable def Xp.clos (F : List FunX) : Xp → List Int
  | .mk k s ns d l => if k = 11 then [cloI F (.mk k s ns d l)] else (if k = 2 ∨ k = 5 ∨ k = 9 then [-1] else []) ++ Xps.clos F l
noncomputable def Xps.clos (F : List FunX) : List Xp → List Int
  | [] => []
  | e :: l => Xp.clos F e ++ Xps.clos F l
end
theorem Xp.clos_eq (F : List FunX) (e : Xp) : e.clos F = if e.kind = 11 then [cloI F e] else (if e.kind = 2 ∨ e.kind = 5 ∨ e.kind = 9 then [-1] else []) ++ Xps.clos F e.kids := by cases e; simp only [Xp.clos, Xp.kind, Xp.kids]; rfl
mutual
/-- the free names, a closure's names being some -/
def Xp.fr14 (b : List (List UInt8)) : Xp → List (List UInt8)
  | .mk k s ns _ l => if k = 11 then ns.filter (fun x => !b.contains x) else (if k = 1 ∧ s ∉ b then [s] else []) ++ Xps.fr14 b (b ++ ns) k l
def Xps.fr14 (b inner : List (List UInt8)) (k : Int) : List Xp → List (List UInt8)
  | [] => []
  | e :: l => Xp.fr14 (if inB k l then inner else b) e ++ Xps.fr14 b inner k l
end
theorem Xp.fr14_eq (e : Xp) (b : List (List UInt8)) : e.fr14 b = if e.kind = 11 then e.names.filter (fun x => !b.contains x) else (if e.kind = 1 ∧ e.name ∉ b then [e.name] else []) ++ Xps.fr14 b (b ++ e.names) e.kind e.kids := by cases e; simp only [Xp.fr14, Xp.kind, Xp.kids, Xp.name, Xp.names]; rfl
/-- may a function's names be? -/
def funOk (f : FunX) : Bool := namesOk (f.params ++ f.frees) && decide (f.params.length ≤ 6) && (Xp.fr14 (f.params ++ f.frees) f.body).isEmpty
mutual
def Xp.lowW (F : List FunX) (g : Xp → Xp) : Xp → Xp
  | .mk k s ns d l => if k = 11 then (match F[d.int.toNat]? with | some f => .mk 5 [] f.params dat0 [g f.body] | none => exZ) else .mk k s ns d (Xps.lowW F g l)
def Xps.lowW (F : List FunX) (g : Xp → Xp) : List Xp → List Xp
  | [] => []
  | e :: l => Xp.lowW F g e :: Xps.lowW F g l
end
/-- an expression lowered, so many closures deep -/
def Xp.low (F : List FunX) : Nat → Xp → Xp
  | 0 => Xp.lowW F fun _ => exZ
  | n + 1 => Xp.lowW F (Xp.low F n)
theorem Xps.lowW_eq (F : List FunX) (g : Xp → Xp) : ∀ l, Xps.lowW F g l = l.map (Xp.lowW F g)
  | [] => rfl
  | e :: l => by simp only [Xps.lowW, List.map_cons, Xps.lowW_eq F g l]
theorem Xp.low_other (F : List FunX) (n : Nat) (e : Xp) (h : e.kind ≠ 11) : Xp.low F n e = .mk e.kind e.name e.names e.const (e.kids.map (Xp.low F n)) := by
  cases e with
  | mk k s ns d l =>
    simp only [Xp.kind] at h
    cases n <;> simp only [Xp.low, Xp.lowW, if_neg h, Xps.lowW_eq, Xp.kind, Xp.name, Xp.names, Xp.const, Xp.kids]
theorem Xp.low_clo {F : List FunX} {n : Nat} {e : Xp} {f : FunX} (h : e.kind = 11) (hf : F[e.const.int.toNat]? = some f) : Xp.low F (n + 1) e = .mk 5 [] f.params dat0 [Xp.low F n f.body] := by
  cases e with
  | mk k s ns d l =>
    simp only [Xp.kind, Xp.const] at h hf
    simp only [Xp.low, Xp.lowW, if_pos h, hf]
mutual
/-- of so many expressions, which are left; are there so many, and within so many? -/
def Xp.wi : Xp → Nat → Nat → Nat × Bool
  | .mk _ _ _ _ l, d, n => if n = 0 ∨ 250 < d then (0, false) else Xps.wi l (d + 1) (n - 1)
def Xps.wi : List Xp → Nat → Nat → Nat × Bool
  | [], _, n => (n, true)
  | e :: l, d, n => if (Xp.wi e d n).2 = true then Xps.wi l d (Xp.wi e d n).1 else ((Xp.wi e d n).1, false)
end
theorem Xp.wi_eq (e : Xp) (d n : Nat) : e.wi d n = if n = 0 ∨ 250 < d then (0, false) else Xps.wi e.kids (d + 1) (n - 1) := by cases e; simp only [Xp.wi, Xp.kids]
noncomputable def allC (l : LifX) : List Int := l.main.clos l.funs ++ l.funs.flatMap fun f => f.body.clos l.funs
def lowX (l : LifX) : Xp := Xp.low l.funs l.funs.length l.main
structure GoodL (l : LifX) : Prop where
  main : ∀ x ∈ l.main.clos l.funs, 0 ≤ x
  fn : ∀ (i : Nat) f, l.funs[i]? = some f → (∀ x ∈ f.body.clos l.funs, (i : Int) < x) ∧ funOk f = true
  once : ∀ j : Nat, j < l.funs.length → (allC l).count (j : Int) = 1
  free : l.main.fr14 [] = []
  ok : ((lowX l).chk true 0 0).2 = 0
def sizeL (l : LifX) : Bool := (Xps.wi (l.main :: l.funs.map (·.body)) 1 4096).2
open Classical in
noncomputable def chkL (l : LifX) : Int := if 4096 < l.funs.length then 101 else if sizeL l = false then 101 else if GoodL l then 0 else 100
noncomputable def lowerL (l : LifX) : Xp × Int := if chkL l = 0 then (lowX l, 0) else (exZ, chkL l)

/-! ### free names -/
end Go.Proofs.YtibinelkmlcmgaaGreat.Vc
/-
  LIFT: what was lifted may be lowered, and is lowered to what it was. Plainly.
-/
namespace Go.Proofs.YtibinelkmlcmgaaGreat.Vc
open Go

/-- slots stand in F from n on -/
def StandAt (F : List FunX) (n : Nat) (sl : List FunX) : Prop := ∀ i, i < sl.length → F[n + i]? = sl[i]?
theorem StandAt.left {F : List FunX} {n : Nat} {a b : List FunX} (h : StandAt F n (a ++ b)) : StandAt F n a := fun i hi => by
  rw [h i (by rw [List.length_append]; omega), List.getElem?_append_left hi]
theorem StandAt.right {F : List FunX} {n : Nat} {a b : List FunX} (h : StandAt F n (a ++ b)) : StandAt F (n + a.length) b := fun i hi => by
  rw [Nat.add_assoc, h (a.length + i) (by rw [List.length_append]; omega), List.getElem?_append_right (by omega)]
  congr 1; omega
/-- what is lifted, told of an expression -/
structure Lifd (F : List FunX) (n : Nat) (sl : List FunX) (e m : Xp) : Prop where
  low : ∀ k, sl.length ≤ k → Xp.low F k m = e
  perm : (m.clos F ++ sl.flatMap fun f => f.body.clos F).Perm ((List.range' n sl.length).map fun i : Nat => (i : Int))
  main : ∀ x ∈ m.clos F, (n : Int) ≤ x
  body : ∀ (i : Nat) f, sl[i]? = some f → (∀ x ∈ f.body.clos F, ((n + i : Nat) : Int) < x) ∧ funOk f = true
  free : ∀ b x, x ∈ m.fr14 b ↔ x ∈ e.fr b
structure Lifds (F : List FunX) (n : Nat) (sl : List FunX) (l m : List Xp) : Prop where
  low : ∀ k, sl.length ≤ k → m.map (Xp.low F k) = l
  perm : (Xps.clos F m ++ sl.flatMap fun f => f.body.clos F).Perm ((List.range' n sl.length).map fun i : Nat => (i : Int))
  main : ∀ x ∈ Xps.clos F m, (n : Int) ≤ x
  body : ∀ (i : Nat) f, sl[i]? = some f → (∀ x ∈ f.body.clos F, ((n + i : Nat) : Int) < x) ∧ funOk f = true
  free : ∀ b inner k x, x ∈ Xps.fr14 b inner k m ↔ x ∈ Xps.fr b inner k l
end Go.Proofs.YtibinelkmlcmgaaGreat.Vc
/-
  LIFT: what may be lowered is lifted again: as many functions, with no new names. Plainly.
-/
namespace Go.Proofs.YtibinelkmlcmgaaGreat.Vc
open Go

mutual
/-- how many functions the lift makes -/
def Xp.nl : Xp → Nat
  | .mk k _ _ _ l => if k = 5 then 1 + Xps.nl1 l else Xps.nl l
def Xps.nl1 : List Xp → Nat
  | [] => 0
  | e :: _ => Xp.nl e
def Xps.nl : List Xp → Nat
  | [] => 0
  | e :: l => Xp.nl e + Xps.nl l
end
/-- an expression whose closures lie behind a place -/
def AtI (F : List FunX) (i : Int) (t : Xp) : Prop := ∀ x ∈ t.clos F, i < x
def FunsOk (F : List FunX) : Prop := ∀ (i : Nat) f, F[i]? = some f → AtI F i f.body ∧ funOk f = true
theorem AtI.kid {F : List FunX} {i : Int} {t : Xp} (h : AtI F i t) (h11 : t.kind ≠ 11) : ∀ k ∈ t.kids, AtI F i k := by
  intro k hk x hx
  refine h x ?_
  rw [Xp.clos_eq, if_neg h11]
  refine List.mem_append_right _ ?_
  have key : ∀ l : List Xp, k ∈ l → x ∈ Xps.clos F l := by
    intro l
    induction l with
    | nil => intro h; cases h
    | cons a l ih =>
      intro hm
      rw [Xps.clos, List.mem_append]
      rcases List.mem_cons.1 hm with rfl | hm
      · exact .inl hx
      · exact .inr (ih hm)
  exact key _ hk
theorem AtI.kinds {F : List FunX} {i : Int} (hi : -1 ≤ i) {t : Xp} (h : AtI F i t) (h11 : t.kind ≠ 11) : t.kind ≠ 2 ∧ t.kind ≠ 5 ∧ t.kind ≠ 9 := by
  have h1 : ¬ (t.kind = 2 ∨ t.kind = 5 ∨ t.kind = 9) := by
    intro hk
    have := h (-1) (by rw [Xp.clos_eq, if_neg h11, if_pos hk]; simp)
    omega
  exact ⟨fun e => h1 (.inl e), fun e => h1 (.inr (.inl e)), fun e => h1 (.inr (.inr e))⟩
theorem AtI.clo {F : List FunX} {i : Int} (hi : -1 ≤ i) {t : Xp} (h : AtI F i t) (h11 : t.kind = 11) : ∃ (n : Nat) (f : FunX), i < n ∧ F[n]? = some f ∧ f.frees = t.names ∧ t.const.int = n ∧ t.clos F = [(n : Int)] ∧ t = cloX f.frees n := by
  have h1 := h (cloI F t) (by rw [Xp.clos_eq, if_pos h11]; simp)
  have hcl : t.clos F = [cloI F t] := by rw [Xp.clos_eq, if_pos h11]
  unfold cloI at h1 hcl
  split at h1
  · rename_i hc
    rw [if_pos hc] at hcl
    obtain ⟨c1, c2, c3, c4, f, c5, c6⟩ := hc
    have hn : t.const.int = ((t.const.int.toNat : Nat) : Int) := by omega
    refine ⟨t.const.int.toNat, f, by omega, c5, c6, hn, by rw [hcl, ← hn], ?_⟩
    cases t with
    | mk k s ns d l =>
      simp only [Xp.kind, Xp.name, Xp.kids, Xp.const, Xp.names] at *
      subst c1 c2 h11
      rw [cloX, c6, ← hn, ← c3]
  · omega
/-- closures lie one behind the other: so whatever is shown with it of what lies behind is shown of all -/
theorem AtI.ind {F : List FunX} (hF : FunsOk F) {p : Int → Xp → Prop}
    (h1 : ∀ (i : Int) (t : Xp) (n : Nat) (f : FunX), -1 ≤ i → AtI F i t → t.kind = 11 → i < n → F[n]? = some f → t = cloX f.frees n → t.clos F = [(n : Int)] → p n f.body → p i t)
    (h2 : ∀ (i : Int) (t : Xp), -1 ≤ i → AtI F i t → t.kind ≠ 11 → t.kind ≠ 2 ∧ t.kind ≠ 5 ∧ t.kind ≠ 9 → (∀ k ∈ t.kids, p i k) → p i t) :
    ∀ (i : Int) (t : Xp), -1 ≤ i → AtI F i t → p i t := by
  have key : ∀ (m : Nat) (i : Int), -1 ≤ i → (F.length : Int) - i ≤ m → ∀ t, AtI F i t → p i t := by
    intro m
    induction m with
    | zero =>
      intro i hi hm
      refine Xp.ind fun t ih ht => ?_
      by_cases h11 : t.kind = 11
      · obtain ⟨n, f, g1, g2, g3, g4, g5, g6⟩ := ht.clo hi h11
        have := (List.getElem?_eq_some_iff.1 g2).1
        omega
      · exact h2 i t hi ht h11 (ht.kinds hi h11) fun k hk => ih k hk (ht.kid h11 k hk)
    | succ m ihm =>
      intro i hi hm
      refine Xp.ind fun t ih ht => ?_
      by_cases h11 : t.kind = 11
      · obtain ⟨n, f, g1, g2, g3, g4, g5, g6⟩ := ht.clo hi h11
        have := (List.getElem?_eq_some_iff.1 g2).1
        exact h1 i t n f hi ht h11 g1 g2 g6 g5 (ihm n (by omega) (by omega) f.body (hF n f g2).1)
      · exact h2 i t hi ht h11 (ht.kinds hi h11) fun k hk => ih k hk (ht.kid h11 k hk)
  intro i t hi ht
  exact key ((F.length : Int) - i).toNat i hi (by omega) t ht
theorem low_fuel {F : List FunX} (hF : FunsOk F) : ∀ (i : Int) (t : Xp), -1 ≤ i → AtI F i t → ∀ j k : Nat, (F.length : Int) - 1 - i ≤ j → (F.length : Int) - 1 - i ≤ k → Xp.low F j t = Xp.low F k t := by
  refine AtI.ind hF (p := fun i t => ∀ j k : Nat, (F.length : Int) - 1 - i ≤ j → (F.length : Int) - 1 - i ≤ k → Xp.low F j t = Xp.low F k t) ?_ ?_
  · intro i t n f hi ht h11 hn hf htc _ ih j k hj hk
    have hlt := (List.getElem?_eq_some_iff.1 hf).1
    obtain ⟨j, rfl⟩ : ∃ j', j = j' + 1 := ⟨j - 1, by omega⟩
    obtain ⟨k, rfl⟩ : ∃ k', k = k' + 1 := ⟨k - 1, by omega⟩
    have hf' : F[t.const.int.toNat]? = some f := by rw [htc]; show F[((n : Int)).toNat]? = some f; simpa using hf
    rw [Xp.low_clo h11 hf', Xp.low_clo h11 hf', ih j k (by omega) (by omega)]
  · intro i t hi ht h11 _ ih j k hj hk
    rw [Xp.low_other F j t h11, Xp.low_other F k t h11]
    congr 1
    exact List.map_congr_left fun x hx => ih x hx j k hj hk
/-- an expression lowered, all the way -/
def lowN (F : List FunX) (t : Xp) : Xp := Xp.low F F.length t
theorem lowN_other {F : List FunX} {t : Xp} (h : t.kind ≠ 11) : lowN F t = .mk t.kind t.name t.names t.const (t.kids.map (lowN F)) := Xp.low_other F _ t h
theorem lowN_clo {F : List FunX} (hF : FunsOk F) {n : Nat} {f : FunX} (hf : F[n]? = some f) : lowN F (cloX f.frees n) = .mk 5 [] f.params dat0 [lowN F f.body] := by
  have hlt := (List.getElem?_eq_some_iff.1 hf).1
  obtain ⟨m, hm⟩ : ∃ m, F.length = m + 1 := ⟨F.length - 1, by omega⟩
  unfold lowN
  rw [hm, Xp.low_clo (f := f) rfl (by show F[((n : Int)).toNat]? = some f; simpa using hf)]
  rw [low_fuel hF n f.body (by omega) (hF n f hf).1 m (m + 1) (by omega) (by omega)]
theorem clos_lt {F : List FunX} : ∀ (e : Xp), ∀ x ∈ e.clos F, x < F.length := by
  refine Xp.ind fun e ih x hx => ?_
  rw [Xp.clos_eq] at hx
  split at hx
  · rw [List.mem_singleton.1 hx]
    unfold cloI
    split
    · rename_i hc
      obtain ⟨_, _, _, c4, f, c5, _⟩ := hc
      have := (List.getElem?_eq_some_iff.1 c5).1
      omega
    · omega
  · rcases List.mem_append.1 hx with h | h
    · split at h
      · rw [List.mem_singleton.1 h]; omega
      · cases h
    · have key : ∀ (l : List Xp), (∀ a ∈ l, a ∈ e.kids) → x ∈ Xps.clos F l → x < F.length := by
        intro l
        induction l with
        | nil => intro _ h; simp [Xps.clos] at h
        | cons a l ihl =>
          intro hl h
          rw [Xps.clos, List.mem_append] at h
          rcases h with h | h
          · exact ih a (hl a (List.mem_cons_self ..)) x h
          · exact ihl (fun y hy => hl y (List.mem_cons_of_mem _ hy)) h
      exact key _ (fun a h => h) h
theorem GoodL.funs {l : LifX} (h : GoodL l) : FunsOk l.funs := fun i f hf => h.fn i f hf
theorem GoodL.at {l : LifX} (h : GoodL l) : AtI l.funs (-1) l.main := fun x hx => by have := h.main x hx; omega
end Go.Proofs.YtibinelkmlcmgaaGreat.Vc
/-
  LIFT: the program's checker: count, clo, body.
-/
namespace Go.Proofs.YtibinelkmlcmgaaGreat.Vc
open Go

/-- the checker's block -/
abbrev ckB (r : Nat) (T : TypeId) (x0 x1 x2 x3 x4 x5 x6 x7 x8 : Value) (m : Nat) (dp bd : Bool) (nv : Value) : Itm := bx r T [x0, x1, x2, x3, x4, x5, x6, x7, x8, .int .i64 (m : Int), .bool dp, .bool bd, nv]

/-! ### how many, how deep -/
theorem Xps.wi_snoc (a : Xp) : ∀ (l : List Xp) (d n : Nat), Xps.wi (l ++ [a]) d n = if (Xps.wi l d n).2 = true then a.wi d (Xps.wi l d n).1 else ((Xps.wi l d n).1, false)
  | [], d, n => by
    simp only [List.nil_append, Xps.wi, if_true]
    split
    · rename_i h; rw [← h]
    · rename_i h; rw [Bool.not_eq_true] at h; rw [← h]
  | e :: l, d, n => by
    simp only [List.cons_append, Xps.wi]
    by_cases h : (e.wi d n).2 = true
    · simp only [if_pos h, Xps.wi_snoc a l]
    · simp only [if_neg h, Bool.false_eq_true, if_false]
def Bad (m : Nat) (dp : Bool) : Prop := dp = true ∨ 4096 < m
structure CntR (w : Nat × Bool) (B : Nat) (m' : Nat) (dp' : Bool) : Prop where
  yes : w.2 = true → dp' = false ∧ m' + w.1 = 4096
  no : w.2 = false → Bad m' dp' ∧ m' ≤ B
def CntE (e : Xp) (d m : Nat) (dp : Bool) (m' : Nat) (dp' : Bool) : Prop :=
  (Bad m dp → Bad m' dp' ∧ m' = m + 1) ∧ (¬ Bad m dp → CntR (e.wi d (4096 - m)) (5000 + (252 - d) * 1048577) m' dp')
set_option maxHeartbeats 4000000 in
theorem count_tri (r : Nat) (T : TypeId) (x0 x1 x2 x3 x4 x5 x6 x7 x8 : Value) (bd : Bool) (nv : Value) : ∀ (e : Xp) (d m : Nat) (dp : Bool) (cs : List Value) (S K : PH), Held S K [ckB r T x0 x1 x2 x3 x4 x5 x6 x7 x8 m dp bd nv] → e.Rep S cs → e.fit → d ≤ 251 → m ≤ 900000000 →
    Tri Tryz.prog n_lift_checker__count #[pAt r, .agg cs.toArray, .int .i64 (d : Int)] K fun x K' => ∃ m' dp', x = .returned (.tuple #[]) ∧ Held S K' [ckB r T x0 x1 x2 x3 x4 x5 x6 x7 x8 m' dp' bd nv] ∧ CntE e d m dp m' dp' := by
  refine Xp.ind fun e ih d m dp cs S K h he hfit hd hm => ?_
  have he' := he
  obtain ⟨nb, db, kb, nc, dc, kc, rfl, hx⟩ := Xp.Rep.open he
  obtain ⟨f1, f2, f3⟩ := (Xp.fit_iff e).1 hfit
  refine tri_lift_checker__count (pAt r :: exVs e nb db kb nc dc kc ++ [.int .i64 (d : Int)]) (by kernel_rfl) (by kernel_rfl) ?_
  refine ⟨fun _ => rfl, ?_⟩
  refine den_bxLoad [.int .i64 (m : Int)] (off := 9) (by kernel_rfl) h (List.mem_cons_self ..) rfl rfl ?_
  refine den_bxStore (off := 9) (vs := [.int .i64 ((m + 1 : Nat) : Int)]) (by kernel_rfl) h ?_ (by simp [oneC]) (by simp) fun K1 h1 => ?_
  · simp only [ev0, ev, evV, List.cons_append, List.nil_append, List.getD_cons_zero, List.getD_cons_succ, List.map_cons, List.map_nil, iOf, bOf, sOf, pOf, slLen, slBase, cmpI, arI, Value.ite_bool, int_beq, int_bne, ite_band, ite_bor]
    rw [w64 (by omega) (by omega)]
    rfl
  have h1 : Held S K1 [ckB r T x0 x1 x2 x3 x4 x5 x6 x7 x8 (m + 1) dp bd nv] := h1
  refine den_bxLoad [.bool dp] (off := 10) (by kernel_rfl) h1 (List.mem_cons_self ..) rfl rfl ?_
  refine den_bxStore (off := 10) (vs := [.bool (dp || decide ((d : Int) > 250))]) (by kernel_rfl) h1 ?_ (by simp [oneC]) (by simp) fun K2 h2 => ?_
  · simp only [ev0, ev, evV, List.cons_append, List.nil_append, List.getD_cons_zero, List.getD_cons_succ, List.map_cons, List.map_nil, iOf, bOf, sOf, pOf, slLen, slBase, cmpI, arI, Value.ite_bool, int_beq, int_bne, ite_band, ite_bor]
  have h2 : Held S K2 [ckB r T x0 x1 x2 x3 x4 x5 x6 x7 x8 (m + 1) (dp || decide ((d : Int) > 250)) bd nv] := h2
  refine ⟨fun vs H' => vs = [.bool (dp || decide ((d : Int) > 250) || decide (4096 < m + 1))] ∧ H' = K2, ?_, ?_⟩
  · rintro vs K3 _ ⟨rfl, rfl⟩
    refine ⟨fun g => ?_, fun g => ?_⟩
    · simp only [ev0, ev, evV, List.cons_append, List.nil_append, List.getD_cons_zero, List.getD_cons_succ, List.map_cons, List.map_nil, iOf, bOf, sOf, pOf, slLen, slBase, cmpI, arI, Value.ite_bool, int_beq, int_bne, ite_band, ite_bor, Bool.or_eq_true, decide_eq_true_eq] at g
      refine ⟨_, _, rfl, h2, fun hb => ⟨?_, rfl⟩, fun hb => ?_⟩
      · rcases hb with hb | hb
        · exact .inl (by rw [hb]; rfl)
        · exact .inr (by omega)
      · have hdp : dp = false := by
          cases dp
          · rfl
          · exact absurd (.inl rfl) hb
        have hm4 : ¬ 4096 < m := fun h => hb (.inr h)
        have hw : e.wi d (4096 - m) = (0, false) := by
          rw [Xp.wi_eq, if_pos]
          rw [hdp] at g
          simp only [Bool.false_eq_true, false_or] at g
          omega
        rw [hw]
        refine ⟨fun h => (by cases h), fun _ => ⟨?_, by omega⟩⟩
        rw [hdp] at g
        simp only [Bool.false_eq_true, false_or] at g
        rcases g with g | g
        · exact .inl (by rw [decide_eq_true g]; exact Bool.or_true dp)
        · exact .inr g
    · simp only [ev0, ev, evV, List.cons_append, List.nil_append, List.getD_cons_zero, List.getD_cons_succ, List.map_cons, List.map_nil, iOf, bOf, sOf, pOf, slLen, slBase, cmpI, arI, Value.ite_bool, int_beq, int_bne, ite_band, ite_bor, Bool.or_eq_false_iff, decide_eq_false_iff_not] at g
      obtain ⟨⟨g1, g2⟩, g3⟩ := g
      subst g1
      have hdd : (false || decide ((d : Int) > 250)) = false := by rw [decide_eq_false g2]; rfl
      rw [hdd] at h2
      have hnb : ¬ Bad m false := by rintro (h | h); cases h; omega
      have hwe : e.wi d (4096 - m) = Xps.wi e.kids (d + 1) (4096 - (m + 1)) := by
        rw [Xp.wi_eq, if_neg (by omega)]; rfl
      refine ⟨fun n vs K' => ∃ (k mk : Nat) (dk : Bool), vs = [.int .i64 k] ∧ k + n = e.kids.length ∧ Held S K' [ckB r T x0 x1 x2 x3 x4 x5 x6 x7 x8 mk dk bd nv] ∧ CntR (Xps.wi (e.kids.take k) (d + 1) (4096 - (m + 1))) (5000 + (252 - (d + 1)) * 1048577 + k) mk dk,
        ⟨e.kids.length, 0, m + 1, false, rfl, by omega, h2, ⟨fun _ => ⟨rfl, by simp only [List.take_zero, Xps.wi]; omega⟩, fun h => by simp [Xps.wi] at h⟩⟩, ?_⟩
      rintro n vs K4 _ ⟨k, mk, dk, rfl, hkn, h4, hc⟩
      refine ⟨fun g4 => ?_, fun g4 => ?_⟩
      · simp only [ev0, ev, evV, List.cons_append, List.nil_append, List.getD_cons_zero, List.getD_cons_succ, List.map_cons, List.map_nil, iOf, bOf, sOf, pOf, slLen, slBase, cmpI, arI, Value.ite_bool, int_beq, int_bne, ite_band, ite_bor, decide_eq_true_eq] at g4
        obtain ⟨a, ha⟩ : ∃ a, e.kids[k]? = some a := ⟨_, List.getElem?_eq_getElem (show k < e.kids.length by omega)⟩
        obtain ⟨q1, _, ces, q2, q3⟩ := hx.kids.get ha
        have hmem := List.mem_of_getElem? ha
        have htags := Xp.Rep.tags q2
        have q2' := q2
        obtain ⟨nb', db', kb', nc', dc', kc', rfl, _⟩ := Xp.Rep.open q2'
        have hmk : mk ≤ 900000000 := by
          cases hw : (Xps.wi (e.kids.take k) (d + 1) (4096 - (m + 1))).2
          · have := (hc.no hw).2
            have : (252 - (d + 1)) * 1048577 ≤ 251 * 1048577 := Nat.mul_le_mul_right _ (by omega)
            omega
          · have := (hc.yes hw).2
            omega
        refine ⟨fun _ => ?_, _, htags, by simp only [ev0, ev, evV, List.cons_append, List.nil_append, List.getD_cons_zero, List.getD_cons_succ, List.map_cons, List.map_nil, iOf, bOf, sOf, pOf, slLen, slBase, cmpI, arI, Value.ite_bool, int_beq, int_bne, ite_band, ite_bor]; exact rowAt_le h4.sh q3, ?_⟩
        · simp only [Chk.holds, ev0, ev, evV, List.cons_append, List.nil_append, List.getD_cons_zero, List.getD_cons_succ, List.map_cons, List.map_nil, iOf, bOf, sOf, pOf, slLen, slBase, cmpI, arI, Value.ite_bool, int_beq, int_bne, ite_band, ite_bor]; exact ⟨q1, by omega, by omega⟩
        have hcall := ih a hmem (d + 1) mk dk _ S K4 h4 q2 (f3 a hmem) (by omega) hmk
        have hd1 : IntKind.i64.wrap ((d : Int) + 1) = ((d + 1 : Nat) : Int) := by rw [w64 (by omega) (by omega)]; rfl
        refine den_call cb_lift_checker__count (by simp only [ev0, ev, evV, List.cons_append, List.nil_append, List.getD_cons_zero, List.getD_cons_succ, List.map_cons, List.map_nil, iOf, bOf, sOf, pOf, slLen, slBase, cmpI, arI, Value.ite_bool, int_beq, int_bne, ite_band, ite_bor, hd1]; exact hcall) ?_
        rintro x K5 ⟨m5, dp5, rfl, h5, c5⟩
        refine ⟨_, [], rfl, rfl, rfl, pendNil, _, lookup_hit, n - 1, by omega, k + 1, m5, dp5, ?_, by omega, h5, ?_⟩
        · simp only [ev0, ev, evV, List.cons_append, List.nil_append, List.getD_cons_zero, List.getD_cons_succ, List.map_cons, List.map_nil, iOf, bOf, sOf, pOf, slLen, slBase, cmpI, arI, Value.ite_bool, int_beq, int_bne, ite_band, ite_bor, List.append_nil]
          rw [w64 (by omega) (by omega)]
          rfl
        · have hst : Xps.wi (e.kids.take (k + 1)) (d + 1) (4096 - (m + 1)) = if (Xps.wi (e.kids.take k) (d + 1) (4096 - (m + 1))).2 = true then a.wi (d + 1) (Xps.wi (e.kids.take k) (d + 1) (4096 - (m + 1))).1 else ((Xps.wi (e.kids.take k) (d + 1) (4096 - (m + 1))).1, false) := by
            rw [List.take_add_one, ha]; exact Xps.wi_snoc a _ _ _
          rw [hst]
          cases hw : (Xps.wi (e.kids.take k) (d + 1) (4096 - (m + 1))).2
          · obtain ⟨b1, b2⟩ := hc.no hw
            obtain ⟨b3, b4⟩ := c5.1 b1
            simp only [Bool.false_eq_true, if_false]
            exact ⟨fun h => (by cases h), fun _ => ⟨b3, by omega⟩⟩
          · obtain ⟨b1, b2⟩ := hc.yes hw
            simp only [if_true]
            have hnb5 : ¬ Bad mk dk := by rintro (h | h); rw [b1] at h; cases h; omega
            have c6 := c5.2 hnb5
            have e6 : 4096 - mk = (Xps.wi (e.kids.take k) (d + 1) (4096 - (m + 1))).1 := by omega
            rw [e6] at c6
            exact ⟨c6.yes, fun h => ⟨(c6.no h).1, by have := (c6.no h).2; omega⟩⟩
      · simp only [ev0, ev, evV, List.cons_append, List.nil_append, List.getD_cons_zero, List.getD_cons_succ, List.map_cons, List.map_nil, iOf, bOf, sOf, pOf, slLen, slBase, cmpI, arI, Value.ite_bool, int_beq, int_bne, ite_band, ite_bor, decide_eq_false_iff_not] at g4
        obtain rfl : k = e.kids.length := by omega
        rw [List.take_length] at hc
        refine ⟨mk, dk, rfl, h4, fun hb => absurd hb hnb, fun _ => ?_⟩
        rw [hwe]
        refine ⟨hc.yes, fun h => ⟨(hc.no h).1, ?_⟩⟩
        have h9 := (hc.no h).2
        have e9 : 252 - d = (252 - (d + 1)) + 1 := by omega
        rw [e9, Nat.add_mul]
        omega
  · refine den_bxLoad [.bool (dp || decide ((d : Int) > 250))] (off := 10) (by kernel_rfl) h2 (List.mem_cons_self ..) rfl rfl ?_
    refine ⟨fun g => ?_, fun g => ?_⟩
    · simp only [ev0, ev, evV, List.cons_append, List.nil_append, List.getD_cons_zero, List.getD_cons_succ, List.map_cons, List.map_nil, iOf, bOf, sOf, pOf, slLen, slBase, cmpI, arI, Value.ite_bool, int_beq, int_bne, ite_band, ite_bor] at g
      exact ⟨_, lookup_hit, by rw [g]; rfl, rfl⟩
    · simp only [ev0, ev, evV, List.cons_append, List.nil_append, List.getD_cons_zero, List.getD_cons_succ, List.map_cons, List.map_nil, iOf, bOf, sOf, pOf, slLen, slBase, cmpI, arI, Value.ite_bool, int_beq, int_bne, ite_band, ite_bor] at g
      refine den_bxLoad [.int .i64 ((m + 1 : Nat) : Int)] (off := 9) (by kernel_rfl) h2 (List.mem_cons_self ..) rfl rfl ?_
      refine ⟨_, lookup_hit, ?_, rfl⟩
      simp only [ev0, ev, evV, List.cons_append, List.nil_append, List.getD_cons_zero, List.getD_cons_succ, List.map_cons, List.map_nil, iOf, bOf, sOf, pOf, slLen, slBase, cmpI, arI, Value.ite_bool, int_beq, int_bne, ite_band, ite_bor, g, Bool.false_or]
      congr 2
      rw [decide_eq_decide]
      omega

/-! ### closures -/
/-- how often each place has come -/
def nmOf (N : Nat) (C : List Int) : List Int := (List.range N).map fun j : Nat => ((C.count (j : Int) : Nat) : Int)
theorem nmOf_len (N : Nat) (C : List Int) : (nmOf N C).length = N := by simp [nmOf]
theorem nmOf_get {N : Nat} {C : List Int} {j : Nat} (h : j < N) : (nmOf N C)[j]? = some ((C.count (j : Int) : Nat) : Int) := by
  unfold nmOf
  rw [List.getElem?_map, List.getElem?_range h]; rfl
theorem nmOf_put {N : Nat} {C : List Int} {j : Nat} (h : j < N) : (nmOf N C).set j (((C.count (j : Int) : Nat) : Int) + 1) = nmOf N (C ++ [(j : Int)]) := by
  refine List.ext_getElem? fun i => ?_
  rw [List.getElem?_set]
  by_cases hi : i < N
  · rw [nmOf_get hi, nmOf_get hi, List.count_append]
    by_cases e : j = i
    · subst e
      rw [if_pos rfl, if_pos (by rw [nmOf_len]; exact hi)]
      simp
    · rw [if_neg e]
      have : [(j : Int)].count (i : Int) = 0 := by
        rw [List.count_eq_zero]; simp; omega
      rw [this]; rfl
  · rw [List.getElem?_eq_none (by rw [nmOf_len]; omega), List.getElem?_eq_none (by rw [nmOf_len]; omega)]
    split
    · split
      · rename_i h1 h2; rw [nmOf_len] at h2; omega
      · rfl
    · rfl
theorem nmOf_nil (N : Nat) : nmOf N [] = List.replicate N 0 := by
  refine List.ext_getElem? fun i => ?_
  by_cases hi : i < N
  · rw [nmOf_get hi, List.getElem?_replicate, if_pos hi]; simp
  · rw [List.getElem?_eq_none (by rw [nmOf_len]; omega), List.getElem?_eq_none (by simp; omega)]
theorem den_hPut0 {α : Type} [Enc α] {P : Program} {X : List PanicEntry → PH → Prop} {β : Type} {E : List Value} {H S : PH} {L : LK} {K : β → List Value → PH → LK → Prop} {I : List Itm} {e : TypeId} {l : List α} {v : Value} {p : SV} {ss : List SV} {f : Fm β} {i : Nat} {a a' : α} {us : List Value} (hp : pOf (ev0 E p) = pOf (eltV v (i : Int) (sz α))) (h : Held S H (orow e l v :: I)) (hi : l[i]? = some a) (hs : us.length = sz α) (hv : ss.map (ev0 E) = us) (h1 : ∀ u ∈ us, oneC u = true)
    (hu : CsR S a' us)
    (hk : ∀ H', Held S H' (orow e (l.set i a') v :: I) → den P X f E H' L K) : den P X (.store p ss f) E H L K := by
  refine den_hPut (off := 0) (a' := a') ?_ h hi (by omega) hv h1 (fun ces hc => ?_) hk
  · rw [hp]
    cases pOf (eltV v (i : Int) (sz α)) with
    | none => rfl
    | some x => simp [Addr.add_zero]
  · have hl : ces.length = sz α := by
      have := PV.RepRow.length hc
      rw [Enc.len] at this; exact this
    rw [List.take_zero, List.nil_append, Nat.zero_add, hs, List.drop_of_length_le (by omega), List.append_nil]
    exact hu
theorem cloI_cases (F : List FunX) (e : Xp) : (CloOk F e ∧ cloI F e = e.const.int) ∨ (¬ CloOk F e ∧ cloI F e = -1) := by
  unfold cloI
  split
  · rename_i h; exact .inl ⟨h, rfl⟩
  · rename_i h; exact .inr ⟨h, rfl⟩
theorem Xp.clos_len (F : List FunX) : ∀ e : Xp, (e.clos F).length ≤ e.size := by
  refine Xp.ind fun e ih => ?_
  rw [Xp.clos_eq, Xp.size_eq]
  split
  · simp
  · rw [List.length_append]
    have key : ∀ l : List Xp, (∀ a ∈ l, a ∈ e.kids) → (Xps.clos F l).length ≤ Xps.size l := by
      intro l
      induction l with
      | nil => intro _; simp [Xps.clos]
      | cons a l ihl =>
        intro hl
        have h1 := ih a (hl a (List.mem_cons_self ..))
        have h2 := ihl fun y hy => hl y (List.mem_cons_of_mem _ hy)
        rw [Xps.clos, List.length_append, Xps.size]; omega
    have := key e.kids fun a h => h
    split <;> simp <;> omega
end Go.Proofs.YtibinelkmlcmgaaGreat.Vc
/-
  LIFT: the program's checker: closures, bodies.
-/
namespace Go.Proofs.YtibinelkmlcmgaaGreat.Vc
open Go

set_option maxHeartbeats 4000000 in
theorem clo_tri (l : LifX) (r : Nat) (T : TypeId) (fb : Option Addr) (fc : Nat) (x1 x2 x3 x4 x5 x6 x7 x8 : Value) (m : Nat) (dp bd : Bool) (nv : Value) (e : Xp) (cs : List Value) (i : Int) (hi : -1 ≤ i) (C : List Int) (hC : C.length ≤ 900000) (S K : PH) (hs0 : SlR S l.funs (.slice fb l.funs.length fc)) (h : Held S K [ckB r T (.slice fb l.funs.length fc) x1 x2 x3 x4 x5 x6 x7 x8 m dp bd nv, orow 3 (nmOf l.funs.length C) nv]) (he : e.Rep S cs) :
    Tri Tryz.prog n_lift_checker__clo #[pAt r, .agg cs.toArray, .int .i64 i] K fun x K' => x = .returned (.tuple #[]) ∧ Held S K' [ckB r T (.slice fb l.funs.length fc) x1 x2 x3 x4 x5 x6 x7 x8 m dp (bd || decide (cloI l.funs e ≤ i)) nv, orow 3 (nmOf l.funs.length (C ++ if i < cloI l.funs e then [cloI l.funs e] else [])) nv] := by
  have he' := he
  obtain ⟨nb, db, kb, nc, dc, kc, rfl, hx⟩ := Xp.Rep.open he
  refine tri_lift_checker__clo (pAt r :: exVs e nb db kb nc dc kc ++ [.int .i64 i]) (by kernel_rfl) (by kernel_rfl) ?_
  have hrow := h.row (List.mem_cons_of_mem _ (List.mem_cons_self ..))
  obtain ⟨vb, vc, hnv⟩ := hrow.sl
  rw [nmOf_len] at hnv
  subst hnv
  have hm0 := hs0.max
  simp only [maxLen] at hm0
  have hcase := cloI_cases l.funs e
  refine ⟨fun vs H' => vs = [.bool (decide (i < cloI l.funs e))] ∧ PH.le K H', ?_, ?_⟩
  · rintro vs K1 _ ⟨rfl, l1⟩
    have h1 := h.le l1
    refine ⟨fun g => ?_, fun g => ?_⟩
    · simp only [ev0, ev, evV, List.cons_append, List.nil_append, List.getD_cons_zero, List.getD_cons_succ, List.map_cons, List.map_nil, iOf, bOf, sOf, pOf, slLen, slBase, cmpI, arI, Value.ite_bool, int_beq, int_bne, ite_band, ite_bor, Bool.not_eq_true', decide_eq_false_iff_not] at g
      refine ⟨fun _ => rfl, ?_⟩
      refine den_bxStore (off := 11) (vs := [.bool true]) (by kernel_rfl) h1 (by kernel_rfl) (by simp [oneC]) (by simp) fun K2 h2 => ⟨rfl, ?_⟩
      rw [decide_eq_true (show cloI l.funs e ≤ i by omega), Bool.or_true, if_neg g, List.append_nil]
      exact h2
    · simp only [ev0, ev, evV, List.cons_append, List.nil_append, List.getD_cons_zero, List.getD_cons_succ, List.map_cons, List.map_nil, iOf, bOf, sOf, pOf, slLen, slBase, cmpI, arI, Value.ite_bool, int_beq, int_bne, ite_band, ite_bor, Bool.not_eq_false', decide_eq_true_eq] at g
      rcases hcase with ⟨hc, hci⟩ | ⟨_, hci⟩
      · obtain ⟨c1, c2, c3, c4, f, c5, c6⟩ := hc
        have hlt := (List.getElem?_eq_some_iff.1 c5).1
        obtain ⟨n, hn⟩ : ∃ n : Nat, e.const.int = (n : Int) := ⟨e.const.int.toNat, by omega⟩
        have hnt : e.const.int.toNat = n := by omega
        rw [hnt] at hlt
        have hrow1 := h1.row (List.mem_cons_of_mem _ (List.mem_cons_self ..))
        have hget := nmOf_get (C := C) hlt
        obtain ⟨q1, _, ces, q2, q3⟩ := (hrow1.slR h1.sh).get hget
        obtain ⟨rfl, hin⟩ := csIntL q2
        have hcl : C.count (n : Int) ≤ C.length := List.count_le_length
        refine ⟨fun _ => rfl, ?_⟩
        refine den_bxLoad [.slice vb l.funs.length vc] (off := 12) (by kernel_rfl) h1 (List.mem_cons_self ..) rfl rfl ?_
        refine ⟨fun _ => ?_, [.int .i64 ((C.count (n : Int) : Nat) : Int)], rfl, ?_, ?_⟩
        · simp only [Chk.holds, ev0, ev, evV, List.cons_append, List.nil_append, List.getD_cons_zero, List.getD_cons_succ, List.map_cons, List.map_nil, iOf, bOf, sOf, pOf, slLen, slBase, cmpI, arI, Value.ite_bool, int_beq, int_bne, ite_band, ite_bor, hn]
          exact ⟨q1, by omega, by omega⟩
        · simp only [ev0, ev, evV, List.cons_append, List.nil_append, List.getD_cons_zero, List.getD_cons_succ, List.map_cons, List.map_nil, iOf, bOf, sOf, pOf, slLen, slBase, cmpI, arI, Value.ite_bool, int_beq, int_bne, ite_band, ite_bor, hn]
          exact q3
        refine den_hPut0 (i := n) (a := ((C.count (n : Int) : Nat) : Int)) (a' := ((C.count (n : Int) : Nat) : Int) + 1) (us := [.int .i64 (((C.count (n : Int) : Nat) : Int) + 1)]) ?_ (h1.perm (List.Perm.swap _ _ _)) hget rfl ?_ (by simp [oneC]) (int_cs (by unfold InI; omega)) fun K2 h2 => ⟨rfl, ?_⟩
        · simp only [ev0, ev, evV, List.cons_append, List.nil_append, List.getD_cons_zero, List.getD_cons_succ, List.map_cons, List.map_nil, iOf, bOf, sOf, pOf, slLen, slBase, cmpI, arI, Value.ite_bool, int_beq, int_bne, ite_band, ite_bor, hn]; rfl
        · simp only [ev0, ev, evV, List.cons_append, List.nil_append, List.getD_cons_zero, List.getD_cons_succ, List.map_cons, List.map_nil, iOf, bOf, sOf, pOf, slLen, slBase, cmpI, arI, Value.ite_bool, int_beq, int_bne, ite_band, ite_bor]
          rw [w64 (by omega) (by omega)]
        · rw [decide_eq_false (show ¬ cloI l.funs e ≤ i by omega), Bool.or_false, if_pos g, hci, hn, ← nmOf_put hlt]
          exact h2.perm (List.Perm.swap _ _ _)
      · omega
  · refine ⟨fun g => ?_, fun g => ?_⟩
    · simp only [ev0, ev, evV, List.cons_append, List.nil_append, List.getD_cons_zero, List.getD_cons_succ, List.map_cons, List.map_nil, iOf, bOf, sOf, pOf, slLen, slBase, cmpI, arI, Value.ite_bool, int_beq, int_bne, ite_band, ite_bor, txt_eql] at g
      simp only [Bool.and_eq_true, decide_eq_true_eq] at g
      have hn1 : e.name = [] := g.1
      have hk1 : e.kids = [] := List.length_eq_zero_iff.1 (by omega)
      have hii : InI e.const.int := (Dat.Rep_iff.1 hx.const).choose_spec.2.2.1
      refine den_gives [.bool (decide (e.const = .mk 1 e.const.int [] []))] cb_data_Equal (Equal_gives e.const (.mk 1 e.const.int [] []) _ _ K (Dat.Rep.le h.sh _ hx.const) (leaf_rep (by decide) hii (by decide))) rfl pendNil fun K1 l1 => ?_
      refine ⟨fun _ => rfl, fun _ => rfl, fun _ => rfl, fun g2 => ?_, fun g2 => ?_⟩
      · simp only [ev0, ev, evV, List.cons_append, List.nil_append, List.getD_cons_zero, List.getD_cons_succ, List.map_cons, List.map_nil, iOf, bOf, sOf, pOf, slLen, slBase, cmpI, arI, Value.ite_bool, int_beq, int_bne, ite_band, ite_bor] at g2
        simp only [Bool.and_eq_true, decide_eq_true_eq] at g2
        have h1 := h.le l1
        refine den_bxLoad [.slice fb l.funs.length fc] (off := 0) (by kernel_rfl) h1 (List.mem_cons_self ..) rfl rfl ?_
        refine ⟨fun _ => rfl, fun _ => rfl, fun _ => rfl, fun g3 => ?_, fun g3 => ?_⟩
        · simp only [ev0, ev, evV, List.cons_append, List.nil_append, List.getD_cons_zero, List.getD_cons_succ, List.map_cons, List.map_nil, iOf, bOf, sOf, pOf, slLen, slBase, cmpI, arI, Value.ite_bool, int_beq, int_bne, ite_band, ite_bor, decide_eq_true_eq] at g3
          obtain ⟨n, hn⟩ : ∃ n : Nat, e.const.int = (n : Int) := ⟨e.const.int.toNat, by omega⟩
          obtain ⟨f, hf⟩ : ∃ f, l.funs[n]? = some f := ⟨_, List.getElem?_eq_getElem (show n < l.funs.length by omega)⟩
          refine den_bxLoad [.slice fb l.funs.length fc] (off := 0) (by kernel_rfl) h1 (List.mem_cons_self ..) rfl rfl ?_
          obtain ⟨q1, _, ces, q2, q3⟩ := (hs0.le h1.sh).get hf
          obtain ⟨pv, fv, bs, rfl, c1, c2, c3⟩ := fun_iff.1 q2
          obtain ⟨gb, gc, rfl⟩ := c2.sl
          refine ⟨fun _ => ?_, [.slice gb f.frees.length gc], rfl, ?_, ?_⟩
          · simp only [Chk.holds, ev0, ev, evV, List.cons_append, List.nil_append, List.getD_cons_zero, List.getD_cons_succ, List.map_cons, List.map_nil, iOf, bOf, sOf, pOf, slLen, slBase, cmpI, arI, Value.ite_bool, int_beq, int_bne, ite_band, ite_bor, hn]; exact ⟨q1, by omega, by omega⟩
          · have := rowAt_sub q3 1 1
            simp only [ev0, ev, evV, List.cons_append, List.nil_append, List.getD_cons_zero, List.getD_cons_succ, List.map_cons, List.map_nil, iOf, bOf, sOf, pOf, slLen, slBase, cmpI, arI, Value.ite_bool, int_beq, int_bne, ite_band, ite_bor, hn]
            exact this
          refine den_gives [.bool (decide (f.frees = e.names))] cb_slices_Equal___string_string_ (EqualT_gives f.frees e.names _ _ K1 c2 (hx.names.le h1.sh)) rfl pendNil fun K2 l2 => ⟨_, lookup_hit, ?_, PH.le_trans l1 l2⟩
          simp only [ev0, ev, evV, List.cons_append, List.nil_append, List.getD_cons_zero, List.getD_cons_succ, List.map_cons, List.map_nil, iOf, bOf, sOf, pOf, slLen, slBase, cmpI, arI, Value.ite_bool, int_beq, int_bne, ite_band, ite_bor]
          congr 2
          rw [decide_eq_decide]
          rcases hcase with ⟨hc, hci⟩ | ⟨hc, hci⟩
          · obtain ⟨_, _, _, _, f', c5, c6⟩ := hc
            rw [hci]
            constructor
            · intro _; omega
            · intro _
              rw [hn, Int.toNat_natCast, hf] at c5
              cases c5; exact c6
          · rw [hci]
            constructor
            · intro hh
              exact absurd ⟨hn1, hk1, g2.1, by omega, f, by rw [hn, Int.toNat_natCast]; exact hf, hh⟩ hc
            · intro _; omega
        · simp only [ev0, ev, evV, List.cons_append, List.nil_append, List.getD_cons_zero, List.getD_cons_succ, List.map_cons, List.map_nil, iOf, bOf, sOf, pOf, slLen, slBase, cmpI, arI, Value.ite_bool, int_beq, int_bne, ite_band, ite_bor, decide_eq_false_iff_not] at g3
          refine ⟨_, lookup_hit, ?_, l1⟩
          have hf : ¬ (i < cloI l.funs e) := by
            rcases hcase with ⟨hc, hci⟩ | ⟨hc, hci⟩
            · obtain ⟨_, _, _, _, f', c5, c6⟩ := hc
              have := (List.getElem?_eq_some_iff.1 c5).1
              omega
            · omega
          rw [decide_eq_false hf]; rfl
      · simp only [ev0, ev, evV, List.cons_append, List.nil_append, List.getD_cons_zero, List.getD_cons_succ, List.map_cons, List.map_nil, iOf, bOf, sOf, pOf, slLen, slBase, cmpI, arI, Value.ite_bool, int_beq, int_bne, ite_band, ite_bor] at g2
        simp only [Bool.and_eq_false_iff, decide_eq_false_iff_not] at g2
        refine ⟨_, lookup_hit, ?_, l1⟩
        have hf : ¬ (i < cloI l.funs e) := by
          rcases hcase with ⟨hc, hci⟩ | ⟨hc, hci⟩
          · obtain ⟨_, _, c3, _⟩ := hc
            rcases g2 with g2 | g2
            · exact absurd c3 g2
            · omega
          · omega
        rw [decide_eq_false hf]; rfl
    · simp only [ev0, ev, evV, List.cons_append, List.nil_append, List.getD_cons_zero, List.getD_cons_succ, List.map_cons, List.map_nil, iOf, bOf, sOf, pOf, slLen, slBase, cmpI, arI, Value.ite_bool, int_beq, int_bne, ite_band, ite_bor, txt_eql] at g
      simp only [Bool.and_eq_false_iff, decide_eq_false_iff_not] at g
      refine ⟨_, lookup_hit, ?_, PH.le_refl _⟩
      have hf : ¬ (i < cloI l.funs e) := by
        rcases hcase with ⟨hc, hci⟩ | ⟨hc, hci⟩
        · obtain ⟨c1, c2, _⟩ := hc
          rcases g with g | g
          · exact absurd c1 g
          · exact absurd (by rw [c2]; rfl) g
        · omega
      rw [decide_eq_false hf]; rfl
theorem Xps.clos_snoc (F : List FunX) (a : Xp) : ∀ l : List Xp, Xps.clos F (l ++ [a]) = Xps.clos F l ++ a.clos F
  | [] => by simp [Xps.clos]
  | e :: l => by simp only [List.cons_append, Xps.clos, Xps.clos_snoc F a l, List.append_assoc]
theorem Xps.clos_take {F : List FunX} {l : List Xp} {k : Nat} {a : Xp} (h : l[k]? = some a) : Xps.clos F (l.take (k + 1)) = Xps.clos F (l.take k) ++ a.clos F := by
  rw [List.take_add_one, h]; exact Xps.clos_snoc F a _
theorem Xps.clos_len (F : List FunX) : ∀ l : List Xp, (Xps.clos F l).length ≤ Xps.size l
  | [] => by simp [Xps.clos]
  | e :: l => by
    have h1 := Xp.clos_len F e
    have h2 := Xps.clos_len F l
    rw [Xps.clos, List.length_append, Xps.size]; omega
set_option maxHeartbeats 4000000 in
theorem body_tri (l : LifX) (r : Nat) (T : TypeId) (fb : Option Addr) (fc : Nat) (x1 x2 x3 x4 x5 x6 x7 x8 : Value) (m : Nat) (dp : Bool) (nv : Value) (i : Int) (hi : -1 ≤ i) : ∀ (e : Xp) (cs : List Value) (bd : Bool) (C : List Int) (S K : PH), C.length + e.size ≤ 900000 → SlR S l.funs (.slice fb l.funs.length fc) → Held S K [ckB r T (.slice fb l.funs.length fc) x1 x2 x3 x4 x5 x6 x7 x8 m dp bd nv, orow 3 (nmOf l.funs.length C) nv] → e.Rep S cs →
    Tri Tryz.prog n_lift_checker__body #[pAt r, .agg cs.toArray, .int .i64 i] K fun x K' => x = .returned (.tuple #[]) ∧ Held S K' [ckB r T (.slice fb l.funs.length fc) x1 x2 x3 x4 x5 x6 x7 x8 m dp (bd || (e.clos l.funs).any fun x => decide (x ≤ i)) nv, orow 3 (nmOf l.funs.length (C ++ (e.clos l.funs).filter fun x => decide (i < x))) nv] := by
  refine Xp.ind fun e ih cs bd C S K hC hs0 h he => ?_
  have he' := he
  obtain ⟨nb, db, kb, nc, dc, kc, rfl, hx⟩ := Xp.Rep.open he
  have hk := hx.kids.max
  simp only [maxLen] at hk
  have hsz := Xp.size_eq e
  refine tri_lift_checker__body (pAt r :: exVs e nb db kb nc dc kc ++ [.int .i64 i]) (by kernel_rfl) (by kernel_rfl) ?_
  refine ⟨fun vs K' => vs = [] ∧ e.kind ≠ 11 ∧ Held S K' [ckB r T (.slice fb l.funs.length fc) x1 x2 x3 x4 x5 x6 x7 x8 m dp (bd || decide (e.kind = 2 ∨ e.kind = 5 ∨ e.kind = 9)) nv, orow 3 (nmOf l.funs.length C) nv], ?_, fun g => ?_, fun g => ?_⟩
  · rintro vs K1 _ ⟨rfl, h11, h1⟩
    refine ⟨fun n vs K' => ∃ k : Nat, vs = [.int .i64 k] ∧ k + n = e.kids.length ∧ Held S K' [ckB r T (.slice fb l.funs.length fc) x1 x2 x3 x4 x5 x6 x7 x8 m dp (bd || decide (e.kind = 2 ∨ e.kind = 5 ∨ e.kind = 9) || (Xps.clos l.funs (e.kids.take k)).any fun x => decide (x ≤ i)) nv, orow 3 (nmOf l.funs.length (C ++ (Xps.clos l.funs (e.kids.take k)).filter fun x => decide (i < x))) nv],
      ⟨e.kids.length, 0, rfl, by omega, by simpa [Xps.clos] using h1⟩, ?_⟩
    rintro n vs K2 _ ⟨k, rfl, hkn, h2⟩
    refine ⟨fun g => ?_, fun g => ?_⟩
    · simp only [ev0, ev, evV, List.cons_append, List.nil_append, List.getD_cons_zero, List.getD_cons_succ, List.map_cons, List.map_nil, iOf, bOf, sOf, pOf, slLen, slBase, cmpI, arI, Value.ite_bool, int_beq, int_bne, ite_band, ite_bor, decide_eq_true_eq] at g
      obtain ⟨a, ha⟩ : ∃ a, e.kids[k]? = some a := ⟨_, List.getElem?_eq_getElem (show k < e.kids.length by omega)⟩
      obtain ⟨q1, _, ces, q2, q3⟩ := hx.kids.get ha
      have hmem := List.mem_of_getElem? ha
      have htags := Xp.Rep.tags q2
      have q2' := q2
      obtain ⟨nb', db', kb', nc', dc', kc', rfl, _⟩ := Xp.Rep.open q2'
      have hsa := Xps.size_at ha
      have hfl : ((Xps.clos l.funs (e.kids.take k)).filter fun x => decide (i < x)).length ≤ Xps.size (e.kids.take k) := Nat.le_trans (List.length_filter_le _ _) (Xps.clos_len l.funs _)
      refine ⟨fun _ => ?_, _, htags, by simp only [ev0, ev, evV, List.cons_append, List.nil_append, List.getD_cons_zero, List.getD_cons_succ, List.map_cons, List.map_nil, iOf, bOf, sOf, pOf, slLen, slBase, cmpI, arI, Value.ite_bool, int_beq, int_bne, ite_band, ite_bor]; exact rowAt_le h2.sh q3, ?_⟩
      · simp only [Chk.holds, ev0, ev, evV, List.cons_append, List.nil_append, List.getD_cons_zero, List.getD_cons_succ, List.map_cons, List.map_nil, iOf, bOf, sOf, pOf, slLen, slBase, cmpI, arI, Value.ite_bool, int_beq, int_bne, ite_band, ite_bor]; exact ⟨q1, by omega, by omega⟩
      refine den_call cb_lift_checker__body (ih a hmem _ _ _ S K2 (by rw [List.length_append]; omega) hs0 h2 q2) ?_
      rintro x K3 ⟨rfl, h3⟩
      refine ⟨_, [], rfl, rfl, rfl, pendNil, _, lookup_hit, n - 1, by omega, k + 1, ?_, by omega, ?_⟩
      · simp only [ev0, ev, evV, List.cons_append, List.nil_append, List.getD_cons_zero, List.getD_cons_succ, List.map_cons, List.map_nil, iOf, bOf, sOf, pOf, slLen, slBase, cmpI, arI, Value.ite_bool, int_beq, int_bne, ite_band, ite_bor, List.append_nil]
        rw [w64 (by omega) (by omega)]
        rfl
      · rw [Xps.clos_take ha, List.any_append, List.filter_append, ← Bool.or_assoc, ← List.append_assoc]
        exact h3
    · simp only [ev0, ev, evV, List.cons_append, List.nil_append, List.getD_cons_zero, List.getD_cons_succ, List.map_cons, List.map_nil, iOf, bOf, sOf, pOf, slLen, slBase, cmpI, arI, Value.ite_bool, int_beq, int_bne, ite_band, ite_bor, decide_eq_false_iff_not] at g
      rw [List.take_of_length_le (by omega)] at h2
      refine ⟨rfl, ?_⟩
      rw [Xp.clos_eq, if_neg h11, List.any_append, List.filter_append]
      by_cases hk : e.kind = 2 ∨ e.kind = 5 ∨ e.kind = 9
      · rw [if_pos hk]
        rw [decide_eq_true hk] at h2
        have e1 : [(-1 : Int)].any (fun x => decide (x ≤ i)) = true := by simp [hi]
        have e2 : [(-1 : Int)].filter (fun x => decide (i < x)) = [] := by simp [hi]
        rw [e1, e2, List.nil_append, ← Bool.or_assoc]
        exact h2
      · rw [if_neg hk]
        rw [decide_eq_false hk] at h2
        simpa using h2
  · simp only [ev0, ev, evV, List.cons_append, List.nil_append, List.getD_cons_zero, List.getD_cons_succ, List.map_cons, List.map_nil, iOf, bOf, sOf, pOf, slLen, slBase, cmpI, arI, Value.ite_bool, int_beq, int_bne, ite_band, ite_bor, decide_eq_true_eq] at g
    refine den_call cb_lift_checker__clo (clo_tri l r T fb fc x1 x2 x3 x4 x5 x6 x7 x8 m dp bd nv e _ i hi C (by omega) S K hs0 h he') ?_
    rintro x K1 ⟨rfl, h1⟩
    refine ⟨_, [], rfl, rfl, rfl, pendNil, rfl, ?_⟩
    rw [Xp.clos_eq, if_pos g]
    have e1 : [cloI l.funs e].any (fun x => decide (x ≤ i)) = decide (cloI l.funs e ≤ i) := by simp
    have e2 : [cloI l.funs e].filter (fun x => decide (i < x)) = if i < cloI l.funs e then [cloI l.funs e] else [] := by
      by_cases h : i < cloI l.funs e <;> simp [h]
    rw [e1, e2]
    exact h1
  · simp only [ev0, ev, evV, List.cons_append, List.nil_append, List.getD_cons_zero, List.getD_cons_succ, List.map_cons, List.map_nil, iOf, bOf, sOf, pOf, slLen, slBase, cmpI, arI, Value.ite_bool, int_beq, int_bne, ite_band, ite_bor, decide_eq_false_iff_not] at g
    refine ⟨fun vs K' => vs = [.bool (decide (e.kind = 2 ∨ e.kind = 5 ∨ e.kind = 9))] ∧ K' = K, ?_, fun g2 => ?_, fun g2 => ?_⟩
    · rintro vs K1 _ ⟨rfl, rfl⟩
      refine ⟨fun g2 => ?_, fun g2 => ?_⟩
      · simp only [ev0, ev, evV, List.cons_append, List.nil_append, List.getD_cons_zero, List.getD_cons_succ, List.map_cons, List.map_nil, iOf, bOf, sOf, pOf, slLen, slBase, cmpI, arI, Value.ite_bool, int_beq, int_bne, ite_band, ite_bor] at g2
        refine ⟨fun _ => rfl, ?_⟩
        refine den_bxStore (off := 11) (vs := [.bool true]) (by kernel_rfl) h (by kernel_rfl) (by simp [oneC]) (by simp) fun K2 h2 => ⟨_, lookup_hit, rfl, g, ?_⟩
        rw [g2, Bool.or_true]
        exact h2
      · simp only [ev0, ev, evV, List.cons_append, List.nil_append, List.getD_cons_zero, List.getD_cons_succ, List.map_cons, List.map_nil, iOf, bOf, sOf, pOf, slLen, slBase, cmpI, arI, Value.ite_bool, int_beq, int_bne, ite_band, ite_bor] at g2
        refine ⟨_, lookup_hit, rfl, g, ?_⟩
        rw [g2, Bool.or_false]
        exact h
    · simp only [ev0, ev, evV, List.cons_append, List.nil_append, List.getD_cons_zero, List.getD_cons_succ, List.map_cons, List.map_nil, iOf, bOf, sOf, pOf, slLen, slBase, cmpI, arI, Value.ite_bool, int_beq, int_bne, ite_band, ite_bor, decide_eq_true_eq] at g2
      refine ⟨_, lookup_hit, ?_, rfl⟩
      simp only [ev0, ev, evV, List.cons_append, List.nil_append, List.getD_cons_zero, List.getD_cons_succ, List.map_cons, List.map_nil, iOf, bOf, sOf, pOf, slLen, slBase, cmpI, arI, Value.ite_bool, int_beq, int_bne, ite_band, ite_bor]
      congr 2
      rw [decide_eq_decide]
      omega
    · simp only [ev0, ev, evV, List.cons_append, List.nil_append, List.getD_cons_zero, List.getD_cons_succ, List.map_cons, List.map_nil, iOf, bOf, sOf, pOf, slLen, slBase, cmpI, arI, Value.ite_bool, int_beq, int_bne, ite_band, ite_bor, decide_eq_false_iff_not] at g2
      refine ⟨_, lookup_hit, ?_, rfl⟩
      simp only [ev0, ev, evV, List.cons_append, List.nil_append, List.getD_cons_zero, List.getD_cons_succ, List.map_cons, List.map_nil, iOf, bOf, sOf, pOf, slLen, slBase, cmpI, arI, Value.ite_bool, int_beq, int_bne, ite_band, ite_bor]
      by_cases h9 : e.kind = 9 <;> by_cases h2 : e.kind = 2 <;> simp [h9, h2, g2]
end Go.Proofs.YtibinelkmlcmgaaGreat.Vc
/-
  LIFT: what is shown of an expression; the program's lower.
-/
namespace Go.Proofs.YtibinelkmlcmgaaGreat.Vc
open Go

def refX (s : List UInt8) : Xp := .mk 1 s [] dat0 []
mutual
/-- a closure being a call of what it holds -/
def Xp.shw : Xp → Xp
  | .mk k s ns d l => if k = 11 then .mk 6 [] [] dat0 (ns.map refX) else .mk k s ns d (Xps.shw l)
def Xps.shw : List Xp → List Xp
  | [] => []
  | e :: l => Xp.shw e :: Xps.shw l
end
theorem Xps.shw_eq : ∀ l : List Xp, Xps.shw l = l.map Xp.shw
  | [] => rfl
  | e :: l => by simp only [Xps.shw, List.map_cons, Xps.shw_eq l]
theorem Xp.shw_other {e : Xp} (h : e.kind ≠ 11) : e.shw = .mk e.kind e.name e.names e.const (e.kids.map Xp.shw) := by
  cases e with
  | mk k s ns d l => simp only [Xp.kind] at h; simp only [Xp.shw, if_neg h, Xps.shw_eq, Xp.kind, Xp.name, Xp.names, Xp.const, Xp.kids]
theorem Xp.shw_clo {e : Xp} (h : e.kind = 11) : e.shw = .mk 6 [] [] dat0 (e.names.map refX) := by
  cases e with
  | mk k s ns d l => simp only [Xp.kind] at h; simp only [Xp.shw, if_pos h, Xp.names]
theorem fr_refs (b i : List (List UInt8)) : ∀ ns : List (List UInt8), Xps.fr b i 6 (ns.map refX) = ns.filter fun x => !b.contains x
  | [] => by simp [Xps.fr]
  | a :: ns => by
    rw [List.map_cons, Xps.fr, fr_refs b i ns]
    have hin : inB 6 (ns.map refX) = false := by simp [inB]
    rw [hin]
    by_cases h : a ∈ b
    · simp [refX, Xp.fr, Xps.fr, h]
    · simp [refX, Xp.fr, Xps.fr, h]
/-- what is free in what is shown is free -/
theorem fr_shw {F : List FunX} {i : Int} (hi : -1 ≤ i) : ∀ (e : Xp), AtI F i e → ∀ b, e.shw.fr b = e.fr14 b := by
  refine Xp.ind fun e ih he b => ?_
  by_cases h11 : e.kind = 11
  · rw [Xp.shw_clo h11, Xp.fr14_eq, if_pos h11, Xp.fr, fr_refs]
    simp
  · obtain ⟨k2, _, _⟩ := he.kinds hi h11
    rw [Xp.shw_other h11, Xp.fr14_eq, if_neg h11, Xp.fr]
    have : (e.kind = 1 ∨ e.kind = 2) ↔ e.kind = 1 := by omega
    simp only [this]
    congr 1
    have key : ∀ (l : List Xp), (∀ a ∈ l, a ∈ e.kids) → ∀ inner, Xps.fr b inner e.kind (l.map Xp.shw) = Xps.fr14 b inner e.kind l := by
      intro l
      induction l with
      | nil => intro _ inner; rfl
      | cons a l ihl =>
        intro hl inner
        have hin : inB e.kind (l.map Xp.shw) = inB e.kind l := by unfold inB; cases l <;> rfl
        rw [List.map_cons, Xps.fr, Xps.fr14, hin, ih a (hl a (List.mem_cons_self ..)) (he.kid h11 a (hl a (List.mem_cons_self ..))), ihl fun y hy => hl y (List.mem_cons_of_mem _ hy)]
    exact key _ (fun a h => h) _
theorem refs_size : ∀ ns : List (List UInt8), Xps.size (ns.map refX) = ns.length ∧ Xps.bnd (ns.map refX) = []
  | [] => ⟨rfl, rfl⟩
  | a :: ns => by
    obtain ⟨h1, h2⟩ := refs_size ns
    simp only [List.map_cons, Xps.size, Xps.bnd, h1, h2, refX, Xp.size, Xp.bnd, List.length_cons]
    exact ⟨by omega, by simp⟩
theorem shw_size : ∀ e : Xp, e.fit → e.shw.size ≤ e.size * 1048577 ∧ e.shw.bnd.length ≤ e.size * 1048577 := by
  refine Xp.ind fun e ih hf => ?_
  obtain ⟨f1, f2, f3⟩ := (Xp.fit_iff e).1 hf
  have hse := Xp.size_eq e
  by_cases h11 : e.kind = 11
  · rw [Xp.shw_clo h11, Xp.size, Xp.bnd, (refs_size e.names).1, (refs_size e.names).2]
    have : 1048577 ≤ e.size * 1048577 := Nat.le_mul_of_pos_left _ (by omega)
    simp; omega
  · rw [Xp.shw_other h11, Xp.size, Xp.bnd, hse]
    have key : ∀ (l : List Xp), (∀ a ∈ l, a ∈ e.kids) → Xps.size (l.map Xp.shw) ≤ Xps.size l * 1048577 ∧ (Xps.bnd (l.map Xp.shw)).length ≤ Xps.size l * 1048577 := by
      intro l
      induction l with
      | nil => intro _; simp [Xps.size, Xps.bnd]
      | cons a l ihl =>
        intro hl
        have h1 := ih a (hl a (List.mem_cons_self ..)) (f3 a (hl a (List.mem_cons_self ..)))
        have h2 := ihl fun y hy => hl y (List.mem_cons_of_mem _ hy)
        simp only [List.map_cons, Xps.size, Xps.bnd, List.length_append, Nat.add_mul]
        omega
    have := key e.kids fun a h => h
    simp only [List.length_append, Nat.add_mul]
    omega
theorem mapS_unit (g : Xp → Xp) : ∀ l : List Xp, mapS (fun (s : Unit) e => (g e, s)) () l = (l.map g, ())
  | [] => rfl
  | e :: l => by simp only [mapS, mapS_unit g l, List.map_cons]
theorem refX_rep {S : PH} {s : List UInt8} (h : s.length ≤ maxLen) : (refX s).Rep S [.int .i64 1, txt s, .slice none 0 0, .int .i64 0, .int .i64 0, txt [], .slice none 0 0, .slice none 0 0] :=
  Xp.Rep_iff.2 ⟨_, _, _, rfl, (by decide : InI 1), h, SlR.mk_iff.2 ⟨Nat.zero_le _, .inl ⟨rfl, rfl⟩⟩, dat0_rep S, SlR.mk_iff.2 ⟨Nat.zero_le _, .inl ⟨rfl, rfl⟩⟩⟩
set_option maxHeartbeats 2000000 in
theorem shown_tri : ∀ (e : Xp) (cs : List Value) (S : PH), e.Rep S cs → e.fit → Tri Tryz.prog n_lift_shown #[.agg cs.toArray] S fun x S' => PH.le S S' ∧ XRet S' e.shw x := by
  refine Xp.ind fun e ih cs S he hfit => ?_
  have he' := he
  obtain ⟨nb, db, kb, nc, dc, kc, rfl, hx⟩ := Xp.Rep.open he
  obtain ⟨f1, f2, f3⟩ := (Xp.fit_iff e).1 hfit
  refine tri_lift_shown (exVs e nb db kb nc dc kc) (by kernel_rfl) (by kernel_rfl) ?_
  refine ⟨fun g => ?_, fun g => ?_⟩
  · simp only [ev0, ev, evV, List.cons_append, List.nil_append, List.getD_cons_zero, List.getD_cons_succ, List.map_cons, List.map_nil, iOf, bOf, sOf, pOf, slLen, slBase, cmpI, arI, Value.ite_bool, int_beq, int_bne, ite_band, ite_bor, decide_eq_true_eq] at g
    have hmap : Tri Tryz.prog n_pass_Map #[.agg (exVs e nb db kb nc dc kc).toArray, .func (.func n_lift_shown) #[] #[]] S fun x S' => PH.le S S' ∧ XRet S' e.shw x := by
      refine (Map_tri (fun (s : Unit) e => (e.shw, s)) (fun _ Js => Js = []) () e _ S S [] (g := n_lift_shown) (first := #[]) (caps := #[]) cb_lift_shown (Held.nil (PH.le_refl S)) rfl he' f2 ?_).mono ?_
      · intro j k hj S' K' Js cs l' h' hJs hk
        subst hJs
        have hm := List.mem_of_getElem? hj
        refine (h'.pure (ih k hm cs S' hk (f3 k hm))).mono ?_
        rintro x K2 ⟨S2, l2, h2, r2⟩
        exact ⟨S2, [], l2, h2, rfl, r2⟩
      · rintro x K2 ⟨S2, J2, l2, h2, hJ, r2⟩
        subst hJ
        rw [mapS_unit] at r2
        obtain ⟨es, rfl, r3⟩ := r2
        refine ⟨PH.le_trans l2 h2.sh, es, rfl, ?_⟩
        rw [Xp.shw_other g]
        exact Xp.Rep.le h2.sh _ r3
    refine den_call cb_pass_Map hmap ?_
    rintro x S2 ⟨l2, es, rfl, r2⟩
    have ht := Xp.Rep.tags r2
    have r2' := r2
    obtain ⟨p1, p2, p3, p4, p5, p6, rfl, _⟩ := Xp.Rep.open r2'
    exact ⟨_, _, rfl, ht, rfl, pendNil, l2, _, rfl, r2⟩
  · simp only [ev0, ev, evV, List.cons_append, List.nil_append, List.getD_cons_zero, List.getD_cons_succ, List.map_cons, List.map_nil, iOf, bOf, sOf, pOf, slLen, slBase, cmpI, arI, Value.ite_bool, int_beq, int_bne, ite_band, ite_bor, decide_eq_false_iff_not, ne_eq, Decidable.not_not] at g
    rw [Xp.shw_clo g]
    refine ⟨fun n vs K' => ∃ (k : Nat) (out : Value) (S' : PH), vs = [.int .i64 k, .int .i64 6, txt [], .slice none 0 0, .int .i64 0, .int .i64 0, txt [], .slice none 0 0, out] ∧ k + n = e.names.length ∧ PH.le S S' ∧ Held S' K' [orow 29 ((e.names.take k).map refX) out],
      ⟨e.names.length, 0, .slice none 0 0, S, rfl, by omega, PH.le_refl S, (Held.nil (PH.le_refl S)).empty _⟩, ?_⟩
    rintro n vs K1 _ ⟨k, out, S1, rfl, hkn, l1, h1⟩
    refine ⟨fun g1 => ?_, fun g1 => ?_⟩
    · simp only [ev0, ev, evV, List.cons_append, List.nil_append, List.getD_cons_zero, List.getD_cons_succ, List.map_cons, List.map_nil, iOf, bOf, sOf, pOf, slLen, slBase, cmpI, arI, Value.ite_bool, int_beq, int_bne, ite_band, ite_bor, decide_eq_true_eq] at g1
      obtain ⟨a, ha⟩ : ∃ a, e.names[k]? = some a := ⟨_, List.getElem?_eq_getElem (show k < e.names.length by omega)⟩
      obtain ⟨q1, _, ces, q2, q3⟩ := (hx.names.le (PH.le_trans l1 h1.sh)).get ha
      obtain ⟨rfl, hal⟩ := csTxts q2
      refine ⟨fun _ => ?_, [txt a], rfl, by simp only [ev0, ev, evV, List.cons_append, List.nil_append, List.getD_cons_zero, List.getD_cons_succ, List.map_cons, List.map_nil, iOf, bOf, sOf, pOf, slLen, slBase, cmpI, arI, Value.ite_bool, int_beq, int_bne, ite_band, ite_bor]; exact q3, ?_⟩
      · simp only [Chk.holds, ev0, ev, evV, List.cons_append, List.nil_append, List.getD_cons_zero, List.getD_cons_succ, List.map_cons, List.map_nil, iOf, bOf, sOf, pOf, slLen, slBase, cmpI, arI, Value.ite_bool, int_beq, int_bne, ite_band, ite_bor]; exact ⟨q1, by omega, by omega⟩
      refine den_gives [.int .i64 1, txt a, .slice none 0 0, .int .i64 0, .int .i64 0, txt [], .slice none 0 0, .slice none 0 0] cb_pass_Ref (Ref_gives a K1) rfl pendNil fun K2 l2 => ?_
      refine den_hPush (more := [refX a]) (b := 128) [.agg #[.int .i64 1, txt a, .slice none 0 0, .int .i64 0, .int .i64 0, txt [], .slice none 0 0, .slice none 0 0]] uExprs' elemExpr' rfl (by decide) (by decide) (h1.le l2) (by kernel_rfl) (.cons (refX_rep hal) .nil) pendNil (fun _ => by kernel_rfl) (fun _ => by kernel_rfl)
        (by simp only [maxLen, List.length_map, List.length_take, List.length_cons, List.length_nil]; omega) (by simp only [List.length_map, List.length_take, List.length_cons, List.length_nil]; omega) fun u v' S3 K3 l3 h3 => ⟨pendNil, _, lookup_hit, n - 1, by omega, k + 1, v', S3, ?_, by omega, PH.le_trans l1 l3, ?_⟩
      · simp only [ev0, ev, evV, List.cons_append, List.nil_append, List.getD_cons_zero, List.getD_cons_succ, List.map_cons, List.map_nil, iOf, bOf, sOf, pOf, slLen, slBase, cmpI, arI, Value.ite_bool, int_beq, int_bne, ite_band, ite_bor]
        rw [w64 (by omega) (by omega)]
        rfl
      · rw [List.take_add_one, ha, List.map_append]
        exact h3
    · simp only [ev0, ev, evV, List.cons_append, List.nil_append, List.getD_cons_zero, List.getD_cons_succ, List.map_cons, List.map_nil, iOf, bOf, sOf, pOf, slLen, slBase, cmpI, arI, Value.ite_bool, int_beq, int_bne, ite_band, ite_bor, decide_eq_false_iff_not] at g1
      rw [List.take_of_length_le (by omega)] at h1
      obtain ⟨S2, s2, l2, h2⟩ := h1.freeze
      refine ⟨PH.le_trans l1 (PH.le_trans l2 h2.sh), [.int .i64 6, txt [], .slice none 0 0, .int .i64 0, .int .i64 0, txt [], .slice none 0 0, out], rfl, ?_⟩
      exact Xp.Rep_iff.2 ⟨_, _, _, rfl, (by decide : InI 6), Nat.zero_le _, SlR.mk_iff.2 ⟨Nat.zero_le _, .inl ⟨rfl, rfl⟩⟩, dat0_rep K1, s2.le h2.sh⟩

/-! ### lower -/
def FitL (l : LifX) : Prop := l.funs.length ≤ 1048576 ∧ l.main.fit ∧ ∀ f ∈ l.funs, f.params.length ≤ 1048576 ∧ f.frees.length ≤ 1048576 ∧ f.body.fit
set_option maxHeartbeats 4000000 in
theorem lower_tri (l : LifX) (hF : FunsOk l.funs) (hL : FitL l) : ∀ (i : Int) (t : Xp), -1 ≤ i → AtI l.funs i t → t.fit → ∀ (S : PH) (ls cs : List Value), CsR S l ls → t.Rep S cs → Tri Tryz.prog n_lift_lower #[.agg ls.toArray, .agg cs.toArray] S fun x S' => PH.le S S' ∧ XRet S' (lowN l.funs t) x := by
  have hopen : ∀ (S : PH) (ls : List Value), CsR S l ls → ∃ fb fc p1 p2 p3 p4 p5 p6, ls = .slice fb l.funs.length fc :: exVs l.main p1 p2 p3 p4 p5 p6 ∧ SlR S l.funs (.slice fb l.funs.length fc) := by
    intro S ls hls
    obtain ⟨fv, bs, rfl, s1, r1⟩ := lif_iff.1 hls
    obtain ⟨fb, fc, rfl⟩ := s1.sl
    obtain ⟨p1, p2, p3, p4, p5, p6, rfl, _⟩ := Xp.Rep.open r1
    exact ⟨fb, fc, p1, p2, p3, p4, p5, p6, rfl, s1⟩
  refine AtI.ind hF ?_ ?_
  · intro i t n f hi ht h11 hn hf htc hcl ih hfit S ls cs hls he
    have hls' := hls
    obtain ⟨fb, fc, p1, p2, p3, p4, p5, p6, rfl, s1⟩ := hopen S ls hls
    have he' := he
    obtain ⟨nb, db, kb, nc, dc, kc, rfl, hx⟩ := Xp.Rep.open he
    have hci : t.const.int = (n : Int) := by rw [htc]; rfl
    have hlt := (List.getElem?_eq_some_iff.1 hf).1
    have hL1 := hL.1
    refine tri_lift_lower (.slice fb l.funs.length fc :: exVs l.main p1 p2 p3 p4 p5 p6 ++ exVs t nb db kb nc dc kc) (by kernel_rfl) (by kernel_rfl) ?_
    refine den_bxNew (vs := .slice fb l.funs.length fc :: exVs l.main p1 p2 p3 p4 p5 p6) (Held.nil (PH.le_refl S)) (by kernel_rfl) fun r K1 l1 h1 => ?_
    refine ⟨fun g => absurd g (by simp only [ev0, ev, evV, List.cons_append, List.nil_append, List.getD_cons_zero, List.getD_cons_succ, List.map_cons, List.map_nil, iOf, bOf, sOf, pOf, slLen, slBase, cmpI, arI, Value.ite_bool, int_beq, int_bne, ite_band, ite_bor, h11]; decide), fun _ => ?_⟩
    refine ⟨fun _ => rfl, ?_⟩
    refine den_bxLoad [.slice fb l.funs.length fc] (off := 0) (by kernel_rfl) h1 (List.mem_cons_self ..) rfl rfl ?_
    obtain ⟨q1, _, ces, q2, q3⟩ := s1.get hf
    obtain ⟨pv, fv, bs, rfl, c1, c2, c3⟩ := fun_iff.1 q2
    obtain ⟨a1, a2, rfl⟩ := c1.sl
    obtain ⟨a3, a4, rfl⟩ := c2.sl
    have c3s := c3
    obtain ⟨w1, w2, w3, w4, w5, w6, rfl, _⟩ := Xp.Rep.open c3
    refine ⟨fun _ => ?_, .slice a1 f.params.length a2 :: .slice a3 f.frees.length a4 :: exVs f.body w1 w2 w3 w4 w5 w6, rfl, ?_, ?_⟩
    · simp only [Chk.holds, ev0, ev, evV, List.cons_append, List.nil_append, List.getD_cons_zero, List.getD_cons_succ, List.map_cons, List.map_nil, iOf, bOf, sOf, pOf, slLen, slBase, cmpI, arI, Value.ite_bool, int_beq, int_bne, ite_band, ite_bor, hci]; exact ⟨q1, by omega, by omega⟩
    · simp only [ev0, ev, evV, List.cons_append, List.nil_append, List.getD_cons_zero, List.getD_cons_succ, List.map_cons, List.map_nil, iOf, bOf, sOf, pOf, slLen, slBase, cmpI, arI, Value.ite_bool, int_beq, int_bne, ite_band, ite_bor, hci]; exact rowAt_le h1.sh q3
    refine den_bxLoad (.slice fb l.funs.length fc :: exVs l.main p1 p2 p3 p4 p5 p6) (off := 0) (by kernel_rfl) h1 (List.mem_cons_self ..) rfl rfl ?_
    have hfm := hL.2.2 f (List.mem_of_getElem? hf)
    simp only [List.cons_append, List.nil_append]
    refine den_call cb_lift_lower (h1.pure (ih hfm.2.2 S _ _ hls' c3s)) ?_
    rintro x K2 ⟨S2, l2, h2, es, rfl, r2⟩
    have ht2 := Xp.Rep.tags r2
    have r2' := r2
    obtain ⟨z1, z2, z3, z4, z5, z6, rfl, _⟩ := Xp.Rep.open r2'
    refine ⟨_, _, rfl, ht2, rfl, pendNil, ?_⟩
    refine den_hLit (l := [lowN l.funs f.body]) (b := 128) [.agg (exVs (lowN l.funs f.body) z1 z2 z3 z4 z5 z6).toArray] uExprs' elemExpr' rfl (by decide) (by decide) h2 (by kernel_rfl) (.cons r2 .nil) pendNil fun v3 K3 h3 l3 _ => ?_
    obtain ⟨S4, s4, l4, h4⟩ := h3.freeze
    refine ⟨PH.le_trans l2 (PH.le_trans l4 h4.sh), [.int .i64 5, txt [], .slice a1 f.params.length a2, .int .i64 0, .int .i64 0, txt [], .slice none 0 0, v3], rfl, ?_⟩
    rw [htc, lowN_clo hF hf]
    have hpar := c1.le (PH.le_trans l2 (PH.le_trans l4 h4.sh))
    exact Xp.Rep_iff.2 ⟨_, _, _, rfl, (by decide : InI 5), Nat.zero_le _, hpar, dat0_rep _, s4.le h4.sh⟩
  · intro i t hi ht h11 hk ih hfit S ls cs hls he
    have hls' := hls
    obtain ⟨fb, fc, p1, p2, p3, p4, p5, p6, rfl, s1⟩ := hopen S ls hls
    have he' := he
    obtain ⟨nb, db, kb, nc, dc, kc, rfl, hx⟩ := Xp.Rep.open he
    obtain ⟨f1, f2, f3⟩ := (Xp.fit_iff t).1 hfit
    refine tri_lift_lower (.slice fb l.funs.length fc :: exVs l.main p1 p2 p3 p4 p5 p6 ++ exVs t nb db kb nc dc kc) (by kernel_rfl) (by kernel_rfl) ?_
    refine den_bxNew (vs := .slice fb l.funs.length fc :: exVs l.main p1 p2 p3 p4 p5 p6) (Held.nil (PH.le_refl S)) (by kernel_rfl) fun r K1 l1 h1 => ?_
    refine ⟨fun _ => ?_, fun g => absurd g (by simp only [ev0, ev, evV, List.cons_append, List.nil_append, List.getD_cons_zero, List.getD_cons_succ, List.map_cons, List.map_nil, iOf, bOf, sOf, pOf, slLen, slBase, cmpI, arI, Value.ite_bool, int_beq, int_bne, ite_band, ite_bor, decide_eq_false_iff_not]; simpa using h11)⟩
    refine den_makeFunc' (f := n_lift_lower_1) (F := #[]) (C := #[pAt r]) rfl (by kernel_rfl) (by kernel_rfl) ?_
    have hmap := Map_tri (fun (s : Unit) e => (lowN l.funs e, s)) (fun _ Js => Js = [bx r _ (.slice fb l.funs.length fc :: exVs l.main p1 p2 p3 p4 p5 p6)]) () t _ S K1 _ (g := n_lift_lower_1) (first := #[]) (caps := #[pAt r]) cb_lift_lower_1 h1 rfl he' f2 (by
      intro j k hj S' K' Js cs l' h' hJs hk
      subst hJs
      have hm := List.mem_of_getElem? hj
      have hk' := hk
      obtain ⟨nb', db', kb', nc', dc', kc', rfl, _⟩ := Xp.Rep.open hk
      refine tri_lift_lower_1 (exVs k nb' db' kb' nc' dc' kc' ++ [pAt r]) (by kernel_rfl) (by kernel_rfl) ?_
      refine den_bxLoad (.slice fb l.funs.length fc :: exVs l.main p1 p2 p3 p4 p5 p6) (off := 0) (by kernel_rfl) h' (List.mem_cons_self ..) rfl rfl ?_
      refine den_call cb_lift_lower (h'.pure (ih k hm (f3 k hm) S' _ _ (PV.RepRow.le l' hls') hk')) ?_
      rintro x K2 ⟨S2, l2, h2, es, rfl, r2⟩
      have ht2 := Xp.Rep.tags r2
      have r2' := r2
      obtain ⟨z1, z2, z3, z4, z5, z6, rfl, _⟩ := Xp.Rep.open r2'
      exact ⟨_, _, rfl, ht2, rfl, pendNil, S2, _, l2, h2, rfl, _, rfl, r2⟩)
    refine den_call cb_pass_Map hmap ?_
    rintro x K2 ⟨S2, J2, l2, h2, hj2, es, rfl, r2⟩
    simp only [mapS_unit] at r2
    have ht2 := Xp.Rep.tags r2
    have r2' := r2
    obtain ⟨z1, z2, z3, z4, z5, z6, rfl, _⟩ := Xp.Rep.open r2'
    refine ⟨_, _, rfl, ht2, rfl, pendNil, PH.le_trans l2 h2.sh, _, rfl, ?_⟩
    rw [lowN_other h11]
    exact Xp.Rep.le h2.sh _ r2
end Go.Proofs.YtibinelkmlcmgaaGreat.Vc
/-
  LIFT: the program's Check and Lower.
-/
namespace Go.Proofs.YtibinelkmlcmgaaGreat.Vc
open Go

theorem freeS_nil (l : List (List UInt8)) : (freeS l).length = 0 ↔ l = [] := by
  constructor
  · intro h
    have h1 := List.length_eq_zero_iff.1 h
    refine List.eq_nil_iff_forall_not_mem.2 fun x hx => ?_
    have := mem_freeS.2 hx
    rw [h1] at this; cases this
  · rintro rfl; rw [← freeS_puts]; rfl
theorem fr_lam (all : List (List UInt8)) (b : Xp) : Xp.fr [] (.mk 5 [] all dat0 [b]) = b.fr all := by
  simp [Xp.fr, Xps.fr, inB]
set_option maxHeartbeats 4000000 in
theorem within_gives (l : LifX) (f : FunX) (ls cs : List Value) (S : PH) (i : Int) (hi : -1 ≤ i) (hls : CsR S l ls) (hf : CsR S f cs) (f1 : f.params.length ≤ 1048576) (f2 : f.frees.length ≤ 1048576) (f3 : f.body.fit) (f4 : f.body.size ≤ 4096) (ha : AtI l.funs i f.body) : Gives Tryz.prog n_lift_within [.agg cs.toArray, .agg ls.toArray] S (.bool (funOk f)) := by
  obtain ⟨fv, bs, rfl, s1, r1⟩ := lif_iff.1 hls
  obtain ⟨fb, fc, rfl⟩ := s1.sl
  obtain ⟨p1, p2, p3, p4, p5, p6, rfl, _⟩ := Xp.Rep.open r1
  obtain ⟨pv, rv, bs, rfl, c1, c2, c3⟩ := fun_iff.1 hf
  obtain ⟨a1, a2, rfl⟩ := c1.sl
  obtain ⟨a3, a4, rfl⟩ := c2.sl
  have c3' := c3
  obtain ⟨w1, w2, w3, w4, w5, w6, rfl, _⟩ := Xp.Rep.open c3
  refine tri_lift_within (.slice a1 f.params.length a2 :: .slice a3 f.frees.length a4 :: exVs f.body w1 w2 w3 w4 w5 w6 ++ (.slice fb l.funs.length fc :: exVs l.main p1 p2 p3 p4 p5 p6)) (by kernel_rfl) (by kernel_rfl) ?_
  refine den_hLit (l := [f.params, f.frees]) (b := 24) [.slice a1 f.params.length a2, .slice a3 f.frees.length a4] uTxtss elemTxts rfl (by decide) (by decide) (Held.nil (PH.le_refl S)) (by kernel_rfl) (.cons (csTxtss.2 ⟨_, rfl, c1⟩) (.cons (csTxtss.2 ⟨_, rfl, c2⟩) .nil)) pendNil fun v1 K1 h1 l1 _ => ?_
  obtain ⟨S2, s2, l2, h2⟩ := h1.freeze
  have hfl : [f.params, f.frees].flatten = f.params ++ f.frees := by simp
  refine den_call (by kernel_rfl) (h2.pure (R := fun x S' => ∃ w, x = .returned w ∧ SlR S' [f.params, f.frees].flatten w) (Concat_tri [f.params, f.frees] v1 S2 s2 (by rw [hfl, List.length_append]; omega))) ?_
  rintro x K3 ⟨S3, l3, h3, w, rfl, s3⟩
  rw [hfl] at s3
  generalize hall : f.params ++ f.frees = all at s3
  have hlen : all.length ≤ 2097152 := by rw [← hall, List.length_append]; omega
  obtain ⟨ab, ac, rfl⟩ := s3.sl
  have hcap := s3.capLe
  refine ⟨_, [.slice ab all.length ac], rfl, rfl, rfl, pendNil, ?_⟩
  have l03 := PH.le_trans l2 l3
  have s3K := s3.le h3.sh
  have hfo : funOk f = (namesOk all && decide (f.params.length ≤ 6) && (Xp.fr14 all f.body).isEmpty) := by unfold funOk; rw [hall]
  refine ⟨fun n vs H' => ∃ k : Nat, vs = [.bool false, .int .i64 k] ∧ k + n = all.length ∧ namesOk all = namesFrom (all.take k) (all.drop k) ∧ PH.le K3 H', ⟨all.length, 0, rfl, by omega, by simp [namesOk], PH.le_refl _⟩, ?_⟩
  rintro n vs K4 _ ⟨k, rfl, hkn, hn, l4⟩
  refine ⟨fun h => ?_, fun h => ?_⟩
  · simp only [ev0, ev, evV, List.cons_append, List.nil_append, List.getD_cons_zero, List.getD_cons_succ, List.map_cons, List.map_nil, iOf, bOf, sOf, pOf, slLen, slBase, cmpI, arI, Value.ite_bool, int_beq, int_bne, ite_band, ite_bor, decide_eq_true_eq] at h
    obtain ⟨a, ha⟩ : ∃ a, all[k]? = some a := ⟨_, List.getElem?_eq_getElem (show k < all.length by omega)⟩
    obtain ⟨g1, _, ces, g2, g3⟩ := (s3K.le l4).get ha
    obtain ⟨rfl, hla⟩ := csTxts g2
    rw [drop_get ha] at hn
    refine ⟨fun _ => ?_, [txt a], rfl, by simp only [ev0, ev, evV, List.cons_append, List.nil_append, List.getD_cons_zero, List.getD_cons_succ, List.map_cons, List.map_nil, iOf, bOf, sOf, pOf, slLen, slBase, cmpI, arI, Value.ite_bool, int_beq, int_bne, ite_band, ite_bor]; exact g3, ?_⟩
    · simp only [Chk.holds, ev0, ev, evV, List.cons_append, List.nil_append, List.getD_cons_zero, List.getD_cons_succ, List.map_cons, List.map_nil, iOf, bOf, sOf, pOf, slLen, slBase, cmpI, arI, Value.ite_bool, int_beq, int_bne, ite_band, ite_bor]; exact ⟨g1, by omega, by omega⟩
    refine ⟨fun vs H' => vs = [.bool (!nameOk a || (all.take k).contains a)] ∧ PH.le K4 H', ?_, ?_⟩
    · rintro vs H' _ ⟨rfl, h1⟩
      refine ⟨fun h2 => ?_, fun h2 => ?_⟩
      · simp only [ev0, ev, evV, List.cons_append, List.nil_append, List.getD_cons_zero, List.getD_cons_succ, List.map_cons, List.map_nil, iOf, bOf, sOf, pOf, slLen, slBase, cmpI, arI, Value.ite_bool, int_beq, int_bne, ite_band, ite_bor, Bool.or_eq_true, Bool.not_eq_true'] at h2
        rw [hfo, hn, namesFrom_stop h2]
        exact ⟨rfl, PH.le_trans l03 (PH.le_trans h3.sh (PH.le_trans l4 h1))⟩
      · simp only [ev0, ev, evV, List.cons_append, List.nil_append, List.getD_cons_zero, List.getD_cons_succ, List.map_cons, List.map_nil, iOf, bOf, sOf, pOf, slLen, slBase, cmpI, arI, Value.ite_bool, int_beq, int_bne, ite_band, ite_bor, Bool.or_eq_false_iff, Bool.not_eq_false'] at h2
        refine ⟨_, lookup_hit, n - 1, by omega, k + 1, ?_, by omega, ?_, PH.le_trans l4 h1⟩
        · simp only [ev0, ev, evV, List.cons_append, List.nil_append, List.getD_cons_zero, List.getD_cons_succ, List.map_cons, List.map_nil, iOf, bOf, sOf, pOf, slLen, slBase, cmpI, arI, Value.ite_bool, int_beq, int_bne, ite_band, ite_bor]; rw [w64 (by omega) (by omega)]; rfl
        · rw [hn]
          simp only [namesFrom, h2.1, h2.2, Bool.not_false, Bool.true_and]
          rw [List.take_add_one, ha]; rfl
    · refine den_gives [.bool (nameOk a)] cb_data_Name (Name_gives a hla K4) rfl pendNil fun H2 h2 => ⟨fun _ => ?_, fun h3 => ?_, fun h3 => ?_⟩
      · simp only [Chk.holds, ev0, ev, evV, List.cons_append, List.nil_append, List.getD_cons_zero, List.getD_cons_succ, List.map_cons, List.map_nil, iOf, bOf, sOf, pOf, slLen, slBase, cmpI, arI, Value.ite_bool, int_beq, int_bne, ite_band, ite_bor, slCap]; omega
      · simp only [ev0, ev, evV, List.cons_append, List.nil_append, List.getD_cons_zero, List.getD_cons_succ, List.map_cons, List.map_nil, iOf, bOf, sOf, pOf, slLen, slBase, cmpI, arI, Value.ite_bool, int_beq, int_bne, ite_band, ite_bor, Bool.not_eq_true'] at h3
        exact ⟨_, lookup_hit, by simp only [ev0, ev, evV, List.cons_append, List.nil_append, List.getD_cons_zero, List.getD_cons_succ, List.map_cons, List.map_nil, iOf, bOf, sOf, pOf, slLen, slBase, cmpI, arI, Value.ite_bool, int_beq, int_bne, ite_band, ite_bor, h3]; rfl, h2⟩
      · simp only [ev0, ev, evV, List.cons_append, List.nil_append, List.getD_cons_zero, List.getD_cons_succ, List.map_cons, List.map_nil, iOf, bOf, sOf, pOf, slLen, slBase, cmpI, arI, Value.ite_bool, int_beq, int_bne, ite_band, ite_bor, Bool.not_eq_false'] at h3
        have hcut := (s3K.le (PH.le_trans l4 h2)).cut (a := 0) (b := k) (by omega) (by omega)
        rw [List.drop_zero] at hcut
        refine den_gives [.bool ((all.take k).contains a)] cb_slices_Contains___string_string_ ?_ rfl pendNil fun H4 h4 => ⟨_, lookup_hit, by simp only [ev0, ev, evV, List.cons_append, List.nil_append, List.getD_cons_zero, List.getD_cons_succ, List.map_cons, List.map_nil, iOf, bOf, sOf, pOf, slLen, slBase, cmpI, arI, Value.ite_bool, int_beq, int_bne, ite_band, ite_bor, h3]; rfl, PH.le_trans h2 h4⟩
        have := Contains_gives (all.take k) a _ H2 hcut
        simp only [ev0, ev, evV, List.cons_append, List.nil_append, List.getD_cons_zero, List.getD_cons_succ, List.map_cons, List.map_nil, iOf, bOf, sOf, pOf, slLen, slBase, cmpI, arI, Value.ite_bool, int_beq, int_bne, ite_band, ite_bor]
        exact this
  · simp only [ev0, ev, evV, List.cons_append, List.nil_append, List.getD_cons_zero, List.getD_cons_succ, List.map_cons, List.map_nil, iOf, bOf, sOf, pOf, slLen, slBase, cmpI, arI, Value.ite_bool, int_beq, int_bne, ite_band, ite_bor, decide_eq_false_iff_not] at h
    rw [List.drop_eq_nil_of_le (by omega)] at hn
    have hnt : namesOk all = true := hn
    have h4 := h3.le l4
    refine den_call cb_lift_shown (h4.pure (shown_tri f.body _ S3 (Xp.Rep.le l03 _ c3') f3)) ?_
    rintro x K5 ⟨S5, l5, h5, es, rfl, r5⟩
    have ht5 := Xp.Rep.tags r5
    have r5' := r5
    obtain ⟨z1, z2, z3, z4, z5, z6, rfl, _⟩ := Xp.Rep.open r5'
    refine ⟨_, _, rfl, ht5, rfl, pendNil, ?_⟩
    refine den_hLit (l := [f.body.shw]) (b := 128) [.agg (exVs f.body.shw z1 z2 z3 z4 z5 z6).toArray] uExprs' elemExpr' rfl (by decide) (by decide) h5 (by kernel_rfl) (.cons r5 .nil) pendNil fun v6 K6 h6 l6 _ => ?_
    obtain ⟨S7, s7, l7, h7⟩ := h6.freeze
    obtain ⟨zb, zc, rfl⟩ := s7.sl
    have l07 := PH.le_trans l03 (PH.le_trans l5 l7)
    have hss := shw_size f.body f3
    have hfr := fr_shw hi f.body ha all
    refine ⟨fun vs H' => vs = [.bool (funOk f)] ∧ PH.le K6 H', ?_, fun g => ?_, fun g => ?_⟩
    · rintro vs K8 _ ⟨rfl, l8⟩
      exact ⟨rfl, PH.le_trans l07 (PH.le_trans h7.sh l8)⟩
    · simp only [ev0, ev, evV, List.cons_append, List.nil_append, List.getD_cons_zero, List.getD_cons_succ, List.map_cons, List.map_nil, iOf, bOf, sOf, pOf, slLen, slBase, cmpI, arI, Value.ite_bool, int_beq, int_bne, ite_band, ite_bor, decide_eq_true_eq] at g
      have hrep : (Xp.mk 5 [] all dat0 [f.body.shw]).Rep K6 [.int .i64 5, txt [], .slice ab all.length ac, .int .i64 0, .int .i64 0, txt [], .slice none 0 0, .slice zb 1 zc] :=
        Xp.Rep_iff.2 ⟨_, _, _, rfl, (by decide : InI 5), Nat.zero_le _, s3.le (PH.le_trans l5 (PH.le_trans l7 h7.sh)), dat0_rep _, s7.le h7.sh⟩
      refine den_call cb_core_Free (CFree_tri _ _ K6 hrep (by simp only [Xp.bnd, Xps.bnd, List.append_nil, List.length_append]; omega) (by simp only [Xp.size, Xps.size]; omega)) ?_
      rintro x K8 ⟨v8, rfl, s8, l8⟩
      obtain ⟨b8, c8, rfl⟩ := s8.sl
      refine ⟨_, [.slice b8 _ c8], rfl, rfl, rfl, pendNil, _, lookup_hit, ?_, l8⟩
      simp only [ev0, ev, evV, List.cons_append, List.nil_append, List.getD_cons_zero, List.getD_cons_succ, List.map_cons, List.map_nil, iOf, bOf, sOf, pOf, slLen, slBase, cmpI, arI, Value.ite_bool, int_beq, int_bne, ite_band, ite_bor]
      rw [hfo, hnt, decide_eq_true (show f.params.length ≤ 6 by omega)]
      simp only [Bool.true_and]
      congr 2
      rw [fr_lam, hfr, Bool.eq_iff_iff, decide_eq_true_eq, List.isEmpty_iff, ← freeS_nil]
      omega
    · simp only [ev0, ev, evV, List.cons_append, List.nil_append, List.getD_cons_zero, List.getD_cons_succ, List.map_cons, List.map_nil, iOf, bOf, sOf, pOf, slLen, slBase, cmpI, arI, Value.ite_bool, int_beq, int_bne, ite_band, ite_bor, decide_eq_false_iff_not] at g
      refine ⟨_, lookup_hit, ?_, PH.le_refl _⟩
      rw [hfo, hnt, decide_eq_false (show ¬ f.params.length ≤ 6 by omega)]
      rfl

/-! ### Check -/
mutual
theorem Xp.wi_size : ∀ (e : Xp) (d n : Nat), (e.wi d n).2 = true → e.size ≤ n ∧ (e.wi d n).1 = n - e.size
  | .mk k s ns dd l, d, n => by
    intro h
    rw [Xp.wi] at h ⊢
    split at h
    · cases h
    · rename_i hn
      rw [if_neg hn]
      obtain ⟨h1, h2⟩ := Xps.wi_size l _ _ h
      rw [Xp.size]
      exact ⟨by omega, by omega⟩
theorem Xps.wi_size : ∀ (l : List Xp) (d n : Nat), (Xps.wi l d n).2 = true → Xps.size l ≤ n ∧ (Xps.wi l d n).1 = n - Xps.size l
  | [], d, n => by simp [Xps.wi, Xps.size]
  | e :: l, d, n => by
    intro h
    rw [Xps.wi] at h ⊢
    split at h
    · rename_i h1
      rw [if_pos h1]
      obtain ⟨g1, g2⟩ := Xp.wi_size e d n h1
      obtain ⟨g3, g4⟩ := Xps.wi_size l _ _ h
      rw [Xps.size]
      exact ⟨by omega, by omega⟩
    · cases h
end
theorem take_body {F : List FunX} {k : Nat} {f : FunX} (h : F[k]? = some f) : (F.take (k + 1)).map (·.body) = (F.take k).map (·.body) ++ [f.body] := by
  rw [List.take_add_one, h, List.map_append]; rfl
theorem sizes_take (F : List FunX) (k : Nat) : Xps.size ((F.take k).map (·.body)) ≤ Xps.size (F.map (·.body)) := by
  have := Xps.size_append ((F.take k).map (·.body)) ((F.drop k).map (·.body))
  rw [← List.map_append, List.take_append_drop] at this
  omega
theorem any_ne (N : Nat) (C : List Int) : (nmOf N C).any (fun k => decide (k ≠ 1)) = true ↔ ¬ ∀ j : Nat, j < N → C.count (j : Int) = 1 := by
  rw [List.any_eq_true]
  constructor
  · rintro ⟨x, hx, h1⟩ h2
    unfold nmOf at hx
    obtain ⟨j, hj, rfl⟩ := List.mem_map.1 hx
    rw [List.mem_range] at hj
    have := h2 j hj
    simp only [decide_eq_true_eq] at h1
    omega
  · intro h
    obtain ⟨j, hj⟩ := Classical.not_forall.1 h
    obtain ⟨h1, h2⟩ := Classical.not_imp.1 hj
    exact ⟨_, List.mem_of_getElem? (nmOf_get h1), by simp only [decide_eq_true_eq]; omega⟩
def InvL (l : LifX) (k : Nat) (bd : Bool) (C : List Int) : Prop :=
  (bd = true → ¬ GoodL l) ∧ (bd = false → (∀ x ∈ l.main.clos l.funs, 0 ≤ x) ∧ (∀ (j : Nat) f, j < k → l.funs[j]? = some f → AtI l.funs j f.body ∧ funOk f = true) ∧ C = l.main.clos l.funs ++ (l.funs.take k).flatMap fun f => f.body.clos l.funs) ∧ C.length ≤ l.main.size + Xps.size ((l.funs.take k).map (·.body))
set_option maxHeartbeats 8000000 in
theorem CheckL_gives (l : LifX) (hL : FitL l) (ls : List Value) (S : PH) (hls : CsR S l ls) : Gives Tryz.prog n_lift_Check [.agg ls.toArray] S (.int .i64 (chkL l)) := by
  obtain ⟨hL1, hL2, hL3⟩ := hL
  have hls' := hls
  obtain ⟨fv, bs, rfl, s1, r1⟩ := lif_iff.1 hls
  obtain ⟨fb, fc, rfl⟩ := s1.sl
  have r1' := r1
  obtain ⟨p1, p2, p3, p4, p5, p6, rfl, _⟩ := Xp.Rep.open r1
  refine tri_lift_Check (.slice fb l.funs.length fc :: exVs l.main p1 p2 p3 p4 p5 p6) (by kernel_rfl) (by kernel_rfl) ?_
  refine den_hMake (n := l.funs.length) (0 : Int) rfl (fun S => int_cs (by decide)) uIntsL oneInt (by kernel_rfl) (by kernel_rfl) (by simp only [maxLen]; omega) (by omega) (Held.nil (PH.le_refl S)) fun nv K1 h1 _ => ?_
  rw [← nmOf_nil] at h1
  obtain ⟨vb, vc, hnv⟩ := (h1.row (List.mem_cons_self ..)).sl
  rw [nmOf_len] at hnv
  subst hnv
  refine den_bxNew (vs := .slice fb l.funs.length fc :: exVs l.main p1 p2 p3 p4 p5 p6 ++ [.int .i64 ((0 : Nat) : Int), .bool false, .bool false, .slice vb l.funs.length vc]) h1 (by kernel_rfl) fun r K2 _ h2 => ?_
  refine ⟨fun g => ?_, fun g => ?_⟩
  · simp only [ev0, ev, evV, List.cons_append, List.nil_append, List.getD_cons_zero, List.getD_cons_succ, List.map_cons, List.map_nil, iOf, bOf, sOf, pOf, slLen, slBase, cmpI, arI, Value.ite_bool, int_beq, int_bne, ite_band, ite_bor, decide_eq_true_eq] at g
    refine ⟨?_, h2.sh⟩
    unfold chkL
    rw [if_pos (by omega)]; rfl
  simp only [ev0, ev, evV, List.cons_append, List.nil_append, List.getD_cons_zero, List.getD_cons_succ, List.map_cons, List.map_nil, iOf, bOf, sOf, pOf, slLen, slBase, cmpI, arI, Value.ite_bool, int_beq, int_bne, ite_band, ite_bor, decide_eq_false_iff_not] at g
  have h2 : Held S K2 [ckB r 51 (.slice fb l.funs.length fc) (.int .i64 l.main.kind) (txt l.main.name) (.slice p1 l.main.names.length p4) (.int .i64 l.main.const.kind) (.int .i64 l.main.const.int) (txt l.main.const.text) (.slice p2 l.main.const.list.length p5) (.slice p3 l.main.kids.length p6) 0 false false (.slice vb l.funs.length vc), orow 3 (nmOf l.funs.length []) (.slice vb l.funs.length vc)] := h2
  have hct := fun (e : Xp) (m : Nat) (dp : Bool) (cs : List Value) (K : PH) (h : Held S K [ckB r 51 (.slice fb l.funs.length fc) (.int .i64 l.main.kind) (txt l.main.name) (.slice p1 l.main.names.length p4) (.int .i64 l.main.const.kind) (.int .i64 l.main.const.int) (txt l.main.const.text) (.slice p2 l.main.const.list.length p5) (.slice p3 l.main.kids.length p6) m dp false (.slice vb l.funs.length vc), orow 3 (nmOf l.funs.length []) (.slice vb l.funs.length vc)]) (he : e.Rep S cs) (hf : e.fit) (hm : m ≤ 900000000) =>
    Held.call (P := Tryz.prog) (f := n_lift_checker__count) (args := #[pAt r, .agg cs.toArray, .int .i64 ((1 : Nat) : Int)]) (J := [ckB r 51 (.slice fb l.funs.length fc) (.int .i64 l.main.kind) (txt l.main.name) (.slice p1 l.main.names.length p4) (.int .i64 l.main.const.kind) (.int .i64 l.main.const.int) (txt l.main.const.text) (.slice p2 l.main.const.list.length p5) (.slice p3 l.main.kids.length p6) m dp false (.slice vb l.funs.length vc)]) (I := [orow 3 (nmOf l.funs.length []) (.slice vb l.funs.length vc)])
      (R := fun x S' J' => S' = S ∧ ∃ m' dp', x = .returned (.tuple #[]) ∧ J' = [ckB r 51 (.slice fb l.funs.length fc) (.int .i64 l.main.kind) (txt l.main.name) (.slice p1 l.main.names.length p4) (.int .i64 l.main.const.kind) (.int .i64 l.main.const.int) (txt l.main.const.text) (.slice p2 l.main.const.list.length p5) (.slice p3 l.main.kids.length p6) m' dp' false (.slice vb l.funs.length vc)] ∧ CntE e 1 m dp m' dp') h
      (fun K' hK => (count_tri r _ _ _ _ _ _ _ _ _ _ false _ e 1 m dp cs S K' hK he hf (by omega) hm).mono fun x K'' ⟨m', dp', q1, q2, q3⟩ => ⟨S, _, PH.le_refl S, q2, rfl, m', dp', q1, rfl, q3⟩)
  refine den_call cb_lift_checker__count (hct l.main 0 false _ K2 h2 r1' hL2 (by omega)) ?_
  rintro x K3 ⟨S3, J3, _, h3, rfl, m1, dp1, rfl, rfl, c3⟩
  refine ⟨_, [], rfl, rfl, rfl, pendNil, ?_⟩
  have hnb0 : ¬ Bad 0 false := by rintro (h | h); cases h; omega
  have hw1 : Xps.wi [l.main] 1 4096 = l.main.wi 1 4096 := by
    have := Xps.wi_snoc l.main [] 1 4096
    simpa [Xps.wi] using this
  refine ⟨fun n vs K' => ∃ (k mk : Nat) (dk : Bool), vs = [.int .i64 k] ∧ k + n = l.funs.length ∧ Held S3 K' [ckB r 51 (.slice fb l.funs.length fc) (.int .i64 l.main.kind) (txt l.main.name) (.slice p1 l.main.names.length p4) (.int .i64 l.main.const.kind) (.int .i64 l.main.const.int) (txt l.main.const.text) (.slice p2 l.main.const.list.length p5) (.slice p3 l.main.kids.length p6) mk dk false (.slice vb l.funs.length vc), orow 3 (nmOf l.funs.length []) (.slice vb l.funs.length vc)] ∧ CntR (Xps.wi (l.main :: (l.funs.take k).map (·.body)) 1 4096) (5000 + 251 * 1048577 + k) mk dk,
    ⟨l.funs.length, 0, m1, dp1, rfl, by omega, h3, by simp only [List.take_zero, List.map_nil, hw1]; exact c3.2 hnb0⟩, ?_⟩
  rintro n vs K4 _ ⟨k, mk, dk, rfl, hkn, h4, c4⟩
  have hlt := hL1
  refine ⟨fun g4 => ?_, fun g4 => ?_⟩
  · simp only [ev0, ev, evV, List.cons_append, List.nil_append, List.getD_cons_zero, List.getD_cons_succ, List.map_cons, List.map_nil, iOf, bOf, sOf, pOf, slLen, slBase, cmpI, arI, Value.ite_bool, int_beq, int_bne, ite_band, ite_bor, decide_eq_true_eq] at g4
    obtain ⟨f, hf⟩ : ∃ f, l.funs[k]? = some f := ⟨_, List.getElem?_eq_getElem (show k < l.funs.length by omega)⟩
    obtain ⟨q1, _, ces, q2, q3⟩ := s1.get hf
    obtain ⟨pv, rv, bs, rfl, d1, d2, d3⟩ := fun_iff.1 q2
    obtain ⟨a1, a2, rfl⟩ := d1.sl
    obtain ⟨a3, a4, rfl⟩ := d2.sl
    have d3' := d3
    obtain ⟨w1, w2, w3, w4, w5, w6, rfl, _⟩ := Xp.Rep.open d3
    have hfm := hL3 f (List.mem_of_getElem? hf)
    have hmk : mk ≤ 900000000 := by
      cases hw : (Xps.wi (l.main :: (l.funs.take k).map (·.body)) 1 4096).2
      · have := (c4.no hw).2; omega
      · have := (c4.yes hw).2; omega
    refine ⟨fun _ => ?_, .slice a1 f.params.length a2 :: .slice a3 f.frees.length a4 :: exVs f.body w1 w2 w3 w4 w5 w6, rfl, by simp only [ev0, ev, evV, List.cons_append, List.nil_append, List.getD_cons_zero, List.getD_cons_succ, List.map_cons, List.map_nil, iOf, bOf, sOf, pOf, slLen, slBase, cmpI, arI, Value.ite_bool, int_beq, int_bne, ite_band, ite_bor]; exact rowAt_le h4.sh q3, ?_⟩
    · simp only [Chk.holds, ev0, ev, evV, List.cons_append, List.nil_append, List.getD_cons_zero, List.getD_cons_succ, List.map_cons, List.map_nil, iOf, bOf, sOf, pOf, slLen, slBase, cmpI, arI, Value.ite_bool, int_beq, int_bne, ite_band, ite_bor]; exact ⟨q1, by omega, by omega⟩
    refine den_call cb_lift_checker__count (hct f.body mk dk _ K4 h4 d3' hfm.2.2 hmk) ?_
    rintro x K5 ⟨S5, J5, _, h5, rfl, m5, dp5, rfl, rfl, c5⟩
    refine ⟨_, [], rfl, rfl, rfl, pendNil, _, lookup_hit, n - 1, by omega, k + 1, m5, dp5, ?_, by omega, h5, ?_⟩
    · simp only [ev0, ev, evV, List.cons_append, List.nil_append, List.getD_cons_zero, List.getD_cons_succ, List.map_cons, List.map_nil, iOf, bOf, sOf, pOf, slLen, slBase, cmpI, arI, Value.ite_bool, int_beq, int_bne, ite_band, ite_bor, List.append_nil]
      rw [w64 (by omega) (by omega)]
      rfl
    · rw [take_body hf, ← List.cons_append, Xps.wi_snoc]
      cases hw : (Xps.wi (l.main :: (l.funs.take k).map (·.body)) 1 4096).2
      · obtain ⟨b1, b2⟩ := c4.no hw
        obtain ⟨b3, b4⟩ := c5.1 b1
        simp only [Bool.false_eq_true, if_false]
        exact ⟨fun h => (by cases h), fun _ => ⟨b3, by omega⟩⟩
      · obtain ⟨b1, b2⟩ := c4.yes hw
        simp only [if_true]
        have hnb5 : ¬ Bad mk dk := by rintro (h | h); rw [b1] at h; cases h; omega
        have c6 := c5.2 hnb5
        have e6 : 4096 - mk = (Xps.wi (l.main :: (l.funs.take k).map (·.body)) 1 4096).1 := by omega
        rw [e6] at c6
        exact ⟨c6.yes, fun h => ⟨(c6.no h).1, by have := (c6.no h).2; omega⟩⟩
  simp only [ev0, ev, evV, List.cons_append, List.nil_append, List.getD_cons_zero, List.getD_cons_succ, List.map_cons, List.map_nil, iOf, bOf, sOf, pOf, slLen, slBase, cmpI, arI, Value.ite_bool, int_beq, int_bne, ite_band, ite_bor, decide_eq_false_iff_not] at g4
  obtain rfl : k = l.funs.length := by omega
  rw [List.take_length] at c4
  have hbad : (dk || decide ((mk : Int) > 4096)) = !sizeL l := by
    unfold sizeL
    cases hw : (Xps.wi (l.main :: l.funs.map (·.body)) 1 4096).2
    · rcases (c4.no hw).1 with h | h
      · rw [h]; rfl
      · rw [decide_eq_true (show (mk : Int) > 4096 by omega), Bool.or_true]; rfl
    · obtain ⟨h, h'⟩ := c4.yes hw
      rw [h, decide_eq_false (show ¬ (mk : Int) > 4096 by omega)]; rfl
  refine ⟨fun vs K' => vs = [.bool (!sizeL l)] ∧ K' = K4, ?_, ?_⟩
  rotate_left
  · refine ⟨fun _ => rfl, ?_⟩
    refine den_bxLoad [.bool dk] (off := 10) (by kernel_rfl) h4 (List.mem_cons_self ..) rfl rfl ?_
    refine ⟨fun g5 => ?_, fun g5 => ?_⟩
    · simp only [ev0, ev, evV, List.cons_append, List.nil_append, List.getD_cons_zero, List.getD_cons_succ, List.map_cons, List.map_nil, iOf, bOf, sOf, pOf, slLen, slBase, cmpI, arI, Value.ite_bool, int_beq, int_bne, ite_band, ite_bor] at g5
      refine ⟨_, lookup_hit, ?_, rfl⟩
      rw [← hbad, g5]; rfl
    · simp only [ev0, ev, evV, List.cons_append, List.nil_append, List.getD_cons_zero, List.getD_cons_succ, List.map_cons, List.map_nil, iOf, bOf, sOf, pOf, slLen, slBase, cmpI, arI, Value.ite_bool, int_beq, int_bne, ite_band, ite_bor] at g5
      refine den_bxLoad [.int .i64 (mk : Int)] (off := 9) (by kernel_rfl) h4 (List.mem_cons_self ..) rfl rfl ?_
      refine ⟨_, lookup_hit, ?_, rfl⟩
      rw [← hbad, g5]
      simp only [ev0, ev, evV, List.cons_append, List.nil_append, List.getD_cons_zero, List.getD_cons_succ, List.map_cons, List.map_nil, iOf, bOf, sOf, pOf, slLen, slBase, cmpI, arI, Value.ite_bool, int_beq, int_bne, ite_band, ite_bor, Bool.false_or]
  rintro vs K5 _ ⟨rfl, rfl⟩
  refine ⟨fun g5 => ?_, fun g5 => ?_⟩
  · simp only [ev0, ev, evV, List.cons_append, List.nil_append, List.getD_cons_zero, List.getD_cons_succ, List.map_cons, List.map_nil, iOf, bOf, sOf, pOf, slLen, slBase, cmpI, arI, Value.ite_bool, int_beq, int_bne, ite_band, ite_bor, Bool.not_eq_true'] at g5
    refine ⟨?_, h4.sh⟩
    unfold chkL
    rw [if_neg (by omega), if_pos g5]; rfl
  simp only [ev0, ev, evV, List.cons_append, List.nil_append, List.getD_cons_zero, List.getD_cons_succ, List.map_cons, List.map_nil, iOf, bOf, sOf, pOf, slLen, slBase, cmpI, arI, Value.ite_bool, int_beq, int_bne, ite_band, ite_bor, Bool.not_eq_false'] at g5
  have hsize := (Xps.wi_size _ _ _ g5).1
  rw [Xps.size] at hsize
  have hchk : chkL l = open Classical in if GoodL l then 0 else 100 := by
    unfold chkL
    rw [if_neg (by omega), if_neg (by simp [g5])]
  refine den_call cb_lift_checker__body (body_tri l r _ fb fc _ _ _ _ _ _ _ _ mk dk _ (-1) (by omega) l.main _ false [] S3 K5 (by simp only [List.length_nil]; omega) s1 h4 r1') ?_
  rintro x K6 ⟨rfl, h6⟩
  refine ⟨_, [], rfl, rfl, rfl, pendNil, ?_⟩
  refine ⟨fun n vs K' => ∃ (k : Nat) (bd : Bool) (C : List Int), vs = [.int .i64 k] ∧ k + n = l.funs.length ∧ InvL l k bd C ∧ Held S3 K' [ckB r 51 (.slice fb l.funs.length fc) (.int .i64 l.main.kind) (txt l.main.name) (.slice p1 l.main.names.length p4) (.int .i64 l.main.const.kind) (.int .i64 l.main.const.int) (txt l.main.const.text) (.slice p2 l.main.const.list.length p5) (.slice p3 l.main.kids.length p6) mk dk bd (.slice vb l.funs.length vc), orow 3 (nmOf l.funs.length C) (.slice vb l.funs.length vc)],
    ⟨l.funs.length, 0, _, _, rfl, by omega, ?_, h6⟩, ?_⟩
  · have hcl := Xp.clos_len l.funs l.main
    refine ⟨fun hb hg => ?_, fun hb => ⟨?_, fun j f hj => absurd hj (by omega), ?_⟩, ?_⟩
    · simp only [Bool.false_or, List.any_eq_true, decide_eq_true_eq] at hb
      obtain ⟨x, hx, hx1⟩ := hb
      have := hg.main x hx
      omega
    · simp only [Bool.false_or, List.any_eq_false, decide_eq_true_eq] at hb
      intro x hx
      have := hb x hx
      omega
    · simp only [Bool.false_or, List.any_eq_false, decide_eq_true_eq] at hb
      simp only [List.nil_append, List.take_zero, List.flatMap_nil, List.append_nil]
      refine List.filter_eq_self.2 fun x hx => ?_
      have := hb x hx
      rw [decide_eq_true_eq]; omega
    · rw [List.nil_append]
      have := List.length_filter_le (fun x => decide ((-1 : Int) < x)) (l.main.clos l.funs)
      omega
  rintro n vs K7 _ ⟨k, bd, C, rfl, hkn7, hinv, h7⟩
  refine ⟨fun g7 => ?_, fun g7 => ?_⟩
  · simp only [ev0, ev, evV, List.cons_append, List.nil_append, List.getD_cons_zero, List.getD_cons_succ, List.map_cons, List.map_nil, iOf, bOf, sOf, pOf, slLen, slBase, cmpI, arI, Value.ite_bool, int_beq, int_bne, ite_band, ite_bor, decide_eq_true_eq] at g7
    obtain ⟨f, hf⟩ : ∃ f, l.funs[k]? = some f := ⟨_, List.getElem?_eq_getElem (show k < l.funs.length by omega)⟩
    obtain ⟨q1, _, ces, q2, q3⟩ := s1.get hf
    obtain ⟨pv, rv, bs, rfl, d1, d2, d3⟩ := fun_iff.1 q2
    obtain ⟨a1, a2, rfl⟩ := d1.sl
    obtain ⟨a3, a4, rfl⟩ := d2.sl
    have d3' := d3
    obtain ⟨w1, w2, w3, w4, w5, w6, rfl, _⟩ := Xp.Rep.open d3
    have hfm := hL3 f (List.mem_of_getElem? hf)
    have hst := sizes_take l.funs k
    have hst1 := sizes_take l.funs (k + 1)
    rw [take_body hf, Xps.size_append] at hst1
    simp only [Xps.size, Nat.add_zero] at hst1
    have hclb := Xp.clos_len l.funs f.body
    have hfil := List.length_filter_le (fun x => decide ((k : Int) < x)) (f.body.clos l.funs)
    refine ⟨fun vs K' => ∃ (bd : Bool) (C : List Int), vs = [] ∧ InvL l (k + 1) bd C ∧ Held S3 K' [ckB r 51 (.slice fb l.funs.length fc) (.int .i64 l.main.kind) (txt l.main.name) (.slice p1 l.main.names.length p4) (.int .i64 l.main.const.kind) (.int .i64 l.main.const.int) (txt l.main.const.text) (.slice p2 l.main.const.list.length p5) (.slice p3 l.main.kids.length p6) mk dk bd (.slice vb l.funs.length vc), orow 3 (nmOf l.funs.length C) (.slice vb l.funs.length vc)], ?_, ?_⟩
    · rintro vs K8 _ ⟨bd8, C8, rfl, inv8, h8⟩
      refine ⟨_, lookup_hit, n - 1, by omega, k + 1, bd8, C8, ?_, by omega, inv8, h8⟩
      simp only [ev0, ev, evV, List.cons_append, List.nil_append, List.getD_cons_zero, List.getD_cons_succ, List.map_cons, List.map_nil, iOf, bOf, sOf, pOf, slLen, slBase, cmpI, arI, Value.ite_bool, int_beq, int_bne, ite_band, ite_bor, List.append_nil]
      rw [w64 (by omega) (by omega)]
      rfl
    refine ⟨fun _ => ?_, .slice a1 f.params.length a2 :: .slice a3 f.frees.length a4 :: exVs f.body w1 w2 w3 w4 w5 w6, rfl, by simp only [ev0, ev, evV, List.cons_append, List.nil_append, List.getD_cons_zero, List.getD_cons_succ, List.map_cons, List.map_nil, iOf, bOf, sOf, pOf, slLen, slBase, cmpI, arI, Value.ite_bool, int_beq, int_bne, ite_band, ite_bor]; exact rowAt_le h7.sh q3, ?_⟩
    · simp only [Chk.holds, ev0, ev, evV, List.cons_append, List.nil_append, List.getD_cons_zero, List.getD_cons_succ, List.map_cons, List.map_nil, iOf, bOf, sOf, pOf, slLen, slBase, cmpI, arI, Value.ite_bool, int_beq, int_bne, ite_band, ite_bor]; exact ⟨q1, by omega, by omega⟩
    have hinv3 := hinv.2.2
    refine den_call cb_lift_checker__body (body_tri l r _ fb fc _ _ _ _ _ _ _ _ mk dk _ (k : Int) (by omega) f.body _ bd C S3 K7 (by omega) s1 h7 d3') ?_
    rintro x K8 ⟨rfl, h8⟩
    have hC8 : (C ++ (f.body.clos l.funs).filter fun x => decide ((k : Int) < x)).length ≤ l.main.size + Xps.size ((l.funs.take (k + 1)).map (·.body)) := by
      rw [take_body hf, Xps.size_append, List.length_append]
      simp only [Xps.size, Nat.add_zero]
      omega
    refine ⟨_, [], rfl, rfl, rfl, pendNil, fun _ => rfl, ?_⟩
    refine den_bxLoad [.bool (bd || (f.body.clos l.funs).any fun x => decide (x ≤ (k : Int)))] (off := 11) (by kernel_rfl) h8 (List.mem_cons_self ..) rfl rfl ?_
    refine ⟨fun g8 => ?_, fun g8 => ?_⟩
    · simp only [ev0, ev, evV, List.cons_append, List.nil_append, List.getD_cons_zero, List.getD_cons_succ, List.map_cons, List.map_nil, iOf, bOf, sOf, pOf, slLen, slBase, cmpI, arI, Value.ite_bool, int_beq, int_bne, ite_band, ite_bor] at g8
      refine den_bxStore (off := 11) (vs := [.bool true]) (by kernel_rfl) h8 (by kernel_rfl) (by simp [oneC]) (by simp) fun K9 h9 => ?_
      refine ⟨_, lookup_hit, true, _, rfl, ⟨fun _ hg => ?_, fun h => (by cases h), hC8⟩, h9⟩
      rw [Bool.or_eq_true] at g8
      rcases g8 with g8 | g8
      · exact hinv.1 g8 hg
      · obtain ⟨x, hx, hx1⟩ := List.any_eq_true.1 g8
        have := (hg.fn k f hf).1 x hx
        rw [decide_eq_true_eq] at hx1
        omega
    · simp only [ev0, ev, evV, List.cons_append, List.nil_append, List.getD_cons_zero, List.getD_cons_succ, List.map_cons, List.map_nil, iOf, bOf, sOf, pOf, slLen, slBase, cmpI, arI, Value.ite_bool, int_beq, int_bne, ite_band, ite_bor] at g8
      rw [Bool.or_eq_false_iff] at g8
      have hat : AtI l.funs (k : Int) f.body := by
        intro x hx
        have := (List.any_eq_false.1 g8.2) x hx
        rw [decide_eq_true_eq] at this
        omega
      refine den_gives [.bool (funOk f)] cb_lift_within (Gives.up h8.sh (within_gives l f _ _ S3 (k : Int) (by omega) hls' q2 hfm.1 hfm.2.1 hfm.2.2 (by omega) hat)) rfl pendNil fun K9 l9 => ?_
      refine den_bxStore (off := 11) (vs := [.bool (!funOk f)]) (by kernel_rfl) (h8.le l9) (by kernel_rfl) (by simp [oneC]) (by simp) fun K10 h10 => ?_
      refine ⟨_, lookup_hit, !funOk f, _, rfl, ⟨fun hb hg => ?_, fun hb => ⟨(hinv.2.1 g8.1).1, fun j f' hj hf' => ?_, ?_⟩, hC8⟩, h10⟩
      · have := (hg.fn k f hf).2
        rw [this] at hb; cases hb
      · by_cases hjk : j = k
        · subst hjk
          rw [hf] at hf'; cases hf'
          exact ⟨hat, by simpa using hb⟩
        · exact (hinv.2.1 g8.1).2.1 j f' (by omega) hf'
      · have hfe : ((f.body.clos l.funs).filter fun x => decide ((k : Int) < x)) = f.body.clos l.funs := List.filter_eq_self.2 fun x hx => decide_eq_true (hat x hx)
        rw [hfe, List.take_add_one, hf, List.flatMap_append, (hinv.2.1 g8.1).2.2]
        simp
  simp only [ev0, ev, evV, List.cons_append, List.nil_append, List.getD_cons_zero, List.getD_cons_succ, List.map_cons, List.map_nil, iOf, bOf, sOf, pOf, slLen, slBase, cmpI, arI, Value.ite_bool, int_beq, int_bne, ite_band, ite_bor, decide_eq_false_iff_not] at g7
  obtain rfl : k = l.funs.length := by omega
  refine ⟨fun vs K' => ∃ b : Bool, vs = [.bool b] ∧ (b = true ↔ ¬ GoodL l) ∧ PH.le S3 K', ?_, fun _ => rfl, ?_⟩
  · rintro vs K8 _ ⟨b, rfl, hb, l8⟩
    refine ⟨fun g8 => ?_, fun g8 => ?_⟩
    · simp only [ev0, ev, evV, List.cons_append, List.nil_append, List.getD_cons_zero, List.getD_cons_succ, List.map_cons, List.map_nil, iOf, bOf, sOf, pOf, slLen, slBase, cmpI, arI, Value.ite_bool, int_beq, int_bne, ite_band, ite_bor] at g8
      refine ⟨?_, l8⟩
      rw [hchk, if_neg (hb.1 g8)]; rfl
    · simp only [ev0, ev, evV, List.cons_append, List.nil_append, List.getD_cons_zero, List.getD_cons_succ, List.map_cons, List.map_nil, iOf, bOf, sOf, pOf, slLen, slBase, cmpI, arI, Value.ite_bool, int_beq, int_bne, ite_band, ite_bor] at g8
      refine ⟨?_, l8⟩
      rw [hchk, if_pos (Classical.not_not.1 fun h => by rw [hb.2 h] at g8; cases g8)]; rfl
  refine den_bxLoad [.bool bd] (off := 11) (by kernel_rfl) h7 (List.mem_cons_self ..) rfl rfl ?_
  refine ⟨fun g8 => ?_, fun g8 => ?_⟩
  · simp only [ev0, ev, evV, List.cons_append, List.nil_append, List.getD_cons_zero, List.getD_cons_succ, List.map_cons, List.map_nil, iOf, bOf, sOf, pOf, slLen, slBase, cmpI, arI, Value.ite_bool, int_beq, int_bne, ite_band, ite_bor] at g8
    exact ⟨_, lookup_hit, true, rfl, ⟨fun _ => hinv.1 g8, fun _ => rfl⟩, h7.sh⟩
  simp only [ev0, ev, evV, List.cons_append, List.nil_append, List.getD_cons_zero, List.getD_cons_succ, List.map_cons, List.map_nil, iOf, bOf, sOf, pOf, slLen, slBase, cmpI, arI, Value.ite_bool, int_beq, int_bne, ite_band, ite_bor] at g8
  obtain ⟨i1, i2, i3⟩ := hinv.2.1 g8
  rw [List.take_length] at i3
  have hCa : C = allC l := i3
  have hFO : FunsOk l.funs := fun j f hf => i2 j f (List.getElem?_eq_some_iff.1 hf).1 hf
  have hAM : AtI l.funs (-1) l.main := fun x hx => by have := i1 x hx; omega
  refine den_bxLoad [.slice vb l.funs.length vc] (off := 12) (by kernel_rfl) h7 (List.mem_cons_self ..) rfl rfl ?_
  have hrow7 := (h7.row (List.mem_cons_of_mem _ (List.mem_cons_self ..))).slR h7.sh
  refine den_gives [.bool ((nmOf l.funs.length C).any fun k => decide (k ≠ 1))] cb_slices_ContainsFunc___int_int_ (AnyNotOne_gives _ _ K7 hrow7) rfl pendNil fun K8 l8 => ⟨fun g9 => ?_, fun g9 => ?_⟩
  · simp only [ev0, ev, evV, List.cons_append, List.nil_append, List.getD_cons_zero, List.getD_cons_succ, List.map_cons, List.map_nil, iOf, bOf, sOf, pOf, slLen, slBase, cmpI, arI, Value.ite_bool, int_beq, int_bne, ite_band, ite_bor] at g9
    refine ⟨_, lookup_hit, true, rfl, ⟨fun _ hg => ?_, fun _ => rfl⟩, PH.le_trans h7.sh l8⟩
    rw [hCa] at g9
    exact (any_ne _ _).1 g9 hg.once
  simp only [ev0, ev, evV, List.cons_append, List.nil_append, List.getD_cons_zero, List.getD_cons_succ, List.map_cons, List.map_nil, iOf, bOf, sOf, pOf, slLen, slBase, cmpI, arI, Value.ite_bool, int_beq, int_bne, ite_band, ite_bor] at g9
  have honce : ∀ j : Nat, j < l.funs.length → (allC l).count (j : Int) = 1 := by
    rw [hCa] at g9
    exact Classical.not_not.1 fun h => by rw [(any_ne _ _).2 h] at g9; cases g9
  have h8 := h7.le l8
  refine den_call cb_lift_shown (h8.pure (shown_tri l.main _ S3 r1' hL2)) ?_
  rintro x K9 ⟨S9, l9, h9, es, rfl, r9⟩
  have ht9 := Xp.Rep.tags r9
  have r9' := r9
  obtain ⟨z1, z2, z3, z4, z5, z6, rfl, _⟩ := Xp.Rep.open r9'
  refine ⟨_, _, rfl, ht9, rfl, pendNil, ?_⟩
  have hss := shw_size l.main hL2
  refine den_call cb_core_Free (h9.pure (R := fun x S' => ∃ v, x = .returned v ∧ SlR S' (freeS (l.main.shw.fr [])) v) ((CFree_tri l.main.shw _ S9 r9 (by omega) (by omega)).mono fun x S' ⟨v, q1, q2, q3⟩ => ⟨q3, v, q1, q2⟩)) ?_
  rintro x K10 ⟨S10, l10, h10, v10, rfl, s10⟩
  obtain ⟨b10, c10, rfl⟩ := s10.sl
  rw [fr_shw (by omega) l.main hAM] at s10 ⊢
  refine ⟨_, [.slice b10 (freeS (l.main.fr14 [])).length c10], rfl, rfl, rfl, pendNil, fun g10 => ?_, fun g10 => ?_⟩
  · simp only [ev0, ev, evV, List.cons_append, List.nil_append, List.getD_cons_zero, List.getD_cons_succ, List.map_cons, List.map_nil, iOf, bOf, sOf, pOf, slLen, slBase, cmpI, arI, Value.ite_bool, int_beq, int_bne, ite_band, ite_bor, decide_eq_true_eq] at g10
    refine ⟨_, lookup_hit, true, rfl, ⟨fun _ hg => ?_, fun _ => rfl⟩, PH.le_trans l9 (PH.le_trans l10 h10.sh)⟩
    have := (freeS_nil _).2 hg.free
    omega
  simp only [ev0, ev, evV, List.cons_append, List.nil_append, List.getD_cons_zero, List.getD_cons_succ, List.map_cons, List.map_nil, iOf, bOf, sOf, pOf, slLen, slBase, cmpI, arI, Value.ite_bool, int_beq, int_bne, ite_band, ite_bor, decide_eq_false_iff_not] at g10
  have hfree : l.main.fr14 [] = [] := (freeS_nil _).1 (by omega)
  have l910 := PH.le_trans l9 l10
  refine den_call cb_lift_lower (h10.pure (lower_tri l hFO ⟨hL1, hL2, hL3⟩ (-1) l.main (by omega) hAM hL2 S10 _ _ (PV.RepRow.le l910 hls') (Xp.Rep.le l910 _ r1'))) ?_
  rintro x K11 ⟨S11, l11, h11, es, rfl, r11⟩
  have ht11 := Xp.Rep.tags r11
  have r11' := r11
  obtain ⟨y1, y2, y3, y4, y5, y6, rfl, _⟩ := Xp.Rep.open r11'
  refine ⟨_, _, rfl, ht11, rfl, pendNil, ?_⟩
  refine den_gives [.int .i64 ((lowN l.funs l.main).chk true 0 0).2] cb_core_Check (CCheckF_gives _ _ K11 (Xp.Rep.le h11.sh _ r11)) rfl pendNil fun K12 l12 => ⟨_, lookup_hit, decide (((lowN l.funs l.main).chk true 0 0).2 ≠ 0), ?_, ?_, PH.le_trans l910 (PH.le_trans l11 (PH.le_trans h11.sh l12))⟩
  · simp only [ev0, ev, evV, List.cons_append, List.nil_append, List.getD_cons_zero, List.getD_cons_succ, List.map_cons, List.map_nil, iOf, bOf, sOf, pOf, slLen, slBase, cmpI, arI, Value.ite_bool, int_beq, int_bne, ite_band, ite_bor, ne_eq]
  · rw [decide_eq_true_eq]
    constructor
    · intro h hg; exact h hg.ok
    · intro h hc
      exact h ⟨i1, fun j f hf => hFO j f hf, honce, hfree, hc⟩

/-! ### Lower -/
set_option maxHeartbeats 2000000 in
theorem LowerL_tri (l : LifX) (hL : FitL l) (ls : List Value) (S : PH) (hls : CsR S l ls) : Tri Tryz.prog n_lift_Lower #[.agg ls.toArray] S fun x S' => PH.le S S' ∧ ∃ es : List Value, x = .returned (.tuple #[.agg es.toArray, .int .i64 (lowerL l).2]) ∧ (lowerL l).1.Rep S' es := by
  have hls' := hls
  obtain ⟨fv, bs, rfl, s1, r1⟩ := lif_iff.1 hls
  obtain ⟨fb, fc, rfl⟩ := s1.sl
  have r1' := r1
  obtain ⟨p1, p2, p3, p4, p5, p6, rfl, _⟩ := Xp.Rep.open r1
  refine tri_lift_Lower (.slice fb l.funs.length fc :: exVs l.main p1 p2 p3 p4 p5 p6) (by kernel_rfl) (by kernel_rfl) ?_
  refine den_gives [.int .i64 (chkL l)] cb_lift_Check (CheckL_gives l hL _ S hls') rfl pendNil fun K1 l1 => ⟨fun g => ?_, fun g => ?_⟩
  · simp only [ev0, ev, evV, List.cons_append, List.nil_append, List.getD_cons_zero, List.getD_cons_succ, List.map_cons, List.map_nil, iOf, bOf, sOf, pOf, slLen, slBase, cmpI, arI, Value.ite_bool, int_beq, int_bne, ite_band, ite_bor, decide_eq_true_eq] at g
    have hlow : lowerL l = (exZ, chkL l) := by unfold lowerL; rw [if_neg g]
    rw [hlow]
    exact ⟨l1, [.int .i64 0, txt [], .slice none 0 0, .int .i64 0, .int .i64 0, txt [], .slice none 0 0, .slice none 0 0], rfl, ex0_rep K1⟩
  · simp only [ev0, ev, evV, List.cons_append, List.nil_append, List.getD_cons_zero, List.getD_cons_succ, List.map_cons, List.map_nil, iOf, bOf, sOf, pOf, slLen, slBase, cmpI, arI, Value.ite_bool, int_beq, int_bne, ite_band, ite_bor, decide_eq_false_iff_not, ne_eq, Decidable.not_not] at g
    have hlow : lowerL l = (lowX l, 0) := by unfold lowerL; rw [if_pos g]
    have hg : GoodL l := by
      unfold chkL at g
      split at g
      · cases g
      · split at g
        · cases g
        · split at g
          · assumption
          · cases g
    rw [hlow]
    refine den_call cb_lift_lower (lower_tri l hg.funs hL (-1) l.main (by omega) hg.at hL.2.1 K1 _ _ (PV.RepRow.le l1 hls') (Xp.Rep.le l1 _ r1')) ?_
    rintro x K2 ⟨l2, es, rfl, r2⟩
    have ht2 := Xp.Rep.tags r2
    have r2' := r2
    obtain ⟨y1, y2, y3, y4, y5, y6, rfl, _⟩ := Xp.Rep.open r2'
    refine ⟨_, _, rfl, ht2, rfl, pendNil, ?_⟩
    have hok : ((lowN l.funs l.main).chk true 0 0).2 = 0 := hg.ok
    refine den_call cb_pass_Told (Told_tri _ _ K2 r2) ?_
    rintro x K3 ⟨l3, es, hes, rfl, r3⟩
    rw [if_pos hok] at r3 ⊢
    have ht3 := Xp.Rep.tags r3
    have r3' := r3
    obtain ⟨z1, z2, z3, z4, z5, z6, rfl, _⟩ := Xp.Rep.open r3'
    exact ⟨_, exVs (lowN l.funs l.main) z1 z2 z3 z4 z5 z6 ++ [.int .i64 0], rfl, rfl, rfl, pendNil, PH.le_trans l1 (PH.le_trans l2 l3), _, rfl, r3⟩
end Go.Proofs.YtibinelkmlcmgaaGreat.Vc
/-
  LIFT: Same, the fixed call, and LiftedTells.
-/
namespace Go.Proofs.YtibinelkmlcmgaaGreat.Vc
open Go

theorem ck_sc2 {P : Program} {S0 : PH} {f : FuncId} {p q : PV} {out : List PV} {sh : Sh} (hcb : callB P f = true) (h : ∀ (S : PH) (v w : Value), PH.le S0 S → p.Rep S v → q.Rep S w → Tri P f #[v, w] S fun e S' => ∃ us, e = .returned (sh.pack us) ∧ PV.RepRow S' out us ∧ PH.le S S') : CK.Ok P S0 ⟨f, [(false, [p]), (false, [q])], sh, out⟩ := by
  refine ⟨hcb, fun S vs hS hv => ?_⟩
  cases hv with
  | cons h1 h2 =>
    cases h2 with
    | cons h3 h4 =>
      cases h4
      obtain ⟨cs, h5, h6⟩ := h1
      obtain ⟨cs2, h7, h8⟩ := h3
      simp only [Bool.false_eq_true, if_false] at h6 h8
      subst h6 h8
      simp only [PV.RepRow] at h5 h7
      obtain ⟨v, vs, e1, h9, rfl⟩ := h5
      cases e1
      obtain ⟨w, ws, e2, h10, rfl⟩ := h7
      cases e2
      exact h S _ _ hS h9 h10
mutual
def Xp.liftP (fs : List FunX) : Xp → Xp × List FunX
  | .mk k s ns d l => if k = 5 then
      (cloX (putsT [] (Xp.fr [] (.mk k s ns d l))) fs.length, (Xps.lift1P (fs ++ [⟨ns, putsT [] (Xp.fr [] (.mk k s ns d l)), exZ⟩]) l).2.set fs.length ⟨ns, putsT [] (Xp.fr [] (.mk k s ns d l)), (Xps.lift1P (fs ++ [⟨ns, putsT [] (Xp.fr [] (.mk k s ns d l)), exZ⟩]) l).1⟩)
    else (.mk k s ns d (Xps.liftP fs l).1, (Xps.liftP fs l).2)
def Xps.lift1P (fs : List FunX) : List Xp → Xp × List FunX
  | [] => (exZ, fs)
  | e :: _ => Xp.liftP fs e
def Xps.liftP (fs : List FunX) : List Xp → List Xp × List FunX
  | [] => ([], fs)
  | e :: l => ((Xp.liftP fs e).1 :: (Xps.liftP (Xp.liftP fs e).2 l).1, (Xps.liftP (Xp.liftP fs e).2 l).2)
end
mutual
theorem Xp.liftP_eq : ∀ (e : Xp) (fs : List FunX), Xp.liftP fs e = Xp.lift fs e
  | .mk k s ns d l, fs => by simp only [Xp.liftP, Xp.lift, freeS_puts, Xps.lift1P_eq l, Xps.liftP_eq l]
theorem Xps.lift1P_eq : ∀ (l : List Xp) (fs : List FunX), Xps.lift1P fs l = Xps.lift1 fs l
  | [], fs => by simp only [Xps.lift1P, Xps.lift1]
  | e :: l, fs => by simp only [Xps.lift1P, Xps.lift1, Xp.liftP_eq e]
theorem Xps.liftP_eq : ∀ (l : List Xp) (fs : List FunX), Xps.liftP fs l = Xps.lift fs l
  | [], fs => by simp only [Xps.liftP, Xps.lift]
  | e :: l, fs => by simp only [Xps.liftP, Xps.lift, Xp.liftP_eq e, Xps.liftP_eq l]
end
def liftXP (e : Xp) : LifX × Int := if (decide ((e.chk true 0 0).2 = 0) && (putsT [] (e.fr [])).isEmpty && !e.any badK) = true then (⟨(Xp.liftP [] e).2, (Xp.liftP [] e).1⟩, 0) else (⟨[], exZ⟩, 100)
theorem liftXP_eq (e : Xp) : liftXP e = liftX e := by
  unfold liftXP liftX liftGood
  rw [freeS_puts, Xp.liftP_eq]
def refL (s : List UInt8) : Xp := .mk 1 s [] dat0 []
def plusL : Xp := .mk 7 [43] [] dat0 [refL [120], refL [121]]
def fixL : Xp := .mk 8 [] [[120]] dat0 [.mk 0 [] [] (.mk 1 1 [] []) [], .mk 5 [] [[121]] dat0 [.mk 5 [] [] dat0 [plusL]]]
theorem ck_refL {S0 : PH} (s : List UInt8) : CK.Ok Tryz.prog S0 ⟨n_scrimshawlaw14_fixed_1, [(false, [.str s])], .ag, (refL s).pv⟩ := by
  refine ck_sc cb_scrimshawlaw14_fixed_1 fun S v hS hv => ?_
  simp only [PV.Rep] at hv
  obtain ⟨rfl, hl⟩ := hv
  refine tri_scrimshawlaw14_fixed_1 [txt s] rfl rfl ?_
  refine ⟨[.int .i64 1, txt s, .slice none 0 0, .int .i64 0, .int .i64 0, txt [], .slice none 0 0, .slice none 0 0], rfl, ?_, PH.le_refl _⟩
  exact Xp.Rep_iff.2 ⟨_, _, _, rfl, (by decide : InI 1), hl, SlR.mk_iff.2 ⟨Nat.zero_le _, .inl ⟨rfl, rfl⟩⟩, dat0_rep S, SlR.mk_iff.2 ⟨Nat.zero_le _, .inl ⟨rfl, rfl⟩⟩⟩
theorem ck_lift {S0 : PH} (e : Xp) (c : Int) (hc : (liftXP e).2 = c) (hk : inK .i64 c = true) : CK.Ok Tryz.prog S0 ⟨n_lift_Lift, [(true, e.pv)], .tu [(true, 9), (false, 1)], Enc.pv (liftXP e).1 ++ [.int .i64 c]⟩ := by
  refine ck_ag cb_lift_Lift fun S cs hS hr => (CLiftTop_tri e cs S hr).mono ?_
  rintro x S' ⟨l1, ls, rfl, r1⟩
  rw [← liftXP_eq] at r1 ⊢
  rw [hc]
  have hl : ls.length = 9 := by have := PV.RepRow.length r1; rwa [Enc.len] at this
  refine ⟨ls ++ [.int .i64 c], ?_, PV.RepRow.append r1 (row1 (rep_int hk)), l1⟩
  simp only [Sh.pack, tuPackN]
  rw [← hl, List.take_left', List.drop_left']
  · rfl
  · rfl
  · rfl
theorem ck_texts {S0 : PH} (l : List (List UInt8)) : CK.Ok Tryz.prog S0 ⟨n_scrimshawref06_SameTexts, [(false, [slp l]), (false, [slp l])], .sc, [.bool true]⟩ :=
  ck_sc2 cb_scrimshawref06_SameTexts fun S v w hS hv hw => gives_ck (fun S' => by simp only [decide_true]; exact rep_bool S' true) (SameTexts_gives l l v w S hv hw)
def fixTab : List CK :=
  [⟨n_scrimshawlaw14_fixed_1, [(false, [.str [120]])], .ag, (refL [120]).pv⟩,
   ⟨n_scrimshawlaw14_fixed_1, [(false, [.str [121]])], .ag, (refL [121]).pv⟩,
   ⟨n_lift_Lift, [(true, fixL.pv)], .tu [(true, 9), (false, 1)], Enc.pv (liftXP fixL).1 ++ [.int .i64 0]⟩,
   ⟨n_lift_Lift, [(true, plusL.pv)], .tu [(true, 9), (false, 1)], Enc.pv (liftXP plusL).1 ++ [.int .i64 100]⟩,
   ⟨n_scrimshawref06_SameTexts, [(false, [slp ([[120], [121]] : List (List UInt8))]), (false, [slp ([[120], [121]] : List (List UInt8))])], .sc, [.bool true]⟩,
   ⟨n_scrimshawref06_SameTexts, [(false, [slp ([[120]] : List (List UInt8))]), (false, [slp ([[120]] : List (List UInt8))])], .sc, [.bool true]⟩]
theorem fixTab_ok {S0 : PH} : TabOk Tryz.prog S0 fixTab := by
  have key : ∀ c ∈ fixTab, CK.Ok Tryz.prog S0 c := by
    simp only [fixTab, List.forall_mem_cons, List.not_mem_nil, false_imp_iff, implies_true, and_true]
    exact ⟨ck_refL _, ck_refL _, ck_lift fixL 0 (by decide +kernel) (by decide), ck_lift plusL 100 (by decide +kernel) (by decide), ck_texts _, ck_texts _⟩
  exact key
theorem fix_runs : runsTrue Tryz.prog fixTab fm_scrimshawlaw14_fixed = true := by kernel_rfl
theorem LFixed_gives (H : PH) : Gives Tryz.prog n_scrimshawlaw14_fixed [] H (.bool true) := gives_run tri_scrimshawlaw14_fixed (by kernel_rfl) (by kernel_rfl) fixTab_ok fix_runs

/-! ### the law -/
end Go.Proofs.YtibinelkmlcmgaaGreat.Vc
/-
  LIFT: programs that come in; LiftedBack.
-/
namespace Go.Proofs.YtibinelkmlcmgaaGreat.Vc
open Go Go.ChangeShapes Go.WideShapes Go.ChangeAt Go.RowKit

/-! ### what comes in -/
def FunX.wt (f : FunX) : Nat := sumWt txtWt f.params + 1 + (sumWt txtWt f.frees + 1) + f.body.wt
def LifX.wt (l : LifX) : Nat := sumWt FunX.wt l.funs + 1 + l.main.wt
noncomputable def funFields : Array Field := match Tryz.prog.underlying 47 with
  | some (.struct fs) => fs
  | _ => #[]
theorem uFunS : Tryz.prog.underlying 47 = some (.struct funFields) := by kernel_rfl
theorem funF : funFields.toList.map (fun f => (f.type, f.offset)) = [(23, 0), (23, 1), (29, 2)] := by kernel_rfl
theorem cFunC : Tryz.prog.cellsOf 47 = 10 := by kernel_rfl
noncomputable def lifFields : Array Field := match Tryz.prog.underlying 31 with
  | some (.struct fs) => fs
  | _ => #[]
theorem uLifS : Tryz.prog.underlying 31 = some (.struct lifFields) := by kernel_rfl
theorem lifF : lifFields.toList.map (fun f => (f.type, f.offset)) = [(22, 0), (29, 1)] := by kernel_rfl
theorem cLifC : Tryz.prog.cellsOf 31 = 9 := by kernel_rfl
theorem cFunsC : Tryz.prog.cellsOf 22 = 1 := by kernel_rfl
theorem opens_fun {H : Type} {enc : TypeId × Value → H} {w : World} (fuel : Nat) : Opens (α := FunX) enc Tryz.prog w FunX.wt 47 fuel := by
  intro cs d ps h
  obtain ⟨xs, n, rfl, rfl, hc, hl, hi⟩ := trod_fields uFunS funF h
  rw [cFunC] at hc
  match xs, hl with
  | [x0, x1, x2], _ =>
  match cs, hc with
  | [c0, c1, c2, c3, c4, c5, c6, c7, c8, c9], _ =>
  have t0 := hi 0 23 0 x0 rfl rfl
  have t1 := hi 1 23 1 x1 rfl rfl
  have t2 := hi 2 29 2 x2 rfl rfl
  rw [cTxts] at t0 t1
  rw [cEx] at t2
  obtain ⟨ps, pv, hpv, hps, hpw⟩ := opens_slice (α := List UInt8) (wt := txtWt) uTxts cStr (fun j hj => opens_txt uString j) t0
  obtain ⟨fs, fv, hfv, hfs, hfw⟩ := opens_slice (α := List UInt8) (wt := txtWt) uTxts cStr (fun j hj => opens_txt uString j) t1
  obtain ⟨b, hb, hbw⟩ := opens_ex n _ _ _ t2
  have e0 : c0 = pv := by simpa using hpv
  have e1 : c1 = fv := by simpa using hfv
  subst e0 e1
  refine ⟨⟨ps, fs, b⟩, fun_iff.2 ⟨_, _, _, rfl, hps, hfs, hb⟩, ?_⟩
  simp only [FunX.wt, Rows.uptoBulk, Rows.uptoBulkAll, List.map_cons, List.map_nil]
  omega
theorem opens_lif {H : Type} {enc : TypeId × Value → H} {w : World} (fuel : Nat) : Opens (α := LifX) enc Tryz.prog w LifX.wt 31 fuel := by
  intro cs d ps h
  obtain ⟨xs, n, rfl, rfl, hc, hl, hi⟩ := trod_fields uLifS lifF h
  rw [cLifC] at hc
  match xs, hl with
  | [x0, x1], _ =>
  match cs, hc with
  | [c0, c1, c2, c3, c4, c5, c6, c7, c8], _ =>
  have t0 := hi 0 22 0 x0 rfl rfl
  have t1 := hi 1 29 1 x1 rfl rfl
  rw [cFunsC] at t0
  rw [cEx] at t1
  obtain ⟨fs, fv, hfv, hfs, hfw⟩ := opens_slice (α := FunX) (wt := FunX.wt) uFuns cFunC (fun j hj => opens_fun j) t0
  obtain ⟨b, hb, hbw⟩ := opens_ex n _ _ _ t1
  have e0 : c0 = fv := by simpa using hfv
  subst e0
  refine ⟨⟨fs, b⟩, lif_iff.2 ⟨_, _, rfl, hfs, hb⟩, ?_⟩
  simp only [LifX.wt, Rows.uptoBulk, Rows.uptoBulkAll, List.map_cons, List.map_nil]
  omega
/-- a program as an argument -/
theorem arg_lif {H : Type} {enc : TypeId × Value → H} {w : World} {v : Value} {d : DataW H} {p : List MemPlace} {r : Reach} {b : Nat} (hval : Value.okWide Tryz.prog w r b 31 v) (h : DataW.Trod enc Tryz.prog w 0 (fun _ => true) true 31 v d p) :
    ∃ (a : LifX) (cs : List Value), v = .agg cs.toArray ∧ CsR (whole w) a cs ∧ a.wt ≤ Rows.uptoBulk d := by
  obtain ⟨cs, rfl, _⟩ := okWide_struct uLifS hval
  obtain ⟨fuel, h⟩ := h
  obtain ⟨a, h1, h2⟩ := opens_lif fuel _ _ _ h
  exact ⟨a, cs.toList, by simp, h1, h2⟩
theorem txts_wt : ∀ l : List (List UInt8), l.length ≤ sumWt txtWt l
  | [] => Nat.le_refl _
  | a :: l => by
    have := txts_wt l
    simp only [sumWt, txtWt, List.length_cons]; omega
theorem Xp.wt_pos (e : Xp) : 1 ≤ e.wt := by cases e; simp only [Xp.wt]; omega
theorem exs_wt : ∀ l : List Xp, l.length ≤ Xps.wt l
  | [] => Nat.le_refl _
  | a :: l => by
    have := exs_wt l
    have := Xp.wt_pos a
    simp only [Xps.wt, List.length_cons]; omega
mutual
theorem Xp.fit_wt : ∀ e : Xp, e.wt ≤ 1048576 → e.fit
  | .mk k s ns d l, h => by
    simp only [Xp.wt] at h
    have h1 := txts_wt ns
    have h2 := exs_wt l
    exact ⟨by omega, by omega, Xps.fit_wt l (by omega)⟩
theorem Xps.fit_wt : ∀ l : List Xp, Xps.wt l ≤ 1048576 → Xps.fit l
  | [], _ => trivial
  | e :: l, h => by
    simp only [Xps.wt] at h
    exact ⟨Xp.fit_wt e (by omega), Xps.fit_wt l (by omega)⟩
end
theorem funs_wt : ∀ l : List FunX, l.length ≤ sumWt FunX.wt l ∧ ∀ f ∈ l, f.wt ≤ sumWt FunX.wt l
  | [] => ⟨Nat.le_refl _, fun f h => by cases h⟩
  | a :: l => by
    obtain ⟨h1, h2⟩ := funs_wt l
    simp only [sumWt]
    have : 1 ≤ a.wt := by unfold FunX.wt; omega
    refine ⟨by rw [List.length_cons]; omega, fun f hf => ?_⟩
    rcases List.mem_cons.1 hf with rfl | hf
    · omega
    · have := h2 f hf; omega
theorem fit_lif {l : LifX} (h : l.wt ≤ 1048576) : FitL l := by
  unfold LifX.wt at h
  obtain ⟨h1, h2⟩ := funs_wt l.funs
  refine ⟨by omega, Xp.fit_wt _ (by omega), fun f hf => ?_⟩
  have h3 : f.wt ≤ 1048576 := by have := h2 f hf; omega
  unfold FunX.wt at h3
  have h4 := txts_wt f.params
  have h5 := txts_wt f.frees
  exact ⟨by omega, by omega, Xp.fit_wt _ (by omega)⟩
/-! ### all -/
theorem lookup_two {n m : Nat} {J J' : List Value → PH → Prop} {L : LK} (h : (n == m) = false := by decide) : ((m, J') :: (n, J) :: L).lookup n = some J := by simp [List.lookup, h]
theorem chk_good {l : LifX} (h : chkL l = 0) : GoodL l := by
  unfold chkL at h
  split at h
  · cases h
  · split at h
    · cases h
    · split at h
      · assumption
      · cases h
end Go.Proofs.YtibinelkmlcmgaaGreat.Vc
/-
  LIFT: the document's free names, closures, lower.
-/
namespace Go.Proofs.YtibinelkmlcmgaaGreat.Vc
open Go

theorem Xps.wt_append : ∀ l m : List Xp, Xps.wt (l ++ m) = Xps.wt l + Xps.wt m
  | [], m => by simp [Xps.wt]
  | e :: l, m => by simp only [List.cons_append, Xps.wt, Xps.wt_append l m]; omega
theorem Xps.wt_at {l : List Xp} {j : Nat} {a : Xp} (h : l[j]? = some a) : Xps.wt (l.take (j + 1)) = Xps.wt (l.take j) + a.wt := by
  rw [List.take_add_one, h, Xps.wt_append]; simp [Xps.wt]
theorem Xps.wt_take (l : List Xp) (j : Nat) : Xps.wt (l.take j) ≤ Xps.wt l := by
  have := Xps.wt_append (l.take j) (l.drop j)
  rw [List.take_append_drop] at this; omega
theorem Xp.wt_eq (e : Xp) : e.wt = e.name.length + 5 + sumWt txtWt e.names + e.const.wt + Xps.wt e.kids := by cases e; rfl
theorem fr14_len : ∀ (e : Xp) (b : List (List UInt8)), (e.fr14 b).length ≤ e.wt := by
  refine Xp.ind fun e ih b => ?_
  have hw := Xp.wt_eq e
  have hn := txts_wt e.names
  rw [Xp.fr14_eq]
  split
  · have := List.length_filter_le (fun x => !b.contains x) e.names
    omega
  · have key : ∀ (l : List Xp), (∀ a ∈ l, a ∈ e.kids) → ∀ i, (Xps.fr14 b i e.kind l).length ≤ Xps.wt l := by
      intro l
      induction l with
      | nil => intro _ i; simp [Xps.fr14]
      | cons a l ihl =>
        intro hl i
        have h1 := ih a (hl a (List.mem_cons_self ..)) (if inB e.kind l then i else b)
        have h2 := ihl (fun y hy => hl y (List.mem_cons_of_mem _ hy)) i
        rw [Xps.fr14, List.length_append, Xps.wt]; omega
    have := key e.kids (fun a h => h) (b ++ e.names)
    rw [List.length_append]
    split <;> simp <;> omega
theorem Xps.fr14_len (b i : List (List UInt8)) (k : Int) : ∀ l : List Xp, (Xps.fr14 b i k l).length ≤ Xps.wt l
  | [] => by simp [Xps.fr14]
  | e :: l => by
    have h1 := Vc.fr14_len e (if inB k l then i else b)
    have h2 := Xps.fr14_len b i k l
    rw [Xps.fr14, List.length_append, Xps.wt]; omega
set_option maxHeartbeats 4000000 in
theorem Free14_tri : ∀ (e : Xp) (cs : List Value) (S K : PH) (bl out : List (List UInt8)) (vb vo : Value), e.Rep S cs → SlR S bl vb → Held S K [orow 9 out vo] → bl.length + e.wt ≤ 4000000 → out.length + e.wt ≤ 4000000 →
    Tri Tryz.prog n_scrimshawref14_free #[.agg cs.toArray, vb, vo] K fun x K' => ∃ S' v', PH.le S S' ∧ x = .returned v' ∧ Held S' K' [orow 9 (out ++ e.fr14 bl) v'] := by
  refine Xp.ind fun e ih cs S K bl out vb vo he hb h hbb hoo => ?_
  have he' := he
  obtain ⟨nb, db, kb, nc, dc, kc, rfl, hx⟩ := Xp.Rep.open he
  have hw := Xp.wt_eq e
  have hnw := txts_wt e.names
  have hkw := exs_wt e.kids
  obtain ⟨b1, c1, rfl⟩ := hb.sl
  obtain ⟨b2, c2, rfl⟩ := (h.row (List.mem_cons_self ..)).sl
  refine tri_scrimshawref14_free (exVs e nb db kb nc dc kc ++ [.slice b1 bl.length c1, .slice b2 out.length c2]) (by kernel_rfl) (by kernel_rfl) ?_
  refine ⟨fun g => ?_, fun g => ?_⟩
  · simp only [ev0, ev, evV, List.cons_append, List.nil_append, List.getD_cons_zero, List.getD_cons_succ, List.map_cons, List.map_nil, iOf, bOf, sOf, pOf, slLen, slBase, cmpI, arI, Value.ite_bool, int_beq, int_bne, ite_band, ite_bor, decide_eq_true_eq] at g
    rw [Xp.fr14_eq, if_pos g]
    refine ⟨fun n vs K' => ∃ (k : Nat) (v : Value) (S' : PH), vs = [v, .int .i64 k] ∧ k + n = e.names.length ∧ PH.le S S' ∧ Held S' K' [orow 9 (out ++ (e.names.take k).filter fun x => !bl.contains x) v], ⟨e.names.length, 0, .slice b2 out.length c2, S, rfl, by omega, PH.le_refl S, by simpa using h⟩, ?_⟩
    rintro n vs K1 _ ⟨k, v, S1, rfl, hkn, l1, h1⟩
    obtain ⟨vb, vc, rfl⟩ := (h1.row (List.mem_cons_self ..)).sl
    refine ⟨fun g1 => ?_, fun g1 => ?_⟩
    · simp only [ev0, ev, evV, List.cons_append, List.nil_append, List.getD_cons_zero, List.getD_cons_succ, List.map_cons, List.map_nil, iOf, bOf, sOf, pOf, slLen, slBase, cmpI, arI, Value.ite_bool, int_beq, int_bne, ite_band, ite_bor, decide_eq_true_eq] at g1
      obtain ⟨a, ha⟩ : ∃ a, e.names[k]? = some a := ⟨_, List.getElem?_eq_getElem (show k < e.names.length by omega)⟩
      have l1K := PH.le_trans l1 h1.sh
      obtain ⟨q1, _, ces, q2, q3⟩ := hx.names.get ha
      obtain ⟨rfl, hal⟩ := csTxts q2
      have hst : (e.names.take (k + 1)).filter (fun x => !bl.contains x) = (e.names.take k).filter (fun x => !bl.contains x) ++ if bl.contains a = true then [] else [a] := by
        rw [List.take_add_one, ha, List.filter_append]
        congr 1
        by_cases hm : a ∈ bl <;> simp [List.filter_cons, hm]
      have hfl := List.length_filter_le (fun x => !bl.contains x) (e.names.take k)
      rw [List.length_take] at hfl
      refine ⟨fun vs K' => ∃ (v : Value) (S' : PH), vs = [v] ∧ PH.le S S' ∧ Held S' K' [orow 9 (out ++ (e.names.take (k + 1)).filter fun x => !bl.contains x) v], ?_, fun _ => ?_, [txt a], rfl, by simp only [ev0, ev, evV, List.cons_append, List.nil_append, List.getD_cons_zero, List.getD_cons_succ, List.map_cons, List.map_nil, iOf, bOf, sOf, pOf, slLen, slBase, cmpI, arI, Value.ite_bool, int_beq, int_bne, ite_band, ite_bor]; exact rowAt_le l1K q3, ?_⟩
      · rintro vs K2 _ ⟨v2, S2, rfl, l2, h2⟩
        refine ⟨_, lookup_hit, n - 1, by omega, k + 1, v2, S2, ?_, by omega, l2, h2⟩
        simp only [ev0, ev, evV, List.cons_append, List.nil_append, List.getD_cons_zero, List.getD_cons_succ, List.map_cons, List.map_nil, iOf, bOf, sOf, pOf, slLen, slBase, cmpI, arI, Value.ite_bool, int_beq, int_bne, ite_band, ite_bor]
        rw [w64 (by omega) (by omega)]
        rfl
      · simp only [Chk.holds, ev0, ev, evV, List.cons_append, List.nil_append, List.getD_cons_zero, List.getD_cons_succ, List.map_cons, List.map_nil, iOf, bOf, sOf, pOf, slLen, slBase, cmpI, arI, Value.ite_bool, int_beq, int_bne, ite_band, ite_bor]; exact ⟨q1, by omega, by omega⟩
      refine den_gives [.bool (bl.contains a)] cb_scrimshawref06_Has (Has_gives bl a _ K1 (hb.le l1K)) rfl pendNil fun K2 l2 => ⟨fun g2 => ?_, fun g2 => ?_⟩
      · simp only [ev0, ev, evV, List.cons_append, List.nil_append, List.getD_cons_zero, List.getD_cons_succ, List.map_cons, List.map_nil, iOf, bOf, sOf, pOf, slLen, slBase, cmpI, arI, Value.ite_bool, int_beq, int_bne, ite_band, ite_bor, Bool.not_eq_true'] at g2
        refine ⟨[txt a], rfl, by simp only [ev0, ev, evV, List.cons_append, List.nil_append, List.getD_cons_zero, List.getD_cons_succ, List.map_cons, List.map_nil, iOf, bOf, sOf, pOf, slLen, slBase, cmpI, arI, Value.ite_bool, int_beq, int_bne, ite_band, ite_bor]; exact rowAt_le (PH.le_trans l1K l2) q3, ?_⟩
        refine den_hPush (more := [a]) (b := 16) [txt a] uTxts elemTxt rfl (by decide) (by decide) (h1.le l2) (by kernel_rfl) (.cons ⟨_, _, rfl, ⟨rfl, hal⟩, rfl⟩ .nil) pendNil (fun _ => by kernel_rfl) (fun _ => by kernel_rfl)
          (by simp only [maxLen, List.length_append, List.length_cons, List.length_nil]; omega) (by simp only [List.length_append, List.length_cons, List.length_nil]; omega) fun u v' S4 K4 l4 h4 => ⟨pendNil, _, lookup_hit, v', S4, rfl, PH.le_trans l1 l4, ?_⟩
        rw [hst, if_neg (by rw [g2]; exact Bool.false_ne_true), ← List.append_assoc]
        exact h4
      · simp only [ev0, ev, evV, List.cons_append, List.nil_append, List.getD_cons_zero, List.getD_cons_succ, List.map_cons, List.map_nil, iOf, bOf, sOf, pOf, slLen, slBase, cmpI, arI, Value.ite_bool, int_beq, int_bne, ite_band, ite_bor, Bool.not_eq_false'] at g2
        refine ⟨_, lookup_hit, _, S1, rfl, l1, ?_⟩
        rw [hst, if_pos g2, List.append_nil]
        exact h1.le l2
    · simp only [ev0, ev, evV, List.cons_append, List.nil_append, List.getD_cons_zero, List.getD_cons_succ, List.map_cons, List.map_nil, iOf, bOf, sOf, pOf, slLen, slBase, cmpI, arI, Value.ite_bool, int_beq, int_bne, ite_band, ite_bor, decide_eq_false_iff_not] at g1
      rw [List.take_of_length_le (by omega)] at h1
      refine ⟨S1, _, l1, rfl, ?_⟩
      simp only [ev0, ev, evV, List.cons_append, List.nil_append, List.getD_cons_zero, List.getD_cons_succ, List.map_cons, List.map_nil, iOf, bOf, sOf, pOf, slLen, slBase, cmpI, arI, Value.ite_bool, int_beq, int_bne, ite_band, ite_bor]
      rw [List.take_of_length_le (by omega)]
      exact h1
  · simp only [ev0, ev, evV, List.cons_append, List.nil_append, List.getD_cons_zero, List.getD_cons_succ, List.map_cons, List.map_nil, iOf, bOf, sOf, pOf, slLen, slBase, cmpI, arI, Value.ite_bool, int_beq, int_bne, ite_band, ite_bor, decide_eq_false_iff_not] at g
    rw [Xp.fr14_eq, if_neg g]
    obtain ⟨d1, hd1⟩ : ∃ d1, d1 = (if e.kind = 1 ∧ e.name ∉ bl then [e.name] else []) := ⟨_, rfl⟩
    have hd1l : d1.length ≤ 1 := by rw [hd1]; split <;> simp
    rw [← hd1]
    refine ⟨fun vs K' => ∃ v1 S', vs = [v1] ∧ PH.le S S' ∧ Held S' K' [orow 9 (out ++ d1) v1], ?_, ?_⟩
    rotate_left
    · refine ⟨fun vs K' => vs = [.bool (decide (e.kind = 1 ∧ e.name ∉ bl))] ∧ PH.le K K', ?_, fun g2 => ?_, fun g2 => ?_⟩
      · rintro vs K1 _ ⟨rfl, l1⟩
        refine ⟨fun g2 => ?_, fun g2 => ?_⟩
        · simp only [ev0, ev, evV, List.cons_append, List.nil_append, List.getD_cons_zero, List.getD_cons_succ, List.map_cons, List.map_nil, iOf, bOf, sOf, pOf, slLen, slBase, cmpI, arI, Value.ite_bool, int_beq, int_bne, ite_band, ite_bor, decide_eq_true_eq] at g2
          rw [if_pos g2] at hd1
          refine den_hPush (more := [e.name]) (b := 16) [txt e.name] uTxts elemTxt rfl (by decide) (by decide) (h.le l1) (by kernel_rfl) (.cons ⟨_, _, rfl, ⟨rfl, hx.name⟩, rfl⟩ .nil) pendNil (fun _ => by kernel_rfl) (fun _ => by kernel_rfl)
            (by simp only [maxLen, List.length_cons, List.length_nil]; omega) (by simp only [List.length_cons, List.length_nil]; omega) fun u v' S4 K4 l4 h4 => ⟨pendNil, _, lookup_hit, v', S4, rfl, l4, by rw [hd1]; exact h4⟩
        · simp only [ev0, ev, evV, List.cons_append, List.nil_append, List.getD_cons_zero, List.getD_cons_succ, List.map_cons, List.map_nil, iOf, bOf, sOf, pOf, slLen, slBase, cmpI, arI, Value.ite_bool, int_beq, int_bne, ite_band, ite_bor, decide_eq_false_iff_not] at g2
          rw [if_neg g2] at hd1
          exact ⟨_, lookup_hit, _, S, rfl, PH.le_refl S, by rw [hd1, List.append_nil]; exact h.le l1⟩
      · simp only [ev0, ev, evV, List.cons_append, List.nil_append, List.getD_cons_zero, List.getD_cons_succ, List.map_cons, List.map_nil, iOf, bOf, sOf, pOf, slLen, slBase, cmpI, arI, Value.ite_bool, int_beq, int_bne, ite_band, ite_bor, decide_eq_true_eq] at g2
        refine den_gives [.bool (bl.contains e.name)] cb_scrimshawref06_Has (Has_gives bl e.name _ K (hb.le h.sh)) rfl pendNil fun K1 l1 => ⟨_, lookup_hit, ?_, l1⟩
        simp only [ev0, ev, evV, List.cons_append, List.nil_append, List.getD_cons_zero, List.getD_cons_succ, List.map_cons, List.map_nil, iOf, bOf, sOf, pOf, slLen, slBase, cmpI, arI, Value.ite_bool, int_beq, int_bne, ite_band, ite_bor]
        by_cases hm : e.name ∈ bl <;> simp [g2, hm]
      · simp only [ev0, ev, evV, List.cons_append, List.nil_append, List.getD_cons_zero, List.getD_cons_succ, List.map_cons, List.map_nil, iOf, bOf, sOf, pOf, slLen, slBase, cmpI, arI, Value.ite_bool, int_beq, int_bne, ite_band, ite_bor, decide_eq_false_iff_not] at g2
        refine ⟨_, lookup_hit, ?_, PH.le_refl _⟩
        rw [decide_eq_false fun h => g2 h.1]
        rfl
    rintro vs K1 _ ⟨v1, S1, rfl, l1, h1⟩
    refine ⟨fun n vs K' => ∃ (k : Nat) (done : List (List UInt8)) (v : Value) (S' : PH), vs = [v, .int .i64 k] ∧ k + n = e.kids.length ∧ PH.le S S' ∧ Held S' K' [orow 9 (out ++ done) v] ∧ d1 ++ Xps.fr14 bl (bl ++ e.names) e.kind e.kids = done ++ Xps.fr14 bl (bl ++ e.names) e.kind (e.kids.drop k) ∧ done.length ≤ 1 + Xps.wt (e.kids.take k),
      ⟨e.kids.length, 0, d1, v1, S1, rfl, by omega, l1, h1, by rw [List.drop_zero], by omega⟩, ?_⟩
    rintro n vs K2 _ ⟨k, done, v2, S2, rfl, hkn, l2, h2, hfr, hdl⟩
    obtain ⟨b3, c3, rfl⟩ := (h2.row (List.mem_cons_self ..)).sl
    refine ⟨fun g2 => ?_, fun g2 => ?_⟩
    · simp only [ev0, ev, evV, List.cons_append, List.nil_append, List.getD_cons_zero, List.getD_cons_succ, List.map_cons, List.map_nil, iOf, bOf, sOf, pOf, slLen, slBase, cmpI, arI, Value.ite_bool, int_beq, int_bne, ite_band, ite_bor, decide_eq_true_eq] at g2
      obtain ⟨a, ha⟩ : ∃ a, e.kids[k]? = some a := ⟨_, List.getElem?_eq_getElem (show k < e.kids.length by omega)⟩
      have hmem := List.mem_of_getElem? ha
      have hwa := Xps.wt_at ha
      have hwt := Xps.wt_take e.kids (k + 1)
      obtain ⟨bi, hbi⟩ : ∃ bi, bi = inB e.kind (e.kids.drop (k + 1)) := ⟨_, rfl⟩
      have hfrs : Xps.fr14 bl (bl ++ e.names) e.kind (e.kids.drop k) = a.fr14 (if bi = true then bl ++ e.names else bl) ++ Xps.fr14 bl (bl ++ e.names) e.kind (e.kids.drop (k + 1)) := by rw [drop_get ha, Xps.fr14, hbi]
      refine ⟨fun vs K' => ∃ v3 S', vs = [v3] ∧ PH.le S2 S' ∧ Held S' K' [orow 9 (out ++ done) (.slice b3 (out ++ done).length c3)] ∧ SlR S' (if bi = true then bl ++ e.names else bl) v3, ?_, ?_⟩
      · rintro vs K3 _ ⟨v3, S3, rfl, l3, h3, s3⟩
        have l03 := PH.le_trans l2 l3
        obtain ⟨q1, _, ces, q2, q3⟩ := (hx.kids.le l03).get ha
        have htags := Xp.Rep.tags q2
        have q2' := q2
        obtain ⟨nb', db', kb', nc', dc', kc', rfl, _⟩ := Xp.Rep.open q2'
        refine ⟨fun _ => ?_, _, htags, by simp only [ev0, ev, evV, List.cons_append, List.nil_append, List.getD_cons_zero, List.getD_cons_succ, List.map_cons, List.map_nil, iOf, bOf, sOf, pOf, slLen, slBase, cmpI, arI, Value.ite_bool, int_beq, int_bne, ite_band, ite_bor]; exact rowAt_le h3.sh q3, ?_⟩
        · simp only [Chk.holds, ev0, ev, evV, List.cons_append, List.nil_append, List.getD_cons_zero, List.getD_cons_succ, List.map_cons, List.map_nil, iOf, bOf, sOf, pOf, slLen, slBase, cmpI, arI, Value.ite_bool, int_beq, int_bne, ite_band, ite_bor]; exact ⟨q1, by omega, by omega⟩
        have hfl := fr14_len a (if bi = true then bl ++ e.names else bl)
        refine den_call cb_scrimshawref14_free (ih a hmem _ S3 K3 _ (out ++ done) v3 _ q2 s3 h3 (by
          split
          · rw [List.length_append]; omega
          · omega) (by rw [List.length_append]; omega)) ?_
        rintro x K4 ⟨S4, v4, l4, rfl, h4⟩
        obtain ⟨b4, c4, hv4⟩ := (h4.row (List.mem_cons_self ..)).sl
        refine ⟨_, [v4], rfl, by rw [hv4]; rfl, rfl, pendNil, _, lookup_hit, n - 1, by omega, k + 1, done ++ a.fr14 (if bi = true then bl ++ e.names else bl), v4, S4, ?_, by omega, PH.le_trans l03 l4, ?_, ?_, by rw [List.length_append]; omega⟩
        · simp only [ev0, ev, evV, List.cons_append, List.nil_append, List.getD_cons_zero, List.getD_cons_succ, List.map_cons, List.map_nil, iOf, bOf, sOf, pOf, slLen, slBase, cmpI, arI, Value.ite_bool, int_beq, int_bne, ite_band, ite_bor]
          rw [w64 (by omega) (by omega)]
          rfl
        · rw [← List.append_assoc]; exact h4
        · rw [hfr, hfrs, List.append_assoc]
      · have l2K := PH.le_trans l2 h2.sh
        refine den_gives [.bool bi] cb_scrimshawref06_Binds (by rw [hbi]; exact Binds6_gives e _ K2 (Xp.Rep.le l2K e he') k (by omega)) rfl pendNil fun K3 l3 => ?_
        have h3 := h2.le l3
        refine ⟨fun g3 => ?_, fun g3 => ?_⟩
        · simp only [ev0, ev, evV, List.cons_append, List.nil_append, List.getD_cons_zero, List.getD_cons_succ, List.map_cons, List.map_nil, iOf, bOf, sOf, pOf, slLen, slBase, cmpI, arI, Value.ite_bool, int_beq, int_bne, ite_band, ite_bor] at g3
          subst g3
          refine den_hLit0 (α := List UInt8) (b := 16) uTxts elemTxt h3 pendNil fun w1 K4 h4 _ _ => ?_
          refine den_hApp (b := 16) (more := bl) uTxts elemTxt (by kernel_rfl) (by kernel_rfl) h4 ((hb.le l2).srcS h4.sh) (by simp only [maxLen, List.length_nil]; omega) (by simp only [List.length_nil]; omega) fun w2 K5 h5 _ => ⟨pendNil, ?_⟩
          refine den_hApp (b := 16) (more := e.names) uTxts elemTxt (by kernel_rfl) (by kernel_rfl) h5 ((hx.names.le l2).srcS h5.sh) (by simp only [maxLen, List.length_append, List.length_nil]; omega) (by simp only [List.length_append, List.length_nil]; omega) fun w3 K6 h6 _ => ⟨pendNil, ?_⟩
          obtain ⟨S7, s7, l7, h7⟩ := h6.freeze
          exact ⟨_, lookup_hit, w3, S7, rfl, l7, h7, by rw [if_pos rfl]; exact s7⟩
        · simp only [ev0, ev, evV, List.cons_append, List.nil_append, List.getD_cons_zero, List.getD_cons_succ, List.map_cons, List.map_nil, iOf, bOf, sOf, pOf, slLen, slBase, cmpI, arI, Value.ite_bool, int_beq, int_bne, ite_band, ite_bor] at g3
          subst g3
          exact ⟨_, lookup_hit, _, S2, rfl, PH.le_refl _, h3, hb.le l2⟩
    · simp only [ev0, ev, evV, List.cons_append, List.nil_append, List.getD_cons_zero, List.getD_cons_succ, List.map_cons, List.map_nil, iOf, bOf, sOf, pOf, slLen, slBase, cmpI, arI, Value.ite_bool, int_beq, int_bne, ite_band, ite_bor, decide_eq_false_iff_not] at g2
      have hkk : k = e.kids.length := by omega
      subst hkk
      rw [List.drop_length] at hfr
      simp only [Xps.fr14, List.append_nil] at hfr
      refine ⟨S2, _, l2, rfl, ?_⟩
      rw [hfr]
      exact h2

/-! ### closures -/
set_option maxHeartbeats 4000000 in
theorem Closures_tri (l : LifX) (hL : l.funs.length ≤ 1048576) : ∀ (e : Xp) (cs ls : List Value) (S K : PH) (out : List Int) (vo : Value), e.Rep S cs → CsR S l ls → Held S K [orow 3 out vo] → out.length + e.size ≤ 4000000 →
    Tri Tryz.prog n_scrimshawref14_closures #[.agg cs.toArray, .agg ls.toArray, vo] K fun x K' => ∃ S' v', PH.le S S' ∧ x = .returned v' ∧ Held S' K' [orow 3 (out ++ e.clos l.funs) v'] := by
  refine Xp.ind fun e ih cs ls S K out vo he hls h hoo => ?_
  have he' := he
  obtain ⟨nb, db, kb, nc, dc, kc, rfl, hx⟩ := Xp.Rep.open he
  have hls' := hls
  obtain ⟨fv, bs, rfl, s1, r1⟩ := lif_iff.1 hls
  obtain ⟨fb, fc, rfl⟩ := s1.sl
  obtain ⟨p1, p2, p3, p4, p5, p6, rfl, _⟩ := Xp.Rep.open r1
  have hse := Xp.size_eq e
  have hkl := Xps.size_len e.kids
  obtain ⟨b2, c2, rfl⟩ := (h.row (List.mem_cons_self ..)).sl
  refine tri_scrimshawref14_closures (exVs e nb db kb nc dc kc ++ (.slice fb l.funs.length fc :: exVs l.main p1 p2 p3 p4 p5 p6) ++ [.slice b2 out.length c2]) (by kernel_rfl) (by kernel_rfl) ?_
  refine ⟨fun g => ?_, fun g => ?_⟩
  · simp only [ev0, ev, evV, List.cons_append, List.nil_append, List.getD_cons_zero, List.getD_cons_succ, List.map_cons, List.map_nil, iOf, bOf, sOf, pOf, slLen, slBase, cmpI, arI, Value.ite_bool, int_beq, int_bne, ite_band, ite_bor, decide_eq_true_eq] at g
    rw [Xp.clos_eq, if_pos g]
    have hii : InI e.const.int := (Dat.Rep_iff.1 hx.const).choose_spec.2.2.1
    have hcase := cloI_cases l.funs e
    let ok1 : Bool := decide (e.name = [] ∧ e.kids = [] ∧ e.const = .mk 1 e.const.int [] [] ∧ 0 ≤ e.const.int ∧ e.const.int < l.funs.length)
    refine ⟨fun vs K' => vs = [.bool ok1] ∧ PH.le K K', ?_, fun g2 => ?_, fun g2 => ?_⟩
    · rintro vs K1 _ ⟨rfl, l1⟩
      have h1 := h.le l1
      refine ⟨fun vs K' => vs = [.bool (decide (cloI l.funs e < 0))] ∧ PH.le K K', ?_, fun gg => ?_, fun gg => ?_, fun g2 => ?_, fun g2 => ?_⟩
      · rintro vs K2 _ ⟨rfl, l2⟩
        have h2 := h.le l2
        refine ⟨fun g2 => ?_, fun g2 => ?_⟩
        · simp only [ev0, ev, evV, List.cons_append, List.nil_append, List.getD_cons_zero, List.getD_cons_succ, List.map_cons, List.map_nil, iOf, bOf, sOf, pOf, slLen, slBase, cmpI, arI, Value.ite_bool, int_beq, int_bne, ite_band, ite_bor, decide_eq_true_eq] at g2
          have hm : cloI l.funs e = -1 := by
            rcases hcase with ⟨⟨_, _, _, c4, _⟩, hc⟩ | ⟨_, hc⟩
            · omega
            · exact hc
          refine den_hPush (more := [(-1 : Int)]) (b := 8) [.int .i64 (-1)] uIntsL elemInt rfl (by decide) (by decide) h2 (by kernel_rfl) (.cons (int_cs (by decide)) .nil) pendNil (fun _ => by kernel_rfl) (fun _ => by kernel_rfl)
            (by simp only [maxLen, List.length_cons, List.length_nil]; omega) (by simp only [List.length_cons, List.length_nil]; omega) fun u v' S4 K4 l4 h4 => ⟨pendNil, S4, v', l4, rfl, by rw [hm]; exact h4⟩
        · simp only [ev0, ev, evV, List.cons_append, List.nil_append, List.getD_cons_zero, List.getD_cons_succ, List.map_cons, List.map_nil, iOf, bOf, sOf, pOf, slLen, slBase, cmpI, arI, Value.ite_bool, int_beq, int_bne, ite_band, ite_bor, decide_eq_false_iff_not] at g2
          have hm : cloI l.funs e = e.const.int := by
            rcases hcase with ⟨_, hc⟩ | ⟨_, hc⟩
            · exact hc
            · omega
          refine den_hPush (more := [e.const.int]) (b := 8) [.int .i64 e.const.int] uIntsL elemInt rfl (by decide) (by decide) h2 (by kernel_rfl) (.cons (int_cs hii) .nil) pendNil (fun _ => by kernel_rfl) (fun _ => by kernel_rfl)
            (by simp only [maxLen, List.length_cons, List.length_nil]; omega) (by simp only [List.length_cons, List.length_nil]; omega) fun u v' S4 K4 l4 h4 => ⟨pendNil, S4, v', l4, rfl, by rw [hm]; exact h4⟩
      · have hg := gg (_, false) (List.mem_singleton.2 rfl)
        simp only [ev0, ev, evV, List.cons_append, List.nil_append, List.getD_cons_zero, List.getD_cons_succ, List.map_cons, List.map_nil, iOf, bOf, sOf, pOf, slLen, slBase, cmpI, arI, Value.ite_bool, int_beq, int_bne, ite_band, ite_bor, Bool.not_eq_false'] at hg
        have hok := of_decide_eq_true hg
        obtain ⟨n, hn⟩ : ∃ n : Nat, e.const.int = (n : Int) := ⟨e.const.int.toNat, by omega⟩
        obtain ⟨f, hf⟩ : ∃ f, l.funs[n]? = some f := ⟨_, List.getElem?_eq_getElem (show n < l.funs.length by omega)⟩
        obtain ⟨q1, _⟩ := s1.get hf
        simp only [Chk.holds, ev0, ev, evV, List.cons_append, List.nil_append, List.getD_cons_zero, List.getD_cons_succ, List.map_cons, List.map_nil, iOf, bOf, sOf, pOf, slLen, slBase, cmpI, arI, Value.ite_bool, int_beq, int_bne, ite_band, ite_bor, hn]; exact ⟨q1, by omega, by omega⟩
      · have hg := gg (_, false) (List.mem_singleton.2 rfl)
        simp only [ev0, ev, evV, List.cons_append, List.nil_append, List.getD_cons_zero, List.getD_cons_succ, List.map_cons, List.map_nil, iOf, bOf, sOf, pOf, slLen, slBase, cmpI, arI, Value.ite_bool, int_beq, int_bne, ite_band, ite_bor, Bool.not_eq_false'] at hg
        have hok := of_decide_eq_true hg
        obtain ⟨n, hn⟩ : ∃ n : Nat, e.const.int = (n : Int) := ⟨e.const.int.toNat, by omega⟩
        obtain ⟨f, hf⟩ : ∃ f, l.funs[n]? = some f := ⟨_, List.getElem?_eq_getElem (show n < l.funs.length by omega)⟩
        obtain ⟨_, q1, _⟩ := s1.get hf
        simp only [Chk.holds, ev0, ev, evV, List.cons_append, List.nil_append, List.getD_cons_zero, List.getD_cons_succ, List.map_cons, List.map_nil, iOf, bOf, sOf, pOf, slLen, slBase, cmpI, arI, Value.ite_bool, int_beq, int_bne, ite_band, ite_bor, hn]; exact q1
      · simp only [ev0, ev, evV, List.cons_append, List.nil_append, List.getD_cons_zero, List.getD_cons_succ, List.map_cons, List.map_nil, iOf, bOf, sOf, pOf, slLen, slBase, cmpI, arI, Value.ite_bool, int_beq, int_bne, ite_band, ite_bor, Bool.not_eq_true'] at g2
        refine ⟨_, lookup_hit, ?_, l1⟩
        have hno := of_decide_eq_false g2
        have : cloI l.funs e = -1 := by
          rcases hcase with ⟨⟨c1, c2, c3, c4, f, c5, c6⟩, hc⟩ | ⟨_, hc⟩
          · have := (List.getElem?_eq_some_iff.1 c5).1
            exact absurd ⟨c1, c2, c3, c4, by omega⟩ hno
          · exact hc
        rw [this]; rfl
      · simp only [ev0, ev, evV, List.cons_append, List.nil_append, List.getD_cons_zero, List.getD_cons_succ, List.map_cons, List.map_nil, iOf, bOf, sOf, pOf, slLen, slBase, cmpI, arI, Value.ite_bool, int_beq, int_bne, ite_band, ite_bor, Bool.not_eq_false'] at g2
        obtain ⟨k1, k2, k3, k4, k5⟩ := of_decide_eq_true g2
        obtain ⟨n, hn⟩ : ∃ n : Nat, e.const.int = (n : Int) := ⟨e.const.int.toNat, by omega⟩
        obtain ⟨f, hf⟩ : ∃ f, l.funs[n]? = some f := ⟨_, List.getElem?_eq_getElem (show n < l.funs.length by omega)⟩
        obtain ⟨q1, _, ces, q2, q3⟩ := s1.get hf
        obtain ⟨pv, rv, bs, rfl, d1, d2, d3⟩ := fun_iff.1 q2
        obtain ⟨a3, a4, rfl⟩ := d2.sl
        refine ⟨[.slice a3 f.frees.length a4], rfl, ?_, ?_⟩
        · have := rowAt_sub (rowAt_le h1.sh q3) 1 1
          simp only [ev0, ev, evV, List.cons_append, List.nil_append, List.getD_cons_zero, List.getD_cons_succ, List.map_cons, List.map_nil, iOf, bOf, sOf, pOf, slLen, slBase, cmpI, arI, Value.ite_bool, int_beq, int_bne, ite_band, ite_bor, hn]
          exact this
        refine den_gives [.bool (decide (f.frees = e.names))] cb_scrimshawref06_SameTexts (SameTexts_gives f.frees e.names _ _ K1 (d2.le h1.sh) (hx.names.le h1.sh)) rfl pendNil fun K2 l2 => ⟨_, lookup_hit, ?_, PH.le_trans l1 l2⟩
        simp only [ev0, ev, evV, List.cons_append, List.nil_append, List.getD_cons_zero, List.getD_cons_succ, List.map_cons, List.map_nil, iOf, bOf, sOf, pOf, slLen, slBase, cmpI, arI, Value.ite_bool, int_beq, int_bne, ite_band, ite_bor]
        congr 2
        rcases hcase with ⟨⟨c1, c2, c3, c4, f', c5, c6⟩, hc⟩ | ⟨hno, hc⟩
        · rw [hn, Int.toNat_natCast, hf] at c5
          cases c5
          rw [hc, decide_eq_true c6, decide_eq_false (by omega)]; rfl
        · rw [hc]
          have : ¬ f.frees = e.names := fun hh => hno ⟨k1, k2, k3, k4, f, by rw [hn, Int.toNat_natCast]; exact hf, hh⟩
          rw [decide_eq_false this]; rfl
    · simp only [ev0, ev, evV, List.cons_append, List.nil_append, List.getD_cons_zero, List.getD_cons_succ, List.map_cons, List.map_nil, iOf, bOf, sOf, pOf, slLen, slBase, cmpI, arI, Value.ite_bool, int_beq, int_bne, ite_band, ite_bor, txt_eql] at g2
      simp only [Bool.and_eq_true, decide_eq_true_eq] at g2
      have hk1 : e.kids = [] := List.length_eq_zero_iff.1 (by omega)
      refine den_gives [.bool (decide (e.const = .mk 1 e.const.int [] []))] cb_scrimshawref02_Same (Same_gives e.const (.mk 1 e.const.int [] []) _ _ K (Dat.Rep.le h.sh _ hx.const) (leaf_rep (by decide) hii (by decide))) rfl pendNil fun K1 l1 => ⟨_, lookup_hit, ?_, l1⟩
      simp only [ev0, ev, evV, List.cons_append, List.nil_append, List.getD_cons_zero, List.getD_cons_succ, List.map_cons, List.map_nil, iOf, bOf, sOf, pOf, slLen, slBase, cmpI, arI, Value.ite_bool, int_beq, int_bne, ite_band, ite_bor]
      congr 2
      show _ = decide _
      have h0 : e.name = [] := g2.1
      by_cases hc : e.const = .mk 1 e.const.int [] []
      · by_cases h1 : 0 ≤ e.const.int <;> by_cases h2 : e.const.int < l.funs.length <;> simp [h0, hk1, ← hc, h1, h2]
      · simp [hc]
    · simp only [ev0, ev, evV, List.cons_append, List.nil_append, List.getD_cons_zero, List.getD_cons_succ, List.map_cons, List.map_nil, iOf, bOf, sOf, pOf, slLen, slBase, cmpI, arI, Value.ite_bool, int_beq, int_bne, ite_band, ite_bor, txt_eql] at g2
      simp only [Bool.and_eq_false_iff, decide_eq_false_iff_not] at g2
      refine ⟨_, lookup_hit, ?_, PH.le_refl _⟩
      have : ok1 = false := by
        refine decide_eq_false fun hh => ?_
        rcases g2 with g2 | g2
        · exact g2 hh.1
        · exact g2 (by rw [hh.2.1]; rfl)
      rw [this]; rfl
  · simp only [ev0, ev, evV, List.cons_append, List.nil_append, List.getD_cons_zero, List.getD_cons_succ, List.map_cons, List.map_nil, iOf, bOf, sOf, pOf, slLen, slBase, cmpI, arI, Value.ite_bool, int_beq, int_bne, ite_band, ite_bor, decide_eq_false_iff_not] at g
    rw [Xp.clos_eq, if_neg g]
    refine ⟨fun vs K' => ∃ v1 S', vs = [v1] ∧ PH.le S S' ∧ Held S' K' [orow 3 (out ++ if e.kind = 2 ∨ e.kind = 5 ∨ e.kind = 9 then [-1] else []) v1], ?_, fun g2 => ?_, fun g2 => ?_⟩
    · rintro vs K1 _ ⟨v1, S1, rfl, l1, h1⟩
      have hd1l : (if e.kind = 2 ∨ e.kind = 5 ∨ e.kind = 9 then [(-1 : Int)] else []).length ≤ 1 := by split <;> simp
      generalize (if e.kind = 2 ∨ e.kind = 5 ∨ e.kind = 9 then [(-1 : Int)] else []) = d1 at h1 hd1l
      refine ⟨fun n vs K' => ∃ (k : Nat) (v : Value) (S' : PH), vs = [v, .int .i64 k] ∧ k + n = e.kids.length ∧ PH.le S S' ∧ Held S' K' [orow 3 (out ++ d1 ++ Xps.clos l.funs (e.kids.take k)) v], ⟨e.kids.length, 0, v1, S1, rfl, by omega, l1, by simpa [Xps.clos] using h1⟩, ?_⟩
      rintro n vs K2 _ ⟨k, v2, S2, rfl, hkn, l2, h2⟩
      obtain ⟨b3, c3, rfl⟩ := (h2.row (List.mem_cons_self ..)).sl
      refine ⟨fun g2 => ?_, fun g2 => ?_⟩
      · simp only [ev0, ev, evV, List.cons_append, List.nil_append, List.getD_cons_zero, List.getD_cons_succ, List.map_cons, List.map_nil, iOf, bOf, sOf, pOf, slLen, slBase, cmpI, arI, Value.ite_bool, int_beq, int_bne, ite_band, ite_bor, decide_eq_true_eq] at g2
        obtain ⟨a, ha⟩ : ∃ a, e.kids[k]? = some a := ⟨_, List.getElem?_eq_getElem (show k < e.kids.length by omega)⟩
        have hmem := List.mem_of_getElem? ha
        have hsa := Xps.size_at ha
        have hcl := Xps.clos_len l.funs (e.kids.take k)
        obtain ⟨q1, _, ces, q2, q3⟩ := (hx.kids.le l2).get ha
        have htags := Xp.Rep.tags q2
        have q2' := q2
        obtain ⟨nb', db', kb', nc', dc', kc', rfl, _⟩ := Xp.Rep.open q2'
        refine ⟨fun _ => ?_, _, htags, by simp only [ev0, ev, evV, List.cons_append, List.nil_append, List.getD_cons_zero, List.getD_cons_succ, List.map_cons, List.map_nil, iOf, bOf, sOf, pOf, slLen, slBase, cmpI, arI, Value.ite_bool, int_beq, int_bne, ite_band, ite_bor]; exact rowAt_le h2.sh q3, ?_⟩
        · simp only [Chk.holds, ev0, ev, evV, List.cons_append, List.nil_append, List.getD_cons_zero, List.getD_cons_succ, List.map_cons, List.map_nil, iOf, bOf, sOf, pOf, slLen, slBase, cmpI, arI, Value.ite_bool, int_beq, int_bne, ite_band, ite_bor]; exact ⟨q1, by omega, by omega⟩
        simp only [List.cons_append, List.nil_append]
        refine den_call cb_scrimshawref14_closures (ih a hmem _ _ S2 K2 _ _ q2 (PV.RepRow.le l2 hls') h2 (by rw [List.length_append, List.length_append]; omega)) ?_
        rintro x K3 ⟨S3, v3, l3, rfl, h3⟩
        obtain ⟨b4, c4, hv4⟩ := (h3.row (List.mem_cons_self ..)).sl
        refine ⟨_, [v3], rfl, by rw [hv4]; rfl, rfl, pendNil, _, lookup_hit, n - 1, by omega, k + 1, v3, S3, ?_, by omega, PH.le_trans l2 l3, ?_⟩
        · simp only [ev0, ev, evV, List.cons_append, List.nil_append, List.getD_cons_zero, List.getD_cons_succ, List.map_cons, List.map_nil, iOf, bOf, sOf, pOf, slLen, slBase, cmpI, arI, Value.ite_bool, int_beq, int_bne, ite_band, ite_bor]
          rw [w64 (by omega) (by omega)]
          rfl
        · rw [Xps.clos_take ha, ← List.append_assoc]; exact h3
      · simp only [ev0, ev, evV, List.cons_append, List.nil_append, List.getD_cons_zero, List.getD_cons_succ, List.map_cons, List.map_nil, iOf, bOf, sOf, pOf, slLen, slBase, cmpI, arI, Value.ite_bool, int_beq, int_bne, ite_band, ite_bor, decide_eq_false_iff_not] at g2
        rw [List.take_of_length_le (by omega)] at h2
        refine ⟨S2, _, l2, rfl, ?_⟩
        simp only [ev0, ev, evV, List.cons_append, List.nil_append, List.getD_cons_zero, List.getD_cons_succ, List.map_cons, List.map_nil, iOf, bOf, sOf, pOf, slLen, slBase, cmpI, arI, Value.ite_bool, int_beq, int_bne, ite_band, ite_bor]
        rw [List.take_of_length_le (by omega), ← List.append_assoc]
        exact h2
    · have g2' : e.kind = 2 ∨ e.kind = 5 ∨ e.kind = 9 := by
        simp only [ev0, ev, evV, List.cons_append, List.nil_append, List.getD_cons_zero, List.getD_cons_succ, List.map_cons, List.map_nil, iOf, bOf, sOf, pOf, slLen, slBase, cmpI, arI, Value.ite_bool, int_beq, int_bne, ite_band, ite_bor] at g2
        simpa [or_assoc] using g2
      refine den_hPush (more := [(-1 : Int)]) (b := 8) [.int .i64 (-1)] uIntsL elemInt rfl (by decide) (by decide) h (by kernel_rfl) (.cons (int_cs (by decide)) .nil) pendNil (fun _ => by kernel_rfl) (fun _ => by kernel_rfl)
        (by simp only [maxLen, List.length_cons, List.length_nil]; omega) (by simp only [List.length_cons, List.length_nil]; omega) fun u v' S4 K4 l4 h4 => ⟨pendNil, _, lookup_hit, v', S4, rfl, l4, by rw [if_pos g2']; exact h4⟩
    · have g2' : ¬ (e.kind = 2 ∨ e.kind = 5 ∨ e.kind = 9) := by
        simp only [ev0, ev, evV, List.cons_append, List.nil_append, List.getD_cons_zero, List.getD_cons_succ, List.map_cons, List.map_nil, iOf, bOf, sOf, pOf, slLen, slBase, cmpI, arI, Value.ite_bool, int_beq, int_bne, ite_band, ite_bor] at g2
        simp at g2
        omega
      exact ⟨_, lookup_hit, _, S, rfl, PH.le_refl S, by rw [if_neg g2', List.append_nil]; exact h⟩
end Go.Proofs.YtibinelkmlcmgaaGreat.Vc
/-
  LIFT: the document's lower, names, within.
-/
namespace Go.Proofs.YtibinelkmlcmgaaGreat.Vc
open Go

set_option maxHeartbeats 4000000 in
theorem Lower14_tri (l : LifX) (hF : FunsOk l.funs) (hL : FitL l) : ∀ (i : Int) (t : Xp), -1 ≤ i → AtI l.funs i t → t.fit → ∀ (S : PH) (ls cs : List Value), CsR S l ls → t.Rep S cs → Tri Tryz.prog n_scrimshawref14_lower #[.agg cs.toArray, .agg ls.toArray] S fun x S' => PH.le S S' ∧ XRet S' (lowN l.funs t) x := by
  have hopen : ∀ (S : PH) (ls : List Value), CsR S l ls → ∃ fb fc p1 p2 p3 p4 p5 p6, ls = .slice fb l.funs.length fc :: exVs l.main p1 p2 p3 p4 p5 p6 ∧ SlR S l.funs (.slice fb l.funs.length fc) := by
    intro S ls hls
    obtain ⟨fv, bs, rfl, s1, r1⟩ := lif_iff.1 hls
    obtain ⟨fb, fc, rfl⟩ := s1.sl
    obtain ⟨p1, p2, p3, p4, p5, p6, rfl, _⟩ := Xp.Rep.open r1
    exact ⟨fb, fc, p1, p2, p3, p4, p5, p6, rfl, s1⟩
  refine AtI.ind hF ?_ ?_
  · intro i t n f hi ht h11 hn hf htc hcl ih hfit S ls cs hls he
    have hls' := hls
    obtain ⟨fb, fc, p1, p2, p3, p4, p5, p6, rfl, s1⟩ := hopen S ls hls
    have he' := he
    obtain ⟨nb, db, kb, nc, dc, kc, rfl, hx⟩ := Xp.Rep.open he
    have hci : t.const.int = (n : Int) := by rw [htc]; rfl
    have hlt := (List.getElem?_eq_some_iff.1 hf).1
    have hL1 := hL.1
    refine tri_scrimshawref14_lower (exVs t nb db kb nc dc kc ++ (.slice fb l.funs.length fc :: exVs l.main p1 p2 p3 p4 p5 p6)) (by kernel_rfl) (by kernel_rfl) ?_
    refine ⟨fun _ => ?_, fun g => absurd g (by simp only [ev0, ev, evV, List.cons_append, List.nil_append, List.getD_cons_zero, List.getD_cons_succ, List.map_cons, List.map_nil, iOf, bOf, sOf, pOf, slLen, slBase, cmpI, arI, Value.ite_bool, int_beq, int_bne, ite_band, ite_bor, h11]; decide)⟩
    obtain ⟨q1, _, ces, q2, q3⟩ := s1.get hf
    obtain ⟨pv, fv, bs, rfl, c1, c2, c3⟩ := fun_iff.1 q2
    obtain ⟨a1, a2, rfl⟩ := c1.sl
    obtain ⟨a3, a4, rfl⟩ := c2.sl
    have c3s := c3
    obtain ⟨w1, w2, w3, w4, w5, w6, rfl, _⟩ := Xp.Rep.open c3
    refine ⟨fun _ => ?_, .slice a1 f.params.length a2 :: .slice a3 f.frees.length a4 :: exVs f.body w1 w2 w3 w4 w5 w6, rfl, ?_, ?_⟩
    · simp only [Chk.holds, ev0, ev, evV, List.cons_append, List.nil_append, List.getD_cons_zero, List.getD_cons_succ, List.map_cons, List.map_nil, iOf, bOf, sOf, pOf, slLen, slBase, cmpI, arI, Value.ite_bool, int_beq, int_bne, ite_band, ite_bor, hci]; exact ⟨q1, by omega, by omega⟩
    · simp only [ev0, ev, evV, List.cons_append, List.nil_append, List.getD_cons_zero, List.getD_cons_succ, List.map_cons, List.map_nil, iOf, bOf, sOf, pOf, slLen, slBase, cmpI, arI, Value.ite_bool, int_beq, int_bne, ite_band, ite_bor, hci]; exact q3
    have hfm := hL.2.2 f (List.mem_of_getElem? hf)
    simp only [List.cons_append, List.nil_append]
    refine den_call cb_scrimshawref14_lower (ih hfm.2.2 S _ _ hls' c3s) ?_
    rintro x K2 ⟨l2, es, rfl, r2⟩
    have ht2 := Xp.Rep.tags r2
    have r2' := r2
    obtain ⟨z1, z2, z3, z4, z5, z6, rfl, _⟩ := Xp.Rep.open r2'
    refine ⟨_, _, rfl, ht2, rfl, pendNil, ?_⟩
    refine den_hLit (l := [lowN l.funs f.body]) (b := 128) [.agg (exVs (lowN l.funs f.body) z1 z2 z3 z4 z5 z6).toArray] uExprs' elemExpr' rfl (by decide) (by decide) (Held.nil (PH.le_refl K2)) (by kernel_rfl) (.cons r2 .nil) pendNil fun v3 K3 h3 l3 _ => ?_
    obtain ⟨S4, s4, l4, h4⟩ := h3.freeze
    refine ⟨PH.le_trans l2 (PH.le_trans l4 h4.sh), [.int .i64 5, txt [], .slice a1 f.params.length a2, .int .i64 0, .int .i64 0, txt [], .slice none 0 0, v3], rfl, ?_⟩
    rw [htc, lowN_clo hF hf]
    have hpar := c1.le (PH.le_trans l2 (PH.le_trans l4 h4.sh))
    exact Xp.Rep_iff.2 ⟨_, _, _, rfl, (by decide : InI 5), Nat.zero_le _, hpar, dat0_rep _, s4.le h4.sh⟩
  · intro i t hi ht h11 hk ih hfit S ls cs hls he
    have hls' := hls
    obtain ⟨fb, fc, p1, p2, p3, p4, p5, p6, rfl, s1⟩ := hopen S ls hls
    have he' := he
    obtain ⟨nb, db, kb, nc, dc, kc, rfl, hx⟩ := Xp.Rep.open he
    obtain ⟨f1, f2, f3⟩ := (Xp.fit_iff t).1 hfit
    refine tri_scrimshawref14_lower (exVs t nb db kb nc dc kc ++ (.slice fb l.funs.length fc :: exVs l.main p1 p2 p3 p4 p5 p6)) (by kernel_rfl) (by kernel_rfl) ?_
    refine ⟨fun g => absurd g (by simp only [ev0, ev, evV, List.cons_append, List.nil_append, List.getD_cons_zero, List.getD_cons_succ, List.map_cons, List.map_nil, iOf, bOf, sOf, pOf, slLen, slBase, cmpI, arI, Value.ite_bool, int_beq, int_bne, ite_band, ite_bor, decide_eq_true_eq]; simpa using h11), fun _ => ?_⟩
    refine ⟨fun n vs K' => ∃ (k : Nat) (out : Value) (S' : PH), vs = [.int .i64 k] ++ (exVs t nb db none nc dc 0).take 7 ++ [out] ∧ k + n = t.kids.length ∧ PH.le S S' ∧ Held S' K' [orow 29 ((t.kids.take k).map (lowN l.funs)) out],
      ⟨t.kids.length, 0, .slice none 0 0, S, rfl, by omega, PH.le_refl S, (Held.nil (PH.le_refl S)).empty _⟩, ?_⟩
    rintro n vs K1 _ ⟨k, out, S1, rfl, hkn, l1, h1⟩
    refine ⟨fun g1 => ?_, fun g1 => ?_⟩
    · simp only [ev0, ev, evV, List.cons_append, List.nil_append, List.getD_cons_zero, List.getD_cons_succ, List.map_cons, List.map_nil, iOf, bOf, sOf, pOf, slLen, slBase, cmpI, arI, Value.ite_bool, int_beq, int_bne, ite_band, ite_bor, decide_eq_true_eq] at g1
      obtain ⟨a, ha⟩ : ∃ a, t.kids[k]? = some a := ⟨_, List.getElem?_eq_getElem (show k < t.kids.length by omega)⟩
      obtain ⟨q1, _, ces, q2, q3⟩ := (hx.kids.le l1).get ha
      have hm := List.mem_of_getElem? ha
      have htags := Xp.Rep.tags q2
      have q2' := q2
      obtain ⟨nb', db', kb', nc', dc', kc', rfl, _⟩ := Xp.Rep.open q2'
      refine ⟨fun _ => ?_, _, htags, by simp only [ev0, ev, evV, List.cons_append, List.nil_append, List.getD_cons_zero, List.getD_cons_succ, List.map_cons, List.map_nil, iOf, bOf, sOf, pOf, slLen, slBase, cmpI, arI, Value.ite_bool, int_beq, int_bne, ite_band, ite_bor]; exact rowAt_le h1.sh q3, ?_⟩
      · simp only [Chk.holds, ev0, ev, evV, List.cons_append, List.nil_append, List.getD_cons_zero, List.getD_cons_succ, List.map_cons, List.map_nil, iOf, bOf, sOf, pOf, slLen, slBase, cmpI, arI, Value.ite_bool, int_beq, int_bne, ite_band, ite_bor]; exact ⟨q1, by omega, by omega⟩
      simp only [List.cons_append, List.nil_append, List.take_succ_cons, List.take_zero]
      refine den_call cb_scrimshawref14_lower (h1.pure (ih a hm (f3 a hm) S1 _ _ (PV.RepRow.le l1 hls') q2)) ?_
      rintro x K2 ⟨S2, l2, h2, es, rfl, r2⟩
      have ht2 := Xp.Rep.tags r2
      have r2' := r2
      obtain ⟨z1, z2, z3, z4, z5, z6, rfl, _⟩ := Xp.Rep.open r2'
      refine ⟨_, _, rfl, ht2, rfl, pendNil, ?_⟩
      refine den_hPush (more := [lowN l.funs a]) (b := 128) [.agg (exVs (lowN l.funs a) z1 z2 z3 z4 z5 z6).toArray] uExprs' elemExpr' rfl (by decide) (by decide) h2 (by kernel_rfl) (.cons r2 .nil) pendNil (fun _ => by kernel_rfl) (fun _ => by kernel_rfl)
        (by simp only [maxLen, List.length_map, List.length_take, List.length_cons, List.length_nil]; omega) (by simp only [List.length_map, List.length_take, List.length_cons, List.length_nil]; omega) fun u v' S3 K3 l3 h3 => ⟨pendNil, _, lookup_hit, n - 1, by omega, k + 1, v', S3, ?_, by omega, PH.le_trans l1 (PH.le_trans l2 l3), ?_⟩
      · simp only [ev0, ev, evV, List.cons_append, List.nil_append, List.getD_cons_zero, List.getD_cons_succ, List.map_cons, List.map_nil, iOf, bOf, sOf, pOf, slLen, slBase, cmpI, arI, Value.ite_bool, int_beq, int_bne, ite_band, ite_bor]
        rw [w64 (by omega) (by omega)]
        rfl
      · rw [List.take_add_one, ha, List.map_append]
        exact h3
    · simp only [ev0, ev, evV, List.cons_append, List.nil_append, List.getD_cons_zero, List.getD_cons_succ, List.map_cons, List.map_nil, iOf, bOf, sOf, pOf, slLen, slBase, cmpI, arI, Value.ite_bool, int_beq, int_bne, ite_band, ite_bor, decide_eq_false_iff_not] at g1
      rw [List.take_of_length_le (by omega)] at h1
      obtain ⟨S2, s2, l2, h2⟩ := h1.freeze
      have l02 := PH.le_trans l1 (PH.le_trans l2 h2.sh)
      refine ⟨l02, [.int .i64 t.kind, txt t.name, .slice nb t.names.length nc, .int .i64 t.const.kind, .int .i64 t.const.int, txt t.const.text, .slice db t.const.list.length dc, out], rfl, ?_⟩
      rw [lowN_other h11]
      exact Xp.Rep_iff.2 ⟨_, _, _, rfl, hx.kind, hx.name, hx.names.le l02, Dat.Rep.le l02 _ hx.const, s2.le h2.sh⟩

/-! ### names -/
set_option maxHeartbeats 4000000 in
theorem Names14_gives (f : FunX) (cs : List Value) (S : PH) (hf : CsR S f cs) (f1 : f.params.length ≤ 1048576) (f2 : f.frees.length ≤ 1048576) (f3 : f.body.wt ≤ 1048576) : Gives Tryz.prog n_scrimshawref14_names [.agg cs.toArray] S (.bool (funOk f)) := by
  obtain ⟨pv, rv, bs, rfl, c1, c2, c3⟩ := fun_iff.1 hf
  obtain ⟨a1, a2, rfl⟩ := c1.sl
  obtain ⟨a3, a4, rfl⟩ := c2.sl
  have c3' := c3
  obtain ⟨w1, w2, w3, w4, w5, w6, rfl, _⟩ := Xp.Rep.open c3
  refine tri_scrimshawref14_names (.slice a1 f.params.length a2 :: .slice a3 f.frees.length a4 :: exVs f.body w1 w2 w3 w4 w5 w6) (by kernel_rfl) (by kernel_rfl) ?_
  refine den_hLit0 (α := List UInt8) (b := 16) uTxts elemTxt (Held.nil (PH.le_refl S)) pendNil fun v1 K1 h1 _ _ => ?_
  refine den_hApp (b := 16) (more := f.params) uTxts elemTxt (by kernel_rfl) (by kernel_rfl) h1 (c1.srcS h1.sh) (by simp only [maxLen, List.length_nil]; omega) (by simp only [List.length_nil]; omega) fun v2 K2 h2 _ => ⟨pendNil, ?_⟩
  refine den_hApp (b := 16) (more := f.frees) uTxts elemTxt (by kernel_rfl) (by kernel_rfl) h2 (c2.srcS h2.sh) (by simp only [maxLen, List.length_append, List.length_nil]; omega) (by simp only [List.length_append, List.length_nil]; omega) fun v3 K3 h3' _ => ⟨pendNil, ?_⟩
  obtain ⟨S3, s3, l03, h3⟩ := h3'.freeze
  rw [List.nil_append] at s3
  generalize hall : f.params ++ f.frees = all at s3
  have hlen : all.length ≤ 2097152 := by rw [← hall, List.length_append]; omega
  obtain ⟨ab, ac, rfl⟩ := s3.sl
  have hcap := s3.capLe
  have s3K := s3.le h3.sh
  have hfo : funOk f = (namesOk all && decide (f.params.length ≤ 6) && (Xp.fr14 all f.body).isEmpty) := by unfold funOk; rw [hall]
  refine ⟨fun n vs H' => ∃ k : Nat, vs = [.bool false, .int .i64 k] ∧ k + n = all.length ∧ namesOk all = namesFrom (all.take k) (all.drop k) ∧ PH.le K3 H', ⟨all.length, 0, rfl, by omega, by simp [namesOk], PH.le_refl _⟩, ?_⟩
  rintro n vs K4 _ ⟨k, rfl, hkn, hn, l4⟩
  refine ⟨fun h => ?_, fun h => ?_⟩
  · simp only [ev0, ev, evV, List.cons_append, List.nil_append, List.getD_cons_zero, List.getD_cons_succ, List.map_cons, List.map_nil, iOf, bOf, sOf, pOf, slLen, slBase, cmpI, arI, Value.ite_bool, int_beq, int_bne, ite_band, ite_bor, decide_eq_true_eq] at h
    obtain ⟨a, ha⟩ : ∃ a, all[k]? = some a := ⟨_, List.getElem?_eq_getElem (show k < all.length by omega)⟩
    obtain ⟨g1, _, ces, g2, g3⟩ := (s3K.le l4).get ha
    obtain ⟨rfl, hla⟩ := csTxts g2
    rw [drop_get ha] at hn
    refine ⟨fun vs H' => vs = [.bool (!nameOk a || (all.take k).contains a)] ∧ PH.le K4 H', ?_, fun _ => ?_, [txt a], rfl, by simp only [ev0, ev, evV, List.cons_append, List.nil_append, List.getD_cons_zero, List.getD_cons_succ, List.map_cons, List.map_nil, iOf, bOf, sOf, pOf, slLen, slBase, cmpI, arI, Value.ite_bool, int_beq, int_bne, ite_band, ite_bor]; exact g3, ?_⟩
    · rintro vs H' _ ⟨rfl, h1⟩
      refine ⟨fun h2 => ?_, fun h2 => ?_⟩
      · simp only [ev0, ev, evV, List.cons_append, List.nil_append, List.getD_cons_zero, List.getD_cons_succ, List.map_cons, List.map_nil, iOf, bOf, sOf, pOf, slLen, slBase, cmpI, arI, Value.ite_bool, int_beq, int_bne, ite_band, ite_bor, Bool.or_eq_true, Bool.not_eq_true'] at h2
        rw [hfo, hn, namesFrom_stop h2]
        exact ⟨rfl, PH.le_trans l03 (PH.le_trans h3.sh (PH.le_trans l4 h1))⟩
      · simp only [ev0, ev, evV, List.cons_append, List.nil_append, List.getD_cons_zero, List.getD_cons_succ, List.map_cons, List.map_nil, iOf, bOf, sOf, pOf, slLen, slBase, cmpI, arI, Value.ite_bool, int_beq, int_bne, ite_band, ite_bor, Bool.or_eq_false_iff, Bool.not_eq_false'] at h2
        refine ⟨_, lookup_hit, n - 1, by omega, k + 1, ?_, by omega, ?_, PH.le_trans l4 h1⟩
        · simp only [ev0, ev, evV, List.cons_append, List.nil_append, List.getD_cons_zero, List.getD_cons_succ, List.map_cons, List.map_nil, iOf, bOf, sOf, pOf, slLen, slBase, cmpI, arI, Value.ite_bool, int_beq, int_bne, ite_band, ite_bor]; rw [w64 (by omega) (by omega)]; rfl
        · rw [hn]
          simp only [namesFrom, h2.1, h2.2, Bool.not_false, Bool.true_and]
          rw [List.take_add_one, ha]; rfl
    · simp only [Chk.holds, ev0, ev, evV, List.cons_append, List.nil_append, List.getD_cons_zero, List.getD_cons_succ, List.map_cons, List.map_nil, iOf, bOf, sOf, pOf, slLen, slBase, cmpI, arI, Value.ite_bool, int_beq, int_bne, ite_band, ite_bor]; exact ⟨g1, by omega, by omega⟩
    · refine den_gives [.bool (nameOk a)] cb_scrimshawref02_Name (RName_gives a hla K4) rfl pendNil fun H2 h2 => ⟨fun _ => ?_, fun h3 => ?_, fun h3 => ?_⟩
      · simp only [Chk.holds, ev0, ev, evV, List.cons_append, List.nil_append, List.getD_cons_zero, List.getD_cons_succ, List.map_cons, List.map_nil, iOf, bOf, sOf, pOf, slLen, slBase, cmpI, arI, Value.ite_bool, int_beq, int_bne, ite_band, ite_bor, slCap]; omega
      · simp only [ev0, ev, evV, List.cons_append, List.nil_append, List.getD_cons_zero, List.getD_cons_succ, List.map_cons, List.map_nil, iOf, bOf, sOf, pOf, slLen, slBase, cmpI, arI, Value.ite_bool, int_beq, int_bne, ite_band, ite_bor, Bool.not_eq_true'] at h3
        exact ⟨_, lookup_hit, by simp only [ev0, ev, evV, List.cons_append, List.nil_append, List.getD_cons_zero, List.getD_cons_succ, List.map_cons, List.map_nil, iOf, bOf, sOf, pOf, slLen, slBase, cmpI, arI, Value.ite_bool, int_beq, int_bne, ite_band, ite_bor, h3]; rfl, h2⟩
      · simp only [ev0, ev, evV, List.cons_append, List.nil_append, List.getD_cons_zero, List.getD_cons_succ, List.map_cons, List.map_nil, iOf, bOf, sOf, pOf, slLen, slBase, cmpI, arI, Value.ite_bool, int_beq, int_bne, ite_band, ite_bor, Bool.not_eq_false'] at h3
        have hcut := (s3K.le (PH.le_trans l4 h2)).cut (a := 0) (b := k) (by omega) (by omega)
        rw [List.drop_zero] at hcut
        refine ⟨[txt a], rfl, by simp only [ev0, ev, evV, List.cons_append, List.nil_append, List.getD_cons_zero, List.getD_cons_succ, List.map_cons, List.map_nil, iOf, bOf, sOf, pOf, slLen, slBase, cmpI, arI, Value.ite_bool, int_beq, int_bne, ite_band, ite_bor]; exact rowAt_le h2 g3, ?_⟩
        refine den_gives [.bool ((all.take k).contains a)] cb_scrimshawref06_Has ?_ rfl pendNil fun H4 h4 => ⟨_, lookup_hit, by simp only [ev0, ev, evV, List.cons_append, List.nil_append, List.getD_cons_zero, List.getD_cons_succ, List.map_cons, List.map_nil, iOf, bOf, sOf, pOf, slLen, slBase, cmpI, arI, Value.ite_bool, int_beq, int_bne, ite_band, ite_bor, h3]; rfl, PH.le_trans h2 h4⟩
        have := Has_gives (all.take k) a _ H2 hcut
        simp only [ev0, ev, evV, List.cons_append, List.nil_append, List.getD_cons_zero, List.getD_cons_succ, List.map_cons, List.map_nil, iOf, bOf, sOf, pOf, slLen, slBase, cmpI, arI, Value.ite_bool, int_beq, int_bne, ite_band, ite_bor]
        exact this
  · simp only [ev0, ev, evV, List.cons_append, List.nil_append, List.getD_cons_zero, List.getD_cons_succ, List.map_cons, List.map_nil, iOf, bOf, sOf, pOf, slLen, slBase, cmpI, arI, Value.ite_bool, int_beq, int_bne, ite_band, ite_bor, decide_eq_false_iff_not] at h
    rw [List.drop_eq_nil_of_le (by omega)] at hn
    have hnt : namesOk all = true := hn
    have l04 := PH.le_trans l03 (PH.le_trans h3.sh l4)
    refine ⟨fun vs H' => vs = [.bool (funOk f)] ∧ PH.le K4 H', ?_, fun g => ?_, fun g => ?_⟩
    · rintro vs K8 _ ⟨rfl, l8⟩
      exact ⟨rfl, PH.le_trans l04 l8⟩
    · simp only [ev0, ev, evV, List.cons_append, List.nil_append, List.getD_cons_zero, List.getD_cons_succ, List.map_cons, List.map_nil, iOf, bOf, sOf, pOf, slLen, slBase, cmpI, arI, Value.ite_bool, int_beq, int_bne, ite_band, ite_bor, decide_eq_true_eq] at g
      refine den_call cb_scrimshawref14_free (Free14_tri f.body _ K4 K4 all [] _ _ (Xp.Rep.le l04 _ c3') (s3K.le l4) ((Held.nil (PH.le_refl K4)).empty _) (by omega) (by simp only [List.length_nil]; omega)) ?_
      rintro x K8 ⟨S8, v8, l8, rfl, h8⟩
      rw [List.nil_append] at h8
      obtain ⟨b8, c8, rfl⟩ := (h8.row (List.mem_cons_self ..)).sl
      refine ⟨_, [.slice b8 (Xp.fr14 all f.body).length c8], rfl, rfl, rfl, pendNil, _, lookup_hit, ?_, PH.le_trans l8 h8.sh⟩
      simp only [ev0, ev, evV, List.cons_append, List.nil_append, List.getD_cons_zero, List.getD_cons_succ, List.map_cons, List.map_nil, iOf, bOf, sOf, pOf, slLen, slBase, cmpI, arI, Value.ite_bool, int_beq, int_bne, ite_band, ite_bor]
      rw [hfo, hnt, decide_eq_true (show f.params.length ≤ 6 by omega)]
      simp only [Bool.true_and]
      congr 2
      rw [Bool.eq_iff_iff, decide_eq_true_eq, List.isEmpty_iff, ← List.length_eq_zero_iff]
      omega
    · simp only [ev0, ev, evV, List.cons_append, List.nil_append, List.getD_cons_zero, List.getD_cons_succ, List.map_cons, List.map_nil, iOf, bOf, sOf, pOf, slLen, slBase, cmpI, arI, Value.ite_bool, int_beq, int_bne, ite_band, ite_bor, decide_eq_false_iff_not] at g
      refine ⟨_, lookup_hit, ?_, PH.le_refl _⟩
      rw [hfo, hnt, decide_eq_false (show ¬ f.params.length ≤ 6 by omega)]
      rfl

/-! ### within -/
theorem Xps.wi_append : ∀ (l m : List Xp) (d n : Nat), Xps.wi (l ++ m) d n = if (Xps.wi l d n).2 = true then Xps.wi m d (Xps.wi l d n).1 else ((Xps.wi l d n).1, false)
  | [], m, d, n => by simp [Xps.wi]
  | e :: l, m, d, n => by
    simp only [List.cons_append, Xps.wi]
    by_cases h : (e.wi d n).2 = true
    · simp only [if_pos h, Xps.wi_append l m]
    · simp only [if_neg h, Bool.false_eq_true, if_false]
mutual
theorem Xp.wi_le : ∀ (e : Xp) (d n : Nat), (e.wi d n).1 ≤ n
  | .mk k s ns dd l, d, n => by
    rw [Xp.wi]
    split
    · exact Nat.zero_le _
    · have := Xps.wi_le l (d + 1) (n - 1); omega
theorem Xps.wi_le : ∀ (l : List Xp) (d n : Nat), (Xps.wi l d n).1 ≤ n
  | [], d, n => by simp [Xps.wi]
  | e :: l, d, n => by
    have h1 := Xp.wi_le e d n
    rw [Xps.wi]
    split
    · have := Xps.wi_le l d (e.wi d n).1; omega
    · exact h1
end
theorem wi_stop {l : List Xp} {k d n : Nat} (h : (Xps.wi (l.take k) d n).2 = false) : Xps.wi l d n = ((Xps.wi (l.take k) d n).1, false) := by
  have := Xps.wi_append (l.take k) (l.drop k) d n
  rw [List.take_append_drop, h] at this
  simpa using this
set_option maxHeartbeats 2000000 in
theorem Within14_gives : ∀ (e : Xp) (cs : List Value) (H : PH) (d n : Nat), e.Rep H cs → d ≤ 251 → n ≤ 4096 → Gives Tryz.prog n_scrimshawref14_within [.agg cs.toArray, .int .i64 (d : Int), .int .i64 (n : Int)] H (.tuple #[.int .i64 ((e.wi d n).1 : Int), .bool (e.wi d n).2]) := by
  refine Xp.ind fun e ih cs H d n he hd hn => ?_
  have he' := he
  obtain ⟨nb, db, kb, nc, dc, kc, rfl, hx⟩ := Xp.Rep.open he
  have hk := hx.kids.max
  simp only [maxLen] at hk
  refine tri_scrimshawref14_within (exVs e nb db kb nc dc kc ++ [.int .i64 (d : Int), .int .i64 (n : Int)]) (by kernel_rfl) (by kernel_rfl) ?_
  rw [Xp.wi_eq]
  refine ⟨fun g => ?_, fun g => ?_⟩
  · simp only [ev0, ev, evV, List.cons_append, List.nil_append, List.getD_cons_zero, List.getD_cons_succ, List.map_cons, List.map_nil, iOf, bOf, sOf, pOf, slLen, slBase, cmpI, arI, Value.ite_bool, int_beq, int_bne, ite_band, ite_bor] at g
    simp only [Bool.or_eq_true, decide_eq_true_eq] at g
    rw [if_pos (by omega)]
    exact ⟨rfl, PH.le_refl _⟩
  simp only [ev0, ev, evV, List.cons_append, List.nil_append, List.getD_cons_zero, List.getD_cons_succ, List.map_cons, List.map_nil, iOf, bOf, sOf, pOf, slLen, slBase, cmpI, arI, Value.ite_bool, int_beq, int_bne, ite_band, ite_bor] at g
  simp only [Bool.or_eq_false_iff, decide_eq_false_iff_not] at g
  rw [if_neg (by omega)]
  have hw1 : IntKind.i64.wrap ((n : Int) - 1) = ((n - 1 : Nat) : Int) := by rw [w64 (by omega) (by omega)]; omega
  refine ⟨fun m vs H' => ∃ k : Nat, vs = [.int .i64 ((Xps.wi (e.kids.take k) (d + 1) (n - 1)).1 : Int), .bool (Xps.wi (e.kids.take k) (d + 1) (n - 1)).2, .int .i64 k] ∧ k + m = e.kids.length ∧ PH.le H H', ⟨e.kids.length, 0, ?_, by omega, PH.le_refl _⟩, ?_⟩
  · simp only [ev0, ev, evV, List.cons_append, List.nil_append, List.getD_cons_zero, List.getD_cons_succ, List.map_cons, List.map_nil, iOf, bOf, sOf, pOf, slLen, slBase, cmpI, arI, Value.ite_bool, int_beq, int_bne, ite_band, ite_bor, hw1, List.take_zero, Xps.wi]; rfl
  rintro m vs H1 _ ⟨k, rfl, hkm, l1⟩
  refine ⟨fun g1 => ?_, fun g1 => ?_⟩
  · simp only [ev0, ev, evV, List.cons_append, List.nil_append, List.getD_cons_zero, List.getD_cons_succ, List.map_cons, List.map_nil, iOf, bOf, sOf, pOf, slLen, slBase, cmpI, arI, Value.ite_bool, int_beq, int_bne, ite_band, ite_bor] at g1
    simp only [Bool.and_eq_true, decide_eq_true_eq] at g1
    obtain ⟨a, ha⟩ : ∃ a, e.kids[k]? = some a := ⟨_, List.getElem?_eq_getElem (show k < e.kids.length by omega)⟩
    obtain ⟨q1, _, ces, q2, q3⟩ := (hx.kids.le l1).get ha
    have hm := List.mem_of_getElem? ha
    have htags := Xp.Rep.tags q2
    have q2' := q2
    obtain ⟨nb', db', kb', nc', dc', kc', rfl, _⟩ := Xp.Rep.open q2'
    refine ⟨fun _ => ?_, _, htags, by simp only [ev0, ev, evV, List.cons_append, List.nil_append, List.getD_cons_zero, List.getD_cons_succ, List.map_cons, List.map_nil, iOf, bOf, sOf, pOf, slLen, slBase, cmpI, arI, Value.ite_bool, int_beq, int_bne, ite_band, ite_bor]; exact q3, ?_⟩
    · simp only [Chk.holds, ev0, ev, evV, List.cons_append, List.nil_append, List.getD_cons_zero, List.getD_cons_succ, List.map_cons, List.map_nil, iOf, bOf, sOf, pOf, slLen, slBase, cmpI, arI, Value.ite_bool, int_beq, int_bne, ite_band, ite_bor]; exact ⟨q1, by omega, by omega⟩
    have hle := Xps.wi_le (e.kids.take k) (d + 1) (n - 1)
    have hd1 : IntKind.i64.wrap ((d : Int) + 1) = ((d + 1 : Nat) : Int) := by rw [w64 (by omega) (by omega)]; rfl
    refine den_gives [.int .i64 ((a.wi (d + 1) (Xps.wi (e.kids.take k) (d + 1) (n - 1)).1).1 : Int), .bool (a.wi (d + 1) (Xps.wi (e.kids.take k) (d + 1) (n - 1)).1).2] cb_scrimshawref14_within (by
      have := ih a hm _ H1 (d + 1) (Xps.wi (e.kids.take k) (d + 1) (n - 1)).1 q2 (by omega) (by omega)
      simp only [ev0, ev, evV, List.cons_append, List.nil_append, List.getD_cons_zero, List.getD_cons_succ, List.map_cons, List.map_nil, iOf, bOf, sOf, pOf, slLen, slBase, cmpI, arI, Value.ite_bool, int_beq, int_bne, ite_band, ite_bor, hd1]
      exact this) rfl pendNil fun H2 l2 => ⟨_, lookup_hit, m - 1, by omega, k + 1, ?_, by omega, PH.le_trans l1 l2⟩
    have hst : Xps.wi (e.kids.take (k + 1)) (d + 1) (n - 1) = a.wi (d + 1) (Xps.wi (e.kids.take k) (d + 1) (n - 1)).1 := by
      rw [List.take_add_one, ha]
      have := Xps.wi_snoc a (e.kids.take k) (d + 1) (n - 1)
      rw [if_pos g1.2] at this
      exact this
    simp only [ev0, ev, evV, List.cons_append, List.nil_append, List.getD_cons_zero, List.getD_cons_succ, List.map_cons, List.map_nil, iOf, bOf, sOf, pOf, slLen, slBase, cmpI, arI, Value.ite_bool, int_beq, int_bne, ite_band, ite_bor, hst]
    rw [w64 (by omega) (by omega)]
    rfl
  · simp only [ev0, ev, evV, List.cons_append, List.nil_append, List.getD_cons_zero, List.getD_cons_succ, List.map_cons, List.map_nil, iOf, bOf, sOf, pOf, slLen, slBase, cmpI, arI, Value.ite_bool, int_beq, int_bne, ite_band, ite_bor] at g1
    simp only [Bool.and_eq_false_iff, decide_eq_false_iff_not] at g1
    refine ⟨?_, l1⟩
    by_cases hke : k = e.kids.length
    · rw [List.take_of_length_le (by omega)]
      rfl
    · have hf : (Xps.wi (e.kids.take k) (d + 1) (n - 1)).2 = false := by
        rcases g1 with g1 | g1
        · omega
        · exact g1
      rw [wi_stop hf, hf]
      rfl
end Go.Proofs.YtibinelkmlcmgaaGreat.Vc
/-
  LIFT: the document's Check and Lower; LiftedChecks.
-/
namespace Go.Proofs.YtibinelkmlcmgaaGreat.Vc
open Go

theorem flat_len (F : List FunX) : ∀ G : List FunX, (G.flatMap fun f => f.body.clos F).length ≤ Xps.size (G.map (·.body))
  | [] => by simp
  | f :: G => by
    have h1 := Xp.clos_len F f.body
    have h2 := flat_len F G
    rw [List.flatMap_cons, List.length_append, List.map_cons, Xps.size]; omega
/-- what is known when so many of the main expression and the bodies are looked at -/
def Inv14 (l : LifX) (m : Nat) (C : List Int) : Prop :=
  (0 < m → ∀ x ∈ l.main.clos l.funs, 0 ≤ x) ∧ (∀ (j : Nat) f, j + 1 < m → l.funs[j]? = some f → AtI l.funs j f.body ∧ funOk f = true) ∧ C = if m = 0 then [] else l.main.clos l.funs ++ (l.funs.take (m - 1)).flatMap fun f => f.body.clos l.funs
noncomputable def listAt (l : LifX) : Nat → List Int
  | 0 => l.main.clos l.funs
  | m + 1 => match l.funs[m]? with
    | some f => f.body.clos l.funs
    | none => []
set_option maxHeartbeats 16000000 in
theorem Check14_gives (l : LifX) (hL : FitL l) (hW : l.wt ≤ 1048576) (ls : List Value) (S : PH) (hls : CsR S l ls) : Gives Tryz.prog n_scrimshawref14_Check [.agg ls.toArray] S (.int .i64 (chkL l)) := by
  obtain ⟨hL1, hL2, hL3⟩ := hL
  have hWm : l.main.wt ≤ 1048576 := by unfold LifX.wt at hW; omega
  have hWf : ∀ f ∈ l.funs, f.body.wt ≤ 1048576 := by
    intro f hf
    unfold LifX.wt at hW
    have h1 := (funs_wt l.funs).2 f hf
    have h2 : f.wt ≤ 1048576 := by omega
    unfold FunX.wt at h2
    omega
  have hls' := hls
  obtain ⟨fv, bs, rfl, s1, r1⟩ := lif_iff.1 hls
  obtain ⟨fb, fc, rfl⟩ := s1.sl
  have r1' := r1
  obtain ⟨p1, p2, p3, p4, p5, p6, rfl, _⟩ := Xp.Rep.open r1
  refine tri_scrimshawref14_Check (.slice fb l.funs.length fc :: exVs l.main p1 p2 p3 p4 p5 p6) (by kernel_rfl) (by kernel_rfl) ?_
  refine ⟨fun g => ?_, fun g => ?_⟩
  · simp only [ev0, ev, evV, List.cons_append, List.nil_append, List.getD_cons_zero, List.getD_cons_succ, List.map_cons, List.map_nil, iOf, bOf, sOf, pOf, slLen, slBase, cmpI, arI, Value.ite_bool, int_beq, int_bne, ite_band, ite_bor, decide_eq_true_eq] at g
    refine ⟨?_, PH.le_refl _⟩
    unfold chkL
    rw [if_pos (by omega)]; rfl
  simp only [ev0, ev, evV, List.cons_append, List.nil_append, List.getD_cons_zero, List.getD_cons_succ, List.map_cons, List.map_nil, iOf, bOf, sOf, pOf, slLen, slBase, cmpI, arI, Value.ite_bool, int_beq, int_bne, ite_band, ite_bor, decide_eq_false_iff_not] at g
  refine den_gives [.int .i64 ((l.main.wi 1 4096).1 : Int), .bool (l.main.wi 1 4096).2] cb_scrimshawref14_within (Within14_gives l.main _ S 1 4096 r1' (by omega) (by omega)) rfl pendNil fun K1 l1 => ?_
  have hw1 : Xps.wi [l.main] 1 4096 = l.main.wi 1 4096 := by
    have := Xps.wi_snoc l.main [] 1 4096
    simpa [Xps.wi] using this
  refine ⟨fun n vs H' => ∃ k : Nat, vs = [.int .i64 ((Xps.wi (l.main :: (l.funs.take k).map (·.body)) 1 4096).1 : Int), .bool (Xps.wi (l.main :: (l.funs.take k).map (·.body)) 1 4096).2, .int .i64 k] ∧ k + n = l.funs.length ∧ PH.le S H', ⟨l.funs.length, 0, by simp only [List.take_zero, List.map_nil, hw1]; rfl, by omega, l1⟩, ?_⟩
  rintro n vs K2 _ ⟨k, rfl, hkn, l2⟩
  refine ⟨fun g1 => ?_, fun g1 => ?_⟩
  · simp only [ev0, ev, evV, List.cons_append, List.nil_append, List.getD_cons_zero, List.getD_cons_succ, List.map_cons, List.map_nil, iOf, bOf, sOf, pOf, slLen, slBase, cmpI, arI, Value.ite_bool, int_beq, int_bne, ite_band, ite_bor] at g1
    simp only [Bool.and_eq_true, decide_eq_true_eq] at g1
    obtain ⟨f, hf⟩ : ∃ f, l.funs[k]? = some f := ⟨_, List.getElem?_eq_getElem (show k < l.funs.length by omega)⟩
    obtain ⟨q1, _, ces, q2, q3⟩ := (s1.le l2).get hf
    obtain ⟨pv, rv, bs, rfl, d1, d2, d3⟩ := fun_iff.1 q2
    have ht3 := Xp.Rep.tags d3
    have d3' := d3
    obtain ⟨w1, w2, w3, w4, w5, w6, rfl, _⟩ := Xp.Rep.open d3
    refine ⟨fun _ => ?_, exVs f.body w1 w2 w3 w4 w5 w6, ht3, ?_, ?_⟩
    · simp only [Chk.holds, ev0, ev, evV, List.cons_append, List.nil_append, List.getD_cons_zero, List.getD_cons_succ, List.map_cons, List.map_nil, iOf, bOf, sOf, pOf, slLen, slBase, cmpI, arI, Value.ite_bool, int_beq, int_bne, ite_band, ite_bor]; exact ⟨q1, by omega, by omega⟩
    · have := rowAt_sub q3 2 8
      simp only [ev0, ev, evV, List.cons_append, List.nil_append, List.getD_cons_zero, List.getD_cons_succ, List.map_cons, List.map_nil, iOf, bOf, sOf, pOf, slLen, slBase, cmpI, arI, Value.ite_bool, int_beq, int_bne, ite_band, ite_bor]
      exact this
    have hle := Xps.wi_le (l.main :: (l.funs.take k).map (·.body)) 1 4096
    refine den_gives [.int .i64 ((f.body.wi 1 (Xps.wi (l.main :: (l.funs.take k).map (·.body)) 1 4096).1).1 : Int), .bool (f.body.wi 1 (Xps.wi (l.main :: (l.funs.take k).map (·.body)) 1 4096).1).2] cb_scrimshawref14_within (by
      have := Within14_gives f.body _ K2 1 (Xps.wi (l.main :: (l.funs.take k).map (·.body)) 1 4096).1 d3' (by omega) (by omega)
      exact this) rfl pendNil fun K3 l3 => ⟨_, lookup_hit, n - 1, by omega, k + 1, ?_, by omega, PH.le_trans l2 l3⟩
    have hst : Xps.wi (l.main :: (l.funs.take (k + 1)).map (·.body)) 1 4096 = f.body.wi 1 (Xps.wi (l.main :: (l.funs.take k).map (·.body)) 1 4096).1 := by
      have := Xps.wi_snoc f.body (l.main :: (l.funs.take k).map (·.body)) 1 4096
      rw [if_pos g1.2] at this
      rw [take_body hf, ← List.cons_append]
      exact this
    simp only [ev0, ev, evV, List.cons_append, List.nil_append, List.getD_cons_zero, List.getD_cons_succ, List.map_cons, List.map_nil, iOf, bOf, sOf, pOf, slLen, slBase, cmpI, arI, Value.ite_bool, int_beq, int_bne, ite_band, ite_bor, hst]
    rw [w64 (by omega) (by omega)]
    rfl
  simp only [ev0, ev, evV, List.cons_append, List.nil_append, List.getD_cons_zero, List.getD_cons_succ, List.map_cons, List.map_nil, iOf, bOf, sOf, pOf, slLen, slBase, cmpI, arI, Value.ite_bool, int_beq, int_bne, ite_band, ite_bor] at g1
  simp only [Bool.and_eq_false_iff, decide_eq_false_iff_not] at g1
  refine ⟨fun g2 => ?_, fun g2 => ?_⟩
  · simp only [ev0, ev, evV, List.cons_append, List.nil_append, List.getD_cons_zero, List.getD_cons_succ, List.map_cons, List.map_nil, iOf, bOf, sOf, pOf, slLen, slBase, cmpI, arI, Value.ite_bool, int_beq, int_bne, ite_band, ite_bor, Bool.not_eq_true'] at g2
    refine ⟨?_, l2⟩
    have hst : sizeL l = false := by
      unfold sizeL
      have ht : (l.main :: l.funs.map (·.body)).take (k + 1) = l.main :: (l.funs.take k).map (·.body) := by
        rw [List.take_succ_cons, List.map_take]
      rw [wi_stop (k := k + 1) (by rw [ht]; exact g2)]
    unfold chkL
    rw [if_neg (by omega), if_pos hst]; rfl
  simp only [ev0, ev, evV, List.cons_append, List.nil_append, List.getD_cons_zero, List.getD_cons_succ, List.map_cons, List.map_nil, iOf, bOf, sOf, pOf, slLen, slBase, cmpI, arI, Value.ite_bool, int_beq, int_bne, ite_band, ite_bor, Bool.not_eq_false'] at g2
  have hkN : k = l.funs.length := by
    rcases g1 with g1 | g1
    · omega
    · rw [g2] at g1; cases g1
  subst hkN
  rw [List.take_length] at g2
  have hsz : sizeL l = true := g2
  have hsize := (Xps.wi_size _ _ _ g2).1
  rw [Xps.size] at hsize
  have hchk : chkL l = open Classical in if GoodL l then 0 else 100 := by
    unfold chkL
    rw [if_neg (by omega), if_neg (by simp [hsz])]
  have hbad : ¬ GoodL l → chkL l = 100 := fun h => by rw [hchk, if_neg h]
  refine den_hMake (n := l.funs.length) (0 : Int) rfl (fun S => int_cs (by decide)) uIntsL oneInt (by kernel_rfl) (by kernel_rfl) (by simp only [maxLen]; omega) (by omega) (Held.nil (PH.le_refl K2)) fun nv K3 h3 _ => ?_
  rw [← nmOf_nil] at h3
  obtain ⟨vb, vc, hnv⟩ := (h3.row (List.mem_cons_self ..)).sl
  rw [nmOf_len] at hnv
  subst hnv
  refine ⟨fun n vs K' => ∃ (m : Nat) (C : List Int) (S' : PH), vs = [.int .i64 0, .int .i64 ((m : Int) - 1)] ∧ m + n = l.funs.length + 1 ∧ PH.le S S' ∧ Held S' K' [orow 3 (nmOf l.funs.length C) (.slice vb l.funs.length vc)] ∧ Inv14 l m C,
    ⟨l.funs.length + 1, 0, [], K2, rfl, by omega, l2, h3, ⟨fun h => absurd h (by omega), fun j f h => absurd h (by omega), rfl⟩⟩, ?_⟩
  rintro n vs K4 _ ⟨m, C, S4, rfl, hmn, l4, h4, i1, i2, i3⟩
  have hw2 : IntKind.i64.wrap ((m : Int) - 1 + 1) = ((m + 1 : Nat) : Int) - 1 := by rw [w64 (by omega) (by omega)]; omega
  have hst0 := sizes_take l.funs (m - 1)
  have hfl0 := flat_len l.funs (l.funs.take (m - 1))
  have hcm := Xp.clos_len l.funs l.main
  refine ⟨fun g3 => ?_, fun g3 => ?_⟩
  · simp only [ev0, ev, evV, List.cons_append, List.nil_append, List.getD_cons_zero, List.getD_cons_succ, List.map_cons, List.map_nil, iOf, bOf, sOf, pOf, slLen, slBase, cmpI, arI, Value.ite_bool, int_beq, int_bne, ite_band, ite_bor, decide_eq_true_eq] at g3
    refine den_hLit0 (α := Int) (b := 8) uIntsL elemInt h4 pendNil fun v5 K5 h5' _ _ => ?_
    have h5 := h5'.tail
    -- the closures of this one
    refine ⟨fun vs K' => ∃ (v : Value) (S' : PH), vs = [v] ∧ PH.le S S' ∧ SlR S' (listAt l m) v ∧ Held S' K' [orow 3 (nmOf l.funs.length C) (.slice vb l.funs.length vc)] ∧ (∀ j f, m = j + 1 → l.funs[j]? = some f → funOk f = true), ?_, ?_⟩
    · rintro vs K6 _ ⟨v6, S6, rfl, l6, s6, h6, hfo⟩
      obtain ⟨lb, lc, rfl⟩ := s6.sl
      have hlm := s6.max
      simp only [maxLen] at hlm
      have hCl : C.length + (listAt l m).length ≤ 4096 := by
        rw [i3]
        cases m with
        | zero => simp only [if_true, listAt, List.length_nil]; omega
        | succ j =>
          rw [if_neg (by omega), List.length_append]
          simp only [Nat.add_sub_cancel] at hfl0 hst0 ⊢
          cases hf : l.funs[j]? with
          | none => simp only [listAt, hf, List.length_nil]; omega
          | some f =>
            simp only [listAt, hf]
            have h1 := sizes_take l.funs (j + 1)
            rw [take_body hf, Xps.size_append] at h1
            simp only [Xps.size, Nat.add_zero] at h1
            have h2 := Xp.clos_len l.funs f.body
            omega
      have hlt : ∀ x ∈ listAt l m, x < l.funs.length := by
        intro x hx
        cases m with
        | zero => exact clos_lt _ x hx
        | succ j =>
          simp only [listAt] at hx
          split at hx
          · exact clos_lt _ x hx
          · cases hx
      refine ⟨fun n2 vs K' => ∃ (j : Nat) (S' : PH), vs = [.int .i64 0, .int .i64 j] ∧ j + n2 = (listAt l m).length ∧ PH.le S6 S' ∧ Held S' K' [orow 3 (nmOf l.funs.length (C ++ (listAt l m).take j)) (.slice vb l.funs.length vc)] ∧ ∀ x ∈ (listAt l m).take j, (m : Int) - 1 < x ∧ 0 ≤ x,
        ⟨(listAt l m).length, 0, S6, rfl, by omega, PH.le_refl _, by simpa using h6, by simp⟩, ?_⟩
      rintro n2 vs K7 _ ⟨j, S7, rfl, hjn, l7, h7, hall⟩
      refine ⟨fun g7 => ?_, fun g7 => ?_⟩
      · simp only [ev0, ev, evV, List.cons_append, List.nil_append, List.getD_cons_zero, List.getD_cons_succ, List.map_cons, List.map_nil, iOf, bOf, sOf, pOf, slLen, slBase, cmpI, arI, Value.ite_bool, int_beq, int_bne, ite_band, ite_bor, decide_eq_true_eq] at g7
        obtain ⟨x, hx⟩ : ∃ x, (listAt l m)[j]? = some x := ⟨_, List.getElem?_eq_getElem (show j < (listAt l m).length by omega)⟩
        have hxm := List.mem_of_getElem? hx
        have hxl := hlt x hxm
        obtain ⟨y1, _, ces, y2, y3⟩ := (s6.le (PH.le_trans l7 h7.sh)).get hx
        obtain ⟨rfl, hxi⟩ := csIntL y2
        refine ⟨fun vs K' => vs = [.bool (decide (x ≤ (m : Int) - 1 ∨ x < 0))] ∧ K' = K7, ?_, fun _ => ?_, [.int .i64 x], rfl, by simp only [ev0, ev, evV, List.cons_append, List.nil_append, List.getD_cons_zero, List.getD_cons_succ, List.map_cons, List.map_nil, iOf, bOf, sOf, pOf, slLen, slBase, cmpI, arI, Value.ite_bool, int_beq, int_bne, ite_band, ite_bor]; exact y3, fun g8 => ?_, fun g8 => ?_⟩
        · rintro vs K8 _ ⟨rfl, rfl⟩
          refine ⟨fun g8 => ?_, fun g8 => ?_⟩
          · simp only [ev0, ev, evV, List.cons_append, List.nil_append, List.getD_cons_zero, List.getD_cons_succ, List.map_cons, List.map_nil, iOf, bOf, sOf, pOf, slLen, slBase, cmpI, arI, Value.ite_bool, int_beq, int_bne, ite_band, ite_bor, decide_eq_true_eq] at g8
            refine ⟨?_, PH.le_trans l6 (PH.le_trans l7 h7.sh)⟩
            rw [hbad]
            · rfl
            intro hg
            cases m with
            | zero =>
              have := hg.main x hxm
              omega
            | succ i =>
              simp only [listAt] at hxm
              split at hxm
              · rename_i f hf
                have := (hg.fn i f hf).1 x hxm
                omega
              · cases hxm
          · simp only [ev0, ev, evV, List.cons_append, List.nil_append, List.getD_cons_zero, List.getD_cons_succ, List.map_cons, List.map_nil, iOf, bOf, sOf, pOf, slLen, slBase, cmpI, arI, Value.ite_bool, int_beq, int_bne, ite_band, ite_bor, decide_eq_false_iff_not, not_or] at g8
            obtain ⟨q, rfl⟩ : ∃ q : Nat, x = (q : Int) := ⟨x.toNat, by omega⟩
            have hq : q < l.funs.length := by omega
            have hget := nmOf_get (C := C ++ (listAt l m).take j) hq
            obtain ⟨z1, _, ces, z2, z3⟩ := ((h7.row (List.mem_cons_self ..)).slR h7.sh).get hget
            obtain ⟨rfl, hci⟩ := csIntL z2
            have hcl : (C ++ (listAt l m).take j).count (q : Int) ≤ C.length + (listAt l m).length := by
              refine Nat.le_trans List.count_le_length ?_
              rw [List.length_append, List.length_take]; omega
            refine ⟨fun _ => ?_, [.int .i64 (q : Int)], rfl, by simp only [ev0, ev, evV, List.cons_append, List.nil_append, List.getD_cons_zero, List.getD_cons_succ, List.map_cons, List.map_nil, iOf, bOf, sOf, pOf, slLen, slBase, cmpI, arI, Value.ite_bool, int_beq, int_bne, ite_band, ite_bor]; exact y3, fun _ => ?_, [.int .i64 (((C ++ (listAt l m).take j).count (q : Int) : Nat) : Int)], rfl, by simp only [ev0, ev, evV, List.cons_append, List.nil_append, List.getD_cons_zero, List.getD_cons_succ, List.map_cons, List.map_nil, iOf, bOf, sOf, pOf, slLen, slBase, cmpI, arI, Value.ite_bool, int_beq, int_bne, ite_band, ite_bor]; exact z3, ?_⟩
            · simp only [Chk.holds, ev0, ev, evV, List.cons_append, List.nil_append, List.getD_cons_zero, List.getD_cons_succ, List.map_cons, List.map_nil, iOf, bOf, sOf, pOf, slLen, slBase, cmpI, arI, Value.ite_bool, int_beq, int_bne, ite_band, ite_bor]; exact ⟨y1, by omega, by omega⟩
            · simp only [Chk.holds, ev0, ev, evV, List.cons_append, List.nil_append, List.getD_cons_zero, List.getD_cons_succ, List.map_cons, List.map_nil, iOf, bOf, sOf, pOf, slLen, slBase, cmpI, arI, Value.ite_bool, int_beq, int_bne, ite_band, ite_bor]; exact ⟨z1, by omega, by omega⟩
            refine den_hPut0 (i := q) (a := (((C ++ (listAt l m).take j).count (q : Int) : Nat) : Int)) (a' := (((C ++ (listAt l m).take j).count (q : Int) : Nat) : Int) + 1) (us := [.int .i64 ((((C ++ (listAt l m).take j).count (q : Int) : Nat) : Int) + 1)]) ?_ h7 hget rfl ?_ (by simp [oneC]) (int_cs (by unfold InI; omega)) fun K9 h9 => ?_
            · simp only [ev0, ev, evV, List.cons_append, List.nil_append, List.getD_cons_zero, List.getD_cons_succ, List.map_cons, List.map_nil, iOf, bOf, sOf, pOf, slLen, slBase, cmpI, arI, Value.ite_bool, int_beq, int_bne, ite_band, ite_bor]; rfl
            · simp only [ev0, ev, evV, List.cons_append, List.nil_append, List.getD_cons_zero, List.getD_cons_succ, List.map_cons, List.map_nil, iOf, bOf, sOf, pOf, slLen, slBase, cmpI, arI, Value.ite_bool, int_beq, int_bne, ite_band, ite_bor]
              rw [w64 (by omega) (by omega)]
            refine ⟨_, lookup_hit, n2 - 1, by omega, j + 1, S7, ?_, by omega, l7, ?_, ?_⟩
            · simp only [ev0, ev, evV, List.cons_append, List.nil_append, List.getD_cons_zero, List.getD_cons_succ, List.map_cons, List.map_nil, iOf, bOf, sOf, pOf, slLen, slBase, cmpI, arI, Value.ite_bool, int_beq, int_bne, ite_band, ite_bor]
              rw [w64 (by omega) (by omega)]
              rfl
            · rw [List.take_add_one, hx, ← List.append_assoc]
              rw [nmOf_put hq] at h9
              exact h9
            · intro y hy
              rw [List.take_add_one, hx] at hy
              rcases List.mem_append.1 hy with hy | hy
              · exact hall y hy
              · simp only [Option.toList_some, List.mem_singleton] at hy
                subst hy
                omega
        · simp only [Chk.holds, ev0, ev, evV, List.cons_append, List.nil_append, List.getD_cons_zero, List.getD_cons_succ, List.map_cons, List.map_nil, iOf, bOf, sOf, pOf, slLen, slBase, cmpI, arI, Value.ite_bool, int_beq, int_bne, ite_band, ite_bor]; exact ⟨y1, by omega, by omega⟩
        · simp only [ev0, ev, evV, List.cons_append, List.nil_append, List.getD_cons_zero, List.getD_cons_succ, List.map_cons, List.map_nil, iOf, bOf, sOf, pOf, slLen, slBase, cmpI, arI, Value.ite_bool, int_beq, int_bne, ite_band, ite_bor, decide_eq_true_eq] at g8
          exact ⟨_, lookup_hit, by rw [decide_eq_true (Or.inl g8)]; rfl, rfl⟩
        · simp only [ev0, ev, evV, List.cons_append, List.nil_append, List.getD_cons_zero, List.getD_cons_succ, List.map_cons, List.map_nil, iOf, bOf, sOf, pOf, slLen, slBase, cmpI, arI, Value.ite_bool, int_beq, int_bne, ite_band, ite_bor, decide_eq_false_iff_not] at g8
          refine ⟨[.int .i64 x], rfl, by simp only [ev0, ev, evV, List.cons_append, List.nil_append, List.getD_cons_zero, List.getD_cons_succ, List.map_cons, List.map_nil, iOf, bOf, sOf, pOf, slLen, slBase, cmpI, arI, Value.ite_bool, int_beq, int_bne, ite_band, ite_bor]; exact y3, _, lookup_hit, ?_, rfl⟩
          simp only [ev0, ev, evV, List.cons_append, List.nil_append, List.getD_cons_zero, List.getD_cons_succ, List.map_cons, List.map_nil, iOf, bOf, sOf, pOf, slLen, slBase, cmpI, arI, Value.ite_bool, int_beq, int_bne, ite_band, ite_bor]
          congr 2
          rw [decide_eq_decide]
          omega
      · simp only [ev0, ev, evV, List.cons_append, List.nil_append, List.getD_cons_zero, List.getD_cons_succ, List.map_cons, List.map_nil, iOf, bOf, sOf, pOf, slLen, slBase, cmpI, arI, Value.ite_bool, int_beq, int_bne, ite_band, ite_bor, decide_eq_false_iff_not] at g7
        obtain rfl : j = (listAt l m).length := by omega
        rw [List.take_length] at h7 hall
        refine ⟨_, lookup_two, n - 1, by omega, m + 1, C ++ listAt l m, S7, ?_, by omega, PH.le_trans l6 l7, h7, ?_, ?_, ?_⟩
        · simp only [ev0, ev, evV, List.cons_append, List.nil_append, List.getD_cons_zero, List.getD_cons_succ, List.map_cons, List.map_nil, iOf, bOf, sOf, pOf, slLen, slBase, cmpI, arI, Value.ite_bool, int_beq, int_bne, ite_band, ite_bor, hw2]
        · intro _
          cases m with
          | zero => intro x hx; exact (hall x hx).2
          | succ i => exact i1 (by omega)
        · intro i f hi hf
          cases m with
          | zero => omega
          | succ m' =>
            by_cases hji : i = m'
            · subst hji
              refine ⟨fun x hx => ?_, hfo i f rfl hf⟩
              have := (hall x (by simp only [listAt, hf]; exact hx)).1
              omega
            · exact i2 i f (by omega) hf
        · rw [if_neg (by omega), i3]
          cases m with
          | zero => simp [listAt]
          | succ i =>
            obtain ⟨f, hf⟩ : ∃ f, l.funs[i]? = some f := ⟨_, List.getElem?_eq_getElem (show i < l.funs.length by omega)⟩
            rw [if_neg (by omega)]
            simp only [Nat.add_sub_cancel, listAt, hf]
            rw [List.take_add_one, hf, List.flatMap_append]
            simp
    · refine ⟨fun g5 => ?_, fun g5 => ?_⟩
      · simp only [ev0, ev, evV, List.cons_append, List.nil_append, List.getD_cons_zero, List.getD_cons_succ, List.map_cons, List.map_nil, iOf, bOf, sOf, pOf, slLen, slBase, cmpI, arI, Value.ite_bool, int_beq, int_bne, ite_band, ite_bor, decide_eq_true_eq] at g5
        obtain rfl : m = 0 := by omega
        have hcall := Held.call (P := Tryz.prog) (f := n_scrimshawref14_closures) (J := [orow (α := Int) 3 [] (.slice none 0 0)]) (R := fun x S' J' => ∃ v', x = .returned v' ∧ J' = [orow 3 (l.main.clos l.funs) v']) (h5.empty (α := Int) 3) fun K' hK => (Closures_tri l hL1 l.main _ _ S4 K' [] _ (Xp.Rep.le l4 _ r1') (PV.RepRow.le l4 hls') hK (by simp only [List.length_nil]; omega)).mono fun x K'' ⟨S', v', z1, z2, z3⟩ => ⟨S', _, z1, z3, v', z2, rfl⟩
        refine den_call cb_scrimshawref14_closures hcall ?_
        rintro x K6 ⟨S6, J6, l6, h6, v6, rfl, rfl⟩
        obtain ⟨S7, s7, l7, h7⟩ := Held.freeze (show Held S6 K6 (orow 3 (l.main.clos l.funs) v6 :: [orow 3 (nmOf l.funs.length C) (.slice vb l.funs.length vc)]) from h6)
        obtain ⟨b6, c6, hv6⟩ := s7.sl
        exact ⟨_, [v6], rfl, by rw [hv6]; rfl, rfl, pendNil, _, lookup_hit, v6, S7, rfl, PH.le_trans l4 (PH.le_trans l6 l7), s7, h7, fun j f h => absurd h (by omega)⟩
      · simp only [ev0, ev, evV, List.cons_append, List.nil_append, List.getD_cons_zero, List.getD_cons_succ, List.map_cons, List.map_nil, iOf, bOf, sOf, pOf, slLen, slBase, cmpI, arI, Value.ite_bool, int_beq, int_bne, ite_band, ite_bor, decide_eq_false_iff_not] at g5
        obtain ⟨i, rfl⟩ : ∃ i, m = i + 1 := ⟨m - 1, by omega⟩
        have hmi : ((i + 1 : Nat) : Int) - 1 = (i : Int) := by omega
        obtain ⟨f, hf⟩ : ∃ f, l.funs[i]? = some f := ⟨_, List.getElem?_eq_getElem (show i < l.funs.length by omega)⟩
        obtain ⟨q1, _, ces, q2, q3⟩ := (s1.le l4).get hf
        have q2' := q2
        obtain ⟨pv, rv, bs, rfl, d1, d2, d3⟩ := fun_iff.1 q2
        obtain ⟨a1, a2, rfl⟩ := d1.sl
        obtain ⟨a3, a4, rfl⟩ := d2.sl
        have ht3 := Xp.Rep.tags d3
        have d3' := d3
        obtain ⟨w1, w2, w3, w4, w5, w6, rfl, _⟩ := Xp.Rep.open d3
        have hfm := hL3 f (List.mem_of_getElem? hf)
        have hst1 := sizes_take l.funs (i + 1)
        rw [take_body hf, Xps.size_append] at hst1
        simp only [Xps.size, Nat.add_zero] at hst1
        refine ⟨fun _ => ?_, exVs f.body w1 w2 w3 w4 w5 w6, ht3, ?_, ?_⟩
        · simp only [Chk.holds, ev0, ev, evV, List.cons_append, List.nil_append, List.getD_cons_zero, List.getD_cons_succ, List.map_cons, List.map_nil, iOf, bOf, sOf, pOf, slLen, slBase, cmpI, arI, Value.ite_bool, int_beq, int_bne, ite_band, ite_bor, hmi]; exact ⟨q1, by omega, by omega⟩
        · have := rowAt_sub (rowAt_le h5.sh q3) 2 8
          simp only [ev0, ev, evV, List.cons_append, List.nil_append, List.getD_cons_zero, List.getD_cons_succ, List.map_cons, List.map_nil, iOf, bOf, sOf, pOf, slLen, slBase, cmpI, arI, Value.ite_bool, int_beq, int_bne, ite_band, ite_bor, hmi]
          exact this
        have hcall := Held.call (P := Tryz.prog) (f := n_scrimshawref14_closures) (J := [orow (α := Int) 3 [] (.slice none 0 0)]) (R := fun x S' J' => ∃ v', x = .returned v' ∧ J' = [orow 3 (f.body.clos l.funs) v']) (h5.empty (α := Int) 3) fun K' hK => (Closures_tri l hL1 f.body _ _ S4 K' [] _ d3' (PV.RepRow.le l4 hls') hK (by simp only [List.length_nil]; omega)).mono fun x K'' ⟨S', v', z1, z2, z3⟩ => ⟨S', _, z1, z3, v', z2, rfl⟩
        simp only [List.cons_append, List.nil_append]
        refine den_call cb_scrimshawref14_closures hcall ?_
        rintro x K6 ⟨S6, J6, l6, h6, v6, rfl, rfl⟩
        obtain ⟨S7, s7, l7, h7⟩ := Held.freeze (show Held S6 K6 (orow 3 (f.body.clos l.funs) v6 :: [orow 3 (nmOf l.funs.length C) (.slice vb l.funs.length vc)]) from h6)
        obtain ⟨b6, c6, hv6⟩ := s7.sl
        have l47 := PH.le_trans l6 l7
        refine ⟨_, [v6], rfl, by rw [hv6]; rfl, rfl, pendNil, .slice a1 f.params.length a2 :: .slice a3 f.frees.length a4 :: exVs f.body w1 w2 w3 w4 w5 w6, rfl, ?_, ?_⟩
        · simp only [ev0, ev, evV, List.cons_append, List.nil_append, List.getD_cons_zero, List.getD_cons_succ, List.map_cons, List.map_nil, iOf, bOf, sOf, pOf, slLen, slBase, cmpI, arI, Value.ite_bool, int_beq, int_bne, ite_band, ite_bor, hmi]; exact rowAt_le (PH.le_trans l47 h7.sh) q3
        refine den_gives [.bool (funOk f)] cb_scrimshawref14_names (Names14_gives f _ K6 (PV.RepRow.le (PH.le_trans l47 h7.sh) q2') hfm.1 hfm.2.1 (hWf f (List.mem_of_getElem? hf))) rfl pendNil fun K8 l8 => ⟨fun g8 => ?_, fun g8 => ?_⟩
        · simp only [ev0, ev, evV, List.cons_append, List.nil_append, List.getD_cons_zero, List.getD_cons_succ, List.map_cons, List.map_nil, iOf, bOf, sOf, pOf, slLen, slBase, cmpI, arI, Value.ite_bool, int_beq, int_bne, ite_band, ite_bor, Bool.not_eq_true'] at g8
          refine ⟨?_, PH.le_trans l4 (PH.le_trans l47 (PH.le_trans h7.sh l8))⟩
          rw [hbad]
          · rfl
          intro hg
          rw [(hg.fn i f hf).2] at g8
          cases g8
        · simp only [ev0, ev, evV, List.cons_append, List.nil_append, List.getD_cons_zero, List.getD_cons_succ, List.map_cons, List.map_nil, iOf, bOf, sOf, pOf, slLen, slBase, cmpI, arI, Value.ite_bool, int_beq, int_bne, ite_band, ite_bor, Bool.not_eq_false'] at g8
          refine ⟨_, lookup_hit, v6, S7, rfl, PH.le_trans l4 l47, ?_, h7.le l8, ?_⟩
          · simp only [listAt, hf]; exact s7
          · intro j f' hj hf'
            obtain rfl : j = i := by omega
            rw [hf] at hf'; cases hf'
            exact g8
  simp only [ev0, ev, evV, List.cons_append, List.nil_append, List.getD_cons_zero, List.getD_cons_succ, List.map_cons, List.map_nil, iOf, bOf, sOf, pOf, slLen, slBase, cmpI, arI, Value.ite_bool, int_beq, int_bne, ite_band, ite_bor, decide_eq_false_iff_not] at g3
  obtain rfl : m = l.funs.length + 1 := by omega
  rw [if_neg (by omega)] at i3
  simp only [Nat.add_sub_cancel, List.take_length] at i3
  have hCa : C = allC l := i3
  subst hCa
  have hM := i1 (by omega)
  have hFO : FunsOk l.funs := fun j f hf => i2 j f (by have := (List.getElem?_eq_some_iff.1 hf).1; omega) hf
  have hAM : AtI l.funs (-1) l.main := fun x hx => by have := hM x hx; omega
  refine ⟨fun n2 vs K' => ∃ j : Nat, vs = [.int .i64 0, .int .i64 j] ∧ j + n2 = l.funs.length ∧ Held S4 K' [orow 3 (nmOf l.funs.length (allC l)) (.slice vb l.funs.length vc)] ∧ ∀ q : Nat, q < j → (allC l).count (q : Int) = 1, ⟨l.funs.length, 0, rfl, by omega, h4, fun q h => absurd h (by omega)⟩, ?_⟩
  rintro n2 vs K5 _ ⟨j, rfl, hjn, h5, hone⟩
  refine ⟨fun g5 => ?_, fun g5 => ?_⟩
  · simp only [ev0, ev, evV, List.cons_append, List.nil_append, List.getD_cons_zero, List.getD_cons_succ, List.map_cons, List.map_nil, iOf, bOf, sOf, pOf, slLen, slBase, cmpI, arI, Value.ite_bool, int_beq, int_bne, ite_band, ite_bor, decide_eq_true_eq] at g5
    have hq : j < l.funs.length := by omega
    have hget := nmOf_get (C := allC l) hq
    obtain ⟨z1, _, ces, z2, z3⟩ := ((h5.row (List.mem_cons_self ..)).slR h5.sh).get hget
    obtain ⟨rfl, hci⟩ := csIntL z2
    refine ⟨fun _ => ?_, [.int .i64 (((allC l).count (j : Int) : Nat) : Int)], rfl, by simp only [ev0, ev, evV, List.cons_append, List.nil_append, List.getD_cons_zero, List.getD_cons_succ, List.map_cons, List.map_nil, iOf, bOf, sOf, pOf, slLen, slBase, cmpI, arI, Value.ite_bool, int_beq, int_bne, ite_band, ite_bor]; exact z3, fun g6 => ?_, fun g6 => ?_⟩
    · simp only [Chk.holds, ev0, ev, evV, List.cons_append, List.nil_append, List.getD_cons_zero, List.getD_cons_succ, List.map_cons, List.map_nil, iOf, bOf, sOf, pOf, slLen, slBase, cmpI, arI, Value.ite_bool, int_beq, int_bne, ite_band, ite_bor]; exact ⟨z1, by omega, by omega⟩
    · simp only [ev0, ev, evV, List.cons_append, List.nil_append, List.getD_cons_zero, List.getD_cons_succ, List.map_cons, List.map_nil, iOf, bOf, sOf, pOf, slLen, slBase, cmpI, arI, Value.ite_bool, int_beq, int_bne, ite_band, ite_bor, decide_eq_true_eq] at g6
      refine ⟨?_, PH.le_trans l4 h5.sh⟩
      rw [hbad]
      · rfl
      intro hg
      have := hg.once j hq
      omega
    · simp only [ev0, ev, evV, List.cons_append, List.nil_append, List.getD_cons_zero, List.getD_cons_succ, List.map_cons, List.map_nil, iOf, bOf, sOf, pOf, slLen, slBase, cmpI, arI, Value.ite_bool, int_beq, int_bne, ite_band, ite_bor, decide_eq_false_iff_not, ne_eq, Decidable.not_not] at g6
      refine ⟨_, lookup_hit, n2 - 1, by omega, j + 1, ?_, by omega, h5, fun q hq2 => ?_⟩
      · simp only [ev0, ev, evV, List.cons_append, List.nil_append, List.getD_cons_zero, List.getD_cons_succ, List.map_cons, List.map_nil, iOf, bOf, sOf, pOf, slLen, slBase, cmpI, arI, Value.ite_bool, int_beq, int_bne, ite_band, ite_bor]
        rw [w64 (by omega) (by omega)]
        rfl
      · by_cases hqj : q = j
        · subst hqj; omega
        · exact hone q (by omega)
  simp only [ev0, ev, evV, List.cons_append, List.nil_append, List.getD_cons_zero, List.getD_cons_succ, List.map_cons, List.map_nil, iOf, bOf, sOf, pOf, slLen, slBase, cmpI, arI, Value.ite_bool, int_beq, int_bne, ite_band, ite_bor, decide_eq_false_iff_not] at g5
  obtain rfl : j = l.funs.length := by omega
  refine ⟨fun vs K' => ∃ b : Bool, vs = [.bool b] ∧ (b = true ↔ ¬ GoodL l) ∧ PH.le S4 K', ?_, ?_⟩
  · rintro vs K8 _ ⟨b, rfl, hb, l8⟩
    refine ⟨fun g8 => ?_, fun g8 => ?_⟩
    · simp only [ev0, ev, evV, List.cons_append, List.nil_append, List.getD_cons_zero, List.getD_cons_succ, List.map_cons, List.map_nil, iOf, bOf, sOf, pOf, slLen, slBase, cmpI, arI, Value.ite_bool, int_beq, int_bne, ite_band, ite_bor] at g8
      refine ⟨?_, PH.le_trans l4 l8⟩
      rw [hchk, if_neg (hb.1 g8)]; rfl
    · simp only [ev0, ev, evV, List.cons_append, List.nil_append, List.getD_cons_zero, List.getD_cons_succ, List.map_cons, List.map_nil, iOf, bOf, sOf, pOf, slLen, slBase, cmpI, arI, Value.ite_bool, int_beq, int_bne, ite_band, ite_bor] at g8
      refine ⟨?_, PH.le_trans l4 l8⟩
      rw [hchk, if_pos (Classical.not_not.1 fun h => by rw [hb.2 h] at g8; cases g8)]; rfl
  have l4K := PH.le_trans l4 h5.sh
  refine den_call cb_scrimshawref14_free (Free14_tri l.main _ K5 K5 [] [] _ _ (Xp.Rep.le l4K _ r1') (SlR.mk_iff.2 ⟨Nat.zero_le _, .inl ⟨rfl, rfl⟩⟩) ((Held.nil (PH.le_refl K5)).empty _) (by simp only [List.length_nil]; omega) (by simp only [List.length_nil]; omega)) ?_
  rintro x K8 ⟨S8, v8, l8, rfl, h8⟩
  rw [List.nil_append] at h8
  obtain ⟨b8, c8, rfl⟩ := (h8.row (List.mem_cons_self ..)).sl
  refine ⟨_, [.slice b8 (l.main.fr14 []).length c8], rfl, rfl, rfl, pendNil, fun g8 => ?_, fun g8 => ?_⟩
  · simp only [ev0, ev, evV, List.cons_append, List.nil_append, List.getD_cons_zero, List.getD_cons_succ, List.map_cons, List.map_nil, iOf, bOf, sOf, pOf, slLen, slBase, cmpI, arI, Value.ite_bool, int_beq, int_bne, ite_band, ite_bor, decide_eq_true_eq] at g8
    refine ⟨_, lookup_hit, true, rfl, ⟨fun _ hg => ?_, fun _ => rfl⟩, PH.le_trans h5.sh (PH.le_trans l8 h8.sh)⟩
    rw [hg.free] at g8
    simp at g8
  simp only [ev0, ev, evV, List.cons_append, List.nil_append, List.getD_cons_zero, List.getD_cons_succ, List.map_cons, List.map_nil, iOf, bOf, sOf, pOf, slLen, slBase, cmpI, arI, Value.ite_bool, int_beq, int_bne, ite_band, ite_bor, decide_eq_false_iff_not] at g8
  have hfree : l.main.fr14 [] = [] := List.length_eq_zero_iff.1 (by omega)
  have l8K := PH.le_trans l4K (PH.le_trans l8 h8.sh)
  simp only [List.cons_append, List.nil_append]
  refine den_call cb_scrimshawref14_lower (Lower14_tri l hFO ⟨hL1, hL2, hL3⟩ (-1) l.main (by omega) hAM hL2 K8 _ _ (PV.RepRow.le l8K hls') (Xp.Rep.le l8K _ r1')) ?_
  rintro x K9 ⟨l9, es, rfl, r9⟩
  have ht9 := Xp.Rep.tags r9
  have r9' := r9
  obtain ⟨y1, y2, y3, y4, y5, y6, rfl, _⟩ := Xp.Rep.open r9'
  refine ⟨_, _, rfl, ht9, rfl, pendNil, ?_⟩
  refine den_gives [.int .i64 ((lowN l.funs l.main).chk false 0 0).2] cb_scrimshawref06_Check (RCheckF6_gives _ _ K9 r9) rfl pendNil fun K10 l10 => ⟨_, lookup_hit, decide (((lowN l.funs l.main).chk false 0 0).2 ≠ 0), ?_, ?_, PH.le_trans h5.sh (PH.le_trans l8 (PH.le_trans h8.sh (PH.le_trans l9 l10)))⟩
  · simp only [ev0, ev, evV, List.cons_append, List.nil_append, List.getD_cons_zero, List.getD_cons_succ, List.map_cons, List.map_nil, iOf, bOf, sOf, pOf, slLen, slBase, cmpI, arI, Value.ite_bool, int_beq, int_bne, ite_band, ite_bor, ne_eq]
  · rw [decide_eq_true_eq]
    constructor
    · intro h hg; exact h ((chk_both _).2 hg.ok)
    · intro h hc
      exact h ⟨hM, fun j f hf => hFO j f hf, hone, hfree, (chk_both _).1 hc⟩

/-! ### Lower, the law -/
set_option maxHeartbeats 2000000 in
theorem LowerR_tri (l : LifX) (hL : FitL l) (hW : l.wt ≤ 1048576) (ls : List Value) (S : PH) (hls : CsR S l ls) : Tri Tryz.prog n_scrimshawref14_Lower #[.agg ls.toArray] S fun x S' => PH.le S S' ∧ ∃ es : List Value, x = .returned (.tuple #[.agg es.toArray, .int .i64 (lowerL l).2]) ∧ (lowerL l).1.Rep S' es := by
  have hls' := hls
  obtain ⟨fv, bs, rfl, s1, r1⟩ := lif_iff.1 hls
  obtain ⟨fb, fc, rfl⟩ := s1.sl
  have r1' := r1
  obtain ⟨p1, p2, p3, p4, p5, p6, rfl, _⟩ := Xp.Rep.open r1
  refine tri_scrimshawref14_Lower (.slice fb l.funs.length fc :: exVs l.main p1 p2 p3 p4 p5 p6) (by kernel_rfl) (by kernel_rfl) ?_
  refine den_gives [.int .i64 (chkL l)] cb_scrimshawref14_Check (Check14_gives l hL hW _ S hls') rfl pendNil fun K1 l1 => ⟨fun g => ?_, fun g => ?_⟩
  · simp only [ev0, ev, evV, List.cons_append, List.nil_append, List.getD_cons_zero, List.getD_cons_succ, List.map_cons, List.map_nil, iOf, bOf, sOf, pOf, slLen, slBase, cmpI, arI, Value.ite_bool, int_beq, int_bne, ite_band, ite_bor, decide_eq_true_eq] at g
    have hlow : lowerL l = (exZ, chkL l) := by unfold lowerL; rw [if_neg g]
    rw [hlow]
    exact ⟨l1, [.int .i64 0, txt [], .slice none 0 0, .int .i64 0, .int .i64 0, txt [], .slice none 0 0, .slice none 0 0], rfl, ex0_rep K1⟩
  · simp only [ev0, ev, evV, List.cons_append, List.nil_append, List.getD_cons_zero, List.getD_cons_succ, List.map_cons, List.map_nil, iOf, bOf, sOf, pOf, slLen, slBase, cmpI, arI, Value.ite_bool, int_beq, int_bne, ite_band, ite_bor, decide_eq_false_iff_not, ne_eq, Decidable.not_not] at g
    have hlow : lowerL l = (lowX l, 0) := by unfold lowerL; rw [if_pos g]
    have hg : GoodL l := chk_good g
    rw [hlow]
    refine den_call cb_scrimshawref14_lower (Lower14_tri l hg.funs hL (-1) l.main (by omega) hg.at hL.2.1 K1 _ _ (PV.RepRow.le l1 hls') (Xp.Rep.le l1 _ r1')) ?_
    rintro x K2 ⟨l2, es, rfl, r2⟩
    have ht2 := Xp.Rep.tags r2
    have r2' := r2
    obtain ⟨y1, y2, y3, y4, y5, y6, rfl, _⟩ := Xp.Rep.open r2'
    exact ⟨_, _, rfl, ht2, rfl, pendNil, PH.le_trans l1 l2, _, rfl, r2⟩
set_option maxHeartbeats 4000000 in
theorem LiftedChecks_law (l : LifX) (ls : List Value) (H : PH) (hls : CsR H l ls) (hW : l.wt ≤ 1048576) : Gives Tryz.prog n_scrimshawlaw14_LiftedChecks [.agg ls.toArray] H (.bool true) := by
  have hL := fit_lif hW
  have hls' := hls
  obtain ⟨fv, bs, rfl, s1, r1⟩ := lif_iff.1 hls
  obtain ⟨fb, fc, rfl⟩ := s1.sl
  obtain ⟨p1, p2, p3, p4, p5, p6, rfl, _⟩ := Xp.Rep.open r1
  refine tri_scrimshawlaw14_LiftedChecks (.slice fb l.funs.length fc :: exVs l.main p1 p2 p3 p4 p5 p6) (by kernel_rfl) (by kernel_rfl) ?_
  refine den_call cb_lift_Lower (LowerL_tri l hL _ H hls') ?_
  rintro x H1 ⟨l1, es, rfl, r2⟩
  have r2' := r2
  obtain ⟨q1, q2, q3, q4, q5, q6, rfl, _⟩ := Xp.Rep.open r2'
  refine ⟨_, exVs (lowerL l).1 q1 q2 q3 q4 q5 q6 ++ [.int .i64 (lowerL l).2], rfl, rfl, rfl, pendNil, ?_⟩
  simp only [List.cons_append, List.nil_append]
  refine den_call cb_scrimshawref14_Lower (LowerR_tri l hL hW _ H1 (PV.RepRow.le l1 hls')) ?_
  rintro x H2 ⟨l2, es, rfl, r3⟩
  have r3' := r3
  obtain ⟨w1, w2, w3, w4, w5, w6, rfl, _⟩ := Xp.Rep.open r3'
  refine ⟨_, exVs (lowerL l).1 w1 w2 w3 w4 w5 w6 ++ [.int .i64 (lowerL l).2], rfl, rfl, rfl, pendNil, ?_⟩
  have l12 := PH.le_trans l1 l2
  refine ⟨fun vs H' => vs = [.bool true] ∧ PH.le H H', ?_, ?_⟩
  · rintro vs H3 _ ⟨rfl, l3⟩; exact ⟨rfl, l3⟩
  refine den_gives [.bool true] cb_scrimshawlaw14_fixed (LFixed_gives H2) rfl pendNil fun H3 l3 => ⟨fun _ => ?_, fun g => absurd g (by simp [ev0, ev, evV, List.cons_append, List.nil_append, List.getD_cons_zero, List.getD_cons_succ, List.map_cons, List.map_nil, iOf, bOf, sOf, pOf, slLen, slBase, cmpI, arI, Value.ite_bool])⟩
  have l13 := PH.le_trans l12 l3
  simp only [List.cons_append, List.nil_append]
  refine den_gives [.int .i64 (chkL l)] cb_lift_Check (CheckL_gives l hL _ H3 (PV.RepRow.le l13 hls')) rfl pendNil fun H4 l4 => ?_
  have l14 := PH.le_trans l13 l4
  simp only [List.cons_append, List.nil_append]
  refine den_gives [.int .i64 (chkL l)] cb_scrimshawref14_Check (Check14_gives l hL hW _ H4 (PV.RepRow.le l14 hls')) rfl pendNil fun H5 l5 => ?_
  have l25 := PH.le_trans l3 (PH.le_trans l4 l5)
  refine ⟨fun _ => ?_, fun g => absurd g (by simp [ev0, ev, evV, List.cons_append, List.nil_append, List.getD_cons_zero, List.getD_cons_succ, List.map_cons, List.map_nil, iOf, bOf, sOf, pOf, slLen, slBase, cmpI, arI, Value.ite_bool, int_beq, int_bne, ite_band, ite_bor])⟩
  simp only [List.cons_append, List.nil_append]
  refine den_gives [.bool (decide ((lowerL l).1 = (lowerL l).1))] cb_scrimshawref06_Same (XSame_gives _ _ _ _ H5 (Xp.Rep.le (PH.le_trans l2 l25) _ r2) (Xp.Rep.le l25 _ r3)) rfl pendNil fun H6 l6 => ⟨_, lookup_hit, ?_, PH.le_trans l14 (PH.le_trans l5 l6)⟩
  simp [ev0, ev, evV, List.cons_append, List.nil_append, List.getD_cons_zero, List.getD_cons_succ, List.map_cons, List.map_nil, iOf, bOf, sOf, pOf, slLen, slBase, cmpI, arI, Value.ite_bool, int_beq, int_bne, ite_band, ite_bor]
end Go.Proofs.YtibinelkmlcmgaaGreat.Vc
