/-
  DATA: the program's own check.
-/
import Derived.Test.YtlnmmakbgldflaaGreatDoorDd
set_option linter.unusedSimpArgs false
set_option linter.unusedVariables false
set_option maxRecDepth 100000
namespace Go.Proofs.YtlnmmakbgldflaaGreatDoor.Vc
open Go

theorem RCheckF_gives (d : Dat) (cs : List Value) (H : PH) (hd : d.Rep H cs) : Gives Tryz.prog n_scrimshawref02_Check [.agg cs.toArray] H (.int .i64 (d.chk 0 0).2) := by
  have hc := RCheck_gives d cs H 0 0 hd (by omega) (by omega)
  obtain ⟨sv, rfl, hk, hn, ht, hs⟩ := Dat.Rep_iff.1 hd
  obtain ⟨b, c, rfl⟩ := hs.sl
  refine tri_scrimshawref02_Check [.int .i64 d.kind, .int .i64 d.int, txt d.text, .slice b d.list.length c] (by kernel_rfl) (by kernel_rfl) ?_
  refine den_gives [.int .i64 (d.chk 0 0).1, .int .i64 (d.chk 0 0).2] cb_scrimshawref02_check hc rfl pendNil fun H3 h6 => ⟨rfl, h6⟩

theorem DCheck_tri : ∀ (d : Dat) (cs : List Value) (H : PH) (wr deep seen : Nat) (T : TypeId), d.Rep (H.del wr) cs → H wr = some (.cells #[.int .i64 seen] T (0, 0)) → deep ≤ 32 → seen ≤ 4096 →
    Tri Tryz.prog n_data_checker__check #[.pointer (some ⟨wr, 0, none⟩), .agg cs.toArray, .int .i64 deep] H fun e H' => e = .returned (.int .i64 (d.chk deep seen).2) ∧ H' wr = some (.cells #[.int .i64 (d.chk deep seen).1] T (0, 0)) ∧ PH.le (H.del wr) (H'.del wr) := by
  refine Dat.ind ?_
  intro d ih cs H wr deep seen T hd hwr hdeep hseen
  have hd' := hd
  obtain ⟨sv, rfl, hk, hn, ht, hs⟩ := Dat.Rep_iff.1 hd
  obtain ⟨b, c, rfl⟩ := hs.sl
  have hlen : d.list.length ≤ maxLen := hs.max
  simp only [maxLen] at hlen ht
  rw [Dat.chk_eq]
  refine tri_data_checker__check [.pointer (some ⟨wr, 0, none⟩), .int .i64 d.kind, .int .i64 d.int, txt d.text, .slice b d.list.length c, .int .i64 deep] (by kernel_rfl) (by kernel_rfl) ?_
  have hrow : rowAt H (some ⟨wr, 0, none⟩) [.int .i64 seen] := ⟨_, rfl, fun i v hi => by
    rw [Addr.add_plain, PH.cell_at hwr]
    cases i with
    | zero => simpa using hi
    | succ i => simp at hi⟩
  have hs1 : IntKind.i64.wrap ((seen : Int) + 1) = ((seen + 1 : Nat) : Int) := by rw [w64 (by omega) (by omega)]; omega
  refine ⟨fun _ => rfl, [.int .i64 seen], rfl, hrow, ?_⟩
  refine ⟨fun h0 => ?_, fun h0 => ?_⟩
  · simp only [ev0, ev, evV, List.cons_append, List.nil_append, List.getD_cons_zero, List.getD_cons_succ, List.map_cons, List.map_nil, iOf, bOf, sOf, pOf, slLen, slBase, cmpI, arI, Value.ite_bool, int_beq, int_bne, ite_band, ite_bor, decide_eq_true_eq] at h0
    have h0' : seen = 4096 := by omega
    refine ⟨?_, ?_, PH.le_refl _⟩
    · rw [if_pos h0']; rfl
    · rw [if_pos h0']; exact hwr
  simp only [ev0, ev, evV, List.cons_append, List.nil_append, List.getD_cons_zero, List.getD_cons_succ, List.map_cons, List.map_nil, iOf, bOf, sOf, pOf, slLen, slBase, cmpI, arI, Value.ite_bool, int_beq, int_bne, ite_band, ite_bor, decide_eq_false_iff_not] at h0
  rw [if_neg (show ¬ seen = 4096 by omega)]
  refine ⟨[.int .i64 seen], rfl, hrow, ⟨wr, 0, none⟩, rfl, ?_⟩
  refine wpS_storeCells _ 0 0 #[.int .i64 seen] H hwr (by simp) (by simp [ev0, ev, oneC]) ?_
  have hsp : splice #[Value.int .i64 seen] (0 + 0) (List.map (ev0 ([.pointer (some ⟨wr, 0, none⟩), .int .i64 d.kind, .int .i64 d.int, txt d.text, .slice b d.list.length c, .int .i64 deep] ++ [.int .i64 seen] ++ [.int .i64 seen])) [.ar .add .i64 (.atom 7) (.int .i64 1)]) = #[.int .i64 ((seen + 1 : Nat) : Int)] := by
    simp only [ev0, ev, evV, List.cons_append, List.nil_append, List.getD_cons_zero, List.getD_cons_succ, List.map_cons, List.map_nil, iOf, bOf, sOf, pOf, slLen, slBase, cmpI, arI, Value.ite_bool, int_beq, int_bne, ite_band, ite_bor, hs1]; rfl
  rw [hsp]
  have hw1 : (H.upd wr (.cells #[.int .i64 ((seen + 1 : Nat) : Int)] T (0, 0))) wr = some (.cells #[.int .i64 ((seen + 1 : Nat) : Int)] T (0, 0)) := PH.upd_same
  have hdl : PH.le (H.del wr) ((H.upd wr (.cells #[.int .i64 ((seen + 1 : Nat) : Int)] T (0, 0))).del wr) := by rw [PH.del_upd]; exact PH.le_refl _
  generalize H.upd wr (.cells #[.int .i64 ((seen + 1 : Nat) : Int)] T (0, 0)) = H1 at hw1 hdl ⊢
  refine den_gives [.bool (nested d.kind)] cb_data_hasItems (hasItems_gives _ _ _ _ _ _ H1) rfl pendNil fun H2 h2 => ?_
  have hw2 := h2 _ _ hw1
  have hd2 := PH.le_trans hdl (PH.del_mono h2 wr)
  refine ⟨fun h3 => ?_, fun h3 => ?_⟩
  · simp only [ev0, ev, evV, List.cons_append, List.nil_append, List.getD_cons_zero, List.getD_cons_succ, List.map_cons, List.map_nil, iOf, bOf, sOf, pOf, slLen, slBase, cmpI, arI, Value.ite_bool, int_beq, int_bne, ite_band, ite_bor, Bool.and_eq_true, decide_eq_true_eq] at h3
    have h3' : nested d.kind = true ∧ deep = 32 := ⟨h3.1, by omega⟩
    refine ⟨?_, ?_, hd2⟩
    · rw [if_pos h3']; rfl
    · rw [if_pos h3']; exact hw2
  simp only [ev0, ev, evV, List.cons_append, List.nil_append, List.getD_cons_zero, List.getD_cons_succ, List.map_cons, List.map_nil, iOf, bOf, sOf, pOf, slLen, slBase, cmpI, arI, Value.ite_bool, int_beq, int_bne, ite_band, ite_bor] at h3
  rw [if_neg (fun h => by simp [h.1, h.2] at h3)]
  refine den_gives [.bool (formOk d)] cb_data_form (DForm_gives d H2 (Dat.Rep.le (PH.le_trans hd2 (PH.del_le _ _)) d hd')) rfl pendNil fun H3 h4 => ?_
  have hw3 := h4 _ _ hw2
  have hd3 := PH.le_trans hd2 (PH.del_mono h4 wr)
  refine ⟨fun h5 => ?_, fun h5 => ?_⟩
  · simp only [ev0, ev, evV, List.cons_append, List.nil_append, List.getD_cons_zero, List.getD_cons_succ, List.map_cons, List.map_nil, iOf, bOf, sOf, pOf, slLen, slBase, cmpI, arI, Value.ite_bool, int_beq, int_bne, ite_band, ite_bor, Bool.not_eq_true'] at h5
    refine ⟨?_, ?_, hd3⟩
    · rw [if_pos h5]; rfl
    · rw [if_pos h5]; exact hw3
  simp only [ev0, ev, evV, List.cons_append, List.nil_append, List.getD_cons_zero, List.getD_cons_succ, List.map_cons, List.map_nil, iOf, bOf, sOf, pOf, slLen, slBase, cmpI, arI, Value.ite_bool, int_beq, int_bne, ite_band, ite_bor, Bool.not_eq_false'] at h5
  rw [if_neg (show ¬ formOk d = false by rw [h5]; simp)]
  refine ⟨fun n vs H' => ∃ (k s : Nat) (x : Int), vs = [.int .i64 x, .int .i64 k] ∧ k + n = d.list.length ∧ s ≤ 4096 ∧ Dats.chk d.list (deep + 1) (seen + 1) = Dats.chk (d.list.drop k) (deep + 1) s ∧ H' wr = some (.cells #[.int .i64 s] T (0, 0)) ∧ PH.le (H.del wr) (H'.del wr),
    ⟨d.list.length, 0, seen + 1, 0, rfl, by omega, by omega, by simp, hw3, hd3⟩, ?_⟩
  rintro n vs H' _ ⟨k, s, x, rfl, hkn, hs4, heq, hw, hle⟩
  refine ⟨fun h6 => ?_, fun h6 => ?_⟩
  · simp only [ev0, ev, evV, List.cons_append, List.nil_append, List.getD_cons_zero, List.getD_cons_succ, List.map_cons, List.map_nil, iOf, bOf, sOf, pOf, slLen, slBase, cmpI, arI, Value.ite_bool, int_beq, int_bne, ite_band, ite_bor, decide_eq_true_eq] at h6
    have hkl : k < d.list.length := by omega
    obtain ⟨e, he⟩ : ∃ e, d.list[k]? = some e := ⟨_, List.getElem?_eq_getElem hkl⟩
    obtain ⟨g1, ces, g2, g3, _, _⟩ := (hs.le hle).get he
    have hnest : nested d.kind = true := formOk_nested h5 (fun h => by rw [h] at hkl; simp at hkl)
    have hdp : deep ≠ 32 := fun h => by simp [hnest, h] at h3
    have hd1 : IntKind.i64.wrap ((deep : Int) + 1) = ((deep + 1 : Nat) : Int) := by rw [w64 (by omega) (by omega)]; omega
    refine ⟨fun _ => ?_, ?_⟩
    · simp only [Chk.holds, ev0, ev, evV, List.cons_append, List.nil_append, List.getD_cons_zero, List.getD_cons_succ, List.map_cons, List.map_nil, iOf, bOf, sOf, pOf, slLen, slBase, cmpI, arI, Value.ite_bool, int_beq, int_bne, ite_band, ite_bor]; exact ⟨g1, by omega, by omega⟩
    have htags := g2.tags
    have hcall := ih e (List.mem_of_getElem? he) ces H' wr (deep + 1) s T g2 hw (by omega) hs4
    obtain ⟨sve, rfl, _⟩ := Dat.Rep_iff.1 g2
    refine ⟨_, htags, ?_, ?_⟩
    · simp only [ev0, ev, evV, List.cons_append, List.nil_append, List.getD_cons_zero, List.getD_cons_succ, List.map_cons, List.map_nil, iOf, bOf, sOf, pOf, slLen, slBase, cmpI, arI, Value.ite_bool, int_beq, int_bne, ite_band, ite_bor]; exact rowAt_le (PH.del_le _ _) g3
    refine den_call (R := fun e' H'' => e' = .returned (.int .i64 (e.chk (deep + 1) s).2) ∧ H'' wr = some (.cells #[.int .i64 (e.chk (deep + 1) s).1] T (0, 0)) ∧ PH.le (H'.del wr) (H''.del wr)) cb_data_checker__check ?_ ?_
    · simp only [ev0, ev, evV, List.cons_append, List.nil_append, List.getD_cons_zero, List.getD_cons_succ, List.map_cons, List.map_nil, iOf, bOf, sOf, pOf, slLen, slBase, cmpI, arI, Value.ite_bool, int_beq, int_bne, ite_band, ite_bor, hd1]
      exact hcall
    rintro e' H4 ⟨rfl, hw4, hl4⟩
    refine ⟨_, [.int .i64 (e.chk (deep + 1) s).2], rfl, rfl, rfl, pendNil, ?_⟩
    have hle4 := PH.le_trans hle hl4
    have hdrop : d.list.drop k = e :: d.list.drop (k + 1) := by
      rw [List.drop_eq_getElem_cons hkl]
      congr 1
      rw [List.getElem?_eq_getElem hkl] at he
      exact Option.some.inj he
    rw [hdrop] at heq
    simp only [Dats.chk] at heq
    refine ⟨fun h7 => ?_, fun h7 => ?_⟩
    · simp only [ev0, ev, evV, List.cons_append, List.nil_append, List.getD_cons_zero, List.getD_cons_succ, List.map_cons, List.map_nil, iOf, bOf, sOf, pOf, slLen, slBase, cmpI, arI, Value.ite_bool, int_beq, int_bne, ite_band, ite_bor, decide_eq_true_eq] at h7
      rw [if_pos h7] at heq
      refine ⟨?_, ?_, hle4⟩
      · rw [heq]; rfl
      · rw [heq]; exact hw4
    · simp only [ev0, ev, evV, List.cons_append, List.nil_append, List.getD_cons_zero, List.getD_cons_succ, List.map_cons, List.map_nil, iOf, bOf, sOf, pOf, slLen, slBase, cmpI, arI, Value.ite_bool, int_beq, int_bne, ite_band, ite_bor, decide_eq_false_iff_not, ne_eq, Decidable.not_not] at h7
      rw [if_neg (by simp [h7])] at heq
      refine ⟨_, lookup_hit, n - 1, by omega, k + 1, (e.chk (deep + 1) s).1, x, ?_, by omega, Dat.chk_le e _ _ hs4, heq, hw4, hle4⟩
      simp only [ev0, ev, evV, List.cons_append, List.nil_append, List.getD_cons_zero, List.getD_cons_succ, List.map_cons, List.map_nil, iOf, bOf, sOf, pOf, slLen, slBase, cmpI, arI, Value.ite_bool, int_beq, int_bne, ite_band, ite_bor]
      rw [w64 (by omega) (by omega)]
      rfl
  · simp only [ev0, ev, evV, List.cons_append, List.nil_append, List.getD_cons_zero, List.getD_cons_succ, List.map_cons, List.map_nil, iOf, bOf, sOf, pOf, slLen, slBase, cmpI, arI, Value.ite_bool, int_beq, int_bne, ite_band, ite_bor, decide_eq_false_iff_not] at h6
    have : k = d.list.length := by omega
    subst this
    rw [List.drop_length] at heq
    simp only [Dats.chk] at heq
    refine ⟨?_, ?_, hle⟩
    · rw [heq]; rfl
    · rw [heq]; exact hw

theorem DCheckF_gives (d : Dat) (cs : List Value) (H : PH) (hd : d.Rep H cs) : Gives Tryz.prog n_data_Check [.agg cs.toArray] H (.int .i64 (d.chk 0 0).2) := by
  have hd' := hd
  obtain ⟨sv, rfl, hk, hn, ht, hs⟩ := Dat.Rep_iff.1 hd
  obtain ⟨b, c, rfl⟩ := hs.sl
  refine tri_data_Check [.int .i64 d.kind, .int .i64 d.int, txt d.text, .slice b d.list.length c] (by kernel_rfl) (by kernel_rfl) ?_
  intro r hr
  refine den_call cb_data_checker__check (DCheck_tri d _ _ r 0 0 _ (Dat.Rep.le (PH.del_new H r _ hr) d hd') PH.upd_same (by omega) (by omega)) ?_
  rintro e' H4 ⟨rfl, hw4, hl4⟩
  refine ⟨_, [.int .i64 (d.chk 0 0).2], rfl, rfl, rfl, pendNil, rfl, ?_⟩
  exact PH.le_trans (PH.del_new H r _ hr) (PH.le_trans hl4 (PH.del_le _ _))
end Go.Proofs.YtlnmmakbgldflaaGreatDoor.Vc

