/-
  Texts on the way to the statement, one behind the other, without what it does not reach.
-/
import Derived.Test.YtibinelkmlcmgaaGreatDoorKk
set_option linter.unusedSimpArgs false
set_option linter.unusedVariables false
set_option maxRecDepth 100000
/-
  CORE: the document's Check, Names.
-/
namespace Go.Proofs.YtibinelkmlcmgaaGreatDoor.Vc
open Go

theorem wrap1 {n m : Nat} (hn : n ≤ 9223372036854775807) (hm : m ≤ 9223372036854775807) : ((m : Int) = IntKind.i64.wrap ((n : Int) + 1)) ↔ m = n + 1 := by
  by_cases h : n = 9223372036854775807
  · subst h
    have : IntKind.i64.wrap (((9223372036854775807 : Nat) : Int) + 1) = -9223372036854775808 := by decide +kernel
    rw [this]; omega
  · rw [w64 (by omega) (by omega)]; omega
theorem RNames6_gives (l : List (List UInt8)) (v : Value) (H : PH) (hl : SlR H l v) : Gives Tryz.prog n_scrimshawref06_names [v] H (.bool (namesOk l)) := by
  obtain ⟨b, c, rfl⟩ := hl.sl
  have hm := hl.max
  simp only [maxLen] at hm
  have hcap := hl.capLe
  refine tri_scrimshawref06_names [.slice b l.length c] (by kernel_rfl) (by kernel_rfl) ?_
  refine ⟨fun n vs H' => ∃ k : Nat, vs = [.bool false, .int .i64 k] ∧ k + n = l.length ∧ namesOk l = namesFrom (l.take k) (l.drop k) ∧ PH.le H H', ⟨l.length, 0, rfl, by omega, by simp [namesOk], PH.le_refl H⟩, ?_⟩
  rintro n vs H1 _ ⟨k, rfl, hkn, hn, hle⟩
  refine ⟨fun h => ?_, fun h => ?_⟩
  · simp only [ev0, ev, evV, List.cons_append, List.nil_append, List.getD_cons_zero, List.getD_cons_succ, List.map_cons, List.map_nil, iOf, bOf, sOf, pOf, slLen, slBase, cmpI, arI, Value.ite_bool, int_beq, int_bne, ite_band, ite_bor, decide_eq_true_eq] at h
    obtain ⟨a, ha⟩ : ∃ a, l[k]? = some a := ⟨_, List.getElem?_eq_getElem (show k < l.length by omega)⟩
    obtain ⟨g1, _, ces, g2, g3⟩ := (hl.le hle).get ha
    obtain ⟨rfl, hla⟩ := csTxts g2
    rw [drop_get ha] at hn
    refine ⟨fun vs H' => vs = [.bool (!nameOk a || (l.take k).contains a)] ∧ PH.le H H', ?_, ?_⟩
    · rintro vs H' _ ⟨rfl, h1⟩
      refine ⟨fun h2 => ?_, fun h2 => ?_⟩
      · simp only [ev0, ev, evV, List.cons_append, List.nil_append, List.getD_cons_zero, List.getD_cons_succ, List.map_cons, List.map_nil, iOf, bOf, sOf, pOf, slLen, slBase, cmpI, arI, Value.ite_bool, int_beq, int_bne, ite_band, ite_bor, Bool.or_eq_true, Bool.not_eq_true'] at h2
        rw [hn, namesFrom_stop h2]
        exact ⟨rfl, h1⟩
      · simp only [ev0, ev, evV, List.cons_append, List.nil_append, List.getD_cons_zero, List.getD_cons_succ, List.map_cons, List.map_nil, iOf, bOf, sOf, pOf, slLen, slBase, cmpI, arI, Value.ite_bool, int_beq, int_bne, ite_band, ite_bor, Bool.or_eq_false_iff, Bool.not_eq_false'] at h2
        refine ⟨_, lookup_hit, n - 1, by omega, k + 1, ?_, by omega, ?_, h1⟩
        · simp only [ev0, ev, evV, List.cons_append, List.nil_append, List.getD_cons_zero, List.getD_cons_succ, List.map_cons, List.map_nil, iOf, bOf, sOf, pOf, slLen, slBase, cmpI, arI, Value.ite_bool, int_beq, int_bne, ite_band, ite_bor]; rw [w64 (by omega) (by omega)]; rfl
        · rw [hn]
          simp only [namesFrom, h2.1, h2.2, Bool.not_false, Bool.true_and]
          rw [List.take_add_one, ha]; rfl
    · refine ⟨fun _ => ?_, [txt a], rfl, by simp only [ev0, ev, evV, List.cons_append, List.nil_append, List.getD_cons_zero, List.getD_cons_succ, List.map_cons, List.map_nil, iOf, bOf, sOf, pOf, slLen, slBase, cmpI, arI, Value.ite_bool, int_beq, int_bne, ite_band, ite_bor]; exact g3, ?_⟩
      · simp only [Chk.holds, ev0, ev, evV, List.cons_append, List.nil_append, List.getD_cons_zero, List.getD_cons_succ, List.map_cons, List.map_nil, iOf, bOf, sOf, pOf, slLen, slBase, cmpI, arI, Value.ite_bool, int_beq, int_bne, ite_band, ite_bor]; exact ⟨g1, by omega, by omega⟩
      refine den_gives [.bool (nameOk a)] cb_scrimshawref02_Name (RName_gives a hla H1) rfl pendNil fun H2 h2 => ⟨fun _ => ?_, fun h3 => ?_, fun h3 => ?_⟩
      · simp only [Chk.holds, ev0, ev, evV, List.cons_append, List.nil_append, List.getD_cons_zero, List.getD_cons_succ, List.map_cons, List.map_nil, iOf, bOf, sOf, pOf, slLen, slBase, cmpI, arI, Value.ite_bool, int_beq, int_bne, ite_band, ite_bor, slCap]; omega
      · simp only [ev0, ev, evV, List.cons_append, List.nil_append, List.getD_cons_zero, List.getD_cons_succ, List.map_cons, List.map_nil, iOf, bOf, sOf, pOf, slLen, slBase, cmpI, arI, Value.ite_bool, int_beq, int_bne, ite_band, ite_bor, Bool.not_eq_true'] at h3
        exact ⟨_, lookup_hit, by simp only [ev0, ev, evV, List.cons_append, List.nil_append, List.getD_cons_zero, List.getD_cons_succ, List.map_cons, List.map_nil, iOf, bOf, sOf, pOf, slLen, slBase, cmpI, arI, Value.ite_bool, int_beq, int_bne, ite_band, ite_bor, h3]; rfl, PH.le_trans hle h2⟩
      · simp only [ev0, ev, evV, List.cons_append, List.nil_append, List.getD_cons_zero, List.getD_cons_succ, List.map_cons, List.map_nil, iOf, bOf, sOf, pOf, slLen, slBase, cmpI, arI, Value.ite_bool, int_beq, int_bne, ite_band, ite_bor, Bool.not_eq_false'] at h3
        have hcut := (hl.le (PH.le_trans hle h2)).cut (a := 0) (b := k) (by omega) (by omega)
        rw [List.drop_zero] at hcut
        refine ⟨[txt a], rfl, by simp only [ev0, ev, evV, List.cons_append, List.nil_append, List.getD_cons_zero, List.getD_cons_succ, List.map_cons, List.map_nil, iOf, bOf, sOf, pOf, slLen, slBase, cmpI, arI, Value.ite_bool, int_beq, int_bne, ite_band, ite_bor]; exact rowAt_le h2 g3, ?_⟩
        refine den_gives [.bool ((l.take k).contains a)] cb_scrimshawref06_Has ?_ rfl pendNil fun H4 h4 => ⟨_, lookup_hit, by simp only [ev0, ev, evV, List.cons_append, List.nil_append, List.getD_cons_zero, List.getD_cons_succ, List.map_cons, List.map_nil, iOf, bOf, sOf, pOf, slLen, slBase, cmpI, arI, Value.ite_bool, int_beq, int_bne, ite_band, ite_bor, h3]; rfl, PH.le_trans hle (PH.le_trans h2 h4)⟩
        have := Has_gives (l.take k) a _ H2 hcut
        simp only [ev0, ev, evV, List.cons_append, List.nil_append, List.getD_cons_zero, List.getD_cons_succ, List.map_cons, List.map_nil, iOf, bOf, sOf, pOf, slLen, slBase, cmpI, arI, Value.ite_bool, int_beq, int_bne, ite_band, ite_bor]
        exact this
  · simp only [ev0, ev, evV, List.cons_append, List.nil_append, List.getD_cons_zero, List.getD_cons_succ, List.map_cons, List.map_nil, iOf, bOf, sOf, pOf, slLen, slBase, cmpI, arI, Value.ite_bool, int_beq, int_bne, ite_band, ite_bor, decide_eq_false_iff_not] at h
    rw [List.drop_eq_nil_of_le (by omega)] at hn
    rw [hn]
    exact ⟨rfl, hle⟩
theorem RConst_gives (d : Dat) (cs : List Value) (H : PH) (hd : d.Rep H cs) : Gives Tryz.prog n_scrimshawref06_Const [.agg cs.toArray] H (.bool (constOk d)) := by
  have hc := RCheckF_gives d cs H hd
  obtain ⟨sv, rfl, hk, hn, ht, hs⟩ := Dat.Rep_iff.1 hd
  obtain ⟨b, c, rfl⟩ := hs.sl
  refine tri_scrimshawref06_Const [.int .i64 d.kind, .int .i64 d.int, txt d.text, .slice b d.list.length c] (by kernel_rfl) (by kernel_rfl) ?_
  refine den_gives [.int .i64 (d.chk 0 0).2] cb_scrimshawref02_Check hc rfl pendNil fun H1 h1 => ⟨fun g => ⟨?_, h1⟩, fun g => ⟨?_, h1⟩⟩
  · simp only [ev0, ev, evV, List.cons_append, List.nil_append, List.getD_cons_zero, List.getD_cons_succ, List.map_cons, List.map_nil, iOf, bOf, sOf, pOf, slLen, slBase, cmpI, arI, Value.ite_bool, int_beq, int_bne, ite_band, ite_bor, decide_eq_true_eq] at g
    have : constOk d = false := by unfold constOk; simp [g]
    simp only [ev0, ev, evV, List.cons_append, List.nil_append, List.getD_cons_zero, List.getD_cons_succ, List.map_cons, List.map_nil, iOf, bOf, sOf, pOf, slLen, slBase, cmpI, arI, Value.ite_bool, int_beq, int_bne, ite_band, ite_bor, this]
  · simp only [ev0, ev, evV, List.cons_append, List.nil_append, List.getD_cons_zero, List.getD_cons_succ, List.map_cons, List.map_nil, iOf, bOf, sOf, pOf, slLen, slBase, cmpI, arI, Value.ite_bool, int_beq, int_bne, ite_band, ite_bor, decide_eq_false_iff_not, ne_eq, Decidable.not_not] at g
    simp only [ev0, ev, evV, List.cons_append, List.nil_append, List.getD_cons_zero, List.getD_cons_succ, List.map_cons, List.map_nil, iOf, bOf, sOf, pOf, slLen, slBase, cmpI, arI, Value.ite_bool, int_beq, int_bne, ite_band, ite_bor]
    congr 2
    unfold constOk
    rw [← list_empty]
    simp only [g, decide_true, Bool.true_and]
def ar1a : List (List UInt8) := ar1.take 10
def ar1b : List (List UInt8) := ar1.drop 10
def ar2a : List (List UInt8) := ar2.take 11
def ar2b : List (List UInt8) := ar2.drop 11
theorem ar1_con (p : List UInt8) : ar1.contains p = (ar1a.contains p || ar1b.contains p) := by
  conv => lhs; rw [show ar1 = ar1a ++ ar1b from (List.take_append_drop 10 ar1).symm]
  rw [List.contains_append]
theorem ar2_con (p : List UInt8) : ar2.contains p = (ar2a.contains p || ar2b.contains p) := by
  conv => lhs; rw [show ar2 = ar2a ++ ar2b from (List.take_append_drop 11 ar2).symm]
  rw [List.contains_append]
theorem RArity_gives (p : List UInt8) (H : PH) : Gives Tryz.prog n_scrimshawref06_Arity [txt p] H (.int .i64 (arityI p)) := by
  refine tri_scrimshawref06_Arity [txt p] (by kernel_rfl) (by kernel_rfl) ?_
  refine ⟨fun vs H' => vs = [.bool (ar0.contains p)] ∧ H' = H, ?_, ?_⟩
  · rintro vs H' _ ⟨rfl, rfl⟩
    refine ⟨fun h => ?_, fun h => ?_⟩
    · simp only [ev0, ev, evV, List.cons_append, List.nil_append, List.getD_cons_zero, List.getD_cons_succ, List.map_cons, List.map_nil, iOf, bOf, sOf, pOf, slLen, slBase, cmpI, arI, Value.ite_bool, int_beq, int_bne, ite_band, ite_bor] at h
      exact ⟨by simp only [ev0, ev, evV, List.cons_append, List.nil_append, List.getD_cons_zero, List.getD_cons_succ, List.map_cons, List.map_nil, iOf, bOf, sOf, pOf, slLen, slBase, cmpI, arI, Value.ite_bool, int_beq, int_bne, ite_band, ite_bor, arityI, h]; rfl, PH.le_refl _⟩
    simp only [ev0, ev, evV, List.cons_append, List.nil_append, List.getD_cons_zero, List.getD_cons_succ, List.map_cons, List.map_nil, iOf, bOf, sOf, pOf, slLen, slBase, cmpI, arI, Value.ite_bool, int_beq, int_bne, ite_band, ite_bor] at h
    refine ⟨fun vs H2 => vs = [.bool (ar1a.contains p)] ∧ H2 = H', ?_, ?_⟩
    · rintro vs H' _ ⟨rfl, rfl⟩
      refine ⟨fun h2 => ?_, fun h2 => ?_⟩
      · simp only [ev0, ev, evV, List.cons_append, List.nil_append, List.getD_cons_zero, List.getD_cons_succ, List.map_cons, List.map_nil, iOf, bOf, sOf, pOf, slLen, slBase, cmpI, arI, Value.ite_bool, int_beq, int_bne, ite_band, ite_bor] at h2
        exact ⟨by simp only [ev0, ev, evV, List.cons_append, List.nil_append, List.getD_cons_zero, List.getD_cons_succ, List.map_cons, List.map_nil, iOf, bOf, sOf, pOf, slLen, slBase, cmpI, arI, Value.ite_bool, int_beq, int_bne, ite_band, ite_bor, arityI, h, ar1_con, h2]; rfl, PH.le_refl _⟩
      simp only [ev0, ev, evV, List.cons_append, List.nil_append, List.getD_cons_zero, List.getD_cons_succ, List.map_cons, List.map_nil, iOf, bOf, sOf, pOf, slLen, slBase, cmpI, arI, Value.ite_bool, int_beq, int_bne, ite_band, ite_bor] at h2
      refine ⟨fun vs H2 => vs = [.bool (ar1b.contains p)] ∧ H2 = H', ?_, ?_⟩
      · rintro vs H' _ ⟨rfl, rfl⟩
        refine ⟨fun h3 => ?_, fun h3 => ?_⟩
        · simp only [ev0, ev, evV, List.cons_append, List.nil_append, List.getD_cons_zero, List.getD_cons_succ, List.map_cons, List.map_nil, iOf, bOf, sOf, pOf, slLen, slBase, cmpI, arI, Value.ite_bool, int_beq, int_bne, ite_band, ite_bor] at h3
          exact ⟨by simp only [ev0, ev, evV, List.cons_append, List.nil_append, List.getD_cons_zero, List.getD_cons_succ, List.map_cons, List.map_nil, iOf, bOf, sOf, pOf, slLen, slBase, cmpI, arI, Value.ite_bool, int_beq, int_bne, ite_band, ite_bor, arityI, h, ar1_con, h2, h3]; rfl, PH.le_refl _⟩
        simp only [ev0, ev, evV, List.cons_append, List.nil_append, List.getD_cons_zero, List.getD_cons_succ, List.map_cons, List.map_nil, iOf, bOf, sOf, pOf, slLen, slBase, cmpI, arI, Value.ite_bool, int_beq, int_bne, ite_band, ite_bor] at h3
        refine ⟨fun vs H3 => vs = [.bool (ar2a.contains p)] ∧ H3 = H', ?_, ?_⟩
        · rintro vs H' _ ⟨rfl, rfl⟩
          refine ⟨fun h4 => ?_, fun h4 => ?_⟩
          · simp only [ev0, ev, evV, List.cons_append, List.nil_append, List.getD_cons_zero, List.getD_cons_succ, List.map_cons, List.map_nil, iOf, bOf, sOf, pOf, slLen, slBase, cmpI, arI, Value.ite_bool, int_beq, int_bne, ite_band, ite_bor] at h4
            exact ⟨by simp only [ev0, ev, evV, List.cons_append, List.nil_append, List.getD_cons_zero, List.getD_cons_succ, List.map_cons, List.map_nil, iOf, bOf, sOf, pOf, slLen, slBase, cmpI, arI, Value.ite_bool, int_beq, int_bne, ite_band, ite_bor, arityI, h, ar1_con, h2, h3, ar2_con, h4]; rfl, PH.le_refl _⟩
          simp only [ev0, ev, evV, List.cons_append, List.nil_append, List.getD_cons_zero, List.getD_cons_succ, List.map_cons, List.map_nil, iOf, bOf, sOf, pOf, slLen, slBase, cmpI, arI, Value.ite_bool, int_beq, int_bne, ite_band, ite_bor] at h4
          refine ⟨fun vs H3 => vs = [.bool (ar2b.contains p)] ∧ H3 = H', ?_, ?_⟩
          · rintro vs H' _ ⟨rfl, rfl⟩
            refine ⟨fun h5 => ?_, fun h5 => ?_⟩
            · simp only [ev0, ev, evV, List.cons_append, List.nil_append, List.getD_cons_zero, List.getD_cons_succ, List.map_cons, List.map_nil, iOf, bOf, sOf, pOf, slLen, slBase, cmpI, arI, Value.ite_bool, int_beq, int_bne, ite_band, ite_bor] at h5
              exact ⟨by simp only [ev0, ev, evV, List.cons_append, List.nil_append, List.getD_cons_zero, List.getD_cons_succ, List.map_cons, List.map_nil, iOf, bOf, sOf, pOf, slLen, slBase, cmpI, arI, Value.ite_bool, int_beq, int_bne, ite_band, ite_bor, arityI, h, ar1_con, h2, h3, ar2_con, h4, h5]; rfl, PH.le_refl _⟩
            simp only [ev0, ev, evV, List.cons_append, List.nil_append, List.getD_cons_zero, List.getD_cons_succ, List.map_cons, List.map_nil, iOf, bOf, sOf, pOf, slLen, slBase, cmpI, arI, Value.ite_bool, int_beq, int_bne, ite_band, ite_bor] at h5
            refine ⟨fun h6 => ?_, fun h6 => ?_⟩
            · simp only [ev0, ev, evV, List.cons_append, List.nil_append, List.getD_cons_zero, List.getD_cons_succ, List.map_cons, List.map_nil, iOf, bOf, sOf, pOf, slLen, slBase, cmpI, arI, Value.ite_bool, int_beq, int_bne, ite_band, ite_bor, txt_eql] at h6
              have : ar3.contains p = true := by simp [ar3] at h6 ⊢; exact h6
              exact ⟨by simp only [ev0, ev, evV, List.cons_append, List.nil_append, List.getD_cons_zero, List.getD_cons_succ, List.map_cons, List.map_nil, iOf, bOf, sOf, pOf, slLen, slBase, cmpI, arI, Value.ite_bool, int_beq, int_bne, ite_band, ite_bor, arityI, h, ar1_con, h2, h3, ar2_con, h4, h5, this]; rfl, PH.le_refl _⟩
            · simp only [ev0, ev, evV, List.cons_append, List.nil_append, List.getD_cons_zero, List.getD_cons_succ, List.map_cons, List.map_nil, iOf, bOf, sOf, pOf, slLen, slBase, cmpI, arI, Value.ite_bool, int_beq, int_bne, ite_band, ite_bor, txt_eql] at h6
              have : ar3.contains p = false := by simp [ar3] at h6 ⊢; exact h6
              exact ⟨by simp only [ev0, ev, evV, List.cons_append, List.nil_append, List.getD_cons_zero, List.getD_cons_succ, List.map_cons, List.map_nil, iOf, bOf, sOf, pOf, slLen, slBase, cmpI, arI, Value.ite_bool, int_beq, int_bne, ite_band, ite_bor, arityI, h, ar1_con, h2, h3, ar2_con, h4, h5, this]; rfl, PH.le_refl _⟩
          · repeat' refine And.intro (fun h => ?_) (fun h => ?_)
            all_goals
              refine ⟨_, lookup_hit, ?_, rfl⟩
              simp only [ev0, ev, evV, List.cons_append, List.nil_append, List.getD_cons_zero, List.getD_cons_succ, List.map_cons, List.map_nil, iOf, bOf, sOf, pOf, slLen, slBase, cmpI, arI, Value.ite_bool, int_beq, int_bne, ite_band, ite_bor, txt_eql, decide_eq_true_eq, decide_eq_false_iff_not] at *
              simp_all [ar2b, ar2]
        · repeat' refine And.intro (fun h => ?_) (fun h => ?_)
          all_goals
            refine ⟨_, lookup_hit, ?_, rfl⟩
            simp only [ev0, ev, evV, List.cons_append, List.nil_append, List.getD_cons_zero, List.getD_cons_succ, List.map_cons, List.map_nil, iOf, bOf, sOf, pOf, slLen, slBase, cmpI, arI, Value.ite_bool, int_beq, int_bne, ite_band, ite_bor, txt_eql, decide_eq_true_eq, decide_eq_false_iff_not] at *
            simp_all [ar2a, ar2]
      · repeat' refine And.intro (fun h => ?_) (fun h => ?_)
        all_goals
          refine ⟨_, lookup_hit, ?_, rfl⟩
          simp only [ev0, ev, evV, List.cons_append, List.nil_append, List.getD_cons_zero, List.getD_cons_succ, List.map_cons, List.map_nil, iOf, bOf, sOf, pOf, slLen, slBase, cmpI, arI, Value.ite_bool, int_beq, int_bne, ite_band, ite_bor, txt_eql, decide_eq_true_eq, decide_eq_false_iff_not] at *
          simp_all [ar1b, ar1]
    · repeat' refine And.intro (fun h => ?_) (fun h => ?_)
      all_goals
        refine ⟨_, lookup_hit, ?_, rfl⟩
        simp only [ev0, ev, evV, List.cons_append, List.nil_append, List.getD_cons_zero, List.getD_cons_succ, List.map_cons, List.map_nil, iOf, bOf, sOf, pOf, slLen, slBase, cmpI, arI, Value.ite_bool, int_beq, int_bne, ite_band, ite_bor, txt_eql, decide_eq_true_eq, decide_eq_false_iff_not] at *
        simp_all [ar1a, ar1]
  · repeat' refine And.intro (fun h => ?_) (fun h => ?_)
    all_goals
      refine ⟨_, lookup_hit, ?_, rfl⟩
      simp only [ev0, ev, evV, List.cons_append, List.nil_append, List.getD_cons_zero, List.getD_cons_succ, List.map_cons, List.map_nil, iOf, bOf, sOf, pOf, slLen, slBase, cmpI, arI, Value.ite_bool, int_beq, int_bne, ite_band, ite_bor, txt_eql, decide_eq_true_eq, decide_eq_false_iff_not] at *
      simp_all [ar0]
/-- one expression's own fields -/
theorem RForm6_gives (e : Xp) (cs : List Value) (H : PH) (he : e.Rep H cs) : Gives Tryz.prog n_scrimshawref06_form [.agg cs.toArray] H (.bool (exForm e)) := by
  obtain ⟨nb, db, kb, nc, dc, kc, rfl, hx⟩ := Xp.Rep.open he
  have hn := hx.names.max
  have hk := hx.kids.max
  simp only [maxLen] at hn hk
  have hem : ∀ {α : Type} (l : List α), l.isEmpty = decide ((l.length : Int) = 0) := fun l => (list_empty l).symm
  have htx : e.name.isEmpty = decide (e.name = []) := by cases e.name <;> simp
  refine tri_scrimshawref06_form (exVs e nb db kb nc dc kc) (by kernel_rfl) (by kernel_rfl) ?_
  refine ⟨fun k0 => ?_, fun k0 => ?_⟩
  · simp only [ev0, ev, evV, List.cons_append, List.nil_append, List.getD_cons_zero, List.getD_cons_succ, List.map_cons, List.map_nil, iOf, bOf, sOf, pOf, slLen, slBase, cmpI, arI, Value.ite_bool, int_beq, int_bne, ite_band, ite_bor, decide_eq_true_eq] at k0
    have hE : exForm e = (e.name.isEmpty && e.names.isEmpty && e.kids.isEmpty && constOk e.const) := by unfold exForm; rw [if_pos k0]
    rw [hE]
    refine ⟨fun vs H' => vs = [.bool (e.name.isEmpty && e.names.isEmpty && e.kids.isEmpty && constOk e.const)] ∧ PH.le H H', ?_, ?_⟩
    · rintro vs H1 _ ⟨rfl, l1⟩; exact ⟨rfl, l1⟩
    refine ⟨fun g => ?_, fun g => ?_⟩
    · have g' : (e.name.isEmpty && e.names.isEmpty && e.kids.isEmpty) = true := by
        simp only [ev0, ev, evV, List.cons_append, List.nil_append, List.getD_cons_zero, List.getD_cons_succ, List.map_cons, List.map_nil, iOf, bOf, sOf, pOf, slLen, slBase, cmpI, arI, Value.ite_bool, int_beq, int_bne, ite_band, ite_bor, txt_eql] at g
        rw [htx, hem, hem]; exact g
      refine den_gives [.bool (constOk e.const)] cb_scrimshawref06_Const (RConst_gives e.const _ H hx.const) rfl pendNil fun H1 l1 => ⟨_, lookup_hit, ?_, l1⟩
      simp only [ev0, ev, evV, List.cons_append, List.nil_append, List.getD_cons_zero, List.getD_cons_succ, List.map_cons, List.map_nil, iOf, bOf, sOf, pOf, slLen, slBase, cmpI, arI, Value.ite_bool, int_beq, int_bne, ite_band, ite_bor, g', Bool.true_and]
    · have g' : (e.name.isEmpty && e.names.isEmpty && e.kids.isEmpty) = false := by
        simp only [ev0, ev, evV, List.cons_append, List.nil_append, List.getD_cons_zero, List.getD_cons_succ, List.map_cons, List.map_nil, iOf, bOf, sOf, pOf, slLen, slBase, cmpI, arI, Value.ite_bool, int_beq, int_bne, ite_band, ite_bor, txt_eql] at g
        rw [htx, hem, hem]; exact g
      refine ⟨_, lookup_hit, ?_, PH.le_refl H⟩
      simp only [ev0, ev, evV, List.cons_append, List.nil_append, List.getD_cons_zero, List.getD_cons_succ, List.map_cons, List.map_nil, iOf, bOf, sOf, pOf, slLen, slBase, cmpI, arI, Value.ite_bool, int_beq, int_bne, ite_band, ite_bor, g', Bool.false_and]
  simp only [ev0, ev, evV, List.cons_append, List.nil_append, List.getD_cons_zero, List.getD_cons_succ, List.map_cons, List.map_nil, iOf, bOf, sOf, pOf, slLen, slBase, cmpI, arI, Value.ite_bool, int_beq, int_bne, ite_band, ite_bor, decide_eq_false_iff_not] at k0
  refine ⟨fun vs H' => vs = [.bool (!(isDat0 e.const && namesOk e.names))] ∧ PH.le H H', ?_, ?_⟩
  rotate_left
  · refine den_gives [.bool (decide (e.const = .mk 0 0 [] []))] cb_scrimshawref02_Same (Same_gives e.const (.mk 0 0 [] []) _ _ H hx.const (dat0_rep H)) rfl pendNil fun H1 l1 => ⟨fun g => ?_, fun g => ?_⟩
    · simp only [ev0, ev, evV, List.cons_append, List.nil_append, List.getD_cons_zero, List.getD_cons_succ, List.map_cons, List.map_nil, iOf, bOf, sOf, pOf, slLen, slBase, cmpI, arI, Value.ite_bool, int_beq, int_bne, ite_band, ite_bor, isDat0_dec, Bool.not_eq_true'] at g
      refine ⟨_, lookup_hit, ?_, l1⟩
      simp only [ev0, ev, evV, List.cons_append, List.nil_append, List.getD_cons_zero, List.getD_cons_succ, List.map_cons, List.map_nil, iOf, bOf, sOf, pOf, slLen, slBase, cmpI, arI, Value.ite_bool, int_beq, int_bne, ite_band, ite_bor, g]; rfl
    · simp only [ev0, ev, evV, List.cons_append, List.nil_append, List.getD_cons_zero, List.getD_cons_succ, List.map_cons, List.map_nil, iOf, bOf, sOf, pOf, slLen, slBase, cmpI, arI, Value.ite_bool, int_beq, int_bne, ite_band, ite_bor, isDat0_dec, Bool.not_eq_false'] at g
      refine den_gives [.bool (namesOk e.names)] cb_scrimshawref06_names (RNames6_gives e.names _ H1 (hx.names.le l1)) rfl pendNil fun H2 l2 => ⟨_, lookup_hit, ?_, PH.le_trans l1 l2⟩
      simp only [ev0, ev, evV, List.cons_append, List.nil_append, List.getD_cons_zero, List.getD_cons_succ, List.map_cons, List.map_nil, iOf, bOf, sOf, pOf, slLen, slBase, cmpI, arI, Value.ite_bool, int_beq, int_bne, ite_band, ite_bor, g, Bool.true_and]
  rintro vs H1 _ ⟨rfl, l1⟩
  refine ⟨fun g => ?_, fun g => ?_⟩
  · simp only [ev0, ev, evV, List.cons_append, List.nil_append, List.getD_cons_zero, List.getD_cons_succ, List.map_cons, List.map_nil, iOf, bOf, sOf, pOf, slLen, slBase, cmpI, arI, Value.ite_bool, int_beq, int_bne, ite_band, ite_bor, Bool.not_eq_true'] at g
    refine ⟨?_, l1⟩
    have : exForm e = false := by unfold exForm; rw [if_neg k0]; simp only [g, Bool.false_and]
    simp only [ev0, ev, evV, List.cons_append, List.nil_append, List.getD_cons_zero, List.getD_cons_succ, List.map_cons, List.map_nil, iOf, bOf, sOf, pOf, slLen, slBase, cmpI, arI, Value.ite_bool, int_beq, int_bne, ite_band, ite_bor, this]
  simp only [ev0, ev, evV, List.cons_append, List.nil_append, List.getD_cons_zero, List.getD_cons_succ, List.map_cons, List.map_nil, iOf, bOf, sOf, pOf, slLen, slBase, cmpI, arI, Value.ite_bool, int_beq, int_bne, ite_band, ite_bor, Bool.not_eq_false'] at g
  refine den_gives [.bool (nameOk e.name)] cb_scrimshawref02_Name (RName_gives e.name hx.name H1) rfl pendNil fun H2 l2 => ?_
  have l02 := PH.le_trans l1 l2
  have hg : ∀ r : Bool, exForm e = (isDat0 e.const && namesOk e.names && r) → exForm e = r := fun r h => by rw [h, g]; rfl
  refine ⟨fun k1 => ⟨?_, l02⟩, fun k1 => ?_⟩
  · simp only [ev0, ev, evV, List.cons_append, List.nil_append, List.getD_cons_zero, List.getD_cons_succ, List.map_cons, List.map_nil, iOf, bOf, sOf, pOf, slLen, slBase, cmpI, arI, Value.ite_bool, int_beq, int_bne, ite_band, ite_bor, decide_eq_true_eq] at k1
    have hE := hg (nameOk e.name && e.names.isEmpty && decide (e.kids.length = 0)) (by unfold exForm; simp [k1])
    rw [hE, hem]; simp only [ev0, ev, evV, List.cons_append, List.nil_append, List.getD_cons_zero, List.getD_cons_succ, List.map_cons, List.map_nil, iOf, bOf, sOf, pOf, slLen, slBase, cmpI, arI, Value.ite_bool, int_beq, int_bne, ite_band, ite_bor]; congr 3; exact decide_eq_decide.2 (by omega)
  simp only [ev0, ev, evV, List.cons_append, List.nil_append, List.getD_cons_zero, List.getD_cons_succ, List.map_cons, List.map_nil, iOf, bOf, sOf, pOf, slLen, slBase, cmpI, arI, Value.ite_bool, int_beq, int_bne, ite_band, ite_bor, decide_eq_false_iff_not] at k1
  refine ⟨fun k2 => ⟨?_, l02⟩, fun k2 => ?_⟩
  · simp only [ev0, ev, evV, List.cons_append, List.nil_append, List.getD_cons_zero, List.getD_cons_succ, List.map_cons, List.map_nil, iOf, bOf, sOf, pOf, slLen, slBase, cmpI, arI, Value.ite_bool, int_beq, int_bne, ite_band, ite_bor, decide_eq_true_eq] at k2
    have hE := hg (nameOk e.name && e.names.isEmpty && decide (e.kids.length = 1)) (by unfold exForm; simp [k2])
    rw [hE, hem]; simp only [ev0, ev, evV, List.cons_append, List.nil_append, List.getD_cons_zero, List.getD_cons_succ, List.map_cons, List.map_nil, iOf, bOf, sOf, pOf, slLen, slBase, cmpI, arI, Value.ite_bool, int_beq, int_bne, ite_band, ite_bor]; congr 3; exact decide_eq_decide.2 (by omega)
  simp only [ev0, ev, evV, List.cons_append, List.nil_append, List.getD_cons_zero, List.getD_cons_succ, List.map_cons, List.map_nil, iOf, bOf, sOf, pOf, slLen, slBase, cmpI, arI, Value.ite_bool, int_beq, int_bne, ite_band, ite_bor, decide_eq_false_iff_not] at k2
  refine ⟨fun k3 => ⟨?_, l02⟩, fun k3 => ?_⟩
  · simp only [ev0, ev, evV, List.cons_append, List.nil_append, List.getD_cons_zero, List.getD_cons_succ, List.map_cons, List.map_nil, iOf, bOf, sOf, pOf, slLen, slBase, cmpI, arI, Value.ite_bool, int_beq, int_bne, ite_band, ite_bor, decide_eq_true_eq] at k3
    have hE := hg (e.name.isEmpty && e.names.isEmpty && decide (e.kids.length = 3)) (by unfold exForm; simp [k3])
    rw [hE, htx, hem]; simp only [ev0, ev, evV, List.cons_append, List.nil_append, List.getD_cons_zero, List.getD_cons_succ, List.map_cons, List.map_nil, iOf, bOf, sOf, pOf, slLen, slBase, cmpI, arI, Value.ite_bool, int_beq, int_bne, ite_band, ite_bor, txt_eql]; congr 3; exact decide_eq_decide.2 (by omega)
  simp only [ev0, ev, evV, List.cons_append, List.nil_append, List.getD_cons_zero, List.getD_cons_succ, List.map_cons, List.map_nil, iOf, bOf, sOf, pOf, slLen, slBase, cmpI, arI, Value.ite_bool, int_beq, int_bne, ite_band, ite_bor, decide_eq_false_iff_not] at k3
  refine ⟨fun k4 => ⟨?_, l02⟩, fun k4 => ?_⟩
  · simp only [ev0, ev, evV, List.cons_append, List.nil_append, List.getD_cons_zero, List.getD_cons_succ, List.map_cons, List.map_nil, iOf, bOf, sOf, pOf, slLen, slBase, cmpI, arI, Value.ite_bool, int_beq, int_bne, ite_band, ite_bor, decide_eq_true_eq] at k4
    have hE := hg (e.name.isEmpty && e.names.isEmpty && decide (2 ≤ e.kids.length)) (by unfold exForm; simp [k4])
    rw [hE, htx, hem]; simp only [ev0, ev, evV, List.cons_append, List.nil_append, List.getD_cons_zero, List.getD_cons_succ, List.map_cons, List.map_nil, iOf, bOf, sOf, pOf, slLen, slBase, cmpI, arI, Value.ite_bool, int_beq, int_bne, ite_band, ite_bor, txt_eql]; congr 3; exact decide_eq_decide.2 (by omega)
  simp only [ev0, ev, evV, List.cons_append, List.nil_append, List.getD_cons_zero, List.getD_cons_succ, List.map_cons, List.map_nil, iOf, bOf, sOf, pOf, slLen, slBase, cmpI, arI, Value.ite_bool, int_beq, int_bne, ite_band, ite_bor, decide_eq_false_iff_not] at k4
  refine ⟨fun k5 => ⟨?_, l02⟩, fun k5 => ?_⟩
  · simp only [ev0, ev, evV, List.cons_append, List.nil_append, List.getD_cons_zero, List.getD_cons_succ, List.map_cons, List.map_nil, iOf, bOf, sOf, pOf, slLen, slBase, cmpI, arI, Value.ite_bool, int_beq, int_bne, ite_band, ite_bor, decide_eq_true_eq] at k5
    have hE := hg (e.name.isEmpty && decide (e.names.length ≤ 6) && decide (e.kids.length = 1)) (by unfold exForm; simp [k5])
    have e1 : decide ((e.names.length : Int) ≤ 6) = decide (e.names.length ≤ 6) := decide_eq_decide.2 (by omega)
    have e2 : decide ((e.kids.length : Int) = 1) = decide (e.kids.length = 1) := decide_eq_decide.2 (by omega)
    rw [hE, htx]; simp only [ev0, ev, evV, List.cons_append, List.nil_append, List.getD_cons_zero, List.getD_cons_succ, List.map_cons, List.map_nil, iOf, bOf, sOf, pOf, slLen, slBase, cmpI, arI, Value.ite_bool, int_beq, int_bne, ite_band, ite_bor, txt_eql, e1, e2]
  simp only [ev0, ev, evV, List.cons_append, List.nil_append, List.getD_cons_zero, List.getD_cons_succ, List.map_cons, List.map_nil, iOf, bOf, sOf, pOf, slLen, slBase, cmpI, arI, Value.ite_bool, int_beq, int_bne, ite_band, ite_bor, decide_eq_false_iff_not] at k5
  refine ⟨fun k6 => ⟨?_, l02⟩, fun k6 => ?_⟩
  · simp only [ev0, ev, evV, List.cons_append, List.nil_append, List.getD_cons_zero, List.getD_cons_succ, List.map_cons, List.map_nil, iOf, bOf, sOf, pOf, slLen, slBase, cmpI, arI, Value.ite_bool, int_beq, int_bne, ite_band, ite_bor, decide_eq_true_eq] at k6
    have hE := hg (e.name.isEmpty && e.names.isEmpty && decide (1 ≤ e.kids.length) && decide (e.kids.length ≤ 7)) (by unfold exForm; simp [k6])
    have e1 : decide ((e.kids.length : Int) ≤ 7) = decide (e.kids.length ≤ 7) := decide_eq_decide.2 (by omega)
    have e2 : decide ((e.kids.length : Int) ≥ 1) = decide (1 ≤ e.kids.length) := decide_eq_decide.2 (by omega)
    rw [hE, htx, hem]; simp only [ev0, ev, evV, List.cons_append, List.nil_append, List.getD_cons_zero, List.getD_cons_succ, List.map_cons, List.map_nil, iOf, bOf, sOf, pOf, slLen, slBase, cmpI, arI, Value.ite_bool, int_beq, int_bne, ite_band, ite_bor, txt_eql, e1, e2]
  simp only [ev0, ev, evV, List.cons_append, List.nil_append, List.getD_cons_zero, List.getD_cons_succ, List.map_cons, List.map_nil, iOf, bOf, sOf, pOf, slLen, slBase, cmpI, arI, Value.ite_bool, int_beq, int_bne, ite_band, ite_bor, decide_eq_false_iff_not] at k6
  refine ⟨fun k7 => ?_, fun k7 => ?_⟩
  · simp only [ev0, ev, evV, List.cons_append, List.nil_append, List.getD_cons_zero, List.getD_cons_succ, List.map_cons, List.map_nil, iOf, bOf, sOf, pOf, slLen, slBase, cmpI, arI, Value.ite_bool, int_beq, int_bne, ite_band, ite_bor, decide_eq_true_eq] at k7
    have hE := hg (e.names.isEmpty && decide (arityI e.name = e.kids.length)) (by unfold exForm; simp [k7])
    rw [hE, hem]
    refine ⟨fun vs H' => vs = [.bool (decide ((e.names.length : Int) = 0) && decide (arityI e.name = e.kids.length))] ∧ PH.le H H', ?_, ?_⟩
    · rintro vs H3 _ ⟨rfl, l3⟩; exact ⟨rfl, l3⟩
    refine ⟨fun gn => ?_, fun gn => ?_⟩
    · simp only [ev0, ev, evV, List.cons_append, List.nil_append, List.getD_cons_zero, List.getD_cons_succ, List.map_cons, List.map_nil, iOf, bOf, sOf, pOf, slLen, slBase, cmpI, arI, Value.ite_bool, int_beq, int_bne, ite_band, ite_bor] at gn
      refine den_gives [.int .i64 (arityI e.name)] cb_scrimshawref06_Arity (RArity_gives e.name H2) rfl pendNil fun H3 l3 => ⟨_, lookup_hit, ?_, PH.le_trans l02 l3⟩
      simp only [ev0, ev, evV, List.cons_append, List.nil_append, List.getD_cons_zero, List.getD_cons_succ, List.map_cons, List.map_nil, iOf, bOf, sOf, pOf, slLen, slBase, cmpI, arI, Value.ite_bool, int_beq, int_bne, ite_band, ite_bor, gn, Bool.true_and]
    · simp only [ev0, ev, evV, List.cons_append, List.nil_append, List.getD_cons_zero, List.getD_cons_succ, List.map_cons, List.map_nil, iOf, bOf, sOf, pOf, slLen, slBase, cmpI, arI, Value.ite_bool, int_beq, int_bne, ite_band, ite_bor] at gn
      refine ⟨_, lookup_hit, ?_, l02⟩
      simp only [ev0, ev, evV, List.cons_append, List.nil_append, List.getD_cons_zero, List.getD_cons_succ, List.map_cons, List.map_nil, iOf, bOf, sOf, pOf, slLen, slBase, cmpI, arI, Value.ite_bool, int_beq, int_bne, ite_band, ite_bor, gn, Bool.false_and]
  simp only [ev0, ev, evV, List.cons_append, List.nil_append, List.getD_cons_zero, List.getD_cons_succ, List.map_cons, List.map_nil, iOf, bOf, sOf, pOf, slLen, slBase, cmpI, arI, Value.ite_bool, int_beq, int_bne, ite_band, ite_bor, decide_eq_false_iff_not] at k7
  refine ⟨fun k8 => ⟨?_, l02⟩, fun k8 => ?_⟩
  · have k8' : e.kind = 8 ∨ e.kind = 9 := by
      simp only [ev0, ev, evV, List.cons_append, List.nil_append, List.getD_cons_zero, List.getD_cons_succ, List.map_cons, List.map_nil, iOf, bOf, sOf, pOf, slLen, slBase, cmpI, arI, Value.ite_bool, int_beq, int_bne, ite_band, ite_bor] at k8
      by_cases h : e.kind = 8
      · exact .inl h
      · right; simpa [h] using k8
    have hE := hg (e.name.isEmpty && decide (e.kids.length = e.names.length + 1)) (by unfold exForm; rcases k8' with h | h <;> simp [h])
    have e1 : decide ((e.kids.length : Int) = IntKind.i64.wrap ((e.names.length : Int) + 1)) = decide (e.kids.length = e.names.length + 1) := decide_eq_decide.2 (wrap1 hn hk)
    rw [hE, htx]; simp only [ev0, ev, evV, List.cons_append, List.nil_append, List.getD_cons_zero, List.getD_cons_succ, List.map_cons, List.map_nil, iOf, bOf, sOf, pOf, slLen, slBase, cmpI, arI, Value.ite_bool, int_beq, int_bne, ite_band, ite_bor, txt_eql, e1]
  have k8' : ¬ (e.kind = 8 ∨ e.kind = 9) := by
    rintro (h | h) <;> simp [ev0, ev, evV, List.cons_append, List.nil_append, List.getD_cons_zero, List.getD_cons_succ, List.map_cons, List.map_nil, iOf, bOf, sOf, pOf, slLen, slBase, cmpI, arI, Value.ite_bool, int_beq, int_bne, ite_band, ite_bor, h] at k8
  refine ⟨fun ka => ?_, fun ka => ⟨?_, l02⟩⟩
  · simp only [ev0, ev, evV, List.cons_append, List.nil_append, List.getD_cons_zero, List.getD_cons_succ, List.map_cons, List.map_nil, iOf, bOf, sOf, pOf, slLen, slBase, cmpI, arI, Value.ite_bool, int_beq, int_bne, ite_band, ite_bor, decide_eq_true_eq] at ka
    have hE := hg (e.name.isEmpty && decide (1 ≤ e.names.length) && decide (e.kids.length = e.names.length + 1) && (e.kids.take e.names.length).all fun k => decide (k.kind = 5)) (by unfold exForm; simp [ka])
    rw [hE]
    refine ⟨fun gq => ⟨?_, l02⟩, fun gq => ?_⟩
    · have : (e.name.isEmpty && decide (1 ≤ e.names.length) && decide (e.kids.length = e.names.length + 1)) = false := by
        have e1 := wrap1 (n := e.names.length) (m := e.kids.length) hn hk
        simp only [ev0, ev, evV, List.cons_append, List.nil_append, List.getD_cons_zero, List.getD_cons_succ, List.map_cons, List.map_nil, iOf, bOf, sOf, pOf, slLen, slBase, cmpI, arI, Value.ite_bool, int_beq, int_bne, ite_band, ite_bor, txt_neq, ne_eq, e1] at gq
        rw [Bool.eq_false_iff]
        intro hq
        simp only [Bool.and_eq_true, decide_eq_true_eq, List.isEmpty_iff] at hq
        obtain ⟨⟨h1, h2⟩, h3⟩ := hq
        simp only [h1, ne_eq, not_true_eq_false, decide_false, Bool.false_or, Bool.or_eq_true, decide_eq_true_eq] at gq
        omega
      simp only [ev0, ev, evV, List.cons_append, List.nil_append, List.getD_cons_zero, List.getD_cons_succ, List.map_cons, List.map_nil, iOf, bOf, sOf, pOf, slLen, slBase, cmpI, arI, Value.ite_bool, int_beq, int_bne, ite_band, ite_bor, this, Bool.false_and]
    · have hq : e.name = [] ∧ 1 ≤ e.names.length ∧ e.kids.length = e.names.length + 1 := by
        have e1 := wrap1 (n := e.names.length) (m := e.kids.length) hn hk
        simp only [ev0, ev, evV, List.cons_append, List.nil_append, List.getD_cons_zero, List.getD_cons_succ, List.map_cons, List.map_nil, iOf, bOf, sOf, pOf, slLen, slBase, cmpI, arI, Value.ite_bool, int_beq, int_bne, ite_band, ite_bor, txt_neq, ne_eq, e1] at gq
        simp only [Bool.or_eq_false_iff, decide_eq_false_iff_not, ne_eq, Decidable.not_not] at gq
        obtain ⟨⟨h1, h2⟩, h3⟩ := gq
        exact ⟨h1, by omega, by omega⟩
      obtain ⟨hq1, hq2, hq3⟩ := id hq
      have hq' : (e.name.isEmpty && decide (1 ≤ e.names.length) && decide (e.kids.length = e.names.length + 1)) = true := by
        rw [hq.1]; simp [hq.2.1, hq.2.2]
      rw [hq', Bool.true_and]
      refine ⟨fun n vs H' => ∃ k : Nat, vs = [.bool false, .int .i64 k] ∧ k + n = e.names.length ∧ ((e.kids.take k).all fun k => decide (k.kind = 5)) = true ∧ PH.le H H', ⟨e.names.length, 0, rfl, by omega, by simp, l02⟩, ?_⟩
      rintro n vs H3 _ ⟨k, rfl, hkn, hall, l3⟩
      refine ⟨fun gk => ?_, fun gk => ?_⟩
      · simp only [ev0, ev, evV, List.cons_append, List.nil_append, List.getD_cons_zero, List.getD_cons_succ, List.map_cons, List.map_nil, iOf, bOf, sOf, pOf, slLen, slBase, cmpI, arI, Value.ite_bool, int_beq, int_bne, ite_band, ite_bor, decide_eq_true_eq] at gk
        obtain ⟨a, ha⟩ : ∃ a, e.kids[k]? = some a := ⟨_, List.getElem?_eq_getElem (show k < e.kids.length by omega)⟩
        obtain ⟨q1, _, ces, q2, q3⟩ := (hx.kids.le l3).get ha
        obtain ⟨p1, p2, p3, p4, p5, p6, rfl, _⟩ := Xp.Rep.open q2
        refine ⟨fun _ => ?_, [.int .i64 a.kind], rfl, ?_, ?_⟩
        · simp only [Chk.holds, ev0, ev, evV, List.cons_append, List.nil_append, List.getD_cons_zero, List.getD_cons_succ, List.map_cons, List.map_nil, iOf, bOf, sOf, pOf, slLen, slBase, cmpI, arI, Value.ite_bool, int_beq, int_bne, ite_band, ite_bor]; exact ⟨q1, by omega, by omega⟩
        · simp only [ev0, ev, evV, List.cons_append, List.nil_append, List.getD_cons_zero, List.getD_cons_succ, List.map_cons, List.map_nil, iOf, bOf, sOf, pOf, slLen, slBase, cmpI, arI, Value.ite_bool, int_beq, int_bne, ite_band, ite_bor]
          have := rowAt_sub q3 0 1
          exact this
        refine ⟨fun g5 => ⟨?_, l3⟩, fun g5 => ?_⟩
        · simp only [ev0, ev, evV, List.cons_append, List.nil_append, List.getD_cons_zero, List.getD_cons_succ, List.map_cons, List.map_nil, iOf, bOf, sOf, pOf, slLen, slBase, cmpI, arI, Value.ite_bool, int_beq, int_bne, ite_band, ite_bor, decide_eq_true_eq] at g5
          have : ((e.kids.take e.names.length).all fun k => decide (k.kind = 5)) = false := by
            rw [Bool.eq_false_iff]
            intro h
            have := List.all_eq_true.1 h a (List.mem_iff_getElem?.2 ⟨k, by rw [List.getElem?_take, if_pos (by omega)]; exact ha⟩)
            exact g5 (of_decide_eq_true this)
          simp only [ev0, ev, evV, List.cons_append, List.nil_append, List.getD_cons_zero, List.getD_cons_succ, List.map_cons, List.map_nil, iOf, bOf, sOf, pOf, slLen, slBase, cmpI, arI, Value.ite_bool, int_beq, int_bne, ite_band, ite_bor, this]
        · simp only [ev0, ev, evV, List.cons_append, List.nil_append, List.getD_cons_zero, List.getD_cons_succ, List.map_cons, List.map_nil, iOf, bOf, sOf, pOf, slLen, slBase, cmpI, arI, Value.ite_bool, int_beq, int_bne, ite_band, ite_bor, decide_eq_false_iff_not, ne_eq, Decidable.not_not] at g5
          refine ⟨_, lookup_hit, n - 1, by omega, k + 1, ?_, by omega, ?_, l3⟩
          · simp only [ev0, ev, evV, List.cons_append, List.nil_append, List.getD_cons_zero, List.getD_cons_succ, List.map_cons, List.map_nil, iOf, bOf, sOf, pOf, slLen, slBase, cmpI, arI, Value.ite_bool, int_beq, int_bne, ite_band, ite_bor]; rw [w64 (by omega) (by omega)]; rfl
          · rw [List.take_add_one, ha, List.all_append, hall]; simp [g5]
      · simp only [ev0, ev, evV, List.cons_append, List.nil_append, List.getD_cons_zero, List.getD_cons_succ, List.map_cons, List.map_nil, iOf, bOf, sOf, pOf, slLen, slBase, cmpI, arI, Value.ite_bool, int_beq, int_bne, ite_band, ite_bor, decide_eq_false_iff_not] at gk
        have : k = e.names.length := by omega
        subst this
        refine ⟨?_, l3⟩
        simp only [ev0, ev, evV, List.cons_append, List.nil_append, List.getD_cons_zero, List.getD_cons_succ, List.map_cons, List.map_nil, iOf, bOf, sOf, pOf, slLen, slBase, cmpI, arI, Value.ite_bool, int_beq, int_bne, ite_band, ite_bor, hall]
  · simp only [ev0, ev, evV, List.cons_append, List.nil_append, List.getD_cons_zero, List.getD_cons_succ, List.map_cons, List.map_nil, iOf, bOf, sOf, pOf, slLen, slBase, cmpI, arI, Value.ite_bool, int_beq, int_bne, ite_band, ite_bor, decide_eq_false_iff_not] at ka
    have : exForm e = false := by unfold exForm; simp [k0, k1, k2, k3, k4, k5, k6, k7, k8', ka]
    simp only [ev0, ev, evV, List.cons_append, List.nil_append, List.getD_cons_zero, List.getD_cons_succ, List.map_cons, List.map_nil, iOf, bOf, sOf, pOf, slLen, slBase, cmpI, arI, Value.ite_bool, int_beq, int_bne, ite_band, ite_bor, this]

/-! ### Check -/
theorem RCheck6_gives : ∀ (d : Xp) (cs : List Value) (H : PH) (deep seen : Nat), d.Rep H cs → deep ≤ 250 → seen ≤ 4096 →
    Gives Tryz.prog n_scrimshawref06_check [.agg cs.toArray, .int .i64 deep, .int .i64 seen] H (.tuple #[.int .i64 (d.chk false deep seen).1, .int .i64 (d.chk false deep seen).2]) := by
  refine Xp.ind fun d ih cs H deep seen hd hdeep hseen => ?_
  have hd' := hd
  obtain ⟨nb, db, kb, nc, dc, kc, rfl, hx⟩ := Xp.Rep.open hd
  have hs := hx.kids
  have hlen := hs.max
  simp only [maxLen] at hlen
  have hs1 : IntKind.i64.wrap ((seen : Int) + 1) = ((seen + 1 : Nat) : Int) := by rw [w64 (by omega) (by omega)]; omega
  have hd1 : IntKind.i64.wrap ((deep : Int) + 1) = ((deep + 1 : Nat) : Int) := by rw [w64 (by omega) (by omega)]; omega
  rw [Xp.chk_eq]
  refine tri_scrimshawref06_check (exVs d nb db kb nc dc kc ++ [.int .i64 deep, .int .i64 seen]) (by kernel_rfl) (by kernel_rfl) ?_
  refine ⟨fun h0 => ?_, fun h0 => ?_⟩
  · simp only [ev0, ev, evV, List.cons_append, List.nil_append, List.getD_cons_zero, List.getD_cons_succ, List.map_cons, List.map_nil, iOf, bOf, sOf, pOf, slLen, slBase, cmpI, arI, Value.ite_bool, int_beq, int_bne, ite_band, ite_bor, decide_eq_true_eq] at h0
    have h0' : seen = 4096 := by omega
    refine ⟨?_, PH.le_refl _⟩
    rw [if_pos h0']; rfl
  simp only [ev0, ev, evV, List.cons_append, List.nil_append, List.getD_cons_zero, List.getD_cons_succ, List.map_cons, List.map_nil, iOf, bOf, sOf, pOf, slLen, slBase, cmpI, arI, Value.ite_bool, int_beq, int_bne, ite_band, ite_bor, decide_eq_false_iff_not] at h0
  rw [if_neg (show ¬ seen = 4096 by omega)]
  refine ⟨fun h3 => ?_, fun h3 => ?_⟩
  · simp only [ev0, ev, evV, List.cons_append, List.nil_append, List.getD_cons_zero, List.getD_cons_succ, List.map_cons, List.map_nil, iOf, bOf, sOf, pOf, slLen, slBase, cmpI, arI, Value.ite_bool, int_beq, int_bne, ite_band, ite_bor, decide_eq_true_eq] at h3
    have h3' : 250 ≤ deep := by omega
    refine ⟨?_, PH.le_refl _⟩
    rw [if_pos h3']
    simp only [evV_tu2]
    simp only [ev0, ev, evV, List.cons_append, List.nil_append, List.getD_cons_zero, List.getD_cons_succ, List.map_cons, List.map_nil, iOf, bOf, sOf, pOf, slLen, slBase, cmpI, arI, Value.ite_bool, int_beq, int_bne, ite_band, ite_bor, hs1]
  simp only [ev0, ev, evV, List.cons_append, List.nil_append, List.getD_cons_zero, List.getD_cons_succ, List.map_cons, List.map_nil, iOf, bOf, sOf, pOf, slLen, slBase, cmpI, arI, Value.ite_bool, int_beq, int_bne, ite_band, ite_bor, decide_eq_false_iff_not] at h3
  rw [if_neg (show ¬ 250 ≤ deep by omega)]
  refine den_gives [.bool (exForm d)] cb_scrimshawref06_form (RForm6_gives d _ H hd') rfl pendNil fun H3 h4 => ?_
  simp only [Bool.false_eq_true, if_false]
  refine ⟨fun h5 => ?_, fun h5 => ?_⟩
  · simp only [ev0, ev, evV, List.cons_append, List.nil_append, List.getD_cons_zero, List.getD_cons_succ, List.map_cons, List.map_nil, iOf, bOf, sOf, pOf, slLen, slBase, cmpI, arI, Value.ite_bool, int_beq, int_bne, ite_band, ite_bor, Bool.not_eq_true'] at h5
    refine ⟨?_, h4⟩
    rw [if_pos h5]
    simp only [evV_tu2]
    simp only [ev0, ev, evV, List.cons_append, List.nil_append, List.getD_cons_zero, List.getD_cons_succ, List.map_cons, List.map_nil, iOf, bOf, sOf, pOf, slLen, slBase, cmpI, arI, Value.ite_bool, int_beq, int_bne, ite_band, ite_bor, hs1]
  simp only [ev0, ev, evV, List.cons_append, List.nil_append, List.getD_cons_zero, List.getD_cons_succ, List.map_cons, List.map_nil, iOf, bOf, sOf, pOf, slLen, slBase, cmpI, arI, Value.ite_bool, int_beq, int_bne, ite_band, ite_bor, Bool.not_eq_false'] at h5
  rw [if_neg (show ¬ exForm d = false by rw [h5]; simp)]
  refine ⟨fun n vs H' => ∃ (k s : Nat), vs = [.int .i64 s, .int .i64 0, .int .i64 0, .int .i64 0, .int .i64 k] ∧ k + n = d.kids.length ∧ s ≤ 4096 ∧ Xps.chk false d.kids (deep + 1) (seen + 1) = Xps.chk false (d.kids.drop k) (deep + 1) s ∧ PH.le H H',
    ⟨d.kids.length, 0, seen + 1, by simp only [ev0, ev, evV, List.cons_append, List.nil_append, List.getD_cons_zero, List.getD_cons_succ, List.map_cons, List.map_nil, iOf, bOf, sOf, pOf, slLen, slBase, cmpI, arI, Value.ite_bool, int_beq, int_bne, ite_band, ite_bor, hs1]; rfl, by omega, by omega, by simp, h4⟩, ?_⟩
  rintro n vs H' _ ⟨k, s, rfl, hkn, hs4, heq, hle⟩
  refine ⟨fun h6 => ?_, fun h6 => ?_⟩
  · simp only [ev0, ev, evV, List.cons_append, List.nil_append, List.getD_cons_zero, List.getD_cons_succ, List.map_cons, List.map_nil, iOf, bOf, sOf, pOf, slLen, slBase, cmpI, arI, Value.ite_bool, int_beq, int_bne, ite_band, ite_bor, decide_eq_true_eq] at h6
    have hkl : k < d.kids.length := by omega
    obtain ⟨e, he⟩ : ∃ e, d.kids[k]? = some e := ⟨_, List.getElem?_eq_getElem hkl⟩
    obtain ⟨g1, _, ces, g2, g3⟩ := (hs.le hle).get he
    refine ⟨fun _ => ?_, ?_⟩
    · simp only [Chk.holds, ev0, ev, evV, List.cons_append, List.nil_append, List.getD_cons_zero, List.getD_cons_succ, List.map_cons, List.map_nil, iOf, bOf, sOf, pOf, slLen, slBase, cmpI, arI, Value.ite_bool, int_beq, int_bne, ite_band, ite_bor]; exact ⟨g1, by omega, by omega⟩
    have htags := Xp.Rep.tags g2
    have hcall := ih e (List.mem_of_getElem? he) ces H' (deep + 1) s g2 (by omega) hs4
    obtain ⟨nb', db', kb', nc', dc', kc', rfl, _⟩ := Xp.Rep.open g2
    refine ⟨_, htags, by simp only [ev0, ev, evV, List.cons_append, List.nil_append, List.getD_cons_zero, List.getD_cons_succ, List.map_cons, List.map_nil, iOf, bOf, sOf, pOf, slLen, slBase, cmpI, arI, Value.ite_bool, int_beq, int_bne, ite_band, ite_bor]; exact g3, ?_⟩
    refine den_gives [.int .i64 (e.chk false (deep + 1) s).1, .int .i64 (e.chk false (deep + 1) s).2] cb_scrimshawref06_check ?_ rfl pendNil fun H4 l4 => ?_
    · simp only [ev0, ev, evV, List.cons_append, List.nil_append, List.getD_cons_zero, List.getD_cons_succ, List.map_cons, List.map_nil, iOf, bOf, sOf, pOf, slLen, slBase, cmpI, arI, Value.ite_bool, int_beq, int_bne, ite_band, ite_bor, hd1]
      exact hcall
    have hle4 := PH.le_trans hle l4
    rw [drop_get he] at heq
    simp only [Xps.chk] at heq
    refine ⟨fun h7 => ?_, fun h7 => ?_⟩
    · simp only [ev0, ev, evV, List.cons_append, List.nil_append, List.getD_cons_zero, List.getD_cons_succ, List.map_cons, List.map_nil, iOf, bOf, sOf, pOf, slLen, slBase, cmpI, arI, Value.ite_bool, int_beq, int_bne, ite_band, ite_bor, decide_eq_true_eq] at h7
      rw [if_pos h7] at heq
      refine ⟨?_, hle4⟩
      rw [heq]; rfl
    · simp only [ev0, ev, evV, List.cons_append, List.nil_append, List.getD_cons_zero, List.getD_cons_succ, List.map_cons, List.map_nil, iOf, bOf, sOf, pOf, slLen, slBase, cmpI, arI, Value.ite_bool, int_beq, int_bne, ite_band, ite_bor, decide_eq_false_iff_not, ne_eq, Decidable.not_not] at h7
      rw [if_neg (by simp [h7])] at heq
      refine ⟨_, lookup_hit, n - 1, by omega, k + 1, (e.chk false (deep + 1) s).1, ?_, by omega, Xp.chk_le false e _ _ hs4, heq, hle4⟩
      simp only [ev0, ev, evV, List.cons_append, List.nil_append, List.getD_cons_zero, List.getD_cons_succ, List.map_cons, List.map_nil, iOf, bOf, sOf, pOf, slLen, slBase, cmpI, arI, Value.ite_bool, int_beq, int_bne, ite_band, ite_bor, h7]
      rw [w64 (by omega) (by omega)]
      rfl
  · simp only [ev0, ev, evV, List.cons_append, List.nil_append, List.getD_cons_zero, List.getD_cons_succ, List.map_cons, List.map_nil, iOf, bOf, sOf, pOf, slLen, slBase, cmpI, arI, Value.ite_bool, int_beq, int_bne, ite_band, ite_bor, decide_eq_false_iff_not] at h6
    have : k = d.kids.length := by omega
    subst this
    rw [List.drop_length] at heq
    simp only [Xps.chk] at heq
    refine ⟨?_, hle⟩
    rw [heq]; rfl
theorem RCheckF6_gives (d : Xp) (cs : List Value) (H : PH) (hd : d.Rep H cs) : Gives Tryz.prog n_scrimshawref06_Check [.agg cs.toArray] H (.int .i64 (d.chk false 0 0).2) := by
  have hd' := hd
  obtain ⟨nb, db, kb, nc, dc, kc, rfl, hx⟩ := Xp.Rep.open hd
  refine tri_scrimshawref06_Check (exVs d nb db kb nc dc kc) (by kernel_rfl) (by kernel_rfl) ?_
  refine den_gives [.int .i64 (d.chk false 0 0).1, .int .i64 (d.chk false 0 0).2] cb_scrimshawref06_check (RCheck6_gives d _ H 0 0 hd' (by omega) (by omega)) rfl pendNil fun H1 l1 => ⟨rfl, l1⟩
mutual
/-- both say the same of what is not large -/
theorem Xp.chk_same : ∀ (e : Xp) (deep seen : Nat), e.size ≤ 4097 → e.chk true deep seen = e.chk false deep seen
  | .mk k s ns d l, deep, seen, h => by
    simp only [Xp.size] at h
    have h1 := Xps.size_len l
    have hf : exFormP (.mk k s ns d l) = exForm (.mk k s ns d l) := by
      unfold exFormP
      have : ¬ 4096 < (Xp.mk k s ns d l).kids.length := by show ¬ 4096 < l.length; omega
      simp [this]
    simp only [Xp.chk, hf, if_true, Bool.false_eq_true, if_false]
    rw [Xps.chk_same l _ _ (by omega)]
theorem Xps.chk_same : ∀ (l : List Xp) (deep seen : Nat), Xps.size l ≤ 4097 → Xps.chk true l deep seen = Xps.chk false l deep seen
  | [], _, _, _ => by simp only [Xps.chk]
  | e :: l, deep, seen, h => by
    simp only [Xps.size] at h
    simp only [Xps.chk]
    rw [Xp.chk_same e _ _ (by omega), Xps.chk_same l _ _ (by omega)]
end
theorem chk_both (e : Xp) : (e.chk false 0 0).2 = 0 ↔ (e.chk true 0 0).2 = 0 := by
  constructor
  · intro h
    have := chk_size h
    rw [Xp.chk_same e 0 0 (by omega)]; exact h
  · intro h
    have := chk_size h
    rw [← Xp.chk_same e 0 0 (by omega)]; exact h

/-! ### all names -/
theorem Xps.all_append : ∀ l m : List Xp, Xps.all (l ++ m) = Xps.all l ++ Xps.all m
  | [], m => by simp [Xps.all]
  | e :: l, m => by simp only [List.cons_append, Xps.all, Xps.all_append l m, List.append_assoc]
theorem Names6_tri : ∀ (e : Xp) (cs : List Value) (S K : PH) (l : List (List UInt8)) (v : Value), Held S K [orow 9 l v] → e.Rep S cs → l.length + e.all.length ≤ 1000000 →
    Tri Tryz.prog n_scrimshawref06_Names #[.agg cs.toArray, v] K fun x K' => ∃ S' J', PH.le S S' ∧ Held S' K' J' ∧ ∃ v', J' = [orow 9 (l ++ e.all) v'] ∧ x = .returned v' := by
  refine Xp.ind fun e ih cs S K l v h he hb => ?_
  obtain ⟨nb, db, kb, nc, dc, kc, rfl, hx⟩ := Xp.Rep.open he
  have hk := hx.kids.max
  simp only [maxLen] at hk
  have hall := Xp.all_eq e
  have hal := congrArg List.length hall
  simp only [List.length_append] at hal
  obtain ⟨vb, vc, rfl⟩ := (h.row (List.mem_singleton.2 rfl)).sl
  refine tri_scrimshawref06_Names (exVs e nb db kb nc dc kc ++ [.slice vb l.length vc]) (by kernel_rfl) (by kernel_rfl) ?_
  refine ⟨fun vs K' => ∃ (v1 : Value) (S1 : PH), vs = [v1] ∧ PH.le S S1 ∧ Held S1 K' [orow 9 (l ++ (if e.kind = 7 then [] else [e.name])) v1], ?_, ?_⟩
  rotate_left
  · refine ⟨fun g => ?_, fun g => ?_⟩
    · simp only [ev0, ev, evV, List.cons_append, List.nil_append, List.getD_cons_zero, List.getD_cons_succ, List.map_cons, List.map_nil, iOf, bOf, sOf, pOf, slLen, slBase, cmpI, arI, Value.ite_bool, int_beq, int_bne, ite_band, ite_bor, decide_eq_true_eq] at g
      rw [if_neg g] at hal ⊢
      simp only [List.length_singleton] at hal
      refine den_hPush (more := [e.name]) (b := 16) [txt e.name] uTxts elemTxt rfl (by decide) (by decide) h (by kernel_rfl) (.cons ⟨_, _, rfl, ⟨rfl, hx.name⟩, rfl⟩ .nil) pendNil (fun _ => by kernel_rfl) (fun _ => by kernel_rfl)
        (by simp only [maxLen, List.length_cons, List.length_nil]; omega) (by simp only [List.length_cons, List.length_nil]; omega) fun u v1 S1 K1 l1 h1 => ⟨pendNil, _, lookup_hit, v1, S1, rfl, l1, h1⟩
    · simp only [ev0, ev, evV, List.cons_append, List.nil_append, List.getD_cons_zero, List.getD_cons_succ, List.map_cons, List.map_nil, iOf, bOf, sOf, pOf, slLen, slBase, cmpI, arI, Value.ite_bool, int_beq, int_bne, ite_band, ite_bor, decide_eq_false_iff_not, ne_eq, Decidable.not_not] at g
      rw [if_pos g, List.append_nil]
      exact ⟨_, lookup_hit, _, S, rfl, PH.le_refl _, h⟩
  rintro vs K1 _ ⟨v1, S1, rfl, l1, h1⟩
  obtain ⟨m, hm⟩ : ∃ m, m = l ++ (if e.kind = 7 then [] else [e.name]) := ⟨_, rfl⟩
  rw [← hm] at h1
  have hle1 : m.length + e.names.length + (Xps.all e.kids).length ≤ 1000000 := by
    rw [hm, List.length_append]; omega
  have hfin : l ++ e.all = m ++ e.names ++ Xps.all e.kids := by rw [hall, hm]; simp only [List.append_assoc]
  have hns := hx.names.le l1
  refine den_hApp (b := 16) (more := e.names) uTxts elemTxt (by kernel_rfl) (by kernel_rfl) h1 (hns.srcS h1.sh) (by simp only [maxLen]; omega) (by omega) fun v2 K2 h2 _ => ⟨pendNil, ?_⟩
  refine ⟨fun n vs K' => ∃ (k : Nat) (v' : Value) (S' : PH), vs = [v', .int .i64 k] ∧ k + n = e.kids.length ∧ PH.le S S' ∧ Held S' K' [orow 9 (m ++ e.names ++ Xps.all (e.kids.take k)) v'],
    ⟨e.kids.length, 0, v2, S1, rfl, by omega, l1, by simpa [Xps.all] using h2⟩, ?_⟩
  rintro n vs K3 _ ⟨k, v3, S3, rfl, hkn, l3, h3⟩
  have htl : ∀ k, (Xps.all (e.kids.take k)).length ≤ (Xps.all e.kids).length := fun k => by
    have := Xps.all_append (e.kids.take k) (e.kids.drop k)
    rw [List.take_append_drop] at this
    rw [this, List.length_append]; omega
  refine ⟨fun g => ?_, fun g => ?_⟩
  · simp only [ev0, ev, evV, List.cons_append, List.nil_append, List.getD_cons_zero, List.getD_cons_succ, List.map_cons, List.map_nil, iOf, bOf, sOf, pOf, slLen, slBase, cmpI, arI, Value.ite_bool, int_beq, int_bne, ite_band, ite_bor, decide_eq_true_eq] at g
    obtain ⟨a, ha⟩ : ∃ a, e.kids[k]? = some a := ⟨_, List.getElem?_eq_getElem (show k < e.kids.length by omega)⟩
    obtain ⟨g1, _, ces, g2, g3⟩ := (hx.kids.le l3).get ha
    have hmem := List.mem_of_getElem? ha
    have htags := Xp.Rep.tags g2
    have g2' := g2
    obtain ⟨nb', db', kb', nc', dc', kc', rfl, _⟩ := Xp.Rep.open g2'
    have hstep : Xps.all (e.kids.take (k + 1)) = Xps.all (e.kids.take k) ++ a.all := by
      rw [List.take_add_one, ha, Xps.all_append]; simp [Xps.all]
    have hlen := htl (k + 1)
    rw [hstep, List.length_append] at hlen
    refine ⟨fun _ => ?_, _, htags, by simp only [ev0, ev, evV, List.cons_append, List.nil_append, List.getD_cons_zero, List.getD_cons_succ, List.map_cons, List.map_nil, iOf, bOf, sOf, pOf, slLen, slBase, cmpI, arI, Value.ite_bool, int_beq, int_bne, ite_band, ite_bor]; exact rowAt_le h3.sh g3, ?_⟩
    · simp only [Chk.holds, ev0, ev, evV, List.cons_append, List.nil_append, List.getD_cons_zero, List.getD_cons_succ, List.map_cons, List.map_nil, iOf, bOf, sOf, pOf, slLen, slBase, cmpI, arI, Value.ite_bool, int_beq, int_bne, ite_band, ite_bor]; exact ⟨g1, by omega, by omega⟩
    refine den_call cb_scrimshawref06_Names (ih a hmem _ S3 K3 _ v3 h3 g2 (by simp only [List.length_append]; omega)) ?_
    rintro x K4 ⟨S4, J4, l4, h4, v4, rfl, rfl⟩
    obtain ⟨b4, c4, hv4⟩ := (h4.row (List.mem_singleton.2 rfl)).sl
    refine ⟨_, [v4], rfl, by rw [hv4]; rfl, rfl, pendNil, _, lookup_hit, n - 1, by omega, k + 1, v4, S4, ?_, by omega, PH.le_trans l3 l4, ?_⟩
    · simp only [ev0, ev, evV, List.cons_append, List.nil_append, List.getD_cons_zero, List.getD_cons_succ, List.map_cons, List.map_nil, iOf, bOf, sOf, pOf, slLen, slBase, cmpI, arI, Value.ite_bool, int_beq, int_bne, ite_band, ite_bor]
      rw [w64 (by omega) (by omega)]
      rfl
    · rw [hstep, ← List.append_assoc]; exact h4
  · simp only [ev0, ev, evV, List.cons_append, List.nil_append, List.getD_cons_zero, List.getD_cons_succ, List.map_cons, List.map_nil, iOf, bOf, sOf, pOf, slLen, slBase, cmpI, arI, Value.ite_bool, int_beq, int_bne, ite_band, ite_bor, decide_eq_false_iff_not] at g
    have hkk : k = e.kids.length := by omega
    subst hkk
    rw [List.take_length, ← hfin] at h3
    exact ⟨S3, _, l3, h3, v3, rfl, rfl⟩
end Go.Proofs.YtibinelkmlcmgaaGreatDoor.Vc
/-
  CORE: the program's renaming of an expression, walked.
-/
namespace Go.Proofs.YtibinelkmlcmgaaGreatDoor.Vc
open Go Go.Sort

theorem updLe {S H : PH} (h : PH.le S H) {r : Nat} (hr : S r = none) {o : Obj} {H' : PH} (e : H' = H.upd r o) : PH.le S H' := by subst e; exact le_updOff h hr o
/-- what the names' loop leaves -/
structure NS (S : PH) (wr ib : Nat) (T : TypeId) (uv : Value) (S' H' : PH) (nk : Nat) (m : List (List UInt8 × Value)) : Prop where
  s : PH.le S S'
  i : PH.le S' H'
  w0 : S' wr = none
  b0 : S' ib = none
  w : H' wr = some (.cells #[uv, .int .i64 (nk : Int)] T (0, 0))
  b : ∃ es clock, H' ib = some (.map es clock) ∧ EntsR es.toList clock m
theorem nameR_max {az : List (List UInt8 × Nat)} (hA : ∀ x ∈ az, x.2 < 900000000000000000) {k : Int} {s : List UInt8} (hs : s.length ≤ maxLen) : (nameR az k s).length ≤ maxLen := by
  unfold nameR
  split
  · split
    · rename_i q hq
      have := hA _ (lastA_some hq)
      have := decDigits_18 (k := q) (by simp only at this; omega)
      simp only [newL, List.length_append, List.length_cons, List.length_nil, maxLen]; omega
    · exact hs
  · exact hs
set_option maxHeartbeats 4000000 in
theorem rename_tri (used : List (List UInt8)) : ∀ e, RenAt used e := by
  refine Xp.ind fun e ih az n cs S wr T uv av mu ma hwr0 hu hm ha hz hA hF he hT hb => ?_
  obtain ⟨nb, db, kb, nc, dc, kc, rfl, hx⟩ := Xp.Rep.open he
  have hn := hx.names.max
  have hk := hx.kids.max
  simp only [maxLen] at hn hk
  obtain ⟨fn, fk, ff⟩ := (Xp.fit_iff e).1 hF
  obtain ⟨ab, es0, clock0, hav, hab, hE0⟩ := id ha
  subst hav
  have hspec := newsN_spec used e.names n
  have hb' : n + e.names.length * (used.length + 1) + (Xps.bnd e.kids).length * (used.length + 1) + used.length < 900000000000000000 := by
    have := hb
    rw [Xp.bnd_eq, List.length_append, Nat.add_mul] at this
    omega
  have hle0 : PH.le S (S.upd wr (.cells #[uv, .int .i64 (n : Int)] T (0, 0))) := PH.le_upd hwr0
  have hw0 : (S.upd wr (.cells #[uv, .int .i64 (n : Int)] T (0, 0))) wr = some (.cells #[uv, .int .i64 (n : Int)] T (0, 0)) := PH.upd_same
  generalize S.upd wr (.cells #[uv, .int .i64 (n : Int)] T (0, 0)) = H0 at hle0 hw0 ⊢
  refine tri_core_renamer__rename (.pointer (some ⟨wr, 0, none⟩) :: exVs e nb db kb nc dc kc ++ [.map (some ab)]) (by kernel_rfl) (by kernel_rfl) ?_
  refine ⟨fun vs H' => vs = [.int .i64 e.kind, txt (nameR az e.kind e.name), .slice none 0 0, .int .i64 e.const.kind, .int .i64 e.const.int, txt e.const.text, .slice db e.const.list.length dc, .slice none 0 0] ∧ H' = H0, ?_, ?_⟩
  · rintro vs H1 _ ⟨rfl, rfl⟩
    refine den_call cb_Clone (Clone_tri H1 ab es0 clock0 (hle0 _ _ hab)) ?_
    rintro x H2 ⟨ib, rfl, hib, h2⟩
    refine ⟨_, [.map (some ib)], rfl, rfl, rfl, pendNil, ?_⟩
    have hne : wr ≠ ib := fun h => by rw [← h, hw0] at hib; cases hib
    have hSib : S ib = none := PH.none_of_le hle0 hib
    refine ⟨fun nn vs H' => ∃ (k nk : Nat) (ks : List Nat) (v : Value) (S' : PH) (m' : List (List UInt8 × Value)), vs = [.int .i64 k, .int .i64 e.kind, txt (nameR az e.kind e.name), v, .int .i64 e.const.kind, .int .i64 e.const.int, txt e.const.text, .slice db e.const.list.length dc, .slice none 0 0] ∧ k + nn = e.names.length ∧ ks.length = k ∧ newsN used e.names n = (ks ++ (newsN used (e.names.drop k) nk).1, (newsN used (e.names.drop k) nk).2) ∧ NS S wr ib T uv S' H' nk m' ∧ AsM m' (az ++ (e.names.take k).zip ks) ∧ Row S' H' 9 (ks.map newL) v ∧ ob v ≠ some wr ∧ ob v ≠ some ib,
      ⟨e.names.length, 0, n, [], .slice none 0 0, S, ma, rfl, by omega, rfl, by rw [List.drop_zero, List.nil_append], ⟨PH.le_refl _, updLe hle0 hSib h2, hwr0, hSib, by rw [h2, PH.upd_other hne]; exact hw0, es0, clock0, by rw [h2]; exact PH.upd_same, hE0⟩, by simpa using hz, Row.nil _ _ _, (fun h => by cases h), (fun h => by cases h)⟩, ?_⟩
    clear h2 hib
    rintro nn vs H3 _ ⟨k, nk, ks, v, S', m', rfl, hkn, hks, heq, ns, hz3, row, nw, ni⟩
    have hdr := newsN_spec used (e.names.drop k) nk
    have heq2 : (newsN used e.names n).2 = (newsN used (e.names.drop k) nk).2 := by rw [heq]
    refine ⟨fun g => ?_, fun g => ?_⟩
    · simp only [ev0, ev, evV, List.cons_append, List.nil_append, List.getD_cons_zero, List.getD_cons_succ, List.map_cons, List.map_nil, iOf, bOf, sOf, pOf, slLen, slBase, cmpI, arI, Value.ite_bool, int_beq, int_bne, ite_band, ite_bor, decide_eq_true_eq] at g
      obtain ⟨a, ha'⟩ : ∃ a, e.names[k]? = some a := ⟨_, List.getElem?_eq_getElem (show k < e.names.length by omega)⟩
      obtain ⟨g1, _, ces, g2, g3⟩ := (hx.names.le (PH.le_trans ns.s ns.i)).get ha'
      obtain ⟨rfl, _⟩ := csTxts g2
      refine ⟨fun _ => ?_, [txt a], rfl, by simp only [ev0, ev, evV, List.cons_append, List.nil_append, List.getD_cons_zero, List.getD_cons_succ, List.map_cons, List.map_nil, iOf, bOf, sOf, pOf, slLen, slBase, cmpI, arI, Value.ite_bool, int_beq, int_bne, ite_band, ite_bor]; exact g3, ?_⟩
      · simp only [Chk.holds, ev0, ev, evV, List.cons_append, List.nil_append, List.getD_cons_zero, List.getD_cons_succ, List.map_cons, List.map_nil, iOf, bOf, sOf, pOf, slLen, slBase, cmpI, arI, Value.ite_bool, int_beq, int_bne, ite_band, ite_bor]; exact ⟨g1, by omega, by omega⟩
      have hT3 := (hT.le ns.s).le ns.i
      have hf := freshN_spec used nk
      refine den_call cb_core_renamer__name (rname_tri H3 wr T uv mu used nk hT3 ns.w (hu.le (PH.le_trans ns.s ns.i)) hm (by omega)) ?_
      rintro x H4 ⟨rfl, h4⟩
      refine ⟨_, [.int .i64 (freshN used nk : Nat)], rfl, rfl, rfl, pendNil, ?_⟩
      have hS4 : PH.le S' H4 := updLe ns.i ns.w0 h4
      have hw4 : H4 wr = some (.cells #[uv, .int .i64 ((freshN used nk + 1 : Nat) : Int)] T (0, 0)) := by rw [h4]; exact PH.upd_same
      have hb4 : H4 ib = H3 ib := by rw [h4, PH.upd_other (Ne.symm hne)]
      have row4 : Row S' H4 9 (ks.map newL) v := row.left (PH.le_refl _) fun g hg => ⟨row.off g hg, by rw [h4, PH.upd_other]; exact fun hh => nw (by rw [hg, hh])⟩
      clear h4
      have hlt : freshN used nk < 900000000000000000 := by
        have e1 : newsN used (e.names.drop k) nk = (freshN used nk :: (newsN used (e.names.drop (k + 1)) (freshN used nk + 1)).1, (newsN used (e.names.drop (k + 1)) (freshN used nk + 1)).2) := by rw [drop_get ha']; rfl
        have := (newsN_spec used (e.names.drop (k + 1)) (freshN used nk + 1)).1
        rw [e1] at heq2
        simp only at heq2
        omega
      refine den_call cb_core_named (named_tri (freshN used nk) (by omega) _ ((hT.le ns.s).le hS4)) ?_
      rintro x H4' ⟨rfl, hh⟩
      rw [hh]
      refine ⟨_, [txt (newL (freshN used nk))], rfl, rfl, rfl, pendNil, ?_⟩
      have hlen : (newL (freshN used nk)).length ≤ maxLen := by
        have := decDigits_18 (k := freshN used nk) (by omega)
        simp only [newL, List.length_append, List.length_cons, List.length_nil, maxLen]; omega
      refine den_rowLit (l := [newL (freshN used nk)]) (b := 16) [txt (newL (freshN used nk))] uTxts elemTxt rfl (by decide) (by decide) hS4 rfl (.cons ⟨_, _, rfl, ⟨rfl, hlen⟩, rfl⟩ .nil) pendNil fun v5 S5 H5 x5 h5 _ => ?_
      have row5 := row4.ext x5
      refine den_rowAppend (b := 16) uTxts elemTxt rfl rfl x5.i row5 h5 (by simp only [maxLen, List.length_map, List.length_cons, List.length_nil]; omega) (by simp only [List.length_map, List.length_cons, List.length_nil]; omega) fun v6 H6 r6 w6 s6 => ⟨pendNil, ?_⟩
      obtain ⟨es3, clock3, hb3, hE3⟩ := ns.b
      have hw5 := x5.h _ _ hw4
      have hb5 := x5.h _ _ (hb4.trans hb3)
      have hw6 := w6.keep _ _ hw5 fun hh => nw hh.symm
      have hb6 := w6.keep _ _ hb5 fun hh => ni hh.symm
      have off5 : ∀ q, S' q = none → H4 q ≠ none → S5 q = none := fun q h1 h2 => by
        cases hq : S5 q with
        | none => rfl
        | some o => exact absurd (x5.n q h1 (by rw [hq]; exact fun h => by cases h)) h2
      have wS5 := off5 wr ns.w0 (by rw [hw4]; exact fun h => by cases h)
      have bS5 := off5 ib ns.b0 (by rw [hb4, hb3]; exact fun h => by cases h)
      have nw6 : ob v6 ≠ some wr := fun hh => by
        rcases w6.fresh wr hh with h1 | h1
        · exact nw h1
        · rw [hw5] at h1; cases h1
      have ni6 : ob v6 ≠ some ib := fun hh => by
        rcases w6.fresh ib hh with h1 | h1
        · exact ni h1
        · rw [hb5] at h1; cases h1
      refine den_mapUpdate a (.int .i64 (freshN used nk : Nat)) uMapSI kdStr rfl rfl rfl hb6 hE3 fun es7 clock7 m7 => ?_
      refine ⟨_, lookup_hit, nn - 1, by omega, k + 1, freshN used nk + 1, ks ++ [freshN used nk], v6, S5, putM m' a (.int .i64 (freshN used nk : Nat)), ?_, by omega, by simp [hks], ?_, ⟨PH.le_trans ns.s x5.s, le_updOff s6 bS5 _, wS5, bS5, by rw [PH.upd_other hne]; exact hw6, es7, clock7, PH.upd_same, m7⟩, ?_, ?_, nw6, ni6⟩
      · simp only [ev0, ev, evV, List.cons_append, List.nil_append, List.getD_cons_zero, List.getD_cons_succ, List.map_cons, List.map_nil, iOf, bOf, sOf, pOf, slLen, slBase, cmpI, arI, Value.ite_bool, int_beq, int_bne, ite_band, ite_bor]
        rw [w64 (by omega) (by omega)]
        rfl
      · rw [heq, drop_get ha']; simp only [newsN, List.append_assoc, List.cons_append, List.nil_append]
      · rw [List.take_add_one, ha', List.zip_append (by rw [List.length_take, hks]; omega), ← List.append_assoc]
        exact hz3.put a (freshN used nk)
      · rw [List.map_append]
        exact r6.left (PH.le_refl _) fun g hg => ⟨r6.off g hg, by rw [PH.upd_other]; exact fun hh => ni6 (by rw [hg, hh])⟩
    · simp only [ev0, ev, evV, List.cons_append, List.nil_append, List.getD_cons_zero, List.getD_cons_succ, List.map_cons, List.map_nil, iOf, bOf, sOf, pOf, slLen, slBase, cmpI, arI, Value.ite_bool, int_beq, int_bne, ite_band, ite_bor, decide_eq_false_iff_not] at g
      have hkk : k = e.names.length := by omega
      subst hkk
      rw [List.drop_length] at heq
      simp only [newsN, List.append_nil] at heq
      rw [List.take_length] at hz3
      rw [heq] at hspec
      simp only at hspec
      obtain ⟨S2, hs2, l02, l2H, hnew⟩ := row.freeze ns.i
      obtain ⟨es3, clock3, hb3, hE3⟩ := ns.b
      have hS2w : S2 wr = none := by
        cases hq : S2 wr with
        | none => rfl
        | some o => exact absurd (hnew wr ns.w0 (by rw [hq]; exact fun h => by cases h)) nw
      have hS2b : S2 ib = none := by
        cases hq : S2 ib with
        | none => rfl
        | some o => exact absurd (hnew ib ns.b0 (by rw [hq]; exact fun h => by cases h)) ni
      obtain ⟨S3, hS3⟩ : ∃ S3, S3 = S2.upd ib (.map es3 clock3) := ⟨_, rfl⟩
      have l23 : PH.le S2 S3 := by rw [hS3]; exact PH.le_upd hS2b
      have l3H : PH.le S3 H3 := fun q o hq => by
        rw [hS3] at hq
        by_cases hqi : q = ib
        · subst hqi; rw [PH.upd_same] at hq; rw [hb3]; exact hq
        · rw [PH.upd_other hqi] at hq; exact l2H q o hq
      have hib3 : MapR S3 (.map (some ib)) m' := ⟨ib, es3, clock3, rfl, by rw [hS3]; exact PH.upd_same, hE3⟩
      have hS3w : S3 wr = none := by rw [hS3, PH.upd_other hne]; exact hS2w
      have l03 : PH.le S S3 := PH.le_trans ns.s (PH.le_trans l02 l23)
      have hvn := hs2.le l23
      clear hS3 hnew
      obtain ⟨inner, hinner⟩ : ∃ inner, inner = az ++ e.names.zip ks := ⟨_, rfl⟩
      rw [← hinner] at hz3
      have hA3 : ∀ x ∈ inner, x.2 < 900000000000000000 := fun x hx' => by
        rw [hinner] at hx'
        rcases List.mem_append.1 hx' with h1 | h1
        · exact hA x h1
        · have := (hspec.2.2.2 x.2 (List.of_mem_zip (show (x.1, x.2) ∈ _ from h1)).2).2.1
          omega
      refine ⟨fun nn vs H' => ∃ (k nk2 : Nat) (l' : List Xp) (w : Value) (S' : PH), vs = [.int .i64 k, .int .i64 e.kind, txt (nameR az e.kind e.name), v, .int .i64 e.const.kind, .int .i64 e.const.int, txt e.const.text, .slice db e.const.list.length dc, w] ∧ k + nn = e.kids.length ∧ l'.length = k ∧ Xps.ren used az inner e.kind e.kids nk = (l' ++ (Xps.ren used az inner e.kind (e.kids.drop k) nk2).1, (Xps.ren used az inner e.kind (e.kids.drop k) nk2).2) ∧ nk2 + (Xps.bnd (e.kids.drop k)).length * (used.length + 1) + used.length < 900000000000000000 ∧ PH.le S3 S' ∧ PH.le S' H' ∧ S' wr = none ∧ H' wr = some (.cells #[uv, .int .i64 (nk2 : Int)] T (0, 0)) ∧ Row S' H' 28 l' w ∧ ob w ≠ some wr,
        ⟨e.kids.length, 0, nk, [], .slice none 0 0, S3, rfl, by omega, rfl, by rw [List.drop_zero, List.nil_append], by rw [List.drop_zero]; omega, PH.le_refl _, l3H, hS3w, ns.w, Row.nil _ _ _, fun h => by cases h⟩, ?_⟩
      have hnsw := ns.w
      clear nw ni row ns hn hs2 l02 l2H l23
      rintro nn vs H4 _ ⟨k, nk2, l', y, S', rfl, hkn, hl', heq3, hbk, sS, iS, wS, wH, row, nw⟩
      refine ⟨fun g => ?_, fun g => ?_⟩
      · simp only [ev0, ev, evV, List.cons_append, List.nil_append, List.getD_cons_zero, List.getD_cons_succ, List.map_cons, List.map_nil, iOf, bOf, sOf, pOf, slLen, slBase, cmpI, arI, Value.ite_bool, int_beq, int_bne, ite_band, ite_bor, decide_eq_true_eq] at g
        obtain ⟨a, ha'⟩ : ∃ a, e.kids[k]? = some a := ⟨_, List.getElem?_eq_getElem (show k < e.kids.length by omega)⟩
        obtain ⟨g1, _, ces, g2, g3⟩ := (hx.kids.le (PH.le_trans l03 sS)).get ha'
        have hbnd : Xps.bnd (e.kids.drop k) = a.bnd ++ Xps.bnd (e.kids.drop (k + 1)) := by rw [drop_get ha', Xps.bnd]
        rw [hbnd, List.length_append, Nat.add_mul] at hbk
        have hbk1 : nk2 + a.bnd.length * (used.length + 1) + used.length < 900000000000000000 := by omega
        have htags := Xp.Rep.tags g2
        have g2' := g2
        obtain ⟨nb', db', kb', nc', dc', kc', rfl, _⟩ := Xp.Rep.open g2'
        refine ⟨fun vs H' => ∃ (nk3 : Nat) (l2 : List Xp) (w : Value) (S'' : PH), vs = [.int .i64 e.kind, txt (nameR az e.kind e.name), v, .int .i64 e.const.kind, .int .i64 e.const.int, txt e.const.text, .slice db e.const.list.length dc, w] ∧ l2.length = k + 1 ∧ Xps.ren used az inner e.kind e.kids nk = (l2 ++ (Xps.ren used az inner e.kind (e.kids.drop (k + 1)) nk3).1, (Xps.ren used az inner e.kind (e.kids.drop (k + 1)) nk3).2) ∧ nk3 + (Xps.bnd (e.kids.drop (k + 1))).length * (used.length + 1) + used.length < 900000000000000000 ∧ PH.le S3 S'' ∧ PH.le S'' H' ∧ S'' wr = none ∧ H' wr = some (.cells #[uv, .int .i64 (nk3 : Int)] T (0, 0)) ∧ Row S'' H' 28 l2 w ∧ ob w ≠ some wr, ?_, ?_⟩
        · rintro vs H5 _ ⟨nk3, l2, w, S5, rfl, hl2, heq4, hbk4, sS5, iS5, wS5, wH5, row5, nw5⟩
          refine ⟨_, lookup_hit, nn - 1, by omega, k + 1, nk3, l2, w, S5, ?_, by omega, hl2, heq4, hbk4, sS5, iS5, wS5, wH5, row5, nw5⟩
          simp only [ev0, ev, evV, List.cons_append, List.nil_append, List.getD_cons_zero, List.getD_cons_succ, List.map_cons, List.map_nil, iOf, bOf, sOf, pOf, slLen, slBase, cmpI, arI, Value.ite_bool, int_beq, int_bne, ite_band, ite_bor]
          rw [w64 (by omega) (by omega)]
          rfl
        refine ⟨fun _ => ?_, _, htags, by simp only [ev0, ev, evV, List.cons_append, List.nil_append, List.getD_cons_zero, List.getD_cons_succ, List.map_cons, List.map_nil, iOf, bOf, sOf, pOf, slLen, slBase, cmpI, arI, Value.ite_bool, int_beq, int_bne, ite_band, ite_bor]; exact rowAt_le iS g3, ?_⟩
        · simp only [Chk.holds, ev0, ev, evV, List.cons_append, List.nil_append, List.getD_cons_zero, List.getD_cons_succ, List.map_cons, List.map_nil, iOf, bOf, sOf, pOf, slLen, slBase, cmpI, arI, Value.ite_bool, int_beq, int_bne, ite_band, ite_bor]; exact ⟨g1, by omega, by omega⟩
        refine den_gives [.bool (inB e.kind (e.kids.drop (k + 1)))] cb_core_binds (binds_gives e _ H4 (Xp.Rep.le (PH.le_trans l03 (PH.le_trans sS iS)) e he) k (by omega)) rfl pendNil fun H5 hl5 => ?_
        have iS' := PH.le_trans iS hl5
        have wH' := hl5 _ _ wH
        have row' := row.ext (Ext.of_le iS hl5)
        refine ⟨fun gb => ?_, fun gb => ?_⟩
        · simp only [ev0, ev, evV, List.cons_append, List.nil_append, List.getD_cons_zero, List.getD_cons_succ, List.map_cons, List.map_nil, iOf, bOf, sOf, pOf, slLen, slBase, cmpI, arI, Value.ite_bool, int_beq, int_bne, ite_band, ite_bor] at gb
          have hcall := RenAt.use (ih a (List.mem_of_getElem? ha')) iS' wS wH' (hu.le (PH.le_trans l03 sS)) hm (hib3.le sS) hz3 hA3 (ff a (List.mem_of_getElem? ha')) g2 (hT.le (PH.le_trans l03 sS)) hbk1
          rw [show (Xps.ren used az inner e.kind (e.kids.drop k) nk2) = (((a.ren used inner nk2).1 :: (Xps.ren used az inner e.kind (e.kids.drop (k + 1)) (a.ren used inner nk2).2).1), (Xps.ren used az inner e.kind (e.kids.drop (k + 1)) (a.ren used inner nk2).2).2) from by rw [drop_get ha']; simp only [Xps.ren, gb]; rfl] at heq3
          obtain ⟨na, _⟩ := Xp.nums used a inner nk2
          have nb2 := (Xp.nums used a inner nk2).2.1
          refine den_call cb_core_renamer__rename hcall ?_
          rintro x K5 ⟨cs5, S5, rfl, p1, p2, p3, p4, p5, p6⟩
          have r5 : Row S5 K5 28 l' y := row'.left p2 fun g hg => p6 g (row'.off g hg) (row'.dwell hg) fun hh => nw (by rw [hg, hh])
          have p1' := p1
          obtain ⟨nb5, db5, kb5, nc5, dc5, kc5, rfl, _⟩ := Xp.Rep.open p1'
          refine ⟨_, exVs (a.ren used inner nk2).1 nb5 db5 kb5 nc5 dc5 kc5, rfl, rfl, rfl, pendNil, ?_⟩
          refine den_rowLit (l := [(a.ren used inner nk2).1]) (b := 128) [.agg (exVs (a.ren used inner nk2).1 nb5 db5 kb5 nc5 dc5 kc5).toArray] uExprs elemExpr rfl (by decide) (by decide) p3 rfl (.cons p1 .nil) pendNil fun v6 S6 K6 x6 h6 _ => ?_
          refine den_rowAppend (b := 128) uExprs elemExpr rfl rfl x6.i (r5.ext x6) h6 (by simp only [maxLen, List.length_cons, List.length_nil]; omega) (by simp only [List.length_cons, List.length_nil]; omega) fun v7 K7 r7 w7 s7 => ⟨pendNil, ?_⟩
          have wS6 : S6 wr = none := by
            cases hx6 : S6 wr with
            | none => rfl
            | some o => have := x6.n wr p4 (by rw [hx6]; exact fun h => by cases h); rw [p5] at this; cases this
          have w6 := x6.h _ _ p5
          have nw7 : ob v7 ≠ some wr := fun hh => by
            rcases w7.fresh wr hh with h1 | h1
            · exact nw h1
            · rw [w6] at h1; cases h1
          have wK7 := w7.keep _ _ w6 fun hh => nw hh.symm
          refine ⟨_, lookup_hit, (a.ren used inner nk2).2, l' ++ [(a.ren used inner nk2).1], v7, S6, ?_, by simp [hl'], ?_, by omega, PH.le_trans sS (PH.le_trans p2 x6.s), s7, wS6, wK7, r7, nw7⟩
          · simp only [ev0, ev, evV, List.cons_append, List.nil_append, List.getD_cons_zero, List.getD_cons_succ, List.map_cons, List.map_nil, iOf, bOf, sOf, pOf, slLen, slBase, cmpI, arI, Value.ite_bool, int_beq, int_bne, ite_band, ite_bor]
          · rw [heq3]; simp only [List.append_assoc, List.cons_append, List.nil_append]
        · simp only [ev0, ev, evV, List.cons_append, List.nil_append, List.getD_cons_zero, List.getD_cons_succ, List.map_cons, List.map_nil, iOf, bOf, sOf, pOf, slLen, slBase, cmpI, arI, Value.ite_bool, int_beq, int_bne, ite_band, ite_bor] at gb
          have hcall := RenAt.use (ih a (List.mem_of_getElem? ha')) iS' wS wH' (hu.le (PH.le_trans l03 sS)) hm (ha.le (PH.le_trans l03 sS)) hz hA (ff a (List.mem_of_getElem? ha')) g2 (hT.le (PH.le_trans l03 sS)) hbk1
          rw [show (Xps.ren used az inner e.kind (e.kids.drop k) nk2) = (((a.ren used az nk2).1 :: (Xps.ren used az inner e.kind (e.kids.drop (k + 1)) (a.ren used az nk2).2).1), (Xps.ren used az inner e.kind (e.kids.drop (k + 1)) (a.ren used az nk2).2).2) from by rw [drop_get ha']; simp only [Xps.ren, gb]; rfl] at heq3
          obtain ⟨na, _⟩ := Xp.nums used a az nk2
          have nb2 := (Xp.nums used a az nk2).2.1
          refine den_call cb_core_renamer__rename hcall ?_
          rintro x K5 ⟨cs5, S5, rfl, p1, p2, p3, p4, p5, p6⟩
          have r5 : Row S5 K5 28 l' y := row'.left p2 fun g hg => p6 g (row'.off g hg) (row'.dwell hg) fun hh => nw (by rw [hg, hh])
          have p1' := p1
          obtain ⟨nb5, db5, kb5, nc5, dc5, kc5, rfl, _⟩ := Xp.Rep.open p1'
          refine ⟨_, exVs (a.ren used az nk2).1 nb5 db5 kb5 nc5 dc5 kc5, rfl, rfl, rfl, pendNil, ?_⟩
          refine den_rowLit (l := [(a.ren used az nk2).1]) (b := 128) [.agg (exVs (a.ren used az nk2).1 nb5 db5 kb5 nc5 dc5 kc5).toArray] uExprs elemExpr rfl (by decide) (by decide) p3 rfl (.cons p1 .nil) pendNil fun v6 S6 K6 x6 h6 _ => ?_
          refine den_rowAppend (b := 128) uExprs elemExpr rfl rfl x6.i (r5.ext x6) h6 (by simp only [maxLen, List.length_cons, List.length_nil]; omega) (by simp only [List.length_cons, List.length_nil]; omega) fun v7 K7 r7 w7 s7 => ⟨pendNil, ?_⟩
          have wS6 : S6 wr = none := by
            cases hx6 : S6 wr with
            | none => rfl
            | some o => have := x6.n wr p4 (by rw [hx6]; exact fun h => by cases h); rw [p5] at this; cases this
          have w6 := x6.h _ _ p5
          have nw7 : ob v7 ≠ some wr := fun hh => by
            rcases w7.fresh wr hh with h1 | h1
            · exact nw h1
            · rw [w6] at h1; cases h1
          have wK7 := w7.keep _ _ w6 fun hh => nw hh.symm
          refine ⟨_, lookup_hit, (a.ren used az nk2).2, l' ++ [(a.ren used az nk2).1], v7, S6, ?_, by simp [hl'], ?_, by omega, PH.le_trans sS (PH.le_trans p2 x6.s), s7, wS6, wK7, r7, nw7⟩
          · simp only [ev0, ev, evV, List.cons_append, List.nil_append, List.getD_cons_zero, List.getD_cons_succ, List.map_cons, List.map_nil, iOf, bOf, sOf, pOf, slLen, slBase, cmpI, arI, Value.ite_bool, int_beq, int_bne, ite_band, ite_bor]
          · rw [heq3]; simp only [List.append_assoc, List.cons_append, List.nil_append]
      · simp only [ev0, ev, evV, List.cons_append, List.nil_append, List.getD_cons_zero, List.getD_cons_succ, List.map_cons, List.map_nil, iOf, bOf, sOf, pOf, slLen, slBase, cmpI, arI, Value.ite_bool, int_beq, int_bne, ite_band, ite_bor, decide_eq_false_iff_not] at g
        have hkk : k = e.kids.length := by omega
        subst hkk
        rw [List.drop_length] at heq3
        simp only [Xps.ren, List.append_nil] at heq3
        obtain ⟨S6, hs6, l46, l6H, hnew6⟩ := row.freeze iS
        have hS6w : S6 wr = none := by
          cases hq : S6 wr with
          | none => rfl
          | some o => exact absurd (hnew6 wr wS (by rw [hq]; exact fun h => by cases h)) nw
        have l06 := PH.le_trans l03 (PH.le_trans sS l46)
        refine ⟨[.int .i64 e.kind, txt (nameR az e.kind e.name), v, .int .i64 e.const.kind, .int .i64 e.const.int, txt e.const.text, .slice db e.const.list.length dc, y], S6, rfl, ?_, l06, l6H, hS6w, ?_⟩
        · rw [Xp.ren_eq, heq, ← hinner, heq3]
          refine Xp.Rep_iff.2 ⟨_, _, _, rfl, hx.kind, ?_, hvn.le (PH.le_trans sS l46), Dat.Rep.le l06 _ hx.const, hs6⟩
          show (nameR az e.kind e.name).length ≤ maxLen
          exact nameR_max hA hx.name
        · rw [Xp.ren_eq, heq, ← hinner, heq3]; exact wH
  · have hg := hz e.name
    refine den_lookupOk e.name (.int .i64 0) uMapSI kdStr zInt rfl rfl (ha.le hle0) (by rw [hg]; cases lastA az e.name <;> rfl) pendNil ?_
    rw [hg]
    cases hl : lastA az e.name with
    | none =>
      refine ⟨fun h => absurd h (by simp [ev0, ev, evV, List.cons_append, List.nil_append, List.getD_cons_zero, List.getD_cons_succ, List.map_cons, List.map_nil, iOf, bOf, sOf, pOf, slLen, slBase, cmpI, arI, Value.ite_bool]), fun _ => ⟨_, lookup_hit, ?_, rfl⟩⟩
      simp only [ev0, ev, evV, List.cons_append, List.nil_append, List.getD_cons_zero, List.getD_cons_succ, List.map_cons, List.map_nil, iOf, bOf, sOf, pOf, slLen, slBase, cmpI, arI, Value.ite_bool, int_beq, int_bne, ite_band, ite_bor, nameR, hl]
      split <;> rfl
    | some q =>
      by_cases hk12 : e.kind = 1 ∨ e.kind = 2
      · refine ⟨fun _ => ?_, fun h => absurd h (by rcases hk12 with h1 | h1 <;> simp [ev0, ev, evV, List.cons_append, List.nil_append, List.getD_cons_zero, List.getD_cons_succ, List.map_cons, List.map_nil, iOf, bOf, sOf, pOf, slLen, slBase, cmpI, arI, Value.ite_bool, h1])⟩
        have hq := hA _ (lastA_some hl)
        refine den_call cb_core_named (named_tri q (by simp only at hq; omega) _ (hT.le hle0)) ?_
        rintro x H1 ⟨rfl, rfl⟩
        refine ⟨_, [txt (newL q)], rfl, rfl, rfl, pendNil, _, lookup_hit, ?_, rfl⟩
        simp only [ev0, ev, evV, List.cons_append, List.nil_append, List.getD_cons_zero, List.getD_cons_succ, List.map_cons, List.map_nil, iOf, bOf, sOf, pOf, slLen, slBase, cmpI, arI, Value.ite_bool, int_beq, int_bne, ite_band, ite_bor, nameR, hl, if_pos hk12]; rfl
      · refine ⟨fun h => absurd h ?_, fun _ => ⟨_, lookup_hit, ?_, rfl⟩⟩
        · have h1 : ¬ e.kind = 1 := fun h => hk12 (.inl h)
          have h2 : ¬ e.kind = 2 := fun h => hk12 (.inr h)
          simp [ev0, ev, evV, List.cons_append, List.nil_append, List.getD_cons_zero, List.getD_cons_succ, List.map_cons, List.map_nil, iOf, bOf, sOf, pOf, slLen, slBase, cmpI, arI, Value.ite_bool, h1, h2]
        · simp only [ev0, ev, evV, List.cons_append, List.nil_append, List.getD_cons_zero, List.getD_cons_succ, List.map_cons, List.map_nil, iOf, bOf, sOf, pOf, slLen, slBase, cmpI, arI, Value.ite_bool, int_beq, int_bne, ite_band, ite_bor, nameR, if_neg hk12]; rfl
end Go.Proofs.YtibinelkmlcmgaaGreatDoor.Vc
/-
  CORE: the program's Rename.
-/
namespace Go.Proofs.YtibinelkmlcmgaaGreatDoor.Vc
open Go Go.Sort

def renameX (e : Xp) : Xp := if (e.chk true 0 0).2 = 0 then (e.ren e.all [] 0).1 else .mk 0 [] [] dat0 []
theorem ex0_rep (H : PH) : (Xp.mk 0 [] [] dat0 []).Rep H [.int .i64 0, txt [], .slice none 0 0, .int .i64 0, .int .i64 0, txt [], .slice none 0 0, .slice none 0 0] := by
  have h0 : InI 0 := by decide
  refine Xp.Rep_iff.2 ⟨.slice none 0 0, .slice none 0 0, .slice none 0 0, rfl, h0, Nat.zero_le _, ?_, ?_, ?_⟩
  · exact SlR.mk_iff.2 ⟨Nat.zero_le _, .inl ⟨rfl, rfl⟩⟩
  · exact Dat.Rep_iff.2 ⟨.slice none 0 0, rfl, h0, h0, Nat.zero_le _, SlR.mk_iff.2 ⟨Nat.zero_le _, .inl ⟨rfl, rfl⟩⟩⟩
  · exact SlR.mk_iff.2 ⟨Nat.zero_le _, .inl ⟨rfl, rfl⟩⟩
theorem CRename_tri (e : Xp) (cs : List Value) (H : PH) (he : e.Rep H cs) (hT : Tab H) : Tri Tryz.prog n_core_Rename #[.agg cs.toArray] H fun x H' => ∃ cs', x = .returned (.agg cs'.toArray) ∧ (renameX e).Rep H' cs' ∧ PH.le H H' := by
  have he' := he
  obtain ⟨nb, db, kb, nc, dc, kc, rfl, hx⟩ := Xp.Rep.open he
  refine tri_core_Rename (exVs e nb db kb nc dc kc) (by kernel_rfl) (by kernel_rfl) ?_
  refine den_gives [.int .i64 (e.chk true 0 0).2] cb_core_Check (CCheckF_gives e _ H he') rfl pendNil fun H1 h1 => ?_
  refine ⟨fun h => ?_, fun h => ?_⟩
  · simp only [ev0, ev, evV, List.cons_append, List.nil_append, List.getD_cons_zero, List.getD_cons_succ, List.map_cons, List.map_nil, iOf, bOf, sOf, pOf, slLen, slBase, cmpI, arI, Value.ite_bool, int_beq, int_bne, ite_band, ite_bor, decide_eq_true_eq] at h
    refine ⟨[.int .i64 0, txt [], .slice none 0 0, .int .i64 0, .int .i64 0, txt [], .slice none 0 0, .slice none 0 0], rfl, ?_, h1⟩
    rw [renameX, if_neg h]; exact ex0_rep H1
  simp only [ev0, ev, evV, List.cons_append, List.nil_append, List.getD_cons_zero, List.getD_cons_succ, List.map_cons, List.map_nil, iOf, bOf, sOf, pOf, slLen, slBase, cmpI, arI, Value.ite_bool, int_beq, int_bne, ite_band, ite_bor, decide_eq_false_iff_not, ne_eq, Decidable.not_not] at h
  obtain ⟨hfit, hbn, hal⟩ := chk_bounds h
  refine den_makeMap fun ub hub => ?_
  intro wr hwr
  have huw : ub ≠ wr := fun h => by rw [← h, PH.upd_same] at hwr; cases hwr
  have hwr1 : H1 wr = none := by rw [PH.upd_other (Ne.symm huw)] at hwr; exact hwr
  have hHub : H ub = none := PH.none_of_le h1 hub
  have hHwr : H wr = none := PH.none_of_le h1 hwr1
  have hleU : PH.le H (H1.upd ub (.map #[] 0)) := PH.le_trans h1 (PH.le_upd hub)
  have hle2 := le_updOff hleU hHwr (.cells #[.map (some ub), .int .i64 ((0 : Nat) : Int)] 46 (0, 0))
  have w2 : ((H1.upd ub (.map #[] 0)).upd wr (.cells #[.map (some ub), .int .i64 ((0 : Nat) : Int)] 46 (0, 0))) wr = some (.cells #[.map (some ub), .int .i64 ((0 : Nat) : Int)] 46 (0, 0)) := PH.upd_same
  have u2 : ((H1.upd ub (.map #[] 0)).upd wr (.cells #[.map (some ub), .int .i64 ((0 : Nat) : Int)] 46 (0, 0))) ub = some (.map #[] 0) := by rw [PH.upd_other huw, PH.upd_same]
  refine den_call cb_core_renamer__seen (seen_tri e _ H _ wr ub _ _ _ _ [] hle2 hHub he' w2 u2 EntsR.empty) ?_
  rintro x H3 ⟨rfl, es3, clock3, h3, hE3⟩
  refine ⟨_, [], rfl, rfl, rfl, pendNil, ?_⟩
  have w3 : H3 wr = some (.cells #[.map (some ub), .int .i64 ((0 : Nat) : Int)] 46 (0, 0)) := by rw [h3, PH.upd_other (Ne.symm huw)]; exact w2
  have u3 : H3 ub = some (.map es3 clock3) := by rw [h3, PH.upd_same]
  have l3 : PH.le H H3 := by rw [h3]; exact le_updOff hle2 hHub _
  clear h3 w2 u2 hle2
  refine den_makeMap fun ab hab => ?_
  have haw : ab ≠ wr := fun h => by rw [h, w3] at hab; cases hab
  have hau : ab ≠ ub := fun h => by rw [h, u3] at hab; cases hab
  have hHab : H ab = none := PH.none_of_le l3 hab
  obtain ⟨S, hS⟩ : ∃ S, S = (H.upd ub (.map es3 clock3)).upd ab (.map #[] 0) := ⟨_, rfl⟩
  have hSu : S ub = some (.map es3 clock3) := by rw [hS, PH.upd_other (Ne.symm hau), PH.upd_same]
  have hSa : S ab = some (.map #[] 0) := by rw [hS, PH.upd_same]
  have hSw : S wr = none := by rw [hS, PH.upd_other (Ne.symm haw), PH.upd_other (Ne.symm huw)]; exact hHwr
  have lHS : PH.le H S := by rw [hS]; exact le_updOff (le_updOff (PH.le_refl _) hHub _) hHab _
  have lS4 : PH.le S (H3.upd ab (.map #[] 0)) := fun k o hk => by
    by_cases e1 : k = ab
    · subst e1; rw [hSa] at hk; rw [PH.upd_same]; exact hk
    · rw [PH.upd_other e1]
      by_cases e2 : k = ub
      · subst e2; rw [hSu] at hk; rw [u3]; exact hk
      · rw [hS, PH.upd_other e1, PH.upd_other e2] at hk; exact l3 k o hk
  have w4 : (H3.upd ab (.map #[] 0)) wr = some (.cells #[.map (some ub), .int .i64 ((0 : Nat) : Int)] 46 (0, 0)) := by rw [PH.upd_other (Ne.symm haw)]; exact w3
  have hus : UsedM (putsM [] e.all) e.all := fun s => by
    rw [getM_puts]
    by_cases hs : s ∈ e.all
    · rw [if_pos hs, if_pos hs]; rfl
    · rw [if_neg hs, if_neg hs]; rfl
  have hbb : 0 + e.bnd.length * (e.all.length + 1) + e.all.length < 900000000000000000 := by
    have : e.bnd.length * (e.all.length + 1) ≤ 28672 * 32769 := Nat.mul_le_mul hbn (by omega)
    omega
  refine den_call cb_core_renamer__rename (RenAt.use (rename_tri e.all e) (az := []) (n := 0) (mu := putsM [] e.all) (ma := []) lS4 hSw w4 ⟨ub, es3, clock3, rfl, hSu, hE3⟩ hus ⟨ab, #[], 0, rfl, hSa, EntsR.empty⟩ (fun s => rfl) (fun x hx => by cases hx) hfit (Xp.Rep.le lHS e he') (hT.le lHS) hbb) ?_
  rintro x H5 ⟨cs5, S5, rfl, p1, p2, p3, _, _, _⟩
  have p1' := p1
  obtain ⟨nb5, db5, kb5, nc5, dc5, kc5, rfl, _⟩ := Xp.Rep.open p1'
  refine ⟨_, exVs (e.ren e.all [] 0).1 nb5 db5 kb5 nc5 dc5 kc5, rfl, rfl, rfl, pendNil, exVs (e.ren e.all [] 0).1 nb5 db5 kb5 nc5 dc5 kc5, rfl, ?_, PH.le_trans lHS (PH.le_trans p2 p3)⟩
  rw [renameX, if_pos h]; exact Xp.Rep.le p3 _ p1
end Go.Proofs.YtibinelkmlcmgaaGreatDoor.Vc
/-
  CORE: the document's Rename.
-/
namespace Go.Proofs.YtibinelkmlcmgaaGreatDoor.Vc
open Go

/-- a name, and the new one -/
structure PrX where
  o : List UInt8
  n : List UInt8
instance encPr : Enc PrX := ⟨fun p => [.str p.o, .str p.n], 2, fun _ => rfl⟩
def prs (az : List (List UInt8 × Nat)) : List PrX := az.map fun x => ⟨x.1, newL x.2⟩
theorem prs_append (a b : List (List UInt8 × Nat)) : prs (a ++ b) = prs a ++ prs b := List.map_append
theorem prs_len (a : List (List UInt8 × Nat)) : (prs a).length = a.length := List.length_map ..
theorem uPrs : Tryz.prog.underlying 68 = some (.slice 70) := by kernel_rfl
theorem elemPr : ElemOk Tryz.prog 70 2 32 = true := by kernel_rfl
theorem pr_rep {H : PH} {p : PrX} (h1 : p.o.length ≤ maxLen) (h2 : p.n.length ≤ maxLen) : CsR H p [txt p.o, txt p.n] := ⟨_, _, rfl, ⟨rfl, h1⟩, _, _, rfl, ⟨rfl, h2⟩, rfl⟩
theorem pr_open {H : PH} {p : PrX} {cs : List Value} (h : CsR H p cs) : cs = [txt p.o, txt p.n] := by
  have h' : PV.RepRow H [.str p.o, .str p.n] cs := h
  simp only [PV.RepRow, PV.Rep] at h'
  obtain ⟨v, vs, rfl, ⟨rfl, _⟩, w, ws, rfl, ⟨rfl, _⟩, rfl⟩ := h'
  rfl
theorem newL_len {k : Nat} (h : k < 1000000000000000000) : (newL k).length ≤ maxLen := by
  have := decDigits_18 h
  simp only [newL, List.length_append, List.length_cons, List.length_nil, maxLen]; omega
theorem Next6_gives (used : List (List UInt8)) (v : Value) (n : Nat) (H : PH) (hv : SlR H used v) (hb : n + used.length < 900000000000000000) : Gives Tryz.prog n_scrimshawref06_next [v, .int .i64 n] H (.tuple #[txt (newL (freshN used n)), .int .i64 ((freshN used n + 1 : Nat) : Int)]) := by
  have hf := freshN_spec used n
  obtain ⟨b, c, rfl⟩ := hv.sl
  refine tri_scrimshawref06_next [.slice b used.length c, .int .i64 n] (by kernel_rfl) (by kernel_rfl) ?_
  refine ⟨fun f vs H' => ∃ k : Nat, vs = [.int .i64 k, txt [], .int .i64 0] ∧ n ≤ k ∧ k + f = freshN used n ∧ freshN used k = freshN used n ∧ PH.le H H', ⟨freshN used n - n, n, rfl, Nat.le_refl _, by omega, rfl, PH.le_refl _⟩, ?_⟩
  rintro f vs H1 _ ⟨k, rfl, hnk, hkf, hfk, l1⟩
  have hi : Lib.itoa (k : Int) = Lib.decDigits k := by unfold Lib.itoa; rw [if_neg (by omega), Int.toNat_natCast]
  have h18 := decDigits_18 (k := k) (by omega)
  have hw64 : IntKind.i64.wrap ((k : Int) + 1) = ((k + 1 : Nat) : Int) := by rw [w64 (by omega) (by omega)]; omega
  refine den_gives [txt (Lib.decDigits k)] cb_scrimshawref02_Digits (by have := Digits_gives (k : Int) (by constructor <;> omega) H1; rw [hi] at this; exact this) rfl pendNil fun H2 l2 => ?_
  have hcat : (⟨[118, 46].toArray⟩ : ByteArray) ++ ⟨(Lib.decDigits k).toArray⟩ = ⟨(newL k).toArray⟩ := cat_txt _ _
  have hcat' : (⟨#[118, 46]⟩ : ByteArray) ++ ⟨(Lib.decDigits k).toArray⟩ = ⟨(newL k).toArray⟩ := hcat
  refine ⟨fun _ => ?_, ?_⟩
  · simp only [Chk.holds, ev0, ev, evV, List.cons_append, List.nil_append, List.getD_cons_zero, List.getD_cons_succ, List.map_cons, List.map_nil, iOf, bOf, sOf, pOf, slLen, slBase, cmpI, arI, Value.ite_bool, int_beq, int_bne, ite_band, ite_bor]
    rw [txt_size, txt_size]
    have : IntKind.i64.max = 9223372036854775807 := rfl
    simp only [List.length_cons, List.length_nil]; omega
  have hhas := Has_gives used (newL k) (.slice b used.length c) H2 (hv.le (PH.le_trans l1 l2))
  refine den_gives [.bool (used.contains (newL k))] cb_scrimshawref06_Has (by simp only [ev0, ev, evV, List.cons_append, List.nil_append, List.getD_cons_zero, List.getD_cons_succ, List.map_cons, List.map_nil, iOf, bOf, sOf, pOf, slLen, slBase, cmpI, arI, Value.ite_bool, int_beq, int_bne, ite_band, ite_bor, hcat']; exact hhas) rfl pendNil fun H3 l3 => ⟨fun g => ?_, fun g => ?_⟩
  · simp only [ev0, ev, evV, List.cons_append, List.nil_append, List.getD_cons_zero, List.getD_cons_succ, List.map_cons, List.map_nil, iOf, bOf, sOf, pOf, slLen, slBase, cmpI, arI, Value.ite_bool, int_beq, int_bne, ite_band, ite_bor, Bool.not_eq_true'] at g
    have hn : newL k ∉ used := fun h => by rw [con_t h] at g; cases g
    have hk : freshN used n = k := by rw [← hfk]; exact freshN_hit hn
    refine ⟨?_, PH.le_trans l1 (PH.le_trans l2 l3)⟩
    simp only [evV_tu2]
    simp only [ev0, ev, evV, List.cons_append, List.nil_append, List.getD_cons_zero, List.getD_cons_succ, List.map_cons, List.map_nil, iOf, bOf, sOf, pOf, slLen, slBase, cmpI, arI, Value.ite_bool, int_beq, int_bne, ite_band, ite_bor, hcat', hw64, hk]
  · simp only [ev0, ev, evV, List.cons_append, List.nil_append, List.getD_cons_zero, List.getD_cons_succ, List.map_cons, List.map_nil, iOf, bOf, sOf, pOf, slLen, slBase, cmpI, arI, Value.ite_bool, int_beq, int_bne, ite_band, ite_bor, Bool.not_eq_false'] at g
    have hn : newL k ∈ used := List.contains_iff_mem.1 g
    have hk := freshN_skip hn
    have hlt : k < freshN used n := by
      rcases Nat.lt_or_ge k (freshN used n) with h | h
      · exact h
      · have : k = freshN used n := by omega
        exact absurd hn (by rw [this]; exact hf.2.2.1)
    refine ⟨_, lookup_hit, f - 1, by omega, k + 1, ?_, by omega, by omega, by rw [← hk]; exact hfk, PH.le_trans l1 (PH.le_trans l2 l3)⟩
    simp only [ev0, ev, evV, List.cons_append, List.nil_append, List.getD_cons_zero, List.getD_cons_succ, List.map_cons, List.map_nil, iOf, bOf, sOf, pOf, slLen, slBase, cmpI, arI, Value.ite_bool, int_beq, int_bne, ite_band, ite_bor, hw64]
theorem Binds6_gives (e : Xp) (cs : List Value) (H : PH) (he : e.Rep H cs) (i : Nat) (hi : i < e.kids.length) : Gives Tryz.prog n_scrimshawref06_Binds [.agg cs.toArray, .int .i64 (i : Int)] H (.bool (inB e.kind (e.kids.drop (i + 1)))) := by
  obtain ⟨nb, db, kb, nc, dc, kc, rfl, hx⟩ := Xp.Rep.open he
  have hk := hx.kids.max
  simp only [maxLen] at hk
  refine tri_scrimshawref06_Binds (exVs e nb db kb nc dc kc ++ [.int .i64 (i : Int)]) (by kernel_rfl) (by kernel_rfl) ⟨?_, PH.le_refl _⟩
  simp only [ev0, ev, evV, List.cons_append, List.nil_append, List.getD_cons_zero, List.getD_cons_succ, List.map_cons, List.map_nil, iOf, bOf, sOf, pOf, slLen, slBase, cmpI, arI, Value.ite_bool, int_beq, int_bne, ite_band, ite_bor]
  rw [w64 (by omega) (by omega)]
  have : decide ((i : Int) = (e.kids.length : Int) - 1) = (e.kids.drop (i + 1)).isEmpty := by
    rw [← list_empty]
    exact decide_eq_decide.2 (by rw [List.length_drop]; omega)
  rw [this]
  unfold inB
  by_cases h5 : e.kind = 5 <;> by_cases h9 : e.kind = 9 <;> by_cases h10 : e.kind = 10 <;> simp [h5, h9, h10]

def nmR (az : List (List UInt8 × Nat)) (s : List UInt8) : List UInt8 := match lastA az s with
  | some n => newL n
  | none => s
def Ren6At (used : List (List UInt8)) (e : Xp) : Prop := ∀ (az : List (List UInt8 × Nat)) (n : Nat) (cs : List Value) (S : PH) (wv pv : Value), e.Rep S cs → SlR S used wv → SlR S (prs az) pv → (∀ x ∈ az, x.2 < 900000000000000000) → e.fit → az.length + e.bnd.length ≤ 1000000 → n + e.bnd.length * (used.length + 1) + used.length < 900000000000000000 →
  Tri Tryz.prog n_scrimshawref06_rename #[.agg cs.toArray, pv, wv, .int .i64 (n : Int)] S fun x S' => ∃ cs', x = .returned (.tuple #[.agg cs'.toArray, .int .i64 ((e.ren used az n).2 : Int)]) ∧ PH.le S S' ∧ (e.ren used az n).1.Rep S' cs'
set_option maxHeartbeats 4000000 in
theorem rename6_tri (used : List (List UInt8)) : ∀ e, Ren6At used e := by
  refine Xp.ind fun e ih az n cs S wv pv he hw hp hA hF haz hb => ?_
  obtain ⟨nb, db, kb, nc, dc, kc, rfl, hx⟩ := Xp.Rep.open he
  have hn := hx.names.max
  have hk := hx.kids.max
  simp only [maxLen] at hn hk
  obtain ⟨fn, fk, ff⟩ := (Xp.fit_iff e).1 hF
  have hspec := newsN_spec used e.names n
  have hbl : e.bnd.length = e.names.length + (Xps.bnd e.kids).length := by rw [Xp.bnd_eq, List.length_append]
  have hb' : n + e.names.length * (used.length + 1) + (Xps.bnd e.kids).length * (used.length + 1) + used.length < 900000000000000000 := by
    have := hb
    rw [hbl, Nat.add_mul] at this
    omega
  obtain ⟨pb, pc, hpv⟩ := hp.sl
  obtain ⟨wb, wc, hwv⟩ := hw.sl
  have hpl := prs_len az
  subst hpv hwv
  refine tri_scrimshawref06_rename (exVs e nb db kb nc dc kc ++ [.slice pb (prs az).length pc, .slice wb used.length wc, .int .i64 (n : Int)]) (by kernel_rfl) (by kernel_rfl) ?_
  refine ⟨fun vs H' => vs = [.int .i64 e.kind, txt (nameR az e.kind e.name), .slice none 0 0, .int .i64 e.const.kind, .int .i64 e.const.int, txt e.const.text, .slice db e.const.list.length dc, .slice none 0 0] ∧ H' = S, ?_, ?_⟩
  rotate_left
  · refine ⟨fun g => ?_, fun g => ?_⟩
    · have hk12 : e.kind = 1 ∨ e.kind = 2 := by
        simp only [ev0, ev, evV, List.cons_append, List.nil_append, List.getD_cons_zero, List.getD_cons_succ, List.map_cons, List.map_nil, iOf, bOf, sOf, pOf, slLen, slBase, cmpI, arI, Value.ite_bool, int_beq, int_bne, ite_band, ite_bor] at g
        by_cases h : e.kind = 1
        · exact .inl h
        · right; simpa [h] using g
      refine ⟨fun m vs H' => ∃ k : Nat, vs = [.int .i64 k, .int .i64 e.kind, txt (nmR (az.take k) e.name), .slice none 0 0, .int .i64 e.const.kind, .int .i64 e.const.int, txt e.const.text, .slice db e.const.list.length dc, .slice none 0 0] ∧ k + m = az.length ∧ H' = S,
        ⟨az.length, 0, rfl, by omega, rfl⟩, ?_⟩
      rintro m vs H1 _ ⟨k, rfl, hkm, rfl⟩
      refine ⟨fun g1 => ?_, fun g1 => ?_⟩
      · simp only [ev0, ev, evV, List.cons_append, List.nil_append, List.getD_cons_zero, List.getD_cons_succ, List.map_cons, List.map_nil, iOf, bOf, sOf, pOf, slLen, slBase, cmpI, arI, Value.ite_bool, int_beq, int_bne, ite_band, ite_bor, decide_eq_true_eq] at g1
        obtain ⟨x, hxa⟩ : ∃ x, az[k]? = some x := ⟨_, List.getElem?_eq_getElem (show k < az.length by omega)⟩
        have hxp : (prs az)[k]? = some ⟨x.1, newL x.2⟩ := by unfold prs; rw [List.getElem?_map, hxa]; rfl
        obtain ⟨q1, _, ces, q2, q3⟩ := hp.get hxp
        have hces := pr_open q2
        subst hces
        have hstep : nmR (az.take (k + 1)) e.name = if x.1 = e.name then newL x.2 else nmR (az.take k) e.name := by
          unfold nmR
          rw [List.take_add_one, hxa, lastA_append]
          simp only [Option.toList_some, lastA]
          by_cases h : x.1 = e.name <;> simp [h]
        refine ⟨fun vs H' => vs = [.int .i64 e.kind, txt (nmR (az.take (k + 1)) e.name), .slice none 0 0, .int .i64 e.const.kind, .int .i64 e.const.int, txt e.const.text, .slice db e.const.list.length dc, .slice none 0 0] ∧ H' = H1, ?_, ?_⟩
        · rintro vs H2 _ ⟨rfl, rfl⟩
          refine ⟨_, lookup_hit, m - 1, by omega, k + 1, ?_, by omega, rfl⟩
          simp only [ev0, ev, evV, List.cons_append, List.nil_append, List.getD_cons_zero, List.getD_cons_succ, List.map_cons, List.map_nil, iOf, bOf, sOf, pOf, slLen, slBase, cmpI, arI, Value.ite_bool, int_beq, int_bne, ite_band, ite_bor]
          rw [w64 (by omega) (by omega)]
          rfl
        refine ⟨fun _ => ?_, [txt x.1], rfl, ?_, fun g2 => ?_, fun g2 => ?_⟩
        · simp only [Chk.holds, ev0, ev, evV, List.cons_append, List.nil_append, List.getD_cons_zero, List.getD_cons_succ, List.map_cons, List.map_nil, iOf, bOf, sOf, pOf, slLen, slBase, cmpI, arI, Value.ite_bool, int_beq, int_bne, ite_band, ite_bor]; exact ⟨q1, by omega, by omega⟩
        · simp only [ev0, ev, evV, List.cons_append, List.nil_append, List.getD_cons_zero, List.getD_cons_succ, List.map_cons, List.map_nil, iOf, bOf, sOf, pOf, slLen, slBase, cmpI, arI, Value.ite_bool, int_beq, int_bne, ite_band, ite_bor]
          have := rowAt_sub q3 0 1
          exact this
        · simp only [ev0, ev, evV, List.cons_append, List.nil_append, List.getD_cons_zero, List.getD_cons_succ, List.map_cons, List.map_nil, iOf, bOf, sOf, pOf, slLen, slBase, cmpI, arI, Value.ite_bool, int_beq, int_bne, ite_band, ite_bor, txt_eql, decide_eq_true_eq] at g2
          refine ⟨[txt (newL x.2)], rfl, ?_, _, lookup_hit, ?_, rfl⟩
          · simp only [ev0, ev, evV, List.cons_append, List.nil_append, List.getD_cons_zero, List.getD_cons_succ, List.map_cons, List.map_nil, iOf, bOf, sOf, pOf, slLen, slBase, cmpI, arI, Value.ite_bool, int_beq, int_bne, ite_band, ite_bor]
            have := rowAt_sub q3 1 1
            exact this
          · rw [hstep, if_pos g2]; simp only [ev0, ev, evV, List.cons_append, List.nil_append, List.getD_cons_zero, List.getD_cons_succ, List.map_cons, List.map_nil, iOf, bOf, sOf, pOf, slLen, slBase, cmpI, arI, Value.ite_bool, int_beq, int_bne, ite_band, ite_bor]
        · simp only [ev0, ev, evV, List.cons_append, List.nil_append, List.getD_cons_zero, List.getD_cons_succ, List.map_cons, List.map_nil, iOf, bOf, sOf, pOf, slLen, slBase, cmpI, arI, Value.ite_bool, int_beq, int_bne, ite_band, ite_bor, txt_eql, decide_eq_false_iff_not] at g2
          refine ⟨_, lookup_hit, ?_, rfl⟩
          rw [hstep, if_neg g2]; simp only [ev0, ev, evV, List.cons_append, List.nil_append, List.getD_cons_zero, List.getD_cons_succ, List.map_cons, List.map_nil, iOf, bOf, sOf, pOf, slLen, slBase, cmpI, arI, Value.ite_bool, int_beq, int_bne, ite_band, ite_bor]
      · simp only [ev0, ev, evV, List.cons_append, List.nil_append, List.getD_cons_zero, List.getD_cons_succ, List.map_cons, List.map_nil, iOf, bOf, sOf, pOf, slLen, slBase, cmpI, arI, Value.ite_bool, int_beq, int_bne, ite_band, ite_bor, decide_eq_false_iff_not] at g1
        have hkk : k = az.length := by omega
        subst hkk
        refine ⟨_, (lookup_miss (by decide)).trans lookup_hit, ?_, rfl⟩
        rw [List.take_length]
        have : nameR az e.kind e.name = nmR az e.name := by unfold nameR nmR; rw [if_pos hk12]; cases lastA az e.name <;> rfl
        rw [this]; simp only [ev0, ev, evV, List.cons_append, List.nil_append, List.getD_cons_zero, List.getD_cons_succ, List.map_cons, List.map_nil, iOf, bOf, sOf, pOf, slLen, slBase, cmpI, arI, Value.ite_bool, int_beq, int_bne, ite_band, ite_bor]
    · have hk12 : ¬ (e.kind = 1 ∨ e.kind = 2) := by
        rintro (h | h) <;> simp [ev0, ev, evV, List.cons_append, List.nil_append, List.getD_cons_zero, List.getD_cons_succ, List.map_cons, List.map_nil, iOf, bOf, sOf, pOf, slLen, slBase, cmpI, arI, Value.ite_bool, int_beq, int_bne, ite_band, ite_bor, h] at g
      refine ⟨_, lookup_hit, ?_, rfl⟩
      have : nameR az e.kind e.name = e.name := by unfold nameR; rw [if_neg hk12]
      rw [this]; simp only [ev0, ev, evV, List.cons_append, List.nil_append, List.getD_cons_zero, List.getD_cons_succ, List.map_cons, List.map_nil, iOf, bOf, sOf, pOf, slLen, slBase, cmpI, arI, Value.ite_bool, int_beq, int_bne, ite_band, ite_bor]; rfl
  rintro vs H1 _ ⟨rfl, rfl⟩
  have hnm : (nameR az e.kind e.name).length ≤ maxLen := nameR_max hA hx.name
  generalize hng : nameR az e.kind e.name = nm at hnm ⊢
  refine den_hLit0 (α := PrX) (b := 32) uPrs elemPr (Held.nil (PH.le_refl H1)) pendNil fun iv0 K1 h1 _ _ => ?_
  refine den_hApp (b := 32) (more := prs az) uPrs elemPr (by kernel_rfl) (by kernel_rfl) h1 ((hp.srcS h1.sh)) (by simp only [maxLen, List.length_nil]; omega) (by simp only [List.length_nil]; omega) fun iv K2 h2 _ => ⟨pendNil, ?_⟩
  rw [List.nil_append] at h2
  refine ⟨fun m vs K' => ∃ (k nk : Nat) (ks : List Nat) (nv iv : Value) (S' : PH), vs = [.int .i64 nk, iv, .int .i64 k, .int .i64 e.kind, txt nm, nv, .int .i64 e.const.kind, .int .i64 e.const.int, txt e.const.text, .slice db e.const.list.length dc, .slice none 0 0] ∧ k + m = e.names.length ∧ ks.length = k ∧ newsN used e.names n = (ks ++ (newsN used (e.names.drop k) nk).1, (newsN used (e.names.drop k) nk).2) ∧ PH.le H1 S' ∧
      Held S' K' [orow 9 (ks.map newL) nv, orow 70 (prs (az ++ (e.names.take k).zip ks)) iv],
    ⟨e.names.length, 0, n, [], .slice none 0 0, iv, H1, rfl, by omega, rfl, by rw [List.drop_zero, List.nil_append], PH.le_refl _, by simpa using h2.empty _⟩, ?_⟩
  clear h1 h2
  rintro m vs K3 _ ⟨k, nk, ks, nv, iv, S3, rfl, hkm, hks, heq, l3, h3⟩
  have hdr := newsN_spec used (e.names.drop k) nk
  have heq2 : (newsN used e.names n).2 = (newsN used (e.names.drop k) nk).2 := by rw [heq]
  refine ⟨fun g => ?_, fun g => ?_⟩
  · simp only [ev0, ev, evV, List.cons_append, List.nil_append, List.getD_cons_zero, List.getD_cons_succ, List.map_cons, List.map_nil, iOf, bOf, sOf, pOf, slLen, slBase, cmpI, arI, Value.ite_bool, int_beq, int_bne, ite_band, ite_bor, decide_eq_true_eq] at g
    obtain ⟨a, ha⟩ : ∃ a, e.names[k]? = some a := ⟨_, List.getElem?_eq_getElem (show k < e.names.length by omega)⟩
    have hf := freshN_spec used nk
    have hlt : freshN used nk < 900000000000000000 := by
      have e1 : newsN used (e.names.drop k) nk = (freshN used nk :: (newsN used (e.names.drop (k + 1)) (freshN used nk + 1)).1, (newsN used (e.names.drop (k + 1)) (freshN used nk + 1)).2) := by rw [drop_get ha]; rfl
      have := (newsN_spec used (e.names.drop (k + 1)) (freshN used nk + 1)).1
      rw [e1] at heq2
      simp only at heq2
      omega
    refine den_gives [txt (newL (freshN used nk)), .int .i64 ((freshN used nk + 1 : Nat) : Int)] cb_scrimshawref06_next (Next6_gives used _ nk K3 (hw.le (PH.le_trans l3 h3.sh)) (by omega)) rfl pendNil fun K4 q4 => ?_
    have hnl := newL_len (k := freshN used nk) (by omega)
    refine den_hPush (more := [newL (freshN used nk)]) (b := 16) [txt (newL (freshN used nk))] uTxts elemTxt rfl (by decide) (by decide) (h3.le q4) (by kernel_rfl) (.cons ⟨_, _, rfl, ⟨rfl, hnl⟩, rfl⟩ .nil) pendNil (fun _ => by kernel_rfl) (fun _ => by kernel_rfl)
      (by simp only [maxLen, List.length_map, List.length_cons, List.length_nil]; omega) (by simp only [List.length_map, List.length_cons, List.length_nil]; omega) fun u nv5 S5 K5 l5 h5 => ⟨pendNil, ?_⟩
    obtain ⟨g1, _, ces, g2, g3⟩ := (hx.names.le (PH.le_trans l3 l5)).get ha
    obtain ⟨rfl, hal⟩ := csTxts g2
    refine ⟨fun _ => ?_, [txt a], rfl, by simp only [ev0, ev, evV, List.cons_append, List.nil_append, List.getD_cons_zero, List.getD_cons_succ, List.map_cons, List.map_nil, iOf, bOf, sOf, pOf, slLen, slBase, cmpI, arI, Value.ite_bool, int_beq, int_bne, ite_band, ite_bor]; exact rowAt_le h5.sh g3, ?_⟩
    · simp only [Chk.holds, ev0, ev, evV, List.cons_append, List.nil_append, List.getD_cons_zero, List.getD_cons_succ, List.map_cons, List.map_nil, iOf, bOf, sOf, pOf, slLen, slBase, cmpI, arI, Value.ite_bool, int_beq, int_bne, ite_band, ite_bor]; exact ⟨g1, by omega, by omega⟩
    have hzl : (prs (az ++ (e.names.take k).zip ks)).length ≤ 1000000 := by
      rw [prs_len, List.length_append, List.length_zip, List.length_take]; omega
    refine den_hPush (more := [(⟨a, newL (freshN used nk)⟩ : PrX)]) (b := 32) [.agg #[txt a, txt (newL (freshN used nk))]] uPrs elemPr rfl (by decide) (by decide) (h5.perm (List.Perm.swap _ _ _)) (by kernel_rfl) (.cons (pr_rep hal hnl) .nil) pendNil (fun _ => by kernel_rfl) (fun _ => by kernel_rfl)
      (by simp only [maxLen, List.length_cons, List.length_nil]; omega) (by simp only [List.length_cons, List.length_nil]; omega) fun u iv6 S6 K6 l6 h6 => ⟨pendNil, _, lookup_hit, m - 1, by omega, k + 1, freshN used nk + 1, ks ++ [freshN used nk], nv5, iv6, S6, ?_, by omega, by simp [hks], ?_, PH.le_trans l3 (PH.le_trans l5 l6), ?_⟩
    · simp only [ev0, ev, evV, List.cons_append, List.nil_append, List.getD_cons_zero, List.getD_cons_succ, List.map_cons, List.map_nil, iOf, bOf, sOf, pOf, slLen, slBase, cmpI, arI, Value.ite_bool, int_beq, int_bne, ite_band, ite_bor]
      rw [w64 (by omega) (by omega)]
      rfl
    · rw [heq, drop_get ha]; simp only [newsN, List.append_assoc, List.cons_append, List.nil_append]
    · rw [List.take_add_one, ha, List.zip_append (by rw [List.length_take, hks]; omega), ← List.append_assoc, prs_append (az ++ _), List.map_append]
      exact h6.perm (List.Perm.swap _ _ _)
  simp only [ev0, ev, evV, List.cons_append, List.nil_append, List.getD_cons_zero, List.getD_cons_succ, List.map_cons, List.map_nil, iOf, bOf, sOf, pOf, slLen, slBase, cmpI, arI, Value.ite_bool, int_beq, int_bne, ite_band, ite_bor, decide_eq_false_iff_not] at g
  have hkk : k = e.names.length := by omega
  subst hkk
  rw [List.drop_length] at heq
  simp only [newsN, List.append_nil] at heq
  rw [List.take_length] at h3
  rw [heq] at hspec
  simp only at hspec
  obtain ⟨S4, s4, l4, h4⟩ := h3.freeze
  obtain ⟨S5, s5, l5, h5⟩ := h4.freeze
  obtain ⟨ib, ic, hiv⟩ := s5.sl
  have l05 := PH.le_trans l3 (PH.le_trans l4 l5)
  have hnames := s4.le l5
  obtain ⟨inner, hinner⟩ : ∃ inner, inner = az ++ e.names.zip ks := ⟨_, rfl⟩
  rw [← hinner] at s5
  have hil : inner.length ≤ az.length + e.names.length := by rw [hinner, List.length_append, List.length_zip]; omega
  have hA3 : ∀ x ∈ inner, x.2 < 900000000000000000 := fun x hx' => by
    rw [hinner] at hx'
    rcases List.mem_append.1 hx' with h1 | h1
    · exact hA x h1
    · have := (hspec.2.2.2 x.2 (List.of_mem_zip (show (x.1, x.2) ∈ _ from h1)).2).2.1
      omega
  refine ⟨fun m vs K' => ∃ (k nk2 : Nat) (l' : List Xp) (kv : Value) (S' : PH), vs = [.int .i64 nk2, .int .i64 k, .int .i64 e.kind, txt nm, nv, .int .i64 e.const.kind, .int .i64 e.const.int, txt e.const.text, .slice db e.const.list.length dc, kv] ∧ k + m = e.kids.length ∧ l'.length = k ∧ Xps.ren used az inner e.kind e.kids nk = (l' ++ (Xps.ren used az inner e.kind (e.kids.drop k) nk2).1, (Xps.ren used az inner e.kind (e.kids.drop k) nk2).2) ∧ nk2 + (Xps.bnd (e.kids.drop k)).length * (used.length + 1) + used.length < 900000000000000000 ∧ PH.le S5 S' ∧ Held S' K' [orow 28 l' kv],
    ⟨e.kids.length, 0, nk, [], .slice none 0 0, S5, rfl, by omega, rfl, by rw [List.drop_zero, List.nil_append], by rw [List.drop_zero]; omega, PH.le_refl _, h5.empty _⟩, ?_⟩
  rintro m vs K6 _ ⟨k, nk2, l', kv, S6, rfl, hkm, hl', heq3, hbk, l6, h6⟩
  refine ⟨fun g => ?_, fun g => ?_⟩
  · simp only [ev0, ev, evV, List.cons_append, List.nil_append, List.getD_cons_zero, List.getD_cons_succ, List.map_cons, List.map_nil, iOf, bOf, sOf, pOf, slLen, slBase, cmpI, arI, Value.ite_bool, int_beq, int_bne, ite_band, ite_bor, decide_eq_true_eq] at g
    obtain ⟨a, ha⟩ : ∃ a, e.kids[k]? = some a := ⟨_, List.getElem?_eq_getElem (show k < e.kids.length by omega)⟩
    have hmem := List.mem_of_getElem? ha
    obtain ⟨g1, _, ces, g2, g3⟩ := (hx.kids.le (PH.le_trans l05 l6)).get ha
    have hbnd : Xps.bnd (e.kids.drop k) = a.bnd ++ Xps.bnd (e.kids.drop (k + 1)) := by rw [drop_get ha, Xps.bnd]
    have hbnd2 : (Xps.bnd (e.kids.drop k)).length ≤ (Xps.bnd e.kids).length := by
      have key : ∀ (l : List Xp) (j : Nat), (Xps.bnd (l.drop j)).length ≤ (Xps.bnd l).length := by
        intro l
        induction l with
        | nil => intro j; simp
        | cons x l il =>
          intro j
          cases j with
          | zero => simp
          | succ j => rw [List.drop_succ_cons]; have := il j; simp only [Xps.bnd, List.length_append]; omega
      exact key _ k
    have hbl2 := congrArg List.length hbnd
    rw [List.length_append] at hbl2
    rw [hbnd, List.length_append, Nat.add_mul] at hbk
    have htags := Xp.Rep.tags g2
    have g2' := g2
    obtain ⟨nb', db', kb', nc', dc', kc', rfl, _⟩ := Xp.Rep.open g2'
    have hren : Xps.ren used az inner e.kind (e.kids.drop k) nk2 = ((a.ren used (if inB e.kind (e.kids.drop (k + 1)) then inner else az) nk2).1 :: (Xps.ren used az inner e.kind (e.kids.drop (k + 1)) (a.ren used (if inB e.kind (e.kids.drop (k + 1)) then inner else az) nk2).2).1, (Xps.ren used az inner e.kind (e.kids.drop (k + 1)) (a.ren used (if inB e.kind (e.kids.drop (k + 1)) then inner else az) nk2).2).2) := by
      rw [drop_get ha]; simp only [Xps.ren]
    refine ⟨fun vs K' => ∃ (cs' : List Value) (S' : PH), vs = .int .i64 ((a.ren used (if inB e.kind (e.kids.drop (k + 1)) then inner else az) nk2).2 : Int) :: cs' ∧ PH.le S6 S' ∧ Held S' K' [orow 28 l' kv] ∧ (a.ren used (if inB e.kind (e.kids.drop (k + 1)) then inner else az) nk2).1.Rep S' cs', ?_, ?_⟩
    · rintro vs K7 _ ⟨cs7, S7, rfl, l7, h7, r7⟩
      have hnums := Xp.nums used a (if inB e.kind (e.kids.drop (k + 1)) then inner else az) nk2
      obtain ⟨p1, p2, p3, p4, p5, p6, rfl, _⟩ := Xp.Rep.open r7
      refine den_hPush (more := [(a.ren used (if inB e.kind (e.kids.drop (k + 1)) then inner else az) nk2).1]) (b := 128) [.agg (exVs (a.ren used (if inB e.kind (e.kids.drop (k + 1)) then inner else az) nk2).1 p1 p2 p3 p4 p5 p6).toArray] uExprs elemExpr rfl (by decide) (by decide) h7 (by kernel_rfl) (.cons r7 .nil) pendNil (fun _ => by kernel_rfl) (fun _ => by kernel_rfl)
        (by simp only [maxLen, List.length_cons, List.length_nil]; omega) (by simp only [List.length_cons, List.length_nil]; omega) fun u kv8 S8 K8 l8 h8 => ⟨pendNil, _, lookup_hit, m - 1, by omega, k + 1, (a.ren used (if inB e.kind (e.kids.drop (k + 1)) then inner else az) nk2).2, _, kv8, S8, ?_, by omega, by simp [hl'], ?_, by have := hnums.2.1; omega, PH.le_trans l6 (PH.le_trans l7 l8), h8⟩
      · simp only [ev0, ev, evV, List.cons_append, List.nil_append, List.getD_cons_zero, List.getD_cons_succ, List.map_cons, List.map_nil, iOf, bOf, sOf, pOf, slLen, slBase, cmpI, arI, Value.ite_bool, int_beq, int_bne, ite_band, ite_bor]
        rw [w64 (by omega) (by omega)]
        rfl
      · rw [heq3, hren]; simp only [List.append_assoc, List.cons_append, List.nil_append]
    refine den_gives [.bool (inB e.kind (e.kids.drop (k + 1)))] cb_scrimshawref06_Binds (Binds6_gives e _ K6 (Xp.Rep.le (PH.le_trans l05 (PH.le_trans l6 h6.sh)) e he) k (by omega)) rfl pendNil fun K7 q7 => ?_
    have h7 := h6.le q7
    have hcall : ∀ (zz : List (List UInt8 × Nat)) (zv : Value), SlR S6 (prs zz) zv → (∀ x ∈ zz, x.2 < 900000000000000000) → zz.length ≤ az.length + e.names.length →
        Tri Tryz.prog n_scrimshawref06_rename #[.agg (exVs a nb' db' kb' nc' dc' kc').toArray, zv, .slice wb used.length wc, .int .i64 (nk2 : Int)] K7 fun x K' => ∃ S', PH.le S6 S' ∧ Held S' K' [orow 28 l' kv] ∧ ∃ cs', x = .returned (.tuple #[.agg cs'.toArray, .int .i64 ((a.ren used zz nk2).2 : Int)]) ∧ (a.ren used zz nk2).1.Rep S' cs' := by
      intro zz zv z1 z2 z3
      refine h7.pure ((ih a hmem zz nk2 _ S6 _ zv g2 (hw.le (PH.le_trans l05 l6)) z1 z2 (ff a hmem) (by omega) (by omega)).mono ?_)
      rintro x S' ⟨cs', q1, q2, q3⟩
      exact ⟨q2, cs', q1, q3⟩
    refine ⟨fun gb => ?_, fun gb => ?_⟩
    · simp only [ev0, ev, evV, List.cons_append, List.nil_append, List.getD_cons_zero, List.getD_cons_succ, List.map_cons, List.map_nil, iOf, bOf, sOf, pOf, slLen, slBase, cmpI, arI, Value.ite_bool, int_beq, int_bne, ite_band, ite_bor] at gb
      refine ⟨fun _ => ?_, _, htags, by simp only [ev0, ev, evV, List.cons_append, List.nil_append, List.getD_cons_zero, List.getD_cons_succ, List.map_cons, List.map_nil, iOf, bOf, sOf, pOf, slLen, slBase, cmpI, arI, Value.ite_bool, int_beq, int_bne, ite_band, ite_bor]; exact rowAt_le h7.sh g3, ?_⟩
      · simp only [Chk.holds, ev0, ev, evV, List.cons_append, List.nil_append, List.getD_cons_zero, List.getD_cons_succ, List.map_cons, List.map_nil, iOf, bOf, sOf, pOf, slLen, slBase, cmpI, arI, Value.ite_bool, int_beq, int_bne, ite_band, ite_bor]; exact ⟨g1, by omega, by omega⟩
      refine den_call cb_scrimshawref06_rename (hcall inner iv (s5.le l6) hA3 hil) ?_
      rintro x K8 ⟨S8, l8, h8, cs8, rfl, r8⟩
      have ht8 := Xp.Rep.tags r8
      have r8' := r8
      obtain ⟨p1, p2, p3, p4, p5, p6, rfl, _⟩ := Xp.Rep.open r8'
      refine ⟨_, exVs (a.ren used inner nk2).1 p1 p2 p3 p4 p5 p6 ++ [.int .i64 ((a.ren used inner nk2).2 : Int)], rfl, rfl, rfl, pendNil, _, lookup_hit, exVs (a.ren used inner nk2).1 p1 p2 p3 p4 p5 p6, S8, ?_, l8, h8, ?_⟩
      · simp only [ev0, ev, evV, List.cons_append, List.nil_append, List.getD_cons_zero, List.getD_cons_succ, List.map_cons, List.map_nil, iOf, bOf, sOf, pOf, slLen, slBase, cmpI, arI, Value.ite_bool, int_beq, int_bne, ite_band, ite_bor, gb, if_true]
      · rw [gb]; exact r8
    · simp only [ev0, ev, evV, List.cons_append, List.nil_append, List.getD_cons_zero, List.getD_cons_succ, List.map_cons, List.map_nil, iOf, bOf, sOf, pOf, slLen, slBase, cmpI, arI, Value.ite_bool, int_beq, int_bne, ite_band, ite_bor] at gb
      refine ⟨fun _ => ?_, _, htags, by simp only [ev0, ev, evV, List.cons_append, List.nil_append, List.getD_cons_zero, List.getD_cons_succ, List.map_cons, List.map_nil, iOf, bOf, sOf, pOf, slLen, slBase, cmpI, arI, Value.ite_bool, int_beq, int_bne, ite_band, ite_bor]; exact rowAt_le h7.sh g3, ?_⟩
      · simp only [Chk.holds, ev0, ev, evV, List.cons_append, List.nil_append, List.getD_cons_zero, List.getD_cons_succ, List.map_cons, List.map_nil, iOf, bOf, sOf, pOf, slLen, slBase, cmpI, arI, Value.ite_bool, int_beq, int_bne, ite_band, ite_bor]; exact ⟨g1, by omega, by omega⟩
      refine den_call cb_scrimshawref06_rename (hcall az _ (hp.le (PH.le_trans l05 l6)) hA (by omega)) ?_
      rintro x K8 ⟨S8, l8, h8, cs8, rfl, r8⟩
      have ht8 := Xp.Rep.tags r8
      have r8' := r8
      obtain ⟨p1, p2, p3, p4, p5, p6, rfl, _⟩ := Xp.Rep.open r8'
      refine ⟨_, exVs (a.ren used az nk2).1 p1 p2 p3 p4 p5 p6 ++ [.int .i64 ((a.ren used az nk2).2 : Int)], rfl, rfl, rfl, pendNil, _, lookup_hit, exVs (a.ren used az nk2).1 p1 p2 p3 p4 p5 p6, S8, ?_, l8, h8, ?_⟩
      · simp only [ev0, ev, evV, List.cons_append, List.nil_append, List.getD_cons_zero, List.getD_cons_succ, List.map_cons, List.map_nil, iOf, bOf, sOf, pOf, slLen, slBase, cmpI, arI, Value.ite_bool, int_beq, int_bne, ite_band, ite_bor, gb, Bool.false_eq_true, if_false]
      · rw [gb]; exact r8
  · simp only [ev0, ev, evV, List.cons_append, List.nil_append, List.getD_cons_zero, List.getD_cons_succ, List.map_cons, List.map_nil, iOf, bOf, sOf, pOf, slLen, slBase, cmpI, arI, Value.ite_bool, int_beq, int_bne, ite_band, ite_bor, decide_eq_false_iff_not] at g
    have hkk : k = e.kids.length := by omega
    subst hkk
    rw [List.drop_length] at heq3
    simp only [Xps.ren, List.append_nil] at heq3
    obtain ⟨S7, s7, l7, h7⟩ := h6.freeze
    have l07 := PH.le_trans l05 (PH.le_trans l6 l7)
    have hE : e.ren used az n = (.mk e.kind nm (ks.map newL) e.const l', nk2) := by
      rw [Xp.ren_eq, hng, heq, ← hinner, heq3]
    refine ⟨[.int .i64 e.kind, txt nm, nv, .int .i64 e.const.kind, .int .i64 e.const.int, txt e.const.text, .slice db e.const.list.length dc, kv], ?_, PH.le_trans l07 h7.sh, ?_⟩
    · rw [hE]; simp only [evV, List.map_cons, List.map_nil, partV]; rfl
    · rw [hE]
      exact Xp.Rep_iff.2 ⟨_, _, _, rfl, hx.kind, hnm, hnames.le (PH.le_trans l6 (PH.le_trans l7 h7.sh)), Dat.Rep.le (PH.le_trans l07 h7.sh) _ hx.const, s7.le h7.sh⟩
end Go.Proofs.YtibinelkmlcmgaaGreatDoor.Vc
/-
  CORE: the free names, noted in a map.
-/
namespace Go.Proofs.YtibinelkmlcmgaaGreatDoor.Vc
open Go Go.Sort

/-- how often names are bound -/
def CntM (m : List (List UInt8 × Value)) (l : List (List UInt8)) : Prop := ∀ s, (getM m s).getD (.int .i64 0) = .int .i64 ((l.count s : Nat) : Int)
theorem CntM.put {m : List (List UInt8 × Value)} {l l' : List (List UInt8)} (h : CntM m l) {a : List UInt8} (h1 : ∀ s, s ≠ a → l'.count s = l.count s) : CntM (putM m a (.int .i64 ((l'.count a : Nat) : Int))) l' := by
  intro s
  rw [getM_put]
  by_cases e : s = a
  · subst e; rw [if_pos rfl]; rfl
  · rw [if_neg e, h s, h1 s e]
/-- two maps beside what stands -/
structure FrH (S : PH) (bb ub : Nat) (mb mo : List (List UInt8 × Value)) (H : PH) : Prop where
  le : PH.le S H
  b : ∃ es c, H bb = some (.map es c) ∧ EntsR es.toList c mb
  u : ∃ es c, H ub = some (.map es c) ∧ EntsR es.toList c mo
section
variable {S H H1 H2 : PH} {bb ub : Nat} {mb mo mb2 mo2 : List (List UInt8 × Value)}
theorem FrH.up (h : FrH S bb ub mb mo H) (l : PH.le H H1) : FrH S bb ub mb mo H1 := by
  obtain ⟨es, c, h1, h2⟩ := h.b
  obtain ⟨es', c', h3, h4⟩ := h.u
  exact ⟨PH.le_trans h.le l, ⟨es, c, l _ _ h1, h2⟩, ⟨es', c', l _ _ h3, h4⟩⟩
theorem FrH.setB (h : FrH S bb ub mb mo H) (hS : S bb = none) (hne : bb ≠ ub) {es : Array MapEntry} {c : Nat} (g : EntsR es.toList c mb2) : FrH S bb ub mb2 mo (H.upd bb (.map es c)) := by
  obtain ⟨es', c', h3, h4⟩ := h.u
  exact ⟨le_updOff h.le hS _, ⟨es, c, PH.upd_same, g⟩, ⟨es', c', by rw [PH.upd_other (Ne.symm hne)]; exact h3, h4⟩⟩
theorem FrH.setU (h : FrH S bb ub mb mo H) (hS : S ub = none) (hne : bb ≠ ub) {es : Array MapEntry} {c : Nat} (g : EntsR es.toList c mo2) : FrH S bb ub mb mo2 (H.upd ub (.map es c)) := by
  obtain ⟨es', c', h3, h4⟩ := h.b
  exact ⟨le_updOff h.le hS _, ⟨es', c', by rw [PH.upd_other hne]; exact h3, h4⟩, ⟨es, c, PH.upd_same, g⟩⟩
theorem FrH.mapB (h : FrH S bb ub mb mo H) : MapR H (.map (some bb)) mb := by
  obtain ⟨es, c, h1, h2⟩ := h.b
  exact ⟨bb, es, c, rfl, h1, h2⟩
end
def FreeAt (e : Xp) : Prop := ∀ (cs : List Value) (S H : PH) (bb ub : Nat) (mb mo : List (List UInt8 × Value)) (bl : List (List UInt8)), S bb = none → S ub = none → bb ≠ ub → e.Rep S cs → FrH S bb ub mb mo H → CntM mb bl → bl.length + e.bnd.length < 4000000000000000000 →
  Tri Tryz.prog n_core_free #[.agg cs.toArray, .map (some bb), .map (some ub)] H fun x H' => x = .returned (.tuple #[]) ∧ ∃ mb', FrH S bb ub mb' (putsM mo (e.fr bl)) H' ∧ CntM mb' bl
set_option maxHeartbeats 4000000 in
theorem free_tri : ∀ e, FreeAt e := by
  refine Xp.ind fun e ih cs S H bb ub mb mo bl hSb hSu hne he hF hc hbig => ?_
  have he' := he
  obtain ⟨nb, db, kb, nc, dc, kc, rfl, hx⟩ := Xp.Rep.open he
  have hn := hx.names.max
  have hk := hx.kids.max
  simp only [maxLen] at hn hk
  rw [Xp.bnd_eq, List.length_append] at hbig
  refine tri_core_free (exVs e nb db kb nc dc kc ++ [.map (some bb), .map (some ub)]) (by kernel_rfl) (by kernel_rfl) ?_
  refine ⟨fun vs H' => vs = [] ∧ FrH S bb ub mb (putsM mo (if (e.kind = 1 ∨ e.kind = 2) ∧ e.name ∉ bl then [e.name] else [])) H', ?_, ?_⟩
  · rintro vs H1 _ ⟨rfl, f1⟩
    refine ⟨fun nn vs H' => ∃ (k : Nat) (mb' : List (List UInt8 × Value)) (done : List (List UInt8)), vs = [.int .i64 k] ∧ k + nn = e.kids.length ∧ FrH S bb ub mb' (putsM mo done) H' ∧ CntM mb' bl ∧ e.fr bl = done ++ Xps.fr bl (bl ++ e.names) e.kind (e.kids.drop k) ∧ bl.length + e.names.length + (Xps.bnd (e.kids.drop k)).length < 4000000000000000000,
      ⟨e.kids.length, 0, mb, _, rfl, by omega, f1, hc, by rw [Xp.fr_eq, List.drop_zero], by rw [List.drop_zero]; omega⟩, ?_⟩
    rintro nn vs H2 _ ⟨k, mb2, done, rfl, hkn, f2, c2, hfr, hb2⟩
    refine ⟨fun g => ?_, fun g => ?_⟩
    · simp only [ev0, ev, evV, List.cons_append, List.nil_append, List.getD_cons_zero, List.getD_cons_succ, List.map_cons, List.map_nil, iOf, bOf, sOf, pOf, slLen, slBase, cmpI, arI, Value.ite_bool, int_beq, int_bne, ite_band, ite_bor, decide_eq_true_eq] at g
      obtain ⟨a, ha⟩ : ∃ a, e.kids[k]? = some a := ⟨_, List.getElem?_eq_getElem (show k < e.kids.length by omega)⟩
      obtain ⟨g1, _, ces, g2, g3⟩ := hx.kids.get ha
      have htags := Xp.Rep.tags g2
      have g2' := g2
      obtain ⟨nb', db', kb', nc', dc', kc', rfl, _⟩ := Xp.Rep.open g2'
      have l2 := f2.le
      have hbnd : Xps.bnd (e.kids.drop k) = a.bnd ++ Xps.bnd (e.kids.drop (k + 1)) := by rw [drop_get ha, Xps.bnd]
      rw [hbnd, List.length_append] at hb2
      refine ⟨fun _ => ?_, _, htags, by simp only [ev0, ev, evV, List.cons_append, List.nil_append, List.getD_cons_zero, List.getD_cons_succ, List.map_cons, List.map_nil, iOf, bOf, sOf, pOf, slLen, slBase, cmpI, arI, Value.ite_bool, int_beq, int_bne, ite_band, ite_bor]; exact rowAt_le l2 g3, ?_⟩
      · simp only [Chk.holds, ev0, ev, evV, List.cons_append, List.nil_append, List.getD_cons_zero, List.getD_cons_succ, List.map_cons, List.map_nil, iOf, bOf, sOf, pOf, slLen, slBase, cmpI, arI, Value.ite_bool, int_beq, int_bne, ite_band, ite_bor]; exact ⟨g1, by omega, by omega⟩
      have c2' := c2
      refine den_gives [.bool (inB e.kind (e.kids.drop (k + 1)))] cb_core_binds (binds_gives e _ H2 (Xp.Rep.le l2 e he') k (by omega)) rfl pendNil fun H3 h3 => ?_
      have f3 := f2.up h3
      obtain ⟨bi, hbi⟩ : ∃ bi, bi = inB e.kind (e.kids.drop (k + 1)) := ⟨_, rfl⟩
      rw [← hbi]
      have hw1 : ∀ q : Nat, q < 4000000000000000000 → IntKind.i64.wrap ((q : Int) + 1) = ((q + 1 : Nat) : Int) := fun q hq => by rw [w64 (by omega) (by omega)]; omega
      have hw0 : ∀ q : Nat, q < 4000000000000000000 → IntKind.i64.wrap ((q : Int) + 0) = (q : Int) := fun q hq => by rw [w64 (by omega) (by omega)]; omega
      refine ⟨fun nn vs H' => ∃ (q : Nat) (mb' : List (List UInt8 × Value)), vs = [.int .i64 q] ∧ q + nn = e.names.length ∧ FrH S bb ub mb' (putsM mo done) H' ∧ CntM mb' (bl ++ if bi then e.names.take q else []),
        ⟨e.names.length, 0, mb2, rfl, by omega, f3, by cases bi <;> simpa using c2⟩, ?_⟩
      rintro n3 vs H4 _ ⟨q, mb4, rfl, hqn, f4, c4⟩
      refine ⟨fun g => ?_, fun g => ?_⟩
      · simp only [ev0, ev, evV, List.cons_append, List.nil_append, List.getD_cons_zero, List.getD_cons_succ, List.map_cons, List.map_nil, iOf, bOf, sOf, pOf, slLen, slBase, cmpI, arI, Value.ite_bool, int_beq, int_bne, ite_band, ite_bor, decide_eq_true_eq] at g
        obtain ⟨s, hs⟩ : ∃ s, e.names[q]? = some s := ⟨_, List.getElem?_eq_getElem (show q < e.names.length by omega)⟩
        obtain ⟨g1, _, ces, g5, g6⟩ := (hx.names.le f4.le).get hs
        obtain ⟨rfl, _⟩ := csTxts g5
        refine ⟨fun _ => ?_, [txt s], rfl, by simp only [ev0, ev, evV, List.cons_append, List.nil_append, List.getD_cons_zero, List.getD_cons_succ, List.map_cons, List.map_nil, iOf, bOf, sOf, pOf, slLen, slBase, cmpI, arI, Value.ite_bool, int_beq, int_bne, ite_band, ite_bor]; exact g6, ?_⟩
        · simp only [Chk.holds, ev0, ev, evV, List.cons_append, List.nil_append, List.getD_cons_zero, List.getD_cons_succ, List.map_cons, List.map_nil, iOf, bOf, sOf, pOf, slLen, slBase, cmpI, arI, Value.ite_bool, int_beq, int_bne, ite_band, ite_bor]; exact ⟨g1, by omega, by omega⟩
        have hg := c4 s
        refine den_lookup s (.int .i64 0) uMapSI kdStr zInt rfl rfl f4.mapB (by rw [hg]; rfl) pendNil ?_
        rw [hg]
        obtain ⟨es, c, h1, h2⟩ := f4.b
        have hcl : (bl ++ if bi then e.names.take q else []).count s ≤ bl.length + e.names.length := by
          refine Nat.le_trans List.count_le_length ?_
          rw [List.length_append]
          cases bi
          · simp
          · simp only [if_true, List.length_take]; omega
        refine den_mapUpdate s (.int .i64 (((bl ++ if bi then e.names.take (q + 1) else []).count s : Nat) : Int)) uMapSI kdStr rfl rfl ?_ h1 h2 fun es3 clock3 m3 => ?_
        · cases bi
          · show Value.int .i64 (IntKind.i64.wrap (((List.count s (bl ++ if (false : Bool) = true then e.names.take q else []) : Nat) : Int) + 0)) = _
            rw [hw0 _ (by omega)]; simp
          · show Value.int .i64 (IntKind.i64.wrap (((List.count s (bl ++ if (true : Bool) = true then e.names.take q else []) : Nat) : Int) + 1)) = _
            rw [hw1 _ (by omega)]; simp [List.take_add_one, hs, List.count_append]; omega
        · refine ⟨_, lookup_hit, n3 - 1, by omega, q + 1, _, ?_, by omega, f4.setB hSb hne m3, ?_⟩
          · simp only [ev0, ev, evV, List.cons_append, List.nil_append, List.getD_cons_zero, List.getD_cons_succ, List.map_cons, List.map_nil, iOf, bOf, sOf, pOf, slLen, slBase, cmpI, arI, Value.ite_bool, int_beq, int_bne, ite_band, ite_bor]
            rw [w64 (by omega) (by omega)]
            rfl
          · refine c4.put fun z hz => ?_
            cases bi
            · rfl
            · simp only [if_true]
              rw [List.take_add_one, hs]
              simp [List.count_append, Ne.symm hz]
      · simp only [ev0, ev, evV, List.cons_append, List.nil_append, List.getD_cons_zero, List.getD_cons_succ, List.map_cons, List.map_nil, iOf, bOf, sOf, pOf, slLen, slBase, cmpI, arI, Value.ite_bool, int_beq, int_bne, ite_band, ite_bor, decide_eq_false_iff_not] at g
        rw [List.take_of_length_le (by omega)] at c4
        obtain ⟨bl2, hbl2⟩ : ∃ bl2, bl2 = if inB e.kind (e.kids.drop (k + 1)) then bl ++ e.names else bl := ⟨_, rfl⟩
        have c5 : CntM mb4 bl2 := by
          rw [hbl2, ← hbi]
          cases bi <;> simpa using c4
        have hl5 : bl2.length ≤ bl.length + e.names.length := by
          rw [hbl2]
          split
          · rw [List.length_append]; omega
          · omega
        refine den_call cb_core_free (ih a (List.mem_of_getElem? ha) _ S H4 bb ub mb4 (putsM mo done) bl2 hSb hSu hne g2 f4 c5 (by omega)) ?_
        rintro x H5 ⟨rfl, mb5, f5, c6⟩
        refine ⟨_, [], rfl, rfl, rfl, pendNil, ?_⟩
        rw [← putsM_append] at f5
        refine ⟨fun nn vs H' => ∃ (q : Nat) (mb' : List (List UInt8 × Value)), vs = [.int .i64 q] ∧ q + nn = e.names.length ∧ FrH S bb ub mb' (putsM mo (done ++ a.fr bl2)) H' ∧ CntM mb' (bl ++ if bi then e.names.drop q else []),
          ⟨e.names.length, 0, mb5, rfl, by omega, f5, by rw [hbl2, ← hbi] at c6; cases bi <;> simpa using c6⟩, ?_⟩
        rintro n6 vs H6 _ ⟨q6, mb6, rfl, hqn6, f6, c7⟩
        refine ⟨fun g => ?_, fun g => ?_⟩
        · simp only [ev0, ev, evV, List.cons_append, List.nil_append, List.getD_cons_zero, List.getD_cons_succ, List.map_cons, List.map_nil, iOf, bOf, sOf, pOf, slLen, slBase, cmpI, arI, Value.ite_bool, int_beq, int_bne, ite_band, ite_bor, decide_eq_true_eq] at g
          obtain ⟨s, hs⟩ : ∃ s, e.names[q6]? = some s := ⟨_, List.getElem?_eq_getElem (show q6 < e.names.length by omega)⟩
          obtain ⟨g1, _, ces, g5, g6⟩ := (hx.names.le f6.le).get hs
          obtain ⟨rfl, _⟩ := csTxts g5
          refine ⟨fun _ => ?_, [txt s], rfl, by simp only [ev0, ev, evV, List.cons_append, List.nil_append, List.getD_cons_zero, List.getD_cons_succ, List.map_cons, List.map_nil, iOf, bOf, sOf, pOf, slLen, slBase, cmpI, arI, Value.ite_bool, int_beq, int_bne, ite_band, ite_bor]; exact g6, ?_⟩
          · simp only [Chk.holds, ev0, ev, evV, List.cons_append, List.nil_append, List.getD_cons_zero, List.getD_cons_succ, List.map_cons, List.map_nil, iOf, bOf, sOf, pOf, slLen, slBase, cmpI, arI, Value.ite_bool, int_beq, int_bne, ite_band, ite_bor]; exact ⟨g1, by omega, by omega⟩
          have hg := c7 s
          refine den_lookup s (.int .i64 0) uMapSI kdStr zInt rfl rfl f6.mapB (by rw [hg]; rfl) pendNil ?_
          rw [hg]
          obtain ⟨es, c, h1, h2⟩ := f6.b
          have hdg := drop_get hs
          have hcl : (bl ++ if bi then e.names.drop q6 else []).count s ≤ bl.length + e.names.length := by
            refine Nat.le_trans List.count_le_length ?_
            rw [List.length_append]
            cases bi
            · simp
            · simp only [if_true, List.length_drop]; omega
          refine den_mapUpdate s (.int .i64 (((bl ++ if bi then e.names.drop (q6 + 1) else []).count s : Nat) : Int)) uMapSI kdStr rfl rfl ?_ h1 h2 fun es3 clock3 m3 => ?_
          · cases bi
            · show Value.int .i64 (IntKind.i64.wrap (((List.count s (bl ++ if (false : Bool) = true then e.names.drop q6 else []) : Nat) : Int) - 0)) = _
              rw [w64 (by omega) (by omega)]; simp
            · show Value.int .i64 (IntKind.i64.wrap (((List.count s (bl ++ if (true : Bool) = true then e.names.drop q6 else []) : Nat) : Int) - 1)) = _
              rw [w64 (by omega) (by omega)]; simp [hdg, List.count_append]; omega
          · refine ⟨_, lookup_hit, n6 - 1, by omega, q6 + 1, _, ?_, by omega, f6.setB hSb hne m3, ?_⟩
            · simp only [ev0, ev, evV, List.cons_append, List.nil_append, List.getD_cons_zero, List.getD_cons_succ, List.map_cons, List.map_nil, iOf, bOf, sOf, pOf, slLen, slBase, cmpI, arI, Value.ite_bool, int_beq, int_bne, ite_band, ite_bor]
              rw [w64 (by omega) (by omega)]
              rfl
            · refine c7.put fun z hz => ?_
              cases bi
              · rfl
              · simp only [if_true]
                rw [hdg]
                simp [List.count_append, Ne.symm hz]
        · simp only [ev0, ev, evV, List.cons_append, List.nil_append, List.getD_cons_zero, List.getD_cons_succ, List.map_cons, List.map_nil, iOf, bOf, sOf, pOf, slLen, slBase, cmpI, arI, Value.ite_bool, int_beq, int_bne, ite_band, ite_bor, decide_eq_false_iff_not] at g
          rw [List.drop_eq_nil_of_le (by omega)] at c7
          refine ⟨_, (lookup_miss (by decide)).trans ((lookup_miss (by decide)).trans lookup_hit), nn - 1, by omega, k + 1, mb6, done ++ a.fr bl2, ?_, by omega, f6, ?_, ?_, by omega⟩
          · simp only [ev0, ev, evV, List.cons_append, List.nil_append, List.getD_cons_zero, List.getD_cons_succ, List.map_cons, List.map_nil, iOf, bOf, sOf, pOf, slLen, slBase, cmpI, arI, Value.ite_bool, int_beq, int_bne, ite_band, ite_bor]
            rw [w64 (by omega) (by omega)]
            rfl
          · cases bi <;> simpa using c7
          · rw [hfr, drop_get ha, Xps.fr, List.append_assoc, hbl2]
    · simp only [ev0, ev, evV, List.cons_append, List.nil_append, List.getD_cons_zero, List.getD_cons_succ, List.map_cons, List.map_nil, iOf, bOf, sOf, pOf, slLen, slBase, cmpI, arI, Value.ite_bool, int_beq, int_bne, ite_band, ite_bor, decide_eq_false_iff_not] at g
      have hkk : k = e.kids.length := by omega
      subst hkk
      rw [List.drop_length, Xps.fr, List.append_nil] at hfr
      rw [hfr]
      exact ⟨rfl, mb2, f2, c2⟩
  · refine ⟨fun vs H' => vs = [.bool (decide ((e.kind = 1 ∨ e.kind = 2) ∧ e.name ∉ bl))] ∧ H' = H, ?_, ?_⟩
    · rintro vs H1 _ ⟨rfl, rfl⟩
      refine ⟨fun g => ?_, fun g => ?_⟩
      · simp only [ev0, ev, evV, List.cons_append, List.nil_append, List.getD_cons_zero, List.getD_cons_succ, List.map_cons, List.map_nil, iOf, bOf, sOf, pOf, slLen, slBase, cmpI, arI, Value.ite_bool, int_beq, int_bne, ite_band, ite_bor, decide_eq_true_eq] at g
        obtain ⟨es, c, h1, h2⟩ := hF.u
        refine den_mapUpdate e.name (.int .i64 1) uMapSI kdStr rfl rfl rfl h1 h2 fun es3 clock3 m3 => ⟨_, lookup_hit, rfl, ?_⟩
        rw [if_pos g]
        exact hF.setU hSu hne m3
      · simp only [ev0, ev, evV, List.cons_append, List.nil_append, List.getD_cons_zero, List.getD_cons_succ, List.map_cons, List.map_nil, iOf, bOf, sOf, pOf, slLen, slBase, cmpI, arI, Value.ite_bool, int_beq, int_bne, ite_band, ite_bor, decide_eq_false_iff_not] at g
        refine ⟨_, lookup_hit, rfl, ?_⟩
        rw [if_neg g]
        exact hF
    · refine ⟨fun g => ?_, fun g => ?_⟩
      · have g12 : e.kind = 1 ∨ e.kind = 2 := by
          by_cases h1 : e.kind = 1
          · exact .inl h1
          · refine .inr ?_
            simp only [ev0, ev, evV, List.cons_append, List.nil_append, List.getD_cons_zero, List.getD_cons_succ, List.map_cons, List.map_nil, iOf, bOf, sOf, pOf, slLen, slBase, cmpI, arI, Value.ite_bool, int_beq, int_bne, ite_band, ite_bor] at g
            simpa [h1] using g
        have hg := hc e.name
        refine den_lookup e.name (.int .i64 0) uMapSI kdStr zInt rfl rfl hF.mapB (by rw [hg]; rfl) pendNil ?_
        rw [hg]
        refine ⟨_, lookup_hit, ?_, rfl⟩
        simp only [ev0, ev, evV, List.cons_append, List.nil_append, List.getD_cons_zero, List.getD_cons_succ, List.map_cons, List.map_nil, iOf, bOf, sOf, pOf, slLen, slBase, cmpI, arI, Value.ite_bool, int_beq, int_bne, ite_band, ite_bor]
        have hcnt : bl.count e.name = 0 ↔ e.name ∉ bl := List.count_eq_zero
        by_cases hm : e.name ∈ bl
        · have : ¬ bl.count e.name = 0 := fun h => hcnt.1 h hm
          simp [hm, this]
        · have := hcnt.2 hm
          simp [hm, this, g12]
      · have g12 : ¬ (e.kind = 1 ∨ e.kind = 2) := by
          rintro (h1 | h1) <;> simp [ev0, ev, evV, List.cons_append, List.nil_append, List.getD_cons_zero, List.getD_cons_succ, List.map_cons, List.map_nil, iOf, bOf, sOf, pOf, slLen, slBase, cmpI, arI, Value.ite_bool, h1] at g
        refine ⟨_, lookup_hit, ?_, rfl⟩
        simp [ev0, ev, evV, List.cons_append, List.nil_append, List.getD_cons_zero, List.getD_cons_succ, List.map_cons, List.map_nil, iOf, bOf, sOf, pOf, slLen, slBase, cmpI, arI, Value.ite_bool, g12]
end Go.Proofs.YtibinelkmlcmgaaGreatDoor.Vc
/-
  CORE: the keys of a map, sorted.
-/
namespace Go.Proofs.YtibinelkmlcmgaaGreatDoor.Vc
open Go Go.Sort Go.RowKit Go.Maps Go.Shelf

/-- maps.Keys: a function value over a new block -/
theorem Keys_tri (H : PH) (b : Nat) : Tri Tryz.prog 24 #[.map (some b)] H fun e H' => ∃ q, e = .returned (.func (.func 41) #[] #[.pointer (some ⟨q, 0, none⟩)]) ∧ H q = none ∧ H' = H.upd q (.cells #[.map (some b)] 44 (0, 0)) := fun w hv =>
  (callsIn_wide.1 (Tryz.maps_Keys_24 (some b) w)).mono fun e w' ⟨g1, g2⟩ => by
    subst g2
    exact ⟨_, adv_new hv _, w.heap.size, g1, hv.new, rfl⟩
theorem txts_row (H : PH) : ∀ l : List (List UInt8), (∀ s ∈ l, s.length ≤ maxLen) → PV.RepRow H (l.flatMap pv) (l.map txt)
  | [], _ => rfl
  | s :: l, h => ⟨txt s, l.map txt, rfl, ⟨rfl, h s (List.mem_cons_self ..)⟩, txts_row H l fun x hx => h x (List.mem_cons_of_mem _ hx)⟩
theorem rd_txt {x : MapEntry} {s : List UInt8} (h : x.key = txt s) (hs : s.length ≤ maxLen) : Go.WideElems.rd (H := Unit) Tryz.prog 9 (fun _ => some (.nil, [])) x = some (.string s, .nil) := by
  have hk : keyOf Tryz.prog 9 x.key = some (.string s) := by
    rw [h]
    have hu : Tryz.prog.underlying 9 = some .string := by kernel_rfl
    unfold keyOf
    rw [hu]
    show mapKey _ _ _ = _
    unfold mapKey
    rw [hu]
    show (if (⟨s.toArray⟩ : ByteArray).size ≤ maxLen then _ else _) = _
    rw [txt_size, if_pos hs]
  unfold Go.WideElems.rd
  rw [hk]; rfl
theorem ents_key {es : List MapEntry} {clock : Nat} {m : List (List UInt8 × Value)} (h : EntsR es clock m) : es.map (·.key) = m.map fun x => txt x.1 := by
  have := congrArg (List.map Prod.fst) h.ents
  rw [List.map_map, List.map_map] at this
  exact this
theorem rg_keys : ∀ (es : List MapEntry) (m : List (List UInt8 × Value)), es.map (·.key) = (m.map fun x => txt x.1) → (∀ x ∈ m, x.1.length ≤ maxLen) → es.map (fun x => strOf (Go.WideElems.rg (H := Unit) Tryz.prog 9 (fun _ => some (.nil, [])) x).1) = m.map (·.1)
  | [], [], _, _ => rfl
  | [], _ :: _, h, _ => by simp at h
  | _ :: _, [], h, _ => by simp at h
  | x :: es, y :: m, h, hl => by
    simp only [List.map_cons, List.cons.injEq] at h ⊢
    exact ⟨by rw [Go.WideElems.rg_of (rd_txt h.1 (hl y (List.mem_cons_self ..)))]; rfl, rg_keys es m h.2 fun z hz => hl z (List.mem_cons_of_mem _ hz)⟩
theorem ents_fit {es : Array MapEntry} {clock : Nat} {m : List (List UInt8 × Value)} (h : EntsR es.toList clock m) (hl : ∀ x ∈ m, x.1.length ≤ maxLen) (hm : m.length ≤ maxLen) : Go.WideElems.Fit (H := Unit) Tryz.prog 9 (fun _ => some (.nil, [])) es clock := by
  have hk := ents_key h
  have hn := h.keys
  refine ⟨?_, ⟨h.old, h.born, ?_⟩, fun x hx => ?_⟩
  · have := h.len
    rw [Array.length_toList] at this; omega
  · rw [hk]
    have : (m.map fun x => txt x.1) = (m.map (·.1)).map txt := by rw [List.map_map]; rfl
    rw [this]
    refine List.pairwise_map.2 (hn.imp fun {a b} hne he => hne ?_)
    have h2 : (⟨a.toArray⟩ : ByteArray) = ⟨b.toArray⟩ := by injection he
    exact ba_inj h2
  · have hx2 : x.key ∈ m.map fun x => txt x.1 := by rw [← hk]; exact List.mem_map_of_mem hx
    obtain ⟨y, hy, he⟩ := List.mem_map.1 hx2
    exact ⟨_, rd_txt he.symm (hl y hy)⟩
theorem ents_own {b : Nat} {es : Array MapEntry} {clock : Nat} {m : List (List UInt8 × Value)} (h : EntsR es.toList clock m) (hl : ∀ x ∈ m, x.1.length ≤ maxLen) (hm : m.length ≤ maxLen) :
    ∃ D : DataW Unit, (∀ w : World, w.heap[b]? = some (.map es clock) → w.ownsMap Tryz.prog 9 (fun _ => some (.nil, [])) b es.size D) ∧ (strKeys D).Perm (m.map (·.1)) ∧ Maps.size D = m.length := by
  refine ⟨.map ((es.toList.map (Go.WideElems.rg Tryz.prog 9 fun _ => some (.nil, []))).foldr DataW.insert []), fun w hb => ⟨es, clock, hb, ents_fit h hl hm, Nat.le_refl _, rfl⟩, ?_, ?_⟩
  · have h1 := (Go.WideShapes.sorted_perm (es.toList.map (Go.WideElems.rg (H := Unit) Tryz.prog 9 fun _ => some (.nil, [])))).map fun p => strOf p.1
    rw [List.map_map] at h1
    exact h1.trans (List.Perm.of_eq (rg_keys es.toList m (ents_key h) hl))
  · show ((es.toList.map _).foldr DataW.insert []).length = _
    rw [length_sorted, List.length_map, h.len]
/-- slices.Sorted of that function value: the map's keys, sorted, in a new slice -/
theorem Sorted_tri (H : PH) (q b : Nat) (es : Array MapEntry) (clock : Nat) (m : List (List UInt8 × Value)) (hq : H q = some (.cells #[.map (some b)] 44 (0, 0))) (hb : H b = some (.map es clock)) (hE : EntsR es.toList clock m) (hl : ∀ x ∈ m, x.1.length ≤ maxLen) (hm : m.length ≤ 8000000000000) :
    Tri Tryz.prog 23 #[.func (.func 41) #[] #[.pointer (some ⟨q, 0, none⟩)]] H fun e H' => ∃ v, e = .returned v ∧ SlR H' ((m.map (·.1)).mergeSort leB) v ∧ PH.le H H' := by
  intro w hv
  have hmx : maxLen = 9223372036854775807 := rfl
  obtain ⟨D, hD1, hD2, hsz⟩ := ents_own (b := b) hE hl (by omega)
  have hown := hD1 w (hv b _ hb)
  have hseq : SeqGives Fence.wide 2 Tryz.prog 41 #[.pointer (some ⟨q, 0, none⟩)] encStr (fun ss => ss.Perm (strKeys D)) (Maps.size D) w :=
    AnyZ.keys_gives (ρ := Tryz.keys24_ren) { Tryz.keys24 with } Fence.wide _ trivial rfl (by omega) q b es.size D w (hv.lt hq) (hv.cell (PH.cell_at hq)) hown
  refine (callsIn_wide.1 (AnyZ.sorted_in Tryz.sorted23 Fence.wide 5 trivial trivial trivial trivial rfl (by omega) (Tryz.sorts23 _) (enters_of Tryz.func40 (by kernel_rfl) rfl) 41 #[.pointer (some ⟨q, 0, none⟩)] trivial (enters_of Tryz.func41 (by kernel_rfl) rfl) _ _ (by rw [hsz]; omega) (by rw [hsz]; omega) w hseq)).mono ?_
  rintro e w' ⟨v, ss, rfl, hp, hrow, _, hbel⟩
  have hp2 : ss.Perm (m.map (·.1)) := hp.trans hD2
  have hss : ∀ s ∈ ss.mergeSort leB, s.length ≤ maxLen := fun s hs => by
    obtain ⟨x, hx, rfl⟩ := List.mem_map.1 (hp2.mem_iff.1 ((List.mergeSort_perm ss leB).mem_iff.1 hs))
    exact hl x hx
  have hlen : (ss.mergeSort leB).length = ss.length := List.length_mergeSort ..
  rw [← mergeSort_of_perm hp2]
  have hrow1 := hrow.1
  rcases hrow.2 with ⟨rfl, hz⟩ | ⟨g, cap, cur, rfl, hbase, hg, h4, h5, h6, h7⟩
  · refine ⟨H, ⟨hbel.size, fun k o hk => ?_, fun k hk hn => ⟨hbel.block k hk, hn⟩, hbel.os, hbel.tape, hbel.output⟩, _, rfl, ?_, PH.le_refl _⟩
    · rw [hbel.block k (hv.lt hk)]; exact hv k o hk
    · have : ss.mergeSort leB = [] := List.length_eq_zero_iff.1 (by rw [hlen]; exact hz)
      rw [this]
      exact SlR.mk_iff.2 ⟨Nat.zero_le _, .inl ⟨rfl, rfl⟩⟩
  · have hgn : H g = none := by
      cases hx : H g with
      | none => rfl
      | some o => have := hv.lt hx; omega
    refine ⟨H.upd g (.cells cur 9 (0, 0)), ⟨hbel.size, fun k o hk => ?_, fun k hk hn => ⟨hbel.block k hk, ?_⟩, hbel.os, hbel.tape, hbel.output⟩, _, rfl, ?_, PH.le_upd hgn⟩
    · by_cases e1 : k = g
      · subst e1; rw [PH.upd_same] at hk; cases hk; exact hg
      · rw [PH.upd_other e1] at hk
        rw [hbel.block k (hv.lt hk)]; exact hv k o hk
    · rw [PH.upd_other (by omega)]; exact hn
    · have hr : Row (α := List UInt8) H (H.upd g (.cells cur 9 (0, 0))) 9 (ss.mergeSort leB) (.slice (some ⟨g, 0, none⟩) ss.length cap) := by
        refine ⟨fun g' hg' => ?_, (ss.mergeSort leB).map txt, ⟨?_, .inr ⟨g, cap, cur, ?_, PH.upd_same, ?_, h5, h6, ?_⟩⟩, txts_row H _ hss⟩
        · simp only [ob, Option.some.injEq] at hg'
          subst hg'; exact hgn
        · rw [List.length_map]; show _ = _ * 1; omega
        · rw [hlen]
        · rw [hlen]; exact h4
        · rw [hlen]; exact h7
      exact hr.slR (PH.le_upd hgn)
end Go.Proofs.YtibinelkmlcmgaaGreatDoor.Vc
/-
  CORE: the program's Free.
-/
namespace Go.Proofs.YtibinelkmlcmgaaGreatDoor.Vc
open Go Go.Sort

theorem putM_mem (m : List (List UInt8 × Value)) (a : List UInt8) (v : Value) : ∀ x, x ∈ (putM m a v).map (·.1) ↔ x ∈ m.map (·.1) ∨ x = a := by
  intro x
  unfold putM
  have hmem : (getM m a).isSome = true → a ∈ m.map (·.1) := fun h => by
    obtain ⟨v, hv⟩ := Option.isSome_iff_exists.1 h
    unfold getM at hv
    obtain ⟨y, hy, _⟩ := Option.map_eq_some_iff.1 hv
    have h1 := List.mem_of_find?_eq_some hy
    have h2 := List.find?_some hy
    exact List.mem_map.2 ⟨y, h1, by simpa using h2⟩
  split
  · rename_i hs
    have : (m.map fun x => if x.1 = a then (a, v) else x).map (·.1) = m.map (·.1) := by
      rw [List.map_map]
      refine List.map_congr_left fun y _ => ?_
      show (if y.1 = a then (a, v) else y).1 = y.1
      split
      · rename_i h; exact h.symm
      · rfl
    rw [this]
    constructor
    · exact .inl
    · rintro (h | rfl)
      · exact h
      · exact hmem hs
  · rw [List.map_append, List.mem_append]
    simp
theorem putM_len (m : List (List UInt8 × Value)) (a : List UInt8) (v : Value) : (putM m a v).length ≤ m.length + 1 := by
  unfold putM
  split
  · rw [List.length_map]; omega
  · rw [List.length_append]; simp
theorem putsM_keys : ∀ (l : List (List UInt8)) (m : List (List UInt8 × Value)) (x : List UInt8), x ∈ (putsM m l).map (·.1) ↔ x ∈ m.map (·.1) ∨ x ∈ l
  | [], m, x => by simp [putsM]
  | a :: l, m, x => by
    show x ∈ (putsM (putM m a (.int .i64 1)) l).map (·.1) ↔ _
    rw [putsM_keys l, putM_mem, List.mem_cons, or_assoc]
theorem putsM_len : ∀ (l : List (List UInt8)) (m : List (List UInt8 × Value)), (putsM m l).length ≤ m.length + l.length
  | [], m => by simp [putsM]
  | a :: l, m => by
    have h1 := putsM_len l (putM m a (.int .i64 1))
    have h2 := putM_len m a (.int .i64 1)
    show (putsM (putM m a (.int .i64 1)) l).length ≤ _
    rw [List.length_cons]; omega
/-- the free names, each once, sorted -/
def freeS (l : List (List UInt8)) : List (List UInt8) := ((putsM [] l).map (·.1)).mergeSort leB
theorem Xps.mem_fr {bl inner : List (List UInt8)} {k : Int} {s : List UInt8} : ∀ {l : List Xp}, s ∈ Xps.fr bl inner k l → ∃ e ∈ l, ∃ b, s ∈ e.fr b
  | [], h => by simp [Xps.fr] at h
  | e :: l, h => by
    simp only [Xps.fr] at h
    rcases List.mem_append.1 h with h | h
    · exact ⟨e, List.mem_cons_self .., _, h⟩
    · obtain ⟨e', h1, h2⟩ := Xps.mem_fr h
      exact ⟨e', List.mem_cons_of_mem _ h1, h2⟩
theorem rep_fr : ∀ (e : Xp) (H : PH) (cs : List Value), e.Rep H cs → ∀ bl, ∀ s ∈ e.fr bl, s.length ≤ maxLen := by
  refine Xp.ind fun e ih H cs he bl s hs => ?_
  obtain ⟨nb, db, kb, nc, dc, kc, rfl, hx⟩ := Xp.Rep.open he
  rw [Xp.fr_eq] at hs
  rcases List.mem_append.1 hs with h | h
  · split at h
    · rw [List.mem_singleton.1 h]; exact hx.name
    · cases h
  · obtain ⟨k, hk, b, h⟩ := Xps.mem_fr h
    obtain ⟨i, hi, rfl⟩ := List.mem_iff_getElem.1 hk
    obtain ⟨_, _, ces, g2, _⟩ := hx.kids.get (List.getElem?_eq_getElem hi)
    exact ih _ hk H ces g2 b s h
mutual
theorem Xp.fr_len : ∀ (e : Xp) (bl : List (List UInt8)), (e.fr bl).length ≤ e.size
  | .mk k s ns d l, bl => by
    have := Xps.fr_len l bl (bl ++ ns) k
    simp only [Xp.fr, Xp.size, List.length_append]
    split <;> simp only [List.length_nil, List.length_cons] <;> omega
theorem Xps.fr_len : ∀ (l : List Xp) (bl inner : List (List UInt8)) (k : Int), (Xps.fr bl inner k l).length ≤ Xps.size l
  | [], _, _, _ => by simp [Xps.fr]
  | e :: l, bl, inner, k => by
    have h1 := Xp.fr_len e (if inB k l then inner else bl)
    have h2 := Xps.fr_len l bl inner k
    simp only [Xps.fr, Xps.size, List.length_append]; omega
end
theorem CFree_tri (e : Xp) (cs : List Value) (H : PH) (he : e.Rep H cs) (hn : e.bnd.length < 4000000000000000000) (hz : e.size ≤ 8000000000000) : Tri Tryz.prog n_core_Free #[.agg cs.toArray] H fun x H' => ∃ v, x = .returned v ∧ SlR H' (freeS (e.fr [])) v ∧ PH.le H H' := by
  have he' := he
  obtain ⟨nb, db, kb, nc, dc, kc, rfl, hx⟩ := Xp.Rep.open he
  refine tri_core_Free (exVs e nb db kb nc dc kc) (by kernel_rfl) (by kernel_rfl) ?_
  refine den_makeMap fun ub hub => ?_
  refine den_makeMap fun bb hbb => ?_
  have hne : bb ≠ ub := fun h => by rw [h, PH.upd_same] at hbb; cases hbb
  have hHb : H bb = none := by rw [PH.upd_other hne] at hbb; exact hbb
  have hF : FrH H bb ub [] [] ((H.upd ub (.map #[] 0)).upd bb (.map #[] 0)) :=
    ⟨le_updOff (le_updOff (PH.le_refl _) hub _) hHb _, ⟨#[], 0, PH.upd_same, EntsR.empty⟩, ⟨#[], 0, by rw [PH.upd_other (Ne.symm hne), PH.upd_same], EntsR.empty⟩⟩
  refine den_call cb_core_free (free_tri e _ H _ bb ub [] [] [] hHb hub hne he' hF (fun s => rfl) (by simpa using hn)) ?_
  rintro x H3 ⟨rfl, mb3, f3, _⟩
  refine ⟨_, [], rfl, rfl, rfl, pendNil, ?_⟩
  refine den_call (by kernel_rfl) (Keys_tri H3 ub) ?_
  rintro x H4 ⟨q, rfl, hq, h4⟩
  refine ⟨_, [_], rfl, rfl, rfl, pendNil, ?_⟩
  obtain ⟨es, c, h5, h6⟩ := f3.u
  have hl34 : PH.le H3 H4 := by rw [h4]; exact PH.le_upd hq
  refine den_call (by kernel_rfl) (Sorted_tri H4 q ub es c _ (by rw [h4]; exact PH.upd_same) (hl34 _ _ h5) h6 (fun x hx => ?_) ?_) ?_
  · have : x.1 ∈ (putsM [] (e.fr [])).map (·.1) := List.mem_map.2 ⟨x, hx, rfl⟩
    rw [putsM_keys] at this
    simp only [List.map_nil, List.not_mem_nil, false_or] at this
    exact rep_fr e H _ he' [] _ this
  · have h1 := putsM_len (e.fr []) []
    have h2 := Xp.fr_len e []
    simp only [List.length_nil] at h1; omega
  · rintro x H5 ⟨v, rfl, h7, h8⟩
    obtain ⟨b, cc, hv⟩ := h7.sl
    exact ⟨_, [v], rfl, by rw [hv]; rfl, rfl, pendNil, v, rfl, h7, PH.le_trans f3.le (PH.le_trans hl34 h8)⟩
end Go.Proofs.YtibinelkmlcmgaaGreatDoor.Vc
/-
  CORE: the fixed calls.
-/
namespace Go.Proofs.YtibinelkmlcmgaaGreatDoor.Vc
open Go

theorem gives_run {P : Program} {f : FuncId} {fn : Func} {fm : Fm VE} {tab : List CK} {S0 : PH} (h : TriOf P f fn fm) (hp : tagsOk ((paramRS P fn).flatMap RS.tags) [] = true) (ha : ([] : List Value) = packAll (paramRS P fn) []) (htab : TabOk P S0 tab) (hr : runsTrue P tab fm = true) : Gives P f [] S0 (.bool true) :=
  h [] (H := S0) (R := fun e H' => e = .returned (.bool true) ∧ PH.le S0 H') hp ha (runs_true (R := fun e H' => e = .returned (.bool true) ∧ PH.le S0 H') htab hr fun H' hl => ⟨rfl, hl⟩)
/-! ### known calls out of contracts -/
theorem ck_ag {P : Program} {S0 : PH} {f : FuncId} {row out : List PV} {sh : Sh} (hcb : callB P f = true) (h : ∀ (S : PH) (cs : List Value), PH.le S0 S → PV.RepRow S row cs → Tri P f #[.agg cs.toArray] S fun e S' => ∃ us, e = .returned (sh.pack us) ∧ PV.RepRow S' out us ∧ PH.le S S') : CK.Ok P S0 ⟨f, [(true, row)], sh, out⟩ := by
  refine ⟨hcb, fun S vs hS hv => ?_⟩
  cases hv with
  | cons h1 h2 =>
    cases h2
    obtain ⟨cs, h3, h4⟩ := h1
    simp only [if_true] at h4
    subst h4
    exact h S cs hS h3
theorem ck_ag2 {P : Program} {S0 : PH} {f : FuncId} {row row2 out : List PV} {sh : Sh} (hcb : callB P f = true) (h : ∀ (S : PH) (cs cs2 : List Value), PH.le S0 S → PV.RepRow S row cs → PV.RepRow S row2 cs2 → Tri P f #[.agg cs.toArray, .agg cs2.toArray] S fun e S' => ∃ us, e = .returned (sh.pack us) ∧ PV.RepRow S' out us ∧ PH.le S S') : CK.Ok P S0 ⟨f, [(true, row), (true, row2)], sh, out⟩ := by
  refine ⟨hcb, fun S vs hS hv => ?_⟩
  cases hv with
  | cons h1 h2 =>
    cases h2 with
    | cons h3 h4 =>
      cases h4
      obtain ⟨cs, h5, h6⟩ := h1
      obtain ⟨cs2, h7, h8⟩ := h3
      simp only [if_true] at h6 h8
      subst h6 h8
      exact h S cs cs2 hS h5 h7
theorem ck_sc {P : Program} {S0 : PH} {f : FuncId} {p : PV} {out : List PV} {sh : Sh} (hcb : callB P f = true) (h : ∀ (S : PH) (v : Value), PH.le S0 S → p.Rep S v → Tri P f #[v] S fun e S' => ∃ us, e = .returned (sh.pack us) ∧ PV.RepRow S' out us ∧ PH.le S S') : CK.Ok P S0 ⟨f, [(false, [p])], sh, out⟩ := by
  refine ⟨hcb, fun S vs hS hv => ?_⟩
  cases hv with
  | cons h1 h2 =>
    cases h2
    obtain ⟨cs, h3, h4⟩ := h1
    simp only [Bool.false_eq_true, if_false] at h4
    subst h4
    simp only [PV.RepRow] at h3
    obtain ⟨v, vs, h5, h6, rfl⟩ := h3
    cases h5
    exact h S _ hS h6
theorem row1 {S : PH} {p : PV} {v : Value} (h : p.Rep S v) : PV.RepRow S [p] [v] := by
  simp only [PV.RepRow]; exact ⟨_, _, rfl, h, rfl⟩
theorem gives_ck {P : Program} {f : FuncId} {args : List Value} {S : PH} {v : Value} {p : PV} (hp : ∀ S', p.Rep S' v) (h : Gives P f args S v) : Tri P f args.toArray S fun e S' => ∃ us, e = .returned (Sh.pack .sc us) ∧ PV.RepRow S' [p] us ∧ PH.le S S' := by
  refine h.mono ?_
  rintro e S' ⟨rfl, h2⟩
  exact ⟨[v], rfl, row1 (hp S'), h2⟩
theorem rep_bool (S : PH) (b : Bool) : PV.Rep S (.bool b) (.bool b) := by simp only [PV.Rep]

theorem CData_tri (e : Xp) (cs : List Value) (H : PH) (he : e.Rep H cs) : Tri Tryz.prog n_core_Data #[.agg cs.toArray] H fun x H' => ∃ ds : List Value, x = .returned (.tuple #[.agg ds.toArray, .int .i64 (e.chk true 0 0).2]) ∧ PH.le H H' ∧ (if (e.chk true 0 0).2 = 0 then e.dat else dat0).Rep H' ds := by
  have he' := he
  obtain ⟨nb, db, kb, nc, dc, kc, rfl, hx⟩ := Xp.Rep.open he
  refine tri_core_Data (exVs e nb db kb nc dc kc) (by kernel_rfl) (by kernel_rfl) ?_
  refine den_gives [.int .i64 (e.chk true 0 0).2] cb_core_Check (CCheckF_gives e _ H he') rfl pendNil fun H1 l1 => ?_
  refine ⟨fun g => ?_, fun g => ?_⟩
  · simp only [ev0, ev, evV, List.cons_append, List.nil_append, List.getD_cons_zero, List.getD_cons_succ, List.map_cons, List.map_nil, iOf, bOf, sOf, pOf, slLen, slBase, cmpI, arI, Value.ite_bool, int_beq, int_bne, ite_band, ite_bor, decide_eq_true_eq] at g
    refine ⟨[.int .i64 0, .int .i64 0, txt [], .slice none 0 0], ?_, l1, ?_⟩
    · simp only [evV, List.map_cons, List.map_nil, partV]; rfl
    · rw [if_neg g]; exact dat0_rep H1
  · simp only [ev0, ev, evV, List.cons_append, List.nil_append, List.getD_cons_zero, List.getD_cons_succ, List.map_cons, List.map_nil, iOf, bOf, sOf, pOf, slLen, slBase, cmpI, arI, Value.ite_bool, int_beq, int_bne, ite_band, ite_bor, decide_eq_false_iff_not, ne_eq, Decidable.not_not] at g
    refine den_call cb_core_told (told_tri e _ H1 (Xp.Rep.le l1 e he') (Xp.chk_ok true e 0 0 g).1 (chk_bounds g).1) ?_
    rintro x H2 ⟨ds, rfl, l2, r2⟩
    have ht2 := Dat.Rep.tags r2
    have r2' := r2
    obtain ⟨sv2, rfl, _⟩ := Dat.Rep_iff.1 r2
    refine ⟨_, _, rfl, ht2, rfl, pendNil, ?_⟩
    refine ⟨_, ?_, PH.le_trans l1 l2, by rw [if_pos g]; exact r2'⟩
    simp only [evV, List.map_cons, List.map_nil, partV]
    rw [g]; rfl

/-! ### what the fixed calls are of -/
def refX (s : List UInt8) : Xp := .mk 1 s [] dat0 []
def sumX (a b : List UInt8) : Xp := .mk 7 [43] [] dat0 [refX a, refX b]
/-- (lambda (x) (let ((x (+ x v.0))) x)) -/
def fxE : Xp := .mk 5 [] [[120]] dat0 [.mk 8 [] [[120]] dat0 [sumX [120] [118, 46, 48], refX [120]]]
def fxW : Xp := .mk 5 [] [[118, 46, 49]] dat0 [.mk 8 [] [[118, 46, 50]] dat0 [sumX [118, 46, 49] [118, 46, 48], refX [118, 46, 50]]]
def fxI : Xp := .mk 3 [] [] dat0 []
theorem fx_ren : PV.sameRow (renameX fxE).pv fxW.pv = true := by decide +kernel
theorem fxW_ok : (fxW.chk true 0 0).2 = 0 := by decide +kernel
theorem fxI_no : (fxI.chk true 0 0).2 = 60 := by decide +kernel
theorem fx_free : freeS (fxE.fr []) = [[118, 46, 48]] := by
  have : fxE.fr [] = [[118, 46, 48]] := by decide +kernel
  rw [this]
  have h2 : (putsM [] [[118, 46, 48]]).map (·.1) = [[118, 46, 48]] := by simp [putsM, putM, getM]
  unfold freeS
  rw [h2, List.mergeSort_singleton]
theorem ck_ref {S0 : PH} (s : List UInt8) : CK.Ok Tryz.prog S0 ⟨n_scrimshawlaw06_ref, [(false, [.str s])], .ag, (refX s).pv⟩ := by
  refine ck_sc cb_scrimshawlaw06_ref fun S v hS hv => ?_
  simp only [PV.Rep] at hv
  obtain ⟨rfl, hl⟩ := hv
  refine tri_scrimshawlaw06_ref [txt s] rfl rfl ?_
  refine ⟨[.int .i64 1, txt s, .slice none 0 0, .int .i64 0, .int .i64 0, txt [], .slice none 0 0, .slice none 0 0], rfl, ?_, PH.le_refl _⟩
  refine Xp.Rep_iff.2 ⟨_, _, _, rfl, (by decide : InI 1), hl, SlR.mk_iff.2 ⟨Nat.zero_le _, .inl ⟨rfl, rfl⟩⟩, dat0_rep S, SlR.mk_iff.2 ⟨Nat.zero_le _, .inl ⟨rfl, rfl⟩⟩⟩
theorem sl_one {S : PH} {l : List (List UInt8)} {v : Value} (h : SlR S l v) : PV.RepRow S [slp l] [v] := row1 h
def fxTab : List CK :=
  [⟨n_scrimshawlaw06_ref, [(false, [.str [120]])], .ag, (refX [120]).pv⟩,
   ⟨n_scrimshawlaw06_ref, [(false, [.str [118, 46, 48]])], .ag, (refX [118, 46, 48]).pv⟩,
   ⟨n_scrimshawlaw06_ref, [(false, [.str [118, 46, 49]])], .ag, (refX [118, 46, 49]).pv⟩,
   ⟨n_scrimshawlaw06_ref, [(false, [.str [118, 46, 50]])], .ag, (refX [118, 46, 50]).pv⟩,
   ⟨n_core_Rename, [(true, fxE.pv)], .ag, fxW.pv⟩,
   ⟨n_core_Data, [(true, fxW.pv)], .tu [(true, 4), (false, 1)], fxW.dat.pv ++ [.int .i64 0]⟩,
   ⟨n_core_Free, [(true, fxE.pv)], .sc, [.sl [[.str [118, 46, 48]]]]⟩,
   ⟨n_scrimshawref06_Data, [(true, fxW.pv)], .ag, fxW.dat.pv⟩,
   ⟨n_scrimshawref02_Same, [(true, fxW.dat.pv), (true, fxW.dat.pv)], .sc, [.bool true]⟩,
   ⟨n_core_Check, [(true, fxI.pv)], .sc, [.int .i64 60]⟩,
   ⟨n_core_Arity, [(false, [.str [99, 97, 114]])], .sc, [.int .i64 1]⟩]
theorem fxTab_ok {S0 : PH} (hT : Tab S0) : TabOk Tryz.prog S0 fxTab := by
  have key : ∀ c ∈ fxTab, CK.Ok Tryz.prog S0 c := by
    simp only [fxTab, List.forall_mem_cons, List.not_mem_nil, false_imp_iff, implies_true, and_true]
    refine ⟨ck_ref _, ck_ref _, ck_ref _, ck_ref _, ?_, ?_, ?_, ?_, ?_, ?_, ?_⟩
    · refine ck_ag cb_core_Rename fun S cs hS hr => (CRename_tri fxE cs S hr (hT.le hS)).mono ?_
      rintro x S' ⟨cs', rfl, h1, h2⟩
      have h1' : PV.RepRow S' (renameX fxE).pv cs' := h1
      rw [PV.sameRow_eq fx_ren] at h1'
      exact ⟨cs', rfl, h1', h2⟩
    · refine ck_ag cb_core_Data fun S cs hS hr => (CData_tri fxW cs S hr).mono ?_
      rintro x S' ⟨ds, rfl, h1, h2⟩
      rw [if_pos fxW_ok] at h2
      have hl : ds.length = 4 := by have := PV.RepRow.length h2; rwa [Enc.len] at this
      refine ⟨ds ++ [.int .i64 0], ?_, PV.RepRow.append h2 (row1 (rep_int (by decide))), h1⟩
      rw [fxW_ok]
      simp only [Sh.pack, tuPackN]
      rw [← hl, List.take_left', List.drop_left']
      · rfl
      · rfl
      · rfl
    · refine ck_ag cb_core_Free fun S cs hS hr => (CFree_tri fxE cs S hr (by decide +kernel) (by decide +kernel)).mono ?_
      rintro x S' ⟨v, rfl, h1, h2⟩
      rw [fx_free] at h1
      exact ⟨[v], rfl, sl_one h1, h2⟩
    · refine ck_ag cb_scrimshawref06_Data fun S cs hS hr => (RData_tri fxW cs S hr (Xp.chk_ok true _ 0 0 fxW_ok).1 (chk_bounds fxW_ok).1).mono ?_
      rintro x S' ⟨ds, rfl, h1, h2⟩
      exact ⟨ds, rfl, h2, h1⟩
    · refine ck_ag2 cb_scrimshawref02_Same fun S cs cs2 hS hr hr2 => gives_ck (fun S' => by simp only [decide_true]; exact rep_bool S' true) (Same_gives fxW.dat fxW.dat cs cs2 S hr hr2)
    · refine ck_ag cb_core_Check fun S cs hS hr => gives_ck (fun S' => by rw [fxI_no]; exact rep_int (by decide)) (CCheckF_gives fxI cs S hr)
    · refine ck_sc cb_core_Arity fun S v hS hv => ?_
      simp only [PV.Rep] at hv
      obtain ⟨rfl, _⟩ := hv
      exact gives_ck (fun S' => by rw [show arityI [99, 97, 114] = 1 by decide +kernel]; exact rep_int (by decide)) (Arity_gives [99, 97, 114] S)
  exact key
theorem fx_runs : runsTrue Tryz.prog fxTab fm_scrimshawlaw06_fixed = true := by kernel_rfl
theorem CFixed_gives (H : PH) (hT : Tab H) : Gives Tryz.prog n_scrimshawlaw06_fixed [] H (.bool true) := by
  exact gives_run tri_scrimshawlaw06_fixed (by kernel_rfl) (by kernel_rfl) (fxTab_ok hT) fx_runs
end Go.Proofs.YtibinelkmlcmgaaGreatDoor.Vc
/-
  CORE: the document's Rename, and CoreRenames.
-/
namespace Go.Proofs.YtibinelkmlcmgaaGreatDoor.Vc
open Go

def ex0' : Xp := .mk 0 [] [] dat0 []
theorem RRename6_tri (e : Xp) (cs : List Value) (H : PH) (he : e.Rep H cs) : Tri Tryz.prog n_scrimshawref06_Rename #[.agg cs.toArray] H fun x H' => ∃ cs', x = .returned (.agg cs'.toArray) ∧ (renameX e).Rep H' cs' ∧ PH.le H H' := by
  have he' := he
  obtain ⟨nb, db, kb, nc, dc, kc, rfl, hx⟩ := Xp.Rep.open he
  refine tri_scrimshawref06_Rename (exVs e nb db kb nc dc kc) (by kernel_rfl) (by kernel_rfl) ?_
  refine den_gives [.int .i64 (e.chk false 0 0).2] cb_scrimshawref06_Check (RCheckF6_gives e _ H he') rfl pendNil fun H1 l1 => ?_
  refine ⟨fun g => ?_, fun g => ?_⟩
  · simp only [ev0, ev, evV, List.cons_append, List.nil_append, List.getD_cons_zero, List.getD_cons_succ, List.map_cons, List.map_nil, iOf, bOf, sOf, pOf, slLen, slBase, cmpI, arI, Value.ite_bool, int_beq, int_bne, ite_band, ite_bor, decide_eq_true_eq] at g
    refine ⟨[.int .i64 0, txt [], .slice none 0 0, .int .i64 0, .int .i64 0, txt [], .slice none 0 0, .slice none 0 0], rfl, ?_, l1⟩
    unfold renameX
    rw [if_neg fun h => g ((chk_both e).2 h)]
    exact ex0_rep H1
  simp only [ev0, ev, evV, List.cons_append, List.nil_append, List.getD_cons_zero, List.getD_cons_succ, List.map_cons, List.map_nil, iOf, bOf, sOf, pOf, slLen, slBase, cmpI, arI, Value.ite_bool, int_beq, int_bne, ite_band, ite_bor, decide_eq_false_iff_not, ne_eq, Decidable.not_not] at g
  have g' := (chk_both e).1 g
  obtain ⟨hfit, hbn, hal⟩ := chk_bounds g'
  have hrx : renameX e = (e.ren e.all [] 0).1 := by unfold renameX; rw [if_pos g']
  have hmul : e.bnd.length * (e.all.length + 1) ≤ 28672 * 32769 := Nat.mul_le_mul hbn (by omega)
  have hnil : ∀ S', SlR S' (prs []) (.slice none 0 0) := fun S' => SlR.mk_iff.2 ⟨Nat.zero_le _, .inl ⟨rfl, rfl⟩⟩
  have cN : ∀ {S K : PH} {I : List Itm}, Held S K I → PH.le H S → Tri Tryz.prog n_scrimshawref06_Names #[.agg (exVs e nb db kb nc dc kc).toArray, .slice none 0 0] K fun x K' => ∃ S' v', PH.le S S' ∧ Held S' K' I ∧ x = .returned v' ∧ SlR S' e.all v' := by
    intro S K I h hl
    refine (Held.call (J := [orow 9 ([] : List (List UInt8)) (.slice none 0 0)]) (h.empty _) fun K' hK => Names6_tri e _ S K' [] _ hK (Xp.Rep.le hl e he') (by simp only [List.length_nil]; omega)).mono ?_
    rintro x K' ⟨S', J', l', h', v', rfl, rfl⟩
    rw [List.nil_append] at h'
    obtain ⟨S2, s2, l2, h2⟩ := h'.freeze
    exact ⟨S2, v', PH.le_trans l' l2, h2, rfl, s2⟩
  have cR : ∀ {S K : PH} {I : List Itm} {v : Value}, Held S K I → PH.le H S → SlR S e.all v → Tri Tryz.prog n_scrimshawref06_rename #[.agg (exVs e nb db kb nc dc kc).toArray, .slice none 0 0, v, .int .i64 0] K fun x K' => ∃ S', PH.le S S' ∧ Held S' K' I ∧ ∃ cs', x = .returned (.tuple #[.agg cs'.toArray, .int .i64 ((e.ren e.all [] 0).2 : Int)]) ∧ (renameX e).Rep S' cs' := by
    intro S K I v h hl hv
    refine h.pure ((rename6_tri e.all e [] 0 _ S v _ (Xp.Rep.le hl e he') hv (hnil S) (fun x hx => by cases hx) hfit (by simp only [List.length_nil]; omega) (by omega)).mono ?_)
    rintro x S' ⟨cs', q1, q2, q3⟩
    rw [← hrx] at q3
    exact ⟨q2, cs', q1, q3⟩
  refine ⟨fun vs H' => ∃ (r : Nat) (S' : PH) (cs' : List Value), vs = [pAt r] ∧ PH.le H S' ∧ Held S' H' [bx r 28 cs'] ∧ (renameX e).Rep S' cs', ?_, ?_⟩
  · rintro vs H2 _ ⟨r, S2, cs2, rfl, l2, h2, r2⟩
    have ht := Xp.Rep.tags r2
    have r2' := r2
    obtain ⟨p1, p2, p3, p4, p5, p6, rfl, _⟩ := Xp.Rep.open r2'
    refine den_bxLoad (exVs (renameX e) p1 p2 p3 p4 p5 p6) (off := 0) (by kernel_rfl) h2 (List.mem_singleton.2 rfl) rfl ht ?_
    exact ⟨exVs (renameX e) p1 p2 p3 p4 p5 p6, rfl, Xp.Rep.le h2.sh _ r2, PH.le_trans l2 h2.sh⟩
  have h1 : Held H H1 [] := Held.nil l1
  refine ⟨?_, ?_⟩
  · refine den_call cb_scrimshawref06_Names (cN h1 (PH.le_refl H)) ?_
    rintro x H2 ⟨S2, v2, l2, h2, rfl, s2⟩
    obtain ⟨b2, c2, rfl⟩ := s2.sl
    refine ⟨_, [.slice b2 e.all.length c2], rfl, rfl, rfl, pendNil, ?_, ?_⟩
    · refine den_call cb_scrimshawref06_rename (cR h2 l2 s2) ?_
      rintro x H3 ⟨S3, l3, h3, cs3, rfl, r3⟩
      have r3' := r3
      obtain ⟨p1, p2, p3, p4, p5, p6, rfl, _⟩ := Xp.Rep.open r3'
      refine ⟨_, exVs (renameX e) p1 p2 p3 p4 p5 p6 ++ [.int .i64 ((e.ren e.all [] 0).2 : Int)], rfl, rfl, rfl, pendNil, ?_⟩
      refine den_bxNew (vs := exVs ex0' none none none 0 0 0) h3 rfl fun r H4 l4 h4 => ?_
      refine den_bxStore (off := 0) (vs := exVs (renameX e) p1 p2 p3 p4 p5 p6) (by kernel_rfl) h4 (by kernel_rfl) (by simp [oneC]) (by simp) fun H5 h5 => ?_
      exact ⟨_, lookup_hit, r, S3, _, by kernel_rfl, PH.le_trans l2 l3, h5, r3⟩
    · refine den_bxNew (vs := exVs ex0' none none none 0 0 0) h2 rfl fun r H3 l3 h3 => ?_
      refine den_call cb_scrimshawref06_rename (cR h3 l2 s2) ?_
      rintro x H4 ⟨S4, l4, h4, cs4, rfl, r4⟩
      have r4' := r4
      obtain ⟨p1, p2, p3, p4, p5, p6, rfl, _⟩ := Xp.Rep.open r4'
      refine ⟨_, exVs (renameX e) p1 p2 p3 p4 p5 p6 ++ [.int .i64 ((e.ren e.all [] 0).2 : Int)], rfl, rfl, rfl, pendNil, ?_⟩
      refine den_bxStore (off := 0) (vs := exVs (renameX e) p1 p2 p3 p4 p5 p6) (by kernel_rfl) h4 (by kernel_rfl) (by simp [oneC]) (by simp) fun H5 h5 => ?_
      exact ⟨_, lookup_hit, r, S4, _, by kernel_rfl, PH.le_trans l2 l4, h5, r4⟩
  · refine den_bxNew (vs := exVs ex0' none none none 0 0 0) h1 rfl fun r H2 l2 h2 => ?_
    refine den_call cb_scrimshawref06_Names (cN h2 (PH.le_refl H)) ?_
    rintro x H3 ⟨S3, v3, l3, h3, rfl, s3⟩
    obtain ⟨b3, c3, rfl⟩ := s3.sl
    refine ⟨_, [.slice b3 e.all.length c3], rfl, rfl, rfl, pendNil, ?_⟩
    refine den_call cb_scrimshawref06_rename (cR h3 l3 s3) ?_
    rintro x H4 ⟨S4, l4, h4, cs4, rfl, r4⟩
    have r4' := r4
    obtain ⟨p1, p2, p3, p4, p5, p6, rfl, _⟩ := Xp.Rep.open r4'
    refine ⟨_, exVs (renameX e) p1 p2 p3 p4 p5 p6 ++ [.int .i64 ((e.ren e.all [] 0).2 : Int)], rfl, rfl, rfl, pendNil, ?_⟩
    refine den_bxStore (off := 0) (vs := exVs (renameX e) p1 p2 p3 p4 p5 p6) (by kernel_rfl) h4 (by kernel_rfl) (by simp [oneC]) (by simp) fun H5 h5 => ?_
    exact ⟨_, lookup_hit, r, S4, _, by kernel_rfl, PH.le_trans l3 l4, h5, r4⟩
theorem CoreRenames_law (e : Xp) (cs : List Value) (H : PH) (he : e.Rep H cs) (hT : Tab H) : Gives Tryz.prog n_scrimshawlaw06_CoreRenames [.agg cs.toArray] H (.bool true) := by
  have he' := he
  obtain ⟨nb, db, kb, nc, dc, kc, rfl, hx⟩ := Xp.Rep.open he
  refine tri_scrimshawlaw06_CoreRenames (exVs e nb db kb nc dc kc) (by kernel_rfl) (by kernel_rfl) ?_
  refine ⟨fun vs H' => vs = [.bool true] ∧ PH.le H H', ?_, ?_⟩
  · rintro vs H1 _ ⟨rfl, l1⟩; exact ⟨rfl, l1⟩
  refine den_gives [.bool true] cb_scrimshawlaw06_fixed (CFixed_gives H hT) rfl pendNil fun H1 l1 => ⟨fun _ => ?_, fun g => absurd g (by simp [ev0, ev, evV, List.cons_append, List.nil_append, List.getD_cons_zero, List.getD_cons_succ, List.map_cons, List.map_nil, iOf, bOf, sOf, pOf, slLen, slBase, cmpI, arI, Value.ite_bool])⟩
  refine den_call cb_core_Rename (CRename_tri e _ H1 (Xp.Rep.le l1 e he') (hT.le l1)) ?_
  rintro x H2 ⟨cs2, rfl, r2, l2⟩
  have r2' := r2
  obtain ⟨p1, p2, p3, p4, p5, p6, rfl, _⟩ := Xp.Rep.open r2'
  refine ⟨_, exVs (renameX e) p1 p2 p3 p4 p5 p6, rfl, rfl, rfl, pendNil, ?_⟩
  refine den_call cb_scrimshawref06_Rename (RRename6_tri e _ H2 (Xp.Rep.le (PH.le_trans l1 l2) e he')) ?_
  rintro x H3 ⟨cs3, rfl, r3, l3⟩
  have r3' := r3
  obtain ⟨q1, q2, q3, q4, q5, q6, rfl, _⟩ := Xp.Rep.open r3'
  refine ⟨_, exVs (renameX e) q1 q2 q3 q4 q5 q6, rfl, rfl, rfl, pendNil, ?_⟩
  refine den_gives [.bool (decide (renameX e = renameX e))] cb_scrimshawref06_Same (XSame_gives _ _ _ _ H3 (Xp.Rep.le l3 _ r2) r3) rfl pendNil fun H4 l4 => ⟨_, lookup_hit, ?_, PH.le_trans l1 (PH.le_trans l2 (PH.le_trans l3 l4))⟩
  simp [ev0, ev, evV, List.cons_append, List.nil_append, List.getD_cons_zero, List.getD_cons_succ, List.map_cons, List.map_nil, iOf, bOf, sOf, pOf, slLen, slBase, cmpI, arI, Value.ite_bool, int_beq, int_bne, ite_band, ite_bor]
end Go.Proofs.YtibinelkmlcmgaaGreatDoor.Vc
