/-
  DATA: the writer: a datum; Text and Show.
-/
import Derived.Test.YtlnmmakbgldflaaGreatDoorDm
set_option linter.unusedSimpArgs false
set_option linter.unusedVariables false
set_option maxRecDepth 100000
namespace Go.Proofs.YtlnmmakbgldflaaGreatDoor.Vc
open Go

/-- a datum that is within one that may be -/
def Dat.Good (d : Dat) : Prop := ∃ deep seen, seen ≤ 4096 ∧ (d.chk deep seen).2 = 0
theorem Dats.good : ∀ (l : List Dat) (deep seen : Nat), seen ≤ 4096 → (Dats.chk l deep seen).2 = 0 → ∀ e ∈ l, e.Good
  | [], _, _, _, _, e, he => by cases he
  | d :: l, deep, seen, hs, h, e, he => by
    simp only [Dats.chk] at h
    split at h
    · rename_i hx; exact absurd h hx
    rename_i hx
    have hx : (d.chk deep seen).2 = 0 := by simpa using hx
    rcases List.mem_cons.1 he with rfl | he
    · exact ⟨deep, seen, hs, hx⟩
    · exact Dats.good l deep _ (Dat.chk_le d deep seen hs) h e he
theorem Dat.Good.form {d : Dat} (h : d.Good) : formOk d = true := by
  obtain ⟨deep, seen, hs, h⟩ := h
  rw [Dat.chk_eq] at h
  split at h
  · simp at h
  split at h
  · simp at h
  split at h
  · simp at h
  · rename_i hx; simpa using hx
theorem Dat.Good.kids {d : Dat} (h : d.Good) : ∀ e ∈ d.list, e.Good := by
  obtain ⟨deep, seen, hs, h⟩ := h
  rw [Dat.chk_eq] at h
  split at h
  · simp at h
  split at h
  · simp at h
  split at h
  · simp at h
  · exact Dats.good d.list _ _ (by omega) h
theorem Dat.Good.len {d : Dat} (h : d.Good) (bare : Bool) : (d.txtL bare).length ≤ 67600000 := by
  obtain ⟨deep, seen, hs, h⟩ := h
  have h1 := Dat.chk_len bare d deep seen hs h
  have h2 := Dat.chk_le d deep seen hs
  omega
theorem emptyTail (l : List Dat) (k : Nat) (hk : k < l.length) : (l.drop (k + 1)).isEmpty = decide (k = l.length - 1) := by
  by_cases hx : k = l.length - 1
  · rw [List.drop_eq_nil_of_le (by omega)]; simp [hx]
  · rw [decide_eq_false hx]
    cases hy : l.drop (k + 1) with
    | nil => rw [List.drop_eq_nil_iff] at hy; omega
    | cons a l => rfl
theorem form_bool {d : Dat} (h : formOk d = true) (h0 : d.kind = 0) : d.int = 0 ∨ d.int = 1 := by
  obtain ⟨k, n, t, l⟩ := d
  simp only [Dat.kind] at h0
  subst h0
  simp only [formOk, Dat.kind, Dat.int, Dat.text, Dat.list] at h ⊢
  simp at h
  exact h.2.imp of_decide_eq_true of_decide_eq_true
theorem form_dotted {d : Dat} (h : formOk d = true) (h6 : d.kind = 6) : 2 ≤ d.list.length := by
  obtain ⟨k, n, t, l⟩ := d
  simp only [Dat.kind] at h6
  subst h6
  simp only [formOk, Dat.kind, Dat.int, Dat.text, Dat.list] at h ⊢
  simp at h
  exact of_decide_eq_true h.1.2

/-- what the writer does of a datum -/
def WDat (d : Dat) : Prop := ∀ (bare : Bool) (cs : List Value) (H0 H : PH) (w : Nat) (T : TypeId) (out : List UInt8), d.Rep H0 cs → Tab H0 → WS H0 H w T out bare → d.Good → (out ++ d.txtL bare).length ≤ 1099511627000 →
    Tri Tryz.prog n_data_writer__datum #[.pointer (some ⟨w, 0, none⟩), .agg cs.toArray] H fun e H' => e = .returned (.tuple #[]) ∧ WS H0 H' w T (out ++ d.txtL bare) bare
theorem WS.le {H0 H : PH} {w : Nat} {T : TypeId} {out : List UInt8} {bare : Bool} (h : WS H0 H w T out bare) : PH.le H0 H := by
  obtain ⟨bv, h⟩ := h; exact h.acc.all

theorem witems_tri (d : Dat) (ih : ∀ e ∈ d.list, WDat e) (bare : Bool) (cs : List Value) (H0 H : PH) (w : Nat) (T : TypeId) (out : List UInt8) (hd : d.Rep H0 cs) (ht : Tab H0) (h : WS H0 H w T out bare) (hg : d.Good)
    (hl : (out ++ [40] ++ Dats.txtL bare (decide (d.kind = 6)) true d.list ++ [41]).length ≤ 1099511627000) :
    Tri Tryz.prog n_data_writer__items #[.pointer (some ⟨w, 0, none⟩), .agg cs.toArray] H fun e H' => e = .returned (.tuple #[]) ∧ WS H0 H' w T (out ++ [40] ++ Dats.txtL bare (decide (d.kind = 6)) true d.list ++ [41]) bare := by
  obtain ⟨sv, rfl, hk, hn, htx, hs⟩ := Dat.Rep_iff.1 hd
  obtain ⟨b, c, rfl⟩ := hs.sl
  have hll : d.list.length ≤ maxLen := hs.max
  simp only [maxLen] at hll
  refine tri_data_writer__items [.pointer (some ⟨w, 0, none⟩), .int .i64 d.kind, .int .i64 d.int, txt d.text, .slice b d.list.length c] (by kernel_rfl) (by kernel_rfl) ?_
  have hdot := form_dotted hg.form
  generalize hall : out ++ [40] ++ Dats.txtL bare (decide (d.kind = 6)) true d.list ++ [41] = all at hl ⊢
  have hal := congrArg List.length hall
  simp only [List.length_append, List.length_cons, List.length_nil] at hal
  refine ⟨fun _ => rfl, den_wload rfl h fun bv hv => den_wpush [40] rfl hv rfl (by decide) (by decide) rfl pendNil (fun _ => rfl) (fun _ => rfl) (fun _ _ => rfl) (by simp only [List.length_append, List.length_cons, List.length_nil]; omega) fun u v' H1 h1 => ?_⟩
  refine ⟨fun n vs H' => ∃ (k : Nat) (o : List UInt8), vs = [.int .i64 k] ∧ k + n = d.list.length ∧ o ++ Dats.txtL bare (decide (d.kind = 6)) (decide (k = 0)) (d.list.drop k) ++ [41] = all ∧ WS H0 H' w T o bare, ⟨d.list.length, 0, out ++ [40], rfl, by omega, by simpa using hall, h1⟩, ?_⟩
  rintro n vs H' _ ⟨k, o, rfl, hkn, ho, hw⟩
  have hol := congrArg List.length ho
  simp only [List.length_append, List.length_cons, List.length_nil] at hol
  refine ⟨fun h5 => ?_, fun h5 => ?_⟩
  · simp only [ev0, ev, evV, List.cons_append, List.nil_append, List.getD_cons_zero, List.getD_cons_succ, List.map_cons, List.map_nil, iOf, bOf, sOf, pOf, slLen, slBase, cmpI, arI, Value.ite_bool, int_beq, int_bne, ite_band, ite_bor, decide_eq_true_eq] at h5
    have hkl : k < d.list.length := by omega
    obtain ⟨e, he⟩ : ∃ e, d.list[k]? = some e := ⟨_, List.getElem?_eq_getElem hkl⟩
    obtain ⟨g1, ces, g2, g3, _, _⟩ := hs.get he
    have hrest : Dats.txtL bare (decide (d.kind = 6)) (decide (k = 0)) (d.list.drop k) = (if decide (k = 0) = true then [] else [32]) ++ (if (decide (d.kind = 6) && decide (k = d.list.length - 1)) = true then [46, 32] else []) ++ e.txtL bare ++ Dats.txtL bare (decide (d.kind = 6)) false (d.list.drop (k + 1)) := by
      rw [drop_get he, ← emptyTail _ _ hkl]; simp only [Dats.txtL]
    rw [hrest] at ho hol
    simp only [List.length_append] at hol
    have htags := g2.tags
    have hcall := ih e (List.mem_of_getElem? he) bare ces H0
    have heg := hg.kids e (List.mem_of_getElem? he)
    obtain ⟨sve, hces, _⟩ := Dat.Rep_iff.1 g2
    refine ⟨fun _ => ?_, ces, by rw [hces] at htags ⊢; exact htags, ?_, ?_⟩
    · simp only [Chk.holds, ev0, ev, evV, List.cons_append, List.nil_append, List.getD_cons_zero, List.getD_cons_succ, List.map_cons, List.map_nil, iOf, bOf, sOf, pOf, slLen, slBase, cmpI, arI, Value.ite_bool, int_beq, int_bne, ite_band, ite_bor]; exact ⟨g1, by omega, by omega⟩
    · simp only [ev0, ev, evV, List.cons_append, List.nil_append, List.getD_cons_zero, List.getD_cons_succ, List.map_cons, List.map_nil, iOf, bOf, sOf, pOf, slLen, slBase, cmpI, arI, Value.ite_bool, int_beq, int_bne, ite_band, ite_bor]; exact rowAt_le hw.le g3
    subst hces
    have hcond : ∀ E : List Value, E.getD 1 (Value.bool false) = .int .i64 d.kind → E.getD 4 (Value.bool false) = .slice b d.list.length c → E.getD 8 (Value.bool false) = .int .i64 k →
        bOf (ev0 E (.pick (.cmp .eql (.atom 1) (.int .i64 6)) (.cmp .eql (.atom 8) (.ar .sub .i64 (.len (.atom 4)) (.int .i64 1))) (.bool false))) = (decide (d.kind = 6) && decide (k = d.list.length - 1)) := by
      intro E e1 e2 e3
      simp only [ev0, ev, evV, List.cons_append, List.nil_append, List.getD_cons_zero, List.getD_cons_succ, List.map_cons, List.map_nil, iOf, bOf, sOf, pOf, slLen, slBase, cmpI, arI, Value.ite_bool, int_beq, int_bne, ite_band, ite_bor, e1, e2, e3]
      rw [w64 (by omega) (by omega)]
      congr 1
      simp only [decide_eq_decide]; omega
    generalize ht1 : (if decide (k = 0) = true then [] else [32] : List UInt8) = t1 at ho hol
    generalize ht2 : (if (decide (d.kind = 6) && decide (k = d.list.length - 1)) = true then [46, 32] else [] : List UInt8) = t2 at ho hol
    refine ⟨fun vs H2 => vs = [] ∧ WS H0 H2 w T (o ++ t1 ++ t2) bare, ?_, ?_⟩
    · rintro vs H3 _ ⟨rfl, hw3⟩
      refine den_call cb_data_writer__datum (hcall H3 w T (o ++ t1 ++ t2) g2 ht hw3 heg (by simp only [List.length_append]; omega)) ?_
      rintro e' H4 ⟨rfl, hw4⟩
      refine ⟨_, [], rfl, rfl, rfl, pendNil, _, lookup_hit, n - 1, by omega, k + 1, _, ?_, by omega, ?_, hw4⟩
      · simp only [ev0, ev, evV, List.cons_append, List.nil_append, List.getD_cons_zero, List.getD_cons_succ, List.map_cons, List.map_nil, iOf, bOf, sOf, pOf, slLen, slBase, cmpI, arI, Value.ite_bool, int_beq, int_bne, ite_band, ite_bor]
        rw [w64 (by omega) (by omega)]
        rfl
      · rw [← ho]; simp
    · refine ⟨fun hc => ?_, fun hc => ?_⟩
      · simp only [ev0, ev, evV, List.cons_append, List.nil_append, List.getD_cons_zero, List.getD_cons_succ, List.map_cons, List.map_nil, iOf, bOf, sOf, pOf, slLen, slBase, cmpI, arI, Value.ite_bool, int_beq, int_bne, ite_band, ite_bor, decide_eq_true_eq] at hc
        rw [if_neg (by simp; omega)] at ht1
        subst ht1
        simp only [List.length_cons, List.length_nil] at hol
        refine den_wload rfl hw fun bv2 hv2 => den_wpush [32] rfl hv2 rfl (by decide) (by decide) rfl pendNil (fun _ => rfl) (fun _ => rfl) (fun _ _ => rfl) (by simp only [List.length_append, List.length_cons, List.length_nil]; omega) fun u v' H3 h3 => ⟨fun hc2 => ?_, fun hc2 => ?_⟩
        · have hc2 := (hcond _ rfl rfl rfl).symm.trans hc2
          rw [if_pos hc2] at ht2
          subst ht2
          simp only [List.length_cons, List.length_nil] at hol
          exact den_wload rfl h3 fun bv2 hv2 => den_wpush [46, 32] rfl hv2 rfl (by decide) (by decide) rfl pendNil (fun _ => rfl) (fun _ => rfl) (fun _ _ => rfl) (by simp only [List.length_append, List.length_cons, List.length_nil]; omega) fun u v' H4 h4 => ⟨_, lookup_hit, rfl, h4⟩
        · have hc2 := (hcond _ rfl rfl rfl).symm.trans hc2
          rw [if_neg (by rw [hc2]; simp)] at ht2
          subst ht2
          exact ⟨_, lookup_hit, rfl, by simpa using h3⟩
      · simp only [ev0, ev, evV, List.cons_append, List.nil_append, List.getD_cons_zero, List.getD_cons_succ, List.map_cons, List.map_nil, iOf, bOf, sOf, pOf, slLen, slBase, cmpI, arI, Value.ite_bool, int_beq, int_bne, ite_band, ite_bor, decide_eq_false_iff_not] at hc
        have hk0 : k = 0 := by omega
        rw [if_pos (by simpa using hk0)] at ht1
        subst ht1
        have : t2 = [] := by
          rw [← ht2]
          by_cases h6 : d.kind = 6
          · have := hdot h6
            rw [if_neg]; simp; intros; omega
          · rw [if_neg]; simp [h6]
        subst this
        exact ⟨_, lookup_hit, rfl, by simpa using hw⟩
  · simp only [ev0, ev, evV, List.cons_append, List.nil_append, List.getD_cons_zero, List.getD_cons_succ, List.map_cons, List.map_nil, iOf, bOf, sOf, pOf, slLen, slBase, cmpI, arI, Value.ite_bool, int_beq, int_bne, ite_band, ite_bor, decide_eq_false_iff_not] at h5
    have : k = d.list.length := by omega
    subst this
    rw [List.drop_length] at ho
    simp only [Dats.txtL, List.append_nil] at ho
    refine den_wload rfl hw fun bv2 hv2 => den_wpush [41] rfl hv2 rfl (by decide) (by decide) rfl pendNil (fun _ => rfl) (fun _ => rfl) (fun _ _ => rfl) (by rw [ho]; omega) fun u v' H' h1 => ⟨rfl, by rw [← ho]; exact h1⟩

theorem wdatum_tri : ∀ d, WDat d := by
  refine Dat.ind ?_
  intro d ih bare cs H0 H w T out hd ht h hg hl
  have hd' := hd
  obtain ⟨sv, rfl, hk, hn, htx, hs⟩ := Dat.Rep_iff.1 hd
  obtain ⟨b, c, rfl⟩ := hs.sl
  have hitems := witems_tri d ih bare [.int .i64 d.kind, .int .i64 d.int, txt d.text, .slice b d.list.length c] H0
  rw [Dat.txtL_eq] at hl ⊢
  refine tri_data_writer__datum [.pointer (some ⟨w, 0, none⟩), .int .i64 d.kind, .int .i64 d.int, txt d.text, .slice b d.list.length c] (by kernel_rfl) (by kernel_rfl) ?_
  refine ⟨fun h0 => ?_, fun h0 => ?_⟩
  · simp only [ev0, ev, evV, List.cons_append, List.nil_append, List.getD_cons_zero, List.getD_cons_succ, List.map_cons, List.map_nil, iOf, bOf, sOf, pOf, slLen, slBase, cmpI, arI, Value.ite_bool, int_beq, int_bne, ite_band, ite_bor, decide_eq_true_eq] at h0
    rw [if_pos h0] at hl ⊢
    have hb := form_bool hg.form h0
    have hchk : ∀ E : List Value, E.getD 2 (Value.bool false) = .int .i64 d.int → Chk.holds E (.inStr (.str [102, 116]) (.atom 2)) := by
      intro E e2
      simp only [Chk.holds, ev0, ev, evV, List.cons_append, List.nil_append, List.getD_cons_zero, List.getD_cons_succ, List.map_cons, List.map_nil, iOf, bOf, sOf, pOf, slLen, slBase, cmpI, arI, Value.ite_bool, int_beq, int_bne, ite_band, ite_bor, e2]
      rcases hb with hb | hb <;> rw [hb] <;> decide
    have hps : ∀ E : List Value, E.getD 2 (Value.bool false) = .int .i64 d.int → ev E (fun _ => 0) (.sidx (.str [102, 116]) (.atom 2)) = encB (if d.int = 0 then 102 else 116) := by
      intro E e2
      simp only [ev0, ev, evV, List.cons_append, List.nil_append, List.getD_cons_zero, List.getD_cons_succ, List.map_cons, List.map_nil, iOf, bOf, sOf, pOf, slLen, slBase, cmpI, arI, Value.ite_bool, int_beq, int_bne, ite_band, ite_bor, e2]
      rcases hb with hb | hb <;> rw [hb] <;> rfl
    have e : (if d.int = 0 then [35, 102] else [35, 116] : List UInt8) = [35, if d.int = 0 then 102 else 116] := by split <;> rfl
    rw [e] at hl ⊢
    refine ⟨fun _ => rfl, den_wload rfl h fun bv hv => ⟨fun _ => hchk _ rfl, den_wpush [35, if d.int = 0 then 102 else 116] rfl hv rfl (by decide) (by decide) ?_ ?_ (fun _ => rfl) (fun _ => rfl) (fun _ _ => rfl) (by omega) fun u v' H' h1 => ⟨rfl, h1⟩⟩⟩
    · have := hps ([.pointer (some ⟨w, 0, none⟩), .int .i64 d.kind, .int .i64 d.int, txt d.text, .slice b d.list.length c] ++ [bv]) rfl
      simp only [argEv, List.lookup, List.map_cons, List.map_nil, idxs, show ((18 : Nat) == 18) = true from rfl, evV]
      rw [this]; rfl
    · intro x hx
      simp only [List.mem_singleton] at hx
      subst hx
      exact hv.row
  simp only [ev0, ev, evV, List.cons_append, List.nil_append, List.getD_cons_zero, List.getD_cons_succ, List.map_cons, List.map_nil, iOf, bOf, sOf, pOf, slLen, slBase, cmpI, arI, Value.ite_bool, int_beq, int_bne, ite_band, ite_bor, decide_eq_false_iff_not] at h0
  rw [if_neg h0] at hl ⊢
  refine ⟨fun h1 => ?_, fun h1 => ?_⟩
  · simp only [ev0, ev, evV, List.cons_append, List.nil_append, List.getD_cons_zero, List.getD_cons_succ, List.map_cons, List.map_nil, iOf, bOf, sOf, pOf, slLen, slBase, cmpI, arI, Value.ite_bool, int_beq, int_bne, ite_band, ite_bor, decide_eq_true_eq] at h1
    rw [if_pos h1] at hl ⊢
    refine ⟨fun _ => rfl, den_wload rfl h fun bv hv => den_call cb_strconv_AppendInt (AppendIntF_tri H0 H d.int hn out bv (ht.le h.le) ht hv.acc (by simp only [List.length_append] at hl; omega)) ?_⟩
    rintro e' H1 ⟨v', rfl, g1, g2⟩
    obtain ⟨b1, c1, hv1⟩ := g1.sl
    exact ⟨_, [v'], rfl, by rw [hv1]; rfl, rfl, pendNil, den_wstore (v' := v') rfl rfl hv g1 g2 fun H'' h1 _ => ⟨rfl, h1⟩⟩
  simp only [ev0, ev, evV, List.cons_append, List.nil_append, List.getD_cons_zero, List.getD_cons_succ, List.map_cons, List.map_nil, iOf, bOf, sOf, pOf, slLen, slBase, cmpI, arI, Value.ite_bool, int_beq, int_bne, ite_band, ite_bor, decide_eq_false_iff_not] at h1
  rw [if_neg h1] at hl ⊢
  refine ⟨fun h2 => ?_, fun h2 => ?_⟩
  · simp only [ev0, ev, evV, List.cons_append, List.nil_append, List.getD_cons_zero, List.getD_cons_succ, List.map_cons, List.map_nil, iOf, bOf, sOf, pOf, slLen, slBase, cmpI, arI, Value.ite_bool, int_beq, int_bne, ite_band, ite_bor, decide_eq_true_eq] at h2
    rw [if_pos h2] at hl ⊢
    refine den_call cb_data_writer__char ?_ ?_ (R := fun e H' => e = .returned (.tuple #[]) ∧ WS H0 H' w T (out ++ if bare then [byteOf d.int] else charL (byteOf d.int)) bare)
    · simp only [List.map_cons, List.map_nil, evV, ev, List.getD_cons_succ, List.getD_cons_zero, iOf, u8conv]
      exact wchar_tri (byteOf d.int) H0 H w T out bare h (by omega)
    · rintro e' H1 ⟨rfl, g1⟩
      exact ⟨_, [], rfl, rfl, rfl, pendNil, rfl, g1⟩
  simp only [ev0, ev, evV, List.cons_append, List.nil_append, List.getD_cons_zero, List.getD_cons_succ, List.map_cons, List.map_nil, iOf, bOf, sOf, pOf, slLen, slBase, cmpI, arI, Value.ite_bool, int_beq, int_bne, ite_band, ite_bor, decide_eq_false_iff_not] at h2
  rw [if_neg h2] at hl ⊢
  refine ⟨fun h3 => ?_, fun h3 => ?_⟩
  · simp only [ev0, ev, evV, List.cons_append, List.nil_append, List.getD_cons_zero, List.getD_cons_succ, List.map_cons, List.map_nil, iOf, bOf, sOf, pOf, slLen, slBase, cmpI, arI, Value.ite_bool, int_beq, int_bne, ite_band, ite_bor, decide_eq_true_eq] at h3
    rw [if_pos h3] at hl ⊢
    refine den_call cb_data_writer__text (wtext_tri d.text H0 H w T out bare h (by omega)) ?_
    rintro e' H1 ⟨rfl, g1⟩
    exact ⟨_, [], rfl, rfl, rfl, pendNil, rfl, g1⟩
  simp only [ev0, ev, evV, List.cons_append, List.nil_append, List.getD_cons_zero, List.getD_cons_succ, List.map_cons, List.map_nil, iOf, bOf, sOf, pOf, slLen, slBase, cmpI, arI, Value.ite_bool, int_beq, int_bne, ite_band, ite_bor, decide_eq_false_iff_not] at h3
  rw [if_neg h3] at hl ⊢
  refine ⟨fun h4 => ?_, fun h4 => ?_⟩
  · simp only [ev0, ev, evV, List.cons_append, List.nil_append, List.getD_cons_zero, List.getD_cons_succ, List.map_cons, List.map_nil, iOf, bOf, sOf, pOf, slLen, slBase, cmpI, arI, Value.ite_bool, int_beq, int_bne, ite_band, ite_bor, decide_eq_true_eq] at h4
    rw [if_pos h4] at hl ⊢
    exact ⟨fun _ => rfl, den_wload rfl h fun bv hv => den_wtext d.text rfl hv rfl rfl (fun _ => rfl) (by omega) fun v' H' h1 => ⟨rfl, h1⟩⟩
  simp only [ev0, ev, evV, List.cons_append, List.nil_append, List.getD_cons_zero, List.getD_cons_succ, List.map_cons, List.map_nil, iOf, bOf, sOf, pOf, slLen, slBase, cmpI, arI, Value.ite_bool, int_beq, int_bne, ite_band, ite_bor, decide_eq_false_iff_not] at h4
  rw [if_neg h4] at hl ⊢
  refine ⟨fun h5 => ?_, fun h5 => ?_⟩
  · simp only [ev0, ev, evV, List.cons_append, List.nil_append, List.getD_cons_zero, List.getD_cons_succ, List.map_cons, List.map_nil, iOf, bOf, sOf, pOf, slLen, slBase, cmpI, arI, Value.ite_bool, int_beq, int_bne, ite_band, ite_bor, decide_eq_true_eq] at h5
    rw [if_pos h5] at hl ⊢
    have e : out ++ ([35, 40] ++ Dats.txtL bare (decide (d.kind = 6)) true d.list ++ [41]) = out ++ [35] ++ [40] ++ Dats.txtL bare (decide (d.kind = 6)) true d.list ++ [41] := by simp
    rw [e] at hl ⊢
    refine ⟨fun _ => rfl, den_wload rfl h fun bv hv => den_wpush [35] rfl hv rfl (by decide) (by decide) rfl pendNil (fun _ => rfl) (fun _ => rfl) (fun _ _ => rfl) (by simp only [List.length_append] at hl ⊢; omega) fun u v' H1 h1 => ?_⟩
    refine den_call cb_data_writer__items (hitems H1 w T (out ++ [35]) hd' ht h1 hg hl) ?_
    rintro e' H2 ⟨rfl, g1⟩
    exact ⟨_, [], rfl, rfl, rfl, pendNil, rfl, g1⟩
  · simp only [ev0, ev, evV, List.cons_append, List.nil_append, List.getD_cons_zero, List.getD_cons_succ, List.map_cons, List.map_nil, iOf, bOf, sOf, pOf, slLen, slBase, cmpI, arI, Value.ite_bool, int_beq, int_bne, ite_band, ite_bor, decide_eq_false_iff_not] at h5
    rw [if_neg h5] at hl ⊢
    have e : out ++ ([40] ++ Dats.txtL bare (decide (d.kind = 6)) true d.list ++ [41]) = out ++ [40] ++ Dats.txtL bare (decide (d.kind = 6)) true d.list ++ [41] := by simp
    rw [e] at hl ⊢
    refine den_call cb_data_writer__items (hitems H w T out hd' ht h hg hl) ?_
    rintro e' H2 ⟨rfl, g1⟩
    exact ⟨_, [], rfl, rfl, rfl, pendNil, rfl, g1⟩

/-- a datum's text, if it may be -/
def Dat.textL (d : Dat) (bare : Bool) : List UInt8 := if (d.chk 0 0).2 = 0 then d.txtL bare else []
theorem written_gives (d : Dat) (bare : Bool) (cs : List Value) (H : PH) (hd : d.Rep H cs) (ht : Tab H) : Gives Tryz.prog n_data_written [.agg cs.toArray, .bool bare] H (.tuple #[txt (d.textL bare), .int .i64 (d.chk 0 0).2]) := by
  have hc := DCheckF_gives d cs H hd
  have hd' := hd
  obtain ⟨sv, rfl, hk, hn, htx, hs⟩ := Dat.Rep_iff.1 hd
  obtain ⟨b, c, rfl⟩ := hs.sl
  refine tri_data_written [.int .i64 d.kind, .int .i64 d.int, txt d.text, .slice b d.list.length c, .bool bare] (by kernel_rfl) (by kernel_rfl) ?_
  refine den_gives [.int .i64 (d.chk 0 0).2] cb_data_Check hc rfl pendNil fun H1 h1 => ⟨fun h2 => ?_, fun h2 => ?_⟩
  · simp only [ev0, ev, evV, List.cons_append, List.nil_append, List.getD_cons_zero, List.getD_cons_succ, List.map_cons, List.map_nil, iOf, bOf, sOf, pOf, slLen, slBase, cmpI, arI, Value.ite_bool, int_beq, int_bne, ite_band, ite_bor, decide_eq_true_eq] at h2
    refine ⟨?_, h1⟩
    rw [Dat.textL, if_neg h2, evV_tu2]
    simp only [ev0, ev, evV, List.cons_append, List.nil_append, List.getD_cons_zero, List.getD_cons_succ, List.map_cons, List.map_nil, iOf, bOf, sOf, pOf, slLen, slBase, cmpI, arI, Value.ite_bool, int_beq, int_bne, ite_band, ite_bor]
  · simp only [ev0, ev, evV, List.cons_append, List.nil_append, List.getD_cons_zero, List.getD_cons_succ, List.map_cons, List.map_nil, iOf, bOf, sOf, pOf, slLen, slBase, cmpI, arI, Value.ite_bool, int_beq, int_bne, ite_band, ite_bor, decide_eq_false_iff_not, ne_eq, Decidable.not_not] at h2
    rw [Dat.textL, if_pos h2, h2]
    intro r hr
    have hg : d.Good := ⟨0, 0, by omega, h2⟩
    have hle := PH.le_upd (o := .cells ([SV.nil 1, SV.atom 4].map (ev0 ([Value.int .i64 d.kind, .int .i64 d.int, txt d.text, .slice b d.list.length c, .bool bare] ++ [.int .i64 0]))).toArray 91) hr
    have hws : WS H1 (H1.upd r (.cells #[.slice none 0 0, .bool bare] 91)) r 91 [] bare := by
      refine ⟨.slice none 0 0, PH.upd_same, ?_, (fun h => by cases h), hr⟩
      exact (Acc.nil H1 5).mono (PH.le_upd hr)
    have hlen := hg.len bare
    refine den_call cb_data_writer__datum (wdatum_tri d bare _ H1 _ r 91 [] (Dat.Rep.le h1 d hd') (ht.le h1) hws hg (by simpa using Nat.le_trans hlen (by omega))) ?_
    rintro e' H2 ⟨rfl, bv, hv⟩
    refine ⟨_, [], rfl, rfl, rfl, pendNil, fun _ => rfl, [bv], hv.tag, hv.row, ?_⟩
    show wpS _ (execOp _ _) _ _ _
    rw [exec_convert]
    have hs := hv.acc.slR
    rw [List.nil_append] at hs
    rcases (SlR.mk_iff.1 hs).2 with ⟨hbv, he⟩ | ⟨g, c', hbv, h3, h4, h5⟩
    · have : argEv ([Value.int .i64 d.kind, .int .i64 d.int, txt d.text, .slice b d.list.length c, .bool bare] ++ [.int .i64 0] ++ [.pointer (some ⟨r, 0, none⟩)] ++ [] ++ [bv]) [(22, VE.sc (SV.atom 7))] (.tmp 22) = .slice none 0 0 := hbv
      rw [he]
      refine Eq.mpr (congrArg (fun v => wpS Tryz.prog (convert 39 9 v) _ _ H2) this) ?_
      exact wpS_toText_nil uBytes uString uByte ⟨[_], rfl, rfl, pendNil, rfl, PH.le_trans h1 hv.acc.all⟩
    · have : argEv ([Value.int .i64 d.kind, .int .i64 d.int, txt d.text, .slice b d.list.length c, .bool bare] ++ [.int .i64 0] ++ [.pointer (some ⟨r, 0, none⟩)] ++ [] ++ [bv]) [(22, VE.sc (SV.atom 7))] (.tmp 22) = .slice (some g) (d.txtL bare).length c' := hbv
      refine Eq.mpr (congrArg (fun v => wpS Tryz.prog (convert 39 9 v) _ _ H2) this) ?_
      refine wpS_toText uBytes uString uByte (fun j x hj => ?_) ⟨[_], rfl, rfl, pendNil, rfl, PH.le_trans h1 hv.acc.all⟩
      obtain ⟨xs, g1, g2, g3⟩ := RepRows.cells h5
      refine g3 j x ?_
      have key : ∀ (l : List UInt8) (xs : List Value), PV.RepRow H2 (l.flatMap pv) xs → xs = l.map encB := by
        intro l
        induction l with
        | nil => intro xs h; simpa [PV.RepRow] using h
        | cons a l ih =>
          intro xs h
          rw [List.flatMap_cons] at h
          have h' : PV.RepRow H2 (.int .u8 (a.toNat : Int) :: l.flatMap pv) xs := h
          simp only [PV.RepRow, PV.Rep] at h'
          obtain ⟨v, vs, rfl, ⟨rfl, _⟩, h2⟩ := h'
          rw [ih vs h2]; rfl
      rw [key _ _ g1]; exact hj
theorem DText_gives (d : Dat) (cs : List Value) (H : PH) (hd : d.Rep H cs) (ht : Tab H) : Gives Tryz.prog n_data_Text [.agg cs.toArray] H (.tuple #[txt (d.textL false), .int .i64 (d.chk 0 0).2]) := by
  have hw := written_gives d false cs H hd ht
  obtain ⟨sv, rfl, hk, hn, htx, hs⟩ := Dat.Rep_iff.1 hd
  obtain ⟨b, c, rfl⟩ := hs.sl
  refine tri_data_Text [.int .i64 d.kind, .int .i64 d.int, txt d.text, .slice b d.list.length c] (by kernel_rfl) (by kernel_rfl) ?_
  exact den_gives [txt (d.textL false), .int .i64 (d.chk 0 0).2] cb_data_written hw rfl pendNil fun H1 h1 => ⟨rfl, h1⟩
end Go.Proofs.YtlnmmakbgldflaaGreatDoor.Vc

