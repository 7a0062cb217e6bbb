/-
  DATA: what is made of items and a tail; a datum's items.
-/
import Derived.Test.YtpccpepdkjdbnaaDoorDr
import Derived.Test.YtpccpepdkjdbnaaDoorWh
set_option linter.unusedSimpArgs false
set_option linter.unusedVariables false
namespace Go.Proofs.YtpccpepdkjdbnaaDoor.Vc
open Go

/-- a call that gives a datum in new memory -/
def GivesD (f : FuncId) (args : List Value) (H : PH) (d : Dat) : Prop := Tri Tryd.prog f args.toArray H fun e H' => ∃ cs, e = .returned (.agg cs.toArray) ∧ PH.le H H' ∧ d.Rep H' cs
def CopyAt (d : Dat) : Prop := ∀ (cs : List Value) (H : PH), d.Rep H cs → d.cnt ≤ 100000 → GivesD n_data_copied [.agg cs.toArray] H d
theorem all_tri (l : List Dat) (ih : ∀ e ∈ l, CopyAt e) (v : Value) (H : PH) (hs : SlR H l v) (hc : Dats.cnt l ≤ 100000) : Tri Tryd.prog n_data_all #[v] H fun e H' => ∃ v', e = .returned v' ∧ Acc H H' 24 l v' := by
  obtain ⟨b, c, rfl⟩ := hs.sl
  have hll := Dats.cnt_le l
  refine tri_data_all [.slice b l.length c] (by kernel_rfl) (by kernel_rfl) ?_
  refine ⟨fun m vs H' => ∃ (k : Nat) (out : Value), vs = [out, .int .i64 k] ∧ k + m = l.length ∧ Acc H H' 24 (l.take k) out, ⟨l.length, 0, .slice none 0 0, rfl, by omega, by rw [List.take_zero]; exact Acc.nil H 24⟩, ?_⟩
  rintro m vs H' _ ⟨k, out, rfl, hkm, hacc⟩
  refine ⟨fun h5 => ?_, fun h5 => ?_⟩
  · simp only [ev0, ev, evV, List.cons_append, List.nil_append, List.getD_cons_zero, List.getD_cons_succ, List.map_cons, List.map_nil, iOf, bOf, sOf, pOf, slLen, slBase, cmpI, arI, Value.ite_bool, int_beq, int_bne, ite_band, ite_bor, decide_eq_true_eq] at h5
    obtain ⟨e, he⟩ : ∃ e, l[k]? = some e := ⟨_, List.getElem?_eq_getElem (show k < l.length by omega)⟩
    obtain ⟨g1, ces, g2, g3, _, _⟩ := SlRep.get (hs.le hacc.le) he
    have htags := g2.tags
    have hec := Dats.cnt_mem (List.mem_of_getElem? he)
    have hcall := hacc.call (fun e K h => by obtain ⟨cs, _, h, _⟩ := h; exact h) (ih e (List.mem_of_getElem? he) ces _ g2 (by omega))
    obtain ⟨sve, rfl, _⟩ := Dat.Rep_iff.1 g2
    refine ⟨fun _ => ?_, _, htags, by simp only [ev0, ev, evV, List.cons_append, List.nil_append, List.getD_cons_zero, List.getD_cons_succ, List.map_cons, List.map_nil, iOf, bOf, sOf, pOf, slLen, slBase, cmpI, arI, Value.ite_bool, int_beq, int_bne, ite_band, ite_bor]; exact rowAt_le (delV_le _ _) g3, ?_⟩
    · simp only [Chk.holds, ev0, ev, evV, List.cons_append, List.nil_append, List.getD_cons_zero, List.getD_cons_succ, List.map_cons, List.map_nil, iOf, bOf, sOf, pOf, slLen, slBase, cmpI, arI, Value.ite_bool, int_beq, int_bne, ite_band, ite_bor]; exact ⟨g1, by omega, by omega⟩
    refine den_call cb_data_copied hcall ?_
    rintro x H2 ⟨⟨cs, rfl, h1, h2⟩, hacc2, h3⟩
    have ht2 := h2.tags
    have h2' := h2
    obtain ⟨sv2, rfl, _⟩ := Dat.Rep_iff.1 h2
    refine ⟨_, _, rfl, ht2, rfl, pendNil, ?_⟩
    refine den_push (more := [e]) (b := 56) [.agg #[.int .i64 e.kind, .int .i64 e.int, txt e.text, sv2]] uDats elemDat rfl (by decide) (by decide) rfl (.cons h2' .nil) pendNil hacc2 (fun _ => rfl) (fun _ => rfl)
      (by simp only [maxLen, List.length_take, List.length_cons, List.length_nil]; omega) (by simp only [List.length_take, List.length_cons, List.length_nil]; omega) fun u v' H3 h4 h5 => ⟨pendNil, _, lookup_hit, m - 1, by omega, k + 1, v', ?_, by omega, ?_⟩
    · simp only [ev0, ev, evV, List.cons_append, List.nil_append, List.getD_cons_zero, List.getD_cons_succ, List.map_cons, List.map_nil, iOf, bOf, sOf, pOf, slLen, slBase, cmpI, arI, Value.ite_bool, int_beq, int_bne, ite_band, ite_bor]
      rw [w64 (by omega) (by omega)]
      rfl
    · rw [List.take_add_one, he]; exact h4
  · simp only [ev0, ev, evV, List.cons_append, List.nil_append, List.getD_cons_zero, List.getD_cons_succ, List.map_cons, List.map_nil, iOf, bOf, sOf, pOf, slLen, slBase, cmpI, arI, Value.ite_bool, int_beq, int_bne, ite_band, ite_bor, decide_eq_false_iff_not] at h5
    have : k = l.length := by omega
    subst this
    rw [List.take_length] at hacc
    exact ⟨out, rfl, hacc⟩
theorem copied_tri : ∀ d, CopyAt d := by
  refine Dat.ind ?_
  intro d ih cs H hd hc
  obtain ⟨sv, rfl, g1, g2, g3, hs⟩ := Dat.Rep_iff.1 hd
  rw [Dat.cnt_eq] at hc
  have hcall := all_tri d.list ih sv H hs (by omega)
  obtain ⟨b, c, rfl⟩ := hs.sl
  refine tri_data_copied [.int .i64 d.kind, .int .i64 d.int, txt d.text, .slice b d.list.length c] (by kernel_rfl) (by kernel_rfl) ?_
  refine den_call cb_data_all hcall ?_
  rintro x H2 ⟨v', rfl, hacc⟩
  obtain ⟨b2, c2, hv⟩ := hacc.sl
  refine ⟨_, [v'], rfl, by rw [hv]; rfl, rfl, pendNil, [.int .i64 d.kind, .int .i64 d.int, txt d.text, v'], rfl, hacc.all, Dat.Rep_iff.2 ⟨_, rfl, g1, g2, g3, hacc.slR⟩⟩
theorem allD_tri (l : List Dat) (v : Value) (H : PH) (hs : SlR H l v) (hc : Dats.cnt l ≤ 100000) : Tri Tryd.prog n_data_all #[v] H fun e H' => ∃ v', e = .returned v' ∧ Acc H H' 24 l v' := all_tri l (fun e _ => copied_tri e) v H hs hc

def makeD (l : List Dat) (d : Dat) : Dat := if l.length = 0 then d else if d.kind = 5 ∨ d.kind = 6 then .mk d.kind 0 [] (l ++ d.list) else .mk 6 0 [] (l ++ [d])
theorem or_if (p q : Prop) [Decidable p] [Decidable q] : (if decide p = true then true else decide q) = decide (p ∨ q) := by by_cases hp : p <;> simp [hp]
theorem DMake_gives (l : List Dat) (d : Dat) (v : Value) (cs : List Value) (H : PH) (hl : SlR H l v) (hd : d.Rep H cs) (hc1 : Dats.cnt l ≤ 100000) (hc2 : d.cnt ≤ 100000) : GivesD n_data_Make [v, .agg cs.toArray] H (makeD l d) := by
  have hll := Dats.cnt_le l
  have hdl := Dats.cnt_le d.list
  have hcd := Dat.cnt_eq d
  have hd' := hd
  obtain ⟨sv, rfl, g1, g2, g3, hs⟩ := Dat.Rep_iff.1 hd
  have c1 := copied_tri d _ H hd' hc2
  have c2 := allD_tri l v H hl hc1
  obtain ⟨b0, c0, rfl⟩ := hl.sl
  obtain ⟨b, c, rfl⟩ := hs.sl
  refine tri_data_Make [.slice b0 l.length c0, .int .i64 d.kind, .int .i64 d.int, txt d.text, .slice b d.list.length c] (by kernel_rfl) (by kernel_rfl) ?_
  refine ⟨fun h => ?_, fun h => ?_⟩
  · simp only [ev0, ev, evV, List.cons_append, List.nil_append, List.getD_cons_zero, List.getD_cons_succ, List.map_cons, List.map_nil, iOf, bOf, sOf, pOf, slLen, slBase, cmpI, arI, Value.ite_bool, int_beq, int_bne, ite_band, ite_bor, decide_eq_true_eq] at h
    rw [makeD, if_pos (by omega)]
    refine den_call cb_data_copied c1 ?_
    rintro x H2 ⟨cs, rfl, h1, h2⟩
    have ht2 := h2.tags
    have h2' := h2
    obtain ⟨sv2, rfl, _⟩ := Dat.Rep_iff.1 h2
    exact ⟨_, _, rfl, ht2, rfl, pendNil, _, rfl, h1, h2'⟩
  simp only [ev0, ev, evV, List.cons_append, List.nil_append, List.getD_cons_zero, List.getD_cons_succ, List.map_cons, List.map_nil, iOf, bOf, sOf, pOf, slLen, slBase, cmpI, arI, Value.ite_bool, int_beq, int_bne, ite_band, ite_bor, decide_eq_false_iff_not] at h
  refine ⟨fun h2 => ?_, fun h2 => ?_⟩
  · simp only [ev0, ev, evV, List.cons_append, List.nil_append, List.getD_cons_zero, List.getD_cons_succ, List.map_cons, List.map_nil, iOf, bOf, sOf, pOf, slLen, slBase, cmpI, arI, Value.ite_bool, int_beq, or_if] at h2
    rw [decide_eq_true_eq] at h2
    rw [makeD, if_neg (by omega), if_pos h2]
    refine den_call cb_data_all c2 ?_
    rintro x H2 ⟨v5, rfl, a5⟩
    obtain ⟨b5, c5, e5⟩ := a5.sl
    have c3 := a5.call (fun e K h => by obtain ⟨v', _, h⟩ := h; exact h.all) (allD_tri d.list _ _ (hs.le a5.le) (by omega))
    refine ⟨_, [v5], rfl, by rw [e5]; rfl, rfl, pendNil, ?_⟩
    refine den_call cb_data_all c3 ?_
    rintro x H3 ⟨⟨v6, rfl, a6⟩, a53, l3⟩
    obtain ⟨b6, c6, e6⟩ := a6.sl
    refine ⟨_, [v6], rfl, by rw [e6]; rfl, rfl, pendNil, ?_⟩
    refine den_append (b := 56) uDats elemDat rfl rfl a53 a6.slR (by simp only [maxLen]; omega) (by omega) fun v' H4 a7 w7 => ⟨pendNil, [.int .i64 d.kind, .int .i64 0, txt [], v'], rfl, a7.all, ?_⟩
    exact Dat.Rep_iff.2 ⟨_, rfl, g1, (by decide : InI 0), Nat.zero_le _, a7.slR⟩
  · simp only [ev0, ev, evV, List.cons_append, List.nil_append, List.getD_cons_zero, List.getD_cons_succ, List.map_cons, List.map_nil, iOf, bOf, sOf, pOf, slLen, slBase, cmpI, arI, Value.ite_bool, int_beq, or_if] at h2
    rw [decide_eq_false_iff_not] at h2
    rw [makeD, if_neg (by omega), if_neg h2]
    refine den_call cb_data_all c2 ?_
    rintro x H2 ⟨v5, rfl, a5⟩
    obtain ⟨b5, c5, e5⟩ := a5.sl
    have c3 := a5.call (fun e K h => by obtain ⟨cs, _, h, _⟩ := h; exact h) (copied_tri d _ _ (Dat.Rep.le a5.le d hd') hc2)
    refine ⟨_, [v5], rfl, by rw [e5]; rfl, rfl, pendNil, ?_⟩
    refine den_call cb_data_copied c3 ?_
    rintro x H3 ⟨⟨cs, rfl, l2, r2⟩, a53, l3⟩
    have ht2 := r2.tags
    have r2' := r2
    obtain ⟨sv2, rfl, _⟩ := Dat.Rep_iff.1 r2
    refine ⟨_, _, rfl, ht2, rfl, pendNil, ?_⟩
    refine den_push (more := [d]) (b := 56) [.agg #[.int .i64 d.kind, .int .i64 d.int, txt d.text, sv2]] uDats elemDat rfl (by decide) (by decide) rfl (.cons r2' .nil) pendNil a53 (fun _ => rfl) (fun _ => rfl)
      (by simp only [maxLen, List.length_cons, List.length_nil]; omega) (by simp only [List.length_cons, List.length_nil]; omega) fun u v' H4 a7 w7 => ⟨pendNil, [.int .i64 6, .int .i64 0, txt [], v'], rfl, a7.all, ?_⟩
    exact Dat.Rep_iff.2 ⟨_, rfl, (by decide : InI 6), (by decide : InI 0), Nat.zero_le _, a7.slR⟩
theorem RMake_gives (l : List Dat) (d : Dat) (v : Value) (cs : List Value) (H : PH) (hl : SlR H l v) (hd : d.Rep H cs) (hc1 : Dats.cnt l ≤ 100000) (hc2 : d.cnt ≤ 100000) : GivesD n_scrimshawref02_Make [v, .agg cs.toArray] H (makeD l d) := by
  have hll := Dats.cnt_le l
  have hdl := Dats.cnt_le d.list
  have hcd := Dat.cnt_eq d
  have hd' := hd
  obtain ⟨sv, rfl, g1, g2, g3, hs⟩ := Dat.Rep_iff.1 hd
  obtain ⟨b0, c0, rfl⟩ := hl.sl
  obtain ⟨b, c, rfl⟩ := hs.sl
  refine tri_scrimshawref02_Make [.slice b0 l.length c0, .int .i64 d.kind, .int .i64 d.int, txt d.text, .slice b d.list.length c] (by kernel_rfl) (by kernel_rfl) ?_
  refine ⟨fun h => ?_, fun h => ?_⟩
  · simp only [ev0, ev, evV, List.cons_append, List.nil_append, List.getD_cons_zero, List.getD_cons_succ, List.map_cons, List.map_nil, iOf, bOf, sOf, pOf, slLen, slBase, cmpI, arI, Value.ite_bool, int_beq, int_bne, ite_band, ite_bor, decide_eq_true_eq] at h
    rw [makeD, if_pos (by omega)]
    exact ⟨_, rfl, PH.le_refl H, hd'⟩
  simp only [ev0, ev, evV, List.cons_append, List.nil_append, List.getD_cons_zero, List.getD_cons_succ, List.map_cons, List.map_nil, iOf, bOf, sOf, pOf, slLen, slBase, cmpI, arI, Value.ite_bool, int_beq, int_bne, ite_band, ite_bor, decide_eq_false_iff_not] at h
  refine den_lit0 (α := Dat) (b := 56) uDats elemDat fun v5 H2 a5 l5 => ?_
  refine den_append (b := 56) uDats elemDat rfl rfl a5 (hl.le a5.le) (by simp only [maxLen, List.length_nil]; omega) (by simp only [List.length_nil]; omega) fun v6 H3 a6 w6 => ⟨pendNil, ?_⟩
  rw [List.nil_append] at a6
  refine ⟨fun h2 => ?_, fun h2 => ?_⟩
  · simp only [ev0, ev, evV, List.cons_append, List.nil_append, List.getD_cons_zero, List.getD_cons_succ, List.map_cons, List.map_nil, iOf, bOf, sOf, pOf, slLen, slBase, cmpI, arI, Value.ite_bool, int_beq, or_if] at h2
    rw [decide_eq_true_eq] at h2
    rw [makeD, if_neg (by omega), if_pos h2]
    refine den_append (b := 56) uDats elemDat rfl rfl a6 (hs.le a6.le) (by simp only [maxLen]; omega) (by omega) fun v' H4 a7 w7 => ⟨pendNil, [.int .i64 d.kind, .int .i64 0, txt [], v'], rfl, a7.all, ?_⟩
    exact Dat.Rep_iff.2 ⟨_, rfl, g1, (by decide : InI 0), Nat.zero_le _, a7.slR⟩
  · simp only [ev0, ev, evV, List.cons_append, List.nil_append, List.getD_cons_zero, List.getD_cons_succ, List.map_cons, List.map_nil, iOf, bOf, sOf, pOf, slLen, slBase, cmpI, arI, Value.ite_bool, int_beq, or_if] at h2
    rw [decide_eq_false_iff_not] at h2
    rw [makeD, if_neg (by omega), if_neg h2]
    refine den_push (more := [d]) (b := 56) [.agg #[.int .i64 d.kind, .int .i64 d.int, txt d.text, .slice b d.list.length c]] uDats elemDat rfl (by decide) (by decide) rfl (.cons (Dat.Rep.le a6.le d hd') .nil) pendNil a6 (fun _ => rfl) (fun _ => rfl)
      (by simp only [maxLen, List.length_cons, List.length_nil]; omega) (by simp only [List.length_cons, List.length_nil]; omega) fun u v' H4 a7 w7 => ⟨pendNil, [.int .i64 6, .int .i64 0, txt [], v'], rfl, a7.all, ?_⟩
    exact Dat.Rep_iff.2 ⟨_, rfl, (by decide : InI 6), (by decide : InI 0), Nat.zero_le _, a7.slR⟩

def itemsD (d : Dat) : List Dat × Dat := if d.kind = 5 then (d.list, .mk 5 0 [] []) else if d.kind = 6 ∧ 0 < d.list.length then (d.list.take (d.list.length - 1), (d.list[d.list.length - 1]?).getD (.mk 0 0 [] [])) else ([], d)
def GivesI (f : FuncId) (args : List Value) (H : PH) (x : List Dat × Dat) : Prop := Tri Tryd.prog f args.toArray H fun e H' => ∃ v cs, e = .returned (.tuple #[v, .agg cs.toArray]) ∧ PH.le H H' ∧ SlR H' x.1 v ∧ x.2.Rep H' cs
theorem less1 {n : Nat} (h : 0 < n) (hm : n ≤ 9223372036854775807) : IntKind.i64.wrap ((n : Int) - 1) = ((n - 1 : Nat) : Int) := by rw [w64 (by omega) (by omega)]; omega
theorem and_if (p q : Prop) [Decidable p] [Decidable q] : (if decide p = true then decide q else false) = decide (p ∧ q) := by by_cases hp : p <;> simp [hp]
theorem five_rep (H : PH) : Dat.Rep H (.mk 5 0 [] []) [.int .i64 5, .int .i64 0, txt [], .slice none 0 0] := leaf_rep (by decide) (by decide) (by decide)
theorem RItems_gives (d : Dat) (cs : List Value) (H : PH) (hd : d.Rep H cs) : GivesI n_scrimshawref02_Items [.agg cs.toArray] H (itemsD d) := by
  have hd' := hd
  obtain ⟨sv, rfl, g1, g2, g3, hs⟩ := Dat.Rep_iff.1 hd
  have hm := hs.max
  simp only [maxLen] at hm
  have hs' := hs
  obtain ⟨b, c, rfl⟩ := hs.sl
  refine tri_scrimshawref02_Items [.int .i64 d.kind, .int .i64 d.int, txt d.text, .slice b d.list.length c] (by kernel_rfl) (by kernel_rfl) ?_
  refine ⟨fun h => ?_, fun h => ?_⟩
  · simp only [ev0, ev, evV, List.cons_append, List.nil_append, List.getD_cons_zero, List.getD_cons_succ, List.map_cons, List.map_nil, iOf, bOf, sOf, pOf, slLen, slBase, cmpI, arI, Value.ite_bool, int_beq, int_bne, ite_band, ite_bor, decide_eq_true_eq] at h
    rw [itemsD, if_pos h]
    exact ⟨_, _, rfl, PH.le_refl H, hs', five_rep H⟩
  simp only [ev0, ev, evV, List.cons_append, List.nil_append, List.getD_cons_zero, List.getD_cons_succ, List.map_cons, List.map_nil, iOf, bOf, sOf, pOf, slLen, slBase, cmpI, arI, Value.ite_bool, int_beq, int_bne, ite_band, ite_bor, decide_eq_false_iff_not] at h
  refine ⟨fun h2 => ?_, fun h2 => ?_⟩
  · simp only [ev0, ev, evV, List.cons_append, List.nil_append, List.getD_cons_zero, List.getD_cons_succ, List.map_cons, List.map_nil, iOf, bOf, sOf, pOf, slLen, slBase, cmpI, arI, Value.ite_bool, int_beq, and_if] at h2
    rw [decide_eq_true_eq] at h2
    have h2' : d.kind = 6 ∧ 0 < d.list.length := ⟨h2.1, by omega⟩
    obtain ⟨e, he⟩ : ∃ e, d.list[d.list.length - 1]? = some e := ⟨_, List.getElem?_eq_getElem (by omega)⟩
    rw [itemsD, if_neg h, if_pos h2', he]
    obtain ⟨k1, ces, k2, k3, _, _⟩ := SlRep.get hs' he
    have htags := k2.tags
    have k2' := k2
    obtain ⟨sve, rfl, _⟩ := Dat.Rep_iff.1 k2
    have hcap : (d.list.length : Nat) ≤ c := by
      rcases (SlR.mk_iff.1 hs').2 with ⟨hx, hy⟩ | ⟨a, c', hx, hy, _⟩
      · rw [hy] at h2'; simp at h2'
      · cases hx; exact hy
    have hs1 := less1 h2'.2 hm
    have hcut := hs'.cut (a := 0) (b := d.list.length - 1) (by omega) (by omega)
    refine ⟨fun _ => ?_, fun _ => ?_, _, htags, ?_, _, _, rfl, PH.le_refl H, ?_, k2'⟩
    · simp only [Chk.holds, ev0, ev, evV, List.cons_append, List.nil_append, List.getD_cons_zero, List.getD_cons_succ, List.map_cons, List.map_nil, iOf, bOf, sOf, pOf, slLen, slBase, cmpI, arI, Value.ite_bool, int_beq, int_bne, ite_band, ite_bor, slCap, hs1]; omega
    · simp only [Chk.holds, ev0, ev, evV, List.cons_append, List.nil_append, List.getD_cons_zero, List.getD_cons_succ, List.map_cons, List.map_nil, iOf, bOf, sOf, pOf, slLen, slBase, cmpI, arI, Value.ite_bool, int_beq, int_bne, ite_band, ite_bor, hs1]; exact ⟨k1, by omega, by omega⟩
    · simp only [ev0, ev, evV, List.cons_append, List.nil_append, List.getD_cons_zero, List.getD_cons_succ, List.map_cons, List.map_nil, iOf, bOf, sOf, pOf, slLen, slBase, cmpI, arI, Value.ite_bool, int_beq, int_bne, ite_band, ite_bor, hs1]; exact k3
    · have ez : ∀ (E : List Value) (s lo hi : SV) (z : Nat), ev E (fun _ => 0) (.sls s lo hi z) = slsV (ev E (fun _ => 0) s) (iOf (ev E (fun _ => 0) lo)) (iOf (ev E (fun _ => 0) hi)) z := fun _ _ _ _ _ => rfl
      have hh : ∀ E : List Value, E.getD 3 (Value.bool false) = .slice b d.list.length c → iOf (ev E (fun _ => 0) (.ar .sub .i64 (.len (.atom 3)) (.int .i64 1))) = ((d.list.length - 1 : Nat) : Int) := fun E e3 => by
        simp only [ev0, ev, evV, List.cons_append, List.nil_append, List.getD_cons_zero, List.getD_cons_succ, List.map_cons, List.map_nil, iOf, bOf, sOf, pOf, slLen, slBase, cmpI, arI, Value.ite_bool, int_beq, int_bne, ite_band, ite_bor, e3, hs1]
      show SlR H _ (ev _ _ (.sls _ _ _ _))
      rw [ez, hh _ rfl]
      rw [List.drop_zero] at hcut
      exact hcut
  · simp only [ev0, ev, evV, List.cons_append, List.nil_append, List.getD_cons_zero, List.getD_cons_succ, List.map_cons, List.map_nil, iOf, bOf, sOf, pOf, slLen, slBase, cmpI, arI, Value.ite_bool, int_beq, and_if] at h2
    rw [decide_eq_false_iff_not] at h2
    have h2' : ¬ (d.kind = 6 ∧ 0 < d.list.length) := fun x => h2 ⟨x.1, by omega⟩
    rw [itemsD, if_neg h, if_neg h2']
    exact ⟨_, _, rfl, PH.le_refl H, SlR.mk_iff.2 ⟨Nat.zero_le _, .inl ⟨rfl, rfl⟩⟩, hd'⟩
theorem DItems_gives (d : Dat) (cs : List Value) (H : PH) (hd : d.Rep H cs) (hc : d.cnt ≤ 100000) : GivesI n_data_Items [.agg cs.toArray] H (itemsD d) := by
  have hd' := hd
  have hcd := Dat.cnt_eq d
  obtain ⟨sv, rfl, g1, g2, g3, hs⟩ := Dat.Rep_iff.1 hd
  have hm := hs.max
  simp only [maxLen] at hm
  have hs' := hs
  obtain ⟨b, c, rfl⟩ := hs.sl
  refine tri_data_Items [.int .i64 d.kind, .int .i64 d.int, txt d.text, .slice b d.list.length c] (by kernel_rfl) (by kernel_rfl) ?_
  refine ⟨fun h => ?_, fun h => ?_⟩
  · simp only [ev0, ev, evV, List.cons_append, List.nil_append, List.getD_cons_zero, List.getD_cons_succ, List.map_cons, List.map_nil, iOf, bOf, sOf, pOf, slLen, slBase, cmpI, arI, Value.ite_bool, int_beq, int_bne, ite_band, ite_bor, decide_eq_true_eq] at h
    rw [itemsD, if_pos h]
    refine den_call cb_data_all (allD_tri d.list _ H hs' (by omega)) ?_
    rintro x H2 ⟨v5, rfl, a5⟩
    obtain ⟨b5, c5, e5⟩ := a5.sl
    exact ⟨_, [v5], rfl, by rw [e5]; rfl, rfl, pendNil, _, _, rfl, a5.all, a5.slR, five_rep H2⟩
  simp only [ev0, ev, evV, List.cons_append, List.nil_append, List.getD_cons_zero, List.getD_cons_succ, List.map_cons, List.map_nil, iOf, bOf, sOf, pOf, slLen, slBase, cmpI, arI, Value.ite_bool, int_beq, int_bne, ite_band, ite_bor, decide_eq_false_iff_not] at h
  refine ⟨fun h2 => ?_, fun h2 => ?_⟩
  · simp only [ev0, ev, evV, List.cons_append, List.nil_append, List.getD_cons_zero, List.getD_cons_succ, List.map_cons, List.map_nil, iOf, bOf, sOf, pOf, slLen, slBase, cmpI, arI, Value.ite_bool, int_beq, and_if] at h2
    rw [decide_eq_true_eq] at h2
    have h2' : d.kind = 6 ∧ 0 < d.list.length := ⟨h2.1, by omega⟩
    obtain ⟨e, he⟩ : ∃ e, d.list[d.list.length - 1]? = some e := ⟨_, List.getElem?_eq_getElem (by omega)⟩
    rw [itemsD, if_neg h, if_pos h2', he]
    obtain ⟨k1, ces, k2, k3, _, _⟩ := SlRep.get hs' he
    have htags := k2.tags
    have k2' := k2
    obtain ⟨sve, rfl, _⟩ := Dat.Rep_iff.1 k2
    have hcap : (d.list.length : Nat) ≤ c := by
      rcases (SlR.mk_iff.1 hs').2 with ⟨hx, hy⟩ | ⟨a, c', hx, hy, _⟩
      · rw [hy] at h2'; simp at h2'
      · cases hx; exact hy
    have hs1 := less1 h2'.2 hm
    have hcut := hs'.cut (a := 0) (b := d.list.length - 1) (by omega) (by omega)
    simp only [List.drop_zero] at hcut
    have hct := Dats.cnt_take_le d.list (d.list.length - 1)
    have hce := Dats.cnt_mem (List.mem_of_getElem? he)
    have ez : ∀ (E : List Value) (s lo hi : SV) (z : Nat), ev E (fun _ => 0) (.sls s lo hi z) = slsV (ev E (fun _ => 0) s) (iOf (ev E (fun _ => 0) lo)) (iOf (ev E (fun _ => 0) hi)) z := fun _ _ _ _ _ => rfl
    have hh : ∀ E : List Value, E.getD 3 (Value.bool false) = .slice b d.list.length c → iOf (ev E (fun _ => 0) (.ar .sub .i64 (.len (.atom 3)) (.int .i64 1))) = ((d.list.length - 1 : Nat) : Int) := fun E e3 => by
      simp only [ev0, ev, evV, List.cons_append, List.nil_append, List.getD_cons_zero, List.getD_cons_succ, List.map_cons, List.map_nil, iOf, bOf, sOf, pOf, slLen, slBase, cmpI, arI, Value.ite_bool, int_beq, int_bne, ite_band, ite_bor, e3, hs1]
    refine ⟨fun _ => ?_, fun _ => ?_, _, htags, ?_, ?_⟩
    · simp only [Chk.holds, ev0, ev, evV, List.cons_append, List.nil_append, List.getD_cons_zero, List.getD_cons_succ, List.map_cons, List.map_nil, iOf, bOf, sOf, pOf, slLen, slBase, cmpI, arI, Value.ite_bool, int_beq, int_bne, ite_band, ite_bor, slCap, hs1]; omega
    · simp only [Chk.holds, ev0, ev, evV, List.cons_append, List.nil_append, List.getD_cons_zero, List.getD_cons_succ, List.map_cons, List.map_nil, iOf, bOf, sOf, pOf, slLen, slBase, cmpI, arI, Value.ite_bool, int_beq, int_bne, ite_band, ite_bor, hs1]; exact ⟨k1, by omega, by omega⟩
    · simp only [ev0, ev, evV, List.cons_append, List.nil_append, List.getD_cons_zero, List.getD_cons_succ, List.map_cons, List.map_nil, iOf, bOf, sOf, pOf, slLen, slBase, cmpI, arI, Value.ite_bool, int_beq, int_bne, ite_band, ite_bor, hs1]; exact k3
    refine den_call cb_data_all (R := fun e' H' => ∃ v', e' = .returned v' ∧ Acc H H' 24 (d.list.take (d.list.length - 1)) v') ?_ ?_
    · show Tri Tryd.prog n_data_all #[ev _ _ (.sls _ _ _ _)] H _
      rw [ez, hh _ rfl]
      exact allD_tri _ _ H hcut (by omega)
    rintro x H2 ⟨v5, rfl, a5⟩
    obtain ⟨b5, c5, e5⟩ := a5.sl
    have k4 := rowAt_le a5.all k3
    refine ⟨_, [v5], rfl, by rw [e5]; rfl, rfl, ?_, ?_⟩
    · intro x hx
      simp only [List.mem_singleton] at hx
      subst hx
      simp only [ev0, ev, evV, List.cons_append, List.nil_append, List.getD_cons_zero, List.getD_cons_succ, List.map_cons, List.map_nil, iOf, bOf, sOf, pOf, slLen, slBase, cmpI, arI, Value.ite_bool, int_beq, int_bne, ite_band, ite_bor, hs1]; exact k4
    refine den_call cb_data_copied (copied_tri e _ H2 (Dat.Rep.le a5.all e k2') (by omega)) ?_
    rintro x H3 ⟨cs, rfl, l2, r2⟩
    have ht2 := r2.tags
    have r2' := r2
    obtain ⟨sv2, rfl, _⟩ := Dat.Rep_iff.1 r2
    exact ⟨_, _, rfl, ht2, rfl, pendNil, _, _, rfl, PH.le_trans a5.all l2, a5.slR.le l2, r2'⟩
  · simp only [ev0, ev, evV, List.cons_append, List.nil_append, List.getD_cons_zero, List.getD_cons_succ, List.map_cons, List.map_nil, iOf, bOf, sOf, pOf, slLen, slBase, cmpI, arI, Value.ite_bool, int_beq, and_if] at h2
    rw [decide_eq_false_iff_not] at h2
    have h2' : ¬ (d.kind = 6 ∧ 0 < d.list.length) := fun x => h2 ⟨x.1, by omega⟩
    rw [itemsD, if_neg h, if_neg h2']
    refine den_call cb_data_copied (copied_tri d _ H hd' hc) ?_
    rintro x H3 ⟨cs, rfl, l2, r2⟩
    have ht2 := r2.tags
    have r2' := r2
    obtain ⟨sv2, rfl, _⟩ := Dat.Rep_iff.1 r2
    exact ⟨_, _, rfl, ht2, rfl, pendNil, _, _, rfl, l2, SlR.mk_iff.2 ⟨Nat.zero_le _, .inl ⟨rfl, rfl⟩⟩, r2'⟩
theorem SameAll_gives (l m : List Dat) (va vb : Value) (H : PH) (hl : SlR H l va) (hm : SlR H m vb) : Gives Tryd.prog n_scrimshawref02_SameAll [va, vb] H (.bool (decide (l = m))) := by
  have r1 : Dat.Rep H (.mk 0 0 [] l) [.int .i64 0, .int .i64 0, txt [], va] := Dat.Rep_iff.2 ⟨_, rfl, (by decide : InI 0), (by decide : InI 0), Nat.zero_le _, hl⟩
  have r2 : Dat.Rep H (.mk 0 0 [] m) [.int .i64 0, .int .i64 0, txt [], vb] := Dat.Rep_iff.2 ⟨_, rfl, (by decide : InI 0), (by decide : InI 0), Nat.zero_le _, hm⟩
  have hc := Same_gives _ _ _ _ H r1 r2
  have e : decide (Dat.mk 0 0 [] l = Dat.mk 0 0 [] m) = decide (l = m) := decide_eq_decide.2 (by simp)
  rw [e] at hc
  obtain ⟨b1, c1, rfl⟩ := hl.sl
  obtain ⟨b2, c2, rfl⟩ := hm.sl
  refine tri_scrimshawref02_SameAll [.slice b1 l.length c1, .slice b2 m.length c2] (by kernel_rfl) (by kernel_rfl) ?_
  exact den_gives [_] cb_scrimshawref02_Same hc rfl pendNil fun H2 h2 => ⟨rfl, h2⟩

theorem DatumMakes_gives (l : List Dat) (d : Dat) (v : Value) (cs : List Value) (H : PH) (ht : Tab H) (hl : SlR H l v) (hd : d.Rep H cs) : Gives Tryd.prog n_scrimshawlaw02_DatumMakes [v, .agg cs.toArray] H (.bool true) := by
  have hcd := Dat.cnt_eq d
  have c1 := fun H' (h : PH.le H H') => DMake_gives l d v cs H' (hl.le h) (Dat.Rep.le h d hd)
  have c2 := fun H' (h : PH.le H H') => RMake_gives l d v cs H' (hl.le h) (Dat.Rep.le h d hd)
  have c3 := fun H' (h : PH.le H H') => DItems_gives d cs H' (Dat.Rep.le h d hd)
  have c4 := fun H' (h : PH.le H H') => RItems_gives d cs H' (Dat.Rep.le h d hd)
  have c5 := Huge_gives l v H hl
  have hd' := hd
  obtain ⟨sv, rfl, g1, g2, g3, hs⟩ := Dat.Rep_iff.1 hd
  obtain ⟨b0, c0, rfl⟩ := hl.sl
  obtain ⟨b, c, rfl⟩ := hs.sl
  refine tri_scrimshawlaw02_DatumMakes [.slice b0 l.length c0, .int .i64 d.kind, .int .i64 d.int, txt d.text, .slice b d.list.length c] (by kernel_rfl) (by kernel_rfl) ?_
  refine ⟨fun vs H' => vs = [.bool (hugeB l || hugeB [d])] ∧ PH.le H H', ?_, ?_⟩
  · rintro vs H1 _ ⟨rfl, l1⟩
    refine ⟨fun _ => den_gives [.bool true] cb_scrimshawlaw02_fixed (fixed_gives H1 (ht.le l1)) rfl pendNil fun H3 l3 => ⟨rfl, PH.le_trans l1 l3⟩, fun h => ?_⟩
    simp only [ev0, ev, evV, List.cons_append, List.nil_append, List.getD_cons_zero, List.getD_cons_succ, List.map_cons, List.map_nil, iOf, bOf, sOf, pOf, slLen, slBase, cmpI, arI, Value.ite_bool, Bool.or_eq_false_iff] at h
    obtain ⟨h1, h2⟩ := h
    have b1 : Dats.cnt l ≤ 100000 := by have := of_decide_eq_false h1; omega
    have b2 : d.cnt ≤ 100000 := by have := of_decide_eq_false h2; simp only [Dats.cnt] at this; omega
    refine den_call cb_data_Make (c1 H1 l1 b1 b2) ?_
    rintro x H2 ⟨cs1, rfl, l2, r1⟩
    have t1 := r1.tags
    have r1' := r1
    obtain ⟨sv1, rfl, _⟩ := Dat.Rep_iff.1 r1
    have l12 := PH.le_trans l1 l2
    refine ⟨_, _, rfl, t1, rfl, pendNil, ?_⟩
    refine den_call cb_data_Items (c3 H2 l12 b2) ?_
    rintro x H3 ⟨v2, cs2, rfl, l3, s2, r2⟩
    have t2 := r2.tags
    have r2' := r2
    obtain ⟨sv2, e2, _⟩ := Dat.Rep_iff.1 r2
    obtain ⟨vb2, vc2, ev2⟩ := s2.sl
    have l13 := PH.le_trans l12 l3
    refine ⟨_, v2 :: cs2, rfl, by rw [ev2]; exact t2, by rw [e2]; rfl, pendNil, ?_⟩
    subst e2
    refine den_call cb_scrimshawref02_Items (c4 H3 l13) ?_
    rintro x H4 ⟨v3, cs3, rfl, l4, s3, r3⟩
    have t3 := r3.tags
    have r3' := r3
    obtain ⟨sv3, e3, _⟩ := Dat.Rep_iff.1 r3
    obtain ⟨vb3, vc3, ev3⟩ := s3.sl
    have l14 := PH.le_trans l13 l4
    refine ⟨_, v3 :: cs3, rfl, by rw [ev3]; exact t3, by rw [e3]; rfl, pendNil, ?_⟩
    subst e3
    refine ⟨fun vs H' => vs = [.bool true] ∧ PH.le H H', ?_, ?_⟩
    · rintro vs H' _ ⟨rfl, h⟩; exact ⟨rfl, h⟩
    refine den_gives [.bool true] cb_scrimshawlaw02_fixed (fixed_gives H4 (ht.le l14)) rfl pendNil fun H5 l5 => ⟨fun _ => ?_, fun h => absurd h (by simp [ev0, ev, evV, List.cons_append, List.nil_append, List.getD_cons_zero, List.getD_cons_succ, List.map_cons, List.map_nil, iOf, bOf, sOf, pOf, slLen, slBase, cmpI, arI, Value.ite_bool])⟩
    have l15 := PH.le_trans l14 l5
    refine den_call cb_scrimshawref02_Make (c2 H5 l15 b1 b2) ?_
    rintro x H6 ⟨cs4, rfl, l6, r4⟩
    have t4 := r4.tags
    have r4' := r4
    obtain ⟨sv4, rfl, _⟩ := Dat.Rep_iff.1 r4
    have l16 := PH.le_trans l15 l6
    have l26 := PH.le_trans l3 (PH.le_trans l4 (PH.le_trans l5 l6))
    refine ⟨_, _, rfl, t4, rfl, pendNil, ?_⟩
    refine den_gives [.bool true] cb_scrimshawref02_Same (by have := Same_gives _ _ _ _ H6 (Dat.Rep.le l26 _ r1') r4'; rw [decide_eq_true rfl] at this; exact this) rfl pendNil fun H7 l7 => ⟨fun _ => ?_, fun h => absurd h (by simp [ev0, ev, evV, List.cons_append, List.nil_append, List.getD_cons_zero, List.getD_cons_succ, List.map_cons, List.map_nil, iOf, bOf, sOf, pOf, slLen, slBase, cmpI, arI, Value.ite_bool])⟩
    have l47 := PH.le_trans l5 (PH.le_trans l6 l7)
    have l37 := PH.le_trans l4 l47
    refine den_gives [.bool true] cb_scrimshawref02_SameAll (by have := SameAll_gives _ _ _ _ H7 (s2.le l37) (s3.le l47); rw [decide_eq_true rfl] at this; exact this) rfl pendNil fun H8 l8 => ⟨fun _ => ?_, fun h => absurd h (by simp [ev0, ev, evV, List.cons_append, List.nil_append, List.getD_cons_zero, List.getD_cons_succ, List.map_cons, List.map_nil, iOf, bOf, sOf, pOf, slLen, slBase, cmpI, arI, Value.ite_bool])⟩
    refine den_gives [.bool true] cb_scrimshawref02_Same (by have := Same_gives _ _ _ _ H8 (Dat.Rep.le (PH.le_trans l37 l8) _ r2') (Dat.Rep.le (PH.le_trans l47 l8) _ r3'); rw [decide_eq_true rfl] at this; exact this) rfl pendNil fun H9 l9 => ⟨_, lookup_hit, rfl, PH.le_trans l16 (PH.le_trans l7 (PH.le_trans l8 l9))⟩
  · refine den_gives [.bool (hugeB l)] cb_scrimshawref02_Huge c5 rfl pendNil fun H1 l1 => ⟨fun h => ?_, fun h => ?_⟩
    · have h : hugeB l = true := h
      exact ⟨_, lookup_hit, by simp [ev0, ev, evV, List.cons_append, List.nil_append, List.getD_cons_zero, List.getD_cons_succ, List.map_cons, List.map_nil, iOf, bOf, sOf, pOf, slLen, slBase, cmpI, arI, Value.ite_bool, h], l1⟩
    · have h : hugeB l = false := h
      refine den_lit (l := [d]) (b := 56) [.agg #[.int .i64 d.kind, .int .i64 d.int, txt d.text, .slice b d.list.length c]] uDats elemDat rfl (by decide) (by decide) rfl
        (.cons (Dat.Rep.le l1 d hd') .nil) pendNil fun v1 H2 a1 l2 _ => ?_
      refine den_gives [.bool (hugeB [d])] cb_scrimshawref02_Huge (Huge_gives [d] v1 H2 a1.slR) rfl pendNil fun H3 l3 => ⟨_, lookup_hit, ?_, PH.le_trans l1 (PH.le_trans l2 l3)⟩
      simp [ev0, ev, evV, List.cons_append, List.nil_append, List.getD_cons_zero, List.getD_cons_succ, List.map_cons, List.map_nil, iOf, bOf, sOf, pOf, slLen, slBase, cmpI, arI, Value.ite_bool, h]
end Go.Proofs.YtpccpepdkjdbnaaDoor.Vc
