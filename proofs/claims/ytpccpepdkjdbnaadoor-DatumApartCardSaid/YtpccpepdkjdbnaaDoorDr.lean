/-
  DATA: when two are the same; Huge.
-/
import Derived.Test.YtpccpepdkjdbnaaDoorDq
set_option linter.unusedSimpArgs false
set_option linter.unusedVariables false
namespace Go.Proofs.YtpccpepdkjdbnaaDoor.Vc
open Go

noncomputable instance decDat : DecidableEq Dat := fun a b => Classical.propDecidable (a = b)
noncomputable instance decDats : DecidableEq (List Dat) := fun a b => Classical.propDecidable (a = b)
theorem Dat.eq_iff {a b : Dat} : a = b ↔ a.kind = b.kind ∧ a.int = b.int ∧ a.text = b.text ∧ a.list = b.list := by
  cases a; cases b; simp [Dat.kind, Dat.int, Dat.text, Dat.list]
/-- a call of a function value by a contract -/
theorem den_givesF {P : Program} {X : List PanicEntry → PH → Prop} {α : Type} {E : List Value} {H : PH} {L : LK} {K : α → List Value → PH → LK → Prop} {i f : Nat} {args : List VE} {rs : RS} {pend : List (SV × List SV)} {k : Fm α} (vs : List Value) (hi : E.getD i (.bool false) = .func (.func f) #[] #[]) (hok : callB P f = true)
    (hc : Gives P f (args.map (evV E fun _ => 0)) H (rs.pack vs)) (ht : tagsOk rs.tags vs = true) (hp : pendOk E H pend) (hk : ∀ H', PH.le H H' → den P X k (E ++ vs) H' L K) : den P X (.call (.atom i) args rs pend k) E H L K := by
  refine ⟨f, #[], #[], hi, callOk_of hok, ?_⟩
  have e : (#[] : Array Value) ++ (args.map (evV E fun _ => 0)).toArray ++ #[] = (args.map (evV E fun _ => 0)).toArray := by simp
  rw [e]
  exact Tri.mono hc fun e H' ⟨he, hl⟩ => by subst he; exact ⟨vs, ht, rfl, pendOk_le hp hl, hk H' hl⟩
theorem take_eq_succ {l m : List Dat} {k : Nat} {a b : Dat} (h : l.take k = m.take k) (ha : l[k]? = some a) (hb : m[k]? = some b) (hab : a = b) : l.take (k + 1) = m.take (k + 1) := by
  rw [List.take_add_one, List.take_add_one, h, ha, hb, hab]

def SameAt (f : FuncId) (a : Dat) : Prop := ∀ (b : Dat) (ca cb : List Value) (H : PH), a.Rep H ca → b.Rep H cb → Gives Tryd.prog f [.agg ca.toArray, .agg cb.toArray] H (.bool (decide (a = b)))
theorem EqualFunc_gives (l m : List Dat) (va vb : Value) (H : PH) (hl : SlR H l va) (hm : SlR H m vb) (ih : ∀ e ∈ l, SameAt n_data_Equal e) :
    Gives Tryd.prog 36 [va, vb, .func (.func 18) #[] #[]] H (.bool (decide (l = m))) := by
  obtain ⟨b1, c1, rfl⟩ := hl.sl
  obtain ⟨b2, c2, rfl⟩ := hm.sl
  have m1 := hl.max
  have m2 := hm.max
  simp only [maxLen] at m1 m2
  refine tri_slices_EqualFunc___api_Datum___api_Datum_api_Datum_api_Datum_ [.slice b1 l.length c1, .slice b2 m.length c2, .func (.func 18) #[] #[]] (by kernel_rfl) (by kernel_rfl) ?_
  refine ⟨fun h => ?_, fun h => ?_⟩
  · simp only [ev0, ev, evV, List.cons_append, List.nil_append, List.getD_cons_zero, List.getD_cons_succ, List.map_cons, List.map_nil, iOf, bOf, sOf, pOf, slLen, slBase, cmpI, arI, Value.ite_bool, int_beq, int_bne, ite_band, ite_bor, decide_eq_true_eq] at h
    refine ⟨?_, PH.le_refl H⟩
    have : ¬ l = m := fun e => h (by rw [e])
    simp only [ev0, ev, evV, List.cons_append, List.nil_append, List.getD_cons_zero, List.getD_cons_succ, List.map_cons, List.map_nil, iOf, bOf, sOf, pOf, slLen, slBase, cmpI, arI, Value.ite_bool, int_beq, int_bne, ite_band, ite_bor, decide_eq_false this]
  simp only [ev0, ev, evV, List.cons_append, List.nil_append, List.getD_cons_zero, List.getD_cons_succ, List.map_cons, List.map_nil, iOf, bOf, sOf, pOf, slLen, slBase, cmpI, arI, Value.ite_bool, int_beq, int_bne, ite_band, ite_bor, decide_eq_false_iff_not, ne_eq, Decidable.not_not] at h
  have hlen : l.length = m.length := by omega
  refine ⟨fun n vs H' => ∃ k : Nat, vs = [.bool false, .int .i64 k] ∧ k + n = l.length ∧ l.take k = m.take k ∧ PH.le H H', ⟨l.length, 0, rfl, by omega, by simp, PH.le_refl H⟩, ?_⟩
  rintro n vs H' _ ⟨k, rfl, hkn, htk, hle⟩
  refine ⟨fun h5 => ?_, fun h5 => ?_⟩
  · simp only [ev0, ev, evV, List.cons_append, List.nil_append, List.getD_cons_zero, List.getD_cons_succ, List.map_cons, List.map_nil, iOf, bOf, sOf, pOf, slLen, slBase, cmpI, arI, Value.ite_bool, int_beq, int_bne, ite_band, ite_bor, decide_eq_true_eq] at h5
    obtain ⟨e, he⟩ : ∃ e, l[k]? = some e := ⟨_, List.getElem?_eq_getElem (show k < l.length by omega)⟩
    obtain ⟨e', he'⟩ : ∃ e, m[k]? = some e := ⟨_, List.getElem?_eq_getElem (show k < m.length by omega)⟩
    obtain ⟨g1, ces, g2, g3, _, _⟩ := SlRep.get (hl.le hle) he
    obtain ⟨g1', ces', g2', g3', _, _⟩ := SlRep.get (hm.le hle) he'
    have htags := g2.tags
    have htags' := g2'.tags
    have hcall := ih e (List.mem_of_getElem? he) e' ces ces' H' g2 g2'
    obtain ⟨sve, rfl, _⟩ := Dat.Rep_iff.1 g2
    obtain ⟨sve', rfl, _⟩ := Dat.Rep_iff.1 g2'
    refine ⟨fun _ => ?_, _, htags, by simp only [ev0, ev, evV, List.cons_append, List.nil_append, List.getD_cons_zero, List.getD_cons_succ, List.map_cons, List.map_nil, iOf, bOf, sOf, pOf, slLen, slBase, cmpI, arI, Value.ite_bool, int_beq, int_bne, ite_band, ite_bor]; exact g3, fun _ => ?_, _, htags', by simp only [ev0, ev, evV, List.cons_append, List.nil_append, List.getD_cons_zero, List.getD_cons_succ, List.map_cons, List.map_nil, iOf, bOf, sOf, pOf, slLen, slBase, cmpI, arI, Value.ite_bool, int_beq, int_bne, ite_band, ite_bor]; exact g3', ?_⟩
    · simp only [Chk.holds, ev0, ev, evV, List.cons_append, List.nil_append, List.getD_cons_zero, List.getD_cons_succ, List.map_cons, List.map_nil, iOf, bOf, sOf, pOf, slLen, slBase, cmpI, arI, Value.ite_bool, int_beq, int_bne, ite_band, ite_bor]; exact ⟨g1, by omega, by omega⟩
    · simp only [Chk.holds, ev0, ev, evV, List.cons_append, List.nil_append, List.getD_cons_zero, List.getD_cons_succ, List.map_cons, List.map_nil, iOf, bOf, sOf, pOf, slLen, slBase, cmpI, arI, Value.ite_bool, int_beq, int_bne, ite_band, ite_bor]; exact ⟨g1', by omega, by omega⟩
    refine den_givesF [.bool (decide (e = e'))] rfl cb_data_Equal hcall rfl pendNil fun H2 h2 => ⟨fun h6 => ?_, fun h6 => ?_⟩
    · simp only [ev0, ev, evV, List.cons_append, List.nil_append, List.getD_cons_zero, List.getD_cons_succ, List.map_cons, List.map_nil, iOf, bOf, sOf, pOf, slLen, slBase, cmpI, arI, Value.ite_bool, int_beq, int_bne, ite_band, ite_bor, Bool.not_eq_true', decide_eq_false_iff_not] at h6
      refine ⟨?_, PH.le_trans hle h2⟩
      have : ¬ l = m := fun x => h6 (by subst x; rw [he] at he'; exact Option.some.inj he')
      simp only [ev0, ev, evV, List.cons_append, List.nil_append, List.getD_cons_zero, List.getD_cons_succ, List.map_cons, List.map_nil, iOf, bOf, sOf, pOf, slLen, slBase, cmpI, arI, Value.ite_bool, int_beq, int_bne, ite_band, ite_bor, decide_eq_false this]
    · simp only [ev0, ev, evV, List.cons_append, List.nil_append, List.getD_cons_zero, List.getD_cons_succ, List.map_cons, List.map_nil, iOf, bOf, sOf, pOf, slLen, slBase, cmpI, arI, Value.ite_bool, int_beq, int_bne, ite_band, ite_bor, Bool.not_eq_false', decide_eq_true_eq] at h6
      refine ⟨_, lookup_hit, n - 1, by omega, k + 1, ?_, by omega, take_eq_succ htk he he' h6, PH.le_trans hle h2⟩
      simp only [ev0, ev, evV, List.cons_append, List.nil_append, List.getD_cons_zero, List.getD_cons_succ, List.map_cons, List.map_nil, iOf, bOf, sOf, pOf, slLen, slBase, cmpI, arI, Value.ite_bool, int_beq, int_bne, ite_band, ite_bor]
      rw [w64 (by omega) (by omega)]
      rfl
  · simp only [ev0, ev, evV, List.cons_append, List.nil_append, List.getD_cons_zero, List.getD_cons_succ, List.map_cons, List.map_nil, iOf, bOf, sOf, pOf, slLen, slBase, cmpI, arI, Value.ite_bool, int_beq, int_bne, ite_band, ite_bor, decide_eq_false_iff_not] at h5
    refine ⟨?_, hle⟩
    have : l = m := by rw [List.take_of_length_le (by omega), List.take_of_length_le (by omega)] at htk; exact htk
    simp only [ev0, ev, evV, List.cons_append, List.nil_append, List.getD_cons_zero, List.getD_cons_succ, List.map_cons, List.map_nil, iOf, bOf, sOf, pOf, slLen, slBase, cmpI, arI, Value.ite_bool, int_beq, int_bne, ite_band, ite_bor, decide_eq_true this]
theorem Equal_gives : ∀ a, SameAt n_data_Equal a := by
  refine Dat.ind ?_
  intro a ih b ca cb H ha hb
  obtain ⟨s1, rfl, _, _, _, hs1⟩ := Dat.Rep_iff.1 ha
  obtain ⟨s2, rfl, _, _, _, hs2⟩ := Dat.Rep_iff.1 hb
  have hcall := EqualFunc_gives a.list b.list s1 s2 H hs1 hs2 ih
  obtain ⟨b1, c1, rfl⟩ := hs1.sl
  obtain ⟨b2, c2, rfl⟩ := hs2.sl
  refine tri_data_Equal [.int .i64 a.kind, .int .i64 a.int, txt a.text, .slice b1 a.list.length c1, .int .i64 b.kind, .int .i64 b.int, txt b.text, .slice b2 b.list.length c2] (by kernel_rfl) (by kernel_rfl) ?_
  refine ⟨fun vs H' => vs = [.bool (decide (a = b))] ∧ PH.le H H', ?_, ?_⟩
  · rintro vs H' _ ⟨rfl, h⟩; exact ⟨rfl, h⟩
  refine ⟨fun h => ?_, fun h => ?_⟩
  · simp only [ev0, ev, evV, List.cons_append, List.nil_append, List.getD_cons_zero, List.getD_cons_succ, List.map_cons, List.map_nil, iOf, bOf, sOf, pOf, slLen, slBase, cmpI, arI, Value.ite_bool, int_beq, int_bne, ite_band, ite_bor, txt_eql] at h
    simp only [Bool.and_eq_true, decide_eq_true_eq] at h
    refine den_gives [.bool (decide (a.list = b.list))] cb_slices_EqualFunc___api_Datum___api_Datum_api_Datum_api_Datum_ hcall rfl pendNil fun H2 h2 => ⟨_, lookup_hit, ?_, h2⟩
    have : (a = b) ↔ a.list = b.list := by rw [Dat.eq_iff]; simp [h.1.1, h.1.2, h.2]
    simp only [ev0, ev, evV, List.cons_append, List.nil_append, List.getD_cons_zero, List.getD_cons_succ, List.map_cons, List.map_nil, iOf, bOf, sOf, pOf, slLen, slBase, cmpI, arI, Value.ite_bool, int_beq, int_bne, ite_band, ite_bor, decide_eq_decide.2 this]
  · simp only [ev0, ev, evV, List.cons_append, List.nil_append, List.getD_cons_zero, List.getD_cons_succ, List.map_cons, List.map_nil, iOf, bOf, sOf, pOf, slLen, slBase, cmpI, arI, Value.ite_bool, int_beq, int_bne, ite_band, ite_bor, txt_eql] at h
    refine ⟨_, lookup_hit, ?_, PH.le_refl H⟩
    have : ¬ a = b := fun e => by subst e; simp at h
    simp only [ev0, ev, evV, List.cons_append, List.nil_append, List.getD_cons_zero, List.getD_cons_succ, List.map_cons, List.map_nil, iOf, bOf, sOf, pOf, slLen, slBase, cmpI, arI, Value.ite_bool, int_beq, int_bne, ite_band, ite_bor, decide_eq_false this]
theorem Same_gives : ∀ a, SameAt n_scrimshawref02_Same a := by
  refine Dat.ind ?_
  intro a ih b ca cb H ha hb
  obtain ⟨s1, rfl, _, _, _, hl⟩ := Dat.Rep_iff.1 ha
  obtain ⟨s2, rfl, _, _, _, hm⟩ := Dat.Rep_iff.1 hb
  obtain ⟨b1, c1, rfl⟩ := hl.sl
  obtain ⟨b2, c2, rfl⟩ := hm.sl
  have m1 := hl.max
  have m2 := hm.max
  simp only [maxLen] at m1 m2
  refine tri_scrimshawref02_Same [.int .i64 a.kind, .int .i64 a.int, txt a.text, .slice b1 a.list.length c1, .int .i64 b.kind, .int .i64 b.int, txt b.text, .slice b2 b.list.length c2] (by kernel_rfl) (by kernel_rfl) ?_
  refine ⟨fun h => ?_, fun h => ?_⟩
  · simp only [ev0, ev, evV, List.cons_append, List.nil_append, List.getD_cons_zero, List.getD_cons_succ, List.map_cons, List.map_nil, iOf, bOf, sOf, pOf, slLen, slBase, cmpI, arI, Value.ite_bool, int_beq, int_bne, ite_band, ite_bor, txt_neq] at h
    refine ⟨?_, PH.le_refl H⟩
    have : ¬ a = b := fun e => by subst e; simp at h
    simp only [ev0, ev, evV, List.cons_append, List.nil_append, List.getD_cons_zero, List.getD_cons_succ, List.map_cons, List.map_nil, iOf, bOf, sOf, pOf, slLen, slBase, cmpI, arI, Value.ite_bool, int_beq, int_bne, ite_band, ite_bor, decide_eq_false this]
  simp only [ev0, ev, evV, List.cons_append, List.nil_append, List.getD_cons_zero, List.getD_cons_succ, List.map_cons, List.map_nil, iOf, bOf, sOf, pOf, slLen, slBase, cmpI, arI, Value.ite_bool, int_beq, int_bne, ite_band, ite_bor, txt_neq] at h
  simp only [Bool.or_eq_false_iff, decide_eq_false_iff_not, ne_eq, Decidable.not_not] at h
  obtain ⟨⟨⟨h1, h2⟩, h3⟩, h4⟩ := h
  have heq : (a = b) ↔ a.list = b.list := by rw [Dat.eq_iff]; simp [h1, h2, h3]
  have hlen : a.list.length = b.list.length := by omega
  refine ⟨fun n vs H' => ∃ k : Nat, vs = [.bool false, .int .i64 k] ∧ k + n = a.list.length ∧ a.list.take k = b.list.take k ∧ PH.le H H', ⟨a.list.length, 0, rfl, by omega, by simp, PH.le_refl H⟩, ?_⟩
  rintro n vs H' _ ⟨k, rfl, hkn, htk, hle⟩
  refine ⟨fun h5 => ?_, fun h5 => ?_⟩
  · simp only [ev0, ev, evV, List.cons_append, List.nil_append, List.getD_cons_zero, List.getD_cons_succ, List.map_cons, List.map_nil, iOf, bOf, sOf, pOf, slLen, slBase, cmpI, arI, Value.ite_bool, int_beq, int_bne, ite_band, ite_bor, decide_eq_true_eq] at h5
    obtain ⟨e, he⟩ : ∃ e, a.list[k]? = some e := ⟨_, List.getElem?_eq_getElem (show k < a.list.length by omega)⟩
    obtain ⟨e', he'⟩ : ∃ e, b.list[k]? = some e := ⟨_, List.getElem?_eq_getElem (show k < b.list.length by omega)⟩
    obtain ⟨g1, ces, g2, g3, _, _⟩ := SlRep.get (hl.le hle) he
    obtain ⟨g1', ces', g2', g3', _, _⟩ := SlRep.get (hm.le hle) he'
    have htags := g2.tags
    have htags' := g2'.tags
    have hcall := ih e (List.mem_of_getElem? he) e' ces ces' H' g2 g2'
    obtain ⟨sve, rfl, _⟩ := Dat.Rep_iff.1 g2
    obtain ⟨sve', rfl, _⟩ := Dat.Rep_iff.1 g2'
    refine ⟨fun _ => ?_, _, htags, by simp only [ev0, ev, evV, List.cons_append, List.nil_append, List.getD_cons_zero, List.getD_cons_succ, List.map_cons, List.map_nil, iOf, bOf, sOf, pOf, slLen, slBase, cmpI, arI, Value.ite_bool, int_beq, int_bne, ite_band, ite_bor]; exact g3, fun _ => ?_, _, htags', by simp only [ev0, ev, evV, List.cons_append, List.nil_append, List.getD_cons_zero, List.getD_cons_succ, List.map_cons, List.map_nil, iOf, bOf, sOf, pOf, slLen, slBase, cmpI, arI, Value.ite_bool, int_beq, int_bne, ite_band, ite_bor]; exact g3', ?_⟩
    · simp only [Chk.holds, ev0, ev, evV, List.cons_append, List.nil_append, List.getD_cons_zero, List.getD_cons_succ, List.map_cons, List.map_nil, iOf, bOf, sOf, pOf, slLen, slBase, cmpI, arI, Value.ite_bool, int_beq, int_bne, ite_band, ite_bor]; exact ⟨g1, by omega, by omega⟩
    · simp only [Chk.holds, ev0, ev, evV, List.cons_append, List.nil_append, List.getD_cons_zero, List.getD_cons_succ, List.map_cons, List.map_nil, iOf, bOf, sOf, pOf, slLen, slBase, cmpI, arI, Value.ite_bool, int_beq, int_bne, ite_band, ite_bor]; exact ⟨g1', by omega, by omega⟩
    refine den_gives [.bool (decide (e = e'))] cb_scrimshawref02_Same hcall rfl pendNil fun H2 h2 => ⟨fun h6 => ?_, fun h6 => ?_⟩
    · simp only [ev0, ev, evV, List.cons_append, List.nil_append, List.getD_cons_zero, List.getD_cons_succ, List.map_cons, List.map_nil, iOf, bOf, sOf, pOf, slLen, slBase, cmpI, arI, Value.ite_bool, int_beq, int_bne, ite_band, ite_bor, Bool.not_eq_true', decide_eq_false_iff_not] at h6
      refine ⟨?_, PH.le_trans hle h2⟩
      have : ¬ a = b := fun x => h6 (by subst x; rw [he] at he'; exact Option.some.inj he')
      simp only [ev0, ev, evV, List.cons_append, List.nil_append, List.getD_cons_zero, List.getD_cons_succ, List.map_cons, List.map_nil, iOf, bOf, sOf, pOf, slLen, slBase, cmpI, arI, Value.ite_bool, int_beq, int_bne, ite_band, ite_bor, decide_eq_false this]
    · simp only [ev0, ev, evV, List.cons_append, List.nil_append, List.getD_cons_zero, List.getD_cons_succ, List.map_cons, List.map_nil, iOf, bOf, sOf, pOf, slLen, slBase, cmpI, arI, Value.ite_bool, int_beq, int_bne, ite_band, ite_bor, Bool.not_eq_false', decide_eq_true_eq] at h6
      refine ⟨_, lookup_hit, n - 1, by omega, k + 1, ?_, by omega, take_eq_succ htk he he' h6, PH.le_trans hle h2⟩
      simp only [ev0, ev, evV, List.cons_append, List.nil_append, List.getD_cons_zero, List.getD_cons_succ, List.map_cons, List.map_nil, iOf, bOf, sOf, pOf, slLen, slBase, cmpI, arI, Value.ite_bool, int_beq, int_bne, ite_band, ite_bor]
      rw [w64 (by omega) (by omega)]
      rfl
  · simp only [ev0, ev, evV, List.cons_append, List.nil_append, List.getD_cons_zero, List.getD_cons_succ, List.map_cons, List.map_nil, iOf, bOf, sOf, pOf, slLen, slBase, cmpI, arI, Value.ite_bool, int_beq, int_bne, ite_band, ite_bor, decide_eq_false_iff_not] at h5
    refine ⟨?_, hle⟩
    have : a = b := heq.2 (by rw [List.take_of_length_le (by omega), List.take_of_length_le (by omega)] at htk; exact htk)
    simp only [ev0, ev, evV, List.cons_append, List.nil_append, List.getD_cons_zero, List.getD_cons_succ, List.map_cons, List.map_nil, iOf, bOf, sOf, pOf, slLen, slBase, cmpI, arI, Value.ite_bool, int_beq, int_bne, ite_band, ite_bor, decide_eq_true this]

/-! ### how many data there are in some, up to 100001 -/
mutual
def Dat.cnt : Dat → Nat
  | .mk _ _ _ l => 1 + Dats.cnt l
def Dats.cnt : List Dat → Nat
  | [] => 0
  | d :: l => Dat.cnt d + Dats.cnt l
end
theorem Dat.cnt_eq (d : Dat) : d.cnt = 1 + Dats.cnt d.list := by cases d; simp only [Dat.cnt, Dat.list]
theorem Dats.cnt_le : ∀ l : List Dat, l.length ≤ Dats.cnt l
  | [] => by simp
  | d :: l => by
    have := Dats.cnt_le l
    have h := Dat.cnt_eq d
    simp only [Dats.cnt, List.length_cons]; omega
theorem Dats.cnt_append : ∀ l m : List Dat, Dats.cnt (l ++ m) = Dats.cnt l + Dats.cnt m
  | [], m => by simp [Dats.cnt]
  | d :: l, m => by simp only [List.cons_append, Dats.cnt, Dats.cnt_append l m]; omega
theorem Dats.cnt_mem : ∀ {l : List Dat} {d : Dat}, d ∈ l → d.cnt ≤ Dats.cnt l
  | [], d, h => by cases h
  | e :: l, d, h => by
    simp only [Dats.cnt]
    rcases List.mem_cons.1 h with rfl | h
    · omega
    · have := Dats.cnt_mem h; omega
theorem Dats.cnt_take_succ {l : List Dat} {k : Nat} {d : Dat} (h : l[k]? = some d) : Dats.cnt (l.take (k + 1)) = Dats.cnt (l.take k) + d.cnt := by
  rw [List.take_add_one, h, Dats.cnt_append]; simp [Dats.cnt]
theorem Dats.cnt_take_le : ∀ (l : List Dat) (k : Nat), Dats.cnt (l.take k) ≤ Dats.cnt l := fun l k => by
  have := Dats.cnt_append (l.take k) (l.drop k)
  rw [List.take_append_drop] at this; omega
theorem left_gives : ∀ (d : Dat) (n : Nat) (cs : List Value) (H : PH), d.Rep H cs → n ≤ 100001 → Gives Tryd.prog n_scrimshawref02_left [.agg cs.toArray, .int .i64 n] H (.int .i64 ((n - d.cnt : Nat) : Int)) := by
  refine Dat.ind ?_
  intro d ih n0 cs H hd hn
  obtain ⟨sv, rfl, _, _, _, hs⟩ := Dat.Rep_iff.1 hd
  obtain ⟨b, c, rfl⟩ := hs.sl
  have hll := hs.max
  simp only [maxLen] at hll
  refine tri_scrimshawref02_left [.int .i64 d.kind, .int .i64 d.int, txt d.text, .slice b d.list.length c, .int .i64 n0] (by kernel_rfl) (by kernel_rfl) ?_
  have hinit : (if decide ((n0 : Int) > 0) = true then Value.int .i64 (IntKind.i64.wrap ((n0 : Int) - 1)) else Value.int .i64 (n0 : Int)) = .int .i64 ((n0 - 1 : Nat) : Int) := by
    by_cases h : n0 = 0
    · subst h; rfl
    · rw [if_pos (by simp; omega), w64 (by omega) (by omega)]
      congr 1; omega
  refine ⟨fun m vs H' => ∃ k : Nat, vs = [.int .i64 ((n0 - 1 - Dats.cnt (d.list.take k) : Nat) : Int), .int .i64 k] ∧ k + m = d.list.length ∧ PH.le H H', ⟨d.list.length, 0, ?_, by omega, PH.le_refl H⟩, ?_⟩
  · simp only [ev0, ev, evV, List.cons_append, List.nil_append, List.getD_cons_zero, List.getD_cons_succ, List.map_cons, List.map_nil, iOf, bOf, sOf, pOf, slLen, slBase, cmpI, arI, Value.ite_bool, hinit, List.take_zero, Dats.cnt, Nat.sub_zero]; rfl
  rintro m vs H' _ ⟨k, rfl, hkm, hle⟩
  refine ⟨fun h5 => ?_, fun h5 => ?_⟩
  · simp only [ev0, ev, evV, List.cons_append, List.nil_append, List.getD_cons_zero, List.getD_cons_succ, List.map_cons, List.map_nil, iOf, bOf, sOf, pOf, slLen, slBase, cmpI, arI, Value.ite_bool, int_beq, int_bne, ite_band, ite_bor] at h5
    simp only [Bool.and_eq_true, decide_eq_true_eq] at h5
    obtain ⟨e, he⟩ : ∃ e, d.list[k]? = some e := ⟨_, List.getElem?_eq_getElem (show k < d.list.length by omega)⟩
    obtain ⟨g1, ces, g2, g3, _, _⟩ := SlRep.get (hs.le hle) he
    have htags := g2.tags
    have hcall := ih e (List.mem_of_getElem? he) (n0 - 1 - Dats.cnt (d.list.take k)) ces H' g2 (by omega)
    obtain ⟨sve, rfl, _⟩ := Dat.Rep_iff.1 g2
    refine ⟨fun _ => ?_, _, htags, by simp only [ev0, ev, evV, List.cons_append, List.nil_append, List.getD_cons_zero, List.getD_cons_succ, List.map_cons, List.map_nil, iOf, bOf, sOf, pOf, slLen, slBase, cmpI, arI, Value.ite_bool, int_beq, int_bne, ite_band, ite_bor]; exact g3, ?_⟩
    · simp only [Chk.holds, ev0, ev, evV, List.cons_append, List.nil_append, List.getD_cons_zero, List.getD_cons_succ, List.map_cons, List.map_nil, iOf, bOf, sOf, pOf, slLen, slBase, cmpI, arI, Value.ite_bool, int_beq, int_bne, ite_band, ite_bor]; exact ⟨g1, by omega, by omega⟩
    refine den_gives [_] cb_scrimshawref02_left hcall rfl pendNil fun H2 h2 => ⟨_, lookup_hit, m - 1, by omega, k + 1, ?_, by omega, PH.le_trans hle h2⟩
    simp only [ev0, ev, evV, List.cons_append, List.nil_append, List.getD_cons_zero, List.getD_cons_succ, List.map_cons, List.map_nil, iOf, bOf, sOf, pOf, slLen, slBase, cmpI, arI, Value.ite_bool, int_beq, int_bne, ite_band, ite_bor]
    rw [w64 (by omega) (by omega), Dats.cnt_take_succ he, Nat.sub_sub (n0 - 1)]
    rfl
  · simp only [ev0, ev, evV, List.cons_append, List.nil_append, List.getD_cons_zero, List.getD_cons_succ, List.map_cons, List.map_nil, iOf, bOf, sOf, pOf, slLen, slBase, cmpI, arI, Value.ite_bool, int_beq, int_bne, ite_band, ite_bor] at h5
    simp only [Bool.and_eq_false_iff, decide_eq_false_iff_not] at h5
    refine ⟨?_, hle⟩
    have hc := Dats.cnt_take_le d.list k
    have : ((n0 - 1 - Dats.cnt (d.list.take k) : Nat) : Int) = ((n0 - d.cnt : Nat) : Int) := by
      rw [Dat.cnt_eq]
      by_cases hk : k = d.list.length
      · rw [hk, List.take_length]; omega
      · omega
    simp only [ev0, ev, evV, List.cons_append, List.nil_append, List.getD_cons_zero, List.getD_cons_succ, List.map_cons, List.map_nil, iOf, bOf, sOf, pOf, slLen, slBase, cmpI, arI, Value.ite_bool, int_beq, int_bne, ite_band, ite_bor, this]
def hugeB (l : List Dat) : Bool := decide (100001 ≤ Dats.cnt l)
theorem Huge_gives (l : List Dat) (v : Value) (H : PH) (hs : SlR H l v) : Gives Tryd.prog n_scrimshawref02_Huge [v] H (.bool (hugeB l)) := by
  obtain ⟨b, c, rfl⟩ := hs.sl
  have hll := hs.max
  simp only [maxLen] at hll
  refine tri_scrimshawref02_Huge [.slice b l.length c] (by kernel_rfl) (by kernel_rfl) ?_
  refine ⟨fun m vs H' => ∃ k : Nat, vs = [.int .i64 ((100001 - Dats.cnt (l.take k) : Nat) : Int), .int .i64 k] ∧ k + m = l.length ∧ PH.le H H', ⟨l.length, 0, rfl, by omega, PH.le_refl H⟩, ?_⟩
  rintro m vs H' _ ⟨k, rfl, hkm, hle⟩
  refine ⟨fun h5 => ?_, fun h5 => ?_⟩
  · simp only [ev0, ev, evV, List.cons_append, List.nil_append, List.getD_cons_zero, List.getD_cons_succ, List.map_cons, List.map_nil, iOf, bOf, sOf, pOf, slLen, slBase, cmpI, arI, Value.ite_bool, int_beq, int_bne, ite_band, ite_bor] at h5
    simp only [Bool.and_eq_true, decide_eq_true_eq] at h5
    obtain ⟨e, he⟩ : ∃ e, l[k]? = some e := ⟨_, List.getElem?_eq_getElem (show k < l.length by omega)⟩
    obtain ⟨g1, ces, g2, g3, _, _⟩ := SlRep.get (hs.le hle) he
    have htags := g2.tags
    have hcall := left_gives e (100001 - Dats.cnt (l.take k)) ces H' g2 (by omega)
    obtain ⟨sve, rfl, _⟩ := Dat.Rep_iff.1 g2
    refine ⟨fun _ => ?_, _, htags, by simp only [ev0, ev, evV, List.cons_append, List.nil_append, List.getD_cons_zero, List.getD_cons_succ, List.map_cons, List.map_nil, iOf, bOf, sOf, pOf, slLen, slBase, cmpI, arI, Value.ite_bool, int_beq, int_bne, ite_band, ite_bor]; exact g3, ?_⟩
    · simp only [Chk.holds, ev0, ev, evV, List.cons_append, List.nil_append, List.getD_cons_zero, List.getD_cons_succ, List.map_cons, List.map_nil, iOf, bOf, sOf, pOf, slLen, slBase, cmpI, arI, Value.ite_bool, int_beq, int_bne, ite_band, ite_bor]; exact ⟨g1, by omega, by omega⟩
    refine den_gives [_] cb_scrimshawref02_left hcall rfl pendNil fun H2 h2 => ⟨_, lookup_hit, m - 1, by omega, k + 1, ?_, by omega, PH.le_trans hle h2⟩
    simp only [ev0, ev, evV, List.cons_append, List.nil_append, List.getD_cons_zero, List.getD_cons_succ, List.map_cons, List.map_nil, iOf, bOf, sOf, pOf, slLen, slBase, cmpI, arI, Value.ite_bool, int_beq, int_bne, ite_band, ite_bor]
    rw [w64 (by omega) (by omega), Dats.cnt_take_succ he, Nat.sub_sub]
    rfl
  · simp only [ev0, ev, evV, List.cons_append, List.nil_append, List.getD_cons_zero, List.getD_cons_succ, List.map_cons, List.map_nil, iOf, bOf, sOf, pOf, slLen, slBase, cmpI, arI, Value.ite_bool, int_beq, int_bne, ite_band, ite_bor] at h5
    simp only [Bool.and_eq_false_iff, decide_eq_false_iff_not] at h5
    refine ⟨?_, hle⟩
    have hc := Dats.cnt_take_le l k
    have : decide (((100001 - Dats.cnt (l.take k) : Nat) : Int) = 0) = hugeB l := by
      unfold hugeB
      rw [decide_eq_decide]
      by_cases hk : k = l.length
      · rw [hk, List.take_length]; omega
      · omega
    simp only [ev0, ev, evV, List.cons_append, List.nil_append, List.getD_cons_zero, List.getD_cons_succ, List.map_cons, List.map_nil, iOf, bOf, sOf, pOf, slLen, slBase, cmpI, arI, Value.ite_bool, int_beq, int_bne, ite_band, ite_bor, this]
/-- two data, laid in a row -/
theorem DatumEquals_gives (a b : Dat) (ca cb : List Value) (H : PH) (ht : Tab H) (ha : a.Rep H ca) (hb : b.Rep H cb) : Gives Tryd.prog n_scrimshawlaw02_DatumEquals [.agg ca.toArray, .agg cb.toArray] H (.bool true) := by
  have c1 := fun f (hf : ∀ a, SameAt f a) H' (hl : PH.le H H') => hf a b ca cb H' (Dat.Rep.le hl a ha) (Dat.Rep.le hl b hb)
  have c2 := fun H' (hl : PH.le H H') => Equal_gives a a ca ca H' (Dat.Rep.le hl a ha) (Dat.Rep.le hl a ha)
  have c3 := fun H' (hl : PH.le H H') => Equal_gives b a cb ca H' (Dat.Rep.le hl b hb) (Dat.Rep.le hl a ha)
  have ha' := ha
  have hb' := hb
  obtain ⟨s1, rfl, _, _, _, hs1⟩ := Dat.Rep_iff.1 ha
  obtain ⟨s2, rfl, _, _, _, hs2⟩ := Dat.Rep_iff.1 hb
  obtain ⟨b1, k1, rfl⟩ := hs1.sl
  obtain ⟨b2, k2, rfl⟩ := hs2.sl
  refine tri_scrimshawlaw02_DatumEquals [.int .i64 a.kind, .int .i64 a.int, txt a.text, .slice b1 a.list.length k1, .int .i64 b.kind, .int .i64 b.int, txt b.text, .slice b2 b.list.length k2] (by kernel_rfl) (by kernel_rfl) ?_
  refine den_lit (l := [a, b]) (b := 56) [.agg #[.int .i64 a.kind, .int .i64 a.int, txt a.text, .slice b1 a.list.length k1], .agg #[.int .i64 b.kind, .int .i64 b.int, txt b.text, .slice b2 b.list.length k2]] uDats elemDat rfl (by decide) (by decide) rfl
    (.cons ha' (.cons hb' .nil)) pendNil fun v1 H1 a1 l1 _ => ?_
  obtain ⟨bv, cv, hv⟩ := a1.sl
  refine den_gives [.bool (hugeB [a, b])] cb_scrimshawref02_Huge (Huge_gives [a, b] v1 H1 a1.slR) rfl pendNil fun H2 l2 => ?_
  have l12 := PH.le_trans l1 l2
  refine ⟨fun _ => den_gives [.bool true] cb_scrimshawlaw02_fixed (fixed_gives H2 (ht.le l12)) rfl pendNil fun H3 l3 => ⟨rfl, PH.le_trans l12 l3⟩, fun _ => ?_⟩
  refine ⟨fun vs H' => vs = [.bool true] ∧ PH.le H H', ?_, ?_⟩
  · rintro vs H' _ ⟨rfl, h⟩; exact ⟨rfl, h⟩
  refine den_gives [.bool true] cb_scrimshawlaw02_fixed (fixed_gives H2 (ht.le l12)) rfl pendNil fun H3 l3 => ⟨fun _ => ?_, fun h => absurd h (by simp [ev0, ev, evV, List.cons_append, List.nil_append, List.getD_cons_zero, List.getD_cons_succ, List.map_cons, List.map_nil, iOf, bOf, sOf, pOf, slLen, slBase, cmpI, arI, Value.ite_bool])⟩
  have l13 := PH.le_trans l12 l3
  refine den_gives [.bool (decide (a = b))] cb_data_Equal (c1 _ Equal_gives H3 l13) rfl pendNil fun H4 l4 => ?_
  have l14 := PH.le_trans l13 l4
  refine den_gives [.bool (decide (a = b))] cb_scrimshawref02_Same (c1 _ Same_gives H4 l14) rfl pendNil fun H5 l5 => ⟨fun _ => ?_, fun h => absurd h (by simp [ev0, ev, evV, List.cons_append, List.nil_append, List.getD_cons_zero, List.getD_cons_succ, List.map_cons, List.map_nil, iOf, bOf, sOf, pOf, slLen, slBase, cmpI, arI, Value.ite_bool])⟩
  have l15 := PH.le_trans l14 l5
  refine den_gives [.bool true] cb_data_Equal (by have := c2 H5 l15; rw [decide_eq_true rfl] at this; exact this) rfl pendNil fun H6 l6 => ⟨fun _ => ?_, fun h => absurd h (by simp [ev0, ev, evV, List.cons_append, List.nil_append, List.getD_cons_zero, List.getD_cons_succ, List.map_cons, List.map_nil, iOf, bOf, sOf, pOf, slLen, slBase, cmpI, arI, Value.ite_bool])⟩
  have l16 := PH.le_trans l15 l6
  refine den_gives [.bool (decide (b = a))] cb_data_Equal (c3 H6 l16) rfl pendNil fun H7 l7 => ?_
  have l17 := PH.le_trans l16 l7
  refine den_gives [.bool (decide (a = b))] cb_data_Equal (c1 _ Equal_gives H7 l17) rfl pendNil fun H8 l8 => ⟨_, lookup_hit, ?_, PH.le_trans l17 l8⟩
  have : decide (b = a) = decide (a = b) := decide_eq_decide.2 ⟨Eq.symm, Eq.symm⟩
  simp only [ev0, ev, evV, List.cons_append, List.nil_append, List.getD_cons_zero, List.getD_cons_succ, List.map_cons, List.map_nil, iOf, bOf, sOf, pOf, slLen, slBase, cmpI, arI, Value.ite_bool, this]; simp
end Go.Proofs.YtpccpepdkjdbnaaDoor.Vc
