/-
  DATA: which data may be.
-/
import Derived.Test.YtlnmmakbgldflaaGreatDoorDc
set_option linter.unusedSimpArgs false
set_option linter.unusedVariables false
set_option maxRecDepth 100000
namespace Go.Proofs.YtlnmmakbgldflaaGreatDoor.Vc
open Go

mutual
theorem Dat.ind {p : Dat → Prop} (h : ∀ d, (∀ e ∈ d.list, p e) → p d) : ∀ d, p d
  | .mk _ _ _ l => h _ (Dats.ind h l)
theorem Dats.ind {p : Dat → Prop} (h : ∀ d, (∀ e ∈ d.list, p e) → p d) : ∀ (l : List Dat), ∀ e ∈ l, p e
  | [], e, he => by cases he
  | d :: l, e, he => (List.mem_cons.1 he).elim (fun h1 => h1 ▸ Dat.ind h d) (fun h1 => Dats.ind h l e h1)
end

mutual
/-- a datum within so many, so many being looked at: how many are then, and what is wrong -/
def Dat.chk : Dat → Nat → Nat → Nat × Int
  | .mk k n t l, deep, seen => if seen = 4096 then (seen, 22) else if nested k = true ∧ deep = 32 then (seen + 1, 21) else if formOk (.mk k n t l) = false then (seen + 1, 20) else Dats.chk l (deep + 1) (seen + 1)
def Dats.chk : List Dat → Nat → Nat → Nat × Int
  | [], _, seen => (seen, 0)
  | d :: l, deep, seen => if (Dat.chk d deep seen).2 ≠ 0 then Dat.chk d deep seen else Dats.chk l deep (Dat.chk d deep seen).1
end
theorem Dat.chk_eq (d : Dat) (deep seen : Nat) : d.chk deep seen = if seen = 4096 then (seen, 22) else if nested d.kind = true ∧ deep = 32 then (seen + 1, 21) else if formOk d = false then (seen + 1, 20) else Dats.chk d.list (deep + 1) (seen + 1) := by
  cases d; simp only [Dat.chk, Dat.kind, Dat.list]; rfl
mutual
theorem Dat.chk_le : ∀ (d : Dat) (deep seen : Nat), seen ≤ 4096 → (d.chk deep seen).1 ≤ 4096
  | .mk k n t l, deep, seen, h => by
    simp only [Dat.chk]
    split
    · exact h
    split
    · simp only; omega
    split
    · simp only; omega
    · exact Dats.chk_le l _ _ (by omega)
theorem Dats.chk_le : ∀ (l : List Dat) (deep seen : Nat), seen ≤ 4096 → (Dats.chk l deep seen).1 ≤ 4096
  | [], _, seen, h => by simp only [Dats.chk]; exact h
  | d :: l, deep, seen, h => by
    simp only [Dats.chk]
    split
    · exact Dat.chk_le d _ _ h
    · exact Dats.chk_le l _ _ (Dat.chk_le d _ _ h)
end
theorem evV_tu2 (E : List Value) (r : Nat → Nat) (a b : SV) : evV E r (.tu [(false, [a]), (false, [b])]) = .tuple #[ev E r a, ev E r b] := rfl
theorem formOk_nested {d : Dat} (h : formOk d = true) (hl : d.list ≠ []) : nested d.kind = true := by
  obtain ⟨k, n, t, l⟩ := d
  simp only [formOk, nested, Dat.kind, Dat.list, Dat.int, Dat.text] at *
  have : l.isEmpty = false := by cases l <;> simp at hl ⊢
  grind

theorem RCheck_gives : ∀ (d : Dat) (cs : List Value) (H : PH) (deep seen : Nat), d.Rep H cs → deep ≤ 32 → seen ≤ 4096 →
    Gives Tryz.prog n_scrimshawref02_check [.agg cs.toArray, .int .i64 deep, .int .i64 seen] H (.tuple #[.int .i64 (d.chk deep seen).1, .int .i64 (d.chk deep seen).2]) := by
  refine Dat.ind ?_
  intro d ih cs H deep seen hd hdeep hseen
  have hd' := hd
  obtain ⟨sv, rfl, hk, hn, ht, hs⟩ := Dat.Rep_iff.1 hd
  obtain ⟨b, c, rfl⟩ := hs.sl
  have hlen : d.list.length ≤ maxLen := hs.max
  simp only [maxLen] at hlen ht
  rw [Dat.chk_eq]
  refine tri_scrimshawref02_check [.int .i64 d.kind, .int .i64 d.int, txt d.text, .slice b d.list.length c, .int .i64 deep, .int .i64 seen] (by kernel_rfl) (by kernel_rfl) ?_
  refine ⟨fun h0 => ?_, fun h0 => ?_⟩
  · simp only [ev0, ev, evV, List.cons_append, List.nil_append, List.getD_cons_zero, List.getD_cons_succ, List.map_cons, List.map_nil, iOf, bOf, sOf, pOf, slLen, slBase, cmpI, arI, Value.ite_bool, int_beq, int_bne, ite_band, ite_bor, decide_eq_true_eq] at h0
    refine ⟨?_, PH.le_refl H⟩
    rw [if_pos (by omega)]; rfl
  simp only [ev0, ev, evV, List.cons_append, List.nil_append, List.getD_cons_zero, List.getD_cons_succ, List.map_cons, List.map_nil, iOf, bOf, sOf, pOf, slLen, slBase, cmpI, arI, Value.ite_bool, int_beq, int_bne, ite_band, ite_bor, decide_eq_false_iff_not] at h0
  rw [if_neg (by omega)]
  have hs1 : IntKind.i64.wrap ((seen : Int) + 1) = ((seen + 1 : Nat) : Int) := by rw [w64 (by omega) (by omega)]; omega
  refine den_gives [.bool (nested d.kind)] cb_scrimshawref02_Nested (Nested_gives _ _ _ _ _ _ H) rfl pendNil fun H1 h1 => ?_
  refine ⟨fun h2 => ?_, fun h2 => ?_⟩
  · simp only [ev0, ev, evV, List.cons_append, List.nil_append, List.getD_cons_zero, List.getD_cons_succ, List.map_cons, List.map_nil, iOf, bOf, sOf, pOf, slLen, slBase, cmpI, arI, Value.ite_bool, int_beq, int_bne, ite_band, ite_bor, Bool.and_eq_true, decide_eq_true_eq] at h2
    refine ⟨?_, h1⟩
    rw [if_pos ⟨h2.1, by omega⟩]
    rw [evV_tu2]
    simp only [ev0, ev, evV, List.cons_append, List.nil_append, List.getD_cons_zero, List.getD_cons_succ, List.map_cons, List.map_nil, iOf, bOf, sOf, pOf, slLen, slBase, cmpI, arI, Value.ite_bool, int_beq, int_bne, ite_band, ite_bor, hs1]
  simp only [ev0, ev, evV, List.cons_append, List.nil_append, List.getD_cons_zero, List.getD_cons_succ, List.map_cons, List.map_nil, iOf, bOf, sOf, pOf, slLen, slBase, cmpI, arI, Value.ite_bool, int_beq, int_bne, ite_band, ite_bor] at h2
  rw [if_neg (fun h => by simp [h.1, h.2] at h2)]
  refine den_gives [.bool (formOk d)] cb_scrimshawref02_form (RForm_gives d H1 (Dat.Rep.le h1 d hd')) rfl pendNil fun H2 h3 => ?_
  refine ⟨fun h4 => ?_, fun h4 => ?_⟩
  · simp only [ev0, ev, evV, List.cons_append, List.nil_append, List.getD_cons_zero, List.getD_cons_succ, List.map_cons, List.map_nil, iOf, bOf, sOf, pOf, slLen, slBase, cmpI, arI, Value.ite_bool, int_beq, int_bne, ite_band, ite_bor, Bool.not_eq_true'] at h4
    refine ⟨?_, PH.le_trans h1 h3⟩
    rw [if_pos h4]
    rw [evV_tu2]
    simp only [ev0, ev, evV, List.cons_append, List.nil_append, List.getD_cons_zero, List.getD_cons_succ, List.map_cons, List.map_nil, iOf, bOf, sOf, pOf, slLen, slBase, cmpI, arI, Value.ite_bool, int_beq, int_bne, ite_band, ite_bor, hs1]
  simp only [ev0, ev, evV, List.cons_append, List.nil_append, List.getD_cons_zero, List.getD_cons_succ, List.map_cons, List.map_nil, iOf, bOf, sOf, pOf, slLen, slBase, cmpI, arI, Value.ite_bool, int_beq, int_bne, ite_band, ite_bor, Bool.not_eq_false'] at h4
  rw [if_neg (by rw [h4]; simp)]
  refine ⟨fun n vs H' => ∃ (k s : Nat) (x y z : Int), vs = [.int .i64 s, .int .i64 x, .int .i64 y, .int .i64 z, .int .i64 k] ∧ k + n = d.list.length ∧ s ≤ 4096 ∧ Dats.chk d.list (deep + 1) (seen + 1) = Dats.chk (d.list.drop k) (deep + 1) s ∧ PH.le H H',
    ⟨d.list.length, 0, seen + 1, 0, 0, 0, ?_, by omega, by omega, by simp, PH.le_trans h1 h3⟩, ?_⟩
  · simp only [ev0, ev, evV, List.cons_append, List.nil_append, List.getD_cons_zero, List.getD_cons_succ, List.map_cons, List.map_nil, iOf, bOf, sOf, pOf, slLen, slBase, cmpI, arI, Value.ite_bool, int_beq, int_bne, ite_band, ite_bor, hs1]; rfl
  rintro n vs H' _ ⟨k, s, x, y, z, rfl, hkn, hs4, heq, hle⟩
  refine ⟨fun h5 => ?_, fun h5 => ?_⟩
  · simp only [ev0, ev, evV, List.cons_append, List.nil_append, List.getD_cons_zero, List.getD_cons_succ, List.map_cons, List.map_nil, iOf, bOf, sOf, pOf, slLen, slBase, cmpI, arI, Value.ite_bool, int_beq, int_bne, ite_band, ite_bor, decide_eq_true_eq] at h5
    have hkl : k < d.list.length := by omega
    obtain ⟨e, he⟩ : ∃ e, d.list[k]? = some e := ⟨_, List.getElem?_eq_getElem hkl⟩
    obtain ⟨g1, ces, g2, g3, _, _⟩ := (hs.le hle).get he
    have hnest : nested d.kind = true := formOk_nested h4 (fun h => by rw [h] at hkl; simp at hkl)
    have hdp : deep ≠ 32 := fun h => by simp [hnest, h] at h2
    have hd1 : IntKind.i64.wrap ((deep : Int) + 1) = ((deep + 1 : Nat) : Int) := by rw [w64 (by omega) (by omega)]; omega
    refine ⟨fun _ => ?_, ?_⟩
    · simp only [Chk.holds, ev0, ev, evV, List.cons_append, List.nil_append, List.getD_cons_zero, List.getD_cons_succ, List.map_cons, List.map_nil, iOf, bOf, sOf, pOf, slLen, slBase, cmpI, arI, Value.ite_bool, int_beq, int_bne, ite_band, ite_bor]; exact ⟨g1, by omega, by omega⟩
    have htags := g2.tags
    have hcall := ih e (List.mem_of_getElem? he) ces H' (deep + 1) s g2 (by omega) hs4
    obtain ⟨sve, rfl, _⟩ := Dat.Rep_iff.1 g2
    refine ⟨_, htags, ?_, ?_⟩
    · simp only [ev0, ev, evV, List.cons_append, List.nil_append, List.getD_cons_zero, List.getD_cons_succ, List.map_cons, List.map_nil, iOf, bOf, sOf, pOf, slLen, slBase, cmpI, arI, Value.ite_bool, int_beq, int_bne, ite_band, ite_bor]; exact g3
    refine den_gives [.int .i64 (e.chk (deep + 1) s).1, .int .i64 (e.chk (deep + 1) s).2] cb_scrimshawref02_check ?_ rfl pendNil fun H3 h6 => ?_
    · simp only [ev0, ev, evV, List.cons_append, List.nil_append, List.getD_cons_zero, List.getD_cons_succ, List.map_cons, List.map_nil, iOf, bOf, sOf, pOf, slLen, slBase, cmpI, arI, Value.ite_bool, int_beq, int_bne, ite_band, ite_bor, hd1]
      exact hcall
    have hdrop : d.list.drop k = e :: d.list.drop (k + 1) := by
      rw [List.drop_eq_getElem_cons hkl]
      congr 1
      rw [List.getElem?_eq_getElem hkl] at he
      exact Option.some.inj he
    rw [hdrop] at heq
    simp only [Dats.chk] at heq
    refine ⟨fun h7 => ?_, fun h7 => ?_⟩
    · simp only [ev0, ev, evV, List.cons_append, List.nil_append, List.getD_cons_zero, List.getD_cons_succ, List.map_cons, List.map_nil, iOf, bOf, sOf, pOf, slLen, slBase, cmpI, arI, Value.ite_bool, int_beq, int_bne, ite_band, ite_bor, decide_eq_true_eq] at h7
      refine ⟨?_, PH.le_trans hle h6⟩
      rw [heq, if_pos h7, evV_tu2]
      simp only [ev0, ev, evV, List.cons_append, List.nil_append, List.getD_cons_zero, List.getD_cons_succ, List.map_cons, List.map_nil, iOf, bOf, sOf, pOf, slLen, slBase, cmpI, arI, Value.ite_bool, int_beq, int_bne, ite_band, ite_bor]
    · simp only [ev0, ev, evV, List.cons_append, List.nil_append, List.getD_cons_zero, List.getD_cons_succ, List.map_cons, List.map_nil, iOf, bOf, sOf, pOf, slLen, slBase, cmpI, arI, Value.ite_bool, int_beq, int_bne, ite_band, ite_bor, decide_eq_false_iff_not, ne_eq, Decidable.not_not] at h7
      rw [if_neg (by simp [h7])] at heq
      refine ⟨_, lookup_hit, n - 1, by omega, k + 1, (e.chk (deep + 1) s).1, x, y, (e.chk (deep + 1) s).2, ?_, by omega, Dat.chk_le e _ _ hs4, heq, PH.le_trans hle h6⟩
      simp only [ev0, ev, evV, List.cons_append, List.nil_append, List.getD_cons_zero, List.getD_cons_succ, List.map_cons, List.map_nil, iOf, bOf, sOf, pOf, slLen, slBase, cmpI, arI, Value.ite_bool, int_beq, int_bne, ite_band, ite_bor]
      rw [w64 (by omega) (by omega)]
      rfl
  · simp only [ev0, ev, evV, List.cons_append, List.nil_append, List.getD_cons_zero, List.getD_cons_succ, List.map_cons, List.map_nil, iOf, bOf, sOf, pOf, slLen, slBase, cmpI, arI, Value.ite_bool, int_beq, int_bne, ite_band, ite_bor, decide_eq_false_iff_not] at h5
    refine ⟨?_, hle⟩
    have : k = d.list.length := by omega
    subst this
    rw [heq, List.drop_length]
    simp only [Dats.chk]
    rfl
end Go.Proofs.YtlnmmakbgldflaaGreatDoor.Vc

