/-
  DATA: a datum in the heap; which fields may be.
-/
import Derived.Test.YtlnmmakbgldflaaGreatDoorDa
set_option linter.unusedSimpArgs false
set_option linter.unusedVariables false
set_option maxRecDepth 100000
namespace Go.Proofs.YtlnmmakbgldflaaGreatDoor.Vc
open Go

inductive Dat where
  | mk (kind int : Int) (text : List UInt8) (list : List Dat)
def Dat.kind : Dat → Int
  | .mk k _ _ _ => k
def Dat.int : Dat → Int
  | .mk _ n _ _ => n
def Dat.text : Dat → List UInt8
  | .mk _ _ t _ => t
def Dat.list : Dat → List Dat
  | .mk _ _ _ l => l
def InI (n : Int) : Prop := -9223372036854775808 ≤ n ∧ n ≤ 9223372036854775807

mutual
def Dat.pv : Dat → List PV
  | .mk k n t l => [.int .i64 k, .int .i64 n, .str t, .sl (Dats.pvs l)]
def Dats.pvs : List Dat → List (List PV)
  | [] => []
  | d :: l => Dat.pv d :: Dats.pvs l
end
theorem Dats.pvs_eq : ∀ l : List Dat, Dats.pvs l = l.map Dat.pv
  | [] => by simp only [Dats.pvs, List.map_nil]
  | d :: l => by simp only [Dats.pvs, List.map_cons, Dats.pvs_eq l]
instance encDat : Enc Dat := ⟨Dat.pv, 4, fun d => by cases d; simp only [Dat.pv, List.length_cons, List.length_nil]⟩
/-- these cells are the datum -/
abbrev Dat.Rep (H : PH) (d : Dat) (cs : List Value) : Prop := CsR H d cs
/-- the slice holds these data -/
abbrev SlRep (H : PH) (l : List Dat) (sv : Value) : Prop := SlR H l sv
theorem inI64 {n : Int} : (IntKind.i64.min ≤ n ∧ n ≤ IntKind.i64.max) ↔ InI n := Iff.rfl

theorem Dat.Rep_iff {H : PH} {d : Dat} {cs : List Value} : d.Rep H cs ↔ ∃ sv, cs = [.int .i64 d.kind, .int .i64 d.int, txt d.text, sv] ∧ InI d.kind ∧ InI d.int ∧ d.text.length ≤ maxLen ∧ SlRep H d.list sv := by
  obtain ⟨k, n, t, l⟩ := d
  unfold Dat.Rep CsR SlRep SlR slp
  show PV.RepRow H (Dat.pv _) cs ↔ _
  simp only [Dat.pv, PV.RepRow, Dat.kind, Dat.int, Dat.text, Dat.list, Dats.pvs_eq]
  constructor
  · rintro ⟨v1, vs1, rfl, h1, v2, vs2, rfl, h2, v3, vs3, rfl, h3, v4, vs4, rfl, h4, rfl⟩
    simp only [PV.Rep] at h1 h2 h3
    obtain ⟨rfl, h1⟩ := h1
    obtain ⟨rfl, h2⟩ := h2
    obtain ⟨rfl, h3⟩ := h3
    exact ⟨v4, rfl, inI64.1 h1, inI64.1 h2, h3, h4⟩
  · rintro ⟨sv, rfl, h1, h2, h3, h4⟩
    refine ⟨_, _, rfl, ?_, _, _, rfl, ?_, _, _, rfl, ?_, _, _, rfl, h4, rfl⟩
    · simp only [PV.Rep]; exact ⟨trivial, inI64.2 h1⟩
    · simp only [PV.Rep]; exact ⟨trivial, inI64.2 h2⟩
    · simp only [PV.Rep]; exact ⟨trivial, h3⟩

theorem Dat.Rep.le {H H' : PH} (h : PH.le H H') (d : Dat) {cs : List Value} (hd : d.Rep H cs) : d.Rep H' cs := CsR.le h hd
theorem SlRep.le {H H' : PH} (h : PH.le H H') {l : List Dat} {sv : Value} (hs : SlRep H l sv) : SlRep H' l sv := SlR.le h hs
theorem SlRep.len {H : PH} {l : List Dat} {sv : Value} (h : SlRep H l sv) : slLen sv = l.length := SlR.len h
theorem SlRep.sl {H : PH} {l : List Dat} {sv : Value} (h : SlRep H l sv) : ∃ b c, sv = .slice b l.length c := SlR.sl h
theorem SlRep.max {H : PH} {l : List Dat} {sv : Value} (h : SlRep H l sv) : l.length ≤ maxLen := SlR.max h
/-- the cells of element i -/
theorem SlRep.get {H : PH} {l : List Dat} {sv : Value} (h : SlRep H l sv) {i : Nat} {d : Dat} (hi : l[i]? = some d) :
    (slBase sv).isSome = true ∧ ∃ cs, d.Rep H cs ∧ rowAt H (pOf (eltV sv (i : Int) 4)) cs ∧ rowAt H ((pOf (eltV sv (i : Int) 4)).map (·.add 0)) [.int .i64 d.kind] ∧ (pOf (eltV sv (i : Int) 4)).isSome = true := by
  obtain ⟨h1, h2, cs, h3, h4⟩ := SlR.get h hi
  refine ⟨h1, cs, h3, h4, ?_, h2⟩
  obtain ⟨sv', h7, _⟩ := Dat.Rep_iff.1 h3
  have := rowAt_sub h4 0 1
  rw [h7] at this
  exact this
theorem Dat.Rep.tags {H : PH} {d : Dat} {cs : List Value} (h : d.Rep H cs) : tagsOk [.int .i64, .int .i64, .str, .sl] cs = true := by
  obtain ⟨sv, rfl, _, _, _, hs⟩ := Dat.Rep_iff.1 h
  obtain ⟨b, c, rfl⟩ := hs.sl
  rfl

theorem int_beq (a b : Int) : (a == b) = decide (a = b) := by by_cases h : a = b <;> simp [h]
theorem int_bne (a b : Int) : (a != b) = decide (a ≠ b) := by by_cases h : a = b <;> simp [h]
theorem ite_band (a b : Bool) : (if a = true then b else false) = (a && b) := by cases a <;> rfl
theorem ite_bor (a b : Bool) : (if a = true then true else b) = (a || b) := by cases a <;> rfl
def nested (k : Int) : Bool := decide (k = 5) || decide (k = 6) || decide (k = 7)
theorem hasItems_gives (k n : Int) (t : List UInt8) (b : Option Addr) (m c : Nat) (H : PH) : Gives Tryz.prog n_data_hasItems [.agg #[.int .i64 k, .int .i64 n, txt t, .slice b m c]] H (.bool (nested k)) := by
  refine tri_data_hasItems [.int .i64 k, .int .i64 n, txt t, .slice b m c] (by kernel_rfl) (by kernel_rfl) ⟨?_, PH.le_refl H⟩
  have : (if decide (k ≥ 5) = true then decide (k ≤ 7) else false) = nested k := by
    unfold nested
    by_cases h : 5 ≤ k
    · by_cases h2 : k ≤ 7
      · have : k = 5 ∨ k = 6 ∨ k = 7 := by omega
        rcases this with rfl | rfl | rfl <;> rfl
      · have h5 : k ≠ 5 := by omega
        have h6 : k ≠ 6 := by omega
        have h7 : k ≠ 7 := by omega
        simp [h2, h5, h6, h7]
    · have h5 : k ≠ 5 := by omega
      have h6 : k ≠ 6 := by omega
      have h7 : k ≠ 7 := by omega
      simp [h, h5, h6, h7]
  simp only [ev0, ev, evV, List.cons_append, List.nil_append, List.getD_cons_zero, List.getD_cons_succ, List.map_cons, List.map_nil, iOf, bOf, sOf, pOf, slLen, slBase, cmpI, arI, Value.ite_bool, this]
theorem Nested_gives (k n : Int) (t : List UInt8) (b : Option Addr) (m c : Nat) (H : PH) : Gives Tryz.prog n_scrimshawref02_Nested [.agg #[.int .i64 k, .int .i64 n, txt t, .slice b m c]] H (.bool (nested k)) := by
  refine tri_scrimshawref02_Nested [.int .i64 k, .int .i64 n, txt t, .slice b m c] (by kernel_rfl) (by kernel_rfl) ⟨?_, PH.le_refl H⟩
  simp only [ev0, ev, evV, List.cons_append, List.nil_append, List.getD_cons_zero, List.getD_cons_succ, List.map_cons, List.map_nil, iOf, bOf, sOf, pOf, slLen, slBase, cmpI, arI, Value.ite_bool, int_beq, int_bne, ite_band, ite_bor, nested]
/-- may a datum's own fields be? -/
def formOk (d : Dat) : Bool :=
  if d.kind = 0 then decide (d.text = []) && d.list.isEmpty && (decide (d.int = 0) || decide (d.int = 1))
  else if d.kind = 1 then decide (d.text = []) && d.list.isEmpty && decide (-1152921504606846976 ≤ d.int) && decide (d.int < 1152921504606846976)
  else if d.kind = 2 then decide (d.text = []) && d.list.isEmpty && decide (0 ≤ d.int) && decide (d.int ≤ 255)
  else if d.kind = 3 then decide (d.int = 0) && d.list.isEmpty && decide (d.text.length ≤ 4096)
  else if d.kind = 4 then decide (d.int = 0) && d.list.isEmpty && nameOk d.text
  else if d.kind = 5 ∨ d.kind = 7 then decide (d.int = 0) && decide (d.text = [])
  else if d.kind = 6 then decide (d.int = 0) && decide (d.text = []) && decide (2 ≤ d.list.length) && (match d.list[d.list.length - 1]? with | some e => decide (e.kind ≠ 5) && decide (e.kind ≠ 6) | none => false)
  else false

theorem list_empty {α : Type} (l : List α) : decide ((l.length : Int) = 0) = l.isEmpty := by cases l <;> simp; omega
theorem RForm_gives (d : Dat) {cs : List Value} (H : PH) (hd : d.Rep H cs) : Gives Tryz.prog n_scrimshawref02_form [.agg cs.toArray] H (.bool (formOk d)) := by
  obtain ⟨sv, rfl, hk, hn, ht, hs⟩ := Dat.Rep_iff.1 hd
  obtain ⟨b, c, rfl⟩ := hs.sl
  refine tri_scrimshawref02_form [.int .i64 d.kind, .int .i64 d.int, txt d.text, .slice b d.list.length c] (by kernel_rfl) (by kernel_rfl) ?_
  have hlen : d.list.length ≤ maxLen := hs.max
  simp only [maxLen] at hlen
  have leaf : ∀ (x : Bool), x = formOk d → (Ending.returned (.bool x) = Ending.returned (.bool (formOk d)) ∧ PH.le H H) := fun x hx => ⟨by rw [hx], PH.le_refl H⟩
  refine ⟨fun h0 => ?_, fun h0 => ?_⟩
  · simp only [ev0, ev, evV, List.cons_append, List.nil_append, List.getD_cons_zero, List.getD_cons_succ, List.map_cons, List.map_nil, iOf, bOf, sOf, pOf, slLen, slBase, cmpI, arI, Value.ite_bool, int_beq, int_bne, ite_band, ite_bor, decide_eq_true_eq] at h0
    refine ⟨?_, PH.le_refl H⟩
    simp only [formOk, if_pos h0, ev0, ev, evV, List.cons_append, List.nil_append, List.getD_cons_zero, List.getD_cons_succ, List.map_cons, List.map_nil, iOf, bOf, sOf, pOf, slLen, slBase, cmpI, arI, Value.ite_bool, int_beq, int_bne, ite_band, ite_bor, txt_eql, list_empty]
  simp only [ev0, ev, evV, List.cons_append, List.nil_append, List.getD_cons_zero, List.getD_cons_succ, List.map_cons, List.map_nil, iOf, bOf, sOf, pOf, slLen, slBase, cmpI, arI, Value.ite_bool, int_beq, int_bne, ite_band, ite_bor, decide_eq_false_iff_not] at h0
  refine ⟨fun h1 => ?_, fun h1 => ?_⟩
  · simp only [ev0, ev, evV, List.cons_append, List.nil_append, List.getD_cons_zero, List.getD_cons_succ, List.map_cons, List.map_nil, iOf, bOf, sOf, pOf, slLen, slBase, cmpI, arI, Value.ite_bool, int_beq, int_bne, ite_band, ite_bor, decide_eq_true_eq] at h1
    refine ⟨?_, PH.le_refl H⟩
    simp only [formOk, if_neg h0, if_pos h1, ev0, ev, evV, List.cons_append, List.nil_append, List.getD_cons_zero, List.getD_cons_succ, List.map_cons, List.map_nil, iOf, bOf, sOf, pOf, slLen, slBase, cmpI, arI, Value.ite_bool, int_beq, int_bne, ite_band, ite_bor, txt_eql, list_empty, ge_iff_le]
  simp only [ev0, ev, evV, List.cons_append, List.nil_append, List.getD_cons_zero, List.getD_cons_succ, List.map_cons, List.map_nil, iOf, bOf, sOf, pOf, slLen, slBase, cmpI, arI, Value.ite_bool, int_beq, int_bne, ite_band, ite_bor, decide_eq_false_iff_not] at h1
  refine ⟨fun h2 => ?_, fun h2 => ?_⟩
  · simp only [ev0, ev, evV, List.cons_append, List.nil_append, List.getD_cons_zero, List.getD_cons_succ, List.map_cons, List.map_nil, iOf, bOf, sOf, pOf, slLen, slBase, cmpI, arI, Value.ite_bool, int_beq, int_bne, ite_band, ite_bor, decide_eq_true_eq] at h2
    refine ⟨?_, PH.le_refl H⟩
    simp only [formOk, if_neg h0, if_neg h1, if_pos h2, ev0, ev, evV, List.cons_append, List.nil_append, List.getD_cons_zero, List.getD_cons_succ, List.map_cons, List.map_nil, iOf, bOf, sOf, pOf, slLen, slBase, cmpI, arI, Value.ite_bool, int_beq, int_bne, ite_band, ite_bor, txt_eql, list_empty, ge_iff_le]
  simp only [ev0, ev, evV, List.cons_append, List.nil_append, List.getD_cons_zero, List.getD_cons_succ, List.map_cons, List.map_nil, iOf, bOf, sOf, pOf, slLen, slBase, cmpI, arI, Value.ite_bool, int_beq, int_bne, ite_band, ite_bor, decide_eq_false_iff_not] at h2
  refine ⟨fun h3 => ?_, fun h3 => ?_⟩
  · simp only [ev0, ev, evV, List.cons_append, List.nil_append, List.getD_cons_zero, List.getD_cons_succ, List.map_cons, List.map_nil, iOf, bOf, sOf, pOf, slLen, slBase, cmpI, arI, Value.ite_bool, int_beq, int_bne, ite_band, ite_bor, decide_eq_true_eq] at h3
    refine ⟨?_, PH.le_refl H⟩
    simp only [formOk, if_neg h0, if_neg h1, if_neg h2, if_pos h3, ev0, ev, evV, List.cons_append, List.nil_append, List.getD_cons_zero, List.getD_cons_succ, List.map_cons, List.map_nil, iOf, bOf, sOf, pOf, slLen, slBase, cmpI, arI, Value.ite_bool, int_beq, int_bne, ite_band, ite_bor, txt_eql, list_empty, txt_size]
    congr 3
    simp; omega
  simp only [ev0, ev, evV, List.cons_append, List.nil_append, List.getD_cons_zero, List.getD_cons_succ, List.map_cons, List.map_nil, iOf, bOf, sOf, pOf, slLen, slBase, cmpI, arI, Value.ite_bool, int_beq, int_bne, ite_band, ite_bor, decide_eq_false_iff_not] at h3
  refine ⟨fun h4 => ?_, fun h4 => ?_⟩
  · simp only [ev0, ev, evV, List.cons_append, List.nil_append, List.getD_cons_zero, List.getD_cons_succ, List.map_cons, List.map_nil, iOf, bOf, sOf, pOf, slLen, slBase, cmpI, arI, Value.ite_bool, int_beq, int_bne, ite_band, ite_bor, decide_eq_true_eq] at h4
    refine ⟨fun vs H' => vs = [.bool (formOk d)] ∧ PH.le H H', ?_, ?_⟩
    · rintro vs H' _ ⟨rfl, hl⟩; exact ⟨rfl, hl⟩
    · have hfo : formOk d = (decide (d.int = 0) && d.list.isEmpty && nameOk d.text) := by
        simp only [formOk, if_neg h0, if_neg h1, if_neg h2, if_neg h3, if_pos h4]
      refine ⟨fun hb => ?_, fun hb => ?_⟩
      · simp only [ev0, ev, evV, List.cons_append, List.nil_append, List.getD_cons_zero, List.getD_cons_succ, List.map_cons, List.map_nil, iOf, bOf, sOf, pOf, slLen, slBase, cmpI, arI, Value.ite_bool, int_beq, int_bne, ite_band, ite_bor, list_empty] at hb
        refine den_gives [.bool (nameOk d.text)] cb_scrimshawref02_Name (RName_gives d.text ht H) rfl pendNil fun H2 h2 => ?_
        refine ⟨_, lookup_hit, ?_, h2⟩
        rw [hfo, hb]; rfl
      · simp only [ev0, ev, evV, List.cons_append, List.nil_append, List.getD_cons_zero, List.getD_cons_succ, List.map_cons, List.map_nil, iOf, bOf, sOf, pOf, slLen, slBase, cmpI, arI, Value.ite_bool, int_beq, int_bne, ite_band, ite_bor, list_empty] at hb
        refine ⟨_, lookup_hit, ?_, PH.le_refl H⟩
        rw [hfo, hb]; rfl
  simp only [ev0, ev, evV, List.cons_append, List.nil_append, List.getD_cons_zero, List.getD_cons_succ, List.map_cons, List.map_nil, iOf, bOf, sOf, pOf, slLen, slBase, cmpI, arI, Value.ite_bool, int_beq, int_bne, ite_band, ite_bor, decide_eq_false_iff_not] at h4
  refine ⟨fun h5 => ?_, fun h5 => ?_⟩
  · simp only [ev0, ev, evV, List.cons_append, List.nil_append, List.getD_cons_zero, List.getD_cons_succ, List.map_cons, List.map_nil, iOf, bOf, sOf, pOf, slLen, slBase, cmpI, arI, Value.ite_bool, int_beq, int_bne, ite_band, ite_bor] at h5
    have h57 : d.kind = 5 ∨ d.kind = 7 := by
      by_cases h : d.kind = 5
      · exact .inl h
      · simp [h] at h5; exact .inr h5
    refine ⟨?_, PH.le_refl H⟩
    simp only [formOk, if_neg h0, if_neg h1, if_neg h2, if_neg h3, if_neg h4, if_pos h57, ev0, ev, evV, List.cons_append, List.nil_append, List.getD_cons_zero, List.getD_cons_succ, List.map_cons, List.map_nil, iOf, bOf, sOf, pOf, slLen, slBase, cmpI, arI, Value.ite_bool, int_beq, int_bne, ite_band, ite_bor, txt_eql]
  simp only [ev0, ev, evV, List.cons_append, List.nil_append, List.getD_cons_zero, List.getD_cons_succ, List.map_cons, List.map_nil, iOf, bOf, sOf, pOf, slLen, slBase, cmpI, arI, Value.ite_bool, int_beq, int_bne, ite_band, ite_bor] at h5
  have h57 : ¬ (d.kind = 5 ∨ d.kind = 7) := by
    rintro (h | h)
    · simp [h] at h5
    · simp [h] at h5
  refine ⟨fun h6 => ?_, fun h6 => ?_⟩
  · simp only [ev0, ev, evV, List.cons_append, List.nil_append, List.getD_cons_zero, List.getD_cons_succ, List.map_cons, List.map_nil, iOf, bOf, sOf, pOf, slLen, slBase, cmpI, arI, Value.ite_bool, int_beq, int_bne, ite_band, ite_bor, decide_eq_true_eq] at h6
    have hfo : formOk d = (decide (d.int = 0) && decide (d.text = []) && decide (2 ≤ d.list.length) && (match d.list[d.list.length - 1]? with | some e => decide (e.kind ≠ 5) && decide (e.kind ≠ 6) | none => false)) := by
      simp only [formOk, if_neg h0, if_neg h1, if_neg h2, if_neg h3, if_neg h4, if_neg h57, if_pos h6]
    refine ⟨fun vs H' => vs = [.bool (formOk d)] ∧ PH.le H H', ?_, ?_⟩
    · rintro vs H' _ ⟨rfl, hl⟩; exact ⟨rfl, hl⟩
    have hcond : ∀ E : List Value, E.getD 1 (Value.bool false) = .int .i64 d.int → E.getD 2 (Value.bool false) = txt d.text → E.getD 3 (Value.bool false) = .slice b d.list.length c →
        bOf (ev0 E (.pick (.pick (.cmp .eql (.atom 1) (.int .i64 0)) (.scmp .eql (.atom 2) (.str [])) (.bool false)) (.cmp .geq (.len (.atom 3)) (.int .i64 2)) (.bool false))) = (decide (d.int = 0) && decide (d.text = []) && decide (2 ≤ d.list.length)) := by
      intro E e1 e2 e3
      simp only [ev0, ev, evV, List.cons_append, List.nil_append, List.getD_cons_zero, List.getD_cons_succ, List.map_cons, List.map_nil, iOf, bOf, sOf, pOf, slLen, slBase, cmpI, arI, Value.ite_bool, int_beq, int_bne, ite_band, ite_bor, e1, e2, e3, txt_eql]
      congr 1
      simp; omega
    have hidx : ∀ E : List Value, E.getD 3 (Value.bool false) = .slice b d.list.length c → 2 ≤ d.list.length → ev0 E (.ar .sub .i64 (.len (.atom 3)) (.int .i64 1)) = .int .i64 ((d.list.length - 1 : Nat) : Int) := by
      intro E e3 h2
      simp only [ev0, ev, evV, List.cons_append, List.nil_append, List.getD_cons_zero, List.getD_cons_succ, List.map_cons, List.map_nil, iOf, bOf, sOf, pOf, slLen, slBase, cmpI, arI, Value.ite_bool, int_beq, int_bne, ite_band, ite_bor, e3]
      rw [w64 (by omega) (by omega)]
      congr 1; omega
    have hlast : 2 ≤ d.list.length → ∃ e, d.list[d.list.length - 1]? = some e := fun h2 => ⟨_, List.getElem?_eq_getElem (by omega)⟩
    have hin : ∀ E : List Value, E.getD 3 (Value.bool false) = .slice b d.list.length c → 2 ≤ d.list.length → Chk.holds E (.inSl (.atom 3) (.ar .sub .i64 (.len (.atom 3)) (.int .i64 1))) := by
      intro E e3 h2
      obtain ⟨e, he⟩ := hlast h2
      have := (hs.get he).1
      show (slBase (E.getD 3 (Value.bool false))).isSome = true ∧ 0 ≤ iOf (ev0 E _) ∧ iOf (ev0 E _) < slLen (E.getD 3 (Value.bool false))
      rw [hidx E e3 h2, e3]
      exact ⟨this, by simp only [iOf]; omega, by simp only [iOf, slLen]; omega⟩
    have hso : ∀ E : List Value, E.getD 3 (Value.bool false) = .slice b d.list.length c → 2 ≤ d.list.length → Chk.holds E (.some (.elt (.atom 3) (.ar .sub .i64 (.len (.atom 3)) (.int .i64 1)) 4)) := by
      intro E e3 h2
      obtain ⟨e, he⟩ := hlast h2
      obtain ⟨_, _, _, _, _, h⟩ := hs.get he
      show (pOf (eltV (E.getD 3 (Value.bool false)) (iOf (ev0 E _)) 4)).isSome = true
      rw [hidx E e3 h2, e3]; exact h
    have hrow : ∀ E : List Value, E.getD 3 (Value.bool false) = .slice b d.list.length c → 2 ≤ d.list.length → ∀ e, d.list[d.list.length - 1]? = some e → rowAt H (pOf (ev0 E (.padd (.elt (.atom 3) (.ar .sub .i64 (.len (.atom 3)) (.int .i64 1)) 4) 0))) [.int .i64 e.kind] := by
      intro E e3 h2 e he
      obtain ⟨_, _, _, _, h, _⟩ := hs.get he
      show rowAt H ((pOf (eltV (E.getD 3 (Value.bool false)) (iOf (ev0 E _)) 4)).map (·.add 0)) _
      rw [hidx E e3 h2, e3]; exact h
    have h2of : (decide (d.int = 0) && decide (d.text = []) && decide (2 ≤ d.list.length)) = true → 2 ≤ d.list.length := fun h => by
      simp only [Bool.and_eq_true, decide_eq_true_eq] at h; exact h.2
    refine ⟨fun hg => ?_, fun hg => ?_, fun hc => ?_, fun hc => ?_⟩
    · exact hin _ rfl (h2of ((hcond _ rfl rfl rfl).symm.trans (hg _ (List.mem_singleton.2 rfl))))
    · exact hso _ rfl (h2of ((hcond _ rfl rfl rfl).symm.trans (hg _ (List.mem_singleton.2 rfl))))
    · rw [hcond _ rfl rfl rfl] at hc
      have h2 := h2of hc
      obtain ⟨e, he⟩ := hlast h2
      rw [hc, he] at hfo
      refine ⟨[.int .i64 e.kind], rfl, hrow _ rfl h2 e he, fun _ => hin _ rfl h2, fun _ => hso _ rfl h2, fun hx => ?_, fun hx => ?_⟩
      · simp only [ev0, ev, evV, List.cons_append, List.nil_append, List.getD_cons_zero, List.getD_cons_succ, List.map_cons, List.map_nil, iOf, bOf, sOf, pOf, slLen, slBase, cmpI, arI, Value.ite_bool, int_beq, int_bne, ite_band, ite_bor, decide_eq_true_eq] at hx
        refine ⟨[.int .i64 e.kind], rfl, hrow _ rfl h2 e he, _, lookup_hit, ?_, PH.le_refl H⟩
        rw [hfo]
        simp only [ev0, ev, evV, List.cons_append, List.nil_append, List.getD_cons_zero, List.getD_cons_succ, List.map_cons, List.map_nil, iOf, bOf, sOf, pOf, slLen, slBase, cmpI, arI, Value.ite_bool, int_beq, int_bne, ite_band, ite_bor]
        simp [hx]
      · simp only [ev0, ev, evV, List.cons_append, List.nil_append, List.getD_cons_zero, List.getD_cons_succ, List.map_cons, List.map_nil, iOf, bOf, sOf, pOf, slLen, slBase, cmpI, arI, Value.ite_bool, int_beq, int_bne, ite_band, ite_bor, decide_eq_false_iff_not] at hx
        refine ⟨_, lookup_hit, ?_, PH.le_refl H⟩
        rw [hfo]
        simp only [ev0, ev, evV, List.cons_append, List.nil_append, List.getD_cons_zero, List.getD_cons_succ, List.map_cons, List.map_nil, iOf, bOf, sOf, pOf, slLen, slBase, cmpI, arI, Value.ite_bool, int_beq, int_bne, ite_band, ite_bor]
        simp [hx]
    · rw [hcond _ rfl rfl rfl] at hc
      rw [hc] at hfo
      exact ⟨_, lookup_hit, by rw [hfo]; rfl, PH.le_refl H⟩
  · simp only [ev0, ev, evV, List.cons_append, List.nil_append, List.getD_cons_zero, List.getD_cons_succ, List.map_cons, List.map_nil, iOf, bOf, sOf, pOf, slLen, slBase, cmpI, arI, Value.ite_bool, int_beq, int_bne, ite_band, ite_bor, decide_eq_false_iff_not] at h6
    refine ⟨?_, PH.le_refl H⟩
    simp only [formOk, if_neg h0, if_neg h1, if_neg h2, if_neg h3, if_neg h4, if_neg h57, if_neg h6]
    rfl
end Go.Proofs.YtlnmmakbgldflaaGreatDoor.Vc

