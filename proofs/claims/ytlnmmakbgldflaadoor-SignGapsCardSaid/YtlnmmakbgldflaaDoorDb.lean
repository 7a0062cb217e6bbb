/-
  DATA: a datum in the heap; which fields may be.
-/
import Derived.Test.YtlnmmakbgldflaaDoorDa
set_option linter.unusedSimpArgs false
set_option linter.unusedVariables false
set_option maxRecDepth 100000
namespace Go.Proofs.YtlnmmakbgldflaaDoor.Vc
open Go

inductive Dat where
  | mk (kind int : Int) (text : List UInt8) (list : List Dat)
def Dat.kind : Dat → Int
  | .mk k _ _ _ => k
def Dat.int : Dat → Int
  | .mk _ n _ _ => n
def Dat.text : Dat → List UInt8
  | .mk _ _ t _ => t
def Dat.list : Dat → List Dat
  | .mk _ _ _ l => l
def InI (n : Int) : Prop := -9223372036854775808 ≤ n ∧ n ≤ 9223372036854775807

mutual
def Dat.pv : Dat → List PV
  | .mk k n t l => [.int .i64 k, .int .i64 n, .str t, .sl (Dats.pvs l)]
def Dats.pvs : List Dat → List (List PV)
  | [] => []
  | d :: l => Dat.pv d :: Dats.pvs l
end
theorem Dats.pvs_eq : ∀ l : List Dat, Dats.pvs l = l.map Dat.pv
  | [] => by simp only [Dats.pvs, List.map_nil]
  | d :: l => by simp only [Dats.pvs, List.map_cons, Dats.pvs_eq l]
instance encDat : Enc Dat := ⟨Dat.pv, 4, fun d => by cases d; simp only [Dat.pv, List.length_cons, List.length_nil]⟩
/-- these cells are the datum -/
abbrev Dat.Rep (H : PH) (d : Dat) (cs : List Value) : Prop := CsR H d cs
/-- the slice holds these data -/
abbrev SlRep (H : PH) (l : List Dat) (sv : Value) : Prop := SlR H l sv
theorem inI64 {n : Int} : (IntKind.i64.min ≤ n ∧ n ≤ IntKind.i64.max) ↔ InI n := Iff.rfl

theorem Dat.Rep_iff {H : PH} {d : Dat} {cs : List Value} : d.Rep H cs ↔ ∃ sv, cs = [.int .i64 d.kind, .int .i64 d.int, txt d.text, sv] ∧ InI d.kind ∧ InI d.int ∧ d.text.length ≤ maxLen ∧ SlRep H d.list sv := by
  obtain ⟨k, n, t, l⟩ := d
  unfold Dat.Rep CsR SlRep SlR slp
  show PV.RepRow H (Dat.pv _) cs ↔ _
  simp only [Dat.pv, PV.RepRow, Dat.kind, Dat.int, Dat.text, Dat.list, Dats.pvs_eq]
  constructor
  · rintro ⟨v1, vs1, rfl, h1, v2, vs2, rfl, h2, v3, vs3, rfl, h3, v4, vs4, rfl, h4, rfl⟩
    simp only [PV.Rep] at h1 h2 h3
    obtain ⟨rfl, h1⟩ := h1
    obtain ⟨rfl, h2⟩ := h2
    obtain ⟨rfl, h3⟩ := h3
    exact ⟨v4, rfl, inI64.1 h1, inI64.1 h2, h3, h4⟩
  · rintro ⟨sv, rfl, h1, h2, h3, h4⟩
    refine ⟨_, _, rfl, ?_, _, _, rfl, ?_, _, _, rfl, ?_, _, _, rfl, h4, rfl⟩
    · simp only [PV.Rep]; exact ⟨trivial, inI64.2 h1⟩
    · simp only [PV.Rep]; exact ⟨trivial, inI64.2 h2⟩
    · simp only [PV.Rep]; exact ⟨trivial, h3⟩

theorem Dat.Rep.le {H H' : PH} (h : PH.le H H') (d : Dat) {cs : List Value} (hd : d.Rep H cs) : d.Rep H' cs := CsR.le h hd
theorem SlRep.le {H H' : PH} (h : PH.le H H') {l : List Dat} {sv : Value} (hs : SlRep H l sv) : SlRep H' l sv := SlR.le h hs
theorem SlRep.len {H : PH} {l : List Dat} {sv : Value} (h : SlRep H l sv) : slLen sv = l.length := SlR.len h
theorem SlRep.sl {H : PH} {l : List Dat} {sv : Value} (h : SlRep H l sv) : ∃ b c, sv = .slice b l.length c := SlR.sl h
theorem SlRep.max {H : PH} {l : List Dat} {sv : Value} (h : SlRep H l sv) : l.length ≤ maxLen := SlR.max h
/-- the cells of element i -/
theorem SlRep.get {H : PH} {l : List Dat} {sv : Value} (h : SlRep H l sv) {i : Nat} {d : Dat} (hi : l[i]? = some d) :
    (slBase sv).isSome = true ∧ ∃ cs, d.Rep H cs ∧ rowAt H (pOf (eltV sv (i : Int) 4)) cs ∧ rowAt H ((pOf (eltV sv (i : Int) 4)).map (·.add 0)) [.int .i64 d.kind] ∧ (pOf (eltV sv (i : Int) 4)).isSome = true := by
  obtain ⟨h1, h2, cs, h3, h4⟩ := SlR.get h hi
  refine ⟨h1, cs, h3, h4, ?_, h2⟩
  obtain ⟨sv', h7, _⟩ := Dat.Rep_iff.1 h3
  have := rowAt_sub h4 0 1
  rw [h7] at this
  exact this
theorem Dat.Rep.tags {H : PH} {d : Dat} {cs : List Value} (h : d.Rep H cs) : tagsOk [.int .i64, .int .i64, .str, .sl] cs = true := by
  obtain ⟨sv, rfl, _, _, _, hs⟩ := Dat.Rep_iff.1 h
  obtain ⟨b, c, rfl⟩ := hs.sl
  rfl

theorem int_beq (a b : Int) : (a == b) = decide (a = b) := by by_cases h : a = b <;> simp [h]
theorem int_bne (a b : Int) : (a != b) = decide (a ≠ b) := by by_cases h : a = b <;> simp [h]
theorem ite_band (a b : Bool) : (if a = true then b else false) = (a && b) := by cases a <;> rfl
theorem ite_bor (a b : Bool) : (if a = true then true else b) = (a || b) := by cases a <;> rfl
def nested (k : Int) : Bool := decide (k = 5) || decide (k = 6) || decide (k = 7)
theorem hasItems_gives (k n : Int) (t : List UInt8) (b : Option Addr) (m c : Nat) (H : PH) : Gives Tryd.prog n_data_hasItems [.agg #[.int .i64 k, .int .i64 n, txt t, .slice b m c]] H (.bool (nested k)) := by
  refine tri_data_hasItems [.int .i64 k, .int .i64 n, txt t, .slice b m c] (by kernel_rfl) (by kernel_rfl) ⟨?_, PH.le_refl H⟩
  have : (if decide (k ≥ 5) = true then decide (k ≤ 7) else false) = nested k := by
    unfold nested
    by_cases h : 5 ≤ k
    · by_cases h2 : k ≤ 7
      · have : k = 5 ∨ k = 6 ∨ k = 7 := by omega
        rcases this with rfl | rfl | rfl <;> rfl
      · have h5 : k ≠ 5 := by omega
        have h6 : k ≠ 6 := by omega
        have h7 : k ≠ 7 := by omega
        simp [h2, h5, h6, h7]
    · have h5 : k ≠ 5 := by omega
      have h6 : k ≠ 6 := by omega
      have h7 : k ≠ 7 := by omega
      simp [h, h5, h6, h7]
  simp only [ev0, ev, evV, List.cons_append, List.nil_append, List.getD_cons_zero, List.getD_cons_succ, List.map_cons, List.map_nil, iOf, bOf, sOf, pOf, slLen, slBase, cmpI, arI, Value.ite_bool, this]
/-- may a datum's own fields be? -/
def formOk (d : Dat) : Bool :=
  if d.kind = 0 then decide (d.text = []) && d.list.isEmpty && (decide (d.int = 0) || decide (d.int = 1))
  else if d.kind = 1 then decide (d.text = []) && d.list.isEmpty && decide (-1152921504606846976 ≤ d.int) && decide (d.int < 1152921504606846976)
  else if d.kind = 2 then decide (d.text = []) && d.list.isEmpty && decide (0 ≤ d.int) && decide (d.int ≤ 255)
  else if d.kind = 3 then decide (d.int = 0) && d.list.isEmpty && decide (d.text.length ≤ 4096)
  else if d.kind = 4 then decide (d.int = 0) && d.list.isEmpty && nameOk d.text
  else if d.kind = 5 ∨ d.kind = 7 then decide (d.int = 0) && decide (d.text = [])
  else if d.kind = 6 then decide (d.int = 0) && decide (d.text = []) && decide (2 ≤ d.list.length) && (match d.list[d.list.length - 1]? with | some e => decide (e.kind ≠ 5) && decide (e.kind ≠ 6) | none => false)
  else false

theorem cmpI_eql (a b : Int) : cmpI .eql a b = decide (a = b) := int_beq a b
theorem list_empty {α : Type} (l : List α) : decide ((l.length : Int) = 0) = l.isEmpty := by cases l <;> simp; omega
end Go.Proofs.YtlnmmakbgldflaaDoor.Vc

