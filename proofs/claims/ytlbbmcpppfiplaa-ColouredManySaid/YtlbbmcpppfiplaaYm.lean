/-
  Texts on the way to the statement, one behind the other, without what it does not reach.
-/
import Derived.Test.YtlbbmcpppfiplaaYl
import Derived.Laws.Strings
import Derived.Lib.IndexAny
set_option linter.unusedSimpArgs false
set_option linter.unusedVariables false
set_option maxRecDepth 100000
/-
  DATA: what the functions on bytes and names give.
-/
namespace Go.Proofs.Ytlbbmcpppfiplaa.Vc
open Go

theorem txt_eq {a b : List UInt8} : ((⟨a.toArray⟩ : ByteArray).toList == (⟨b.toArray⟩ : ByteArray).toList) = decide (a = b) := by
  rw [ByteArray.toList_mk, ByteArray.toList_mk]
  by_cases e : a = b <;> simp [e]

def digitI (c : Int) : Bool := if 48 ≤ c then decide (c ≤ 57) else false
def signsL : List UInt8 := [33, 36, 37, 38, 42, 47, 58, 60, 61, 62, 63, 94, 95, 126, 43, 45, 46, 64]
def nameB (c : UInt8) : Bool := digitI c.toNat || (decide (97 ≤ c) && decide (c ≤ 122)) || (decide (65 ≤ c) && decide (c ≤ 90)) || signsL.contains c

def numB (l : List UInt8) : Bool := match l with
  | [] => false
  | c :: r => if c == 43 || c == 45 then !r.isEmpty && r.all (fun c => digitI c.toNat) else (c :: r).all fun c => digitI c.toNat
def nameOk (l : List UInt8) : Bool := l.all nameB && !l.isEmpty && decide (l.length ≤ 64) && decide (l ≠ [46]) && !numB l

end Go.Proofs.Ytlbbmcpppfiplaa.Vc
/-
  DATA: a datum in the heap; which fields may be.
-/
namespace Go.Proofs.Ytlbbmcpppfiplaa.Vc
open Go

inductive Dat where
  | mk (kind int : Int) (text : List UInt8) (list : List Dat)
def Dat.kind : Dat → Int
  | .mk k _ _ _ => k
def Dat.int : Dat → Int
  | .mk _ n _ _ => n
def Dat.text : Dat → List UInt8
  | .mk _ _ t _ => t
def Dat.list : Dat → List Dat
  | .mk _ _ _ l => l
def InI (n : Int) : Prop := -9223372036854775808 ≤ n ∧ n ≤ 9223372036854775807

mutual
def Dat.pv : Dat → List PV
  | .mk k n t l => [.int .i64 k, .int .i64 n, .str t, .sl (Dats.pvs l)]
def Dats.pvs : List Dat → List (List PV)
  | [] => []
  | d :: l => Dat.pv d :: Dats.pvs l
end
theorem Dats.pvs_eq : ∀ l : List Dat, Dats.pvs l = l.map Dat.pv
  | [] => by simp only [Dats.pvs, List.map_nil]
  | d :: l => by simp only [Dats.pvs, List.map_cons, Dats.pvs_eq l]
instance encDat : Enc Dat := ⟨Dat.pv, 4, fun d => by cases d; simp only [Dat.pv, List.length_cons, List.length_nil]⟩
/-- these cells are the datum -/
abbrev Dat.Rep (H : PH) (d : Dat) (cs : List Value) : Prop := CsR H d cs
/-- the slice holds these data -/
abbrev SlRep (H : PH) (l : List Dat) (sv : Value) : Prop := SlR H l sv
theorem inI64 {n : Int} : (IntKind.i64.min ≤ n ∧ n ≤ IntKind.i64.max) ↔ InI n := Iff.rfl

theorem Dat.Rep_iff {H : PH} {d : Dat} {cs : List Value} : d.Rep H cs ↔ ∃ sv, cs = [.int .i64 d.kind, .int .i64 d.int, txt d.text, sv] ∧ InI d.kind ∧ InI d.int ∧ d.text.length ≤ maxLen ∧ SlRep H d.list sv := by
  obtain ⟨k, n, t, l⟩ := d
  unfold Dat.Rep CsR SlRep SlR slp
  show PV.RepRow H (Dat.pv _) cs ↔ _
  simp only [Dat.pv, PV.RepRow, Dat.kind, Dat.int, Dat.text, Dat.list, Dats.pvs_eq]
  constructor
  · rintro ⟨v1, vs1, rfl, h1, v2, vs2, rfl, h2, v3, vs3, rfl, h3, v4, vs4, rfl, h4, rfl⟩
    simp only [PV.Rep] at h1 h2 h3
    obtain ⟨rfl, h1⟩ := h1
    obtain ⟨rfl, h2⟩ := h2
    obtain ⟨rfl, h3⟩ := h3
    exact ⟨v4, rfl, inI64.1 h1, inI64.1 h2, h3, h4⟩
  · rintro ⟨sv, rfl, h1, h2, h3, h4⟩
    refine ⟨_, _, rfl, ?_, _, _, rfl, ?_, _, _, rfl, ?_, _, _, rfl, h4, rfl⟩
    · simp only [PV.Rep]; exact ⟨trivial, inI64.2 h1⟩
    · simp only [PV.Rep]; exact ⟨trivial, inI64.2 h2⟩
    · simp only [PV.Rep]; exact ⟨trivial, h3⟩

theorem Dat.Rep.le {H H' : PH} (h : PH.le H H') (d : Dat) {cs : List Value} (hd : d.Rep H cs) : d.Rep H' cs := CsR.le h hd
theorem SlRep.le {H H' : PH} (h : PH.le H H') {l : List Dat} {sv : Value} (hs : SlRep H l sv) : SlRep H' l sv := SlR.le h hs
theorem SlRep.len {H : PH} {l : List Dat} {sv : Value} (h : SlRep H l sv) : slLen sv = l.length := SlR.len h
theorem SlRep.sl {H : PH} {l : List Dat} {sv : Value} (h : SlRep H l sv) : ∃ b c, sv = .slice b l.length c := SlR.sl h
theorem SlRep.max {H : PH} {l : List Dat} {sv : Value} (h : SlRep H l sv) : l.length ≤ maxLen := SlR.max h
/-- the cells of element i -/
theorem SlRep.get {H : PH} {l : List Dat} {sv : Value} (h : SlRep H l sv) {i : Nat} {d : Dat} (hi : l[i]? = some d) :
    (slBase sv).isSome = true ∧ ∃ cs, d.Rep H cs ∧ rowAt H (pOf (eltV sv (i : Int) 4)) cs ∧ rowAt H ((pOf (eltV sv (i : Int) 4)).map (·.add 0)) [.int .i64 d.kind] ∧ (pOf (eltV sv (i : Int) 4)).isSome = true := by
  obtain ⟨h1, h2, cs, h3, h4⟩ := SlR.get h hi
  refine ⟨h1, cs, h3, h4, ?_, h2⟩
  obtain ⟨sv', h7, _⟩ := Dat.Rep_iff.1 h3
  have := rowAt_sub h4 0 1
  rw [h7] at this
  exact this
theorem Dat.Rep.tags {H : PH} {d : Dat} {cs : List Value} (h : d.Rep H cs) : tagsOk [.int .i64, .int .i64, .str, .sl] cs = true := by
  obtain ⟨sv, rfl, _, _, _, hs⟩ := Dat.Rep_iff.1 h
  obtain ⟨b, c, rfl⟩ := hs.sl
  rfl

theorem int_beq (a b : Int) : (a == b) = decide (a = b) := by by_cases h : a = b <;> simp [h]
theorem int_bne (a b : Int) : (a != b) = decide (a ≠ b) := by by_cases h : a = b <;> simp [h]
theorem ite_band (a b : Bool) : (if a = true then b else false) = (a && b) := by cases a <;> rfl
theorem ite_bor (a b : Bool) : (if a = true then true else b) = (a || b) := by cases a <;> rfl
def nested (k : Int) : Bool := decide (k = 5) || decide (k = 6) || decide (k = 7)
/-- may a datum's own fields be? -/
def formOk (d : Dat) : Bool :=
  if d.kind = 0 then decide (d.text = []) && d.list.isEmpty && (decide (d.int = 0) || decide (d.int = 1))
  else if d.kind = 1 then decide (d.text = []) && d.list.isEmpty && decide (-1152921504606846976 ≤ d.int) && decide (d.int < 1152921504606846976)
  else if d.kind = 2 then decide (d.text = []) && d.list.isEmpty && decide (0 ≤ d.int) && decide (d.int ≤ 255)
  else if d.kind = 3 then decide (d.int = 0) && d.list.isEmpty && decide (d.text.length ≤ 4096)
  else if d.kind = 4 then decide (d.int = 0) && d.list.isEmpty && nameOk d.text
  else if d.kind = 5 ∨ d.kind = 7 then decide (d.int = 0) && decide (d.text = [])
  else if d.kind = 6 then decide (d.int = 0) && decide (d.text = []) && decide (2 ≤ d.list.length) && (match d.list[d.list.length - 1]? with | some e => decide (e.kind ≠ 5) && decide (e.kind ≠ 6) | none => false)
  else false

end Go.Proofs.Ytlbbmcpppfiplaa.Vc
/-
  DATA: which data may be.
-/
namespace Go.Proofs.Ytlbbmcpppfiplaa.Vc
open Go

mutual
theorem Dat.ind {p : Dat → Prop} (h : ∀ d, (∀ e ∈ d.list, p e) → p d) : ∀ d, p d
  | .mk _ _ _ l => h _ (Dats.ind h l)
theorem Dats.ind {p : Dat → Prop} (h : ∀ d, (∀ e ∈ d.list, p e) → p d) : ∀ (l : List Dat), ∀ e ∈ l, p e
  | [], e, he => by cases he
  | d :: l, e, he => (List.mem_cons.1 he).elim (fun h1 => h1 ▸ Dat.ind h d) (fun h1 => Dats.ind h l e h1)
end

mutual
/-- a datum within so many, so many being looked at: how many are then, and what is wrong -/
def Dat.chk : Dat → Nat → Nat → Nat × Int
  | .mk k n t l, deep, seen => if seen = 4096 then (seen, 22) else if nested k = true ∧ deep = 32 then (seen + 1, 21) else if formOk (.mk k n t l) = false then (seen + 1, 20) else Dats.chk l (deep + 1) (seen + 1)
def Dats.chk : List Dat → Nat → Nat → Nat × Int
  | [], _, seen => (seen, 0)
  | d :: l, deep, seen => if (Dat.chk d deep seen).2 ≠ 0 then Dat.chk d deep seen else Dats.chk l deep (Dat.chk d deep seen).1
end
theorem Dat.chk_eq (d : Dat) (deep seen : Nat) : d.chk deep seen = if seen = 4096 then (seen, 22) else if nested d.kind = true ∧ deep = 32 then (seen + 1, 21) else if formOk d = false then (seen + 1, 20) else Dats.chk d.list (deep + 1) (seen + 1) := by
  cases d; simp only [Dat.chk, Dat.kind, Dat.list]; rfl
mutual
theorem Dat.chk_le : ∀ (d : Dat) (deep seen : Nat), seen ≤ 4096 → (d.chk deep seen).1 ≤ 4096
  | .mk k n t l, deep, seen, h => by
    simp only [Dat.chk]
    split
    · exact h
    split
    · simp only; omega
    split
    · simp only; omega
    · exact Dats.chk_le l _ _ (by omega)
theorem Dats.chk_le : ∀ (l : List Dat) (deep seen : Nat), seen ≤ 4096 → (Dats.chk l deep seen).1 ≤ 4096
  | [], _, seen, h => by simp only [Dats.chk]; exact h
  | d :: l, deep, seen, h => by
    simp only [Dats.chk]
    split
    · exact Dat.chk_le d _ _ h
    · exact Dats.chk_le l _ _ (Dat.chk_le d _ _ h)
end
theorem formOk_nested {d : Dat} (h : formOk d = true) (hl : d.list ≠ []) : nested d.kind = true := by
  obtain ⟨k, n, t, l⟩ := d
  simp only [formOk, nested, Dat.kind, Dat.list, Dat.int, Dat.text] at *
  have : l.isEmpty = false := by cases l <;> simp at hl ⊢
  grind

end Go.Proofs.Ytlbbmcpppfiplaa.Vc
/-
  DATA: the texts of the document's answer.
-/
namespace Go.Proofs.Ytlbbmcpppfiplaa.Vc
open Go

def hexL : List UInt8 := [48, 49, 50, 51, 52, 53, 54, 55, 56, 57, 97, 98, 99, 100, 101, 102]
def hexB (n : Nat) : UInt8 := hexL.getD n 0
def twoL (c : UInt8) : List UInt8 := [hexB (c.toNat / 16), hexB (c.toNat % 16)]
def charL (c : UInt8) : List UInt8 :=
  if c = 32 then [35, 92, 115, 112, 97, 99, 101] else if c = 10 then [35, 92, 110, 101, 119, 108, 105, 110, 101] else if 32 < c ∧ c < 127 then [35, 92, c] else [35, 92, 120] ++ twoL c
end Go.Proofs.Ytlbbmcpppfiplaa.Vc
/-
  DATA: a string's text.
-/
namespace Go.Proofs.Ytlbbmcpppfiplaa.Vc
open Go

def quoteB (c : UInt8) : List UInt8 := if c = 34 ∨ c = 92 then [92, c] else if c = 10 then [92, 110] else if c < 32 ∨ 126 < c then [92, 120] ++ twoL c else [c]
def quotedL (l : List UInt8) : List UInt8 := [34] ++ l.flatMap quoteB ++ [34]
theorem quoteB_len (c : UInt8) : (quoteB c).length ≤ 4 := by
  unfold quoteB; split
  · simp
  split
  · simp
  split
  · simp [twoL]
  · simp
theorem quotes_len (l : List UInt8) : (l.flatMap quoteB).length ≤ 4 * l.length := by
  induction l with
  | nil => simp
  | cons c l ih =>
    have := quoteB_len c
    simp only [List.flatMap_cons, List.length_append, List.length_cons]; omega

end Go.Proofs.Ytlbbmcpppfiplaa.Vc
