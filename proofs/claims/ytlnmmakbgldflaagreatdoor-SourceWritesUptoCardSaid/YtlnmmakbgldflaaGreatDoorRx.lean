import Derived.Test.YtlnmmakbgldflaaGreatDoorSr
import Derived.Test.YtlnmmakbgldflaaGreatDoorDz
import Derived.Test.YtlnmmakbgldflaaGreatDoorWl
set_option linter.unusedSimpArgs false
set_option linter.unusedVariables false
set_option maxRecDepth 100000
/-
  SOURCE: what a source says, as data: the document's stack of open lists, told as a plain function over tokens; and the document's small functions.
-/
namespace Go.Proofs.YtlnmmakbgldflaaGreatDoor.Vc
open Go

/-! ### where a row goes on -/
/-- what stands grows; a row goes on from v to v'; what is not its own stands -/
structure Step (S H : PH) (v : Value) (S' H' : PH) (v' : Value) : Prop where
  s : PH.le S S'
  i : PH.le S' H'
  keep : ∀ k o, H k = some o → some k ≠ ob v → H' k = some o
  n : ∀ k, S k = none → S' k ≠ none → H k = none ∨ ob v = some k
  fresh : ∀ k, ob v' = some k → ob v = some k ∨ H k = none
theorem Step.refl {S H : PH} (h : PH.le S H) (v : Value) : Step S H v S H v := ⟨PH.le_refl _, h, fun _ _ h _ => h, fun _ h1 h2 => absurd h1 h2, fun _ h => .inl h⟩
theorem Step.trans {A B C X Y Z : PH} {u v w : Value} (a : Step A X u B Y v) (b : Step B Y v C Z w) : Step A X u C Z w := by
  have low : ∀ k, Y k = none → X k = none ∨ ob u = some k := by
    intro k hy
    cases hx : X k with
    | none => exact .inl rfl
    | some o =>
      by_cases hu : some k = ob u
      · exact .inr hu.symm
      · rw [a.keep k o hx hu] at hy; cases hy
  refine ⟨PH.le_trans a.s b.s, b.i, fun k o hk hn => b.keep k o (a.keep k o hk hn) ?_, fun k h1 h2 => ?_, fun k hk => ?_⟩
  · intro e
    rcases a.fresh k e.symm with h | h
    · exact hn h.symm
    · rw [h] at hk; cases hk
  · cases h : B k with
    | none =>
      rcases b.n k h h2 with h3 | h3
      · exact low k h3
      · exact (a.fresh k h3).symm
    | some o => exact a.n k h1 (by rw [h]; exact fun e => by cases e)
  · rcases b.fresh k hk with h | h
    · exact a.fresh k h
    · exact (low k h).symm
theorem Step.ext {S H S' H' : PH} (x : Ext S H S' H') (v : Value) : Step S H v S' H' v := ⟨x.s, x.i, fun k o hk _ => x.h k o hk, fun k h1 h2 => .inl (x.n k h1 h2), fun _ h => .inl h⟩
theorem Step.went {S H H' : PH} {v v' : Value} (hS : PH.le S H') (w : Went H H' v v') : Step S H v S H' v' := ⟨PH.le_refl _, hS, w.keep, fun _ h1 h2 => absurd h1 h2, w.fresh⟩
/-- a step of a new row is one beside any other -/
theorem Step.aside {S H S' H' : PH} {v v' : Value} (st : Step S H v S' H' v') (hv : ∀ g, ob v = some g → H g = none) (u : Value) : Step S H u S' H' u :=
  ⟨st.s, st.i, fun k o hk _ => st.keep k o hk fun e => (by rw [hv k e.symm] at hk; cases hk), fun k h1 h2 => (st.n k h1 h2).elim .inl fun h => .inl (hv k h), fun _ h => .inl h⟩
theorem Row.step {α : Type} [Enc α] {S H S' H' : PH} {e : TypeId} {l : List α} {u v v' : Value} (h : Row S H e l u) (st : Step S H v S' H' v') (hne : ob u ≠ ob v ∨ ob u = none) : Row S' H' e l u ∧ (ob u ≠ ob v' ∨ ob u = none) := by
  have hk : ∀ g, ob u = some g → ob v ≠ some g := by
    intro g hg hv
    rcases hne with hne | hne
    · exact hne (hg.trans hv.symm)
    · rw [hne] at hg; cases hg
  obtain ⟨xs, h1, h2⟩ := h.own
  refine ⟨⟨fun g hg => ?_, xs, ⟨h1.1, ?_⟩, PV.RepRow.le st.s h2⟩, ?_⟩
  · cases hx : S' g with
    | none => rfl
    | some o =>
      rcases st.n g (h.off g hg) (by rw [hx]; exact fun e => by cases e) with h3 | h3
      · exact absurd h3 (h.dwell hg)
      · exact absurd h3 (hk g hg)
  · rcases h1.2 with h | ⟨g, cap, cur, rfl, h3, h4⟩
    · exact .inl h
    · exact .inr ⟨g, cap, cur, rfl, st.keep _ _ h3 fun e => hk g rfl e.symm, h4⟩
  · cases hu : ob u with
    | none => exact .inr rfl
    | some g =>
      refine .inl fun hv' => ?_
      rcases st.fresh g hv'.symm with h3 | h3
      · exact hk g hu h3
      · exact h.dwell hu h3
/-! ### what is open -/
inductive Opn where
  | mk (kind : Int) (list : List Dat) (dot : Int)
def Opn.kind : Opn → Int
  | .mk k _ _ => k
def Opn.list : Opn → List Dat
  | .mk _ l _ => l
def Opn.dot : Opn → Int
  | .mk _ _ d => d
def Opn.pv : Opn → List PV
  | .mk k l d => [.int .i64 k, .sl (Dats.pvs l), .int .i64 d]
instance encOpn : Enc Opn := ⟨Opn.pv, 3, fun o => by cases o; rfl⟩
theorem Opn.Rep_iff {H : PH} {o : Opn} {cs : List Value} : CsR H o cs ↔ ∃ v, cs = [.int .i64 o.kind, v, .int .i64 o.dot] ∧ InI o.kind ∧ SlR H o.list v ∧ InI o.dot := by
  obtain ⟨k, l, d⟩ := o
  unfold CsR SlR slp
  show PV.RepRow H (Opn.pv _) cs ↔ _
  simp only [Opn.pv, PV.RepRow, Opn.kind, Opn.list, Opn.dot, Dats.pvs_eq]
  constructor
  · rintro ⟨v1, vs1, rfl, h1, v2, vs2, rfl, h2, v3, vs3, rfl, h3, rfl⟩
    simp only [PV.Rep] at h1 h3
    obtain ⟨rfl, h1⟩ := h1
    obtain ⟨rfl, h3⟩ := h3
    exact ⟨v2, rfl, inI64.1 h1, h2, inI64.1 h3⟩
  · rintro ⟨v, rfl, h1, h2, h3⟩
    refine ⟨_, _, rfl, ?_, _, _, rfl, h2, _, _, rfl, ?_, rfl⟩
    · simp only [PV.Rep]; exact ⟨trivial, inI64.2 h1⟩
    · simp only [PV.Rep]; exact ⟨trivial, inI64.2 h3⟩
/-- the innermost one; a source is none -/
def topO : List Opn → Opn
  | [] => .mk (-1) [] (-1)
  | o :: _ => o
/-- has it its tail? -/
def fullB (o : Opn) : Bool := decide (0 ≤ o.dot) && decide ((o.list.length : Int) = o.dot + 1)
/-- why a token of a kind may not follow; 0: it may. The innermost is ahead. -/
def mayI (rs : List Opn) (k : Int) : Int :=
  if k = 1 then (if (topO rs).kind = -1 ∨ (topO rs).kind = 3 ∨ (0 ≤ (topO rs).dot ∧ fullB (topO rs) = false) then 40 else 0)
  else if k = 4 then (if (topO rs).kind ≠ 0 ∨ 0 ≤ (topO rs).dot ∨ (topO rs).list.length = 0 then 42 else 0)
  else if fullB (topO rs) then 42 else if (k = 0 ∨ k = 2 ∨ k = 3) ∧ 32 ≤ rs.length then 43 else 0
/-! ### one token's datum -/
def kindsL : List Int := [0, 0, 0, 0, 0, 0, 1, 2, 3, 4]
def kindD (k : Int) : Int := kindsL.getD k.toNat 0
def oneD (t : Tk) : Dat := .mk (kindD t.kind) t.int t.text []
/-! ### what was open, closed -/
def closedD (o : Opn) : Dat := if o.kind = 2 then .mk 7 0 [] o.list else if o.dot < 0 then .mk 5 0 [] o.list else makeD (o.list.take o.dot.toNat) ((o.list[o.dot.toNat]?).getD (.mk 0 0 [] []))
/-! ### a datum that is there -/
def quoteD (d : Dat) : Dat := .mk 5 0 [] [.mk 4 0 [113, 117, 111, 116, 101] [], d]
/-- it goes into what is open; a quote that waited for it is one then -/
def endedS : List Opn → Dat → List Opn × Option Dat
  | [], d => ([], some d)
  | o :: rs, d => if o.kind = 3 then endedS rs (quoteD d) else (.mk o.kind (o.list ++ [d]) o.dot :: rs, none)
theorem sym_rep (H : PH) : Dat.Rep H (.mk 4 0 [113, 117, 111, 116, 101] []) [.int .i64 4, .int .i64 0, txt [113, 117, 111, 116, 101], .slice none 0 0] :=
  Dat.Rep_iff.2 ⟨_, rfl, by decide, by decide, by simp [Dat.text, maxLen], SlR.mk_iff.2 ⟨Nat.zero_le _, .inl ⟨rfl, rfl⟩⟩⟩
theorem nil_apart (v : Value) : ob v ≠ ob (.slice none 0 0) ∨ ob v = none := by
  cases h : ob v with
  | none => exact .inr rfl
  | some g => exact .inl fun e => by cases e
end Go.Proofs.YtlnmmakbgldflaaGreatDoor.Vc
/-
  SOURCE: the document's reading, as a plain function over tokens; and that its function answers so.
-/
namespace Go.Proofs.YtlnmmakbgldflaaGreatDoor.Vc
open Go

inductive Reads where
  | bad (at_ : Int) (e : Int)
  | all (l : List Dat)
def Reads.list : Reads → List Dat
  | .bad _ _ => []
  | .all l => l
def Reads.at_ : Reads → Int
  | .bad a _ => a
  | .all _ => 0
def Reads.err : Reads → Int
  | .bad _ e => e
  | .all _ => 0
/-- behind a token that may follow: what is open then, and what is whole -/
def nextS (t : Tk) (rs : List Opn) : List Opn × Option Dat :=
  if t.kind = 0 ∨ t.kind = 2 ∨ t.kind = 3 then (.mk t.kind [] (-1) :: rs, none)
  else if t.kind = 4 then (match rs with | o :: r => (.mk o.kind o.list o.list.length :: r, none) | [] => ([], none))
  else if t.kind = 1 then endedS rs.tail (closedD (topO rs))
  else endedS rs (oneD t)
def runR (en : Int) : List Tk → List Opn → List Dat → Reads
  | [], rs, out => if rs.length = 0 then .all out else .bad en 41
  | t :: ts, rs, out => if mayI rs t.kind = 0 then runR en ts (nextS t rs).1 (out ++ (nextS t rs).2.toList) else .bad t.at_ (mayI rs t.kind)
def readS (s : List UInt8) : Reads := match tokens s with
  | .bad a e => .bad a e
  | .all ts => runR s.length ts [] []

/-! ### how much is open -/
def wtO (o : Opn) : Nat := (if o.kind = 3 then 2 else 1) + Dats.cnt o.list
theorem wtO_mk (k : Int) (l : List Dat) (d : Int) : wtO (.mk k l d) = (if k = 3 then 2 else 1) + Dats.cnt l := rfl
theorem wtO_3 {o : Opn} (h : o.kind = 3) : wtO o = 2 + Dats.cnt o.list := by rw [wtO, if_pos h]
theorem wtO_1 {o : Opn} (h : o.kind ≠ 3) : wtO o = 1 + Dats.cnt o.list := by rw [wtO, if_neg h]
def cntS : List Opn → Nat
  | [] => 0
  | o :: rs => wtO o + cntS rs
structure InvS (b : Nat) (rs : List Opn) : Prop where
  dots : ∀ o ∈ rs, -1 ≤ o.dot ∧ o.dot ≤ o.list.length
  cnt : cntS rs ≤ b
theorem makeD_cnt (l : List Dat) (d : Dat) : (makeD l d).cnt ≤ 1 + Dats.cnt l + d.cnt := by
  have hd := Dat.cnt_eq d
  unfold makeD
  split
  · omega
  split
  · simp only [Dat.cnt, Dats.cnt_append]; omega
  · simp only [Dat.cnt, Dats.cnt_append, Dats.cnt]; omega
theorem may_close {rs : List Opn} (h : mayI rs 1 = 0) : ∃ o r, rs = o :: r ∧ o.kind ≠ 3 ∧ (0 ≤ o.dot → (o.list.length : Int) = o.dot + 1) := by
  cases rs with
  | nil => simp [mayI, topO, Opn.kind] at h
  | cons o r =>
    refine ⟨o, r, rfl, ?_⟩
    unfold mayI fullB at h
    simp only [topO] at h
    constructor <;> grind
theorem may_dot {rs : List Opn} (h : mayI rs 4 = 0) : ∃ o r, rs = o :: r := by
  cases rs with
  | nil => simp [mayI, topO, Opn.kind] at h
  | cons o r => exact ⟨o, r, rfl⟩
theorem closedD_cnt {o : Opn} (h : 0 ≤ o.dot → (o.list.length : Int) = o.dot + 1) : (closedD o).cnt ≤ 1 + Dats.cnt o.list := by
  unfold closedD
  split
  · simp [Dat.cnt]
  split
  · simp [Dat.cnt]
  · rename_i h1 h2
    have h3 := h (by omega)
    obtain ⟨k, hk⟩ : ∃ k : Nat, o.dot = k := ⟨o.dot.toNat, by omega⟩
    have hkl : k < o.list.length := by omega
    obtain ⟨x, hx⟩ : ∃ x, o.list[k]? = some x := ⟨_, List.getElem?_eq_getElem hkl⟩
    rw [hk, Int.toNat_natCast, hx]
    have h4 := makeD_cnt (o.list.take k) x
    have h5 := Dats.cnt_take_succ hx
    rw [List.take_of_length_le (by omega)] at h5
    simp only [Option.getD_some]; omega
theorem TR.kinds {p : Nat} {l : List UInt8} {ts : List Tk} (h : TR p l ts) (hl : l.length ≤ 4096) : ∀ t ∈ ts, 0 ≤ t.kind ∧ t.kind ≤ 9 := by
  induction h with
  | nil _ => intro t ht; cases ht
  | cons h1 h2 h3 h4 h5 ih =>
    intro t ht
    rcases List.mem_cons.1 ht with rfl | ht
    · have := one_bounds h2 (by omega) h4
      simp only [Tk.kind]; omega
    · exact ih (by rw [List.length_drop]; omega) t ht
end Go.Proofs.YtlnmmakbgldflaaGreatDoor.Vc
/-
  SOURCE: the document's reading: its function answers as the plain one does.
-/
namespace Go.Proofs.YtlnmmakbgldflaaGreatDoor.Vc
open Go

/-- a call that tells what is read -/
def GivesR (f : FuncId) (args : List Value) (H : PH) (r : Reads) : Prop := Tri Tryz.prog f args.toArray H fun e H' => ∃ v, e = .returned (.tuple #[v, .int .i64 r.at_, .int .i64 r.err]) ∧ SlR H' r.list v ∧ PH.le H H'

theorem apart_symm {a b : Option Nat} (h : a ≠ b ∨ a = none) : b ≠ a ∨ b = none := by
  rcases h with h | h
  · exact .inl fun e => h e.symm
  · subst h
    cases b with
    | none => exact .inr rfl
    | some g => exact .inl fun e => by cases e
/-- how a reading stands: what is whole, what is open -/
structure RdSt (H0 S H : PH) (rs : List Opn) (out : List Dat) (vo vs : Value) : Prop where
  base : PH.le H0 S
  le : PH.le S H
  o : Row S H 34 out vo
  s : Row S H 57 rs.reverse vs
  ap : ob vo ≠ ob vs ∨ ob vo = none
theorem RdSt.step {H0 S H S' H' : PH} {rs rs' : List Opn} {out : List Dat} {vo vs vs' : Value} (h : RdSt H0 S H rs out vo vs) (st : Step S H vs S' H' vs') (hs : Row S' H' 57 rs'.reverse vs') : RdSt H0 S' H' rs' out vo vs' :=
  have q := h.o.step st h.ap
  ⟨PH.le_trans h.base st.s, st.i, q.1, hs, q.2⟩
theorem RdSt.ext {H0 S H S' H' : PH} {rs : List Opn} {out : List Dat} {vo vs : Value} (h : RdSt H0 S H rs out vo vs) (x : Ext S H S' H') : RdSt H0 S' H' rs out vo vs :=
  ⟨PH.le_trans h.base x.s, x.i, h.o.ext x, h.s.ext x, h.ap⟩
theorem RdSt.push {H0 S H H' : PH} {rs : List Opn} {out out' : List Dat} {vo vo' vs : Value} (h : RdSt H0 S H rs out vo vs) (w : Went H H' vo vo') (ho : Row S H' 34 out' vo') (hl : PH.le S H') : RdSt H0 S H' rs out' vo' vs :=
  ⟨h.base, hl, ho, h.s.went w (apart_symm h.ap), apart_symm (h.s.apart w (apart_symm h.ap))⟩

/-- another row has the open ones now -/
theorem RdSt.anew {H0 S H S' H' : PH} {rs rs' : List Opn} {out : List Dat} {vo vs v' : Value} (h : RdSt H0 S H rs out vo vs) (st : Step S H (.slice none 0 0) S' H' v') (hs : Row S' H' 57 rs'.reverse v') : RdSt H0 S' H' rs' out vo v' :=
  have q := h.o.step st (nil_apart vo)
  ⟨PH.le_trans h.base st.s, st.i, q.1, hs, q.2⟩
theorem Row.cap {α : Type} [Enc α] {S H : PH} {e : TypeId} {l : List α} {b : Option Addr} {n c : Nat} (h : Row S H e l (.slice b n c)) (h0 : 0 < l.length) : l.length ≤ c := by
  obtain ⟨xs, ho, _⟩ := h.own
  rcases ho.2 with ⟨e, hz⟩ | ⟨g, cap, cur, e, _, hc, _⟩
  · omega
  · cases e; exact hc
theorem Dat.plain_rep' {H : PH} {k n : Int} {x : List UInt8} (hk : InI k) (hn : InI n) (hx : x.length ≤ maxLen) : Dat.Rep H (.mk k n x []) [.int .i64 k, .int .i64 n, txt x, .slice none 0 0] :=
  Dat.Rep_iff.2 ⟨_, rfl, hk, hn, hx, SlR.mk_iff.2 ⟨Nat.zero_le _, .inl ⟨rfl, rfl⟩⟩⟩
end Go.Proofs.YtlnmmakbgldflaaGreatDoor.Vc
/-
  SOURCE: the program's reader: its four functions answer as the document's stack does.
-/
namespace Go.Proofs.YtlnmmakbgldflaaGreatDoor.Vc
open Go

/-- a call, whatever its ending -/
theorem den_callP {P : Program} {X : List PanicEntry → PH → Prop} {β : Type} {E : List Value} {L : LK} {K : β → List Value → PH → LK → Prop} {H : PH} {f : FuncId} {args : List VE} {rs : RS} {pend : List (SV × List SV)} {k : Fm β} {R : Ending → PH → Prop} (hok : callB P f = true) (hc : Tri P f (args.map (evV E fun _ => 0)).toArray H R)
    (hk : ∀ e H', R e H' → callPost X rs pend E (fun E' H' => den P X k E' H' L K) e H') : den P X (.call (.fn f) args rs pend k) E H L K :=
  ⟨callOk_of hok, hc.mono hk⟩
/-- an interface value, of a struct -/
theorem den_mkIfaceT {P : Program} {X : List PanicEntry → PH → Prop} {β : Type} {E : List Value} {L : LK} {K : β → List Value → PH → LK → Prop} {H : PH} {T ty : TypeId} {fs} {x : Operand} {u : Value} {args : List (Nat × VE)} {k : Fm β} (ht : P.underlying T = some (.struct fs)) (hx : argEv E args x = u) (hk : den P X k (E ++ [.iface T u]) H L K) : den P X (.sem (.makeInterface T x) ty args (.sc .any) [] k) E H L K := by
  show wpS P (execOp (argEv E args) (bare _ ty)) _ _ H
  rw [exec_mkIface, hx]
  unfold Instr.makeInterface
  simp only [wpS_bind', wpS_underlying ht, wpS_pure]
  exact ⟨[_], rfl, rfl, pendNil, hk⟩
theorem den_panic {P : Program} {X : List PanicEntry → PH → Prop} {β : Type} {E : List Value} {L : LK} {K : β → List Value → PH → LK → Prop} {H : PH} {T ty : TypeId} {x : Operand} {u : Value} {args : List (Nat × VE)} {rs : RS} {k : Fm β} (hx : argEv E args x = .iface T u) (hk : X [{ v := .iface T u, recovered := false }] H) : den P X (.sem (.panic x) ty args rs [] k) E H L K := by
  show wpS P (execOp (argEv E args) (bare _ ty)) _ _ H
  simp only [execOp, bare, hx, Instr.panic]
  exact hk

section
/-- the reader's block -/
abbrev rb (lv : Value) (k : Nat) (en : Nat) : Obj := .cells #[lv, .int .i64 k, .int .i64 en] 50 (0, 0)
/-- the reader at p stands at token k; what else stands is S -/
structure RX (S H : PH) (p : Nat) (lv : Value) (k en : Nat) : Prop where
  le : PH.le S H
  off : S p = none
  at_ : H p = some (rb lv k en)
theorem RX.grow {S H H' : PH} {p : Nat} {lv : Value} {k en : Nat} (h : RX S H p lv k en) (hl : PH.le H H') : RX S H' p lv k en := ⟨PH.le_trans h.le hl, h.off, hl _ _ h.at_⟩
theorem RX.ext {S H S' H' : PH} {p : Nat} {lv : Value} {k en : Nat} (h : RX S H p lv k en) (x : Ext S H S' H') : RX S' H' p lv k en :=
  ⟨x.i, by
    cases hs : S' p with
    | none => rfl
    | some o =>
      have := x.n p h.off (by rw [hs]; exact fun e => by cases e)
      rw [h.at_] at this
      exact absurd this (fun e => by cases e), x.h _ _ h.at_⟩
variable {X : List PanicEntry → PH → Prop} {β : Type} {E : List Value} {L : LK} {K : β → List Value → PH → LK → Prop} {S H : PH} {p k en : Nat} {lv : Value}
theorem RX.cell (h : RX S H p lv k en) (i : Nat) {u : Value} (hu : #[lv, .int .i64 k, .int .i64 en][i]? = some u) : rowAt H (some ⟨p, i, none⟩) [u] := by
  refine ⟨_, rfl, fun j w hw => ?_⟩
  cases j with
  | zero =>
    simp only [List.getElem?_cons_zero, Option.some.injEq] at hw
    subst hw
    rw [Addr.add_plain, PH.cell_at h.at_]; exact hu
  | succ j => simp at hw
theorem den_r0 {f : Fm β} {m : Nat} (hE : E.getD m (.bool false) = .pointer (some ⟨p, 0, none⟩)) (h : RX S H p lv k en) (hl : ∃ b n c, lv = .slice b n c) (hk : den Tryz.prog X f (E ++ [lv]) H L K) : den Tryz.prog X (.load (.padd (.atom m) 0) [.sl] f) E H L K := by
  obtain ⟨b, n, c, rfl⟩ := hl
  refine ⟨[_], rfl, ?_, hk⟩
  show rowAt H ((pOf (E.getD m (.bool false))).map (·.add 0)) _
  rw [hE]; exact h.cell 0 rfl
theorem den_r1 {f : Fm β} {m : Nat} (hE : E.getD m (.bool false) = .pointer (some ⟨p, 0, none⟩)) (h : RX S H p lv k en) (hk : den Tryz.prog X f (E ++ [.int .i64 k]) H L K) : den Tryz.prog X (.load (.padd (.atom m) 1) [.int .i64] f) E H L K := by
  refine ⟨[_], rfl, ?_, hk⟩
  show rowAt H ((pOf (E.getD m (.bool false))).map (·.add 1)) _
  rw [hE]; exact h.cell 1 rfl
theorem den_r2 {f : Fm β} {m : Nat} (hE : E.getD m (.bool false) = .pointer (some ⟨p, 0, none⟩)) (h : RX S H p lv k en) (hk : den Tryz.prog X f (E ++ [.int .i64 en]) H L K) : den Tryz.prog X (.load (.padd (.atom m) 2) [.int .i64] f) E H L K := by
  refine ⟨[_], rfl, ?_, hk⟩
  show rowAt H ((pOf (E.getD m (.bool false))).map (·.add 2)) _
  rw [hE]; exact h.cell 2 rfl
theorem den_rsome {f : Fm β} {m : Nat} (hE : E.getD m (.bool false) = .pointer (some ⟨p, 0, none⟩)) (hk : den Tryz.prog X f E H L K) : den Tryz.prog X (.chk [] (.some (.atom m)) f) E H L K := by
  refine ⟨fun _ => ?_, hk⟩
  show (pOf (E.getD m (.bool false))).isSome = true
  rw [hE]; rfl
/-- the next token it is -/
theorem den_rput {f : Fm β} {m : Nat} {x : SV} (hE : E.getD m (.bool false) = .pointer (some ⟨p, 0, none⟩)) (h : RX S H p lv k en) (hx : ev0 E x = .int .i64 ((k + 1 : Nat) : Int))
    (hk : ∀ H', RX S H' p lv (k + 1) en → (∀ g, g ≠ p → H' g = H g) → den Tryz.prog X f E H' L K) : den Tryz.prog X (.store (.padd (.atom m) 1) [x] f) E H L K := by
  refine ⟨⟨p, 1, none⟩, ?_, ?_⟩
  · show (pOf (E.getD m (.bool false))).map (·.add 1) = _
    rw [hE]; rfl
  · show wpS _ (storeCells _ [ev0 E x]) _ _ H
    rw [hx]
    refine wpS_storeCells [_] 1 0 _ H h.at_ (by simp) (by simp [oneC]) ?_
    refine hk _ ⟨fun g o hg => ?_, h.off, ?_⟩ fun g hg => PH.upd_other hg
    · have : g ≠ p := fun e => by rw [e, h.off] at hg; cases hg
      rw [PH.upd_other this]; exact h.le g o hg
    · rw [PH.upd_same]; rfl
end

/-! ### the kind of the next token; giving up -/
def kindAt : List Tk → Int
  | [] => -1
  | t :: _ => t.kind
theorem kind_gives {S H : PH} {p k en : Nat} {lv : Value} (ts : List Tk) (h : RX S H p lv k en) (hs : SlR S ts lv) (hk : k ≤ ts.length) (hm : ts.length ≤ 4096) : Gives Tryz.prog n_read_reader__kind [.pointer (some ⟨p, 0, none⟩)] H (.int .i64 (kindAt (ts.drop k))) := by
  obtain ⟨b, c, rfl⟩ := hs.sl
  refine tri_read_reader__kind [.pointer (some ⟨p, 0, none⟩)] (by rfl) (by rfl) ?_
  refine den_rsome rfl (den_r1 rfl h (den_r0 rfl h ⟨_, _, _, rfl⟩ ⟨fun h1 => ?_, fun h1 => ?_⟩))
  · simp only [ev0, ev, evV, List.cons_append, List.nil_append, List.getD_cons_zero, List.getD_cons_succ, List.map_cons, List.map_nil, iOf, bOf, sOf, pOf, slLen, slBase, cmpI, arI, Value.ite_bool, int_beq, int_bne, ite_band, ite_bor, decide_eq_true_eq] at h1
    rw [List.drop_eq_nil_of_le (by omega)]
    exact ⟨rfl, PH.le_refl _⟩
  · simp only [ev0, ev, evV, List.cons_append, List.nil_append, List.getD_cons_zero, List.getD_cons_succ, List.map_cons, List.map_nil, iOf, bOf, sOf, pOf, slLen, slBase, cmpI, arI, Value.ite_bool, int_beq, int_bne, ite_band, ite_bor, decide_eq_false_iff_not] at h1
    have hkl : k < ts.length := by omega
    obtain ⟨t, hkt⟩ : ∃ t, ts[k]? = some t := ⟨_, List.getElem?_eq_getElem hkl⟩
    rw [drop_cons hkt]
    obtain ⟨g1, _, ces, g2, g3⟩ := (hs.le h.le).get hkt
    obtain ⟨rfl, _⟩ := Tk.Rep_iff.1 g2
    have p0 := rowAt_sub g3 0 1
    refine den_r0 rfl h ⟨_, _, _, rfl⟩ (den_r1 rfl h ⟨fun _ => ?_, [.int .i64 t.kind], rfl, p0, rfl, PH.le_refl _⟩)
    simp only [Chk.holds, ev0, ev, evV, List.cons_append, List.nil_append, List.getD_cons_zero, List.getD_cons_succ, List.map_cons, List.map_nil, iOf, bOf, sOf, pOf, slLen, slBase, cmpI, arI, Value.ite_bool, int_beq, int_bne, ite_band, ite_bor]; exact ⟨g1, by omega, by omega⟩
/-- what a panic of the reader's bears -/
abbrev troubleV (a e : Int) : Value := .iface 46 (.agg #[.int .i64 a, .int .i64 e])
def failAt (en : Nat) (e : Int) : List Tk → Int × Int
  | [] => (en, 41)
  | t :: _ => (t.at_, e)
noncomputable def troubleF : Array Field := match Tryz.prog.underlying 46 with
  | some (.struct fs) => fs
  | _ => #[]
theorem uTrouble : Tryz.prog.underlying 46 = some (.struct troubleF) := by kernel_rfl
theorem fail_tri {S H : PH} {p k en : Nat} {lv : Value} (ts : List Tk) (e : Int) (h : RX S H p lv k en) (hs : SlR S ts lv) (hk : k ≤ ts.length) (hm : ts.length ≤ 4096) :
    Tri Tryz.prog n_read_reader__fail #[.pointer (some ⟨p, 0, none⟩), .int .i64 e] H fun x H' => x = .panicked [{ v := troubleV (failAt en e (ts.drop k)).1 (failAt en e (ts.drop k)).2, recovered := false }] ∧ H' = H := by
  obtain ⟨b, c, rfl⟩ := hs.sl
  refine tri_read_reader__fail [.pointer (some ⟨p, 0, none⟩), .int .i64 e] (by rfl) (by rfl) ?_
  refine den_rsome rfl (den_r2 rfl h ?_)
  refine ⟨fun zs H' => zs = [.int .i64 (failAt en e (ts.drop k)).2, .int .i64 (failAt en e (ts.drop k)).1] ∧ H' = H, ?_, ?_⟩
  · rintro zs H' _ ⟨rfl, hH⟩
    exact den_mkIfaceT (u := .agg #[.int .i64 (failAt en e (ts.drop k)).1, .int .i64 (failAt en e (ts.drop k)).2]) uTrouble rfl (den_panic rfl ⟨rfl, hH⟩)
  refine den_r1 rfl h (den_r0 rfl h ⟨_, _, _, rfl⟩ ⟨fun h1 => ?_, fun h1 => ?_⟩)
  · simp only [ev0, ev, evV, List.cons_append, List.nil_append, List.getD_cons_zero, List.getD_cons_succ, List.map_cons, List.map_nil, iOf, bOf, sOf, pOf, slLen, slBase, cmpI, arI, Value.ite_bool, int_beq, int_bne, ite_band, ite_bor, decide_eq_true_eq] at h1
    have hkl : k < ts.length := by omega
    obtain ⟨t, hkt⟩ : ∃ t, ts[k]? = some t := ⟨_, List.getElem?_eq_getElem hkl⟩
    rw [drop_cons hkt]
    obtain ⟨g1, _, ces, g2, g3⟩ := (hs.le h.le).get hkt
    obtain ⟨rfl, _⟩ := Tk.Rep_iff.1 g2
    have p3 := rowAt_sub g3 3 1
    refine den_r0 rfl h ⟨_, _, _, rfl⟩ (den_r1 rfl h ⟨fun _ => ?_, [.int .i64 t.at_], rfl, p3, _, lookup_hit, rfl, rfl⟩)
    simp only [Chk.holds, ev0, ev, evV, List.cons_append, List.nil_append, List.getD_cons_zero, List.getD_cons_succ, List.map_cons, List.map_nil, iOf, bOf, sOf, pOf, slLen, slBase, cmpI, arI, Value.ite_bool, int_beq, int_bne, ite_band, ite_bor]; exact ⟨g1, by omega, by omega⟩
  · simp only [ev0, ev, evV, List.cons_append, List.nil_append, List.getD_cons_zero, List.getD_cons_succ, List.map_cons, List.map_nil, iOf, bOf, sOf, pOf, slLen, slBase, cmpI, arI, Value.ite_bool, int_beq, int_bne, ite_band, ite_bor, decide_eq_false_iff_not] at h1
    rw [List.drop_eq_nil_of_le (by omega)]
    exact ⟨_, lookup_hit, rfl, rfl⟩

/-! ### a datum; what stands in brackets -/
/-- what comes of a reading: of T, these being open; behind it those are -/
def RDone (S : PH) (p : Nat) (lv : Value) (en : Nat) (ts : List Tk) (rs ro : List Opn) (T : List Tk) (e : Ending) (H' : PH) : Prop :=
  (∃ (S' : PH) (k' : Nat) (d : Dat) (cs : List Value), e = .returned (.agg cs.toArray) ∧ PH.le S S' ∧ RX S' H' p lv k' en ∧ d.Rep S' cs ∧ k' ≤ ts.length ∧ (ts.drop k').length < T.length + (rs.length - ro.length) ∧ d.cnt + 2 * (ts.drop k').length ≤ 2 * T.length + 2 * (rs.length - ro.length) ∧
    ∀ out, runR en T rs out = runR en (ts.drop k') (endedS ro d).1 (out ++ (endedS ro d).2.toList)) ∨
  ∃ a x, e = .panicked [{ v := troubleV a x, recovered := false }] ∧ PH.le S H' ∧ ∀ out, runR en T rs out = .bad a x
/-- a datum may be asked for -/
structure Asked (rs : List Opn) (T : List Tk) : Prop where
  close : ∀ t T', T = t :: T' → t.kind = 1 → mayI rs 1 = 40
  dot : ∀ t T', T = t :: T' → t.kind = 4 → mayI rs 4 = 42
  full : fullB (topO rs) = false
  some : T ≠ [] ∨ rs ≠ []
  deep : rs.length ≤ 32
def DatC (p : Nat) (lv : Value) (en : Nat) (ts : List Tk) (n : Nat) : Prop := ∀ (S : PH) (k : Nat) (rs : List Opn), S p = none → SlR S ts lv → k ≤ ts.length → (ts.drop k).length ≤ n → Asked rs (ts.drop k) →
  Tri Tryz.prog n_read_reader__datum #[.pointer (some ⟨p, 0, none⟩), .int .i64 rs.length] (S.upd p (rb lv k en)) (RDone S p lv en ts rs rs (ts.drop k))
def ItemsC (p : Nat) (lv : Value) (en : Nat) (ts : List Tk) (n : Nat) : Prop := ∀ (S : PH) (k : Nat) (rs : List Opn) (kd : Int), S p = none → SlR S ts lv → k ≤ ts.length → (ts.drop k).length ≤ n → rs.length < 32 → kd = 0 ∨ kd = 2 →
  Tri Tryz.prog n_read_reader__items #[.pointer (some ⟨p, 0, none⟩), .int .i64 kd, .int .i64 ((rs.length + 1 : Nat) : Int)] (S.upd p (rb lv k en)) (RDone S p lv en ts (.mk kd [] (-1) :: rs) rs (ts.drop k))
/-- what is beside stands -/
def Aside (p : Nat) (S H S' H' : PH) : Prop := ∀ g, g ≠ p → S g = none → H g ≠ none → S' g = none ∧ H' g = H g
theorem Row.aside {α : Type} [Enc α] {S H S' H' : PH} {e : TypeId} {l : List α} {v : Value} {p : Nat} (h : Row S H e l v) (hp : ob v ≠ some p) (hs : PH.le S S') (ha : Aside p S H S' H') : Row S' H' e l v := by
  have key : ∀ g, ob v = some g → S' g = none ∧ H' g = H g := fun g hg => ha g (fun e => hp (by rw [hg, e])) (h.off g hg) (h.dwell hg)
  obtain ⟨xs, h1, h2⟩ := h.own
  refine ⟨fun g hg => (key g hg).1, xs, ⟨h1.1, ?_⟩, PV.RepRow.le hs h2⟩
  rcases h1.2 with h | ⟨g, cap, cur, rfl, h3, h4⟩
  · exact .inl h
  · exact .inr ⟨g, cap, cur, rfl, by rw [(key g rfl).2]; exact h3, h4⟩
/-- such a call, where more is known -/
theorem RDone.within {S H : PH} {p k en : Nat} {lv : Value} {ts T : List Tk} {rs ro : List Opn} {f : FuncId} {args : Array Value} (h : RX S H p lv k en) (ht : Tri Tryz.prog f args (S.upd p (rb lv k en)) (RDone S p lv en ts rs ro T)) :
    Tri Tryz.prog f args H fun e H' => (∃ (S' : PH) (k' : Nat) (d : Dat) (cs : List Value), e = .returned (.agg cs.toArray) ∧ PH.le S S' ∧ RX S' H' p lv k' en ∧ d.Rep S' cs ∧ k' ≤ ts.length ∧ (ts.drop k').length < T.length + (rs.length - ro.length) ∧ d.cnt + 2 * (ts.drop k').length ≤ 2 * T.length + 2 * (rs.length - ro.length) ∧
      (∀ out, runR en T rs out = runR en (ts.drop k') (endedS ro d).1 (out ++ (endedS ro d).2.toList)) ∧ Aside p S H S' H') ∨
      ∃ a x, e = .panicked [{ v := troubleV a x, recovered := false }] ∧ PH.le S H' ∧ (∀ g, g ≠ p → S g = none → H g ≠ none → H' g = H g) ∧ ∀ out, runR en T rs out = .bad a x := by
  have hle : PH.le (S.upd p (rb lv k en)) H := by
    intro g o hg
    by_cases e : g = p
    · subst e; rw [PH.upd_same] at hg; cases hg; exact h.at_
    · rw [PH.upd_other e] at hg; exact h.le g o hg
  refine (Tri.within hle ht).mono ?_
  rintro e H' ⟨K, hr, h1, h2⟩
  rcases hr with ⟨S', k', d, cs, q1, q2, q3, q4, q5, q6, q7, q8⟩ | ⟨a, x, q1, q2, q3⟩
  · refine .inl ⟨S', k', d, cs, q1, q2, q3.grow h1, q4, q5, q6, q7, q8, fun g hg hs ho => ?_⟩
    obtain ⟨r1, r2⟩ := h2 g (by rw [PH.upd_other hg]; exact hs) ho
    exact ⟨PH.none_of_le q3.le r1, r2⟩
  · exact .inr ⟨a, x, q1, PH.le_trans q2 h1, fun g hg hs ho => (h2 g (by rw [PH.upd_other hg]; exact hs) ho).2, q3⟩
end Go.Proofs.YtlnmmakbgldflaaGreatDoor.Vc
/-
  SOURCE: the program's reader: a datum, and what stands in brackets.
-/
namespace Go.Proofs.YtlnmmakbgldflaaGreatDoor.Vc
open Go

/-! ### the stack's steps -/
theorem next_push {t : Tk} (h : t.kind = 0 ∨ t.kind = 2 ∨ t.kind = 3) (rs : List Opn) : nextS t rs = (.mk t.kind [] (-1) :: rs, none) := by unfold nextS; rw [if_pos h]
theorem next_dot {t : Tk} (h : t.kind = 4) (k d : Int) (l : List Dat) (rs : List Opn) : nextS t (.mk k l d :: rs) = (.mk k l l.length :: rs, none) := by unfold nextS; rw [if_neg (by omega), if_pos h]; rfl
theorem next_close {t : Tk} (h : t.kind = 1) (o : Opn) (rs : List Opn) : nextS t (o :: rs) = endedS rs (closedD o) := by unfold nextS; rw [if_neg (by omega), if_neg (by omega), if_pos h]; rfl
theorem next_one {t : Tk} (h0 : t.kind ≠ 0) (h1 : t.kind ≠ 1) (h2 : t.kind ≠ 2) (h3 : t.kind ≠ 3) (h4 : t.kind ≠ 4) (rs : List Opn) : nextS t rs = endedS rs (oneD t) := by unfold nextS; rw [if_neg (by omega), if_neg h4, if_neg h1]
theorem ended_in {k : Int} (h : k ≠ 3) (l : List Dat) (dt : Int) (rs : List Opn) (d : Dat) : endedS (.mk k l dt :: rs) d = (.mk k (l ++ [d]) dt :: rs, none) := by
  have : (Opn.mk k l dt).kind ≠ 3 := h
  rw [endedS, if_neg this]; rfl
theorem ended_quote (l : List Dat) (dt : Int) (rs : List Opn) (d : Dat) : endedS (.mk 3 l dt :: rs) d = endedS rs (quoteD d) := by
  have : (Opn.mk 3 l dt).kind = 3 := rfl
  rw [endedS, if_pos this]
theorem run_ok (en : Int) {t : Tk} {T : List Tk} {rs : List Opn} (h : mayI rs t.kind = 0) (out : List Dat) : runR en (t :: T) rs out = runR en T (nextS t rs).1 (out ++ (nextS t rs).2.toList) := by rw [runR, if_pos h]
theorem run_no (en : Int) {t : Tk} {T : List Tk} {rs : List Opn} {e : Int} (h : mayI rs t.kind = e) (he : e ≠ 0) (out : List Dat) : runR en (t :: T) rs out = .bad t.at_ e := by rw [runR, if_neg (by rw [h]; exact he), h]
theorem run_end (en : Int) {rs : List Opn} (h : rs ≠ []) (out : List Dat) : runR en [] rs out = .bad en 41 := by
  have : rs.length ≠ 0 := fun e => h (List.length_eq_zero_iff.1 e)
  rw [runR, if_neg this]
theorem may_full {kd : Int} (h0 : kd = 0 ∨ kd = 2) (l : List Dat) (d : Dat) (rs : List Opn) (k : Int) : mayI (.mk kd (l ++ [d]) l.length :: rs) k = if k = 1 then 0 else 42 := by
  have e : fullB (.mk kd (l ++ [d]) l.length) = true := by simp [fullB, Opn.dot, Opn.list]
  unfold mayI
  simp only [topO, e]
  rcases h0 with rfl | rfl <;> simp [Opn.kind, Opn.dot, Opn.list] <;> grind
theorem may_list {kd : Int} (h0 : kd = 0 ∨ kd = 2) (l : List Dat) (rs : List Opn) (k : Int) (hl : rs.length < 31 ∨ (k ≠ 0 ∧ k ≠ 2 ∧ k ≠ 3)) : mayI (.mk kd l (-1) :: rs) k = if k = 4 then (if kd = 0 ∧ l.length ≠ 0 then 0 else 42) else 0 := by
  have e : fullB (.mk kd l (-1)) = false := by simp [fullB, Opn.dot]
  unfold mayI
  simp only [topO, e]
  rcases h0 with rfl | rfl <;> simp [Opn.kind, Opn.dot, Opn.list] <;> grind
theorem run_full (en : Nat) {kd : Int} (h0 : kd = 0 ∨ kd = 2) (l : List Dat) (d : Dat) (rs : List Opn) (T : List Tk) (h : kindAt T ≠ 1) (out : List Dat) : runR en T (.mk kd (l ++ [d]) l.length :: rs) out = .bad (failAt en 42 T).1 (failAt en 42 T).2 := by
  cases T with
  | nil => exact run_end en (by simp) out
  | cons t T =>
    have h' : t.kind ≠ 1 := h
    exact run_no (e := 42) en (by rw [may_full h0, if_neg h']) (by decide) out
theorem closed_dot {kd : Int} (h0 : kd ≠ 2) (l : List Dat) (d : Dat) : closedD (.mk kd (l ++ [d]) l.length) = makeD l d := by
  have h1 : ¬ (Opn.mk kd (l ++ [d]) l.length).kind = 2 := h0
  have h2 : ¬ (Opn.mk kd (l ++ [d]) l.length).dot < 0 := by simp [Opn.dot]
  rw [closedD, if_neg h1, if_neg h2]
  simp [Opn.dot, Opn.list]
theorem closed_list {kd : Int} (l : List Dat) : closedD (.mk kd l (-1)) = .mk (if kd = 2 then 7 else 5) 0 [] l := by
  by_cases h : kd = 2
  · have h1 : (Opn.mk kd l (-1)).kind = 2 := h
    rw [closedD, if_pos h1, if_pos h]; rfl
  · have h1 : ¬ (Opn.mk kd l (-1)).kind = 2 := h
    have h2 : (Opn.mk kd l (-1)).dot < 0 := by simp [Opn.dot]
    rw [closedD, if_neg h1, if_pos h2, if_neg h]; rfl
theorem kind_cons {T : List Tk} {k : Int} (h : kindAt T = k) (h0 : k ≠ -1) : ∃ t T', T = t :: T' ∧ t.kind = k := by
  cases T with
  | nil => exact absurd h.symm h0
  | cons t T => exact ⟨t, T, rfl, h⟩
theorem drop_tail {α : Type} {l T : List α} {k : Nat} {t : α} (h : l.drop k = t :: T) : T = l.drop (k + 1) ∧ k < l.length := by
  have hk : k < l.length := by
    rcases Nat.lt_or_ge k l.length with h' | h'
    · exact h'
    · rw [List.drop_eq_nil_of_le h'] at h; cases h
  rw [List.drop_eq_getElem_cons hk] at h
  exact ⟨(List.cons.inj h).2.symm, hk⟩

theorem items_step {p : Nat} {lv : Value} {en : Nat} {ts : List Tk} {n : Nat} (hm : ts.length ≤ 4096) (hD : DatC p lv en ts n) : ItemsC p lv en ts n := by
  intro S k rs kd hp hs hk hn hr hkd
  have hrx0 : RX S (S.upd p (rb lv k en)) p lv k en := ⟨PH.le_upd hp, hp, PH.upd_same⟩
  refine tri_read_reader__items [.pointer (some ⟨p, 0, none⟩), .int .i64 kd, .int .i64 ((rs.length + 1 : Nat) : Int)] (by rfl) (by rfl) ?_
  refine ⟨fun m zs H' => ∃ (S1 : PH) (k1 : Nat) (l : List Dat) (v : Value), zs = [v, .int .i64 0, .int .i64 0, txt [], .slice none 0 0] ∧ PH.le S S1 ∧ RX S1 H' p lv k1 en ∧ Row S1 H' 34 l v ∧ ob v ≠ some p ∧ k1 ≤ ts.length ∧ m = (ts.drop k1).length ∧ m ≤ (ts.drop k).length ∧
    Dats.cnt l + 2 * m ≤ 2 * (ts.drop k).length ∧ ∀ out, runR en (ts.drop k) (.mk kd [] (-1) :: rs) out = runR en (ts.drop k1) (.mk kd l (-1) :: rs) out,
    ⟨(ts.drop k).length, S, k, [], .slice none 0 0, rfl, PH.le_refl _, hrx0, Row.nil _ _ _, (fun h => by cases h), hk, rfl, Nat.le_refl _, by simp [Dats.cnt], fun _ => rfl⟩, ?_⟩
  rintro m zs H1 _ ⟨S1, k1, l, v, rfl, hS1, hx1, hv, hvp, hk1, rfl, hm1, hc1, hrun⟩
  have hs1 := hs.le hS1
  have hcl := Dats.cnt_le l
  have hdl : (ts.drop k).length = ts.length - k := List.length_drop
  have hdl1 : (ts.drop k1).length = ts.length - k1 := List.length_drop
  obtain ⟨b, c, rfl⟩ := hv.sl
  refine den_gives [.int .i64 (kindAt (ts.drop k1))] cb_read_reader__kind (kind_gives ts hx1 hs1 hk1 hm) rfl pendNil fun H2 l2 => ?_
  have hx2 := hx1.grow l2
  have hv2 := hv.ext (Ext.of_le hx1.le l2)
  refine ⟨fun h1 => ?_, fun h1 => ?_⟩
  · simp only [ev0, ev, evV, List.cons_append, List.nil_append, List.getD_cons_zero, List.getD_cons_succ, List.map_cons, List.map_nil, iOf, bOf, sOf, pOf, slLen, slBase, cmpI, arI, Value.ite_bool, int_beq, int_bne, ite_band, ite_bor, decide_eq_true_eq] at h1
    refine den_gives [.int .i64 (kindAt (ts.drop k1))] cb_read_reader__kind (kind_gives ts hx2 hs1 hk1 hm) rfl pendNil fun H3 l3 => ?_
    have hx3 := hx2.grow l3
    have hv3 := hv2.ext (Ext.of_le hx2.le l3)
    refine ⟨fun h2 => ?_, fun h2 => ?_⟩
    · -- a dot, and the tail
      have h2' : kindAt (ts.drop k1) = 4 ∧ l.length ≠ 0 ∧ kd = 0 := by
        simp only [ev0, ev, evV, List.cons_append, List.nil_append, List.getD_cons_zero, List.getD_cons_succ, List.map_cons, List.map_nil, iOf, bOf, sOf, pOf, slLen, slBase, cmpI, arI, Value.ite_bool, int_beq, int_bne, ite_band, ite_bor] at h2
        rcases hkd with rfl | rfl
        · simp at h2
          exact ⟨h2.1, by have := h2.2; omega, rfl⟩
        · simp at h2
      obtain ⟨h4, hl0, rfl⟩ := h2'
      obtain ⟨t, T', hT, ht4⟩ := kind_cons h4 (by decide)
      obtain ⟨rfl, hk1l⟩ := drop_tail hT
      have hrun2 : ∀ out, runR en (ts.drop k1) (.mk 0 l (-1) :: rs) out = runR en (ts.drop (k1 + 1)) (.mk 0 l l.length :: rs) out := fun out => by
        rw [hT, run_ok en (by rw [ht4, may_list (.inl rfl) l rs 4 (.inr (by decide)), if_pos rfl, if_pos ⟨rfl, hl0⟩]), next_dot ht4]
        simp
      refine den_rsome rfl (den_r1 rfl hx3 (den_rput rfl hx3 (by simp only [ev0, ev, evV, List.cons_append, List.nil_append, List.getD_cons_zero, List.getD_cons_succ, List.map_cons, List.map_nil, iOf, bOf, sOf, pOf, slLen, slBase, cmpI, arI, Value.ite_bool, int_beq, int_bne, ite_band, ite_bor]; rw [w64 (by omega) (by omega)]; rfl) fun H4 hx4 hk4 => ?_))
      have hv4 : Row S1 H4 34 l (.slice b l.length c) := hv3.aside hvp (PH.le_refl _) fun g hg hs _ => ⟨hs, hk4 g hg⟩
      have hask : Asked (.mk 0 l l.length :: rs) (ts.drop (k1 + 1)) := by
        have e : fullB (.mk 0 l l.length) = false := by
          have : ¬ (((Opn.mk 0 l l.length).list.length : Int) = (Opn.mk 0 l l.length).dot + 1) := by show ¬ ((l.length : Int) = (l.length : Int) + 1); omega
          unfold fullB
          rw [decide_eq_false this, Bool.and_false]
        refine ⟨fun t T _ _ => ?_, fun t T _ _ => ?_, e, .inr (by simp), by simp; omega⟩
        · unfold mayI; simp only [topO, e]; simp [Opn.kind, Opn.dot]
        · unfold mayI; simp only [topO]; simp [Opn.kind, Opn.dot]
      have hdl2 : (ts.drop (k1 + 1)).length = ts.length - (k1 + 1) := List.length_drop
      refine den_callP cb_read_reader__datum (RDone.within hx4 (hD S1 (k1 + 1) (.mk 0 l l.length :: rs) hx4.off hs1 (by omega) (by omega) hask)) ?_
      rintro e H5 (⟨S5, k5, d, cs, rfl, q2, q3, q4, q5, q6, q7, q8, q9⟩ | ⟨a, x, rfl, q2, _, q3⟩)
      rotate_left
      · exact .inr ⟨a, x, rfl, PH.le_trans hS1 q2, fun out => by rw [hrun, hrun2]; exact q3 out⟩
      have hdl5 : (ts.drop k5).length = ts.length - k5 := List.length_drop
      obtain ⟨dv, rfl, y1, y2, y3, y4⟩ := Dat.Rep_iff.1 q4
      obtain ⟨db, dc, rfl⟩ := y4.sl
      have hv5 := hv4.aside hvp q2 q9
      have hs5 := hs1.le q2
      refine ⟨[.int .i64 d.kind, .int .i64 d.int, txt d.text, .slice db d.list.length dc], rfl, rfl, pendNil, ?_⟩
      refine ⟨fun zs H' => zs = [] ∧ PH.le H5 H' ∧ ∃ t2 T2, ts.drop k5 = t2 :: T2 ∧ t2.kind = 1, ?_, ?_⟩
      · rintro zs H6 _ ⟨rfl, l6, t2, T2, hT2, ht2⟩
        obtain ⟨rfl, hk5l⟩ := drop_tail hT2
        have hx6 := q3.grow l6
        have hv6 := hv5.ext (Ext.of_le q3.le l6)
        refine den_r1 rfl hx6 (den_rput rfl hx6 (by simp only [ev0, ev, evV, List.cons_append, List.nil_append, List.getD_cons_zero, List.getD_cons_succ, List.map_cons, List.map_nil, iOf, bOf, sOf, pOf, slLen, slBase, cmpI, arI, Value.ite_bool, int_beq, int_bne, ite_band, ite_bor]; rw [w64 (by omega) (by omega)]; rfl) fun H7 hx7 hk7 => ?_)
        have hv7 : Row S5 H7 34 l (.slice b l.length c) := hv6.aside hvp (PH.le_refl _) fun g hg hs _ => ⟨hs, hk7 g hg⟩
        obtain ⟨S9, f1, f2, f3, f4⟩ := hv7.freeze hx7.le
        have hx9 : RX S9 H7 p lv (k5 + 1) en := ⟨f3, by
          cases hs9 : S9 p with
          | none => rfl
          | some o => exact absurd (f4 p hx7.off (by rw [hs9]; exact fun e => by cases e)) hvp, hx7.at_⟩
        refine den_call cb_data_Make (Tri.ext f3 (fun e K hK => hK.choose_spec.2.1) (DMake_gives l d _ _ S9 f1 (q4.le f2) (by omega) (by omega))) ?_
        rintro e H8 ⟨K, ⟨cs8, rfl, l8, hr8⟩, x8⟩
        obtain ⟨cv, rfl, z1, z2, z3, z4⟩ := Dat.Rep_iff.1 hr8
        obtain ⟨cb', cc, rfl⟩ := z4.sl
        have hmk := makeD_cnt l d
        have hdl9 : (ts.drop (k5 + 1)).length = ts.length - (k5 + 1) := List.length_drop
        refine ⟨_, [_, _, _, _], rfl, rfl, rfl, pendNil, .inl ⟨K, k5 + 1, makeD l d, _, rfl, PH.le_trans hS1 (PH.le_trans q2 (PH.le_trans f2 l8)), hx9.ext x8, hr8, by omega, by simp; omega, by simp; simp at q7; omega, fun out => ?_⟩⟩
        rw [hrun, hrun2, q8, ended_in (by decide), Option.toList_none, List.append_nil, hT2, run_ok en (by rw [may_full (.inl rfl), if_pos ht2]), next_close ht2, closed_dot (by decide)]
      · refine den_gives [.int .i64 (kindAt (ts.drop k5))] cb_read_reader__kind (kind_gives ts q3 hs5 q5 hm) rfl pendNil fun H6 l6 => ⟨fun h6 => ?_, fun h6 => ?_⟩
        · simp only [ev0, ev, evV, List.cons_append, List.nil_append, List.getD_cons_zero, List.getD_cons_succ, List.map_cons, List.map_nil, iOf, bOf, sOf, pOf, slLen, slBase, cmpI, arI, Value.ite_bool, int_beq, int_bne, ite_band, ite_bor, decide_eq_true_eq] at h6
          refine den_callP cb_read_reader__fail (fail_tri ts 42 (q3.grow l6) hs5 q5 hm) ?_
          rintro e H7 ⟨rfl, rfl⟩
          refine .inr ⟨_, _, rfl, PH.le_trans hS1 (PH.le_trans q2 (PH.le_trans q3.le l6)), fun out => ?_⟩
          rw [hrun, hrun2, q8, ended_in (by decide)]
          exact run_full en (.inl rfl) l d rs _ h6 _
        · simp only [ev0, ev, evV, List.cons_append, List.nil_append, List.getD_cons_zero, List.getD_cons_succ, List.map_cons, List.map_nil, iOf, bOf, sOf, pOf, slLen, slBase, cmpI, arI, Value.ite_bool, int_beq, int_bne, ite_band, ite_bor, decide_eq_false_iff_not, ne_eq, Decidable.not_not] at h6
          obtain ⟨t2, T2, hT2, ht2⟩ := kind_cons h6 (by decide)
          exact ⟨_, lookup_hit, rfl, l6, t2, T2, hT2, ht2⟩
    · -- one more
      have h2' : kindAt (ts.drop k1) = 4 → kd = 2 ∨ l.length = 0 := by
        intro h4
        simp only [ev0, ev, evV, List.cons_append, List.nil_append, List.getD_cons_zero, List.getD_cons_succ, List.map_cons, List.map_nil, iOf, bOf, sOf, pOf, slLen, slBase, cmpI, arI, Value.ite_bool, int_beq, int_bne, ite_band, ite_bor, h4] at h2
        rcases hkd with rfl | rfl
        · right
          rcases Nat.eq_zero_or_pos l.length with hz | hz
          · exact hz
          · have e : (decide ((l.length : Int) > 0)) = true := decide_eq_true (by omega)
            rw [e] at h2
            exact absurd h2 (by decide)
        · exact .inl rfl
      have hask : Asked (.mk kd l (-1) :: rs) (ts.drop k1) := by
        have e : fullB (.mk kd l (-1)) = false := by simp [fullB, Opn.dot]
        refine ⟨fun t T hT ht => ?_, fun t T hT ht => ?_, e, .inr (by simp), by simp; omega⟩
        · rw [hT] at h1; exact absurd ht h1
        · rw [hT] at h2'
          have h3 := h2' ht
          rw [may_list hkd l rs 4 (.inr (by decide)), if_pos rfl, if_neg]
          rcases h3 with h3 | h3
          · rw [h3]; simp
          · rw [h3]; simp
      refine den_callP cb_read_reader__datum (RDone.within hx3 (hD S1 k1 (.mk kd l (-1) :: rs) hx3.off hs1 hk1 (by omega) hask)) ?_
      rintro e H5 (⟨S5, k5, d, cs, rfl, q2, q3, q4, q5, q6, q7, q8, q9⟩ | ⟨a, x, rfl, q2, _, q3⟩)
      rotate_left
      · exact .inr ⟨a, x, rfl, PH.le_trans hS1 q2, fun out => by rw [hrun]; exact q3 out⟩
      have hdl5 : (ts.drop k5).length = ts.length - k5 := List.length_drop
      have hkd3 : kd ≠ 3 := by rcases hkd with rfl | rfl <;> decide
      obtain ⟨dv, rfl, y1, y2, y3, y4⟩ := Dat.Rep_iff.1 q4
      obtain ⟨db, dc, rfl⟩ := y4.sl
      have hv5 := hv3.aside hvp q2 q9
      have hs5 := hs1.le q2
      have hpd := Dat.cnt_eq d
      refine ⟨[.int .i64 d.kind, .int .i64 d.int, txt d.text, .slice db d.list.length dc], rfl, rfl, pendNil, ?_⟩
      refine den_rowLit (l := [d]) (b := 56) [.agg #[.int .i64 d.kind, .int .i64 d.int, txt d.text, .slice db d.list.length dc]] uDats elemDat rfl (by decide) (by decide) q3.le rfl (.cons q4 .nil) pendNil fun v6 S6 H6 x6 h6 _ => ?_
      have hx6 := q3.ext x6
      refine den_rowAppend (b := 56) uDats elemDat rfl rfl hx6.le (hv5.ext x6) h6 (by simp only [maxLen, List.length_cons, List.length_nil]; omega) (by simp only [List.length_cons, List.length_nil]; omega) fun v7 H7 r7 w7 s7 => ⟨pendNil, ?_⟩
      have hx7 : RX S6 H7 p lv k5 en := ⟨s7, hx6.off, w7.keep _ _ hx6.at_ fun e => hvp e.symm⟩
      refine ⟨_, lookup_hit, (ts.drop k5).length, by simp only [List.length_cons] at q6; omega, S6, k5, l ++ [d], v7, rfl, PH.le_trans hS1 (PH.le_trans q2 x6.s), hx7, r7, ?_, q5, rfl, by simp only [List.length_cons] at q6; omega, ?_, fun out => ?_⟩
      · intro e
        rcases w7.fresh p e with h | h
        · exact hvp h
        · rw [hx6.at_] at h; cases h
      · rw [Dats.cnt_append]; simp only [Dats.cnt, Nat.sub_self, Nat.mul_zero, Nat.add_zero] at q7 ⊢; omega
      · rw [hrun, q8, ended_in hkd3, Option.toList_none, List.append_nil]
  · -- the closing one
    simp only [ev0, ev, evV, List.cons_append, List.nil_append, List.getD_cons_zero, List.getD_cons_succ, List.map_cons, List.map_nil, iOf, bOf, sOf, pOf, slLen, slBase, cmpI, arI, Value.ite_bool, int_beq, int_bne, ite_band, ite_bor, decide_eq_false_iff_not, ne_eq, Decidable.not_not] at h1
    obtain ⟨t, T', hT, ht1⟩ := kind_cons h1 (by decide)
    obtain ⟨rfl, hk1l⟩ := drop_tail hT
    refine den_rsome rfl (den_r1 rfl hx2 (den_rput rfl hx2 (by simp only [ev0, ev, evV, List.cons_append, List.nil_append, List.getD_cons_zero, List.getD_cons_succ, List.map_cons, List.map_nil, iOf, bOf, sOf, pOf, slLen, slBase, cmpI, arI, Value.ite_bool, int_beq, int_bne, ite_band, ite_bor]; rw [w64 (by omega) (by omega)]; rfl) fun H4 hx4 hk4 => ?_))
    have hv4 : Row S1 H4 34 l (.slice b l.length c) := hv2.aside hvp (PH.le_refl _) fun g hg hs _ => ⟨hs, hk4 g hg⟩
    obtain ⟨S9, f1, f2, f3, f4⟩ := hv4.freeze hx4.le
    have hx9 : RX S9 H4 p lv (k1 + 1) en := ⟨f3, by
      cases hs9 : S9 p with
      | none => rfl
      | some o => exact absurd (f4 p hx4.off (by rw [hs9]; exact fun e => by cases e)) hvp, hx4.at_⟩
    have hdl9 : (ts.drop (k1 + 1)).length = ts.length - (k1 + 1) := List.length_drop
    refine .inl ⟨S9, k1 + 1, .mk (if kd = 2 then 7 else 5) 0 [] l, [.int .i64 (if kd = 2 then 7 else 5), .int .i64 0, txt [], .slice b l.length c], ?_, PH.le_trans hS1 f2, hx9, ?_, by omega, by simp; omega, by simp [Dat.cnt]; omega, fun out => ?_⟩
    · rcases hkd with rfl | rfl <;> rfl
    · have hik : InI (if kd = 2 then 7 else 5) := by rcases hkd with rfl | rfl <;> decide
      exact Dat.Rep_iff.2 ⟨_, rfl, hik, (show InI 0 from by decide), Nat.zero_le _, f1⟩
    · rw [hrun, hT, run_ok en (by rw [ht1, may_list hkd l rs 1 (.inr (by decide)), if_neg (by decide)]), next_close ht1, closed_list]

theorem may_else {rs : List Opn} (hf : fullB (topO rs) = false) {k : Int} (h1 : k ≠ 1) (h4 : k ≠ 4) : mayI rs k = if (k = 0 ∨ k = 2 ∨ k = 3) ∧ 32 ≤ rs.length then 43 else 0 := by
  unfold mayI
  rw [if_neg h1, if_neg h4, hf]
  simp only [Bool.false_eq_true, if_false]
theorem datum_step {p : Nat} {lv : Value} {en : Nat} {ts : List Tk} {n : Nat} (hm : ts.length ≤ 4096) (hkd : ∀ t ∈ ts, 0 ≤ t.kind ∧ t.kind ≤ 9) (hI : ∀ m, m < n → DatC p lv en ts m) : DatC p lv en ts n := by
  intro S k rs hp hs hk hn ha
  have hrx0 : RX S (S.upd p (rb lv k en)) p lv k en := ⟨PH.le_upd hp, hp, PH.upd_same⟩
  obtain ⟨lb, lc, rfl⟩ := hs.sl
  refine tri_read_reader__datum [.pointer (some ⟨p, 0, none⟩), .int .i64 rs.length] (by rfl) (by rfl) ?_
  refine den_gives [.int .i64 (kindAt (ts.drop k))] cb_read_reader__kind (kind_gives ts hrx0 hs hk hm) rfl pendNil fun H1 l1 => ?_
  have hx1 := hrx0.grow l1
  have hdl : (ts.drop k).length = ts.length - k := List.length_drop
  have hk0 : ∀ t T', ts.drop k = t :: T' → 0 ≤ t.kind ∧ t.kind ≤ 9 := fun t T' h => hkd t (List.mem_of_mem_drop (by rw [h]; exact List.mem_cons_self ..))
  have failed : ∀ e, (∀ t T', ts.drop k = t :: T' → mayI rs t.kind = e) → e ≠ 0 → ∀ out, runR en (ts.drop k) rs out = .bad (failAt en e (ts.drop k)).1 (failAt en e (ts.drop k)).2 := by
    intro e he h0 out
    cases hT : ts.drop k with
    | nil =>
      refine run_end en ?_ out
      rcases ha.some with h | h
      · exact absurd hT h
      · exact h
    | cons t T' => exact run_no (e := e) en (he t T' hT) h0 out
  refine ⟨fun zs H' => zs = [] ∧ H' = H1 ∧ ∃ t T', ts.drop k = t :: T' ∧ t.kind ≠ 1 ∧ t.kind ≠ 4 ∧ mayI rs t.kind = 0, ?_, ?_⟩
  · rintro zs H' _ ⟨rfl, hH, t, T', hT, ht1, ht4, hmay⟩
    rw [hH]
    obtain ⟨rfl, hkl⟩ := drop_tail hT
    have hkt : ts[k]? = some t := by
      rw [List.drop_eq_getElem_cons hkl] at hT
      rw [List.getElem?_eq_getElem hkl, (List.cons.inj hT).1]
    have hka : kindAt (ts.drop k) = t.kind := by rw [hT]; rfl
    obtain ⟨g1, _, ces, g2, g3⟩ := (hs.le hx1.le).get hkt
    obtain ⟨rfl, _, htx, hti, _⟩ := Tk.Rep_iff.1 g2
    obtain ⟨z0, z9⟩ := hk0 t _ hT
    have hdl1 : (ts.drop (k + 1)).length = ts.length - (k + 1) := List.length_drop
    have hstep : ∀ out, runR en (ts.drop k) rs out = runR en (ts.drop (k + 1)) (nextS t rs).1 (out ++ (nextS t rs).2.toList) := fun out => by rw [hT, run_ok en hmay]
    refine den_rsome rfl (den_r0 rfl hx1 ⟨_, _, _, rfl⟩ (den_r1 rfl hx1 ⟨fun _ => ?_, _, rfl, g3, den_r1 rfl hx1 (den_rput rfl hx1 ?_ fun H2 hx2 hk2 => ?_)⟩))
    · simp only [Chk.holds, ev0, ev, evV, List.cons_append, List.nil_append, List.getD_cons_zero, List.getD_cons_succ, List.map_cons, List.map_nil, iOf, bOf, sOf, pOf, slLen, slBase, cmpI, arI, Value.ite_bool, int_beq, int_bne, ite_band, ite_bor]; exact ⟨g1, by omega, by omega⟩
    · simp only [ev0, ev, evV, List.cons_append, List.nil_append, List.getD_cons_zero, List.getD_cons_succ, List.map_cons, List.map_nil, iOf, bOf, sOf, pOf, slLen, slBase, cmpI, arI, Value.ite_bool, int_beq, int_bne, ite_band, ite_bor]; rw [w64 (by omega) (by omega)]; rfl
    rw [hka]
    refine ⟨fun zs H' => ∃ a b c d, zs = [a, b, c, d] ∧ RDone S p (.slice lb ts.length lc) en ts rs rs (ts.drop k) (.returned (.agg #[a, b, c, d])) H', ?_, ?_⟩
    · rintro zs H' _ ⟨a, b, c, d, rfl, hd⟩
      exact hd
    refine ⟨fun h3 => ?_, fun h3 => ?_⟩
    · simp only [ev0, ev, evV, List.cons_append, List.nil_append, List.getD_cons_zero, List.getD_cons_succ, List.map_cons, List.map_nil, iOf, bOf, sOf, pOf, slLen, slBase, cmpI, arI, Value.ite_bool, int_beq, int_bne, ite_band, ite_bor, decide_eq_true_eq] at h3
      have hlt : rs.length < 32 := by
        rw [may_else ha.full ht1 ht4] at hmay
        rcases Nat.lt_or_ge rs.length 32 with h | h
        · exact h
        · rw [if_pos ⟨.inr (.inr h3), h⟩] at hmay; cases hmay
      have hask : Asked (.mk 3 [] (-1) :: rs) (ts.drop (k + 1)) := by
        have e : fullB (.mk 3 [] (-1)) = false := by decide
        refine ⟨fun t T _ _ => ?_, fun t T _ _ => ?_, e, .inr (by simp), by simp; omega⟩
        · unfold mayI; simp only [topO, e]; simp [Opn.kind]
        · unfold mayI; simp only [topO]; simp [Opn.kind]
      have hcall := hI (ts.drop (k + 1)).length (by omega) S (k + 1) (.mk 3 [] (-1) :: rs) hp hs (by omega) (Nat.le_refl _) hask
      refine den_callP (R := fun e H' => _) cb_read_reader__datum (by
        have := RDone.within hx2 hcall
        simp only [ev0, ev, evV, List.cons_append, List.nil_append, List.getD_cons_zero, List.getD_cons_succ, List.map_cons, List.map_nil, iOf, bOf, sOf, pOf, slLen, slBase, cmpI, arI, Value.ite_bool, int_beq, int_bne, ite_band, ite_bor]
        rw [w64 (by omega) (by omega)]
        exact this) ?_
      rintro e H5 (⟨S5, k5, d, cs, rfl, q2, q3, q4, q5, q6, q7, q8, q9⟩ | ⟨a, x, rfl, q2, _, q3⟩)
      rotate_left
      · exact .inr ⟨a, x, rfl, q2, fun out => by rw [hstep, next_push (.inr (.inr h3)), h3, Option.toList_none, List.append_nil]; exact q3 out⟩
      obtain ⟨dv, rfl, y1, y2, y3, y4⟩ := Dat.Rep_iff.1 q4
      obtain ⟨db, dc, rfl⟩ := y4.sl
      refine ⟨[.int .i64 d.kind, .int .i64 d.int, txt d.text, .slice db d.list.length dc], rfl, rfl, pendNil, ?_⟩
      refine den_rowLit (l := [.mk 4 0 [113, 117, 111, 116, 101] [], d]) (b := 56) [.agg #[.int .i64 4, .int .i64 0, txt [113, 117, 111, 116, 101], .slice none 0 0], .agg #[.int .i64 d.kind, .int .i64 d.int, txt d.text, .slice db d.list.length dc]] uDats elemDat rfl (by decide) (by decide) q3.le rfl (.cons (sym_rep _) (.cons q4 .nil)) pendNil fun v6 S6 H6 x6 h6 _ => ?_
      have hx6 := q3.ext x6
      refine .inl ⟨S6, k5, quoteD d, [.int .i64 5, .int .i64 0, txt [], v6], rfl, PH.le_trans q2 x6.s, hx6, ?_, q5, by simp only [List.length_cons] at q6; omega, ?_, fun out => ?_⟩
      · exact Dat.Rep_iff.2 ⟨v6, rfl, (show InI 5 from by decide), (show InI 0 from by decide), Nat.zero_le _, h6⟩
      · have : (quoteD d).cnt = d.cnt + 2 := by simp [quoteD, Dat.cnt, Dats.cnt]; omega
        simp only [Nat.sub_self] at q7 ⊢; omega
      · rw [hstep, next_push (.inr (.inr h3)), h3, Option.toList_none, List.append_nil, q8, ended_quote]
    simp only [ev0, ev, evV, List.cons_append, List.nil_append, List.getD_cons_zero, List.getD_cons_succ, List.map_cons, List.map_nil, iOf, bOf, sOf, pOf, slLen, slBase, cmpI, arI, Value.ite_bool, int_beq, int_bne, ite_band, ite_bor, decide_eq_false_iff_not] at h3
    refine ⟨fun h2 => ?_, fun h2 => ?_⟩
    · have h2' : t.kind = 2 ∨ t.kind = 0 := by
        simp only [ev0, ev, evV, List.cons_append, List.nil_append, List.getD_cons_zero, List.getD_cons_succ, List.map_cons, List.map_nil, iOf, bOf, sOf, pOf, slLen, slBase, cmpI, arI, Value.ite_bool, int_beq, int_bne, ite_band, ite_bor] at h2
        by_cases h : t.kind = 2
        · exact .inl h
        · right; simpa [h] using h2
      have hlt : rs.length < 32 := by
        rw [may_else ha.full ht1 ht4] at hmay
        rcases Nat.lt_or_ge rs.length 32 with h | h
        · exact h
        · rw [if_pos ⟨by omega, h⟩] at hmay; cases hmay
      have hcall := items_step hm (hI (ts.drop (k + 1)).length (by omega)) S (k + 1) rs t.kind hp hs (by omega) (Nat.le_refl _) hlt h2'.symm
      refine den_callP (R := fun e H' => _) cb_read_reader__items (by
        have := RDone.within hx2 hcall
        simp only [ev0, ev, evV, List.cons_append, List.nil_append, List.getD_cons_zero, List.getD_cons_succ, List.map_cons, List.map_nil, iOf, bOf, sOf, pOf, slLen, slBase, cmpI, arI, Value.ite_bool, int_beq, int_bne, ite_band, ite_bor]
        rw [w64 (by omega) (by omega)]
        exact this) ?_
      have hpush := next_push (t := t) (rs := rs) (by omega)
      rintro e H5 (⟨S5, k5, d, cs, rfl, q2, q3, q4, q5, q6, q7, q8, q9⟩ | ⟨a, x, rfl, q2, _, q3⟩)
      rotate_left
      · exact .inr ⟨a, x, rfl, q2, fun out => by rw [hstep, hpush, Option.toList_none, List.append_nil]; exact q3 out⟩
      obtain ⟨dv, rfl, y1, y2, y3, y4⟩ := Dat.Rep_iff.1 q4
      obtain ⟨db, dc, rfl⟩ := y4.sl
      refine ⟨[.int .i64 d.kind, .int .i64 d.int, txt d.text, .slice db d.list.length dc], rfl, rfl, pendNil, ?_⟩
      refine .inl ⟨S5, k5, d, _, rfl, q2, q3, q4, q5, by simp only [List.length_cons] at q6; omega, by simp only [List.length_cons] at q7; omega, fun out => ?_⟩
      rw [hstep, hpush, Option.toList_none, List.append_nil, q8]
    have h2' : t.kind ≠ 2 ∧ t.kind ≠ 0 := by
      simp only [ev0, ev, evV, List.cons_append, List.nil_append, List.getD_cons_zero, List.getD_cons_succ, List.map_cons, List.map_nil, iOf, bOf, sOf, pOf, slLen, slBase, cmpI, arI, Value.ite_bool, int_beq, int_bne, ite_band, ite_bor] at h2
      by_cases h : t.kind = 2
      · simp [h] at h2
      · exact ⟨h, by simpa [h] using h2⟩
    have done : ∀ kk : Int, kindD t.kind = kk → RDone S p (.slice lb ts.length lc) en ts rs rs (ts.drop k) (.returned (.agg #[.int .i64 kk, .int .i64 t.int, txt t.text, .slice none 0 0])) H2 := by
      intro kk hkk
      subst hkk
      have hc1 : (oneD t).cnt = 1 := by simp [oneD, Dat.cnt, Dats.cnt]
      refine .inl ⟨S, k + 1, oneD t, _, rfl, PH.le_refl _, hx2, Dat.plain_rep' ?_ hti htx, by omega, by omega, by omega, fun out => ?_⟩
      · have : ∀ k : Nat, k < 10 → InI (kindD k) := by decide
        obtain ⟨k', hk'⟩ : ∃ k' : Nat, t.kind = k' := ⟨t.kind.toNat, by omega⟩
        rw [hk']; exact this k' (by omega)
      · rw [hstep, next_one h2'.2 ht1 h2'.1 h3 ht4]
    have kd5 : ∀ j : Int, t.kind = j → kindD t.kind = kindD j := fun j h => by rw [h]
    refine ⟨fun h6 => ⟨_, lookup_hit, _, _, _, _, rfl, done 1 ?_⟩, fun h6 => ⟨fun h7 => ⟨_, lookup_hit, _, _, _, _, rfl, done 2 ?_⟩, fun h7 => ⟨fun h8 => ⟨_, lookup_hit, _, _, _, _, rfl, done 3 ?_⟩, fun h8 => ⟨_, lookup_hit, .int .i64 (if t.kind = 9 then 4 else 0), _, _, _, ?_, done _ ?_⟩⟩⟩⟩
    · simp only [ev0, ev, evV, List.cons_append, List.nil_append, List.getD_cons_zero, List.getD_cons_succ, List.map_cons, List.map_nil, iOf, bOf, sOf, pOf, slLen, slBase, cmpI, arI, Value.ite_bool, int_beq, int_bne, ite_band, ite_bor, decide_eq_true_eq] at h6
      rw [kd5 6 h6]; rfl
    · simp only [ev0, ev, evV, List.cons_append, List.nil_append, List.getD_cons_zero, List.getD_cons_succ, List.map_cons, List.map_nil, iOf, bOf, sOf, pOf, slLen, slBase, cmpI, arI, Value.ite_bool, int_beq, int_bne, ite_band, ite_bor, decide_eq_true_eq] at h7
      rw [kd5 7 h7]; rfl
    · simp only [ev0, ev, evV, List.cons_append, List.nil_append, List.getD_cons_zero, List.getD_cons_succ, List.map_cons, List.map_nil, iOf, bOf, sOf, pOf, slLen, slBase, cmpI, arI, Value.ite_bool, int_beq, int_bne, ite_band, ite_bor, decide_eq_true_eq] at h8
      rw [kd5 8 h8]; rfl
    · simp only [ev0, ev, evV, List.cons_append, List.nil_append, List.getD_cons_zero, List.getD_cons_succ, List.map_cons, List.map_nil, iOf, bOf, sOf, pOf, slLen, slBase, cmpI, arI, Value.ite_bool, int_beq, int_bne, ite_band, ite_bor]
      by_cases h9 : t.kind = 9 <;> simp [h9] <;> rfl
    · simp only [ev0, ev, evV, List.cons_append, List.nil_append, List.getD_cons_zero, List.getD_cons_succ, List.map_cons, List.map_nil, iOf, bOf, sOf, pOf, slLen, slBase, cmpI, arI, Value.ite_bool, int_beq, int_bne, ite_band, ite_bor, decide_eq_false_iff_not] at h6 h7 h8
      by_cases h9 : t.kind = 9
      · rw [kd5 9 h9, if_pos h9]; rfl
      · rw [kd5 5 (by omega), if_neg h9]; rfl
  · refine ⟨fun h1 => ?_, fun h1 => ?_⟩
    · have h1' : kindAt (ts.drop k) = -1 ∨ kindAt (ts.drop k) = 1 := by
        simp only [ev0, ev, evV, List.cons_append, List.nil_append, List.getD_cons_zero, List.getD_cons_succ, List.map_cons, List.map_nil, iOf, bOf, sOf, pOf, slLen, slBase, cmpI, arI, Value.ite_bool, int_beq, int_bne, ite_band, ite_bor] at h1
        by_cases h : kindAt (ts.drop k) = -1
        · exact .inl h
        · right; simpa [h] using h1
      refine den_callP cb_read_reader__fail (fail_tri ts 40 hx1 hs hk hm) ?_
      rintro e H7 ⟨rfl, rfl⟩
      refine .inr ⟨_, _, rfl, hx1.le, failed 40 (fun t T' hT => ?_) (by decide)⟩
      obtain ⟨z0, z9⟩ := hk0 t T' hT
      have ht : t.kind = 1 := by
        rw [hT] at h1'
        rcases h1' with h | h
        · have h' : t.kind = -1 := h; omega
        · exact h
      rw [ht]; exact ha.close t T' hT ht
    have h1' : kindAt (ts.drop k) ≠ -1 ∧ kindAt (ts.drop k) ≠ 1 := by
      simp only [ev0, ev, evV, List.cons_append, List.nil_append, List.getD_cons_zero, List.getD_cons_succ, List.map_cons, List.map_nil, iOf, bOf, sOf, pOf, slLen, slBase, cmpI, arI, Value.ite_bool, int_beq, int_bne, ite_band, ite_bor] at h1
      by_cases h : kindAt (ts.drop k) = -1
      · simp [h] at h1
      · exact ⟨h, by simpa [h] using h1⟩
    obtain ⟨t, T', hT, _⟩ := kind_cons (T := ts.drop k) rfl h1'.1
    have hka : kindAt (ts.drop k) = t.kind := by rw [hT]; rfl
    have honly : ∀ (q : Int → Prop), q t.kind → ∀ t' T'', ts.drop k = t' :: T'' → q t'.kind := fun q hq t' T'' h => by
      rw [hT] at h; cases h; exact hq
    refine ⟨fun h4 => ?_, fun h4 => ?_⟩
    · simp only [ev0, ev, evV, List.cons_append, List.nil_append, List.getD_cons_zero, List.getD_cons_succ, List.map_cons, List.map_nil, iOf, bOf, sOf, pOf, slLen, slBase, cmpI, arI, Value.ite_bool, int_beq, int_bne, ite_band, ite_bor, decide_eq_true_eq] at h4
      refine den_callP cb_read_reader__fail (fail_tri ts 42 hx1 hs hk hm) ?_
      rintro e H7 ⟨rfl, rfl⟩
      refine .inr ⟨_, _, rfl, hx1.le, failed 42 (honly (fun z => mayI rs z = 42) ?_) (by decide)⟩
      rw [← hka, h4]; exact ha.dot t T' hT (by rw [← hka]; exact h4)
    simp only [ev0, ev, evV, List.cons_append, List.nil_append, List.getD_cons_zero, List.getD_cons_succ, List.map_cons, List.map_nil, iOf, bOf, sOf, pOf, slLen, slBase, cmpI, arI, Value.ite_bool, int_beq, int_bne, ite_band, ite_bor, decide_eq_false_iff_not] at h4
    rw [hka] at h4 h1'
    have hme := may_else ha.full h1'.2 h4
    refine ⟨fun zs H' => zs = [.bool (decide (t.kind = 0 ∨ t.kind = 2 ∨ t.kind = 3))] ∧ H' = H1, ?_, ?_⟩
    · rintro zs H' _ ⟨rfl, hH⟩
      rw [hH]
      refine ⟨fun h5 => ⟨fun h6 => ?_, fun h6 => ?_⟩, fun h5 => ⟨_, rfl, rfl, rfl, t, T', hT, h1'.2, h4, ?_⟩⟩
      · simp only [ev0, ev, evV, List.cons_append, List.nil_append, List.getD_cons_zero, List.getD_cons_succ, List.map_cons, List.map_nil, iOf, bOf, sOf, pOf, slLen, slBase, cmpI, arI, Value.ite_bool, int_beq, int_bne, ite_band, ite_bor, decide_eq_true_eq] at h5 h6
        refine den_callP cb_read_reader__fail (fail_tri ts 43 hx1 hs hk hm) ?_
        rintro e H7 ⟨rfl, rfl⟩
        refine .inr ⟨_, _, rfl, hx1.le, failed 43 (honly (fun z => mayI rs z = 43) ?_) (by decide)⟩
        rw [hme, if_pos ⟨h5, by omega⟩]
      · simp only [ev0, ev, evV, List.cons_append, List.nil_append, List.getD_cons_zero, List.getD_cons_succ, List.map_cons, List.map_nil, iOf, bOf, sOf, pOf, slLen, slBase, cmpI, arI, Value.ite_bool, int_beq, int_bne, ite_band, ite_bor, decide_eq_true_eq, decide_eq_false_iff_not] at h5 h6
        refine ⟨_, rfl, rfl, rfl, t, T', hT, h1'.2, h4, ?_⟩
        have := ha.deep
        rw [hme, if_neg (by omega)]
      · simp only [ev0, ev, evV, List.cons_append, List.nil_append, List.getD_cons_zero, List.getD_cons_succ, List.map_cons, List.map_nil, iOf, bOf, sOf, pOf, slLen, slBase, cmpI, arI, Value.ite_bool, int_beq, int_bne, ite_band, ite_bor, decide_eq_false_iff_not] at h5
        rw [hme, if_neg (fun h => h5 h.1)]
    · rw [hka]
      refine ⟨fun h5 => ⟨_, lookup_hit, ?_, rfl⟩, fun h5 => ⟨_, lookup_hit, ?_, rfl⟩⟩
      · simp only [ev0, ev, evV, List.cons_append, List.nil_append, List.getD_cons_zero, List.getD_cons_succ, List.map_cons, List.map_nil, iOf, bOf, sOf, pOf, slLen, slBase, cmpI, arI, Value.ite_bool, int_beq, int_bne, ite_band, ite_bor] at h5 ⊢
        have : t.kind = 3 := by simpa using h5
        simp [this]
      · simp only [ev0, ev, evV, List.cons_append, List.nil_append, List.getD_cons_zero, List.getD_cons_succ, List.map_cons, List.map_nil, iOf, bOf, sOf, pOf, slLen, slBase, cmpI, arI, Value.ite_bool, int_beq, int_bne, ite_band, ite_bor] at h5 ⊢
        have : t.kind ≠ 3 := by simpa using h5
        by_cases h2 : t.kind = 2 <;> by_cases h3 : t.kind = 0 <;> simp [this, h2, h3]
/-- THE READER's DATUM: it reads as the document's stack does. -/
theorem datum_tri {p : Nat} {lv : Value} {en : Nat} {ts : List Tk} (hm : ts.length ≤ 4096) (hkd : ∀ t ∈ ts, 0 ≤ t.kind ∧ t.kind ≤ 9) (n : Nat) : DatC p lv en ts n := by
  induction n using Nat.strongRecOn with
  | ind n ih => exact datum_step hm hkd ih
end Go.Proofs.YtlnmmakbgldflaaGreatDoor.Vc

