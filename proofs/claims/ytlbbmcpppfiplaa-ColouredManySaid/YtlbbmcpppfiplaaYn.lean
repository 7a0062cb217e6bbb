/-
  Texts on the way to the statement, one behind the other, without what it does not reach.
-/
import Derived.Test.YtlbbmcpppfiplaaYm
import Derived.Lib.ItoaNum
import Derived.Lib.LaidTab
set_option linter.unusedSimpArgs false
set_option linter.unusedVariables false
set_option maxRecDepth 100000
/-
  DATA: a number's text.
-/
namespace Go.Proofs.Ytlbbmcpppfiplaa.Vc
open Go

theorem nDigits_le : ∀ (k u : Nat), u < 10 ^ (k + 1) → Lib.nDigits u ≤ k + 1
  | 0, u, h => by rw [Lib.nDigits_small (by simpa using h)]; omega
  | k + 1, u, h => by
    by_cases h1 : u < 10
    · rw [Lib.nDigits_small h1]; omega
    · rw [Lib.nDigits_big h1]
      have := nDigits_le k (u / 10) (by rw [Nat.pow_succ] at h; omega)
      omega
theorem digits_len (n : Nat) (h : n ≤ 9223372036854775808) : (Lib.decDigits n).length ≤ 20 := by
  rw [Lib.decDigits_length]
  exact nDigits_le 19 n (by omega)

end Go.Proofs.Ytlbbmcpppfiplaa.Vc
/-
  DATA: the text of a datum, by definition.
-/
namespace Go.Proofs.Ytlbbmcpppfiplaa.Vc
open Go

def byteOf (n : Int) : UInt8 := UInt8.ofNat (n % 256).toNat
mutual
/-- a datum's text; bare: its show -/
def Dat.txtL (bare : Bool) : Dat → List UInt8
  | .mk k n t l => if k = 0 then (if n = 0 then [35, 102] else [35, 116]) else if k = 1 then Lib.itoa n else if k = 2 then (if bare then [byteOf n] else charL (byteOf n)) else if k = 3 then (if bare then t else quotedL t) else if k = 4 then t
      else (if k = 7 then [35, 40] else [40]) ++ Dats.txtL bare (decide (k = 6)) true l ++ [41]
def Dats.txtL (bare dotted : Bool) : Bool → List Dat → List UInt8
  | _, [] => []
  | first, d :: l => (if first then [] else [32]) ++ (if dotted && l.isEmpty then [46, 32] else []) ++ Dat.txtL bare d ++ Dats.txtL bare dotted false l
end
theorem charL_len (c : UInt8) : (charL c).length ≤ 9 := by
  unfold charL; split
  · simp
  split
  · simp
  split
  · simp
  · simp [twoL]
theorem itoa_len (n : Int) (h : InI n) : (Lib.itoa n).length ≤ 21 := by
  obtain ⟨a, b⟩ := h
  unfold Lib.itoa; split
  · have := digits_len n.natAbs (by omega); simp only [List.length_cons]; omega
  · have := digits_len n.toNat (by omega); omega
theorem quotedL_len (l : List UInt8) : (quotedL l).length ≤ 4 * l.length + 2 := by
  have := quotes_len l
  simp only [quotedL, List.length_append, List.length_cons, List.length_nil]; omega
mutual
theorem Dat.chk_len (bare : Bool) : ∀ (d : Dat) (deep seen : Nat), seen ≤ 4096 → (d.chk deep seen).2 = 0 → seen < (d.chk deep seen).1 ∧ (d.txtL bare).length + 3 ≤ 16500 * ((d.chk deep seen).1 - seen)
  | .mk k n t l, deep, seen, hs, h => by
    simp only [Dat.chk] at h ⊢
    split at h
    · simp at h
    rename_i h0
    rw [if_neg h0]
    split at h
    · simp at h
    rename_i h1
    rw [if_neg h1]
    split at h
    · simp at h
    rename_i h2
    rw [if_neg h2]
    have hf : formOk (.mk k n t l) = true := by simpa using h2
    have ih := Dats.chk_len bare (decide (k = 6)) true l (deep + 1) (seen + 1) (by omega) h
    refine ⟨by omega, ?_⟩
    have hch := charL_len (byteOf n)
    have hqu := quotedL_len t
    have hit : k = 1 → (Lib.itoa n).length ≤ 21 := fun hk => itoa_len n (by
      subst hk
      simp only [formOk, Dat.kind, Dat.int, Dat.text, Dat.list] at hf
      simp at hf
      obtain ⟨⟨_, h5⟩, h6⟩ := hf
      have h5 := of_decide_eq_true h5
      have h6 := of_decide_eq_true h6
      exact ⟨by omega, by omega⟩)
    have ht3 : k = 3 → t.length ≤ 4096 := fun hk => by
      subst hk
      simp only [formOk, Dat.kind, Dat.int, Dat.text, Dat.list] at hf
      simp at hf; exact of_decide_eq_true hf.2
    have ht4 : k = 4 → t.length ≤ 64 := fun hk => by
      subst hk
      simp only [formOk, Dat.kind, Dat.int, Dat.text, Dat.list, nameOk] at hf
      simp at hf; exact of_decide_eq_true hf.2.1.1.2
    simp only [Dat.txtL]
    split
    · split <;> simp <;> omega
    split
    · rename_i hk; have := hit hk; omega
    split
    · split
      · simp; omega
      · omega
    split
    · rename_i hk; have := ht3 hk
      split <;> omega
    split
    · rename_i hk; have := ht4 hk; omega
    · simp only [List.length_append, List.length_cons, List.length_nil]
      split <;> simp only [List.length_cons, List.length_nil] <;> omega
theorem Dats.chk_len (bare dotted : Bool) : ∀ (first : Bool) (l : List Dat) (deep seen : Nat), seen ≤ 4096 → (Dats.chk l deep seen).2 = 0 → seen ≤ (Dats.chk l deep seen).1 ∧ (Dats.txtL bare dotted first l).length ≤ 16500 * ((Dats.chk l deep seen).1 - seen)
  | _, [], _, _, _, _ => by simp [Dats.chk, Dats.txtL]
  | first, d :: l, deep, seen, hs, h => by
    simp only [Dats.chk] at h ⊢
    split at h
    · rename_i hx; exact absurd h hx
    rename_i hx
    rw [if_neg hx]
    have i1 := Dat.chk_len bare d deep seen hs (by simpa using hx)
    have hle := Dat.chk_le d deep seen hs
    have i2 := Dats.chk_len bare dotted false l deep (d.chk deep seen).1 hle h
    refine ⟨by omega, ?_⟩
    simp only [Dats.txtL, List.length_append]
    have e1 : (if first = true then [] else [32] : List UInt8).length ≤ 1 := by split <;> simp
    have e2 : (if (dotted && l.isEmpty) = true then [46, 32] else [] : List UInt8).length ≤ 2 := by split <;> simp
    omega
end
end Go.Proofs.Ytlbbmcpppfiplaa.Vc
/-
  A NUMBER's TEXT BEHIND BYTES: strconv.AppendInt, over a part of the heap; by the shelf's contracts of the parts.
-/
namespace Go.Proofs.Ytlbbmcpppfiplaa.Vc
open Go

/-- the table of powers lies in H -/
def Tab (H : PH) : Prop := ∃ g e f, Try.prog.globalNamed "internal/strconv.uint64pow10" = some g ∧ H g = some (.cells (Lib.pow10Tab.map fun z => Value.int .u64 z).toArray e f)
theorem Tab.le {H H' : PH} (h : Tab H) (hl : PH.le H H') : Tab H' := by
  obtain ⟨g, e, f, h1, h2⟩ := h; exact ⟨g, e, f, h1, hl _ _ h2⟩
theorem Tab.is {H : PH} {w : World} (h : Tab H) (hv : Vis H w) : Lib.TabIs Try.prog w "internal/strconv.uint64pow10" .u64 Lib.pow10Tab := by
  obtain ⟨g, e, f, h1, h2⟩ := h
  unfold Lib.TabIs World.var?
  rw [h1]
  simp only [Option.bind_some, hv _ _ h2]

end Go.Proofs.Ytlbbmcpppfiplaa.Vc
/-
  DATA: the writer: a character, a string.
-/
namespace Go.Proofs.Ytlbbmcpppfiplaa.Vc
open Go

/-- a row of bytes hangs on no other memory -/
theorem bytes_any {H H' : PH} : ∀ {l : List UInt8} {xs : List Value}, PV.RepRow H (l.flatMap pv) xs → PV.RepRow H' (l.flatMap pv) xs
  | [], xs, h => by simp only [List.flatMap_nil, PV.RepRow] at h ⊢; exact h
  | c :: l, xs, h => by
    rw [List.flatMap_cons] at h ⊢
    have h' : PV.RepRow H (.int .u8 (c.toNat : Int) :: l.flatMap pv) xs := h
    show PV.RepRow H' (.int .u8 (c.toNat : Int) :: l.flatMap pv) xs
    simp only [PV.RepRow, PV.Rep] at h' ⊢
    obtain ⟨v, vs, rfl, h1, h2⟩ := h'
    exact ⟨v, vs, rfl, h1, bytes_any h2⟩
/-- THE WRITER's STATE: at w lies its row of bytes, and whether it writes bare; what is in H0 stands. -/
structure WSv (H0 H : PH) (w : Nat) (T : TypeId) (out : List UInt8) (bare : Bool) (bv : Value) : Prop where
  at_ : H w = some (.cells #[bv, .bool bare] T (0, 0))
  acc : Acc H0 H 5 out bv
  own : ob bv ≠ some w
  base : H0 w = none
def WS (H0 H : PH) (w : Nat) (T : TypeId) (out : List UInt8) (bare : Bool) : Prop := ∃ bv, WSv H0 H w T out bare bv

section
variable {H0 H : PH} {w : Nat} {T : TypeId} {out : List UInt8} {bare : Bool} {bv : Value}
theorem WSv.row (h : WSv H0 H w T out bare bv) : rowAt H ((some ⟨w, 0, none⟩ : Option Addr).map (·.add 0)) [bv] := ⟨_, rfl, fun i v hi => by
  show H.cell? ((Addr.add ⟨w, 0, none⟩ 0).add i) = _
  rw [Addr.add_plain, Addr.add_plain, PH.cell_at h.at_]
  cases i with
  | zero => simpa using hi
  | succ i => simp at hi⟩
theorem WSv.tag (h : WSv H0 H w T out bare bv) : tagsOk [.sl] [bv] = true := by
  obtain ⟨b, c, rfl⟩ := h.acc.sl; rfl
theorem WSv.mono {H' : PH} (h : WSv H0 H w T out bare bv) (hl : PH.le H H') : WSv H0 H' w T out bare bv := ⟨hl _ _ h.at_, h.acc.mono hl, h.own, h.base⟩
theorem WSv.store {H' : PH} {v' : Value} {out' : List UInt8} (h : WSv H0 H w T out bare bv) (ha : Acc H0 H' 5 out' v') (hw : Went H H' bv v') : WS H0 (H'.upd w (.cells #[v', .bool bare] T (0, 0))) w T out' bare := by
  have hne : ob v' ≠ some w := fun e => (hw.fresh w e).elim h.own fun hn => by rw [h.at_] at hn; cases hn
  refine ⟨v', PH.upd_same, ⟨?_, ?_⟩, hne, h.base⟩
  · intro k o hk
    have hkw : k ≠ w := fun e => by rw [e, h.base] at hk; cases hk
    have := ha.le k o hk
    unfold delV at this ⊢
    cases hv' : ob v' with
    | none => rw [hv'] at this; show (H'.upd w _) k = _; rw [PH.upd_other hkw]; exact this
    | some g =>
      rw [hv'] at this
      show ((H'.upd w _).del g) k = _
      have this' : (H'.del g) k = some o := this
      unfold PH.del at this' ⊢
      split at this'
      · cases this'
      · rename_i e; rw [if_neg e, PH.upd_other hkw]; exact this'
  · obtain ⟨xs, h1, h2⟩ := ha.own
    exact ⟨xs, h1.le fun k hk => PH.upd_other fun e => hne (by rw [hk, e]), bytes_any h2⟩
variable {X : List PanicEntry → PH → Prop} {β : Type} {E : List Value} {L : LK} {K : β → List Value → PH → LK → Prop}
end

end Go.Proofs.Ytlbbmcpppfiplaa.Vc
/-
  DATA: the writer: a datum; Text and Show.
-/
namespace Go.Proofs.Ytlbbmcpppfiplaa.Vc
open Go

/-- a datum that is within one that may be -/
def Dat.Good (d : Dat) : Prop := ∃ deep seen, seen ≤ 4096 ∧ (d.chk deep seen).2 = 0
theorem Dats.good : ∀ (l : List Dat) (deep seen : Nat), seen ≤ 4096 → (Dats.chk l deep seen).2 = 0 → ∀ e ∈ l, e.Good
  | [], _, _, _, _, e, he => by cases he
  | d :: l, deep, seen, hs, h, e, he => by
    simp only [Dats.chk] at h
    split at h
    · rename_i hx; exact absurd h hx
    rename_i hx
    have hx : (d.chk deep seen).2 = 0 := by simpa using hx
    rcases List.mem_cons.1 he with rfl | he
    · exact ⟨deep, seen, hs, hx⟩
    · exact Dats.good l deep _ (Dat.chk_le d deep seen hs) h e he
theorem Dat.Good.len {d : Dat} (h : d.Good) (bare : Bool) : (d.txtL bare).length ≤ 67600000 := by
  obtain ⟨deep, seen, hs, h⟩ := h
  have h1 := Dat.chk_len bare d deep seen hs h
  have h2 := Dat.chk_le d deep seen hs
  omega
theorem WS.le {H0 H : PH} {w : Nat} {T : TypeId} {out : List UInt8} {bare : Bool} (h : WS H0 H w T out bare) : PH.le H0 H := by
  obtain ⟨bv, h⟩ := h; exact h.acc.all

end Go.Proofs.Ytlbbmcpppfiplaa.Vc
/-
  DATA that may be have the same text just if they are the same: a plain law. No program in sight.
-/
namespace Go.Proofs.Ytlbbmcpppfiplaa.Vc
open Go

/-! ### numbers -/
/-! ### what stands behind a text -/
/-! ### characters and strings -/
/-- u begins v -/
def pre : List UInt8 → List UInt8 → Bool
  | [], _ => true
  | _ :: _, [] => false
  | a :: l, b :: m => a == b && pre l m
/-! ### the kind of a text, by its first bytes -/
end Go.Proofs.Ytlbbmcpppfiplaa.Vc
/-
  DATA: the fixed calls; the law of the checks.
-/
namespace Go.Proofs.Ytlbbmcpppfiplaa.Vc
open Go

instance decInI (n : Int) : Decidable (InI n) := inferInstanceAs (Decidable (_ ∧ _))
end Go.Proofs.Ytlbbmcpppfiplaa.Vc
/-
  DATA that come in.
-/
namespace Go.Proofs.Ytlbbmcpppfiplaa.Vc
open Go Go.ChangeShapes Go.WideShapes Go.ChangeAt Go.RowKit

mutual
def Dat.wt : Dat → Nat
  | .mk _ _ t l => t.length + 5 + Dats.wt l
def Dats.wt : List Dat → Nat
  | [] => 0
  | d :: l => Dat.wt d + Dats.wt l
end
/-! ### what all statements of this seat ask -/
theorem laidOutTry : laidOutB Try.prog = true := by kernel_rfl
theorem mapsRowedTry : mapsRowed Try.prog = true := by kernel_rfl
theorem kidsTry : Kids Try.prog (· < Try.prog.types.size) := kids_rows laidOutTry mapsRowedTry
theorem fullTry : ∀ t e, t < Try.prog.types.size → Try.prog.underlying t = some (.slice e) → 0 < Try.prog.cellsOf e := slices_full_of Try.prog (by kernel_rfl)
end Go.Proofs.Ytlbbmcpppfiplaa.Vc
/-
  DATA: the laws of the texts and of their parts, at the level of calls.
-/
namespace Go.Proofs.Ytlbbmcpppfiplaa.Vc
open Go

def Dat.Mono (d : Dat) : Prop := ∀ (deep seen deep' seen' : Nat), deep ≤ 32 → deep' ≤ deep → seen' ≤ seen → seen ≤ 4096 → (d.chk deep seen).2 = 0 → (d.chk deep' seen').2 = 0 ∧ (d.chk deep' seen').1 + seen = (d.chk deep seen).1 + seen'
theorem Dats.mono : ∀ (l : List Dat), (∀ e ∈ l, e.Mono) → ∀ (deep seen deep' seen' : Nat), deep ≤ 32 → deep' ≤ deep → seen' ≤ seen → seen ≤ 4096 → (Dats.chk l deep seen).2 = 0 → (Dats.chk l deep' seen').2 = 0 ∧ (Dats.chk l deep' seen').1 + seen = (Dats.chk l deep seen).1 + seen'
  | [], _, deep, seen, deep', seen', _, _, _, _, _ => by simp only [Dats.chk]; exact ⟨trivial, by omega⟩
  | d :: l, hl, deep, seen, deep', seen', h1, h2, h3, h4, h => by
    simp only [Dats.chk] at h ⊢
    split at h
    · rename_i hx; exact absurd h hx
    rename_i hx
    have hx : (d.chk deep seen).2 = 0 := by simpa using hx
    obtain ⟨g1, g2⟩ := hl d (List.mem_cons_self ..) deep seen deep' seen' h1 h2 h3 h4 hx
    have g3 := Dats.mono l (fun e he => hl e (List.mem_cons_of_mem _ he)) deep (d.chk deep seen).1 deep' (d.chk deep' seen').1 h1 h2 (by omega) (Dat.chk_le d deep seen h4) h
    rw [if_neg (by simp [g1]), if_neg (by simp [hx])]
    exact ⟨g3.1, by omega⟩
/-- what may be within more may be within less; and counts as many -/
theorem Dat.mono : ∀ d : Dat, d.Mono := by
  refine Dat.ind ?_
  intro d ih deep seen deep' seen' h1 h2 h3 h4 h
  rw [Dat.chk_eq] at h
  rw [Dat.chk_eq d deep' seen', Dat.chk_eq d deep seen]
  split at h
  · simp at h
  rename_i h0
  split at h
  · simp at h
  rename_i h5
  split at h
  · simp at h
  rename_i h6
  have hn : nested d.kind = true → deep < 32 := fun x => by
    rcases Nat.lt_or_ge deep 32 with y | y
    · exact y
    · exact absurd ⟨x, by omega⟩ h5
  rw [if_neg h0, if_neg h5, if_neg h6, if_neg (show ¬ seen' = 4096 by omega), if_neg (fun x => by have := hn x.1; omega), if_neg h6]
  by_cases hl : d.list = []
  · rw [hl]; simp only [Dats.chk]; exact ⟨trivial, by omega⟩
  · have hn' := hn (formOk_nested (by simpa using h6) hl)
    have g := Dats.mono d.list ih (deep + 1) (seen + 1) (deep' + 1) (seen' + 1) (by omega) (by omega) (by omega) (by omega) h
    exact ⟨g.1, by omega⟩
end Go.Proofs.Ytlbbmcpppfiplaa.Vc
/-
  DATA: when two are the same; Huge.
-/
namespace Go.Proofs.Ytlbbmcpppfiplaa.Vc
open Go

noncomputable instance decDat : DecidableEq Dat := fun a b => Classical.propDecidable (a = b)
noncomputable instance decDats : DecidableEq (List Dat) := fun a b => Classical.propDecidable (a = b)
end Go.Proofs.Ytlbbmcpppfiplaa.Vc
/-
  DATA that may be have the same text just if they are the same: the theorem; and the law, at the level of calls.
-/
namespace Go.Proofs.Ytlbbmcpppfiplaa.Vc
open Go

end Go.Proofs.Ytlbbmcpppfiplaa.Vc
/-
  DATA: what is made of items and a tail; a datum's items.
-/
namespace Go.Proofs.Ytlbbmcpppfiplaa.Vc
open Go

end Go.Proofs.Ytlbbmcpppfiplaa.Vc
/-
  LIVE: instructions, ends, blocks, functions in the heap; what comes in.
-/
namespace Go.Proofs.Ytlbbmcpppfiplaa.Vc
open Go Go.ChangeShapes Go.WideShapes Go.ChangeAt Go.RowKit

structure InsX where
  op : List UInt8
  to : Int
  args : List Int
  const : Dat
  num : Int
structure EndX where
  kind : Int
  reg : Int
  args : List Int
  to : Int
  next : Int
  els : Int
structure BlkX where
  ins : List InsX
  e : EndX
structure PrcX where
  params : Int
  holds : Int
  regs : Int
  blocks : List BlkX
def InsX.pv (x : InsX) : List PV := [.str x.op, .int .i64 x.to, slp x.args, .int .i64 x.const.kind, .int .i64 x.const.int, .str x.const.text, slp x.const.list, .int .i64 x.num]
def EndX.pv (e : EndX) : List PV := [.int .i64 e.kind, .int .i64 e.reg, slp e.args, .int .i64 e.to, .int .i64 e.next, .int .i64 e.els]
instance encIns : Enc InsX := ⟨InsX.pv, 8, fun _ => rfl⟩
instance encEnd : Enc EndX := ⟨EndX.pv, 6, fun _ => rfl⟩
instance encBlk : Enc BlkX := ⟨fun b => slp b.ins :: b.e.pv, 7, fun _ => rfl⟩
instance encPrc : Enc PrcX := ⟨fun p => [.int .i64 p.params, .int .i64 p.holds, .int .i64 p.regs, slp p.blocks], 4, fun _ => rfl⟩

theorem repI_iff {H : PH} {n : Int} {v : Value} : PV.Rep H (.int .i64 n) v ↔ v = .int .i64 n ∧ InI n := by
  simp only [PV.Rep]; exact ⟨fun h => ⟨h.1, inI64.1 h.2⟩, fun h => ⟨h.1, inI64.2 h.2⟩⟩
theorem repS_iff {H : PH} {s : List UInt8} {v : Value} : PV.Rep H (.str s) v ↔ v = txt s ∧ s.length ≤ maxLen := by
  simp only [PV.Rep]
theorem ins_iff {H : PH} {x : InsX} {cs : List Value} : CsR H x cs ↔ ∃ av dv, cs = [txt x.op, .int .i64 x.to, av, .int .i64 x.const.kind, .int .i64 x.const.int, txt x.const.text, dv, .int .i64 x.num] ∧
    x.op.length ≤ maxLen ∧ InI x.to ∧ SlR H x.args av ∧ InI x.const.kind ∧ InI x.const.int ∧ x.const.text.length ≤ maxLen ∧ SlR H x.const.list dv ∧ InI x.num := by
  show PV.RepRow H (InsX.pv x) cs ↔ _
  simp only [InsX.pv, PV.RepRow, repI_iff, repS_iff]
  constructor
  · rintro ⟨v1, _, rfl, ⟨rfl, h1⟩, v2, _, rfl, ⟨rfl, h2⟩, v3, _, rfl, h3, v4, _, rfl, ⟨rfl, h4⟩, v5, _, rfl, ⟨rfl, h5⟩, v6, _, rfl, ⟨rfl, h6⟩, v7, _, rfl, h7, v8, _, rfl, ⟨rfl, h8⟩, rfl⟩
    exact ⟨v3, v7, rfl, h1, h2, h3, h4, h5, h6, h7, h8⟩
  · rintro ⟨v3, v7, rfl, h1, h2, h3, h4, h5, h6, h7, h8⟩
    exact ⟨_, _, rfl, ⟨rfl, h1⟩, _, _, rfl, ⟨rfl, h2⟩, _, _, rfl, h3, _, _, rfl, ⟨rfl, h4⟩, _, _, rfl, ⟨rfl, h5⟩, _, _, rfl, ⟨rfl, h6⟩, _, _, rfl, h7, _, _, rfl, ⟨rfl, h8⟩, rfl⟩
theorem end_iff {H : PH} {e : EndX} {cs : List Value} : CsR H e cs ↔ ∃ av, cs = [.int .i64 e.kind, .int .i64 e.reg, av, .int .i64 e.to, .int .i64 e.next, .int .i64 e.els] ∧
    InI e.kind ∧ InI e.reg ∧ SlR H e.args av ∧ InI e.to ∧ InI e.next ∧ InI e.els := by
  show PV.RepRow H (EndX.pv e) cs ↔ _
  simp only [EndX.pv, PV.RepRow, repI_iff, repS_iff]
  constructor
  · rintro ⟨v1, _, rfl, ⟨rfl, h1⟩, v2, _, rfl, ⟨rfl, h2⟩, v3, _, rfl, h3, v4, _, rfl, ⟨rfl, h4⟩, v5, _, rfl, ⟨rfl, h5⟩, v6, _, rfl, ⟨rfl, h6⟩, rfl⟩
    exact ⟨v3, rfl, h1, h2, h3, h4, h5, h6⟩
  · rintro ⟨v3, rfl, h1, h2, h3, h4, h5, h6⟩
    exact ⟨_, _, rfl, ⟨rfl, h1⟩, _, _, rfl, ⟨rfl, h2⟩, _, _, rfl, h3, _, _, rfl, ⟨rfl, h4⟩, _, _, rfl, ⟨rfl, h5⟩, _, _, rfl, ⟨rfl, h6⟩, rfl⟩
theorem blk_iff {H : PH} {b : BlkX} {cs : List Value} : CsR H b cs ↔ ∃ iv es, cs = iv :: es ∧ SlR H b.ins iv ∧ CsR H b.e es := by
  show PV.RepRow H (slp b.ins :: b.e.pv) cs ↔ _
  rw [PV.RepRow]
  constructor
  · rintro ⟨v, vs, rfl, h1, h2⟩; exact ⟨v, vs, rfl, h1, h2⟩
  · rintro ⟨v, vs, rfl, h1, h2⟩; exact ⟨v, vs, rfl, h1, h2⟩
theorem csIK {H : PH} {a : Int} {cs : List Value} (h : CsR H a cs) : cs = [.int .i64 a] ∧ InI a := by
  have h' : PV.RepRow H [.int .i64 a] cs := h
  simp only [PV.RepRow, repI_iff] at h'
  obtain ⟨v, vs, rfl, ⟨rfl, h1⟩, rfl⟩ := h'
  exact ⟨rfl, h1⟩
theorem csIK_mk {S : PH} {a : Int} (h : InI a) : CsR S a [.int .i64 a] := by
  show PV.RepRow S [.int .i64 a] [.int .i64 a]
  simp only [PV.RepRow, repI_iff]
  exact ⟨_, _, rfl, ⟨rfl, h⟩, rfl⟩
instance encInts : Enc (List Int) := ⟨fun l => [slp l], 1, fun _ => rfl⟩
theorem csLK {H : PH} {a : List Int} {cs : List Value} (h : CsR H a cs) : ∃ v, cs = [v] ∧ SlR H a v := by
  have h' : PV.RepRow H [slp a] cs := h
  simp only [PV.RepRow] at h'
  obtain ⟨v, vs, rfl, h1, rfl⟩ := h'
  exact ⟨v, rfl, h1⟩
theorem csLK_mk {H : PH} {a : List Int} {v : Value} (h : SlR H a v) : CsR H a [v] := by
  show PV.RepRow H [slp a] [v]
  simp only [PV.RepRow]
  exact ⟨v, [], rfl, h, rfl⟩
theorem uIntK : Try.prog.underlying 3 = some (.int .i64) := by kernel_rfl
theorem uIntsK : Try.prog.underlying 30 = some (.slice 3) := by kernel_rfl
theorem elemIntK : ElemOk Try.prog 3 1 8 = true := by kernel_rfl
theorem uIntssK : Try.prog.underlying 27 = some (.slice 30) := by kernel_rfl
theorem elemIntsK : ElemOk Try.prog 30 1 24 = true := by kernel_rfl
theorem uInssK : Try.prog.underlying 34 = some (.slice 43) := by kernel_rfl
theorem elemInsK : ElemOk Try.prog 43 8 112 = true := by kernel_rfl
theorem uBlksK : Try.prog.underlying 22 = some (.slice 38) := by kernel_rfl
theorem elemBlkK : ElemOk Try.prog 38 7 88 = true := by kernel_rfl

/-! ### what comes in -/
def intsWt (l : List Int) : Nat := sumWt (fun _ => 1) l + 1
def InsX.wt (x : InsX) : Nat := x.op.length + 1 + 1 + intsWt x.args + x.const.wt + 1
def EndX.wt (e : EndX) : Nat := 1 + 1 + intsWt e.args + 1 + 1 + 1
def BlkX.wt (b : BlkX) : Nat := sumWt InsX.wt b.ins + 1 + b.e.wt
def PrcX.wt (p : PrcX) : Nat := 1 + 1 + 1 + (sumWt BlkX.wt p.blocks + 1)
end Go.Proofs.Ytlbbmcpppfiplaa.Vc
/-
  LIVE: what an end reads and where it leads; the document's answers to these; a number into a list that rises; all that is read.
-/
namespace Go.Proofs.Ytlbbmcpppfiplaa.Vc
open Go

def EndX.reads (e : EndX) (r : Int) : Bool :=
  if e.kind = 1 ∨ e.kind = 2 ∨ e.kind = 5 ∨ e.kind = 6 then decide (e.reg = r) else if e.kind = 3 ∨ e.kind = 4 then decide (e.reg = r) || decide (r ∈ e.args) else false
def EndX.calls (e : EndX) : Bool := decide (e.kind = 4 ∨ e.kind = 6)
def EndX.ways (e : EndX) : List Int := (if e.kind = 0 ∨ e.kind = 1 ∨ e.kind = 4 ∨ e.kind = 6 then [e.next] else []) ++ (if e.kind = 1 then [e.els] else [])
def EndX.leads (e : EndX) (n : Nat) : List Int := e.ways.filter fun b => decide (0 ≤ b ∧ b < n)
/-- the cells of an end -/
def endVs (e : EndX) (av : Value) : List Value := [.int .i64 e.kind, .int .i64 e.reg, av, .int .i64 e.to, .int .i64 e.next, .int .i64 e.els]

/-! ### a number into a list that rises -/
def insL (n : Int) : List Int → List Int
  | [] => [n]
  | a :: l => if n < a then n :: a :: l else a :: insL n l
def putL (l : List Int) (n : Int) : List Int := if n ∈ l then l else insL n l
theorem insL_len (n : Int) : ∀ l, (insL n l).length = l.length + 1
  | [] => rfl
  | a :: l => by unfold insL; split <;> simp [insL_len n l]
theorem insL_mem (n x : Int) : ∀ l, x ∈ insL n l ↔ x = n ∨ x ∈ l
  | [] => by simp [insL]
  | a :: l => by
    unfold insL
    split
    · simp
    · simp only [List.mem_cons, insL_mem n x l]
      constructor
      · rintro (h | h | h)
        · exact .inr (.inl h)
        · exact .inl h
        · exact .inr (.inr h)
      · rintro (h | h | h)
        · exact .inr (.inl h)
        · exact .inl h
        · exact .inr (.inr h)
theorem insL_rises {n : Int} : ∀ {l : List Int}, l.Pairwise (· < ·) → n ∉ l → (insL n l).Pairwise (· < ·)
  | [], _, _ => by simp [insL]
  | a :: l, h, hn => by
    obtain ⟨h1, h2⟩ := List.pairwise_cons.1 h
    simp only [List.mem_cons, not_or] at hn
    unfold insL
    split
    · rename_i hlt
      refine List.pairwise_cons.2 ⟨fun b hb => ?_, h⟩
      rcases List.mem_cons.1 hb with rfl | hb
      · exact hlt
      · exact Int.lt_trans hlt (h1 b hb)
    · rename_i hlt
      refine List.pairwise_cons.2 ⟨fun b hb => ?_, insL_rises h2 hn.2⟩
      rcases (insL_mem n b l).1 hb with rfl | hb
      · omega
      · exact h1 b hb
theorem putL_mem (n x : Int) (l : List Int) : x ∈ putL l n ↔ x = n ∨ x ∈ l := by
  unfold putL
  split
  · rename_i h; exact ⟨.inr, fun hx => hx.elim (fun e => e ▸ h) id⟩
  · exact insL_mem n x l
theorem putL_rises {n : Int} {l : List Int} (h : l.Pairwise (· < ·)) : (putL l n).Pairwise (· < ·) := by
  unfold putL; split
  · exact h
  · rename_i hn; exact insL_rises h hn
theorem putL_len (l : List Int) (n : Int) : (putL l n).length ≤ l.length + 1 := by
  unfold putL; split
  · omega
  · rw [insL_len]; omega

end Go.Proofs.Ytlbbmcpppfiplaa.Vc
/-
  LIVE: the document's answers: to which blocks an end leads; all that is read.
-/
namespace Go.Proofs.Ytlbbmcpppfiplaa.Vc
open Go

/-- the cells of a function -/
def prcVs (p : PrcX) (bv : Value) : List Value := [.int .i64 p.params, .int .i64 p.holds, .int .i64 p.regs, bv]
theorem ways_len (e : EndX) : e.ways.length ≤ 2 := by
  unfold EndX.ways
  rw [List.length_append]
  split <;> split <;> simp

/-! ### all that is read -/
def EndX.regs (e : EndX) : List Int := (if e.reads e.reg then [e.reg] else []) ++ (if e.kind = 3 ∨ e.kind = 4 then e.args else [])
def BlkX.regs (b : BlkX) : List Int := b.ins.flatMap (·.args) ++ b.e.regs
def PrcX.regl (p : PrcX) : List Int := p.blocks.flatMap BlkX.regs
def readL (p : PrcX) : List Int := p.regl.foldl putL []
theorem foldl_put_len (l : List Int) : ∀ acc : List Int, (l.foldl putL acc).length ≤ acc.length + l.length := by
  induction l with
  | nil => intro acc; simp
  | cons a l ih =>
    intro acc
    have h1 := ih (putL acc a)
    have h2 := putL_len acc a
    simp only [List.foldl_cons, List.length_cons]; omega
theorem foldl_put_mem (l : List Int) (x : Int) : ∀ acc : List Int, x ∈ l.foldl putL acc ↔ x ∈ acc ∨ x ∈ l := by
  induction l with
  | nil => intro acc; simp
  | cons a l ih =>
    intro acc
    rw [List.foldl_cons, ih, putL_mem, List.mem_cons]
    constructor
    · rintro ((h | h) | h)
      · exact .inr (.inl h)
      · exact .inl h
      · exact .inr (.inr h)
    · rintro (h | h | h)
      · exact .inl (.inr h)
      · exact .inl (.inl h)
      · exact .inr h
theorem foldl_put_rises (l : List Int) : ∀ acc : List Int, acc.Pairwise (· < ·) → (l.foldl putL acc).Pairwise (· < ·) := by
  induction l with
  | nil => intro acc h; exact h
  | cons a l ih => intro acc h; exact ih _ (putL_rises h)
theorem readL_rises (p : PrcX) : (readL p).Pairwise (· < ·) := foldl_put_rises _ _ .nil
theorem readL_mem (p : PrcX) (x : Int) : x ∈ readL p ↔ x ∈ p.regl := by
  unfold readL; rw [foldl_put_mem]; simp
end Go.Proofs.Ytlbbmcpppfiplaa.Vc
/-
  LIVE: what is live, and that a search finds it. No program in sight.
-/
namespace Go.Proofs.Ytlbbmcpppfiplaa.Vc
open Go

def tieB : List UInt8 := [116, 105, 101]
def InsX.fills (x : InsX) (r : Int) : Prop := x.op ≠ tieB ∧ x.to = r
def thru (r : Int) : List InsX → Prop → Prop
  | [], q => q
  | x :: xs, q => r ∈ x.args ∨ (¬ x.fills r ∧ thru r xs q)
def endLive (e : EndX) (n : Nat) (r : Int) (L : Nat → Prop) : Prop := e.reads r = true ∨ (¬ (e.calls = true ∧ e.to = r) ∧ ∃ b : Nat, (b : Int) ∈ e.leads n ∧ L b)
/-- live at a place of a block, where L are the blocks at whose beginning it is -/
def blkLive (p : PrcX) (r : Int) (L : Nat → Prop) (i at_ : Nat) : Prop := ∃ b, p.blocks[i]? = some b ∧ thru r (b.ins.drop at_) (endLive b.e p.blocks.length r L)
/-- live at a block's beginning: at the least that abides -/
def LiveB (p : PrcX) (r : Int) (i : Nat) : Prop := ∀ L : Nat → Prop, (∀ j, blkLive p r L j 0 → L j) → L i
def LiveAt (p : PrcX) (r : Int) (i at_ : Nat) : Prop := blkLive p r (LiveB p r) i at_

theorem thru_mono {r : Int} {q q' : Prop} (h : q → q') : ∀ {l : List InsX}, thru r l q → thru r l q'
  | [], hq => h hq
  | x :: xs, hq => hq.imp id fun h2 => ⟨h2.1, thru_mono h h2.2⟩
theorem endLive_mono {e : EndX} {n : Nat} {r : Int} {L L' : Nat → Prop} (h : ∀ i, L i → L' i) (hl : endLive e n r L) : endLive e n r L' :=
  hl.imp id fun ⟨h1, b, h2, h3⟩ => ⟨h1, b, h2, h b h3⟩
theorem blkLive_mono {p : PrcX} {r : Int} {L L' : Nat → Prop} (h : ∀ i, L i → L' i) {i at_ : Nat} (hl : blkLive p r L i at_) : blkLive p r L' i at_ := by
  obtain ⟨b, h1, h2⟩ := hl
  exact ⟨b, h1, thru_mono (endLive_mono h) h2⟩
theorem liveB_of {p : PrcX} {r : Int} {i : Nat} (h : LiveAt p r i 0) : LiveB p r i := fun L hL => hL i (blkLive_mono (fun j hj => hj L hL) h)
theorem liveB_at {p : PrcX} {r : Int} {i : Nat} (h : LiveB p r i) : LiveAt p r i 0 := h (fun j => LiveAt p r j 0) fun _ hj => blkLive_mono (fun _ hk => liveB_of hk) hj
theorem liveB_iff {p : PrcX} {r : Int} {i : Nat} : LiveB p r i ↔ LiveAt p r i 0 := ⟨liveB_at, liveB_of⟩
/-- what is live is read somewhere -/
theorem thru_read {r : Int} {q : Prop} : ∀ {l : List InsX}, thru r l q → r ∈ l.flatMap (·.args) ∨ q
  | [], h => .inr h
  | x :: xs, h => by
    simp only [List.flatMap_cons, List.mem_append]
    rcases h with h | ⟨_, h⟩
    · exact .inl (.inl h)
    · rcases thru_read h with h | h
      · exact .inl (.inr h)
      · exact .inr h
theorem reads_regs {e : EndX} {r : Int} (h : e.reads r = true) : r ∈ e.regs := by
  unfold EndX.reads at h
  unfold EndX.regs
  split at h
  · rename_i hk
    simp only [decide_eq_true_eq] at h
    have : e.reads e.reg = true := by unfold EndX.reads; rw [if_pos hk]; simp
    rw [if_pos this]; simp [h]
  · split at h
    · rename_i hk hk2
      have : e.reads e.reg = true := by unfold EndX.reads; rw [if_neg hk, if_pos hk2]; simp
      rw [if_pos this, if_pos hk2]
      simp only [Bool.or_eq_true, decide_eq_true_eq] at h
      rcases h with h | h
      · simp [h]
      · simp [h]
    · cases h
theorem live_regl {p : PrcX} {r : Int} {i at_ : Nat} (h : LiveAt p r i at_) : r ∈ p.regl := by
  have key : ∀ {j a : Nat} {L : Nat → Prop}, (∀ k, L k → r ∈ p.regl) → blkLive p r L j a → r ∈ p.regl := by
    rintro j a L hL ⟨b, hb, ht⟩
    have hmem : ∀ x ∈ b.regs, x ∈ p.regl := fun x hx => List.mem_flatMap.2 ⟨b, List.mem_of_getElem? hb, hx⟩
    rcases thru_read ht with h | h
    · refine hmem r (List.mem_append_left _ ?_)
      obtain ⟨y, hy, hr⟩ := List.mem_flatMap.1 h
      exact List.mem_flatMap.2 ⟨y, List.mem_of_mem_drop hy, hr⟩
    · rcases h with h | ⟨_, k, _, hk⟩
      · exact hmem r (List.mem_append_right _ (reads_regs h))
      · exact hL k hk
  exact key (fun k hk => hk (fun _ => r ∈ p.regl) fun j hj => key (fun _ h => h) hj) h

open Classical in
noncomputable def liveD (p : PrcX) (r : Int) (i at_ : Nat) : Bool := decide (LiveAt p r i at_)
theorem liveD_iff {p : PrcX} {r : Int} {i at_ : Nat} : liveD p r i at_ = true ↔ LiveAt p r i at_ := by
  unfold liveD; simp
/-- the document's lists -/
noncomputable def liveL (p : PrcX) (i at_ : Nat) : List Int := (readL p).filter fun r => liveD p r i at_
theorem liveL_mem {p : PrcX} {i at_ : Nat} {r : Int} : r ∈ liveL p i at_ ↔ LiveAt p r i at_ := by
  unfold liveL
  rw [List.mem_filter, liveD_iff, readL_mem]
  exact ⟨fun h => h.2, fun h => ⟨live_regl h, h⟩⟩
theorem liveL_rises (p : PrcX) (i at_ : Nat) : (liveL p i at_).Pairwise (· < ·) := (readL_rises p).sublist List.filter_sublist
/-- lists that rise are the same where they have the same -/
theorem rises_eq : ∀ {l m : List Int}, l.Pairwise (· < ·) → m.Pairwise (· < ·) → (∀ x, x ∈ l ↔ x ∈ m) → l = m
  | [], [], _, _, _ => rfl
  | [], b :: m, _, _, h => absurd ((h b).2 (List.mem_cons_self ..)) (by simp)
  | a :: l, [], _, _, h => absurd ((h a).1 (List.mem_cons_self ..)) (by simp)
  | a :: l, b :: m, hl, hm, h => by
    obtain ⟨l1, l2⟩ := List.pairwise_cons.1 hl
    obtain ⟨m1, m2⟩ := List.pairwise_cons.1 hm
    have hab : a = b := by
      have ha := (h a).1 (List.mem_cons_self ..)
      have hb := (h b).2 (List.mem_cons_self ..)
      rcases List.mem_cons.1 ha with e | ha
      · exact e
      · rcases List.mem_cons.1 hb with e | hb
        · exact e.symm
        · have := m1 a ha; have := l1 b hb; omega
    subst hab
    congr 1
    refine rises_eq l2 m2 fun x => ?_
    constructor
    · intro hx
      rcases List.mem_cons.1 ((h x).1 (List.mem_cons_of_mem _ hx)) with e | h1
      · subst e; have := l1 x hx; omega
      · exact h1
    · intro hx
      rcases List.mem_cons.1 ((h x).2 (List.mem_cons_of_mem _ hx)) with e | h1
      · subst e; have := m1 x hx; omega
      · exact h1

/-! ### the search -/
/-- where the search stands: who is begun, who is still to be gone through -/
structure Seek (p : PrcX) (r : Int) (i0 a0 : Nat) (begun : Nat → Bool) (todo : List Nat) : Prop where
  fair : ∀ b ∈ todo, LiveAt p r b 0 → LiveAt p r i0 a0
  full : ∀ b, begun b = true → b ∉ todo → ¬ blkLive p r (fun j => begun j = false) b 0
  start : ¬ blkLive p r (fun j => begun j = false) i0 a0
theorem Seek.none {p : PrcX} {r : Int} {i0 a0 : Nat} {begun : Nat → Bool} (h : Seek p r i0 a0 begun []) : ¬ LiveAt p r i0 a0 := by
  intro hl
  refine h.start (blkLive_mono (fun j hj => hj (fun j => begun j = false) fun k hk => ?_) hl)
  cases hb : begun k with
  | false => rfl
  | true => exact absurd hk (h.full k hb (by simp))
/-- .. with one taken out, to be gone through from a on -/
structure Mid (p : PrcX) (r : Int) (i0 a0 : Nat) (begun : Nat → Bool) (rest : List Nat) (i a : Nat) : Prop where
  cur : LiveAt p r i a → LiveAt p r i0 a0
  fair : ∀ b ∈ rest, LiveAt p r b 0 → LiveAt p r i0 a0
  hold : ∀ b, begun b = true → b ∉ rest → (b = i ∧ a = 0) ∨ ¬ blkLive p r (fun j => begun j = false) b 0
  start : (i = i0 ∧ a = a0) ∨ ¬ blkLive p r (fun j => begun j = false) i0 a0
theorem Mid.first (p : PrcX) (r : Int) (i a : Nat) : Mid p r i a (fun _ => false) [] i a :=
  ⟨id, fun b hb => by simp at hb, fun b hb => by simp at hb, .inl ⟨rfl, rfl⟩⟩
theorem Mid.dead {p : PrcX} {r : Int} {i0 a0 i a : Nat} {begun : Nat → Bool} {rest : List Nat} (h : Mid p r i0 a0 begun rest i a) (hd : ∀ L, ¬ blkLive p r L i a) : Seek p r i0 a0 begun rest :=
  ⟨h.fair, fun b hb hn => (h.hold b hb hn).elim (fun ⟨e1, e2⟩ => by rw [e1, ← e2]; exact hd _) id, h.start.elim (fun ⟨e1, e2⟩ => by rw [← e1, ← e2]; exact hd _) id⟩
theorem Mid.go {p : PrcX} {r : Int} {i0 a0 i a : Nat} {begun begun' : Nat → Bool} {rest todo' : List Nat} {b : BlkX} (h : Mid p r i0 a0 begun rest i a) (hb : p.blocks[i]? = some b) (ht : ∀ q, thru r (b.ins.drop a) q ↔ q) (hr : b.e.reads r = false)
    (hc : ¬ (b.e.calls = true ∧ b.e.to = r)) (h1 : ∀ j, begun' j = true ↔ begun j = true ∨ (j : Int) ∈ b.e.leads p.blocks.length) (h2 : ∀ j ∈ todo', j ∈ rest ∨ (j : Int) ∈ b.e.leads p.blocks.length) (h3 : ∀ j ∈ rest, j ∈ todo') (h4 : ∀ j, begun' j = true → begun j = true ∨ j ∈ todo') :
    Seek p r i0 a0 begun' todo' := by
  have hmono : ∀ {j k : Nat}, ¬ blkLive p r (fun j => begun j = false) j k → ¬ blkLive p r (fun j => begun' j = false) j k := fun hn hl => hn (blkLive_mono (fun m hm => by
    cases hbm : begun m with
    | false => rfl
    | true => rw [(h1 m).2 (.inl hbm)] at hm; cases hm) hl)
  have hhere : ¬ blkLive p r (fun j => begun' j = false) i a := by
    rintro ⟨b', hb', hl⟩
    rw [hb] at hb'; cases hb'
    rw [ht] at hl
    rcases hl with hl | ⟨_, k, hk, hf⟩
    · rw [hr] at hl; cases hl
    · rw [(h1 k).2 (.inr hk)] at hf; cases hf
  refine ⟨fun j hj hl => ?_, fun j hj hn => ?_, h.start.elim (fun ⟨e1, e2⟩ => by rw [← e1, ← e2]; exact hhere) hmono⟩
  · rcases h2 j hj with hj | hj
    · exact h.fair j hj hl
    · refine h.cur ⟨b, hb, (ht _).2 (.inr ⟨hc, j, hj, liveB_of hl⟩)⟩
  · rcases h4 j hj with hb0 | hb0
    · rcases h.hold j hb0 (fun hr => hn (h3 j hr)) with ⟨e1, e2⟩ | hx
      · rw [e1, ← e2]; exact hhere
      · exact hmono hx
    · exact absurd hb0 hn
end Go.Proofs.Ytlbbmcpppfiplaa.Vc
/-
  LIVE: the document's search.
-/
namespace Go.Proofs.Ytlbbmcpppfiplaa.Vc
open Go

theorem uBoolsK : Try.prog.underlying 57 = some (.slice 4) := by kernel_rfl
theorem oneBoolK : OneOk Try.prog 4 1 (.bool false) := OneOk.of (by kernel_rfl) rfl
theorem csBK {H : PH} {a : Bool} {cs : List Value} (h : CsR H a cs) : cs = [.bool a] := by
  have h' : PV.RepRow H [.bool a] cs := h
  simp only [PV.RepRow, PV.Rep] at h'
  obtain ⟨v, vs, rfl, rfl, rfl⟩ := h'
  rfl
theorem csBK_mk {S : PH} {a : Bool} : CsR S a [.bool a] := by
  show PV.RepRow S [.bool a] [.bool a]
  simp only [PV.RepRow, PV.Rep]
  exact ⟨_, _, rfl, rfl, rfl⟩
theorem txt_neK (l : List UInt8) : cmpS .neq ⟨l.toArray⟩ ⟨#[116, 105, 101]⟩ = !decide (l = tieB) := by
  show (!((⟨l.toArray⟩ : ByteArray).toList == (⟨tieB.toArray⟩ : ByteArray).toList)) = _
  rw [txt_eq]
abbrev nI (j : Nat) : Value := .int .i64 (j : Int)

end Go.Proofs.Ytlbbmcpppfiplaa.Vc
/-
  LIVE: the document's lists.
-/
namespace Go.Proofs.Ytlbbmcpppfiplaa.Vc
open Go

structure PrcX.Fit (p : PrcX) : Prop where
  n : p.blocks.length ≤ 2000000
  ins : ∀ b ∈ p.blocks, b.ins.length ≤ 2000000
  regs : p.regl.length ≤ 2000000
theorem readL_len {p : PrcX} (h : p.Fit) : (readL p).length ≤ 2000000 := by
  have := foldl_put_len p.regl []
  have := h.regs
  unfold readL
  simp only [List.length_nil] at *
  omega
/-- the document's lists of a block's beginning -/
noncomputable def inL (p : PrcX) : List (List Int) := (List.range p.blocks.length).map fun i => liveL p i 0
theorem inL_len (p : PrcX) : (inL p).length = p.blocks.length := by simp [inL]
/-- the document's lists behind each instruction of a block -/
noncomputable def behL (p : PrcX) (i : Nat) (b : BlkX) : List (List Int) := (List.range b.ins.length).map fun k => liveL p i (k + 1)
noncomputable def behindL (p : PrcX) (block : Int) : List (List Int) := match (if block < 0 then none else p.blocks[block.toNat]?) with
  | some b => behL p block.toNat b
  | none => []
end Go.Proofs.Ytlbbmcpppfiplaa.Vc
/-
  LIVE: what is live across a call, by the document.
-/
namespace Go.Proofs.Ytlbbmcpppfiplaa.Vc
open Go

def BlkX.crosses (b : BlkX) (n : Nat) : Prop := b.e.calls = true ∧ 0 ≤ b.e.next ∧ b.e.next < (n : Int)
instance (b : BlkX) (n : Nat) : Decidable (b.crosses n) := by unfold BlkX.crosses; exact inferInstance
noncomputable def acrossL (p : PrcX) (block : Int) : List Int := match (if block < 0 then none else p.blocks[block.toNat]?) with
  | some b => if b.crosses p.blocks.length then (liveL p b.e.next.toNat 0).filter (fun x => decide (x ≠ b.e.to)) else []
  | none => []
theorem acrossL_none {p : PrcX} {block : Int} (h : block < 0 ∨ (p.blocks.length : Int) ≤ block) : acrossL p block = [] := by
  unfold acrossL
  by_cases h0 : block < 0
  · rw [if_pos h0]
  · rw [if_neg h0, List.getElem?_eq_none (by omega)]
theorem acrossL_at {p : PrcX} {i : Nat} {b : BlkX} (hb : p.blocks[i]? = some b) : acrossL p (i : Int) = if b.crosses p.blocks.length then (liveL p b.e.next.toNat 0).filter (fun x => decide (x ≠ b.e.to)) else [] := by
  unfold acrossL
  rw [if_neg (by omega), Int.toNat_natCast, hb]
theorem nil_slR {α : Type} [Enc α] (S : PH) : SlR S ([] : List α) (.slice none 0 0) := SlR.mk_iff.2 ⟨Nat.zero_le _, .inl ⟨rfl, rfl⟩⟩
theorem liveL_len {p : PrcX} (h : p.Fit) (i a : Nat) : (liveL p i a).length ≤ 2000000 := Nat.le_trans (List.length_filter_le _ _) (readL_len h)
end Go.Proofs.Ytlbbmcpppfiplaa.Vc
/-
  LIVE: a row of instructions gone over from its end: slices.Backward.
-/
namespace Go.Proofs.Ytlbbmcpppfiplaa.Vc
open Go

section
variable {P : Program} {D : Prot} {H0 : PH} {w0 : World} {X : List PanicEntry → PH → Prop}
theorem oper_app {m : Nat} {o : Oper} {a : Act} {w : World} {K K' : Act → World → Prop} {Q Q' : Exit → Act → World → Prop} (hK : ∀ a w, K a w → K' a w) (hP : ∀ ch a w, Q (.panic ch) a w → Q' (.panic ch) a w) (hO : ¬ LetsOut Q) (h : o.wp P a w K Q) : o.wpIn Fence.wide m P a w K' Q' := by
  refine ⟨fun _ _ => trivial, ?_⟩
  show o.uponIn _ _ _ _ _ _ ((o.semAt none a.eval).run P w)
  rw [Oper.semAt_none]
  unfold Oper.wp at h
  generalize (execOp a.eval o).run P w = res at h ⊢
  cases res with
  | ok x w' =>
    cases x
    case enter f args =>
      refine ⟨fun h => absurd h (by simp [Fence.wide]), callsIn_wide.2 (Calls.mono h fun e w'' he => ?_)⟩
      cases e with
      | returned v => exact hK _ _ he
      | panicked ch => exact hP _ _ _ he
      | outgrown => exact absurd he hO
    case row rw args =>
      refine ⟨fun h => absurd h (by simp [Fence.wide]), ?_⟩
      intro c cs _
      obtain ⟨v, w1, r, s⟩ := h c cs
      exact ⟨v, w1, hK _ _ r, stepsIn_wide.2 s⟩
    all_goals first | exact hK _ _ h | exact h.elim
  | halt x w' => cases x <;> first | exact hP _ _ _ h | exact h
theorem list_app {m : Nat} {ops : Array Oper} {Q Q' : Exit → Act → World → Prop} {post : List Oper} (hO : ¬ LetsOut Q) (hN : ∀ a w, Q .normal a w → wpListIn Fence.wide m P ops Q' post a w) (hP : ∀ ch a w, Q (.panic ch) a w → Q' (.panic ch) a w) :
    ∀ (os : List Oper) (a : Act) (w : World), wpList P ops Q os a w → wpListIn Fence.wide m P ops Q' (os ++ post) a w
  | [], a, w, h => hN a w h
  | o :: os, a, w, h => by
    rw [List.cons_append]
    unfold wpList at h
    unfold wpListIn
    split at h
    · rename_i hw
      rw [if_pos hw]
      rcases h with h | h
      · exact oper_app (fun a w h => list_app hO hN hP os a w h) hP hO h
      · exact absurd h.2 hO
    · rename_i hw
      rw [if_neg hw]
      exact ⟨fun _ _ => trivial, list_app hO hN hP os _ w h⟩
/-- a region whose first operations have a formula -/
theorem region_pre {m : Nat} {id : Nat} {ops : Array Oper} {pre post : List Oper} {st : St} {E : List Value} {r : Nat → Nat} {H : PH} {a : Act} {w : World} {L : LK} {K : St → List Value → PH → LK → Prop} {Q : Exit → Act → World → Prop} (hs : ops.toList = pre ++ post) (hm : ∀ o ∈ pre, D.may o)
    (hR : Rel D H0 w0 st E r H a w) (hden : den P X (regionL P [] ops 400 pre st) E H L K) (hK : ∀ st' F r' H' a' w', Rel D H0 w0 st' (E ++ F) r' H' a' w' → K st' (E ++ F) H' L → wpListIn Fence.wide m P ops Q post a' w')
    (hX : ∀ ch a' w', PanOf H0 w0 X ch w' → D.ok a' → Q (.panic ch) a' w') : (Code.region id ops false).wpIn Fence.wide m P Q a w := by
  refine wpIn_region_list ?_
  rw [hs]
  refine list_app (Q := QX D H0 w0 X fun a w => wpListIn Fence.wide m P ops Q post a w) noOut_QX (fun a w h => h) (fun ch a w h => hX ch a w h.1 h.2) pre a w ?_
  exact regionL_sound 400 pre hm st E r H a w _ hR hden (fun st' F r' H' a' w' _ h2 h3 => hK st' F r' H' a' w' h2 h3) fun ch a' w' h1 h2 => ⟨h1, h2⟩
/-- a piece of code that has a formula -/
theorem piece_in {m : Nat} {c : Code} {st : St} {E : List Value} {r : Nat → Nat} {H : PH} {a : Act} {w : World} {L : LK} {K : Ex × St → List Value → PH → LK → Prop} {Q : Exit → Act → World → Prop} (hm : ∀ o ∈ opersC c, D.may o)
    (hR : Rel D H0 w0 st E r H a w) (hden : den P X (execC P {} c st) E H L K)
    (hK : ∀ e st' F r' H' L' a' w', Rel D H0 w0 st' (E ++ F) r' H' a' w' → K (e, st') (E ++ F) H' L' → Q (exOf e) a' w') (hX : ∀ ch a' w', PanOf H0 w0 X ch w' → D.ok a' → Q (.panic ch) a' w') : c.wpIn Fence.wide m P Q a w :=
  execC_loopless (ro := none) (op := {}) rfl (fun _ g ps asg b => far_none rfl g ps asg b) (drawSound P _) c hm m st E r H a w L K Q hR hden (fun e st' F r' H' L' a' w' h1 _ _ h4 => hK e st' F r' H' L' a' w' h1 h4) hX
end

def bkFr (e3 : VE) : List Ent := [⟨[], .sc (.atom 0)⟩, ⟨[], .sc (.atom 1)⟩, ⟨[], .junk⟩, ⟨[], e3⟩] ++ List.replicate 15 ⟨[], .junk⟩
def bkS0 : St := { fr := bkFr .junk, bx := [], nb := 0, nl := 0, tags := [.any, .ptr], asu := [], kn := [], its := [] }
def bkS1 : St := { fr := bkFr (.sc (.atom 2)), bx := [], nb := 0, nl := 0, tags := [.any, .ptr, .int .i64], asu := [], kn := [], its := [] }
def lastE : Fm (Ex × St) → St
  | .leaf x => x.2
  | .load _ _ k => lastE k
  | .chk _ _ k => lastE k
  | _ => bkS0
def lastS : Fm St → St
  | .leaf x => x
  | .load _ _ k => lastS k
  | .chk _ _ k => lastS k
  | _ => bkS0
noncomputable def bkB : Code × Code × Code × Nat × Array Oper := match Try.f57.body with
  | some (.seq r0 (.block _ (.loop (.seq (.seq r1 _) (.seq (.block _ (.seq (.region i ops _) _)) r2))))) => (r0, r1, r2, i, ops)
  | _ => (.skip, .skip, .skip, 0, #[])
theorem bkB_eq : Try.f57.body = some (.seq bkB.1 (.block 0 (.loop (.seq (.seq bkB.2.1 (.cond (.tmp 8) .skip (.exit 0))) (.seq (.block 1 (.seq (.region bkB.2.2.2.1 bkB.2.2.2.2 false) (.cond (.tmp 18) .ret .skip))) bkB.2.2.1))))) := by kernel_rfl
abbrev tagsIns : List Tag := [.str, .int .i64, .sl, .int .i64, .int .i64, .str, .sl, .int .i64]
noncomputable def bkSA : St := lastE (execC Try.prog {} bkB.1 bkS0)
noncomputable def bkSB : St := lastE (execC Try.prog {} bkB.2.1 bkS1)
noncomputable def bkSC : St := lastS (regionL Try.prog [] bkB.2.2.2.2 400 (bkB.2.2.2.2.toList.take 6) bkS1)
noncomputable def bkSD : St := lastE (execC Try.prog {} bkB.2.2.1 bkS1)
theorem bkA_eq : execC Try.prog {} bkB.1 bkS0 = .load (.atom 1) [.sl] (.leaf (.normal, bkSA)) := by kernel_rfl
theorem bkBB_eq : execC Try.prog {} bkB.2.1 bkS1 = .leaf (.normal, bkSB) := by kernel_rfl
theorem bkC_eq : regionL Try.prog [] bkB.2.2.2.2 400 (bkB.2.2.2.2.toList.take 6) bkS1 = .load (.atom 1) [.sl] (.chk [] (.inSl (.atom 3) (.atom 2)) (.load (.elt (.atom 3) (.atom 2) 8) tagsIns (.leaf bkSC))) := by kernel_rfl
theorem bkD_eq : execC Try.prog {} bkB.2.2.1 bkS1 = .leaf (.normal, bkSD) := by kernel_rfl
theorem bkA_fr : bkSA.fr[0]? = some ⟨[], .sc (.atom 0)⟩ ∧ bkSA.fr[1]? = some ⟨[], .sc (.atom 1)⟩ ∧ bkSA.fr[3]? = some ⟨[], .sc (.ar .sub .i64 (.len (.atom 2)) (.int .i64 1))⟩ ∧ bkSA.fr.length = 19 := ⟨by kernel_rfl, by kernel_rfl, by kernel_rfl, by kernel_rfl⟩
theorem bkB_fr : bkSB.fr[0]? = some ⟨[], .sc (.atom 0)⟩ ∧ bkSB.fr[1]? = some ⟨[], .sc (.atom 1)⟩ ∧ bkSB.fr[3]? = some ⟨[], .sc (.atom 2)⟩ ∧ bkSB.fr[8]? = some ⟨[], .sc (.cmp .geq (.atom 2) (.int .i64 0))⟩ ∧ bkSB.fr.length = 19 := ⟨by kernel_rfl, by kernel_rfl, by kernel_rfl, by kernel_rfl, by kernel_rfl⟩
theorem bkC_fr : bkSC.fr[0]? = some ⟨[], .sc (.atom 0)⟩ ∧ bkSC.fr[1]? = some ⟨[], .sc (.atom 1)⟩ ∧ bkSC.fr[3]? = some ⟨[], .sc (.atom 2)⟩ ∧ bkSC.fr[11]? = some ⟨[], .sc (.atom 0)⟩ ∧ bkSC.fr[12]? = some ⟨[], .sc (.atom 2)⟩ ∧ bkSC.fr[16]? = some ⟨[], .ag [.atom 4, .atom 5, .atom 6, .atom 7, .atom 8, .atom 9, .atom 10, .atom 11]⟩ ∧ bkSC.fr.length = 19 := ⟨by kernel_rfl, by kernel_rfl, by kernel_rfl, by kernel_rfl, by kernel_rfl, by kernel_rfl, by kernel_rfl⟩
theorem bkD_fr : bkSD.fr[0]? = some ⟨[], .sc (.atom 0)⟩ ∧ bkSD.fr[1]? = some ⟨[], .sc (.atom 1)⟩ ∧ bkSD.fr[3]? = some ⟨[], .sc (.ar .sub .i64 (.atom 2) (.int .i64 1))⟩ ∧ bkSD.fr.length = 19 := ⟨by kernel_rfl, by kernel_rfl, by kernel_rfl, by kernel_rfl⟩
noncomputable def bkO7 : Oper := (bkB.2.2.2.2.toList.drop 6).headD { dst := none, op := .nilCheck (.tmp 0), type := 0, pos := "", after := #[], guard := none }
noncomputable def bkO8 : Oper := (bkB.2.2.2.2.toList.drop 7).headD { dst := none, op := .nilCheck (.tmp 0), type := 0, pos := "", after := #[], guard := none }
noncomputable def bkTs : Array TypeId := match bkO7.op with
  | .call c => c.argTypes
  | _ => #[]
theorem bkO_split : bkB.2.2.2.2.toList = bkB.2.2.2.2.toList.take 6 ++ [bkO7, bkO8] := by kernel_rfl
theorem bkO7_op : bkO7.op = .call { callee := .value (.tmp 11), args := #[.tmp 12, .tmp 16], argTypes := bkTs } ∧ bkO7.dst = some 17 ∧ bkO7.guard = none := ⟨by kernel_rfl, by kernel_rfl, by kernel_rfl⟩
theorem bkO8_op : bkO8.dst = some 18 ∧ bkO8.guard = none := ⟨by kernel_rfl, by kernel_rfl⟩
theorem put_getD {a : Act} {d t : Nat} {v : Value} (h : t ≠ d) : (a.put (some d) v).tmps.getD t undef = a.tmps.getD t undef := by
  simp only [Act.put, Array.getD_eq_getD_getElem?, Array.getElem?_setIfInBounds, if_neg (Ne.symm h)]
theorem put_same {a : Act} {d : Nat} {v : Value} (h : d < a.tmps.size) : (a.put (some d) v).tmps.getD d undef = v := by
  simp [Act.put, Array.getD_eq_getD_getElem?, h]
theorem eval_getD {a : Act} {t : Nat} : a.eval (.tmp t) = a.tmps.getD t undef := rfl
theorem bkFr_at {e3 : VE} {t : Nat} {e : Ent} (he : (bkFr e3)[t]? = some e) (hj : e.v = .junk → False) : (t = 0 ∧ e = ⟨[], .sc (.atom 0)⟩) ∨ (t = 1 ∧ e = ⟨[], .sc (.atom 1)⟩) ∨ (t = 3 ∧ e = ⟨[], e3⟩) := by
  unfold bkFr at he
  rcases t with _ | _ | _ | _ | t
  · simp at he; exact .inl ⟨rfl, he.symm⟩
  · simp at he; exact .inr (.inl ⟨rfl, he.symm⟩)
  · simp at he; rw [← he] at hj; exact absurd rfl (fun h => hj h)
  · simp at he; exact .inr (.inr ⟨rfl, he.symm⟩)
  · simp only [List.cons_append, List.nil_append, List.getElem?_cons_succ, List.getElem?_replicate] at he
    split at he
    · cases he; exact absurd rfl (fun h => hj h)
    · cases he
theorem bk_rel0 {H : PH} {w : World} {a : Act} {y pv : Value} (hv : Vis H w) (hs : a.tmps.size = 19) (hd : a.defers = []) (h0 : a.tmps.getD 0 undef = y) (h1 : a.tmps.getD 1 undef = pv) (hy : Tag.any.ok y = true) (hp : Tag.ptr.ok pv = true) : Rel (.plain []) H w bkS0 [y, pv] (fun _ => 0) H a w := by
  refine { adv := .refl hv, tags := by simp [bkS0, tagsOk, hy, hp], size := hs, df := hd, wk := trivial, fr := ?_, bx := fun _ h => (by cases h), inj := fun _ h => (by cases h), nd := List.nodup_nil, asu := fun _ h => (by cases h), kn := fun _ h => (by cases h) }
  intro t e he hj
  have hg : e.g = [] := by rcases bkFr_at he hj with ⟨_, rfl⟩ | ⟨_, rfl⟩ | ⟨_, rfl⟩ <;> rfl
  rw [hg]
  refine ⟨fun _ => ?_, fun h => absurd (fun x hx => by cases hx) h⟩
  rcases bkFr_at he hj with ⟨rfl, rfl⟩ | ⟨rfl, rfl⟩ | ⟨rfl, rfl⟩
  · rw [h0]; rfl
  · rw [h1]; rfl
  · exact absurd rfl (fun h => hj h)
theorem bk_rel1 {H : PH} {w : World} {a : Act} {y pv : Value} {i : Int} (hv : Vis H w) (hs : a.tmps.size = 19) (hd : a.defers = []) (h0 : a.tmps.getD 0 undef = y) (h1 : a.tmps.getD 1 undef = pv) (h3 : a.tmps.getD 3 undef = .int .i64 i) (hy : Tag.any.ok y = true) (hp : Tag.ptr.ok pv = true) : Rel (.plain []) H w bkS1 [y, pv, .int .i64 i] (fun _ => 0) H a w := by
  refine { adv := .refl hv, tags := ?_, size := hs, df := hd, wk := trivial, fr := ?_, bx := fun _ h => (by cases h), inj := fun _ h => (by cases h), nd := List.nodup_nil, asu := fun _ h => (by cases h), kn := fun _ h => (by cases h) }
  · show (Tag.any.ok y && (Tag.ptr.ok pv && ((Tag.int .i64).ok (.int .i64 i) && true))) = true
    rw [hy, hp]; rfl
  intro t e he hj
  have hg : e.g = [] := by rcases bkFr_at he hj with ⟨_, rfl⟩ | ⟨_, rfl⟩ | ⟨_, rfl⟩ <;> rfl
  rw [hg]
  refine ⟨fun _ => ?_, fun h => absurd (fun x hx => by cases hx) h⟩
  rcases bkFr_at he hj with ⟨rfl, rfl⟩ | ⟨rfl, rfl⟩ | ⟨rfl, rfl⟩
  · rw [h0]; rfl
  · rw [h1]; rfl
  · rw [h3]; rfl
theorem rel_at {D : Prot} {H0 : PH} {w0 : World} {st : St} {E : List Value} {r : Nat → Nat} {H : PH} {a : Act} {w : World} (hR : Rel D H0 w0 st E r H a w) {t : Nat} {ve : VE} (he : st.fr[t]? = some ⟨[], ve⟩) (hj : ve = .junk → False) : a.tmps.getD t undef = evV E r ve :=
  (hR.fr t _ he hj).1 fun x hx => by cases hx
noncomputable def bkT8 : TypeId := match bkO8.op with
  | .unOp _ t _ => t
  | _ => 0
theorem bkO8_op' : bkO8.op = .unOp .not bkT8 (.tmp 17) := by kernel_rfl
/-- the not of a truth -/
theorem bkO8_run {ρ : Operand → Value} {w : World} (h : ρ (.tmp 17) = .bool true) : (execOp ρ bkO8).run Try.prog w = .ok (.value (.bool false)) w := by
  rw [exec_bare, bkO8_op']
  simp [execOp, bare, h, Op.unary, Sem.run_bind, Result.andThen]
/-- the call of yield -/
theorem bkO7_run {ρ : Operand → Value} {w : World} {l : Nat} {x y : Value} {fn : FuncId} {tmps : Array Value} {asg body : Code} (h11 : ρ (.tmp 11) = .func (.yield l) #[] #[]) (h12 : ρ (.tmp 12) = x) (h16 : ρ (.tmp 16) = y) (hy : (Instr.yield l #[x, y]).run Try.prog w = .ok (.round l fn tmps asg body) w) :
    (execOp ρ bkO7).run Try.prog w = .ok (.round l fn tmps asg body) w := by
  rw [exec_bare, bkO7_op.1]
  simp [execOp, bare, resolve, h11, h12, h16, invoke, go_sem, hy]

theorem SlR.fn {α : Type} [Enc α] {H : PH} {l : List α} {v : Value} (h : SlR H l v) : ∃ f : Nat → List Value, ∀ i a, l[i]? = some a → CsR H a (f i) ∧ rowAt H (pOf (eltV v (i : Int) (sz α))) (f i) := by
  have : ∀ i : Nat, ∃ cs : List Value, ∀ a, l[i]? = some a → CsR H a cs ∧ rowAt H (pOf (eltV v (i : Int) (sz α))) cs := by
    intro i
    cases hi : l[i]? with
    | none => exact ⟨[], fun a h => by cases h⟩
    | some a =>
      obtain ⟨_, _, cs, h1, h2⟩ := h.get hi
      exact ⟨cs, fun a' h' => by cases h'; exact ⟨h1, h2⟩⟩
  exact ⟨fun i => (this i).choose, fun i => (this i).choose_spec⟩
set_option maxHeartbeats 2000000 in
/-- A ROW OF INSTRUCTIONS GONE OVER FROM ITS END -/
theorem backward_iter (l : List InsX) (S : PH) (ad : Option Addr) (sv : Value) (hp : rowAt S ad [sv]) (hs : SlR S l sv) (hl : l.length ≤ 4000000) (cells : Nat → List Value) (hc : ∀ i a, l[i]? = some a → CsR S a (cells i) ∧ rowAt S (pOf (eltV sv (i : Int) 8)) (cells i)) :
    Iter Try.prog (.func (.func 57) #[] #[.pointer ad]) S l.length (fun j => [.int .i64 ((l.length - 1 - j : Nat) : Int), .agg (cells (l.length - 1 - j)).toArray]) := by
  have hcb : callB Try.prog 57 = true := by kernel_rfl
  obtain ⟨sb, sc, rfl⟩ := hs.sl
  refine ⟨_, _, rfl, callOk_of hcb, fun lr I H W hSH hmono hv hround h0 => (callsIn_wide (n := 0)).1 ?_⟩
  refine callsIn_of_wp Try.func57 bkB_eq trivial ?_
  have hnt : Try.f57.ntmps = 19 := by kernel_rfl
  rw [hnt]
  obtain ⟨y, hy⟩ : ∃ y, y = Value.func (.yield lr) #[] #[] := ⟨_, rfl⟩
  rw [← hy]
  have hyt : Tag.any.ok y = true := by rw [hy]; rfl
  -- the length, less one
  refine wpIn_seq ?_
  refine piece_in (D := .plain []) (X := fun _ _ => False) (L := []) (K := fun x E' H' _ => x = (.normal, bkSA) ∧ H' = H ∧ E' = [y, .pointer ad, .slice sb l.length sc]) (fun o _ => Prot.plain_may [] o) (bk_rel0 (pv := .pointer ad) hv (by simp) rfl (by simp) (by simp) hyt rfl) ?_ ?_ (fun ch a' w' h => by obtain ⟨_, _, h⟩ := h; exact h.elim)
  · rw [bkA_eq]
    exact ⟨[_], rfl, rowAt_le hSH hp, rfl, rfl, rfl⟩
  rintro e st' F r' H' L' a1 W1 hR1 ⟨h1, rfl, hE⟩
  cases h1
  obtain ⟨f0, f1, f3, f4⟩ := bkA_fr
  have t0 := rel_at hR1 f0 (fun h => by cases h)
  have t1 := rel_at hR1 f1 (fun h => by cases h)
  have t3 := rel_at hR1 f3 (fun h => by cases h)
  have hsz := hR1.size
  rw [hE] at t0 t1 t3
  rw [f4] at hsz
  have hadv1 : Adv H' W H' W1 := hR1.adv
  have hdf1 : a1.defers = [] := hR1.df
  show (Code.block 0 _).wpIn _ _ _ _ _ _
  -- the rounds
  refine wpIn_block ?_
  refine wpIn_loop (fun a w => ∃ (j : Nat) (Hj : PH), j ≤ l.length ∧ a.tmps.size = 19 ∧ a.defers = [] ∧ a.tmps.getD 0 undef = y ∧ a.tmps.getD 1 undef = .pointer ad ∧ a.tmps.getD 3 undef = .int .i64 ((l.length : Int) - 1 - j) ∧ Adv H' W Hj w ∧ I j Hj) (fun a _ => match a.tmps.getD 3 undef with | .int _ n => (n + 1).toNat | _ => 0) ?_ ?_
  · refine ⟨0, H', Nat.zero_le _, hsz, hdf1, t0, t1, ?_, hadv1, h0⟩
    rw [t3]
    simp only [ev0, ev, evV, List.cons_append, List.nil_append, List.getD_cons_zero, List.getD_cons_succ, List.map_cons, List.map_nil, iOf, bOf, sOf, pOf, slLen, slBase, cmpI, arI, Value.ite_bool, int_beq, int_bne, ite_band, ite_bor]
    rw [w64 (by omega) (by omega)]
    simp
  rintro a w ⟨j, Hj, hj, q1, q2, q3, q4, q5, q6, q7⟩
  have hSj := hmono j Hj q7
  have hRa := bk_rel1 q6.vis q1 q2 q3 q4 q5 hyt rfl
  refine wpIn_seq (wpIn_seq ?_)
  refine piece_in (D := .plain []) (X := fun _ _ => False) (L := []) (K := fun x E' H' _ => x = (.normal, bkSB) ∧ H' = Hj ∧ E' = [y, .pointer ad, .int .i64 ((l.length : Int) - 1 - j)]) (fun o _ => Prot.plain_may [] o) hRa ?_ ?_ (fun ch a' w' h => by obtain ⟨_, _, h⟩ := h; exact h.elim)
  · rw [bkBB_eq]; exact ⟨rfl, rfl, rfl⟩
  rintro e st' F r2 H2 L2 a2 w2 hR2 ⟨h1, rfl, hE2⟩
  cases h1
  obtain ⟨f0, f1, f3, f8, f4⟩ := bkB_fr
  have u0 := rel_at hR2 f0 (fun h => by cases h)
  have u1 := rel_at hR2 f1 (fun h => by cases h)
  have u3 := rel_at hR2 f3 (fun h => by cases h)
  have u8 := rel_at hR2 f8 (fun h => by cases h)
  have hsz2 := hR2.size
  rw [hE2] at u0 u1 u3 u8
  rw [f4] at hsz2
  have hadv2 : Adv H' W H2 w2 := q6.trans hR2.adv
  have hdf2 : a2.defers = [] := hR2.df
  have hc8 : a2.eval (.tmp 8) = .bool (decide ((l.length : Int) - 1 - j ≥ 0)) := by
    rw [eval_getD, u8]
    simp only [ev0, ev, evV, List.cons_append, List.nil_append, List.getD_cons_zero, List.getD_cons_succ, List.map_cons, List.map_nil, iOf, bOf, sOf, pOf, slLen, slBase, cmpI, arI, Value.ite_bool, int_beq, int_bne, ite_band, ite_bor]
  show (Code.cond _ _ _).wpIn _ _ _ _ _ _
  by_cases hjl : j < l.length
  · have hc8' : a2.eval (.tmp 8) = .bool true := by rw [hc8, decide_eq_true (by omega)]
    refine wpIn_cond_true hc8' (wpIn_skip ?_)
    show (Code.seq _ _).wpIn _ _ _ _ _ _
    obtain ⟨idx, hidx⟩ : ∃ idx : Nat, idx = l.length - 1 - j := ⟨_, rfl⟩
    have hi3 : ((l.length : Int) - 1 - j) = (idx : Int) := by omega
    have hil : idx < l.length := by omega
    obtain ⟨x, hx⟩ : ∃ x, l[idx]? = some x := ⟨_, List.getElem?_eq_getElem hil⟩
    obtain ⟨hcr, hcrow⟩ := hc idx x hx
    obtain ⟨z1, _⟩ := hs.get hx
    obtain ⟨av, dv, hcell, y1, y2, ya, y4, y5, y6, yd, y8⟩ := ins_iff.1 hcr
    obtain ⟨ab, ac, rfl⟩ := ya.sl
    obtain ⟨db, dc, rfl⟩ := yd.sl
    have hR2' := bk_rel1 (i := (idx : Int)) hadv2.vis hsz2 hdf2 u0 u1 (by rw [u3]; simp only [ev0, ev, evV, List.cons_append, List.nil_append, List.getD_cons_zero, List.getD_cons_succ, List.map_cons, List.map_nil, iOf, bOf, sOf, pOf, slLen, slBase, cmpI, arI, Value.ite_bool, int_beq, int_bne, ite_band, ite_bor]; rw [hi3]) hyt (rfl : Tag.ptr.ok (.pointer ad) = true)
    refine wpIn_seq (wpIn_block (wpIn_seq ?_))
    refine region_pre (D := .plain []) (X := fun _ _ => False) (L := []) (K := fun st E' H' _ => st = bkSC ∧ H' = H2 ∧ E' = [y, .pointer ad, .int .i64 (idx : Int), .slice sb l.length sc] ++ cells idx) bkO_split (fun o _ => Prot.plain_may [] o) hR2' ?_ ?_ (fun ch a' w' h => by obtain ⟨_, _, h⟩ := h; exact h.elim)
    · rw [bkC_eq]
      refine ⟨[_], rfl, rowAt_le hSj hp, fun _ => ?_, cells idx, by rw [hcell]; rfl, ?_, rfl, rfl, rfl⟩
      · simp only [Chk.holds, ev0, ev, evV, List.cons_append, List.nil_append, List.getD_cons_zero, List.getD_cons_succ, List.map_cons, List.map_nil, iOf, bOf, sOf, pOf, slLen, slBase, cmpI, arI, Value.ite_bool, int_beq, int_bne, ite_band, ite_bor]; exact ⟨z1, by omega, by omega⟩
      · simp only [ev0, ev, evV, List.cons_append, List.nil_append, List.getD_cons_zero, List.getD_cons_succ, List.map_cons, List.map_nil, iOf, bOf, sOf, pOf, slLen, slBase, cmpI, arI, Value.ite_bool, int_beq, int_bne, ite_band, ite_bor]; exact rowAt_le hSj hcrow
    rintro st' F3 r3 H3 a3 w3 hR3 ⟨rfl, rfl, hE3⟩
    obtain ⟨g0, g1, g3, g11, g12, g16, g4⟩ := bkC_fr
    have s0 := rel_at hR3 g0 (fun h => by cases h)
    have s1 := rel_at hR3 g1 (fun h => by cases h)
    have s3 := rel_at hR3 g3 (fun h => by cases h)
    have s11 := rel_at hR3 g11 (fun h => by cases h)
    have s12 := rel_at hR3 g12 (fun h => by cases h)
    have s16 := rel_at hR3 g16 (fun h => by cases h)
    have hsz3 := hR3.size
    rw [hE3] at s0 s1 s3 s11 s12 s16
    rw [g4] at hsz3
    have hadv3 : Adv H' W H3 w3 := hadv2.trans hR3.adv
    have hdf3 : a3.defers = [] := hR3.df
    have e16 : a3.eval (.tmp 16) = .agg (cells idx).toArray := by
      rw [eval_getD, s16, hcell]; rfl
    refine wpListIn_plain bkO7_op.2.2 fun K hK => ?_
    refine ⟨fun _ _ => trivial, ?_⟩
    show Oper.uponIn _ _ _ _ _ _ _ ((bkO7.semAt none a3.eval).run _ w3)
    obtain ⟨fn, tmps, asg, body, hyl, hrd⟩ := hround j H3 w3 hjl q7 hadv3 0
    have hyl : (Instr.yield lr #[.int .i64 (idx : Int), .agg (cells idx).toArray]).run Try.prog w3 = .ok (.round lr fn tmps asg body) w3 := by rw [hidx]; exact hyl
    rw [Oper.semAt_none, bkO7_run (l := lr) (x := .int .i64 (idx : Int)) (y := .agg (cells idx).toArray) (by rw [eval_getD, s11, ← hy]; rfl) (by rw [eval_getD, s12]; rfl) e16 hyl]
    refine ⟨fun h => absurd h (by simp [Fence.wide]), ?_⟩
    refine RoundIn.mono (show RoundIn Fence.wide _ _ _ _ _ _ _ _ _ from hrd) ?_
    rintro e W4 ⟨rfl, H4, hadv4, hI4⟩
    refine hK _ _ ?_
    rw [bkO7_op.2.1]
    have hsz17 : 17 < a3.tmps.size := by rw [hsz3]; decide
    refine wpListIn_plain bkO8_op.2 fun K2 hK2 => ?_
    refine ⟨fun _ _ => trivial, ?_⟩
    show Oper.uponIn _ _ _ _ _ _ _ ((bkO8.semAt none _).run _ W4)
    rw [Oper.semAt_none, bkO8_run (by rw [eval_getD]; exact put_same hsz17)]
    show K2 _ W4
    refine hK2 _ _ ?_
    rw [bkO8_op.1]
    obtain ⟨a5, ha5⟩ : ∃ a5, a5 = (a3.put (some 17) (.bool true)).put (some 18) (.bool false) := ⟨_, rfl⟩
    have hsz4 : (a3.put (some 17) (.bool true)).tmps.size = 19 := by simp [Act.put, hsz3]
    have hsz5 : a5.tmps.size = 19 := by rw [ha5]; simp [Act.put, hsz3]
    have hg5 : ∀ t, t ≠ 17 → t ≠ 18 → a5.tmps.getD t undef = a3.tmps.getD t undef := fun t h1 h2 => by rw [ha5, put_getD h2, put_getD h1]
    have h18 : a5.eval (.tmp 18) = .bool false := by rw [eval_getD, ha5]; exact put_same (by rw [hsz4]; decide)
    rw [← ha5]
    show (Code.cond _ _ _).wpIn _ _ _ _ _ _
    refine wpIn_cond_false h18 (wpIn_skip ?_)
    show Code.wpIn _ _ _ bkB.2.2.1 _ _ _
    have hdf5 : a5.defers = [] := by rw [ha5]; exact hdf3
    have hR5 := bk_rel1 (i := (idx : Int)) hadv4.vis hsz5 hdf5 ((hg5 0 (by decide) (by decide)).trans s0) ((hg5 1 (by decide) (by decide)).trans s1) ((hg5 3 (by decide) (by decide)).trans s3) hyt (rfl : Tag.ptr.ok (.pointer ad) = true)
    refine piece_in (D := .plain []) (X := fun _ _ => False) (L := []) (K := fun x E' H' _ => x = (.normal, bkSD) ∧ H' = H4 ∧ E' = [y, .pointer ad, .int .i64 (idx : Int)]) (fun o _ => Prot.plain_may [] o) hR5 ?_ ?_ (fun ch a' w' h => by obtain ⟨_, _, h⟩ := h; exact h.elim)
    · rw [bkD_eq]; exact ⟨rfl, rfl, rfl⟩
    rintro e st' F6 r6 H6 L6 a6 w6 hR6 ⟨h1, rfl, hE6⟩
    cases h1
    obtain ⟨m0, m1, m3, m4⟩ := bkD_fr
    have v0 := rel_at hR6 m0 (fun h => by cases h)
    have v1 := rel_at hR6 m1 (fun h => by cases h)
    have v3 := rel_at hR6 m3 (fun h => by cases h)
    have hsz6 := hR6.size
    rw [hE6] at v0 v1 v3
    rw [m4] at hsz6
    have hv3 : a6.tmps.getD 3 undef = .int .i64 ((l.length : Int) - 1 - (j + 1 : Nat)) := by
      rw [v3]
      simp only [ev0, ev, evV, List.cons_append, List.nil_append, List.getD_cons_zero, List.getD_cons_succ, List.map_cons, List.map_nil, iOf, bOf, sOf, pOf, slLen, slBase, cmpI, arI, Value.ite_bool, int_beq, int_bne, ite_band, ite_bor]
      rw [w64 (by omega) (by omega)]
      congr 1; omega
    refine ⟨⟨j + 1, H6, by omega, hsz6, hR6.df, v0, v1, hv3, (hadv3.trans hadv4).trans hR6.adv, hI4⟩, ?_⟩
    rw [hv3, q5]
    simp only []
    omega
  · have hc8' : a2.eval (.tmp 8) = .bool false := by rw [hc8, decide_eq_false (by omega)]
    refine wpIn_cond_false hc8' (wpIn_exit ?_)
    have hjn : j = l.length := by omega
    simp only [Exit.then, Exit.inBlock, ↓reduceIte]
    refine ⟨hdf2, .tuple #[], ?_, ⟨_, rfl⟩, H2, hadv2, hjn ▸ q7⟩
    have hres : Try.f57.results = #[] := by kernel_rfl
    simp [results, hres]
end Go.Proofs.Ytlbbmcpppfiplaa.Vc
/-
  LIVE: sets of numbers, as the program keeps them.
-/
namespace Go.Proofs.Ytlbbmcpppfiplaa.Vc
open Go

abbrev encS (s : List Int) : List (Int × Value) := s.map fun k => (k, .int .i64 1)
abbrev SetAt (es : Array MapEntry) (clock : Nat) (s : List Int) : Prop := EntsR (α := Int) es.toList clock (encS s)
theorem SetAt.nodup {es : Array MapEntry} {clock : Nat} {s : List Int} (h : SetAt es clock s) : s.Nodup := by
  have := h.keys
  rw [List.map_map] at this
  have e : ((fun x : Int × Value => x.1) ∘ fun k : Int => (k, (Value.int .i64 1))) = id := rfl
  rw [e, List.map_id] at this
  exact this
theorem encS_get (s : List Int) (k : Int) : (getM (encS s) k).isSome = decide (k ∈ s) := by
  unfold getM encS
  rw [Option.isSome_map]
  by_cases h : k ∈ s
  · rw [decide_eq_true h]
    refine List.find?_isSome.2 ⟨(k, .int .i64 1), List.mem_map.2 ⟨k, h, rfl⟩, by simp⟩
  · rw [decide_eq_false h, Option.isSome_eq_false_iff, Option.isNone_iff_eq_none, List.find?_eq_none]
    intro x hx
    obtain ⟨y, hy, rfl⟩ := List.mem_map.1 hx
    simp only [decide_eq_true_eq]
    exact fun e => h (e ▸ hy)
def addS (s : List Int) (k : Int) : List Int := if k ∈ s then s else s ++ [k]
theorem encS_put (s : List Int) (k : Int) : putM (encS s) k (.int .i64 1) = encS (addS s k) := by
  unfold putM addS
  rw [encS_get]
  by_cases h : k ∈ s
  · rw [if_pos (by rw [decide_eq_true h]), if_pos h]
    unfold encS
    rw [List.map_map]
    refine List.map_congr_left fun x _ => ?_
    by_cases e : x = k <;> simp [e]
  · rw [if_neg (by rw [decide_eq_false h]; exact Bool.false_ne_true), if_neg h]
    simp [encS]
theorem addS_mem (s : List Int) (k y : Int) : y ∈ addS s k ↔ y ∈ s ∨ y = k := by
  unfold addS
  split
  · rename_i h; exact ⟨.inl, fun hy => hy.elim id fun e => e ▸ h⟩
  · simp
theorem encS_del (s : List Int) (k : Int) : delM (encS s) k = encS (s.filter fun y => decide (y ≠ k)) := by
  unfold delM encS
  rw [List.filter_map]; rfl
theorem setOk_nil : SetAt (#[] : Array MapEntry) 0 [] := EntsR.empty
theorem uSetK : Try.prog.underlying 65 = some (.map 3 3) := by kernel_rfl
theorem kIntK : Try.prog.underlying 3 = some (Key.kd Int) := by kernel_rfl
/-- an entry of a set -/
theorem SetAt.entry {es : Array MapEntry} {clock : Nat} {s : List Int} (h : SetAt es clock s) {e : MapEntry} (he : e ∈ es.toList) : ∃ k ∈ s, e.key = .int .i64 k ∧ e.val = .int .i64 1 := by
  have h1 : (e.key, e.val) ∈ es.toList.map (fun e => (e.key, e.val)) := List.mem_map.2 ⟨e, he, rfl⟩
  rw [h.ents] at h1
  obtain ⟨x, hx, hxe⟩ := List.mem_map.1 h1
  obtain ⟨k, hk, rfl⟩ := List.mem_map.1 hx
  simp only [Prod.mk.injEq] at hxe
  exact ⟨k, hk, hxe.1.symm, hxe.2.symm⟩
theorem SetAt.has {es : Array MapEntry} {clock : Nat} {s : List Int} (h : SetAt es clock s) {k : Int} (hk : k ∈ s) : ∃ e ∈ es.toList, e.key = .int .i64 k := by
  have h1 : ((.int .i64 k : Value), (.int .i64 1 : Value)) ∈ (encS s).map fun x => (Key.kv x.1, x.2) := List.mem_map.2 ⟨(k, .int .i64 1), List.mem_map.2 ⟨k, hk, rfl⟩, rfl⟩
  rw [← h.ents] at h1
  obtain ⟨e, he, hee⟩ := List.mem_map.1 h1
  simp only [Prod.mk.injEq] at hee
  exact ⟨e, he, hee.1⟩

theorem setAdd_tri (r : Nat) (es : Array MapEntry) (clock : Nat) (s l : List Int) (lv : Value) (S K : PH) (hl : SlR S l lv) (h : Held S K [.blk r (.map es clock)]) (hs : SetAt es clock s) :
    Tri Try.prog n_live_set_int___add #[.map (some r), lv] K fun x K' => ∃ es' clock' s', x = .returned (.tuple #[]) ∧ Held S K' [.blk r (.map es' clock')] ∧ SetAt es' clock' s' ∧ ∀ y, y ∈ s' ↔ y ∈ s ∨ y ∈ l := by
  obtain ⟨b, c, rfl⟩ := hl.sl
  have hm := hl.max
  simp only [maxLen] at hm
  refine tri_live_set_int___add [.map (some r), .slice b l.length c] (by kernel_rfl) (by kernel_rfl) ?_
  refine ⟨fun n vs K' => ∃ (k : Nat) (es' : Array MapEntry) (clock' : Nat) (s' : List Int), vs = [nI k] ∧ k + n = l.length ∧ Held S K' [.blk r (.map es' clock')] ∧ SetAt es' clock' s' ∧ ∀ y, y ∈ s' ↔ y ∈ s ∨ y ∈ l.take k, ⟨l.length, 0, es, clock, s, rfl, by omega, h, hs, fun y => by simp⟩, ?_⟩
  rintro n vs K1 _ ⟨k, es1, clock1, s1, rfl, hkn, h1, hs1, hm1⟩
  refine ⟨fun g => ?_, fun g => ?_⟩
  · simp only [ev0, ev, evV, List.cons_append, List.nil_append, List.getD_cons_zero, List.getD_cons_succ, List.map_cons, List.map_nil, iOf, bOf, sOf, pOf, slLen, slBase, cmpI, arI, Value.ite_bool, int_beq, int_bne, ite_band, ite_bor, decide_eq_true_eq] at g
    obtain ⟨a, ha⟩ : ∃ a, l[k]? = some a := ⟨_, List.getElem?_eq_getElem (show k < l.length by omega)⟩
    obtain ⟨q1, _, ces, q2, q3⟩ := (hl.le h1.sh).get ha
    obtain ⟨rfl, hai⟩ := csIK q2
    refine ⟨fun _ => ?_, [.int .i64 a], rfl, ?_, ?_⟩
    · simp only [Chk.holds, ev0, ev, evV, List.cons_append, List.nil_append, List.getD_cons_zero, List.getD_cons_succ, List.map_cons, List.map_nil, iOf, bOf, sOf, pOf, slLen, slBase, cmpI, arI, Value.ite_bool, int_beq, int_bne, ite_band, ite_bor]; exact ⟨q1, by omega, by omega⟩
    · simp only [ev0, ev, evV, List.cons_append, List.nil_append, List.getD_cons_zero, List.getD_cons_succ, List.map_cons, List.map_nil, iOf, bOf, sOf, pOf, slLen, slBase, cmpI, arI, Value.ite_bool, int_beq, int_bne, ite_band, ite_bor]; exact q3
    refine den_mapUpdate (α := Int) (m := encS s1) (r := r) (es := es1) (clock := clock1) a (.int .i64 1) uSetK kIntK (by kernel_rfl) (by kernel_rfl) (by kernel_rfl) (h1.blk (List.mem_cons_self ..)) hs1 fun es2 clock2 he2 => ?_
    rw [encS_put] at he2
    refine ⟨_, lookup_hit, n - 1, by omega, k + 1, es2, clock2, addS s1 a, ?_, by omega, h1.put _, he2, fun y => ?_⟩
    · simp only [ev0, ev, evV, List.cons_append, List.nil_append, List.getD_cons_zero, List.getD_cons_succ, List.map_cons, List.map_nil, iOf, bOf, sOf, pOf, slLen, slBase, cmpI, arI, Value.ite_bool, int_beq, int_bne, ite_band, ite_bor]; rw [w64 (by omega) (by omega)]; rfl
    · rw [addS_mem, hm1, List.take_add_one, ha]
      simp only [Option.toList_some, List.mem_append, List.mem_singleton, or_assoc]
  · simp only [ev0, ev, evV, List.cons_append, List.nil_append, List.getD_cons_zero, List.getD_cons_succ, List.map_cons, List.map_nil, iOf, bOf, sOf, pOf, slLen, slBase, cmpI, arI, Value.ite_bool, int_beq, int_bne, ite_band, ite_bor, decide_eq_false_iff_not] at g
    rw [List.take_of_length_le (by omega)] at hm1
    exact ⟨es1, clock1, s1, rfl, h1, hs1, hm1⟩
theorem setDrop_tri (r : Nat) (es : Array MapEntry) (clock : Nat) (s : List Int) (a : Int) (S K : PH) (h : Held S K [.blk r (.map es clock)]) (hs : SetAt es clock s) :
    Tri Try.prog n_live_set_int___drop #[.map (some r), .int .i64 a] K fun x K' => ∃ es' clock', x = .returned (.tuple #[]) ∧ Held S K' [.blk r (.map es' clock')] ∧ SetAt es' clock' (s.filter fun y => decide (y ≠ a)) := by
  refine tri_live_set_int___drop [.map (some r), .int .i64 a] (by kernel_rfl) (by kernel_rfl) ?_
  refine den_delete (α := Int) (m := encS s) (r := r) (es := es) (clock := clock) a rfl uSetK kIntK (by kernel_rfl) (by kernel_rfl) (h.blk (List.mem_cons_self ..)) hs fun es2 clock2 he2 => ?_
  rw [encS_del] at he2
  exact ⟨es2, clock2, rfl, h.put _, he2⟩
end Go.Proofs.Ytlbbmcpppfiplaa.Vc
/-
  LIVE: a set put into another one.
-/
namespace Go.Proofs.Ytlbbmcpppfiplaa.Vc
open Go

/-- the value is this set, which lies there -/
def SetR (H : PH) (v : Value) (s : List Int) : Prop := ∃ r es clock, v = .map (some r) ∧ H r = some (.map es clock) ∧ SetAt es clock s
theorem SetR.le {H H' : PH} {v : Value} {s : List Int} (h : SetR H v s) (hl : PH.le H H') : SetR H' v s := by
  obtain ⟨r, es, clock, h1, h2, h3⟩ := h
  exact ⟨r, es, clock, h1, hl _ _ h2, h3⟩
set_option maxHeartbeats 1000000 in
theorem setJoin_tri (r : Nat) (es : Array MapEntry) (clock : Nat) (s t : List Int) (tv : Value) (S K : PH) (ht : SetR S tv t) (h : Held S K [.blk r (.map es clock)]) (hs : SetAt es clock s) :
    Tri Try.prog n_live_set_int___join #[.map (some r), tv] K fun x K' => ∃ es' clock' s', x = .returned (.tuple #[]) ∧ Held S K' [.blk r (.map es' clock')] ∧ SetAt es' clock' s' ∧ ∀ y, y ∈ s' ↔ y ∈ s ∨ y ∈ t := by
  obtain ⟨rt, est, clt, rfl, hrt, hst⟩ := ht
  refine tri_live_set_int___join [.map (some r), .map (some rt)] (by kernel_rfl) (by kernel_rfl) ?_
  refine den_range (r := rt) (es := est) (clock := clt) uSetK (by kernel_rfl) (h.sh _ _ hrt) (fun _ _ => pendNil) fun i hi => ?_
  have h0 := h.new hi (.mapIter (some rt) clt #[] clt)
  have hl0 : leftM est #[] = est.toList := by unfold leftM; simp
  refine ⟨fun n vs K' => ∃ (seen : Array Nat) (es' : Array MapEntry) (clock' : Nat) (s' : List Int), vs = [] ∧ n = (leftM est seen).length ∧ Held S K' [.blk i (.mapIter (some rt) clt seen clt), .blk r (.map es' clock')] ∧ SetAt es' clock' s' ∧ ∀ y, y ∈ s' ↔ y ∈ s ∨ (y ∈ t ∧ ∀ e ∈ leftM est seen, e.key ≠ .int .i64 y),
    ⟨_, #[], es, clock, s, rfl, rfl, h0, hs, fun y => ?_⟩, ?_⟩
  · constructor
    · exact .inl
    · rintro (h | ⟨h1, h2⟩)
      · exact h
      · obtain ⟨e, he, hk⟩ := hst.has h1
        exact absurd hk (h2 e (by rw [hl0]; exact he))
  rintro n vs K1 _ ⟨seen, es1, clock1, s1, rfl, rfl, h1, hs1, hm1⟩
  refine ⟨fun vs K' => ∃ b : Bool, vs = [.bool b] ∧ ((b = false ∧ leftM est seen = [] ∧ Held S K' [.blk i (.mapIter (some rt) clt seen clt), .blk r (.map es1 clock1)]) ∨ (b = true ∧ ∃ e ∈ leftM est seen, Held S K' [.blk i (.mapIter (some rt) clt (seen.push e.born) clt), .blk r (.map es1 clock1)])), ?_, ?_⟩
  · rintro vs K2 _ ⟨b, rfl, hcase⟩
    refine ⟨fun g => ?_, fun g => ?_⟩
    · simp only [ev0, ev, evV, List.cons_append, List.nil_append, List.getD_cons_zero, List.getD_cons_succ, List.map_cons, List.map_nil, iOf, bOf, sOf, pOf, slLen, slBase, cmpI, arI, Value.ite_bool, int_beq, int_bne, ite_band, ite_bor] at g
      subst g
      rcases hcase with ⟨h, _⟩ | ⟨_, e, he, h2⟩
      · cases h
      have hee : e ∈ est.toList := (List.mem_filter.1 he).1
      obtain ⟨k, hk, hek, hev⟩ := hst.entry hee
      refine den_entry (i := i) (r := rt) (es := est) (clock := clt) (seen := seen) (m := encS t) (e := e) (by kernel_rfl) (h2.blk (List.mem_cons_self ..)) (h2.sh _ _ hrt) hst hee (by rw [hek, hev]; exact ⟨rfl, rfl⟩) ?_
      rw [hek, hev]
      refine den_mapUpdate (α := Int) (m := encS s1) (r := r) (es := es1) (clock := clock1) k (.int .i64 1) uSetK kIntK (by kernel_rfl) (by kernel_rfl) (by kernel_rfl) (h2.blk (List.mem_cons_of_mem _ (List.mem_cons_self ..))) hs1 fun es2 clock2 he2 => ?_
      rw [encS_put] at he2
      obtain ⟨p1, p2⟩ := left_push hst he
      refine ⟨_, lookup_hit, _, p1, seen.push e.born, es2, clock2, addS s1 k, rfl, rfl, ((h2.perm (List.Perm.swap _ _ _)).put _).perm (List.Perm.swap _ _ _), he2, fun y => ?_⟩
      rw [addS_mem, hm1]
      constructor
      · rintro ((h | ⟨h3, h4⟩) | h)
        · exact .inl h
        · exact .inr ⟨h3, fun e' he' => h4 e' ((p2 e').2 (.inr he'))⟩
        · subst h
          refine .inr ⟨hk, fun e' he' hke => ?_⟩
          -- keys are apart
          have he'l : e' ∈ leftM est seen := (p2 e').2 (.inr he')
          have he'e : e' ∈ est.toList := (List.mem_filter.1 he'l).1
          obtain ⟨a, ha⟩ := List.getElem?_of_mem he'e
          obtain ⟨b, hb⟩ := List.getElem?_of_mem hee
          have hkeys : (est.toList.map (·.key)) = t.map fun k => Value.int .i64 k := by
            have := congrArg (List.map Prod.fst) hst.ents
            simp only [List.map_map, Function.comp_def, encS] at this
            exact this
          have hta : t[a]? = some y := by
            have := congrArg (fun l => l[a]?) hkeys
            simp only [List.getElem?_map, ha, Option.map_some, hke] at this
            cases hx : t[a]? with
            | none => rw [hx] at this; cases this
            | some z => rw [hx] at this; simp at this; rw [this]
          have htb : t[b]? = some y := by
            have := congrArg (fun l => l[b]?) hkeys
            simp only [List.getElem?_map, hb, Option.map_some, hek] at this
            cases hx : t[b]? with
            | none => rw [hx] at this; cases this
            | some z => rw [hx] at this; simp at this; rw [this]
          have hab := (List.getElem?_inj (List.getElem?_eq_some_iff.1 hta).1 hst.nodup).1 (hta.trans htb.symm)
          subst hab
          rw [ha] at hb; cases hb
          have hno := (List.mem_filter.1 he').2
          simp at hno
      · rintro (h | ⟨h3, h4⟩)
        · exact .inl (.inl h)
        · by_cases hyk : y = k
          · exact .inr hyk
          · refine .inl (.inr ⟨h3, fun e' he' hke => ?_⟩)
            rcases (p2 e').1 he' with rfl | h5
            · rw [hek] at hke; cases hke; exact hyk rfl
            · exact h4 e' h5 hke
    · simp only [ev0, ev, evV, List.cons_append, List.nil_append, List.getD_cons_zero, List.getD_cons_succ, List.map_cons, List.map_nil, iOf, bOf, sOf, pOf, slLen, slBase, cmpI, arI, Value.ite_bool, int_beq, int_bne, ite_band, ite_bor] at g
      subst g
      rcases hcase with ⟨_, hnil, h2⟩ | ⟨h, _⟩
      · refine ⟨es1, clock1, s1, rfl, h2.tail, hs1, fun y => ?_⟩
        rw [hm1, hnil]
        simp
      · cases h
  · refine den_next (i := i) (r := rt) (es := est) (clock := clt) (seen := seen) (m := encS t) (by kernel_rfl) (h1.blk (List.mem_cons_self ..)) (h1.sh _ _ hrt) hst (fun e he => ?_) (fun hnil => ?_) fun e he => ?_
    · obtain ⟨k, hk, hek, hev⟩ := hst.entry he
      rw [hek, hev]; exact ⟨rfl, rfl⟩
    · exact ⟨_, lookup_hit, false, rfl, .inl ⟨rfl, hnil, h1⟩⟩
    · exact ⟨_, lookup_hit, true, rfl, .inr ⟨rfl, e, he, h1.put _⟩⟩
end Go.Proofs.Ytlbbmcpppfiplaa.Vc
/-
  LIVE: a row of numbers sorted; what is in a set, rising.
-/
namespace Go.Proofs.Ytlbbmcpppfiplaa.Vc
open Go

theorem ints_row {S : PH} : ∀ {l : List Int} {xs : List Value}, PV.RepRow S (l.flatMap pv) xs → xs = l.map (Value.int .i64) ∧ ∀ x ∈ l, InI x
  | [], xs, h => by simp only [List.flatMap_nil, PV.RepRow] at h; subst h; exact ⟨rfl, fun x hx => by cases hx⟩
  | a :: l, xs, h => by
    have h' : PV.RepRow S (.int .i64 a :: l.flatMap pv) xs := h
    rw [PV.RepRow] at h'
    obtain ⟨v, vs, rfl, h1, h2⟩ := h'
    obtain ⟨rfl, hi⟩ := repI_iff.1 h1
    obtain ⟨rfl, h3⟩ := ints_row h2
    exact ⟨rfl, fun x hx => (List.mem_cons.1 hx).elim (fun e => e ▸ hi) (h3 x)⟩
theorem ints_row_mk {S : PH} : ∀ {l : List Int}, (∀ x ∈ l, InI x) → PV.RepRow S (l.flatMap pv) (l.map (Value.int .i64))
  | [], _ => by simp [PV.RepRow]
  | a :: l, h => by
    show PV.RepRow S (.int .i64 a :: l.flatMap pv) _
    rw [PV.RepRow]
    exact ⟨_, _, rfl, repI_iff.2 ⟨rfl, h a (List.mem_cons_self ..)⟩, ints_row_mk fun x hx => h x (List.mem_cons_of_mem _ hx)⟩
abbrev sortI (l : List Int) : List Int := l.mergeSort fun x y => decide (x ≤ y)
theorem sortI_mem (l : List Int) (x : Int) : x ∈ sortI l ↔ x ∈ l := List.mem_mergeSort
theorem sortI_rises {l : List Int} (h : l.Nodup) : (sortI l).Pairwise (· < ·) := by
  have h1 : (sortI l).Pairwise fun x y => decide (x ≤ y) = true := List.pairwise_mergeSort (fun a b c h1 h2 => by simp at *; omega) (fun a b => by simp; omega) l
  have h2 : (sortI l).Nodup := (List.mergeSort_perm l _).nodup_iff.2 h
  exact (h1.and h2).imp fun {a b} ⟨h3, h4⟩ => by simp at h3; omega
theorem adv_grow {K : PH} {w : World} (hv : Vis K w) (os : Array Obj) : Adv K w K (Sort.grow w os) := by
  refine ⟨by simp [Sort.grow], fun k o hk => ?_, fun k hk hn => ⟨?_, hn⟩, rfl, rfl, rfl⟩
  · show (w.heap ++ os)[k]? = some o
    rw [Array.getElem?_append_left (hv.lt hk)]; exact hv k o hk
  · show (w.heap ++ os)[k]? = w.heap[k]?
    rw [Array.getElem?_append_left hk]
theorem putCells_take {l : List Int} {cur : Array Value} (h : l.length ≤ cur.size) : (Sort.putCells (Value.int .i64) 0 l.toArray cur).toList.take l.length = l.map (Value.int .i64) := by
  refine List.ext_getElem? fun i => ?_
  rw [List.getElem?_take, List.getElem?_map]
  by_cases hi : i < l.length
  · rw [if_pos hi, Array.getElem?_toList]
    unfold Sort.putCells
    rw [Array.getElem?_mapIdx]
    have hc : i < cur.size := by omega
    simp [hc, hi]
  · rw [if_neg hi, List.getElem?_eq_none (by omega)]; rfl
theorem Sort51_tri (l : List Int) (v : Value) (S K : PH) (I : List Itm) (h : Held S K (orow 3 l v :: I)) (hl : l.length ≤ 4000000) :
    Tri Try.prog 51 #[v] K fun x K' => x = .returned (.tuple #[]) ∧ Held S K' (orow 3 (sortI l) v :: I) := by
  intro w hv
  have hr := h.row (List.mem_cons_self ..)
  obtain ⟨xs, ho, hrow⟩ := hr.own
  obtain ⟨rfl, hin⟩ := ints_row hrow
  rcases ho.2 with ⟨rfl, hn⟩ | ⟨g, cap, cur, rfl, hg, h2, h3, h4, h5⟩
  · have : l = [] := List.length_eq_zero_iff.1 hn
    subst this
    refine (Try.slices_Sort_int_none none 0 w).mono ?_
    rintro e w' ⟨rfl, rfl⟩
    exact ⟨K, .refl hv, rfl, by simpa [sortI] using h⟩
  · have hsz : sz Int = 1 := rfl
    rw [hsz, Nat.mul_one] at h4 h5
    have hw := hv _ _ hg
    have hcur : ∀ j, j < l.length → cur[j]? = some (.int .i64 (l[j]!)) := fun j hj => by
      have := congrArg (fun x => x[j]?) h5
      simp only [List.getElem?_take, if_pos hj, List.getElem?_map, Array.getElem?_toList] at this
      rw [this, List.getElem?_eq_getElem hj]
      simp [hj]
    have hH : Sort.Holds (Value.int .i64) w g 0 l.toArray := by
      intro j hj
      simp only [List.size_toArray] at hj
      refine ⟨?_, ?_⟩
      · unfold World.cell?
        simp only [hw, Nat.zero_add]
        simpa using hcur j hj
      · unfold World.frozen?
        simp [hw]
    refine (Try.slices_Sort_int g 0 cap l w hH (hv.lt hg) (by omega)).mono ?_
    rintro e w' ⟨rfl, n, os, rfl⟩
    obtain ⟨cur', hcur'⟩ : ∃ c, c = Sort.putCells (Value.int .i64) 0 (sortI l).toArray cur := ⟨_, rfl⟩
    have hadv : Adv K w (K.upd g (.cells cur' 3 (0, 0))) (Sort.putRow (Value.int .i64) (Sort.ahead w n) g 0 (sortI l).toArray) := by
      refine Adv.put (w' := Sort.putRow (Value.int .i64) (Sort.ahead w n) g 0 (sortI l).toArray) hv hg ?_ ?_ rfl rfl rfl
      · simp [Sort.putRow, Sort.mapBlock, Sort.ahead]
      · intro k
        show (w.heap.modify g _)[k]? = _
        rw [Array.getElem?_modify]
        by_cases e : k = g
        · subst e; rw [if_pos rfl, if_pos rfl, hw, hcur']; rfl
        · rw [if_neg e, if_neg (Ne.symm e)]
    refine ⟨_, hadv.trans (adv_grow hadv.vis os), rfl, ?_⟩
    have hSg : S g = none := hr.off g rfl
    have hlen : (sortI l).length = l.length := List.length_mergeSort l
    have hle : PH.le S (K.upd g (.cells cur' 3 (0, 0))) := fun k o hk => by
      rw [PH.upd_other (fun e => by rw [e, hSg] at hk; cases hk)]; exact h.sh k o hk
    refine h.went ⟨hr.off, (sortI l).map (Value.int .i64), ⟨by rw [List.length_map, hsz, Nat.mul_one], .inr ⟨g, cap, cur', by rw [hlen], PH.upd_same, by rw [hlen]; exact h2, h3, ?_, ?_⟩⟩, ints_row_mk fun x hx => hin x ((sortI_mem l x).1 hx)⟩ hle ⟨fun k o hk hn => ?_, fun k hk => .inl hk⟩
    · rw [hcur', hsz, Nat.mul_one, ← h4]; simp [Sort.putCells]
    · rw [hcur', hsz, Nat.mul_one]
      exact putCells_take (by rw [hlen]; omega)
    · rw [PH.upd_other (fun e => hn (by rw [e]; rfl))]; exact hk
end Go.Proofs.Ytlbbmcpppfiplaa.Vc
/-
  LIVE: what is in a set, rising.
-/
namespace Go.Proofs.Ytlbbmcpppfiplaa.Vc
open Go

theorem left_keys {est : Array MapEntry} {clt : Nat} {t : List Int} (hst : SetAt est clt t) {seen : Array Nat} {e : MapEntry} (he : e ∈ leftM est seen) {k : Int} (hk : k ∈ t) (hek : e.key = .int .i64 k) (y : Int) :
    (y ∈ t ∧ ∀ e' ∈ leftM est (seen.push e.born), e'.key ≠ .int .i64 y) ↔ ((y ∈ t ∧ ∀ e' ∈ leftM est seen, e'.key ≠ .int .i64 y) ∨ y = k) := by
  have hee : e ∈ est.toList := (List.mem_filter.1 he).1
  obtain ⟨p1, p2⟩ := left_push hst he
  constructor
  · rintro ⟨h3, h4⟩
    by_cases hyk : y = k
    · exact .inr hyk
    · refine .inl ⟨h3, fun e' he' hke => ?_⟩
      rcases (p2 e').1 he' with rfl | h5
      · rw [hek] at hke; cases hke; exact hyk rfl
      · exact h4 e' h5 hke
  · rintro (⟨h3, h4⟩ | rfl)
    · exact ⟨h3, fun e' he' => h4 e' ((p2 e').2 (.inr he'))⟩
    · refine ⟨hk, fun e' he' hke => ?_⟩
      have he'l : e' ∈ leftM est seen := (p2 e').2 (.inr he')
      have he'e : e' ∈ est.toList := (List.mem_filter.1 he'l).1
      obtain ⟨a, ha⟩ := List.getElem?_of_mem he'e
      obtain ⟨b, hb⟩ := List.getElem?_of_mem hee
      have hkeys : (est.toList.map (·.key)) = t.map fun k => Value.int .i64 k := by
        have := congrArg (List.map Prod.fst) hst.ents
        simp only [List.map_map, Function.comp_def, encS] at this
        exact this
      have hta : t[a]? = some y := by
        have := congrArg (fun l => l[a]?) hkeys
        simp only [List.getElem?_map, ha, Option.map_some, hke] at this
        cases hx : t[a]? with
        | none => rw [hx] at this; cases this
        | some z => rw [hx] at this; simp at this; rw [this]
      have htb : t[b]? = some y := by
        have := congrArg (fun l => l[b]?) hkeys
        simp only [List.getElem?_map, hb, Option.map_some, hek] at this
        cases hx : t[b]? with
        | none => rw [hx] at this; cases this
        | some z => rw [hx] at this; simp at this; rw [this]
      have hab := (List.getElem?_inj (List.getElem?_eq_some_iff.1 hta).1 hst.nodup).1 (hta.trans htb.symm)
      subst hab
      rw [ha] at hb; cases hb
      have hno := (List.mem_filter.1 he').2
      simp at hno
set_option maxHeartbeats 1000000 in
theorem rising_tri (r : Nat) (es : Array MapEntry) (clock : Nat) (s : List Int) (S K : PH) (I : List Itm) (h : Held S K I) (hr : S r = some (.map es clock) ∨ Itm.blk r (.map es clock) ∈ I) (hs : SetAt es clock s) (hi : ∀ x ∈ s, InI x) (hl : s.length ≤ 4000000) :
    Tri Try.prog n_live_set_int___rising #[.map (some r)] K fun x K' => ∃ S' v, PH.le S S' ∧ x = .returned v ∧ SlR S' (sortI s) v ∧ Held S' K' I := by
  have hrd : ∀ {S' K' : PH} {J : List Itm}, PH.le S S' → Held S' K' (J ++ I) → K' r = some (.map es clock) := fun hS h' => hr.elim (fun h1 => h'.sh _ _ (hS _ _ h1)) fun h1 => h'.blk (List.mem_append_right _ h1)
  refine tri_live_set_int___rising [.map (some r)] (by kernel_rfl) (by kernel_rfl) ?_
  refine den_range (r := r) (es := es) (clock := clock) uSetK (by kernel_rfl) (hrd (J := []) (PH.le_refl S) h) (fun _ _ => pendNil) fun i hin => ?_
  have h0 := (Held.empty (α := Int) (h.new hin (.mapIter (some r) clock #[] clock)) 3).perm (List.Perm.swap _ _ _)
  have hl0 : leftM es #[] = es.toList := by unfold leftM; simp
  have hlen : es.toList.length = s.length := by have := hs.len; simpa [encS] using this
  refine ⟨fun n vs K' => ∃ (seen : Array Nat) (out : List Int) (v : Value) (S' : PH), vs = [v] ∧ n = (leftM es seen).length ∧ PH.le S S' ∧ Held S' K' (.blk i (.mapIter (some r) clock seen clock) :: orow 3 out v :: I) ∧ out.Nodup ∧ (∀ y, y ∈ out ↔ (y ∈ s ∧ ∀ e ∈ leftM es seen, e.key ≠ .int .i64 y)) ∧ out.length + (leftM es seen).length ≤ s.length,
    ⟨_, #[], [], .slice none 0 0, S, rfl, rfl, PH.le_refl S, h0, List.nodup_nil, fun y => ?_, by rw [hl0, hlen]; simp⟩, ?_⟩
  · simp only [List.not_mem_nil, false_iff, not_and]
    intro hy hno
    obtain ⟨e, he, hk⟩ := hs.has hy
    exact hno e (by rw [hl0]; exact he) hk
  rintro n vs K1 _ ⟨seen, out, v, S1, rfl, rfl, l1, h1, hnd, hm1, hln⟩
  refine ⟨fun vs K' => ∃ b : Bool, vs = [.bool b] ∧ ((b = false ∧ leftM es seen = [] ∧ Held S1 K' (.blk i (.mapIter (some r) clock seen clock) :: orow 3 out v :: I)) ∨ (b = true ∧ ∃ e ∈ leftM es seen, Held S1 K' (.blk i (.mapIter (some r) clock (seen.push e.born) clock) :: orow 3 out v :: I))), ?_, ?_⟩
  · rintro vs K2 _ ⟨b, rfl, hcase⟩
    refine ⟨fun g => ?_, fun g => ?_⟩
    · simp only [ev0, ev, evV, List.cons_append, List.nil_append, List.getD_cons_zero, List.getD_cons_succ, List.map_cons, List.map_nil, iOf, bOf, sOf, pOf, slLen, slBase, cmpI, arI, Value.ite_bool, int_beq, int_bne, ite_band, ite_bor] at g
      subst g
      rcases hcase with ⟨h, _⟩ | ⟨_, e, he, h2⟩
      · cases h
      have hee : e ∈ es.toList := (List.mem_filter.1 he).1
      obtain ⟨k, hk, hek, hev⟩ := hs.entry hee
      refine den_entry (i := i) (r := r) (es := es) (clock := clock) (seen := seen) (m := encS s) (e := e) (by kernel_rfl) (h2.blk (List.mem_cons_self ..)) (hrd (J := [_, _]) l1 h2) hs hee (by rw [hek, hev]; exact ⟨rfl, rfl⟩) ?_
      rw [hek, hev]
      obtain ⟨p1, p2⟩ := left_push hs he
      have hkn : k ∉ out := fun hko => ((hm1 k).1 hko).2 e he hek
      refine den_hPush (more := [k]) (b := 8) [.int .i64 k] uIntsK elemIntK rfl (by decide) (by decide) (h2.perm (List.Perm.swap _ _ _)) (by kernel_rfl) (.cons (csIK_mk (hi k hk)) .nil) pendNil (fun _ => by kernel_rfl) (fun _ => by kernel_rfl)
        (by simp only [maxLen, List.length_cons, List.length_nil]; omega) (by simp only [List.length_cons, List.length_nil]; omega) fun u v' S4 K4 l4 h4 => ⟨pendNil, _, lookup_hit, _, p1, seen.push e.born, out ++ [k], v', S4, rfl, rfl, PH.le_trans l1 l4, h4.perm (List.Perm.swap _ _ _), ?_, fun y => ?_, ?_⟩
      · rw [List.nodup_append]
        exact ⟨hnd, by simp, fun a ha b hb => by simp at hb; subst hb; exact fun e => hkn (e ▸ ha)⟩
      · rw [List.mem_append, hm1, left_keys hs he hk hek y]
        simp
      · simp only [List.length_append, List.length_cons, List.length_nil]; omega
    · simp only [ev0, ev, evV, List.cons_append, List.nil_append, List.getD_cons_zero, List.getD_cons_succ, List.map_cons, List.map_nil, iOf, bOf, sOf, pOf, slLen, slBase, cmpI, arI, Value.ite_bool, int_beq, int_bne, ite_band, ite_bor] at g
      subst g
      rcases hcase with ⟨_, hnil, h2⟩ | ⟨h, _⟩
      · refine den_call (by kernel_rfl) (Sort51_tri out v S1 K2 I h2.tail (by omega)) ?_
        rintro x K3 ⟨rfl, h3⟩
        refine ⟨_, [], rfl, rfl, rfl, pendNil, ?_⟩
        have heq : sortI out = sortI s := by
          refine rises_eq (sortI_rises hnd) (sortI_rises hs.nodup) fun x => ?_
          rw [sortI_mem, sortI_mem, hm1, hnil]
          simp
        rw [heq] at h3
        obtain ⟨S5, s5, l5, h5⟩ := h3.freeze
        exact ⟨S5, v, PH.le_trans l1 l5, rfl, s5, h5⟩
      · cases h
  · refine den_next (i := i) (r := r) (es := es) (clock := clock) (seen := seen) (m := encS s) (by kernel_rfl) (h1.blk (List.mem_cons_self ..)) (hrd (J := [_, _]) l1 h1) hs (fun e he => ?_) (fun hnil => ?_) fun e he => ?_
    · obtain ⟨k, hk, hek, hev⟩ := hs.entry he
      rw [hek, hev]; exact ⟨rfl, rfl⟩
    · exact ⟨_, lookup_hit, false, rfl, .inl ⟨rfl, hnil, h1⟩⟩
    · exact ⟨_, lookup_hit, true, rfl, .inr ⟨rfl, e, he, h1.put _⟩⟩
end Go.Proofs.Ytlbbmcpppfiplaa.Vc
/-
  LIVE: the program's small functions.
-/
namespace Go.Proofs.Ytlbbmcpppfiplaa.Vc
open Go

theorem calls_gives (e : EndX) (av : Value) (H : PH) (ha : SlR H e.args av) : Gives Try.prog n_live_calls [.agg (endVs e av).toArray] H (.bool e.calls) := by
  obtain ⟨b, c, rfl⟩ := ha.sl
  refine tri_live_calls (endVs e (.slice b e.args.length c)) (by kernel_rfl) (by kernel_rfl) ?_
  refine ⟨?_, PH.le_refl _⟩
  simp only [endVs, ev0, ev, evV, List.cons_append, List.nil_append, List.getD_cons_zero, List.getD_cons_succ, List.map_cons, List.map_nil, iOf, bOf, sOf, pOf, slLen, slBase, cmpI, arI, Value.ite_bool, int_beq, int_bne, ite_band, ite_bor, EndX.calls]
  congr 2
  by_cases h4 : e.kind = 4 <;> by_cases h6 : e.kind = 6 <;> simp [h4, h6]
theorem leads_tri (e : EndX) (av : Value) (S : PH) (ha : SlR S e.args av) (hn : InI e.next) (he : InI e.els) :
    Tri Try.prog n_live_leads #[.agg (endVs e av).toArray] S fun x S' => PH.le S S' ∧ ∃ v, x = .returned v ∧ SlR S' e.ways v := by
  obtain ⟨b, c, rfl⟩ := ha.sl
  refine tri_live_leads (endVs e (.slice b e.args.length c)) (by kernel_rfl) (by kernel_rfl) ?_
  simp only [endVs]
  refine ⟨fun vs H' => vs = [.bool (decide (e.kind = 0 ∨ e.kind = 4 ∨ e.kind = 6))] ∧ H' = S, ?_, fun g => ?_, fun g => ?_⟩
  · rintro vs H' _ ⟨rfl, rfl⟩
    refine ⟨fun g => ?_, fun g => ⟨fun g2 => ?_, fun g2 => ?_⟩⟩
    · simp only [ev0, ev, evV, List.cons_append, List.nil_append, List.getD_cons_zero, List.getD_cons_succ, List.map_cons, List.map_nil, iOf, bOf, sOf, pOf, slLen, slBase, cmpI, arI, Value.ite_bool, int_beq, int_bne, ite_band, ite_bor, decide_eq_true_eq] at g
      have hw : e.ways = [e.next] := by
        unfold EndX.ways
        rw [if_pos (by omega), if_neg (by omega)]; rfl
      rw [hw]
      refine den_hLit (α := Int) (l := [e.next]) (b := 8) [.int .i64 e.next] uIntsK elemIntK rfl (by decide) (by decide) (Held.nil (PH.le_refl H')) (by kernel_rfl) (.cons (csIK_mk hn) .nil) pendNil fun v K2 h2 _ _ => ?_
      obtain ⟨S3, s3, l3, h3⟩ := h2.freeze
      exact ⟨PH.le_trans l3 h3.sh, v, rfl, s3.le h3.sh⟩
    · simp only [ev0, ev, evV, List.cons_append, List.nil_append, List.getD_cons_zero, List.getD_cons_succ, List.map_cons, List.map_nil, iOf, bOf, sOf, pOf, slLen, slBase, cmpI, arI, Value.ite_bool, int_beq, int_bne, ite_band, ite_bor, decide_eq_true_eq] at g2
      have hw : e.ways = [e.next, e.els] := by
        unfold EndX.ways
        rw [if_pos (by omega), if_pos (by omega)]; rfl
      rw [hw]
      refine den_hLit (α := Int) (l := [e.next, e.els]) (b := 8) [.int .i64 e.next, .int .i64 e.els] uIntsK elemIntK rfl (by decide) (by decide) (Held.nil (PH.le_refl H')) (by kernel_rfl) (.cons (csIK_mk hn) (.cons (csIK_mk he) .nil)) pendNil fun v K2 h2 _ _ => ?_
      obtain ⟨S3, s3, l3, h3⟩ := h2.freeze
      exact ⟨PH.le_trans l3 h3.sh, v, rfl, s3.le h3.sh⟩
    · simp only [ev0, ev, evV, List.cons_append, List.nil_append, List.getD_cons_zero, List.getD_cons_succ, List.map_cons, List.map_nil, iOf, bOf, sOf, pOf, slLen, slBase, cmpI, arI, Value.ite_bool, int_beq, int_bne, ite_band, ite_bor, decide_eq_false_iff_not] at g g2
      have hw : e.ways = [] := by
        unfold EndX.ways
        rw [if_neg (by omega), if_neg (by omega)]; rfl
      rw [hw]
      exact ⟨PH.le_refl _, _, rfl, nil_slR _⟩
  · simp only [ev0, ev, evV, List.cons_append, List.nil_append, List.getD_cons_zero, List.getD_cons_succ, List.map_cons, List.map_nil, iOf, bOf, sOf, pOf, slLen, slBase, cmpI, arI, Value.ite_bool, int_beq, int_bne, ite_band, ite_bor, decide_eq_true_eq] at g
    refine ⟨_, lookup_hit, ?_, rfl⟩
    simp [ev0, ev, evV, List.cons_append, List.nil_append, List.getD_cons_zero, List.getD_cons_succ, List.map_cons, List.map_nil, iOf, bOf, sOf, pOf, slLen, slBase, cmpI, arI, Value.ite_bool, int_beq, int_bne, ite_band, ite_bor, g]
  · simp only [ev0, ev, evV, List.cons_append, List.nil_append, List.getD_cons_zero, List.getD_cons_succ, List.map_cons, List.map_nil, iOf, bOf, sOf, pOf, slLen, slBase, cmpI, arI, Value.ite_bool, int_beq, int_bne, ite_band, ite_bor, decide_eq_false_iff_not] at g
    refine ⟨_, lookup_hit, ?_, rfl⟩
    by_cases h4 : e.kind = 4 <;> by_cases h6 : e.kind = 6 <;> simp [ev0, ev, evV, List.cons_append, List.nil_append, List.getD_cons_zero, List.getD_cons_succ, List.map_cons, List.map_nil, iOf, bOf, sOf, pOf, slLen, slBase, cmpI, arI, Value.ite_bool, int_beq, int_bne, ite_band, ite_bor, g, h4, h6]
def EndX.rds (e : EndX) : List Int := if e.kind = 1 ∨ e.kind = 2 ∨ e.kind = 5 ∨ e.kind = 6 then [e.reg] else if e.kind = 3 ∨ e.kind = 4 then e.reg :: e.args else []
theorem rds_mem (e : EndX) (r : Int) : r ∈ e.rds ↔ e.reads r = true := by
  unfold EndX.rds EndX.reads
  split
  · simp; exact ⟨fun h => h.symm, fun h => h.symm⟩
  · split
    · simp only [List.mem_cons, Bool.or_eq_true, decide_eq_true_eq]
      exact ⟨fun h => h.imp (fun h => h.symm) id, fun h => h.imp (fun h => h.symm) id⟩
    · simp
theorem reads_tri (e : EndX) (av : Value) (S : PH) (ha : SlR S e.args av) (hr : InI e.reg) (hl : e.args.length ≤ 4000000) :
    Tri Try.prog n_live_reads #[.agg (endVs e av).toArray] S fun x S' => PH.le S S' ∧ ∃ v, x = .returned v ∧ SlR S' e.rds v := by
  obtain ⟨b, c, rfl⟩ := ha.sl
  refine tri_live_reads (endVs e (.slice b e.args.length c)) (by kernel_rfl) (by kernel_rfl) ?_
  simp only [endVs]
  refine ⟨fun vs H' => vs = [.bool (decide (e.kind = 1 ∨ e.kind = 2 ∨ e.kind = 5 ∨ e.kind = 6))] ∧ H' = S, ?_, fun g => ?_, fun g => ⟨fun g2 => ?_, fun g2 => ?_⟩⟩
  · rintro vs H' _ ⟨rfl, rfl⟩
    refine ⟨fun g => ?_, fun g => ⟨fun g2 => ?_, fun g2 => ?_⟩⟩
    · simp only [ev0, ev, evV, List.cons_append, List.nil_append, List.getD_cons_zero, List.getD_cons_succ, List.map_cons, List.map_nil, iOf, bOf, sOf, pOf, slLen, slBase, cmpI, arI, Value.ite_bool, int_beq, int_bne, ite_band, ite_bor, decide_eq_true_eq] at g
      have hw : e.rds = [e.reg] := by unfold EndX.rds; rw [if_pos g]
      rw [hw]
      refine den_hLit (α := Int) (l := [e.reg]) (b := 8) [.int .i64 e.reg] uIntsK elemIntK rfl (by decide) (by decide) (Held.nil (PH.le_refl H')) (by kernel_rfl) (.cons (csIK_mk hr) .nil) pendNil fun v K2 h2 _ _ => ?_
      obtain ⟨S3, s3, l3, h3⟩ := h2.freeze
      exact ⟨PH.le_trans l3 h3.sh, v, rfl, s3.le h3.sh⟩
    · simp only [ev0, ev, evV, List.cons_append, List.nil_append, List.getD_cons_zero, List.getD_cons_succ, List.map_cons, List.map_nil, iOf, bOf, sOf, pOf, slLen, slBase, cmpI, arI, Value.ite_bool, int_beq, int_bne, ite_band, ite_bor, decide_eq_false_iff_not] at g
      have hk : e.kind = 3 ∨ e.kind = 4 := by
        by_cases h3 : e.kind = 3
        · exact .inl h3
        · by_cases h4 : e.kind = 4
          · exact .inr h4
          · simp [ev0, ev, evV, List.cons_append, List.nil_append, List.getD_cons_zero, List.getD_cons_succ, List.map_cons, List.map_nil, iOf, bOf, sOf, pOf, slLen, slBase, cmpI, arI, Value.ite_bool, int_beq, int_bne, ite_band, ite_bor, h3, h4] at g2
      have hw : e.rds = [e.reg] ++ e.args := by unfold EndX.rds; rw [if_neg g, if_pos hk]; rfl
      rw [hw]
      refine den_hLit (α := Int) (l := [e.reg]) (b := 8) [.int .i64 e.reg] uIntsK elemIntK rfl (by decide) (by decide) (Held.nil (PH.le_refl H')) (by kernel_rfl) (.cons (csIK_mk hr) .nil) pendNil fun v K2 h2 _ _ => ?_
      refine den_hApp (b := 8) (more := e.args) uIntsK elemIntK (by kernel_rfl) (by kernel_rfl) h2 (ha.srcS h2.sh) (by simp only [maxLen, List.length_cons, List.length_nil]; omega) (by simp only [List.length_cons, List.length_nil]; omega) fun v3 K3 h3 _ => ⟨pendNil, ?_⟩
      obtain ⟨S4, s4, l4, h4⟩ := h3.freeze
      exact ⟨PH.le_trans l4 h4.sh, v3, rfl, s4.le h4.sh⟩
    · simp only [ev0, ev, evV, List.cons_append, List.nil_append, List.getD_cons_zero, List.getD_cons_succ, List.map_cons, List.map_nil, iOf, bOf, sOf, pOf, slLen, slBase, cmpI, arI, Value.ite_bool, int_beq, int_bne, ite_band, ite_bor, decide_eq_false_iff_not] at g
      have hk : ¬ (e.kind = 3 ∨ e.kind = 4) := by
        rintro (h3 | h3) <;> simp [ev0, ev, evV, List.cons_append, List.nil_append, List.getD_cons_zero, List.getD_cons_succ, List.map_cons, List.map_nil, iOf, bOf, sOf, pOf, slLen, slBase, cmpI, arI, Value.ite_bool, int_beq, int_bne, ite_band, ite_bor, h3] at g2
      have hw : e.rds = [] := by unfold EndX.rds; rw [if_neg g, if_neg hk]
      rw [hw]
      exact ⟨PH.le_refl _, _, rfl, nil_slR _⟩
  · simp only [ev0, ev, evV, List.cons_append, List.nil_append, List.getD_cons_zero, List.getD_cons_succ, List.map_cons, List.map_nil, iOf, bOf, sOf, pOf, slLen, slBase, cmpI, arI, Value.ite_bool, int_beq, int_bne, ite_band, ite_bor, decide_eq_true_eq] at g
    refine ⟨_, lookup_hit, ?_, rfl⟩
    simp [ev0, ev, evV, List.cons_append, List.nil_append, List.getD_cons_zero, List.getD_cons_succ, List.map_cons, List.map_nil, iOf, bOf, sOf, pOf, slLen, slBase, cmpI, arI, Value.ite_bool, int_beq, int_bne, ite_band, ite_bor, g]
  · simp only [ev0, ev, evV, List.cons_append, List.nil_append, List.getD_cons_zero, List.getD_cons_succ, List.map_cons, List.map_nil, iOf, bOf, sOf, pOf, slLen, slBase, cmpI, arI, Value.ite_bool, int_beq, int_bne, ite_band, ite_bor, decide_eq_true_eq] at g2
    refine ⟨_, lookup_hit, ?_, rfl⟩
    simp [ev0, ev, evV, List.cons_append, List.nil_append, List.getD_cons_zero, List.getD_cons_succ, List.map_cons, List.map_nil, iOf, bOf, sOf, pOf, slLen, slBase, cmpI, arI, Value.ite_bool, int_beq, int_bne, ite_band, ite_bor, g2]
  · simp only [ev0, ev, evV, List.cons_append, List.nil_append, List.getD_cons_zero, List.getD_cons_succ, List.map_cons, List.map_nil, iOf, bOf, sOf, pOf, slLen, slBase, cmpI, arI, Value.ite_bool, int_beq, int_bne, ite_band, ite_bor, decide_eq_false_iff_not] at g g2
    refine ⟨_, lookup_hit, ?_, rfl⟩
    by_cases h5 : e.kind = 5 <;> by_cases h6 : e.kind = 6 <;> simp [ev0, ev, evV, List.cons_append, List.nil_append, List.getD_cons_zero, List.getD_cons_succ, List.map_cons, List.map_nil, iOf, bOf, sOf, pOf, slLen, slBase, cmpI, arI, Value.ite_bool, int_beq, int_bne, ite_band, ite_bor, g, g2, h5, h6]
theorem through_tri (r : Nat) (es : Array MapEntry) (clock : Nat) (s : List Int) (x : InsX) (cs : List Value) (S K : PH) (hx : CsR S x cs) (h : Held S K [.blk r (.map es clock)]) (hs : SetAt es clock s) :
    Tri Try.prog n_live_through #[.map (some r), .agg cs.toArray] K fun e K' => ∃ es' clock' s', e = .returned (.tuple #[]) ∧ Held S K' [.blk r (.map es' clock')] ∧ SetAt es' clock' s' ∧ ∀ y, y ∈ s' ↔ (y ∈ x.args ∨ (¬ x.fills y ∧ y ∈ s)) := by
  obtain ⟨av, dv, rfl, y1, y2, ya, y4, y5, y6, yd, y8⟩ := ins_iff.1 hx
  obtain ⟨ab, ac, rfl⟩ := ya.sl
  obtain ⟨db, dc, rfl⟩ := yd.sl
  refine tri_live_through [.map (some r), txt x.op, .int .i64 x.to, .slice ab x.args.length ac, .int .i64 x.const.kind, .int .i64 x.const.int, txt x.const.text, .slice db x.const.list.length dc, .int .i64 x.num] (by kernel_rfl) (by kernel_rfl) ?_
  refine ⟨fun vs K' => vs = [] ∧ ∃ es' clock' s', Held S K' [.blk r (.map es' clock')] ∧ SetAt es' clock' s' ∧ ∀ y, y ∈ s' ↔ (¬ x.fills y ∧ y ∈ s), ?_, fun g => ?_, fun g => ?_⟩
  · rintro vs K2 _ ⟨rfl, es2, clock2, s2, h2, hs2, hm2⟩
    refine den_call cb_live_set_int___add (setAdd_tri r es2 clock2 s2 x.args _ S K2 ya h2 hs2) ?_
    rintro e K3 ⟨es3, clock3, s3, rfl, h3, hs3, hm3⟩
    refine ⟨_, [], rfl, rfl, rfl, pendNil, es3, clock3, s3, rfl, h3, hs3, fun y => ?_⟩
    rw [hm3, hm2]
    exact Or.comm
  · simp only [ev0, ev, evV, List.cons_append, List.nil_append, List.getD_cons_zero, List.getD_cons_succ, List.map_cons, List.map_nil, iOf, bOf, sOf, pOf, slLen, slBase, cmpI, arI, Value.ite_bool, int_beq, int_bne, ite_band, ite_bor, txt_neK] at g
    have hop : x.op ≠ tieB := by simpa using g
    refine den_call cb_live_set_int___drop (setDrop_tri r es clock s x.to S K h hs) ?_
    rintro e K3 ⟨es3, clock3, rfl, h3, hs3⟩
    refine ⟨_, [], rfl, rfl, rfl, pendNil, _, lookup_hit, rfl, es3, clock3, _, h3, hs3, fun y => ?_⟩
    rw [List.mem_filter]
    simp only [decide_eq_true_eq, InsX.fills]
    constructor
    · rintro ⟨h1, h2⟩; exact ⟨fun hf => h2 hf.2.symm, h1⟩
    · rintro ⟨h1, h2⟩; exact ⟨h2, fun e => h1 ⟨hop, e.symm⟩⟩
  · simp only [ev0, ev, evV, List.cons_append, List.nil_append, List.getD_cons_zero, List.getD_cons_succ, List.map_cons, List.map_nil, iOf, bOf, sOf, pOf, slLen, slBase, cmpI, arI, Value.ite_bool, int_beq, int_bne, ite_band, ite_bor, txt_neK] at g
    have hop : x.op = tieB := by simpa using g
    refine ⟨_, lookup_hit, rfl, es, clock, s, h, hs, fun y => ?_⟩
    exact ⟨fun hy => ⟨fun hf => hf.1 hop, hy⟩, fun hy => hy.2⟩
end Go.Proofs.Ytlbbmcpppfiplaa.Vc
/-
  LIVE: what is live ahead of a block's end, by the program.
-/
namespace Go.Proofs.Ytlbbmcpppfiplaa.Vc
open Go

/-- a flow in memory: the function, and the row of the sets -/
abbrev flowB (fb : Nat) (p : PrcX) (bv : Value) (inv : Value) : Itm := .blk fb (.cells [.int .i64 p.params, .int .i64 p.holds, .int .i64 p.regs, bv, inv].toArray 61 (0, 0))
abbrev inB (ib : Nat) (ims : List Value) : Itm := .blk ib (.cells ims.toArray 65 (0, 0))
theorem blk_row {K : PH} {b off : Nat} {cs : List Value} {e : TypeId} {f : Nat × Nat} (h : K b = some (.cells cs.toArray e f)) (n : Nat) : rowAt K (some ⟨b, off, none⟩) ((cs.drop off).take n) := by
  refine ⟨_, rfl, fun i v hi => ?_⟩
  rw [Addr.add_plain, PH.cell_at h]
  rw [List.getElem?_take] at hi
  split at hi
  · rw [List.getElem?_drop] at hi; simpa using hi
  · cases hi
theorem inB_row {K : PH} {ib n c : Nat} {ims : List Value} {e : TypeId} {f : Nat × Nat} {v : Value} (h : K ib = some (.cells ims.toArray e f)) (hv : ims[c]? = some v) : rowAt K (pOf (eltV (.slice (some ⟨ib, 0, none⟩) n n) (c : Int) 1)) [v] := by
  have h1 := blk_row (off := c) h 1
  have h2 : (ims.drop c).take 1 = [v] := by
    obtain ⟨hc, he⟩ := List.getElem?_eq_some_iff.1 hv
    rw [List.drop_eq_getElem_cons hc, he]; rfl
  rw [h2] at h1
  have : pOf (eltV (.slice (some ⟨ib, 0, none⟩) n n) (c : Int) 1) = some ⟨ib, c, none⟩ := by simp [eltV, pOf, slBase, Addr.add_plain]
  rw [this]; exact h1
/-- what the program takes to be live ahead of an end -/
def outS (p : PrcX) (sets : Nat → List Int) (b : BlkX) (y : Int) : Prop := b.e.reads y = true ∨ (¬ (b.e.calls = true ∧ b.e.to = y) ∧ ∃ c : Nat, (c : Int) ∈ b.e.leads p.blocks.length ∧ y ∈ sets c)
set_option maxHeartbeats 2000000 in
theorem out_tri (p : PrcX) (bv : Value) (fb ib : Nat) (ims : List Value) (sets : Nat → List Int) (i : Nat) (b : BlkX) (S K : PH) (hbv : SlR S p.blocks bv) (hb : p.blocks[i]? = some b) (hN : p.blocks.length ≤ 2000000) (hrl : b.e.args.length ≤ 4000000) (hil : ims.length = p.blocks.length) (him : ∀ c v, ims[c]? = some v → SetR S v (sets c))
    (h : Held S K [flowB fb p bv (.slice (some ⟨ib, 0, none⟩) p.blocks.length p.blocks.length), inB ib ims]) :
    Tri Try.prog n_live_flow__out #[.pointer (some ⟨fb, 0, none⟩), nI i] K fun x K' => ∃ S' ro es clock s, PH.le S S' ∧ x = .returned (.map (some ro)) ∧ Held S' K' [.blk ro (.map es clock), flowB fb p bv (.slice (some ⟨ib, 0, none⟩) p.blocks.length p.blocks.length), inB ib ims] ∧ SetAt es clock s ∧ ∀ y, y ∈ s ↔ outS p sets b y := by
  obtain ⟨b0, c0, rfl⟩ := hbv.sl
  have hi : i < p.blocks.length := (List.getElem?_eq_some_iff.1 hb).1
  refine tri_live_flow__out [.pointer (some ⟨fb, 0, none⟩), nI i] (by kernel_rfl) (by kernel_rfl) ?_
  have hfl : ∀ {S' K' : PH} {J : List Itm}, Held S' K' (J ++ [flowB fb p (.slice b0 p.blocks.length c0) (.slice (some ⟨ib, 0, none⟩) p.blocks.length p.blocks.length), inB ib ims]) → rowAt K' (some ⟨fb, 3, none⟩) [.slice b0 p.blocks.length c0] ∧ rowAt K' (some ⟨fb, 4, none⟩) [.slice (some ⟨ib, 0, none⟩) p.blocks.length p.blocks.length] ∧ K' ib = some (.cells ims.toArray 65 (0, 0)) := fun h' =>
    ⟨blk_row (h'.blk (List.mem_append_right _ (List.mem_cons_self ..))) 1, blk_row (h'.blk (List.mem_append_right _ (List.mem_cons_self ..))) 1, h'.blk (List.mem_append_right _ (List.mem_cons_of_mem _ (List.mem_cons_self ..)))⟩
  obtain ⟨q1, _, ces, q2, q3⟩ := hbv.get hb
  obtain ⟨iv, es0, rfl, his, hes⟩ := blk_iff.1 q2
  obtain ⟨av, rfl, e1, e2, hea, e3, e4, e5⟩ := end_iff.1 hes
  obtain ⟨b3, c3, rfl⟩ := hea.sl
  refine ⟨fun _ => rfl, [.slice b0 p.blocks.length c0], rfl, ?_, fun _ => ?_, [.int .i64 b.e.kind, .int .i64 b.e.reg, .slice b3 b.e.args.length c3, .int .i64 b.e.to, .int .i64 b.e.next, .int .i64 b.e.els], rfl, ?_, ?_⟩
  · exact (hfl (J := []) h).1
  · simp only [Chk.holds, ev0, ev, evV, List.cons_append, List.nil_append, List.getD_cons_zero, List.getD_cons_succ, List.map_cons, List.map_nil, iOf, bOf, sOf, pOf, slLen, slBase, cmpI, arI, Value.ite_bool, int_beq, int_bne, ite_band, ite_bor]; exact ⟨q1, by omega, by omega⟩
  · simp only [ev0, ev, evV, List.cons_append, List.nil_append, List.getD_cons_zero, List.getD_cons_succ, List.map_cons, List.map_nil, iOf, bOf, sOf, pOf, slLen, slBase, cmpI, arI, Value.ite_bool, int_beq, int_bne, ite_band, ite_bor]; exact rowAt_sub (rowAt_le h.sh q3) 1 6
  refine den_makeMap fun ro hro => ?_
  have h1 := h.new hro (.map #[] 0)
  refine den_call cb_live_leads (h1.pure (R := fun x S' => ∃ v, x = .returned v ∧ SlR S' b.e.ways v) (leads_tri b.e _ S hea e4 e5)) ?_
  rintro x K2 ⟨S2, l2, h2, lv, rfl, hlv⟩
  obtain ⟨b5, c5, rfl⟩ := hlv.sl
  refine ⟨_, [.slice b5 b.e.ways.length c5], rfl, rfl, rfl, pendNil, ?_⟩
  have hwl := ways_len b.e
  -- the sets of where it leads
  refine ⟨fun n vs K' => ∃ (k : Nat) (es : Array MapEntry) (clock : Nat) (s : List Int), vs = [nI k] ∧ k + n = b.e.ways.length ∧ Held S2 K' [.blk ro (.map es clock), flowB fb p (.slice b0 p.blocks.length c0) (.slice (some ⟨ib, 0, none⟩) p.blocks.length p.blocks.length), inB ib ims] ∧ SetAt es clock s ∧ ∀ y, y ∈ s ↔ ∃ c : Nat, (c : Int) ∈ b.e.ways.take k ∧ c < p.blocks.length ∧ y ∈ sets c,
    ⟨b.e.ways.length, 0, #[], 0, [], rfl, by omega, h2, setOk_nil, fun y => by simp⟩, ?_⟩
  rintro n vs K3 _ ⟨k, es, clock, s, rfl, hkn, h3, hs3, hm3⟩
  refine ⟨fun g => ?_, fun g => ?_⟩
  · simp only [ev0, ev, evV, List.cons_append, List.nil_append, List.getD_cons_zero, List.getD_cons_succ, List.map_cons, List.map_nil, iOf, bOf, sOf, pOf, slLen, slBase, cmpI, arI, Value.ite_bool, int_beq, int_bne, ite_band, ite_bor, decide_eq_true_eq] at g
    obtain ⟨a, ha⟩ : ∃ a, b.e.ways[k]? = some a := ⟨_, List.getElem?_eq_getElem (show k < b.e.ways.length by omega)⟩
    have hst : b.e.ways.take (k + 1) = b.e.ways.take k ++ [a] := by rw [List.take_add_one, ha]; rfl
    obtain ⟨w1, _, wes, w2, w3⟩ := (hlv.le h3.sh).get ha
    obtain ⟨rfl, hai⟩ := csIK w2
    obtain ⟨r1, r2, r3⟩ := hfl (J := [_]) h3
    refine ⟨fun vs K' => vs = [] ∧ ∃ (es' : Array MapEntry) (clock' : Nat) (s' : List Int), Held S2 K' [.blk ro (.map es' clock'), flowB fb p (.slice b0 p.blocks.length c0) (.slice (some ⟨ib, 0, none⟩) p.blocks.length p.blocks.length), inB ib ims] ∧ SetAt es' clock' s' ∧ ∀ y, y ∈ s' ↔ ∃ c : Nat, (c : Int) ∈ b.e.ways.take (k + 1) ∧ c < p.blocks.length ∧ y ∈ sets c, ?_, fun _ => ?_, [.int .i64 a], rfl, ?_, ?_⟩
    · rintro vs K4 _ ⟨rfl, es4, clock4, s4, h4, hs4, hm4⟩
      refine ⟨_, lookup_hit, n - 1, by omega, k + 1, es4, clock4, s4, ?_, by omega, h4, hs4, hm4⟩
      simp only [ev0, ev, evV, List.cons_append, List.nil_append, List.getD_cons_zero, List.getD_cons_succ, List.map_cons, List.map_nil, iOf, bOf, sOf, pOf, slLen, slBase, cmpI, arI, Value.ite_bool, int_beq, int_bne, ite_band, ite_bor]; rw [w64 (by omega) (by omega)]; rfl
    · simp only [Chk.holds, ev0, ev, evV, List.cons_append, List.nil_append, List.getD_cons_zero, List.getD_cons_succ, List.map_cons, List.map_nil, iOf, bOf, sOf, pOf, slLen, slBase, cmpI, arI, Value.ite_bool, int_beq, int_bne, ite_band, ite_bor]; exact ⟨w1, by omega, by omega⟩
    · simp only [ev0, ev, evV, List.cons_append, List.nil_append, List.getD_cons_zero, List.getD_cons_succ, List.map_cons, List.map_nil, iOf, bOf, sOf, pOf, slLen, slBase, cmpI, arI, Value.ite_bool, int_beq, int_bne, ite_band, ite_bor]; exact w3
    refine ⟨fun vs K' => vs = [.bool (decide (0 ≤ a ∧ a < (p.blocks.length : Int)))] ∧ K' = K3, ?_, fun g2 => ?_, fun g2 => ?_⟩
    · rintro vs K4 _ ⟨rfl, rfl⟩
      refine ⟨fun g2 => ?_, fun g2 => ?_⟩
      · simp only [ev0, ev, evV, List.cons_append, List.nil_append, List.getD_cons_zero, List.getD_cons_succ, List.map_cons, List.map_nil, iOf, bOf, sOf, pOf, slLen, slBase, cmpI, arI, Value.ite_bool, int_beq, int_bne, ite_band, ite_bor, decide_eq_true_eq] at g2
        obtain ⟨c, rfl⟩ : ∃ c : Nat, a = (c : Int) := ⟨a.toNat, by omega⟩
        have hcN : c < ims.length := by omega
        obtain ⟨mv, hmv⟩ : ∃ mv, ims[c]? = some mv := ⟨_, List.getElem?_eq_getElem hcN⟩
        have hset := (him c mv hmv).le l2
        have hset' := hset
        obtain ⟨rt, est, clt, rfl, _, _⟩ := hset'
        refine ⟨[.slice (some ⟨ib, 0, none⟩) p.blocks.length p.blocks.length], rfl, r2, fun _ => ?_, [.map (some rt)], rfl, ?_, ?_⟩
        · simp only [Chk.holds, ev0, ev, evV, List.cons_append, List.nil_append, List.getD_cons_zero, List.getD_cons_succ, List.map_cons, List.map_nil, iOf, bOf, sOf, pOf, slLen, slBase, cmpI, arI, Value.ite_bool, int_beq, int_bne, ite_band, ite_bor]; exact ⟨rfl, by omega, by omega⟩
        · simp only [ev0, ev, evV, List.cons_append, List.nil_append, List.getD_cons_zero, List.getD_cons_succ, List.map_cons, List.map_nil, iOf, bOf, sOf, pOf, slLen, slBase, cmpI, arI, Value.ite_bool, int_beq, int_bne, ite_band, ite_bor]; exact inB_row (n := p.blocks.length) r3 hmv
        refine den_call cb_live_set_int___join (Held.call (P := Try.prog) (f := n_live_set_int___join) (args := #[.map (some ro), .map (some rt)]) (J := [.blk ro (.map es clock)]) (I := [flowB fb p (.slice b0 p.blocks.length c0) (.slice (some ⟨ib, 0, none⟩) p.blocks.length p.blocks.length), inB ib ims])
          (R := fun x S' J' => S' = S2 ∧ ∃ es' clock' s', x = .returned (.tuple #[]) ∧ J' = [.blk ro (.map es' clock')] ∧ SetAt es' clock' s' ∧ ∀ y, y ∈ s' ↔ y ∈ s ∨ y ∈ sets c) h3
          (fun K' hK => (setJoin_tri ro es clock s (sets c) _ S2 K' hset hK hs3).mono fun x K'' ⟨es', clock', s', q1, q2, q3, q4⟩ => ⟨S2, _, PH.le_refl _, q2, rfl, es', clock', s', q1, rfl, q3, q4⟩)) ?_
        rintro x K5 ⟨S5, J5, _, h5, rfl, es5, clock5, s5, rfl, rfl, hs5, hm5⟩
        refine ⟨_, [], rfl, rfl, rfl, pendNil, _, lookup_hit, rfl, es5, clock5, s5, h5, hs5, fun y => ?_⟩
        rw [hm5, hm3, hst]
        constructor
        · rintro (⟨d, h1, h2, h3⟩ | h)
          · exact ⟨d, List.mem_append_left _ h1, h2, h3⟩
          · exact ⟨c, by simp, by omega, h⟩
        · rintro ⟨d, h1, h2, h3⟩
          rcases List.mem_append.1 h1 with h1 | h1
          · exact .inl ⟨d, h1, h2, h3⟩
          · have : d = c := by simp at h1; omega
            subst this; exact .inr h3
      · simp only [ev0, ev, evV, List.cons_append, List.nil_append, List.getD_cons_zero, List.getD_cons_succ, List.map_cons, List.map_nil, iOf, bOf, sOf, pOf, slLen, slBase, cmpI, arI, Value.ite_bool, int_beq, int_bne, ite_band, ite_bor, decide_eq_false_iff_not] at g2
        refine ⟨_, lookup_hit, rfl, es, clock, s, h3, hs3, fun y => ?_⟩
        rw [hm3, hst]
        constructor
        · rintro ⟨d, h1, h2, h3⟩; exact ⟨d, List.mem_append_left _ h1, h2, h3⟩
        · rintro ⟨d, h1, h2, h3⟩
          rcases List.mem_append.1 h1 with h1 | h1
          · exact ⟨d, h1, h2, h3⟩
          · exact absurd (by simp at h1; omega) g2
    · simp only [ev0, ev, evV, List.cons_append, List.nil_append, List.getD_cons_zero, List.getD_cons_succ, List.map_cons, List.map_nil, iOf, bOf, sOf, pOf, slLen, slBase, cmpI, arI, Value.ite_bool, int_beq, int_bne, ite_band, ite_bor, decide_eq_true_eq] at g2
      refine ⟨[.slice (some ⟨ib, 0, none⟩) p.blocks.length p.blocks.length], rfl, r2, _, lookup_hit, ?_, rfl⟩
      simp only [ev0, ev, evV, List.cons_append, List.nil_append, List.getD_cons_zero, List.getD_cons_succ, List.map_cons, List.map_nil, iOf, bOf, sOf, pOf, slLen, slBase, cmpI, arI, Value.ite_bool, int_beq, int_bne, ite_band, ite_bor]
      by_cases hc : a < (p.blocks.length : Int) <;> simp [hc] <;> omega
    · simp only [ev0, ev, evV, List.cons_append, List.nil_append, List.getD_cons_zero, List.getD_cons_succ, List.map_cons, List.map_nil, iOf, bOf, sOf, pOf, slLen, slBase, cmpI, arI, Value.ite_bool, int_beq, int_bne, ite_band, ite_bor, decide_eq_false_iff_not] at g2
      refine ⟨_, lookup_hit, ?_, rfl⟩
      simp only [ev0, ev, evV, List.cons_append, List.nil_append, List.getD_cons_zero, List.getD_cons_succ, List.map_cons, List.map_nil, iOf, bOf, sOf, pOf, slLen, slBase, cmpI, arI, Value.ite_bool, int_beq, int_bne, ite_band, ite_bor]
      rw [decide_eq_false (fun h => g2 (by omega))]
  · simp only [ev0, ev, evV, List.cons_append, List.nil_append, List.getD_cons_zero, List.getD_cons_succ, List.map_cons, List.map_nil, iOf, bOf, sOf, pOf, slLen, slBase, cmpI, arI, Value.ite_bool, int_beq, int_bne, ite_band, ite_bor, decide_eq_false_iff_not] at g
    rw [List.take_of_length_le (by omega)] at hm3
    have hea3 := hea.le l2
    refine ⟨fun vs K' => vs = [] ∧ ∃ (es' : Array MapEntry) (clock' : Nat) (s' : List Int), Held S2 K' [.blk ro (.map es' clock'), flowB fb p (.slice b0 p.blocks.length c0) (.slice (some ⟨ib, 0, none⟩) p.blocks.length p.blocks.length), inB ib ims] ∧ SetAt es' clock' s' ∧ ∀ y, y ∈ s' ↔ (¬ (b.e.calls = true ∧ b.e.to = y) ∧ y ∈ s), ?_, ?_⟩
    · rintro vs K4 _ ⟨rfl, es4, clock4, s4, h4, hs4, hm4⟩
      refine den_call cb_live_reads (h4.pure (R := fun x S' => ∃ v, x = .returned v ∧ SlR S' b.e.rds v) (reads_tri b.e _ S2 hea3 e2 hrl)) ?_
      rintro x K5 ⟨S5, l5, h5, rv, rfl, hrv⟩
      obtain ⟨b6, c6, rfl⟩ := hrv.sl
      refine ⟨_, [.slice b6 b.e.rds.length c6], rfl, rfl, rfl, pendNil, ?_⟩
      refine den_call cb_live_set_int___add (Held.call (P := Try.prog) (f := n_live_set_int___add) (args := #[.map (some ro), .slice b6 b.e.rds.length c6]) (J := [.blk ro (.map es4 clock4)]) (I := [flowB fb p (.slice b0 p.blocks.length c0) (.slice (some ⟨ib, 0, none⟩) p.blocks.length p.blocks.length), inB ib ims])
        (R := fun x S' J' => S' = S5 ∧ ∃ es' clock' s', x = .returned (.tuple #[]) ∧ J' = [.blk ro (.map es' clock')] ∧ SetAt es' clock' s' ∧ ∀ y, y ∈ s' ↔ y ∈ s4 ∨ y ∈ b.e.rds) h5
        (fun K' hK => (setAdd_tri ro es4 clock4 s4 b.e.rds _ S5 K' hrv hK hs4).mono fun x K'' ⟨es', clock', s', q1, q2, q3, q4⟩ => ⟨S5, _, PH.le_refl _, q2, rfl, es', clock', s', q1, rfl, q3, q4⟩)) ?_
      rintro x K6 ⟨S6, J6, _, h6, rfl, es6, clock6, s6, rfl, rfl, hs6, hm6⟩
      refine ⟨_, [], rfl, rfl, rfl, pendNil, S6, ro, es6, clock6, s6, PH.le_trans l2 l5, rfl, h6, hs6, fun y => ?_⟩
      rw [hm6, hm4, hm3, rds_mem]
      unfold outS
      constructor
      · rintro (⟨h1, c, h2, h3, h4⟩ | h)
        · exact .inr ⟨h1, c, List.mem_filter.2 ⟨h2, by simp; omega⟩, h4⟩
        · exact .inl h
      · rintro (h | ⟨h1, c, h2, h3⟩)
        · exact .inr h
        · obtain ⟨h4, h5⟩ := List.mem_filter.1 h2
          exact .inl ⟨h1, c, h4, by simp at h5; omega, h3⟩
    · refine den_gives [.bool b.e.calls] cb_live_calls (calls_gives b.e _ K3 (hea3.le h3.sh)) rfl pendNil fun K4 l4 => ⟨fun g2 => ?_, fun g2 => ?_⟩
      · simp only [ev0, ev, evV, List.cons_append, List.nil_append, List.getD_cons_zero, List.getD_cons_succ, List.map_cons, List.map_nil, iOf, bOf, sOf, pOf, slLen, slBase, cmpI, arI, Value.ite_bool, int_beq, int_bne, ite_band, ite_bor] at g2
        refine den_call cb_live_set_int___drop (Held.call (P := Try.prog) (f := n_live_set_int___drop) (args := #[.map (some ro), .int .i64 b.e.to]) (J := [.blk ro (.map es clock)]) (I := [flowB fb p (.slice b0 p.blocks.length c0) (.slice (some ⟨ib, 0, none⟩) p.blocks.length p.blocks.length), inB ib ims])
          (R := fun x S' J' => S' = S2 ∧ ∃ es' clock', x = .returned (.tuple #[]) ∧ J' = [.blk ro (.map es' clock')] ∧ SetAt es' clock' (s.filter fun y => decide (y ≠ b.e.to))) (h3.le l4)
          (fun K' hK => (setDrop_tri ro es clock s b.e.to S2 K' hK hs3).mono fun x K'' ⟨es', clock', q1, q2, q3⟩ => ⟨S2, _, PH.le_refl _, q2, rfl, es', clock', q1, rfl, q3⟩)) ?_
        rintro x K6 ⟨S6, J6, _, h6, rfl, es6, clock6, rfl, rfl, hs6⟩
        refine ⟨_, [], rfl, rfl, rfl, pendNil, _, lookup_hit, rfl, es6, clock6, _, h6, hs6, fun y => ?_⟩
        rw [List.mem_filter]
        simp only [decide_eq_true_eq]
        exact ⟨fun ⟨h1, h2⟩ => ⟨fun ⟨_, e⟩ => h2 e.symm, h1⟩, fun ⟨h1, h2⟩ => ⟨h2, fun e => h1 ⟨g2, e.symm⟩⟩⟩
      · simp only [ev0, ev, evV, List.cons_append, List.nil_append, List.getD_cons_zero, List.getD_cons_succ, List.map_cons, List.map_nil, iOf, bOf, sOf, pOf, slLen, slBase, cmpI, arI, Value.ite_bool, int_beq, int_bne, ite_band, ite_bor] at g2
        refine ⟨_, lookup_hit, rfl, es, clock, s, h3.le l4, hs3, fun y => ?_⟩
        exact ⟨fun h => ⟨fun ⟨h1, _⟩ => by (rw [g2] at h1; cases h1), h⟩, fun h => h.2⟩
end Go.Proofs.Ytlbbmcpppfiplaa.Vc
/-
  LIVE: sets that grow until they abide are what is live. No program in sight.
-/
namespace Go.Proofs.Ytlbbmcpppfiplaa.Vc
open Go

/-- sets that are on the way -/
structure Grows (p : PrcX) (sets : Nat → List Int) : Prop where
  nodup : ∀ i, (sets i).Nodup
  live : ∀ i y, y ∈ sets i → LiveB p y i
  kept : ∀ i y, y ∈ sets i → blkLive p y (fun c => y ∈ sets c) i 0
/-- what comes of a block -/
def Step (p : PrcX) (sets : Nat → List Int) (i : Nat) (s : List Int) : Prop := s.Nodup ∧ ∀ y, y ∈ s ↔ blkLive p y (fun c => y ∈ sets c) i 0
theorem grows_none (p : PrcX) : Grows p fun _ => [] := ⟨fun _ => List.nodup_nil, fun _ _ h => (by cases h), fun _ _ h => (by cases h)⟩
theorem length_le_of_sub {l m : List Int} (h : l.Nodup) (hs : ∀ y ∈ l, y ∈ m) : l.length ≤ m.length := by
  induction l generalizing m with
  | nil => simp
  | cons a l ih =>
    obtain ⟨h1, h2⟩ := List.nodup_cons.1 h
    have ha := hs a (List.mem_cons_self ..)
    have hlen : (m.erase a).length + 1 = m.length := by
      rw [List.length_erase_of_mem ha]
      have := List.length_pos_of_mem ha
      omega
    have := ih (m := m.erase a) h2 fun y hy => (List.mem_erase_of_ne (fun e : y = a => h1 (e ▸ hy))).2 (hs y (List.mem_cons_of_mem _ hy))
    simp only [List.length_cons]; omega
theorem same_of_length {l m : List Int} (hl : l.Nodup) (hs : ∀ y ∈ l, y ∈ m) (he : m.length = l.length) : ∀ y ∈ m, y ∈ l := by
  intro y hy
  by_cases h : y ∈ l
  · exact h
  · have := length_le_of_sub (l := y :: l) (m := m) (List.nodup_cons.2 ⟨h, hl⟩) fun z hz => (List.mem_cons.1 hz).elim (fun e => e ▸ hy) (hs z)
    simp only [List.length_cons] at this; omega
theorem Step.grown {p : PrcX} {sets : Nat → List Int} (hg : Grows p sets) {i : Nat} {s : List Int} (h : Step p sets i s) : ∀ y ∈ sets i, y ∈ s := fun y hy => (h.2 y).2 (hg.kept i y hy)
def putF (sets : Nat → List Int) (i : Nat) (s : List Int) : Nat → List Int := fun j => if j = i then s else sets j
theorem Grows.put {p : PrcX} {sets : Nat → List Int} (hg : Grows p sets) {i : Nat} {s : List Int} (h : Step p sets i s) : Grows p (putF sets i s) := by
  have hup : ∀ c y, y ∈ sets c → y ∈ putF sets i s c := fun c y hy => by
    unfold putF
    split
    · rename_i e; subst e; exact h.grown hg y hy
    · exact hy
  refine ⟨fun j => ?_, fun j y hy => ?_, fun j y hy => ?_⟩
  · unfold putF; split
    · exact h.1
    · exact hg.nodup j
  · unfold putF at hy
    split at hy
    · rename_i e; subst e
      exact liveB_of (blkLive_mono (fun c hc => hg.live c y hc) ((h.2 y).1 hy))
    · exact hg.live j y hy
  · unfold putF at hy
    split at hy
    · rename_i e; subst e
      exact blkLive_mono (fun c hc => hup c y hc) ((h.2 y).1 hy)
    · exact blkLive_mono (fun c hc => hup c y hc) (hg.kept j y hy)
/-- where nothing changes any more they are what is live -/
theorem Grows.all {p : PrcX} {sets : Nat → List Int} (hg : Grows p sets) (h : ∀ i, i < p.blocks.length → ∃ s, Step p sets i s ∧ s.length = (sets i).length) {i : Nat} {y : Int} : y ∈ sets i ↔ LiveB p y i := by
  refine ⟨hg.live i y, fun hl => hl (fun c => y ∈ sets c) fun j hj => ?_⟩
  have hjN : j < p.blocks.length := by
    obtain ⟨b, hb, _⟩ := hj
    exact (List.getElem?_eq_some_iff.1 hb).1
  obtain ⟨s, hs, he⟩ := h j hjN
  exact same_of_length (hg.nodup j) (hs.grown hg) he y ((hs.2 y).2 hj)
theorem Grows.le {p : PrcX} {sets : Nat → List Int} (hg : Grows p sets) (i : Nat) : (sets i).length ≤ p.regl.length :=
  length_le_of_sub (hg.nodup i) fun y hy => live_regl (liveB_at (hg.live i y hy))
/-- how much there is -/
def sumS (sets : Nat → List Int) : Nat → Nat
  | 0 => 0
  | n + 1 => sumS sets n + (sets n).length
theorem sumS_le {p : PrcX} {sets : Nat → List Int} (hg : Grows p sets) : ∀ n, sumS sets n ≤ n * p.regl.length
  | 0 => by simp [sumS]
  | n + 1 => by
    have := sumS_le hg n
    have := hg.le n
    simp only [sumS, Nat.succ_mul]; omega
theorem sumS_put {sets : Nat → List Int} {i : Nat} {s : List Int} : ∀ n, i < n → sumS (putF sets i s) n + (sets i).length = sumS sets n + s.length
  | 0, h => by omega
  | n + 1, h => by
    have key : ∀ m, m ≤ i → sumS (putF sets i s) m = sumS sets m := by
      intro m
      induction m with
      | zero => intro _; rfl
      | succ m ih =>
        intro hm
        have e : m ≠ i := by omega
        simp only [sumS, ih (by omega), putF, if_neg e]
    by_cases e : n = i
    · subst e
      simp only [sumS, key n (Nat.le_refl _), putF, if_pos]
      omega
    · have := sumS_put (sets := sets) (s := s) n (show i < n by omega)
      have hn : putF sets i s n = sets n := by unfold putF; rw [if_neg e]
      simp only [sumS, hn]; omega
end Go.Proofs.Ytlbbmcpppfiplaa.Vc
/-
  LIVE: the function that goes over a row from its end, as a value; a block gone back over.
-/
namespace Go.Proofs.Ytlbbmcpppfiplaa.Vc
open Go

theorem Backward_tri (l : List InsX) (sv : Value) (S : PH) (hs : SlR S l sv) : Tri Try.prog n_slices_Backward___api_Ins_api_Ins_ #[sv] S fun x S' => ∃ q : Nat, PH.le S S' ∧ x = .returned (.func (.func 57) #[] #[.pointer (some ⟨q, 0, none⟩)]) ∧ rowAt S' (some ⟨q, 0, none⟩) [sv] := by
  obtain ⟨b, c, rfl⟩ := hs.sl
  refine tri_slices_Backward___api_Ins_api_Ins_ [.slice b l.length c] (by kernel_rfl) (by kernel_rfl) ?_
  intro q hq
  refine den_makeFunc rfl ?_
  refine ⟨q, PH.le_upd hq, by simp [evV, ev, argEv, List.lookup], ⟨_, rfl, fun i v hi => by
    cases i with
    | zero =>
      simp only [List.getElem?_cons_zero, Option.some.injEq] at hi
      subst hi
      rw [Addr.add_plain, PH.cell_at PH.upd_same]
      rfl
    | succ i => simp at hi⟩⟩
/-- a block gone back over, a step more -/
theorem thru_step {b : List InsX} {j : Nat} {x : InsX} {y : Int} {q : Prop} (hj : j < b.length) (hx : b[b.length - 1 - j]? = some x) : thru y (b.drop (b.length - (j + 1))) q ↔ (y ∈ x.args ∨ (¬ x.fills y ∧ thru y (b.drop (b.length - j)) q)) := by
  have hi : b.length - 1 - j = b.length - (j + 1) := by omega
  rw [hi] at hx
  obtain ⟨hlt, he⟩ := List.getElem?_eq_some_iff.1 hx
  rw [List.drop_eq_getElem_cons hlt, he, show b.length - (j + 1) + 1 = b.length - j by omega]
  rfl
end Go.Proofs.Ytlbbmcpppfiplaa.Vc
/-
  LIVE: the fixpoint, by the program: what it begins with.
-/
namespace Go.Proofs.Ytlbbmcpppfiplaa.Vc
open Go

/-- a raw row that fills its block, as a block -/
theorem Held.rawBlk {S H : PH} {I : List Itm} {e : TypeId} {xs : List Value} {n r : Nat} (h : Held S H (.raw e 1 xs n (.slice (some ⟨r, 0, none⟩) n n) :: I)) : Held S H (.blk r (.cells xs.toArray e (0, 0)) :: I) := by
  have ho : Own H e 1 (.slice (some ⟨r, 0, none⟩) n n) n xs := h.at_ _ (List.mem_cons_self ..)
  have hr : H r = some (.cells xs.toArray e (0, 0)) := by
    rcases ho.2 with ⟨h1, _⟩ | ⟨g, cap, cur, h1, h2, h3, h4, h5, h6⟩
    · cases h1
    · cases h1
      rw [Nat.mul_one] at h5 h6
      have : cur = xs.toArray := by
        rw [← h6, List.take_of_length_le (by rw [Array.length_toList, h5]; exact Nat.le_refl _)]
      rw [h2, this]
  have hJ : Held S H [.blk r (.cells xs.toArray e (0, 0))] := ⟨h.sh, fun i hi => by rw [List.mem_singleton.1 hi]; exact hr, fun i hi k hk => by
    rw [List.mem_singleton.1 hi] at hk
    simp only [Itm.ob, Option.some.injEq] at hk
    subst hk
    exact h.off _ (List.mem_cons_self ..) r rfl, List.pairwise_singleton _ _⟩
  exact Held.step (J := [.raw e 1 xs n (.slice (some ⟨r, 0, none⟩) n n)]) (J' := [.blk r (.cells xs.toArray e (0, 0))]) h (PH.le_refl _) (fun k o hk _ => hk) (fun k a b => absurd a b) hJ fun j hj k hk => by
    rw [List.mem_singleton.1 hj] at hk
    simp only [Itm.ob, Option.some.injEq] at hk
    subst hk
    exact .inr ⟨_, List.mem_singleton.2 rfl, rfl⟩
theorem oneSetK : OneOk Try.prog 65 8 (.map none) := OneOk.of (by kernel_rfl) rfl
theorem uSetsK : Try.prog.underlying 59 = some (.slice 65) := by kernel_rfl
/-- every register that is read is a number of the machine's -/
theorem regl_InI {S : PH} {p : PrcX} {bv : Value} (h : SlR S p.blocks bv) : ∀ x ∈ p.regl, InI x := by
  intro x hx
  obtain ⟨b, hb, hxb⟩ := List.mem_flatMap.1 hx
  obtain ⟨i, hi⟩ := List.getElem?_of_mem hb
  obtain ⟨_, _, cs, hc, _⟩ := h.get hi
  obtain ⟨iv, es, rfl, his, hes⟩ := blk_iff.1 hc
  obtain ⟨av, rfl, e1, e2, hea, e3, e4, e5⟩ := end_iff.1 hes
  have hargs : ∀ {l : List Int} {v : Value}, SlR S l v → ∀ y ∈ l, InI y := fun hl y hy => by
    obtain ⟨k, hk⟩ := List.getElem?_of_mem hy
    obtain ⟨_, _, ds, hd, _⟩ := hl.get hk
    exact (csIK hd).2
  unfold BlkX.regs at hxb
  rcases List.mem_append.1 hxb with h1 | h1
  · obtain ⟨y, hy, hxy⟩ := List.mem_flatMap.1 h1
    obtain ⟨k, hk⟩ := List.getElem?_of_mem hy
    obtain ⟨_, _, ds, hd, _⟩ := his.get hk
    obtain ⟨av2, dv, rfl, _, _, ha, _⟩ := ins_iff.1 hd
    exact hargs ha x hxy
  · unfold EndX.regs at h1
    rcases List.mem_append.1 h1 with h1 | h1
    · split at h1
      · simp at h1; rw [h1]; exact e2
      · cases h1
    · split at h1
      · exact hargs hea x h1
      · cases h1
end Go.Proofs.Ytlbbmcpppfiplaa.Vc
/-
  LIVE: the fixpoint, by the program.
-/
namespace Go.Proofs.Ytlbbmcpppfiplaa.Vc
open Go

/-- the sets, row by row -/
def InsAt (S0 S : PH) (ims : List Value) (sets : Nat → List Int) : Prop := ∀ c v, ims[c]? = some v → SetR S v (sets c) ∧ ∀ r, v = .map (some r) → S0 r = none
theorem InsAt.le {S0 S S' : PH} {ims : List Value} {sets : Nat → List Int} (h : InsAt S0 S ims sets) (hl : PH.le S S') : InsAt S0 S' ims sets := fun c v hv => ⟨(h c v hv).1.le hl, (h c v hv).2⟩
theorem InsAt.set {S0 S : PH} {ims : List Value} {sets : Nat → List Int} (h : InsAt S0 S ims sets) {i r : Nat} {s : List Int} (hs : SetR S (.map (some r)) s) (h0 : S0 r = none) : InsAt S0 S (ims.set i (.map (some r))) (putF sets i s) := by
  intro c v hv
  rw [List.getElem?_set] at hv
  unfold putF
  by_cases e : i = c
  · subst e
    rw [if_pos rfl] at hv
    split at hv
    · cases hv
      rw [if_pos rfl]
      exact ⟨hs, fun r' h' => by cases h'; exact h0⟩
    · cases hv
  · rw [if_neg e] at hv
    rw [if_neg (fun h => e h.symm)]
    exact h c v hv
/-- one of the row is another one -/
theorem set_splice {α : Type} (l : List α) (i : Nat) (a : α) (h : i < l.length) : l.take i ++ [a] ++ l.drop (i + 1) = l.set i a := by
  rw [List.set_eq_take_append_cons_drop, if_pos h]; simp
/-- a set that is written no more, beside what else is held -/
theorem Held.freezeSet {S0 S H : PH} {I : List Itm} {r : Nat} {es : Array MapEntry} {clock : Nat} {s : List Int} (h0 : PH.le S0 S) (h : Held S H (.blk r (.map es clock) :: I)) (hs : SetAt es clock s) :
    ∃ S', PH.le S S' ∧ SetR S' (.map (some r)) s ∧ S0 r = none ∧ Held S' H I := by
  have hr : S r = none := h.off _ (List.mem_cons_self ..) r rfl
  obtain ⟨h1, h2⟩ := h.freezeB
  exact ⟨_, h1, ⟨r, es, clock, rfl, PH.upd_same, hs⟩, PH.none_of_le h0 hr, h2⟩
end Go.Proofs.Ytlbbmcpppfiplaa.Vc
/-
  LIVE: the fixpoint, by the program: the walk.
-/
namespace Go.Proofs.Ytlbbmcpppfiplaa.Vc
open Go

theorem Iter.congr {P : Program} {gv : Value} {S : PH} {n : Nat} {xs ys : Nat → List Value} (h : ∀ j, j < n → xs j = ys j) (hi : Iter P gv S n xs) : Iter P gv S n ys := by
  obtain ⟨gf, lb, h1, h2, h3⟩ := hi
  exact ⟨gf, lb, h1, h2, fun l I H W g1 g2 g3 g4 g5 => h3 l I H W g1 g2 g3 (fun j H' W' hj a b m => by rw [h j hj]; exact g4 j H' W' hj a b m) g5⟩
set_option maxHeartbeats 4000000 in
theorem solved_tri (p : PrcX) (bv : Value) (S : PH) (hbv : SlR S p.blocks bv) (hp : p.Fit) (hE : ∀ b ∈ p.blocks, b.e.args.length ≤ 2000000) :
    Tri Try.prog n_live_solved #[.agg (prcVs p bv).toArray] S fun x S' => ∃ (fb ib : Nat) (ims : List Value) (sets : Nat → List Int) (Sf : PH), PH.le S Sf ∧ x = .returned (pAt fb) ∧ Held Sf S' [flowB fb p bv (.slice (some ⟨ib, 0, none⟩) p.blocks.length p.blocks.length), inB ib ims] ∧ ims.length = p.blocks.length ∧ InsAt S Sf ims sets ∧
      (∀ c, (sets c).Nodup) ∧ ∀ c y, c < p.blocks.length → (y ∈ sets c ↔ LiveB p y c) := by
  have hN := hp.n
  obtain ⟨b0, c0, rfl⟩ := hbv.sl
  refine tri_live_solved (prcVs p (.slice b0 p.blocks.length c0)) (by kernel_rfl) (by kernel_rfl) ?_
  simp only [prcVs]
  refine den_hMakeRaw (n := p.blocks.length) uSetsK oneSetK (by kernel_rfl) (by kernel_rfl) (by simp only [maxLen]; omega) (by omega) (Held.nil (PH.le_refl S)) fun ib K1 h1 _ => ?_
  have h1 := h1.rawBlk
  refine den_bxNew (vs := [.int .i64 p.params, .int .i64 p.holds, .int .i64 p.regs, .slice b0 p.blocks.length c0, .slice (some ⟨ib, 0, none⟩) p.blocks.length p.blocks.length]) h1 (by kernel_rfl) fun fb K2 _ h2 => ?_
  refine ⟨fun _ => rfl, ?_⟩
  refine den_bxLoad [.slice (some ⟨ib, 0, none⟩) p.blocks.length p.blocks.length] (off := 4) (by kernel_rfl) h2 (List.mem_cons_self ..) rfl rfl ?_
  -- an empty set for each block
  refine ⟨fun n vs K => ∃ (k : Nat) (ims : List Value) (S' : PH), vs = [nI k] ∧ k + n = p.blocks.length ∧ PH.le S S' ∧ ims.length = p.blocks.length ∧ Held S' K [flowB fb p (.slice b0 p.blocks.length c0) (.slice (some ⟨ib, 0, none⟩) p.blocks.length p.blocks.length), inB ib ims] ∧
    ∀ c v, c < k → ims[c]? = some v → SetR S' v [] ∧ ∀ r, v = .map (some r) → S r = none,
    ⟨p.blocks.length, 0, List.replicate p.blocks.length (.map none), S, rfl, by omega, PH.le_refl S, by simp, h2, fun c v h => by omega⟩, ?_⟩
  rintro n vs K _ ⟨k, ims, S1, rfl, hkn, l1, hil, h3, him⟩
  refine ⟨fun g => ?_, fun g => ?_⟩
  · simp only [ev0, ev, evV, List.cons_append, List.nil_append, List.getD_cons_zero, List.getD_cons_succ, List.map_cons, List.map_nil, iOf, bOf, sOf, pOf, slLen, slBase, cmpI, arI, Value.ite_bool, int_beq, int_bne, ite_band, ite_bor, decide_eq_true_eq] at g
    refine den_bxLoad [.slice (some ⟨ib, 0, none⟩) p.blocks.length p.blocks.length] (off := 4) (by kernel_rfl) h3 (List.mem_cons_self ..) rfl rfl ?_
    refine den_makeMap fun ro hro => ?_
    have h4 := h3.new hro (.map #[] 0)
    obtain ⟨S5, l5, hset, hS0, h5⟩ := h4.freezeSet l1 setOk_nil
    refine ⟨fun _ => ?_, ?_⟩
    · simp only [Chk.holds, ev0, ev, evV, List.cons_append, List.nil_append, List.getD_cons_zero, List.getD_cons_succ, List.map_cons, List.map_nil, iOf, bOf, sOf, pOf, slLen, slBase, cmpI, arI, Value.ite_bool, int_beq, int_bne, ite_band, ite_bor]; exact ⟨rfl, by omega, by omega⟩
    refine den_bxStore (off := k) (vs := [.map (some ro)]) ?_ (h5.perm (List.Perm.swap _ _ _)) ?_ (by simp [oneC]) (by simp only [List.length_cons, List.length_nil]; omega) fun K6 h6 => ?_
    · simp only [ev0, ev, evV, List.cons_append, List.nil_append, List.getD_cons_zero, List.getD_cons_succ, List.map_cons, List.map_nil, iOf, bOf, sOf, pOf, slLen, slBase, cmpI, arI, Value.ite_bool, int_beq, int_bne, ite_band, ite_bor]
      simp [eltV, pOf, slBase, Addr.add_plain]
    · simp only [ev0, ev, evV, List.cons_append, List.nil_append, List.getD_cons_zero, List.getD_cons_succ, List.map_cons, List.map_nil, iOf, bOf, sOf, pOf, slLen, slBase, cmpI, arI, Value.ite_bool, int_beq, int_bne, ite_band, ite_bor]
    rw [show ([Value.map (some ro)]).length = 1 from rfl, set_splice ims k _ (by omega)] at h6
    refine ⟨_, lookup_hit, n - 1, by omega, k + 1, ims.set k (.map (some ro)), S5, ?_, by omega, PH.le_trans l1 l5, by simpa using hil, h6.perm (List.Perm.swap _ _ _), fun c v hc hv => ?_⟩
    · simp only [ev0, ev, evV, List.cons_append, List.nil_append, List.getD_cons_zero, List.getD_cons_succ, List.map_cons, List.map_nil, iOf, bOf, sOf, pOf, slLen, slBase, cmpI, arI, Value.ite_bool, int_beq, int_bne, ite_band, ite_bor]; rw [w64 (by omega) (by omega)]; rfl
    · rw [List.getElem?_set] at hv
      by_cases e : k = c
      · subst e
        rw [if_pos rfl] at hv
        split at hv
        · cases hv; exact ⟨hset, fun r h => by cases h; exact hS0⟩
        · cases hv
      · rw [if_neg e] at hv
        obtain ⟨q1, q2⟩ := him c v (by omega) hv
        exact ⟨q1.le l5, q2⟩
  · simp only [ev0, ev, evV, List.cons_append, List.nil_append, List.getD_cons_zero, List.getD_cons_succ, List.map_cons, List.map_nil, iOf, bOf, sOf, pOf, slLen, slBase, cmpI, arI, Value.ite_bool, int_beq, int_bne, ite_band, ite_bor, decide_eq_false_iff_not] at g
    have him' : InsAt S S1 ims fun _ => [] := fun c v hv => him c v (by have := (List.getElem?_eq_some_iff.1 hv).1; omega) hv
    have hk0 : sumS (fun _ => ([] : List Int)) p.blocks.length = 0 := by
      have : ∀ n, sumS (fun _ => ([] : List Int)) n = 0 := fun n => by induction n with
        | zero => rfl
        | succ n ih => simp [sumS, ih]
      exact this _
    -- as long as something changes
    refine ⟨fun n vs K' => ∃ (again : Bool) (ims : List Value) (sets : Nat → List Int) (S' : PH), vs = [.bool again] ∧ n = p.blocks.length * p.regl.length - sumS sets p.blocks.length + (if again then 1 else 0) ∧ PH.le S S' ∧ ims.length = p.blocks.length ∧ Held S' K' [flowB fb p (.slice b0 p.blocks.length c0) (.slice (some ⟨ib, 0, none⟩) p.blocks.length p.blocks.length), inB ib ims] ∧ InsAt S S' ims sets ∧ Grows p sets ∧
      (again = false → ∀ i, i < p.blocks.length → ∃ s, Step p sets i s ∧ s.length = (sets i).length),
      ⟨_, true, ims, fun _ => [], S1, rfl, rfl, l1, hil, h3, him', grows_none p, fun h => by cases h⟩, ?_⟩
    rintro n vs K4 _ ⟨again, ims4, sets4, S4, rfl, rfl, l4, hil4, h4, him4, hg4, hst4⟩
    refine ⟨fun ga => ?_, fun ga => ?_⟩
    · simp only [ev0, ev, evV, List.cons_append, List.nil_append, List.getD_cons_zero, List.getD_cons_succ, List.map_cons, List.map_nil, iOf, bOf, sOf, pOf, slLen, slBase, cmpI, arI, Value.ite_bool, int_beq, int_bne, ite_band, ite_bor] at ga
      subst ga
      have hsum4 := sumS_le hg4 p.blocks.length
      -- a pass
      refine ⟨fun m vs K' => ∃ (ch : Bool) (j : Nat) (ims' : List Value) (sets' : Nat → List Int) (S' : PH), vs = [.bool ch, .int .i64 ((p.blocks.length : Int) - 1 - j)] ∧ j + m = p.blocks.length ∧ PH.le S S' ∧ ims'.length = p.blocks.length ∧ Held S' K' [flowB fb p (.slice b0 p.blocks.length c0) (.slice (some ⟨ib, 0, none⟩) p.blocks.length p.blocks.length), inB ib ims'] ∧ InsAt S S' ims' sets' ∧ Grows p sets' ∧
        sumS sets4 p.blocks.length ≤ sumS sets' p.blocks.length ∧ (ch = true → sumS sets4 p.blocks.length < sumS sets' p.blocks.length) ∧ (ch = false → ∀ i, p.blocks.length ≤ i + j → i < p.blocks.length → ∃ s, Step p sets' i s ∧ s.length = (sets' i).length),
        ⟨p.blocks.length, false, 0, ims4, sets4, S4, ?_, by omega, l4, hil4, h4, him4, hg4, Nat.le_refl _, fun h => (by cases h), fun _ i h1 h2 => (by omega)⟩, ?_⟩
      · simp only [ev0, ev, evV, List.cons_append, List.nil_append, List.getD_cons_zero, List.getD_cons_succ, List.map_cons, List.map_nil, iOf, bOf, sOf, pOf, slLen, slBase, cmpI, arI, Value.ite_bool, int_beq, int_bne, ite_band, ite_bor]
        rw [w64 (by omega) (by omega)]
        simp
      rintro m vs K5 _ ⟨ch, j, ims5, sets5, S5, rfl, hjm, l5, hil5, h5, him5, hg5, hs1, hs2, hs3⟩
      refine ⟨fun gj => ?_, fun gj => ?_⟩
      · simp only [ev0, ev, evV, List.cons_append, List.nil_append, List.getD_cons_zero, List.getD_cons_succ, List.map_cons, List.map_nil, iOf, bOf, sOf, pOf, slLen, slBase, cmpI, arI, Value.ite_bool, int_beq, int_bne, ite_band, ite_bor, decide_eq_true_eq] at gj
        obtain ⟨i, hij⟩ : ∃ i : Nat, (p.blocks.length : Int) - 1 - j = (i : Int) := ⟨p.blocks.length - 1 - j, by omega⟩
        have hi : i < p.blocks.length := by omega
        obtain ⟨b, hb⟩ : ∃ b, p.blocks[i]? = some b := ⟨_, List.getElem?_eq_getElem hi⟩
        rw [hij]
        refine ⟨fun vs K' => ∃ (ch' : Bool) (ims' : List Value) (sets' : Nat → List Int) (S' : PH), vs = [.bool ch'] ∧ PH.le S S' ∧ ims'.length = p.blocks.length ∧ Held S' K' [flowB fb p (.slice b0 p.blocks.length c0) (.slice (some ⟨ib, 0, none⟩) p.blocks.length p.blocks.length), inB ib ims'] ∧ InsAt S S' ims' sets' ∧ Grows p sets' ∧
          sumS sets4 p.blocks.length ≤ sumS sets' p.blocks.length ∧ (ch' = true → sumS sets4 p.blocks.length < sumS sets' p.blocks.length) ∧ (ch' = false → ∀ i, p.blocks.length ≤ i + (j + 1) → i < p.blocks.length → ∃ s, Step p sets' i s ∧ s.length = (sets' i).length), ?_, ?_⟩
        · rintro vs K6 _ ⟨ch', ims', sets', S', rfl, t1, t2, t3, t4, t5, t6, t7, t8⟩
          refine ⟨_, lookup_hit, m - 1, by omega, ch', j + 1, ims', sets', S', ?_, by omega, t1, t2, t3, t4, t5, t6, t7, t8⟩
          simp only [ev0, ev, evV, List.cons_append, List.nil_append, List.getD_cons_zero, List.getD_cons_succ, List.map_cons, List.map_nil, iOf, bOf, sOf, pOf, slLen, slBase, cmpI, arI, Value.ite_bool, int_beq, int_bne, ite_band, ite_bor]
          rw [w64 (by omega) (by omega)]
          congr 3; omega
        refine den_call cb_live_flow__out (out_tri p _ fb ib ims5 sets5 i b S5 K5 (hbv.le l5) hb hN (Nat.le_trans (hE b (List.mem_of_getElem? hb)) (by omega)) hil5 (fun c v h => (him5 c v h).1) h5) ?_
        rintro x K6 ⟨S6, ro, es6, cl6, s6, l6, rfl, h6, hs6, hm6⟩
        refine ⟨_, [.map (some ro)], rfl, rfl, rfl, pendNil, ?_⟩
        refine den_bxNew (vs := [.map none]) h6 (by kernel_rfl) fun sb K7 _ h7 => ?_
        refine den_bxStore (off := 0) (vs := [.map (some ro)]) (by kernel_rfl) h7 (by kernel_rfl) (by simp [oneC]) (by simp) fun K8 h8 => ?_
        have h8 : Held S6 K8 [bx sb 65 [.map (some ro)], .blk ro (.map es6 cl6), flowB fb p (.slice b0 p.blocks.length c0) (.slice (some ⟨ib, 0, none⟩) p.blocks.length p.blocks.length), inB ib ims5] := h8
        have l56 := PH.le_trans l5 l6
        obtain ⟨q1, _, ces, q2, q3⟩ := (hbv.le l56).get hb
        obtain ⟨iv, esv, rfl, his, hes⟩ := blk_iff.1 q2
        obtain ⟨b2, c2, rfl⟩ := his.sl
        refine ⟨fun _ => ?_, [.slice b2 b.ins.length c2], rfl, ?_, ?_⟩
        · simp only [Chk.holds, ev0, ev, evV, List.cons_append, List.nil_append, List.getD_cons_zero, List.getD_cons_succ, List.map_cons, List.map_nil, iOf, bOf, sOf, pOf, slLen, slBase, cmpI, arI, Value.ite_bool, int_beq, int_bne, ite_band, ite_bor]; exact ⟨q1, by omega, by omega⟩
        · simp only [ev0, ev, evV, List.cons_append, List.nil_append, List.getD_cons_zero, List.getD_cons_succ, List.map_cons, List.map_nil, iOf, bOf, sOf, pOf, slLen, slBase, cmpI, arI, Value.ite_bool, int_beq, int_bne, ite_band, ite_bor]; exact rowAt_sub (rowAt_le h8.sh q3) 0 1
        refine den_call cb_slices_Backward___api_Ins_api_Ins_ (h8.pure (R := fun x S' => ∃ q : Nat, x = .returned (.func (.func 57) #[] #[.pointer (some ⟨q, 0, none⟩)]) ∧ rowAt S' (some ⟨q, 0, none⟩) [.slice b2 b.ins.length c2]) ((Backward_tri b.ins _ S6 his).mono fun x S' ⟨q, t1, t2, t3⟩ => ⟨t1, q, t2, t3⟩)) ?_
        rintro x K9 ⟨S9, l9, h9, q, rfl, hq⟩
        refine ⟨_, [.func (.func 57) #[] #[.pointer (some ⟨q, 0, none⟩)]], rfl, rfl, rfl, pendNil, ?_⟩
        obtain ⟨cells, hcells⟩ := (his.le l9).fn
        have hc8 : ∀ j', j' < b.ins.length → (cells (b.ins.length - 1 - j')).length = 8 := fun j' hj' => by
          obtain ⟨y, hy⟩ : ∃ y, b.ins[b.ins.length - 1 - j']? = some y := ⟨_, List.getElem?_eq_getElem (by omega)⟩
          have := (hcells _ y hy).1
          exact PV.RepRow.length this
        have hbl := hp.ins b (List.mem_of_getElem? hb)
        refine ⟨S9, b.ins.length, fun j' => nI (b.ins.length - 1 - j') :: cells (b.ins.length - 1 - j'), fun j' H' => ∃ (es : Array MapEntry) (cl : Nat) (s : List Int), Held S9 H' [bx sb 65 [.map (some ro)], .blk ro (.map es cl), flowB fb p (.slice b0 p.blocks.length c0) (.slice (some ⟨ib, 0, none⟩) p.blocks.length p.blocks.length), inB ib ims5] ∧ SetAt es cl s ∧ ∀ y, y ∈ s ↔ thru y (b.ins.drop (b.ins.length - j')) (outS p sets5 b y), h9.sh, ?_, ?_, ?_, ?_, ?_⟩
        · refine Iter.congr (fun j' hj' => ?_) (backward_iter b.ins S9 _ _ hq (his.le l9) (by omega) cells hcells)
          have := hc8 j' hj'
          simp [packAll, RS.pack, RS.tags, List.take_of_length_le, this]
        · rintro j' H' ⟨es, cl, s, hh, _⟩; exact hh.sh
        · exact ⟨es6, cl6, s6, h9, hs6, fun y => by rw [Nat.sub_zero, List.drop_length]; exact hm6 y⟩
        · rintro j' H' hj' ⟨es, cl, s, hh, hs, hm⟩
          obtain ⟨y, hy⟩ : ∃ y, b.ins[b.ins.length - 1 - j']? = some y := ⟨_, List.getElem?_eq_getElem (by omega)⟩
          obtain ⟨hyc, _⟩ := hcells _ y hy
          have hyc' := hyc
          obtain ⟨av, dv, hcell, _, _, hya, _, _, _, hyd, _⟩ := ins_iff.1 hyc
          obtain ⟨ab, ac, rfl⟩ := hya.sl
          obtain ⟨db, dc, rfl⟩ := hyd.sl
          simp only [hcell]
          refine ⟨rfl, ?_⟩
          refine den_bxLoad [.map (some ro)] (off := 0) (by kernel_rfl) hh (List.mem_cons_self ..) rfl rfl ?_
          rw [hcell] at hyc'
          refine den_call cb_live_through (Held.call (P := Try.prog) (f := n_live_through) (args := #[.map (some ro), .agg (List.toArray _)]) (J := [.blk ro (.map es cl)]) (I := [bx sb 65 [.map (some ro)], flowB fb p (.slice b0 p.blocks.length c0) (.slice (some ⟨ib, 0, none⟩) p.blocks.length p.blocks.length), inB ib ims5])
            (R := fun e S' J' => S' = S9 ∧ ∃ es' cl' s', e = .returned (.tuple #[]) ∧ J' = [.blk ro (.map es' cl')] ∧ SetAt es' cl' s' ∧ ∀ z, z ∈ s' ↔ (z ∈ y.args ∨ (¬ y.fills z ∧ z ∈ s))) (hh.perm (List.Perm.swap _ _ _))
            (fun K' hK => (through_tri ro es cl s y _ S9 K' hyc' hK hs).mono fun e K'' ⟨es', cl', s', t1, t2, t3, t4⟩ => ⟨S9, _, PH.le_refl _, t2, rfl, es', cl', s', t1, rfl, t3, t4⟩)) ?_
          rintro e K'' ⟨S', J', _, hh', rfl, es', cl', s', rfl, rfl, hs', hm'⟩
          refine ⟨_, [], rfl, rfl, rfl, pendNil, _, lookup_hit, es', cl', s', hh'.perm (List.Perm.swap _ _ _), hs', fun z => ?_⟩
          rw [hm', hm, thru_step hj' hy]
        · rintro H' ⟨es, cl, s, hh, hs, hm⟩
          have hst : Step p sets5 i s := ⟨hs.nodup, fun y => by
            rw [hm, Nat.sub_self, List.drop_zero]
            exact ⟨fun h => ⟨b, hb, h⟩, fun ⟨b', hb', h⟩ => by rw [hb] at hb'; cases hb'; exact h⟩⟩
          obtain ⟨mv, hmv⟩ : ∃ mv, ims5[i]? = some mv := ⟨_, List.getElem?_eq_getElem (by omega)⟩
          have hset := (him5 i mv hmv).1.le (PH.le_trans l6 l9)
          obtain ⟨rt, est, clt, rfl, hrt, hst'⟩ := hset
          have hsl := length_le_of_sub hst.1 fun y hy => live_regl (p := p) (i := i) (at_ := 0) (blkLive_mono (fun c hc => hg5.live c y hc) ((hst.2 y).1 hy))
          have hsl2 := hg5.le i
          have hreg := hp.regs
          refine den_bxLoad [.map (some ro)] (off := 0) (by kernel_rfl) hh (List.mem_cons_self ..) rfl rfl ?_
          refine den_bxLoad [.slice (some ⟨ib, 0, none⟩) p.blocks.length p.blocks.length] (off := 4) (by kernel_rfl) hh (List.mem_cons_of_mem _ (List.mem_cons_of_mem _ (List.mem_cons_self ..))) rfl rfl ?_
          have hib : H' ib = some (.cells ims5.toArray 65 (0, 0)) := hh.blk (List.mem_cons_of_mem _ (List.mem_cons_of_mem _ (List.mem_cons_of_mem _ (List.mem_cons_self ..))))
          refine ⟨fun _ => ?_, [.map (some rt)], rfl, ?_, ?_⟩
          · simp only [Chk.holds, ev0, ev, evV, List.cons_append, List.nil_append, List.getD_cons_zero, List.getD_cons_succ, List.map_cons, List.map_nil, iOf, bOf, sOf, pOf, slLen, slBase, cmpI, arI, Value.ite_bool, int_beq, int_bne, ite_band, ite_bor]; exact ⟨rfl, by omega, by omega⟩
          · simp only [ev0, ev, evV, List.cons_append, List.nil_append, List.getD_cons_zero, List.getD_cons_succ, List.map_cons, List.map_nil, iOf, bOf, sOf, pOf, slLen, slBase, cmpI, arI, Value.ite_bool, int_beq, int_bne, ite_band, ite_bor]; exact inB_row (n := p.blocks.length) hib hmv
          refine den_mapLen (α := Int) (m := encS s) (v := .map (some ro)) rfl uSetK (by kernel_rfl) ⟨ro, es, cl, rfl, hh.blk (List.mem_cons_of_mem _ (List.mem_cons_self ..)), hs⟩ (by simp [encS]; omega) ?_ ?_
          · intro x hx
            simp only [List.mem_cons, List.not_mem_nil, or_false] at hx
            rcases hx with rfl | rfl
            · simp only [ev0, ev, evV, List.cons_append, List.nil_append, List.getD_cons_zero, List.getD_cons_succ, List.map_cons, List.map_nil, iOf, bOf, sOf, pOf, slLen, slBase, cmpI, arI, Value.ite_bool, int_beq, int_bne, ite_band, ite_bor]; exact inB_row (n := p.blocks.length) hib hmv
            · simp only [ev0, ev, evV, List.cons_append, List.nil_append, List.getD_cons_zero, List.getD_cons_succ, List.map_cons, List.map_nil, iOf, bOf, sOf, pOf, slLen, slBase, cmpI, arI, Value.ite_bool, int_beq, int_bne, ite_band, ite_bor]
              exact blk_row (off := 4) (hh.blk (List.mem_cons_of_mem _ (List.mem_cons_of_mem _ (List.mem_cons_self ..)))) 1
          refine den_mapLen (α := Int) (m := encS (sets5 i)) (v := .map (some rt)) rfl uSetK (by kernel_rfl) ⟨rt, est, clt, rfl, hh.sh _ _ hrt, hst'⟩ (by simp [encS]; omega) pendNil ?_
          have hSle : PH.le S S9 := PH.le_trans l56 l9
          refine ⟨fun gl => ?_, fun gl => ?_⟩
          · simp only [ev0, ev, evV, List.cons_append, List.nil_append, List.getD_cons_zero, List.getD_cons_succ, List.map_cons, List.map_nil, iOf, bOf, sOf, pOf, slLen, slBase, cmpI, arI, Value.ite_bool, int_beq, int_bne, ite_band, ite_bor, decide_eq_true_eq] at gl
            have hgt : (sets5 i).length < s.length := by
              have h1 := length_le_of_sub (hg5.nodup i) (hst.grown hg5)
              have h2 : s.length ≠ (sets5 i).length := fun e => by simp [encS, e] at gl
              omega
            refine den_bxLoad [.slice (some ⟨ib, 0, none⟩) p.blocks.length p.blocks.length] (off := 4) (by kernel_rfl) hh (List.mem_cons_of_mem _ (List.mem_cons_of_mem _ (List.mem_cons_self ..))) rfl rfl ?_
            refine den_bxLoad [.map (some ro)] (off := 0) (by kernel_rfl) hh (List.mem_cons_self ..) rfl rfl ?_
            obtain ⟨S10, l10, hset10, hS0, h10⟩ := Held.freezeSet hSle (hh.perm (List.Perm.swap _ _ _)) hs
            refine ⟨fun _ => ?_, ?_⟩
            · simp only [Chk.holds, ev0, ev, evV, List.cons_append, List.nil_append, List.getD_cons_zero, List.getD_cons_succ, List.map_cons, List.map_nil, iOf, bOf, sOf, pOf, slLen, slBase, cmpI, arI, Value.ite_bool, int_beq, int_bne, ite_band, ite_bor]; exact ⟨rfl, by omega, by omega⟩
            refine den_bxStore (off := i) (vs := [.map (some ro)]) ?_ (h10.tail.perm (List.Perm.swap _ _ _)) ?_ (by simp [oneC]) (by simp only [List.length_cons, List.length_nil]; omega) fun K12 h12 => ?_
            · simp only [ev0, ev, evV, List.cons_append, List.nil_append, List.getD_cons_zero, List.getD_cons_succ, List.map_cons, List.map_nil, iOf, bOf, sOf, pOf, slLen, slBase, cmpI, arI, Value.ite_bool, int_beq, int_bne, ite_band, ite_bor]
              simp [eltV, pOf, slBase, Addr.add_plain]
            · simp only [ev0, ev, evV, List.cons_append, List.nil_append, List.getD_cons_zero, List.getD_cons_succ, List.map_cons, List.map_nil, iOf, bOf, sOf, pOf, slLen, slBase, cmpI, arI, Value.ite_bool, int_beq, int_bne, ite_band, ite_bor]
            rw [show ([Value.map (some ro)]).length = 1 from rfl, set_splice ims5 i _ (by omega)] at h12
            have hsum := sumS_put (sets := sets5) (s := s) p.blocks.length hi
            exact ⟨_, lookup_hit, true, ims5.set i (.map (some ro)), putF sets5 i s, S10, rfl, PH.le_trans hSle l10, by simpa using hil5, h12.perm (List.Perm.swap _ _ _), (him5.le (PH.le_trans (PH.le_trans l6 l9) l10)).set hset10 hS0, hg5.put hst, by omega, fun _ => by omega, fun h => by cases h⟩
          · simp only [ev0, ev, evV, List.cons_append, List.nil_append, List.getD_cons_zero, List.getD_cons_succ, List.map_cons, List.map_nil, iOf, bOf, sOf, pOf, slLen, slBase, cmpI, arI, Value.ite_bool, int_beq, int_bne, ite_band, ite_bor, decide_eq_false_iff_not] at gl
            have heq : s.length = (sets5 i).length := by
              have : ¬ ((s.length : Int) ≠ ((sets5 i).length : Int)) := by simpa [encS] using gl
              omega
            refine ⟨_, lookup_hit, ch, ims5, sets5, S9, rfl, hSle, hil5, hh.tail.tail, him5.le (PH.le_trans l6 l9), hg5, hs1, hs2, fun hc k hk1 hk2 => ?_⟩
            by_cases e : k = i
            · subst e; exact ⟨s, hst, heq⟩
            · exact hs3 hc k (by omega) hk2
      · simp only [ev0, ev, evV, List.cons_append, List.nil_append, List.getD_cons_zero, List.getD_cons_succ, List.map_cons, List.map_nil, iOf, bOf, sOf, pOf, slLen, slBase, cmpI, arI, Value.ite_bool, int_beq, int_bne, ite_band, ite_bor, decide_eq_false_iff_not] at gj
        have hjN : j = p.blocks.length := by omega
        have hsum5 := sumS_le hg5 p.blocks.length
        refine ⟨_, rfl, _, ?_, ch, ims5, sets5, S5, rfl, rfl, l5, hil5, h5, him5, hg5, fun hc i hi => hs3 hc i (by omega) hi⟩
        cases ch with
        | true => have := hs2 rfl; simp only [if_true]; omega
        | false => simp only [if_true, Bool.false_eq_true, if_false]; omega
    · simp only [ev0, ev, evV, List.cons_append, List.nil_append, List.getD_cons_zero, List.getD_cons_succ, List.map_cons, List.map_nil, iOf, bOf, sOf, pOf, slLen, slBase, cmpI, arI, Value.ite_bool, int_beq, int_bne, ite_band, ite_bor] at ga
      subst ga
      refine ⟨fb, ib, ims4, sets4, S4, l4, rfl, h4, hil4, him4, hg4.nodup, fun c y _ => hg4.all (hst4 rfl)⟩
end Go.Proofs.Ytlbbmcpppfiplaa.Vc
/-
  LIVE: what is live at the beginnings of blocks, and across a call, by the program.
-/
namespace Go.Proofs.Ytlbbmcpppfiplaa.Vc
open Go

theorem sort_live {p : PrcX} {l : List Int} {c : Nat} (hn : l.Nodup) (hm : ∀ y, y ∈ l ↔ LiveB p y c) : sortI l = liveL p c 0 := by
  refine rises_eq (sortI_rises hn) (liveL_rises p c 0) fun x => ?_
  rw [sortI_mem, hm, liveL_mem, liveB_iff]
theorem sort_liveAt {p : PrcX} {l : List Int} {c a : Nat} (hn : l.Nodup) (hm : ∀ y, y ∈ l ↔ LiveAt p y c a) : sortI l = liveL p c a := by
  refine rises_eq (sortI_rises hn) (liveL_rises p c a) fun x => ?_
  rw [sortI_mem, hm, liveL_mem]
theorem set_len {p : PrcX} {l : List Int} (hp : p.Fit) (hn : l.Nodup) (hm : ∀ y ∈ l, y ∈ p.regl) : l.length ≤ 2000000 :=
  Nat.le_trans (length_le_of_sub hn hm) hp.regs
set_option maxHeartbeats 1000000 in
theorem LIn_tri (p : PrcX) (bv : Value) (S : PH) (hbv : SlR S p.blocks bv) (hp : p.Fit) (hE : ∀ b ∈ p.blocks, b.e.args.length ≤ 2000000) :
    Tri Try.prog n_live_In #[.agg (prcVs p bv).toArray] S fun x S' => PH.le S S' ∧ ∃ v, x = .returned v ∧ SlR S' (inL p) v := by
  have hN := hp.n
  have hbv0 := hbv
  obtain ⟨b0, c0, rfl⟩ := hbv.sl
  refine tri_live_In (prcVs p (.slice b0 p.blocks.length c0)) (by kernel_rfl) (by kernel_rfl) ?_
  simp only [prcVs]
  refine den_call cb_live_solved (solved_tri p (.slice b0 p.blocks.length c0) S hbv hp hE) ?_
  rintro x K1 ⟨fb, ib, ims, sets, Sf, lf, rfl, h1, hil, him, hnd, hmem⟩
  refine ⟨_, [pAt fb], rfl, rfl, rfl, pendNil, ?_⟩
  refine ⟨fun _ => rfl, ?_⟩
  refine den_bxLoad [.slice (some ⟨ib, 0, none⟩) p.blocks.length p.blocks.length] (off := 4) (by kernel_rfl) h1 (List.mem_cons_self ..) rfl rfl ?_
  have h2 := h1.empty (α := List Int) 30
  refine ⟨fun n vs K => ∃ (k : Nat) (v : Value) (S' : PH), vs = [v, nI k] ∧ k + n = p.blocks.length ∧ PH.le Sf S' ∧ Held S' K [orow 30 ((List.range k).map fun i => liveL p i 0) v, flowB fb p (.slice b0 p.blocks.length c0) (.slice (some ⟨ib, 0, none⟩) p.blocks.length p.blocks.length), inB ib ims],
    ⟨p.blocks.length, 0, .slice none 0 0, Sf, rfl, by omega, PH.le_refl _, by simpa using h2⟩, ?_⟩
  rintro n vs K _ ⟨k, v, S1, rfl, hkn, l1, h3⟩
  refine ⟨fun g => ?_, fun g => ?_⟩
  · simp only [ev0, ev, evV, List.cons_append, List.nil_append, List.getD_cons_zero, List.getD_cons_succ, List.map_cons, List.map_nil, iOf, bOf, sOf, pOf, slLen, slBase, cmpI, arI, Value.ite_bool, int_beq, int_bne, ite_band, ite_bor, decide_eq_true_eq] at g
    have hk : k < p.blocks.length := by omega
    obtain ⟨mv, hmv⟩ : ∃ mv, ims[k]? = some mv := ⟨_, List.getElem?_eq_getElem (by omega)⟩
    obtain ⟨rt, est, clt, rfl, hrt, hst⟩ := (him k mv hmv).1
    have hib : K ib = some (.cells ims.toArray 65 (0, 0)) := h3.blk (List.mem_cons_of_mem _ (List.mem_cons_of_mem _ (List.mem_cons_self ..)))
    have hreg : ∀ y ∈ sets k, y ∈ p.regl := fun y hy => live_regl (liveB_at ((hmem k y hk).1 hy))
    refine ⟨fun _ => ?_, [.map (some rt)], rfl, ?_, ?_⟩
    · simp only [Chk.holds, ev0, ev, evV, List.cons_append, List.nil_append, List.getD_cons_zero, List.getD_cons_succ, List.map_cons, List.map_nil, iOf, bOf, sOf, pOf, slLen, slBase, cmpI, arI, Value.ite_bool, int_beq, int_bne, ite_band, ite_bor]; exact ⟨rfl, by omega, by omega⟩
    · simp only [ev0, ev, evV, List.cons_append, List.nil_append, List.getD_cons_zero, List.getD_cons_succ, List.map_cons, List.map_nil, iOf, bOf, sOf, pOf, slLen, slBase, cmpI, arI, Value.ite_bool, int_beq, int_bne, ite_band, ite_bor]; exact inB_row (n := p.blocks.length) hib hmv
    refine den_call cb_live_set_int___rising (rising_tri rt est clt (sets k) S1 K _ h3 (.inl (l1 _ _ hrt)) hst (fun y hy => regl_InI hbv0 y (hreg y hy)) (Nat.le_trans (set_len hp (hnd k) hreg) (by omega))) ?_
    rintro x K2 ⟨S2, wv, l2, rfl, hwv, h4⟩
    rw [sort_live (hnd k) fun y => hmem k y hk] at hwv
    obtain ⟨b3, c3, rfl⟩ := hwv.sl
    refine ⟨_, [.slice b3 (liveL p k 0).length c3], rfl, rfl, rfl, pendNil, ?_⟩
    refine den_hPush (more := [liveL p k 0]) (b := 24) [.slice b3 (liveL p k 0).length c3] uIntssK elemIntsK rfl (by decide) (by decide) h4 (by kernel_rfl) (.cons (csLK_mk hwv) .nil) pendNil (fun _ => by kernel_rfl) (fun _ => by kernel_rfl)
      (by simp only [maxLen, List.length_cons, List.length_nil, List.length_map, List.length_range]; omega) (by simp only [List.length_cons, List.length_nil, List.length_map, List.length_range]; omega) fun u v' S4 K4 l4 h5 => ⟨pendNil, _, lookup_hit, n - 1, by omega, k + 1, v', S4, ?_, by omega, PH.le_trans l1 (PH.le_trans l2 l4), by rw [List.range_succ, List.map_append]; exact h5⟩
    simp only [ev0, ev, evV, List.cons_append, List.nil_append, List.getD_cons_zero, List.getD_cons_succ, List.map_cons, List.map_nil, iOf, bOf, sOf, pOf, slLen, slBase, cmpI, arI, Value.ite_bool, int_beq, int_bne, ite_band, ite_bor]
    rw [w64 (by omega) (by omega)]; rfl
  · simp only [ev0, ev, evV, List.cons_append, List.nil_append, List.getD_cons_zero, List.getD_cons_succ, List.map_cons, List.map_nil, iOf, bOf, sOf, pOf, slLen, slBase, cmpI, arI, Value.ite_bool, int_beq, int_bne, ite_band, ite_bor, decide_eq_false_iff_not] at g
    have : k = p.blocks.length := by omega
    subst this
    obtain ⟨S3, s3, l3, h5⟩ := h3.freeze
    exact ⟨PH.le_trans lf (PH.le_trans l1 (PH.le_trans l3 h5.sh)), v, rfl, s3.le h5.sh⟩
set_option maxHeartbeats 1000000 in
theorem LAcross_tri (p : PrcX) (bv : Value) (block : Int) (S : PH) (hbv : SlR S p.blocks bv) (hp : p.Fit) (hE : ∀ b ∈ p.blocks, b.e.args.length ≤ 2000000) :
    Tri Try.prog n_live_Across #[.agg (prcVs p bv).toArray, .int .i64 block] S fun x S' => PH.le S S' ∧ ∃ v, x = .returned v ∧ SlR S' (acrossL p block) v := by
  have hN := hp.n
  have hbv0 := hbv
  obtain ⟨b0, c0, rfl⟩ := hbv.sl
  refine tri_live_Across (prcVs p (.slice b0 p.blocks.length c0) ++ [.int .i64 block]) (by kernel_rfl) (by kernel_rfl) ?_
  simp only [prcVs, List.cons_append, List.nil_append]
  refine ⟨fun g => ?_, fun g => ?_⟩
  · simp only [ev0, ev, evV, List.cons_append, List.nil_append, List.getD_cons_zero, List.getD_cons_succ, List.map_cons, List.map_nil, iOf, bOf, sOf, pOf, slLen, slBase, cmpI, arI, Value.ite_bool, int_beq, int_bne, ite_band, ite_bor] at g
    simp only [Bool.or_eq_true, decide_eq_true_eq] at g
    exact ⟨PH.le_refl S, _, rfl, by rw [acrossL_none (by omega)]; exact nil_slR S⟩
  simp only [ev0, ev, evV, List.cons_append, List.nil_append, List.getD_cons_zero, List.getD_cons_succ, List.map_cons, List.map_nil, iOf, bOf, sOf, pOf, slLen, slBase, cmpI, arI, Value.ite_bool, int_beq, int_bne, ite_band, ite_bor] at g
  simp only [Bool.or_eq_false_iff, decide_eq_false_iff_not] at g
  obtain ⟨i, rfl⟩ : ∃ i : Nat, block = (i : Int) := ⟨block.toNat, by omega⟩
  have hi : i < p.blocks.length := by omega
  obtain ⟨b, hb⟩ : ∃ b, p.blocks[i]? = some b := ⟨_, List.getElem?_eq_getElem hi⟩
  rw [acrossL_at hb]
  obtain ⟨q1, _, ces, q2, q3⟩ := hbv.get hb
  obtain ⟨iv, es, rfl, his, hes⟩ := blk_iff.1 q2
  obtain ⟨av, rfl, e1, e2, hea, e3, e4, e5⟩ := end_iff.1 hes
  obtain ⟨b3, c3, rfl⟩ := hea.sl
  refine ⟨fun _ => ?_, [.int .i64 b.e.kind, .int .i64 b.e.reg, .slice b3 b.e.args.length c3, .int .i64 b.e.to, .int .i64 b.e.next, .int .i64 b.e.els], rfl, ?_, ?_⟩
  · simp only [Chk.holds, ev0, ev, evV, List.cons_append, List.nil_append, List.getD_cons_zero, List.getD_cons_succ, List.map_cons, List.map_nil, iOf, bOf, sOf, pOf, slLen, slBase, cmpI, arI, Value.ite_bool, int_beq, int_bne, ite_band, ite_bor]; exact ⟨q1, by omega, by omega⟩
  · simp only [ev0, ev, evV, List.cons_append, List.nil_append, List.getD_cons_zero, List.getD_cons_succ, List.map_cons, List.map_nil, iOf, bOf, sOf, pOf, slLen, slBase, cmpI, arI, Value.ite_bool, int_beq, int_bne, ite_band, ite_bor]; exact rowAt_sub q3 1 6
  refine den_gives [.bool b.e.calls] cb_live_calls (calls_gives b.e _ S hea) rfl pendNil fun K1 l1 => ⟨fun g1 => ?_, fun g1 => ?_⟩
  · simp only [ev0, ev, evV, List.cons_append, List.nil_append, List.getD_cons_zero, List.getD_cons_succ, List.map_cons, List.map_nil, iOf, bOf, sOf, pOf, slLen, slBase, cmpI, arI, Value.ite_bool, int_beq, int_bne, ite_band, ite_bor] at g1
    simp only [Bool.or_eq_true, Bool.not_eq_true', decide_eq_true_eq] at g1
    refine ⟨l1, _, rfl, ?_⟩
    have : ¬ b.crosses p.blocks.length := by
      rintro ⟨h1, h2, h3⟩
      rw [h1] at g1
      rcases g1 with (g1 | g1) | g1
      · cases g1
      · omega
      · omega
    rw [if_neg this]
    exact nil_slR K1
  · simp only [ev0, ev, evV, List.cons_append, List.nil_append, List.getD_cons_zero, List.getD_cons_succ, List.map_cons, List.map_nil, iOf, bOf, sOf, pOf, slLen, slBase, cmpI, arI, Value.ite_bool, int_beq, int_bne, ite_band, ite_bor] at g1
    simp only [Bool.or_eq_false_iff, Bool.not_eq_false', decide_eq_false_iff_not] at g1
    obtain ⟨⟨g2, g3⟩, g4⟩ := g1
    have hc : b.crosses p.blocks.length := ⟨g2, by omega, by omega⟩
    rw [if_pos hc]
    obtain ⟨m, hm⟩ : ∃ m : Nat, b.e.next = (m : Int) := ⟨b.e.next.toNat, by omega⟩
    have hmN : m < p.blocks.length := by omega
    rw [hm, Int.toNat_natCast]
    refine den_call cb_live_solved (solved_tri p (.slice b0 p.blocks.length c0) K1 (hbv.le l1) hp hE) ?_
    rintro x K2 ⟨fb, ib, ims, sets, Sf, lf, rfl, h1, hil, him, hnd, hmem⟩
    obtain ⟨mv, hmv⟩ : ∃ mv, ims[m]? = some mv := ⟨_, List.getElem?_eq_getElem (by omega)⟩
    have hno := (him m mv hmv).2
    obtain ⟨rt, est, clt, rfl, hrt, hst⟩ := (him m mv hmv).1
    have hK1 : K1 rt = none := hno rt rfl
    have hib : K2 ib = some (.cells ims.toArray 65 (0, 0)) := h1.blk (List.mem_cons_of_mem _ (List.mem_cons_self ..))
    have hreg : ∀ y ∈ sets m, y ∈ p.regl := fun y hy => live_regl (liveB_at ((hmem m y hmN).1 hy))
    refine ⟨_, [pAt fb], rfl, rfl, rfl, pendNil, ?_⟩
    refine ⟨fun _ => rfl, ?_⟩
    refine den_bxLoad [.slice (some ⟨ib, 0, none⟩) p.blocks.length p.blocks.length] (off := 4) (by kernel_rfl) h1 (List.mem_cons_self ..) rfl rfl ?_
    refine ⟨fun _ => ?_, [.map (some rt)], rfl, ?_, ?_⟩
    · simp only [Chk.holds, ev0, ev, evV, List.cons_append, List.nil_append, List.getD_cons_zero, List.getD_cons_succ, List.map_cons, List.map_nil, iOf, bOf, sOf, pOf, slLen, slBase, cmpI, arI, Value.ite_bool, int_beq, int_bne, ite_band, ite_bor]; exact ⟨rfl, by omega, by omega⟩
    · simp only [ev0, ev, evV, List.cons_append, List.nil_append, List.getD_cons_zero, List.getD_cons_succ, List.map_cons, List.map_nil, iOf, bOf, sOf, pOf, slLen, slBase, cmpI, arI, Value.ite_bool, int_beq, int_bne, ite_band, ite_bor]; exact inB_row (n := p.blocks.length) hib hmv
    have hown : Held K1 K2 [.blk rt (.map est clt)] := ⟨PH.le_trans lf h1.sh, fun i hi => by rw [List.mem_singleton.1 hi]; exact h1.sh _ _ hrt, fun i hi g hg => by
      rw [List.mem_singleton.1 hi] at hg
      simp only [Itm.ob, Option.some.injEq] at hg
      subst hg; exact hK1, List.pairwise_singleton _ _⟩
    refine den_call cb_live_set_int___drop (setDrop_tri rt est clt (sets m) b.e.to K1 K2 hown hst) ?_
    rintro x K3 ⟨es3, cl3, rfl, h3, hs3⟩
    refine ⟨_, [], rfl, rfl, rfl, pendNil, ?_⟩
    have hreg3 : ∀ y ∈ (sets m).filter (fun y => decide (y ≠ b.e.to)), y ∈ p.regl := fun y hy => hreg y (List.mem_filter.1 hy).1
    refine den_call cb_live_set_int___rising (rising_tri rt es3 cl3 _ K1 K3 _ h3 (.inr (List.mem_cons_self ..)) hs3 (fun y hy => regl_InI (hbv0.le l1) y (hreg3 y hy)) (Nat.le_trans (set_len hp hs3.nodup hreg3) (by omega))) ?_
    rintro x K4 ⟨S4, wv, l4, rfl, hwv, h4⟩
    have heq : sortI ((sets m).filter fun y => decide (y ≠ b.e.to)) = (liveL p m 0).filter fun x => decide (x ≠ b.e.to) := by
      refine rises_eq (sortI_rises hs3.nodup) ((liveL_rises p m 0).sublist List.filter_sublist) fun x => ?_
      rw [sortI_mem, List.mem_filter, List.mem_filter, hmem m x hmN, liveL_mem, liveB_iff]
    rw [heq] at hwv
    obtain ⟨b6, c6, rfl⟩ := hwv.sl
    exact ⟨_, [_], rfl, rfl, rfl, pendNil, PH.le_trans l1 (PH.le_trans l4 h4.sh), _, rfl, hwv.le h4.sh⟩
end Go.Proofs.Ytlbbmcpppfiplaa.Vc
/-
  LIVE: what is live behind each instruction, by the program.
-/
namespace Go.Proofs.Ytlbbmcpppfiplaa.Vc
open Go

/-! ### a row turned round -/
structure RevAt {α : Type} (l m : List α) (i : Nat) : Prop where
  len : m.length = l.length
  at_ : ∀ t, t < l.length → m[t]? = if t < i ∨ l.length ≤ t + i then l[l.length - 1 - t]? else l[t]?
theorem RevAt.first {α : Type} (l : List α) : RevAt l l 0 := ⟨rfl, fun t h => by rw [if_neg (by omega)]⟩
theorem RevAt.step {α : Type} {l m : List α} {i : Nat} {a b : α} (h : RevAt l m i) (hi : 2 * i + 1 < l.length) (ha : m[i]? = some a) (hb : m[l.length - 1 - i]? = some b) : RevAt l ((m.set i b).set (l.length - 1 - i) a) (i + 1) := by
  have ha' := h.at_ i (by omega)
  have hb' := h.at_ (l.length - 1 - i) (by omega)
  rw [if_neg (by omega)] at ha' hb'
  refine ⟨by simpa using h.len, fun t ht => ?_⟩
  rw [List.getElem?_set, List.length_set, h.len, List.getElem?_set, h.len]
  by_cases e1 : l.length - 1 - i = t
  · rw [if_pos e1, if_pos (by omega), if_pos (by omega), ← ha, ha']
    congr 1; omega
  · rw [if_neg e1]
    by_cases e2 : i = t
    · rw [if_pos e2, if_pos (by omega), if_pos (by omega), ← hb, hb']
      congr 1; omega
    · rw [if_neg e2, h.at_ t ht]
      by_cases e3 : t < i ∨ l.length ≤ t + i
      · rw [if_pos e3, if_pos (by omega)]
      · rw [if_neg e3, if_neg (by omega)]
theorem RevAt.done {α : Type} {l m : List α} {i : Nat} (h : RevAt l m i) (hi : l.length ≤ 2 * i + 1) : m = l.reverse := by
  refine List.ext_getElem? fun t => ?_
  by_cases ht : t < l.length
  · rw [List.getElem?_reverse ht, h.at_ t ht]
    by_cases e : t < i ∨ l.length ≤ t + i
    · rw [if_pos e]
    · rw [if_neg e]; congr 1; omega
  · rw [List.getElem?_eq_none (by rw [h.len]; omega), List.getElem?_eq_none (by rw [List.length_reverse]; omega)]
set_option maxHeartbeats 1000000 in
theorem Reverse_tri (l : List (List Int)) (v : Value) (S K : PH) (I : List Itm) (h : Held S K (orow 30 l v :: I)) (hl : l.length ≤ 4000000) :
    Tri Try.prog n_slices_Reverse_____int___int_ #[v] K fun x K' => x = .returned (.tuple #[]) ∧ Held S K' (orow 30 l.reverse v :: I) := by
  obtain ⟨b, c, rfl⟩ := (h.row (List.mem_cons_self ..)).sl
  refine tri_slices_Reverse_____int___int_ [.slice b l.length c] (by kernel_rfl) (by kernel_rfl) ?_
  refine ⟨fun n vs K' => ∃ (i : Nat) (m : List (List Int)), vs = [nI i, .int .i64 ((l.length : Int) - 1 - i)] ∧ n = l.length - i ∧ i ≤ l.length ∧ RevAt l m i ∧ Held S K' (orow 30 m (.slice b l.length c) :: I), ⟨_, 0, l, ?_, rfl, by omega, RevAt.first l, h⟩, ?_⟩
  · simp only [ev0, ev, evV, List.cons_append, List.nil_append, List.getD_cons_zero, List.getD_cons_succ, List.map_cons, List.map_nil, iOf, bOf, sOf, pOf, slLen, slBase, cmpI, arI, Value.ite_bool, int_beq, int_bne, ite_band, ite_bor]
    rw [w64 (by omega) (by omega)]
    simp
  rintro n vs K1 _ ⟨i, m, rfl, rfl, hil, hr, h1⟩
  refine ⟨fun g => ?_, fun g => ?_⟩
  · simp only [ev0, ev, evV, List.cons_append, List.nil_append, List.getD_cons_zero, List.getD_cons_succ, List.map_cons, List.map_nil, iOf, bOf, sOf, pOf, slLen, slBase, cmpI, arI, Value.ite_bool, int_beq, int_bne, ite_band, ite_bor, decide_eq_true_eq] at g
    have hi2 : 2 * i + 1 < l.length := by omega
    obtain ⟨k, hk⟩ : ∃ k : Nat, (l.length : Int) - 1 - i = (k : Int) := ⟨l.length - 1 - i, by omega⟩
    have hk' : k = l.length - 1 - i := by omega
    rw [hk]
    obtain ⟨a, ha⟩ : ∃ a, m[i]? = some a := ⟨_, List.getElem?_eq_getElem (by rw [hr.len]; omega)⟩
    obtain ⟨z, hz⟩ : ∃ z, m[k]? = some z := ⟨_, List.getElem?_eq_getElem (by rw [hr.len]; omega)⟩
    obtain ⟨a1, _, acs, a2, a3⟩ := (h1.row (List.mem_cons_self ..)).get ha
    obtain ⟨z1, _, zcs, z2, z3⟩ := (h1.row (List.mem_cons_self ..)).get hz
    obtain ⟨av, rfl, a4⟩ := csLK a2
    obtain ⟨zv, rfl, z4⟩ := csLK z2
    have a4' := a4
    have z4' := z4
    obtain ⟨ab, ac, rfl⟩ := a4'.sl
    obtain ⟨zb, zc, rfl⟩ := z4'.sl
    refine ⟨fun _ => ?_, [.slice zb z.length zc], rfl, ?_, fun _ => ?_, [.slice ab a.length ac], rfl, ?_, ?_⟩
    · simp only [Chk.holds, ev0, ev, evV, List.cons_append, List.nil_append, List.getD_cons_zero, List.getD_cons_succ, List.map_cons, List.map_nil, iOf, bOf, sOf, pOf, slLen, slBase, cmpI, arI, Value.ite_bool, int_beq, int_bne, ite_band, ite_bor]; exact ⟨z1, by omega, by omega⟩
    · simp only [ev0, ev, evV, List.cons_append, List.nil_append, List.getD_cons_zero, List.getD_cons_succ, List.map_cons, List.map_nil, iOf, bOf, sOf, pOf, slLen, slBase, cmpI, arI, Value.ite_bool, int_beq, int_bne, ite_band, ite_bor]; exact z3
    · simp only [Chk.holds, ev0, ev, evV, List.cons_append, List.nil_append, List.getD_cons_zero, List.getD_cons_succ, List.map_cons, List.map_nil, iOf, bOf, sOf, pOf, slLen, slBase, cmpI, arI, Value.ite_bool, int_beq, int_bne, ite_band, ite_bor]; exact ⟨a1, by omega, by omega⟩
    · simp only [ev0, ev, evV, List.cons_append, List.nil_append, List.getD_cons_zero, List.getD_cons_succ, List.map_cons, List.map_nil, iOf, bOf, sOf, pOf, slLen, slBase, cmpI, arI, Value.ite_bool, int_beq, int_bne, ite_band, ite_bor]; exact a3
    refine den_hPutZ (i := i) (a := a) (a' := z) (us := [.slice zb z.length zc]) ?_ h1 ha rfl ?_ (by simp [oneC]) (csLK_mk z4) fun K2 h2 => ?_
    · simp only [ev0, ev, evV, List.cons_append, List.nil_append, List.getD_cons_zero, List.getD_cons_succ, List.map_cons, List.map_nil, iOf, bOf, sOf, pOf, slLen, slBase, cmpI, arI, Value.ite_bool, int_beq, int_bne, ite_band, ite_bor]; rfl
    · simp only [ev0, ev, evV, List.cons_append, List.nil_append, List.getD_cons_zero, List.getD_cons_succ, List.map_cons, List.map_nil, iOf, bOf, sOf, pOf, slLen, slBase, cmpI, arI, Value.ite_bool, int_beq, int_bne, ite_band, ite_bor]
    have hz' : (m.set i z)[k]? = some z := by
      rw [List.getElem?_set, if_neg (by omega)]; exact hz
    refine den_hPutZ (i := k) (a := z) (a' := a) (us := [.slice ab a.length ac]) ?_ h2 hz' rfl ?_ (by simp [oneC]) (csLK_mk a4) fun K3 h3 => ?_
    · simp only [ev0, ev, evV, List.cons_append, List.nil_append, List.getD_cons_zero, List.getD_cons_succ, List.map_cons, List.map_nil, iOf, bOf, sOf, pOf, slLen, slBase, cmpI, arI, Value.ite_bool, int_beq, int_bne, ite_band, ite_bor]; rfl
    · simp only [ev0, ev, evV, List.cons_append, List.nil_append, List.getD_cons_zero, List.getD_cons_succ, List.map_cons, List.map_nil, iOf, bOf, sOf, pOf, slLen, slBase, cmpI, arI, Value.ite_bool, int_beq, int_bne, ite_band, ite_bor]
    refine ⟨_, lookup_hit, l.length - (i + 1), by omega, i + 1, (m.set i z).set k a, ?_, rfl, by omega, ?_, h3⟩
    · simp only [ev0, ev, evV, List.cons_append, List.nil_append, List.getD_cons_zero, List.getD_cons_succ, List.map_cons, List.map_nil, iOf, bOf, sOf, pOf, slLen, slBase, cmpI, arI, Value.ite_bool, int_beq, int_bne, ite_band, ite_bor]
      rw [w64 (by omega) (by omega), w64 (by omega) (by omega)]
      congr 2
      congr 1
      omega
    · subst hk'; exact hr.step hi2 ha hz
  · simp only [ev0, ev, evV, List.cons_append, List.nil_append, List.getD_cons_zero, List.getD_cons_succ, List.map_cons, List.map_nil, iOf, bOf, sOf, pOf, slLen, slBase, cmpI, arI, Value.ite_bool, int_beq, int_bne, ite_band, ite_bor, decide_eq_false_iff_not] at g
    have := hr.done (by omega)
    subst this
    exact ⟨rfl, h1⟩

/-! ### behind -/
/-- what stands in the row after so many rounds -/
noncomputable def backL (p : PrcX) (i n j : Nat) : List (List Int) := (List.range j).map fun t => liveL p i (n - t)
theorem backL_all (p : PrcX) (i : Nat) (b : BlkX) : (backL p i b.ins.length b.ins.length).reverse = behL p i b := by
  unfold backL behL
  refine List.ext_getElem? fun t => ?_
  by_cases ht : t < b.ins.length
  · rw [List.getElem?_reverse (by simpa using ht), List.length_map, List.length_range, List.getElem?_map, List.getElem?_map, List.getElem?_range (by omega), List.getElem?_range ht]
    simp only [Option.map_some]
    congr 2; omega
  · rw [List.getElem?_eq_none (by simp; omega), List.getElem?_eq_none (by simp; omega)]
theorem outS_live {p : PrcX} {sets : Nat → List Int} (hmem : ∀ c y, c < p.blocks.length → (y ∈ sets c ↔ LiveB p y c)) (b : BlkX) (y : Int) : outS p sets b y ↔ endLive b.e p.blocks.length y (LiveB p y) := by
  unfold outS endLive
  constructor
  · rintro (h | ⟨h1, c, h2, h3⟩)
    · exact .inl h
    · have hc : c < p.blocks.length := by have := (List.mem_filter.1 h2).2; simp at this; omega
      exact .inr ⟨h1, c, h2, (hmem c y hc).1 h3⟩
  · rintro (h | ⟨h1, c, h2, h3⟩)
    · exact .inl h
    · have hc : c < p.blocks.length := by have := (List.mem_filter.1 h2).2; simp at this; omega
      exact .inr ⟨h1, c, h2, (hmem c y hc).2 h3⟩
theorem thru_live {p : PrcX} {sets : Nat → List Int} (hmem : ∀ c y, c < p.blocks.length → (y ∈ sets c ↔ LiveB p y c)) {i : Nat} {b : BlkX} (hb : p.blocks[i]? = some b) (k : Nat) (y : Int) : thru y (b.ins.drop k) (outS p sets b y) ↔ LiveAt p y i k := by
  constructor
  · exact fun h => ⟨b, hb, thru_mono (outS_live hmem b y).1 h⟩
  · rintro ⟨b', hb', h⟩
    rw [hb] at hb'; cases hb'
    exact thru_mono (outS_live hmem b y).2 h
set_option maxHeartbeats 4000000 in
theorem LBehind_tri (p : PrcX) (bv : Value) (block : Int) (S : PH) (hbv : SlR S p.blocks bv) (hp : p.Fit) (hE : ∀ b ∈ p.blocks, b.e.args.length ≤ 2000000) :
    Tri Try.prog n_live_Behind #[.agg (prcVs p bv).toArray, .int .i64 block] S fun x S' => PH.le S S' ∧ ∃ v, x = .returned v ∧ SlR S' (behindL p block) v := by
  have hN := hp.n
  have hbv0 := hbv
  obtain ⟨b0, c0, rfl⟩ := hbv.sl
  refine tri_live_Behind (prcVs p (.slice b0 p.blocks.length c0) ++ [.int .i64 block]) (by kernel_rfl) (by kernel_rfl) ?_
  simp only [prcVs, List.cons_append, List.nil_append]
  refine ⟨fun g => ?_, fun g => ?_⟩
  · simp only [ev0, ev, evV, List.cons_append, List.nil_append, List.getD_cons_zero, List.getD_cons_succ, List.map_cons, List.map_nil, iOf, bOf, sOf, pOf, slLen, slBase, cmpI, arI, Value.ite_bool, int_beq, int_bne, ite_band, ite_bor] at g
    simp only [Bool.or_eq_true, decide_eq_true_eq] at g
    refine ⟨PH.le_refl S, _, rfl, ?_⟩
    have : behindL p block = [] := by
      unfold behindL
      by_cases h0 : block < 0
      · rw [if_pos h0]
      · rw [if_neg h0, List.getElem?_eq_none (by omega)]
    rw [this]
    exact nil_slR S
  simp only [ev0, ev, evV, List.cons_append, List.nil_append, List.getD_cons_zero, List.getD_cons_succ, List.map_cons, List.map_nil, iOf, bOf, sOf, pOf, slLen, slBase, cmpI, arI, Value.ite_bool, int_beq, int_bne, ite_band, ite_bor] at g
  simp only [Bool.or_eq_false_iff, decide_eq_false_iff_not] at g
  obtain ⟨i, rfl⟩ : ∃ i : Nat, block = (i : Int) := ⟨block.toNat, by omega⟩
  have hi : i < p.blocks.length := by omega
  obtain ⟨b, hb⟩ : ∃ b, p.blocks[i]? = some b := ⟨_, List.getElem?_eq_getElem hi⟩
  have hbe : behindL p (i : Int) = behL p i b := by
    unfold behindL
    rw [if_neg (by omega), Int.toNat_natCast, hb]
  rw [hbe]
  have hbl := hp.ins b (List.mem_of_getElem? hb)
  refine den_call cb_live_solved (solved_tri p (.slice b0 p.blocks.length c0) S hbv hp hE) ?_
  rintro x K1 ⟨fb, ib, ims, sets, Sf, lf, rfl, h1, hil, him, hnd, hmem⟩
  refine ⟨_, [pAt fb], rfl, rfl, rfl, pendNil, ?_⟩
  refine den_call cb_live_flow__out (out_tri p _ fb ib ims sets i b Sf K1 (hbv.le lf) hb hN (Nat.le_trans (hE b (List.mem_of_getElem? hb)) (by omega)) hil (fun c v h => (him c v h).1) h1) ?_
  rintro x K2 ⟨S2, ro, es2, cl2, s2, l2, rfl, h2, hs2, hm2⟩
  refine ⟨_, [.map (some ro)], rfl, rfl, rfl, pendNil, ?_⟩
  refine den_bxNew (vs := [.map none]) h2 (by kernel_rfl) fun sb K3 _ h3 => ?_
  refine den_bxStore (off := 0) (vs := [.map (some ro)]) (by kernel_rfl) h3 (by kernel_rfl) (by simp [oneC]) (by simp) fun K4 h4 => ?_
  have h4 : Held S2 K4 [bx sb 65 [.map (some ro)], .blk ro (.map es2 cl2), flowB fb p (.slice b0 p.blocks.length c0) (.slice (some ⟨ib, 0, none⟩) p.blocks.length p.blocks.length), inB ib ims] := h4
  refine den_bxNew (vs := [.slice none 0 0]) (h4.sub (J := [bx sb 65 [.map (some ro)], .blk ro (.map es2 cl2)]) ((List.sublist_append_left [bx sb 65 [.map (some ro)], .blk ro (.map es2 cl2)] _))) (by kernel_rfl) fun ob K5 _ h5 => ?_
  have h5 := h5.empty (α := List Int) 30
  obtain ⟨q1, _, ces, q2, q3⟩ := (hbv.le (PH.le_trans lf l2)).get hb
  obtain ⟨iv, esv, rfl, his, hes⟩ := blk_iff.1 q2
  obtain ⟨b2, c2, rfl⟩ := his.sl
  refine ⟨fun _ => ?_, [.slice b2 b.ins.length c2], rfl, ?_, ?_⟩
  · simp only [Chk.holds, ev0, ev, evV, List.cons_append, List.nil_append, List.getD_cons_zero, List.getD_cons_succ, List.map_cons, List.map_nil, iOf, bOf, sOf, pOf, slLen, slBase, cmpI, arI, Value.ite_bool, int_beq, int_bne, ite_band, ite_bor]; exact ⟨q1, by omega, by omega⟩
  · simp only [ev0, ev, evV, List.cons_append, List.nil_append, List.getD_cons_zero, List.getD_cons_succ, List.map_cons, List.map_nil, iOf, bOf, sOf, pOf, slLen, slBase, cmpI, arI, Value.ite_bool, int_beq, int_bne, ite_band, ite_bor]; exact rowAt_sub (rowAt_le h5.sh q3) 0 1
  refine den_call cb_slices_Backward___api_Ins_api_Ins_ (h5.pure (R := fun x S' => ∃ q : Nat, x = .returned (.func (.func 57) #[] #[.pointer (some ⟨q, 0, none⟩)]) ∧ rowAt S' (some ⟨q, 0, none⟩) [.slice b2 b.ins.length c2]) ((Backward_tri b.ins _ S2 his).mono fun x S' ⟨q, t1, t2, t3⟩ => ⟨t1, q, t2, t3⟩)) ?_
  rintro x K9 ⟨S9, l9, h9, q, rfl, hq⟩
  refine ⟨_, [.func (.func 57) #[] #[.pointer (some ⟨q, 0, none⟩)]], rfl, rfl, rfl, pendNil, ?_⟩
  obtain ⟨cells, hcells⟩ := (his.le l9).fn
  have hc8 : ∀ j', j' < b.ins.length → (cells (b.ins.length - 1 - j')).length = 8 := fun j' hj' => by
    obtain ⟨y, hy⟩ : ∃ y, b.ins[b.ins.length - 1 - j']? = some y := ⟨_, List.getElem?_eq_getElem (by omega)⟩
    have := (hcells _ y hy).1
    exact PV.RepRow.length this
  refine ⟨S9, b.ins.length, fun j' => nI (b.ins.length - 1 - j') :: cells (b.ins.length - 1 - j'), fun j' H' => ∃ (es : Array MapEntry) (cl : Nat) (s : List Int) (v : Value) (S' : PH), PH.le S9 S' ∧ Held S' H' [orow 30 (backL p i b.ins.length j') v, bx ob 27 [v], bx sb 65 [.map (some ro)], .blk ro (.map es cl)] ∧ SetAt es cl s ∧ ∀ y, y ∈ s ↔ thru y (b.ins.drop (b.ins.length - j')) (outS p sets b y), h9.sh, ?_, ?_, ?_, ?_, ?_⟩
  · refine Iter.congr (fun j' hj' => ?_) (backward_iter b.ins S9 _ _ hq (his.le l9) (by omega) cells hcells)
    have := hc8 j' hj'
    simp [packAll, RS.pack, RS.tags, List.take_of_length_le, this]
  · rintro j' H' ⟨es, cl, s, v, S', l', hh, _⟩; exact PH.le_trans l' hh.sh
  · exact ⟨es2, cl2, s2, .slice none 0 0, S9, PH.le_refl _, by simpa [backL] using h9, hs2, fun y => by rw [Nat.sub_zero, List.drop_length]; exact hm2 y⟩
  · rintro j' H' hj' ⟨es, cl, s, v, S', l', hh, hs, hm⟩
    obtain ⟨y, hy⟩ : ∃ y, b.ins[b.ins.length - 1 - j']? = some y := ⟨_, List.getElem?_eq_getElem (by omega)⟩
    obtain ⟨hyc, _⟩ := hcells _ y hy
    have hyc' := hyc
    obtain ⟨av, dv, hcell, _, _, hya, _, _, _, hyd, _⟩ := ins_iff.1 hyc
    obtain ⟨ab, ac, rfl⟩ := hya.sl
    obtain ⟨db, dc, rfl⟩ := hyd.sl
    simp only [hcell]
    rw [hcell] at hyc'
    obtain ⟨vb, vc, rfl⟩ := (hh.row (List.mem_cons_self ..)).sl
    have hml : ∀ z, z ∈ s ↔ LiveAt p z i (b.ins.length - j') := fun z => by rw [hm, thru_live hmem hb]
    have hreg : ∀ z ∈ s, z ∈ p.regl := fun z hz => live_regl ((hml z).1 hz)
    have hbk : (backL p i b.ins.length j').length = j' := by simp [backL]
    refine ⟨rfl, ?_⟩
    refine den_bxLoad [.slice vb (backL p i b.ins.length j').length vc] (off := 0) (by kernel_rfl) hh (List.mem_cons_of_mem _ (List.mem_cons_self ..)) rfl rfl ?_
    refine den_bxLoad [.map (some ro)] (off := 0) (by kernel_rfl) hh (List.mem_cons_of_mem _ (List.mem_cons_of_mem _ (List.mem_cons_self ..))) rfl rfl ?_
    refine den_call cb_live_set_int___rising (rising_tri ro es cl s S' H' _ hh (.inr (by simp)) hs (fun z hz => regl_InI hbv0 z (hreg z hz)) (Nat.le_trans (set_len hp hs.nodup hreg) (by omega))) ?_
    rintro x K10 ⟨S10, wv, l10, rfl, hwv, h10⟩
    rw [sort_liveAt hs.nodup hml] at hwv
    obtain ⟨b3, c3, rfl⟩ := hwv.sl
    refine ⟨_, [.slice b3 (liveL p i (b.ins.length - j')).length c3], rfl, rfl, rfl, ?_, ?_⟩
    · intro x hx
      rw [List.mem_singleton.1 hx]
      exact bx_row h10 (List.mem_cons_of_mem _ (List.mem_cons_self ..)) 0 1
    have hst : backL p i b.ins.length (j' + 1) = backL p i b.ins.length j' ++ [liveL p i (b.ins.length - j')] := by unfold backL; rw [List.range_succ, List.map_append]; rfl
    refine den_hPush (more := [liveL p i (b.ins.length - j')]) (b := 24) [.slice b3 (liveL p i (b.ins.length - j')).length c3] uIntssK elemIntsK rfl (by decide) (by decide) h10 (by kernel_rfl) (.cons (csLK_mk hwv) .nil) ?_ (fun _ => by kernel_rfl) (fun _ => by kernel_rfl)
      (by rw [hbk]; simp only [maxLen, List.length_cons, List.length_nil]; omega) (by rw [hbk]; simp only [List.length_cons, List.length_nil]; omega) fun u v' S11 K11 l11 h11 => ⟨pendNil, ?_⟩
    · intro x hx
      rw [List.mem_singleton.1 hx]
      exact bx_row h10 (List.mem_cons_of_mem _ (List.mem_cons_self ..)) 0 1
    rw [← hst] at h11
    obtain ⟨vb', vc', rfl⟩ := (h11.row (List.mem_cons_self ..)).sl
    refine den_bxStore (off := 0) (vs := [.slice vb' (backL p i b.ins.length (j' + 1)).length vc']) (by kernel_rfl) (h11.perm (List.Perm.swap _ _ _)) (by kernel_rfl) (by simp [oneC]) (by simp) fun K12 h12 => ?_
    have h12 : Held S11 K12 [bx ob 27 [.slice vb' (backL p i b.ins.length (j' + 1)).length vc'], orow 30 (backL p i b.ins.length (j' + 1)) (.slice vb' (backL p i b.ins.length (j' + 1)).length vc'), bx sb 65 [.map (some ro)], .blk ro (.map es cl)] := h12
    refine den_bxLoad [.map (some ro)] (off := 0) (by kernel_rfl) h12 (List.mem_cons_of_mem _ (List.mem_cons_of_mem _ (List.mem_cons_self ..))) rfl rfl ?_
    have hperm : [bx ob 27 [.slice vb' (backL p i b.ins.length (j' + 1)).length vc'], orow 30 (backL p i b.ins.length (j' + 1)) (.slice vb' (backL p i b.ins.length (j' + 1)).length vc'), bx sb 65 [.map (some ro)], .blk ro (.map es cl)].Perm ([.blk ro (.map es cl)] ++ [orow 30 (backL p i b.ins.length (j' + 1)) (.slice vb' (backL p i b.ins.length (j' + 1)).length vc'), bx ob 27 [.slice vb' (backL p i b.ins.length (j' + 1)).length vc'], bx sb 65 [.map (some ro)]]) := by
      refine (List.Perm.swap _ _ _).trans ?_
      exact (List.perm_append_comm (l₁ := [orow 30 (backL p i b.ins.length (j' + 1)) (.slice vb' (backL p i b.ins.length (j' + 1)).length vc'), bx ob 27 [.slice vb' (backL p i b.ins.length (j' + 1)).length vc'], bx sb 65 [.map (some ro)]]) (l₂ := [.blk ro (.map es cl)]))
    have lS : PH.le S' S11 := PH.le_trans l10 l11
    refine den_call cb_live_through (Held.call (P := Try.prog) (f := n_live_through) (args := #[.map (some ro), .agg (List.toArray _)]) (J := [.blk ro (.map es cl)]) (I := [orow 30 (backL p i b.ins.length (j' + 1)) (.slice vb' (backL p i b.ins.length (j' + 1)).length vc'), bx ob 27 [.slice vb' (backL p i b.ins.length (j' + 1)).length vc'], bx sb 65 [.map (some ro)]])
      (R := fun e S'' J' => S'' = S11 ∧ ∃ es' cl' s', e = .returned (.tuple #[]) ∧ J' = [.blk ro (.map es' cl')] ∧ SetAt es' cl' s' ∧ ∀ z, z ∈ s' ↔ (z ∈ y.args ∨ (¬ y.fills z ∧ z ∈ s))) (h12.perm hperm)
      (fun K' hK => (through_tri ro es cl s y _ S11 K' (PV.RepRow.le (PH.le_trans l' lS) hyc') hK hs).mono fun e K'' ⟨es', cl', s', t1, t2, t3, t4⟩ => ⟨S11, _, PH.le_refl _, t2, rfl, es', cl', s', t1, rfl, t3, t4⟩)) ?_
    rintro e K'' ⟨S'', J', _, hh', rfl, es', cl', s', rfl, rfl, hs', hm'⟩
    refine ⟨_, [], rfl, rfl, rfl, pendNil, _, lookup_hit, es', cl', s', .slice vb' (backL p i b.ins.length (j' + 1)).length vc', S'', PH.le_trans l' lS, hh'.perm ?_, hs', fun z => ?_⟩
    · exact List.perm_append_comm (l₁ := [.blk ro (.map es' cl')]) (l₂ := [orow 30 (backL p i b.ins.length (j' + 1)) (.slice vb' (backL p i b.ins.length (j' + 1)).length vc'), bx ob 27 [.slice vb' (backL p i b.ins.length (j' + 1)).length vc'], bx sb 65 [.map (some ro)]])
    · rw [hm', hm, thru_step hj' hy]
  · rintro H' ⟨es, cl, s, v, S', l', hh, hs, hm⟩
    obtain ⟨vb, vc, rfl⟩ := (hh.row (List.mem_cons_self ..)).sl
    have hbk : (backL p i b.ins.length b.ins.length).length = b.ins.length := by simp [backL]
    refine den_bxLoad [.slice vb (backL p i b.ins.length b.ins.length).length vc] (off := 0) (by kernel_rfl) hh (List.mem_cons_of_mem _ (List.mem_cons_self ..)) rfl rfl ?_
    refine den_call cb_slices_Reverse_____int___int_ (Reverse_tri _ _ S' H' _ hh (by rw [hbk]; omega)) ?_
    rintro x K13 ⟨rfl, h13⟩
    refine ⟨_, [], rfl, rfl, rfl, pendNil, ?_⟩
    refine den_bxLoad [.slice vb (backL p i b.ins.length b.ins.length).length vc] (off := 0) (by kernel_rfl) h13 (List.mem_cons_of_mem _ (List.mem_cons_self ..)) rfl rfl ?_
    rw [backL_all] at h13
    obtain ⟨S14, s14, l14, h14⟩ := h13.freeze
    exact ⟨PH.le_trans lf (PH.le_trans l2 (PH.le_trans l9 (PH.le_trans l' (PH.le_trans l14 h14.sh)))), _, rfl, s14.le h14.sh⟩
end Go.Proofs.Ytlbbmcpppfiplaa.Vc
/-
  LIVE: functions that come in; the fixed calls; LivingTells, LivingBehind.
-/
namespace Go.Proofs.Ytlbbmcpppfiplaa.Vc
open Go Go.ChangeShapes Go.WideShapes Go.ChangeAt Go.RowKit

/-! ### what comes in -/
theorem arg_intK {H : Type} {enc : TypeId × Value → H} {w : World} {v : Value} {d : DataW H} {p : List MemPlace} {r : Reach} {b : Nat} (hval : Value.okWide Try.prog w r b 3 v) (h : DataW.Trod enc Try.prog w 0 (fun _ => true) true 3 v d p) :
    ∃ n : Int, v = .int .i64 n ∧ InI n := by
  obtain ⟨n, rfl, rfl, rfl, hw⟩ := open_int (k := .i64) (by kernel_rfl) hval h
  refine ⟨n, rfl, ?_⟩
  simpa [Lit.wf, IntKind.min, IntKind.max, IntKind.bits, IntKind.signed, InI] using hw

/-! ### sizes -/
theorem ints_wt : ∀ l : List Int, sumWt (fun _ => 1) l = l.length
  | [] => rfl
  | a :: l => by simp only [sumWt, List.length_cons, ints_wt l]; omega
theorem sumWt_mem {α : Type} (f : α → Nat) : ∀ {l : List α} {a : α}, a ∈ l → f a ≤ sumWt f l
  | b :: l, a, h => by
    simp only [sumWt]
    rcases List.mem_cons.1 h with rfl | h
    · omega
    · have := sumWt_mem f h; omega
theorem sumWt_len1 {α : Type} (f : α → Nat) (hf : ∀ a, 1 ≤ f a) : ∀ l : List α, l.length ≤ sumWt f l
  | [] => Nat.le_refl _
  | a :: l => by
    have := sumWt_len1 f hf l
    have := hf a
    simp only [sumWt, List.length_cons]; omega
theorem flatMap_wt {α : Type} (f : α → Nat) (g : α → List Int) (h : ∀ a, (g a).length ≤ f a) : ∀ l : List α, (l.flatMap g).length ≤ sumWt f l
  | [] => Nat.le_refl _
  | a :: l => by
    have := flatMap_wt f g h l
    have := h a
    simp only [sumWt, List.flatMap_cons, List.length_append]; omega
theorem InsX.args_wt (x : InsX) : x.args.length + 1 ≤ x.wt := by
  unfold InsX.wt intsWt; rw [ints_wt]; omega
theorem EndX.regs_wt (e : EndX) : e.regs.length ≤ e.wt := by
  unfold EndX.wt intsWt EndX.regs; rw [ints_wt, List.length_append]
  have h1 : (if e.reads e.reg = true then [e.reg] else []).length ≤ 1 := by split <;> simp
  have h2 : (if e.kind = 3 ∨ e.kind = 4 then e.args else []).length ≤ e.args.length := by split <;> simp
  omega
theorem BlkX.regs_wt (b : BlkX) : b.regs.length ≤ b.wt := by
  have h1 := flatMap_wt InsX.wt (·.args) (fun x => by have := x.args_wt; omega) b.ins
  have h2 := b.e.regs_wt
  unfold BlkX.regs BlkX.wt
  rw [List.length_append]; omega
theorem PrcX.fit_wt {p : PrcX} (h : p.wt ≤ 1048576) : p.Fit ∧ ∀ b ∈ p.blocks, b.e.args.length ≤ 2000000 := by
  unfold PrcX.wt at h
  have h1 : ∀ b : BlkX, 1 ≤ b.wt := fun b => by unfold BlkX.wt; omega
  refine ⟨⟨?_, fun b hb => ?_, ?_⟩, fun b hb => ?_⟩
  · have := sumWt_len1 BlkX.wt h1 p.blocks; omega
  · have h2 := sumWt_mem BlkX.wt hb
    have h3 := sumWt_len1 InsX.wt (fun x => by have := x.args_wt; omega) b.ins
    have h4 : b.wt = sumWt InsX.wt b.ins + 1 + b.e.wt := rfl
    omega
  · have := flatMap_wt BlkX.wt BlkX.regs BlkX.regs_wt p.blocks
    unfold PrcX.regl; omega
  · have h2 := sumWt_mem BlkX.wt hb
    have h4 : b.wt = sumWt InsX.wt b.ins + 1 + b.e.wt := rfl
    have h5 : b.e.wt = 1 + 1 + (sumWt (fun _ => 1) b.e.args + 1) + 1 + 1 + 1 := rfl
    rw [ints_wt] at h5; omega

/-! ### the fixed calls -/
theorem fx_list {p : PrcX} {i a : Nat} {l : List Int} (hl : l.Pairwise (· < ·)) (h : ∀ x, LiveAt p x i a ↔ x ∈ l) : liveL p i a = l :=
  rises_eq (liveL_rises p i a) hl fun x => by rw [liveL_mem, h]
/-! ### the laws -/
end Go.Proofs.Ytlbbmcpppfiplaa.Vc
/-
  LIVE: LivingBack.
-/
namespace Go.Proofs.Ytlbbmcpppfiplaa.Vc
open Go

instance decFills (x : InsX) (r : Int) : Decidable (x.fills r) := by unfold InsX.fills; exact inferInstance
theorem lookup_skip {n m : Nat} {J J' : List Value → PH → Prop} {L : LK} (h : (n == m) = false) (hl : L.lookup n = some J) : ((m, J') :: L).lookup n = some J := by simp [List.lookup, h, hl]
theorem inL_get {p : PrcX} {i : Nat} (hi : i < p.blocks.length) : (inL p)[i]? = some (liveL p i 0) := by
  unfold inL
  rw [List.getElem?_map, List.getElem?_range hi]; rfl
theorem behL_get {p : PrcX} {i k : Nat} {b : BlkX} (hk : k < b.ins.length) : (behL p i b)[k]? = some (liveL p i (k + 1)) := by
  unfold behL
  rw [List.getElem?_map, List.getElem?_range hk]; rfl
theorem behL_len (p : PrcX) (i : Nat) (b : BlkX) : (behL p i b).length = b.ins.length := by simp [behL]
theorem txt_eqK (l : List UInt8) : cmpS .eql ⟨l.toArray⟩ ⟨#[116, 105, 101]⟩ = decide (l = tieB) := by
  show ((⟨l.toArray⟩ : ByteArray).toList == (⟨tieB.toArray⟩ : ByteArray).toList) = _
  rw [txt_eq]
end Go.Proofs.Ytlbbmcpppfiplaa.Vc
/-
  LIVE: LivingRead.
-/
namespace Go.Proofs.Ytlbbmcpppfiplaa.Vc
open Go

theorem InI0 : InI 0 := by decide
end Go.Proofs.Ytlbbmcpppfiplaa.Vc
/-
  COLOUR: which functions may be coloured, by the document.
-/
namespace Go.Proofs.Ytlbbmcpppfiplaa.Vc
open Go

def inR (p : PrcX) (r : Int) : Bool := decide (0 ≤ r ∧ r < p.regs)
def EndX.uses (e : EndX) : List Int := if e.kind = 1 ∨ e.kind = 2 ∨ e.kind = 5 then [e.reg] else if e.kind = 3 then e.reg :: e.args else if e.kind = 4 then e.reg :: e.to :: e.args else if e.kind = 6 then [e.reg, e.to] else []
def InsX.may (p : PrcX) (x : InsX) : Bool := x.args.all (inR p) && (decide (x.op = tieB) || inR p x.to)
def BlkX.may (p : PrcX) (b : BlkX) : Bool := b.ins.all (InsX.may p) && b.e.uses.all (inR p)
def headMay (p : PrcX) : Bool := !(decide (p.regs < 0) || decide (p.regs > 2000) || decide (p.params < 0) || decide (p.params > p.regs) || decide ((p.blocks.length : Int) = 0))
def mayP (p : PrcX) : Bool := headMay p && p.blocks.all (BlkX.may p)
theorem all_take {α : Type} (f : α → Bool) {l : List α} {k : Nat} {a : α} (h : l[k]? = some a) : (l.take (k + 1)).all f = ((l.take k).all f && f a) := by
  rw [List.take_add_one, h, List.all_append]; simp
end Go.Proofs.Ytlbbmcpppfiplaa.Vc
/-
  COLOUR: which functions may be coloured, by the program.
-/
namespace Go.Proofs.Ytlbbmcpppfiplaa.Vc
open Go

theorem may1_tri (p : PrcX) (l : List Int) (lv bv : Value) (kb pb : Nat) (S K : PH) (o : Bool) (hl : SlR S l lv) (h : Held S K [bx kb 4 [.bool o], bx pb 24 (prcVs p bv)]) :
    Tri Try.prog n_color_may_1 #[lv, pAt kb, pAt pb] K fun x K' => x = .returned (.tuple #[]) ∧ Held S K' [bx kb 4 [.bool (o && l.all (inR p))], bx pb 24 (prcVs p bv)] := by
  obtain ⟨b1, c1, rfl⟩ := hl.sl
  have hm := hl.max
  simp only [maxLen] at hm
  refine tri_color_may_1 [.slice b1 l.length c1, pAt kb, pAt pb] (by kernel_rfl) (by kernel_rfl) ?_
  refine ⟨fun n vs K' => ∃ k : Nat, vs = [nI k] ∧ k + n = l.length ∧ Held S K' [bx kb 4 [.bool (o && (l.take k).all (inR p))], bx pb 24 (prcVs p bv)], ⟨l.length, 0, rfl, by omega, by simpa using h⟩, ?_⟩
  rintro n vs K1 _ ⟨k, rfl, hkn, h1⟩
  refine ⟨fun g => ?_, fun g => ?_⟩
  · simp only [ev0, ev, evV, List.cons_append, List.nil_append, List.getD_cons_zero, List.getD_cons_succ, List.map_cons, List.map_nil, iOf, bOf, sOf, pOf, slLen, slBase, cmpI, arI, Value.ite_bool, int_beq, int_bne, ite_band, ite_bor, decide_eq_true_eq] at g
    obtain ⟨r, hr⟩ : ∃ r, l[k]? = some r := ⟨_, List.getElem?_eq_getElem (show k < l.length by omega)⟩
    obtain ⟨r1, _, rcs, r2, r3⟩ := hl.get hr
    obtain ⟨rfl, _⟩ := csIK r2
    refine ⟨fun vs K' => vs = [] ∧ Held S K' [bx kb 4 [.bool (o && (l.take (k + 1)).all (inR p))], bx pb 24 (prcVs p bv)], ?_, fun _ => ?_, [.int .i64 r], rfl, ?_, ?_⟩
    · rintro vs K' _ ⟨rfl, h2⟩
      refine ⟨_, lookup_hit, n - 1, by omega, k + 1, ?_, by omega, h2⟩
      simp only [ev0, ev, evV, List.cons_append, List.nil_append, List.getD_cons_zero, List.getD_cons_succ, List.map_cons, List.map_nil, iOf, bOf, sOf, pOf, slLen, slBase, cmpI, arI, Value.ite_bool, int_beq, int_bne, ite_band, ite_bor]; rw [w64 (by omega) (by omega)]; rfl
    · simp only [Chk.holds, ev0, ev, evV, List.cons_append, List.nil_append, List.getD_cons_zero, List.getD_cons_succ, List.map_cons, List.map_nil, iOf, bOf, sOf, pOf, slLen, slBase, cmpI, arI, Value.ite_bool, int_beq, int_bne, ite_band, ite_bor]; exact ⟨r1, by omega, by omega⟩
    · simp only [ev0, ev, evV, List.cons_append, List.nil_append, List.getD_cons_zero, List.getD_cons_succ, List.map_cons, List.map_nil, iOf, bOf, sOf, pOf, slLen, slBase, cmpI, arI, Value.ite_bool, int_beq, int_bne, ite_band, ite_bor]; exact rowAt_le h1.sh r3
    refine den_bxLoad [.bool (o && (l.take k).all (inR p))] (off := 0) (by kernel_rfl) h1 (List.mem_cons_self ..) rfl rfl ?_
    refine ⟨fun _ => rfl, fun g2 => ?_, fun g2 => ?_⟩
    · simp only [ev0, ev, evV, List.cons_append, List.nil_append, List.getD_cons_zero, List.getD_cons_succ, List.map_cons, List.map_nil, iOf, bOf, sOf, pOf, slLen, slBase, cmpI, arI, Value.ite_bool, int_beq, int_bne, ite_band, ite_bor] at g2
      have hg : (o && (l.take k).all (inR p)) = true ∧ 0 ≤ r := by
        cases hc : (o && (l.take k).all (inR p)) with
        | true => rw [hc] at g2; simp only [Bool.true_and, decide_eq_true_eq] at g2; exact ⟨rfl, by omega⟩
        | false => rw [hc] at g2; simp at g2
      refine den_bxLoad [.int .i64 p.regs] (off := 2) (by kernel_rfl) h1 (List.mem_cons_of_mem _ (List.mem_cons_self ..)) rfl rfl ?_
      refine den_bxStore (off := 0) (vs := [.bool (decide (r < p.regs))]) (by kernel_rfl) h1 (by simp only [ev0, ev, evV, List.cons_append, List.nil_append, List.getD_cons_zero, List.getD_cons_succ, List.map_cons, List.map_nil, iOf, bOf, sOf, pOf, slLen, slBase, cmpI, arI, Value.ite_bool, int_beq, int_bne, ite_band, ite_bor]) (by simp [oneC]) (by simp) fun K2 h2 => ?_
      refine ⟨_, lookup_hit, rfl, ?_⟩
      have : (o && (l.take (k + 1)).all (inR p)) = decide (r < p.regs) := by
        rw [all_take _ hr, ← Bool.and_assoc, hg.1, Bool.true_and]
        unfold inR
        by_cases h : r < p.regs
        · rw [decide_eq_true h, decide_eq_true ⟨hg.2, h⟩]
        · rw [decide_eq_false h, decide_eq_false (fun hh => h hh.2)]
      rw [this]; exact h2
    · simp only [ev0, ev, evV, List.cons_append, List.nil_append, List.getD_cons_zero, List.getD_cons_succ, List.map_cons, List.map_nil, iOf, bOf, sOf, pOf, slLen, slBase, cmpI, arI, Value.ite_bool, int_beq, int_bne, ite_band, ite_bor] at g2
      refine den_bxStore (off := 0) (vs := [.bool false]) (by kernel_rfl) h1 (by simp only [ev0, ev, evV, List.cons_append, List.nil_append, List.getD_cons_zero, List.getD_cons_succ, List.map_cons, List.map_nil, iOf, bOf, sOf, pOf, slLen, slBase, cmpI, arI, Value.ite_bool, int_beq, int_bne, ite_band, ite_bor]) (by simp [oneC]) (by simp) fun K2 h2 => ?_
      refine ⟨_, lookup_hit, rfl, ?_⟩
      have : (o && (l.take (k + 1)).all (inR p)) = false := by
        rw [all_take _ hr, ← Bool.and_assoc]
        cases hc : (o && (l.take k).all (inR p)) with
        | true =>
          rw [hc] at g2
          simp only [Bool.true_and, decide_eq_false_iff_not] at g2
          rw [Bool.true_and]
          unfold inR
          exact decide_eq_false (fun hh => g2 (by omega))
        | false => rfl
      rw [this]; exact h2
  · simp only [ev0, ev, evV, List.cons_append, List.nil_append, List.getD_cons_zero, List.getD_cons_succ, List.map_cons, List.map_nil, iOf, bOf, sOf, pOf, slLen, slBase, cmpI, arI, Value.ite_bool, int_beq, int_bne, ite_band, ite_bor, decide_eq_false_iff_not] at g
    rw [List.take_of_length_le (by omega)] at h1
    exact ⟨rfl, h1⟩
theorem uses_kind {e : EndX} : e.uses = if e.kind = 1 ∨ e.kind = 2 ∨ e.kind = 5 then [e.reg] else if e.kind = 3 then [e.reg] ++ e.args else if e.kind = 4 then [e.reg, e.to] ++ e.args else if e.kind = 6 then [e.reg, e.to] else [] := rfl
set_option maxHeartbeats 1000000 in
theorem May_gives (p : PrcX) (bv : Value) (H : PH) (hbv : SlR H p.blocks bv) (hp : p.Fit) (hE : ∀ b ∈ p.blocks, b.e.args.length ≤ 2000000) : Gives Try.prog n_color_may [.agg (prcVs p bv).toArray] H (.bool (mayP p)) := by
  have hN := hp.n
  obtain ⟨b0, c0, rfl⟩ := hbv.sl
  refine tri_color_may (prcVs p (.slice b0 p.blocks.length c0)) (by kernel_rfl) (by kernel_rfl) ?_
  simp only [prcVs]
  refine den_bxNew (vs := prcVs p (.slice b0 p.blocks.length c0)) (Held.nil (PH.le_refl H)) (by kernel_rfl) fun pb K1 _ h1 => ?_
  simp only [List.cons_append, List.nil_append]
  have hm1 : bx pb 24 (prcVs p (.slice b0 p.blocks.length c0)) ∈ [bx pb 24 (prcVs p (.slice b0 p.blocks.length c0))] := List.mem_cons_self ..
  refine ⟨fun vs K => vs = [.bool (!headMay p)] ∧ K = K1, ?_, ?_⟩
  rotate_left
  · refine ⟨fun _ => rfl, ?_⟩
    refine den_bxLoad [.int .i64 p.regs] (off := 2) (by kernel_rfl) h1 hm1 rfl rfl ?_
    refine ⟨fun g => ?_, fun g => ?_⟩
    · simp only [ev0, ev, evV, List.cons_append, List.nil_append, List.getD_cons_zero, List.getD_cons_succ, List.map_cons, List.map_nil, iOf, bOf, sOf, pOf, slLen, slBase, cmpI, arI, Value.ite_bool, int_beq, int_bne, ite_band, ite_bor] at g
      refine ⟨_, lookup_hit, ?_, rfl⟩
      unfold headMay; rw [g]; rfl
    simp only [ev0, ev, evV, List.cons_append, List.nil_append, List.getD_cons_zero, List.getD_cons_succ, List.map_cons, List.map_nil, iOf, bOf, sOf, pOf, slLen, slBase, cmpI, arI, Value.ite_bool, int_beq, int_bne, ite_band, ite_bor] at g
    refine den_bxLoad [.int .i64 p.regs] (off := 2) (by kernel_rfl) h1 hm1 rfl rfl ?_
    refine ⟨fun g2 => ?_, fun g2 => ?_⟩
    · simp only [ev0, ev, evV, List.cons_append, List.nil_append, List.getD_cons_zero, List.getD_cons_succ, List.map_cons, List.map_nil, iOf, bOf, sOf, pOf, slLen, slBase, cmpI, arI, Value.ite_bool, int_beq, int_bne, ite_band, ite_bor] at g2
      refine ⟨_, lookup_hit, ?_, rfl⟩
      unfold headMay; rw [g, g2]; rfl
    simp only [ev0, ev, evV, List.cons_append, List.nil_append, List.getD_cons_zero, List.getD_cons_succ, List.map_cons, List.map_nil, iOf, bOf, sOf, pOf, slLen, slBase, cmpI, arI, Value.ite_bool, int_beq, int_bne, ite_band, ite_bor] at g2
    refine den_bxLoad [.int .i64 p.params] (off := 0) (by kernel_rfl) h1 hm1 rfl rfl ?_
    refine ⟨fun g3 => ?_, fun g3 => ?_⟩
    · simp only [ev0, ev, evV, List.cons_append, List.nil_append, List.getD_cons_zero, List.getD_cons_succ, List.map_cons, List.map_nil, iOf, bOf, sOf, pOf, slLen, slBase, cmpI, arI, Value.ite_bool, int_beq, int_bne, ite_band, ite_bor] at g3
      refine ⟨_, lookup_hit, ?_, rfl⟩
      unfold headMay; rw [g, g2, g3]; rfl
    simp only [ev0, ev, evV, List.cons_append, List.nil_append, List.getD_cons_zero, List.getD_cons_succ, List.map_cons, List.map_nil, iOf, bOf, sOf, pOf, slLen, slBase, cmpI, arI, Value.ite_bool, int_beq, int_bne, ite_band, ite_bor] at g3
    refine den_bxLoad [.int .i64 p.params] (off := 0) (by kernel_rfl) h1 hm1 rfl rfl ?_
    refine den_bxLoad [.int .i64 p.regs] (off := 2) (by kernel_rfl) h1 hm1 rfl rfl ?_
    refine ⟨fun g4 => ?_, fun g4 => ?_⟩
    · simp only [ev0, ev, evV, List.cons_append, List.nil_append, List.getD_cons_zero, List.getD_cons_succ, List.map_cons, List.map_nil, iOf, bOf, sOf, pOf, slLen, slBase, cmpI, arI, Value.ite_bool, int_beq, int_bne, ite_band, ite_bor] at g4
      refine ⟨_, lookup_hit, ?_, rfl⟩
      unfold headMay; rw [g, g2, g3, g4]; rfl
    simp only [ev0, ev, evV, List.cons_append, List.nil_append, List.getD_cons_zero, List.getD_cons_succ, List.map_cons, List.map_nil, iOf, bOf, sOf, pOf, slLen, slBase, cmpI, arI, Value.ite_bool, int_beq, int_bne, ite_band, ite_bor] at g4
    refine den_bxLoad [.slice b0 p.blocks.length c0] (off := 3) (by kernel_rfl) h1 hm1 rfl rfl ?_
    refine ⟨_, lookup_hit, ?_, rfl⟩
    simp only [ev0, ev, evV, List.cons_append, List.nil_append, List.getD_cons_zero, List.getD_cons_succ, List.map_cons, List.map_nil, iOf, bOf, sOf, pOf, slLen, slBase, cmpI, arI, Value.ite_bool, int_beq, int_bne, ite_band, ite_bor]
    unfold headMay; rw [g, g2, g3, g4, Bool.not_not]; rfl
  rintro vs K _ ⟨rfl, rfl⟩
  simp only [List.cons_append, List.nil_append]
  refine ⟨fun g => ?_, fun g => ?_⟩
  · simp only [ev0, ev, evV, List.cons_append, List.nil_append, List.getD_cons_zero, List.getD_cons_succ, List.map_cons, List.map_nil, iOf, bOf, sOf, pOf, slLen, slBase, cmpI, arI, Value.ite_bool, int_beq, int_bne, ite_band, ite_bor] at g
    refine ⟨?_, h1.sh⟩
    have : headMay p = false := by simpa using g
    unfold mayP; rw [this]; rfl
  simp only [ev0, ev, evV, List.cons_append, List.nil_append, List.getD_cons_zero, List.getD_cons_succ, List.map_cons, List.map_nil, iOf, bOf, sOf, pOf, slLen, slBase, cmpI, arI, Value.ite_bool, int_beq, int_bne, ite_band, ite_bor] at g
  have hh : headMay p = true := by simpa using g
  refine den_bxNew (vs := [.bool false]) h1 (by kernel_rfl) fun kb K2 _ h2 => ?_
  refine den_bxStore (off := 0) (vs := [.bool true]) (by kernel_rfl) h2 (by kernel_rfl) (by simp [oneC]) (by simp) fun K3 h3 => ?_
  have h3 : Held H K3 [bx kb 4 [.bool true], bx pb 24 (prcVs p (.slice b0 p.blocks.length c0))] := h3
  refine den_makeFunc (f := n_color_may_1) rfl ?_
  have hmf : ∀ (E : List Value) (a : List (Nat × VE)), a = [(3, VE.sc (.atom 6)), (1, VE.sc (.atom 4))] → E.getD 6 (.bool false) = pAt kb → E.getD 4 (.bool false) = pAt pb → (.func (.func n_color_may_1) ((#[] : Array Operand).map (argEv E a)) ((#[(.tmp 3), (.tmp 1)] : Array Operand).map (argEv E a)) : Value) = .func (.func n_color_may_1) #[] #[pAt kb, pAt pb] := by
    rintro E a rfl h6 h4
    rw [List.getD_eq_getElem?_getD] at h6 h4
    simp [argEv, evV, ev, List.lookup, h6, h4]
  rw [hmf _ _ rfl rfl rfl]
  simp only [List.cons_append, List.nil_append]
  refine ⟨fun _ => rfl, ?_⟩
  refine den_bxLoad [.slice b0 p.blocks.length c0] (off := 3) (by kernel_rfl) h3 (List.mem_cons_of_mem _ (List.mem_cons_self ..)) rfl rfl ?_
  simp only [List.cons_append, List.nil_append]
  refine ⟨fun n vs K' => ∃ k : Nat, vs = [nI k] ∧ k + n = p.blocks.length ∧ ∃ S', PH.le H S' ∧ Held S' K' [bx kb 4 [.bool ((p.blocks.take k).all (BlkX.may p))], bx pb 24 (prcVs p (.slice b0 p.blocks.length c0))], ⟨p.blocks.length, 0, rfl, by omega, H, PH.le_refl _, by simpa using h3⟩, ?_⟩
  rintro n vs K4 _ ⟨k, rfl, hkn, S4, l4, h4⟩
  simp only [List.cons_append, List.nil_append]
  refine ⟨fun g => ?_, fun g => ?_⟩
  rotate_left
  · simp only [ev0, ev, evV, List.cons_append, List.nil_append, List.getD_cons_zero, List.getD_cons_succ, List.map_cons, List.map_nil, iOf, bOf, sOf, pOf, slLen, slBase, cmpI, arI, Value.ite_bool, int_beq, int_bne, ite_band, ite_bor, decide_eq_false_iff_not] at g
    rw [List.take_of_length_le (by omega)] at h4
    refine den_bxLoad [.bool (p.blocks.all (BlkX.may p))] (off := 0) (by kernel_rfl) h4 (List.mem_cons_self ..) rfl rfl ?_
    refine ⟨?_, PH.le_trans l4 h4.sh⟩
    unfold mayP; rw [hh, Bool.true_and]; rfl
  simp only [ev0, ev, evV, List.cons_append, List.nil_append, List.getD_cons_zero, List.getD_cons_succ, List.map_cons, List.map_nil, iOf, bOf, sOf, pOf, slLen, slBase, cmpI, arI, Value.ite_bool, int_beq, int_bne, ite_band, ite_bor, decide_eq_true_eq] at g
  have hk : k < p.blocks.length := by omega
  obtain ⟨b, hb⟩ : ∃ b, p.blocks[k]? = some b := ⟨_, List.getElem?_eq_getElem hk⟩
  have hbl := hp.ins b (List.mem_of_getElem? hb)
  have hbe := hE b (List.mem_of_getElem? hb)
  obtain ⟨q1, _, ces, q2, q3⟩ := (hbv.le l4).get hb
  obtain ⟨iv, es, rfl, his, hes⟩ := blk_iff.1 q2
  obtain ⟨av, rfl, e1, e2, hea, e3, e4, e5⟩ := end_iff.1 hes
  obtain ⟨b2, c2, rfl⟩ := his.sl
  obtain ⟨b3, c3, rfl⟩ := hea.sl
  refine ⟨fun vs K' => vs = [] ∧ ∃ S', PH.le H S' ∧ Held S' K' [bx kb 4 [.bool ((p.blocks.take (k + 1)).all (BlkX.may p))], bx pb 24 (prcVs p (.slice b0 p.blocks.length c0))], ?_, fun _ => ?_, [.slice b2 b.ins.length c2, .int .i64 b.e.kind, .int .i64 b.e.reg, .slice b3 b.e.args.length c3, .int .i64 b.e.to, .int .i64 b.e.next, .int .i64 b.e.els], rfl, ?_, ?_⟩
  · rintro vs K' _ ⟨rfl, S', l', h'⟩
    refine ⟨_, lookup_hit, n - 1, by omega, k + 1, ?_, by omega, S', l', h'⟩
    simp only [ev0, ev, evV, List.cons_append, List.nil_append, List.getD_cons_zero, List.getD_cons_succ, List.map_cons, List.map_nil, iOf, bOf, sOf, pOf, slLen, slBase, cmpI, arI, Value.ite_bool, int_beq, int_bne, ite_band, ite_bor]; rw [w64 (by omega) (by omega)]; rfl
  · simp only [Chk.holds, ev0, ev, evV, List.cons_append, List.nil_append, List.getD_cons_zero, List.getD_cons_succ, List.map_cons, List.map_nil, iOf, bOf, sOf, pOf, slLen, slBase, cmpI, arI, Value.ite_bool, int_beq, int_bne, ite_band, ite_bor]; exact ⟨q1, by omega, by omega⟩
  · simp only [ev0, ev, evV, List.cons_append, List.nil_append, List.getD_cons_zero, List.getD_cons_succ, List.map_cons, List.map_nil, iOf, bOf, sOf, pOf, slLen, slBase, cmpI, arI, Value.ite_bool, int_beq, int_bne, ite_band, ite_bor]; exact rowAt_le h4.sh q3
  simp only [List.cons_append, List.nil_append]
  -- the instructions
  refine ⟨fun n vs K' => ∃ j : Nat, vs = [nI j] ∧ j + n = b.ins.length ∧ ∃ S', PH.le S4 S' ∧ Held S' K' [bx kb 4 [.bool ((p.blocks.take k).all (BlkX.may p) && (b.ins.take j).all (InsX.may p))], bx pb 24 (prcVs p (.slice b0 p.blocks.length c0))], ⟨b.ins.length, 0, rfl, by omega, S4, PH.le_refl _, by simpa using h4⟩, ?_⟩
  rintro n2 vs K5 _ ⟨j, rfl, hjn, S5, l5, h5⟩
  simp only [List.cons_append, List.nil_append]
  refine ⟨fun g2 => ?_, fun g2 => ?_⟩
  · simp only [ev0, ev, evV, List.cons_append, List.nil_append, List.getD_cons_zero, List.getD_cons_succ, List.map_cons, List.map_nil, iOf, bOf, sOf, pOf, slLen, slBase, cmpI, arI, Value.ite_bool, int_beq, int_bne, ite_band, ite_bor, decide_eq_true_eq] at g2
    obtain ⟨x, hx⟩ : ∃ x, b.ins[j]? = some x := ⟨_, List.getElem?_eq_getElem (show j < b.ins.length by omega)⟩
    obtain ⟨y1, _, ycs, y2, y3⟩ := (his.le l5).get hx
    obtain ⟨arv, dv, rfl, _, x2, hya, _, _, _, hyd, _⟩ := ins_iff.1 y2
    obtain ⟨rb, rc, rfl⟩ := hya.sl
    obtain ⟨db, dc, rfl⟩ := hyd.sl
    refine ⟨fun vs K' => vs = [] ∧ ∃ S', PH.le S4 S' ∧ Held S' K' [bx kb 4 [.bool ((p.blocks.take k).all (BlkX.may p) && (b.ins.take (j + 1)).all (InsX.may p))], bx pb 24 (prcVs p (.slice b0 p.blocks.length c0))], ?_, fun _ => ?_, [txt x.op, .int .i64 x.to, .slice rb x.args.length rc, .int .i64 x.const.kind, .int .i64 x.const.int, txt x.const.text, .slice db x.const.list.length dc, .int .i64 x.num], rfl, ?_, ?_⟩
    · rintro vs K' _ ⟨rfl, S', l', h'⟩
      refine ⟨_, lookup_hit, n2 - 1, by omega, j + 1, ?_, by omega, S', l', h'⟩
      simp only [ev0, ev, evV, List.cons_append, List.nil_append, List.getD_cons_zero, List.getD_cons_succ, List.map_cons, List.map_nil, iOf, bOf, sOf, pOf, slLen, slBase, cmpI, arI, Value.ite_bool, int_beq, int_bne, ite_band, ite_bor]; rw [w64 (by omega) (by omega)]; rfl
    · simp only [Chk.holds, ev0, ev, evV, List.cons_append, List.nil_append, List.getD_cons_zero, List.getD_cons_succ, List.map_cons, List.map_nil, iOf, bOf, sOf, pOf, slLen, slBase, cmpI, arI, Value.ite_bool, int_beq, int_bne, ite_band, ite_bor]; exact ⟨y1, by omega, by omega⟩
    · simp only [ev0, ev, evV, List.cons_append, List.nil_append, List.getD_cons_zero, List.getD_cons_succ, List.map_cons, List.map_nil, iOf, bOf, sOf, pOf, slLen, slBase, cmpI, arI, Value.ite_bool, int_beq, int_bne, ite_band, ite_bor]; exact rowAt_le h5.sh y3
    simp only [List.cons_append, List.nil_append]
    refine den_callF (f := n_color_may_1) (first := #[]) (caps := #[pAt kb, pAt pb]) (by rfl) cb_color_may_1 (may1_tri p x.args (.slice rb x.args.length rc) (.slice b0 p.blocks.length c0) kb pb S5 K5 _ hya h5) ?_
    rintro e K6 ⟨rfl, h6⟩
    refine ⟨_, [], rfl, rfl, rfl, pendNil, fun g3 => ?_, fun g3 => ?_⟩
    · simp only [ev0, ev, evV, List.cons_append, List.nil_append, List.getD_cons_zero, List.getD_cons_succ, List.map_cons, List.map_nil, iOf, bOf, sOf, pOf, slLen, slBase, cmpI, arI, Value.ite_bool, int_beq, int_bne, ite_band, ite_bor, txt_neK] at g3
      have hop : x.op ≠ tieB := by simpa using g3
      refine den_hLit (α := Int) (l := [x.to]) (b := 8) [.int .i64 x.to] uIntsK elemIntK rfl (by decide) (by decide) h6 (by kernel_rfl) (.cons (csIK_mk x2) .nil) pendNil fun v7 K7 h7 _ _ => ?_
      obtain ⟨S8, s8, l8, h8⟩ := h7.freeze
      obtain ⟨b8, c8, rfl⟩ := s8.sl
      simp only [List.cons_append, List.nil_append]
      refine den_callF (f := n_color_may_1) (first := #[]) (caps := #[pAt kb, pAt pb]) (by rfl) cb_color_may_1 (may1_tri p [x.to] (.slice b8 1 c8) (.slice b0 p.blocks.length c0) kb pb S8 K7 _ s8 h8) ?_
      rintro e K9 ⟨rfl, h9⟩
      refine ⟨_, [], rfl, rfl, rfl, pendNil, _, lookup_hit, rfl, S8, PH.le_trans l5 l8, ?_⟩
      have : ((p.blocks.take k).all (BlkX.may p) && (b.ins.take (j + 1)).all (InsX.may p)) = (((p.blocks.take k).all (BlkX.may p) && (b.ins.take j).all (InsX.may p)) && x.args.all (inR p) && ([x.to] : List Int).all (inR p)) := by
        rw [all_take _ hx]; unfold InsX.may
        rw [decide_eq_false hop]; simp [Bool.and_assoc]
      rw [this]; exact h9
    · simp only [ev0, ev, evV, List.cons_append, List.nil_append, List.getD_cons_zero, List.getD_cons_succ, List.map_cons, List.map_nil, iOf, bOf, sOf, pOf, slLen, slBase, cmpI, arI, Value.ite_bool, int_beq, int_bne, ite_band, ite_bor, txt_neK] at g3
      have hop : x.op = tieB := by simpa using g3
      refine ⟨_, lookup_hit, rfl, S5, l5, ?_⟩
      have : ((p.blocks.take k).all (BlkX.may p) && (b.ins.take (j + 1)).all (InsX.may p)) = (((p.blocks.take k).all (BlkX.may p) && (b.ins.take j).all (InsX.may p)) && x.args.all (inR p)) := by
        rw [all_take _ hx]; unfold InsX.may
        rw [decide_eq_true hop]; simp [Bool.and_assoc]
      rw [this]; exact h6
  -- the end
  simp only [ev0, ev, evV, List.cons_append, List.nil_append, List.getD_cons_zero, List.getD_cons_succ, List.map_cons, List.map_nil, iOf, bOf, sOf, pOf, slLen, slBase, cmpI, arI, Value.ite_bool, int_beq, int_bne, ite_band, ite_bor, decide_eq_false_iff_not] at g2
  rw [List.take_of_length_le (l := b.ins) (by omega)] at h5
  have hall : (p.blocks.take (k + 1)).all (BlkX.may p) = (((p.blocks.take k).all (BlkX.may p) && b.ins.all (InsX.may p)) && b.e.uses.all (inR p)) := by
    rw [all_take _ hb]; unfold BlkX.may; rw [Bool.and_assoc]
  have hea5 := hea.le l5
  refine ⟨fun vs K => K = K5 ∧ vs = [.bool (decide (b.e.kind = 1 ∨ b.e.kind = 2 ∨ b.e.kind = 5))], ?_, fun g => ?_, fun g => ?_⟩
  · rintro vs K _ ⟨rfl, rfl⟩
    simp only [List.cons_append, List.nil_append]
    refine ⟨fun g => ?_, fun g => ⟨fun g2 => ?_, fun g2 => ⟨fun g3 => ?_, fun g3 => ⟨fun g4 => ?_, fun g4 => ?_⟩⟩⟩⟩
    · simp only [ev0, ev, evV, List.cons_append, List.nil_append, List.getD_cons_zero, List.getD_cons_succ, List.map_cons, List.map_nil, iOf, bOf, sOf, pOf, slLen, slBase, cmpI, arI, Value.ite_bool, int_beq, int_bne, ite_band, ite_bor, decide_eq_true_eq] at g
      have hu : b.e.uses = [b.e.reg] := by rw [uses_kind, if_pos g]
      refine den_hLit (α := Int) (l := [b.e.reg]) (b := 8) [.int .i64 b.e.reg] uIntsK elemIntK rfl (by decide) (by decide) h5 (by kernel_rfl) (.cons (csIK_mk e2) .nil) pendNil fun v7 K7 h7 _ _ => ?_
      obtain ⟨S8, s8, l8, h8⟩ := h7.freeze
      obtain ⟨b8, c8, rfl⟩ := s8.sl
      simp only [List.cons_append, List.nil_append]
      refine den_callF (f := n_color_may_1) (first := #[]) (caps := #[pAt kb, pAt pb]) (by rfl) cb_color_may_1 (may1_tri p [b.e.reg] (.slice b8 1 c8) (.slice b0 p.blocks.length c0) kb pb S8 K7 _ s8 h8) ?_
      rintro e K9 ⟨rfl, h9⟩
      exact ⟨_, [], rfl, rfl, rfl, pendNil, _, lookup_skip rfl lookup_hit, rfl, S8, PH.le_trans l4 (PH.le_trans l5 l8), by rw [hall, hu]; exact h9⟩
    · simp only [ev0, ev, evV, List.cons_append, List.nil_append, List.getD_cons_zero, List.getD_cons_succ, List.map_cons, List.map_nil, iOf, bOf, sOf, pOf, slLen, slBase, cmpI, arI, Value.ite_bool, int_beq, int_bne, ite_band, ite_bor, decide_eq_false_iff_not] at g
      simp only [ev0, ev, evV, List.cons_append, List.nil_append, List.getD_cons_zero, List.getD_cons_succ, List.map_cons, List.map_nil, iOf, bOf, sOf, pOf, slLen, slBase, cmpI, arI, Value.ite_bool, int_beq, int_bne, ite_band, ite_bor, decide_eq_true_eq] at g2
      have hu : b.e.uses = [b.e.reg] ++ b.e.args := by rw [uses_kind, if_neg g, if_pos g2]
      refine den_hLit (α := Int) (l := [b.e.reg]) (b := 8) [.int .i64 b.e.reg] uIntsK elemIntK rfl (by decide) (by decide) h5 (by kernel_rfl) (.cons (csIK_mk e2) .nil) pendNil fun v6 K6 h6 _ _ => ?_
      refine den_hApp (b := 8) (more := b.e.args) uIntsK elemIntK (by kernel_rfl) (by kernel_rfl) h6 (hea5.srcS h6.sh) (by simp only [maxLen, List.length_cons, List.length_nil]; omega) (by simp only [List.length_cons, List.length_nil]; omega) fun v7 K7 h7 _ => ⟨pendNil, ?_⟩
      obtain ⟨S8, s8, l8, h8⟩ := h7.freeze
      obtain ⟨b8, c8, rfl⟩ := s8.sl
      simp only [List.cons_append, List.nil_append]
      refine den_callF (f := n_color_may_1) (first := #[]) (caps := #[pAt kb, pAt pb]) (by rfl) cb_color_may_1 (may1_tri p ([b.e.reg] ++ b.e.args) (.slice b8 ([b.e.reg] ++ b.e.args).length c8) (.slice b0 p.blocks.length c0) kb pb S8 K7 _ s8 h8) ?_
      rintro e K9 ⟨rfl, h9⟩
      exact ⟨_, [], rfl, rfl, rfl, pendNil, _, lookup_skip rfl lookup_hit, rfl, S8, PH.le_trans l4 (PH.le_trans l5 l8), by rw [hall, hu]; exact h9⟩
    · simp only [ev0, ev, evV, List.cons_append, List.nil_append, List.getD_cons_zero, List.getD_cons_succ, List.map_cons, List.map_nil, iOf, bOf, sOf, pOf, slLen, slBase, cmpI, arI, Value.ite_bool, int_beq, int_bne, ite_band, ite_bor, decide_eq_false_iff_not] at g g2
      simp only [ev0, ev, evV, List.cons_append, List.nil_append, List.getD_cons_zero, List.getD_cons_succ, List.map_cons, List.map_nil, iOf, bOf, sOf, pOf, slLen, slBase, cmpI, arI, Value.ite_bool, int_beq, int_bne, ite_band, ite_bor, decide_eq_true_eq] at g3
      have hu : b.e.uses = [b.e.reg, b.e.to] ++ b.e.args := by rw [uses_kind, if_neg g, if_neg g2, if_pos g3]
      refine den_hLit (α := Int) (l := [b.e.reg, b.e.to]) (b := 8) [.int .i64 b.e.reg, .int .i64 b.e.to] uIntsK elemIntK rfl (by decide) (by decide) h5 (by kernel_rfl) (.cons (csIK_mk e2) (.cons (csIK_mk e3) .nil)) pendNil fun v6 K6 h6 _ _ => ?_
      refine den_hApp (b := 8) (more := b.e.args) uIntsK elemIntK (by kernel_rfl) (by kernel_rfl) h6 (hea5.srcS h6.sh) (by simp only [maxLen, List.length_cons, List.length_nil]; omega) (by simp only [List.length_cons, List.length_nil]; omega) fun v7 K7 h7 _ => ⟨pendNil, ?_⟩
      obtain ⟨S8, s8, l8, h8⟩ := h7.freeze
      obtain ⟨b8, c8, rfl⟩ := s8.sl
      simp only [List.cons_append, List.nil_append]
      refine den_callF (f := n_color_may_1) (first := #[]) (caps := #[pAt kb, pAt pb]) (by rfl) cb_color_may_1 (may1_tri p ([b.e.reg, b.e.to] ++ b.e.args) (.slice b8 ([b.e.reg, b.e.to] ++ b.e.args).length c8) (.slice b0 p.blocks.length c0) kb pb S8 K7 _ s8 h8) ?_
      rintro e K9 ⟨rfl, h9⟩
      exact ⟨_, [], rfl, rfl, rfl, pendNil, _, lookup_skip rfl lookup_hit, rfl, S8, PH.le_trans l4 (PH.le_trans l5 l8), by rw [hall, hu]; exact h9⟩
    · simp only [ev0, ev, evV, List.cons_append, List.nil_append, List.getD_cons_zero, List.getD_cons_succ, List.map_cons, List.map_nil, iOf, bOf, sOf, pOf, slLen, slBase, cmpI, arI, Value.ite_bool, int_beq, int_bne, ite_band, ite_bor, decide_eq_false_iff_not] at g g2 g3
      simp only [ev0, ev, evV, List.cons_append, List.nil_append, List.getD_cons_zero, List.getD_cons_succ, List.map_cons, List.map_nil, iOf, bOf, sOf, pOf, slLen, slBase, cmpI, arI, Value.ite_bool, int_beq, int_bne, ite_band, ite_bor, decide_eq_true_eq] at g4
      have hu : b.e.uses = [b.e.reg, b.e.to] := by rw [uses_kind, if_neg g, if_neg g2, if_neg g3, if_pos g4]
      refine den_hLit (α := Int) (l := [b.e.reg, b.e.to]) (b := 8) [.int .i64 b.e.reg, .int .i64 b.e.to] uIntsK elemIntK rfl (by decide) (by decide) h5 (by kernel_rfl) (.cons (csIK_mk e2) (.cons (csIK_mk e3) .nil)) pendNil fun v7 K7 h7 _ _ => ?_
      obtain ⟨S8, s8, l8, h8⟩ := h7.freeze
      obtain ⟨b8, c8, rfl⟩ := s8.sl
      simp only [List.cons_append, List.nil_append]
      refine den_callF (f := n_color_may_1) (first := #[]) (caps := #[pAt kb, pAt pb]) (by rfl) cb_color_may_1 (may1_tri p [b.e.reg, b.e.to] (.slice b8 2 c8) (.slice b0 p.blocks.length c0) kb pb S8 K7 _ s8 h8) ?_
      rintro e K9 ⟨rfl, h9⟩
      exact ⟨_, [], rfl, rfl, rfl, pendNil, _, lookup_skip rfl lookup_hit, rfl, S8, PH.le_trans l4 (PH.le_trans l5 l8), by rw [hall, hu]; exact h9⟩
    · simp only [ev0, ev, evV, List.cons_append, List.nil_append, List.getD_cons_zero, List.getD_cons_succ, List.map_cons, List.map_nil, iOf, bOf, sOf, pOf, slLen, slBase, cmpI, arI, Value.ite_bool, int_beq, int_bne, ite_band, ite_bor, decide_eq_false_iff_not] at g g2 g3 g4
      have hu : b.e.uses = [] := by rw [uses_kind, if_neg g, if_neg g2, if_neg g3, if_neg g4]
      exact ⟨_, lookup_skip rfl lookup_hit, rfl, S5, PH.le_trans l4 l5, by rw [hall, hu, List.all_nil, Bool.and_true]; exact h5⟩
  · simp only [ev0, ev, evV, List.cons_append, List.nil_append, List.getD_cons_zero, List.getD_cons_succ, List.map_cons, List.map_nil, iOf, bOf, sOf, pOf, slLen, slBase, cmpI, arI, Value.ite_bool, int_beq, int_bne, ite_band, ite_bor, decide_eq_true_eq] at g
    refine ⟨_, lookup_hit, rfl, ?_⟩
    simp [ev0, ev, evV, List.cons_append, List.nil_append, List.getD_cons_zero, List.getD_cons_succ, List.map_cons, List.map_nil, iOf, bOf, sOf, pOf, slLen, slBase, cmpI, arI, Value.ite_bool, int_beq, int_bne, ite_band, ite_bor, g]
  · simp only [ev0, ev, evV, List.cons_append, List.nil_append, List.getD_cons_zero, List.getD_cons_succ, List.map_cons, List.map_nil, iOf, bOf, sOf, pOf, slLen, slBase, cmpI, arI, Value.ite_bool, int_beq, int_bne, ite_band, ite_bor, decide_eq_false_iff_not] at g
    refine ⟨_, lookup_hit, rfl, ?_⟩
    by_cases h2 : b.e.kind = 2 <;> by_cases h5 : b.e.kind = 5 <;> simp [ev0, ev, evV, List.cons_append, List.nil_append, List.getD_cons_zero, List.getD_cons_succ, List.map_cons, List.map_nil, iOf, bOf, sOf, pOf, slLen, slBase, cmpI, arI, Value.ite_bool, int_beq, int_bne, ite_band, ite_bor, g, h2, h5]
end Go.Proofs.Ytlbbmcpppfiplaa.Vc
/-
  COLOUR: what fills registers, by the document.
-/
namespace Go.Proofs.Ytlbbmcpppfiplaa.Vc
open Go

structure FillX where
  to : Int
  of : Int
  live : List Int
instance encFill : Enc FillX := ⟨fun f => [.int .i64 f.to, .int .i64 f.of, slp f.live], 3, fun _ => rfl⟩
def moveB : List UInt8 := [109, 111, 118, 101]
theorem txt_neM (l : List UInt8) : cmpS .neq ⟨l.toArray⟩ ⟨#[109, 111, 118, 101]⟩ = !decide (l = moveB) := by
  show (!((⟨l.toArray⟩ : ByteArray).toList == (⟨moveB.toArray⟩ : ByteArray).toList)) = _
  rw [txt_eq]
/-- those of l that are not in m -/
def lessL (l m : List Int) : List Int := l.filter fun r => decide (r ∉ m)
noncomputable def insFill (p : PrcX) (i j : Nat) (x : InsX) : List FillX := if x.op = tieB then [] else [⟨x.to, -1, if x.op = moveB then lessL (liveL p i (j + 1)) x.args else liveL p i (j + 1)⟩]
noncomputable def insFills (p : PrcX) (i : Nat) (b : BlkX) (k : Nat) : List FillX := (List.range k).flatMap fun j => match b.ins[j]? with
  | some x => insFill p i j x
  | none => []
noncomputable def blkFill (p : PrcX) (i : Nat) (b : BlkX) : List FillX := insFills p i b b.ins.length ++ if b.e.calls then [⟨b.e.to, -1, acrossL p (i : Int)⟩] else []
noncomputable def fillsTo (p : PrcX) (k : Nat) : List FillX := (List.range k).flatMap fun i => match p.blocks[i]? with
  | some b => blkFill p i b
  | none => []
noncomputable def fillsL (p : PrcX) : List FillX := fillsTo p p.blocks.length
theorem insFills_step {p : PrcX} {i j : Nat} {b : BlkX} {x : InsX} (h : b.ins[j]? = some x) : insFills p i b (j + 1) = insFills p i b j ++ insFill p i j x := by
  unfold insFills; rw [List.range_succ, List.flatMap_append]; simp [h]
theorem fillsTo_step {p : PrcX} {k : Nat} {b : BlkX} (h : p.blocks[k]? = some b) : fillsTo p (k + 1) = fillsTo p k ++ blkFill p k b := by
  unfold fillsTo; rw [List.range_succ, List.flatMap_append]; simp [h]
theorem acrossL_len {p : PrcX} (hp : p.Fit) (i : Int) : (acrossL p i).length ≤ 2000000 := by
  unfold acrossL
  split
  · split
    · exact Nat.le_trans (List.length_filter_le _ _) (liveL_len hp _ _)
    · simp
  · simp
end Go.Proofs.Ytlbbmcpppfiplaa.Vc
/-
  COLOUR: which registers meet, by the document: its table.
-/
namespace Go.Proofs.Ytlbbmcpppfiplaa.Vc
open Go

/-! ### one of many that are held -/
theorem perm_pick {α : Type} : ∀ {l : List α} {i : Nat} {x : α}, l[i]? = some x → (x :: l.eraseIdx i).Perm l
  | [], i, x, h => by simp at h
  | a :: l, 0, x, h => by simp at h; subst h; exact List.Perm.refl _
  | a :: l, i + 1, x, h => by
    have := perm_pick (l := l) (i := i) (x := x) (by simpa using h)
    exact (List.Perm.swap a x _).trans (this.cons a)
theorem perm_put {α : Type} {x : α} : ∀ {l : List α} {i : Nat}, i < l.length → (x :: l.eraseIdx i).Perm (l.set i x)
  | [], i, h => by simp at h
  | a :: l, 0, h => by exact List.Perm.refl _
  | a :: l, i + 1, h => by
    have := perm_put (x := x) (l := l) (i := i) (by simpa using h)
    exact (List.Perm.swap a x _).trans (this.cons a)
theorem Held.pick {S H : PH} {I L : List Itm} {x : Itm} {a : Nat} (h : Held S H (I ++ L)) (hx : L[a]? = some x) : Held S H (x :: (I ++ L.eraseIdx a)) :=
  h.perm (((List.Perm.append_left I (perm_pick hx).symm)).trans List.perm_middle)
theorem Held.unpick {S H : PH} {I L : List Itm} {x : Itm} {a : Nat} (h : Held S H (x :: (I ++ L.eraseIdx a))) (ha : a < L.length) : Held S H (I ++ L.set a x) :=
  h.perm (List.perm_middle.symm.trans (List.Perm.append_left I (perm_put ha)))
/-- a block of single cells is a row -/
theorem Held.blkRow {α : Type} [Enc α] {S H : PH} {I : List Itm} {e : TypeId} {xs : List Value} {r : Nat} {L : List α} (hz : sz α = 1) (h : Held S H (.blk r (.cells xs.toArray e (0, 0)) :: I)) (hrep : PV.RepRow S (L.flatMap pv) xs) (hm : L.length ≤ maxLen) :
    Held S H (orow e L (.slice (some ⟨r, 0, none⟩) L.length L.length) :: I) := by
  have hb : H r = some (.cells xs.toArray e (0, 0)) := h.at_ _ (List.mem_cons_self ..)
  have hl : xs.length = L.length := by have := hrep.length; rw [pvs_length, hz, Nat.mul_one] at this; exact this
  have hR : Row S H e L (.slice (some ⟨r, 0, none⟩) L.length L.length) := by
    refine ⟨fun g hg => ?_, xs, ⟨by rw [hz, Nat.mul_one]; exact hl, .inr ⟨r, L.length, xs.toArray, rfl, hb, Nat.le_refl _, hm, by rw [hz, Nat.mul_one]; simpa using hl, ?_⟩⟩, hrep⟩
    · simp only [ob, Option.some.injEq] at hg
      subst hg
      exact h.off _ (List.mem_cons_self ..) r rfl
    · rw [List.toList_toArray, hz, Nat.mul_one]
      exact List.take_of_length_le (by omega)
  exact Held.step (J := [.blk r (.cells xs.toArray e (0, 0))]) (J' := [orow e L (.slice (some ⟨r, 0, none⟩) L.length L.length)]) h (PH.le_refl _) (fun k o hk _ => hk) (fun k a b => absurd a b) (Row.held h.sh hR) fun j hj k hk => by
    rw [List.mem_singleton.1 hj] at hk
    simp only [Itm.ob, ob, Option.some.injEq] at hk
    subst hk
    exact .inr ⟨_, List.mem_singleton.2 rfl, rfl⟩

/-! ### a table in memory -/
instance encBools : Enc (List Bool) := ⟨fun l => [slp l], 1, fun _ => rfl⟩
structure TabIs (R : Nat) (T : List (List Bool)) (M : Nat → Nat → Prop) : Prop where
  len : T.length = R
  row : ∀ (a : Nat) l, T[a]? = some l → l.length = R
  at_ : ∀ (a b : Nat) l, T[a]? = some l → b < R → (l[b]? = some true ↔ M a b)
theorem TabIs.congr {R : Nat} {T : List (List Bool)} {M M' : Nat → Nat → Prop} (h : TabIs R T M) (hm : ∀ a b, a < R → b < R → (M a b ↔ M' a b)) : TabIs R T M' :=
  ⟨h.len, h.row, fun a b l hl hb => (h.at_ a b l hl hb).trans (hm a b (by have := (List.getElem?_eq_some_iff.1 hl).1; rw [h.len] at this; exact this) hb)⟩
theorem TabIs.put {R : Nat} {T : List (List Bool)} {M : Nat → Nat → Prop} (h : TabIs R T M) {a b : Nat} {l : List Bool} (hl : T[a]? = some l) (hb : b < R) : TabIs R (T.set a (l.set b true)) fun x y => M x y ∨ (x = a ∧ y = b) := by
  have hlr := h.row a l hl
  have haT := (List.getElem?_eq_some_iff.1 hl).1
  refine ⟨by simpa using h.len, fun x m hm => ?_, fun x y m hm hy => ?_⟩
  · rw [List.getElem?_set] at hm
    by_cases e : a = x
    · rw [if_pos e, if_pos (by omega)] at hm; cases hm; simpa using hlr
    · rw [if_neg e] at hm; exact h.row x m hm
  · rw [List.getElem?_set] at hm
    by_cases e : a = x
    · subst e
      rw [if_pos rfl, if_pos haT] at hm; cases hm
      rw [List.getElem?_set]
      by_cases e2 : b = y
      · subst e2
        rw [if_pos rfl, if_pos (by omega)]
        exact ⟨fun _ => .inr ⟨rfl, rfl⟩, fun _ => rfl⟩
      · rw [if_neg e2, h.at_ a y l hl hy]
        exact ⟨.inl, fun hh => hh.elim id fun hh => absurd hh.2.symm e2⟩
    · rw [if_neg e] at hm
      rw [h.at_ x y m hm hy]
      exact ⟨.inl, fun hh => hh.elim id fun hh => absurd hh.1.symm e⟩
theorem TabIs.none (R : Nat) : TabIs R (List.replicate R (List.replicate R false)) fun _ _ => False := by
  refine ⟨by simp, fun a l h => ?_, fun a b l h hb => ?_⟩
  · rw [List.getElem?_replicate] at h; split at h
    · cases h; simp
    · cases h
  · rw [List.getElem?_replicate] at h; split at h
    · cases h
      rw [List.getElem?_replicate, if_pos hb]; simp
    · cases h
section
variable {X : List PanicEntry → PH → Prop} {β : Type} {E : List Value} {L : LK} {K : β → List Value → PH → LK → Prop} {S H : PH} {J : List Itm}
end
/-! ### who meets -/
def FillX.sym (f : FillX) (a b : Int) : Prop := (a = f.to ∧ b ∈ f.live) ∨ (b = f.to ∧ a ∈ f.live)
def MeetP (p : PrcX) (a b : Int) : Prop := (a ∈ liveL p 0 0 ∧ b ∈ liveL p 0 0) ∨ ∃ f ∈ fillsL p, f.sym a b
theorem may_regl {p : PrcX} (h : mayP p = true) {r : Int} (hr : r ∈ p.regl) : 0 ≤ r ∧ r < p.regs := by
  obtain ⟨b, hb, hx⟩ := List.mem_flatMap.1 hr
  unfold mayP at h
  simp only [Bool.and_eq_true, List.all_eq_true] at h
  have hbm := h.2 b hb
  unfold BlkX.may at hbm
  simp only [Bool.and_eq_true, List.all_eq_true] at hbm
  have key : inR p r = true → 0 ≤ r ∧ r < p.regs := fun h => by unfold inR at h; exact of_decide_eq_true h
  unfold BlkX.regs at hx
  rcases List.mem_append.1 hx with hx | hx
  · obtain ⟨y, hy, hxy⟩ := List.mem_flatMap.1 hx
    have := hbm.1 y hy
    unfold InsX.may at this
    simp only [Bool.and_eq_true, List.all_eq_true] at this
    exact key (this.1 r hxy)
  · refine key (hbm.2 r ?_)
    unfold EndX.regs at hx
    unfold EndX.uses
    rcases List.mem_append.1 hx with hx | hx
    · split at hx
      · rename_i hrd
        simp at hx; subst hx
        unfold EndX.reads at hrd
        by_cases h1 : b.e.kind = 1 ∨ b.e.kind = 2 ∨ b.e.kind = 5
        · rw [if_pos h1]; simp
        · rw [if_neg h1]
          by_cases h3 : b.e.kind = 3
          · rw [if_pos h3]; simp
          · rw [if_neg h3]
            by_cases h4 : b.e.kind = 4
            · rw [if_pos h4]; simp
            · rw [if_neg h4]
              by_cases h6 : b.e.kind = 6
              · rw [if_pos h6]; simp
              · rw [if_neg (by omega), if_neg (by omega)] at hrd; cases hrd
      · cases hx
    · split at hx
      · rename_i hk
        rw [if_neg (by omega)]
        by_cases h3 : b.e.kind = 3
        · rw [if_pos h3]; exact List.mem_cons_of_mem _ hx
        · rw [if_neg h3, if_pos (by omega)]; exact List.mem_cons_of_mem _ (List.mem_cons_of_mem _ hx)
      · cases hx
theorem may_live {p : PrcX} (h : mayP p = true) {r : Int} {i a : Nat} (hr : r ∈ liveL p i a) : 0 ≤ r ∧ r < p.regs := may_regl h (live_regl (liveL_mem.1 hr))
theorem may_fill {p : PrcX} (h : mayP p = true) {f : FillX} (hf : f ∈ fillsL p) : (0 ≤ f.to ∧ f.to < p.regs) ∧ ∀ r ∈ f.live, 0 ≤ r ∧ r < p.regs := by
  obtain ⟨i, hi, hf⟩ := List.mem_flatMap.1 hf
  cases hb : p.blocks[i]? with
  | none => rw [hb] at hf; simp at hf
  | some b =>
    rw [hb] at hf
    simp only at hf
    unfold mayP at h
    have h0 := h
    simp only [Bool.and_eq_true, List.all_eq_true] at h
    have hbm := h.2 b (List.mem_of_getElem? hb)
    unfold BlkX.may at hbm
    simp only [Bool.and_eq_true, List.all_eq_true] at hbm
    have key : ∀ {r}, inR p r = true → 0 ≤ r ∧ r < p.regs := fun h => by unfold inR at h; exact of_decide_eq_true h
    unfold blkFill at hf
    rcases List.mem_append.1 hf with hf | hf
    · obtain ⟨j, hj, hf⟩ := List.mem_flatMap.1 hf
      cases hx : b.ins[j]? with
      | none => rw [hx] at hf; simp at hf
      | some x =>
        rw [hx] at hf
        simp only [insFill] at hf
        split at hf
        · cases hf
        · rename_i hop
          have hxm := hbm.1 x (List.mem_of_getElem? hx)
          unfold InsX.may at hxm
          rw [decide_eq_false hop] at hxm
          simp only [Bool.and_eq_true, List.all_eq_true, Bool.false_or] at hxm
          rw [List.mem_singleton.1 hf]
          refine ⟨key hxm.2, fun r hr => ?_⟩
          split at hr
          · exact may_live h0 (List.mem_filter.1 hr).1
          · exact may_live h0 hr
    · split at hf
      · rename_i hc
        rw [List.mem_singleton.1 hf]
        refine ⟨?_, fun r hr => ?_⟩
        · refine key (hbm.2 _ ?_)
          unfold EndX.calls at hc
          simp only [decide_eq_true_eq] at hc
          unfold EndX.uses
          rw [if_neg (by omega), if_neg (by omega)]
          by_cases h4 : b.e.kind = 4
          · rw [if_pos h4]; simp
          · rw [if_neg h4, if_pos (by omega)]; simp
        · unfold acrossL at hr
          split at hr
          · split at hr
            · exact may_live h0 (List.mem_filter.1 hr).1
            · cases hr
          · cases hr
      · cases hf
theorem may_head {p : PrcX} (h : mayP p = true) : 0 ≤ p.regs ∧ p.regs ≤ 2000 ∧ 0 ≤ p.params ∧ p.params ≤ p.regs ∧ p.blocks ≠ [] := by
  unfold mayP headMay at h
  simp only [Bool.and_eq_true, Bool.not_eq_true', Bool.or_eq_false_iff, decide_eq_false_iff_not] at h
  refine ⟨by omega, by omega, by omega, by omega, fun e => ?_⟩
  rw [e] at h; simp at h
end Go.Proofs.Ytlbbmcpppfiplaa.Vc
/-
  COLOUR: the document's edges; what is tight.
-/
namespace Go.Proofs.Ytlbbmcpppfiplaa.Vc
open Go

instance encPair : Enc (Int × Int) := ⟨fun x => [.int .i64 x.1, .int .i64 x.2], 2, fun _ => rfl⟩
theorem pair_iff {H : PH} {x : Int × Int} {cs : List Value} : CsR H x cs ↔ cs = [.int .i64 x.1, .int .i64 x.2] ∧ InI x.1 ∧ InI x.2 := by
  show PV.RepRow H [_, _] cs ↔ _
  simp only [PV.RepRow, repI_iff]
  constructor
  · rintro ⟨v1, _, rfl, ⟨rfl, h1⟩, v2, _, rfl, ⟨rfl, h2⟩, rfl⟩
    exact ⟨rfl, h1, h2⟩
  · rintro ⟨rfl, h1, h2⟩
    exact ⟨_, _, rfl, ⟨rfl, h1⟩, _, _, rfl, ⟨rfl, h2⟩, rfl⟩
theorem uPairsK : Try.prog.underlying 47 = some (.slice 51) := by kernel_rfl
theorem elemPairK : ElemOk Try.prog 51 2 16 = true := by kernel_rfl
def lexLt (x y : Int × Int) : Prop := x.1 < y.1 ∨ (x.1 = y.1 ∧ x.2 < y.2)
theorem lex_eq : ∀ {l m : List (Int × Int)}, l.Pairwise lexLt → m.Pairwise lexLt → (∀ x, x ∈ l ↔ x ∈ m) → l = m
  | [], [], _, _, _ => rfl
  | [], b :: m, _, _, h => absurd ((h b).2 (List.mem_cons_self ..)) (by simp)
  | a :: l, [], _, _, h => absurd ((h a).1 (List.mem_cons_self ..)) (by simp)
  | a :: l, b :: m, hl, hm, h => by
    obtain ⟨l1, l2⟩ := List.pairwise_cons.1 hl
    obtain ⟨m1, m2⟩ := List.pairwise_cons.1 hm
    have asym : ∀ x y : Int × Int, lexLt x y → lexLt y x → False := fun x y h1 h2 => by unfold lexLt at h1 h2; omega
    have irr : ∀ x : Int × Int, ¬ lexLt x x := fun x h => asym x x h h
    have hab : a = b := by
      rcases List.mem_cons.1 ((h a).1 (List.mem_cons_self ..)) with e | ha
      · exact e
      · rcases List.mem_cons.1 ((h b).2 (List.mem_cons_self ..)) with e | hb
        · exact e.symm
        · exact (asym _ _ (m1 a ha) (l1 b hb)).elim
    subst hab
    congr 1
    refine lex_eq l2 m2 fun x => ?_
    constructor
    · intro hx
      rcases List.mem_cons.1 ((h x).1 (List.mem_cons_of_mem _ hx)) with e | h1
      · subst e; exact (irr _ (l1 x hx)).elim
      · exact h1
    · intro hx
      rcases List.mem_cons.1 ((h x).2 (List.mem_cons_of_mem _ hx)) with e | h1
      · subst e; exact (irr _ (m1 x hx)).elim
      · exact h1
/-- the edges -/
structure EdgesOf (p : PrcX) (l : List (Int × Int)) : Prop where
  sorted : l.Pairwise lexLt
  mem : ∀ a b : Int, (a, b) ∈ l ↔ 0 ≤ a ∧ a < b ∧ b < p.regs ∧ MeetP p a b
/-! ### what is tight -/
/-- how many there are below R -/
def cntB (f : Nat → Bool) : Nat → Nat
  | 0 => 0
  | n + 1 => cntB f n + if f n then 1 else 0
theorem cntB_mono {f g : Nat → Bool} : ∀ n, (∀ i, i < n → f i = true → g i = true) → cntB f n ≤ cntB g n
  | 0, _ => Nat.le_refl _
  | n + 1, h => by
    have := cntB_mono n fun i hi => h i (by omega)
    have h2 := h n (by omega)
    simp only [cntB]
    cases hf : f n with
    | true => rw [h2 hf]; omega
    | false => simp only [Bool.false_eq_true, if_false]; omega
theorem cntB_le (f : Nat → Bool) : ∀ n, cntB f n ≤ n
  | 0 => Nat.le_refl _
  | n + 1 => by have := cntB_le f n; simp only [cntB]; split <;> omega
theorem cntB_congr {f g : Nat → Bool} : ∀ n, (∀ i, i < n → f i = g i) → cntB f n = cntB g n
  | 0, _ => rfl
  | n + 1, h => by simp only [cntB, cntB_congr n fun i hi => h i (by omega), h n (by omega)]
theorem cntB_drop {f g : Nat → Bool} {i : Nat} (hf : f i = true) (hg : g i = false) : ∀ n, i < n → (∀ j, j < n → j ≠ i → f j = g j) → cntB f n = cntB g n + 1
  | 0, h, _ => by omega
  | n + 1, h, hh => by
    simp only [cntB]
    by_cases e : i = n
    · subst e
      rw [cntB_congr i fun j hj => hh j (by omega) (by omega), hf, hg]; simp
    · rw [cntB_drop hf hg n (by omega) fun j hj hn => hh j (by omega) hn, hh n (by omega) (Ne.symm e)]; omega
/-- a set in which each meets so many others of it -/
def TightU (R : Nat) (M : Nat → Nat → Prop) (k : Int) (U : Nat → Bool) : Prop := ∀ i, i < R → U i = true → ∃ f : Nat → Bool, (∀ j, j < R → f j = true → U j = true ∧ j ≠ i ∧ M i j) ∧ k ≤ (cntB f R : Int)
end Go.Proofs.Ytlbbmcpppfiplaa.Vc
/-
  COLOUR: the program's graph: a map of maps.
-/
namespace Go.Proofs.Ytlbbmcpppfiplaa.Vc
open Go

section
variable {P : Program} {Φ : Next → PH → Prop} {Ψ : Value → PH → Prop} {H : PH} {ρ : Operand → Value}
theorem exec_index {T ty : TypeId} {x y : Operand} : wpS P (execOp ρ (bare (.index T x y) ty)) Φ Ψ H = wpS P (Instr.index T (ρ x) (ρ y)) (fun v H' => Φ (.value v) H') Ψ H := by
  simp only [execOp, bare, wpS_bind', wpS_pure]
/-- one of an array of arrays -/
theorem den_indexA {X : List PanicEntry → PH → Prop} {β : Type} {E : List Value} {L : LK} {K : β → List Value → PH → LK → Prop} {T ty e e2 : TypeId} {n m z : Nat} {x y : Operand} {args : List (Nat × VE)} {tags : List Tag} {k : Fm β} {cs : Array Value} {kk : IntKind} {j : Nat} (vs : List Value)
    (hT : P.underlying T = some (.array n e)) (he : P.underlying e = some (.array m e2)) (hiz : (P.info? e).map (·.size) = some z) (hx : argEv E args x = .agg cs) (hy : argEv E args y = .int kk (j : Int)) (hj : j < n) (hvs : (cs.extract (j * z) (j * z + z)).toList = vs) (ht : tagsOk tags vs = true)
    (hk : den P X k (E ++ vs) H L K) : den P X (.sem (.index T x y) ty args (.ag tags) [] k) E H L K := by
  obtain ⟨i, hi, hz⟩ := Option.map_eq_some_iff.1 hiz
  show wpS P (execOp (argEv E args) (bare _ ty)) _ _ H
  rw [exec_index, hx, hy]
  unfold Instr.index asIntOf
  simp only [wpS_bind', wpS_pure, wpS_underlying hT]
  have hjn : (0 : Int) ≤ (j : Int) ∧ (j : Int) < (n : Int) := ⟨by omega, by omega⟩
  rw [if_pos hjn]
  simp only [wpS_bind', wpS_sizeOf hi, Int.toNat_natCast, hz]
  unfold part isAgg
  simp only [wpS_bind', wpS_underlying he, wpS_pure, if_true, wpS_sizeOf hi, hz]
  refine ⟨vs, ht, ?_, pendNil, hk⟩
  show Value.agg _ = Value.agg _
  rw [← hvs]
end

structure GN where
  ref : Nat
  es : Array MapEntry
  cl : Nat
  s : List Int
abbrev outM (N : List (Int × GN)) : List (Int × Value) := N.map fun x => (x.1, .map (some x.2.ref))
abbrev grB (gr : Nat) (es : Array MapEntry) (cl : Nat) : List Itm := [.blk gr (.map es cl)]
abbrev grI (N : List (Int × GN)) : List Itm := N.map fun x => .blk x.2.ref (.map x.2.es x.2.cl)
structure GrOk (es : Array MapEntry) (cl : Nat) (N : List (Int × GN)) : Prop where
  outer : EntsR (α := Int) es.toList cl (outM N)
  inner : ∀ (j : Nat) x, N[j]? = some x → SetAt x.2.es x.2.cl x.2.s
def relN (N : List (Int × GN)) (c d : Int) : Prop := ∃ x ∈ N, x.1 = c ∧ d ∈ x.2.s
theorem outM_keys {es : Array MapEntry} {cl : Nat} {N : List (Int × GN)} (h : GrOk es cl N) : (N.map (·.1)).Nodup := by
  have := h.outer.keys
  rwa [List.map_map] at this
theorem getM_out : ∀ {N : List (Int × GN)} {j : Nat} {x : Int × GN}, (N.map (·.1)).Nodup → N[j]? = some x → getM (outM N) x.1 = some (.map (some x.2.ref))
  | [], j, x, _, h => by simp at h
  | y :: N, 0, x, hn, h => by
    simp at h; subst h
    rw [outM, List.map_cons, getM_cons, if_pos rfl]
  | y :: N, j + 1, x, hn, h => by
    have h' : N[j]? = some x := by simpa using h
    simp only [List.map_cons, List.nodup_cons] at hn
    have hne : ¬ y.1 = x.1 := fun e => hn.1 (e ▸ List.mem_map.2 ⟨x, List.mem_of_getElem? h', rfl⟩)
    rw [outM, List.map_cons, getM_cons, if_neg hne]
    exact getM_out hn.2 h'
theorem getM_outNone {N : List (Int × GN)} {k : Int} (h : ∀ x ∈ N, x.1 ≠ k) : getM (outM N) k = none := by
  rw [getM_none, List.map_map]
  intro hk
  obtain ⟨x, hx, e⟩ := List.mem_map.1 hk
  exact h x hx e
theorem uGraphK : Try.prog.underlying 80 = some (.map 3 64) := by kernel_rfl
theorem uInnerK : Try.prog.underlying 64 = some (.map 3 3) := by kernel_rfl
theorem outM_set {N : List (Int × GN)} {j : Nat} {x : Int × GN} {es : Array MapEntry} {cl : Nat} {s : List Int} (hx : N[j]? = some x) : outM (N.set j (x.1, ⟨x.2.ref, es, cl, s⟩)) = outM N := by
  refine List.ext_getElem? fun t => ?_
  rw [List.getElem?_map, List.getElem?_map, List.getElem?_set]
  by_cases e : j = t
  · subst e
    have hj := (List.getElem?_eq_some_iff.1 hx).1
    rw [if_pos rfl, if_pos hj, hx]; rfl
  · rw [if_neg e]
theorem grI_set {N : List (Int × GN)} {j : Nat} {x : Int × GN} {es : Array MapEntry} {cl : Nat} {s : List Int} (hx : N[j]? = some x) : (grI N).set j (.blk x.2.ref (.map es cl)) = grI (N.set j (x.1, ⟨x.2.ref, es, cl, s⟩)) := by
  refine List.ext_getElem? fun t => ?_
  rw [List.getElem?_set, List.getElem?_map, List.getElem?_map, List.getElem?_set, List.length_map]
  by_cases e : j = t
  · subst e
    have hj := (List.getElem?_eq_some_iff.1 hx).1
    rw [if_pos rfl, if_pos hj, if_pos rfl, if_pos hj]; rfl
  · rw [if_neg e, if_neg e]
theorem relN_set {N : List (Int × GN)} {j : Nat} {x : Int × GN} {es : Array MapEntry} {cl : Nat} {s : List Int} {k : Int} (hn : (N.map (·.1)).Nodup) (hx : N[j]? = some x) (hs : ∀ y, y ∈ s ↔ y ∈ x.2.s ∨ y = k) (c d : Int) : relN (N.set j (x.1, ⟨x.2.ref, es, cl, s⟩)) c d ↔ relN N c d ∨ (c = x.1 ∧ d = k) := by
  have hj := (List.getElem?_eq_some_iff.1 hx).1
  unfold relN
  constructor
  · rintro ⟨y, hy, h1, h2⟩
    rcases List.mem_or_eq_of_mem_set hy with h | h
    · exact .inl ⟨y, h, h1, h2⟩
    · subst h
      rcases (hs d).1 h2 with h3 | h3
      · exact .inl ⟨x, List.mem_of_getElem? hx, h1, h3⟩
      · exact .inr ⟨h1.symm, h3⟩
  · rintro (⟨y, hy, h1, h2⟩ | ⟨h1, h2⟩)
    · obtain ⟨t, ht⟩ := List.getElem?_of_mem hy
      by_cases e : j = t
      · subst e
        rw [hx] at ht; cases ht
        exact ⟨(x.1, ⟨x.2.ref, es, cl, s⟩), List.mem_of_getElem? (i := j) (by rw [List.getElem?_set, if_pos rfl, if_pos hj]), h1, (hs d).2 (.inl h2)⟩
      · exact ⟨y, List.mem_of_getElem? (i := t) (by rw [List.getElem?_set, if_neg e]; exact ht), h1, h2⟩
    · exact ⟨(x.1, ⟨x.2.ref, es, cl, s⟩), List.mem_of_getElem? (i := j) (by rw [List.getElem?_set, if_pos rfl, if_pos hj]), h1.symm, (hs d).2 (.inr h2)⟩
set_option maxHeartbeats 2000000 in
theorem join_tri (gr : Nat) (es : Array MapEntry) (cl : Nat) (N : List (Int × GN)) (a b : Int) (S K : PH) (h : Held S K (grB gr es cl ++ grI N)) (hg : GrOk es cl N) :
    Tri Try.prog n_color_graph_int___join #[.map (some gr), .int .i64 a, .int .i64 b] K fun x K' => ∃ es' cl' N', x = .returned (.tuple #[]) ∧ Held S K' (grB gr es' cl' ++ grI N') ∧ GrOk es' cl' N' ∧ ∀ c d, relN N' c d ↔ relN N c d ∨ (a ≠ b ∧ ((c = a ∧ d = b) ∨ (c = b ∧ d = a))) := by
  refine tri_color_graph_int___join [.map (some gr), .int .i64 a, .int .i64 b] (by kernel_rfl) (by kernel_rfl) ?_
  refine ⟨fun g => ?_, fun g => ?_⟩
  · simp only [ev0, ev, evV, List.cons_append, List.nil_append, List.getD_cons_zero, List.getD_cons_succ, List.map_cons, List.map_nil, iOf, bOf, sOf, pOf, slLen, slBase, cmpI, arI, Value.ite_bool, int_beq, int_bne, ite_band, ite_bor, decide_eq_true_eq] at g
    have hab : a = b := by simpa using g
    exact ⟨es, cl, N, rfl, h, hg, fun c d => ⟨.inl, fun hh => hh.elim id fun hh => absurd hab hh.1⟩⟩
  simp only [ev0, ev, evV, List.cons_append, List.nil_append, List.getD_cons_zero, List.getD_cons_succ, List.map_cons, List.map_nil, iOf, bOf, sOf, pOf, slLen, slBase, cmpI, arI, Value.ite_bool, int_beq, int_bne, ite_band, ite_bor] at g
  have hab : a ≠ b := by simpa using g
  refine ⟨fun n vs K' => ∃ (i : Nat) (es' : Array MapEntry) (cl' : Nat) (N' : List (Int × GN)), vs = [nI i] ∧ i + n = 2 ∧ Held S K' (grB gr es' cl' ++ grI N') ∧ GrOk es' cl' N' ∧ ∀ c d, relN N' c d ↔ relN N c d ∨ (1 ≤ i ∧ c = a ∧ d = b) ∨ (2 ≤ i ∧ c = b ∧ d = a),
    ⟨2, 0, es, cl, N, rfl, rfl, h, hg, fun c d => by simp⟩, ?_⟩
  rintro n vs K1 _ ⟨i, es1, cl1, N1, rfl, hin, h1, hg1, hr1⟩
  simp only [List.cons_append, List.nil_append]
  refine ⟨fun g1 => ?_, fun g1 => ?_⟩
  rotate_left
  · simp only [ev0, ev, evV, List.cons_append, List.nil_append, List.getD_cons_zero, List.getD_cons_succ, List.map_cons, List.map_nil, iOf, bOf, sOf, pOf, slLen, slBase, cmpI, arI, Value.ite_bool, int_beq, int_bne, ite_band, ite_bor, decide_eq_false_iff_not] at g1
    have : i = 2 := by omega
    subst this
    refine ⟨es1, cl1, N1, rfl, h1, hg1, fun c d => ?_⟩
    rw [hr1]
    constructor
    · rintro (h | ⟨_, h⟩ | ⟨_, h⟩)
      · exact .inl h
      · exact .inr ⟨hab, .inl h⟩
      · exact .inr ⟨hab, .inr h⟩
    · rintro (h | ⟨_, h | h⟩)
      · exact .inl h
      · exact .inr (.inl ⟨by omega, h⟩)
      · exact .inr (.inr ⟨by omega, h⟩)
  simp only [ev0, ev, evV, List.cons_append, List.nil_append, List.getD_cons_zero, List.getD_cons_succ, List.map_cons, List.map_nil, iOf, bOf, sOf, pOf, slLen, slBase, cmpI, arI, Value.ite_bool, int_beq, int_bne, ite_band, ite_bor, decide_eq_true_eq] at g1
  have hi2 : i < 2 := by omega
  obtain ⟨k, w, hkw, hstep⟩ : ∃ k w : Int, (k = (if i = 0 then a else b) ∧ w = (if i = 0 then b else a)) ∧ ∀ c d : Int, ((1 ≤ i ∧ c = a ∧ d = b) ∨ (2 ≤ i ∧ c = b ∧ d = a) ∨ (c = k ∧ d = w)) ↔ ((1 ≤ i + 1 ∧ c = a ∧ d = b) ∨ (2 ≤ i + 1 ∧ c = b ∧ d = a)) := by
    refine ⟨_, _, ⟨rfl, rfl⟩, fun c d => ?_⟩
    by_cases e : i = 0
    · rw [if_pos e, if_pos e]; subst e; simp
    · have : i = 1 := by omega
      subst this; simp
  refine den_indexA (kk := .i64) (e := 51) (e2 := 3) (n := 2) (m := 2) (z := 2) (cs := #[.int .i64 a, .int .i64 b, .int .i64 b, .int .i64 a]) (j := i) [.int .i64 k, .int .i64 w] (by kernel_rfl) (by kernel_rfl) (by kernel_rfl) (by kernel_rfl) (by kernel_rfl) hi2 ?_ rfl ?_
  · obtain ⟨rfl, rfl⟩ := hkw
    by_cases e : i = 0
    · rw [if_pos e, if_pos e]; subst e; rfl
    · have : i = 1 := by omega
      subst this; rfl
  simp only [List.cons_append, List.nil_append]
  refine ⟨fun vs K' => vs = [] ∧ ∃ (es' : Array MapEntry) (cl' : Nat) (N' : List (Int × GN)), Held S K' (grB gr es' cl' ++ grI N') ∧ GrOk es' cl' N' ∧ (∀ c d, relN N' c d ↔ relN N1 c d) ∧ ∃ (j : Nat) (x : Int × GN), N'[j]? = some x ∧ x.1 = k, ?_, ?_⟩
  · rintro vs K2 _ ⟨rfl, es2, cl2, N2, h2, hg2, hr2, j, x, hx, hxk⟩
    have hn2 := outM_keys hg2
    have hget := getM_out hn2 hx
    rw [hxk] at hget
    have hb2 : K2 gr = some (.map es2 cl2) := h2.blk (List.mem_cons_self ..)
    refine den_lookup (α := Int) (m := outM N2) (v := .map (some gr)) k (.map none) uGraphK kIntK (by kernel_rfl) (by kernel_rfl) (by kernel_rfl) ⟨gr, es2, cl2, rfl, hb2, hg2.outer⟩ (by rw [hget]; rfl) pendNil ?_
    rw [hget]
    simp only [Option.getD_some, List.cons_append, List.nil_append]
    have h3 := h2.pick (show (grI N2)[j]? = some (.blk x.2.ref (.map x.2.es x.2.cl)) by rw [grI, List.getElem?_map, hx]; rfl)
    refine den_mapUpdate (α := Int) (m := encS x.2.s) (r := x.2.ref) (es := x.2.es) (clock := x.2.cl) w (.int .i64 1) uInnerK kIntK (by kernel_rfl) (by kernel_rfl) (by kernel_rfl) (h3.blk (List.mem_cons_self ..)) (hg2.inner j x hx) fun es3 cl3 he3 => ?_
    rw [encS_put] at he3
    have h4 := (h3.put (.map es3 cl3)).unpick (by rw [grI, List.length_map]; exact (List.getElem?_eq_some_iff.1 hx).1)
    rw [grI_set (s := addS x.2.s w) hx] at h4
    have hjl := (List.getElem?_eq_some_iff.1 hx).1
    refine ⟨_, lookup_hit, n - 1, by omega, i + 1, es2, cl2, _, ?_, by omega, h4, ⟨by rw [outM_set hx]; exact hg2.outer, fun t y hy => ?_⟩, fun c d => ?_⟩
    · simp only [ev0, ev, evV, List.cons_append, List.nil_append, List.getD_cons_zero, List.getD_cons_succ, List.map_cons, List.map_nil, iOf, bOf, sOf, pOf, slLen, slBase, cmpI, arI, Value.ite_bool, int_beq, int_bne, ite_band, ite_bor]; rw [w64 (by omega) (by omega)]; rfl
    · rw [List.getElem?_set] at hy
      by_cases e : j = t
      · rw [if_pos e, if_pos hjl] at hy; cases hy; exact he3
      · rw [if_neg e] at hy; exact hg2.inner t y hy
    · rw [relN_set (k := w) hn2 hx (fun y => addS_mem _ _ _), hr2, hr1, hxk, or_assoc, ← hstep]
      simp only [or_assoc]
  · have hb1 : K1 gr = some (.map es1 cl1) := h1.blk (List.mem_cons_self ..)
    have hn1 := outM_keys hg1
    by_cases hin : ∃ x ∈ N1, x.1 = k
    · obtain ⟨x, hx, hxk⟩ := hin
      obtain ⟨j, hj⟩ := List.getElem?_of_mem hx
      have hget := getM_out hn1 hj
      rw [hxk] at hget
      refine den_lookup (α := Int) (m := outM N1) (v := .map (some gr)) k (.map none) uGraphK kIntK (by kernel_rfl) (by kernel_rfl) (by kernel_rfl) ⟨gr, es1, cl1, rfl, hb1, hg1.outer⟩ (by rw [hget]; rfl) pendNil ?_
      rw [hget]
      simp only [Option.getD_some, List.cons_append, List.nil_append]
      refine ⟨fun g2 => ?_, fun g2 => ?_⟩
      · simp [evV, ev0, ev, isNilV, bOf] at g2
      · exact ⟨_, lookup_hit, rfl, es1, cl1, N1, h1, hg1, fun c d => Iff.rfl, j, x, hj, hxk⟩
    · have hno : ∀ x ∈ N1, x.1 ≠ k := fun x hx e => hin ⟨x, hx, e⟩
      have hget := getM_outNone hno
      refine den_lookup (α := Int) (m := outM N1) (v := .map (some gr)) k (.map none) uGraphK kIntK (by kernel_rfl) (by kernel_rfl) (by kernel_rfl) ⟨gr, es1, cl1, rfl, hb1, hg1.outer⟩ (by rw [hget]; rfl) pendNil ?_
      rw [hget]
      simp only [Option.getD_none, List.cons_append, List.nil_append]
      refine ⟨fun g2 => ?_, fun g2 => ?_⟩
      · refine den_makeMap fun r hr => ?_
        have h2 := h1.new hr (.map #[] 0)
        simp only [List.cons_append, List.nil_append]
        refine den_mapUpdate (α := Int) (m := outM N1) (r := gr) (es := es1) (clock := cl1) k (.map (some r)) uGraphK kIntK (by kernel_rfl) (by kernel_rfl) (by kernel_rfl) (h2.blk (List.mem_cons_of_mem _ (List.mem_cons_self ..))) hg1.outer fun es3 cl3 he3 => ?_
        have hput : putM (outM N1) k (.map (some r)) = outM (N1 ++ [(k, ⟨r, #[], 0, []⟩)]) := by
          unfold putM
          rw [hget, if_neg (by simp), outM, outM, List.map_append]; rfl
        rw [hput] at he3
        have h3 := ((h2.perm (List.Perm.swap _ _ _)).put (.map es3 cl3))
        have h3' : Held S _ (grB gr es3 cl3 ++ grI (N1 ++ [(k, ⟨r, #[], 0, []⟩)])) := h3.perm (by
          have e : grI (N1 ++ [(k, ⟨r, #[], 0, []⟩)]) = grI N1 ++ [Itm.blk r (.map #[] 0)] := by rw [grI, grI, List.map_append]; rfl
          rw [e]
          exact List.Perm.cons _ (List.perm_append_comm (l₁ := [Itm.blk r (.map #[] 0)]) (l₂ := grI N1)))
        refine ⟨_, lookup_hit, rfl, es3, cl3, _, h3', ⟨he3, fun t y hy => ?_⟩, fun c d => ?_, N1.length, (k, ⟨r, #[], 0, []⟩), by simp, rfl⟩
        · by_cases ht : t < N1.length
          · rw [List.getElem?_append_left ht] at hy; exact hg1.inner t y hy
          · rw [List.getElem?_append_right (by omega)] at hy
            have : y = (k, ⟨r, #[], 0, []⟩) := by
              cases hd : t - N1.length with
              | zero => rw [hd] at hy; simp at hy; exact hy.symm
              | succ m => rw [hd] at hy; simp at hy
            subst this; exact setOk_nil
        · unfold relN
          constructor
          · rintro ⟨y, hy, h4, h5⟩
            rcases List.mem_append.1 hy with hy | hy
            · exact ⟨y, hy, h4, h5⟩
            · rw [List.mem_singleton.1 hy] at h5; cases h5
          · rintro ⟨y, hy, h4, h5⟩
            exact ⟨y, List.mem_append_left _ hy, h4, h5⟩
      · simp [evV, ev0, ev, isNilV, bOf] at g2

/-! ### who meets, by the program -/
theorem Index_gives (l : List Int) (n : Int) (v : Value) (H : PH) (hl : SlR H l v) (hll : l.length ≤ 4000000) : ∃ i : Int, Gives Try.prog n_slices_Index___int_int_ [v, .int .i64 n] H (.int .i64 i) ∧ (i ≥ 0 ↔ n ∈ l) := by
  by_cases hn : n ∈ l
  · obtain ⟨j, hj, hfirst⟩ : ∃ j : Nat, l[j]? = some n ∧ ∀ t : Nat, t < j → l[t]? ≠ some n := by
      obtain ⟨t, ht⟩ := List.getElem?_of_mem hn
      have key : ∀ t : Nat, l[t]? = some n → ∃ j : Nat, l[j]? = some n ∧ ∀ s : Nat, s < j → l[s]? ≠ some n := by
        intro t
        induction t using Nat.strongRecOn with
        | ind t ih =>
          intro ht
          by_cases h : ∃ s : Nat, s < t ∧ l[s]? = some n
          · obtain ⟨s, hs, hsn⟩ := h; exact ih s hs hsn
          · exact ⟨t, ht, fun s hs hsn => h ⟨s, hs, hsn⟩⟩
      exact key t ht
    refine ⟨(j : Int), ?_, ⟨fun _ => hn, fun _ => by omega⟩⟩
    obtain ⟨b1, c1, rfl⟩ := hl.sl
    refine tri_slices_Index___int_int_ [.slice b1 l.length c1, .int .i64 n] (by kernel_rfl) (by kernel_rfl) ?_
    have hjl := (List.getElem?_eq_some_iff.1 hj).1
    refine ⟨fun m vs K => ∃ (z : Int) (k : Nat), vs = [.int .i64 z, nI k] ∧ k + m = l.length ∧ k ≤ j ∧ K = H, ⟨l.length, 0, 0, rfl, by omega, by omega, rfl⟩, ?_⟩
    rintro m vs K _ ⟨z, k, rfl, hkm, hkj, rfl⟩
    refine ⟨fun g => ?_, fun g => ?_⟩
    · simp only [ev0, ev, evV, List.cons_append, List.nil_append, List.getD_cons_zero, List.getD_cons_succ, List.map_cons, List.map_nil, iOf, bOf, sOf, pOf, slLen, slBase, cmpI, arI, Value.ite_bool, int_beq, int_bne, ite_band, ite_bor, decide_eq_true_eq] at g
      obtain ⟨a, ha⟩ : ∃ a, l[k]? = some a := ⟨_, List.getElem?_eq_getElem (by omega)⟩
      obtain ⟨r1, _, rcs, r2, r3⟩ := hl.get ha
      obtain ⟨rfl, _⟩ := csIK r2
      refine ⟨fun _ => ?_, [.int .i64 a], rfl, ?_, fun g2 => ?_, fun g2 => ?_⟩
      · simp only [Chk.holds, ev0, ev, evV, List.cons_append, List.nil_append, List.getD_cons_zero, List.getD_cons_succ, List.map_cons, List.map_nil, iOf, bOf, sOf, pOf, slLen, slBase, cmpI, arI, Value.ite_bool, int_beq, int_bne, ite_band, ite_bor]; exact ⟨r1, by omega, by omega⟩
      · simp only [ev0, ev, evV, List.cons_append, List.nil_append, List.getD_cons_zero, List.getD_cons_succ, List.map_cons, List.map_nil, iOf, bOf, sOf, pOf, slLen, slBase, cmpI, arI, Value.ite_bool, int_beq, int_bne, ite_band, ite_bor]; exact r3
      · simp only [ev0, ev, evV, List.cons_append, List.nil_append, List.getD_cons_zero, List.getD_cons_succ, List.map_cons, List.map_nil, iOf, bOf, sOf, pOf, slLen, slBase, cmpI, arI, Value.ite_bool, int_beq, int_bne, ite_band, ite_bor] at g2
        have hna : n = a := by simpa using g2
        subst hna
        have : k = j := by
          rcases Nat.lt_or_ge k j with h | h
          · exact absurd ha (hfirst k h)
          · omega
        subst this
        exact ⟨rfl, PH.le_refl _⟩
      · simp only [ev0, ev, evV, List.cons_append, List.nil_append, List.getD_cons_zero, List.getD_cons_succ, List.map_cons, List.map_nil, iOf, bOf, sOf, pOf, slLen, slBase, cmpI, arI, Value.ite_bool, int_beq, int_bne, ite_band, ite_bor] at g2
        have hna : n ≠ a := by simpa using g2
        refine ⟨_, lookup_hit, m - 1, by omega, z, k + 1, ?_, by omega, ?_, rfl⟩
        · simp only [ev0, ev, evV, List.cons_append, List.nil_append, List.getD_cons_zero, List.getD_cons_succ, List.map_cons, List.map_nil, iOf, bOf, sOf, pOf, slLen, slBase, cmpI, arI, Value.ite_bool, int_beq, int_bne, ite_band, ite_bor]; rw [w64 (by omega) (by omega)]; rfl
        · rcases Nat.lt_or_ge k j with h | h
          · omega
          · have : k = j := by omega
            subst this
            rw [hj] at ha; cases ha; exact absurd rfl hna
    · simp only [ev0, ev, evV, List.cons_append, List.nil_append, List.getD_cons_zero, List.getD_cons_succ, List.map_cons, List.map_nil, iOf, bOf, sOf, pOf, slLen, slBase, cmpI, arI, Value.ite_bool, int_beq, int_bne, ite_band, ite_bor, decide_eq_false_iff_not] at g
      omega
  · refine ⟨-1, ?_, ⟨fun h => by omega, fun h => absurd h hn⟩⟩
    obtain ⟨b1, c1, rfl⟩ := hl.sl
    refine tri_slices_Index___int_int_ [.slice b1 l.length c1, .int .i64 n] (by kernel_rfl) (by kernel_rfl) ?_
    refine ⟨fun m vs K => ∃ (z : Int) (k : Nat), vs = [.int .i64 z, nI k] ∧ k + m = l.length ∧ K = H, ⟨l.length, 0, 0, rfl, by omega, rfl⟩, ?_⟩
    rintro m vs K _ ⟨z, k, rfl, hkm, rfl⟩
    refine ⟨fun g => ?_, fun g => ⟨rfl, PH.le_refl _⟩⟩
    simp only [ev0, ev, evV, List.cons_append, List.nil_append, List.getD_cons_zero, List.getD_cons_succ, List.map_cons, List.map_nil, iOf, bOf, sOf, pOf, slLen, slBase, cmpI, arI, Value.ite_bool, int_beq, int_bne, ite_band, ite_bor, decide_eq_true_eq] at g
    obtain ⟨a, ha⟩ : ∃ a, l[k]? = some a := ⟨_, List.getElem?_eq_getElem (by omega)⟩
    obtain ⟨r1, _, rcs, r2, r3⟩ := hl.get ha
    obtain ⟨rfl, _⟩ := csIK r2
    refine ⟨fun _ => ?_, [.int .i64 a], rfl, ?_, fun g2 => ?_, fun g2 => ?_⟩
    · simp only [Chk.holds, ev0, ev, evV, List.cons_append, List.nil_append, List.getD_cons_zero, List.getD_cons_succ, List.map_cons, List.map_nil, iOf, bOf, sOf, pOf, slLen, slBase, cmpI, arI, Value.ite_bool, int_beq, int_bne, ite_band, ite_bor]; exact ⟨r1, by omega, by omega⟩
    · simp only [ev0, ev, evV, List.cons_append, List.nil_append, List.getD_cons_zero, List.getD_cons_succ, List.map_cons, List.map_nil, iOf, bOf, sOf, pOf, slLen, slBase, cmpI, arI, Value.ite_bool, int_beq, int_bne, ite_band, ite_bor]; exact r3
    · simp only [ev0, ev, evV, List.cons_append, List.nil_append, List.getD_cons_zero, List.getD_cons_succ, List.map_cons, List.map_nil, iOf, bOf, sOf, pOf, slLen, slBase, cmpI, arI, Value.ite_bool, int_beq, int_bne, ite_band, ite_bor] at g2
      have hna : n = a := by simpa using g2
      exact absurd (hna ▸ List.mem_of_getElem? ha) hn
    · refine ⟨_, lookup_hit, m - 1, by omega, z, k + 1, ?_, by omega, rfl⟩
      simp only [ev0, ev, evV, List.cons_append, List.nil_append, List.getD_cons_zero, List.getD_cons_succ, List.map_cons, List.map_nil, iOf, bOf, sOf, pOf, slLen, slBase, cmpI, arI, Value.ite_bool, int_beq, int_bne, ite_band, ite_bor]; rw [w64 (by omega) (by omega)]; rfl
theorem Contains_gives (l : List Int) (n : Int) (v : Value) (H : PH) (hl : SlR H l v) (hll : l.length ≤ 4000000) : Gives Try.prog n_slices_Contains___int_int_ [v, .int .i64 n] H (.bool (decide (n ∈ l))) := by
  obtain ⟨i, h1, h2⟩ := Index_gives l n v H hl hll
  obtain ⟨b1, c1, rfl⟩ := hl.sl
  refine tri_slices_Contains___int_int_ [.slice b1 l.length c1, .int .i64 n] (by kernel_rfl) (by kernel_rfl) ?_
  refine den_gives [.int .i64 i] cb_slices_Index___int_int_ h1 rfl pendNil fun K1 l1 => ⟨?_, l1⟩
  simp only [ev0, ev, evV, List.cons_append, List.nil_append, List.getD_cons_zero, List.getD_cons_succ, List.map_cons, List.map_nil, iOf, bOf, sOf, pOf, slLen, slBase, cmpI, arI, Value.ite_bool, int_beq, int_bne, ite_band, ite_bor]
  congr 2
  by_cases h : n ∈ l
  · rw [decide_eq_true h, decide_eq_true (h2.2 h)]
  · rw [decide_eq_false h, decide_eq_false (fun hh => h (h2.1 hh))]
end Go.Proofs.Ytlbbmcpppfiplaa.Vc
