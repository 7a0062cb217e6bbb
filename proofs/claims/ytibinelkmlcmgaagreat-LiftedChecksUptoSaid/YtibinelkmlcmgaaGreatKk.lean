/-
  Texts on the way to the statement, one behind the other, without what it does not reach.
-/
import Derived.Test.YtibinelkmlcmgaaGreatKj
import Derived.Lib.ItoaNum
import Derived.Lib.LaidTab
set_option linter.unusedSimpArgs false
set_option linter.unusedVariables false
set_option maxRecDepth 100000
/-
  DATA: a number's text.
-/
namespace Go.Proofs.YtibinelkmlcmgaaGreat.Vc
open Go

theorem nDigits_le : ∀ (k u : Nat), u < 10 ^ (k + 1) → Lib.nDigits u ≤ k + 1
  | 0, u, h => by rw [Lib.nDigits_small (by simpa using h)]; omega
  | k + 1, u, h => by
    by_cases h1 : u < 10
    · rw [Lib.nDigits_small h1]; omega
    · rw [Lib.nDigits_big h1]
      have := nDigits_le k (u / 10) (by rw [Nat.pow_succ] at h; omega)
      omega
theorem digits_len (n : Nat) (h : n ≤ 9223372036854775808) : (Lib.decDigits n).length ≤ 20 := by
  rw [Lib.decDigits_length]
  exact nDigits_le 19 n (by omega)

end Go.Proofs.YtibinelkmlcmgaaGreat.Vc
/-
  DATA: the text of a datum, by definition.
-/
namespace Go.Proofs.YtibinelkmlcmgaaGreat.Vc
open Go

def byteOf (n : Int) : UInt8 := UInt8.ofNat (n % 256).toNat
mutual
/-- a datum's text; bare: its show -/
def Dat.txtL (bare : Bool) : Dat → List UInt8
  | .mk k n t l => if k = 0 then (if n = 0 then [35, 102] else [35, 116]) else if k = 1 then Lib.itoa n else if k = 2 then (if bare then [byteOf n] else charL (byteOf n)) else if k = 3 then (if bare then t else quotedL t) else if k = 4 then t
      else (if k = 7 then [35, 40] else [40]) ++ Dats.txtL bare (decide (k = 6)) true l ++ [41]
def Dats.txtL (bare dotted : Bool) : Bool → List Dat → List UInt8
  | _, [] => []
  | first, d :: l => (if first then [] else [32]) ++ (if dotted && l.isEmpty then [46, 32] else []) ++ Dat.txtL bare d ++ Dats.txtL bare dotted false l
end
theorem charL_len (c : UInt8) : (charL c).length ≤ 9 := by
  unfold charL; split
  · simp
  split
  · simp
  split
  · simp
  · simp [twoL]
theorem itoa_len (n : Int) (h : InI n) : (Lib.itoa n).length ≤ 21 := by
  obtain ⟨a, b⟩ := h
  unfold Lib.itoa; split
  · have := digits_len n.natAbs (by omega); simp only [List.length_cons]; omega
  · have := digits_len n.toNat (by omega); omega
theorem quotedL_len (l : List UInt8) : (quotedL l).length ≤ 4 * l.length + 2 := by
  have := quotes_len l
  simp only [quotedL, List.length_append, List.length_cons, List.length_nil]; omega
mutual
theorem Dat.chk_len (bare : Bool) : ∀ (d : Dat) (deep seen : Nat), seen ≤ 4096 → (d.chk deep seen).2 = 0 → seen < (d.chk deep seen).1 ∧ (d.txtL bare).length + 3 ≤ 16500 * ((d.chk deep seen).1 - seen)
  | .mk k n t l, deep, seen, hs, h => by
    simp only [Dat.chk] at h ⊢
    split at h
    · simp at h
    rename_i h0
    rw [if_neg h0]
    split at h
    · simp at h
    rename_i h1
    rw [if_neg h1]
    split at h
    · simp at h
    rename_i h2
    rw [if_neg h2]
    have hf : formOk (.mk k n t l) = true := by simpa using h2
    have ih := Dats.chk_len bare (decide (k = 6)) true l (deep + 1) (seen + 1) (by omega) h
    refine ⟨by omega, ?_⟩
    have hch := charL_len (byteOf n)
    have hqu := quotedL_len t
    have hit : k = 1 → (Lib.itoa n).length ≤ 21 := fun hk => itoa_len n (by
      subst hk
      simp only [formOk, Dat.kind, Dat.int, Dat.text, Dat.list] at hf
      simp at hf
      obtain ⟨⟨_, h5⟩, h6⟩ := hf
      have h5 := of_decide_eq_true h5
      have h6 := of_decide_eq_true h6
      exact ⟨by omega, by omega⟩)
    have ht3 : k = 3 → t.length ≤ 4096 := fun hk => by
      subst hk
      simp only [formOk, Dat.kind, Dat.int, Dat.text, Dat.list] at hf
      simp at hf; exact of_decide_eq_true hf.2
    have ht4 : k = 4 → t.length ≤ 64 := fun hk => by
      subst hk
      simp only [formOk, Dat.kind, Dat.int, Dat.text, Dat.list, nameOk] at hf
      simp at hf; exact of_decide_eq_true hf.2.1.1.2
    simp only [Dat.txtL]
    split
    · split <;> simp <;> omega
    split
    · rename_i hk; have := hit hk; omega
    split
    · split
      · simp; omega
      · omega
    split
    · rename_i hk; have := ht3 hk
      split <;> omega
    split
    · rename_i hk; have := ht4 hk; omega
    · simp only [List.length_append, List.length_cons, List.length_nil]
      split <;> simp only [List.length_cons, List.length_nil] <;> omega
theorem Dats.chk_len (bare dotted : Bool) : ∀ (first : Bool) (l : List Dat) (deep seen : Nat), seen ≤ 4096 → (Dats.chk l deep seen).2 = 0 → seen ≤ (Dats.chk l deep seen).1 ∧ (Dats.txtL bare dotted first l).length ≤ 16500 * ((Dats.chk l deep seen).1 - seen)
  | _, [], _, _, _, _ => by simp [Dats.chk, Dats.txtL]
  | first, d :: l, deep, seen, hs, h => by
    simp only [Dats.chk] at h ⊢
    split at h
    · rename_i hx; exact absurd h hx
    rename_i hx
    rw [if_neg hx]
    have i1 := Dat.chk_len bare d deep seen hs (by simpa using hx)
    have hle := Dat.chk_le d deep seen hs
    have i2 := Dats.chk_len bare dotted false l deep (d.chk deep seen).1 hle h
    refine ⟨by omega, ?_⟩
    simp only [Dats.txtL, List.length_append]
    have e1 : (if first = true then [] else [32] : List UInt8).length ≤ 1 := by split <;> simp
    have e2 : (if (dotted && l.isEmpty) = true then [46, 32] else [] : List UInt8).length ≤ 2 := by split <;> simp
    omega
end
end Go.Proofs.YtibinelkmlcmgaaGreat.Vc
/-
  DATA: the text of the document's answer.
-/
namespace Go.Proofs.YtibinelkmlcmgaaGreat.Vc
open Go

theorem drop_get {α : Type} {l : List α} {k : Nat} {a : α} (h : l[k]? = some a) : l.drop k = a :: l.drop (k + 1) := by
  obtain ⟨hk, rfl⟩ := List.getElem?_eq_some_iff.1 h
  exact List.drop_eq_getElem_cons hk
end Go.Proofs.YtibinelkmlcmgaaGreat.Vc
/-
  A NUMBER's TEXT BEHIND BYTES: strconv.AppendInt, over a part of the heap; by the shelf's contracts of the parts.
-/
namespace Go.Proofs.YtibinelkmlcmgaaGreat.Vc
open Go

/-- the table of powers lies in H -/
def Tab (H : PH) : Prop := ∃ g e f, Tryz.prog.globalNamed "internal/strconv.uint64pow10" = some g ∧ H g = some (.cells (Lib.pow10Tab.map fun z => Value.int .u64 z).toArray e f)
theorem Tab.le {H H' : PH} (h : Tab H) (hl : PH.le H H') : Tab H' := by
  obtain ⟨g, e, f, h1, h2⟩ := h; exact ⟨g, e, f, h1, hl _ _ h2⟩
theorem Tab.is {H : PH} {w : World} (h : Tab H) (hv : Vis H w) : Lib.TabIs Tryz.prog w "internal/strconv.uint64pow10" .u64 Lib.pow10Tab := by
  obtain ⟨g, e, f, h1, h2⟩ := h
  unfold Lib.TabIs World.var?
  rw [h1]
  simp only [Option.bind_some, hv _ _ h2]

end Go.Proofs.YtibinelkmlcmgaaGreat.Vc
/-
  DATA: the writer: a character, a string.
-/
namespace Go.Proofs.YtibinelkmlcmgaaGreat.Vc
open Go

/-- a row of bytes hangs on no other memory -/
theorem bytes_any {H H' : PH} : ∀ {l : List UInt8} {xs : List Value}, PV.RepRow H (l.flatMap pv) xs → PV.RepRow H' (l.flatMap pv) xs
  | [], xs, h => by simp only [List.flatMap_nil, PV.RepRow] at h ⊢; exact h
  | c :: l, xs, h => by
    rw [List.flatMap_cons] at h ⊢
    have h' : PV.RepRow H (.int .u8 (c.toNat : Int) :: l.flatMap pv) xs := h
    show PV.RepRow H' (.int .u8 (c.toNat : Int) :: l.flatMap pv) xs
    simp only [PV.RepRow, PV.Rep] at h' ⊢
    obtain ⟨v, vs, rfl, h1, h2⟩ := h'
    exact ⟨v, vs, rfl, h1, bytes_any h2⟩
/-- THE WRITER's STATE: at w lies its row of bytes, and whether it writes bare; what is in H0 stands. -/
structure WSv (H0 H : PH) (w : Nat) (T : TypeId) (out : List UInt8) (bare : Bool) (bv : Value) : Prop where
  at_ : H w = some (.cells #[bv, .bool bare] T (0, 0))
  acc : Acc H0 H 5 out bv
  own : ob bv ≠ some w
  base : H0 w = none
def WS (H0 H : PH) (w : Nat) (T : TypeId) (out : List UInt8) (bare : Bool) : Prop := ∃ bv, WSv H0 H w T out bare bv

section
variable {H0 H : PH} {w : Nat} {T : TypeId} {out : List UInt8} {bare : Bool} {bv : Value}
theorem WSv.row (h : WSv H0 H w T out bare bv) : rowAt H ((some ⟨w, 0, none⟩ : Option Addr).map (·.add 0)) [bv] := ⟨_, rfl, fun i v hi => by
  show H.cell? ((Addr.add ⟨w, 0, none⟩ 0).add i) = _
  rw [Addr.add_plain, Addr.add_plain, PH.cell_at h.at_]
  cases i with
  | zero => simpa using hi
  | succ i => simp at hi⟩
theorem WSv.row1 (h : WSv H0 H w T out bare bv) : rowAt H ((some ⟨w, 0, none⟩ : Option Addr).map (·.add 1)) [.bool bare] := ⟨_, rfl, fun i v hi => by
  show H.cell? ((Addr.add ⟨w, 0, none⟩ 1).add i) = _
  rw [Addr.add_plain, Addr.add_plain, PH.cell_at h.at_]
  cases i with
  | zero => simpa using hi
  | succ i => simp at hi⟩
theorem WSv.tag (h : WSv H0 H w T out bare bv) : tagsOk [.sl] [bv] = true := by
  obtain ⟨b, c, rfl⟩ := h.acc.sl; rfl
theorem WSv.mono {H' : PH} (h : WSv H0 H w T out bare bv) (hl : PH.le H H') : WSv H0 H' w T out bare bv := ⟨hl _ _ h.at_, h.acc.mono hl, h.own, h.base⟩
theorem WSv.store {H' : PH} {v' : Value} {out' : List UInt8} (h : WSv H0 H w T out bare bv) (ha : Acc H0 H' 5 out' v') (hw : Went H H' bv v') : WS H0 (H'.upd w (.cells #[v', .bool bare] T (0, 0))) w T out' bare := by
  have hne : ob v' ≠ some w := fun e => (hw.fresh w e).elim h.own fun hn => by rw [h.at_] at hn; cases hn
  refine ⟨v', PH.upd_same, ⟨?_, ?_⟩, hne, h.base⟩
  · intro k o hk
    have hkw : k ≠ w := fun e => by rw [e, h.base] at hk; cases hk
    have := ha.le k o hk
    unfold delV at this ⊢
    cases hv' : ob v' with
    | none => rw [hv'] at this; show (H'.upd w _) k = _; rw [PH.upd_other hkw]; exact this
    | some g =>
      rw [hv'] at this
      show ((H'.upd w _).del g) k = _
      have this' : (H'.del g) k = some o := this
      unfold PH.del at this' ⊢
      split at this'
      · cases this'
      · rename_i e; rw [if_neg e, PH.upd_other hkw]; exact this'
  · obtain ⟨xs, h1, h2⟩ := ha.own
    exact ⟨xs, h1.le fun k hk => PH.upd_other fun e => hne (by rw [hk, e]), bytes_any h2⟩
variable {X : List PanicEntry → PH → Prop} {β : Type} {E : List Value} {L : LK} {K : β → List Value → PH → LK → Prop}
end

end Go.Proofs.YtibinelkmlcmgaaGreat.Vc
/-
  DATA: the writer: a datum; Text and Show.
-/
namespace Go.Proofs.YtibinelkmlcmgaaGreat.Vc
open Go

/-- a datum that is within one that may be -/
def Dat.Good (d : Dat) : Prop := ∃ deep seen, seen ≤ 4096 ∧ (d.chk deep seen).2 = 0
theorem Dats.good : ∀ (l : List Dat) (deep seen : Nat), seen ≤ 4096 → (Dats.chk l deep seen).2 = 0 → ∀ e ∈ l, e.Good
  | [], _, _, _, _, e, he => by cases he
  | d :: l, deep, seen, hs, h, e, he => by
    simp only [Dats.chk] at h
    split at h
    · rename_i hx; exact absurd h hx
    rename_i hx
    have hx : (d.chk deep seen).2 = 0 := by simpa using hx
    rcases List.mem_cons.1 he with rfl | he
    · exact ⟨deep, seen, hs, hx⟩
    · exact Dats.good l deep _ (Dat.chk_le d deep seen hs) h e he
theorem Dat.Good.form {d : Dat} (h : d.Good) : formOk d = true := by
  obtain ⟨deep, seen, hs, h⟩ := h
  rw [Dat.chk_eq] at h
  split at h
  · simp at h
  split at h
  · simp at h
  split at h
  · simp at h
  · rename_i hx; simpa using hx
theorem Dat.Good.kids {d : Dat} (h : d.Good) : ∀ e ∈ d.list, e.Good := by
  obtain ⟨deep, seen, hs, h⟩ := h
  rw [Dat.chk_eq] at h
  split at h
  · simp at h
  split at h
  · simp at h
  split at h
  · simp at h
  · exact Dats.good d.list _ _ (by omega) h
theorem Dat.Good.len {d : Dat} (h : d.Good) (bare : Bool) : (d.txtL bare).length ≤ 67600000 := by
  obtain ⟨deep, seen, hs, h⟩ := h
  have h1 := Dat.chk_len bare d deep seen hs h
  have h2 := Dat.chk_le d deep seen hs
  omega
theorem WS.le {H0 H : PH} {w : Nat} {T : TypeId} {out : List UInt8} {bare : Bool} (h : WS H0 H w T out bare) : PH.le H0 H := by
  obtain ⟨bv, h⟩ := h; exact h.acc.all

end Go.Proofs.YtibinelkmlcmgaaGreat.Vc
/-
  DATA that may be have the same text just if they are the same: a plain law. No program in sight.
-/
namespace Go.Proofs.YtibinelkmlcmgaaGreat.Vc
open Go

/-! ### numbers -/
/-! ### what stands behind a text -/
/-! ### characters and strings -/
/-- u begins v -/
def pre : List UInt8 → List UInt8 → Bool
  | [], _ => true
  | _ :: _, [] => false
  | a :: l, b :: m => a == b && pre l m
/-! ### the kind of a text, by its first bytes -/
/-- a datum that may be: its kind, and what of its fields is of moment -/
theorem form_cases {d : Dat} (h : formOk d = true) :
    (d.kind = 0 ∧ (d.int = 0 ∨ d.int = 1) ∧ d.text = [] ∧ d.list = []) ∨ (d.kind = 1 ∧ d.text = [] ∧ d.list = []) ∨ (d.kind = 2 ∧ 0 ≤ d.int ∧ d.int ≤ 255 ∧ d.text = [] ∧ d.list = []) ∨ (d.kind = 3 ∧ d.int = 0 ∧ d.list = []) ∨
    (d.kind = 4 ∧ d.int = 0 ∧ d.list = [] ∧ nameOk d.text = true) ∨ (d.kind = 5 ∧ d.int = 0 ∧ d.text = []) ∨ (d.kind = 6 ∧ d.int = 0 ∧ d.text = [] ∧ 2 ≤ d.list.length) ∨ (d.kind = 7 ∧ d.int = 0 ∧ d.text = []) := by
  obtain ⟨k, n, t, l⟩ := d
  simp only [formOk, Dat.kind, Dat.int, Dat.text, Dat.list, List.isEmpty_iff] at h ⊢
  by_cases h0 : k = 0
  · subst h0; simp at h ⊢; obtain ⟨⟨h1, h2⟩, h3⟩ := h; exact ⟨h3.imp of_decide_eq_true of_decide_eq_true, of_decide_eq_true h1, h2⟩
  by_cases h1 : k = 1
  · subst h1; simp at h ⊢; exact ⟨of_decide_eq_true h.1.1.1, h.1.1.2⟩
  by_cases h2 : k = 2
  · subst h2; simp at h ⊢; obtain ⟨⟨⟨a, b⟩, c⟩, e⟩ := h; exact ⟨of_decide_eq_true c, of_decide_eq_true e, of_decide_eq_true a, b⟩
  by_cases h3 : k = 3
  · subst h3; simp at h ⊢; obtain ⟨⟨a, b⟩, c⟩ := h; exact ⟨of_decide_eq_true a, b⟩
  by_cases h4 : k = 4
  · subst h4; simp at h ⊢; obtain ⟨⟨a, b⟩, c⟩ := h; exact ⟨of_decide_eq_true a, b, c⟩
  by_cases h5 : k = 5
  · subst h5; simp at h ⊢; exact ⟨of_decide_eq_true h.1, of_decide_eq_true h.2⟩
  by_cases h7 : k = 7
  · subst h7; simp at h ⊢; exact ⟨of_decide_eq_true h.1, of_decide_eq_true h.2⟩
  by_cases h6 : k = 6
  · subst h6; simp at h ⊢; obtain ⟨⟨⟨a, b⟩, c⟩, e⟩ := h; exact ⟨of_decide_eq_true a, of_decide_eq_true b, of_decide_eq_true c⟩
  · simp [h0, h1, h2, h3, h4, h5, h6, h7] at h
end Go.Proofs.YtibinelkmlcmgaaGreat.Vc
/-
  DATA: the fixed calls; the law of the checks.
-/
namespace Go.Proofs.YtibinelkmlcmgaaGreat.Vc
open Go

theorem uDats : Tryz.prog.underlying 24 = some (.slice 26) := by kernel_rfl
instance decInI (n : Int) : Decidable (InI n) := inferInstanceAs (Decidable (_ ∧ _))
/-- a datum without items, written out -/
theorem leaf_rep {H : PH} {k n : Int} {t : List UInt8} (hk : InI k) (hn : InI n) (ht : t.length ≤ maxLen) : Dat.Rep H (.mk k n t []) [.int .i64 k, .int .i64 n, txt t, .slice none 0 0] :=
  Dat.Rep_iff.2 ⟨_, rfl, hk, hn, ht, SlR.mk_iff.2 ⟨Nat.zero_le _, .inl ⟨rfl, rfl⟩⟩⟩
end Go.Proofs.YtibinelkmlcmgaaGreat.Vc
/-
  DATA that come in.
-/
namespace Go.Proofs.YtibinelkmlcmgaaGreat.Vc
open Go Go.ChangeShapes Go.WideShapes Go.ChangeAt Go.RowKit

mutual
def Dat.wt : Dat → Nat
  | .mk _ _ t l => t.length + 5 + Dats.wt l
def Dats.wt : List Dat → Nat
  | [] => 0
  | d :: l => Dat.wt d + Dats.wt l
end
theorem Dats.wt_eq : ∀ l : List Dat, Dats.wt l = sumWt Dat.wt l
  | [] => by simp only [Dats.wt, sumWt]
  | d :: l => by simp only [Dats.wt, sumWt, Dats.wt_eq l]
theorem Dat.wt_eq (d : Dat) : d.wt = d.text.length + 5 + sumWt Dat.wt d.list := by
  cases d; simp only [Dat.wt, Dat.text, Dat.list, Dats.wt_eq]
noncomputable def datFields : Array Field := match Tryz.prog.underlying 26 with
  | some (.struct fs) => fs
  | _ => #[]
theorem uDat : Tryz.prog.underlying 26 = some (.struct datFields) := by kernel_rfl
theorem datF : datFields.toList.map (fun f => (f.type, f.offset)) = [(3, 0), (3, 1), (9, 2), (24, 3)] := by kernel_rfl
theorem uInt : Tryz.prog.underlying 3 = some (.int .i64) := by kernel_rfl
theorem cInt : Tryz.prog.cellsOf 3 = 1 := by kernel_rfl
theorem cStr : Tryz.prog.cellsOf 9 = 1 := by kernel_rfl
theorem cDats : Tryz.prog.cellsOf 24 = 1 := by kernel_rfl
theorem cDat : Tryz.prog.cellsOf 26 = 4 := by kernel_rfl
theorem csInt {H : PH} {n : Int} {v : Value} (h : CsR H n [v]) : v = .int .i64 n ∧ InI n := by
  have h' : PV.RepRow H [.int .i64 n] [v] := h
  simp only [PV.RepRow, PV.Rep] at h'
  obtain ⟨v', vs, e, ⟨rfl, h1⟩, rfl⟩ := h'
  simp only [List.cons.injEq, and_true] at e
  exact ⟨e, h1⟩
theorem csTxt {H : PH} {l : List UInt8} {v : Value} (h : CsR H l [v]) : v = txt l ∧ l.length ≤ maxLen := by
  have h' : PV.RepRow H [.str l] [v] := h
  simp only [PV.RepRow, PV.Rep] at h'
  obtain ⟨v', vs, e, ⟨rfl, h1⟩, rfl⟩ := h'
  simp only [List.cons.injEq, and_true] at e
  exact ⟨e, h1⟩
theorem opens_dat {H : Type} {enc : TypeId × Value → H} {w : World} : ∀ fuel, Opens (α := Dat) enc Tryz.prog w Dat.wt 26 fuel := by
  intro fuel
  induction fuel using Nat.strongRecOn with
  | ind fuel ih =>
    intro cs d ps h
    obtain ⟨xs, n, rfl, rfl, hc, hl, hi⟩ := trod_fields uDat datF h
    rw [cDat] at hc
    match xs, hl with
    | [x0, x1, x2, x3], _ =>
    match cs, hc with
    | [c0, c1, c2, c3], _ =>
    have t0 := hi 0 3 0 x0 rfl rfl
    have t1 := hi 1 3 1 x1 rfl rfl
    have t2 := hi 2 9 2 x2 rfl rfl
    have t3 := hi 3 24 3 x3 rfl rfl
    rw [cInt] at t0 t1
    rw [cStr] at t2
    rw [cDats] at t3
    obtain ⟨k, hk, hkw⟩ := opens_int uInt n _ _ _ t0
    obtain ⟨m, hm, hmw⟩ := opens_int uInt n _ _ _ t1
    obtain ⟨s, hs, hsw⟩ := opens_txt uString n _ _ _ t2
    obtain ⟨l, v, hlv, hls, hlw⟩ := opens_slice (α := Dat) uDats cDat (fun j hj => ih j (by omega)) t3
    have hv : c3 = v := by simpa using hlv
    subst hv
    obtain ⟨rfl, hk1⟩ := csInt hk
    obtain ⟨rfl, hm1⟩ := csInt hm
    obtain ⟨rfl, hs1⟩ := csTxt hs
    refine ⟨.mk k m s l, Dat.Rep_iff.2 ⟨_, rfl, hk1, hm1, hs1, hls⟩, ?_⟩
    simp only at hkw hmw hsw
    simp only [Dat.wt, Dats.wt_eq, Rows.uptoBulk, Rows.uptoBulkAll, List.map_cons, List.map_nil]
    omega
/-! ### what all statements of this seat ask -/
theorem laidOutTryz : laidOutB Tryz.prog = true := by kernel_rfl
theorem mapsRowedTryz : mapsRowed Tryz.prog = true := by kernel_rfl
theorem kidsTryz : Kids Tryz.prog (· < Tryz.prog.types.size) := kids_rows laidOutTryz mapsRowedTryz
theorem fullTryz : ∀ t e, t < Tryz.prog.types.size → Tryz.prog.underlying t = some (.slice e) → 0 < Tryz.prog.cellsOf e := slices_full_of Tryz.prog (by kernel_rfl)
end Go.Proofs.YtibinelkmlcmgaaGreat.Vc
/-
  DATA: the laws of the texts and of their parts, at the level of calls.
-/
namespace Go.Proofs.YtibinelkmlcmgaaGreat.Vc
open Go

def Dat.Mono (d : Dat) : Prop := ∀ (deep seen deep' seen' : Nat), deep ≤ 32 → deep' ≤ deep → seen' ≤ seen → seen ≤ 4096 → (d.chk deep seen).2 = 0 → (d.chk deep' seen').2 = 0 ∧ (d.chk deep' seen').1 + seen = (d.chk deep seen).1 + seen'
theorem Dats.mono : ∀ (l : List Dat), (∀ e ∈ l, e.Mono) → ∀ (deep seen deep' seen' : Nat), deep ≤ 32 → deep' ≤ deep → seen' ≤ seen → seen ≤ 4096 → (Dats.chk l deep seen).2 = 0 → (Dats.chk l deep' seen').2 = 0 ∧ (Dats.chk l deep' seen').1 + seen = (Dats.chk l deep seen).1 + seen'
  | [], _, deep, seen, deep', seen', _, _, _, _, _ => by simp only [Dats.chk]; exact ⟨trivial, by omega⟩
  | d :: l, hl, deep, seen, deep', seen', h1, h2, h3, h4, h => by
    simp only [Dats.chk] at h ⊢
    split at h
    · rename_i hx; exact absurd h hx
    rename_i hx
    have hx : (d.chk deep seen).2 = 0 := by simpa using hx
    obtain ⟨g1, g2⟩ := hl d (List.mem_cons_self ..) deep seen deep' seen' h1 h2 h3 h4 hx
    have g3 := Dats.mono l (fun e he => hl e (List.mem_cons_of_mem _ he)) deep (d.chk deep seen).1 deep' (d.chk deep' seen').1 h1 h2 (by omega) (Dat.chk_le d deep seen h4) h
    rw [if_neg (by simp [g1]), if_neg (by simp [hx])]
    exact ⟨g3.1, by omega⟩
/-- what may be within more may be within less; and counts as many -/
theorem Dat.mono : ∀ d : Dat, d.Mono := by
  refine Dat.ind ?_
  intro d ih deep seen deep' seen' h1 h2 h3 h4 h
  rw [Dat.chk_eq] at h
  rw [Dat.chk_eq d deep' seen', Dat.chk_eq d deep seen]
  split at h
  · simp at h
  rename_i h0
  split at h
  · simp at h
  rename_i h5
  split at h
  · simp at h
  rename_i h6
  have hn : nested d.kind = true → deep < 32 := fun x => by
    rcases Nat.lt_or_ge deep 32 with y | y
    · exact y
    · exact absurd ⟨x, by omega⟩ h5
  rw [if_neg h0, if_neg h5, if_neg h6, if_neg (show ¬ seen' = 4096 by omega), if_neg (fun x => by have := hn x.1; omega), if_neg h6]
  by_cases hl : d.list = []
  · rw [hl]; simp only [Dats.chk]; exact ⟨trivial, by omega⟩
  · have hn' := hn (formOk_nested (by simpa using h6) hl)
    have g := Dats.mono d.list ih (deep + 1) (seen + 1) (deep' + 1) (seen' + 1) (by omega) (by omega) (by omega) (by omega) h
    exact ⟨g.1, by omega⟩
end Go.Proofs.YtibinelkmlcmgaaGreat.Vc
/-
  DATA: when two are the same; Huge.
-/
namespace Go.Proofs.YtibinelkmlcmgaaGreat.Vc
open Go

noncomputable instance decDat : DecidableEq Dat := fun a b => Classical.propDecidable (a = b)
noncomputable instance decDats : DecidableEq (List Dat) := fun a b => Classical.propDecidable (a = b)
theorem Dat.eq_iff {a b : Dat} : a = b ↔ a.kind = b.kind ∧ a.int = b.int ∧ a.text = b.text ∧ a.list = b.list := by
  cases a; cases b; simp [Dat.kind, Dat.int, Dat.text, Dat.list]
/-- a call of a function value by a contract -/
theorem den_givesF {P : Program} {X : List PanicEntry → PH → Prop} {α : Type} {E : List Value} {H : PH} {L : LK} {K : α → List Value → PH → LK → Prop} {i f : Nat} {args : List VE} {rs : RS} {pend : List (SV × List SV)} {k : Fm α} (vs : List Value) (hi : E.getD i (.bool false) = .func (.func f) #[] #[]) (hok : callB P f = true)
    (hc : Gives P f (args.map (evV E fun _ => 0)) H (rs.pack vs)) (ht : tagsOk rs.tags vs = true) (hp : pendOk E H pend) (hk : ∀ H', PH.le H H' → den P X k (E ++ vs) H' L K) : den P X (.call (.atom i) args rs pend k) E H L K := by
  refine ⟨f, #[], #[], hi, callOk_of hok, ?_⟩
  have e : (#[] : Array Value) ++ (args.map (evV E fun _ => 0)).toArray ++ #[] = (args.map (evV E fun _ => 0)).toArray := by simp
  rw [e]
  exact Tri.mono hc fun e H' ⟨he, hl⟩ => by subst he; exact ⟨vs, ht, rfl, pendOk_le hp hl, hk H' hl⟩
theorem take_eq_succ {l m : List Dat} {k : Nat} {a b : Dat} (h : l.take k = m.take k) (ha : l[k]? = some a) (hb : m[k]? = some b) (hab : a = b) : l.take (k + 1) = m.take (k + 1) := by
  rw [List.take_add_one, List.take_add_one, h, ha, hb, hab]

def SameAt (f : FuncId) (a : Dat) : Prop := ∀ (b : Dat) (ca cb : List Value) (H : PH), a.Rep H ca → b.Rep H cb → Gives Tryz.prog f [.agg ca.toArray, .agg cb.toArray] H (.bool (decide (a = b)))
theorem EqualFunc_gives (l m : List Dat) (va vb : Value) (H : PH) (hl : SlR H l va) (hm : SlR H m vb) (ih : ∀ e ∈ l, SameAt n_data_Equal e) :
    Gives Tryz.prog n_slices_EqualFunc___api_Datum___api_Datum_api_Datum_api_Datum_ [va, vb, .func (.func n_data_Equal) #[] #[]] H (.bool (decide (l = m))) := by
  obtain ⟨b1, c1, rfl⟩ := hl.sl
  obtain ⟨b2, c2, rfl⟩ := hm.sl
  have m1 := hl.max
  have m2 := hm.max
  simp only [maxLen] at m1 m2
  refine tri_slices_EqualFunc___api_Datum___api_Datum_api_Datum_api_Datum_ [.slice b1 l.length c1, .slice b2 m.length c2, .func (.func n_data_Equal) #[] #[]] (by kernel_rfl) (by kernel_rfl) ?_
  refine ⟨fun h => ?_, fun h => ?_⟩
  · simp only [ev0, ev, evV, List.cons_append, List.nil_append, List.getD_cons_zero, List.getD_cons_succ, List.map_cons, List.map_nil, iOf, bOf, sOf, pOf, slLen, slBase, cmpI, arI, Value.ite_bool, int_beq, int_bne, ite_band, ite_bor, decide_eq_true_eq] at h
    refine ⟨?_, PH.le_refl H⟩
    have : ¬ l = m := fun e => h (by rw [e])
    simp only [ev0, ev, evV, List.cons_append, List.nil_append, List.getD_cons_zero, List.getD_cons_succ, List.map_cons, List.map_nil, iOf, bOf, sOf, pOf, slLen, slBase, cmpI, arI, Value.ite_bool, int_beq, int_bne, ite_band, ite_bor, decide_eq_false this]
  simp only [ev0, ev, evV, List.cons_append, List.nil_append, List.getD_cons_zero, List.getD_cons_succ, List.map_cons, List.map_nil, iOf, bOf, sOf, pOf, slLen, slBase, cmpI, arI, Value.ite_bool, int_beq, int_bne, ite_band, ite_bor, decide_eq_false_iff_not, ne_eq, Decidable.not_not] at h
  have hlen : l.length = m.length := by omega
  refine ⟨fun n vs H' => ∃ k : Nat, vs = [.bool false, .int .i64 k] ∧ k + n = l.length ∧ l.take k = m.take k ∧ PH.le H H', ⟨l.length, 0, rfl, by omega, by simp, PH.le_refl H⟩, ?_⟩
  rintro n vs H' _ ⟨k, rfl, hkn, htk, hle⟩
  refine ⟨fun h5 => ?_, fun h5 => ?_⟩
  · simp only [ev0, ev, evV, List.cons_append, List.nil_append, List.getD_cons_zero, List.getD_cons_succ, List.map_cons, List.map_nil, iOf, bOf, sOf, pOf, slLen, slBase, cmpI, arI, Value.ite_bool, int_beq, int_bne, ite_band, ite_bor, decide_eq_true_eq] at h5
    obtain ⟨e, he⟩ : ∃ e, l[k]? = some e := ⟨_, List.getElem?_eq_getElem (show k < l.length by omega)⟩
    obtain ⟨e', he'⟩ : ∃ e, m[k]? = some e := ⟨_, List.getElem?_eq_getElem (show k < m.length by omega)⟩
    obtain ⟨g1, ces, g2, g3, _, _⟩ := SlRep.get (hl.le hle) he
    obtain ⟨g1', ces', g2', g3', _, _⟩ := SlRep.get (hm.le hle) he'
    have htags := g2.tags
    have htags' := g2'.tags
    have hcall := ih e (List.mem_of_getElem? he) e' ces ces' H' g2 g2'
    obtain ⟨sve, rfl, _⟩ := Dat.Rep_iff.1 g2
    obtain ⟨sve', rfl, _⟩ := Dat.Rep_iff.1 g2'
    refine ⟨fun _ => ?_, _, htags, by simp only [ev0, ev, evV, List.cons_append, List.nil_append, List.getD_cons_zero, List.getD_cons_succ, List.map_cons, List.map_nil, iOf, bOf, sOf, pOf, slLen, slBase, cmpI, arI, Value.ite_bool, int_beq, int_bne, ite_band, ite_bor]; exact g3, fun _ => ?_, _, htags', by simp only [ev0, ev, evV, List.cons_append, List.nil_append, List.getD_cons_zero, List.getD_cons_succ, List.map_cons, List.map_nil, iOf, bOf, sOf, pOf, slLen, slBase, cmpI, arI, Value.ite_bool, int_beq, int_bne, ite_band, ite_bor]; exact g3', ?_⟩
    · simp only [Chk.holds, ev0, ev, evV, List.cons_append, List.nil_append, List.getD_cons_zero, List.getD_cons_succ, List.map_cons, List.map_nil, iOf, bOf, sOf, pOf, slLen, slBase, cmpI, arI, Value.ite_bool, int_beq, int_bne, ite_band, ite_bor]; exact ⟨g1, by omega, by omega⟩
    · simp only [Chk.holds, ev0, ev, evV, List.cons_append, List.nil_append, List.getD_cons_zero, List.getD_cons_succ, List.map_cons, List.map_nil, iOf, bOf, sOf, pOf, slLen, slBase, cmpI, arI, Value.ite_bool, int_beq, int_bne, ite_band, ite_bor]; exact ⟨g1', by omega, by omega⟩
    refine den_givesF [.bool (decide (e = e'))] rfl cb_data_Equal hcall rfl pendNil fun H2 h2 => ⟨fun h6 => ?_, fun h6 => ?_⟩
    · simp only [ev0, ev, evV, List.cons_append, List.nil_append, List.getD_cons_zero, List.getD_cons_succ, List.map_cons, List.map_nil, iOf, bOf, sOf, pOf, slLen, slBase, cmpI, arI, Value.ite_bool, int_beq, int_bne, ite_band, ite_bor, Bool.not_eq_true', decide_eq_false_iff_not] at h6
      refine ⟨?_, PH.le_trans hle h2⟩
      have : ¬ l = m := fun x => h6 (by subst x; rw [he] at he'; exact Option.some.inj he')
      simp only [ev0, ev, evV, List.cons_append, List.nil_append, List.getD_cons_zero, List.getD_cons_succ, List.map_cons, List.map_nil, iOf, bOf, sOf, pOf, slLen, slBase, cmpI, arI, Value.ite_bool, int_beq, int_bne, ite_band, ite_bor, decide_eq_false this]
    · simp only [ev0, ev, evV, List.cons_append, List.nil_append, List.getD_cons_zero, List.getD_cons_succ, List.map_cons, List.map_nil, iOf, bOf, sOf, pOf, slLen, slBase, cmpI, arI, Value.ite_bool, int_beq, int_bne, ite_band, ite_bor, Bool.not_eq_false', decide_eq_true_eq] at h6
      refine ⟨_, lookup_hit, n - 1, by omega, k + 1, ?_, by omega, take_eq_succ htk he he' h6, PH.le_trans hle h2⟩
      simp only [ev0, ev, evV, List.cons_append, List.nil_append, List.getD_cons_zero, List.getD_cons_succ, List.map_cons, List.map_nil, iOf, bOf, sOf, pOf, slLen, slBase, cmpI, arI, Value.ite_bool, int_beq, int_bne, ite_band, ite_bor]
      rw [w64 (by omega) (by omega)]
      rfl
  · simp only [ev0, ev, evV, List.cons_append, List.nil_append, List.getD_cons_zero, List.getD_cons_succ, List.map_cons, List.map_nil, iOf, bOf, sOf, pOf, slLen, slBase, cmpI, arI, Value.ite_bool, int_beq, int_bne, ite_band, ite_bor, decide_eq_false_iff_not] at h5
    refine ⟨?_, hle⟩
    have : l = m := by rw [List.take_of_length_le (by omega), List.take_of_length_le (by omega)] at htk; exact htk
    simp only [ev0, ev, evV, List.cons_append, List.nil_append, List.getD_cons_zero, List.getD_cons_succ, List.map_cons, List.map_nil, iOf, bOf, sOf, pOf, slLen, slBase, cmpI, arI, Value.ite_bool, int_beq, int_bne, ite_band, ite_bor, decide_eq_true this]
theorem Equal_gives : ∀ a, SameAt n_data_Equal a := by
  refine Dat.ind ?_
  intro a ih b ca cb H ha hb
  obtain ⟨s1, rfl, _, _, _, hs1⟩ := Dat.Rep_iff.1 ha
  obtain ⟨s2, rfl, _, _, _, hs2⟩ := Dat.Rep_iff.1 hb
  have hcall := EqualFunc_gives a.list b.list s1 s2 H hs1 hs2 ih
  obtain ⟨b1, c1, rfl⟩ := hs1.sl
  obtain ⟨b2, c2, rfl⟩ := hs2.sl
  refine tri_data_Equal [.int .i64 a.kind, .int .i64 a.int, txt a.text, .slice b1 a.list.length c1, .int .i64 b.kind, .int .i64 b.int, txt b.text, .slice b2 b.list.length c2] (by kernel_rfl) (by kernel_rfl) ?_
  refine ⟨fun vs H' => vs = [.bool (decide (a = b))] ∧ PH.le H H', ?_, ?_⟩
  · rintro vs H' _ ⟨rfl, h⟩; exact ⟨rfl, h⟩
  refine ⟨fun h => ?_, fun h => ?_⟩
  · simp only [ev0, ev, evV, List.cons_append, List.nil_append, List.getD_cons_zero, List.getD_cons_succ, List.map_cons, List.map_nil, iOf, bOf, sOf, pOf, slLen, slBase, cmpI, arI, Value.ite_bool, int_beq, int_bne, ite_band, ite_bor, txt_eql] at h
    simp only [Bool.and_eq_true, decide_eq_true_eq] at h
    refine den_gives [.bool (decide (a.list = b.list))] cb_slices_EqualFunc___api_Datum___api_Datum_api_Datum_api_Datum_ hcall rfl pendNil fun H2 h2 => ⟨_, lookup_hit, ?_, h2⟩
    have : (a = b) ↔ a.list = b.list := by rw [Dat.eq_iff]; simp [h.1.1, h.1.2, h.2]
    simp only [ev0, ev, evV, List.cons_append, List.nil_append, List.getD_cons_zero, List.getD_cons_succ, List.map_cons, List.map_nil, iOf, bOf, sOf, pOf, slLen, slBase, cmpI, arI, Value.ite_bool, int_beq, int_bne, ite_band, ite_bor, decide_eq_decide.2 this]
  · simp only [ev0, ev, evV, List.cons_append, List.nil_append, List.getD_cons_zero, List.getD_cons_succ, List.map_cons, List.map_nil, iOf, bOf, sOf, pOf, slLen, slBase, cmpI, arI, Value.ite_bool, int_beq, int_bne, ite_band, ite_bor, txt_eql] at h
    refine ⟨_, lookup_hit, ?_, PH.le_refl H⟩
    have : ¬ a = b := fun e => by subst e; simp at h
    simp only [ev0, ev, evV, List.cons_append, List.nil_append, List.getD_cons_zero, List.getD_cons_succ, List.map_cons, List.map_nil, iOf, bOf, sOf, pOf, slLen, slBase, cmpI, arI, Value.ite_bool, int_beq, int_bne, ite_band, ite_bor, decide_eq_false this]
theorem Same_gives : ∀ a, SameAt n_scrimshawref02_Same a := by
  refine Dat.ind ?_
  intro a ih b ca cb H ha hb
  obtain ⟨s1, rfl, _, _, _, hl⟩ := Dat.Rep_iff.1 ha
  obtain ⟨s2, rfl, _, _, _, hm⟩ := Dat.Rep_iff.1 hb
  obtain ⟨b1, c1, rfl⟩ := hl.sl
  obtain ⟨b2, c2, rfl⟩ := hm.sl
  have m1 := hl.max
  have m2 := hm.max
  simp only [maxLen] at m1 m2
  refine tri_scrimshawref02_Same [.int .i64 a.kind, .int .i64 a.int, txt a.text, .slice b1 a.list.length c1, .int .i64 b.kind, .int .i64 b.int, txt b.text, .slice b2 b.list.length c2] (by kernel_rfl) (by kernel_rfl) ?_
  refine ⟨fun h => ?_, fun h => ?_⟩
  · simp only [ev0, ev, evV, List.cons_append, List.nil_append, List.getD_cons_zero, List.getD_cons_succ, List.map_cons, List.map_nil, iOf, bOf, sOf, pOf, slLen, slBase, cmpI, arI, Value.ite_bool, int_beq, int_bne, ite_band, ite_bor, txt_neq] at h
    refine ⟨?_, PH.le_refl H⟩
    have : ¬ a = b := fun e => by subst e; simp at h
    simp only [ev0, ev, evV, List.cons_append, List.nil_append, List.getD_cons_zero, List.getD_cons_succ, List.map_cons, List.map_nil, iOf, bOf, sOf, pOf, slLen, slBase, cmpI, arI, Value.ite_bool, int_beq, int_bne, ite_band, ite_bor, decide_eq_false this]
  simp only [ev0, ev, evV, List.cons_append, List.nil_append, List.getD_cons_zero, List.getD_cons_succ, List.map_cons, List.map_nil, iOf, bOf, sOf, pOf, slLen, slBase, cmpI, arI, Value.ite_bool, int_beq, int_bne, ite_band, ite_bor, txt_neq] at h
  simp only [Bool.or_eq_false_iff, decide_eq_false_iff_not, ne_eq, Decidable.not_not] at h
  obtain ⟨⟨⟨h1, h2⟩, h3⟩, h4⟩ := h
  have heq : (a = b) ↔ a.list = b.list := by rw [Dat.eq_iff]; simp [h1, h2, h3]
  have hlen : a.list.length = b.list.length := by omega
  refine ⟨fun n vs H' => ∃ k : Nat, vs = [.bool false, .int .i64 k] ∧ k + n = a.list.length ∧ a.list.take k = b.list.take k ∧ PH.le H H', ⟨a.list.length, 0, rfl, by omega, by simp, PH.le_refl H⟩, ?_⟩
  rintro n vs H' _ ⟨k, rfl, hkn, htk, hle⟩
  refine ⟨fun h5 => ?_, fun h5 => ?_⟩
  · simp only [ev0, ev, evV, List.cons_append, List.nil_append, List.getD_cons_zero, List.getD_cons_succ, List.map_cons, List.map_nil, iOf, bOf, sOf, pOf, slLen, slBase, cmpI, arI, Value.ite_bool, int_beq, int_bne, ite_band, ite_bor, decide_eq_true_eq] at h5
    obtain ⟨e, he⟩ : ∃ e, a.list[k]? = some e := ⟨_, List.getElem?_eq_getElem (show k < a.list.length by omega)⟩
    obtain ⟨e', he'⟩ : ∃ e, b.list[k]? = some e := ⟨_, List.getElem?_eq_getElem (show k < b.list.length by omega)⟩
    obtain ⟨g1, ces, g2, g3, _, _⟩ := SlRep.get (hl.le hle) he
    obtain ⟨g1', ces', g2', g3', _, _⟩ := SlRep.get (hm.le hle) he'
    have htags := g2.tags
    have htags' := g2'.tags
    have hcall := ih e (List.mem_of_getElem? he) e' ces ces' H' g2 g2'
    obtain ⟨sve, rfl, _⟩ := Dat.Rep_iff.1 g2
    obtain ⟨sve', rfl, _⟩ := Dat.Rep_iff.1 g2'
    refine ⟨fun _ => ?_, _, htags, by simp only [ev0, ev, evV, List.cons_append, List.nil_append, List.getD_cons_zero, List.getD_cons_succ, List.map_cons, List.map_nil, iOf, bOf, sOf, pOf, slLen, slBase, cmpI, arI, Value.ite_bool, int_beq, int_bne, ite_band, ite_bor]; exact g3, fun _ => ?_, _, htags', by simp only [ev0, ev, evV, List.cons_append, List.nil_append, List.getD_cons_zero, List.getD_cons_succ, List.map_cons, List.map_nil, iOf, bOf, sOf, pOf, slLen, slBase, cmpI, arI, Value.ite_bool, int_beq, int_bne, ite_band, ite_bor]; exact g3', ?_⟩
    · simp only [Chk.holds, ev0, ev, evV, List.cons_append, List.nil_append, List.getD_cons_zero, List.getD_cons_succ, List.map_cons, List.map_nil, iOf, bOf, sOf, pOf, slLen, slBase, cmpI, arI, Value.ite_bool, int_beq, int_bne, ite_band, ite_bor]; exact ⟨g1, by omega, by omega⟩
    · simp only [Chk.holds, ev0, ev, evV, List.cons_append, List.nil_append, List.getD_cons_zero, List.getD_cons_succ, List.map_cons, List.map_nil, iOf, bOf, sOf, pOf, slLen, slBase, cmpI, arI, Value.ite_bool, int_beq, int_bne, ite_band, ite_bor]; exact ⟨g1', by omega, by omega⟩
    refine den_gives [.bool (decide (e = e'))] cb_scrimshawref02_Same hcall rfl pendNil fun H2 h2 => ⟨fun h6 => ?_, fun h6 => ?_⟩
    · simp only [ev0, ev, evV, List.cons_append, List.nil_append, List.getD_cons_zero, List.getD_cons_succ, List.map_cons, List.map_nil, iOf, bOf, sOf, pOf, slLen, slBase, cmpI, arI, Value.ite_bool, int_beq, int_bne, ite_band, ite_bor, Bool.not_eq_true', decide_eq_false_iff_not] at h6
      refine ⟨?_, PH.le_trans hle h2⟩
      have : ¬ a = b := fun x => h6 (by subst x; rw [he] at he'; exact Option.some.inj he')
      simp only [ev0, ev, evV, List.cons_append, List.nil_append, List.getD_cons_zero, List.getD_cons_succ, List.map_cons, List.map_nil, iOf, bOf, sOf, pOf, slLen, slBase, cmpI, arI, Value.ite_bool, int_beq, int_bne, ite_band, ite_bor, decide_eq_false this]
    · simp only [ev0, ev, evV, List.cons_append, List.nil_append, List.getD_cons_zero, List.getD_cons_succ, List.map_cons, List.map_nil, iOf, bOf, sOf, pOf, slLen, slBase, cmpI, arI, Value.ite_bool, int_beq, int_bne, ite_band, ite_bor, Bool.not_eq_false', decide_eq_true_eq] at h6
      refine ⟨_, lookup_hit, n - 1, by omega, k + 1, ?_, by omega, take_eq_succ htk he he' h6, PH.le_trans hle h2⟩
      simp only [ev0, ev, evV, List.cons_append, List.nil_append, List.getD_cons_zero, List.getD_cons_succ, List.map_cons, List.map_nil, iOf, bOf, sOf, pOf, slLen, slBase, cmpI, arI, Value.ite_bool, int_beq, int_bne, ite_band, ite_bor]
      rw [w64 (by omega) (by omega)]
      rfl
  · simp only [ev0, ev, evV, List.cons_append, List.nil_append, List.getD_cons_zero, List.getD_cons_succ, List.map_cons, List.map_nil, iOf, bOf, sOf, pOf, slLen, slBase, cmpI, arI, Value.ite_bool, int_beq, int_bne, ite_band, ite_bor, decide_eq_false_iff_not] at h5
    refine ⟨?_, hle⟩
    have : a = b := heq.2 (by rw [List.take_of_length_le (by omega), List.take_of_length_le (by omega)] at htk; exact htk)
    simp only [ev0, ev, evV, List.cons_append, List.nil_append, List.getD_cons_zero, List.getD_cons_succ, List.map_cons, List.map_nil, iOf, bOf, sOf, pOf, slLen, slBase, cmpI, arI, Value.ite_bool, int_beq, int_bne, ite_band, ite_bor, decide_eq_true this]

/-! ### how many data there are in some, up to 100001 -/
end Go.Proofs.YtibinelkmlcmgaaGreat.Vc
/-
  DATA that may be have the same text just if they are the same: the theorem; and the law, at the level of calls.
-/
namespace Go.Proofs.YtibinelkmlcmgaaGreat.Vc
open Go

end Go.Proofs.YtibinelkmlcmgaaGreat.Vc
/-
  DATA: what is made of items and a tail; a datum's items.
-/
namespace Go.Proofs.YtibinelkmlcmgaaGreat.Vc
open Go

end Go.Proofs.YtibinelkmlcmgaaGreat.Vc
/-
  CORE: an expression in the heap.
-/
namespace Go.Proofs.YtibinelkmlcmgaaGreat.Vc
open Go

inductive Xp where
  | mk (kind : Int) (name : List UInt8) (names : List (List UInt8)) (const : Dat) (kids : List Xp)
def Xp.kind : Xp → Int
  | .mk k _ _ _ _ => k
def Xp.name : Xp → List UInt8
  | .mk _ s _ _ _ => s
def Xp.names : Xp → List (List UInt8)
  | .mk _ _ l _ _ => l
def Xp.const : Xp → Dat
  | .mk _ _ _ d _ => d
def Xp.kids : Xp → List Xp
  | .mk _ _ _ _ l => l
mutual
def Xp.pv : Xp → List PV
  | .mk k s ns d l => .int .i64 k :: .str s :: .sl (ns.map fun x => [PV.str x]) :: (d.pv ++ [.sl (Xps.pvs l)])
def Xps.pvs : List Xp → List (List PV)
  | [] => []
  | e :: l => Xp.pv e :: Xps.pvs l
end
theorem Xps.pvs_eq : ∀ l : List Xp, Xps.pvs l = l.map Xp.pv
  | [] => by simp only [Xps.pvs, List.map_nil]
  | e :: l => by simp only [Xps.pvs, List.map_cons, Xps.pvs_eq l]
theorem Dat.pv_len (d : Dat) : d.pv.length = 4 := by cases d; simp only [Dat.pv, List.length_cons, List.length_nil]
instance encEx : Enc Xp := ⟨Xp.pv, 8, fun e => by cases e; simp only [Xp.pv, List.length_cons, List.length_append, List.length_nil, Dat.pv_len]⟩
abbrev Xp.Rep (H : PH) (e : Xp) (cs : List Value) : Prop := CsR H e cs
theorem Xp.Rep_iff {H : PH} {e : Xp} {cs : List Value} : e.Rep H cs ↔ ∃ nv dv kv, cs = [.int .i64 e.kind, txt e.name, nv, .int .i64 e.const.kind, .int .i64 e.const.int, txt e.const.text, dv, kv] ∧
    InI e.kind ∧ e.name.length ≤ maxLen ∧ SlR H e.names nv ∧ e.const.Rep H [.int .i64 e.const.kind, .int .i64 e.const.int, txt e.const.text, dv] ∧ SlR H e.kids kv := by
  obtain ⟨k, s, ns, d, l⟩ := e
  unfold Xp.Rep CsR SlR slp
  show PV.RepRow H (Xp.pv _) cs ↔ _
  simp only [Xp.pv, PV.RepRow, Xp.kind, Xp.name, Xp.names, Xp.const, Xp.kids, Xps.pvs_eq]
  constructor
  · rintro ⟨v1, vs1, rfl, h1, v2, vs2, rfl, h2, v3, vs3, rfl, h3, h4⟩
    have h5 := h4.split
    rw [Dat.pv_len] at h5
    obtain ⟨dv, he, g⟩ := Dat.Rep_iff.1 (show d.Rep H (vs3.take 4) from h5.1)
    obtain ⟨v8, vs8, he8, h8, hn⟩ := h5.2
    simp only [PV.RepRow] at hn
    subst hn
    simp only [PV.Rep] at h1 h2
    obtain ⟨rfl, h1⟩ := h1
    obtain ⟨rfl, h2⟩ := h2
    have hvs : vs3 = [.int .i64 d.kind, .int .i64 d.int, txt d.text, dv] ++ [v8] := by rw [← he, ← he8, List.take_append_drop]
    refine ⟨v3, dv, v8, by rw [hvs]; rfl, inI64.1 h1, h2, h3, ?_, h8⟩
    have := h5.1
    rw [he] at this
    exact this
  · rintro ⟨nv, dv, kv, rfl, h1, h2, h3, h4, h5⟩
    refine ⟨_, _, rfl, ?_, _, _, rfl, ?_, _, _, rfl, h3, ?_⟩
    · simp only [PV.Rep]; exact ⟨trivial, inI64.2 h1⟩
    · simp only [PV.Rep]; exact ⟨trivial, h2⟩
    · refine PV.RepRow.append (cs := [.int .i64 d.kind, .int .i64 d.int, txt d.text, dv]) h4 ?_
      exact ⟨_, _, rfl, h5, rfl⟩
theorem Xp.Rep.le {H H' : PH} (h : PH.le H H') (e : Xp) {cs : List Value} (he : e.Rep H cs) : e.Rep H' cs := CsR.le h he
/-- an expression's own slices -/
structure ExV (H : PH) (e : Xp) (nb db kb : Option Addr) (nc dc kc : Nat) : Prop where
  kind : InI e.kind
  name : e.name.length ≤ maxLen
  names : SlR H e.names (.slice nb e.names.length nc)
  const : e.const.Rep H [.int .i64 e.const.kind, .int .i64 e.const.int, txt e.const.text, .slice db e.const.list.length dc]
  kids : SlR H e.kids (.slice kb e.kids.length kc)
abbrev exVs (e : Xp) (nb db kb : Option Addr) (nc dc kc : Nat) : List Value := [.int .i64 e.kind, txt e.name, .slice nb e.names.length nc, .int .i64 e.const.kind, .int .i64 e.const.int, txt e.const.text, .slice db e.const.list.length dc, .slice kb e.kids.length kc]
theorem Xp.Rep.open {H : PH} {e : Xp} {cs : List Value} (h : e.Rep H cs) : ∃ nb db kb nc dc kc, cs = exVs e nb db kb nc dc kc ∧ ExV H e nb db kb nc dc kc := by
  obtain ⟨nv, dv, kv, rfl, h1, h2, h3, h4, h5⟩ := Xp.Rep_iff.1 h
  obtain ⟨nb, nc, rfl⟩ := h3.sl
  obtain ⟨kb, kc, rfl⟩ := h5.sl
  obtain ⟨dv', e', _, _, _, h6⟩ := Dat.Rep_iff.1 h4
  obtain ⟨db, dc, rfl⟩ := h6.sl
  cases e'
  exact ⟨nb, db, kb, nc, dc, kc, rfl, h1, h2, h3, h4, h5⟩
theorem Xp.Rep.tags {H : PH} {e : Xp} {cs : List Value} (h : e.Rep H cs) : tagsOk [.int .i64, .str, .sl, .int .i64, .int .i64, .str, .sl, .sl] cs = true := by
  obtain ⟨nb, db, kb, nc, dc, kc, rfl, _⟩ := h.open
  rfl
theorem Xp.eq_iff {a b : Xp} : a = b ↔ a.kind = b.kind ∧ a.name = b.name ∧ a.names = b.names ∧ a.const = b.const ∧ a.kids = b.kids := by
  obtain ⟨a1, a2, a3, a4, a5⟩ := a
  obtain ⟨b1, b2, b3, b4, b5⟩ := b
  simp only [Xp.mk.injEq, Xp.kind, Xp.name, Xp.names, Xp.const, Xp.kids]
mutual
theorem Xp.ind {p : Xp → Prop} (h : ∀ d, (∀ e ∈ d.kids, p e) → p d) : ∀ d, p d
  | .mk _ _ _ _ l => h _ (Xps.ind h l)
theorem Xps.ind {p : Xp → Prop} (h : ∀ d, (∀ e ∈ d.kids, p e) → p d) : ∀ (l : List Xp), ∀ e ∈ l, p e
  | [], e, he => by cases he
  | d :: l, e, he => (List.mem_cons.1 he).elim (fun h1 => h1 ▸ Xp.ind h d) (fun h1 => Xps.ind h l e h1)
end
end Go.Proofs.YtibinelkmlcmgaaGreat.Vc
/-
  CORE: which expressions may be, what is free, and new names: plain functions. No program in sight.
-/
namespace Go.Proofs.YtibinelkmlcmgaaGreat.Vc
open Go

def ar0 : List (List UInt8) := [[114, 101, 97, 100, 45, 117, 56], [101, 114, 114, 111, 114], [118, 111, 105, 100], [37, 119, 105, 110, 100, 101, 114, 115], [37, 117, 110, 115, 101, 116]]
def ar1 : List (List UInt8) := [[110, 117, 108, 108, 63], [112, 97, 105, 114, 63], [118, 101, 99, 116, 111, 114, 63], [115, 116, 114, 105, 110, 103, 63], [115, 121, 109, 98, 111, 108, 63], [99, 104, 97, 114, 63], [105, 110, 116, 101, 103, 101, 114, 63], [98, 111, 111, 108, 101, 97, 110, 63], [112, 114, 111, 99, 101, 100, 117, 114, 101, 63], [101, 111, 102, 45, 111, 98, 106, 101, 99, 116, 63], [99, 97, 114], [99, 100, 114], [118, 101, 99, 116, 111, 114, 45, 108, 101, 110, 103, 116, 104], [115, 116, 114, 105, 110, 103, 45, 108, 101, 110, 103, 116, 104], [99, 104, 97, 114, 45, 62, 105, 110, 116, 101, 103, 101, 114], [105, 110, 116, 101, 103, 101, 114, 45, 62, 99, 104, 97, 114], [119, 114, 105, 116, 101, 45, 117, 56], [37, 98, 111, 120], [37, 117, 110, 98, 111, 120], [37, 119, 105, 110, 100, 33], [37, 99, 97, 108, 108, 99, 99]]
def ar2 : List (List UInt8) := [[43], [45], [42], [113, 117, 111, 116, 105, 101, 110, 116], [114, 101, 109, 97, 105, 110, 100, 101, 114], [60], [61], [101, 113, 63], [99, 111, 110, 115], [115, 101, 116, 45, 99, 97, 114, 33], [115, 101, 116, 45, 99, 100, 114, 33], [109, 97, 107, 101, 45, 118, 101, 99, 116, 111, 114], [118, 101, 99, 116, 111, 114, 45, 114, 101, 102], [109, 97, 107, 101, 45, 115, 116, 114, 105, 110, 103], [115, 116, 114, 105, 110, 103, 45, 114, 101, 102], [37, 115, 101, 116, 45, 98, 111, 120, 33]]
def ar3 : List (List UInt8) := [[118, 101, 99, 116, 111, 114, 45, 115, 101, 116, 33], [115, 116, 114, 105, 110, 103, 45, 115, 101, 116, 33]]
/-- how many arguments a primitive has -/
def arityI (p : List UInt8) : Int := if ar0.contains p then 0 else if ar1.contains p then 1 else if ar2.contains p then 2 else if ar3.contains p then 3 else -1
def dat0 : Dat := .mk 0 0 [] []
def isDat0 (d : Dat) : Bool := decide (d.kind = 0) && decide (d.int = 0) && d.text.isEmpty && d.list.isEmpty
theorem isDat0_iff {d : Dat} : isDat0 d = true ↔ d = dat0 := by
  obtain ⟨k, n, t, l⟩ := d
  show (decide (k = 0) && decide (n = 0) && t.isEmpty && l.isEmpty) = true ↔ Dat.mk k n t l = .mk 0 0 [] []
  simp [and_assoc]
/-- may a datum be a constant? -/
def constOk (d : Dat) : Bool := decide ((d.chk 0 0).2 = 0) && (decide (d.kind = 0) || decide (d.kind = 1) || decide (d.kind = 2) || decide (d.kind = 4) || (decide (d.kind = 5) && d.list.isEmpty))
/-- are these, behind others, all names, none of them twice? -/
def namesFrom (pre : List (List UInt8)) : List (List UInt8) → Bool
  | [] => true
  | s :: r => nameOk s && !pre.contains s && namesFrom (pre ++ [s]) r
def namesOk (l : List (List UInt8)) : Bool := namesFrom [] l
/-- may an expression's own fields be? -/
def exForm (e : Xp) : Bool :=
  if e.kind = 0 then e.name.isEmpty && e.names.isEmpty && e.kids.isEmpty && constOk e.const
  else isDat0 e.const && namesOk e.names &&
    (if e.kind = 1 then nameOk e.name && e.names.isEmpty && decide (e.kids.length = 0)
    else if e.kind = 2 then nameOk e.name && e.names.isEmpty && decide (e.kids.length = 1)
    else if e.kind = 3 then e.name.isEmpty && e.names.isEmpty && decide (e.kids.length = 3)
    else if e.kind = 4 then e.name.isEmpty && e.names.isEmpty && decide (2 ≤ e.kids.length)
    else if e.kind = 5 then e.name.isEmpty && decide (e.names.length ≤ 6) && decide (e.kids.length = 1)
    else if e.kind = 6 then e.name.isEmpty && e.names.isEmpty && decide (1 ≤ e.kids.length) && decide (e.kids.length ≤ 7)
    else if e.kind = 7 then e.names.isEmpty && decide (arityI e.name = e.kids.length)
    else if e.kind = 8 ∨ e.kind = 9 then e.name.isEmpty && decide (e.kids.length = e.names.length + 1)
    else if e.kind = 10 then e.name.isEmpty && decide (1 ≤ e.names.length) && decide (e.kids.length = e.names.length + 1) && (e.kids.take e.names.length).all fun k => decide (k.kind = 5)
    else false)
/-- as the program has it: a sequence has at most 4096 kids -/
def exFormP (e : Xp) : Bool := exForm e && !(decide (e.kind = 4) && decide (4096 < e.kids.length))
mutual
/-- an expression within so many, so many being looked at: how many are then, and what is wrong; tight: as the program has it -/
def Xp.chk (tight : Bool) : Xp → Nat → Nat → Nat × Int
  | .mk k s ns d l, deep, seen => if seen = 4096 then (seen, 62) else if 250 ≤ deep then (seen + 1, 61) else if (if tight then exFormP (.mk k s ns d l) else exForm (.mk k s ns d l)) = false then (seen + 1, 60) else Xps.chk tight l (deep + 1) (seen + 1)
def Xps.chk (tight : Bool) : List Xp → Nat → Nat → Nat × Int
  | [], _, seen => (seen, 0)
  | e :: l, deep, seen => if (Xp.chk tight e deep seen).2 ≠ 0 then Xp.chk tight e deep seen else Xps.chk tight l deep (Xp.chk tight e deep seen).1
end
/-- are names bound in a kid, behind which such are left? -/
def inB (k : Int) (rest : List Xp) : Bool := decide (k = 5) || decide (k = 9) || decide (k = 10) || (decide (k = 8) && rest.isEmpty)

/-! ### free names -/
mutual
/-- the free names, some being bound, as they come -/
def Xp.fr (bound : List (List UInt8)) : Xp → List (List UInt8)
  | .mk k s ns _ l => (if (k = 1 ∨ k = 2) ∧ s ∉ bound then [s] else []) ++ Xps.fr bound (bound ++ ns) k l
def Xps.fr (bound inner : List (List UInt8)) (k : Int) : List Xp → List (List UInt8)
  | [] => []
  | e :: l => Xp.fr (if inB k l then inner else bound) e ++ Xps.fr bound inner k l
end
theorem Xp.fr_eq (e : Xp) (bound : List (List UInt8)) : e.fr bound = (if (e.kind = 1 ∨ e.kind = 2) ∧ e.name ∉ bound then [e.name] else []) ++ Xps.fr bound (bound ++ e.names) e.kind e.kids := by
  cases e; simp only [Xp.fr, Xp.kind, Xp.name, Xp.names, Xp.kids]; rfl
mutual
/-- all names that stand in an expression, but those of primitives -/
def Xp.all : Xp → List (List UInt8)
  | .mk k s ns _ l => (if k = 7 then [] else [s]) ++ ns ++ Xps.all l
def Xps.all : List Xp → List (List UInt8)
  | [] => []
  | e :: l => Xp.all e ++ Xps.all l
end
mutual
/-- all names that an expression binds -/
def Xp.bnd : Xp → List (List UInt8)
  | .mk _ _ ns _ l => ns ++ Xps.bnd l
def Xps.bnd : List Xp → List (List UInt8)
  | [] => []
  | e :: l => Xp.bnd e ++ Xps.bnd l
end
theorem Xp.bnd_eq (e : Xp) : e.bnd = e.names ++ Xps.bnd e.kids := by cases e; simp only [Xp.bnd, Xp.names, Xp.kids]

/-! ### new names -/
/-- what a name stands for: the last one counts -/
def lastA : List (List UInt8 × Nat) → List UInt8 → Option Nat
  | [], _ => none
  | x :: l, s => match lastA l s with
    | some k => some k
    | none => if x.1 = s then some x.2 else none
/-! ### the next new name is new -/
end Go.Proofs.YtibinelkmlcmgaaGreat.Vc
/-
  CORE: plain laws of new names: none is bound twice, none is free, what is free stays, and what may be may be still. No program in sight.
-/
namespace Go.Proofs.YtibinelkmlcmgaaGreat.Vc
open Go

/-! ### the numbers of new names -/
/-! ### what is free stays -/
theorem lastA_append : ∀ (az bs : List (List UInt8 × Nat)) (s : List UInt8), lastA (az ++ bs) s = (lastA bs s).or (lastA az s)
  | [], bs, s => by cases h : lastA bs s <;> simp [lastA, h]
  | x :: az, bs, s => by
    simp only [List.cons_append, lastA, lastA_append az bs s]
    cases lastA bs s <;> simp
/-! ### what may be may be still -/
end Go.Proofs.YtibinelkmlcmgaaGreat.Vc
/-
  CORE: texts among texts; how many arguments; which expressions' own fields may be: the program's functions.
-/
namespace Go.Proofs.YtibinelkmlcmgaaGreat.Vc
open Go

theorem con_t {l : List (List UInt8)} {s : List UInt8} (h : s ∈ l) : l.contains s = true := List.contains_iff_mem.2 h
theorem con_f {l : List (List UInt8)} {s : List UInt8} (h : s ∉ l) : l.contains s = false := by
  cases hc : l.contains s with
  | false => rfl
  | true => exact absurd (List.contains_iff_mem.1 hc) h
theorem csTxts {H : PH} {l : List UInt8} {cs : List Value} (h : CsR H l cs) : cs = [txt l] ∧ l.length ≤ maxLen := by
  obtain ⟨v, vs, rfl, ⟨rfl, h2⟩, rfl⟩ := h
  exact ⟨rfl, h2⟩
theorem uTxts : Tryz.prog.underlying 23 = some (.slice 9) := by kernel_rfl
theorem elemTxt : ElemOk Tryz.prog 9 1 16 = true := by kernel_rfl
theorem take_eq_next {α : Type} {l m : List α} {k : Nat} {a b : α} (h : l.take k = m.take k) (ha : l[k]? = some a) (hb : m[k]? = some b) (e : a = b) : l.take (k + 1) = m.take (k + 1) := by
  rw [List.take_add_one, List.take_add_one, h, ha, hb, e]
theorem take_mem_succ {α : Type} {l : List α} {k : Nat} {a x : α} (h : l[k]? = some a) (hx : x ∈ l.take (k + 1)) : x ∈ l.take k ∨ x = a := by
  rw [List.take_add_one, h] at hx
  rcases List.mem_append.1 hx with hx | hx
  · exact .inl hx
  · exact .inr (List.mem_singleton.1 hx)

theorem Index_tri (l : List (List UInt8)) (s : List UInt8) (v : Value) (H : PH) (hl : SlR H l v) : Tri Tryz.prog n_slices_Index___string_string_ #[v, txt s] H fun e H' => ∃ n : Int, e = .returned (.int .i64 n) ∧ decide (0 ≤ n) = l.contains s ∧ PH.le H H' := by
  obtain ⟨b, c, rfl⟩ := hl.sl
  have hm := hl.max
  simp only [maxLen] at hm
  refine tri_slices_Index___string_string_ [.slice b l.length c, txt s] (by kernel_rfl) (by kernel_rfl) ?_
  refine ⟨fun n vs H' => ∃ k : Nat, vs = [.int .i64 0, .int .i64 k] ∧ k + n = l.length ∧ s ∉ l.take k ∧ PH.le H H', ⟨l.length, 0, rfl, by omega, by simp, PH.le_refl H⟩, ?_⟩
  rintro n vs H' _ ⟨k, rfl, hkn, hno, hle⟩
  refine ⟨fun h => ?_, fun h => ?_⟩
  · simp only [ev0, ev, evV, List.cons_append, List.nil_append, List.getD_cons_zero, List.getD_cons_succ, List.map_cons, List.map_nil, iOf, bOf, sOf, pOf, slLen, slBase, cmpI, arI, Value.ite_bool, int_beq, int_bne, ite_band, ite_bor, decide_eq_true_eq] at h
    obtain ⟨a, ha⟩ : ∃ a, l[k]? = some a := ⟨_, List.getElem?_eq_getElem (show k < l.length by omega)⟩
    obtain ⟨g1, _, ces, g2, g3⟩ := (hl.le hle).get ha
    obtain ⟨rfl, _⟩ := csTxts g2
    refine ⟨fun _ => ?_, [txt a], rfl, ?_, fun h2 => ?_, fun h2 => ?_⟩
    · simp only [Chk.holds, ev0, ev, evV, List.cons_append, List.nil_append, List.getD_cons_zero, List.getD_cons_succ, List.map_cons, List.map_nil, iOf, bOf, sOf, pOf, slLen, slBase, cmpI, arI, Value.ite_bool, int_beq, int_bne, ite_band, ite_bor]; exact ⟨g1, by omega, by omega⟩
    · simp only [ev0, ev, evV, List.cons_append, List.nil_append, List.getD_cons_zero, List.getD_cons_succ, List.map_cons, List.map_nil, iOf, bOf, sOf, pOf, slLen, slBase, cmpI, arI, Value.ite_bool, int_beq, int_bne, ite_band, ite_bor]; exact g3
    · simp only [ev0, ev, evV, List.cons_append, List.nil_append, List.getD_cons_zero, List.getD_cons_succ, List.map_cons, List.map_nil, iOf, bOf, sOf, pOf, slLen, slBase, cmpI, arI, Value.ite_bool, int_beq, int_bne, ite_band, ite_bor, txt_eql, decide_eq_true_eq] at h2
      subst h2
      exact ⟨k, rfl, by rw [con_t (List.mem_of_getElem? ha)]; simp, hle⟩
    · simp only [ev0, ev, evV, List.cons_append, List.nil_append, List.getD_cons_zero, List.getD_cons_succ, List.map_cons, List.map_nil, iOf, bOf, sOf, pOf, slLen, slBase, cmpI, arI, Value.ite_bool, int_beq, int_bne, ite_band, ite_bor, txt_eql, decide_eq_false_iff_not] at h2
      refine ⟨_, lookup_hit, n - 1, by omega, k + 1, ?_, by omega, fun hx => ?_, hle⟩
      · simp only [ev0, ev, evV, List.cons_append, List.nil_append, List.getD_cons_zero, List.getD_cons_succ, List.map_cons, List.map_nil, iOf, bOf, sOf, pOf, slLen, slBase, cmpI, arI, Value.ite_bool, int_beq, int_bne, ite_band, ite_bor]; rw [w64 (by omega) (by omega)]; rfl
      · rcases take_mem_succ ha hx with hx | hx
        · exact hno hx
        · exact h2 hx
  · simp only [ev0, ev, evV, List.cons_append, List.nil_append, List.getD_cons_zero, List.getD_cons_succ, List.map_cons, List.map_nil, iOf, bOf, sOf, pOf, slLen, slBase, cmpI, arI, Value.ite_bool, int_beq, int_bne, ite_band, ite_bor, decide_eq_false_iff_not] at h
    rw [List.take_of_length_le (by omega)] at hno
    exact ⟨-1, rfl, by rw [con_f hno]; rfl, hle⟩
theorem Contains_gives (l : List (List UInt8)) (s : List UInt8) (v : Value) (H : PH) (hl : SlR H l v) : Gives Tryz.prog n_slices_Contains___string_string_ [v, txt s] H (.bool (l.contains s)) := by
  obtain ⟨b, c, rfl⟩ := hl.sl
  refine tri_slices_Contains___string_string_ [.slice b l.length c, txt s] (by kernel_rfl) (by kernel_rfl) ?_
  refine den_call cb_slices_Index___string_string_ (Index_tri l s _ H hl) ?_
  rintro e H' ⟨n, rfl, h1, h2⟩
  refine ⟨_, [_], rfl, rfl, rfl, pendNil, ?_, h2⟩
  simp only [ev0, ev, evV, List.cons_append, List.nil_append, List.getD_cons_zero, List.getD_cons_succ, List.map_cons, List.map_nil, iOf, bOf, sOf, pOf, slLen, slBase, cmpI, arI, Value.ite_bool, int_beq, int_bne, ite_band, ite_bor, h1]
theorem Has_gives (l : List (List UInt8)) (s : List UInt8) (v : Value) (H : PH) (hl : SlR H l v) : Gives Tryz.prog n_scrimshawref06_Has [v, txt s] H (.bool (l.contains s)) := by
  obtain ⟨b, c, rfl⟩ := hl.sl
  have hm := hl.max
  simp only [maxLen] at hm
  refine tri_scrimshawref06_Has [.slice b l.length c, txt s] (by kernel_rfl) (by kernel_rfl) ?_
  refine ⟨fun n vs H' => ∃ k : Nat, vs = [.bool false, .int .i64 k] ∧ k + n = l.length ∧ s ∉ l.take k ∧ PH.le H H', ⟨l.length, 0, rfl, by omega, by simp, PH.le_refl H⟩, ?_⟩
  rintro n vs H' _ ⟨k, rfl, hkn, hno, hle⟩
  refine ⟨fun h => ?_, fun h => ?_⟩
  · simp only [ev0, ev, evV, List.cons_append, List.nil_append, List.getD_cons_zero, List.getD_cons_succ, List.map_cons, List.map_nil, iOf, bOf, sOf, pOf, slLen, slBase, cmpI, arI, Value.ite_bool, int_beq, int_bne, ite_band, ite_bor, decide_eq_true_eq] at h
    obtain ⟨a, ha⟩ : ∃ a, l[k]? = some a := ⟨_, List.getElem?_eq_getElem (show k < l.length by omega)⟩
    obtain ⟨g1, _, ces, g2, g3⟩ := (hl.le hle).get ha
    obtain ⟨rfl, _⟩ := csTxts g2
    refine ⟨fun _ => ?_, [txt a], rfl, ?_, fun h2 => ?_, fun h2 => ?_⟩
    · simp only [Chk.holds, ev0, ev, evV, List.cons_append, List.nil_append, List.getD_cons_zero, List.getD_cons_succ, List.map_cons, List.map_nil, iOf, bOf, sOf, pOf, slLen, slBase, cmpI, arI, Value.ite_bool, int_beq, int_bne, ite_band, ite_bor]; exact ⟨g1, by omega, by omega⟩
    · simp only [ev0, ev, evV, List.cons_append, List.nil_append, List.getD_cons_zero, List.getD_cons_succ, List.map_cons, List.map_nil, iOf, bOf, sOf, pOf, slLen, slBase, cmpI, arI, Value.ite_bool, int_beq, int_bne, ite_band, ite_bor]; exact g3
    · simp only [ev0, ev, evV, List.cons_append, List.nil_append, List.getD_cons_zero, List.getD_cons_succ, List.map_cons, List.map_nil, iOf, bOf, sOf, pOf, slLen, slBase, cmpI, arI, Value.ite_bool, int_beq, int_bne, ite_band, ite_bor, txt_eql, decide_eq_true_eq] at h2
      subst h2
      rw [con_t (List.mem_of_getElem? ha)]
      exact ⟨rfl, hle⟩
    · simp only [ev0, ev, evV, List.cons_append, List.nil_append, List.getD_cons_zero, List.getD_cons_succ, List.map_cons, List.map_nil, iOf, bOf, sOf, pOf, slLen, slBase, cmpI, arI, Value.ite_bool, int_beq, int_bne, ite_band, ite_bor, txt_eql, decide_eq_false_iff_not] at h2
      refine ⟨_, lookup_hit, n - 1, by omega, k + 1, ?_, by omega, fun hx => ?_, hle⟩
      · simp only [ev0, ev, evV, List.cons_append, List.nil_append, List.getD_cons_zero, List.getD_cons_succ, List.map_cons, List.map_nil, iOf, bOf, sOf, pOf, slLen, slBase, cmpI, arI, Value.ite_bool, int_beq, int_bne, ite_band, ite_bor]; rw [w64 (by omega) (by omega)]; rfl
      · rcases take_mem_succ ha hx with hx | hx
        · exact hno hx
        · exact h2 hx.symm
  · simp only [ev0, ev, evV, List.cons_append, List.nil_append, List.getD_cons_zero, List.getD_cons_succ, List.map_cons, List.map_nil, iOf, bOf, sOf, pOf, slLen, slBase, cmpI, arI, Value.ite_bool, int_beq, int_bne, ite_band, ite_bor, decide_eq_false_iff_not] at h
    rw [List.take_of_length_le (by omega)] at hno
    rw [con_f hno]
    exact ⟨rfl, hle⟩
theorem SameTexts_gives (l m : List (List UInt8)) (va vb : Value) (H : PH) (hl : SlR H l va) (hm : SlR H m vb) : Gives Tryz.prog n_scrimshawref06_SameTexts [va, vb] H (.bool (decide (l = m))) := by
  obtain ⟨b1, c1, rfl⟩ := hl.sl
  obtain ⟨b2, c2, rfl⟩ := hm.sl
  have m1 := hl.max
  have m2 := hm.max
  simp only [maxLen] at m1 m2
  refine tri_scrimshawref06_SameTexts [.slice b1 l.length c1, .slice b2 m.length c2] (by kernel_rfl) (by kernel_rfl) ?_
  refine ⟨fun h => ?_, fun h => ?_⟩
  · simp only [ev0, ev, evV, List.cons_append, List.nil_append, List.getD_cons_zero, List.getD_cons_succ, List.map_cons, List.map_nil, iOf, bOf, sOf, pOf, slLen, slBase, cmpI, arI, Value.ite_bool, int_beq, int_bne, ite_band, ite_bor, decide_eq_true_eq] at h
    have : ¬ l = m := fun e => h (by rw [e])
    exact ⟨by simp only [ev0, ev, evV, List.cons_append, List.nil_append, List.getD_cons_zero, List.getD_cons_succ, List.map_cons, List.map_nil, iOf, bOf, sOf, pOf, slLen, slBase, cmpI, arI, Value.ite_bool, int_beq, int_bne, ite_band, ite_bor, decide_eq_false this], PH.le_refl H⟩
  simp only [ev0, ev, evV, List.cons_append, List.nil_append, List.getD_cons_zero, List.getD_cons_succ, List.map_cons, List.map_nil, iOf, bOf, sOf, pOf, slLen, slBase, cmpI, arI, Value.ite_bool, int_beq, int_bne, ite_band, ite_bor, decide_eq_false_iff_not, ne_eq, Decidable.not_not] at h
  refine ⟨fun n vs H' => ∃ k : Nat, vs = [.bool false, .int .i64 k] ∧ k + n = l.length ∧ l.take k = m.take k ∧ PH.le H H', ⟨l.length, 0, rfl, by omega, by simp, PH.le_refl H⟩, ?_⟩
  rintro n vs H' _ ⟨k, rfl, hkn, htk, hle⟩
  refine ⟨fun h5 => ?_, fun h5 => ?_⟩
  · simp only [ev0, ev, evV, List.cons_append, List.nil_append, List.getD_cons_zero, List.getD_cons_succ, List.map_cons, List.map_nil, iOf, bOf, sOf, pOf, slLen, slBase, cmpI, arI, Value.ite_bool, int_beq, int_bne, ite_band, ite_bor, decide_eq_true_eq] at h5
    obtain ⟨a, ha⟩ : ∃ a, l[k]? = some a := ⟨_, List.getElem?_eq_getElem (show k < l.length by omega)⟩
    obtain ⟨a', ha'⟩ : ∃ a, m[k]? = some a := ⟨_, List.getElem?_eq_getElem (show k < m.length by omega)⟩
    obtain ⟨g1, _, ces, g2, g3⟩ := (hl.le hle).get ha
    obtain ⟨g1', _, ces', g2', g3'⟩ := (hm.le hle).get ha'
    obtain ⟨rfl, _⟩ := csTxts g2
    obtain ⟨rfl, _⟩ := csTxts g2'
    refine ⟨fun _ => ?_, [txt a], rfl, by simp only [ev0, ev, evV, List.cons_append, List.nil_append, List.getD_cons_zero, List.getD_cons_succ, List.map_cons, List.map_nil, iOf, bOf, sOf, pOf, slLen, slBase, cmpI, arI, Value.ite_bool, int_beq, int_bne, ite_band, ite_bor]; exact g3, fun _ => ?_, [txt a'], rfl, by simp only [ev0, ev, evV, List.cons_append, List.nil_append, List.getD_cons_zero, List.getD_cons_succ, List.map_cons, List.map_nil, iOf, bOf, sOf, pOf, slLen, slBase, cmpI, arI, Value.ite_bool, int_beq, int_bne, ite_band, ite_bor]; exact g3', fun h6 => ?_, fun h6 => ?_⟩
    · simp only [Chk.holds, ev0, ev, evV, List.cons_append, List.nil_append, List.getD_cons_zero, List.getD_cons_succ, List.map_cons, List.map_nil, iOf, bOf, sOf, pOf, slLen, slBase, cmpI, arI, Value.ite_bool, int_beq, int_bne, ite_band, ite_bor]; exact ⟨g1, by omega, by omega⟩
    · simp only [Chk.holds, ev0, ev, evV, List.cons_append, List.nil_append, List.getD_cons_zero, List.getD_cons_succ, List.map_cons, List.map_nil, iOf, bOf, sOf, pOf, slLen, slBase, cmpI, arI, Value.ite_bool, int_beq, int_bne, ite_band, ite_bor]; exact ⟨g1', by omega, by omega⟩
    · simp only [ev0, ev, evV, List.cons_append, List.nil_append, List.getD_cons_zero, List.getD_cons_succ, List.map_cons, List.map_nil, iOf, bOf, sOf, pOf, slLen, slBase, cmpI, arI, Value.ite_bool, int_beq, int_bne, ite_band, ite_bor, txt_neq, decide_eq_true_eq] at h6
      have : ¬ l = m := fun x => h6 (by subst x; rw [ha] at ha'; exact Option.some.inj ha')
      exact ⟨by simp only [ev0, ev, evV, List.cons_append, List.nil_append, List.getD_cons_zero, List.getD_cons_succ, List.map_cons, List.map_nil, iOf, bOf, sOf, pOf, slLen, slBase, cmpI, arI, Value.ite_bool, int_beq, int_bne, ite_band, ite_bor, decide_eq_false this], hle⟩
    · simp only [ev0, ev, evV, List.cons_append, List.nil_append, List.getD_cons_zero, List.getD_cons_succ, List.map_cons, List.map_nil, iOf, bOf, sOf, pOf, slLen, slBase, cmpI, arI, Value.ite_bool, int_beq, int_bne, ite_band, ite_bor, txt_neq, decide_eq_false_iff_not, ne_eq, Decidable.not_not] at h6
      refine ⟨_, lookup_hit, n - 1, by omega, k + 1, ?_, by omega, take_eq_next htk ha ha' h6, hle⟩
      simp only [ev0, ev, evV, List.cons_append, List.nil_append, List.getD_cons_zero, List.getD_cons_succ, List.map_cons, List.map_nil, iOf, bOf, sOf, pOf, slLen, slBase, cmpI, arI, Value.ite_bool, int_beq, int_bne, ite_band, ite_bor]; rw [w64 (by omega) (by omega)]; rfl
  · simp only [ev0, ev, evV, List.cons_append, List.nil_append, List.getD_cons_zero, List.getD_cons_succ, List.map_cons, List.map_nil, iOf, bOf, sOf, pOf, slLen, slBase, cmpI, arI, Value.ite_bool, int_beq, int_bne, ite_band, ite_bor, decide_eq_false_iff_not] at h5
    have : l = m := by rw [List.take_of_length_le (by omega), List.take_of_length_le (by omega)] at htk; exact htk
    exact ⟨by simp only [ev0, ev, evV, List.cons_append, List.nil_append, List.getD_cons_zero, List.getD_cons_succ, List.map_cons, List.map_nil, iOf, bOf, sOf, pOf, slLen, slBase, cmpI, arI, Value.ite_bool, int_beq, int_bne, ite_band, ite_bor, decide_eq_true this], hle⟩
theorem Arity_gives (p : List UInt8) (H : PH) : Gives Tryz.prog n_core_Arity [txt p] H (.int .i64 (arityI p)) := by
  refine tri_core_Arity [txt p] (by kernel_rfl) (by kernel_rfl) ?_
  refine ⟨fun vs H' => vs = [.bool (ar0.contains p)] ∧ H' = H, ?_, ?_⟩
  · rintro vs H' _ ⟨rfl, rfl⟩
    refine ⟨fun h => ?_, fun h => ?_⟩
    · simp only [ev0, ev, evV, List.cons_append, List.nil_append, List.getD_cons_zero, List.getD_cons_succ, List.map_cons, List.map_nil, iOf, bOf, sOf, pOf, slLen, slBase, cmpI, arI, Value.ite_bool, int_beq, int_bne, ite_band, ite_bor] at h
      exact ⟨by simp only [ev0, ev, evV, List.cons_append, List.nil_append, List.getD_cons_zero, List.getD_cons_succ, List.map_cons, List.map_nil, iOf, bOf, sOf, pOf, slLen, slBase, cmpI, arI, Value.ite_bool, int_beq, int_bne, ite_band, ite_bor, arityI, h]; rfl, PH.le_refl _⟩
    simp only [ev0, ev, evV, List.cons_append, List.nil_append, List.getD_cons_zero, List.getD_cons_succ, List.map_cons, List.map_nil, iOf, bOf, sOf, pOf, slLen, slBase, cmpI, arI, Value.ite_bool, int_beq, int_bne, ite_band, ite_bor] at h
    refine ⟨fun vs H2 => vs = [.bool (ar1.contains p)] ∧ H2 = H', ?_, ?_⟩
    · rintro vs H' _ ⟨rfl, rfl⟩
      refine ⟨fun h2 => ?_, fun h2 => ?_⟩
      · simp only [ev0, ev, evV, List.cons_append, List.nil_append, List.getD_cons_zero, List.getD_cons_succ, List.map_cons, List.map_nil, iOf, bOf, sOf, pOf, slLen, slBase, cmpI, arI, Value.ite_bool, int_beq, int_bne, ite_band, ite_bor] at h2
        exact ⟨by simp only [ev0, ev, evV, List.cons_append, List.nil_append, List.getD_cons_zero, List.getD_cons_succ, List.map_cons, List.map_nil, iOf, bOf, sOf, pOf, slLen, slBase, cmpI, arI, Value.ite_bool, int_beq, int_bne, ite_band, ite_bor, arityI, h, h2]; rfl, PH.le_refl _⟩
      simp only [ev0, ev, evV, List.cons_append, List.nil_append, List.getD_cons_zero, List.getD_cons_succ, List.map_cons, List.map_nil, iOf, bOf, sOf, pOf, slLen, slBase, cmpI, arI, Value.ite_bool, int_beq, int_bne, ite_band, ite_bor] at h2
      refine ⟨fun vs H3 => vs = [.bool (ar2.contains p)] ∧ H3 = H', ?_, ?_⟩
      · rintro vs H' _ ⟨rfl, rfl⟩
        refine ⟨fun h3 => ?_, fun h3 => ?_⟩
        · simp only [ev0, ev, evV, List.cons_append, List.nil_append, List.getD_cons_zero, List.getD_cons_succ, List.map_cons, List.map_nil, iOf, bOf, sOf, pOf, slLen, slBase, cmpI, arI, Value.ite_bool, int_beq, int_bne, ite_band, ite_bor] at h3
          exact ⟨by simp only [ev0, ev, evV, List.cons_append, List.nil_append, List.getD_cons_zero, List.getD_cons_succ, List.map_cons, List.map_nil, iOf, bOf, sOf, pOf, slLen, slBase, cmpI, arI, Value.ite_bool, int_beq, int_bne, ite_band, ite_bor, arityI, h, h2, h3]; rfl, PH.le_refl _⟩
        simp only [ev0, ev, evV, List.cons_append, List.nil_append, List.getD_cons_zero, List.getD_cons_succ, List.map_cons, List.map_nil, iOf, bOf, sOf, pOf, slLen, slBase, cmpI, arI, Value.ite_bool, int_beq, int_bne, ite_band, ite_bor] at h3
        refine ⟨fun h4 => ?_, fun h4 => ?_⟩
        · simp only [ev0, ev, evV, List.cons_append, List.nil_append, List.getD_cons_zero, List.getD_cons_succ, List.map_cons, List.map_nil, iOf, bOf, sOf, pOf, slLen, slBase, cmpI, arI, Value.ite_bool, int_beq, int_bne, ite_band, ite_bor, txt_eql] at h4
          have : ar3.contains p = true := by simp [ar3] at h4 ⊢; exact h4
          exact ⟨by simp only [ev0, ev, evV, List.cons_append, List.nil_append, List.getD_cons_zero, List.getD_cons_succ, List.map_cons, List.map_nil, iOf, bOf, sOf, pOf, slLen, slBase, cmpI, arI, Value.ite_bool, int_beq, int_bne, ite_band, ite_bor, arityI, h, h2, h3, this]; rfl, PH.le_refl _⟩
        · simp only [ev0, ev, evV, List.cons_append, List.nil_append, List.getD_cons_zero, List.getD_cons_succ, List.map_cons, List.map_nil, iOf, bOf, sOf, pOf, slLen, slBase, cmpI, arI, Value.ite_bool, int_beq, int_bne, ite_band, ite_bor, txt_eql] at h4
          have : ar3.contains p = false := by simp [ar3] at h4 ⊢; exact h4
          exact ⟨by simp only [ev0, ev, evV, List.cons_append, List.nil_append, List.getD_cons_zero, List.getD_cons_succ, List.map_cons, List.map_nil, iOf, bOf, sOf, pOf, slLen, slBase, cmpI, arI, Value.ite_bool, int_beq, int_bne, ite_band, ite_bor, arityI, h, h2, h3, this]; rfl, PH.le_refl _⟩
      · repeat' refine And.intro (fun h => ?_) (fun h => ?_)
        all_goals
          refine ⟨_, lookup_hit, ?_, rfl⟩
          simp only [ev0, ev, evV, List.cons_append, List.nil_append, List.getD_cons_zero, List.getD_cons_succ, List.map_cons, List.map_nil, iOf, bOf, sOf, pOf, slLen, slBase, cmpI, arI, Value.ite_bool, int_beq, int_bne, ite_band, ite_bor, txt_eql, decide_eq_true_eq, decide_eq_false_iff_not] at *
          simp_all [ar2]
    · repeat' refine And.intro (fun h => ?_) (fun h => ?_)
      all_goals
        refine ⟨_, lookup_hit, ?_, rfl⟩
        simp only [ev0, ev, evV, List.cons_append, List.nil_append, List.getD_cons_zero, List.getD_cons_succ, List.map_cons, List.map_nil, iOf, bOf, sOf, pOf, slLen, slBase, cmpI, arI, Value.ite_bool, int_beq, int_bne, ite_band, ite_bor, txt_eql, decide_eq_true_eq, decide_eq_false_iff_not] at *
        simp_all [ar1]
  · repeat' refine And.intro (fun h => ?_) (fun h => ?_)
    all_goals
      refine ⟨_, lookup_hit, ?_, rfl⟩
      simp only [ev0, ev, evV, List.cons_append, List.nil_append, List.getD_cons_zero, List.getD_cons_succ, List.map_cons, List.map_nil, iOf, bOf, sOf, pOf, slLen, slBase, cmpI, arI, Value.ite_bool, int_beq, int_bne, ite_band, ite_bor, txt_eql, decide_eq_true_eq, decide_eq_false_iff_not] at *
      simp_all [ar0]
end Go.Proofs.YtibinelkmlcmgaaGreat.Vc
/-
  CORE: which expressions may be: the program's form and check.
-/
namespace Go.Proofs.YtibinelkmlcmgaaGreat.Vc
open Go

theorem SlR.capLe {α : Type} [Enc α] {H : PH} {l : List α} {b : Option Addr} {n c : Nat} (h : SlR H l (.slice b n c)) : n ≤ c := by
  rcases (SlR.mk_iff.1 h).2 with ⟨e, _⟩ | ⟨a, c', e, hc, _⟩
  · cases e; exact Nat.le_refl _
  · cases e; exact hc
theorem namesFrom_stop {pre : List (List UInt8)} {s : List UInt8} {r : List (List UInt8)} (h : nameOk s = false ∨ pre.contains s = true) : namesFrom pre (s :: r) = false := by
  simp only [namesFrom]
  rcases h with h | h
  · rw [h]; rfl
  · rw [h]; cases nameOk s <;> rfl
theorem CNames_gives (l : List (List UInt8)) (v : Value) (H : PH) (hl : SlR H l v) : Gives Tryz.prog n_core_names [v] H (.bool (namesOk l)) := by
  obtain ⟨b, c, rfl⟩ := hl.sl
  have hm := hl.max
  simp only [maxLen] at hm
  have hcap := hl.capLe
  refine tri_core_names [.slice b l.length c] (by kernel_rfl) (by kernel_rfl) ?_
  refine ⟨fun n vs H' => ∃ k : Nat, vs = [.bool false, .int .i64 k] ∧ k + n = l.length ∧ namesOk l = namesFrom (l.take k) (l.drop k) ∧ PH.le H H', ⟨l.length, 0, rfl, by omega, by simp [namesOk], PH.le_refl H⟩, ?_⟩
  rintro n vs H1 _ ⟨k, rfl, hkn, hn, hle⟩
  refine ⟨fun h => ?_, fun h => ?_⟩
  · simp only [ev0, ev, evV, List.cons_append, List.nil_append, List.getD_cons_zero, List.getD_cons_succ, List.map_cons, List.map_nil, iOf, bOf, sOf, pOf, slLen, slBase, cmpI, arI, Value.ite_bool, int_beq, int_bne, ite_band, ite_bor, decide_eq_true_eq] at h
    obtain ⟨a, ha⟩ : ∃ a, l[k]? = some a := ⟨_, List.getElem?_eq_getElem (show k < l.length by omega)⟩
    obtain ⟨g1, _, ces, g2, g3⟩ := (hl.le hle).get ha
    obtain ⟨rfl, hla⟩ := csTxts g2
    rw [drop_get ha] at hn
    refine ⟨fun _ => ?_, [txt a], rfl, by simp only [ev0, ev, evV, List.cons_append, List.nil_append, List.getD_cons_zero, List.getD_cons_succ, List.map_cons, List.map_nil, iOf, bOf, sOf, pOf, slLen, slBase, cmpI, arI, Value.ite_bool, int_beq, int_bne, ite_band, ite_bor]; exact g3, ?_⟩
    · simp only [Chk.holds, ev0, ev, evV, List.cons_append, List.nil_append, List.getD_cons_zero, List.getD_cons_succ, List.map_cons, List.map_nil, iOf, bOf, sOf, pOf, slLen, slBase, cmpI, arI, Value.ite_bool, int_beq, int_bne, ite_band, ite_bor]; exact ⟨g1, by omega, by omega⟩
    refine ⟨fun vs H' => vs = [.bool (!nameOk a || (l.take k).contains a)] ∧ PH.le H H', ?_, ?_⟩
    · rintro vs H' _ ⟨rfl, h1⟩
      refine ⟨fun h2 => ?_, fun h2 => ?_⟩
      · simp only [ev0, ev, evV, List.cons_append, List.nil_append, List.getD_cons_zero, List.getD_cons_succ, List.map_cons, List.map_nil, iOf, bOf, sOf, pOf, slLen, slBase, cmpI, arI, Value.ite_bool, int_beq, int_bne, ite_band, ite_bor, Bool.or_eq_true, Bool.not_eq_true'] at h2
        rw [hn, namesFrom_stop h2]
        exact ⟨rfl, h1⟩
      · simp only [ev0, ev, evV, List.cons_append, List.nil_append, List.getD_cons_zero, List.getD_cons_succ, List.map_cons, List.map_nil, iOf, bOf, sOf, pOf, slLen, slBase, cmpI, arI, Value.ite_bool, int_beq, int_bne, ite_band, ite_bor, Bool.or_eq_false_iff, Bool.not_eq_false'] at h2
        refine ⟨_, lookup_hit, n - 1, by omega, k + 1, ?_, by omega, ?_, h1⟩
        · simp only [ev0, ev, evV, List.cons_append, List.nil_append, List.getD_cons_zero, List.getD_cons_succ, List.map_cons, List.map_nil, iOf, bOf, sOf, pOf, slLen, slBase, cmpI, arI, Value.ite_bool, int_beq, int_bne, ite_band, ite_bor]; rw [w64 (by omega) (by omega)]; rfl
        · rw [hn]
          simp only [namesFrom, h2.1, h2.2, Bool.not_false, Bool.true_and]
          rw [List.take_add_one, ha]; rfl
    · refine den_gives [.bool (nameOk a)] cb_data_Name (Name_gives a hla H1) rfl pendNil fun H2 h2 => ⟨fun _ => ?_, fun h3 => ?_, fun h3 => ?_⟩
      · simp only [Chk.holds, ev0, ev, evV, List.cons_append, List.nil_append, List.getD_cons_zero, List.getD_cons_succ, List.map_cons, List.map_nil, iOf, bOf, sOf, pOf, slLen, slBase, cmpI, arI, Value.ite_bool, int_beq, int_bne, ite_band, ite_bor, slCap]; omega
      · simp only [ev0, ev, evV, List.cons_append, List.nil_append, List.getD_cons_zero, List.getD_cons_succ, List.map_cons, List.map_nil, iOf, bOf, sOf, pOf, slLen, slBase, cmpI, arI, Value.ite_bool, int_beq, int_bne, ite_band, ite_bor, Bool.not_eq_true'] at h3
        exact ⟨_, lookup_hit, by simp only [ev0, ev, evV, List.cons_append, List.nil_append, List.getD_cons_zero, List.getD_cons_succ, List.map_cons, List.map_nil, iOf, bOf, sOf, pOf, slLen, slBase, cmpI, arI, Value.ite_bool, int_beq, int_bne, ite_band, ite_bor, h3]; rfl, PH.le_trans hle h2⟩
      · simp only [ev0, ev, evV, List.cons_append, List.nil_append, List.getD_cons_zero, List.getD_cons_succ, List.map_cons, List.map_nil, iOf, bOf, sOf, pOf, slLen, slBase, cmpI, arI, Value.ite_bool, int_beq, int_bne, ite_band, ite_bor, Bool.not_eq_false'] at h3
        have hcut := (hl.le (PH.le_trans hle h2)).cut (a := 0) (b := k) (by omega) (by omega)
        rw [List.drop_zero] at hcut
        refine den_gives [.bool ((l.take k).contains a)] cb_slices_Contains___string_string_ ?_ rfl pendNil fun H4 h4 => ⟨_, lookup_hit, by simp only [ev0, ev, evV, List.cons_append, List.nil_append, List.getD_cons_zero, List.getD_cons_succ, List.map_cons, List.map_nil, iOf, bOf, sOf, pOf, slLen, slBase, cmpI, arI, Value.ite_bool, int_beq, int_bne, ite_band, ite_bor, h3]; rfl, PH.le_trans hle (PH.le_trans h2 h4)⟩
        have := Contains_gives (l.take k) a _ H2 hcut
        simp only [ev0, ev, evV, List.cons_append, List.nil_append, List.getD_cons_zero, List.getD_cons_succ, List.map_cons, List.map_nil, iOf, bOf, sOf, pOf, slLen, slBase, cmpI, arI, Value.ite_bool, int_beq, int_bne, ite_band, ite_bor]
        exact this
  · simp only [ev0, ev, evV, List.cons_append, List.nil_append, List.getD_cons_zero, List.getD_cons_succ, List.map_cons, List.map_nil, iOf, bOf, sOf, pOf, slLen, slBase, cmpI, arI, Value.ite_bool, int_beq, int_bne, ite_band, ite_bor, decide_eq_false_iff_not] at h
    rw [List.drop_eq_nil_of_le (by omega)] at hn
    rw [hn]
    exact ⟨rfl, hle⟩
theorem isConst_gives (d : Dat) (cs : List Value) (H : PH) (hd : d.Rep H cs) : Gives Tryz.prog n_core_isConst [.agg cs.toArray] H (.bool (constOk d)) := by
  have hc := DCheckF_gives d cs H hd
  obtain ⟨sv, rfl, hk, hn, ht, hs⟩ := Dat.Rep_iff.1 hd
  obtain ⟨b, c, rfl⟩ := hs.sl
  refine tri_core_isConst [.int .i64 d.kind, .int .i64 d.int, txt d.text, .slice b d.list.length c] (by kernel_rfl) (by kernel_rfl) ?_
  refine den_gives [.int .i64 (d.chk 0 0).2] cb_data_Check hc rfl pendNil fun H1 h1 => ⟨?_, h1⟩
  have : constOk d = (decide ((d.chk 0 0).2 = 0) && decide (d.kind ≠ 3) && (decide (d.kind < 5) || (decide (d.kind = 5) && decide ((d.list.length : Int) = 0)))) := by
    unfold constOk
    by_cases h : (d.chk 0 0).2 = 0
    · have hg : formOk d = true := Dat.Good.form ⟨0, 0, by omega, h⟩
      have hr : 0 ≤ d.kind := by rcases form_cases hg with h | h | h | h | h | h | h | h <;> omega
      rw [list_empty]
      simp only [h, decide_true, Bool.true_and]
      rw [Bool.eq_iff_iff]
      simp only [Bool.or_eq_true, Bool.and_eq_true, decide_eq_true_eq]
      constructor
      · rintro ((((h | h) | h) | h) | h)
        · exact ⟨by omega, .inl (by omega)⟩
        · exact ⟨by omega, .inl (by omega)⟩
        · exact ⟨by omega, .inl (by omega)⟩
        · exact ⟨by omega, .inl (by omega)⟩
        · exact ⟨by omega, .inr h⟩
      · rintro ⟨h1, h2 | h2⟩
        · left; omega
        · exact .inr h2
    · simp [h]
  rw [this]
  simp only [ev0, ev, evV, List.cons_append, List.nil_append, List.getD_cons_zero, List.getD_cons_succ, List.map_cons, List.map_nil, iOf, bOf, sOf, pOf, slLen, slBase, cmpI, arI, Value.ite_bool, int_beq, int_bne, ite_band, ite_bor]
/-- what kinds have: a name, names, how many kids from and to; may it be? -/
def shpX (e : Xp) : Bool × Bool × Int × Int × Bool :=
  if e.kind = 0 then (false, false, 0, 0, true) else if e.kind = 1 then (true, false, 0, 0, true) else if e.kind = 2 then (true, false, 1, 1, true) else if e.kind = 3 then (false, false, 3, 3, true)
  else if e.kind = 4 then (false, false, 2, 4096, true) else if e.kind = 5 then (false, true, 1, 1, decide ((e.names.length : Int) ≤ 6)) else if e.kind = 6 then (false, false, 1, 7, true)
  else if e.kind = 7 then (true, false, arityI e.name, arityI e.name, decide (0 ≤ arityI e.name)) else if e.kind = 8 ∨ e.kind = 9 then (false, true, IntKind.i64.wrap ((e.names.length : Int) + 1), IntKind.i64.wrap ((e.names.length : Int) + 1), true)
  else if e.kind = 10 then (false, true, IntKind.i64.wrap ((e.names.length : Int) + 1), IntKind.i64.wrap ((e.names.length : Int) + 1), decide ((0 : Int) < e.names.length)) else (false, false, 0, 0, false)
theorem CShaped_gives (e : Xp) (cs : List Value) (H : PH) (he : e.Rep H cs) : Gives Tryz.prog n_core_shaped [.agg cs.toArray] H (.tuple #[.agg #[.bool (shpX e).1, .bool (shpX e).2.1, .int .i64 (shpX e).2.2.1, .int .i64 (shpX e).2.2.2.1], .bool (shpX e).2.2.2.2]) := by
  obtain ⟨nb, db, kb, nc, dc, kc, rfl, hx⟩ := he.open
  refine tri_core_shaped (exVs e nb db kb nc dc kc) (by kernel_rfl) (by kernel_rfl) ?_
  refine ⟨fun h0 => ?_, fun h0 => ?_⟩
  · simp only [ev0, ev, evV, List.cons_append, List.nil_append, List.getD_cons_zero, List.getD_cons_succ, List.map_cons, List.map_nil, iOf, bOf, sOf, pOf, slLen, slBase, cmpI, arI, Value.ite_bool, int_beq, int_bne, ite_band, ite_bor, decide_eq_true_eq] at h0
    exact ⟨by rw [show shpX e = _ from by unfold shpX; rw [if_pos h0]]; simp only [ev0, ev, evV, List.cons_append, List.nil_append, List.getD_cons_zero, List.getD_cons_succ, List.map_cons, List.map_nil, iOf, bOf, sOf, pOf, slLen, slBase, cmpI, arI, Value.ite_bool, int_beq, int_bne, ite_band, ite_bor, partV]; rfl, PH.le_refl _⟩
  simp only [ev0, ev, evV, List.cons_append, List.nil_append, List.getD_cons_zero, List.getD_cons_succ, List.map_cons, List.map_nil, iOf, bOf, sOf, pOf, slLen, slBase, cmpI, arI, Value.ite_bool, int_beq, int_bne, ite_band, ite_bor, decide_eq_false_iff_not] at h0
  refine ⟨fun h1 => ?_, fun h1 => ?_⟩
  · simp only [ev0, ev, evV, List.cons_append, List.nil_append, List.getD_cons_zero, List.getD_cons_succ, List.map_cons, List.map_nil, iOf, bOf, sOf, pOf, slLen, slBase, cmpI, arI, Value.ite_bool, int_beq, int_bne, ite_band, ite_bor, decide_eq_true_eq] at h1
    exact ⟨by rw [show shpX e = _ from by unfold shpX; rw [if_neg h0, if_pos h1]]; simp only [ev0, ev, evV, List.cons_append, List.nil_append, List.getD_cons_zero, List.getD_cons_succ, List.map_cons, List.map_nil, iOf, bOf, sOf, pOf, slLen, slBase, cmpI, arI, Value.ite_bool, int_beq, int_bne, ite_band, ite_bor, partV]; rfl, PH.le_refl _⟩
  simp only [ev0, ev, evV, List.cons_append, List.nil_append, List.getD_cons_zero, List.getD_cons_succ, List.map_cons, List.map_nil, iOf, bOf, sOf, pOf, slLen, slBase, cmpI, arI, Value.ite_bool, int_beq, int_bne, ite_band, ite_bor, decide_eq_false_iff_not] at h1
  refine ⟨fun h2 => ?_, fun h2 => ?_⟩
  · simp only [ev0, ev, evV, List.cons_append, List.nil_append, List.getD_cons_zero, List.getD_cons_succ, List.map_cons, List.map_nil, iOf, bOf, sOf, pOf, slLen, slBase, cmpI, arI, Value.ite_bool, int_beq, int_bne, ite_band, ite_bor, decide_eq_true_eq] at h2
    exact ⟨by rw [show shpX e = _ from by unfold shpX; rw [if_neg h0, if_neg h1, if_pos h2]]; simp only [ev0, ev, evV, List.cons_append, List.nil_append, List.getD_cons_zero, List.getD_cons_succ, List.map_cons, List.map_nil, iOf, bOf, sOf, pOf, slLen, slBase, cmpI, arI, Value.ite_bool, int_beq, int_bne, ite_band, ite_bor, partV]; rfl, PH.le_refl _⟩
  simp only [ev0, ev, evV, List.cons_append, List.nil_append, List.getD_cons_zero, List.getD_cons_succ, List.map_cons, List.map_nil, iOf, bOf, sOf, pOf, slLen, slBase, cmpI, arI, Value.ite_bool, int_beq, int_bne, ite_band, ite_bor, decide_eq_false_iff_not] at h2
  refine ⟨fun h3 => ?_, fun h3 => ?_⟩
  · simp only [ev0, ev, evV, List.cons_append, List.nil_append, List.getD_cons_zero, List.getD_cons_succ, List.map_cons, List.map_nil, iOf, bOf, sOf, pOf, slLen, slBase, cmpI, arI, Value.ite_bool, int_beq, int_bne, ite_band, ite_bor, decide_eq_true_eq] at h3
    exact ⟨by rw [show shpX e = _ from by unfold shpX; rw [if_neg h0, if_neg h1, if_neg h2, if_pos h3]]; simp only [ev0, ev, evV, List.cons_append, List.nil_append, List.getD_cons_zero, List.getD_cons_succ, List.map_cons, List.map_nil, iOf, bOf, sOf, pOf, slLen, slBase, cmpI, arI, Value.ite_bool, int_beq, int_bne, ite_band, ite_bor, partV]; rfl, PH.le_refl _⟩
  simp only [ev0, ev, evV, List.cons_append, List.nil_append, List.getD_cons_zero, List.getD_cons_succ, List.map_cons, List.map_nil, iOf, bOf, sOf, pOf, slLen, slBase, cmpI, arI, Value.ite_bool, int_beq, int_bne, ite_band, ite_bor, decide_eq_false_iff_not] at h3
  refine ⟨fun h4 => ?_, fun h4 => ?_⟩
  · simp only [ev0, ev, evV, List.cons_append, List.nil_append, List.getD_cons_zero, List.getD_cons_succ, List.map_cons, List.map_nil, iOf, bOf, sOf, pOf, slLen, slBase, cmpI, arI, Value.ite_bool, int_beq, int_bne, ite_band, ite_bor, decide_eq_true_eq] at h4
    exact ⟨by rw [show shpX e = _ from by unfold shpX; rw [if_neg h0, if_neg h1, if_neg h2, if_neg h3, if_pos h4]]; simp only [ev0, ev, evV, List.cons_append, List.nil_append, List.getD_cons_zero, List.getD_cons_succ, List.map_cons, List.map_nil, iOf, bOf, sOf, pOf, slLen, slBase, cmpI, arI, Value.ite_bool, int_beq, int_bne, ite_band, ite_bor, partV]; rfl, PH.le_refl _⟩
  simp only [ev0, ev, evV, List.cons_append, List.nil_append, List.getD_cons_zero, List.getD_cons_succ, List.map_cons, List.map_nil, iOf, bOf, sOf, pOf, slLen, slBase, cmpI, arI, Value.ite_bool, int_beq, int_bne, ite_band, ite_bor, decide_eq_false_iff_not] at h4
  refine ⟨fun h5 => ?_, fun h5 => ?_⟩
  · simp only [ev0, ev, evV, List.cons_append, List.nil_append, List.getD_cons_zero, List.getD_cons_succ, List.map_cons, List.map_nil, iOf, bOf, sOf, pOf, slLen, slBase, cmpI, arI, Value.ite_bool, int_beq, int_bne, ite_band, ite_bor, decide_eq_true_eq] at h5
    exact ⟨by rw [show shpX e = _ from by unfold shpX; rw [if_neg h0, if_neg h1, if_neg h2, if_neg h3, if_neg h4, if_pos h5]]; simp only [ev0, ev, evV, List.cons_append, List.nil_append, List.getD_cons_zero, List.getD_cons_succ, List.map_cons, List.map_nil, iOf, bOf, sOf, pOf, slLen, slBase, cmpI, arI, Value.ite_bool, int_beq, int_bne, ite_band, ite_bor, partV]; rfl, PH.le_refl _⟩
  simp only [ev0, ev, evV, List.cons_append, List.nil_append, List.getD_cons_zero, List.getD_cons_succ, List.map_cons, List.map_nil, iOf, bOf, sOf, pOf, slLen, slBase, cmpI, arI, Value.ite_bool, int_beq, int_bne, ite_band, ite_bor, decide_eq_false_iff_not] at h5
  refine ⟨fun h6 => ?_, fun h6 => ?_⟩
  · simp only [ev0, ev, evV, List.cons_append, List.nil_append, List.getD_cons_zero, List.getD_cons_succ, List.map_cons, List.map_nil, iOf, bOf, sOf, pOf, slLen, slBase, cmpI, arI, Value.ite_bool, int_beq, int_bne, ite_band, ite_bor, decide_eq_true_eq] at h6
    exact ⟨by rw [show shpX e = _ from by unfold shpX; rw [if_neg h0, if_neg h1, if_neg h2, if_neg h3, if_neg h4, if_neg h5, if_pos h6]]; simp only [ev0, ev, evV, List.cons_append, List.nil_append, List.getD_cons_zero, List.getD_cons_succ, List.map_cons, List.map_nil, iOf, bOf, sOf, pOf, slLen, slBase, cmpI, arI, Value.ite_bool, int_beq, int_bne, ite_band, ite_bor, partV]; rfl, PH.le_refl _⟩
  simp only [ev0, ev, evV, List.cons_append, List.nil_append, List.getD_cons_zero, List.getD_cons_succ, List.map_cons, List.map_nil, iOf, bOf, sOf, pOf, slLen, slBase, cmpI, arI, Value.ite_bool, int_beq, int_bne, ite_band, ite_bor, decide_eq_false_iff_not] at h6
  refine ⟨fun h7 => ?_, fun h7 => ?_⟩
  · simp only [ev0, ev, evV, List.cons_append, List.nil_append, List.getD_cons_zero, List.getD_cons_succ, List.map_cons, List.map_nil, iOf, bOf, sOf, pOf, slLen, slBase, cmpI, arI, Value.ite_bool, int_beq, int_bne, ite_band, ite_bor, decide_eq_true_eq] at h7
    refine den_gives [.int .i64 (arityI e.name)] cb_core_Arity (Arity_gives e.name H) rfl pendNil fun H1 hh => ⟨?_, hh⟩
    rw [show shpX e = _ from by unfold shpX; rw [if_neg h0, if_neg h1, if_neg h2, if_neg h3, if_neg h4, if_neg h5, if_neg h6, if_pos h7]]
    simp only [ev0, ev, evV, List.cons_append, List.nil_append, List.getD_cons_zero, List.getD_cons_succ, List.map_cons, List.map_nil, iOf, bOf, sOf, pOf, slLen, slBase, cmpI, arI, Value.ite_bool, int_beq, int_bne, ite_band, ite_bor, partV]; rfl
  simp only [ev0, ev, evV, List.cons_append, List.nil_append, List.getD_cons_zero, List.getD_cons_succ, List.map_cons, List.map_nil, iOf, bOf, sOf, pOf, slLen, slBase, cmpI, arI, Value.ite_bool, int_beq, int_bne, ite_band, ite_bor, decide_eq_false_iff_not] at h7
  refine ⟨fun h8 => ?_, fun h8 => ?_⟩
  · simp only [ev0, ev, evV, List.cons_append, List.nil_append, List.getD_cons_zero, List.getD_cons_succ, List.map_cons, List.map_nil, iOf, bOf, sOf, pOf, slLen, slBase, cmpI, arI, Value.ite_bool, int_beq, int_bne, ite_band, ite_bor, Bool.or_eq_true, decide_eq_true_eq] at h8
    have h8 : e.kind = 8 ∨ e.kind = 9 := by
      by_cases hh : e.kind = 8
      · exact .inl hh
      · simp [hh] at h8; exact .inr h8
    rw [show shpX e = _ from by unfold shpX; rw [if_neg h0, if_neg h1, if_neg h2, if_neg h3, if_neg h4, if_neg h5, if_neg h6, if_neg h7, if_pos h8]]
    refine ⟨?_, PH.le_refl _⟩
    simp only [ev0, ev, evV, List.cons_append, List.nil_append, List.getD_cons_zero, List.getD_cons_succ, List.map_cons, List.map_nil, iOf, bOf, sOf, pOf, slLen, slBase, cmpI, arI, Value.ite_bool, int_beq, int_bne, ite_band, ite_bor, partV]; rfl
  simp only [ev0, ev, evV, List.cons_append, List.nil_append, List.getD_cons_zero, List.getD_cons_succ, List.map_cons, List.map_nil, iOf, bOf, sOf, pOf, slLen, slBase, cmpI, arI, Value.ite_bool, int_beq, int_bne, ite_band, ite_bor] at h8
  have h8 : ¬ (e.kind = 8 ∨ e.kind = 9) := by
    rintro (hh | hh) <;> simp [hh] at h8
  refine ⟨fun h10 => ?_, fun h10 => ?_⟩
  · simp only [ev0, ev, evV, List.cons_append, List.nil_append, List.getD_cons_zero, List.getD_cons_succ, List.map_cons, List.map_nil, iOf, bOf, sOf, pOf, slLen, slBase, cmpI, arI, Value.ite_bool, int_beq, int_bne, ite_band, ite_bor, decide_eq_true_eq] at h10
    rw [show shpX e = _ from by unfold shpX; rw [if_neg h0, if_neg h1, if_neg h2, if_neg h3, if_neg h4, if_neg h5, if_neg h6, if_neg h7, if_neg h8, if_pos h10]]
    refine ⟨?_, PH.le_refl _⟩
    simp only [ev0, ev, evV, List.cons_append, List.nil_append, List.getD_cons_zero, List.getD_cons_succ, List.map_cons, List.map_nil, iOf, bOf, sOf, pOf, slLen, slBase, cmpI, arI, Value.ite_bool, int_beq, int_bne, ite_band, ite_bor, partV]; rfl
  · simp only [ev0, ev, evV, List.cons_append, List.nil_append, List.getD_cons_zero, List.getD_cons_succ, List.map_cons, List.map_nil, iOf, bOf, sOf, pOf, slLen, slBase, cmpI, arI, Value.ite_bool, int_beq, int_bne, ite_band, ite_bor, decide_eq_false_iff_not] at h10
    rw [show shpX e = _ from by unfold shpX; rw [if_neg h0, if_neg h1, if_neg h2, if_neg h3, if_neg h4, if_neg h5, if_neg h6, if_neg h7, if_neg h8, if_neg h10]]
    exact ⟨rfl, PH.le_refl _⟩
/-- may an expression's own fields be? as the program asks it -/
def frmB (e : Xp) : Bool :=
  if (((!(shpX e).2.2.2.2 || decide ((e.kids.length : Int) < (shpX e).2.2.1)) || decide ((shpX e).2.2.2.1 < (e.kids.length : Int))) || (decide ((0 : Int) < e.names.length) && !(shpX e).2.1)) || !namesOk e.names then false
  else if ((shpX e).1 && decide (e.kind ≠ 7) && !nameOk e.name) || (!(shpX e).1 && decide (e.name ≠ [])) then false
  else if e.kind = 0 then constOk e.const
  else (decide (e.kind ≠ 10) || !((e.kids.take e.names.length).any fun k => decide (k.kind ≠ 5))) && isDat0 e.const
/-- the same, over what is of moment alone: the kind, how long the name, the names, the kids are, and what holds of them -/
def shpN (k : Int) (n : Nat) (A : Int) : Bool × Bool × Int × Int × Bool :=
  if k = 0 then (false, false, 0, 0, true) else if k = 1 then (true, false, 0, 0, true) else if k = 2 then (true, false, 1, 1, true) else if k = 3 then (false, false, 3, 3, true)
  else if k = 4 then (false, false, 2, 4096, true) else if k = 5 then (false, true, 1, 1, decide ((n : Int) ≤ 6)) else if k = 6 then (false, false, 1, 7, true)
  else if k = 7 then (true, false, A, A, decide (0 ≤ A)) else if k = 8 ∨ k = 9 then (false, true, IntKind.i64.wrap ((n : Int) + 1), IntKind.i64.wrap ((n : Int) + 1), true)
  else if k = 10 then (false, true, IntKind.i64.wrap ((n : Int) + 1), IntKind.i64.wrap ((n : Int) + 1), decide ((0 : Int) < n)) else (false, false, 0, 0, false)
def frmN (k : Int) (u n m : Nat) (A : Int) (N S D C B : Bool) : Bool :=
  if (((!(shpN k n A).2.2.2.2 || decide ((m : Int) < (shpN k n A).2.2.1)) || decide ((shpN k n A).2.2.2.1 < (m : Int))) || (decide ((0 : Int) < n) && !(shpN k n A).2.1)) || !N then false
  else if ((shpN k n A).1 && decide (k ≠ 7) && !S) || (!(shpN k n A).1 && decide (u ≠ 0)) then false
  else if k = 0 then C
  else (decide (k ≠ 10) || B) && D
def exN (k : Int) (u n m : Nat) (A : Int) (N S D C B : Bool) : Bool :=
  (if k = 0 then decide (u = 0) && decide (n = 0) && decide (m = 0) && C
  else D && N &&
    (if k = 1 then S && decide (n = 0) && decide (m = 0)
    else if k = 2 then S && decide (n = 0) && decide (m = 1)
    else if k = 3 then decide (u = 0) && decide (n = 0) && decide (m = 3)
    else if k = 4 then decide (u = 0) && decide (n = 0) && decide (2 ≤ m)
    else if k = 5 then decide (u = 0) && decide (n ≤ 6) && decide (m = 1)
    else if k = 6 then decide (u = 0) && decide (n = 0) && decide (1 ≤ m) && decide (m ≤ 7)
    else if k = 7 then decide (n = 0) && decide (A = m)
    else if k = 8 ∨ k = 9 then decide (u = 0) && decide (m = n + 1)
    else if k = 10 then decide (u = 0) && decide (1 ≤ n) && decide (m = n + 1) && B
    else false)) && !(decide (k = 4) && decide (4096 < m))
theorem frmN_eq (k : Int) (u n m : Nat) (A : Int) (N S D C B : Bool) (hn : n ≤ 9223372036854775807) (hm : m ≤ 9223372036854775807) (hN : n = 0 → N = true) : frmN k u n m A N S D C B = exN k u n m A N S D C B := by
  have hwr : IntKind.i64.wrap ((n : Int) + 1) = if n = 9223372036854775807 then -9223372036854775808 else (n : Int) + 1 := by
    split
    · rename_i h; rw [h]; decide
    · exact w64 (by omega) (by omega)
  unfold frmN exN shpN
  rw [hwr]
  by_cases h0 : k = 0
  · subst h0; grind
  by_cases h1 : k = 1
  · subst h1; grind
  by_cases h2 : k = 2
  · subst h2; grind
  by_cases h3 : k = 3
  · subst h3; grind
  by_cases h4 : k = 4
  · subst h4; grind
  by_cases h5 : k = 5
  · subst h5; grind
  by_cases h6 : k = 6
  · subst h6; grind
  by_cases h7 : k = 7
  · subst h7; grind
  by_cases h8 : k = 8
  · subst h8; grind
  by_cases h9 : k = 9
  · subst h9; grind
  by_cases h10 : k = 10
  · subst h10; grind
  · simp [h0, h1, h2, h3, h4, h5, h6, h7, h8, h9, h10]
theorem nil_iff_len {α : Type} (l : List α) : l.isEmpty = decide (l.length = 0) := by cases l <;> simp
theorem frmB_eq (e : Xp) (hn : e.names.length ≤ 9223372036854775807) (hk : e.kids.length ≤ 9223372036854775807) : frmB e = exFormP e := by
  have hany : (e.kids.take e.names.length).any (fun k => decide (k.kind ≠ 5)) = !((e.kids.take e.names.length).all fun k => decide (k.kind = 5)) := by
    rw [Bool.eq_iff_iff]; simp
  have hne : decide (e.name ≠ []) = decide (e.name.length ≠ 0) := by cases e.name <;> simp
  have h1 : frmB e = frmN e.kind e.name.length e.names.length e.kids.length (arityI e.name) (namesOk e.names) (nameOk e.name) (isDat0 e.const) (constOk e.const) ((e.kids.take e.names.length).all fun k => decide (k.kind = 5)) := by
    unfold frmB
    rw [hany, hne, Bool.not_not]
    rfl
  have h2 : exFormP e = exN e.kind e.name.length e.names.length e.kids.length (arityI e.name) (namesOk e.names) (nameOk e.name) (isDat0 e.const) (constOk e.const) ((e.kids.take e.names.length).all fun k => decide (k.kind = 5)) := by
    unfold exFormP exForm
    simp only [nil_iff_len]
    rfl
  rw [h1, h2]
  exact frmN_eq _ _ _ _ _ _ _ _ _ _ hn hk fun h => by rw [List.length_eq_zero_iff.1 h]; rfl
end Go.Proofs.YtibinelkmlcmgaaGreat.Vc
/-
  CORE: the program's check of an expression.
-/
namespace Go.Proofs.YtibinelkmlcmgaaGreat.Vc
open Go

theorem notLam_gives (e : Xp) (cs : List Value) (H : PH) (he : e.Rep H cs) : Gives Tryz.prog n_core_form_1 [.agg cs.toArray] H (.bool (decide (e.kind ≠ 5))) := by
  obtain ⟨nb, db, kb, nc, dc, kc, rfl, hx⟩ := he.open
  refine tri_core_form_1 (exVs e nb db kb nc dc kc) (by kernel_rfl) (by kernel_rfl) ⟨?_, PH.le_refl _⟩
  simp only [ev0, ev, evV, List.cons_append, List.nil_append, List.getD_cons_zero, List.getD_cons_succ, List.map_cons, List.map_nil, iOf, bOf, sOf, pOf, slLen, slBase, cmpI, arI, Value.ite_bool, int_beq, int_bne, ite_band, ite_bor]
theorem IndexLam_tri (l : List Xp) (v : Value) (H : PH) (hl : SlR H l v) : Tri Tryz.prog n_slices_IndexFunc___api_Expr_api_Expr_ #[v, .func (.func n_core_form_1) #[] #[]] H fun e H' => ∃ n : Int, e = .returned (.int .i64 n) ∧ decide (0 ≤ n) = l.any (fun k => decide (k.kind ≠ 5)) ∧ PH.le H H' := by
  obtain ⟨b, c, rfl⟩ := hl.sl
  have hm := hl.max
  simp only [maxLen] at hm
  refine tri_slices_IndexFunc___api_Expr_api_Expr_ [.slice b l.length c, .func (.func n_core_form_1) #[] #[]] (by kernel_rfl) (by kernel_rfl) ?_
  refine ⟨fun n vs H' => ∃ k : Nat, vs = [.int .i64 0, .int .i64 k] ∧ k + n = l.length ∧ (∀ x ∈ l.take k, x.kind = 5) ∧ PH.le H H', ⟨l.length, 0, rfl, by omega, by simp, PH.le_refl H⟩, ?_⟩
  rintro n vs H' _ ⟨k, rfl, hkn, hno, hle⟩
  refine ⟨fun h => ?_, fun h => ?_⟩
  · simp only [ev0, ev, evV, List.cons_append, List.nil_append, List.getD_cons_zero, List.getD_cons_succ, List.map_cons, List.map_nil, iOf, bOf, sOf, pOf, slLen, slBase, cmpI, arI, Value.ite_bool, int_beq, int_bne, ite_band, ite_bor, decide_eq_true_eq] at h
    obtain ⟨a, ha⟩ : ∃ a, l[k]? = some a := ⟨_, List.getElem?_eq_getElem (show k < l.length by omega)⟩
    obtain ⟨g1, _, ces, g2, g3⟩ := (hl.le hle).get ha
    have htags := Xp.Rep.tags g2
    have hcall := notLam_gives a ces H' g2
    obtain ⟨nb, db, kb, nc, dc, kc, rfl, hx⟩ := Xp.Rep.open g2
    refine ⟨fun _ => ?_, _, htags, by simp only [ev0, ev, evV, List.cons_append, List.nil_append, List.getD_cons_zero, List.getD_cons_succ, List.map_cons, List.map_nil, iOf, bOf, sOf, pOf, slLen, slBase, cmpI, arI, Value.ite_bool, int_beq, int_bne, ite_band, ite_bor]; exact g3, ?_⟩
    · simp only [Chk.holds, ev0, ev, evV, List.cons_append, List.nil_append, List.getD_cons_zero, List.getD_cons_succ, List.map_cons, List.map_nil, iOf, bOf, sOf, pOf, slLen, slBase, cmpI, arI, Value.ite_bool, int_beq, int_bne, ite_band, ite_bor]; exact ⟨g1, by omega, by omega⟩
    refine den_givesF [.bool (decide (a.kind ≠ 5))] rfl cb_core_form_1 hcall rfl pendNil fun H2 h2 => ⟨fun h3 => ?_, fun h3 => ?_⟩
    · simp only [ev0, ev, evV, List.cons_append, List.nil_append, List.getD_cons_zero, List.getD_cons_succ, List.map_cons, List.map_nil, iOf, bOf, sOf, pOf, slLen, slBase, cmpI, arI, Value.ite_bool, int_beq, int_bne, ite_band, ite_bor, decide_eq_true_eq] at h3
      refine ⟨k, rfl, ?_, PH.le_trans hle h2⟩
      have : l.any (fun k => decide (k.kind ≠ 5)) = true := List.any_eq_true.2 ⟨a, List.mem_of_getElem? ha, by simpa using h3⟩
      rw [this]; simp
    · simp only [ev0, ev, evV, List.cons_append, List.nil_append, List.getD_cons_zero, List.getD_cons_succ, List.map_cons, List.map_nil, iOf, bOf, sOf, pOf, slLen, slBase, cmpI, arI, Value.ite_bool, int_beq, int_bne, ite_band, ite_bor, decide_eq_false_iff_not, ne_eq, Decidable.not_not] at h3
      refine ⟨_, lookup_hit, n - 1, by omega, k + 1, ?_, by omega, fun x hx => ?_, PH.le_trans hle h2⟩
      · simp only [ev0, ev, evV, List.cons_append, List.nil_append, List.getD_cons_zero, List.getD_cons_succ, List.map_cons, List.map_nil, iOf, bOf, sOf, pOf, slLen, slBase, cmpI, arI, Value.ite_bool, int_beq, int_bne, ite_band, ite_bor]; rw [w64 (by omega) (by omega)]; rfl
      · rcases take_mem_succ ha hx with hx | hx
        · exact hno x hx
        · rw [hx]; exact h3
  · simp only [ev0, ev, evV, List.cons_append, List.nil_append, List.getD_cons_zero, List.getD_cons_succ, List.map_cons, List.map_nil, iOf, bOf, sOf, pOf, slLen, slBase, cmpI, arI, Value.ite_bool, int_beq, int_bne, ite_band, ite_bor, decide_eq_false_iff_not] at h
    rw [List.take_of_length_le (by omega)] at hno
    refine ⟨-1, rfl, ?_, hle⟩
    have : l.any (fun k => decide (k.kind ≠ 5)) = false := by
      rw [List.any_eq_false]
      intro x hx
      simp [hno x hx]
    rw [this]; rfl
theorem ContainsLam_gives (l : List Xp) (v : Value) (H : PH) (hl : SlR H l v) : Gives Tryz.prog n_slices_ContainsFunc___api_Expr_api_Expr_ [v, .func (.func n_core_form_1) #[] #[]] H (.bool (l.any fun k => decide (k.kind ≠ 5))) := by
  obtain ⟨b, c, rfl⟩ := hl.sl
  refine tri_slices_ContainsFunc___api_Expr_api_Expr_ [.slice b l.length c, .func (.func n_core_form_1) #[] #[]] (by kernel_rfl) (by kernel_rfl) ?_
  refine den_call cb_slices_IndexFunc___api_Expr_api_Expr_ (IndexLam_tri l _ H hl) ?_
  rintro e H' ⟨n, rfl, h1, h2⟩
  refine ⟨_, [_], rfl, rfl, rfl, pendNil, ?_, h2⟩
  simp only [ev0, ev, evV, List.cons_append, List.nil_append, List.getD_cons_zero, List.getD_cons_succ, List.map_cons, List.map_nil, iOf, bOf, sOf, pOf, slLen, slBase, cmpI, arI, Value.ite_bool, int_beq, int_bne, ite_band, ite_bor, h1]
theorem isDat0_dec (d : Dat) : decide (d = .mk 0 0 [] []) = isDat0 d := by
  rw [Bool.eq_iff_iff, decide_eq_true_eq, isDat0_iff]; rfl
theorem dat0_rep (H : PH) : Dat.Rep H (.mk 0 0 [] []) [.int .i64 0, .int .i64 0, txt [], .slice none 0 0] := leaf_rep (by decide) (by decide) (by decide)
theorem CForm_gives (e : Xp) (cs : List Value) (H : PH) (he : e.Rep H cs) : Gives Tryz.prog n_core_form [.agg cs.toArray] H (.bool (exFormP e)) := by
  have hsh := fun H' (h : PH.le H H') => CShaped_gives e cs H' (Xp.Rep.le h e he)
  obtain ⟨nb, db, kb, nc, dc, kc, rfl, hx⟩ := he.open
  have hn := hx.names.max
  have hk := hx.kids.max
  have hcap := hx.kids.capLe
  simp only [maxLen] at hn hk
  rw [← frmB_eq e (by omega) (by omega)]
  refine tri_core_form (exVs e nb db kb nc dc kc) (by kernel_rfl) (by kernel_rfl) ?_
  refine den_gives [.bool (shpX e).1, .bool (shpX e).2.1, .int .i64 (shpX e).2.2.1, .int .i64 (shpX e).2.2.2.1, .bool (shpX e).2.2.2.2] cb_core_shaped (hsh H (PH.le_refl H)) rfl pendNil fun H1 h1 => ?_
  generalize hb1 : ((((!(shpX e).2.2.2.2 || decide ((e.kids.length : Int) < (shpX e).2.2.1)) || decide ((shpX e).2.2.2.1 < (e.kids.length : Int))) || (decide ((0 : Int) < e.names.length) && !(shpX e).2.1)) || !namesOk e.names) = bad1
  refine ⟨fun vs H' => vs = [.bool bad1] ∧ PH.le H H', ?_, ?_⟩
  · rintro vs H2 _ ⟨rfl, h2⟩
    refine ⟨fun h => ?_, fun h => ?_⟩
    · simp only [ev0, ev, evV, List.cons_append, List.nil_append, List.getD_cons_zero, List.getD_cons_succ, List.map_cons, List.map_nil, iOf, bOf, sOf, pOf, slLen, slBase, cmpI, arI, Value.ite_bool, int_beq, int_bne, ite_band, ite_bor] at h
      refine ⟨?_, h2⟩
      unfold frmB
      rw [hb1, if_pos h]; rfl
    simp only [ev0, ev, evV, List.cons_append, List.nil_append, List.getD_cons_zero, List.getD_cons_succ, List.map_cons, List.map_nil, iOf, bOf, sOf, pOf, slLen, slBase, cmpI, arI, Value.ite_bool, int_beq, int_bne, ite_band, ite_bor] at h
    generalize hb2 : (((shpX e).1 && decide (e.kind ≠ 7) && !nameOk e.name) || (!(shpX e).1 && decide (e.name ≠ []))) = bad2
    refine ⟨fun vs H' => vs = [.bool bad2] ∧ PH.le H H', ?_, ?_⟩
    · rintro vs H3 _ ⟨rfl, h3⟩
      refine ⟨fun g => ?_, fun g => ?_⟩
      · simp only [ev0, ev, evV, List.cons_append, List.nil_append, List.getD_cons_zero, List.getD_cons_succ, List.map_cons, List.map_nil, iOf, bOf, sOf, pOf, slLen, slBase, cmpI, arI, Value.ite_bool, int_beq, int_bne, ite_band, ite_bor] at g
        refine ⟨?_, h3⟩
        unfold frmB
        rw [hb1, hb2, h, g]; rfl
      simp only [ev0, ev, evV, List.cons_append, List.nil_append, List.getD_cons_zero, List.getD_cons_succ, List.map_cons, List.map_nil, iOf, bOf, sOf, pOf, slLen, slBase, cmpI, arI, Value.ite_bool, int_beq, int_bne, ite_band, ite_bor] at g
      refine ⟨fun g0 => ?_, fun g0 => ?_⟩
      · simp only [ev0, ev, evV, List.cons_append, List.nil_append, List.getD_cons_zero, List.getD_cons_succ, List.map_cons, List.map_nil, iOf, bOf, sOf, pOf, slLen, slBase, cmpI, arI, Value.ite_bool, int_beq, int_bne, ite_band, ite_bor, decide_eq_true_eq] at g0
        refine den_gives [.bool (constOk e.const)] cb_core_isConst (isConst_gives e.const _ H3 (Dat.Rep.le h3 _ hx.const)) rfl pendNil fun H4 h4 => ⟨?_, PH.le_trans h3 h4⟩
        unfold frmB
        rw [hb1, hb2, h, g]
        simp only [Bool.false_eq_true, if_false, if_pos g0]; rfl
      simp only [ev0, ev, evV, List.cons_append, List.nil_append, List.getD_cons_zero, List.getD_cons_succ, List.map_cons, List.map_nil, iOf, bOf, sOf, pOf, slLen, slBase, cmpI, arI, Value.ite_bool, int_beq, int_bne, ite_band, ite_bor, decide_eq_false_iff_not] at g0
      have hfr : frmB e = ((decide (e.kind ≠ 10) || !((e.kids.take e.names.length).any fun k => decide (k.kind ≠ 5))) && isDat0 e.const) := by
        unfold frmB
        rw [hb1, hb2, h, g]
        simp only [Bool.false_eq_true, if_false, if_neg g0]
      rw [hfr]
      refine ⟨fun vs H' => vs = [.bool (decide (e.kind ≠ 10) || !((e.kids.take e.names.length).any fun k => decide (k.kind ≠ 5)))] ∧ PH.le H H', ?_, ?_⟩
      · rintro vs H4 _ ⟨rfl, h4⟩
        refine ⟨fun vs H' => vs = [.bool ((decide (e.kind ≠ 10) || !((e.kids.take e.names.length).any fun k => decide (k.kind ≠ 5))) && isDat0 e.const)] ∧ PH.le H H', ?_, ?_⟩
        · rintro vs H5 _ ⟨rfl, h5⟩
          exact ⟨rfl, h5⟩
        refine ⟨fun w => ?_, fun w => ?_⟩
        · simp only [ev0, ev, evV, List.cons_append, List.nil_append, List.getD_cons_zero, List.getD_cons_succ, List.map_cons, List.map_nil, iOf, bOf, sOf, pOf, slLen, slBase, cmpI, arI, Value.ite_bool, int_beq, int_bne, ite_band, ite_bor] at w
          have he := Equal_gives e.const (.mk 0 0 [] []) _ _ H4 (Dat.Rep.le h4 _ hx.const) (dat0_rep H4)
          rw [isDat0_dec] at he
          refine den_gives [.bool (isDat0 e.const)] cb_data_Equal he rfl pendNil fun H5 h5 => ⟨_, lookup_hit, ?_, PH.le_trans h4 h5⟩
          rw [w]; rfl
        · simp only [ev0, ev, evV, List.cons_append, List.nil_append, List.getD_cons_zero, List.getD_cons_succ, List.map_cons, List.map_nil, iOf, bOf, sOf, pOf, slLen, slBase, cmpI, arI, Value.ite_bool, int_beq, int_bne, ite_band, ite_bor] at w
          refine ⟨_, lookup_hit, ?_, h4⟩
          rw [w]; rfl
      · -- the kids of a fix
        have hlen : ¬ (e.kind ≠ 10) → (e.kids.length : Int) = (e.names.length : Int) + 1 := by
          intro h10
          have h10 : e.kind = 10 := Decidable.not_not.1 h10
          have hb := hb1
          rw [h] at hb
          have hs : shpX e = (false, true, IntKind.i64.wrap ((e.names.length : Int) + 1), IntKind.i64.wrap ((e.names.length : Int) + 1), decide ((0 : Int) < e.names.length)) := by unfold shpX; simp [h10]
          rw [hs] at hb
          simp only [Bool.or_eq_false_iff, decide_eq_false_iff_not] at hb
          obtain ⟨⟨⟨⟨_, b1⟩, b2⟩, _⟩, _⟩ := hb
          by_cases hx : e.names.length = 9223372036854775807
          · rw [hx] at b1 b2
            have : IntKind.i64.wrap (((9223372036854775807 : Nat) : Int) + 1) = -9223372036854775808 := by decide
            rw [this] at b1 b2
            omega
          · rw [w64 (by omega) (by omega)] at b1 b2
            omega
        refine ⟨fun w => ?_, fun w => ?_, fun w => ?_⟩
        · have w' : ¬ (e.kind ≠ 10) := by
            have := w _ (List.mem_singleton.2 rfl)
            simp only [ev0, ev, evV, List.cons_append, List.nil_append, List.getD_cons_zero, List.getD_cons_succ, List.map_cons, List.map_nil, iOf, bOf, sOf, pOf, slLen, slBase, cmpI, arI, Value.ite_bool, int_beq, int_bne, ite_band, ite_bor, decide_eq_false_iff_not] at this
            exact this
          have := hlen w'
          simp only [Chk.holds, ev0, ev, evV, List.cons_append, List.nil_append, List.getD_cons_zero, List.getD_cons_succ, List.map_cons, List.map_nil, iOf, bOf, sOf, pOf, slLen, slBase, cmpI, arI, Value.ite_bool, int_beq, int_bne, ite_band, ite_bor, slCap]; omega
        · simp only [ev0, ev, evV, List.cons_append, List.nil_append, List.getD_cons_zero, List.getD_cons_succ, List.map_cons, List.map_nil, iOf, bOf, sOf, pOf, slLen, slBase, cmpI, arI, Value.ite_bool, int_beq, int_bne, ite_band, ite_bor, decide_eq_true_eq] at w
          refine ⟨_, lookup_hit, ?_, h3⟩
          rw [decide_eq_true w]; rfl
        · simp only [ev0, ev, evV, List.cons_append, List.nil_append, List.getD_cons_zero, List.getD_cons_succ, List.map_cons, List.map_nil, iOf, bOf, sOf, pOf, slLen, slBase, cmpI, arI, Value.ite_bool, int_beq, int_bne, ite_band, ite_bor, decide_eq_false_iff_not] at w
          have hl := hlen w
          have hcut := (hx.kids.le h3).cut (a := 0) (b := e.names.length) (by omega) (by omega)
          rw [List.drop_zero] at hcut
          refine den_gives [.bool ((e.kids.take e.names.length).any fun k => decide (k.kind ≠ 5))] cb_slices_ContainsFunc___api_Expr_api_Expr_ ?_ rfl pendNil fun H4 h4 => ⟨_, lookup_hit, ?_, PH.le_trans h3 h4⟩
          · have := ContainsLam_gives _ _ H3 hcut
            simp only [ev0, ev, evV, List.cons_append, List.nil_append, List.getD_cons_zero, List.getD_cons_succ, List.map_cons, List.map_nil, iOf, bOf, sOf, pOf, slLen, slBase, cmpI, arI, Value.ite_bool, int_beq, int_bne, ite_band, ite_bor]
            exact this
          · rw [decide_eq_false w]
            simp only [ev0, ev, evV, List.cons_append, List.nil_append, List.getD_cons_zero, List.getD_cons_succ, List.map_cons, List.map_nil, iOf, bOf, sOf, pOf, slLen, slBase, cmpI, arI, Value.ite_bool, int_beq, int_bne, ite_band, ite_bor, Bool.false_or]
    · refine ⟨fun g => ?_, fun g => ?_⟩
      · simp only [ev0, ev, evV, List.cons_append, List.nil_append, List.getD_cons_zero, List.getD_cons_succ, List.map_cons, List.map_nil, iOf, bOf, sOf, pOf, slLen, slBase, cmpI, arI, Value.ite_bool, int_beq, int_bne, ite_band, ite_bor, Bool.and_eq_true, decide_eq_true_eq] at g
        refine den_gives [.bool (nameOk e.name)] cb_data_Name (Name_gives e.name hx.name H2) rfl pendNil fun H3 h3 => ⟨_, lookup_hit, ?_, PH.le_trans h2 h3⟩
        rw [← hb2]
        simp only [ev0, ev, evV, List.cons_append, List.nil_append, List.getD_cons_zero, List.getD_cons_succ, List.map_cons, List.map_nil, iOf, bOf, sOf, pOf, slLen, slBase, cmpI, arI, Value.ite_bool, int_beq, int_bne, ite_band, ite_bor, txt_neq, g.1, decide_eq_true g.2]
        cases nameOk e.name <;> rfl
      · refine ⟨_, lookup_hit, ?_, h2⟩
        rw [← hb2]
        simp only [ev0, ev, evV, List.cons_append, List.nil_append, List.getD_cons_zero, List.getD_cons_succ, List.map_cons, List.map_nil, iOf, bOf, sOf, pOf, slLen, slBase, cmpI, arI, Value.ite_bool, int_beq, int_bne, ite_band, ite_bor, txt_neq] at g ⊢
        cases h1 : (shpX e).1
        · rfl
        · rw [h1] at g
          simp only [Bool.true_and] at g
          simp [g]
  · refine ⟨fun g => ?_, fun g => ?_⟩
    · refine ⟨_, lookup_hit, ?_, h1⟩
      simp only [ev0, ev, evV, List.cons_append, List.nil_append, List.getD_cons_zero, List.getD_cons_succ, List.map_cons, List.map_nil, iOf, bOf, sOf, pOf, slLen, slBase, cmpI, arI, Value.ite_bool, int_beq, int_bne, ite_band, ite_bor] at g
      rw [← hb1]
      simp only [ev0, ev, evV, List.cons_append, List.nil_append, List.getD_cons_zero, List.getD_cons_succ, List.map_cons, List.map_nil, iOf, bOf, sOf, pOf, slLen, slBase, cmpI, arI, Value.ite_bool, int_beq, int_bne, ite_band, ite_bor]
      simp only [gt_iff_lt] at g
      rw [g]; rfl
    · refine den_gives [.bool (namesOk e.names)] cb_core_names (CNames_gives e.names _ H1 (hx.names.le h1)) rfl pendNil fun H2 h2 => ⟨_, lookup_hit, ?_, PH.le_trans h1 h2⟩
      rw [← hb1]
      simp only [ev0, ev, evV, List.cons_append, List.nil_append, List.getD_cons_zero, List.getD_cons_succ, List.map_cons, List.map_nil, iOf, bOf, sOf, pOf, slLen, slBase, cmpI, arI, Value.ite_bool, int_beq, int_bne, ite_band, ite_bor] at g ⊢
      simp only [gt_iff_lt] at g
      rw [g]; rfl
theorem Xp.chk_eq (t : Bool) (e : Xp) (deep seen : Nat) : e.chk t deep seen = if seen = 4096 then (seen, 62) else if 250 ≤ deep then (seen + 1, 61) else if (if t then exFormP e else exForm e) = false then (seen + 1, 60) else Xps.chk t e.kids (deep + 1) (seen + 1) := by
  cases e; simp only [Xp.chk, Xp.kids]
mutual
theorem Xp.chk_le (t : Bool) : ∀ (e : Xp) (deep seen : Nat), seen ≤ 4096 → (e.chk t deep seen).1 ≤ 4096
  | .mk k s ns d l, deep, seen, h => by
    simp only [Xp.chk]
    repeat' split
    all_goals first
      | exact h
      | exact Xps.chk_le t l _ _ (by omega)
      | (show seen + 1 ≤ 4096; omega)
theorem Xps.chk_le (t : Bool) : ∀ (l : List Xp) (deep seen : Nat), seen ≤ 4096 → (Xps.chk t l deep seen).1 ≤ 4096
  | [], _, _, h => by simpa only [Xps.chk] using h
  | e :: l, deep, seen, h => by
    simp only [Xps.chk]
    split
    · exact Xp.chk_le t e deep seen h
    · exact Xps.chk_le t l deep _ (Xp.chk_le t e deep seen h)
end
theorem CCheck_tri : ∀ (d : Xp) (cs : List Value) (H : PH) (wr deep seen : Nat) (T : TypeId), d.Rep (H.del wr) cs → H wr = some (.cells #[.int .i64 seen] T (0, 0)) → deep ≤ 250 → seen ≤ 4096 →
    Tri Tryz.prog n_core_check #[.agg cs.toArray, .int .i64 deep, .pointer (some ⟨wr, 0, none⟩)] H fun e H' => e = .returned (.int .i64 (d.chk true deep seen).2) ∧ H' wr = some (.cells #[.int .i64 (d.chk true deep seen).1] T (0, 0)) ∧ PH.le (H.del wr) (H'.del wr) := by
  refine Xp.ind ?_
  intro d ih cs H wr deep seen T hd hwr hdeep hseen
  have hd' := hd
  obtain ⟨nb, db, kb, nc, dc, kc, rfl, hx⟩ := Xp.Rep.open hd
  have hs := hx.kids
  have hlen := hs.max
  simp only [maxLen] at hlen
  rw [Xp.chk_eq]
  refine tri_core_check (exVs d nb db kb nc dc kc ++ [.int .i64 deep, .pointer (some ⟨wr, 0, none⟩)]) (by kernel_rfl) (by kernel_rfl) ?_
  have hrow : rowAt H (some ⟨wr, 0, none⟩) [.int .i64 seen] := ⟨_, rfl, fun i v hi => by
    rw [Addr.add_plain, PH.cell_at hwr]
    cases i with
    | zero => simpa using hi
    | succ i => simp at hi⟩
  have hs1 : IntKind.i64.wrap ((seen : Int) + 1) = ((seen + 1 : Nat) : Int) := by rw [w64 (by omega) (by omega)]; omega
  refine ⟨fun _ => rfl, [.int .i64 seen], rfl, hrow, ?_⟩
  refine ⟨fun h0 => ?_, fun h0 => ?_⟩
  · simp only [ev0, ev, evV, List.cons_append, List.nil_append, List.getD_cons_zero, List.getD_cons_succ, List.map_cons, List.map_nil, iOf, bOf, sOf, pOf, slLen, slBase, cmpI, arI, Value.ite_bool, int_beq, int_bne, ite_band, ite_bor, decide_eq_true_eq] at h0
    have h0' : seen = 4096 := by omega
    refine ⟨?_, ?_, PH.le_refl _⟩
    · rw [if_pos h0']; rfl
    · rw [if_pos h0']; exact hwr
  simp only [ev0, ev, evV, List.cons_append, List.nil_append, List.getD_cons_zero, List.getD_cons_succ, List.map_cons, List.map_nil, iOf, bOf, sOf, pOf, slLen, slBase, cmpI, arI, Value.ite_bool, int_beq, int_bne, ite_band, ite_bor, decide_eq_false_iff_not] at h0
  rw [if_neg (show ¬ seen = 4096 by omega)]
  refine ⟨[.int .i64 seen], rfl, hrow, ⟨wr, 0, none⟩, rfl, ?_⟩
  refine wpS_storeCells _ 0 0 #[.int .i64 seen] H hwr (by simp) (by simp [ev0, ev, oneC]) ?_
  have hsp : splice #[Value.int .i64 seen] (0 + 0) (List.map (ev0 (exVs d nb db kb nc dc kc ++ [.int .i64 deep, .pointer (some ⟨wr, 0, none⟩)] ++ [.int .i64 seen] ++ [.int .i64 seen])) [.ar .add .i64 (.atom 11) (.int .i64 1)]) = #[.int .i64 ((seen + 1 : Nat) : Int)] := by
    simp only [ev0, ev, evV, List.cons_append, List.nil_append, List.getD_cons_zero, List.getD_cons_succ, List.map_cons, List.map_nil, iOf, bOf, sOf, pOf, slLen, slBase, cmpI, arI, Value.ite_bool, int_beq, int_bne, ite_band, ite_bor, hs1]; rfl
  rw [hsp]
  have hw1 : (H.upd wr (.cells #[.int .i64 ((seen + 1 : Nat) : Int)] T (0, 0))) wr = some (.cells #[.int .i64 ((seen + 1 : Nat) : Int)] T (0, 0)) := PH.upd_same
  have hdl : PH.le (H.del wr) ((H.upd wr (.cells #[.int .i64 ((seen + 1 : Nat) : Int)] T (0, 0))).del wr) := by rw [PH.del_upd]; exact PH.le_refl _
  generalize H.upd wr (.cells #[.int .i64 ((seen + 1 : Nat) : Int)] T (0, 0)) = H1 at hw1 hdl ⊢
  refine ⟨fun h3 => ?_, fun h3 => ?_⟩
  · simp only [ev0, ev, evV, List.cons_append, List.nil_append, List.getD_cons_zero, List.getD_cons_succ, List.map_cons, List.map_nil, iOf, bOf, sOf, pOf, slLen, slBase, cmpI, arI, Value.ite_bool, int_beq, int_bne, ite_band, ite_bor, decide_eq_true_eq] at h3
    have h3' : 250 ≤ deep := by omega
    refine ⟨?_, ?_, hdl⟩
    · rw [if_pos h3']; rfl
    · rw [if_pos h3']; exact hw1
  simp only [ev0, ev, evV, List.cons_append, List.nil_append, List.getD_cons_zero, List.getD_cons_succ, List.map_cons, List.map_nil, iOf, bOf, sOf, pOf, slLen, slBase, cmpI, arI, Value.ite_bool, int_beq, int_bne, ite_band, ite_bor, decide_eq_false_iff_not] at h3
  rw [if_neg (show ¬ 250 ≤ deep by omega)]
  refine den_gives [.bool (exFormP d)] cb_core_form (CForm_gives d _ H1 (Xp.Rep.le (PH.le_trans hdl (PH.del_le _ _)) d hd')) rfl pendNil fun H3 h4 => ?_
  have hw3 := h4 _ _ hw1
  have hd3 := PH.le_trans hdl (PH.del_mono h4 wr)
  simp only [if_true]
  refine ⟨fun h5 => ?_, fun h5 => ?_⟩
  · simp only [ev0, ev, evV, List.cons_append, List.nil_append, List.getD_cons_zero, List.getD_cons_succ, List.map_cons, List.map_nil, iOf, bOf, sOf, pOf, slLen, slBase, cmpI, arI, Value.ite_bool, int_beq, int_bne, ite_band, ite_bor, Bool.not_eq_true'] at h5
    refine ⟨?_, ?_, hd3⟩
    · rw [if_pos h5]; rfl
    · rw [if_pos h5]; exact hw3
  simp only [ev0, ev, evV, List.cons_append, List.nil_append, List.getD_cons_zero, List.getD_cons_succ, List.map_cons, List.map_nil, iOf, bOf, sOf, pOf, slLen, slBase, cmpI, arI, Value.ite_bool, int_beq, int_bne, ite_band, ite_bor, Bool.not_eq_false'] at h5
  rw [if_neg (show ¬ exFormP d = false by rw [h5]; simp)]
  refine ⟨fun n vs H' => ∃ (k s : Nat) (x : Int), vs = [.int .i64 x, .int .i64 k] ∧ k + n = d.kids.length ∧ s ≤ 4096 ∧ Xps.chk true d.kids (deep + 1) (seen + 1) = Xps.chk true (d.kids.drop k) (deep + 1) s ∧ H' wr = some (.cells #[.int .i64 s] T (0, 0)) ∧ PH.le (H.del wr) (H'.del wr),
    ⟨d.kids.length, 0, seen + 1, 0, rfl, by omega, by omega, by simp, hw3, hd3⟩, ?_⟩
  rintro n vs H' _ ⟨k, s, x, rfl, hkn, hs4, heq, hw, hle⟩
  refine ⟨fun h6 => ?_, fun h6 => ?_⟩
  · simp only [ev0, ev, evV, List.cons_append, List.nil_append, List.getD_cons_zero, List.getD_cons_succ, List.map_cons, List.map_nil, iOf, bOf, sOf, pOf, slLen, slBase, cmpI, arI, Value.ite_bool, int_beq, int_bne, ite_band, ite_bor, decide_eq_true_eq] at h6
    have hkl : k < d.kids.length := by omega
    obtain ⟨e, he⟩ : ∃ e, d.kids[k]? = some e := ⟨_, List.getElem?_eq_getElem hkl⟩
    obtain ⟨g1, _, ces, g2, g3⟩ := (hs.le hle).get he
    have hd1 : IntKind.i64.wrap ((deep : Int) + 1) = ((deep + 1 : Nat) : Int) := by rw [w64 (by omega) (by omega)]; omega
    refine ⟨fun _ => ?_, ?_⟩
    · simp only [Chk.holds, ev0, ev, evV, List.cons_append, List.nil_append, List.getD_cons_zero, List.getD_cons_succ, List.map_cons, List.map_nil, iOf, bOf, sOf, pOf, slLen, slBase, cmpI, arI, Value.ite_bool, int_beq, int_bne, ite_band, ite_bor]; exact ⟨g1, by omega, by omega⟩
    have htags := Xp.Rep.tags g2
    have hcall := ih e (List.mem_of_getElem? he) ces H' wr (deep + 1) s T g2 hw (by omega) hs4
    obtain ⟨nb', db', kb', nc', dc', kc', rfl, _⟩ := Xp.Rep.open g2
    refine ⟨_, htags, ?_, ?_⟩
    · simp only [ev0, ev, evV, List.cons_append, List.nil_append, List.getD_cons_zero, List.getD_cons_succ, List.map_cons, List.map_nil, iOf, bOf, sOf, pOf, slLen, slBase, cmpI, arI, Value.ite_bool, int_beq, int_bne, ite_band, ite_bor]; exact rowAt_le (PH.del_le _ _) g3
    refine den_call (R := fun e' H'' => e' = .returned (.int .i64 (e.chk true (deep + 1) s).2) ∧ H'' wr = some (.cells #[.int .i64 (e.chk true (deep + 1) s).1] T (0, 0)) ∧ PH.le (H'.del wr) (H''.del wr)) cb_core_check ?_ ?_
    · simp only [ev0, ev, evV, List.cons_append, List.nil_append, List.getD_cons_zero, List.getD_cons_succ, List.map_cons, List.map_nil, iOf, bOf, sOf, pOf, slLen, slBase, cmpI, arI, Value.ite_bool, int_beq, int_bne, ite_band, ite_bor, hd1]
      exact hcall
    rintro e' H4 ⟨rfl, hw4, hl4⟩
    refine ⟨_, [.int .i64 (e.chk true (deep + 1) s).2], rfl, rfl, rfl, pendNil, ?_⟩
    have hle4 := PH.le_trans hle hl4
    rw [drop_get he] at heq
    simp only [Xps.chk] at heq
    refine ⟨fun h7 => ?_, fun h7 => ?_⟩
    · simp only [ev0, ev, evV, List.cons_append, List.nil_append, List.getD_cons_zero, List.getD_cons_succ, List.map_cons, List.map_nil, iOf, bOf, sOf, pOf, slLen, slBase, cmpI, arI, Value.ite_bool, int_beq, int_bne, ite_band, ite_bor, decide_eq_true_eq] at h7
      rw [if_pos h7] at heq
      refine ⟨?_, ?_, hle4⟩
      · rw [heq]; rfl
      · rw [heq]; exact hw4
    · simp only [ev0, ev, evV, List.cons_append, List.nil_append, List.getD_cons_zero, List.getD_cons_succ, List.map_cons, List.map_nil, iOf, bOf, sOf, pOf, slLen, slBase, cmpI, arI, Value.ite_bool, int_beq, int_bne, ite_band, ite_bor, decide_eq_false_iff_not, ne_eq, Decidable.not_not] at h7
      rw [if_neg (by simp [h7])] at heq
      refine ⟨_, lookup_hit, n - 1, by omega, k + 1, (e.chk true (deep + 1) s).1, x, ?_, by omega, Xp.chk_le true e _ _ hs4, heq, hw4, hle4⟩
      simp only [ev0, ev, evV, List.cons_append, List.nil_append, List.getD_cons_zero, List.getD_cons_succ, List.map_cons, List.map_nil, iOf, bOf, sOf, pOf, slLen, slBase, cmpI, arI, Value.ite_bool, int_beq, int_bne, ite_band, ite_bor]
      rw [w64 (by omega) (by omega)]
      rfl
  · simp only [ev0, ev, evV, List.cons_append, List.nil_append, List.getD_cons_zero, List.getD_cons_succ, List.map_cons, List.map_nil, iOf, bOf, sOf, pOf, slLen, slBase, cmpI, arI, Value.ite_bool, int_beq, int_bne, ite_band, ite_bor, decide_eq_false_iff_not] at h6
    have : k = d.kids.length := by omega
    subst this
    rw [List.drop_length] at heq
    simp only [Xps.chk] at heq
    refine ⟨?_, ?_, hle⟩
    · rw [heq]; rfl
    · rw [heq]; exact hw
theorem CCheckF_gives (d : Xp) (cs : List Value) (H : PH) (hd : d.Rep H cs) : Gives Tryz.prog n_core_Check [.agg cs.toArray] H (.int .i64 (d.chk true 0 0).2) := by
  have hd' := hd
  obtain ⟨nb, db, kb, nc, dc, kc, rfl, hx⟩ := Xp.Rep.open hd
  refine tri_core_Check (exVs d nb db kb nc dc kc) (by kernel_rfl) (by kernel_rfl) ?_
  intro r hr
  have hw : (H.upd r (.cells #[.int .i64 ((0 : Nat) : Int)] 3 (0, 0))) r = some (.cells #[.int .i64 ((0 : Nat) : Int)] 3 (0, 0)) := PH.upd_same
  have hle : PH.le H ((H.upd r (.cells #[.int .i64 ((0 : Nat) : Int)] 3 (0, 0))).del r) := PH.del_new H r _ hr
  refine den_call cb_core_check (CCheck_tri d _ _ r 0 0 3 (Xp.Rep.le hle d hd') hw (by omega) (by omega)) ?_
  rintro e H' ⟨rfl, _, h2⟩
  exact ⟨_, [_], rfl, rfl, rfl, pendNil, rfl, PH.le_trans hle (PH.le_trans h2 (PH.del_le _ _))⟩
end Go.Proofs.YtibinelkmlcmgaaGreat.Vc
/-
  CORE: new names: the program's functions that note names and give the next one.
-/
namespace Go.Proofs.YtibinelkmlcmgaaGreat.Vc
open Go Go.Sort

theorem uMapSI : Tryz.prog.underlying 75 = some (.map 9 3) := by kernel_rfl
theorem kdStr : Tryz.prog.underlying 9 = some (Key.kd (List UInt8)) := by kernel_rfl
theorem zInt : (Tryz.prog.info? 3).map (·.zero) = some (some (.int .i64 0)) := by kernel_rfl
def putsM (m : List (List UInt8 × Value)) (l : List (List UInt8)) : List (List UInt8 × Value) := l.foldl (fun m s => putM m s (.int .i64 1)) m
theorem putsM_append (m : List (List UInt8 × Value)) (a b : List (List UInt8)) : putsM m (a ++ b) = putsM (putsM m a) b := by unfold putsM; rw [List.foldl_append]
theorem le_updOff {S H : PH} (h : PH.le S H) {r : Nat} (hr : S r = none) (o : Obj) : PH.le S (H.upd r o) := fun k x hk => by
  have e : k ≠ r := fun e => by rw [e, hr] at hk; cases hk
  rw [PH.upd_other e]; exact h k x hk
end Go.Proofs.YtibinelkmlcmgaaGreat.Vc
/-
  CORE: two expressions the same.
-/
namespace Go.Proofs.YtibinelkmlcmgaaGreat.Vc
open Go

/-! ### two expressions -/
theorem decNot {p : Prop} [Decidable p] (h : ¬ p) : true = decide (¬ p) := (decide_eq_true h).symm
noncomputable instance decXp : DecidableEq Xp := fun a b => Classical.propDecidable (a = b)
noncomputable instance decXps : DecidableEq (List Xp) := fun a b => Classical.propDecidable (a = b)
theorem XSame_gives : ∀ (a b : Xp) (ca cb : List Value) (H : PH), a.Rep H ca → b.Rep H cb → Gives Tryz.prog n_scrimshawref06_Same [.agg ca.toArray, .agg cb.toArray] H (.bool (decide (a = b))) := by
  refine Xp.ind fun a ih b ca cb H ha hb => ?_
  obtain ⟨nb, db, kb, nc, dc, kc, rfl, hx⟩ := Xp.Rep.open ha
  obtain ⟨nb2, db2, kb2, nc2, dc2, kc2, rfl, hy⟩ := Xp.Rep.open hb
  have m1 := hx.kids.max
  have m2 := hy.kids.max
  simp only [maxLen] at m1 m2
  refine tri_scrimshawref06_Same (exVs a nb db kb nc dc kc ++ exVs b nb2 db2 kb2 nc2 dc2 kc2) (by kernel_rfl) (by kernel_rfl) ?_
  refine ⟨fun vs H' => vs = [.bool (decide (¬ (a.kind = b.kind ∧ a.name = b.name ∧ a.names = b.names ∧ a.const = b.const ∧ a.kids.length = b.kids.length)))] ∧ PH.le H H', ?_, ?_⟩
  · rintro vs H1 _ ⟨rfl, l1⟩
    refine ⟨fun g => ?_, fun g => ?_⟩
    · simp only [ev0, ev, evV, List.cons_append, List.nil_append, List.getD_cons_zero, List.getD_cons_succ, List.map_cons, List.map_nil, iOf, bOf, sOf, pOf, slLen, slBase, cmpI, arI, Value.ite_bool, int_beq, int_bne, ite_band, ite_bor, decide_eq_true_eq] at g
      refine ⟨?_, l1⟩
      have : ¬ a = b := fun e => g (by subst e; simp)
      simp only [ev0, ev, evV, List.cons_append, List.nil_append, List.getD_cons_zero, List.getD_cons_succ, List.map_cons, List.map_nil, iOf, bOf, sOf, pOf, slLen, slBase, cmpI, arI, Value.ite_bool, int_beq, int_bne, ite_band, ite_bor, decide_eq_false this]
    simp only [ev0, ev, evV, List.cons_append, List.nil_append, List.getD_cons_zero, List.getD_cons_succ, List.map_cons, List.map_nil, iOf, bOf, sOf, pOf, slLen, slBase, cmpI, arI, Value.ite_bool, int_beq, int_bne, ite_band, ite_bor, decide_eq_false_iff_not, Decidable.not_not] at g
    obtain ⟨h1, h2, h3, h4, h5⟩ := g
    have heq : (a = b) ↔ a.kids = b.kids := by rw [Xp.eq_iff]; simp [h1, h2, h3, h4]
    refine ⟨fun n vs H' => ∃ k : Nat, vs = [.bool false, .int .i64 k] ∧ k + n = a.kids.length ∧ a.kids.take k = b.kids.take k ∧ PH.le H H', ⟨a.kids.length, 0, rfl, by omega, by simp, l1⟩, ?_⟩
    rintro n vs H2 _ ⟨k, rfl, hkn, htk, l2⟩
    refine ⟨fun g => ?_, fun g => ?_⟩
    · simp only [ev0, ev, evV, List.cons_append, List.nil_append, List.getD_cons_zero, List.getD_cons_succ, List.map_cons, List.map_nil, iOf, bOf, sOf, pOf, slLen, slBase, cmpI, arI, Value.ite_bool, int_beq, int_bne, ite_band, ite_bor, decide_eq_true_eq] at g
      obtain ⟨e, he⟩ : ∃ e, a.kids[k]? = some e := ⟨_, List.getElem?_eq_getElem (show k < a.kids.length by omega)⟩
      obtain ⟨e', he'⟩ : ∃ e, b.kids[k]? = some e := ⟨_, List.getElem?_eq_getElem (show k < b.kids.length by omega)⟩
      obtain ⟨g1, _, ces, g2, g3⟩ := (hx.kids.le l2).get he
      obtain ⟨g1', _, ces', g2', g3'⟩ := (hy.kids.le l2).get he'
      have hcall := ih e (List.mem_of_getElem? he) e' ces ces' H2 g2 g2'
      have htags := Xp.Rep.tags g2
      have htags' := Xp.Rep.tags g2'
      obtain ⟨p1, p2, p3, p4, p5, p6, rfl, _⟩ := Xp.Rep.open g2
      obtain ⟨q1, q2, q3, q4, q5, q6, rfl, _⟩ := Xp.Rep.open g2'
      refine ⟨fun _ => ?_, _, htags, by simp only [ev0, ev, evV, List.cons_append, List.nil_append, List.getD_cons_zero, List.getD_cons_succ, List.map_cons, List.map_nil, iOf, bOf, sOf, pOf, slLen, slBase, cmpI, arI, Value.ite_bool, int_beq, int_bne, ite_band, ite_bor]; exact g3, fun _ => ?_, _, htags', by simp only [ev0, ev, evV, List.cons_append, List.nil_append, List.getD_cons_zero, List.getD_cons_succ, List.map_cons, List.map_nil, iOf, bOf, sOf, pOf, slLen, slBase, cmpI, arI, Value.ite_bool, int_beq, int_bne, ite_band, ite_bor]; exact g3', ?_⟩
      · simp only [Chk.holds, ev0, ev, evV, List.cons_append, List.nil_append, List.getD_cons_zero, List.getD_cons_succ, List.map_cons, List.map_nil, iOf, bOf, sOf, pOf, slLen, slBase, cmpI, arI, Value.ite_bool, int_beq, int_bne, ite_band, ite_bor]; exact ⟨g1, by omega, by omega⟩
      · simp only [Chk.holds, ev0, ev, evV, List.cons_append, List.nil_append, List.getD_cons_zero, List.getD_cons_succ, List.map_cons, List.map_nil, iOf, bOf, sOf, pOf, slLen, slBase, cmpI, arI, Value.ite_bool, int_beq, int_bne, ite_band, ite_bor]; exact ⟨g1', by omega, by omega⟩
      refine den_gives [.bool (decide (e = e'))] cb_scrimshawref06_Same hcall rfl pendNil fun H3 l3 => ⟨fun h6 => ?_, fun h6 => ?_⟩
      · simp only [ev0, ev, evV, List.cons_append, List.nil_append, List.getD_cons_zero, List.getD_cons_succ, List.map_cons, List.map_nil, iOf, bOf, sOf, pOf, slLen, slBase, cmpI, arI, Value.ite_bool, int_beq, int_bne, ite_band, ite_bor, Bool.not_eq_true', decide_eq_false_iff_not] at h6
        refine ⟨?_, PH.le_trans l2 l3⟩
        have : ¬ a = b := fun x => h6 (by subst x; rw [he] at he'; exact Option.some.inj he')
        simp only [ev0, ev, evV, List.cons_append, List.nil_append, List.getD_cons_zero, List.getD_cons_succ, List.map_cons, List.map_nil, iOf, bOf, sOf, pOf, slLen, slBase, cmpI, arI, Value.ite_bool, int_beq, int_bne, ite_band, ite_bor, decide_eq_false this]
      · simp only [ev0, ev, evV, List.cons_append, List.nil_append, List.getD_cons_zero, List.getD_cons_succ, List.map_cons, List.map_nil, iOf, bOf, sOf, pOf, slLen, slBase, cmpI, arI, Value.ite_bool, int_beq, int_bne, ite_band, ite_bor, Bool.not_eq_false', decide_eq_true_eq] at h6
        refine ⟨_, lookup_hit, n - 1, by omega, k + 1, ?_, by omega, take_eq_next htk he he' h6, PH.le_trans l2 l3⟩
        simp only [ev0, ev, evV, List.cons_append, List.nil_append, List.getD_cons_zero, List.getD_cons_succ, List.map_cons, List.map_nil, iOf, bOf, sOf, pOf, slLen, slBase, cmpI, arI, Value.ite_bool, int_beq, int_bne, ite_band, ite_bor]
        rw [w64 (by omega) (by omega)]
        rfl
    · simp only [ev0, ev, evV, List.cons_append, List.nil_append, List.getD_cons_zero, List.getD_cons_succ, List.map_cons, List.map_nil, iOf, bOf, sOf, pOf, slLen, slBase, cmpI, arI, Value.ite_bool, int_beq, int_bne, ite_band, ite_bor, decide_eq_false_iff_not] at g
      refine ⟨?_, l2⟩
      have : a = b := heq.2 (by rw [List.take_of_length_le (by omega), List.take_of_length_le (by omega)] at htk; exact htk)
      simp only [ev0, ev, evV, List.cons_append, List.nil_append, List.getD_cons_zero, List.getD_cons_succ, List.map_cons, List.map_nil, iOf, bOf, sOf, pOf, slLen, slBase, cmpI, arI, Value.ite_bool, int_beq, int_bne, ite_band, ite_bor, decide_eq_true this]
  · refine ⟨fun g => ?_, fun g => ?_⟩
    · refine ⟨_, lookup_hit, ?_, PH.le_refl H⟩
      have : ¬ (a.kind = b.kind ∧ a.name = b.name) := fun ⟨h1, h2⟩ => by simp [ev0, ev, evV, List.cons_append, List.nil_append, List.getD_cons_zero, List.getD_cons_succ, List.map_cons, List.map_nil, iOf, bOf, sOf, pOf, slLen, slBase, cmpI, arI, Value.ite_bool, int_beq, int_bne, ite_band, ite_bor, txt_neq, h1, h2] at g
      simp only [ev0, ev, evV, List.cons_append, List.nil_append, List.getD_cons_zero, List.getD_cons_succ, List.map_cons, List.map_nil, iOf, bOf, sOf, pOf, slLen, slBase, cmpI, arI, Value.ite_bool, int_beq, int_bne, ite_band, ite_bor]
      congr 2
      exact decNot fun h => this ⟨h.1, h.2.1⟩
    · have h12 : a.kind = b.kind ∧ a.name = b.name := by
        simp only [ev0, ev, evV, List.cons_append, List.nil_append, List.getD_cons_zero, List.getD_cons_succ, List.map_cons, List.map_nil, iOf, bOf, sOf, pOf, slLen, slBase, cmpI, arI, Value.ite_bool, int_beq, int_bne, ite_band, ite_bor, txt_neq] at g
        by_cases h1 : a.kind = b.kind
        · refine ⟨h1, ?_⟩
          by_cases h2 : a.name = b.name
          · exact h2
          · simp [h1, h2] at g
        · simp [h1] at g
      refine den_gives [.bool (decide (a.names = b.names))] cb_scrimshawref06_SameTexts (SameTexts_gives _ _ _ _ H hx.names hy.names) rfl pendNil fun H1 l1 => ⟨fun g3 => ?_, fun g3 => ?_⟩
      · simp only [ev0, ev, evV, List.cons_append, List.nil_append, List.getD_cons_zero, List.getD_cons_succ, List.map_cons, List.map_nil, iOf, bOf, sOf, pOf, slLen, slBase, cmpI, arI, Value.ite_bool, int_beq, int_bne, ite_band, ite_bor, Bool.not_eq_true', decide_eq_false_iff_not] at g3
        refine ⟨_, lookup_hit, ?_, l1⟩
        simp only [ev0, ev, evV, List.cons_append, List.nil_append, List.getD_cons_zero, List.getD_cons_succ, List.map_cons, List.map_nil, iOf, bOf, sOf, pOf, slLen, slBase, cmpI, arI, Value.ite_bool, int_beq, int_bne, ite_band, ite_bor]
        congr 2
        exact decNot fun h => g3 h.2.2.1
      · simp only [ev0, ev, evV, List.cons_append, List.nil_append, List.getD_cons_zero, List.getD_cons_succ, List.map_cons, List.map_nil, iOf, bOf, sOf, pOf, slLen, slBase, cmpI, arI, Value.ite_bool, int_beq, int_bne, ite_band, ite_bor, Bool.not_eq_false', decide_eq_true_eq] at g3
        refine den_gives [.bool (decide (a.const = b.const))] cb_scrimshawref02_Same (Same_gives a.const b.const _ _ H1 (Dat.Rep.le l1 _ hx.const) (Dat.Rep.le l1 _ hy.const)) rfl pendNil fun H2 l2 => ⟨_, lookup_hit, ?_, PH.le_trans l1 l2⟩
        simp only [ev0, ev, evV, List.cons_append, List.nil_append, List.getD_cons_zero, List.getD_cons_succ, List.map_cons, List.map_nil, iOf, bOf, sOf, pOf, slLen, slBase, cmpI, arI, Value.ite_bool, int_beq, int_bne, ite_band, ite_bor]
        congr 2
        by_cases h4 : a.const = b.const
        · by_cases h5 : a.kids.length = b.kids.length
          · simp [h12.1, h12.2, g3, h4, h5]
          · have : ¬ ((a.kids.length : Int) = b.kids.length) := by omega
            simp [h12.1, h12.2, g3, h4, h5, this]
        · simp [h12.1, h12.2, g3, h4]

end Go.Proofs.YtibinelkmlcmgaaGreat.Vc
/-
  CORE: expressions that come in.
-/
namespace Go.Proofs.YtibinelkmlcmgaaGreat.Vc
open Go Go.ChangeShapes Go.WideShapes Go.ChangeAt Go.RowKit

def txtWt (l : List UInt8) : Nat := l.length + 1
mutual
def Xp.wt : Xp → Nat
  | .mk _ s ns d l => s.length + 5 + sumWt txtWt ns + d.wt + Xps.wt l
def Xps.wt : List Xp → Nat
  | [] => 0
  | e :: l => Xp.wt e + Xps.wt l
end
theorem Xps.wt_eq : ∀ l : List Xp, Xps.wt l = sumWt Xp.wt l
  | [] => by simp only [Xps.wt, sumWt]
  | e :: l => by simp only [Xps.wt, sumWt, Xps.wt_eq l]
noncomputable def exFields : Array Field := match Tryz.prog.underlying 29 with
  | some (.struct fs) => fs
  | _ => #[]
theorem uEx : Tryz.prog.underlying 29 = some (.struct exFields) := by kernel_rfl
theorem exF : exFields.toList.map (fun f => (f.type, f.offset)) = [(3, 0), (9, 1), (23, 2), (26, 3), (27, 7)] := by kernel_rfl
theorem cEx : Tryz.prog.cellsOf 29 = 8 := by kernel_rfl
theorem cTxts : Tryz.prog.cellsOf 23 = 1 := by kernel_rfl
theorem cExs : Tryz.prog.cellsOf 27 = 1 := by kernel_rfl
theorem uExs' : Tryz.prog.underlying 27 = some (.slice 29) := by kernel_rfl
theorem opens_ex {H : Type} {enc : TypeId × Value → H} {w : World} : ∀ fuel, Opens (α := Xp) enc Tryz.prog w Xp.wt 29 fuel := by
  intro fuel
  induction fuel using Nat.strongRecOn with
  | ind fuel ih =>
    intro cs d ps h
    obtain ⟨xs, n, rfl, rfl, hc, hl, hi⟩ := trod_fields uEx exF h
    rw [cEx] at hc
    match xs, hl with
    | [x0, x1, x2, x3, x4], _ =>
    match cs, hc with
    | [c0, c1, c2, c3, c4, c5, c6, c7], _ =>
    have t0 := hi 0 3 0 x0 rfl rfl
    have t1 := hi 1 9 1 x1 rfl rfl
    have t2 := hi 2 23 2 x2 rfl rfl
    have t3 := hi 3 26 3 x3 rfl rfl
    have t4 := hi 4 27 7 x4 rfl rfl
    rw [cInt] at t0
    rw [cStr] at t1
    rw [cTxts] at t2
    rw [cDat] at t3
    rw [cExs] at t4
    obtain ⟨k, hk, hkw⟩ := opens_int uInt n _ _ _ t0
    obtain ⟨s, hs, hsw⟩ := opens_txt uString n _ _ _ t1
    obtain ⟨ns, nv, hnv, hns, hnw⟩ := opens_slice (α := List UInt8) (wt := txtWt) uTxts cStr (fun j hj => opens_txt uString j) t2
    obtain ⟨dd, hd, hdw⟩ := opens_dat n _ _ _ t3
    obtain ⟨l, v, hlv, hls, hlw⟩ := opens_slice (α := Xp) uExs' cEx (fun j hj => ih j (by omega)) t4
    have hn1 : c2 = nv := by simpa using hnv
    have hv : c7 = v := by simpa using hlv
    subst hn1 hv
    obtain ⟨rfl, hk1⟩ := csInt hk
    obtain ⟨rfl, hs1⟩ := csTxt hs
    obtain ⟨sv, e1, g1, g2, g3, g4⟩ := Dat.Rep_iff.1 hd
    have e2 : [c3, c4, c5, c6] = [.int .i64 dd.kind, .int .i64 dd.int, txt dd.text, sv] := e1
    simp only [List.cons.injEq, and_true] at e2
    obtain ⟨rfl, rfl, rfl, rfl⟩ := e2
    refine ⟨.mk k s ns dd l, Xp.Rep_iff.2 ⟨_, _, _, rfl, hk1, hs1, hns, hd, hls⟩, ?_⟩
    simp only at hkw hsw hdw
    simp only [Xp.wt, Xps.wt_eq, Rows.uptoBulk, Rows.uptoBulkAll, List.map_cons, List.map_nil]
    omega
end Go.Proofs.YtibinelkmlcmgaaGreat.Vc
/-
  CORE: the program's renaming of an expression.
-/
namespace Go.Proofs.YtibinelkmlcmgaaGreat.Vc
open Go Go.Sort

theorem binds_gives (e : Xp) (cs : List Value) (H : PH) (he : e.Rep H cs) (i : Nat) (hi : i < e.kids.length) : Gives Tryz.prog n_core_binds [.agg cs.toArray, .int .i64 (i : Int)] H (.bool (inB e.kind (e.kids.drop (i + 1)))) := by
  obtain ⟨nb, db, kb, nc, dc, kc, rfl, hx⟩ := he.open
  have hk := hx.kids.max
  simp only [maxLen] at hk
  have hlast : (e.kids.drop (i + 1)).isEmpty = decide ((i : Int) = (e.kids.length : Int) - 1) := by
    rw [Bool.eq_iff_iff, List.isEmpty_iff, List.drop_eq_nil_iff, decide_eq_true_eq]; omega
  refine tri_core_binds (exVs e nb db kb nc dc kc ++ [.int .i64 (i : Int)]) (by kernel_rfl) (by kernel_rfl) ?_
  refine ⟨fun vs H' => vs = [.bool (decide (e.kind = 5) || decide (e.kind = 9) || decide (e.kind = 10))] ∧ H' = H, ?_, ?_⟩
  · rintro vs H1 _ ⟨rfl, rfl⟩
    refine ⟨fun h => ?_, fun h => ?_⟩
    · simp only [ev0, ev, evV, List.cons_append, List.nil_append, List.getD_cons_zero, List.getD_cons_succ, List.map_cons, List.map_nil, iOf, bOf, sOf, pOf, slLen, slBase, cmpI, arI, Value.ite_bool, int_beq, int_bne, ite_band, ite_bor] at h
      refine ⟨?_, PH.le_refl _⟩
      unfold inB
      rw [h]; rfl
    simp only [ev0, ev, evV, List.cons_append, List.nil_append, List.getD_cons_zero, List.getD_cons_succ, List.map_cons, List.map_nil, iOf, bOf, sOf, pOf, slLen, slBase, cmpI, arI, Value.ite_bool, int_beq, int_bne, ite_band, ite_bor] at h
    refine ⟨fun h8 => ?_, fun h8 => ?_⟩
    · simp only [ev0, ev, evV, List.cons_append, List.nil_append, List.getD_cons_zero, List.getD_cons_succ, List.map_cons, List.map_nil, iOf, bOf, sOf, pOf, slLen, slBase, cmpI, arI, Value.ite_bool, int_beq, int_bne, ite_band, ite_bor, decide_eq_true_eq] at h8
      refine ⟨?_, PH.le_refl _⟩
      unfold inB
      rw [h, hlast]
      simp only [ev0, ev, evV, List.cons_append, List.nil_append, List.getD_cons_zero, List.getD_cons_succ, List.map_cons, List.map_nil, iOf, bOf, sOf, pOf, slLen, slBase, cmpI, arI, Value.ite_bool, int_beq, int_bne, ite_band, ite_bor]
      rw [w64 (by omega) (by omega)]
      simp [h8]
    · simp only [ev0, ev, evV, List.cons_append, List.nil_append, List.getD_cons_zero, List.getD_cons_succ, List.map_cons, List.map_nil, iOf, bOf, sOf, pOf, slLen, slBase, cmpI, arI, Value.ite_bool, int_beq, int_bne, ite_band, ite_bor, decide_eq_false_iff_not] at h8
      refine ⟨?_, PH.le_refl _⟩
      unfold inB
      rw [h]
      simp [h8, ev0, ev, evV, List.cons_append, List.nil_append, List.getD_cons_zero, List.getD_cons_succ, List.map_cons, List.map_nil, iOf, bOf, sOf, pOf, slLen, slBase, cmpI, arI, Value.ite_bool]
  · refine ⟨fun h => ?_, fun h => ?_⟩
    · simp only [ev0, ev, evV, List.cons_append, List.nil_append, List.getD_cons_zero, List.getD_cons_succ, List.map_cons, List.map_nil, iOf, bOf, sOf, pOf, slLen, slBase, cmpI, arI, Value.ite_bool, int_beq, int_bne, ite_band, ite_bor, decide_eq_true_eq] at h
      exact ⟨_, lookup_hit, by simp only [ev0, ev, evV, List.cons_append, List.nil_append, List.getD_cons_zero, List.getD_cons_succ, List.map_cons, List.map_nil, iOf, bOf, sOf, pOf, slLen, slBase, cmpI, arI, Value.ite_bool, int_beq, int_bne, ite_band, ite_bor, h]; rfl, rfl⟩
    · simp only [ev0, ev, evV, List.cons_append, List.nil_append, List.getD_cons_zero, List.getD_cons_succ, List.map_cons, List.map_nil, iOf, bOf, sOf, pOf, slLen, slBase, cmpI, arI, Value.ite_bool, int_beq, int_bne, ite_band, ite_bor, decide_eq_false_iff_not] at h
      refine ⟨_, lookup_hit, ?_, rfl⟩
      simp only [ev0, ev, evV, List.cons_append, List.nil_append, List.getD_cons_zero, List.getD_cons_succ, List.map_cons, List.map_nil, iOf, bOf, sOf, pOf, slLen, slBase, cmpI, arI, Value.ite_bool, int_beq, int_bne, ite_band, ite_bor, decide_eq_false h]
      by_cases h9 : e.kind = 9 <;> simp [h9]
/-- the map holds what names stand for -/
def AsM (m : List (List UInt8 × Value)) (az : List (List UInt8 × Nat)) : Prop := ∀ s, getM m s = (lastA az s).map fun k => .int .i64 (k : Int)
theorem AsM.put {m : List (List UInt8 × Value)} {az : List (List UInt8 × Nat)} (h : AsM m az) (s : List UInt8) (k : Nat) : AsM (putM m s (.int .i64 (k : Int))) (az ++ [(s, k)]) := by
  intro q
  rw [getM_put, lastA_append]
  by_cases e : q = s
  · subst e; simp [lastA]
  · have e2 : ¬ s = q := fun x => e x.symm
    simp [lastA, e, e2, h q]
mutual
/-- no more than so many names and kids anywhere -/
def Xp.fit : Xp → Prop
  | .mk _ _ ns _ l => ns.length ≤ 1048576 ∧ l.length ≤ 1048576 ∧ Xps.fit l
def Xps.fit : List Xp → Prop
  | [] => True
  | e :: l => Xp.fit e ∧ Xps.fit l
end
theorem Xps.fit_iff : ∀ l : List Xp, Xps.fit l ↔ ∀ e ∈ l, e.fit
  | [] => by simp [Xps.fit]
  | e :: l => by simp only [Xps.fit, Xps.fit_iff l, List.forall_mem_cons]
theorem Xp.fit_iff (e : Xp) : e.fit ↔ e.names.length ≤ 1048576 ∧ e.kids.length ≤ 1048576 ∧ ∀ k ∈ e.kids, k.fit := by
  cases e; simp only [Xp.fit, Xps.fit_iff, Xp.names, Xp.kids]
/-- a row that a call left as it was -/
theorem Row.left {α : Type} [Enc α] {S H S' H' : PH} {e : TypeId} {l : List α} {v : Value} (h : Row S H e l v) (hs : PH.le S S') (hg : ∀ g, ob v = some g → S' g = none ∧ H' g = H g) : Row S' H' e l v := by
  obtain ⟨xs, h1, h2⟩ := h.own
  exact ⟨fun g hv => (hg g hv).1, xs, h1.le fun k hk => (hg k hk).2, PV.RepRow.le hs h2⟩
end Go.Proofs.YtibinelkmlcmgaaGreat.Vc
/-
  CORE: what an expression that may be is like. No program in sight.
-/
namespace Go.Proofs.YtibinelkmlcmgaaGreat.Vc
open Go

mutual
/-- how many expressions -/
def Xp.size : Xp → Nat
  | .mk _ _ _ _ l => 1 + Xps.size l
def Xps.size : List Xp → Nat
  | [] => 0
  | e :: l => Xp.size e + Xps.size l
end
mutual
/-- all of them have the form -/
def Xp.okF (t : Bool) : Xp → Prop
  | .mk k s ns d l => (if t then exFormP (.mk k s ns d l) else exForm (.mk k s ns d l)) = true ∧ Xps.okF t l
def Xps.okF (t : Bool) : List Xp → Prop
  | [] => True
  | e :: l => Xp.okF t e ∧ Xps.okF t l
end
mutual
theorem Xp.chk_ok (t : Bool) : ∀ (e : Xp) (deep seen : Nat), (e.chk t deep seen).2 = 0 → e.okF t ∧ (e.chk t deep seen).1 = seen + e.size
  | .mk k s ns d l, deep, seen => by
    intro h
    simp only [Xp.chk] at h ⊢
    by_cases h1 : seen = 4096
    · rw [if_pos h1] at h; exact absurd h (show ¬ (62 : Int) = 0 by decide)
    rw [if_neg h1] at h ⊢
    by_cases h2 : 250 ≤ deep
    · rw [if_pos h2] at h; exact absurd h (show ¬ (61 : Int) = 0 by decide)
    rw [if_neg h2] at h ⊢
    generalize hb : (if t = true then exFormP (.mk k s ns d l) else exForm (.mk k s ns d l)) = b at h ⊢
    cases b
    · exact absurd h (show ¬ (60 : Int) = 0 by decide)
    · simp only [Bool.true_eq_false, if_false] at h ⊢
      obtain ⟨h4, h5⟩ := Xps.chk_ok t l _ _ h
      refine ⟨⟨hb, h4⟩, ?_⟩
      rw [h5, Xp.size]; omega
theorem Xps.chk_ok (t : Bool) : ∀ (l : List Xp) (deep seen : Nat), (Xps.chk t l deep seen).2 = 0 → Xps.okF t l ∧ (Xps.chk t l deep seen).1 = seen + Xps.size l
  | [], deep, seen => fun _ => ⟨trivial, rfl⟩
  | e :: l, deep, seen => by
    simp only [Xps.chk]
    split
    · rename_i h1
      intro h; exact absurd h h1
    · rename_i h1
      intro h
      obtain ⟨h2, h3⟩ := Xp.chk_ok t e deep seen (by simpa using h1)
      obtain ⟨h4, h5⟩ := Xps.chk_ok t l _ _ h
      refine ⟨⟨h2, h4⟩, ?_⟩
      rw [h5, h3, Xps.size]; omega
end
theorem Xps.size_len : ∀ l : List Xp, l.length ≤ Xps.size l
  | [] => Nat.le_refl _
  | e :: l => by
    have := Xps.size_len l
    have h : 1 ≤ e.size := by cases e; simp only [Xp.size]; omega
    simp only [Xps.size, List.length_cons]; omega
theorem form_names {e : Xp} (h : exForm e = true) : e.names.length ≤ 6 + e.kids.length := by
  unfold exForm at h
  split at h
  · simp at h
    rw [h.1.1.2]; simp
  · simp only [Bool.and_eq_true] at h
    obtain ⟨_, h⟩ := h
    have hem : ∀ l : List (List UInt8), l.isEmpty = true → l.length = 0 := fun l hl => by rw [List.isEmpty_iff.1 hl]; rfl
    repeat' split at h
    all_goals first
      | exact absurd h (by decide)
      | (simp only [Bool.and_eq_true, decide_eq_true_eq] at h; first | omega | (have := hem e.names (by first | exact h.1.2 | exact h.1.1.2 | exact h.1); omega))
theorem exFormP_form {e : Xp} (h : exFormP e = true) : exForm e = true := by
  unfold exFormP at h
  simp only [Bool.and_eq_true] at h
  exact h.1
mutual
theorem Xp.okF_bnd (t : Bool) : ∀ e : Xp, e.okF t → e.bnd.length + 1 ≤ 7 * e.size
  | .mk k s ns d l, h => by
    simp only [Xp.okF] at h
    have hf : exForm (.mk k s ns d l) = true := by
      cases t
      · simpa using h.1
      · exact exFormP_form (by simpa using h.1)
    have h1 := form_names hf
    simp only [Xp.names, Xp.kids] at h1
    have h2 := Xps.okF_bnd t l h.2
    simp only [Xp.bnd, Xp.size, List.length_append]; omega
theorem Xps.okF_bnd (t : Bool) : ∀ l : List Xp, Xps.okF t l → (Xps.bnd l).length + l.length ≤ 7 * Xps.size l
  | [], _ => by simp [Xps.bnd, Xps.size]
  | e :: l, h => by
    simp only [Xps.okF] at h
    have h1 := Xp.okF_bnd t e h.1
    have h2 := Xps.okF_bnd t l h.2
    simp only [Xps.bnd, Xps.size, List.length_append, List.length_cons]; omega
end
mutual
theorem Xp.all_len : ∀ e : Xp, e.all.length ≤ e.size + e.bnd.length
  | .mk k s ns d l => by
    have := Xps.all_len l
    simp only [Xp.all, Xp.size, Xp.bnd, List.length_append]
    split <;> simp only [List.length_nil, List.length_cons] <;> omega
theorem Xps.all_len : ∀ l : List Xp, (Xps.all l).length ≤ Xps.size l + (Xps.bnd l).length
  | [] => by simp [Xps.all]
  | e :: l => by
    have h1 := Xp.all_len e
    have h2 := Xps.all_len l
    simp only [Xps.all, Xps.size, Xps.bnd, List.length_append]; omega
end
mutual
theorem Xp.fit_of : ∀ e : Xp, e.size ≤ 4096 → e.bnd.length ≤ 28672 → e.fit
  | .mk k s ns d l, h1, h2 => by
    simp only [Xp.size] at h1
    simp only [Xp.bnd, List.length_append] at h2
    have := Xps.size_len l
    exact ⟨by omega, by omega, Xps.fit_of l (by omega) (by omega)⟩
theorem Xps.fit_of : ∀ l : List Xp, Xps.size l ≤ 4096 → (Xps.bnd l).length ≤ 28672 → Xps.fit l
  | [], _, _ => trivial
  | e :: l, h1, h2 => by
    simp only [Xps.size] at h1
    simp only [Xps.bnd, List.length_append] at h2
    exact ⟨Xp.fit_of e (by omega) (by omega), Xps.fit_of l (by omega) (by omega)⟩
end
theorem chk_size {t : Bool} {e : Xp} (h : (e.chk t 0 0).2 = 0) : e.size ≤ 4096 := by
  have h1 := (Xp.chk_ok t e 0 0 h).2
  have h2 := Xp.chk_le t e 0 0 (by omega)
  omega
theorem chk_bounds {t : Bool} {e : Xp} (h : (e.chk t 0 0).2 = 0) : e.fit ∧ e.bnd.length ≤ 28672 ∧ e.all.length ≤ 32768 := by
  have h1 := chk_size h
  have h2 := Xp.okF_bnd t e (Xp.chk_ok t e 0 0 h).1
  have h3 := Xp.all_len e
  exact ⟨Xp.fit_of e h1 (by omega), by omega, by omega⟩
end Go.Proofs.YtibinelkmlcmgaaGreat.Vc
/-
  LIFT: functions, programs; an expression with other kids; a copy.
-/
namespace Go.Proofs.YtibinelkmlcmgaaGreat.Vc
open Go

structure FunX where
  params : List (List UInt8)
  frees : List (List UInt8)
  body : Xp
theorem Xp.pv_len (e : Xp) : e.pv.length = 8 := Enc.len (α := Xp) e
instance encFun : Enc FunX := ⟨fun f => slp f.params :: slp f.frees :: f.body.pv, 10, fun f => by simp [Xp.pv_len]⟩
theorem fun_iff {H : PH} {f : FunX} {cs : List Value} : CsR H f cs ↔ ∃ pv fv bs, cs = pv :: fv :: bs ∧ SlR H f.params pv ∧ SlR H f.frees fv ∧ f.body.Rep H bs := by
  show PV.RepRow H (slp f.params :: slp f.frees :: f.body.pv) cs ↔ _
  simp only [PV.RepRow]
  constructor
  · rintro ⟨v, vs, rfl, h1, w, ws, rfl, h2, h3⟩
    exact ⟨v, w, ws, rfl, h1, h2, h3⟩
  · rintro ⟨v, w, ws, rfl, h1, h2, h3⟩
    exact ⟨v, _, rfl, h1, w, ws, rfl, h2, h3⟩
structure LifX where
  funs : List FunX
  main : Xp
instance encLif : Enc LifX := ⟨fun l => slp l.funs :: l.main.pv, 9, fun f => by simp [Xp.pv_len]⟩
theorem lif_iff {H : PH} {l : LifX} {cs : List Value} : CsR H l cs ↔ ∃ fv bs, cs = fv :: bs ∧ SlR H l.funs fv ∧ l.main.Rep H bs := by
  show PV.RepRow H (slp l.funs :: l.main.pv) cs ↔ _
  simp only [PV.RepRow]
  constructor
  · rintro ⟨v, vs, rfl, h1, h3⟩
    exact ⟨v, vs, rfl, h1, h3⟩
  · rintro ⟨v, ws, rfl, h1, h3⟩
    exact ⟨v, _, rfl, h1, h3⟩
theorem uFuns : Tryz.prog.underlying 22 = some (.slice 47) := by kernel_rfl
theorem elemFun : ElemOk Tryz.prog 47 10 176 = true := by kernel_rfl
theorem uExprs' : Tryz.prog.underlying 27 = some (.slice 29) := by kernel_rfl
theorem elemExpr' : ElemOk Tryz.prog 29 8 128 = true := by kernel_rfl
/-- a call that gave an expression -/
def XRet (S : PH) (e : Xp) (x : Ending) : Prop := ∃ es : List Value, x = .returned (.agg es.toArray) ∧ e.Rep S es

/-! ### names in memory of their own -/
theorem CloneS_tri (l : List (List UInt8)) (v : Value) (S : PH) (h : SlR S l v) (hl : l.length ≤ 1048576) : Tri Tryz.prog n_slices_Clone___string_string_ #[v] S fun x S' => PH.le S S' ∧ ∃ v', x = .returned v' ∧ SlR S' l v' := by
  obtain ⟨b, c, hv⟩ := h.sl
  subst hv
  refine tri_slices_Clone___string_string_ [.slice b l.length c] (by kernel_rfl) (by kernel_rfl) ?_
  refine ⟨fun g => ?_, fun g => ?_⟩
  · simp only [ev0, ev, evV, List.cons_append, List.nil_append, List.getD_cons_zero, List.getD_cons_succ, List.map_cons, List.map_nil, iOf, bOf, sOf, pOf, slLen, slBase, cmpI, arI, Value.ite_bool, int_beq, int_bne, ite_band, ite_bor] at g
    have : b = none := by
      cases b with
      | none => rfl
      | some a => simp [isNilV] at g
    subst this
    refine ⟨PH.le_refl S, _, rfl, ?_⟩
    have hl0 : l = [] := by
      rcases (SlR.mk_iff.1 h).2 with ⟨_, e⟩ | ⟨a, c', e, _⟩
      · exact e
      · cases e
    rw [hl0]
    exact SlR.mk_iff.2 ⟨Nat.zero_le _, .inl ⟨rfl, rfl⟩⟩
  · refine den_hLit0 (α := List UInt8) (b := 16) uTxts elemTxt (Held.nil (PH.le_refl S)) pendNil fun v1 H1 h1 _ _ => ?_
    refine den_hApp (b := 16) (more := l) uTxts elemTxt (by kernel_rfl) (by kernel_rfl) h1 (h.srcS h1.sh) (by simp only [maxLen, List.length_nil]; omega) (by simp only [List.length_nil]; omega) fun v2 H2 h2 _ => ⟨pendNil, ?_⟩
    obtain ⟨S3, s3, l3, h3⟩ := h2.freeze
    exact ⟨PH.le_trans l3 h3.sh, v2, rfl, s3.le h3.sh⟩

/-! ### other kids -/
def mapS {σ : Type} (f : σ → Xp → Xp × σ) : σ → List Xp → List Xp × σ
  | s, [] => ([], s)
  | s, e :: l => ((f s e).1 :: (mapS f (f s e).2 l).1, (mapS f (f s e).2 l).2)
theorem mapS_append {σ : Type} (f : σ → Xp → Xp × σ) : ∀ (s : σ) (l m : List Xp), mapS f s (l ++ m) = ((mapS f s l).1 ++ (mapS f (mapS f s l).2 m).1, (mapS f (mapS f s l).2 m).2)
  | s, [], m => rfl
  | s, e :: l, m => by simp only [List.cons_append, mapS, mapS_append f _ l m]
theorem mapS_len {σ : Type} (f : σ → Xp → Xp × σ) : ∀ (s : σ) (l : List Xp), (mapS f s l).1.length = l.length
  | s, [] => rfl
  | s, e :: l => by simp only [mapS, List.length_cons, mapS_len f _ l]
theorem Map_tri {σ : Type} (f : σ → Xp → Xp × σ) (JR : σ → List Itm → Prop) (s0 : σ) (e : Xp) (cs : List Value) (S K : PH) (Js0 : List Itm) {g : FuncId} {first caps : Array Value} (hcb : callB Tryz.prog g = true) (h : Held S K Js0) (h0 : JR s0 Js0) (he : e.Rep S cs) (hk : e.kids.length ≤ 1048576)
    (hf : ∀ (j : Nat) (k : Xp), e.kids[j]? = some k → ∀ (S' K' : PH) (Js : List Itm) (cs : List Value), PH.le S S' → Held S' K' Js → JR (mapS f s0 (e.kids.take j)).2 Js → k.Rep S' cs →
      Tri Tryz.prog g (first ++ #[.agg cs.toArray] ++ caps) K' fun x K'' => ∃ S'' J'', PH.le S' S'' ∧ Held S'' K'' J'' ∧ JR (f (mapS f s0 (e.kids.take j)).2 k).2 J'' ∧ XRet S'' (f (mapS f s0 (e.kids.take j)).2 k).1 x) :
    Tri Tryz.prog n_pass_Map #[.agg cs.toArray, .func (.func g) first caps] K fun x K' => ∃ S' J', PH.le S S' ∧ Held S' K' J' ∧ JR (mapS f s0 e.kids).2 J' ∧ XRet S' (.mk e.kind e.name e.names e.const (mapS f s0 e.kids).1) x := by
  obtain ⟨nb, db, kb, nc, dc, kc, rfl, hx⟩ := Xp.Rep.open he
  refine tri_pass_Map (exVs e nb db kb nc dc kc ++ [.func (.func g) first caps]) (by kernel_rfl) (by kernel_rfl) ?_
  refine ⟨fun n vs K' => ∃ (k : Nat) (out : Value) (S' : PH) (Js : List Itm), vs = [out, .int .i64 k] ∧ k + n = e.kids.length ∧ PH.le S S' ∧ Held S' K' (orow 29 (mapS f s0 (e.kids.take k)).1 out :: Js) ∧ JR (mapS f s0 (e.kids.take k)).2 Js,
    ⟨e.kids.length, 0, .slice none 0 0, S, Js0, rfl, by omega, PH.le_refl _, h.empty _, h0⟩, ?_⟩
  rintro n vs K1 _ ⟨k, out, S1, Js, rfl, hkn, l1, h1, hj⟩
  refine ⟨fun g1 => ?_, fun g1 => ?_⟩
  · simp only [ev0, ev, evV, List.cons_append, List.nil_append, List.getD_cons_zero, List.getD_cons_succ, List.map_cons, List.map_nil, iOf, bOf, sOf, pOf, slLen, slBase, cmpI, arI, Value.ite_bool, int_beq, int_bne, ite_band, ite_bor, decide_eq_true_eq] at g1
    obtain ⟨a, ha⟩ : ∃ a, e.kids[k]? = some a := ⟨_, List.getElem?_eq_getElem (show k < e.kids.length by omega)⟩
    obtain ⟨g2, _, ces, g3, g4⟩ := (hx.kids.le l1).get ha
    have htags := Xp.Rep.tags g3
    have g3' := g3
    obtain ⟨nb', db', kb', nc', dc', kc', rfl, _⟩ := Xp.Rep.open g3'
    refine ⟨fun _ => ?_, _, htags, by simp only [ev0, ev, evV, List.cons_append, List.nil_append, List.getD_cons_zero, List.getD_cons_succ, List.map_cons, List.map_nil, iOf, bOf, sOf, pOf, slLen, slBase, cmpI, arI, Value.ite_bool, int_beq, int_bne, ite_band, ite_bor]; exact rowAt_le h1.sh g4, ?_⟩
    · simp only [Chk.holds, ev0, ev, evV, List.cons_append, List.nil_append, List.getD_cons_zero, List.getD_cons_succ, List.map_cons, List.map_nil, iOf, bOf, sOf, pOf, slLen, slBase, cmpI, arI, Value.ite_bool, int_beq, int_bne, ite_band, ite_bor]; exact ⟨g2, by omega, by omega⟩
    have hcall := Held.call (J := Js) (R := fun x S' J' => JR (f (mapS f s0 (e.kids.take k)).2 a).2 J' ∧ XRet S' (f (mapS f s0 (e.kids.take k)).2 a).1 x) (h1.perm (List.perm_append_comm (l₁ := [_]))) fun K' hK => (hf k a ha S1 K' Js _ l1 hK hj g3).mono fun x K'' hx => by
      obtain ⟨S'', J'', q1, q2, q3, q4⟩ := hx
      exact ⟨S'', J'', q1, q2, q3, q4⟩
    refine den_callF (f := g) (first := first) (caps := caps) (by rfl) hcb hcall ?_
    rintro x K2 ⟨S2, J2, l2, h2, hj2, es, rfl, r2⟩
    have ht2 := Xp.Rep.tags r2
    have r2' := r2
    obtain ⟨p1, p2, p3, p4, p5, p6, rfl, _⟩ := Xp.Rep.open r2'
    have hst : mapS f s0 (e.kids.take (k + 1)) = ((mapS f s0 (e.kids.take k)).1 ++ [(f (mapS f s0 (e.kids.take k)).2 a).1], (f (mapS f s0 (e.kids.take k)).2 a).2) := by
      rw [List.take_add_one, ha, mapS_append]; rfl
    have hml := mapS_len f s0 (e.kids.take k)
    rw [List.length_take] at hml
    refine ⟨_, _, rfl, ht2, rfl, pendNil, ?_⟩
    refine den_hPush (more := [(f (mapS f s0 (e.kids.take k)).2 a).1]) (b := 128) [.agg (exVs (f (mapS f s0 (e.kids.take k)).2 a).1 p1 p2 p3 p4 p5 p6).toArray] uExprs' elemExpr' rfl (by decide) (by decide) (h2.perm (List.perm_append_comm (l₂ := [_]))) (by kernel_rfl) (.cons r2 .nil) pendNil (fun _ => by kernel_rfl) (fun _ => by kernel_rfl)
      (by simp only [maxLen, List.length_cons, List.length_nil]; omega) (by simp only [List.length_cons, List.length_nil]; omega) fun u v' S3 K3 l3 h3 => ⟨pendNil, _, lookup_hit, n - 1, by omega, k + 1, v', S3, J2, ?_, by omega, PH.le_trans l1 (PH.le_trans l2 l3), ?_, by rw [hst]; exact hj2⟩
    · simp only [ev0, ev, evV, List.cons_append, List.nil_append, List.getD_cons_zero, List.getD_cons_succ, List.map_cons, List.map_nil, iOf, bOf, sOf, pOf, slLen, slBase, cmpI, arI, Value.ite_bool, int_beq, int_bne, ite_band, ite_bor]
      rw [w64 (by omega) (by omega)]
      rfl
    · rw [hst]; exact h3
  · simp only [ev0, ev, evV, List.cons_append, List.nil_append, List.getD_cons_zero, List.getD_cons_succ, List.map_cons, List.map_nil, iOf, bOf, sOf, pOf, slLen, slBase, cmpI, arI, Value.ite_bool, int_beq, int_bne, ite_band, ite_bor, decide_eq_false_iff_not] at g1
    have hkk : k = e.kids.length := by omega
    subst hkk
    rw [List.take_length] at h1 hj
    obtain ⟨S2, s2, l2, h2⟩ := h1.freeze
    refine ⟨S2, Js, PH.le_trans l1 l2, h2, hj, [.int .i64 e.kind, txt e.name, .slice nb e.names.length nc, .int .i64 e.const.kind, .int .i64 e.const.int, txt e.const.text, .slice db e.const.list.length dc, out], rfl, ?_⟩
    have l02 := PH.le_trans l1 l2
    exact Xp.Rep_iff.2 ⟨_, _, _, rfl, hx.kind, hx.name, hx.names.le l02, Dat.Rep.le l02 _ hx.const, s2⟩
end Go.Proofs.YtibinelkmlcmgaaGreat.Vc
/-
  CORE: the free names, noted in a map.
-/
namespace Go.Proofs.YtibinelkmlcmgaaGreat.Vc
open Go Go.Sort

/-- how often names are bound -/
def CntM (m : List (List UInt8 × Value)) (l : List (List UInt8)) : Prop := ∀ s, (getM m s).getD (.int .i64 0) = .int .i64 ((l.count s : Nat) : Int)
theorem CntM.put {m : List (List UInt8 × Value)} {l l' : List (List UInt8)} (h : CntM m l) {a : List UInt8} (h1 : ∀ s, s ≠ a → l'.count s = l.count s) : CntM (putM m a (.int .i64 ((l'.count a : Nat) : Int))) l' := by
  intro s
  rw [getM_put]
  by_cases e : s = a
  · subst e; rw [if_pos rfl]; rfl
  · rw [if_neg e, h s, h1 s e]
/-- two maps beside what stands -/
structure FrH (S : PH) (bb ub : Nat) (mb mo : List (List UInt8 × Value)) (H : PH) : Prop where
  le : PH.le S H
  b : ∃ es c, H bb = some (.map es c) ∧ EntsR es.toList c mb
  u : ∃ es c, H ub = some (.map es c) ∧ EntsR es.toList c mo
section
variable {S H H1 H2 : PH} {bb ub : Nat} {mb mo mb2 mo2 : List (List UInt8 × Value)}
theorem FrH.up (h : FrH S bb ub mb mo H) (l : PH.le H H1) : FrH S bb ub mb mo H1 := by
  obtain ⟨es, c, h1, h2⟩ := h.b
  obtain ⟨es', c', h3, h4⟩ := h.u
  exact ⟨PH.le_trans h.le l, ⟨es, c, l _ _ h1, h2⟩, ⟨es', c', l _ _ h3, h4⟩⟩
theorem FrH.setB (h : FrH S bb ub mb mo H) (hS : S bb = none) (hne : bb ≠ ub) {es : Array MapEntry} {c : Nat} (g : EntsR es.toList c mb2) : FrH S bb ub mb2 mo (H.upd bb (.map es c)) := by
  obtain ⟨es', c', h3, h4⟩ := h.u
  exact ⟨le_updOff h.le hS _, ⟨es, c, PH.upd_same, g⟩, ⟨es', c', by rw [PH.upd_other (Ne.symm hne)]; exact h3, h4⟩⟩
theorem FrH.setU (h : FrH S bb ub mb mo H) (hS : S ub = none) (hne : bb ≠ ub) {es : Array MapEntry} {c : Nat} (g : EntsR es.toList c mo2) : FrH S bb ub mb mo2 (H.upd ub (.map es c)) := by
  obtain ⟨es', c', h3, h4⟩ := h.b
  exact ⟨le_updOff h.le hS _, ⟨es', c', by rw [PH.upd_other hne]; exact h3, h4⟩, ⟨es, c, PH.upd_same, g⟩⟩
theorem FrH.mapB (h : FrH S bb ub mb mo H) : MapR H (.map (some bb)) mb := by
  obtain ⟨es, c, h1, h2⟩ := h.b
  exact ⟨bb, es, c, rfl, h1, h2⟩
end
def FreeAt (e : Xp) : Prop := ∀ (cs : List Value) (S H : PH) (bb ub : Nat) (mb mo : List (List UInt8 × Value)) (bl : List (List UInt8)), S bb = none → S ub = none → bb ≠ ub → e.Rep S cs → FrH S bb ub mb mo H → CntM mb bl → bl.length + e.bnd.length < 4000000000000000000 →
  Tri Tryz.prog n_core_free #[.agg cs.toArray, .map (some bb), .map (some ub)] H fun x H' => x = .returned (.tuple #[]) ∧ ∃ mb', FrH S bb ub mb' (putsM mo (e.fr bl)) H' ∧ CntM mb' bl
set_option maxHeartbeats 4000000 in
theorem free_tri : ∀ e, FreeAt e := by
  refine Xp.ind fun e ih cs S H bb ub mb mo bl hSb hSu hne he hF hc hbig => ?_
  have he' := he
  obtain ⟨nb, db, kb, nc, dc, kc, rfl, hx⟩ := Xp.Rep.open he
  have hn := hx.names.max
  have hk := hx.kids.max
  simp only [maxLen] at hn hk
  rw [Xp.bnd_eq, List.length_append] at hbig
  refine tri_core_free (exVs e nb db kb nc dc kc ++ [.map (some bb), .map (some ub)]) (by kernel_rfl) (by kernel_rfl) ?_
  refine ⟨fun vs H' => vs = [] ∧ FrH S bb ub mb (putsM mo (if (e.kind = 1 ∨ e.kind = 2) ∧ e.name ∉ bl then [e.name] else [])) H', ?_, ?_⟩
  · rintro vs H1 _ ⟨rfl, f1⟩
    refine ⟨fun nn vs H' => ∃ (k : Nat) (mb' : List (List UInt8 × Value)) (done : List (List UInt8)), vs = [.int .i64 k] ∧ k + nn = e.kids.length ∧ FrH S bb ub mb' (putsM mo done) H' ∧ CntM mb' bl ∧ e.fr bl = done ++ Xps.fr bl (bl ++ e.names) e.kind (e.kids.drop k) ∧ bl.length + e.names.length + (Xps.bnd (e.kids.drop k)).length < 4000000000000000000,
      ⟨e.kids.length, 0, mb, _, rfl, by omega, f1, hc, by rw [Xp.fr_eq, List.drop_zero], by rw [List.drop_zero]; omega⟩, ?_⟩
    rintro nn vs H2 _ ⟨k, mb2, done, rfl, hkn, f2, c2, hfr, hb2⟩
    refine ⟨fun g => ?_, fun g => ?_⟩
    · simp only [ev0, ev, evV, List.cons_append, List.nil_append, List.getD_cons_zero, List.getD_cons_succ, List.map_cons, List.map_nil, iOf, bOf, sOf, pOf, slLen, slBase, cmpI, arI, Value.ite_bool, int_beq, int_bne, ite_band, ite_bor, decide_eq_true_eq] at g
      obtain ⟨a, ha⟩ : ∃ a, e.kids[k]? = some a := ⟨_, List.getElem?_eq_getElem (show k < e.kids.length by omega)⟩
      obtain ⟨g1, _, ces, g2, g3⟩ := hx.kids.get ha
      have htags := Xp.Rep.tags g2
      have g2' := g2
      obtain ⟨nb', db', kb', nc', dc', kc', rfl, _⟩ := Xp.Rep.open g2'
      have l2 := f2.le
      have hbnd : Xps.bnd (e.kids.drop k) = a.bnd ++ Xps.bnd (e.kids.drop (k + 1)) := by rw [drop_get ha, Xps.bnd]
      rw [hbnd, List.length_append] at hb2
      refine ⟨fun _ => ?_, _, htags, by simp only [ev0, ev, evV, List.cons_append, List.nil_append, List.getD_cons_zero, List.getD_cons_succ, List.map_cons, List.map_nil, iOf, bOf, sOf, pOf, slLen, slBase, cmpI, arI, Value.ite_bool, int_beq, int_bne, ite_band, ite_bor]; exact rowAt_le l2 g3, ?_⟩
      · simp only [Chk.holds, ev0, ev, evV, List.cons_append, List.nil_append, List.getD_cons_zero, List.getD_cons_succ, List.map_cons, List.map_nil, iOf, bOf, sOf, pOf, slLen, slBase, cmpI, arI, Value.ite_bool, int_beq, int_bne, ite_band, ite_bor]; exact ⟨g1, by omega, by omega⟩
      have c2' := c2
      refine den_gives [.bool (inB e.kind (e.kids.drop (k + 1)))] cb_core_binds (binds_gives e _ H2 (Xp.Rep.le l2 e he') k (by omega)) rfl pendNil fun H3 h3 => ?_
      have f3 := f2.up h3
      obtain ⟨bi, hbi⟩ : ∃ bi, bi = inB e.kind (e.kids.drop (k + 1)) := ⟨_, rfl⟩
      rw [← hbi]
      have hw1 : ∀ q : Nat, q < 4000000000000000000 → IntKind.i64.wrap ((q : Int) + 1) = ((q + 1 : Nat) : Int) := fun q hq => by rw [w64 (by omega) (by omega)]; omega
      have hw0 : ∀ q : Nat, q < 4000000000000000000 → IntKind.i64.wrap ((q : Int) + 0) = (q : Int) := fun q hq => by rw [w64 (by omega) (by omega)]; omega
      refine ⟨fun nn vs H' => ∃ (q : Nat) (mb' : List (List UInt8 × Value)), vs = [.int .i64 q] ∧ q + nn = e.names.length ∧ FrH S bb ub mb' (putsM mo done) H' ∧ CntM mb' (bl ++ if bi then e.names.take q else []),
        ⟨e.names.length, 0, mb2, rfl, by omega, f3, by cases bi <;> simpa using c2⟩, ?_⟩
      rintro n3 vs H4 _ ⟨q, mb4, rfl, hqn, f4, c4⟩
      refine ⟨fun g => ?_, fun g => ?_⟩
      · simp only [ev0, ev, evV, List.cons_append, List.nil_append, List.getD_cons_zero, List.getD_cons_succ, List.map_cons, List.map_nil, iOf, bOf, sOf, pOf, slLen, slBase, cmpI, arI, Value.ite_bool, int_beq, int_bne, ite_band, ite_bor, decide_eq_true_eq] at g
        obtain ⟨s, hs⟩ : ∃ s, e.names[q]? = some s := ⟨_, List.getElem?_eq_getElem (show q < e.names.length by omega)⟩
        obtain ⟨g1, _, ces, g5, g6⟩ := (hx.names.le f4.le).get hs
        obtain ⟨rfl, _⟩ := csTxts g5
        refine ⟨fun _ => ?_, [txt s], rfl, by simp only [ev0, ev, evV, List.cons_append, List.nil_append, List.getD_cons_zero, List.getD_cons_succ, List.map_cons, List.map_nil, iOf, bOf, sOf, pOf, slLen, slBase, cmpI, arI, Value.ite_bool, int_beq, int_bne, ite_band, ite_bor]; exact g6, ?_⟩
        · simp only [Chk.holds, ev0, ev, evV, List.cons_append, List.nil_append, List.getD_cons_zero, List.getD_cons_succ, List.map_cons, List.map_nil, iOf, bOf, sOf, pOf, slLen, slBase, cmpI, arI, Value.ite_bool, int_beq, int_bne, ite_band, ite_bor]; exact ⟨g1, by omega, by omega⟩
        have hg := c4 s
        refine den_lookup s (.int .i64 0) uMapSI kdStr zInt rfl rfl f4.mapB (by rw [hg]; rfl) pendNil ?_
        rw [hg]
        obtain ⟨es, c, h1, h2⟩ := f4.b
        have hcl : (bl ++ if bi then e.names.take q else []).count s ≤ bl.length + e.names.length := by
          refine Nat.le_trans List.count_le_length ?_
          rw [List.length_append]
          cases bi
          · simp
          · simp only [if_true, List.length_take]; omega
        refine den_mapUpdate s (.int .i64 (((bl ++ if bi then e.names.take (q + 1) else []).count s : Nat) : Int)) uMapSI kdStr rfl rfl ?_ h1 h2 fun es3 clock3 m3 => ?_
        · cases bi
          · show Value.int .i64 (IntKind.i64.wrap (((List.count s (bl ++ if (false : Bool) = true then e.names.take q else []) : Nat) : Int) + 0)) = _
            rw [hw0 _ (by omega)]; simp
          · show Value.int .i64 (IntKind.i64.wrap (((List.count s (bl ++ if (true : Bool) = true then e.names.take q else []) : Nat) : Int) + 1)) = _
            rw [hw1 _ (by omega)]; simp [List.take_add_one, hs, List.count_append]; omega
        · refine ⟨_, lookup_hit, n3 - 1, by omega, q + 1, _, ?_, by omega, f4.setB hSb hne m3, ?_⟩
          · simp only [ev0, ev, evV, List.cons_append, List.nil_append, List.getD_cons_zero, List.getD_cons_succ, List.map_cons, List.map_nil, iOf, bOf, sOf, pOf, slLen, slBase, cmpI, arI, Value.ite_bool, int_beq, int_bne, ite_band, ite_bor]
            rw [w64 (by omega) (by omega)]
            rfl
          · refine c4.put fun z hz => ?_
            cases bi
            · rfl
            · simp only [if_true]
              rw [List.take_add_one, hs]
              simp [List.count_append, Ne.symm hz]
      · simp only [ev0, ev, evV, List.cons_append, List.nil_append, List.getD_cons_zero, List.getD_cons_succ, List.map_cons, List.map_nil, iOf, bOf, sOf, pOf, slLen, slBase, cmpI, arI, Value.ite_bool, int_beq, int_bne, ite_band, ite_bor, decide_eq_false_iff_not] at g
        rw [List.take_of_length_le (by omega)] at c4
        obtain ⟨bl2, hbl2⟩ : ∃ bl2, bl2 = if inB e.kind (e.kids.drop (k + 1)) then bl ++ e.names else bl := ⟨_, rfl⟩
        have c5 : CntM mb4 bl2 := by
          rw [hbl2, ← hbi]
          cases bi <;> simpa using c4
        have hl5 : bl2.length ≤ bl.length + e.names.length := by
          rw [hbl2]
          split
          · rw [List.length_append]; omega
          · omega
        refine den_call cb_core_free (ih a (List.mem_of_getElem? ha) _ S H4 bb ub mb4 (putsM mo done) bl2 hSb hSu hne g2 f4 c5 (by omega)) ?_
        rintro x H5 ⟨rfl, mb5, f5, c6⟩
        refine ⟨_, [], rfl, rfl, rfl, pendNil, ?_⟩
        rw [← putsM_append] at f5
        refine ⟨fun nn vs H' => ∃ (q : Nat) (mb' : List (List UInt8 × Value)), vs = [.int .i64 q] ∧ q + nn = e.names.length ∧ FrH S bb ub mb' (putsM mo (done ++ a.fr bl2)) H' ∧ CntM mb' (bl ++ if bi then e.names.drop q else []),
          ⟨e.names.length, 0, mb5, rfl, by omega, f5, by rw [hbl2, ← hbi] at c6; cases bi <;> simpa using c6⟩, ?_⟩
        rintro n6 vs H6 _ ⟨q6, mb6, rfl, hqn6, f6, c7⟩
        refine ⟨fun g => ?_, fun g => ?_⟩
        · simp only [ev0, ev, evV, List.cons_append, List.nil_append, List.getD_cons_zero, List.getD_cons_succ, List.map_cons, List.map_nil, iOf, bOf, sOf, pOf, slLen, slBase, cmpI, arI, Value.ite_bool, int_beq, int_bne, ite_band, ite_bor, decide_eq_true_eq] at g
          obtain ⟨s, hs⟩ : ∃ s, e.names[q6]? = some s := ⟨_, List.getElem?_eq_getElem (show q6 < e.names.length by omega)⟩
          obtain ⟨g1, _, ces, g5, g6⟩ := (hx.names.le f6.le).get hs
          obtain ⟨rfl, _⟩ := csTxts g5
          refine ⟨fun _ => ?_, [txt s], rfl, by simp only [ev0, ev, evV, List.cons_append, List.nil_append, List.getD_cons_zero, List.getD_cons_succ, List.map_cons, List.map_nil, iOf, bOf, sOf, pOf, slLen, slBase, cmpI, arI, Value.ite_bool, int_beq, int_bne, ite_band, ite_bor]; exact g6, ?_⟩
          · simp only [Chk.holds, ev0, ev, evV, List.cons_append, List.nil_append, List.getD_cons_zero, List.getD_cons_succ, List.map_cons, List.map_nil, iOf, bOf, sOf, pOf, slLen, slBase, cmpI, arI, Value.ite_bool, int_beq, int_bne, ite_band, ite_bor]; exact ⟨g1, by omega, by omega⟩
          have hg := c7 s
          refine den_lookup s (.int .i64 0) uMapSI kdStr zInt rfl rfl f6.mapB (by rw [hg]; rfl) pendNil ?_
          rw [hg]
          obtain ⟨es, c, h1, h2⟩ := f6.b
          have hdg := drop_get hs
          have hcl : (bl ++ if bi then e.names.drop q6 else []).count s ≤ bl.length + e.names.length := by
            refine Nat.le_trans List.count_le_length ?_
            rw [List.length_append]
            cases bi
            · simp
            · simp only [if_true, List.length_drop]; omega
          refine den_mapUpdate s (.int .i64 (((bl ++ if bi then e.names.drop (q6 + 1) else []).count s : Nat) : Int)) uMapSI kdStr rfl rfl ?_ h1 h2 fun es3 clock3 m3 => ?_
          · cases bi
            · show Value.int .i64 (IntKind.i64.wrap (((List.count s (bl ++ if (false : Bool) = true then e.names.drop q6 else []) : Nat) : Int) - 0)) = _
              rw [w64 (by omega) (by omega)]; simp
            · show Value.int .i64 (IntKind.i64.wrap (((List.count s (bl ++ if (true : Bool) = true then e.names.drop q6 else []) : Nat) : Int) - 1)) = _
              rw [w64 (by omega) (by omega)]; simp [hdg, List.count_append]; omega
          · refine ⟨_, lookup_hit, n6 - 1, by omega, q6 + 1, _, ?_, by omega, f6.setB hSb hne m3, ?_⟩
            · simp only [ev0, ev, evV, List.cons_append, List.nil_append, List.getD_cons_zero, List.getD_cons_succ, List.map_cons, List.map_nil, iOf, bOf, sOf, pOf, slLen, slBase, cmpI, arI, Value.ite_bool, int_beq, int_bne, ite_band, ite_bor]
              rw [w64 (by omega) (by omega)]
              rfl
            · refine c7.put fun z hz => ?_
              cases bi
              · rfl
              · simp only [if_true]
                rw [hdg]
                simp [List.count_append, Ne.symm hz]
        · simp only [ev0, ev, evV, List.cons_append, List.nil_append, List.getD_cons_zero, List.getD_cons_succ, List.map_cons, List.map_nil, iOf, bOf, sOf, pOf, slLen, slBase, cmpI, arI, Value.ite_bool, int_beq, int_bne, ite_band, ite_bor, decide_eq_false_iff_not] at g
          rw [List.drop_eq_nil_of_le (by omega)] at c7
          refine ⟨_, (lookup_miss (by decide)).trans ((lookup_miss (by decide)).trans lookup_hit), nn - 1, by omega, k + 1, mb6, done ++ a.fr bl2, ?_, by omega, f6, ?_, ?_, by omega⟩
          · simp only [ev0, ev, evV, List.cons_append, List.nil_append, List.getD_cons_zero, List.getD_cons_succ, List.map_cons, List.map_nil, iOf, bOf, sOf, pOf, slLen, slBase, cmpI, arI, Value.ite_bool, int_beq, int_bne, ite_band, ite_bor]
            rw [w64 (by omega) (by omega)]
            rfl
          · cases bi <;> simpa using c7
          · rw [hfr, drop_get ha, Xps.fr, List.append_assoc, hbl2]
    · simp only [ev0, ev, evV, List.cons_append, List.nil_append, List.getD_cons_zero, List.getD_cons_succ, List.map_cons, List.map_nil, iOf, bOf, sOf, pOf, slLen, slBase, cmpI, arI, Value.ite_bool, int_beq, int_bne, ite_band, ite_bor, decide_eq_false_iff_not] at g
      have hkk : k = e.kids.length := by omega
      subst hkk
      rw [List.drop_length, Xps.fr, List.append_nil] at hfr
      rw [hfr]
      exact ⟨rfl, mb2, f2, c2⟩
  · refine ⟨fun vs H' => vs = [.bool (decide ((e.kind = 1 ∨ e.kind = 2) ∧ e.name ∉ bl))] ∧ H' = H, ?_, ?_⟩
    · rintro vs H1 _ ⟨rfl, rfl⟩
      refine ⟨fun g => ?_, fun g => ?_⟩
      · simp only [ev0, ev, evV, List.cons_append, List.nil_append, List.getD_cons_zero, List.getD_cons_succ, List.map_cons, List.map_nil, iOf, bOf, sOf, pOf, slLen, slBase, cmpI, arI, Value.ite_bool, int_beq, int_bne, ite_band, ite_bor, decide_eq_true_eq] at g
        obtain ⟨es, c, h1, h2⟩ := hF.u
        refine den_mapUpdate e.name (.int .i64 1) uMapSI kdStr rfl rfl rfl h1 h2 fun es3 clock3 m3 => ⟨_, lookup_hit, rfl, ?_⟩
        rw [if_pos g]
        exact hF.setU hSu hne m3
      · simp only [ev0, ev, evV, List.cons_append, List.nil_append, List.getD_cons_zero, List.getD_cons_succ, List.map_cons, List.map_nil, iOf, bOf, sOf, pOf, slLen, slBase, cmpI, arI, Value.ite_bool, int_beq, int_bne, ite_band, ite_bor, decide_eq_false_iff_not] at g
        refine ⟨_, lookup_hit, rfl, ?_⟩
        rw [if_neg g]
        exact hF
    · refine ⟨fun g => ?_, fun g => ?_⟩
      · have g12 : e.kind = 1 ∨ e.kind = 2 := by
          by_cases h1 : e.kind = 1
          · exact .inl h1
          · refine .inr ?_
            simp only [ev0, ev, evV, List.cons_append, List.nil_append, List.getD_cons_zero, List.getD_cons_succ, List.map_cons, List.map_nil, iOf, bOf, sOf, pOf, slLen, slBase, cmpI, arI, Value.ite_bool, int_beq, int_bne, ite_band, ite_bor] at g
            simpa [h1] using g
        have hg := hc e.name
        refine den_lookup e.name (.int .i64 0) uMapSI kdStr zInt rfl rfl hF.mapB (by rw [hg]; rfl) pendNil ?_
        rw [hg]
        refine ⟨_, lookup_hit, ?_, rfl⟩
        simp only [ev0, ev, evV, List.cons_append, List.nil_append, List.getD_cons_zero, List.getD_cons_succ, List.map_cons, List.map_nil, iOf, bOf, sOf, pOf, slLen, slBase, cmpI, arI, Value.ite_bool, int_beq, int_bne, ite_band, ite_bor]
        have hcnt : bl.count e.name = 0 ↔ e.name ∉ bl := List.count_eq_zero
        by_cases hm : e.name ∈ bl
        · have : ¬ bl.count e.name = 0 := fun h => hcnt.1 h hm
          simp [hm, this]
        · have := hcnt.2 hm
          simp [hm, this, g12]
      · have g12 : ¬ (e.kind = 1 ∨ e.kind = 2) := by
          rintro (h1 | h1) <;> simp [ev0, ev, evV, List.cons_append, List.nil_append, List.getD_cons_zero, List.getD_cons_succ, List.map_cons, List.map_nil, iOf, bOf, sOf, pOf, slLen, slBase, cmpI, arI, Value.ite_bool, h1] at g
        refine ⟨_, lookup_hit, ?_, rfl⟩
        simp [ev0, ev, evV, List.cons_append, List.nil_append, List.getD_cons_zero, List.getD_cons_succ, List.map_cons, List.map_nil, iOf, bOf, sOf, pOf, slLen, slBase, cmpI, arI, Value.ite_bool, g12]
end Go.Proofs.YtibinelkmlcmgaaGreat.Vc
/-
  CORE: the keys of a map, sorted.
-/
namespace Go.Proofs.YtibinelkmlcmgaaGreat.Vc
open Go Go.Sort Go.RowKit Go.Maps Go.Shelf

/-- maps.Keys: a function value over a new block -/
theorem Keys_tri (H : PH) (b : Nat) : Tri Tryz.prog 43 #[.map (some b)] H fun e H' => ∃ q, e = .returned (.func (.func 60) #[] #[.pointer (some ⟨q, 0, none⟩)]) ∧ H q = none ∧ H' = H.upd q (.cells #[.map (some b)] 75 (0, 0)) := fun w hv =>
  (callsIn_wide.1 (Tryz.maps_Keys_43 (some b) w)).mono fun e w' ⟨g1, g2⟩ => by
    subst g2
    exact ⟨_, adv_new hv _, w.heap.size, g1, hv.new, rfl⟩
theorem txts_row (H : PH) : ∀ l : List (List UInt8), (∀ s ∈ l, s.length ≤ maxLen) → PV.RepRow H (l.flatMap pv) (l.map txt)
  | [], _ => rfl
  | s :: l, h => ⟨txt s, l.map txt, rfl, ⟨rfl, h s (List.mem_cons_self ..)⟩, txts_row H l fun x hx => h x (List.mem_cons_of_mem _ hx)⟩
theorem rd_txt {x : MapEntry} {s : List UInt8} (h : x.key = txt s) (hs : s.length ≤ maxLen) : Go.WideElems.rd (H := Unit) Tryz.prog 9 (fun _ => some (.nil, [])) x = some (.string s, .nil) := by
  have hk : keyOf Tryz.prog 9 x.key = some (.string s) := by
    rw [h]
    have hu : Tryz.prog.underlying 9 = some .string := by kernel_rfl
    unfold keyOf
    rw [hu]
    show mapKey _ _ _ = _
    unfold mapKey
    rw [hu]
    show (if (⟨s.toArray⟩ : ByteArray).size ≤ maxLen then _ else _) = _
    rw [txt_size, if_pos hs]
  unfold Go.WideElems.rd
  rw [hk]; rfl
theorem ents_key {es : List MapEntry} {clock : Nat} {m : List (List UInt8 × Value)} (h : EntsR es clock m) : es.map (·.key) = m.map fun x => txt x.1 := by
  have := congrArg (List.map Prod.fst) h.ents
  rw [List.map_map, List.map_map] at this
  exact this
theorem rg_keys : ∀ (es : List MapEntry) (m : List (List UInt8 × Value)), es.map (·.key) = (m.map fun x => txt x.1) → (∀ x ∈ m, x.1.length ≤ maxLen) → es.map (fun x => strOf (Go.WideElems.rg (H := Unit) Tryz.prog 9 (fun _ => some (.nil, [])) x).1) = m.map (·.1)
  | [], [], _, _ => rfl
  | [], _ :: _, h, _ => by simp at h
  | _ :: _, [], h, _ => by simp at h
  | x :: es, y :: m, h, hl => by
    simp only [List.map_cons, List.cons.injEq] at h ⊢
    exact ⟨by rw [Go.WideElems.rg_of (rd_txt h.1 (hl y (List.mem_cons_self ..)))]; rfl, rg_keys es m h.2 fun z hz => hl z (List.mem_cons_of_mem _ hz)⟩
theorem ents_fit {es : Array MapEntry} {clock : Nat} {m : List (List UInt8 × Value)} (h : EntsR es.toList clock m) (hl : ∀ x ∈ m, x.1.length ≤ maxLen) (hm : m.length ≤ maxLen) : Go.WideElems.Fit (H := Unit) Tryz.prog 9 (fun _ => some (.nil, [])) es clock := by
  have hk := ents_key h
  have hn := h.keys
  refine ⟨?_, ⟨h.old, h.born, ?_⟩, fun x hx => ?_⟩
  · have := h.len
    rw [Array.length_toList] at this; omega
  · rw [hk]
    have : (m.map fun x => txt x.1) = (m.map (·.1)).map txt := by rw [List.map_map]; rfl
    rw [this]
    refine List.pairwise_map.2 (hn.imp fun {a b} hne he => hne ?_)
    have h2 : (⟨a.toArray⟩ : ByteArray) = ⟨b.toArray⟩ := by injection he
    exact ba_inj h2
  · have hx2 : x.key ∈ m.map fun x => txt x.1 := by rw [← hk]; exact List.mem_map_of_mem hx
    obtain ⟨y, hy, he⟩ := List.mem_map.1 hx2
    exact ⟨_, rd_txt he.symm (hl y hy)⟩
theorem ents_own {b : Nat} {es : Array MapEntry} {clock : Nat} {m : List (List UInt8 × Value)} (h : EntsR es.toList clock m) (hl : ∀ x ∈ m, x.1.length ≤ maxLen) (hm : m.length ≤ maxLen) :
    ∃ D : DataW Unit, (∀ w : World, w.heap[b]? = some (.map es clock) → w.ownsMap Tryz.prog 9 (fun _ => some (.nil, [])) b es.size D) ∧ (strKeys D).Perm (m.map (·.1)) ∧ Maps.size D = m.length := by
  refine ⟨.map ((es.toList.map (Go.WideElems.rg Tryz.prog 9 fun _ => some (.nil, []))).foldr DataW.insert []), fun w hb => ⟨es, clock, hb, ents_fit h hl hm, Nat.le_refl _, rfl⟩, ?_, ?_⟩
  · have h1 := (Go.WideShapes.sorted_perm (es.toList.map (Go.WideElems.rg (H := Unit) Tryz.prog 9 fun _ => some (.nil, [])))).map fun p => strOf p.1
    rw [List.map_map] at h1
    exact h1.trans (List.Perm.of_eq (rg_keys es.toList m (ents_key h) hl))
  · show ((es.toList.map _).foldr DataW.insert []).length = _
    rw [length_sorted, List.length_map, h.len]
/-- slices.Sorted of that function value: the map's keys, sorted, in a new slice -/
theorem Sorted_tri (H : PH) (q b : Nat) (es : Array MapEntry) (clock : Nat) (m : List (List UInt8 × Value)) (hq : H q = some (.cells #[.map (some b)] 75 (0, 0))) (hb : H b = some (.map es clock)) (hE : EntsR es.toList clock m) (hl : ∀ x ∈ m, x.1.length ≤ maxLen) (hm : m.length ≤ 8000000000000) :
    Tri Tryz.prog 42 #[.func (.func 60) #[] #[.pointer (some ⟨q, 0, none⟩)]] H fun e H' => ∃ v, e = .returned v ∧ SlR H' ((m.map (·.1)).mergeSort leB) v ∧ PH.le H H' := by
  intro w hv
  have hmx : maxLen = 9223372036854775807 := rfl
  obtain ⟨D, hD1, hD2, hsz⟩ := ents_own (b := b) hE hl (by omega)
  have hown := hD1 w (hv b _ hb)
  have hseq : SeqGives Fence.wide 2 Tryz.prog 60 #[.pointer (some ⟨q, 0, none⟩)] encStr (fun ss => ss.Perm (strKeys D)) (Maps.size D) w :=
    AnyZ.keys_gives (ρ := Tryz.keys43_ren) { Tryz.keys43 with } Fence.wide _ trivial rfl (by omega) q b es.size D w (hv.lt hq) (hv.cell (PH.cell_at hq)) hown
  refine (callsIn_wide.1 (AnyZ.sorted_in Tryz.sorted42 Fence.wide 5 trivial trivial trivial trivial rfl (by omega) (Tryz.sorts42 _) (enters_of Tryz.func59 (by kernel_rfl) rfl) 60 #[.pointer (some ⟨q, 0, none⟩)] trivial (enters_of Tryz.func60 (by kernel_rfl) rfl) _ _ (by rw [hsz]; omega) (by rw [hsz]; omega) w hseq)).mono ?_
  rintro e w' ⟨v, ss, rfl, hp, hrow, _, hbel⟩
  have hp2 : ss.Perm (m.map (·.1)) := hp.trans hD2
  have hss : ∀ s ∈ ss.mergeSort leB, s.length ≤ maxLen := fun s hs => by
    obtain ⟨x, hx, rfl⟩ := List.mem_map.1 (hp2.mem_iff.1 ((List.mergeSort_perm ss leB).mem_iff.1 hs))
    exact hl x hx
  have hlen : (ss.mergeSort leB).length = ss.length := List.length_mergeSort ..
  rw [← mergeSort_of_perm hp2]
  have hrow1 := hrow.1
  rcases hrow.2 with ⟨rfl, hz⟩ | ⟨g, cap, cur, rfl, hbase, hg, h4, h5, h6, h7⟩
  · refine ⟨H, ⟨hbel.size, fun k o hk => ?_, fun k hk hn => ⟨hbel.block k hk, hn⟩, hbel.os, hbel.tape, hbel.output⟩, _, rfl, ?_, PH.le_refl _⟩
    · rw [hbel.block k (hv.lt hk)]; exact hv k o hk
    · have : ss.mergeSort leB = [] := List.length_eq_zero_iff.1 (by rw [hlen]; exact hz)
      rw [this]
      exact SlR.mk_iff.2 ⟨Nat.zero_le _, .inl ⟨rfl, rfl⟩⟩
  · have hgn : H g = none := by
      cases hx : H g with
      | none => rfl
      | some o => have := hv.lt hx; omega
    refine ⟨H.upd g (.cells cur 9 (0, 0)), ⟨hbel.size, fun k o hk => ?_, fun k hk hn => ⟨hbel.block k hk, ?_⟩, hbel.os, hbel.tape, hbel.output⟩, _, rfl, ?_, PH.le_upd hgn⟩
    · by_cases e1 : k = g
      · subst e1; rw [PH.upd_same] at hk; cases hk; exact hg
      · rw [PH.upd_other e1] at hk
        rw [hbel.block k (hv.lt hk)]; exact hv k o hk
    · rw [PH.upd_other (by omega)]; exact hn
    · have hr : Row (α := List UInt8) H (H.upd g (.cells cur 9 (0, 0))) 9 (ss.mergeSort leB) (.slice (some ⟨g, 0, none⟩) ss.length cap) := by
        refine ⟨fun g' hg' => ?_, (ss.mergeSort leB).map txt, ⟨?_, .inr ⟨g, cap, cur, ?_, PH.upd_same, ?_, h5, h6, ?_⟩⟩, txts_row H _ hss⟩
        · simp only [ob, Option.some.injEq] at hg'
          subst hg'; exact hgn
        · rw [List.length_map]; show _ = _ * 1; omega
        · rw [hlen]
        · rw [hlen]; exact h4
        · rw [hlen]; exact h7
      exact hr.slR (PH.le_upd hgn)
end Go.Proofs.YtibinelkmlcmgaaGreat.Vc
/-
  CORE: the program's renaming of an expression, walked.
-/
namespace Go.Proofs.YtibinelkmlcmgaaGreat.Vc
open Go Go.Sort

/-- what the names' loop leaves -/
structure NS (S : PH) (wr ib : Nat) (T : TypeId) (uv : Value) (S' H' : PH) (nk : Nat) (m : List (List UInt8 × Value)) : Prop where
  s : PH.le S S'
  i : PH.le S' H'
  w0 : S' wr = none
  b0 : S' ib = none
  w : H' wr = some (.cells #[uv, .int .i64 (nk : Int)] T (0, 0))
  b : ∃ es clock, H' ib = some (.map es clock) ∧ EntsR es.toList clock m
end Go.Proofs.YtibinelkmlcmgaaGreat.Vc
/-
  CORE: the program's Rename.
-/
namespace Go.Proofs.YtibinelkmlcmgaaGreat.Vc
open Go Go.Sort

theorem ex0_rep (H : PH) : (Xp.mk 0 [] [] dat0 []).Rep H [.int .i64 0, txt [], .slice none 0 0, .int .i64 0, .int .i64 0, txt [], .slice none 0 0, .slice none 0 0] := by
  have h0 : InI 0 := by decide
  refine Xp.Rep_iff.2 ⟨.slice none 0 0, .slice none 0 0, .slice none 0 0, rfl, h0, Nat.zero_le _, ?_, ?_, ?_⟩
  · exact SlR.mk_iff.2 ⟨Nat.zero_le _, .inl ⟨rfl, rfl⟩⟩
  · exact Dat.Rep_iff.2 ⟨.slice none 0 0, rfl, h0, h0, Nat.zero_le _, SlR.mk_iff.2 ⟨Nat.zero_le _, .inl ⟨rfl, rfl⟩⟩⟩
  · exact SlR.mk_iff.2 ⟨Nat.zero_le _, .inl ⟨rfl, rfl⟩⟩
end Go.Proofs.YtibinelkmlcmgaaGreat.Vc
/-
  CORE: the program's Free.
-/
namespace Go.Proofs.YtibinelkmlcmgaaGreat.Vc
open Go Go.Sort

theorem putM_mem (m : List (List UInt8 × Value)) (a : List UInt8) (v : Value) : ∀ x, x ∈ (putM m a v).map (·.1) ↔ x ∈ m.map (·.1) ∨ x = a := by
  intro x
  unfold putM
  have hmem : (getM m a).isSome = true → a ∈ m.map (·.1) := fun h => by
    obtain ⟨v, hv⟩ := Option.isSome_iff_exists.1 h
    unfold getM at hv
    obtain ⟨y, hy, _⟩ := Option.map_eq_some_iff.1 hv
    have h1 := List.mem_of_find?_eq_some hy
    have h2 := List.find?_some hy
    exact List.mem_map.2 ⟨y, h1, by simpa using h2⟩
  split
  · rename_i hs
    have : (m.map fun x => if x.1 = a then (a, v) else x).map (·.1) = m.map (·.1) := by
      rw [List.map_map]
      refine List.map_congr_left fun y _ => ?_
      show (if y.1 = a then (a, v) else y).1 = y.1
      split
      · rename_i h; exact h.symm
      · rfl
    rw [this]
    constructor
    · exact .inl
    · rintro (h | rfl)
      · exact h
      · exact hmem hs
  · rw [List.map_append, List.mem_append]
    simp
theorem putM_len (m : List (List UInt8 × Value)) (a : List UInt8) (v : Value) : (putM m a v).length ≤ m.length + 1 := by
  unfold putM
  split
  · rw [List.length_map]; omega
  · rw [List.length_append]; simp
theorem putsM_keys : ∀ (l : List (List UInt8)) (m : List (List UInt8 × Value)) (x : List UInt8), x ∈ (putsM m l).map (·.1) ↔ x ∈ m.map (·.1) ∨ x ∈ l
  | [], m, x => by simp [putsM]
  | a :: l, m, x => by
    show x ∈ (putsM (putM m a (.int .i64 1)) l).map (·.1) ↔ _
    rw [putsM_keys l, putM_mem, List.mem_cons, or_assoc]
theorem putsM_len : ∀ (l : List (List UInt8)) (m : List (List UInt8 × Value)), (putsM m l).length ≤ m.length + l.length
  | [], m => by simp [putsM]
  | a :: l, m => by
    have h1 := putsM_len l (putM m a (.int .i64 1))
    have h2 := putM_len m a (.int .i64 1)
    show (putsM (putM m a (.int .i64 1)) l).length ≤ _
    rw [List.length_cons]; omega
/-- the free names, each once, sorted -/
def freeS (l : List (List UInt8)) : List (List UInt8) := ((putsM [] l).map (·.1)).mergeSort leB
theorem mem_freeS {l : List (List UInt8)} {s : List UInt8} : s ∈ freeS l ↔ s ∈ l := by
  unfold freeS
  rw [(List.mergeSort_perm _ _).mem_iff, putsM_keys]
  simp
theorem Xps.mem_fr {bl inner : List (List UInt8)} {k : Int} {s : List UInt8} : ∀ {l : List Xp}, s ∈ Xps.fr bl inner k l → ∃ e ∈ l, ∃ b, s ∈ e.fr b
  | [], h => by simp [Xps.fr] at h
  | e :: l, h => by
    simp only [Xps.fr] at h
    rcases List.mem_append.1 h with h | h
    · exact ⟨e, List.mem_cons_self .., _, h⟩
    · obtain ⟨e', h1, h2⟩ := Xps.mem_fr h
      exact ⟨e', List.mem_cons_of_mem _ h1, h2⟩
theorem rep_fr : ∀ (e : Xp) (H : PH) (cs : List Value), e.Rep H cs → ∀ bl, ∀ s ∈ e.fr bl, s.length ≤ maxLen := by
  refine Xp.ind fun e ih H cs he bl s hs => ?_
  obtain ⟨nb, db, kb, nc, dc, kc, rfl, hx⟩ := Xp.Rep.open he
  rw [Xp.fr_eq] at hs
  rcases List.mem_append.1 hs with h | h
  · split at h
    · rw [List.mem_singleton.1 h]; exact hx.name
    · cases h
  · obtain ⟨k, hk, b, h⟩ := Xps.mem_fr h
    obtain ⟨i, hi, rfl⟩ := List.mem_iff_getElem.1 hk
    obtain ⟨_, _, ces, g2, _⟩ := hx.kids.get (List.getElem?_eq_getElem hi)
    exact ih _ hk H ces g2 b s h
mutual
theorem Xp.fr_len : ∀ (e : Xp) (bl : List (List UInt8)), (e.fr bl).length ≤ e.size
  | .mk k s ns d l, bl => by
    have := Xps.fr_len l bl (bl ++ ns) k
    simp only [Xp.fr, Xp.size, List.length_append]
    split <;> simp only [List.length_nil, List.length_cons] <;> omega
theorem Xps.fr_len : ∀ (l : List Xp) (bl inner : List (List UInt8)) (k : Int), (Xps.fr bl inner k l).length ≤ Xps.size l
  | [], _, _, _ => by simp [Xps.fr]
  | e :: l, bl, inner, k => by
    have h1 := Xp.fr_len e (if inB k l then inner else bl)
    have h2 := Xps.fr_len l bl inner k
    simp only [Xps.fr, Xps.size, List.length_append]; omega
end
theorem CFree_tri (e : Xp) (cs : List Value) (H : PH) (he : e.Rep H cs) (hn : e.bnd.length < 4000000000000000000) (hz : e.size ≤ 8000000000000) : Tri Tryz.prog n_core_Free #[.agg cs.toArray] H fun x H' => ∃ v, x = .returned v ∧ SlR H' (freeS (e.fr [])) v ∧ PH.le H H' := by
  have he' := he
  obtain ⟨nb, db, kb, nc, dc, kc, rfl, hx⟩ := Xp.Rep.open he
  refine tri_core_Free (exVs e nb db kb nc dc kc) (by kernel_rfl) (by kernel_rfl) ?_
  refine den_makeMap fun ub hub => ?_
  refine den_makeMap fun bb hbb => ?_
  have hne : bb ≠ ub := fun h => by rw [h, PH.upd_same] at hbb; cases hbb
  have hHb : H bb = none := by rw [PH.upd_other hne] at hbb; exact hbb
  have hF : FrH H bb ub [] [] ((H.upd ub (.map #[] 0)).upd bb (.map #[] 0)) :=
    ⟨le_updOff (le_updOff (PH.le_refl _) hub _) hHb _, ⟨#[], 0, PH.upd_same, EntsR.empty⟩, ⟨#[], 0, by rw [PH.upd_other (Ne.symm hne), PH.upd_same], EntsR.empty⟩⟩
  refine den_call cb_core_free (free_tri e _ H _ bb ub [] [] [] hHb hub hne he' hF (fun s => rfl) (by simpa using hn)) ?_
  rintro x H3 ⟨rfl, mb3, f3, _⟩
  refine ⟨_, [], rfl, rfl, rfl, pendNil, ?_⟩
  refine den_call (by kernel_rfl) (Keys_tri H3 ub) ?_
  rintro x H4 ⟨q, rfl, hq, h4⟩
  refine ⟨_, [_], rfl, rfl, rfl, pendNil, ?_⟩
  obtain ⟨es, c, h5, h6⟩ := f3.u
  have hl34 : PH.le H3 H4 := by rw [h4]; exact PH.le_upd hq
  refine den_call (by kernel_rfl) (Sorted_tri H4 q ub es c _ (by rw [h4]; exact PH.upd_same) (hl34 _ _ h5) h6 (fun x hx => ?_) ?_) ?_
  · have : x.1 ∈ (putsM [] (e.fr [])).map (·.1) := List.mem_map.2 ⟨x, hx, rfl⟩
    rw [putsM_keys] at this
    simp only [List.map_nil, List.not_mem_nil, false_or] at this
    exact rep_fr e H _ he' [] _ this
  · have h1 := putsM_len (e.fr []) []
    have h2 := Xp.fr_len e []
    simp only [List.length_nil] at h1; omega
  · rintro x H5 ⟨v, rfl, h7, h8⟩
    obtain ⟨b, cc, hv⟩ := h7.sl
    exact ⟨_, [v], rfl, by rw [hv]; rfl, rfl, pendNil, v, rfl, h7, PH.le_trans f3.le (PH.le_trans hl34 h8)⟩
end Go.Proofs.YtibinelkmlcmgaaGreat.Vc
/-
  CORE: an expression's datum.
-/
namespace Go.Proofs.YtibinelkmlcmgaaGreat.Vc
open Go

theorem Xps.okF_iff {t : Bool} : ∀ l : List Xp, Xps.okF t l ↔ ∀ e ∈ l, e.okF t
  | [] => by simp [Xps.okF]
  | e :: l => by simp only [Xps.okF, Xps.okF_iff l, List.mem_cons, forall_eq_or_imp]
theorem Xp.okF_form {t : Bool} {e : Xp} (h : e.okF t) : exForm e = true ∧ ∀ k ∈ e.kids, k.okF t := by
  cases e with
  | mk k s ns d l =>
    simp only [Xp.okF, Xps.okF_iff] at h
    refine ⟨?_, h.2⟩
    cases t with
    | true => exact exFormP_form h.1
    | false => exact h.1
/-! ### the small ones -/
end Go.Proofs.YtibinelkmlcmgaaGreat.Vc
/-
  CORE: the document's Check, Names.
-/
namespace Go.Proofs.YtibinelkmlcmgaaGreat.Vc
open Go

theorem wrap1 {n m : Nat} (hn : n ≤ 9223372036854775807) (hm : m ≤ 9223372036854775807) : ((m : Int) = IntKind.i64.wrap ((n : Int) + 1)) ↔ m = n + 1 := by
  by_cases h : n = 9223372036854775807
  · subst h
    have : IntKind.i64.wrap (((9223372036854775807 : Nat) : Int) + 1) = -9223372036854775808 := by decide +kernel
    rw [this]; omega
  · rw [w64 (by omega) (by omega)]; omega
theorem RNames6_gives (l : List (List UInt8)) (v : Value) (H : PH) (hl : SlR H l v) : Gives Tryz.prog n_scrimshawref06_names [v] H (.bool (namesOk l)) := by
  obtain ⟨b, c, rfl⟩ := hl.sl
  have hm := hl.max
  simp only [maxLen] at hm
  have hcap := hl.capLe
  refine tri_scrimshawref06_names [.slice b l.length c] (by kernel_rfl) (by kernel_rfl) ?_
  refine ⟨fun n vs H' => ∃ k : Nat, vs = [.bool false, .int .i64 k] ∧ k + n = l.length ∧ namesOk l = namesFrom (l.take k) (l.drop k) ∧ PH.le H H', ⟨l.length, 0, rfl, by omega, by simp [namesOk], PH.le_refl H⟩, ?_⟩
  rintro n vs H1 _ ⟨k, rfl, hkn, hn, hle⟩
  refine ⟨fun h => ?_, fun h => ?_⟩
  · simp only [ev0, ev, evV, List.cons_append, List.nil_append, List.getD_cons_zero, List.getD_cons_succ, List.map_cons, List.map_nil, iOf, bOf, sOf, pOf, slLen, slBase, cmpI, arI, Value.ite_bool, int_beq, int_bne, ite_band, ite_bor, decide_eq_true_eq] at h
    obtain ⟨a, ha⟩ : ∃ a, l[k]? = some a := ⟨_, List.getElem?_eq_getElem (show k < l.length by omega)⟩
    obtain ⟨g1, _, ces, g2, g3⟩ := (hl.le hle).get ha
    obtain ⟨rfl, hla⟩ := csTxts g2
    rw [drop_get ha] at hn
    refine ⟨fun vs H' => vs = [.bool (!nameOk a || (l.take k).contains a)] ∧ PH.le H H', ?_, ?_⟩
    · rintro vs H' _ ⟨rfl, h1⟩
      refine ⟨fun h2 => ?_, fun h2 => ?_⟩
      · simp only [ev0, ev, evV, List.cons_append, List.nil_append, List.getD_cons_zero, List.getD_cons_succ, List.map_cons, List.map_nil, iOf, bOf, sOf, pOf, slLen, slBase, cmpI, arI, Value.ite_bool, int_beq, int_bne, ite_band, ite_bor, Bool.or_eq_true, Bool.not_eq_true'] at h2
        rw [hn, namesFrom_stop h2]
        exact ⟨rfl, h1⟩
      · simp only [ev0, ev, evV, List.cons_append, List.nil_append, List.getD_cons_zero, List.getD_cons_succ, List.map_cons, List.map_nil, iOf, bOf, sOf, pOf, slLen, slBase, cmpI, arI, Value.ite_bool, int_beq, int_bne, ite_band, ite_bor, Bool.or_eq_false_iff, Bool.not_eq_false'] at h2
        refine ⟨_, lookup_hit, n - 1, by omega, k + 1, ?_, by omega, ?_, h1⟩
        · simp only [ev0, ev, evV, List.cons_append, List.nil_append, List.getD_cons_zero, List.getD_cons_succ, List.map_cons, List.map_nil, iOf, bOf, sOf, pOf, slLen, slBase, cmpI, arI, Value.ite_bool, int_beq, int_bne, ite_band, ite_bor]; rw [w64 (by omega) (by omega)]; rfl
        · rw [hn]
          simp only [namesFrom, h2.1, h2.2, Bool.not_false, Bool.true_and]
          rw [List.take_add_one, ha]; rfl
    · refine ⟨fun _ => ?_, [txt a], rfl, by simp only [ev0, ev, evV, List.cons_append, List.nil_append, List.getD_cons_zero, List.getD_cons_succ, List.map_cons, List.map_nil, iOf, bOf, sOf, pOf, slLen, slBase, cmpI, arI, Value.ite_bool, int_beq, int_bne, ite_band, ite_bor]; exact g3, ?_⟩
      · simp only [Chk.holds, ev0, ev, evV, List.cons_append, List.nil_append, List.getD_cons_zero, List.getD_cons_succ, List.map_cons, List.map_nil, iOf, bOf, sOf, pOf, slLen, slBase, cmpI, arI, Value.ite_bool, int_beq, int_bne, ite_band, ite_bor]; exact ⟨g1, by omega, by omega⟩
      refine den_gives [.bool (nameOk a)] cb_scrimshawref02_Name (RName_gives a hla H1) rfl pendNil fun H2 h2 => ⟨fun _ => ?_, fun h3 => ?_, fun h3 => ?_⟩
      · simp only [Chk.holds, ev0, ev, evV, List.cons_append, List.nil_append, List.getD_cons_zero, List.getD_cons_succ, List.map_cons, List.map_nil, iOf, bOf, sOf, pOf, slLen, slBase, cmpI, arI, Value.ite_bool, int_beq, int_bne, ite_band, ite_bor, slCap]; omega
      · simp only [ev0, ev, evV, List.cons_append, List.nil_append, List.getD_cons_zero, List.getD_cons_succ, List.map_cons, List.map_nil, iOf, bOf, sOf, pOf, slLen, slBase, cmpI, arI, Value.ite_bool, int_beq, int_bne, ite_band, ite_bor, Bool.not_eq_true'] at h3
        exact ⟨_, lookup_hit, by simp only [ev0, ev, evV, List.cons_append, List.nil_append, List.getD_cons_zero, List.getD_cons_succ, List.map_cons, List.map_nil, iOf, bOf, sOf, pOf, slLen, slBase, cmpI, arI, Value.ite_bool, int_beq, int_bne, ite_band, ite_bor, h3]; rfl, PH.le_trans hle h2⟩
      · simp only [ev0, ev, evV, List.cons_append, List.nil_append, List.getD_cons_zero, List.getD_cons_succ, List.map_cons, List.map_nil, iOf, bOf, sOf, pOf, slLen, slBase, cmpI, arI, Value.ite_bool, int_beq, int_bne, ite_band, ite_bor, Bool.not_eq_false'] at h3
        have hcut := (hl.le (PH.le_trans hle h2)).cut (a := 0) (b := k) (by omega) (by omega)
        rw [List.drop_zero] at hcut
        refine ⟨[txt a], rfl, by simp only [ev0, ev, evV, List.cons_append, List.nil_append, List.getD_cons_zero, List.getD_cons_succ, List.map_cons, List.map_nil, iOf, bOf, sOf, pOf, slLen, slBase, cmpI, arI, Value.ite_bool, int_beq, int_bne, ite_band, ite_bor]; exact rowAt_le h2 g3, ?_⟩
        refine den_gives [.bool ((l.take k).contains a)] cb_scrimshawref06_Has ?_ rfl pendNil fun H4 h4 => ⟨_, lookup_hit, by simp only [ev0, ev, evV, List.cons_append, List.nil_append, List.getD_cons_zero, List.getD_cons_succ, List.map_cons, List.map_nil, iOf, bOf, sOf, pOf, slLen, slBase, cmpI, arI, Value.ite_bool, int_beq, int_bne, ite_band, ite_bor, h3]; rfl, PH.le_trans hle (PH.le_trans h2 h4)⟩
        have := Has_gives (l.take k) a _ H2 hcut
        simp only [ev0, ev, evV, List.cons_append, List.nil_append, List.getD_cons_zero, List.getD_cons_succ, List.map_cons, List.map_nil, iOf, bOf, sOf, pOf, slLen, slBase, cmpI, arI, Value.ite_bool, int_beq, int_bne, ite_band, ite_bor]
        exact this
  · simp only [ev0, ev, evV, List.cons_append, List.nil_append, List.getD_cons_zero, List.getD_cons_succ, List.map_cons, List.map_nil, iOf, bOf, sOf, pOf, slLen, slBase, cmpI, arI, Value.ite_bool, int_beq, int_bne, ite_band, ite_bor, decide_eq_false_iff_not] at h
    rw [List.drop_eq_nil_of_le (by omega)] at hn
    rw [hn]
    exact ⟨rfl, hle⟩
theorem RConst_gives (d : Dat) (cs : List Value) (H : PH) (hd : d.Rep H cs) : Gives Tryz.prog n_scrimshawref06_Const [.agg cs.toArray] H (.bool (constOk d)) := by
  have hc := RCheckF_gives d cs H hd
  obtain ⟨sv, rfl, hk, hn, ht, hs⟩ := Dat.Rep_iff.1 hd
  obtain ⟨b, c, rfl⟩ := hs.sl
  refine tri_scrimshawref06_Const [.int .i64 d.kind, .int .i64 d.int, txt d.text, .slice b d.list.length c] (by kernel_rfl) (by kernel_rfl) ?_
  refine den_gives [.int .i64 (d.chk 0 0).2] cb_scrimshawref02_Check hc rfl pendNil fun H1 h1 => ⟨fun g => ⟨?_, h1⟩, fun g => ⟨?_, h1⟩⟩
  · simp only [ev0, ev, evV, List.cons_append, List.nil_append, List.getD_cons_zero, List.getD_cons_succ, List.map_cons, List.map_nil, iOf, bOf, sOf, pOf, slLen, slBase, cmpI, arI, Value.ite_bool, int_beq, int_bne, ite_band, ite_bor, decide_eq_true_eq] at g
    have : constOk d = false := by unfold constOk; simp [g]
    simp only [ev0, ev, evV, List.cons_append, List.nil_append, List.getD_cons_zero, List.getD_cons_succ, List.map_cons, List.map_nil, iOf, bOf, sOf, pOf, slLen, slBase, cmpI, arI, Value.ite_bool, int_beq, int_bne, ite_band, ite_bor, this]
  · simp only [ev0, ev, evV, List.cons_append, List.nil_append, List.getD_cons_zero, List.getD_cons_succ, List.map_cons, List.map_nil, iOf, bOf, sOf, pOf, slLen, slBase, cmpI, arI, Value.ite_bool, int_beq, int_bne, ite_band, ite_bor, decide_eq_false_iff_not, ne_eq, Decidable.not_not] at g
    simp only [ev0, ev, evV, List.cons_append, List.nil_append, List.getD_cons_zero, List.getD_cons_succ, List.map_cons, List.map_nil, iOf, bOf, sOf, pOf, slLen, slBase, cmpI, arI, Value.ite_bool, int_beq, int_bne, ite_band, ite_bor]
    congr 2
    unfold constOk
    rw [← list_empty]
    simp only [g, decide_true, Bool.true_and]
def ar1a : List (List UInt8) := ar1.take 10
def ar1b : List (List UInt8) := ar1.drop 10
def ar2a : List (List UInt8) := ar2.take 11
def ar2b : List (List UInt8) := ar2.drop 11
theorem ar1_con (p : List UInt8) : ar1.contains p = (ar1a.contains p || ar1b.contains p) := by
  conv => lhs; rw [show ar1 = ar1a ++ ar1b from (List.take_append_drop 10 ar1).symm]
  rw [List.contains_append]
theorem ar2_con (p : List UInt8) : ar2.contains p = (ar2a.contains p || ar2b.contains p) := by
  conv => lhs; rw [show ar2 = ar2a ++ ar2b from (List.take_append_drop 11 ar2).symm]
  rw [List.contains_append]
theorem RArity_gives (p : List UInt8) (H : PH) : Gives Tryz.prog n_scrimshawref06_Arity [txt p] H (.int .i64 (arityI p)) := by
  refine tri_scrimshawref06_Arity [txt p] (by kernel_rfl) (by kernel_rfl) ?_
  refine ⟨fun vs H' => vs = [.bool (ar0.contains p)] ∧ H' = H, ?_, ?_⟩
  · rintro vs H' _ ⟨rfl, rfl⟩
    refine ⟨fun h => ?_, fun h => ?_⟩
    · simp only [ev0, ev, evV, List.cons_append, List.nil_append, List.getD_cons_zero, List.getD_cons_succ, List.map_cons, List.map_nil, iOf, bOf, sOf, pOf, slLen, slBase, cmpI, arI, Value.ite_bool, int_beq, int_bne, ite_band, ite_bor] at h
      exact ⟨by simp only [ev0, ev, evV, List.cons_append, List.nil_append, List.getD_cons_zero, List.getD_cons_succ, List.map_cons, List.map_nil, iOf, bOf, sOf, pOf, slLen, slBase, cmpI, arI, Value.ite_bool, int_beq, int_bne, ite_band, ite_bor, arityI, h]; rfl, PH.le_refl _⟩
    simp only [ev0, ev, evV, List.cons_append, List.nil_append, List.getD_cons_zero, List.getD_cons_succ, List.map_cons, List.map_nil, iOf, bOf, sOf, pOf, slLen, slBase, cmpI, arI, Value.ite_bool, int_beq, int_bne, ite_band, ite_bor] at h
    refine ⟨fun vs H2 => vs = [.bool (ar1a.contains p)] ∧ H2 = H', ?_, ?_⟩
    · rintro vs H' _ ⟨rfl, rfl⟩
      refine ⟨fun h2 => ?_, fun h2 => ?_⟩
      · simp only [ev0, ev, evV, List.cons_append, List.nil_append, List.getD_cons_zero, List.getD_cons_succ, List.map_cons, List.map_nil, iOf, bOf, sOf, pOf, slLen, slBase, cmpI, arI, Value.ite_bool, int_beq, int_bne, ite_band, ite_bor] at h2
        exact ⟨by simp only [ev0, ev, evV, List.cons_append, List.nil_append, List.getD_cons_zero, List.getD_cons_succ, List.map_cons, List.map_nil, iOf, bOf, sOf, pOf, slLen, slBase, cmpI, arI, Value.ite_bool, int_beq, int_bne, ite_band, ite_bor, arityI, h, ar1_con, h2]; rfl, PH.le_refl _⟩
      simp only [ev0, ev, evV, List.cons_append, List.nil_append, List.getD_cons_zero, List.getD_cons_succ, List.map_cons, List.map_nil, iOf, bOf, sOf, pOf, slLen, slBase, cmpI, arI, Value.ite_bool, int_beq, int_bne, ite_band, ite_bor] at h2
      refine ⟨fun vs H2 => vs = [.bool (ar1b.contains p)] ∧ H2 = H', ?_, ?_⟩
      · rintro vs H' _ ⟨rfl, rfl⟩
        refine ⟨fun h3 => ?_, fun h3 => ?_⟩
        · simp only [ev0, ev, evV, List.cons_append, List.nil_append, List.getD_cons_zero, List.getD_cons_succ, List.map_cons, List.map_nil, iOf, bOf, sOf, pOf, slLen, slBase, cmpI, arI, Value.ite_bool, int_beq, int_bne, ite_band, ite_bor] at h3
          exact ⟨by simp only [ev0, ev, evV, List.cons_append, List.nil_append, List.getD_cons_zero, List.getD_cons_succ, List.map_cons, List.map_nil, iOf, bOf, sOf, pOf, slLen, slBase, cmpI, arI, Value.ite_bool, int_beq, int_bne, ite_band, ite_bor, arityI, h, ar1_con, h2, h3]; rfl, PH.le_refl _⟩
        simp only [ev0, ev, evV, List.cons_append, List.nil_append, List.getD_cons_zero, List.getD_cons_succ, List.map_cons, List.map_nil, iOf, bOf, sOf, pOf, slLen, slBase, cmpI, arI, Value.ite_bool, int_beq, int_bne, ite_band, ite_bor] at h3
        refine ⟨fun vs H3 => vs = [.bool (ar2a.contains p)] ∧ H3 = H', ?_, ?_⟩
        · rintro vs H' _ ⟨rfl, rfl⟩
          refine ⟨fun h4 => ?_, fun h4 => ?_⟩
          · simp only [ev0, ev, evV, List.cons_append, List.nil_append, List.getD_cons_zero, List.getD_cons_succ, List.map_cons, List.map_nil, iOf, bOf, sOf, pOf, slLen, slBase, cmpI, arI, Value.ite_bool, int_beq, int_bne, ite_band, ite_bor] at h4
            exact ⟨by simp only [ev0, ev, evV, List.cons_append, List.nil_append, List.getD_cons_zero, List.getD_cons_succ, List.map_cons, List.map_nil, iOf, bOf, sOf, pOf, slLen, slBase, cmpI, arI, Value.ite_bool, int_beq, int_bne, ite_band, ite_bor, arityI, h, ar1_con, h2, h3, ar2_con, h4]; rfl, PH.le_refl _⟩
          simp only [ev0, ev, evV, List.cons_append, List.nil_append, List.getD_cons_zero, List.getD_cons_succ, List.map_cons, List.map_nil, iOf, bOf, sOf, pOf, slLen, slBase, cmpI, arI, Value.ite_bool, int_beq, int_bne, ite_band, ite_bor] at h4
          refine ⟨fun vs H3 => vs = [.bool (ar2b.contains p)] ∧ H3 = H', ?_, ?_⟩
          · rintro vs H' _ ⟨rfl, rfl⟩
            refine ⟨fun h5 => ?_, fun h5 => ?_⟩
            · simp only [ev0, ev, evV, List.cons_append, List.nil_append, List.getD_cons_zero, List.getD_cons_succ, List.map_cons, List.map_nil, iOf, bOf, sOf, pOf, slLen, slBase, cmpI, arI, Value.ite_bool, int_beq, int_bne, ite_band, ite_bor] at h5
              exact ⟨by simp only [ev0, ev, evV, List.cons_append, List.nil_append, List.getD_cons_zero, List.getD_cons_succ, List.map_cons, List.map_nil, iOf, bOf, sOf, pOf, slLen, slBase, cmpI, arI, Value.ite_bool, int_beq, int_bne, ite_band, ite_bor, arityI, h, ar1_con, h2, h3, ar2_con, h4, h5]; rfl, PH.le_refl _⟩
            simp only [ev0, ev, evV, List.cons_append, List.nil_append, List.getD_cons_zero, List.getD_cons_succ, List.map_cons, List.map_nil, iOf, bOf, sOf, pOf, slLen, slBase, cmpI, arI, Value.ite_bool, int_beq, int_bne, ite_band, ite_bor] at h5
            refine ⟨fun h6 => ?_, fun h6 => ?_⟩
            · simp only [ev0, ev, evV, List.cons_append, List.nil_append, List.getD_cons_zero, List.getD_cons_succ, List.map_cons, List.map_nil, iOf, bOf, sOf, pOf, slLen, slBase, cmpI, arI, Value.ite_bool, int_beq, int_bne, ite_band, ite_bor, txt_eql] at h6
              have : ar3.contains p = true := by simp [ar3] at h6 ⊢; exact h6
              exact ⟨by simp only [ev0, ev, evV, List.cons_append, List.nil_append, List.getD_cons_zero, List.getD_cons_succ, List.map_cons, List.map_nil, iOf, bOf, sOf, pOf, slLen, slBase, cmpI, arI, Value.ite_bool, int_beq, int_bne, ite_band, ite_bor, arityI, h, ar1_con, h2, h3, ar2_con, h4, h5, this]; rfl, PH.le_refl _⟩
            · simp only [ev0, ev, evV, List.cons_append, List.nil_append, List.getD_cons_zero, List.getD_cons_succ, List.map_cons, List.map_nil, iOf, bOf, sOf, pOf, slLen, slBase, cmpI, arI, Value.ite_bool, int_beq, int_bne, ite_band, ite_bor, txt_eql] at h6
              have : ar3.contains p = false := by simp [ar3] at h6 ⊢; exact h6
              exact ⟨by simp only [ev0, ev, evV, List.cons_append, List.nil_append, List.getD_cons_zero, List.getD_cons_succ, List.map_cons, List.map_nil, iOf, bOf, sOf, pOf, slLen, slBase, cmpI, arI, Value.ite_bool, int_beq, int_bne, ite_band, ite_bor, arityI, h, ar1_con, h2, h3, ar2_con, h4, h5, this]; rfl, PH.le_refl _⟩
          · repeat' refine And.intro (fun h => ?_) (fun h => ?_)
            all_goals
              refine ⟨_, lookup_hit, ?_, rfl⟩
              simp only [ev0, ev, evV, List.cons_append, List.nil_append, List.getD_cons_zero, List.getD_cons_succ, List.map_cons, List.map_nil, iOf, bOf, sOf, pOf, slLen, slBase, cmpI, arI, Value.ite_bool, int_beq, int_bne, ite_band, ite_bor, txt_eql, decide_eq_true_eq, decide_eq_false_iff_not] at *
              simp_all [ar2b, ar2]
        · repeat' refine And.intro (fun h => ?_) (fun h => ?_)
          all_goals
            refine ⟨_, lookup_hit, ?_, rfl⟩
            simp only [ev0, ev, evV, List.cons_append, List.nil_append, List.getD_cons_zero, List.getD_cons_succ, List.map_cons, List.map_nil, iOf, bOf, sOf, pOf, slLen, slBase, cmpI, arI, Value.ite_bool, int_beq, int_bne, ite_band, ite_bor, txt_eql, decide_eq_true_eq, decide_eq_false_iff_not] at *
            simp_all [ar2a, ar2]
      · repeat' refine And.intro (fun h => ?_) (fun h => ?_)
        all_goals
          refine ⟨_, lookup_hit, ?_, rfl⟩
          simp only [ev0, ev, evV, List.cons_append, List.nil_append, List.getD_cons_zero, List.getD_cons_succ, List.map_cons, List.map_nil, iOf, bOf, sOf, pOf, slLen, slBase, cmpI, arI, Value.ite_bool, int_beq, int_bne, ite_band, ite_bor, txt_eql, decide_eq_true_eq, decide_eq_false_iff_not] at *
          simp_all [ar1b, ar1]
    · repeat' refine And.intro (fun h => ?_) (fun h => ?_)
      all_goals
        refine ⟨_, lookup_hit, ?_, rfl⟩
        simp only [ev0, ev, evV, List.cons_append, List.nil_append, List.getD_cons_zero, List.getD_cons_succ, List.map_cons, List.map_nil, iOf, bOf, sOf, pOf, slLen, slBase, cmpI, arI, Value.ite_bool, int_beq, int_bne, ite_band, ite_bor, txt_eql, decide_eq_true_eq, decide_eq_false_iff_not] at *
        simp_all [ar1a, ar1]
  · repeat' refine And.intro (fun h => ?_) (fun h => ?_)
    all_goals
      refine ⟨_, lookup_hit, ?_, rfl⟩
      simp only [ev0, ev, evV, List.cons_append, List.nil_append, List.getD_cons_zero, List.getD_cons_succ, List.map_cons, List.map_nil, iOf, bOf, sOf, pOf, slLen, slBase, cmpI, arI, Value.ite_bool, int_beq, int_bne, ite_band, ite_bor, txt_eql, decide_eq_true_eq, decide_eq_false_iff_not] at *
      simp_all [ar0]
/-- one expression's own fields -/
theorem RForm6_gives (e : Xp) (cs : List Value) (H : PH) (he : e.Rep H cs) : Gives Tryz.prog n_scrimshawref06_form [.agg cs.toArray] H (.bool (exForm e)) := by
  obtain ⟨nb, db, kb, nc, dc, kc, rfl, hx⟩ := Xp.Rep.open he
  have hn := hx.names.max
  have hk := hx.kids.max
  simp only [maxLen] at hn hk
  have hem : ∀ {α : Type} (l : List α), l.isEmpty = decide ((l.length : Int) = 0) := fun l => (list_empty l).symm
  have htx : e.name.isEmpty = decide (e.name = []) := by cases e.name <;> simp
  refine tri_scrimshawref06_form (exVs e nb db kb nc dc kc) (by kernel_rfl) (by kernel_rfl) ?_
  refine ⟨fun k0 => ?_, fun k0 => ?_⟩
  · simp only [ev0, ev, evV, List.cons_append, List.nil_append, List.getD_cons_zero, List.getD_cons_succ, List.map_cons, List.map_nil, iOf, bOf, sOf, pOf, slLen, slBase, cmpI, arI, Value.ite_bool, int_beq, int_bne, ite_band, ite_bor, decide_eq_true_eq] at k0
    have hE : exForm e = (e.name.isEmpty && e.names.isEmpty && e.kids.isEmpty && constOk e.const) := by unfold exForm; rw [if_pos k0]
    rw [hE]
    refine ⟨fun vs H' => vs = [.bool (e.name.isEmpty && e.names.isEmpty && e.kids.isEmpty && constOk e.const)] ∧ PH.le H H', ?_, ?_⟩
    · rintro vs H1 _ ⟨rfl, l1⟩; exact ⟨rfl, l1⟩
    refine ⟨fun g => ?_, fun g => ?_⟩
    · have g' : (e.name.isEmpty && e.names.isEmpty && e.kids.isEmpty) = true := by
        simp only [ev0, ev, evV, List.cons_append, List.nil_append, List.getD_cons_zero, List.getD_cons_succ, List.map_cons, List.map_nil, iOf, bOf, sOf, pOf, slLen, slBase, cmpI, arI, Value.ite_bool, int_beq, int_bne, ite_band, ite_bor, txt_eql] at g
        rw [htx, hem, hem]; exact g
      refine den_gives [.bool (constOk e.const)] cb_scrimshawref06_Const (RConst_gives e.const _ H hx.const) rfl pendNil fun H1 l1 => ⟨_, lookup_hit, ?_, l1⟩
      simp only [ev0, ev, evV, List.cons_append, List.nil_append, List.getD_cons_zero, List.getD_cons_succ, List.map_cons, List.map_nil, iOf, bOf, sOf, pOf, slLen, slBase, cmpI, arI, Value.ite_bool, int_beq, int_bne, ite_band, ite_bor, g', Bool.true_and]
    · have g' : (e.name.isEmpty && e.names.isEmpty && e.kids.isEmpty) = false := by
        simp only [ev0, ev, evV, List.cons_append, List.nil_append, List.getD_cons_zero, List.getD_cons_succ, List.map_cons, List.map_nil, iOf, bOf, sOf, pOf, slLen, slBase, cmpI, arI, Value.ite_bool, int_beq, int_bne, ite_band, ite_bor, txt_eql] at g
        rw [htx, hem, hem]; exact g
      refine ⟨_, lookup_hit, ?_, PH.le_refl H⟩
      simp only [ev0, ev, evV, List.cons_append, List.nil_append, List.getD_cons_zero, List.getD_cons_succ, List.map_cons, List.map_nil, iOf, bOf, sOf, pOf, slLen, slBase, cmpI, arI, Value.ite_bool, int_beq, int_bne, ite_band, ite_bor, g', Bool.false_and]
  simp only [ev0, ev, evV, List.cons_append, List.nil_append, List.getD_cons_zero, List.getD_cons_succ, List.map_cons, List.map_nil, iOf, bOf, sOf, pOf, slLen, slBase, cmpI, arI, Value.ite_bool, int_beq, int_bne, ite_band, ite_bor, decide_eq_false_iff_not] at k0
  refine ⟨fun vs H' => vs = [.bool (!(isDat0 e.const && namesOk e.names))] ∧ PH.le H H', ?_, ?_⟩
  rotate_left
  · refine den_gives [.bool (decide (e.const = .mk 0 0 [] []))] cb_scrimshawref02_Same (Same_gives e.const (.mk 0 0 [] []) _ _ H hx.const (dat0_rep H)) rfl pendNil fun H1 l1 => ⟨fun g => ?_, fun g => ?_⟩
    · simp only [ev0, ev, evV, List.cons_append, List.nil_append, List.getD_cons_zero, List.getD_cons_succ, List.map_cons, List.map_nil, iOf, bOf, sOf, pOf, slLen, slBase, cmpI, arI, Value.ite_bool, int_beq, int_bne, ite_band, ite_bor, isDat0_dec, Bool.not_eq_true'] at g
      refine ⟨_, lookup_hit, ?_, l1⟩
      simp only [ev0, ev, evV, List.cons_append, List.nil_append, List.getD_cons_zero, List.getD_cons_succ, List.map_cons, List.map_nil, iOf, bOf, sOf, pOf, slLen, slBase, cmpI, arI, Value.ite_bool, int_beq, int_bne, ite_band, ite_bor, g]; rfl
    · simp only [ev0, ev, evV, List.cons_append, List.nil_append, List.getD_cons_zero, List.getD_cons_succ, List.map_cons, List.map_nil, iOf, bOf, sOf, pOf, slLen, slBase, cmpI, arI, Value.ite_bool, int_beq, int_bne, ite_band, ite_bor, isDat0_dec, Bool.not_eq_false'] at g
      refine den_gives [.bool (namesOk e.names)] cb_scrimshawref06_names (RNames6_gives e.names _ H1 (hx.names.le l1)) rfl pendNil fun H2 l2 => ⟨_, lookup_hit, ?_, PH.le_trans l1 l2⟩
      simp only [ev0, ev, evV, List.cons_append, List.nil_append, List.getD_cons_zero, List.getD_cons_succ, List.map_cons, List.map_nil, iOf, bOf, sOf, pOf, slLen, slBase, cmpI, arI, Value.ite_bool, int_beq, int_bne, ite_band, ite_bor, g, Bool.true_and]
  rintro vs H1 _ ⟨rfl, l1⟩
  refine ⟨fun g => ?_, fun g => ?_⟩
  · simp only [ev0, ev, evV, List.cons_append, List.nil_append, List.getD_cons_zero, List.getD_cons_succ, List.map_cons, List.map_nil, iOf, bOf, sOf, pOf, slLen, slBase, cmpI, arI, Value.ite_bool, int_beq, int_bne, ite_band, ite_bor, Bool.not_eq_true'] at g
    refine ⟨?_, l1⟩
    have : exForm e = false := by unfold exForm; rw [if_neg k0]; simp only [g, Bool.false_and]
    simp only [ev0, ev, evV, List.cons_append, List.nil_append, List.getD_cons_zero, List.getD_cons_succ, List.map_cons, List.map_nil, iOf, bOf, sOf, pOf, slLen, slBase, cmpI, arI, Value.ite_bool, int_beq, int_bne, ite_band, ite_bor, this]
  simp only [ev0, ev, evV, List.cons_append, List.nil_append, List.getD_cons_zero, List.getD_cons_succ, List.map_cons, List.map_nil, iOf, bOf, sOf, pOf, slLen, slBase, cmpI, arI, Value.ite_bool, int_beq, int_bne, ite_band, ite_bor, Bool.not_eq_false'] at g
  refine den_gives [.bool (nameOk e.name)] cb_scrimshawref02_Name (RName_gives e.name hx.name H1) rfl pendNil fun H2 l2 => ?_
  have l02 := PH.le_trans l1 l2
  have hg : ∀ r : Bool, exForm e = (isDat0 e.const && namesOk e.names && r) → exForm e = r := fun r h => by rw [h, g]; rfl
  refine ⟨fun k1 => ⟨?_, l02⟩, fun k1 => ?_⟩
  · simp only [ev0, ev, evV, List.cons_append, List.nil_append, List.getD_cons_zero, List.getD_cons_succ, List.map_cons, List.map_nil, iOf, bOf, sOf, pOf, slLen, slBase, cmpI, arI, Value.ite_bool, int_beq, int_bne, ite_band, ite_bor, decide_eq_true_eq] at k1
    have hE := hg (nameOk e.name && e.names.isEmpty && decide (e.kids.length = 0)) (by unfold exForm; simp [k1])
    rw [hE, hem]; simp only [ev0, ev, evV, List.cons_append, List.nil_append, List.getD_cons_zero, List.getD_cons_succ, List.map_cons, List.map_nil, iOf, bOf, sOf, pOf, slLen, slBase, cmpI, arI, Value.ite_bool, int_beq, int_bne, ite_band, ite_bor]; congr 3; exact decide_eq_decide.2 (by omega)
  simp only [ev0, ev, evV, List.cons_append, List.nil_append, List.getD_cons_zero, List.getD_cons_succ, List.map_cons, List.map_nil, iOf, bOf, sOf, pOf, slLen, slBase, cmpI, arI, Value.ite_bool, int_beq, int_bne, ite_band, ite_bor, decide_eq_false_iff_not] at k1
  refine ⟨fun k2 => ⟨?_, l02⟩, fun k2 => ?_⟩
  · simp only [ev0, ev, evV, List.cons_append, List.nil_append, List.getD_cons_zero, List.getD_cons_succ, List.map_cons, List.map_nil, iOf, bOf, sOf, pOf, slLen, slBase, cmpI, arI, Value.ite_bool, int_beq, int_bne, ite_band, ite_bor, decide_eq_true_eq] at k2
    have hE := hg (nameOk e.name && e.names.isEmpty && decide (e.kids.length = 1)) (by unfold exForm; simp [k2])
    rw [hE, hem]; simp only [ev0, ev, evV, List.cons_append, List.nil_append, List.getD_cons_zero, List.getD_cons_succ, List.map_cons, List.map_nil, iOf, bOf, sOf, pOf, slLen, slBase, cmpI, arI, Value.ite_bool, int_beq, int_bne, ite_band, ite_bor]; congr 3; exact decide_eq_decide.2 (by omega)
  simp only [ev0, ev, evV, List.cons_append, List.nil_append, List.getD_cons_zero, List.getD_cons_succ, List.map_cons, List.map_nil, iOf, bOf, sOf, pOf, slLen, slBase, cmpI, arI, Value.ite_bool, int_beq, int_bne, ite_band, ite_bor, decide_eq_false_iff_not] at k2
  refine ⟨fun k3 => ⟨?_, l02⟩, fun k3 => ?_⟩
  · simp only [ev0, ev, evV, List.cons_append, List.nil_append, List.getD_cons_zero, List.getD_cons_succ, List.map_cons, List.map_nil, iOf, bOf, sOf, pOf, slLen, slBase, cmpI, arI, Value.ite_bool, int_beq, int_bne, ite_band, ite_bor, decide_eq_true_eq] at k3
    have hE := hg (e.name.isEmpty && e.names.isEmpty && decide (e.kids.length = 3)) (by unfold exForm; simp [k3])
    rw [hE, htx, hem]; simp only [ev0, ev, evV, List.cons_append, List.nil_append, List.getD_cons_zero, List.getD_cons_succ, List.map_cons, List.map_nil, iOf, bOf, sOf, pOf, slLen, slBase, cmpI, arI, Value.ite_bool, int_beq, int_bne, ite_band, ite_bor, txt_eql]; congr 3; exact decide_eq_decide.2 (by omega)
  simp only [ev0, ev, evV, List.cons_append, List.nil_append, List.getD_cons_zero, List.getD_cons_succ, List.map_cons, List.map_nil, iOf, bOf, sOf, pOf, slLen, slBase, cmpI, arI, Value.ite_bool, int_beq, int_bne, ite_band, ite_bor, decide_eq_false_iff_not] at k3
  refine ⟨fun k4 => ⟨?_, l02⟩, fun k4 => ?_⟩
  · simp only [ev0, ev, evV, List.cons_append, List.nil_append, List.getD_cons_zero, List.getD_cons_succ, List.map_cons, List.map_nil, iOf, bOf, sOf, pOf, slLen, slBase, cmpI, arI, Value.ite_bool, int_beq, int_bne, ite_band, ite_bor, decide_eq_true_eq] at k4
    have hE := hg (e.name.isEmpty && e.names.isEmpty && decide (2 ≤ e.kids.length)) (by unfold exForm; simp [k4])
    rw [hE, htx, hem]; simp only [ev0, ev, evV, List.cons_append, List.nil_append, List.getD_cons_zero, List.getD_cons_succ, List.map_cons, List.map_nil, iOf, bOf, sOf, pOf, slLen, slBase, cmpI, arI, Value.ite_bool, int_beq, int_bne, ite_band, ite_bor, txt_eql]; congr 3; exact decide_eq_decide.2 (by omega)
  simp only [ev0, ev, evV, List.cons_append, List.nil_append, List.getD_cons_zero, List.getD_cons_succ, List.map_cons, List.map_nil, iOf, bOf, sOf, pOf, slLen, slBase, cmpI, arI, Value.ite_bool, int_beq, int_bne, ite_band, ite_bor, decide_eq_false_iff_not] at k4
  refine ⟨fun k5 => ⟨?_, l02⟩, fun k5 => ?_⟩
  · simp only [ev0, ev, evV, List.cons_append, List.nil_append, List.getD_cons_zero, List.getD_cons_succ, List.map_cons, List.map_nil, iOf, bOf, sOf, pOf, slLen, slBase, cmpI, arI, Value.ite_bool, int_beq, int_bne, ite_band, ite_bor, decide_eq_true_eq] at k5
    have hE := hg (e.name.isEmpty && decide (e.names.length ≤ 6) && decide (e.kids.length = 1)) (by unfold exForm; simp [k5])
    have e1 : decide ((e.names.length : Int) ≤ 6) = decide (e.names.length ≤ 6) := decide_eq_decide.2 (by omega)
    have e2 : decide ((e.kids.length : Int) = 1) = decide (e.kids.length = 1) := decide_eq_decide.2 (by omega)
    rw [hE, htx]; simp only [ev0, ev, evV, List.cons_append, List.nil_append, List.getD_cons_zero, List.getD_cons_succ, List.map_cons, List.map_nil, iOf, bOf, sOf, pOf, slLen, slBase, cmpI, arI, Value.ite_bool, int_beq, int_bne, ite_band, ite_bor, txt_eql, e1, e2]
  simp only [ev0, ev, evV, List.cons_append, List.nil_append, List.getD_cons_zero, List.getD_cons_succ, List.map_cons, List.map_nil, iOf, bOf, sOf, pOf, slLen, slBase, cmpI, arI, Value.ite_bool, int_beq, int_bne, ite_band, ite_bor, decide_eq_false_iff_not] at k5
  refine ⟨fun k6 => ⟨?_, l02⟩, fun k6 => ?_⟩
  · simp only [ev0, ev, evV, List.cons_append, List.nil_append, List.getD_cons_zero, List.getD_cons_succ, List.map_cons, List.map_nil, iOf, bOf, sOf, pOf, slLen, slBase, cmpI, arI, Value.ite_bool, int_beq, int_bne, ite_band, ite_bor, decide_eq_true_eq] at k6
    have hE := hg (e.name.isEmpty && e.names.isEmpty && decide (1 ≤ e.kids.length) && decide (e.kids.length ≤ 7)) (by unfold exForm; simp [k6])
    have e1 : decide ((e.kids.length : Int) ≤ 7) = decide (e.kids.length ≤ 7) := decide_eq_decide.2 (by omega)
    have e2 : decide ((e.kids.length : Int) ≥ 1) = decide (1 ≤ e.kids.length) := decide_eq_decide.2 (by omega)
    rw [hE, htx, hem]; simp only [ev0, ev, evV, List.cons_append, List.nil_append, List.getD_cons_zero, List.getD_cons_succ, List.map_cons, List.map_nil, iOf, bOf, sOf, pOf, slLen, slBase, cmpI, arI, Value.ite_bool, int_beq, int_bne, ite_band, ite_bor, txt_eql, e1, e2]
  simp only [ev0, ev, evV, List.cons_append, List.nil_append, List.getD_cons_zero, List.getD_cons_succ, List.map_cons, List.map_nil, iOf, bOf, sOf, pOf, slLen, slBase, cmpI, arI, Value.ite_bool, int_beq, int_bne, ite_band, ite_bor, decide_eq_false_iff_not] at k6
  refine ⟨fun k7 => ?_, fun k7 => ?_⟩
  · simp only [ev0, ev, evV, List.cons_append, List.nil_append, List.getD_cons_zero, List.getD_cons_succ, List.map_cons, List.map_nil, iOf, bOf, sOf, pOf, slLen, slBase, cmpI, arI, Value.ite_bool, int_beq, int_bne, ite_band, ite_bor, decide_eq_true_eq] at k7
    have hE := hg (e.names.isEmpty && decide (arityI e.name = e.kids.length)) (by unfold exForm; simp [k7])
    rw [hE, hem]
    refine ⟨fun vs H' => vs = [.bool (decide ((e.names.length : Int) = 0) && decide (arityI e.name = e.kids.length))] ∧ PH.le H H', ?_, ?_⟩
    · rintro vs H3 _ ⟨rfl, l3⟩; exact ⟨rfl, l3⟩
    refine ⟨fun gn => ?_, fun gn => ?_⟩
    · simp only [ev0, ev, evV, List.cons_append, List.nil_append, List.getD_cons_zero, List.getD_cons_succ, List.map_cons, List.map_nil, iOf, bOf, sOf, pOf, slLen, slBase, cmpI, arI, Value.ite_bool, int_beq, int_bne, ite_band, ite_bor] at gn
      refine den_gives [.int .i64 (arityI e.name)] cb_scrimshawref06_Arity (RArity_gives e.name H2) rfl pendNil fun H3 l3 => ⟨_, lookup_hit, ?_, PH.le_trans l02 l3⟩
      simp only [ev0, ev, evV, List.cons_append, List.nil_append, List.getD_cons_zero, List.getD_cons_succ, List.map_cons, List.map_nil, iOf, bOf, sOf, pOf, slLen, slBase, cmpI, arI, Value.ite_bool, int_beq, int_bne, ite_band, ite_bor, gn, Bool.true_and]
    · simp only [ev0, ev, evV, List.cons_append, List.nil_append, List.getD_cons_zero, List.getD_cons_succ, List.map_cons, List.map_nil, iOf, bOf, sOf, pOf, slLen, slBase, cmpI, arI, Value.ite_bool, int_beq, int_bne, ite_band, ite_bor] at gn
      refine ⟨_, lookup_hit, ?_, l02⟩
      simp only [ev0, ev, evV, List.cons_append, List.nil_append, List.getD_cons_zero, List.getD_cons_succ, List.map_cons, List.map_nil, iOf, bOf, sOf, pOf, slLen, slBase, cmpI, arI, Value.ite_bool, int_beq, int_bne, ite_band, ite_bor, gn, Bool.false_and]
  simp only [ev0, ev, evV, List.cons_append, List.nil_append, List.getD_cons_zero, List.getD_cons_succ, List.map_cons, List.map_nil, iOf, bOf, sOf, pOf, slLen, slBase, cmpI, arI, Value.ite_bool, int_beq, int_bne, ite_band, ite_bor, decide_eq_false_iff_not] at k7
  refine ⟨fun k8 => ⟨?_, l02⟩, fun k8 => ?_⟩
  · have k8' : e.kind = 8 ∨ e.kind = 9 := by
      simp only [ev0, ev, evV, List.cons_append, List.nil_append, List.getD_cons_zero, List.getD_cons_succ, List.map_cons, List.map_nil, iOf, bOf, sOf, pOf, slLen, slBase, cmpI, arI, Value.ite_bool, int_beq, int_bne, ite_band, ite_bor] at k8
      by_cases h : e.kind = 8
      · exact .inl h
      · right; simpa [h] using k8
    have hE := hg (e.name.isEmpty && decide (e.kids.length = e.names.length + 1)) (by unfold exForm; rcases k8' with h | h <;> simp [h])
    have e1 : decide ((e.kids.length : Int) = IntKind.i64.wrap ((e.names.length : Int) + 1)) = decide (e.kids.length = e.names.length + 1) := decide_eq_decide.2 (wrap1 hn hk)
    rw [hE, htx]; simp only [ev0, ev, evV, List.cons_append, List.nil_append, List.getD_cons_zero, List.getD_cons_succ, List.map_cons, List.map_nil, iOf, bOf, sOf, pOf, slLen, slBase, cmpI, arI, Value.ite_bool, int_beq, int_bne, ite_band, ite_bor, txt_eql, e1]
  have k8' : ¬ (e.kind = 8 ∨ e.kind = 9) := by
    rintro (h | h) <;> simp [ev0, ev, evV, List.cons_append, List.nil_append, List.getD_cons_zero, List.getD_cons_succ, List.map_cons, List.map_nil, iOf, bOf, sOf, pOf, slLen, slBase, cmpI, arI, Value.ite_bool, int_beq, int_bne, ite_band, ite_bor, h] at k8
  refine ⟨fun ka => ?_, fun ka => ⟨?_, l02⟩⟩
  · simp only [ev0, ev, evV, List.cons_append, List.nil_append, List.getD_cons_zero, List.getD_cons_succ, List.map_cons, List.map_nil, iOf, bOf, sOf, pOf, slLen, slBase, cmpI, arI, Value.ite_bool, int_beq, int_bne, ite_band, ite_bor, decide_eq_true_eq] at ka
    have hE := hg (e.name.isEmpty && decide (1 ≤ e.names.length) && decide (e.kids.length = e.names.length + 1) && (e.kids.take e.names.length).all fun k => decide (k.kind = 5)) (by unfold exForm; simp [ka])
    rw [hE]
    refine ⟨fun gq => ⟨?_, l02⟩, fun gq => ?_⟩
    · have : (e.name.isEmpty && decide (1 ≤ e.names.length) && decide (e.kids.length = e.names.length + 1)) = false := by
        have e1 := wrap1 (n := e.names.length) (m := e.kids.length) hn hk
        simp only [ev0, ev, evV, List.cons_append, List.nil_append, List.getD_cons_zero, List.getD_cons_succ, List.map_cons, List.map_nil, iOf, bOf, sOf, pOf, slLen, slBase, cmpI, arI, Value.ite_bool, int_beq, int_bne, ite_band, ite_bor, txt_neq, ne_eq, e1] at gq
        rw [Bool.eq_false_iff]
        intro hq
        simp only [Bool.and_eq_true, decide_eq_true_eq, List.isEmpty_iff] at hq
        obtain ⟨⟨h1, h2⟩, h3⟩ := hq
        simp only [h1, ne_eq, not_true_eq_false, decide_false, Bool.false_or, Bool.or_eq_true, decide_eq_true_eq] at gq
        omega
      simp only [ev0, ev, evV, List.cons_append, List.nil_append, List.getD_cons_zero, List.getD_cons_succ, List.map_cons, List.map_nil, iOf, bOf, sOf, pOf, slLen, slBase, cmpI, arI, Value.ite_bool, int_beq, int_bne, ite_band, ite_bor, this, Bool.false_and]
    · have hq : e.name = [] ∧ 1 ≤ e.names.length ∧ e.kids.length = e.names.length + 1 := by
        have e1 := wrap1 (n := e.names.length) (m := e.kids.length) hn hk
        simp only [ev0, ev, evV, List.cons_append, List.nil_append, List.getD_cons_zero, List.getD_cons_succ, List.map_cons, List.map_nil, iOf, bOf, sOf, pOf, slLen, slBase, cmpI, arI, Value.ite_bool, int_beq, int_bne, ite_band, ite_bor, txt_neq, ne_eq, e1] at gq
        simp only [Bool.or_eq_false_iff, decide_eq_false_iff_not, ne_eq, Decidable.not_not] at gq
        obtain ⟨⟨h1, h2⟩, h3⟩ := gq
        exact ⟨h1, by omega, by omega⟩
      obtain ⟨hq1, hq2, hq3⟩ := id hq
      have hq' : (e.name.isEmpty && decide (1 ≤ e.names.length) && decide (e.kids.length = e.names.length + 1)) = true := by
        rw [hq.1]; simp [hq.2.1, hq.2.2]
      rw [hq', Bool.true_and]
      refine ⟨fun n vs H' => ∃ k : Nat, vs = [.bool false, .int .i64 k] ∧ k + n = e.names.length ∧ ((e.kids.take k).all fun k => decide (k.kind = 5)) = true ∧ PH.le H H', ⟨e.names.length, 0, rfl, by omega, by simp, l02⟩, ?_⟩
      rintro n vs H3 _ ⟨k, rfl, hkn, hall, l3⟩
      refine ⟨fun gk => ?_, fun gk => ?_⟩
      · simp only [ev0, ev, evV, List.cons_append, List.nil_append, List.getD_cons_zero, List.getD_cons_succ, List.map_cons, List.map_nil, iOf, bOf, sOf, pOf, slLen, slBase, cmpI, arI, Value.ite_bool, int_beq, int_bne, ite_band, ite_bor, decide_eq_true_eq] at gk
        obtain ⟨a, ha⟩ : ∃ a, e.kids[k]? = some a := ⟨_, List.getElem?_eq_getElem (show k < e.kids.length by omega)⟩
        obtain ⟨q1, _, ces, q2, q3⟩ := (hx.kids.le l3).get ha
        obtain ⟨p1, p2, p3, p4, p5, p6, rfl, _⟩ := Xp.Rep.open q2
        refine ⟨fun _ => ?_, [.int .i64 a.kind], rfl, ?_, ?_⟩
        · simp only [Chk.holds, ev0, ev, evV, List.cons_append, List.nil_append, List.getD_cons_zero, List.getD_cons_succ, List.map_cons, List.map_nil, iOf, bOf, sOf, pOf, slLen, slBase, cmpI, arI, Value.ite_bool, int_beq, int_bne, ite_band, ite_bor]; exact ⟨q1, by omega, by omega⟩
        · simp only [ev0, ev, evV, List.cons_append, List.nil_append, List.getD_cons_zero, List.getD_cons_succ, List.map_cons, List.map_nil, iOf, bOf, sOf, pOf, slLen, slBase, cmpI, arI, Value.ite_bool, int_beq, int_bne, ite_band, ite_bor]
          have := rowAt_sub q3 0 1
          exact this
        refine ⟨fun g5 => ⟨?_, l3⟩, fun g5 => ?_⟩
        · simp only [ev0, ev, evV, List.cons_append, List.nil_append, List.getD_cons_zero, List.getD_cons_succ, List.map_cons, List.map_nil, iOf, bOf, sOf, pOf, slLen, slBase, cmpI, arI, Value.ite_bool, int_beq, int_bne, ite_band, ite_bor, decide_eq_true_eq] at g5
          have : ((e.kids.take e.names.length).all fun k => decide (k.kind = 5)) = false := by
            rw [Bool.eq_false_iff]
            intro h
            have := List.all_eq_true.1 h a (List.mem_iff_getElem?.2 ⟨k, by rw [List.getElem?_take, if_pos (by omega)]; exact ha⟩)
            exact g5 (of_decide_eq_true this)
          simp only [ev0, ev, evV, List.cons_append, List.nil_append, List.getD_cons_zero, List.getD_cons_succ, List.map_cons, List.map_nil, iOf, bOf, sOf, pOf, slLen, slBase, cmpI, arI, Value.ite_bool, int_beq, int_bne, ite_band, ite_bor, this]
        · simp only [ev0, ev, evV, List.cons_append, List.nil_append, List.getD_cons_zero, List.getD_cons_succ, List.map_cons, List.map_nil, iOf, bOf, sOf, pOf, slLen, slBase, cmpI, arI, Value.ite_bool, int_beq, int_bne, ite_band, ite_bor, decide_eq_false_iff_not, ne_eq, Decidable.not_not] at g5
          refine ⟨_, lookup_hit, n - 1, by omega, k + 1, ?_, by omega, ?_, l3⟩
          · simp only [ev0, ev, evV, List.cons_append, List.nil_append, List.getD_cons_zero, List.getD_cons_succ, List.map_cons, List.map_nil, iOf, bOf, sOf, pOf, slLen, slBase, cmpI, arI, Value.ite_bool, int_beq, int_bne, ite_band, ite_bor]; rw [w64 (by omega) (by omega)]; rfl
          · rw [List.take_add_one, ha, List.all_append, hall]; simp [g5]
      · simp only [ev0, ev, evV, List.cons_append, List.nil_append, List.getD_cons_zero, List.getD_cons_succ, List.map_cons, List.map_nil, iOf, bOf, sOf, pOf, slLen, slBase, cmpI, arI, Value.ite_bool, int_beq, int_bne, ite_band, ite_bor, decide_eq_false_iff_not] at gk
        have : k = e.names.length := by omega
        subst this
        refine ⟨?_, l3⟩
        simp only [ev0, ev, evV, List.cons_append, List.nil_append, List.getD_cons_zero, List.getD_cons_succ, List.map_cons, List.map_nil, iOf, bOf, sOf, pOf, slLen, slBase, cmpI, arI, Value.ite_bool, int_beq, int_bne, ite_band, ite_bor, hall]
  · simp only [ev0, ev, evV, List.cons_append, List.nil_append, List.getD_cons_zero, List.getD_cons_succ, List.map_cons, List.map_nil, iOf, bOf, sOf, pOf, slLen, slBase, cmpI, arI, Value.ite_bool, int_beq, int_bne, ite_band, ite_bor, decide_eq_false_iff_not] at ka
    have : exForm e = false := by unfold exForm; simp [k0, k1, k2, k3, k4, k5, k6, k7, k8', ka]
    simp only [ev0, ev, evV, List.cons_append, List.nil_append, List.getD_cons_zero, List.getD_cons_succ, List.map_cons, List.map_nil, iOf, bOf, sOf, pOf, slLen, slBase, cmpI, arI, Value.ite_bool, int_beq, int_bne, ite_band, ite_bor, this]

/-! ### Check -/
theorem RCheck6_gives : ∀ (d : Xp) (cs : List Value) (H : PH) (deep seen : Nat), d.Rep H cs → deep ≤ 250 → seen ≤ 4096 →
    Gives Tryz.prog n_scrimshawref06_check [.agg cs.toArray, .int .i64 deep, .int .i64 seen] H (.tuple #[.int .i64 (d.chk false deep seen).1, .int .i64 (d.chk false deep seen).2]) := by
  refine Xp.ind fun d ih cs H deep seen hd hdeep hseen => ?_
  have hd' := hd
  obtain ⟨nb, db, kb, nc, dc, kc, rfl, hx⟩ := Xp.Rep.open hd
  have hs := hx.kids
  have hlen := hs.max
  simp only [maxLen] at hlen
  have hs1 : IntKind.i64.wrap ((seen : Int) + 1) = ((seen + 1 : Nat) : Int) := by rw [w64 (by omega) (by omega)]; omega
  have hd1 : IntKind.i64.wrap ((deep : Int) + 1) = ((deep + 1 : Nat) : Int) := by rw [w64 (by omega) (by omega)]; omega
  rw [Xp.chk_eq]
  refine tri_scrimshawref06_check (exVs d nb db kb nc dc kc ++ [.int .i64 deep, .int .i64 seen]) (by kernel_rfl) (by kernel_rfl) ?_
  refine ⟨fun h0 => ?_, fun h0 => ?_⟩
  · simp only [ev0, ev, evV, List.cons_append, List.nil_append, List.getD_cons_zero, List.getD_cons_succ, List.map_cons, List.map_nil, iOf, bOf, sOf, pOf, slLen, slBase, cmpI, arI, Value.ite_bool, int_beq, int_bne, ite_band, ite_bor, decide_eq_true_eq] at h0
    have h0' : seen = 4096 := by omega
    refine ⟨?_, PH.le_refl _⟩
    rw [if_pos h0']; rfl
  simp only [ev0, ev, evV, List.cons_append, List.nil_append, List.getD_cons_zero, List.getD_cons_succ, List.map_cons, List.map_nil, iOf, bOf, sOf, pOf, slLen, slBase, cmpI, arI, Value.ite_bool, int_beq, int_bne, ite_band, ite_bor, decide_eq_false_iff_not] at h0
  rw [if_neg (show ¬ seen = 4096 by omega)]
  refine ⟨fun h3 => ?_, fun h3 => ?_⟩
  · simp only [ev0, ev, evV, List.cons_append, List.nil_append, List.getD_cons_zero, List.getD_cons_succ, List.map_cons, List.map_nil, iOf, bOf, sOf, pOf, slLen, slBase, cmpI, arI, Value.ite_bool, int_beq, int_bne, ite_band, ite_bor, decide_eq_true_eq] at h3
    have h3' : 250 ≤ deep := by omega
    refine ⟨?_, PH.le_refl _⟩
    rw [if_pos h3']
    simp only [evV_tu2]
    simp only [ev0, ev, evV, List.cons_append, List.nil_append, List.getD_cons_zero, List.getD_cons_succ, List.map_cons, List.map_nil, iOf, bOf, sOf, pOf, slLen, slBase, cmpI, arI, Value.ite_bool, int_beq, int_bne, ite_band, ite_bor, hs1]
  simp only [ev0, ev, evV, List.cons_append, List.nil_append, List.getD_cons_zero, List.getD_cons_succ, List.map_cons, List.map_nil, iOf, bOf, sOf, pOf, slLen, slBase, cmpI, arI, Value.ite_bool, int_beq, int_bne, ite_band, ite_bor, decide_eq_false_iff_not] at h3
  rw [if_neg (show ¬ 250 ≤ deep by omega)]
  refine den_gives [.bool (exForm d)] cb_scrimshawref06_form (RForm6_gives d _ H hd') rfl pendNil fun H3 h4 => ?_
  simp only [Bool.false_eq_true, if_false]
  refine ⟨fun h5 => ?_, fun h5 => ?_⟩
  · simp only [ev0, ev, evV, List.cons_append, List.nil_append, List.getD_cons_zero, List.getD_cons_succ, List.map_cons, List.map_nil, iOf, bOf, sOf, pOf, slLen, slBase, cmpI, arI, Value.ite_bool, int_beq, int_bne, ite_band, ite_bor, Bool.not_eq_true'] at h5
    refine ⟨?_, h4⟩
    rw [if_pos h5]
    simp only [evV_tu2]
    simp only [ev0, ev, evV, List.cons_append, List.nil_append, List.getD_cons_zero, List.getD_cons_succ, List.map_cons, List.map_nil, iOf, bOf, sOf, pOf, slLen, slBase, cmpI, arI, Value.ite_bool, int_beq, int_bne, ite_band, ite_bor, hs1]
  simp only [ev0, ev, evV, List.cons_append, List.nil_append, List.getD_cons_zero, List.getD_cons_succ, List.map_cons, List.map_nil, iOf, bOf, sOf, pOf, slLen, slBase, cmpI, arI, Value.ite_bool, int_beq, int_bne, ite_band, ite_bor, Bool.not_eq_false'] at h5
  rw [if_neg (show ¬ exForm d = false by rw [h5]; simp)]
  refine ⟨fun n vs H' => ∃ (k s : Nat), vs = [.int .i64 s, .int .i64 0, .int .i64 0, .int .i64 0, .int .i64 k] ∧ k + n = d.kids.length ∧ s ≤ 4096 ∧ Xps.chk false d.kids (deep + 1) (seen + 1) = Xps.chk false (d.kids.drop k) (deep + 1) s ∧ PH.le H H',
    ⟨d.kids.length, 0, seen + 1, by simp only [ev0, ev, evV, List.cons_append, List.nil_append, List.getD_cons_zero, List.getD_cons_succ, List.map_cons, List.map_nil, iOf, bOf, sOf, pOf, slLen, slBase, cmpI, arI, Value.ite_bool, int_beq, int_bne, ite_band, ite_bor, hs1]; rfl, by omega, by omega, by simp, h4⟩, ?_⟩
  rintro n vs H' _ ⟨k, s, rfl, hkn, hs4, heq, hle⟩
  refine ⟨fun h6 => ?_, fun h6 => ?_⟩
  · simp only [ev0, ev, evV, List.cons_append, List.nil_append, List.getD_cons_zero, List.getD_cons_succ, List.map_cons, List.map_nil, iOf, bOf, sOf, pOf, slLen, slBase, cmpI, arI, Value.ite_bool, int_beq, int_bne, ite_band, ite_bor, decide_eq_true_eq] at h6
    have hkl : k < d.kids.length := by omega
    obtain ⟨e, he⟩ : ∃ e, d.kids[k]? = some e := ⟨_, List.getElem?_eq_getElem hkl⟩
    obtain ⟨g1, _, ces, g2, g3⟩ := (hs.le hle).get he
    refine ⟨fun _ => ?_, ?_⟩
    · simp only [Chk.holds, ev0, ev, evV, List.cons_append, List.nil_append, List.getD_cons_zero, List.getD_cons_succ, List.map_cons, List.map_nil, iOf, bOf, sOf, pOf, slLen, slBase, cmpI, arI, Value.ite_bool, int_beq, int_bne, ite_band, ite_bor]; exact ⟨g1, by omega, by omega⟩
    have htags := Xp.Rep.tags g2
    have hcall := ih e (List.mem_of_getElem? he) ces H' (deep + 1) s g2 (by omega) hs4
    obtain ⟨nb', db', kb', nc', dc', kc', rfl, _⟩ := Xp.Rep.open g2
    refine ⟨_, htags, by simp only [ev0, ev, evV, List.cons_append, List.nil_append, List.getD_cons_zero, List.getD_cons_succ, List.map_cons, List.map_nil, iOf, bOf, sOf, pOf, slLen, slBase, cmpI, arI, Value.ite_bool, int_beq, int_bne, ite_band, ite_bor]; exact g3, ?_⟩
    refine den_gives [.int .i64 (e.chk false (deep + 1) s).1, .int .i64 (e.chk false (deep + 1) s).2] cb_scrimshawref06_check ?_ rfl pendNil fun H4 l4 => ?_
    · simp only [ev0, ev, evV, List.cons_append, List.nil_append, List.getD_cons_zero, List.getD_cons_succ, List.map_cons, List.map_nil, iOf, bOf, sOf, pOf, slLen, slBase, cmpI, arI, Value.ite_bool, int_beq, int_bne, ite_band, ite_bor, hd1]
      exact hcall
    have hle4 := PH.le_trans hle l4
    rw [drop_get he] at heq
    simp only [Xps.chk] at heq
    refine ⟨fun h7 => ?_, fun h7 => ?_⟩
    · simp only [ev0, ev, evV, List.cons_append, List.nil_append, List.getD_cons_zero, List.getD_cons_succ, List.map_cons, List.map_nil, iOf, bOf, sOf, pOf, slLen, slBase, cmpI, arI, Value.ite_bool, int_beq, int_bne, ite_band, ite_bor, decide_eq_true_eq] at h7
      rw [if_pos h7] at heq
      refine ⟨?_, hle4⟩
      rw [heq]; rfl
    · simp only [ev0, ev, evV, List.cons_append, List.nil_append, List.getD_cons_zero, List.getD_cons_succ, List.map_cons, List.map_nil, iOf, bOf, sOf, pOf, slLen, slBase, cmpI, arI, Value.ite_bool, int_beq, int_bne, ite_band, ite_bor, decide_eq_false_iff_not, ne_eq, Decidable.not_not] at h7
      rw [if_neg (by simp [h7])] at heq
      refine ⟨_, lookup_hit, n - 1, by omega, k + 1, (e.chk false (deep + 1) s).1, ?_, by omega, Xp.chk_le false e _ _ hs4, heq, hle4⟩
      simp only [ev0, ev, evV, List.cons_append, List.nil_append, List.getD_cons_zero, List.getD_cons_succ, List.map_cons, List.map_nil, iOf, bOf, sOf, pOf, slLen, slBase, cmpI, arI, Value.ite_bool, int_beq, int_bne, ite_band, ite_bor, h7]
      rw [w64 (by omega) (by omega)]
      rfl
  · simp only [ev0, ev, evV, List.cons_append, List.nil_append, List.getD_cons_zero, List.getD_cons_succ, List.map_cons, List.map_nil, iOf, bOf, sOf, pOf, slLen, slBase, cmpI, arI, Value.ite_bool, int_beq, int_bne, ite_band, ite_bor, decide_eq_false_iff_not] at h6
    have : k = d.kids.length := by omega
    subst this
    rw [List.drop_length] at heq
    simp only [Xps.chk] at heq
    refine ⟨?_, hle⟩
    rw [heq]; rfl
theorem RCheckF6_gives (d : Xp) (cs : List Value) (H : PH) (hd : d.Rep H cs) : Gives Tryz.prog n_scrimshawref06_Check [.agg cs.toArray] H (.int .i64 (d.chk false 0 0).2) := by
  have hd' := hd
  obtain ⟨nb, db, kb, nc, dc, kc, rfl, hx⟩ := Xp.Rep.open hd
  refine tri_scrimshawref06_Check (exVs d nb db kb nc dc kc) (by kernel_rfl) (by kernel_rfl) ?_
  refine den_gives [.int .i64 (d.chk false 0 0).1, .int .i64 (d.chk false 0 0).2] cb_scrimshawref06_check (RCheck6_gives d _ H 0 0 hd' (by omega) (by omega)) rfl pendNil fun H1 l1 => ⟨rfl, l1⟩
mutual
/-- both say the same of what is not large -/
theorem Xp.chk_same : ∀ (e : Xp) (deep seen : Nat), e.size ≤ 4097 → e.chk true deep seen = e.chk false deep seen
  | .mk k s ns d l, deep, seen, h => by
    simp only [Xp.size] at h
    have h1 := Xps.size_len l
    have hf : exFormP (.mk k s ns d l) = exForm (.mk k s ns d l) := by
      unfold exFormP
      have : ¬ 4096 < (Xp.mk k s ns d l).kids.length := by show ¬ 4096 < l.length; omega
      simp [this]
    simp only [Xp.chk, hf, if_true, Bool.false_eq_true, if_false]
    rw [Xps.chk_same l _ _ (by omega)]
theorem Xps.chk_same : ∀ (l : List Xp) (deep seen : Nat), Xps.size l ≤ 4097 → Xps.chk true l deep seen = Xps.chk false l deep seen
  | [], _, _, _ => by simp only [Xps.chk]
  | e :: l, deep, seen, h => by
    simp only [Xps.size] at h
    simp only [Xps.chk]
    rw [Xp.chk_same e _ _ (by omega), Xps.chk_same l _ _ (by omega)]
end
theorem chk_both (e : Xp) : (e.chk false 0 0).2 = 0 ↔ (e.chk true 0 0).2 = 0 := by
  constructor
  · intro h
    have := chk_size h
    rw [Xp.chk_same e 0 0 (by omega)]; exact h
  · intro h
    have := chk_size h
    rw [← Xp.chk_same e 0 0 (by omega)]; exact h

theorem Binds6_gives (e : Xp) (cs : List Value) (H : PH) (he : e.Rep H cs) (i : Nat) (hi : i < e.kids.length) : Gives Tryz.prog n_scrimshawref06_Binds [.agg cs.toArray, .int .i64 (i : Int)] H (.bool (inB e.kind (e.kids.drop (i + 1)))) := by
  obtain ⟨nb, db, kb, nc, dc, kc, rfl, hx⟩ := Xp.Rep.open he
  have hk := hx.kids.max
  simp only [maxLen] at hk
  refine tri_scrimshawref06_Binds (exVs e nb db kb nc dc kc ++ [.int .i64 (i : Int)]) (by kernel_rfl) (by kernel_rfl) ⟨?_, PH.le_refl _⟩
  simp only [ev0, ev, evV, List.cons_append, List.nil_append, List.getD_cons_zero, List.getD_cons_succ, List.map_cons, List.map_nil, iOf, bOf, sOf, pOf, slLen, slBase, cmpI, arI, Value.ite_bool, int_beq, int_bne, ite_band, ite_bor]
  rw [w64 (by omega) (by omega)]
  have : decide ((i : Int) = (e.kids.length : Int) - 1) = (e.kids.drop (i + 1)).isEmpty := by
    rw [← list_empty]
    exact decide_eq_decide.2 (by rw [List.length_drop]; omega)
  rw [this]
  unfold inB
  by_cases h5 : e.kind = 5 <;> by_cases h9 : e.kind = 9 <;> by_cases h10 : e.kind = 10 <;> simp [h5, h9, h10]
/-! ### all names -/
theorem Xps.all_append : ∀ l m : List Xp, Xps.all (l ++ m) = Xps.all l ++ Xps.all m
  | [], m => by simp [Xps.all]
  | e :: l, m => by simp only [List.cons_append, Xps.all, Xps.all_append l m, List.append_assoc]
end Go.Proofs.YtibinelkmlcmgaaGreat.Vc
/-
  LIFT: the document's free names are the program's.
-/
namespace Go.Proofs.YtibinelkmlcmgaaGreat.Vc
open Go Go.Sort

/-! ### a name into a list that rises -/
def insT (s : List UInt8) : List (List UInt8) → List (List UInt8)
  | [] => [s]
  | a :: l => if s < a then s :: a :: l else a :: insT s l
def putT (l : List (List UInt8)) (s : List UInt8) : List (List UInt8) := if s ∈ l then l else insT s l
theorem mem_insT {s x : List UInt8} : ∀ {l : List (List UInt8)}, x ∈ insT s l ↔ x = s ∨ x ∈ l
  | [] => by simp [insT]
  | a :: l => by
    simp only [insT]
    split
    · simp
    · simp only [List.mem_cons, mem_insT (l := l)]
      constructor
      · rintro (h | h | h)
        · exact .inr (.inl h)
        · exact .inl h
        · exact .inr (.inr h)
      · rintro (h | h | h)
        · exact .inr (.inl h)
        · exact .inl h
        · exact .inr (.inr h)
theorem mem_putT {l : List (List UInt8)} {s x : List UInt8} : x ∈ putT l s ↔ x ∈ l ∨ x = s := by
  unfold putT
  split
  · rename_i h
    constructor
    · exact .inl
    · rintro (h1 | rfl)
      · exact h1
      · exact h
  · rw [mem_insT]; exact or_comm
theorem lt_tri3 (a b : List UInt8) : a < b ∨ a = b ∨ b < a := by
  by_cases h1 : a < b
  · exact .inl h1
  by_cases h2 : b < a
  · exact .inr (.inr h2)
  exact .inr (.inl (List.le_antisymm (List.not_lt.1 h2) (List.not_lt.1 h1)))
theorem lt_of_not {a b : List UInt8} (h : ¬ a < b) (hne : a ≠ b) : b < a := by
  rcases lt_tri3 a b with h1 | h1 | h1
  · exact absurd h1 h
  · exact absurd h1 hne
  · exact h1
theorem insT_sorted {s : List UInt8} : ∀ {l : List (List UInt8)}, l.Pairwise (· < ·) → s ∉ l → (insT s l).Pairwise (· < ·)
  | [], _, _ => by simp [insT]
  | a :: l, h, hs => by
    simp only [insT]
    rw [List.pairwise_cons] at h
    simp only [List.mem_cons, not_or] at hs
    split
    · rename_i hlt
      refine List.pairwise_cons.2 ⟨fun x hx => ?_, List.pairwise_cons.2 h⟩
      rcases List.mem_cons.1 hx with rfl | hx
      · exact hlt
      · exact List.lt_trans hlt (h.1 x hx)
    · rename_i hlt
      refine List.pairwise_cons.2 ⟨fun x hx => ?_, insT_sorted h.2 hs.2⟩
      rcases mem_insT.1 hx with rfl | hx
      · exact lt_of_not hlt hs.1
      · exact h.1 x hx
theorem putT_sorted {l : List (List UInt8)} {s : List UInt8} (h : l.Pairwise (· < ·)) : (putT l s).Pairwise (· < ·) := by
  unfold putT
  split
  · exact h
  · rename_i hs; exact insT_sorted h hs
def putsT (l : List (List UInt8)) (m : List (List UInt8)) : List (List UInt8) := m.foldl putT l
theorem putsT_spec : ∀ (m l : List (List UInt8)), l.Pairwise (· < ·) → (putsT l m).Pairwise (· < ·) ∧ ∀ x, x ∈ putsT l m ↔ x ∈ l ∨ x ∈ m
  | [], l, h => ⟨h, fun x => by simp [putsT]⟩
  | a :: m, l, h => by
    obtain ⟨h1, h2⟩ := putsT_spec m (putT l a) (putT_sorted h)
    refine ⟨h1, fun x => ?_⟩
    show x ∈ putsT (putT l a) m ↔ _
    rw [h2, mem_putT, List.mem_cons, or_assoc]
theorem sorted_uniq : ∀ {l m : List (List UInt8)}, l.Pairwise (· < ·) → m.Pairwise (· < ·) → (∀ x, x ∈ l ↔ x ∈ m) → l = m
  | [], [], _, _, _ => rfl
  | [], b :: m, _, _, h => by have := (h b).2 (List.mem_cons_self ..); cases this
  | a :: l, [], _, _, h => by have := (h a).1 (List.mem_cons_self ..); cases this
  | a :: l, b :: m, hl, hm, h => by
    rw [List.pairwise_cons] at hl hm
    have hab : a = b := by
      rcases List.mem_cons.1 ((h a).1 (List.mem_cons_self ..)) with h1 | h1
      · exact h1
      · rcases List.mem_cons.1 ((h b).2 (List.mem_cons_self ..)) with h2 | h2
        · exact h2.symm
        · exact absurd (List.lt_trans (hm.1 a h1) (hl.1 b h2)) (List.lt_irrefl _)
    subst hab
    congr 1
    refine sorted_uniq hl.2 hm.2 fun x => ?_
    constructor
    · intro hx
      rcases List.mem_cons.1 ((h x).1 (List.mem_cons_of_mem _ hx)) with rfl | h1
      · exact absurd (hl.1 x hx) (List.lt_irrefl _)
      · exact h1
    · intro hx
      rcases List.mem_cons.1 ((h x).2 (List.mem_cons_of_mem _ hx)) with rfl | h1
      · exact absurd (hm.1 x hx) (List.lt_irrefl _)
      · exact h1
theorem putM_nodup : ∀ (l : List (List UInt8)) (m : List (List UInt8 × Value)), (m.map (·.1)).Nodup → ((putsM m l).map (·.1)).Nodup
  | [], m, h => h
  | a :: l, m, h => putM_nodup l _ (putM_keys h a (.int .i64 1))
theorem freeS_sorted (l : List (List UInt8)) : (freeS l).Pairwise (· < ·) := by
  have h1 : (freeS l).Pairwise fun a b => leB a b = true := List.pairwise_mergeSort (fun a b c h1 h2 => by simp only [leB, decide_eq_true_eq] at *; exact List.le_trans h1 h2) (fun a b => by simp only [leB, Bool.or_eq_true, decide_eq_true_eq]; exact List.le_total a b) _
  have h2 : (freeS l).Nodup := (List.mergeSort_perm _ _).nodup_iff.2 (putM_nodup l [] List.Pairwise.nil)
  refine (h1.and h2).imp fun {a b} h => ?_
  simp only [leB, decide_eq_true_eq] at h
  rcases lt_tri3 a b with h3 | h3 | h3
  · exact h3
  · exact absurd h3 h.2
  · exact absurd h3 (List.not_lt.2 h.1)
theorem freeS_puts (l : List (List UInt8)) : putsT [] l = freeS l := by
  obtain ⟨h1, h2⟩ := putsT_spec l [] List.Pairwise.nil
  refine sorted_uniq h1 (freeS_sorted l) fun x => ?_
  rw [h2, mem_freeS]; simp

/-! ### put, free -/
theorem insT_len (s : List UInt8) : ∀ l : List (List UInt8), (insT s l).length = l.length + 1
  | [] => rfl
  | a :: l => by simp only [insT]; split <;> simp [insT_len s l]
theorem putT_len (l : List (List UInt8)) (s : List UInt8) : (putT l s).length ≤ l.length + 1 := by
  unfold putT; split
  · omega
  · rw [insT_len]; omega
theorem putsT_len : ∀ (m l : List (List UInt8)), (putsT l m).length ≤ l.length + m.length
  | [], l => by simp [putsT]
  | a :: m, l => by
    have h1 := putsT_len m (putT l a)
    have h2 := putT_len l a
    show (putsT (putT l a) m).length ≤ _
    rw [List.length_cons]; omega
end Go.Proofs.YtibinelkmlcmgaaGreat.Vc
/-
  LIFT: the document's free names; copies; what Told says.
-/
namespace Go.Proofs.YtibinelkmlcmgaaGreat.Vc
open Go

theorem mapS_id : ∀ l : List Xp, mapS (fun (s : Unit) e => (e, s)) () l = (l, ())
  | [] => rfl
  | e :: l => by simp only [mapS, mapS_id l]
theorem pcopied_tri : ∀ (e : Xp) (cs : List Value) (S : PH), e.Rep S cs → e.fit → Tri Tryz.prog n_pass_copied #[.agg cs.toArray] S fun x S' => PH.le S S' ∧ XRet S' e x := by
  refine Xp.ind fun e ih cs S he hfit => ?_
  have he' := he
  obtain ⟨nb, db, kb, nc, dc, kc, rfl, hx⟩ := Xp.Rep.open he
  obtain ⟨f1, f2, f3⟩ := (Xp.fit_iff e).1 hfit
  refine tri_pass_copied (exVs e nb db kb nc dc kc) (by kernel_rfl) (by kernel_rfl) ?_
  refine den_call (by kernel_rfl) (CloneS_tri e.names _ S hx.names f1) ?_
  rintro x S1 ⟨l1, v1, rfl, s1⟩
  obtain ⟨b3, c3, rfl⟩ := s1.sl
  refine ⟨_, [.slice b3 e.names.length c3], rfl, rfl, rfl, pendNil, ?_⟩
  have he1 : e.Rep S1 (exVs e b3 db kb c3 dc kc) := Xp.Rep_iff.2 ⟨_, _, _, rfl, hx.kind, hx.name, s1, Dat.Rep.le l1 _ hx.const, hx.kids.le l1⟩
  have hmap : Tri Tryz.prog n_pass_Map #[.agg (exVs e b3 db kb c3 dc kc).toArray, .func (.func n_pass_copied) #[] #[]] S1 fun x S' => PH.le S S' ∧ XRet S' e x := by
    refine (Map_tri (fun (s : Unit) e => (e, s)) (fun _ Js => Js = []) () e _ S1 S1 [] (g := n_pass_copied) (first := #[]) (caps := #[]) cb_pass_copied (Held.nil (PH.le_refl S1)) rfl he1 f2 ?_).mono ?_
    · intro j k hj S' K' Js cs l' h' hJs hk
      subst hJs
      have hm := List.mem_of_getElem? hj
      refine (h'.pure (ih k hm cs S' hk (f3 k hm))).mono ?_
      rintro x K2 ⟨S2, l2, h2, r2⟩
      exact ⟨S2, [], l2, h2, rfl, r2⟩
    · rintro x K2 ⟨S2, J2, l2, h2, hJ, r2⟩
      subst hJ
      rw [mapS_id] at r2
      obtain ⟨es, rfl, r3⟩ := r2
      refine ⟨PH.le_trans l1 (PH.le_trans l2 h2.sh), es, rfl, ?_⟩
      have : (Xp.mk e.kind e.name e.names e.const e.kids) = e := by cases e; rfl
      rw [this] at r3
      exact Xp.Rep.le h2.sh e r3
  refine den_call cb_pass_Map hmap ?_
  rintro x S2 ⟨l2, es, rfl, r2⟩
  have ht := Xp.Rep.tags r2
  have r2' := r2
  obtain ⟨p1, p2, p3, p4, p5, p6, rfl, _⟩ := Xp.Rep.open r2'
  exact ⟨_, _, rfl, ht, rfl, pendNil, l2, _, rfl, r2⟩
/-- Told: the code of the check, and a copy where it is zero -/
theorem Told_tri (e : Xp) (cs : List Value) (S : PH) (he : e.Rep S cs) : Tri Tryz.prog n_pass_Told #[.agg cs.toArray] S fun x S' => PH.le S S' ∧ ∃ es : List Value, es.length = 8 ∧ x = .returned (.tuple #[.agg es.toArray, .int .i64 (if (e.chk true 0 0).2 = 0 then 0 else 101)]) ∧ (if (e.chk true 0 0).2 = 0 then e else .mk 0 [] [] dat0 []).Rep S' es := by
  have he' := he
  obtain ⟨nb, db, kb, nc, dc, kc, rfl, hx⟩ := Xp.Rep.open he
  refine tri_pass_Told (exVs e nb db kb nc dc kc) (by kernel_rfl) (by kernel_rfl) ?_
  refine den_gives [.int .i64 (e.chk true 0 0).2] cb_core_Check (CCheckF_gives e _ S he') rfl pendNil fun H1 l1 => ?_
  refine ⟨fun g => ?_, fun g => ?_⟩
  · simp only [ev0, ev, evV, List.cons_append, List.nil_append, List.getD_cons_zero, List.getD_cons_succ, List.map_cons, List.map_nil, iOf, bOf, sOf, pOf, slLen, slBase, cmpI, arI, Value.ite_bool, int_beq, int_bne, ite_band, ite_bor, decide_eq_true_eq] at g
    refine ⟨l1, [.int .i64 0, txt [], .slice none 0 0, .int .i64 0, .int .i64 0, txt [], .slice none 0 0, .slice none 0 0], rfl, ?_, by rw [if_neg g]; exact ex0_rep H1⟩
    rw [if_neg g]; rfl
  · simp only [ev0, ev, evV, List.cons_append, List.nil_append, List.getD_cons_zero, List.getD_cons_succ, List.map_cons, List.map_nil, iOf, bOf, sOf, pOf, slLen, slBase, cmpI, arI, Value.ite_bool, int_beq, int_bne, ite_band, ite_bor, decide_eq_false_iff_not, ne_eq, Decidable.not_not] at g
    refine den_call cb_pass_copied (pcopied_tri e _ H1 (Xp.Rep.le l1 e he') (chk_bounds g).1) ?_
    rintro x S2 ⟨l2, es, rfl, r2⟩
    have ht := Xp.Rep.tags r2
    have r2' := r2
    obtain ⟨p1, p2, p3, p4, p5, p6, rfl, _⟩ := Xp.Rep.open r2'
    refine ⟨_, _, rfl, ht, rfl, pendNil, PH.le_trans l1 l2, _, rfl, ?_, by rw [if_pos g]; exact r2⟩
    rw [if_pos g]; rfl
end Go.Proofs.YtibinelkmlcmgaaGreat.Vc
/-
  LIFT: what is lifted, plainly; does an expression have kinds?
-/
namespace Go.Proofs.YtibinelkmlcmgaaGreat.Vc
open Go

def exZ : Xp := .mk 0 [] [] dat0 []
def cloX (fr : List (List UInt8)) (n : Nat) : Xp := .mk 11 [] fr (.mk 1 n [] []) []
mutual
def Xp.lift (fs : List FunX) : Xp → Xp × List FunX
  | .mk k s ns d l => if k = 5 then
      (cloX (freeS (Xp.fr [] (.mk k s ns d l))) fs.length, (Xps.lift1 (fs ++ [⟨ns, freeS (Xp.fr [] (.mk k s ns d l)), exZ⟩]) l).2.set fs.length ⟨ns, freeS (Xp.fr [] (.mk k s ns d l)), (Xps.lift1 (fs ++ [⟨ns, freeS (Xp.fr [] (.mk k s ns d l)), exZ⟩]) l).1⟩)
    else (.mk k s ns d (Xps.lift fs l).1, (Xps.lift fs l).2)
def Xps.lift1 (fs : List FunX) : List Xp → Xp × List FunX
  | [] => (exZ, fs)
  | e :: _ => Xp.lift fs e
def Xps.lift (fs : List FunX) : List Xp → List Xp × List FunX
  | [] => ([], fs)
  | e :: l => ((Xp.lift fs e).1 :: (Xps.lift (Xp.lift fs e).2 l).1, (Xps.lift (Xp.lift fs e).2 l).2)
end
theorem Xps.lift_mapS : ∀ (l : List Xp) (fs : List FunX), Xps.lift fs l = mapS (fun s e => Xp.lift s e) fs l
  | [], fs => by simp only [Xps.lift, mapS]
  | e :: l, fs => by simp only [Xps.lift, mapS, Xps.lift_mapS l]
theorem Xp.lift_other (e : Xp) (fs : List FunX) (h : e.kind ≠ 5) : Xp.lift fs e = (.mk e.kind e.name e.names e.const (mapS (fun s x => Xp.lift s x) fs e.kids).1, (mapS (fun s x => Xp.lift s x) fs e.kids).2) := by
  cases e with
  | mk k s ns d l =>
    simp only [Xp.kind] at h
    simp only [Xp.lift, if_neg h, Xps.lift_mapS]; rfl
def slot (e : Xp) (b : Xp) : FunX := ⟨e.names, freeS (Xp.fr [] e), b⟩
theorem Xp.lift_lam (e b : Xp) (fs : List FunX) (h : e.kind = 5) (hb : e.kids[0]? = some b) : Xp.lift fs e = (cloX (freeS (Xp.fr [] e)) fs.length, (Xp.lift (fs ++ [slot e exZ]) b).2.set fs.length (slot e (Xp.lift (fs ++ [slot e exZ]) b).1)) := by
  cases e with
  | mk k s ns d l =>
    simp only [Xp.kind, Xp.kids] at h hb
    cases l with
    | nil => simp at hb
    | cons a l =>
      simp only [List.getElem?_cons_zero, Option.some.injEq] at hb
      subst hb
      simp only [Xp.lift, if_pos h, Xps.lift1]
      rfl
mutual
theorem Xp.lift_keep : ∀ (e : Xp) (fs : List FunX), fs.length ≤ (Xp.lift fs e).2.length ∧ (Xp.lift fs e).2.length ≤ fs.length + e.size ∧ ∀ i, i < fs.length → (Xp.lift fs e).2[i]? = fs[i]?
  | .mk k s ns d l, fs => by
    by_cases h : k = 5
    · simp only [Xp.lift, if_pos h, Xp.size]
      obtain ⟨h1, h2, h3⟩ := Xps.lift1_keep l (fs ++ [⟨ns, freeS (Xp.fr [] (.mk k s ns d l)), exZ⟩])
      rw [List.length_append, List.length_singleton] at h1 h2
      refine ⟨by rw [List.length_set]; omega, by rw [List.length_set]; omega, fun i hi => ?_⟩
      rw [List.getElem?_set_ne (by omega), h3 i (by rw [List.length_append]; omega), List.getElem?_append_left hi]
    · simp only [Xp.lift, if_neg h, Xp.size]
      obtain ⟨h1, h2, h3⟩ := Xps.lift_keep l fs
      exact ⟨h1, by omega, h3⟩
theorem Xps.lift1_keep : ∀ (l : List Xp) (fs : List FunX), fs.length ≤ (Xps.lift1 fs l).2.length ∧ (Xps.lift1 fs l).2.length ≤ fs.length + Xps.size l ∧ ∀ i, i < fs.length → (Xps.lift1 fs l).2[i]? = fs[i]?
  | [], fs => by simp [Xps.lift1]
  | e :: l, fs => by
    obtain ⟨h1, h2, h3⟩ := Xp.lift_keep e fs
    simp only [Xps.lift1, Xps.size]
    exact ⟨h1, by omega, h3⟩
theorem Xps.lift_keep : ∀ (l : List Xp) (fs : List FunX), fs.length ≤ (Xps.lift fs l).2.length ∧ (Xps.lift fs l).2.length ≤ fs.length + Xps.size l ∧ ∀ i, i < fs.length → (Xps.lift fs l).2[i]? = fs[i]?
  | [], fs => by simp [Xps.lift]
  | e :: l, fs => by
    obtain ⟨h1, h2, h3⟩ := Xp.lift_keep e fs
    obtain ⟨h4, h5, h6⟩ := Xps.lift_keep l (Xp.lift fs e).2
    simp only [Xps.lift, Xps.size]
    exact ⟨by omega, by omega, fun i hi => by rw [h6 i (by omega), h3 i hi]⟩
end
theorem Xps.size_append : ∀ l m : List Xp, Xps.size (l ++ m) = Xps.size l + Xps.size m
  | [], m => by simp [Xps.size]
  | e :: l, m => by simp only [List.cons_append, Xps.size, Xps.size_append l m]; omega
theorem Xps.size_at {l : List Xp} {j : Nat} {a : Xp} (h : l[j]? = some a) : Xps.size (l.take j) + a.size ≤ Xps.size l := by
  have := Xps.size_append (l.take j) (l.drop j)
  rw [List.take_append_drop, drop_get h, Xps.size] at this
  omega
theorem Xp.size_eq (e : Xp) : e.size = 1 + Xps.size e.kids := by cases e; simp only [Xp.size, Xp.kids]
theorem lam_kid {e : Xp} (h : e.okF true) (h5 : e.kind = 5) : ∃ b, e.kids[0]? = some b ∧ b ∈ e.kids := by
  have hf := (Xp.okF_form h).1
  unfold exForm at hf
  rw [if_neg (by omega), if_neg (by omega), if_neg (by omega), if_neg (by omega), if_neg (by omega)] at hf
  simp only [h5, if_true, Bool.and_eq_true, decide_eq_true_eq] at hf
  have hl := hf.2.2
  refine ⟨e.kids[0]'(by omega), List.getElem?_eq_getElem (by omega), List.getElem_mem ..⟩

/-! ### does it have kinds? -/
mutual
def Xp.any (p : Int → Bool) : Xp → Bool
  | .mk k _ _ _ l => p k || Xps.any p l
def Xps.any (p : Int → Bool) : List Xp → Bool
  | [] => false
  | e :: l => Xp.any p e || Xps.any p l
end
theorem Xp.any_eq (p : Int → Bool) (e : Xp) : e.any p = (p e.kind || Xps.any p e.kids) := by cases e; simp only [Xp.any, Xp.kind, Xp.kids]
def badK (k : Int) : Bool := decide (k = 9) || decide (k = 2)
theorem Bad_gives (e : Xp) (cs : List Value) (H : PH) (he : e.Rep H cs) : Gives Tryz.prog n_lift_isBad [.agg cs.toArray] H (.bool (badK e.kind)) := by
  obtain ⟨nb, db, kb, nc, dc, kc, rfl, hx⟩ := Xp.Rep.open he
  refine tri_lift_isBad (exVs e nb db kb nc dc kc) (by kernel_rfl) (by kernel_rfl) ⟨?_, PH.le_refl _⟩
  simp only [ev0, ev, evV, List.cons_append, List.nil_append, List.getD_cons_zero, List.getD_cons_succ, List.map_cons, List.map_nil, iOf, bOf, sOf, pOf, slLen, slBase, cmpI, arI, Value.ite_bool, int_beq, int_bne, ite_band, ite_bor, badK]
theorem Any_gives : ∀ (e : Xp) (cs : List Value) (H : PH), e.Rep H cs → Gives Tryz.prog n_pass_Any [.agg cs.toArray, .func (.func n_lift_isBad) #[] #[]] H (.bool (e.any badK)) := by
  refine Xp.ind fun e ih cs H he => ?_
  have he' := he
  obtain ⟨nb, db, kb, nc, dc, kc, rfl, hx⟩ := Xp.Rep.open he
  have hk := hx.kids.max
  simp only [maxLen] at hk
  refine tri_pass_Any (exVs e nb db kb nc dc kc ++ [.func (.func n_lift_isBad) #[] #[]]) (by kernel_rfl) (by kernel_rfl) ?_
  rw [Xp.any_eq]
  refine den_callF (f := n_lift_isBad) (first := #[]) (caps := #[]) (by rfl) cb_lift_isBad (Bad_gives e _ H he') ?_
  rintro x H1 ⟨rfl, l1⟩
  refine ⟨_, [.bool (badK e.kind)], rfl, rfl, rfl, pendNil, ?_⟩
  refine ⟨fun g => ?_, fun g => ?_⟩
  · simp only [ev0, ev, evV, List.cons_append, List.nil_append, List.getD_cons_zero, List.getD_cons_succ, List.map_cons, List.map_nil, iOf, bOf, sOf, pOf, slLen, slBase, cmpI, arI, Value.ite_bool, int_beq, int_bne, ite_band, ite_bor] at g
    refine ⟨?_, l1⟩
    rw [g]; rfl
  simp only [ev0, ev, evV, List.cons_append, List.nil_append, List.getD_cons_zero, List.getD_cons_succ, List.map_cons, List.map_nil, iOf, bOf, sOf, pOf, slLen, slBase, cmpI, arI, Value.ite_bool, int_beq, int_bne, ite_band, ite_bor] at g
  refine ⟨fun n vs H' => ∃ k : Nat, vs = [.bool false, .int .i64 k] ∧ k + n = e.kids.length ∧ (badK e.kind || Xps.any badK e.kids) = Xps.any badK (e.kids.drop k) ∧ PH.le H H', ⟨e.kids.length, 0, rfl, by omega, by rw [g, List.drop_zero]; rfl, l1⟩, ?_⟩
  rintro n vs H2 _ ⟨k, rfl, hkn, hz, l2⟩
  refine ⟨fun g1 => ?_, fun g1 => ?_⟩
  · simp only [ev0, ev, evV, List.cons_append, List.nil_append, List.getD_cons_zero, List.getD_cons_succ, List.map_cons, List.map_nil, iOf, bOf, sOf, pOf, slLen, slBase, cmpI, arI, Value.ite_bool, int_beq, int_bne, ite_band, ite_bor, decide_eq_true_eq] at g1
    obtain ⟨a, ha⟩ : ∃ a, e.kids[k]? = some a := ⟨_, List.getElem?_eq_getElem (show k < e.kids.length by omega)⟩
    obtain ⟨q1, _, ces, g2, g3⟩ := (hx.kids.le l2).get ha
    have hmem := List.mem_of_getElem? ha
    have htags := Xp.Rep.tags g2
    have g2' := g2
    obtain ⟨nb', db', kb', nc', dc', kc', rfl, _⟩ := Xp.Rep.open g2'
    refine ⟨fun _ => ?_, _, htags, by simp only [ev0, ev, evV, List.cons_append, List.nil_append, List.getD_cons_zero, List.getD_cons_succ, List.map_cons, List.map_nil, iOf, bOf, sOf, pOf, slLen, slBase, cmpI, arI, Value.ite_bool, int_beq, int_bne, ite_band, ite_bor]; exact g3, ?_⟩
    · simp only [Chk.holds, ev0, ev, evV, List.cons_append, List.nil_append, List.getD_cons_zero, List.getD_cons_succ, List.map_cons, List.map_nil, iOf, bOf, sOf, pOf, slLen, slBase, cmpI, arI, Value.ite_bool, int_beq, int_bne, ite_band, ite_bor]; exact ⟨q1, by omega, by omega⟩
    rw [drop_get ha, Xps.any] at hz
    refine den_gives [.bool (a.any badK)] cb_pass_Any (ih a hmem _ H2 g2) rfl pendNil fun H3 l3 => ?_
    refine ⟨fun g4 => ?_, fun g4 => ?_⟩
    · simp only [ev0, ev, evV, List.cons_append, List.nil_append, List.getD_cons_zero, List.getD_cons_succ, List.map_cons, List.map_nil, iOf, bOf, sOf, pOf, slLen, slBase, cmpI, arI, Value.ite_bool, int_beq, int_bne, ite_band, ite_bor] at g4
      rw [hz, g4]
      exact ⟨rfl, PH.le_trans l2 l3⟩
    · simp only [ev0, ev, evV, List.cons_append, List.nil_append, List.getD_cons_zero, List.getD_cons_succ, List.map_cons, List.map_nil, iOf, bOf, sOf, pOf, slLen, slBase, cmpI, arI, Value.ite_bool, int_beq, int_bne, ite_band, ite_bor] at g4
      refine ⟨_, lookup_hit, n - 1, by omega, k + 1, ?_, by omega, by rw [hz, g4]; rfl, PH.le_trans l2 l3⟩
      simp only [ev0, ev, evV, List.cons_append, List.nil_append, List.getD_cons_zero, List.getD_cons_succ, List.map_cons, List.map_nil, iOf, bOf, sOf, pOf, slLen, slBase, cmpI, arI, Value.ite_bool, int_beq, int_bne, ite_band, ite_bor]
      rw [w64 (by omega) (by omega)]
      rfl
  · simp only [ev0, ev, evV, List.cons_append, List.nil_append, List.getD_cons_zero, List.getD_cons_succ, List.map_cons, List.map_nil, iOf, bOf, sOf, pOf, slLen, slBase, cmpI, arI, Value.ite_bool, int_beq, int_bne, ite_band, ite_bor, decide_eq_false_iff_not] at g1
    rw [List.drop_eq_nil_of_le (by omega)] at hz
    rw [hz]
    exact ⟨by simp only [Xps.any]; rfl, l2⟩
end Go.Proofs.YtibinelkmlcmgaaGreat.Vc
