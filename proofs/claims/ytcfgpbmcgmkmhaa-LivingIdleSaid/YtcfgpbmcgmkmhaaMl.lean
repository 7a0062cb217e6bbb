/-
  Texts on the way to the statement, one behind the other, without what it does not reach.
-/
import Derived.Test.YtcfgpbmcgmkmhaaMk
import Derived.Lib.ItoaNum
import Derived.Lib.LaidTab
set_option linter.unusedSimpArgs false
set_option linter.unusedVariables false
set_option maxRecDepth 100000
/-
  DATA: a number's text.
-/
namespace Go.Proofs.Ytcfgpbmcgmkmhaa.Vc
open Go

theorem nDigits_le : ∀ (k u : Nat), u < 10 ^ (k + 1) → Lib.nDigits u ≤ k + 1
  | 0, u, h => by rw [Lib.nDigits_small (by simpa using h)]; omega
  | k + 1, u, h => by
    by_cases h1 : u < 10
    · rw [Lib.nDigits_small h1]; omega
    · rw [Lib.nDigits_big h1]
      have := nDigits_le k (u / 10) (by rw [Nat.pow_succ] at h; omega)
      omega
theorem digits_len (n : Nat) (h : n ≤ 9223372036854775808) : (Lib.decDigits n).length ≤ 20 := by
  rw [Lib.decDigits_length]
  exact nDigits_le 19 n (by omega)

end Go.Proofs.Ytcfgpbmcgmkmhaa.Vc
/-
  DATA: the text of a datum, by definition.
-/
namespace Go.Proofs.Ytcfgpbmcgmkmhaa.Vc
open Go

def byteOf (n : Int) : UInt8 := UInt8.ofNat (n % 256).toNat
mutual
/-- a datum's text; bare: its show -/
def Dat.txtL (bare : Bool) : Dat → List UInt8
  | .mk k n t l => if k = 0 then (if n = 0 then [35, 102] else [35, 116]) else if k = 1 then Lib.itoa n else if k = 2 then (if bare then [byteOf n] else charL (byteOf n)) else if k = 3 then (if bare then t else quotedL t) else if k = 4 then t
      else (if k = 7 then [35, 40] else [40]) ++ Dats.txtL bare (decide (k = 6)) true l ++ [41]
def Dats.txtL (bare dotted : Bool) : Bool → List Dat → List UInt8
  | _, [] => []
  | first, d :: l => (if first then [] else [32]) ++ (if dotted && l.isEmpty then [46, 32] else []) ++ Dat.txtL bare d ++ Dats.txtL bare dotted false l
end
theorem byteOf_eq (n : Int) : IntKind.u8.wrap n = ((byteOf n).toNat : Int) := by
  have h : (n % 256).toNat < 256 := by omega
  rw [byteOf, UInt8.toNat_ofNat_of_lt' h]
  simp only [IntKind.wrap, IntKind.bits, IntKind.signed]; simp; omega
theorem charL_len (c : UInt8) : (charL c).length ≤ 9 := by
  unfold charL; split
  · simp
  split
  · simp
  split
  · simp
  · simp [twoL]
theorem itoa_len (n : Int) (h : InI n) : (Lib.itoa n).length ≤ 21 := by
  obtain ⟨a, b⟩ := h
  unfold Lib.itoa; split
  · have := digits_len n.natAbs (by omega); simp only [List.length_cons]; omega
  · have := digits_len n.toNat (by omega); omega
theorem quotedL_len (l : List UInt8) : (quotedL l).length ≤ 4 * l.length + 2 := by
  have := quotes_len l
  simp only [quotedL, List.length_append, List.length_cons, List.length_nil]; omega
mutual
theorem Dat.chk_len (bare : Bool) : ∀ (d : Dat) (deep seen : Nat), seen ≤ 4096 → (d.chk deep seen).2 = 0 → seen < (d.chk deep seen).1 ∧ (d.txtL bare).length + 3 ≤ 16500 * ((d.chk deep seen).1 - seen)
  | .mk k n t l, deep, seen, hs, h => by
    simp only [Dat.chk] at h ⊢
    split at h
    · simp at h
    rename_i h0
    rw [if_neg h0]
    split at h
    · simp at h
    rename_i h1
    rw [if_neg h1]
    split at h
    · simp at h
    rename_i h2
    rw [if_neg h2]
    have hf : formOk (.mk k n t l) = true := by simpa using h2
    have ih := Dats.chk_len bare (decide (k = 6)) true l (deep + 1) (seen + 1) (by omega) h
    refine ⟨by omega, ?_⟩
    have hch := charL_len (byteOf n)
    have hqu := quotedL_len t
    have hit : k = 1 → (Lib.itoa n).length ≤ 21 := fun hk => itoa_len n (by
      subst hk
      simp only [formOk, Dat.kind, Dat.int, Dat.text, Dat.list] at hf
      simp at hf
      obtain ⟨⟨_, h5⟩, h6⟩ := hf
      have h5 := of_decide_eq_true h5
      have h6 := of_decide_eq_true h6
      exact ⟨by omega, by omega⟩)
    have ht3 : k = 3 → t.length ≤ 4096 := fun hk => by
      subst hk
      simp only [formOk, Dat.kind, Dat.int, Dat.text, Dat.list] at hf
      simp at hf; exact of_decide_eq_true hf.2
    have ht4 : k = 4 → t.length ≤ 64 := fun hk => by
      subst hk
      simp only [formOk, Dat.kind, Dat.int, Dat.text, Dat.list, nameOk] at hf
      simp at hf; exact of_decide_eq_true hf.2.1.1.2
    simp only [Dat.txtL]
    split
    · split <;> simp <;> omega
    split
    · rename_i hk; have := hit hk; omega
    split
    · split
      · simp; omega
      · omega
    split
    · rename_i hk; have := ht3 hk
      split <;> omega
    split
    · rename_i hk; have := ht4 hk; omega
    · simp only [List.length_append, List.length_cons, List.length_nil]
      split <;> simp only [List.length_cons, List.length_nil] <;> omega
theorem Dats.chk_len (bare dotted : Bool) : ∀ (first : Bool) (l : List Dat) (deep seen : Nat), seen ≤ 4096 → (Dats.chk l deep seen).2 = 0 → seen ≤ (Dats.chk l deep seen).1 ∧ (Dats.txtL bare dotted first l).length ≤ 16500 * ((Dats.chk l deep seen).1 - seen)
  | _, [], _, _, _, _ => by simp [Dats.chk, Dats.txtL]
  | first, d :: l, deep, seen, hs, h => by
    simp only [Dats.chk] at h ⊢
    split at h
    · rename_i hx; exact absurd h hx
    rename_i hx
    rw [if_neg hx]
    have i1 := Dat.chk_len bare d deep seen hs (by simpa using hx)
    have hle := Dat.chk_le d deep seen hs
    have i2 := Dats.chk_len bare dotted false l deep (d.chk deep seen).1 hle h
    refine ⟨by omega, ?_⟩
    simp only [Dats.txtL, List.length_append]
    have e1 : (if first = true then [] else [32] : List UInt8).length ≤ 1 := by split <;> simp
    have e2 : (if (dotted && l.isEmpty) = true then [46, 32] else [] : List UInt8).length ≤ 2 := by split <;> simp
    omega
end
end Go.Proofs.Ytcfgpbmcgmkmhaa.Vc
/-
  DATA: the text of the document's answer.
-/
namespace Go.Proofs.Ytcfgpbmcgmkmhaa.Vc
open Go

theorem u8conv (n : Int) : Value.int .u8 (IntKind.u8.wrap n) = .int .u8 ((byteOf n).toNat : Int) := by rw [byteOf_eq]
end Go.Proofs.Ytcfgpbmcgmkmhaa.Vc
/-
  A NUMBER's TEXT BEHIND BYTES: strconv.AppendInt, over a part of the heap; by the shelf's contracts of the parts.
-/
namespace Go.Proofs.Ytcfgpbmcgmkmhaa.Vc
open Go

/-- the table of powers lies in H -/
def Tab (H : PH) : Prop := ∃ g e f, Try.prog.globalNamed "internal/strconv.uint64pow10" = some g ∧ H g = some (.cells (Lib.pow10Tab.map fun z => Value.int .u64 z).toArray e f)
theorem Tab.le {H H' : PH} (h : Tab H) (hl : PH.le H H') : Tab H' := by
  obtain ⟨g, e, f, h1, h2⟩ := h; exact ⟨g, e, f, h1, hl _ _ h2⟩
theorem Tab.is {H : PH} {w : World} (h : Tab H) (hv : Vis H w) : Lib.TabIs Try.prog w "internal/strconv.uint64pow10" .u64 Lib.pow10Tab := by
  obtain ⟨g, e, f, h1, h2⟩ := h
  unfold Lib.TabIs World.var?
  rw [h1]
  simp only [Option.bind_some, hv _ _ h2]

end Go.Proofs.Ytcfgpbmcgmkmhaa.Vc
/-
  DATA: the writer: a character, a string.
-/
namespace Go.Proofs.Ytcfgpbmcgmkmhaa.Vc
open Go

/-- a row of bytes hangs on no other memory -/
theorem bytes_any {H H' : PH} : ∀ {l : List UInt8} {xs : List Value}, PV.RepRow H (l.flatMap pv) xs → PV.RepRow H' (l.flatMap pv) xs
  | [], xs, h => by simp only [List.flatMap_nil, PV.RepRow] at h ⊢; exact h
  | c :: l, xs, h => by
    rw [List.flatMap_cons] at h ⊢
    have h' : PV.RepRow H (.int .u8 (c.toNat : Int) :: l.flatMap pv) xs := h
    show PV.RepRow H' (.int .u8 (c.toNat : Int) :: l.flatMap pv) xs
    simp only [PV.RepRow, PV.Rep] at h' ⊢
    obtain ⟨v, vs, rfl, h1, h2⟩ := h'
    exact ⟨v, vs, rfl, h1, bytes_any h2⟩
/-- THE WRITER's STATE: at w lies its row of bytes, and whether it writes bare; what is in H0 stands. -/
structure WSv (H0 H : PH) (w : Nat) (T : TypeId) (out : List UInt8) (bare : Bool) (bv : Value) : Prop where
  at_ : H w = some (.cells #[bv, .bool bare] T (0, 0))
  acc : Acc H0 H 5 out bv
  own : ob bv ≠ some w
  base : H0 w = none
def WS (H0 H : PH) (w : Nat) (T : TypeId) (out : List UInt8) (bare : Bool) : Prop := ∃ bv, WSv H0 H w T out bare bv

section
variable {H0 H : PH} {w : Nat} {T : TypeId} {out : List UInt8} {bare : Bool} {bv : Value}
theorem WSv.row (h : WSv H0 H w T out bare bv) : rowAt H ((some ⟨w, 0, none⟩ : Option Addr).map (·.add 0)) [bv] := ⟨_, rfl, fun i v hi => by
  show H.cell? ((Addr.add ⟨w, 0, none⟩ 0).add i) = _
  rw [Addr.add_plain, Addr.add_plain, PH.cell_at h.at_]
  cases i with
  | zero => simpa using hi
  | succ i => simp at hi⟩
theorem WSv.row1 (h : WSv H0 H w T out bare bv) : rowAt H ((some ⟨w, 0, none⟩ : Option Addr).map (·.add 1)) [.bool bare] := ⟨_, rfl, fun i v hi => by
  show H.cell? ((Addr.add ⟨w, 0, none⟩ 1).add i) = _
  rw [Addr.add_plain, Addr.add_plain, PH.cell_at h.at_]
  cases i with
  | zero => simpa using hi
  | succ i => simp at hi⟩
theorem WSv.tag (h : WSv H0 H w T out bare bv) : tagsOk [.sl] [bv] = true := by
  obtain ⟨b, c, rfl⟩ := h.acc.sl; rfl
theorem WSv.mono {H' : PH} (h : WSv H0 H w T out bare bv) (hl : PH.le H H') : WSv H0 H' w T out bare bv := ⟨hl _ _ h.at_, h.acc.mono hl, h.own, h.base⟩
theorem WSv.store {H' : PH} {v' : Value} {out' : List UInt8} (h : WSv H0 H w T out bare bv) (ha : Acc H0 H' 5 out' v') (hw : Went H H' bv v') : WS H0 (H'.upd w (.cells #[v', .bool bare] T (0, 0))) w T out' bare := by
  have hne : ob v' ≠ some w := fun e => (hw.fresh w e).elim h.own fun hn => by rw [h.at_] at hn; cases hn
  refine ⟨v', PH.upd_same, ⟨?_, ?_⟩, hne, h.base⟩
  · intro k o hk
    have hkw : k ≠ w := fun e => by rw [e, h.base] at hk; cases hk
    have := ha.le k o hk
    unfold delV at this ⊢
    cases hv' : ob v' with
    | none => rw [hv'] at this; show (H'.upd w _) k = _; rw [PH.upd_other hkw]; exact this
    | some g =>
      rw [hv'] at this
      show ((H'.upd w _).del g) k = _
      have this' : (H'.del g) k = some o := this
      unfold PH.del at this' ⊢
      split at this'
      · cases this'
      · rename_i e; rw [if_neg e, PH.upd_other hkw]; exact this'
  · obtain ⟨xs, h1, h2⟩ := ha.own
    exact ⟨xs, h1.le fun k hk => PH.upd_other fun e => hne (by rw [hk, e]), bytes_any h2⟩
variable {X : List PanicEntry → PH → Prop} {β : Type} {E : List Value} {L : LK} {K : β → List Value → PH → LK → Prop}
end

end Go.Proofs.Ytcfgpbmcgmkmhaa.Vc
/-
  DATA: the writer: a datum; Text and Show.
-/
namespace Go.Proofs.Ytcfgpbmcgmkmhaa.Vc
open Go

/-- a datum that is within one that may be -/
def Dat.Good (d : Dat) : Prop := ∃ deep seen, seen ≤ 4096 ∧ (d.chk deep seen).2 = 0
theorem Dats.good : ∀ (l : List Dat) (deep seen : Nat), seen ≤ 4096 → (Dats.chk l deep seen).2 = 0 → ∀ e ∈ l, e.Good
  | [], _, _, _, _, e, he => by cases he
  | d :: l, deep, seen, hs, h, e, he => by
    simp only [Dats.chk] at h
    split at h
    · rename_i hx; exact absurd h hx
    rename_i hx
    have hx : (d.chk deep seen).2 = 0 := by simpa using hx
    rcases List.mem_cons.1 he with rfl | he
    · exact ⟨deep, seen, hs, hx⟩
    · exact Dats.good l deep _ (Dat.chk_le d deep seen hs) h e he
theorem Dat.Good.form {d : Dat} (h : d.Good) : formOk d = true := by
  obtain ⟨deep, seen, hs, h⟩ := h
  rw [Dat.chk_eq] at h
  split at h
  · simp at h
  split at h
  · simp at h
  split at h
  · simp at h
  · rename_i hx; simpa using hx
theorem Dat.Good.len {d : Dat} (h : d.Good) (bare : Bool) : (d.txtL bare).length ≤ 67600000 := by
  obtain ⟨deep, seen, hs, h⟩ := h
  have h1 := Dat.chk_len bare d deep seen hs h
  have h2 := Dat.chk_le d deep seen hs
  omega
theorem WS.le {H0 H : PH} {w : Nat} {T : TypeId} {out : List UInt8} {bare : Bool} (h : WS H0 H w T out bare) : PH.le H0 H := by
  obtain ⟨bv, h⟩ := h; exact h.acc.all

end Go.Proofs.Ytcfgpbmcgmkmhaa.Vc
/-
  DATA that may be have the same text just if they are the same: a plain law. No program in sight.
-/
namespace Go.Proofs.Ytcfgpbmcgmkmhaa.Vc
open Go

/-! ### numbers -/
/-! ### what stands behind a text -/
/-! ### characters and strings -/
/-- u begins v -/
def pre : List UInt8 → List UInt8 → Bool
  | [], _ => true
  | _ :: _, [] => false
  | a :: l, b :: m => a == b && pre l m
/-! ### the kind of a text, by its first bytes -/
end Go.Proofs.Ytcfgpbmcgmkmhaa.Vc
/-
  DATA: the fixed calls; the law of the checks.
-/
namespace Go.Proofs.Ytcfgpbmcgmkmhaa.Vc
open Go

theorem uDats : Try.prog.underlying 26 = some (.slice 28) := by kernel_rfl
theorem elemDat : ElemOk Try.prog 28 4 56 = true := by kernel_rfl
instance decInI (n : Int) : Decidable (InI n) := inferInstanceAs (Decidable (_ ∧ _))
/-- a datum without items, written out -/
theorem leaf_rep {H : PH} {k n : Int} {t : List UInt8} (hk : InI k) (hn : InI n) (ht : t.length ≤ maxLen) : Dat.Rep H (.mk k n t []) [.int .i64 k, .int .i64 n, txt t, .slice none 0 0] :=
  Dat.Rep_iff.2 ⟨_, rfl, hk, hn, ht, SlR.mk_iff.2 ⟨Nat.zero_le _, .inl ⟨rfl, rfl⟩⟩⟩
end Go.Proofs.Ytcfgpbmcgmkmhaa.Vc
/-
  DATA that come in.
-/
namespace Go.Proofs.Ytcfgpbmcgmkmhaa.Vc
open Go Go.ChangeShapes Go.WideShapes Go.ChangeAt Go.RowKit

mutual
def Dat.wt : Dat → Nat
  | .mk _ _ t l => t.length + 5 + Dats.wt l
def Dats.wt : List Dat → Nat
  | [] => 0
  | d :: l => Dat.wt d + Dats.wt l
end
theorem Dats.wt_eq : ∀ l : List Dat, Dats.wt l = sumWt Dat.wt l
  | [] => by simp only [Dats.wt, sumWt]
  | d :: l => by simp only [Dats.wt, sumWt, Dats.wt_eq l]
theorem Dat.wt_eq (d : Dat) : d.wt = d.text.length + 5 + sumWt Dat.wt d.list := by
  cases d; simp only [Dat.wt, Dat.text, Dat.list, Dats.wt_eq]
noncomputable def datFields : Array Field := match Try.prog.underlying 28 with
  | some (.struct fs) => fs
  | _ => #[]
theorem uDat : Try.prog.underlying 28 = some (.struct datFields) := by kernel_rfl
theorem datF : datFields.toList.map (fun f => (f.type, f.offset)) = [(3, 0), (3, 1), (9, 2), (26, 3)] := by kernel_rfl
theorem uInt : Try.prog.underlying 3 = some (.int .i64) := by kernel_rfl
theorem cInt : Try.prog.cellsOf 3 = 1 := by kernel_rfl
theorem cStr : Try.prog.cellsOf 9 = 1 := by kernel_rfl
theorem cDats : Try.prog.cellsOf 26 = 1 := by kernel_rfl
theorem cDat : Try.prog.cellsOf 28 = 4 := by kernel_rfl
theorem csInt {H : PH} {n : Int} {v : Value} (h : CsR H n [v]) : v = .int .i64 n ∧ InI n := by
  have h' : PV.RepRow H [.int .i64 n] [v] := h
  simp only [PV.RepRow, PV.Rep] at h'
  obtain ⟨v', vs, e, ⟨rfl, h1⟩, rfl⟩ := h'
  simp only [List.cons.injEq, and_true] at e
  exact ⟨e, h1⟩
theorem csTxt {H : PH} {l : List UInt8} {v : Value} (h : CsR H l [v]) : v = txt l ∧ l.length ≤ maxLen := by
  have h' : PV.RepRow H [.str l] [v] := h
  simp only [PV.RepRow, PV.Rep] at h'
  obtain ⟨v', vs, e, ⟨rfl, h1⟩, rfl⟩ := h'
  simp only [List.cons.injEq, and_true] at e
  exact ⟨e, h1⟩
theorem opens_dat {H : Type} {enc : TypeId × Value → H} {w : World} : ∀ fuel, Opens (α := Dat) enc Try.prog w Dat.wt 28 fuel := by
  intro fuel
  induction fuel using Nat.strongRecOn with
  | ind fuel ih =>
    intro cs d ps h
    obtain ⟨xs, n, rfl, rfl, hc, hl, hi⟩ := trod_fields uDat datF h
    rw [cDat] at hc
    match xs, hl with
    | [x0, x1, x2, x3], _ =>
    match cs, hc with
    | [c0, c1, c2, c3], _ =>
    have t0 := hi 0 3 0 x0 rfl rfl
    have t1 := hi 1 3 1 x1 rfl rfl
    have t2 := hi 2 9 2 x2 rfl rfl
    have t3 := hi 3 26 3 x3 rfl rfl
    rw [cInt] at t0 t1
    rw [cStr] at t2
    rw [cDats] at t3
    obtain ⟨k, hk, hkw⟩ := opens_int uInt n _ _ _ t0
    obtain ⟨m, hm, hmw⟩ := opens_int uInt n _ _ _ t1
    obtain ⟨s, hs, hsw⟩ := opens_txt uString n _ _ _ t2
    obtain ⟨l, v, hlv, hls, hlw⟩ := opens_slice (α := Dat) uDats cDat (fun j hj => ih j (by omega)) t3
    have hv : c3 = v := by simpa using hlv
    subst hv
    obtain ⟨rfl, hk1⟩ := csInt hk
    obtain ⟨rfl, hm1⟩ := csInt hm
    obtain ⟨rfl, hs1⟩ := csTxt hs
    refine ⟨.mk k m s l, Dat.Rep_iff.2 ⟨_, rfl, hk1, hm1, hs1, hls⟩, ?_⟩
    simp only at hkw hmw hsw
    simp only [Dat.wt, Dats.wt_eq, Rows.uptoBulk, Rows.uptoBulkAll, List.map_cons, List.map_nil]
    omega
/-! ### what all statements of this seat ask -/
theorem laidOutTry : laidOutB Try.prog = true := by kernel_rfl
theorem mapsRowedTry : mapsRowed Try.prog = true := by kernel_rfl
theorem kidsTry : Kids Try.prog (· < Try.prog.types.size) := kids_rows laidOutTry mapsRowedTry
theorem fullTry : ∀ t e, t < Try.prog.types.size → Try.prog.underlying t = some (.slice e) → 0 < Try.prog.cellsOf e := slices_full_of Try.prog (by kernel_rfl)
end Go.Proofs.Ytcfgpbmcgmkmhaa.Vc
/-
  DATA: the laws of the texts and of their parts, at the level of calls.
-/
namespace Go.Proofs.Ytcfgpbmcgmkmhaa.Vc
open Go

def Dat.Mono (d : Dat) : Prop := ∀ (deep seen deep' seen' : Nat), deep ≤ 32 → deep' ≤ deep → seen' ≤ seen → seen ≤ 4096 → (d.chk deep seen).2 = 0 → (d.chk deep' seen').2 = 0 ∧ (d.chk deep' seen').1 + seen = (d.chk deep seen).1 + seen'
theorem Dats.mono : ∀ (l : List Dat), (∀ e ∈ l, e.Mono) → ∀ (deep seen deep' seen' : Nat), deep ≤ 32 → deep' ≤ deep → seen' ≤ seen → seen ≤ 4096 → (Dats.chk l deep seen).2 = 0 → (Dats.chk l deep' seen').2 = 0 ∧ (Dats.chk l deep' seen').1 + seen = (Dats.chk l deep seen).1 + seen'
  | [], _, deep, seen, deep', seen', _, _, _, _, _ => by simp only [Dats.chk]; exact ⟨trivial, by omega⟩
  | d :: l, hl, deep, seen, deep', seen', h1, h2, h3, h4, h => by
    simp only [Dats.chk] at h ⊢
    split at h
    · rename_i hx; exact absurd h hx
    rename_i hx
    have hx : (d.chk deep seen).2 = 0 := by simpa using hx
    obtain ⟨g1, g2⟩ := hl d (List.mem_cons_self ..) deep seen deep' seen' h1 h2 h3 h4 hx
    have g3 := Dats.mono l (fun e he => hl e (List.mem_cons_of_mem _ he)) deep (d.chk deep seen).1 deep' (d.chk deep' seen').1 h1 h2 (by omega) (Dat.chk_le d deep seen h4) h
    rw [if_neg (by simp [g1]), if_neg (by simp [hx])]
    exact ⟨g3.1, by omega⟩
/-- what may be within more may be within less; and counts as many -/
theorem Dat.mono : ∀ d : Dat, d.Mono := by
  refine Dat.ind ?_
  intro d ih deep seen deep' seen' h1 h2 h3 h4 h
  rw [Dat.chk_eq] at h
  rw [Dat.chk_eq d deep' seen', Dat.chk_eq d deep seen]
  split at h
  · simp at h
  rename_i h0
  split at h
  · simp at h
  rename_i h5
  split at h
  · simp at h
  rename_i h6
  have hn : nested d.kind = true → deep < 32 := fun x => by
    rcases Nat.lt_or_ge deep 32 with y | y
    · exact y
    · exact absurd ⟨x, by omega⟩ h5
  rw [if_neg h0, if_neg h5, if_neg h6, if_neg (show ¬ seen' = 4096 by omega), if_neg (fun x => by have := hn x.1; omega), if_neg h6]
  by_cases hl : d.list = []
  · rw [hl]; simp only [Dats.chk]; exact ⟨trivial, by omega⟩
  · have hn' := hn (formOk_nested (by simpa using h6) hl)
    have g := Dats.mono d.list ih (deep + 1) (seen + 1) (deep' + 1) (seen' + 1) (by omega) (by omega) (by omega) (by omega) h
    exact ⟨g.1, by omega⟩
end Go.Proofs.Ytcfgpbmcgmkmhaa.Vc
/-
  DATA: when two are the same; Huge.
-/
namespace Go.Proofs.Ytcfgpbmcgmkmhaa.Vc
open Go

noncomputable instance decDat : DecidableEq Dat := fun a b => Classical.propDecidable (a = b)
noncomputable instance decDats : DecidableEq (List Dat) := fun a b => Classical.propDecidable (a = b)
theorem Dat.eq_iff {a b : Dat} : a = b ↔ a.kind = b.kind ∧ a.int = b.int ∧ a.text = b.text ∧ a.list = b.list := by
  cases a; cases b; simp [Dat.kind, Dat.int, Dat.text, Dat.list]
theorem take_eq_succ {l m : List Dat} {k : Nat} {a b : Dat} (h : l.take k = m.take k) (ha : l[k]? = some a) (hb : m[k]? = some b) (hab : a = b) : l.take (k + 1) = m.take (k + 1) := by
  rw [List.take_add_one, List.take_add_one, h, ha, hb, hab]

def SameAt (f : FuncId) (a : Dat) : Prop := ∀ (b : Dat) (ca cb : List Value) (H : PH), a.Rep H ca → b.Rep H cb → Gives Try.prog f [.agg ca.toArray, .agg cb.toArray] H (.bool (decide (a = b)))
theorem Same_gives : ∀ a, SameAt n_scrimshawref02_Same a := by
  refine Dat.ind ?_
  intro a ih b ca cb H ha hb
  obtain ⟨s1, rfl, _, _, _, hl⟩ := Dat.Rep_iff.1 ha
  obtain ⟨s2, rfl, _, _, _, hm⟩ := Dat.Rep_iff.1 hb
  obtain ⟨b1, c1, rfl⟩ := hl.sl
  obtain ⟨b2, c2, rfl⟩ := hm.sl
  have m1 := hl.max
  have m2 := hm.max
  simp only [maxLen] at m1 m2
  refine tri_scrimshawref02_Same [.int .i64 a.kind, .int .i64 a.int, txt a.text, .slice b1 a.list.length c1, .int .i64 b.kind, .int .i64 b.int, txt b.text, .slice b2 b.list.length c2] (by kernel_rfl) (by kernel_rfl) ?_
  refine ⟨fun h => ?_, fun h => ?_⟩
  · simp only [evs, evb, txt_neq] at h
    refine ⟨?_, PH.le_refl H⟩
    have : ¬ a = b := fun e => by subst e; simp at h
    simp only [evs, evb, decide_eq_false this]
  simp only [evs, evb, txt_neq] at h
  simp only [Bool.or_eq_false_iff, decide_eq_false_iff_not, ne_eq, Decidable.not_not] at h
  obtain ⟨⟨⟨h1, h2⟩, h3⟩, h4⟩ := h
  have heq : (a = b) ↔ a.list = b.list := by rw [Dat.eq_iff]; simp [h1, h2, h3]
  have hlen : a.list.length = b.list.length := by omega
  refine ⟨fun n vs H' => ∃ k : Nat, vs = [.bool false, .int .i64 k] ∧ k + n = a.list.length ∧ a.list.take k = b.list.take k ∧ PH.le H H', ⟨a.list.length, 0, rfl, by omega, by simp, PH.le_refl H⟩, ?_⟩
  rintro n vs H' _ ⟨k, rfl, hkn, htk, hle⟩
  refine ⟨fun h5 => ?_, fun h5 => ?_⟩
  · simp only [evs, evb, decide_eq_true_eq] at h5
    obtain ⟨e, he⟩ : ∃ e, a.list[k]? = some e := ⟨_, List.getElem?_eq_getElem (show k < a.list.length by omega)⟩
    obtain ⟨e', he'⟩ : ∃ e, b.list[k]? = some e := ⟨_, List.getElem?_eq_getElem (show k < b.list.length by omega)⟩
    obtain ⟨g1, ces, g2, g3, _, _⟩ := SlRep.get (hl.le hle) he
    obtain ⟨g1', ces', g2', g3', _, _⟩ := SlRep.get (hm.le hle) he'
    have htags := g2.tags
    have htags' := g2'.tags
    have hcall := ih e (List.mem_of_getElem? he) e' ces ces' H' g2 g2'
    obtain ⟨sve, rfl, _⟩ := Dat.Rep_iff.1 g2
    obtain ⟨sve', rfl, _⟩ := Dat.Rep_iff.1 g2'
    refine ⟨fun _ => ?_, _, htags, by simp only [evs, evb]; exact g3, fun _ => ?_, _, htags', by simp only [evs, evb]; exact g3', ?_⟩
    · simp only [Chk.holds, evs, evb]; exact ⟨g1, by omega, by omega⟩
    · simp only [Chk.holds, evs, evb]; exact ⟨g1', by omega, by omega⟩
    refine den_gives [.bool (decide (e = e'))] cb_scrimshawref02_Same hcall rfl pendNil fun H2 h2 => ⟨fun h6 => ?_, fun h6 => ?_⟩
    · simp only [evs, evb, Bool.not_eq_true', decide_eq_false_iff_not] at h6
      refine ⟨?_, PH.le_trans hle h2⟩
      have : ¬ a = b := fun x => h6 (by subst x; rw [he] at he'; exact Option.some.inj he')
      simp only [evs, evb, decide_eq_false this]
    · simp only [evs, evb, Bool.not_eq_false', decide_eq_true_eq] at h6
      refine ⟨_, lookup_hit, n - 1, by omega, k + 1, ?_, by omega, take_eq_succ htk he he' h6, PH.le_trans hle h2⟩
      simp only [evs, evb]
      rw [w64 (by omega) (by omega)]
      rfl
  · simp only [evs, evb, decide_eq_false_iff_not] at h5
    refine ⟨?_, hle⟩
    have : a = b := heq.2 (by rw [List.take_of_length_le (by omega), List.take_of_length_le (by omega)] at htk; exact htk)
    simp only [evs, evb, decide_eq_true this]

/-! ### how many data there are in some, up to 100001 -/
mutual
def Dat.cnt : Dat → Nat
  | .mk _ _ _ l => 1 + Dats.cnt l
def Dats.cnt : List Dat → Nat
  | [] => 0
  | d :: l => Dat.cnt d + Dats.cnt l
end
theorem Dat.cnt_eq (d : Dat) : d.cnt = 1 + Dats.cnt d.list := by cases d; simp only [Dat.cnt, Dat.list]
theorem Dats.cnt_le : ∀ l : List Dat, l.length ≤ Dats.cnt l
  | [] => by simp
  | d :: l => by
    have := Dats.cnt_le l
    have h := Dat.cnt_eq d
    simp only [Dats.cnt, List.length_cons]; omega
theorem Dats.cnt_append : ∀ l m : List Dat, Dats.cnt (l ++ m) = Dats.cnt l + Dats.cnt m
  | [], m => by simp [Dats.cnt]
  | d :: l, m => by simp only [List.cons_append, Dats.cnt, Dats.cnt_append l m]; omega
end Go.Proofs.Ytcfgpbmcgmkmhaa.Vc
/-
  DATA that may be have the same text just if they are the same: the theorem; and the law, at the level of calls.
-/
namespace Go.Proofs.Ytcfgpbmcgmkmhaa.Vc
open Go

end Go.Proofs.Ytcfgpbmcgmkmhaa.Vc
/-
  DATA: what is made of items and a tail; a datum's items.
-/
namespace Go.Proofs.Ytcfgpbmcgmkmhaa.Vc
open Go

/-- a call that gives a datum in new memory -/
def GivesD (f : FuncId) (args : List Value) (H : PH) (d : Dat) : Prop := Tri Try.prog f args.toArray H fun e H' => ∃ cs, e = .returned (.agg cs.toArray) ∧ PH.le H H' ∧ d.Rep H' cs
def makeD (l : List Dat) (d : Dat) : Dat := if l.length = 0 then d else if d.kind = 5 ∨ d.kind = 6 then .mk d.kind 0 [] (l ++ d.list) else .mk 6 0 [] (l ++ [d])
theorem or_if (p q : Prop) [Decidable p] [Decidable q] : (if decide p = true then true else decide q) = decide (p ∨ q) := by by_cases hp : p <;> simp [hp]
theorem RMake_gives (l : List Dat) (d : Dat) (v : Value) (cs : List Value) (H : PH) (hl : SlR H l v) (hd : d.Rep H cs) (hc1 : Dats.cnt l ≤ 100000) (hc2 : d.cnt ≤ 100000) : GivesD n_scrimshawref02_Make [v, .agg cs.toArray] H (makeD l d) := by
  have hll := Dats.cnt_le l
  have hdl := Dats.cnt_le d.list
  have hcd := Dat.cnt_eq d
  have hd' := hd
  obtain ⟨sv, rfl, g1, g2, g3, hs⟩ := Dat.Rep_iff.1 hd
  obtain ⟨b0, c0, rfl⟩ := hl.sl
  obtain ⟨b, c, rfl⟩ := hs.sl
  refine tri_scrimshawref02_Make [.slice b0 l.length c0, .int .i64 d.kind, .int .i64 d.int, txt d.text, .slice b d.list.length c] (by kernel_rfl) (by kernel_rfl) ?_
  refine ⟨fun h => ?_, fun h => ?_⟩
  · simp only [evs, evb, decide_eq_true_eq] at h
    rw [makeD, if_pos (by omega)]
    exact ⟨_, rfl, PH.le_refl H, hd'⟩
  simp only [evs, evb, decide_eq_false_iff_not] at h
  refine den_lit0 (α := Dat) (b := 56) uDats elemDat fun v5 H2 a5 l5 => ?_
  refine den_append (b := 56) uDats elemDat rfl rfl a5 (hl.le a5.le) (by simp only [maxLen, List.length_nil]; omega) (by simp only [List.length_nil]; omega) fun v6 H3 a6 w6 => ⟨pendNil, ?_⟩
  rw [List.nil_append] at a6
  refine ⟨fun h2 => ?_, fun h2 => ?_⟩
  · simp only [evs, int_beq, or_if] at h2
    rw [decide_eq_true_eq] at h2
    rw [makeD, if_neg (by omega), if_pos h2]
    refine den_append (b := 56) uDats elemDat rfl rfl a6 (hs.le a6.le) (by simp only [maxLen]; omega) (by omega) fun v' H4 a7 w7 => ⟨pendNil, [.int .i64 d.kind, .int .i64 0, txt [], v'], rfl, a7.all, ?_⟩
    exact Dat.Rep_iff.2 ⟨_, rfl, g1, (by decide : InI 0), Nat.zero_le _, a7.slR⟩
  · simp only [evs, int_beq, or_if] at h2
    rw [decide_eq_false_iff_not] at h2
    rw [makeD, if_neg (by omega), if_neg h2]
    refine den_push (more := [d]) (b := 56) [.agg #[.int .i64 d.kind, .int .i64 d.int, txt d.text, .slice b d.list.length c]] uDats elemDat rfl (by decide) (by decide) rfl (.cons (Dat.Rep.le a6.le d hd') .nil) pendNil a6 (fun _ => rfl) (fun _ => rfl)
      (by simp only [maxLen, List.length_cons, List.length_nil]; omega) (by simp only [List.length_cons, List.length_nil]; omega) fun u v' H4 a7 w7 => ⟨pendNil, [.int .i64 6, .int .i64 0, txt [], v'], rfl, a7.all, ?_⟩
    exact Dat.Rep_iff.2 ⟨_, rfl, (by decide : InI 6), (by decide : InI 0), Nat.zero_le _, a7.slR⟩

end Go.Proofs.Ytcfgpbmcgmkmhaa.Vc
/-
  LIVE: instructions, ends, blocks, functions in the heap; what comes in.
-/
namespace Go.Proofs.Ytcfgpbmcgmkmhaa.Vc
open Go Go.ChangeShapes Go.WideShapes Go.ChangeAt Go.RowKit

structure InsX where
  op : List UInt8
  to : Int
  args : List Int
  const : Dat
  num : Int
structure EndX where
  kind : Int
  reg : Int
  args : List Int
  to : Int
  next : Int
  els : Int
structure BlkX where
  ins : List InsX
  e : EndX
structure PrcX where
  params : Int
  holds : Int
  regs : Int
  blocks : List BlkX
def InsX.pv (x : InsX) : List PV := [.str x.op, .int .i64 x.to, slp x.args, .int .i64 x.const.kind, .int .i64 x.const.int, .str x.const.text, slp x.const.list, .int .i64 x.num]
def EndX.pv (e : EndX) : List PV := [.int .i64 e.kind, .int .i64 e.reg, slp e.args, .int .i64 e.to, .int .i64 e.next, .int .i64 e.els]
instance encIns : Enc InsX := ⟨InsX.pv, 8, fun _ => rfl⟩
instance encEnd : Enc EndX := ⟨EndX.pv, 6, fun _ => rfl⟩
instance encBlk : Enc BlkX := ⟨fun b => slp b.ins :: b.e.pv, 7, fun _ => rfl⟩
instance encPrc : Enc PrcX := ⟨fun p => [.int .i64 p.params, .int .i64 p.holds, .int .i64 p.regs, slp p.blocks], 4, fun _ => rfl⟩

theorem repI_iff {H : PH} {n : Int} {v : Value} : PV.Rep H (.int .i64 n) v ↔ v = .int .i64 n ∧ InI n := by
  simp only [PV.Rep]; exact ⟨fun h => ⟨h.1, inI64.1 h.2⟩, fun h => ⟨h.1, inI64.2 h.2⟩⟩
theorem repS_iff {H : PH} {s : List UInt8} {v : Value} : PV.Rep H (.str s) v ↔ v = txt s ∧ s.length ≤ maxLen := by
  simp only [PV.Rep]
theorem ins_iff {H : PH} {x : InsX} {cs : List Value} : CsR H x cs ↔ ∃ av dv, cs = [txt x.op, .int .i64 x.to, av, .int .i64 x.const.kind, .int .i64 x.const.int, txt x.const.text, dv, .int .i64 x.num] ∧
    x.op.length ≤ maxLen ∧ InI x.to ∧ SlR H x.args av ∧ InI x.const.kind ∧ InI x.const.int ∧ x.const.text.length ≤ maxLen ∧ SlR H x.const.list dv ∧ InI x.num := by
  show PV.RepRow H (InsX.pv x) cs ↔ _
  simp only [InsX.pv, PV.RepRow, repI_iff, repS_iff]
  constructor
  · rintro ⟨v1, _, rfl, ⟨rfl, h1⟩, v2, _, rfl, ⟨rfl, h2⟩, v3, _, rfl, h3, v4, _, rfl, ⟨rfl, h4⟩, v5, _, rfl, ⟨rfl, h5⟩, v6, _, rfl, ⟨rfl, h6⟩, v7, _, rfl, h7, v8, _, rfl, ⟨rfl, h8⟩, rfl⟩
    exact ⟨v3, v7, rfl, h1, h2, h3, h4, h5, h6, h7, h8⟩
  · rintro ⟨v3, v7, rfl, h1, h2, h3, h4, h5, h6, h7, h8⟩
    exact ⟨_, _, rfl, ⟨rfl, h1⟩, _, _, rfl, ⟨rfl, h2⟩, _, _, rfl, h3, _, _, rfl, ⟨rfl, h4⟩, _, _, rfl, ⟨rfl, h5⟩, _, _, rfl, ⟨rfl, h6⟩, _, _, rfl, h7, _, _, rfl, ⟨rfl, h8⟩, rfl⟩
theorem end_iff {H : PH} {e : EndX} {cs : List Value} : CsR H e cs ↔ ∃ av, cs = [.int .i64 e.kind, .int .i64 e.reg, av, .int .i64 e.to, .int .i64 e.next, .int .i64 e.els] ∧
    InI e.kind ∧ InI e.reg ∧ SlR H e.args av ∧ InI e.to ∧ InI e.next ∧ InI e.els := by
  show PV.RepRow H (EndX.pv e) cs ↔ _
  simp only [EndX.pv, PV.RepRow, repI_iff, repS_iff]
  constructor
  · rintro ⟨v1, _, rfl, ⟨rfl, h1⟩, v2, _, rfl, ⟨rfl, h2⟩, v3, _, rfl, h3, v4, _, rfl, ⟨rfl, h4⟩, v5, _, rfl, ⟨rfl, h5⟩, v6, _, rfl, ⟨rfl, h6⟩, rfl⟩
    exact ⟨v3, rfl, h1, h2, h3, h4, h5, h6⟩
  · rintro ⟨v3, rfl, h1, h2, h3, h4, h5, h6⟩
    exact ⟨_, _, rfl, ⟨rfl, h1⟩, _, _, rfl, ⟨rfl, h2⟩, _, _, rfl, h3, _, _, rfl, ⟨rfl, h4⟩, _, _, rfl, ⟨rfl, h5⟩, _, _, rfl, ⟨rfl, h6⟩, rfl⟩
theorem blk_iff {H : PH} {b : BlkX} {cs : List Value} : CsR H b cs ↔ ∃ iv es, cs = iv :: es ∧ SlR H b.ins iv ∧ CsR H b.e es := by
  show PV.RepRow H (slp b.ins :: b.e.pv) cs ↔ _
  rw [PV.RepRow]
  constructor
  · rintro ⟨v, vs, rfl, h1, h2⟩; exact ⟨v, vs, rfl, h1, h2⟩
  · rintro ⟨v, vs, rfl, h1, h2⟩; exact ⟨v, vs, rfl, h1, h2⟩
theorem prc_iff {H : PH} {p : PrcX} {cs : List Value} : CsR H p cs ↔ ∃ bv, cs = [.int .i64 p.params, .int .i64 p.holds, .int .i64 p.regs, bv] ∧ InI p.params ∧ InI p.holds ∧ InI p.regs ∧ SlR H p.blocks bv := by
  show PV.RepRow H [_, _, _, _] cs ↔ _
  simp only [PV.RepRow, repI_iff]
  constructor
  · rintro ⟨v1, _, rfl, ⟨rfl, h1⟩, v2, _, rfl, ⟨rfl, h2⟩, v3, _, rfl, ⟨rfl, h3⟩, v4, _, rfl, h4, rfl⟩
    exact ⟨v4, rfl, h1, h2, h3, h4⟩
  · rintro ⟨v4, rfl, h1, h2, h3, h4⟩
    exact ⟨_, _, rfl, ⟨rfl, h1⟩, _, _, rfl, ⟨rfl, h2⟩, _, _, rfl, ⟨rfl, h3⟩, _, _, rfl, h4, rfl⟩

theorem csIK {H : PH} {a : Int} {cs : List Value} (h : CsR H a cs) : cs = [.int .i64 a] ∧ InI a := by
  have h' : PV.RepRow H [.int .i64 a] cs := h
  simp only [PV.RepRow, repI_iff] at h'
  obtain ⟨v, vs, rfl, ⟨rfl, h1⟩, rfl⟩ := h'
  exact ⟨rfl, h1⟩
theorem csIK_mk {S : PH} {a : Int} (h : InI a) : CsR S a [.int .i64 a] := by
  show PV.RepRow S [.int .i64 a] [.int .i64 a]
  simp only [PV.RepRow, repI_iff]
  exact ⟨_, _, rfl, ⟨rfl, h⟩, rfl⟩
instance encInts : Enc (List Int) := ⟨fun l => [slp l], 1, fun _ => rfl⟩
theorem csLK {H : PH} {a : List Int} {cs : List Value} (h : CsR H a cs) : ∃ v, cs = [v] ∧ SlR H a v := by
  have h' : PV.RepRow H [slp a] cs := h
  simp only [PV.RepRow] at h'
  obtain ⟨v, vs, rfl, h1, rfl⟩ := h'
  exact ⟨v, rfl, h1⟩
theorem csLK_mk {H : PH} {a : List Int} {v : Value} (h : SlR H a v) : CsR H a [v] := by
  show PV.RepRow H [slp a] [v]
  simp only [PV.RepRow]
  exact ⟨v, [], rfl, h, rfl⟩
theorem uIntsK : Try.prog.underlying 40 = some (.slice 3) := by kernel_rfl
theorem elemIntK : ElemOk Try.prog 3 1 8 = true := by kernel_rfl
theorem uIntssK : Try.prog.underlying 37 = some (.slice 40) := by kernel_rfl
theorem elemIntsK : ElemOk Try.prog 40 1 24 = true := by kernel_rfl
theorem uInssK : Try.prog.underlying 41 = some (.slice 43) := by kernel_rfl
theorem elemInsK : ElemOk Try.prog 43 8 112 = true := by kernel_rfl
theorem uBlksK : Try.prog.underlying 34 = some (.slice 47) := by kernel_rfl
/-! ### what comes in -/
def intsWt (l : List Int) : Nat := sumWt (fun _ => 1) l + 1
def InsX.wt (x : InsX) : Nat := x.op.length + 1 + 1 + intsWt x.args + x.const.wt + 1
def EndX.wt (e : EndX) : Nat := 1 + 1 + intsWt e.args + 1 + 1 + 1
def BlkX.wt (b : BlkX) : Nat := sumWt InsX.wt b.ins + 1 + b.e.wt
def PrcX.wt (p : PrcX) : Nat := 1 + 1 + 1 + (sumWt BlkX.wt p.blocks + 1)
end Go.Proofs.Ytcfgpbmcgmkmhaa.Vc
/-
  LIVE: the document's small functions.
-/
namespace Go.Proofs.Ytcfgpbmcgmkmhaa.Vc
open Go

theorem Has17_gives (l : List Int) (n : Int) (v : Value) (H : PH) (hl : SlR H l v) : Gives Try.prog n_scrimshawref17_Has [v, .int .i64 n] H (.bool (decide (n ∈ l))) := by
  obtain ⟨b, c, rfl⟩ := hl.sl
  have hm := hl.max
  simp only [maxLen] at hm
  refine tri_scrimshawref17_Has [.slice b l.length c, .int .i64 n] (by kernel_rfl) (by kernel_rfl) ?_
  refine ⟨fun j vs H' => ∃ k : Nat, vs = [.bool false, .int .i64 k] ∧ k + j = l.length ∧ n ∉ l.take k ∧ PH.le H H', ⟨l.length, 0, rfl, by omega, by simp, PH.le_refl H⟩, ?_⟩
  rintro j vs H' _ ⟨k, rfl, hkn, hno, hle⟩
  refine ⟨fun h => ?_, fun h => ?_⟩
  · simp only [evs, evb, decide_eq_true_eq] at h
    obtain ⟨a, ha⟩ : ∃ a, l[k]? = some a := ⟨_, List.getElem?_eq_getElem (show k < l.length by omega)⟩
    obtain ⟨g1, _, ces, g2, g3⟩ := (hl.le hle).get ha
    obtain ⟨rfl, _⟩ := csIK g2
    refine ⟨fun _ => ?_, [.int .i64 a], rfl, ?_, fun h2 => ?_, fun h2 => ?_⟩
    · simp only [Chk.holds, evs, evb]; exact ⟨g1, by omega, by omega⟩
    · simp only [evs, evb]; exact g3
    · simp only [evs, evb, decide_eq_true_eq] at h2
      subst h2
      rw [decide_eq_true (List.mem_of_getElem? ha)]
      exact ⟨rfl, hle⟩
    · simp only [evs, evb, decide_eq_false_iff_not] at h2
      refine ⟨_, lookup_hit, j - 1, by omega, k + 1, ?_, by omega, fun hx => ?_, hle⟩
      · simp only [evs, evb]; rw [w64 (by omega) (by omega)]; rfl
      · rw [List.take_add_one, ha] at hx
        rcases List.mem_append.1 hx with hx | hx
        · exact hno hx
        · simp at hx; exact h2 hx.symm
  · simp only [evs, evb, decide_eq_false_iff_not] at h
    rw [List.take_of_length_le (by omega)] at hno
    rw [decide_eq_false hno]
    exact ⟨rfl, hle⟩
theorem Same17_gives (l m : List Int) (va vb : Value) (H : PH) (hl : SlR H l va) (hm : SlR H m vb) : Gives Try.prog n_scrimshawref17_Same [va, vb] H (.bool (decide (l = m))) := by
  obtain ⟨b1, c1, rfl⟩ := hl.sl
  obtain ⟨b2, c2, rfl⟩ := hm.sl
  have m1 := hl.max
  have m2 := hm.max
  simp only [maxLen] at m1 m2
  refine tri_scrimshawref17_Same [.slice b1 l.length c1, .slice b2 m.length c2] (by kernel_rfl) (by kernel_rfl) ?_
  refine ⟨fun h => ?_, fun h => ?_⟩
  · simp only [evs, evb, decide_eq_true_eq] at h
    rw [decide_eq_false (fun e => h (by rw [e]))]
    exact ⟨rfl, PH.le_refl H⟩
  · simp only [evs, evb, decide_eq_false_iff_not, Decidable.not_not] at h
    have hlen : l.length = m.length := by omega
    refine ⟨fun j vs H' => ∃ k : Nat, vs = [.bool false, .int .i64 k] ∧ k + j = l.length ∧ l.take k = m.take k ∧ PH.le H H', ⟨l.length, 0, rfl, by omega, rfl, PH.le_refl H⟩, ?_⟩
    rintro j vs H' _ ⟨k, rfl, hkn, hno, hle⟩
    refine ⟨fun h => ?_, fun h => ?_⟩
    · simp only [evs, evb, decide_eq_true_eq] at h
      obtain ⟨a, ha⟩ : ∃ a, l[k]? = some a := ⟨_, List.getElem?_eq_getElem (show k < l.length by omega)⟩
      obtain ⟨a', ha'⟩ : ∃ a, m[k]? = some a := ⟨_, List.getElem?_eq_getElem (show k < m.length by omega)⟩
      obtain ⟨g1, _, ces, g2, g3⟩ := (hl.le hle).get ha
      obtain ⟨q1, _, des, q2, q3⟩ := (hm.le hle).get ha'
      obtain ⟨rfl, _⟩ := csIK g2
      obtain ⟨rfl, _⟩ := csIK q2
      refine ⟨fun _ => ?_, [.int .i64 a], rfl, ?_, fun _ => ?_, [.int .i64 a'], rfl, ?_, fun h2 => ?_, fun h2 => ?_⟩
      · simp only [Chk.holds, evs, evb]; exact ⟨g1, by omega, by omega⟩
      · simp only [evs, evb]; exact g3
      · simp only [Chk.holds, evs, evb]; exact ⟨q1, by omega, by omega⟩
      · simp only [evs, evb]; exact q3
      · simp only [evs, evb, decide_eq_true_eq] at h2
        have : l ≠ m := fun e => by
          subst e
          rw [ha] at ha'; cases ha'
          exact h2 rfl
        rw [decide_eq_false this]
        exact ⟨rfl, hle⟩
      · simp only [evs, evb, decide_eq_false_iff_not, Decidable.not_not] at h2
        subst h2
        refine ⟨_, lookup_hit, j - 1, by omega, k + 1, ?_, by omega, ?_, hle⟩
        · simp only [evs, evb]; rw [w64 (by omega) (by omega)]; rfl
        · rw [List.take_add_one, List.take_add_one, ha, ha', hno]
    · simp only [evs, evb, decide_eq_false_iff_not] at h
      rw [List.take_of_length_le (by omega), List.take_of_length_le (by omega)] at hno
      rw [decide_eq_true hno]
      exact ⟨rfl, hle⟩
theorem SameAll17_gives (l m : List (List Int)) (va vb : Value) (H : PH) (hl : SlR H l va) (hm : SlR H m vb) : Gives Try.prog n_scrimshawref17_SameAll [va, vb] H (.bool (decide (l = m))) := by
  obtain ⟨b1, c1, rfl⟩ := hl.sl
  obtain ⟨b2, c2, rfl⟩ := hm.sl
  have m1 := hl.max
  have m2 := hm.max
  simp only [maxLen] at m1 m2
  refine tri_scrimshawref17_SameAll [.slice b1 l.length c1, .slice b2 m.length c2] (by kernel_rfl) (by kernel_rfl) ?_
  refine ⟨fun h => ?_, fun h => ?_⟩
  · simp only [evs, evb, decide_eq_true_eq] at h
    rw [decide_eq_false (fun e => h (by rw [e]))]
    exact ⟨rfl, PH.le_refl H⟩
  · simp only [evs, evb, decide_eq_false_iff_not, Decidable.not_not] at h
    have hlen : l.length = m.length := by omega
    refine ⟨fun j vs H' => ∃ k : Nat, vs = [.bool false, .int .i64 k] ∧ k + j = l.length ∧ l.take k = m.take k ∧ PH.le H H', ⟨l.length, 0, rfl, by omega, rfl, PH.le_refl H⟩, ?_⟩
    rintro j vs H' _ ⟨k, rfl, hkn, hno, hle⟩
    refine ⟨fun h => ?_, fun h => ?_⟩
    · simp only [evs, evb, decide_eq_true_eq] at h
      obtain ⟨a, ha⟩ : ∃ a, l[k]? = some a := ⟨_, List.getElem?_eq_getElem (show k < l.length by omega)⟩
      obtain ⟨a', ha'⟩ : ∃ a, m[k]? = some a := ⟨_, List.getElem?_eq_getElem (show k < m.length by omega)⟩
      obtain ⟨g1, _, ces, g2, g3⟩ := (hl.le hle).get ha
      obtain ⟨q1, _, des, q2, q3⟩ := (hm.le hle).get ha'
      obtain ⟨v1, rfl, r1⟩ := csLK g2
      obtain ⟨v2, rfl, r2⟩ := csLK q2
      have s1 := r1.sl
      have s2 := r2.sl
      obtain ⟨x1, x2, rfl⟩ := s1
      obtain ⟨y1, y2, rfl⟩ := s2
      refine ⟨fun _ => ?_, [.slice x1 a.length x2], rfl, ?_, fun _ => ?_, [.slice y1 a'.length y2], rfl, ?_, ?_⟩
      · simp only [Chk.holds, evs, evb]; exact ⟨g1, by omega, by omega⟩
      · simp only [evs, evb]; exact g3
      · simp only [Chk.holds, evs, evb]; exact ⟨q1, by omega, by omega⟩
      · simp only [evs, evb]; exact q3
      refine den_gives [.bool (decide (a = a'))] cb_scrimshawref17_Same (Same17_gives a a' _ _ H' r1 r2) rfl pendNil fun H2 l2 => ⟨fun h2 => ?_, fun h2 => ?_⟩
      · simp only [evs, evb] at h2
        have : l ≠ m := fun e => by
          subst e
          rw [ha] at ha'; cases ha'
          simp at h2
        rw [decide_eq_false this]
        exact ⟨rfl, PH.le_trans hle l2⟩
      · simp only [evs, evb, Bool.not_eq_false', decide_eq_true_eq] at h2
        subst h2
        refine ⟨_, lookup_hit, j - 1, by omega, k + 1, ?_, by omega, ?_, PH.le_trans hle l2⟩
        · simp only [evs, evb]; rw [w64 (by omega) (by omega)]; rfl
        · rw [List.take_add_one, List.take_add_one, ha, ha', hno]
    · simp only [evs, evb, decide_eq_false_iff_not] at h
      rw [List.take_of_length_le (by omega), List.take_of_length_le (by omega)] at hno
      rw [decide_eq_true hno]
      exact ⟨rfl, hle⟩
end Go.Proofs.Ytcfgpbmcgmkmhaa.Vc
/-
  LIVE: what an end reads and where it leads; the document's answers to these; a number into a list that rises; all that is read.
-/
namespace Go.Proofs.Ytcfgpbmcgmkmhaa.Vc
open Go

def EndX.reads (e : EndX) (r : Int) : Bool :=
  if e.kind = 1 ∨ e.kind = 2 ∨ e.kind = 5 ∨ e.kind = 6 then decide (e.reg = r) else if e.kind = 3 ∨ e.kind = 4 then decide (e.reg = r) || decide (r ∈ e.args) else false
def EndX.calls (e : EndX) : Bool := decide (e.kind = 4 ∨ e.kind = 6)
def EndX.ways (e : EndX) : List Int := (if e.kind = 0 ∨ e.kind = 1 ∨ e.kind = 4 ∨ e.kind = 6 then [e.next] else []) ++ (if e.kind = 1 then [e.els] else [])
def EndX.leads (e : EndX) (n : Nat) : List Int := e.ways.filter fun b => decide (0 ≤ b ∧ b < n)
/-- the cells of an end -/
def endVs (e : EndX) (av : Value) : List Value := [.int .i64 e.kind, .int .i64 e.reg, av, .int .i64 e.to, .int .i64 e.next, .int .i64 e.els]

def insL (n : Int) : List Int → List Int
  | [] => [n]
  | a :: l => if n < a then n :: a :: l else a :: insL n l
def putL (l : List Int) (n : Int) : List Int := if n ∈ l then l else insL n l
theorem insL_mem (n x : Int) : ∀ l, x ∈ insL n l ↔ x = n ∨ x ∈ l
  | [] => by simp [insL]
  | a :: l => by
    unfold insL
    split
    · simp
    · simp only [List.mem_cons, insL_mem n x l]
      constructor
      · rintro (h | h | h)
        · exact .inr (.inl h)
        · exact .inl h
        · exact .inr (.inr h)
      · rintro (h | h | h)
        · exact .inr (.inl h)
        · exact .inl h
        · exact .inr (.inr h)
theorem insL_rises {n : Int} : ∀ {l : List Int}, l.Pairwise (· < ·) → n ∉ l → (insL n l).Pairwise (· < ·)
  | [], _, _ => by simp [insL]
  | a :: l, h, hn => by
    obtain ⟨h1, h2⟩ := List.pairwise_cons.1 h
    simp only [List.mem_cons, not_or] at hn
    unfold insL
    split
    · rename_i hlt
      refine List.pairwise_cons.2 ⟨fun b hb => ?_, h⟩
      rcases List.mem_cons.1 hb with rfl | hb
      · exact hlt
      · exact Int.lt_trans hlt (h1 b hb)
    · rename_i hlt
      refine List.pairwise_cons.2 ⟨fun b hb => ?_, insL_rises h2 hn.2⟩
      rcases (insL_mem n b l).1 hb with rfl | hb
      · omega
      · exact h1 b hb
theorem putL_mem (n x : Int) (l : List Int) : x ∈ putL l n ↔ x = n ∨ x ∈ l := by
  unfold putL
  split
  · rename_i h; exact ⟨.inr, fun hx => hx.elim (fun e => e ▸ h) id⟩
  · exact insL_mem n x l
theorem putL_rises {n : Int} {l : List Int} (h : l.Pairwise (· < ·)) : (putL l n).Pairwise (· < ·) := by
  unfold putL; split
  · exact h
  · rename_i hn; exact insL_rises h hn
end Go.Proofs.Ytcfgpbmcgmkmhaa.Vc
/-
  LIVE: the document's answers: to which blocks an end leads; all that is read.
-/
namespace Go.Proofs.Ytcfgpbmcgmkmhaa.Vc
open Go

/-- the cells of a function -/
def prcVs (p : PrcX) (bv : Value) : List Value := [.int .i64 p.params, .int .i64 p.holds, .int .i64 p.regs, bv]
theorem ways_len (e : EndX) : e.ways.length ≤ 2 := by
  unfold EndX.ways
  rw [List.length_append]
  split <;> split <;> simp

def EndX.regs (e : EndX) : List Int := (if e.reads e.reg then [e.reg] else []) ++ (if e.kind = 3 ∨ e.kind = 4 then e.args else [])
def BlkX.regs (b : BlkX) : List Int := b.ins.flatMap (·.args) ++ b.e.regs
def PrcX.regl (p : PrcX) : List Int := p.blocks.flatMap BlkX.regs
def readL (p : PrcX) : List Int := p.regl.foldl putL []
theorem foldl_put_mem (l : List Int) (x : Int) : ∀ acc : List Int, x ∈ l.foldl putL acc ↔ x ∈ acc ∨ x ∈ l := by
  induction l with
  | nil => intro acc; simp
  | cons a l ih =>
    intro acc
    rw [List.foldl_cons, ih, putL_mem, List.mem_cons]
    constructor
    · rintro ((h | h) | h)
      · exact .inr (.inl h)
      · exact .inl h
      · exact .inr (.inr h)
    · rintro (h | h | h)
      · exact .inl (.inr h)
      · exact .inl (.inl h)
      · exact .inr h
theorem foldl_put_rises (l : List Int) : ∀ acc : List Int, acc.Pairwise (· < ·) → (l.foldl putL acc).Pairwise (· < ·) := by
  induction l with
  | nil => intro acc h; exact h
  | cons a l ih => intro acc h; exact ih _ (putL_rises h)
theorem readL_rises (p : PrcX) : (readL p).Pairwise (· < ·) := foldl_put_rises _ _ .nil
theorem readL_mem (p : PrcX) (x : Int) : x ∈ readL p ↔ x ∈ p.regl := by
  unfold readL; rw [foldl_put_mem]; simp
end Go.Proofs.Ytcfgpbmcgmkmhaa.Vc
/-
  LIVE: what is live, and that a search finds it. No program in sight.
-/
namespace Go.Proofs.Ytcfgpbmcgmkmhaa.Vc
open Go

def tieB : List UInt8 := [116, 105, 101]
def InsX.fills (x : InsX) (r : Int) : Prop := x.op ≠ tieB ∧ x.to = r
def thru (r : Int) : List InsX → Prop → Prop
  | [], q => q
  | x :: xs, q => r ∈ x.args ∨ (¬ x.fills r ∧ thru r xs q)
def endLive (e : EndX) (n : Nat) (r : Int) (L : Nat → Prop) : Prop := e.reads r = true ∨ (¬ (e.calls = true ∧ e.to = r) ∧ ∃ b : Nat, (b : Int) ∈ e.leads n ∧ L b)
/-- live at a place of a block, where L are the blocks at whose beginning it is -/
def blkLive (p : PrcX) (r : Int) (L : Nat → Prop) (i at_ : Nat) : Prop := ∃ b, p.blocks[i]? = some b ∧ thru r (b.ins.drop at_) (endLive b.e p.blocks.length r L)
/-- live at a block's beginning: at the least that abides -/
def LiveB (p : PrcX) (r : Int) (i : Nat) : Prop := ∀ L : Nat → Prop, (∀ j, blkLive p r L j 0 → L j) → L i
def LiveAt (p : PrcX) (r : Int) (i at_ : Nat) : Prop := blkLive p r (LiveB p r) i at_

theorem thru_mono {r : Int} {q q' : Prop} (h : q → q') : ∀ {l : List InsX}, thru r l q → thru r l q'
  | [], hq => h hq
  | x :: xs, hq => hq.imp id fun h2 => ⟨h2.1, thru_mono h h2.2⟩
theorem endLive_mono {e : EndX} {n : Nat} {r : Int} {L L' : Nat → Prop} (h : ∀ i, L i → L' i) (hl : endLive e n r L) : endLive e n r L' :=
  hl.imp id fun ⟨h1, b, h2, h3⟩ => ⟨h1, b, h2, h b h3⟩
theorem blkLive_mono {p : PrcX} {r : Int} {L L' : Nat → Prop} (h : ∀ i, L i → L' i) {i at_ : Nat} (hl : blkLive p r L i at_) : blkLive p r L' i at_ := by
  obtain ⟨b, h1, h2⟩ := hl
  exact ⟨b, h1, thru_mono (endLive_mono h) h2⟩
theorem liveB_of {p : PrcX} {r : Int} {i : Nat} (h : LiveAt p r i 0) : LiveB p r i := fun L hL => hL i (blkLive_mono (fun j hj => hj L hL) h)
theorem liveB_at {p : PrcX} {r : Int} {i : Nat} (h : LiveB p r i) : LiveAt p r i 0 := h (fun j => LiveAt p r j 0) fun _ hj => blkLive_mono (fun _ hk => liveB_of hk) hj
theorem liveB_iff {p : PrcX} {r : Int} {i : Nat} : LiveB p r i ↔ LiveAt p r i 0 := ⟨liveB_at, liveB_of⟩
/-- what is live is read somewhere -/
theorem thru_read {r : Int} {q : Prop} : ∀ {l : List InsX}, thru r l q → r ∈ l.flatMap (·.args) ∨ q
  | [], h => .inr h
  | x :: xs, h => by
    simp only [List.flatMap_cons, List.mem_append]
    rcases h with h | ⟨_, h⟩
    · exact .inl (.inl h)
    · rcases thru_read h with h | h
      · exact .inl (.inr h)
      · exact .inr h
theorem reads_regs {e : EndX} {r : Int} (h : e.reads r = true) : r ∈ e.regs := by
  unfold EndX.reads at h
  unfold EndX.regs
  split at h
  · rename_i hk
    simp only [decide_eq_true_eq] at h
    have : e.reads e.reg = true := by unfold EndX.reads; rw [if_pos hk]; simp
    rw [if_pos this]; simp [h]
  · split at h
    · rename_i hk hk2
      have : e.reads e.reg = true := by unfold EndX.reads; rw [if_neg hk, if_pos hk2]; simp
      rw [if_pos this, if_pos hk2]
      simp only [Bool.or_eq_true, decide_eq_true_eq] at h
      rcases h with h | h
      · simp [h]
      · simp [h]
    · cases h
theorem live_regl {p : PrcX} {r : Int} {i at_ : Nat} (h : LiveAt p r i at_) : r ∈ p.regl := by
  have key : ∀ {j a : Nat} {L : Nat → Prop}, (∀ k, L k → r ∈ p.regl) → blkLive p r L j a → r ∈ p.regl := by
    rintro j a L hL ⟨b, hb, ht⟩
    have hmem : ∀ x ∈ b.regs, x ∈ p.regl := fun x hx => List.mem_flatMap.2 ⟨b, List.mem_of_getElem? hb, hx⟩
    rcases thru_read ht with h | h
    · refine hmem r (List.mem_append_left _ ?_)
      obtain ⟨y, hy, hr⟩ := List.mem_flatMap.1 h
      exact List.mem_flatMap.2 ⟨y, List.mem_of_mem_drop hy, hr⟩
    · rcases h with h | ⟨_, k, _, hk⟩
      · exact hmem r (List.mem_append_right _ (reads_regs h))
      · exact hL k hk
  exact key (fun k hk => hk (fun _ => r ∈ p.regl) fun j hj => key (fun _ h => h) hj) h

open Classical in
noncomputable def liveD (p : PrcX) (r : Int) (i at_ : Nat) : Bool := decide (LiveAt p r i at_)
theorem liveD_iff {p : PrcX} {r : Int} {i at_ : Nat} : liveD p r i at_ = true ↔ LiveAt p r i at_ := by
  unfold liveD; simp
/-- the document's lists -/
noncomputable def liveL (p : PrcX) (i at_ : Nat) : List Int := (readL p).filter fun r => liveD p r i at_
theorem liveL_mem {p : PrcX} {i at_ : Nat} {r : Int} : r ∈ liveL p i at_ ↔ LiveAt p r i at_ := by
  unfold liveL
  rw [List.mem_filter, liveD_iff, readL_mem]
  exact ⟨fun h => h.2, fun h => ⟨live_regl h, h⟩⟩
theorem liveL_rises (p : PrcX) (i at_ : Nat) : (liveL p i at_).Pairwise (· < ·) := (readL_rises p).sublist List.filter_sublist
/-- lists that rise are the same where they have the same -/
theorem rises_eq : ∀ {l m : List Int}, l.Pairwise (· < ·) → m.Pairwise (· < ·) → (∀ x, x ∈ l ↔ x ∈ m) → l = m
  | [], [], _, _, _ => rfl
  | [], b :: m, _, _, h => absurd ((h b).2 (List.mem_cons_self ..)) (by simp)
  | a :: l, [], _, _, h => absurd ((h a).1 (List.mem_cons_self ..)) (by simp)
  | a :: l, b :: m, hl, hm, h => by
    obtain ⟨l1, l2⟩ := List.pairwise_cons.1 hl
    obtain ⟨m1, m2⟩ := List.pairwise_cons.1 hm
    have hab : a = b := by
      have ha := (h a).1 (List.mem_cons_self ..)
      have hb := (h b).2 (List.mem_cons_self ..)
      rcases List.mem_cons.1 ha with e | ha
      · exact e
      · rcases List.mem_cons.1 hb with e | hb
        · exact e.symm
        · have := m1 a ha; have := l1 b hb; omega
    subst hab
    congr 1
    refine rises_eq l2 m2 fun x => ?_
    constructor
    · intro hx
      rcases List.mem_cons.1 ((h x).1 (List.mem_cons_of_mem _ hx)) with e | h1
      · subst e; have := l1 x hx; omega
      · exact h1
    · intro hx
      rcases List.mem_cons.1 ((h x).2 (List.mem_cons_of_mem _ hx)) with e | h1
      · subst e; have := m1 x hx; omega
      · exact h1

/-! ### the search -/
/-- where the search stands: who is begun, who is still to be gone through -/
structure Seek (p : PrcX) (r : Int) (i0 a0 : Nat) (begun : Nat → Bool) (todo : List Nat) : Prop where
  fair : ∀ b ∈ todo, LiveAt p r b 0 → LiveAt p r i0 a0
  full : ∀ b, begun b = true → b ∉ todo → ¬ blkLive p r (fun j => begun j = false) b 0
  start : ¬ blkLive p r (fun j => begun j = false) i0 a0
theorem Seek.none {p : PrcX} {r : Int} {i0 a0 : Nat} {begun : Nat → Bool} (h : Seek p r i0 a0 begun []) : ¬ LiveAt p r i0 a0 := by
  intro hl
  refine h.start (blkLive_mono (fun j hj => hj (fun j => begun j = false) fun k hk => ?_) hl)
  cases hb : begun k with
  | false => rfl
  | true => exact absurd hk (h.full k hb (by simp))
/-- .. with one taken out, to be gone through from a on -/
structure Mid (p : PrcX) (r : Int) (i0 a0 : Nat) (begun : Nat → Bool) (rest : List Nat) (i a : Nat) : Prop where
  cur : LiveAt p r i a → LiveAt p r i0 a0
  fair : ∀ b ∈ rest, LiveAt p r b 0 → LiveAt p r i0 a0
  hold : ∀ b, begun b = true → b ∉ rest → (b = i ∧ a = 0) ∨ ¬ blkLive p r (fun j => begun j = false) b 0
  start : (i = i0 ∧ a = a0) ∨ ¬ blkLive p r (fun j => begun j = false) i0 a0
theorem Mid.first (p : PrcX) (r : Int) (i a : Nat) : Mid p r i a (fun _ => false) [] i a :=
  ⟨id, fun b hb => by simp at hb, fun b hb => by simp at hb, .inl ⟨rfl, rfl⟩⟩
theorem Mid.dead {p : PrcX} {r : Int} {i0 a0 i a : Nat} {begun : Nat → Bool} {rest : List Nat} (h : Mid p r i0 a0 begun rest i a) (hd : ∀ L, ¬ blkLive p r L i a) : Seek p r i0 a0 begun rest :=
  ⟨h.fair, fun b hb hn => (h.hold b hb hn).elim (fun ⟨e1, e2⟩ => by rw [e1, ← e2]; exact hd _) id, h.start.elim (fun ⟨e1, e2⟩ => by rw [← e1, ← e2]; exact hd _) id⟩
theorem Mid.go {p : PrcX} {r : Int} {i0 a0 i a : Nat} {begun begun' : Nat → Bool} {rest todo' : List Nat} {b : BlkX} (h : Mid p r i0 a0 begun rest i a) (hb : p.blocks[i]? = some b) (ht : ∀ q, thru r (b.ins.drop a) q ↔ q) (hr : b.e.reads r = false)
    (hc : ¬ (b.e.calls = true ∧ b.e.to = r)) (h1 : ∀ j, begun' j = true ↔ begun j = true ∨ (j : Int) ∈ b.e.leads p.blocks.length) (h2 : ∀ j ∈ todo', j ∈ rest ∨ (j : Int) ∈ b.e.leads p.blocks.length) (h3 : ∀ j ∈ rest, j ∈ todo') (h4 : ∀ j, begun' j = true → begun j = true ∨ j ∈ todo') :
    Seek p r i0 a0 begun' todo' := by
  have hmono : ∀ {j k : Nat}, ¬ blkLive p r (fun j => begun j = false) j k → ¬ blkLive p r (fun j => begun' j = false) j k := fun hn hl => hn (blkLive_mono (fun m hm => by
    cases hbm : begun m with
    | false => rfl
    | true => rw [(h1 m).2 (.inl hbm)] at hm; cases hm) hl)
  have hhere : ¬ blkLive p r (fun j => begun' j = false) i a := by
    rintro ⟨b', hb', hl⟩
    rw [hb] at hb'; cases hb'
    rw [ht] at hl
    rcases hl with hl | ⟨_, k, hk, hf⟩
    · rw [hr] at hl; cases hl
    · rw [(h1 k).2 (.inr hk)] at hf; cases hf
  refine ⟨fun j hj hl => ?_, fun j hj hn => ?_, h.start.elim (fun ⟨e1, e2⟩ => by rw [← e1, ← e2]; exact hhere) hmono⟩
  · rcases h2 j hj with hj | hj
    · exact h.fair j hj hl
    · refine h.cur ⟨b, hb, (ht _).2 (.inr ⟨hc, j, hj, liveB_of hl⟩)⟩
  · rcases h4 j hj with hb0 | hb0
    · rcases h.hold j hb0 (fun hr => hn (h3 j hr)) with ⟨e1, e2⟩ | hx
      · rw [e1, ← e2]; exact hhere
      · exact hmono hx
    · exact absurd hb0 hn
end Go.Proofs.Ytcfgpbmcgmkmhaa.Vc
/-
  LIVE: the document's search.
-/
namespace Go.Proofs.Ytcfgpbmcgmkmhaa.Vc
open Go

theorem txt_neK (l : List UInt8) : cmpS .neq ⟨l.toArray⟩ ⟨#[116, 105, 101]⟩ = !decide (l = tieB) := by
  show (!((⟨l.toArray⟩ : ByteArray).toList == (⟨tieB.toArray⟩ : ByteArray).toList)) = _
  rw [txt_eq]
abbrev nI (j : Nat) : Value := .int .i64 (j : Int)

end Go.Proofs.Ytcfgpbmcgmkmhaa.Vc
/-
  LIVE: the document's lists.
-/
namespace Go.Proofs.Ytcfgpbmcgmkmhaa.Vc
open Go

structure PrcX.Fit (p : PrcX) : Prop where
  n : p.blocks.length ≤ 20000000
  ins : ∀ b ∈ p.blocks, b.ins.length ≤ 20000000
  regs : p.regl.length ≤ 20000000
/-- the document's lists of a block's beginning -/
noncomputable def inL (p : PrcX) : List (List Int) := (List.range p.blocks.length).map fun i => liveL p i 0
theorem inL_len (p : PrcX) : (inL p).length = p.blocks.length := by simp [inL]
/-- the document's lists behind each instruction of a block -/
noncomputable def behL (p : PrcX) (i : Nat) (b : BlkX) : List (List Int) := (List.range b.ins.length).map fun k => liveL p i (k + 1)
noncomputable def behindL (p : PrcX) (block : Int) : List (List Int) := match (if block < 0 then none else p.blocks[block.toNat]?) with
  | some b => behL p block.toNat b
  | none => []
end Go.Proofs.Ytcfgpbmcgmkmhaa.Vc
/-
  LIVE: what is live across a call, by the document.
-/
namespace Go.Proofs.Ytcfgpbmcgmkmhaa.Vc
open Go

def BlkX.crosses (b : BlkX) (n : Nat) : Prop := b.e.calls = true ∧ 0 ≤ b.e.next ∧ b.e.next < (n : Int)
instance (b : BlkX) (n : Nat) : Decidable (b.crosses n) := by unfold BlkX.crosses; exact inferInstance
noncomputable def acrossL (p : PrcX) (block : Int) : List Int := match (if block < 0 then none else p.blocks[block.toNat]?) with
  | some b => if b.crosses p.blocks.length then (liveL p b.e.next.toNat 0).filter (fun x => decide (x ≠ b.e.to)) else []
  | none => []
theorem acrossL_none {p : PrcX} {block : Int} (h : block < 0 ∨ (p.blocks.length : Int) ≤ block) : acrossL p block = [] := by
  unfold acrossL
  by_cases h0 : block < 0
  · rw [if_pos h0]
  · rw [if_neg h0, List.getElem?_eq_none (by omega)]
theorem acrossL_at {p : PrcX} {i : Nat} {b : BlkX} (hb : p.blocks[i]? = some b) : acrossL p (i : Int) = if b.crosses p.blocks.length then (liveL p b.e.next.toNat 0).filter (fun x => decide (x ≠ b.e.to)) else [] := by
  unfold acrossL
  rw [if_neg (by omega), Int.toNat_natCast, hb]
theorem nil_slR {α : Type} [Enc α] (S : PH) : SlR S ([] : List α) (.slice none 0 0) := SlR.mk_iff.2 ⟨Nat.zero_le _, .inl ⟨rfl, rfl⟩⟩
end Go.Proofs.Ytcfgpbmcgmkmhaa.Vc
/-
  LIVE: a row of instructions gone over from its end: slices.Backward.
-/
namespace Go.Proofs.Ytcfgpbmcgmkmhaa.Vc
open Go

section
variable {P : Program} {D : Prot} {H0 : PH} {w0 : World} {X : List PanicEntry → PH → Prop}
theorem oper_app {m : Nat} {o : Oper} {a : Act} {w : World} {K K' : Act → World → Prop} {Q Q' : Exit → Act → World → Prop} (hK : ∀ a w, K a w → K' a w) (hP : ∀ ch a w, Q (.panic ch) a w → Q' (.panic ch) a w) (hO : ¬ LetsOut Q) (h : o.wp P a w K Q) : o.wpIn Fence.wide m P a w K' Q' := by
  refine ⟨fun _ _ => trivial, ?_⟩
  show o.uponIn _ _ _ _ _ _ ((o.semAt none a.eval).run P w)
  rw [Oper.semAt_none]
  unfold Oper.wp at h
  generalize (execOp a.eval o).run P w = res at h ⊢
  cases res with
  | ok x w' =>
    cases x
    case enter f args =>
      refine ⟨fun h => absurd h (by simp [Fence.wide]), callsIn_wide.2 (Calls.mono h fun e w'' he => ?_)⟩
      cases e with
      | returned v => exact hK _ _ he
      | panicked ch => exact hP _ _ _ he
      | outgrown => exact absurd he hO
    case row rw args =>
      refine ⟨fun h => absurd h (by simp [Fence.wide]), ?_⟩
      intro c cs _
      obtain ⟨v, w1, r, s⟩ := h c cs
      exact ⟨v, w1, hK _ _ r, stepsIn_wide.2 s⟩
    all_goals first | exact hK _ _ h | exact h.elim
  | halt x w' => cases x <;> first | exact hP _ _ _ h | exact h
theorem list_app {m : Nat} {ops : Array Oper} {Q Q' : Exit → Act → World → Prop} {post : List Oper} (hO : ¬ LetsOut Q) (hN : ∀ a w, Q .normal a w → wpListIn Fence.wide m P ops Q' post a w) (hP : ∀ ch a w, Q (.panic ch) a w → Q' (.panic ch) a w) :
    ∀ (os : List Oper) (a : Act) (w : World), wpList P ops Q os a w → wpListIn Fence.wide m P ops Q' (os ++ post) a w
  | [], a, w, h => hN a w h
  | o :: os, a, w, h => by
    rw [List.cons_append]
    unfold wpList at h
    unfold wpListIn
    split at h
    · rename_i hw
      rw [if_pos hw]
      rcases h with h | h
      · exact oper_app (fun a w h => list_app hO hN hP os a w h) hP hO h
      · exact absurd h.2 hO
    · rename_i hw
      rw [if_neg hw]
      exact ⟨fun _ _ => trivial, list_app hO hN hP os _ w h⟩
/-- a region whose first operations have a formula -/
theorem region_pre {m : Nat} {id : Nat} {ops : Array Oper} {pre post : List Oper} {st : St} {E : List Value} {r : Nat → Nat} {H : PH} {a : Act} {w : World} {L : LK} {K : St → List Value → PH → LK → Prop} {Q : Exit → Act → World → Prop} (hs : ops.toList = pre ++ post) (hm : ∀ o ∈ pre, D.may o)
    (hR : Rel D H0 w0 st E r H a w) (hden : den P X (regionL P [] ops 400 pre st) E H L K) (hK : ∀ st' F r' H' a' w', Rel D H0 w0 st' (E ++ F) r' H' a' w' → K st' (E ++ F) H' L → wpListIn Fence.wide m P ops Q post a' w')
    (hX : ∀ ch a' w', PanOf H0 w0 X ch w' → D.ok a' → Q (.panic ch) a' w') : (Code.region id ops false).wpIn Fence.wide m P Q a w := by
  refine wpIn_region_list ?_
  rw [hs]
  refine list_app (Q := QX D H0 w0 X fun a w => wpListIn Fence.wide m P ops Q post a w) noOut_QX (fun a w h => h) (fun ch a w h => hX ch a w h.1 h.2) pre a w ?_
  exact regionL_sound 400 pre hm st E r H a w _ hR hden (fun st' F r' H' a' w' _ h2 h3 => hK st' F r' H' a' w' h2 h3) fun ch a' w' h1 h2 => ⟨h1, h2⟩
/-- a piece of code that has a formula -/
theorem piece_in {m : Nat} {c : Code} {st : St} {E : List Value} {r : Nat → Nat} {H : PH} {a : Act} {w : World} {L : LK} {K : Ex × St → List Value → PH → LK → Prop} {Q : Exit → Act → World → Prop} (hm : ∀ o ∈ opersC c, D.may o)
    (hR : Rel D H0 w0 st E r H a w) (hden : den P X (execC P {} c st) E H L K)
    (hK : ∀ e st' F r' H' L' a' w', Rel D H0 w0 st' (E ++ F) r' H' a' w' → K (e, st') (E ++ F) H' L' → Q (exOf e) a' w') (hX : ∀ ch a' w', PanOf H0 w0 X ch w' → D.ok a' → Q (.panic ch) a' w') : c.wpIn Fence.wide m P Q a w :=
  execC_loopless (ro := none) (op := {}) rfl (fun _ g ps asg b => far_none rfl g ps asg b) (drawSound P _) c hm m st E r H a w L K Q hR hden (fun e st' F r' H' L' a' w' h1 _ _ h4 => hK e st' F r' H' L' a' w' h1 h4) hX
end

def bkFr (e3 : VE) : List Ent := [⟨[], .sc (.atom 0)⟩, ⟨[], .sc (.atom 1)⟩, ⟨[], .junk⟩, ⟨[], e3⟩] ++ List.replicate 15 ⟨[], .junk⟩
def bkS0 : St := { fr := bkFr .junk, bx := [], nb := 0, nl := 0, tags := [.any, .ptr], asu := [], kn := [], its := [] }
def bkS1 : St := { fr := bkFr (.sc (.atom 2)), bx := [], nb := 0, nl := 0, tags := [.any, .ptr, .int .i64], asu := [], kn := [], its := [] }
def lastE : Fm (Ex × St) → St
  | .leaf x => x.2
  | .load _ _ k => lastE k
  | .chk _ _ k => lastE k
  | _ => bkS0
def lastS : Fm St → St
  | .leaf x => x
  | .load _ _ k => lastS k
  | .chk _ _ k => lastS k
  | _ => bkS0
noncomputable def bkB : Code × Code × Code × Nat × Array Oper := match Try.f46.body with
  | some (.seq r0 (.block _ (.loop (.seq (.seq r1 _) (.seq (.block _ (.seq (.region i ops _) _)) r2))))) => (r0, r1, r2, i, ops)
  | _ => (.skip, .skip, .skip, 0, #[])
theorem bkB_eq : Try.f46.body = some (.seq bkB.1 (.block 0 (.loop (.seq (.seq bkB.2.1 (.cond (.tmp 8) .skip (.exit 0))) (.seq (.block 1 (.seq (.region bkB.2.2.2.1 bkB.2.2.2.2 false) (.cond (.tmp 18) .ret .skip))) bkB.2.2.1))))) := by kernel_rfl
abbrev tagsIns : List Tag := [.str, .int .i64, .sl, .int .i64, .int .i64, .str, .sl, .int .i64]
noncomputable def bkSA : St := lastE (execC Try.prog {} bkB.1 bkS0)
noncomputable def bkSB : St := lastE (execC Try.prog {} bkB.2.1 bkS1)
noncomputable def bkSC : St := lastS (regionL Try.prog [] bkB.2.2.2.2 400 (bkB.2.2.2.2.toList.take 6) bkS1)
noncomputable def bkSD : St := lastE (execC Try.prog {} bkB.2.2.1 bkS1)
theorem bkA_eq : execC Try.prog {} bkB.1 bkS0 = .load (.atom 1) [.sl] (.leaf (.normal, bkSA)) := by kernel_rfl
theorem bkBB_eq : execC Try.prog {} bkB.2.1 bkS1 = .leaf (.normal, bkSB) := by kernel_rfl
theorem bkC_eq : regionL Try.prog [] bkB.2.2.2.2 400 (bkB.2.2.2.2.toList.take 6) bkS1 = .load (.atom 1) [.sl] (.chk [] (.inSl (.atom 3) (.atom 2)) (.load (.elt (.atom 3) (.atom 2) 8) tagsIns (.leaf bkSC))) := by kernel_rfl
theorem bkD_eq : execC Try.prog {} bkB.2.2.1 bkS1 = .leaf (.normal, bkSD) := by kernel_rfl
theorem bkA_fr : bkSA.fr[0]? = some ⟨[], .sc (.atom 0)⟩ ∧ bkSA.fr[1]? = some ⟨[], .sc (.atom 1)⟩ ∧ bkSA.fr[3]? = some ⟨[], .sc (.ar .sub .i64 (.len (.atom 2)) (.int .i64 1))⟩ ∧ bkSA.fr.length = 19 := ⟨by kernel_rfl, by kernel_rfl, by kernel_rfl, by kernel_rfl⟩
theorem bkB_fr : bkSB.fr[0]? = some ⟨[], .sc (.atom 0)⟩ ∧ bkSB.fr[1]? = some ⟨[], .sc (.atom 1)⟩ ∧ bkSB.fr[3]? = some ⟨[], .sc (.atom 2)⟩ ∧ bkSB.fr[8]? = some ⟨[], .sc (.cmp .geq (.atom 2) (.int .i64 0))⟩ ∧ bkSB.fr.length = 19 := ⟨by kernel_rfl, by kernel_rfl, by kernel_rfl, by kernel_rfl, by kernel_rfl⟩
theorem bkC_fr : bkSC.fr[0]? = some ⟨[], .sc (.atom 0)⟩ ∧ bkSC.fr[1]? = some ⟨[], .sc (.atom 1)⟩ ∧ bkSC.fr[3]? = some ⟨[], .sc (.atom 2)⟩ ∧ bkSC.fr[11]? = some ⟨[], .sc (.atom 0)⟩ ∧ bkSC.fr[12]? = some ⟨[], .sc (.atom 2)⟩ ∧ bkSC.fr[16]? = some ⟨[], .ag [.atom 4, .atom 5, .atom 6, .atom 7, .atom 8, .atom 9, .atom 10, .atom 11]⟩ ∧ bkSC.fr.length = 19 := ⟨by kernel_rfl, by kernel_rfl, by kernel_rfl, by kernel_rfl, by kernel_rfl, by kernel_rfl, by kernel_rfl⟩
theorem bkD_fr : bkSD.fr[0]? = some ⟨[], .sc (.atom 0)⟩ ∧ bkSD.fr[1]? = some ⟨[], .sc (.atom 1)⟩ ∧ bkSD.fr[3]? = some ⟨[], .sc (.ar .sub .i64 (.atom 2) (.int .i64 1))⟩ ∧ bkSD.fr.length = 19 := ⟨by kernel_rfl, by kernel_rfl, by kernel_rfl, by kernel_rfl⟩
noncomputable def bkO7 : Oper := (bkB.2.2.2.2.toList.drop 6).headD { dst := none, op := .nilCheck (.tmp 0), type := 0, pos := "", after := #[], guard := none }
noncomputable def bkO8 : Oper := (bkB.2.2.2.2.toList.drop 7).headD { dst := none, op := .nilCheck (.tmp 0), type := 0, pos := "", after := #[], guard := none }
noncomputable def bkTs : Array TypeId := match bkO7.op with
  | .call c => c.argTypes
  | _ => #[]
theorem bkO_split : bkB.2.2.2.2.toList = bkB.2.2.2.2.toList.take 6 ++ [bkO7, bkO8] := by kernel_rfl
theorem bkO7_op : bkO7.op = .call { callee := .value (.tmp 11), args := #[.tmp 12, .tmp 16], argTypes := bkTs } ∧ bkO7.dst = some 17 ∧ bkO7.guard = none := ⟨by kernel_rfl, by kernel_rfl, by kernel_rfl⟩
theorem bkO8_op : bkO8.dst = some 18 ∧ bkO8.guard = none := ⟨by kernel_rfl, by kernel_rfl⟩
theorem put_getD {a : Act} {d t : Nat} {v : Value} (h : t ≠ d) : (a.put (some d) v).tmps.getD t undef = a.tmps.getD t undef := by
  simp only [Act.put, Array.getD_eq_getD_getElem?, Array.getElem?_setIfInBounds, if_neg (Ne.symm h)]
theorem put_same {a : Act} {d : Nat} {v : Value} (h : d < a.tmps.size) : (a.put (some d) v).tmps.getD d undef = v := by
  simp [Act.put, Array.getD_eq_getD_getElem?, h]
theorem eval_getD {a : Act} {t : Nat} : a.eval (.tmp t) = a.tmps.getD t undef := rfl
theorem bkFr_at {e3 : VE} {t : Nat} {e : Ent} (he : (bkFr e3)[t]? = some e) (hj : e.v = .junk → False) : (t = 0 ∧ e = ⟨[], .sc (.atom 0)⟩) ∨ (t = 1 ∧ e = ⟨[], .sc (.atom 1)⟩) ∨ (t = 3 ∧ e = ⟨[], e3⟩) := by
  unfold bkFr at he
  rcases t with _ | _ | _ | _ | t
  · simp at he; exact .inl ⟨rfl, he.symm⟩
  · simp at he; exact .inr (.inl ⟨rfl, he.symm⟩)
  · simp at he; rw [← he] at hj; exact absurd rfl (fun h => hj h)
  · simp at he; exact .inr (.inr ⟨rfl, he.symm⟩)
  · simp only [List.cons_append, List.nil_append, List.getElem?_cons_succ, List.getElem?_replicate] at he
    split at he
    · cases he; exact absurd rfl (fun h => hj h)
    · cases he
theorem bk_rel0 {H : PH} {w : World} {a : Act} {y pv : Value} (hv : Vis H w) (hs : a.tmps.size = 19) (hd : a.defers = []) (h0 : a.tmps.getD 0 undef = y) (h1 : a.tmps.getD 1 undef = pv) (hy : Tag.any.ok y = true) (hp : Tag.ptr.ok pv = true) : Rel (.plain []) H w bkS0 [y, pv] (fun _ => 0) H a w := by
  refine { adv := .refl hv, tags := by simp [bkS0, tagsOk, hy, hp], size := hs, df := hd, wk := trivial, fr := ?_, bx := fun _ h => (by cases h), inj := fun _ h => (by cases h), nd := List.nodup_nil, asu := fun _ h => (by cases h), kn := fun _ h => (by cases h) }
  intro t e he hj
  have hg : e.g = [] := by rcases bkFr_at he hj with ⟨_, rfl⟩ | ⟨_, rfl⟩ | ⟨_, rfl⟩ <;> rfl
  rw [hg]
  refine ⟨fun _ => ?_, fun h => absurd (fun x hx => by cases hx) h⟩
  rcases bkFr_at he hj with ⟨rfl, rfl⟩ | ⟨rfl, rfl⟩ | ⟨rfl, rfl⟩
  · rw [h0]; rfl
  · rw [h1]; rfl
  · exact absurd rfl (fun h => hj h)
theorem bk_rel1 {H : PH} {w : World} {a : Act} {y pv : Value} {i : Int} (hv : Vis H w) (hs : a.tmps.size = 19) (hd : a.defers = []) (h0 : a.tmps.getD 0 undef = y) (h1 : a.tmps.getD 1 undef = pv) (h3 : a.tmps.getD 3 undef = .int .i64 i) (hy : Tag.any.ok y = true) (hp : Tag.ptr.ok pv = true) : Rel (.plain []) H w bkS1 [y, pv, .int .i64 i] (fun _ => 0) H a w := by
  refine { adv := .refl hv, tags := ?_, size := hs, df := hd, wk := trivial, fr := ?_, bx := fun _ h => (by cases h), inj := fun _ h => (by cases h), nd := List.nodup_nil, asu := fun _ h => (by cases h), kn := fun _ h => (by cases h) }
  · show (Tag.any.ok y && (Tag.ptr.ok pv && ((Tag.int .i64).ok (.int .i64 i) && true))) = true
    rw [hy, hp]; rfl
  intro t e he hj
  have hg : e.g = [] := by rcases bkFr_at he hj with ⟨_, rfl⟩ | ⟨_, rfl⟩ | ⟨_, rfl⟩ <;> rfl
  rw [hg]
  refine ⟨fun _ => ?_, fun h => absurd (fun x hx => by cases hx) h⟩
  rcases bkFr_at he hj with ⟨rfl, rfl⟩ | ⟨rfl, rfl⟩ | ⟨rfl, rfl⟩
  · rw [h0]; rfl
  · rw [h1]; rfl
  · rw [h3]; rfl
theorem rel_at {D : Prot} {H0 : PH} {w0 : World} {st : St} {E : List Value} {r : Nat → Nat} {H : PH} {a : Act} {w : World} (hR : Rel D H0 w0 st E r H a w) {t : Nat} {ve : VE} (he : st.fr[t]? = some ⟨[], ve⟩) (hj : ve = .junk → False) : a.tmps.getD t undef = evV E r ve :=
  (hR.fr t _ he hj).1 fun x hx => by cases hx
noncomputable def bkT8 : TypeId := match bkO8.op with
  | .unOp _ t _ => t
  | _ => 0
theorem bkO8_op' : bkO8.op = .unOp .not bkT8 (.tmp 17) := by kernel_rfl
/-- the not of a truth -/
theorem bkO8_run {ρ : Operand → Value} {w : World} (h : ρ (.tmp 17) = .bool true) : (execOp ρ bkO8).run Try.prog w = .ok (.value (.bool false)) w := by
  rw [exec_bare, bkO8_op']
  simp [execOp, bare, h, Op.unary, Sem.run_bind, Result.andThen]
/-- the call of yield -/
theorem bkO7_run {ρ : Operand → Value} {w : World} {l : Nat} {x y : Value} {fn : FuncId} {tmps : Array Value} {asg body : Code} (h11 : ρ (.tmp 11) = .func (.yield l) #[] #[]) (h12 : ρ (.tmp 12) = x) (h16 : ρ (.tmp 16) = y) (hy : (Instr.yield l #[x, y]).run Try.prog w = .ok (.round l fn tmps asg body) w) :
    (execOp ρ bkO7).run Try.prog w = .ok (.round l fn tmps asg body) w := by
  rw [exec_bare, bkO7_op.1]
  simp [execOp, bare, resolve, h11, h12, h16, invoke, go_sem, hy]

theorem SlR.fn {α : Type} [Enc α] {H : PH} {l : List α} {v : Value} (h : SlR H l v) : ∃ f : Nat → List Value, ∀ i a, l[i]? = some a → CsR H a (f i) ∧ rowAt H (pOf (eltV v (i : Int) (sz α))) (f i) := by
  have : ∀ i : Nat, ∃ cs : List Value, ∀ a, l[i]? = some a → CsR H a cs ∧ rowAt H (pOf (eltV v (i : Int) (sz α))) cs := by
    intro i
    cases hi : l[i]? with
    | none => exact ⟨[], fun a h => by cases h⟩
    | some a =>
      obtain ⟨_, _, cs, h1, h2⟩ := h.get hi
      exact ⟨cs, fun a' h' => by cases h'; exact ⟨h1, h2⟩⟩
  exact ⟨fun i => (this i).choose, fun i => (this i).choose_spec⟩
set_option maxHeartbeats 2000000 in
/-- A ROW OF INSTRUCTIONS GONE OVER FROM ITS END -/
theorem backward_iter (l : List InsX) (S : PH) (ad : Option Addr) (sv : Value) (hp : rowAt S ad [sv]) (hs : SlR S l sv) (hl : l.length ≤ 40000000) (cells : Nat → List Value) (hc : ∀ i a, l[i]? = some a → CsR S a (cells i) ∧ rowAt S (pOf (eltV sv (i : Int) 8)) (cells i)) :
    Iter Try.prog (.func (.func 46) #[] #[.pointer ad]) S l.length (fun j => [.int .i64 ((l.length - 1 - j : Nat) : Int), .agg (cells (l.length - 1 - j)).toArray]) := by
  have hcb : callB Try.prog 46 = true := by kernel_rfl
  obtain ⟨sb, sc, rfl⟩ := hs.sl
  refine ⟨_, _, rfl, callOk_of hcb, fun lr I H W hSH hmono hv hround h0 => (callsIn_wide (n := 0)).1 ?_⟩
  refine callsIn_of_wp Try.func46 bkB_eq trivial ?_
  have hnt : Try.f46.ntmps = 19 := by kernel_rfl
  rw [hnt]
  obtain ⟨y, hy⟩ : ∃ y, y = Value.func (.yield lr) #[] #[] := ⟨_, rfl⟩
  rw [← hy]
  have hyt : Tag.any.ok y = true := by rw [hy]; rfl
  -- the length, less one
  refine wpIn_seq ?_
  refine piece_in (D := .plain []) (X := fun _ _ => False) (L := []) (K := fun x E' H' _ => x = (.normal, bkSA) ∧ H' = H ∧ E' = [y, .pointer ad, .slice sb l.length sc]) (fun o _ => Prot.plain_may [] o) (bk_rel0 (pv := .pointer ad) hv (by simp) rfl (by simp) (by simp) hyt rfl) ?_ ?_ (fun ch a' w' h => by obtain ⟨_, _, h⟩ := h; exact h.elim)
  · rw [bkA_eq]
    exact ⟨[_], rfl, rowAt_le hSH hp, rfl, rfl, rfl⟩
  rintro e st' F r' H' L' a1 W1 hR1 ⟨h1, rfl, hE⟩
  cases h1
  obtain ⟨f0, f1, f3, f4⟩ := bkA_fr
  have t0 := rel_at hR1 f0 (fun h => by cases h)
  have t1 := rel_at hR1 f1 (fun h => by cases h)
  have t3 := rel_at hR1 f3 (fun h => by cases h)
  have hsz := hR1.size
  rw [hE] at t0 t1 t3
  rw [f4] at hsz
  have hadv1 : Adv H' W H' W1 := hR1.adv
  have hdf1 : a1.defers = [] := hR1.df
  show (Code.block 0 _).wpIn _ _ _ _ _ _
  -- the rounds
  refine wpIn_block ?_
  refine wpIn_loop (fun a w => ∃ (j : Nat) (Hj : PH), j ≤ l.length ∧ a.tmps.size = 19 ∧ a.defers = [] ∧ a.tmps.getD 0 undef = y ∧ a.tmps.getD 1 undef = .pointer ad ∧ a.tmps.getD 3 undef = .int .i64 ((l.length : Int) - 1 - j) ∧ Adv H' W Hj w ∧ I j Hj) (fun a _ => match a.tmps.getD 3 undef with | .int _ n => (n + 1).toNat | _ => 0) ?_ ?_
  · refine ⟨0, H', Nat.zero_le _, hsz, hdf1, t0, t1, ?_, hadv1, h0⟩
    rw [t3]
    simp only [evs, evb]
    rw [w64 (by omega) (by omega)]
    simp
  rintro a w ⟨j, Hj, hj, q1, q2, q3, q4, q5, q6, q7⟩
  have hSj := hmono j Hj q7
  have hRa := bk_rel1 q6.vis q1 q2 q3 q4 q5 hyt rfl
  refine wpIn_seq (wpIn_seq ?_)
  refine piece_in (D := .plain []) (X := fun _ _ => False) (L := []) (K := fun x E' H' _ => x = (.normal, bkSB) ∧ H' = Hj ∧ E' = [y, .pointer ad, .int .i64 ((l.length : Int) - 1 - j)]) (fun o _ => Prot.plain_may [] o) hRa ?_ ?_ (fun ch a' w' h => by obtain ⟨_, _, h⟩ := h; exact h.elim)
  · rw [bkBB_eq]; exact ⟨rfl, rfl, rfl⟩
  rintro e st' F r2 H2 L2 a2 w2 hR2 ⟨h1, rfl, hE2⟩
  cases h1
  obtain ⟨f0, f1, f3, f8, f4⟩ := bkB_fr
  have u0 := rel_at hR2 f0 (fun h => by cases h)
  have u1 := rel_at hR2 f1 (fun h => by cases h)
  have u3 := rel_at hR2 f3 (fun h => by cases h)
  have u8 := rel_at hR2 f8 (fun h => by cases h)
  have hsz2 := hR2.size
  rw [hE2] at u0 u1 u3 u8
  rw [f4] at hsz2
  have hadv2 : Adv H' W H2 w2 := q6.trans hR2.adv
  have hdf2 : a2.defers = [] := hR2.df
  have hc8 : a2.eval (.tmp 8) = .bool (decide ((l.length : Int) - 1 - j ≥ 0)) := by
    rw [eval_getD, u8]
    simp only [evs, evb]
  show (Code.cond _ _ _).wpIn _ _ _ _ _ _
  by_cases hjl : j < l.length
  · have hc8' : a2.eval (.tmp 8) = .bool true := by rw [hc8, decide_eq_true (by omega)]
    refine wpIn_cond_true hc8' (wpIn_skip ?_)
    show (Code.seq _ _).wpIn _ _ _ _ _ _
    obtain ⟨idx, hidx⟩ : ∃ idx : Nat, idx = l.length - 1 - j := ⟨_, rfl⟩
    have hi3 : ((l.length : Int) - 1 - j) = (idx : Int) := by omega
    have hil : idx < l.length := by omega
    obtain ⟨x, hx⟩ : ∃ x, l[idx]? = some x := ⟨_, List.getElem?_eq_getElem hil⟩
    obtain ⟨hcr, hcrow⟩ := hc idx x hx
    obtain ⟨z1, _⟩ := hs.get hx
    obtain ⟨av, dv, hcell, y1, y2, ya, y4, y5, y6, yd, y8⟩ := ins_iff.1 hcr
    obtain ⟨ab, ac, rfl⟩ := ya.sl
    obtain ⟨db, dc, rfl⟩ := yd.sl
    have hR2' := bk_rel1 (i := (idx : Int)) hadv2.vis hsz2 hdf2 u0 u1 (by rw [u3]; simp only [evs, evb]; rw [hi3]) hyt (rfl : Tag.ptr.ok (.pointer ad) = true)
    refine wpIn_seq (wpIn_block (wpIn_seq ?_))
    refine region_pre (D := .plain []) (X := fun _ _ => False) (L := []) (K := fun st E' H' _ => st = bkSC ∧ H' = H2 ∧ E' = [y, .pointer ad, .int .i64 (idx : Int), .slice sb l.length sc] ++ cells idx) bkO_split (fun o _ => Prot.plain_may [] o) hR2' ?_ ?_ (fun ch a' w' h => by obtain ⟨_, _, h⟩ := h; exact h.elim)
    · rw [bkC_eq]
      refine ⟨[_], rfl, rowAt_le hSj hp, fun _ => ?_, cells idx, by rw [hcell]; rfl, ?_, rfl, rfl, rfl⟩
      · simp only [Chk.holds, evs, evb]; exact ⟨z1, by omega, by omega⟩
      · simp only [evs, evb]; exact rowAt_le hSj hcrow
    rintro st' F3 r3 H3 a3 w3 hR3 ⟨rfl, rfl, hE3⟩
    obtain ⟨g0, g1, g3, g11, g12, g16, g4⟩ := bkC_fr
    have s0 := rel_at hR3 g0 (fun h => by cases h)
    have s1 := rel_at hR3 g1 (fun h => by cases h)
    have s3 := rel_at hR3 g3 (fun h => by cases h)
    have s11 := rel_at hR3 g11 (fun h => by cases h)
    have s12 := rel_at hR3 g12 (fun h => by cases h)
    have s16 := rel_at hR3 g16 (fun h => by cases h)
    have hsz3 := hR3.size
    rw [hE3] at s0 s1 s3 s11 s12 s16
    rw [g4] at hsz3
    have hadv3 : Adv H' W H3 w3 := hadv2.trans hR3.adv
    have hdf3 : a3.defers = [] := hR3.df
    have e16 : a3.eval (.tmp 16) = .agg (cells idx).toArray := by
      rw [eval_getD, s16, hcell]; rfl
    refine wpListIn_plain bkO7_op.2.2 fun K hK => ?_
    refine ⟨fun _ _ => trivial, ?_⟩
    show Oper.uponIn _ _ _ _ _ _ _ ((bkO7.semAt none a3.eval).run _ w3)
    obtain ⟨fn, tmps, asg, body, hyl, hrd⟩ := hround j H3 w3 hjl q7 hadv3 0
    have hyl : (Instr.yield lr #[.int .i64 (idx : Int), .agg (cells idx).toArray]).run Try.prog w3 = .ok (.round lr fn tmps asg body) w3 := by rw [hidx]; exact hyl
    rw [Oper.semAt_none, bkO7_run (l := lr) (x := .int .i64 (idx : Int)) (y := .agg (cells idx).toArray) (by rw [eval_getD, s11, ← hy]; rfl) (by rw [eval_getD, s12]; rfl) e16 hyl]
    refine ⟨fun h => absurd h (by simp [Fence.wide]), ?_⟩
    refine RoundIn.mono (show RoundIn Fence.wide _ _ _ _ _ _ _ _ _ from hrd) ?_
    rintro e W4 ⟨rfl, H4, hadv4, hI4⟩
    refine hK _ _ ?_
    rw [bkO7_op.2.1]
    have hsz17 : 17 < a3.tmps.size := by rw [hsz3]; decide
    refine wpListIn_plain bkO8_op.2 fun K2 hK2 => ?_
    refine ⟨fun _ _ => trivial, ?_⟩
    show Oper.uponIn _ _ _ _ _ _ _ ((bkO8.semAt none _).run _ W4)
    rw [Oper.semAt_none, bkO8_run (by rw [eval_getD]; exact put_same hsz17)]
    show K2 _ W4
    refine hK2 _ _ ?_
    rw [bkO8_op.1]
    obtain ⟨a5, ha5⟩ : ∃ a5, a5 = (a3.put (some 17) (.bool true)).put (some 18) (.bool false) := ⟨_, rfl⟩
    have hsz4 : (a3.put (some 17) (.bool true)).tmps.size = 19 := by simp [Act.put, hsz3]
    have hsz5 : a5.tmps.size = 19 := by rw [ha5]; simp [Act.put, hsz3]
    have hg5 : ∀ t, t ≠ 17 → t ≠ 18 → a5.tmps.getD t undef = a3.tmps.getD t undef := fun t h1 h2 => by rw [ha5, put_getD h2, put_getD h1]
    have h18 : a5.eval (.tmp 18) = .bool false := by rw [eval_getD, ha5]; exact put_same (by rw [hsz4]; decide)
    rw [← ha5]
    show (Code.cond _ _ _).wpIn _ _ _ _ _ _
    refine wpIn_cond_false h18 (wpIn_skip ?_)
    show Code.wpIn _ _ _ bkB.2.2.1 _ _ _
    have hdf5 : a5.defers = [] := by rw [ha5]; exact hdf3
    have hR5 := bk_rel1 (i := (idx : Int)) hadv4.vis hsz5 hdf5 ((hg5 0 (by decide) (by decide)).trans s0) ((hg5 1 (by decide) (by decide)).trans s1) ((hg5 3 (by decide) (by decide)).trans s3) hyt (rfl : Tag.ptr.ok (.pointer ad) = true)
    refine piece_in (D := .plain []) (X := fun _ _ => False) (L := []) (K := fun x E' H' _ => x = (.normal, bkSD) ∧ H' = H4 ∧ E' = [y, .pointer ad, .int .i64 (idx : Int)]) (fun o _ => Prot.plain_may [] o) hR5 ?_ ?_ (fun ch a' w' h => by obtain ⟨_, _, h⟩ := h; exact h.elim)
    · rw [bkD_eq]; exact ⟨rfl, rfl, rfl⟩
    rintro e st' F6 r6 H6 L6 a6 w6 hR6 ⟨h1, rfl, hE6⟩
    cases h1
    obtain ⟨m0, m1, m3, m4⟩ := bkD_fr
    have v0 := rel_at hR6 m0 (fun h => by cases h)
    have v1 := rel_at hR6 m1 (fun h => by cases h)
    have v3 := rel_at hR6 m3 (fun h => by cases h)
    have hsz6 := hR6.size
    rw [hE6] at v0 v1 v3
    rw [m4] at hsz6
    have hv3 : a6.tmps.getD 3 undef = .int .i64 ((l.length : Int) - 1 - (j + 1 : Nat)) := by
      rw [v3]
      simp only [evs, evb]
      rw [w64 (by omega) (by omega)]
      congr 1; omega
    refine ⟨⟨j + 1, H6, by omega, hsz6, hR6.df, v0, v1, hv3, (hadv3.trans hadv4).trans hR6.adv, hI4⟩, ?_⟩
    rw [hv3, q5]
    simp only []
    omega
  · have hc8' : a2.eval (.tmp 8) = .bool false := by rw [hc8, decide_eq_false (by omega)]
    refine wpIn_cond_false hc8' (wpIn_exit ?_)
    have hjn : j = l.length := by omega
    simp only [Exit.then, Exit.inBlock, ↓reduceIte]
    refine ⟨hdf2, .tuple #[], ?_, ⟨_, rfl⟩, H2, hadv2, hjn ▸ q7⟩
    have hres : Try.f46.results = #[] := by kernel_rfl
    simp [results, hres]
end Go.Proofs.Ytcfgpbmcgmkmhaa.Vc
/-
  LIVE: sets of numbers, as the program keeps them.
-/
namespace Go.Proofs.Ytcfgpbmcgmkmhaa.Vc
open Go

abbrev encS (s : List Int) : List (Int × Value) := s.map fun k => (k, .int .i64 1)
abbrev SetAt (es : Array MapEntry) (clock : Nat) (s : List Int) : Prop := EntsR (α := Int) es.toList clock (encS s)
theorem SetAt.nodup {es : Array MapEntry} {clock : Nat} {s : List Int} (h : SetAt es clock s) : s.Nodup := by
  have := h.keys
  rw [List.map_map] at this
  have e : ((fun x : Int × Value => x.1) ∘ fun k : Int => (k, (Value.int .i64 1))) = id := rfl
  rw [e, List.map_id] at this
  exact this
theorem encS_get (s : List Int) (k : Int) : (getM (encS s) k).isSome = decide (k ∈ s) := by
  unfold getM encS
  rw [Option.isSome_map]
  by_cases h : k ∈ s
  · rw [decide_eq_true h]
    refine List.find?_isSome.2 ⟨(k, .int .i64 1), List.mem_map.2 ⟨k, h, rfl⟩, by simp⟩
  · rw [decide_eq_false h, Option.isSome_eq_false_iff, Option.isNone_iff_eq_none, List.find?_eq_none]
    intro x hx
    obtain ⟨y, hy, rfl⟩ := List.mem_map.1 hx
    simp only [decide_eq_true_eq]
    exact fun e => h (e ▸ hy)
def addS (s : List Int) (k : Int) : List Int := if k ∈ s then s else s ++ [k]
theorem encS_put (s : List Int) (k : Int) : putM (encS s) k (.int .i64 1) = encS (addS s k) := by
  unfold putM addS
  rw [encS_get]
  by_cases h : k ∈ s
  · rw [if_pos (by rw [decide_eq_true h]), if_pos h]
    unfold encS
    rw [List.map_map]
    refine List.map_congr_left fun x _ => ?_
    by_cases e : x = k <;> simp [e]
  · rw [if_neg (by rw [decide_eq_false h]; exact Bool.false_ne_true), if_neg h]
    simp [encS]
theorem addS_mem (s : List Int) (k y : Int) : y ∈ addS s k ↔ y ∈ s ∨ y = k := by
  unfold addS
  split
  · rename_i h; exact ⟨.inl, fun hy => hy.elim id fun e => e ▸ h⟩
  · simp
theorem encS_del (s : List Int) (k : Int) : delM (encS s) k = encS (s.filter fun y => decide (y ≠ k)) := by
  unfold delM encS
  rw [List.filter_map]; rfl
theorem setOk_nil : SetAt (#[] : Array MapEntry) 0 [] := EntsR.empty
theorem uSetK : Try.prog.underlying 65 = some (.map 3 3) := by kernel_rfl
theorem kIntK : Try.prog.underlying 3 = some (Key.kd Int) := by kernel_rfl
/-- an entry of a set -/
theorem SetAt.entry {es : Array MapEntry} {clock : Nat} {s : List Int} (h : SetAt es clock s) {e : MapEntry} (he : e ∈ es.toList) : ∃ k ∈ s, e.key = .int .i64 k ∧ e.val = .int .i64 1 := by
  have h1 : (e.key, e.val) ∈ es.toList.map (fun e => (e.key, e.val)) := List.mem_map.2 ⟨e, he, rfl⟩
  rw [h.ents] at h1
  obtain ⟨x, hx, hxe⟩ := List.mem_map.1 h1
  obtain ⟨k, hk, rfl⟩ := List.mem_map.1 hx
  simp only [Prod.mk.injEq] at hxe
  exact ⟨k, hk, hxe.1.symm, hxe.2.symm⟩
theorem SetAt.has {es : Array MapEntry} {clock : Nat} {s : List Int} (h : SetAt es clock s) {k : Int} (hk : k ∈ s) : ∃ e ∈ es.toList, e.key = .int .i64 k := by
  have h1 : ((.int .i64 k : Value), (.int .i64 1 : Value)) ∈ (encS s).map fun x => (Key.kv x.1, x.2) := List.mem_map.2 ⟨(k, .int .i64 1), List.mem_map.2 ⟨k, hk, rfl⟩, rfl⟩
  rw [← h.ents] at h1
  obtain ⟨e, he, hee⟩ := List.mem_map.1 h1
  simp only [Prod.mk.injEq] at hee
  exact ⟨e, he, hee.1⟩

theorem setAdd_tri (r : Nat) (es : Array MapEntry) (clock : Nat) (s l : List Int) (lv : Value) (S K : PH) (hl : SlR S l lv) (h : Held S K [.blk r (.map es clock)]) (hs : SetAt es clock s) :
    Tri Try.prog n_live_set_int___add #[.map (some r), lv] K fun x K' => ∃ es' clock' s', x = .returned (.tuple #[]) ∧ Held S K' [.blk r (.map es' clock')] ∧ SetAt es' clock' s' ∧ ∀ y, y ∈ s' ↔ y ∈ s ∨ y ∈ l := by
  obtain ⟨b, c, rfl⟩ := hl.sl
  have hm := hl.max
  simp only [maxLen] at hm
  refine tri_live_set_int___add [.map (some r), .slice b l.length c] (by kernel_rfl) (by kernel_rfl) ?_
  refine ⟨fun n vs K' => ∃ (k : Nat) (es' : Array MapEntry) (clock' : Nat) (s' : List Int), vs = [nI k] ∧ k + n = l.length ∧ Held S K' [.blk r (.map es' clock')] ∧ SetAt es' clock' s' ∧ ∀ y, y ∈ s' ↔ y ∈ s ∨ y ∈ l.take k, ⟨l.length, 0, es, clock, s, rfl, by omega, h, hs, fun y => by simp⟩, ?_⟩
  rintro n vs K1 _ ⟨k, es1, clock1, s1, rfl, hkn, h1, hs1, hm1⟩
  refine ⟨fun g => ?_, fun g => ?_⟩
  · simp only [evs, evb, decide_eq_true_eq] at g
    obtain ⟨a, ha⟩ : ∃ a, l[k]? = some a := ⟨_, List.getElem?_eq_getElem (show k < l.length by omega)⟩
    obtain ⟨q1, _, ces, q2, q3⟩ := (hl.le h1.sh).get ha
    obtain ⟨rfl, hai⟩ := csIK q2
    refine ⟨fun _ => ?_, [.int .i64 a], rfl, ?_, ?_⟩
    · simp only [Chk.holds, evs, evb]; exact ⟨q1, by omega, by omega⟩
    · simp only [evs, evb]; exact q3
    refine den_mapUpdate (α := Int) (m := encS s1) (r := r) (es := es1) (clock := clock1) a (.int .i64 1) uSetK kIntK (by kernel_rfl) (by kernel_rfl) (by kernel_rfl) (h1.blk (List.mem_cons_self ..)) hs1 fun es2 clock2 he2 => ?_
    rw [encS_put] at he2
    refine ⟨_, lookup_hit, n - 1, by omega, k + 1, es2, clock2, addS s1 a, ?_, by omega, h1.put _, he2, fun y => ?_⟩
    · simp only [evs, evb]; rw [w64 (by omega) (by omega)]; rfl
    · rw [addS_mem, hm1, List.take_add_one, ha]
      simp only [Option.toList_some, List.mem_append, List.mem_singleton, or_assoc]
  · simp only [evs, evb, decide_eq_false_iff_not] at g
    rw [List.take_of_length_le (by omega)] at hm1
    exact ⟨es1, clock1, s1, rfl, h1, hs1, hm1⟩
theorem setDrop_tri (r : Nat) (es : Array MapEntry) (clock : Nat) (s : List Int) (a : Int) (S K : PH) (h : Held S K [.blk r (.map es clock)]) (hs : SetAt es clock s) :
    Tri Try.prog n_live_set_int___drop #[.map (some r), .int .i64 a] K fun x K' => ∃ es' clock', x = .returned (.tuple #[]) ∧ Held S K' [.blk r (.map es' clock')] ∧ SetAt es' clock' (s.filter fun y => decide (y ≠ a)) := by
  refine tri_live_set_int___drop [.map (some r), .int .i64 a] (by kernel_rfl) (by kernel_rfl) ?_
  refine den_delete (α := Int) (m := encS s) (r := r) (es := es) (clock := clock) a rfl uSetK kIntK (by kernel_rfl) (by kernel_rfl) (h.blk (List.mem_cons_self ..)) hs fun es2 clock2 he2 => ?_
  rw [encS_del] at he2
  exact ⟨es2, clock2, rfl, h.put _, he2⟩
end Go.Proofs.Ytcfgpbmcgmkmhaa.Vc
/-
  LIVE: a set put into another one.
-/
namespace Go.Proofs.Ytcfgpbmcgmkmhaa.Vc
open Go

/-- the value is this set, which lies there -/
def SetR (H : PH) (v : Value) (s : List Int) : Prop := ∃ r es clock, v = .map (some r) ∧ H r = some (.map es clock) ∧ SetAt es clock s
theorem SetR.le {H H' : PH} {v : Value} {s : List Int} (h : SetR H v s) (hl : PH.le H H') : SetR H' v s := by
  obtain ⟨r, es, clock, h1, h2, h3⟩ := h
  exact ⟨r, es, clock, h1, hl _ _ h2, h3⟩
set_option maxHeartbeats 1000000 in
theorem setJoin_tri (r : Nat) (es : Array MapEntry) (clock : Nat) (s t : List Int) (tv : Value) (S K : PH) (ht : SetR S tv t) (h : Held S K [.blk r (.map es clock)]) (hs : SetAt es clock s) :
    Tri Try.prog n_live_set_int___join #[.map (some r), tv] K fun x K' => ∃ es' clock' s', x = .returned (.tuple #[]) ∧ Held S K' [.blk r (.map es' clock')] ∧ SetAt es' clock' s' ∧ ∀ y, y ∈ s' ↔ y ∈ s ∨ y ∈ t := by
  obtain ⟨rt, est, clt, rfl, hrt, hst⟩ := ht
  refine tri_live_set_int___join [.map (some r), .map (some rt)] (by kernel_rfl) (by kernel_rfl) ?_
  refine den_range (r := rt) (es := est) (clock := clt) uSetK (by kernel_rfl) (h.sh _ _ hrt) (fun _ _ => pendNil) fun i hi => ?_
  have h0 := h.new hi (.mapIter (some rt) clt #[] clt)
  have hl0 : leftM est #[] = est.toList := by unfold leftM; simp
  refine ⟨fun n vs K' => ∃ (seen : Array Nat) (es' : Array MapEntry) (clock' : Nat) (s' : List Int), vs = [] ∧ n = (leftM est seen).length ∧ Held S K' [.blk i (.mapIter (some rt) clt seen clt), .blk r (.map es' clock')] ∧ SetAt es' clock' s' ∧ ∀ y, y ∈ s' ↔ y ∈ s ∨ (y ∈ t ∧ ∀ e ∈ leftM est seen, e.key ≠ .int .i64 y),
    ⟨_, #[], es, clock, s, rfl, rfl, h0, hs, fun y => ?_⟩, ?_⟩
  · constructor
    · exact .inl
    · rintro (h | ⟨h1, h2⟩)
      · exact h
      · obtain ⟨e, he, hk⟩ := hst.has h1
        exact absurd hk (h2 e (by rw [hl0]; exact he))
  rintro n vs K1 _ ⟨seen, es1, clock1, s1, rfl, rfl, h1, hs1, hm1⟩
  refine ⟨fun vs K' => ∃ b : Bool, vs = [.bool b] ∧ ((b = false ∧ leftM est seen = [] ∧ Held S K' [.blk i (.mapIter (some rt) clt seen clt), .blk r (.map es1 clock1)]) ∨ (b = true ∧ ∃ e ∈ leftM est seen, Held S K' [.blk i (.mapIter (some rt) clt (seen.push e.born) clt), .blk r (.map es1 clock1)])), ?_, ?_⟩
  · rintro vs K2 _ ⟨b, rfl, hcase⟩
    refine ⟨fun g => ?_, fun g => ?_⟩
    · simp only [evs, evb] at g
      subst g
      rcases hcase with ⟨h, _⟩ | ⟨_, e, he, h2⟩
      · cases h
      have hee : e ∈ est.toList := (List.mem_filter.1 he).1
      obtain ⟨k, hk, hek, hev⟩ := hst.entry hee
      refine den_entry (i := i) (r := rt) (es := est) (clock := clt) (seen := seen) (m := encS t) (e := e) (by kernel_rfl) (h2.blk (List.mem_cons_self ..)) (h2.sh _ _ hrt) hst hee (by rw [hek, hev]; exact ⟨rfl, rfl⟩) ?_
      rw [hek, hev]
      refine den_mapUpdate (α := Int) (m := encS s1) (r := r) (es := es1) (clock := clock1) k (.int .i64 1) uSetK kIntK (by kernel_rfl) (by kernel_rfl) (by kernel_rfl) (h2.blk (List.mem_cons_of_mem _ (List.mem_cons_self ..))) hs1 fun es2 clock2 he2 => ?_
      rw [encS_put] at he2
      obtain ⟨p1, p2⟩ := left_push hst he
      refine ⟨_, lookup_hit, _, p1, seen.push e.born, es2, clock2, addS s1 k, rfl, rfl, ((h2.perm (List.Perm.swap _ _ _)).put _).perm (List.Perm.swap _ _ _), he2, fun y => ?_⟩
      rw [addS_mem, hm1]
      constructor
      · rintro ((h | ⟨h3, h4⟩) | h)
        · exact .inl h
        · exact .inr ⟨h3, fun e' he' => h4 e' ((p2 e').2 (.inr he'))⟩
        · subst h
          refine .inr ⟨hk, fun e' he' hke => ?_⟩
          -- keys are apart
          have he'l : e' ∈ leftM est seen := (p2 e').2 (.inr he')
          have he'e : e' ∈ est.toList := (List.mem_filter.1 he'l).1
          obtain ⟨a, ha⟩ := List.getElem?_of_mem he'e
          obtain ⟨b, hb⟩ := List.getElem?_of_mem hee
          have hkeys : (est.toList.map (·.key)) = t.map fun k => Value.int .i64 k := by
            have := congrArg (List.map Prod.fst) hst.ents
            simp only [List.map_map, Function.comp_def, encS] at this
            exact this
          have hta : t[a]? = some y := by
            have := congrArg (fun l => l[a]?) hkeys
            simp only [List.getElem?_map, ha, Option.map_some, hke] at this
            cases hx : t[a]? with
            | none => rw [hx] at this; cases this
            | some z => rw [hx] at this; simp at this; rw [this]
          have htb : t[b]? = some y := by
            have := congrArg (fun l => l[b]?) hkeys
            simp only [List.getElem?_map, hb, Option.map_some, hek] at this
            cases hx : t[b]? with
            | none => rw [hx] at this; cases this
            | some z => rw [hx] at this; simp at this; rw [this]
          have hab := (List.getElem?_inj (List.getElem?_eq_some_iff.1 hta).1 hst.nodup).1 (hta.trans htb.symm)
          subst hab
          rw [ha] at hb; cases hb
          have hno := (List.mem_filter.1 he').2
          simp at hno
      · rintro (h | ⟨h3, h4⟩)
        · exact .inl (.inl h)
        · by_cases hyk : y = k
          · exact .inr hyk
          · refine .inl (.inr ⟨h3, fun e' he' hke => ?_⟩)
            rcases (p2 e').1 he' with rfl | h5
            · rw [hek] at hke; cases hke; exact hyk rfl
            · exact h4 e' h5 hke
    · simp only [evs, evb] at g
      subst g
      rcases hcase with ⟨_, hnil, h2⟩ | ⟨h, _⟩
      · refine ⟨es1, clock1, s1, rfl, h2.tail, hs1, fun y => ?_⟩
        rw [hm1, hnil]
        simp
      · cases h
  · refine den_next (i := i) (r := rt) (es := est) (clock := clt) (seen := seen) (m := encS t) (by kernel_rfl) (h1.blk (List.mem_cons_self ..)) (h1.sh _ _ hrt) hst (fun e he => ?_) (fun hnil => ?_) fun e he => ?_
    · obtain ⟨k, hk, hek, hev⟩ := hst.entry he
      rw [hek, hev]; exact ⟨rfl, rfl⟩
    · exact ⟨_, lookup_hit, false, rfl, .inl ⟨rfl, hnil, h1⟩⟩
    · exact ⟨_, lookup_hit, true, rfl, .inr ⟨rfl, e, he, h1.put _⟩⟩
end Go.Proofs.Ytcfgpbmcgmkmhaa.Vc
/-
  LIVE: a row of numbers sorted; what is in a set, rising.
-/
namespace Go.Proofs.Ytcfgpbmcgmkmhaa.Vc
open Go

theorem ints_row {S : PH} : ∀ {l : List Int} {xs : List Value}, PV.RepRow S (l.flatMap pv) xs → xs = l.map (Value.int .i64) ∧ ∀ x ∈ l, InI x
  | [], xs, h => by simp only [List.flatMap_nil, PV.RepRow] at h; subst h; exact ⟨rfl, fun x hx => by cases hx⟩
  | a :: l, xs, h => by
    have h' : PV.RepRow S (.int .i64 a :: l.flatMap pv) xs := h
    rw [PV.RepRow] at h'
    obtain ⟨v, vs, rfl, h1, h2⟩ := h'
    obtain ⟨rfl, hi⟩ := repI_iff.1 h1
    obtain ⟨rfl, h3⟩ := ints_row h2
    exact ⟨rfl, fun x hx => (List.mem_cons.1 hx).elim (fun e => e ▸ hi) (h3 x)⟩
theorem ints_row_mk {S : PH} : ∀ {l : List Int}, (∀ x ∈ l, InI x) → PV.RepRow S (l.flatMap pv) (l.map (Value.int .i64))
  | [], _ => by simp [PV.RepRow]
  | a :: l, h => by
    show PV.RepRow S (.int .i64 a :: l.flatMap pv) _
    rw [PV.RepRow]
    exact ⟨_, _, rfl, repI_iff.2 ⟨rfl, h a (List.mem_cons_self ..)⟩, ints_row_mk fun x hx => h x (List.mem_cons_of_mem _ hx)⟩
abbrev sortI (l : List Int) : List Int := l.mergeSort fun x y => decide (x ≤ y)
theorem sortI_mem (l : List Int) (x : Int) : x ∈ sortI l ↔ x ∈ l := List.mem_mergeSort
theorem sortI_rises {l : List Int} (h : l.Nodup) : (sortI l).Pairwise (· < ·) := by
  have h1 : (sortI l).Pairwise fun x y => decide (x ≤ y) = true := List.pairwise_mergeSort (fun a b c h1 h2 => by simp at *; omega) (fun a b => by simp; omega) l
  have h2 : (sortI l).Nodup := (List.mergeSort_perm l _).nodup_iff.2 h
  exact (h1.and h2).imp fun {a b} ⟨h3, h4⟩ => by simp at h3; omega
theorem adv_grow {K : PH} {w : World} (hv : Vis K w) (os : Array Obj) : Adv K w K (Sort.grow w os) := by
  refine ⟨by simp [Sort.grow], fun k o hk => ?_, fun k hk hn => ⟨?_, hn⟩, rfl, rfl, rfl⟩
  · show (w.heap ++ os)[k]? = some o
    rw [Array.getElem?_append_left (hv.lt hk)]; exact hv k o hk
  · show (w.heap ++ os)[k]? = w.heap[k]?
    rw [Array.getElem?_append_left hk]
theorem putCells_take {l : List Int} {cur : Array Value} (h : l.length ≤ cur.size) : (Sort.putCells (Value.int .i64) 0 l.toArray cur).toList.take l.length = l.map (Value.int .i64) := by
  refine List.ext_getElem? fun i => ?_
  rw [List.getElem?_take, List.getElem?_map]
  by_cases hi : i < l.length
  · rw [if_pos hi, Array.getElem?_toList]
    unfold Sort.putCells
    rw [Array.getElem?_mapIdx]
    have hc : i < cur.size := by omega
    simp [hc, hi]
  · rw [if_neg hi, List.getElem?_eq_none (by omega)]; rfl
theorem Sort51_tri (l : List Int) (v : Value) (S K : PH) (I : List Itm) (h : Held S K (orow 3 l v :: I)) (hl : l.length ≤ 40000000) :
    Tri Try.prog 33 #[v] K fun x K' => x = .returned (.tuple #[]) ∧ Held S K' (orow 3 (sortI l) v :: I) := by
  intro w hv
  have hr := h.row (List.mem_cons_self ..)
  obtain ⟨xs, ho, hrow⟩ := hr.own
  obtain ⟨rfl, hin⟩ := ints_row hrow
  rcases ho.2 with ⟨rfl, hn⟩ | ⟨g, cap, cur, rfl, hg, h2, h3, h4, h5⟩
  · have : l = [] := List.length_eq_zero_iff.1 hn
    subst this
    refine (Try.slices_Sort_int_none none 0 w).mono ?_
    rintro e w' ⟨rfl, rfl⟩
    exact ⟨K, .refl hv, rfl, by simpa [sortI] using h⟩
  · have hsz : sz Int = 1 := rfl
    rw [hsz, Nat.mul_one] at h4 h5
    have hw := hv _ _ hg
    have hcur : ∀ j, j < l.length → cur[j]? = some (.int .i64 (l[j]!)) := fun j hj => by
      have := congrArg (fun x => x[j]?) h5
      simp only [List.getElem?_take, if_pos hj, List.getElem?_map, Array.getElem?_toList] at this
      rw [this, List.getElem?_eq_getElem hj]
      simp [hj]
    have hH : Sort.Holds (Value.int .i64) w g 0 l.toArray := by
      intro j hj
      simp only [List.size_toArray] at hj
      refine ⟨?_, ?_⟩
      · unfold World.cell?
        simp only [hw, Nat.zero_add]
        simpa using hcur j hj
      · unfold World.frozen?
        simp [hw]
    refine (Try.slices_Sort_int g 0 cap l w hH (hv.lt hg) (by omega)).mono ?_
    rintro e w' ⟨rfl, n, os, rfl⟩
    obtain ⟨cur', hcur'⟩ : ∃ c, c = Sort.putCells (Value.int .i64) 0 (sortI l).toArray cur := ⟨_, rfl⟩
    have hadv : Adv K w (K.upd g (.cells cur' 3 (0, 0))) (Sort.putRow (Value.int .i64) (Sort.ahead w n) g 0 (sortI l).toArray) := by
      refine Adv.put (w' := Sort.putRow (Value.int .i64) (Sort.ahead w n) g 0 (sortI l).toArray) hv hg ?_ ?_ rfl rfl rfl
      · simp [Sort.putRow, Sort.mapBlock, Sort.ahead]
      · intro k
        show (w.heap.modify g _)[k]? = _
        rw [Array.getElem?_modify]
        by_cases e : k = g
        · subst e; rw [if_pos rfl, if_pos rfl, hw, hcur']; rfl
        · rw [if_neg e, if_neg (Ne.symm e)]
    refine ⟨_, hadv.trans (adv_grow hadv.vis os), rfl, ?_⟩
    have hSg : S g = none := hr.off g rfl
    have hlen : (sortI l).length = l.length := List.length_mergeSort l
    have hle : PH.le S (K.upd g (.cells cur' 3 (0, 0))) := fun k o hk => by
      rw [PH.upd_other (fun e => by rw [e, hSg] at hk; cases hk)]; exact h.sh k o hk
    refine h.went ⟨hr.off, (sortI l).map (Value.int .i64), ⟨by rw [List.length_map, hsz, Nat.mul_one], .inr ⟨g, cap, cur', by rw [hlen], PH.upd_same, by rw [hlen]; exact h2, h3, ?_, ?_⟩⟩, ints_row_mk fun x hx => hin x ((sortI_mem l x).1 hx)⟩ hle ⟨fun k o hk hn => ?_, fun k hk => .inl hk⟩
    · rw [hcur', hsz, Nat.mul_one, ← h4]; simp [Sort.putCells]
    · rw [hcur', hsz, Nat.mul_one]
      exact putCells_take (by rw [hlen]; omega)
    · rw [PH.upd_other (fun e => hn (by rw [e]; rfl))]; exact hk
end Go.Proofs.Ytcfgpbmcgmkmhaa.Vc
/-
  LIVE: what is in a set, rising.
-/
namespace Go.Proofs.Ytcfgpbmcgmkmhaa.Vc
open Go

theorem left_keys {est : Array MapEntry} {clt : Nat} {t : List Int} (hst : SetAt est clt t) {seen : Array Nat} {e : MapEntry} (he : e ∈ leftM est seen) {k : Int} (hk : k ∈ t) (hek : e.key = .int .i64 k) (y : Int) :
    (y ∈ t ∧ ∀ e' ∈ leftM est (seen.push e.born), e'.key ≠ .int .i64 y) ↔ ((y ∈ t ∧ ∀ e' ∈ leftM est seen, e'.key ≠ .int .i64 y) ∨ y = k) := by
  have hee : e ∈ est.toList := (List.mem_filter.1 he).1
  obtain ⟨p1, p2⟩ := left_push hst he
  constructor
  · rintro ⟨h3, h4⟩
    by_cases hyk : y = k
    · exact .inr hyk
    · refine .inl ⟨h3, fun e' he' hke => ?_⟩
      rcases (p2 e').1 he' with rfl | h5
      · rw [hek] at hke; cases hke; exact hyk rfl
      · exact h4 e' h5 hke
  · rintro (⟨h3, h4⟩ | rfl)
    · exact ⟨h3, fun e' he' => h4 e' ((p2 e').2 (.inr he'))⟩
    · refine ⟨hk, fun e' he' hke => ?_⟩
      have he'l : e' ∈ leftM est seen := (p2 e').2 (.inr he')
      have he'e : e' ∈ est.toList := (List.mem_filter.1 he'l).1
      obtain ⟨a, ha⟩ := List.getElem?_of_mem he'e
      obtain ⟨b, hb⟩ := List.getElem?_of_mem hee
      have hkeys : (est.toList.map (·.key)) = t.map fun k => Value.int .i64 k := by
        have := congrArg (List.map Prod.fst) hst.ents
        simp only [List.map_map, Function.comp_def, encS] at this
        exact this
      have hta : t[a]? = some y := by
        have := congrArg (fun l => l[a]?) hkeys
        simp only [List.getElem?_map, ha, Option.map_some, hke] at this
        cases hx : t[a]? with
        | none => rw [hx] at this; cases this
        | some z => rw [hx] at this; simp at this; rw [this]
      have htb : t[b]? = some y := by
        have := congrArg (fun l => l[b]?) hkeys
        simp only [List.getElem?_map, hb, Option.map_some, hek] at this
        cases hx : t[b]? with
        | none => rw [hx] at this; cases this
        | some z => rw [hx] at this; simp at this; rw [this]
      have hab := (List.getElem?_inj (List.getElem?_eq_some_iff.1 hta).1 hst.nodup).1 (hta.trans htb.symm)
      subst hab
      rw [ha] at hb; cases hb
      have hno := (List.mem_filter.1 he').2
      simp at hno
set_option maxHeartbeats 1000000 in
theorem rising_tri (r : Nat) (es : Array MapEntry) (clock : Nat) (s : List Int) (S K : PH) (I : List Itm) (h : Held S K I) (hr : S r = some (.map es clock) ∨ Itm.blk r (.map es clock) ∈ I) (hs : SetAt es clock s) (hi : ∀ x ∈ s, InI x) (hl : s.length ≤ 40000000) :
    Tri Try.prog n_live_set_int___rising #[.map (some r)] K fun x K' => ∃ S' v, PH.le S S' ∧ x = .returned v ∧ SlR S' (sortI s) v ∧ Held S' K' I := by
  have hrd : ∀ {S' K' : PH} {J : List Itm}, PH.le S S' → Held S' K' (J ++ I) → K' r = some (.map es clock) := fun hS h' => hr.elim (fun h1 => h'.sh _ _ (hS _ _ h1)) fun h1 => h'.blk (List.mem_append_right _ h1)
  refine tri_live_set_int___rising [.map (some r)] (by kernel_rfl) (by kernel_rfl) ?_
  refine den_range (r := r) (es := es) (clock := clock) uSetK (by kernel_rfl) (hrd (J := []) (PH.le_refl S) h) (fun _ _ => pendNil) fun i hin => ?_
  have h0 := (Held.empty (α := Int) (h.new hin (.mapIter (some r) clock #[] clock)) 3).perm (List.Perm.swap _ _ _)
  have hl0 : leftM es #[] = es.toList := by unfold leftM; simp
  have hlen : es.toList.length = s.length := by have := hs.len; simpa [encS] using this
  refine ⟨fun n vs K' => ∃ (seen : Array Nat) (out : List Int) (v : Value) (S' : PH), vs = [v] ∧ n = (leftM es seen).length ∧ PH.le S S' ∧ Held S' K' (.blk i (.mapIter (some r) clock seen clock) :: orow 3 out v :: I) ∧ out.Nodup ∧ (∀ y, y ∈ out ↔ (y ∈ s ∧ ∀ e ∈ leftM es seen, e.key ≠ .int .i64 y)) ∧ out.length + (leftM es seen).length ≤ s.length,
    ⟨_, #[], [], .slice none 0 0, S, rfl, rfl, PH.le_refl S, h0, List.nodup_nil, fun y => ?_, by rw [hl0, hlen]; simp⟩, ?_⟩
  · simp only [List.not_mem_nil, false_iff, not_and]
    intro hy hno
    obtain ⟨e, he, hk⟩ := hs.has hy
    exact hno e (by rw [hl0]; exact he) hk
  rintro n vs K1 _ ⟨seen, out, v, S1, rfl, rfl, l1, h1, hnd, hm1, hln⟩
  refine ⟨fun vs K' => ∃ b : Bool, vs = [.bool b] ∧ ((b = false ∧ leftM es seen = [] ∧ Held S1 K' (.blk i (.mapIter (some r) clock seen clock) :: orow 3 out v :: I)) ∨ (b = true ∧ ∃ e ∈ leftM es seen, Held S1 K' (.blk i (.mapIter (some r) clock (seen.push e.born) clock) :: orow 3 out v :: I))), ?_, ?_⟩
  · rintro vs K2 _ ⟨b, rfl, hcase⟩
    refine ⟨fun g => ?_, fun g => ?_⟩
    · simp only [evs, evb] at g
      subst g
      rcases hcase with ⟨h, _⟩ | ⟨_, e, he, h2⟩
      · cases h
      have hee : e ∈ es.toList := (List.mem_filter.1 he).1
      obtain ⟨k, hk, hek, hev⟩ := hs.entry hee
      refine den_entry (i := i) (r := r) (es := es) (clock := clock) (seen := seen) (m := encS s) (e := e) (by kernel_rfl) (h2.blk (List.mem_cons_self ..)) (hrd (J := [_, _]) l1 h2) hs hee (by rw [hek, hev]; exact ⟨rfl, rfl⟩) ?_
      rw [hek, hev]
      obtain ⟨p1, p2⟩ := left_push hs he
      have hkn : k ∉ out := fun hko => ((hm1 k).1 hko).2 e he hek
      refine den_hPush (more := [k]) (b := 8) [.int .i64 k] uIntsK elemIntK rfl (by decide) (by decide) (h2.perm (List.Perm.swap _ _ _)) (by kernel_rfl) (.cons (csIK_mk (hi k hk)) .nil) pendNil (fun _ => by kernel_rfl) (fun _ => by kernel_rfl)
        (by simp only [maxLen, List.length_cons, List.length_nil]; omega) (by simp only [List.length_cons, List.length_nil]; omega) fun u v' S4 K4 l4 h4 => ⟨pendNil, _, lookup_hit, _, p1, seen.push e.born, out ++ [k], v', S4, rfl, rfl, PH.le_trans l1 l4, h4.perm (List.Perm.swap _ _ _), ?_, fun y => ?_, ?_⟩
      · rw [List.nodup_append]
        exact ⟨hnd, by simp, fun a ha b hb => by simp at hb; subst hb; exact fun e => hkn (e ▸ ha)⟩
      · rw [List.mem_append, hm1, left_keys hs he hk hek y]
        simp
      · simp only [List.length_append, List.length_cons, List.length_nil]; omega
    · simp only [evs, evb] at g
      subst g
      rcases hcase with ⟨_, hnil, h2⟩ | ⟨h, _⟩
      · refine den_call (by kernel_rfl) (Sort51_tri out v S1 K2 I h2.tail (by omega)) ?_
        rintro x K3 ⟨rfl, h3⟩
        refine ⟨_, [], rfl, rfl, rfl, pendNil, ?_⟩
        have heq : sortI out = sortI s := by
          refine rises_eq (sortI_rises hnd) (sortI_rises hs.nodup) fun x => ?_
          rw [sortI_mem, sortI_mem, hm1, hnil]
          simp
        rw [heq] at h3
        obtain ⟨S5, s5, l5, h5⟩ := h3.freeze
        exact ⟨S5, v, PH.le_trans l1 l5, rfl, s5, h5⟩
      · cases h
  · refine den_next (i := i) (r := r) (es := es) (clock := clock) (seen := seen) (m := encS s) (by kernel_rfl) (h1.blk (List.mem_cons_self ..)) (hrd (J := [_, _]) l1 h1) hs (fun e he => ?_) (fun hnil => ?_) fun e he => ?_
    · obtain ⟨k, hk, hek, hev⟩ := hs.entry he
      rw [hek, hev]; exact ⟨rfl, rfl⟩
    · exact ⟨_, lookup_hit, false, rfl, .inl ⟨rfl, hnil, h1⟩⟩
    · exact ⟨_, lookup_hit, true, rfl, .inr ⟨rfl, e, he, h1.put _⟩⟩
end Go.Proofs.Ytcfgpbmcgmkmhaa.Vc
/-
  LIVE: the program's small functions.
-/
namespace Go.Proofs.Ytcfgpbmcgmkmhaa.Vc
open Go

theorem calls_gives (e : EndX) (av : Value) (H : PH) (ha : SlR H e.args av) : Gives Try.prog n_live_calls [.agg (endVs e av).toArray] H (.bool e.calls) := by
  obtain ⟨b, c, rfl⟩ := ha.sl
  refine tri_live_calls (endVs e (.slice b e.args.length c)) (by kernel_rfl) (by kernel_rfl) ?_
  refine ⟨?_, PH.le_refl _⟩
  simp only [endVs, evs, evb, EndX.calls]
  congr 2
  by_cases h4 : e.kind = 4 <;> by_cases h6 : e.kind = 6 <;> simp [h4, h6]
theorem leads_tri (e : EndX) (av : Value) (S : PH) (ha : SlR S e.args av) (hn : InI e.next) (he : InI e.els) :
    Tri Try.prog n_live_leads #[.agg (endVs e av).toArray] S fun x S' => PH.le S S' ∧ ∃ v, x = .returned v ∧ SlR S' e.ways v := by
  obtain ⟨b, c, rfl⟩ := ha.sl
  refine tri_live_leads (endVs e (.slice b e.args.length c)) (by kernel_rfl) (by kernel_rfl) ?_
  simp only [endVs]
  refine ⟨fun vs H' => vs = [.bool (decide (e.kind = 0 ∨ e.kind = 4 ∨ e.kind = 6))] ∧ H' = S, ?_, fun g => ?_, fun g => ?_⟩
  · rintro vs H' _ ⟨rfl, rfl⟩
    refine ⟨fun g => ?_, fun g => ⟨fun g2 => ?_, fun g2 => ?_⟩⟩
    · simp only [evs, evb, decide_eq_true_eq] at g
      have hw : e.ways = [e.next] := by
        unfold EndX.ways
        rw [if_pos (by omega), if_neg (by omega)]; rfl
      rw [hw]
      refine den_hLit (α := Int) (l := [e.next]) (b := 8) [.int .i64 e.next] uIntsK elemIntK rfl (by decide) (by decide) (Held.nil (PH.le_refl H')) (by kernel_rfl) (.cons (csIK_mk hn) .nil) pendNil fun v K2 h2 _ _ => ?_
      obtain ⟨S3, s3, l3, h3⟩ := h2.freeze
      exact ⟨PH.le_trans l3 h3.sh, v, rfl, s3.le h3.sh⟩
    · simp only [evs, evb, decide_eq_true_eq] at g2
      have hw : e.ways = [e.next, e.els] := by
        unfold EndX.ways
        rw [if_pos (by omega), if_pos (by omega)]; rfl
      rw [hw]
      refine den_hLit (α := Int) (l := [e.next, e.els]) (b := 8) [.int .i64 e.next, .int .i64 e.els] uIntsK elemIntK rfl (by decide) (by decide) (Held.nil (PH.le_refl H')) (by kernel_rfl) (.cons (csIK_mk hn) (.cons (csIK_mk he) .nil)) pendNil fun v K2 h2 _ _ => ?_
      obtain ⟨S3, s3, l3, h3⟩ := h2.freeze
      exact ⟨PH.le_trans l3 h3.sh, v, rfl, s3.le h3.sh⟩
    · simp only [evs, evb, decide_eq_false_iff_not] at g g2
      have hw : e.ways = [] := by
        unfold EndX.ways
        rw [if_neg (by omega), if_neg (by omega)]; rfl
      rw [hw]
      exact ⟨PH.le_refl _, _, rfl, nil_slR _⟩
  · simp only [evs, evb, decide_eq_true_eq] at g
    refine ⟨_, lookup_hit, ?_, rfl⟩
    simp [evs, evb, g]
  · simp only [evs, evb, decide_eq_false_iff_not] at g
    refine ⟨_, lookup_hit, ?_, rfl⟩
    by_cases h4 : e.kind = 4 <;> by_cases h6 : e.kind = 6 <;> simp [evs, evb, g, h4, h6]
def EndX.rds (e : EndX) : List Int := if e.kind = 1 ∨ e.kind = 2 ∨ e.kind = 5 ∨ e.kind = 6 then [e.reg] else if e.kind = 3 ∨ e.kind = 4 then e.reg :: e.args else []
theorem rds_mem (e : EndX) (r : Int) : r ∈ e.rds ↔ e.reads r = true := by
  unfold EndX.rds EndX.reads
  split
  · simp; exact ⟨fun h => h.symm, fun h => h.symm⟩
  · split
    · simp only [List.mem_cons, Bool.or_eq_true, decide_eq_true_eq]
      exact ⟨fun h => h.imp (fun h => h.symm) id, fun h => h.imp (fun h => h.symm) id⟩
    · simp
theorem reads_tri (e : EndX) (av : Value) (S : PH) (ha : SlR S e.args av) (hr : InI e.reg) (hl : e.args.length ≤ 40000000) :
    Tri Try.prog n_live_reads #[.agg (endVs e av).toArray] S fun x S' => PH.le S S' ∧ ∃ v, x = .returned v ∧ SlR S' e.rds v := by
  obtain ⟨b, c, rfl⟩ := ha.sl
  refine tri_live_reads (endVs e (.slice b e.args.length c)) (by kernel_rfl) (by kernel_rfl) ?_
  simp only [endVs]
  refine ⟨fun vs H' => vs = [.bool (decide (e.kind = 1 ∨ e.kind = 2 ∨ e.kind = 5 ∨ e.kind = 6))] ∧ H' = S, ?_, fun g => ?_, fun g => ⟨fun g2 => ?_, fun g2 => ?_⟩⟩
  · rintro vs H' _ ⟨rfl, rfl⟩
    refine ⟨fun g => ?_, fun g => ⟨fun g2 => ?_, fun g2 => ?_⟩⟩
    · simp only [evs, evb, decide_eq_true_eq] at g
      have hw : e.rds = [e.reg] := by unfold EndX.rds; rw [if_pos g]
      rw [hw]
      refine den_hLit (α := Int) (l := [e.reg]) (b := 8) [.int .i64 e.reg] uIntsK elemIntK rfl (by decide) (by decide) (Held.nil (PH.le_refl H')) (by kernel_rfl) (.cons (csIK_mk hr) .nil) pendNil fun v K2 h2 _ _ => ?_
      obtain ⟨S3, s3, l3, h3⟩ := h2.freeze
      exact ⟨PH.le_trans l3 h3.sh, v, rfl, s3.le h3.sh⟩
    · simp only [evs, evb, decide_eq_false_iff_not] at g
      have hk : e.kind = 3 ∨ e.kind = 4 := by
        by_cases h3 : e.kind = 3
        · exact .inl h3
        · by_cases h4 : e.kind = 4
          · exact .inr h4
          · simp [evs, evb, h3, h4] at g2
      have hw : e.rds = [e.reg] ++ e.args := by unfold EndX.rds; rw [if_neg g, if_pos hk]; rfl
      rw [hw]
      refine den_hLit (α := Int) (l := [e.reg]) (b := 8) [.int .i64 e.reg] uIntsK elemIntK rfl (by decide) (by decide) (Held.nil (PH.le_refl H')) (by kernel_rfl) (.cons (csIK_mk hr) .nil) pendNil fun v K2 h2 _ _ => ?_
      refine den_hApp (b := 8) (more := e.args) uIntsK elemIntK (by kernel_rfl) (by kernel_rfl) h2 (ha.srcS h2.sh) (by simp only [maxLen, List.length_cons, List.length_nil]; omega) (by simp only [List.length_cons, List.length_nil]; omega) fun v3 K3 h3 _ => ⟨pendNil, ?_⟩
      obtain ⟨S4, s4, l4, h4⟩ := h3.freeze
      exact ⟨PH.le_trans l4 h4.sh, v3, rfl, s4.le h4.sh⟩
    · simp only [evs, evb, decide_eq_false_iff_not] at g
      have hk : ¬ (e.kind = 3 ∨ e.kind = 4) := by
        rintro (h3 | h3) <;> simp [evs, evb, h3] at g2
      have hw : e.rds = [] := by unfold EndX.rds; rw [if_neg g, if_neg hk]
      rw [hw]
      exact ⟨PH.le_refl _, _, rfl, nil_slR _⟩
  · simp only [evs, evb, decide_eq_true_eq] at g
    refine ⟨_, lookup_hit, ?_, rfl⟩
    simp [evs, evb, g]
  · simp only [evs, evb, decide_eq_true_eq] at g2
    refine ⟨_, lookup_hit, ?_, rfl⟩
    simp [evs, evb, g2]
  · simp only [evs, evb, decide_eq_false_iff_not] at g g2
    refine ⟨_, lookup_hit, ?_, rfl⟩
    by_cases h5 : e.kind = 5 <;> by_cases h6 : e.kind = 6 <;> simp [evs, evb, g, g2, h5, h6]
theorem through_tri (r : Nat) (es : Array MapEntry) (clock : Nat) (s : List Int) (x : InsX) (cs : List Value) (S K : PH) (hx : CsR S x cs) (h : Held S K [.blk r (.map es clock)]) (hs : SetAt es clock s) :
    Tri Try.prog n_live_through #[.map (some r), .agg cs.toArray] K fun e K' => ∃ es' clock' s', e = .returned (.tuple #[]) ∧ Held S K' [.blk r (.map es' clock')] ∧ SetAt es' clock' s' ∧ ∀ y, y ∈ s' ↔ (y ∈ x.args ∨ (¬ x.fills y ∧ y ∈ s)) := by
  obtain ⟨av, dv, rfl, y1, y2, ya, y4, y5, y6, yd, y8⟩ := ins_iff.1 hx
  obtain ⟨ab, ac, rfl⟩ := ya.sl
  obtain ⟨db, dc, rfl⟩ := yd.sl
  refine tri_live_through [.map (some r), txt x.op, .int .i64 x.to, .slice ab x.args.length ac, .int .i64 x.const.kind, .int .i64 x.const.int, txt x.const.text, .slice db x.const.list.length dc, .int .i64 x.num] (by kernel_rfl) (by kernel_rfl) ?_
  refine ⟨fun vs K' => vs = [] ∧ ∃ es' clock' s', Held S K' [.blk r (.map es' clock')] ∧ SetAt es' clock' s' ∧ ∀ y, y ∈ s' ↔ (¬ x.fills y ∧ y ∈ s), ?_, fun g => ?_, fun g => ?_⟩
  · rintro vs K2 _ ⟨rfl, es2, clock2, s2, h2, hs2, hm2⟩
    refine den_call cb_live_set_int___add (setAdd_tri r es2 clock2 s2 x.args _ S K2 ya h2 hs2) ?_
    rintro e K3 ⟨es3, clock3, s3, rfl, h3, hs3, hm3⟩
    refine ⟨_, [], rfl, rfl, rfl, pendNil, es3, clock3, s3, rfl, h3, hs3, fun y => ?_⟩
    rw [hm3, hm2]
    exact Or.comm
  · simp only [evs, evb, txt_neK] at g
    have hop : x.op ≠ tieB := by simpa using g
    refine den_call cb_live_set_int___drop (setDrop_tri r es clock s x.to S K h hs) ?_
    rintro e K3 ⟨es3, clock3, rfl, h3, hs3⟩
    refine ⟨_, [], rfl, rfl, rfl, pendNil, _, lookup_hit, rfl, es3, clock3, _, h3, hs3, fun y => ?_⟩
    rw [List.mem_filter]
    simp only [decide_eq_true_eq, InsX.fills]
    constructor
    · rintro ⟨h1, h2⟩; exact ⟨fun hf => h2 hf.2.symm, h1⟩
    · rintro ⟨h1, h2⟩; exact ⟨h2, fun e => h1 ⟨hop, e.symm⟩⟩
  · simp only [evs, evb, txt_neK] at g
    have hop : x.op = tieB := by simpa using g
    refine ⟨_, lookup_hit, rfl, es, clock, s, h, hs, fun y => ?_⟩
    exact ⟨fun hy => ⟨fun hf => hf.1 hop, hy⟩, fun hy => hy.2⟩
end Go.Proofs.Ytcfgpbmcgmkmhaa.Vc
/-
  LIVE: what is live ahead of a block's end, by the program.
-/
namespace Go.Proofs.Ytcfgpbmcgmkmhaa.Vc
open Go

/-- a flow in memory: the function, and the row of the sets -/
abbrev flowB (fb : Nat) (p : PrcX) (bv : Value) (inv : Value) : Itm := .blk fb (.cells [.int .i64 p.params, .int .i64 p.holds, .int .i64 p.regs, bv, inv].toArray 61 (0, 0))
abbrev inB (ib : Nat) (ims : List Value) : Itm := .blk ib (.cells ims.toArray 65 (0, 0))
theorem blk_row {K : PH} {b off : Nat} {cs : List Value} {e : TypeId} {f : Nat × Nat} (h : K b = some (.cells cs.toArray e f)) (n : Nat) : rowAt K (some ⟨b, off, none⟩) ((cs.drop off).take n) := by
  refine ⟨_, rfl, fun i v hi => ?_⟩
  rw [Addr.add_plain, PH.cell_at h]
  rw [List.getElem?_take] at hi
  split at hi
  · rw [List.getElem?_drop] at hi; simpa using hi
  · cases hi
theorem inB_row {K : PH} {ib n c : Nat} {ims : List Value} {e : TypeId} {f : Nat × Nat} {v : Value} (h : K ib = some (.cells ims.toArray e f)) (hv : ims[c]? = some v) : rowAt K (pOf (eltV (.slice (some ⟨ib, 0, none⟩) n n) (c : Int) 1)) [v] := by
  have h1 := blk_row (off := c) h 1
  have h2 : (ims.drop c).take 1 = [v] := by
    obtain ⟨hc, he⟩ := List.getElem?_eq_some_iff.1 hv
    rw [List.drop_eq_getElem_cons hc, he]; rfl
  rw [h2] at h1
  have : pOf (eltV (.slice (some ⟨ib, 0, none⟩) n n) (c : Int) 1) = some ⟨ib, c, none⟩ := by simp [eltV, pOf, slBase, Addr.add_plain]
  rw [this]; exact h1
/-- what the program takes to be live ahead of an end -/
def outS (p : PrcX) (sets : Nat → List Int) (b : BlkX) (y : Int) : Prop := b.e.reads y = true ∨ (¬ (b.e.calls = true ∧ b.e.to = y) ∧ ∃ c : Nat, (c : Int) ∈ b.e.leads p.blocks.length ∧ y ∈ sets c)
set_option maxHeartbeats 2000000 in
theorem out_tri (p : PrcX) (bv : Value) (fb ib : Nat) (ims : List Value) (sets : Nat → List Int) (i : Nat) (b : BlkX) (S K : PH) (hbv : SlR S p.blocks bv) (hb : p.blocks[i]? = some b) (hN : p.blocks.length ≤ 20000000) (hrl : b.e.args.length ≤ 40000000) (hil : ims.length = p.blocks.length) (him : ∀ c v, ims[c]? = some v → SetR S v (sets c))
    (h : Held S K [flowB fb p bv (.slice (some ⟨ib, 0, none⟩) p.blocks.length p.blocks.length), inB ib ims]) :
    Tri Try.prog n_live_flow__out #[.pointer (some ⟨fb, 0, none⟩), nI i] K fun x K' => ∃ S' ro es clock s, PH.le S S' ∧ x = .returned (.map (some ro)) ∧ Held S' K' [.blk ro (.map es clock), flowB fb p bv (.slice (some ⟨ib, 0, none⟩) p.blocks.length p.blocks.length), inB ib ims] ∧ SetAt es clock s ∧ ∀ y, y ∈ s ↔ outS p sets b y := by
  obtain ⟨b0, c0, rfl⟩ := hbv.sl
  have hi : i < p.blocks.length := (List.getElem?_eq_some_iff.1 hb).1
  refine tri_live_flow__out [.pointer (some ⟨fb, 0, none⟩), nI i] (by kernel_rfl) (by kernel_rfl) ?_
  have hfl : ∀ {S' K' : PH} {J : List Itm}, Held S' K' (J ++ [flowB fb p (.slice b0 p.blocks.length c0) (.slice (some ⟨ib, 0, none⟩) p.blocks.length p.blocks.length), inB ib ims]) → rowAt K' (some ⟨fb, 3, none⟩) [.slice b0 p.blocks.length c0] ∧ rowAt K' (some ⟨fb, 4, none⟩) [.slice (some ⟨ib, 0, none⟩) p.blocks.length p.blocks.length] ∧ K' ib = some (.cells ims.toArray 65 (0, 0)) := fun h' =>
    ⟨blk_row (h'.blk (List.mem_append_right _ (List.mem_cons_self ..))) 1, blk_row (h'.blk (List.mem_append_right _ (List.mem_cons_self ..))) 1, h'.blk (List.mem_append_right _ (List.mem_cons_of_mem _ (List.mem_cons_self ..)))⟩
  obtain ⟨q1, _, ces, q2, q3⟩ := hbv.get hb
  obtain ⟨iv, es0, rfl, his, hes⟩ := blk_iff.1 q2
  obtain ⟨av, rfl, e1, e2, hea, e3, e4, e5⟩ := end_iff.1 hes
  obtain ⟨b3, c3, rfl⟩ := hea.sl
  refine ⟨fun _ => rfl, [.slice b0 p.blocks.length c0], rfl, ?_, fun _ => ?_, [.int .i64 b.e.kind, .int .i64 b.e.reg, .slice b3 b.e.args.length c3, .int .i64 b.e.to, .int .i64 b.e.next, .int .i64 b.e.els], rfl, ?_, ?_⟩
  · exact (hfl (J := []) h).1
  · simp only [Chk.holds, evs, evb]; exact ⟨q1, by omega, by omega⟩
  · simp only [evs, evb]; exact rowAt_sub (rowAt_le h.sh q3) 1 6
  refine den_makeMap fun ro hro => ?_
  have h1 := h.new hro (.map #[] 0)
  refine den_call cb_live_leads (h1.pure (R := fun x S' => ∃ v, x = .returned v ∧ SlR S' b.e.ways v) (leads_tri b.e _ S hea e4 e5)) ?_
  rintro x K2 ⟨S2, l2, h2, lv, rfl, hlv⟩
  obtain ⟨b5, c5, rfl⟩ := hlv.sl
  refine ⟨_, [.slice b5 b.e.ways.length c5], rfl, rfl, rfl, pendNil, ?_⟩
  have hwl := ways_len b.e
  -- the sets of where it leads
  refine ⟨fun n vs K' => ∃ (k : Nat) (es : Array MapEntry) (clock : Nat) (s : List Int), vs = [nI k] ∧ k + n = b.e.ways.length ∧ Held S2 K' [.blk ro (.map es clock), flowB fb p (.slice b0 p.blocks.length c0) (.slice (some ⟨ib, 0, none⟩) p.blocks.length p.blocks.length), inB ib ims] ∧ SetAt es clock s ∧ ∀ y, y ∈ s ↔ ∃ c : Nat, (c : Int) ∈ b.e.ways.take k ∧ c < p.blocks.length ∧ y ∈ sets c,
    ⟨b.e.ways.length, 0, #[], 0, [], rfl, by omega, h2, setOk_nil, fun y => by simp⟩, ?_⟩
  rintro n vs K3 _ ⟨k, es, clock, s, rfl, hkn, h3, hs3, hm3⟩
  refine ⟨fun g => ?_, fun g => ?_⟩
  · simp only [evs, evb, decide_eq_true_eq] at g
    obtain ⟨a, ha⟩ : ∃ a, b.e.ways[k]? = some a := ⟨_, List.getElem?_eq_getElem (show k < b.e.ways.length by omega)⟩
    have hst : b.e.ways.take (k + 1) = b.e.ways.take k ++ [a] := by rw [List.take_add_one, ha]; rfl
    obtain ⟨w1, _, wes, w2, w3⟩ := (hlv.le h3.sh).get ha
    obtain ⟨rfl, hai⟩ := csIK w2
    obtain ⟨r1, r2, r3⟩ := hfl (J := [_]) h3
    refine ⟨fun vs K' => vs = [] ∧ ∃ (es' : Array MapEntry) (clock' : Nat) (s' : List Int), Held S2 K' [.blk ro (.map es' clock'), flowB fb p (.slice b0 p.blocks.length c0) (.slice (some ⟨ib, 0, none⟩) p.blocks.length p.blocks.length), inB ib ims] ∧ SetAt es' clock' s' ∧ ∀ y, y ∈ s' ↔ ∃ c : Nat, (c : Int) ∈ b.e.ways.take (k + 1) ∧ c < p.blocks.length ∧ y ∈ sets c, ?_, fun _ => ?_, [.int .i64 a], rfl, ?_, ?_⟩
    · rintro vs K4 _ ⟨rfl, es4, clock4, s4, h4, hs4, hm4⟩
      refine ⟨_, lookup_hit, n - 1, by omega, k + 1, es4, clock4, s4, ?_, by omega, h4, hs4, hm4⟩
      simp only [evs, evb]; rw [w64 (by omega) (by omega)]; rfl
    · simp only [Chk.holds, evs, evb]; exact ⟨w1, by omega, by omega⟩
    · simp only [evs, evb]; exact w3
    refine ⟨fun vs K' => vs = [.bool (decide (0 ≤ a ∧ a < (p.blocks.length : Int)))] ∧ K' = K3, ?_, fun g2 => ?_, fun g2 => ?_⟩
    · rintro vs K4 _ ⟨rfl, rfl⟩
      refine ⟨fun g2 => ?_, fun g2 => ?_⟩
      · simp only [evs, evb, decide_eq_true_eq] at g2
        obtain ⟨c, rfl⟩ : ∃ c : Nat, a = (c : Int) := ⟨a.toNat, by omega⟩
        have hcN : c < ims.length := by omega
        obtain ⟨mv, hmv⟩ : ∃ mv, ims[c]? = some mv := ⟨_, List.getElem?_eq_getElem hcN⟩
        have hset := (him c mv hmv).le l2
        have hset' := hset
        obtain ⟨rt, est, clt, rfl, _, _⟩ := hset'
        refine ⟨[.slice (some ⟨ib, 0, none⟩) p.blocks.length p.blocks.length], rfl, r2, fun _ => ?_, [.map (some rt)], rfl, ?_, ?_⟩
        · simp only [Chk.holds, evs, evb]; exact ⟨rfl, by omega, by omega⟩
        · simp only [evs, evb]; exact inB_row (n := p.blocks.length) r3 hmv
        refine den_call cb_live_set_int___join (Held.call (P := Try.prog) (f := n_live_set_int___join) (args := #[.map (some ro), .map (some rt)]) (J := [.blk ro (.map es clock)]) (I := [flowB fb p (.slice b0 p.blocks.length c0) (.slice (some ⟨ib, 0, none⟩) p.blocks.length p.blocks.length), inB ib ims])
          (R := fun x S' J' => S' = S2 ∧ ∃ es' clock' s', x = .returned (.tuple #[]) ∧ J' = [.blk ro (.map es' clock')] ∧ SetAt es' clock' s' ∧ ∀ y, y ∈ s' ↔ y ∈ s ∨ y ∈ sets c) h3
          (fun K' hK => (setJoin_tri ro es clock s (sets c) _ S2 K' hset hK hs3).mono fun x K'' ⟨es', clock', s', q1, q2, q3, q4⟩ => ⟨S2, _, PH.le_refl _, q2, rfl, es', clock', s', q1, rfl, q3, q4⟩)) ?_
        rintro x K5 ⟨S5, J5, _, h5, rfl, es5, clock5, s5, rfl, rfl, hs5, hm5⟩
        refine ⟨_, [], rfl, rfl, rfl, pendNil, _, lookup_hit, rfl, es5, clock5, s5, h5, hs5, fun y => ?_⟩
        rw [hm5, hm3, hst]
        constructor
        · rintro (⟨d, h1, h2, h3⟩ | h)
          · exact ⟨d, List.mem_append_left _ h1, h2, h3⟩
          · exact ⟨c, by simp, by omega, h⟩
        · rintro ⟨d, h1, h2, h3⟩
          rcases List.mem_append.1 h1 with h1 | h1
          · exact .inl ⟨d, h1, h2, h3⟩
          · have : d = c := by simp at h1; omega
            subst this; exact .inr h3
      · simp only [evs, evb, decide_eq_false_iff_not] at g2
        refine ⟨_, lookup_hit, rfl, es, clock, s, h3, hs3, fun y => ?_⟩
        rw [hm3, hst]
        constructor
        · rintro ⟨d, h1, h2, h3⟩; exact ⟨d, List.mem_append_left _ h1, h2, h3⟩
        · rintro ⟨d, h1, h2, h3⟩
          rcases List.mem_append.1 h1 with h1 | h1
          · exact ⟨d, h1, h2, h3⟩
          · exact absurd (by simp at h1; omega) g2
    · simp only [evs, evb, decide_eq_true_eq] at g2
      refine ⟨[.slice (some ⟨ib, 0, none⟩) p.blocks.length p.blocks.length], rfl, r2, _, lookup_hit, ?_, rfl⟩
      simp only [evs, evb]
      by_cases hc : a < (p.blocks.length : Int) <;> simp [hc] <;> omega
    · simp only [evs, evb, decide_eq_false_iff_not] at g2
      refine ⟨_, lookup_hit, ?_, rfl⟩
      simp only [evs, evb]
      rw [decide_eq_false (fun h => g2 (by omega))]
  · simp only [evs, evb, decide_eq_false_iff_not] at g
    rw [List.take_of_length_le (by omega)] at hm3
    have hea3 := hea.le l2
    refine ⟨fun vs K' => vs = [] ∧ ∃ (es' : Array MapEntry) (clock' : Nat) (s' : List Int), Held S2 K' [.blk ro (.map es' clock'), flowB fb p (.slice b0 p.blocks.length c0) (.slice (some ⟨ib, 0, none⟩) p.blocks.length p.blocks.length), inB ib ims] ∧ SetAt es' clock' s' ∧ ∀ y, y ∈ s' ↔ (¬ (b.e.calls = true ∧ b.e.to = y) ∧ y ∈ s), ?_, ?_⟩
    · rintro vs K4 _ ⟨rfl, es4, clock4, s4, h4, hs4, hm4⟩
      refine den_call cb_live_reads (h4.pure (R := fun x S' => ∃ v, x = .returned v ∧ SlR S' b.e.rds v) (reads_tri b.e _ S2 hea3 e2 hrl)) ?_
      rintro x K5 ⟨S5, l5, h5, rv, rfl, hrv⟩
      obtain ⟨b6, c6, rfl⟩ := hrv.sl
      refine ⟨_, [.slice b6 b.e.rds.length c6], rfl, rfl, rfl, pendNil, ?_⟩
      refine den_call cb_live_set_int___add (Held.call (P := Try.prog) (f := n_live_set_int___add) (args := #[.map (some ro), .slice b6 b.e.rds.length c6]) (J := [.blk ro (.map es4 clock4)]) (I := [flowB fb p (.slice b0 p.blocks.length c0) (.slice (some ⟨ib, 0, none⟩) p.blocks.length p.blocks.length), inB ib ims])
        (R := fun x S' J' => S' = S5 ∧ ∃ es' clock' s', x = .returned (.tuple #[]) ∧ J' = [.blk ro (.map es' clock')] ∧ SetAt es' clock' s' ∧ ∀ y, y ∈ s' ↔ y ∈ s4 ∨ y ∈ b.e.rds) h5
        (fun K' hK => (setAdd_tri ro es4 clock4 s4 b.e.rds _ S5 K' hrv hK hs4).mono fun x K'' ⟨es', clock', s', q1, q2, q3, q4⟩ => ⟨S5, _, PH.le_refl _, q2, rfl, es', clock', s', q1, rfl, q3, q4⟩)) ?_
      rintro x K6 ⟨S6, J6, _, h6, rfl, es6, clock6, s6, rfl, rfl, hs6, hm6⟩
      refine ⟨_, [], rfl, rfl, rfl, pendNil, S6, ro, es6, clock6, s6, PH.le_trans l2 l5, rfl, h6, hs6, fun y => ?_⟩
      rw [hm6, hm4, hm3, rds_mem]
      unfold outS
      constructor
      · rintro (⟨h1, c, h2, h3, h4⟩ | h)
        · exact .inr ⟨h1, c, List.mem_filter.2 ⟨h2, by simp; omega⟩, h4⟩
        · exact .inl h
      · rintro (h | ⟨h1, c, h2, h3⟩)
        · exact .inr h
        · obtain ⟨h4, h5⟩ := List.mem_filter.1 h2
          exact .inl ⟨h1, c, h4, by simp at h5; omega, h3⟩
    · refine den_gives [.bool b.e.calls] cb_live_calls (calls_gives b.e _ K3 (hea3.le h3.sh)) rfl pendNil fun K4 l4 => ⟨fun g2 => ?_, fun g2 => ?_⟩
      · simp only [evs, evb] at g2
        refine den_call cb_live_set_int___drop (Held.call (P := Try.prog) (f := n_live_set_int___drop) (args := #[.map (some ro), .int .i64 b.e.to]) (J := [.blk ro (.map es clock)]) (I := [flowB fb p (.slice b0 p.blocks.length c0) (.slice (some ⟨ib, 0, none⟩) p.blocks.length p.blocks.length), inB ib ims])
          (R := fun x S' J' => S' = S2 ∧ ∃ es' clock', x = .returned (.tuple #[]) ∧ J' = [.blk ro (.map es' clock')] ∧ SetAt es' clock' (s.filter fun y => decide (y ≠ b.e.to))) (h3.le l4)
          (fun K' hK => (setDrop_tri ro es clock s b.e.to S2 K' hK hs3).mono fun x K'' ⟨es', clock', q1, q2, q3⟩ => ⟨S2, _, PH.le_refl _, q2, rfl, es', clock', q1, rfl, q3⟩)) ?_
        rintro x K6 ⟨S6, J6, _, h6, rfl, es6, clock6, rfl, rfl, hs6⟩
        refine ⟨_, [], rfl, rfl, rfl, pendNil, _, lookup_hit, rfl, es6, clock6, _, h6, hs6, fun y => ?_⟩
        rw [List.mem_filter]
        simp only [decide_eq_true_eq]
        exact ⟨fun ⟨h1, h2⟩ => ⟨fun ⟨_, e⟩ => h2 e.symm, h1⟩, fun ⟨h1, h2⟩ => ⟨h2, fun e => h1 ⟨g2, e.symm⟩⟩⟩
      · simp only [evs, evb] at g2
        refine ⟨_, lookup_hit, rfl, es, clock, s, h3.le l4, hs3, fun y => ?_⟩
        exact ⟨fun h => ⟨fun ⟨h1, _⟩ => by (rw [g2] at h1; cases h1), h⟩, fun h => h.2⟩
end Go.Proofs.Ytcfgpbmcgmkmhaa.Vc
/-
  LIVE: sets that grow until they abide are what is live. No program in sight.
-/
namespace Go.Proofs.Ytcfgpbmcgmkmhaa.Vc
open Go

/-- sets that are on the way -/
structure Grows (p : PrcX) (sets : Nat → List Int) : Prop where
  nodup : ∀ i, (sets i).Nodup
  live : ∀ i y, y ∈ sets i → LiveB p y i
  kept : ∀ i y, y ∈ sets i → blkLive p y (fun c => y ∈ sets c) i 0
/-- what comes of a block -/
def Step (p : PrcX) (sets : Nat → List Int) (i : Nat) (s : List Int) : Prop := s.Nodup ∧ ∀ y, y ∈ s ↔ blkLive p y (fun c => y ∈ sets c) i 0
theorem grows_none (p : PrcX) : Grows p fun _ => [] := ⟨fun _ => List.nodup_nil, fun _ _ h => (by cases h), fun _ _ h => (by cases h)⟩
theorem length_le_of_sub {l m : List Int} (h : l.Nodup) (hs : ∀ y ∈ l, y ∈ m) : l.length ≤ m.length := by
  induction l generalizing m with
  | nil => simp
  | cons a l ih =>
    obtain ⟨h1, h2⟩ := List.nodup_cons.1 h
    have ha := hs a (List.mem_cons_self ..)
    have hlen : (m.erase a).length + 1 = m.length := by
      rw [List.length_erase_of_mem ha]
      have := List.length_pos_of_mem ha
      omega
    have := ih (m := m.erase a) h2 fun y hy => (List.mem_erase_of_ne (fun e : y = a => h1 (e ▸ hy))).2 (hs y (List.mem_cons_of_mem _ hy))
    simp only [List.length_cons]; omega
theorem same_of_length {l m : List Int} (hl : l.Nodup) (hs : ∀ y ∈ l, y ∈ m) (he : m.length = l.length) : ∀ y ∈ m, y ∈ l := by
  intro y hy
  by_cases h : y ∈ l
  · exact h
  · have := length_le_of_sub (l := y :: l) (m := m) (List.nodup_cons.2 ⟨h, hl⟩) fun z hz => (List.mem_cons.1 hz).elim (fun e => e ▸ hy) (hs z)
    simp only [List.length_cons] at this; omega
theorem Step.grown {p : PrcX} {sets : Nat → List Int} (hg : Grows p sets) {i : Nat} {s : List Int} (h : Step p sets i s) : ∀ y ∈ sets i, y ∈ s := fun y hy => (h.2 y).2 (hg.kept i y hy)
def putF (sets : Nat → List Int) (i : Nat) (s : List Int) : Nat → List Int := fun j => if j = i then s else sets j
theorem Grows.put {p : PrcX} {sets : Nat → List Int} (hg : Grows p sets) {i : Nat} {s : List Int} (h : Step p sets i s) : Grows p (putF sets i s) := by
  have hup : ∀ c y, y ∈ sets c → y ∈ putF sets i s c := fun c y hy => by
    unfold putF
    split
    · rename_i e; subst e; exact h.grown hg y hy
    · exact hy
  refine ⟨fun j => ?_, fun j y hy => ?_, fun j y hy => ?_⟩
  · unfold putF; split
    · exact h.1
    · exact hg.nodup j
  · unfold putF at hy
    split at hy
    · rename_i e; subst e
      exact liveB_of (blkLive_mono (fun c hc => hg.live c y hc) ((h.2 y).1 hy))
    · exact hg.live j y hy
  · unfold putF at hy
    split at hy
    · rename_i e; subst e
      exact blkLive_mono (fun c hc => hup c y hc) ((h.2 y).1 hy)
    · exact blkLive_mono (fun c hc => hup c y hc) (hg.kept j y hy)
/-- where nothing changes any more they are what is live -/
theorem Grows.all {p : PrcX} {sets : Nat → List Int} (hg : Grows p sets) (h : ∀ i, i < p.blocks.length → ∃ s, Step p sets i s ∧ s.length = (sets i).length) {i : Nat} {y : Int} : y ∈ sets i ↔ LiveB p y i := by
  refine ⟨hg.live i y, fun hl => hl (fun c => y ∈ sets c) fun j hj => ?_⟩
  have hjN : j < p.blocks.length := by
    obtain ⟨b, hb, _⟩ := hj
    exact (List.getElem?_eq_some_iff.1 hb).1
  obtain ⟨s, hs, he⟩ := h j hjN
  exact same_of_length (hg.nodup j) (hs.grown hg) he y ((hs.2 y).2 hj)
theorem Grows.le {p : PrcX} {sets : Nat → List Int} (hg : Grows p sets) (i : Nat) : (sets i).length ≤ p.regl.length :=
  length_le_of_sub (hg.nodup i) fun y hy => live_regl (liveB_at (hg.live i y hy))
/-- how much there is -/
def sumS (sets : Nat → List Int) : Nat → Nat
  | 0 => 0
  | n + 1 => sumS sets n + (sets n).length
theorem sumS_le {p : PrcX} {sets : Nat → List Int} (hg : Grows p sets) : ∀ n, sumS sets n ≤ n * p.regl.length
  | 0 => by simp [sumS]
  | n + 1 => by
    have := sumS_le hg n
    have := hg.le n
    simp only [sumS, Nat.succ_mul]; omega
theorem sumS_put {sets : Nat → List Int} {i : Nat} {s : List Int} : ∀ n, i < n → sumS (putF sets i s) n + (sets i).length = sumS sets n + s.length
  | 0, h => by omega
  | n + 1, h => by
    have key : ∀ m, m ≤ i → sumS (putF sets i s) m = sumS sets m := by
      intro m
      induction m with
      | zero => intro _; rfl
      | succ m ih =>
        intro hm
        have e : m ≠ i := by omega
        simp only [sumS, ih (by omega), putF, if_neg e]
    by_cases e : n = i
    · subst e
      simp only [sumS, key n (Nat.le_refl _), putF, if_pos]
      omega
    · have := sumS_put (sets := sets) (s := s) n (show i < n by omega)
      have hn : putF sets i s n = sets n := by unfold putF; rw [if_neg e]
      simp only [sumS, hn]; omega
end Go.Proofs.Ytcfgpbmcgmkmhaa.Vc
/-
  LIVE: the function that goes over a row from its end, as a value; a block gone back over.
-/
namespace Go.Proofs.Ytcfgpbmcgmkmhaa.Vc
open Go

theorem Backward_tri (l : List InsX) (sv : Value) (S : PH) (hs : SlR S l sv) : Tri Try.prog n_slices_Backward___api_Ins_api_Ins_ #[sv] S fun x S' => ∃ q : Nat, PH.le S S' ∧ x = .returned (.func (.func 46) #[] #[.pointer (some ⟨q, 0, none⟩)]) ∧ rowAt S' (some ⟨q, 0, none⟩) [sv] := by
  obtain ⟨b, c, rfl⟩ := hs.sl
  refine tri_slices_Backward___api_Ins_api_Ins_ [.slice b l.length c] (by kernel_rfl) (by kernel_rfl) ?_
  intro q hq
  refine den_makeFunc rfl ?_
  refine ⟨q, PH.le_upd hq, by simp [evV, ev, argEv, List.lookup], ⟨_, rfl, fun i v hi => by
    cases i with
    | zero =>
      simp only [List.getElem?_cons_zero, Option.some.injEq] at hi
      subst hi
      rw [Addr.add_plain, PH.cell_at PH.upd_same]
      rfl
    | succ i => simp at hi⟩⟩
/-- a block gone back over, a step more -/
theorem thru_step {b : List InsX} {j : Nat} {x : InsX} {y : Int} {q : Prop} (hj : j < b.length) (hx : b[b.length - 1 - j]? = some x) : thru y (b.drop (b.length - (j + 1))) q ↔ (y ∈ x.args ∨ (¬ x.fills y ∧ thru y (b.drop (b.length - j)) q)) := by
  have hi : b.length - 1 - j = b.length - (j + 1) := by omega
  rw [hi] at hx
  obtain ⟨hlt, he⟩ := List.getElem?_eq_some_iff.1 hx
  rw [List.drop_eq_getElem_cons hlt, he, show b.length - (j + 1) + 1 = b.length - j by omega]
  rfl
end Go.Proofs.Ytcfgpbmcgmkmhaa.Vc
/-
  LIVE: the fixpoint, by the program: what it begins with.
-/
namespace Go.Proofs.Ytcfgpbmcgmkmhaa.Vc
open Go

/-- a raw row that fills its block, as a block -/
theorem Held.rawBlk {S H : PH} {I : List Itm} {e : TypeId} {xs : List Value} {n r : Nat} (h : Held S H (.raw e 1 xs n (.slice (some ⟨r, 0, none⟩) n n) :: I)) : Held S H (.blk r (.cells xs.toArray e (0, 0)) :: I) := by
  have ho : Own H e 1 (.slice (some ⟨r, 0, none⟩) n n) n xs := h.at_ _ (List.mem_cons_self ..)
  have hr : H r = some (.cells xs.toArray e (0, 0)) := by
    rcases ho.2 with ⟨h1, _⟩ | ⟨g, cap, cur, h1, h2, h3, h4, h5, h6⟩
    · cases h1
    · cases h1
      rw [Nat.mul_one] at h5 h6
      have : cur = xs.toArray := by
        rw [← h6, List.take_of_length_le (by rw [Array.length_toList, h5]; exact Nat.le_refl _)]
      rw [h2, this]
  have hJ : Held S H [.blk r (.cells xs.toArray e (0, 0))] := ⟨h.sh, fun i hi => by rw [List.mem_singleton.1 hi]; exact hr, fun i hi k hk => by
    rw [List.mem_singleton.1 hi] at hk
    simp only [Itm.ob, Option.some.injEq] at hk
    subst hk
    exact h.off _ (List.mem_cons_self ..) r rfl, List.pairwise_singleton _ _⟩
  exact Held.step (J := [.raw e 1 xs n (.slice (some ⟨r, 0, none⟩) n n)]) (J' := [.blk r (.cells xs.toArray e (0, 0))]) h (PH.le_refl _) (fun k o hk _ => hk) (fun k a b => absurd a b) hJ fun j hj k hk => by
    rw [List.mem_singleton.1 hj] at hk
    simp only [Itm.ob, Option.some.injEq] at hk
    subst hk
    exact .inr ⟨_, List.mem_singleton.2 rfl, rfl⟩
theorem oneSetK : OneOk Try.prog 65 8 (.map none) := OneOk.of (by kernel_rfl) rfl
theorem uSetsK : Try.prog.underlying 59 = some (.slice 65) := by kernel_rfl
/-- every register that is read is a number of the machine's -/
theorem regl_InI {S : PH} {p : PrcX} {bv : Value} (h : SlR S p.blocks bv) : ∀ x ∈ p.regl, InI x := by
  intro x hx
  obtain ⟨b, hb, hxb⟩ := List.mem_flatMap.1 hx
  obtain ⟨i, hi⟩ := List.getElem?_of_mem hb
  obtain ⟨_, _, cs, hc, _⟩ := h.get hi
  obtain ⟨iv, es, rfl, his, hes⟩ := blk_iff.1 hc
  obtain ⟨av, rfl, e1, e2, hea, e3, e4, e5⟩ := end_iff.1 hes
  have hargs : ∀ {l : List Int} {v : Value}, SlR S l v → ∀ y ∈ l, InI y := fun hl y hy => by
    obtain ⟨k, hk⟩ := List.getElem?_of_mem hy
    obtain ⟨_, _, ds, hd, _⟩ := hl.get hk
    exact (csIK hd).2
  unfold BlkX.regs at hxb
  rcases List.mem_append.1 hxb with h1 | h1
  · obtain ⟨y, hy, hxy⟩ := List.mem_flatMap.1 h1
    obtain ⟨k, hk⟩ := List.getElem?_of_mem hy
    obtain ⟨_, _, ds, hd, _⟩ := his.get hk
    obtain ⟨av2, dv, rfl, _, _, ha, _⟩ := ins_iff.1 hd
    exact hargs ha x hxy
  · unfold EndX.regs at h1
    rcases List.mem_append.1 h1 with h1 | h1
    · split at h1
      · simp at h1; rw [h1]; exact e2
      · cases h1
    · split at h1
      · exact hargs hea x h1
      · cases h1
end Go.Proofs.Ytcfgpbmcgmkmhaa.Vc
/-
  LIVE: the fixpoint, by the program.
-/
namespace Go.Proofs.Ytcfgpbmcgmkmhaa.Vc
open Go

/-- the sets, row by row -/
def InsAt (S0 S : PH) (ims : List Value) (sets : Nat → List Int) : Prop := ∀ c v, ims[c]? = some v → SetR S v (sets c) ∧ ∀ r, v = .map (some r) → S0 r = none
theorem InsAt.le {S0 S S' : PH} {ims : List Value} {sets : Nat → List Int} (h : InsAt S0 S ims sets) (hl : PH.le S S') : InsAt S0 S' ims sets := fun c v hv => ⟨(h c v hv).1.le hl, (h c v hv).2⟩
theorem InsAt.set {S0 S : PH} {ims : List Value} {sets : Nat → List Int} (h : InsAt S0 S ims sets) {i r : Nat} {s : List Int} (hs : SetR S (.map (some r)) s) (h0 : S0 r = none) : InsAt S0 S (ims.set i (.map (some r))) (putF sets i s) := by
  intro c v hv
  rw [List.getElem?_set] at hv
  unfold putF
  by_cases e : i = c
  · subst e
    rw [if_pos rfl] at hv
    split at hv
    · cases hv
      rw [if_pos rfl]
      exact ⟨hs, fun r' h' => by cases h'; exact h0⟩
    · cases hv
  · rw [if_neg e] at hv
    rw [if_neg (fun h => e h.symm)]
    exact h c v hv
/-- one of the row is another one -/
theorem set_splice {α : Type} (l : List α) (i : Nat) (a : α) (h : i < l.length) : l.take i ++ [a] ++ l.drop (i + 1) = l.set i a := by
  rw [List.set_eq_take_append_cons_drop, if_pos h]; simp
/-- a set that is written no more, beside what else is held -/
theorem Held.freezeSet {S0 S H : PH} {I : List Itm} {r : Nat} {es : Array MapEntry} {clock : Nat} {s : List Int} (h0 : PH.le S0 S) (h : Held S H (.blk r (.map es clock) :: I)) (hs : SetAt es clock s) :
    ∃ S', PH.le S S' ∧ SetR S' (.map (some r)) s ∧ S0 r = none ∧ Held S' H I := by
  have hr : S r = none := h.off _ (List.mem_cons_self ..) r rfl
  obtain ⟨h1, h2⟩ := h.freezeB
  exact ⟨_, h1, ⟨r, es, clock, rfl, PH.upd_same, hs⟩, PH.none_of_le h0 hr, h2⟩
end Go.Proofs.Ytcfgpbmcgmkmhaa.Vc
/-
  LIVE: the fixpoint, by the program: the walk.
-/
namespace Go.Proofs.Ytcfgpbmcgmkmhaa.Vc
open Go

theorem Iter.congr {P : Program} {gv : Value} {S : PH} {n : Nat} {xs ys : Nat → List Value} (h : ∀ j, j < n → xs j = ys j) (hi : Iter P gv S n xs) : Iter P gv S n ys := by
  obtain ⟨gf, lb, h1, h2, h3⟩ := hi
  exact ⟨gf, lb, h1, h2, fun l I H W g1 g2 g3 g4 g5 => h3 l I H W g1 g2 g3 (fun j H' W' hj a b m => by rw [h j hj]; exact g4 j H' W' hj a b m) g5⟩
set_option maxHeartbeats 4000000 in
theorem solved_tri (p : PrcX) (bv : Value) (S : PH) (hbv : SlR S p.blocks bv) (hp : p.Fit) (hE : ∀ b ∈ p.blocks, b.e.args.length ≤ 20000000) :
    Tri Try.prog n_live_solved #[.agg (prcVs p bv).toArray] S fun x S' => ∃ (fb ib : Nat) (ims : List Value) (sets : Nat → List Int) (Sf : PH), PH.le S Sf ∧ x = .returned (pAt fb) ∧ Held Sf S' [flowB fb p bv (.slice (some ⟨ib, 0, none⟩) p.blocks.length p.blocks.length), inB ib ims] ∧ ims.length = p.blocks.length ∧ InsAt S Sf ims sets ∧
      (∀ c, (sets c).Nodup) ∧ ∀ c y, c < p.blocks.length → (y ∈ sets c ↔ LiveB p y c) := by
  have hN := hp.n
  obtain ⟨b0, c0, rfl⟩ := hbv.sl
  refine tri_live_solved (prcVs p (.slice b0 p.blocks.length c0)) (by kernel_rfl) (by kernel_rfl) ?_
  simp only [prcVs]
  refine den_hMakeRaw (n := p.blocks.length) uSetsK oneSetK (by kernel_rfl) (by kernel_rfl) (by simp only [maxLen]; omega) (by omega) (Held.nil (PH.le_refl S)) fun ib K1 h1 _ => ?_
  have h1 := h1.rawBlk
  refine den_bxNew (vs := [.int .i64 p.params, .int .i64 p.holds, .int .i64 p.regs, .slice b0 p.blocks.length c0, .slice (some ⟨ib, 0, none⟩) p.blocks.length p.blocks.length]) h1 (by kernel_rfl) fun fb K2 _ h2 => ?_
  refine ⟨fun _ => rfl, ?_⟩
  refine den_bxLoad [.slice (some ⟨ib, 0, none⟩) p.blocks.length p.blocks.length] (off := 4) (by kernel_rfl) h2 (List.mem_cons_self ..) rfl rfl ?_
  -- an empty set for each block
  refine ⟨fun n vs K => ∃ (k : Nat) (ims : List Value) (S' : PH), vs = [nI k] ∧ k + n = p.blocks.length ∧ PH.le S S' ∧ ims.length = p.blocks.length ∧ Held S' K [flowB fb p (.slice b0 p.blocks.length c0) (.slice (some ⟨ib, 0, none⟩) p.blocks.length p.blocks.length), inB ib ims] ∧
    ∀ c v, c < k → ims[c]? = some v → SetR S' v [] ∧ ∀ r, v = .map (some r) → S r = none,
    ⟨p.blocks.length, 0, List.replicate p.blocks.length (.map none), S, rfl, by omega, PH.le_refl S, by simp, h2, fun c v h => by omega⟩, ?_⟩
  rintro n vs K _ ⟨k, ims, S1, rfl, hkn, l1, hil, h3, him⟩
  refine ⟨fun g => ?_, fun g => ?_⟩
  · simp only [evs, evb, decide_eq_true_eq] at g
    refine den_bxLoad [.slice (some ⟨ib, 0, none⟩) p.blocks.length p.blocks.length] (off := 4) (by kernel_rfl) h3 (List.mem_cons_self ..) rfl rfl ?_
    refine den_makeMap fun ro hro => ?_
    have h4 := h3.new hro (.map #[] 0)
    obtain ⟨S5, l5, hset, hS0, h5⟩ := h4.freezeSet l1 setOk_nil
    refine ⟨fun _ => ?_, ?_⟩
    · simp only [Chk.holds, evs, evb]; exact ⟨rfl, by omega, by omega⟩
    refine den_bxStore (off := k) (vs := [.map (some ro)]) ?_ (h5.perm (List.Perm.swap _ _ _)) ?_ (by simp [oneC]) (by simp only [List.length_cons, List.length_nil]; omega) fun K6 h6 => ?_
    · simp only [evs, evb]
      simp [eltV, pOf, slBase, Addr.add_plain]
    · simp only [evs, evb]
    rw [show ([Value.map (some ro)]).length = 1 from rfl, set_splice ims k _ (by omega)] at h6
    refine ⟨_, lookup_hit, n - 1, by omega, k + 1, ims.set k (.map (some ro)), S5, ?_, by omega, PH.le_trans l1 l5, by simpa using hil, h6.perm (List.Perm.swap _ _ _), fun c v hc hv => ?_⟩
    · simp only [evs, evb]; rw [w64 (by omega) (by omega)]; rfl
    · rw [List.getElem?_set] at hv
      by_cases e : k = c
      · subst e
        rw [if_pos rfl] at hv
        split at hv
        · cases hv; exact ⟨hset, fun r h => by cases h; exact hS0⟩
        · cases hv
      · rw [if_neg e] at hv
        obtain ⟨q1, q2⟩ := him c v (by omega) hv
        exact ⟨q1.le l5, q2⟩
  · simp only [evs, evb, decide_eq_false_iff_not] at g
    have him' : InsAt S S1 ims fun _ => [] := fun c v hv => him c v (by have := (List.getElem?_eq_some_iff.1 hv).1; omega) hv
    have hk0 : sumS (fun _ => ([] : List Int)) p.blocks.length = 0 := by
      have : ∀ n, sumS (fun _ => ([] : List Int)) n = 0 := fun n => by induction n with
        | zero => rfl
        | succ n ih => simp [sumS, ih]
      exact this _
    -- as long as something changes
    refine ⟨fun n vs K' => ∃ (again : Bool) (ims : List Value) (sets : Nat → List Int) (S' : PH), vs = [.bool again] ∧ n = p.blocks.length * p.regl.length - sumS sets p.blocks.length + (if again then 1 else 0) ∧ PH.le S S' ∧ ims.length = p.blocks.length ∧ Held S' K' [flowB fb p (.slice b0 p.blocks.length c0) (.slice (some ⟨ib, 0, none⟩) p.blocks.length p.blocks.length), inB ib ims] ∧ InsAt S S' ims sets ∧ Grows p sets ∧
      (again = false → ∀ i, i < p.blocks.length → ∃ s, Step p sets i s ∧ s.length = (sets i).length),
      ⟨_, true, ims, fun _ => [], S1, rfl, rfl, l1, hil, h3, him', grows_none p, fun h => by cases h⟩, ?_⟩
    rintro n vs K4 _ ⟨again, ims4, sets4, S4, rfl, rfl, l4, hil4, h4, him4, hg4, hst4⟩
    refine ⟨fun ga => ?_, fun ga => ?_⟩
    · simp only [evs, evb] at ga
      subst ga
      have hsum4 := sumS_le hg4 p.blocks.length
      -- a pass
      refine ⟨fun m vs K' => ∃ (ch : Bool) (j : Nat) (ims' : List Value) (sets' : Nat → List Int) (S' : PH), vs = [.bool ch, .int .i64 ((p.blocks.length : Int) - 1 - j)] ∧ j + m = p.blocks.length ∧ PH.le S S' ∧ ims'.length = p.blocks.length ∧ Held S' K' [flowB fb p (.slice b0 p.blocks.length c0) (.slice (some ⟨ib, 0, none⟩) p.blocks.length p.blocks.length), inB ib ims'] ∧ InsAt S S' ims' sets' ∧ Grows p sets' ∧
        sumS sets4 p.blocks.length ≤ sumS sets' p.blocks.length ∧ (ch = true → sumS sets4 p.blocks.length < sumS sets' p.blocks.length) ∧ (ch = false → ∀ i, p.blocks.length ≤ i + j → i < p.blocks.length → ∃ s, Step p sets' i s ∧ s.length = (sets' i).length),
        ⟨p.blocks.length, false, 0, ims4, sets4, S4, ?_, by omega, l4, hil4, h4, him4, hg4, Nat.le_refl _, fun h => (by cases h), fun _ i h1 h2 => (by omega)⟩, ?_⟩
      · simp only [evs, evb]
        rw [w64 (by omega) (by omega)]
        simp
      rintro m vs K5 _ ⟨ch, j, ims5, sets5, S5, rfl, hjm, l5, hil5, h5, him5, hg5, hs1, hs2, hs3⟩
      refine ⟨fun gj => ?_, fun gj => ?_⟩
      · simp only [evs, evb, decide_eq_true_eq] at gj
        obtain ⟨i, hij⟩ : ∃ i : Nat, (p.blocks.length : Int) - 1 - j = (i : Int) := ⟨p.blocks.length - 1 - j, by omega⟩
        have hi : i < p.blocks.length := by omega
        obtain ⟨b, hb⟩ : ∃ b, p.blocks[i]? = some b := ⟨_, List.getElem?_eq_getElem hi⟩
        rw [hij]
        refine ⟨fun vs K' => ∃ (ch' : Bool) (ims' : List Value) (sets' : Nat → List Int) (S' : PH), vs = [.bool ch'] ∧ PH.le S S' ∧ ims'.length = p.blocks.length ∧ Held S' K' [flowB fb p (.slice b0 p.blocks.length c0) (.slice (some ⟨ib, 0, none⟩) p.blocks.length p.blocks.length), inB ib ims'] ∧ InsAt S S' ims' sets' ∧ Grows p sets' ∧
          sumS sets4 p.blocks.length ≤ sumS sets' p.blocks.length ∧ (ch' = true → sumS sets4 p.blocks.length < sumS sets' p.blocks.length) ∧ (ch' = false → ∀ i, p.blocks.length ≤ i + (j + 1) → i < p.blocks.length → ∃ s, Step p sets' i s ∧ s.length = (sets' i).length), ?_, ?_⟩
        · rintro vs K6 _ ⟨ch', ims', sets', S', rfl, t1, t2, t3, t4, t5, t6, t7, t8⟩
          refine ⟨_, lookup_hit, m - 1, by omega, ch', j + 1, ims', sets', S', ?_, by omega, t1, t2, t3, t4, t5, t6, t7, t8⟩
          simp only [evs, evb]
          rw [w64 (by omega) (by omega)]
          congr 3; omega
        refine den_call cb_live_flow__out (out_tri p _ fb ib ims5 sets5 i b S5 K5 (hbv.le l5) hb hN (Nat.le_trans (hE b (List.mem_of_getElem? hb)) (by omega)) hil5 (fun c v h => (him5 c v h).1) h5) ?_
        rintro x K6 ⟨S6, ro, es6, cl6, s6, l6, rfl, h6, hs6, hm6⟩
        refine ⟨_, [.map (some ro)], rfl, rfl, rfl, pendNil, ?_⟩
        refine den_bxNew (vs := [.map none]) h6 (by kernel_rfl) fun sb K7 _ h7 => ?_
        refine den_bxStore (off := 0) (vs := [.map (some ro)]) (by kernel_rfl) h7 (by kernel_rfl) (by simp [oneC]) (by simp) fun K8 h8 => ?_
        have h8 : Held S6 K8 [bx sb 65 [.map (some ro)], .blk ro (.map es6 cl6), flowB fb p (.slice b0 p.blocks.length c0) (.slice (some ⟨ib, 0, none⟩) p.blocks.length p.blocks.length), inB ib ims5] := h8
        have l56 := PH.le_trans l5 l6
        obtain ⟨q1, _, ces, q2, q3⟩ := (hbv.le l56).get hb
        obtain ⟨iv, esv, rfl, his, hes⟩ := blk_iff.1 q2
        obtain ⟨b2, c2, rfl⟩ := his.sl
        refine ⟨fun _ => ?_, [.slice b2 b.ins.length c2], rfl, ?_, ?_⟩
        · simp only [Chk.holds, evs, evb]; exact ⟨q1, by omega, by omega⟩
        · simp only [evs, evb]; exact rowAt_sub (rowAt_le h8.sh q3) 0 1
        refine den_call cb_slices_Backward___api_Ins_api_Ins_ (h8.pure (R := fun x S' => ∃ q : Nat, x = .returned (.func (.func 46) #[] #[.pointer (some ⟨q, 0, none⟩)]) ∧ rowAt S' (some ⟨q, 0, none⟩) [.slice b2 b.ins.length c2]) ((Backward_tri b.ins _ S6 his).mono fun x S' ⟨q, t1, t2, t3⟩ => ⟨t1, q, t2, t3⟩)) ?_
        rintro x K9 ⟨S9, l9, h9, q, rfl, hq⟩
        refine ⟨_, [.func (.func 46) #[] #[.pointer (some ⟨q, 0, none⟩)]], rfl, rfl, rfl, pendNil, ?_⟩
        obtain ⟨cells, hcells⟩ := (his.le l9).fn
        have hc8 : ∀ j', j' < b.ins.length → (cells (b.ins.length - 1 - j')).length = 8 := fun j' hj' => by
          obtain ⟨y, hy⟩ : ∃ y, b.ins[b.ins.length - 1 - j']? = some y := ⟨_, List.getElem?_eq_getElem (by omega)⟩
          have := (hcells _ y hy).1
          exact PV.RepRow.length this
        have hbl := hp.ins b (List.mem_of_getElem? hb)
        refine ⟨S9, b.ins.length, fun j' => nI (b.ins.length - 1 - j') :: cells (b.ins.length - 1 - j'), fun j' H' => ∃ (es : Array MapEntry) (cl : Nat) (s : List Int), Held S9 H' [bx sb 65 [.map (some ro)], .blk ro (.map es cl), flowB fb p (.slice b0 p.blocks.length c0) (.slice (some ⟨ib, 0, none⟩) p.blocks.length p.blocks.length), inB ib ims5] ∧ SetAt es cl s ∧ ∀ y, y ∈ s ↔ thru y (b.ins.drop (b.ins.length - j')) (outS p sets5 b y), h9.sh, ?_, ?_, ?_, ?_, ?_⟩
        · refine Iter.congr (fun j' hj' => ?_) (backward_iter b.ins S9 _ _ hq (his.le l9) (by omega) cells hcells)
          have := hc8 j' hj'
          simp [packAll, RS.pack, RS.tags, List.take_of_length_le, this]
        · rintro j' H' ⟨es, cl, s, hh, _⟩; exact hh.sh
        · exact ⟨es6, cl6, s6, h9, hs6, fun y => by rw [Nat.sub_zero, List.drop_length]; exact hm6 y⟩
        · rintro j' H' hj' ⟨es, cl, s, hh, hs, hm⟩
          obtain ⟨y, hy⟩ : ∃ y, b.ins[b.ins.length - 1 - j']? = some y := ⟨_, List.getElem?_eq_getElem (by omega)⟩
          obtain ⟨hyc, _⟩ := hcells _ y hy
          have hyc' := hyc
          obtain ⟨av, dv, hcell, _, _, hya, _, _, _, hyd, _⟩ := ins_iff.1 hyc
          obtain ⟨ab, ac, rfl⟩ := hya.sl
          obtain ⟨db, dc, rfl⟩ := hyd.sl
          simp only [hcell]
          refine ⟨rfl, ?_⟩
          refine den_bxLoad [.map (some ro)] (off := 0) (by kernel_rfl) hh (List.mem_cons_self ..) rfl rfl ?_
          rw [hcell] at hyc'
          refine den_call cb_live_through (Held.call (P := Try.prog) (f := n_live_through) (args := #[.map (some ro), .agg (List.toArray _)]) (J := [.blk ro (.map es cl)]) (I := [bx sb 65 [.map (some ro)], flowB fb p (.slice b0 p.blocks.length c0) (.slice (some ⟨ib, 0, none⟩) p.blocks.length p.blocks.length), inB ib ims5])
            (R := fun e S' J' => S' = S9 ∧ ∃ es' cl' s', e = .returned (.tuple #[]) ∧ J' = [.blk ro (.map es' cl')] ∧ SetAt es' cl' s' ∧ ∀ z, z ∈ s' ↔ (z ∈ y.args ∨ (¬ y.fills z ∧ z ∈ s))) (hh.perm (List.Perm.swap _ _ _))
            (fun K' hK => (through_tri ro es cl s y _ S9 K' hyc' hK hs).mono fun e K'' ⟨es', cl', s', t1, t2, t3, t4⟩ => ⟨S9, _, PH.le_refl _, t2, rfl, es', cl', s', t1, rfl, t3, t4⟩)) ?_
          rintro e K'' ⟨S', J', _, hh', rfl, es', cl', s', rfl, rfl, hs', hm'⟩
          refine ⟨_, [], rfl, rfl, rfl, pendNil, _, lookup_hit, es', cl', s', hh'.perm (List.Perm.swap _ _ _), hs', fun z => ?_⟩
          rw [hm', hm, thru_step hj' hy]
        · rintro H' ⟨es, cl, s, hh, hs, hm⟩
          have hst : Step p sets5 i s := ⟨hs.nodup, fun y => by
            rw [hm, Nat.sub_self, List.drop_zero]
            exact ⟨fun h => ⟨b, hb, h⟩, fun ⟨b', hb', h⟩ => by rw [hb] at hb'; cases hb'; exact h⟩⟩
          obtain ⟨mv, hmv⟩ : ∃ mv, ims5[i]? = some mv := ⟨_, List.getElem?_eq_getElem (by omega)⟩
          have hset := (him5 i mv hmv).1.le (PH.le_trans l6 l9)
          obtain ⟨rt, est, clt, rfl, hrt, hst'⟩ := hset
          have hsl := length_le_of_sub hst.1 fun y hy => live_regl (p := p) (i := i) (at_ := 0) (blkLive_mono (fun c hc => hg5.live c y hc) ((hst.2 y).1 hy))
          have hsl2 := hg5.le i
          have hreg := hp.regs
          refine den_bxLoad [.map (some ro)] (off := 0) (by kernel_rfl) hh (List.mem_cons_self ..) rfl rfl ?_
          refine den_bxLoad [.slice (some ⟨ib, 0, none⟩) p.blocks.length p.blocks.length] (off := 4) (by kernel_rfl) hh (List.mem_cons_of_mem _ (List.mem_cons_of_mem _ (List.mem_cons_self ..))) rfl rfl ?_
          have hib : H' ib = some (.cells ims5.toArray 65 (0, 0)) := hh.blk (List.mem_cons_of_mem _ (List.mem_cons_of_mem _ (List.mem_cons_of_mem _ (List.mem_cons_self ..))))
          refine ⟨fun _ => ?_, [.map (some rt)], rfl, ?_, ?_⟩
          · simp only [Chk.holds, evs, evb]; exact ⟨rfl, by omega, by omega⟩
          · simp only [evs, evb]; exact inB_row (n := p.blocks.length) hib hmv
          refine den_mapLen (α := Int) (m := encS s) (v := .map (some ro)) rfl uSetK (by kernel_rfl) ⟨ro, es, cl, rfl, hh.blk (List.mem_cons_of_mem _ (List.mem_cons_self ..)), hs⟩ (by simp [encS]; omega) ?_ ?_
          · intro x hx
            simp only [List.mem_cons, List.not_mem_nil, or_false] at hx
            rcases hx with rfl | rfl
            · simp only [evs, evb]; exact inB_row (n := p.blocks.length) hib hmv
            · simp only [evs, evb]
              exact blk_row (off := 4) (hh.blk (List.mem_cons_of_mem _ (List.mem_cons_of_mem _ (List.mem_cons_self ..)))) 1
          refine den_mapLen (α := Int) (m := encS (sets5 i)) (v := .map (some rt)) rfl uSetK (by kernel_rfl) ⟨rt, est, clt, rfl, hh.sh _ _ hrt, hst'⟩ (by simp [encS]; omega) pendNil ?_
          have hSle : PH.le S S9 := PH.le_trans l56 l9
          refine ⟨fun gl => ?_, fun gl => ?_⟩
          · simp only [evs, evb, decide_eq_true_eq] at gl
            have hgt : (sets5 i).length < s.length := by
              have h1 := length_le_of_sub (hg5.nodup i) (hst.grown hg5)
              have h2 : s.length ≠ (sets5 i).length := fun e => by simp [encS, e] at gl
              omega
            refine den_bxLoad [.slice (some ⟨ib, 0, none⟩) p.blocks.length p.blocks.length] (off := 4) (by kernel_rfl) hh (List.mem_cons_of_mem _ (List.mem_cons_of_mem _ (List.mem_cons_self ..))) rfl rfl ?_
            refine den_bxLoad [.map (some ro)] (off := 0) (by kernel_rfl) hh (List.mem_cons_self ..) rfl rfl ?_
            obtain ⟨S10, l10, hset10, hS0, h10⟩ := Held.freezeSet hSle (hh.perm (List.Perm.swap _ _ _)) hs
            refine ⟨fun _ => ?_, ?_⟩
            · simp only [Chk.holds, evs, evb]; exact ⟨rfl, by omega, by omega⟩
            refine den_bxStore (off := i) (vs := [.map (some ro)]) ?_ (h10.tail.perm (List.Perm.swap _ _ _)) ?_ (by simp [oneC]) (by simp only [List.length_cons, List.length_nil]; omega) fun K12 h12 => ?_
            · simp only [evs, evb]
              simp [eltV, pOf, slBase, Addr.add_plain]
            · simp only [evs, evb]
            rw [show ([Value.map (some ro)]).length = 1 from rfl, set_splice ims5 i _ (by omega)] at h12
            have hsum := sumS_put (sets := sets5) (s := s) p.blocks.length hi
            exact ⟨_, lookup_hit, true, ims5.set i (.map (some ro)), putF sets5 i s, S10, rfl, PH.le_trans hSle l10, by simpa using hil5, h12.perm (List.Perm.swap _ _ _), (him5.le (PH.le_trans (PH.le_trans l6 l9) l10)).set hset10 hS0, hg5.put hst, by omega, fun _ => by omega, fun h => by cases h⟩
          · simp only [evs, evb, decide_eq_false_iff_not] at gl
            have heq : s.length = (sets5 i).length := by
              have : ¬ ((s.length : Int) ≠ ((sets5 i).length : Int)) := by simpa [encS] using gl
              omega
            refine ⟨_, lookup_hit, ch, ims5, sets5, S9, rfl, hSle, hil5, hh.tail.tail, him5.le (PH.le_trans l6 l9), hg5, hs1, hs2, fun hc k hk1 hk2 => ?_⟩
            by_cases e : k = i
            · subst e; exact ⟨s, hst, heq⟩
            · exact hs3 hc k (by omega) hk2
      · simp only [evs, evb, decide_eq_false_iff_not] at gj
        have hjN : j = p.blocks.length := by omega
        have hsum5 := sumS_le hg5 p.blocks.length
        refine ⟨_, rfl, _, ?_, ch, ims5, sets5, S5, rfl, rfl, l5, hil5, h5, him5, hg5, fun hc i hi => hs3 hc i (by omega) hi⟩
        cases ch with
        | true => have := hs2 rfl; simp only [if_true]; omega
        | false => simp only [if_true, Bool.false_eq_true, if_false]; omega
    · simp only [evs, evb] at ga
      subst ga
      refine ⟨fb, ib, ims4, sets4, S4, l4, rfl, h4, hil4, him4, hg4.nodup, fun c y _ => hg4.all (hst4 rfl)⟩
end Go.Proofs.Ytcfgpbmcgmkmhaa.Vc
/-
  LIVE: what is live at the beginnings of blocks, and across a call, by the program.
-/
namespace Go.Proofs.Ytcfgpbmcgmkmhaa.Vc
open Go

theorem sort_live {p : PrcX} {l : List Int} {c : Nat} (hn : l.Nodup) (hm : ∀ y, y ∈ l ↔ LiveB p y c) : sortI l = liveL p c 0 := by
  refine rises_eq (sortI_rises hn) (liveL_rises p c 0) fun x => ?_
  rw [sortI_mem, hm, liveL_mem, liveB_iff]
theorem sort_liveAt {p : PrcX} {l : List Int} {c a : Nat} (hn : l.Nodup) (hm : ∀ y, y ∈ l ↔ LiveAt p y c a) : sortI l = liveL p c a := by
  refine rises_eq (sortI_rises hn) (liveL_rises p c a) fun x => ?_
  rw [sortI_mem, hm, liveL_mem]
theorem set_len {p : PrcX} {l : List Int} (hp : p.Fit) (hn : l.Nodup) (hm : ∀ y ∈ l, y ∈ p.regl) : l.length ≤ 20000000 :=
  Nat.le_trans (length_le_of_sub hn hm) hp.regs
set_option maxHeartbeats 1000000 in
theorem LIn_tri (p : PrcX) (bv : Value) (S : PH) (hbv : SlR S p.blocks bv) (hp : p.Fit) (hE : ∀ b ∈ p.blocks, b.e.args.length ≤ 20000000) :
    Tri Try.prog n_live_In #[.agg (prcVs p bv).toArray] S fun x S' => PH.le S S' ∧ ∃ v, x = .returned v ∧ SlR S' (inL p) v := by
  have hN := hp.n
  have hbv0 := hbv
  obtain ⟨b0, c0, rfl⟩ := hbv.sl
  refine tri_live_In (prcVs p (.slice b0 p.blocks.length c0)) (by kernel_rfl) (by kernel_rfl) ?_
  simp only [prcVs]
  refine den_call cb_live_solved (solved_tri p (.slice b0 p.blocks.length c0) S hbv hp hE) ?_
  rintro x K1 ⟨fb, ib, ims, sets, Sf, lf, rfl, h1, hil, him, hnd, hmem⟩
  refine ⟨_, [pAt fb], rfl, rfl, rfl, pendNil, ?_⟩
  refine ⟨fun _ => rfl, ?_⟩
  refine den_bxLoad [.slice (some ⟨ib, 0, none⟩) p.blocks.length p.blocks.length] (off := 4) (by kernel_rfl) h1 (List.mem_cons_self ..) rfl rfl ?_
  have h2 := h1.empty (α := List Int) 40
  refine ⟨fun n vs K => ∃ (k : Nat) (v : Value) (S' : PH), vs = [v, nI k] ∧ k + n = p.blocks.length ∧ PH.le Sf S' ∧ Held S' K [orow 40 ((List.range k).map fun i => liveL p i 0) v, flowB fb p (.slice b0 p.blocks.length c0) (.slice (some ⟨ib, 0, none⟩) p.blocks.length p.blocks.length), inB ib ims],
    ⟨p.blocks.length, 0, .slice none 0 0, Sf, rfl, by omega, PH.le_refl _, by simpa using h2⟩, ?_⟩
  rintro n vs K _ ⟨k, v, S1, rfl, hkn, l1, h3⟩
  refine ⟨fun g => ?_, fun g => ?_⟩
  · simp only [evs, evb, decide_eq_true_eq] at g
    have hk : k < p.blocks.length := by omega
    obtain ⟨mv, hmv⟩ : ∃ mv, ims[k]? = some mv := ⟨_, List.getElem?_eq_getElem (by omega)⟩
    obtain ⟨rt, est, clt, rfl, hrt, hst⟩ := (him k mv hmv).1
    have hib : K ib = some (.cells ims.toArray 65 (0, 0)) := h3.blk (List.mem_cons_of_mem _ (List.mem_cons_of_mem _ (List.mem_cons_self ..)))
    have hreg : ∀ y ∈ sets k, y ∈ p.regl := fun y hy => live_regl (liveB_at ((hmem k y hk).1 hy))
    refine ⟨fun _ => ?_, [.map (some rt)], rfl, ?_, ?_⟩
    · simp only [Chk.holds, evs, evb]; exact ⟨rfl, by omega, by omega⟩
    · simp only [evs, evb]; exact inB_row (n := p.blocks.length) hib hmv
    refine den_call cb_live_set_int___rising (rising_tri rt est clt (sets k) S1 K _ h3 (.inl (l1 _ _ hrt)) hst (fun y hy => regl_InI hbv0 y (hreg y hy)) (Nat.le_trans (set_len hp (hnd k) hreg) (by omega))) ?_
    rintro x K2 ⟨S2, wv, l2, rfl, hwv, h4⟩
    rw [sort_live (hnd k) fun y => hmem k y hk] at hwv
    obtain ⟨b3, c3, rfl⟩ := hwv.sl
    refine ⟨_, [.slice b3 (liveL p k 0).length c3], rfl, rfl, rfl, pendNil, ?_⟩
    refine den_hPush (more := [liveL p k 0]) (b := 24) [.slice b3 (liveL p k 0).length c3] uIntssK elemIntsK rfl (by decide) (by decide) h4 (by kernel_rfl) (.cons (csLK_mk hwv) .nil) pendNil (fun _ => by kernel_rfl) (fun _ => by kernel_rfl)
      (by simp only [maxLen, List.length_cons, List.length_nil, List.length_map, List.length_range]; omega) (by simp only [List.length_cons, List.length_nil, List.length_map, List.length_range]; omega) fun u v' S4 K4 l4 h5 => ⟨pendNil, _, lookup_hit, n - 1, by omega, k + 1, v', S4, ?_, by omega, PH.le_trans l1 (PH.le_trans l2 l4), by rw [List.range_succ, List.map_append]; exact h5⟩
    simp only [evs, evb]
    rw [w64 (by omega) (by omega)]; rfl
  · simp only [evs, evb, decide_eq_false_iff_not] at g
    have : k = p.blocks.length := by omega
    subst this
    obtain ⟨S3, s3, l3, h5⟩ := h3.freeze
    exact ⟨PH.le_trans lf (PH.le_trans l1 (PH.le_trans l3 h5.sh)), v, rfl, s3.le h5.sh⟩
set_option maxHeartbeats 1000000 in
theorem LAcross_tri (p : PrcX) (bv : Value) (block : Int) (S : PH) (hbv : SlR S p.blocks bv) (hp : p.Fit) (hE : ∀ b ∈ p.blocks, b.e.args.length ≤ 20000000) :
    Tri Try.prog n_live_Across #[.agg (prcVs p bv).toArray, .int .i64 block] S fun x S' => PH.le S S' ∧ ∃ v, x = .returned v ∧ SlR S' (acrossL p block) v := by
  have hN := hp.n
  have hbv0 := hbv
  obtain ⟨b0, c0, rfl⟩ := hbv.sl
  refine tri_live_Across (prcVs p (.slice b0 p.blocks.length c0) ++ [.int .i64 block]) (by kernel_rfl) (by kernel_rfl) ?_
  simp only [prcVs, List.cons_append, List.nil_append]
  refine ⟨fun g => ?_, fun g => ?_⟩
  · simp only [evs, evb] at g
    simp only [Bool.or_eq_true, decide_eq_true_eq] at g
    exact ⟨PH.le_refl S, _, rfl, by rw [acrossL_none (by omega)]; exact nil_slR S⟩
  simp only [evs, evb] at g
  simp only [Bool.or_eq_false_iff, decide_eq_false_iff_not] at g
  obtain ⟨i, rfl⟩ : ∃ i : Nat, block = (i : Int) := ⟨block.toNat, by omega⟩
  have hi : i < p.blocks.length := by omega
  obtain ⟨b, hb⟩ : ∃ b, p.blocks[i]? = some b := ⟨_, List.getElem?_eq_getElem hi⟩
  rw [acrossL_at hb]
  obtain ⟨q1, _, ces, q2, q3⟩ := hbv.get hb
  obtain ⟨iv, es, rfl, his, hes⟩ := blk_iff.1 q2
  obtain ⟨av, rfl, e1, e2, hea, e3, e4, e5⟩ := end_iff.1 hes
  obtain ⟨b3, c3, rfl⟩ := hea.sl
  refine ⟨fun _ => ?_, [.int .i64 b.e.kind, .int .i64 b.e.reg, .slice b3 b.e.args.length c3, .int .i64 b.e.to, .int .i64 b.e.next, .int .i64 b.e.els], rfl, ?_, ?_⟩
  · simp only [Chk.holds, evs, evb]; exact ⟨q1, by omega, by omega⟩
  · simp only [evs, evb]; exact rowAt_sub q3 1 6
  refine den_gives [.bool b.e.calls] cb_live_calls (calls_gives b.e _ S hea) rfl pendNil fun K1 l1 => ⟨fun g1 => ?_, fun g1 => ?_⟩
  · simp only [evs, evb] at g1
    simp only [Bool.or_eq_true, Bool.not_eq_true', decide_eq_true_eq] at g1
    refine ⟨l1, _, rfl, ?_⟩
    have : ¬ b.crosses p.blocks.length := by
      rintro ⟨h1, h2, h3⟩
      rw [h1] at g1
      rcases g1 with (g1 | g1) | g1
      · cases g1
      · omega
      · omega
    rw [if_neg this]
    exact nil_slR K1
  · simp only [evs, evb] at g1
    simp only [Bool.or_eq_false_iff, Bool.not_eq_false', decide_eq_false_iff_not] at g1
    obtain ⟨⟨g2, g3⟩, g4⟩ := g1
    have hc : b.crosses p.blocks.length := ⟨g2, by omega, by omega⟩
    rw [if_pos hc]
    obtain ⟨m, hm⟩ : ∃ m : Nat, b.e.next = (m : Int) := ⟨b.e.next.toNat, by omega⟩
    have hmN : m < p.blocks.length := by omega
    rw [hm, Int.toNat_natCast]
    refine den_call cb_live_solved (solved_tri p (.slice b0 p.blocks.length c0) K1 (hbv.le l1) hp hE) ?_
    rintro x K2 ⟨fb, ib, ims, sets, Sf, lf, rfl, h1, hil, him, hnd, hmem⟩
    obtain ⟨mv, hmv⟩ : ∃ mv, ims[m]? = some mv := ⟨_, List.getElem?_eq_getElem (by omega)⟩
    have hno := (him m mv hmv).2
    obtain ⟨rt, est, clt, rfl, hrt, hst⟩ := (him m mv hmv).1
    have hK1 : K1 rt = none := hno rt rfl
    have hib : K2 ib = some (.cells ims.toArray 65 (0, 0)) := h1.blk (List.mem_cons_of_mem _ (List.mem_cons_self ..))
    have hreg : ∀ y ∈ sets m, y ∈ p.regl := fun y hy => live_regl (liveB_at ((hmem m y hmN).1 hy))
    refine ⟨_, [pAt fb], rfl, rfl, rfl, pendNil, ?_⟩
    refine ⟨fun _ => rfl, ?_⟩
    refine den_bxLoad [.slice (some ⟨ib, 0, none⟩) p.blocks.length p.blocks.length] (off := 4) (by kernel_rfl) h1 (List.mem_cons_self ..) rfl rfl ?_
    refine ⟨fun _ => ?_, [.map (some rt)], rfl, ?_, ?_⟩
    · simp only [Chk.holds, evs, evb]; exact ⟨rfl, by omega, by omega⟩
    · simp only [evs, evb]; exact inB_row (n := p.blocks.length) hib hmv
    have hown : Held K1 K2 [.blk rt (.map est clt)] := ⟨PH.le_trans lf h1.sh, fun i hi => by rw [List.mem_singleton.1 hi]; exact h1.sh _ _ hrt, fun i hi g hg => by
      rw [List.mem_singleton.1 hi] at hg
      simp only [Itm.ob, Option.some.injEq] at hg
      subst hg; exact hK1, List.pairwise_singleton _ _⟩
    refine den_call cb_live_set_int___drop (setDrop_tri rt est clt (sets m) b.e.to K1 K2 hown hst) ?_
    rintro x K3 ⟨es3, cl3, rfl, h3, hs3⟩
    refine ⟨_, [], rfl, rfl, rfl, pendNil, ?_⟩
    have hreg3 : ∀ y ∈ (sets m).filter (fun y => decide (y ≠ b.e.to)), y ∈ p.regl := fun y hy => hreg y (List.mem_filter.1 hy).1
    refine den_call cb_live_set_int___rising (rising_tri rt es3 cl3 _ K1 K3 _ h3 (.inr (List.mem_cons_self ..)) hs3 (fun y hy => regl_InI (hbv0.le l1) y (hreg3 y hy)) (Nat.le_trans (set_len hp hs3.nodup hreg3) (by omega))) ?_
    rintro x K4 ⟨S4, wv, l4, rfl, hwv, h4⟩
    have heq : sortI ((sets m).filter fun y => decide (y ≠ b.e.to)) = (liveL p m 0).filter fun x => decide (x ≠ b.e.to) := by
      refine rises_eq (sortI_rises hs3.nodup) ((liveL_rises p m 0).sublist List.filter_sublist) fun x => ?_
      rw [sortI_mem, List.mem_filter, List.mem_filter, hmem m x hmN, liveL_mem, liveB_iff]
    rw [heq] at hwv
    obtain ⟨b6, c6, rfl⟩ := hwv.sl
    exact ⟨_, [_], rfl, rfl, rfl, pendNil, PH.le_trans l1 (PH.le_trans l4 h4.sh), _, rfl, hwv.le h4.sh⟩
end Go.Proofs.Ytcfgpbmcgmkmhaa.Vc
/-
  LIVE: what is live behind each instruction, by the program.
-/
namespace Go.Proofs.Ytcfgpbmcgmkmhaa.Vc
open Go

/-! ### a row turned round -/
structure RevAt {α : Type} (l m : List α) (i : Nat) : Prop where
  len : m.length = l.length
  at_ : ∀ t, t < l.length → m[t]? = if t < i ∨ l.length ≤ t + i then l[l.length - 1 - t]? else l[t]?
theorem RevAt.first {α : Type} (l : List α) : RevAt l l 0 := ⟨rfl, fun t h => by rw [if_neg (by omega)]⟩
theorem RevAt.step {α : Type} {l m : List α} {i : Nat} {a b : α} (h : RevAt l m i) (hi : 2 * i + 1 < l.length) (ha : m[i]? = some a) (hb : m[l.length - 1 - i]? = some b) : RevAt l ((m.set i b).set (l.length - 1 - i) a) (i + 1) := by
  have ha' := h.at_ i (by omega)
  have hb' := h.at_ (l.length - 1 - i) (by omega)
  rw [if_neg (by omega)] at ha' hb'
  refine ⟨by simpa using h.len, fun t ht => ?_⟩
  rw [List.getElem?_set, List.length_set, h.len, List.getElem?_set, h.len]
  by_cases e1 : l.length - 1 - i = t
  · rw [if_pos e1, if_pos (by omega), if_pos (by omega), ← ha, ha']
    congr 1; omega
  · rw [if_neg e1]
    by_cases e2 : i = t
    · rw [if_pos e2, if_pos (by omega), if_pos (by omega), ← hb, hb']
      congr 1; omega
    · rw [if_neg e2, h.at_ t ht]
      by_cases e3 : t < i ∨ l.length ≤ t + i
      · rw [if_pos e3, if_pos (by omega)]
      · rw [if_neg e3, if_neg (by omega)]
theorem RevAt.done {α : Type} {l m : List α} {i : Nat} (h : RevAt l m i) (hi : l.length ≤ 2 * i + 1) : m = l.reverse := by
  refine List.ext_getElem? fun t => ?_
  by_cases ht : t < l.length
  · rw [List.getElem?_reverse ht, h.at_ t ht]
    by_cases e : t < i ∨ l.length ≤ t + i
    · rw [if_pos e]
    · rw [if_neg e]; congr 1; omega
  · rw [List.getElem?_eq_none (by rw [h.len]; omega), List.getElem?_eq_none (by rw [List.length_reverse]; omega)]
set_option maxHeartbeats 1000000 in
theorem Reverse_tri (l : List (List Int)) (v : Value) (S K : PH) (I : List Itm) (h : Held S K (orow 40 l v :: I)) (hl : l.length ≤ 40000000) :
    Tri Try.prog n_slices_Reverse_____int___int_ #[v] K fun x K' => x = .returned (.tuple #[]) ∧ Held S K' (orow 40 l.reverse v :: I) := by
  obtain ⟨b, c, rfl⟩ := (h.row (List.mem_cons_self ..)).sl
  refine tri_slices_Reverse_____int___int_ [.slice b l.length c] (by kernel_rfl) (by kernel_rfl) ?_
  refine ⟨fun n vs K' => ∃ (i : Nat) (m : List (List Int)), vs = [nI i, .int .i64 ((l.length : Int) - 1 - i)] ∧ n = l.length - i ∧ i ≤ l.length ∧ RevAt l m i ∧ Held S K' (orow 40 m (.slice b l.length c) :: I), ⟨_, 0, l, ?_, rfl, by omega, RevAt.first l, h⟩, ?_⟩
  · simp only [evs, evb]
    rw [w64 (by omega) (by omega)]
    simp
  rintro n vs K1 _ ⟨i, m, rfl, rfl, hil, hr, h1⟩
  refine ⟨fun g => ?_, fun g => ?_⟩
  · simp only [evs, evb, decide_eq_true_eq] at g
    have hi2 : 2 * i + 1 < l.length := by omega
    obtain ⟨k, hk⟩ : ∃ k : Nat, (l.length : Int) - 1 - i = (k : Int) := ⟨l.length - 1 - i, by omega⟩
    have hk' : k = l.length - 1 - i := by omega
    rw [hk]
    obtain ⟨a, ha⟩ : ∃ a, m[i]? = some a := ⟨_, List.getElem?_eq_getElem (by rw [hr.len]; omega)⟩
    obtain ⟨z, hz⟩ : ∃ z, m[k]? = some z := ⟨_, List.getElem?_eq_getElem (by rw [hr.len]; omega)⟩
    obtain ⟨a1, _, acs, a2, a3⟩ := (h1.row (List.mem_cons_self ..)).get ha
    obtain ⟨z1, _, zcs, z2, z3⟩ := (h1.row (List.mem_cons_self ..)).get hz
    obtain ⟨av, rfl, a4⟩ := csLK a2
    obtain ⟨zv, rfl, z4⟩ := csLK z2
    have a4' := a4
    have z4' := z4
    obtain ⟨ab, ac, rfl⟩ := a4'.sl
    obtain ⟨zb, zc, rfl⟩ := z4'.sl
    refine ⟨fun _ => ?_, [.slice zb z.length zc], rfl, ?_, fun _ => ?_, [.slice ab a.length ac], rfl, ?_, ?_⟩
    · simp only [Chk.holds, evs, evb]; exact ⟨z1, by omega, by omega⟩
    · simp only [evs, evb]; exact z3
    · simp only [Chk.holds, evs, evb]; exact ⟨a1, by omega, by omega⟩
    · simp only [evs, evb]; exact a3
    refine den_hPutZ (i := i) (a := a) (a' := z) (us := [.slice zb z.length zc]) ?_ h1 ha rfl ?_ (by simp [oneC]) (csLK_mk z4) fun K2 h2 => ?_
    · simp only [evs, evb]; rfl
    · simp only [evs, evb]
    have hz' : (m.set i z)[k]? = some z := by
      rw [List.getElem?_set, if_neg (by omega)]; exact hz
    refine den_hPutZ (i := k) (a := z) (a' := a) (us := [.slice ab a.length ac]) ?_ h2 hz' rfl ?_ (by simp [oneC]) (csLK_mk a4) fun K3 h3 => ?_
    · simp only [evs, evb]; rfl
    · simp only [evs, evb]
    refine ⟨_, lookup_hit, l.length - (i + 1), by omega, i + 1, (m.set i z).set k a, ?_, rfl, by omega, ?_, h3⟩
    · simp only [evs, evb]
      rw [w64 (by omega) (by omega), w64 (by omega) (by omega)]
      congr 2
      congr 1
      omega
    · subst hk'; exact hr.step hi2 ha hz
  · simp only [evs, evb, decide_eq_false_iff_not] at g
    have := hr.done (by omega)
    subst this
    exact ⟨rfl, h1⟩

/-! ### behind -/
/-- what stands in the row after so many rounds -/
noncomputable def backL (p : PrcX) (i n j : Nat) : List (List Int) := (List.range j).map fun t => liveL p i (n - t)
theorem backL_all (p : PrcX) (i : Nat) (b : BlkX) : (backL p i b.ins.length b.ins.length).reverse = behL p i b := by
  unfold backL behL
  refine List.ext_getElem? fun t => ?_
  by_cases ht : t < b.ins.length
  · rw [List.getElem?_reverse (by simpa using ht), List.length_map, List.length_range, List.getElem?_map, List.getElem?_map, List.getElem?_range (by omega), List.getElem?_range ht]
    simp only [Option.map_some]
    congr 2; omega
  · rw [List.getElem?_eq_none (by simp; omega), List.getElem?_eq_none (by simp; omega)]
theorem outS_live {p : PrcX} {sets : Nat → List Int} (hmem : ∀ c y, c < p.blocks.length → (y ∈ sets c ↔ LiveB p y c)) (b : BlkX) (y : Int) : outS p sets b y ↔ endLive b.e p.blocks.length y (LiveB p y) := by
  unfold outS endLive
  constructor
  · rintro (h | ⟨h1, c, h2, h3⟩)
    · exact .inl h
    · have hc : c < p.blocks.length := by have := (List.mem_filter.1 h2).2; simp at this; omega
      exact .inr ⟨h1, c, h2, (hmem c y hc).1 h3⟩
  · rintro (h | ⟨h1, c, h2, h3⟩)
    · exact .inl h
    · have hc : c < p.blocks.length := by have := (List.mem_filter.1 h2).2; simp at this; omega
      exact .inr ⟨h1, c, h2, (hmem c y hc).2 h3⟩
theorem thru_live {p : PrcX} {sets : Nat → List Int} (hmem : ∀ c y, c < p.blocks.length → (y ∈ sets c ↔ LiveB p y c)) {i : Nat} {b : BlkX} (hb : p.blocks[i]? = some b) (k : Nat) (y : Int) : thru y (b.ins.drop k) (outS p sets b y) ↔ LiveAt p y i k := by
  constructor
  · exact fun h => ⟨b, hb, thru_mono (outS_live hmem b y).1 h⟩
  · rintro ⟨b', hb', h⟩
    rw [hb] at hb'; cases hb'
    exact thru_mono (outS_live hmem b y).2 h
set_option maxHeartbeats 4000000 in
theorem LBehind_tri (p : PrcX) (bv : Value) (block : Int) (S : PH) (hbv : SlR S p.blocks bv) (hp : p.Fit) (hE : ∀ b ∈ p.blocks, b.e.args.length ≤ 20000000) :
    Tri Try.prog n_live_Behind #[.agg (prcVs p bv).toArray, .int .i64 block] S fun x S' => PH.le S S' ∧ ∃ v, x = .returned v ∧ SlR S' (behindL p block) v := by
  have hN := hp.n
  have hbv0 := hbv
  obtain ⟨b0, c0, rfl⟩ := hbv.sl
  refine tri_live_Behind (prcVs p (.slice b0 p.blocks.length c0) ++ [.int .i64 block]) (by kernel_rfl) (by kernel_rfl) ?_
  simp only [prcVs, List.cons_append, List.nil_append]
  refine ⟨fun g => ?_, fun g => ?_⟩
  · simp only [evs, evb] at g
    simp only [Bool.or_eq_true, decide_eq_true_eq] at g
    refine ⟨PH.le_refl S, _, rfl, ?_⟩
    have : behindL p block = [] := by
      unfold behindL
      by_cases h0 : block < 0
      · rw [if_pos h0]
      · rw [if_neg h0, List.getElem?_eq_none (by omega)]
    rw [this]
    exact nil_slR S
  simp only [evs, evb] at g
  simp only [Bool.or_eq_false_iff, decide_eq_false_iff_not] at g
  obtain ⟨i, rfl⟩ : ∃ i : Nat, block = (i : Int) := ⟨block.toNat, by omega⟩
  have hi : i < p.blocks.length := by omega
  obtain ⟨b, hb⟩ : ∃ b, p.blocks[i]? = some b := ⟨_, List.getElem?_eq_getElem hi⟩
  have hbe : behindL p (i : Int) = behL p i b := by
    unfold behindL
    rw [if_neg (by omega), Int.toNat_natCast, hb]
  rw [hbe]
  have hbl := hp.ins b (List.mem_of_getElem? hb)
  refine den_call cb_live_solved (solved_tri p (.slice b0 p.blocks.length c0) S hbv hp hE) ?_
  rintro x K1 ⟨fb, ib, ims, sets, Sf, lf, rfl, h1, hil, him, hnd, hmem⟩
  refine ⟨_, [pAt fb], rfl, rfl, rfl, pendNil, ?_⟩
  refine den_call cb_live_flow__out (out_tri p _ fb ib ims sets i b Sf K1 (hbv.le lf) hb hN (Nat.le_trans (hE b (List.mem_of_getElem? hb)) (by omega)) hil (fun c v h => (him c v h).1) h1) ?_
  rintro x K2 ⟨S2, ro, es2, cl2, s2, l2, rfl, h2, hs2, hm2⟩
  refine ⟨_, [.map (some ro)], rfl, rfl, rfl, pendNil, ?_⟩
  refine den_bxNew (vs := [.map none]) h2 (by kernel_rfl) fun sb K3 _ h3 => ?_
  refine den_bxStore (off := 0) (vs := [.map (some ro)]) (by kernel_rfl) h3 (by kernel_rfl) (by simp [oneC]) (by simp) fun K4 h4 => ?_
  have h4 : Held S2 K4 [bx sb 65 [.map (some ro)], .blk ro (.map es2 cl2), flowB fb p (.slice b0 p.blocks.length c0) (.slice (some ⟨ib, 0, none⟩) p.blocks.length p.blocks.length), inB ib ims] := h4
  refine den_bxNew (vs := [.slice none 0 0]) (h4.sub (J := [bx sb 65 [.map (some ro)], .blk ro (.map es2 cl2)]) ((List.sublist_append_left [bx sb 65 [.map (some ro)], .blk ro (.map es2 cl2)] _))) (by kernel_rfl) fun ob K5 _ h5 => ?_
  have h5 := h5.empty (α := List Int) 40
  obtain ⟨q1, _, ces, q2, q3⟩ := (hbv.le (PH.le_trans lf l2)).get hb
  obtain ⟨iv, esv, rfl, his, hes⟩ := blk_iff.1 q2
  obtain ⟨b2, c2, rfl⟩ := his.sl
  refine ⟨fun _ => ?_, [.slice b2 b.ins.length c2], rfl, ?_, ?_⟩
  · simp only [Chk.holds, evs, evb]; exact ⟨q1, by omega, by omega⟩
  · simp only [evs, evb]; exact rowAt_sub (rowAt_le h5.sh q3) 0 1
  refine den_call cb_slices_Backward___api_Ins_api_Ins_ (h5.pure (R := fun x S' => ∃ q : Nat, x = .returned (.func (.func 46) #[] #[.pointer (some ⟨q, 0, none⟩)]) ∧ rowAt S' (some ⟨q, 0, none⟩) [.slice b2 b.ins.length c2]) ((Backward_tri b.ins _ S2 his).mono fun x S' ⟨q, t1, t2, t3⟩ => ⟨t1, q, t2, t3⟩)) ?_
  rintro x K9 ⟨S9, l9, h9, q, rfl, hq⟩
  refine ⟨_, [.func (.func 46) #[] #[.pointer (some ⟨q, 0, none⟩)]], rfl, rfl, rfl, pendNil, ?_⟩
  obtain ⟨cells, hcells⟩ := (his.le l9).fn
  have hc8 : ∀ j', j' < b.ins.length → (cells (b.ins.length - 1 - j')).length = 8 := fun j' hj' => by
    obtain ⟨y, hy⟩ : ∃ y, b.ins[b.ins.length - 1 - j']? = some y := ⟨_, List.getElem?_eq_getElem (by omega)⟩
    have := (hcells _ y hy).1
    exact PV.RepRow.length this
  refine ⟨S9, b.ins.length, fun j' => nI (b.ins.length - 1 - j') :: cells (b.ins.length - 1 - j'), fun j' H' => ∃ (es : Array MapEntry) (cl : Nat) (s : List Int) (v : Value) (S' : PH), PH.le S9 S' ∧ Held S' H' [orow 40 (backL p i b.ins.length j') v, bx ob 37 [v], bx sb 65 [.map (some ro)], .blk ro (.map es cl)] ∧ SetAt es cl s ∧ ∀ y, y ∈ s ↔ thru y (b.ins.drop (b.ins.length - j')) (outS p sets b y), h9.sh, ?_, ?_, ?_, ?_, ?_⟩
  · refine Iter.congr (fun j' hj' => ?_) (backward_iter b.ins S9 _ _ hq (his.le l9) (by omega) cells hcells)
    have := hc8 j' hj'
    simp [packAll, RS.pack, RS.tags, List.take_of_length_le, this]
  · rintro j' H' ⟨es, cl, s, v, S', l', hh, _⟩; exact PH.le_trans l' hh.sh
  · exact ⟨es2, cl2, s2, .slice none 0 0, S9, PH.le_refl _, by simpa [backL] using h9, hs2, fun y => by rw [Nat.sub_zero, List.drop_length]; exact hm2 y⟩
  · rintro j' H' hj' ⟨es, cl, s, v, S', l', hh, hs, hm⟩
    obtain ⟨y, hy⟩ : ∃ y, b.ins[b.ins.length - 1 - j']? = some y := ⟨_, List.getElem?_eq_getElem (by omega)⟩
    obtain ⟨hyc, _⟩ := hcells _ y hy
    have hyc' := hyc
    obtain ⟨av, dv, hcell, _, _, hya, _, _, _, hyd, _⟩ := ins_iff.1 hyc
    obtain ⟨ab, ac, rfl⟩ := hya.sl
    obtain ⟨db, dc, rfl⟩ := hyd.sl
    simp only [hcell]
    rw [hcell] at hyc'
    obtain ⟨vb, vc, rfl⟩ := (hh.row (List.mem_cons_self ..)).sl
    have hml : ∀ z, z ∈ s ↔ LiveAt p z i (b.ins.length - j') := fun z => by rw [hm, thru_live hmem hb]
    have hreg : ∀ z ∈ s, z ∈ p.regl := fun z hz => live_regl ((hml z).1 hz)
    have hbk : (backL p i b.ins.length j').length = j' := by simp [backL]
    refine ⟨rfl, ?_⟩
    refine den_bxLoad [.slice vb (backL p i b.ins.length j').length vc] (off := 0) (by kernel_rfl) hh (List.mem_cons_of_mem _ (List.mem_cons_self ..)) rfl rfl ?_
    refine den_bxLoad [.map (some ro)] (off := 0) (by kernel_rfl) hh (List.mem_cons_of_mem _ (List.mem_cons_of_mem _ (List.mem_cons_self ..))) rfl rfl ?_
    refine den_call cb_live_set_int___rising (rising_tri ro es cl s S' H' _ hh (.inr (by simp)) hs (fun z hz => regl_InI hbv0 z (hreg z hz)) (Nat.le_trans (set_len hp hs.nodup hreg) (by omega))) ?_
    rintro x K10 ⟨S10, wv, l10, rfl, hwv, h10⟩
    rw [sort_liveAt hs.nodup hml] at hwv
    obtain ⟨b3, c3, rfl⟩ := hwv.sl
    refine ⟨_, [.slice b3 (liveL p i (b.ins.length - j')).length c3], rfl, rfl, rfl, ?_, ?_⟩
    · intro x hx
      rw [List.mem_singleton.1 hx]
      exact bx_row h10 (List.mem_cons_of_mem _ (List.mem_cons_self ..)) 0 1
    have hst : backL p i b.ins.length (j' + 1) = backL p i b.ins.length j' ++ [liveL p i (b.ins.length - j')] := by unfold backL; rw [List.range_succ, List.map_append]; rfl
    refine den_hPush (more := [liveL p i (b.ins.length - j')]) (b := 24) [.slice b3 (liveL p i (b.ins.length - j')).length c3] uIntssK elemIntsK rfl (by decide) (by decide) h10 (by kernel_rfl) (.cons (csLK_mk hwv) .nil) ?_ (fun _ => by kernel_rfl) (fun _ => by kernel_rfl)
      (by rw [hbk]; simp only [maxLen, List.length_cons, List.length_nil]; omega) (by rw [hbk]; simp only [List.length_cons, List.length_nil]; omega) fun u v' S11 K11 l11 h11 => ⟨pendNil, ?_⟩
    · intro x hx
      rw [List.mem_singleton.1 hx]
      exact bx_row h10 (List.mem_cons_of_mem _ (List.mem_cons_self ..)) 0 1
    rw [← hst] at h11
    obtain ⟨vb', vc', rfl⟩ := (h11.row (List.mem_cons_self ..)).sl
    refine den_bxStore (off := 0) (vs := [.slice vb' (backL p i b.ins.length (j' + 1)).length vc']) (by kernel_rfl) (h11.perm (List.Perm.swap _ _ _)) (by kernel_rfl) (by simp [oneC]) (by simp) fun K12 h12 => ?_
    have h12 : Held S11 K12 [bx ob 37 [.slice vb' (backL p i b.ins.length (j' + 1)).length vc'], orow 40 (backL p i b.ins.length (j' + 1)) (.slice vb' (backL p i b.ins.length (j' + 1)).length vc'), bx sb 65 [.map (some ro)], .blk ro (.map es cl)] := h12
    refine den_bxLoad [.map (some ro)] (off := 0) (by kernel_rfl) h12 (List.mem_cons_of_mem _ (List.mem_cons_of_mem _ (List.mem_cons_self ..))) rfl rfl ?_
    have hperm : [bx ob 37 [.slice vb' (backL p i b.ins.length (j' + 1)).length vc'], orow 40 (backL p i b.ins.length (j' + 1)) (.slice vb' (backL p i b.ins.length (j' + 1)).length vc'), bx sb 65 [.map (some ro)], .blk ro (.map es cl)].Perm ([.blk ro (.map es cl)] ++ [orow 40 (backL p i b.ins.length (j' + 1)) (.slice vb' (backL p i b.ins.length (j' + 1)).length vc'), bx ob 37 [.slice vb' (backL p i b.ins.length (j' + 1)).length vc'], bx sb 65 [.map (some ro)]]) := by
      refine (List.Perm.swap _ _ _).trans ?_
      exact (List.perm_append_comm (l₁ := [orow 40 (backL p i b.ins.length (j' + 1)) (.slice vb' (backL p i b.ins.length (j' + 1)).length vc'), bx ob 37 [.slice vb' (backL p i b.ins.length (j' + 1)).length vc'], bx sb 65 [.map (some ro)]]) (l₂ := [.blk ro (.map es cl)]))
    have lS : PH.le S' S11 := PH.le_trans l10 l11
    refine den_call cb_live_through (Held.call (P := Try.prog) (f := n_live_through) (args := #[.map (some ro), .agg (List.toArray _)]) (J := [.blk ro (.map es cl)]) (I := [orow 40 (backL p i b.ins.length (j' + 1)) (.slice vb' (backL p i b.ins.length (j' + 1)).length vc'), bx ob 37 [.slice vb' (backL p i b.ins.length (j' + 1)).length vc'], bx sb 65 [.map (some ro)]])
      (R := fun e S'' J' => S'' = S11 ∧ ∃ es' cl' s', e = .returned (.tuple #[]) ∧ J' = [.blk ro (.map es' cl')] ∧ SetAt es' cl' s' ∧ ∀ z, z ∈ s' ↔ (z ∈ y.args ∨ (¬ y.fills z ∧ z ∈ s))) (h12.perm hperm)
      (fun K' hK => (through_tri ro es cl s y _ S11 K' (PV.RepRow.le (PH.le_trans l' lS) hyc') hK hs).mono fun e K'' ⟨es', cl', s', t1, t2, t3, t4⟩ => ⟨S11, _, PH.le_refl _, t2, rfl, es', cl', s', t1, rfl, t3, t4⟩)) ?_
    rintro e K'' ⟨S'', J', _, hh', rfl, es', cl', s', rfl, rfl, hs', hm'⟩
    refine ⟨_, [], rfl, rfl, rfl, pendNil, _, lookup_hit, es', cl', s', .slice vb' (backL p i b.ins.length (j' + 1)).length vc', S'', PH.le_trans l' lS, hh'.perm ?_, hs', fun z => ?_⟩
    · exact List.perm_append_comm (l₁ := [.blk ro (.map es' cl')]) (l₂ := [orow 40 (backL p i b.ins.length (j' + 1)) (.slice vb' (backL p i b.ins.length (j' + 1)).length vc'), bx ob 37 [.slice vb' (backL p i b.ins.length (j' + 1)).length vc'], bx sb 65 [.map (some ro)]])
    · rw [hm', hm, thru_step hj' hy]
  · rintro H' ⟨es, cl, s, v, S', l', hh, hs, hm⟩
    obtain ⟨vb, vc, rfl⟩ := (hh.row (List.mem_cons_self ..)).sl
    have hbk : (backL p i b.ins.length b.ins.length).length = b.ins.length := by simp [backL]
    refine den_bxLoad [.slice vb (backL p i b.ins.length b.ins.length).length vc] (off := 0) (by kernel_rfl) hh (List.mem_cons_of_mem _ (List.mem_cons_self ..)) rfl rfl ?_
    refine den_call cb_slices_Reverse_____int___int_ (Reverse_tri _ _ S' H' _ hh (by rw [hbk]; omega)) ?_
    rintro x K13 ⟨rfl, h13⟩
    refine ⟨_, [], rfl, rfl, rfl, pendNil, ?_⟩
    refine den_bxLoad [.slice vb (backL p i b.ins.length b.ins.length).length vc] (off := 0) (by kernel_rfl) h13 (List.mem_cons_of_mem _ (List.mem_cons_self ..)) rfl rfl ?_
    rw [backL_all] at h13
    obtain ⟨S14, s14, l14, h14⟩ := h13.freeze
    exact ⟨PH.le_trans lf (PH.le_trans l2 (PH.le_trans l9 (PH.le_trans l' (PH.le_trans l14 h14.sh)))), _, rfl, s14.le h14.sh⟩
end Go.Proofs.Ytcfgpbmcgmkmhaa.Vc
/-
  LIVE: functions that come in; the fixed calls; LivingTells, LivingBehind.
-/
namespace Go.Proofs.Ytcfgpbmcgmkmhaa.Vc
open Go Go.ChangeShapes Go.WideShapes Go.ChangeAt Go.RowKit

/-! ### what comes in -/
noncomputable def insFields : Array Field := match Try.prog.underlying 43 with
  | some (.struct fs) => fs
  | _ => #[]
theorem uInsS : Try.prog.underlying 43 = some (.struct insFields) := by kernel_rfl
theorem insF : insFields.toList.map (fun f => (f.type, f.offset)) = [(9, 0), (3, 1), (40, 2), (28, 3), (3, 7)] := by kernel_rfl
theorem cInsC : Try.prog.cellsOf 43 = 8 := by kernel_rfl
noncomputable def endFields : Array Field := match Try.prog.underlying 45 with
  | some (.struct fs) => fs
  | _ => #[]
theorem uEndS : Try.prog.underlying 45 = some (.struct endFields) := by kernel_rfl
theorem endF : endFields.toList.map (fun f => (f.type, f.offset)) = [(3, 0), (3, 1), (40, 2), (3, 3), (3, 4), (3, 5)] := by kernel_rfl
theorem cEndC : Try.prog.cellsOf 45 = 6 := by kernel_rfl
noncomputable def blkFields : Array Field := match Try.prog.underlying 47 with
  | some (.struct fs) => fs
  | _ => #[]
theorem uBlkS : Try.prog.underlying 47 = some (.struct blkFields) := by kernel_rfl
theorem blkF : blkFields.toList.map (fun f => (f.type, f.offset)) = [(41, 0), (45, 1)] := by kernel_rfl
theorem cBlkC : Try.prog.cellsOf 47 = 7 := by kernel_rfl
noncomputable def prcFields : Array Field := match Try.prog.underlying 36 with
  | some (.struct fs) => fs
  | _ => #[]
theorem uPrcS : Try.prog.underlying 36 = some (.struct prcFields) := by kernel_rfl
theorem prcF : prcFields.toList.map (fun f => (f.type, f.offset)) = [(3, 0), (3, 1), (3, 2), (34, 3)] := by kernel_rfl
theorem cPrcC : Try.prog.cellsOf 36 = 4 := by kernel_rfl
theorem cIntsC : Try.prog.cellsOf 40 = 1 := by kernel_rfl
theorem cInssC : Try.prog.cellsOf 41 = 1 := by kernel_rfl
theorem cBlksC : Try.prog.cellsOf 34 = 1 := by kernel_rfl
theorem opens_ins {H : Type} {enc : TypeId × Value → H} {w : World} (fuel : Nat) : Opens (α := InsX) enc Try.prog w InsX.wt 43 fuel := by
  intro cs d ps h
  obtain ⟨xs, n, rfl, rfl, hc, hl, hi⟩ := trod_fields uInsS insF h
  rw [cInsC] at hc
  match xs, hl with
  | [x0, x1, x2, x3, x4], _ =>
  match cs, hc with
  | [c0, c1, c2, c3, c4, c5, c6, c7], _ =>
  have t0 := hi 0 9 0 x0 rfl rfl
  have t1 := hi 1 3 1 x1 rfl rfl
  have t2 := hi 2 40 2 x2 rfl rfl
  have t3 := hi 3 28 3 x3 rfl rfl
  have t4 := hi 4 3 7 x4 rfl rfl
  rw [cStr] at t0
  rw [cInt] at t1 t4
  rw [cIntsC] at t2
  rw [cDat] at t3
  obtain ⟨s, hs, hsw⟩ := opens_txt uString n _ _ _ t0
  obtain ⟨k, hk, hkw⟩ := opens_int uInt n _ _ _ t1
  obtain ⟨l, v, hlv, hls, hlw⟩ := opens_slice (α := Int) (wt := fun _ => 1) uIntsK cInt (fun j hj => opens_int uInt j) t2
  obtain ⟨dd, hd, hdw⟩ := opens_dat n _ _ _ t3
  obtain ⟨m, hm, hmw⟩ := opens_int uInt n _ _ _ t4
  have hv : c2 = v := by simpa using hlv
  subst hv
  obtain ⟨rfl, hs1⟩ := csTxt hs
  obtain ⟨rfl, hk1⟩ := csInt hk
  obtain ⟨rfl, hm1⟩ := csInt hm
  obtain ⟨dv, hdv, hd1, hd2, hd3, hd4⟩ := Dat.Rep_iff.1 hd
  simp only [List.take_succ_cons, List.take_zero, List.drop_succ_cons, List.drop_zero, List.cons.injEq, and_true] at hdv
  obtain ⟨rfl, rfl, rfl, rfl⟩ := hdv
  refine ⟨⟨s, k, l, dd, m⟩, ins_iff.2 ⟨_, _, rfl, hs1, hk1, hls, hd1, hd2, hd3, hd4, hm1⟩, ?_⟩
  simp only at hkw hmw hsw hdw
  simp only [InsX.wt, intsWt, Rows.uptoBulk, Rows.uptoBulkAll, List.map_cons, List.map_nil]
  omega
theorem opens_end {H : Type} {enc : TypeId × Value → H} {w : World} (fuel : Nat) : Opens (α := EndX) enc Try.prog w EndX.wt 45 fuel := by
  intro cs d ps h
  obtain ⟨xs, n, rfl, rfl, hc, hl, hi⟩ := trod_fields uEndS endF h
  rw [cEndC] at hc
  match xs, hl with
  | [x0, x1, x2, x3, x4, x5], _ =>
  match cs, hc with
  | [c0, c1, c2, c3, c4, c5], _ =>
  have t0 := hi 0 3 0 x0 rfl rfl
  have t1 := hi 1 3 1 x1 rfl rfl
  have t2 := hi 2 40 2 x2 rfl rfl
  have t3 := hi 3 3 3 x3 rfl rfl
  have t4 := hi 4 3 4 x4 rfl rfl
  have t5 := hi 5 3 5 x5 rfl rfl
  rw [cInt] at t0 t1 t3 t4 t5
  rw [cIntsC] at t2
  obtain ⟨k0, hk0, w0⟩ := opens_int uInt n _ _ _ t0
  obtain ⟨k1, hk1, w1⟩ := opens_int uInt n _ _ _ t1
  obtain ⟨l, v, hlv, hls, hlw⟩ := opens_slice (α := Int) (wt := fun _ => 1) uIntsK cInt (fun j hj => opens_int uInt j) t2
  obtain ⟨k3, hk3, w3⟩ := opens_int uInt n _ _ _ t3
  obtain ⟨k4, hk4, w4⟩ := opens_int uInt n _ _ _ t4
  obtain ⟨k5, hk5, w5⟩ := opens_int uInt n _ _ _ t5
  have hv : c2 = v := by simpa using hlv
  subst hv
  obtain ⟨rfl, h0⟩ := csInt hk0
  obtain ⟨rfl, h1⟩ := csInt hk1
  obtain ⟨rfl, h3⟩ := csInt hk3
  obtain ⟨rfl, h4⟩ := csInt hk4
  obtain ⟨rfl, h5⟩ := csInt hk5
  refine ⟨⟨k0, k1, l, k3, k4, k5⟩, end_iff.2 ⟨_, rfl, h0, h1, hls, h3, h4, h5⟩, ?_⟩
  simp only at w0 w1 w3 w4 w5
  simp only [EndX.wt, intsWt, Rows.uptoBulk, Rows.uptoBulkAll, List.map_cons, List.map_nil]
  omega
theorem opens_blk {H : Type} {enc : TypeId × Value → H} {w : World} (fuel : Nat) : Opens (α := BlkX) enc Try.prog w BlkX.wt 47 fuel := by
  intro cs d ps h
  obtain ⟨xs, n, rfl, rfl, hc, hl, hi⟩ := trod_fields uBlkS blkF h
  rw [cBlkC] at hc
  match xs, hl with
  | [x0, x1], _ =>
  match cs, hc with
  | [c0, c1, c2, c3, c4, c5, c6], _ =>
  have t0 := hi 0 41 0 x0 rfl rfl
  have t1 := hi 1 45 1 x1 rfl rfl
  rw [cInssC] at t0
  rw [cEndC] at t1
  obtain ⟨l, v, hlv, hls, hlw⟩ := opens_slice (α := InsX) (wt := InsX.wt) uInssK cInsC (fun j hj => opens_ins j) t0
  obtain ⟨e, he, hew⟩ := opens_end n _ _ _ t1
  have hv : c0 = v := by simpa using hlv
  subst hv
  refine ⟨⟨l, e⟩, blk_iff.2 ⟨_, _, rfl, hls, he⟩, ?_⟩
  simp only [BlkX.wt, Rows.uptoBulk, Rows.uptoBulkAll, List.map_cons, List.map_nil]
  omega
theorem opens_prc {H : Type} {enc : TypeId × Value → H} {w : World} (fuel : Nat) : Opens (α := PrcX) enc Try.prog w PrcX.wt 36 fuel := by
  intro cs d ps h
  obtain ⟨xs, n, rfl, rfl, hc, hl, hi⟩ := trod_fields uPrcS prcF h
  rw [cPrcC] at hc
  match xs, hl with
  | [x0, x1, x2, x3], _ =>
  match cs, hc with
  | [c0, c1, c2, c3], _ =>
  have t0 := hi 0 3 0 x0 rfl rfl
  have t1 := hi 1 3 1 x1 rfl rfl
  have t2 := hi 2 3 2 x2 rfl rfl
  have t3 := hi 3 34 3 x3 rfl rfl
  rw [cInt] at t0 t1 t2
  rw [cBlksC] at t3
  obtain ⟨k0, hk0, w0⟩ := opens_int uInt n _ _ _ t0
  obtain ⟨k1, hk1, w1⟩ := opens_int uInt n _ _ _ t1
  obtain ⟨k2, hk2, w2⟩ := opens_int uInt n _ _ _ t2
  obtain ⟨l, v, hlv, hls, hlw⟩ := opens_slice (α := BlkX) (wt := BlkX.wt) uBlksK cBlkC (fun j hj => opens_blk j) t3
  have hv : c3 = v := by simpa using hlv
  subst hv
  obtain ⟨rfl, h0⟩ := csInt hk0
  obtain ⟨rfl, h1⟩ := csInt hk1
  obtain ⟨rfl, h2⟩ := csInt hk2
  refine ⟨⟨k0, k1, k2, l⟩, prc_iff.2 ⟨_, rfl, h0, h1, h2, hls⟩, ?_⟩
  simp only at w0 w1 w2
  simp only [PrcX.wt, Rows.uptoBulk, Rows.uptoBulkAll, List.map_cons, List.map_nil]
  omega
/-! ### sizes -/
/-! ### the fixed calls -/
def fxDt : Dat := .mk 0 0 [] []
def fxI1 : InsX := ⟨[99, 111, 110, 115, 116], 1, [], fxDt, 0⟩
def fxI2 : InsX := ⟨[43], 2, [0, 1], fxDt, 0⟩
def fxB0 : BlkX := ⟨[fxI1, fxI2], ⟨4, 2, [], 3, 1, 0⟩⟩
def fxB1 : BlkX := ⟨[], ⟨2, 0, [], 0, 0, 0⟩⟩
def fxPr : PrcX := ⟨0, 0, 4, [fxB0, fxB1]⟩
theorem fxPr_fit : fxPr.Fit ∧ ∀ b ∈ fxPr.blocks, b.e.args.length ≤ 20000000 := by
  refine ⟨⟨by decide, ?_, by decide⟩, ?_⟩ <;> simp [fxPr, fxB0, fxB1]
theorem fx_one (x : Int) : LiveB fxPr x 1 ↔ x = 0 := by
  rw [liveB_iff]
  unfold LiveAt blkLive
  simp [fxPr, fxB1, thru, endLive, EndX.reads, EndX.leads, EndX.ways]
  exact ⟨fun h => h.symm, fun h => h.symm⟩
theorem fx_at (x : Int) (k : Nat) : LiveAt fxPr x 0 k ↔ thru x (fxB0.ins.drop k) (x = 2 ∨ (x ≠ 3 ∧ x = 0)) := by
  have h1 : endLive fxB0.e 2 x (LiveB fxPr x) ↔ (x = 2 ∨ (x ≠ 3 ∧ x = 0)) := by
    unfold endLive
    simp [fxB0, EndX.reads, EndX.calls, EndX.leads, EndX.ways]
    rw [show (∃ b : Nat, (b : Int) = 1 ∧ LiveB fxPr x b) ↔ LiveB fxPr x 1 from ⟨fun ⟨b, hb, h⟩ => by (have : b = 1 := by omega); rw [this] at h; exact h, fun h => ⟨1, rfl, h⟩⟩, fx_one]
    constructor
    · rintro (h | ⟨h1, h2⟩)
      · exact .inl (of_decide_eq_true h).symm
      · exact .inr ⟨fun e => h1 e.symm, h2⟩
    · rintro (h | ⟨h1, h2⟩)
      · exact .inl (decide_eq_true h.symm)
      · exact .inr ⟨fun e => h1 e.symm, h2⟩
  constructor
  · rintro ⟨b, hb, h⟩
    have : b = fxB0 := by simp [fxPr] at hb; exact hb.symm
    subst this
    exact thru_mono h1.1 h
  · intro h
    exact ⟨fxB0, rfl, thru_mono h1.2 h⟩
theorem fx_list {p : PrcX} {i a : Nat} {l : List Int} (hl : l.Pairwise (· < ·)) (h : ∀ x, LiveAt p x i a ↔ x ∈ l) : liveL p i a = l :=
  rises_eq (liveL_rises p i a) hl fun x => by rw [liveL_mem, h]
theorem fx00 : liveL fxPr 0 0 = [0] := fx_list (by decide) fun x => by
  rw [fx_at]; simp [fxB0, fxI1, fxI2, thru, InsX.fills, tieB]; omega
theorem fx01 : liveL fxPr 0 1 = [0, 1] := fx_list (by decide) fun x => by
  rw [fx_at]; simp [fxB0, fxI1, fxI2, thru, InsX.fills, tieB]; omega
theorem fx02 : liveL fxPr 0 2 = [0, 2] := fx_list (by decide) fun x => by
  rw [fx_at]; simp [fxB0, fxI1, fxI2, thru, InsX.fills, tieB]; omega
theorem fx10 : liveL fxPr 1 0 = [0] := fx_list (by decide) fun x => by
  rw [← liveB_iff, fx_one]; simp
theorem fx_in : inL fxPr = [[0], [0]] := by
  show [liveL fxPr 0 0, liveL fxPr 1 0] = _
  rw [fx00, fx10]
theorem fx_beh : behindL fxPr 0 = [[0, 1], [0, 2]] := by
  show [liveL fxPr 0 1, liveL fxPr 0 2] = _
  rw [fx01, fx02]
theorem fx_acr : acrossL fxPr 0 = [0] := by
  have h : acrossL fxPr ((0 : Nat) : Int) = _ := acrossL_at (p := fxPr) (i := 0) (b := fxB0) rfl
  have h' : acrossL fxPr 0 = if fxB0.crosses fxPr.blocks.length then (liveL fxPr fxB0.e.next.toNat 0).filter (fun x => decide (x ≠ fxB0.e.to)) else [] := h
  rw [h', if_pos (by decide), show fxB0.e.next.toNat = 1 from rfl, fx10]
  decide
theorem ck_agsc {P : Program} {S0 : PH} {f : FuncId} {row out : List PV} {p : PV} {sh : Sh} (hcb : callB P f = true) (h : ∀ (S : PH) (cs : List Value) (v : Value), PH.le S0 S → PV.RepRow S row cs → p.Rep S v → Tri P f #[.agg cs.toArray, v] S fun e S' => ∃ us, e = .returned (sh.pack us) ∧ PV.RepRow S' out us ∧ PH.le S S') : CK.Ok P S0 ⟨f, [(true, row), (false, [p])], sh, out⟩ := by
  refine ⟨hcb, fun S vs hS hv => ?_⟩
  cases hv with
  | cons h1 h2 =>
    cases h2 with
    | cons h3 h4 =>
      cases h4
      obtain ⟨cs, h5, h6⟩ := h1
      obtain ⟨cs2, h7, h8⟩ := h3
      simp only [if_true] at h6
      simp only [Bool.false_eq_true, if_false] at h8
      subst h6 h8
      simp only [PV.RepRow] at h7
      obtain ⟨v, vs, h9, h10, rfl⟩ := h7
      cases h9
      exact h S cs _ hS h5 h10
theorem ck_sc2 {P : Program} {S0 : PH} {f : FuncId} {out : List PV} {p q : PV} {sh : Sh} (hcb : callB P f = true) (h : ∀ (S : PH) (u v : Value), PH.le S0 S → p.Rep S u → q.Rep S v → Tri P f #[u, v] S fun e S' => ∃ us, e = .returned (sh.pack us) ∧ PV.RepRow S' out us ∧ PH.le S S') : CK.Ok P S0 ⟨f, [(false, [p]), (false, [q])], sh, out⟩ := by
  refine ⟨hcb, fun S vs hS hv => ?_⟩
  cases hv with
  | cons h1 h2 =>
    cases h2 with
    | cons h3 h4 =>
      cases h4
      obtain ⟨cs, h5, h6⟩ := h1
      obtain ⟨cs2, h7, h8⟩ := h3
      simp only [Bool.false_eq_true, if_false] at h6 h8
      subst h6 h8
      simp only [PV.RepRow] at h5 h7
      obtain ⟨v, vs, h9, h10, rfl⟩ := h7
      cases h9
      obtain ⟨u, us, h11, h12, rfl⟩ := h5
      cases h11
      exact h S _ _ hS h12 h10
def fxTab17 : List CK :=
  [⟨n_live_In, [(true, pv fxPr)], .sc, [slp [[(0 : Int)], [0]]]⟩,
   ⟨n_live_Behind, [(true, pv fxPr), (false, [.int .i64 0])], .sc, [slp [[(0 : Int), 1], [0, 2]]]⟩,
   ⟨n_live_Across, [(true, pv fxPr), (false, [.int .i64 0])], .sc, [slp [(0 : Int)]]⟩,
   ⟨n_scrimshawref17_SameAll, [(false, [slp [[(0 : Int)], [0]]]), (false, [slp [[(0 : Int)], [0]]])], .sc, [.bool true]⟩,
   ⟨n_scrimshawref17_SameAll, [(false, [slp [[(0 : Int), 1], [0, 2]]]), (false, [slp [[(0 : Int), 1], [0, 2]]])], .sc, [.bool true]⟩,
   ⟨n_scrimshawref17_Same, [(false, [slp [(0 : Int)]]), (false, [slp [(0 : Int)]])], .sc, [.bool true]⟩]
theorem rep_intv {S : PH} {n : Int} {v : Value} (h : PV.Rep S (.int .i64 n) v) : v = .int .i64 n := (repI_iff.1 h).1
theorem fxTab17_ok {S0 : PH} : TabOk Try.prog S0 fxTab17 := by
  have key : ∀ c ∈ fxTab17, CK.Ok Try.prog S0 c := by
    simp only [fxTab17, List.forall_mem_cons, List.not_mem_nil, false_imp_iff, implies_true, and_true]
    refine ⟨?_, ?_, ?_, ?_, ?_, ?_⟩
    · refine ck_ag cb_live_In fun S cs hS hr => ?_
      obtain ⟨bv, rfl, _, _, _, hb⟩ := prc_iff.1 (show CsR S fxPr cs from hr)
      refine (LIn_tri fxPr bv S hb fxPr_fit.1 fxPr_fit.2).mono ?_
      rintro x S' ⟨h1, v, rfl, h2⟩
      rw [fx_in] at h2
      exact ⟨[v], rfl, row1 h2, h1⟩
    · refine ck_agsc cb_live_Behind fun S cs v hS hr hv => ?_
      obtain ⟨bv, rfl, _, _, _, hb⟩ := prc_iff.1 (show CsR S fxPr cs from hr)
      rw [rep_intv hv]
      refine (LBehind_tri fxPr bv 0 S hb fxPr_fit.1 fxPr_fit.2).mono ?_
      rintro x S' ⟨h1, v, rfl, h2⟩
      rw [fx_beh] at h2
      exact ⟨[v], rfl, row1 h2, h1⟩
    · refine ck_agsc cb_live_Across fun S cs v hS hr hv => ?_
      obtain ⟨bv, rfl, _, _, _, hb⟩ := prc_iff.1 (show CsR S fxPr cs from hr)
      rw [rep_intv hv]
      refine (LAcross_tri fxPr bv 0 S hb fxPr_fit.1 fxPr_fit.2).mono ?_
      rintro x S' ⟨h1, v, rfl, h2⟩
      rw [fx_acr] at h2
      exact ⟨[v], rfl, row1 h2, h1⟩
    · exact ck_sc2 cb_scrimshawref17_SameAll fun S u v hS hu hv => gives_ck (fun S' => rep_bool S' true) (SameAll17_gives [[0], [0]] [[0], [0]] u v S hu hv)
    · exact ck_sc2 cb_scrimshawref17_SameAll fun S u v hS hu hv => gives_ck (fun S' => rep_bool S' true) (SameAll17_gives [[0, 1], [0, 2]] [[0, 1], [0, 2]] u v S hu hv)
    · exact ck_sc2 cb_scrimshawref17_Same fun S u v hS hu hv => gives_ck (fun S' => rep_bool S' true) (Same17_gives [0] [0] u v S hu hv)
  exact key
theorem fx17_runs : runsTrue Try.prog fxTab17 fm_scrimshawlaw17_fixed = true := by kernel_rfl
theorem Fixed17_gives (H : PH) : Gives Try.prog n_scrimshawlaw17_fixed [] H (.bool true) :=
  gives_run tri_scrimshawlaw17_fixed (by kernel_rfl) (by kernel_rfl) fxTab17_ok fx17_runs

/-! ### the laws -/
end Go.Proofs.Ytcfgpbmcgmkmhaa.Vc
/-
  LIVE: LivingBack.
-/
namespace Go.Proofs.Ytcfgpbmcgmkmhaa.Vc
open Go

instance decFills (x : InsX) (r : Int) : Decidable (x.fills r) := by unfold InsX.fills; exact inferInstance
theorem inL_get {p : PrcX} {i : Nat} (hi : i < p.blocks.length) : (inL p)[i]? = some (liveL p i 0) := by
  unfold inL
  rw [List.getElem?_map, List.getElem?_range hi]; rfl
end Go.Proofs.Ytcfgpbmcgmkmhaa.Vc
/-
  HEAP: the document's heap, plainly. No program in sight.
-/
namespace Go.Proofs.Ytcfgpbmcgmkmhaa.Vc
open Go

structure VX where
  kind : Int
  int : Int
  text : List UInt8
deriving DecidableEq, Inhabited
structure TX where
  kind : Int
  parts : List VX
deriving DecidableEq, Inhabited
abbrev HX := List TX
def VX.pv (v : VX) : List PV := [.int .i64 v.kind, .int .i64 v.int, .str v.text]
instance encVal : Enc VX := ⟨VX.pv, 3, fun _ => rfl⟩
theorem val_iff {H : PH} {v : VX} {cs : List Value} : CsR H v cs ↔ cs = [.int .i64 v.kind, .int .i64 v.int, txt v.text] ∧ InI v.kind ∧ InI v.int ∧ v.text.length ≤ maxLen := by
  show PV.RepRow H (VX.pv v) cs ↔ _
  simp only [VX.pv, PV.RepRow, repI_iff, repS_iff]
  constructor
  · rintro ⟨v1, _, rfl, ⟨rfl, h1⟩, v2, _, rfl, ⟨rfl, h2⟩, v3, _, rfl, ⟨rfl, h3⟩, rfl⟩
    exact ⟨rfl, h1, h2, h3⟩
  · rintro ⟨rfl, h1, h2, h3⟩
    exact ⟨_, _, rfl, ⟨rfl, h1⟩, _, _, rfl, ⟨rfl, h2⟩, _, _, rfl, ⟨rfl, h3⟩, rfl⟩
/-- a thing in memory: its parts are this very slice -/
structure TR where
  kind : Int
  b : Option Addr
  n : Nat
  c : Nat
def TR.sl (t : TR) : Value := .slice t.b t.n t.c
def TR.pv (t : TR) : List PV := [.int .i64 t.kind, .own t.b t.n t.c]
instance encThing : Enc TR := ⟨TR.pv, 2, fun _ => rfl⟩
theorem thing_iff {H : PH} {t : TR} {cs : List Value} : CsR H t cs ↔ cs = [.int .i64 t.kind, t.sl] ∧ InI t.kind := by
  show PV.RepRow H (TR.pv t) cs ↔ _
  simp only [TR.pv, PV.RepRow, repI_iff, PV.Rep]
  constructor
  · rintro ⟨v1, _, rfl, ⟨rfl, h1⟩, v2, _, rfl, rfl, rfl⟩
    exact ⟨rfl, h1⟩
  · rintro ⟨rfl, h1⟩
    exact ⟨_, _, rfl, ⟨rfl, h1⟩, _, _, rfl, rfl, rfl⟩

/-! ### numbers -/
def isNum (n : Int) : Bool := decide (-1152921504606846976 ≤ n ∧ n ≤ 1152921504606846975)
/-- which values may be in a heap of so many things -/
def mayV (n : Nat) (v : VX) : Bool :=
  if v.kind ≠ 3 ∧ v.text ≠ [] then false
  else if v.kind = 0 then decide (v.int = 0 ∨ v.int = 1)
  else if v.kind = 1 then isNum v.int
  else if v.kind = 2 then decide (0 ≤ v.int ∧ v.int ≤ 255)
  else if v.kind = 3 then decide (v.int = 0) && nameOk v.text
  else if v.kind = 4 ∨ v.kind = 5 ∨ v.kind = 6 ∨ v.kind = 7 then decide (v.int = 0)
  else if v.kind = 8 then decide (0 ≤ v.int ∧ v.int < (n : Int))
  else false
def vTruth (b : Bool) : VX := ⟨0, if b then 1 else 0, []⟩
def vNum (n : Int) : VX := ⟨1, n, []⟩
def vVoid : VX := ⟨5, 0, []⟩
def addX (h : HX) (kind : Int) (parts : List VX) : HX × VX := (h ++ [⟨kind, parts⟩], ⟨8, h.length, []⟩)
def thingK (h : HX) (v : VX) : Int := if v.kind ≠ 8 then -1 else (h.getD v.int.toNat default).kind
/-- a sum, a difference, a product, a quotient, a remainder: none: 1 too large, 2 by nought -/
def reckonX (op : Nat) (x y : Int) : VX × Int :=
  let told (n : Int) : VX × Int := if isNum n then (vNum n, 0) else (⟨0, 0, []⟩, 1)
  match op with
  | 0 => told (x + y)
  | 1 => told (x - y)
  | 2 => told (x * y)
  | 3 => if y = 0 then (⟨0, 0, []⟩, 2) else told (x.tdiv y)
  | _ => if y = 0 then (⟨0, 0, []⟩, 2) else told (x.tmod y)
/-! ### what primitives do -/
def rowsX : List (List UInt8 × List Int) := [([43], [1, 1]),
  ([45], [1, 1]),
  ([42], [1, 1]),
  ([113, 117, 111, 116, 105, 101, 110, 116], [1, 1]),
  ([114, 101, 109, 97, 105, 110, 100, 101, 114], [1, 1]),
  ([60], [1, 1]),
  ([61], [1, 1]),
  ([101, 113, 63], [-1, -1]),
  ([110, 117, 108, 108, 63], [-1]),
  ([115, 121, 109, 98, 111, 108, 63], [-1]),
  ([99, 104, 97, 114, 63], [-1]),
  ([105, 110, 116, 101, 103, 101, 114, 63], [-1]),
  ([98, 111, 111, 108, 101, 97, 110, 63], [-1]),
  ([101, 111, 102, 45, 111, 98, 106, 101, 99, 116, 63], [-1]),
  ([112, 97, 105, 114, 63], [-1]),
  ([118, 101, 99, 116, 111, 114, 63], [-1]),
  ([115, 116, 114, 105, 110, 103, 63], [-1]),
  ([112, 114, 111, 99, 101, 100, 117, 114, 101, 63], [-1]),
  ([99, 111, 110, 115], [-1, -1]),
  ([99, 97, 114], [10]),
  ([99, 100, 114], [10]),
  ([115, 101, 116, 45, 99, 97, 114, 33], [10, -1]),
  ([115, 101, 116, 45, 99, 100, 114, 33], [10, -1]),
  ([109, 97, 107, 101, 45, 118, 101, 99, 116, 111, 114], [1, -1]),
  ([109, 97, 107, 101, 45, 115, 116, 114, 105, 110, 103], [1, 2]),
  ([118, 101, 99, 116, 111, 114, 45, 108, 101, 110, 103, 116, 104], [11]),
  ([115, 116, 114, 105, 110, 103, 45, 108, 101, 110, 103, 116, 104], [12]),
  ([118, 101, 99, 116, 111, 114, 45, 114, 101, 102], [11, 1]),
  ([115, 116, 114, 105, 110, 103, 45, 114, 101, 102], [12, 1]),
  ([118, 101, 99, 116, 111, 114, 45, 115, 101, 116, 33], [11, 1, -1]),
  ([115, 116, 114, 105, 110, 103, 45, 115, 101, 116, 33], [12, 1, 2]),
  ([99, 104, 97, 114, 45, 62, 105, 110, 116, 101, 103, 101, 114], [2]),
  ([105, 110, 116, 101, 103, 101, 114, 45, 62, 99, 104, 97, 114], [1]),
  ([37, 98, 111, 120], [-1]),
  ([37, 117, 110, 98, 111, 120], [13]),
  ([37, 115, 101, 116, 45, 98, 111, 120, 33], [13, -1]),
  ([118, 111, 105, 100], []),
  ([37, 117, 110, 115, 101, 116], [])]
/-- is an argument of its kind? -/
def kOk (h : HX) (k : Int) (v : VX) : Bool := if 10 ≤ k then decide (thingK h v = k - 10) else if 0 ≤ k then decide (v.kind = k) else true
def vNone : VX := ⟨0, 0, []⟩
def getX (h : HX) (v : VX) (i : Int) : VX × Int :=
  let l := (h.getD v.int.toNat default).parts
  if i < 0 ∨ (l.length : Int) ≤ i then (vNone, 83) else (l.getD i.toNat default, 0)
def putX (h : HX) (v : VX) (i : Int) (x : VX) : HX × VX × Int :=
  let t := h.getD v.int.toNat default
  if i < 0 ∨ (t.parts.length : Int) ≤ i then (h, vNone, 83) else (h.set v.int.toNat ⟨t.kind, t.parts.set i.toNat x⟩, vVoid, 0)
def filledX (h : HX) (kind n : Int) (v : VX) : HX × VX × Int :=
  if n < 0 ∨ 1000 < n then (h, vNone, 83) else ((addX h kind (List.replicate n.toNat v)).1, (addX h kind (List.replicate n.toNat v)).2, 0)
def reckonedX (h : HX) (op : Nat) (a b : VX) : HX × VX × Int :=
  let r := reckonX op a.int b.int
  if r.2 = 1 then (h, vNone, 81) else if r.2 = 2 then (h, vNone, 82) else (h, r.1, 0)
def actX (h : HX) (s : List UInt8) (args : List VX) : HX × VX × Int :=
  let a := args.getD 0 vNone
  let b := args.getD 1 vNone
  let c := args.getD 2 vNone
  let told (v : VX) : HX × VX × Int := (h, v, 0)
  if s = [43] then reckonedX h 0 a b
  else if s = [45] then reckonedX h 1 a b
  else if s = [42] then reckonedX h 2 a b
  else if s = [113, 117, 111, 116, 105, 101, 110, 116] then reckonedX h 3 a b
  else if s = [114, 101, 109, 97, 105, 110, 100, 101, 114] then reckonedX h 4 a b
  else if s = [60] then told (vTruth (decide (a.int < b.int)))
  else if s = [61] ∨ s = [101, 113, 63] then told (vTruth (decide (a = b)))
  else if s = [110, 117, 108, 108, 63] then told (vTruth (decide (a.kind = 4)))
  else if s = [115, 121, 109, 98, 111, 108, 63] then told (vTruth (decide (a.kind = 3)))
  else if s = [99, 104, 97, 114, 63] then told (vTruth (decide (a.kind = 2)))
  else if s = [105, 110, 116, 101, 103, 101, 114, 63] then told (vTruth (decide (a.kind = 1)))
  else if s = [98, 111, 111, 108, 101, 97, 110, 63] then told (vTruth (decide (a.kind = 0)))
  else if s = [101, 111, 102, 45, 111, 98, 106, 101, 99, 116, 63] then told (vTruth (decide (a.kind = 6)))
  else if s = [112, 97, 105, 114, 63] then told (vTruth (decide (thingK h a = 0)))
  else if s = [118, 101, 99, 116, 111, 114, 63] then told (vTruth (decide (thingK h a = 1)))
  else if s = [115, 116, 114, 105, 110, 103, 63] then told (vTruth (decide (thingK h a = 2)))
  else if s = [112, 114, 111, 99, 101, 100, 117, 114, 101, 63] then told (vTruth (decide (thingK h a = 4)))
  else if s = [99, 111, 110, 115] then ((addX h 0 args).1, (addX h 0 args).2, 0)
  else if s = [37, 98, 111, 120] then ((addX h 3 args).1, (addX h 3 args).2, 0)
  else if s = [109, 97, 107, 101, 45, 118, 101, 99, 116, 111, 114] then filledX h 1 a.int b
  else if s = [109, 97, 107, 101, 45, 115, 116, 114, 105, 110, 103] then filledX h 2 a.int b
  else if s = [118, 101, 99, 116, 111, 114, 45, 108, 101, 110, 103, 116, 104] ∨ s = [115, 116, 114, 105, 110, 103, 45, 108, 101, 110, 103, 116, 104] then told (vNum (h.getD a.int.toNat default).parts.length)
  else if s = [99, 97, 114] ∨ s = [37, 117, 110, 98, 111, 120] then (h, getX h a 0)
  else if s = [99, 100, 114] then (h, getX h a 1)
  else if s = [118, 101, 99, 116, 111, 114, 45, 114, 101, 102] ∨ s = [115, 116, 114, 105, 110, 103, 45, 114, 101, 102] then (h, getX h a b.int)
  else if s = [115, 101, 116, 45, 99, 97, 114, 33] ∨ s = [37, 115, 101, 116, 45, 98, 111, 120, 33] then putX h a 0 b
  else if s = [115, 101, 116, 45, 99, 100, 114, 33] then putX h a 1 b
  else if s = [118, 101, 99, 116, 111, 114, 45, 115, 101, 116, 33] ∨ s = [115, 116, 114, 105, 110, 103, 45, 115, 101, 116, 33] then putX h a b.int c
  else if s = [99, 104, 97, 114, 45, 62, 105, 110, 116, 101, 103, 101, 114] then told (vNum a.int)
  else if s = [105, 110, 116, 101, 103, 101, 114, 45, 62, 99, 104, 97, 114] then if a.int < 0 ∨ 255 < a.int then (h, vNone, 83) else told ⟨2, a.int, []⟩
  else if s = [37, 117, 110, 115, 101, 116] then told ⟨7, 0, []⟩
  else told vVoid
/-- a primitive done -/
def doX (h : HX) (s : List UInt8) (args : List VX) : HX × VX × Int :=
  match rowsX.find? fun r => decide (r.1 = s) with
  | none => (h, vNone, 1)
  | some r =>
    if r.2.length ≠ args.length then (h, vNone, 1)
    else if !args.all (mayV h.length) then (h, vNone, 1)
    else if !((r.2.zip args).all fun x => kOk h x.1 x.2) then (h, vNone, 80)
    else actX h s args
/-! ### what a heap keeps -/
structure HeapOk (h : HX) : Prop where
  may : ∀ t ∈ h, ∀ v ∈ t.parts, mayV h.length v = true
  kinds : ∀ t ∈ h, 0 ≤ t.kind ∧ t.kind ≤ 4
  pair : ∀ t ∈ h, t.kind = 0 → t.parts.length = 2
  box : ∀ t ∈ h, t.kind = 3 → t.parts.length = 1
  str : ∀ t ∈ h, t.kind = 2 → ∀ v ∈ t.parts, v.kind = 2
  few : ∀ t ∈ h, (t.parts.length : Int) ≤ 1000
theorem may_mono {n m : Nat} (hnm : n ≤ m) {v : VX} (h : mayV n v = true) : mayV m v = true := by
  unfold mayV at *
  split at h
  · cases h
  · rename_i h0
    rw [if_neg h0]
    split at h
    · rename_i h1; rw [if_pos h1]; exact h
    · rename_i h1; rw [if_neg h1]
      split at h
      · rename_i h2; rw [if_pos h2]; exact h
      · rename_i h2; rw [if_neg h2]
        split at h
        · rename_i h3; rw [if_pos h3]; exact h
        · rename_i h3; rw [if_neg h3]
          split at h
          · rename_i h4; rw [if_pos h4]; exact h
          · rename_i h4; rw [if_neg h4]
            split at h
            · rename_i h5; rw [if_pos h5]; exact h
            · rename_i h5; rw [if_neg h5]
              split at h
              · rename_i h6
                rw [if_pos h6]
                have := of_decide_eq_true h
                exact decide_eq_true (by omega)
              · cases h
theorem addX_ok {h : HX} (ok : HeapOk h) {kind : Int} {parts : List VX} (hk : 0 ≤ kind ∧ kind ≤ 4) (hp : ∀ v ∈ parts, mayV h.length v = true) (h0 : kind = 0 → parts.length = 2) (h3 : kind = 3 → parts.length = 1) (h2 : kind = 2 → ∀ v ∈ parts, v.kind = 2) (hf : (parts.length : Int) ≤ 1000) : HeapOk (addX h kind parts).1 ∧ mayV (addX h kind parts).1.length (addX h kind parts).2 = true := by
  have hl : (addX h kind parts).1.length = h.length + 1 := by simp [addX]
  have hmem : ∀ t, t ∈ (addX h kind parts).1 → t ∈ h ∨ t = ⟨kind, parts⟩ := fun t ht => by simpa [addX] using ht
  refine ⟨⟨fun t ht v hv => ?_, fun t ht => ?_, fun t ht e => ?_, fun t ht e => ?_, fun t ht e => ?_, fun t ht => ?_⟩, ?_⟩
  · rw [hl]
    rcases hmem t ht with h | rfl
    · exact may_mono (Nat.le_succ _) (ok.may t h v hv)
    · exact may_mono (Nat.le_succ _) (hp v hv)
  · rcases hmem t ht with h | rfl
    · exact ok.kinds t h
    · exact hk
  · rcases hmem t ht with h | rfl
    · exact ok.pair t h e
    · exact h0 e
  · rcases hmem t ht with h | rfl
    · exact ok.box t h e
    · exact h3 e
  · rcases hmem t ht with h | rfl
    · exact ok.str t h e
    · exact h2 e
  · rcases hmem t ht with h | rfl
    · exact ok.few t h
    · exact hf
  · rw [hl]
    show mayV (h.length + 1) ⟨8, (h.length : Int), []⟩ = true
    unfold mayV
    simp
    omega
/-- what a primitive does is as it should be -/
def GoodX (h : HX) (x : HX × VX × Int) : Prop := HeapOk x.1 ∧ h.length ≤ x.1.length ∧ mayV x.1.length x.2.1 = true
theorem may_none (n : Nat) : mayV n vNone = true := by simp [mayV, vNone]
theorem may_void (n : Nat) : mayV n vVoid = true := by simp [mayV, vVoid]
theorem may_truth (n : Nat) (b : Bool) : mayV n (vTruth b) = true := by cases b <;> simp [mayV, vTruth]
theorem may_num {n : Nat} {i : Int} (h : isNum i = true) : mayV n (vNum i) = true := by simp [mayV, vNum, h]
theorem good_told {h : HX} (ok : HeapOk h) {v : VX} (hv : mayV h.length v = true) (e : Int) : GoodX h (h, v, e) := ⟨ok, Nat.le_refl _, hv⟩
theorem good_add {h : HX} (ok : HeapOk h) {kind : Int} {parts : List VX} (hk : 0 ≤ kind ∧ kind ≤ 4) (hp : ∀ v ∈ parts, mayV h.length v = true) (h0 : kind = 0 → parts.length = 2) (h3 : kind = 3 → parts.length = 1) (h2 : kind = 2 → ∀ v ∈ parts, v.kind = 2) (hf : (parts.length : Int) ≤ 1000) (e : Int) : GoodX h ((addX h kind parts).1, (addX h kind parts).2, e) := by
  obtain ⟨h4, h5⟩ := addX_ok ok hk hp h0 h3 h2 hf
  exact ⟨h4, by simp [addX], h5⟩
theorem good_get {h : HX} (ok : HeapOk h) (v : VX) (i : Int) : GoodX h (h, getX h v i) := by
  unfold getX
  simp only
  split
  · exact good_told ok (may_none _) _
  · rename_i hi
    refine good_told ok ?_ _
    have hlt : i.toNat < (h.getD v.int.toNat default).parts.length := by omega
    rw [List.getD_eq_getElem?_getD, List.getElem?_eq_getElem hlt]
    have hin : h.getD v.int.toNat default ∈ h := by
      rw [List.getD_eq_getElem?_getD]
      cases hx : h[v.int.toNat]? with
      | none =>
        rw [List.getD_eq_getElem?_getD, hx] at hlt
        exact absurd hlt (by simp [show (default : TX).parts = [] from rfl])
      | some t => exact List.mem_of_getElem? hx
    exact ok.may _ hin _ (List.getElem_mem hlt)
theorem good_filled {h : HX} (ok : HeapOk h) {kind n : Int} {v : VX} (hk : kind = 1 ∨ kind = 2) (hv : mayV h.length v = true) (h2 : kind = 2 → v.kind = 2) : GoodX h (filledX h kind n v) := by
  unfold filledX
  split
  · exact good_told ok (may_none _) _
  · refine good_add ok (by omega) (fun x hx => by rw [(List.mem_replicate.1 hx).2]; exact hv) (by omega) (by omega) (fun e x hx => by rw [(List.mem_replicate.1 hx).2]; exact h2 e) (by rw [List.length_replicate]; omega) _
theorem good_put {h : HX} (ok : HeapOk h) (v : VX) (i : Int) {x : VX} (hx : mayV h.length x = true) (h2 : (h.getD v.int.toNat default).kind = 2 → x.kind = 2) : GoodX h (putX h v i x) := by
  unfold putX
  simp only
  split
  · exact good_told ok (may_none _) _
  · have hset : ∀ t ∈ h.set v.int.toNat ⟨(h.getD v.int.toNat default).kind, (h.getD v.int.toNat default).parts.set i.toNat x⟩, t ∈ h ∨ (t = ⟨(h.getD v.int.toNat default).kind, (h.getD v.int.toNat default).parts.set i.toNat x⟩ ∧ h.getD v.int.toNat default ∈ h) := fun t ht => by
      obtain ⟨j, hj⟩ := List.getElem?_of_mem ht
      rw [List.getElem?_set] at hj
      split at hj
      · split at hj
        · rename_i _ hlt
          refine .inr ⟨(Option.some.inj hj).symm, ?_⟩
          rw [List.getD_eq_getElem?_getD, List.getElem?_eq_getElem hlt]
          exact List.getElem_mem hlt
        · cases hj
      · exact .inl (List.mem_of_getElem? hj)
    refine ⟨⟨fun t ht u hu => ?_, fun t ht => ?_, fun t ht e => ?_, fun t ht e => ?_, fun t ht e u hu => ?_, fun t ht => ?_⟩, by simp, may_void _⟩
    · simp only [List.length_set]
      rcases hset t ht with h | ⟨rfl, hin⟩
      · exact ok.may t h u hu
      · rcases List.mem_or_eq_of_mem_set hu with h | rfl
        · exact ok.may _ hin u h
        · exact hx
    · rcases hset t ht with h' | ⟨rfl, hin⟩
      · exact ok.kinds t h'
      · exact ok.kinds (h.getD v.int.toNat default) hin
    · rcases hset t ht with h | ⟨rfl, hin⟩
      · exact ok.pair t h e
      · simpa using ok.pair _ hin e
    · rcases hset t ht with h | ⟨rfl, hin⟩
      · exact ok.box t h e
      · simpa using ok.box _ hin e
    · rcases hset t ht with h | ⟨rfl, hin⟩
      · exact ok.str t h e u hu
      · rcases List.mem_or_eq_of_mem_set hu with h | rfl
        · exact ok.str _ hin e u h
        · exact h2 e
    · rcases hset t ht with h | ⟨rfl, hin⟩
      · exact ok.few t h
      · simpa using ok.few _ hin
theorem good_reckoned {h : HX} (ok : HeapOk h) (op : Nat) (a b : VX) : GoodX h (reckonedX h op a b) := by
  have key : ∀ n : Int, GoodX h (let r := (if isNum n then (vNum n, (0 : Int)) else (⟨0, 0, []⟩, 1)); if r.2 = 1 then (h, vNone, 81) else if r.2 = 2 then (h, vNone, 82) else (h, r.1, 0)) := fun n => by
    by_cases hn : isNum n = true
    · simp only [hn, if_true]
      exact good_told ok (may_num hn) _
    · simp only [hn, if_false]
      exact good_told ok (may_none _) _
  unfold reckonedX reckonX
  match op with
  | 0 => exact key _
  | 1 => exact key _
  | 2 => exact key _
  | 3 =>
    simp only
    split
    · exact good_told ok (may_none _) _
    · exact key _
  | n + 4 =>
    simp only
    split
    · exact good_told ok (may_none _) _
    · exact key _
theorem actX_ok {h : HX} (ok : HeapOk h) {s : List UInt8} {ks : List Int} (hr : (s, ks) ∈ rowsX) {args : List VX} (hl : ks.length = args.length) (hm : ∀ v ∈ args, mayV h.length v = true) (hk : ∀ k v, (k, v) ∈ ks.zip args → kOk h k v = true) : GoodX h (actX h s args) := by
  have hlen : ∀ a : VX, isNum ((h.getD a.int.toNat default).parts.length : Int) = true := fun a => by
    have : ((h.getD a.int.toNat default).parts.length : Int) ≤ 1000 := by
      rw [List.getD_eq_getElem?_getD]
      cases hx : h[a.int.toNat]? with
      | none => exact (by decide : ((default : TX).parts.length : Int) ≤ 1000)
      | some t => exact ok.few t (List.mem_of_getElem? hx)
    exact decide_eq_true (by omega)
  have hnot : ∀ {P : Prop} (a : VX) (k : Int), k = 10 ∨ k = 11 ∨ k = 13 → kOk h k a = true → (h.getD a.int.toNat default).kind = 2 → P := fun {P} a k hk h1 h2 => by
    unfold kOk thingK at h1
    rw [if_pos (by omega)] at h1
    have h3 := of_decide_eq_true h1
    split at h3
    · exact (show False by omega).elim
    · exact (show False by omega).elim
  have hchr : ∀ a : VX, kOk h 2 a = true → mayV h.length a = true → isNum a.int = true := fun a h1 h2 => by
    have h3 : a.kind = 2 := by simpa [kOk] using h1
    unfold mayV at h2
    rw [h3] at h2
    split at h2
    · cases h2
    · simp at h2
      exact decide_eq_true (by omega)
  have one : ∀ {l : List VX}, 1 = l.length → ∃ a, l = [a] := fun {l} h => by
    match l, h with
    | [a], _ => exact ⟨a, rfl⟩
  have two : ∀ {l : List VX}, 2 = l.length → ∃ a b, l = [a, b] := fun {l} h => by
    match l, h with
    | [a, b], _ => exact ⟨a, b, rfl⟩
  have three : ∀ {l : List VX}, 3 = l.length → ∃ a b c, l = [a, b, c] := fun {l} h => by
    match l, h with
    | [a, b, c], _ => exact ⟨a, b, c, rfl⟩
  simp only [rowsX, List.mem_cons, Prod.mk.injEq, List.not_mem_nil, or_false] at hr
  rcases hr with ⟨rfl, rfl⟩ | ⟨rfl, rfl⟩ | ⟨rfl, rfl⟩ | ⟨rfl, rfl⟩ | ⟨rfl, rfl⟩ | ⟨rfl, rfl⟩ | ⟨rfl, rfl⟩ | ⟨rfl, rfl⟩ | ⟨rfl, rfl⟩ | ⟨rfl, rfl⟩ | ⟨rfl, rfl⟩ | ⟨rfl, rfl⟩ | ⟨rfl, rfl⟩ | ⟨rfl, rfl⟩ | ⟨rfl, rfl⟩ | ⟨rfl, rfl⟩ | ⟨rfl, rfl⟩ | ⟨rfl, rfl⟩ | ⟨rfl, rfl⟩ | ⟨rfl, rfl⟩ | ⟨rfl, rfl⟩ | ⟨rfl, rfl⟩ | ⟨rfl, rfl⟩ | ⟨rfl, rfl⟩ | ⟨rfl, rfl⟩ | ⟨rfl, rfl⟩ | ⟨rfl, rfl⟩ | ⟨rfl, rfl⟩ | ⟨rfl, rfl⟩ | ⟨rfl, rfl⟩ | ⟨rfl, rfl⟩ | ⟨rfl, rfl⟩ | ⟨rfl, rfl⟩ | ⟨rfl, rfl⟩ | ⟨rfl, rfl⟩ | ⟨rfl, rfl⟩ | ⟨rfl, rfl⟩ | ⟨rfl, rfl⟩
  · obtain ⟨a, b, rfl⟩ := two hl
    rw [show actX h [43] [a, b] = reckonedX h 0 a b from by kernel_rfl]
    exact good_reckoned ok 0 a b
  · obtain ⟨a, b, rfl⟩ := two hl
    rw [show actX h [45] [a, b] = reckonedX h 1 a b from by kernel_rfl]
    exact good_reckoned ok 1 a b
  · obtain ⟨a, b, rfl⟩ := two hl
    rw [show actX h [42] [a, b] = reckonedX h 2 a b from by kernel_rfl]
    exact good_reckoned ok 2 a b
  · obtain ⟨a, b, rfl⟩ := two hl
    rw [show actX h [113, 117, 111, 116, 105, 101, 110, 116] [a, b] = reckonedX h 3 a b from by kernel_rfl]
    exact good_reckoned ok 3 a b
  · obtain ⟨a, b, rfl⟩ := two hl
    rw [show actX h [114, 101, 109, 97, 105, 110, 100, 101, 114] [a, b] = reckonedX h 4 a b from by kernel_rfl]
    exact good_reckoned ok 4 a b
  · obtain ⟨a, b, rfl⟩ := two hl
    rw [show actX h [60] [a, b] = (h, vTruth (decide (a.int < b.int)), 0) from by kernel_rfl]
    exact good_told ok (may_truth _ _) _
  · obtain ⟨a, b, rfl⟩ := two hl
    rw [show actX h [61] [a, b] = (h, vTruth (decide (a = b)), 0) from by kernel_rfl]
    exact good_told ok (may_truth _ _) _
  · obtain ⟨a, b, rfl⟩ := two hl
    rw [show actX h [101, 113, 63] [a, b] = (h, vTruth (decide (a = b)), 0) from by kernel_rfl]
    exact good_told ok (may_truth _ _) _
  · obtain ⟨a, rfl⟩ := one hl
    rw [show actX h [110, 117, 108, 108, 63] [a] = (h, vTruth (decide (a.kind = 4)), 0) from by kernel_rfl]
    exact good_told ok (may_truth _ _) _
  · obtain ⟨a, rfl⟩ := one hl
    rw [show actX h [115, 121, 109, 98, 111, 108, 63] [a] = (h, vTruth (decide (a.kind = 3)), 0) from by kernel_rfl]
    exact good_told ok (may_truth _ _) _
  · obtain ⟨a, rfl⟩ := one hl
    rw [show actX h [99, 104, 97, 114, 63] [a] = (h, vTruth (decide (a.kind = 2)), 0) from by kernel_rfl]
    exact good_told ok (may_truth _ _) _
  · obtain ⟨a, rfl⟩ := one hl
    rw [show actX h [105, 110, 116, 101, 103, 101, 114, 63] [a] = (h, vTruth (decide (a.kind = 1)), 0) from by kernel_rfl]
    exact good_told ok (may_truth _ _) _
  · obtain ⟨a, rfl⟩ := one hl
    rw [show actX h [98, 111, 111, 108, 101, 97, 110, 63] [a] = (h, vTruth (decide (a.kind = 0)), 0) from by kernel_rfl]
    exact good_told ok (may_truth _ _) _
  · obtain ⟨a, rfl⟩ := one hl
    rw [show actX h [101, 111, 102, 45, 111, 98, 106, 101, 99, 116, 63] [a] = (h, vTruth (decide (a.kind = 6)), 0) from by kernel_rfl]
    exact good_told ok (may_truth _ _) _
  · obtain ⟨a, rfl⟩ := one hl
    rw [show actX h [112, 97, 105, 114, 63] [a] = (h, vTruth (decide (thingK h a = 0)), 0) from by kernel_rfl]
    exact good_told ok (may_truth _ _) _
  · obtain ⟨a, rfl⟩ := one hl
    rw [show actX h [118, 101, 99, 116, 111, 114, 63] [a] = (h, vTruth (decide (thingK h a = 1)), 0) from by kernel_rfl]
    exact good_told ok (may_truth _ _) _
  · obtain ⟨a, rfl⟩ := one hl
    rw [show actX h [115, 116, 114, 105, 110, 103, 63] [a] = (h, vTruth (decide (thingK h a = 2)), 0) from by kernel_rfl]
    exact good_told ok (may_truth _ _) _
  · obtain ⟨a, rfl⟩ := one hl
    rw [show actX h [112, 114, 111, 99, 101, 100, 117, 114, 101, 63] [a] = (h, vTruth (decide (thingK h a = 4)), 0) from by kernel_rfl]
    exact good_told ok (may_truth _ _) _
  · obtain ⟨a, b, rfl⟩ := two hl
    rw [show actX h [99, 111, 110, 115] [a, b] = ((addX h 0 [a, b]).1, (addX h 0 [a, b]).2, 0) from by kernel_rfl]
    exact good_add ok (by omega) hm (fun _ => rfl) (by omega) (by omega) (by simp) _
  · obtain ⟨a, rfl⟩ := one hl
    rw [show actX h [99, 97, 114] [a] = (h, getX h a 0) from by kernel_rfl]
    exact good_get ok a 0
  · obtain ⟨a, rfl⟩ := one hl
    rw [show actX h [99, 100, 114] [a] = (h, getX h a 1) from by kernel_rfl]
    exact good_get ok a 1
  · obtain ⟨a, b, rfl⟩ := two hl
    rw [show actX h [115, 101, 116, 45, 99, 97, 114, 33] [a, b] = putX h a 0 b from by kernel_rfl]
    exact good_put ok a 0 (hm b (by simp)) (hnot a 10 (by omega) (hk 10 a (by simp)))
  · obtain ⟨a, b, rfl⟩ := two hl
    rw [show actX h [115, 101, 116, 45, 99, 100, 114, 33] [a, b] = putX h a 1 b from by kernel_rfl]
    exact good_put ok a 1 (hm b (by simp)) (hnot a 10 (by omega) (hk 10 a (by simp)))
  · obtain ⟨a, b, rfl⟩ := two hl
    rw [show actX h [109, 97, 107, 101, 45, 118, 101, 99, 116, 111, 114] [a, b] = filledX h 1 a.int b from by kernel_rfl]
    exact good_filled ok (.inl rfl) (hm b (by simp)) (by omega)
  · obtain ⟨a, b, rfl⟩ := two hl
    rw [show actX h [109, 97, 107, 101, 45, 115, 116, 114, 105, 110, 103] [a, b] = filledX h 2 a.int b from by kernel_rfl]
    exact good_filled ok (.inr rfl) (hm b (by simp)) (fun _ => by simpa [kOk] using (hk 2 b (by simp)))
  · obtain ⟨a, rfl⟩ := one hl
    rw [show actX h [118, 101, 99, 116, 111, 114, 45, 108, 101, 110, 103, 116, 104] [a] = (h, vNum (h.getD a.int.toNat default).parts.length, 0) from by kernel_rfl]
    exact good_told ok (may_num (hlen a)) _
  · obtain ⟨a, rfl⟩ := one hl
    rw [show actX h [115, 116, 114, 105, 110, 103, 45, 108, 101, 110, 103, 116, 104] [a] = (h, vNum (h.getD a.int.toNat default).parts.length, 0) from by kernel_rfl]
    exact good_told ok (may_num (hlen a)) _
  · obtain ⟨a, b, rfl⟩ := two hl
    rw [show actX h [118, 101, 99, 116, 111, 114, 45, 114, 101, 102] [a, b] = (h, getX h a b.int) from by kernel_rfl]
    exact good_get ok a b.int
  · obtain ⟨a, b, rfl⟩ := two hl
    rw [show actX h [115, 116, 114, 105, 110, 103, 45, 114, 101, 102] [a, b] = (h, getX h a b.int) from by kernel_rfl]
    exact good_get ok a b.int
  · obtain ⟨a, b, c, rfl⟩ := three hl
    rw [show actX h [118, 101, 99, 116, 111, 114, 45, 115, 101, 116, 33] [a, b, c] = putX h a b.int c from by kernel_rfl]
    exact good_put ok a b.int (hm c (by simp)) (hnot a 11 (by omega) (hk 11 a (by simp)))
  · obtain ⟨a, b, c, rfl⟩ := three hl
    rw [show actX h [115, 116, 114, 105, 110, 103, 45, 115, 101, 116, 33] [a, b, c] = putX h a b.int c from by kernel_rfl]
    exact good_put ok a b.int (hm c (by simp)) (fun _ => by simpa [kOk] using (hk 2 c (by simp)))
  · obtain ⟨a, rfl⟩ := one hl
    rw [show actX h [99, 104, 97, 114, 45, 62, 105, 110, 116, 101, 103, 101, 114] [a] = (h, vNum a.int, 0) from by kernel_rfl]
    exact good_told ok (may_num (hchr a (hk 2 a (by simp)) (hm a (by simp)))) _
  · obtain ⟨a, rfl⟩ := one hl
    rw [show actX h [105, 110, 116, 101, 103, 101, 114, 45, 62, 99, 104, 97, 114] [a] = (if a.int < 0 ∨ 255 < a.int then (h, vNone, 83) else (h, ⟨2, a.int, []⟩, 0)) from by kernel_rfl]
    split
    · exact good_told ok (may_none _) _
    · exact good_told ok (by simp [mayV]; omega) _
  · obtain ⟨a, rfl⟩ := one hl
    rw [show actX h [37, 98, 111, 120] [a] = ((addX h 3 [a]).1, (addX h 3 [a]).2, 0) from by kernel_rfl]
    exact good_add ok (by omega) hm (by omega) (fun _ => rfl) (by omega) (by simp) _
  · obtain ⟨a, rfl⟩ := one hl
    rw [show actX h [37, 117, 110, 98, 111, 120] [a] = (h, getX h a 0) from by kernel_rfl]
    exact good_get ok a 0
  · obtain ⟨a, b, rfl⟩ := two hl
    rw [show actX h [37, 115, 101, 116, 45, 98, 111, 120, 33] [a, b] = putX h a 0 b from by kernel_rfl]
    exact good_put ok a 0 (hm b (by simp)) (hnot a 13 (by omega) (hk 13 a (by simp)))
  · obtain rfl : args = [] := List.length_eq_zero_iff.1 hl.symm
    rw [show actX h [118, 111, 105, 100] [] = (h, vVoid, 0) from by kernel_rfl]
    exact good_told ok (may_void _) _
  · obtain rfl : args = [] := List.length_eq_zero_iff.1 hl.symm
    rw [show actX h [37, 117, 110, 115, 101, 116] [] = (h, ⟨7, 0, []⟩, 0) from by kernel_rfl]
    exact good_told ok (by simp [mayV]) _
theorem doX_ok {h : HX} (ok : HeapOk h) (s : List UInt8) (args : List VX) : GoodX h (doX h s args) := by
  unfold doX
  split
  · exact good_told ok (may_none _) _
  · rename_i r hr
    split
    · exact good_told ok (may_none _) _
    · rename_i hl
      split
      · exact good_told ok (may_none _) _
      · rename_i hm
        split
        · exact good_told ok (may_none _) _
        · rename_i hk
          have hs : r.1 = s := by simpa using List.find?_some hr
          have hmem : (s, r.2) ∈ rowsX := hs ▸ List.mem_of_find?_eq_some hr
          have hm' : args.all (mayV h.length) = true := by simpa using hm
          have hk' : ((r.2.zip args).all fun x => kOk h x.1 x.2) = true := by simpa using hk
          exact actX_ok ok hmem (Decidable.not_not.1 hl) (List.all_eq_true.1 hm') fun k v hkv => List.all_eq_true.1 hk' (k, v) hkv
end Go.Proofs.Ytcfgpbmcgmkmhaa.Vc
/-
  CODE RUN: the document's machine of chapter 15, plainly. No program in sight.
-/
namespace Go.Proofs.Ytcfgpbmcgmkmhaa.Vc
open Go

structure ActX where
  proc : Int
  regs : List VX
  clo : Int
  block : Int
  at_ : Int
  to : Int
deriving DecidableEq, Inhabited
structure CloX where
  thing : Int
  proc : Int
  held : List VX
  kont : Bool
  acts : List ActX
deriving DecidableEq, Inhabited
structure MX where
  h : HX
  clos : List CloX
  acts : List ActX
  input : List UInt8
  out : List UInt8
  winders : VX
  told : VX
  done : Bool
  e : Int
deriving DecidableEq, Inhabited
abbrev CodeX := List PrcX
def MX.find (m : MX) (v : VX) : Option Nat := m.clos.findIdx? fun c => decide (v.kind = 8) && decide (c.thing = v.int)
def MX.made (m : MX) (c : CloX) : MX × VX :=
  let r := addX m.h 4 []
  ({ m with h := r.1, clos := m.clos ++ [{ c with thing := r.2.int }] }, r.2)
def MX.tell (m : MX) (v : VX) : MX :=
  match m.acts.getLast? with
  | none => { m with told := v, done := true }
  | some a => { m with acts := m.acts.dropLast ++ [{ a with regs := a.regs.set a.to.toNat v }] }
def newAct (p : PrcX) (proc : Int) (k : Nat) (args : List VX) : ActX :=
  ⟨proc, (List.range p.regs.toNat).map fun i => args.getD i ⟨7, 0, []⟩, (k : Int), 0, 0, 0⟩
def prcAt (c : CodeX) (i : Int) : PrcX := c.getD i.toNat ⟨0, 0, 0, []⟩
def MX.call (c : CodeX) (m : MX) (v : VX) (args : List VX) (behind : Bool) : MX :=
  match m.find v with
  | none => { m with e := 90 }
  | some k =>
    let cl := m.clos.getD k default
    if cl.kont then
      match args with
      | [x] => ({ m with acts := cl.acts } : MX).tell x
      | _ => { m with e := 91 }
    else
      let p := prcAt c cl.proc
      if (args.length : Int) ≠ p.params then { m with e := 91 }
      else { m with acts := (if behind then m.acts else m.acts.dropLast) ++ [newAct p cl.proc k args] }
def MX.prim (m : MX) (s : List UInt8) (args : List VX) : MX × VX :=
  if s = [114, 101, 97, 100, 45, 117, 56] then
    match m.input with
    | [] => (m, ⟨6, 0, []⟩)
    | b :: l => ({ m with input := l }, ⟨1, b.toNat, []⟩)
  else if s = [119, 114, 105, 116, 101, 45, 117, 56] then
    let a := args.getD 0 vNone
    if a.kind ≠ 1 then ({ m with e := 80 }, vVoid)
    else if a.int < 0 ∨ 255 < a.int then ({ m with e := 83 }, vVoid)
    else ({ m with out := m.out ++ [UInt8.ofNat a.int.toNat] }, vVoid)
  else if s = [101, 114, 114, 111, 114] then ({ m with e := 92 }, vVoid)
  else if s = [37, 119, 105, 110, 100, 101, 114, 115] then (m, m.winders)
  else if s = [37, 119, 105, 110, 100, 33] then ({ m with winders := args.getD 0 vNone }, vVoid)
  else
    let r := doX m.h s args
    ({ m with h := r.1, e := r.2.2 }, r.2.1)
/-- the last of those that are there changed -/
def MX.last (m : MX) (f : ActX → ActX) : MX := match m.acts.getLast? with
  | none => m
  | some a => { m with acts := m.acts.dropLast ++ [f a] }
def regAt (a : ActX) (r : Int) : VX := a.regs.getD r.toNat vNone
def MX.put (m : MX) (r : Int) (v : VX) : MX := m.last fun a => { a with regs := a.regs.set r.toNat v }
/-- an instruction; K: a constant's value -/
def MX.ins (K : Dat → VX) (m : MX) (x : InsX) : MX :=
  let a := m.acts.getLast?.getD default
  let args := x.args.map (regAt a)
  let told (r : MX × VX) : MX := if r.1.e = 0 then r.1.put x.to r.2 else r.1
  if x.op = [99, 111, 110, 115, 116] then told (m, K x.const)
  else if x.op = [109, 111, 118, 101] then told (m, args.getD 0 vNone)
  else if x.op = [104, 101, 108, 100] then told (m, (m.clos.getD a.clo.toNat default).held.getD x.num.toNat vNone)
  else if x.op = [99, 108, 111, 115, 117, 114, 101] then told (m.made ⟨0, x.num, args, false, []⟩)
  else if x.op = tieB then
    match m.find (args.getD 0 vNone) with
    | none => { m with e := 80 }
    | some k =>
      let c := m.clos.getD k default
      if (c.held.length : Int) ≤ x.num then { m with e := 80 }
      else { m with clos := m.clos.set k { c with held := c.held.set x.num.toNat (args.getD 1 vNone) } }
  else told (m.prim x.op args)
/-- a block's end -/
def MX.fin (c : CodeX) (m : MX) (x : EndX) : MX :=
  let a := m.acts.getLast?.getD default
  let args := x.args.map (regAt a)
  let v := if x.kind = 0 then vNone else regAt a x.reg
  let m1 := m.last fun a => { a with at_ := 0, block := if x.kind = 1 ∧ v = vNone then x.els else x.next, to := x.to }
  if x.kind = 2 then ({ m1 with acts := m1.acts.dropLast } : MX).tell v
  else if x.kind = 3 then m1.call c v args false
  else if x.kind = 4 then m1.call c v args true
  else if x.kind = 5 then
    let r := m1.made ⟨0, 0, [], true, m1.acts.dropLast⟩
    r.1.call c v [r.2] false
  else if x.kind = 6 then
    let r := m1.made ⟨0, 0, [], true, m1.acts⟩
    r.1.call c v [r.2] true
  else m1
def blkAt (p : PrcX) (i : Int) : BlkX := p.blocks.getD i.toNat ⟨[], ⟨0, 0, [], 0, 0, 0⟩⟩
def MX.step (K : Dat → VX) (c : CodeX) (m : MX) : MX :=
  let a := m.acts.getLast?.getD default
  let b := blkAt (prcAt c a.proc) a.block
  match b.ins[a.at_.toNat]? with
  | some x => (m.last fun a => { a with at_ := a.at_ + 1 }).ins K x
  | none => m.fin c b.e
/-- so many steps at most; how many there were -/
def MX.go (K : Dat → VX) (c : CodeX) : Nat → MX → Nat → MX × Nat
  | fuel, m, n => if m.e ≠ 0 ∨ m.done = true then (m, n) else match fuel with
    | 0 => ({ m with e := 93 }, n)
    | fuel + 1 => MX.go K c fuel (m.step K c) (n + 1)
def MX.first (c : CodeX) (input : List UInt8) : MX :=
  let m : MX := ⟨[], [], [], input, [], ⟨4, 0, []⟩, vNone, false, 0⟩
  let r := m.made ⟨0, 0, [], false, []⟩
  r.1.call c r.2 [] true
end Go.Proofs.Ytcfgpbmcgmkmhaa.Vc
/-
  CODE RUN: what a machine does alike. No program in sight.
-/
namespace Go.Proofs.Ytcfgpbmcgmkmhaa.Vc
open Go

/-- a row written at a register reads so -/
theorem set_get (l : List VX) (r : Nat) (v : VX) (j : Nat) : (l.set r v)[j]? = if r = j ∧ j < l.length then some v else l[j]? := by
  rw [List.getElem?_set]
  by_cases e : r = j
  · subst e
    by_cases h : r < l.length
    · rw [if_pos rfl, if_pos h, if_pos ⟨rfl, h⟩]
    · rw [if_pos rfl, if_neg h, if_neg (fun hh => h hh.2), List.getElem?_eq_none (by omega)]
  · rw [if_neg e, if_neg (fun h => e h.1)]
/-- rows alike at some registers -/
structure AgreeR (L : Int → Prop) (l l' : List VX) : Prop where
  len : l.length = l'.length
  at_ : ∀ r : Nat, L (r : Int) → l[r]? = l'[r]?
theorem AgreeR.refl (L : Int → Prop) (l : List VX) : AgreeR L l l := ⟨rfl, fun _ _ => rfl⟩
theorem AgreeR.less {L L' : Int → Prop} {l l' : List VX} (h : AgreeR L l l') (hl : ∀ r, L' r → L r) : AgreeR L' l l' := ⟨h.len, fun r hr => h.at_ r (hl _ hr)⟩
theorem AgreeR.reg {L : Int → Prop} {a a' : ActX} (h : AgreeR L a.regs a'.regs) {r : Int} (h0 : 0 ≤ r) (hr : L r) : regAt a r = regAt a' r := by
  unfold regAt
  rw [List.getD_eq_getElem?_getD, List.getD_eq_getElem?_getD, h.at_ r.toNat (by rw [show ((r.toNat : Nat) : Int) = r by omega]; exact hr)]
theorem AgreeR.set {L L' : Int → Prop} {l l' : List VX} (h : AgreeR L l l') {t : Int} (h0 : 0 ≤ t) (v : VX) (hl : ∀ r, L' r → r = t ∨ L r) : AgreeR L' (l.set t.toNat v) (l'.set t.toNat v) := by
  refine ⟨by simpa using h.len, fun r hr => ?_⟩
  rw [set_get, set_get, ← h.len]
  by_cases e : t.toNat = r ∧ r < l.length
  · rw [if_pos e, if_pos e]
  · rw [if_neg e, if_neg e]
    rcases hl _ hr with h1 | h1
    · have e1 : t.toNat = r := by omega
      have e2 : ¬ r < l.length := fun hh => e ⟨e1, hh⟩
      rw [List.getElem?_eq_none (by omega), List.getElem?_eq_none (by rw [← h.len]; omega)]
    · exact h.at_ r h1
/-- one that is set, which is not asked for -/
theorem AgreeR.idle {L : Int → Prop} {l l' : List VX} (h : AgreeR L l l') {t : Int} (h0 : 0 ≤ t) (v : VX) (hl : ¬ L t) : AgreeR L l (l'.set t.toNat v) := by
  refine ⟨by simpa using h.len, fun r hr => ?_⟩
  rw [set_get, if_neg (fun e => hl (by rw [show t = (r : Int) by omega]; exact hr))]
  exact h.at_ r hr
/-! ### what is live, step by step -/
theorem live_ins {p : PrcX} {r : Int} {i k : Nat} {b : BlkX} {x : InsX} (hb : p.blocks[i]? = some b) (hx : b.ins[k]? = some x) : LiveAt p r i k ↔ r ∈ x.args ∨ (¬ x.fills r ∧ LiveAt p r i (k + 1)) := by
  have hk := (List.getElem?_eq_some_iff.1 hx).1
  have hg := (List.getElem?_eq_some_iff.1 hx).2
  have hd : b.ins.drop k = x :: b.ins.drop (k + 1) := by rw [List.drop_eq_getElem_cons hk, hg]
  constructor
  · rintro ⟨c, hc, h⟩
    rw [hb] at hc; cases hc
    rw [hd] at h
    exact h.imp id fun h => ⟨h.1, b, hb, h.2⟩
  · intro h
    refine ⟨b, hb, ?_⟩
    rw [hd]
    rcases h with h | ⟨h1, c, hc, h2⟩
    · exact .inl h
    · rw [hb] at hc; cases hc
      exact .inr ⟨h1, h2⟩
theorem live_end {p : PrcX} {r : Int} {i : Nat} {b : BlkX} (hb : p.blocks[i]? = some b) : LiveAt p r i b.ins.length ↔ b.e.reads r = true ∨ (¬ (b.e.calls = true ∧ b.e.to = r) ∧ ∃ j : Nat, (j : Int) ∈ b.e.leads p.blocks.length ∧ LiveAt p r j 0) := by
  have h1 : LiveAt p r i b.ins.length ↔ endLive b.e p.blocks.length r (LiveB p r) := by
    constructor
    · rintro ⟨c, hc, h⟩
      rw [hb] at hc; cases hc
      rw [List.drop_of_length_le (Nat.le_refl _)] at h
      exact h
    · intro h
      refine ⟨b, hb, ?_⟩
      rw [List.drop_of_length_le (Nat.le_refl _)]
      exact h
  rw [h1]
  unfold endLive
  exact ⟨fun h => h.imp id fun ⟨h2, j, h3, h4⟩ => ⟨h2, j, h3, liveB_iff.1 h4⟩, fun h => h.imp id fun ⟨h2, j, h3, h4⟩ => ⟨h2, j, h3, liveB_iff.2 h4⟩⟩
/-! ### two runs, step by step -/
inductive Reach (K : Dat → VX) (c : CodeX) : Nat → MX → MX → Prop
  | zero (m : MX) : Reach K c 0 m m
  | step {s : Nat} {m m2 : MX} : m.e = 0 → m.done = false → Reach K c s (m.step K c) m2 → Reach K c (s + 1) m m2
theorem Reach.trans {K : Dat → VX} {c : CodeX} {s t : Nat} {m m2 m3 : MX} (h : Reach K c s m m2) (h2 : Reach K c t m2 m3) : Reach K c (s + t) m m3 := by
  induction h with
  | zero m => rw [Nat.zero_add]; exact h2
  | @step s m m2 e1 e2 _ ih =>
    rw [show s + 1 + t = s + t + 1 by omega]
    exact .step e1 e2 (ih h2)
theorem go_stop {K : Dat → VX} {c : CodeX} {fuel : Nat} {m : MX} {n : Nat} (h : m.e ≠ 0 ∨ m.done = true) : MX.go K c fuel m n = (m, n) := by
  unfold MX.go; rw [if_pos h]
theorem go_next {K : Dat → VX} {c : CodeX} {fuel : Nat} {m : MX} {n : Nat} (h1 : m.e = 0) (h2 : m.done = false) : MX.go K c (fuel + 1) m n = MX.go K c fuel (m.step K c) (n + 1) := by
  conv => lhs; unfold MX.go
  rw [if_neg (by rw [h1, h2]; simp)]
theorem go_reach {K : Dat → VX} {c : CodeX} {s : Nat} {m m2 : MX} (h : Reach K c s m m2) (fuel n : Nat) : MX.go K c (fuel + s) m n = MX.go K c fuel m2 (n + s) := by
  induction h generalizing n with
  | zero m => rfl
  | @step s m m2 e1 e2 _ ih =>
    rw [← Nat.add_assoc, go_next e1 e2, ih]
    rw [show n + 1 + s = n + (s + 1) by omega]
theorem go_count {K : Dat → VX} {c : CodeX} : ∀ (fuel : Nat) (m : MX) (n : Nat), n ≤ (MX.go K c fuel m n).2
  | 0, m, n => by unfold MX.go; split <;> exact Nat.le_refl _
  | fuel + 1, m, n => by
    unfold MX.go
    split
    · exact Nat.le_refl _
    · exact Nat.le_trans (Nat.le_succ n) (go_count fuel _ (n + 1))
/-- two ends alike -/
def TermX (m m' : MX) : Prop := m.e = m'.e ∧ m.out = m'.out ∧ (m.e = 0 → m.h = m'.h ∧ m.told = m'.told)
/-- a run that goes alongside another one ends alike -/
theorem go_sim {K : Dat → VX} {c c' : CodeX} {R : MX → MX → Prop} {S : Nat} (hlive : ∀ m m', R m m' → m.e = 0 ∧ m.done = false)
    (hstep : ∀ m m', R m m' → ∃ s m1', s ≤ S ∧ Reach K c' s m' m1' ∧ ((((m.step K c).e ≠ 0 ∨ (m.step K c).done = true) ∧ (m1'.e ≠ 0 ∨ m1'.done = true) ∧ TermX (m.step K c) m1') ∨ R (m.step K c) m1')) :
    ∀ (fuel : Nat) (m m' : MX) (n n' fuel' : Nat), R m m' → (MX.go K c fuel m n).1.e ≠ 93 → S * ((MX.go K c fuel m n).2 - n) ≤ fuel' → TermX (MX.go K c fuel m n).1 (MX.go K c' fuel' m' n').1 := by
  intro fuel
  induction fuel with
  | zero =>
    intro m m' n n' fuel' hR he _
    obtain ⟨h1, h2⟩ := hlive m m' hR
    exfalso
    apply he
    unfold MX.go
    rw [if_neg (by rw [h1, h2]; simp)]
  | succ fuel ih =>
    intro m m' n n' fuel' hR he hf
    obtain ⟨h1, h2⟩ := hlive m m' hR
    rw [go_next h1 h2] at he hf ⊢
    obtain ⟨s, m1', hs, hr, hcase⟩ := hstep m m' hR
    have hcnt := go_count (K := K) (c := c) fuel (m.step K c) (n + 1)
    have hmul : S + S * ((MX.go K c fuel (m.step K c) (n + 1)).2 - (n + 1)) ≤ fuel' := by
      have e : (MX.go K c fuel (m.step K c) (n + 1)).2 - n = ((MX.go K c fuel (m.step K c) (n + 1)).2 - (n + 1)) + 1 := by omega
      rw [e, Nat.mul_add, Nat.mul_one] at hf
      omega
    obtain ⟨f2, rfl⟩ : ∃ f2, fuel' = f2 + s := ⟨fuel' - s, by omega⟩
    rw [go_reach hr]
    rcases hcase with ⟨h3, h4, h5⟩ | h3
    · rw [go_stop h3, go_stop h4]
      exact h5
    · exact ih _ _ _ _ _ h3 he (by omega)
end Go.Proofs.Ytcfgpbmcgmkmhaa.Vc
/-
  CODE RUN: closures alike. No program in sight.
-/
namespace Go.Proofs.Ytcfgpbmcgmkmhaa.Vc
open Go

structure CloR (W : ActX → ActX → Prop) (x y : CloX) : Prop where
  thing : x.thing = y.thing
  proc : x.proc = y.proc
  held : x.held = y.held
  kont : x.kont = y.kont
  acts : All2 W x.acts y.acts
theorem all2_find {W : ActX → ActX → Prop} (f : Int → Bool) : ∀ {l l' : List CloX}, All2 (CloR W) l l' → (l.findIdx? fun c => f c.thing) = l'.findIdx? fun c => f c.thing
  | _, _, .nil => rfl
  | _, _, .cons h t => by
    rw [List.findIdx?_cons, List.findIdx?_cons, h.thing, all2_find f t]
theorem all2_get {α β : Type} {R : α → β → Prop} : ∀ {l : List α} {l' : List β}, All2 R l l' → ∀ {i : Nat} {a : α}, l[i]? = some a → ∃ b, l'[i]? = some b ∧ R a b
  | _, _, .nil, i, a, h => by simp at h
  | _, _, .cons h t, 0, a, e => by simp at e; subst e; exact ⟨_, rfl, h⟩
  | _, _, .cons h t, i + 1, a, e => by
    obtain ⟨b, h1, h2⟩ := all2_get t (i := i) (by simpa using e)
    exact ⟨b, by simpa using h1, h2⟩
theorem all2_set {α β : Type} {R : α → β → Prop} : ∀ {l : List α} {l' : List β}, All2 R l l' → ∀ {i : Nat} {a : α} {b : β}, R a b → All2 R (l.set i a) (l'.set i b)
  | _, _, .nil, _, _, _, _ => .nil
  | _, _, .cons h t, 0, _, _, r => .cons r t
  | _, _, .cons h t, i + 1, _, _, r => .cons h (all2_set t r)
theorem all2_append {α β : Type} {R : α → β → Prop} : ∀ {l : List α} {l' : List β} {m : List α} {m' : List β}, All2 R l l' → All2 R m m' → All2 R (l ++ m) (l' ++ m')
  | _, _, _, _, .nil, h => h
  | _, _, _, _, .cons a t, h => .cons a (all2_append t h)
theorem all2_length {α β : Type} {R : α → β → Prop} : ∀ {l : List α} {l' : List β}, All2 R l l' → l.length = l'.length
  | _, _, .nil => rfl
  | _, _, .cons _ t => by simp [all2_length t]
/-- machines alike but for their acts -/
structure CoreR (W : ActX → ActX → Prop) (m m' : MX) : Prop where
  h : m.h = m'.h
  input : m.input = m'.input
  out : m.out = m'.out
  winders : m.winders = m'.winders
  told : m.told = m'.told
  e : m.e = m'.e
  done : m.done = m'.done
  clos : All2 (CloR W) m.clos m'.clos
theorem CoreR.acts {W : ActX → ActX → Prop} {m m' : MX} (h : CoreR W m m') (l l' : List ActX) : CoreR W { m with acts := l } { m' with acts := l' } := ⟨h.h, h.input, h.out, h.winders, h.told, h.e, h.done, h.clos⟩
/-- machines that run alike: those that wait by W, the last one by P -/
structure MR (W P : ActX → ActX → Prop) (m m' : MX) : Prop where
  core : CoreR W m m'
  e0 : m.e = 0
  d0 : m.done = false
  acts : ∃ ws a ws' a', m.acts = ws ++ [a] ∧ m'.acts = ws' ++ [a'] ∧ All2 W ws ws' ∧ P a a'
/-- both have ended, alike -/
def EndX2 (m m' : MX) : Prop := (m.e ≠ 0 ∨ m.done = true) ∧ (m'.e ≠ 0 ∨ m'.done = true) ∧ TermX m m'
theorem last_snoc {α : Type} (l : List α) (a : α) : (l ++ [a]).getLast? = some a := by simp
theorem all2_snoc {W : ActX → ActX → Prop} : ∀ {l l' : List ActX}, All2 W l l' → (l = [] ∧ l' = []) ∨ ∃ ws a ws' a', l = ws ++ [a] ∧ l' = ws' ++ [a'] ∧ All2 W ws ws' ∧ W a a'
  | _, _, .nil => .inl ⟨rfl, rfl⟩
  | _, _, .cons (a := a) (b := b) h t => by
    rcases all2_snoc t with ⟨rfl, rfl⟩ | ⟨ws, x, ws', x', rfl, rfl, h1, h2⟩
    · exact .inr ⟨[], a, [], b, rfl, rfl, .nil, h⟩
    · exact .inr ⟨a :: ws, x, b :: ws', x', rfl, rfl, .cons h h1, h2⟩
/-- a value told -/
theorem tell_rel {W P : ActX → ActX → Prop} {m m' : MX} (hc : CoreR W m m') (he : m.e = 0) (hd : m.done = false) (ha : All2 W m.acts m'.acts) (v : VX)
    (hW : ∀ a a', W a a' → P { a with regs := a.regs.set a.to.toNat v } { a' with regs := a'.regs.set a'.to.toNat v }) : EndX2 (m.tell v) (m'.tell v) ∨ MR W P (m.tell v) (m'.tell v) := by
  rcases all2_snoc ha with ⟨h1, h2⟩ | ⟨ws, a, ws', a', h1, h2, h3, h4⟩
  · refine .inl ?_
    have e1 : m.tell v = { m with told := v, done := true } := by unfold MX.tell; rw [h1]; rfl
    have e2 : m'.tell v = { m' with told := v, done := true } := by unfold MX.tell; rw [h2]; rfl
    rw [e1, e2]
    exact ⟨.inr rfl, .inr rfl, hc.e, hc.out, fun _ => ⟨hc.h, rfl⟩⟩
  · refine .inr ?_
    have e1 : m.tell v = { m with acts := ws ++ [{ a with regs := a.regs.set a.to.toNat v }] } := by unfold MX.tell; rw [h1, last_snoc]; simp
    have e2 : m'.tell v = { m' with acts := ws' ++ [{ a' with regs := a'.regs.set a'.to.toNat v }] } := by unfold MX.tell; rw [h2, last_snoc]; simp
    rw [e1, e2]
    exact ⟨hc.acts _ _, he, hd, ws, _, ws', _, rfl, rfl, h3, hW a a' h4⟩
theorem find_rel {W : ActX → ActX → Prop} {m m' : MX} (hc : CoreR W m m') (v : VX) : m.find v = m'.find v := by
  unfold MX.find
  exact all2_find (fun t => decide (v.kind = 8) && decide (t = v.int)) hc.clos
/-- something called; those that are there then wait -/
theorem call_rel {W P N : ActX → ActX → Prop} {c c' : CodeX} {m m' : MX} (hc : CoreR W m m') (he : m.e = 0) (hd : m.done = false) (v : VX) (args : List VX) (behind : Bool)
    (ha : All2 W (if behind then m.acts else m.acts.dropLast) (if behind then m'.acts else m'.acts.dropLast))
    (hW : ∀ a a' x, W a a' → P { a with regs := a.regs.set a.to.toNat x } { a' with regs := a'.regs.set a'.to.toNat x })
    (hp : ∀ i : Int, (prcAt c i).params = (prcAt c' i).params) (hN : ∀ (i : Int) (k : Nat), (args.length : Int) = (prcAt c i).params → N (newAct (prcAt c i) i k args) (newAct (prcAt c' i) i k args)) :
    EndX2 (m.call c v args behind) (m'.call c' v args behind) ∨ MR W P (m.call c v args behind) (m'.call c' v args behind) ∨ MR W N (m.call c v args behind) (m'.call c' v args behind) := by
  have hf := find_rel hc v
  have hend : ∀ z : Int, z ≠ 0 → EndX2 { m with e := z } { m' with e := z } := fun z hz => ⟨.inl hz, .inl hz, rfl, hc.out, fun h => absurd h hz⟩
  unfold MX.call
  rw [← hf]
  cases hk : m.find v with
  | none => exact .inl (hend 90 (by omega))
  | some k =>
    simp only
    have hkl : ∃ x, m.clos[k]? = some x := by
      unfold MX.find at hk
      have := List.findIdx?_eq_some_iff_getElem.1 hk
      obtain ⟨h1, _⟩ := this
      exact ⟨_, List.getElem?_eq_getElem h1⟩
    obtain ⟨x, hx⟩ := hkl
    obtain ⟨y, hy, hxy⟩ := all2_get hc.clos hx
    have gx : m.clos.getD k default = x := by rw [List.getD_eq_getElem?_getD, hx]; rfl
    have gy : m'.clos.getD k default = y := by rw [List.getD_eq_getElem?_getD, hy]; rfl
    rw [gx, gy, ← hxy.kont, ← hxy.proc]
    by_cases hkt : x.kont = true
    · rw [if_pos hkt, if_pos hkt]
      match args with
      | [] => exact .inl (hend 91 (by omega))
      | [z] =>
        rcases tell_rel (P := P) (hc.acts x.acts y.acts) he hd hxy.acts z fun a a' h => hW a a' z h with h | h
        · exact .inl h
        · exact .inr (.inl h)
      | _ :: _ :: _ => exact .inl (hend 91 (by omega))
    · rw [if_neg hkt, if_neg hkt, ← hp]
      by_cases hl : (args.length : Int) ≠ (prcAt c x.proc).params
      · rw [if_pos hl, if_pos hl]
        exact .inl (hend 91 (by omega))
      · rw [if_neg hl, if_neg hl]
        exact .inr (.inr ⟨hc.acts _ _, he, hd, _, _, _, _, rfl, rfl, ha, hN _ _ (Decidable.not_not.1 hl)⟩)
/-- a primitive done -/
theorem prim_rel {W : ActX → ActX → Prop} {m m' : MX} (hc : CoreR W m m') (s : List UInt8) (args : List VX) :
    CoreR W (m.prim s args).1 (m'.prim s args).1 ∧ (m.prim s args).2 = (m'.prim s args).2 ∧ (m.prim s args).1.acts = m.acts ∧ (m'.prim s args).1.acts = m'.acts ∧ (m.prim s args).1.done = m.done ∧ (m'.prim s args).1.done = m'.done := by
  obtain ⟨h, cl, ac, inp, out, wi, to, dn, e⟩ := m
  obtain ⟨h', cl', ac', inp', out', wi', to', dn', e'⟩ := m'
  obtain ⟨h1, h2, h3, h4, h5, h6, h7, h8⟩ := hc
  simp only at h1 h2 h3 h4 h5 h6 h7 h8
  subst h1 h2 h3 h4 h5 h6 h7
  unfold MX.prim
  split
  · cases inp with
    | nil => exact ⟨⟨rfl, rfl, rfl, rfl, rfl, rfl, rfl, h8⟩, rfl, rfl, rfl, rfl, rfl⟩
    | cons b l => exact ⟨⟨rfl, rfl, rfl, rfl, rfl, rfl, rfl, h8⟩, rfl, rfl, rfl, rfl, rfl⟩
  · split
    · simp only
      split
      · exact ⟨⟨rfl, rfl, rfl, rfl, rfl, rfl, rfl, h8⟩, rfl, rfl, rfl, rfl, rfl⟩
      · split
        · exact ⟨⟨rfl, rfl, rfl, rfl, rfl, rfl, rfl, h8⟩, rfl, rfl, rfl, rfl, rfl⟩
        · exact ⟨⟨rfl, rfl, rfl, rfl, rfl, rfl, rfl, h8⟩, rfl, rfl, rfl, rfl, rfl⟩
    · split
      · exact ⟨⟨rfl, rfl, rfl, rfl, rfl, rfl, rfl, h8⟩, rfl, rfl, rfl, rfl, rfl⟩
      · split
        · exact ⟨⟨rfl, rfl, rfl, rfl, rfl, rfl, rfl, h8⟩, rfl, rfl, rfl, rfl, rfl⟩
        · split
          · exact ⟨⟨rfl, rfl, rfl, rfl, rfl, rfl, rfl, h8⟩, rfl, rfl, rfl, rfl, rfl⟩
          · exact ⟨⟨rfl, rfl, rfl, rfl, rfl, rfl, rfl, h8⟩, rfl, rfl, rfl, rfl, rfl⟩
/-- a closure made -/
theorem made_rel {W : ActX → ActX → Prop} {m m' : MX} (hc : CoreR W m m') {x y : CloX} (hp : x.proc = y.proc) (hh : x.held = y.held) (hk : x.kont = y.kont) (ha : All2 W x.acts y.acts) :
    CoreR W (m.made x).1 (m'.made y).1 ∧ (m.made x).2 = (m'.made y).2 ∧ (m.made x).1.acts = m.acts ∧ (m'.made y).1.acts = m'.acts ∧ (m.made x).1.done = m.done ∧ (m.made x).1.e = m.e := by
  obtain ⟨h1, h2, h3, h4, h5, h6, h7, h8⟩ := hc
  unfold MX.made
  rw [← h1]
  exact ⟨⟨rfl, h2, h3, h4, h5, h6, h7, all2_append h8 (.cons ⟨rfl, hp, hh, hk, ha⟩ .nil)⟩, rfl, rfl, rfl, rfl, rfl⟩
theorem put_rel {W P : ActX → ActX → Prop} {m m' : MX} {ws ws' : List ActX} {a a' : ActX} (hc : CoreR W m m') (he : m.e = 0) (hd : m.done = false) (h1 : m.acts = ws ++ [a]) (h2 : m'.acts = ws' ++ [a']) (hw : All2 W ws ws') {r r' : Int} {v : VX}
    (hP : P { a with regs := a.regs.set r.toNat v } { a' with regs := a'.regs.set r'.toNat v }) : MR W P (m.put r v) (m'.put r' v) := by
  have e1 : m.put r v = { m with acts := ws ++ [{ a with regs := a.regs.set r.toNat v }] } := by unfold MX.put MX.last; rw [h1, last_snoc]; simp
  have e2 : m'.put r' v = { m' with acts := ws' ++ [{ a' with regs := a'.regs.set r'.toNat v }] } := by unfold MX.put MX.last; rw [h2, last_snoc]; simp
  rw [e1, e2]
  exact ⟨hc.acts _ _, he, hd, ws, _, ws', _, rfl, rfl, hw, hP⟩
/-- an instruction done -/
theorem ins_rel {W P : ActX → ActX → Prop} {K : Dat → VX} {m m' : MX} {ws ws' : List ActX} {a a' : ActX} {x x' : InsX} (hc : CoreR W m m') (he : m.e = 0) (hd : m.done = false) (h1 : m.acts = ws ++ [a]) (h2 : m'.acts = ws' ++ [a']) (hw : All2 W ws ws') (hclo : a.clo = a'.clo)
    (ho : x'.op = x.op) (hcn : x'.const = x.const) (hn : x'.num = x.num) (hargs : x'.args.map (regAt a') = x.args.map (regAt a))
    (hP : x.op ≠ tieB → ∀ v, P { a with regs := a.regs.set x.to.toNat v } { a' with regs := a'.regs.set x'.to.toNat v }) (hT : x.op = tieB → P a a') :
    EndX2 (m.ins K x) (m'.ins K x') ∨ MR W P (m.ins K x) (m'.ins K x') := by
  have g1 : m.acts.getLast?.getD default = a := by rw [h1, last_snoc]; rfl
  have g2 : m'.acts.getLast?.getD default = a' := by rw [h2, last_snoc]; rfl
  have he' : m'.e = 0 := by rw [← hc.e]; exact he
  have told : x.op ≠ tieB → ∀ (n n' : MX) (v v' : VX), CoreR W n n' → n.done = false → n.acts = m.acts → n'.acts = m'.acts → v = v' → EndX2 (if n.e = 0 then n.put x.to v else n) (if n'.e = 0 then n'.put x'.to v' else n') ∨ MR W P (if n.e = 0 then n.put x.to v else n) (if n'.e = 0 then n'.put x'.to v' else n') := fun hop n n' v v' hcc hdd ha1 ha2 hv => by
    subst hv
    by_cases hz : n.e = 0
    · rw [if_pos hz, if_pos (by rw [← hcc.e]; exact hz)]
      exact .inr (put_rel hcc hz hdd (ha1.trans h1) (ha2.trans h2) hw (hP hop v))
    · rw [if_neg hz, if_neg (by rw [← hcc.e]; exact hz)]
      exact .inl ⟨.inl hz, .inl (by rw [← hcc.e]; exact hz), hcc.e, hcc.out, fun h => absurd h hz⟩
  have held : (m.clos.getD a.clo.toNat default).held = (m'.clos.getD a'.clo.toNat default).held := by
    rw [← hclo, List.getD_eq_getElem?_getD, List.getD_eq_getElem?_getD]
    cases hx : m.clos[a.clo.toNat]? with
    | none =>
      have hl := all2_length hc.clos
      have : m'.clos[a.clo.toNat]? = none := by
        rw [List.getElem?_eq_none_iff] at hx ⊢
        omega
      rw [this]
    | some y =>
      obtain ⟨z, hz, hyz⟩ := all2_get hc.clos hx
      rw [hz]
      exact hyz.held
  have hend : ∀ z : Int, z ≠ 0 → EndX2 { m with e := z } { m' with e := z } := fun z hz => ⟨.inl hz, .inl hz, rfl, hc.out, fun h => absurd h hz⟩
  unfold MX.ins
  simp only [g1, g2, ho, hcn, hn, hargs]
  by_cases c1 : x.op = [99, 111, 110, 115, 116]
  · rw [if_pos c1, if_pos c1]
    exact told (by rw [c1]; decide) m m' _ _ hc hd rfl rfl rfl
  rw [if_neg c1, if_neg c1]
  by_cases c2 : x.op = [109, 111, 118, 101]
  · rw [if_pos c2, if_pos c2]
    exact told (by rw [c2]; decide) m m' _ _ hc hd rfl rfl rfl
  rw [if_neg c2, if_neg c2]
  by_cases c3 : x.op = [104, 101, 108, 100]
  · rw [if_pos c3, if_pos c3]
    exact told (by rw [c3]; decide) m m' _ _ hc hd rfl rfl (by rw [held])
  rw [if_neg c3, if_neg c3]
  by_cases c4 : x.op = [99, 108, 111, 115, 117, 114, 101]
  · rw [if_pos c4, if_pos c4]
    obtain ⟨k1, k2, k3, k4, k5, k6⟩ := made_rel hc (x := ⟨0, x.num, x.args.map (regAt a), false, []⟩) (y := ⟨0, x.num, x.args.map (regAt a), false, []⟩) rfl rfl rfl .nil
    exact told (by rw [c4]; decide) _ _ _ _ k1 (k5.trans hd) k3 k4 k2
  rw [if_neg c4, if_neg c4]
  by_cases c5 : x.op = tieB
  · rw [if_pos c5, if_pos c5, ← find_rel hc]
    cases hk : m.find ((x.args.map (regAt a)).getD 0 vNone) with
    | none => exact .inl (hend 80 (by omega))
    | some k =>
      simp only
      have hkl : ∃ y, m.clos[k]? = some y := by
        unfold MX.find at hk
        obtain ⟨h1, _⟩ := List.findIdx?_eq_some_iff_getElem.1 hk
        exact ⟨_, List.getElem?_eq_getElem h1⟩
      obtain ⟨y, hy⟩ := hkl
      obtain ⟨z, hz, hyz⟩ := all2_get hc.clos hy
      have gy : m.clos.getD k default = y := by rw [List.getD_eq_getElem?_getD, hy]; rfl
      have gz : m'.clos.getD k default = z := by rw [List.getD_eq_getElem?_getD, hz]; rfl
      rw [gy, gz, ← hyz.held]
      by_cases hl : (y.held.length : Int) ≤ x.num
      · rw [if_pos hl, if_pos hl]
        exact .inl (hend 80 (by omega))
      · rw [if_neg hl, if_neg hl]
        exact .inr ⟨⟨hc.h, hc.input, hc.out, hc.winders, hc.told, hc.e, hc.done, all2_set hc.clos ⟨hyz.thing, hyz.proc, rfl, hyz.kont, hyz.acts⟩⟩, he, hd, ws, a, ws', a', h1, h2, hw, hT c5⟩
  rw [if_neg c5, if_neg c5]
  obtain ⟨k1, k2, k3, k4, k5, k6⟩ := prim_rel hc x.op (x.args.map (regAt a))
  exact told c5 _ _ _ _ k1 (k5.trans hd) k3 k4 k2
theorem last_is {m : MX} {ws : List ActX} {a : ActX} (h : m.acts = ws ++ [a]) (f : ActX → ActX) : m.last f = { m with acts := ws ++ [f a] } := by
  unfold MX.last; rw [h, last_snoc]; simp
/-- where an act is behind a block's end -/
def endAct (x : EndX) (v : VX) (a : ActX) : ActX := { a with at_ := 0, block := if x.kind = 1 ∧ v = vNone then x.els else x.next, to := x.to }
/-- a block's end done -/
theorem fin_rel {W P N : ActX → ActX → Prop} {c c' : CodeX} {m m' : MX} {ws ws' : List ActX} {a a' : ActX} {x x' : EndX} (hc : CoreR W m m') (he : m.e = 0) (hd : m.done = false) (h1 : m.acts = ws ++ [a]) (h2 : m'.acts = ws' ++ [a']) (hw : All2 W ws ws')
    (hk : x'.kind = x.kind) (hargs : x'.args.map (regAt a') = x.args.map (regAt a)) (hreg : x.kind ≠ 0 → regAt a' x'.reg = regAt a x.reg)
    (hgo : x.kind ≠ 2 → x.kind ≠ 3 → x.kind ≠ 4 → x.kind ≠ 5 → x.kind ≠ 6 → P (endAct x (if x.kind = 0 then vNone else regAt a x.reg) a) (endAct x' (if x.kind = 0 then vNone else regAt a x.reg) a'))
    (hwait : x.kind = 4 ∨ x.kind = 6 → W (endAct x (regAt a x.reg) a) (endAct x' (regAt a x.reg) a'))
    (hW : ∀ a a' v, W a a' → P { a with regs := a.regs.set a.to.toNat v } { a' with regs := a'.regs.set a'.to.toNat v })
    (hp : ∀ i : Int, (prcAt c i).params = (prcAt c' i).params) (hN : ∀ (i : Int) (k : Nat) (args : List VX), (args.length : Int) = (prcAt c i).params → N (newAct (prcAt c i) i k args) (newAct (prcAt c' i) i k args)) :
    EndX2 (m.fin c x) (m'.fin c' x') ∨ MR W P (m.fin c x) (m'.fin c' x') ∨ MR W N (m.fin c x) (m'.fin c' x') := by
  have g1 : m.acts.getLast?.getD default = a := by rw [h1, last_snoc]; rfl
  have g2 : m'.acts.getLast?.getD default = a' := by rw [h2, last_snoc]; rfl
  have hv : (if x'.kind = 0 then vNone else regAt a' x'.reg) = (if x.kind = 0 then vNone else regAt a x.reg) := by
    rw [hk]
    by_cases h0 : x.kind = 0
    · rw [if_pos h0, if_pos h0]
    · rw [if_neg h0, if_neg h0, hreg h0]
  unfold MX.fin
  simp only [g1, g2, hargs, hv, last_is h1, last_is h2]
  obtain ⟨v, hvv⟩ : ∃ v, v = (if x.kind = 0 then vNone else regAt a x.reg) := ⟨_, rfl⟩
  rw [← hvv] at hgo ⊢
  have hvk : x.kind ≠ 0 → v = regAt a x.reg := fun h => by rw [hvv, if_neg h]
  show EndX2 _ _ ∨ _
  have d1 : (ws ++ [endAct x v a]).dropLast = ws := by simp
  have d2 : (ws' ++ [endAct x' v a']).dropLast = ws' := by simp
  have hc1 : CoreR W { m with acts := ws ++ [endAct x v a] } { m' with acts := ws' ++ [endAct x' v a'] } := hc.acts _ _
  have hcall : ∀ (n n' : MX) (args : List VX) (behind : Bool), CoreR W n n' → n.e = 0 → n.done = false → n.acts = ws ++ [endAct x v a] → n'.acts = ws' ++ [endAct x' v a'] → (behind = true → W (endAct x v a) (endAct x' v a')) → EndX2 (n.call c v args behind) (n'.call c' v args behind) ∨ MR W P (n.call c v args behind) (n'.call c' v args behind) ∨ MR W N (n.call c v args behind) (n'.call c' v args behind) := fun n n' args behind k1 k2 k3 k4 k5 k6 => by
    refine call_rel k1 k2 k3 v args behind ?_ (fun a a' z h => hW a a' z h) hp fun i k h => hN i k args h
    rw [k4, k5]
    cases behind with
    | true => exact all2_append hw (.cons (k6 rfl) .nil)
    | false => simp only [Bool.false_eq_true, if_false, d1, d2]; exact hw
  have hE : ∀ y : EndX, ∀ b : ActX, ({ b with at_ := 0, block := if y.kind = 1 ∧ v = vNone then y.els else y.next, to := y.to } : ActX) = endAct y v b := fun y b => rfl
  simp only [hE]
  rw [hk]
  by_cases k2 : x.kind = 2
  · rw [if_pos k2, if_pos k2]
    simp only [d1, d2]
    rcases tell_rel (P := P) (hc.acts ws ws') he hd hw v fun a a' h => hW a a' v h with h | h
    · exact .inl h
    · exact .inr (.inl h)
  rw [if_neg k2, if_neg k2]
  by_cases k3 : x.kind = 3
  · rw [if_pos k3, if_pos k3]
    exact hcall _ _ _ false hc1 he hd rfl rfl (fun h => by cases h)
  rw [if_neg k3, if_neg k3]
  by_cases k4 : x.kind = 4
  · rw [if_pos k4, if_pos k4]
    exact hcall _ _ _ true hc1 he hd rfl rfl (fun _ => by rw [hvk (by omega)]; exact hwait (.inl k4))
  rw [if_neg k4, if_neg k4]
  by_cases k5 : x.kind = 5
  · rw [if_pos k5, if_pos k5]
    simp only [d1, d2]
    obtain ⟨m1, m2, m3, m4, m5, m6⟩ := made_rel hc1 (x := ⟨0, 0, [], true, ws⟩) (y := ⟨0, 0, [], true, ws'⟩) rfl rfl rfl hw
    rw [← m2]
    exact hcall _ _ _ false m1 (m6.trans he) (m5.trans hd) m3 m4 (fun h => by cases h)
  rw [if_neg k5, if_neg k5]
  by_cases k6 : x.kind = 6
  · rw [if_pos k6, if_pos k6]
    have hww := hwait (.inr k6)
    rw [← hvk (by omega)] at hww
    obtain ⟨m1, m2, m3, m4, m5, m6⟩ := made_rel hc1 (x := ⟨0, 0, [], true, ws ++ [endAct x v a]⟩) (y := ⟨0, 0, [], true, ws' ++ [endAct x' v a']⟩) rfl rfl rfl (all2_append hw (.cons hww .nil))
    rw [← m2]
    exact hcall _ _ _ true m1 (m6.trans he) (m5.trans hd) m3 m4 (fun _ => hww)
  rw [if_neg k6, if_neg k6]
  exact .inr (.inl ⟨hc1, he, hd, ws, _, ws', _, rfl, rfl, hw, hgo k2 k3 k4 k5 k6⟩)
end Go.Proofs.Ytcfgpbmcgmkmhaa.Vc
/-
  LIVE: what stands in an idle register is of no moment. No program in sight.
-/
namespace Go.Proofs.Ytcfgpbmcgmkmhaa.Vc
open Go

/-- what is asked of a code -/
structure CodeOk (c : CodeX) : Prop where
  ins : ∀ p ∈ c, ∀ b ∈ p.blocks, ∀ x ∈ b.ins, (∀ r ∈ x.args, 0 ≤ r) ∧ (x.op ≠ tieB → 0 ≤ x.to)
  fin : ∀ p ∈ c, ∀ b ∈ p.blocks, (∀ r ∈ b.e.args, 0 ≤ r) ∧ 0 ≤ b.e.reg ∧ 0 ≤ b.e.to ∧ (b.e.kind = 0 ∨ b.e.kind = 1 ∨ b.e.kind = 4 ∨ b.e.kind = 6 → 0 ≤ b.e.next ∧ b.e.next < p.blocks.length) ∧ (b.e.kind = 1 → 0 ≤ b.e.els ∧ b.e.els < p.blocks.length) ∧ 0 ≤ b.e.kind ∧ b.e.kind ≤ 6 ∧ (b.e.args ≠ [] → b.e.kind = 3 ∨ b.e.kind = 4)
def constB : List UInt8 := [99, 111, 110, 115, 116]
def idleB (t : Int) (d : Dat) (bl : BlkX) : BlkX := ⟨⟨constB, t, [], d, 0⟩ :: bl.ins, bl.e⟩
def idleP (t : Int) (d : Dat) (bi : Nat) (bl : BlkX) (p : PrcX) : PrcX := { p with blocks := p.blocks.set bi (idleB t d bl) }
section
variable (c : CodeX) (i bi : Nat) (p : PrcX) (bl : BlkX) (t : Int) (d : Dat)
def idleC : CodeX := c.set i (idleP t d bi bl p)
def offX (a : ActX) : Int := if a.proc.toNat = i ∧ a.block.toNat = bi then 1 else 0
/-- what must be alike -/
def needX (a : ActX) (r : Int) : Prop := LiveAt (prcAt c a.proc) r a.block.toNat a.at_.toNat ∨ (prcAt c a.proc).blocks[a.block.toNat]? = none
structure RunX (a a' : ActX) : Prop where
  proc : a'.proc = a.proc
  clo : a.clo = a'.clo
  block : a'.block = a.block
  at0 : 0 ≤ a.at_
  len : a.at_ ≤ (blkAt (prcAt c a.proc) a.block).ins.length
  at_ : a'.at_ = a.at_ + offX i bi a ∨ (a.at_ = 0 ∧ a'.at_ = 0)
  regs : AgreeR (needX c a) a.regs a'.regs
structure WaitX (a a' : ActX) : Prop where
  proc : a'.proc = a.proc
  clo : a.clo = a'.clo
  block : a'.block = a.block
  at0 : a.at_ = 0
  at0' : a'.at_ = 0
  to : a'.to = a.to
  to0 : 0 ≤ a.to
  regs : AgreeR (fun r => needX c a r ∧ r ≠ a.to) a.regs a'.regs
end
section
variable {c : CodeX} {i bi : Nat} {p : PrcX} {bl : BlkX} {t : Int} {d : Dat}
theorem wait_run {a a' : ActX} (v : VX) (h : WaitX c a a') : RunX c i bi { a with regs := a.regs.set a.to.toNat v } { a' with regs := a'.regs.set a'.to.toNat v } := by
  refine ⟨h.proc, h.clo, h.block, ?_, ?_, .inr ⟨h.at0, h.at0'⟩, ?_⟩
  · show 0 ≤ a.at_; rw [h.at0]; exact Int.le_refl _
  · show a.at_ ≤ _; rw [h.at0]; omega
  · show AgreeR _ (a.regs.set _ v) (a'.regs.set _ v)
    rw [h.to]
    exact h.regs.set h.to0 v fun r hr => by
      by_cases e : r = a.to
      · exact .inl e
      · exact .inr ⟨hr, e⟩
theorem idle_prc (hp : c[i]? = some p) (j : Int) : prcAt (idleC c i bi p bl t d) j = if j.toNat = i then idleP t d bi bl p else prcAt c j := by
  unfold prcAt idleC
  rw [List.getD_eq_getElem?_getD, List.getD_eq_getElem?_getD, List.getElem?_set]
  have hi := (List.getElem?_eq_some_iff.1 hp).1
  by_cases e : j.toNat = i
  · rw [if_pos e, if_pos e.symm, if_pos hi]; rfl
  · rw [if_neg e, if_neg (Ne.symm e)]
theorem prc_is (hp : c[i]? = some p) {j : Int} (h : j.toNat = i) : prcAt c j = p := by
  unfold prcAt; rw [List.getD_eq_getElem?_getD, h, hp]; rfl
theorem idle_blk (hp : c[i]? = some p) (hb : p.blocks[bi]? = some bl) (a : ActX) : blkAt (prcAt (idleC c i bi p bl t d) a.proc) a.block = if a.proc.toNat = i ∧ a.block.toNat = bi then idleB t d bl else blkAt (prcAt c a.proc) a.block := by
  rw [idle_prc hp]
  have hbl := (List.getElem?_eq_some_iff.1 hb).1
  by_cases e : a.proc.toNat = i
  · rw [if_pos e, prc_is hp e]
    unfold blkAt idleP
    rw [List.getD_eq_getElem?_getD, List.getD_eq_getElem?_getD, List.getElem?_set]
    by_cases e2 : a.block.toNat = bi
    · have h1 : bi = a.block.toNat := e2.symm
      have h2 : a.proc.toNat = i ∧ a.block.toNat = bi := ⟨e, e2⟩
      simp only [if_pos h1, if_pos h2, if_pos hbl]; rfl
    · have h1 : ¬ bi = a.block.toNat := Ne.symm e2
      have h2 : ¬ (a.proc.toNat = i ∧ a.block.toNat = bi) := fun h => e2 h.2
      simp only [if_neg h1, if_neg h2]
  · rw [if_neg e, if_neg (fun h => e h.1)]
theorem new_run (hp : c[i]? = some p) (j : Int) (k : Nat) (args : List VX) : RunX c i bi (newAct (prcAt c j) j k args) (newAct (prcAt (idleC c i bi p bl t d) j) j k args) := by
  have hr : (prcAt (idleC c i bi p bl t d) j).regs = (prcAt c j).regs := by
    rw [idle_prc hp]
    by_cases e : j.toNat = i
    · rw [if_pos e, prc_is hp e]; rfl
    · rw [if_neg e]
  have : newAct (prcAt (idleC c i bi p bl t d) j) j k args = newAct (prcAt c j) j k args := by unfold newAct; rw [hr]
  rw [this]
  exact ⟨rfl, rfl, rfl, Int.le_refl _, by show (0 : Int) ≤ _; omega, .inr ⟨rfl, rfl⟩, AgreeR.refl _ _⟩
end
end Go.Proofs.Ytcfgpbmcgmkmhaa.Vc
