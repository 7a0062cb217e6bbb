/-
  Texts on the way to the statement, one behind the other, without what it does not reach.
-/
import Derived.Test.YtibinelkmlcmgaaGreatDoorKj
import Derived.Lib.ItoaNum
set_option linter.unusedSimpArgs false
set_option linter.unusedVariables false
set_option maxRecDepth 100000
/-
  DATA: a number's text.
-/
namespace Go.Proofs.YtibinelkmlcmgaaGreatDoor.Vc
open Go

theorem nDigits_le : ∀ (k u : Nat), u < 10 ^ (k + 1) → Lib.nDigits u ≤ k + 1
  | 0, u, h => by rw [Lib.nDigits_small (by simpa using h)]; omega
  | k + 1, u, h => by
    by_cases h1 : u < 10
    · rw [Lib.nDigits_small h1]; omega
    · rw [Lib.nDigits_big h1]
      have := nDigits_le k (u / 10) (by rw [Nat.pow_succ] at h; omega)
      omega
theorem digits_len (n : Nat) (h : n ≤ 9223372036854775808) : (Lib.decDigits n).length ≤ 20 := by
  rw [Lib.decDigits_length]
  exact nDigits_le 19 n (by omega)

theorem tmod10 (n : Int) : (0 ≤ n → n.tmod 10 = ((n.natAbs % 10 : Nat) : Int)) ∧ (n ≤ 0 → n.tmod 10 = -((n.natAbs % 10 : Nat) : Int)) := by
  constructor
  · intro h; rw [Int.tmod_eq_emod_of_nonneg h]; omega
  · intro h
    have : n = -(-n) := by omega
    rw [this, Int.neg_tmod, Int.tmod_eq_emod_of_nonneg (by omega)]; omega
theorem tdiv10 (n : Int) : (0 ≤ n → n.tdiv 10 = ((n.natAbs / 10 : Nat) : Int)) ∧ (n ≤ 0 → n.tdiv 10 = -((n.natAbs / 10 : Nat) : Int)) := by
  constructor
  · intro h; rw [Int.tdiv_eq_ediv_of_nonneg h]; omega
  · intro h
    have : n = -(-n) := by omega
    rw [this, Int.neg_tdiv, Int.tdiv_eq_ediv_of_nonneg (by omega)]; omega
theorem Digits_gives (n0 : Int) (h0 : InI n0) (H : PH) : Gives Tryz.prog n_scrimshawref02_Digits [.int .i64 n0] H (txt (Lib.itoa n0)) := by
  refine tri_scrimshawref02_Digits [.int .i64 n0] (by kernel_rfl) (by kernel_rfl) ?_
  obtain ⟨a0, a1⟩ := h0
  refine ⟨fun m vs H' => ∃ (n : Int) (s : List UInt8), vs = [.int .i64 n, txt s] ∧ m = n.natAbs ∧ n.natAbs ≤ n0.natAbs ∧ (0 ≤ n0 → 0 ≤ n) ∧ (n0 < 0 → n ≤ 0) ∧ Lib.decDigits n.natAbs ++ s = Lib.decDigits n0.natAbs ∧ PH.le H H', ⟨n0.natAbs, n0, [], rfl, rfl, Nat.le_refl _, fun h => h, fun h => by omega, by simp, PH.le_refl H⟩, ?_⟩
  rintro m vs H' _ ⟨n, s, rfl, rfl, hn, hp, hm, heq, hle⟩
  have hlen := congrArg List.length heq
  have h20 := digits_len n0.natAbs (by omega)
  simp only [List.length_append] at hlen
  -- the last digit
  have hrem : (if n.tmod 10 < 0 then IntKind.i64.wrap (0 - n.tmod 10) else n.tmod 10) = ((n.natAbs % 10 : Nat) : Int) := by
    have h10 := tmod10 n
    have hlt : n.natAbs % 10 < 10 := Nat.mod_lt _ (by omega)
    rcases Int.le_total 0 n with h | h
    · have := h10.1 h
      rw [if_neg (by omega)]; exact this
    · have := h10.2 h
      split
      · rw [w64 (by omega) (by omega)]; omega
      · omega
  have hdig : IntKind.u8.wrap (IntKind.i64.wrap (48 + ((n.natAbs % 10 : Nat) : Int))) = (((UInt8.ofNat (48 + n.natAbs % 10)).toNat : Nat) : Int) := by
    have : n.natAbs % 10 < 10 := Nat.mod_lt _ (by omega)
    rw [w64 (by omega) (by omega), wu8 (by omega) (by omega), UInt8.toNat_ofNat_of_lt' (by show _ < 256; omega)]; omega
  refine byteText (c := UInt8.ofNat (48 + n.natAbs % 10)) ?_ fun r hr => ⟨[_], rfl, rfl, pendNil, ?_⟩
  · show Value.int .u8 (IntKind.u8.wrap (IntKind.i64.wrap (48 + iOf (if decide (n.tmod 10 < 0) = true then Value.int .i64 (IntKind.i64.wrap (0 - n.tmod 10)) else Value.int .i64 (n.tmod 10))))) = _
    have e1 : iOf (if decide (n.tmod 10 < 0) = true then Value.int .i64 (IntKind.i64.wrap (0 - n.tmod 10)) else Value.int .i64 (n.tmod 10)) = ((n.natAbs % 10 : Nat) : Int) := by
      rw [← hrem]
      by_cases hx : n.tmod 10 < 0 <;> simp [hx, iOf]
    rw [e1, hdig]
  generalize hdg : UInt8.ofNat (48 + n.natAbs % 10) = dg at hdig ⊢
  show wpS _ (execOp _ _) _ _ _
  rw [exec_convert]
  have hmax : IntKind.i64.max = 9223372036854775807 := rfl
  have hle2 : PH.le H (H'.upd r (.cells #[.int .u8 (dg.toNat : Int)] 5)) := PH.le_trans hle (PH.le_upd hr)
  have hdv : IntKind.i64.wrap (n.tdiv 10) = n.tdiv 10 := by
    have hd := tdiv10 n
    rcases Int.le_total 0 n with h | h
    · have := hd.1 h; rw [w64 (by omega) (by omega)]
    · have := hd.2 h; rw [w64 (by omega) (by omega)]
  refine wpS_toText (l := [dg]) uBytes uString uByte (fun j u hu => ?_) ⟨[_], rfl, rfl, pendNil, fun _ => ?_, fun hz => ?_, fun hz => ?_⟩
  · rw [Addr.add_plain, PH.cell_at PH.upd_same]
    cases j with
    | zero => simpa using hu
    | succ j => simp at hu
  · simp only [Chk.holds, ev0, ev, evV, List.cons_append, List.nil_append, List.getD_cons_zero, List.getD_cons_succ, List.map_cons, List.map_nil, iOf, bOf, sOf, pOf, slLen, slBase, cmpI, arI, Value.ite_bool, int_beq, int_bne, ite_band, ite_bor, txt_size, List.length_cons, List.length_nil, hmax]; omega
  · simp only [ev0, ev, evV, List.cons_append, List.nil_append, List.getD_cons_zero, List.getD_cons_succ, List.map_cons, List.map_nil, iOf, bOf, sOf, pOf, slLen, slBase, cmpI, arI, Value.ite_bool, int_beq, int_bne, ite_band, ite_bor, hdv, decide_eq_true_eq] at hz
    have hlt : n.natAbs < 10 := by
      have hd := tdiv10 n
      rcases Int.le_total 0 n with h | h
      · have := hd.1 h; omega
      · have := hd.2 h; omega
    have hone : Lib.decDigits n0.natAbs = dg :: s := by
      rw [← heq, Lib.decDigits_one hlt, ← hdg, Nat.mod_eq_of_lt hlt]; rfl
    refine ⟨fun hs => ?_, fun hs => ?_⟩
    · simp only [ev0, ev, evV, List.cons_append, List.nil_append, List.getD_cons_zero, List.getD_cons_succ, List.map_cons, List.map_nil, iOf, bOf, sOf, pOf, slLen, slBase, cmpI, arI, Value.ite_bool, int_beq, int_bne, ite_band, ite_bor, decide_eq_true_eq] at hs
      refine ⟨fun _ => ?_, ?_, hle2⟩
      · simp only [Chk.holds, ev0, ev, evV, List.cons_append, List.nil_append, List.getD_cons_zero, List.getD_cons_succ, List.map_cons, List.map_nil, iOf, bOf, sOf, pOf, slLen, slBase, cmpI, arI, Value.ite_bool, int_beq, int_bne, ite_band, ite_bor, cat_txt, txt_size, List.length_append, List.length_cons, List.length_nil, hmax]; omega
      · simp only [ev0, ev, evV, List.cons_append, List.nil_append, List.getD_cons_zero, List.getD_cons_succ, List.map_cons, List.map_nil, iOf, bOf, sOf, pOf, slLen, slBase, cmpI, arI, Value.ite_bool, int_beq, int_bne, ite_band, ite_bor, cat_txt, Lib.itoa, if_pos hs, hone]
    · simp only [ev0, ev, evV, List.cons_append, List.nil_append, List.getD_cons_zero, List.getD_cons_succ, List.map_cons, List.map_nil, iOf, bOf, sOf, pOf, slLen, slBase, cmpI, arI, Value.ite_bool, int_beq, int_bne, ite_band, ite_bor, decide_eq_false_iff_not] at hs
      refine ⟨?_, hle2⟩
      have : n0.toNat = n0.natAbs := by omega
      simp only [ev0, ev, evV, List.cons_append, List.nil_append, List.getD_cons_zero, List.getD_cons_succ, List.map_cons, List.map_nil, iOf, bOf, sOf, pOf, slLen, slBase, cmpI, arI, Value.ite_bool, int_beq, int_bne, ite_band, ite_bor, cat_txt, Lib.itoa, if_neg hs, this, hone]
  · simp only [ev0, ev, evV, List.cons_append, List.nil_append, List.getD_cons_zero, List.getD_cons_succ, List.map_cons, List.map_nil, iOf, bOf, sOf, pOf, slLen, slBase, cmpI, arI, Value.ite_bool, int_beq, int_bne, ite_band, ite_bor, hdv, decide_eq_false_iff_not] at hz
    have hd := tdiv10 n
    have hab : (n.tdiv 10).natAbs = n.natAbs / 10 := by
      rcases Int.le_total 0 n with h | h
      · have := hd.1 h; omega
      · have := hd.2 h; omega
    have hge : ¬ n.natAbs < 10 := fun h => hz (by omega)
    refine ⟨_, lookup_hit, (n.tdiv 10).natAbs, by omega, n.tdiv 10, dg :: s, ?_, rfl, by omega, fun h => ?_, fun h => ?_, ?_, hle2⟩
    · simp only [ev0, ev, evV, List.cons_append, List.nil_append, List.getD_cons_zero, List.getD_cons_succ, List.map_cons, List.map_nil, iOf, bOf, sOf, pOf, slLen, slBase, cmpI, arI, Value.ite_bool, int_beq, int_bne, ite_band, ite_bor, hdv, cat_txt]
    · have := hd.1 (hp h); omega
    · have := hd.2 (hm h); omega
    · rw [hab, ← heq]
      conv => rhs; rw [Lib.decDigits, dif_neg hge]
      rw [hdg, List.append_assoc]; rfl
end Go.Proofs.YtibinelkmlcmgaaGreatDoor.Vc
/-
  DATA: the text of a datum, by definition.
-/
namespace Go.Proofs.YtibinelkmlcmgaaGreatDoor.Vc
open Go

def byteOf (n : Int) : UInt8 := UInt8.ofNat (n % 256).toNat
mutual
/-- a datum's text; bare: its show -/
def Dat.txtL (bare : Bool) : Dat → List UInt8
  | .mk k n t l => if k = 0 then (if n = 0 then [35, 102] else [35, 116]) else if k = 1 then Lib.itoa n else if k = 2 then (if bare then [byteOf n] else charL (byteOf n)) else if k = 3 then (if bare then t else quotedL t) else if k = 4 then t
      else (if k = 7 then [35, 40] else [40]) ++ Dats.txtL bare (decide (k = 6)) true l ++ [41]
def Dats.txtL (bare dotted : Bool) : Bool → List Dat → List UInt8
  | _, [] => []
  | first, d :: l => (if first then [] else [32]) ++ (if dotted && l.isEmpty then [46, 32] else []) ++ Dat.txtL bare d ++ Dats.txtL bare dotted false l
end
theorem charL_len (c : UInt8) : (charL c).length ≤ 9 := by
  unfold charL; split
  · simp
  split
  · simp
  split
  · simp
  · simp [twoL]
theorem itoa_len (n : Int) (h : InI n) : (Lib.itoa n).length ≤ 21 := by
  obtain ⟨a, b⟩ := h
  unfold Lib.itoa; split
  · have := digits_len n.natAbs (by omega); simp only [List.length_cons]; omega
  · have := digits_len n.toNat (by omega); omega
theorem quotedL_len (l : List UInt8) : (quotedL l).length ≤ 4 * l.length + 2 := by
  have := quotes_len l
  simp only [quotedL, List.length_append, List.length_cons, List.length_nil]; omega
mutual
theorem Dat.chk_len (bare : Bool) : ∀ (d : Dat) (deep seen : Nat), seen ≤ 4096 → (d.chk deep seen).2 = 0 → seen < (d.chk deep seen).1 ∧ (d.txtL bare).length + 3 ≤ 16500 * ((d.chk deep seen).1 - seen)
  | .mk k n t l, deep, seen, hs, h => by
    simp only [Dat.chk] at h ⊢
    split at h
    · simp at h
    rename_i h0
    rw [if_neg h0]
    split at h
    · simp at h
    rename_i h1
    rw [if_neg h1]
    split at h
    · simp at h
    rename_i h2
    rw [if_neg h2]
    have hf : formOk (.mk k n t l) = true := by simpa using h2
    have ih := Dats.chk_len bare (decide (k = 6)) true l (deep + 1) (seen + 1) (by omega) h
    refine ⟨by omega, ?_⟩
    have hch := charL_len (byteOf n)
    have hqu := quotedL_len t
    have hit : k = 1 → (Lib.itoa n).length ≤ 21 := fun hk => itoa_len n (by
      subst hk
      simp only [formOk, Dat.kind, Dat.int, Dat.text, Dat.list] at hf
      simp at hf
      obtain ⟨⟨_, h5⟩, h6⟩ := hf
      have h5 := of_decide_eq_true h5
      have h6 := of_decide_eq_true h6
      exact ⟨by omega, by omega⟩)
    have ht3 : k = 3 → t.length ≤ 4096 := fun hk => by
      subst hk
      simp only [formOk, Dat.kind, Dat.int, Dat.text, Dat.list] at hf
      simp at hf; exact of_decide_eq_true hf.2
    have ht4 : k = 4 → t.length ≤ 64 := fun hk => by
      subst hk
      simp only [formOk, Dat.kind, Dat.int, Dat.text, Dat.list, nameOk] at hf
      simp at hf; exact of_decide_eq_true hf.2.1.1.2
    simp only [Dat.txtL]
    split
    · split <;> simp <;> omega
    split
    · rename_i hk; have := hit hk; omega
    split
    · split
      · simp; omega
      · omega
    split
    · rename_i hk; have := ht3 hk
      split <;> omega
    split
    · rename_i hk; have := ht4 hk; omega
    · simp only [List.length_append, List.length_cons, List.length_nil]
      split <;> simp only [List.length_cons, List.length_nil] <;> omega
theorem Dats.chk_len (bare dotted : Bool) : ∀ (first : Bool) (l : List Dat) (deep seen : Nat), seen ≤ 4096 → (Dats.chk l deep seen).2 = 0 → seen ≤ (Dats.chk l deep seen).1 ∧ (Dats.txtL bare dotted first l).length ≤ 16500 * ((Dats.chk l deep seen).1 - seen)
  | _, [], _, _, _, _ => by simp [Dats.chk, Dats.txtL]
  | first, d :: l, deep, seen, hs, h => by
    simp only [Dats.chk] at h ⊢
    split at h
    · rename_i hx; exact absurd h hx
    rename_i hx
    rw [if_neg hx]
    have i1 := Dat.chk_len bare d deep seen hs (by simpa using hx)
    have hle := Dat.chk_le d deep seen hs
    have i2 := Dats.chk_len bare dotted false l deep (d.chk deep seen).1 hle h
    refine ⟨by omega, ?_⟩
    simp only [Dats.txtL, List.length_append]
    have e1 : (if first = true then [] else [32] : List UInt8).length ≤ 1 := by split <;> simp
    have e2 : (if (dotted && l.isEmpty) = true then [46, 32] else [] : List UInt8).length ≤ 2 := by split <;> simp
    omega
end
end Go.Proofs.YtibinelkmlcmgaaGreatDoor.Vc
/-
  DATA: the text of the document's answer.
-/
namespace Go.Proofs.YtibinelkmlcmgaaGreatDoor.Vc
open Go

theorem drop_get {α : Type} {l : List α} {k : Nat} {a : α} (h : l[k]? = some a) : l.drop k = a :: l.drop (k + 1) := by
  obtain ⟨hk, rfl⟩ := List.getElem?_eq_some_iff.1 h
  exact List.drop_eq_getElem_cons hk
end Go.Proofs.YtibinelkmlcmgaaGreatDoor.Vc
/-
  A NUMBER's TEXT BEHIND BYTES: strconv.AppendInt, over a part of the heap; by the shelf's contracts of the parts.
-/
namespace Go.Proofs.YtibinelkmlcmgaaGreatDoor.Vc
open Go

/-- the table of powers lies in H -/
def Tab (H : PH) : Prop := ∃ g e f, Tryz.prog.globalNamed "internal/strconv.uint64pow10" = some g ∧ H g = some (.cells (Lib.pow10Tab.map fun z => Value.int .u64 z).toArray e f)
theorem Tab.le {H H' : PH} (h : Tab H) (hl : PH.le H H') : Tab H' := by
  obtain ⟨g, e, f, h1, h2⟩ := h; exact ⟨g, e, f, h1, hl _ _ h2⟩
theorem Tab.is {H : PH} {w : World} (h : Tab H) (hv : Vis H w) : Lib.TabIs Tryz.prog w "internal/strconv.uint64pow10" .u64 Lib.pow10Tab := by
  obtain ⟨g, e, f, h1, h2⟩ := h
  unfold Lib.TabIs World.var?
  rw [h1]
  simp only [Option.bind_some, hv _ _ h2]

end Go.Proofs.YtibinelkmlcmgaaGreatDoor.Vc
/-
  DATA: the writer: a character, a string.
-/
namespace Go.Proofs.YtibinelkmlcmgaaGreatDoor.Vc
open Go

/-- a row of bytes hangs on no other memory -/
theorem bytes_any {H H' : PH} : ∀ {l : List UInt8} {xs : List Value}, PV.RepRow H (l.flatMap pv) xs → PV.RepRow H' (l.flatMap pv) xs
  | [], xs, h => by simp only [List.flatMap_nil, PV.RepRow] at h ⊢; exact h
  | c :: l, xs, h => by
    rw [List.flatMap_cons] at h ⊢
    have h' : PV.RepRow H (.int .u8 (c.toNat : Int) :: l.flatMap pv) xs := h
    show PV.RepRow H' (.int .u8 (c.toNat : Int) :: l.flatMap pv) xs
    simp only [PV.RepRow, PV.Rep] at h' ⊢
    obtain ⟨v, vs, rfl, h1, h2⟩ := h'
    exact ⟨v, vs, rfl, h1, bytes_any h2⟩
/-- THE WRITER's STATE: at w lies its row of bytes, and whether it writes bare; what is in H0 stands. -/
structure WSv (H0 H : PH) (w : Nat) (T : TypeId) (out : List UInt8) (bare : Bool) (bv : Value) : Prop where
  at_ : H w = some (.cells #[bv, .bool bare] T (0, 0))
  acc : Acc H0 H 5 out bv
  own : ob bv ≠ some w
  base : H0 w = none
def WS (H0 H : PH) (w : Nat) (T : TypeId) (out : List UInt8) (bare : Bool) : Prop := ∃ bv, WSv H0 H w T out bare bv

section
variable {H0 H : PH} {w : Nat} {T : TypeId} {out : List UInt8} {bare : Bool} {bv : Value}
theorem WSv.row (h : WSv H0 H w T out bare bv) : rowAt H ((some ⟨w, 0, none⟩ : Option Addr).map (·.add 0)) [bv] := ⟨_, rfl, fun i v hi => by
  show H.cell? ((Addr.add ⟨w, 0, none⟩ 0).add i) = _
  rw [Addr.add_plain, Addr.add_plain, PH.cell_at h.at_]
  cases i with
  | zero => simpa using hi
  | succ i => simp at hi⟩
theorem WSv.row1 (h : WSv H0 H w T out bare bv) : rowAt H ((some ⟨w, 0, none⟩ : Option Addr).map (·.add 1)) [.bool bare] := ⟨_, rfl, fun i v hi => by
  show H.cell? ((Addr.add ⟨w, 0, none⟩ 1).add i) = _
  rw [Addr.add_plain, Addr.add_plain, PH.cell_at h.at_]
  cases i with
  | zero => simpa using hi
  | succ i => simp at hi⟩
theorem WSv.tag (h : WSv H0 H w T out bare bv) : tagsOk [.sl] [bv] = true := by
  obtain ⟨b, c, rfl⟩ := h.acc.sl; rfl
theorem WSv.mono {H' : PH} (h : WSv H0 H w T out bare bv) (hl : PH.le H H') : WSv H0 H' w T out bare bv := ⟨hl _ _ h.at_, h.acc.mono hl, h.own, h.base⟩
theorem WSv.store {H' : PH} {v' : Value} {out' : List UInt8} (h : WSv H0 H w T out bare bv) (ha : Acc H0 H' 5 out' v') (hw : Went H H' bv v') : WS H0 (H'.upd w (.cells #[v', .bool bare] T (0, 0))) w T out' bare := by
  have hne : ob v' ≠ some w := fun e => (hw.fresh w e).elim h.own fun hn => by rw [h.at_] at hn; cases hn
  refine ⟨v', PH.upd_same, ⟨?_, ?_⟩, hne, h.base⟩
  · intro k o hk
    have hkw : k ≠ w := fun e => by rw [e, h.base] at hk; cases hk
    have := ha.le k o hk
    unfold delV at this ⊢
    cases hv' : ob v' with
    | none => rw [hv'] at this; show (H'.upd w _) k = _; rw [PH.upd_other hkw]; exact this
    | some g =>
      rw [hv'] at this
      show ((H'.upd w _).del g) k = _
      have this' : (H'.del g) k = some o := this
      unfold PH.del at this' ⊢
      split at this'
      · cases this'
      · rename_i e; rw [if_neg e, PH.upd_other hkw]; exact this'
  · obtain ⟨xs, h1, h2⟩ := ha.own
    exact ⟨xs, h1.le fun k hk => PH.upd_other fun e => hne (by rw [hk, e]), bytes_any h2⟩
variable {X : List PanicEntry → PH → Prop} {β : Type} {E : List Value} {L : LK} {K : β → List Value → PH → LK → Prop}
end

end Go.Proofs.YtibinelkmlcmgaaGreatDoor.Vc
/-
  DATA: the writer: a datum; Text and Show.
-/
namespace Go.Proofs.YtibinelkmlcmgaaGreatDoor.Vc
open Go

/-- a datum that is within one that may be -/
def Dat.Good (d : Dat) : Prop := ∃ deep seen, seen ≤ 4096 ∧ (d.chk deep seen).2 = 0
theorem Dats.good : ∀ (l : List Dat) (deep seen : Nat), seen ≤ 4096 → (Dats.chk l deep seen).2 = 0 → ∀ e ∈ l, e.Good
  | [], _, _, _, _, e, he => by cases he
  | d :: l, deep, seen, hs, h, e, he => by
    simp only [Dats.chk] at h
    split at h
    · rename_i hx; exact absurd h hx
    rename_i hx
    have hx : (d.chk deep seen).2 = 0 := by simpa using hx
    rcases List.mem_cons.1 he with rfl | he
    · exact ⟨deep, seen, hs, hx⟩
    · exact Dats.good l deep _ (Dat.chk_le d deep seen hs) h e he
theorem Dat.Good.form {d : Dat} (h : d.Good) : formOk d = true := by
  obtain ⟨deep, seen, hs, h⟩ := h
  rw [Dat.chk_eq] at h
  split at h
  · simp at h
  split at h
  · simp at h
  split at h
  · simp at h
  · rename_i hx; simpa using hx
theorem Dat.Good.kids {d : Dat} (h : d.Good) : ∀ e ∈ d.list, e.Good := by
  obtain ⟨deep, seen, hs, h⟩ := h
  rw [Dat.chk_eq] at h
  split at h
  · simp at h
  split at h
  · simp at h
  split at h
  · simp at h
  · exact Dats.good d.list _ _ (by omega) h
theorem Dat.Good.len {d : Dat} (h : d.Good) (bare : Bool) : (d.txtL bare).length ≤ 67600000 := by
  obtain ⟨deep, seen, hs, h⟩ := h
  have h1 := Dat.chk_len bare d deep seen hs h
  have h2 := Dat.chk_le d deep seen hs
  omega
theorem WS.le {H0 H : PH} {w : Nat} {T : TypeId} {out : List UInt8} {bare : Bool} (h : WS H0 H w T out bare) : PH.le H0 H := by
  obtain ⟨bv, h⟩ := h; exact h.acc.all

end Go.Proofs.YtibinelkmlcmgaaGreatDoor.Vc
/-
  DATA that may be have the same text just if they are the same: a plain law. No program in sight.
-/
namespace Go.Proofs.YtibinelkmlcmgaaGreatDoor.Vc
open Go

/-! ### numbers -/
/-- the number that digits say -/
def valL (l : List UInt8) : Nat := l.foldl (fun a c => 10 * a + (c.toNat - 48)) 0
theorem valL_snoc (l : List UInt8) (c : UInt8) : valL (l ++ [c]) = 10 * valL l + (c.toNat - 48) := by simp [valL]
theorem digit_toNat (k : Nat) (h : k < 10) : (UInt8.ofNat (48 + k)).toNat = 48 + k := UInt8.toNat_ofNat_of_lt' (by show _ < 256; omega)
theorem val_dec : ∀ u : Nat, valL (Lib.decDigits u) = u ∧ Lib.decDigits u ≠ [] ∧ (Lib.decDigits u).all (fun c => digitI c.toNat) = true := by
  intro u
  induction u using Nat.strongRecOn with
  | ind u ih =>
    by_cases h : u < 10
    · rw [Lib.decDigits_one h]
      have hd := digit_toNat u h
      refine ⟨?_, by simp, ?_⟩
      · simp only [valL, List.foldl_cons, List.foldl_nil, hd]; omega
      · simp only [List.all_cons, List.all_nil, Bool.and_true, hd, digitI]
        rw [if_pos (by omega)]; simp; omega
    · rw [Lib.decDigits, dif_neg h]
      have hr : u % 10 < 10 := Nat.mod_lt _ (by omega)
      have hd := digit_toNat (u % 10) hr
      obtain ⟨h1, h2, h3⟩ := ih (u / 10) (by omega)
      refine ⟨?_, by simp, ?_⟩
      · rw [valL_snoc, h1, hd]; omega
      · rw [List.all_append, h3]
        simp only [List.all_cons, List.all_nil, Bool.and_true, Bool.true_and, hd, digitI]
        rw [if_pos (by omega)]; simp; omega
theorem dec_inj {u v : Nat} (h : Lib.decDigits u = Lib.decDigits v) : u = v := by rw [← (val_dec u).1, h, (val_dec v).1]
/-! ### what stands behind a text -/
/-! ### characters and strings -/
/-- u begins v -/
def pre : List UInt8 → List UInt8 → Bool
  | [], _ => true
  | _ :: _, [] => false
  | a :: l, b :: m => a == b && pre l m
/-! ### the kind of a text, by its first bytes -/
/-- a datum that may be: its kind, and what of its fields is of moment -/
theorem form_cases {d : Dat} (h : formOk d = true) :
    (d.kind = 0 ∧ (d.int = 0 ∨ d.int = 1) ∧ d.text = [] ∧ d.list = []) ∨ (d.kind = 1 ∧ d.text = [] ∧ d.list = []) ∨ (d.kind = 2 ∧ 0 ≤ d.int ∧ d.int ≤ 255 ∧ d.text = [] ∧ d.list = []) ∨ (d.kind = 3 ∧ d.int = 0 ∧ d.list = []) ∨
    (d.kind = 4 ∧ d.int = 0 ∧ d.list = [] ∧ nameOk d.text = true) ∨ (d.kind = 5 ∧ d.int = 0 ∧ d.text = []) ∨ (d.kind = 6 ∧ d.int = 0 ∧ d.text = [] ∧ 2 ≤ d.list.length) ∨ (d.kind = 7 ∧ d.int = 0 ∧ d.text = []) := by
  obtain ⟨k, n, t, l⟩ := d
  simp only [formOk, Dat.kind, Dat.int, Dat.text, Dat.list, List.isEmpty_iff] at h ⊢
  by_cases h0 : k = 0
  · subst h0; simp at h ⊢; obtain ⟨⟨h1, h2⟩, h3⟩ := h; exact ⟨h3.imp of_decide_eq_true of_decide_eq_true, of_decide_eq_true h1, h2⟩
  by_cases h1 : k = 1
  · subst h1; simp at h ⊢; exact ⟨of_decide_eq_true h.1.1.1, h.1.1.2⟩
  by_cases h2 : k = 2
  · subst h2; simp at h ⊢; obtain ⟨⟨⟨a, b⟩, c⟩, e⟩ := h; exact ⟨of_decide_eq_true c, of_decide_eq_true e, of_decide_eq_true a, b⟩
  by_cases h3 : k = 3
  · subst h3; simp at h ⊢; obtain ⟨⟨a, b⟩, c⟩ := h; exact ⟨of_decide_eq_true a, b⟩
  by_cases h4 : k = 4
  · subst h4; simp at h ⊢; obtain ⟨⟨a, b⟩, c⟩ := h; exact ⟨of_decide_eq_true a, b, c⟩
  by_cases h5 : k = 5
  · subst h5; simp at h ⊢; exact ⟨of_decide_eq_true h.1, of_decide_eq_true h.2⟩
  by_cases h7 : k = 7
  · subst h7; simp at h ⊢; exact ⟨of_decide_eq_true h.1, of_decide_eq_true h.2⟩
  by_cases h6 : k = 6
  · subst h6; simp at h ⊢; obtain ⟨⟨⟨a, b⟩, c⟩, e⟩ := h; exact ⟨of_decide_eq_true a, of_decide_eq_true b, of_decide_eq_true c⟩
  · simp [h0, h1, h2, h3, h4, h5, h6, h7] at h
end Go.Proofs.YtibinelkmlcmgaaGreatDoor.Vc
/-
  DATA: the fixed calls; the law of the checks.
-/
namespace Go.Proofs.YtibinelkmlcmgaaGreatDoor.Vc
open Go

theorem uDats : Tryz.prog.underlying 23 = some (.slice 25) := by kernel_rfl
theorem elemDat : ElemOk Tryz.prog 25 4 56 = true := by kernel_rfl
instance decInI (n : Int) : Decidable (InI n) := inferInstanceAs (Decidable (_ ∧ _))
/-- a datum without items, written out -/
theorem leaf_rep {H : PH} {k n : Int} {t : List UInt8} (hk : InI k) (hn : InI n) (ht : t.length ≤ maxLen) : Dat.Rep H (.mk k n t []) [.int .i64 k, .int .i64 n, txt t, .slice none 0 0] :=
  Dat.Rep_iff.2 ⟨_, rfl, hk, hn, ht, SlR.mk_iff.2 ⟨Nat.zero_le _, .inl ⟨rfl, rfl⟩⟩⟩
end Go.Proofs.YtibinelkmlcmgaaGreatDoor.Vc
/-
  DATA that come in.
-/
namespace Go.Proofs.YtibinelkmlcmgaaGreatDoor.Vc
open Go Go.ChangeShapes Go.WideShapes Go.ChangeAt Go.RowKit

mutual
def Dat.wt : Dat → Nat
  | .mk _ _ t l => t.length + 5 + Dats.wt l
def Dats.wt : List Dat → Nat
  | [] => 0
  | d :: l => Dat.wt d + Dats.wt l
end
theorem Dats.wt_eq : ∀ l : List Dat, Dats.wt l = sumWt Dat.wt l
  | [] => by simp only [Dats.wt, sumWt]
  | d :: l => by simp only [Dats.wt, sumWt, Dats.wt_eq l]
theorem Dat.wt_eq (d : Dat) : d.wt = d.text.length + 5 + sumWt Dat.wt d.list := by
  cases d; simp only [Dat.wt, Dat.text, Dat.list, Dats.wt_eq]
noncomputable def datFields : Array Field := match Tryz.prog.underlying 25 with
  | some (.struct fs) => fs
  | _ => #[]
theorem uDat : Tryz.prog.underlying 25 = some (.struct datFields) := by kernel_rfl
theorem datF : datFields.toList.map (fun f => (f.type, f.offset)) = [(3, 0), (3, 1), (9, 2), (23, 3)] := by kernel_rfl
theorem uInt : Tryz.prog.underlying 3 = some (.int .i64) := by kernel_rfl
theorem cInt : Tryz.prog.cellsOf 3 = 1 := by kernel_rfl
theorem cStr : Tryz.prog.cellsOf 9 = 1 := by kernel_rfl
theorem cDats : Tryz.prog.cellsOf 23 = 1 := by kernel_rfl
theorem cDat : Tryz.prog.cellsOf 25 = 4 := by kernel_rfl
theorem csInt {H : PH} {n : Int} {v : Value} (h : CsR H n [v]) : v = .int .i64 n ∧ InI n := by
  have h' : PV.RepRow H [.int .i64 n] [v] := h
  simp only [PV.RepRow, PV.Rep] at h'
  obtain ⟨v', vs, e, ⟨rfl, h1⟩, rfl⟩ := h'
  simp only [List.cons.injEq, and_true] at e
  exact ⟨e, h1⟩
theorem csTxt {H : PH} {l : List UInt8} {v : Value} (h : CsR H l [v]) : v = txt l ∧ l.length ≤ maxLen := by
  have h' : PV.RepRow H [.str l] [v] := h
  simp only [PV.RepRow, PV.Rep] at h'
  obtain ⟨v', vs, e, ⟨rfl, h1⟩, rfl⟩ := h'
  simp only [List.cons.injEq, and_true] at e
  exact ⟨e, h1⟩
theorem opens_dat {H : Type} {enc : TypeId × Value → H} {w : World} : ∀ fuel, Opens (α := Dat) enc Tryz.prog w Dat.wt 25 fuel := by
  intro fuel
  induction fuel using Nat.strongRecOn with
  | ind fuel ih =>
    intro cs d ps h
    obtain ⟨xs, n, rfl, rfl, hc, hl, hi⟩ := trod_fields uDat datF h
    rw [cDat] at hc
    match xs, hl with
    | [x0, x1, x2, x3], _ =>
    match cs, hc with
    | [c0, c1, c2, c3], _ =>
    have t0 := hi 0 3 0 x0 rfl rfl
    have t1 := hi 1 3 1 x1 rfl rfl
    have t2 := hi 2 9 2 x2 rfl rfl
    have t3 := hi 3 23 3 x3 rfl rfl
    rw [cInt] at t0 t1
    rw [cStr] at t2
    rw [cDats] at t3
    obtain ⟨k, hk, hkw⟩ := opens_int uInt n _ _ _ t0
    obtain ⟨m, hm, hmw⟩ := opens_int uInt n _ _ _ t1
    obtain ⟨s, hs, hsw⟩ := opens_txt uString n _ _ _ t2
    obtain ⟨l, v, hlv, hls, hlw⟩ := opens_slice (α := Dat) uDats cDat (fun j hj => ih j (by omega)) t3
    have hv : c3 = v := by simpa using hlv
    subst hv
    obtain ⟨rfl, hk1⟩ := csInt hk
    obtain ⟨rfl, hm1⟩ := csInt hm
    obtain ⟨rfl, hs1⟩ := csTxt hs
    refine ⟨.mk k m s l, Dat.Rep_iff.2 ⟨_, rfl, hk1, hm1, hs1, hls⟩, ?_⟩
    simp only at hkw hmw hsw
    simp only [Dat.wt, Dats.wt_eq, Rows.uptoBulk, Rows.uptoBulkAll, List.map_cons, List.map_nil]
    omega
/-! ### what all statements of this seat ask -/
theorem ownTryz : ownKnob Tryz.prog.godebug = none := by kernel_rfl
theorem laidOutTryz : laidOutB Tryz.prog = true := by kernel_rfl
theorem mapsRowedTryz : mapsRowed Tryz.prog = true := by kernel_rfl
theorem kidsTryz : Kids Tryz.prog (· < Tryz.prog.types.size) := kids_rows laidOutTryz mapsRowedTryz
theorem fullTryz : ∀ t e, t < Tryz.prog.types.size → Tryz.prog.underlying t = some (.slice e) → 0 < Tryz.prog.cellsOf e := slices_full_of Tryz.prog (by kernel_rfl)
abbrev tabs : List (String × DataW Unit) := [("math/bits.deBruijn32tab", Rows.laid_math_bits_deBruijn32tab), ("math/bits.deBruijn64tab", Rows.laid_math_bits_deBruijn64tab), ("internal/strconv.uint64pow10", Rows.laid_internal_strconv_uint64pow10)]
theorem gPow : Tryz.prog.globalNamed "internal/strconv.uint64pow10" = some 0 := by kernel_rfl
theorem tPow : (Tryz.prog.globals[0]?).map (·.type) = some 129 := by kernel_rfl
theorem uPow : Tryz.prog.underlying 129 = some (.array 20 102) := by kernel_rfl
theorem uPowE : Tryz.prog.underlying 102 = some (.int .u64) := by kernel_rfl
theorem cPowE : Tryz.prog.cellsOf 102 = 1 := by kernel_rfl
theorem cPow : Tryz.prog.cellsOf 129 = 20 := by kernel_rfl
theorem tab_of_laid {W : World} (h : laidMetH Tryz.prog tabs W) : Tab (whole W) := by
  have h1 : laidMet Tryz.prog tabs W := h
  have h3 := laidMet_tail (laidMet_tail h1)
  have ht : Lib.TabIs Tryz.prog W "internal/strconv.uint64pow10" .u64 Lib.pow10Tab := Lib.tabIs_of_head (rest := []) gPow tPow uPow uPowE cPowE cPow h3
  unfold Lib.TabIs World.var? at ht
  rw [gPow] at ht
  simp only [Option.bind_some] at ht
  cases hb : W.heap[0]? with
  | none => rw [hb] at ht; cases ht
  | some o =>
    rw [hb] at ht
    cases o with
    | cells cs e f =>
      simp only [Option.some.injEq] at ht
      exact ⟨0, e, f, gPow, by unfold whole; rw [hb, ht]⟩
    | _ => cases ht
/-- a block of integers set -/
def layInts (k : IntKind) (zs : List Int) : Obj → Obj
  | .cells _ t f => .cells (zs.map fun z => Value.int k z).toArray t f
  | o => o
/-- a world for the witnesses: the tables as the start lays them -/
noncomputable def laidWorld (os : Os) : World :=
  let w := World.holding Tryz.prog os ⟨#[], #[], []⟩
  { w with heap := ((w.heap.modify 0 (layInts .u64 Lib.pow10Tab)).modify 2 (layInts .u8 [0, 1, 28, 2, 29, 14, 24, 3, 30, 22, 20, 15, 25, 17, 4, 8, 31, 27, 13, 23, 21, 19, 16, 7, 26, 12, 18, 6, 11, 5, 10, 9])).modify 3 (layInts .u8 [0, 1, 56, 2, 57, 49, 28, 3, 61, 58, 42, 50, 38, 29, 17, 4, 62, 47, 59, 36, 45, 43, 51, 22, 53, 39, 33, 30, 24, 18, 12, 5, 63, 55, 48, 27, 60, 41, 37, 16, 46, 35, 44, 21, 52, 32, 23, 11, 54, 26, 40, 15, 34, 20, 31, 10, 25, 14, 19, 9, 13, 8, 7, 6]) }
end Go.Proofs.YtibinelkmlcmgaaGreatDoor.Vc
/-
  DATA: the laws of the texts and of their parts, at the level of calls.
-/
namespace Go.Proofs.YtibinelkmlcmgaaGreatDoor.Vc
open Go

def Dat.Mono (d : Dat) : Prop := ∀ (deep seen deep' seen' : Nat), deep ≤ 32 → deep' ≤ deep → seen' ≤ seen → seen ≤ 4096 → (d.chk deep seen).2 = 0 → (d.chk deep' seen').2 = 0 ∧ (d.chk deep' seen').1 + seen = (d.chk deep seen).1 + seen'
theorem Dats.mono : ∀ (l : List Dat), (∀ e ∈ l, e.Mono) → ∀ (deep seen deep' seen' : Nat), deep ≤ 32 → deep' ≤ deep → seen' ≤ seen → seen ≤ 4096 → (Dats.chk l deep seen).2 = 0 → (Dats.chk l deep' seen').2 = 0 ∧ (Dats.chk l deep' seen').1 + seen = (Dats.chk l deep seen).1 + seen'
  | [], _, deep, seen, deep', seen', _, _, _, _, _ => by simp only [Dats.chk]; exact ⟨trivial, by omega⟩
  | d :: l, hl, deep, seen, deep', seen', h1, h2, h3, h4, h => by
    simp only [Dats.chk] at h ⊢
    split at h
    · rename_i hx; exact absurd h hx
    rename_i hx
    have hx : (d.chk deep seen).2 = 0 := by simpa using hx
    obtain ⟨g1, g2⟩ := hl d (List.mem_cons_self ..) deep seen deep' seen' h1 h2 h3 h4 hx
    have g3 := Dats.mono l (fun e he => hl e (List.mem_cons_of_mem _ he)) deep (d.chk deep seen).1 deep' (d.chk deep' seen').1 h1 h2 (by omega) (Dat.chk_le d deep seen h4) h
    rw [if_neg (by simp [g1]), if_neg (by simp [hx])]
    exact ⟨g3.1, by omega⟩
/-- what may be within more may be within less; and counts as many -/
theorem Dat.mono : ∀ d : Dat, d.Mono := by
  refine Dat.ind ?_
  intro d ih deep seen deep' seen' h1 h2 h3 h4 h
  rw [Dat.chk_eq] at h
  rw [Dat.chk_eq d deep' seen', Dat.chk_eq d deep seen]
  split at h
  · simp at h
  rename_i h0
  split at h
  · simp at h
  rename_i h5
  split at h
  · simp at h
  rename_i h6
  have hn : nested d.kind = true → deep < 32 := fun x => by
    rcases Nat.lt_or_ge deep 32 with y | y
    · exact y
    · exact absurd ⟨x, by omega⟩ h5
  rw [if_neg h0, if_neg h5, if_neg h6, if_neg (show ¬ seen' = 4096 by omega), if_neg (fun x => by have := hn x.1; omega), if_neg h6]
  by_cases hl : d.list = []
  · rw [hl]; simp only [Dats.chk]; exact ⟨trivial, by omega⟩
  · have hn' := hn (formOk_nested (by simpa using h6) hl)
    have g := Dats.mono d.list ih (deep + 1) (seen + 1) (deep' + 1) (seen' + 1) (by omega) (by omega) (by omega) (by omega) h
    exact ⟨g.1, by omega⟩
end Go.Proofs.YtibinelkmlcmgaaGreatDoor.Vc
/-
  DATA: when two are the same; Huge.
-/
namespace Go.Proofs.YtibinelkmlcmgaaGreatDoor.Vc
open Go

noncomputable instance decDat : DecidableEq Dat := fun a b => Classical.propDecidable (a = b)
noncomputable instance decDats : DecidableEq (List Dat) := fun a b => Classical.propDecidable (a = b)
theorem Dat.eq_iff {a b : Dat} : a = b ↔ a.kind = b.kind ∧ a.int = b.int ∧ a.text = b.text ∧ a.list = b.list := by
  cases a; cases b; simp [Dat.kind, Dat.int, Dat.text, Dat.list]
/-- a call of a function value by a contract -/
theorem den_givesF {P : Program} {X : List PanicEntry → PH → Prop} {α : Type} {E : List Value} {H : PH} {L : LK} {K : α → List Value → PH → LK → Prop} {i f : Nat} {args : List VE} {rs : RS} {pend : List (SV × List SV)} {k : Fm α} (vs : List Value) (hi : E.getD i (.bool false) = .func (.func f) #[] #[]) (hok : callB P f = true)
    (hc : Gives P f (args.map (evV E fun _ => 0)) H (rs.pack vs)) (ht : tagsOk rs.tags vs = true) (hp : pendOk E H pend) (hk : ∀ H', PH.le H H' → den P X k (E ++ vs) H' L K) : den P X (.call (.atom i) args rs pend k) E H L K := by
  refine ⟨f, #[], #[], hi, callOk_of hok, ?_⟩
  have e : (#[] : Array Value) ++ (args.map (evV E fun _ => 0)).toArray ++ #[] = (args.map (evV E fun _ => 0)).toArray := by simp
  rw [e]
  exact Tri.mono hc fun e H' ⟨he, hl⟩ => by subst he; exact ⟨vs, ht, rfl, pendOk_le hp hl, hk H' hl⟩
theorem take_eq_succ {l m : List Dat} {k : Nat} {a b : Dat} (h : l.take k = m.take k) (ha : l[k]? = some a) (hb : m[k]? = some b) (hab : a = b) : l.take (k + 1) = m.take (k + 1) := by
  rw [List.take_add_one, List.take_add_one, h, ha, hb, hab]

def SameAt (f : FuncId) (a : Dat) : Prop := ∀ (b : Dat) (ca cb : List Value) (H : PH), a.Rep H ca → b.Rep H cb → Gives Tryz.prog f [.agg ca.toArray, .agg cb.toArray] H (.bool (decide (a = b)))
theorem EqualFunc_gives (l m : List Dat) (va vb : Value) (H : PH) (hl : SlR H l va) (hm : SlR H m vb) (ih : ∀ e ∈ l, SameAt n_data_Equal e) :
    Gives Tryz.prog n_slices_EqualFunc___api_Datum___api_Datum_api_Datum_api_Datum_ [va, vb, .func (.func n_data_Equal) #[] #[]] H (.bool (decide (l = m))) := by
  obtain ⟨b1, c1, rfl⟩ := hl.sl
  obtain ⟨b2, c2, rfl⟩ := hm.sl
  have m1 := hl.max
  have m2 := hm.max
  simp only [maxLen] at m1 m2
  refine tri_slices_EqualFunc___api_Datum___api_Datum_api_Datum_api_Datum_ [.slice b1 l.length c1, .slice b2 m.length c2, .func (.func n_data_Equal) #[] #[]] (by kernel_rfl) (by kernel_rfl) ?_
  refine ⟨fun h => ?_, fun h => ?_⟩
  · simp only [ev0, ev, evV, List.cons_append, List.nil_append, List.getD_cons_zero, List.getD_cons_succ, List.map_cons, List.map_nil, iOf, bOf, sOf, pOf, slLen, slBase, cmpI, arI, Value.ite_bool, int_beq, int_bne, ite_band, ite_bor, decide_eq_true_eq] at h
    refine ⟨?_, PH.le_refl H⟩
    have : ¬ l = m := fun e => h (by rw [e])
    simp only [ev0, ev, evV, List.cons_append, List.nil_append, List.getD_cons_zero, List.getD_cons_succ, List.map_cons, List.map_nil, iOf, bOf, sOf, pOf, slLen, slBase, cmpI, arI, Value.ite_bool, int_beq, int_bne, ite_band, ite_bor, decide_eq_false this]
  simp only [ev0, ev, evV, List.cons_append, List.nil_append, List.getD_cons_zero, List.getD_cons_succ, List.map_cons, List.map_nil, iOf, bOf, sOf, pOf, slLen, slBase, cmpI, arI, Value.ite_bool, int_beq, int_bne, ite_band, ite_bor, decide_eq_false_iff_not, ne_eq, Decidable.not_not] at h
  have hlen : l.length = m.length := by omega
  refine ⟨fun n vs H' => ∃ k : Nat, vs = [.bool false, .int .i64 k] ∧ k + n = l.length ∧ l.take k = m.take k ∧ PH.le H H', ⟨l.length, 0, rfl, by omega, by simp, PH.le_refl H⟩, ?_⟩
  rintro n vs H' _ ⟨k, rfl, hkn, htk, hle⟩
  refine ⟨fun h5 => ?_, fun h5 => ?_⟩
  · simp only [ev0, ev, evV, List.cons_append, List.nil_append, List.getD_cons_zero, List.getD_cons_succ, List.map_cons, List.map_nil, iOf, bOf, sOf, pOf, slLen, slBase, cmpI, arI, Value.ite_bool, int_beq, int_bne, ite_band, ite_bor, decide_eq_true_eq] at h5
    obtain ⟨e, he⟩ : ∃ e, l[k]? = some e := ⟨_, List.getElem?_eq_getElem (show k < l.length by omega)⟩
    obtain ⟨e', he'⟩ : ∃ e, m[k]? = some e := ⟨_, List.getElem?_eq_getElem (show k < m.length by omega)⟩
    obtain ⟨g1, ces, g2, g3, _, _⟩ := SlRep.get (hl.le hle) he
    obtain ⟨g1', ces', g2', g3', _, _⟩ := SlRep.get (hm.le hle) he'
    have htags := g2.tags
    have htags' := g2'.tags
    have hcall := ih e (List.mem_of_getElem? he) e' ces ces' H' g2 g2'
    obtain ⟨sve, rfl, _⟩ := Dat.Rep_iff.1 g2
    obtain ⟨sve', rfl, _⟩ := Dat.Rep_iff.1 g2'
    refine ⟨fun _ => ?_, _, htags, by simp only [ev0, ev, evV, List.cons_append, List.nil_append, List.getD_cons_zero, List.getD_cons_succ, List.map_cons, List.map_nil, iOf, bOf, sOf, pOf, slLen, slBase, cmpI, arI, Value.ite_bool, int_beq, int_bne, ite_band, ite_bor]; exact g3, fun _ => ?_, _, htags', by simp only [ev0, ev, evV, List.cons_append, List.nil_append, List.getD_cons_zero, List.getD_cons_succ, List.map_cons, List.map_nil, iOf, bOf, sOf, pOf, slLen, slBase, cmpI, arI, Value.ite_bool, int_beq, int_bne, ite_band, ite_bor]; exact g3', ?_⟩
    · simp only [Chk.holds, ev0, ev, evV, List.cons_append, List.nil_append, List.getD_cons_zero, List.getD_cons_succ, List.map_cons, List.map_nil, iOf, bOf, sOf, pOf, slLen, slBase, cmpI, arI, Value.ite_bool, int_beq, int_bne, ite_band, ite_bor]; exact ⟨g1, by omega, by omega⟩
    · simp only [Chk.holds, ev0, ev, evV, List.cons_append, List.nil_append, List.getD_cons_zero, List.getD_cons_succ, List.map_cons, List.map_nil, iOf, bOf, sOf, pOf, slLen, slBase, cmpI, arI, Value.ite_bool, int_beq, int_bne, ite_band, ite_bor]; exact ⟨g1', by omega, by omega⟩
    refine den_givesF [.bool (decide (e = e'))] rfl cb_data_Equal hcall rfl pendNil fun H2 h2 => ⟨fun h6 => ?_, fun h6 => ?_⟩
    · simp only [ev0, ev, evV, List.cons_append, List.nil_append, List.getD_cons_zero, List.getD_cons_succ, List.map_cons, List.map_nil, iOf, bOf, sOf, pOf, slLen, slBase, cmpI, arI, Value.ite_bool, int_beq, int_bne, ite_band, ite_bor, Bool.not_eq_true', decide_eq_false_iff_not] at h6
      refine ⟨?_, PH.le_trans hle h2⟩
      have : ¬ l = m := fun x => h6 (by subst x; rw [he] at he'; exact Option.some.inj he')
      simp only [ev0, ev, evV, List.cons_append, List.nil_append, List.getD_cons_zero, List.getD_cons_succ, List.map_cons, List.map_nil, iOf, bOf, sOf, pOf, slLen, slBase, cmpI, arI, Value.ite_bool, int_beq, int_bne, ite_band, ite_bor, decide_eq_false this]
    · simp only [ev0, ev, evV, List.cons_append, List.nil_append, List.getD_cons_zero, List.getD_cons_succ, List.map_cons, List.map_nil, iOf, bOf, sOf, pOf, slLen, slBase, cmpI, arI, Value.ite_bool, int_beq, int_bne, ite_band, ite_bor, Bool.not_eq_false', decide_eq_true_eq] at h6
      refine ⟨_, lookup_hit, n - 1, by omega, k + 1, ?_, by omega, take_eq_succ htk he he' h6, PH.le_trans hle h2⟩
      simp only [ev0, ev, evV, List.cons_append, List.nil_append, List.getD_cons_zero, List.getD_cons_succ, List.map_cons, List.map_nil, iOf, bOf, sOf, pOf, slLen, slBase, cmpI, arI, Value.ite_bool, int_beq, int_bne, ite_band, ite_bor]
      rw [w64 (by omega) (by omega)]
      rfl
  · simp only [ev0, ev, evV, List.cons_append, List.nil_append, List.getD_cons_zero, List.getD_cons_succ, List.map_cons, List.map_nil, iOf, bOf, sOf, pOf, slLen, slBase, cmpI, arI, Value.ite_bool, int_beq, int_bne, ite_band, ite_bor, decide_eq_false_iff_not] at h5
    refine ⟨?_, hle⟩
    have : l = m := by rw [List.take_of_length_le (by omega), List.take_of_length_le (by omega)] at htk; exact htk
    simp only [ev0, ev, evV, List.cons_append, List.nil_append, List.getD_cons_zero, List.getD_cons_succ, List.map_cons, List.map_nil, iOf, bOf, sOf, pOf, slLen, slBase, cmpI, arI, Value.ite_bool, int_beq, int_bne, ite_band, ite_bor, decide_eq_true this]
theorem Equal_gives : ∀ a, SameAt n_data_Equal a := by
  refine Dat.ind ?_
  intro a ih b ca cb H ha hb
  obtain ⟨s1, rfl, _, _, _, hs1⟩ := Dat.Rep_iff.1 ha
  obtain ⟨s2, rfl, _, _, _, hs2⟩ := Dat.Rep_iff.1 hb
  have hcall := EqualFunc_gives a.list b.list s1 s2 H hs1 hs2 ih
  obtain ⟨b1, c1, rfl⟩ := hs1.sl
  obtain ⟨b2, c2, rfl⟩ := hs2.sl
  refine tri_data_Equal [.int .i64 a.kind, .int .i64 a.int, txt a.text, .slice b1 a.list.length c1, .int .i64 b.kind, .int .i64 b.int, txt b.text, .slice b2 b.list.length c2] (by kernel_rfl) (by kernel_rfl) ?_
  refine ⟨fun vs H' => vs = [.bool (decide (a = b))] ∧ PH.le H H', ?_, ?_⟩
  · rintro vs H' _ ⟨rfl, h⟩; exact ⟨rfl, h⟩
  refine ⟨fun h => ?_, fun h => ?_⟩
  · simp only [ev0, ev, evV, List.cons_append, List.nil_append, List.getD_cons_zero, List.getD_cons_succ, List.map_cons, List.map_nil, iOf, bOf, sOf, pOf, slLen, slBase, cmpI, arI, Value.ite_bool, int_beq, int_bne, ite_band, ite_bor, txt_eql] at h
    simp only [Bool.and_eq_true, decide_eq_true_eq] at h
    refine den_gives [.bool (decide (a.list = b.list))] cb_slices_EqualFunc___api_Datum___api_Datum_api_Datum_api_Datum_ hcall rfl pendNil fun H2 h2 => ⟨_, lookup_hit, ?_, h2⟩
    have : (a = b) ↔ a.list = b.list := by rw [Dat.eq_iff]; simp [h.1.1, h.1.2, h.2]
    simp only [ev0, ev, evV, List.cons_append, List.nil_append, List.getD_cons_zero, List.getD_cons_succ, List.map_cons, List.map_nil, iOf, bOf, sOf, pOf, slLen, slBase, cmpI, arI, Value.ite_bool, int_beq, int_bne, ite_band, ite_bor, decide_eq_decide.2 this]
  · simp only [ev0, ev, evV, List.cons_append, List.nil_append, List.getD_cons_zero, List.getD_cons_succ, List.map_cons, List.map_nil, iOf, bOf, sOf, pOf, slLen, slBase, cmpI, arI, Value.ite_bool, int_beq, int_bne, ite_band, ite_bor, txt_eql] at h
    refine ⟨_, lookup_hit, ?_, PH.le_refl H⟩
    have : ¬ a = b := fun e => by subst e; simp at h
    simp only [ev0, ev, evV, List.cons_append, List.nil_append, List.getD_cons_zero, List.getD_cons_succ, List.map_cons, List.map_nil, iOf, bOf, sOf, pOf, slLen, slBase, cmpI, arI, Value.ite_bool, int_beq, int_bne, ite_band, ite_bor, decide_eq_false this]
theorem Same_gives : ∀ a, SameAt n_scrimshawref02_Same a := by
  refine Dat.ind ?_
  intro a ih b ca cb H ha hb
  obtain ⟨s1, rfl, _, _, _, hl⟩ := Dat.Rep_iff.1 ha
  obtain ⟨s2, rfl, _, _, _, hm⟩ := Dat.Rep_iff.1 hb
  obtain ⟨b1, c1, rfl⟩ := hl.sl
  obtain ⟨b2, c2, rfl⟩ := hm.sl
  have m1 := hl.max
  have m2 := hm.max
  simp only [maxLen] at m1 m2
  refine tri_scrimshawref02_Same [.int .i64 a.kind, .int .i64 a.int, txt a.text, .slice b1 a.list.length c1, .int .i64 b.kind, .int .i64 b.int, txt b.text, .slice b2 b.list.length c2] (by kernel_rfl) (by kernel_rfl) ?_
  refine ⟨fun h => ?_, fun h => ?_⟩
  · simp only [ev0, ev, evV, List.cons_append, List.nil_append, List.getD_cons_zero, List.getD_cons_succ, List.map_cons, List.map_nil, iOf, bOf, sOf, pOf, slLen, slBase, cmpI, arI, Value.ite_bool, int_beq, int_bne, ite_band, ite_bor, txt_neq] at h
    refine ⟨?_, PH.le_refl H⟩
    have : ¬ a = b := fun e => by subst e; simp at h
    simp only [ev0, ev, evV, List.cons_append, List.nil_append, List.getD_cons_zero, List.getD_cons_succ, List.map_cons, List.map_nil, iOf, bOf, sOf, pOf, slLen, slBase, cmpI, arI, Value.ite_bool, int_beq, int_bne, ite_band, ite_bor, decide_eq_false this]
  simp only [ev0, ev, evV, List.cons_append, List.nil_append, List.getD_cons_zero, List.getD_cons_succ, List.map_cons, List.map_nil, iOf, bOf, sOf, pOf, slLen, slBase, cmpI, arI, Value.ite_bool, int_beq, int_bne, ite_band, ite_bor, txt_neq] at h
  simp only [Bool.or_eq_false_iff, decide_eq_false_iff_not, ne_eq, Decidable.not_not] at h
  obtain ⟨⟨⟨h1, h2⟩, h3⟩, h4⟩ := h
  have heq : (a = b) ↔ a.list = b.list := by rw [Dat.eq_iff]; simp [h1, h2, h3]
  have hlen : a.list.length = b.list.length := by omega
  refine ⟨fun n vs H' => ∃ k : Nat, vs = [.bool false, .int .i64 k] ∧ k + n = a.list.length ∧ a.list.take k = b.list.take k ∧ PH.le H H', ⟨a.list.length, 0, rfl, by omega, by simp, PH.le_refl H⟩, ?_⟩
  rintro n vs H' _ ⟨k, rfl, hkn, htk, hle⟩
  refine ⟨fun h5 => ?_, fun h5 => ?_⟩
  · simp only [ev0, ev, evV, List.cons_append, List.nil_append, List.getD_cons_zero, List.getD_cons_succ, List.map_cons, List.map_nil, iOf, bOf, sOf, pOf, slLen, slBase, cmpI, arI, Value.ite_bool, int_beq, int_bne, ite_band, ite_bor, decide_eq_true_eq] at h5
    obtain ⟨e, he⟩ : ∃ e, a.list[k]? = some e := ⟨_, List.getElem?_eq_getElem (show k < a.list.length by omega)⟩
    obtain ⟨e', he'⟩ : ∃ e, b.list[k]? = some e := ⟨_, List.getElem?_eq_getElem (show k < b.list.length by omega)⟩
    obtain ⟨g1, ces, g2, g3, _, _⟩ := SlRep.get (hl.le hle) he
    obtain ⟨g1', ces', g2', g3', _, _⟩ := SlRep.get (hm.le hle) he'
    have htags := g2.tags
    have htags' := g2'.tags
    have hcall := ih e (List.mem_of_getElem? he) e' ces ces' H' g2 g2'
    obtain ⟨sve, rfl, _⟩ := Dat.Rep_iff.1 g2
    obtain ⟨sve', rfl, _⟩ := Dat.Rep_iff.1 g2'
    refine ⟨fun _ => ?_, _, htags, by simp only [ev0, ev, evV, List.cons_append, List.nil_append, List.getD_cons_zero, List.getD_cons_succ, List.map_cons, List.map_nil, iOf, bOf, sOf, pOf, slLen, slBase, cmpI, arI, Value.ite_bool, int_beq, int_bne, ite_band, ite_bor]; exact g3, fun _ => ?_, _, htags', by simp only [ev0, ev, evV, List.cons_append, List.nil_append, List.getD_cons_zero, List.getD_cons_succ, List.map_cons, List.map_nil, iOf, bOf, sOf, pOf, slLen, slBase, cmpI, arI, Value.ite_bool, int_beq, int_bne, ite_band, ite_bor]; exact g3', ?_⟩
    · simp only [Chk.holds, ev0, ev, evV, List.cons_append, List.nil_append, List.getD_cons_zero, List.getD_cons_succ, List.map_cons, List.map_nil, iOf, bOf, sOf, pOf, slLen, slBase, cmpI, arI, Value.ite_bool, int_beq, int_bne, ite_band, ite_bor]; exact ⟨g1, by omega, by omega⟩
    · simp only [Chk.holds, ev0, ev, evV, List.cons_append, List.nil_append, List.getD_cons_zero, List.getD_cons_succ, List.map_cons, List.map_nil, iOf, bOf, sOf, pOf, slLen, slBase, cmpI, arI, Value.ite_bool, int_beq, int_bne, ite_band, ite_bor]; exact ⟨g1', by omega, by omega⟩
    refine den_gives [.bool (decide (e = e'))] cb_scrimshawref02_Same hcall rfl pendNil fun H2 h2 => ⟨fun h6 => ?_, fun h6 => ?_⟩
    · simp only [ev0, ev, evV, List.cons_append, List.nil_append, List.getD_cons_zero, List.getD_cons_succ, List.map_cons, List.map_nil, iOf, bOf, sOf, pOf, slLen, slBase, cmpI, arI, Value.ite_bool, int_beq, int_bne, ite_band, ite_bor, Bool.not_eq_true', decide_eq_false_iff_not] at h6
      refine ⟨?_, PH.le_trans hle h2⟩
      have : ¬ a = b := fun x => h6 (by subst x; rw [he] at he'; exact Option.some.inj he')
      simp only [ev0, ev, evV, List.cons_append, List.nil_append, List.getD_cons_zero, List.getD_cons_succ, List.map_cons, List.map_nil, iOf, bOf, sOf, pOf, slLen, slBase, cmpI, arI, Value.ite_bool, int_beq, int_bne, ite_band, ite_bor, decide_eq_false this]
    · simp only [ev0, ev, evV, List.cons_append, List.nil_append, List.getD_cons_zero, List.getD_cons_succ, List.map_cons, List.map_nil, iOf, bOf, sOf, pOf, slLen, slBase, cmpI, arI, Value.ite_bool, int_beq, int_bne, ite_band, ite_bor, Bool.not_eq_false', decide_eq_true_eq] at h6
      refine ⟨_, lookup_hit, n - 1, by omega, k + 1, ?_, by omega, take_eq_succ htk he he' h6, PH.le_trans hle h2⟩
      simp only [ev0, ev, evV, List.cons_append, List.nil_append, List.getD_cons_zero, List.getD_cons_succ, List.map_cons, List.map_nil, iOf, bOf, sOf, pOf, slLen, slBase, cmpI, arI, Value.ite_bool, int_beq, int_bne, ite_band, ite_bor]
      rw [w64 (by omega) (by omega)]
      rfl
  · simp only [ev0, ev, evV, List.cons_append, List.nil_append, List.getD_cons_zero, List.getD_cons_succ, List.map_cons, List.map_nil, iOf, bOf, sOf, pOf, slLen, slBase, cmpI, arI, Value.ite_bool, int_beq, int_bne, ite_band, ite_bor, decide_eq_false_iff_not] at h5
    refine ⟨?_, hle⟩
    have : a = b := heq.2 (by rw [List.take_of_length_le (by omega), List.take_of_length_le (by omega)] at htk; exact htk)
    simp only [ev0, ev, evV, List.cons_append, List.nil_append, List.getD_cons_zero, List.getD_cons_succ, List.map_cons, List.map_nil, iOf, bOf, sOf, pOf, slLen, slBase, cmpI, arI, Value.ite_bool, int_beq, int_bne, ite_band, ite_bor, decide_eq_true this]

/-! ### how many data there are in some, up to 100001 -/
end Go.Proofs.YtibinelkmlcmgaaGreatDoor.Vc
/-
  DATA that may be have the same text just if they are the same: the theorem; and the law, at the level of calls.
-/
namespace Go.Proofs.YtibinelkmlcmgaaGreatDoor.Vc
open Go

end Go.Proofs.YtibinelkmlcmgaaGreatDoor.Vc
/-
  DATA: what is made of items and a tail; a datum's items.
-/
namespace Go.Proofs.YtibinelkmlcmgaaGreatDoor.Vc
open Go

/-- a call that gives a datum in new memory -/
def GivesD (f : FuncId) (args : List Value) (H : PH) (d : Dat) : Prop := Tri Tryz.prog f args.toArray H fun e H' => ∃ cs, e = .returned (.agg cs.toArray) ∧ PH.le H H' ∧ d.Rep H' cs
end Go.Proofs.YtibinelkmlcmgaaGreatDoor.Vc
/-
  CORE: an expression in the heap.
-/
namespace Go.Proofs.YtibinelkmlcmgaaGreatDoor.Vc
open Go

inductive Xp where
  | mk (kind : Int) (name : List UInt8) (names : List (List UInt8)) (const : Dat) (kids : List Xp)
def Xp.kind : Xp → Int
  | .mk k _ _ _ _ => k
def Xp.name : Xp → List UInt8
  | .mk _ s _ _ _ => s
def Xp.names : Xp → List (List UInt8)
  | .mk _ _ l _ _ => l
def Xp.const : Xp → Dat
  | .mk _ _ _ d _ => d
def Xp.kids : Xp → List Xp
  | .mk _ _ _ _ l => l
theorem Xp.names_mk (k : Int) (s : List UInt8) (ns : List (List UInt8)) (d : Dat) (l : List Xp) : (Xp.mk k s ns d l).names = ns := rfl
theorem Xp.kids_mk (k : Int) (s : List UInt8) (ns : List (List UInt8)) (d : Dat) (l : List Xp) : (Xp.mk k s ns d l).kids = l := rfl
mutual
def Xp.pv : Xp → List PV
  | .mk k s ns d l => .int .i64 k :: .str s :: .sl (ns.map fun x => [PV.str x]) :: (d.pv ++ [.sl (Xps.pvs l)])
def Xps.pvs : List Xp → List (List PV)
  | [] => []
  | e :: l => Xp.pv e :: Xps.pvs l
end
theorem Xps.pvs_eq : ∀ l : List Xp, Xps.pvs l = l.map Xp.pv
  | [] => by simp only [Xps.pvs, List.map_nil]
  | e :: l => by simp only [Xps.pvs, List.map_cons, Xps.pvs_eq l]
theorem Dat.pv_len (d : Dat) : d.pv.length = 4 := by cases d; simp only [Dat.pv, List.length_cons, List.length_nil]
instance encEx : Enc Xp := ⟨Xp.pv, 8, fun e => by cases e; simp only [Xp.pv, List.length_cons, List.length_append, List.length_nil, Dat.pv_len]⟩
abbrev Xp.Rep (H : PH) (e : Xp) (cs : List Value) : Prop := CsR H e cs
theorem Xp.Rep_iff {H : PH} {e : Xp} {cs : List Value} : e.Rep H cs ↔ ∃ nv dv kv, cs = [.int .i64 e.kind, txt e.name, nv, .int .i64 e.const.kind, .int .i64 e.const.int, txt e.const.text, dv, kv] ∧
    InI e.kind ∧ e.name.length ≤ maxLen ∧ SlR H e.names nv ∧ e.const.Rep H [.int .i64 e.const.kind, .int .i64 e.const.int, txt e.const.text, dv] ∧ SlR H e.kids kv := by
  obtain ⟨k, s, ns, d, l⟩ := e
  unfold Xp.Rep CsR SlR slp
  show PV.RepRow H (Xp.pv _) cs ↔ _
  simp only [Xp.pv, PV.RepRow, Xp.kind, Xp.name, Xp.names, Xp.const, Xp.kids, Xps.pvs_eq]
  constructor
  · rintro ⟨v1, vs1, rfl, h1, v2, vs2, rfl, h2, v3, vs3, rfl, h3, h4⟩
    have h5 := h4.split
    rw [Dat.pv_len] at h5
    obtain ⟨dv, he, g⟩ := Dat.Rep_iff.1 (show d.Rep H (vs3.take 4) from h5.1)
    obtain ⟨v8, vs8, he8, h8, hn⟩ := h5.2
    simp only [PV.RepRow] at hn
    subst hn
    simp only [PV.Rep] at h1 h2
    obtain ⟨rfl, h1⟩ := h1
    obtain ⟨rfl, h2⟩ := h2
    have hvs : vs3 = [.int .i64 d.kind, .int .i64 d.int, txt d.text, dv] ++ [v8] := by rw [← he, ← he8, List.take_append_drop]
    refine ⟨v3, dv, v8, by rw [hvs]; rfl, inI64.1 h1, h2, h3, ?_, h8⟩
    have := h5.1
    rw [he] at this
    exact this
  · rintro ⟨nv, dv, kv, rfl, h1, h2, h3, h4, h5⟩
    refine ⟨_, _, rfl, ?_, _, _, rfl, ?_, _, _, rfl, h3, ?_⟩
    · simp only [PV.Rep]; exact ⟨trivial, inI64.2 h1⟩
    · simp only [PV.Rep]; exact ⟨trivial, h2⟩
    · refine PV.RepRow.append (cs := [.int .i64 d.kind, .int .i64 d.int, txt d.text, dv]) h4 ?_
      exact ⟨_, _, rfl, h5, rfl⟩
theorem Xp.Rep.le {H H' : PH} (h : PH.le H H') (e : Xp) {cs : List Value} (he : e.Rep H cs) : e.Rep H' cs := CsR.le h he
/-- an expression's own slices -/
structure ExV (H : PH) (e : Xp) (nb db kb : Option Addr) (nc dc kc : Nat) : Prop where
  kind : InI e.kind
  name : e.name.length ≤ maxLen
  names : SlR H e.names (.slice nb e.names.length nc)
  const : e.const.Rep H [.int .i64 e.const.kind, .int .i64 e.const.int, txt e.const.text, .slice db e.const.list.length dc]
  kids : SlR H e.kids (.slice kb e.kids.length kc)
abbrev exVs (e : Xp) (nb db kb : Option Addr) (nc dc kc : Nat) : List Value := [.int .i64 e.kind, txt e.name, .slice nb e.names.length nc, .int .i64 e.const.kind, .int .i64 e.const.int, txt e.const.text, .slice db e.const.list.length dc, .slice kb e.kids.length kc]
theorem Xp.Rep.open {H : PH} {e : Xp} {cs : List Value} (h : e.Rep H cs) : ∃ nb db kb nc dc kc, cs = exVs e nb db kb nc dc kc ∧ ExV H e nb db kb nc dc kc := by
  obtain ⟨nv, dv, kv, rfl, h1, h2, h3, h4, h5⟩ := Xp.Rep_iff.1 h
  obtain ⟨nb, nc, rfl⟩ := h3.sl
  obtain ⟨kb, kc, rfl⟩ := h5.sl
  obtain ⟨dv', e', _, _, _, h6⟩ := Dat.Rep_iff.1 h4
  obtain ⟨db, dc, rfl⟩ := h6.sl
  cases e'
  exact ⟨nb, db, kb, nc, dc, kc, rfl, h1, h2, h3, h4, h5⟩
theorem Xp.Rep.tags {H : PH} {e : Xp} {cs : List Value} (h : e.Rep H cs) : tagsOk [.int .i64, .str, .sl, .int .i64, .int .i64, .str, .sl, .sl] cs = true := by
  obtain ⟨nb, db, kb, nc, dc, kc, rfl, _⟩ := h.open
  rfl
theorem Xp.eq_iff {a b : Xp} : a = b ↔ a.kind = b.kind ∧ a.name = b.name ∧ a.names = b.names ∧ a.const = b.const ∧ a.kids = b.kids := by
  obtain ⟨a1, a2, a3, a4, a5⟩ := a
  obtain ⟨b1, b2, b3, b4, b5⟩ := b
  simp only [Xp.mk.injEq, Xp.kind, Xp.name, Xp.names, Xp.const, Xp.kids]
mutual
theorem Xp.ind {p : Xp → Prop} (h : ∀ d, (∀ e ∈ d.kids, p e) → p d) : ∀ d, p d
  | .mk _ _ _ _ l => h _ (Xps.ind h l)
theorem Xps.ind {p : Xp → Prop} (h : ∀ d, (∀ e ∈ d.kids, p e) → p d) : ∀ (l : List Xp), ∀ e ∈ l, p e
  | [], e, he => by cases he
  | d :: l, e, he => (List.mem_cons.1 he).elim (fun h1 => h1 ▸ Xp.ind h d) (fun h1 => Xps.ind h l e h1)
end
end Go.Proofs.YtibinelkmlcmgaaGreatDoor.Vc
/-
  CORE: which expressions may be, what is free, and new names: plain functions. No program in sight.
-/
namespace Go.Proofs.YtibinelkmlcmgaaGreatDoor.Vc
open Go

def ar0 : List (List UInt8) := [[114, 101, 97, 100, 45, 117, 56], [101, 114, 114, 111, 114], [118, 111, 105, 100], [37, 119, 105, 110, 100, 101, 114, 115], [37, 117, 110, 115, 101, 116]]
def ar1 : List (List UInt8) := [[110, 117, 108, 108, 63], [112, 97, 105, 114, 63], [118, 101, 99, 116, 111, 114, 63], [115, 116, 114, 105, 110, 103, 63], [115, 121, 109, 98, 111, 108, 63], [99, 104, 97, 114, 63], [105, 110, 116, 101, 103, 101, 114, 63], [98, 111, 111, 108, 101, 97, 110, 63], [112, 114, 111, 99, 101, 100, 117, 114, 101, 63], [101, 111, 102, 45, 111, 98, 106, 101, 99, 116, 63], [99, 97, 114], [99, 100, 114], [118, 101, 99, 116, 111, 114, 45, 108, 101, 110, 103, 116, 104], [115, 116, 114, 105, 110, 103, 45, 108, 101, 110, 103, 116, 104], [99, 104, 97, 114, 45, 62, 105, 110, 116, 101, 103, 101, 114], [105, 110, 116, 101, 103, 101, 114, 45, 62, 99, 104, 97, 114], [119, 114, 105, 116, 101, 45, 117, 56], [37, 98, 111, 120], [37, 117, 110, 98, 111, 120], [37, 119, 105, 110, 100, 33], [37, 99, 97, 108, 108, 99, 99]]
def ar2 : List (List UInt8) := [[43], [45], [42], [113, 117, 111, 116, 105, 101, 110, 116], [114, 101, 109, 97, 105, 110, 100, 101, 114], [60], [61], [101, 113, 63], [99, 111, 110, 115], [115, 101, 116, 45, 99, 97, 114, 33], [115, 101, 116, 45, 99, 100, 114, 33], [109, 97, 107, 101, 45, 118, 101, 99, 116, 111, 114], [118, 101, 99, 116, 111, 114, 45, 114, 101, 102], [109, 97, 107, 101, 45, 115, 116, 114, 105, 110, 103], [115, 116, 114, 105, 110, 103, 45, 114, 101, 102], [37, 115, 101, 116, 45, 98, 111, 120, 33]]
def ar3 : List (List UInt8) := [[118, 101, 99, 116, 111, 114, 45, 115, 101, 116, 33], [115, 116, 114, 105, 110, 103, 45, 115, 101, 116, 33]]
/-- how many arguments a primitive has -/
def arityI (p : List UInt8) : Int := if ar0.contains p then 0 else if ar1.contains p then 1 else if ar2.contains p then 2 else if ar3.contains p then 3 else -1
def dat0 : Dat := .mk 0 0 [] []
def isDat0 (d : Dat) : Bool := decide (d.kind = 0) && decide (d.int = 0) && d.text.isEmpty && d.list.isEmpty
theorem isDat0_iff {d : Dat} : isDat0 d = true ↔ d = dat0 := by
  obtain ⟨k, n, t, l⟩ := d
  show (decide (k = 0) && decide (n = 0) && t.isEmpty && l.isEmpty) = true ↔ Dat.mk k n t l = .mk 0 0 [] []
  simp [and_assoc]
/-- may a datum be a constant? -/
def constOk (d : Dat) : Bool := decide ((d.chk 0 0).2 = 0) && (decide (d.kind = 0) || decide (d.kind = 1) || decide (d.kind = 2) || decide (d.kind = 4) || (decide (d.kind = 5) && d.list.isEmpty))
/-- are these, behind others, all names, none of them twice? -/
def namesFrom (pre : List (List UInt8)) : List (List UInt8) → Bool
  | [] => true
  | s :: r => nameOk s && !pre.contains s && namesFrom (pre ++ [s]) r
def namesOk (l : List (List UInt8)) : Bool := namesFrom [] l
/-- may an expression's own fields be? -/
def exForm (e : Xp) : Bool :=
  if e.kind = 0 then e.name.isEmpty && e.names.isEmpty && e.kids.isEmpty && constOk e.const
  else isDat0 e.const && namesOk e.names &&
    (if e.kind = 1 then nameOk e.name && e.names.isEmpty && decide (e.kids.length = 0)
    else if e.kind = 2 then nameOk e.name && e.names.isEmpty && decide (e.kids.length = 1)
    else if e.kind = 3 then e.name.isEmpty && e.names.isEmpty && decide (e.kids.length = 3)
    else if e.kind = 4 then e.name.isEmpty && e.names.isEmpty && decide (2 ≤ e.kids.length)
    else if e.kind = 5 then e.name.isEmpty && decide (e.names.length ≤ 6) && decide (e.kids.length = 1)
    else if e.kind = 6 then e.name.isEmpty && e.names.isEmpty && decide (1 ≤ e.kids.length) && decide (e.kids.length ≤ 7)
    else if e.kind = 7 then e.names.isEmpty && decide (arityI e.name = e.kids.length)
    else if e.kind = 8 ∨ e.kind = 9 then e.name.isEmpty && decide (e.kids.length = e.names.length + 1)
    else if e.kind = 10 then e.name.isEmpty && decide (1 ≤ e.names.length) && decide (e.kids.length = e.names.length + 1) && (e.kids.take e.names.length).all fun k => decide (k.kind = 5)
    else false)
/-- as the program has it: a sequence has at most 4096 kids -/
def exFormP (e : Xp) : Bool := exForm e && !(decide (e.kind = 4) && decide (4096 < e.kids.length))
mutual
/-- an expression within so many, so many being looked at: how many are then, and what is wrong; tight: as the program has it -/
def Xp.chk (tight : Bool) : Xp → Nat → Nat → Nat × Int
  | .mk k s ns d l, deep, seen => if seen = 4096 then (seen, 62) else if 250 ≤ deep then (seen + 1, 61) else if (if tight then exFormP (.mk k s ns d l) else exForm (.mk k s ns d l)) = false then (seen + 1, 60) else Xps.chk tight l (deep + 1) (seen + 1)
def Xps.chk (tight : Bool) : List Xp → Nat → Nat → Nat × Int
  | [], _, seen => (seen, 0)
  | e :: l, deep, seen => if (Xp.chk tight e deep seen).2 ≠ 0 then Xp.chk tight e deep seen else Xps.chk tight l deep (Xp.chk tight e deep seen).1
end
/-- are names bound in a kid, behind which such are left? -/
def inB (k : Int) (rest : List Xp) : Bool := decide (k = 5) || decide (k = 9) || decide (k = 10) || (decide (k = 8) && rest.isEmpty)

/-! ### free names -/
mutual
/-- the free names, some being bound, as they come -/
def Xp.fr (bound : List (List UInt8)) : Xp → List (List UInt8)
  | .mk k s ns _ l => (if (k = 1 ∨ k = 2) ∧ s ∉ bound then [s] else []) ++ Xps.fr bound (bound ++ ns) k l
def Xps.fr (bound inner : List (List UInt8)) (k : Int) : List Xp → List (List UInt8)
  | [] => []
  | e :: l => Xp.fr (if inB k l then inner else bound) e ++ Xps.fr bound inner k l
end
theorem Xp.fr_eq (e : Xp) (bound : List (List UInt8)) : e.fr bound = (if (e.kind = 1 ∨ e.kind = 2) ∧ e.name ∉ bound then [e.name] else []) ++ Xps.fr bound (bound ++ e.names) e.kind e.kids := by
  cases e; simp only [Xp.fr, Xp.kind, Xp.name, Xp.names, Xp.kids]; rfl
mutual
/-- all names that stand in an expression, but those of primitives -/
def Xp.all : Xp → List (List UInt8)
  | .mk k s ns _ l => (if k = 7 then [] else [s]) ++ ns ++ Xps.all l
def Xps.all : List Xp → List (List UInt8)
  | [] => []
  | e :: l => Xp.all e ++ Xps.all l
end
theorem Xp.all_eq (e : Xp) : e.all = (if e.kind = 7 then [] else [e.name]) ++ e.names ++ Xps.all e.kids := by
  cases e; simp only [Xp.all, Xp.kind, Xp.name, Xp.names, Xp.kids]; rfl
mutual
/-- all names that an expression binds -/
def Xp.bnd : Xp → List (List UInt8)
  | .mk _ _ ns _ l => ns ++ Xps.bnd l
def Xps.bnd : List Xp → List (List UInt8)
  | [] => []
  | e :: l => Xp.bnd e ++ Xps.bnd l
end
theorem Xp.bnd_eq (e : Xp) : e.bnd = e.names ++ Xps.bnd e.kids := by cases e; simp only [Xp.bnd, Xp.names, Xp.kids]

/-! ### new names -/
def newL (n : Nat) : List UInt8 := [118, 46] ++ Lib.decDigits n
def freshF (used : List (List UInt8)) : Nat → Nat → Nat
  | 0, n => n
  | f + 1, n => if used.contains (newL n) then freshF used f (n + 1) else n
/-- the number of the next new name -/
def freshN (used : List (List UInt8)) (n : Nat) : Nat := freshF used (used.length + 1) n
def newsN (used : List (List UInt8)) : List (List UInt8) → Nat → List Nat × Nat
  | [], n => ([], n)
  | _ :: l, n => (freshN used n :: (newsN used l (freshN used n + 1)).1, (newsN used l (freshN used n + 1)).2)
/-- what a name stands for: the last one counts -/
def lastA : List (List UInt8 × Nat) → List UInt8 → Option Nat
  | [], _ => none
  | x :: l, s => match lastA l s with
    | some k => some k
    | none => if x.1 = s then some x.2 else none
def nameR (az : List (List UInt8 × Nat)) (k : Int) (s : List UInt8) : List UInt8 := if k = 1 ∨ k = 2 then (match lastA az s with | some n => newL n | none => s) else s
mutual
/-- an expression with new names, and the next number -/
def Xp.ren (used : List (List UInt8)) (az : List (List UInt8 × Nat)) : Xp → Nat → Xp × Nat
  | .mk k s ns d l, n => (.mk k (nameR az k s) ((newsN used ns n).1.map newL) d (Xps.ren used az (az ++ ns.zip (newsN used ns n).1) k l (newsN used ns n).2).1, (Xps.ren used az (az ++ ns.zip (newsN used ns n).1) k l (newsN used ns n).2).2)
def Xps.ren (used : List (List UInt8)) (az inner : List (List UInt8 × Nat)) (k : Int) : List Xp → Nat → List Xp × Nat
  | [], n => ([], n)
  | e :: l, n => ((Xp.ren used (if inB k l then inner else az) e n).1 :: (Xps.ren used az inner k l (Xp.ren used (if inB k l then inner else az) e n).2).1, (Xps.ren used az inner k l (Xp.ren used (if inB k l then inner else az) e n).2).2)
end
theorem Xp.ren_eq (used : List (List UInt8)) (az : List (List UInt8 × Nat)) (e : Xp) (n : Nat) : e.ren used az n = (.mk e.kind (nameR az e.kind e.name) ((newsN used e.names n).1.map newL) e.const (Xps.ren used az (az ++ e.names.zip (newsN used e.names n).1) e.kind e.kids (newsN used e.names n).2).1, (Xps.ren used az (az ++ e.names.zip (newsN used e.names n).1) e.kind e.kids (newsN used e.names n).2).2) := by
  cases e; simp only [Xp.ren, Xp.kind, Xp.name, Xp.names, Xp.kids, Xp.const]

/-! ### the next new name is new -/
theorem newL_inj {m n : Nat} (h : newL m = newL n) : m = n := dec_inj (List.append_cancel_left h)
theorem subset_len {α : Type} [DecidableEq α] : ∀ {l m : List α}, l.Nodup → (∀ x ∈ l, x ∈ m) → l.length ≤ m.length
  | [], _, _, _ => Nat.zero_le _
  | a :: l, m, h, hs => by
    rw [List.nodup_cons] at h
    have ha := hs a (List.mem_cons_self ..)
    have := subset_len (l := l) (m := m.erase a) h.2 fun x hx => (List.mem_erase_of_ne (fun e => h.1 (by rw [← e]; exact hx))).2 (hs x (List.mem_cons_of_mem _ hx))
    rw [List.length_erase_of_mem ha] at this
    have h0 := List.length_pos_of_mem ha
    simp only [List.length_cons]; omega
theorem freshF_spec (used : List (List UInt8)) : ∀ f n, n ≤ freshF used f n ∧ freshF used f n ≤ n + f ∧ (∀ i, n ≤ i → i < freshF used f n → newL i ∈ used) ∧ (freshF used f n < n + f → newL (freshF used f n) ∉ used)
  | 0, n => ⟨Nat.le_refl _, Nat.le_refl _, fun i h1 h2 => absurd h2 (by simp [freshF]; omega), fun h => absurd h (by simp [freshF])⟩
  | f + 1, n => by
    simp only [freshF]
    split
    · rename_i hc
      obtain ⟨h1, h2, h3, h4⟩ := freshF_spec used f (n + 1)
      refine ⟨by omega, by omega, fun i hi hl => ?_, fun h => h4 (by omega)⟩
      by_cases he : i = n
      · subst he; exact List.contains_iff_mem.1 hc
      · exact h3 i (by omega) hl
    · rename_i hc
      exact ⟨Nat.le_refl _, by omega, fun i h1 h2 => by omega, fun _ h => hc (List.contains_iff_mem.2 h)⟩
theorem freshN_spec (used : List (List UInt8)) (n : Nat) : n ≤ freshN used n ∧ freshN used n ≤ n + used.length ∧ newL (freshN used n) ∉ used ∧ ∀ i, n ≤ i → i < freshN used n → newL i ∈ used := by
  obtain ⟨h1, h2, h3, h4⟩ := freshF_spec used (used.length + 1) n
  have hlt : freshN used n ≤ n + used.length := by
    by_cases h : freshN used n ≤ n + used.length
    · exact h
    · exfalso
      have he : freshN used n = n + (used.length + 1) := by unfold freshN at h ⊢; omega
      have := subset_len (l := (List.range' n (used.length + 1)).map newL) (m := used) (by
        exact List.pairwise_map.2 (List.Pairwise.imp (fun h e => h (newL_inj e)) List.nodup_range')) fun x hx => by
          obtain ⟨i, hi, rfl⟩ := List.mem_map.1 hx
          rw [List.mem_range'_1] at hi
          exact h3 i hi.1 (by show i < freshN used n; omega)
      simp at this
      omega
  exact ⟨h1, hlt, h4 (by show freshN used n < _; omega), h3⟩
end Go.Proofs.YtibinelkmlcmgaaGreatDoor.Vc
/-
  CORE: plain laws of new names: none is bound twice, none is free, what is free stays, and what may be may be still. No program in sight.
-/
namespace Go.Proofs.YtibinelkmlcmgaaGreatDoor.Vc
open Go

theorem newsN_spec (used : List (List UInt8)) : ∀ (l : List (List UInt8)) (n : Nat), n ≤ (newsN used l n).2 ∧ (newsN used l n).2 ≤ n + l.length * (used.length + 1) ∧ (newsN used l n).1.Pairwise (· < ·) ∧ ∀ k ∈ (newsN used l n).1, n ≤ k ∧ k < (newsN used l n).2 ∧ newL k ∉ used
  | [], n => ⟨Nat.le_refl _, by simp [newsN], by simp [newsN], fun k hk => by simp [newsN] at hk⟩
  | s :: l, n => by
    obtain ⟨f1, f2, f3, _⟩ := freshN_spec used n
    obtain ⟨g1, g2, g3, g4⟩ := newsN_spec used l (freshN used n + 1)
    simp only [newsN, List.length_cons]
    refine ⟨by omega, ?_, ?_, ?_⟩
    · rw [Nat.add_mul, Nat.one_mul]; omega
    · rw [List.pairwise_cons]
      exact ⟨fun k hk => by have := (g4 k hk).1; omega, g3⟩
    · intro k hk
      rcases List.mem_cons.1 hk with rfl | hk
      · exact ⟨f1, by omega, f3⟩
      · have := g4 k hk
        exact ⟨by omega, this.2.1, this.2.2⟩
/-! ### the numbers of new names -/
def NumsAt (used : List (List UInt8)) (e : Xp) : Prop := ∀ (az : List (List UInt8 × Nat)) (n : Nat), n ≤ (e.ren used az n).2 ∧ (e.ren used az n).2 ≤ n + e.bnd.length * (used.length + 1) ∧ ∃ ks : List Nat, (e.ren used az n).1.bnd = ks.map newL ∧ ks.Pairwise (· < ·) ∧ ∀ k ∈ ks, n ≤ k ∧ k < (e.ren used az n).2 ∧ newL k ∉ used
theorem Xps.nums (used : List (List UInt8)) (az inner : List (List UInt8 × Nat)) (k : Int) : ∀ (l : List Xp), (∀ e ∈ l, NumsAt used e) → ∀ n : Nat, n ≤ (Xps.ren used az inner k l n).2 ∧ (Xps.ren used az inner k l n).2 ≤ n + (Xps.bnd l).length * (used.length + 1) ∧
    ∃ ks : List Nat, Xps.bnd (Xps.ren used az inner k l n).1 = ks.map newL ∧ ks.Pairwise (· < ·) ∧ ∀ q ∈ ks, n ≤ q ∧ q < (Xps.ren used az inner k l n).2 ∧ newL q ∉ used
  | [], _, n => by simp only [Xps.ren, Xps.bnd]; exact ⟨Nat.le_refl _, by simp, [], rfl, List.Pairwise.nil, fun q hq => by cases hq⟩
  | e :: l, h, n => by
    obtain ⟨a1, a2, ks1, a3, a4, a5⟩ := h e (List.mem_cons_self ..) (if inB k l then inner else az) n
    obtain ⟨b1, b2, ks2, b3, b4, b5⟩ := Xps.nums used az inner k l (fun e he => h e (List.mem_cons_of_mem _ he)) (e.ren used (if inB k l then inner else az) n).2
    simp only [Xps.ren, Xps.bnd]
    refine ⟨by omega, ?_, ks1 ++ ks2, ?_, ?_, ?_⟩
    · rw [List.length_append, Nat.add_mul]; omega
    · rw [a3, b3, List.map_append]
    · rw [List.pairwise_append]
      exact ⟨a4, b4, fun x hx y hy => by have := a5 x hx; have := b5 y hy; omega⟩
    · intro q hq
      rcases List.mem_append.1 hq with hq | hq
      · have := a5 q hq; exact ⟨this.1, by omega, this.2.2⟩
      · have := b5 q hq; exact ⟨by omega, this.2.1, this.2.2⟩
theorem Xp.nums (used : List (List UInt8)) : ∀ e, NumsAt used e := by
  refine Xp.ind fun e ih az n => ?_
  obtain ⟨a1, a2, a3, a4⟩ := newsN_spec used e.names n
  obtain ⟨b1, b2, ks, b3, b4, b5⟩ := Xps.nums used az (az ++ e.names.zip (newsN used e.names n).1) e.kind e.kids ih (newsN used e.names n).2
  rw [Xp.ren_eq, Xp.bnd_eq e]
  dsimp only
  refine ⟨by omega, ?_, (newsN used e.names n).1 ++ ks, ?_, ?_, ?_⟩
  · rw [List.length_append, Nat.add_mul]; omega
  · rw [Xp.bnd_eq]
    simp only [Xp.names_mk, Xp.kids_mk]
    rw [b3, List.map_append]
  · rw [List.pairwise_append]
    exact ⟨a3, b4, fun x hx y hy => by have := a4 x hx; have := b5 y hy; omega⟩
  · intro q hq
    rcases List.mem_append.1 hq with hq | hq
    · have := a4 q hq; exact ⟨this.1, by omega, this.2.2⟩
    · have := b5 q hq; exact ⟨by omega, this.2.1, this.2.2⟩

/-! ### what is free stays -/
theorem lastA_some : ∀ {az : List (List UInt8 × Nat)} {s : List UInt8} {k : Nat}, lastA az s = some k → (s, k) ∈ az
  | [], _, _, h => by cases h
  | x :: l, s, k, h => by
    simp only [lastA] at h
    cases hl : lastA l s with
    | some j =>
      rw [hl] at h
      cases h
      exact List.mem_cons_of_mem _ (lastA_some hl)
    | none =>
      rw [hl] at h
      dsimp only at h
      split at h
      · rename_i hx
        cases h
        subst hx
        exact List.mem_cons_self ..
      · cases h
theorem lastA_append : ∀ (az bs : List (List UInt8 × Nat)) (s : List UInt8), lastA (az ++ bs) s = (lastA bs s).or (lastA az s)
  | [], bs, s => by cases h : lastA bs s <;> simp [lastA, h]
  | x :: az, bs, s => by
    simp only [List.cons_append, lastA, lastA_append az bs s]
    cases lastA bs s <;> simp
/-! ### what may be may be still -/
theorem decDigits_18 {k : Nat} (h : k < 1000000000000000000) : (Lib.decDigits k).length ≤ 18 := by
  rw [Lib.decDigits_length]
  exact nDigits_le 17 k (by omega)
end Go.Proofs.YtibinelkmlcmgaaGreatDoor.Vc
/-
  CORE: texts among texts; how many arguments; which expressions' own fields may be: the program's functions.
-/
namespace Go.Proofs.YtibinelkmlcmgaaGreatDoor.Vc
open Go

theorem con_t {l : List (List UInt8)} {s : List UInt8} (h : s ∈ l) : l.contains s = true := List.contains_iff_mem.2 h
theorem con_f {l : List (List UInt8)} {s : List UInt8} (h : s ∉ l) : l.contains s = false := by
  cases hc : l.contains s with
  | false => rfl
  | true => exact absurd (List.contains_iff_mem.1 hc) h
theorem csTxts {H : PH} {l : List UInt8} {cs : List Value} (h : CsR H l cs) : cs = [txt l] ∧ l.length ≤ maxLen := by
  obtain ⟨v, vs, rfl, ⟨rfl, h2⟩, rfl⟩ := h
  exact ⟨rfl, h2⟩
theorem uTxts : Tryz.prog.underlying 22 = some (.slice 9) := by kernel_rfl
theorem elemTxt : ElemOk Tryz.prog 9 1 16 = true := by kernel_rfl
theorem take_eq_next {α : Type} {l m : List α} {k : Nat} {a b : α} (h : l.take k = m.take k) (ha : l[k]? = some a) (hb : m[k]? = some b) (e : a = b) : l.take (k + 1) = m.take (k + 1) := by
  rw [List.take_add_one, List.take_add_one, h, ha, hb, e]
theorem take_mem_succ {α : Type} {l : List α} {k : Nat} {a x : α} (h : l[k]? = some a) (hx : x ∈ l.take (k + 1)) : x ∈ l.take k ∨ x = a := by
  rw [List.take_add_one, h] at hx
  rcases List.mem_append.1 hx with hx | hx
  · exact .inl hx
  · exact .inr (List.mem_singleton.1 hx)

theorem Index_tri (l : List (List UInt8)) (s : List UInt8) (v : Value) (H : PH) (hl : SlR H l v) : Tri Tryz.prog n_slices_Index___string_string_ #[v, txt s] H fun e H' => ∃ n : Int, e = .returned (.int .i64 n) ∧ decide (0 ≤ n) = l.contains s ∧ PH.le H H' := by
  obtain ⟨b, c, rfl⟩ := hl.sl
  have hm := hl.max
  simp only [maxLen] at hm
  refine tri_slices_Index___string_string_ [.slice b l.length c, txt s] (by kernel_rfl) (by kernel_rfl) ?_
  refine ⟨fun n vs H' => ∃ k : Nat, vs = [.int .i64 0, .int .i64 k] ∧ k + n = l.length ∧ s ∉ l.take k ∧ PH.le H H', ⟨l.length, 0, rfl, by omega, by simp, PH.le_refl H⟩, ?_⟩
  rintro n vs H' _ ⟨k, rfl, hkn, hno, hle⟩
  refine ⟨fun h => ?_, fun h => ?_⟩
  · simp only [ev0, ev, evV, List.cons_append, List.nil_append, List.getD_cons_zero, List.getD_cons_succ, List.map_cons, List.map_nil, iOf, bOf, sOf, pOf, slLen, slBase, cmpI, arI, Value.ite_bool, int_beq, int_bne, ite_band, ite_bor, decide_eq_true_eq] at h
    obtain ⟨a, ha⟩ : ∃ a, l[k]? = some a := ⟨_, List.getElem?_eq_getElem (show k < l.length by omega)⟩
    obtain ⟨g1, _, ces, g2, g3⟩ := (hl.le hle).get ha
    obtain ⟨rfl, _⟩ := csTxts g2
    refine ⟨fun _ => ?_, [txt a], rfl, ?_, fun h2 => ?_, fun h2 => ?_⟩
    · simp only [Chk.holds, ev0, ev, evV, List.cons_append, List.nil_append, List.getD_cons_zero, List.getD_cons_succ, List.map_cons, List.map_nil, iOf, bOf, sOf, pOf, slLen, slBase, cmpI, arI, Value.ite_bool, int_beq, int_bne, ite_band, ite_bor]; exact ⟨g1, by omega, by omega⟩
    · simp only [ev0, ev, evV, List.cons_append, List.nil_append, List.getD_cons_zero, List.getD_cons_succ, List.map_cons, List.map_nil, iOf, bOf, sOf, pOf, slLen, slBase, cmpI, arI, Value.ite_bool, int_beq, int_bne, ite_band, ite_bor]; exact g3
    · simp only [ev0, ev, evV, List.cons_append, List.nil_append, List.getD_cons_zero, List.getD_cons_succ, List.map_cons, List.map_nil, iOf, bOf, sOf, pOf, slLen, slBase, cmpI, arI, Value.ite_bool, int_beq, int_bne, ite_band, ite_bor, txt_eql, decide_eq_true_eq] at h2
      subst h2
      exact ⟨k, rfl, by rw [con_t (List.mem_of_getElem? ha)]; simp, hle⟩
    · simp only [ev0, ev, evV, List.cons_append, List.nil_append, List.getD_cons_zero, List.getD_cons_succ, List.map_cons, List.map_nil, iOf, bOf, sOf, pOf, slLen, slBase, cmpI, arI, Value.ite_bool, int_beq, int_bne, ite_band, ite_bor, txt_eql, decide_eq_false_iff_not] at h2
      refine ⟨_, lookup_hit, n - 1, by omega, k + 1, ?_, by omega, fun hx => ?_, hle⟩
      · simp only [ev0, ev, evV, List.cons_append, List.nil_append, List.getD_cons_zero, List.getD_cons_succ, List.map_cons, List.map_nil, iOf, bOf, sOf, pOf, slLen, slBase, cmpI, arI, Value.ite_bool, int_beq, int_bne, ite_band, ite_bor]; rw [w64 (by omega) (by omega)]; rfl
      · rcases take_mem_succ ha hx with hx | hx
        · exact hno hx
        · exact h2 hx
  · simp only [ev0, ev, evV, List.cons_append, List.nil_append, List.getD_cons_zero, List.getD_cons_succ, List.map_cons, List.map_nil, iOf, bOf, sOf, pOf, slLen, slBase, cmpI, arI, Value.ite_bool, int_beq, int_bne, ite_band, ite_bor, decide_eq_false_iff_not] at h
    rw [List.take_of_length_le (by omega)] at hno
    exact ⟨-1, rfl, by rw [con_f hno]; rfl, hle⟩
theorem Contains_gives (l : List (List UInt8)) (s : List UInt8) (v : Value) (H : PH) (hl : SlR H l v) : Gives Tryz.prog n_slices_Contains___string_string_ [v, txt s] H (.bool (l.contains s)) := by
  obtain ⟨b, c, rfl⟩ := hl.sl
  refine tri_slices_Contains___string_string_ [.slice b l.length c, txt s] (by kernel_rfl) (by kernel_rfl) ?_
  refine den_call cb_slices_Index___string_string_ (Index_tri l s _ H hl) ?_
  rintro e H' ⟨n, rfl, h1, h2⟩
  refine ⟨_, [_], rfl, rfl, rfl, pendNil, ?_, h2⟩
  simp only [ev0, ev, evV, List.cons_append, List.nil_append, List.getD_cons_zero, List.getD_cons_succ, List.map_cons, List.map_nil, iOf, bOf, sOf, pOf, slLen, slBase, cmpI, arI, Value.ite_bool, int_beq, int_bne, ite_band, ite_bor, h1]
theorem Has_gives (l : List (List UInt8)) (s : List UInt8) (v : Value) (H : PH) (hl : SlR H l v) : Gives Tryz.prog n_scrimshawref06_Has [v, txt s] H (.bool (l.contains s)) := by
  obtain ⟨b, c, rfl⟩ := hl.sl
  have hm := hl.max
  simp only [maxLen] at hm
  refine tri_scrimshawref06_Has [.slice b l.length c, txt s] (by kernel_rfl) (by kernel_rfl) ?_
  refine ⟨fun n vs H' => ∃ k : Nat, vs = [.bool false, .int .i64 k] ∧ k + n = l.length ∧ s ∉ l.take k ∧ PH.le H H', ⟨l.length, 0, rfl, by omega, by simp, PH.le_refl H⟩, ?_⟩
  rintro n vs H' _ ⟨k, rfl, hkn, hno, hle⟩
  refine ⟨fun h => ?_, fun h => ?_⟩
  · simp only [ev0, ev, evV, List.cons_append, List.nil_append, List.getD_cons_zero, List.getD_cons_succ, List.map_cons, List.map_nil, iOf, bOf, sOf, pOf, slLen, slBase, cmpI, arI, Value.ite_bool, int_beq, int_bne, ite_band, ite_bor, decide_eq_true_eq] at h
    obtain ⟨a, ha⟩ : ∃ a, l[k]? = some a := ⟨_, List.getElem?_eq_getElem (show k < l.length by omega)⟩
    obtain ⟨g1, _, ces, g2, g3⟩ := (hl.le hle).get ha
    obtain ⟨rfl, _⟩ := csTxts g2
    refine ⟨fun _ => ?_, [txt a], rfl, ?_, fun h2 => ?_, fun h2 => ?_⟩
    · simp only [Chk.holds, ev0, ev, evV, List.cons_append, List.nil_append, List.getD_cons_zero, List.getD_cons_succ, List.map_cons, List.map_nil, iOf, bOf, sOf, pOf, slLen, slBase, cmpI, arI, Value.ite_bool, int_beq, int_bne, ite_band, ite_bor]; exact ⟨g1, by omega, by omega⟩
    · simp only [ev0, ev, evV, List.cons_append, List.nil_append, List.getD_cons_zero, List.getD_cons_succ, List.map_cons, List.map_nil, iOf, bOf, sOf, pOf, slLen, slBase, cmpI, arI, Value.ite_bool, int_beq, int_bne, ite_band, ite_bor]; exact g3
    · simp only [ev0, ev, evV, List.cons_append, List.nil_append, List.getD_cons_zero, List.getD_cons_succ, List.map_cons, List.map_nil, iOf, bOf, sOf, pOf, slLen, slBase, cmpI, arI, Value.ite_bool, int_beq, int_bne, ite_band, ite_bor, txt_eql, decide_eq_true_eq] at h2
      subst h2
      rw [con_t (List.mem_of_getElem? ha)]
      exact ⟨rfl, hle⟩
    · simp only [ev0, ev, evV, List.cons_append, List.nil_append, List.getD_cons_zero, List.getD_cons_succ, List.map_cons, List.map_nil, iOf, bOf, sOf, pOf, slLen, slBase, cmpI, arI, Value.ite_bool, int_beq, int_bne, ite_band, ite_bor, txt_eql, decide_eq_false_iff_not] at h2
      refine ⟨_, lookup_hit, n - 1, by omega, k + 1, ?_, by omega, fun hx => ?_, hle⟩
      · simp only [ev0, ev, evV, List.cons_append, List.nil_append, List.getD_cons_zero, List.getD_cons_succ, List.map_cons, List.map_nil, iOf, bOf, sOf, pOf, slLen, slBase, cmpI, arI, Value.ite_bool, int_beq, int_bne, ite_band, ite_bor]; rw [w64 (by omega) (by omega)]; rfl
      · rcases take_mem_succ ha hx with hx | hx
        · exact hno hx
        · exact h2 hx.symm
  · simp only [ev0, ev, evV, List.cons_append, List.nil_append, List.getD_cons_zero, List.getD_cons_succ, List.map_cons, List.map_nil, iOf, bOf, sOf, pOf, slLen, slBase, cmpI, arI, Value.ite_bool, int_beq, int_bne, ite_band, ite_bor, decide_eq_false_iff_not] at h
    rw [List.take_of_length_le (by omega)] at hno
    rw [con_f hno]
    exact ⟨rfl, hle⟩
theorem SameTexts_gives (l m : List (List UInt8)) (va vb : Value) (H : PH) (hl : SlR H l va) (hm : SlR H m vb) : Gives Tryz.prog n_scrimshawref06_SameTexts [va, vb] H (.bool (decide (l = m))) := by
  obtain ⟨b1, c1, rfl⟩ := hl.sl
  obtain ⟨b2, c2, rfl⟩ := hm.sl
  have m1 := hl.max
  have m2 := hm.max
  simp only [maxLen] at m1 m2
  refine tri_scrimshawref06_SameTexts [.slice b1 l.length c1, .slice b2 m.length c2] (by kernel_rfl) (by kernel_rfl) ?_
  refine ⟨fun h => ?_, fun h => ?_⟩
  · simp only [ev0, ev, evV, List.cons_append, List.nil_append, List.getD_cons_zero, List.getD_cons_succ, List.map_cons, List.map_nil, iOf, bOf, sOf, pOf, slLen, slBase, cmpI, arI, Value.ite_bool, int_beq, int_bne, ite_band, ite_bor, decide_eq_true_eq] at h
    have : ¬ l = m := fun e => h (by rw [e])
    exact ⟨by simp only [ev0, ev, evV, List.cons_append, List.nil_append, List.getD_cons_zero, List.getD_cons_succ, List.map_cons, List.map_nil, iOf, bOf, sOf, pOf, slLen, slBase, cmpI, arI, Value.ite_bool, int_beq, int_bne, ite_band, ite_bor, decide_eq_false this], PH.le_refl H⟩
  simp only [ev0, ev, evV, List.cons_append, List.nil_append, List.getD_cons_zero, List.getD_cons_succ, List.map_cons, List.map_nil, iOf, bOf, sOf, pOf, slLen, slBase, cmpI, arI, Value.ite_bool, int_beq, int_bne, ite_band, ite_bor, decide_eq_false_iff_not, ne_eq, Decidable.not_not] at h
  refine ⟨fun n vs H' => ∃ k : Nat, vs = [.bool false, .int .i64 k] ∧ k + n = l.length ∧ l.take k = m.take k ∧ PH.le H H', ⟨l.length, 0, rfl, by omega, by simp, PH.le_refl H⟩, ?_⟩
  rintro n vs H' _ ⟨k, rfl, hkn, htk, hle⟩
  refine ⟨fun h5 => ?_, fun h5 => ?_⟩
  · simp only [ev0, ev, evV, List.cons_append, List.nil_append, List.getD_cons_zero, List.getD_cons_succ, List.map_cons, List.map_nil, iOf, bOf, sOf, pOf, slLen, slBase, cmpI, arI, Value.ite_bool, int_beq, int_bne, ite_band, ite_bor, decide_eq_true_eq] at h5
    obtain ⟨a, ha⟩ : ∃ a, l[k]? = some a := ⟨_, List.getElem?_eq_getElem (show k < l.length by omega)⟩
    obtain ⟨a', ha'⟩ : ∃ a, m[k]? = some a := ⟨_, List.getElem?_eq_getElem (show k < m.length by omega)⟩
    obtain ⟨g1, _, ces, g2, g3⟩ := (hl.le hle).get ha
    obtain ⟨g1', _, ces', g2', g3'⟩ := (hm.le hle).get ha'
    obtain ⟨rfl, _⟩ := csTxts g2
    obtain ⟨rfl, _⟩ := csTxts g2'
    refine ⟨fun _ => ?_, [txt a], rfl, by simp only [ev0, ev, evV, List.cons_append, List.nil_append, List.getD_cons_zero, List.getD_cons_succ, List.map_cons, List.map_nil, iOf, bOf, sOf, pOf, slLen, slBase, cmpI, arI, Value.ite_bool, int_beq, int_bne, ite_band, ite_bor]; exact g3, fun _ => ?_, [txt a'], rfl, by simp only [ev0, ev, evV, List.cons_append, List.nil_append, List.getD_cons_zero, List.getD_cons_succ, List.map_cons, List.map_nil, iOf, bOf, sOf, pOf, slLen, slBase, cmpI, arI, Value.ite_bool, int_beq, int_bne, ite_band, ite_bor]; exact g3', fun h6 => ?_, fun h6 => ?_⟩
    · simp only [Chk.holds, ev0, ev, evV, List.cons_append, List.nil_append, List.getD_cons_zero, List.getD_cons_succ, List.map_cons, List.map_nil, iOf, bOf, sOf, pOf, slLen, slBase, cmpI, arI, Value.ite_bool, int_beq, int_bne, ite_band, ite_bor]; exact ⟨g1, by omega, by omega⟩
    · simp only [Chk.holds, ev0, ev, evV, List.cons_append, List.nil_append, List.getD_cons_zero, List.getD_cons_succ, List.map_cons, List.map_nil, iOf, bOf, sOf, pOf, slLen, slBase, cmpI, arI, Value.ite_bool, int_beq, int_bne, ite_band, ite_bor]; exact ⟨g1', by omega, by omega⟩
    · simp only [ev0, ev, evV, List.cons_append, List.nil_append, List.getD_cons_zero, List.getD_cons_succ, List.map_cons, List.map_nil, iOf, bOf, sOf, pOf, slLen, slBase, cmpI, arI, Value.ite_bool, int_beq, int_bne, ite_band, ite_bor, txt_neq, decide_eq_true_eq] at h6
      have : ¬ l = m := fun x => h6 (by subst x; rw [ha] at ha'; exact Option.some.inj ha')
      exact ⟨by simp only [ev0, ev, evV, List.cons_append, List.nil_append, List.getD_cons_zero, List.getD_cons_succ, List.map_cons, List.map_nil, iOf, bOf, sOf, pOf, slLen, slBase, cmpI, arI, Value.ite_bool, int_beq, int_bne, ite_band, ite_bor, decide_eq_false this], hle⟩
    · simp only [ev0, ev, evV, List.cons_append, List.nil_append, List.getD_cons_zero, List.getD_cons_succ, List.map_cons, List.map_nil, iOf, bOf, sOf, pOf, slLen, slBase, cmpI, arI, Value.ite_bool, int_beq, int_bne, ite_band, ite_bor, txt_neq, decide_eq_false_iff_not, ne_eq, Decidable.not_not] at h6
      refine ⟨_, lookup_hit, n - 1, by omega, k + 1, ?_, by omega, take_eq_next htk ha ha' h6, hle⟩
      simp only [ev0, ev, evV, List.cons_append, List.nil_append, List.getD_cons_zero, List.getD_cons_succ, List.map_cons, List.map_nil, iOf, bOf, sOf, pOf, slLen, slBase, cmpI, arI, Value.ite_bool, int_beq, int_bne, ite_band, ite_bor]; rw [w64 (by omega) (by omega)]; rfl
  · simp only [ev0, ev, evV, List.cons_append, List.nil_append, List.getD_cons_zero, List.getD_cons_succ, List.map_cons, List.map_nil, iOf, bOf, sOf, pOf, slLen, slBase, cmpI, arI, Value.ite_bool, int_beq, int_bne, ite_band, ite_bor, decide_eq_false_iff_not] at h5
    have : l = m := by rw [List.take_of_length_le (by omega), List.take_of_length_le (by omega)] at htk; exact htk
    exact ⟨by simp only [ev0, ev, evV, List.cons_append, List.nil_append, List.getD_cons_zero, List.getD_cons_succ, List.map_cons, List.map_nil, iOf, bOf, sOf, pOf, slLen, slBase, cmpI, arI, Value.ite_bool, int_beq, int_bne, ite_band, ite_bor, decide_eq_true this], hle⟩
theorem Arity_gives (p : List UInt8) (H : PH) : Gives Tryz.prog n_core_Arity [txt p] H (.int .i64 (arityI p)) := by
  refine tri_core_Arity [txt p] (by kernel_rfl) (by kernel_rfl) ?_
  refine ⟨fun vs H' => vs = [.bool (ar0.contains p)] ∧ H' = H, ?_, ?_⟩
  · rintro vs H' _ ⟨rfl, rfl⟩
    refine ⟨fun h => ?_, fun h => ?_⟩
    · simp only [ev0, ev, evV, List.cons_append, List.nil_append, List.getD_cons_zero, List.getD_cons_succ, List.map_cons, List.map_nil, iOf, bOf, sOf, pOf, slLen, slBase, cmpI, arI, Value.ite_bool, int_beq, int_bne, ite_band, ite_bor] at h
      exact ⟨by simp only [ev0, ev, evV, List.cons_append, List.nil_append, List.getD_cons_zero, List.getD_cons_succ, List.map_cons, List.map_nil, iOf, bOf, sOf, pOf, slLen, slBase, cmpI, arI, Value.ite_bool, int_beq, int_bne, ite_band, ite_bor, arityI, h]; rfl, PH.le_refl _⟩
    simp only [ev0, ev, evV, List.cons_append, List.nil_append, List.getD_cons_zero, List.getD_cons_succ, List.map_cons, List.map_nil, iOf, bOf, sOf, pOf, slLen, slBase, cmpI, arI, Value.ite_bool, int_beq, int_bne, ite_band, ite_bor] at h
    refine ⟨fun vs H2 => vs = [.bool (ar1.contains p)] ∧ H2 = H', ?_, ?_⟩
    · rintro vs H' _ ⟨rfl, rfl⟩
      refine ⟨fun h2 => ?_, fun h2 => ?_⟩
      · simp only [ev0, ev, evV, List.cons_append, List.nil_append, List.getD_cons_zero, List.getD_cons_succ, List.map_cons, List.map_nil, iOf, bOf, sOf, pOf, slLen, slBase, cmpI, arI, Value.ite_bool, int_beq, int_bne, ite_band, ite_bor] at h2
        exact ⟨by simp only [ev0, ev, evV, List.cons_append, List.nil_append, List.getD_cons_zero, List.getD_cons_succ, List.map_cons, List.map_nil, iOf, bOf, sOf, pOf, slLen, slBase, cmpI, arI, Value.ite_bool, int_beq, int_bne, ite_band, ite_bor, arityI, h, h2]; rfl, PH.le_refl _⟩
      simp only [ev0, ev, evV, List.cons_append, List.nil_append, List.getD_cons_zero, List.getD_cons_succ, List.map_cons, List.map_nil, iOf, bOf, sOf, pOf, slLen, slBase, cmpI, arI, Value.ite_bool, int_beq, int_bne, ite_band, ite_bor] at h2
      refine ⟨fun vs H3 => vs = [.bool (ar2.contains p)] ∧ H3 = H', ?_, ?_⟩
      · rintro vs H' _ ⟨rfl, rfl⟩
        refine ⟨fun h3 => ?_, fun h3 => ?_⟩
        · simp only [ev0, ev, evV, List.cons_append, List.nil_append, List.getD_cons_zero, List.getD_cons_succ, List.map_cons, List.map_nil, iOf, bOf, sOf, pOf, slLen, slBase, cmpI, arI, Value.ite_bool, int_beq, int_bne, ite_band, ite_bor] at h3
          exact ⟨by simp only [ev0, ev, evV, List.cons_append, List.nil_append, List.getD_cons_zero, List.getD_cons_succ, List.map_cons, List.map_nil, iOf, bOf, sOf, pOf, slLen, slBase, cmpI, arI, Value.ite_bool, int_beq, int_bne, ite_band, ite_bor, arityI, h, h2, h3]; rfl, PH.le_refl _⟩
        simp only [ev0, ev, evV, List.cons_append, List.nil_append, List.getD_cons_zero, List.getD_cons_succ, List.map_cons, List.map_nil, iOf, bOf, sOf, pOf, slLen, slBase, cmpI, arI, Value.ite_bool, int_beq, int_bne, ite_band, ite_bor] at h3
        refine ⟨fun h4 => ?_, fun h4 => ?_⟩
        · simp only [ev0, ev, evV, List.cons_append, List.nil_append, List.getD_cons_zero, List.getD_cons_succ, List.map_cons, List.map_nil, iOf, bOf, sOf, pOf, slLen, slBase, cmpI, arI, Value.ite_bool, int_beq, int_bne, ite_band, ite_bor, txt_eql] at h4
          have : ar3.contains p = true := by simp [ar3] at h4 ⊢; exact h4
          exact ⟨by simp only [ev0, ev, evV, List.cons_append, List.nil_append, List.getD_cons_zero, List.getD_cons_succ, List.map_cons, List.map_nil, iOf, bOf, sOf, pOf, slLen, slBase, cmpI, arI, Value.ite_bool, int_beq, int_bne, ite_band, ite_bor, arityI, h, h2, h3, this]; rfl, PH.le_refl _⟩
        · simp only [ev0, ev, evV, List.cons_append, List.nil_append, List.getD_cons_zero, List.getD_cons_succ, List.map_cons, List.map_nil, iOf, bOf, sOf, pOf, slLen, slBase, cmpI, arI, Value.ite_bool, int_beq, int_bne, ite_band, ite_bor, txt_eql] at h4
          have : ar3.contains p = false := by simp [ar3] at h4 ⊢; exact h4
          exact ⟨by simp only [ev0, ev, evV, List.cons_append, List.nil_append, List.getD_cons_zero, List.getD_cons_succ, List.map_cons, List.map_nil, iOf, bOf, sOf, pOf, slLen, slBase, cmpI, arI, Value.ite_bool, int_beq, int_bne, ite_band, ite_bor, arityI, h, h2, h3, this]; rfl, PH.le_refl _⟩
      · repeat' refine And.intro (fun h => ?_) (fun h => ?_)
        all_goals
          refine ⟨_, lookup_hit, ?_, rfl⟩
          simp only [ev0, ev, evV, List.cons_append, List.nil_append, List.getD_cons_zero, List.getD_cons_succ, List.map_cons, List.map_nil, iOf, bOf, sOf, pOf, slLen, slBase, cmpI, arI, Value.ite_bool, int_beq, int_bne, ite_band, ite_bor, txt_eql, decide_eq_true_eq, decide_eq_false_iff_not] at *
          simp_all [ar2]
    · repeat' refine And.intro (fun h => ?_) (fun h => ?_)
      all_goals
        refine ⟨_, lookup_hit, ?_, rfl⟩
        simp only [ev0, ev, evV, List.cons_append, List.nil_append, List.getD_cons_zero, List.getD_cons_succ, List.map_cons, List.map_nil, iOf, bOf, sOf, pOf, slLen, slBase, cmpI, arI, Value.ite_bool, int_beq, int_bne, ite_band, ite_bor, txt_eql, decide_eq_true_eq, decide_eq_false_iff_not] at *
        simp_all [ar1]
  · repeat' refine And.intro (fun h => ?_) (fun h => ?_)
    all_goals
      refine ⟨_, lookup_hit, ?_, rfl⟩
      simp only [ev0, ev, evV, List.cons_append, List.nil_append, List.getD_cons_zero, List.getD_cons_succ, List.map_cons, List.map_nil, iOf, bOf, sOf, pOf, slLen, slBase, cmpI, arI, Value.ite_bool, int_beq, int_bne, ite_band, ite_bor, txt_eql, decide_eq_true_eq, decide_eq_false_iff_not] at *
      simp_all [ar0]
end Go.Proofs.YtibinelkmlcmgaaGreatDoor.Vc
/-
  CORE: which expressions may be: the program's form and check.
-/
namespace Go.Proofs.YtibinelkmlcmgaaGreatDoor.Vc
open Go

theorem SlR.capLe {α : Type} [Enc α] {H : PH} {l : List α} {b : Option Addr} {n c : Nat} (h : SlR H l (.slice b n c)) : n ≤ c := by
  rcases (SlR.mk_iff.1 h).2 with ⟨e, _⟩ | ⟨a, c', e, hc, _⟩
  · cases e; exact Nat.le_refl _
  · cases e; exact hc
theorem namesFrom_stop {pre : List (List UInt8)} {s : List UInt8} {r : List (List UInt8)} (h : nameOk s = false ∨ pre.contains s = true) : namesFrom pre (s :: r) = false := by
  simp only [namesFrom]
  rcases h with h | h
  · rw [h]; rfl
  · rw [h]; cases nameOk s <;> rfl
theorem CNames_gives (l : List (List UInt8)) (v : Value) (H : PH) (hl : SlR H l v) : Gives Tryz.prog n_core_names [v] H (.bool (namesOk l)) := by
  obtain ⟨b, c, rfl⟩ := hl.sl
  have hm := hl.max
  simp only [maxLen] at hm
  have hcap := hl.capLe
  refine tri_core_names [.slice b l.length c] (by kernel_rfl) (by kernel_rfl) ?_
  refine ⟨fun n vs H' => ∃ k : Nat, vs = [.bool false, .int .i64 k] ∧ k + n = l.length ∧ namesOk l = namesFrom (l.take k) (l.drop k) ∧ PH.le H H', ⟨l.length, 0, rfl, by omega, by simp [namesOk], PH.le_refl H⟩, ?_⟩
  rintro n vs H1 _ ⟨k, rfl, hkn, hn, hle⟩
  refine ⟨fun h => ?_, fun h => ?_⟩
  · simp only [ev0, ev, evV, List.cons_append, List.nil_append, List.getD_cons_zero, List.getD_cons_succ, List.map_cons, List.map_nil, iOf, bOf, sOf, pOf, slLen, slBase, cmpI, arI, Value.ite_bool, int_beq, int_bne, ite_band, ite_bor, decide_eq_true_eq] at h
    obtain ⟨a, ha⟩ : ∃ a, l[k]? = some a := ⟨_, List.getElem?_eq_getElem (show k < l.length by omega)⟩
    obtain ⟨g1, _, ces, g2, g3⟩ := (hl.le hle).get ha
    obtain ⟨rfl, hla⟩ := csTxts g2
    rw [drop_get ha] at hn
    refine ⟨fun _ => ?_, [txt a], rfl, by simp only [ev0, ev, evV, List.cons_append, List.nil_append, List.getD_cons_zero, List.getD_cons_succ, List.map_cons, List.map_nil, iOf, bOf, sOf, pOf, slLen, slBase, cmpI, arI, Value.ite_bool, int_beq, int_bne, ite_band, ite_bor]; exact g3, ?_⟩
    · simp only [Chk.holds, ev0, ev, evV, List.cons_append, List.nil_append, List.getD_cons_zero, List.getD_cons_succ, List.map_cons, List.map_nil, iOf, bOf, sOf, pOf, slLen, slBase, cmpI, arI, Value.ite_bool, int_beq, int_bne, ite_band, ite_bor]; exact ⟨g1, by omega, by omega⟩
    refine ⟨fun vs H' => vs = [.bool (!nameOk a || (l.take k).contains a)] ∧ PH.le H H', ?_, ?_⟩
    · rintro vs H' _ ⟨rfl, h1⟩
      refine ⟨fun h2 => ?_, fun h2 => ?_⟩
      · simp only [ev0, ev, evV, List.cons_append, List.nil_append, List.getD_cons_zero, List.getD_cons_succ, List.map_cons, List.map_nil, iOf, bOf, sOf, pOf, slLen, slBase, cmpI, arI, Value.ite_bool, int_beq, int_bne, ite_band, ite_bor, Bool.or_eq_true, Bool.not_eq_true'] at h2
        rw [hn, namesFrom_stop h2]
        exact ⟨rfl, h1⟩
      · simp only [ev0, ev, evV, List.cons_append, List.nil_append, List.getD_cons_zero, List.getD_cons_succ, List.map_cons, List.map_nil, iOf, bOf, sOf, pOf, slLen, slBase, cmpI, arI, Value.ite_bool, int_beq, int_bne, ite_band, ite_bor, Bool.or_eq_false_iff, Bool.not_eq_false'] at h2
        refine ⟨_, lookup_hit, n - 1, by omega, k + 1, ?_, by omega, ?_, h1⟩
        · simp only [ev0, ev, evV, List.cons_append, List.nil_append, List.getD_cons_zero, List.getD_cons_succ, List.map_cons, List.map_nil, iOf, bOf, sOf, pOf, slLen, slBase, cmpI, arI, Value.ite_bool, int_beq, int_bne, ite_band, ite_bor]; rw [w64 (by omega) (by omega)]; rfl
        · rw [hn]
          simp only [namesFrom, h2.1, h2.2, Bool.not_false, Bool.true_and]
          rw [List.take_add_one, ha]; rfl
    · refine den_gives [.bool (nameOk a)] cb_data_Name (Name_gives a hla H1) rfl pendNil fun H2 h2 => ⟨fun _ => ?_, fun h3 => ?_, fun h3 => ?_⟩
      · simp only [Chk.holds, ev0, ev, evV, List.cons_append, List.nil_append, List.getD_cons_zero, List.getD_cons_succ, List.map_cons, List.map_nil, iOf, bOf, sOf, pOf, slLen, slBase, cmpI, arI, Value.ite_bool, int_beq, int_bne, ite_band, ite_bor, slCap]; omega
      · simp only [ev0, ev, evV, List.cons_append, List.nil_append, List.getD_cons_zero, List.getD_cons_succ, List.map_cons, List.map_nil, iOf, bOf, sOf, pOf, slLen, slBase, cmpI, arI, Value.ite_bool, int_beq, int_bne, ite_band, ite_bor, Bool.not_eq_true'] at h3
        exact ⟨_, lookup_hit, by simp only [ev0, ev, evV, List.cons_append, List.nil_append, List.getD_cons_zero, List.getD_cons_succ, List.map_cons, List.map_nil, iOf, bOf, sOf, pOf, slLen, slBase, cmpI, arI, Value.ite_bool, int_beq, int_bne, ite_band, ite_bor, h3]; rfl, PH.le_trans hle h2⟩
      · simp only [ev0, ev, evV, List.cons_append, List.nil_append, List.getD_cons_zero, List.getD_cons_succ, List.map_cons, List.map_nil, iOf, bOf, sOf, pOf, slLen, slBase, cmpI, arI, Value.ite_bool, int_beq, int_bne, ite_band, ite_bor, Bool.not_eq_false'] at h3
        have hcut := (hl.le (PH.le_trans hle h2)).cut (a := 0) (b := k) (by omega) (by omega)
        rw [List.drop_zero] at hcut
        refine den_gives [.bool ((l.take k).contains a)] cb_slices_Contains___string_string_ ?_ rfl pendNil fun H4 h4 => ⟨_, lookup_hit, by simp only [ev0, ev, evV, List.cons_append, List.nil_append, List.getD_cons_zero, List.getD_cons_succ, List.map_cons, List.map_nil, iOf, bOf, sOf, pOf, slLen, slBase, cmpI, arI, Value.ite_bool, int_beq, int_bne, ite_band, ite_bor, h3]; rfl, PH.le_trans hle (PH.le_trans h2 h4)⟩
        have := Contains_gives (l.take k) a _ H2 hcut
        simp only [ev0, ev, evV, List.cons_append, List.nil_append, List.getD_cons_zero, List.getD_cons_succ, List.map_cons, List.map_nil, iOf, bOf, sOf, pOf, slLen, slBase, cmpI, arI, Value.ite_bool, int_beq, int_bne, ite_band, ite_bor]
        exact this
  · simp only [ev0, ev, evV, List.cons_append, List.nil_append, List.getD_cons_zero, List.getD_cons_succ, List.map_cons, List.map_nil, iOf, bOf, sOf, pOf, slLen, slBase, cmpI, arI, Value.ite_bool, int_beq, int_bne, ite_band, ite_bor, decide_eq_false_iff_not] at h
    rw [List.drop_eq_nil_of_le (by omega)] at hn
    rw [hn]
    exact ⟨rfl, hle⟩
theorem isConst_gives (d : Dat) (cs : List Value) (H : PH) (hd : d.Rep H cs) : Gives Tryz.prog n_core_isConst [.agg cs.toArray] H (.bool (constOk d)) := by
  have hc := DCheckF_gives d cs H hd
  obtain ⟨sv, rfl, hk, hn, ht, hs⟩ := Dat.Rep_iff.1 hd
  obtain ⟨b, c, rfl⟩ := hs.sl
  refine tri_core_isConst [.int .i64 d.kind, .int .i64 d.int, txt d.text, .slice b d.list.length c] (by kernel_rfl) (by kernel_rfl) ?_
  refine den_gives [.int .i64 (d.chk 0 0).2] cb_data_Check hc rfl pendNil fun H1 h1 => ⟨?_, h1⟩
  have : constOk d = (decide ((d.chk 0 0).2 = 0) && decide (d.kind ≠ 3) && (decide (d.kind < 5) || (decide (d.kind = 5) && decide ((d.list.length : Int) = 0)))) := by
    unfold constOk
    by_cases h : (d.chk 0 0).2 = 0
    · have hg : formOk d = true := Dat.Good.form ⟨0, 0, by omega, h⟩
      have hr : 0 ≤ d.kind := by rcases form_cases hg with h | h | h | h | h | h | h | h <;> omega
      rw [list_empty]
      simp only [h, decide_true, Bool.true_and]
      rw [Bool.eq_iff_iff]
      simp only [Bool.or_eq_true, Bool.and_eq_true, decide_eq_true_eq]
      constructor
      · rintro ((((h | h) | h) | h) | h)
        · exact ⟨by omega, .inl (by omega)⟩
        · exact ⟨by omega, .inl (by omega)⟩
        · exact ⟨by omega, .inl (by omega)⟩
        · exact ⟨by omega, .inl (by omega)⟩
        · exact ⟨by omega, .inr h⟩
      · rintro ⟨h1, h2 | h2⟩
        · left; omega
        · exact .inr h2
    · simp [h]
  rw [this]
  simp only [ev0, ev, evV, List.cons_append, List.nil_append, List.getD_cons_zero, List.getD_cons_succ, List.map_cons, List.map_nil, iOf, bOf, sOf, pOf, slLen, slBase, cmpI, arI, Value.ite_bool, int_beq, int_bne, ite_band, ite_bor]
/-- what kinds have: a name, names, how many kids from and to; may it be? -/
def shpX (e : Xp) : Bool × Bool × Int × Int × Bool :=
  if e.kind = 0 then (false, false, 0, 0, true) else if e.kind = 1 then (true, false, 0, 0, true) else if e.kind = 2 then (true, false, 1, 1, true) else if e.kind = 3 then (false, false, 3, 3, true)
  else if e.kind = 4 then (false, false, 2, 4096, true) else if e.kind = 5 then (false, true, 1, 1, decide ((e.names.length : Int) ≤ 6)) else if e.kind = 6 then (false, false, 1, 7, true)
  else if e.kind = 7 then (true, false, arityI e.name, arityI e.name, decide (0 ≤ arityI e.name)) else if e.kind = 8 ∨ e.kind = 9 then (false, true, IntKind.i64.wrap ((e.names.length : Int) + 1), IntKind.i64.wrap ((e.names.length : Int) + 1), true)
  else if e.kind = 10 then (false, true, IntKind.i64.wrap ((e.names.length : Int) + 1), IntKind.i64.wrap ((e.names.length : Int) + 1), decide ((0 : Int) < e.names.length)) else (false, false, 0, 0, false)
theorem CShaped_gives (e : Xp) (cs : List Value) (H : PH) (he : e.Rep H cs) : Gives Tryz.prog n_core_shaped [.agg cs.toArray] H (.tuple #[.agg #[.bool (shpX e).1, .bool (shpX e).2.1, .int .i64 (shpX e).2.2.1, .int .i64 (shpX e).2.2.2.1], .bool (shpX e).2.2.2.2]) := by
  obtain ⟨nb, db, kb, nc, dc, kc, rfl, hx⟩ := he.open
  refine tri_core_shaped (exVs e nb db kb nc dc kc) (by kernel_rfl) (by kernel_rfl) ?_
  refine ⟨fun h0 => ?_, fun h0 => ?_⟩
  · simp only [ev0, ev, evV, List.cons_append, List.nil_append, List.getD_cons_zero, List.getD_cons_succ, List.map_cons, List.map_nil, iOf, bOf, sOf, pOf, slLen, slBase, cmpI, arI, Value.ite_bool, int_beq, int_bne, ite_band, ite_bor, decide_eq_true_eq] at h0
    exact ⟨by rw [show shpX e = _ from by unfold shpX; rw [if_pos h0]]; simp only [ev0, ev, evV, List.cons_append, List.nil_append, List.getD_cons_zero, List.getD_cons_succ, List.map_cons, List.map_nil, iOf, bOf, sOf, pOf, slLen, slBase, cmpI, arI, Value.ite_bool, int_beq, int_bne, ite_band, ite_bor, partV]; rfl, PH.le_refl _⟩
  simp only [ev0, ev, evV, List.cons_append, List.nil_append, List.getD_cons_zero, List.getD_cons_succ, List.map_cons, List.map_nil, iOf, bOf, sOf, pOf, slLen, slBase, cmpI, arI, Value.ite_bool, int_beq, int_bne, ite_band, ite_bor, decide_eq_false_iff_not] at h0
  refine ⟨fun h1 => ?_, fun h1 => ?_⟩
  · simp only [ev0, ev, evV, List.cons_append, List.nil_append, List.getD_cons_zero, List.getD_cons_succ, List.map_cons, List.map_nil, iOf, bOf, sOf, pOf, slLen, slBase, cmpI, arI, Value.ite_bool, int_beq, int_bne, ite_band, ite_bor, decide_eq_true_eq] at h1
    exact ⟨by rw [show shpX e = _ from by unfold shpX; rw [if_neg h0, if_pos h1]]; simp only [ev0, ev, evV, List.cons_append, List.nil_append, List.getD_cons_zero, List.getD_cons_succ, List.map_cons, List.map_nil, iOf, bOf, sOf, pOf, slLen, slBase, cmpI, arI, Value.ite_bool, int_beq, int_bne, ite_band, ite_bor, partV]; rfl, PH.le_refl _⟩
  simp only [ev0, ev, evV, List.cons_append, List.nil_append, List.getD_cons_zero, List.getD_cons_succ, List.map_cons, List.map_nil, iOf, bOf, sOf, pOf, slLen, slBase, cmpI, arI, Value.ite_bool, int_beq, int_bne, ite_band, ite_bor, decide_eq_false_iff_not] at h1
  refine ⟨fun h2 => ?_, fun h2 => ?_⟩
  · simp only [ev0, ev, evV, List.cons_append, List.nil_append, List.getD_cons_zero, List.getD_cons_succ, List.map_cons, List.map_nil, iOf, bOf, sOf, pOf, slLen, slBase, cmpI, arI, Value.ite_bool, int_beq, int_bne, ite_band, ite_bor, decide_eq_true_eq] at h2
    exact ⟨by rw [show shpX e = _ from by unfold shpX; rw [if_neg h0, if_neg h1, if_pos h2]]; simp only [ev0, ev, evV, List.cons_append, List.nil_append, List.getD_cons_zero, List.getD_cons_succ, List.map_cons, List.map_nil, iOf, bOf, sOf, pOf, slLen, slBase, cmpI, arI, Value.ite_bool, int_beq, int_bne, ite_band, ite_bor, partV]; rfl, PH.le_refl _⟩
  simp only [ev0, ev, evV, List.cons_append, List.nil_append, List.getD_cons_zero, List.getD_cons_succ, List.map_cons, List.map_nil, iOf, bOf, sOf, pOf, slLen, slBase, cmpI, arI, Value.ite_bool, int_beq, int_bne, ite_band, ite_bor, decide_eq_false_iff_not] at h2
  refine ⟨fun h3 => ?_, fun h3 => ?_⟩
  · simp only [ev0, ev, evV, List.cons_append, List.nil_append, List.getD_cons_zero, List.getD_cons_succ, List.map_cons, List.map_nil, iOf, bOf, sOf, pOf, slLen, slBase, cmpI, arI, Value.ite_bool, int_beq, int_bne, ite_band, ite_bor, decide_eq_true_eq] at h3
    exact ⟨by rw [show shpX e = _ from by unfold shpX; rw [if_neg h0, if_neg h1, if_neg h2, if_pos h3]]; simp only [ev0, ev, evV, List.cons_append, List.nil_append, List.getD_cons_zero, List.getD_cons_succ, List.map_cons, List.map_nil, iOf, bOf, sOf, pOf, slLen, slBase, cmpI, arI, Value.ite_bool, int_beq, int_bne, ite_band, ite_bor, partV]; rfl, PH.le_refl _⟩
  simp only [ev0, ev, evV, List.cons_append, List.nil_append, List.getD_cons_zero, List.getD_cons_succ, List.map_cons, List.map_nil, iOf, bOf, sOf, pOf, slLen, slBase, cmpI, arI, Value.ite_bool, int_beq, int_bne, ite_band, ite_bor, decide_eq_false_iff_not] at h3
  refine ⟨fun h4 => ?_, fun h4 => ?_⟩
  · simp only [ev0, ev, evV, List.cons_append, List.nil_append, List.getD_cons_zero, List.getD_cons_succ, List.map_cons, List.map_nil, iOf, bOf, sOf, pOf, slLen, slBase, cmpI, arI, Value.ite_bool, int_beq, int_bne, ite_band, ite_bor, decide_eq_true_eq] at h4
    exact ⟨by rw [show shpX e = _ from by unfold shpX; rw [if_neg h0, if_neg h1, if_neg h2, if_neg h3, if_pos h4]]; simp only [ev0, ev, evV, List.cons_append, List.nil_append, List.getD_cons_zero, List.getD_cons_succ, List.map_cons, List.map_nil, iOf, bOf, sOf, pOf, slLen, slBase, cmpI, arI, Value.ite_bool, int_beq, int_bne, ite_band, ite_bor, partV]; rfl, PH.le_refl _⟩
  simp only [ev0, ev, evV, List.cons_append, List.nil_append, List.getD_cons_zero, List.getD_cons_succ, List.map_cons, List.map_nil, iOf, bOf, sOf, pOf, slLen, slBase, cmpI, arI, Value.ite_bool, int_beq, int_bne, ite_band, ite_bor, decide_eq_false_iff_not] at h4
  refine ⟨fun h5 => ?_, fun h5 => ?_⟩
  · simp only [ev0, ev, evV, List.cons_append, List.nil_append, List.getD_cons_zero, List.getD_cons_succ, List.map_cons, List.map_nil, iOf, bOf, sOf, pOf, slLen, slBase, cmpI, arI, Value.ite_bool, int_beq, int_bne, ite_band, ite_bor, decide_eq_true_eq] at h5
    exact ⟨by rw [show shpX e = _ from by unfold shpX; rw [if_neg h0, if_neg h1, if_neg h2, if_neg h3, if_neg h4, if_pos h5]]; simp only [ev0, ev, evV, List.cons_append, List.nil_append, List.getD_cons_zero, List.getD_cons_succ, List.map_cons, List.map_nil, iOf, bOf, sOf, pOf, slLen, slBase, cmpI, arI, Value.ite_bool, int_beq, int_bne, ite_band, ite_bor, partV]; rfl, PH.le_refl _⟩
  simp only [ev0, ev, evV, List.cons_append, List.nil_append, List.getD_cons_zero, List.getD_cons_succ, List.map_cons, List.map_nil, iOf, bOf, sOf, pOf, slLen, slBase, cmpI, arI, Value.ite_bool, int_beq, int_bne, ite_band, ite_bor, decide_eq_false_iff_not] at h5
  refine ⟨fun h6 => ?_, fun h6 => ?_⟩
  · simp only [ev0, ev, evV, List.cons_append, List.nil_append, List.getD_cons_zero, List.getD_cons_succ, List.map_cons, List.map_nil, iOf, bOf, sOf, pOf, slLen, slBase, cmpI, arI, Value.ite_bool, int_beq, int_bne, ite_band, ite_bor, decide_eq_true_eq] at h6
    exact ⟨by rw [show shpX e = _ from by unfold shpX; rw [if_neg h0, if_neg h1, if_neg h2, if_neg h3, if_neg h4, if_neg h5, if_pos h6]]; simp only [ev0, ev, evV, List.cons_append, List.nil_append, List.getD_cons_zero, List.getD_cons_succ, List.map_cons, List.map_nil, iOf, bOf, sOf, pOf, slLen, slBase, cmpI, arI, Value.ite_bool, int_beq, int_bne, ite_band, ite_bor, partV]; rfl, PH.le_refl _⟩
  simp only [ev0, ev, evV, List.cons_append, List.nil_append, List.getD_cons_zero, List.getD_cons_succ, List.map_cons, List.map_nil, iOf, bOf, sOf, pOf, slLen, slBase, cmpI, arI, Value.ite_bool, int_beq, int_bne, ite_band, ite_bor, decide_eq_false_iff_not] at h6
  refine ⟨fun h7 => ?_, fun h7 => ?_⟩
  · simp only [ev0, ev, evV, List.cons_append, List.nil_append, List.getD_cons_zero, List.getD_cons_succ, List.map_cons, List.map_nil, iOf, bOf, sOf, pOf, slLen, slBase, cmpI, arI, Value.ite_bool, int_beq, int_bne, ite_band, ite_bor, decide_eq_true_eq] at h7
    refine den_gives [.int .i64 (arityI e.name)] cb_core_Arity (Arity_gives e.name H) rfl pendNil fun H1 hh => ⟨?_, hh⟩
    rw [show shpX e = _ from by unfold shpX; rw [if_neg h0, if_neg h1, if_neg h2, if_neg h3, if_neg h4, if_neg h5, if_neg h6, if_pos h7]]
    simp only [ev0, ev, evV, List.cons_append, List.nil_append, List.getD_cons_zero, List.getD_cons_succ, List.map_cons, List.map_nil, iOf, bOf, sOf, pOf, slLen, slBase, cmpI, arI, Value.ite_bool, int_beq, int_bne, ite_band, ite_bor, partV]; rfl
  simp only [ev0, ev, evV, List.cons_append, List.nil_append, List.getD_cons_zero, List.getD_cons_succ, List.map_cons, List.map_nil, iOf, bOf, sOf, pOf, slLen, slBase, cmpI, arI, Value.ite_bool, int_beq, int_bne, ite_band, ite_bor, decide_eq_false_iff_not] at h7
  refine ⟨fun h8 => ?_, fun h8 => ?_⟩
  · simp only [ev0, ev, evV, List.cons_append, List.nil_append, List.getD_cons_zero, List.getD_cons_succ, List.map_cons, List.map_nil, iOf, bOf, sOf, pOf, slLen, slBase, cmpI, arI, Value.ite_bool, int_beq, int_bne, ite_band, ite_bor, Bool.or_eq_true, decide_eq_true_eq] at h8
    have h8 : e.kind = 8 ∨ e.kind = 9 := by
      by_cases hh : e.kind = 8
      · exact .inl hh
      · simp [hh] at h8; exact .inr h8
    rw [show shpX e = _ from by unfold shpX; rw [if_neg h0, if_neg h1, if_neg h2, if_neg h3, if_neg h4, if_neg h5, if_neg h6, if_neg h7, if_pos h8]]
    refine ⟨?_, PH.le_refl _⟩
    simp only [ev0, ev, evV, List.cons_append, List.nil_append, List.getD_cons_zero, List.getD_cons_succ, List.map_cons, List.map_nil, iOf, bOf, sOf, pOf, slLen, slBase, cmpI, arI, Value.ite_bool, int_beq, int_bne, ite_band, ite_bor, partV]; rfl
  simp only [ev0, ev, evV, List.cons_append, List.nil_append, List.getD_cons_zero, List.getD_cons_succ, List.map_cons, List.map_nil, iOf, bOf, sOf, pOf, slLen, slBase, cmpI, arI, Value.ite_bool, int_beq, int_bne, ite_band, ite_bor] at h8
  have h8 : ¬ (e.kind = 8 ∨ e.kind = 9) := by
    rintro (hh | hh) <;> simp [hh] at h8
  refine ⟨fun h10 => ?_, fun h10 => ?_⟩
  · simp only [ev0, ev, evV, List.cons_append, List.nil_append, List.getD_cons_zero, List.getD_cons_succ, List.map_cons, List.map_nil, iOf, bOf, sOf, pOf, slLen, slBase, cmpI, arI, Value.ite_bool, int_beq, int_bne, ite_band, ite_bor, decide_eq_true_eq] at h10
    rw [show shpX e = _ from by unfold shpX; rw [if_neg h0, if_neg h1, if_neg h2, if_neg h3, if_neg h4, if_neg h5, if_neg h6, if_neg h7, if_neg h8, if_pos h10]]
    refine ⟨?_, PH.le_refl _⟩
    simp only [ev0, ev, evV, List.cons_append, List.nil_append, List.getD_cons_zero, List.getD_cons_succ, List.map_cons, List.map_nil, iOf, bOf, sOf, pOf, slLen, slBase, cmpI, arI, Value.ite_bool, int_beq, int_bne, ite_band, ite_bor, partV]; rfl
  · simp only [ev0, ev, evV, List.cons_append, List.nil_append, List.getD_cons_zero, List.getD_cons_succ, List.map_cons, List.map_nil, iOf, bOf, sOf, pOf, slLen, slBase, cmpI, arI, Value.ite_bool, int_beq, int_bne, ite_band, ite_bor, decide_eq_false_iff_not] at h10
    rw [show shpX e = _ from by unfold shpX; rw [if_neg h0, if_neg h1, if_neg h2, if_neg h3, if_neg h4, if_neg h5, if_neg h6, if_neg h7, if_neg h8, if_neg h10]]
    exact ⟨rfl, PH.le_refl _⟩
/-- may an expression's own fields be? as the program asks it -/
def frmB (e : Xp) : Bool :=
  if (((!(shpX e).2.2.2.2 || decide ((e.kids.length : Int) < (shpX e).2.2.1)) || decide ((shpX e).2.2.2.1 < (e.kids.length : Int))) || (decide ((0 : Int) < e.names.length) && !(shpX e).2.1)) || !namesOk e.names then false
  else if ((shpX e).1 && decide (e.kind ≠ 7) && !nameOk e.name) || (!(shpX e).1 && decide (e.name ≠ [])) then false
  else if e.kind = 0 then constOk e.const
  else (decide (e.kind ≠ 10) || !((e.kids.take e.names.length).any fun k => decide (k.kind ≠ 5))) && isDat0 e.const
/-- the same, over what is of moment alone: the kind, how long the name, the names, the kids are, and what holds of them -/
def shpN (k : Int) (n : Nat) (A : Int) : Bool × Bool × Int × Int × Bool :=
  if k = 0 then (false, false, 0, 0, true) else if k = 1 then (true, false, 0, 0, true) else if k = 2 then (true, false, 1, 1, true) else if k = 3 then (false, false, 3, 3, true)
  else if k = 4 then (false, false, 2, 4096, true) else if k = 5 then (false, true, 1, 1, decide ((n : Int) ≤ 6)) else if k = 6 then (false, false, 1, 7, true)
  else if k = 7 then (true, false, A, A, decide (0 ≤ A)) else if k = 8 ∨ k = 9 then (false, true, IntKind.i64.wrap ((n : Int) + 1), IntKind.i64.wrap ((n : Int) + 1), true)
  else if k = 10 then (false, true, IntKind.i64.wrap ((n : Int) + 1), IntKind.i64.wrap ((n : Int) + 1), decide ((0 : Int) < n)) else (false, false, 0, 0, false)
def frmN (k : Int) (u n m : Nat) (A : Int) (N S D C B : Bool) : Bool :=
  if (((!(shpN k n A).2.2.2.2 || decide ((m : Int) < (shpN k n A).2.2.1)) || decide ((shpN k n A).2.2.2.1 < (m : Int))) || (decide ((0 : Int) < n) && !(shpN k n A).2.1)) || !N then false
  else if ((shpN k n A).1 && decide (k ≠ 7) && !S) || (!(shpN k n A).1 && decide (u ≠ 0)) then false
  else if k = 0 then C
  else (decide (k ≠ 10) || B) && D
def exN (k : Int) (u n m : Nat) (A : Int) (N S D C B : Bool) : Bool :=
  (if k = 0 then decide (u = 0) && decide (n = 0) && decide (m = 0) && C
  else D && N &&
    (if k = 1 then S && decide (n = 0) && decide (m = 0)
    else if k = 2 then S && decide (n = 0) && decide (m = 1)
    else if k = 3 then decide (u = 0) && decide (n = 0) && decide (m = 3)
    else if k = 4 then decide (u = 0) && decide (n = 0) && decide (2 ≤ m)
    else if k = 5 then decide (u = 0) && decide (n ≤ 6) && decide (m = 1)
    else if k = 6 then decide (u = 0) && decide (n = 0) && decide (1 ≤ m) && decide (m ≤ 7)
    else if k = 7 then decide (n = 0) && decide (A = m)
    else if k = 8 ∨ k = 9 then decide (u = 0) && decide (m = n + 1)
    else if k = 10 then decide (u = 0) && decide (1 ≤ n) && decide (m = n + 1) && B
    else false)) && !(decide (k = 4) && decide (4096 < m))
theorem frmN_eq (k : Int) (u n m : Nat) (A : Int) (N S D C B : Bool) (hn : n ≤ 9223372036854775807) (hm : m ≤ 9223372036854775807) (hN : n = 0 → N = true) : frmN k u n m A N S D C B = exN k u n m A N S D C B := by
  have hwr : IntKind.i64.wrap ((n : Int) + 1) = if n = 9223372036854775807 then -9223372036854775808 else (n : Int) + 1 := by
    split
    · rename_i h; rw [h]; decide
    · exact w64 (by omega) (by omega)
  unfold frmN exN shpN
  rw [hwr]
  by_cases h0 : k = 0
  · subst h0; grind
  by_cases h1 : k = 1
  · subst h1; grind
  by_cases h2 : k = 2
  · subst h2; grind
  by_cases h3 : k = 3
  · subst h3; grind
  by_cases h4 : k = 4
  · subst h4; grind
  by_cases h5 : k = 5
  · subst h5; grind
  by_cases h6 : k = 6
  · subst h6; grind
  by_cases h7 : k = 7
  · subst h7; grind
  by_cases h8 : k = 8
  · subst h8; grind
  by_cases h9 : k = 9
  · subst h9; grind
  by_cases h10 : k = 10
  · subst h10; grind
  · simp [h0, h1, h2, h3, h4, h5, h6, h7, h8, h9, h10]
theorem nil_iff_len {α : Type} (l : List α) : l.isEmpty = decide (l.length = 0) := by cases l <;> simp
theorem frmB_eq (e : Xp) (hn : e.names.length ≤ 9223372036854775807) (hk : e.kids.length ≤ 9223372036854775807) : frmB e = exFormP e := by
  have hany : (e.kids.take e.names.length).any (fun k => decide (k.kind ≠ 5)) = !((e.kids.take e.names.length).all fun k => decide (k.kind = 5)) := by
    rw [Bool.eq_iff_iff]; simp
  have hne : decide (e.name ≠ []) = decide (e.name.length ≠ 0) := by cases e.name <;> simp
  have h1 : frmB e = frmN e.kind e.name.length e.names.length e.kids.length (arityI e.name) (namesOk e.names) (nameOk e.name) (isDat0 e.const) (constOk e.const) ((e.kids.take e.names.length).all fun k => decide (k.kind = 5)) := by
    unfold frmB
    rw [hany, hne, Bool.not_not]
    rfl
  have h2 : exFormP e = exN e.kind e.name.length e.names.length e.kids.length (arityI e.name) (namesOk e.names) (nameOk e.name) (isDat0 e.const) (constOk e.const) ((e.kids.take e.names.length).all fun k => decide (k.kind = 5)) := by
    unfold exFormP exForm
    simp only [nil_iff_len]
    rfl
  rw [h1, h2]
  exact frmN_eq _ _ _ _ _ _ _ _ _ _ hn hk fun h => by rw [List.length_eq_zero_iff.1 h]; rfl
end Go.Proofs.YtibinelkmlcmgaaGreatDoor.Vc
/-
  CORE: the program's check of an expression.
-/
namespace Go.Proofs.YtibinelkmlcmgaaGreatDoor.Vc
open Go

theorem notLam_gives (e : Xp) (cs : List Value) (H : PH) (he : e.Rep H cs) : Gives Tryz.prog n_core_form_1 [.agg cs.toArray] H (.bool (decide (e.kind ≠ 5))) := by
  obtain ⟨nb, db, kb, nc, dc, kc, rfl, hx⟩ := he.open
  refine tri_core_form_1 (exVs e nb db kb nc dc kc) (by kernel_rfl) (by kernel_rfl) ⟨?_, PH.le_refl _⟩
  simp only [ev0, ev, evV, List.cons_append, List.nil_append, List.getD_cons_zero, List.getD_cons_succ, List.map_cons, List.map_nil, iOf, bOf, sOf, pOf, slLen, slBase, cmpI, arI, Value.ite_bool, int_beq, int_bne, ite_band, ite_bor]
theorem IndexLam_tri (l : List Xp) (v : Value) (H : PH) (hl : SlR H l v) : Tri Tryz.prog n_slices_IndexFunc___api_Expr_api_Expr_ #[v, .func (.func n_core_form_1) #[] #[]] H fun e H' => ∃ n : Int, e = .returned (.int .i64 n) ∧ decide (0 ≤ n) = l.any (fun k => decide (k.kind ≠ 5)) ∧ PH.le H H' := by
  obtain ⟨b, c, rfl⟩ := hl.sl
  have hm := hl.max
  simp only [maxLen] at hm
  refine tri_slices_IndexFunc___api_Expr_api_Expr_ [.slice b l.length c, .func (.func n_core_form_1) #[] #[]] (by kernel_rfl) (by kernel_rfl) ?_
  refine ⟨fun n vs H' => ∃ k : Nat, vs = [.int .i64 0, .int .i64 k] ∧ k + n = l.length ∧ (∀ x ∈ l.take k, x.kind = 5) ∧ PH.le H H', ⟨l.length, 0, rfl, by omega, by simp, PH.le_refl H⟩, ?_⟩
  rintro n vs H' _ ⟨k, rfl, hkn, hno, hle⟩
  refine ⟨fun h => ?_, fun h => ?_⟩
  · simp only [ev0, ev, evV, List.cons_append, List.nil_append, List.getD_cons_zero, List.getD_cons_succ, List.map_cons, List.map_nil, iOf, bOf, sOf, pOf, slLen, slBase, cmpI, arI, Value.ite_bool, int_beq, int_bne, ite_band, ite_bor, decide_eq_true_eq] at h
    obtain ⟨a, ha⟩ : ∃ a, l[k]? = some a := ⟨_, List.getElem?_eq_getElem (show k < l.length by omega)⟩
    obtain ⟨g1, _, ces, g2, g3⟩ := (hl.le hle).get ha
    have htags := Xp.Rep.tags g2
    have hcall := notLam_gives a ces H' g2
    obtain ⟨nb, db, kb, nc, dc, kc, rfl, hx⟩ := Xp.Rep.open g2
    refine ⟨fun _ => ?_, _, htags, by simp only [ev0, ev, evV, List.cons_append, List.nil_append, List.getD_cons_zero, List.getD_cons_succ, List.map_cons, List.map_nil, iOf, bOf, sOf, pOf, slLen, slBase, cmpI, arI, Value.ite_bool, int_beq, int_bne, ite_band, ite_bor]; exact g3, ?_⟩
    · simp only [Chk.holds, ev0, ev, evV, List.cons_append, List.nil_append, List.getD_cons_zero, List.getD_cons_succ, List.map_cons, List.map_nil, iOf, bOf, sOf, pOf, slLen, slBase, cmpI, arI, Value.ite_bool, int_beq, int_bne, ite_band, ite_bor]; exact ⟨g1, by omega, by omega⟩
    refine den_givesF [.bool (decide (a.kind ≠ 5))] rfl cb_core_form_1 hcall rfl pendNil fun H2 h2 => ⟨fun h3 => ?_, fun h3 => ?_⟩
    · simp only [ev0, ev, evV, List.cons_append, List.nil_append, List.getD_cons_zero, List.getD_cons_succ, List.map_cons, List.map_nil, iOf, bOf, sOf, pOf, slLen, slBase, cmpI, arI, Value.ite_bool, int_beq, int_bne, ite_band, ite_bor, decide_eq_true_eq] at h3
      refine ⟨k, rfl, ?_, PH.le_trans hle h2⟩
      have : l.any (fun k => decide (k.kind ≠ 5)) = true := List.any_eq_true.2 ⟨a, List.mem_of_getElem? ha, by simpa using h3⟩
      rw [this]; simp
    · simp only [ev0, ev, evV, List.cons_append, List.nil_append, List.getD_cons_zero, List.getD_cons_succ, List.map_cons, List.map_nil, iOf, bOf, sOf, pOf, slLen, slBase, cmpI, arI, Value.ite_bool, int_beq, int_bne, ite_band, ite_bor, decide_eq_false_iff_not, ne_eq, Decidable.not_not] at h3
      refine ⟨_, lookup_hit, n - 1, by omega, k + 1, ?_, by omega, fun x hx => ?_, PH.le_trans hle h2⟩
      · simp only [ev0, ev, evV, List.cons_append, List.nil_append, List.getD_cons_zero, List.getD_cons_succ, List.map_cons, List.map_nil, iOf, bOf, sOf, pOf, slLen, slBase, cmpI, arI, Value.ite_bool, int_beq, int_bne, ite_band, ite_bor]; rw [w64 (by omega) (by omega)]; rfl
      · rcases take_mem_succ ha hx with hx | hx
        · exact hno x hx
        · rw [hx]; exact h3
  · simp only [ev0, ev, evV, List.cons_append, List.nil_append, List.getD_cons_zero, List.getD_cons_succ, List.map_cons, List.map_nil, iOf, bOf, sOf, pOf, slLen, slBase, cmpI, arI, Value.ite_bool, int_beq, int_bne, ite_band, ite_bor, decide_eq_false_iff_not] at h
    rw [List.take_of_length_le (by omega)] at hno
    refine ⟨-1, rfl, ?_, hle⟩
    have : l.any (fun k => decide (k.kind ≠ 5)) = false := by
      rw [List.any_eq_false]
      intro x hx
      simp [hno x hx]
    rw [this]; rfl
theorem ContainsLam_gives (l : List Xp) (v : Value) (H : PH) (hl : SlR H l v) : Gives Tryz.prog n_slices_ContainsFunc___api_Expr_api_Expr_ [v, .func (.func n_core_form_1) #[] #[]] H (.bool (l.any fun k => decide (k.kind ≠ 5))) := by
  obtain ⟨b, c, rfl⟩ := hl.sl
  refine tri_slices_ContainsFunc___api_Expr_api_Expr_ [.slice b l.length c, .func (.func n_core_form_1) #[] #[]] (by kernel_rfl) (by kernel_rfl) ?_
  refine den_call cb_slices_IndexFunc___api_Expr_api_Expr_ (IndexLam_tri l _ H hl) ?_
  rintro e H' ⟨n, rfl, h1, h2⟩
  refine ⟨_, [_], rfl, rfl, rfl, pendNil, ?_, h2⟩
  simp only [ev0, ev, evV, List.cons_append, List.nil_append, List.getD_cons_zero, List.getD_cons_succ, List.map_cons, List.map_nil, iOf, bOf, sOf, pOf, slLen, slBase, cmpI, arI, Value.ite_bool, int_beq, int_bne, ite_band, ite_bor, h1]
theorem isDat0_dec (d : Dat) : decide (d = .mk 0 0 [] []) = isDat0 d := by
  rw [Bool.eq_iff_iff, decide_eq_true_eq, isDat0_iff]; rfl
theorem dat0_rep (H : PH) : Dat.Rep H (.mk 0 0 [] []) [.int .i64 0, .int .i64 0, txt [], .slice none 0 0] := leaf_rep (by decide) (by decide) (by decide)
theorem CForm_gives (e : Xp) (cs : List Value) (H : PH) (he : e.Rep H cs) : Gives Tryz.prog n_core_form [.agg cs.toArray] H (.bool (exFormP e)) := by
  have hsh := fun H' (h : PH.le H H') => CShaped_gives e cs H' (Xp.Rep.le h e he)
  obtain ⟨nb, db, kb, nc, dc, kc, rfl, hx⟩ := he.open
  have hn := hx.names.max
  have hk := hx.kids.max
  have hcap := hx.kids.capLe
  simp only [maxLen] at hn hk
  rw [← frmB_eq e (by omega) (by omega)]
  refine tri_core_form (exVs e nb db kb nc dc kc) (by kernel_rfl) (by kernel_rfl) ?_
  refine den_gives [.bool (shpX e).1, .bool (shpX e).2.1, .int .i64 (shpX e).2.2.1, .int .i64 (shpX e).2.2.2.1, .bool (shpX e).2.2.2.2] cb_core_shaped (hsh H (PH.le_refl H)) rfl pendNil fun H1 h1 => ?_
  generalize hb1 : ((((!(shpX e).2.2.2.2 || decide ((e.kids.length : Int) < (shpX e).2.2.1)) || decide ((shpX e).2.2.2.1 < (e.kids.length : Int))) || (decide ((0 : Int) < e.names.length) && !(shpX e).2.1)) || !namesOk e.names) = bad1
  refine ⟨fun vs H' => vs = [.bool bad1] ∧ PH.le H H', ?_, ?_⟩
  · rintro vs H2 _ ⟨rfl, h2⟩
    refine ⟨fun h => ?_, fun h => ?_⟩
    · simp only [ev0, ev, evV, List.cons_append, List.nil_append, List.getD_cons_zero, List.getD_cons_succ, List.map_cons, List.map_nil, iOf, bOf, sOf, pOf, slLen, slBase, cmpI, arI, Value.ite_bool, int_beq, int_bne, ite_band, ite_bor] at h
      refine ⟨?_, h2⟩
      unfold frmB
      rw [hb1, if_pos h]; rfl
    simp only [ev0, ev, evV, List.cons_append, List.nil_append, List.getD_cons_zero, List.getD_cons_succ, List.map_cons, List.map_nil, iOf, bOf, sOf, pOf, slLen, slBase, cmpI, arI, Value.ite_bool, int_beq, int_bne, ite_band, ite_bor] at h
    generalize hb2 : (((shpX e).1 && decide (e.kind ≠ 7) && !nameOk e.name) || (!(shpX e).1 && decide (e.name ≠ []))) = bad2
    refine ⟨fun vs H' => vs = [.bool bad2] ∧ PH.le H H', ?_, ?_⟩
    · rintro vs H3 _ ⟨rfl, h3⟩
      refine ⟨fun g => ?_, fun g => ?_⟩
      · simp only [ev0, ev, evV, List.cons_append, List.nil_append, List.getD_cons_zero, List.getD_cons_succ, List.map_cons, List.map_nil, iOf, bOf, sOf, pOf, slLen, slBase, cmpI, arI, Value.ite_bool, int_beq, int_bne, ite_band, ite_bor] at g
        refine ⟨?_, h3⟩
        unfold frmB
        rw [hb1, hb2, h, g]; rfl
      simp only [ev0, ev, evV, List.cons_append, List.nil_append, List.getD_cons_zero, List.getD_cons_succ, List.map_cons, List.map_nil, iOf, bOf, sOf, pOf, slLen, slBase, cmpI, arI, Value.ite_bool, int_beq, int_bne, ite_band, ite_bor] at g
      refine ⟨fun g0 => ?_, fun g0 => ?_⟩
      · simp only [ev0, ev, evV, List.cons_append, List.nil_append, List.getD_cons_zero, List.getD_cons_succ, List.map_cons, List.map_nil, iOf, bOf, sOf, pOf, slLen, slBase, cmpI, arI, Value.ite_bool, int_beq, int_bne, ite_band, ite_bor, decide_eq_true_eq] at g0
        refine den_gives [.bool (constOk e.const)] cb_core_isConst (isConst_gives e.const _ H3 (Dat.Rep.le h3 _ hx.const)) rfl pendNil fun H4 h4 => ⟨?_, PH.le_trans h3 h4⟩
        unfold frmB
        rw [hb1, hb2, h, g]
        simp only [Bool.false_eq_true, if_false, if_pos g0]; rfl
      simp only [ev0, ev, evV, List.cons_append, List.nil_append, List.getD_cons_zero, List.getD_cons_succ, List.map_cons, List.map_nil, iOf, bOf, sOf, pOf, slLen, slBase, cmpI, arI, Value.ite_bool, int_beq, int_bne, ite_band, ite_bor, decide_eq_false_iff_not] at g0
      have hfr : frmB e = ((decide (e.kind ≠ 10) || !((e.kids.take e.names.length).any fun k => decide (k.kind ≠ 5))) && isDat0 e.const) := by
        unfold frmB
        rw [hb1, hb2, h, g]
        simp only [Bool.false_eq_true, if_false, if_neg g0]
      rw [hfr]
      refine ⟨fun vs H' => vs = [.bool (decide (e.kind ≠ 10) || !((e.kids.take e.names.length).any fun k => decide (k.kind ≠ 5)))] ∧ PH.le H H', ?_, ?_⟩
      · rintro vs H4 _ ⟨rfl, h4⟩
        refine ⟨fun vs H' => vs = [.bool ((decide (e.kind ≠ 10) || !((e.kids.take e.names.length).any fun k => decide (k.kind ≠ 5))) && isDat0 e.const)] ∧ PH.le H H', ?_, ?_⟩
        · rintro vs H5 _ ⟨rfl, h5⟩
          exact ⟨rfl, h5⟩
        refine ⟨fun w => ?_, fun w => ?_⟩
        · simp only [ev0, ev, evV, List.cons_append, List.nil_append, List.getD_cons_zero, List.getD_cons_succ, List.map_cons, List.map_nil, iOf, bOf, sOf, pOf, slLen, slBase, cmpI, arI, Value.ite_bool, int_beq, int_bne, ite_band, ite_bor] at w
          have he := Equal_gives e.const (.mk 0 0 [] []) _ _ H4 (Dat.Rep.le h4 _ hx.const) (dat0_rep H4)
          rw [isDat0_dec] at he
          refine den_gives [.bool (isDat0 e.const)] cb_data_Equal he rfl pendNil fun H5 h5 => ⟨_, lookup_hit, ?_, PH.le_trans h4 h5⟩
          rw [w]; rfl
        · simp only [ev0, ev, evV, List.cons_append, List.nil_append, List.getD_cons_zero, List.getD_cons_succ, List.map_cons, List.map_nil, iOf, bOf, sOf, pOf, slLen, slBase, cmpI, arI, Value.ite_bool, int_beq, int_bne, ite_band, ite_bor] at w
          refine ⟨_, lookup_hit, ?_, h4⟩
          rw [w]; rfl
      · -- the kids of a fix
        have hlen : ¬ (e.kind ≠ 10) → (e.kids.length : Int) = (e.names.length : Int) + 1 := by
          intro h10
          have h10 : e.kind = 10 := Decidable.not_not.1 h10
          have hb := hb1
          rw [h] at hb
          have hs : shpX e = (false, true, IntKind.i64.wrap ((e.names.length : Int) + 1), IntKind.i64.wrap ((e.names.length : Int) + 1), decide ((0 : Int) < e.names.length)) := by unfold shpX; simp [h10]
          rw [hs] at hb
          simp only [Bool.or_eq_false_iff, decide_eq_false_iff_not] at hb
          obtain ⟨⟨⟨⟨_, b1⟩, b2⟩, _⟩, _⟩ := hb
          by_cases hx : e.names.length = 9223372036854775807
          · rw [hx] at b1 b2
            have : IntKind.i64.wrap (((9223372036854775807 : Nat) : Int) + 1) = -9223372036854775808 := by decide
            rw [this] at b1 b2
            omega
          · rw [w64 (by omega) (by omega)] at b1 b2
            omega
        refine ⟨fun w => ?_, fun w => ?_, fun w => ?_⟩
        · have w' : ¬ (e.kind ≠ 10) := by
            have := w _ (List.mem_singleton.2 rfl)
            simp only [ev0, ev, evV, List.cons_append, List.nil_append, List.getD_cons_zero, List.getD_cons_succ, List.map_cons, List.map_nil, iOf, bOf, sOf, pOf, slLen, slBase, cmpI, arI, Value.ite_bool, int_beq, int_bne, ite_band, ite_bor, decide_eq_false_iff_not] at this
            exact this
          have := hlen w'
          simp only [Chk.holds, ev0, ev, evV, List.cons_append, List.nil_append, List.getD_cons_zero, List.getD_cons_succ, List.map_cons, List.map_nil, iOf, bOf, sOf, pOf, slLen, slBase, cmpI, arI, Value.ite_bool, int_beq, int_bne, ite_band, ite_bor, slCap]; omega
        · simp only [ev0, ev, evV, List.cons_append, List.nil_append, List.getD_cons_zero, List.getD_cons_succ, List.map_cons, List.map_nil, iOf, bOf, sOf, pOf, slLen, slBase, cmpI, arI, Value.ite_bool, int_beq, int_bne, ite_band, ite_bor, decide_eq_true_eq] at w
          refine ⟨_, lookup_hit, ?_, h3⟩
          rw [decide_eq_true w]; rfl
        · simp only [ev0, ev, evV, List.cons_append, List.nil_append, List.getD_cons_zero, List.getD_cons_succ, List.map_cons, List.map_nil, iOf, bOf, sOf, pOf, slLen, slBase, cmpI, arI, Value.ite_bool, int_beq, int_bne, ite_band, ite_bor, decide_eq_false_iff_not] at w
          have hl := hlen w
          have hcut := (hx.kids.le h3).cut (a := 0) (b := e.names.length) (by omega) (by omega)
          rw [List.drop_zero] at hcut
          refine den_gives [.bool ((e.kids.take e.names.length).any fun k => decide (k.kind ≠ 5))] cb_slices_ContainsFunc___api_Expr_api_Expr_ ?_ rfl pendNil fun H4 h4 => ⟨_, lookup_hit, ?_, PH.le_trans h3 h4⟩
          · have := ContainsLam_gives _ _ H3 hcut
            simp only [ev0, ev, evV, List.cons_append, List.nil_append, List.getD_cons_zero, List.getD_cons_succ, List.map_cons, List.map_nil, iOf, bOf, sOf, pOf, slLen, slBase, cmpI, arI, Value.ite_bool, int_beq, int_bne, ite_band, ite_bor]
            exact this
          · rw [decide_eq_false w]
            simp only [ev0, ev, evV, List.cons_append, List.nil_append, List.getD_cons_zero, List.getD_cons_succ, List.map_cons, List.map_nil, iOf, bOf, sOf, pOf, slLen, slBase, cmpI, arI, Value.ite_bool, int_beq, int_bne, ite_band, ite_bor, Bool.false_or]
    · refine ⟨fun g => ?_, fun g => ?_⟩
      · simp only [ev0, ev, evV, List.cons_append, List.nil_append, List.getD_cons_zero, List.getD_cons_succ, List.map_cons, List.map_nil, iOf, bOf, sOf, pOf, slLen, slBase, cmpI, arI, Value.ite_bool, int_beq, int_bne, ite_band, ite_bor, Bool.and_eq_true, decide_eq_true_eq] at g
        refine den_gives [.bool (nameOk e.name)] cb_data_Name (Name_gives e.name hx.name H2) rfl pendNil fun H3 h3 => ⟨_, lookup_hit, ?_, PH.le_trans h2 h3⟩
        rw [← hb2]
        simp only [ev0, ev, evV, List.cons_append, List.nil_append, List.getD_cons_zero, List.getD_cons_succ, List.map_cons, List.map_nil, iOf, bOf, sOf, pOf, slLen, slBase, cmpI, arI, Value.ite_bool, int_beq, int_bne, ite_band, ite_bor, txt_neq, g.1, decide_eq_true g.2]
        cases nameOk e.name <;> rfl
      · refine ⟨_, lookup_hit, ?_, h2⟩
        rw [← hb2]
        simp only [ev0, ev, evV, List.cons_append, List.nil_append, List.getD_cons_zero, List.getD_cons_succ, List.map_cons, List.map_nil, iOf, bOf, sOf, pOf, slLen, slBase, cmpI, arI, Value.ite_bool, int_beq, int_bne, ite_band, ite_bor, txt_neq] at g ⊢
        cases h1 : (shpX e).1
        · rfl
        · rw [h1] at g
          simp only [Bool.true_and] at g
          simp [g]
  · refine ⟨fun g => ?_, fun g => ?_⟩
    · refine ⟨_, lookup_hit, ?_, h1⟩
      simp only [ev0, ev, evV, List.cons_append, List.nil_append, List.getD_cons_zero, List.getD_cons_succ, List.map_cons, List.map_nil, iOf, bOf, sOf, pOf, slLen, slBase, cmpI, arI, Value.ite_bool, int_beq, int_bne, ite_band, ite_bor] at g
      rw [← hb1]
      simp only [ev0, ev, evV, List.cons_append, List.nil_append, List.getD_cons_zero, List.getD_cons_succ, List.map_cons, List.map_nil, iOf, bOf, sOf, pOf, slLen, slBase, cmpI, arI, Value.ite_bool, int_beq, int_bne, ite_band, ite_bor]
      simp only [gt_iff_lt] at g
      rw [g]; rfl
    · refine den_gives [.bool (namesOk e.names)] cb_core_names (CNames_gives e.names _ H1 (hx.names.le h1)) rfl pendNil fun H2 h2 => ⟨_, lookup_hit, ?_, PH.le_trans h1 h2⟩
      rw [← hb1]
      simp only [ev0, ev, evV, List.cons_append, List.nil_append, List.getD_cons_zero, List.getD_cons_succ, List.map_cons, List.map_nil, iOf, bOf, sOf, pOf, slLen, slBase, cmpI, arI, Value.ite_bool, int_beq, int_bne, ite_band, ite_bor] at g ⊢
      simp only [gt_iff_lt] at g
      rw [g]; rfl
theorem Xp.chk_eq (t : Bool) (e : Xp) (deep seen : Nat) : e.chk t deep seen = if seen = 4096 then (seen, 62) else if 250 ≤ deep then (seen + 1, 61) else if (if t then exFormP e else exForm e) = false then (seen + 1, 60) else Xps.chk t e.kids (deep + 1) (seen + 1) := by
  cases e; simp only [Xp.chk, Xp.kids]
mutual
theorem Xp.chk_le (t : Bool) : ∀ (e : Xp) (deep seen : Nat), seen ≤ 4096 → (e.chk t deep seen).1 ≤ 4096
  | .mk k s ns d l, deep, seen, h => by
    simp only [Xp.chk]
    repeat' split
    all_goals first
      | exact h
      | exact Xps.chk_le t l _ _ (by omega)
      | (show seen + 1 ≤ 4096; omega)
theorem Xps.chk_le (t : Bool) : ∀ (l : List Xp) (deep seen : Nat), seen ≤ 4096 → (Xps.chk t l deep seen).1 ≤ 4096
  | [], _, _, h => by simpa only [Xps.chk] using h
  | e :: l, deep, seen, h => by
    simp only [Xps.chk]
    split
    · exact Xp.chk_le t e deep seen h
    · exact Xps.chk_le t l deep _ (Xp.chk_le t e deep seen h)
end
theorem CCheck_tri : ∀ (d : Xp) (cs : List Value) (H : PH) (wr deep seen : Nat) (T : TypeId), d.Rep (H.del wr) cs → H wr = some (.cells #[.int .i64 seen] T (0, 0)) → deep ≤ 250 → seen ≤ 4096 →
    Tri Tryz.prog n_core_check #[.agg cs.toArray, .int .i64 deep, .pointer (some ⟨wr, 0, none⟩)] H fun e H' => e = .returned (.int .i64 (d.chk true deep seen).2) ∧ H' wr = some (.cells #[.int .i64 (d.chk true deep seen).1] T (0, 0)) ∧ PH.le (H.del wr) (H'.del wr) := by
  refine Xp.ind ?_
  intro d ih cs H wr deep seen T hd hwr hdeep hseen
  have hd' := hd
  obtain ⟨nb, db, kb, nc, dc, kc, rfl, hx⟩ := Xp.Rep.open hd
  have hs := hx.kids
  have hlen := hs.max
  simp only [maxLen] at hlen
  rw [Xp.chk_eq]
  refine tri_core_check (exVs d nb db kb nc dc kc ++ [.int .i64 deep, .pointer (some ⟨wr, 0, none⟩)]) (by kernel_rfl) (by kernel_rfl) ?_
  have hrow : rowAt H (some ⟨wr, 0, none⟩) [.int .i64 seen] := ⟨_, rfl, fun i v hi => by
    rw [Addr.add_plain, PH.cell_at hwr]
    cases i with
    | zero => simpa using hi
    | succ i => simp at hi⟩
  have hs1 : IntKind.i64.wrap ((seen : Int) + 1) = ((seen + 1 : Nat) : Int) := by rw [w64 (by omega) (by omega)]; omega
  refine ⟨fun _ => rfl, [.int .i64 seen], rfl, hrow, ?_⟩
  refine ⟨fun h0 => ?_, fun h0 => ?_⟩
  · simp only [ev0, ev, evV, List.cons_append, List.nil_append, List.getD_cons_zero, List.getD_cons_succ, List.map_cons, List.map_nil, iOf, bOf, sOf, pOf, slLen, slBase, cmpI, arI, Value.ite_bool, int_beq, int_bne, ite_band, ite_bor, decide_eq_true_eq] at h0
    have h0' : seen = 4096 := by omega
    refine ⟨?_, ?_, PH.le_refl _⟩
    · rw [if_pos h0']; rfl
    · rw [if_pos h0']; exact hwr
  simp only [ev0, ev, evV, List.cons_append, List.nil_append, List.getD_cons_zero, List.getD_cons_succ, List.map_cons, List.map_nil, iOf, bOf, sOf, pOf, slLen, slBase, cmpI, arI, Value.ite_bool, int_beq, int_bne, ite_band, ite_bor, decide_eq_false_iff_not] at h0
  rw [if_neg (show ¬ seen = 4096 by omega)]
  refine ⟨[.int .i64 seen], rfl, hrow, ⟨wr, 0, none⟩, rfl, ?_⟩
  refine wpS_storeCells _ 0 0 #[.int .i64 seen] H hwr (by simp) (by simp [ev0, ev, oneC]) ?_
  have hsp : splice #[Value.int .i64 seen] (0 + 0) (List.map (ev0 (exVs d nb db kb nc dc kc ++ [.int .i64 deep, .pointer (some ⟨wr, 0, none⟩)] ++ [.int .i64 seen] ++ [.int .i64 seen])) [.ar .add .i64 (.atom 11) (.int .i64 1)]) = #[.int .i64 ((seen + 1 : Nat) : Int)] := by
    simp only [ev0, ev, evV, List.cons_append, List.nil_append, List.getD_cons_zero, List.getD_cons_succ, List.map_cons, List.map_nil, iOf, bOf, sOf, pOf, slLen, slBase, cmpI, arI, Value.ite_bool, int_beq, int_bne, ite_band, ite_bor, hs1]; rfl
  rw [hsp]
  have hw1 : (H.upd wr (.cells #[.int .i64 ((seen + 1 : Nat) : Int)] T (0, 0))) wr = some (.cells #[.int .i64 ((seen + 1 : Nat) : Int)] T (0, 0)) := PH.upd_same
  have hdl : PH.le (H.del wr) ((H.upd wr (.cells #[.int .i64 ((seen + 1 : Nat) : Int)] T (0, 0))).del wr) := by rw [PH.del_upd]; exact PH.le_refl _
  generalize H.upd wr (.cells #[.int .i64 ((seen + 1 : Nat) : Int)] T (0, 0)) = H1 at hw1 hdl ⊢
  refine ⟨fun h3 => ?_, fun h3 => ?_⟩
  · simp only [ev0, ev, evV, List.cons_append, List.nil_append, List.getD_cons_zero, List.getD_cons_succ, List.map_cons, List.map_nil, iOf, bOf, sOf, pOf, slLen, slBase, cmpI, arI, Value.ite_bool, int_beq, int_bne, ite_band, ite_bor, decide_eq_true_eq] at h3
    have h3' : 250 ≤ deep := by omega
    refine ⟨?_, ?_, hdl⟩
    · rw [if_pos h3']; rfl
    · rw [if_pos h3']; exact hw1
  simp only [ev0, ev, evV, List.cons_append, List.nil_append, List.getD_cons_zero, List.getD_cons_succ, List.map_cons, List.map_nil, iOf, bOf, sOf, pOf, slLen, slBase, cmpI, arI, Value.ite_bool, int_beq, int_bne, ite_band, ite_bor, decide_eq_false_iff_not] at h3
  rw [if_neg (show ¬ 250 ≤ deep by omega)]
  refine den_gives [.bool (exFormP d)] cb_core_form (CForm_gives d _ H1 (Xp.Rep.le (PH.le_trans hdl (PH.del_le _ _)) d hd')) rfl pendNil fun H3 h4 => ?_
  have hw3 := h4 _ _ hw1
  have hd3 := PH.le_trans hdl (PH.del_mono h4 wr)
  simp only [if_true]
  refine ⟨fun h5 => ?_, fun h5 => ?_⟩
  · simp only [ev0, ev, evV, List.cons_append, List.nil_append, List.getD_cons_zero, List.getD_cons_succ, List.map_cons, List.map_nil, iOf, bOf, sOf, pOf, slLen, slBase, cmpI, arI, Value.ite_bool, int_beq, int_bne, ite_band, ite_bor, Bool.not_eq_true'] at h5
    refine ⟨?_, ?_, hd3⟩
    · rw [if_pos h5]; rfl
    · rw [if_pos h5]; exact hw3
  simp only [ev0, ev, evV, List.cons_append, List.nil_append, List.getD_cons_zero, List.getD_cons_succ, List.map_cons, List.map_nil, iOf, bOf, sOf, pOf, slLen, slBase, cmpI, arI, Value.ite_bool, int_beq, int_bne, ite_band, ite_bor, Bool.not_eq_false'] at h5
  rw [if_neg (show ¬ exFormP d = false by rw [h5]; simp)]
  refine ⟨fun n vs H' => ∃ (k s : Nat) (x : Int), vs = [.int .i64 x, .int .i64 k] ∧ k + n = d.kids.length ∧ s ≤ 4096 ∧ Xps.chk true d.kids (deep + 1) (seen + 1) = Xps.chk true (d.kids.drop k) (deep + 1) s ∧ H' wr = some (.cells #[.int .i64 s] T (0, 0)) ∧ PH.le (H.del wr) (H'.del wr),
    ⟨d.kids.length, 0, seen + 1, 0, rfl, by omega, by omega, by simp, hw3, hd3⟩, ?_⟩
  rintro n vs H' _ ⟨k, s, x, rfl, hkn, hs4, heq, hw, hle⟩
  refine ⟨fun h6 => ?_, fun h6 => ?_⟩
  · simp only [ev0, ev, evV, List.cons_append, List.nil_append, List.getD_cons_zero, List.getD_cons_succ, List.map_cons, List.map_nil, iOf, bOf, sOf, pOf, slLen, slBase, cmpI, arI, Value.ite_bool, int_beq, int_bne, ite_band, ite_bor, decide_eq_true_eq] at h6
    have hkl : k < d.kids.length := by omega
    obtain ⟨e, he⟩ : ∃ e, d.kids[k]? = some e := ⟨_, List.getElem?_eq_getElem hkl⟩
    obtain ⟨g1, _, ces, g2, g3⟩ := (hs.le hle).get he
    have hd1 : IntKind.i64.wrap ((deep : Int) + 1) = ((deep + 1 : Nat) : Int) := by rw [w64 (by omega) (by omega)]; omega
    refine ⟨fun _ => ?_, ?_⟩
    · simp only [Chk.holds, ev0, ev, evV, List.cons_append, List.nil_append, List.getD_cons_zero, List.getD_cons_succ, List.map_cons, List.map_nil, iOf, bOf, sOf, pOf, slLen, slBase, cmpI, arI, Value.ite_bool, int_beq, int_bne, ite_band, ite_bor]; exact ⟨g1, by omega, by omega⟩
    have htags := Xp.Rep.tags g2
    have hcall := ih e (List.mem_of_getElem? he) ces H' wr (deep + 1) s T g2 hw (by omega) hs4
    obtain ⟨nb', db', kb', nc', dc', kc', rfl, _⟩ := Xp.Rep.open g2
    refine ⟨_, htags, ?_, ?_⟩
    · simp only [ev0, ev, evV, List.cons_append, List.nil_append, List.getD_cons_zero, List.getD_cons_succ, List.map_cons, List.map_nil, iOf, bOf, sOf, pOf, slLen, slBase, cmpI, arI, Value.ite_bool, int_beq, int_bne, ite_band, ite_bor]; exact rowAt_le (PH.del_le _ _) g3
    refine den_call (R := fun e' H'' => e' = .returned (.int .i64 (e.chk true (deep + 1) s).2) ∧ H'' wr = some (.cells #[.int .i64 (e.chk true (deep + 1) s).1] T (0, 0)) ∧ PH.le (H'.del wr) (H''.del wr)) cb_core_check ?_ ?_
    · simp only [ev0, ev, evV, List.cons_append, List.nil_append, List.getD_cons_zero, List.getD_cons_succ, List.map_cons, List.map_nil, iOf, bOf, sOf, pOf, slLen, slBase, cmpI, arI, Value.ite_bool, int_beq, int_bne, ite_band, ite_bor, hd1]
      exact hcall
    rintro e' H4 ⟨rfl, hw4, hl4⟩
    refine ⟨_, [.int .i64 (e.chk true (deep + 1) s).2], rfl, rfl, rfl, pendNil, ?_⟩
    have hle4 := PH.le_trans hle hl4
    rw [drop_get he] at heq
    simp only [Xps.chk] at heq
    refine ⟨fun h7 => ?_, fun h7 => ?_⟩
    · simp only [ev0, ev, evV, List.cons_append, List.nil_append, List.getD_cons_zero, List.getD_cons_succ, List.map_cons, List.map_nil, iOf, bOf, sOf, pOf, slLen, slBase, cmpI, arI, Value.ite_bool, int_beq, int_bne, ite_band, ite_bor, decide_eq_true_eq] at h7
      rw [if_pos h7] at heq
      refine ⟨?_, ?_, hle4⟩
      · rw [heq]; rfl
      · rw [heq]; exact hw4
    · simp only [ev0, ev, evV, List.cons_append, List.nil_append, List.getD_cons_zero, List.getD_cons_succ, List.map_cons, List.map_nil, iOf, bOf, sOf, pOf, slLen, slBase, cmpI, arI, Value.ite_bool, int_beq, int_bne, ite_band, ite_bor, decide_eq_false_iff_not, ne_eq, Decidable.not_not] at h7
      rw [if_neg (by simp [h7])] at heq
      refine ⟨_, lookup_hit, n - 1, by omega, k + 1, (e.chk true (deep + 1) s).1, x, ?_, by omega, Xp.chk_le true e _ _ hs4, heq, hw4, hle4⟩
      simp only [ev0, ev, evV, List.cons_append, List.nil_append, List.getD_cons_zero, List.getD_cons_succ, List.map_cons, List.map_nil, iOf, bOf, sOf, pOf, slLen, slBase, cmpI, arI, Value.ite_bool, int_beq, int_bne, ite_band, ite_bor]
      rw [w64 (by omega) (by omega)]
      rfl
  · simp only [ev0, ev, evV, List.cons_append, List.nil_append, List.getD_cons_zero, List.getD_cons_succ, List.map_cons, List.map_nil, iOf, bOf, sOf, pOf, slLen, slBase, cmpI, arI, Value.ite_bool, int_beq, int_bne, ite_band, ite_bor, decide_eq_false_iff_not] at h6
    have : k = d.kids.length := by omega
    subst this
    rw [List.drop_length] at heq
    simp only [Xps.chk] at heq
    refine ⟨?_, ?_, hle⟩
    · rw [heq]; rfl
    · rw [heq]; exact hw
theorem CCheckF_gives (d : Xp) (cs : List Value) (H : PH) (hd : d.Rep H cs) : Gives Tryz.prog n_core_Check [.agg cs.toArray] H (.int .i64 (d.chk true 0 0).2) := by
  have hd' := hd
  obtain ⟨nb, db, kb, nc, dc, kc, rfl, hx⟩ := Xp.Rep.open hd
  refine tri_core_Check (exVs d nb db kb nc dc kc) (by kernel_rfl) (by kernel_rfl) ?_
  intro r hr
  have hw : (H.upd r (.cells #[.int .i64 ((0 : Nat) : Int)] 3 (0, 0))) r = some (.cells #[.int .i64 ((0 : Nat) : Int)] 3 (0, 0)) := PH.upd_same
  have hle : PH.le H ((H.upd r (.cells #[.int .i64 ((0 : Nat) : Int)] 3 (0, 0))).del r) := PH.del_new H r _ hr
  refine den_call cb_core_check (CCheck_tri d _ _ r 0 0 3 (Xp.Rep.le hle d hd') hw (by omega) (by omega)) ?_
  rintro e H' ⟨rfl, _, h2⟩
  exact ⟨_, [_], rfl, rfl, rfl, pendNil, rfl, PH.le_trans hle (PH.le_trans h2 (PH.del_le _ _))⟩
end Go.Proofs.YtibinelkmlcmgaaGreatDoor.Vc
/-
  CORE: new names: the program's functions that note names and give the next one.
-/
namespace Go.Proofs.YtibinelkmlcmgaaGreatDoor.Vc
open Go Go.Sort

theorem adv_grow {H : PH} {w : World} (hv : Vis H w) (k : Nat) (os : Array Obj) : Adv H w H (grow (w.drewN k) os) := by
  have hs : ∀ i, i < w.heap.size → (w.heap ++ os)[i]? = w.heap[i]? := fun i hi => Array.getElem?_append_left hi
  refine ⟨?_, fun i o hi => ?_, fun i hi hn => ⟨hs i hi, hn⟩, rfl, rfl, rfl⟩
  · show w.heap.size ≤ (w.heap ++ os).size
    rw [Array.size_append]; omega
  · show (w.heap ++ os)[i]? = some o
    rw [hs i (hv.lt hi)]; exact hv i o hi
theorem cb_Itoa : callB Tryz.prog 43 = true := by kernel_rfl
theorem Itoa_tri (n : Nat) (hn : n ≤ 9223372036854775807) (H : PH) (hT : Tab H) : Tri Tryz.prog 43 #[.int .i64 (n : Int)] H fun e H' => e = .returned (txt (Lib.decDigits n)) ∧ H' = H := fun w hv =>
  (Tryz.strconv_Itoa (n : Int) (by omega) (by omega) w (hT.is hv)).mono fun e w' ⟨g1, k, os, g2⟩ => by
    subst g2
    refine ⟨H, adv_grow hv k os, ?_, rfl⟩
    rw [g1]
    have : Lib.itoa (n : Int) = Lib.decDigits n := by unfold Lib.itoa; rw [if_neg (by omega), Int.toNat_natCast]
    rw [this]
theorem named_tri (n : Nat) (hn : n < 1000000000000000000) (H : PH) (hT : Tab H) : Tri Tryz.prog n_core_named #[.int .i64 (n : Int)] H fun e H' => e = .returned (txt (newL n)) ∧ H' = H := by
  have h18 := decDigits_18 hn
  refine tri_core_named [.int .i64 (n : Int)] (by kernel_rfl) (by kernel_rfl) ?_
  refine den_call cb_Itoa (Itoa_tri n (by omega) H hT) ?_
  rintro e H' ⟨rfl, rfl⟩
  refine ⟨_, [_], rfl, rfl, rfl, pendNil, fun _ => ?_, ?_, rfl⟩
  · have hmax : IntKind.i64.max = 9223372036854775807 := rfl
    simp only [Chk.holds, ev0, ev, evV, List.cons_append, List.nil_append, List.getD_cons_zero, List.getD_cons_succ, List.map_cons, List.map_nil, iOf, bOf, sOf, pOf, slLen, slBase, cmpI, arI, Value.ite_bool, int_beq, int_bne, ite_band, ite_bor, txt_size, hmax, List.length_cons, List.length_nil]; omega
  · simp only [ev0, ev, evV, List.cons_append, List.nil_append, List.getD_cons_zero, List.getD_cons_succ, List.map_cons, List.map_nil, iOf, bOf, sOf, pOf, slLen, slBase, cmpI, arI, Value.ite_bool, int_beq, int_bne, ite_band, ite_bor, cat_txt]; rfl

/-! ### names noted -/
theorem uMapSI : Tryz.prog.underlying 44 = some (.map 9 3) := by kernel_rfl
theorem kdStr : Tryz.prog.underlying 9 = some (Key.kd (List UInt8)) := by kernel_rfl
theorem zInt : (Tryz.prog.info? 3).map (·.zero) = some (some (.int .i64 0)) := by kernel_rfl
def putsM (m : List (List UInt8 × Value)) (l : List (List UInt8)) : List (List UInt8 × Value) := l.foldl (fun m s => putM m s (.int .i64 1)) m
theorem putsM_append (m : List (List UInt8 × Value)) (a b : List (List UInt8)) : putsM m (a ++ b) = putsM (putsM m a) b := by unfold putsM; rw [List.foldl_append]
theorem getM_puts (s : List UInt8) : ∀ (l : List (List UInt8)) (m : List (List UInt8 × Value)), getM (putsM m l) s = if s ∈ l then some (.int .i64 1) else getM m s
  | [], m => by simp [putsM]
  | a :: l, m => by
    have := getM_puts s l (putM m a (.int .i64 1))
    show getM (putsM (putM m a (.int .i64 1)) l) s = _
    rw [this, getM_put]
    by_cases h1 : s ∈ l
    · rw [if_pos h1, if_pos (List.mem_cons_of_mem _ h1)]
    · rw [if_neg h1]
      by_cases h2 : s = a
      · rw [if_pos h2, if_pos (by rw [h2]; exact List.mem_cons_self ..)]
      · rw [if_neg h2, if_neg (by simp [h1, h2])]
/-- a block of two cells -/
theorem row2_0 {H : PH} {r : Nat} {a b : Value} {T : TypeId} (h : H r = some (.cells #[a, b] T (0, 0))) : rowAt H ((some ⟨r, 0, none⟩ : Option Addr).map (·.add 0)) [a] := ⟨_, rfl, fun i v hi => by
  rw [Addr.add_add, Addr.add_plain, PH.cell_at h]
  cases i with
  | zero => simpa using hi
  | succ i => simp at hi⟩
theorem row2_1 {H : PH} {r : Nat} {a b : Value} {T : TypeId} (h : H r = some (.cells #[a, b] T (0, 0))) : rowAt H ((some ⟨r, 0, none⟩ : Option Addr).map (·.add 1)) [b] := ⟨_, rfl, fun i v hi => by
  rw [Addr.add_add, Addr.add_plain, PH.cell_at h]
  cases i with
  | zero => simpa using hi
  | succ i => simp at hi⟩
def SeenAt (e : Xp) : Prop := ∀ (cs : List Value) (S H : PH) (wr ub : Nat) (T : TypeId) (nx : Value) (es : Array MapEntry) (clock : Nat) (m : List (List UInt8 × Value)), PH.le S H → S ub = none → e.Rep S cs → H wr = some (.cells #[.map (some ub), nx] T (0, 0)) → H ub = some (.map es clock) → EntsR es.toList clock m →
  Tri Tryz.prog n_core_renamer__seen #[.pointer (some ⟨wr, 0, none⟩), .agg cs.toArray] H fun x H' => x = .returned (.tuple #[]) ∧ ∃ es' clock', H' = H.upd ub (.map es' clock') ∧ EntsR es'.toList clock' (putsM m e.all)
theorem le_updOff {S H : PH} (h : PH.le S H) {r : Nat} (hr : S r = none) (o : Obj) : PH.le S (H.upd r o) := fun k x hk => by
  have e : k ≠ r := fun e => by rw [e, hr] at hk; cases hk
  rw [PH.upd_other e]; exact h k x hk
theorem seen_tri : ∀ e, SeenAt e := by
  refine Xp.ind fun e ih cs S H wr ub T nx es clock m hS hub he hwr hu hm => ?_
  obtain ⟨nb, db, kb, nc, dc, kc, rfl, hx⟩ := Xp.Rep.open he
  have hn := hx.names.max
  have hk := hx.kids.max
  simp only [maxLen] at hn hk
  have hne : wr ≠ ub := fun h => by rw [h, hu] at hwr; cases hwr
  refine tri_core_renamer__seen (.pointer (some ⟨wr, 0, none⟩) :: exVs e nb db kb nc dc kc) (by kernel_rfl) (by kernel_rfl) ?_
  have hw : ∀ o, (H.upd ub o) wr = some (.cells #[.map (some ub), nx] T (0, 0)) := fun o => by rw [PH.upd_other hne]; exact hwr
  have hup : ∀ H' es' clock', H' = H.upd ub (.map es' clock') → H' wr = some (.cells #[.map (some ub), nx] T (0, 0)) ∧ H' ub = some (.map es' clock') ∧ PH.le S H' := fun H' es' clock' h => by
    subst h; exact ⟨hw _, PH.upd_same, le_updOff hS hub _⟩
  refine ⟨fun vs H' => vs = [] ∧ ∃ es' clock', H' = H.upd ub (.map es' clock') ∧ EntsR es'.toList clock' (putsM m (if e.kind = 7 then [] else [e.name])), ?_, ?_⟩
  · rintro vs H1 _ ⟨rfl, es1, clock1, h1, m1⟩
    refine ⟨fun n vs H' => ∃ k : Nat, vs = [.int .i64 k] ∧ k + n = e.names.length ∧ ∃ es' clock', H' = H.upd ub (.map es' clock') ∧ EntsR es'.toList clock' (putsM m ((if e.kind = 7 then [] else [e.name]) ++ e.names.take k)), ⟨e.names.length, 0, rfl, by omega, es1, clock1, h1, by simpa using m1⟩, ?_⟩
    rintro n vs H2 _ ⟨k, rfl, hkn, es2, clock2, h2, m2⟩
    obtain ⟨q1, q2, q3⟩ := hup _ _ _ h2
    refine ⟨fun g => ?_, fun g => ?_⟩
    · simp only [ev0, ev, evV, List.cons_append, List.nil_append, List.getD_cons_zero, List.getD_cons_succ, List.map_cons, List.map_nil, iOf, bOf, sOf, pOf, slLen, slBase, cmpI, arI, Value.ite_bool, int_beq, int_bne, ite_band, ite_bor, decide_eq_true_eq] at g
      obtain ⟨a, ha⟩ : ∃ a, e.names[k]? = some a := ⟨_, List.getElem?_eq_getElem (show k < e.names.length by omega)⟩
      obtain ⟨g1, _, ces, g2, g3⟩ := (hx.names.le q3).get ha
      obtain ⟨rfl, _⟩ := csTxts g2
      refine ⟨fun _ => ?_, [txt a], rfl, by simp only [ev0, ev, evV, List.cons_append, List.nil_append, List.getD_cons_zero, List.getD_cons_succ, List.map_cons, List.map_nil, iOf, bOf, sOf, pOf, slLen, slBase, cmpI, arI, Value.ite_bool, int_beq, int_bne, ite_band, ite_bor]; exact g3, fun _ => rfl, [.map (some ub)], rfl, row2_0 q1, ?_⟩
      · simp only [Chk.holds, ev0, ev, evV, List.cons_append, List.nil_append, List.getD_cons_zero, List.getD_cons_succ, List.map_cons, List.map_nil, iOf, bOf, sOf, pOf, slLen, slBase, cmpI, arI, Value.ite_bool, int_beq, int_bne, ite_band, ite_bor]; exact ⟨g1, by omega, by omega⟩
      refine den_mapUpdate a (.int .i64 1) uMapSI kdStr rfl rfl rfl q2 m2 fun es3 clock3 m3 => ?_
      refine ⟨_, lookup_hit, n - 1, by omega, k + 1, ?_, by omega, es3, clock3, ?_, ?_⟩
      · simp only [ev0, ev, evV, List.cons_append, List.nil_append, List.getD_cons_zero, List.getD_cons_succ, List.map_cons, List.map_nil, iOf, bOf, sOf, pOf, slLen, slBase, cmpI, arI, Value.ite_bool, int_beq, int_bne, ite_band, ite_bor]; rw [w64 (by omega) (by omega)]; rfl
      · rw [h2, PH.upd_upd]
      · rw [List.take_add_one, ha, ← List.append_assoc, putsM_append]; exact m3
    · simp only [ev0, ev, evV, List.cons_append, List.nil_append, List.getD_cons_zero, List.getD_cons_succ, List.map_cons, List.map_nil, iOf, bOf, sOf, pOf, slLen, slBase, cmpI, arI, Value.ite_bool, int_beq, int_bne, ite_band, ite_bor, decide_eq_false_iff_not] at g
      rw [List.take_of_length_le (by omega)] at m2
      refine ⟨fun n vs H' => ∃ k : Nat, vs = [.int .i64 k] ∧ k + n = e.kids.length ∧ ∃ es' clock', H' = H.upd ub (.map es' clock') ∧ EntsR es'.toList clock' (putsM m ((if e.kind = 7 then [] else [e.name]) ++ e.names ++ Xps.all (e.kids.take k))), ⟨e.kids.length, 0, rfl, by omega, es2, clock2, h2, by simpa [Xps.all] using m2⟩, ?_⟩
      rintro n2 vs H3 _ ⟨k2, rfl, hkn2, es3, clock3, h3, m3⟩
      obtain ⟨q1, q2, q3⟩ := hup _ _ _ h3
      refine ⟨fun g => ?_, fun g => ?_⟩
      · simp only [ev0, ev, evV, List.cons_append, List.nil_append, List.getD_cons_zero, List.getD_cons_succ, List.map_cons, List.map_nil, iOf, bOf, sOf, pOf, slLen, slBase, cmpI, arI, Value.ite_bool, int_beq, int_bne, ite_band, ite_bor, decide_eq_true_eq] at g
        obtain ⟨a, ha⟩ : ∃ a, e.kids[k2]? = some a := ⟨_, List.getElem?_eq_getElem (show k2 < e.kids.length by omega)⟩
        obtain ⟨g1, _, ces, g2, g3⟩ := (hx.kids).get ha
        have htags := Xp.Rep.tags g2
        have hcall := ih a (List.mem_of_getElem? ha) ces S H3 wr ub T nx es3 clock3 _ q3 hub g2 q1 q2 m3
        obtain ⟨nb', db', kb', nc', dc', kc', rfl, _⟩ := Xp.Rep.open g2
        refine ⟨fun _ => ?_, _, htags, by simp only [ev0, ev, evV, List.cons_append, List.nil_append, List.getD_cons_zero, List.getD_cons_succ, List.map_cons, List.map_nil, iOf, bOf, sOf, pOf, slLen, slBase, cmpI, arI, Value.ite_bool, int_beq, int_bne, ite_band, ite_bor]; exact rowAt_le q3 g3, ?_⟩
        · simp only [Chk.holds, ev0, ev, evV, List.cons_append, List.nil_append, List.getD_cons_zero, List.getD_cons_succ, List.map_cons, List.map_nil, iOf, bOf, sOf, pOf, slLen, slBase, cmpI, arI, Value.ite_bool, int_beq, int_bne, ite_band, ite_bor]; exact ⟨g1, by omega, by omega⟩
        refine den_call cb_core_renamer__seen hcall ?_
        rintro x H4 ⟨rfl, es4, clock4, rfl, m4⟩
        refine ⟨_, [], rfl, rfl, rfl, pendNil, ?_⟩
        refine ⟨_, lookup_hit, n2 - 1, by omega, k2 + 1, ?_, by omega, es4, clock4, ?_, ?_⟩
        · simp only [ev0, ev, evV, List.cons_append, List.nil_append, List.getD_cons_zero, List.getD_cons_succ, List.map_cons, List.map_nil, iOf, bOf, sOf, pOf, slLen, slBase, cmpI, arI, Value.ite_bool, int_beq, int_bne, ite_band, ite_bor, List.append_nil]; rw [w64 (by omega) (by omega)]; rfl
        · rw [h3, PH.upd_upd]
        · have hall : Xps.all (e.kids.take (k2 + 1)) = Xps.all (e.kids.take k2) ++ a.all := by
            rw [List.take_add_one, ha]
            have : ∀ l : List Xp, Xps.all (l ++ [a]) = Xps.all l ++ a.all := by
              intro l
              induction l with
              | nil => simp [Xps.all]
              | cons b l ih => simp only [List.cons_append, Xps.all, ih, List.append_assoc]
            exact this _
          rw [hall, ← List.append_assoc, putsM_append]; exact m4
      · simp only [ev0, ev, evV, List.cons_append, List.nil_append, List.getD_cons_zero, List.getD_cons_succ, List.map_cons, List.map_nil, iOf, bOf, sOf, pOf, slLen, slBase, cmpI, arI, Value.ite_bool, int_beq, int_bne, ite_band, ite_bor, decide_eq_false_iff_not] at g
        rw [List.take_of_length_le (by omega)] at m3
        refine ⟨rfl, es3, clock3, h3, ?_⟩
        rw [Xp.all_eq]; exact m3
  · refine ⟨fun g => ?_, fun g => ?_⟩
    · simp only [ev0, ev, evV, List.cons_append, List.nil_append, List.getD_cons_zero, List.getD_cons_succ, List.map_cons, List.map_nil, iOf, bOf, sOf, pOf, slLen, slBase, cmpI, arI, Value.ite_bool, int_beq, int_bne, ite_band, ite_bor, decide_eq_true_eq] at g
      refine ⟨fun _ => rfl, [.map (some ub)], rfl, row2_0 hwr, ?_⟩
      refine den_mapUpdate e.name (.int .i64 1) uMapSI kdStr rfl rfl rfl hu hm fun es3 clock3 m3 => ⟨_, lookup_hit, rfl, es3, clock3, rfl, ?_⟩
      rw [if_neg g]; exact m3
    · simp only [ev0, ev, evV, List.cons_append, List.nil_append, List.getD_cons_zero, List.getD_cons_succ, List.map_cons, List.map_nil, iOf, bOf, sOf, pOf, slLen, slBase, cmpI, arI, Value.ite_bool, int_beq, int_bne, ite_band, ite_bor, decide_eq_false_iff_not, ne_eq, Decidable.not_not] at g
      refine ⟨_, lookup_hit, rfl, es, clock, (PH.upd_self hu).symm, ?_⟩
      rw [if_pos g]; exact hm
end Go.Proofs.YtibinelkmlcmgaaGreatDoor.Vc
/-
  CORE: the program's renaming of an expression.
-/
namespace Go.Proofs.YtibinelkmlcmgaaGreatDoor.Vc
open Go Go.Sort

/-- the map says which names are used -/
def UsedM (m : List (List UInt8 × Value)) (used : List (List UInt8)) : Prop := ∀ s, (getM m s).getD (.int .i64 0) = .int .i64 (if s ∈ used then 1 else 0)
/-- the next new name's number: what it gives and where it goes on -/
theorem freshN_hit {used : List (List UInt8)} {n : Nat} (h : newL n ∉ used) : freshN used n = n := by
  have hs := freshN_spec used n
  by_cases he : freshN used n = n
  · exact he
  · exact absurd (hs.2.2.2 n (Nat.le_refl _) (by omega)) h
theorem freshN_skip {used : List (List UInt8)} {n : Nat} (h : newL n ∈ used) : freshN used n = freshN used (n + 1) := by
  have h1 := freshN_spec used n
  have h2 := freshN_spec used (n + 1)
  have hn : freshN used n ≠ n := fun e => h1.2.2.1 (by rw [e]; exact h)
  by_cases h3 : freshN used n < freshN used (n + 1)
  · exact absurd (h2.2.2.2 _ (by omega) h3) h1.2.2.1
  by_cases h4 : freshN used (n + 1) < freshN used n
  · exact absurd (h1.2.2.2 _ (by omega) h4) h2.2.2.1
  omega
theorem rname_tri (H : PH) (wr : Nat) (T : TypeId) (uv : Value) (mu : List (List UInt8 × Value)) (used : List (List UInt8)) (n : Nat) (hT : Tab H) (hwr : H wr = some (.cells #[uv, .int .i64 (n : Int)] T (0, 0))) (hu : MapR H uv mu) (hm : UsedM mu used) (hb : n + used.length < 900000000000000000) :
    Tri Tryz.prog n_core_renamer__name #[.pointer (some ⟨wr, 0, none⟩)] H fun e H' => e = .returned (.int .i64 (freshN used n : Nat)) ∧ H' = H.upd wr (.cells #[uv, .int .i64 ((freshN used n + 1 : Nat) : Int)] T (0, 0)) := by
  have hf := freshN_spec used n
  obtain ⟨ub, es, clock, rfl, hub, hE⟩ := hu
  have hne : wr ≠ ub := fun h => by rw [h, hub] at hwr; cases hwr
  refine tri_core_renamer__name [.pointer (some ⟨wr, 0, none⟩)] (by kernel_rfl) (by kernel_rfl) ?_
  refine ⟨fun f vs H' => ∃ k : Nat, vs = [.int .i64 0] ∧ n ≤ k ∧ k + f = freshN used n ∧ freshN used k = freshN used n ∧ H' = H.upd wr (.cells #[.map (some ub), .int .i64 (k : Int)] T (0, 0)), ⟨freshN used n - n, n, rfl, Nat.le_refl _, by omega, rfl, (PH.upd_self hwr).symm⟩, ?_⟩
  rintro f vs H1 _ ⟨k, rfl, hnk, hkf, hfk, rfl⟩
  have hw1 : (H.upd wr (.cells #[.map (some ub), .int .i64 (k : Int)] T (0, 0))) wr = some (.cells #[.map (some ub), .int .i64 (k : Int)] T (0, 0)) := PH.upd_same
  have hw64 : IntKind.i64.wrap ((k : Int) + 1) = ((k + 1 : Nat) : Int) := by rw [w64 (by omega) (by omega)]; omega
  refine ⟨fun _ => rfl, [.int .i64 (k : Int)], rfl, row2_1 hw1, [.int .i64 (k : Int)], rfl, row2_1 hw1, ⟨wr, 1, none⟩, rfl, ?_⟩
  refine wpS_storeCells _ 1 0 #[.map (some ub), .int .i64 (k : Int)] _ hw1 (by simp) (by simp [ev0, ev, oneC]) ?_
  have hsp : splice #[Value.map (some ub), .int .i64 (k : Int)] (1 + 0) (List.map (ev0 ([.pointer (some ⟨wr, 0, none⟩)] ++ [.int .i64 0] ++ [.int .i64 (k : Int)] ++ [.int .i64 (k : Int)])) [.ar .add .i64 (.atom 3) (.int .i64 1)]) = #[.map (some ub), .int .i64 ((k + 1 : Nat) : Int)] := by
    simp only [ev0, ev, evV, List.cons_append, List.nil_append, List.getD_cons_zero, List.getD_cons_succ, List.map_cons, List.map_nil, iOf, bOf, sOf, pOf, slLen, slBase, cmpI, arI, Value.ite_bool, int_beq, int_bne, ite_band, ite_bor, hw64]; rfl
  rw [hsp, PH.upd_upd]
  have hw2 : (H.upd wr (.cells #[.map (some ub), .int .i64 ((k + 1 : Nat) : Int)] T (0, 0))) wr = some (.cells #[.map (some ub), .int .i64 ((k + 1 : Nat) : Int)] T (0, 0)) := PH.upd_same
  have hT2 : Tab (H.upd wr (.cells #[.map (some ub), .int .i64 ((k + 1 : Nat) : Int)] T (0, 0))) := by
    obtain ⟨g, e, f, h1, h2⟩ := hT
    refine ⟨g, e, f, h1, ?_⟩
    rw [PH.upd_other]
    · exact h2
    · intro hg
      rw [hg, hwr] at h2
      simp [Lib.pow10Tab] at h2
      have := congrArg List.length h2.1
      simp at this
  refine ⟨[.map (some ub)], rfl, row2_0 hw2, ?_⟩
  refine den_call cb_core_named (named_tri k (by omega) _ hT2) ?_
  rintro e H' ⟨rfl, rfl⟩
  refine ⟨_, [_], rfl, rfl, rfl, fun x hx => ?_, ?_⟩
  · rw [List.mem_singleton.1 hx]; exact row2_0 hw2
  have hub2 : MapR (H.upd wr (.cells #[.map (some ub), .int .i64 ((k + 1 : Nat) : Int)] T (0, 0))) (.map (some ub)) mu := ⟨ub, es, clock, rfl, by rw [PH.upd_other (Ne.symm hne)]; exact hub, hE⟩
  have hg := hm (newL k)
  refine den_lookup (newL k) (.int .i64 0) uMapSI kdStr zInt rfl rfl hub2 (by rw [hg]; rfl) pendNil ?_
  rw [hg]
  by_cases hin : newL k ∈ used
  · rw [if_pos hin]
    refine ⟨fun h => absurd h (by simp [ev0, ev, evV, List.cons_append, List.nil_append, List.getD_cons_zero, List.getD_cons_succ, List.map_cons, List.map_nil, iOf, bOf, sOf, pOf, slLen, slBase, cmpI, arI, Value.ite_bool]), fun _ => ?_⟩
    have hsk := freshN_skip hin
    have hgt : k < freshN used n := by
      have h1 := freshN_spec used (k + 1)
      omega
    exact ⟨_, lookup_hit, f - 1, by omega, k + 1, rfl, by omega, by omega, by omega, rfl⟩
  · rw [if_neg hin]
    have hk := freshN_hit hin
    have hkn : freshN used n = k := by omega
    refine ⟨fun _ => ⟨?_, ?_⟩, fun h => absurd h (by simp [ev0, ev, evV, List.cons_append, List.nil_append, List.getD_cons_zero, List.getD_cons_succ, List.map_cons, List.map_nil, iOf, bOf, sOf, pOf, slLen, slBase, cmpI, arI, Value.ite_bool])⟩
    · rw [hkn]; rfl
    · rw [hkn]
end Go.Proofs.YtibinelkmlcmgaaGreatDoor.Vc
/-
  CORE: two expressions the same.
-/
namespace Go.Proofs.YtibinelkmlcmgaaGreatDoor.Vc
open Go

/-! ### two expressions -/
theorem decNot {p : Prop} [Decidable p] (h : ¬ p) : true = decide (¬ p) := (decide_eq_true h).symm
noncomputable instance decXp : DecidableEq Xp := fun a b => Classical.propDecidable (a = b)
noncomputable instance decXps : DecidableEq (List Xp) := fun a b => Classical.propDecidable (a = b)
theorem XSame_gives : ∀ (a b : Xp) (ca cb : List Value) (H : PH), a.Rep H ca → b.Rep H cb → Gives Tryz.prog n_scrimshawref06_Same [.agg ca.toArray, .agg cb.toArray] H (.bool (decide (a = b))) := by
  refine Xp.ind fun a ih b ca cb H ha hb => ?_
  obtain ⟨nb, db, kb, nc, dc, kc, rfl, hx⟩ := Xp.Rep.open ha
  obtain ⟨nb2, db2, kb2, nc2, dc2, kc2, rfl, hy⟩ := Xp.Rep.open hb
  have m1 := hx.kids.max
  have m2 := hy.kids.max
  simp only [maxLen] at m1 m2
  refine tri_scrimshawref06_Same (exVs a nb db kb nc dc kc ++ exVs b nb2 db2 kb2 nc2 dc2 kc2) (by kernel_rfl) (by kernel_rfl) ?_
  refine ⟨fun vs H' => vs = [.bool (decide (¬ (a.kind = b.kind ∧ a.name = b.name ∧ a.names = b.names ∧ a.const = b.const ∧ a.kids.length = b.kids.length)))] ∧ PH.le H H', ?_, ?_⟩
  · rintro vs H1 _ ⟨rfl, l1⟩
    refine ⟨fun g => ?_, fun g => ?_⟩
    · simp only [ev0, ev, evV, List.cons_append, List.nil_append, List.getD_cons_zero, List.getD_cons_succ, List.map_cons, List.map_nil, iOf, bOf, sOf, pOf, slLen, slBase, cmpI, arI, Value.ite_bool, int_beq, int_bne, ite_band, ite_bor, decide_eq_true_eq] at g
      refine ⟨?_, l1⟩
      have : ¬ a = b := fun e => g (by subst e; simp)
      simp only [ev0, ev, evV, List.cons_append, List.nil_append, List.getD_cons_zero, List.getD_cons_succ, List.map_cons, List.map_nil, iOf, bOf, sOf, pOf, slLen, slBase, cmpI, arI, Value.ite_bool, int_beq, int_bne, ite_band, ite_bor, decide_eq_false this]
    simp only [ev0, ev, evV, List.cons_append, List.nil_append, List.getD_cons_zero, List.getD_cons_succ, List.map_cons, List.map_nil, iOf, bOf, sOf, pOf, slLen, slBase, cmpI, arI, Value.ite_bool, int_beq, int_bne, ite_band, ite_bor, decide_eq_false_iff_not, Decidable.not_not] at g
    obtain ⟨h1, h2, h3, h4, h5⟩ := g
    have heq : (a = b) ↔ a.kids = b.kids := by rw [Xp.eq_iff]; simp [h1, h2, h3, h4]
    refine ⟨fun n vs H' => ∃ k : Nat, vs = [.bool false, .int .i64 k] ∧ k + n = a.kids.length ∧ a.kids.take k = b.kids.take k ∧ PH.le H H', ⟨a.kids.length, 0, rfl, by omega, by simp, l1⟩, ?_⟩
    rintro n vs H2 _ ⟨k, rfl, hkn, htk, l2⟩
    refine ⟨fun g => ?_, fun g => ?_⟩
    · simp only [ev0, ev, evV, List.cons_append, List.nil_append, List.getD_cons_zero, List.getD_cons_succ, List.map_cons, List.map_nil, iOf, bOf, sOf, pOf, slLen, slBase, cmpI, arI, Value.ite_bool, int_beq, int_bne, ite_band, ite_bor, decide_eq_true_eq] at g
      obtain ⟨e, he⟩ : ∃ e, a.kids[k]? = some e := ⟨_, List.getElem?_eq_getElem (show k < a.kids.length by omega)⟩
      obtain ⟨e', he'⟩ : ∃ e, b.kids[k]? = some e := ⟨_, List.getElem?_eq_getElem (show k < b.kids.length by omega)⟩
      obtain ⟨g1, _, ces, g2, g3⟩ := (hx.kids.le l2).get he
      obtain ⟨g1', _, ces', g2', g3'⟩ := (hy.kids.le l2).get he'
      have hcall := ih e (List.mem_of_getElem? he) e' ces ces' H2 g2 g2'
      have htags := Xp.Rep.tags g2
      have htags' := Xp.Rep.tags g2'
      obtain ⟨p1, p2, p3, p4, p5, p6, rfl, _⟩ := Xp.Rep.open g2
      obtain ⟨q1, q2, q3, q4, q5, q6, rfl, _⟩ := Xp.Rep.open g2'
      refine ⟨fun _ => ?_, _, htags, by simp only [ev0, ev, evV, List.cons_append, List.nil_append, List.getD_cons_zero, List.getD_cons_succ, List.map_cons, List.map_nil, iOf, bOf, sOf, pOf, slLen, slBase, cmpI, arI, Value.ite_bool, int_beq, int_bne, ite_band, ite_bor]; exact g3, fun _ => ?_, _, htags', by simp only [ev0, ev, evV, List.cons_append, List.nil_append, List.getD_cons_zero, List.getD_cons_succ, List.map_cons, List.map_nil, iOf, bOf, sOf, pOf, slLen, slBase, cmpI, arI, Value.ite_bool, int_beq, int_bne, ite_band, ite_bor]; exact g3', ?_⟩
      · simp only [Chk.holds, ev0, ev, evV, List.cons_append, List.nil_append, List.getD_cons_zero, List.getD_cons_succ, List.map_cons, List.map_nil, iOf, bOf, sOf, pOf, slLen, slBase, cmpI, arI, Value.ite_bool, int_beq, int_bne, ite_band, ite_bor]; exact ⟨g1, by omega, by omega⟩
      · simp only [Chk.holds, ev0, ev, evV, List.cons_append, List.nil_append, List.getD_cons_zero, List.getD_cons_succ, List.map_cons, List.map_nil, iOf, bOf, sOf, pOf, slLen, slBase, cmpI, arI, Value.ite_bool, int_beq, int_bne, ite_band, ite_bor]; exact ⟨g1', by omega, by omega⟩
      refine den_gives [.bool (decide (e = e'))] cb_scrimshawref06_Same hcall rfl pendNil fun H3 l3 => ⟨fun h6 => ?_, fun h6 => ?_⟩
      · simp only [ev0, ev, evV, List.cons_append, List.nil_append, List.getD_cons_zero, List.getD_cons_succ, List.map_cons, List.map_nil, iOf, bOf, sOf, pOf, slLen, slBase, cmpI, arI, Value.ite_bool, int_beq, int_bne, ite_band, ite_bor, Bool.not_eq_true', decide_eq_false_iff_not] at h6
        refine ⟨?_, PH.le_trans l2 l3⟩
        have : ¬ a = b := fun x => h6 (by subst x; rw [he] at he'; exact Option.some.inj he')
        simp only [ev0, ev, evV, List.cons_append, List.nil_append, List.getD_cons_zero, List.getD_cons_succ, List.map_cons, List.map_nil, iOf, bOf, sOf, pOf, slLen, slBase, cmpI, arI, Value.ite_bool, int_beq, int_bne, ite_band, ite_bor, decide_eq_false this]
      · simp only [ev0, ev, evV, List.cons_append, List.nil_append, List.getD_cons_zero, List.getD_cons_succ, List.map_cons, List.map_nil, iOf, bOf, sOf, pOf, slLen, slBase, cmpI, arI, Value.ite_bool, int_beq, int_bne, ite_band, ite_bor, Bool.not_eq_false', decide_eq_true_eq] at h6
        refine ⟨_, lookup_hit, n - 1, by omega, k + 1, ?_, by omega, take_eq_next htk he he' h6, PH.le_trans l2 l3⟩
        simp only [ev0, ev, evV, List.cons_append, List.nil_append, List.getD_cons_zero, List.getD_cons_succ, List.map_cons, List.map_nil, iOf, bOf, sOf, pOf, slLen, slBase, cmpI, arI, Value.ite_bool, int_beq, int_bne, ite_band, ite_bor]
        rw [w64 (by omega) (by omega)]
        rfl
    · simp only [ev0, ev, evV, List.cons_append, List.nil_append, List.getD_cons_zero, List.getD_cons_succ, List.map_cons, List.map_nil, iOf, bOf, sOf, pOf, slLen, slBase, cmpI, arI, Value.ite_bool, int_beq, int_bne, ite_band, ite_bor, decide_eq_false_iff_not] at g
      refine ⟨?_, l2⟩
      have : a = b := heq.2 (by rw [List.take_of_length_le (by omega), List.take_of_length_le (by omega)] at htk; exact htk)
      simp only [ev0, ev, evV, List.cons_append, List.nil_append, List.getD_cons_zero, List.getD_cons_succ, List.map_cons, List.map_nil, iOf, bOf, sOf, pOf, slLen, slBase, cmpI, arI, Value.ite_bool, int_beq, int_bne, ite_band, ite_bor, decide_eq_true this]
  · refine ⟨fun g => ?_, fun g => ?_⟩
    · refine ⟨_, lookup_hit, ?_, PH.le_refl H⟩
      have : ¬ (a.kind = b.kind ∧ a.name = b.name) := fun ⟨h1, h2⟩ => by simp [ev0, ev, evV, List.cons_append, List.nil_append, List.getD_cons_zero, List.getD_cons_succ, List.map_cons, List.map_nil, iOf, bOf, sOf, pOf, slLen, slBase, cmpI, arI, Value.ite_bool, int_beq, int_bne, ite_band, ite_bor, txt_neq, h1, h2] at g
      simp only [ev0, ev, evV, List.cons_append, List.nil_append, List.getD_cons_zero, List.getD_cons_succ, List.map_cons, List.map_nil, iOf, bOf, sOf, pOf, slLen, slBase, cmpI, arI, Value.ite_bool, int_beq, int_bne, ite_band, ite_bor]
      congr 2
      exact decNot fun h => this ⟨h.1, h.2.1⟩
    · have h12 : a.kind = b.kind ∧ a.name = b.name := by
        simp only [ev0, ev, evV, List.cons_append, List.nil_append, List.getD_cons_zero, List.getD_cons_succ, List.map_cons, List.map_nil, iOf, bOf, sOf, pOf, slLen, slBase, cmpI, arI, Value.ite_bool, int_beq, int_bne, ite_band, ite_bor, txt_neq] at g
        by_cases h1 : a.kind = b.kind
        · refine ⟨h1, ?_⟩
          by_cases h2 : a.name = b.name
          · exact h2
          · simp [h1, h2] at g
        · simp [h1] at g
      refine den_gives [.bool (decide (a.names = b.names))] cb_scrimshawref06_SameTexts (SameTexts_gives _ _ _ _ H hx.names hy.names) rfl pendNil fun H1 l1 => ⟨fun g3 => ?_, fun g3 => ?_⟩
      · simp only [ev0, ev, evV, List.cons_append, List.nil_append, List.getD_cons_zero, List.getD_cons_succ, List.map_cons, List.map_nil, iOf, bOf, sOf, pOf, slLen, slBase, cmpI, arI, Value.ite_bool, int_beq, int_bne, ite_band, ite_bor, Bool.not_eq_true', decide_eq_false_iff_not] at g3
        refine ⟨_, lookup_hit, ?_, l1⟩
        simp only [ev0, ev, evV, List.cons_append, List.nil_append, List.getD_cons_zero, List.getD_cons_succ, List.map_cons, List.map_nil, iOf, bOf, sOf, pOf, slLen, slBase, cmpI, arI, Value.ite_bool, int_beq, int_bne, ite_band, ite_bor]
        congr 2
        exact decNot fun h => g3 h.2.2.1
      · simp only [ev0, ev, evV, List.cons_append, List.nil_append, List.getD_cons_zero, List.getD_cons_succ, List.map_cons, List.map_nil, iOf, bOf, sOf, pOf, slLen, slBase, cmpI, arI, Value.ite_bool, int_beq, int_bne, ite_band, ite_bor, Bool.not_eq_false', decide_eq_true_eq] at g3
        refine den_gives [.bool (decide (a.const = b.const))] cb_scrimshawref02_Same (Same_gives a.const b.const _ _ H1 (Dat.Rep.le l1 _ hx.const) (Dat.Rep.le l1 _ hy.const)) rfl pendNil fun H2 l2 => ⟨_, lookup_hit, ?_, PH.le_trans l1 l2⟩
        simp only [ev0, ev, evV, List.cons_append, List.nil_append, List.getD_cons_zero, List.getD_cons_succ, List.map_cons, List.map_nil, iOf, bOf, sOf, pOf, slLen, slBase, cmpI, arI, Value.ite_bool, int_beq, int_bne, ite_band, ite_bor]
        congr 2
        by_cases h4 : a.const = b.const
        · by_cases h5 : a.kids.length = b.kids.length
          · simp [h12.1, h12.2, g3, h4, h5]
          · have : ¬ ((a.kids.length : Int) = b.kids.length) := by omega
            simp [h12.1, h12.2, g3, h4, h5, this]
        · simp [h12.1, h12.2, g3, h4]

end Go.Proofs.YtibinelkmlcmgaaGreatDoor.Vc
/-
  CORE: expressions that come in.
-/
namespace Go.Proofs.YtibinelkmlcmgaaGreatDoor.Vc
open Go Go.ChangeShapes Go.WideShapes Go.ChangeAt Go.RowKit

def txtWt (l : List UInt8) : Nat := l.length + 1
mutual
def Xp.wt : Xp → Nat
  | .mk _ s ns d l => s.length + 5 + sumWt txtWt ns + d.wt + Xps.wt l
def Xps.wt : List Xp → Nat
  | [] => 0
  | e :: l => Xp.wt e + Xps.wt l
end
theorem Xps.wt_eq : ∀ l : List Xp, Xps.wt l = sumWt Xp.wt l
  | [] => by simp only [Xps.wt, sumWt]
  | e :: l => by simp only [Xps.wt, sumWt, Xps.wt_eq l]
noncomputable def exFields : Array Field := match Tryz.prog.underlying 28 with
  | some (.struct fs) => fs
  | _ => #[]
theorem uEx : Tryz.prog.underlying 28 = some (.struct exFields) := by kernel_rfl
theorem exF : exFields.toList.map (fun f => (f.type, f.offset)) = [(3, 0), (9, 1), (22, 2), (25, 3), (26, 7)] := by kernel_rfl
theorem cEx : Tryz.prog.cellsOf 28 = 8 := by kernel_rfl
theorem cTxts : Tryz.prog.cellsOf 22 = 1 := by kernel_rfl
theorem cExs : Tryz.prog.cellsOf 26 = 1 := by kernel_rfl
theorem uExs' : Tryz.prog.underlying 26 = some (.slice 28) := by kernel_rfl
theorem opens_ex {H : Type} {enc : TypeId × Value → H} {w : World} : ∀ fuel, Opens (α := Xp) enc Tryz.prog w Xp.wt 28 fuel := by
  intro fuel
  induction fuel using Nat.strongRecOn with
  | ind fuel ih =>
    intro cs d ps h
    obtain ⟨xs, n, rfl, rfl, hc, hl, hi⟩ := trod_fields uEx exF h
    rw [cEx] at hc
    match xs, hl with
    | [x0, x1, x2, x3, x4], _ =>
    match cs, hc with
    | [c0, c1, c2, c3, c4, c5, c6, c7], _ =>
    have t0 := hi 0 3 0 x0 rfl rfl
    have t1 := hi 1 9 1 x1 rfl rfl
    have t2 := hi 2 22 2 x2 rfl rfl
    have t3 := hi 3 25 3 x3 rfl rfl
    have t4 := hi 4 26 7 x4 rfl rfl
    rw [cInt] at t0
    rw [cStr] at t1
    rw [cTxts] at t2
    rw [cDat] at t3
    rw [cExs] at t4
    obtain ⟨k, hk, hkw⟩ := opens_int uInt n _ _ _ t0
    obtain ⟨s, hs, hsw⟩ := opens_txt uString n _ _ _ t1
    obtain ⟨ns, nv, hnv, hns, hnw⟩ := opens_slice (α := List UInt8) (wt := txtWt) uTxts cStr (fun j hj => opens_txt uString j) t2
    obtain ⟨dd, hd, hdw⟩ := opens_dat n _ _ _ t3
    obtain ⟨l, v, hlv, hls, hlw⟩ := opens_slice (α := Xp) uExs' cEx (fun j hj => ih j (by omega)) t4
    have hn1 : c2 = nv := by simpa using hnv
    have hv : c7 = v := by simpa using hlv
    subst hn1 hv
    obtain ⟨rfl, hk1⟩ := csInt hk
    obtain ⟨rfl, hs1⟩ := csTxt hs
    obtain ⟨sv, e1, g1, g2, g3, g4⟩ := Dat.Rep_iff.1 hd
    have e2 : [c3, c4, c5, c6] = [.int .i64 dd.kind, .int .i64 dd.int, txt dd.text, sv] := e1
    simp only [List.cons.injEq, and_true] at e2
    obtain ⟨rfl, rfl, rfl, rfl⟩ := e2
    refine ⟨.mk k s ns dd l, Xp.Rep_iff.2 ⟨_, _, _, rfl, hk1, hs1, hns, hd, hls⟩, ?_⟩
    simp only at hkw hsw hdw
    simp only [Xp.wt, Xps.wt_eq, Rows.uptoBulk, Rows.uptoBulkAll, List.map_cons, List.map_nil]
    omega
/-- an expression as an argument -/
theorem arg_ex {H : Type} {enc : TypeId × Value → H} {w : World} {v : Value} {d : DataW H} {p : List MemPlace} {r : Reach} {b : Nat} (hval : Value.okWide Tryz.prog w r b 28 v) (h : DataW.Trod enc Tryz.prog w 0 (fun _ => true) true 28 v d p) :
    ∃ (a : Xp) (cs : List Value), v = .agg cs.toArray ∧ a.Rep (whole w) cs ∧ a.wt ≤ Rows.uptoBulk d := by
  obtain ⟨cs, rfl, _⟩ := okWide_struct uEx hval
  obtain ⟨fuel, h⟩ := h
  obtain ⟨a, h1, h2⟩ := opens_ex fuel _ _ _ h
  exact ⟨a, cs.toList, by simp, h1, h2⟩
end Go.Proofs.YtibinelkmlcmgaaGreatDoor.Vc
/-
  CORE: the program's renaming of an expression.
-/
namespace Go.Proofs.YtibinelkmlcmgaaGreatDoor.Vc
open Go Go.Sort

theorem uExprs : Tryz.prog.underlying 26 = some (.slice 28) := by kernel_rfl
theorem elemExpr : ElemOk Tryz.prog 28 8 128 = true := by kernel_rfl
theorem binds_gives (e : Xp) (cs : List Value) (H : PH) (he : e.Rep H cs) (i : Nat) (hi : i < e.kids.length) : Gives Tryz.prog n_core_binds [.agg cs.toArray, .int .i64 (i : Int)] H (.bool (inB e.kind (e.kids.drop (i + 1)))) := by
  obtain ⟨nb, db, kb, nc, dc, kc, rfl, hx⟩ := he.open
  have hk := hx.kids.max
  simp only [maxLen] at hk
  have hlast : (e.kids.drop (i + 1)).isEmpty = decide ((i : Int) = (e.kids.length : Int) - 1) := by
    rw [Bool.eq_iff_iff, List.isEmpty_iff, List.drop_eq_nil_iff, decide_eq_true_eq]; omega
  refine tri_core_binds (exVs e nb db kb nc dc kc ++ [.int .i64 (i : Int)]) (by kernel_rfl) (by kernel_rfl) ?_
  refine ⟨fun vs H' => vs = [.bool (decide (e.kind = 5) || decide (e.kind = 9) || decide (e.kind = 10))] ∧ H' = H, ?_, ?_⟩
  · rintro vs H1 _ ⟨rfl, rfl⟩
    refine ⟨fun h => ?_, fun h => ?_⟩
    · simp only [ev0, ev, evV, List.cons_append, List.nil_append, List.getD_cons_zero, List.getD_cons_succ, List.map_cons, List.map_nil, iOf, bOf, sOf, pOf, slLen, slBase, cmpI, arI, Value.ite_bool, int_beq, int_bne, ite_band, ite_bor] at h
      refine ⟨?_, PH.le_refl _⟩
      unfold inB
      rw [h]; rfl
    simp only [ev0, ev, evV, List.cons_append, List.nil_append, List.getD_cons_zero, List.getD_cons_succ, List.map_cons, List.map_nil, iOf, bOf, sOf, pOf, slLen, slBase, cmpI, arI, Value.ite_bool, int_beq, int_bne, ite_band, ite_bor] at h
    refine ⟨fun h8 => ?_, fun h8 => ?_⟩
    · simp only [ev0, ev, evV, List.cons_append, List.nil_append, List.getD_cons_zero, List.getD_cons_succ, List.map_cons, List.map_nil, iOf, bOf, sOf, pOf, slLen, slBase, cmpI, arI, Value.ite_bool, int_beq, int_bne, ite_band, ite_bor, decide_eq_true_eq] at h8
      refine ⟨?_, PH.le_refl _⟩
      unfold inB
      rw [h, hlast]
      simp only [ev0, ev, evV, List.cons_append, List.nil_append, List.getD_cons_zero, List.getD_cons_succ, List.map_cons, List.map_nil, iOf, bOf, sOf, pOf, slLen, slBase, cmpI, arI, Value.ite_bool, int_beq, int_bne, ite_band, ite_bor]
      rw [w64 (by omega) (by omega)]
      simp [h8]
    · simp only [ev0, ev, evV, List.cons_append, List.nil_append, List.getD_cons_zero, List.getD_cons_succ, List.map_cons, List.map_nil, iOf, bOf, sOf, pOf, slLen, slBase, cmpI, arI, Value.ite_bool, int_beq, int_bne, ite_band, ite_bor, decide_eq_false_iff_not] at h8
      refine ⟨?_, PH.le_refl _⟩
      unfold inB
      rw [h]
      simp [h8, ev0, ev, evV, List.cons_append, List.nil_append, List.getD_cons_zero, List.getD_cons_succ, List.map_cons, List.map_nil, iOf, bOf, sOf, pOf, slLen, slBase, cmpI, arI, Value.ite_bool]
  · refine ⟨fun h => ?_, fun h => ?_⟩
    · simp only [ev0, ev, evV, List.cons_append, List.nil_append, List.getD_cons_zero, List.getD_cons_succ, List.map_cons, List.map_nil, iOf, bOf, sOf, pOf, slLen, slBase, cmpI, arI, Value.ite_bool, int_beq, int_bne, ite_band, ite_bor, decide_eq_true_eq] at h
      exact ⟨_, lookup_hit, by simp only [ev0, ev, evV, List.cons_append, List.nil_append, List.getD_cons_zero, List.getD_cons_succ, List.map_cons, List.map_nil, iOf, bOf, sOf, pOf, slLen, slBase, cmpI, arI, Value.ite_bool, int_beq, int_bne, ite_band, ite_bor, h]; rfl, rfl⟩
    · simp only [ev0, ev, evV, List.cons_append, List.nil_append, List.getD_cons_zero, List.getD_cons_succ, List.map_cons, List.map_nil, iOf, bOf, sOf, pOf, slLen, slBase, cmpI, arI, Value.ite_bool, int_beq, int_bne, ite_band, ite_bor, decide_eq_false_iff_not] at h
      refine ⟨_, lookup_hit, ?_, rfl⟩
      simp only [ev0, ev, evV, List.cons_append, List.nil_append, List.getD_cons_zero, List.getD_cons_succ, List.map_cons, List.map_nil, iOf, bOf, sOf, pOf, slLen, slBase, cmpI, arI, Value.ite_bool, int_beq, int_bne, ite_band, ite_bor, decide_eq_false h]
      by_cases h9 : e.kind = 9 <;> simp [h9]
/-- a map copied -/
theorem Clone_tri (H : PH) (b : Nat) (es : Array MapEntry) (clock : Nat) (hb : H b = some (.map es clock)) : Tri Tryz.prog 30 #[.map (some b)] H fun e H' => ∃ r, e = .returned (.map (some r)) ∧ H r = none ∧ H' = H.upd r (.map es clock) := fun w hv =>
  (Tryz.maps_Clone b es clock w (hv b _ hb)).mono fun e w' ⟨g1, g2⟩ => by
    subst g2
    have hn := hv.new
    refine ⟨H.upd w.heap.size (.map es clock), ⟨?_, ?_, ?_, rfl, rfl, rfl⟩, w.heap.size, g1, hn, rfl⟩
    · show w.heap.size ≤ (w.heap.push _).size
      rw [Array.size_push]; omega
    · intro k o hk
      show (w.heap.push _)[k]? = some o
      rw [Array.getElem?_push]
      by_cases e : k = w.heap.size
      · rw [if_pos e]
        rw [e, PH.upd_same] at hk; exact hk
      · rw [if_neg e]
        rw [PH.upd_other e] at hk; exact hv k o hk
    · intro k hk hn'
      have e : k ≠ w.heap.size := by omega
      refine ⟨?_, by rw [PH.upd_other e]; exact hn'⟩
      show (w.heap.push _)[k]? = _
      rw [Array.getElem?_push, if_neg e]
theorem cb_Clone : callB Tryz.prog 30 = true := by kernel_rfl
/-- the map holds what names stand for -/
def AsM (m : List (List UInt8 × Value)) (az : List (List UInt8 × Nat)) : Prop := ∀ s, getM m s = (lastA az s).map fun k => .int .i64 (k : Int)
theorem AsM.put {m : List (List UInt8 × Value)} {az : List (List UInt8 × Nat)} (h : AsM m az) (s : List UInt8) (k : Nat) : AsM (putM m s (.int .i64 (k : Int))) (az ++ [(s, k)]) := by
  intro q
  rw [getM_put, lastA_append]
  by_cases e : q = s
  · subst e; simp [lastA]
  · have e2 : ¬ s = q := fun x => e x.symm
    simp [lastA, e, e2, h q]
mutual
/-- no more than so many names and kids anywhere -/
def Xp.fit : Xp → Prop
  | .mk _ _ ns _ l => ns.length ≤ 1048576 ∧ l.length ≤ 1048576 ∧ Xps.fit l
def Xps.fit : List Xp → Prop
  | [] => True
  | e :: l => Xp.fit e ∧ Xps.fit l
end
theorem Xps.fit_iff : ∀ l : List Xp, Xps.fit l ↔ ∀ e ∈ l, e.fit
  | [] => by simp [Xps.fit]
  | e :: l => by simp only [Xps.fit, Xps.fit_iff l, List.forall_mem_cons]
theorem Xp.fit_iff (e : Xp) : e.fit ↔ e.names.length ≤ 1048576 ∧ e.kids.length ≤ 1048576 ∧ ∀ k ∈ e.kids, k.fit := by
  cases e; simp only [Xp.fit, Xps.fit_iff, Xp.names, Xp.kids]
def RenAt (used : List (List UInt8)) (e : Xp) : Prop := ∀ (az : List (List UInt8 × Nat)) (n : Nat) (cs : List Value) (S : PH) (wr : Nat) (T : TypeId) (uv av : Value) (mu ma : List (List UInt8 × Value)), S wr = none → MapR S uv mu → UsedM mu used → MapR S av ma → AsM ma az → (∀ x ∈ az, x.2 < 900000000000000000) → e.fit → e.Rep S cs → Tab S → n + e.bnd.length * (used.length + 1) + used.length < 900000000000000000 →
  Tri Tryz.prog n_core_renamer__rename #[.pointer (some ⟨wr, 0, none⟩), .agg cs.toArray, av] (S.upd wr (.cells #[uv, .int .i64 (n : Int)] T (0, 0))) fun x H' => ∃ cs' S', x = .returned (.agg cs'.toArray) ∧ (e.ren used az n).1.Rep S' cs' ∧ PH.le S S' ∧ PH.le S' H' ∧ S' wr = none ∧ H' wr = some (.cells #[uv, .int .i64 ((e.ren used az n).2 : Int)] T (0, 0))
/-- beside other rows -/
theorem RenAt.use {used : List (List UInt8)} {e : Xp} (h : RenAt used e) {az : List (List UInt8 × Nat)} {n : Nat} {cs : List Value} {S H : PH} {wr : Nat} {T : TypeId} {uv av : Value} {mu ma : List (List UInt8 × Value)} (hS : PH.le S H) (hw : S wr = none) (hwr : H wr = some (.cells #[uv, .int .i64 (n : Int)] T (0, 0))) (hu : MapR S uv mu) (hm : UsedM mu used) (ha : MapR S av ma) (hz : AsM ma az) (hA : ∀ x ∈ az, x.2 < 900000000000000000) (hF : e.fit) (he : e.Rep S cs) (hT : Tab S) (hb : n + e.bnd.length * (used.length + 1) + used.length < 900000000000000000) :
    Tri Tryz.prog n_core_renamer__rename #[.pointer (some ⟨wr, 0, none⟩), .agg cs.toArray, av] H fun x H' => ∃ cs' S', x = .returned (.agg cs'.toArray) ∧ (e.ren used az n).1.Rep S' cs' ∧ PH.le S S' ∧ PH.le S' H' ∧ S' wr = none ∧ H' wr = some (.cells #[uv, .int .i64 ((e.ren used az n).2 : Int)] T (0, 0)) ∧ ∀ g, S g = none → H g ≠ none → g ≠ wr → S' g = none ∧ H' g = H g := by
  have hle : PH.le (S.upd wr (.cells #[uv, .int .i64 (n : Int)] T (0, 0))) H := fun k o hk => by
    by_cases e : k = wr
    · subst e; rw [PH.upd_same] at hk; rw [hwr]; exact hk
    · rw [PH.upd_other e] at hk; exact hS k o hk
  refine (Tri.within hle (h az n cs S wr T uv av mu ma hw hu hm ha hz hA hF he hT hb)).mono ?_
  rintro x H' ⟨K, ⟨cs', S', g1, g2, g3, g4, g5, g6⟩, hK, hfr⟩
  refine ⟨cs', S', g1, g2, g3, PH.le_trans g4 hK, g5, hK _ _ g6, fun g h1 h2 h3 => ?_⟩
  obtain ⟨q1, q2⟩ := hfr g (by rw [PH.upd_other h3]; exact h1) h2
  exact ⟨PH.none_of_le g4 q1, q2⟩
/-- a row that a call left as it was -/
theorem Row.left {α : Type} [Enc α] {S H S' H' : PH} {e : TypeId} {l : List α} {v : Value} (h : Row S H e l v) (hs : PH.le S S') (hg : ∀ g, ob v = some g → S' g = none ∧ H' g = H g) : Row S' H' e l v := by
  obtain ⟨xs, h1, h2⟩ := h.own
  exact ⟨fun g hv => (hg g hv).1, xs, h1.le fun k hk => (hg k hk).2, PV.RepRow.le hs h2⟩
end Go.Proofs.YtibinelkmlcmgaaGreatDoor.Vc
/-
  CORE: what an expression that may be is like. No program in sight.
-/
namespace Go.Proofs.YtibinelkmlcmgaaGreatDoor.Vc
open Go

mutual
/-- how many expressions -/
def Xp.size : Xp → Nat
  | .mk _ _ _ _ l => 1 + Xps.size l
def Xps.size : List Xp → Nat
  | [] => 0
  | e :: l => Xp.size e + Xps.size l
end
mutual
/-- all of them have the form -/
def Xp.okF (t : Bool) : Xp → Prop
  | .mk k s ns d l => (if t then exFormP (.mk k s ns d l) else exForm (.mk k s ns d l)) = true ∧ Xps.okF t l
def Xps.okF (t : Bool) : List Xp → Prop
  | [] => True
  | e :: l => Xp.okF t e ∧ Xps.okF t l
end
mutual
theorem Xp.chk_ok (t : Bool) : ∀ (e : Xp) (deep seen : Nat), (e.chk t deep seen).2 = 0 → e.okF t ∧ (e.chk t deep seen).1 = seen + e.size
  | .mk k s ns d l, deep, seen => by
    intro h
    simp only [Xp.chk] at h ⊢
    by_cases h1 : seen = 4096
    · rw [if_pos h1] at h; exact absurd h (show ¬ (62 : Int) = 0 by decide)
    rw [if_neg h1] at h ⊢
    by_cases h2 : 250 ≤ deep
    · rw [if_pos h2] at h; exact absurd h (show ¬ (61 : Int) = 0 by decide)
    rw [if_neg h2] at h ⊢
    generalize hb : (if t = true then exFormP (.mk k s ns d l) else exForm (.mk k s ns d l)) = b at h ⊢
    cases b
    · exact absurd h (show ¬ (60 : Int) = 0 by decide)
    · simp only [Bool.true_eq_false, if_false] at h ⊢
      obtain ⟨h4, h5⟩ := Xps.chk_ok t l _ _ h
      refine ⟨⟨hb, h4⟩, ?_⟩
      rw [h5, Xp.size]; omega
theorem Xps.chk_ok (t : Bool) : ∀ (l : List Xp) (deep seen : Nat), (Xps.chk t l deep seen).2 = 0 → Xps.okF t l ∧ (Xps.chk t l deep seen).1 = seen + Xps.size l
  | [], deep, seen => fun _ => ⟨trivial, rfl⟩
  | e :: l, deep, seen => by
    simp only [Xps.chk]
    split
    · rename_i h1
      intro h; exact absurd h h1
    · rename_i h1
      intro h
      obtain ⟨h2, h3⟩ := Xp.chk_ok t e deep seen (by simpa using h1)
      obtain ⟨h4, h5⟩ := Xps.chk_ok t l _ _ h
      refine ⟨⟨h2, h4⟩, ?_⟩
      rw [h5, h3, Xps.size]; omega
end
theorem Xps.size_len : ∀ l : List Xp, l.length ≤ Xps.size l
  | [] => Nat.le_refl _
  | e :: l => by
    have := Xps.size_len l
    have h : 1 ≤ e.size := by cases e; simp only [Xp.size]; omega
    simp only [Xps.size, List.length_cons]; omega
theorem form_names {e : Xp} (h : exForm e = true) : e.names.length ≤ 6 + e.kids.length := by
  unfold exForm at h
  split at h
  · simp at h
    rw [h.1.1.2]; simp
  · simp only [Bool.and_eq_true] at h
    obtain ⟨_, h⟩ := h
    have hem : ∀ l : List (List UInt8), l.isEmpty = true → l.length = 0 := fun l hl => by rw [List.isEmpty_iff.1 hl]; rfl
    repeat' split at h
    all_goals first
      | exact absurd h (by decide)
      | (simp only [Bool.and_eq_true, decide_eq_true_eq] at h; first | omega | (have := hem e.names (by first | exact h.1.2 | exact h.1.1.2 | exact h.1); omega))
theorem exFormP_form {e : Xp} (h : exFormP e = true) : exForm e = true := by
  unfold exFormP at h
  simp only [Bool.and_eq_true] at h
  exact h.1
mutual
theorem Xp.okF_bnd (t : Bool) : ∀ e : Xp, e.okF t → e.bnd.length + 1 ≤ 7 * e.size
  | .mk k s ns d l, h => by
    simp only [Xp.okF] at h
    have hf : exForm (.mk k s ns d l) = true := by
      cases t
      · simpa using h.1
      · exact exFormP_form (by simpa using h.1)
    have h1 := form_names hf
    simp only [Xp.names, Xp.kids] at h1
    have h2 := Xps.okF_bnd t l h.2
    simp only [Xp.bnd, Xp.size, List.length_append]; omega
theorem Xps.okF_bnd (t : Bool) : ∀ l : List Xp, Xps.okF t l → (Xps.bnd l).length + l.length ≤ 7 * Xps.size l
  | [], _ => by simp [Xps.bnd, Xps.size]
  | e :: l, h => by
    simp only [Xps.okF] at h
    have h1 := Xp.okF_bnd t e h.1
    have h2 := Xps.okF_bnd t l h.2
    simp only [Xps.bnd, Xps.size, List.length_append, List.length_cons]; omega
end
mutual
theorem Xp.all_len : ∀ e : Xp, e.all.length ≤ e.size + e.bnd.length
  | .mk k s ns d l => by
    have := Xps.all_len l
    simp only [Xp.all, Xp.size, Xp.bnd, List.length_append]
    split <;> simp only [List.length_nil, List.length_cons] <;> omega
theorem Xps.all_len : ∀ l : List Xp, (Xps.all l).length ≤ Xps.size l + (Xps.bnd l).length
  | [] => by simp [Xps.all]
  | e :: l => by
    have h1 := Xp.all_len e
    have h2 := Xps.all_len l
    simp only [Xps.all, Xps.size, Xps.bnd, List.length_append]; omega
end
mutual
theorem Xp.fit_of : ∀ e : Xp, e.size ≤ 4096 → e.bnd.length ≤ 28672 → e.fit
  | .mk k s ns d l, h1, h2 => by
    simp only [Xp.size] at h1
    simp only [Xp.bnd, List.length_append] at h2
    have := Xps.size_len l
    exact ⟨by omega, by omega, Xps.fit_of l (by omega) (by omega)⟩
theorem Xps.fit_of : ∀ l : List Xp, Xps.size l ≤ 4096 → (Xps.bnd l).length ≤ 28672 → Xps.fit l
  | [], _, _ => trivial
  | e :: l, h1, h2 => by
    simp only [Xps.size] at h1
    simp only [Xps.bnd, List.length_append] at h2
    exact ⟨Xp.fit_of e (by omega) (by omega), Xps.fit_of l (by omega) (by omega)⟩
end
theorem chk_size {t : Bool} {e : Xp} (h : (e.chk t 0 0).2 = 0) : e.size ≤ 4096 := by
  have h1 := (Xp.chk_ok t e 0 0 h).2
  have h2 := Xp.chk_le t e 0 0 (by omega)
  omega
theorem chk_bounds {t : Bool} {e : Xp} (h : (e.chk t 0 0).2 = 0) : e.fit ∧ e.bnd.length ≤ 28672 ∧ e.all.length ≤ 32768 := by
  have h1 := chk_size h
  have h2 := Xp.okF_bnd t e (Xp.chk_ok t e 0 0 h).1
  have h3 := Xp.all_len e
  exact ⟨Xp.fit_of e h1 (by omega), by omega, by omega⟩
end Go.Proofs.YtibinelkmlcmgaaGreatDoor.Vc
/-
  CORE: an expression's datum.
-/
namespace Go.Proofs.YtibinelkmlcmgaaGreatDoor.Vc
open Go

def symD (s : List UInt8) : Dat := .mk 4 0 s []
def lstD (l : List Dat) : Dat := .mk 5 0 [] l
def wordsL : List (List UInt8) := [[113, 117, 111, 116, 101], [], [115, 101, 116, 33], [105, 102], [98, 101, 103, 105, 110], [108, 97, 109, 98, 100, 97], [99, 97, 108, 108], [112, 114, 105, 109], [108, 101, 116], [108, 101, 116, 114, 101, 99], [102, 105, 120]]
def wordL (k : Int) : List UInt8 := wordsL.getD k.toNat []
def bindD (n : List UInt8) (x : Dat) : Dat := lstD [symD n, x]
def datOf (k : Int) (s : List UInt8) (ns : List (List UInt8)) (d : Dat) (kids : List Dat) : Dat :=
  if k = 1 then symD s else
  if k = 0 then lstD [symD (wordL k), d]
  else if k = 2 ∨ k = 7 then lstD (symD (wordL k) :: symD s :: kids)
  else if k = 5 then lstD (symD (wordL k) :: lstD (ns.map symD) :: kids)
  else if k = 8 ∨ k = 9 ∨ k = 10 then lstD (symD (wordL k) :: lstD (List.zipWith bindD ns kids) :: kids.drop ns.length)
  else lstD (symD (wordL k) :: kids)
mutual
/-- an expression's datum -/
def Xp.dat : Xp → Dat
  | .mk k s ns d l => datOf k s ns d (Xps.dats l)
def Xps.dats : List Xp → List Dat
  | [] => []
  | e :: l => e.dat :: Xps.dats l
end
theorem Xps.dats_eq : ∀ l : List Xp, Xps.dats l = l.map Xp.dat
  | [] => rfl
  | e :: l => by simp only [Xps.dats, List.map_cons, Xps.dats_eq l]
theorem Xp.dat_eq (e : Xp) : e.dat = datOf e.kind e.name e.names e.const (e.kids.map Xp.dat) := by
  cases e; simp only [Xp.dat, Xps.dats_eq, Xp.kind, Xp.name, Xp.names, Xp.const, Xp.kids]
theorem Xps.okF_iff {t : Bool} : ∀ l : List Xp, Xps.okF t l ↔ ∀ e ∈ l, e.okF t
  | [] => by simp [Xps.okF]
  | e :: l => by simp only [Xps.okF, Xps.okF_iff l, List.mem_cons, forall_eq_or_imp]
theorem Xp.okF_form {t : Bool} {e : Xp} (h : e.okF t) : exForm e = true ∧ ∀ k ∈ e.kids, k.okF t := by
  cases e with
  | mk k s ns d l =>
    simp only [Xp.okF, Xps.okF_iff] at h
    refine ⟨?_, h.2⟩
    cases t with
    | true => exact exFormP_form h.1
    | false => exact h.1
theorem exForm_kind {e : Xp} (h : exForm e = true) : 0 ≤ e.kind ∧ e.kind ≤ 10 := by
  unfold exForm at h
  by_cases h0 : e.kind = 0
  · omega
  by_cases h1 : e.kind = 1
  · omega
  by_cases h2 : e.kind = 2
  · omega
  by_cases h3 : e.kind = 3
  · omega
  by_cases h4 : e.kind = 4
  · omega
  by_cases h5 : e.kind = 5
  · omega
  by_cases h6 : e.kind = 6
  · omega
  by_cases h7 : e.kind = 7
  · omega
  by_cases h8 : e.kind = 8
  · omega
  by_cases h9 : e.kind = 9
  · omega
  by_cases h10 : e.kind = 10
  · omega
  simp [h0, h1, h2, h3, h4, h5, h6, h7, h8, h9, h10] at h
theorem exForm_lets {e : Xp} (h : exForm e = true) (hk : e.kind = 8 ∨ e.kind = 9 ∨ e.kind = 10) : e.kids.length = e.names.length + 1 := by
  unfold exForm at h
  rcases hk with hk | hk | hk <;> simp [hk] at h <;> grind
theorem exForm_quote {e : Xp} (h : exForm e = true) (hk : e.kind = 0) : e.kids = [] := by
  unfold exForm at h
  simp [hk] at h; grind

/-! ### the small ones -/
theorem symbol_gives (s : List UInt8) (H : PH) : Gives Tryz.prog n_core_symbol [txt s] H (.agg #[.int .i64 4, .int .i64 0, txt s, .slice none 0 0]) :=
  tri_core_symbol [txt s] rfl rfl ⟨rfl, PH.le_refl _⟩
theorem list_gives (b : Option Addr) (n c : Nat) (H : PH) : Gives Tryz.prog n_core_list [.slice b n c] H (.agg #[.int .i64 5, .int .i64 0, txt [], .slice b n c]) :=
  tri_core_list [.slice b n c] rfl rfl ⟨rfl, PH.le_refl _⟩
theorem wpS_indexArr {P : Program} {H : PH} {T t : TypeId} {n : Nat} {td : TypeDesc} {inf : TypeInfo} (hT : P.underlying T = some (.array n t)) (ht : P.underlying t = some td) (hd : flatB td = true) (hi : P.info? t = some inf) (h1 : inf.size = 1) {cs : Array Value} {i : Int} {v : Value} (h0 : 0 ≤ i) (hn : i < n) (hv : cs[i.toNat]? = some v)
    {ρ : Operand → Value} {x y : Operand} {ty : TypeId} (hx : ρ x = .agg cs) (hy : ρ y = .int .i64 i) {Φ : Next → PH → Prop} {Ψ : Value → PH → Prop} : wpS P (execOp ρ (bare (.index T x y) ty)) Φ Ψ H = Φ (.value v) H := by
  have hsz : wpS P (sizeOf t) (fun s H' => wpS P (part t cs (i.toNat * s)) (fun v H' => Φ (.value v) H') Ψ H') Ψ H = Φ (.value v) H := by
    rw [wpS_sizeOf hi, h1, Nat.mul_one]
    exact wpS_part ht hd hv
  simp only [execOp, bare, Instr.index, asIntOf, hx, hy, wpS_bind', wpS_pure, wpS_underlying hT, h0, hn, and_self, if_true]
  exact hsz
theorem words_gives (k : Int) (h0 : 0 ≤ k) (h1 : k ≤ 10) (H : PH) : Gives Tryz.prog n_core_words [.int .i64 k] H (txt (wordL k)) := by
  refine tri_core_words [.int .i64 k] rfl rfl ?_
  show wpS _ (execOp _ _) _ _ H
  have hv : ((wordsL.map txt).toArray)[k.toNat]? = some (txt (wordL k)) := by
    have hk : k = ((k.toNat : Nat) : Int) := by omega
    have : k.toNat < wordsL.length := by show _ < 11; omega
    rw [List.getElem?_toArray, List.getElem?_map, List.getElem?_eq_getElem this, wordL, List.getD_eq_getElem?_getD, List.getElem?_eq_getElem this]; rfl
  rw [wpS_indexArr (T := 78) (t := 9) (n := 11) (td := .string) (inf := (Tryz.prog.info? 9).get!) (by kernel_rfl) (by kernel_rfl) rfl (by kernel_rfl) (by kernel_rfl) (cs := (wordsL.map txt).toArray) h0 (by omega) hv rfl rfl]
  exact ⟨[txt (wordL k)], rfl, rfl, pendNil, rfl, PH.le_refl _⟩
end Go.Proofs.YtibinelkmlcmgaaGreatDoor.Vc
/-
  CORE: the program tells an expression's datum.
-/
namespace Go.Proofs.YtibinelkmlcmgaaGreatDoor.Vc
open Go

def ToldAt (f : FuncId) (e : Xp) : Prop := ∀ (cs : List Value) (H : PH), e.Rep H cs → e.okF true → e.fit → GivesD f [.agg cs.toArray] H e.dat
theorem datsLen (l : List Xp) (k : Nat) : ((l.take k).map Xp.dat).length = min k l.length := by simp
theorem sym_rep {H : PH} {s : List UInt8} (h : s.length ≤ maxLen) : Dat.Rep H (symD s) [.int .i64 4, .int .i64 0, txt s, .slice none 0 0] := leaf_rep (by decide) (by decide) h
theorem lst_rep {H : PH} {l : List Dat} {v : Value} (h : SlR H l v) : Dat.Rep H (lstD l) [.int .i64 5, .int .i64 0, txt [], v] := Dat.Rep_iff.2 ⟨_, rfl, (by decide : InI 5), (by decide : InI 0), (by decide : ([] : List UInt8).length ≤ maxLen), h⟩
theorem wordL_len (k : Int) : (wordL k).length ≤ 6 := by
  have : ∀ n : Nat, (wordsL.getD n []).length ≤ 6 := by
    intro n
    by_cases h : n < 11
    · have : ∀ m : Fin 11, (wordsL.getD m []).length ≤ 6 := by decide
      exact this ⟨n, h⟩
    · rw [List.getD_eq_getElem?_getD, List.getElem?_eq_none (by show 11 ≤ n; omega)]; simp
  exact this _
set_option maxHeartbeats 4000000 in
theorem told_tri : ∀ e, ToldAt n_core_told e := by
  refine Xp.ind fun e ih cs H he hok hfit => ?_
  obtain ⟨nb, db, kb, nc, dc, kc, rfl, hx⟩ := Xp.Rep.open he
  obtain ⟨fn, fk, ff⟩ := (Xp.fit_iff e).1 hfit
  obtain ⟨hform, hkids⟩ := Xp.okF_form hok
  obtain ⟨hk0, hk10⟩ := exForm_kind hform
  have hw := wordL_len e.kind
  have hwm : (wordL e.kind).length ≤ maxLen := by simp only [maxLen]; omega
  refine tri_core_told (exVs e nb db kb nc dc kc) (by kernel_rfl) (by kernel_rfl) ?_
  refine ⟨fun n vs H' => ∃ (k : Nat) (out : Value) (S' : PH), vs = [out, .int .i64 k] ∧ k + n = e.kids.length ∧ PH.le H S' ∧ Held S' H' [orow 25 ((e.kids.take k).map Xp.dat) out],
    ⟨e.kids.length, 0, .slice none 0 0, H, rfl, by omega, PH.le_refl _, (Held.nil (PH.le_refl H)).empty _⟩, ?_⟩
  rintro n vs H1 _ ⟨k, out, S1, rfl, hkn, l1, h1⟩
  refine ⟨fun g => ?_, fun g => ?_⟩
  · simp only [ev0, ev, evV, List.cons_append, List.nil_append, List.getD_cons_zero, List.getD_cons_succ, List.map_cons, List.map_nil, iOf, bOf, sOf, pOf, slLen, slBase, cmpI, arI, Value.ite_bool, int_beq, int_bne, ite_band, ite_bor, decide_eq_true_eq] at g
    obtain ⟨a, ha⟩ : ∃ a, e.kids[k]? = some a := ⟨_, List.getElem?_eq_getElem (show k < e.kids.length by omega)⟩
    obtain ⟨g1, _, ces, g2, g3⟩ := (hx.kids.le l1).get ha
    have hm := List.mem_of_getElem? ha
    have htags := Xp.Rep.tags g2
    have g2' := g2
    obtain ⟨nb', db', kb', nc', dc', kc', rfl, _⟩ := Xp.Rep.open g2'
    refine ⟨fun _ => ?_, _, htags, by simp only [ev0, ev, evV, List.cons_append, List.nil_append, List.getD_cons_zero, List.getD_cons_succ, List.map_cons, List.map_nil, iOf, bOf, sOf, pOf, slLen, slBase, cmpI, arI, Value.ite_bool, int_beq, int_bne, ite_band, ite_bor]; exact rowAt_le h1.sh g3, ?_⟩
    · simp only [Chk.holds, ev0, ev, evV, List.cons_append, List.nil_append, List.getD_cons_zero, List.getD_cons_succ, List.map_cons, List.map_nil, iOf, bOf, sOf, pOf, slLen, slBase, cmpI, arI, Value.ite_bool, int_beq, int_bne, ite_band, ite_bor]; exact ⟨g1, by omega, by omega⟩
    refine den_call cb_core_told (h1.pure (R := fun x S' => ∃ cs, x = .returned (.agg cs.toArray) ∧ a.dat.Rep S' cs) ((ih a hm _ S1 g2 (hkids a hm) (ff a hm)).mono fun x S' hh => by obtain ⟨cs, q1, q2, q3⟩ := hh; exact ⟨q2, cs, q1, q3⟩)) ?_
    rintro x H2 ⟨S2, l2, h2, cs2, rfl, r2⟩
    have ht2 := Dat.Rep.tags r2
    have r2' := r2
    obtain ⟨sv2, rfl, _⟩ := Dat.Rep_iff.1 r2
    refine ⟨_, _, rfl, ht2, rfl, pendNil, ?_⟩
    refine den_hPush (more := [a.dat]) (b := 56) [.agg #[.int .i64 a.dat.kind, .int .i64 a.dat.int, txt a.dat.text, sv2]] uDats elemDat rfl (by decide) (by decide) h2 (by kernel_rfl) (.cons r2' .nil) pendNil (fun _ => by kernel_rfl) (fun _ => by kernel_rfl)
      (by rw [datsLen]; simp only [maxLen, List.length_cons, List.length_nil]; omega) (by rw [datsLen]; simp only [List.length_cons, List.length_nil]; omega) fun u v' S3 H3 l3 h3 => ⟨pendNil, _, lookup_hit, n - 1, by omega, k + 1, v', S3, ?_, by omega, PH.le_trans l1 (PH.le_trans l2 l3), ?_⟩
    · simp only [ev0, ev, evV, List.cons_append, List.nil_append, List.getD_cons_zero, List.getD_cons_succ, List.map_cons, List.map_nil, iOf, bOf, sOf, pOf, slLen, slBase, cmpI, arI, Value.ite_bool, int_beq, int_bne, ite_band, ite_bor]
      rw [w64 (by omega) (by omega)]
      rfl
    · rw [List.take_add_one, ha, List.map_append]; exact h3
  · simp only [ev0, ev, evV, List.cons_append, List.nil_append, List.getD_cons_zero, List.getD_cons_succ, List.map_cons, List.map_nil, iOf, bOf, sOf, pOf, slLen, slBase, cmpI, arI, Value.ite_bool, int_beq, int_bne, ite_band, ite_bor, decide_eq_false_iff_not] at g
    have hkk : k = e.kids.length := by omega
    subst hkk
    rw [List.take_length] at h1
    refine den_gives [txt (wordL e.kind)] cb_core_words (words_gives e.kind hk0 hk10 H1) rfl pendNil fun H2 q2 => ?_
    have h2 := h1.le q2
    refine den_gives [.int .i64 4, .int .i64 0, txt (wordL e.kind), .slice none 0 0] cb_core_symbol (symbol_gives (wordL e.kind) H2) rfl pendNil fun H3 q3 => ?_
    have h3 := h2.le q3
    refine den_hLit (l := [symD (wordL e.kind)]) (b := 56) [.agg #[.int .i64 4, .int .i64 0, txt (wordL e.kind), .slice none 0 0]] uDats elemDat rfl (by decide) (by decide) h3 (by kernel_rfl) (.cons (sym_rep hwm) .nil) pendNil fun wv H4 h4 _ _ => ?_
    obtain ⟨wb, wc, hwv⟩ := (h4.row (List.mem_cons_self ..)).sl
    refine den_gives [.int .i64 5, .int .i64 0, txt [], wv] cb_core_list (by rw [hwv]; exact list_gives wb _ wc H4) (by rw [hwv]; rfl) pendNil fun H5 q5 => ?_
    have h5 := h4.le q5
    have hb : ((e.kids.map Xp.dat).length : Nat) = e.kids.length := by simp
    refine ⟨fun vs H' => ∃ (kv lv : Value) (L K : List Dat) (S' : PH), vs = [kv, .int .i64 5, .int .i64 0, txt [], lv] ∧ PH.le H S' ∧ Held S' H' [orow 25 L lv] ∧ SlR S' K kv ∧ e.dat = lstD (L ++ K) ∧ L.length ≤ 4 ∧ K.length ≤ 1048576, ?_, ?_⟩
    · rintro vs H6 _ ⟨kv, lv, L, K, S6, rfl, l6, h6, hK, hd, hL4, hK4⟩
      obtain ⟨b6, c6, hkv⟩ := hK.sl
      refine den_hApp (b := 56) (more := K) uDats elemDat rfl rfl h6 (hK.srcS h6.sh) (by simp only [maxLen]; omega) (by omega) fun v7 H7 h7 _ => ⟨pendNil, ?_⟩
      obtain ⟨S8, s8, l8, h8⟩ := h7.freeze
      refine ⟨[.int .i64 5, .int .i64 0, txt [], v7], rfl, PH.le_trans l6 (PH.le_trans l8 h8.sh), ?_⟩
      rw [hd]
      exact lst_rep (s8.le h8.sh)
    refine ⟨fun g1 => ?_, fun g1 => ?_⟩
    · simp only [ev0, ev, evV, List.cons_append, List.nil_append, List.getD_cons_zero, List.getD_cons_succ, List.map_cons, List.map_nil, iOf, bOf, sOf, pOf, slLen, slBase, cmpI, arI, Value.ite_bool, int_beq, int_bne, ite_band, ite_bor, decide_eq_true_eq] at g1
      refine den_gives [.int .i64 4, .int .i64 0, txt e.name, .slice none 0 0] cb_core_symbol (symbol_gives e.name H5) rfl pendNil fun H6 q6 => ?_
      refine ⟨[.int .i64 4, .int .i64 0, txt e.name, .slice none 0 0], rfl, PH.le_trans l1 (h5.le q6).sh, ?_⟩
      rw [Xp.dat_eq, datOf, if_pos g1]
      exact sym_rep hx.name
    simp only [ev0, ev, evV, List.cons_append, List.nil_append, List.getD_cons_zero, List.getD_cons_succ, List.map_cons, List.map_nil, iOf, bOf, sOf, pOf, slLen, slBase, cmpI, arI, Value.ite_bool, int_beq, int_bne, ite_band, ite_bor, decide_eq_false_iff_not] at g1
    have hdat := Xp.dat_eq e
    refine ⟨fun g0 => ?_, fun g0 => ?_⟩
    · simp only [ev0, ev, evV, List.cons_append, List.nil_append, List.getD_cons_zero, List.getD_cons_succ, List.map_cons, List.map_nil, iOf, bOf, sOf, pOf, slLen, slBase, cmpI, arI, Value.ite_bool, int_beq, int_bne, ite_band, ite_bor, decide_eq_true_eq] at g0
      have hc : e.const.Rep S1 [.int .i64 e.const.kind, .int .i64 e.const.int, txt e.const.text, .slice db e.const.list.length dc] := Dat.Rep.le l1 _ hx.const
      refine den_rowLit (l := [e.const]) (b := 56) [.agg #[.int .i64 e.const.kind, .int .i64 e.const.int, txt e.const.text, .slice db e.const.list.length dc]] uDats elemDat rfl (by decide) (by decide) h5.sh (by kernel_rfl) (.cons hc .nil) pendNil fun v6 S6 H6 x6 s6 _ => ?_
      refine ⟨_, lookup_hit, v6, wv, [symD (wordL e.kind)], [e.const], S6, by simp only [ev0, ev, evV, List.cons_append, List.nil_append, List.getD_cons_zero, List.getD_cons_succ, List.map_cons, List.map_nil, iOf, bOf, sOf, pOf, slLen, slBase, cmpI, arI, Value.ite_bool, int_beq, int_bne, ite_band, ite_bor], PH.le_trans l1 x6.s, (h5.ext x6).sub (by simp), s6, ?_, by simp, by simp⟩
      rw [hdat, datOf, if_neg g1, if_pos g0]; rfl
    simp only [ev0, ev, evV, List.cons_append, List.nil_append, List.getD_cons_zero, List.getD_cons_succ, List.map_cons, List.map_nil, iOf, bOf, sOf, pOf, slLen, slBase, cmpI, arI, Value.ite_bool, int_beq, int_bne, ite_band, ite_bor, decide_eq_false_iff_not] at g0
    refine ⟨fun g2 => ?_, fun g2 => ?_⟩
    · simp only [ev0, ev, evV, List.cons_append, List.nil_append, List.getD_cons_zero, List.getD_cons_succ, List.map_cons, List.map_nil, iOf, bOf, sOf, pOf, slLen, slBase, cmpI, arI, Value.ite_bool, int_beq, int_bne, ite_band, ite_bor, ite_self] at g2
      have g2' : e.kind = 2 ∨ e.kind = 7 := by
        by_cases h : e.kind = 2
        · exact .inl h
        · right; simpa [h] using g2
      refine den_gives [.int .i64 4, .int .i64 0, txt e.name, .slice none 0 0] cb_core_symbol (symbol_gives e.name H5) rfl pendNil fun H6 q6 => ?_
      have h6 := h5.le q6
      refine den_hPush (more := [symD e.name]) (b := 56) [.agg #[.int .i64 4, .int .i64 0, txt e.name, .slice none 0 0]] uDats elemDat rfl (by decide) (by decide) h6 (by kernel_rfl) (.cons (sym_rep hx.name) .nil) pendNil (fun _ => by kernel_rfl) (fun _ => by kernel_rfl)
        (by simp [maxLen]) (by simp) fun u v7 S7 H7 l7 h7 => ⟨pendNil, ?_⟩
      obtain ⟨S8, s8, l8, h8⟩ := (h7.perm (List.Perm.swap ..)).freeze
      refine ⟨_, lookup_hit, out, v7, _, e.kids.map Xp.dat, S8, by simp only [ev0, ev, evV, List.cons_append, List.nil_append, List.getD_cons_zero, List.getD_cons_succ, List.map_cons, List.map_nil, iOf, bOf, sOf, pOf, slLen, slBase, cmpI, arI, Value.ite_bool, int_beq, int_bne, ite_band, ite_bor], PH.le_trans l1 (PH.le_trans l7 l8), h8, s8, ?_, by simp, by rw [hb]; exact fk⟩
      rw [hdat, datOf, if_neg g1, if_neg g0, if_pos g2']; rfl
    have g2' : ¬ (e.kind = 2 ∨ e.kind = 7) := by
      rintro (h | h) <;> simp [ev0, ev, evV, List.cons_append, List.nil_append, List.getD_cons_zero, List.getD_cons_succ, List.map_cons, List.map_nil, iOf, bOf, sOf, pOf, slLen, slBase, cmpI, arI, Value.ite_bool, int_beq, int_bne, ite_band, ite_bor, h] at g2
    refine ⟨fun g5 => ?_, fun g5 => ?_⟩
    · simp only [ev0, ev, evV, List.cons_append, List.nil_append, List.getD_cons_zero, List.getD_cons_succ, List.map_cons, List.map_nil, iOf, bOf, sOf, pOf, slLen, slBase, cmpI, arI, Value.ite_bool, int_beq, int_bne, ite_band, ite_bor, decide_eq_true_eq] at g5
      refine den_gives [.int .i64 5, .int .i64 0, txt [], .slice none 0 0] cb_core_list (list_gives none 0 0 H5) rfl pendNil fun H6 q6 => ?_
      have h6 := h5.le q6
      refine ⟨fun n vs H' => ∃ (k : Nat) (lv : Value) (S' : PH), vs = [.int .i64 k, .int .i64 5, .int .i64 0, txt [], lv] ∧ k + n = e.names.length ∧ PH.le H S' ∧ Held S' H' [orow 25 ((e.names.take k).map symD) lv, orow 25 [symD (wordL e.kind)] wv, orow 25 (e.kids.map Xp.dat) out],
        ⟨e.names.length, 0, .slice none 0 0, S1, rfl, by omega, l1, h6.empty _⟩, ?_⟩
      rintro n vs H7 _ ⟨k, lv, S7, rfl, hkn, l7, h7⟩
      refine ⟨fun g => ?_, fun g => ?_⟩
      · simp only [ev0, ev, evV, List.cons_append, List.nil_append, List.getD_cons_zero, List.getD_cons_succ, List.map_cons, List.map_nil, iOf, bOf, sOf, pOf, slLen, slBase, cmpI, arI, Value.ite_bool, int_beq, int_bne, ite_band, ite_bor, decide_eq_true_eq] at g
        obtain ⟨a, ha⟩ : ∃ a, e.names[k]? = some a := ⟨_, List.getElem?_eq_getElem (show k < e.names.length by omega)⟩
        obtain ⟨g3, _, ces, g4, g6⟩ := (hx.names.le l7).get ha
        obtain ⟨rfl, hal⟩ := csTxts g4
        refine ⟨fun _ => ?_, [txt a], rfl, by simp only [ev0, ev, evV, List.cons_append, List.nil_append, List.getD_cons_zero, List.getD_cons_succ, List.map_cons, List.map_nil, iOf, bOf, sOf, pOf, slLen, slBase, cmpI, arI, Value.ite_bool, int_beq, int_bne, ite_band, ite_bor]; exact rowAt_le h7.sh g6, ?_⟩
        · simp only [Chk.holds, ev0, ev, evV, List.cons_append, List.nil_append, List.getD_cons_zero, List.getD_cons_succ, List.map_cons, List.map_nil, iOf, bOf, sOf, pOf, slLen, slBase, cmpI, arI, Value.ite_bool, int_beq, int_bne, ite_band, ite_bor]; exact ⟨g3, by omega, by omega⟩
        refine den_gives [.int .i64 4, .int .i64 0, txt a, .slice none 0 0] cb_core_symbol (symbol_gives a H7) rfl pendNil fun H8 q8 => ?_
        refine den_hPush (more := [symD a]) (b := 56) [.agg #[.int .i64 4, .int .i64 0, txt a, .slice none 0 0]] uDats elemDat rfl (by decide) (by decide) (h7.le q8) (by kernel_rfl) (.cons (sym_rep hal) .nil) pendNil (fun _ => by kernel_rfl) (fun _ => by kernel_rfl)
          (by simp only [maxLen, List.length_map, List.length_take, List.length_cons, List.length_nil]; omega) (by simp only [List.length_map, List.length_take, List.length_cons, List.length_nil]; omega) fun u v9 S9 H9 l9 h9 => ⟨pendNil, _, lookup_hit, n - 1, by omega, k + 1, v9, S9, ?_, by omega, PH.le_trans l7 l9, ?_⟩
        · simp only [ev0, ev, evV, List.cons_append, List.nil_append, List.getD_cons_zero, List.getD_cons_succ, List.map_cons, List.map_nil, iOf, bOf, sOf, pOf, slLen, slBase, cmpI, arI, Value.ite_bool, int_beq, int_bne, ite_band, ite_bor]
          rw [w64 (by omega) (by omega)]
          rfl
        · rw [List.take_add_one, ha, List.map_append]; exact h9
      · simp only [ev0, ev, evV, List.cons_append, List.nil_append, List.getD_cons_zero, List.getD_cons_succ, List.map_cons, List.map_nil, iOf, bOf, sOf, pOf, slLen, slBase, cmpI, arI, Value.ite_bool, int_beq, int_bne, ite_band, ite_bor, decide_eq_false_iff_not] at g
        have hkk : k = e.names.length := by omega
        subst hkk
        rw [List.take_length] at h7
        obtain ⟨S8, s8, l8, h8⟩ := h7.freeze
        obtain ⟨bb, bc, hlv⟩ := s8.sl
        refine den_hPush (more := [lstD (e.names.map symD)]) (b := 56) [.agg #[.int .i64 5, .int .i64 0, txt [], lv]] uDats elemDat rfl (by decide) (by decide) h8 (by kernel_rfl) (.cons (lst_rep s8) .nil) pendNil (fun _ => by kernel_rfl) (fun _ => by kernel_rfl)
          (by simp [maxLen]) (by simp) fun u v9 S9 H9 l9 h9 => ⟨pendNil, ?_⟩
        obtain ⟨Sa, sa, la, ha⟩ := (h9.perm (List.Perm.swap ..)).freeze
        refine ⟨_, (lookup_miss (by decide)).trans lookup_hit, out, v9, _, e.kids.map Xp.dat, Sa, by simp only [ev0, ev, evV, List.cons_append, List.nil_append, List.getD_cons_zero, List.getD_cons_succ, List.map_cons, List.map_nil, iOf, bOf, sOf, pOf, slLen, slBase, cmpI, arI, Value.ite_bool, int_beq, int_bne, ite_band, ite_bor], PH.le_trans l7 (PH.le_trans l8 (PH.le_trans l9 la)), ha, sa, ?_, by simp, by rw [hb]; exact fk⟩
        rw [hdat, datOf, if_neg g1, if_neg g0, if_neg g2', if_pos g5]; rfl
    simp only [ev0, ev, evV, List.cons_append, List.nil_append, List.getD_cons_zero, List.getD_cons_succ, List.map_cons, List.map_nil, iOf, bOf, sOf, pOf, slLen, slBase, cmpI, arI, Value.ite_bool, int_beq, int_bne, ite_band, ite_bor, decide_eq_false_iff_not] at g5
    refine ⟨fun vs H' => vs = [.bool (decide (e.kind = 8 ∨ e.kind = 9 ∨ e.kind = 10))] ∧ H' = H5, ?_, ?_⟩
    · rintro vs H6 _ ⟨rfl, rfl⟩
      refine ⟨fun g8 => ?_, fun g8 => ?_⟩
      · simp only [ev0, ev, evV, List.cons_append, List.nil_append, List.getD_cons_zero, List.getD_cons_succ, List.map_cons, List.map_nil, iOf, bOf, sOf, pOf, slLen, slBase, cmpI, arI, Value.ite_bool, int_beq, int_bne, ite_band, ite_bor, decide_eq_true_eq] at g8
        have hkl := exForm_lets hform g8
        refine den_gives [.int .i64 5, .int .i64 0, txt [], .slice none 0 0] cb_core_list (list_gives none 0 0 H6) rfl pendNil fun H7 q7 => ?_
        obtain ⟨S7, s7, l7, h7⟩ := ((h5.le q7).perm (List.Perm.swap ..)).freeze
        refine ⟨fun n vs H' => ∃ (k : Nat) (lv : Value) (S' : PH), vs = [.int .i64 k, .int .i64 5, .int .i64 0, txt [], lv] ∧ k + n = e.names.length ∧ PH.le S7 S' ∧ Held S' H' [orow 25 ((List.zipWith bindD e.names (e.kids.map Xp.dat)).take k) lv, orow 25 [symD (wordL e.kind)] wv],
          ⟨e.names.length, 0, .slice none 0 0, S7, rfl, by omega, PH.le_refl _, h7.empty _⟩, ?_⟩
        rintro n vs H8 _ ⟨k, lv, S8, rfl, hkn, l8, h8⟩
        have hzl : (List.zipWith bindD e.names (e.kids.map Xp.dat)).length = e.names.length := by simp; omega
        refine ⟨fun g => ?_, fun g => ?_⟩
        · simp only [ev0, ev, evV, List.cons_append, List.nil_append, List.getD_cons_zero, List.getD_cons_succ, List.map_cons, List.map_nil, iOf, bOf, sOf, pOf, slLen, slBase, cmpI, arI, Value.ite_bool, int_beq, int_bne, ite_band, ite_bor, decide_eq_true_eq] at g
          obtain ⟨a, ha⟩ : ∃ a, e.names[k]? = some a := ⟨_, List.getElem?_eq_getElem (show k < e.names.length by omega)⟩
          obtain ⟨q, hq⟩ : ∃ q, (e.kids.map Xp.dat)[k]? = some q := ⟨_, List.getElem?_eq_getElem (show k < (e.kids.map Xp.dat).length by rw [hb]; omega)⟩
          obtain ⟨g3, _, ces, g4, g6⟩ := (hx.names.le (PH.le_trans l1 (PH.le_trans l7 l8))).get ha
          obtain ⟨rfl, hal⟩ := csTxts g4
          obtain ⟨p3, _, ces, p4, p6⟩ := (s7.le l8).get hq
          have pt := Dat.Rep.tags p4
          have p4' := p4
          obtain ⟨sq, rfl, _⟩ := Dat.Rep_iff.1 p4'
          obtain ⟨ob1, oc1, rfl⟩ := s7.sl
          refine ⟨fun _ => ?_, [txt a], rfl, by simp only [ev0, ev, evV, List.cons_append, List.nil_append, List.getD_cons_zero, List.getD_cons_succ, List.map_cons, List.map_nil, iOf, bOf, sOf, pOf, slLen, slBase, cmpI, arI, Value.ite_bool, int_beq, int_bne, ite_band, ite_bor]; exact rowAt_le h8.sh g6, fun _ => ?_, _, pt, by simp only [ev0, ev, evV, List.cons_append, List.nil_append, List.getD_cons_zero, List.getD_cons_succ, List.map_cons, List.map_nil, iOf, bOf, sOf, pOf, slLen, slBase, cmpI, arI, Value.ite_bool, int_beq, int_bne, ite_band, ite_bor]; exact rowAt_le h8.sh p6, ?_⟩
          · simp only [Chk.holds, ev0, ev, evV, List.cons_append, List.nil_append, List.getD_cons_zero, List.getD_cons_succ, List.map_cons, List.map_nil, iOf, bOf, sOf, pOf, slLen, slBase, cmpI, arI, Value.ite_bool, int_beq, int_bne, ite_band, ite_bor]; exact ⟨g3, by omega, by omega⟩
          · simp only [Chk.holds, ev0, ev, evV, List.cons_append, List.nil_append, List.getD_cons_zero, List.getD_cons_succ, List.map_cons, List.map_nil, iOf, bOf, sOf, pOf, slLen, slBase, cmpI, arI, Value.ite_bool, int_beq, int_bne, ite_band, ite_bor]; exact ⟨p3, by omega, by rw [hb]; omega⟩
          refine den_gives [.int .i64 4, .int .i64 0, txt a, .slice none 0 0] cb_core_symbol (symbol_gives a H8) rfl ?_ fun H9 q9 => ?_
          · intro x hx'
            rw [List.mem_singleton.1 hx']
            simp only [ev0, ev, evV, List.cons_append, List.nil_append, List.getD_cons_zero, List.getD_cons_succ, List.map_cons, List.map_nil, iOf, bOf, sOf, pOf, slLen, slBase, cmpI, arI, Value.ite_bool, int_beq, int_bne, ite_band, ite_bor]
            exact rowAt_le h8.sh p6
          have h9 := h8.le q9
          refine den_rowLit (l := [symD a, q]) (b := 56) [.agg #[.int .i64 4, .int .i64 0, txt a, .slice none 0 0], .agg #[.int .i64 q.kind, .int .i64 q.int, txt q.text, sq]] uDats elemDat rfl (by decide) (by decide) h9.sh (by kernel_rfl) (.cons (sym_rep hal) (.cons p4 .nil)) pendNil fun va Sa Ha xa sa _ => ?_
          have h10 := h9.ext xa
          obtain ⟨ba, ca, hva⟩ := sa.sl
          refine den_gives [.int .i64 5, .int .i64 0, txt [], va] cb_core_list (by rw [hva]; exact list_gives ba _ ca Ha) (by rw [hva]; rfl) pendNil fun Hb qb => ?_
          refine den_hPush (more := [bindD a q]) (b := 56) [.agg #[.int .i64 5, .int .i64 0, txt [], va]] uDats elemDat rfl (by decide) (by decide) (h10.le qb) (by kernel_rfl) (.cons (lst_rep sa) .nil) pendNil (fun _ => by kernel_rfl) (fun _ => by kernel_rfl)
            (by simp only [maxLen, hzl, List.length_take, List.length_cons, List.length_nil]; omega) (by simp only [hzl, List.length_take, List.length_cons, List.length_nil]; omega) fun u vc Sc Hc lc hc => ⟨pendNil, _, lookup_hit, n - 1, by omega, k + 1, vc, Sc, ?_, by omega, PH.le_trans l8 (PH.le_trans xa.s lc), ?_⟩
          · simp only [ev0, ev, evV, List.cons_append, List.nil_append, List.getD_cons_zero, List.getD_cons_succ, List.map_cons, List.map_nil, iOf, bOf, sOf, pOf, slLen, slBase, cmpI, arI, Value.ite_bool, int_beq, int_bne, ite_band, ite_bor]
            rw [w64 (by omega) (by omega)]
            rfl
          · have : (List.zipWith bindD e.names (e.kids.map Xp.dat))[k]? = some (bindD a q) := by rw [List.getElem?_zipWith, ha, hq]
            rw [List.take_add_one, this]; exact hc
        · simp only [ev0, ev, evV, List.cons_append, List.nil_append, List.getD_cons_zero, List.getD_cons_succ, List.map_cons, List.map_nil, iOf, bOf, sOf, pOf, slLen, slBase, cmpI, arI, Value.ite_bool, int_beq, int_bne, ite_band, ite_bor, decide_eq_false_iff_not] at g
          have hkk : k = e.names.length := by omega
          subst hkk
          rw [List.take_of_length_le (by rw [hzl]; exact Nat.le_refl _)] at h8
          obtain ⟨S9, s9, l9, h9⟩ := h8.freeze
          obtain ⟨bb, bc, hlv⟩ := s9.sl
          refine den_hPush (more := [lstD (List.zipWith bindD e.names (e.kids.map Xp.dat))]) (b := 56) [.agg #[.int .i64 5, .int .i64 0, txt [], lv]] uDats elemDat rfl (by decide) (by decide) h9 (by kernel_rfl) (.cons (lst_rep s9) .nil) pendNil (fun _ => by kernel_rfl) (fun _ => by kernel_rfl)
            (by simp [maxLen]) (by simp) fun u va Sa Ha la ha => ⟨pendNil, ?_⟩
          have hs7 := s7.le (PH.le_trans l8 (PH.le_trans l9 la))
          have hcut := hs7.cut (a := e.names.length) (b := (e.kids.map Xp.dat).length) (by rw [hb]; omega) (Nat.le_refl _)
          rw [List.take_length] at hcut
          obtain ⟨ob1, oc1, rfl⟩ := hs7.sl
          have hcap := hs7.capLe
          refine ⟨fun _ => ?_, ?_⟩
          · simp only [Chk.holds, ev0, ev, evV, List.cons_append, List.nil_append, List.getD_cons_zero, List.getD_cons_succ, List.map_cons, List.map_nil, iOf, bOf, sOf, pOf, slLen, slBase, cmpI, arI, Value.ite_bool, int_beq, int_bne, ite_band, ite_bor, slCap]; rw [hb] at *; omega
          refine ⟨_, (lookup_miss (by decide)).trans lookup_hit, _, va, _, (e.kids.map Xp.dat).drop e.names.length, Sa, by simp only [ev0, ev, evV, List.cons_append, List.nil_append, List.getD_cons_zero, List.getD_cons_succ, List.map_cons, List.map_nil, iOf, bOf, sOf, pOf, slLen, slBase, cmpI, arI, Value.ite_bool, int_beq, int_bne, ite_band, ite_bor]; rfl, PH.le_trans l1 (PH.le_trans l7 (PH.le_trans l8 (PH.le_trans l9 la))), ha, hcut, ?_, by simp, by rw [List.length_drop, hb]; omega⟩
          rw [hdat, datOf, if_neg g1, if_neg g0, if_neg g2', if_neg g5, if_pos g8]; rfl
      · simp only [ev0, ev, evV, List.cons_append, List.nil_append, List.getD_cons_zero, List.getD_cons_succ, List.map_cons, List.map_nil, iOf, bOf, sOf, pOf, slLen, slBase, cmpI, arI, Value.ite_bool, int_beq, int_bne, ite_band, ite_bor, decide_eq_false_iff_not] at g8
        obtain ⟨S7, s7, l7, h7⟩ := (h5.perm (List.Perm.swap ..)).freeze
        refine ⟨_, lookup_hit, out, wv, _, e.kids.map Xp.dat, S7, by simp only [ev0, ev, evV, List.cons_append, List.nil_append, List.getD_cons_zero, List.getD_cons_succ, List.map_cons, List.map_nil, iOf, bOf, sOf, pOf, slLen, slBase, cmpI, arI, Value.ite_bool, int_beq, int_bne, ite_band, ite_bor], PH.le_trans l1 l7, h7, s7, ?_, by simp, by rw [hb]; exact fk⟩
        rw [hdat, datOf, if_neg g1, if_neg g0, if_neg g2', if_neg g5, if_neg g8]; rfl
    · refine ⟨fun g8 => ?_, fun g8 => ?_⟩
      · simp only [ev0, ev, evV, List.cons_append, List.nil_append, List.getD_cons_zero, List.getD_cons_succ, List.map_cons, List.map_nil, iOf, bOf, sOf, pOf, slLen, slBase, cmpI, arI, Value.ite_bool, int_beq, int_bne, ite_band, ite_bor, decide_eq_true_eq] at g8
        refine ⟨_, lookup_hit, ?_, rfl⟩
        simp only [ev0, ev, evV, List.cons_append, List.nil_append, List.getD_cons_zero, List.getD_cons_succ, List.map_cons, List.map_nil, iOf, bOf, sOf, pOf, slLen, slBase, cmpI, arI, Value.ite_bool, int_beq, int_bne, ite_band, ite_bor, g8]; rfl
      · simp only [ev0, ev, evV, List.cons_append, List.nil_append, List.getD_cons_zero, List.getD_cons_succ, List.map_cons, List.map_nil, iOf, bOf, sOf, pOf, slLen, slBase, cmpI, arI, Value.ite_bool, int_beq, int_bne, ite_band, ite_bor, decide_eq_false_iff_not] at g8
        refine ⟨_, lookup_hit, ?_, rfl⟩
        simp only [ev0, ev, evV, List.cons_append, List.nil_append, List.getD_cons_zero, List.getD_cons_succ, List.map_cons, List.map_nil, iOf, bOf, sOf, pOf, slLen, slBase, cmpI, arI, Value.ite_bool, int_beq, int_bne, ite_band, ite_bor]
        by_cases h9 : e.kind = 9
        · simp [h9]
        · by_cases h10 : e.kind = 10 <;> simp [g8, h9, h10]
end Go.Proofs.YtibinelkmlcmgaaGreatDoor.Vc
/-
  CORE: the document tells an expression's datum.
-/
namespace Go.Proofs.YtibinelkmlcmgaaGreatDoor.Vc
open Go

theorem RSym_gives (s : List UInt8) (H : PH) : Gives Tryz.prog n_scrimshawref06_Sym [txt s] H (.agg #[.int .i64 4, .int .i64 0, txt s, .slice none 0 0]) :=
  tri_scrimshawref06_Sym [txt s] rfl rfl ⟨rfl, PH.le_refl _⟩
theorem RList_gives (b : Option Addr) (n c : Nat) (H : PH) : Gives Tryz.prog n_scrimshawref06_List [.slice b n c] H (.agg #[.int .i64 5, .int .i64 0, txt [], .slice b n c]) :=
  tri_scrimshawref06_List [.slice b n c] rfl rfl ⟨rfl, PH.le_refl _⟩
theorem RWord_gives (k : Int) (h0 : 0 ≤ k) (h1 : k ≤ 10) (H : PH) : Gives Tryz.prog n_scrimshawref06_Word [.int .i64 k] H (txt (wordL k)) := by
  refine tri_scrimshawref06_Word [.int .i64 k] rfl rfl ?_
  have hall : ∀ w ∈ wordsL, w.length ≤ maxLen := by decide
  have hcs : ∀ l : List (List UInt8), (∀ w ∈ l, w.length ≤ maxLen) → All2 (fun (a : List UInt8) v => CsR H a (Value.cells v).toList) l (l.map txt) := by
    intro l
    induction l with
    | nil => intro _; exact .nil
    | cons w l ih => intro h; exact .cons ⟨_, _, rfl, ⟨rfl, h w (List.mem_cons_self ..)⟩, rfl⟩ (ih fun x hx => h x (List.mem_cons_of_mem _ hx))
  refine den_rowLit (l := wordsL) (b := 16) (wordsL.map txt) uTxts elemTxt rfl (by decide) (by decide) (PH.le_refl H) (by kernel_rfl) (hcs _ hall) pendNil fun v S1 H1 x1 s1 _ => ?_
  have hl : k.toNat < wordsL.length := by show _ < 11; omega
  obtain ⟨g1, _, ces, g2, g3⟩ := s1.get (List.getElem?_eq_getElem hl)
  obtain ⟨rfl, _⟩ := csTxts g2
  have hlen := s1.len
  have hk : ((k.toNat : Nat) : Int) = k := by omega
  rw [hk] at g3
  obtain ⟨b, c, rfl⟩ := s1.sl
  have e : wordsL[k.toNat] = wordL k := by rw [wordL, List.getD_eq_getElem?_getD, List.getElem?_eq_getElem hl]; rfl
  rw [e] at g3
  refine ⟨fun _ => ?_, [txt (wordL k)], rfl, by simp only [ev0, ev, evV, List.cons_append, List.nil_append, List.getD_cons_zero, List.getD_cons_succ, List.map_cons, List.map_nil, iOf, bOf, sOf, pOf, slLen, slBase, cmpI, arI, Value.ite_bool, int_beq, int_bne, ite_band, ite_bor]; exact rowAt_le x1.i g3, rfl, x1.h⟩
  simp only [Chk.holds, ev0, ev, evV, List.cons_append, List.nil_append, List.getD_cons_zero, List.getD_cons_succ, List.map_cons, List.map_nil, iOf, bOf, sOf, pOf, slLen, slBase, cmpI, arI, Value.ite_bool, int_beq, int_bne, ite_band, ite_bor]; exact ⟨g1, h0, by show k < 11; omega⟩
set_option maxHeartbeats 4000000 in
theorem RData_tri : ∀ e, ToldAt n_scrimshawref06_Data e := by
  refine Xp.ind fun e ih cs H he hok hfit => ?_
  obtain ⟨nb, db, kb, nc, dc, kc, rfl, hx⟩ := Xp.Rep.open he
  obtain ⟨fn, fk, ff⟩ := (Xp.fit_iff e).1 hfit
  obtain ⟨hform, hkids⟩ := Xp.okF_form hok
  obtain ⟨hk0, hk10⟩ := exForm_kind hform
  have hw := wordL_len e.kind
  have hwm : (wordL e.kind).length ≤ maxLen := by simp only [maxLen]; omega
  have hdat := Xp.dat_eq e
  have hb : ((e.kids.map Xp.dat).length : Nat) = e.kids.length := by simp
  refine tri_scrimshawref06_Data (exVs e nb db kb nc dc kc) (by kernel_rfl) (by kernel_rfl) ?_
  refine ⟨fun g1 => ?_, fun g1 => ?_⟩
  · simp only [ev0, ev, evV, List.cons_append, List.nil_append, List.getD_cons_zero, List.getD_cons_succ, List.map_cons, List.map_nil, iOf, bOf, sOf, pOf, slLen, slBase, cmpI, arI, Value.ite_bool, int_beq, int_bne, ite_band, ite_bor, decide_eq_true_eq] at g1
    refine den_gives [.int .i64 4, .int .i64 0, txt e.name, .slice none 0 0] cb_scrimshawref06_Sym (RSym_gives e.name H) rfl pendNil fun H6 q6 => ?_
    refine ⟨[.int .i64 4, .int .i64 0, txt e.name, .slice none 0 0], rfl, q6, ?_⟩
    rw [Xp.dat_eq, datOf, if_pos g1]
    exact sym_rep hx.name
  simp only [ev0, ev, evV, List.cons_append, List.nil_append, List.getD_cons_zero, List.getD_cons_succ, List.map_cons, List.map_nil, iOf, bOf, sOf, pOf, slLen, slBase, cmpI, arI, Value.ite_bool, int_beq, int_bne, ite_band, ite_bor, decide_eq_false_iff_not] at g1
  refine den_gives [txt (wordL e.kind)] cb_scrimshawref06_Word (RWord_gives e.kind hk0 hk10 H) rfl pendNil fun H2 q2 => ?_
  have h2 := (Held.nil (PH.le_refl H)).le q2
  refine den_gives [.int .i64 4, .int .i64 0, txt (wordL e.kind), .slice none 0 0] cb_scrimshawref06_Sym (RSym_gives (wordL e.kind) H2) rfl pendNil fun H3 q3 => ?_
  have h3 := h2.le q3
  refine den_hLit (l := [symD (wordL e.kind)]) (b := 56) [.agg #[.int .i64 4, .int .i64 0, txt (wordL e.kind), .slice none 0 0]] uDats elemDat rfl (by decide) (by decide) h3 (by kernel_rfl) (.cons (sym_rep hwm) .nil) pendNil fun wv H4 h4 _ _ => ?_
  obtain ⟨wb, wc, hwv⟩ := (h4.row (List.mem_cons_self ..)).sl
  refine den_hLit0 (α := Dat) (b := 56) uDats elemDat h4 pendNil fun kv H5 h5 _ _ => ?_
  refine ⟨fun n vs H' => ∃ (k : Nat) (out : Value) (S' : PH), vs = [out, .int .i64 k] ∧ k + n = e.kids.length ∧ PH.le H S' ∧ Held S' H' [orow 25 ((e.kids.take k).map Xp.dat) out, orow 25 [symD (wordL e.kind)] wv],
    ⟨e.kids.length, 0, kv, H, rfl, by omega, PH.le_refl _, h5⟩, ?_⟩
  rintro n vs H1 _ ⟨k, out, S1, rfl, hkn, l1, h1⟩
  refine ⟨fun g => ?_, fun g => ?_⟩
  · simp only [ev0, ev, evV, List.cons_append, List.nil_append, List.getD_cons_zero, List.getD_cons_succ, List.map_cons, List.map_nil, iOf, bOf, sOf, pOf, slLen, slBase, cmpI, arI, Value.ite_bool, int_beq, int_bne, ite_band, ite_bor, decide_eq_true_eq] at g
    obtain ⟨a, ha⟩ : ∃ a, e.kids[k]? = some a := ⟨_, List.getElem?_eq_getElem (show k < e.kids.length by omega)⟩
    obtain ⟨g1, _, ces, g2, g3⟩ := (hx.kids.le l1).get ha
    have hm := List.mem_of_getElem? ha
    have htags := Xp.Rep.tags g2
    have g2' := g2
    obtain ⟨nb', db', kb', nc', dc', kc', rfl, _⟩ := Xp.Rep.open g2'
    refine ⟨fun _ => ?_, _, htags, by simp only [ev0, ev, evV, List.cons_append, List.nil_append, List.getD_cons_zero, List.getD_cons_succ, List.map_cons, List.map_nil, iOf, bOf, sOf, pOf, slLen, slBase, cmpI, arI, Value.ite_bool, int_beq, int_bne, ite_band, ite_bor]; exact rowAt_le h1.sh g3, ?_⟩
    · simp only [Chk.holds, ev0, ev, evV, List.cons_append, List.nil_append, List.getD_cons_zero, List.getD_cons_succ, List.map_cons, List.map_nil, iOf, bOf, sOf, pOf, slLen, slBase, cmpI, arI, Value.ite_bool, int_beq, int_bne, ite_band, ite_bor]; exact ⟨g1, by omega, by omega⟩
    refine den_call cb_scrimshawref06_Data (h1.pure (R := fun x S' => ∃ cs, x = .returned (.agg cs.toArray) ∧ a.dat.Rep S' cs) ((ih a hm _ S1 g2 (hkids a hm) (ff a hm)).mono fun x S' hh => by obtain ⟨cs, q1, q2, q3⟩ := hh; exact ⟨q2, cs, q1, q3⟩)) ?_
    rintro x H2 ⟨S2, l2, h2, cs2, rfl, r2⟩
    have ht2 := Dat.Rep.tags r2
    have r2' := r2
    obtain ⟨sv2, rfl, _⟩ := Dat.Rep_iff.1 r2
    refine ⟨_, _, rfl, ht2, rfl, pendNil, ?_⟩
    refine den_hPush (more := [a.dat]) (b := 56) [.agg #[.int .i64 a.dat.kind, .int .i64 a.dat.int, txt a.dat.text, sv2]] uDats elemDat rfl (by decide) (by decide) h2 (by kernel_rfl) (.cons r2' .nil) pendNil (fun _ => by kernel_rfl) (fun _ => by kernel_rfl)
      (by rw [datsLen]; simp only [maxLen, List.length_cons, List.length_nil]; omega) (by rw [datsLen]; simp only [List.length_cons, List.length_nil]; omega) fun u v' S3 H3 l3 h3 => ⟨pendNil, _, lookup_hit, n - 1, by omega, k + 1, v', S3, ?_, by omega, PH.le_trans l1 (PH.le_trans l2 l3), ?_⟩
    · simp only [ev0, ev, evV, List.cons_append, List.nil_append, List.getD_cons_zero, List.getD_cons_succ, List.map_cons, List.map_nil, iOf, bOf, sOf, pOf, slLen, slBase, cmpI, arI, Value.ite_bool, int_beq, int_bne, ite_band, ite_bor]
      rw [w64 (by omega) (by omega)]
      rfl
    · rw [List.take_add_one, ha, List.map_append]; exact h3
  simp only [ev0, ev, evV, List.cons_append, List.nil_append, List.getD_cons_zero, List.getD_cons_succ, List.map_cons, List.map_nil, iOf, bOf, sOf, pOf, slLen, slBase, cmpI, arI, Value.ite_bool, int_beq, int_bne, ite_band, ite_bor, decide_eq_false_iff_not] at g
  have hkk : k = e.kids.length := by omega
  subst hkk
  rw [List.take_length] at h1
  clear h5 h4
  refine den_hLit0 (α := Dat) (b := 56) uDats elemDat h1 pendNil fun rv H5 h5 _ _ => ?_
  have h5 := h5.perm ((List.Perm.swap _ _ _).trans ((List.Perm.swap _ _ _).cons _))
  refine ⟨fun vs H' => ∃ (kv lv rv : Value) (L K : List Dat) (S' : PH), vs = [lv, kv, rv] ∧ tagsOk [.sl, .sl, .sl] vs = true ∧ PH.le H S' ∧ Held S' H' [orow 25 L lv] ∧ SlR S' K kv ∧ e.dat = lstD (L ++ K) ∧ L.length ≤ 4 ∧ K.length ≤ 1048576, ?_, ?_⟩
  · rintro vs H6 _ ⟨kv, lv, rv, L, K, S6, rfl, _, l6, h6, hK, hd, hL4, hK4⟩
    refine den_hApp (b := 56) (more := K) uDats elemDat (by kernel_rfl) (by kernel_rfl) h6 (hK.srcS h6.sh) (by simp only [maxLen]; omega) (by omega) fun v7 H7 h7 _ => ⟨pendNil, ?_⟩
    obtain ⟨S8, s8, l8, h8⟩ := h7.freeze
    obtain ⟨b8, c8, hv7⟩ := s8.sl
    refine den_gives [.int .i64 5, .int .i64 0, txt [], v7] cb_scrimshawref06_List (by rw [hv7]; exact RList_gives b8 _ c8 H7) (by rw [hv7]; rfl) pendNil fun H8 q8 => ?_
    refine ⟨[.int .i64 5, .int .i64 0, txt [], v7], rfl, PH.le_trans l6 (PH.le_trans l8 (h8.le q8).sh), ?_⟩
    rw [hd]
    exact lst_rep (s8.le (h8.le q8).sh)
  have fin : ∀ {L : List Dat} {v : Value} {S' H' : PH} {J : List Itm}, Held S' H' (orow 25 L v :: orow 25 (e.kids.map Xp.dat) out :: J) → ∃ S'', SlR S'' (e.kids.map Xp.dat) out ∧ PH.le S' S'' ∧ Held S'' H' [orow 25 L v] := by
    intro L v S' H' J h
    obtain ⟨S8, s8, l8, h8⟩ := (h.perm (List.Perm.swap _ _ _)).freeze
    exact ⟨S8, s8, l8, h8.sub (by simp)⟩
  have h5s := h5.perm (List.Perm.swap _ _ _)
  have tg : ∀ {x y z : Value} {l1 l2 l3 : Nat} {b1 b2 b3 : Option Addr} {c1 c2 c3 : Nat}, x = .slice b1 l1 c1 → y = .slice b2 l2 c2 → z = .slice b3 l3 c3 → tagsOk [.sl, .sl, .sl] [x, y, z] = true := by
    rintro x y z l1 l2 l3 b1 b2 b3 c1 c2 c3 rfl rfl rfl; rfl
  obtain ⟨rb, rc, hrv⟩ := (h5.row (l := ([] : List Dat)) (e := 25) (v := rv) (by simp)).sl
  refine ⟨fun g0 => ?_, fun g0 => ?_⟩
  · simp only [ev0, ev, evV, List.cons_append, List.nil_append, List.getD_cons_zero, List.getD_cons_succ, List.map_cons, List.map_nil, iOf, bOf, sOf, pOf, slLen, slBase, cmpI, arI, Value.ite_bool, int_beq, int_bne, ite_band, ite_bor, decide_eq_true_eq] at g0
    have hnil := exForm_quote hform g0
    have hc : e.const.Rep S1 [.int .i64 e.const.kind, .int .i64 e.const.int, txt e.const.text, .slice db e.const.list.length dc] := Dat.Rep.le l1 _ hx.const
    refine den_hPush (more := [e.const]) (b := 56) [.agg #[.int .i64 e.const.kind, .int .i64 e.const.int, txt e.const.text, .slice db e.const.list.length dc]] uDats elemDat rfl (by decide) (by decide) h5s (by kernel_rfl) (.cons hc .nil) pendNil (fun _ => by kernel_rfl) (fun _ => by kernel_rfl)
        (by simp [maxLen]) (by simp) fun u v7 S7 H7 l7 h7 => ⟨pendNil, ?_⟩
    obtain ⟨S8, s8, l8, h8⟩ := fin h7
    obtain ⟨b1, c1, e1⟩ := (h8.row (List.mem_cons_self ..)).sl
    obtain ⟨b2, c2, e2⟩ := s8.sl
    refine ⟨_, lookup_hit, out, v7, rv, _, e.kids.map Xp.dat, S8, by simp only [ev0, ev, evV, List.cons_append, List.nil_append, List.getD_cons_zero, List.getD_cons_succ, List.map_cons, List.map_nil, iOf, bOf, sOf, pOf, slLen, slBase, cmpI, arI, Value.ite_bool, int_beq, int_bne, ite_band, ite_bor], tg e1 e2 hrv, PH.le_trans l1 (PH.le_trans l7 l8), h8, s8, ?_, by simp, by rw [hb]; exact fk⟩
    rw [hdat, datOf, if_neg g1, if_pos g0, hnil]; rfl
  simp only [ev0, ev, evV, List.cons_append, List.nil_append, List.getD_cons_zero, List.getD_cons_succ, List.map_cons, List.map_nil, iOf, bOf, sOf, pOf, slLen, slBase, cmpI, arI, Value.ite_bool, int_beq, int_bne, ite_band, ite_bor, decide_eq_false_iff_not] at g0
  refine ⟨fun g2 => ?_, fun g2 => ?_⟩
  · simp only [ev0, ev, evV, List.cons_append, List.nil_append, List.getD_cons_zero, List.getD_cons_succ, List.map_cons, List.map_nil, iOf, bOf, sOf, pOf, slLen, slBase, cmpI, arI, Value.ite_bool, int_beq, int_bne, ite_band, ite_bor, ite_self] at g2
    have g2' : e.kind = 2 ∨ e.kind = 7 := by
      by_cases h : e.kind = 2
      · exact .inl h
      · right; simpa [h] using g2
    refine den_gives [.int .i64 4, .int .i64 0, txt e.name, .slice none 0 0] cb_scrimshawref06_Sym (RSym_gives e.name _) rfl pendNil fun H6 q6 => ?_
    refine den_hPush (more := [symD e.name]) (b := 56) [.agg #[.int .i64 4, .int .i64 0, txt e.name, .slice none 0 0]] uDats elemDat rfl (by decide) (by decide) (h5s.le q6) (by kernel_rfl) (.cons (sym_rep hx.name) .nil) pendNil (fun _ => by kernel_rfl) (fun _ => by kernel_rfl)
      (by simp [maxLen]) (by simp) fun u v7 S7 H7 l7 h7 => ⟨pendNil, ?_⟩
    obtain ⟨S8, s8, l8, h8⟩ := fin h7
    obtain ⟨b1, c1, e1⟩ := (h8.row (List.mem_cons_self ..)).sl
    obtain ⟨b2, c2, e2⟩ := s8.sl
    refine ⟨_, lookup_hit, out, v7, rv, _, e.kids.map Xp.dat, S8, by simp only [ev0, ev, evV, List.cons_append, List.nil_append, List.getD_cons_zero, List.getD_cons_succ, List.map_cons, List.map_nil, iOf, bOf, sOf, pOf, slLen, slBase, cmpI, arI, Value.ite_bool, int_beq, int_bne, ite_band, ite_bor], tg e1 e2 hrv, PH.le_trans l1 (PH.le_trans l7 l8), h8, s8, ?_, by simp, by rw [hb]; exact fk⟩
    rw [hdat, datOf, if_neg g1, if_neg g0, if_pos g2']; rfl
  have g2' : ¬ (e.kind = 2 ∨ e.kind = 7) := by
    rintro (h | h) <;> simp [ev0, ev, evV, List.cons_append, List.nil_append, List.getD_cons_zero, List.getD_cons_succ, List.map_cons, List.map_nil, iOf, bOf, sOf, pOf, slLen, slBase, cmpI, arI, Value.ite_bool, int_beq, int_bne, ite_band, ite_bor, h] at g2
  refine ⟨fun g5 => ?_, fun g5 => ?_⟩
  · simp only [ev0, ev, evV, List.cons_append, List.nil_append, List.getD_cons_zero, List.getD_cons_succ, List.map_cons, List.map_nil, iOf, bOf, sOf, pOf, slLen, slBase, cmpI, arI, Value.ite_bool, int_beq, int_bne, ite_band, ite_bor, decide_eq_true_eq] at g5
    have h5r : Held S1 _ [orow 25 ([] : List Dat) rv, orow 25 [symD (wordL e.kind)] wv, orow 25 (e.kids.map Xp.dat) out] := h5.perm (((List.Perm.swap _ _ _).cons _).trans ((List.Perm.swap _ _ _).trans ((List.Perm.swap _ _ _).cons _)))
    refine ⟨fun n vs H' => ∃ (k : Nat) (lv : Value) (S' : PH), vs = [lv, .int .i64 k] ∧ k + n = e.names.length ∧ PH.le H S' ∧ Held S' H' [orow 25 ((e.names.take k).map symD) lv, orow 25 [symD (wordL e.kind)] wv, orow 25 (e.kids.map Xp.dat) out],
      ⟨e.names.length, 0, rv, S1, by simp only [ev0, ev, evV, List.cons_append, List.nil_append, List.getD_cons_zero, List.getD_cons_succ, List.map_cons, List.map_nil, iOf, bOf, sOf, pOf, slLen, slBase, cmpI, arI, Value.ite_bool, int_beq, int_bne, ite_band, ite_bor]; rfl, by omega, l1, h5r⟩, ?_⟩
    rintro n vs H7 _ ⟨k, lv, S7, rfl, hkn, l7, h7⟩
    refine ⟨fun g => ?_, fun g => ?_⟩
    · simp only [ev0, ev, evV, List.cons_append, List.nil_append, List.getD_cons_zero, List.getD_cons_succ, List.map_cons, List.map_nil, iOf, bOf, sOf, pOf, slLen, slBase, cmpI, arI, Value.ite_bool, int_beq, int_bne, ite_band, ite_bor, decide_eq_true_eq] at g
      obtain ⟨a, ha⟩ : ∃ a, e.names[k]? = some a := ⟨_, List.getElem?_eq_getElem (show k < e.names.length by omega)⟩
      obtain ⟨g3, _, ces, g4, g6⟩ := (hx.names.le l7).get ha
      obtain ⟨rfl, hal⟩ := csTxts g4
      refine ⟨fun _ => ?_, [txt a], rfl, by simp only [ev0, ev, evV, List.cons_append, List.nil_append, List.getD_cons_zero, List.getD_cons_succ, List.map_cons, List.map_nil, iOf, bOf, sOf, pOf, slLen, slBase, cmpI, arI, Value.ite_bool, int_beq, int_bne, ite_band, ite_bor]; exact rowAt_le h7.sh g6, ?_⟩
      · simp only [Chk.holds, ev0, ev, evV, List.cons_append, List.nil_append, List.getD_cons_zero, List.getD_cons_succ, List.map_cons, List.map_nil, iOf, bOf, sOf, pOf, slLen, slBase, cmpI, arI, Value.ite_bool, int_beq, int_bne, ite_band, ite_bor]; exact ⟨g3, by omega, by omega⟩
      refine den_gives [.int .i64 4, .int .i64 0, txt a, .slice none 0 0] cb_scrimshawref06_Sym (RSym_gives a H7) rfl pendNil fun H8 q8 => ?_
      refine den_hPush (more := [symD a]) (b := 56) [.agg #[.int .i64 4, .int .i64 0, txt a, .slice none 0 0]] uDats elemDat rfl (by decide) (by decide) (h7.le q8) (by kernel_rfl) (.cons (sym_rep hal) .nil) pendNil (fun _ => by kernel_rfl) (fun _ => by kernel_rfl)
        (by simp only [maxLen, List.length_map, List.length_take, List.length_cons, List.length_nil]; omega) (by simp only [List.length_map, List.length_take, List.length_cons, List.length_nil]; omega) fun u v9 S9 H9 l9 h9 => ⟨pendNil, _, lookup_hit, n - 1, by omega, k + 1, v9, S9, ?_, by omega, PH.le_trans l7 l9, ?_⟩
      · simp only [ev0, ev, evV, List.cons_append, List.nil_append, List.getD_cons_zero, List.getD_cons_succ, List.map_cons, List.map_nil, iOf, bOf, sOf, pOf, slLen, slBase, cmpI, arI, Value.ite_bool, int_beq, int_bne, ite_band, ite_bor]
        rw [w64 (by omega) (by omega)]
        rfl
      · rw [List.take_add_one, ha, List.map_append]; exact h9
    · simp only [ev0, ev, evV, List.cons_append, List.nil_append, List.getD_cons_zero, List.getD_cons_succ, List.map_cons, List.map_nil, iOf, bOf, sOf, pOf, slLen, slBase, cmpI, arI, Value.ite_bool, int_beq, int_bne, ite_band, ite_bor, decide_eq_false_iff_not] at g
      have hkk : k = e.names.length := by omega
      subst hkk
      rw [List.take_length] at h7
      obtain ⟨S8, s8, l8, h8⟩ := h7.freeze
      obtain ⟨bb, bc, hlv⟩ := s8.sl
      refine den_gives [.int .i64 5, .int .i64 0, txt [], lv] cb_scrimshawref06_List (by rw [hlv]; exact RList_gives bb _ bc H7) (by rw [hlv]; rfl) pendNil fun H9 q9 => ?_
      refine den_hPush (more := [lstD (e.names.map symD)]) (b := 56) [.agg #[.int .i64 5, .int .i64 0, txt [], lv]] uDats elemDat rfl (by decide) (by decide) (h8.le q9) (by kernel_rfl) (.cons (lst_rep s8) .nil) pendNil (fun _ => by kernel_rfl) (fun _ => by kernel_rfl)
        (by simp [maxLen]) (by simp) fun u v9 S9 H9 l9 h9 => ⟨pendNil, ?_⟩
      obtain ⟨Sa, sa, la, ha⟩ := fin h9
      obtain ⟨b1, c1, e1⟩ := (ha.row (List.mem_cons_self ..)).sl
      obtain ⟨b2, c2, e2⟩ := sa.sl
      refine ⟨_, (lookup_miss (by decide)).trans lookup_hit, out, v9, lv, _, e.kids.map Xp.dat, Sa, by simp only [ev0, ev, evV, List.cons_append, List.nil_append, List.getD_cons_zero, List.getD_cons_succ, List.map_cons, List.map_nil, iOf, bOf, sOf, pOf, slLen, slBase, cmpI, arI, Value.ite_bool, int_beq, int_bne, ite_band, ite_bor], tg e1 e2 hlv, PH.le_trans l7 (PH.le_trans l8 (PH.le_trans l9 la)), ha, sa, ?_, by simp, by rw [hb]; exact fk⟩
      rw [hdat, datOf, if_neg g1, if_neg g0, if_neg g2', if_pos g5]; rfl
  simp only [ev0, ev, evV, List.cons_append, List.nil_append, List.getD_cons_zero, List.getD_cons_succ, List.map_cons, List.map_nil, iOf, bOf, sOf, pOf, slLen, slBase, cmpI, arI, Value.ite_bool, int_beq, int_bne, ite_band, ite_bor, decide_eq_false_iff_not] at g5
  refine ⟨fun vs H' => vs = [.bool (decide (e.kind = 8 ∨ e.kind = 9 ∨ e.kind = 10))] ∧ Held S1 H' [orow 25 (e.kids.map Xp.dat) out, orow 25 [symD (wordL e.kind)] wv, orow 25 ([] : List Dat) rv], ?_, ?_⟩
  · clear h5 h5s
    rintro vs H6 _ ⟨rfl, h5⟩
    refine ⟨fun g8 => ?_, fun g8 => ?_⟩
    · simp only [ev0, ev, evV, List.cons_append, List.nil_append, List.getD_cons_zero, List.getD_cons_succ, List.map_cons, List.map_nil, iOf, bOf, sOf, pOf, slLen, slBase, cmpI, arI, Value.ite_bool, int_beq, int_bne, ite_band, ite_bor, decide_eq_true_eq] at g8
      have hkl := exForm_lets hform g8
      obtain ⟨S7, s7, l7, h7⟩ := h5.freeze
      have h7 := h7.perm (List.Perm.swap _ _ _)
      refine ⟨fun n vs H' => ∃ (k : Nat) (lv : Value) (S' : PH), vs = [lv, .int .i64 k] ∧ k + n = e.names.length ∧ PH.le S7 S' ∧ Held S' H' [orow 25 ((List.zipWith bindD e.names (e.kids.map Xp.dat)).take k) lv, orow 25 [symD (wordL e.kind)] wv],
        ⟨e.names.length, 0, rv, S7, by simp only [ev0, ev, evV, List.cons_append, List.nil_append, List.getD_cons_zero, List.getD_cons_succ, List.map_cons, List.map_nil, iOf, bOf, sOf, pOf, slLen, slBase, cmpI, arI, Value.ite_bool, int_beq, int_bne, ite_band, ite_bor]; rfl, by omega, PH.le_refl _, h7⟩, ?_⟩
      rintro n vs H8 _ ⟨k, lv, S8, rfl, hkn, l8, h8⟩
      have hzl : (List.zipWith bindD e.names (e.kids.map Xp.dat)).length = e.names.length := by simp; omega
      refine ⟨fun g => ?_, fun g => ?_⟩
      · simp only [ev0, ev, evV, List.cons_append, List.nil_append, List.getD_cons_zero, List.getD_cons_succ, List.map_cons, List.map_nil, iOf, bOf, sOf, pOf, slLen, slBase, cmpI, arI, Value.ite_bool, int_beq, int_bne, ite_band, ite_bor, decide_eq_true_eq] at g
        obtain ⟨a, ha⟩ : ∃ a, e.names[k]? = some a := ⟨_, List.getElem?_eq_getElem (show k < e.names.length by omega)⟩
        obtain ⟨q, hq⟩ : ∃ q, (e.kids.map Xp.dat)[k]? = some q := ⟨_, List.getElem?_eq_getElem (show k < (e.kids.map Xp.dat).length by rw [hb]; omega)⟩
        obtain ⟨g3, _, ces, g4, g6⟩ := (hx.names.le (PH.le_trans l1 (PH.le_trans l7 l8))).get ha
        obtain ⟨rfl, hal⟩ := csTxts g4
        obtain ⟨p3, _, ces, p4, p6⟩ := (s7.le l8).get hq
        have pt := Dat.Rep.tags p4
        have p4' := p4
        obtain ⟨sq, rfl, _⟩ := Dat.Rep_iff.1 p4'
        obtain ⟨ob1, oc1, rfl⟩ := s7.sl
        refine ⟨fun _ => ?_, [txt a], rfl, by simp only [ev0, ev, evV, List.cons_append, List.nil_append, List.getD_cons_zero, List.getD_cons_succ, List.map_cons, List.map_nil, iOf, bOf, sOf, pOf, slLen, slBase, cmpI, arI, Value.ite_bool, int_beq, int_bne, ite_band, ite_bor]; exact rowAt_le h8.sh g6, fun _ => ?_, _, pt, by simp only [ev0, ev, evV, List.cons_append, List.nil_append, List.getD_cons_zero, List.getD_cons_succ, List.map_cons, List.map_nil, iOf, bOf, sOf, pOf, slLen, slBase, cmpI, arI, Value.ite_bool, int_beq, int_bne, ite_band, ite_bor]; exact rowAt_le h8.sh p6, ?_⟩
        · simp only [Chk.holds, ev0, ev, evV, List.cons_append, List.nil_append, List.getD_cons_zero, List.getD_cons_succ, List.map_cons, List.map_nil, iOf, bOf, sOf, pOf, slLen, slBase, cmpI, arI, Value.ite_bool, int_beq, int_bne, ite_band, ite_bor]; exact ⟨g3, by omega, by omega⟩
        · simp only [Chk.holds, ev0, ev, evV, List.cons_append, List.nil_append, List.getD_cons_zero, List.getD_cons_succ, List.map_cons, List.map_nil, iOf, bOf, sOf, pOf, slLen, slBase, cmpI, arI, Value.ite_bool, int_beq, int_bne, ite_band, ite_bor]; exact ⟨p3, by omega, by rw [hb]; omega⟩
        refine den_gives [.int .i64 4, .int .i64 0, txt a, .slice none 0 0] cb_scrimshawref06_Sym (RSym_gives a H8) rfl ?_ fun H9 q9 => ?_
        · intro x hx'
          rw [List.mem_singleton.1 hx']
          simp only [ev0, ev, evV, List.cons_append, List.nil_append, List.getD_cons_zero, List.getD_cons_succ, List.map_cons, List.map_nil, iOf, bOf, sOf, pOf, slLen, slBase, cmpI, arI, Value.ite_bool, int_beq, int_bne, ite_band, ite_bor]
          exact rowAt_le h8.sh p6
        have h9 := h8.le q9
        refine den_rowLit (l := [symD a, q]) (b := 56) [.agg #[.int .i64 4, .int .i64 0, txt a, .slice none 0 0], .agg #[.int .i64 q.kind, .int .i64 q.int, txt q.text, sq]] uDats elemDat rfl (by decide) (by decide) h9.sh (by kernel_rfl) (.cons (sym_rep hal) (.cons p4 .nil)) pendNil fun va Sa Ha xa sa _ => ?_
        have h10 := h9.ext xa
        obtain ⟨ba, ca, hva⟩ := sa.sl
        refine den_gives [.int .i64 5, .int .i64 0, txt [], va] cb_scrimshawref06_List (by rw [hva]; exact RList_gives ba _ ca Ha) (by rw [hva]; rfl) pendNil fun Hb qb => ?_
        refine den_hPush (more := [bindD a q]) (b := 56) [.agg #[.int .i64 5, .int .i64 0, txt [], va]] uDats elemDat rfl (by decide) (by decide) (h10.le qb) (by kernel_rfl) (.cons (lst_rep sa) .nil) pendNil (fun _ => by kernel_rfl) (fun _ => by kernel_rfl)
          (by simp only [maxLen, hzl, List.length_take, List.length_cons, List.length_nil]; omega) (by simp only [hzl, List.length_take, List.length_cons, List.length_nil]; omega) fun u vc Sc Hc lc hc => ⟨pendNil, _, lookup_hit, n - 1, by omega, k + 1, vc, Sc, ?_, by omega, PH.le_trans l8 (PH.le_trans xa.s lc), ?_⟩
        · simp only [ev0, ev, evV, List.cons_append, List.nil_append, List.getD_cons_zero, List.getD_cons_succ, List.map_cons, List.map_nil, iOf, bOf, sOf, pOf, slLen, slBase, cmpI, arI, Value.ite_bool, int_beq, int_bne, ite_band, ite_bor]
          rw [w64 (by omega) (by omega)]
          rfl
        · have : (List.zipWith bindD e.names (e.kids.map Xp.dat))[k]? = some (bindD a q) := by rw [List.getElem?_zipWith, ha, hq]
          rw [List.take_add_one, this]; exact hc
      · simp only [ev0, ev, evV, List.cons_append, List.nil_append, List.getD_cons_zero, List.getD_cons_succ, List.map_cons, List.map_nil, iOf, bOf, sOf, pOf, slLen, slBase, cmpI, arI, Value.ite_bool, int_beq, int_bne, ite_band, ite_bor, decide_eq_false_iff_not] at g
        have hkk : k = e.names.length := by omega
        subst hkk
        rw [List.take_of_length_le (by rw [hzl]; exact Nat.le_refl _)] at h8
        obtain ⟨S9, s9, l9, h9⟩ := h8.freeze
        obtain ⟨bb, bc, hlv⟩ := s9.sl
        refine den_gives [.int .i64 5, .int .i64 0, txt [], lv] cb_scrimshawref06_List (by rw [hlv]; exact RList_gives bb _ bc H8) (by rw [hlv]; rfl) pendNil fun H9 q9 => ?_
        refine den_hPush (more := [lstD (List.zipWith bindD e.names (e.kids.map Xp.dat))]) (b := 56) [.agg #[.int .i64 5, .int .i64 0, txt [], lv]] uDats elemDat rfl (by decide) (by decide) (h9.le q9) (by kernel_rfl) (.cons (lst_rep s9) .nil) pendNil (fun _ => by kernel_rfl) (fun _ => by kernel_rfl)
          (by simp [maxLen]) (by simp) fun u va Sa Ha la ha => ⟨pendNil, ?_⟩
        have hs7 := s7.le (PH.le_trans l8 (PH.le_trans l9 la))
        have hcut := hs7.cut (a := e.names.length) (b := (e.kids.map Xp.dat).length) (by rw [hb]; omega) (Nat.le_refl _)
        rw [List.take_length] at hcut
        obtain ⟨ob1, oc1, rfl⟩ := hs7.sl
        have hcap := hs7.capLe
        obtain ⟨b1, c1, e1⟩ := (ha.row (List.mem_cons_self ..)).sl
        obtain ⟨b2, c2, e2⟩ := hcut.sl
        refine ⟨fun _ => ?_, ?_⟩
        · simp only [Chk.holds, ev0, ev, evV, List.cons_append, List.nil_append, List.getD_cons_zero, List.getD_cons_succ, List.map_cons, List.map_nil, iOf, bOf, sOf, pOf, slLen, slBase, cmpI, arI, Value.ite_bool, int_beq, int_bne, ite_band, ite_bor, slCap]; rw [hb] at *; omega
        refine ⟨_, (lookup_miss (by decide)).trans lookup_hit, _, va, lv, _, (e.kids.map Xp.dat).drop e.names.length, Sa, by simp only [ev0, ev, evV, List.cons_append, List.nil_append, List.getD_cons_zero, List.getD_cons_succ, List.map_cons, List.map_nil, iOf, bOf, sOf, pOf, slLen, slBase, cmpI, arI, Value.ite_bool, int_beq, int_bne, ite_band, ite_bor]; rfl, tg e1 e2 hlv, PH.le_trans l1 (PH.le_trans l7 (PH.le_trans l8 (PH.le_trans l9 la))), ha, hcut, ?_, by simp, by rw [List.length_drop, hb]; omega⟩
        rw [hdat, datOf, if_neg g1, if_neg g0, if_neg g2', if_neg g5, if_pos g8]; rfl
    · simp only [ev0, ev, evV, List.cons_append, List.nil_append, List.getD_cons_zero, List.getD_cons_succ, List.map_cons, List.map_nil, iOf, bOf, sOf, pOf, slLen, slBase, cmpI, arI, Value.ite_bool, int_beq, int_bne, ite_band, ite_bor, decide_eq_false_iff_not] at g8
      obtain ⟨S7, s7, l7, h7⟩ := h5.freeze
      obtain ⟨b2, c2, e2⟩ := s7.sl
      refine ⟨_, lookup_hit, out, wv, rv, _, e.kids.map Xp.dat, S7, by simp only [ev0, ev, evV, List.cons_append, List.nil_append, List.getD_cons_zero, List.getD_cons_succ, List.map_cons, List.map_nil, iOf, bOf, sOf, pOf, slLen, slBase, cmpI, arI, Value.ite_bool, int_beq, int_bne, ite_band, ite_bor], tg hwv e2 hrv, PH.le_trans l1 l7, h7.sub ((List.nil_sublist _).cons_cons _), s7, ?_, by simp, by rw [hb]; exact fk⟩
      rw [hdat, datOf, if_neg g1, if_neg g0, if_neg g2', if_neg g5, if_neg g8]; rfl
  · refine ⟨fun g8 => ?_, fun g8 => ?_⟩
    · simp only [ev0, ev, evV, List.cons_append, List.nil_append, List.getD_cons_zero, List.getD_cons_succ, List.map_cons, List.map_nil, iOf, bOf, sOf, pOf, slLen, slBase, cmpI, arI, Value.ite_bool, int_beq, int_bne, ite_band, ite_bor, decide_eq_true_eq] at g8
      refine ⟨_, lookup_hit, ?_, h5⟩
      simp only [ev0, ev, evV, List.cons_append, List.nil_append, List.getD_cons_zero, List.getD_cons_succ, List.map_cons, List.map_nil, iOf, bOf, sOf, pOf, slLen, slBase, cmpI, arI, Value.ite_bool, int_beq, int_bne, ite_band, ite_bor, g8]; rfl
    · simp only [ev0, ev, evV, List.cons_append, List.nil_append, List.getD_cons_zero, List.getD_cons_succ, List.map_cons, List.map_nil, iOf, bOf, sOf, pOf, slLen, slBase, cmpI, arI, Value.ite_bool, int_beq, int_bne, ite_band, ite_bor, decide_eq_false_iff_not] at g8
      refine ⟨_, lookup_hit, ?_, h5⟩
      simp only [ev0, ev, evV, List.cons_append, List.nil_append, List.getD_cons_zero, List.getD_cons_succ, List.map_cons, List.map_nil, iOf, bOf, sOf, pOf, slLen, slBase, cmpI, arI, Value.ite_bool, int_beq, int_bne, ite_band, ite_bor]
      by_cases h9 : e.kind = 9
      · simp [h9]
      · by_cases h10 : e.kind = 10 <;> simp [g8, h9, h10]
end Go.Proofs.YtibinelkmlcmgaaGreatDoor.Vc
