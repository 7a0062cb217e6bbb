/-
  DATA: the writer: a character, a string.
-/
import Derived.Test.YtlnmmakbgldflaaGreatDoorDk
set_option linter.unusedSimpArgs false
set_option linter.unusedVariables false
set_option maxRecDepth 100000
namespace Go.Proofs.YtlnmmakbgldflaaGreatDoor.Vc
open Go

/-- a row of bytes hangs on no other memory -/
theorem bytes_any {H H' : PH} : ∀ {l : List UInt8} {xs : List Value}, PV.RepRow H (l.flatMap pv) xs → PV.RepRow H' (l.flatMap pv) xs
  | [], xs, h => by simp only [List.flatMap_nil, PV.RepRow] at h ⊢; exact h
  | c :: l, xs, h => by
    rw [List.flatMap_cons] at h ⊢
    have h' : PV.RepRow H (.int .u8 (c.toNat : Int) :: l.flatMap pv) xs := h
    show PV.RepRow H' (.int .u8 (c.toNat : Int) :: l.flatMap pv) xs
    simp only [PV.RepRow, PV.Rep] at h' ⊢
    obtain ⟨v, vs, rfl, h1, h2⟩ := h'
    exact ⟨v, vs, rfl, h1, bytes_any h2⟩
/-- THE WRITER's STATE: at w lies its row of bytes, and whether it writes bare; what is in H0 stands. -/
structure WSv (H0 H : PH) (w : Nat) (T : TypeId) (out : List UInt8) (bare : Bool) (bv : Value) : Prop where
  at_ : H w = some (.cells #[bv, .bool bare] T (0, 0))
  acc : Acc H0 H 5 out bv
  own : ob bv ≠ some w
  base : H0 w = none
def WS (H0 H : PH) (w : Nat) (T : TypeId) (out : List UInt8) (bare : Bool) : Prop := ∃ bv, WSv H0 H w T out bare bv

section
variable {H0 H : PH} {w : Nat} {T : TypeId} {out : List UInt8} {bare : Bool} {bv : Value}
theorem WSv.row (h : WSv H0 H w T out bare bv) : rowAt H ((some ⟨w, 0, none⟩ : Option Addr).map (·.add 0)) [bv] := ⟨_, rfl, fun i v hi => by
  show H.cell? ((Addr.add ⟨w, 0, none⟩ 0).add i) = _
  rw [Addr.add_plain, Addr.add_plain, PH.cell_at h.at_]
  cases i with
  | zero => simpa using hi
  | succ i => simp at hi⟩
theorem WSv.row1 (h : WSv H0 H w T out bare bv) : rowAt H ((some ⟨w, 0, none⟩ : Option Addr).map (·.add 1)) [.bool bare] := ⟨_, rfl, fun i v hi => by
  show H.cell? ((Addr.add ⟨w, 0, none⟩ 1).add i) = _
  rw [Addr.add_plain, Addr.add_plain, PH.cell_at h.at_]
  cases i with
  | zero => simpa using hi
  | succ i => simp at hi⟩
theorem WSv.tag (h : WSv H0 H w T out bare bv) : tagsOk [.sl] [bv] = true := by
  obtain ⟨b, c, rfl⟩ := h.acc.sl; rfl
theorem WSv.mono {H' : PH} (h : WSv H0 H w T out bare bv) (hl : PH.le H H') : WSv H0 H' w T out bare bv := ⟨hl _ _ h.at_, h.acc.mono hl, h.own, h.base⟩
theorem WSv.store {H' : PH} {v' : Value} {out' : List UInt8} (h : WSv H0 H w T out bare bv) (ha : Acc H0 H' 5 out' v') (hw : Went H H' bv v') : WS H0 (H'.upd w (.cells #[v', .bool bare] T (0, 0))) w T out' bare := by
  have hne : ob v' ≠ some w := fun e => (hw.fresh w e).elim h.own fun hn => by rw [h.at_] at hn; cases hn
  refine ⟨v', PH.upd_same, ⟨?_, ?_⟩, hne, h.base⟩
  · intro k o hk
    have hkw : k ≠ w := fun e => by rw [e, h.base] at hk; cases hk
    have := ha.le k o hk
    unfold delV at this ⊢
    cases hv' : ob v' with
    | none => rw [hv'] at this; show (H'.upd w _) k = _; rw [PH.upd_other hkw]; exact this
    | some g =>
      rw [hv'] at this
      show ((H'.upd w _).del g) k = _
      have this' : (H'.del g) k = some o := this
      unfold PH.del at this' ⊢
      split at this'
      · cases this'
      · rename_i e; rw [if_neg e, PH.upd_other hkw]; exact this'
  · obtain ⟨xs, h1, h2⟩ := ha.own
    exact ⟨xs, h1.le fun k hk => PH.upd_other fun e => hne (by rw [hk, e]), bytes_any h2⟩
theorem WSv.at' {H' : PH} {v' : Value} (h : WSv H0 H w T out bare bv) (hw : Went H H' bv v') : H' w = some (.cells #[bv, .bool bare] T (0, 0)) := hw.keep w _ h.at_ fun e => h.own e.symm

variable {X : List PanicEntry → PH → Prop} {β : Type} {E : List Value} {L : LK} {K : β → List Value → PH → LK → Prop}
theorem den_wload {k : Fm β} (hE : E.getD 0 (.bool false) = .pointer (some ⟨w, 0, none⟩)) (h : WS H0 H w T out bare) (hk : ∀ bv, WSv H0 H w T out bare bv → den Tryz.prog X k (E ++ [bv]) H L K) :
    den Tryz.prog X (.load (.padd (.atom 0) 0) [.sl] k) E H L K := by
  obtain ⟨bv, h⟩ := h
  refine ⟨[bv], h.tag, ?_, hk bv h⟩
  simp only [ev0, ev, hE, pOf]
  exact h.row
theorem den_wstore {k : Fm β} {H' : PH} {v' : Value} {out' : List UInt8} {m : Nat} (hE : E.getD 0 (.bool false) = .pointer (some ⟨w, 0, none⟩)) (hm : E.getD m (.bool false) = v') (h : WSv H0 H w T out bare bv) (ha : Acc H0 H' 5 out' v') (hw : Went H H' bv v')
    (hk : ∀ H'', WS H0 H'' w T out' bare → PH.le (H'.del w) (H''.del w) → den Tryz.prog X k E H'' L K) : den Tryz.prog X (.store (.padd (.atom 0) 0) [.atom m] k) E H' L K := by
  refine ⟨⟨w, 0, none⟩, by simp only [ev0, ev, hE, pOf]; rfl, ?_⟩
  have hoc : oneC v' = true := by obtain ⟨b, c, rfl⟩ := ha.sl; rfl
  refine wpS_storeCells _ 0 0 #[bv, .bool bare] H' (h.at' hw) (by simp) (by simp [ev0, ev, -List.getD_eq_getElem?_getD, hm, hoc]) ?_
  have : splice #[bv, .bool bare] (0 + 0) ([SV.atom m].map (ev0 E)) = #[v', .bool bare] := by
    simp only [List.map_cons, List.map_nil, ev0, ev, hm]; rfl
  rw [this]
  exact hk _ (h.store ha hw) (by rw [PH.del_upd]; exact PH.le_refl _)
/-- bytes, laid, appended, stored -/
theorem den_wpush {k : Fm β} {n : Nat} {ty ty2 : TypeId} {ps : Array (Nat × Operand)} {args args2 : List (Nat × VE)} {pend : List (SV × List SV)} {x y : Operand} {m : Nat} (more : List UInt8) (hE : E.getD 0 (.bool false) = .pointer (some ⟨w, 0, none⟩)) (h : WSv H0 H w T out bare bv)
    (hn : more.length = n) (h0 : n ≠ 0) (hle : n ≤ 16777216) (hps : ps.toList.map (fun x => (x.1, argEv E args x.2)) = idxs 0 (more.map encB)) (hp : pendOk E H pend)
    (hx : ∀ u, argEv (E ++ [u]) args2 x = bv) (hy : ∀ u, argEv (E ++ [u]) args2 y = u) (hm : ∀ u v', (E ++ [u] ++ [v']).getD m (.bool false) = v') (hl : (out ++ more).length ≤ 1099511627776)
    (hk : ∀ u v' H', WS H0 H' w T (out ++ more) bare → den Tryz.prog X k (E ++ [u] ++ [v']) H' L K) :
    den Tryz.prog X (.sem (.buildSlice 39 n ps) ty args (.sc .sl) pend (.sem (.call ⟨.builtin .append, #[x, y], #[39, 39]⟩) ty2 args2 (.sc .sl) [] (.store (.padd (.atom 0) 0) [.atom m] k))) E H L K := by
  have hlen : 0 < E.length := by
    cases E with
    | nil => simp at hE
    | cons a l => simp
  have hvs : ∀ (H' : PH) (more : List UInt8), All2 (fun a v' => CsR H' a v'.cells.toList) more (more.map encB) := fun H' more => by
    induction more with
    | nil => exact .nil
    | cons c l ih =>
      refine .cons ?_ ih
      have := txt_row (H := H') [c]
      simp only [List.flatMap_cons, List.flatMap_nil, List.append_nil] at this
      exact this
  rw [List.length_append] at hl
  refine den_push (more := more) (b := 1) (H0 := H0) (e := 5) (l := out) (v := bv) (more.map encB) uBytes elemByte hn (by show n * 1 ≠ 0; omega) (by show n * 1 ≤ 2 ^ 24; omega) hps (hvs _ _) hp h.acc hx hy (by simp only [maxLen]; omega) (by omega) fun u v' H' g3 g4 => ⟨pendNil, ?_⟩
  refine den_wstore (v' := v') ?_ (hm u v') h g3 g4 fun H'' h1 _ => hk u v' H'' h1
  rw [List.append_assoc, List.getD_eq_getElem?_getD, List.getElem?_append_left hlen, ← List.getD_eq_getElem?_getD]; exact hE
/-- a text, appended, stored -/
theorem den_wtext {k : Fm β} {ty2 : TypeId} {args2 : List (Nat × VE)} {x y : Operand} {m : Nat} (more : List UInt8) (hE : E.getD 0 (.bool false) = .pointer (some ⟨w, 0, none⟩)) (h : WSv H0 H w T out bare bv)
    (hx : argEv E args2 x = bv) (hy : argEv E args2 y = txt more) (hm : ∀ v', (E ++ [v']).getD m (.bool false) = v') (hl : (out ++ more).length ≤ 1099511627776)
    (hk : ∀ v' H', WS H0 H' w T (out ++ more) bare → den Tryz.prog X k (E ++ [v']) H' L K) :
    den Tryz.prog X (.sem (.call ⟨.builtin .append, #[x, y], #[39, 9]⟩) ty2 args2 (.sc .sl) [] (.store (.padd (.atom 0) 0) [.atom m] k)) E H L K := by
  have hlen : 0 < E.length := by
    cases E with
    | nil => simp at hE
    | cons a l => simp
  rw [List.length_append] at hl
  refine den_appendTxt (H0 := H0) (e := 5) (l := out) (more := more) uBytes uString elemByte hx hy h.acc (by omega) fun v' H' g3 g4 => ⟨pendNil, ?_⟩
  refine den_wstore (v' := v') ?_ (hm v') h g3 g4 fun H'' h1 _ => hk v' H'' h1
  rw [List.getD_eq_getElem?_getD, List.getElem?_append_left hlen, ← List.getD_eq_getElem?_getD]; exact hE
end

theorem hex_shr (c : UInt8) : arI .shr .u8 (c.toNat : Int) 4 = ((c.toNat / 16 : Nat) : Int) := by
  have : (c.toNat : Int).fdiv 16 = ((c.toNat / 16 : Nat) : Int) := by
    rw [Int.fdiv_eq_ediv_of_nonneg _ (by omega)]; omega
  simpa [arI, IntKind.bits] using this
theorem hex_and (c : UInt8) : arI .and .u8 (c.toNat : Int) 15 = ((c.toNat % 16 : Nat) : Int) := by
  have : ∀ n : Fin 256, arI .and .u8 (n.val : Int) 15 = ((n.val % 16 : Nat) : Int) := by decide +kernel
  exact this ⟨c.toNat, UInt8.toNat_lt c⟩
theorem hex_at (a : Nat) (h : a < 16) : ((⟨#[48, 49, 50, 51, 52, 53, 54, 55, 56, 57, 97, 98, 99, 100, 101, 102]⟩ : ByteArray)[((a : Nat) : Int).toNat]?).getD 0 = hexB a :=
  get_txt (l := hexL) (by rw [hexB, List.getD_eq_getElem?_getD, List.getElem?_eq_getElem (show a < hexL.length from h)]; rfl)

theorem wchar_tri (c : UInt8) (H0 H : PH) (w : Nat) (T : TypeId) (out : List UInt8) (bare : Bool) (h : WS H0 H w T out bare) (hl : (out ++ if bare then [c] else charL c).length ≤ 1099511627776) :
    Tri Tryz.prog n_data_writer__char #[.pointer (some ⟨w, 0, none⟩), .int .u8 c.toNat] H fun e H' => e = .returned (.tuple #[]) ∧ WS H0 H' w T (out ++ if bare then [c] else charL c) bare := by
  refine tri_data_writer__char [.pointer (some ⟨w, 0, none⟩), .int .u8 c.toNat] (by kernel_rfl) (by kernel_rfl) ?_
  have e32 : ((c.toNat : Int) = 32) ↔ c = 32 := u8_eq_lit c 32 (by omega)
  have e10 : ((c.toNat : Int) = 10) ↔ c = 10 := u8_eq_lit c 10 (by omega)
  have g1 := UInt8.lt_iff_toNat_lt (a := 32) (b := c)
  have g2 := UInt8.lt_iff_toNat_lt (a := c) (b := 127)
  have t32 : (32 : UInt8).toNat = 32 := rfl
  have t127 : (127 : UInt8).toNat = 127 := rfl
  rw [t32] at g1
  rw [t127] at g2
  have hc := UInt8.toNat_lt c
  obtain ⟨bv0, h0⟩ := id h
  refine ⟨fun _ => rfl, [.bool bare], rfl, h0.row1, fun hb => ?_, fun hb => ?_⟩
  · have hb : bare = true := hb
    subst hb
    refine den_wload rfl h fun bv hv => den_wpush [c] rfl hv rfl (by decide) (by decide) rfl pendNil (fun _ => rfl) (fun _ => rfl) (fun _ _ => rfl) (by simpa using hl) fun u v' H' h1 => ⟨rfl, h1⟩
  have hb : bare = false := hb
  subst hb
  simp only [Bool.false_eq_true, if_false] at hl ⊢
  refine ⟨fun h2 => ?_, fun h2 => ?_⟩
  · simp only [ev0, ev, evV, List.cons_append, List.nil_append, List.getD_cons_zero, List.getD_cons_succ, List.map_cons, List.map_nil, iOf, bOf, sOf, pOf, slLen, slBase, cmpI, arI, Value.ite_bool, int_beq, int_bne, ite_band, ite_bor, decide_eq_true_eq] at h2
    have hch : charL c = [35, 92, 115, 112, 97, 99, 101] := by rw [charL, if_pos (e32.1 h2)]
    rw [hch] at hl ⊢
    refine den_wload rfl h fun bv hv => den_wtext [35, 92, 115, 112, 97, 99, 101] rfl hv rfl rfl (fun _ => rfl) hl fun v' H' h1 => ⟨rfl, h1⟩
  simp only [ev0, ev, evV, List.cons_append, List.nil_append, List.getD_cons_zero, List.getD_cons_succ, List.map_cons, List.map_nil, iOf, bOf, sOf, pOf, slLen, slBase, cmpI, arI, Value.ite_bool, int_beq, int_bne, ite_band, ite_bor, decide_eq_false_iff_not] at h2
  have h2' : ¬ c = 32 := fun x => h2 (e32.2 x)
  refine ⟨fun h3 => ?_, fun h3 => ?_⟩
  · simp only [ev0, ev, evV, List.cons_append, List.nil_append, List.getD_cons_zero, List.getD_cons_succ, List.map_cons, List.map_nil, iOf, bOf, sOf, pOf, slLen, slBase, cmpI, arI, Value.ite_bool, int_beq, int_bne, ite_band, ite_bor, decide_eq_true_eq] at h3
    have hch : charL c = [35, 92, 110, 101, 119, 108, 105, 110, 101] := by rw [charL, if_neg h2', if_pos (e10.1 h3)]
    rw [hch] at hl ⊢
    refine den_wload rfl h fun bv hv => den_wtext [35, 92, 110, 101, 119, 108, 105, 110, 101] rfl hv rfl rfl (fun _ => rfl) hl fun v' H' h1 => ⟨rfl, h1⟩
  simp only [ev0, ev, evV, List.cons_append, List.nil_append, List.getD_cons_zero, List.getD_cons_succ, List.map_cons, List.map_nil, iOf, bOf, sOf, pOf, slLen, slBase, cmpI, arI, Value.ite_bool, int_beq, int_bne, ite_band, ite_bor, decide_eq_false_iff_not] at h3
  have h3' : ¬ c = 10 := fun x => h3 (e10.2 x)
  refine ⟨fun h4 => ?_, fun h4 => ?_⟩
  · simp only [ev0, ev, evV, List.cons_append, List.nil_append, List.getD_cons_zero, List.getD_cons_succ, List.map_cons, List.map_nil, iOf, bOf, sOf, pOf, slLen, slBase, cmpI, arI, Value.ite_bool, int_beq, int_bne, ite_band, ite_bor] at h4
    simp at h4
    have h4' : 32 < c ∧ c < 127 := ⟨g1.2 (by omega), g2.2 (by omega)⟩
    have hch : charL c = [35, 92, c] := by rw [charL, if_neg h2', if_neg h3', if_pos h4']
    rw [hch] at hl ⊢
    refine den_wload rfl h fun bv hv => den_wpush [35, 92, c] rfl hv rfl (by decide) (by decide) rfl pendNil (fun _ => rfl) (fun _ => rfl) (fun _ _ => rfl) hl fun u v' H' h1 => ⟨rfl, h1⟩
  · simp only [ev0, ev, evV, List.cons_append, List.nil_append, List.getD_cons_zero, List.getD_cons_succ, List.map_cons, List.map_nil, iOf, bOf, sOf, pOf, slLen, slBase, cmpI, arI, Value.ite_bool, int_beq, int_bne, ite_band, ite_bor] at h4
    have h4' : ¬ (32 < c ∧ c < 127) := fun x => by
      have a1 := g1.1 x.1
      have a2 := g2.1 x.2
      simp at h4; omega
    have hch : charL c = [35, 92, 120] ++ twoL c := by rw [charL, if_neg h2', if_neg h3', if_neg h4']
    rw [hch] at hl ⊢
    have hq : c.toNat / 16 < 16 := by omega
    have hr : c.toNat % 16 < 16 := by omega
    have s16 : (⟨#[48, 49, 50, 51, 52, 53, 54, 55, 56, 57, 97, 98, 99, 100, 101, 102]⟩ : ByteArray).size = 16 := rfl
    refine den_wload rfl h fun bv hv => ⟨fun _ => ?_, fun _ => ?_, den_wpush ([35, 92, 120] ++ twoL c) rfl hv rfl (by decide) (by decide) ?_ ?_ (fun _ => rfl) (fun _ => rfl) (fun _ _ => rfl) hl fun u v' H' h1 => ⟨rfl, h1⟩⟩
    · simp only [Chk.holds, ev0, ev, List.cons_append, List.getD_cons_succ, List.getD_cons_zero, iOf, sOf, hex_shr, s16]; omega
    · simp only [Chk.holds, ev0, ev, List.cons_append, List.getD_cons_succ, List.getD_cons_zero, iOf, sOf, hex_and, s16]; omega
    · have x1 := hex_at _ hq
      have x2 := hex_at _ hr
      simp only [argEv, List.lookup, evV, ev, List.map_cons, List.map_nil, List.cons_append, List.nil_append, List.getD_cons_succ, List.getD_cons_zero, iOf, sOf, hex_shr, hex_and, twoL, idxs]
      simp only [show ((11 : Nat) == 11) = true from rfl, show ((14 : Nat) == 11) = false from rfl, show ((14 : Nat) == 14) = true from rfl, evV, ev, iOf, sOf, List.getD_cons_succ, List.getD_cons_zero, hex_shr, hex_and, x1, x2]
      rfl
    · intro x hx
      simp only [List.mem_singleton] at hx
      subst hx
      exact hv.row
end Go.Proofs.YtlnmmakbgldflaaGreatDoor.Vc

