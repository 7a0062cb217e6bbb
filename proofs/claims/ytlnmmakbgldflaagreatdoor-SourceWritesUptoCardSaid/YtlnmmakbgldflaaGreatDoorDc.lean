/-
  DATA: the program's own test of a datum's fields.
-/
import Derived.Test.YtlnmmakbgldflaaGreatDoorDb
set_option linter.unusedSimpArgs false
set_option linter.unusedVariables false
set_option maxRecDepth 100000
namespace Go.Proofs.YtlnmmakbgldflaaGreatDoor.Vc
open Go

theorem and_mask (n : Int) (k : Nat) (hk : k ≤ 62) : arI .and .i64 n ((2 ^ k - 1 : Nat) : Int) = n % (2 ^ k : Nat) := by
  have hpos : 0 < 2 ^ k := Nat.two_pow_pos k
  have hle : 2 ^ k ≤ 2 ^ 62 := Nat.pow_le_pow_right (by omega) hk
  show IntKind.i64.wrap (((BitVec.ofInt 64 n &&& BitVec.ofInt 64 ((2 ^ k - 1 : Nat) : Int)).toNat : Nat) : Int) = _
  rw [BitVec.toNat_and, BitVec.toNat_ofInt, BitVec.toNat_ofInt]
  have e1 : ((((2 ^ k - 1 : Nat) : Int)) % ((2 ^ 64 : Nat) : Int)).toNat = 2 ^ k - 1 := by omega
  rw [e1, Nat.and_two_pow_sub_one_eq_mod]
  have e2 : (((n % ((2 ^ 64 : Nat) : Int)).toNat % 2 ^ k : Nat) : Int) = n % (2 ^ k : Nat) := by
    rw [Int.natCast_emod, Int.toNat_of_nonneg (by omega)]
    refine Int.emod_emod_of_dvd _ ?_
    exact Int.natCast_dvd_natCast.2 (Nat.pow_dvd_pow 2 (by omega))
  rw [e2]
  have := Int.emod_lt_of_pos n (show (0 : Int) < (2 ^ k : Nat) by omega)
  have := Int.emod_nonneg n (show ((2 ^ k : Nat) : Int) ≠ 0 by omega)
  exact w64 (by omega) (by omega)
theorem and_1 (n : Int) : arI .and .i64 n 1 = n % 2 := and_mask n 1 (by omega)
theorem and_255 (n : Int) : arI .and .i64 n 255 = n % 256 := and_mask n 8 (by omega)

def dInts (d : Dat) : Int :=
  if d.kind = 0 then d.int % 2 else if d.kind = 1 then (if 1152921504606846975 < (if -1152921504606846976 > d.int then -1152921504606846976 else d.int) then 1152921504606846975 else (if -1152921504606846976 > d.int then -1152921504606846976 else d.int))
  else if d.kind = 2 then d.int % 256 else 0
def dTexts (d : Dat) : List UInt8 := if d.kind = 3 then d.text.take (min d.text.length 4096) else if d.kind = 4 then d.text else []
def dBad (d : Dat) : Bool := if d.int ≠ dInts d ∨ d.text ≠ dTexts d then true else if 0 < d.list.length then !nested d.kind else false
def lastOk (d : Dat) : Bool := match d.list[d.list.length - 1]? with | some e => decide (e.kind ≠ 5) && decide (e.kind ≠ 6) | none => false
def dForm (d : Dat) : Bool := if dBad d then false else if d.kind = 4 then nameOk d.text else if d.kind = 6 then (if 1 < d.list.length then lastOk d else false) else decide (0 ≤ d.kind) && decide (d.kind < 8)
theorem isEmpty_iff_len {α : Type} (l : List α) : l.isEmpty = !decide (0 < l.length) := by cases l <;> simp
theorem dForm_eq (d : Dat) : dForm d = formOk d := by
  obtain ⟨k, n, t, l⟩ := d
  simp only [dForm, formOk, dBad, dInts, dTexts, Dat.kind, Dat.int, Dat.text, Dat.list, isEmpty_iff_len, nested, lastOk]
  have htk : t = t.take (min t.length 4096) ↔ t.length ≤ 4096 := by
    constructor
    · intro h
      have := congrArg List.length h
      simp at this; omega
    · intro h
      rw [Nat.min_eq_left h, List.take_length]
  have hne : t = [] ∨ 0 < t.length := by cases t <;> simp
  by_cases h0 : k = 0
  · subst h0; simp; grind
  by_cases h1 : k = 1
  · subst h1; simp; grind
  by_cases h2 : k = 2
  · subst h2; simp; grind
  by_cases h3 : k = 3
  · subst h3; simp; grind
  by_cases h4 : k = 4
  · subst h4; simp; grind
  by_cases h5 : k = 5
  · subst h5; simp; grind
  by_cases h7 : k = 7
  · subst h7; simp; grind
  by_cases h6 : k = 6
  · subst h6; simp; grind
  · simp [h0, h1, h2, h3, h4, h5, h7, h6]; grind

theorem txt_take (l : List UInt8) (n : Nat) : (⟨l.toArray⟩ : ByteArray).extract 0 n = ⟨(l.take n).toArray⟩ := by rw [extract_txt]; simp
theorem DForm_gives (d : Dat) {cs : List Value} (H : PH) (hd : d.Rep H cs) : Gives Tryz.prog n_data_form [.agg cs.toArray] H (.bool (formOk d)) := by
  rw [← dForm_eq]
  obtain ⟨sv, rfl, hk, hn, ht, hs⟩ := Dat.Rep_iff.1 hd
  obtain ⟨b, c, rfl⟩ := hs.sl
  refine tri_data_form [.int .i64 d.kind, .int .i64 d.int, txt d.text, .slice b d.list.length c] (by kernel_rfl) (by kernel_rfl) ?_
  have hlen : d.list.length ≤ maxLen := hs.max
  simp only [maxLen] at hlen ht
  refine ⟨fun vs H' => vs = [.int .i64 (dInts d), txt (dTexts d)] ∧ PH.le H H', ?_, ?_⟩
  · rintro vs H1 _ ⟨rfl, hl1⟩
    refine ⟨fun vs H' => vs = [.bool (dBad d)] ∧ PH.le H H', ?_, ?_⟩
    · rintro vs H2 _ ⟨rfl, hl2⟩
      refine ⟨fun hb => ?_, fun hb => ?_⟩
      · simp only [ev0, ev, evV, List.cons_append, List.nil_append, List.getD_cons_zero, List.getD_cons_succ, List.map_cons, List.map_nil, iOf, bOf, sOf, pOf, slLen, slBase, cmpI, arI, Value.ite_bool, int_beq, int_bne, ite_band, ite_bor] at hb
        refine ⟨?_, hl2⟩
        simp only [dForm, hb, if_true]; rfl
      simp only [ev0, ev, evV, List.cons_append, List.nil_append, List.getD_cons_zero, List.getD_cons_succ, List.map_cons, List.map_nil, iOf, bOf, sOf, pOf, slLen, slBase, cmpI, arI, Value.ite_bool, int_beq, int_bne, ite_band, ite_bor] at hb
      refine ⟨fun h4 => ?_, fun h4 => ?_⟩
      · simp only [ev0, ev, evV, List.cons_append, List.nil_append, List.getD_cons_zero, List.getD_cons_succ, List.map_cons, List.map_nil, iOf, bOf, sOf, pOf, slLen, slBase, cmpI, arI, Value.ite_bool, int_beq, int_bne, ite_band, ite_bor, decide_eq_true_eq] at h4
        refine den_gives [.bool (nameOk d.text)] cb_data_Name (Name_gives d.text (by simp only [maxLen]; omega) H2) rfl pendNil fun H3 h3 => ?_
        refine ⟨?_, PH.le_trans hl2 h3⟩
        simp only [dForm, hb, Bool.false_eq_true, if_false, if_pos h4]; rfl
      simp only [ev0, ev, evV, List.cons_append, List.nil_append, List.getD_cons_zero, List.getD_cons_succ, List.map_cons, List.map_nil, iOf, bOf, sOf, pOf, slLen, slBase, cmpI, arI, Value.ite_bool, int_beq, int_bne, ite_band, ite_bor, decide_eq_false_iff_not] at h4
      refine ⟨fun h6 => ?_, fun h6 => ?_⟩
      · simp only [ev0, ev, evV, List.cons_append, List.nil_append, List.getD_cons_zero, List.getD_cons_succ, List.map_cons, List.map_nil, iOf, bOf, sOf, pOf, slLen, slBase, cmpI, arI, Value.ite_bool, int_beq, int_bne, ite_band, ite_bor, decide_eq_true_eq] at h6
        have hfo : dForm d = if 1 < d.list.length then lastOk d else false := by
          simp only [dForm, hb, Bool.false_eq_true, if_false, if_neg h4, if_pos h6]
        refine ⟨fun vs H' => vs = [.bool (dForm d)] ∧ PH.le H H', ?_, ?_⟩
        · rintro vs H' _ ⟨rfl, hl⟩; exact ⟨rfl, hl⟩
        have hs2 := hs.le hl2
        have hcond : ∀ E : List Value, E.getD 3 (Value.bool false) = .slice b d.list.length c → bOf (ev0 E (.cmp .gtr (.len (.atom 3)) (.int .i64 1))) = decide (1 < d.list.length) := by
          intro E e3
          simp only [ev0, ev, evV, List.cons_append, List.nil_append, List.getD_cons_zero, List.getD_cons_succ, List.map_cons, List.map_nil, iOf, bOf, sOf, pOf, slLen, slBase, cmpI, arI, Value.ite_bool, int_beq, int_bne, ite_band, ite_bor, e3]
          simp; omega
        have hidx : ∀ E : List Value, E.getD 3 (Value.bool false) = .slice b d.list.length c → 1 < d.list.length → ev0 E (.ar .sub .i64 (.len (.atom 3)) (.int .i64 1)) = .int .i64 ((d.list.length - 1 : Nat) : Int) := by
          intro E e3 h2
          simp only [ev0, ev, evV, List.cons_append, List.nil_append, List.getD_cons_zero, List.getD_cons_succ, List.map_cons, List.map_nil, iOf, bOf, sOf, pOf, slLen, slBase, cmpI, arI, Value.ite_bool, int_beq, int_bne, ite_band, ite_bor, e3]
          rw [w64 (by omega) (by omega)]
          congr 1; omega
        have hlast : 1 < d.list.length → ∃ e, d.list[d.list.length - 1]? = some e := fun h2 => ⟨_, List.getElem?_eq_getElem (by omega)⟩
        have hin : ∀ E : List Value, E.getD 3 (Value.bool false) = .slice b d.list.length c → 1 < d.list.length → Chk.holds E (.inSl (.atom 3) (.ar .sub .i64 (.len (.atom 3)) (.int .i64 1))) := by
          intro E e3 h2
          obtain ⟨e, he⟩ := hlast h2
          have := (hs2.get he).1
          show (slBase (E.getD 3 (Value.bool false))).isSome = true ∧ 0 ≤ iOf (ev0 E _) ∧ iOf (ev0 E _) < slLen (E.getD 3 (Value.bool false))
          rw [hidx E e3 h2, e3]
          exact ⟨this, by simp only [iOf]; omega, by simp only [iOf, slLen]; omega⟩
        have hso : ∀ E : List Value, E.getD 3 (Value.bool false) = .slice b d.list.length c → 1 < d.list.length → Chk.holds E (.some (.elt (.atom 3) (.ar .sub .i64 (.len (.atom 3)) (.int .i64 1)) 4)) := by
          intro E e3 h2
          obtain ⟨e, he⟩ := hlast h2
          obtain ⟨_, _, _, _, _, h⟩ := hs2.get he
          show (pOf (eltV (E.getD 3 (Value.bool false)) (iOf (ev0 E _)) 4)).isSome = true
          rw [hidx E e3 h2, e3]; exact h
        have hrow : ∀ E : List Value, E.getD 3 (Value.bool false) = .slice b d.list.length c → 1 < d.list.length → ∀ e, d.list[d.list.length - 1]? = some e → rowAt H2 (pOf (ev0 E (.padd (.elt (.atom 3) (.ar .sub .i64 (.len (.atom 3)) (.int .i64 1)) 4) 0))) [.int .i64 e.kind] := by
          intro E e3 h2 e he
          obtain ⟨_, _, _, _, h, _⟩ := hs2.get he
          show rowAt H2 ((pOf (eltV (E.getD 3 (Value.bool false)) (iOf (ev0 E _)) 4)).map (·.add 0)) _
          rw [hidx E e3 h2, e3]; exact h
        refine ⟨fun hg => ?_, fun hg => ?_, fun hc => ?_, fun hc => ?_⟩
        · exact hin _ rfl (of_decide_eq_true ((hcond _ rfl).symm.trans (hg _ (List.mem_singleton.2 rfl))))
        · exact hso _ rfl (of_decide_eq_true ((hcond _ rfl).symm.trans (hg _ (List.mem_singleton.2 rfl))))
        · rw [hcond _ rfl, decide_eq_true_eq] at hc
          obtain ⟨e, he⟩ := hlast hc
          rw [if_pos hc] at hfo
          simp only [lastOk, he] at hfo
          refine ⟨[.int .i64 e.kind], rfl, hrow _ rfl hc e he, fun _ => hin _ rfl hc, fun _ => hso _ rfl hc, fun hx => ?_, fun hx => ?_⟩
          · simp only [ev0, ev, evV, List.cons_append, List.nil_append, List.getD_cons_zero, List.getD_cons_succ, List.map_cons, List.map_nil, iOf, bOf, sOf, pOf, slLen, slBase, cmpI, arI, Value.ite_bool, int_beq, int_bne, ite_band, ite_bor, decide_eq_true_eq] at hx
            refine ⟨[.int .i64 e.kind], rfl, hrow _ rfl hc e he, _, lookup_hit, ?_, hl2⟩
            rw [hfo]
            simp only [ev0, ev, evV, List.cons_append, List.nil_append, List.getD_cons_zero, List.getD_cons_succ, List.map_cons, List.map_nil, iOf, bOf, sOf, pOf, slLen, slBase, cmpI, arI, Value.ite_bool, int_beq, int_bne, ite_band, ite_bor]
            simp [hx]
          · simp only [ev0, ev, evV, List.cons_append, List.nil_append, List.getD_cons_zero, List.getD_cons_succ, List.map_cons, List.map_nil, iOf, bOf, sOf, pOf, slLen, slBase, cmpI, arI, Value.ite_bool, int_beq, int_bne, ite_band, ite_bor, decide_eq_false_iff_not] at hx
            refine ⟨_, lookup_hit, ?_, hl2⟩
            rw [hfo]
            simp only [ev0, ev, evV, List.cons_append, List.nil_append, List.getD_cons_zero, List.getD_cons_succ, List.map_cons, List.map_nil, iOf, bOf, sOf, pOf, slLen, slBase, cmpI, arI, Value.ite_bool, int_beq, int_bne, ite_band, ite_bor]
            simp [hx]
        · rw [hcond _ rfl, decide_eq_false_iff_not] at hc
          rw [if_neg hc] at hfo
          exact ⟨_, lookup_hit, by rw [hfo]; rfl, hl2⟩
      · simp only [ev0, ev, evV, List.cons_append, List.nil_append, List.getD_cons_zero, List.getD_cons_succ, List.map_cons, List.map_nil, iOf, bOf, sOf, pOf, slLen, slBase, cmpI, arI, Value.ite_bool, int_beq, int_bne, ite_band, ite_bor, decide_eq_false_iff_not] at h6
        refine ⟨?_, hl2⟩
        simp only [dForm, hb, Bool.false_eq_true, if_false, if_neg h4, if_neg h6, ev0, ev, evV, List.cons_append, List.nil_append, List.getD_cons_zero, List.getD_cons_succ, List.map_cons, List.map_nil, iOf, bOf, sOf, pOf, slLen, slBase, cmpI, arI, Value.ite_bool, int_beq, int_bne, ite_band, ite_bor, ge_iff_le]
    · refine ⟨fun hb => ?_, fun hb => ?_⟩
      · simp only [ev0, ev, evV, List.cons_append, List.nil_append, List.getD_cons_zero, List.getD_cons_succ, List.map_cons, List.map_nil, iOf, bOf, sOf, pOf, slLen, slBase, cmpI, arI, Value.ite_bool, int_beq, int_bne, ite_band, ite_bor, txt_neq, decide_eq_true_eq] at hb
        have hb' : d.int ≠ dInts d ∨ d.text ≠ dTexts d := by
          by_cases hx : d.int = dInts d
          · simp [hx] at hb; exact .inr hb
          · exact .inl hx
        refine ⟨_, lookup_hit, ?_, hl1⟩
        have : dBad d = true := by unfold dBad; rw [if_pos hb']
        rw [this]; rfl
      simp only [ev0, ev, evV, List.cons_append, List.nil_append, List.getD_cons_zero, List.getD_cons_succ, List.map_cons, List.map_nil, iOf, bOf, sOf, pOf, slLen, slBase, cmpI, arI, Value.ite_bool, int_beq, int_bne, ite_band, ite_bor, txt_neq, decide_eq_true_eq] at hb
      have hb' : ¬ (d.int ≠ dInts d ∨ d.text ≠ dTexts d) := by
        by_cases hx : d.int = dInts d
        · simp [← hx] at hb; rw [hb]; simp [← hx]
        · simp [hx] at hb
      refine ⟨fun hl => ?_, fun hl => ?_⟩
      · simp only [ev0, ev, evV, List.cons_append, List.nil_append, List.getD_cons_zero, List.getD_cons_succ, List.map_cons, List.map_nil, iOf, bOf, sOf, pOf, slLen, slBase, cmpI, arI, Value.ite_bool, int_beq, int_bne, ite_band, ite_bor, decide_eq_true_eq] at hl
        have hl' : 0 < d.list.length := by omega
        refine den_gives [.bool (nested d.kind)] cb_data_hasItems (hasItems_gives _ _ _ _ _ _ H1) rfl pendNil fun H3 h3 => ?_
        refine ⟨_, lookup_hit, ?_, PH.le_trans hl1 h3⟩
        have : dBad d = !nested d.kind := by unfold dBad; rw [if_neg hb', if_pos hl']
        rw [this]; rfl
      · simp only [ev0, ev, evV, List.cons_append, List.nil_append, List.getD_cons_zero, List.getD_cons_succ, List.map_cons, List.map_nil, iOf, bOf, sOf, pOf, slLen, slBase, cmpI, arI, Value.ite_bool, int_beq, int_bne, ite_band, ite_bor, decide_eq_false_iff_not] at hl
        have hl' : ¬ 0 < d.list.length := by omega
        refine ⟨_, lookup_hit, ?_, hl1⟩
        have : dBad d = false := by unfold dBad; rw [if_neg hb', if_neg hl']
        rw [this]; rfl
  · refine ⟨fun h0 => ?_, fun h0 => ?_⟩
    · simp only [ev0, ev, evV, List.cons_append, List.nil_append, List.getD_cons_zero, List.getD_cons_succ, List.map_cons, List.map_nil, iOf, bOf, sOf, pOf, slLen, slBase, cmpI, arI, Value.ite_bool, int_beq, int_bne, ite_band, ite_bor, decide_eq_true_eq] at h0
      refine ⟨_, lookup_hit, ?_, PH.le_refl H⟩
      have e1 : dInts d = d.int % 2 := by simp [dInts, h0]
      have e2 : dTexts d = [] := by simp [dTexts, h0]
      rw [e1, e2, ← and_1]; rfl
    simp only [ev0, ev, evV, List.cons_append, List.nil_append, List.getD_cons_zero, List.getD_cons_succ, List.map_cons, List.map_nil, iOf, bOf, sOf, pOf, slLen, slBase, cmpI, arI, Value.ite_bool, int_beq, int_bne, ite_band, ite_bor, decide_eq_false_iff_not] at h0
    refine ⟨fun h1 => ?_, fun h1 => ?_⟩
    · simp only [ev0, ev, evV, List.cons_append, List.nil_append, List.getD_cons_zero, List.getD_cons_succ, List.map_cons, List.map_nil, iOf, bOf, sOf, pOf, slLen, slBase, cmpI, arI, Value.ite_bool, int_beq, int_bne, ite_band, ite_bor, decide_eq_true_eq] at h1
      refine ⟨_, lookup_hit, ?_, PH.le_refl H⟩
      have e2 : dTexts d = [] := by simp [dTexts, h1]
      rw [e2]
      simp only [ev0, ev, evV, List.cons_append, List.nil_append, List.getD_cons_zero, List.getD_cons_succ, List.map_cons, List.map_nil, iOf, bOf, sOf, pOf, slLen, slBase, cmpI, arI, Value.ite_bool, int_beq, int_bne, ite_band, ite_bor, dInts, if_neg h0, if_pos h1]
      congr 1
      by_cases hx : -1152921504606846976 > d.int
      · simp [hx]
      · by_cases hy : 1152921504606846975 < d.int <;> simp [hx, hy]
    simp only [ev0, ev, evV, List.cons_append, List.nil_append, List.getD_cons_zero, List.getD_cons_succ, List.map_cons, List.map_nil, iOf, bOf, sOf, pOf, slLen, slBase, cmpI, arI, Value.ite_bool, int_beq, int_bne, ite_band, ite_bor, decide_eq_false_iff_not] at h1
    refine ⟨fun h2 => ?_, fun h2 => ?_⟩
    · simp only [ev0, ev, evV, List.cons_append, List.nil_append, List.getD_cons_zero, List.getD_cons_succ, List.map_cons, List.map_nil, iOf, bOf, sOf, pOf, slLen, slBase, cmpI, arI, Value.ite_bool, int_beq, int_bne, ite_band, ite_bor, decide_eq_true_eq] at h2
      refine ⟨_, lookup_hit, ?_, PH.le_refl H⟩
      have e1 : dInts d = d.int % 256 := by simp [dInts, h2]
      have e2 : dTexts d = [] := by simp [dTexts, h2]
      rw [e1, e2, ← and_255]; rfl
    simp only [ev0, ev, evV, List.cons_append, List.nil_append, List.getD_cons_zero, List.getD_cons_succ, List.map_cons, List.map_nil, iOf, bOf, sOf, pOf, slLen, slBase, cmpI, arI, Value.ite_bool, int_beq, int_bne, ite_band, ite_bor, decide_eq_false_iff_not] at h2
    have e1 : dInts d = 0 := by simp [dInts, h0, h1, h2]
    refine ⟨fun h3 => ?_, fun h3 => ?_⟩
    · simp only [ev0, ev, evV, List.cons_append, List.nil_append, List.getD_cons_zero, List.getD_cons_succ, List.map_cons, List.map_nil, iOf, bOf, sOf, pOf, slLen, slBase, cmpI, arI, Value.ite_bool, int_beq, int_bne, ite_band, ite_bor, decide_eq_true_eq] at h3
      have e2 : dTexts d = d.text.take (min d.text.length 4096) := by simp [dTexts, h3]
      have hmin : ev0 [.int .i64 d.kind, .int .i64 d.int, txt d.text, .slice b d.list.length c] (.pick (.cmp .lss (.int .i64 4096) (.slen (.atom 2))) (.int .i64 4096) (.slen (.atom 2))) = .int .i64 ((min d.text.length 4096 : Nat) : Int) := by
        simp only [ev0, ev, evV, List.cons_append, List.nil_append, List.getD_cons_zero, List.getD_cons_succ, List.map_cons, List.map_nil, iOf, bOf, sOf, pOf, slLen, slBase, cmpI, arI, Value.ite_bool, int_beq, int_bne, ite_band, ite_bor, txt_size]
        by_cases hx : (4096 : Int) < d.text.length
        · rw [if_pos (by simpa using hx)]; congr 1; omega
        · rw [if_neg (by simpa using hx)]; congr 1; omega
      refine ⟨fun _ => ?_, _, lookup_hit, ?_, PH.le_refl H⟩
      · simp only [Chk.holds, hmin]
        simp only [ev0, ev, evV, List.cons_append, List.nil_append, List.getD_cons_zero, List.getD_cons_succ, List.map_cons, List.map_nil, iOf, bOf, sOf, pOf, slLen, slBase, cmpI, arI, Value.ite_bool, int_beq, int_bne, ite_band, ite_bor, txt_size]; omega
      · rw [e1, e2]
        simp only [ev0] at hmin
        simp only [List.map_cons, List.map_nil, ev0]
        rw [show ∀ (E : List Value) (a b c : SV), ev E (fun _ => 0) (.ssub a b c) = .string ((sOf (ev E (fun _ => 0) a)).extract (iOf (ev E (fun _ => 0) b)).toNat (iOf (ev E (fun _ => 0) c)).toNat) from fun _ _ _ _ => rfl, hmin]
        simp only [ev0, ev, evV, List.cons_append, List.nil_append, List.getD_cons_zero, List.getD_cons_succ, List.map_cons, List.map_nil, iOf, bOf, sOf, pOf, slLen, slBase, cmpI, arI, Value.ite_bool, int_beq, int_bne, ite_band, ite_bor]
        rw [Int.toNat_natCast]
        simp only [Int.toNat_zero, txt_take]
    · simp only [ev0, ev, evV, List.cons_append, List.nil_append, List.getD_cons_zero, List.getD_cons_succ, List.map_cons, List.map_nil, iOf, bOf, sOf, pOf, slLen, slBase, cmpI, arI, Value.ite_bool, int_beq, int_bne, ite_band, ite_bor, decide_eq_false_iff_not] at h3
      refine ⟨_, lookup_hit, ?_, PH.le_refl H⟩
      rw [e1]
      by_cases h4 : d.kind = 4
      · have e2 : dTexts d = d.text := by simp [dTexts, h4]
        rw [e2]; simp only [ev0, ev, evV, List.cons_append, List.nil_append, List.getD_cons_zero, List.getD_cons_succ, List.map_cons, List.map_nil, iOf, bOf, sOf, pOf, slLen, slBase, cmpI, arI, Value.ite_bool, int_beq, int_bne, ite_band, ite_bor]; simp [h4]
      · have e2 : dTexts d = [] := by simp [dTexts, h3, h4]
        rw [e2]; simp only [ev0, ev, evV, List.cons_append, List.nil_append, List.getD_cons_zero, List.getD_cons_succ, List.map_cons, List.map_nil, iOf, bOf, sOf, pOf, slLen, slBase, cmpI, arI, Value.ite_bool, int_beq, int_bne, ite_band, ite_bor]; simp [h4]
end Go.Proofs.YtlnmmakbgldflaaGreatDoor.Vc

