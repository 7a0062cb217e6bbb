/-
  DATA: a number's text.
-/
import Derived.Test.YtlnmmakbgldflaaGreatDoorDg
import Derived.Lib.ItoaNum
set_option linter.unusedSimpArgs false
set_option linter.unusedVariables false
set_option maxRecDepth 100000
namespace Go.Proofs.YtlnmmakbgldflaaGreatDoor.Vc
open Go

theorem nDigits_le : ∀ (k u : Nat), u < 10 ^ (k + 1) → Lib.nDigits u ≤ k + 1
  | 0, u, h => by rw [Lib.nDigits_small (by simpa using h)]; omega
  | k + 1, u, h => by
    by_cases h1 : u < 10
    · rw [Lib.nDigits_small h1]; omega
    · rw [Lib.nDigits_big h1]
      have := nDigits_le k (u / 10) (by rw [Nat.pow_succ] at h; omega)
      omega
theorem digits_len (n : Nat) (h : n ≤ 9223372036854775808) : (Lib.decDigits n).length ≤ 20 := by
  rw [Lib.decDigits_length]
  exact nDigits_le 19 n (by omega)

theorem tmod10 (n : Int) : (0 ≤ n → n.tmod 10 = ((n.natAbs % 10 : Nat) : Int)) ∧ (n ≤ 0 → n.tmod 10 = -((n.natAbs % 10 : Nat) : Int)) := by
  constructor
  · intro h; rw [Int.tmod_eq_emod_of_nonneg h]; omega
  · intro h
    have : n = -(-n) := by omega
    rw [this, Int.neg_tmod, Int.tmod_eq_emod_of_nonneg (by omega)]; omega
theorem tdiv10 (n : Int) : (0 ≤ n → n.tdiv 10 = ((n.natAbs / 10 : Nat) : Int)) ∧ (n ≤ 0 → n.tdiv 10 = -((n.natAbs / 10 : Nat) : Int)) := by
  constructor
  · intro h; rw [Int.tdiv_eq_ediv_of_nonneg h]; omega
  · intro h
    have : n = -(-n) := by omega
    rw [this, Int.neg_tdiv, Int.tdiv_eq_ediv_of_nonneg (by omega)]; omega
theorem Digits_gives (n0 : Int) (h0 : InI n0) (H : PH) : Gives Tryz.prog n_scrimshawref02_Digits [.int .i64 n0] H (txt (Lib.itoa n0)) := by
  refine tri_scrimshawref02_Digits [.int .i64 n0] (by kernel_rfl) (by kernel_rfl) ?_
  obtain ⟨a0, a1⟩ := h0
  refine ⟨fun m vs H' => ∃ (n : Int) (s : List UInt8), vs = [.int .i64 n, txt s] ∧ m = n.natAbs ∧ n.natAbs ≤ n0.natAbs ∧ (0 ≤ n0 → 0 ≤ n) ∧ (n0 < 0 → n ≤ 0) ∧ Lib.decDigits n.natAbs ++ s = Lib.decDigits n0.natAbs ∧ PH.le H H', ⟨n0.natAbs, n0, [], rfl, rfl, Nat.le_refl _, fun h => h, fun h => by omega, by simp, PH.le_refl H⟩, ?_⟩
  rintro m vs H' _ ⟨n, s, rfl, rfl, hn, hp, hm, heq, hle⟩
  have hlen := congrArg List.length heq
  have h20 := digits_len n0.natAbs (by omega)
  simp only [List.length_append] at hlen
  -- the last digit
  have hrem : (if n.tmod 10 < 0 then IntKind.i64.wrap (0 - n.tmod 10) else n.tmod 10) = ((n.natAbs % 10 : Nat) : Int) := by
    have h10 := tmod10 n
    have hlt : n.natAbs % 10 < 10 := Nat.mod_lt _ (by omega)
    rcases Int.le_total 0 n with h | h
    · have := h10.1 h
      rw [if_neg (by omega)]; exact this
    · have := h10.2 h
      split
      · rw [w64 (by omega) (by omega)]; omega
      · omega
  have hdig : IntKind.u8.wrap (IntKind.i64.wrap (48 + ((n.natAbs % 10 : Nat) : Int))) = (((UInt8.ofNat (48 + n.natAbs % 10)).toNat : Nat) : Int) := by
    have : n.natAbs % 10 < 10 := Nat.mod_lt _ (by omega)
    rw [w64 (by omega) (by omega), wu8 (by omega) (by omega), UInt8.toNat_ofNat_of_lt' (by show _ < 256; omega)]; omega
  refine byteText (c := UInt8.ofNat (48 + n.natAbs % 10)) ?_ fun r hr => ⟨[_], rfl, rfl, pendNil, ?_⟩
  · show Value.int .u8 (IntKind.u8.wrap (IntKind.i64.wrap (48 + iOf (if decide (n.tmod 10 < 0) = true then Value.int .i64 (IntKind.i64.wrap (0 - n.tmod 10)) else Value.int .i64 (n.tmod 10))))) = _
    have e1 : iOf (if decide (n.tmod 10 < 0) = true then Value.int .i64 (IntKind.i64.wrap (0 - n.tmod 10)) else Value.int .i64 (n.tmod 10)) = ((n.natAbs % 10 : Nat) : Int) := by
      rw [← hrem]
      by_cases hx : n.tmod 10 < 0 <;> simp [hx, iOf]
    rw [e1, hdig]
  generalize hdg : UInt8.ofNat (48 + n.natAbs % 10) = dg at hdig ⊢
  show wpS _ (execOp _ _) _ _ _
  rw [exec_convert]
  have hmax : IntKind.i64.max = 9223372036854775807 := rfl
  have hle2 : PH.le H (H'.upd r (.cells #[.int .u8 (dg.toNat : Int)] 5)) := PH.le_trans hle (PH.le_upd hr)
  have hdv : IntKind.i64.wrap (n.tdiv 10) = n.tdiv 10 := by
    have hd := tdiv10 n
    rcases Int.le_total 0 n with h | h
    · have := hd.1 h; rw [w64 (by omega) (by omega)]
    · have := hd.2 h; rw [w64 (by omega) (by omega)]
  refine wpS_toText (l := [dg]) uBytes uString uByte (fun j u hu => ?_) ⟨[_], rfl, rfl, pendNil, fun _ => ?_, fun hz => ?_, fun hz => ?_⟩
  · rw [Addr.add_plain, PH.cell_at PH.upd_same]
    cases j with
    | zero => simpa using hu
    | succ j => simp at hu
  · simp only [Chk.holds, ev0, ev, evV, List.cons_append, List.nil_append, List.getD_cons_zero, List.getD_cons_succ, List.map_cons, List.map_nil, iOf, bOf, sOf, pOf, slLen, slBase, cmpI, arI, Value.ite_bool, int_beq, int_bne, ite_band, ite_bor, txt_size, List.length_cons, List.length_nil, hmax]; omega
  · simp only [ev0, ev, evV, List.cons_append, List.nil_append, List.getD_cons_zero, List.getD_cons_succ, List.map_cons, List.map_nil, iOf, bOf, sOf, pOf, slLen, slBase, cmpI, arI, Value.ite_bool, int_beq, int_bne, ite_band, ite_bor, hdv, decide_eq_true_eq] at hz
    have hlt : n.natAbs < 10 := by
      have hd := tdiv10 n
      rcases Int.le_total 0 n with h | h
      · have := hd.1 h; omega
      · have := hd.2 h; omega
    have hone : Lib.decDigits n0.natAbs = dg :: s := by
      rw [← heq, Lib.decDigits_one hlt, ← hdg, Nat.mod_eq_of_lt hlt]; rfl
    refine ⟨fun hs => ?_, fun hs => ?_⟩
    · simp only [ev0, ev, evV, List.cons_append, List.nil_append, List.getD_cons_zero, List.getD_cons_succ, List.map_cons, List.map_nil, iOf, bOf, sOf, pOf, slLen, slBase, cmpI, arI, Value.ite_bool, int_beq, int_bne, ite_band, ite_bor, decide_eq_true_eq] at hs
      refine ⟨fun _ => ?_, ?_, hle2⟩
      · simp only [Chk.holds, ev0, ev, evV, List.cons_append, List.nil_append, List.getD_cons_zero, List.getD_cons_succ, List.map_cons, List.map_nil, iOf, bOf, sOf, pOf, slLen, slBase, cmpI, arI, Value.ite_bool, int_beq, int_bne, ite_band, ite_bor, cat_txt, txt_size, List.length_append, List.length_cons, List.length_nil, hmax]; omega
      · simp only [ev0, ev, evV, List.cons_append, List.nil_append, List.getD_cons_zero, List.getD_cons_succ, List.map_cons, List.map_nil, iOf, bOf, sOf, pOf, slLen, slBase, cmpI, arI, Value.ite_bool, int_beq, int_bne, ite_band, ite_bor, cat_txt, Lib.itoa, if_pos hs, hone]
    · simp only [ev0, ev, evV, List.cons_append, List.nil_append, List.getD_cons_zero, List.getD_cons_succ, List.map_cons, List.map_nil, iOf, bOf, sOf, pOf, slLen, slBase, cmpI, arI, Value.ite_bool, int_beq, int_bne, ite_band, ite_bor, decide_eq_false_iff_not] at hs
      refine ⟨?_, hle2⟩
      have : n0.toNat = n0.natAbs := by omega
      simp only [ev0, ev, evV, List.cons_append, List.nil_append, List.getD_cons_zero, List.getD_cons_succ, List.map_cons, List.map_nil, iOf, bOf, sOf, pOf, slLen, slBase, cmpI, arI, Value.ite_bool, int_beq, int_bne, ite_band, ite_bor, cat_txt, Lib.itoa, if_neg hs, this, hone]
  · simp only [ev0, ev, evV, List.cons_append, List.nil_append, List.getD_cons_zero, List.getD_cons_succ, List.map_cons, List.map_nil, iOf, bOf, sOf, pOf, slLen, slBase, cmpI, arI, Value.ite_bool, int_beq, int_bne, ite_band, ite_bor, hdv, decide_eq_false_iff_not] at hz
    have hd := tdiv10 n
    have hab : (n.tdiv 10).natAbs = n.natAbs / 10 := by
      rcases Int.le_total 0 n with h | h
      · have := hd.1 h; omega
      · have := hd.2 h; omega
    have hge : ¬ n.natAbs < 10 := fun h => hz (by omega)
    refine ⟨_, lookup_hit, (n.tdiv 10).natAbs, by omega, n.tdiv 10, dg :: s, ?_, rfl, by omega, fun h => ?_, fun h => ?_, ?_, hle2⟩
    · simp only [ev0, ev, evV, List.cons_append, List.nil_append, List.getD_cons_zero, List.getD_cons_succ, List.map_cons, List.map_nil, iOf, bOf, sOf, pOf, slLen, slBase, cmpI, arI, Value.ite_bool, int_beq, int_bne, ite_band, ite_bor, hdv, cat_txt]
    · have := hd.1 (hp h); omega
    · have := hd.2 (hm h); omega
    · rw [hab, ← heq]
      conv => rhs; rw [Lib.decDigits, dif_neg hge]
      rw [hdg, List.append_assoc]; rfl
end Go.Proofs.YtlnmmakbgldflaaGreatDoor.Vc

