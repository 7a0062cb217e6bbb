/-
  DATA: a string's text.
-/
import Derived.Test.YtlnmmakbgldflaaGreatDoorDf
set_option linter.unusedSimpArgs false
set_option linter.unusedVariables false
set_option maxRecDepth 100000
namespace Go.Proofs.YtlnmmakbgldflaaGreatDoor.Vc
open Go

def quoteB (c : UInt8) : List UInt8 := if c = 34 ∨ c = 92 then [92, c] else if c = 10 then [92, 110] else if c < 32 ∨ 126 < c then [92, 120] ++ twoL c else [c]
def quotedL (l : List UInt8) : List UInt8 := [34] ++ l.flatMap quoteB ++ [34]
theorem quoteB_len (c : UInt8) : (quoteB c).length ≤ 4 := by
  unfold quoteB; split
  · simp
  split
  · simp
  split
  · simp [twoL]
  · simp
theorem quotes_len (l : List UInt8) : (l.flatMap quoteB).length ≤ 4 * l.length := by
  induction l with
  | nil => simp
  | cons c l ih =>
    have := quoteB_len c
    simp only [List.flatMap_cons, List.length_append, List.length_cons]; omega

theorem Quoted_gives (l : List UInt8) (hl : l.length ≤ 1152921504606846976) (H : PH) : Gives Tryz.prog n_scrimshawref02_Quoted [txt l] H (txt (quotedL l)) := by
  refine tri_scrimshawref02_Quoted [txt l] (by kernel_rfl) (by kernel_rfl) ?_
  refine ⟨fun n vs H' => ∃ k : Nat, vs = [txt ([34] ++ (l.take k).flatMap quoteB), .int .i64 k] ∧ k + n = l.length ∧ PH.le H H', ⟨l.length, 0, by simp [ev0, ev], by omega, PH.le_refl H⟩, ?_⟩
  rintro n vs H' _ ⟨k, rfl, hkn, hle⟩
  have hq := quotes_len (l.take k)
  have hq2 : (l.take k).length ≤ l.length := by simp; omega
  refine ⟨fun h => ?_, fun h => ?_⟩
  · simp only [ev0, ev, evV, List.cons_append, List.nil_append, List.getD_cons_zero, List.getD_cons_succ, List.map_cons, List.map_nil, iOf, bOf, sOf, pOf, slLen, slBase, cmpI, arI, Value.ite_bool, int_beq, int_bne, ite_band, ite_bor, decide_eq_true_eq, txt_size] at h
    have hkl : k < l.length := by omega
    obtain ⟨c, hc⟩ : ∃ c, l[k]? = some c := ⟨_, List.getElem?_eq_getElem hkl⟩
    have htk : (l.take (k + 1)).flatMap quoteB = (l.take k).flatMap quoteB ++ quoteB c := by
      rw [List.take_add_one, hc, List.flatMap_append]; simp
    have hcut : (⟨l.toArray⟩ : ByteArray).extract k (k + 1) = ⟨[c].toArray⟩ := by
      rw [extract_txt, List.take_add_one, hc, List.drop_append_of_le_length (by simp; omega), List.drop_eq_nil_of_le (by simp; omega)]; rfl
    have hk1 : IntKind.i64.wrap ((k : Int) + 1) = ((k + 1 : Nat) : Int) := by rw [w64 (by omega) (by omega)]; omega
    refine ⟨fun vs H' => vs = [txt ([34] ++ (l.take (k + 1)).flatMap quoteB)] ∧ PH.le H H', ?_, fun _ => ?_, ?_⟩
    · rintro vs H2 _ ⟨rfl, hl2⟩
      refine ⟨_, lookup_hit, n - 1, by omega, k + 1, ?_, by omega, hl2⟩
      simp only [ev0, ev, evV, List.cons_append, List.nil_append, List.getD_cons_zero, List.getD_cons_succ, List.map_cons, List.map_nil, iOf, bOf, sOf, pOf, slLen, slBase, cmpI, arI, Value.ite_bool, int_beq, int_bne, ite_band, ite_bor, hk1]
    · simp only [Chk.holds, ev0, ev, evV, List.cons_append, List.nil_append, List.getD_cons_zero, List.getD_cons_succ, List.map_cons, List.map_nil, iOf, bOf, sOf, pOf, slLen, slBase, cmpI, arI, Value.ite_bool, int_beq, int_bne, ite_band, ite_bor, txt_size]; omega
    have hgc := get_txt hc
    have hgl : ∀ (a : List UInt8), (([34] ++ (l.take k).flatMap quoteB).length + 8 : Nat) ≤ 9223372036854775807 := fun _ => by
      simp only [List.length_append, List.length_cons, List.length_nil]; omega
    have e34 : ((c.toNat : Int) = 34) ↔ c = 34 := u8_eq_lit c 34 (by omega)
    have e92 : ((c.toNat : Int) = 92) ↔ c = 92 := u8_eq_lit c 92 (by omega)
    have e10 : ((c.toNat : Int) = 10) ↔ c = 10 := u8_eq_lit c 10 (by omega)
    have g1 := UInt8.lt_iff_toNat_lt (a := c) (b := 32)
    have g2 := UInt8.lt_iff_toNat_lt (a := 126) (b := c)
    have t32 : (32 : UInt8).toNat = 32 := rfl
    have t126 : (126 : UInt8).toNat = 126 := rfl
    rw [t32] at g1
    rw [t126] at g2
    have hmax : IntKind.i64.max = 9223372036854775807 := rfl
    have hg0 := hgl []
    generalize hout : [34] ++ (l.take k).flatMap quoteB = out at hg0 ⊢
    have htk' : [34] ++ (l.take (k + 1)).flatMap quoteB = out ++ quoteB c := by rw [htk, ← hout, List.append_assoc]
    rw [htk']
    refine ⟨fun h1 => ?_, fun h1 => ?_⟩
    · simp only [ev0, ev, evV, List.cons_append, List.nil_append, List.getD_cons_zero, List.getD_cons_succ, List.map_cons, List.map_nil, iOf, bOf, sOf, pOf, slLen, slBase, cmpI, arI, Value.ite_bool, int_beq, int_bne, ite_band, ite_bor, hgc] at h1
      have h1' : c = 34 ∨ c = 92 := by simpa [e34, e92] using h1
      refine ⟨fun _ => ?_, fun _ => ?_, fun _ => ?_, _, lookup_hit, ?_, hle⟩
      · simp only [Chk.holds, ev0, ev, evV, List.cons_append, List.nil_append, List.getD_cons_zero, List.getD_cons_succ, List.map_cons, List.map_nil, iOf, bOf, sOf, pOf, slLen, slBase, cmpI, arI, Value.ite_bool, int_beq, int_bne, ite_band, ite_bor, txt_size, hk1]; omega
      · simp only [Chk.holds, ev0, ev, evV, List.cons_append, List.nil_append, List.getD_cons_zero, List.getD_cons_succ, List.map_cons, List.map_nil, iOf, bOf, sOf, pOf, slLen, slBase, cmpI, arI, Value.ite_bool, int_beq, int_bne, ite_band, ite_bor, hk1, Int.toNat_natCast, hcut, txt_size, List.length_cons, List.length_nil, hmax]; omega
      · simp only [Chk.holds, ev0, ev, evV, List.cons_append, List.nil_append, List.getD_cons_zero, List.getD_cons_succ, List.map_cons, List.map_nil, iOf, bOf, sOf, pOf, slLen, slBase, cmpI, arI, Value.ite_bool, int_beq, int_bne, ite_band, ite_bor, hk1, Int.toNat_natCast, hcut, cat_txt, txt_size, List.length_append, List.length_cons, List.length_nil, hmax]; omega
      · simp only [ev0, ev, evV, List.cons_append, List.nil_append, List.getD_cons_zero, List.getD_cons_succ, List.map_cons, List.map_nil, iOf, bOf, sOf, pOf, slLen, slBase, cmpI, arI, Value.ite_bool, int_beq, int_bne, ite_band, ite_bor, hk1, Int.toNat_natCast, hcut, cat_txt]
        rw [quoteB, if_pos h1']
    simp only [ev0, ev, evV, List.cons_append, List.nil_append, List.getD_cons_zero, List.getD_cons_succ, List.map_cons, List.map_nil, iOf, bOf, sOf, pOf, slLen, slBase, cmpI, arI, Value.ite_bool, int_beq, int_bne, ite_band, ite_bor, hgc] at h1
    have h1' : ¬ (c = 34 ∨ c = 92) := by simpa [e34, e92] using h1
    refine ⟨fun h2 => ?_, fun h2 => ?_⟩
    · simp only [ev0, ev, evV, List.cons_append, List.nil_append, List.getD_cons_zero, List.getD_cons_succ, List.map_cons, List.map_nil, iOf, bOf, sOf, pOf, slLen, slBase, cmpI, arI, Value.ite_bool, int_beq, int_bne, ite_band, ite_bor, hgc, decide_eq_true_eq] at h2
      refine ⟨fun _ => ?_, _, lookup_hit, ?_, hle⟩
      · simp only [Chk.holds, ev0, ev, evV, List.cons_append, List.nil_append, List.getD_cons_zero, List.getD_cons_succ, List.map_cons, List.map_nil, iOf, bOf, sOf, pOf, slLen, slBase, cmpI, arI, Value.ite_bool, int_beq, int_bne, ite_band, ite_bor, txt_size, List.length_cons, List.length_nil, hmax]; omega
      · simp only [ev0, ev, evV, List.cons_append, List.nil_append, List.getD_cons_zero, List.getD_cons_succ, List.map_cons, List.map_nil, iOf, bOf, sOf, pOf, slLen, slBase, cmpI, arI, Value.ite_bool, int_beq, int_bne, ite_band, ite_bor, cat_txt]
        rw [quoteB, if_neg h1', if_pos (e10.1 h2)]
    simp only [ev0, ev, evV, List.cons_append, List.nil_append, List.getD_cons_zero, List.getD_cons_succ, List.map_cons, List.map_nil, iOf, bOf, sOf, pOf, slLen, slBase, cmpI, arI, Value.ite_bool, int_beq, int_bne, ite_band, ite_bor, hgc, decide_eq_false_iff_not] at h2
    have h2' : ¬ c = 10 := fun x => h2 (e10.2 x)
    refine ⟨fun h3 => ?_, fun h3 => ?_⟩
    · simp only [ev0, ev, evV, List.cons_append, List.nil_append, List.getD_cons_zero, List.getD_cons_succ, List.map_cons, List.map_nil, iOf, bOf, sOf, pOf, slLen, slBase, cmpI, arI, Value.ite_bool, int_beq, int_bne, ite_band, ite_bor, hgc] at h3
      have h3' : c < 32 ∨ 126 < c := by
        simp at h3; rcases h3 with h3 | h3
        · exact .inl (g1.2 (by omega))
        · exact .inr (g2.2 (by omega))
      refine den_gives [txt (twoL c)] cb_scrimshawref02_Two ?_ rfl pendNil fun H3 h4 => ?_
      · simp only [ev0, ev, evV, List.cons_append, List.nil_append, List.getD_cons_zero, List.getD_cons_succ, List.map_cons, List.map_nil, iOf, bOf, sOf, pOf, slLen, slBase, cmpI, arI, Value.ite_bool, int_beq, int_bne, ite_band, ite_bor, hgc]; exact Two_gives c H'
      refine ⟨fun _ => ?_, fun _ => ?_, _, lookup_hit, ?_, PH.le_trans hle h4⟩
      · simp only [Chk.holds, ev0, ev, evV, List.cons_append, List.nil_append, List.getD_cons_zero, List.getD_cons_succ, List.map_cons, List.map_nil, iOf, bOf, sOf, pOf, slLen, slBase, cmpI, arI, Value.ite_bool, int_beq, int_bne, ite_band, ite_bor, txt_size, twoL, List.length_cons, List.length_nil, hmax]; omega
      · simp only [Chk.holds, ev0, ev, evV, List.cons_append, List.nil_append, List.getD_cons_zero, List.getD_cons_succ, List.map_cons, List.map_nil, iOf, bOf, sOf, pOf, slLen, slBase, cmpI, arI, Value.ite_bool, int_beq, int_bne, ite_band, ite_bor, cat_txt, txt_size, twoL, List.length_append, List.length_cons, List.length_nil, hmax]; omega
      · simp only [ev0, ev, evV, List.cons_append, List.nil_append, List.getD_cons_zero, List.getD_cons_succ, List.map_cons, List.map_nil, iOf, bOf, sOf, pOf, slLen, slBase, cmpI, arI, Value.ite_bool, int_beq, int_bne, ite_band, ite_bor, cat_txt]
        rw [quoteB, if_neg h1', if_neg h2', if_pos h3']; rfl
    · simp only [ev0, ev, evV, List.cons_append, List.nil_append, List.getD_cons_zero, List.getD_cons_succ, List.map_cons, List.map_nil, iOf, bOf, sOf, pOf, slLen, slBase, cmpI, arI, Value.ite_bool, int_beq, int_bne, ite_band, ite_bor, hgc] at h3
      have h3' : ¬ (c < 32 ∨ 126 < c) := by
        rintro (x | x)
        · have := g1.1 x; simp at h3; omega
        · have := g2.1 x; simp at h3; omega
      refine ⟨fun _ => ?_, fun _ => ?_, _, lookup_hit, ?_, hle⟩
      · simp only [Chk.holds, ev0, ev, evV, List.cons_append, List.nil_append, List.getD_cons_zero, List.getD_cons_succ, List.map_cons, List.map_nil, iOf, bOf, sOf, pOf, slLen, slBase, cmpI, arI, Value.ite_bool, int_beq, int_bne, ite_band, ite_bor, txt_size, hk1]; omega
      · simp only [Chk.holds, ev0, ev, evV, List.cons_append, List.nil_append, List.getD_cons_zero, List.getD_cons_succ, List.map_cons, List.map_nil, iOf, bOf, sOf, pOf, slLen, slBase, cmpI, arI, Value.ite_bool, int_beq, int_bne, ite_band, ite_bor, hk1, Int.toNat_natCast, hcut, txt_size, List.length_cons, List.length_nil, hmax]; omega
      · simp only [ev0, ev, evV, List.cons_append, List.nil_append, List.getD_cons_zero, List.getD_cons_succ, List.map_cons, List.map_nil, iOf, bOf, sOf, pOf, slLen, slBase, cmpI, arI, Value.ite_bool, int_beq, int_bne, ite_band, ite_bor, hk1, Int.toNat_natCast, hcut, cat_txt]
        rw [quoteB, if_neg h1', if_neg h2', if_neg h3']
  · simp only [ev0, ev, evV, List.cons_append, List.nil_append, List.getD_cons_zero, List.getD_cons_succ, List.map_cons, List.map_nil, iOf, bOf, sOf, pOf, slLen, slBase, cmpI, arI, Value.ite_bool, int_beq, int_bne, ite_band, ite_bor, decide_eq_false_iff_not, txt_size] at h
    have hk : k = l.length := by omega
    subst hk
    rw [List.take_length] at hq ⊢
    refine ⟨fun _ => ?_, ?_, hle⟩
    · simp only [Chk.holds, ev0, ev, evV, List.cons_append, List.nil_append, List.getD_cons_zero, List.getD_cons_succ, List.map_cons, List.map_nil, iOf, bOf, sOf, pOf, slLen, slBase, cmpI, arI, Value.ite_bool, int_beq, int_bne, ite_band, ite_bor, txt_size, List.length_append, List.length_cons, List.length_nil]
      show _ ≤ (9223372036854775807 : Int)
      omega
    · simp only [ev0, ev, evV, List.cons_append, List.nil_append, List.getD_cons_zero, List.getD_cons_succ, List.map_cons, List.map_nil, iOf, bOf, sOf, pOf, slLen, slBase, cmpI, arI, Value.ite_bool, int_beq, int_bne, ite_band, ite_bor, cat_txt, quotedL]
end Go.Proofs.YtlnmmakbgldflaaGreatDoor.Vc

