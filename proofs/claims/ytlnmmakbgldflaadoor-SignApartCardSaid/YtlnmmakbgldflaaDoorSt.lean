/-
  SIGN: the laws' calls: each is walked over what both lexers give. No condition but that the library's errors lie there.
-/
import Derived.Test.YtlnmmakbgldflaaDoorSr
set_option linter.unusedSimpArgs false
set_option linter.unusedVariables false
set_option maxRecDepth 100000
namespace Go.Proofs.YtlnmmakbgldflaaDoor.Vc
open Go

theorem toks_bad0 (tot : Nat) : ∀ (f : Nat) (l : List UInt8) (k : Nat) (a : Int), toks tot f l k ≠ .bad a 0
  | 0, _, _, _ => by simp [toks]
  | f + 1, [], _, _ => by simp [toks]
  | f + 1, c :: l, k, a => by
    intro h
    rw [toks] at h
    · split at h
      · cases h
      · split at h
        · rename_i e ho; cases h; exact oneL_bad0 _ ho
        · rename_i kd x n m ho
          cases hr : toks tot f (gapL false ((c :: l).drop m)) (k + 1) with
          | bad b e => rw [hr] at h; cases h; exact toks_bad0 tot f _ _ _ hr
          | all us => rw [hr] at h; cases h
    · intro e; cases e
theorem tokens_bad0 (s : List UInt8) (a : Int) : tokens s ≠ .bad a 0 := by
  unfold tokens
  split
  · intro h; cases h
  · exact toks_bad0 _ _ _ _ _

theorem SignApart_gives (s : List UInt8) (hs : s.length ≤ maxLen) (H : PH) (hE : Errs H) : Gives Tryd.prog n_scrimshawlaw03_SignApart [txt s] H (.bool true) := by
  refine tri_scrimshawlaw03_SignApart [txt s] (by kernel_rfl) (by kernel_rfl) ?_
  refine LTokens_call (s := s) cb_lex_Tokens rfl (LTokens_tri s hs H hE) fun v H1 h1 l1 => ?_
  obtain ⟨b1, c1, rfl⟩ := h1.sl
  refine den_gives [.bool true] cb_scrimshawlaw03_fixed (fixed_gives H1 (hE.le l1)) rfl pendNil fun H2 l2 => ?_
  cases ht : tokens s with
  | bad a e =>
    have he : e ≠ 0 := fun h => tokens_bad0 s a (by rw [ht, h])
    refine ⟨fun _ => ?_, fun hc => ?_⟩
    · refine den_gives [.bool true] cb_scrimshawlaw03_fixed (fixed_gives H2 (hE.le (PH.le_trans l1 l2))) rfl pendNil fun H3 l3 => ⟨?_, PH.le_trans l1 (PH.le_trans l2 l3)⟩
      simp only [ev0, ev, evV, List.cons_append, List.nil_append, List.getD_cons_zero, List.getD_cons_succ, List.map_cons, List.map_nil, iOf, bOf, sOf, pOf, slLen, slBase, cmpI, arI, Value.ite_bool, int_beq, int_bne, ite_band, ite_bor, Toks.list]
      simp
    · simp only [ev0, ev, evV, List.cons_append, List.nil_append, List.getD_cons_zero, List.getD_cons_succ, List.map_cons, List.map_nil, iOf, bOf, sOf, pOf, slLen, slBase, cmpI, arI, Value.ite_bool, int_beq, int_bne, ite_band, ite_bor, Toks.err] at hc
      simp [he] at hc
  | all ts =>
    refine ⟨fun hc => ?_, fun _ => ?_⟩
    · simp only [ev0, ev, evV, List.cons_append, List.nil_append, List.getD_cons_zero, List.getD_cons_succ, List.map_cons, List.map_nil, iOf, bOf, sOf, pOf, slLen, slBase, cmpI, arI, Value.ite_bool, int_beq, int_bne, ite_band, ite_bor, Toks.err] at hc
      simp at hc
    rw [ht] at h1
    obtain ⟨h4, h8, hT⟩ := (tokens_TR s ts).1 ht
    have l02 := PH.le_trans l1 l2
    simp only [Toks.list, Toks.err, Toks.at_] at h1 ⊢
    refine ⟨fun n vs H' => ∃ p k : Nat, vs = [.bool false, .int .i64 p, .int .i64 k] ∧ k + n = ts.length ∧ p ≤ s.length ∧ TR p (s.drop p) (ts.drop k) ∧ PH.le H2 H', ⟨ts.length, 0, 0, rfl, by omega, by omega, by simpa using hT, PH.le_refl _⟩, ?_⟩
    rintro n vs H' _ ⟨p, k, rfl, hk, hp, hR, hle⟩
    refine ⟨fun h5 => ?_, fun h5 => ?_⟩
    · simp only [ev0, ev, evV, List.cons_append, List.nil_append, List.getD_cons_zero, List.getD_cons_succ, List.map_cons, List.map_nil, iOf, bOf, sOf, pOf, slLen, slBase, cmpI, arI, Value.ite_bool, int_beq, int_bne, ite_band, ite_bor, decide_eq_true_eq] at h5
      have hkl : k < ts.length := by omega
      obtain ⟨t, hkt⟩ : ∃ t, ts[k]? = some t := ⟨_, List.getElem?_eq_getElem hkl⟩
      rw [drop_cons hkt] at hR
      obtain ⟨g, m, ea, et, hm, hgm, hR', u, hu⟩ := hR.head
      have hgm' : p + g + m ≤ s.length := by rw [List.length_drop] at hgm; omega
      obtain ⟨g1, _, ces, g2, g3⟩ := (h1.le (PH.le_trans l2 hle)).get hkt
      obtain ⟨rfl, _⟩ := Tk.Rep_iff.1 g2
      have hcut : (s.take (p + g + m)).drop (p + g) = ((s.drop p).drop g).take m := by rw [List.drop_take, List.drop_drop, show p + g + m - (p + g) = m by omega]
      obtain ⟨hu1, hu2⟩ := hu (by rw [List.length_take]; omega)
      refine ⟨fun vs H3 => vs = [.int .i64 ((p + g + m : Nat) : Int)] ∧ PH.le H2 H3, ?_, ?_⟩
      · rintro vs H3 _ ⟨rfl, hl3⟩
        refine ⟨_, rfl, n - 1, by omega, p + g + m, k + 1, ?_, by omega, hgm', ?_, hl3⟩
        · simp only [ev0, ev, evV, List.cons_append, List.nil_append, List.getD_cons_zero, List.getD_cons_succ, List.map_cons, List.map_nil, iOf, bOf, sOf, pOf, slLen, slBase, cmpI, arI, Value.ite_bool, int_beq, int_bne, ite_band, ite_bor]
          rw [w64 (by omega) (by omega)]; rfl
        · rw [List.drop_drop] at hR'
          rw [show p + g + m = p + (g + m) by omega] at hR' ⊢
          exact hR'
      refine ⟨fun _ => ?_, _, rfl, g3, ?_⟩
      · simp only [Chk.holds, ev0, ev, evV, List.cons_append, List.nil_append, List.getD_cons_zero, List.getD_cons_succ, List.map_cons, List.map_nil, iOf, bOf, sOf, pOf, slLen, slBase, cmpI, arI, Value.ite_bool, int_beq, int_bne, ite_band, ite_bor]; exact ⟨g1, by omega, by omega⟩
      refine ⟨fun h6 => ?_, fun h6 => ?_⟩
      · exfalso
        simp only [ev0, ev, evV, List.cons_append, List.nil_append, List.getD_cons_zero, List.getD_cons_succ, List.map_cons, List.map_nil, iOf, bOf, sOf, pOf, slLen, slBase, cmpI, arI, Value.ite_bool, int_beq, int_bne, ite_band, ite_bor, ea, et, Bool.or_eq_true, decide_eq_true_eq, txt_size] at h6
        rw [if_neg (by omega)] at h6
        simp only [decide_eq_true_eq] at h6
        omega
      refine ⟨fun h7 => ⟨_, lookup_hit, ?_, hle⟩, fun h7 => ?_⟩
      · simp only [ev0, ev, evV, List.cons_append, List.nil_append, List.getD_cons_zero, List.getD_cons_succ, List.map_cons, List.map_nil, iOf, bOf, sOf, pOf, slLen, slBase, cmpI, arI, Value.ite_bool, int_beq, int_bne, ite_band, ite_bor, et]
      refine ⟨fun _ => sub_of (s := s) (k := p + g) (m := p + g + m) rfl (by simp only [ev0, ev, evV, List.cons_append, List.nil_append, List.getD_cons_zero, List.getD_cons_succ, List.map_cons, List.map_nil, iOf, bOf, sOf, pOf, slLen, slBase, cmpI, arI, Value.ite_bool, int_beq, int_bne, ite_band, ite_bor, ea]) (by simp only [ev0, ev, evV, List.cons_append, List.nil_append, List.getD_cons_zero, List.getD_cons_succ, List.map_cons, List.map_nil, iOf, bOf, sOf, pOf, slLen, slBase, cmpI, arI, Value.ite_bool, int_beq, int_bne, ite_band, ite_bor, et]) (by omega) (by omega), ?_⟩
      refine LTokens_call (s := ((s.drop p).drop g).take m) cb_lex_Tokens ?_ (LTokens_tri _ (by rw [List.length_take]; simp only [maxLen] at hs ⊢; omega) _ (hE.le (PH.le_trans l02 hle))) fun w H4 h4 l4 => ?_
      · rw [← hcut]
        exact congrArg (fun x => [x]) (ev_cut (s := s) (k := p + g) (m := p + g + m) rfl (by simp only [ev0, ev, evV, List.cons_append, List.nil_append, List.getD_cons_zero, List.getD_cons_succ, List.map_cons, List.map_nil, iOf, bOf, sOf, pOf, slLen, slBase, cmpI, arI, Value.ite_bool, int_beq, int_bne, ite_band, ite_bor, ea]) (by simp only [ev0, ev, evV, List.cons_append, List.nil_append, List.getD_cons_zero, List.getD_cons_succ, List.map_cons, List.map_nil, iOf, bOf, sOf, pOf, slLen, slBase, cmpI, arI, Value.ite_bool, int_beq, int_bne, ite_band, ite_bor, et]))
      rw [hu1] at h4 ⊢
      simp only [Toks.list, Toks.err, Toks.at_] at h4 ⊢
      refine ⟨fun vs H5 => vs = [.bool false] ∧ PH.le H2 H5, ?_, ?_⟩
      · rintro vs H5 _ ⟨rfl, hl5⟩
        refine ⟨fun h8 => (by simp only [ev0, ev, evV, List.cons_append, List.nil_append, List.getD_cons_zero, List.getD_cons_succ, List.map_cons, List.map_nil, iOf, bOf, sOf, pOf, slLen, slBase, cmpI, arI, Value.ite_bool, int_beq, int_bne, ite_band, ite_bor] at h8; cases h8), fun _ => ⟨_, lookup_hit, ?_, hl5⟩⟩
        simp only [ev0, ev, evV, List.cons_append, List.nil_append, List.getD_cons_zero, List.getD_cons_succ, List.map_cons, List.map_nil, iOf, bOf, sOf, pOf, slLen, slBase, cmpI, arI, Value.ite_bool, int_beq, int_bne, ite_band, ite_bor, et]
      have hsl := h1.le (PH.le_trans l2 (PH.le_trans hle l4))
      have hcap : ts.length ≤ c1 := by
        rcases (SlR.mk_iff.1 h1).2 with ⟨e, hn⟩ | ⟨a, c, e, hc, _⟩
        · rw [hn] at hkl; simp at hkl
        · cases e; exact hc
      refine ⟨fun _ => ?_, fun h8 => by simp only [ev0, ev, evV, List.cons_append, List.nil_append, List.getD_cons_zero, List.getD_cons_succ, List.map_cons, List.map_nil, iOf, bOf, sOf, pOf, slLen, slBase, cmpI, arI, Value.ite_bool, int_beq, int_bne, ite_band, ite_bor] at h8; simp at h8, fun _ => ?_⟩
      · simp only [Chk.holds, ev0, ev, evV, List.cons_append, List.nil_append, List.getD_cons_zero, List.getD_cons_succ, List.map_cons, List.map_nil, iOf, bOf, sOf, pOf, slLen, slBase, cmpI, arI, Value.ite_bool, int_beq, int_bne, ite_band, ite_bor, slCap]
        rw [w64 (by omega) (by omega)]
        exact ⟨by omega, by omega, by omega⟩
      have hc := TAlike_gives [u] [t] w _ H4 h4 (by
        have := hsl.cut (a := k) (b := k + 1) (by omega) (by omega)
        have e : (ts.take (k + 1)).drop k = [t] := by
          rw [List.drop_take, drop_cons hkt, show k + 1 - k = 1 by omega]; rfl
        rw [e] at this
        exact this)
      rw [decide_eq_true (show [u].map Tk.sh = [t].map Tk.sh by simp [hu2])] at hc
      refine den_gives [.bool true] cb_scrimshawref03_Alike ?_ rfl pendNil fun H6 l6 => ⟨_, lookup_hit, ?_, PH.le_trans hle (PH.le_trans l4 l6)⟩
      · simp only [ev0, ev, evV, List.cons_append, List.nil_append, List.getD_cons_zero, List.getD_cons_succ, List.map_cons, List.map_nil, iOf, bOf, sOf, pOf, slLen, slBase, cmpI, arI, Value.ite_bool, int_beq, int_bne, ite_band, ite_bor]
        rw [w64 (by omega) (by omega)]
        exact hc
      · simp only [ev0, ev, evV, List.cons_append, List.nil_append, List.getD_cons_zero, List.getD_cons_succ, List.map_cons, List.map_nil, iOf, bOf, sOf, pOf, slLen, slBase, cmpI, arI, Value.ite_bool, int_beq, int_bne, ite_band, ite_bor]; rfl
    · simp only [ev0, ev, evV, List.cons_append, List.nil_append, List.getD_cons_zero, List.getD_cons_succ, List.map_cons, List.map_nil, iOf, bOf, sOf, pOf, slLen, slBase, cmpI, arI, Value.ite_bool, int_beq, int_bne, ite_band, ite_bor]
      exact ⟨rfl, PH.le_trans l02 hle⟩
end Go.Proofs.YtlnmmakbgldflaaDoor.Vc

