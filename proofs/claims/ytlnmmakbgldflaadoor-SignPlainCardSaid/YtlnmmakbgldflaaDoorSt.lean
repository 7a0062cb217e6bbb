/-
  SIGN: the laws' calls: each is walked over what both lexers give. No condition but that the library's errors lie there.
-/
import Derived.Test.YtlnmmakbgldflaaDoorSr
set_option linter.unusedSimpArgs false
set_option linter.unusedVariables false
set_option maxRecDepth 100000
namespace Go.Proofs.YtlnmmakbgldflaaDoor.Vc
open Go

theorem toks_bad0 (tot : Nat) : ∀ (f : Nat) (l : List UInt8) (k : Nat) (a : Int), toks tot f l k ≠ .bad a 0
  | 0, _, _, _ => by simp [toks]
  | f + 1, [], _, _ => by simp [toks]
  | f + 1, c :: l, k, a => by
    intro h
    rw [toks] at h
    · split at h
      · cases h
      · split at h
        · rename_i e ho; cases h; exact oneL_bad0 _ ho
        · rename_i kd x n m ho
          cases hr : toks tot f (gapL false ((c :: l).drop m)) (k + 1) with
          | bad b e => rw [hr] at h; cases h; exact toks_bad0 tot f _ _ _ hr
          | all us => rw [hr] at h; cases h
    · intro e; cases e
theorem tokens_bad0 (s : List UInt8) (a : Int) : tokens s ≠ .bad a 0 := by
  unfold tokens
  split
  · intro h; cases h
  · exact toks_bad0 _ _ _ _ _

theorem toks_at (tot : Nat) : ∀ (f : Nat) (l : List UInt8) (k : Nat) (a e : Int), toks tot f l k = .bad a e → ∃ n : Nat, a = n ∧ n ≤ tot
  | 0, _, _, _, _ => by simp [toks]
  | f + 1, [], _, _, _ => by simp [toks]
  | f + 1, c :: l, k, a, e => by
    intro h
    rw [toks] at h
    · split at h
      · cases h; exact ⟨_, rfl, by omega⟩
      · split at h
        · cases h; exact ⟨_, rfl, by omega⟩
        · rename_i kd x n m ho
          cases hr : toks tot f (gapL false ((c :: l).drop m)) (k + 1) with
          | bad b e => rw [hr] at h; cases h; exact toks_at tot f _ _ _ _ hr
          | all us => rw [hr] at h; cases h
    · intro e; cases e
theorem tokens_at {s : List UInt8} {a e : Int} (h : tokens s = .bad a e) : ∃ n : Nat, a = n ∧ n ≤ s.length := by
  unfold tokens at h
  split at h
  · cases h; exact ⟨0, rfl, by omega⟩
  · exact toks_at _ _ _ _ _ _ h
theorem SignApart_gives (s : List UInt8) (hs : s.length ≤ maxLen) (H : PH) (hE : Errs H) : Gives Tryd.prog n_scrimshawlaw03_SignApart [txt s] H (.bool true) := by
  refine tri_scrimshawlaw03_SignApart [txt s] (by kernel_rfl) (by kernel_rfl) ?_
  refine LTokens_call (s := s) cb_lex_Tokens rfl (LTokens_tri s hs H hE) fun v H1 h1 l1 => ?_
  obtain ⟨b1, c1, rfl⟩ := h1.sl
  refine den_gives [.bool true] cb_scrimshawlaw03_fixed (fixed_gives H1 (hE.le l1)) rfl pendNil fun H2 l2 => ?_
  cases ht : tokens s with
  | bad a e =>
    have he : e ≠ 0 := fun h => tokens_bad0 s a (by rw [ht, h])
    refine ⟨fun _ => ?_, fun hc => ?_⟩
    · refine den_gives [.bool true] cb_scrimshawlaw03_fixed (fixed_gives H2 (hE.le (PH.le_trans l1 l2))) rfl pendNil fun H3 l3 => ⟨?_, PH.le_trans l1 (PH.le_trans l2 l3)⟩
      simp only [ev0, ev, evV, List.cons_append, List.nil_append, List.getD_cons_zero, List.getD_cons_succ, List.map_cons, List.map_nil, iOf, bOf, sOf, pOf, slLen, slBase, cmpI, arI, Value.ite_bool, int_beq, int_bne, ite_band, ite_bor, Toks.list]
      simp
    · simp only [ev0, ev, evV, List.cons_append, List.nil_append, List.getD_cons_zero, List.getD_cons_succ, List.map_cons, List.map_nil, iOf, bOf, sOf, pOf, slLen, slBase, cmpI, arI, Value.ite_bool, int_beq, int_bne, ite_band, ite_bor, Toks.err] at hc
      simp [he] at hc
  | all ts =>
    refine ⟨fun hc => ?_, fun _ => ?_⟩
    · simp only [ev0, ev, evV, List.cons_append, List.nil_append, List.getD_cons_zero, List.getD_cons_succ, List.map_cons, List.map_nil, iOf, bOf, sOf, pOf, slLen, slBase, cmpI, arI, Value.ite_bool, int_beq, int_bne, ite_band, ite_bor, Toks.err] at hc
      simp at hc
    rw [ht] at h1
    obtain ⟨h4, h8, hT⟩ := (tokens_TR s ts).1 ht
    have l02 := PH.le_trans l1 l2
    simp only [Toks.list, Toks.err, Toks.at_] at h1 ⊢
    refine ⟨fun n vs H' => ∃ p k : Nat, vs = [.bool false, .int .i64 p, .int .i64 k] ∧ k + n = ts.length ∧ p ≤ s.length ∧ TR p (s.drop p) (ts.drop k) ∧ PH.le H2 H', ⟨ts.length, 0, 0, rfl, by omega, by omega, by simpa using hT, PH.le_refl _⟩, ?_⟩
    rintro n vs H' _ ⟨p, k, rfl, hk, hp, hR, hle⟩
    refine ⟨fun h5 => ?_, fun h5 => ?_⟩
    · simp only [ev0, ev, evV, List.cons_append, List.nil_append, List.getD_cons_zero, List.getD_cons_succ, List.map_cons, List.map_nil, iOf, bOf, sOf, pOf, slLen, slBase, cmpI, arI, Value.ite_bool, int_beq, int_bne, ite_band, ite_bor, decide_eq_true_eq] at h5
      have hkl : k < ts.length := by omega
      obtain ⟨t, hkt⟩ : ∃ t, ts[k]? = some t := ⟨_, List.getElem?_eq_getElem hkl⟩
      rw [drop_cons hkt] at hR
      obtain ⟨g, m, ea, et, hm, hgm, hR', u, hu⟩ := hR.head
      have hgm' : p + g + m ≤ s.length := by rw [List.length_drop] at hgm; omega
      obtain ⟨g1, _, ces, g2, g3⟩ := (h1.le (PH.le_trans l2 hle)).get hkt
      obtain ⟨rfl, _⟩ := Tk.Rep_iff.1 g2
      have hcut : (s.take (p + g + m)).drop (p + g) = ((s.drop p).drop g).take m := by rw [List.drop_take, List.drop_drop, show p + g + m - (p + g) = m by omega]
      obtain ⟨hu1, hu2⟩ := hu (by rw [List.length_take]; omega)
      refine ⟨fun vs H3 => vs = [.int .i64 ((p + g + m : Nat) : Int)] ∧ PH.le H2 H3, ?_, ?_⟩
      · rintro vs H3 _ ⟨rfl, hl3⟩
        refine ⟨_, rfl, n - 1, by omega, p + g + m, k + 1, ?_, by omega, hgm', ?_, hl3⟩
        · simp only [ev0, ev, evV, List.cons_append, List.nil_append, List.getD_cons_zero, List.getD_cons_succ, List.map_cons, List.map_nil, iOf, bOf, sOf, pOf, slLen, slBase, cmpI, arI, Value.ite_bool, int_beq, int_bne, ite_band, ite_bor]
          rw [w64 (by omega) (by omega)]; rfl
        · rw [List.drop_drop] at hR'
          rw [show p + g + m = p + (g + m) by omega] at hR' ⊢
          exact hR'
      refine ⟨fun _ => ?_, _, rfl, g3, ?_⟩
      · simp only [Chk.holds, ev0, ev, evV, List.cons_append, List.nil_append, List.getD_cons_zero, List.getD_cons_succ, List.map_cons, List.map_nil, iOf, bOf, sOf, pOf, slLen, slBase, cmpI, arI, Value.ite_bool, int_beq, int_bne, ite_band, ite_bor]; exact ⟨g1, by omega, by omega⟩
      refine ⟨fun h6 => ?_, fun h6 => ?_⟩
      · exfalso
        simp only [ev0, ev, evV, List.cons_append, List.nil_append, List.getD_cons_zero, List.getD_cons_succ, List.map_cons, List.map_nil, iOf, bOf, sOf, pOf, slLen, slBase, cmpI, arI, Value.ite_bool, int_beq, int_bne, ite_band, ite_bor, ea, et, Bool.or_eq_true, decide_eq_true_eq, txt_size] at h6
        rw [if_neg (by omega)] at h6
        simp only [decide_eq_true_eq] at h6
        omega
      refine ⟨fun h7 => ⟨_, lookup_hit, ?_, hle⟩, fun h7 => ?_⟩
      · simp only [ev0, ev, evV, List.cons_append, List.nil_append, List.getD_cons_zero, List.getD_cons_succ, List.map_cons, List.map_nil, iOf, bOf, sOf, pOf, slLen, slBase, cmpI, arI, Value.ite_bool, int_beq, int_bne, ite_band, ite_bor, et]
      refine ⟨fun _ => sub_of (s := s) (k := p + g) (m := p + g + m) rfl (by simp only [ev0, ev, evV, List.cons_append, List.nil_append, List.getD_cons_zero, List.getD_cons_succ, List.map_cons, List.map_nil, iOf, bOf, sOf, pOf, slLen, slBase, cmpI, arI, Value.ite_bool, int_beq, int_bne, ite_band, ite_bor, ea]) (by simp only [ev0, ev, evV, List.cons_append, List.nil_append, List.getD_cons_zero, List.getD_cons_succ, List.map_cons, List.map_nil, iOf, bOf, sOf, pOf, slLen, slBase, cmpI, arI, Value.ite_bool, int_beq, int_bne, ite_band, ite_bor, et]) (by omega) (by omega), ?_⟩
      refine LTokens_call (s := ((s.drop p).drop g).take m) cb_lex_Tokens ?_ (LTokens_tri _ (by rw [List.length_take]; simp only [maxLen] at hs ⊢; omega) _ (hE.le (PH.le_trans l02 hle))) fun w H4 h4 l4 => ?_
      · rw [← hcut]
        exact congrArg (fun x => [x]) (ev_cut (s := s) (k := p + g) (m := p + g + m) rfl (by simp only [ev0, ev, evV, List.cons_append, List.nil_append, List.getD_cons_zero, List.getD_cons_succ, List.map_cons, List.map_nil, iOf, bOf, sOf, pOf, slLen, slBase, cmpI, arI, Value.ite_bool, int_beq, int_bne, ite_band, ite_bor, ea]) (by simp only [ev0, ev, evV, List.cons_append, List.nil_append, List.getD_cons_zero, List.getD_cons_succ, List.map_cons, List.map_nil, iOf, bOf, sOf, pOf, slLen, slBase, cmpI, arI, Value.ite_bool, int_beq, int_bne, ite_band, ite_bor, et]))
      rw [hu1] at h4 ⊢
      simp only [Toks.list, Toks.err, Toks.at_] at h4 ⊢
      refine ⟨fun vs H5 => vs = [.bool false] ∧ PH.le H2 H5, ?_, ?_⟩
      · rintro vs H5 _ ⟨rfl, hl5⟩
        refine ⟨fun h8 => (by simp only [ev0, ev, evV, List.cons_append, List.nil_append, List.getD_cons_zero, List.getD_cons_succ, List.map_cons, List.map_nil, iOf, bOf, sOf, pOf, slLen, slBase, cmpI, arI, Value.ite_bool, int_beq, int_bne, ite_band, ite_bor] at h8; cases h8), fun _ => ⟨_, lookup_hit, ?_, hl5⟩⟩
        simp only [ev0, ev, evV, List.cons_append, List.nil_append, List.getD_cons_zero, List.getD_cons_succ, List.map_cons, List.map_nil, iOf, bOf, sOf, pOf, slLen, slBase, cmpI, arI, Value.ite_bool, int_beq, int_bne, ite_band, ite_bor, et]
      have hsl := h1.le (PH.le_trans l2 (PH.le_trans hle l4))
      have hcap : ts.length ≤ c1 := by
        rcases (SlR.mk_iff.1 h1).2 with ⟨e, hn⟩ | ⟨a, c, e, hc, _⟩
        · rw [hn] at hkl; simp at hkl
        · cases e; exact hc
      refine ⟨fun _ => ?_, fun h8 => by simp only [ev0, ev, evV, List.cons_append, List.nil_append, List.getD_cons_zero, List.getD_cons_succ, List.map_cons, List.map_nil, iOf, bOf, sOf, pOf, slLen, slBase, cmpI, arI, Value.ite_bool, int_beq, int_bne, ite_band, ite_bor] at h8; simp at h8, fun _ => ?_⟩
      · simp only [Chk.holds, ev0, ev, evV, List.cons_append, List.nil_append, List.getD_cons_zero, List.getD_cons_succ, List.map_cons, List.map_nil, iOf, bOf, sOf, pOf, slLen, slBase, cmpI, arI, Value.ite_bool, int_beq, int_bne, ite_band, ite_bor, slCap]
        rw [w64 (by omega) (by omega)]
        exact ⟨by omega, by omega, by omega⟩
      have hc := TAlike_gives [u] [t] w _ H4 h4 (by
        have := hsl.cut (a := k) (b := k + 1) (by omega) (by omega)
        have e : (ts.take (k + 1)).drop k = [t] := by
          rw [List.drop_take, drop_cons hkt, show k + 1 - k = 1 by omega]; rfl
        rw [e] at this
        exact this)
      rw [decide_eq_true (show [u].map Tk.sh = [t].map Tk.sh by simp [hu2])] at hc
      refine den_gives [.bool true] cb_scrimshawref03_Alike ?_ rfl pendNil fun H6 l6 => ⟨_, lookup_hit, ?_, PH.le_trans hle (PH.le_trans l4 l6)⟩
      · simp only [ev0, ev, evV, List.cons_append, List.nil_append, List.getD_cons_zero, List.getD_cons_succ, List.map_cons, List.map_nil, iOf, bOf, sOf, pOf, slLen, slBase, cmpI, arI, Value.ite_bool, int_beq, int_bne, ite_band, ite_bor]
        rw [w64 (by omega) (by omega)]
        exact hc
      · simp only [ev0, ev, evV, List.cons_append, List.nil_append, List.getD_cons_zero, List.getD_cons_succ, List.map_cons, List.map_nil, iOf, bOf, sOf, pOf, slLen, slBase, cmpI, arI, Value.ite_bool, int_beq, int_bne, ite_band, ite_bor]; rfl
    · simp only [ev0, ev, evV, List.cons_append, List.nil_append, List.getD_cons_zero, List.getD_cons_succ, List.map_cons, List.map_nil, iOf, bOf, sOf, pOf, slLen, slBase, cmpI, arI, Value.ite_bool, int_beq, int_bne, ite_band, ite_bor]
      exact ⟨rfl, PH.le_trans l02 hle⟩

theorem wpS_eqlStruct {P : Program} {Ψ : Value → PH → Prop} {H : PH} {t : TypeId} {fs : List Field} {xs ys : List Value} {x y : Operand} {Φ : Value → PH → Prop} (ht : P.underlying t = some (.struct fs.toArray)) (hheld : P.stoodInHeld t = false) (hg : P.eqGuardType P.depth t = false) (ho : OffB 0 fs = true) (hf : FitB P fs xs ys = true) :
    wpS P (eqGuard .eql t x y (.agg xs.toArray) (.agg ys.toArray)) (fun _ H' => wpS P (binOp .eql t (.agg xs.toArray) (.agg ys.toArray)) Φ Ψ H') Ψ H = Φ (.bool (eqCells xs ys)) H := by
  have h1 : ∀ {Ξ : Unit → PH → Prop}, wpS P (eqGuard .eql t x y (.agg xs.toArray) (.agg ys.toArray)) Ξ Ψ H = Ξ () H := by
    intro Ξ
    show wpS P (if (!P.eqGuardType P.depth t) = true then _ else _) Ξ Ψ H = _
    rw [if_pos (by rw [hg]; rfl)]; rfl
  rw [h1]
  show wpS P (do pure (.bool (← Op.equal t _ _))) Φ Ψ H = _
  rw [wpS_bind']
  exact wpS_equalStruct (d := 9998) ht hheld ho hf
theorem den_eqlStruct {P : Program} {H : PH} {X : List PanicEntry → PH → Prop} {β : Type} {E : List Value} {L : LK} {K : β → List Value → PH → LK → Prop} {t U ty : TypeId} {fs : List Field} {xs ys : List Value} {x y : Operand} {args : List (Nat × VE)} {k : Fm β} (ht : P.underlying t = some (.struct fs.toArray)) (hheld : P.stoodInHeld t = false) (hg : P.eqGuardType P.depth t = false) (ho : OffB 0 fs = true)
    (hx : argEv E args x = .agg xs.toArray) (hy : argEv E args y = .agg ys.toArray) (hf : FitB P fs xs ys = true) (hk : den P X k (E ++ [.bool (eqCells xs ys)]) H L K) : den P X (.sem (.binOp .eql t x y U) ty args (.sc .bool) [] k) E H L K := by
  show wpS P (execOp (argEv E args) (bare _ ty)) _ _ H
  rw [exec_binOp, hx, hy, wpS_eqlStruct ht hheld hg ho hf]
  exact ⟨[_], rfl, rfl, pendNil, hk⟩
abbrev Tk.vs (t : Tk) : List Value := [.int .i64 t.kind, txt t.text, .int .i64 t.int, .int .i64 t.at_, .int .i64 t.to]
theorem den_eqTk {X : List PanicEntry → PH → Prop} {β : Type} {H : PH} {E : List Value} {L : LK} {K : β → List Value → PH → LK → Prop} {U ty : TypeId} {x y : Operand} {args : List (Nat × VE)} {k : Fm β} (a b : Tk)
    (hx : argEv E args x = .agg a.vs.toArray) (hy : argEv E args y = .agg b.vs.toArray) (hk : den Tryd.prog X k (E ++ [.bool (decide (a = b))]) H L K) : den Tryd.prog X (.sem (.binOp .eql 30 x y U) ty args (.sc .bool) [] k) E H L K := by
  obtain ⟨fs, h1, h2, h3⟩ := fieldsTk
  exact den_eqlStruct h1 heldTk guardTk h2 hx hy (h3 a b) (by rw [tk_cells]; exact hk)
theorem den_neTk {X : List PanicEntry → PH → Prop} {β : Type} {H : PH} {E : List Value} {L : LK} {K : β → List Value → PH → LK → Prop} {U ty : TypeId} {x y : Operand} {args : List (Nat × VE)} {k : Fm β} (a b : Tk)
    (hx : argEv E args x = .agg a.vs.toArray) (hy : argEv E args y = .agg b.vs.toArray) (hk : den Tryd.prog X k (E ++ [.bool (!decide (a = b))]) H L K) : den Tryd.prog X (.sem (.binOp .neq 30 x y U) ty args (.sc .bool) [] k) E H L K := by
  obtain ⟨fs, h1, h2, h3⟩ := fieldsTk
  exact den_neqStruct h1 heldTk guardTk h2 hx hy (h3 a b) (by rw [tk_cells]; exact hk)
/-- a datum that has neither text nor items is handed in -/
theorem Dat.plain_rep {H : PH} {k n : Int} {x : List UInt8} (hk : InI k) (hn : InI n) (hx : x.length ≤ maxLen) : Dat.Rep H (.mk k n x []) [.int .i64 k, .int .i64 n, txt x, .slice none 0 0] :=
  Dat.Rep_iff.2 ⟨_, rfl, hk, hn, hx, SlR.mk_iff.2 ⟨Nat.zero_le _, .inl ⟨rfl, rfl⟩⟩⟩
theorem Dat.plain_chk {k n : Int} {x : List UInt8} (h : nested k = false) : (Dat.mk k n x []).chk 0 0 = if formOk (.mk k n x []) then (1, 0) else (1, 20) := by
  rw [Dat.chk_eq]
  simp only [Dat.kind, Dat.list, h, Dats.chk]
  cases formOk (.mk k n x []) <;> simp
theorem inI_lit {n : Int} (h1 : -9223372036854775808 ≤ n) (h2 : n ≤ 9223372036854775807) : InI n := ⟨h1, h2⟩

theorem SignStrings_gives (s : List UInt8) (hs : s.length ≤ maxLen) (H : PH) (hE : Errs H) (hT : Tab H) : Gives Tryd.prog n_scrimshawlaw03_SignStrings [txt s] H (.bool true) := by
  refine tri_scrimshawlaw03_SignStrings [txt s] (by kernel_rfl) (by kernel_rfl) ?_
  refine ⟨fun _ => ?_, fun hc => ?_⟩
  · refine den_gives [.bool true] cb_scrimshawlaw03_fixed (fixed_gives H hE) rfl pendNil fun H1 l1 => ⟨rfl, l1⟩
  simp only [ev0, ev, evV, List.cons_append, List.nil_append, List.getD_cons_zero, List.getD_cons_succ, List.map_cons, List.map_nil, iOf, bOf, sOf, pOf, slLen, slBase, cmpI, arI, Value.ite_bool, int_beq, int_bne, ite_band, ite_bor, txt_size, decide_eq_false_iff_not] at hc
  have hs1 : s.length ≤ 1000 := by omega
  have hrep := Dat.plain_rep (H := H) (k := 3) (n := 0) (x := s) ⟨by decide, by decide⟩ ⟨by decide, by decide⟩ hs
  have hchk : (Dat.mk 3 0 s []).chk 0 0 = (1, 0) := by
    rw [Dat.plain_chk (by decide)]
    rw [if_pos (by simp [formOk, Dat.kind, Dat.int, Dat.list, Dat.text, show s.length ≤ 4096 by omega])]
  have htx : (Dat.mk 3 0 s []).textL false = quotedL s := by
    rw [Dat.textL, hchk]
    simp only [if_true]
    rfl
  have hcall := DText_gives (.mk 3 0 s []) _ H hrep hT
  rw [hchk, htx] at hcall
  refine den_gives [txt (quotedL s), .int .i64 0] cb_data_Text hcall rfl pendNil fun H1 l1 => ?_
  have hql : (quotedL s).length ≤ 4002 := by
    have := quotes_len s
    simp only [quotedL, List.length_append, List.length_cons, List.length_nil]; omega
  refine LTokens_call (s := quotedL s) cb_lex_Tokens rfl (LTokens_tri _ (by simp only [maxLen]; omega) _ (hE.le l1)) fun v H2 h2 l2 => ?_
  rw [tokens_quoted s hs1] at h2 ⊢
  simp only [Toks.list, Toks.err, Toks.at_] at h2 ⊢
  refine ⟨fun vs H' => vs = [.bool true] ∧ PH.le H H', ?_, ?_⟩
  · rintro vs H' _ ⟨rfl, hl⟩
    exact ⟨rfl, hl⟩
  have l02 := PH.le_trans l1 l2
  refine den_gives [.bool true] cb_scrimshawlaw03_fixed (fixed_gives H2 (hE.le l02)) rfl pendNil fun H3 l3 => ?_
  obtain ⟨b1, c1, rfl⟩ := h2.sl
  obtain ⟨g1, _, ces, g2, g3⟩ := (h2.le l3).get (i := 0) rfl
  obtain ⟨rfl, _⟩ := Tk.Rep_iff.1 g2
  refine ⟨fun _ => ?_, fun _ => ⟨_, rfl, g3, ?_⟩, fun h => ?_⟩
  · simp only [Chk.holds, ev0, ev, evV, List.cons_append, List.nil_append, List.getD_cons_zero, List.getD_cons_succ, List.map_cons, List.map_nil, iOf, bOf, sOf, pOf, slLen, slBase, cmpI, arI, Value.ite_bool, int_beq, int_bne, ite_band, ite_bor]; exact ⟨g1, by omega, by simp⟩
  · refine den_eqTk (.mk 8 s 0 0 ((quotedL s).length : Nat)) (.mk 8 s 0 0 ((quotedL s).length : Nat)) rfl ?_ ⟨_, lookup_hit, ?_, PH.le_trans l02 l3⟩
    · simp only [argEv, List.lookup, ev0, ev, evV, List.cons_append, List.nil_append, List.getD_cons_zero, List.getD_cons_succ, List.map_cons, List.map_nil, iOf, bOf, sOf, pOf, slLen, slBase, cmpI, arI, Value.ite_bool, int_beq, int_bne, ite_band, ite_bor]; rfl
    · simp only [ev0, ev, evV, List.cons_append, List.nil_append, List.getD_cons_zero, List.getD_cons_succ, List.map_cons, List.map_nil, iOf, bOf, sOf, pOf, slLen, slBase, cmpI, arI, Value.ite_bool, int_beq, int_bne, ite_band, ite_bor]; simp
  · simp only [ev0, ev, evV, List.cons_append, List.nil_append, List.getD_cons_zero, List.getD_cons_succ, List.map_cons, List.map_nil, iOf, bOf, sOf, pOf, slLen, slBase, cmpI, arI, Value.ite_bool, int_beq, int_bne, ite_band, ite_bor] at h
    simp at h

theorem SignJoins_gives (s t : List UInt8) (hs : s.length ≤ maxLen) (ht : t.length ≤ maxLen) (H : PH) (hE : Errs H) : Gives Tryd.prog n_scrimshawlaw03_SignJoins [txt s, txt t] H (.bool true) := by
  refine tri_scrimshawlaw03_SignJoins [txt s, txt t] (by kernel_rfl) (by kernel_rfl) ?_
  refine LTokens_call (s := s) cb_lex_Tokens rfl (LTokens_tri s hs H hE) fun v1 H1 h1 l1 => ?_
  refine LTokens_call (s := t) cb_lex_Tokens rfl (LTokens_tri t ht H1 (hE.le l1)) fun v2 H2 h2 l2 => ?_
  obtain ⟨b1, c1, rfl⟩ := h1.sl
  obtain ⟨b2, c2, rfl⟩ := h2.sl
  have l02 := PH.le_trans l1 l2
  refine den_gives [.bool true] cb_scrimshawlaw03_fixed (fixed_gives H2 (hE.le l02)) rfl pendNil fun H3 l3 => ?_
  have l03 := PH.le_trans l02 l3
  refine ⟨fun _ => ?_, fun hc => ?_⟩
  · exact den_gives [.bool true] cb_scrimshawlaw03_fixed (fixed_gives H3 (hE.le l03)) rfl pendNil fun H4 l4 => ⟨rfl, PH.le_trans l03 l4⟩
  simp only [ev0, ev, evV, List.cons_append, List.nil_append, List.getD_cons_zero, List.getD_cons_succ, List.map_cons, List.map_nil, iOf, bOf, sOf, pOf, slLen, slBase, cmpI, arI, Value.ite_bool, int_beq, int_bne, ite_band, ite_bor, txt_size] at hc
  cases hts : tokens s with
  | bad a e =>
    have he : e ≠ 0 := fun h => tokens_bad0 s a (by rw [hts, h])
    simp [hts, Toks.err, he] at hc
  | all ts =>
    simp only [Toks.list, Toks.err, Toks.at_, hts] at hc h1 ⊢
    have hm2 : (tokens t).list.length ≤ 9223372036854775807 := by have := h2.max; simp only [maxLen] at this; omega
    have m1 := h1.max
    simp only [maxLen] at m1 hs ht
    obtain ⟨hs2, ht2, hn⟩ : s.length ≤ 2000 ∧ t.length ≤ 2000 ∧ ts.length + t.length ≤ 1000 := by
      obtain ⟨_, h8, _⟩ := (tokens_TR s ts).1 hts
      simp at hc
      obtain ⟨⟨q1, q2⟩, q3⟩ := hc
      have q1' : s.length ≤ 2000 := by omega
      have q2' : t.length ≤ 2000 := by omega
      rw [plus (by omega)] at q3
      exact ⟨q1', q2', by omega⟩
    have hj := tokens_join hts hs2 ht2 hn
    refine ⟨fun _ => ?_, fun _ => ?_, ?_⟩
    · simp only [Chk.holds, ev0, ev, evV, List.cons_append, List.nil_append, List.getD_cons_zero, List.getD_cons_succ, List.map_cons, List.map_nil, iOf, bOf, sOf, pOf, slLen, slBase, cmpI, arI, Value.ite_bool, int_beq, int_bne, ite_band, ite_bor, txt_size, List.length_cons, List.length_nil]; simp [IntKind.max, IntKind.bits, IntKind.signed]; omega
    · simp only [Chk.holds, ev0, ev, evV, List.cons_append, List.nil_append, List.getD_cons_zero, List.getD_cons_succ, List.map_cons, List.map_nil, iOf, bOf, sOf, pOf, slLen, slBase, cmpI, arI, Value.ite_bool, int_beq, int_bne, ite_band, ite_bor, cat_txt, txt_size, List.length_append, List.length_cons, List.length_nil]; simp [IntKind.max, IntKind.bits, IntKind.signed]; omega
    refine LTokens_call (s := s ++ 10 :: t) cb_lex_Tokens ?_ (LTokens_tri _ (by simp only [List.length_append, List.length_cons, maxLen]; omega) _ (hE.le l03)) fun v3 H4 h4 l4 => ?_
    · simp only [ev0, ev, evV, List.cons_append, List.nil_append, List.getD_cons_zero, List.getD_cons_succ, List.map_cons, List.map_nil, iOf, bOf, sOf, pOf, slLen, slBase, cmpI, arI, Value.ite_bool, int_beq, int_bne, ite_band, ite_bor, cat_txt]; simp
    obtain ⟨b3, c3, rfl⟩ := h4.sl
    have l04 := PH.le_trans l03 l4
    rw [hj] at h4 ⊢
    cases htt : tokens t with
    | bad a e =>
      have he : e ≠ 0 := fun h => tokens_bad0 t a (by rw [htt, h])
      simp only [htt, Toks.list, Toks.err, Toks.at_, Toks.shift, Toks.pre] at h2 h4 ⊢
      refine ⟨fun _ => ⟨?_, l04⟩, fun h => ?_⟩
      · simp only [ev0, ev, evV, List.cons_append, List.nil_append, List.getD_cons_zero, List.getD_cons_succ, List.map_cons, List.map_nil, iOf, bOf, sOf, pOf, slLen, slBase, cmpI, arI, Value.ite_bool, int_beq, int_bne, ite_band, ite_bor, txt_size]
        obtain ⟨a', rfl, ha⟩ := tokens_at htt
        rw [w64 (n := (a' : Int) + (s.length : Int)) (by omega) (by omega), w64 (by omega) (by omega)]
        have : ((a' : Int) + ((s.length + 1 : Nat) : Int)) = (a' : Int) + (s.length : Int) + 1 := by omega
        rw [this]; simp
      · simp only [ev0, ev, evV, List.cons_append, List.nil_append, List.getD_cons_zero, List.getD_cons_succ, List.map_cons, List.map_nil, iOf, bOf, sOf, pOf, slLen, slBase, cmpI, arI, Value.ite_bool, int_beq, int_bne, ite_band, ite_bor] at h
        simp [he] at h
    | all us =>
      simp only [htt, Toks.list, Toks.err, Toks.at_, Toks.shift, Toks.pre] at h2 h4 ⊢
      refine ⟨fun h => (by simp only [ev0, ev, evV, List.cons_append, List.nil_append, List.getD_cons_zero, List.getD_cons_succ, List.map_cons, List.map_nil, iOf, bOf, sOf, pOf, slLen, slBase, cmpI, arI, Value.ite_bool, int_beq, int_bne, ite_band, ite_bor] at h; simp at h), fun _ => ?_⟩
      refine ⟨fun vs H' => vs = [.bool true] ∧ PH.le H H', ?_, ?_⟩
      · rintro vs H' _ ⟨rfl, hl⟩
        exact ⟨rfl, hl⟩
      refine ⟨fun _ => ?_, fun h => (by simp only [ev0, ev, evV, List.cons_append, List.nil_append, List.getD_cons_zero, List.getD_cons_succ, List.map_cons, List.map_nil, iOf, bOf, sOf, pOf, slLen, slBase, cmpI, arI, Value.ite_bool, int_beq, int_bne, ite_band, ite_bor] at h; simp at h)⟩
      have hul : us.length ≤ 2048 := ((tokens_TR t us).1 htt).2.1
      have hsl : ts.length ≤ 2048 := ((tokens_TR s ts).1 hts).2.1
      refine den_lit0 (α := Tk) (b := 48) uToks elemTk fun v5 H5 a5 l5 => ?_
      refine den_append (b := 48) uToks elemTk rfl rfl a5 ((h1.le (PH.le_trans l2 (PH.le_trans l3 l4))).le a5.le) (by simp only [maxLen, List.length_nil]; omega) (by simp only [List.length_nil]; omega) fun v6 H6 a6 w6 => ⟨pendNil, ?_⟩
      refine den_append (b := 48) uToks elemTk rfl rfl a6 ((h2.le (PH.le_trans l3 l4)).le a6.le) (by simp only [maxLen, List.length_append, List.length_nil]; omega) (by simp only [List.length_append, List.length_nil]; omega) fun v7 H7 a7 w7 => ⟨pendNil, ?_⟩
      have hc := TAlike_gives _ _ _ v7 H7 (h4.le a7.all) a7.slR
      rw [decide_eq_true (by simp only [List.nil_append, List.map_append, shift_sh])] at hc
      exact den_gives [.bool true] cb_scrimshawref03_Alike hc rfl pendNil fun H8 l8 => ⟨_, lookup_hit, rfl, PH.le_trans l04 (PH.le_trans a7.all l8)⟩

theorem Cut.at : ∀ (ts : List Tk) (p k : Nat) (t : Tk), ts[k]? = some t → Cut p ts t.at_
  | [], _, k, t, h => by simp at h
  | u :: ts, p, 0, t, h => by simp at h; subst h; exact .inl rfl
  | u :: ts, p, k + 1, t, h => .inr (Cut.at ts _ k t (by simpa using h))
theorem TR.bounds {p : Nat} {l : List UInt8} {ts : List Tk} (h : TR p l ts) : ∀ t ∈ ts, (p : Int) ≤ t.at_ ∧ t.at_ < t.to ∧ t.to ≤ (p + l.length : Nat) := by
  induction h with
  | nil _ => intro t ht; cases ht
  | cons h1 h2 h3 h4 h5 ih =>
    rename_i p l v kd n x m g ts
    have hm := one_len h2 h4
    intro t ht
    rcases List.mem_cons.1 ht with rfl | ht
    · simp only [Tk.at_, Tk.to]; omega
    · have := ih t ht
      rw [List.length_drop] at this
      omega
theorem Cut.last : ∀ (ts : List Tk) (p : Nat) (t : Tk), ts[ts.length - 1]? = some t → 0 ≤ t.to → Cut p ts t.to
  | [], _, t, h, _ => by simp at h
  | [u], p, t, h, h0 => by
    simp at h; subst h
    exact .inr (by show u.to = ((u.to.toNat : Nat) : Int); omega)
  | u :: w :: ts, p, t, h, h0 => .inr (Cut.last (w :: ts) _ t (by simpa using h) h0)
theorem rem2 (a : Int) (n : Nat) (hn : 0 < n) (hb : n ≤ 4096) : ∃ k : Nat, k < n ∧ arI .rem .i64 (arI .add .i64 (arI .rem .i64 a (n : Int)) (n : Int)) (n : Int) = (k : Int) := by
  have h1 := Int.tmod_lt_of_pos a (b := (n : Int)) (by omega)
  have h2 := Int.lt_tmod_of_pos a (b := (n : Int)) (by omega)
  have h3 : arI .add .i64 (arI .rem .i64 a (n : Int)) (n : Int) = a.tmod n + n := by
    show IntKind.i64.wrap (a.tmod n + n) = _
    exact w64 (by omega) (by omega)
  rw [h3]
  show ∃ k : Nat, k < n ∧ (a.tmod n + n).tmod n = (k : Int)
  have h4 := Int.tmod_nonneg (n : Int) (show 0 ≤ a.tmod n + n by omega)
  have h5 := Int.tmod_lt_of_pos (a.tmod n + n) (b := (n : Int)) (by omega)
  exact ⟨((a.tmod n + n).tmod n).toNat, by omega, by omega⟩
theorem uTexts : Tryd.prog.underlying 31 = some (.slice 9) := by kernel_rfl
theorem elemText : ElemOk Tryd.prog 9 1 16 = true := by kernel_rfl
theorem cs_txt {H : PH} {l : List UInt8} : CsR H l [txt l] ↔ l.length ≤ maxLen := by
  constructor
  · rintro ⟨v, vs, e, ⟨_, h⟩, _⟩; exact h
  · intro h; exact ⟨_, _, rfl, ⟨rfl, h⟩, rfl⟩
theorem cs_txt' {H : PH} {l : List UInt8} {cs : List Value} (h : CsR H l cs) : cs = [txt l] := by
  obtain ⟨v, vs, rfl, ⟨rfl, _⟩, rfl⟩ := h; rfl

theorem SignGaps_gives (s : List UInt8) (at_ what : Int) (hs : s.length ≤ maxLen) (H : PH) (hE : Errs H) : Gives Tryd.prog n_scrimshawlaw03_SignGaps [txt s, .int .i64 at_, .int .i64 what] H (.bool true) := by
  refine tri_scrimshawlaw03_SignGaps [txt s, .int .i64 at_, .int .i64 what] (by kernel_rfl) (by kernel_rfl) ?_
  refine LTokens_call (s := s) cb_lex_Tokens rfl (LTokens_tri s hs H hE) fun v1 H1 h1 l1 => ?_
  obtain ⟨b1, c1, rfl⟩ := h1.sl
  refine den_gives [.bool true] cb_scrimshawlaw03_fixed (fixed_gives H1 (hE.le l1)) rfl pendNil fun H2 l2 => ?_
  have l02 := PH.le_trans l1 l2
  refine ⟨fun _ => ?_, fun hc => ?_⟩
  · exact den_gives [.bool true] cb_scrimshawlaw03_fixed (fixed_gives H2 (hE.le l02)) rfl pendNil fun H4 l4 => ⟨rfl, PH.le_trans l02 l4⟩
  simp only [ev0, ev, evV, List.cons_append, List.nil_append, List.getD_cons_zero, List.getD_cons_succ, List.map_cons, List.map_nil, iOf, bOf, sOf, pOf, slLen, slBase, cmpI, arI, Value.ite_bool, int_beq, int_bne, ite_band, ite_bor] at hc
  cases hts : tokens s with
  | bad a e =>
    have he : e ≠ 0 := fun h => tokens_bad0 s a (by rw [hts, h])
    simp [hts, Toks.err, he] at hc
  | all ts =>
    simp only [Toks.list, Toks.err, Toks.at_, hts] at hc h1 ⊢
    obtain ⟨h4, h8, hT⟩ := (tokens_TR s ts).1 hts
    refine den_lit (l := gapsL) (b := 16) [txt [32], txt [10], txt [13, 9], txt [59, 120, 10], txt [59, 34, 40, 10, 32]] uTexts elemText rfl (by decide) (by decide) rfl
      (.cons ?_ (.cons ?_ (.cons ?_ (.cons ?_ (.cons ?_ .nil))))) pendNil fun v3 H3 a3 l3 _ => ?_
    iterate 5 exact cs_txt.2 (by simp [maxLen])
    obtain ⟨j, hj, ej⟩ := rem2 what 5 (by omega) (by omega)
    have hg := a3.slR
    obtain ⟨g, hgj⟩ : ∃ g, gapsL[j]? = some g := ⟨_, List.getElem?_eq_getElem hj⟩
    have hgm : g ∈ gapsL := List.mem_of_getElem? hgj
    obtain ⟨ok1, ok2⟩ := gaps_ok g hgm
    have hgl : g.length ≤ 5 := by
      simp only [gapsL, List.mem_cons, List.not_mem_nil, or_false] at hgm
      rcases hgm with rfl | rfl | rfl | rfl | rfl <;> decide
    obtain ⟨b3, c3, rfl⟩ := a3.slR.sl
    obtain ⟨g1, _, ces, g2, g3⟩ := hg.get hgj
    obtain rfl := cs_txt' g2
    have l03 := PH.le_trans l02 l3
    refine ⟨fun _ => ?_, [txt g], rfl, ?_, ?_⟩
    · show _ ∧ 0 ≤ iOf (ev _ _ _) ∧ iOf (ev _ _ _) < _
      simp only [ev, iOf, List.cons_append, List.nil_append, List.getD_cons_zero, List.getD_cons_succ]
      rw [show arI .rem .i64 (arI .add .i64 (arI .rem .i64 what 5) 5) 5 = (j : Int) from ej]
      exact ⟨g1, by omega, by show (j : Int) < ((5 : Nat) : Int); omega⟩
    · simp only [ev0, ev, iOf, List.cons_append, List.nil_append, List.getD_cons_zero, List.getD_cons_succ]
      rw [show arI .rem .i64 (arI .add .i64 (arI .rem .i64 what 5) 5) 5 = (j : Int) from ej]
      exact g3
    refine ⟨fun vs H' => ∃ q : Nat, vs = [.int .i64 q] ∧ q ≤ s.length ∧ ((ts = [] ∧ q = s.length) ∨ Cut 0 ts q) ∧ PH.le H3 H', ?_, ?_⟩
    · rintro vs H5 _ ⟨q, rfl, hq, hcut, l5⟩
      have e1 : ev ([txt s, .int .i64 at_, .int .i64 what] ++ [.slice b1 ts.length c1, .int .i64 0, .int .i64 0] ++ [.bool true] ++ [.slice b3 gapsL.length c3] ++ [txt g] ++ [.int .i64 (q : Int)]) (fun _ => 0) (.ssub (.atom 0) (.int .i64 0) (.atom 9)) = txt (s.take q) := by
        have := ev_cut (E := [txt s, .int .i64 at_, .int .i64 what] ++ [.slice b1 ts.length c1, .int .i64 0, .int .i64 0] ++ [.bool true] ++ [.slice b3 gapsL.length c3] ++ [txt g] ++ [.int .i64 (q : Int)]) (s := s) (a := .atom 0) (i := .int .i64 0) (j := .atom 9) (k := 0) (m := q) rfl rfl rfl
        rw [List.drop_zero] at this; exact this
      have e2 : ev ([txt s, .int .i64 at_, .int .i64 what] ++ [.slice b1 ts.length c1, .int .i64 0, .int .i64 0] ++ [.bool true] ++ [.slice b3 gapsL.length c3] ++ [txt g] ++ [.int .i64 (q : Int)]) (fun _ => 0) (.ssub (.atom 0) (.atom 9) (.slen (.atom 0))) = txt (s.drop q) := ev_rest rfl rfl
      have e3 : ev ([txt s, .int .i64 at_, .int .i64 what] ++ [.slice b1 ts.length c1, .int .i64 0, .int .i64 0] ++ [.bool true] ++ [.slice b3 gapsL.length c3] ++ [txt g] ++ [.int .i64 (q : Int)]) (fun _ => 0) (.cat (.ssub (.atom 0) (.int .i64 0) (.atom 9)) (.atom 8)) = txt (s.take q ++ g) := by
        rw [ev, e1]; exact congrArg Value.string (cat_txt _ _)
      have e4 : ev ([txt s, .int .i64 at_, .int .i64 what] ++ [.slice b1 ts.length c1, .int .i64 0, .int .i64 0] ++ [.bool true] ++ [.slice b3 gapsL.length c3] ++ [txt g] ++ [.int .i64 (q : Int)]) (fun _ => 0) (.cat (.cat (.ssub (.atom 0) (.int .i64 0) (.atom 9)) (.atom 8)) (.ssub (.atom 0) (.atom 9) (.slen (.atom 0)))) = txt (s.take q ++ g ++ s.drop q) := by
        rw [ev, e3, e2]; exact congrArg Value.string (cat_txt _ _)
      have hlen : (s.take q ++ g ++ s.drop q).length = s.length + g.length := by
        simp only [List.length_append, List.length_take, List.length_drop]; omega
      have hl63 : (9223372036854775807 : Int) = IntKind.i64.max := by decide
      refine ⟨fun _ => sub_of (s := s) (k := 0) (m := q) rfl rfl rfl (by omega) hq, fun _ => ?_, fun _ => sub_of (s := s) (k := q) (m := s.length) rfl rfl (by simp only [ev0, ev, evV, List.cons_append, List.nil_append, List.getD_cons_zero, List.getD_cons_succ, List.map_cons, List.map_nil, iOf, bOf, sOf, pOf, slLen, slBase, cmpI, arI, Value.ite_bool, int_beq, int_bne, ite_band, ite_bor, txt_size]) hq (Nat.le_refl _), fun _ => ?_, ?_⟩
      · show (((sOf (ev _ _ _)).size + (sOf (ev _ _ _)).size : Nat) : Int) ≤ IntKind.i64.max
        rw [e1]
        show (((⟨(s.take q).toArray⟩ : ByteArray).size + (⟨g.toArray⟩ : ByteArray).size : Nat) : Int) ≤ _
        rw [txt_size, txt_size, List.length_take, ← hl63]; omega
      · show (((sOf (ev _ _ _)).size + (sOf (ev _ _ _)).size : Nat) : Int) ≤ IntKind.i64.max
        rw [e3, e2]
        show (((⟨(s.take q ++ g).toArray⟩ : ByteArray).size + (⟨(s.drop q).toArray⟩ : ByteArray).size : Nat) : Int) ≤ _
        rw [txt_size, txt_size, List.length_append, List.length_take, List.length_drop, ← hl63]; omega
      have l05 := PH.le_trans l03 l5
      refine ⟨fun _ => ⟨rfl, l05⟩, fun h6 => ?_⟩
      have h7 : s.length + g.length ≤ 4096 ∧ ¬ (q = s.length ∧ ts = []) := by
        unfold ev0 at h6
        rw [ev, ev, ev, ev_slen e4] at h6
        simp only [ev0, ev, evV, List.cons_append, List.nil_append, List.getD_cons_zero, List.getD_cons_succ, List.map_cons, List.map_nil, iOf, bOf, sOf, pOf, slLen, slBase, cmpI, arI, Value.ite_bool, int_beq, int_bne, ite_band, ite_bor, txt_size, hlen] at h6
        constructor
        · rcases Nat.lt_or_ge 4096 (s.length + g.length) with h | h
          · rw [decide_eq_true (by omega)] at h6; cases h6
          · exact h
        · rintro ⟨rfl, rfl⟩
          simp at h6
      obtain ⟨h7, h8'⟩ := h7
      rcases hcut with hcut | hcut
      · exact absurd ⟨hcut.2, hcut.1⟩ h8'
      have hdec : s = s.take q ++ s.drop q := (List.take_append_drop q s).symm
      have hql : (s.take q).length = q := by rw [List.length_take]; omega
      obtain ⟨ts', hT', hsh⟩ := hT.ins ok1 ok2 (s.take q) (s.drop q) hdec (by rw [hql, Nat.zero_add]; exact hcut)
      have hsl : ts'.length = ts.length := by simpa using congrArg List.length hsh
      have htk : tokens (s.take q ++ g ++ s.drop q) = .all ts' := (tokens_TR _ _).2 ⟨by omega, by omega, by rw [List.append_assoc]; exact hT'⟩
      refine LTokens_call (s := s.take q ++ g ++ s.drop q) cb_lex_Tokens (congrArg (fun x => [x]) e4) (LTokens_tri _ (by rw [hlen]; simp only [maxLen]; omega) _ (hE.le l05)) fun v6 H6 h9 l6 => ?_
      rw [htk] at h9 ⊢
      simp only [Toks.list, Toks.err, Toks.at_] at h9 ⊢
      refine ⟨fun vs H' => vs = [.bool true] ∧ PH.le H H', ?_, ?_⟩
      · rintro vs H' _ ⟨rfl, hl⟩
        exact ⟨rfl, hl⟩
      refine ⟨fun _ => ?_, fun h => (by simp only [ev0, ev, evV, List.cons_append, List.nil_append, List.getD_cons_zero, List.getD_cons_succ, List.map_cons, List.map_nil, iOf, bOf, sOf, pOf, slLen, slBase, cmpI, arI, Value.ite_bool, int_beq, int_bne, ite_band, ite_bor] at h; simp at h)⟩
      have hc := TAlike_gives ts' ts v6 _ H6 h9 (h1.le (PH.le_trans l2 (PH.le_trans l3 (PH.le_trans l5 l6))))
      rw [decide_eq_true hsh] at hc
      exact den_gives [.bool true] cb_scrimshawref03_Alike hc rfl pendNil fun H8 l8 => ⟨_, lookup_hit, rfl, PH.le_trans l05 (PH.le_trans l6 l8)⟩
    refine ⟨fun h5 => ?_, fun h5 => ?_⟩
    · simp only [ev0, ev, evV, List.cons_append, List.nil_append, List.getD_cons_zero, List.getD_cons_succ, List.map_cons, List.map_nil, iOf, bOf, sOf, pOf, slLen, slBase, cmpI, arI, Value.ite_bool, int_beq, int_bne, ite_band, ite_bor, decide_eq_true_eq] at h5
      have hpos : 0 < ts.length := by omega
      obtain ⟨k, hk, ek⟩ := rem2 at_ ts.length hpos (by omega)
      obtain ⟨t, hkt⟩ : ∃ t, ts[k]? = some t := ⟨_, List.getElem?_eq_getElem hk⟩
      have hmem := List.mem_of_getElem? hkt
      have hb := hT.bounds t hmem
      obtain ⟨f1, _, ces, f2, f3⟩ := (h1.le (PH.le_trans l2 l3)).get hkt
      obtain ⟨rfl, _⟩ := Tk.Rep_iff.1 f2
      have f4 := rowAt_sub f3 3 1
      obtain ⟨u, hlt⟩ : ∃ u, ts[ts.length - 1]? = some u := ⟨_, List.getElem?_eq_getElem (by omega)⟩
      have hb2 := hT.bounds u (List.mem_of_getElem? hlt)
      obtain ⟨d1, _, ces, d2, d3⟩ := (h1.le (PH.le_trans l2 l3)).get hlt
      obtain ⟨rfl, _⟩ := Tk.Rep_iff.1 d2
      have d4 := rowAt_sub d3 4 1
      have ew : IntKind.i64.wrap ((ts.length : Int) - 1) = ((ts.length - 1 : Nat) : Int) := by rw [w64 (by omega) (by omega)]; omega
      refine ⟨fun _ => ?_, fun _ => ?_, fun _ => ?_, [.int .i64 t.at_], rfl, ?_, fun h6 => ?_, fun h6 => ?_⟩
      · simp only [Chk.holds, ev0, ev, evV, List.cons_append, List.nil_append, List.getD_cons_zero, List.getD_cons_succ, List.map_cons, List.map_nil, iOf, bOf, sOf, pOf, slLen, slBase, cmpI, arI, Value.ite_bool, int_beq, int_bne, ite_band, ite_bor]; omega
      · simp only [Chk.holds, ev0, ev, evV, List.cons_append, List.nil_append, List.getD_cons_zero, List.getD_cons_succ, List.map_cons, List.map_nil, iOf, bOf, sOf, pOf, slLen, slBase, cmpI, arI, Value.ite_bool, int_beq, int_bne, ite_band, ite_bor]; omega
      · show _ ∧ 0 ≤ iOf (ev _ _ _) ∧ iOf (ev _ _ _) < _
        simp only [ev, iOf, slLen, List.cons_append, List.nil_append, List.getD_cons_zero, List.getD_cons_succ]
        rw [ek]
        exact ⟨f1, by omega, by show (k : Int) < ((ts.length : Nat) : Int); omega⟩
      · simp only [ev0, ev, iOf, slLen, List.cons_append, List.nil_append, List.getD_cons_zero, List.getD_cons_succ]
        rw [ek]
        exact f4
      · refine ⟨fun _ => ?_, [.int .i64 u.to], rfl, ?_, _, lookup_hit, ?_⟩
        · show _ ∧ 0 ≤ iOf (ev _ _ _) ∧ iOf (ev _ _ _) < _
          simp only [ev, iOf, slLen, arI, List.cons_append, List.nil_append, List.getD_cons_zero, List.getD_cons_succ]
          rw [ew]
          exact ⟨d1, by omega, by show ((ts.length - 1 : Nat) : Int) < ((ts.length : Nat) : Int); omega⟩
        · simp only [ev0, ev, iOf, slLen, arI, List.cons_append, List.nil_append, List.getD_cons_zero, List.getD_cons_succ]
          rw [ew]
          exact d4
        · refine ⟨u.to.toNat, ?_, by omega, .inr ?_, PH.le_refl _⟩
          · show [Value.int .i64 u.to] = _
            rw [show ((u.to.toNat : Nat) : Int) = u.to by omega]
          · rw [show ((u.to.toNat : Nat) : Int) = u.to by omega]
            exact Cut.last ts 0 u hlt (by omega)
      · refine ⟨_, lookup_hit, t.at_.toNat, ?_, by omega, .inr ?_, PH.le_refl _⟩
        · show [Value.int .i64 t.at_] = _
          rw [show ((t.at_.toNat : Nat) : Int) = t.at_ by omega]
        · rw [show ((t.at_.toNat : Nat) : Int) = t.at_ by omega]
          exact Cut.at ts 0 k t hkt
    · simp only [ev0, ev, evV, List.cons_append, List.nil_append, List.getD_cons_zero, List.getD_cons_succ, List.map_cons, List.map_nil, iOf, bOf, sOf, pOf, slLen, slBase, cmpI, arI, Value.ite_bool, int_beq, int_bne, ite_band, ite_bor, decide_eq_false_iff_not] at h5
      have : ts = [] := List.length_eq_zero_iff.1 (by omega)
      refine ⟨_, lookup_hit, s.length, ?_, Nat.le_refl _, .inl ⟨this, rfl⟩, PH.le_refl _⟩
      simp only [ev0, ev, evV, List.cons_append, List.nil_append, List.getD_cons_zero, List.getD_cons_succ, List.map_cons, List.map_nil, iOf, bOf, sOf, pOf, slLen, slBase, cmpI, arI, Value.ite_bool, int_beq, int_bne, ite_band, ite_bor, txt_size]

/-! ### what texts say -/
/-- the text of a datum that is well formed, if it has no items -/
theorem plain_text {k n : Int} {x : List UInt8} (h : nested k = false) : (Dat.mk k n x []).textL false = if formOk (.mk k n x []) then (Dat.mk k n x []).txtL false else [] := by
  rw [Dat.textL, Dat.plain_chk h]
  cases formOk (.mk k n x []) <;> simp
theorem plain_err {k n : Int} {x : List UInt8} (h : nested k = false) : ((Dat.mk k n x []).chk 0 0).2 = if formOk (.mk k n x []) then 0 else 20 := by
  rw [Dat.plain_chk h]
  cases formOk (.mk k n x []) <;> simp
/-- a row of one token: its cells -/
theorem one_row {H : PH} {t : Tk} {b : Option Addr} {c : Nat} (h : SlR H [t] (.slice b 1 c)) : (slBase (.slice b 1 c)).isSome = true ∧ (pOf (eltV (.slice b 1 c) 0 5)).isSome = true ∧ rowAt H (pOf (eltV (.slice b 1 c) 0 5)) t.vs := by
  obtain ⟨g1, g0, ces, g2, g3⟩ := h.get (i := 0) rfl
  obtain ⟨rfl, _⟩ := Tk.Rep_iff.1 g2
  exact ⟨g1, g0, g3⟩
theorem back_cases (c : UInt8) : (c = 110 ∧ tokens [34, 92, c, 34] = .all [.mk 8 [10] 0 0 4]) ∨ ((c = 92 ∨ c = 34) ∧ c ≠ 110 ∧ tokens [34, 92, c, 34] = .all [.mk 8 [c] 0 0 4]) ∨ (c ≠ 110 ∧ c ≠ 92 ∧ c ≠ 34 ∧ ∃ a, tokens [34, 92, c, 34] = .bad a 32) := by
  have h := List.all_eq_true.1 backT_all c.toNat (List.mem_range.2 c.toNat_lt)
  rw [UInt8.ofNat_toNat] at h
  have q : ∀ n : Nat, n < 256 → (c.toNat = n ↔ c = UInt8.ofNat n) := fun n hn => ⟨fun e => by rw [← e, UInt8.ofNat_toNat], fun e => by rw [e]; exact UInt8.toNat_ofNat_of_lt' (by simpa using hn)⟩
  split at h
  · rename_i t ht
    simp only [Bool.or_eq_true, Bool.and_eq_true, decide_eq_true_eq, q 110 (by omega), q 92 (by omega), q 34 (by omega)] at h
    rcases h with ⟨h1, h2⟩ | ⟨h1, h2⟩
    · exact .inl ⟨h1, by rw [ht, h2]⟩
    · refine .inr (.inl ⟨h1, ?_, by rw [ht, h2]⟩)
      rcases h1 with h1 | h1 <;> (rw [h1]; decide)
  · rename_i b e ht
    simp only [Bool.and_eq_true, decide_eq_true_eq, ne_eq, q 110 (by omega), q 92 (by omega), q 34 (by omega)] at h
    exact .inr (.inr ⟨h.1.1.1, h.1.1.2, h.1.2, b, by rw [ht, h.2]⟩)
  · cases h
theorem u8b (c : UInt8) (n : Nat) (hn : n < 256) : ((c.toNat : Int) = (n : Int)) ↔ c = UInt8.ofNat n := u8_eq_lit c n hn
theorem uBytes' : Tryd.prog.underlying 39 = some (.slice 5) := uBytes
/-- one byte, made a text -/
theorem den_charText {X : List PanicEntry → PH → Prop} {β : Type} {H : PH} {E : List Value} {L : LK} {K : β → List Value → PH → LK → Prop} {ty ty2 : TypeId} {ps x : Operand} {args args2 : List (Nat × VE)} {k : Fm β} (c : UInt8) {pend : List (SV × List SV)}
    (hps : argEv E args ps = encB c) (hx : ∀ u, argEv (E ++ [u]) args2 x = u) (hp : pendOk E H pend) (hp2 : ∀ u H', PH.le H H' → pendOk (E ++ [u]) H' pend) (hk : ∀ u H', PH.le H H' → den Tryd.prog X k (E ++ [u] ++ [txt [c]]) H' L K) :
    den Tryd.prog X (.sem (.buildSlice 39 1 #[(0, ps)]) ty args (.sc .sl) pend (.sem (.convert 39 9 x) ty2 args2 (.sc .str) pend k)) E H L K := by
  refine den_lit (l := [c]) (b := 1) [encB c] uBytes elemByte rfl (by decide) (by decide) (by simp [hps, idxs]) (.cons ⟨_, _, rfl, ⟨rfl, by simp [IntKind.min, IntKind.bits, IntKind.signed], by have := c.toNat_lt; simp [IntKind.max, IntKind.bits, IntKind.signed]; omega⟩, rfl⟩ .nil) hp fun u H1 a1 l1 _ => ?_
  show wpS _ (execOp (argEv _ args2) (bare (.convert _ _ _) ty2)) _ _ H1
  rw [exec_convert, hx]
  refine wpS_accText uBytes uString (by kernel_rfl) a1 ?_
  exact ⟨[_], rfl, rfl, by
    intro y hy
    have := hp2 u H1 l1 y hy
    exact this, hk u H1 l1⟩

set_option maxHeartbeats 1000000 in
theorem SignPlain_gives (n : Int) (hn : InI n) (name : List UInt8) (hl : name.length ≤ maxLen) (c : UInt8) (H : PH) (hE : Errs H) (hT : Tab H) : Gives Tryd.prog n_scrimshawlaw03_SignPlain [.int .i64 n, txt name, .int .u8 c.toNat] H (.bool true) := by
  refine tri_scrimshawlaw03_SignPlain [.int .i64 n, txt name, .int .u8 c.toNat] (by kernel_rfl) (by kernel_rfl) ?_
  refine den_gives [.bool true] cb_scrimshawlaw03_fixed (fixed_gives H hE) rfl pendNil fun H1 l1 => ⟨fun h => (by simp only [ev0, ev, evV, List.cons_append, List.nil_append, List.getD_cons_zero, List.getD_cons_succ, List.map_cons, List.map_nil, iOf, bOf, sOf, pOf, slLen, slBase, cmpI, arI, Value.ite_bool, int_beq, int_bne, ite_band, ite_bor] at h; cases h), fun _ => ?_⟩
  have hc := c.toNat_lt
  -- a character
  have hbc : byteOf (c.toNat : Int) = c := by
    have e : ((c.toNat : Int) % 256).toNat = c.toNat := by omega
    rw [byteOf, e, UInt8.ofNat_toNat]
  have hf2 : formOk (.mk 2 (c.toNat : Int) [] []) = true := by
    have e1 : c.toNat ≤ 255 := by omega
    have e2 : (c.toNat : Int) ≤ 255 := by omega
    simp [formOk, Dat.kind, Dat.int, Dat.list, Dat.text, e1, e2]
  have hcall := DText_gives (.mk 2 (c.toNat : Int) [] []) _ H1 (Dat.plain_rep (k := 2) ⟨by decide, by decide⟩ ⟨by omega, by omega⟩ (Nat.zero_le _)) (hT.le l1)
  rw [plain_text (by decide), plain_err (by decide), hf2] at hcall
  simp only [if_true] at hcall
  have htx : (Dat.mk 2 (c.toNat : Int) [] []).txtL false = charL c := by
    rw [← hbc]; simp [Dat.txtL, hbc]
  rw [htx] at hcall
  refine den_gives [txt (charL c), .int .i64 0] cb_data_Text (by
    have e : IntKind.i64.wrap (c.toNat : Int) = (c.toNat : Int) := w64 (by omega) (by omega)
    simp only [ev0, ev, evV, List.cons_append, List.nil_append, List.getD_cons_zero, List.getD_cons_succ, List.map_cons, List.map_nil, iOf, bOf, sOf, pOf, slLen, slBase, cmpI, arI, Value.ite_bool, int_beq, int_bne, ite_band, ite_bor, e]
    exact hcall) rfl pendNil fun H2 l2 => ?_
  have l02 := PH.le_trans l1 l2
  have hcl : (charL c).length ≤ 4096 := by
    unfold charL; split
    · decide
    · split
      · decide
      · split <;> simp [twoL]
  refine LTokens_call (s := charL c) cb_lex_Tokens rfl (LTokens_tri _ (by simp only [maxLen]; omega) _ (hE.le l02)) fun v3 H3 h3 l3 => ?_
  rw [tokens_char c] at h3 ⊢
  simp only [Toks.list, Toks.err, Toks.at_] at h3 ⊢
  have l03 := PH.le_trans l02 l3
  obtain ⟨b3, c3, rfl⟩ := h3.sl
  obtain ⟨g1, g0, g3⟩ := one_row h3
  refine ⟨fun vs H' => vs = [.bool false] ∧ PH.le H H', ?_, fun _ => ?_, fun h => ?_, fun _ => ⟨_, rfl, g3, ?_⟩⟩
  rotate_left
  · simp only [Chk.holds, ev0, ev, evV, List.cons_append, List.nil_append, List.getD_cons_zero, List.getD_cons_succ, List.map_cons, List.map_nil, iOf, bOf, sOf, pOf, slLen, slBase, cmpI, arI, Value.ite_bool, int_beq, int_bne, ite_band, ite_bor]; exact ⟨g1, by omega, by simp⟩
  · simp only [ev0, ev, evV, List.cons_append, List.nil_append, List.getD_cons_zero, List.getD_cons_succ, List.map_cons, List.map_nil, iOf, bOf, sOf, pOf, slLen, slBase, cmpI, arI, Value.ite_bool, int_beq, int_bne, ite_band, ite_bor] at h; simp at h
  · refine den_neTk (.mk 7 [] (c.toNat : Int) 0 ((charL c).length : Nat)) (.mk 7 [] (c.toNat : Int) 0 ((charL c).length : Nat)) rfl ?_ ⟨_, lookup_hit, ?_, l03⟩
    · have e : IntKind.i64.wrap (c.toNat : Int) = (c.toNat : Int) := w64 (by omega) (by omega)
      show Value.agg [.int .i64 7, txt [], .int .i64 (IntKind.i64.wrap (c.toNat : Int)), .int .i64 0, .int .i64 ((⟨(charL c).toArray⟩ : ByteArray).size : Nat)].toArray = _
      rw [e, txt_size]; rfl
    · simp only [ev0, ev, evV, List.cons_append, List.nil_append, List.getD_cons_zero, List.getD_cons_succ, List.map_cons, List.map_nil, iOf, bOf, sOf, pOf, slLen, slBase, cmpI, arI, Value.ite_bool, int_beq, int_bne, ite_band, ite_bor]; simp
  rintro vs H4 _ ⟨rfl, l04⟩
  refine ⟨fun h => (by simp only [ev0, ev, evV, List.cons_append, List.nil_append, List.getD_cons_zero, List.getD_cons_succ, List.map_cons, List.map_nil, iOf, bOf, sOf, pOf, slLen, slBase, cmpI, arI, Value.ite_bool, int_beq, int_bne, ite_band, ite_bor] at h; cases h), fun _ => ?_⟩
  -- a number
  have hcall := DText_gives (.mk 1 n [] []) _ H4 (Dat.plain_rep (k := 1) ⟨by decide, by decide⟩ hn (Nat.zero_le _)) (hT.le l04)
  rw [plain_text (by decide), plain_err (by decide)] at hcall
  have hint : ∃ (w : List UInt8) (e : Int) (ts : List Tk), w.length ≤ 4096 ∧ tokens w = .all ts ∧ (Dat.mk 1 n [] []).txtL false = Lib.itoa n ∧ w = (if formOk (.mk 1 n [] []) then (Dat.mk 1 n [] []).txtL false else []) ∧ e = (if formOk (.mk 1 n [] []) then 0 else 20) ∧ ((e = 0 ∧ ts = [.mk 6 [] n 0 (w.length : Nat)]) ∨ e = 20) := by
    have hi : (Dat.mk 1 n [] []).txtL false = Lib.itoa n := by simp [Dat.txtL]
    cases hf : formOk (.mk 1 n [] []) with
    | false => exact ⟨[], 20, [], by decide, by rfl, hi, rfl, rfl, .inr rfl⟩
    | true =>
      have hb : -1152921504606846976 ≤ n ∧ n ≤ 1152921504606846975 := by
        simp [formOk, Dat.kind, Dat.int, Dat.list, Dat.text] at hf
        exact ⟨of_decide_eq_true hf.1, by have := of_decide_eq_true hf.2; omega⟩
      have h21 := itoa_len n hn
      exact ⟨Lib.itoa n, 0, _, by omega, tokens_int hb.1 hb.2 (by omega), hi, by simp [hi], by simp, .inl ⟨rfl, rfl⟩⟩
  obtain ⟨w, e, ts, hw4, htw, _, hw, he, hcase⟩ := hint
  rw [← hw, ← he] at hcall
  refine den_gives [txt w, .int .i64 e] cb_data_Text hcall rfl pendNil fun H5 l5 => ?_
  have l05 := PH.le_trans l04 l5
  refine LTokens_call (s := w) cb_lex_Tokens rfl (LTokens_tri _ (by simp only [maxLen]; omega) _ (hE.le l05)) fun v6 H6 h6 l6 => ?_
  rw [htw] at h6 ⊢
  simp only [Toks.list, Toks.err, Toks.at_] at h6 ⊢
  have l06 := PH.le_trans l05 l6
  refine ⟨fun vs H' => vs = [.bool false] ∧ PH.le H H', ?_, ?_⟩
  rotate_left
  · rcases hcase with ⟨rfl, rfl⟩ | rfl
    · obtain ⟨b6, c6, rfl⟩ := h6.sl
      obtain ⟨f1, f0, f3⟩ := one_row h6
      refine ⟨fun _ => ?_, fun _ => ⟨fun h => ?_, fun _ => ⟨_, rfl, f3, ?_⟩⟩, fun h => ?_⟩
      · simp only [Chk.holds, ev0, ev, evV, List.cons_append, List.nil_append, List.getD_cons_zero, List.getD_cons_succ, List.map_cons, List.map_nil, iOf, bOf, sOf, pOf, slLen, slBase, cmpI, arI, Value.ite_bool, int_beq, int_bne, ite_band, ite_bor]; exact ⟨f1, by omega, by simp⟩
      · simp only [ev0, ev, evV, List.cons_append, List.nil_append, List.getD_cons_zero, List.getD_cons_succ, List.map_cons, List.map_nil, iOf, bOf, sOf, pOf, slLen, slBase, cmpI, arI, Value.ite_bool, int_beq, int_bne, ite_band, ite_bor] at h; simp at h
      · refine den_neTk (.mk 6 [] n 0 (w.length : Nat)) (.mk 6 [] n 0 (w.length : Nat)) rfl ?_ ⟨_, lookup_hit, ?_, l06⟩
        · simp only [argEv, List.lookup, ev0, ev, evV, List.cons_append, List.nil_append, List.getD_cons_zero, List.getD_cons_succ, List.map_cons, List.map_nil, iOf, bOf, sOf, pOf, slLen, slBase, cmpI, arI, Value.ite_bool, int_beq, int_bne, ite_band, ite_bor]; rfl
        · simp only [ev0, ev, evV, List.cons_append, List.nil_append, List.getD_cons_zero, List.getD_cons_succ, List.map_cons, List.map_nil, iOf, bOf, sOf, pOf, slLen, slBase, cmpI, arI, Value.ite_bool, int_beq, int_bne, ite_band, ite_bor]; simp
      · simp only [ev0, ev, evV, List.cons_append, List.nil_append, List.getD_cons_zero, List.getD_cons_succ, List.map_cons, List.map_nil, iOf, bOf, sOf, pOf, slLen, slBase, cmpI, arI, Value.ite_bool, int_beq, int_bne, ite_band, ite_bor] at h; simp at h
    · refine ⟨fun h => ?_, fun h => ?_, fun _ => ⟨_, lookup_hit, rfl, l06⟩⟩
      · have := h _ (List.mem_cons_self ..)
        simp only [ev0, ev, evV, List.cons_append, List.nil_append, List.getD_cons_zero, List.getD_cons_succ, List.map_cons, List.map_nil, iOf, bOf, sOf, pOf, slLen, slBase, cmpI, arI, Value.ite_bool, int_beq, int_bne, ite_band, ite_bor] at this; simp at this
      · simp only [ev0, ev, evV, List.cons_append, List.nil_append, List.getD_cons_zero, List.getD_cons_succ, List.map_cons, List.map_nil, iOf, bOf, sOf, pOf, slLen, slBase, cmpI, arI, Value.ite_bool, int_beq, int_bne, ite_band, ite_bor] at h; simp at h
  rintro vs H7 _ ⟨rfl, l07⟩
  refine ⟨fun h => (by simp only [ev0, ev, evV, List.cons_append, List.nil_append, List.getD_cons_zero, List.getD_cons_succ, List.map_cons, List.map_nil, iOf, bOf, sOf, pOf, slLen, slBase, cmpI, arI, Value.ite_bool, int_beq, int_bne, ite_band, ite_bor] at h; cases h), fun _ => ?_⟩
  -- a name
  refine LTokens_call (s := name) cb_lex_Tokens rfl (LTokens_tri _ hl _ (hE.le l07)) fun v8 H8 h8 l8 => ?_
  have l08 := PH.le_trans l07 l8
  refine ⟨fun vs H' => vs = [.bool false] ∧ PH.le H H', ?_, ?_⟩
  rotate_left
  · refine den_gives [.bool (nameOk name)] cb_scrimshawref02_Name (RName_gives name hl H8) rfl pendNil fun H9 l9 => ?_
    have l09 := PH.le_trans l08 l9
    cases hno : nameOk name with
    | false =>
      refine ⟨fun h => ?_, fun h => (by simp only [ev0, ev, evV, List.cons_append, List.nil_append, List.getD_cons_zero, List.getD_cons_succ, List.map_cons, List.map_nil, iOf, bOf, sOf, pOf, slLen, slBase, cmpI, arI, Value.ite_bool, int_beq, int_bne, ite_band, ite_bor] at h; cases h), fun _ => ⟨_, lookup_hit, rfl, l09⟩⟩
      have := h _ (List.mem_cons_self ..)
      simp only [ev0, ev, evV, List.cons_append, List.nil_append, List.getD_cons_zero, List.getD_cons_succ, List.map_cons, List.map_nil, iOf, bOf, sOf, pOf, slLen, slBase, cmpI, arI, Value.ite_bool, int_beq, int_bne, ite_band, ite_bor] at this; cases this
    | true =>
      rw [tokens_name hno] at h8 ⊢
      simp only [Toks.list, Toks.err, Toks.at_] at h8 ⊢
      obtain ⟨b8, c8, rfl⟩ := h8.sl
      obtain ⟨f1, f0, f3⟩ := one_row (h8.le l9)
      refine ⟨fun _ => ?_, fun _ => ⟨fun h => ?_, fun _ => ⟨_, rfl, f3, ?_⟩⟩, fun h => (by simp only [ev0, ev, evV, List.cons_append, List.nil_append, List.getD_cons_zero, List.getD_cons_succ, List.map_cons, List.map_nil, iOf, bOf, sOf, pOf, slLen, slBase, cmpI, arI, Value.ite_bool, int_beq, int_bne, ite_band, ite_bor] at h; cases h)⟩
      · simp only [Chk.holds, ev0, ev, evV, List.cons_append, List.nil_append, List.getD_cons_zero, List.getD_cons_succ, List.map_cons, List.map_nil, iOf, bOf, sOf, pOf, slLen, slBase, cmpI, arI, Value.ite_bool, int_beq, int_bne, ite_band, ite_bor]; exact ⟨f1, by omega, by simp⟩
      · simp only [ev0, ev, evV, List.cons_append, List.nil_append, List.getD_cons_zero, List.getD_cons_succ, List.map_cons, List.map_nil, iOf, bOf, sOf, pOf, slLen, slBase, cmpI, arI, Value.ite_bool, int_beq, int_bne, ite_band, ite_bor] at h; simp at h
      · refine den_neTk (.mk 9 name 0 0 (name.length : Nat)) (.mk 9 name 0 0 (name.length : Nat)) rfl ?_ ⟨_, lookup_hit, ?_, l09⟩
        · simp only [argEv, List.lookup, ev0, ev, evV, List.cons_append, List.nil_append, List.getD_cons_zero, List.getD_cons_succ, List.map_cons, List.map_nil, iOf, bOf, sOf, pOf, slLen, slBase, cmpI, arI, Value.ite_bool, int_beq, int_bne, ite_band, ite_bor, txt_size]; rfl
        · simp only [ev0, ev, evV, List.cons_append, List.nil_append, List.getD_cons_zero, List.getD_cons_succ, List.map_cons, List.map_nil, iOf, bOf, sOf, pOf, slLen, slBase, cmpI, arI, Value.ite_bool, int_beq, int_bne, ite_band, ite_bor]; simp
  rintro vs H9 _ ⟨rfl, l09⟩
  refine ⟨fun h => (by simp only [ev0, ev, evV, List.cons_append, List.nil_append, List.getD_cons_zero, List.getD_cons_succ, List.map_cons, List.map_nil, iOf, bOf, sOf, pOf, slLen, slBase, cmpI, arI, Value.ite_bool, int_beq, int_bne, ite_band, ite_bor] at h; cases h), fun _ => ?_⟩
  -- a byte behind a backslash
  refine den_charText c rfl (fun _ => rfl) pendNil (fun _ _ _ => pendNil) fun u10 H10 l10 => ?_
  have l010 := PH.le_trans l09 l10
  refine ⟨fun _ => ?_, fun _ => ?_, ?_⟩
  · simp only [Chk.holds, ev0, ev, evV, List.cons_append, List.nil_append, List.getD_cons_zero, List.getD_cons_succ, List.map_cons, List.map_nil, iOf, bOf, sOf, pOf, slLen, slBase, cmpI, arI, Value.ite_bool, int_beq, int_bne, ite_band, ite_bor, txt_size, List.length_cons, List.length_nil]; try decide
  · simp only [Chk.holds, ev0, ev, evV, List.cons_append, List.nil_append, List.getD_cons_zero, List.getD_cons_succ, List.map_cons, List.map_nil, iOf, bOf, sOf, pOf, slLen, slBase, cmpI, arI, Value.ite_bool, int_beq, int_bne, ite_band, ite_bor, cat_txt, txt_size, List.length_append, List.length_cons, List.length_nil]; try decide
  refine LTokens_call (s := [34, 92, c, 34]) cb_lex_Tokens ?_ (LTokens_tri _ (by simp [maxLen]) _ (hE.le l010)) fun v11 H11 h11 l11 => ?_
  · simp only [ev0, ev, evV, List.cons_append, List.nil_append, List.getD_cons_zero, List.getD_cons_succ, List.map_cons, List.map_nil, iOf, bOf, sOf, pOf, slLen, slBase, cmpI, arI, Value.ite_bool, int_beq, int_bne, ite_band, ite_bor, cat_txt]
  have l011 := PH.le_trans l010 l11
  obtain ⟨b11, c11, rfl⟩ := h11.sl
  have q110 := u8b c 110 (by omega)
  have q92 := u8b c 92 (by omega)
  have q34 := u8b c 34 (by omega)
  rcases back_cases c with ⟨rfl, hb⟩ | ⟨h92, h110, hb⟩ | ⟨h110, h92, h34, a, hb⟩
  · rw [hb] at h11 ⊢
    simp only [Toks.list, Toks.err, Toks.at_] at h11 ⊢
    obtain ⟨f1, f0, f3⟩ := one_row h11
    have f4 := rowAt_sub f3 1 1
    refine ⟨fun _ => ?_, fun h => (by simp only [ev0, ev, evV, List.cons_append, List.nil_append, List.getD_cons_zero, List.getD_cons_succ, List.map_cons, List.map_nil, iOf, bOf, sOf, pOf, slLen, slBase, cmpI, arI, Value.ite_bool, int_beq, int_bne, ite_band, ite_bor] at h; simp at h)⟩
    refine ⟨fun vs H' => vs = [.bool true] ∧ PH.le H H', ?_, fun _ => ?_, fun _ => ?_, fun _ => ⟨[txt [10]], rfl, f4, _, lookup_hit, ?_, l011⟩, fun h => (by simp only [ev0, ev, evV, List.cons_append, List.nil_append, List.getD_cons_zero, List.getD_cons_succ, List.map_cons, List.map_nil, iOf, bOf, sOf, pOf, slLen, slBase, cmpI, arI, Value.ite_bool, int_beq, int_bne, ite_band, ite_bor] at h; simp at h)⟩
    · rintro vs H' _ ⟨rfl, hl⟩; exact ⟨rfl, hl⟩
    · simp only [Chk.holds, ev0, ev, evV, List.cons_append, List.nil_append, List.getD_cons_zero, List.getD_cons_succ, List.map_cons, List.map_nil, iOf, bOf, sOf, pOf, slLen, slBase, cmpI, arI, Value.ite_bool, int_beq, int_bne, ite_band, ite_bor]; exact ⟨f1, by omega, by simp⟩
    · exact f0
    · show [Value.bool (cmpS .eql ⟨([10] : List UInt8).toArray⟩ ⟨([10] : List UInt8).toArray⟩)] = _
      rw [txt_eql]; rfl
  · rw [hb] at h11 ⊢
    simp only [Toks.list, Toks.err, Toks.at_] at h11 ⊢
    obtain ⟨f1, f0, f3⟩ := one_row h11
    have f4 := rowAt_sub f3 1 1
    refine ⟨fun h => ?_, fun _ => ⟨fun _ => ?_, fun h => ?_⟩⟩
    · simp only [ev0, ev, evV, List.cons_append, List.nil_append, List.getD_cons_zero, List.getD_cons_succ, List.map_cons, List.map_nil, iOf, bOf, sOf, pOf, slLen, slBase, cmpI, arI, Value.ite_bool, int_beq, int_bne, ite_band, ite_bor, decide_eq_true_eq] at h; exact absurd (q110.1 h) h110
    · refine ⟨fun vs H' => vs = [.bool true] ∧ PH.le H H', ?_, fun _ => ?_, fun _ => ?_, fun _ => ⟨[txt [c]], rfl, f4, ?_⟩, fun h => (by simp only [ev0, ev, evV, List.cons_append, List.nil_append, List.getD_cons_zero, List.getD_cons_succ, List.map_cons, List.map_nil, iOf, bOf, sOf, pOf, slLen, slBase, cmpI, arI, Value.ite_bool, int_beq, int_bne, ite_band, ite_bor] at h; simp at h)⟩
      · rintro vs H' _ ⟨rfl, hl⟩; exact ⟨rfl, hl⟩
      · simp only [Chk.holds, ev0, ev, evV, List.cons_append, List.nil_append, List.getD_cons_zero, List.getD_cons_succ, List.map_cons, List.map_nil, iOf, bOf, sOf, pOf, slLen, slBase, cmpI, arI, Value.ite_bool, int_beq, int_bne, ite_band, ite_bor]; exact ⟨f1, by omega, by simp⟩
      · exact f0
      · refine den_charText c rfl (fun _ => rfl) ?_ ?_ fun u12 H12 l12 => ⟨_, lookup_hit, ?_, PH.le_trans l011 l12⟩
        · intro x hx
          simp only [List.mem_cons, List.not_mem_nil, or_false] at hx
          subst hx
          simp only [ev0, ev, evV, List.cons_append, List.nil_append, List.getD_cons_zero, List.getD_cons_succ, List.map_cons, List.map_nil, iOf, bOf, sOf, pOf, slLen, slBase, cmpI, arI, Value.ite_bool, int_beq, int_bne, ite_band, ite_bor]
          exact f4
        · intro u H' hl x hx
          simp only [List.mem_cons, List.not_mem_nil, or_false] at hx
          subst hx
          simp only [ev0, ev, evV, List.cons_append, List.nil_append, List.getD_cons_zero, List.getD_cons_succ, List.map_cons, List.map_nil, iOf, bOf, sOf, pOf, slLen, slBase, cmpI, arI, Value.ite_bool, int_beq, int_bne, ite_band, ite_bor]
          exact rowAt_le hl f4
        · simp only [ev0, ev, evV, List.cons_append, List.nil_append, List.getD_cons_zero, List.getD_cons_succ, List.map_cons, List.map_nil, iOf, bOf, sOf, pOf, slLen, slBase, cmpI, arI, Value.ite_bool, int_beq, int_bne, ite_band, ite_bor, Tk.text, cmpS, beq_self_eq_true]
    · simp only [ev0, ev, evV, List.cons_append, List.nil_append, List.getD_cons_zero, List.getD_cons_succ, List.map_cons, List.map_nil, iOf, bOf, sOf, pOf, slLen, slBase, cmpI, arI, Value.ite_bool, int_beq, int_bne, ite_band, ite_bor] at h
      rcases h92 with rfl | rfl <;> simp at h
  · rw [hb] at h11 ⊢
    simp only [Toks.list, Toks.err, Toks.at_] at h11 ⊢
    refine ⟨fun h => ?_, fun _ => ⟨fun h => ?_, fun _ => ⟨?_, l011⟩⟩⟩
    · simp only [ev0, ev, evV, List.cons_append, List.nil_append, List.getD_cons_zero, List.getD_cons_succ, List.map_cons, List.map_nil, iOf, bOf, sOf, pOf, slLen, slBase, cmpI, arI, Value.ite_bool, int_beq, int_bne, ite_band, ite_bor, decide_eq_true_eq] at h; exact absurd (q110.1 h) h110
    · simp only [ev0, ev, evV, List.cons_append, List.nil_append, List.getD_cons_zero, List.getD_cons_succ, List.map_cons, List.map_nil, iOf, bOf, sOf, pOf, slLen, slBase, cmpI, arI, Value.ite_bool, int_beq, int_bne, ite_band, ite_bor] at h
      rcases Bool.or_eq_true_iff.1 h with h | h
      · exact absurd (q92.1 (of_decide_eq_true h)) h92
      · exact absurd (q34.1 (of_decide_eq_true h)) h34
    · simp only [ev0, ev, evV, List.cons_append, List.nil_append, List.getD_cons_zero, List.getD_cons_succ, List.map_cons, List.map_nil, iOf, bOf, sOf, pOf, slLen, slBase, cmpI, arI, Value.ite_bool, int_beq, int_bne, ite_band, ite_bor]; simp

open Go.ChangeShapes Go.WideShapes Go.ChangeAt Go.RowKit in
theorem arg_int {H : Type} {enc : TypeId × Value → H} {w : World} {v : Value} {d : DataW H} {p : List MemPlace} {r : Reach} {b : Nat} (hval : Value.okWide Tryd.prog w r b 3 v) (h : DataW.Trod enc Tryd.prog w 0 (fun _ => true) true 3 v d p) :
    ∃ n : Int, v = .int .i64 n ∧ InI n := by
  obtain ⟨n, rfl, rfl, rfl, hw⟩ := open_int (k := .i64) (by kernel_rfl) hval h
  refine ⟨n, rfl, ?_⟩
  simpa [Lit.wf, IntKind.min, IntKind.max, IntKind.bits, IntKind.signed, InI] using hw
open Go.ChangeShapes Go.WideShapes Go.ChangeAt Go.RowKit in
theorem arg_byte {H : Type} {enc : TypeId × Value → H} {w : World} {v : Value} {d : DataW H} {p : List MemPlace} {r : Reach} {b : Nat} (hval : Value.okWide Tryd.prog w r b 5 v) (h : DataW.Trod enc Tryd.prog w 0 (fun _ => true) true 5 v d p) :
    ∃ c : UInt8, v = .int .u8 (c.toNat : Int) := by
  obtain ⟨n, rfl, rfl, rfl, hw⟩ := open_int (k := .u8) (by kernel_rfl) hval h
  have hb : 0 ≤ n ∧ n ≤ 255 := by simpa [Lit.wf, IntKind.min, IntKind.max, IntKind.bits, IntKind.signed] using hw
  refine ⟨UInt8.ofNat n.toNat, ?_⟩
  rw [UInt8.toNat_ofNat_of_lt' (by show n.toNat < 256; omega)]
  rw [show ((n.toNat : Nat) : Int) = n by omega]
end Go.Proofs.YtlnmmakbgldflaaDoor.Vc

