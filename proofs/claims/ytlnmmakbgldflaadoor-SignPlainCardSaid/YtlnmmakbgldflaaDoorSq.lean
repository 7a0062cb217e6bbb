/-
  SIGN: what all statements of this seat ask; the fixed calls; the document's tokens are the program's.
-/
import Derived.Test.YtlnmmakbgldflaaDoorSy
import Derived.Test.YtlnmmakbgldflaaDoorWg
import Derived.Lay
set_option linter.unusedSimpArgs false
set_option linter.unusedVariables false
set_option maxRecDepth 100000
namespace Go.Proofs.YtlnmmakbgldflaaDoor.Vc
open Go Go.ChangeShapes Go.WideShapes Go.ChangeAt Go.RowKit

theorem arg_txt {H : Type} {enc : TypeId × Value → H} {w : World} {v : Value} {d : DataW H} {p : List MemPlace} {r : Reach} {b : Nat} (hval : Value.okWide Tryd.prog w r b 9 v) (h : DataW.Trod enc Tryd.prog w 0 (fun _ => true) true 9 v d p) :
    ∃ s : List UInt8, v = txt s ∧ s.length ≤ maxLen ∧ s.length + 1 ≤ Rows.uptoBulk d := by
  obtain ⟨s, rfl, rfl, rfl, hs⟩ := ChangeMaps.open_string uString hval h
  refine ⟨s.data.toList, rfl, by have hs' : s.data.size ≤ maxLen := hs; rwa [Array.length_toList], by simp [Rows.uptoBulk]⟩
theorem ownTryd : ownKnob Tryd.prog.godebug = none := by kernel_rfl
theorem laidOutTryd : laidOutB Tryd.prog = true := by kernel_rfl
theorem mapsRowedTryd : mapsRowed Tryd.prog = true := by kernel_rfl
theorem kidsTryd : Kids Tryd.prog (· < Tryd.prog.types.size) := kids_rows laidOutTryd mapsRowedTryd
theorem fullTryd : ∀ t e, t < Tryd.prog.types.size → Tryd.prog.underlying t = some (.slice e) → 0 < Tryd.prog.cellsOf e := slices_full_of Tryd.prog (by kernel_rfl)
abbrev tabs : List (String × DataW Unit) := [("math/bits.deBruijn32tab", Rows.laid_math_bits_deBruijn32tab), ("math/bits.deBruijn64tab", Rows.laid_math_bits_deBruijn64tab), ("internal/strconv.uint64pow10", Rows.laid_internal_strconv_uint64pow10), ("unicode/utf8.acceptRanges", Rows.laid_unicode_utf8_acceptRanges), ("strconv.ErrRange", Rows.laid_strconv_ErrRange), ("strconv.ErrSyntax", Rows.laid_strconv_ErrSyntax), ("unicode/utf8.first", Rows.laid_unicode_utf8_first)]
theorem gPow : Tryd.prog.globalNamed "internal/strconv.uint64pow10" = some 5 := by kernel_rfl
theorem tPow : (Tryd.prog.globals[5]?).map (·.type) = some 126 := by kernel_rfl
theorem uPow : Tryd.prog.underlying 126 = some (.array 20 98) := by kernel_rfl
theorem uPowE : Tryd.prog.underlying 98 = some (.int .u64) := by kernel_rfl
theorem cPowE : Tryd.prog.cellsOf 98 = 1 := by kernel_rfl
theorem cPow : Tryd.prog.cellsOf 126 = 20 := by kernel_rfl
theorem tab_of_laid {W : World} (h : laidMetH Tryd.prog tabs W) : Tab (whole W) := by
  have h1 : laidMet Tryd.prog tabs W := h
  have h3 := laidMet_tail (laidMet_tail h1)
  have ht : Lib.TabIs Tryd.prog W "internal/strconv.uint64pow10" .u64 Lib.pow10Tab := Lib.tabIs_of_head (k := .u64) (zs := Lib.pow10Tab) gPow tPow uPow uPowE cPowE cPow h3
  unfold Lib.TabIs World.var? at ht
  rw [gPow] at ht
  simp only [Option.bind_some] at ht
  cases hb : W.heap[5]? with
  | none => rw [hb] at ht; cases ht
  | some o =>
    rw [hb] at ht
    cases o with
    | cells cs e f =>
      simp only [Option.some.injEq] at ht
      exact ⟨5, e, f, gPow, by unfold whole; rw [hb, ht]⟩
    | _ => cases ht
theorem trod_iface {H : Type} {enc : TypeId × Value → H} {P : Program} {w : World} {base : Nat} {sp : Nat → Bool} {held : Bool} {fuel : Nat} {t : TypeId} {ms} {cs : List Value} {x : DataW H × List MemPlace} (ht : P.underlying t = some (.interface ms)) (h : DataW.trod enc P w base sp held fuel t cs = some x) : ∃ v, cs = [v] ∧ IfaceV v := by
  cases fuel with
  | zero => simp [DataW.trod] at h
  | succ fuel =>
    simp only [DataW.trod, ht] at h
    split at h
    all_goals first
      | (rename_i heq; cases heq; done)
      | (rename_i heq; cases heq; exact ⟨_, rfl, .inl rfl⟩)
      | (rename_i heq; cases heq; exact ⟨_, rfl, .inr ⟨_, _, rfl⟩⟩)
      | exact ⟨_, rfl, .inl rfl⟩
      | exact ⟨_, rfl, .inr ⟨_, _, rfl⟩⟩
      | cases h
theorem err_of_laid {W : World} {n : String} {d : DataW Unit} {rest : List (String × DataW Unit)} {g : Nat} (hg : Tryd.prog.globalNamed n = some g) (hty : (Tryd.prog.globals[g]?).map (·.type) = some 65) (h : laidMet Tryd.prog ((n, d) :: rest) W) : ErrC (whole W) g := by
  obtain ⟨ps, ⟨g', t', cs, fuel, p, q, hg', ht', hvar, hd, _, _⟩, _⟩ := h
  obtain rfl := Option.some.inj (hg.symm.trans hg')
  obtain rfl := Option.some.inj (hty.symm.trans ht')
  obtain ⟨v, hv, hi⟩ := trod_iface Tryd.underlying65 hd
  unfold World.var? at hvar
  rw [hg] at hvar
  simp only [Option.bind_some] at hvar
  cases hb : W.heap[g]? with
  | none => rw [hb] at hvar; cases hvar
  | some o =>
    rw [hb] at hvar
    cases o with
    | cells cs' e f =>
      simp only [Option.some.injEq] at hvar
      subst hvar
      refine ⟨v, ?_, hi⟩
      unfold PH.cell? whole
      simp only [hb, Option.bind_some]
      have : cs' = #[v] := by cases cs'; simp_all
      rw [this]; rfl
    | _ => cases hvar
theorem errs_of_laid {W : World} (h : laidMetH Tryd.prog tabs W) : Errs (whole W) := by
  have h1 : laidMet Tryd.prog tabs W := h
  have h5 := laidMet_tail (laidMet_tail (laidMet_tail (laidMet_tail h1)))
  exact ⟨err_of_laid (by kernel_rfl) (by kernel_rfl) (laidMet_tail h5), err_of_laid (by kernel_rfl) (by kernel_rfl) h5⟩
noncomputable def laidWorld (os : Os) : World := World.laidAll Tryd.prog os tabs

/-! ### the fixed calls -/
def fx1 : List Tk := [.mk 0 [] 0 0 1, .mk 9 [97] 0 1 2, .mk 5 [] 1 3 5, .mk 1 [] 0 5 6]
theorem fx1_eq : tokens [40, 97, 32, 35, 116, 41, 32, 59, 32, 120] = .all fx1 := by kernel_rfl
theorem fx2_eq : tokens [32, 35, 116, 116] = .bad 1 31 := by kernel_rfl
theorem LTokens_call {X : List PanicEntry → PH → Prop} {β : Type} {E : List Value} {L : LK} {K : β → List Value → PH → LK → Prop} {H : PH} {f : FuncId} {args : List VE} {k : Fm β} {s : List UInt8} (hok : callB Tryd.prog f = true) (ha : args.map (evV E fun _ => 0) = [txt s]) (h : GivesT f [txt s] H (tokens s))
    (hk : ∀ v H', SlR H' (tokens s).list v → PH.le H H' → den Tryd.prog X k (E ++ [v, .int .i64 (tokens s).at_, .int .i64 (tokens s).err]) H' L K) : den Tryd.prog X (.call (.fn f) args (.tu [(false, [.sl]), (false, [.int .i64]), (false, [.int .i64])]) [] k) E H L K := by
  refine den_call hok (by rw [ha]; exact h) ?_
  rintro e H' ⟨v, rfl, h1, h2⟩
  obtain ⟨b, c, rfl⟩ := h1.sl
  exact ⟨_, [_, _, _], rfl, rfl, rfl, pendNil, hk _ _ h1 h2⟩
theorem fixed_gives (H : PH) (hE : Errs H) : Gives Tryd.prog n_scrimshawlaw03_fixed [] H (.bool true) := by
  refine tri_scrimshawlaw03_fixed [] (by kernel_rfl) (by kernel_rfl) ?_
  refine LTokens_call (s := [40, 97, 32, 35, 116, 41, 32, 59, 32, 120]) cb_lex_Tokens rfl (LTokens_tri _ (by simp [maxLen]) H hE) fun v H1 h1 l1 => ?_
  refine LTokens_call (s := [32, 35, 116, 116]) cb_lex_Tokens rfl (LTokens_tri _ (by simp [maxLen]) H1 (hE.le l1)) fun v2 H2 h2 l2 => ?_
  rw [fx1_eq] at h1 ⊢
  rw [fx2_eq] at h2 ⊢
  refine den_lit (l := fx1) (b := 48) [.agg #[.int .i64 0, txt [], .int .i64 0, .int .i64 0, .int .i64 1], .agg #[.int .i64 9, txt [97], .int .i64 0, .int .i64 1, .int .i64 2], .agg #[.int .i64 5, txt [], .int .i64 1, .int .i64 3, .int .i64 5], .agg #[.int .i64 1, txt [], .int .i64 0, .int .i64 5, .int .i64 6]] uToks elemTk rfl (by decide) (by decide) rfl
    (.cons ?_ (.cons ?_ (.cons ?_ (.cons ?_ .nil)))) pendNil fun v3 H3 a3 l3 _ => ?_
  iterate 4 exact Tk.Rep_iff.2 ⟨rfl, ⟨by decide, by decide⟩, by simp [Tk.text, maxLen], ⟨by decide, by decide⟩, ⟨by decide, by decide⟩, ⟨by decide, by decide⟩⟩
  have hc := TSame_gives fx1 fx1 v v3 H3 (h1.le (PH.le_trans l2 l3)) a3.slR
  rw [decide_eq_true rfl] at hc
  exact den_gives [.bool true] cb_scrimshawref03_Same hc rfl pendNil fun H4 l4 => ⟨rfl, PH.le_trans l1 (PH.le_trans l2 (PH.le_trans l3 l4))⟩

theorem SignReads_gives (s : List UInt8) (hs : s.length ≤ maxLen) (H : PH) (hE : Errs H) : Gives Tryd.prog n_scrimshawlaw03_SignReads [txt s] H (.bool true) := by
  refine tri_scrimshawlaw03_SignReads [txt s] (by kernel_rfl) (by kernel_rfl) ?_
  refine LTokens_call (s := s) cb_lex_Tokens rfl (LTokens_tri s hs H hE) fun v H1 h1 l1 => ?_
  refine LTokens_call (s := s) cb_scrimshawref03_Tokens rfl (RTokens_tri s hs H1) fun v2 H2 h2 l2 => ?_
  refine ⟨fun vs H' => vs = [.bool true] ∧ PH.le H H', ?_, ?_⟩
  · rintro vs H' _ ⟨rfl, hl⟩
    exact ⟨rfl, hl⟩
  refine den_gives [.bool true] cb_scrimshawlaw03_fixed (fixed_gives H2 (hE.le (PH.le_trans l1 l2))) rfl pendNil fun H3 l3 => ⟨fun _ => ?_, fun h => by cases h⟩
  have hc := TSame_gives (tokens s).list (tokens s).list v v2 H3 (h1.le (PH.le_trans l2 l3)) (h2.le l3)
  rw [decide_eq_true rfl] at hc
  refine den_gives [.bool true] cb_scrimshawref03_Same hc rfl pendNil fun H4 l4 => ⟨_, lookup_hit, ?_, PH.le_trans l1 (PH.le_trans l2 (PH.le_trans l3 l4))⟩
  simp only [ev0, ev, evV, List.cons_append, List.nil_append, List.getD_cons_zero, List.getD_cons_succ, List.map_cons, List.map_nil, iOf, bOf, sOf, pOf, slLen, slBase, cmpI, arI, Value.ite_bool, int_beq, int_bne, ite_band, ite_bor]
  simp
end Go.Proofs.YtlnmmakbgldflaaDoor.Vc

