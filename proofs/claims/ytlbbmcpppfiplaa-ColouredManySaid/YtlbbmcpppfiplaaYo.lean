/-
  Texts on the way to the statement, one behind the other, without what it does not reach.
-/
import Derived.Test.YtlbbmcpppfiplaaYn
set_option linter.unusedSimpArgs false
set_option linter.unusedVariables false
set_option maxRecDepth 100000
/-
  COLOUR: who meets, by the program: the walk.
-/
namespace Go.Proofs.Ytlbbmcpppfiplaa.Vc
open Go

theorem rel_join {N N' : List (Int × GN)} {a b : Int} {Q Q' : Int → Int → Prop} (h : ∀ c d, relN N' c d ↔ relN N c d ∨ (a ≠ b ∧ ((c = a ∧ d = b) ∨ (c = b ∧ d = a)))) (hq : ∀ c d, relN N c d ↔ c ≠ d ∧ Q c d) (hq' : ∀ c d, Q' c d ↔ Q c d ∨ (c = a ∧ d = b) ∨ (c = b ∧ d = a)) (c d : Int) : relN N' c d ↔ c ≠ d ∧ Q' c d := by
  rw [h, hq, hq']
  constructor
  · rintro (⟨h1, h2⟩ | ⟨h1, h2 | h2⟩)
    · exact ⟨h1, .inl h2⟩
    · exact ⟨by rw [h2.1, h2.2]; exact h1, .inr (.inl h2)⟩
    · exact ⟨by rw [h2.1, h2.2]; exact Ne.symm h1, .inr (.inr h2)⟩
  · rintro ⟨h1, h2 | h2 | h2⟩
    · exact .inl ⟨h1, h2⟩
    · exact .inr ⟨by rw [← h2.1, ← h2.2]; exact h1, .inl h2⟩
    · exact .inr ⟨by rw [← h2.1, ← h2.2]; exact Ne.symm h1, .inr h2⟩
def symL (t : Int) (l : List Int) (c d : Int) : Prop := (c = t ∧ d ∈ l) ∨ (d = t ∧ c ∈ l)
theorem symL_step {t r : Int} {l : List Int} {j : Nat} (h : l[j]? = some r) (c d : Int) : symL t (l.take (j + 1)) c d ↔ symL t (l.take j) c d ∨ (c = t ∧ d = r) ∨ (c = r ∧ d = t) := by
  unfold symL
  rw [List.take_add_one, h]
  simp only [Option.toList_some, List.mem_append, List.mem_singleton]
  constructor
  · rintro (⟨h1, h2 | h2⟩ | ⟨h1, h2 | h2⟩)
    · exact .inl (.inl ⟨h1, h2⟩)
    · exact .inr (.inl ⟨h1, h2⟩)
    · exact .inl (.inr ⟨h1, h2⟩)
    · exact .inr (.inr ⟨h2, h1⟩)
  · rintro ((⟨h1, h2⟩ | ⟨h1, h2⟩) | ⟨h1, h2⟩ | ⟨h1, h2⟩)
    · exact .inl ⟨h1, .inl h2⟩
    · exact .inr ⟨h1, .inl h2⟩
    · exact .inl ⟨h1, .inr h2⟩
    · exact .inr ⟨h2, .inr h1⟩
noncomputable def selL (x : InsX) (l : List Int) : List Int := if x.op = moveB then lessL l x.args else l
theorem selL_step {x : InsX} {l : List Int} {j : Nat} {r : Int} (h : l[j]? = some r) : selL x (l.take (j + 1)) = selL x (l.take j) ++ if x.op = moveB ∧ r ∈ x.args then [] else [r] := by
  unfold selL lessL
  rw [List.take_add_one, h]
  by_cases hm : x.op = moveB
  · rw [if_pos hm, if_pos hm]
    simp only [Option.toList_some, List.filter_append]
    congr 1
    by_cases hr : r ∈ x.args
    · rw [if_pos ⟨hm, hr⟩]; simp [List.filter_cons, hr]
    · rw [if_neg (fun hh => hr hh.2)]; simp [List.filter_cons, hr]
  · rw [if_neg hm, if_neg hm, if_neg (fun hh => hm hh.1)]; rfl
set_option maxHeartbeats 4000000 in
theorem Meets_tri (p : PrcX) (bv : Value) (S : PH) (hbv : SlR S p.blocks bv) (hw : p.wt ≤ 1048576) (hmay : mayP p = true) :
    Tri Try.prog n_color_meets #[.agg (prcVs p bv).toArray] S fun x S' => ∃ S1 gr es cl N, PH.le S S1 ∧ x = .returned (.map (some gr)) ∧ Held S1 S' (grB gr es cl ++ grI N) ∧ GrOk es cl N ∧ ∀ a b, relN N a b ↔ a ≠ b ∧ MeetP p a b := by
  obtain ⟨hp, hE⟩ := PrcX.fit_wt hw
  have hN := hp.n
  obtain ⟨hr0, hr1, _, _, hne⟩ := may_head hmay
  have hb0 : 0 < p.blocks.length := List.length_pos_iff.2 hne
  obtain ⟨b0, c0, rfl⟩ := hbv.sl
  refine tri_color_meets (prcVs p (.slice b0 p.blocks.length c0)) (by kernel_rfl) (by kernel_rfl) ?_
  simp only [prcVs]
  refine den_makeMap fun gr hgr => ?_
  have h1 := (Held.nil (PH.le_refl S)).new hgr (.map #[] 0)
  refine den_call cb_live_In (h1.pure (R := fun x S' => ∃ v, x = .returned v ∧ SlR S' (inL p) v) (LIn_tri p (.slice b0 p.blocks.length c0) S hbv hp hE)) ?_
  rintro x K2 ⟨S2, l2, h2, iv, rfl, hiv⟩
  obtain ⟨b2, c2, rfl⟩ : ∃ b c, iv = .slice b p.blocks.length c := by rw [← inL_len p]; exact hiv.sl
  refine ⟨_, [.slice b2 p.blocks.length c2], rfl, rfl, rfl, pendNil, ?_⟩
  simp only [List.cons_append, List.nil_append]
  obtain ⟨a1, _, acs, a2, a3⟩ := hiv.get (inL_get (p := p) (i := 0) hb0)
  obtain ⟨av, rfl, a4⟩ := csLK a2
  obtain ⟨ab, ac, rfl⟩ := a4.sl
  have hlen0 := liveL_len hp 0 0
  have ham := a4.max
  have g0 : ∀ {K : PH}, PH.le S2 K → rowAt K (pOf (eltV (.slice b2 p.blocks.length c2) 0 1)) [.slice ab (liveL p 0 0).length ac] := fun h => rowAt_le h a3
  refine ⟨fun _ => ?_, [.slice ab (liveL p 0 0).length ac], rfl, ?_, ?_⟩
  · simp only [Chk.holds, ev0, ev, evV, List.cons_append, List.nil_append, List.getD_cons_zero, List.getD_cons_succ, List.map_cons, List.map_nil, iOf, bOf, sOf, pOf, slLen, slBase, cmpI, arI, Value.ite_bool, int_beq, int_bne, ite_band, ite_bor]; exact ⟨a1, by omega, by omega⟩
  · simp only [ev0, ev, evV, List.cons_append, List.nil_append, List.getD_cons_zero, List.getD_cons_succ, List.map_cons, List.map_nil, iOf, bOf, sOf, pOf, slLen, slBase, cmpI, arI, Value.ite_bool, int_beq, int_bne, ite_band, ite_bor]; exact g0 h2.sh
  simp only [List.cons_append, List.nil_append]
  -- those at the beginning
  refine ⟨fun n vs K => ∃ (i : Nat) (es : Array MapEntry) (cl : Nat) (N : List (Int × GN)), vs = [nI i] ∧ i + n = (liveL p 0 0).length ∧ Held S2 K (grB gr es cl ++ grI N) ∧ GrOk es cl N ∧ ∀ c d, relN N c d ↔ c ≠ d ∧ (c ∈ (liveL p 0 0).take i ∧ d ∈ (liveL p 0 0).take i),
    ⟨(liveL p 0 0).length, 0, #[], 0, [], rfl, by omega, h2, ⟨EntsR.empty, fun j x h => by simp at h⟩, fun c d => by simp [relN]⟩, ?_⟩
  rintro n vs K3 _ ⟨i, es3, cl3, N3, rfl, hin, h3, ok3, r3⟩
  simp only [List.cons_append, List.nil_append]
  refine ⟨fun g => ?_, fun g => ?_⟩
  · simp only [ev0, ev, evV, List.cons_append, List.nil_append, List.getD_cons_zero, List.getD_cons_succ, List.map_cons, List.map_nil, iOf, bOf, sOf, pOf, slLen, slBase, cmpI, arI, Value.ite_bool, int_beq, int_bne, ite_band, ite_bor, decide_eq_true_eq] at g
    obtain ⟨x, hx⟩ : ∃ x, (liveL p 0 0)[i]? = some x := ⟨_, List.getElem?_eq_getElem (show i < (liveL p 0 0).length by omega)⟩
    obtain ⟨x1, _, xcs, x2, x3⟩ := (a4.le h3.sh).get hx
    obtain ⟨rfl, _⟩ := csIK x2
    have hcut := a4.cut (Nat.zero_le i) (show i ≤ (liveL p 0 0).length by omega)
    rw [List.drop_zero] at hcut
    have hctl : ((liveL p 0 0).take i).length = i := by rw [List.length_take]; omega
    refine ⟨fun _ => ?_, [.int .i64 x], rfl, ?_, [.slice ab (liveL p 0 0).length ac], rfl, ?_, fun _ => ?_, ?_⟩
    · simp only [Chk.holds, ev0, ev, evV, List.cons_append, List.nil_append, List.getD_cons_zero, List.getD_cons_succ, List.map_cons, List.map_nil, iOf, bOf, sOf, pOf, slLen, slBase, cmpI, arI, Value.ite_bool, int_beq, int_bne, ite_band, ite_bor]; exact ⟨x1, by omega, by omega⟩
    · simp only [ev0, ev, evV, List.cons_append, List.nil_append, List.getD_cons_zero, List.getD_cons_succ, List.map_cons, List.map_nil, iOf, bOf, sOf, pOf, slLen, slBase, cmpI, arI, Value.ite_bool, int_beq, int_bne, ite_band, ite_bor]; exact x3
    · simp only [ev0, ev, evV, List.cons_append, List.nil_append, List.getD_cons_zero, List.getD_cons_succ, List.map_cons, List.map_nil, iOf, bOf, sOf, pOf, slLen, slBase, cmpI, arI, Value.ite_bool, int_beq, int_bne, ite_band, ite_bor]; exact g0 h3.sh
    · have hcap := (SlR.mk_iff.1 a4)
      have : (liveL p 0 0).length ≤ ac := by
        rcases hcap.2 with ⟨h, h'⟩ | ⟨ad, c, h, h', _⟩
        · rw [h'] at hx; simp at hx
        · cases h; exact h'
      simp only [Chk.holds, ev0, ev, evV, List.cons_append, List.nil_append, List.getD_cons_zero, List.getD_cons_succ, List.map_cons, List.map_nil, iOf, bOf, sOf, pOf, slLen, slBase, cmpI, arI, Value.ite_bool, int_beq, int_bne, ite_band, ite_bor, slCap]; omega
    simp only [List.cons_append, List.nil_append]
    refine ⟨fun n vs K => ∃ (j : Nat) (es : Array MapEntry) (cl : Nat) (N : List (Int × GN)), vs = [nI j] ∧ j + n = i ∧ Held S2 K (grB gr es cl ++ grI N) ∧ GrOk es cl N ∧ ∀ c d, relN N c d ↔ c ≠ d ∧ ((c ∈ (liveL p 0 0).take i ∧ d ∈ (liveL p 0 0).take i) ∨ symL x ((liveL p 0 0).take j) c d),
      ⟨i, 0, es3, cl3, N3, rfl, by omega, h3, ok3, fun c d => by rw [r3]; simp [symL]⟩, ?_⟩
    rintro n4 vs K4 _ ⟨j, es4, cl4, N4, rfl, hjn, h4, ok4, r4⟩
    simp only [List.cons_append, List.nil_append]
    refine ⟨fun g4 => ?_, fun g4 => ?_⟩
    · have hji : j < i := by
        simp only [ev0, ev, evV, List.cons_append, List.nil_append, List.getD_cons_zero, List.getD_cons_succ, List.map_cons, List.map_nil, iOf, bOf, sOf, pOf, slLen, slBase, cmpI, arI, Value.ite_bool, int_beq, int_bne, ite_band, ite_bor, slsV, decide_eq_true_eq] at g4
        omega
      obtain ⟨y, hy⟩ : ∃ y, (liveL p 0 0)[j]? = some y := ⟨_, List.getElem?_eq_getElem (show j < (liveL p 0 0).length by omega)⟩
      have hy2 : ((liveL p 0 0).take i)[j]? = some y := by rw [List.getElem?_take, if_pos hji]; exact hy
      obtain ⟨y1, _, ycs, y2, y3⟩ := (hcut.le h4.sh).get hy2
      obtain ⟨rfl, _⟩ := csIK y2
      refine ⟨fun _ => ?_, [.int .i64 y], rfl, ?_, ?_⟩
      · simp only [Chk.holds, ev0, ev, evV, List.cons_append, List.nil_append, List.getD_cons_zero, List.getD_cons_succ, List.map_cons, List.map_nil, iOf, bOf, sOf, pOf, slLen, slBase, cmpI, arI, Value.ite_bool, int_beq, int_bne, ite_band, ite_bor]
        refine ⟨y1, by omega, ?_⟩
        simp only [slsV, slLen]; omega
      · simp only [ev0, ev, evV, List.cons_append, List.nil_append, List.getD_cons_zero, List.getD_cons_succ, List.map_cons, List.map_nil, iOf, bOf, sOf, pOf, slLen, slBase, cmpI, arI, Value.ite_bool, int_beq, int_bne, ite_band, ite_bor]; exact y3
      refine den_call cb_color_graph_int___join (join_tri gr es4 cl4 N4 x y S2 K4 h4 ok4) ?_
      rintro e K5 ⟨es5, cl5, N5, rfl, h5, ok5, r5⟩
      refine ⟨_, [], rfl, rfl, rfl, pendNil, _, lookup_hit, n4 - 1, by omega, j + 1, es5, cl5, N5, ?_, by omega, h5, ok5, rel_join r5 r4 fun c d => ?_⟩
      · simp only [ev0, ev, evV, List.cons_append, List.nil_append, List.getD_cons_zero, List.getD_cons_succ, List.map_cons, List.map_nil, iOf, bOf, sOf, pOf, slLen, slBase, cmpI, arI, Value.ite_bool, int_beq, int_bne, ite_band, ite_bor]; rw [w64 (by omega) (by omega)]; rfl
      · rw [symL_step hy, or_assoc]
    · have hji : j = i := by
        simp only [ev0, ev, evV, List.cons_append, List.nil_append, List.getD_cons_zero, List.getD_cons_succ, List.map_cons, List.map_nil, iOf, bOf, sOf, pOf, slLen, slBase, cmpI, arI, Value.ite_bool, int_beq, int_bne, ite_band, ite_bor, slsV, decide_eq_false_iff_not] at g4
        omega
      subst hji
      refine ⟨_, lookup_skip rfl lookup_hit, n - 1, by omega, j + 1, es4, cl4, N4, ?_, by omega, h4, ok4, fun c d => ?_⟩
      · simp only [ev0, ev, evV, List.cons_append, List.nil_append, List.getD_cons_zero, List.getD_cons_succ, List.map_cons, List.map_nil, iOf, bOf, sOf, pOf, slLen, slBase, cmpI, arI, Value.ite_bool, int_beq, int_bne, ite_band, ite_bor]; rw [w64 (by omega) (by omega)]; rfl
      · rw [r4, List.take_add_one, hx]
        simp only [Option.toList_some, List.mem_append, List.mem_singleton, symL]
        constructor
        · rintro ⟨h1, ⟨h2, h3⟩ | ⟨h2, h3⟩ | ⟨h2, h3⟩⟩
          · exact ⟨h1, .inl h2, .inl h3⟩
          · exact ⟨h1, .inr h2, .inl h3⟩
          · exact ⟨h1, .inl h3, .inr h2⟩
        · rintro ⟨h1, h2 | h2, h3 | h3⟩
          · exact ⟨h1, .inl ⟨h2, h3⟩⟩
          · exact ⟨h1, .inr (.inr ⟨h3, h2⟩)⟩
          · exact ⟨h1, .inr (.inl ⟨h2, h3⟩)⟩
          · exact absurd (h2.trans h3.symm) h1
  simp only [ev0, ev, evV, List.cons_append, List.nil_append, List.getD_cons_zero, List.getD_cons_succ, List.map_cons, List.map_nil, iOf, bOf, sOf, pOf, slLen, slBase, cmpI, arI, Value.ite_bool, int_beq, int_bne, ite_band, ite_bor, decide_eq_false_iff_not] at g
  rw [List.take_of_length_le (by omega)] at r3
  -- those that something fills
  have hbv2 := hbv.le l2
  refine ⟨fun n vs K => ∃ (k : Nat) (es : Array MapEntry) (cl : Nat) (N : List (Int × GN)) (S' : PH), vs = [nI k] ∧ k + n = p.blocks.length ∧ PH.le S2 S' ∧ Held S' K (grB gr es cl ++ grI N) ∧ GrOk es cl N ∧ ∀ c d, relN N c d ↔ c ≠ d ∧ ((c ∈ liveL p 0 0 ∧ d ∈ liveL p 0 0) ∨ ∃ f ∈ fillsTo p k, f.sym c d),
    ⟨p.blocks.length, 0, es3, cl3, N3, S2, rfl, by omega, PH.le_refl _, h3, ok3, fun c d => by rw [r3]; simp [fillsTo]⟩, ?_⟩
  rintro n5 vs K5 _ ⟨k, es5, cl5, N5, S5, rfl, hkn, le5, h5, ok5, r5⟩
  simp only [List.cons_append, List.nil_append]
  refine ⟨fun g5 => ?_, fun g5 => ?_⟩
  rotate_left
  · simp only [ev0, ev, evV, List.cons_append, List.nil_append, List.getD_cons_zero, List.getD_cons_succ, List.map_cons, List.map_nil, iOf, bOf, sOf, pOf, slLen, slBase, cmpI, arI, Value.ite_bool, int_beq, int_bne, ite_band, ite_bor, decide_eq_false_iff_not] at g5
    have : k = p.blocks.length := by omega
    subst this
    exact ⟨S5, gr, es5, cl5, N5, PH.le_trans l2 le5, rfl, h5, ok5, r5⟩
  simp only [ev0, ev, evV, List.cons_append, List.nil_append, List.getD_cons_zero, List.getD_cons_succ, List.map_cons, List.map_nil, iOf, bOf, sOf, pOf, slLen, slBase, cmpI, arI, Value.ite_bool, int_beq, int_bne, ite_band, ite_bor, decide_eq_true_eq] at g5
  have hk : k < p.blocks.length := by omega
  obtain ⟨b, hb⟩ : ∃ b, p.blocks[k]? = some b := ⟨_, List.getElem?_eq_getElem hk⟩
  have hbl := hp.ins b (List.mem_of_getElem? hb)
  obtain ⟨q1, _, ces, q2, q3⟩ := (hbv2.le le5).get hb
  obtain ⟨iv, es, rfl, his, hes⟩ := blk_iff.1 q2
  obtain ⟨ev, rfl, e1, e2, hea, e3, e4, e5⟩ := end_iff.1 hes
  obtain ⟨bi, ci, rfl⟩ := his.sl
  obtain ⟨be, ce, rfl⟩ := hea.sl
  have hbe : behindL p (k : Int) = behL p k b := by
    unfold behindL
    rw [if_neg (by omega), Int.toNat_natCast, hb]
  refine ⟨fun vs K' => vs = [] ∧ ∃ (es : Array MapEntry) (cl : Nat) (N : List (Int × GN)) (S' : PH), PH.le S5 S' ∧ Held S' K' (grB gr es cl ++ grI N) ∧ GrOk es cl N ∧ ∀ c d, relN N c d ↔ c ≠ d ∧ ((c ∈ liveL p 0 0 ∧ d ∈ liveL p 0 0) ∨ ∃ f ∈ fillsTo p (k + 1), f.sym c d), ?_, fun _ => ?_, [.slice bi b.ins.length ci, .int .i64 b.e.kind, .int .i64 b.e.reg, .slice be b.e.args.length ce, .int .i64 b.e.to, .int .i64 b.e.next, .int .i64 b.e.els], rfl, ?_, ?_⟩
  · rintro vs K' _ ⟨rfl, es', cl', N', S', l', h', ok', r'⟩
    refine ⟨_, lookup_hit, n5 - 1, by omega, k + 1, es', cl', N', S', ?_, by omega, PH.le_trans le5 l', h', ok', r'⟩
    simp only [ev0, ev, evV, List.cons_append, List.nil_append, List.getD_cons_zero, List.getD_cons_succ, List.map_cons, List.map_nil, iOf, bOf, sOf, pOf, slLen, slBase, cmpI, arI, Value.ite_bool, int_beq, int_bne, ite_band, ite_bor]; rw [w64 (by omega) (by omega)]; rfl
  · simp only [Chk.holds, ev0, ev, evV, List.cons_append, List.nil_append, List.getD_cons_zero, List.getD_cons_succ, List.map_cons, List.map_nil, iOf, bOf, sOf, pOf, slLen, slBase, cmpI, arI, Value.ite_bool, int_beq, int_bne, ite_band, ite_bor]; exact ⟨q1, by omega, by omega⟩
  · simp only [ev0, ev, evV, List.cons_append, List.nil_append, List.getD_cons_zero, List.getD_cons_succ, List.map_cons, List.map_nil, iOf, bOf, sOf, pOf, slLen, slBase, cmpI, arI, Value.ite_bool, int_beq, int_bne, ite_band, ite_bor]; exact rowAt_le h5.sh q3
  simp only [List.cons_append, List.nil_append]
  refine den_call cb_live_Behind (h5.pure (R := fun x S' => ∃ v, x = .returned v ∧ SlR S' (behindL p (k : Int)) v) (LBehind_tri p (.slice b0 p.blocks.length c0) (k : Int) S5 (hbv2.le le5) hp hE)) ?_
  rintro x K6 ⟨S6, l6, h6, wv, rfl, hwv⟩
  rw [hbe] at hwv
  obtain ⟨b6, c6, rfl⟩ : ∃ b' c, wv = .slice b' b.ins.length c := by rw [← behL_len p k b]; exact hwv.sl
  refine ⟨_, [.slice b6 b.ins.length c6], rfl, rfl, rfl, pendNil, ?_⟩
  simp only [List.cons_append, List.nil_append]
  refine ⟨fun n vs K => ∃ (i : Nat) (es : Array MapEntry) (cl : Nat) (N : List (Int × GN)), vs = [nI i] ∧ i + n = b.ins.length ∧ Held S6 K (grB gr es cl ++ grI N) ∧ GrOk es cl N ∧ ∀ c d, relN N c d ↔ c ≠ d ∧ (((c ∈ liveL p 0 0 ∧ d ∈ liveL p 0 0) ∨ ∃ f ∈ fillsTo p k, f.sym c d) ∨ ∃ f ∈ insFills p k b i, f.sym c d),
    ⟨b.ins.length, 0, es5, cl5, N5, rfl, by omega, h6, ok5, fun c d => by rw [r5]; simp [insFills]⟩, ?_⟩
  rintro n7 vs K7 _ ⟨i, es7, cl7, N7, rfl, hin7, h7, ok7, r7⟩
  simp only [List.cons_append, List.nil_append]
  refine ⟨fun g7 => ?_, fun g7 => ?_⟩
  · simp only [ev0, ev, evV, List.cons_append, List.nil_append, List.getD_cons_zero, List.getD_cons_succ, List.map_cons, List.map_nil, iOf, bOf, sOf, pOf, slLen, slBase, cmpI, arI, Value.ite_bool, int_beq, int_bne, ite_band, ite_bor, decide_eq_true_eq] at g7
    have hib : i < b.ins.length := by omega
    obtain ⟨x, hx⟩ : ∃ x, b.ins[i]? = some x := ⟨_, List.getElem?_eq_getElem hib⟩
    obtain ⟨z1, _, zcs, z2, z3⟩ := (hwv.le h7.sh).get (behL_get (p := p) (i := k) hib)
    obtain ⟨zv, rfl, z4⟩ := csLK z2
    obtain ⟨zb, zc, rfl⟩ := z4.sl
    have hl2 := liveL_len hp k (i + 1)
    have hisK := (his.le l6).le h7.sh
    obtain ⟨y1, _, ycs, y2, y3⟩ := hisK.get hx
    obtain ⟨arv, dv, rfl, _, x2, hya, _, _, _, hyd, _⟩ := ins_iff.1 y2
    obtain ⟨rb, rc, rfl⟩ := hya.sl
    obtain ⟨db, dc, rfl⟩ := hyd.sl
    have hargs : x.args.length ≤ 4000000 := by
      have h1 := flatMap_wt BlkX.wt BlkX.regs BlkX.regs_wt p.blocks
      have h2 := sumWt_mem BlkX.wt (List.mem_of_getElem? hb)
      have h3 := sumWt_mem InsX.wt (List.mem_of_getElem? hx)
      have h4 := x.args_wt
      have h5 : b.wt = sumWt InsX.wt b.ins + 1 + b.e.wt := rfl
      have h6 : p.wt = 1 + 1 + 1 + (sumWt BlkX.wt p.blocks + 1) := rfl
      omega
    refine ⟨fun vs K' => vs = [] ∧ ∃ (es : Array MapEntry) (cl : Nat) (N : List (Int × GN)), Held S6 K' (grB gr es cl ++ grI N) ∧ GrOk es cl N ∧ ∀ c d, relN N c d ↔ c ≠ d ∧ (((c ∈ liveL p 0 0 ∧ d ∈ liveL p 0 0) ∨ ∃ f ∈ fillsTo p k, f.sym c d) ∨ ∃ f ∈ insFills p k b (i + 1), f.sym c d), ?_, fun _ => ?_, [.slice zb (liveL p k (i + 1)).length zc], rfl, ?_, fun _ => ?_, [txt x.op, .int .i64 x.to, .slice rb x.args.length rc, .int .i64 x.const.kind, .int .i64 x.const.int, txt x.const.text, .slice db x.const.list.length dc, .int .i64 x.num], rfl, ?_, fun g8 => ?_, fun g8 => ?_⟩
    · rintro vs K' _ ⟨rfl, es', cl', N', h', ok', r'⟩
      refine ⟨_, lookup_hit, n7 - 1, by omega, i + 1, es', cl', N', ?_, by omega, h', ok', r'⟩
      simp only [ev0, ev, evV, List.cons_append, List.nil_append, List.getD_cons_zero, List.getD_cons_succ, List.map_cons, List.map_nil, iOf, bOf, sOf, pOf, slLen, slBase, cmpI, arI, Value.ite_bool, int_beq, int_bne, ite_band, ite_bor]; rw [w64 (by omega) (by omega)]; rfl
    · simp only [Chk.holds, ev0, ev, evV, List.cons_append, List.nil_append, List.getD_cons_zero, List.getD_cons_succ, List.map_cons, List.map_nil, iOf, bOf, sOf, pOf, slLen, slBase, cmpI, arI, Value.ite_bool, int_beq, int_bne, ite_band, ite_bor]; exact ⟨z1, by omega, by omega⟩
    · simp only [ev0, ev, evV, List.cons_append, List.nil_append, List.getD_cons_zero, List.getD_cons_succ, List.map_cons, List.map_nil, iOf, bOf, sOf, pOf, slLen, slBase, cmpI, arI, Value.ite_bool, int_beq, int_bne, ite_band, ite_bor]; exact z3
    · simp only [Chk.holds, ev0, ev, evV, List.cons_append, List.nil_append, List.getD_cons_zero, List.getD_cons_succ, List.map_cons, List.map_nil, iOf, bOf, sOf, pOf, slLen, slBase, cmpI, arI, Value.ite_bool, int_beq, int_bne, ite_band, ite_bor]; exact ⟨y1, by omega, by omega⟩
    · simp only [ev0, ev, evV, List.cons_append, List.nil_append, List.getD_cons_zero, List.getD_cons_succ, List.map_cons, List.map_nil, iOf, bOf, sOf, pOf, slLen, slBase, cmpI, arI, Value.ite_bool, int_beq, int_bne, ite_band, ite_bor]; exact y3
    · simp only [ev0, ev, evV, List.cons_append, List.nil_append, List.getD_cons_zero, List.getD_cons_succ, List.map_cons, List.map_nil, iOf, bOf, sOf, pOf, slLen, slBase, cmpI, arI, Value.ite_bool, int_beq, int_bne, ite_band, ite_bor, txt_eqK] at g8
      have hop : x.op = tieB := by simpa using g8
      exact ⟨_, lookup_hit, rfl, es7, cl7, N7, h7, ok7, fun c d => by rw [insFills_step hx, insFill, if_pos hop, List.append_nil]; exact r7 c d⟩
    simp only [ev0, ev, evV, List.cons_append, List.nil_append, List.getD_cons_zero, List.getD_cons_succ, List.map_cons, List.map_nil, iOf, bOf, sOf, pOf, slLen, slBase, cmpI, arI, Value.ite_bool, int_beq, int_bne, ite_band, ite_bor, txt_eqK] at g8
    have hop : x.op ≠ tieB := by simpa using g8
    simp only [List.cons_append, List.nil_append]
    refine ⟨fun n vs K => ∃ (j : Nat) (es : Array MapEntry) (cl : Nat) (N : List (Int × GN)), vs = [nI j] ∧ j + n = (liveL p k (i + 1)).length ∧ PH.le K7 K7 ∧ Held S6 K (grB gr es cl ++ grI N) ∧ GrOk es cl N ∧ ∀ c d, relN N c d ↔ c ≠ d ∧ ((((c ∈ liveL p 0 0 ∧ d ∈ liveL p 0 0) ∨ ∃ f ∈ fillsTo p k, f.sym c d) ∨ ∃ f ∈ insFills p k b i, f.sym c d) ∨ symL x.to (selL x ((liveL p k (i + 1)).take j)) c d),
      ⟨(liveL p k (i + 1)).length, 0, es7, cl7, N7, rfl, by omega, PH.le_refl _, h7, ok7, fun c d => by rw [r7]; simp [symL, selL, lessL]⟩, ?_⟩
    rintro n8 vs K8 _ ⟨j, es8, cl8, N8, rfl, hjn, _, h8, ok8, r8⟩
    simp only [List.cons_append, List.nil_append]
    obtain ⟨zz1, _, zzcs, zz2, zz3⟩ := hwv.get (behL_get (p := p) (i := k) hib)
    obtain ⟨zzv, rfl, zz4⟩ := csLK zz2
    obtain ⟨zzb, zzc, rfl⟩ := zz4.sl
    have hsame : (Value.slice zzb (liveL p k (i + 1)).length zzc) = .slice zb (liveL p k (i + 1)).length zc := by
      obtain ⟨ad1, e1, f1⟩ := z3
      obtain ⟨ad2, e2, f2⟩ := rowAt_le h7.sh zz3
      rw [e1] at e2; cases e2
      have h1 := f1 0 _ rfl
      have h2 := f2 0 _ rfl
      rw [h1] at h2; exact (Option.some.inj h2).symm
    rw [hsame] at zz4
    refine ⟨fun g9 => ?_, fun g9 => ?_⟩
    · simp only [ev0, ev, evV, List.cons_append, List.nil_append, List.getD_cons_zero, List.getD_cons_succ, List.map_cons, List.map_nil, iOf, bOf, sOf, pOf, slLen, slBase, cmpI, arI, Value.ite_bool, int_beq, int_bne, ite_band, ite_bor, decide_eq_true_eq] at g9
      obtain ⟨r, hr⟩ : ∃ r, (liveL p k (i + 1))[j]? = some r := ⟨_, List.getElem?_eq_getElem (show j < (liveL p k (i + 1)).length by omega)⟩
      obtain ⟨w1, _, wcs, w2, w3⟩ := (zz4.le h8.sh).get hr
      obtain ⟨rfl, _⟩ := csIK w2
      have hyaK : SlR K8 x.args (.slice rb x.args.length rc) := by
        obtain ⟨u1, _, ucs, u2, u3⟩ := (his.le l6).get hx
        obtain ⟨arv2, dv2, rfl, _, _, hya2, _⟩ := ins_iff.1 u2
        obtain ⟨rb2, rc2, rfl⟩ := hya2.sl
        have hs2 : (Value.slice rb2 x.args.length rc2) = .slice rb x.args.length rc := by
          obtain ⟨ad1, e1, f1⟩ := y3
          obtain ⟨ad2, e2, f2⟩ := rowAt_le h7.sh u3
          rw [e1] at e2; cases e2
          have h1 := f1 2 _ rfl
          have h2 := f2 2 _ rfl
          rw [h1] at h2; exact (Option.some.inj h2).symm
        rw [hs2] at hya2
        exact hya2.le h8.sh
      refine ⟨fun vs K' => vs = [] ∧ ∃ (es : Array MapEntry) (cl : Nat) (N : List (Int × GN)), Held S6 K' (grB gr es cl ++ grI N) ∧ GrOk es cl N ∧ ∀ c d, relN N c d ↔ c ≠ d ∧ ((((c ∈ liveL p 0 0 ∧ d ∈ liveL p 0 0) ∨ ∃ f ∈ fillsTo p k, f.sym c d) ∨ ∃ f ∈ insFills p k b i, f.sym c d) ∨ symL x.to (selL x ((liveL p k (i + 1)).take (j + 1))) c d), ?_, fun _ => ?_, [.int .i64 r], rfl, ?_, ?_⟩
      · rintro vs K' _ ⟨rfl, es', cl', N', h', ok', r'⟩
        refine ⟨_, lookup_hit, n8 - 1, by omega, j + 1, es', cl', N', ?_, by omega, PH.le_refl _, h', ok', r'⟩
        simp only [ev0, ev, evV, List.cons_append, List.nil_append, List.getD_cons_zero, List.getD_cons_succ, List.map_cons, List.map_nil, iOf, bOf, sOf, pOf, slLen, slBase, cmpI, arI, Value.ite_bool, int_beq, int_bne, ite_band, ite_bor]; rw [w64 (by omega) (by omega)]; rfl
      · simp only [Chk.holds, ev0, ev, evV, List.cons_append, List.nil_append, List.getD_cons_zero, List.getD_cons_succ, List.map_cons, List.map_nil, iOf, bOf, sOf, pOf, slLen, slBase, cmpI, arI, Value.ite_bool, int_beq, int_bne, ite_band, ite_bor]; exact ⟨w1, by omega, by omega⟩
      · simp only [ev0, ev, evV, List.cons_append, List.nil_append, List.getD_cons_zero, List.getD_cons_succ, List.map_cons, List.map_nil, iOf, bOf, sOf, pOf, slLen, slBase, cmpI, arI, Value.ite_bool, int_beq, int_bne, ite_band, ite_bor]; exact w3
      simp only [List.cons_append, List.nil_append]
      refine ⟨fun vs K' => vs = [.bool (!decide (x.op = moveB ∧ r ∈ x.args))] ∧ Held S6 K' (grB gr es8 cl8 ++ grI N8), ?_, fun g10 => ?_, fun g10 => ?_⟩
      · rintro vs K9 _ ⟨rfl, h9⟩
        refine ⟨fun g11 => ?_, fun g11 => ?_⟩
        · simp only [ev0, ev, evV, List.cons_append, List.nil_append, List.getD_cons_zero, List.getD_cons_succ, List.map_cons, List.map_nil, iOf, bOf, sOf, pOf, slLen, slBase, cmpI, arI, Value.ite_bool, int_beq, int_bne, ite_band, ite_bor] at g11
          have hsel : ¬ (x.op = moveB ∧ r ∈ x.args) := fun hh => by rw [decide_eq_true hh] at g11; cases g11
          refine den_call cb_color_graph_int___join (join_tri gr es8 cl8 N8 x.to r S6 K9 h9 ok8) ?_
          rintro e K10 ⟨es10, cl10, N10, rfl, h10, ok10, r10⟩
          refine ⟨_, [], rfl, rfl, rfl, pendNil, _, lookup_hit, rfl, es10, cl10, N10, h10, ok10, rel_join r10 r8 fun c d => ?_⟩
          rw [selL_step hr, if_neg hsel]
          unfold symL
          simp only [List.mem_append, List.mem_singleton]
          constructor
          · rintro (h | ⟨h1, h2 | h2⟩ | ⟨h1, h2 | h2⟩)
            · exact .inl (.inl h)
            · exact .inl (.inr (.inl ⟨h1, h2⟩))
            · exact .inr (.inl ⟨h1, h2⟩)
            · exact .inl (.inr (.inr ⟨h1, h2⟩))
            · exact .inr (.inr ⟨h2, h1⟩)
          · rintro ((h | ⟨h1, h2⟩ | ⟨h1, h2⟩) | ⟨h1, h2⟩ | ⟨h1, h2⟩)
            · exact .inl h
            · exact .inr (.inl ⟨h1, .inl h2⟩)
            · exact .inr (.inr ⟨h1, .inl h2⟩)
            · exact .inr (.inl ⟨h1, .inr h2⟩)
            · exact .inr (.inr ⟨h2, .inr h1⟩)
        · simp only [ev0, ev, evV, List.cons_append, List.nil_append, List.getD_cons_zero, List.getD_cons_succ, List.map_cons, List.map_nil, iOf, bOf, sOf, pOf, slLen, slBase, cmpI, arI, Value.ite_bool, int_beq, int_bne, ite_band, ite_bor] at g11
          have hsel : x.op = moveB ∧ r ∈ x.args := Decidable.byContradiction fun hh => by rw [decide_eq_false hh] at g11; cases g11
          exact ⟨_, lookup_hit, rfl, es8, cl8, N8, h9, ok8, fun c d => by rw [selL_step hr, if_pos hsel, List.append_nil]; exact r8 c d⟩
      · simp only [ev0, ev, evV, List.cons_append, List.nil_append, List.getD_cons_zero, List.getD_cons_succ, List.map_cons, List.map_nil, iOf, bOf, sOf, pOf, slLen, slBase, cmpI, arI, Value.ite_bool, int_beq, int_bne, ite_band, ite_bor, txt_neM] at g10
        have hmv : x.op ≠ moveB := by simpa using g10
        refine ⟨_, lookup_hit, ?_, h8⟩
        simp only [ev0, ev, evV, List.cons_append, List.nil_append, List.getD_cons_zero, List.getD_cons_succ, List.map_cons, List.map_nil, iOf, bOf, sOf, pOf, slLen, slBase, cmpI, arI, Value.ite_bool, int_beq, int_bne, ite_band, ite_bor]
        rw [decide_eq_false (fun hh => hmv hh.1)]; rfl
      · simp only [ev0, ev, evV, List.cons_append, List.nil_append, List.getD_cons_zero, List.getD_cons_succ, List.map_cons, List.map_nil, iOf, bOf, sOf, pOf, slLen, slBase, cmpI, arI, Value.ite_bool, int_beq, int_bne, ite_band, ite_bor, txt_neM] at g10
        have hmv : x.op = moveB := by simpa using g10
        refine den_gives [.bool (decide (r ∈ x.args))] cb_slices_Contains___int_int_ (Contains_gives x.args r _ K8 hyaK hargs) rfl pendNil fun K9 l9 => ?_
        refine ⟨_, lookup_hit, ?_, h8.le l9⟩
        simp only [ev0, ev, evV, List.cons_append, List.nil_append, List.getD_cons_zero, List.getD_cons_succ, List.map_cons, List.map_nil, iOf, bOf, sOf, pOf, slLen, slBase, cmpI, arI, Value.ite_bool, int_beq, int_bne, ite_band, ite_bor]
        by_cases h : r ∈ x.args
        · rw [decide_eq_true h, decide_eq_true (⟨hmv, h⟩ : x.op = moveB ∧ r ∈ x.args)]
        · rw [decide_eq_false h, decide_eq_false (fun hh => h hh.2)]
    · simp only [ev0, ev, evV, List.cons_append, List.nil_append, List.getD_cons_zero, List.getD_cons_succ, List.map_cons, List.map_nil, iOf, bOf, sOf, pOf, slLen, slBase, cmpI, arI, Value.ite_bool, int_beq, int_bne, ite_band, ite_bor, decide_eq_false_iff_not] at g9
      rw [List.take_of_length_le (by omega)] at r8
      refine ⟨_, lookup_skip rfl lookup_hit, rfl, es8, cl8, N8, h8, ok8, fun c d => ?_⟩
      rw [r8, insFills_step hx, insFill, if_neg hop]
      constructor
      · rintro ⟨h1, (h | ⟨f, hf, hs⟩) | h⟩
        · exact ⟨h1, .inl h⟩
        · exact ⟨h1, .inr ⟨f, List.mem_append_left _ hf, hs⟩⟩
        · exact ⟨h1, .inr ⟨_, List.mem_append_right _ (List.mem_singleton.2 rfl), h⟩⟩
      · rintro ⟨h1, h | ⟨f, hf, hs⟩⟩
        · exact ⟨h1, .inl (.inl h)⟩
        · rcases List.mem_append.1 hf with hf | hf
          · exact ⟨h1, .inl (.inr ⟨f, hf, hs⟩)⟩
          · rw [List.mem_singleton.1 hf] at hs
            exact ⟨h1, .inr hs⟩
  simp only [ev0, ev, evV, List.cons_append, List.nil_append, List.getD_cons_zero, List.getD_cons_succ, List.map_cons, List.map_nil, iOf, bOf, sOf, pOf, slLen, slBase, cmpI, arI, Value.ite_bool, int_beq, int_bne, ite_band, ite_bor, decide_eq_false_iff_not] at g7
  have : i = b.ins.length := by omega
  subst this
  refine ⟨fun g8 => ?_, fun g8 => ?_⟩
  · simp only [ev0, ev, evV, List.cons_append, List.nil_append, List.getD_cons_zero, List.getD_cons_succ, List.map_cons, List.map_nil, iOf, bOf, sOf, pOf, slLen, slBase, cmpI, arI, Value.ite_bool, int_beq, int_bne, ite_band, ite_bor] at g8
    have hc : b.e.calls = true := by
      unfold EndX.calls
      simp only [Bool.or_eq_true, decide_eq_true_eq] at g8
      exact decide_eq_true g8
    refine den_call cb_live_Across (h7.pure (R := fun x S' => ∃ v, x = .returned v ∧ SlR S' (acrossL p (k : Int)) v) (LAcross_tri p (.slice b0 p.blocks.length c0) (k : Int) S6 (hbv2.le (PH.le_trans le5 l6)) hp hE)) ?_
    rintro x K8 ⟨S8, l8, h8, av8, rfl, hav8⟩
    obtain ⟨b8, c8, rfl⟩ := hav8.sl
    have hal := acrossL_len hp (k : Int)
    refine ⟨_, [.slice b8 (acrossL p (k : Int)).length c8], rfl, rfl, rfl, pendNil, ?_⟩
    simp only [List.cons_append, List.nil_append]
    refine ⟨fun n vs K => ∃ (j : Nat) (es : Array MapEntry) (cl : Nat) (N : List (Int × GN)), vs = [nI j] ∧ j + n = (acrossL p (k : Int)).length ∧ Held S8 K (grB gr es cl ++ grI N) ∧ GrOk es cl N ∧ ∀ c d, relN N c d ↔ c ≠ d ∧ ((((c ∈ liveL p 0 0 ∧ d ∈ liveL p 0 0) ∨ ∃ f ∈ fillsTo p k, f.sym c d) ∨ ∃ f ∈ insFills p k b b.ins.length, f.sym c d) ∨ symL b.e.to ((acrossL p (k : Int)).take j) c d),
      ⟨(acrossL p (k : Int)).length, 0, es7, cl7, N7, rfl, by omega, h8, ok7, fun c d => by rw [r7]; simp [symL]⟩, ?_⟩
    rintro n9 vs K9 _ ⟨j, es9, cl9, N9, rfl, hjn, h9, ok9, r9⟩
    simp only [List.cons_append, List.nil_append]
    refine ⟨fun g9 => ?_, fun g9 => ?_⟩
    · simp only [ev0, ev, evV, List.cons_append, List.nil_append, List.getD_cons_zero, List.getD_cons_succ, List.map_cons, List.map_nil, iOf, bOf, sOf, pOf, slLen, slBase, cmpI, arI, Value.ite_bool, int_beq, int_bne, ite_band, ite_bor, decide_eq_true_eq] at g9
      obtain ⟨r, hr⟩ : ∃ r, (acrossL p (k : Int))[j]? = some r := ⟨_, List.getElem?_eq_getElem (show j < (acrossL p (k : Int)).length by omega)⟩
      obtain ⟨w1, _, wcs, w2, w3⟩ := (hav8.le h9.sh).get hr
      obtain ⟨rfl, _⟩ := csIK w2
      refine ⟨fun _ => ?_, [.int .i64 r], rfl, ?_, ?_⟩
      · simp only [Chk.holds, ev0, ev, evV, List.cons_append, List.nil_append, List.getD_cons_zero, List.getD_cons_succ, List.map_cons, List.map_nil, iOf, bOf, sOf, pOf, slLen, slBase, cmpI, arI, Value.ite_bool, int_beq, int_bne, ite_band, ite_bor]; exact ⟨w1, by omega, by omega⟩
      · simp only [ev0, ev, evV, List.cons_append, List.nil_append, List.getD_cons_zero, List.getD_cons_succ, List.map_cons, List.map_nil, iOf, bOf, sOf, pOf, slLen, slBase, cmpI, arI, Value.ite_bool, int_beq, int_bne, ite_band, ite_bor]; exact w3
      refine den_call cb_color_graph_int___join (join_tri gr es9 cl9 N9 b.e.to r S8 K9 h9 ok9) ?_
      rintro e K10 ⟨es10, cl10, N10, rfl, h10, ok10, r10⟩
      refine ⟨_, [], rfl, rfl, rfl, pendNil, _, lookup_hit, n9 - 1, by omega, j + 1, es10, cl10, N10, ?_, by omega, h10, ok10, rel_join r10 r9 fun c d => ?_⟩
      · simp only [ev0, ev, evV, List.cons_append, List.nil_append, List.getD_cons_zero, List.getD_cons_succ, List.map_cons, List.map_nil, iOf, bOf, sOf, pOf, slLen, slBase, cmpI, arI, Value.ite_bool, int_beq, int_bne, ite_band, ite_bor]; rw [w64 (by omega) (by omega)]; rfl
      · rw [symL_step hr]; simp only [or_assoc]
    · simp only [ev0, ev, evV, List.cons_append, List.nil_append, List.getD_cons_zero, List.getD_cons_succ, List.map_cons, List.map_nil, iOf, bOf, sOf, pOf, slLen, slBase, cmpI, arI, Value.ite_bool, int_beq, int_bne, ite_band, ite_bor, decide_eq_false_iff_not] at g9
      rw [List.take_of_length_le (by omega)] at r9
      refine ⟨_, lookup_skip rfl (lookup_skip rfl lookup_hit), rfl, es9, cl9, N9, S8, PH.le_trans l6 l8, h9, ok9, fun c d => ?_⟩
      rw [r9, fillsTo_step hb, blkFill, if_pos hc]
      constructor
      · rintro ⟨h1, ((h | ⟨f, hf, hs⟩) | ⟨f, hf, hs⟩) | h⟩
        · exact ⟨h1, .inl h⟩
        · exact ⟨h1, .inr ⟨f, List.mem_append_left _ hf, hs⟩⟩
        · exact ⟨h1, .inr ⟨f, List.mem_append_right _ (List.mem_append_left _ hf), hs⟩⟩
        · exact ⟨h1, .inr ⟨_, List.mem_append_right _ (List.mem_append_right _ (List.mem_singleton.2 rfl)), h⟩⟩
      · rintro ⟨h1, h | ⟨f, hf, hs⟩⟩
        · exact ⟨h1, .inl (.inl (.inl h))⟩
        · rcases List.mem_append.1 hf with hf | hf
          · exact ⟨h1, .inl (.inl (.inr ⟨f, hf, hs⟩))⟩
          · rcases List.mem_append.1 hf with hf | hf
            · exact ⟨h1, .inl (.inr ⟨f, hf, hs⟩)⟩
            · rw [List.mem_singleton.1 hf] at hs
              exact ⟨h1, .inr hs⟩
  · simp only [ev0, ev, evV, List.cons_append, List.nil_append, List.getD_cons_zero, List.getD_cons_succ, List.map_cons, List.map_nil, iOf, bOf, sOf, pOf, slLen, slBase, cmpI, arI, Value.ite_bool, int_beq, int_bne, ite_band, ite_bor] at g8
    have hc : ¬ b.e.calls = true := by
      unfold EndX.calls
      simp only [Bool.or_eq_false_iff, decide_eq_false_iff_not] at g8
      simp only [decide_eq_true_eq]
      omega
    refine ⟨_, lookup_skip rfl lookup_hit, rfl, es7, cl7, N7, S6, l6, h7, ok7, fun c d => ?_⟩
    rw [r7, fillsTo_step hb, blkFill, if_neg hc, List.append_nil]
    constructor
    · rintro ⟨h1, (h | ⟨f, hf, hs⟩) | ⟨f, hf, hs⟩⟩
      · exact ⟨h1, .inl h⟩
      · exact ⟨h1, .inr ⟨f, List.mem_append_left _ hf, hs⟩⟩
      · exact ⟨h1, .inr ⟨f, List.mem_append_right _ hf, hs⟩⟩
    · rintro ⟨h1, h | ⟨f, hf, hs⟩⟩
      · exact ⟨h1, .inl (.inl h)⟩
      · rcases List.mem_append.1 hf with hf | hf
        · exact ⟨h1, .inl (.inr ⟨f, hf, hs⟩)⟩
        · exact ⟨h1, .inr ⟨f, hf, hs⟩⟩
end Go.Proofs.Ytlbbmcpppfiplaa.Vc
/-
  A MAP RANGED OVER, in one rule; maps that are nil. No program in sight.
-/
namespace Go.Proofs.Ytlbbmcpppfiplaa.Vc
open Go

/-- the value is this map, which stands; or nil -/
def MapS (S : PH) (v : Value) (m : List (Int × Value)) : Prop := (∃ r es clock, v = .map (some r) ∧ S r = some (.map es clock) ∧ EntsR (α := Int) es.toList clock m) ∨ (v = .map none ∧ m = [])
theorem MapS.le {S S' : PH} {v : Value} {m : List (Int × Value)} (h : MapS S v m) (hl : PH.le S S') : MapS S' v m :=
  h.imp (fun ⟨r, es, clock, h1, h2, h3⟩ => ⟨r, es, clock, h1, hl _ _ h2, h3⟩) id
section
variable {P : Program} {X : List PanicEntry → PH → Prop} {β : Type} {E : List Value} {L : LK} {K : β → List Value → PH → LK → Prop} {H S : PH}
theorem den_lenS {t kt et ty : TypeId} {x : Operand} {ts : Array TypeId} {args : List (Nat × VE)} {k : Fm β} {m : List (Int × Value)} {v : Value} (hts : ts[0]? = some t) (ht : P.underlying t = some (.map kt et))
    (hx : argEv E args x = v) (hS : PH.le S H) (h : MapS S v m) (hb : (m.length : Int) ≤ 9223372036854775807)
    (hk : den P X k (E ++ [.int .i64 m.length]) H L K) : den P X (.sem (.call ⟨.builtin .len, #[x], ts⟩) ty args (.sc (.int .i64)) [] k) E H L K := by
  rcases h with ⟨r, es, clock, h1, h2, h3⟩ | ⟨h1, h2⟩
  · exact den_mapLen (α := Int) (m := m) hts ht hx ⟨r, es, clock, h1, hS _ _ h2, h3⟩ hb pendNil hk
  · subst h2
    show wpS P (execOp (argEv E args) (bare _ ty)) _ _ H
    rw [exec_len, hx, h1]
    unfold Builtin.len_
    simp only [hts, List.getElem?_toArray, List.getElem?_cons_zero, wpS_bind', wpS_underlying ht]
    exact ⟨[.int .i64 0], rfl, rfl, pendNil, hk⟩
theorem getD_mid (E F : List Value) (u : Value) : (E ++ [u] ++ F).getD E.length (.bool false) = u := by
  rw [List.getD_eq_getElem?_getD, List.append_assoc, List.getElem?_append_right (Nat.le_refl _)]; simp
theorem argEv_mid (E F : List Value) (u : Value) (t : Nat) : argEv (E ++ [u] ++ F) [(t, .sc (.atom E.length))] (.tmp t) = u := by
  have h1 : ([(t, VE.sc (.atom E.length))] : List (Nat × VE)).lookup t = some (.sc (.atom E.length)) := by simp [List.lookup]
  show (match ([(t, VE.sc (.atom E.length))] : List (Nat × VE)).lookup t with | some v => evV (E ++ [u] ++ F) (fun _ => 0) v | none => undef) = u
  rw [h1]
  exact getD_mid E F u
/-- A MAP RANGED OVER -/
theorem den_rangeS {T kt et ty ty2 ty3 : TypeId} {x : Operand} {args : List (Nat × VE)} {id jid t : Nat} {tags : List Tag} {init : List SV} {t2 : Tag} {body after : Fm β} {m : List (Int × Value)} {v : Value} {q mm : Nat} (hq : q = E.length) (hmm : mm = E.length + 1 + tags.length) (ht : P.underlying T = some (.map kt et))
    (hx : argEv E args x = v) (hS : PH.le S H) (h : MapS S v m) (htag : ∀ y ∈ m, t2.ok y.2 = true) (hjid : (jid == id) = false) (Inv : List Int → List Value → PH → Nat → Obj → Prop)
    (h0 : ∀ i o, H i = none → Inv [] (init.map (ev0 (E ++ [Value.pointer (some ⟨i, 0, none⟩)]))) (H.upd i o) i o)
    (hcell : ∀ done vs H' i o, Inv done vs H' i o → H' i = some o ∧ PH.le S H') (hput : ∀ done vs H' i o o', Inv done vs H' i o → Inv done vs (H'.upd i o') i o')
    (hstep : ∀ done y w vs H' i o J, (y, w) ∈ m → y ∉ done → tagsOk tags vs = true → Inv done vs H' i o → (∀ vs' H'', Inv (y :: done) vs' H'' i o → J vs' H'') →
      den P X body (E ++ [Value.pointer (some ⟨i, 0, none⟩)] ++ vs ++ [.bool true] ++ [.int .i64 y, w]) H' ((id, J) :: L) K)
    (hend : ∀ done vs H' i o J, (∀ y, y ∈ m.map (·.1) ↔ y ∈ done) → done.Nodup → tagsOk tags vs = true → Inv done vs H' i o → den P X after (E ++ [Value.pointer (some ⟨i, 0, none⟩)] ++ vs ++ [.bool false]) H' ((id, J) :: L) K) :
    den P X (.sem (.range T x) ty args (.sc .ptr) [] (.loop id tags init (.join jid [.bool] (.ite (.atom mm) (.sem (.entry (.tmp t)) ty2 [(t, .sc (.atom q))] (.tu [(false, [.int .i64]), (false, [t2])]) [] body) after)
      (.alt (.next (.tmp t) false) ty3 [(t, .sc (.atom q))] (.tu [(false, [.bool])]) (.tu [(false, [.bool]), (false, [.int .i64]), (false, [t2])]) (.next jid [.atom mm]) (.next jid [.atom mm]))))) E H L K := by
  subst hq hmm
  have hat : ∀ (i : Nat) (vs F : List Value) (u : Value), tagsOk tags vs = true → ev0 (E ++ [Value.pointer (some ⟨i, 0, none⟩)] ++ vs ++ (u :: F)) (.atom (E.length + 1 + tags.length)) = u := by
    intro i vs F u hvs
    have hl := tagsOk_length hvs
    show (E ++ [Value.pointer (some ⟨i, 0, none⟩)] ++ vs ++ (u :: F)).getD _ _ = u
    rw [List.getD_eq_getElem?_getD, List.getElem?_append_right (by simp; omega)]
    have : E.length + 1 + tags.length - (E ++ [Value.pointer (some ⟨i, 0, none⟩)] ++ vs).length = 0 := by simp; omega
    rw [this]; rfl
  rcases h with ⟨r, es, clock, rfl, hr, hents⟩ | ⟨rfl, rfl⟩
  · refine den_range (r := r) (es := es) (clock := clock) ht hx (hS _ _ hr) (fun _ _ => pendNil) fun i hi => ?_
    have hinit := h0 i (.mapIter (some r) clock #[] clock) hi
    have hl0 : leftM es #[] = es.toList := by unfold leftM; simp
    have hkeys : es.toList.map (·.key) = m.map fun x => Value.int .i64 x.1 := by
      have := congrArg (List.map Prod.fst) hents.ents
      simp only [List.map_map, Function.comp_def] at this
      exact this
    have hent : ∀ e ∈ es.toList, ∃ y w, (y, w) ∈ m ∧ e.key = .int .i64 y ∧ e.val = w := by
      intro e he
      have h1 : (e.key, e.val) ∈ es.toList.map (fun e => (e.key, e.val)) := List.mem_map.2 ⟨e, he, rfl⟩
      rw [hents.ents] at h1
      obtain ⟨z, hz, hze⟩ := List.mem_map.1 h1
      simp only [Prod.mk.injEq] at hze
      exact ⟨z.1, z.2, hz, hze.1.symm, hze.2.symm⟩
    have hhas : ∀ y ∈ m.map (·.1), ∃ e ∈ es.toList, e.key = .int .i64 y := by
      intro y hy
      obtain ⟨z, hz, rfl⟩ := List.mem_map.1 hy
      have h1 : (Value.int .i64 z.1) ∈ es.toList.map (·.key) := by rw [hkeys]; exact List.mem_map.2 ⟨z, hz, rfl⟩
      obtain ⟨e, he, hee⟩ := List.mem_map.1 h1
      exact ⟨e, he, hee⟩
    have huniq : ∀ e ∈ es.toList, ∀ e' ∈ es.toList, e.key = e'.key → e = e' := by
      intro e he e' he' hk
      obtain ⟨a, ha⟩ := List.getElem?_of_mem he
      obtain ⟨b, hb⟩ := List.getElem?_of_mem he'
      obtain ⟨y, w, hyw, hky, _⟩ := hent e he
      have hta : (m.map (·.1))[a]? = some y := by
        have := congrArg (fun l => l[a]?) hkeys
        simp only [List.getElem?_map, ha, Option.map_some, hky] at this
        rw [List.getElem?_map]
        cases hx : m[a]? with
        | none => rw [hx] at this; cases this
        | some z => rw [hx] at this; simp at this; rw [this]; rfl
      have htb : (m.map (·.1))[b]? = some y := by
        have := congrArg (fun l => l[b]?) hkeys
        simp only [List.getElem?_map, hb, Option.map_some, ← hk, hky] at this
        rw [List.getElem?_map]
        cases hx : m[b]? with
        | none => rw [hx] at this; cases this
        | some z => rw [hx] at this; simp at this; rw [this]; rfl
      have hab := (List.getElem?_inj (List.getElem?_eq_some_iff.1 hta).1 hents.keys).1 (hta.trans htb.symm)
      subst hab
      rw [ha] at hb; exact Option.some.inj hb
    refine ⟨fun n vs H' => ∃ (seen : Array Nat) (done : List Int), n = (leftM es seen).length ∧ done.Nodup ∧ (∀ y, y ∈ done ↔ y ∈ m.map (·.1) ∧ ∀ e ∈ leftM es seen, e.key ≠ .int .i64 y) ∧ Inv done vs H' i (.mapIter (some r) clock seen clock), ⟨_, #[], [], rfl, List.nodup_nil, fun y => ?_, hinit⟩, ?_⟩
    · rw [hl0]
      simp only [List.not_mem_nil, false_iff, not_and]
      intro hy hno
      obtain ⟨e, he, hk⟩ := hhas y hy
      exact hno e he hk
    rintro n vs H' hvs ⟨seen, done, rfl, hnd, hdone, hinv⟩
    obtain ⟨hc, hSH⟩ := hcell _ _ _ _ _ hinv
    refine ⟨fun us H'' => ∃ b : Bool, us = [.bool b] ∧ ((b = false ∧ leftM es seen = [] ∧ H'' = H') ∨ (b = true ∧ ∃ e ∈ leftM es seen, Inv done vs H'' i (.mapIter (some r) clock (seen.push e.born) clock))), ?_, ?_⟩
    · rintro us H'' _ ⟨b, rfl, hcase⟩
      refine ⟨fun g => ?_, fun g => ?_⟩
      · rw [hat i vs [] _ hvs] at g
        have hb : b = true := g
        subst hb
        rcases hcase with ⟨h, _⟩ | ⟨_, e, he, h2⟩
        · cases h
        have hee : e ∈ es.toList := (List.mem_filter.1 he).1
        obtain ⟨y, w, hyw, hek, hev⟩ := hent e hee
        obtain ⟨p1, p2⟩ := left_push hents he
        obtain ⟨hc2, hS2⟩ := hcell _ _ _ _ _ h2
        refine den_entry (i := i) (r := r) (es := es) (clock := clock) (seen := seen) (m := m) (e := e) ?_ hc2 (hS2 _ _ hr) hents hee (by rw [hek, hev]; exact ⟨rfl, htag _ hyw⟩) ?_
        · rw [List.append_assoc, argEv_mid]
        rw [hek, hev]
        have hynd : y ∉ done := fun hy => ((hdone y).1 hy).2 e he hek
        refine hstep done y w vs H'' i _ _ hyw hynd hvs h2 fun vs' H3 h3 => ⟨_, p1, seen.push e.born, y :: done, rfl, List.nodup_cons.2 ⟨hynd, hnd⟩, fun z => ?_, h3⟩
        rw [List.mem_cons, hdone]
        constructor
        · rintro (rfl | ⟨h4, h5⟩)
          · refine ⟨List.mem_map.2 ⟨_, hyw, rfl⟩, fun e' he' hk' => ?_⟩
            have he2 := (p2 e').2 (.inr he')
            have := huniq e' (List.mem_filter.1 he2).1 e hee (hk'.trans hek.symm)
            subst this
            have hno := (List.mem_filter.1 he').2
            simp at hno
          · exact ⟨h4, fun e' he' => h5 e' ((p2 e').2 (.inr he'))⟩
        · rintro ⟨h4, h5⟩
          by_cases hz : z = y
          · exact .inl hz
          · refine .inr ⟨h4, fun e' he' hk' => ?_⟩
            rcases (p2 e').1 he' with rfl | h6
            · rw [hek] at hk'; cases hk'; exact hz rfl
            · exact h5 e' h6 hk'
      · rw [hat i vs [] _ hvs] at g
        have hb : b = false := g
        subst hb
        rcases hcase with ⟨_, hnil, rfl⟩ | ⟨h, _⟩
        · refine hend done vs H'' i _ _ (fun y => ?_) hnd hvs hinv
          rw [hdone, hnil]; simp
        · cases h
    · refine den_next (i := i) (r := r) (es := es) (clock := clock) (seen := seen) (m := m) ?_ hc (hSH _ _ hr) hents (fun e he => ?_) (fun hnil => ?_) fun e he => ?_
      · rw [argEv_mid]
      · obtain ⟨y, w, hyw, hek, hev⟩ := hent e he
        rw [hek, hev]; exact ⟨rfl, htag _ hyw⟩
      · refine ⟨_, lookup_hit, false, ?_, .inl ⟨rfl, hnil, rfl⟩⟩
        rw [List.map_cons, List.map_nil, hat i vs [] _ hvs]
      · refine ⟨_, lookup_hit, true, ?_, .inr ⟨rfl, e, he, hput _ _ _ _ _ _ hinv⟩⟩
        rw [List.map_cons, List.map_nil, hat i vs _ _ hvs]
  · show wpS P (execOp (argEv E args) (bare _ ty)) _ _ H
    rw [exec_range, hx]
    unfold Instr.range
    simp only [wpS_bind', wpS_underlying ht, wpS_purec]
    intro i hi
    have hinit := h0 i (.mapIter none 0 #[] 0) hi
    refine ⟨[.pointer (some ⟨i, 0, none⟩)], rfl, rfl, pendNil, ?_⟩
    refine ⟨fun n vs H' => Inv [] vs H' i (.mapIter none 0 #[] 0), ⟨0, hinit⟩, ?_⟩
    intro n vs H' hvs hinv
    obtain ⟨hc, hSH⟩ := hcell _ _ _ _ _ hinv
    refine ⟨fun us H'' => us = [.bool false] ∧ H'' = H', ?_, ?_⟩
    · rintro us H'' _ ⟨rfl, rfl⟩
      refine ⟨fun g => ?_, fun g => ?_⟩
      · rw [hat i vs [] _ hvs] at g; cases g
      · exact hend [] vs H'' i _ _ (fun y => by simp) List.nodup_nil hvs hinv
    · show wpS P (execOp (argEv _ _) (bare _ ty3)) _ _ H'
      rw [exec_next, argEv_mid]
      unfold Instr.next
      simp only [wpS_bind', wpS_purec]
      refine ⟨_, hc, rfl, ?_⟩
      refine .inl ⟨[.bool false], rfl, rfl, _, lookup_hit, ?_, rfl⟩
      rw [List.map_cons, List.map_nil, hat i vs [] _ hvs]
end
end Go.Proofs.Ytlbbmcpppfiplaa.Vc
/-
  COLOUR: the graph let stand; rows turned round; a row of one number.
-/
namespace Go.Proofs.Ytlbbmcpppfiplaa.Vc
open Go

/-! ### the graph, let stand -/
theorem freezeBlks : ∀ (L : List (Nat × Obj)) {S H : PH} {I : List Itm}, Held S H ((L.map fun x => Itm.blk x.1 x.2) ++ I) → ∃ S', PH.le S S' ∧ Held S' H I ∧ ∀ x ∈ L, S' x.1 = some x.2
  | [], S, H, I, h => ⟨S, PH.le_refl _, h, fun x hx => by cases hx⟩
  | a :: L, S, H, I, h => by
    have h' : Held S H (.blk a.1 a.2 :: ((L.map fun x => Itm.blk x.1 x.2) ++ I)) := h
    obtain ⟨l1, h1⟩ := h'.freezeB
    obtain ⟨S2, l2, h2, h3⟩ := freezeBlks L h1
    refine ⟨S2, PH.le_trans l1 l2, h2, fun x hx => ?_⟩
    rcases List.mem_cons.1 hx with rfl | hx
    · exact l2 _ _ PH.upd_same
    · exact h3 x hx
structure GraphR (S : PH) (v : Value) (N : List (Int × GN)) : Prop where
  at_ : ∃ gr es cl, v = .map (some gr) ∧ S gr = some (.map es cl) ∧ GrOk es cl N
  in_ : ∀ x ∈ N, S x.2.ref = some (.map x.2.es x.2.cl)
theorem GraphR.le {S S' : PH} {v : Value} {N : List (Int × GN)} (h : GraphR S v N) (hl : PH.le S S') : GraphR S' v N := by
  obtain ⟨gr, es, cl, h1, h2, h3⟩ := h.at_
  exact ⟨⟨gr, es, cl, h1, hl _ _ h2, h3⟩, fun x hx => hl _ _ (h.in_ x hx)⟩
theorem freezeGraph {S H : PH} {gr : Nat} {es : Array MapEntry} {cl : Nat} {N : List (Int × GN)} (h : Held S H (grB gr es cl ++ grI N)) (ok : GrOk es cl N) : ∃ S', PH.le S S' ∧ PH.le S' H ∧ GraphR S' (.map (some gr)) N := by
  have e : grB gr es cl ++ grI N = (((gr, Obj.map es cl) :: N.map fun x => (x.2.ref, Obj.map x.2.es x.2.cl)).map fun x => Itm.blk x.1 x.2) ++ [] := by
    simp [grB, grI, Function.comp_def]
  rw [e] at h
  obtain ⟨S', l1, h1, h2⟩ := freezeBlks _ h
  exact ⟨S', l1, h1.sh, ⟨gr, es, cl, rfl, h2 _ (List.mem_cons_self ..), ok⟩, fun x hx => h2 (x.2.ref, _) (List.mem_cons_of_mem _ (List.mem_map.2 ⟨x, hx, rfl⟩))⟩
/-- who meets a register -/
def adjN (N : List (Int × GN)) (c : Int) : List Int := match N.find? fun x => decide (x.1 = c) with
  | some x => x.2.s
  | none => []
theorem adj_get {N : List (Int × GN)} (hn : (N.map (·.1)).Nodup) (c : Int) : (∃ (j : Nat) (x : Int × GN), N[j]? = some x ∧ x.1 = c ∧ adjN N c = x.2.s) ∨ ((∀ x ∈ N, x.1 ≠ c) ∧ adjN N c = []) := by
  unfold adjN
  cases hf : N.find? fun x => decide (x.1 = c) with
  | none =>
    rw [List.find?_eq_none] at hf
    exact .inr ⟨fun x hx e => hf x hx (decide_eq_true e), rfl⟩
  | some x =>
    obtain ⟨j, hj⟩ := List.getElem?_of_mem (List.mem_of_find?_eq_some hf)
    have hd := List.find?_some hf
    exact .inl ⟨j, x, hj, by simpa using hd, rfl⟩
theorem adj_mem {N : List (Int × GN)} (hn : (N.map (·.1)).Nodup) (c d : Int) : d ∈ adjN N c ↔ relN N c d := by
  rcases adj_get hn c with ⟨j, x, hj, hx, he⟩ | ⟨hno, he⟩
  · rw [he]
    constructor
    · exact fun h => ⟨x, List.mem_of_getElem? hj, hx, h⟩
    · rintro ⟨y, hy, h1, h2⟩
      obtain ⟨t, ht⟩ := List.getElem?_of_mem hy
      have h3 : (N.map (·.1))[j]? = some c := by rw [List.getElem?_map, hj, ← hx]; rfl
      have h4 : (N.map (·.1))[t]? = some c := by rw [List.getElem?_map, ht, ← h1]; rfl
      have := (List.getElem?_inj (List.getElem?_eq_some_iff.1 h3).1 hn).1 (h3.trans h4.symm)
      subst this
      rw [hj] at ht; cases ht; exact h2
  · rw [he]
    constructor
    · intro h; cases h
    · rintro ⟨y, hy, h1, _⟩; exact absurd h1 (hno y hy)
theorem GraphR.keys {S : PH} {v : Value} {N : List (Int × GN)} (h : GraphR S v N) : (N.map (·.1)).Nodup := by
  obtain ⟨gr, es, cl, _, _, h3⟩ := h.at_; exact outM_keys h3
theorem GraphR.adj_nodup {S : PH} {v : Value} {N : List (Int × GN)} (h : GraphR S v N) (c : Int) : (adjN N c).Nodup := by
  obtain ⟨gr, es, cl, _, _, h3⟩ := h.at_
  rcases adj_get h.keys c with ⟨j, x, hj, hx, he⟩ | ⟨hno, he⟩
  · rw [he]; exact (h3.inner j x hj).nodup
  · rw [he]; exact List.nodup_nil
/-- what stands at a register in the graph -/
theorem GraphR.look {S : PH} {v : Value} {N : List (Int × GN)} (h : GraphR S v N) (c : Int) : MapR S v (outM N) ∧ ∃ w, (getM (outM N) c).getD (.map none) = w ∧ Tag.ok .map w = true ∧ MapS S w (encS (adjN N c)) := by
  obtain ⟨gr, es, cl, rfl, h2, h3⟩ := h.at_
  refine ⟨⟨gr, es, cl, rfl, h2, h3.outer⟩, ?_⟩
  rcases adj_get h.keys c with ⟨j, x, hj, hx, he⟩ | ⟨hno, he⟩
  · have := getM_out h.keys hj
    rw [hx] at this
    rw [this, he]
    exact ⟨_, rfl, rfl, .inl ⟨x.2.ref, x.2.es, x.2.cl, rfl, h.in_ x (List.mem_of_getElem? hj), h3.inner j x hj⟩⟩
  · rw [getM_outNone hno, he]
    exact ⟨_, rfl, rfl, .inr ⟨rfl, rfl⟩⟩
/-! ### a row of numbers turned round -/
set_option maxHeartbeats 1000000 in
theorem ReverseI_tri (l : List Int) (v : Value) (S K : PH) (I : List Itm) (h : Held S K (orow 3 l v :: I)) (hl : l.length ≤ 4000000) :
    Tri Try.prog n_slices_Reverse___int_int_ #[v] K fun x K' => x = .returned (.tuple #[]) ∧ Held S K' (orow 3 l.reverse v :: I) := by
  obtain ⟨b, c, rfl⟩ := (h.row (List.mem_cons_self ..)).sl
  refine tri_slices_Reverse___int_int_ [.slice b l.length c] (by kernel_rfl) (by kernel_rfl) ?_
  refine ⟨fun n vs K' => ∃ (i : Nat) (m : List Int), vs = [nI i, .int .i64 ((l.length : Int) - 1 - i)] ∧ n = l.length - i ∧ i ≤ l.length ∧ RevAt l m i ∧ Held S K' (orow 3 m (.slice b l.length c) :: I), ⟨_, 0, l, ?_, rfl, by omega, RevAt.first l, h⟩, ?_⟩
  · simp only [ev0, ev, evV, List.cons_append, List.nil_append, List.getD_cons_zero, List.getD_cons_succ, List.map_cons, List.map_nil, iOf, bOf, sOf, pOf, slLen, slBase, cmpI, arI, Value.ite_bool, int_beq, int_bne, ite_band, ite_bor]
    rw [w64 (by omega) (by omega)]
    simp
  rintro n vs K1 _ ⟨i, m, rfl, rfl, hil, hr, h1⟩
  refine ⟨fun g => ?_, fun g => ?_⟩
  · simp only [ev0, ev, evV, List.cons_append, List.nil_append, List.getD_cons_zero, List.getD_cons_succ, List.map_cons, List.map_nil, iOf, bOf, sOf, pOf, slLen, slBase, cmpI, arI, Value.ite_bool, int_beq, int_bne, ite_band, ite_bor, decide_eq_true_eq] at g
    have hi2 : 2 * i + 1 < l.length := by omega
    obtain ⟨k, hk⟩ : ∃ k : Nat, (l.length : Int) - 1 - i = (k : Int) := ⟨l.length - 1 - i, by omega⟩
    have hk' : k = l.length - 1 - i := by omega
    rw [hk]
    obtain ⟨a, ha⟩ : ∃ a, m[i]? = some a := ⟨_, List.getElem?_eq_getElem (by rw [hr.len]; omega)⟩
    obtain ⟨z, hz⟩ : ∃ z, m[k]? = some z := ⟨_, List.getElem?_eq_getElem (by rw [hr.len]; omega)⟩
    obtain ⟨a1, _, acs, a2, a3⟩ := (h1.row (List.mem_cons_self ..)).get ha
    obtain ⟨z1, _, zcs, z2, z3⟩ := (h1.row (List.mem_cons_self ..)).get hz
    obtain ⟨rfl, a4⟩ := csIK a2
    obtain ⟨rfl, z4⟩ := csIK z2
    refine ⟨fun _ => ?_, [.int .i64 z], rfl, ?_, fun _ => ?_, [.int .i64 a], rfl, ?_, ?_⟩
    · simp only [Chk.holds, ev0, ev, evV, List.cons_append, List.nil_append, List.getD_cons_zero, List.getD_cons_succ, List.map_cons, List.map_nil, iOf, bOf, sOf, pOf, slLen, slBase, cmpI, arI, Value.ite_bool, int_beq, int_bne, ite_band, ite_bor]; exact ⟨z1, by omega, by omega⟩
    · simp only [ev0, ev, evV, List.cons_append, List.nil_append, List.getD_cons_zero, List.getD_cons_succ, List.map_cons, List.map_nil, iOf, bOf, sOf, pOf, slLen, slBase, cmpI, arI, Value.ite_bool, int_beq, int_bne, ite_band, ite_bor]; exact z3
    · simp only [Chk.holds, ev0, ev, evV, List.cons_append, List.nil_append, List.getD_cons_zero, List.getD_cons_succ, List.map_cons, List.map_nil, iOf, bOf, sOf, pOf, slLen, slBase, cmpI, arI, Value.ite_bool, int_beq, int_bne, ite_band, ite_bor]; exact ⟨a1, by omega, by omega⟩
    · simp only [ev0, ev, evV, List.cons_append, List.nil_append, List.getD_cons_zero, List.getD_cons_succ, List.map_cons, List.map_nil, iOf, bOf, sOf, pOf, slLen, slBase, cmpI, arI, Value.ite_bool, int_beq, int_bne, ite_band, ite_bor]; exact a3
    refine den_hPutZ (i := i) (a := a) (a' := z) (us := [.int .i64 z]) ?_ h1 ha rfl ?_ (by simp [oneC]) (csIK_mk z4) fun K2 h2 => ?_
    · simp only [ev0, ev, evV, List.cons_append, List.nil_append, List.getD_cons_zero, List.getD_cons_succ, List.map_cons, List.map_nil, iOf, bOf, sOf, pOf, slLen, slBase, cmpI, arI, Value.ite_bool, int_beq, int_bne, ite_band, ite_bor]; rfl
    · simp only [ev0, ev, evV, List.cons_append, List.nil_append, List.getD_cons_zero, List.getD_cons_succ, List.map_cons, List.map_nil, iOf, bOf, sOf, pOf, slLen, slBase, cmpI, arI, Value.ite_bool, int_beq, int_bne, ite_band, ite_bor]
    have hz' : (m.set i z)[k]? = some z := by
      rw [List.getElem?_set, if_neg (by omega)]; exact hz
    refine den_hPutZ (i := k) (a := z) (a' := a) (us := [.int .i64 a]) ?_ h2 hz' rfl ?_ (by simp [oneC]) (csIK_mk a4) fun K3 h3 => ?_
    · simp only [ev0, ev, evV, List.cons_append, List.nil_append, List.getD_cons_zero, List.getD_cons_succ, List.map_cons, List.map_nil, iOf, bOf, sOf, pOf, slLen, slBase, cmpI, arI, Value.ite_bool, int_beq, int_bne, ite_band, ite_bor]; rfl
    · simp only [ev0, ev, evV, List.cons_append, List.nil_append, List.getD_cons_zero, List.getD_cons_succ, List.map_cons, List.map_nil, iOf, bOf, sOf, pOf, slLen, slBase, cmpI, arI, Value.ite_bool, int_beq, int_bne, ite_band, ite_bor]
    refine ⟨_, lookup_hit, l.length - (i + 1), by omega, i + 1, (m.set i z).set k a, ?_, rfl, by omega, ?_, h3⟩
    · simp only [ev0, ev, evV, List.cons_append, List.nil_append, List.getD_cons_zero, List.getD_cons_succ, List.map_cons, List.map_nil, iOf, bOf, sOf, pOf, slLen, slBase, cmpI, arI, Value.ite_bool, int_beq, int_bne, ite_band, ite_bor]
      rw [w64 (by omega) (by omega), w64 (by omega) (by omega)]
      congr 2
      congr 1
      omega
    · subst hk'; exact hr.step hi2 ha hz
  · simp only [ev0, ev, evV, List.cons_append, List.nil_append, List.getD_cons_zero, List.getD_cons_succ, List.map_cons, List.map_nil, iOf, bOf, sOf, pOf, slLen, slBase, cmpI, arI, Value.ite_bool, int_beq, int_bne, ite_band, ite_bor, decide_eq_false_iff_not] at g
    have := hr.done (by omega)
    subst this
    exact ⟨rfl, h1⟩

/-! ### a row of one number, many times -/
def mulA : SV := match fm_math_bits_Mul64 with
  | .leaf (.tu [(_, [a]), _]) => a
  | _ => .int .u64 1
def mulB : SV := match fm_math_bits_Mul64 with
  | .leaf (.tu [_, (_, [b])]) => b
  | _ => .int .u64 1
theorem mul_all : ((List.range 2001).all fun R => decide (iOf (ev [.int .u64 1, .int .u64 (R : Int)] (fun _ => 0) mulA) = 0) && decide (iOf (ev [.int .u64 1, .int .u64 (R : Int)] (fun _ => 0) mulB) = (R : Int))) = true := by decide +kernel
end Go.Proofs.Ytlbbmcpppfiplaa.Vc
/-
  COLOUR: a row of one number, many times.
-/
namespace Go.Proofs.Ytlbbmcpppfiplaa.Vc
open Go

section
variable {P : Program} {Φ : Next → PH → Prop} {Ψ : Value → PH → Prop} {H S : PH} {ρ : Operand → Value} {I : List Itm}
theorem exec_copy {x y : Operand} {ts : Array TypeId} {ty : TypeId} : wpS P (execOp ρ (bare (.call ⟨.builtin .copy, #[x, y], ts⟩) ty)) Φ Ψ H = wpS P (Builtin.copy_ ts ty #[ρ x, ρ y]) (fun v H' => Φ (.value v) H') Ψ H := by
  simp only [execOp, bare, resolve, wpS_bind', wpS_pure]
  simp only [invoke, List.map_toArray, List.map_cons, List.map_nil, builtin, wpS_bind', wpS_pure]
variable {X : List PanicEntry → PH → Prop} {β : Type} {E : List Value} {L : LK} {K : β → List Value → PH → LK → Prop}
/-- cells copied into a block -/
theorem den_copyB {T ty e : TypeId} {ts : Array TypeId} {x y : Operand} {args : List (Nat × VE)} {k : Fm β} {r d dl dc sl sc m : Nat} {sa : Addr} {BT : TypeId} {cs : List Value} (vs : List Value) (hts : ts[0]? = some T) (hT : P.underlying T = some (.slice e)) (hiz : (P.info? e).map (·.size) = some 1)
    (hx : argEv E args x = .slice (some ⟨r, d, none⟩) dl dc) (hy : argEv E args y = .slice (some sa) sl sc) (h : Held S H (bx r BT cs :: I)) (hm : m = min sl dl) (hvs : vs.length = m) (hread : ∀ i v, vs[i]? = some v → H.cell? (sa.add i) = some v) (hfit : d + m ≤ cs.length) (h1 : ∀ v ∈ vs, oneC v = true) (hml : (m : Int) ≤ 9223372036854775807)
    (hk : ∀ H', Held S H' (bx r BT (cs.take d ++ vs ++ cs.drop (d + m)) :: I) → den P X k (E ++ [.int .i64 m]) H' L K) : den P X (.sem (.call ⟨.builtin .copy, #[x, y], ts⟩) ty args (.sc (.int .i64)) [] k) E H L K := by
  obtain ⟨i, hi, hz⟩ := Option.map_eq_some_iff.1 hiz
  show wpS P (execOp (argEv E args) (bare _ ty)) _ _ H
  rw [exec_copy, hx, hy]
  unfold Builtin.copy_
  simp only [hts, List.getElem?_toArray, List.getElem?_cons_zero, List.getElem?_cons_succ, wpS_bind', wpS_underlying hT]
  show wpS P (Builtin.lenOf (.slice (some sa) sl sc)) _ _ H
  show wpS P (sizeOf e) _ _ H
  rw [wpS_sizeOf hi, hz]
  show wpS P (loadCells sa (Nat.min sl dl * 1)) _ _ H
  have hmm : Nat.min sl dl * 1 = m := by rw [Nat.mul_one, hm]
  rw [hmm]
  refine wpS_loadCells hvs hread ?_
  show wpS P (storeCells ⟨r, d, none⟩ vs.toArray.toList) _ _ H
  rw [List.toList_toArray]
  refine wpS_storeCells vs d 0 cs.toArray H (h.blk (List.mem_cons_self ..)) (by simp [hvs] <;> omega) h1 ?_
  have h2 := h.put (.cells (cs.take d ++ vs ++ cs.drop (d + vs.length)).toArray BT (0, 0))
  have e2 : splice cs.toArray (d + 0) vs = (cs.take d ++ vs ++ cs.drop (d + vs.length)).toArray := by
    unfold splice; simp
  rw [e2]
  rw [hvs] at h2
  rw [hvs]
  refine ⟨[.int .i64 m], rfl, ?_, pendNil, hk _ h2⟩
  show goInt (Nat.min sl dl) = _
  rw [show Nat.min sl dl = m from hm.symm]; rfl
end
theorem Mul64_gives (R : Nat) (hR : R ≤ 2000) (H : PH) : Gives Try.prog n_math_bits_Mul64 [.int .u64 1, .int .u64 (R : Int)] H (.tuple #[.int .u64 0, .int .u64 (R : Int)]) := by
  refine tri_math_bits_Mul64 [.int .u64 1, .int .u64 (R : Int)] (by kernel_rfl) (by kernel_rfl) ?_
  have h := List.all_eq_true.1 mul_all R (List.mem_range.2 (by omega))
  rw [Bool.and_eq_true, decide_eq_true_eq, decide_eq_true_eq] at h
  obtain ⟨h1, h2⟩ := h
  refine ⟨?_, PH.le_refl _⟩
  show Ending.returned (.tuple #[.int .u64 (iOf (ev [.int .u64 1, .int .u64 (R : Int)] (fun _ => 0) mulA)), .int .u64 (iOf (ev [.int .u64 1, .int .u64 (R : Int)] (fun _ => 0) mulB))]) = _
  rw [h1, h2]
theorem Mul_gives (R : Nat) (hR : R ≤ 2000) (H : PH) : Gives Try.prog n_math_bits_Mul [.int .u64 1, .int .u64 (R : Int)] H (.tuple #[.int .u64 0, .int .u64 (R : Int)]) := by
  refine tri_math_bits_Mul [.int .u64 1, .int .u64 (R : Int)] (by kernel_rfl) (by kernel_rfl) ?_
  exact den_gives [.int .u64 0, .int .u64 (R : Int)] cb_math_bits_Mul64 (Mul64_gives R hR H) rfl pendNil fun K l => ⟨rfl, l⟩
theorem oneIntK : OneOk Try.prog 3 8 (.int .i64 0) := OneOk.of (by kernel_rfl) rfl
theorem rep_cut (n m R : Nat) (u z : Value) (h : n + m ≤ R) : (List.replicate n u ++ List.replicate (R - n) z).take n ++ List.replicate m u ++ (List.replicate n u ++ List.replicate (R - n) z).drop (n + m) = List.replicate (n + m) u ++ List.replicate (R - (n + m)) z := by
  rw [List.take_left' (by simp), List.drop_append, List.length_replicate, Nat.add_sub_cancel_left, List.drop_of_length_le (by simp), List.nil_append, List.drop_replicate, ← List.replicate_append_replicate]
  congr 2; omega
set_option maxHeartbeats 1000000 in
theorem Repeat_tri (R : Nat) (hR : R ≤ 2000) (a : Int) (lv : Value) (S : PH) (hl : SlR S [a] lv) :
    Tri Try.prog n_slices_Repeat___int_int_ #[lv, .int .i64 (R : Int)] S fun x K => ∃ v, x = .returned v ∧ Held S K [orow 3 (List.replicate R a) v] := by
  have hl0 := hl
  obtain ⟨b1, c1, rfl⟩ := hl.sl
  obtain ⟨ad, had⟩ : ∃ ad, b1 = some ad := by
    rcases (SlR.mk_iff.1 hl).2 with ⟨_, h⟩ | ⟨ad, c, h, _⟩
    · cases h
    · cases h; exact ⟨ad, rfl⟩
  subst had
  obtain ⟨_, _, acs, q2, q3⟩ := hl0.get (i := 0) (a := a) rfl
  obtain ⟨rfl, hai⟩ := csIK q2
  have hcell : S.cell? ad = some (.int .i64 a) := by
    obtain ⟨ad2, e1, f1⟩ := q3
    have h0 := f1 0 _ rfl
    have : ad2 = ad := by simp [eltV, pOf, slBase, Addr.add_zero] at e1; exact e1.symm
    subst this
    simpa [Addr.add_zero] using h0
  refine tri_slices_Repeat___int_int_ [.slice (some ad) 1 c1, .int .i64 (R : Int)] (by kernel_rfl) (by kernel_rfl) ?_
  refine ⟨fun vs K => vs = [] ∧ K = S, ?_, fun g => ?_, fun g => ⟨_, lookup_hit, rfl, rfl⟩⟩
  rotate_left
  · simp only [ev0, ev, evV, List.cons_append, List.nil_append, List.getD_cons_zero, List.getD_cons_succ, List.map_cons, List.map_nil, iOf, bOf, sOf, pOf, slLen, slBase, cmpI, arI, Value.ite_bool, int_beq, int_bne, ite_band, ite_bor, decide_eq_true_eq] at g; omega
  rintro vs K _ ⟨rfl, rfl⟩
  have hw1 : IntKind.u64.wrap (1 : Int) = 1 := rfl
  have hw2 : IntKind.u64.wrap (R : Int) = (R : Int) := by
    simp only [IntKind.wrap, IntKind.bits, IntKind.signed]; simp; omega
  refine den_gives [.int .u64 0, .int .u64 (R : Int)] cb_math_bits_Mul ?_ rfl pendNil fun K1 l1 => ?_
  · have := Mul_gives R hR K
    simp only [ev0, ev, evV, List.cons_append, List.nil_append, List.getD_cons_zero, List.getD_cons_succ, List.map_cons, List.map_nil, iOf, bOf, sOf, pOf, slLen, slBase, cmpI, arI, Value.ite_bool, int_beq, int_bne, ite_band, ite_bor, List.length_cons, List.length_nil]
    rw [hw2]
    exact this
  simp only [List.cons_append, List.nil_append]
  refine ⟨fun vs K' => vs = [] ∧ K' = K1, ?_, fun g => ?_, fun g => ⟨_, lookup_hit, rfl, rfl⟩⟩
  rotate_left
  · simp only [ev0, ev, evV, List.cons_append, List.nil_append, List.getD_cons_zero, List.getD_cons_succ, List.map_cons, List.map_nil, iOf, bOf, sOf, pOf, slLen, slBase, cmpI, arI, Value.ite_bool, int_beq, int_bne, ite_band, ite_bor] at g
    simp only [Bool.or_eq_true, decide_eq_true_eq] at g
    omega
  rintro vs K' _ ⟨rfl, rfl⟩
  have hw3 : IntKind.i64.wrap (R : Int) = (R : Int) := by rw [w64 (by omega) (by omega)]
  simp only [List.cons_append, List.nil_append, List.append_nil]
  refine den_hMakeRaw (n := R) uIntsK oneIntK (by show Value.int .i64 (IntKind.i64.wrap (R : Int)) = _; rw [hw3]) (by show Value.int .i64 (IntKind.i64.wrap (R : Int)) = _; rw [hw3]) (by simp only [maxLen]; omega) (by omega) (Held.nil l1) fun r K2 h2 _ => ?_
  have h2 := h2.rawBlk
  simp only [List.cons_append, List.nil_append]
  have hm : min 1 R ≤ R := Nat.min_le_right _ _
  refine den_copyB (BT := 3) (m := min 1 R) (sl := 1) (dl := R) (d := 0) (sa := ad) (sc := c1) (dc := R) (List.replicate (min 1 R) (.int .i64 a)) rfl uIntsK (by kernel_rfl) (by kernel_rfl) (by kernel_rfl) h2 rfl (by simp) (fun i v hv => ?_) (by simp; omega) (fun v hv => by rw [(List.mem_replicate.1 hv).2]; rfl) (by omega) fun K3 h3 => ?_
  · rw [List.getElem?_replicate] at hv
    split at hv
    · rename_i hi
      have : i = 0 := by omega
      subst this
      cases hv
      rw [Addr.add_zero]
      exact PH.cell_le h2.sh hcell
    · cases hv
  have h3 : Held K K3 [bx r 3 (List.replicate (min 1 R) (Value.int .i64 a) ++ List.replicate (R - min 1 R) (Value.int .i64 0))] := by
    have e := rep_cut 0 (min 1 R) R (Value.int .i64 a) (Value.int .i64 0) (by omega)
    simp only [List.replicate_zero, List.nil_append, Nat.zero_add, Nat.sub_zero] at e
    rw [Nat.zero_add, e] at h3
    exact h3
  simp only [List.cons_append, List.nil_append]
  refine ⟨fun n vs K' => ∃ j : Nat, vs = [nI j] ∧ n = R - j ∧ j ≤ R ∧ (j = 0 → R = 0) ∧ Held K K' [bx r 3 (List.replicate j (Value.int .i64 a) ++ List.replicate (R - j) (Value.int .i64 0))], ⟨_, min 1 R, rfl, rfl, hm, by omega, h3⟩, ?_⟩
  rintro n vs K4 _ ⟨j, rfl, rfl, hjR, hj0, h4⟩
  simp only [List.cons_append, List.nil_append]
  refine ⟨fun g => ?_, fun g => ?_⟩
  · simp only [ev0, ev, evV, List.cons_append, List.nil_append, List.getD_cons_zero, List.getD_cons_succ, List.map_cons, List.map_nil, iOf, bOf, sOf, pOf, slLen, slBase, cmpI, arI, Value.ite_bool, int_beq, int_bne, ite_band, ite_bor, decide_eq_true_eq] at g
    have hjl : j < R := by omega
    refine ⟨fun _ => ?_, fun _ => ?_, ?_⟩
    · simp only [Chk.holds, ev0, ev, evV, List.cons_append, List.nil_append, List.getD_cons_zero, List.getD_cons_succ, List.map_cons, List.map_nil, iOf, bOf, sOf, pOf, slLen, slBase, cmpI, arI, Value.ite_bool, int_beq, int_bne, ite_band, ite_bor, slCap]; omega
    · simp only [Chk.holds, ev0, ev, evV, List.cons_append, List.nil_append, List.getD_cons_zero, List.getD_cons_succ, List.map_cons, List.map_nil, iOf, bOf, sOf, pOf, slLen, slBase, cmpI, arI, Value.ite_bool, int_beq, int_bne, ite_band, ite_bor, slCap]; omega
    have hd : slsV (.slice (some ⟨r, 0, none⟩) R R) (j : Int) (R : Int) 1 = .slice (some ⟨r, j, none⟩) (R - j) (R - j) := by
      simp only [slsV, slCap, slBase, Int.toNat_natCast, Nat.mul_one]
      rw [if_neg (by omega)]; simp [Addr.add_plain]
    have hs : slsV (.slice (some ⟨r, 0, none⟩) R R) 0 (j : Int) 1 = .slice (some ⟨r, 0, none⟩) j R := by
      show Value.slice (if R = 0 then some ⟨r, 0, none⟩ else some (Addr.add ⟨r, 0, none⟩ 0)) ((j : Int).toNat - 0) (R - 0) = _
      rw [if_neg (show ¬ R = 0 by omega), Addr.add_plain, Int.toNat_natCast]; rfl
    refine den_copyB (BT := 3) (m := min j (R - j)) (sl := j) (dl := R - j) (d := j) (sa := ⟨r, 0, none⟩) (sc := R) (dc := R - j) (List.replicate (min j (R - j)) (.int .i64 a)) rfl uIntsK (by kernel_rfl) ?_ ?_ h4 rfl (by simp) (fun i v hv => ?_) (by simp; omega) (fun v hv => by rw [(List.mem_replicate.1 hv).2]; rfl) (by omega) fun K5 h5 => ?_
    · exact hd
    · exact hs
    · rw [List.getElem?_replicate] at hv
      split at hv
      · rename_i hi
        cases hv
        have hb := h4.blk (List.mem_cons_self ..)
        rw [Addr.add_plain, PH.cell_at hb, Nat.zero_add]
        simp only [List.getElem?_toArray]
        rw [List.getElem?_append_left (by simp; omega), List.getElem?_replicate, if_pos (by omega)]
      · cases hv
    rw [rep_cut j (min j (R - j)) R _ _ (by omega)] at h5
    refine ⟨_, lookup_hit, R - (j + min j (R - j)), by omega, j + min j (R - j), ?_, rfl, by omega, by omega, h5⟩
    simp only [ev0, ev, evV, List.cons_append, List.nil_append, List.getD_cons_zero, List.getD_cons_succ, List.map_cons, List.map_nil, iOf, bOf, sOf, pOf, slLen, slBase, cmpI, arI, Value.ite_bool, int_beq, int_bne, ite_band, ite_bor]; rw [w64 (by omega) (by omega)]; congr 2
  · simp only [ev0, ev, evV, List.cons_append, List.nil_append, List.getD_cons_zero, List.getD_cons_succ, List.map_cons, List.map_nil, iOf, bOf, sOf, pOf, slLen, slBase, cmpI, arI, Value.ite_bool, int_beq, int_bne, ite_band, ite_bor, decide_eq_false_iff_not] at g
    have : j = R := by omega
    subst this
    rw [Nat.sub_self, List.replicate_zero, List.append_nil] at h4
    have hrow : PV.RepRow K ((List.replicate j a).flatMap pv) (List.replicate j (Value.int .i64 a)) := by
      have := ints_row_mk (S := K) (l := List.replicate j a) fun x hx => by rw [(List.mem_replicate.1 hx).2]; exact hai
      rwa [List.map_replicate] at this
    have h5 := Held.blkRow (α := Int) (L := List.replicate j a) rfl h4 hrow (by simp only [List.length_replicate, maxLen]; omega)
    rw [List.length_replicate] at h5
    exact ⟨_, rfl, h5⟩
end Go.Proofs.Ytlbbmcpppfiplaa.Vc
/-
  COLOUR: the order of the registers, by the program.
-/
namespace Go.Proofs.Ytlbbmcpppfiplaa.Vc
open Go

/-- a graph of registers below R -/
structure GraphOk (R : Nat) (N : List (Int × GN)) : Prop where
  keys : (N.map (·.1)).Nodup
  nd : ∀ c, (adjN N c).Nodup
  rel : ∀ c d, d ∈ adjN N c → c ∈ adjN N d ∧ c ≠ d ∧ 0 ≤ c ∧ c < R ∧ 0 ≤ d ∧ d < R
/-- how many others of those that are left a register meets -/
def degN (N : List (Int × GN)) (gone : List Int) (u : Int) : Nat := ((adjN N u).filter fun d => decide (d ∉ gone)).length
theorem deg_le {R : Nat} {N : List (Int × GN)} (h : GraphOk R N) (g : List Int) (u : Int) : degN N g u ≤ R := by
  have h1 : (adjN N u).length ≤ ((List.range R).map Int.ofNat).length := length_le_of_sub (h.nd u) fun d hd => by
    have := h.rel u d hd
    exact List.mem_map.2 ⟨d.toNat, List.mem_range.2 (by omega), show ((d.toNat : Nat) : Int) = d by omega⟩
  rw [List.length_map, List.length_range] at h1
  exact Nat.le_trans (List.length_filter_le _ _) h1
theorem deg_none (N : List (Int × GN)) (u : Int) : degN N [] u = (adjN N u).length := by
  unfold degN; rw [List.filter_eq_self.2]; intro d _; simp
theorem filter_less {l : List Int} (hn : l.Nodup) (g : List Int) (b : Int) (hb : b ∉ g) : (l.filter fun d => decide (d ∉ g ++ [b])).length = (l.filter fun d => decide (d ∉ g)).length - (if b ∈ l then 1 else 0) := by
  induction l with
  | nil => simp
  | cons a l ih =>
    obtain ⟨h1, h2⟩ := List.nodup_cons.1 hn
    have ih := ih h2
    rw [List.filter_cons, List.filter_cons]
    by_cases e : a = b
    · subst e
      rw [if_neg h1, Nat.sub_zero] at ih
      rw [if_neg (by simp), if_pos (by simpa using hb), if_pos (List.mem_cons_self ..), ih, List.length_cons, Nat.add_sub_cancel]
    · have hiff : (b ∈ a :: l) ↔ b ∈ l := by rw [List.mem_cons]; exact ⟨fun h => h.elim (fun h => absurd h.symm e) id, .inr⟩
      have hif : (if b ∈ a :: l then 1 else 0) = (if b ∈ l then 1 else 0) := by simp only [hiff]
      rw [hif]
      by_cases hg : a ∈ g
      · rw [if_neg (by simp [hg]), if_neg (by simp [hg]), ih]
      · rw [if_pos (by simp [hg, e]), if_pos (by simp [hg]), List.length_cons, List.length_cons, ih]
        by_cases hbl : b ∈ l
        · have hpos : 0 < (l.filter fun d => decide (d ∉ g)).length := List.length_pos_iff.2 fun hnil => by
            have : b ∈ l.filter fun d => decide (d ∉ g) := List.mem_filter.2 ⟨hbl, by simpa using hb⟩
            rw [hnil] at this; cases this
          rw [if_pos hbl]; omega
        · rw [if_neg hbl]; omega
theorem deg_step {R : Nat} {N : List (Int × GN)} (h : GraphOk R N) {g : List Int} {b u : Int} (hb : b ∉ g) : degN N (g ++ [b]) u = degN N g u - (if b ∈ adjN N u then 1 else 0) := filter_less (h.nd u) g b hb
theorem deg_pos {N : List (Int × GN)} {g : List Int} {b u : Int} (hb : b ∉ g) (hu : b ∈ adjN N u) : 0 < degN N g u := by
  unfold degN
  refine List.length_pos_iff.2 fun hnil => ?_
  have : b ∈ (adjN N u).filter fun d => decide (d ∉ g) := List.mem_filter.2 ⟨hu, by simpa using hb⟩
  rw [hnil] at this; cases this
/-- they are taken out so: one that meets few of those that are left; or all that are left meet many -/
def OrdOk (N : List (Int × GN)) (R : Nat) (k : Int) (st : List Int) : Prop := ∀ (t : Nat) s, st[t]? = some s → (degN N (st.take t) s : Int) < k ∨ ∀ u : Nat, u < R → (u : Int) ∉ st.take t → k ≤ degN N (st.take t) u
theorem left_over {R : Nat} {st : List Int} (hn : st.Nodup) (hr : ∀ s ∈ st, 0 ≤ s ∧ s < R) (hl : st.length < R) : ∃ j : Nat, j < R ∧ (j : Int) ∉ st := by
  refine Classical.byContradiction fun hno => ?_
  have hall : ∀ j : Nat, j < R → (j : Int) ∈ st := fun j hj => Classical.byContradiction fun h => hno ⟨j, hj, h⟩
  have h1 : ((List.range R).map Int.ofNat).length ≤ st.length := length_le_of_sub (by
    rw [List.Nodup, List.pairwise_map]
    exact (List.nodup_range (n := R)).imp fun h e => h (Int.ofNat.inj e)) fun y hy => by
      obtain ⟨i, hi, rfl⟩ := List.mem_map.1 hy
      exact hall i (List.mem_range.1 hi)
  rw [List.length_map, List.length_range] at h1
  omega
set_option maxHeartbeats 4000000 in
theorem order_tri (R : Nat) (hR : R ≤ 2000) (k : Int) (gv : Value) (N : List (Int × GN)) (S : PH) (hg : GraphR S gv N) (ok : GraphOk R N) :
    Tri Try.prog n_color_order #[gv, .int .i64 (R : Int), .int .i64 k] S fun x S' => PH.le S S' ∧ ∃ st v, x = .returned v ∧ SlR S' st.reverse v ∧ st.Nodup ∧ st.length = R ∧ (∀ s : Int, s ∈ st → 0 ≤ s ∧ s < R) ∧ OrdOk N R k st := by
  obtain ⟨gr, ges, gcl, rfl, _, _⟩ := hg.at_
  refine tri_color_order [.map (some gr), .int .i64 (R : Int), .int .i64 k] (by kernel_rfl) (by kernel_rfl) ?_
  refine ⟨fun vs K => ∃ dv nv, vs = [dv, nv] ∧ Held S K [orow 3 (List.replicate R (0 : Int)) dv, orow 4 (List.replicate R false) nv], ?_, ?_, ?_⟩
  rotate_left
  · refine den_hMake (α := Int) (n := R) 0 rfl (fun S => csIK_mk InI0) uIntsK oneIntK (by kernel_rfl) (by kernel_rfl) (by simp only [maxLen]; omega) (by omega) (Held.nil (PH.le_refl S)) fun v1 K1 h1 _ => ?_
    refine den_hMake (α := Bool) (n := R) false rfl (fun S => csBK_mk) uBoolsK oneBoolK (by kernel_rfl) (by kernel_rfl) (by simp only [maxLen]; omega) (by omega) h1 fun v2 K2 h2 _ => ?_
    exact ⟨_, lookup_hit, v1, v2, rfl, h2.perm (List.Perm.swap _ _ _)⟩
  · refine den_hMake (α := Bool) (n := R) false rfl (fun S => csBK_mk) uBoolsK oneBoolK (by kernel_rfl) (by kernel_rfl) (by simp only [maxLen]; omega) (by omega) (Held.nil (PH.le_refl S)) fun v1 K1 h1 _ => ?_
    refine den_hMake (α := Int) (n := R) 0 rfl (fun S => csIK_mk InI0) uIntsK oneIntK (by kernel_rfl) (by kernel_rfl) (by simp only [maxLen]; omega) (by omega) h1 fun v2 K2 h2 _ => ?_
    exact ⟨_, lookup_hit, v2, v1, rfl, h2⟩
  rintro vs K1 _ ⟨dv, nv, rfl, h1⟩
  obtain ⟨db, dc, rfl⟩ : ∃ b c, dv = .slice b R c := by have := (h1.row (List.mem_cons_self ..)).sl; rwa [List.length_replicate] at this
  obtain ⟨nb, nc, rfl⟩ : ∃ b c, nv = .slice b R c := by have := (h1.row (List.mem_cons_of_mem _ (List.mem_cons_self ..))).sl; rwa [List.length_replicate] at this
  simp only [List.cons_append, List.nil_append]
  -- how many each meets
  refine ⟨fun n vs K => ∃ (i : Nat) (l : List Int), vs = [nI i] ∧ i + n = R ∧ l.length = R ∧ Held S K [orow 3 l (.slice db R dc), orow 4 (List.replicate R false) (.slice nb R nc)] ∧ ∀ j, j < i → l[j]? = some (degN N [] (j : Int) : Int),
    ⟨R, 0, _, rfl, by omega, by simp, h1, fun j h => by omega⟩, ?_⟩
  rintro n vs K2 _ ⟨i, l, rfl, hin, hl, h2, hd⟩
  simp only [List.cons_append, List.nil_append]
  refine ⟨fun g => ?_, fun g => ?_⟩
  · simp only [ev0, ev, evV, List.cons_append, List.nil_append, List.getD_cons_zero, List.getD_cons_succ, List.map_cons, List.map_nil, iOf, bOf, sOf, pOf, slLen, slBase, cmpI, arI, Value.ite_bool, int_beq, int_bne, ite_band, ite_bor, decide_eq_true_eq] at g
    obtain ⟨hm, w, hw1, hw2, hw3⟩ := (hg.le h2.sh).look (i : Int)
    refine den_lookup (α := Int) (m := outM N) (v := .map (some gr)) (i : Int) (.map none) uGraphK kIntK (by kernel_rfl) (by kernel_rfl) (by kernel_rfl) hm (by rw [hw1]; exact hw2) pendNil ?_
    rw [hw1]
    obtain ⟨wm, rfl⟩ : ∃ wm, w = .map wm := by cases w <;> simp [Tag.ok] at hw2; exact ⟨_, rfl⟩
    have hdl := deg_le ok [] (i : Int)
    have hdn := deg_none N (i : Int)
    simp only [List.cons_append, List.nil_append]
    refine den_lenS (m := encS (adjN N (i : Int))) (v := .map wm) rfl uInnerK (by kernel_rfl) (PH.le_refl K2) hw3 (by simp [encS]; omega) ?_
    obtain ⟨c, hc⟩ : ∃ c, l[i]? = some c := ⟨_, List.getElem?_eq_getElem (by omega)⟩
    obtain ⟨t1, _⟩ := (h2.row (List.mem_cons_self ..)).get hc
    refine ⟨fun _ => ?_, ?_⟩
    · simp only [Chk.holds, ev0, ev, evV, List.cons_append, List.nil_append, List.getD_cons_zero, List.getD_cons_succ, List.map_cons, List.map_nil, iOf, bOf, sOf, pOf, slLen, slBase, cmpI, arI, Value.ite_bool, int_beq, int_bne, ite_band, ite_bor]; exact ⟨t1, by omega, by omega⟩
    have hlen : (encS (adjN N (i : Int))).length = degN N [] (i : Int) := by rw [hdn]; simp [encS]
    rw [hlen]
    refine den_hPutZ (i := i) (a := c) (a' := (degN N [] (i : Int) : Int)) (us := [.int .i64 (degN N [] (i : Int) : Int)]) ?_ h2 hc rfl ?_ (by simp [oneC]) (csIK_mk (by unfold InI; omega)) fun K3 h3 => ?_
    · simp only [ev0, ev, evV, List.cons_append, List.nil_append, List.getD_cons_zero, List.getD_cons_succ, List.map_cons, List.map_nil, iOf, bOf, sOf, pOf, slLen, slBase, cmpI, arI, Value.ite_bool, int_beq, int_bne, ite_band, ite_bor]; rfl
    · simp only [ev0, ev, evV, List.cons_append, List.nil_append, List.getD_cons_zero, List.getD_cons_succ, List.map_cons, List.map_nil, iOf, bOf, sOf, pOf, slLen, slBase, cmpI, arI, Value.ite_bool, int_beq, int_bne, ite_band, ite_bor]
    refine ⟨_, lookup_hit, n - 1, by omega, i + 1, l.set i _, ?_, by omega, by simpa using hl, h3, fun j hj => ?_⟩
    · simp only [ev0, ev, evV, List.cons_append, List.nil_append, List.getD_cons_zero, List.getD_cons_succ, List.map_cons, List.map_nil, iOf, bOf, sOf, pOf, slLen, slBase, cmpI, arI, Value.ite_bool, int_beq, int_bne, ite_band, ite_bor]; rw [w64 (by omega) (by omega)]; rfl
    · rw [List.getElem?_set]
      by_cases e : i = j
      · subst e; rw [if_pos rfl, if_pos (by omega)]
      · rw [if_neg e]; exact hd j (by omega)
  simp only [ev0, ev, evV, List.cons_append, List.nil_append, List.getD_cons_zero, List.getD_cons_succ, List.map_cons, List.map_nil, iOf, bOf, sOf, pOf, slLen, slBase, cmpI, arI, Value.ite_bool, int_beq, int_bne, ite_band, ite_bor, decide_eq_false_iff_not] at g
  have hiR : i = R := by omega
  subst hiR
  have h2e := (h2.empty (α := Int) 3)
  -- one behind the other
  refine ⟨fun n vs K => ∃ (st : List Int) (sv : Value) (l : List Int) (gn : List Bool) (S' : PH), vs = [sv] ∧ n = i - st.length ∧ PH.le S S' ∧ Held S' K [orow 3 st sv, orow 3 l (.slice db i dc), orow 4 gn (.slice nb i nc)] ∧ st.Nodup ∧ (∀ s : Int, s ∈ st → 0 ≤ s ∧ s < i) ∧ st.length ≤ i ∧ OrdOk N i k st ∧ l.length = i ∧ (∀ j, j < i → l[j]? = some (degN N st (j : Int) : Int)) ∧ gn.length = i ∧ ∀ j, j < i → gn[j]? = some (decide ((j : Int) ∈ st)),
    ⟨i, [], .slice none 0 0, l, List.replicate i false, S, rfl, rfl, PH.le_refl S, h2e, List.nodup_nil, fun s h => (by cases h), by simp, fun t s h => (by simp at h), hl, hd, by simp, fun j hj => by rw [List.getElem?_replicate, if_pos hj]; simp⟩, ?_⟩
  rintro n vs K3 _ ⟨st, sv, l3, gn, S3, rfl, rfl, le3, h3, hnd, hrg, hstl, hord, hl3, hd3, hgl, hgn⟩
  obtain ⟨sb, sc, rfl⟩ := (h3.row (List.mem_cons_self ..)).sl
  simp only [List.cons_append, List.nil_append]
  refine ⟨fun g => ?_, fun g => ?_⟩
  rotate_left
  · simp only [ev0, ev, evV, List.cons_append, List.nil_append, List.getD_cons_zero, List.getD_cons_succ, List.map_cons, List.map_nil, iOf, bOf, sOf, pOf, slLen, slBase, cmpI, arI, Value.ite_bool, int_beq, int_bne, ite_band, ite_bor, decide_eq_false_iff_not] at g
    have hsl : st.length = i := by omega
    refine den_call cb_slices_Reverse___int_int_ (ReverseI_tri st _ S3 K3 _ h3 (by omega)) ?_
    rintro x K4 ⟨rfl, h4⟩
    refine ⟨_, [], rfl, rfl, rfl, pendNil, ?_⟩
    obtain ⟨S5, s5, l5, h5⟩ := h4.freeze
    exact ⟨PH.le_trans le3 (PH.le_trans l5 h5.sh), st, _, rfl, s5.le h5.sh, hnd, hsl, hrg, hord⟩
  simp only [ev0, ev, evV, List.cons_append, List.nil_append, List.getD_cons_zero, List.getD_cons_succ, List.map_cons, List.map_nil, iOf, bOf, sOf, pOf, slLen, slBase, cmpI, arI, Value.ite_bool, int_beq, int_bne, ite_band, ite_bor, decide_eq_true_eq] at g
  have hsl : st.length < i := by omega
  obtain ⟨j0, hj0, hj0n⟩ := left_over hnd hrg hsl
  have hdeg : ∀ j, degN N st j ≤ i := fun j => deg_le ok st j
  have rdD : ∀ j, j < i → (slBase (.slice db i dc)).isSome = true ∧ rowAt K3 (pOf (eltV (.slice db i dc) (j : Int) 1)) [.int .i64 (degN N st (j : Int) : Int)] := fun j hj => by
    obtain ⟨t1, _, tcs, t2, t3⟩ := (h3.row (List.mem_cons_of_mem _ (List.mem_cons_self ..))).get (hd3 j hj)
    obtain ⟨rfl, _⟩ := csIK t2
    exact ⟨t1, t3⟩
  have rdG : ∀ j, j < i → (slBase (.slice nb i nc)).isSome = true ∧ rowAt K3 (pOf (eltV (.slice nb i nc) (j : Int) 1)) [.bool (decide ((j : Int) ∈ st))] := fun j hj => by
    obtain ⟨t1, _, tcs, t2, t3⟩ := (h3.row (List.mem_cons_of_mem _ (List.mem_cons_of_mem _ (List.mem_cons_self ..)))).get (hgn j hj)
    rw [csBK t2] at t3
    exact ⟨t1, t3⟩
  refine ⟨fun vs K => K = K3 ∧ ∃ best : Nat, vs = [nI best] ∧ best < i ∧ (best : Int) ∉ st ∧ ((degN N st (best : Int) : Int) < k ∨ ∀ u : Nat, u < i → (u : Int) ∉ st → k ≤ degN N st u), ?_, ?_⟩
  rotate_left
  · -- the search
    refine ⟨fun n vs K => K = K3 ∧ ∃ (best : Int) (r : Nat), vs = [.int .i64 best, nI r] ∧ r + n = i ∧ ((best = -1 ∧ ∀ j : Nat, j < r → (j : Int) ∈ st) ∨ (0 ≤ best ∧ best < r ∧ best ∉ st)) ∧ ∀ u : Nat, u < r → (u : Int) ∉ st → k ≤ degN N st u,
      ⟨i, rfl, -1, 0, rfl, by omega, .inl ⟨rfl, fun j h => by omega⟩, fun u h => by omega⟩, ?_⟩
    rintro n vs K _ ⟨rfl, best, r, rfl, hrn, hbest, hall⟩
    simp only [List.cons_append, List.nil_append]
    refine ⟨fun g2 => ?_, fun g2 => ?_⟩
    rotate_left
    · simp only [ev0, ev, evV, List.cons_append, List.nil_append, List.getD_cons_zero, List.getD_cons_succ, List.map_cons, List.map_nil, iOf, bOf, sOf, pOf, slLen, slBase, cmpI, arI, Value.ite_bool, int_beq, int_bne, ite_band, ite_bor, decide_eq_false_iff_not] at g2
      have hri : r = i := by omega
      subst hri
      rcases hbest with ⟨_, hb⟩ | ⟨hb1, hb2, hb3⟩
      · exact absurd (hb j0 hj0) hj0n
      · obtain ⟨bn, rfl⟩ : ∃ bn : Nat, best = (bn : Int) := ⟨best.toNat, by omega⟩
        exact ⟨_, lookup_skip rfl lookup_hit, rfl, bn, rfl, by omega, hb3, .inr hall⟩
    simp only [ev0, ev, evV, List.cons_append, List.nil_append, List.getD_cons_zero, List.getD_cons_succ, List.map_cons, List.map_nil, iOf, bOf, sOf, pOf, slLen, slBase, cmpI, arI, Value.ite_bool, int_beq, int_bne, ite_band, ite_bor, decide_eq_true_eq] at g2
    have hri : r < i := by omega
    obtain ⟨g3, g4⟩ := rdG r hri
    obtain ⟨d3, d4⟩ := rdD r hri
    have hdr := hdeg (r : Int)
    refine ⟨fun vs K' => K' = K ∧ ∃ best' : Int, vs = [.int .i64 best'] ∧ ((best' = -1 ∧ ∀ j : Nat, j < r + 1 → (j : Int) ∈ st) ∨ (0 ≤ best' ∧ best' < (r + 1 : Nat) ∧ best' ∉ st)) ∧ ∀ u : Nat, u < r + 1 → (u : Int) ∉ st → k ≤ degN N st u, ?_, fun _ => ?_, [.bool (decide ((r : Int) ∈ st))], rfl, ?_, fun g5 => ?_, fun g5 => ?_⟩
    · rintro vs K' _ ⟨rfl, best', rfl, hb', hall'⟩
      refine ⟨_, lookup_hit, n - 1, by omega, rfl, best', r + 1, ?_, by omega, hb', hall'⟩
      simp only [ev0, ev, evV, List.cons_append, List.nil_append, List.getD_cons_zero, List.getD_cons_succ, List.map_cons, List.map_nil, iOf, bOf, sOf, pOf, slLen, slBase, cmpI, arI, Value.ite_bool, int_beq, int_bne, ite_band, ite_bor]; rw [w64 (by omega) (by omega)]; rfl
    · simp only [Chk.holds, ev0, ev, evV, List.cons_append, List.nil_append, List.getD_cons_zero, List.getD_cons_succ, List.map_cons, List.map_nil, iOf, bOf, sOf, pOf, slLen, slBase, cmpI, arI, Value.ite_bool, int_beq, int_bne, ite_band, ite_bor]; exact ⟨g3, by omega, by omega⟩
    · simp only [ev0, ev, evV, List.cons_append, List.nil_append, List.getD_cons_zero, List.getD_cons_succ, List.map_cons, List.map_nil, iOf, bOf, sOf, pOf, slLen, slBase, cmpI, arI, Value.ite_bool, int_beq, int_bne, ite_band, ite_bor]; exact g4
    · simp only [ev0, ev, evV, List.cons_append, List.nil_append, List.getD_cons_zero, List.getD_cons_succ, List.map_cons, List.map_nil, iOf, bOf, sOf, pOf, slLen, slBase, cmpI, arI, Value.ite_bool, int_beq, int_bne, ite_band, ite_bor, decide_eq_true_eq] at g5
      refine ⟨_, lookup_hit, rfl, best, rfl, ?_, fun u hu hn => ?_⟩
      · rcases hbest with ⟨h1, h2⟩ | ⟨h1, h2, h3⟩
        · refine .inl ⟨h1, fun j hj => ?_⟩
          by_cases e : j = r
          · subst e; exact g5
          · exact h2 j (by omega)
        · exact .inr ⟨h1, by omega, h3⟩
      · by_cases e : u = r
        · subst e; exact absurd g5 hn
        · exact hall u (by omega) hn
    simp only [ev0, ev, evV, List.cons_append, List.nil_append, List.getD_cons_zero, List.getD_cons_succ, List.map_cons, List.map_nil, iOf, bOf, sOf, pOf, slLen, slBase, cmpI, arI, Value.ite_bool, int_beq, int_bne, ite_band, ite_bor, decide_eq_false_iff_not] at g5
    simp only [List.cons_append, List.nil_append]
    refine ⟨fun _ => ?_, [.int .i64 (degN N st (r : Int) : Int)], rfl, ?_, fun g6 => ?_, fun g6 => ?_⟩
    · simp only [Chk.holds, ev0, ev, evV, List.cons_append, List.nil_append, List.getD_cons_zero, List.getD_cons_succ, List.map_cons, List.map_nil, iOf, bOf, sOf, pOf, slLen, slBase, cmpI, arI, Value.ite_bool, int_beq, int_bne, ite_band, ite_bor]; exact ⟨d3, by omega, by omega⟩
    · simp only [ev0, ev, evV, List.cons_append, List.nil_append, List.getD_cons_zero, List.getD_cons_succ, List.map_cons, List.map_nil, iOf, bOf, sOf, pOf, slLen, slBase, cmpI, arI, Value.ite_bool, int_beq, int_bne, ite_band, ite_bor]; exact d4
    · simp only [ev0, ev, evV, List.cons_append, List.nil_append, List.getD_cons_zero, List.getD_cons_succ, List.map_cons, List.map_nil, iOf, bOf, sOf, pOf, slLen, slBase, cmpI, arI, Value.ite_bool, int_beq, int_bne, ite_band, ite_bor, decide_eq_true_eq] at g6
      exact ⟨_, lookup_skip rfl (lookup_skip rfl lookup_hit), rfl, r, rfl, hri, g5, .inl g6⟩
    simp only [ev0, ev, evV, List.cons_append, List.nil_append, List.getD_cons_zero, List.getD_cons_succ, List.map_cons, List.map_nil, iOf, bOf, sOf, pOf, slLen, slBase, cmpI, arI, Value.ite_bool, int_beq, int_bne, ite_band, ite_bor, decide_eq_false_iff_not] at g6
    simp only [List.cons_append, List.nil_append]
    have hall' : ∀ u : Nat, u < r + 1 → (u : Int) ∉ st → k ≤ degN N st u := fun u hu hn => by
      by_cases e : u = r
      · subst e; omega
      · exact hall u (by omega) hn
    refine ⟨fun vs K' => K' = K ∧ ∃ t : Bool, vs = [.bool t] ∧ (best < 0 → t = true), ?_, fun g7 => ?_, fun g7 => ?_, fun g7 => ?_⟩
    · rintro vs K' _ ⟨rfl, t, rfl, ht⟩
      refine ⟨_, lookup_hit, rfl, if t then (r : Int) else best, ?_, ?_, hall'⟩
      · simp only [ev0, ev, evV, List.cons_append, List.nil_append, List.getD_cons_zero, List.getD_cons_succ, List.map_cons, List.map_nil, iOf, bOf, sOf, pOf, slLen, slBase, cmpI, arI, Value.ite_bool, int_beq, int_bne, ite_band, ite_bor]; cases t <;> rfl
      · cases t with
        | true => exact .inr ⟨by simp, by simp; omega, g5⟩
        | false =>
          simp only [Bool.false_eq_true, if_false]
          rcases hbest with ⟨h1, h2⟩ | ⟨h1, h2, h3⟩
          · have := ht (by omega); cases this
          · exact .inr ⟨h1, by omega, h3⟩
    · rcases hbest with ⟨h1, h2⟩ | ⟨h1, h2, h3⟩
      · have := g7 ((.cmp .lss (.atom 7) (.int .i64 0)), false) (List.mem_cons_self ..)
        subst h1
        simp [ev] at this
        simp [ev0, ev, evV, List.cons_append, List.nil_append, List.getD_cons_zero, List.getD_cons_succ, List.map_cons, List.map_nil, iOf, bOf, sOf, pOf, slLen, slBase, cmpI, arI, Value.ite_bool, int_beq, int_bne, ite_band, ite_bor] at this
      · simp only [Chk.holds, ev0, ev, evV, List.cons_append, List.nil_append, List.getD_cons_zero, List.getD_cons_succ, List.map_cons, List.map_nil, iOf, bOf, sOf, pOf, slLen, slBase, cmpI, arI, Value.ite_bool, int_beq, int_bne, ite_band, ite_bor]; exact ⟨d3, by omega, by omega⟩
    · exact ⟨_, lookup_hit, rfl, true, rfl, fun _ => rfl⟩
    · simp only [ev0, ev, evV, List.cons_append, List.nil_append, List.getD_cons_zero, List.getD_cons_succ, List.map_cons, List.map_nil, iOf, bOf, sOf, pOf, slLen, slBase, cmpI, arI, Value.ite_bool, int_beq, int_bne, ite_band, ite_bor, decide_eq_false_iff_not] at g7
      rcases hbest with ⟨h1, h2⟩ | ⟨h1, h2, h3⟩
      · omega
      obtain ⟨bn, rfl⟩ : ∃ bn : Nat, best = (bn : Int) := ⟨best.toNat, by omega⟩
      obtain ⟨e3, e4⟩ := rdD bn (by omega)
      refine ⟨[.int .i64 (degN N st (r : Int) : Int)], rfl, ?_, [.int .i64 (degN N st (bn : Int) : Int)], rfl, ?_, _, lookup_hit, rfl, _, rfl, fun h => by omega⟩
      · simp only [ev0, ev, evV, List.cons_append, List.nil_append, List.getD_cons_zero, List.getD_cons_succ, List.map_cons, List.map_nil, iOf, bOf, sOf, pOf, slLen, slBase, cmpI, arI, Value.ite_bool, int_beq, int_bne, ite_band, ite_bor]; exact d4
      · simp only [ev0, ev, evV, List.cons_append, List.nil_append, List.getD_cons_zero, List.getD_cons_succ, List.map_cons, List.map_nil, iOf, bOf, sOf, pOf, slLen, slBase, cmpI, arI, Value.ite_bool, int_beq, int_bne, ite_band, ite_bor]; exact e4
  rintro vs K _ ⟨rfl, best, rfl, hbi, hbn, hbd⟩
  simp only [List.cons_append, List.nil_append]
  obtain ⟨g3, g4⟩ := rdG best hbi
  refine ⟨fun _ => ?_, ?_⟩
  · simp only [Chk.holds, ev0, ev, evV, List.cons_append, List.nil_append, List.getD_cons_zero, List.getD_cons_succ, List.map_cons, List.map_nil, iOf, bOf, sOf, pOf, slLen, slBase, cmpI, arI, Value.ite_bool, int_beq, int_bne, ite_band, ite_bor]; exact ⟨g3, by omega, by omega⟩
  have hp1 : [orow 3 st (.slice sb st.length sc), orow 3 l3 (.slice db i dc), orow 4 gn (.slice nb i nc)].Perm [orow 4 gn (.slice nb i nc), orow 3 st (.slice sb st.length sc), orow 3 l3 (.slice db i dc)] :=
    List.perm_append_comm (l₁ := [orow 3 st (.slice sb st.length sc), orow 3 l3 (.slice db i dc)]) (l₂ := [orow 4 gn (.slice nb i nc)])
  refine den_hPutZ (i := best) (a' := true) (us := [.bool true]) ?_ (h3.perm hp1) (hgn best hbi) rfl ?_ (by simp [oneC]) csBK_mk fun K4 h4 => ?_
  · simp only [ev0, ev, evV, List.cons_append, List.nil_append, List.getD_cons_zero, List.getD_cons_succ, List.map_cons, List.map_nil, iOf, bOf, sOf, pOf, slLen, slBase, cmpI, arI, Value.ite_bool, int_beq, int_bne, ite_band, ite_bor]; rfl
  · simp only [ev0, ev, evV, List.cons_append, List.nil_append, List.getD_cons_zero, List.getD_cons_succ, List.map_cons, List.map_nil, iOf, bOf, sOf, pOf, slLen, slBase, cmpI, arI, Value.ite_bool, int_beq, int_bne, ite_band, ite_bor]
  refine den_hPush (more := [(best : Int)]) (b := 8) [.int .i64 (best : Int)] uIntsK elemIntK rfl (by decide) (by decide) (h4.perm (List.Perm.swap _ _ _)) (by kernel_rfl) (.cons (csIK_mk (by unfold InI; omega)) .nil) pendNil (fun _ => by kernel_rfl) (fun _ => by kernel_rfl)
    (by simp only [maxLen, List.length_cons, List.length_nil]; omega) (by simp only [List.length_cons, List.length_nil]; omega) fun u v5 S5 K5 l5 h5 => ⟨pendNil, ?_⟩
  obtain ⟨sb5, sc5, rfl⟩ := (h5.row (List.mem_cons_self ..)).sl
  simp only [List.cons_append, List.nil_append]
  have le5 := PH.le_trans le3 l5
  obtain ⟨hm, w, hw1, hw2, hw3⟩ := (hg.le le5).look (best : Int)
  refine den_lookup (α := Int) (m := outM N) (v := .map (some gr)) (best : Int) (.map none) uGraphK kIntK (by kernel_rfl) (by kernel_rfl) (by kernel_rfl) (MapR.le hm h5.sh) (by rw [hw1]; exact hw2) pendNil ?_
  rw [hw1]
  obtain ⟨wm, rfl⟩ : ∃ wm, w = .map wm := by cases w <;> simp [Tag.ok] at hw2; exact ⟨_, rfl⟩
  simp only [List.cons_append, List.nil_append]
  have hst5 : (st ++ [(best : Int)]).length = st.length + 1 := by simp
  refine den_rangeS (m := encS (adjN N (best : Int))) (v := .map wm) rfl rfl uInnerK (by kernel_rfl) h5.sh hw3 (fun y hy => by obtain ⟨z, _, rfl⟩ := List.mem_map.1 hy; rfl) rfl
    (fun done vs K i' o => ∃ l : List Int, vs = [] ∧ l.length = i ∧ Held S5 K [.blk i' o, orow 3 l (.slice db i dc), orow 3 (st ++ [(best : Int)]) (.slice sb5 (st ++ [(best : Int)]).length sc5), orow 4 (gn.set best true) (.slice nb i nc)] ∧ ∀ j, j < i → l[j]? = some ((degN N st (j : Int) : Int) - (if (j : Int) ∈ done then 1 else 0)))
    (fun i' o hi' => ⟨l3, rfl, hl3, ?_, fun j hj => by rw [hd3 j hj]; simp⟩) ?_ ?_ ?_ ?_
  · refine (h5.new hi' o).perm (List.Perm.cons _ ?_)
    exact (List.perm_append_comm (l₁ := [orow 3 (st ++ [(best : Int)]) (.slice sb5 (st ++ [(best : Int)]).length sc5), orow 4 (gn.set best true) (.slice nb i nc)]) (l₂ := [orow 3 l3 (.slice db i dc)]))
  · rintro done vs K i' o ⟨l, rfl, hl, h, _⟩
    exact ⟨h.blk (List.mem_cons_self ..), h.sh⟩
  · rintro done vs K i' o o' ⟨l, rfl, hl, h, hd⟩
    exact ⟨l, rfl, hl, h.put o', hd⟩
  · rintro done y wv vs K6 i' o J hy hyd _ ⟨l, rfl, hl6, h6, hd6⟩ hJ
    obtain ⟨y', hy', hyy⟩ := List.mem_map.1 hy
    simp only [Prod.mk.injEq] at hyy
    obtain ⟨rfl, rfl⟩ := hyy
    obtain ⟨hr1, hr2, _, _, hr3, hr4⟩ := ok.rel _ _ hy'
    obtain ⟨yn, rfl⟩ : ∃ yn : Nat, y' = (yn : Int) := ⟨y'.toNat, by omega⟩
    have hyi : yn < i := by omega
    have hgy := hd6 yn hyi
    rw [if_neg hyd, Int.sub_zero] at hgy
    obtain ⟨t1, _, tcs, t2, t3⟩ := (h6.row (List.mem_cons_of_mem _ (List.mem_cons_self ..))).get hgy
    obtain ⟨rfl, _⟩ := csIK t2
    simp only [List.cons_append, List.nil_append]
    have hpos := deg_pos (N := N) (g := st) hbn hr1
    have hdy := hdeg (yn : Int)
    refine ⟨fun _ => ?_, [.int .i64 (degN N st (yn : Int) : Int)], rfl, ?_, ?_⟩
    · simp only [Chk.holds, ev0, ev, evV, List.cons_append, List.nil_append, List.getD_cons_zero, List.getD_cons_succ, List.map_cons, List.map_nil, iOf, bOf, sOf, pOf, slLen, slBase, cmpI, arI, Value.ite_bool, int_beq, int_bne, ite_band, ite_bor]; exact ⟨t1, by omega, by omega⟩
    · simp only [ev0, ev, evV, List.cons_append, List.nil_append, List.getD_cons_zero, List.getD_cons_succ, List.map_cons, List.map_nil, iOf, bOf, sOf, pOf, slLen, slBase, cmpI, arI, Value.ite_bool, int_beq, int_bne, ite_band, ite_bor]; exact t3
    refine den_hPutZ (i := yn) (a' := (degN N st (yn : Int) : Int) - 1) (us := [.int .i64 ((degN N st (yn : Int) : Int) - 1)]) ?_ (h6.perm (List.Perm.swap _ _ _)) hgy rfl ?_ (by simp [oneC]) (csIK_mk (by unfold InI; omega)) fun K7 h7 => ?_
    · simp only [ev0, ev, evV, List.cons_append, List.nil_append, List.getD_cons_zero, List.getD_cons_succ, List.map_cons, List.map_nil, iOf, bOf, sOf, pOf, slLen, slBase, cmpI, arI, Value.ite_bool, int_beq, int_bne, ite_band, ite_bor]; rfl
    · simp only [ev0, ev, evV, List.cons_append, List.nil_append, List.getD_cons_zero, List.getD_cons_succ, List.map_cons, List.map_nil, iOf, bOf, sOf, pOf, slLen, slBase, cmpI, arI, Value.ite_bool, int_beq, int_bne, ite_band, ite_bor]; rw [w64 (by omega) (by omega)]
    refine ⟨_, lookup_hit, hJ _ _ ⟨l.set yn _, rfl, by simpa using hl6, h7.perm (List.Perm.swap _ _ _), fun j hj => ?_⟩⟩
    rw [List.getElem?_set]
    by_cases e : yn = j
    · subst e; rw [if_pos rfl, if_pos (by omega), if_pos (List.mem_cons_self ..)]
    · rw [if_neg e, hd6 j hj]
      have h1 : ((j : Int) ∈ (yn : Int) :: done) ↔ (j : Int) ∈ done := by rw [List.mem_cons]; exact ⟨fun h => h.elim (fun h => absurd (Int.ofNat_inj.1 h).symm e) id, .inr⟩
      simp only [h1]
  · rintro done vs K6 i' o J hdone _ _ ⟨l, rfl, hl6, h6, hd6⟩
    have hdone' : ∀ y, y ∈ done ↔ y ∈ adjN N (best : Int) := fun y => by
      rw [← hdone, List.map_map]
      simp only [Function.comp_def, List.map_id']
    refine ⟨_, lookup_skip rfl lookup_hit, i - (st.length + 1), by omega, st ++ [(best : Int)], _, l, gn.set best true, S5, rfl, by rw [hst5], le5, h6.tail.perm (List.Perm.swap _ _ _), ?_, ?_, by omega, ?_, hl6, fun j hj => ?_, by simpa using hgl, fun j hj => ?_⟩
    · rw [List.nodup_append]
      exact ⟨hnd, by simp, fun a ha b hb => by simp at hb; subst hb; exact fun e => hbn (e ▸ ha)⟩
    · intro s hs
      rcases List.mem_append.1 hs with hs | hs
      · exact hrg s hs
      · rw [List.mem_singleton.1 hs]; omega
    · intro t s hts
      by_cases ht : t < st.length
      · rw [List.getElem?_append_left ht] at hts
        rw [List.take_append_of_le_length (by omega)]
        exact hord t s hts
      · have : t = st.length := by
          have := (List.getElem?_eq_some_iff.1 hts).1
          omega
        subst this
        rw [List.getElem?_append_right (Nat.le_refl _), Nat.sub_self] at hts
        simp at hts; subst hts
        rw [List.take_left']
        · exact hbd
        · rfl
    · rw [hd6 j hj, deg_step ok hbn]
      have hiff : (j : Int) ∈ done ↔ (best : Int) ∈ adjN N (j : Int) := by
        rw [hdone']
        exact ⟨fun h => (ok.rel _ _ h).1, fun h => (ok.rel _ _ h).1⟩
      by_cases h : (j : Int) ∈ done
      · have hpos := deg_pos (N := N) (g := st) hbn (hiff.1 h)
        rw [if_pos h, if_pos (hiff.1 h)]
        congr 1; omega
      · rw [if_neg h, if_neg (fun hh => h (hiff.2 hh))]; simp
    · rw [List.getElem?_set]
      by_cases e : best = j
      · subst e; rw [if_pos rfl, if_pos (by omega)]; simp
      · rw [if_neg e, hgn j hj]
        congr 2
        simp only [List.mem_append, List.mem_singleton, eq_iff_iff]
        exact ⟨.inl, fun h => h.elim id fun h => absurd (Int.ofNat_inj.1 h).symm e⟩
end Go.Proofs.Ytlbbmcpppfiplaa.Vc
/-
  COLOUR: the places.
-/
namespace Go.Proofs.Ytlbbmcpppfiplaa.Vc
open Go

theorem getM_encS : ∀ (s : List Int) (k : Int), getM (encS s) k = if k ∈ s then some (Value.int .i64 1) else none
  | [], k => by simp [encS, getM]
  | a :: s, k => by
    have ih := getM_encS s k
    rw [encS, List.map_cons, getM_cons]
    by_cases e : a = k
    · subst e; simp
    · rw [if_neg e]
      have : (k ∈ a :: s) ↔ k ∈ s := by rw [List.mem_cons]; exact ⟨fun h => h.elim (fun h => absurd h.symm e) id, .inr⟩
      simp only [this]
      exact ih
def plAt (pl : List Int) (q : Int) : Int := pl.getD q.toNat 0
theorem plAt_get {pl : List Int} {q : Nat} {a : Int} (h : pl[q]? = some a) : plAt pl (q : Int) = a := by
  unfold plAt; rw [Int.toNat_natCast, List.getD_eq_getElem?_getD, h]; rfl
theorem plAt_some {pl : List Int} {q : Nat} (h : q < pl.length) : pl[q]? = some (plAt pl (q : Int)) := by
  unfold plAt; rw [Int.toNat_natCast, List.getD_eq_getElem?_getD, List.getElem?_eq_getElem h]; rfl
structure ColOk (N : List (Int × GN)) (R : Nat) (k : Int) (st : List Int) (i : Nat) (pl : List Int) (most : Int) : Prop where
  len : pl.length = R
  bef : ∀ r : Nat, r < R → (r : Int) ∉ st.reverse.take i → pl[r]? = some (-1)
  aft : ∀ (r : Nat) a, pl[r]? = some a → (r : Int) ∈ st.reverse.take i → 0 ≤ a ∧ a < most
  apart : ∀ (r q : Nat) a, pl[r]? = some a → pl[q]? = some a → 0 ≤ a → (q : Int) ∉ adjN N (r : Int)
  lo : k ≤ most
  hi : most ≤ k + R + 1
  used : ∀ s, k ≤ s → s < most → s ∈ pl
  tight : k < most → ∃ (t : Nat) (s : Nat), st[t]? = some (s : Int) ∧ s < R ∧ ∀ u : Nat, u < R → (u : Int) ∉ st.take t → k ≤ degN N (st.take t) u
  few : ∀ (r : Nat) a, pl[r]? = some a → a ≤ ((adjN N (r : Int)).length : Int)
theorem ints_nodup (j : Nat) : ((List.range j).map Int.ofNat).Nodup := by
  rw [List.Nodup, List.pairwise_map]
  exact (List.nodup_range (n := j)).imp fun h e => h (Int.ofNat.inj e)
theorem all_in {R : Nat} {st : List Int} (hn : st.Nodup) (hl : st.length = R) (hr : ∀ s : Int, s ∈ st → 0 ≤ s ∧ s < R) (j : Nat) (hj : j < R) : (j : Int) ∈ st := by
  refine Classical.byContradiction fun hno => ?_
  have h1 : ((j : Int) :: st).length ≤ ((List.range R).map Int.ofNat).length := length_le_of_sub (List.nodup_cons.2 ⟨hno, hn⟩) fun y hy => by
    rcases List.mem_cons.1 hy with rfl | hy
    · exact List.mem_map.2 ⟨j, List.mem_range.2 hj, rfl⟩
    · have := hr y hy
      exact List.mem_map.2 ⟨y.toNat, List.mem_range.2 (by omega), show ((y.toNat : Nat) : Int) = y by omega⟩
  rw [List.length_map, List.length_range, List.length_cons] at h1
  omega
theorem col_step {N : List (Int × GN)} {R : Nat} {k : Int} {st : List Int} {i : Nat} {pl : List Int} {most : Int} (ok : GraphOk R N) (hk : 1 ≤ k) (hn : st.Nodup) (hl : st.length = R) (hr : ∀ s : Int, s ∈ st → 0 ≤ s ∧ s < R) (hord : OrdOk N R k st) (h : ColOk N R k st i pl most) {r : Nat} (hri : st.reverse[i]? = some (r : Int)) (hrR : r < R) {j : Nat}
    (hj : ∀ x : Nat, x < j → ∃ q ∈ adjN N (r : Int), plAt pl q = (x : Int)) (hnj : ¬ ∃ q ∈ adjN N (r : Int), plAt pl q = (j : Int)) (hjR : j ≤ R) :
    ColOk N R k st (i + 1) (pl.set r (j : Int)) (if (j : Int) + 1 > most then (j : Int) + 1 else most) := by
  have hnr : st.reverse.Nodup := List.pairwise_reverse.2 (hn.imp fun h => Ne.symm h)
  have hiR : i < R := by have := (List.getElem?_eq_some_iff.1 hri).1; rwa [List.length_reverse, hl] at this
  have htk : ∀ y, y ∈ st.reverse.take (i + 1) ↔ y ∈ st.reverse.take i ∨ y = (r : Int) := fun y => by
    rw [List.take_add_one, hri]; simp
  have hnot : (r : Int) ∉ st.reverse.take i := fun hm => by
    obtain ⟨a, ha⟩ := List.getElem?_of_mem hm
    rw [List.getElem?_take] at ha
    split at ha
    · rename_i hai
      have := (List.getElem?_inj (List.getElem?_eq_some_iff.1 ha).1 hnr).1 (ha.trans hri.symm)
      omega
    · cases ha
  have hplr := h.bef r hrR hnot
  have hlen := h.len
  have hq : ∀ q ∈ adjN N (r : Int), ∃ qn : Nat, q = (qn : Int) ∧ qn < R ∧ qn ≠ r ∧ pl[qn]? = some (plAt pl q) := fun q hq => by
    obtain ⟨_, h1, _, _, h2, h3⟩ := ok.rel _ _ hq
    refine ⟨q.toNat, by omega, by omega, fun e => h1 (by omega), ?_⟩
    have := plAt_some (pl := pl) (q := q.toNat) (by omega)
    rwa [show ((q.toNat : Nat) : Int) = q by omega] at this
  have hset : ∀ q : Nat, q ≠ r → (pl.set r (j : Int))[q]? = pl[q]? := fun q hne => by rw [List.getElem?_set, if_neg (Ne.symm hne)]
  have hsetr : (pl.set r (j : Int))[r]? = some (j : Int) := by rw [List.getElem?_set, if_pos rfl, if_pos (by omega)]
  refine ⟨by simpa using h.len, fun x hx hxn => ?_, fun x a ha hx => ?_, fun x q a hx hqa ha hadj => ?_, ?_, ?_, fun s hs1 hs2 => ?_, fun hm => ?_, fun x a hx => ?_⟩
  · rw [htk] at hxn
    rw [hset x (fun e => hxn (.inr (by rw [e])))]
    exact h.bef x hx fun hh => hxn (.inl hh)
  · by_cases e : x = r
    · subst e
      rw [hsetr] at ha; cases ha
      split <;> omega
    · rw [hset x e] at ha
      have := h.aft x a ha (((htk x).1 hx).resolve_right fun hh => e (by omega))
      split <;> omega
  · by_cases e : x = r
    · subst e
      rw [hsetr] at hx; cases hx
      obtain ⟨qn, h1, _, h2, h3⟩ := hq _ hadj
      have : qn = q := by omega
      subst this
      rw [hset qn h2, h3] at hqa
      exact hnj ⟨_, hadj, Option.some.inj hqa⟩
    · rw [hset x e] at hx
      by_cases e2 : q = r
      · subst e2
        rw [hsetr] at hqa; cases hqa
        exact hnj ⟨_, (ok.rel _ _ hadj).1, plAt_get hx⟩
      · rw [hset q e2] at hqa
        exact h.apart x q a hx hqa ha hadj
  · have := h.lo; split <;> omega
  · have := h.hi; have := h.lo; split <;> omega
  · by_cases hsm : s < most
    · obtain ⟨a, ha⟩ := List.getElem?_of_mem (h.used s hs1 hsm)
      have hne : a ≠ r := fun e => by subst e; rw [hplr] at ha; cases ha; omega
      exact List.mem_of_getElem? (i := a) (by rw [hset a hne]; exact ha)
    · have hle : s ≤ (j : Int) := by split at hs2 <;> omega
      by_cases e : s = (j : Int)
      · subst e; exact List.mem_of_getElem? hsetr
      · obtain ⟨q, hqa, hqs⟩ := hj s.toNat (by omega)
        obtain ⟨qn, rfl, _, h2, h3⟩ := hq q hqa
        refine List.mem_of_getElem? (i := qn) ?_
        rw [hset qn h2, h3, hqs]
        congr 1; omega
  · by_cases hkm : k < most
    · exact h.tight hkm
    · have hjk : k ≤ (j : Int) := by have := h.lo; split at hm <;> omega
      have hst : st[R - 1 - i]? = some (r : Int) := by
        rw [List.getElem?_reverse (by omega)] at hri
        rw [hl] at hri; exact hri
      refine ⟨R - 1 - i, r, hst, hrR, ?_⟩
      have hdeg : j ≤ degN N (st.take (R - 1 - i)) (r : Int) := by
        have h1 : ((List.range j).map Int.ofNat).length ≤ (((adjN N (r : Int)).filter fun d => decide (d ∉ st.take (R - 1 - i))).map (plAt pl)).length := length_le_of_sub (ints_nodup j) fun y hy => by
          obtain ⟨x, hx, rfl⟩ := List.mem_map.1 hy
          obtain ⟨q, hqa, hqx⟩ := hj x (List.mem_range.1 hx)
          refine List.mem_map.2 ⟨q, List.mem_filter.2 ⟨hqa, decide_eq_true fun hin => ?_⟩, hqx⟩
          obtain ⟨qn, rfl, h1, h2, h3⟩ := hq q hqa
          have hmem : (qn : Int) ∈ st.reverse.take i := Classical.byContradiction fun hno => by
            have := h.bef qn h1 hno
            rw [h3, hqx] at this
            have := Option.some.inj this
            omega
          rw [List.take_reverse, List.mem_reverse, hl] at hmem
          obtain ⟨a, ha⟩ := List.getElem?_of_mem hmem
          obtain ⟨b, hb⟩ := List.getElem?_of_mem hin
          rw [List.getElem?_drop] at ha
          rw [List.getElem?_take] at hb
          split at hb
          · have := (List.getElem?_inj (List.getElem?_eq_some_iff.1 ha).1 hn).1 (ha.trans hb.symm)
            omega
          · cases hb
        rw [List.length_map, List.length_range, List.length_map] at h1
        exact h1
      rcases hord _ _ hst with h5 | h5
      · omega
      · exact h5
  · by_cases e : x = r
    · subst e
      rw [hsetr] at hx; cases hx
      have h1 : ((List.range j).map Int.ofNat).length ≤ ((adjN N (x : Int)).map (plAt pl)).length := length_le_of_sub (ints_nodup j) fun y hy => by
        obtain ⟨z, hz, rfl⟩ := List.mem_map.1 hy
        obtain ⟨q, hqa, hqx⟩ := hj z (List.mem_range.1 hz)
        exact List.mem_map.2 ⟨q, hqa, hqx⟩
      rw [List.length_map, List.length_range, List.length_map] at h1
      omega
    · rw [hset x e] at hx
      exact h.few x a hx
theorem cntB_range (f : Nat → Bool) : ∀ n, cntB f n = ((List.range n).filter f).length
  | 0 => rfl
  | n + 1 => by
    rw [List.range_succ, List.filter_append, List.length_append, ← cntB_range f n]
    simp only [cntB, List.filter_cons, List.filter_nil]
    split <;> simp
theorem tightU_of {p : PrcX} {N : List (Int × GN)} {R : Nat} {k : Int} {g : List Int} (ok : GraphOk R N) (hrel : ∀ a b, b ∈ adjN N a ↔ a ≠ b ∧ MeetP p a b) (h : ∀ u : Nat, u < R → (u : Int) ∉ g → k ≤ degN N g u) : TightU R (fun a b => MeetP p (a : Int) (b : Int)) k fun i => decide ((i : Int) ∉ g) := by
  intro i hi hu
  refine ⟨fun j => decide ((j : Int) ∈ adjN N (i : Int)) && decide ((j : Int) ∉ g), fun j hj hf => ?_, ?_⟩
  · rw [Bool.and_eq_true, decide_eq_true_eq, decide_eq_true_eq] at hf
    have := (hrel _ _).1 hf.1
    exact ⟨decide_eq_true hf.2, fun e => this.1 (by rw [e]), this.2⟩
  · have h1 := h i hi (of_decide_eq_true hu)
    rw [cntB_range]
    have h2 : ((adjN N (i : Int)).filter fun d => decide (d ∉ g)).length ≤ (((List.range R).filter fun j : Nat => decide ((j : Int) ∈ adjN N (i : Int)) && decide ((j : Int) ∉ g)).map Int.ofNat).length := length_le_of_sub ((ok.nd _).filter _) fun d hd => by
      obtain ⟨h3, h4⟩ := List.mem_filter.1 hd
      obtain ⟨_, _, _, _, h5, h6⟩ := ok.rel _ _ h3
      refine List.mem_map.2 ⟨d.toNat, List.mem_filter.2 ⟨List.mem_range.2 (by omega), ?_⟩, show ((d.toNat : Nat) : Int) = d by omega⟩
      rw [show ((d.toNat : Nat) : Int) = d by omega, decide_eq_true h3]
      exact h4
    rw [List.length_map] at h2
    unfold degN at h1
    omega
/-- the places are as the document says -/
structure Placed (p : PrcX) (k n : Int) (l : List Int) : Prop where
  len : l.length = p.regs.toNat
  lo : 0 ≤ n
  hi : n ≤ 2001
  all : ∀ (r : Nat) a, l[r]? = some a → 0 ≤ a ∧ a - k < n
  apart : ∀ (r q : Nat) a, l[r]? = some a → l[q]? = some a → r ≠ q → ¬ MeetP p (r : Int) (q : Int)
  used : ∀ s, k ≤ s → s - k < n → s ∈ l
  few : ∀ (r : Nat) a, l[r]? = some a → ∃ m : List Int, m.Nodup ∧ (∀ y ∈ m, (r : Int) ≠ y ∧ MeetP p (r : Int) y) ∧ a ≤ (m.length : Int)
  tight : 0 < n → ∃ U, TightU p.regs.toNat (fun a b => MeetP p (a : Int) (b : Int)) k U ∧ ∃ i, i < p.regs.toNat ∧ U i = true
theorem placed_of {p : PrcX} {N : List (Int × GN)} {R : Nat} {k most : Int} {st pl : List Int} (hR : p.regs = (R : Int)) (hR2 : R ≤ 2000) (ok : GraphOk R N) (hrel : ∀ a b, b ∈ adjN N a ↔ a ≠ b ∧ MeetP p a b) (hn : st.Nodup) (hl : st.length = R) (hr : ∀ s : Int, s ∈ st → 0 ≤ s ∧ s < R) (h : ColOk N R k st R pl most) : Placed p k (most - k) pl := by
  have hRt : p.regs.toNat = R := by omega
  have hall : ∀ r : Nat, r < R → (r : Int) ∈ st.reverse.take R := fun r hr' => by
    rw [List.take_of_length_le (by rw [List.length_reverse]; omega), List.mem_reverse]
    exact all_in hn hl hr r hr'
  have hlo := h.lo
  have hhi := h.hi
  have hlt : ∀ {r : Nat} {a : Int}, pl[r]? = some a → r < R := fun h1 => by have := (List.getElem?_eq_some_iff.1 h1).1; rwa [h.len] at this
  refine ⟨by rw [hRt]; exact h.len, by omega, by omega, fun r a ha => ?_, fun r q a h1 h2 h3 h4 => ?_, fun s hs1 hs2 => h.used s hs1 (by omega), fun r a ha => ⟨adjN N (r : Int), ok.nd _, fun y hy => (hrel _ _).1 hy, h.few r a ha⟩, fun hm => ?_⟩
  · have := h.aft r a ha (hall r (hlt ha)); omega
  · have := h.aft r a h1 (hall r (hlt h1))
    exact h.apart r q a h1 h2 this.1 ((hrel _ _).2 ⟨fun e => h3 (by omega), h4⟩)
  · obtain ⟨t, s, hs, hsR, hu⟩ := h.tight (by omega)
    rw [hRt]
    refine ⟨_, tightU_of ok hrel hu, s, hsR, decide_eq_true fun hin => ?_⟩
    obtain ⟨b, hb⟩ := List.getElem?_of_mem hin
    rw [List.getElem?_take] at hb
    split at hb
    · have := (List.getElem?_inj (List.getElem?_eq_some_iff.1 hb).1 hn).1 (hb.trans hs.symm)
      omega
    · cases hb
theorem meet_comm {p : PrcX} {a b : Int} : MeetP p a b → MeetP p b a := by
  rintro (⟨h1, h2⟩ | ⟨f, hf, h | h⟩)
  · exact .inl ⟨h2, h1⟩
  · exact .inr ⟨f, hf, .inr h⟩
  · exact .inr ⟨f, hf, .inl h⟩
theorem meet_in {p : PrcX} (h : mayP p = true) {a b : Int} (hm : MeetP p a b) : (0 ≤ a ∧ a < p.regs) ∧ 0 ≤ b ∧ b < p.regs := by
  rcases hm with ⟨h1, h2⟩ | ⟨f, hf, ⟨h1, h2⟩ | ⟨h1, h2⟩⟩
  · exact ⟨may_live h h1, may_live h h2⟩
  · exact ⟨h1 ▸ (may_fill h hf).1, (may_fill h hf).2 _ h2⟩
  · exact ⟨(may_fill h hf).2 _ h2, h1 ▸ (may_fill h hf).1⟩
theorem graphOk_of {p : PrcX} {S : PH} {v : Value} {N : List (Int × GN)} {R : Nat} (hR : p.regs = (R : Int)) (hmay : mayP p = true) (h : GraphR S v N) (hrel : ∀ a b, relN N a b ↔ a ≠ b ∧ MeetP p a b) : GraphOk R N ∧ ∀ a b, b ∈ adjN N a ↔ a ≠ b ∧ MeetP p a b := by
  have hadj : ∀ a b, b ∈ adjN N a ↔ a ≠ b ∧ MeetP p a b := fun a b => (adj_mem h.keys a b).trans (hrel a b)
  refine ⟨⟨h.keys, h.adj_nodup, fun c d hd => ?_⟩, hadj⟩
  obtain ⟨h1, h2⟩ := (hadj c d).1 hd
  have h3 := meet_in hmay h2
  exact ⟨(hadj d c).2 ⟨Ne.symm h1, meet_comm h2⟩, h1, by omega, by omega, by omega, by omega⟩
end Go.Proofs.Ytlbbmcpppfiplaa.Vc
/-
  COLOUR: the places, by the program: the walk.
-/
namespace Go.Proofs.Ytlbbmcpppfiplaa.Vc
open Go

set_option maxHeartbeats 4000000 in
theorem Color_tri (p : PrcX) (k : Int) (bv : Value) (S : PH) (hbv : SlR S p.blocks bv) (hw : p.wt ≤ 1048576) :
    Tri Try.prog n_color_Color #[.agg (prcVs p bv).toArray, .int .i64 k] S fun x S' => PH.le S S' ∧ (((k < 1 ∨ 24 < k) ∧ x = .returned (.tuple #[.slice none 0 0, .int .i64 0, .int .i64 1])) ∨ ((1 ≤ k ∧ k ≤ 24) ∧ mayP p = false ∧ x = .returned (.tuple #[.slice none 0 0, .int .i64 0, .int .i64 150])) ∨ ((1 ≤ k ∧ k ≤ 24) ∧ mayP p = true ∧ ∃ l v n, x = .returned (.tuple #[v, .int .i64 n, .int .i64 0]) ∧ SlR S' l v ∧ Placed p k n l)) := by
  obtain ⟨hp, hE⟩ := PrcX.fit_wt hw
  obtain ⟨b0, c0, rfl⟩ := hbv.sl
  refine tri_color_Color (prcVs p (.slice b0 p.blocks.length c0) ++ [.int .i64 k]) (by kernel_rfl) (by kernel_rfl) ?_
  simp only [prcVs, List.cons_append, List.nil_append]
  refine ⟨fun g => ?_, fun g => ?_⟩
  · simp only [ev0, ev, evV, List.cons_append, List.nil_append, List.getD_cons_zero, List.getD_cons_succ, List.map_cons, List.map_nil, iOf, bOf, sOf, pOf, slLen, slBase, cmpI, arI, Value.ite_bool, int_beq, int_bne, ite_band, ite_bor] at g
    simp only [Bool.or_eq_true, decide_eq_true_eq] at g
    exact ⟨PH.le_refl _, .inl ⟨by omega, rfl⟩⟩
  simp only [ev0, ev, evV, List.cons_append, List.nil_append, List.getD_cons_zero, List.getD_cons_succ, List.map_cons, List.map_nil, iOf, bOf, sOf, pOf, slLen, slBase, cmpI, arI, Value.ite_bool, int_beq, int_bne, ite_band, ite_bor, Bool.or_eq_false_iff, decide_eq_false_iff_not] at g
  have hk : 1 ≤ k ∧ k ≤ 24 := by omega
  refine den_gives [.bool (mayP p)] cb_color_may (May_gives p (.slice b0 p.blocks.length c0) S hbv hp hE) rfl pendNil fun K1 l1 => ⟨fun g => ?_, fun g => ?_⟩
  · simp only [ev0, ev, evV, List.cons_append, List.nil_append, List.getD_cons_zero, List.getD_cons_succ, List.map_cons, List.map_nil, iOf, bOf, sOf, pOf, slLen, slBase, cmpI, arI, Value.ite_bool, int_beq, int_bne, ite_band, ite_bor] at g
    have hm : mayP p = false := by simpa using g
    exact ⟨l1, .inr (.inl ⟨hk, hm, rfl⟩)⟩
  simp only [ev0, ev, evV, List.cons_append, List.nil_append, List.getD_cons_zero, List.getD_cons_succ, List.map_cons, List.map_nil, iOf, bOf, sOf, pOf, slLen, slBase, cmpI, arI, Value.ite_bool, int_beq, int_bne, ite_band, ite_bor] at g
  have hmay : mayP p = true := by simpa using g
  obtain ⟨hr0, hr1, _, _, hne⟩ := may_head hmay
  refine den_call cb_color_meets (Meets_tri p (.slice b0 p.blocks.length c0) K1 (hbv.le l1) hw hmay) ?_
  rintro x K2 ⟨S1, gr, es, cl, N, l2, rfl, h2, gok, rel⟩
  refine ⟨_, [.map (some gr)], rfl, rfl, rfl, pendNil, ?_⟩
  obtain ⟨S3, l3, l3', hg⟩ := freezeGraph h2 gok
  obtain ⟨R, hRi⟩ : ∃ R : Nat, p.regs = (R : Int) := ⟨p.regs.toNat, by omega⟩
  have hR2 : R ≤ 2000 := by omega
  obtain ⟨ok, hadj⟩ := graphOk_of hRi hmay hg rel
  rw [hRi]
  simp only [List.cons_append, List.nil_append]
  refine den_hLit (α := Int) (l := [(-1 : Int)]) (b := 8) [.int .i64 (-1)] uIntsK elemIntK rfl (by decide) (by decide) (Held.nil l3') (by kernel_rfl) (.cons (csIK_mk (by unfold InI; omega)) .nil) pendNil fun v4 K4 h4 _ _ => ?_
  obtain ⟨S4, s4, l4, h4⟩ := h4.freeze
  simp only [List.cons_append, List.nil_append]
  refine den_call cb_slices_Repeat___int_int_ (Repeat_tri R hR2 (-1) v4 K4 (s4.le h4.sh)) ?_
  rintro x K5 ⟨pv5, rfl, h5⟩
  obtain ⟨pb, pc, rfl⟩ : ∃ b c, pv5 = .slice b R c := by have := (h5.row (List.mem_cons_self ..)).sl; rwa [List.length_replicate] at this
  refine ⟨_, [.slice pb R pc], rfl, rfl, rfl, pendNil, ?_⟩
  have l04 : PH.le S K4 := PH.le_trans l1 (PH.le_trans l2 (PH.le_trans l3 (PH.le_trans l4 h4.sh)))
  have hg4 : GraphR K4 (.map (some gr)) N := hg.le (PH.le_trans l4 h4.sh)
  simp only [List.cons_append, List.nil_append]
  refine den_call cb_color_order (h5.pure (R := fun x S' => ∃ (st : List Int) (v : Value), x = .returned v ∧ SlR S' st.reverse v ∧ st.Nodup ∧ st.length = R ∧ (∀ s : Int, s ∈ st → 0 ≤ s ∧ s < R) ∧ OrdOk N R k st) (order_tri R hR2 k (.map (some gr)) N K4 hg4 ok)) ?_
  rintro x K6 ⟨S6, l6, h6, st, ov, rfl, hov, hnd, hstl, hrg, hord⟩
  obtain ⟨ob, oc, rfl⟩ : ∃ b c, ov = .slice b R c := by have := hov.sl; rwa [List.length_reverse, hstl] at this
  refine ⟨_, [.slice ob R oc], rfl, rfl, rfl, pendNil, ?_⟩
  simp only [List.cons_append, List.nil_append]
  have hg6 : GraphR S6 (.map (some gr)) N := hg4.le l6
  refine ⟨fun n vs K => ∃ (i : Nat) (pl : List Int) (most : Int) (S' : PH), vs = [.int .i64 most, nI i] ∧ i + n = R ∧ PH.le S6 S' ∧ Held S' K [orow 3 pl (.slice pb R pc)] ∧ ColOk N R k st i pl most,
    ⟨R, 0, List.replicate R (-1), k, S6, rfl, by omega, PH.le_refl _, h6, ⟨by simp, fun r hr _ => by rw [List.getElem?_replicate, if_pos hr], fun r a _ h => by simp at h, fun r q a h1 _ h3 => (by
      rw [List.getElem?_replicate] at h1; split at h1
      · cases h1; omega
      · cases h1), by omega, by omega, fun s h1 h2 => by omega, fun h => by omega, fun r a h1 => (by
      rw [List.getElem?_replicate] at h1; split at h1
      · cases h1; omega
      · cases h1)⟩⟩, ?_⟩
  rintro n vs K7 _ ⟨i, pl, most, S7, rfl, hin, l7, h7, hcol⟩
  simp only [List.cons_append, List.nil_append]
  have hm1 := hcol.lo
  have hm2 := hcol.hi
  refine ⟨fun g => ?_, fun g => ?_⟩
  rotate_left
  · simp only [ev0, ev, evV, List.cons_append, List.nil_append, List.getD_cons_zero, List.getD_cons_succ, List.map_cons, List.map_nil, iOf, bOf, sOf, pOf, slLen, slBase, cmpI, arI, Value.ite_bool, int_beq, int_bne, ite_band, ite_bor, decide_eq_false_iff_not] at g
    have : i = R := by omega
    subst this
    obtain ⟨S8, s8, l8, h8⟩ := h7.freeze
    refine ⟨PH.le_trans l04 (PH.le_trans l6 (PH.le_trans l7 (PH.le_trans l8 h8.sh))), .inr (.inr ⟨hk, hmay, pl, .slice pb i pc, most - k, ?_, s8.le h8.sh, placed_of hRi hR2 ok hadj hnd hstl hrg hcol⟩)⟩
    show Ending.returned (.tuple #[.slice pb i pc, .int .i64 (IntKind.i64.wrap (most - k)), .int .i64 0]) = _
    rw [w64 (by omega) (by omega)]
  simp only [ev0, ev, evV, List.cons_append, List.nil_append, List.getD_cons_zero, List.getD_cons_succ, List.map_cons, List.map_nil, iOf, bOf, sOf, pOf, slLen, slBase, cmpI, arI, Value.ite_bool, int_beq, int_bne, ite_band, ite_bor, decide_eq_true_eq] at g
  have hiR : i < R := by omega
  obtain ⟨r', hr'⟩ : ∃ r, st.reverse[i]? = some r := ⟨_, List.getElem?_eq_getElem (by rw [List.length_reverse]; omega)⟩
  have hrr := hrg r' (List.mem_reverse.1 (List.mem_of_getElem? hr'))
  obtain ⟨r, rfl⟩ : ∃ r : Nat, r' = (r : Int) := ⟨r'.toNat, by omega⟩
  have hrR : r < R := by omega
  obtain ⟨t1, _, tcs, t2, t3⟩ := (hov.le (PH.le_trans l7 h7.sh)).get hr'
  obtain ⟨rfl, _⟩ := csIK t2
  refine ⟨fun _ => ?_, [.int .i64 (r : Int)], rfl, ?_, ?_⟩
  · simp only [Chk.holds, ev0, ev, evV, List.cons_append, List.nil_append, List.getD_cons_zero, List.getD_cons_succ, List.map_cons, List.map_nil, iOf, bOf, sOf, pOf, slLen, slBase, cmpI, arI, Value.ite_bool, int_beq, int_bne, ite_band, ite_bor]; exact ⟨t1, by omega, by omega⟩
  · simp only [ev0, ev, evV, List.cons_append, List.nil_append, List.getD_cons_zero, List.getD_cons_succ, List.map_cons, List.map_nil, iOf, bOf, sOf, pOf, slLen, slBase, cmpI, arI, Value.ite_bool, int_beq, int_bne, ite_band, ite_bor]; exact t3
  refine den_makeMap fun tr htr => ?_
  have h8 := h7.new htr (.map #[] 0)
  simp only [List.cons_append, List.nil_append]
  obtain ⟨hm, w, hw1, hw2, hw3⟩ := (hg6.le l7).look (r : Int)
  refine den_lookup (α := Int) (m := outM N) (v := .map (some gr)) (r : Int) (.map none) uGraphK kIntK (by kernel_rfl) (by kernel_rfl) (by kernel_rfl) (MapR.le hm h8.sh) (by rw [hw1]; exact hw2) pendNil ?_
  rw [hw1]
  obtain ⟨wm, rfl⟩ : ∃ wm, w = .map wm := by cases w <;> simp [Tag.ok] at hw2; exact ⟨_, rfl⟩
  simp only [List.cons_append, List.nil_append]
  refine den_rangeS (m := encS (adjN N (r : Int))) (v := .map wm) rfl rfl uInnerK (by kernel_rfl) h8.sh hw3 (fun y hy => by obtain ⟨z, _, rfl⟩ := List.mem_map.1 hy; rfl) rfl
    (fun done vs K i' o => ∃ (es : Array MapEntry) (cl : Nat) (s : List Int), vs = [] ∧ SetAt es cl s ∧ (∀ y, y ∈ s ↔ ∃ q ∈ done, plAt pl q = y) ∧ Held S7 K [.blk i' o, .blk tr (.map es cl), orow 3 pl (.slice pb R pc)])
    (fun i' o hi' => ⟨#[], 0, [], rfl, setOk_nil, fun y => by simp, h8.new hi' o⟩) ?_ ?_ ?_ ?_
  · rintro done vs K i' o ⟨es, cl, s, rfl, hset, hs, h⟩
    exact ⟨h.blk (List.mem_cons_self ..), h.sh⟩
  · rintro done vs K i' o o' ⟨es, cl, s, rfl, hset, hs, h⟩
    exact ⟨es, cl, s, rfl, hset, hs, h.put o'⟩
  · rintro done y wv vs K9 i' o J hy hyd _ ⟨es9, cl9, s, rfl, hset, hs, h9⟩ hJ
    obtain ⟨y', hy', hyy⟩ := List.mem_map.1 hy
    simp only [Prod.mk.injEq] at hyy
    obtain ⟨rfl, rfl⟩ := hyy
    obtain ⟨_, _, _, _, hr3, hr4⟩ := ok.rel _ _ hy'
    obtain ⟨yn, rfl⟩ : ∃ yn : Nat, y' = (yn : Int) := ⟨y'.toNat, by omega⟩
    have hgy := plAt_some (pl := pl) (q := yn) (by rw [hcol.len]; omega)
    obtain ⟨u1, _, ucs, u2, u3⟩ := (h9.row (List.mem_cons_of_mem _ (List.mem_cons_of_mem _ (List.mem_cons_self ..)))).get hgy
    obtain ⟨rfl, _⟩ := csIK u2
    simp only [List.cons_append, List.nil_append]
    refine ⟨fun _ => ?_, [.int .i64 (plAt pl (yn : Int))], rfl, ?_, ?_⟩
    · simp only [Chk.holds, ev0, ev, evV, List.cons_append, List.nil_append, List.getD_cons_zero, List.getD_cons_succ, List.map_cons, List.map_nil, iOf, bOf, sOf, pOf, slLen, slBase, cmpI, arI, Value.ite_bool, int_beq, int_bne, ite_band, ite_bor]; exact ⟨u1, by omega, by omega⟩
    · simp only [ev0, ev, evV, List.cons_append, List.nil_append, List.getD_cons_zero, List.getD_cons_succ, List.map_cons, List.map_nil, iOf, bOf, sOf, pOf, slLen, slBase, cmpI, arI, Value.ite_bool, int_beq, int_bne, ite_band, ite_bor]; exact u3
    refine den_mapUpdate (α := Int) (m := encS s) (r := tr) (es := es9) (clock := cl9) (plAt pl (yn : Int)) (.int .i64 1) uInnerK kIntK (by kernel_rfl) (by kernel_rfl) (by kernel_rfl) (h9.blk (List.mem_cons_of_mem _ (List.mem_cons_self ..))) hset fun es3 cl3 he3 => ?_
    rw [encS_put] at he3
    have h10 := ((h9.perm (List.Perm.swap _ _ _)).put (.map es3 cl3)).perm (List.Perm.swap _ _ _)
    refine ⟨_, lookup_hit, hJ _ _ ⟨es3, cl3, _, rfl, he3, fun z => ?_, h10⟩⟩
    rw [addS_mem, hs]
    constructor
    · rintro (⟨q, hq, h⟩ | rfl)
      · exact ⟨q, List.mem_cons_of_mem _ hq, h⟩
      · exact ⟨_, List.mem_cons_self .., rfl⟩
    · rintro ⟨q, hq, h⟩
      rcases List.mem_cons.1 hq with rfl | hq
      · exact .inr h.symm
      · exact .inl ⟨q, hq, h⟩
  · rintro done vs K9 i' o J hdone _ _ ⟨es9, cl9, s, rfl, hset, hs, h9⟩
    have hdone' : ∀ y, y ∈ done ↔ y ∈ adjN N (r : Int) := fun y => by
      rw [← hdone, List.map_map]
      simp only [Function.comp_def, List.map_id']
    have hs' : ∀ y, y ∈ s ↔ ∃ q ∈ adjN N (r : Int), plAt pl q = y := fun y => by
      rw [hs]
      exact ⟨fun ⟨q, h1, h2⟩ => ⟨q, (hdone' q).1 h1, h2⟩, fun ⟨q, h1, h2⟩ => ⟨q, (hdone' q).2 h1, h2⟩⟩
    have hsl : s.length ≤ R := by
      have h1 : s.length ≤ ((adjN N (r : Int)).map (plAt pl)).length := length_le_of_sub hset.nodup fun y hy => by
        obtain ⟨q, h1, h2⟩ := (hs' y).1 hy
        exact List.mem_map.2 ⟨q, h1, h2⟩
      rw [List.length_map] at h1
      have h2 := deg_le ok [] (r : Int)
      rw [deg_none] at h2
      omega
    have hjl : ∀ j : Nat, (∀ x : Nat, x < j → (x : Int) ∈ s) → j ≤ s.length := fun j hj => by
      have h1 : ((List.range j).map Int.ofNat).length ≤ s.length := length_le_of_sub (ints_nodup j) fun y hy => by
        obtain ⟨x, hx, rfl⟩ := List.mem_map.1 hy
        exact hj x (List.mem_range.1 hx)
      rwa [List.length_map, List.length_range] at h1
    simp only [List.cons_append, List.nil_append, List.append_nil]
    refine ⟨fun n vs K => K = K9 ∧ ∃ j : Nat, vs = [nI j] ∧ n = s.length - j ∧ ∀ x : Nat, x < j → (x : Int) ∈ s, ⟨s.length, rfl, 0, rfl, rfl, fun x h => by omega⟩, ?_⟩
    rintro n2 vs K _ ⟨rfl, j, rfl, rfl, hj⟩
    simp only [List.cons_append, List.nil_append]
    have hjs := hjl j hj
    have hb9 : K tr = some (.map es9 cl9) := h9.blk (List.mem_cons_of_mem _ (List.mem_cons_self ..))
    refine den_lookup (α := Int) (m := encS s) (v := .map (some tr)) (j : Int) (.int .i64 0) uInnerK kIntK (by kernel_rfl) (by kernel_rfl) (by kernel_rfl) ⟨tr, es9, cl9, rfl, hb9, hset⟩ (by rw [getM_encS]; split <;> rfl) pendNil ?_
    rw [getM_encS]
    by_cases hin : (j : Int) ∈ s
    · rw [if_pos hin]
      simp only [Option.getD_some, List.cons_append, List.nil_append]
      have hj2 := hjl (j + 1) fun x hx => by
        by_cases e : x = j
        · subst e; exact hin
        · exact hj x (by omega)
      refine ⟨fun g2 => ?_, fun g2 => ?_⟩
      · refine ⟨_, lookup_hit, s.length - (j + 1), by omega, rfl, j + 1, ?_, rfl, fun x hx => ?_⟩
        · simp only [ev0, ev, evV, List.cons_append, List.nil_append, List.getD_cons_zero, List.getD_cons_succ, List.map_cons, List.map_nil, iOf, bOf, sOf, pOf, slLen, slBase, cmpI, arI, Value.ite_bool, int_beq, int_bne, ite_band, ite_bor]; rw [w64 (by omega) (by omega)]; rfl
        · by_cases e : x = j
          · subst e; exact hin
          · exact hj x (by omega)
      · simp [ev0, ev, evV, List.cons_append, List.nil_append, List.getD_cons_zero, List.getD_cons_succ, List.map_cons, List.map_nil, iOf, bOf, sOf, pOf, slLen, slBase, cmpI, arI, Value.ite_bool, int_beq, int_bne, ite_band, ite_bor] at g2
    · rw [if_neg hin]
      simp only [Option.getD_none, List.cons_append, List.nil_append]
      refine ⟨fun g2 => ?_, fun g2 => ?_⟩
      · simp [ev0, ev, evV, List.cons_append, List.nil_append, List.getD_cons_zero, List.getD_cons_succ, List.map_cons, List.map_nil, iOf, bOf, sOf, pOf, slLen, slBase, cmpI, arI, Value.ite_bool, int_beq, int_bne, ite_band, ite_bor] at g2
      have hplr : ∃ c, pl[r]? = some c := ⟨_, List.getElem?_eq_getElem (by rw [hcol.len]; omega)⟩
      obtain ⟨c, hc⟩ := hplr
      have h10 := h9.tail.tail
      obtain ⟨u1, _⟩ := (h10.row (List.mem_cons_self ..)).get hc
      refine ⟨fun _ => ?_, ?_⟩
      · simp only [Chk.holds, ev0, ev, evV, List.cons_append, List.nil_append, List.getD_cons_zero, List.getD_cons_succ, List.map_cons, List.map_nil, iOf, bOf, sOf, pOf, slLen, slBase, cmpI, arI, Value.ite_bool, int_beq, int_bne, ite_band, ite_bor]; exact ⟨u1, by omega, by omega⟩
      refine den_hPutZ (i := r) (a := c) (a' := (j : Int)) (us := [.int .i64 (j : Int)]) ?_ h10 hc rfl ?_ (by simp [oneC]) (csIK_mk (by unfold InI; omega)) fun K11 h11 => ?_
      · simp only [ev0, ev, evV, List.cons_append, List.nil_append, List.getD_cons_zero, List.getD_cons_succ, List.map_cons, List.map_nil, iOf, bOf, sOf, pOf, slLen, slBase, cmpI, arI, Value.ite_bool, int_beq, int_bne, ite_band, ite_bor]; rfl
      · simp only [ev0, ev, evV, List.cons_append, List.nil_append, List.getD_cons_zero, List.getD_cons_succ, List.map_cons, List.map_nil, iOf, bOf, sOf, pOf, slLen, slBase, cmpI, arI, Value.ite_bool, int_beq, int_bne, ite_band, ite_bor]
      have hstep := col_step ok hk.1 hnd hstl hrg hord hcol hr' hrR (j := j) (fun x hx => (hs' _).1 (hj x hx)) (fun h => hin ((hs' _).2 h)) (by omega)
      refine ⟨_, lookup_skip rfl (lookup_skip rfl lookup_hit), n - 1, by omega, i + 1, pl.set r (j : Int), _, S7, ?_, by omega, l7, h11, hstep⟩
      simp only [ev0, ev, evV, List.cons_append, List.nil_append, List.getD_cons_zero, List.getD_cons_succ, List.map_cons, List.map_nil, iOf, bOf, sOf, pOf, slLen, slBase, cmpI, arI, Value.ite_bool, int_beq, int_bne, ite_band, ite_bor]
      rw [w64 (n := (j : Int) + 1) (by omega) (by omega), w64 (n := (i : Int) + 1) (by omega) (by omega)]
      by_cases e : (j : Int) + 1 > most
      · simp [e]
      · simp [e]
end Go.Proofs.Ytlbbmcpppfiplaa.Vc
/-
  COLOUR: pairs sorted.
-/
namespace Go.Proofs.Ytlbbmcpppfiplaa.Vc
open Go Go.Sort Go.Shelf

theorem cmpI2_lt {x y : Int} : cmpI2 x y < 0 ↔ x < y := by unfold cmpI2; split <;> (try split) <;> omega
theorem cmpI2_eq {x y : Int} : cmpI2 x y = 0 ↔ x = y := by unfold cmpI2; split <;> (try split) <;> omega
theorem ltP (x y : Int × Int) : ltOf cmpP2 x y = decide (x.1 < y.1 ∨ (x.1 = y.1 ∧ x.2 < y.2)) := by
  unfold ltOf cmpP2 orI
  congr 1
  apply propext
  by_cases h : cmpI2 x.1 y.1 = 0
  · rw [if_pos h, cmpI2_lt]
    have := cmpI2_eq.1 h
    omega
  · rw [if_neg h, cmpI2_lt]
    have : x.1 ≠ y.1 := fun e => h (cmpI2_eq.2 e)
    omega
theorem swoP : SWO (ltOf cmpP2) where
  irrefl x := by rw [ltP]; simp
  trans x y z h1 h2 := by rw [ltP] at *; simp at *; omega
  ntrans x y z h1 h2 := by rw [ltP] at *; simp at *; omega
theorem cmpLays43 (blk off size : Nat) (w : World) : CmpLays Try.prog 43 #[] encP2 2 cmpP2 blk off size w :=
  fun _ _ _ _ x y => Try.closure43 x y _
theorem flat_get : ∀ (l : List (Int × Int)) (t : Nat), t < l.length * 2 → (l.flatMap encP2)[t]? = some ((encP2 (l[t / 2]!))[t % 2]!)
  | [], t, h => by simp at h
  | a :: l, 0, h => by simp [encP2]
  | a :: l, 1, h => by simp [encP2]
  | a :: l, t + 2, h => by
    have ih := flat_get l t (by simp at h; omega)
    have e1 : (t + 2) / 2 = t / 2 + 1 := by omega
    have e2 : (t + 2) % 2 = t % 2 := by omega
    rw [e1, e2]
    simpa [encP2] using ih
theorem flat_eq (l : List (Int × Int)) : flatK encP2 2 l.toArray = (l.flatMap encP2).toArray := by
  have hlen : ∀ l : List (Int × Int), (l.flatMap encP2).length = l.length * 2 := fun l => by
    induction l with
    | nil => rfl
    | cons a l ih => rw [List.flatMap_cons, List.length_append, ih]; simp [encP2]; omega
  refine Array.ext_getElem? fun t => ?_
  by_cases h : t < l.length * 2
  · have h1 : t < (flatK encP2 2 l.toArray).size := by rw [size_flatK]; simpa using h
    have h2 := get_flatK encP2 2 l.toArray t (by simpa using h)
    rw [Array.getElem?_eq_getElem h1, List.getElem?_toArray, flat_get l t h]
    rw [getElem!_pos _ t h1] at h2
    rw [h2]; simp
  · rw [Array.getElem?_eq_none (by rw [size_flatK]; simp; omega), List.getElem?_toArray, List.getElem?_eq_none (by rw [hlen]; omega)]
theorem pairs_row {S : PH} : ∀ {l : List (Int × Int)} {xs : List Value}, PV.RepRow S (l.flatMap pv) xs → xs = l.flatMap encP2 ∧ ∀ x ∈ l, InI x.1 ∧ InI x.2
  | [], xs, h => ⟨by simpa [PV.RepRow] using h, fun x hx => by cases hx⟩
  | a :: l, xs, h => by
    have h' : PV.RepRow S (.int .i64 a.1 :: .int .i64 a.2 :: l.flatMap pv) xs := h
    simp only [PV.RepRow, repI_iff] at h'
    obtain ⟨v1, _, rfl, ⟨rfl, h1⟩, v2, ys, rfl, ⟨rfl, h2⟩, hr⟩ := h'
    obtain ⟨rfl, h3⟩ := pairs_row hr
    exact ⟨rfl, fun x hx => (List.mem_cons.1 hx).elim (fun e => e ▸ ⟨h1, h2⟩) (h3 x)⟩
theorem pairs_row_mk {S : PH} : ∀ {l : List (Int × Int)}, (∀ x ∈ l, InI x.1 ∧ InI x.2) → PV.RepRow S (l.flatMap pv) (l.flatMap encP2)
  | [], _ => by simp [PV.RepRow]
  | a :: l, h => by
    have ih := pairs_row_mk (S := S) (l := l) fun x hx => h x (List.mem_cons_of_mem _ hx)
    show PV.RepRow S (.int .i64 a.1 :: .int .i64 a.2 :: l.flatMap pv) (.int .i64 a.1 :: .int .i64 a.2 :: l.flatMap encP2)
    simp only [PV.RepRow, repI_iff]
    have h0 := h a (List.mem_cons_self ..)
    exact ⟨_, _, rfl, ⟨rfl, h0.1⟩, _, _, rfl, ⟨rfl, h0.2⟩, ih⟩
theorem putFlat {l : List (Int × Int)} {cur : Array Value} (h : l.length * 2 ≤ cur.size) : (putCells id 0 (flatK encP2 2 l.toArray) cur).toList.take (l.length * 2) = l.flatMap encP2 := by
  rw [flat_eq]
  have hlen : (l.flatMap encP2).length = l.length * 2 := by
    have := size_flatK encP2 2 l.toArray
    rw [flat_eq] at this; simpa using this
  refine List.ext_getElem? fun i => ?_
  rw [List.getElem?_take]
  by_cases hi : i < l.length * 2
  · rw [if_pos hi, Array.getElem?_toList]
    unfold putCells
    rw [Array.getElem?_mapIdx]
    have hc : i < cur.size := by omega
    have hi2 : i < (l.flatMap encP2).length := by omega
    rw [Array.getElem?_eq_getElem hc, Option.map_some, if_pos (by simp only [List.size_toArray]; omega), Nat.sub_zero]
    rw [List.getElem?_eq_getElem hi2]
    simp [hi2]
    rw [List.getElem?_eq_getElem hi2]
    rfl
  · rw [if_neg hi, List.getElem?_eq_none (by omega)]
set_option maxHeartbeats 1000000 in
theorem SortP_tri (l : List (Int × Int)) (v : Value) (S K : PH) (I : List Itm) (h : Held S K (orow 51 l v :: I)) (hl : l.length ≤ 4000000) (hnd : l.Nodup) :
    Tri Try.prog 42 #[v, .func (.func 43) #[] #[]] K fun x K' => x = .returned (.tuple #[]) ∧ ∃ l', Held S K' (orow 51 l' v :: I) ∧ l'.Pairwise lexLt ∧ ∀ x, x ∈ l' ↔ x ∈ l := by
  intro w hv
  have hr := h.row (List.mem_cons_self ..)
  obtain ⟨xs, ho, hrow⟩ := hr.own
  obtain ⟨rfl, hin⟩ := pairs_row hrow
  rcases ho.2 with ⟨rfl, hn⟩ | ⟨g, cap, cur, rfl, hg, h2, h3, h4, h5⟩
  · have : l = [] := List.length_eq_zero_iff.1 hn
    subst this
    refine (Try.sort42none none 0 _ w).mono ?_
    rintro e w' ⟨rfl, rfl⟩
    exact ⟨K, .refl hv, rfl, [], h, .nil, fun x => Iff.rfl⟩
  · have hsz : sz (Int × Int) = 2 := rfl
    rw [hsz] at h4 h5
    have hw := hv _ _ hg
    have hflen : (l.flatMap encP2).length = l.length * 2 := by rw [ho.1, hsz]
    have hcur : ∀ j, j < l.length * 2 → cur[j]? = (l.flatMap encP2)[j]? := fun j hj => by
      have := congrArg (fun x => x[j]?) h5
      simp only [List.getElem?_take, if_pos hj, Array.getElem?_toList] at this
      exact this
    have hH : HoldsK encP2 2 w g 0 l.toArray := by
      intro j hj
      rw [size_flatK, List.size_toArray] at hj
      refine ⟨?_, ?_⟩
      · unfold World.cell?
        simp only [hw, Nat.zero_add]
        have := hcur j hj
        rw [List.getElem?_eq_getElem (by omega)] at this
        simp only [Option.isSome_none, Bool.false_eq_true, if_false, this, id]
        rw [flat_eq, getElem!_pos _ j (by simpa using (by omega : j < (l.flatMap encP2).length))]
        simp
      · unfold World.frozen?
        simp [hw]
    have eg : ∀ args w, (callFunc 43 args).run Try.prog w = .ok (.enter 43 args) w := enters_of Try.func43 (by kernel_rfl) rfl
    have hcon := AnyQ.slices_SortFunc Try.sortPairs 2 Try.isAgg51 Try.sizeOf51 encP2 (fun _ => rfl) (fun x v hv => by simp [encP2] at hv; rcases hv with rfl | rfl <;> rfl) cmpP2 swoP 43 #[] g 0 cap l.toArray w eg (cmpLays43 g 0 l.toArray.size w) hH (hv.lt hg) (by simp only [List.size_toArray]; omega)
    rw [List.size_toArray] at hcon
    refine Calls.mono hcon ?_
    rintro e w' ⟨rfl, d', n, os, hp, hs, rfl⟩
    obtain ⟨l', rfl⟩ : ∃ l' : List (Int × Int), d' = l'.toArray := ⟨d'.toList, by simp⟩
    obtain ⟨hp1, _, hp3⟩ := hp
    simp only [List.size_toArray] at hp1
    have hperm : l'.Perm l := by
      have e1 : ∀ m : List (Int × Int), m.length = l.length → (m.toArray.extract 0 l.length).toList = m := fun m hm => by
        rw [← hm]; simp
      rw [e1 l' hp1, e1 l rfl] at hp3
      exact hp3
    obtain ⟨cur', hcur'⟩ : ∃ c, c = putCells id 0 (flatK encP2 2 l'.toArray) cur := ⟨_, rfl⟩
    have hadv : Adv K w (K.upd g (.cells cur' 51 (0, 0))) (putRowK encP2 2 (Sort.ahead w n) g 0 l'.toArray) := by
      refine Adv.put (w' := putRowK encP2 2 (Sort.ahead w n) g 0 l'.toArray) hv hg ?_ ?_ rfl rfl rfl
      · simp [putRowK, Sort.putRow, Sort.mapBlock, Sort.ahead]
      · intro k
        show (w.heap.modify g _)[k]? = _
        rw [Array.getElem?_modify]
        by_cases e : k = g
        · subst e; rw [if_pos rfl, if_pos rfl, hw, hcur']; rfl
        · rw [if_neg e, if_neg (Ne.symm e)]
    have hSg : S g = none := hr.off g rfl
    have hle : PH.le S (K.upd g (.cells cur' 51 (0, 0))) := fun k o hk => by
      rw [PH.upd_other (fun e => by rw [e, hSg] at hk; cases hk)]; exact h.sh k o hk
    refine ⟨_, hadv.trans (adv_grow hadv.vis os), rfl, l', ?_, ?_, fun x => hperm.mem_iff⟩
    · refine h.went ⟨hr.off, l'.flatMap encP2, ⟨by have := size_flatK encP2 2 l'.toArray; rw [flat_eq] at this; simpa [hsz] using this, .inr ⟨g, cap, cur', by rw [hp1], PH.upd_same, by rw [hp1]; exact h2, h3, ?_, ?_⟩⟩, pairs_row_mk fun x hx => hin x (hperm.mem_iff.1 hx)⟩ hle ⟨fun k o hk hn => ?_, fun k hk => .inl hk⟩
      · rw [hcur', hsz, ← h4]; simp [putCells]
      · rw [hcur', hsz]
        exact putFlat (by rw [hp1]; omega)
      · rw [PH.upd_other (fun e => hn (by rw [e]; rfl))]; exact hk
    · have hnd' : l'.Nodup := hperm.nodup_iff.2 hnd
      rw [List.pairwise_iff_getElem]
      intro i j hi hj hij
      have h1 := hs i j (Nat.zero_le _) hij (by rw [← hp1]; exact hj)
      rw [getElem!_pos _ i (by simpa using hi), getElem!_pos _ j (by simpa using hj)] at h1
      simp only [List.getElem_toArray] at h1
      rw [ltP, decide_eq_false_iff_not] at h1
      have hne : l'[i] ≠ l'[j] := fun e => by
        have := (List.getElem_inj hnd').1 e
        omega
      have hne2 : ¬ (l'[i].1 = l'[j].1 ∧ l'[i].2 = l'[j].2) := fun e => hne (Prod.ext e.1 e.2)
      unfold lexLt
      omega
end Go.Proofs.Ytlbbmcpppfiplaa.Vc
/-
  COLOUR: the edges, by the program: the walk.
-/
namespace Go.Proofs.Ytlbbmcpppfiplaa.Vc
open Go

theorem pairs_few {l : List (Int × Int)} (hn : l.Nodup) (h : ∀ x ∈ l, (0 ≤ x.1 ∧ x.1 < 2000) ∧ 0 ≤ x.2 ∧ x.2 < 2000) : l.length ≤ 4000000 := by
  have h1 : (l.map fun x => x.1 * 2000 + x.2).length ≤ ((List.range 4000000).map Int.ofNat).length := length_le_of_sub (by
    rw [List.Nodup, List.pairwise_map]
    refine List.Pairwise.imp_of_mem ?_ hn
    intro a b ha hb hne he
    have h1 := h a ha
    have h2 := h b hb
    exact hne (Prod.ext (by omega) (by omega))) fun y hy => by
      obtain ⟨x, hx, rfl⟩ := List.mem_map.1 hy
      have h1 := h x hx
      exact List.mem_map.2 ⟨(x.1 * 2000 + x.2).toNat, List.mem_range.2 (by omega), show (((x.1 * 2000 + x.2).toNat : Nat) : Int) = x.1 * 2000 + x.2 by omega⟩
  rw [List.length_map, List.length_map, List.length_range] at h1
  exact h1
set_option maxHeartbeats 4000000 in
theorem Edges_tri (p : PrcX) (bv : Value) (S : PH) (hbv : SlR S p.blocks bv) (hw : p.wt ≤ 1048576) :
    Tri Try.prog n_color_Edges #[.agg (prcVs p bv).toArray] S fun x S' => PH.le S S' ∧ ((mayP p = false ∧ x = .returned (.tuple #[.slice none 0 0, .int .i64 150])) ∨ (mayP p = true ∧ ∃ l v, x = .returned (.tuple #[v, .int .i64 0]) ∧ SlR S' l v ∧ EdgesOf p l)) := by
  obtain ⟨hp, hE⟩ := PrcX.fit_wt hw
  obtain ⟨b0, c0, rfl⟩ := hbv.sl
  refine tri_color_Edges (prcVs p (.slice b0 p.blocks.length c0)) (by kernel_rfl) (by kernel_rfl) ?_
  simp only [prcVs]
  refine den_gives [.bool (mayP p)] cb_color_may (May_gives p (.slice b0 p.blocks.length c0) S hbv hp hE) rfl pendNil fun K1 l1 => ⟨fun g => ?_, fun g => ?_⟩
  · simp only [ev0, ev, evV, List.cons_append, List.nil_append, List.getD_cons_zero, List.getD_cons_succ, List.map_cons, List.map_nil, iOf, bOf, sOf, pOf, slLen, slBase, cmpI, arI, Value.ite_bool, int_beq, int_bne, ite_band, ite_bor] at g
    have hm : mayP p = false := by simpa using g
    exact ⟨l1, .inl ⟨hm, rfl⟩⟩
  simp only [ev0, ev, evV, List.cons_append, List.nil_append, List.getD_cons_zero, List.getD_cons_succ, List.map_cons, List.map_nil, iOf, bOf, sOf, pOf, slLen, slBase, cmpI, arI, Value.ite_bool, int_beq, int_bne, ite_band, ite_bor] at g
  have hmay : mayP p = true := by simpa using g
  obtain ⟨hr0, hr1, _, _, hne⟩ := may_head hmay
  refine den_call cb_color_meets (Meets_tri p (.slice b0 p.blocks.length c0) K1 (hbv.le l1) hw hmay) ?_
  rintro x K2 ⟨S1, gr, es, cl, N, l2, rfl, h2, gok, rel⟩
  refine ⟨_, [.map (some gr)], rfl, rfl, rfl, pendNil, ?_⟩
  obtain ⟨S3, l3, l3', hg⟩ := freezeGraph h2 gok
  obtain ⟨R, hRi⟩ : ∃ R : Nat, p.regs = (R : Int) := ⟨p.regs.toNat, by omega⟩
  have hR2 : R ≤ 2000 := by omega
  obtain ⟨ok, hadj⟩ := graphOk_of hRi hmay hg rel
  have l03 : PH.le S S3 := PH.le_trans l1 (PH.le_trans l2 l3)
  have hmS : MapS S3 (.map (some gr)) (outM N) := by
    obtain ⟨gr', es', cl', h1, h2, h3⟩ := hg.at_
    exact .inl ⟨gr', es', cl', h1, h2, h3.outer⟩
  have hfew : ∀ l : List (Int × Int), l.Nodup → (∀ x y : Int, (x, y) ∈ l → y ∈ adjN N x) → l.length ≤ 4000000 := fun l hn hl => pairs_few hn fun z hz => by
    obtain ⟨zx, zy⟩ := z
    have h1 := ok.rel _ _ (hl zx zy hz)
    simp only
    omega
  simp only [List.cons_append, List.nil_append]
  refine den_rangeS (m := outM N) (v := .map (some gr)) rfl rfl uGraphK (by kernel_rfl) l3' hmS (fun y hy => by obtain ⟨z, _, rfl⟩ := List.mem_map.1 hy; rfl) rfl
    (fun done vs K i o => ∃ (l : List (Int × Int)) (v : Value) (S' : PH), vs = [v] ∧ PH.le S3 S' ∧ Held S' K [.blk i o, orow 51 l v] ∧ l.Nodup ∧ ∀ x y : Int, (x, y) ∈ l ↔ x ∈ done ∧ y ∈ adjN N x ∧ x < y)
    (fun i o hi => ⟨[], .slice none 0 0, S3, rfl, PH.le_refl _, ((Held.nil l3').empty (α := Int × Int) 51).new hi o, List.nodup_nil, fun x y => by simp⟩) ?_ ?_ ?_ ?_
  · rintro done vs K i o ⟨l, v, S', rfl, le, h, hn, hm⟩
    exact ⟨h.blk (List.mem_cons_self ..), PH.le_trans le h.sh⟩
  · rintro done vs K i o o' ⟨l, v, S', rfl, le, h, hn, hm⟩
    exact ⟨l, v, S', rfl, le, h.put o', hn, hm⟩
  · rintro done a wv vs K4 i o J hy hyd _ ⟨l4, v4, S4, rfl, le4, h4, hn4, hm4⟩ hJ
    obtain ⟨x, hx, hxx⟩ := List.mem_map.1 hy
    simp only [Prod.mk.injEq] at hxx
    obtain ⟨rfl, rfl⟩ := hxx
    obtain ⟨j, hj⟩ := List.getElem?_of_mem hx
    obtain ⟨_, w, hw1, hw2, hw3⟩ := hg.look x.1
    rw [getM_out hg.keys hj] at hw1
    have hw1' : w = .map (some x.2.ref) := hw1.symm
    subst hw1'
    simp only [List.cons_append, List.nil_append]
    refine den_rangeS (m := encS (adjN N x.1)) (v := .map (some x.2.ref)) rfl rfl uInnerK (by kernel_rfl) (PH.le_trans le4 h4.sh) hw3 (fun y hy => by obtain ⟨z, _, rfl⟩ := List.mem_map.1 hy; rfl) rfl
      (fun done2 vs K i2 o2 => (∀ y ∈ done2, y ∈ adjN N x.1) ∧ ∃ (l : List (Int × Int)) (v : Value) (S' : PH), vs = [v] ∧ PH.le S3 S' ∧ Held S' K [.blk i2 o2, .blk i o, orow 51 l v] ∧ l.Nodup ∧ ∀ c d : Int, (c, d) ∈ l ↔ (c ∈ done ∧ d ∈ adjN N c ∧ c < d) ∨ (c = x.1 ∧ d ∈ done2 ∧ c < d))
      (fun i2 o2 hi2 => ⟨fun y hy => by (cases hy), l4, v4, S4, rfl, le4, h4.new hi2 o2, hn4, fun c d => by rw [hm4]; simp⟩) ?_ ?_ ?_ ?_
    · rintro done2 vs K i2 o2 ⟨_, l, v, S', rfl, le, h, hn, hm⟩
      exact ⟨h.blk (List.mem_cons_self ..), PH.le_trans le h.sh⟩
    · rintro done2 vs K i2 o2 o' ⟨hd2, l, v, S', rfl, le, h, hn, hm⟩
      exact ⟨hd2, l, v, S', rfl, le, h.put o', hn, hm⟩
    · rintro done2 b wb vs K5 i2 o2 J2 hyb hybd _ ⟨hd2, l5, v5, S5, rfl, le5, h5, hn5, hm5⟩ hJ2
      obtain ⟨b', hb', hbb⟩ := List.mem_map.1 hyb
      simp only [Prod.mk.injEq] at hbb
      obtain ⟨rfl, rfl⟩ := hbb
      have hrel := ok.rel _ _ hb'
      simp only [List.cons_append, List.nil_append]
      refine ⟨fun g => ?_, fun g => ?_⟩
      · simp only [ev0, ev, evV, List.cons_append, List.nil_append, List.getD_cons_zero, List.getD_cons_succ, List.map_cons, List.map_nil, iOf, bOf, sOf, pOf, slLen, slBase, cmpI, arI, Value.ite_bool, int_beq, int_bne, ite_band, ite_bor, decide_eq_true_eq] at g
        have hnew : (x.1, b') ∉ l5 := fun hh => by
          rcases (hm5 _ _).1 hh with ⟨h1, _⟩ | ⟨_, h1, _⟩
          · exact hyd h1
          · exact hybd h1
        have hn6 : (l5 ++ [(x.1, b')]).Nodup := by
          rw [List.nodup_append]
          exact ⟨hn5, by simp, fun a ha b hb => by rw [List.mem_singleton.1 hb]; exact fun e => hnew (e ▸ ha)⟩
        have hm6 : ∀ c d : Int, (c, d) ∈ l5 ++ [(x.1, b')] ↔ (c ∈ done ∧ d ∈ adjN N c ∧ c < d) ∨ (c = x.1 ∧ d ∈ b' :: done2 ∧ c < d) := fun c d => by
          rw [List.mem_append, hm5, List.mem_singleton, Prod.mk.injEq]
          constructor
          · rintro ((h | ⟨h1, h2, h3⟩) | ⟨rfl, rfl⟩)
            · exact .inl h
            · exact .inr ⟨h1, List.mem_cons_of_mem _ h2, h3⟩
            · exact .inr ⟨rfl, List.mem_cons_self .., g⟩
          · rintro (h | ⟨h1, h2, h3⟩)
            · exact .inl (.inl h)
            · rcases List.mem_cons.1 h2 with rfl | h2
              · exact .inr ⟨h1, rfl⟩
              · exact .inl (.inr ⟨h1, h2, h3⟩)
        have hd3 : ∀ y ∈ b' :: done2, y ∈ adjN N x.1 := fun y hy => (List.mem_cons.1 hy).elim (fun e => e ▸ hb') (hd2 y)
        have hlen := hfew _ hn6 fun c d hcd => by
          rcases (hm6 c d).1 hcd with ⟨_, h1, _⟩ | ⟨rfl, h1, _⟩
          · exact h1
          · exact hd3 _ h1
        rw [List.length_append, List.length_cons, List.length_nil] at hlen
        have hp : [Itm.blk i2 o2, .blk i o, orow 51 l5 v5].Perm [orow 51 l5 v5, .blk i2 o2, .blk i o] :=
          List.perm_append_comm (l₁ := [Itm.blk i2 o2, .blk i o]) (l₂ := [orow 51 l5 v5])
        refine den_hPush (more := [(x.1, b')]) (b := 16) [.agg ([.int .i64 x.1, .int .i64 b'] : List Value).toArray] uPairsK elemPairK rfl (by decide) (by decide) (h5.perm hp) (by kernel_rfl) (.cons (pair_iff.2 ⟨rfl, by unfold InI; simp only; omega, by unfold InI; simp only; omega⟩) .nil) pendNil (fun _ => by kernel_rfl) (fun _ => by kernel_rfl)
          (by simp only [maxLen, List.length_cons, List.length_nil]; omega) (by simp only [List.length_cons, List.length_nil]; omega) fun u v' S7 K7 l7 h7 => ⟨pendNil, _, lookup_hit, hJ2 _ _ ⟨hd3, _, v', S7, rfl, PH.le_trans le5 l7, h7.perm ?_, hn6, hm6⟩⟩
        exact List.perm_append_comm (l₁ := [orow 51 (l5 ++ [(x.1, b')]) v']) (l₂ := [Itm.blk i2 o2, .blk i o])
      · simp only [ev0, ev, evV, List.cons_append, List.nil_append, List.getD_cons_zero, List.getD_cons_succ, List.map_cons, List.map_nil, iOf, bOf, sOf, pOf, slLen, slBase, cmpI, arI, Value.ite_bool, int_beq, int_bne, ite_band, ite_bor, decide_eq_false_iff_not] at g
        refine ⟨_, lookup_hit, hJ2 _ _ ⟨fun y hy => (List.mem_cons.1 hy).elim (fun e => e ▸ hb') (hd2 y), l5, v5, S5, rfl, le5, h5, hn5, fun c d => ?_⟩⟩
        rw [hm5]
        constructor
        · rintro (h | ⟨h1, h2, h3⟩)
          · exact .inl h
          · exact .inr ⟨h1, List.mem_cons_of_mem _ h2, h3⟩
        · rintro (h | ⟨h1, h2, h3⟩)
          · exact .inl h
          · rcases List.mem_cons.1 h2 with rfl | h2
            · subst h1; exact absurd h3 g
            · exact .inr ⟨h1, h2, h3⟩
    · rintro done2 vs K5 i2 o2 J2 hdone2 _ _ ⟨hd2, l5, v5, S5, rfl, le5, h5, hn5, hm5⟩
      have hdone' : ∀ y, y ∈ done2 ↔ y ∈ adjN N x.1 := fun y => by
        rw [← hdone2, List.map_map]
        simp only [Function.comp_def, List.map_id']
      refine ⟨_, lookup_skip rfl lookup_hit, hJ _ _ ⟨l5, v5, S5, rfl, le5, h5.tail, hn5, fun c d => ?_⟩⟩
      rw [hm5]
      constructor
      · rintro (⟨h1, h2, h3⟩ | ⟨rfl, h2, h3⟩)
        · exact ⟨List.mem_cons_of_mem _ h1, h2, h3⟩
        · exact ⟨List.mem_cons_self .., hd2 _ h2, h3⟩
      · rintro ⟨h1, h2, h3⟩
        rcases List.mem_cons.1 h1 with rfl | h1
        · exact .inr ⟨rfl, (hdone' _).2 h2, h3⟩
        · exact .inl ⟨h1, h2, h3⟩
  · rintro done vs K4 i o J hdone _ _ ⟨l4, v4, S4, rfl, le4, h4, hn4, hm4⟩
    simp only [List.cons_append, List.nil_append]
    have hmem : ∀ x y : Int, (x, y) ∈ l4 ↔ y ∈ adjN N x ∧ x < y := fun x y => by
      rw [hm4]
      constructor
      · rintro ⟨_, h1, h2⟩; exact ⟨h1, h2⟩
      · rintro ⟨h1, h2⟩
        refine ⟨(hdone x).1 ?_, h1, h2⟩
        rcases adj_get hg.keys x with ⟨j, z, hj, hz, _⟩ | ⟨_, he⟩
        · rw [List.map_map]
          exact List.mem_map.2 ⟨z, List.mem_of_getElem? hj, hz⟩
        · rw [he] at h1; cases h1
    refine den_call (by kernel_rfl) (SortP_tri l4 v4 S4 K4 [] h4.tail (hfew l4 hn4 fun x y hxy => ((hmem x y).1 hxy).1) hn4) ?_
    rintro x K5 ⟨rfl, l', h5, hpw, hl'⟩
    refine ⟨_, [], rfl, rfl, rfl, pendNil, ?_⟩
    obtain ⟨S6, s6, l6, h6⟩ := h5.freeze
    refine ⟨PH.le_trans l03 (PH.le_trans le4 (PH.le_trans l6 h6.sh)), .inr ⟨hmay, l', v4, rfl, s6.le h6.sh, hpw, fun a b => ?_⟩⟩
    rw [hl', hmem, hadj]
    constructor
    · rintro ⟨⟨h1, h2⟩, h3⟩
      have := meet_in hmay h2
      exact ⟨this.1.1, h3, this.2.2, h2⟩
    · rintro ⟨h1, h2, h3, h4⟩
      exact ⟨⟨by omega, h4⟩, h2⟩
end Go.Proofs.Ytlbbmcpppfiplaa.Vc
/-
  COLOUR: pairs compared; functions of one block; the document's example.
-/
namespace Go.Proofs.Ytlbbmcpppfiplaa.Vc
open Go

section
variable {P : Program} {Ψ : Value → PH → Prop} {H : PH}
theorem wpS_equalPair {d : Nat} {t e : TypeId} {a b c f : Value} (ht : P.underlying t = some (.array 2 e)) (hiz : (P.info? e).map (·.size) = some 1) {k : IntKind} (he : P.underlying e = some (.int k)) {x1 x2 y1 y2 : Int} (ha : a = .int k x1) (hb : b = .int k x2) (hc : c = .int k y1) (hf : f = .int k y2) {Φ : Bool → PH → Prop} :
    wpS P (Op.equalIn (d + 2) t (.agg #[a, b]) (.agg #[c, f])) Φ Ψ H = Φ (decide (x1 = y1 ∧ x2 = y2)) H := by
  subst ha hb hc hf
  obtain ⟨i, hi, hz⟩ := Option.map_eq_some_iff.1 hiz
  have hm : ∀ m n : Int, (match P.underlying e, Value.int k m, Value.int k n with
    | some (.int _), .int k _, .int k' _ => decide (k = k')
    | some .string, .string _, .string _ => true
    | some .bool, .bool _, .bool _ => true
    | _, _, _ => false) = true := fun m n => by rw [he]; exact decide_eq_true rfl
  have hfl : flatB (.int k) = true := rfl
  have hr : List.range' 0 2 1 = [0, 1] := rfl
  unfold Op.equalIn
  simp only [wpS_bind', wpS_underlying ht, wpS_sizeOf hi, hz, Std.Legacy.Range.forIn_eq_forIn_range', Std.Legacy.Range.size]
  show wpS P (forIn (List.range' 0 2 1) _ _) _ Ψ H = _
  rw [hr, List.forIn_cons]
  simp only [wpS_bind', Nat.zero_mul, Nat.one_mul, wpS_part he hfl (show (#[Value.int k x1, .int k x2] : Array Value)[0]? = some (.int k x1) from rfl), wpS_part he hfl (show (#[Value.int k y1, .int k y2] : Array Value)[0]? = some (.int k y1) from rfl), wpS_equalIn1 (hm x1 y1)]
  by_cases h1 : x1 = y1
  · have e1 : eqCell (.int k x1) (.int k y1) = true := by simp [eqCell, h1]
    simp only [e1, Bool.not_true, Bool.false_eq_true, if_false, wpS_pure]
    rw [List.forIn_cons]
    simp only [wpS_bind', Nat.zero_mul, Nat.one_mul, wpS_part he hfl (show (#[Value.int k x1, .int k x2] : Array Value)[1]? = some (.int k x2) from rfl), wpS_part he hfl (show (#[Value.int k y1, .int k y2] : Array Value)[1]? = some (.int k y2) from rfl), wpS_equalIn1 (hm x2 y2)]
    by_cases h2 : x2 = y2
    · have e2 : eqCell (.int k x2) (.int k y2) = true := by simp [eqCell, h2]
      rw [show decide (x1 = y1 ∧ x2 = y2) = true from decide_eq_true ⟨h1, h2⟩]
      simp [e2, wpS_pure]
    · have e2 : eqCell (.int k x2) (.int k y2) = false := by simp [eqCell, h2]
      rw [show decide (x1 = y1 ∧ x2 = y2) = false from decide_eq_false fun h => h2 h.2]
      simp [e2, wpS_pure]
  · have e1 : eqCell (.int k x1) (.int k y1) = false := by simp [eqCell, h1]
    simp [e1, h1, wpS_pure]
theorem wpS_guardNo {op : BinOp} {t : TypeId} {x y : Operand} {u v : Array Value} (hop : op = .eql ∨ op = .neq) (hg : P.eqGuardType P.depth t = false) {Ξ : Unit → PH → Prop} : wpS P (eqGuard op t x y (.agg u) (.agg v)) Ξ Ψ H = Ξ () H := by
  rcases hop with rfl | rfl
  · show wpS P (if (!P.eqGuardType P.depth t) = true then _ else _) Ξ Ψ H = _
    rw [if_pos (by rw [hg]; rfl)]; rfl
  · show wpS P (if (!P.eqGuardType P.depth t) = true then _ else _) Ξ Ψ H = _
    rw [if_pos (by rw [hg]; rfl)]; rfl
variable {X : List PanicEntry → PH → Prop} {β : Type} {E : List Value} {L : LK} {K : β → List Value → PH → LK → Prop}
theorem den_eqlPair {t e U ty : TypeId} {x y : Operand} {args : List (Nat × VE)} {k : Fm β} {x1 x2 y1 y2 : Int} (ht : P.underlying t = some (.array 2 e)) (hiz : (P.info? e).map (·.size) = some 1) (he : P.underlying e = some (.int .i64)) (hg : P.eqGuardType P.depth t = false)
    (hx : argEv E args x = .agg #[.int .i64 x1, .int .i64 x2]) (hy : argEv E args y = .agg #[.int .i64 y1, .int .i64 y2]) (hk : den P X k (E ++ [.bool (decide (x1 = y1 ∧ x2 = y2))]) H L K) : den P X (.sem (.binOp .eql t x y U) ty args (.sc .bool) [] k) E H L K := by
  show wpS P (execOp (argEv E args) (bare _ ty)) _ _ H
  rw [exec_binOp, hx, hy, wpS_guardNo (.inl rfl) hg]
  show wpS P (do pure (Value.bool (← Op.equal t (.agg #[.int .i64 x1, .int .i64 x2]) (.agg #[.int .i64 y1, .int .i64 y2]))) : Sem Value) _ _ H
  rw [wpS_bind']
  show wpS P (Op.equalIn (9998 + 2) t _ _) _ _ H
  rw [wpS_equalPair ht hiz he rfl rfl rfl rfl]
  exact ⟨[_], rfl, rfl, pendNil, hk⟩
end
theorem uPair : Try.prog.underlying 51 = some (.array 2 3) := by kernel_rfl
theorem szIntK : (Try.prog.info? 3).map (·.size) = some 1 := by kernel_rfl
theorem gPair : Try.prog.eqGuardType Try.prog.depth 51 = false := by kernel_rfl

/-! ### a function of one block that leads nowhere -/
theorem live_one {p : PrcX} {b : BlkX} (hb : p.blocks = [b]) (hw : b.e.ways = []) (x : Int) (k : Nat) : LiveAt p x 0 k ↔ thru x (b.ins.drop k) (b.e.reads x = true) := by
  have h1 : ∀ L, endLive b.e p.blocks.length x L ↔ b.e.reads x = true := fun L => by
    unfold endLive EndX.leads
    rw [hw]; simp
  constructor
  · rintro ⟨c, hc, h⟩
    rw [hb] at hc
    have : b = c := by simpa using hc
    subst this
    exact thru_mono (h1 _).1 h
  · intro h
    exact ⟨b, by rw [hb]; rfl, thru_mono (h1 _).2 h⟩
theorem fills_one {p : PrcX} {b : BlkX} (hb : p.blocks = [b]) (hc : b.e.calls = false) : fillsL p = insFills p 0 b b.ins.length := by
  unfold fillsL fillsTo blkFill
  rw [hb]
  simp [hc]

/-! ### the document's example -/
def smC1 : InsX := ⟨[99, 111, 110, 115, 116], 1, [], .mk 0 0 [] [], 0⟩
def smC2 : InsX := ⟨[99, 111, 110, 115, 116], 2, [], .mk 0 0 [] [], 0⟩
def smP : InsX := ⟨[43], 3, [1, 2], .mk 0 0 [] [], 0⟩
def smB : BlkX := ⟨[smC1, smC2, smP], ⟨2, 3, [], 0, 0, 0⟩⟩
def smPr : PrcX := ⟨0, 0, 4, [smB]⟩
theorem sm_at (x : Int) (k : Nat) : LiveAt smPr x 0 k ↔ thru x (smB.ins.drop k) (x = 3) := by
  rw [live_one (b := smB) rfl rfl]
  have h : (smB.e.reads x = true) ↔ x = 3 := by
    show decide ((3 : Int) = x) = true ↔ x = 3
    exact ⟨fun h => (of_decide_eq_true h).symm, fun h => decide_eq_true h.symm⟩
  exact ⟨thru_mono h.1, thru_mono h.2⟩
theorem sm0 : liveL smPr 0 0 = [] := fx_list (by decide) fun x => by
  rw [sm_at]; simp [smB, smC1, smC2, smP, thru, InsX.fills, tieB]; omega
theorem sm1 : liveL smPr 0 1 = [1] := fx_list (by decide) fun x => by
  rw [sm_at]; simp [smB, smC1, smC2, smP, thru, InsX.fills, tieB]; omega
theorem sm2 : liveL smPr 0 2 = [1, 2] := fx_list (by decide) fun x => by
  rw [sm_at]; simp [smB, smC1, smC2, smP, thru, InsX.fills, tieB]; omega
theorem sm3 : liveL smPr 0 3 = [3] := fx_list (by decide) fun x => by
  rw [sm_at]; simp [smB, smC1, smC2, smP, thru, InsX.fills, tieB]
theorem sm_fills : fillsL smPr = [⟨1, -1, [1]⟩, ⟨2, -1, [1, 2]⟩, ⟨3, -1, [3]⟩] := by
  rw [fills_one (b := smB) rfl rfl]
  show insFills smPr 0 smB 3 = _
  rw [insFills_step (x := smP) rfl, insFills_step (x := smC2) rfl, insFills_step (x := smC1) rfl]
  unfold insFills insFill
  rw [if_neg (by decide), if_neg (by decide), if_neg (by decide), if_neg (by decide), if_neg (by decide), if_neg (by decide), sm1, sm2, sm3]
  rfl
theorem sm_meet (a b : Int) : MeetP smPr a b ↔ (a = 1 ∧ b = 1) ∨ (a = 2 ∧ (b = 1 ∨ b = 2)) ∨ (b = 2 ∧ (a = 1 ∨ a = 2)) ∨ (a = 3 ∧ b = 3) := by
  unfold MeetP
  rw [sm0, sm_fills]
  simp [FillX.sym]
  omega
theorem sm_may : mayP smPr = true := by decide
theorem sm_wt : smPr.wt ≤ 1048576 := by decide
theorem sm_edges {l : List (Int × Int)} (h : EdgesOf smPr l) : l = [(1, 2)] := by
  refine lex_eq h.sorted (List.pairwise_singleton _ _) fun x => ?_
  obtain ⟨a, b⟩ := x
  rw [h.mem, sm_meet, List.mem_singleton, Prod.mk.injEq]
  simp only [smPr]
  omega
theorem sm_two {l : List Int} {n : Int} (h : Placed smPr 2 n l) : n = 0 := by
  have h0 := h.lo
  by_cases hn : 0 < n
  · obtain ⟨U, hU, i, hi, hUi⟩ := h.tight hn
    obtain ⟨f, hf, hc⟩ := hU i hi hUi
    have hi4 : i < 4 := hi
    have hno : ∀ j, j < 4 → f j = true → (i = 1 ∧ j = 2) ∨ (i = 2 ∧ j = 1) := fun j hj hfj => by
      obtain ⟨_, h1, h2⟩ := hf j hj hfj
      rw [sm_meet] at h2
      omega
    have hle : cntB f 4 ≤ 1 := by
      have hb : ∀ j, j < 4 → (i ≠ 1 ∨ j ≠ 2) → (i ≠ 2 ∨ j ≠ 1) → f j = false := fun j hj h1 h2 => by
        cases hfj : f j with
        | false => rfl
        | true => have := hno j hj hfj; omega
      simp only [cntB]
      have e0 := hb 0 (by omega) (by omega) (by omega)
      have e3 := hb 3 (by omega) (by omega) (by omega)
      rw [e0, e3]
      by_cases hi1 : i = 1
      · rw [hb 1 (by omega) (by omega) (by omega)]; cases f 2 <;> simp
      · rw [hb 2 (by omega) (by omega) (by omega)]; cases f 1 <;> simp
    have hc' : (2 : Int) ≤ (cntB f 4 : Int) := hc
    omega
  · omega
theorem sm_apart {l : List Int} {k n : Int} (h : Placed smPr k n l) : ∃ a b c d : Int, l = [a, b, c, d] ∧ b ≠ c := by
  have hl : l.length = 4 := h.len
  match l, hl with
  | [a, b, c, d], _ =>
    refine ⟨a, b, c, d, rfl, fun e => ?_⟩
    subst e
    exact h.apart 1 2 b rfl rfl (by omega) ((sm_meet _ _).2 (by simp))
theorem sm_one {l : List Int} {n : Int} (h : Placed smPr 1 n l) : n = 1 := by
  obtain ⟨a, b, c, d, rfl, hne⟩ := sm_apart h
  have h0 := h.lo
  have hb := h.all 1 b rfl
  have hc := h.all 2 c rfl
  by_cases h2 : n ≤ 1
  · omega
  · obtain ⟨r, hr⟩ := List.getElem?_of_mem (h.used n (by omega) (by omega))
    obtain ⟨m, hm1, hm2, hm3⟩ := h.few r n hr
    have h1 : m.length ≤ [3 - (r : Int)].length := length_le_of_sub hm1 fun y hy => by
      have := (hm2 y hy)
      rw [sm_meet] at this
      rw [List.mem_singleton]
      omega
    rw [List.length_cons, List.length_nil] at h1
    omega
end Go.Proofs.Ytlbbmcpppfiplaa.Vc
/-
  COLOUR: the fixed calls; ColouredEdges.
-/
namespace Go.Proofs.Ytlbbmcpppfiplaa.Vc
open Go

theorem plainIns {S : PH} {op : List UInt8} {to : Int} {args : List Int} {av : Value} (ha : SlR S args av) (ho : op.length ≤ maxLen) (ht : InI to) : CsR S (⟨op, to, args, .mk 0 0 [] [], 0⟩ : InsX) [txt op, .int .i64 to, av, .int .i64 0, .int .i64 0, txt [], .slice none 0 0, .int .i64 0] :=
  ins_iff.2 ⟨av, .slice none 0 0, rfl, ho, ht, ha, (by decide : InI 0), (by decide : InI 0), Nat.zero_le _, nil_slR _, (by decide : InI 0)⟩
theorem plainEnd {S : PH} {kind reg : Int} (hk : InI kind) (hr : InI reg) : CsR S (⟨kind, reg, [], 0, 0, 0⟩ : EndX) [.int .i64 kind, .int .i64 reg, .slice none 0 0, .int .i64 0, .int .i64 0, .int .i64 0] :=
  end_iff.2 ⟨.slice none 0 0, rfl, hk, hr, nil_slR _, (by decide : InI 0), (by decide : InI 0), (by decide : InI 0)⟩
set_option maxHeartbeats 1000000 in
theorem Sample_tri (H : PH) : Tri Try.prog n_scrimshawlaw18_sample #[] H fun x S' => PH.le H S' ∧ ∃ v, x = .returned (.agg (prcVs smPr v).toArray) ∧ SlR S' smPr.blocks v := by
  refine tri_scrimshawlaw18_sample [] (by kernel_rfl) (by kernel_rfl) ?_
  refine den_hLit (α := Int) (l := [(1 : Int), 2]) (b := 8) [.int .i64 1, .int .i64 2] uIntsK elemIntK rfl (by decide) (by decide) (Held.nil (PH.le_refl H)) (by kernel_rfl) (.cons (csIK_mk (by unfold InI; omega)) (.cons (csIK_mk (by unfold InI; omega)) .nil)) pendNil fun v1 K1 h1 _ _ => ?_
  obtain ⟨S1, s1, l1, k1⟩ := h1.freeze
  obtain ⟨b1, c1, rfl⟩ := s1.sl
  simp only [List.cons_append, List.nil_append]
  refine den_hLit (α := InsX) (l := [smC1, smC2, smP]) (b := 112) [.agg ([txt smC1.op, .int .i64 1, .slice none 0 0, .int .i64 0, .int .i64 0, txt [], .slice none 0 0, .int .i64 0] : List Value).toArray, .agg ([txt smC2.op, .int .i64 2, .slice none 0 0, .int .i64 0, .int .i64 0, txt [], .slice none 0 0, .int .i64 0] : List Value).toArray, .agg ([txt smP.op, .int .i64 3, .slice b1 [(1 : Int), 2].length c1, .int .i64 0, .int .i64 0, txt [], .slice none 0 0, .int .i64 0] : List Value).toArray] uInssK elemInsK rfl (by decide) (by decide) k1 (by kernel_rfl) (.cons (plainIns (nil_slR _) (by decide) (by decide)) (.cons (plainIns (nil_slR _) (by decide) (by decide)) (.cons (plainIns s1 (by decide) (by decide)) .nil))) pendNil fun v2 K2 h2 _ _ => ?_
  obtain ⟨S2, s2, l2, k2⟩ := h2.freeze
  obtain ⟨b2, c2, rfl⟩ := s2.sl
  simp only [List.cons_append, List.nil_append]
  refine den_hLit (α := BlkX) (l := [smB]) (b := 88) [.agg ([.slice b2 [smC1, smC2, smP].length c2, .int .i64 2, .int .i64 3, .slice none 0 0, .int .i64 0, .int .i64 0, .int .i64 0] : List Value).toArray] uBlksK elemBlkK rfl (by decide) (by decide) k2 (by kernel_rfl) (.cons (blk_iff.2 ⟨_, _, rfl, s2, plainEnd (by decide) (by decide)⟩) .nil) pendNil fun v3 K3 h3 _ _ => ?_
  obtain ⟨S3, s3, l3, k3⟩ := h3.freeze
  exact ⟨PH.le_trans l1 (PH.le_trans l2 (PH.le_trans l3 k3.sh)), v3, rfl, s3.le k3.sh⟩
set_option maxHeartbeats 2000000 in
theorem Fixed18_gives (H : PH) : Gives Try.prog n_scrimshawlaw18_fixed [] H (.bool true) := by
  refine tri_scrimshawlaw18_fixed [] (by kernel_rfl) (by kernel_rfl) ?_
  refine den_call cb_scrimshawlaw18_sample (Sample_tri H) ?_
  rintro x K1 ⟨l1, v1, rfl, h1⟩
  obtain ⟨b1, c1, rfl⟩ := h1.sl
  refine ⟨_, [.int .i64 0, .int .i64 0, .int .i64 4, .slice b1 smPr.blocks.length c1], rfl, rfl, rfl, pendNil, ?_⟩
  simp only [List.cons_append, List.nil_append]
  refine den_call cb_color_Edges (Edges_tri smPr _ K1 h1 sm_wt) ?_
  rintro x K2 ⟨l2, ⟨hm, _⟩ | ⟨_, l, v2, rfl, h2, he⟩⟩
  · rw [sm_may] at hm; cases hm
  have hl := sm_edges he
  subst hl
  obtain ⟨b2, c2, rfl⟩ := h2.sl
  refine ⟨_, [.slice b2 [((1 : Int), (2 : Int))].length c2, .int .i64 0], rfl, rfl, rfl, pendNil, ?_⟩
  simp only [List.cons_append, List.nil_append]
  refine den_call cb_scrimshawlaw18_sample (Sample_tri K2) ?_
  rintro x K3 ⟨l3, v3, rfl, h3⟩
  obtain ⟨b3, c3, rfl⟩ := h3.sl
  refine ⟨_, [.int .i64 0, .int .i64 0, .int .i64 4, .slice b3 smPr.blocks.length c3], rfl, rfl, rfl, pendNil, ?_⟩
  simp only [List.cons_append, List.nil_append]
  refine den_call cb_color_Color (Color_tri smPr 2 _ K3 h3 sm_wt) ?_
  rintro x K4 ⟨l4, ⟨hb, _⟩ | ⟨_, hm, _⟩ | ⟨_, _, l, v4, n, rfl, h4, hpl⟩⟩
  · omega
  · rw [sm_may] at hm; cases hm
  have hn := sm_two hpl
  obtain ⟨a, b, c, d, rfl, hne⟩ := sm_apart hpl
  subst hn
  obtain ⟨b4, c4, rfl⟩ := h4.sl
  refine ⟨_, [.slice b4 [a, b, c, d].length c4, .int .i64 0, .int .i64 0], rfl, rfl, rfl, pendNil, ?_⟩
  simp only [List.cons_append, List.nil_append]
  refine den_call cb_scrimshawlaw18_sample (Sample_tri K4) ?_
  rintro x K5 ⟨l5, v5, rfl, h5⟩
  obtain ⟨b5, c5, rfl⟩ := h5.sl
  refine ⟨_, [.int .i64 0, .int .i64 0, .int .i64 4, .slice b5 smPr.blocks.length c5], rfl, rfl, rfl, pendNil, ?_⟩
  simp only [List.cons_append, List.nil_append]
  refine den_call cb_color_Color (Color_tri smPr 1 _ K5 h5 sm_wt) ?_
  rintro x K6 ⟨l6, ⟨hb, _⟩ | ⟨_, hm, _⟩ | ⟨_, _, l, v6, n, rfl, h6, hpl6⟩⟩
  · omega
  · rw [sm_may] at hm; cases hm
  have hn := sm_one hpl6
  subst hn
  obtain ⟨b6, c6, rfl⟩ := h6.sl
  refine ⟨_, [.slice b6 l.length c6, .int .i64 1, .int .i64 0], rfl, rfl, rfl, pendNil, ?_⟩
  simp only [List.cons_append, List.nil_append]
  refine den_call cb_scrimshawlaw18_sample (Sample_tri K6) ?_
  rintro x K7 ⟨l7, v7, rfl, h7⟩
  obtain ⟨b7, c7, rfl⟩ := h7.sl
  refine ⟨_, [.int .i64 0, .int .i64 0, .int .i64 4, .slice b7 smPr.blocks.length c7], rfl, rfl, rfl, pendNil, ?_⟩
  simp only [List.cons_append, List.nil_append]
  refine den_call cb_color_Color (Color_tri smPr 0 _ K7 h7 sm_wt) ?_
  rintro x K8 ⟨l8, ⟨_, rfl⟩ | ⟨hb, _⟩ | ⟨hb, _⟩⟩
  rotate_left
  · omega
  · omega
  refine ⟨_, [.slice none 0 0, .int .i64 0, .int .i64 1], rfl, rfl, rfl, pendNil, ?_⟩
  simp only [List.cons_append, List.nil_append]
  have l48 : PH.le K4 K8 := PH.le_trans l5 (PH.le_trans l6 (PH.le_trans l7 l8))
  have l28 : PH.le K2 K8 := PH.le_trans l3 (PH.le_trans l4 l48)
  have l08 : PH.le H K8 := PH.le_trans l1 (PH.le_trans l2 l28)
  obtain ⟨p1, _, pcs, p2, p3⟩ := (h2.le l28).get (i := 0) (a := ((1 : Int), (2 : Int))) rfl
  obtain ⟨rfl, _⟩ := pair_iff.1 p2
  obtain ⟨q1, _, qcs, q2, q3⟩ := (h4.le l48).get (i := 1) (a := b) rfl
  obtain ⟨rfl, _⟩ := csIK q2
  obtain ⟨r1, _, rcs, r2, r3⟩ := (h4.le l48).get (i := 2) (a := c) rfl
  obtain ⟨rfl, _⟩ := csIK r2
  refine ⟨fun vs K => vs = [.bool true] ∧ PH.le H K, ?_, fun _ => ?_, fun g => ?_, fun g => ?_⟩
  · rintro vs K _ ⟨rfl, h⟩
    exact ⟨rfl, h⟩
  · simp only [Chk.holds, ev0, ev, evV, List.cons_append, List.nil_append, List.getD_cons_zero, List.getD_cons_succ, List.map_cons, List.map_nil, iOf, bOf, sOf, pOf, slLen, slBase, cmpI, arI, Value.ite_bool, int_beq, int_bne, ite_band, ite_bor]; exact ⟨p1, by simp, by simp⟩
  rotate_left
  · simp [ev0, ev, evV, List.cons_append, List.nil_append, List.getD_cons_zero, List.getD_cons_succ, List.map_cons, List.map_nil, iOf, bOf, sOf, pOf, slLen, slBase, cmpI, arI, Value.ite_bool, int_beq, int_bne, ite_band, ite_bor] at g
  refine ⟨[.int .i64 1, .int .i64 2], rfl, ?_, ?_⟩
  · simp only [ev0, ev, evV, List.cons_append, List.nil_append, List.getD_cons_zero, List.getD_cons_succ, List.map_cons, List.map_nil, iOf, bOf, sOf, pOf, slLen, slBase, cmpI, arI, Value.ite_bool, int_beq, int_bne, ite_band, ite_bor]; exact p3
  simp only [List.cons_append, List.nil_append]
  refine den_eqlPair (x1 := 1) (x2 := 2) (y1 := 1) (y2 := 2) uPair szIntK uIntK gPair (by kernel_rfl) (by kernel_rfl) ?_
  simp only [List.cons_append, List.nil_append]
  refine ⟨fun _ => ?_, fun _ => ?_, fun g => ?_, fun g => ?_⟩
  · simp only [Chk.holds, ev0, ev, evV, List.cons_append, List.nil_append, List.getD_cons_zero, List.getD_cons_succ, List.map_cons, List.map_nil, iOf, bOf, sOf, pOf, slLen, slBase, cmpI, arI, Value.ite_bool, int_beq, int_bne, ite_band, ite_bor]; exact ⟨q1, by simp, by simp⟩
  · simp only [Chk.holds, ev0, ev, evV, List.cons_append, List.nil_append, List.getD_cons_zero, List.getD_cons_succ, List.map_cons, List.map_nil, iOf, bOf, sOf, pOf, slLen, slBase, cmpI, arI, Value.ite_bool, int_beq, int_bne, ite_band, ite_bor]; exact ⟨r1, by simp, by simp⟩
  · refine ⟨[.int .i64 b], rfl, ?_, [.int .i64 c], rfl, ?_, _, lookup_hit, ?_, l08⟩
    · simp only [ev0, ev, evV, List.cons_append, List.nil_append, List.getD_cons_zero, List.getD_cons_succ, List.map_cons, List.map_nil, iOf, bOf, sOf, pOf, slLen, slBase, cmpI, arI, Value.ite_bool, int_beq, int_bne, ite_band, ite_bor]; exact q3
    · simp only [ev0, ev, evV, List.cons_append, List.nil_append, List.getD_cons_zero, List.getD_cons_succ, List.map_cons, List.map_nil, iOf, bOf, sOf, pOf, slLen, slBase, cmpI, arI, Value.ite_bool, int_beq, int_bne, ite_band, ite_bor]; exact r3
    · simp [ev0, ev, evV, List.cons_append, List.nil_append, List.getD_cons_zero, List.getD_cons_succ, List.map_cons, List.map_nil, iOf, bOf, sOf, pOf, slLen, slBase, cmpI, arI, Value.ite_bool, int_beq, int_bne, ite_band, ite_bor, hne]
  · simp [ev0, ev, evV, List.cons_append, List.nil_append, List.getD_cons_zero, List.getD_cons_succ, List.map_cons, List.map_nil, iOf, bOf, sOf, pOf, slLen, slBase, cmpI, arI, Value.ite_bool, int_beq, int_bne, ite_band, ite_bor] at g
end Go.Proofs.Ytlbbmcpppfiplaa.Vc
/-
  COLOUR: the function of ColouredMany: who meets.
-/
namespace Go.Proofs.Ytlbbmcpppfiplaa.Vc
open Go

def voidB : List UInt8 := [118, 111, 105, 100]
def eqB : List UInt8 := [101, 113, 63]
def mVoid (i : Nat) : InsX := ⟨voidB, (i : Int), [], .mk 0 0 [] [], 0⟩
def mMove (n : Nat) : InsX := ⟨moveB, (n : Int), [0], .mk 0 0 [] [], 0⟩
def mEq (n j : Nat) : InsX := ⟨eqB, (n : Int), [(n : Int), (j : Int)], .mk 0 0 [] [], 0⟩
def mVoids (n : Nat) : List InsX := (List.range n).map mVoid
def mEqs (n m : Nat) : List InsX := (List.range m).map fun t => mEq n (t + 1)
def mIns (n : Nat) : List InsX := mVoids n ++ ([mMove n] ++ mEqs n (n - 1))
def mBlk (n : Nat) (l : List InsX) : BlkX := ⟨l, ⟨2, (n : Int), [], 0, 0, 0⟩⟩
def mPr (n : Nat) : PrcX := ⟨0, 0, (n : Int) + 1, [mBlk n (mIns n)]⟩
theorem mPr_wt {n : Nat} (h : n ≤ 40) : (mPr n).wt ≤ 1048576 := by
  have key : ((List.range 41).all fun n => decide ((mPr n).wt ≤ 1048576)) = true := by decide +kernel
  exact of_decide_eq_true (List.all_eq_true.1 key n (List.mem_range.2 (by omega)))
theorem mPr_may {n : Nat} (h1 : 1 ≤ n) (h : n ≤ 40) : mayP (mPr n) = true := by
  have key : ((List.range 41).all fun n => decide (n = 0) || mayP (mPr n)) = true := by decide +kernel
  have := List.all_eq_true.1 key n (List.mem_range.2 (by omega))
  simp only [Bool.or_eq_true, decide_eq_true_eq] at this
  exact this.resolve_left (by omega)
theorem m_live {n : Nat} (x : Int) (k : Nat) : LiveAt (mPr n) x 0 k ↔ thru x ((mIns n).drop k) (x = (n : Int)) := by
  rw [live_one (b := mBlk n (mIns n)) rfl rfl]
  have h : ((mBlk n (mIns n)).e.reads x = true) ↔ x = (n : Int) := by
    show decide ((n : Int) = x) = true ↔ x = (n : Int)
    exact ⟨fun h => (of_decide_eq_true h).symm, fun h => decide_eq_true h.symm⟩
  exact ⟨thru_mono h.1, thru_mono h.2⟩
theorem thru_reach {r : Int} {q : Prop} {x : InsX} {B : List InsX} (hx : r ∈ x.args) : ∀ {A : List InsX}, (∀ y ∈ A, ¬ y.fills r) → thru r (A ++ x :: B) q
  | [], _ => .inl hx
  | a :: A, h => .inr ⟨h a (List.mem_cons_self ..), thru_reach hx fun y hy => h y (List.mem_cons_of_mem _ hy)⟩
theorem thru_stop {r : Int} {q : Prop} {x : InsX} {B : List InsX} (hx : r ∉ x.args) (hf : x.fills r) : ∀ {A : List InsX}, (∀ y ∈ A, r ∉ y.args) → ¬ thru r (A ++ x :: B) q
  | [], _, h => h.elim hx fun h => h.1 hf
  | a :: A, hA, h => h.elim (hA a (List.mem_cons_self ..)) fun h => thru_stop hx hf (fun y hy => hA y (List.mem_cons_of_mem _ hy)) h.2
theorem mem_fills {n : Nat} {f : FillX} (h : f ∈ fillsL (mPr n)) : ∃ (j : Nat) (x : InsX), (mIns n)[j]? = some x ∧ f = ⟨x.to, -1, if x.op = moveB then lessL (liveL (mPr n) 0 (j + 1)) x.args else liveL (mPr n) 0 (j + 1)⟩ := by
  rw [fills_one (b := mBlk n (mIns n)) rfl rfl] at h
  obtain ⟨j, _, h⟩ := List.mem_flatMap.1 h
  cases hx : (mBlk n (mIns n)).ins[j]? with
  | none => rw [hx] at h; cases h
  | some x =>
    rw [hx] at h
    simp only [insFill] at h
    split at h
    · cases h
    · exact ⟨j, x, hx, List.mem_singleton.1 h⟩
theorem fills_mem {n j : Nat} {x : InsX} (hx : (mIns n)[j]? = some x) (ht : x.op ≠ tieB) : (⟨x.to, -1, if x.op = moveB then lessL (liveL (mPr n) 0 (j + 1)) x.args else liveL (mPr n) 0 (j + 1)⟩ : FillX) ∈ fillsL (mPr n) := by
  rw [fills_one (b := mBlk n (mIns n)) rfl rfl]
  refine List.mem_flatMap.2 ⟨j, List.mem_range.2 (List.getElem?_eq_some_iff.1 hx).1, ?_⟩
  rw [show (mBlk n (mIns n)).ins[j]? = some x from hx]
  simp only [insFill]
  rw [if_neg ht]
  exact List.mem_singleton.2 rfl
theorem mVoids_len (n : Nat) : (mVoids n).length = n := by simp [mVoids]
theorem mEqs_len (n m : Nat) : (mEqs n m).length = m := by simp [mEqs]
theorem mIns_void {n j : Nat} (h : j < n) : (mIns n)[j]? = some (mVoid j) := by
  unfold mIns
  rw [List.getElem?_append_left (by rw [mVoids_len]; exact h)]
  simp [mVoids, h]
theorem mIns_move (n : Nat) : (mIns n)[n]? = some (mMove n) := by
  unfold mIns
  rw [List.getElem?_append_right (by rw [mVoids_len]; exact Nat.le_refl _), mVoids_len, Nat.sub_self]; rfl
theorem mIns_eq {n j : Nat} (h : n < j) {x : InsX} (hx : (mIns n)[j]? = some x) : ∃ t, 1 ≤ t ∧ t < n ∧ j = n + t ∧ x = mEq n t := by
  unfold mIns at hx
  rw [List.getElem?_append_right (by rw [mVoids_len]; omega), mVoids_len, List.getElem?_append_right (by simp; omega)] at hx
  simp only [List.length_cons, List.length_nil, mEqs, List.getElem?_map] at hx
  obtain ⟨t, ht, rfl⟩ := Option.map_eq_some_iff.1 hx
  obtain ⟨h1, h2⟩ := List.getElem?_eq_some_iff.1 ht
  rw [List.length_range] at h1
  rw [List.getElem_range] at h2
  exact ⟨t + 1, by omega, by omega, by omega, rfl⟩
theorem voids_drop {n k : Nat} : ∀ y ∈ (mVoids n).drop k, ∃ t : Nat, k ≤ t ∧ t < n ∧ y = mVoid t := by
  intro y hy
  obtain ⟨a, ha⟩ := List.getElem?_of_mem hy
  rw [List.getElem?_drop] at ha
  simp only [mVoids, List.getElem?_map] at ha
  obtain ⟨t, ht, rfl⟩ := Option.map_eq_some_iff.1 ha
  obtain ⟨h1, h2⟩ := List.getElem?_eq_some_iff.1 ht
  rw [List.length_range] at h1
  rw [List.getElem_range] at h2
  exact ⟨t, by omega, by omega, rfl⟩
theorem eqs_mem {n m : Nat} : ∀ y ∈ mEqs n m, ∃ t : Nat, 1 ≤ t ∧ t ≤ m ∧ y = mEq n t := by
  intro y hy
  obtain ⟨t, ht, rfl⟩ := List.mem_map.1 hy
  have := List.mem_range.1 ht
  exact ⟨t + 1, by omega, by omega, rfl⟩
theorem drop_void {n k : Nat} (h : k ≤ n) : (mIns n).drop k = (mVoids n).drop k ++ ([mMove n] ++ mEqs n (n - 1)) := by
  unfold mIns
  rw [List.drop_append_of_le_length (by rw [mVoids_len]; exact h)]
/-- all of the first meet each other -/
theorem m_meet {n i j : Nat} (hij : i < j) (hj : j < n) : MeetP (mPr n) (j : Int) (i : Int) := by
  have hlive : (i : Int) ∈ liveL (mPr n) 0 (j + 1) := by
    rw [liveL_mem, m_live, drop_void (by omega)]
    by_cases hi : i = 0
    · subst hi
      refine thru_reach (x := mMove n) (B := mEqs n (n - 1)) (by simp [mMove]) fun y hy => ?_
      obtain ⟨t, h1, _, rfl⟩ := voids_drop y hy
      rintro ⟨_, h2⟩
      simp only [mVoid] at h2
      omega
    · have hspl : mEqs n (n - 1) = (mEqs n (n - 1)).take (i - 1) ++ mEq n i :: (mEqs n (n - 1)).drop i := by
        have hg : (mEqs n (n - 1))[i - 1]? = some (mEq n i) := by
          simp only [mEqs, List.getElem?_map]
          rw [List.getElem?_range (by omega)]
          simp only [Option.map_some]
          rw [show i - 1 + 1 = i by omega]
        have hlt : i - 1 < (mEqs n (n - 1)).length := (List.getElem?_eq_some_iff.1 hg).1
        have h2 := (List.getElem?_eq_some_iff.1 hg).2
        have h3 := List.drop_eq_getElem_cons hlt
        rw [h2, show i - 1 + 1 = i by omega] at h3
        rw [← h3, List.take_append_drop]
      rw [hspl, ← List.append_assoc, ← List.append_assoc]
      refine thru_reach (x := mEq n i) (by simp [mEq]) fun y hy => ?_
      rintro ⟨_, h2⟩
      rcases List.mem_append.1 hy with hy | hy
      · rcases List.mem_append.1 hy with hy | hy
        · obtain ⟨t, h1, _, rfl⟩ := voids_drop y hy
          simp only [mVoid] at h2
          omega
        · rw [List.mem_singleton.1 hy] at h2
          simp only [mMove] at h2
          omega
      · obtain ⟨t, _, _, rfl⟩ := eqs_mem y (List.mem_of_mem_take hy)
        simp only [mEq] at h2
        omega
  refine .inr ⟨_, fills_mem (mIns_void hj) (by simp [mVoid, voidB, tieB]), .inl ⟨rfl, ?_⟩⟩
  rw [if_neg (by simp [mVoid, voidB, moveB])]
  exact hlive
/-- the first and the last do not meet -/
theorem m_apart {n : Nat} (hn : 1 ≤ n) : ¬ MeetP (mPr n) 0 (n : Int) := by
  have hz : (0 : Int) ∉ liveL (mPr n) 0 0 := fun h => by
    rw [liveL_mem, m_live] at h
    have hs : (mIns n).drop 0 = [] ++ mVoid 0 :: (mIns n).drop 1 := by
      have h0 := mIns_void (n := n) (j := 0) (by omega)
      have hlt := (List.getElem?_eq_some_iff.1 h0).1
      have h2 := (List.getElem?_eq_some_iff.1 h0).2
      rw [List.drop_eq_getElem_cons hlt, h2]; rfl
    rw [hs] at h
    exact thru_stop (by simp [mVoid]) ⟨by simp [mVoid, voidB, tieB], by simp [mVoid]⟩ (fun y hy => by cases hy) h
  have hlast : (n : Int) ∉ liveL (mPr n) 0 1 := fun h => by
    rw [liveL_mem, m_live, drop_void hn] at h
    refine thru_stop (x := mMove n) (B := mEqs n (n - 1)) (by simp only [mMove, List.mem_singleton]; omega) ⟨by simp [mMove, moveB, tieB], rfl⟩ (fun y hy => ?_) h
    obtain ⟨t, _, _, rfl⟩ := voids_drop y hy
    simp [mVoid]
  have hend : ∀ l : List InsX, (∀ y ∈ l, ∃ t : Nat, 1 ≤ t ∧ y = mEq n t) → ¬ thru 0 l ((0 : Int) = (n : Int)) := fun l hl h => by
    rcases thru_read h with h | h
    · obtain ⟨y, hy, h0⟩ := List.mem_flatMap.1 h
      obtain ⟨t, ht, rfl⟩ := hl y hy
      simp only [mEq, List.mem_cons, List.not_mem_nil, or_false] at h0
      omega
    · omega
  have hafter : ∀ j, n < j → (0 : Int) ∉ liveL (mPr n) 0 j := fun j hj h => by
    rw [liveL_mem, m_live] at h
    refine hend _ (fun y hy => ?_) h
    obtain ⟨a, ha⟩ := List.getElem?_of_mem hy
    rw [List.getElem?_drop] at ha
    obtain ⟨t, h1, _, _, h2⟩ := mIns_eq (by omega) ha
    exact ⟨t, h1, h2⟩
  rintro (⟨h, _⟩ | ⟨f, hf, hs⟩)
  · exact hz h
  · obtain ⟨j, x, hx, rfl⟩ := mem_fills hf
    have hjl := (List.getElem?_eq_some_iff.1 hx).1
    rcases Nat.lt_trichotomy j n with hj | hj | hj
    · rw [mIns_void hj] at hx
      cases hx
      rw [if_neg (by simp [mVoid, voidB, moveB])] at hs
      rcases hs with ⟨h1, h2⟩ | ⟨h1, h2⟩
      · simp only [mVoid] at h1
        have : j = 0 := by omega
        subst this
        exact hlast h2
      · simp only [mVoid] at h1
        omega
    · subst hj
      rw [mIns_move] at hx
      cases hx
      rcases hs with ⟨h1, h2⟩ | ⟨h1, h2⟩
      · simp only [mMove] at h1
        omega
      · rw [if_pos (show (mMove j).op = moveB from rfl)] at h2
        have h3 := (List.mem_filter.1 h2).2
        simp [mMove] at h3
    · obtain ⟨t, h1, _, _, rfl⟩ := mIns_eq hj hx
      rw [if_neg (by simp [mEq, eqB, moveB])] at hs
      rcases hs with ⟨h1, h2⟩ | ⟨h1, h2⟩
      · simp only [mEq] at h1
        omega
      · exact hafter _ (by omega) h2
/-- how many slots there are -/
theorem m_slots {n : Nat} (hn : 1 ≤ n) (h40 : n ≤ 40) {k s : Int} {l : List Int} (h : Placed (mPr n) k s l) : (n : Int) - k ≤ s ∧ ((n : Int) ≤ k → s = 0) := by
  have hreg : (mPr n).regs.toNat = n + 1 := by show ((n : Int) + 1).toNat = n + 1; omega
  have hll : l.length = n + 1 := by rw [h.len, hreg]
  have h0 := h.lo
  have hmay := mPr_may hn h40
  constructor
  · have hget : ∀ i, i < n → l[i]? = some (plAt l (i : Int)) := fun i hi => plAt_some (by omega)
    have h1 : ((List.range n).map fun i : Nat => plAt l (i : Int)).length ≤ ((List.range (k + s).toNat).map Int.ofNat).length := length_le_of_sub (by
      rw [List.Nodup, List.pairwise_map]
      refine List.Pairwise.imp_of_mem ?_ (List.nodup_range (n := n))
      intro a b ha hb hne he
      have ha' := List.mem_range.1 ha
      have hb' := List.mem_range.1 hb
      have hba : l[b]? = some (plAt l (a : Int)) := by rw [hget b hb', ← he]
      rcases Nat.lt_or_gt_of_ne hne with hlt | hlt
      · exact h.apart b a _ hba (hget a ha') (by omega) (m_meet hlt hb')
      · exact h.apart a b _ (hget a ha') hba (by omega) (m_meet hlt ha')) fun y hy => by
        obtain ⟨i, hi, rfl⟩ := List.mem_map.1 hy
        have := h.all i _ (hget i (List.mem_range.1 hi))
        exact List.mem_map.2 ⟨(plAt l (i : Int)).toNat, List.mem_range.2 (by omega), show (((plAt l (i : Int)).toNat : Nat) : Int) = plAt l (i : Int) by omega⟩
    rw [List.length_map, List.length_map, List.length_range, List.length_range] at h1
    omega
  · intro hnk
    refine Classical.byContradiction fun hne => ?_
    obtain ⟨U, hU, i, hi, hUi⟩ := h.tight (by omega)
    rw [hreg] at hU hi
    have hnb : ∀ i, i < n + 1 → U i = true → ∃ f : Nat → Bool, (∀ j, j < n + 1 → f j = true → U j = true ∧ j ≠ i ∧ MeetP (mPr n) (i : Int) (j : Int)) ∧ k ≤ (cntB f (n + 1) : Int) := hU
    have few : ∀ (f : Nat → Bool) (a b : Nat), a < n + 1 → b < n + 1 → a ≠ b → f a = false → f b = false → cntB f (n + 1) < n := fun f a b ha hb hab h1 h2 => by
      have e1 : cntB (fun j => decide (j ≠ a)) (n + 1) + 1 = cntB (fun _ => true) (n + 1) := (cntB_drop (f := fun _ => true) (g := fun j => decide (j ≠ a)) rfl (by simp) (n + 1) ha fun j _ hj => by simp [hj]).symm
      have e2 : cntB (fun j => decide (j ≠ a) && decide (j ≠ b)) (n + 1) + 1 = cntB (fun j => decide (j ≠ a)) (n + 1) := (cntB_drop (f := fun j => decide (j ≠ a)) (g := fun j => decide (j ≠ a) && decide (j ≠ b)) (i := b) (by simp; omega) (by simp) (n + 1) hb fun j _ hj => by simp [hj]).symm
      have e3 := cntB_le (fun _ => true) (n + 1)
      have e4 : cntB f (n + 1) ≤ cntB (fun j => decide (j ≠ a) && decide (j ≠ b)) (n + 1) := cntB_mono (n + 1) fun j _ hj => by
        have : j ≠ a := fun e => by rw [e, h1] at hj; cases hj
        have : j ≠ b := fun e => by rw [e, h2] at hj; cases hj
        simp [*]
      omega
    have h00 : U 0 = false := by
      cases hU0 : U 0 with
      | false => rfl
      | true =>
        obtain ⟨f, hf, hc⟩ := hnb 0 (by omega) hU0
        have f0 : f 0 = false := by
          cases hf0 : f 0 with
          | false => rfl
          | true => exact absurd rfl (hf 0 (by omega) hf0).2.1
        have fn : f n = false := by
          cases hfn : f n with
          | false => rfl
          | true => exact absurd (hf n (by omega) hfn).2.2 (m_apart hn)
        have := few f 0 n (by omega) (by omega) (by omega) f0 fn
        omega
    obtain ⟨f, hf, hc⟩ := hnb i hi hUi
    have hi0 : i ≠ 0 := fun e => by rw [e, h00] at hUi; cases hUi
    have f0 : f 0 = false := by
      cases hf0 : f 0 with
      | false => rfl
      | true => have := (hf 0 (by omega) hf0).1; rw [h00] at this; cases this
    have fi : f i = false := by
      cases hfi : f i with
      | false => rfl
      | true => exact absurd rfl (hf i hi hfi).2.1
    have := few f 0 i (by omega) hi (fun e => hi0 e.symm) f0 fi
    omega
end Go.Proofs.Ytlbbmcpppfiplaa.Vc
/-
  COLOUR: ColouredMany.
-/
namespace Go.Proofs.Ytlbbmcpppfiplaa.Vc
open Go

theorem Held.turn {S H : PH} {I : List Itm} {a b : Itm} (h : Held S H (a :: I)) (hat : b.At S H) (hob : ∀ g, b.ob = some g → a.ob = some g) : Held S H (b :: I) :=
  ⟨h.sh, fun i hi => (List.mem_cons.1 hi).elim (fun e => e ▸ hat) fun hi => h.at_ i (List.mem_cons_of_mem _ hi),
    fun i hi g hg => (List.mem_cons.1 hi).elim (fun e => h.off a (List.mem_cons_self ..) g (hob g (e ▸ hg))) fun hi => h.off i (List.mem_cons_of_mem _ hi) g hg,
    List.pairwise_cons.2 ⟨fun c hc g hg => (List.pairwise_cons.1 h.nd).1 c hc g (hob g hg), (List.pairwise_cons.1 h.nd).2⟩⟩
/-- a block of one thing is a row -/
theorem Held.bxRow {α : Type} [Enc α] {S H : PH} {I : List Itm} {e : TypeId} {r : Nat} {cs : List Value} {a : α} (h : Held S H (bx r e cs :: I)) (hc : CsR S a cs) : Held S H (orow e [a] (.slice (some ⟨r, 0, none⟩) 1 1) :: I) := by
  have hrep : PV.RepRow S (List.flatMap pv [a]) cs := by
    have : PV.RepRow S (pv a) cs := hc
    simpa using this
  have hl : cs.length = 1 * sz α := by have := hrep.length; rw [pvs_length] at this; exact this
  refine h.turn ⟨cs, ⟨hl, .inr ⟨r, 1, cs.toArray, rfl, h.blk (List.mem_cons_self ..), Nat.le_refl _, by simp [maxLen], by simpa using hl, ?_⟩⟩, ?_⟩ fun g hg => ?_
  · rw [List.toList_toArray]
    exact List.take_of_length_le (by rw [hl]; exact Nat.le_refl _)
  · simpa using hrep
  · simp only [Itm.ob, ob, Option.some.injEq] at hg ⊢
    exact hg
section
variable {P : Program} {X : List PanicEntry → PH → Prop} {β : Type} {E : List Value} {L : LK} {K : β → List Value → PH → LK → Prop} {S H : PH} {I : List Itm} {α : Type} [Enc α] {l : List α} {e : TypeId}
/-- a row laid, its cells known -/
theorem den_litBx {T ty : TypeId} {n b : Nat} {ps : Array (Nat × Operand)} {args : List (Nat × VE)} {k : Fm β} (vs : List Value)
    (hT : P.underlying T = some (.slice e)) (he : ElemOk P e (sz α) b = true) (hn : l.length = n) (h0 : n * sz α ≠ 0) (hle : n * sz α ≤ 2 ^ 24) (h : Held S H I)
    (hps : ps.toList.map (fun x => (x.1, argEv E args x.2)) = idxs 0 vs) (hvs : All2 (fun a v => CsR S a v.cells.toList) l vs)
    (hk : ∀ r H', Held S H' (bx r e (vs.flatMap fun v => v.cells.toList) :: I) → PH.le H H' → den P X k (E ++ [.slice (some ⟨r, 0, Option.none⟩) n n]) H' L K) : den P X (.sem (.buildSlice T n ps) ty args (.sc .sl) [] k) E H L K := by
  obtain ⟨i, z, hi, i1, i2, i3, i4⟩ := ElemOk.info he
  obtain ⟨hr, hsz, hlen⟩ := rows_of hvs
  show wpS P (execOp (argEv E args) (bare (.buildSlice T n ps) ty)) _ _ H
  rw [exec_buildSlice]
  have hcs : (vs.flatMap fun v => v.cells.toList).length = n * sz α := by
    rw [hr.length, pvs_length, hn]
  have hcells : ((Array.range (n * i.size)).map (z.cells[· % z.cells.size]!)).size = (vs.flatMap fun v => v.cells.toList).length := by simp [hcs, i1]
  refine wpS_buildSlice hT hi i3 (by rw [i1]; exact h0) (by rw [i1]; exact hle) (cells := (vs.flatMap fun v => v.cells.toList).toArray) ?_ fun r hr' => ?_
  · have hpl : (ps.map fun (i, x) => (i, argEv E args x)).toList = idxs 0 vs := by rw [← hps]; simp
    rw [hpl, i1, fill_rows vs 0 _ hsz (by simp [i1] at hcells ⊢; rw [hlen, hn]; omega)]
    congr 1
    rw [Nat.zero_mul]
    refine splice_all ?_
    rw [i1] at hcells; exact hcells
  · exact ⟨[_], rfl, rfl, pendNil, hk r _ (h.new hr' _) (PH.le_upd hr')⟩
end
theorem mVoids_succ (i : Nat) : mVoids (i + 1) = mVoids i ++ [mVoid i] := by simp [mVoids, List.range_succ]
theorem mEqs_succ (n i : Nat) : mEqs n (i + 1) = mEqs n i ++ [mEq n (i + 1)] := by simp [mEqs, List.range_succ]
abbrev mCs (iv : Value) (n : Nat) : List Value := [iv, .int .i64 2, .int .i64 (n : Int), .slice none 0 0, .int .i64 0, .int .i64 0, .int .i64 0]
set_option maxHeartbeats 4000000 in
theorem ColouredMany_law (n0 k : Int) (H : PH) : Gives Try.prog n_scrimshawlaw18_ColouredMany [.int .i64 n0, .int .i64 k] H (.bool true) := by
  refine tri_scrimshawlaw18_ColouredMany [.int .i64 n0, .int .i64 k] (by kernel_rfl) (by kernel_rfl) ?_
  refine den_gives [.bool true] cb_scrimshawlaw18_fixed (Fixed18_gives H) rfl pendNil fun K1 l1 => ⟨fun g => ?_, fun g => ?_⟩
  · exact den_gives [.bool true] cb_scrimshawlaw18_fixed (Fixed18_gives K1) rfl pendNil fun K2 l2 => ⟨rfl, PH.le_trans l1 l2⟩
  have hg : (1 ≤ n0 ∧ n0 ≤ 40) ∧ 1 ≤ k ∧ k ≤ 24 := by
    simp [ev0, ev, evV, List.cons_append, List.nil_append, List.getD_cons_zero, List.getD_cons_succ, List.map_cons, List.map_nil, iOf, bOf, sOf, pOf, slLen, slBase, cmpI, arI, Value.ite_bool, int_beq, int_bne, ite_band, ite_bor] at g
    omega
  obtain ⟨⟨hn1, hn2⟩, hk⟩ := hg
  obtain ⟨n, rfl⟩ : ∃ n : Nat, n0 = (n : Int) := ⟨n0.toNat, by omega⟩
  have hn1' : 1 ≤ n := by omega
  have hn2' : n ≤ 40 := by omega
  simp only [List.cons_append, List.nil_append]
  refine den_litBx (α := BlkX) (l := [mBlk n []]) (b := 88) [.agg (mCs (.slice none 0 0) n).toArray] uBlksK elemBlkK rfl (by decide) (by decide) (Held.nil (PH.le_refl K1)) (by kernel_rfl) (.cons (blk_iff.2 ⟨_, _, rfl, nil_slR _, plainEnd (by decide) (show InI (n : Int) by unfold InI; omega)⟩) .nil) fun r K2 h2 _ => ?_
  have h2 : Held K1 K2 [bx r 38 (mCs (.slice none 0 0) n)] := h2
  have h2 := h2.empty (α := InsX) 43
  simp only [List.cons_append, List.nil_append]
  refine ⟨fun m vs K => ∃ (i : Nat) (iv : Value) (S' : PH), vs = [nI i] ∧ i + m = n ∧ PH.le K1 S' ∧ Held S' K [orow 43 (mVoids i) iv, bx r 38 (mCs iv n)],
    ⟨n, 0, _, K1, rfl, by omega, PH.le_refl _, h2⟩, ?_⟩
  rintro m vs K3 _ ⟨i, iv, S3, rfl, him, l3, h3⟩
  obtain ⟨ib, ic, rfl⟩ := (h3.row (List.mem_cons_self ..)).sl
  simp only [List.cons_append, List.nil_append]
  have hil : (mVoids i).length = i := mVoids_len i
  refine ⟨fun g => ?_, fun g => ?_⟩
  · simp only [ev0, ev, evV, List.cons_append, List.nil_append, List.getD_cons_zero, List.getD_cons_succ, List.map_cons, List.map_nil, iOf, bOf, sOf, pOf, slLen, slBase, cmpI, arI, Value.ite_bool, int_beq, int_bne, ite_band, ite_bor, decide_eq_true_eq] at g
    refine ⟨fun _ => ?_, ?_⟩
    · simp [Chk.holds, ev0, ev, evV, List.cons_append, List.nil_append, List.getD_cons_zero, List.getD_cons_succ, List.map_cons, List.map_nil, iOf, bOf, sOf, pOf, slLen, slBase, cmpI, arI, Value.ite_bool, int_beq, int_bne, ite_band, ite_bor]
    refine den_bxLoad (off := 0) [.slice ib (mVoids i).length ic] rfl h3 (List.mem_cons_of_mem _ (List.mem_cons_self ..)) rfl rfl ?_
    simp only [List.cons_append, List.nil_append]
    refine den_hPush (more := [mVoid i]) (b := 112) [.agg ([txt voidB, .int .i64 (i : Int), .slice none 0 0, .int .i64 0, .int .i64 0, txt [], .slice none 0 0, .int .i64 0] : List Value).toArray] uInssK elemInsK rfl (by decide) (by decide) h3 (by kernel_rfl) (.cons (plainIns (nil_slR _) (by decide) (show InI (i : Int) by unfold InI; omega)) .nil)
      (fun x hx => by rw [List.mem_singleton.1 hx]; exact bx_row h3 (List.mem_cons_of_mem _ (List.mem_cons_self ..)) 0 1) (fun _ => by kernel_rfl) (fun _ => by kernel_rfl)
      (by simp only [maxLen, List.length_cons, List.length_nil]; omega) (by simp only [List.length_cons, List.length_nil]; omega) fun u v' S7 K7 l7 h7 => ⟨pendNil, ?_⟩
    obtain ⟨vb, vc, rfl⟩ := (h7.row (List.mem_cons_self ..)).sl
    simp only [List.cons_append, List.nil_append]
    refine den_bxStore (off := 0) (vs := [.slice vb (mVoids i ++ [mVoid i]).length vc]) rfl (h7.perm (List.Perm.swap _ _ _)) rfl (by simp [oneC]) (by simp) fun K8 h8 => ?_
    refine ⟨_, lookup_hit, m - 1, by omega, i + 1, .slice vb (mVoids i ++ [mVoid i]).length vc, S7, ?_, by omega, PH.le_trans l3 l7, ?_⟩
    · simp only [ev0, ev, evV, List.cons_append, List.nil_append, List.getD_cons_zero, List.getD_cons_succ, List.map_cons, List.map_nil, iOf, bOf, sOf, pOf, slLen, slBase, cmpI, arI, Value.ite_bool, int_beq, int_bne, ite_band, ite_bor]; rw [w64 (by omega) (by omega)]; rfl
    · rw [mVoids_succ]
      exact h8.perm (List.Perm.swap _ _ _)
  simp only [ev0, ev, evV, List.cons_append, List.nil_append, List.getD_cons_zero, List.getD_cons_succ, List.map_cons, List.map_nil, iOf, bOf, sOf, pOf, slLen, slBase, cmpI, arI, Value.ite_bool, int_beq, int_bne, ite_band, ite_bor, decide_eq_false_iff_not] at g
  have hin : i = n := by omega
  subst hin
  refine ⟨fun _ => ?_, ?_⟩
  · simp [Chk.holds, ev0, ev, evV, List.cons_append, List.nil_append, List.getD_cons_zero, List.getD_cons_succ, List.map_cons, List.map_nil, iOf, bOf, sOf, pOf, slLen, slBase, cmpI, arI, Value.ite_bool, int_beq, int_bne, ite_band, ite_bor]
  refine den_bxLoad (off := 0) [.slice ib (mVoids i).length ic] rfl h3 (List.mem_cons_of_mem _ (List.mem_cons_self ..)) rfl rfl ?_
  simp only [List.cons_append, List.nil_append]
  refine den_hLit (α := Int) (l := [(0 : Int)]) (b := 8) [.int .i64 0] uIntsK elemIntK rfl (by decide) (by decide) h3 (by kernel_rfl) (.cons (csIK_mk (by unfold InI; omega)) .nil) (fun x hx => by rw [List.mem_singleton.1 hx]; exact bx_row h3 (List.mem_cons_of_mem _ (List.mem_cons_self ..)) 0 1) fun v4 K4 h4 _ _ => ?_
  obtain ⟨S4, s4, l4, k4⟩ := h4.freeze
  clear h4
  obtain ⟨b4, c4, rfl⟩ := s4.sl
  simp only [List.cons_append, List.nil_append]
  refine den_hPush (more := [mMove i]) (b := 112) [.agg ([txt moveB, .int .i64 (i : Int), .slice b4 [(0 : Int)].length c4, .int .i64 0, .int .i64 0, txt [], .slice none 0 0, .int .i64 0] : List Value).toArray] uInssK elemInsK rfl (by decide) (by decide) k4 (by kernel_rfl) (.cons (plainIns s4 (by decide) (show InI (i : Int) by unfold InI; omega)) .nil)
    (fun x hx => by rw [List.mem_singleton.1 hx]; exact bx_row k4 (List.mem_cons_of_mem _ (List.mem_cons_self ..)) 0 1) (fun _ => by kernel_rfl) (fun _ => by kernel_rfl)
    (by simp only [maxLen, List.length_cons, List.length_nil]; omega) (by simp only [List.length_cons, List.length_nil]; omega) fun u v' S7 K7 l7 h7 => ⟨pendNil, ?_⟩
  obtain ⟨vb, vc, rfl⟩ := (h7.row (List.mem_cons_self ..)).sl
  simp only [List.cons_append, List.nil_append]
  refine den_bxStore (off := 0) (vs := [.slice vb (mVoids i ++ [mMove i]).length vc]) rfl (h7.perm (List.Perm.swap _ _ _)) rfl (by simp [oneC]) (by simp) fun K8 h8 => ?_
  have h8 : Held S7 K8 [bx r 38 (mCs (.slice vb (mVoids i ++ [mMove i]).length vc) i), orow 43 (mVoids i ++ [mMove i]) (.slice vb (mVoids i ++ [mMove i]).length vc)] := h8
  have l17 := PH.le_trans l3 (PH.le_trans l4 l7)
  refine ⟨fun m vs K => ∃ (t : Nat) (iv : Value) (S' : PH), vs = [nI (t + 1)] ∧ t + 1 + m = i ∧ PH.le K1 S' ∧ Held S' K [orow 43 (mVoids i ++ ([mMove i] ++ mEqs i t)) iv, bx r 38 (mCs iv i)],
    ⟨i - 1, 0, .slice vb (mVoids i ++ [mMove i]).length vc, S7, rfl, by omega, l17, h8.perm (List.Perm.swap _ _ _)⟩, ?_⟩
  rintro m2 vs K9 _ ⟨t, iv, S9, rfl, htm, l9, h9⟩
  obtain ⟨jb, jc, rfl⟩ := (h9.row (List.mem_cons_self ..)).sl
  simp only [List.cons_append, List.nil_append]
  have hjl : (mVoids i ++ ([mMove i] ++ mEqs i t)).length = i + 1 + t := by simp [mVoids_len, mEqs_len]; omega
  refine ⟨fun g => ?_, fun g => ?_⟩
  · simp only [ev0, ev, evV, List.cons_append, List.nil_append, List.getD_cons_zero, List.getD_cons_succ, List.map_cons, List.map_nil, iOf, bOf, sOf, pOf, slLen, slBase, cmpI, arI, Value.ite_bool, int_beq, int_bne, ite_band, ite_bor, decide_eq_true_eq] at g
    refine den_bxLoad (off := 0) [.slice jb (mVoids i ++ ([mMove i] ++ mEqs i t)).length jc] rfl h9 (List.mem_cons_of_mem _ (List.mem_cons_self ..)) rfl rfl ?_
    simp only [List.cons_append, List.nil_append]
    refine den_hLit (α := Int) (l := [(i : Int), ((t + 1 : Nat) : Int)]) (b := 8) [.int .i64 (i : Int), .int .i64 ((t + 1 : Nat) : Int)] uIntsK elemIntK rfl (by decide) (by decide) h9 (by kernel_rfl) (.cons (csIK_mk (by unfold InI; omega)) (.cons (csIK_mk (by unfold InI; omega)) .nil)) (fun x hx => by rw [List.mem_singleton.1 hx]; exact bx_row h9 (List.mem_cons_of_mem _ (List.mem_cons_self ..)) 0 1) fun v10 K10 h10 _ _ => ?_
    obtain ⟨S10, s10, l10, k10⟩ := h10.freeze
    clear h10
    obtain ⟨b10, c10, rfl⟩ := s10.sl
    simp only [List.cons_append, List.nil_append]
    refine den_hPush (more := [mEq i (t + 1)]) (b := 112) [.agg ([txt eqB, .int .i64 (i : Int), .slice b10 [(i : Int), ((t + 1 : Nat) : Int)].length c10, .int .i64 0, .int .i64 0, txt [], .slice none 0 0, .int .i64 0] : List Value).toArray] uInssK elemInsK rfl (by decide) (by decide) k10 (by kernel_rfl) (.cons (plainIns s10 (by decide) (show InI (i : Int) by unfold InI; omega)) .nil)
      (fun x hx => by rw [List.mem_singleton.1 hx]; exact bx_row k10 (List.mem_cons_of_mem _ (List.mem_cons_self ..)) 0 1) (fun _ => by kernel_rfl) (fun _ => by kernel_rfl)
      (by rw [hjl]; simp only [maxLen, List.length_cons, List.length_nil]; omega) (by rw [hjl]; simp only [List.length_cons, List.length_nil]; omega) fun u v' S11 K11 l11 h11 => ⟨pendNil, ?_⟩
    obtain ⟨wb, wc, rfl⟩ := (h11.row (List.mem_cons_self ..)).sl
    simp only [List.cons_append, List.nil_append]
    refine den_bxStore (off := 0) (vs := [.slice wb (mVoids i ++ ([mMove i] ++ mEqs i t) ++ [mEq i (t + 1)]).length wc]) rfl (h11.perm (List.Perm.swap _ _ _)) rfl (by simp [oneC]) (by simp) fun K12 h12 => ?_
    refine ⟨_, lookup_hit, m2 - 1, by omega, t + 1, .slice wb (mVoids i ++ ([mMove i] ++ mEqs i t) ++ [mEq i (t + 1)]).length wc, S11, ?_, by omega, PH.le_trans l9 (PH.le_trans l10 l11), ?_⟩
    · simp only [ev0, ev, evV, List.cons_append, List.nil_append, List.getD_cons_zero, List.getD_cons_succ, List.map_cons, List.map_nil, iOf, bOf, sOf, pOf, slLen, slBase, cmpI, arI, Value.ite_bool, int_beq, int_bne, ite_band, ite_bor]; rw [w64 (by omega) (by omega)]; rfl
    · rw [show mVoids i ++ mMove i :: mEqs i (t + 1) = mVoids i ++ ([mMove i] ++ mEqs i t) ++ [mEq i (t + 1)] by rw [mEqs_succ]; simp]
      exact h12.perm (List.Perm.swap _ _ _)
  simp only [ev0, ev, evV, List.cons_append, List.nil_append, List.getD_cons_zero, List.getD_cons_succ, List.map_cons, List.map_nil, iOf, bOf, sOf, pOf, slLen, slBase, cmpI, arI, Value.ite_bool, int_beq, int_bne, ite_band, ite_bor, decide_eq_false_iff_not] at g
  have ht : t = i - 1 := by omega
  subst ht
  obtain ⟨S13, s13, l13, h13⟩ := h9.freeze
  have h14 := Held.bxRow (a := mBlk i (mIns i)) h13 (blk_iff.2 ⟨_, _, rfl, s13, plainEnd (by decide) (show InI (i : Int) by unfold InI; omega)⟩)
  obtain ⟨S15, s15, l15, h15⟩ := h14.freeze
  have hwr : IntKind.i64.wrap ((i : Int) + 1) = (i : Int) + 1 := w64 (by omega) (by omega)
  have l1K : PH.le H K9 := PH.le_trans l1 (PH.le_trans l9 (PH.le_trans l13 (PH.le_trans l15 h15.sh)))
  refine den_call cb_color_Color (R := fun x S' => PH.le K9 S' ∧ (((k < 1 ∨ 24 < k) ∧ x = .returned (.tuple #[.slice none 0 0, .int .i64 0, .int .i64 1])) ∨ ((1 ≤ k ∧ k ≤ 24) ∧ mayP (mPr i) = false ∧ x = .returned (.tuple #[.slice none 0 0, .int .i64 0, .int .i64 150])) ∨ ((1 ≤ k ∧ k ≤ 24) ∧ mayP (mPr i) = true ∧ ∃ l v n, x = .returned (.tuple #[v, .int .i64 n, .int .i64 0]) ∧ SlR S' l v ∧ Placed (mPr i) k n l))) ?_ ?_
  · simp only [ev0, ev, evV, List.cons_append, List.nil_append, List.getD_cons_zero, List.getD_cons_succ, List.map_cons, List.map_nil, iOf, bOf, sOf, pOf, slLen, slBase, cmpI, arI, Value.ite_bool, int_beq, int_bne, ite_band, ite_bor]
    rw [hwr]
    exact Color_tri (mPr i) k _ K9 (s15.le h15.sh) (mPr_wt hn2')
  rintro x K16 ⟨l16, ⟨hb, _⟩ | ⟨_, hm, _⟩ | ⟨_, hmay, l, v, s, rfl, hv, hpl⟩⟩
  · omega
  · rw [mPr_may hn1' hn2'] at hm; cases hm
  obtain ⟨hs1, hs2⟩ := m_slots hn1' hn2' hpl
  have hreg : (mPr i).regs.toNat = i + 1 := by show ((i : Int) + 1).toNat = i + 1; omega
  have hll : l.length = i + 1 := by rw [hpl.len, hreg]
  have hs0 := hpl.lo
  have hs3 := hpl.hi
  obtain ⟨b16, c16, rfl⟩ := hv.sl
  refine ⟨_, [.slice b16 l.length c16, .int .i64 s, .int .i64 0], rfl, rfl, rfl, pendNil, ?_⟩
  simp only [List.cons_append, List.nil_append]
  refine ⟨fun g2 => ?_, fun g2 => ?_⟩
  · have hlen : (l.length : Int) = (i : Int) + 1 := by omega
    simp [ev0, ev, evV, List.cons_append, List.nil_append, List.getD_cons_zero, List.getD_cons_succ, List.map_cons, List.map_nil, iOf, bOf, sOf, pOf, slLen, slBase, cmpI, arI, Value.ite_bool, int_beq, int_bne, ite_band, ite_bor, hwr, hlen] at g2
  refine ⟨fun n vs K => ∃ (bb : Bool) (a : Nat), vs = [.bool bb, nI a] ∧ a + n = i ∧ K = K16, ⟨i, false, 0, rfl, by omega, rfl⟩, ?_⟩
  rintro m3 vs K _ ⟨bb, a, rfl, ham, rfl⟩
  simp only [List.cons_append, List.nil_append]
  refine ⟨fun g3 => ?_, fun g3 => ?_⟩
  · simp only [ev0, ev, evV, List.cons_append, List.nil_append, List.getD_cons_zero, List.getD_cons_succ, List.map_cons, List.map_nil, iOf, bOf, sOf, pOf, slLen, slBase, cmpI, arI, Value.ite_bool, int_beq, int_bne, ite_band, ite_bor, decide_eq_true_eq] at g3
    obtain ⟨y, hy⟩ : ∃ y, l[a]? = some y := ⟨_, List.getElem?_eq_getElem (by omega)⟩
    obtain ⟨y1, _, ycs, y2, y3⟩ := hv.get hy
    obtain ⟨rfl, _⟩ := csIK y2
    refine ⟨fun n vs K' => ∃ (b2 : Bool) (c : Nat), vs = [.bool b2, nI c] ∧ c + n = a ∧ K' = K, ⟨a, bb, 0, rfl, by omega, rfl⟩, ?_⟩
    rintro m4 vs K' _ ⟨b2, c, rfl, hcm, rfl⟩
    simp only [List.cons_append, List.nil_append]
    refine ⟨fun g4 => ?_, fun g4 => ?_⟩
    · simp only [ev0, ev, evV, List.cons_append, List.nil_append, List.getD_cons_zero, List.getD_cons_succ, List.map_cons, List.map_nil, iOf, bOf, sOf, pOf, slLen, slBase, cmpI, arI, Value.ite_bool, int_beq, int_bne, ite_band, ite_bor, decide_eq_true_eq] at g4
      obtain ⟨z, hz⟩ : ∃ z, l[c]? = some z := ⟨_, List.getElem?_eq_getElem (by omega)⟩
      obtain ⟨z1, _, zcs, z2, z3⟩ := hv.get hz
      obtain ⟨rfl, _⟩ := csIK z2
      have hyz : y ≠ z := fun e => by
        subst e
        exact hpl.apart a c y hy hz (by omega) (m_meet (by omega) (by omega))
      refine ⟨fun _ => ?_, [.int .i64 y], rfl, ?_, fun _ => ?_, [.int .i64 z], rfl, ?_, fun g5 => ?_, fun g5 => ?_⟩
      · simp only [Chk.holds, ev0, ev, evV, List.cons_append, List.nil_append, List.getD_cons_zero, List.getD_cons_succ, List.map_cons, List.map_nil, iOf, bOf, sOf, pOf, slLen, slBase, cmpI, arI, Value.ite_bool, int_beq, int_bne, ite_band, ite_bor]; exact ⟨y1, by omega, by omega⟩
      · simp only [ev0, ev, evV, List.cons_append, List.nil_append, List.getD_cons_zero, List.getD_cons_succ, List.map_cons, List.map_nil, iOf, bOf, sOf, pOf, slLen, slBase, cmpI, arI, Value.ite_bool, int_beq, int_bne, ite_band, ite_bor]; exact y3
      · simp only [Chk.holds, ev0, ev, evV, List.cons_append, List.nil_append, List.getD_cons_zero, List.getD_cons_succ, List.map_cons, List.map_nil, iOf, bOf, sOf, pOf, slLen, slBase, cmpI, arI, Value.ite_bool, int_beq, int_bne, ite_band, ite_bor]; exact ⟨z1, by omega, by omega⟩
      · simp only [ev0, ev, evV, List.cons_append, List.nil_append, List.getD_cons_zero, List.getD_cons_succ, List.map_cons, List.map_nil, iOf, bOf, sOf, pOf, slLen, slBase, cmpI, arI, Value.ite_bool, int_beq, int_bne, ite_band, ite_bor]; exact z3
      · simp [ev0, ev, evV, List.cons_append, List.nil_append, List.getD_cons_zero, List.getD_cons_succ, List.map_cons, List.map_nil, iOf, bOf, sOf, pOf, slLen, slBase, cmpI, arI, Value.ite_bool, int_beq, int_bne, ite_band, ite_bor, hyz] at g5
      · refine ⟨_, lookup_hit, m4 - 1, by omega, b2, c + 1, ?_, by omega, rfl⟩
        simp only [ev0, ev, evV, List.cons_append, List.nil_append, List.getD_cons_zero, List.getD_cons_succ, List.map_cons, List.map_nil, iOf, bOf, sOf, pOf, slLen, slBase, cmpI, arI, Value.ite_bool, int_beq, int_bne, ite_band, ite_bor]; rw [w64 (by omega) (by omega)]; rfl
    · refine ⟨_, lookup_skip rfl lookup_hit, m3 - 1, by omega, b2, a + 1, ?_, by omega, rfl⟩
      simp only [ev0, ev, evV, List.cons_append, List.nil_append, List.getD_cons_zero, List.getD_cons_succ, List.map_cons, List.map_nil, iOf, bOf, sOf, pOf, slLen, slBase, cmpI, arI, Value.ite_bool, int_beq, int_bne, ite_band, ite_bor, decide_eq_true_eq] at g3 ⊢
      rw [w64 (by omega) (by omega)]; rfl
  · refine ⟨?_, PH.le_trans l1K l16⟩
    have hw2 : IntKind.i64.wrap ((i : Int) - k) = (i : Int) - k := w64 (by omega) (by omega)
    by_cases hik : (i : Int) > k
    · simp [ev0, ev, evV, List.cons_append, List.nil_append, List.getD_cons_zero, List.getD_cons_succ, List.map_cons, List.map_nil, iOf, bOf, sOf, pOf, slLen, slBase, cmpI, arI, Value.ite_bool, int_beq, int_bne, ite_band, ite_bor, hw2, hik]
      first | omega | (split <;> omega)
    · have hs := hs2 (by omega)
      subst hs
      simp [ev0, ev, evV, List.cons_append, List.nil_append, List.getD_cons_zero, List.getD_cons_succ, List.map_cons, List.map_nil, iOf, bOf, sOf, pOf, slLen, slBase, cmpI, arI, Value.ite_bool, int_beq, int_bne, ite_band, ite_bor, hw2, hik] <;> first | omega | (split <;> omega)
end Go.Proofs.Ytlbbmcpppfiplaa.Vc
