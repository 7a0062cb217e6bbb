/-
  Texts on the way to the statement, one behind the other, without what it does not reach.
-/
import Derived.Test.YtibinelkmlcmgaaDoorKk
set_option linter.unusedSimpArgs false
set_option linter.unusedVariables false
set_option maxRecDepth 100000
/-
  CORE: the program tells an expression's datum.
-/
namespace Go.Proofs.YtibinelkmlcmgaaDoor.Vc
open Go

def ToldAt (f : FuncId) (e : Xp) : Prop := ∀ (cs : List Value) (H : PH), e.Rep H cs → e.okF true → e.fit → GivesD f [.agg cs.toArray] H e.dat
theorem datsLen (l : List Xp) (k : Nat) : ((l.take k).map Xp.dat).length = min k l.length := by simp
theorem sym_rep {H : PH} {s : List UInt8} (h : s.length ≤ maxLen) : Dat.Rep H (symD s) [.int .i64 4, .int .i64 0, txt s, .slice none 0 0] := leaf_rep (by decide) (by decide) h
theorem lst_rep {H : PH} {l : List Dat} {v : Value} (h : SlR H l v) : Dat.Rep H (lstD l) [.int .i64 5, .int .i64 0, txt [], v] := Dat.Rep_iff.2 ⟨_, rfl, (by decide : InI 5), (by decide : InI 0), (by decide : ([] : List UInt8).length ≤ maxLen), h⟩
theorem wordL_len (k : Int) : (wordL k).length ≤ 6 := by
  have : ∀ n : Nat, (wordsL.getD n []).length ≤ 6 := by
    intro n
    by_cases h : n < 11
    · have : ∀ m : Fin 11, (wordsL.getD m []).length ≤ 6 := by decide
      exact this ⟨n, h⟩
    · rw [List.getD_eq_getElem?_getD, List.getElem?_eq_none (by show 11 ≤ n; omega)]; simp
  exact this _
set_option maxHeartbeats 4000000 in
theorem told_tri : ∀ e, ToldAt n_core_told e := by
  refine Xp.ind fun e ih cs H he hok hfit => ?_
  obtain ⟨nb, db, kb, nc, dc, kc, rfl, hx⟩ := Xp.Rep.open he
  obtain ⟨fn, fk, ff⟩ := (Xp.fit_iff e).1 hfit
  obtain ⟨hform, hkids⟩ := Xp.okF_form hok
  obtain ⟨hk0, hk10⟩ := exForm_kind hform
  have hw := wordL_len e.kind
  have hwm : (wordL e.kind).length ≤ maxLen := by simp only [maxLen]; omega
  refine tri_core_told (exVs e nb db kb nc dc kc) (by kernel_rfl) (by kernel_rfl) ?_
  refine ⟨fun n vs H' => ∃ (k : Nat) (out : Value) (S' : PH), vs = [out, .int .i64 k] ∧ k + n = e.kids.length ∧ PH.le H S' ∧ Held S' H' [orow 25 ((e.kids.take k).map Xp.dat) out],
    ⟨e.kids.length, 0, .slice none 0 0, H, rfl, by omega, PH.le_refl _, (Held.nil (PH.le_refl H)).empty _⟩, ?_⟩
  rintro n vs H1 _ ⟨k, out, S1, rfl, hkn, l1, h1⟩
  refine ⟨fun g => ?_, fun g => ?_⟩
  · simp only [ev0, ev, evV, List.cons_append, List.nil_append, List.getD_cons_zero, List.getD_cons_succ, List.map_cons, List.map_nil, iOf, bOf, sOf, pOf, slLen, slBase, cmpI, arI, Value.ite_bool, int_beq, int_bne, ite_band, ite_bor, decide_eq_true_eq] at g
    obtain ⟨a, ha⟩ : ∃ a, e.kids[k]? = some a := ⟨_, List.getElem?_eq_getElem (show k < e.kids.length by omega)⟩
    obtain ⟨g1, _, ces, g2, g3⟩ := (hx.kids.le l1).get ha
    have hm := List.mem_of_getElem? ha
    have htags := Xp.Rep.tags g2
    have g2' := g2
    obtain ⟨nb', db', kb', nc', dc', kc', rfl, _⟩ := Xp.Rep.open g2'
    refine ⟨fun _ => ?_, _, htags, by simp only [ev0, ev, evV, List.cons_append, List.nil_append, List.getD_cons_zero, List.getD_cons_succ, List.map_cons, List.map_nil, iOf, bOf, sOf, pOf, slLen, slBase, cmpI, arI, Value.ite_bool, int_beq, int_bne, ite_band, ite_bor]; exact rowAt_le h1.sh g3, ?_⟩
    · simp only [Chk.holds, ev0, ev, evV, List.cons_append, List.nil_append, List.getD_cons_zero, List.getD_cons_succ, List.map_cons, List.map_nil, iOf, bOf, sOf, pOf, slLen, slBase, cmpI, arI, Value.ite_bool, int_beq, int_bne, ite_band, ite_bor]; exact ⟨g1, by omega, by omega⟩
    refine den_call cb_core_told (h1.pure (R := fun x S' => ∃ cs, x = .returned (.agg cs.toArray) ∧ a.dat.Rep S' cs) ((ih a hm _ S1 g2 (hkids a hm) (ff a hm)).mono fun x S' hh => by obtain ⟨cs, q1, q2, q3⟩ := hh; exact ⟨q2, cs, q1, q3⟩)) ?_
    rintro x H2 ⟨S2, l2, h2, cs2, rfl, r2⟩
    have ht2 := Dat.Rep.tags r2
    have r2' := r2
    obtain ⟨sv2, rfl, _⟩ := Dat.Rep_iff.1 r2
    refine ⟨_, _, rfl, ht2, rfl, pendNil, ?_⟩
    refine den_hPush (more := [a.dat]) (b := 56) [.agg #[.int .i64 a.dat.kind, .int .i64 a.dat.int, txt a.dat.text, sv2]] uDats elemDat rfl (by decide) (by decide) h2 (by kernel_rfl) (.cons r2' .nil) pendNil (fun _ => by kernel_rfl) (fun _ => by kernel_rfl)
      (by rw [datsLen]; simp only [maxLen, List.length_cons, List.length_nil]; omega) (by rw [datsLen]; simp only [List.length_cons, List.length_nil]; omega) fun u v' S3 H3 l3 h3 => ⟨pendNil, _, lookup_hit, n - 1, by omega, k + 1, v', S3, ?_, by omega, PH.le_trans l1 (PH.le_trans l2 l3), ?_⟩
    · simp only [ev0, ev, evV, List.cons_append, List.nil_append, List.getD_cons_zero, List.getD_cons_succ, List.map_cons, List.map_nil, iOf, bOf, sOf, pOf, slLen, slBase, cmpI, arI, Value.ite_bool, int_beq, int_bne, ite_band, ite_bor]
      rw [w64 (by omega) (by omega)]
      rfl
    · rw [List.take_add_one, ha, List.map_append]; exact h3
  · simp only [ev0, ev, evV, List.cons_append, List.nil_append, List.getD_cons_zero, List.getD_cons_succ, List.map_cons, List.map_nil, iOf, bOf, sOf, pOf, slLen, slBase, cmpI, arI, Value.ite_bool, int_beq, int_bne, ite_band, ite_bor, decide_eq_false_iff_not] at g
    have hkk : k = e.kids.length := by omega
    subst hkk
    rw [List.take_length] at h1
    refine den_gives [txt (wordL e.kind)] cb_core_words (words_gives e.kind hk0 hk10 H1) rfl pendNil fun H2 q2 => ?_
    have h2 := h1.le q2
    refine den_gives [.int .i64 4, .int .i64 0, txt (wordL e.kind), .slice none 0 0] cb_core_symbol (symbol_gives (wordL e.kind) H2) rfl pendNil fun H3 q3 => ?_
    have h3 := h2.le q3
    refine den_hLit (l := [symD (wordL e.kind)]) (b := 56) [.agg #[.int .i64 4, .int .i64 0, txt (wordL e.kind), .slice none 0 0]] uDats elemDat rfl (by decide) (by decide) h3 (by kernel_rfl) (.cons (sym_rep hwm) .nil) pendNil fun wv H4 h4 _ _ => ?_
    obtain ⟨wb, wc, hwv⟩ := (h4.row (List.mem_cons_self ..)).sl
    refine den_gives [.int .i64 5, .int .i64 0, txt [], wv] cb_core_list (by rw [hwv]; exact list_gives wb _ wc H4) (by rw [hwv]; rfl) pendNil fun H5 q5 => ?_
    have h5 := h4.le q5
    have hb : ((e.kids.map Xp.dat).length : Nat) = e.kids.length := by simp
    refine ⟨fun vs H' => ∃ (kv lv : Value) (L K : List Dat) (S' : PH), vs = [kv, .int .i64 5, .int .i64 0, txt [], lv] ∧ PH.le H S' ∧ Held S' H' [orow 25 L lv] ∧ SlR S' K kv ∧ e.dat = lstD (L ++ K) ∧ L.length ≤ 4 ∧ K.length ≤ 1048576, ?_, ?_⟩
    · rintro vs H6 _ ⟨kv, lv, L, K, S6, rfl, l6, h6, hK, hd, hL4, hK4⟩
      obtain ⟨b6, c6, hkv⟩ := hK.sl
      refine den_hApp (b := 56) (more := K) uDats elemDat rfl rfl h6 (hK.srcS h6.sh) (by simp only [maxLen]; omega) (by omega) fun v7 H7 h7 _ => ⟨pendNil, ?_⟩
      obtain ⟨S8, s8, l8, h8⟩ := h7.freeze
      refine ⟨[.int .i64 5, .int .i64 0, txt [], v7], rfl, PH.le_trans l6 (PH.le_trans l8 h8.sh), ?_⟩
      rw [hd]
      exact lst_rep (s8.le h8.sh)
    refine ⟨fun g1 => ?_, fun g1 => ?_⟩
    · simp only [ev0, ev, evV, List.cons_append, List.nil_append, List.getD_cons_zero, List.getD_cons_succ, List.map_cons, List.map_nil, iOf, bOf, sOf, pOf, slLen, slBase, cmpI, arI, Value.ite_bool, int_beq, int_bne, ite_band, ite_bor, decide_eq_true_eq] at g1
      refine den_gives [.int .i64 4, .int .i64 0, txt e.name, .slice none 0 0] cb_core_symbol (symbol_gives e.name H5) rfl pendNil fun H6 q6 => ?_
      refine ⟨[.int .i64 4, .int .i64 0, txt e.name, .slice none 0 0], rfl, PH.le_trans l1 (h5.le q6).sh, ?_⟩
      rw [Xp.dat_eq, datOf, if_pos g1]
      exact sym_rep hx.name
    simp only [ev0, ev, evV, List.cons_append, List.nil_append, List.getD_cons_zero, List.getD_cons_succ, List.map_cons, List.map_nil, iOf, bOf, sOf, pOf, slLen, slBase, cmpI, arI, Value.ite_bool, int_beq, int_bne, ite_band, ite_bor, decide_eq_false_iff_not] at g1
    have hdat := Xp.dat_eq e
    refine ⟨fun g0 => ?_, fun g0 => ?_⟩
    · simp only [ev0, ev, evV, List.cons_append, List.nil_append, List.getD_cons_zero, List.getD_cons_succ, List.map_cons, List.map_nil, iOf, bOf, sOf, pOf, slLen, slBase, cmpI, arI, Value.ite_bool, int_beq, int_bne, ite_band, ite_bor, decide_eq_true_eq] at g0
      have hc : e.const.Rep S1 [.int .i64 e.const.kind, .int .i64 e.const.int, txt e.const.text, .slice db e.const.list.length dc] := Dat.Rep.le l1 _ hx.const
      refine den_rowLit (l := [e.const]) (b := 56) [.agg #[.int .i64 e.const.kind, .int .i64 e.const.int, txt e.const.text, .slice db e.const.list.length dc]] uDats elemDat rfl (by decide) (by decide) h5.sh (by kernel_rfl) (.cons hc .nil) pendNil fun v6 S6 H6 x6 s6 _ => ?_
      refine ⟨_, lookup_hit, v6, wv, [symD (wordL e.kind)], [e.const], S6, by simp only [ev0, ev, evV, List.cons_append, List.nil_append, List.getD_cons_zero, List.getD_cons_succ, List.map_cons, List.map_nil, iOf, bOf, sOf, pOf, slLen, slBase, cmpI, arI, Value.ite_bool, int_beq, int_bne, ite_band, ite_bor], PH.le_trans l1 x6.s, (h5.ext x6).sub (by simp), s6, ?_, by simp, by simp⟩
      rw [hdat, datOf, if_neg g1, if_pos g0]; rfl
    simp only [ev0, ev, evV, List.cons_append, List.nil_append, List.getD_cons_zero, List.getD_cons_succ, List.map_cons, List.map_nil, iOf, bOf, sOf, pOf, slLen, slBase, cmpI, arI, Value.ite_bool, int_beq, int_bne, ite_band, ite_bor, decide_eq_false_iff_not] at g0
    refine ⟨fun g2 => ?_, fun g2 => ?_⟩
    · simp only [ev0, ev, evV, List.cons_append, List.nil_append, List.getD_cons_zero, List.getD_cons_succ, List.map_cons, List.map_nil, iOf, bOf, sOf, pOf, slLen, slBase, cmpI, arI, Value.ite_bool, int_beq, int_bne, ite_band, ite_bor, ite_self] at g2
      have g2' : e.kind = 2 ∨ e.kind = 7 := by
        by_cases h : e.kind = 2
        · exact .inl h
        · right; simpa [h] using g2
      refine den_gives [.int .i64 4, .int .i64 0, txt e.name, .slice none 0 0] cb_core_symbol (symbol_gives e.name H5) rfl pendNil fun H6 q6 => ?_
      have h6 := h5.le q6
      refine den_hPush (more := [symD e.name]) (b := 56) [.agg #[.int .i64 4, .int .i64 0, txt e.name, .slice none 0 0]] uDats elemDat rfl (by decide) (by decide) h6 (by kernel_rfl) (.cons (sym_rep hx.name) .nil) pendNil (fun _ => by kernel_rfl) (fun _ => by kernel_rfl)
        (by simp [maxLen]) (by simp) fun u v7 S7 H7 l7 h7 => ⟨pendNil, ?_⟩
      obtain ⟨S8, s8, l8, h8⟩ := (h7.perm (List.Perm.swap ..)).freeze
      refine ⟨_, lookup_hit, out, v7, _, e.kids.map Xp.dat, S8, by simp only [ev0, ev, evV, List.cons_append, List.nil_append, List.getD_cons_zero, List.getD_cons_succ, List.map_cons, List.map_nil, iOf, bOf, sOf, pOf, slLen, slBase, cmpI, arI, Value.ite_bool, int_beq, int_bne, ite_band, ite_bor], PH.le_trans l1 (PH.le_trans l7 l8), h8, s8, ?_, by simp, by rw [hb]; exact fk⟩
      rw [hdat, datOf, if_neg g1, if_neg g0, if_pos g2']; rfl
    have g2' : ¬ (e.kind = 2 ∨ e.kind = 7) := by
      rintro (h | h) <;> simp [ev0, ev, evV, List.cons_append, List.nil_append, List.getD_cons_zero, List.getD_cons_succ, List.map_cons, List.map_nil, iOf, bOf, sOf, pOf, slLen, slBase, cmpI, arI, Value.ite_bool, int_beq, int_bne, ite_band, ite_bor, h] at g2
    refine ⟨fun g5 => ?_, fun g5 => ?_⟩
    · simp only [ev0, ev, evV, List.cons_append, List.nil_append, List.getD_cons_zero, List.getD_cons_succ, List.map_cons, List.map_nil, iOf, bOf, sOf, pOf, slLen, slBase, cmpI, arI, Value.ite_bool, int_beq, int_bne, ite_band, ite_bor, decide_eq_true_eq] at g5
      refine den_gives [.int .i64 5, .int .i64 0, txt [], .slice none 0 0] cb_core_list (list_gives none 0 0 H5) rfl pendNil fun H6 q6 => ?_
      have h6 := h5.le q6
      refine ⟨fun n vs H' => ∃ (k : Nat) (lv : Value) (S' : PH), vs = [.int .i64 k, .int .i64 5, .int .i64 0, txt [], lv] ∧ k + n = e.names.length ∧ PH.le H S' ∧ Held S' H' [orow 25 ((e.names.take k).map symD) lv, orow 25 [symD (wordL e.kind)] wv, orow 25 (e.kids.map Xp.dat) out],
        ⟨e.names.length, 0, .slice none 0 0, S1, rfl, by omega, l1, h6.empty _⟩, ?_⟩
      rintro n vs H7 _ ⟨k, lv, S7, rfl, hkn, l7, h7⟩
      refine ⟨fun g => ?_, fun g => ?_⟩
      · simp only [ev0, ev, evV, List.cons_append, List.nil_append, List.getD_cons_zero, List.getD_cons_succ, List.map_cons, List.map_nil, iOf, bOf, sOf, pOf, slLen, slBase, cmpI, arI, Value.ite_bool, int_beq, int_bne, ite_band, ite_bor, decide_eq_true_eq] at g
        obtain ⟨a, ha⟩ : ∃ a, e.names[k]? = some a := ⟨_, List.getElem?_eq_getElem (show k < e.names.length by omega)⟩
        obtain ⟨g3, _, ces, g4, g6⟩ := (hx.names.le l7).get ha
        obtain ⟨rfl, hal⟩ := csTxts g4
        refine ⟨fun _ => ?_, [txt a], rfl, by simp only [ev0, ev, evV, List.cons_append, List.nil_append, List.getD_cons_zero, List.getD_cons_succ, List.map_cons, List.map_nil, iOf, bOf, sOf, pOf, slLen, slBase, cmpI, arI, Value.ite_bool, int_beq, int_bne, ite_band, ite_bor]; exact rowAt_le h7.sh g6, ?_⟩
        · simp only [Chk.holds, ev0, ev, evV, List.cons_append, List.nil_append, List.getD_cons_zero, List.getD_cons_succ, List.map_cons, List.map_nil, iOf, bOf, sOf, pOf, slLen, slBase, cmpI, arI, Value.ite_bool, int_beq, int_bne, ite_band, ite_bor]; exact ⟨g3, by omega, by omega⟩
        refine den_gives [.int .i64 4, .int .i64 0, txt a, .slice none 0 0] cb_core_symbol (symbol_gives a H7) rfl pendNil fun H8 q8 => ?_
        refine den_hPush (more := [symD a]) (b := 56) [.agg #[.int .i64 4, .int .i64 0, txt a, .slice none 0 0]] uDats elemDat rfl (by decide) (by decide) (h7.le q8) (by kernel_rfl) (.cons (sym_rep hal) .nil) pendNil (fun _ => by kernel_rfl) (fun _ => by kernel_rfl)
          (by simp only [maxLen, List.length_map, List.length_take, List.length_cons, List.length_nil]; omega) (by simp only [List.length_map, List.length_take, List.length_cons, List.length_nil]; omega) fun u v9 S9 H9 l9 h9 => ⟨pendNil, _, lookup_hit, n - 1, by omega, k + 1, v9, S9, ?_, by omega, PH.le_trans l7 l9, ?_⟩
        · simp only [ev0, ev, evV, List.cons_append, List.nil_append, List.getD_cons_zero, List.getD_cons_succ, List.map_cons, List.map_nil, iOf, bOf, sOf, pOf, slLen, slBase, cmpI, arI, Value.ite_bool, int_beq, int_bne, ite_band, ite_bor]
          rw [w64 (by omega) (by omega)]
          rfl
        · rw [List.take_add_one, ha, List.map_append]; exact h9
      · simp only [ev0, ev, evV, List.cons_append, List.nil_append, List.getD_cons_zero, List.getD_cons_succ, List.map_cons, List.map_nil, iOf, bOf, sOf, pOf, slLen, slBase, cmpI, arI, Value.ite_bool, int_beq, int_bne, ite_band, ite_bor, decide_eq_false_iff_not] at g
        have hkk : k = e.names.length := by omega
        subst hkk
        rw [List.take_length] at h7
        obtain ⟨S8, s8, l8, h8⟩ := h7.freeze
        obtain ⟨bb, bc, hlv⟩ := s8.sl
        refine den_hPush (more := [lstD (e.names.map symD)]) (b := 56) [.agg #[.int .i64 5, .int .i64 0, txt [], lv]] uDats elemDat rfl (by decide) (by decide) h8 (by kernel_rfl) (.cons (lst_rep s8) .nil) pendNil (fun _ => by kernel_rfl) (fun _ => by kernel_rfl)
          (by simp [maxLen]) (by simp) fun u v9 S9 H9 l9 h9 => ⟨pendNil, ?_⟩
        obtain ⟨Sa, sa, la, ha⟩ := (h9.perm (List.Perm.swap ..)).freeze
        refine ⟨_, (lookup_miss (by decide)).trans lookup_hit, out, v9, _, e.kids.map Xp.dat, Sa, by simp only [ev0, ev, evV, List.cons_append, List.nil_append, List.getD_cons_zero, List.getD_cons_succ, List.map_cons, List.map_nil, iOf, bOf, sOf, pOf, slLen, slBase, cmpI, arI, Value.ite_bool, int_beq, int_bne, ite_band, ite_bor], PH.le_trans l7 (PH.le_trans l8 (PH.le_trans l9 la)), ha, sa, ?_, by simp, by rw [hb]; exact fk⟩
        rw [hdat, datOf, if_neg g1, if_neg g0, if_neg g2', if_pos g5]; rfl
    simp only [ev0, ev, evV, List.cons_append, List.nil_append, List.getD_cons_zero, List.getD_cons_succ, List.map_cons, List.map_nil, iOf, bOf, sOf, pOf, slLen, slBase, cmpI, arI, Value.ite_bool, int_beq, int_bne, ite_band, ite_bor, decide_eq_false_iff_not] at g5
    refine ⟨fun vs H' => vs = [.bool (decide (e.kind = 8 ∨ e.kind = 9 ∨ e.kind = 10))] ∧ H' = H5, ?_, ?_⟩
    · rintro vs H6 _ ⟨rfl, rfl⟩
      refine ⟨fun g8 => ?_, fun g8 => ?_⟩
      · simp only [ev0, ev, evV, List.cons_append, List.nil_append, List.getD_cons_zero, List.getD_cons_succ, List.map_cons, List.map_nil, iOf, bOf, sOf, pOf, slLen, slBase, cmpI, arI, Value.ite_bool, int_beq, int_bne, ite_band, ite_bor, decide_eq_true_eq] at g8
        have hkl := exForm_lets hform g8
        refine den_gives [.int .i64 5, .int .i64 0, txt [], .slice none 0 0] cb_core_list (list_gives none 0 0 H6) rfl pendNil fun H7 q7 => ?_
        obtain ⟨S7, s7, l7, h7⟩ := ((h5.le q7).perm (List.Perm.swap ..)).freeze
        refine ⟨fun n vs H' => ∃ (k : Nat) (lv : Value) (S' : PH), vs = [.int .i64 k, .int .i64 5, .int .i64 0, txt [], lv] ∧ k + n = e.names.length ∧ PH.le S7 S' ∧ Held S' H' [orow 25 ((List.zipWith bindD e.names (e.kids.map Xp.dat)).take k) lv, orow 25 [symD (wordL e.kind)] wv],
          ⟨e.names.length, 0, .slice none 0 0, S7, rfl, by omega, PH.le_refl _, h7.empty _⟩, ?_⟩
        rintro n vs H8 _ ⟨k, lv, S8, rfl, hkn, l8, h8⟩
        have hzl : (List.zipWith bindD e.names (e.kids.map Xp.dat)).length = e.names.length := by simp; omega
        refine ⟨fun g => ?_, fun g => ?_⟩
        · simp only [ev0, ev, evV, List.cons_append, List.nil_append, List.getD_cons_zero, List.getD_cons_succ, List.map_cons, List.map_nil, iOf, bOf, sOf, pOf, slLen, slBase, cmpI, arI, Value.ite_bool, int_beq, int_bne, ite_band, ite_bor, decide_eq_true_eq] at g
          obtain ⟨a, ha⟩ : ∃ a, e.names[k]? = some a := ⟨_, List.getElem?_eq_getElem (show k < e.names.length by omega)⟩
          obtain ⟨q, hq⟩ : ∃ q, (e.kids.map Xp.dat)[k]? = some q := ⟨_, List.getElem?_eq_getElem (show k < (e.kids.map Xp.dat).length by rw [hb]; omega)⟩
          obtain ⟨g3, _, ces, g4, g6⟩ := (hx.names.le (PH.le_trans l1 (PH.le_trans l7 l8))).get ha
          obtain ⟨rfl, hal⟩ := csTxts g4
          obtain ⟨p3, _, ces, p4, p6⟩ := (s7.le l8).get hq
          have pt := Dat.Rep.tags p4
          have p4' := p4
          obtain ⟨sq, rfl, _⟩ := Dat.Rep_iff.1 p4'
          obtain ⟨ob1, oc1, rfl⟩ := s7.sl
          refine ⟨fun _ => ?_, [txt a], rfl, by simp only [ev0, ev, evV, List.cons_append, List.nil_append, List.getD_cons_zero, List.getD_cons_succ, List.map_cons, List.map_nil, iOf, bOf, sOf, pOf, slLen, slBase, cmpI, arI, Value.ite_bool, int_beq, int_bne, ite_band, ite_bor]; exact rowAt_le h8.sh g6, fun _ => ?_, _, pt, by simp only [ev0, ev, evV, List.cons_append, List.nil_append, List.getD_cons_zero, List.getD_cons_succ, List.map_cons, List.map_nil, iOf, bOf, sOf, pOf, slLen, slBase, cmpI, arI, Value.ite_bool, int_beq, int_bne, ite_band, ite_bor]; exact rowAt_le h8.sh p6, ?_⟩
          · simp only [Chk.holds, ev0, ev, evV, List.cons_append, List.nil_append, List.getD_cons_zero, List.getD_cons_succ, List.map_cons, List.map_nil, iOf, bOf, sOf, pOf, slLen, slBase, cmpI, arI, Value.ite_bool, int_beq, int_bne, ite_band, ite_bor]; exact ⟨g3, by omega, by omega⟩
          · simp only [Chk.holds, ev0, ev, evV, List.cons_append, List.nil_append, List.getD_cons_zero, List.getD_cons_succ, List.map_cons, List.map_nil, iOf, bOf, sOf, pOf, slLen, slBase, cmpI, arI, Value.ite_bool, int_beq, int_bne, ite_band, ite_bor]; exact ⟨p3, by omega, by rw [hb]; omega⟩
          refine den_gives [.int .i64 4, .int .i64 0, txt a, .slice none 0 0] cb_core_symbol (symbol_gives a H8) rfl ?_ fun H9 q9 => ?_
          · intro x hx'
            rw [List.mem_singleton.1 hx']
            simp only [ev0, ev, evV, List.cons_append, List.nil_append, List.getD_cons_zero, List.getD_cons_succ, List.map_cons, List.map_nil, iOf, bOf, sOf, pOf, slLen, slBase, cmpI, arI, Value.ite_bool, int_beq, int_bne, ite_band, ite_bor]
            exact rowAt_le h8.sh p6
          have h9 := h8.le q9
          refine den_rowLit (l := [symD a, q]) (b := 56) [.agg #[.int .i64 4, .int .i64 0, txt a, .slice none 0 0], .agg #[.int .i64 q.kind, .int .i64 q.int, txt q.text, sq]] uDats elemDat rfl (by decide) (by decide) h9.sh (by kernel_rfl) (.cons (sym_rep hal) (.cons p4 .nil)) pendNil fun va Sa Ha xa sa _ => ?_
          have h10 := h9.ext xa
          obtain ⟨ba, ca, hva⟩ := sa.sl
          refine den_gives [.int .i64 5, .int .i64 0, txt [], va] cb_core_list (by rw [hva]; exact list_gives ba _ ca Ha) (by rw [hva]; rfl) pendNil fun Hb qb => ?_
          refine den_hPush (more := [bindD a q]) (b := 56) [.agg #[.int .i64 5, .int .i64 0, txt [], va]] uDats elemDat rfl (by decide) (by decide) (h10.le qb) (by kernel_rfl) (.cons (lst_rep sa) .nil) pendNil (fun _ => by kernel_rfl) (fun _ => by kernel_rfl)
            (by simp only [maxLen, hzl, List.length_take, List.length_cons, List.length_nil]; omega) (by simp only [hzl, List.length_take, List.length_cons, List.length_nil]; omega) fun u vc Sc Hc lc hc => ⟨pendNil, _, lookup_hit, n - 1, by omega, k + 1, vc, Sc, ?_, by omega, PH.le_trans l8 (PH.le_trans xa.s lc), ?_⟩
          · simp only [ev0, ev, evV, List.cons_append, List.nil_append, List.getD_cons_zero, List.getD_cons_succ, List.map_cons, List.map_nil, iOf, bOf, sOf, pOf, slLen, slBase, cmpI, arI, Value.ite_bool, int_beq, int_bne, ite_band, ite_bor]
            rw [w64 (by omega) (by omega)]
            rfl
          · have : (List.zipWith bindD e.names (e.kids.map Xp.dat))[k]? = some (bindD a q) := by rw [List.getElem?_zipWith, ha, hq]
            rw [List.take_add_one, this]; exact hc
        · simp only [ev0, ev, evV, List.cons_append, List.nil_append, List.getD_cons_zero, List.getD_cons_succ, List.map_cons, List.map_nil, iOf, bOf, sOf, pOf, slLen, slBase, cmpI, arI, Value.ite_bool, int_beq, int_bne, ite_band, ite_bor, decide_eq_false_iff_not] at g
          have hkk : k = e.names.length := by omega
          subst hkk
          rw [List.take_of_length_le (by rw [hzl]; exact Nat.le_refl _)] at h8
          obtain ⟨S9, s9, l9, h9⟩ := h8.freeze
          obtain ⟨bb, bc, hlv⟩ := s9.sl
          refine den_hPush (more := [lstD (List.zipWith bindD e.names (e.kids.map Xp.dat))]) (b := 56) [.agg #[.int .i64 5, .int .i64 0, txt [], lv]] uDats elemDat rfl (by decide) (by decide) h9 (by kernel_rfl) (.cons (lst_rep s9) .nil) pendNil (fun _ => by kernel_rfl) (fun _ => by kernel_rfl)
            (by simp [maxLen]) (by simp) fun u va Sa Ha la ha => ⟨pendNil, ?_⟩
          have hs7 := s7.le (PH.le_trans l8 (PH.le_trans l9 la))
          have hcut := hs7.cut (a := e.names.length) (b := (e.kids.map Xp.dat).length) (by rw [hb]; omega) (Nat.le_refl _)
          rw [List.take_length] at hcut
          obtain ⟨ob1, oc1, rfl⟩ := hs7.sl
          have hcap := hs7.capLe
          refine ⟨fun _ => ?_, ?_⟩
          · simp only [Chk.holds, ev0, ev, evV, List.cons_append, List.nil_append, List.getD_cons_zero, List.getD_cons_succ, List.map_cons, List.map_nil, iOf, bOf, sOf, pOf, slLen, slBase, cmpI, arI, Value.ite_bool, int_beq, int_bne, ite_band, ite_bor, slCap]; rw [hb] at *; omega
          refine ⟨_, (lookup_miss (by decide)).trans lookup_hit, _, va, _, (e.kids.map Xp.dat).drop e.names.length, Sa, by simp only [ev0, ev, evV, List.cons_append, List.nil_append, List.getD_cons_zero, List.getD_cons_succ, List.map_cons, List.map_nil, iOf, bOf, sOf, pOf, slLen, slBase, cmpI, arI, Value.ite_bool, int_beq, int_bne, ite_band, ite_bor]; rfl, PH.le_trans l1 (PH.le_trans l7 (PH.le_trans l8 (PH.le_trans l9 la))), ha, hcut, ?_, by simp, by rw [List.length_drop, hb]; omega⟩
          rw [hdat, datOf, if_neg g1, if_neg g0, if_neg g2', if_neg g5, if_pos g8]; rfl
      · simp only [ev0, ev, evV, List.cons_append, List.nil_append, List.getD_cons_zero, List.getD_cons_succ, List.map_cons, List.map_nil, iOf, bOf, sOf, pOf, slLen, slBase, cmpI, arI, Value.ite_bool, int_beq, int_bne, ite_band, ite_bor, decide_eq_false_iff_not] at g8
        obtain ⟨S7, s7, l7, h7⟩ := (h5.perm (List.Perm.swap ..)).freeze
        refine ⟨_, lookup_hit, out, wv, _, e.kids.map Xp.dat, S7, by simp only [ev0, ev, evV, List.cons_append, List.nil_append, List.getD_cons_zero, List.getD_cons_succ, List.map_cons, List.map_nil, iOf, bOf, sOf, pOf, slLen, slBase, cmpI, arI, Value.ite_bool, int_beq, int_bne, ite_band, ite_bor], PH.le_trans l1 l7, h7, s7, ?_, by simp, by rw [hb]; exact fk⟩
        rw [hdat, datOf, if_neg g1, if_neg g0, if_neg g2', if_neg g5, if_neg g8]; rfl
    · refine ⟨fun g8 => ?_, fun g8 => ?_⟩
      · simp only [ev0, ev, evV, List.cons_append, List.nil_append, List.getD_cons_zero, List.getD_cons_succ, List.map_cons, List.map_nil, iOf, bOf, sOf, pOf, slLen, slBase, cmpI, arI, Value.ite_bool, int_beq, int_bne, ite_band, ite_bor, decide_eq_true_eq] at g8
        refine ⟨_, lookup_hit, ?_, rfl⟩
        simp only [ev0, ev, evV, List.cons_append, List.nil_append, List.getD_cons_zero, List.getD_cons_succ, List.map_cons, List.map_nil, iOf, bOf, sOf, pOf, slLen, slBase, cmpI, arI, Value.ite_bool, int_beq, int_bne, ite_band, ite_bor, g8]; rfl
      · simp only [ev0, ev, evV, List.cons_append, List.nil_append, List.getD_cons_zero, List.getD_cons_succ, List.map_cons, List.map_nil, iOf, bOf, sOf, pOf, slLen, slBase, cmpI, arI, Value.ite_bool, int_beq, int_bne, ite_band, ite_bor, decide_eq_false_iff_not] at g8
        refine ⟨_, lookup_hit, ?_, rfl⟩
        simp only [ev0, ev, evV, List.cons_append, List.nil_append, List.getD_cons_zero, List.getD_cons_succ, List.map_cons, List.map_nil, iOf, bOf, sOf, pOf, slLen, slBase, cmpI, arI, Value.ite_bool, int_beq, int_bne, ite_band, ite_bor]
        by_cases h9 : e.kind = 9
        · simp [h9]
        · by_cases h10 : e.kind = 10 <;> simp [g8, h9, h10]
end Go.Proofs.YtibinelkmlcmgaaDoor.Vc
/-
  CORE: the document tells an expression's datum.
-/
namespace Go.Proofs.YtibinelkmlcmgaaDoor.Vc
open Go

theorem RSym_gives (s : List UInt8) (H : PH) : Gives Tryd.prog n_scrimshawref06_Sym [txt s] H (.agg #[.int .i64 4, .int .i64 0, txt s, .slice none 0 0]) :=
  tri_scrimshawref06_Sym [txt s] rfl rfl ⟨rfl, PH.le_refl _⟩
theorem RList_gives (b : Option Addr) (n c : Nat) (H : PH) : Gives Tryd.prog n_scrimshawref06_List [.slice b n c] H (.agg #[.int .i64 5, .int .i64 0, txt [], .slice b n c]) :=
  tri_scrimshawref06_List [.slice b n c] rfl rfl ⟨rfl, PH.le_refl _⟩
theorem RWord_gives (k : Int) (h0 : 0 ≤ k) (h1 : k ≤ 10) (H : PH) : Gives Tryd.prog n_scrimshawref06_Word [.int .i64 k] H (txt (wordL k)) := by
  refine tri_scrimshawref06_Word [.int .i64 k] rfl rfl ?_
  have hall : ∀ w ∈ wordsL, w.length ≤ maxLen := by decide
  have hcs : ∀ l : List (List UInt8), (∀ w ∈ l, w.length ≤ maxLen) → All2 (fun (a : List UInt8) v => CsR H a (Value.cells v).toList) l (l.map txt) := by
    intro l
    induction l with
    | nil => intro _; exact .nil
    | cons w l ih => intro h; exact .cons ⟨_, _, rfl, ⟨rfl, h w (List.mem_cons_self ..)⟩, rfl⟩ (ih fun x hx => h x (List.mem_cons_of_mem _ hx))
  refine den_rowLit (l := wordsL) (b := 16) (wordsL.map txt) uTxts elemTxt rfl (by decide) (by decide) (PH.le_refl H) (by kernel_rfl) (hcs _ hall) pendNil fun v S1 H1 x1 s1 _ => ?_
  have hl : k.toNat < wordsL.length := by show _ < 11; omega
  obtain ⟨g1, _, ces, g2, g3⟩ := s1.get (List.getElem?_eq_getElem hl)
  obtain ⟨rfl, _⟩ := csTxts g2
  have hlen := s1.len
  have hk : ((k.toNat : Nat) : Int) = k := by omega
  rw [hk] at g3
  obtain ⟨b, c, rfl⟩ := s1.sl
  have e : wordsL[k.toNat] = wordL k := by rw [wordL, List.getD_eq_getElem?_getD, List.getElem?_eq_getElem hl]; rfl
  rw [e] at g3
  refine ⟨fun _ => ?_, [txt (wordL k)], rfl, by simp only [ev0, ev, evV, List.cons_append, List.nil_append, List.getD_cons_zero, List.getD_cons_succ, List.map_cons, List.map_nil, iOf, bOf, sOf, pOf, slLen, slBase, cmpI, arI, Value.ite_bool, int_beq, int_bne, ite_band, ite_bor]; exact rowAt_le x1.i g3, rfl, x1.h⟩
  simp only [Chk.holds, ev0, ev, evV, List.cons_append, List.nil_append, List.getD_cons_zero, List.getD_cons_succ, List.map_cons, List.map_nil, iOf, bOf, sOf, pOf, slLen, slBase, cmpI, arI, Value.ite_bool, int_beq, int_bne, ite_band, ite_bor]; exact ⟨g1, h0, by show k < 11; omega⟩
set_option maxHeartbeats 4000000 in
theorem RData_tri : ∀ e, ToldAt n_scrimshawref06_Data e := by
  refine Xp.ind fun e ih cs H he hok hfit => ?_
  obtain ⟨nb, db, kb, nc, dc, kc, rfl, hx⟩ := Xp.Rep.open he
  obtain ⟨fn, fk, ff⟩ := (Xp.fit_iff e).1 hfit
  obtain ⟨hform, hkids⟩ := Xp.okF_form hok
  obtain ⟨hk0, hk10⟩ := exForm_kind hform
  have hw := wordL_len e.kind
  have hwm : (wordL e.kind).length ≤ maxLen := by simp only [maxLen]; omega
  have hdat := Xp.dat_eq e
  have hb : ((e.kids.map Xp.dat).length : Nat) = e.kids.length := by simp
  refine tri_scrimshawref06_Data (exVs e nb db kb nc dc kc) (by kernel_rfl) (by kernel_rfl) ?_
  refine ⟨fun g1 => ?_, fun g1 => ?_⟩
  · simp only [ev0, ev, evV, List.cons_append, List.nil_append, List.getD_cons_zero, List.getD_cons_succ, List.map_cons, List.map_nil, iOf, bOf, sOf, pOf, slLen, slBase, cmpI, arI, Value.ite_bool, int_beq, int_bne, ite_band, ite_bor, decide_eq_true_eq] at g1
    refine den_gives [.int .i64 4, .int .i64 0, txt e.name, .slice none 0 0] cb_scrimshawref06_Sym (RSym_gives e.name H) rfl pendNil fun H6 q6 => ?_
    refine ⟨[.int .i64 4, .int .i64 0, txt e.name, .slice none 0 0], rfl, q6, ?_⟩
    rw [Xp.dat_eq, datOf, if_pos g1]
    exact sym_rep hx.name
  simp only [ev0, ev, evV, List.cons_append, List.nil_append, List.getD_cons_zero, List.getD_cons_succ, List.map_cons, List.map_nil, iOf, bOf, sOf, pOf, slLen, slBase, cmpI, arI, Value.ite_bool, int_beq, int_bne, ite_band, ite_bor, decide_eq_false_iff_not] at g1
  refine den_gives [txt (wordL e.kind)] cb_scrimshawref06_Word (RWord_gives e.kind hk0 hk10 H) rfl pendNil fun H2 q2 => ?_
  have h2 := (Held.nil (PH.le_refl H)).le q2
  refine den_gives [.int .i64 4, .int .i64 0, txt (wordL e.kind), .slice none 0 0] cb_scrimshawref06_Sym (RSym_gives (wordL e.kind) H2) rfl pendNil fun H3 q3 => ?_
  have h3 := h2.le q3
  refine den_hLit (l := [symD (wordL e.kind)]) (b := 56) [.agg #[.int .i64 4, .int .i64 0, txt (wordL e.kind), .slice none 0 0]] uDats elemDat rfl (by decide) (by decide) h3 (by kernel_rfl) (.cons (sym_rep hwm) .nil) pendNil fun wv H4 h4 _ _ => ?_
  obtain ⟨wb, wc, hwv⟩ := (h4.row (List.mem_cons_self ..)).sl
  refine den_hLit0 (α := Dat) (b := 56) uDats elemDat h4 pendNil fun kv H5 h5 _ _ => ?_
  refine ⟨fun n vs H' => ∃ (k : Nat) (out : Value) (S' : PH), vs = [out, .int .i64 k] ∧ k + n = e.kids.length ∧ PH.le H S' ∧ Held S' H' [orow 25 ((e.kids.take k).map Xp.dat) out, orow 25 [symD (wordL e.kind)] wv],
    ⟨e.kids.length, 0, kv, H, rfl, by omega, PH.le_refl _, h5⟩, ?_⟩
  rintro n vs H1 _ ⟨k, out, S1, rfl, hkn, l1, h1⟩
  refine ⟨fun g => ?_, fun g => ?_⟩
  · simp only [ev0, ev, evV, List.cons_append, List.nil_append, List.getD_cons_zero, List.getD_cons_succ, List.map_cons, List.map_nil, iOf, bOf, sOf, pOf, slLen, slBase, cmpI, arI, Value.ite_bool, int_beq, int_bne, ite_band, ite_bor, decide_eq_true_eq] at g
    obtain ⟨a, ha⟩ : ∃ a, e.kids[k]? = some a := ⟨_, List.getElem?_eq_getElem (show k < e.kids.length by omega)⟩
    obtain ⟨g1, _, ces, g2, g3⟩ := (hx.kids.le l1).get ha
    have hm := List.mem_of_getElem? ha
    have htags := Xp.Rep.tags g2
    have g2' := g2
    obtain ⟨nb', db', kb', nc', dc', kc', rfl, _⟩ := Xp.Rep.open g2'
    refine ⟨fun _ => ?_, _, htags, by simp only [ev0, ev, evV, List.cons_append, List.nil_append, List.getD_cons_zero, List.getD_cons_succ, List.map_cons, List.map_nil, iOf, bOf, sOf, pOf, slLen, slBase, cmpI, arI, Value.ite_bool, int_beq, int_bne, ite_band, ite_bor]; exact rowAt_le h1.sh g3, ?_⟩
    · simp only [Chk.holds, ev0, ev, evV, List.cons_append, List.nil_append, List.getD_cons_zero, List.getD_cons_succ, List.map_cons, List.map_nil, iOf, bOf, sOf, pOf, slLen, slBase, cmpI, arI, Value.ite_bool, int_beq, int_bne, ite_band, ite_bor]; exact ⟨g1, by omega, by omega⟩
    refine den_call cb_scrimshawref06_Data (h1.pure (R := fun x S' => ∃ cs, x = .returned (.agg cs.toArray) ∧ a.dat.Rep S' cs) ((ih a hm _ S1 g2 (hkids a hm) (ff a hm)).mono fun x S' hh => by obtain ⟨cs, q1, q2, q3⟩ := hh; exact ⟨q2, cs, q1, q3⟩)) ?_
    rintro x H2 ⟨S2, l2, h2, cs2, rfl, r2⟩
    have ht2 := Dat.Rep.tags r2
    have r2' := r2
    obtain ⟨sv2, rfl, _⟩ := Dat.Rep_iff.1 r2
    refine ⟨_, _, rfl, ht2, rfl, pendNil, ?_⟩
    refine den_hPush (more := [a.dat]) (b := 56) [.agg #[.int .i64 a.dat.kind, .int .i64 a.dat.int, txt a.dat.text, sv2]] uDats elemDat rfl (by decide) (by decide) h2 (by kernel_rfl) (.cons r2' .nil) pendNil (fun _ => by kernel_rfl) (fun _ => by kernel_rfl)
      (by rw [datsLen]; simp only [maxLen, List.length_cons, List.length_nil]; omega) (by rw [datsLen]; simp only [List.length_cons, List.length_nil]; omega) fun u v' S3 H3 l3 h3 => ⟨pendNil, _, lookup_hit, n - 1, by omega, k + 1, v', S3, ?_, by omega, PH.le_trans l1 (PH.le_trans l2 l3), ?_⟩
    · simp only [ev0, ev, evV, List.cons_append, List.nil_append, List.getD_cons_zero, List.getD_cons_succ, List.map_cons, List.map_nil, iOf, bOf, sOf, pOf, slLen, slBase, cmpI, arI, Value.ite_bool, int_beq, int_bne, ite_band, ite_bor]
      rw [w64 (by omega) (by omega)]
      rfl
    · rw [List.take_add_one, ha, List.map_append]; exact h3
  simp only [ev0, ev, evV, List.cons_append, List.nil_append, List.getD_cons_zero, List.getD_cons_succ, List.map_cons, List.map_nil, iOf, bOf, sOf, pOf, slLen, slBase, cmpI, arI, Value.ite_bool, int_beq, int_bne, ite_band, ite_bor, decide_eq_false_iff_not] at g
  have hkk : k = e.kids.length := by omega
  subst hkk
  rw [List.take_length] at h1
  clear h5 h4
  refine den_hLit0 (α := Dat) (b := 56) uDats elemDat h1 pendNil fun rv H5 h5 _ _ => ?_
  have h5 := h5.perm ((List.Perm.swap _ _ _).trans ((List.Perm.swap _ _ _).cons _))
  refine ⟨fun vs H' => ∃ (kv lv rv : Value) (L K : List Dat) (S' : PH), vs = [lv, kv, rv] ∧ tagsOk [.sl, .sl, .sl] vs = true ∧ PH.le H S' ∧ Held S' H' [orow 25 L lv] ∧ SlR S' K kv ∧ e.dat = lstD (L ++ K) ∧ L.length ≤ 4 ∧ K.length ≤ 1048576, ?_, ?_⟩
  · rintro vs H6 _ ⟨kv, lv, rv, L, K, S6, rfl, _, l6, h6, hK, hd, hL4, hK4⟩
    refine den_hApp (b := 56) (more := K) uDats elemDat (by kernel_rfl) (by kernel_rfl) h6 (hK.srcS h6.sh) (by simp only [maxLen]; omega) (by omega) fun v7 H7 h7 _ => ⟨pendNil, ?_⟩
    obtain ⟨S8, s8, l8, h8⟩ := h7.freeze
    obtain ⟨b8, c8, hv7⟩ := s8.sl
    refine den_gives [.int .i64 5, .int .i64 0, txt [], v7] cb_scrimshawref06_List (by rw [hv7]; exact RList_gives b8 _ c8 H7) (by rw [hv7]; rfl) pendNil fun H8 q8 => ?_
    refine ⟨[.int .i64 5, .int .i64 0, txt [], v7], rfl, PH.le_trans l6 (PH.le_trans l8 (h8.le q8).sh), ?_⟩
    rw [hd]
    exact lst_rep (s8.le (h8.le q8).sh)
  have fin : ∀ {L : List Dat} {v : Value} {S' H' : PH} {J : List Itm}, Held S' H' (orow 25 L v :: orow 25 (e.kids.map Xp.dat) out :: J) → ∃ S'', SlR S'' (e.kids.map Xp.dat) out ∧ PH.le S' S'' ∧ Held S'' H' [orow 25 L v] := by
    intro L v S' H' J h
    obtain ⟨S8, s8, l8, h8⟩ := (h.perm (List.Perm.swap _ _ _)).freeze
    exact ⟨S8, s8, l8, h8.sub (by simp)⟩
  have h5s := h5.perm (List.Perm.swap _ _ _)
  have tg : ∀ {x y z : Value} {l1 l2 l3 : Nat} {b1 b2 b3 : Option Addr} {c1 c2 c3 : Nat}, x = .slice b1 l1 c1 → y = .slice b2 l2 c2 → z = .slice b3 l3 c3 → tagsOk [.sl, .sl, .sl] [x, y, z] = true := by
    rintro x y z l1 l2 l3 b1 b2 b3 c1 c2 c3 rfl rfl rfl; rfl
  obtain ⟨rb, rc, hrv⟩ := (h5.row (l := ([] : List Dat)) (e := 25) (v := rv) (by simp)).sl
  refine ⟨fun g0 => ?_, fun g0 => ?_⟩
  · simp only [ev0, ev, evV, List.cons_append, List.nil_append, List.getD_cons_zero, List.getD_cons_succ, List.map_cons, List.map_nil, iOf, bOf, sOf, pOf, slLen, slBase, cmpI, arI, Value.ite_bool, int_beq, int_bne, ite_band, ite_bor, decide_eq_true_eq] at g0
    have hnil := exForm_quote hform g0
    have hc : e.const.Rep S1 [.int .i64 e.const.kind, .int .i64 e.const.int, txt e.const.text, .slice db e.const.list.length dc] := Dat.Rep.le l1 _ hx.const
    refine den_hPush (more := [e.const]) (b := 56) [.agg #[.int .i64 e.const.kind, .int .i64 e.const.int, txt e.const.text, .slice db e.const.list.length dc]] uDats elemDat rfl (by decide) (by decide) h5s (by kernel_rfl) (.cons hc .nil) pendNil (fun _ => by kernel_rfl) (fun _ => by kernel_rfl)
        (by simp [maxLen]) (by simp) fun u v7 S7 H7 l7 h7 => ⟨pendNil, ?_⟩
    obtain ⟨S8, s8, l8, h8⟩ := fin h7
    obtain ⟨b1, c1, e1⟩ := (h8.row (List.mem_cons_self ..)).sl
    obtain ⟨b2, c2, e2⟩ := s8.sl
    refine ⟨_, lookup_hit, out, v7, rv, _, e.kids.map Xp.dat, S8, by simp only [ev0, ev, evV, List.cons_append, List.nil_append, List.getD_cons_zero, List.getD_cons_succ, List.map_cons, List.map_nil, iOf, bOf, sOf, pOf, slLen, slBase, cmpI, arI, Value.ite_bool, int_beq, int_bne, ite_band, ite_bor], tg e1 e2 hrv, PH.le_trans l1 (PH.le_trans l7 l8), h8, s8, ?_, by simp, by rw [hb]; exact fk⟩
    rw [hdat, datOf, if_neg g1, if_pos g0, hnil]; rfl
  simp only [ev0, ev, evV, List.cons_append, List.nil_append, List.getD_cons_zero, List.getD_cons_succ, List.map_cons, List.map_nil, iOf, bOf, sOf, pOf, slLen, slBase, cmpI, arI, Value.ite_bool, int_beq, int_bne, ite_band, ite_bor, decide_eq_false_iff_not] at g0
  refine ⟨fun g2 => ?_, fun g2 => ?_⟩
  · simp only [ev0, ev, evV, List.cons_append, List.nil_append, List.getD_cons_zero, List.getD_cons_succ, List.map_cons, List.map_nil, iOf, bOf, sOf, pOf, slLen, slBase, cmpI, arI, Value.ite_bool, int_beq, int_bne, ite_band, ite_bor, ite_self] at g2
    have g2' : e.kind = 2 ∨ e.kind = 7 := by
      by_cases h : e.kind = 2
      · exact .inl h
      · right; simpa [h] using g2
    refine den_gives [.int .i64 4, .int .i64 0, txt e.name, .slice none 0 0] cb_scrimshawref06_Sym (RSym_gives e.name _) rfl pendNil fun H6 q6 => ?_
    refine den_hPush (more := [symD e.name]) (b := 56) [.agg #[.int .i64 4, .int .i64 0, txt e.name, .slice none 0 0]] uDats elemDat rfl (by decide) (by decide) (h5s.le q6) (by kernel_rfl) (.cons (sym_rep hx.name) .nil) pendNil (fun _ => by kernel_rfl) (fun _ => by kernel_rfl)
      (by simp [maxLen]) (by simp) fun u v7 S7 H7 l7 h7 => ⟨pendNil, ?_⟩
    obtain ⟨S8, s8, l8, h8⟩ := fin h7
    obtain ⟨b1, c1, e1⟩ := (h8.row (List.mem_cons_self ..)).sl
    obtain ⟨b2, c2, e2⟩ := s8.sl
    refine ⟨_, lookup_hit, out, v7, rv, _, e.kids.map Xp.dat, S8, by simp only [ev0, ev, evV, List.cons_append, List.nil_append, List.getD_cons_zero, List.getD_cons_succ, List.map_cons, List.map_nil, iOf, bOf, sOf, pOf, slLen, slBase, cmpI, arI, Value.ite_bool, int_beq, int_bne, ite_band, ite_bor], tg e1 e2 hrv, PH.le_trans l1 (PH.le_trans l7 l8), h8, s8, ?_, by simp, by rw [hb]; exact fk⟩
    rw [hdat, datOf, if_neg g1, if_neg g0, if_pos g2']; rfl
  have g2' : ¬ (e.kind = 2 ∨ e.kind = 7) := by
    rintro (h | h) <;> simp [ev0, ev, evV, List.cons_append, List.nil_append, List.getD_cons_zero, List.getD_cons_succ, List.map_cons, List.map_nil, iOf, bOf, sOf, pOf, slLen, slBase, cmpI, arI, Value.ite_bool, int_beq, int_bne, ite_band, ite_bor, h] at g2
  refine ⟨fun g5 => ?_, fun g5 => ?_⟩
  · simp only [ev0, ev, evV, List.cons_append, List.nil_append, List.getD_cons_zero, List.getD_cons_succ, List.map_cons, List.map_nil, iOf, bOf, sOf, pOf, slLen, slBase, cmpI, arI, Value.ite_bool, int_beq, int_bne, ite_band, ite_bor, decide_eq_true_eq] at g5
    have h5r : Held S1 _ [orow 25 ([] : List Dat) rv, orow 25 [symD (wordL e.kind)] wv, orow 25 (e.kids.map Xp.dat) out] := h5.perm (((List.Perm.swap _ _ _).cons _).trans ((List.Perm.swap _ _ _).trans ((List.Perm.swap _ _ _).cons _)))
    refine ⟨fun n vs H' => ∃ (k : Nat) (lv : Value) (S' : PH), vs = [lv, .int .i64 k] ∧ k + n = e.names.length ∧ PH.le H S' ∧ Held S' H' [orow 25 ((e.names.take k).map symD) lv, orow 25 [symD (wordL e.kind)] wv, orow 25 (e.kids.map Xp.dat) out],
      ⟨e.names.length, 0, rv, S1, by simp only [ev0, ev, evV, List.cons_append, List.nil_append, List.getD_cons_zero, List.getD_cons_succ, List.map_cons, List.map_nil, iOf, bOf, sOf, pOf, slLen, slBase, cmpI, arI, Value.ite_bool, int_beq, int_bne, ite_band, ite_bor]; rfl, by omega, l1, h5r⟩, ?_⟩
    rintro n vs H7 _ ⟨k, lv, S7, rfl, hkn, l7, h7⟩
    refine ⟨fun g => ?_, fun g => ?_⟩
    · simp only [ev0, ev, evV, List.cons_append, List.nil_append, List.getD_cons_zero, List.getD_cons_succ, List.map_cons, List.map_nil, iOf, bOf, sOf, pOf, slLen, slBase, cmpI, arI, Value.ite_bool, int_beq, int_bne, ite_band, ite_bor, decide_eq_true_eq] at g
      obtain ⟨a, ha⟩ : ∃ a, e.names[k]? = some a := ⟨_, List.getElem?_eq_getElem (show k < e.names.length by omega)⟩
      obtain ⟨g3, _, ces, g4, g6⟩ := (hx.names.le l7).get ha
      obtain ⟨rfl, hal⟩ := csTxts g4
      refine ⟨fun _ => ?_, [txt a], rfl, by simp only [ev0, ev, evV, List.cons_append, List.nil_append, List.getD_cons_zero, List.getD_cons_succ, List.map_cons, List.map_nil, iOf, bOf, sOf, pOf, slLen, slBase, cmpI, arI, Value.ite_bool, int_beq, int_bne, ite_band, ite_bor]; exact rowAt_le h7.sh g6, ?_⟩
      · simp only [Chk.holds, ev0, ev, evV, List.cons_append, List.nil_append, List.getD_cons_zero, List.getD_cons_succ, List.map_cons, List.map_nil, iOf, bOf, sOf, pOf, slLen, slBase, cmpI, arI, Value.ite_bool, int_beq, int_bne, ite_band, ite_bor]; exact ⟨g3, by omega, by omega⟩
      refine den_gives [.int .i64 4, .int .i64 0, txt a, .slice none 0 0] cb_scrimshawref06_Sym (RSym_gives a H7) rfl pendNil fun H8 q8 => ?_
      refine den_hPush (more := [symD a]) (b := 56) [.agg #[.int .i64 4, .int .i64 0, txt a, .slice none 0 0]] uDats elemDat rfl (by decide) (by decide) (h7.le q8) (by kernel_rfl) (.cons (sym_rep hal) .nil) pendNil (fun _ => by kernel_rfl) (fun _ => by kernel_rfl)
        (by simp only [maxLen, List.length_map, List.length_take, List.length_cons, List.length_nil]; omega) (by simp only [List.length_map, List.length_take, List.length_cons, List.length_nil]; omega) fun u v9 S9 H9 l9 h9 => ⟨pendNil, _, lookup_hit, n - 1, by omega, k + 1, v9, S9, ?_, by omega, PH.le_trans l7 l9, ?_⟩
      · simp only [ev0, ev, evV, List.cons_append, List.nil_append, List.getD_cons_zero, List.getD_cons_succ, List.map_cons, List.map_nil, iOf, bOf, sOf, pOf, slLen, slBase, cmpI, arI, Value.ite_bool, int_beq, int_bne, ite_band, ite_bor]
        rw [w64 (by omega) (by omega)]
        rfl
      · rw [List.take_add_one, ha, List.map_append]; exact h9
    · simp only [ev0, ev, evV, List.cons_append, List.nil_append, List.getD_cons_zero, List.getD_cons_succ, List.map_cons, List.map_nil, iOf, bOf, sOf, pOf, slLen, slBase, cmpI, arI, Value.ite_bool, int_beq, int_bne, ite_band, ite_bor, decide_eq_false_iff_not] at g
      have hkk : k = e.names.length := by omega
      subst hkk
      rw [List.take_length] at h7
      obtain ⟨S8, s8, l8, h8⟩ := h7.freeze
      obtain ⟨bb, bc, hlv⟩ := s8.sl
      refine den_gives [.int .i64 5, .int .i64 0, txt [], lv] cb_scrimshawref06_List (by rw [hlv]; exact RList_gives bb _ bc H7) (by rw [hlv]; rfl) pendNil fun H9 q9 => ?_
      refine den_hPush (more := [lstD (e.names.map symD)]) (b := 56) [.agg #[.int .i64 5, .int .i64 0, txt [], lv]] uDats elemDat rfl (by decide) (by decide) (h8.le q9) (by kernel_rfl) (.cons (lst_rep s8) .nil) pendNil (fun _ => by kernel_rfl) (fun _ => by kernel_rfl)
        (by simp [maxLen]) (by simp) fun u v9 S9 H9 l9 h9 => ⟨pendNil, ?_⟩
      obtain ⟨Sa, sa, la, ha⟩ := fin h9
      obtain ⟨b1, c1, e1⟩ := (ha.row (List.mem_cons_self ..)).sl
      obtain ⟨b2, c2, e2⟩ := sa.sl
      refine ⟨_, (lookup_miss (by decide)).trans lookup_hit, out, v9, lv, _, e.kids.map Xp.dat, Sa, by simp only [ev0, ev, evV, List.cons_append, List.nil_append, List.getD_cons_zero, List.getD_cons_succ, List.map_cons, List.map_nil, iOf, bOf, sOf, pOf, slLen, slBase, cmpI, arI, Value.ite_bool, int_beq, int_bne, ite_band, ite_bor], tg e1 e2 hlv, PH.le_trans l7 (PH.le_trans l8 (PH.le_trans l9 la)), ha, sa, ?_, by simp, by rw [hb]; exact fk⟩
      rw [hdat, datOf, if_neg g1, if_neg g0, if_neg g2', if_pos g5]; rfl
  simp only [ev0, ev, evV, List.cons_append, List.nil_append, List.getD_cons_zero, List.getD_cons_succ, List.map_cons, List.map_nil, iOf, bOf, sOf, pOf, slLen, slBase, cmpI, arI, Value.ite_bool, int_beq, int_bne, ite_band, ite_bor, decide_eq_false_iff_not] at g5
  refine ⟨fun vs H' => vs = [.bool (decide (e.kind = 8 ∨ e.kind = 9 ∨ e.kind = 10))] ∧ Held S1 H' [orow 25 (e.kids.map Xp.dat) out, orow 25 [symD (wordL e.kind)] wv, orow 25 ([] : List Dat) rv], ?_, ?_⟩
  · clear h5 h5s
    rintro vs H6 _ ⟨rfl, h5⟩
    refine ⟨fun g8 => ?_, fun g8 => ?_⟩
    · simp only [ev0, ev, evV, List.cons_append, List.nil_append, List.getD_cons_zero, List.getD_cons_succ, List.map_cons, List.map_nil, iOf, bOf, sOf, pOf, slLen, slBase, cmpI, arI, Value.ite_bool, int_beq, int_bne, ite_band, ite_bor, decide_eq_true_eq] at g8
      have hkl := exForm_lets hform g8
      obtain ⟨S7, s7, l7, h7⟩ := h5.freeze
      have h7 := h7.perm (List.Perm.swap _ _ _)
      refine ⟨fun n vs H' => ∃ (k : Nat) (lv : Value) (S' : PH), vs = [lv, .int .i64 k] ∧ k + n = e.names.length ∧ PH.le S7 S' ∧ Held S' H' [orow 25 ((List.zipWith bindD e.names (e.kids.map Xp.dat)).take k) lv, orow 25 [symD (wordL e.kind)] wv],
        ⟨e.names.length, 0, rv, S7, by simp only [ev0, ev, evV, List.cons_append, List.nil_append, List.getD_cons_zero, List.getD_cons_succ, List.map_cons, List.map_nil, iOf, bOf, sOf, pOf, slLen, slBase, cmpI, arI, Value.ite_bool, int_beq, int_bne, ite_band, ite_bor]; rfl, by omega, PH.le_refl _, h7⟩, ?_⟩
      rintro n vs H8 _ ⟨k, lv, S8, rfl, hkn, l8, h8⟩
      have hzl : (List.zipWith bindD e.names (e.kids.map Xp.dat)).length = e.names.length := by simp; omega
      refine ⟨fun g => ?_, fun g => ?_⟩
      · simp only [ev0, ev, evV, List.cons_append, List.nil_append, List.getD_cons_zero, List.getD_cons_succ, List.map_cons, List.map_nil, iOf, bOf, sOf, pOf, slLen, slBase, cmpI, arI, Value.ite_bool, int_beq, int_bne, ite_band, ite_bor, decide_eq_true_eq] at g
        obtain ⟨a, ha⟩ : ∃ a, e.names[k]? = some a := ⟨_, List.getElem?_eq_getElem (show k < e.names.length by omega)⟩
        obtain ⟨q, hq⟩ : ∃ q, (e.kids.map Xp.dat)[k]? = some q := ⟨_, List.getElem?_eq_getElem (show k < (e.kids.map Xp.dat).length by rw [hb]; omega)⟩
        obtain ⟨g3, _, ces, g4, g6⟩ := (hx.names.le (PH.le_trans l1 (PH.le_trans l7 l8))).get ha
        obtain ⟨rfl, hal⟩ := csTxts g4
        obtain ⟨p3, _, ces, p4, p6⟩ := (s7.le l8).get hq
        have pt := Dat.Rep.tags p4
        have p4' := p4
        obtain ⟨sq, rfl, _⟩ := Dat.Rep_iff.1 p4'
        obtain ⟨ob1, oc1, rfl⟩ := s7.sl
        refine ⟨fun _ => ?_, [txt a], rfl, by simp only [ev0, ev, evV, List.cons_append, List.nil_append, List.getD_cons_zero, List.getD_cons_succ, List.map_cons, List.map_nil, iOf, bOf, sOf, pOf, slLen, slBase, cmpI, arI, Value.ite_bool, int_beq, int_bne, ite_band, ite_bor]; exact rowAt_le h8.sh g6, fun _ => ?_, _, pt, by simp only [ev0, ev, evV, List.cons_append, List.nil_append, List.getD_cons_zero, List.getD_cons_succ, List.map_cons, List.map_nil, iOf, bOf, sOf, pOf, slLen, slBase, cmpI, arI, Value.ite_bool, int_beq, int_bne, ite_band, ite_bor]; exact rowAt_le h8.sh p6, ?_⟩
        · simp only [Chk.holds, ev0, ev, evV, List.cons_append, List.nil_append, List.getD_cons_zero, List.getD_cons_succ, List.map_cons, List.map_nil, iOf, bOf, sOf, pOf, slLen, slBase, cmpI, arI, Value.ite_bool, int_beq, int_bne, ite_band, ite_bor]; exact ⟨g3, by omega, by omega⟩
        · simp only [Chk.holds, ev0, ev, evV, List.cons_append, List.nil_append, List.getD_cons_zero, List.getD_cons_succ, List.map_cons, List.map_nil, iOf, bOf, sOf, pOf, slLen, slBase, cmpI, arI, Value.ite_bool, int_beq, int_bne, ite_band, ite_bor]; exact ⟨p3, by omega, by rw [hb]; omega⟩
        refine den_gives [.int .i64 4, .int .i64 0, txt a, .slice none 0 0] cb_scrimshawref06_Sym (RSym_gives a H8) rfl ?_ fun H9 q9 => ?_
        · intro x hx'
          rw [List.mem_singleton.1 hx']
          simp only [ev0, ev, evV, List.cons_append, List.nil_append, List.getD_cons_zero, List.getD_cons_succ, List.map_cons, List.map_nil, iOf, bOf, sOf, pOf, slLen, slBase, cmpI, arI, Value.ite_bool, int_beq, int_bne, ite_band, ite_bor]
          exact rowAt_le h8.sh p6
        have h9 := h8.le q9
        refine den_rowLit (l := [symD a, q]) (b := 56) [.agg #[.int .i64 4, .int .i64 0, txt a, .slice none 0 0], .agg #[.int .i64 q.kind, .int .i64 q.int, txt q.text, sq]] uDats elemDat rfl (by decide) (by decide) h9.sh (by kernel_rfl) (.cons (sym_rep hal) (.cons p4 .nil)) pendNil fun va Sa Ha xa sa _ => ?_
        have h10 := h9.ext xa
        obtain ⟨ba, ca, hva⟩ := sa.sl
        refine den_gives [.int .i64 5, .int .i64 0, txt [], va] cb_scrimshawref06_List (by rw [hva]; exact RList_gives ba _ ca Ha) (by rw [hva]; rfl) pendNil fun Hb qb => ?_
        refine den_hPush (more := [bindD a q]) (b := 56) [.agg #[.int .i64 5, .int .i64 0, txt [], va]] uDats elemDat rfl (by decide) (by decide) (h10.le qb) (by kernel_rfl) (.cons (lst_rep sa) .nil) pendNil (fun _ => by kernel_rfl) (fun _ => by kernel_rfl)
          (by simp only [maxLen, hzl, List.length_take, List.length_cons, List.length_nil]; omega) (by simp only [hzl, List.length_take, List.length_cons, List.length_nil]; omega) fun u vc Sc Hc lc hc => ⟨pendNil, _, lookup_hit, n - 1, by omega, k + 1, vc, Sc, ?_, by omega, PH.le_trans l8 (PH.le_trans xa.s lc), ?_⟩
        · simp only [ev0, ev, evV, List.cons_append, List.nil_append, List.getD_cons_zero, List.getD_cons_succ, List.map_cons, List.map_nil, iOf, bOf, sOf, pOf, slLen, slBase, cmpI, arI, Value.ite_bool, int_beq, int_bne, ite_band, ite_bor]
          rw [w64 (by omega) (by omega)]
          rfl
        · have : (List.zipWith bindD e.names (e.kids.map Xp.dat))[k]? = some (bindD a q) := by rw [List.getElem?_zipWith, ha, hq]
          rw [List.take_add_one, this]; exact hc
      · simp only [ev0, ev, evV, List.cons_append, List.nil_append, List.getD_cons_zero, List.getD_cons_succ, List.map_cons, List.map_nil, iOf, bOf, sOf, pOf, slLen, slBase, cmpI, arI, Value.ite_bool, int_beq, int_bne, ite_band, ite_bor, decide_eq_false_iff_not] at g
        have hkk : k = e.names.length := by omega
        subst hkk
        rw [List.take_of_length_le (by rw [hzl]; exact Nat.le_refl _)] at h8
        obtain ⟨S9, s9, l9, h9⟩ := h8.freeze
        obtain ⟨bb, bc, hlv⟩ := s9.sl
        refine den_gives [.int .i64 5, .int .i64 0, txt [], lv] cb_scrimshawref06_List (by rw [hlv]; exact RList_gives bb _ bc H8) (by rw [hlv]; rfl) pendNil fun H9 q9 => ?_
        refine den_hPush (more := [lstD (List.zipWith bindD e.names (e.kids.map Xp.dat))]) (b := 56) [.agg #[.int .i64 5, .int .i64 0, txt [], lv]] uDats elemDat rfl (by decide) (by decide) (h9.le q9) (by kernel_rfl) (.cons (lst_rep s9) .nil) pendNil (fun _ => by kernel_rfl) (fun _ => by kernel_rfl)
          (by simp [maxLen]) (by simp) fun u va Sa Ha la ha => ⟨pendNil, ?_⟩
        have hs7 := s7.le (PH.le_trans l8 (PH.le_trans l9 la))
        have hcut := hs7.cut (a := e.names.length) (b := (e.kids.map Xp.dat).length) (by rw [hb]; omega) (Nat.le_refl _)
        rw [List.take_length] at hcut
        obtain ⟨ob1, oc1, rfl⟩ := hs7.sl
        have hcap := hs7.capLe
        obtain ⟨b1, c1, e1⟩ := (ha.row (List.mem_cons_self ..)).sl
        obtain ⟨b2, c2, e2⟩ := hcut.sl
        refine ⟨fun _ => ?_, ?_⟩
        · simp only [Chk.holds, ev0, ev, evV, List.cons_append, List.nil_append, List.getD_cons_zero, List.getD_cons_succ, List.map_cons, List.map_nil, iOf, bOf, sOf, pOf, slLen, slBase, cmpI, arI, Value.ite_bool, int_beq, int_bne, ite_band, ite_bor, slCap]; rw [hb] at *; omega
        refine ⟨_, (lookup_miss (by decide)).trans lookup_hit, _, va, lv, _, (e.kids.map Xp.dat).drop e.names.length, Sa, by simp only [ev0, ev, evV, List.cons_append, List.nil_append, List.getD_cons_zero, List.getD_cons_succ, List.map_cons, List.map_nil, iOf, bOf, sOf, pOf, slLen, slBase, cmpI, arI, Value.ite_bool, int_beq, int_bne, ite_band, ite_bor]; rfl, tg e1 e2 hlv, PH.le_trans l1 (PH.le_trans l7 (PH.le_trans l8 (PH.le_trans l9 la))), ha, hcut, ?_, by simp, by rw [List.length_drop, hb]; omega⟩
        rw [hdat, datOf, if_neg g1, if_neg g0, if_neg g2', if_neg g5, if_pos g8]; rfl
    · simp only [ev0, ev, evV, List.cons_append, List.nil_append, List.getD_cons_zero, List.getD_cons_succ, List.map_cons, List.map_nil, iOf, bOf, sOf, pOf, slLen, slBase, cmpI, arI, Value.ite_bool, int_beq, int_bne, ite_band, ite_bor, decide_eq_false_iff_not] at g8
      obtain ⟨S7, s7, l7, h7⟩ := h5.freeze
      obtain ⟨b2, c2, e2⟩ := s7.sl
      refine ⟨_, lookup_hit, out, wv, rv, _, e.kids.map Xp.dat, S7, by simp only [ev0, ev, evV, List.cons_append, List.nil_append, List.getD_cons_zero, List.getD_cons_succ, List.map_cons, List.map_nil, iOf, bOf, sOf, pOf, slLen, slBase, cmpI, arI, Value.ite_bool, int_beq, int_bne, ite_band, ite_bor], tg hwv e2 hrv, PH.le_trans l1 l7, h7.sub ((List.nil_sublist _).cons_cons _), s7, ?_, by simp, by rw [hb]; exact fk⟩
      rw [hdat, datOf, if_neg g1, if_neg g0, if_neg g2', if_neg g5, if_neg g8]; rfl
  · refine ⟨fun g8 => ?_, fun g8 => ?_⟩
    · simp only [ev0, ev, evV, List.cons_append, List.nil_append, List.getD_cons_zero, List.getD_cons_succ, List.map_cons, List.map_nil, iOf, bOf, sOf, pOf, slLen, slBase, cmpI, arI, Value.ite_bool, int_beq, int_bne, ite_band, ite_bor, decide_eq_true_eq] at g8
      refine ⟨_, lookup_hit, ?_, h5⟩
      simp only [ev0, ev, evV, List.cons_append, List.nil_append, List.getD_cons_zero, List.getD_cons_succ, List.map_cons, List.map_nil, iOf, bOf, sOf, pOf, slLen, slBase, cmpI, arI, Value.ite_bool, int_beq, int_bne, ite_band, ite_bor, g8]; rfl
    · simp only [ev0, ev, evV, List.cons_append, List.nil_append, List.getD_cons_zero, List.getD_cons_succ, List.map_cons, List.map_nil, iOf, bOf, sOf, pOf, slLen, slBase, cmpI, arI, Value.ite_bool, int_beq, int_bne, ite_band, ite_bor, decide_eq_false_iff_not] at g8
      refine ⟨_, lookup_hit, ?_, h5⟩
      simp only [ev0, ev, evV, List.cons_append, List.nil_append, List.getD_cons_zero, List.getD_cons_succ, List.map_cons, List.map_nil, iOf, bOf, sOf, pOf, slLen, slBase, cmpI, arI, Value.ite_bool, int_beq, int_bne, ite_band, ite_bor]
      by_cases h9 : e.kind = 9
      · simp [h9]
      · by_cases h10 : e.kind = 10 <;> simp [g8, h9, h10]
end Go.Proofs.YtibinelkmlcmgaaDoor.Vc
/-
  CORE: what new names are good for: none is bound twice, none is free, what is free stays, and the shape. No program in sight.
-/
namespace Go.Proofs.YtibinelkmlcmgaaDoor.Vc
open Go

theorem Xps.shp_ren (used : List (List UInt8)) (az inner : List (List UInt8 × Nat)) (k : Int) : ∀ (l : List Xp), (∀ e ∈ l, ∀ az n, shpB e (e.ren used az n).1 = true) → ∀ n, shpsB l (Xps.ren used az inner k l n).1 = true
  | [], _, n => by simp only [Xps.ren, shpsB]
  | e :: l, h, n => by
    simp only [Xps.ren, shpsB]
    rw [h e (List.mem_cons_self ..), Xps.shp_ren used az inner k l (fun e he => h e (List.mem_cons_of_mem _ he))]; rfl
theorem Xp.shp_ren (used : List (List UInt8)) : ∀ (e : Xp) (az : List (List UInt8 × Nat)) (n : Nat), shpB e (e.ren used az n).1 = true := by
  refine Xp.ind fun e ih az n => ?_
  rw [shpB_eq]
  have hk : (e.ren used az n).1.kids = (Xps.ren used az (az ++ e.names.zip (newsN used e.names n).1) e.kind e.kids (newsN used e.names n).2).1 := by rw [Xp.ren_eq]; rfl
  rw [hk, Xps.shp_ren used az _ e.kind e.kids ih, Bool.and_true]
  have h1 : (e.ren used az n).1.kind = e.kind := ren_kind used az e n
  have h2 : (e.ren used az n).1.names.length = e.names.length := by rw [Xp.ren_eq]; show ((newsN used e.names n).1.map newL).length = _; rw [List.length_map, newsN_len]
  have h3 : (e.ren used az n).1.kids.length = e.kids.length := by rw [hk, Xps.ren_len]
  have h4 : (e.ren used az n).1.const = e.const := by rw [Xp.ren_eq]; rfl
  have h5 : (e.ren used az n).1.name = nameR az e.kind e.name := by rw [Xp.ren_eq]; rfl
  unfold headB
  rw [h1, h2, h3, h4, h5]
  by_cases h7 : e.kind = 7
  · rw [nameR_no (by omega)]; simp
  · simp [h7]
theorem nodup_take {l : List (List UInt8)} (h : l.Nodup) {i : Nat} {s : List UInt8} (hi : l[i]? = some s) : s ∉ l.take i := by
  intro hm
  obtain ⟨j, hj, he⟩ := List.mem_iff_getElem.1 hm
  rw [List.length_take] at hj
  rw [List.getElem_take] at he
  obtain ⟨hi1, hi2⟩ := List.getElem?_eq_some_iff.1 hi
  have := (List.pairwise_iff_getElem.1 h) j i (by omega) hi1 (by omega)
  exact this (by rw [he, hi2])
theorem fr_all : ∀ (e : Xp) (bl : List (List UInt8)), ∀ s ∈ e.fr bl, s ∈ e.all := by
  refine Xp.ind fun e ih bl s hs => ?_
  rw [Xp.fr_eq] at hs
  rw [Xp.all_eq]
  rcases List.mem_append.1 hs with h | h
  · split at h
    · rename_i h1
      rw [List.mem_singleton.1 h]
      have h7 : ¬ e.kind = 7 := by omega
      rw [if_neg h7]; simp
    · cases h
  · obtain ⟨k, hk, b, h⟩ := Xps.mem_fr h
    have h1 := ih k hk b s h
    have : ∀ l : List Xp, k ∈ l → s ∈ Xps.all l := by
      intro l
      induction l with
      | nil => intro h; cases h
      | cons x l il =>
        intro h
        simp only [Xps.all]
        rcases List.mem_cons.1 h with rfl | h
        · exact List.mem_append_left _ h1
        · exact List.mem_append_right _ (il h)
    exact List.mem_append_right _ (this _ hk)
theorem unique_plain {e : Xp} (h : (e.chk true 0 0).2 = 0) : (∀ i s, (renameX e).bnd[i]? = some s → s ∉ (renameX e).bnd.take i ∧ s ∉ freeS (e.fr [])) ∧ freeS ((renameX e).fr []) = freeS (e.fr []) ∧ shpB e (renameX e) = true ∧ ((renameX e).chk true 0 0).2 = 0 := by
  refine ⟨?_, ?_, ?_, renameX_chk h⟩
  · intro i s hi
    rw [renameX, if_pos h] at hi ⊢
    obtain ⟨_, _, ks, h3, h4, h5⟩ := Xp.nums e.all e [] 0
    rw [h3] at hi ⊢
    have hnd : (ks.map newL).Nodup := List.pairwise_map.2 (h4.imp fun hlt he => by have := newL_inj he; omega)
    refine ⟨nodup_take hnd hi, fun hm => ?_⟩
    rw [mem_freeS] at hm
    obtain ⟨q, hq, rfl⟩ := List.mem_map.1 (List.mem_of_getElem? hi)
    exact (h5 q hq).2.2 (fr_all e [] _ hm)
  · rw [renameX, if_pos h]
    have := Xp.fr_ren e.all e [] 0 (fun s hs => hs) (fun x hx => by cases hx)
    exact congrArg freeS this
  · rw [renameX, if_pos h]; exact Xp.shp_ren e.all e [] 0
end Go.Proofs.YtibinelkmlcmgaaDoor.Vc
/-
  CORE: the walk of CoreUnique, given that the fixed calls answer as they should.
-/
namespace Go.Proofs.YtibinelkmlcmgaaDoor.Vc
open Go Go.Sort

theorem CoreUnique_gives (hfix : ∀ H, Tab H → Gives Tryd.prog n_scrimshawlaw06_fixed [] H (.bool true)) (e : Xp) (cs : List Value) (H : PH) (he : e.Rep H cs) (hT : Tab H) : Gives Tryd.prog n_scrimshawlaw06_CoreUnique [.agg cs.toArray] H (.bool true) := by
  have he' := he
  obtain ⟨nb, db, kb, nc, dc, kc, rfl, hx⟩ := Xp.Rep.open he
  refine tri_scrimshawlaw06_CoreUnique (exVs e nb db kb nc dc kc) (by kernel_rfl) (by kernel_rfl) ?_
  refine ⟨fun vs H' => vs = [.bool (decide ((e.chk true 0 0).2 ≠ 0))] ∧ PH.le H H', ?_, ?_⟩
  · rintro vs H1 _ ⟨rfl, l1⟩
    refine ⟨fun g => ?_, fun g => ?_⟩
    · refine den_gives [.bool true] cb_scrimshawlaw06_fixed (hfix H1 (hT.le l1)) rfl pendNil fun H2 l2 => ⟨rfl, PH.le_trans l1 l2⟩
    simp only [ev0, ev, evV, List.cons_append, List.nil_append, List.getD_cons_zero, List.getD_cons_succ, List.map_cons, List.map_nil, iOf, bOf, sOf, pOf, slLen, slBase, cmpI, arI, Value.ite_bool, int_beq, int_bne, ite_band, ite_bor, decide_eq_false_iff_not, ne_eq, Decidable.not_not] at g
    obtain ⟨p1, p2, p3, p4⟩ := unique_plain g
    obtain ⟨_, hbn, hal⟩ := chk_bounds g
    have hsz := chk_size g
    have hbn' := (chk_bounds p4).2.1
    have hsz' := chk_size p4
    refine den_call cb_core_Rename (CRename_tri e _ H1 (Xp.Rep.le l1 e he') (hT.le l1)) ?_
    rintro x H2 ⟨cs2, rfl, r2, l2⟩
    have r2' := r2
    obtain ⟨nb2, db2, kb2, nc2, dc2, kc2, rfl, hx2⟩ := Xp.Rep.open r2'
    refine ⟨_, exVs (renameX e) nb2 db2 kb2 nc2 dc2 kc2, rfl, rfl, rfl, pendNil, ?_⟩
    refine den_call cb_scrimshawlaw06_bound (bound_tri (renameX e) _ H2 H2 [] (.slice none 0 0) (PH.le_refl _) r2 (Row.nil _ _ _) (by simp only [List.length_nil]; omega)) ?_
    rintro x H3 ⟨v3, rfl, row3, l3⟩
    rw [List.nil_append] at row3
    obtain ⟨b3, c3, rfl⟩ := row3.sl
    refine ⟨_, [_], rfl, rfl, rfl, pendNil, ?_⟩
    refine den_call cb_core_Free (CFree_tri e _ H3 (Xp.Rep.le (PH.le_trans l1 (PH.le_trans l2 l3)) e he') (by omega) (by omega)) ?_
    rintro x H4 ⟨v4, rfl, s4, l4⟩
    obtain ⟨b4, c4, rfl⟩ := s4.sl
    refine ⟨_, [_], rfl, rfl, rfl, pendNil, ?_⟩
    refine ⟨fun n vs H' => ∃ k : Nat, vs = [.bool false, .int .i64 k] ∧ k + n = (renameX e).bnd.length ∧ PH.le H4 H', ⟨_, 0, rfl, Nat.zero_add _, PH.le_refl _⟩, ?_⟩
    rintro n vs H5 _ ⟨k, rfl, hkn, l5⟩
    have row5 := row3.ext (Ext.of_le l3 (PH.le_trans l4 l5))
    have l25 := PH.le_trans l3 (PH.le_trans l4 l5)
    have l05 := PH.le_trans l1 (PH.le_trans l2 l25)
    refine ⟨fun g2 => ?_, fun g2 => ?_⟩
    · simp only [ev0, ev, evV, List.cons_append, List.nil_append, List.getD_cons_zero, List.getD_cons_succ, List.map_cons, List.map_nil, iOf, bOf, sOf, pOf, slLen, slBase, cmpI, arI, Value.ite_bool, int_beq, int_bne, ite_band, ite_bor, decide_eq_true_eq] at g2
      obtain ⟨s, hs⟩ : ∃ s, (renameX e).bnd[k]? = some s := ⟨_, List.getElem?_eq_getElem (show k < (renameX e).bnd.length by omega)⟩
      obtain ⟨q1, q2⟩ := p1 k s hs
      obtain ⟨g1, _, ces, g5, g6⟩ := (row5.slR l25).get hs
      obtain ⟨rfl, _⟩ := csTxts g5
      have hcap : (renameX e).bnd.length ≤ c3 := by
        obtain ⟨xs, ho, _⟩ := row3.own
        rcases ho.2 with ⟨_, hz⟩ | ⟨g, cap, cur, e1, _, hc, _⟩
        · omega
        · cases e1; exact hc
      refine ⟨fun vs H' => vs = [.bool false] ∧ PH.le H4 H', ?_, ?_⟩
      · rintro vs H6 _ ⟨rfl, l6⟩
        refine ⟨fun h => absurd h (by simp [ev0, ev, evV, List.cons_append, List.nil_append, List.getD_cons_zero, List.getD_cons_succ, List.map_cons, List.map_nil, iOf, bOf, sOf, pOf, slLen, slBase, cmpI, arI, Value.ite_bool]), fun _ => ⟨_, lookup_hit, n - 1, by omega, k + 1, ?_, by omega, l6⟩⟩
        simp only [ev0, ev, evV, List.cons_append, List.nil_append, List.getD_cons_zero, List.getD_cons_succ, List.map_cons, List.map_nil, iOf, bOf, sOf, pOf, slLen, slBase, cmpI, arI, Value.ite_bool, int_beq, int_bne, ite_band, ite_bor]
        rw [w64 (by omega) (by omega)]
        rfl
      refine ⟨fun _ => ?_, fun _ => ?_, [txt s], rfl, by simp only [ev0, ev, evV, List.cons_append, List.nil_append, List.getD_cons_zero, List.getD_cons_succ, List.map_cons, List.map_nil, iOf, bOf, sOf, pOf, slLen, slBase, cmpI, arI, Value.ite_bool, int_beq, int_bne, ite_band, ite_bor]; exact g6, ?_⟩
      · simp only [Chk.holds, ev0, ev, evV, List.cons_append, List.nil_append, List.getD_cons_zero, List.getD_cons_succ, List.map_cons, List.map_nil, iOf, bOf, sOf, pOf, slLen, slBase, cmpI, arI, Value.ite_bool, int_beq, int_bne, ite_band, ite_bor, slCap]; omega
      · simp only [Chk.holds, ev0, ev, evV, List.cons_append, List.nil_append, List.getD_cons_zero, List.getD_cons_succ, List.map_cons, List.map_nil, iOf, bOf, sOf, pOf, slLen, slBase, cmpI, arI, Value.ite_bool, int_beq, int_bne, ite_band, ite_bor]; exact ⟨g1, by omega, by omega⟩
      have ht := row5.take (m := k) (by omega) (by omega)
      refine den_gives [.bool (((renameX e).bnd.take k).contains s)] cb_scrimshawref06_Has (Has_gives _ s _ H5 (ht.1.slR l25)) rfl pendNil fun H6 l6 => ?_
      rw [con_f q1]
      refine ⟨fun h => absurd h (by simp [ev0, ev, evV, List.cons_append, List.nil_append, List.getD_cons_zero, List.getD_cons_succ, List.map_cons, List.map_nil, iOf, bOf, sOf, pOf, slLen, slBase, cmpI, arI, Value.ite_bool]), fun _ => ?_⟩
      refine ⟨[txt s], rfl, by simp only [ev0, ev, evV, List.cons_append, List.nil_append, List.getD_cons_zero, List.getD_cons_succ, List.map_cons, List.map_nil, iOf, bOf, sOf, pOf, slLen, slBase, cmpI, arI, Value.ite_bool, int_beq, int_bne, ite_band, ite_bor]; exact rowAt_le l6 g6, ?_⟩
      refine den_gives [.bool ((freeS (e.fr [])).contains s)] cb_scrimshawref06_Has (Has_gives _ s _ H6 (s4.le (PH.le_trans l5 l6))) rfl pendNil fun H7 l7 => ⟨_, lookup_hit, ?_, PH.le_trans l5 (PH.le_trans l6 l7)⟩
      simp only [ev0, ev, evV, List.cons_append, List.nil_append, List.getD_cons_zero, List.getD_cons_succ, List.map_cons, List.map_nil, iOf, bOf, sOf, pOf, slLen, slBase, cmpI, arI, Value.ite_bool, int_beq, int_bne, ite_band, ite_bor, con_f q2]
    · refine ⟨fun vs H' => vs = [.bool true] ∧ PH.le H H', ?_, ?_⟩
      · rintro vs H6 _ ⟨rfl, l6⟩
        exact ⟨rfl, l6⟩
      refine den_gives [.int .i64 ((renameX e).chk true 0 0).2] cb_core_Check (CCheckF_gives (renameX e) _ H5 (Xp.Rep.le l25 _ r2)) rfl pendNil fun H6 l6 => ⟨fun _ => ?_, fun h => absurd h (by simp [ev0, ev, evV, List.cons_append, List.nil_append, List.getD_cons_zero, List.getD_cons_succ, List.map_cons, List.map_nil, iOf, bOf, sOf, pOf, slLen, slBase, cmpI, arI, Value.ite_bool, p4])⟩
      refine den_call cb_core_Free (CFree_tri (renameX e) _ H6 (Xp.Rep.le (PH.le_trans l25 l6) _ r2) (by omega) (by omega)) ?_
      rintro x H7 ⟨v7, rfl, s7, l7⟩
      obtain ⟨b7, c7, rfl⟩ := s7.sl
      refine ⟨_, [_], rfl, rfl, rfl, pendNil, ?_⟩
      refine den_gives [.bool (decide (freeS ((renameX e).fr []) = freeS (e.fr [])))] cb_scrimshawref06_SameTexts (SameTexts_gives _ _ _ _ H7 s7 (s4.le (PH.le_trans l5 (PH.le_trans l6 l7)))) rfl pendNil fun H8 l8 => ⟨fun _ => ?_, fun h => absurd h (by simp [ev0, ev, evV, List.cons_append, List.nil_append, List.getD_cons_zero, List.getD_cons_succ, List.map_cons, List.map_nil, iOf, bOf, sOf, pOf, slLen, slBase, cmpI, arI, Value.ite_bool, p2])⟩
      have l58 := PH.le_trans l6 (PH.le_trans l7 l8)
      refine den_gives [.bool (shpB e (renameX e))] cb_scrimshawlaw06_shaped (shaped_gives e (renameX e) _ _ H8 (Xp.Rep.le (PH.le_trans l05 l58) e he') (Xp.Rep.le (PH.le_trans l25 l58) _ r2)) rfl pendNil fun H9 l9 => ⟨_, lookup_hit, ?_, PH.le_trans l05 (PH.le_trans l58 l9)⟩
      simp only [ev0, ev, evV, List.cons_append, List.nil_append, List.getD_cons_zero, List.getD_cons_succ, List.map_cons, List.map_nil, iOf, bOf, sOf, pOf, slLen, slBase, cmpI, arI, Value.ite_bool, int_beq, int_bne, ite_band, ite_bor, p3]
  · refine den_gives [.bool true] cb_scrimshawlaw06_fixed (hfix H hT) rfl pendNil fun H1 l1 => ⟨fun g => absurd g (by simp [ev0, ev, evV, List.cons_append, List.nil_append, List.getD_cons_zero, List.getD_cons_succ, List.map_cons, List.map_nil, iOf, bOf, sOf, pOf, slLen, slBase, cmpI, arI, Value.ite_bool]), fun _ => ?_⟩
    refine den_gives [.int .i64 (e.chk true 0 0).2] cb_core_Check (CCheckF_gives e _ H1 (Xp.Rep.le l1 e he')) rfl pendNil fun H2 l2 => ⟨_, lookup_hit, ?_, PH.le_trans l1 l2⟩
    simp only [ev0, ev, evV, List.cons_append, List.nil_append, List.getD_cons_zero, List.getD_cons_succ, List.map_cons, List.map_nil, iOf, bOf, sOf, pOf, slLen, slBase, cmpI, arI, Value.ite_bool, int_beq, int_bne, ite_band, ite_bor]
end Go.Proofs.YtibinelkmlcmgaaDoor.Vc
/-
  CORE: the fixed calls, and CoreUnique.
-/
namespace Go.Proofs.YtibinelkmlcmgaaDoor.Vc
open Go

theorem gives_run {P : Program} {f : FuncId} {fn : Func} {fm : Fm VE} {tab : List CK} {S0 : PH} (h : TriOf P f fn fm) (hp : tagsOk ((paramRS P fn).flatMap RS.tags) [] = true) (ha : ([] : List Value) = packAll (paramRS P fn) []) (htab : TabOk P S0 tab) (hr : runsTrue P tab fm = true) : Gives P f [] S0 (.bool true) :=
  h [] (H := S0) (R := fun e H' => e = .returned (.bool true) ∧ PH.le S0 H') hp ha (runs_true (R := fun e H' => e = .returned (.bool true) ∧ PH.le S0 H') htab hr fun H' hl => ⟨rfl, hl⟩)
/-! ### known calls out of contracts -/
theorem ck_ag {P : Program} {S0 : PH} {f : FuncId} {row out : List PV} {sh : Sh} (hcb : callB P f = true) (h : ∀ (S : PH) (cs : List Value), PH.le S0 S → PV.RepRow S row cs → Tri P f #[.agg cs.toArray] S fun e S' => ∃ us, e = .returned (sh.pack us) ∧ PV.RepRow S' out us ∧ PH.le S S') : CK.Ok P S0 ⟨f, [(true, row)], sh, out⟩ := by
  refine ⟨hcb, fun S vs hS hv => ?_⟩
  cases hv with
  | cons h1 h2 =>
    cases h2
    obtain ⟨cs, h3, h4⟩ := h1
    simp only [if_true] at h4
    subst h4
    exact h S cs hS h3
theorem ck_ag2 {P : Program} {S0 : PH} {f : FuncId} {row row2 out : List PV} {sh : Sh} (hcb : callB P f = true) (h : ∀ (S : PH) (cs cs2 : List Value), PH.le S0 S → PV.RepRow S row cs → PV.RepRow S row2 cs2 → Tri P f #[.agg cs.toArray, .agg cs2.toArray] S fun e S' => ∃ us, e = .returned (sh.pack us) ∧ PV.RepRow S' out us ∧ PH.le S S') : CK.Ok P S0 ⟨f, [(true, row), (true, row2)], sh, out⟩ := by
  refine ⟨hcb, fun S vs hS hv => ?_⟩
  cases hv with
  | cons h1 h2 =>
    cases h2 with
    | cons h3 h4 =>
      cases h4
      obtain ⟨cs, h5, h6⟩ := h1
      obtain ⟨cs2, h7, h8⟩ := h3
      simp only [if_true] at h6 h8
      subst h6 h8
      exact h S cs cs2 hS h5 h7
theorem ck_sc {P : Program} {S0 : PH} {f : FuncId} {p : PV} {out : List PV} {sh : Sh} (hcb : callB P f = true) (h : ∀ (S : PH) (v : Value), PH.le S0 S → p.Rep S v → Tri P f #[v] S fun e S' => ∃ us, e = .returned (sh.pack us) ∧ PV.RepRow S' out us ∧ PH.le S S') : CK.Ok P S0 ⟨f, [(false, [p])], sh, out⟩ := by
  refine ⟨hcb, fun S vs hS hv => ?_⟩
  cases hv with
  | cons h1 h2 =>
    cases h2
    obtain ⟨cs, h3, h4⟩ := h1
    simp only [Bool.false_eq_true, if_false] at h4
    subst h4
    simp only [PV.RepRow] at h3
    obtain ⟨v, vs, h5, h6, rfl⟩ := h3
    cases h5
    exact h S _ hS h6
theorem row1 {S : PH} {p : PV} {v : Value} (h : p.Rep S v) : PV.RepRow S [p] [v] := by
  simp only [PV.RepRow]; exact ⟨_, _, rfl, h, rfl⟩
theorem gives_ck {P : Program} {f : FuncId} {args : List Value} {S : PH} {v : Value} {p : PV} (hp : ∀ S', p.Rep S' v) (h : Gives P f args S v) : Tri P f args.toArray S fun e S' => ∃ us, e = .returned (Sh.pack .sc us) ∧ PV.RepRow S' [p] us ∧ PH.le S S' := by
  refine h.mono ?_
  rintro e S' ⟨rfl, h2⟩
  exact ⟨[v], rfl, row1 (hp S'), h2⟩
theorem rep_bool (S : PH) (b : Bool) : PV.Rep S (.bool b) (.bool b) := by simp only [PV.Rep]

theorem CData_tri (e : Xp) (cs : List Value) (H : PH) (he : e.Rep H cs) : Tri Tryd.prog n_core_Data #[.agg cs.toArray] H fun x H' => ∃ ds : List Value, x = .returned (.tuple #[.agg ds.toArray, .int .i64 (e.chk true 0 0).2]) ∧ PH.le H H' ∧ (if (e.chk true 0 0).2 = 0 then e.dat else dat0).Rep H' ds := by
  have he' := he
  obtain ⟨nb, db, kb, nc, dc, kc, rfl, hx⟩ := Xp.Rep.open he
  refine tri_core_Data (exVs e nb db kb nc dc kc) (by kernel_rfl) (by kernel_rfl) ?_
  refine den_gives [.int .i64 (e.chk true 0 0).2] cb_core_Check (CCheckF_gives e _ H he') rfl pendNil fun H1 l1 => ?_
  refine ⟨fun g => ?_, fun g => ?_⟩
  · simp only [ev0, ev, evV, List.cons_append, List.nil_append, List.getD_cons_zero, List.getD_cons_succ, List.map_cons, List.map_nil, iOf, bOf, sOf, pOf, slLen, slBase, cmpI, arI, Value.ite_bool, int_beq, int_bne, ite_band, ite_bor, decide_eq_true_eq] at g
    refine ⟨[.int .i64 0, .int .i64 0, txt [], .slice none 0 0], ?_, l1, ?_⟩
    · simp only [evV, List.map_cons, List.map_nil, partV]; rfl
    · rw [if_neg g]; exact dat0_rep H1
  · simp only [ev0, ev, evV, List.cons_append, List.nil_append, List.getD_cons_zero, List.getD_cons_succ, List.map_cons, List.map_nil, iOf, bOf, sOf, pOf, slLen, slBase, cmpI, arI, Value.ite_bool, int_beq, int_bne, ite_band, ite_bor, decide_eq_false_iff_not, ne_eq, Decidable.not_not] at g
    refine den_call cb_core_told (told_tri e _ H1 (Xp.Rep.le l1 e he') (Xp.chk_ok true e 0 0 g).1 (chk_bounds g).1) ?_
    rintro x H2 ⟨ds, rfl, l2, r2⟩
    have ht2 := Dat.Rep.tags r2
    have r2' := r2
    obtain ⟨sv2, rfl, _⟩ := Dat.Rep_iff.1 r2
    refine ⟨_, _, rfl, ht2, rfl, pendNil, ?_⟩
    refine ⟨_, ?_, PH.le_trans l1 l2, by rw [if_pos g]; exact r2'⟩
    simp only [evV, List.map_cons, List.map_nil, partV]
    rw [g]; rfl

/-! ### what the fixed calls are of -/
def refX (s : List UInt8) : Xp := .mk 1 s [] dat0 []
def sumX (a b : List UInt8) : Xp := .mk 7 [43] [] dat0 [refX a, refX b]
/-- (lambda (x) (let ((x (+ x v.0))) x)) -/
def fxE : Xp := .mk 5 [] [[120]] dat0 [.mk 8 [] [[120]] dat0 [sumX [120] [118, 46, 48], refX [120]]]
def fxW : Xp := .mk 5 [] [[118, 46, 49]] dat0 [.mk 8 [] [[118, 46, 50]] dat0 [sumX [118, 46, 49] [118, 46, 48], refX [118, 46, 50]]]
def fxI : Xp := .mk 3 [] [] dat0 []
theorem fx_ren : PV.sameRow (renameX fxE).pv fxW.pv = true := by decide +kernel
theorem fxW_ok : (fxW.chk true 0 0).2 = 0 := by decide +kernel
theorem fxI_no : (fxI.chk true 0 0).2 = 60 := by decide +kernel
theorem fx_free : freeS (fxE.fr []) = [[118, 46, 48]] := by
  have : fxE.fr [] = [[118, 46, 48]] := by decide +kernel
  rw [this]
  have h2 : (putsM [] [[118, 46, 48]]).map (·.1) = [[118, 46, 48]] := by simp [putsM, putM, getM]
  unfold freeS
  rw [h2, List.mergeSort_singleton]
theorem ck_ref {S0 : PH} (s : List UInt8) : CK.Ok Tryd.prog S0 ⟨n_scrimshawlaw06_ref, [(false, [.str s])], .ag, (refX s).pv⟩ := by
  refine ck_sc cb_scrimshawlaw06_ref fun S v hS hv => ?_
  simp only [PV.Rep] at hv
  obtain ⟨rfl, hl⟩ := hv
  refine tri_scrimshawlaw06_ref [txt s] rfl rfl ?_
  refine ⟨[.int .i64 1, txt s, .slice none 0 0, .int .i64 0, .int .i64 0, txt [], .slice none 0 0, .slice none 0 0], rfl, ?_, PH.le_refl _⟩
  refine Xp.Rep_iff.2 ⟨_, _, _, rfl, (by decide : InI 1), hl, SlR.mk_iff.2 ⟨Nat.zero_le _, .inl ⟨rfl, rfl⟩⟩, dat0_rep S, SlR.mk_iff.2 ⟨Nat.zero_le _, .inl ⟨rfl, rfl⟩⟩⟩
theorem sl_one {S : PH} {l : List (List UInt8)} {v : Value} (h : SlR S l v) : PV.RepRow S [slp l] [v] := row1 h
def fxTab : List CK :=
  [⟨n_scrimshawlaw06_ref, [(false, [.str [120]])], .ag, (refX [120]).pv⟩,
   ⟨n_scrimshawlaw06_ref, [(false, [.str [118, 46, 48]])], .ag, (refX [118, 46, 48]).pv⟩,
   ⟨n_scrimshawlaw06_ref, [(false, [.str [118, 46, 49]])], .ag, (refX [118, 46, 49]).pv⟩,
   ⟨n_scrimshawlaw06_ref, [(false, [.str [118, 46, 50]])], .ag, (refX [118, 46, 50]).pv⟩,
   ⟨n_core_Rename, [(true, fxE.pv)], .ag, fxW.pv⟩,
   ⟨n_core_Data, [(true, fxW.pv)], .tu [(true, 4), (false, 1)], fxW.dat.pv ++ [.int .i64 0]⟩,
   ⟨n_core_Free, [(true, fxE.pv)], .sc, [.sl [[.str [118, 46, 48]]]]⟩,
   ⟨n_scrimshawref06_Data, [(true, fxW.pv)], .ag, fxW.dat.pv⟩,
   ⟨n_scrimshawref02_Same, [(true, fxW.dat.pv), (true, fxW.dat.pv)], .sc, [.bool true]⟩,
   ⟨n_core_Check, [(true, fxI.pv)], .sc, [.int .i64 60]⟩,
   ⟨n_core_Arity, [(false, [.str [99, 97, 114]])], .sc, [.int .i64 1]⟩]
theorem fxTab_ok {S0 : PH} (hT : Tab S0) : TabOk Tryd.prog S0 fxTab := by
  have key : ∀ c ∈ fxTab, CK.Ok Tryd.prog S0 c := by
    simp only [fxTab, List.forall_mem_cons, List.not_mem_nil, false_imp_iff, implies_true, and_true]
    refine ⟨ck_ref _, ck_ref _, ck_ref _, ck_ref _, ?_, ?_, ?_, ?_, ?_, ?_, ?_⟩
    · refine ck_ag cb_core_Rename fun S cs hS hr => (CRename_tri fxE cs S hr (hT.le hS)).mono ?_
      rintro x S' ⟨cs', rfl, h1, h2⟩
      have h1' : PV.RepRow S' (renameX fxE).pv cs' := h1
      rw [PV.sameRow_eq fx_ren] at h1'
      exact ⟨cs', rfl, h1', h2⟩
    · refine ck_ag cb_core_Data fun S cs hS hr => (CData_tri fxW cs S hr).mono ?_
      rintro x S' ⟨ds, rfl, h1, h2⟩
      rw [if_pos fxW_ok] at h2
      have hl : ds.length = 4 := by have := PV.RepRow.length h2; rwa [Enc.len] at this
      refine ⟨ds ++ [.int .i64 0], ?_, PV.RepRow.append h2 (row1 (rep_int (by decide))), h1⟩
      rw [fxW_ok]
      simp only [Sh.pack, tuPackN]
      rw [← hl, List.take_left', List.drop_left']
      · rfl
      · rfl
      · rfl
    · refine ck_ag cb_core_Free fun S cs hS hr => (CFree_tri fxE cs S hr (by decide +kernel) (by decide +kernel)).mono ?_
      rintro x S' ⟨v, rfl, h1, h2⟩
      rw [fx_free] at h1
      exact ⟨[v], rfl, sl_one h1, h2⟩
    · refine ck_ag cb_scrimshawref06_Data fun S cs hS hr => (RData_tri fxW cs S hr (Xp.chk_ok true _ 0 0 fxW_ok).1 (chk_bounds fxW_ok).1).mono ?_
      rintro x S' ⟨ds, rfl, h1, h2⟩
      exact ⟨ds, rfl, h2, h1⟩
    · refine ck_ag2 cb_scrimshawref02_Same fun S cs cs2 hS hr hr2 => gives_ck (fun S' => by simp only [decide_true]; exact rep_bool S' true) (Same_gives fxW.dat fxW.dat cs cs2 S hr hr2)
    · refine ck_ag cb_core_Check fun S cs hS hr => gives_ck (fun S' => by rw [fxI_no]; exact rep_int (by decide)) (CCheckF_gives fxI cs S hr)
    · refine ck_sc cb_core_Arity fun S v hS hv => ?_
      simp only [PV.Rep] at hv
      obtain ⟨rfl, _⟩ := hv
      exact gives_ck (fun S' => by rw [show arityI [99, 97, 114] = 1 by decide +kernel]; exact rep_int (by decide)) (Arity_gives [99, 97, 114] S)
  exact key
theorem fx_runs : runsTrue Tryd.prog fxTab fm_scrimshawlaw06_fixed = true := by kernel_rfl
theorem CFixed_gives (H : PH) (hT : Tab H) : Gives Tryd.prog n_scrimshawlaw06_fixed [] H (.bool true) := by
  exact gives_run tri_scrimshawlaw06_fixed (by kernel_rfl) (by kernel_rfl) (fxTab_ok hT) fx_runs
theorem CoreUnique_law (e : Xp) (cs : List Value) (H : PH) (he : e.Rep H cs) (hT : Tab H) : Gives Tryd.prog n_scrimshawlaw06_CoreUnique [.agg cs.toArray] H (.bool true) := CoreUnique_gives CFixed_gives e cs H he hT
end Go.Proofs.YtibinelkmlcmgaaDoor.Vc
