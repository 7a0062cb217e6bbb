/-
  Texts on the way to the statement, one behind the other, without what it does not reach.
-/
import Derived.Test.YtibinelkmlcmgaaDoorLk
set_option linter.unusedSimpArgs false
set_option linter.unusedVariables false
set_option maxRecDepth 100000
/-
  CORE: the program tells an expression's datum.
-/
namespace Go.Proofs.YtibinelkmlcmgaaDoor.Vc
open Go

def ToldAt (f : FuncId) (e : Xp) : Prop := ∀ (cs : List Value) (H : PH), e.Rep H cs → e.okF true → e.fit → GivesD f [.agg cs.toArray] H e.dat
theorem datsLen (l : List Xp) (k : Nat) : ((l.take k).map Xp.dat).length = min k l.length := by simp
theorem sym_rep {H : PH} {s : List UInt8} (h : s.length ≤ maxLen) : Dat.Rep H (symD s) [.int .i64 4, .int .i64 0, txt s, .slice none 0 0] := leaf_rep (by decide) (by decide) h
theorem lst_rep {H : PH} {l : List Dat} {v : Value} (h : SlR H l v) : Dat.Rep H (lstD l) [.int .i64 5, .int .i64 0, txt [], v] := Dat.Rep_iff.2 ⟨_, rfl, (by decide : InI 5), (by decide : InI 0), (by decide : ([] : List UInt8).length ≤ maxLen), h⟩
theorem wordL_len (k : Int) : (wordL k).length ≤ 6 := by
  have : ∀ n : Nat, (wordsL.getD n []).length ≤ 6 := by
    intro n
    by_cases h : n < 11
    · have : ∀ m : Fin 11, (wordsL.getD m []).length ≤ 6 := by decide
      exact this ⟨n, h⟩
    · rw [List.getD_eq_getElem?_getD, List.getElem?_eq_none (by show 11 ≤ n; omega)]; simp
  exact this _
set_option maxHeartbeats 4000000 in
theorem told_tri : ∀ e, ToldAt n_core_told e := by
  refine Xp.ind fun e ih cs H he hok hfit => ?_
  obtain ⟨nb, db, kb, nc, dc, kc, rfl, hx⟩ := Xp.Rep.open he
  obtain ⟨fn, fk, ff⟩ := (Xp.fit_iff e).1 hfit
  obtain ⟨hform, hkids⟩ := Xp.okF_form hok
  obtain ⟨hk0, hk10⟩ := exForm_kind hform
  have hw := wordL_len e.kind
  have hwm : (wordL e.kind).length ≤ maxLen := by simp only [maxLen]; omega
  refine tri_core_told (exVs e nb db kb nc dc kc) (by kernel_rfl) (by kernel_rfl) ?_
  refine ⟨fun n vs H' => ∃ (k : Nat) (out : Value) (S' : PH), vs = [out, .int .i64 k] ∧ k + n = e.kids.length ∧ PH.le H S' ∧ Held S' H' [orow 25 ((e.kids.take k).map Xp.dat) out],
    ⟨e.kids.length, 0, .slice none 0 0, H, rfl, by omega, PH.le_refl _, (Held.nil (PH.le_refl H)).empty _⟩, ?_⟩
  rintro n vs H1 _ ⟨k, out, S1, rfl, hkn, l1, h1⟩
  refine ⟨fun g => ?_, fun g => ?_⟩
  · simp only [ev0, ev, evV, List.cons_append, List.nil_append, List.getD_cons_zero, List.getD_cons_succ, List.map_cons, List.map_nil, iOf, bOf, sOf, pOf, slLen, slBase, cmpI, arI, Value.ite_bool, int_beq, int_bne, ite_band, ite_bor, decide_eq_true_eq] at g
    obtain ⟨a, ha⟩ : ∃ a, e.kids[k]? = some a := ⟨_, List.getElem?_eq_getElem (show k < e.kids.length by omega)⟩
    obtain ⟨g1, _, ces, g2, g3⟩ := (hx.kids.le l1).get ha
    have hm := List.mem_of_getElem? ha
    have htags := Xp.Rep.tags g2
    have g2' := g2
    obtain ⟨nb', db', kb', nc', dc', kc', rfl, _⟩ := Xp.Rep.open g2'
    refine ⟨fun _ => ?_, _, htags, by simp only [ev0, ev, evV, List.cons_append, List.nil_append, List.getD_cons_zero, List.getD_cons_succ, List.map_cons, List.map_nil, iOf, bOf, sOf, pOf, slLen, slBase, cmpI, arI, Value.ite_bool, int_beq, int_bne, ite_band, ite_bor]; exact rowAt_le h1.sh g3, ?_⟩
    · simp only [Chk.holds, ev0, ev, evV, List.cons_append, List.nil_append, List.getD_cons_zero, List.getD_cons_succ, List.map_cons, List.map_nil, iOf, bOf, sOf, pOf, slLen, slBase, cmpI, arI, Value.ite_bool, int_beq, int_bne, ite_band, ite_bor]; exact ⟨g1, by omega, by omega⟩
    refine den_call cb_core_told (h1.pure (R := fun x S' => ∃ cs, x = .returned (.agg cs.toArray) ∧ a.dat.Rep S' cs) ((ih a hm _ S1 g2 (hkids a hm) (ff a hm)).mono fun x S' hh => by obtain ⟨cs, q1, q2, q3⟩ := hh; exact ⟨q2, cs, q1, q3⟩)) ?_
    rintro x H2 ⟨S2, l2, h2, cs2, rfl, r2⟩
    have ht2 := Dat.Rep.tags r2
    have r2' := r2
    obtain ⟨sv2, rfl, _⟩ := Dat.Rep_iff.1 r2
    refine ⟨_, _, rfl, ht2, rfl, pendNil, ?_⟩
    refine den_hPush (more := [a.dat]) (b := 56) [.agg #[.int .i64 a.dat.kind, .int .i64 a.dat.int, txt a.dat.text, sv2]] uDats elemDat rfl (by decide) (by decide) h2 (by kernel_rfl) (.cons r2' .nil) pendNil (fun _ => by kernel_rfl) (fun _ => by kernel_rfl)
      (by rw [datsLen]; simp only [maxLen, List.length_cons, List.length_nil]; omega) (by rw [datsLen]; simp only [List.length_cons, List.length_nil]; omega) fun u v' S3 H3 l3 h3 => ⟨pendNil, _, lookup_hit, n - 1, by omega, k + 1, v', S3, ?_, by omega, PH.le_trans l1 (PH.le_trans l2 l3), ?_⟩
    · simp only [ev0, ev, evV, List.cons_append, List.nil_append, List.getD_cons_zero, List.getD_cons_succ, List.map_cons, List.map_nil, iOf, bOf, sOf, pOf, slLen, slBase, cmpI, arI, Value.ite_bool, int_beq, int_bne, ite_band, ite_bor]
      rw [w64 (by omega) (by omega)]
      rfl
    · rw [List.take_add_one, ha, List.map_append]; exact h3
  · simp only [ev0, ev, evV, List.cons_append, List.nil_append, List.getD_cons_zero, List.getD_cons_succ, List.map_cons, List.map_nil, iOf, bOf, sOf, pOf, slLen, slBase, cmpI, arI, Value.ite_bool, int_beq, int_bne, ite_band, ite_bor, decide_eq_false_iff_not] at g
    have hkk : k = e.kids.length := by omega
    subst hkk
    rw [List.take_length] at h1
    refine den_gives [txt (wordL e.kind)] cb_core_words (words_gives e.kind hk0 hk10 H1) rfl pendNil fun H2 q2 => ?_
    have h2 := h1.le q2
    refine den_gives [.int .i64 4, .int .i64 0, txt (wordL e.kind), .slice none 0 0] cb_core_symbol (symbol_gives (wordL e.kind) H2) rfl pendNil fun H3 q3 => ?_
    have h3 := h2.le q3
    refine den_hLit (l := [symD (wordL e.kind)]) (b := 56) [.agg #[.int .i64 4, .int .i64 0, txt (wordL e.kind), .slice none 0 0]] uDats elemDat rfl (by decide) (by decide) h3 (by kernel_rfl) (.cons (sym_rep hwm) .nil) pendNil fun wv H4 h4 _ _ => ?_
    obtain ⟨wb, wc, hwv⟩ := (h4.row (List.mem_cons_self ..)).sl
    refine den_gives [.int .i64 5, .int .i64 0, txt [], wv] cb_core_list (by rw [hwv]; exact list_gives wb _ wc H4) (by rw [hwv]; rfl) pendNil fun H5 q5 => ?_
    have h5 := h4.le q5
    have hb : ((e.kids.map Xp.dat).length : Nat) = e.kids.length := by simp
    refine ⟨fun vs H' => ∃ (kv lv : Value) (L K : List Dat) (S' : PH), vs = [kv, .int .i64 5, .int .i64 0, txt [], lv] ∧ PH.le H S' ∧ Held S' H' [orow 25 L lv] ∧ SlR S' K kv ∧ e.dat = lstD (L ++ K) ∧ L.length ≤ 4 ∧ K.length ≤ 1048576, ?_, ?_⟩
    · rintro vs H6 _ ⟨kv, lv, L, K, S6, rfl, l6, h6, hK, hd, hL4, hK4⟩
      obtain ⟨b6, c6, hkv⟩ := hK.sl
      refine den_hApp (b := 56) (more := K) uDats elemDat rfl rfl h6 (hK.srcS h6.sh) (by simp only [maxLen]; omega) (by omega) fun v7 H7 h7 _ => ⟨pendNil, ?_⟩
      obtain ⟨S8, s8, l8, h8⟩ := h7.freeze
      refine ⟨[.int .i64 5, .int .i64 0, txt [], v7], rfl, PH.le_trans l6 (PH.le_trans l8 h8.sh), ?_⟩
      rw [hd]
      exact lst_rep (s8.le h8.sh)
    refine ⟨fun g1 => ?_, fun g1 => ?_⟩
    · simp only [ev0, ev, evV, List.cons_append, List.nil_append, List.getD_cons_zero, List.getD_cons_succ, List.map_cons, List.map_nil, iOf, bOf, sOf, pOf, slLen, slBase, cmpI, arI, Value.ite_bool, int_beq, int_bne, ite_band, ite_bor, decide_eq_true_eq] at g1
      refine den_gives [.int .i64 4, .int .i64 0, txt e.name, .slice none 0 0] cb_core_symbol (symbol_gives e.name H5) rfl pendNil fun H6 q6 => ?_
      refine ⟨[.int .i64 4, .int .i64 0, txt e.name, .slice none 0 0], rfl, PH.le_trans l1 (h5.le q6).sh, ?_⟩
      rw [Xp.dat_eq, datOf, if_pos g1]
      exact sym_rep hx.name
    simp only [ev0, ev, evV, List.cons_append, List.nil_append, List.getD_cons_zero, List.getD_cons_succ, List.map_cons, List.map_nil, iOf, bOf, sOf, pOf, slLen, slBase, cmpI, arI, Value.ite_bool, int_beq, int_bne, ite_band, ite_bor, decide_eq_false_iff_not] at g1
    have hdat := Xp.dat_eq e
    refine ⟨fun g0 => ?_, fun g0 => ?_⟩
    · simp only [ev0, ev, evV, List.cons_append, List.nil_append, List.getD_cons_zero, List.getD_cons_succ, List.map_cons, List.map_nil, iOf, bOf, sOf, pOf, slLen, slBase, cmpI, arI, Value.ite_bool, int_beq, int_bne, ite_band, ite_bor, decide_eq_true_eq] at g0
      have hc : e.const.Rep S1 [.int .i64 e.const.kind, .int .i64 e.const.int, txt e.const.text, .slice db e.const.list.length dc] := Dat.Rep.le l1 _ hx.const
      refine den_rowLit (l := [e.const]) (b := 56) [.agg #[.int .i64 e.const.kind, .int .i64 e.const.int, txt e.const.text, .slice db e.const.list.length dc]] uDats elemDat rfl (by decide) (by decide) h5.sh (by kernel_rfl) (.cons hc .nil) pendNil fun v6 S6 H6 x6 s6 _ => ?_
      refine ⟨_, lookup_hit, v6, wv, [symD (wordL e.kind)], [e.const], S6, by simp only [ev0, ev, evV, List.cons_append, List.nil_append, List.getD_cons_zero, List.getD_cons_succ, List.map_cons, List.map_nil, iOf, bOf, sOf, pOf, slLen, slBase, cmpI, arI, Value.ite_bool, int_beq, int_bne, ite_band, ite_bor], PH.le_trans l1 x6.s, (h5.ext x6).sub (by simp), s6, ?_, by simp, by simp⟩
      rw [hdat, datOf, if_neg g1, if_pos g0]; rfl
    simp only [ev0, ev, evV, List.cons_append, List.nil_append, List.getD_cons_zero, List.getD_cons_succ, List.map_cons, List.map_nil, iOf, bOf, sOf, pOf, slLen, slBase, cmpI, arI, Value.ite_bool, int_beq, int_bne, ite_band, ite_bor, decide_eq_false_iff_not] at g0
    refine ⟨fun g2 => ?_, fun g2 => ?_⟩
    · simp only [ev0, ev, evV, List.cons_append, List.nil_append, List.getD_cons_zero, List.getD_cons_succ, List.map_cons, List.map_nil, iOf, bOf, sOf, pOf, slLen, slBase, cmpI, arI, Value.ite_bool, int_beq, int_bne, ite_band, ite_bor, ite_self] at g2
      have g2' : e.kind = 2 ∨ e.kind = 7 := by
        by_cases h : e.kind = 2
        · exact .inl h
        · right; simpa [h] using g2
      refine den_gives [.int .i64 4, .int .i64 0, txt e.name, .slice none 0 0] cb_core_symbol (symbol_gives e.name H5) rfl pendNil fun H6 q6 => ?_
      have h6 := h5.le q6
      refine den_hPush (more := [symD e.name]) (b := 56) [.agg #[.int .i64 4, .int .i64 0, txt e.name, .slice none 0 0]] uDats elemDat rfl (by decide) (by decide) h6 (by kernel_rfl) (.cons (sym_rep hx.name) .nil) pendNil (fun _ => by kernel_rfl) (fun _ => by kernel_rfl)
        (by simp [maxLen]) (by simp) fun u v7 S7 H7 l7 h7 => ⟨pendNil, ?_⟩
      obtain ⟨S8, s8, l8, h8⟩ := (h7.perm (List.Perm.swap ..)).freeze
      refine ⟨_, lookup_hit, out, v7, _, e.kids.map Xp.dat, S8, by simp only [ev0, ev, evV, List.cons_append, List.nil_append, List.getD_cons_zero, List.getD_cons_succ, List.map_cons, List.map_nil, iOf, bOf, sOf, pOf, slLen, slBase, cmpI, arI, Value.ite_bool, int_beq, int_bne, ite_band, ite_bor], PH.le_trans l1 (PH.le_trans l7 l8), h8, s8, ?_, by simp, by rw [hb]; exact fk⟩
      rw [hdat, datOf, if_neg g1, if_neg g0, if_pos g2']; rfl
    have g2' : ¬ (e.kind = 2 ∨ e.kind = 7) := by
      rintro (h | h) <;> simp [ev0, ev, evV, List.cons_append, List.nil_append, List.getD_cons_zero, List.getD_cons_succ, List.map_cons, List.map_nil, iOf, bOf, sOf, pOf, slLen, slBase, cmpI, arI, Value.ite_bool, int_beq, int_bne, ite_band, ite_bor, h] at g2
    refine ⟨fun g5 => ?_, fun g5 => ?_⟩
    · simp only [ev0, ev, evV, List.cons_append, List.nil_append, List.getD_cons_zero, List.getD_cons_succ, List.map_cons, List.map_nil, iOf, bOf, sOf, pOf, slLen, slBase, cmpI, arI, Value.ite_bool, int_beq, int_bne, ite_band, ite_bor, decide_eq_true_eq] at g5
      refine den_gives [.int .i64 5, .int .i64 0, txt [], .slice none 0 0] cb_core_list (list_gives none 0 0 H5) rfl pendNil fun H6 q6 => ?_
      have h6 := h5.le q6
      refine ⟨fun n vs H' => ∃ (k : Nat) (lv : Value) (S' : PH), vs = [.int .i64 k, .int .i64 5, .int .i64 0, txt [], lv] ∧ k + n = e.names.length ∧ PH.le H S' ∧ Held S' H' [orow 25 ((e.names.take k).map symD) lv, orow 25 [symD (wordL e.kind)] wv, orow 25 (e.kids.map Xp.dat) out],
        ⟨e.names.length, 0, .slice none 0 0, S1, rfl, by omega, l1, h6.empty _⟩, ?_⟩
      rintro n vs H7 _ ⟨k, lv, S7, rfl, hkn, l7, h7⟩
      refine ⟨fun g => ?_, fun g => ?_⟩
      · simp only [ev0, ev, evV, List.cons_append, List.nil_append, List.getD_cons_zero, List.getD_cons_succ, List.map_cons, List.map_nil, iOf, bOf, sOf, pOf, slLen, slBase, cmpI, arI, Value.ite_bool, int_beq, int_bne, ite_band, ite_bor, decide_eq_true_eq] at g
        obtain ⟨a, ha⟩ : ∃ a, e.names[k]? = some a := ⟨_, List.getElem?_eq_getElem (show k < e.names.length by omega)⟩
        obtain ⟨g3, _, ces, g4, g6⟩ := (hx.names.le l7).get ha
        obtain ⟨rfl, hal⟩ := csTxts g4
        refine ⟨fun _ => ?_, [txt a], rfl, by simp only [ev0, ev, evV, List.cons_append, List.nil_append, List.getD_cons_zero, List.getD_cons_succ, List.map_cons, List.map_nil, iOf, bOf, sOf, pOf, slLen, slBase, cmpI, arI, Value.ite_bool, int_beq, int_bne, ite_band, ite_bor]; exact rowAt_le h7.sh g6, ?_⟩
        · simp only [Chk.holds, ev0, ev, evV, List.cons_append, List.nil_append, List.getD_cons_zero, List.getD_cons_succ, List.map_cons, List.map_nil, iOf, bOf, sOf, pOf, slLen, slBase, cmpI, arI, Value.ite_bool, int_beq, int_bne, ite_band, ite_bor]; exact ⟨g3, by omega, by omega⟩
        refine den_gives [.int .i64 4, .int .i64 0, txt a, .slice none 0 0] cb_core_symbol (symbol_gives a H7) rfl pendNil fun H8 q8 => ?_
        refine den_hPush (more := [symD a]) (b := 56) [.agg #[.int .i64 4, .int .i64 0, txt a, .slice none 0 0]] uDats elemDat rfl (by decide) (by decide) (h7.le q8) (by kernel_rfl) (.cons (sym_rep hal) .nil) pendNil (fun _ => by kernel_rfl) (fun _ => by kernel_rfl)
          (by simp only [maxLen, List.length_map, List.length_take, List.length_cons, List.length_nil]; omega) (by simp only [List.length_map, List.length_take, List.length_cons, List.length_nil]; omega) fun u v9 S9 H9 l9 h9 => ⟨pendNil, _, lookup_hit, n - 1, by omega, k + 1, v9, S9, ?_, by omega, PH.le_trans l7 l9, ?_⟩
        · simp only [ev0, ev, evV, List.cons_append, List.nil_append, List.getD_cons_zero, List.getD_cons_succ, List.map_cons, List.map_nil, iOf, bOf, sOf, pOf, slLen, slBase, cmpI, arI, Value.ite_bool, int_beq, int_bne, ite_band, ite_bor]
          rw [w64 (by omega) (by omega)]
          rfl
        · rw [List.take_add_one, ha, List.map_append]; exact h9
      · simp only [ev0, ev, evV, List.cons_append, List.nil_append, List.getD_cons_zero, List.getD_cons_succ, List.map_cons, List.map_nil, iOf, bOf, sOf, pOf, slLen, slBase, cmpI, arI, Value.ite_bool, int_beq, int_bne, ite_band, ite_bor, decide_eq_false_iff_not] at g
        have hkk : k = e.names.length := by omega
        subst hkk
        rw [List.take_length] at h7
        obtain ⟨S8, s8, l8, h8⟩ := h7.freeze
        obtain ⟨bb, bc, hlv⟩ := s8.sl
        refine den_hPush (more := [lstD (e.names.map symD)]) (b := 56) [.agg #[.int .i64 5, .int .i64 0, txt [], lv]] uDats elemDat rfl (by decide) (by decide) h8 (by kernel_rfl) (.cons (lst_rep s8) .nil) pendNil (fun _ => by kernel_rfl) (fun _ => by kernel_rfl)
          (by simp [maxLen]) (by simp) fun u v9 S9 H9 l9 h9 => ⟨pendNil, ?_⟩
        obtain ⟨Sa, sa, la, ha⟩ := (h9.perm (List.Perm.swap ..)).freeze
        refine ⟨_, (lookup_miss (by decide)).trans lookup_hit, out, v9, _, e.kids.map Xp.dat, Sa, by simp only [ev0, ev, evV, List.cons_append, List.nil_append, List.getD_cons_zero, List.getD_cons_succ, List.map_cons, List.map_nil, iOf, bOf, sOf, pOf, slLen, slBase, cmpI, arI, Value.ite_bool, int_beq, int_bne, ite_band, ite_bor], PH.le_trans l7 (PH.le_trans l8 (PH.le_trans l9 la)), ha, sa, ?_, by simp, by rw [hb]; exact fk⟩
        rw [hdat, datOf, if_neg g1, if_neg g0, if_neg g2', if_pos g5]; rfl
    simp only [ev0, ev, evV, List.cons_append, List.nil_append, List.getD_cons_zero, List.getD_cons_succ, List.map_cons, List.map_nil, iOf, bOf, sOf, pOf, slLen, slBase, cmpI, arI, Value.ite_bool, int_beq, int_bne, ite_band, ite_bor, decide_eq_false_iff_not] at g5
    refine ⟨fun vs H' => vs = [.bool (decide (e.kind = 8 ∨ e.kind = 9 ∨ e.kind = 10))] ∧ H' = H5, ?_, ?_⟩
    · rintro vs H6 _ ⟨rfl, rfl⟩
      refine ⟨fun g8 => ?_, fun g8 => ?_⟩
      · simp only [ev0, ev, evV, List.cons_append, List.nil_append, List.getD_cons_zero, List.getD_cons_succ, List.map_cons, List.map_nil, iOf, bOf, sOf, pOf, slLen, slBase, cmpI, arI, Value.ite_bool, int_beq, int_bne, ite_band, ite_bor, decide_eq_true_eq] at g8
        have hkl := exForm_lets hform g8
        refine den_gives [.int .i64 5, .int .i64 0, txt [], .slice none 0 0] cb_core_list (list_gives none 0 0 H6) rfl pendNil fun H7 q7 => ?_
        obtain ⟨S7, s7, l7, h7⟩ := ((h5.le q7).perm (List.Perm.swap ..)).freeze
        refine ⟨fun n vs H' => ∃ (k : Nat) (lv : Value) (S' : PH), vs = [.int .i64 k, .int .i64 5, .int .i64 0, txt [], lv] ∧ k + n = e.names.length ∧ PH.le S7 S' ∧ Held S' H' [orow 25 ((List.zipWith bindD e.names (e.kids.map Xp.dat)).take k) lv, orow 25 [symD (wordL e.kind)] wv],
          ⟨e.names.length, 0, .slice none 0 0, S7, rfl, by omega, PH.le_refl _, h7.empty _⟩, ?_⟩
        rintro n vs H8 _ ⟨k, lv, S8, rfl, hkn, l8, h8⟩
        have hzl : (List.zipWith bindD e.names (e.kids.map Xp.dat)).length = e.names.length := by simp; omega
        refine ⟨fun g => ?_, fun g => ?_⟩
        · simp only [ev0, ev, evV, List.cons_append, List.nil_append, List.getD_cons_zero, List.getD_cons_succ, List.map_cons, List.map_nil, iOf, bOf, sOf, pOf, slLen, slBase, cmpI, arI, Value.ite_bool, int_beq, int_bne, ite_band, ite_bor, decide_eq_true_eq] at g
          obtain ⟨a, ha⟩ : ∃ a, e.names[k]? = some a := ⟨_, List.getElem?_eq_getElem (show k < e.names.length by omega)⟩
          obtain ⟨q, hq⟩ : ∃ q, (e.kids.map Xp.dat)[k]? = some q := ⟨_, List.getElem?_eq_getElem (show k < (e.kids.map Xp.dat).length by rw [hb]; omega)⟩
          obtain ⟨g3, _, ces, g4, g6⟩ := (hx.names.le (PH.le_trans l1 (PH.le_trans l7 l8))).get ha
          obtain ⟨rfl, hal⟩ := csTxts g4
          obtain ⟨p3, _, ces, p4, p6⟩ := (s7.le l8).get hq
          have pt := Dat.Rep.tags p4
          have p4' := p4
          obtain ⟨sq, rfl, _⟩ := Dat.Rep_iff.1 p4'
          obtain ⟨ob1, oc1, rfl⟩ := s7.sl
          refine ⟨fun _ => ?_, [txt a], rfl, by simp only [ev0, ev, evV, List.cons_append, List.nil_append, List.getD_cons_zero, List.getD_cons_succ, List.map_cons, List.map_nil, iOf, bOf, sOf, pOf, slLen, slBase, cmpI, arI, Value.ite_bool, int_beq, int_bne, ite_band, ite_bor]; exact rowAt_le h8.sh g6, fun _ => ?_, _, pt, by simp only [ev0, ev, evV, List.cons_append, List.nil_append, List.getD_cons_zero, List.getD_cons_succ, List.map_cons, List.map_nil, iOf, bOf, sOf, pOf, slLen, slBase, cmpI, arI, Value.ite_bool, int_beq, int_bne, ite_band, ite_bor]; exact rowAt_le h8.sh p6, ?_⟩
          · simp only [Chk.holds, ev0, ev, evV, List.cons_append, List.nil_append, List.getD_cons_zero, List.getD_cons_succ, List.map_cons, List.map_nil, iOf, bOf, sOf, pOf, slLen, slBase, cmpI, arI, Value.ite_bool, int_beq, int_bne, ite_band, ite_bor]; exact ⟨g3, by omega, by omega⟩
          · simp only [Chk.holds, ev0, ev, evV, List.cons_append, List.nil_append, List.getD_cons_zero, List.getD_cons_succ, List.map_cons, List.map_nil, iOf, bOf, sOf, pOf, slLen, slBase, cmpI, arI, Value.ite_bool, int_beq, int_bne, ite_band, ite_bor]; exact ⟨p3, by omega, by rw [hb]; omega⟩
          refine den_gives [.int .i64 4, .int .i64 0, txt a, .slice none 0 0] cb_core_symbol (symbol_gives a H8) rfl ?_ fun H9 q9 => ?_
          · intro x hx'
            rw [List.mem_singleton.1 hx']
            simp only [ev0, ev, evV, List.cons_append, List.nil_append, List.getD_cons_zero, List.getD_cons_succ, List.map_cons, List.map_nil, iOf, bOf, sOf, pOf, slLen, slBase, cmpI, arI, Value.ite_bool, int_beq, int_bne, ite_band, ite_bor]
            exact rowAt_le h8.sh p6
          have h9 := h8.le q9
          refine den_rowLit (l := [symD a, q]) (b := 56) [.agg #[.int .i64 4, .int .i64 0, txt a, .slice none 0 0], .agg #[.int .i64 q.kind, .int .i64 q.int, txt q.text, sq]] uDats elemDat rfl (by decide) (by decide) h9.sh (by kernel_rfl) (.cons (sym_rep hal) (.cons p4 .nil)) pendNil fun va Sa Ha xa sa _ => ?_
          have h10 := h9.ext xa
          obtain ⟨ba, ca, hva⟩ := sa.sl
          refine den_gives [.int .i64 5, .int .i64 0, txt [], va] cb_core_list (by rw [hva]; exact list_gives ba _ ca Ha) (by rw [hva]; rfl) pendNil fun Hb qb => ?_
          refine den_hPush (more := [bindD a q]) (b := 56) [.agg #[.int .i64 5, .int .i64 0, txt [], va]] uDats elemDat rfl (by decide) (by decide) (h10.le qb) (by kernel_rfl) (.cons (lst_rep sa) .nil) pendNil (fun _ => by kernel_rfl) (fun _ => by kernel_rfl)
            (by simp only [maxLen, hzl, List.length_take, List.length_cons, List.length_nil]; omega) (by simp only [hzl, List.length_take, List.length_cons, List.length_nil]; omega) fun u vc Sc Hc lc hc => ⟨pendNil, _, lookup_hit, n - 1, by omega, k + 1, vc, Sc, ?_, by omega, PH.le_trans l8 (PH.le_trans xa.s lc), ?_⟩
          · simp only [ev0, ev, evV, List.cons_append, List.nil_append, List.getD_cons_zero, List.getD_cons_succ, List.map_cons, List.map_nil, iOf, bOf, sOf, pOf, slLen, slBase, cmpI, arI, Value.ite_bool, int_beq, int_bne, ite_band, ite_bor]
            rw [w64 (by omega) (by omega)]
            rfl
          · have : (List.zipWith bindD e.names (e.kids.map Xp.dat))[k]? = some (bindD a q) := by rw [List.getElem?_zipWith, ha, hq]
            rw [List.take_add_one, this]; exact hc
        · simp only [ev0, ev, evV, List.cons_append, List.nil_append, List.getD_cons_zero, List.getD_cons_succ, List.map_cons, List.map_nil, iOf, bOf, sOf, pOf, slLen, slBase, cmpI, arI, Value.ite_bool, int_beq, int_bne, ite_band, ite_bor, decide_eq_false_iff_not] at g
          have hkk : k = e.names.length := by omega
          subst hkk
          rw [List.take_of_length_le (by rw [hzl]; exact Nat.le_refl _)] at h8
          obtain ⟨S9, s9, l9, h9⟩ := h8.freeze
          obtain ⟨bb, bc, hlv⟩ := s9.sl
          refine den_hPush (more := [lstD (List.zipWith bindD e.names (e.kids.map Xp.dat))]) (b := 56) [.agg #[.int .i64 5, .int .i64 0, txt [], lv]] uDats elemDat rfl (by decide) (by decide) h9 (by kernel_rfl) (.cons (lst_rep s9) .nil) pendNil (fun _ => by kernel_rfl) (fun _ => by kernel_rfl)
            (by simp [maxLen]) (by simp) fun u va Sa Ha la ha => ⟨pendNil, ?_⟩
          have hs7 := s7.le (PH.le_trans l8 (PH.le_trans l9 la))
          have hcut := hs7.cut (a := e.names.length) (b := (e.kids.map Xp.dat).length) (by rw [hb]; omega) (Nat.le_refl _)
          rw [List.take_length] at hcut
          obtain ⟨ob1, oc1, rfl⟩ := hs7.sl
          have hcap := hs7.capLe
          refine ⟨fun _ => ?_, ?_⟩
          · simp only [Chk.holds, ev0, ev, evV, List.cons_append, List.nil_append, List.getD_cons_zero, List.getD_cons_succ, List.map_cons, List.map_nil, iOf, bOf, sOf, pOf, slLen, slBase, cmpI, arI, Value.ite_bool, int_beq, int_bne, ite_band, ite_bor, slCap]; rw [hb] at *; omega
          refine ⟨_, (lookup_miss (by decide)).trans lookup_hit, _, va, _, (e.kids.map Xp.dat).drop e.names.length, Sa, by simp only [ev0, ev, evV, List.cons_append, List.nil_append, List.getD_cons_zero, List.getD_cons_succ, List.map_cons, List.map_nil, iOf, bOf, sOf, pOf, slLen, slBase, cmpI, arI, Value.ite_bool, int_beq, int_bne, ite_band, ite_bor]; rfl, PH.le_trans l1 (PH.le_trans l7 (PH.le_trans l8 (PH.le_trans l9 la))), ha, hcut, ?_, by simp, by rw [List.length_drop, hb]; omega⟩
          rw [hdat, datOf, if_neg g1, if_neg g0, if_neg g2', if_neg g5, if_pos g8]; rfl
      · simp only [ev0, ev, evV, List.cons_append, List.nil_append, List.getD_cons_zero, List.getD_cons_succ, List.map_cons, List.map_nil, iOf, bOf, sOf, pOf, slLen, slBase, cmpI, arI, Value.ite_bool, int_beq, int_bne, ite_band, ite_bor, decide_eq_false_iff_not] at g8
        obtain ⟨S7, s7, l7, h7⟩ := (h5.perm (List.Perm.swap ..)).freeze
        refine ⟨_, lookup_hit, out, wv, _, e.kids.map Xp.dat, S7, by simp only [ev0, ev, evV, List.cons_append, List.nil_append, List.getD_cons_zero, List.getD_cons_succ, List.map_cons, List.map_nil, iOf, bOf, sOf, pOf, slLen, slBase, cmpI, arI, Value.ite_bool, int_beq, int_bne, ite_band, ite_bor], PH.le_trans l1 l7, h7, s7, ?_, by simp, by rw [hb]; exact fk⟩
        rw [hdat, datOf, if_neg g1, if_neg g0, if_neg g2', if_neg g5, if_neg g8]; rfl
    · refine ⟨fun g8 => ?_, fun g8 => ?_⟩
      · simp only [ev0, ev, evV, List.cons_append, List.nil_append, List.getD_cons_zero, List.getD_cons_succ, List.map_cons, List.map_nil, iOf, bOf, sOf, pOf, slLen, slBase, cmpI, arI, Value.ite_bool, int_beq, int_bne, ite_band, ite_bor, decide_eq_true_eq] at g8
        refine ⟨_, lookup_hit, ?_, rfl⟩
        simp only [ev0, ev, evV, List.cons_append, List.nil_append, List.getD_cons_zero, List.getD_cons_succ, List.map_cons, List.map_nil, iOf, bOf, sOf, pOf, slLen, slBase, cmpI, arI, Value.ite_bool, int_beq, int_bne, ite_band, ite_bor, g8]; rfl
      · simp only [ev0, ev, evV, List.cons_append, List.nil_append, List.getD_cons_zero, List.getD_cons_succ, List.map_cons, List.map_nil, iOf, bOf, sOf, pOf, slLen, slBase, cmpI, arI, Value.ite_bool, int_beq, int_bne, ite_band, ite_bor, decide_eq_false_iff_not] at g8
        refine ⟨_, lookup_hit, ?_, rfl⟩
        simp only [ev0, ev, evV, List.cons_append, List.nil_append, List.getD_cons_zero, List.getD_cons_succ, List.map_cons, List.map_nil, iOf, bOf, sOf, pOf, slLen, slBase, cmpI, arI, Value.ite_bool, int_beq, int_bne, ite_band, ite_bor]
        by_cases h9 : e.kind = 9
        · simp [h9]
        · by_cases h10 : e.kind = 10 <;> simp [g8, h9, h10]
end Go.Proofs.YtibinelkmlcmgaaDoor.Vc
/-
  CORE: the expression of a datum.
-/
namespace Go.Proofs.YtibinelkmlcmgaaDoor.Vc
open Go

/-- these expressions are those of which the data are told, if there was nothing bad -/
def GoodX (d : Dat) (b : Bool) (e : Xp) (b' : Bool) : Prop := ∀ e0 : Xp, e0.okF true → d = e0.dat → b = false → e = e0 ∧ b' = false
def GoodXs (l : List Dat) (b : Bool) (es : List Xp) (b' : Bool) : Prop := ∀ es0 : List Xp, (∀ e ∈ es0, e.okF true) → l = es0.map Xp.dat → b = false → es = es0 ∧ b' = false
def XR (S : PH) (e : Xp) (x : Ending) : Prop := ∃ es : List Value, x = .returned (.agg es.toArray) ∧ e.Rep S es
/-- the maker's calls: a datum, the maker's block -/
def ExprAt (d : Dat) : Prop := ∀ (cs : List Value) (S K : PH) (wr : Nat) (T : TypeId) (b : Bool), Held S K [bx wr T [.bool b]] → d.Rep S cs → d.cnt ≤ 100000 →
  Tri Tryd.prog n_core_maker__expr #[pAt wr, .agg cs.toArray] K fun x K' => ∃ S' J', PH.le S S' ∧ Held S' K' J' ∧ ∃ e b', J' = [bx wr T [.bool b']] ∧ XR S' e x ∧ GoodX d b e b'
theorem MName_tri (d : Dat) (cs : List Value) (S K : PH) (wr : Nat) (T : TypeId) (b : Bool) (h : Held S K [bx wr T [.bool b]]) (hd : d.Rep S cs) :
    Tri Tryd.prog n_core_maker__name #[pAt wr, .agg cs.toArray] K fun x K' => ∃ S' J', PH.le S S' ∧ Held S' K' J' ∧ J' = [bx wr T [.bool (b || decide (d.kind ≠ 4))]] ∧ x = .returned (txt d.text) := by
  obtain ⟨sv, rfl, g1, g2, g3, g4⟩ := Dat.Rep_iff.1 hd
  obtain ⟨bb, cc, rfl⟩ := g4.sl
  refine tri_core_maker__name [pAt wr, .int .i64 d.kind, .int .i64 d.int, txt d.text, .slice bb d.list.length cc] (by kernel_rfl) (by kernel_rfl) ?_
  refine ⟨fun _ => rfl, ?_⟩
  refine den_bxLoad [.bool b] (off := 0) (by kernel_rfl) h (List.mem_singleton.2 rfl) rfl rfl ?_
  refine den_bxStore (off := 0) (vs := [.bool (b || decide (d.kind ≠ 4))]) (by kernel_rfl) h ?_ (by simp [oneC]) (by simp) fun K' h' => ?_
  · simp only [ev0, ev, evV, List.cons_append, List.nil_append, List.getD_cons_zero, List.getD_cons_succ, List.map_cons, List.map_nil, iOf, bOf, sOf, pOf, slLen, slBase, cmpI, arI, Value.ite_bool, int_beq, int_bne, ite_band, ite_bor]
  refine ⟨S, _, PH.le_refl _, h', rfl, rfl⟩
theorem all_m (l : List Dat) (ih : ∀ d ∈ l, ExprAt d) (v : Value) (S K : PH) (wr : Nat) (T : TypeId) (b : Bool) (h : Held S K [bx wr T [.bool b]]) (hs : SlR S l v) (hc : Dats.cnt l ≤ 100000) :
    Tri Tryd.prog n_core_maker__all #[pAt wr, v] K fun x K' => ∃ S' J', PH.le S S' ∧ Held S' K' J' ∧ ∃ es b' w, J' = [bx wr T [.bool b']] ∧ x = .returned w ∧ SlR S' es w ∧ es.length = l.length ∧ GoodXs l b es b' := by
  obtain ⟨bb, cc, rfl⟩ := hs.sl
  have hll := Dats.cnt_le l
  refine tri_core_maker__all [pAt wr, .slice bb l.length cc] (by kernel_rfl) (by kernel_rfl) ?_
  refine ⟨fun n vs K' => ∃ (k : Nat) (out : Value) (es : List Xp) (b' : Bool) (S' : PH), vs = [out, .int .i64 k] ∧ k + n = l.length ∧ es.length = k ∧ PH.le S S' ∧ Held S' K' [orow 28 es out, bx wr T [.bool b']] ∧ GoodXs (l.take k) b es b',
    ⟨l.length, 0, .slice none 0 0, [], b, S, rfl, by omega, rfl, PH.le_refl _, h.empty _, fun es0 h0 h1 h2 => ?_⟩, ?_⟩
  · rw [List.take_zero] at h1
    have : es0 = [] := by simpa using h1.symm
    exact ⟨this.symm, h2⟩
  rintro n vs K1 _ ⟨k, out, es, b1, S1, rfl, hkn, hek, l1, h1, hg⟩
  refine ⟨fun g => ?_, fun g => ?_⟩
  · simp only [ev0, ev, evV, List.cons_append, List.nil_append, List.getD_cons_zero, List.getD_cons_succ, List.map_cons, List.map_nil, iOf, bOf, sOf, pOf, slLen, slBase, cmpI, arI, Value.ite_bool, int_beq, int_bne, ite_band, ite_bor, decide_eq_true_eq] at g
    obtain ⟨a, ha⟩ : ∃ a, l[k]? = some a := ⟨_, List.getElem?_eq_getElem (show k < l.length by omega)⟩
    obtain ⟨g1, _, ces, g2, g3⟩ := (hs.le l1).get ha
    have hm := List.mem_of_getElem? ha
    have hac := Dats.cnt_mem hm
    have htags := Dat.Rep.tags g2
    have g2' := g2
    obtain ⟨sv, rfl, _⟩ := Dat.Rep_iff.1 g2'
    refine ⟨fun _ => ?_, _, htags, by simp only [ev0, ev, evV, List.cons_append, List.nil_append, List.getD_cons_zero, List.getD_cons_succ, List.map_cons, List.map_nil, iOf, bOf, sOf, pOf, slLen, slBase, cmpI, arI, Value.ite_bool, int_beq, int_bne, ite_band, ite_bor]; exact rowAt_le h1.sh g3, ?_⟩
    · simp only [Chk.holds, ev0, ev, evV, List.cons_append, List.nil_append, List.getD_cons_zero, List.getD_cons_succ, List.map_cons, List.map_nil, iOf, bOf, sOf, pOf, slLen, slBase, cmpI, arI, Value.ite_bool, int_beq, int_bne, ite_band, ite_bor]; exact ⟨g1, by omega, by omega⟩
    refine den_call cb_core_maker__expr (Held.call (J := [bx wr T [.bool b1]]) (h1.perm (List.Perm.swap _ _ _)) fun K hK => ih a hm _ S1 K wr T b1 hK g2 (by omega)) ?_
    rintro x K2 ⟨S2, J2, l2, h2, e, b2, rfl, ⟨ecs, rfl, r2⟩, hge⟩
    have ht2 := Xp.Rep.tags r2
    have r2' := r2
    obtain ⟨nb, db, kb, nc, dc, kc, rfl, _⟩ := Xp.Rep.open r2'
    refine ⟨_, _, rfl, ht2, rfl, pendNil, ?_⟩
    refine den_hPush (more := [e]) (b := 128) [.agg (exVs e nb db kb nc dc kc).toArray] uExprs elemExpr rfl (by decide) (by decide) (h2.perm (List.Perm.swap _ _ _)) (by kernel_rfl) (.cons r2 .nil) pendNil (fun _ => by kernel_rfl) (fun _ => by kernel_rfl)
      (by simp only [maxLen, List.length_cons, List.length_nil]; omega) (by simp only [List.length_cons, List.length_nil]; omega) fun u v' S3 K3 l3 h3 => ⟨pendNil, _, lookup_hit, n - 1, by omega, k + 1, v', es ++ [e], b2, S3, ?_, by omega, by simp [hek], PH.le_trans l1 (PH.le_trans l2 l3), h3, ?_⟩
    · simp only [ev0, ev, evV, List.cons_append, List.nil_append, List.getD_cons_zero, List.getD_cons_succ, List.map_cons, List.map_nil, iOf, bOf, sOf, pOf, slLen, slBase, cmpI, arI, Value.ite_bool, int_beq, int_bne, ite_band, ite_bor]
      rw [w64 (by omega) (by omega)]
      rfl
    · intro es0 q1 q2 q3
      rw [List.take_add_one, ha] at q2
      have q4 : es0.length = k + 1 := by
        have := congrArg List.length q2
        simp at this; omega
      have q5 : es0 = es0.take k ++ [es0[k]'(by omega)] := by
        conv => lhs; rw [← List.take_append_drop k es0]
        rw [List.drop_eq_getElem_cons (by omega), List.drop_of_length_le (by omega)]
      rw [q5, List.map_append] at q2
      obtain ⟨q6, q7⟩ := List.append_inj q2 (by simp; omega)
      obtain ⟨q8, q9⟩ := hg (es0.take k) (fun e he => q1 e (List.mem_of_mem_take he)) q6 q3
      have q10 : a = (es0[k]'(by omega)).dat := by simpa using q7
      obtain ⟨q11, q12⟩ := hge _ (q1 _ (List.getElem_mem (by omega))) q10 q9
      refine ⟨?_, q12⟩
      rw [q8, q11]; exact q5.symm
  · simp only [ev0, ev, evV, List.cons_append, List.nil_append, List.getD_cons_zero, List.getD_cons_succ, List.map_cons, List.map_nil, iOf, bOf, sOf, pOf, slLen, slBase, cmpI, arI, Value.ite_bool, int_beq, int_bne, ite_band, ite_bor, decide_eq_false_iff_not] at g
    have hkk : k = l.length := by omega
    subst hkk
    rw [List.take_length] at hg
    obtain ⟨S2, s2, l2, h2⟩ := h1.freeze
    exact ⟨S2, _, PH.le_trans l1 l2, h2, es, b1, out, rfl, rfl, s2, hek, hg⟩
end Go.Proofs.YtibinelkmlcmgaaDoor.Vc
/-
  CORE: what an expression that may be is made of, and what its datum looks like; the program's bindings.
-/
namespace Go.Proofs.YtibinelkmlcmgaaDoor.Vc
open Go

structure FormF (e : Xp) : Prop where
  quote : e.kind = 0 → e.name = [] ∧ e.names = [] ∧ e.kids = []
  const : e.kind ≠ 0 → e.const = dat0
  ref : e.kind = 1 → e.names = [] ∧ e.kids = []
  set : e.kind = 2 → e.names = [] ∧ e.kids.length = 1
  bare : e.kind = 3 ∨ e.kind = 4 ∨ e.kind = 6 → e.name = [] ∧ e.names = [] ∧ 1 ≤ e.kids.length
  lam : e.kind = 5 → e.name = [] ∧ e.kids.length = 1
  prim : e.kind = 7 → e.names = []
  lets : e.kind = 8 ∨ e.kind = 9 ∨ e.kind = 10 → e.name = [] ∧ e.kids.length = e.names.length + 1
theorem form_fields {e : Xp} (h : exForm e = true) : FormF e := by
  unfold exForm at h
  by_cases h0 : e.kind = 0
  · rw [if_pos h0] at h
    simp only [Bool.and_eq_true, List.isEmpty_iff] at h
    obtain ⟨⟨⟨a, b⟩, c⟩, _⟩ := h
    constructor <;> intro q <;> first | omega | exact ⟨a, b, c⟩ | exact absurd h0 q
  rw [if_neg h0] at h
  simp only [Bool.and_eq_true] at h
  obtain ⟨⟨h1, _⟩, h2⟩ := h
  have h1 := isDat0_iff.1 h1
  constructor
  · intro q; exact absurd q h0
  · intro _; exact h1
  · intro q; simp [q] at h2; exact ⟨h2.1.2, h2.2⟩
  · intro q; simp [q] at h2; exact ⟨h2.1.2, h2.2⟩
  · rintro (q | q | q) <;> simp [q] at h2
    · exact ⟨h2.1.1, h2.1.2, by omega⟩
    · exact ⟨h2.1.1, h2.1.2, by omega⟩
    · exact ⟨h2.1.1.1, h2.1.1.2, by omega⟩
  · intro q; simp [q] at h2; exact ⟨h2.1.1, h2.2⟩
  · intro q; simp [q] at h2; exact h2.1
  · rintro (q | q | q) <;> simp [q] at h2
    · exact ⟨h2.1, h2.2⟩
    · exact ⟨h2.1, h2.2⟩
    · exact ⟨h2.1.1.1, h2.1.2⟩
/-- what stands behind the word -/
def restD (e : Xp) : List Dat :=
  if e.kind = 0 then [e.const] else if e.kind = 2 ∨ e.kind = 7 then symD e.name :: e.kids.map Xp.dat
  else if e.kind = 5 then lstD (e.names.map symD) :: e.kids.map Xp.dat
  else if e.kind = 8 ∨ e.kind = 9 ∨ e.kind = 10 then lstD (List.zipWith bindD e.names (e.kids.map Xp.dat)) :: (e.kids.map Xp.dat).drop e.names.length
  else e.kids.map Xp.dat
theorem dat_rest {e : Xp} (h : e.kind ≠ 1) : e.dat = lstD (symD (wordL e.kind) :: restD e) := by
  rw [Xp.dat_eq, datOf, if_neg h]
  unfold restD
  repeat' split
  all_goals rfl
theorem rest_ne {e : Xp} (h : exForm e = true) (h1 : e.kind ≠ 1) : restD e ≠ [] := by
  have f := form_fields h
  have hk := exForm_kind h
  unfold restD
  split
  · simp
  split
  · simp
  split
  · simp
  split
  · simp
  · have := f.bare (by omega)
    intro he
    have : e.kids.length = 0 := by simpa using congrArg List.length he
    omega
/-- the kind of a word -/
def kindOf (t : List UInt8) : Nat → Int
  | 0 => 11
  | k + 1 => if wordL k ≠ [] ∧ wordL k = t then k else kindOf t k
theorem kindOf_word {k : Int} (h0 : 0 ≤ k) (h1 : k ≤ 10) (h2 : k ≠ 1) : kindOf (wordL k) 11 = k := by
  have : ∀ n : Fin 11, (n : Nat) ≠ 1 → kindOf (wordL (n : Nat)) 11 = ((n : Nat) : Int) := by decide +kernel
  have h := this ⟨k.toNat, by omega⟩ (by simp only; omega)
  simp only at h
  rwa [show ((k.toNat : Nat) : Int) = k by omega] at h
theorem kindOf_range (t : List UInt8) : ∀ n, n ≤ 11 → 0 ≤ kindOf t n ∧ kindOf t n ≤ 11
  | 0, _ => by simp [kindOf]
  | n + 1, h => by
    have := kindOf_range t n (by omega)
    simp only [kindOf]
    split <;> omega

theorem len_two {α : Type} : ∀ {l : List α}, l.length = 2 → ∃ a b, l = [a, b]
  | [a, b], _ => ⟨a, b, rfl⟩
  | [], h => by simp at h
  | [_], h => by simp at h
  | _ :: _ :: _ :: _, h => by simp at h
theorem last_split {α : Type} {l : List α} {k : Nat} (h : l.length = k + 1) : ∃ (m : List α) (a : α), l = m ++ [a] ∧ m.length = k := by
  refine ⟨l.take k, l[k]'(by omega), ?_, by simp; omega⟩
  conv => lhs; rw [← List.take_append_drop k l]
  rw [List.drop_eq_getElem_cons (by omega), List.drop_of_length_le (by omega)]
def GoodB (l : List Dat) (b : Bool) (ns : List (List UInt8)) (es : List Xp) (b' : Bool) : Prop := ∀ (N : List (List UInt8)) (E : List Xp), N.length = E.length → (∀ e ∈ E, e.okF true) → l = List.zipWith bindD N (E.map Xp.dat) → b = false → ns = N ∧ es = E ∧ b' = false
set_option maxHeartbeats 2000000 in
theorem bindings_m (d : Dat) (ih : ∀ x ∈ d.list, ∀ y ∈ x.list, ExprAt y) (cs : List Value) (S K : PH) (wr : Nat) (T : TypeId) (b : Bool) (h : Held S K [bx wr T [.bool b]]) (hd : d.Rep S cs) (hc : d.cnt ≤ 100000) :
    Tri Tryd.prog n_core_maker__bindings #[pAt wr, .agg cs.toArray] K fun x K' => ∃ S' J', PH.le S S' ∧ Held S' K' J' ∧ ∃ ns es b' nv kv, J' = [orow 28 es kv, bx wr T [.bool b']] ∧ x = .returned (.tuple #[nv, kv]) ∧ SlR S' ns nv ∧ es.length ≤ 100000 ∧ ns.length ≤ 100000 ∧ GoodB d.list (b || decide (d.kind ≠ 5)) ns es b' := by
  obtain ⟨sv, rfl, g1, g2, g3, hs⟩ := Dat.Rep_iff.1 hd
  obtain ⟨bb, cc, rfl⟩ := hs.sl
  have hdc := Dat.cnt_eq d
  have hll := Dats.cnt_le d.list
  refine tri_core_maker__bindings [pAt wr, .int .i64 d.kind, .int .i64 d.int, txt d.text, .slice bb d.list.length cc] (by kernel_rfl) (by kernel_rfl) ?_
  refine ⟨fun _ => rfl, ?_⟩
  refine den_bxLoad [.bool b] (off := 0) (by kernel_rfl) h (List.mem_singleton.2 rfl) rfl rfl ?_
  refine den_bxStore (off := 0) (vs := [.bool (b || decide (d.kind ≠ 5))]) (by kernel_rfl) h (by simp only [ev0, ev, evV, List.cons_append, List.nil_append, List.getD_cons_zero, List.getD_cons_succ, List.map_cons, List.map_nil, iOf, bOf, sOf, pOf, slLen, slBase, cmpI, arI, Value.ite_bool, int_beq, int_bne, ite_band, ite_bor]) (by simp [oneC]) (by simp) fun K1 h1 => ?_
  have h1 : Held S K1 [bx wr T [.bool (b || decide (d.kind ≠ 5))]] := h1
  generalize (b || decide (d.kind ≠ 5)) = b0 at h1 ⊢
  refine ⟨fun n vs K' => ∃ (k : Nat) (nv kv : Value) (ns : List (List UInt8)) (es : List Xp) (b' : Bool) (S' : PH), vs = [.slice none 0 0, .slice none 0 0, nv, kv, .int .i64 k] ∧ k + n = d.list.length ∧ ns.length = k ∧ es.length = k ∧ PH.le S S' ∧ Held S' K' [orow 9 ns nv, orow 28 es kv, bx wr T [.bool b']] ∧ GoodB (d.list.take k) b0 ns es b',
    ⟨d.list.length, 0, .slice none 0 0, .slice none 0 0, [], [], b0, S, rfl, by omega, rfl, rfl, PH.le_refl _, (h1.empty _).empty _, fun N E h0 h1 h2 h3 => ?_⟩, ?_⟩
  · rw [List.take_zero] at h2
    have := congrArg List.length h2
    simp only [List.length_nil, List.length_zipWith, List.length_map] at this
    have hN : N = [] := List.length_eq_zero_iff.1 (by omega)
    have hE : E = [] := List.length_eq_zero_iff.1 (by omega)
    exact ⟨hN.symm, hE.symm, h3⟩
  rintro n vs K2 _ ⟨k, nv, kv, ns, es, b2, S2, rfl, hkn, hnk, hek, l2, h2, hg⟩
  refine ⟨fun g => ?_, fun g => ?_⟩
  · simp only [ev0, ev, evV, List.cons_append, List.nil_append, List.getD_cons_zero, List.getD_cons_succ, List.map_cons, List.map_nil, iOf, bOf, sOf, pOf, slLen, slBase, cmpI, arI, Value.ite_bool, int_beq, int_bne, ite_band, ite_bor, decide_eq_true_eq] at g
    obtain ⟨x, hx⟩ : ∃ x, d.list[k]? = some x := ⟨_, List.getElem?_eq_getElem (show k < d.list.length by omega)⟩
    obtain ⟨q1, _, ces, q2, q3⟩ := SlR.get (SlR.le l2 hs) hx
    have hm := List.mem_of_getElem? hx
    have hxc := Dats.cnt_mem hm
    have hxc2 := Dat.cnt_eq x
    have htags := Dat.Rep.tags q2
    obtain ⟨xv, rfl, x1, x2, x3, xs⟩ := Dat.Rep_iff.1 q2
    obtain ⟨xb, xc, rfl⟩ := xs.sl
    refine ⟨fun _ => ?_, _, htags, by simp only [ev0, ev, evV, List.cons_append, List.nil_append, List.getD_cons_zero, List.getD_cons_succ, List.map_cons, List.map_nil, iOf, bOf, sOf, pOf, slLen, slBase, cmpI, arI, Value.ite_bool, int_beq, int_bne, ite_band, ite_bor]; exact rowAt_le h2.sh q3, ?_⟩
    · simp only [Chk.holds, ev0, ev, evV, List.cons_append, List.nil_append, List.getD_cons_zero, List.getD_cons_succ, List.map_cons, List.map_nil, iOf, bOf, sOf, pOf, slLen, slBase, cmpI, arI, Value.ite_bool, int_beq, int_bne, ite_band, ite_bor]; exact ⟨q1, by omega, by omega⟩
    refine ⟨fun gx => ?_, fun gx => ?_⟩
    · have gx : x.kind ≠ 5 ∨ x.list.length ≠ 2 := by
        simp only [ev0, ev, evV, List.cons_append, List.nil_append, List.getD_cons_zero, List.getD_cons_succ, List.map_cons, List.map_nil, iOf, bOf, sOf, pOf, slLen, slBase, cmpI, arI, Value.ite_bool, int_beq, int_bne, ite_band, ite_bor] at gx
        by_cases h5 : x.kind = 5
        · right; simp [h5] at gx; omega
        · exact .inl h5
      refine den_bxStore (off := 0) (vs := [.bool true]) (by kernel_rfl) (h2.perm ((List.perm_append_comm (l₁ := [_, _]) (l₂ := [_])))) rfl (by simp [oneC]) (by simp) fun K3 h3 => ?_
      refine ⟨S2, _, l2, ((h3.sub ((List.nil_sublist _).cons_cons _)).empty 28 (α := Xp)), [], [], true, .slice none 0 0, .slice none 0 0, rfl, rfl, SlR.mk_iff.2 ⟨Nat.zero_le _, .inl ⟨rfl, rfl⟩⟩, by simp, by simp, fun N E p0 p1 p2 p3 => ?_⟩
      exfalso
      rw [p2, List.getElem?_zipWith] at hx
      have hxx : x.kind = 5 ∧ x.list.length = 2 := by
        cases hn : N[k]? with
        | none => simp [hn] at hx
        | some a =>
          cases he : (E.map Xp.dat)[k]? with
          | none => rw [hn, he] at hx; cases hx
          | some c => rw [hn, he] at hx; cases hx; exact ⟨rfl, rfl⟩
      rcases gx with gx | gx
      · exact gx hxx.1
      · omega
    · have gx' : x.kind = 5 ∧ x.list.length = 2 := by
        simp only [ev0, ev, evV, List.cons_append, List.nil_append, List.getD_cons_zero, List.getD_cons_succ, List.map_cons, List.map_nil, iOf, bOf, sOf, pOf, slLen, slBase, cmpI, arI, Value.ite_bool, int_beq, int_bne, ite_band, ite_bor, Bool.or_eq_false_iff, decide_eq_false_iff_not] at gx
        omega
      obtain ⟨y0, y1, hy⟩ := len_two gx'.2
      have hy0 : x.list[0]? = some y0 := by rw [hy]; rfl
      have hy1 : x.list[1]? = some y1 := by rw [hy]; rfl
      obtain ⟨p1, _, c0, p2, p3⟩ := SlR.get xs hy0
      have ht0 := Dat.Rep.tags p2
      have p2' := p2
      obtain ⟨v0, rfl, _⟩ := Dat.Rep_iff.1 p2'
      refine ⟨fun _ => ?_, _, ht0, by simp only [ev0, ev, evV, List.cons_append, List.nil_append, List.getD_cons_zero, List.getD_cons_succ, List.map_cons, List.map_nil, iOf, bOf, sOf, pOf, slLen, slBase, cmpI, arI, Value.ite_bool, int_beq, int_bne, ite_band, ite_bor]; exact rowAt_le h2.sh p3, ?_⟩
      · simp only [Chk.holds, ev0, ev, evV, List.cons_append, List.nil_append, List.getD_cons_zero, List.getD_cons_succ, List.map_cons, List.map_nil, iOf, bOf, sOf, pOf, slLen, slBase, cmpI, arI, Value.ite_bool, int_beq, int_bne, ite_band, ite_bor]; exact ⟨p1, by omega, by omega⟩
      have hlen0 : y0.text.length ≤ maxLen := by obtain ⟨_, e1, _, _, e4, _⟩ := Dat.Rep_iff.1 p2; exact e4
      refine den_call cb_core_maker__name (Held.call (J := [bx wr T [.bool b2]]) (h2.perm (List.perm_append_comm (l₁ := [_, _]) (l₂ := [_]))) fun K hK => MName_tri y0 _ S2 K wr T b2 hK p2) ?_
      rintro x K3 ⟨S3, J3, l3, h3, rfl, rfl⟩
      refine ⟨_, [txt y0.text], rfl, rfl, rfl, pendNil, ?_⟩
      refine den_hPush (more := [y0.text]) (b := 16) [txt y0.text] uTxts elemTxt rfl (by decide) (by decide) (h3.perm (List.perm_append_comm (l₁ := [_]) (l₂ := [_, _]))) (by kernel_rfl) (.cons ⟨_, _, rfl, ⟨rfl, hlen0⟩, rfl⟩ .nil) pendNil (fun _ => by kernel_rfl) (fun _ => by kernel_rfl)
        (by simp only [maxLen, List.length_cons, List.length_nil]; omega) (by simp only [List.length_cons, List.length_nil]; omega) fun u v4 S4 K4 l4 h4 => ⟨pendNil, ?_⟩
      have xs4 : SlR S4 x.list _ := SlR.le (PH.le_trans l3 l4) xs
      obtain ⟨p4, _, c1, p5, p6⟩ := xs4.get hy1
      have ht1 := Dat.Rep.tags p5
      have p5' := p5
      obtain ⟨v1, rfl, _⟩ := Dat.Rep_iff.1 p5'
      refine ⟨fun _ => ?_, _, ht1, by simp only [ev0, ev, evV, List.cons_append, List.nil_append, List.getD_cons_zero, List.getD_cons_succ, List.map_cons, List.map_nil, iOf, bOf, sOf, pOf, slLen, slBase, cmpI, arI, Value.ite_bool, int_beq, int_bne, ite_band, ite_bor]; exact rowAt_le h4.sh p6, ?_⟩
      · simp only [Chk.holds, ev0, ev, evV, List.cons_append, List.nil_append, List.getD_cons_zero, List.getD_cons_succ, List.map_cons, List.map_nil, iOf, bOf, sOf, pOf, slLen, slBase, cmpI, arI, Value.ite_bool, int_beq, int_bne, ite_band, ite_bor]; exact ⟨p4, by omega, by omega⟩
      have hy1m : y1 ∈ x.list := List.mem_of_getElem? hy1
      have hy1c := Dats.cnt_mem hy1m
      refine den_call cb_core_maker__expr (Held.call (J := [bx wr T [.bool (b2 || decide (y0.kind ≠ 4))]]) (h4.perm (List.perm_append_comm (l₁ := [_, _]) (l₂ := [_]))) fun K hK => ih x hm y1 hy1m _ S4 K wr T _ hK p5 (by omega)) ?_
      rintro xx K5 ⟨S5, J5, l5, h5, e, b5, rfl, ⟨ecs, rfl, r5⟩, hge⟩
      have ht5 := Xp.Rep.tags r5
      have r5' := r5
      obtain ⟨nb, db, kb, nc, dc, kc, rfl, _⟩ := Xp.Rep.open r5'
      refine ⟨_, _, rfl, ht5, rfl, pendNil, ?_⟩
      refine den_hPush (more := [e]) (b := 128) [.agg (exVs e nb db kb nc dc kc).toArray] uExprs elemExpr rfl (by decide) (by decide) (h5.perm ((List.perm_append_comm (l₁ := [_, _]) (l₂ := [_])))) (by kernel_rfl) (.cons r5 .nil) pendNil (fun _ => by kernel_rfl) (fun _ => by kernel_rfl)
        (by simp only [maxLen, List.length_cons, List.length_nil]; omega) (by simp only [List.length_cons, List.length_nil]; omega) fun u v' S6 K6 l6 h6 => ⟨pendNil, _, lookup_hit, n - 1, by omega, k + 1, v4, v', ns ++ [y0.text], es ++ [e], b5, S6, ?_, by omega, by simp [hnk], by simp [hek], PH.le_trans l2 (PH.le_trans l3 (PH.le_trans l4 (PH.le_trans l5 l6))), h6.perm ((List.Perm.swap _ _ _).cons _ |>.trans (List.Perm.swap _ _ _)), ?_⟩
      · simp only [ev0, ev, evV, List.cons_append, List.nil_append, List.getD_cons_zero, List.getD_cons_succ, List.map_cons, List.map_nil, iOf, bOf, sOf, pOf, slLen, slBase, cmpI, arI, Value.ite_bool, int_beq, int_bne, ite_band, ite_bor]
        rw [w64 (by omega) (by omega)]
        rfl
      · intro N E q1 q2 q3 q4
        rw [List.take_add_one, hx] at q3
        have hl := congrArg List.length q3
        simp only [List.length_append, List.length_take, Option.toList_some, List.length_singleton, List.length_zipWith, List.length_map] at hl
        have hN : N.length = k + 1 := by omega
        have hE : E.length = k + 1 := by omega
        obtain ⟨N, aN, rfl, hN'⟩ := last_split hN
        obtain ⟨E, aE, rfl, hE'⟩ := last_split hE
        rw [List.map_append, List.zipWith_append (by simp; omega)] at q3
        obtain ⟨q6, q7⟩ := List.append_inj q3 (by simp; omega)
        obtain ⟨q8, q9, q10⟩ := hg N E (by omega) (fun e he => q2 e (List.mem_append_left _ he)) q6 q4
        have q11 : x = bindD aN aE.dat := by simpa using q7
        have q12 : x.list = [symD aN, aE.dat] := by rw [q11]; rfl
        rw [hy] at q12
        simp only [List.cons.injEq, and_true] at q12
        have hk4 : y0.kind = 4 := by rw [q12.1]; rfl
        obtain ⟨q13, q14⟩ := hge aE (q2 _ (by simp)) q12.2 (by rw [q10, hk4]; rfl)
        refine ⟨?_, ?_, q14⟩
        · rw [q8, q12.1]; rfl
        · rw [q9, q13]
  · simp only [ev0, ev, evV, List.cons_append, List.nil_append, List.getD_cons_zero, List.getD_cons_succ, List.map_cons, List.map_nil, iOf, bOf, sOf, pOf, slLen, slBase, cmpI, arI, Value.ite_bool, int_beq, int_bne, ite_band, ite_bor, decide_eq_false_iff_not] at g
    have hkk : k = d.list.length := by omega
    subst hkk
    rw [List.take_length] at hg
    obtain ⟨S3, s3, l3, h3⟩ := h2.freeze
    exact ⟨S3, _, PH.le_trans l2 l3, h3, ns, es, b2, nv, kv, rfl, rfl, s3, by omega, by omega, hg⟩
end Go.Proofs.YtibinelkmlcmgaaDoor.Vc
/-
  CORE: the program makes the expression of a datum.
-/
namespace Go.Proofs.YtibinelkmlcmgaaDoor.Vc
open Go

theorem drop_cnt (l : List Dat) (j : Nat) : Dats.cnt (l.drop j) ≤ Dats.cnt l := by
  have := Dats.cnt_append (l.take j) (l.drop j)
  rw [List.take_append_drop] at this; omega
/-- what is known of the pieces at the meeting point: they are those of the expression whose datum was read -/
def PartsX (d : Dat) (kk : Int) (s : List UInt8) (N : List (List UInt8)) (es : List Xp) (R : List Dat) (b : Bool) : Prop :=
  ∀ e0 : Xp, e0.okF true → d = e0.dat → kk = e0.kind ∧ s = e0.name ∧ N = e0.names ∧ b = false ∧ e0.const = dat0 ∧ ∃ E : List Xp, R = E.map Xp.dat ∧ e0.kids = es ++ E
set_option maxHeartbeats 4000000 in
theorem expr_m : ∀ (n : Nat) (d : Dat), d.cnt ≤ n → ExprAt d := by
  intro n
  induction n with
  | zero => intro d hn; have := Dat.cnt_eq d; omega
  | succ n ihn =>
  intro d hn cs S K wr T b h hd hc
  have hdc := Dat.cnt_eq d
  have hll := Dats.cnt_le d.list
  have ih : ∀ y ∈ d.list, ExprAt y := fun y hy => ihn y (by have := Dats.cnt_mem hy; omega)
  have ih2 : ∀ x ∈ d.list, ∀ y ∈ x.list, ExprAt y := fun x hx y hy => ihn y (by have := Dats.cnt_mem hx; have := Dats.cnt_mem hy; have := Dat.cnt_eq x; omega)
  obtain ⟨sv, rfl, g1, g2, g3, hs⟩ := Dat.Rep_iff.1 hd
  obtain ⟨bb, cc, rfl⟩ := hs.sl
  have hs : SlR S d.list (.slice bb d.list.length cc) := hs
  have hcap := SlR.capLe hs
  refine tri_core_maker__expr [pAt wr, .int .i64 d.kind, .int .i64 d.int, txt d.text, .slice bb d.list.length cc] (by kernel_rfl) (by kernel_rfl) ?_
  refine ⟨fun g4 => ?_, fun g4 => ?_⟩
  · simp only [ev0, ev, evV, List.cons_append, List.nil_append, List.getD_cons_zero, List.getD_cons_succ, List.map_cons, List.map_nil, iOf, bOf, sOf, pOf, slLen, slBase, cmpI, arI, Value.ite_bool, int_beq, int_bne, ite_band, ite_bor, decide_eq_true_eq] at g4
    refine ⟨S, _, PH.le_refl _, h, .mk 1 d.text [] dat0 [], b, rfl, ⟨[.int .i64 1, txt d.text, .slice none 0 0, .int .i64 0, .int .i64 0, txt [], .slice none 0 0, .slice none 0 0], rfl, ?_⟩, fun e0 h0 h1 h2 => ?_⟩
    · exact Xp.Rep_iff.2 ⟨_, _, _, rfl, (by decide : InI 1), g3, SlR.mk_iff.2 ⟨Nat.zero_le _, .inl ⟨rfl, rfl⟩⟩, dat0_rep S, SlR.mk_iff.2 ⟨Nat.zero_le _, .inl ⟨rfl, rfl⟩⟩⟩
    · have f := form_fields (Xp.okF_form h0).1
      by_cases hk : e0.kind = 1
      · have : d = symD e0.name := by rw [h1, Xp.dat_eq, datOf, if_pos hk]
        refine ⟨Xp.eq_iff.2 ⟨hk.symm, by rw [this]; rfl, (f.ref hk).1.symm, (f.const (by omega)).symm, (f.ref hk).2.symm⟩, h2⟩
      · rw [h1, dat_rest hk] at g4; simp [lstD, Dat.kind] at g4
  simp only [ev0, ev, evV, List.cons_append, List.nil_append, List.getD_cons_zero, List.getD_cons_succ, List.map_cons, List.map_nil, iOf, bOf, sOf, pOf, slLen, slBase, cmpI, arI, Value.ite_bool, int_beq, int_bne, ite_band, ite_bor, decide_eq_false_iff_not] at g4
  have hk1 : ∀ e0 : Xp, d = e0.dat → e0.kind ≠ 1 := fun e0 h1 hk => by
    rw [h1, Xp.dat_eq, datOf, if_pos hk] at g4; exact g4 rfl
  have hbad : ∀ (b' : Bool), ((¬ d.kind = 5 ∨ d.list.length < 2) ∨ b = true) → GoodX d b (.mk 0 [] [] dat0 []) b' := by
    intro b' hb e0 h0 h1 h2
    exfalso
    have hk := hk1 e0 h1
    have hr := rest_ne (Xp.okF_form h0).1 hk
    rw [dat_rest hk] at h1
    rcases hb with (hb | hb) | hb
    · rw [h1] at hb; exact hb rfl
    · rw [h1] at hb
      cases hq : restD e0 with
      | nil => exact hr hq
      | cons a l => rw [hq] at hb; simp [lstD, Dat.list] at hb; omega
    · rw [h2] at hb; cases hb
  refine ⟨fun vs K' => vs = [.bool (decide ((¬ d.kind = 5 ∨ d.list.length < 2) ∨ b = true))] ∧ K' = K, ?_, ?_⟩
  rotate_left
  · refine ⟨fun _ => rfl, fun _ => rfl, fun g => ?_, fun g => ?_⟩
    · have g' : ¬ d.kind = 5 ∨ d.list.length < 2 := by
        simp only [ev0, ev, evV, List.cons_append, List.nil_append, List.getD_cons_zero, List.getD_cons_succ, List.map_cons, List.map_nil, iOf, bOf, sOf, pOf, slLen, slBase, cmpI, arI, Value.ite_bool, int_beq, int_bne, ite_band, ite_bor] at g
        by_cases h5 : d.kind = 5
        · right; simp [h5] at g; omega
        · exact .inl h5
      refine ⟨_, lookup_hit, ?_, rfl⟩
      simp only [ev0, ev, evV, List.cons_append, List.nil_append, List.getD_cons_zero, List.getD_cons_succ, List.map_cons, List.map_nil, iOf, bOf, sOf, pOf, slLen, slBase, cmpI, arI, Value.ite_bool, int_beq, int_bne, ite_band, ite_bor, g', true_or, decide_true]
    · have g' : ¬ (¬ d.kind = 5 ∨ d.list.length < 2) := by
        simp only [ev0, ev, evV, List.cons_append, List.nil_append, List.getD_cons_zero, List.getD_cons_succ, List.map_cons, List.map_nil, iOf, bOf, sOf, pOf, slLen, slBase, cmpI, arI, Value.ite_bool, int_beq, int_bne, ite_band, ite_bor] at g
        rintro (h | h)
        · simp [h] at g
        · by_cases h5 : d.kind = 5
          · simp [h5] at g; omega
          · simp [h5] at g
      refine den_bxLoad [.bool b] (off := 0) (by kernel_rfl) h (List.mem_singleton.2 rfl) rfl rfl ⟨_, lookup_hit, ?_, rfl⟩
      simp only [ev0, ev, evV, List.cons_append, List.nil_append, List.getD_cons_zero, List.getD_cons_succ, List.map_cons, List.map_nil, iOf, bOf, sOf, pOf, slLen, slBase, cmpI, arI, Value.ite_bool, int_beq, int_bne, ite_band, ite_bor, g', false_or]
      cases b <;> rfl
  rintro vs K1 _ ⟨rfl, rfl⟩
  refine ⟨fun g5 => ?_, fun g5 => ?_⟩
  · simp only [ev0, ev, evV, List.cons_append, List.nil_append, List.getD_cons_zero, List.getD_cons_succ, List.map_cons, List.map_nil, iOf, bOf, sOf, pOf, slLen, slBase, cmpI, arI, Value.ite_bool, int_beq, int_bne, ite_band, ite_bor, decide_eq_true_eq] at g5
    refine ⟨fun _ => rfl, ?_⟩
    refine den_bxStore (off := 0) (vs := [.bool true]) (by kernel_rfl) h rfl (by simp [oneC]) (by simp) fun K2 h2 => ?_
    refine ⟨S, _, PH.le_refl _, h2, .mk 0 [] [] dat0 [], true, rfl, ⟨[.int .i64 0, txt [], .slice none 0 0, .int .i64 0, .int .i64 0, txt [], .slice none 0 0, .slice none 0 0], rfl, ex0_rep S⟩, hbad true g5⟩
  simp only [ev0, ev, evV, List.cons_append, List.nil_append, List.getD_cons_zero, List.getD_cons_succ, List.map_cons, List.map_nil, iOf, bOf, sOf, pOf, slLen, slBase, cmpI, arI, Value.ite_bool, int_beq, int_bne, ite_band, ite_bor, decide_eq_false_iff_not, not_or, Decidable.not_not, Bool.not_eq_true] at g5
  obtain ⟨⟨g5, g6⟩, rfl⟩ := g5
  have hlen2 : 2 ≤ d.list.length := by omega
  obtain ⟨hd0, rest, hlst⟩ : ∃ a l, d.list = a :: l := by
    cases hq : d.list with
    | nil => rw [hq] at hlen2; simp at hlen2
    | cons a l => exact ⟨a, l, rfl⟩
  have hd0g : d.list[0]? = some hd0 := by rw [hlst]; rfl
  obtain ⟨p1, _, c0, p2, p3⟩ := SlR.get hs hd0g
  have ht0 := Dat.Rep.tags p2
  have p2' := p2
  obtain ⟨v0, rfl, _, _, htxt, _⟩ := Dat.Rep_iff.1 p2'
  have hcut := hs.cut (a := 1) (b := d.list.length) (by omega) (Nat.le_refl _)
  rw [List.take_length] at hcut
  obtain ⟨b1, c1, hlv⟩ := hcut.sl
  have hlv' : slsV (.slice bb d.list.length cc) 1 (d.list.length : Int) 4 = .slice b1 (d.list.drop 1).length c1 := hlv
  rw [hlv] at hcut
  have hcap1 := SlR.capLe hcut
  have hd1l : (d.list.drop 1).length = d.list.length - 1 := List.length_drop
  obtain ⟨d1, hd1⟩ : ∃ x, (d.list.drop 1)[0]? = some x := ⟨_, List.getElem?_eq_getElem (by rw [hd1l]; omega)⟩
  obtain ⟨r1, _, c2, r2, r3⟩ := SlR.get hcut hd1
  have ht1 := Dat.Rep.tags r2
  have r2' := r2
  obtain ⟨v1, rfl, x1, x2, x3, xs⟩ := Dat.Rep_iff.1 r2'
  have hcut2 := hcut.cut (a := 1) (b := (d.list.drop 1).length) (by omega) (Nat.le_refl _)
  rw [List.take_length, List.drop_drop] at hcut2
  obtain ⟨b2, c2, hlv2⟩ := hcut2.sl
  have hlv2' : slsV (.slice b1 (d.list.drop 1).length c1) 1 ((d.list.drop 1).length : Int) 4 = .slice b2 (d.list.drop (1 + 1)).length c2 := hlv2
  rw [hlv2] at hcut2
  refine ⟨fun _ => ?_, ?_⟩
  · simp only [Chk.holds, ev0, ev, evV, List.cons_append, List.nil_append, List.getD_cons_zero, List.getD_cons_succ, List.map_cons, List.map_nil, iOf, bOf, sOf, pOf, slLen, slBase, cmpI, arI, Value.ite_bool, int_beq, int_bne, ite_band, ite_bor, slCap]; omega
  refine ⟨fun m vs K' => ∃ (k : Nat) (S' : PH) (b' : Bool), vs = [.int .i64 (kindOf hd0.text k), .int .i64 k] ∧ k + m = 11 ∧ PH.le S S' ∧ Held S' K' [bx wr T [.bool b']] ∧ (hd0.kind = 4 → b' = false),
    ⟨11, 0, S, false, rfl, rfl, PH.le_refl _, h, fun _ => rfl⟩, ?_⟩
  clear h
  rintro m vs K2 _ ⟨k, S2, b', rfl, hkm, l2, h2, hb'⟩
  have hkr := kindOf_range hd0.text k (by omega)
  refine ⟨fun g => ?_, fun g => ?_⟩
  · simp only [ev0, ev, evV, List.cons_append, List.nil_append, List.getD_cons_zero, List.getD_cons_succ, List.map_cons, List.map_nil, iOf, bOf, sOf, pOf, slLen, slBase, cmpI, arI, Value.ite_bool, int_beq, int_bne, ite_band, ite_bor, decide_eq_true_eq] at g
    refine ⟨fun vs K' => ∃ (S' : PH) (b2 : Bool), vs = [.bool (decide (wordL k ≠ [] ∧ wordL k = hd0.text))] ∧ PH.le S S' ∧ Held S' K' [bx wr T [.bool b2]] ∧ (hd0.kind = 4 → b2 = false), ?_, ?_⟩
    · rintro vs K3 _ ⟨S3, b3, rfl, l3, h3, hb3⟩
      refine ⟨_, lookup_hit, m - 1, by omega, k + 1, S3, b3, ?_, by omega, l3, h3, hb3⟩
      simp only [ev0, ev, evV, List.cons_append, List.nil_append, List.getD_cons_zero, List.getD_cons_succ, List.map_cons, List.map_nil, iOf, bOf, sOf, pOf, slLen, slBase, cmpI, arI, Value.ite_bool, int_beq, int_bne, ite_band, ite_bor]
      rw [w64 (by omega) (by omega)]
      simp only [kindOf]
      by_cases hw : wordL k ≠ [] ∧ wordL k = hd0.text
      · rw [decide_eq_true hw, if_pos rfl, if_pos hw]; rfl
      · rw [decide_eq_false hw, if_neg (by simp), if_neg hw]; rfl
    refine den_gives [txt (wordL k)] cb_core_words (words_gives k (by omega) (by omega) K2) rfl pendNil fun K3 q3 => ?_
    have h3 := h2.le q3
    refine ⟨fun _ => ?_, fun gw => ?_, fun gw => ?_⟩
    · simp only [Chk.holds, ev0, ev, evV, List.cons_append, List.nil_append, List.getD_cons_zero, List.getD_cons_succ, List.map_cons, List.map_nil, iOf, bOf, sOf, pOf, slLen, slBase, cmpI, arI, Value.ite_bool, int_beq, int_bne, ite_band, ite_bor]; exact ⟨p1, by omega, by omega⟩
    · simp only [ev0, ev, evV, List.cons_append, List.nil_append, List.getD_cons_zero, List.getD_cons_succ, List.map_cons, List.map_nil, iOf, bOf, sOf, pOf, slLen, slBase, cmpI, arI, Value.ite_bool, int_beq, int_bne, ite_band, ite_bor, txt_neq, decide_eq_true_eq] at gw
      refine ⟨_, ht0, by simp only [ev0, ev, evV, List.cons_append, List.nil_append, List.getD_cons_zero, List.getD_cons_succ, List.map_cons, List.map_nil, iOf, bOf, sOf, pOf, slLen, slBase, cmpI, arI, Value.ite_bool, int_beq, int_bne, ite_band, ite_bor]; exact rowAt_le (PH.le_trans l2 h3.sh) p3, ?_⟩
      refine den_gives [txt (wordL k)] cb_core_words (words_gives k (by omega) (by omega) K3) rfl ?_ fun K4 q4 => ?_
      · intro x hx'
        rw [List.mem_singleton.1 hx']
        simp only [ev0, ev, evV, List.cons_append, List.nil_append, List.getD_cons_zero, List.getD_cons_succ, List.map_cons, List.map_nil, iOf, bOf, sOf, pOf, slLen, slBase, cmpI, arI, Value.ite_bool, int_beq, int_bne, ite_band, ite_bor]
        exact rowAt_le (PH.le_trans l2 h3.sh) p3
      refine den_call cb_core_maker__name (Held.call (J := [bx wr T [.bool b']]) (I := []) (h3.le q4) fun K hK => MName_tri hd0 _ S2 K wr T b' hK (Dat.Rep.le l2 _ p2)) ?_
      rintro x K5 ⟨S5, J5, l5, h5, rfl, rfl⟩
      refine ⟨_, [txt hd0.text], rfl, rfl, rfl, pendNil, ?_⟩
      refine ⟨_, lookup_hit, S5, _, ?_, PH.le_trans l2 l5, h5, fun hk4 => by rw [hb' hk4, hk4]; rfl⟩
      simp only [ev0, ev, evV, List.cons_append, List.nil_append, List.getD_cons_zero, List.getD_cons_succ, List.map_cons, List.map_nil, iOf, bOf, sOf, pOf, slLen, slBase, cmpI, arI, Value.ite_bool, int_beq, int_bne, ite_band, ite_bor, txt_eql]
      congr 2
      exact decide_eq_decide.2 ⟨fun e => ⟨gw, e⟩, fun e => e.2⟩
    · simp only [ev0, ev, evV, List.cons_append, List.nil_append, List.getD_cons_zero, List.getD_cons_succ, List.map_cons, List.map_nil, iOf, bOf, sOf, pOf, slLen, slBase, cmpI, arI, Value.ite_bool, int_beq, int_bne, ite_band, ite_bor, txt_neq, decide_eq_false_iff_not, ne_eq, Decidable.not_not] at gw
      refine ⟨_, lookup_hit, S2, b', ?_, l2, h3, hb'⟩
      rw [gw]; simp [ev0, ev]
  simp only [ev0, ev, evV, List.cons_append, List.nil_append, List.getD_cons_zero, List.getD_cons_succ, List.map_cons, List.map_nil, iOf, bOf, sOf, pOf, slLen, slBase, cmpI, arI, Value.ite_bool, int_beq, int_bne, ite_band, ite_bor, decide_eq_false_iff_not] at g
  have hkk : k = 11 := by omega
  subst hkk
  have hkind : ∀ e0 : Xp, e0.okF true → d = e0.dat → kindOf hd0.text 11 = e0.kind ∧ hd0.kind = 4 ∧ d.list.drop 1 = restD e0 := by
    intro e0 h0 h1
    have hk := hk1 e0 h1
    have hrng := exForm_kind (Xp.okF_form h0).1
    have hl2 : d.list = symD (wordL e0.kind) :: restD e0 := by rw [h1, dat_rest hk]; rfl
    rw [hlst] at hl2
    simp only [List.cons.injEq] at hl2
    refine ⟨?_, by rw [hl2.1]; rfl, by rw [hlst]; exact hl2.2⟩
    rw [hl2.1]
    exact kindOf_word hrng.1 hrng.2 hk
  generalize hkg : kindOf hd0.text 11 = kk at hkr hkind ⊢
  refine ⟨fun vs K' => ∃ (lv nv kv : Value) (s : List UInt8) (N : List (List UInt8)) (es : List Xp) (j : Nat) (S' : PH) (b2 : Bool), vs = [lv, .int .i64 kk, txt s, nv, .int .i64 0, .int .i64 0, txt [], .slice none 0 0, kv] ∧ PH.le S S' ∧ SlR S' (d.list.drop j) lv ∧ SlR S' N nv ∧ s.length ≤ maxLen ∧ es.length ≤ 100000 ∧
    Held S' K' [bx wr T [.bool b2], orow 28 es kv] ∧ PartsX d kk s N es (d.list.drop j) b2, ?_, ?_⟩
  · rintro vs K3 _ ⟨lv, nv, kv, s, N, es, j, S3, b3, rfl, l3, hR, hN, hsl, hes, h3, hparts⟩
    have hcj := drop_cnt d.list j
    have hlj : (d.list.drop j).length ≤ d.list.length := by rw [List.length_drop]; omega
    refine den_call cb_core_maker__all (Held.call (J := [bx wr T [.bool b3]]) h3 fun K hK => all_m (d.list.drop j) (fun y hy => ih y (List.mem_of_mem_drop hy)) lv S3 K wr T b3 hK hR (by omega)) ?_
    rintro x K4 ⟨S4, J4, l4, h4, E, b4, w, rfl, rfl, hw, hEl, hgE⟩
    obtain ⟨wb, wc, hwv⟩ := hw.sl
    refine ⟨_, [w], rfl, by rw [hwv]; rfl, rfl, pendNil, ?_⟩
    refine den_hApp (b := 128) (more := E) uExprs elemExpr (by kernel_rfl) (by kernel_rfl) (h4.perm (List.Perm.swap _ _ _)) (hw.srcS h4.sh) (by simp only [maxLen]; omega) (by omega) fun v5 K5 h5 _ => ⟨pendNil, ?_⟩
    obtain ⟨S6, s6, l6, h6⟩ := h5.freeze
    refine ⟨S6, _, PH.le_trans l3 (PH.le_trans l4 l6), h6, .mk kk s N dat0 (es ++ E), b4, rfl, ⟨[.int .i64 kk, txt s, nv, .int .i64 0, .int .i64 0, txt [], .slice none 0 0, v5], rfl, ?_⟩, fun e0 h0 h1 h2 => ?_⟩
    · exact Xp.Rep_iff.2 ⟨_, _, _, rfl, (by show -9223372036854775808 ≤ kk ∧ kk ≤ 9223372036854775807; omega), hsl, hN.le (PH.le_trans l4 l6), dat0_rep S6, s6⟩
    · obtain ⟨q1, q2, q3, q4, q5, E0, q6, q7⟩ := hparts e0 h0 h1
      have hok := (Xp.okF_form h0).2
      obtain ⟨q8, q9⟩ := hgE E0 (fun e he => hok e (by rw [q7]; exact List.mem_append_right _ he)) q6 q4
      refine ⟨Xp.eq_iff.2 ⟨q1, q2, q3, q5.symm, ?_⟩, q9⟩
      show es ++ E = e0.kids
      rw [q8, q7]
  have pread : ∀ {e0 : Xp}, e0.okF true → d = e0.dat → FormF e0 := fun h0 _ => form_fields (Xp.okF_form h0).1
  have h2r : Held S2 K2 [bx wr T [.bool b'], orow 28 ([] : List Xp) (.slice none 0 0)] := (h2.empty _).perm (List.Perm.swap _ _ _)
  have hnil : ∀ S', SlR S' ([] : List (List UInt8)) (.slice none 0 0) := fun S' => SlR.mk_iff.2 ⟨Nat.zero_le _, .inl ⟨rfl, rfl⟩⟩
  refine ⟨fun k0 => ?_, fun k0 => ?_⟩
  · simp only [ev0, ev, evV, List.cons_append, List.nil_append, List.getD_cons_zero, List.getD_cons_succ, List.map_cons, List.map_nil, iOf, bOf, sOf, pOf, slLen, slBase, cmpI, arI, Value.ite_bool, int_beq, int_bne, ite_band, ite_bor, decide_eq_true_eq] at k0
    refine ⟨fun _ => rfl, ?_⟩
    refine den_bxLoad [.bool b'] (off := 0) (by kernel_rfl) h2 (List.mem_singleton.2 rfl) rfl rfl ?_
    refine den_bxStore (off := 0) (vs := [.bool (b' || decide (¬ (d.list.drop 1).length = 1))]) (by kernel_rfl) h2 ?_ (by simp [oneC]) (by simp) fun K3 h3 => ?_
    · simp only [ev0, ev, evV, List.cons_append, List.nil_append, List.getD_cons_zero, List.getD_cons_succ, List.map_cons, List.map_nil, iOf, bOf, sOf, pOf, slLen, slBase, cmpI, arI, Value.ite_bool, int_beq, int_bne, ite_band, ite_bor, hlv']
      congr 2
      cases b' with
      | true => rfl
      | false => simp only [Bool.false_or, Bool.false_eq_true, if_false]; exact decide_eq_decide.2 (by omega)
    refine ⟨fun _ => ?_, _, ht1, ?_, ?_⟩
    · simp only [Chk.holds, ev0, ev, evV, List.cons_append, List.nil_append, List.getD_cons_zero, List.getD_cons_succ, List.map_cons, List.map_nil, iOf, bOf, sOf, pOf, slLen, slBase, cmpI, arI, Value.ite_bool, int_beq, int_bne, ite_band, ite_bor, hlv']; exact ⟨r1, by omega, by omega⟩
    · simp only [ev0, ev, evV, List.cons_append, List.nil_append, List.getD_cons_zero, List.getD_cons_succ, List.map_cons, List.map_nil, iOf, bOf, sOf, pOf, slLen, slBase, cmpI, arI, Value.ite_bool, int_beq, int_bne, ite_band, ite_bor, hlv']; exact rowAt_le (PH.le_trans l2 h3.sh) r3
    refine ⟨S2, _, l2, h3, .mk kk [] [] d1 [], _, rfl, ⟨_, rfl, ?_⟩, fun e0 h0 h1 h2 => ?_⟩
    · simp only [ev0, ev, evV, List.cons_append, List.nil_append, List.getD_cons_zero, List.getD_cons_succ, List.map_cons, List.map_nil, iOf, bOf, sOf, pOf, slLen, slBase, cmpI, arI, Value.ite_bool, int_beq, int_bne, ite_band, ite_bor]
      exact Xp.Rep_iff.2 ⟨_, _, _, rfl, (by show -9223372036854775808 ≤ kk ∧ kk ≤ 9223372036854775807; omega), Nat.zero_le _, hnil S2, Dat.Rep.le l2 _ r2, SlR.mk_iff.2 ⟨Nat.zero_le _, .inl ⟨rfl, rfl⟩⟩⟩
    · obtain ⟨q1, q2, q3⟩ := hkind e0 h0 h1
      have f := pread h0 h1
      have hq0 : e0.kind = 0 := by omega
      have hrd : restD e0 = [e0.const] := by unfold restD; rw [if_pos hq0]
      rw [hrd] at q3
      rw [q3] at hd1
      have hd1e : e0.const = d1 := by simpa using hd1
      obtain ⟨f1, f2, f3⟩ := f.quote hq0
      refine ⟨Xp.eq_iff.2 ⟨q1, f1.symm, f2.symm, hd1e.symm, f3.symm⟩, ?_⟩
      rw [hb' q2, q3]; rfl
  simp only [ev0, ev, evV, List.cons_append, List.nil_append, List.getD_cons_zero, List.getD_cons_succ, List.map_cons, List.map_nil, iOf, bOf, sOf, pOf, slLen, slBase, cmpI, arI, Value.ite_bool, int_beq, int_bne, ite_band, ite_bor, decide_eq_false_iff_not] at k0
  have hd2 : d.list.drop (1 + 1) = (d.list.drop 1).drop 1 := by rw [List.drop_drop]
  have hd1d : ∃ t, d.list.drop 1 = d1 :: t := by
    cases hq : d.list.drop 1 with
    | nil => rw [hq] at hd1; cases hd1
    | cons a t => rw [hq] at hd1; cases hd1; exact ⟨t, rfl⟩
  obtain ⟨tl, htl⟩ := hd1d
  have hd2t : d.list.drop (1 + 1) = tl := by rw [hd2, htl]; rfl
  refine ⟨fun k2 => ?_, fun k2 => ?_⟩
  · have k2' : kk = 2 ∨ kk = 7 := by
      simp only [ev0, ev, evV, List.cons_append, List.nil_append, List.getD_cons_zero, List.getD_cons_succ, List.map_cons, List.map_nil, iOf, bOf, sOf, pOf, slLen, slBase, cmpI, arI, Value.ite_bool, int_beq, int_bne, ite_band, ite_bor] at k2
      by_cases h : kk = 2
      · exact .inl h
      · right; simpa [h] using k2
    refine ⟨fun _ => ?_, _, ht1, ?_, fun _ => ?_, ?_⟩
    · simp only [Chk.holds, ev0, ev, evV, List.cons_append, List.nil_append, List.getD_cons_zero, List.getD_cons_succ, List.map_cons, List.map_nil, iOf, bOf, sOf, pOf, slLen, slBase, cmpI, arI, Value.ite_bool, int_beq, int_bne, ite_band, ite_bor, hlv']; exact ⟨r1, by omega, by omega⟩
    · simp only [ev0, ev, evV, List.cons_append, List.nil_append, List.getD_cons_zero, List.getD_cons_succ, List.map_cons, List.map_nil, iOf, bOf, sOf, pOf, slLen, slBase, cmpI, arI, Value.ite_bool, int_beq, int_bne, ite_band, ite_bor, hlv']; exact rowAt_le (PH.le_trans l2 h2.sh) r3
    · simp only [Chk.holds, ev0, ev, evV, List.cons_append, List.nil_append, List.getD_cons_zero, List.getD_cons_succ, List.map_cons, List.map_nil, iOf, bOf, sOf, pOf, slLen, slBase, cmpI, arI, Value.ite_bool, int_beq, int_bne, ite_band, ite_bor, hlv', slCap]; omega
    refine den_call cb_core_maker__name (Held.call (J := [bx wr T [.bool b']]) h2r fun K hK => MName_tri d1 _ S2 K wr T b' hK (Dat.Rep.le l2 _ r2)) ?_
    rintro x K3 ⟨S3, J3, l3, h3, rfl, rfl⟩
    refine ⟨_, [txt d1.text], rfl, rfl, rfl, pendNil, ?_⟩
    refine ⟨_, lookup_hit, .slice b2 (d.list.drop (1 + 1)).length c2, .slice none 0 0, .slice none 0 0, d1.text, [], [], 1 + 1, S3, _, ?_, PH.le_trans l2 l3, hcut2.le (PH.le_trans l2 l3), hnil S3, x3, by simp, h3, ?_⟩
    · simp only [ev0, ev, evV, List.cons_append, List.nil_append, List.getD_cons_zero, List.getD_cons_succ, List.map_cons, List.map_nil, iOf, bOf, sOf, pOf, slLen, slBase, cmpI, arI, Value.ite_bool, int_beq, int_bne, ite_band, ite_bor, hlv', hlv2']; rfl
    · intro e0 h0 h1
      obtain ⟨q1, q2, q3⟩ := hkind e0 h0 h1
      have f := pread h0 h1
      have hrd : restD e0 = symD e0.name :: e0.kids.map Xp.dat := by unfold restD; rw [if_neg (by omega), if_pos (by omega)]
      rw [hrd, htl] at q3
      simp only [List.cons.injEq] at q3
      refine ⟨q1, by rw [q3.1]; rfl, ?_, by rw [hb' q2, q3.1]; rfl, f.const (by omega), e0.kids, by rw [hd2t, q3.2], rfl⟩
      rcases k2' with hk | hk
      · exact ((f.set (by omega)).1).symm
      · exact (f.prim (by omega)).symm
  have k2' : ¬ (kk = 2 ∨ kk = 7) := by
    rintro (h | h) <;> simp [ev0, ev, evV, List.cons_append, List.nil_append, List.getD_cons_zero, List.getD_cons_succ, List.map_cons, List.map_nil, iOf, bOf, sOf, pOf, slLen, slBase, cmpI, arI, Value.ite_bool, int_beq, int_bne, ite_band, ite_bor, h] at k2
  refine ⟨fun k5 => ?_, fun k5 => ?_⟩
  · simp only [ev0, ev, evV, List.cons_append, List.nil_append, List.getD_cons_zero, List.getD_cons_succ, List.map_cons, List.map_nil, iOf, bOf, sOf, pOf, slLen, slBase, cmpI, arI, Value.ite_bool, int_beq, int_bne, ite_band, ite_bor, decide_eq_true_eq] at k5
    refine ⟨fun vs K' => vs = [] ∧ ∃ b5, Held S2 K' [bx wr T [.bool b5]] ∧ (b' = false → d1.kind = 5 → b5 = false), ?_, ?_⟩
    · rintro vs K3 _ ⟨rfl, b5, h3, hb5⟩
      have xs' : SlR S2 d1.list v1 := SlR.le l2 xs
      obtain ⟨xb, xc, rfl⟩ := xs'.sl
      refine ⟨fun _ => ?_, [.slice xb d1.list.length xc], rfl, ?_, ?_⟩
      · simp only [Chk.holds, ev0, ev, evV, List.cons_append, List.nil_append, List.getD_cons_zero, List.getD_cons_succ, List.map_cons, List.map_nil, iOf, bOf, sOf, pOf, slLen, slBase, cmpI, arI, Value.ite_bool, int_beq, int_bne, ite_band, ite_bor, hlv']; exact ⟨r1, by omega, by omega⟩
      · simp only [ev0, ev, evV, List.cons_append, List.nil_append, List.getD_cons_zero, List.getD_cons_succ, List.map_cons, List.map_nil, iOf, bOf, sOf, pOf, slLen, slBase, cmpI, arI, Value.ite_bool, int_beq, int_bne, ite_band, ite_bor, hlv']
        have := rowAt_sub (rowAt_le (PH.le_trans l2 h3.sh) r3) 3 1
        exact this
      refine ⟨fun m vs K' => ∃ (k : Nat) (nv : Value) (ns : List (List UInt8)) (b6 : Bool) (S' : PH), vs = [.int .i64 k, .int .i64 kk, txt [], nv, .int .i64 0, .int .i64 0, txt [], .slice none 0 0, .slice none 0 0] ∧ k + m = d1.list.length ∧ PH.le S2 S' ∧ Held S' K' [orow 9 ns nv, bx wr T [.bool b6]] ∧ ns.length = k ∧ (∀ N : List (List UInt8), d1.list = N.map symD → b5 = false → ns = N.take k ∧ b6 = false),
        ⟨d1.list.length, 0, .slice none 0 0, [], b5, S2, rfl, by omega, PH.le_refl _, h3.empty _, rfl, fun N _ hb => ⟨rfl, hb⟩⟩, ?_⟩
      rintro m vs K4 _ ⟨k, nv, ns, b6, S4, rfl, hkm, l4, h4, hnk, hgn⟩
      have hd1c : d1.list.length ≤ 100000 := by
        have e1 := Dats.cnt_mem (show d1 ∈ d.list from List.mem_of_mem_drop (by rw [htl]; exact List.mem_cons_self ..))
        have e2 := Dat.cnt_eq d1
        have e3 := Dats.cnt_le d1.list
        omega
      refine ⟨fun g => ?_, fun g => ?_⟩
      · simp only [ev0, ev, evV, List.cons_append, List.nil_append, List.getD_cons_zero, List.getD_cons_succ, List.map_cons, List.map_nil, iOf, bOf, sOf, pOf, slLen, slBase, cmpI, arI, Value.ite_bool, int_beq, int_bne, ite_band, ite_bor, decide_eq_true_eq] at g
        obtain ⟨a, ha⟩ : ∃ a, d1.list[k]? = some a := ⟨_, List.getElem?_eq_getElem (show k < d1.list.length by omega)⟩
        obtain ⟨u1, _, ca, u2, u3⟩ := SlR.get (xs'.le l4) ha
        have hta := Dat.Rep.tags u2
        have u2' := u2
        obtain ⟨va, rfl, _, _, hal, _⟩ := Dat.Rep_iff.1 u2'
        refine ⟨fun _ => ?_, _, hta, by simp only [ev0, ev, evV, List.cons_append, List.nil_append, List.getD_cons_zero, List.getD_cons_succ, List.map_cons, List.map_nil, iOf, bOf, sOf, pOf, slLen, slBase, cmpI, arI, Value.ite_bool, int_beq, int_bne, ite_band, ite_bor]; exact rowAt_le h4.sh u3, ?_⟩
        · simp only [Chk.holds, ev0, ev, evV, List.cons_append, List.nil_append, List.getD_cons_zero, List.getD_cons_succ, List.map_cons, List.map_nil, iOf, bOf, sOf, pOf, slLen, slBase, cmpI, arI, Value.ite_bool, int_beq, int_bne, ite_band, ite_bor]; exact ⟨u1, by omega, by omega⟩
        refine den_call cb_core_maker__name (Held.call (J := [bx wr T [.bool b6]]) (h4.perm (List.Perm.swap _ _ _)) fun K hK => MName_tri a _ S4 K wr T b6 hK u2) ?_
        rintro x K5 ⟨S5, J5, l5, h5, rfl, rfl⟩
        refine ⟨_, [txt a.text], rfl, rfl, rfl, pendNil, ?_⟩
        refine den_hPush (more := [a.text]) (b := 16) [txt a.text] uTxts elemTxt rfl (by decide) (by decide) (h5.perm (List.Perm.swap _ _ _)) (by kernel_rfl) (.cons ⟨_, _, rfl, ⟨rfl, hal⟩, rfl⟩ .nil) pendNil (fun _ => by kernel_rfl) (fun _ => by kernel_rfl)
          (by simp only [maxLen, List.length_cons, List.length_nil]; omega) (by simp only [List.length_cons, List.length_nil]; omega) fun u v6 S6 K6 l6 h6 => ⟨pendNil, _, lookup_hit, m - 1, by omega, k + 1, v6, ns ++ [a.text], _, S6, ?_, by omega, PH.le_trans l4 (PH.le_trans l5 l6), h6, by simp [hnk], ?_⟩
        · simp only [ev0, ev, evV, List.cons_append, List.nil_append, List.getD_cons_zero, List.getD_cons_succ, List.map_cons, List.map_nil, iOf, bOf, sOf, pOf, slLen, slBase, cmpI, arI, Value.ite_bool, int_beq, int_bne, ite_band, ite_bor]
          rw [w64 (by omega) (by omega)]
          rfl
        · intro N hN hb
          obtain ⟨e1, e2⟩ := hgn N hN hb
          rw [hN, List.getElem?_map] at ha
          obtain ⟨s, e3, rfl⟩ := Option.map_eq_some_iff.1 ha
          refine ⟨?_, by rw [e2]; rfl⟩
          rw [List.take_add_one, e3, e1]; rfl
      · simp only [ev0, ev, evV, List.cons_append, List.nil_append, List.getD_cons_zero, List.getD_cons_succ, List.map_cons, List.map_nil, iOf, bOf, sOf, pOf, slLen, slBase, cmpI, arI, Value.ite_bool, int_beq, int_bne, ite_band, ite_bor, decide_eq_false_iff_not] at g
        have hkk : k = d1.list.length := by omega
        subst hkk
        obtain ⟨S5, s5, l5, h5⟩ := h4.freeze
        have l05 := PH.le_trans l2 (PH.le_trans l4 l5)
        refine ⟨fun _ => ?_, ?_⟩
        · simp only [Chk.holds, ev0, ev, evV, List.cons_append, List.nil_append, List.getD_cons_zero, List.getD_cons_succ, List.map_cons, List.map_nil, iOf, bOf, sOf, pOf, slLen, slBase, cmpI, arI, Value.ite_bool, int_beq, int_bne, ite_band, ite_bor, hlv', slCap]; omega
        refine ⟨_, (lookup_miss (by decide)).trans lookup_hit, .slice b2 (d.list.drop (1 + 1)).length c2, nv, .slice none 0 0, [], ns, [], 1 + 1, S5, b6, ?_, l05, hcut2.le l05, s5, by simp, by simp, (h5.empty _).perm (List.Perm.swap _ _ _), ?_⟩
        · simp only [ev0, ev, evV, List.cons_append, List.nil_append, List.getD_cons_zero, List.getD_cons_succ, List.map_cons, List.map_nil, iOf, bOf, sOf, pOf, slLen, slBase, cmpI, arI, Value.ite_bool, int_beq, int_bne, ite_band, ite_bor, hlv', hlv2']
        · intro e0 h0 h1
          obtain ⟨q1, q2, q3⟩ := hkind e0 h0 h1
          have f := pread h0 h1
          have hrd : restD e0 = lstD (e0.names.map symD) :: e0.kids.map Xp.dat := by unfold restD; rw [if_neg (by omega), if_neg (by omega), if_pos (by omega)]
          rw [hrd, htl] at q3
          simp only [List.cons.injEq] at q3
          have hdl : d1.list = e0.names.map symD := by rw [q3.1]; rfl
          obtain ⟨e1, e2⟩ := hgn e0.names hdl (hb5 (hb' q2) (by rw [q3.1]; rfl))
          refine ⟨q1, ((f.lam (by omega)).1).symm, ?_, e2, f.const (by omega), e0.kids, by rw [hd2t, q3.2], rfl⟩
          rw [e1, hdl, List.length_map, List.take_length]
    · refine ⟨fun _ => rfl, ?_⟩
      refine den_bxLoad [.bool b'] (off := 0) (by kernel_rfl) h2 (List.mem_singleton.2 rfl) rfl rfl ?_
      refine ⟨fun _ => ?_, fun _ => ?_, fun gb => ?_, fun gb => ?_⟩
      · simp only [Chk.holds, ev0, ev, evV, List.cons_append, List.nil_append, List.getD_cons_zero, List.getD_cons_succ, List.map_cons, List.map_nil, iOf, bOf, sOf, pOf, slLen, slBase, cmpI, arI, Value.ite_bool, int_beq, int_bne, ite_band, ite_bor, hlv']; exact ⟨r1, by omega, by omega⟩
      · simp only [Chk.holds, ev0, ev, evV, List.cons_append, List.nil_append, List.getD_cons_zero, List.getD_cons_succ, List.map_cons, List.map_nil, iOf, bOf, sOf, pOf, slLen, slBase, cmpI, arI, Value.ite_bool, int_beq, int_bne, ite_band, ite_bor, hlv']
        have := (SlR.get hcut hd1).2.1
        exact this
      · simp only [ev0, ev, evV, List.cons_append, List.nil_append, List.getD_cons_zero, List.getD_cons_succ, List.map_cons, List.map_nil, iOf, bOf, sOf, pOf, slLen, slBase, cmpI, arI, Value.ite_bool, int_beq, int_bne, ite_band, ite_bor] at gb
        refine den_bxStore (off := 0) (vs := [.bool true]) (by kernel_rfl) h2 rfl (by simp [oneC]) (by simp) fun K3 h3 => ?_
        exact ⟨_, lookup_hit, rfl, true, h3, fun hb => by rw [gb] at hb; cases hb⟩
      · simp only [ev0, ev, evV, List.cons_append, List.nil_append, List.getD_cons_zero, List.getD_cons_succ, List.map_cons, List.map_nil, iOf, bOf, sOf, pOf, slLen, slBase, cmpI, arI, Value.ite_bool, int_beq, int_bne, ite_band, ite_bor] at gb
        refine ⟨[.int .i64 d1.kind], rfl, ?_, ?_⟩
        · simp only [ev0, ev, evV, List.cons_append, List.nil_append, List.getD_cons_zero, List.getD_cons_succ, List.map_cons, List.map_nil, iOf, bOf, sOf, pOf, slLen, slBase, cmpI, arI, Value.ite_bool, int_beq, int_bne, ite_band, ite_bor, hlv']
          have := rowAt_sub (rowAt_le (PH.le_trans l2 h2.sh) r3) 0 1
          exact this
        refine den_bxStore (off := 0) (vs := [.bool (decide (d1.kind ≠ 5))]) (by kernel_rfl) h2 (by simp only [ev0, ev, evV, List.cons_append, List.nil_append, List.getD_cons_zero, List.getD_cons_succ, List.map_cons, List.map_nil, iOf, bOf, sOf, pOf, slLen, slBase, cmpI, arI, Value.ite_bool, int_beq, int_bne, ite_band, ite_bor]) (by simp [oneC]) (by simp) fun K3 h3 => ?_
        exact ⟨_, lookup_hit, rfl, _, h3, fun _ hk => by rw [hk]; rfl⟩
  simp only [ev0, ev, evV, List.cons_append, List.nil_append, List.getD_cons_zero, List.getD_cons_succ, List.map_cons, List.map_nil, iOf, bOf, sOf, pOf, slLen, slBase, cmpI, arI, Value.ite_bool, int_beq, int_bne, ite_band, ite_bor, decide_eq_false_iff_not] at k5
  refine ⟨fun vs K' => vs = [.bool (decide (kk = 8 ∨ kk = 9 ∨ kk = 10))] ∧ K' = K2, ?_, ?_⟩
  · rintro vs K3 _ ⟨rfl, rfl⟩
    refine ⟨fun k8 => ?_, fun k8 => ?_⟩
    · simp only [ev0, ev, evV, List.cons_append, List.nil_append, List.getD_cons_zero, List.getD_cons_succ, List.map_cons, List.map_nil, iOf, bOf, sOf, pOf, slLen, slBase, cmpI, arI, Value.ite_bool, int_beq, int_bne, ite_band, ite_bor, decide_eq_true_eq] at k8
      have hd1m : d1 ∈ d.list := List.mem_of_mem_drop (by rw [htl]; exact List.mem_cons_self ..)
      have hd1c := Dats.cnt_mem hd1m
      refine ⟨fun _ => ?_, _, ht1, ?_, ?_⟩
      · simp only [Chk.holds, ev0, ev, evV, List.cons_append, List.nil_append, List.getD_cons_zero, List.getD_cons_succ, List.map_cons, List.map_nil, iOf, bOf, sOf, pOf, slLen, slBase, cmpI, arI, Value.ite_bool, int_beq, int_bne, ite_band, ite_bor, hlv']; exact ⟨r1, by omega, by omega⟩
      · simp only [ev0, ev, evV, List.cons_append, List.nil_append, List.getD_cons_zero, List.getD_cons_succ, List.map_cons, List.map_nil, iOf, bOf, sOf, pOf, slLen, slBase, cmpI, arI, Value.ite_bool, int_beq, int_bne, ite_band, ite_bor, hlv']; exact rowAt_le (PH.le_trans l2 h2.sh) r3
      refine den_call cb_core_maker__bindings (Held.call (J := [bx wr T [.bool b']]) (I := []) h2 fun K hK => bindings_m d1 (fun x hx y hy => ihn y (by have := Dats.cnt_mem hx; have := Dats.cnt_mem hy; have := Dat.cnt_eq x; have := Dat.cnt_eq d1; omega)) _ S2 K wr T b' hK (Dat.Rep.le l2 _ r2) (by omega)) ?_
      rintro x K4 ⟨S4, J4, l4, h4, ns, es, b4, nv, kv, rfl, rfl, hns, hes, hnl, hgb⟩
      obtain ⟨nb4, nc4, rfl⟩ := hns.sl
      obtain ⟨kb4, kc4, hkv⟩ := (h4.row (l := es) (e := 28) (v := kv) (by simp)).sl
      refine ⟨_, [.slice nb4 ns.length nc4, kv], rfl, by rw [hkv]; rfl, by rfl, pendNil, ?_⟩
      refine ⟨fun _ => ?_, ?_⟩
      · simp only [Chk.holds, ev0, ev, evV, List.cons_append, List.nil_append, List.getD_cons_zero, List.getD_cons_succ, List.map_cons, List.map_nil, iOf, bOf, sOf, pOf, slLen, slBase, cmpI, arI, Value.ite_bool, int_beq, int_bne, ite_band, ite_bor, hlv', slCap]; omega
      have l04 := PH.le_trans l2 l4
      refine ⟨_, lookup_hit, .slice b2 (d.list.drop (1 + 1)).length c2, .slice nb4 ns.length nc4, kv, [], ns, es, 1 + 1, S4, b4, ?_, l04, hcut2.le l04, hns, by simp, hes, h4.perm (List.Perm.swap _ _ _), ?_⟩
      · simp only [ev0, ev, evV, List.cons_append, List.nil_append, List.getD_cons_zero, List.getD_cons_succ, List.map_cons, List.map_nil, iOf, bOf, sOf, pOf, slLen, slBase, cmpI, arI, Value.ite_bool, int_beq, int_bne, ite_band, ite_bor, hlv', hlv2']; rfl
      · intro e0 h0 h1
        obtain ⟨q1, q2, q3⟩ := hkind e0 h0 h1
        have f := pread h0 h1
        have hok := (Xp.okF_form h0).2
        have hrd : restD e0 = lstD (List.zipWith bindD e0.names (e0.kids.map Xp.dat)) :: (e0.kids.map Xp.dat).drop e0.names.length := by unfold restD; rw [if_neg (by omega), if_neg (by omega), if_neg (by omega), if_pos (by omega)]
        rw [hrd, htl] at q3
        simp only [List.cons.injEq] at q3
        obtain ⟨f1, f2⟩ := f.lets (by omega)
        have hz : List.zipWith bindD e0.names (e0.kids.map Xp.dat) = List.zipWith bindD e0.names ((e0.kids.take e0.names.length).map Xp.dat) := by
          conv => lhs; rw [← List.take_append_drop e0.names.length e0.kids, List.map_append]
          have e1 : e0.names = e0.names ++ [] := by simp
          conv => lhs; rw [e1, List.zipWith_append (by simp; omega)]
          simp
        obtain ⟨e1, e2, e3⟩ := hgb e0.names (e0.kids.take e0.names.length) (by simp; omega) (fun e he => hok e (List.mem_of_mem_take he)) (by rw [q3.1, ← hz]; rfl) (by rw [hb' q2, q3.1]; rfl)
        refine ⟨q1, f1.symm, e1, e3, f.const (by omega), e0.kids.drop e0.names.length, by rw [hd2t, q3.2, List.map_drop], ?_⟩
        rw [e2, List.take_append_drop]
    · simp only [ev0, ev, evV, List.cons_append, List.nil_append, List.getD_cons_zero, List.getD_cons_succ, List.map_cons, List.map_nil, iOf, bOf, sOf, pOf, slLen, slBase, cmpI, arI, Value.ite_bool, int_beq, int_bne, ite_band, ite_bor, decide_eq_false_iff_not] at k8
      refine ⟨_, lookup_hit, .slice b1 (d.list.drop 1).length c1, .slice none 0 0, .slice none 0 0, [], [], [], 1, S2, b', ?_, l2, hcut.le l2, hnil S2, by simp, by simp, h2r, ?_⟩
      · simp only [ev0, ev, evV, List.cons_append, List.nil_append, List.getD_cons_zero, List.getD_cons_succ, List.map_cons, List.map_nil, iOf, bOf, sOf, pOf, slLen, slBase, cmpI, arI, Value.ite_bool, int_beq, int_bne, ite_band, ite_bor, hlv']; rfl
      · intro e0 h0 h1
        obtain ⟨q1, q2, q3⟩ := hkind e0 h0 h1
        have f := pread h0 h1
        have hrng := exForm_kind (Xp.okF_form h0).1
        have hk := hk1 e0 h1
        have hrd : restD e0 = e0.kids.map Xp.dat := by unfold restD; rw [if_neg (by omega), if_neg (by omega), if_neg (by omega), if_neg (by omega)]
        rw [hrd] at q3
        obtain ⟨f1, f2, _⟩ := f.bare (by omega)
        exact ⟨q1, f1.symm, f2.symm, hb' q2, f.const (by omega), e0.kids, q3, rfl⟩
  · refine ⟨fun k8 => ?_, fun k8 => ?_⟩
    · simp only [ev0, ev, evV, List.cons_append, List.nil_append, List.getD_cons_zero, List.getD_cons_succ, List.map_cons, List.map_nil, iOf, bOf, sOf, pOf, slLen, slBase, cmpI, arI, Value.ite_bool, int_beq, int_bne, ite_band, ite_bor, decide_eq_true_eq] at k8
      refine ⟨_, lookup_hit, ?_, rfl⟩
      simp only [ev0, ev, evV, List.cons_append, List.nil_append, List.getD_cons_zero, List.getD_cons_succ, List.map_cons, List.map_nil, iOf, bOf, sOf, pOf, slLen, slBase, cmpI, arI, Value.ite_bool, int_beq, int_bne, ite_band, ite_bor, k8]; rfl
    · simp only [ev0, ev, evV, List.cons_append, List.nil_append, List.getD_cons_zero, List.getD_cons_succ, List.map_cons, List.map_nil, iOf, bOf, sOf, pOf, slLen, slBase, cmpI, arI, Value.ite_bool, int_beq, int_bne, ite_band, ite_bor, decide_eq_false_iff_not] at k8
      refine ⟨_, lookup_hit, ?_, rfl⟩
      simp only [ev0, ev, evV, List.cons_append, List.nil_append, List.getD_cons_zero, List.getD_cons_succ, List.map_cons, List.map_nil, iOf, bOf, sOf, pOf, slLen, slBase, cmpI, arI, Value.ite_bool, int_beq, int_bne, ite_band, ite_bor]
      by_cases h9 : kk = 9
      · simp [h9]
      · by_cases h10 : kk = 10 <;> simp [k8, h9, h10]
end Go.Proofs.YtibinelkmlcmgaaDoor.Vc
/-
  CORE: the document tells an expression's datum.
-/
namespace Go.Proofs.YtibinelkmlcmgaaDoor.Vc
open Go

theorem RSym_gives (s : List UInt8) (H : PH) : Gives Tryd.prog n_scrimshawref06_Sym [txt s] H (.agg #[.int .i64 4, .int .i64 0, txt s, .slice none 0 0]) :=
  tri_scrimshawref06_Sym [txt s] rfl rfl ⟨rfl, PH.le_refl _⟩
theorem RList_gives (b : Option Addr) (n c : Nat) (H : PH) : Gives Tryd.prog n_scrimshawref06_List [.slice b n c] H (.agg #[.int .i64 5, .int .i64 0, txt [], .slice b n c]) :=
  tri_scrimshawref06_List [.slice b n c] rfl rfl ⟨rfl, PH.le_refl _⟩
theorem RWord_gives (k : Int) (h0 : 0 ≤ k) (h1 : k ≤ 10) (H : PH) : Gives Tryd.prog n_scrimshawref06_Word [.int .i64 k] H (txt (wordL k)) := by
  refine tri_scrimshawref06_Word [.int .i64 k] rfl rfl ?_
  have hall : ∀ w ∈ wordsL, w.length ≤ maxLen := by decide
  have hcs : ∀ l : List (List UInt8), (∀ w ∈ l, w.length ≤ maxLen) → All2 (fun (a : List UInt8) v => CsR H a (Value.cells v).toList) l (l.map txt) := by
    intro l
    induction l with
    | nil => intro _; exact .nil
    | cons w l ih => intro h; exact .cons ⟨_, _, rfl, ⟨rfl, h w (List.mem_cons_self ..)⟩, rfl⟩ (ih fun x hx => h x (List.mem_cons_of_mem _ hx))
  refine den_rowLit (l := wordsL) (b := 16) (wordsL.map txt) uTxts elemTxt rfl (by decide) (by decide) (PH.le_refl H) (by kernel_rfl) (hcs _ hall) pendNil fun v S1 H1 x1 s1 _ => ?_
  have hl : k.toNat < wordsL.length := by show _ < 11; omega
  obtain ⟨g1, _, ces, g2, g3⟩ := s1.get (List.getElem?_eq_getElem hl)
  obtain ⟨rfl, _⟩ := csTxts g2
  have hlen := s1.len
  have hk : ((k.toNat : Nat) : Int) = k := by omega
  rw [hk] at g3
  obtain ⟨b, c, rfl⟩ := s1.sl
  have e : wordsL[k.toNat] = wordL k := by rw [wordL, List.getD_eq_getElem?_getD, List.getElem?_eq_getElem hl]; rfl
  rw [e] at g3
  refine ⟨fun _ => ?_, [txt (wordL k)], rfl, by simp only [ev0, ev, evV, List.cons_append, List.nil_append, List.getD_cons_zero, List.getD_cons_succ, List.map_cons, List.map_nil, iOf, bOf, sOf, pOf, slLen, slBase, cmpI, arI, Value.ite_bool, int_beq, int_bne, ite_band, ite_bor]; exact rowAt_le x1.i g3, rfl, x1.h⟩
  simp only [Chk.holds, ev0, ev, evV, List.cons_append, List.nil_append, List.getD_cons_zero, List.getD_cons_succ, List.map_cons, List.map_nil, iOf, bOf, sOf, pOf, slLen, slBase, cmpI, arI, Value.ite_bool, int_beq, int_bne, ite_band, ite_bor]; exact ⟨g1, h0, by show k < 11; omega⟩
set_option maxHeartbeats 4000000 in
theorem RData_tri : ∀ e, ToldAt n_scrimshawref06_Data e := by
  refine Xp.ind fun e ih cs H he hok hfit => ?_
  obtain ⟨nb, db, kb, nc, dc, kc, rfl, hx⟩ := Xp.Rep.open he
  obtain ⟨fn, fk, ff⟩ := (Xp.fit_iff e).1 hfit
  obtain ⟨hform, hkids⟩ := Xp.okF_form hok
  obtain ⟨hk0, hk10⟩ := exForm_kind hform
  have hw := wordL_len e.kind
  have hwm : (wordL e.kind).length ≤ maxLen := by simp only [maxLen]; omega
  have hdat := Xp.dat_eq e
  have hb : ((e.kids.map Xp.dat).length : Nat) = e.kids.length := by simp
  refine tri_scrimshawref06_Data (exVs e nb db kb nc dc kc) (by kernel_rfl) (by kernel_rfl) ?_
  refine ⟨fun g1 => ?_, fun g1 => ?_⟩
  · simp only [ev0, ev, evV, List.cons_append, List.nil_append, List.getD_cons_zero, List.getD_cons_succ, List.map_cons, List.map_nil, iOf, bOf, sOf, pOf, slLen, slBase, cmpI, arI, Value.ite_bool, int_beq, int_bne, ite_band, ite_bor, decide_eq_true_eq] at g1
    refine den_gives [.int .i64 4, .int .i64 0, txt e.name, .slice none 0 0] cb_scrimshawref06_Sym (RSym_gives e.name H) rfl pendNil fun H6 q6 => ?_
    refine ⟨[.int .i64 4, .int .i64 0, txt e.name, .slice none 0 0], rfl, q6, ?_⟩
    rw [Xp.dat_eq, datOf, if_pos g1]
    exact sym_rep hx.name
  simp only [ev0, ev, evV, List.cons_append, List.nil_append, List.getD_cons_zero, List.getD_cons_succ, List.map_cons, List.map_nil, iOf, bOf, sOf, pOf, slLen, slBase, cmpI, arI, Value.ite_bool, int_beq, int_bne, ite_band, ite_bor, decide_eq_false_iff_not] at g1
  refine den_gives [txt (wordL e.kind)] cb_scrimshawref06_Word (RWord_gives e.kind hk0 hk10 H) rfl pendNil fun H2 q2 => ?_
  have h2 := (Held.nil (PH.le_refl H)).le q2
  refine den_gives [.int .i64 4, .int .i64 0, txt (wordL e.kind), .slice none 0 0] cb_scrimshawref06_Sym (RSym_gives (wordL e.kind) H2) rfl pendNil fun H3 q3 => ?_
  have h3 := h2.le q3
  refine den_hLit (l := [symD (wordL e.kind)]) (b := 56) [.agg #[.int .i64 4, .int .i64 0, txt (wordL e.kind), .slice none 0 0]] uDats elemDat rfl (by decide) (by decide) h3 (by kernel_rfl) (.cons (sym_rep hwm) .nil) pendNil fun wv H4 h4 _ _ => ?_
  obtain ⟨wb, wc, hwv⟩ := (h4.row (List.mem_cons_self ..)).sl
  refine den_hLit0 (α := Dat) (b := 56) uDats elemDat h4 pendNil fun kv H5 h5 _ _ => ?_
  refine ⟨fun n vs H' => ∃ (k : Nat) (out : Value) (S' : PH), vs = [out, .int .i64 k] ∧ k + n = e.kids.length ∧ PH.le H S' ∧ Held S' H' [orow 25 ((e.kids.take k).map Xp.dat) out, orow 25 [symD (wordL e.kind)] wv],
    ⟨e.kids.length, 0, kv, H, rfl, by omega, PH.le_refl _, h5⟩, ?_⟩
  rintro n vs H1 _ ⟨k, out, S1, rfl, hkn, l1, h1⟩
  refine ⟨fun g => ?_, fun g => ?_⟩
  · simp only [ev0, ev, evV, List.cons_append, List.nil_append, List.getD_cons_zero, List.getD_cons_succ, List.map_cons, List.map_nil, iOf, bOf, sOf, pOf, slLen, slBase, cmpI, arI, Value.ite_bool, int_beq, int_bne, ite_band, ite_bor, decide_eq_true_eq] at g
    obtain ⟨a, ha⟩ : ∃ a, e.kids[k]? = some a := ⟨_, List.getElem?_eq_getElem (show k < e.kids.length by omega)⟩
    obtain ⟨g1, _, ces, g2, g3⟩ := (hx.kids.le l1).get ha
    have hm := List.mem_of_getElem? ha
    have htags := Xp.Rep.tags g2
    have g2' := g2
    obtain ⟨nb', db', kb', nc', dc', kc', rfl, _⟩ := Xp.Rep.open g2'
    refine ⟨fun _ => ?_, _, htags, by simp only [ev0, ev, evV, List.cons_append, List.nil_append, List.getD_cons_zero, List.getD_cons_succ, List.map_cons, List.map_nil, iOf, bOf, sOf, pOf, slLen, slBase, cmpI, arI, Value.ite_bool, int_beq, int_bne, ite_band, ite_bor]; exact rowAt_le h1.sh g3, ?_⟩
    · simp only [Chk.holds, ev0, ev, evV, List.cons_append, List.nil_append, List.getD_cons_zero, List.getD_cons_succ, List.map_cons, List.map_nil, iOf, bOf, sOf, pOf, slLen, slBase, cmpI, arI, Value.ite_bool, int_beq, int_bne, ite_band, ite_bor]; exact ⟨g1, by omega, by omega⟩
    refine den_call cb_scrimshawref06_Data (h1.pure (R := fun x S' => ∃ cs, x = .returned (.agg cs.toArray) ∧ a.dat.Rep S' cs) ((ih a hm _ S1 g2 (hkids a hm) (ff a hm)).mono fun x S' hh => by obtain ⟨cs, q1, q2, q3⟩ := hh; exact ⟨q2, cs, q1, q3⟩)) ?_
    rintro x H2 ⟨S2, l2, h2, cs2, rfl, r2⟩
    have ht2 := Dat.Rep.tags r2
    have r2' := r2
    obtain ⟨sv2, rfl, _⟩ := Dat.Rep_iff.1 r2
    refine ⟨_, _, rfl, ht2, rfl, pendNil, ?_⟩
    refine den_hPush (more := [a.dat]) (b := 56) [.agg #[.int .i64 a.dat.kind, .int .i64 a.dat.int, txt a.dat.text, sv2]] uDats elemDat rfl (by decide) (by decide) h2 (by kernel_rfl) (.cons r2' .nil) pendNil (fun _ => by kernel_rfl) (fun _ => by kernel_rfl)
      (by rw [datsLen]; simp only [maxLen, List.length_cons, List.length_nil]; omega) (by rw [datsLen]; simp only [List.length_cons, List.length_nil]; omega) fun u v' S3 H3 l3 h3 => ⟨pendNil, _, lookup_hit, n - 1, by omega, k + 1, v', S3, ?_, by omega, PH.le_trans l1 (PH.le_trans l2 l3), ?_⟩
    · simp only [ev0, ev, evV, List.cons_append, List.nil_append, List.getD_cons_zero, List.getD_cons_succ, List.map_cons, List.map_nil, iOf, bOf, sOf, pOf, slLen, slBase, cmpI, arI, Value.ite_bool, int_beq, int_bne, ite_band, ite_bor]
      rw [w64 (by omega) (by omega)]
      rfl
    · rw [List.take_add_one, ha, List.map_append]; exact h3
  simp only [ev0, ev, evV, List.cons_append, List.nil_append, List.getD_cons_zero, List.getD_cons_succ, List.map_cons, List.map_nil, iOf, bOf, sOf, pOf, slLen, slBase, cmpI, arI, Value.ite_bool, int_beq, int_bne, ite_band, ite_bor, decide_eq_false_iff_not] at g
  have hkk : k = e.kids.length := by omega
  subst hkk
  rw [List.take_length] at h1
  clear h5 h4
  refine den_hLit0 (α := Dat) (b := 56) uDats elemDat h1 pendNil fun rv H5 h5 _ _ => ?_
  have h5 := h5.perm ((List.Perm.swap _ _ _).trans ((List.Perm.swap _ _ _).cons _))
  refine ⟨fun vs H' => ∃ (kv lv rv : Value) (L K : List Dat) (S' : PH), vs = [lv, kv, rv] ∧ tagsOk [.sl, .sl, .sl] vs = true ∧ PH.le H S' ∧ Held S' H' [orow 25 L lv] ∧ SlR S' K kv ∧ e.dat = lstD (L ++ K) ∧ L.length ≤ 4 ∧ K.length ≤ 1048576, ?_, ?_⟩
  · rintro vs H6 _ ⟨kv, lv, rv, L, K, S6, rfl, _, l6, h6, hK, hd, hL4, hK4⟩
    refine den_hApp (b := 56) (more := K) uDats elemDat (by kernel_rfl) (by kernel_rfl) h6 (hK.srcS h6.sh) (by simp only [maxLen]; omega) (by omega) fun v7 H7 h7 _ => ⟨pendNil, ?_⟩
    obtain ⟨S8, s8, l8, h8⟩ := h7.freeze
    obtain ⟨b8, c8, hv7⟩ := s8.sl
    refine den_gives [.int .i64 5, .int .i64 0, txt [], v7] cb_scrimshawref06_List (by rw [hv7]; exact RList_gives b8 _ c8 H7) (by rw [hv7]; rfl) pendNil fun H8 q8 => ?_
    refine ⟨[.int .i64 5, .int .i64 0, txt [], v7], rfl, PH.le_trans l6 (PH.le_trans l8 (h8.le q8).sh), ?_⟩
    rw [hd]
    exact lst_rep (s8.le (h8.le q8).sh)
  have fin : ∀ {L : List Dat} {v : Value} {S' H' : PH} {J : List Itm}, Held S' H' (orow 25 L v :: orow 25 (e.kids.map Xp.dat) out :: J) → ∃ S'', SlR S'' (e.kids.map Xp.dat) out ∧ PH.le S' S'' ∧ Held S'' H' [orow 25 L v] := by
    intro L v S' H' J h
    obtain ⟨S8, s8, l8, h8⟩ := (h.perm (List.Perm.swap _ _ _)).freeze
    exact ⟨S8, s8, l8, h8.sub (by simp)⟩
  have h5s := h5.perm (List.Perm.swap _ _ _)
  have tg : ∀ {x y z : Value} {l1 l2 l3 : Nat} {b1 b2 b3 : Option Addr} {c1 c2 c3 : Nat}, x = .slice b1 l1 c1 → y = .slice b2 l2 c2 → z = .slice b3 l3 c3 → tagsOk [.sl, .sl, .sl] [x, y, z] = true := by
    rintro x y z l1 l2 l3 b1 b2 b3 c1 c2 c3 rfl rfl rfl; rfl
  obtain ⟨rb, rc, hrv⟩ := (h5.row (l := ([] : List Dat)) (e := 25) (v := rv) (by simp)).sl
  refine ⟨fun g0 => ?_, fun g0 => ?_⟩
  · simp only [ev0, ev, evV, List.cons_append, List.nil_append, List.getD_cons_zero, List.getD_cons_succ, List.map_cons, List.map_nil, iOf, bOf, sOf, pOf, slLen, slBase, cmpI, arI, Value.ite_bool, int_beq, int_bne, ite_band, ite_bor, decide_eq_true_eq] at g0
    have hnil := exForm_quote hform g0
    have hc : e.const.Rep S1 [.int .i64 e.const.kind, .int .i64 e.const.int, txt e.const.text, .slice db e.const.list.length dc] := Dat.Rep.le l1 _ hx.const
    refine den_hPush (more := [e.const]) (b := 56) [.agg #[.int .i64 e.const.kind, .int .i64 e.const.int, txt e.const.text, .slice db e.const.list.length dc]] uDats elemDat rfl (by decide) (by decide) h5s (by kernel_rfl) (.cons hc .nil) pendNil (fun _ => by kernel_rfl) (fun _ => by kernel_rfl)
        (by simp [maxLen]) (by simp) fun u v7 S7 H7 l7 h7 => ⟨pendNil, ?_⟩
    obtain ⟨S8, s8, l8, h8⟩ := fin h7
    obtain ⟨b1, c1, e1⟩ := (h8.row (List.mem_cons_self ..)).sl
    obtain ⟨b2, c2, e2⟩ := s8.sl
    refine ⟨_, lookup_hit, out, v7, rv, _, e.kids.map Xp.dat, S8, by simp only [ev0, ev, evV, List.cons_append, List.nil_append, List.getD_cons_zero, List.getD_cons_succ, List.map_cons, List.map_nil, iOf, bOf, sOf, pOf, slLen, slBase, cmpI, arI, Value.ite_bool, int_beq, int_bne, ite_band, ite_bor], tg e1 e2 hrv, PH.le_trans l1 (PH.le_trans l7 l8), h8, s8, ?_, by simp, by rw [hb]; exact fk⟩
    rw [hdat, datOf, if_neg g1, if_pos g0, hnil]; rfl
  simp only [ev0, ev, evV, List.cons_append, List.nil_append, List.getD_cons_zero, List.getD_cons_succ, List.map_cons, List.map_nil, iOf, bOf, sOf, pOf, slLen, slBase, cmpI, arI, Value.ite_bool, int_beq, int_bne, ite_band, ite_bor, decide_eq_false_iff_not] at g0
  refine ⟨fun g2 => ?_, fun g2 => ?_⟩
  · simp only [ev0, ev, evV, List.cons_append, List.nil_append, List.getD_cons_zero, List.getD_cons_succ, List.map_cons, List.map_nil, iOf, bOf, sOf, pOf, slLen, slBase, cmpI, arI, Value.ite_bool, int_beq, int_bne, ite_band, ite_bor, ite_self] at g2
    have g2' : e.kind = 2 ∨ e.kind = 7 := by
      by_cases h : e.kind = 2
      · exact .inl h
      · right; simpa [h] using g2
    refine den_gives [.int .i64 4, .int .i64 0, txt e.name, .slice none 0 0] cb_scrimshawref06_Sym (RSym_gives e.name _) rfl pendNil fun H6 q6 => ?_
    refine den_hPush (more := [symD e.name]) (b := 56) [.agg #[.int .i64 4, .int .i64 0, txt e.name, .slice none 0 0]] uDats elemDat rfl (by decide) (by decide) (h5s.le q6) (by kernel_rfl) (.cons (sym_rep hx.name) .nil) pendNil (fun _ => by kernel_rfl) (fun _ => by kernel_rfl)
      (by simp [maxLen]) (by simp) fun u v7 S7 H7 l7 h7 => ⟨pendNil, ?_⟩
    obtain ⟨S8, s8, l8, h8⟩ := fin h7
    obtain ⟨b1, c1, e1⟩ := (h8.row (List.mem_cons_self ..)).sl
    obtain ⟨b2, c2, e2⟩ := s8.sl
    refine ⟨_, lookup_hit, out, v7, rv, _, e.kids.map Xp.dat, S8, by simp only [ev0, ev, evV, List.cons_append, List.nil_append, List.getD_cons_zero, List.getD_cons_succ, List.map_cons, List.map_nil, iOf, bOf, sOf, pOf, slLen, slBase, cmpI, arI, Value.ite_bool, int_beq, int_bne, ite_band, ite_bor], tg e1 e2 hrv, PH.le_trans l1 (PH.le_trans l7 l8), h8, s8, ?_, by simp, by rw [hb]; exact fk⟩
    rw [hdat, datOf, if_neg g1, if_neg g0, if_pos g2']; rfl
  have g2' : ¬ (e.kind = 2 ∨ e.kind = 7) := by
    rintro (h | h) <;> simp [ev0, ev, evV, List.cons_append, List.nil_append, List.getD_cons_zero, List.getD_cons_succ, List.map_cons, List.map_nil, iOf, bOf, sOf, pOf, slLen, slBase, cmpI, arI, Value.ite_bool, int_beq, int_bne, ite_band, ite_bor, h] at g2
  refine ⟨fun g5 => ?_, fun g5 => ?_⟩
  · simp only [ev0, ev, evV, List.cons_append, List.nil_append, List.getD_cons_zero, List.getD_cons_succ, List.map_cons, List.map_nil, iOf, bOf, sOf, pOf, slLen, slBase, cmpI, arI, Value.ite_bool, int_beq, int_bne, ite_band, ite_bor, decide_eq_true_eq] at g5
    have h5r : Held S1 _ [orow 25 ([] : List Dat) rv, orow 25 [symD (wordL e.kind)] wv, orow 25 (e.kids.map Xp.dat) out] := h5.perm (((List.Perm.swap _ _ _).cons _).trans ((List.Perm.swap _ _ _).trans ((List.Perm.swap _ _ _).cons _)))
    refine ⟨fun n vs H' => ∃ (k : Nat) (lv : Value) (S' : PH), vs = [lv, .int .i64 k] ∧ k + n = e.names.length ∧ PH.le H S' ∧ Held S' H' [orow 25 ((e.names.take k).map symD) lv, orow 25 [symD (wordL e.kind)] wv, orow 25 (e.kids.map Xp.dat) out],
      ⟨e.names.length, 0, rv, S1, by simp only [ev0, ev, evV, List.cons_append, List.nil_append, List.getD_cons_zero, List.getD_cons_succ, List.map_cons, List.map_nil, iOf, bOf, sOf, pOf, slLen, slBase, cmpI, arI, Value.ite_bool, int_beq, int_bne, ite_band, ite_bor]; rfl, by omega, l1, h5r⟩, ?_⟩
    rintro n vs H7 _ ⟨k, lv, S7, rfl, hkn, l7, h7⟩
    refine ⟨fun g => ?_, fun g => ?_⟩
    · simp only [ev0, ev, evV, List.cons_append, List.nil_append, List.getD_cons_zero, List.getD_cons_succ, List.map_cons, List.map_nil, iOf, bOf, sOf, pOf, slLen, slBase, cmpI, arI, Value.ite_bool, int_beq, int_bne, ite_band, ite_bor, decide_eq_true_eq] at g
      obtain ⟨a, ha⟩ : ∃ a, e.names[k]? = some a := ⟨_, List.getElem?_eq_getElem (show k < e.names.length by omega)⟩
      obtain ⟨g3, _, ces, g4, g6⟩ := (hx.names.le l7).get ha
      obtain ⟨rfl, hal⟩ := csTxts g4
      refine ⟨fun _ => ?_, [txt a], rfl, by simp only [ev0, ev, evV, List.cons_append, List.nil_append, List.getD_cons_zero, List.getD_cons_succ, List.map_cons, List.map_nil, iOf, bOf, sOf, pOf, slLen, slBase, cmpI, arI, Value.ite_bool, int_beq, int_bne, ite_band, ite_bor]; exact rowAt_le h7.sh g6, ?_⟩
      · simp only [Chk.holds, ev0, ev, evV, List.cons_append, List.nil_append, List.getD_cons_zero, List.getD_cons_succ, List.map_cons, List.map_nil, iOf, bOf, sOf, pOf, slLen, slBase, cmpI, arI, Value.ite_bool, int_beq, int_bne, ite_band, ite_bor]; exact ⟨g3, by omega, by omega⟩
      refine den_gives [.int .i64 4, .int .i64 0, txt a, .slice none 0 0] cb_scrimshawref06_Sym (RSym_gives a H7) rfl pendNil fun H8 q8 => ?_
      refine den_hPush (more := [symD a]) (b := 56) [.agg #[.int .i64 4, .int .i64 0, txt a, .slice none 0 0]] uDats elemDat rfl (by decide) (by decide) (h7.le q8) (by kernel_rfl) (.cons (sym_rep hal) .nil) pendNil (fun _ => by kernel_rfl) (fun _ => by kernel_rfl)
        (by simp only [maxLen, List.length_map, List.length_take, List.length_cons, List.length_nil]; omega) (by simp only [List.length_map, List.length_take, List.length_cons, List.length_nil]; omega) fun u v9 S9 H9 l9 h9 => ⟨pendNil, _, lookup_hit, n - 1, by omega, k + 1, v9, S9, ?_, by omega, PH.le_trans l7 l9, ?_⟩
      · simp only [ev0, ev, evV, List.cons_append, List.nil_append, List.getD_cons_zero, List.getD_cons_succ, List.map_cons, List.map_nil, iOf, bOf, sOf, pOf, slLen, slBase, cmpI, arI, Value.ite_bool, int_beq, int_bne, ite_band, ite_bor]
        rw [w64 (by omega) (by omega)]
        rfl
      · rw [List.take_add_one, ha, List.map_append]; exact h9
    · simp only [ev0, ev, evV, List.cons_append, List.nil_append, List.getD_cons_zero, List.getD_cons_succ, List.map_cons, List.map_nil, iOf, bOf, sOf, pOf, slLen, slBase, cmpI, arI, Value.ite_bool, int_beq, int_bne, ite_band, ite_bor, decide_eq_false_iff_not] at g
      have hkk : k = e.names.length := by omega
      subst hkk
      rw [List.take_length] at h7
      obtain ⟨S8, s8, l8, h8⟩ := h7.freeze
      obtain ⟨bb, bc, hlv⟩ := s8.sl
      refine den_gives [.int .i64 5, .int .i64 0, txt [], lv] cb_scrimshawref06_List (by rw [hlv]; exact RList_gives bb _ bc H7) (by rw [hlv]; rfl) pendNil fun H9 q9 => ?_
      refine den_hPush (more := [lstD (e.names.map symD)]) (b := 56) [.agg #[.int .i64 5, .int .i64 0, txt [], lv]] uDats elemDat rfl (by decide) (by decide) (h8.le q9) (by kernel_rfl) (.cons (lst_rep s8) .nil) pendNil (fun _ => by kernel_rfl) (fun _ => by kernel_rfl)
        (by simp [maxLen]) (by simp) fun u v9 S9 H9 l9 h9 => ⟨pendNil, ?_⟩
      obtain ⟨Sa, sa, la, ha⟩ := fin h9
      obtain ⟨b1, c1, e1⟩ := (ha.row (List.mem_cons_self ..)).sl
      obtain ⟨b2, c2, e2⟩ := sa.sl
      refine ⟨_, (lookup_miss (by decide)).trans lookup_hit, out, v9, lv, _, e.kids.map Xp.dat, Sa, by simp only [ev0, ev, evV, List.cons_append, List.nil_append, List.getD_cons_zero, List.getD_cons_succ, List.map_cons, List.map_nil, iOf, bOf, sOf, pOf, slLen, slBase, cmpI, arI, Value.ite_bool, int_beq, int_bne, ite_band, ite_bor], tg e1 e2 hlv, PH.le_trans l7 (PH.le_trans l8 (PH.le_trans l9 la)), ha, sa, ?_, by simp, by rw [hb]; exact fk⟩
      rw [hdat, datOf, if_neg g1, if_neg g0, if_neg g2', if_pos g5]; rfl
  simp only [ev0, ev, evV, List.cons_append, List.nil_append, List.getD_cons_zero, List.getD_cons_succ, List.map_cons, List.map_nil, iOf, bOf, sOf, pOf, slLen, slBase, cmpI, arI, Value.ite_bool, int_beq, int_bne, ite_band, ite_bor, decide_eq_false_iff_not] at g5
  refine ⟨fun vs H' => vs = [.bool (decide (e.kind = 8 ∨ e.kind = 9 ∨ e.kind = 10))] ∧ Held S1 H' [orow 25 (e.kids.map Xp.dat) out, orow 25 [symD (wordL e.kind)] wv, orow 25 ([] : List Dat) rv], ?_, ?_⟩
  · clear h5 h5s
    rintro vs H6 _ ⟨rfl, h5⟩
    refine ⟨fun g8 => ?_, fun g8 => ?_⟩
    · simp only [ev0, ev, evV, List.cons_append, List.nil_append, List.getD_cons_zero, List.getD_cons_succ, List.map_cons, List.map_nil, iOf, bOf, sOf, pOf, slLen, slBase, cmpI, arI, Value.ite_bool, int_beq, int_bne, ite_band, ite_bor, decide_eq_true_eq] at g8
      have hkl := exForm_lets hform g8
      obtain ⟨S7, s7, l7, h7⟩ := h5.freeze
      have h7 := h7.perm (List.Perm.swap _ _ _)
      refine ⟨fun n vs H' => ∃ (k : Nat) (lv : Value) (S' : PH), vs = [lv, .int .i64 k] ∧ k + n = e.names.length ∧ PH.le S7 S' ∧ Held S' H' [orow 25 ((List.zipWith bindD e.names (e.kids.map Xp.dat)).take k) lv, orow 25 [symD (wordL e.kind)] wv],
        ⟨e.names.length, 0, rv, S7, by simp only [ev0, ev, evV, List.cons_append, List.nil_append, List.getD_cons_zero, List.getD_cons_succ, List.map_cons, List.map_nil, iOf, bOf, sOf, pOf, slLen, slBase, cmpI, arI, Value.ite_bool, int_beq, int_bne, ite_band, ite_bor]; rfl, by omega, PH.le_refl _, h7⟩, ?_⟩
      rintro n vs H8 _ ⟨k, lv, S8, rfl, hkn, l8, h8⟩
      have hzl : (List.zipWith bindD e.names (e.kids.map Xp.dat)).length = e.names.length := by simp; omega
      refine ⟨fun g => ?_, fun g => ?_⟩
      · simp only [ev0, ev, evV, List.cons_append, List.nil_append, List.getD_cons_zero, List.getD_cons_succ, List.map_cons, List.map_nil, iOf, bOf, sOf, pOf, slLen, slBase, cmpI, arI, Value.ite_bool, int_beq, int_bne, ite_band, ite_bor, decide_eq_true_eq] at g
        obtain ⟨a, ha⟩ : ∃ a, e.names[k]? = some a := ⟨_, List.getElem?_eq_getElem (show k < e.names.length by omega)⟩
        obtain ⟨q, hq⟩ : ∃ q, (e.kids.map Xp.dat)[k]? = some q := ⟨_, List.getElem?_eq_getElem (show k < (e.kids.map Xp.dat).length by rw [hb]; omega)⟩
        obtain ⟨g3, _, ces, g4, g6⟩ := (hx.names.le (PH.le_trans l1 (PH.le_trans l7 l8))).get ha
        obtain ⟨rfl, hal⟩ := csTxts g4
        obtain ⟨p3, _, ces, p4, p6⟩ := (s7.le l8).get hq
        have pt := Dat.Rep.tags p4
        have p4' := p4
        obtain ⟨sq, rfl, _⟩ := Dat.Rep_iff.1 p4'
        obtain ⟨ob1, oc1, rfl⟩ := s7.sl
        refine ⟨fun _ => ?_, [txt a], rfl, by simp only [ev0, ev, evV, List.cons_append, List.nil_append, List.getD_cons_zero, List.getD_cons_succ, List.map_cons, List.map_nil, iOf, bOf, sOf, pOf, slLen, slBase, cmpI, arI, Value.ite_bool, int_beq, int_bne, ite_band, ite_bor]; exact rowAt_le h8.sh g6, fun _ => ?_, _, pt, by simp only [ev0, ev, evV, List.cons_append, List.nil_append, List.getD_cons_zero, List.getD_cons_succ, List.map_cons, List.map_nil, iOf, bOf, sOf, pOf, slLen, slBase, cmpI, arI, Value.ite_bool, int_beq, int_bne, ite_band, ite_bor]; exact rowAt_le h8.sh p6, ?_⟩
        · simp only [Chk.holds, ev0, ev, evV, List.cons_append, List.nil_append, List.getD_cons_zero, List.getD_cons_succ, List.map_cons, List.map_nil, iOf, bOf, sOf, pOf, slLen, slBase, cmpI, arI, Value.ite_bool, int_beq, int_bne, ite_band, ite_bor]; exact ⟨g3, by omega, by omega⟩
        · simp only [Chk.holds, ev0, ev, evV, List.cons_append, List.nil_append, List.getD_cons_zero, List.getD_cons_succ, List.map_cons, List.map_nil, iOf, bOf, sOf, pOf, slLen, slBase, cmpI, arI, Value.ite_bool, int_beq, int_bne, ite_band, ite_bor]; exact ⟨p3, by omega, by rw [hb]; omega⟩
        refine den_gives [.int .i64 4, .int .i64 0, txt a, .slice none 0 0] cb_scrimshawref06_Sym (RSym_gives a H8) rfl ?_ fun H9 q9 => ?_
        · intro x hx'
          rw [List.mem_singleton.1 hx']
          simp only [ev0, ev, evV, List.cons_append, List.nil_append, List.getD_cons_zero, List.getD_cons_succ, List.map_cons, List.map_nil, iOf, bOf, sOf, pOf, slLen, slBase, cmpI, arI, Value.ite_bool, int_beq, int_bne, ite_band, ite_bor]
          exact rowAt_le h8.sh p6
        have h9 := h8.le q9
        refine den_rowLit (l := [symD a, q]) (b := 56) [.agg #[.int .i64 4, .int .i64 0, txt a, .slice none 0 0], .agg #[.int .i64 q.kind, .int .i64 q.int, txt q.text, sq]] uDats elemDat rfl (by decide) (by decide) h9.sh (by kernel_rfl) (.cons (sym_rep hal) (.cons p4 .nil)) pendNil fun va Sa Ha xa sa _ => ?_
        have h10 := h9.ext xa
        obtain ⟨ba, ca, hva⟩ := sa.sl
        refine den_gives [.int .i64 5, .int .i64 0, txt [], va] cb_scrimshawref06_List (by rw [hva]; exact RList_gives ba _ ca Ha) (by rw [hva]; rfl) pendNil fun Hb qb => ?_
        refine den_hPush (more := [bindD a q]) (b := 56) [.agg #[.int .i64 5, .int .i64 0, txt [], va]] uDats elemDat rfl (by decide) (by decide) (h10.le qb) (by kernel_rfl) (.cons (lst_rep sa) .nil) pendNil (fun _ => by kernel_rfl) (fun _ => by kernel_rfl)
          (by simp only [maxLen, hzl, List.length_take, List.length_cons, List.length_nil]; omega) (by simp only [hzl, List.length_take, List.length_cons, List.length_nil]; omega) fun u vc Sc Hc lc hc => ⟨pendNil, _, lookup_hit, n - 1, by omega, k + 1, vc, Sc, ?_, by omega, PH.le_trans l8 (PH.le_trans xa.s lc), ?_⟩
        · simp only [ev0, ev, evV, List.cons_append, List.nil_append, List.getD_cons_zero, List.getD_cons_succ, List.map_cons, List.map_nil, iOf, bOf, sOf, pOf, slLen, slBase, cmpI, arI, Value.ite_bool, int_beq, int_bne, ite_band, ite_bor]
          rw [w64 (by omega) (by omega)]
          rfl
        · have : (List.zipWith bindD e.names (e.kids.map Xp.dat))[k]? = some (bindD a q) := by rw [List.getElem?_zipWith, ha, hq]
          rw [List.take_add_one, this]; exact hc
      · simp only [ev0, ev, evV, List.cons_append, List.nil_append, List.getD_cons_zero, List.getD_cons_succ, List.map_cons, List.map_nil, iOf, bOf, sOf, pOf, slLen, slBase, cmpI, arI, Value.ite_bool, int_beq, int_bne, ite_band, ite_bor, decide_eq_false_iff_not] at g
        have hkk : k = e.names.length := by omega
        subst hkk
        rw [List.take_of_length_le (by rw [hzl]; exact Nat.le_refl _)] at h8
        obtain ⟨S9, s9, l9, h9⟩ := h8.freeze
        obtain ⟨bb, bc, hlv⟩ := s9.sl
        refine den_gives [.int .i64 5, .int .i64 0, txt [], lv] cb_scrimshawref06_List (by rw [hlv]; exact RList_gives bb _ bc H8) (by rw [hlv]; rfl) pendNil fun H9 q9 => ?_
        refine den_hPush (more := [lstD (List.zipWith bindD e.names (e.kids.map Xp.dat))]) (b := 56) [.agg #[.int .i64 5, .int .i64 0, txt [], lv]] uDats elemDat rfl (by decide) (by decide) (h9.le q9) (by kernel_rfl) (.cons (lst_rep s9) .nil) pendNil (fun _ => by kernel_rfl) (fun _ => by kernel_rfl)
          (by simp [maxLen]) (by simp) fun u va Sa Ha la ha => ⟨pendNil, ?_⟩
        have hs7 := s7.le (PH.le_trans l8 (PH.le_trans l9 la))
        have hcut := hs7.cut (a := e.names.length) (b := (e.kids.map Xp.dat).length) (by rw [hb]; omega) (Nat.le_refl _)
        rw [List.take_length] at hcut
        obtain ⟨ob1, oc1, rfl⟩ := hs7.sl
        have hcap := hs7.capLe
        obtain ⟨b1, c1, e1⟩ := (ha.row (List.mem_cons_self ..)).sl
        obtain ⟨b2, c2, e2⟩ := hcut.sl
        refine ⟨fun _ => ?_, ?_⟩
        · simp only [Chk.holds, ev0, ev, evV, List.cons_append, List.nil_append, List.getD_cons_zero, List.getD_cons_succ, List.map_cons, List.map_nil, iOf, bOf, sOf, pOf, slLen, slBase, cmpI, arI, Value.ite_bool, int_beq, int_bne, ite_band, ite_bor, slCap]; rw [hb] at *; omega
        refine ⟨_, (lookup_miss (by decide)).trans lookup_hit, _, va, lv, _, (e.kids.map Xp.dat).drop e.names.length, Sa, by simp only [ev0, ev, evV, List.cons_append, List.nil_append, List.getD_cons_zero, List.getD_cons_succ, List.map_cons, List.map_nil, iOf, bOf, sOf, pOf, slLen, slBase, cmpI, arI, Value.ite_bool, int_beq, int_bne, ite_band, ite_bor]; rfl, tg e1 e2 hlv, PH.le_trans l1 (PH.le_trans l7 (PH.le_trans l8 (PH.le_trans l9 la))), ha, hcut, ?_, by simp, by rw [List.length_drop, hb]; omega⟩
        rw [hdat, datOf, if_neg g1, if_neg g0, if_neg g2', if_neg g5, if_pos g8]; rfl
    · simp only [ev0, ev, evV, List.cons_append, List.nil_append, List.getD_cons_zero, List.getD_cons_succ, List.map_cons, List.map_nil, iOf, bOf, sOf, pOf, slLen, slBase, cmpI, arI, Value.ite_bool, int_beq, int_bne, ite_band, ite_bor, decide_eq_false_iff_not] at g8
      obtain ⟨S7, s7, l7, h7⟩ := h5.freeze
      obtain ⟨b2, c2, e2⟩ := s7.sl
      refine ⟨_, lookup_hit, out, wv, rv, _, e.kids.map Xp.dat, S7, by simp only [ev0, ev, evV, List.cons_append, List.nil_append, List.getD_cons_zero, List.getD_cons_succ, List.map_cons, List.map_nil, iOf, bOf, sOf, pOf, slLen, slBase, cmpI, arI, Value.ite_bool, int_beq, int_bne, ite_band, ite_bor], tg hwv e2 hrv, PH.le_trans l1 l7, h7.sub ((List.nil_sublist _).cons_cons _), s7, ?_, by simp, by rw [hb]; exact fk⟩
      rw [hdat, datOf, if_neg g1, if_neg g0, if_neg g2', if_neg g5, if_neg g8]; rfl
  · refine ⟨fun g8 => ?_, fun g8 => ?_⟩
    · simp only [ev0, ev, evV, List.cons_append, List.nil_append, List.getD_cons_zero, List.getD_cons_succ, List.map_cons, List.map_nil, iOf, bOf, sOf, pOf, slLen, slBase, cmpI, arI, Value.ite_bool, int_beq, int_bne, ite_band, ite_bor, decide_eq_true_eq] at g8
      refine ⟨_, lookup_hit, ?_, h5⟩
      simp only [ev0, ev, evV, List.cons_append, List.nil_append, List.getD_cons_zero, List.getD_cons_succ, List.map_cons, List.map_nil, iOf, bOf, sOf, pOf, slLen, slBase, cmpI, arI, Value.ite_bool, int_beq, int_bne, ite_band, ite_bor, g8]; rfl
    · simp only [ev0, ev, evV, List.cons_append, List.nil_append, List.getD_cons_zero, List.getD_cons_succ, List.map_cons, List.map_nil, iOf, bOf, sOf, pOf, slLen, slBase, cmpI, arI, Value.ite_bool, int_beq, int_bne, ite_band, ite_bor, decide_eq_false_iff_not] at g8
      refine ⟨_, lookup_hit, ?_, h5⟩
      simp only [ev0, ev, evV, List.cons_append, List.nil_append, List.getD_cons_zero, List.getD_cons_succ, List.map_cons, List.map_nil, iOf, bOf, sOf, pOf, slLen, slBase, cmpI, arI, Value.ite_bool, int_beq, int_bne, ite_band, ite_bor]
      by_cases h9 : e.kind = 9
      · simp [h9]
      · by_cases h10 : e.kind = 10 <;> simp [g8, h9, h10]
end Go.Proofs.YtibinelkmlcmgaaDoor.Vc
/-
  CORE: the fixed calls, and CoreUnique.
-/
namespace Go.Proofs.YtibinelkmlcmgaaDoor.Vc
open Go

theorem gives_run {P : Program} {f : FuncId} {fn : Func} {fm : Fm VE} {tab : List CK} {S0 : PH} (h : TriOf P f fn fm) (hp : tagsOk ((paramRS P fn).flatMap RS.tags) [] = true) (ha : ([] : List Value) = packAll (paramRS P fn) []) (htab : TabOk P S0 tab) (hr : runsTrue P tab fm = true) : Gives P f [] S0 (.bool true) :=
  h [] (H := S0) (R := fun e H' => e = .returned (.bool true) ∧ PH.le S0 H') hp ha (runs_true (R := fun e H' => e = .returned (.bool true) ∧ PH.le S0 H') htab hr fun H' hl => ⟨rfl, hl⟩)
/-! ### known calls out of contracts -/
theorem ck_ag {P : Program} {S0 : PH} {f : FuncId} {row out : List PV} {sh : Sh} (hcb : callB P f = true) (h : ∀ (S : PH) (cs : List Value), PH.le S0 S → PV.RepRow S row cs → Tri P f #[.agg cs.toArray] S fun e S' => ∃ us, e = .returned (sh.pack us) ∧ PV.RepRow S' out us ∧ PH.le S S') : CK.Ok P S0 ⟨f, [(true, row)], sh, out⟩ := by
  refine ⟨hcb, fun S vs hS hv => ?_⟩
  cases hv with
  | cons h1 h2 =>
    cases h2
    obtain ⟨cs, h3, h4⟩ := h1
    simp only [if_true] at h4
    subst h4
    exact h S cs hS h3
theorem ck_ag2 {P : Program} {S0 : PH} {f : FuncId} {row row2 out : List PV} {sh : Sh} (hcb : callB P f = true) (h : ∀ (S : PH) (cs cs2 : List Value), PH.le S0 S → PV.RepRow S row cs → PV.RepRow S row2 cs2 → Tri P f #[.agg cs.toArray, .agg cs2.toArray] S fun e S' => ∃ us, e = .returned (sh.pack us) ∧ PV.RepRow S' out us ∧ PH.le S S') : CK.Ok P S0 ⟨f, [(true, row), (true, row2)], sh, out⟩ := by
  refine ⟨hcb, fun S vs hS hv => ?_⟩
  cases hv with
  | cons h1 h2 =>
    cases h2 with
    | cons h3 h4 =>
      cases h4
      obtain ⟨cs, h5, h6⟩ := h1
      obtain ⟨cs2, h7, h8⟩ := h3
      simp only [if_true] at h6 h8
      subst h6 h8
      exact h S cs cs2 hS h5 h7
theorem ck_sc {P : Program} {S0 : PH} {f : FuncId} {p : PV} {out : List PV} {sh : Sh} (hcb : callB P f = true) (h : ∀ (S : PH) (v : Value), PH.le S0 S → p.Rep S v → Tri P f #[v] S fun e S' => ∃ us, e = .returned (sh.pack us) ∧ PV.RepRow S' out us ∧ PH.le S S') : CK.Ok P S0 ⟨f, [(false, [p])], sh, out⟩ := by
  refine ⟨hcb, fun S vs hS hv => ?_⟩
  cases hv with
  | cons h1 h2 =>
    cases h2
    obtain ⟨cs, h3, h4⟩ := h1
    simp only [Bool.false_eq_true, if_false] at h4
    subst h4
    simp only [PV.RepRow] at h3
    obtain ⟨v, vs, h5, h6, rfl⟩ := h3
    cases h5
    exact h S _ hS h6
theorem row1 {S : PH} {p : PV} {v : Value} (h : p.Rep S v) : PV.RepRow S [p] [v] := by
  simp only [PV.RepRow]; exact ⟨_, _, rfl, h, rfl⟩
theorem gives_ck {P : Program} {f : FuncId} {args : List Value} {S : PH} {v : Value} {p : PV} (hp : ∀ S', p.Rep S' v) (h : Gives P f args S v) : Tri P f args.toArray S fun e S' => ∃ us, e = .returned (Sh.pack .sc us) ∧ PV.RepRow S' [p] us ∧ PH.le S S' := by
  refine h.mono ?_
  rintro e S' ⟨rfl, h2⟩
  exact ⟨[v], rfl, row1 (hp S'), h2⟩
theorem rep_bool (S : PH) (b : Bool) : PV.Rep S (.bool b) (.bool b) := by simp only [PV.Rep]

theorem CData_tri (e : Xp) (cs : List Value) (H : PH) (he : e.Rep H cs) : Tri Tryd.prog n_core_Data #[.agg cs.toArray] H fun x H' => ∃ ds : List Value, x = .returned (.tuple #[.agg ds.toArray, .int .i64 (e.chk true 0 0).2]) ∧ PH.le H H' ∧ (if (e.chk true 0 0).2 = 0 then e.dat else dat0).Rep H' ds := by
  have he' := he
  obtain ⟨nb, db, kb, nc, dc, kc, rfl, hx⟩ := Xp.Rep.open he
  refine tri_core_Data (exVs e nb db kb nc dc kc) (by kernel_rfl) (by kernel_rfl) ?_
  refine den_gives [.int .i64 (e.chk true 0 0).2] cb_core_Check (CCheckF_gives e _ H he') rfl pendNil fun H1 l1 => ?_
  refine ⟨fun g => ?_, fun g => ?_⟩
  · simp only [ev0, ev, evV, List.cons_append, List.nil_append, List.getD_cons_zero, List.getD_cons_succ, List.map_cons, List.map_nil, iOf, bOf, sOf, pOf, slLen, slBase, cmpI, arI, Value.ite_bool, int_beq, int_bne, ite_band, ite_bor, decide_eq_true_eq] at g
    refine ⟨[.int .i64 0, .int .i64 0, txt [], .slice none 0 0], ?_, l1, ?_⟩
    · simp only [evV, List.map_cons, List.map_nil, partV]; rfl
    · rw [if_neg g]; exact dat0_rep H1
  · simp only [ev0, ev, evV, List.cons_append, List.nil_append, List.getD_cons_zero, List.getD_cons_succ, List.map_cons, List.map_nil, iOf, bOf, sOf, pOf, slLen, slBase, cmpI, arI, Value.ite_bool, int_beq, int_bne, ite_band, ite_bor, decide_eq_false_iff_not, ne_eq, Decidable.not_not] at g
    refine den_call cb_core_told (told_tri e _ H1 (Xp.Rep.le l1 e he') (Xp.chk_ok true e 0 0 g).1 (chk_bounds g).1) ?_
    rintro x H2 ⟨ds, rfl, l2, r2⟩
    have ht2 := Dat.Rep.tags r2
    have r2' := r2
    obtain ⟨sv2, rfl, _⟩ := Dat.Rep_iff.1 r2
    refine ⟨_, _, rfl, ht2, rfl, pendNil, ?_⟩
    refine ⟨_, ?_, PH.le_trans l1 l2, by rw [if_pos g]; exact r2'⟩
    simp only [evV, List.map_cons, List.map_nil, partV]
    rw [g]; rfl

/-! ### what the fixed calls are of -/
def refX (s : List UInt8) : Xp := .mk 1 s [] dat0 []
def sumX (a b : List UInt8) : Xp := .mk 7 [43] [] dat0 [refX a, refX b]
/-- (lambda (x) (let ((x (+ x v.0))) x)) -/
def fxE : Xp := .mk 5 [] [[120]] dat0 [.mk 8 [] [[120]] dat0 [sumX [120] [118, 46, 48], refX [120]]]
def fxW : Xp := .mk 5 [] [[118, 46, 49]] dat0 [.mk 8 [] [[118, 46, 50]] dat0 [sumX [118, 46, 49] [118, 46, 48], refX [118, 46, 50]]]
def fxI : Xp := .mk 3 [] [] dat0 []
theorem fx_ren : PV.sameRow (renameX fxE).pv fxW.pv = true := by decide +kernel
theorem fxW_ok : (fxW.chk true 0 0).2 = 0 := by decide +kernel
theorem fxI_no : (fxI.chk true 0 0).2 = 60 := by decide +kernel
theorem fx_free : freeS (fxE.fr []) = [[118, 46, 48]] := by
  have : fxE.fr [] = [[118, 46, 48]] := by decide +kernel
  rw [this]
  have h2 : (putsM [] [[118, 46, 48]]).map (·.1) = [[118, 46, 48]] := by simp [putsM, putM, getM]
  unfold freeS
  rw [h2, List.mergeSort_singleton]
theorem ck_ref {S0 : PH} (s : List UInt8) : CK.Ok Tryd.prog S0 ⟨n_scrimshawlaw06_ref, [(false, [.str s])], .ag, (refX s).pv⟩ := by
  refine ck_sc cb_scrimshawlaw06_ref fun S v hS hv => ?_
  simp only [PV.Rep] at hv
  obtain ⟨rfl, hl⟩ := hv
  refine tri_scrimshawlaw06_ref [txt s] rfl rfl ?_
  refine ⟨[.int .i64 1, txt s, .slice none 0 0, .int .i64 0, .int .i64 0, txt [], .slice none 0 0, .slice none 0 0], rfl, ?_, PH.le_refl _⟩
  refine Xp.Rep_iff.2 ⟨_, _, _, rfl, (by decide : InI 1), hl, SlR.mk_iff.2 ⟨Nat.zero_le _, .inl ⟨rfl, rfl⟩⟩, dat0_rep S, SlR.mk_iff.2 ⟨Nat.zero_le _, .inl ⟨rfl, rfl⟩⟩⟩
theorem sl_one {S : PH} {l : List (List UInt8)} {v : Value} (h : SlR S l v) : PV.RepRow S [slp l] [v] := row1 h
def fxTab : List CK :=
  [⟨n_scrimshawlaw06_ref, [(false, [.str [120]])], .ag, (refX [120]).pv⟩,
   ⟨n_scrimshawlaw06_ref, [(false, [.str [118, 46, 48]])], .ag, (refX [118, 46, 48]).pv⟩,
   ⟨n_scrimshawlaw06_ref, [(false, [.str [118, 46, 49]])], .ag, (refX [118, 46, 49]).pv⟩,
   ⟨n_scrimshawlaw06_ref, [(false, [.str [118, 46, 50]])], .ag, (refX [118, 46, 50]).pv⟩,
   ⟨n_core_Rename, [(true, fxE.pv)], .ag, fxW.pv⟩,
   ⟨n_core_Data, [(true, fxW.pv)], .tu [(true, 4), (false, 1)], fxW.dat.pv ++ [.int .i64 0]⟩,
   ⟨n_core_Free, [(true, fxE.pv)], .sc, [.sl [[.str [118, 46, 48]]]]⟩,
   ⟨n_scrimshawref06_Data, [(true, fxW.pv)], .ag, fxW.dat.pv⟩,
   ⟨n_scrimshawref02_Same, [(true, fxW.dat.pv), (true, fxW.dat.pv)], .sc, [.bool true]⟩,
   ⟨n_core_Check, [(true, fxI.pv)], .sc, [.int .i64 60]⟩,
   ⟨n_core_Arity, [(false, [.str [99, 97, 114]])], .sc, [.int .i64 1]⟩]
theorem fxTab_ok {S0 : PH} (hT : Tab S0) : TabOk Tryd.prog S0 fxTab := by
  have key : ∀ c ∈ fxTab, CK.Ok Tryd.prog S0 c := by
    simp only [fxTab, List.forall_mem_cons, List.not_mem_nil, false_imp_iff, implies_true, and_true]
    refine ⟨ck_ref _, ck_ref _, ck_ref _, ck_ref _, ?_, ?_, ?_, ?_, ?_, ?_, ?_⟩
    · refine ck_ag cb_core_Rename fun S cs hS hr => (CRename_tri fxE cs S hr (hT.le hS)).mono ?_
      rintro x S' ⟨cs', rfl, h1, h2⟩
      have h1' : PV.RepRow S' (renameX fxE).pv cs' := h1
      rw [PV.sameRow_eq fx_ren] at h1'
      exact ⟨cs', rfl, h1', h2⟩
    · refine ck_ag cb_core_Data fun S cs hS hr => (CData_tri fxW cs S hr).mono ?_
      rintro x S' ⟨ds, rfl, h1, h2⟩
      rw [if_pos fxW_ok] at h2
      have hl : ds.length = 4 := by have := PV.RepRow.length h2; rwa [Enc.len] at this
      refine ⟨ds ++ [.int .i64 0], ?_, PV.RepRow.append h2 (row1 (rep_int (by decide))), h1⟩
      rw [fxW_ok]
      simp only [Sh.pack, tuPackN]
      rw [← hl, List.take_left', List.drop_left']
      · rfl
      · rfl
      · rfl
    · refine ck_ag cb_core_Free fun S cs hS hr => (CFree_tri fxE cs S hr (by decide +kernel) (by decide +kernel)).mono ?_
      rintro x S' ⟨v, rfl, h1, h2⟩
      rw [fx_free] at h1
      exact ⟨[v], rfl, sl_one h1, h2⟩
    · refine ck_ag cb_scrimshawref06_Data fun S cs hS hr => (RData_tri fxW cs S hr (Xp.chk_ok true _ 0 0 fxW_ok).1 (chk_bounds fxW_ok).1).mono ?_
      rintro x S' ⟨ds, rfl, h1, h2⟩
      exact ⟨ds, rfl, h2, h1⟩
    · refine ck_ag2 cb_scrimshawref02_Same fun S cs cs2 hS hr hr2 => gives_ck (fun S' => by simp only [decide_true]; exact rep_bool S' true) (Same_gives fxW.dat fxW.dat cs cs2 S hr hr2)
    · refine ck_ag cb_core_Check fun S cs hS hr => gives_ck (fun S' => by rw [fxI_no]; exact rep_int (by decide)) (CCheckF_gives fxI cs S hr)
    · refine ck_sc cb_core_Arity fun S v hS hv => ?_
      simp only [PV.Rep] at hv
      obtain ⟨rfl, _⟩ := hv
      exact gives_ck (fun S' => by rw [show arityI [99, 97, 114] = 1 by decide +kernel]; exact rep_int (by decide)) (Arity_gives [99, 97, 114] S)
  exact key
theorem fx_runs : runsTrue Tryd.prog fxTab fm_scrimshawlaw06_fixed = true := by kernel_rfl
theorem CFixed_gives (H : PH) (hT : Tab H) : Gives Tryd.prog n_scrimshawlaw06_fixed [] H (.bool true) := by
  exact gives_run tri_scrimshawlaw06_fixed (by kernel_rfl) (by kernel_rfl) (fxTab_ok hT) fx_runs
end Go.Proofs.YtibinelkmlcmgaaDoor.Vc
/-
  CORE: Make; two expressions the same; and CoreBack.
-/
namespace Go.Proofs.YtibinelkmlcmgaaDoor.Vc
open Go

/-! ### how many data there are in an expression's datum -/
mutual
theorem Xp.dat_cnt (t : Bool) : ∀ e : Xp, e.okF t → e.dat.cnt ≤ 4 * e.size + 2 * e.bnd.length
  | .mk k s ns d l, h => by
    have hf := (Xp.okF_form h).1
    have f := form_fields hf
    have hl := Xps.dat_cnt t l (by simp only [Xp.okF] at h; exact h.2)
    have hc : constOk d = true → d.cnt = 1 := by
      intro hc
      simp only [constOk, Bool.and_eq_true, Bool.or_eq_true, decide_eq_true_eq, List.isEmpty_iff] at hc
      have hck : formOk d = true := by
        have := hc.1
        rw [Dat.chk_eq] at this
        by_cases h1 : formOk d = true
        · exact h1
        · simp [h1] at this
      have hl : d.list = [] := by
        by_cases hl : d.list = []
        · exact hl
        · have := formOk_nested hck hl
          rcases hc.2 with (((h1 | h1) | h1) | h1) | h1
          · simp [nested, h1] at this
          · simp [nested, h1] at this
          · simp [nested, h1] at this
          · simp [nested, h1] at this
          · exact absurd h1.2 hl
      rw [Dat.cnt_eq, hl]; simp [Dats.cnt]
    have hz : (List.zipWith bindD ns (l.map Xp.dat)).length ≤ ns.length := by simp; omega
    have hzc : ∀ (N : List (List UInt8)) (D : List Dat), Dats.cnt (List.zipWith bindD N D) + Dats.cnt (D.drop N.length) ≤ 2 * N.length + Dats.cnt D := by
      intro N
      induction N with
      | nil => intro D; simp [Dats.cnt]
      | cons n N ih =>
        intro D
        cases D with
        | nil => simp [Dats.cnt]
        | cons x D =>
          have := ih D
          simp only [List.zipWith_cons_cons, Dats.cnt, List.drop_succ_cons, List.length_cons]
          have e1 : (bindD n x).cnt = 2 + x.cnt := by simp [bindD, lstD, symD, Dat.cnt, Dats.cnt]; omega
          omega
    have hs : ∀ N : List (List UInt8), Dats.cnt (N.map symD) = N.length := by
      intro N
      induction N with
      | nil => rfl
      | cons n N ih => simp only [List.map_cons, Dats.cnt, List.length_cons, ih]; simp [symD, Dat.cnt, Dats.cnt]; omega
    have hzl := hzc ns (l.map Xp.dat)
    simp only [Xp.dat, Xps.dats_eq, Xp.size, Xp.bnd, List.length_append]
    unfold datOf
    split
    · simp [symD, Dat.cnt, Dats.cnt]; omega
    split
    · rename_i h0
      have : constOk d = true := by
        have hf' := hf
        unfold exForm at hf'
        rw [if_pos (show (Xp.mk k s ns d l).kind = 0 from h0)] at hf'
        simp only [Bool.and_eq_true] at hf'
        exact hf'.2
      have := hc this
      simp [lstD, symD, Dat.cnt, Dats.cnt, this]; omega
    split
    · simp [lstD, symD, Dat.cnt, Dats.cnt]; omega
    split
    · have := hs ns
      simp [lstD, symD, Dat.cnt, Dats.cnt] at *; omega
    split
    · simp [lstD, symD, Dat.cnt, Dats.cnt] at *; omega
    · simp [lstD, symD, Dat.cnt, Dats.cnt] at *; omega
theorem Xps.dat_cnt (t : Bool) : ∀ l : List Xp, Xps.okF t l → Dats.cnt (l.map Xp.dat) ≤ 4 * Xps.size l + 2 * (Xps.bnd l).length
  | [], _ => by simp [Dats.cnt]
  | e :: l, h => by
    simp only [Xps.okF] at h
    have h1 := Xp.dat_cnt t e h.1
    have h2 := Xps.dat_cnt t l h.2
    simp only [List.map_cons, Dats.cnt, Xps.size, Xps.bnd, List.length_append]; omega
end
theorem chk_cnt {e : Xp} (h : (e.chk true 0 0).2 = 0) : e.dat.cnt ≤ 100000 := by
  have h1 := Xp.dat_cnt true e (Xp.chk_ok true e 0 0 h).1
  have h2 := chk_size h
  have h3 := (chk_bounds h).2.1
  omega

/-! ### two expressions -/
theorem decNot {p : Prop} [Decidable p] (h : ¬ p) : true = decide (¬ p) := (decide_eq_true h).symm
noncomputable instance decXp : DecidableEq Xp := fun a b => Classical.propDecidable (a = b)
noncomputable instance decXps : DecidableEq (List Xp) := fun a b => Classical.propDecidable (a = b)
theorem XSame_gives : ∀ (a b : Xp) (ca cb : List Value) (H : PH), a.Rep H ca → b.Rep H cb → Gives Tryd.prog n_scrimshawref06_Same [.agg ca.toArray, .agg cb.toArray] H (.bool (decide (a = b))) := by
  refine Xp.ind fun a ih b ca cb H ha hb => ?_
  obtain ⟨nb, db, kb, nc, dc, kc, rfl, hx⟩ := Xp.Rep.open ha
  obtain ⟨nb2, db2, kb2, nc2, dc2, kc2, rfl, hy⟩ := Xp.Rep.open hb
  have m1 := hx.kids.max
  have m2 := hy.kids.max
  simp only [maxLen] at m1 m2
  refine tri_scrimshawref06_Same (exVs a nb db kb nc dc kc ++ exVs b nb2 db2 kb2 nc2 dc2 kc2) (by kernel_rfl) (by kernel_rfl) ?_
  refine ⟨fun vs H' => vs = [.bool (decide (¬ (a.kind = b.kind ∧ a.name = b.name ∧ a.names = b.names ∧ a.const = b.const ∧ a.kids.length = b.kids.length)))] ∧ PH.le H H', ?_, ?_⟩
  · rintro vs H1 _ ⟨rfl, l1⟩
    refine ⟨fun g => ?_, fun g => ?_⟩
    · simp only [ev0, ev, evV, List.cons_append, List.nil_append, List.getD_cons_zero, List.getD_cons_succ, List.map_cons, List.map_nil, iOf, bOf, sOf, pOf, slLen, slBase, cmpI, arI, Value.ite_bool, int_beq, int_bne, ite_band, ite_bor, decide_eq_true_eq] at g
      refine ⟨?_, l1⟩
      have : ¬ a = b := fun e => g (by subst e; simp)
      simp only [ev0, ev, evV, List.cons_append, List.nil_append, List.getD_cons_zero, List.getD_cons_succ, List.map_cons, List.map_nil, iOf, bOf, sOf, pOf, slLen, slBase, cmpI, arI, Value.ite_bool, int_beq, int_bne, ite_band, ite_bor, decide_eq_false this]
    simp only [ev0, ev, evV, List.cons_append, List.nil_append, List.getD_cons_zero, List.getD_cons_succ, List.map_cons, List.map_nil, iOf, bOf, sOf, pOf, slLen, slBase, cmpI, arI, Value.ite_bool, int_beq, int_bne, ite_band, ite_bor, decide_eq_false_iff_not, Decidable.not_not] at g
    obtain ⟨h1, h2, h3, h4, h5⟩ := g
    have heq : (a = b) ↔ a.kids = b.kids := by rw [Xp.eq_iff]; simp [h1, h2, h3, h4]
    refine ⟨fun n vs H' => ∃ k : Nat, vs = [.bool false, .int .i64 k] ∧ k + n = a.kids.length ∧ a.kids.take k = b.kids.take k ∧ PH.le H H', ⟨a.kids.length, 0, rfl, by omega, by simp, l1⟩, ?_⟩
    rintro n vs H2 _ ⟨k, rfl, hkn, htk, l2⟩
    refine ⟨fun g => ?_, fun g => ?_⟩
    · simp only [ev0, ev, evV, List.cons_append, List.nil_append, List.getD_cons_zero, List.getD_cons_succ, List.map_cons, List.map_nil, iOf, bOf, sOf, pOf, slLen, slBase, cmpI, arI, Value.ite_bool, int_beq, int_bne, ite_band, ite_bor, decide_eq_true_eq] at g
      obtain ⟨e, he⟩ : ∃ e, a.kids[k]? = some e := ⟨_, List.getElem?_eq_getElem (show k < a.kids.length by omega)⟩
      obtain ⟨e', he'⟩ : ∃ e, b.kids[k]? = some e := ⟨_, List.getElem?_eq_getElem (show k < b.kids.length by omega)⟩
      obtain ⟨g1, _, ces, g2, g3⟩ := (hx.kids.le l2).get he
      obtain ⟨g1', _, ces', g2', g3'⟩ := (hy.kids.le l2).get he'
      have hcall := ih e (List.mem_of_getElem? he) e' ces ces' H2 g2 g2'
      have htags := Xp.Rep.tags g2
      have htags' := Xp.Rep.tags g2'
      obtain ⟨p1, p2, p3, p4, p5, p6, rfl, _⟩ := Xp.Rep.open g2
      obtain ⟨q1, q2, q3, q4, q5, q6, rfl, _⟩ := Xp.Rep.open g2'
      refine ⟨fun _ => ?_, _, htags, by simp only [ev0, ev, evV, List.cons_append, List.nil_append, List.getD_cons_zero, List.getD_cons_succ, List.map_cons, List.map_nil, iOf, bOf, sOf, pOf, slLen, slBase, cmpI, arI, Value.ite_bool, int_beq, int_bne, ite_band, ite_bor]; exact g3, fun _ => ?_, _, htags', by simp only [ev0, ev, evV, List.cons_append, List.nil_append, List.getD_cons_zero, List.getD_cons_succ, List.map_cons, List.map_nil, iOf, bOf, sOf, pOf, slLen, slBase, cmpI, arI, Value.ite_bool, int_beq, int_bne, ite_band, ite_bor]; exact g3', ?_⟩
      · simp only [Chk.holds, ev0, ev, evV, List.cons_append, List.nil_append, List.getD_cons_zero, List.getD_cons_succ, List.map_cons, List.map_nil, iOf, bOf, sOf, pOf, slLen, slBase, cmpI, arI, Value.ite_bool, int_beq, int_bne, ite_band, ite_bor]; exact ⟨g1, by omega, by omega⟩
      · simp only [Chk.holds, ev0, ev, evV, List.cons_append, List.nil_append, List.getD_cons_zero, List.getD_cons_succ, List.map_cons, List.map_nil, iOf, bOf, sOf, pOf, slLen, slBase, cmpI, arI, Value.ite_bool, int_beq, int_bne, ite_band, ite_bor]; exact ⟨g1', by omega, by omega⟩
      refine den_gives [.bool (decide (e = e'))] cb_scrimshawref06_Same hcall rfl pendNil fun H3 l3 => ⟨fun h6 => ?_, fun h6 => ?_⟩
      · simp only [ev0, ev, evV, List.cons_append, List.nil_append, List.getD_cons_zero, List.getD_cons_succ, List.map_cons, List.map_nil, iOf, bOf, sOf, pOf, slLen, slBase, cmpI, arI, Value.ite_bool, int_beq, int_bne, ite_band, ite_bor, Bool.not_eq_true', decide_eq_false_iff_not] at h6
        refine ⟨?_, PH.le_trans l2 l3⟩
        have : ¬ a = b := fun x => h6 (by subst x; rw [he] at he'; exact Option.some.inj he')
        simp only [ev0, ev, evV, List.cons_append, List.nil_append, List.getD_cons_zero, List.getD_cons_succ, List.map_cons, List.map_nil, iOf, bOf, sOf, pOf, slLen, slBase, cmpI, arI, Value.ite_bool, int_beq, int_bne, ite_band, ite_bor, decide_eq_false this]
      · simp only [ev0, ev, evV, List.cons_append, List.nil_append, List.getD_cons_zero, List.getD_cons_succ, List.map_cons, List.map_nil, iOf, bOf, sOf, pOf, slLen, slBase, cmpI, arI, Value.ite_bool, int_beq, int_bne, ite_band, ite_bor, Bool.not_eq_false', decide_eq_true_eq] at h6
        refine ⟨_, lookup_hit, n - 1, by omega, k + 1, ?_, by omega, take_eq_next htk he he' h6, PH.le_trans l2 l3⟩
        simp only [ev0, ev, evV, List.cons_append, List.nil_append, List.getD_cons_zero, List.getD_cons_succ, List.map_cons, List.map_nil, iOf, bOf, sOf, pOf, slLen, slBase, cmpI, arI, Value.ite_bool, int_beq, int_bne, ite_band, ite_bor]
        rw [w64 (by omega) (by omega)]
        rfl
    · simp only [ev0, ev, evV, List.cons_append, List.nil_append, List.getD_cons_zero, List.getD_cons_succ, List.map_cons, List.map_nil, iOf, bOf, sOf, pOf, slLen, slBase, cmpI, arI, Value.ite_bool, int_beq, int_bne, ite_band, ite_bor, decide_eq_false_iff_not] at g
      refine ⟨?_, l2⟩
      have : a = b := heq.2 (by rw [List.take_of_length_le (by omega), List.take_of_length_le (by omega)] at htk; exact htk)
      simp only [ev0, ev, evV, List.cons_append, List.nil_append, List.getD_cons_zero, List.getD_cons_succ, List.map_cons, List.map_nil, iOf, bOf, sOf, pOf, slLen, slBase, cmpI, arI, Value.ite_bool, int_beq, int_bne, ite_band, ite_bor, decide_eq_true this]
  · refine ⟨fun g => ?_, fun g => ?_⟩
    · refine ⟨_, lookup_hit, ?_, PH.le_refl H⟩
      have : ¬ (a.kind = b.kind ∧ a.name = b.name) := fun ⟨h1, h2⟩ => by simp [ev0, ev, evV, List.cons_append, List.nil_append, List.getD_cons_zero, List.getD_cons_succ, List.map_cons, List.map_nil, iOf, bOf, sOf, pOf, slLen, slBase, cmpI, arI, Value.ite_bool, int_beq, int_bne, ite_band, ite_bor, txt_neq, h1, h2] at g
      simp only [ev0, ev, evV, List.cons_append, List.nil_append, List.getD_cons_zero, List.getD_cons_succ, List.map_cons, List.map_nil, iOf, bOf, sOf, pOf, slLen, slBase, cmpI, arI, Value.ite_bool, int_beq, int_bne, ite_band, ite_bor]
      congr 2
      exact decNot fun h => this ⟨h.1, h.2.1⟩
    · have h12 : a.kind = b.kind ∧ a.name = b.name := by
        simp only [ev0, ev, evV, List.cons_append, List.nil_append, List.getD_cons_zero, List.getD_cons_succ, List.map_cons, List.map_nil, iOf, bOf, sOf, pOf, slLen, slBase, cmpI, arI, Value.ite_bool, int_beq, int_bne, ite_band, ite_bor, txt_neq] at g
        by_cases h1 : a.kind = b.kind
        · refine ⟨h1, ?_⟩
          by_cases h2 : a.name = b.name
          · exact h2
          · simp [h1, h2] at g
        · simp [h1] at g
      refine den_gives [.bool (decide (a.names = b.names))] cb_scrimshawref06_SameTexts (SameTexts_gives _ _ _ _ H hx.names hy.names) rfl pendNil fun H1 l1 => ⟨fun g3 => ?_, fun g3 => ?_⟩
      · simp only [ev0, ev, evV, List.cons_append, List.nil_append, List.getD_cons_zero, List.getD_cons_succ, List.map_cons, List.map_nil, iOf, bOf, sOf, pOf, slLen, slBase, cmpI, arI, Value.ite_bool, int_beq, int_bne, ite_band, ite_bor, Bool.not_eq_true', decide_eq_false_iff_not] at g3
        refine ⟨_, lookup_hit, ?_, l1⟩
        simp only [ev0, ev, evV, List.cons_append, List.nil_append, List.getD_cons_zero, List.getD_cons_succ, List.map_cons, List.map_nil, iOf, bOf, sOf, pOf, slLen, slBase, cmpI, arI, Value.ite_bool, int_beq, int_bne, ite_band, ite_bor]
        congr 2
        exact decNot fun h => g3 h.2.2.1
      · simp only [ev0, ev, evV, List.cons_append, List.nil_append, List.getD_cons_zero, List.getD_cons_succ, List.map_cons, List.map_nil, iOf, bOf, sOf, pOf, slLen, slBase, cmpI, arI, Value.ite_bool, int_beq, int_bne, ite_band, ite_bor, Bool.not_eq_false', decide_eq_true_eq] at g3
        refine den_gives [.bool (decide (a.const = b.const))] cb_scrimshawref02_Same (Same_gives a.const b.const _ _ H1 (Dat.Rep.le l1 _ hx.const) (Dat.Rep.le l1 _ hy.const)) rfl pendNil fun H2 l2 => ⟨_, lookup_hit, ?_, PH.le_trans l1 l2⟩
        simp only [ev0, ev, evV, List.cons_append, List.nil_append, List.getD_cons_zero, List.getD_cons_succ, List.map_cons, List.map_nil, iOf, bOf, sOf, pOf, slLen, slBase, cmpI, arI, Value.ite_bool, int_beq, int_bne, ite_band, ite_bor]
        congr 2
        by_cases h4 : a.const = b.const
        · by_cases h5 : a.kids.length = b.kids.length
          · simp [h12.1, h12.2, g3, h4, h5]
          · have : ¬ ((a.kids.length : Int) = b.kids.length) := by omega
            simp [h12.1, h12.2, g3, h4, h5, this]
        · simp [h12.1, h12.2, g3, h4]

/-! ### Make -/
def ex0 : Xp := .mk 0 [] [] dat0 []
theorem CMake_tri (d : Dat) (cs : List Value) (H : PH) (hd : d.Rep H cs) (hc : d.cnt ≤ 100000) : Tri Tryd.prog n_core_Make #[.agg cs.toArray] H fun x H' => ∃ (e : Xp) (h : Int) (es : List Value), x = .returned (.tuple #[.agg es.toArray, .int .i64 h]) ∧ PH.le H H' ∧ e.Rep H' es ∧
    ((h = 0 ∧ (e.chk true 0 0).2 = 0 ∧ e.dat = d) ∨ (h = 60 ∧ e = ex0)) ∧ ∀ e0 : Xp, (e0.chk true 0 0).2 = 0 → d = e0.dat → h = 0 ∧ e = e0 := by
  have hd' := hd
  obtain ⟨sv, rfl, g1, g2, g3, hs⟩ := Dat.Rep_iff.1 hd
  obtain ⟨bb, cc, rfl⟩ := hs.sl
  refine tri_core_Make [.int .i64 d.kind, .int .i64 d.int, txt d.text, .slice bb d.list.length cc] (by kernel_rfl) (by kernel_rfl) ?_
  refine den_bxNew (vs := [.bool false]) (Held.nil (PH.le_refl H)) rfl fun wr H1 l1 h1 => ?_
  have hnil : SlR H ([] : List Dat) (.slice none 0 0) := SlR.mk_iff.2 ⟨Nat.zero_le _, .inl ⟨rfl, rfl⟩⟩
  refine den_call cb_data_Make (h1.pure (R := fun x S' => ∃ cs, x = .returned (.agg cs.toArray) ∧ d.Rep S' cs) ((DMake_gives [] d _ _ H hnil hd' (by simp [Dats.cnt]) hc).mono fun x S' hh => by obtain ⟨cs, q1, q2, q3⟩ := hh; exact ⟨q2, cs, q1, q3⟩)) ?_
  rintro x H2 ⟨S2, l2, h2, cs2, rfl, r2⟩
  have ht2 := Dat.Rep.tags r2
  have r2' := r2
  obtain ⟨sv2, rfl, _⟩ := Dat.Rep_iff.1 r2'
  refine ⟨_, _, rfl, ht2, rfl, pendNil, ?_⟩
  refine den_call cb_core_maker__expr (Held.call (J := [bx wr 64 [.bool false]]) (I := []) h2 fun K hK => expr_m d.cnt d (Nat.le_refl _) _ S2 K wr 64 false hK r2 hc) ?_
  rintro x H3 ⟨S3, J3, l3, h3, e, b3, rfl, ⟨es, rfl, r3⟩, hg⟩
  have ht3 := Xp.Rep.tags r3
  have r3' := r3
  obtain ⟨nb, db, kb, nc, dc, kc, rfl, _⟩ := Xp.Rep.open r3'
  refine ⟨_, _, rfl, ht3, rfl, pendNil, ?_⟩
  refine ⟨fun vs H' => ∃ S', vs = [.bool (decide (¬ (b3 = false ∧ (e.chk true 0 0).2 = 0 ∧ e.dat = d)))] ∧ PH.le S3 S' ∧ PH.le S' H', ?_, ?_⟩
  · rintro vs H4 _ ⟨S4, rfl, l4, l4'⟩
    have l04 : PH.le H H4 := PH.le_trans l2 (PH.le_trans l3 (PH.le_trans l4 l4'))
    refine ⟨fun g => ?_, fun g => ?_⟩
    · simp only [ev0, ev, evV, List.cons_append, List.nil_append, List.getD_cons_zero, List.getD_cons_succ, List.map_cons, List.map_nil, iOf, bOf, sOf, pOf, slLen, slBase, cmpI, arI, Value.ite_bool, int_beq, int_bne, ite_band, ite_bor, decide_eq_true_eq] at g
      refine ⟨ex0, 60, [.int .i64 0, txt [], .slice none 0 0, .int .i64 0, .int .i64 0, txt [], .slice none 0 0, .slice none 0 0], ?_, l04, ex0_rep H4, .inr ⟨rfl, rfl⟩, fun e0 h0 hd0 => ?_⟩
      · simp only [evV, List.map_cons, List.map_nil, partV]; rfl
      · obtain ⟨q1, q2⟩ := hg e0 (Xp.chk_ok true e0 0 0 h0).1 hd0 rfl
        exact absurd ⟨q2, by rw [q1]; exact h0, by rw [q1, hd0]⟩ g
    · simp only [ev0, ev, evV, List.cons_append, List.nil_append, List.getD_cons_zero, List.getD_cons_succ, List.map_cons, List.map_nil, iOf, bOf, sOf, pOf, slLen, slBase, cmpI, arI, Value.ite_bool, int_beq, int_bne, ite_band, ite_bor, decide_eq_false_iff_not, Decidable.not_not] at g
      refine ⟨e, 0, exVs e nb db kb nc dc kc, ?_, l04, Xp.Rep.le (PH.le_trans l4 l4') _ r3, .inl ⟨rfl, g.2⟩, fun e0 h0 hd0 => ?_⟩
      · simp only [evV, List.map_cons, List.map_nil, partV]; rfl
      · exact ⟨rfl, (hg e0 (Xp.chk_ok true e0 0 0 h0).1 hd0 rfl).1⟩
  · refine ⟨fun _ => rfl, ?_⟩
    refine den_bxLoad [.bool b3] (off := 0) (by kernel_rfl) h3 (List.mem_singleton.2 rfl) rfl rfl ?_
    refine ⟨fun g => ?_, fun g => ?_⟩
    · simp only [ev0, ev, evV, List.cons_append, List.nil_append, List.getD_cons_zero, List.getD_cons_succ, List.map_cons, List.map_nil, iOf, bOf, sOf, pOf, slLen, slBase, cmpI, arI, Value.ite_bool, int_beq, int_bne, ite_band, ite_bor] at g
      refine ⟨_, lookup_hit, S3, ?_, PH.le_refl _, h3.sh⟩
      subst g
      simp only [ev0, ev, evV, List.cons_append, List.nil_append, List.getD_cons_zero, List.getD_cons_succ, List.map_cons, List.map_nil, iOf, bOf, sOf, pOf, slLen, slBase, cmpI, arI, Value.ite_bool, int_beq, int_bne, ite_band, ite_bor]; congr 2
    simp only [ev0, ev, evV, List.cons_append, List.nil_append, List.getD_cons_zero, List.getD_cons_succ, List.map_cons, List.map_nil, iOf, bOf, sOf, pOf, slLen, slBase, cmpI, arI, Value.ite_bool, int_beq, int_bne, ite_band, ite_bor] at g
    subst g
    refine den_gives [.int .i64 (e.chk true 0 0).2] cb_core_Check (CCheckF_gives e _ H3 (Xp.Rep.le h3.sh _ r3)) rfl pendNil fun H4 l4 => ?_
    have l34 := PH.le_trans h3.sh l4
    refine ⟨fun g4 => ?_, fun g4 => ?_⟩
    · simp only [ev0, ev, evV, List.cons_append, List.nil_append, List.getD_cons_zero, List.getD_cons_succ, List.map_cons, List.map_nil, iOf, bOf, sOf, pOf, slLen, slBase, cmpI, arI, Value.ite_bool, int_beq, int_bne, ite_band, ite_bor, decide_eq_true_eq] at g4
      refine ⟨_, lookup_hit, S3, ?_, PH.le_refl _, l34⟩
      simp only [ev0, ev, evV, List.cons_append, List.nil_append, List.getD_cons_zero, List.getD_cons_succ, List.map_cons, List.map_nil, iOf, bOf, sOf, pOf, slLen, slBase, cmpI, arI, Value.ite_bool, int_beq, int_bne, ite_band, ite_bor]; congr 2
      exact decNot fun h => g4 h.2.1
    simp only [ev0, ev, evV, List.cons_append, List.nil_append, List.getD_cons_zero, List.getD_cons_succ, List.map_cons, List.map_nil, iOf, bOf, sOf, pOf, slLen, slBase, cmpI, arI, Value.ite_bool, int_beq, int_bne, ite_band, ite_bor, decide_eq_false_iff_not, ne_eq, Decidable.not_not] at g4
    refine den_call cb_core_told (told_tri e _ H4 (Xp.Rep.le l34 _ r3) (Xp.chk_ok true e 0 0 g4).1 (chk_bounds g4).1) ?_
    rintro x H5 ⟨ds, rfl, l5, r5⟩
    have ht5 := Dat.Rep.tags r5
    have r5' := r5
    obtain ⟨sv5, rfl, _⟩ := Dat.Rep_iff.1 r5'
    refine ⟨_, _, rfl, ht5, rfl, pendNil, ?_⟩
    refine den_gives [.bool (decide (e.dat = d))] cb_data_Equal (Equal_gives e.dat d _ _ H5 r5 (Dat.Rep.le (PH.le_trans l2 (PH.le_trans l3 (PH.le_trans l34 l5))) _ hd')) rfl pendNil fun H6 l6 => ⟨_, lookup_hit, S3, ?_, PH.le_refl _, PH.le_trans l34 (PH.le_trans l5 l6)⟩
    simp only [ev0, ev, evV, List.cons_append, List.nil_append, List.getD_cons_zero, List.getD_cons_succ, List.map_cons, List.map_nil, iOf, bOf, sOf, pOf, slLen, slBase, cmpI, arI, Value.ite_bool, int_beq, int_bne, ite_band, ite_bor]
    congr 2
    by_cases h : e.dat = d <;> simp [h, g4]

/-! ### the law -/
theorem CoreBack_law (e : Xp) (d : Dat) (ce cd : List Value) (H : PH) (he : e.Rep H ce) (hd : d.Rep H cd) (hT : Tab H) : Gives Tryd.prog n_scrimshawlaw06_CoreBack [.agg ce.toArray, .agg cd.toArray] H (.bool true) := by
  have he' := he
  obtain ⟨nb, db, kb, nc, dc, kc, rfl, hx⟩ := Xp.Rep.open he
  have hd' := hd
  obtain ⟨sv, rfl, g1, g2, g3, hs⟩ := Dat.Rep_iff.1 hd
  obtain ⟨bb, cc, rfl⟩ := hs.sl
  refine tri_scrimshawlaw06_CoreBack (exVs e nb db kb nc dc kc ++ [.int .i64 d.kind, .int .i64 d.int, txt d.text, .slice bb d.list.length cc]) (by kernel_rfl) (by kernel_rfl) ?_
  refine den_call cb_core_Data (CData_tri e _ H he') ?_
  rintro x H1 ⟨ds, rfl, l1, r1⟩
  have ht1 := Dat.Rep.tags r1
  have r1' := r1
  obtain ⟨sv1, rfl, _⟩ := Dat.Rep_iff.1 r1'
  refine ⟨_, [.int .i64 (if (e.chk true 0 0).2 = 0 then e.dat else dat0).kind, .int .i64 (if (e.chk true 0 0).2 = 0 then e.dat else dat0).int, txt (if (e.chk true 0 0).2 = 0 then e.dat else dat0).text, sv1, .int .i64 (e.chk true 0 0).2], rfl, ?_, rfl, pendNil, ?_⟩
  · obtain ⟨bq, cq, hq⟩ := (show SlR H1 _ sv1 from (by obtain ⟨w, e1, _, _, _, e2⟩ := Dat.Rep_iff.1 r1; simp only [List.cons.injEq, and_true] at e1; rw [e1.2.2.2]; exact e2)).sl
    rw [hq]; rfl
  refine ⟨fun vs H' => vs = [.bool false] ∧ PH.le H1 H', ?_, ?_⟩
  rotate_left
  · refine den_gives [.bool true] cb_scrimshawlaw06_fixed (CFixed_gives H1 (hT.le l1)) rfl pendNil fun H2 l2 => ⟨fun g => absurd g (by simp [ev0, ev, evV, List.cons_append, List.nil_append, List.getD_cons_zero, List.getD_cons_succ, List.map_cons, List.map_nil, iOf, bOf, sOf, pOf, slLen, slBase, cmpI, arI, Value.ite_bool]), fun _ => ?_⟩
    refine den_gives [.int .i64 (e.chk true 0 0).2] cb_core_Check (CCheckF_gives e _ H2 (Xp.Rep.le (PH.le_trans l1 l2) _ he')) rfl pendNil fun H3 l3 => ⟨_, lookup_hit, ?_, PH.le_trans l2 l3⟩
    simp [ev0, ev, evV, List.cons_append, List.nil_append, List.getD_cons_zero, List.getD_cons_succ, List.map_cons, List.map_nil, iOf, bOf, sOf, pOf, slLen, slBase, cmpI, arI, Value.ite_bool, int_beq, int_bne, ite_band, ite_bor]
  rintro vs H2 _ ⟨rfl, l2⟩
  refine ⟨fun g => absurd g (by simp [ev0, ev, evV, List.cons_append, List.nil_append, List.getD_cons_zero, List.getD_cons_succ, List.map_cons, List.map_nil, iOf, bOf, sOf, pOf, slLen, slBase, cmpI, arI, Value.ite_bool]), fun _ => ?_⟩
  refine ⟨fun vs H' => vs = [] ∧ PH.le H H', ?_, ?_⟩
  rotate_left
  · refine ⟨fun g => ?_, fun g => ?_⟩
    · simp only [ev0, ev, evV, List.cons_append, List.nil_append, List.getD_cons_zero, List.getD_cons_succ, List.map_cons, List.map_nil, iOf, bOf, sOf, pOf, slLen, slBase, cmpI, arI, Value.ite_bool, int_beq, int_bne, ite_band, ite_bor, decide_eq_true_eq] at g
      simp only [if_pos g] at r1 ⊢
      refine den_call cb_core_Make (CMake_tri e.dat _ H2 (Dat.Rep.le l2 _ r1) (chk_cnt g)) ?_
      rintro x H3 ⟨e3, h3, es, rfl, l3, r3, _, hm⟩
      obtain ⟨rfl, rfl⟩ := hm e g rfl
      have ht3 := Xp.Rep.tags r3
      have r3' := r3
      obtain ⟨p1, p2, p3, p4, p5, p6, rfl, hx3⟩ := Xp.Rep.open r3'
      refine ⟨_, exVs e3 p1 p2 p3 p4 p5 p6 ++ [.int .i64 0], rfl, rfl, rfl, pendNil, ?_⟩
      refine ⟨fun vs H' => vs = [.bool false] ∧ PH.le H3 H', ?_, ?_⟩
      · rintro vs H4 _ ⟨rfl, l4⟩
        exact ⟨fun g => absurd g (by simp [ev0, ev, evV, List.cons_append, List.nil_append, List.getD_cons_zero, List.getD_cons_succ, List.map_cons, List.map_nil, iOf, bOf, sOf, pOf, slLen, slBase, cmpI, arI, Value.ite_bool]), fun _ => ⟨_, lookup_hit, rfl, PH.le_trans l1 (PH.le_trans l2 (PH.le_trans l3 l4))⟩⟩
      · refine ⟨fun g => absurd g (by simp [ev0, ev, evV, List.cons_append, List.nil_append, List.getD_cons_zero, List.getD_cons_succ, List.map_cons, List.map_nil, iOf, bOf, sOf, pOf, slLen, slBase, cmpI, arI, Value.ite_bool]), fun _ => ?_⟩
        refine den_gives [.bool (decide (e3 = e3))] cb_scrimshawref06_Same (XSame_gives e3 e3 _ _ H3 r3 (Xp.Rep.le (PH.le_trans l1 (PH.le_trans l2 l3)) _ he')) rfl pendNil fun H4 l4 => ⟨_, lookup_hit, ?_, l4⟩
        simp [ev0, ev, evV, List.cons_append, List.nil_append, List.getD_cons_zero, List.getD_cons_succ, List.map_cons, List.map_nil, iOf, bOf, sOf, pOf, slLen, slBase, cmpI, arI, Value.ite_bool, int_beq, int_bne, ite_band, ite_bor]
    · exact ⟨_, lookup_hit, rfl, PH.le_trans l1 l2⟩
  rintro vs H3 _ ⟨rfl, l3⟩
  refine den_rowLit (l := [d]) (b := 56) [.agg #[.int .i64 d.kind, .int .i64 d.int, txt d.text, .slice bb d.list.length cc]] uDats elemDat rfl (by decide) (by decide) (PH.le_refl H3) (by kernel_rfl) (.cons (Dat.Rep.le l3 _ hd') .nil) pendNil fun v4 S4 H4 x4 s4 _ => ?_
  have l4 := PH.le_trans l3 x4.h
  refine den_gives [.bool (hugeB [d])] cb_scrimshawref02_Huge (Huge_gives [d] v4 H4 (s4.le x4.i)) rfl pendNil fun H5 l5 => ?_
  have l05 := PH.le_trans l4 l5
  refine ⟨fun _ => ⟨rfl, l05⟩, fun g => ?_⟩
  simp only [ev0, ev, evV, List.cons_append, List.nil_append, List.getD_cons_zero, List.getD_cons_succ, List.map_cons, List.map_nil, iOf, bOf, sOf, pOf, slLen, slBase, cmpI, arI, Value.ite_bool, int_beq, int_bne, ite_band, ite_bor] at g
  have hc : d.cnt ≤ 100000 := by
    have g' : hugeB [d] = false := g
    unfold hugeB at g'
    have := of_decide_eq_false g'
    simp only [Dats.cnt] at this; omega
  refine den_call cb_core_Make (CMake_tri d _ H5 (Dat.Rep.le l05 _ hd') hc) ?_
  rintro x H6 ⟨c, h, es, rfl, l6, r6, hcase, _⟩
  have ht6 := Xp.Rep.tags r6
  have r6' := r6
  obtain ⟨p1, p2, p3, p4, p5, p6, rfl, hx6⟩ := Xp.Rep.open r6'
  refine ⟨_, exVs c p1 p2 p3 p4 p5 p6 ++ [.int .i64 h], rfl, rfl, rfl, pendNil, ?_⟩
  have l06 := PH.le_trans l05 l6
  refine ⟨fun gh => ?_, fun gh => ?_⟩
  · simp only [ev0, ev, evV, List.cons_append, List.nil_append, List.getD_cons_zero, List.getD_cons_succ, List.map_cons, List.map_nil, iOf, bOf, sOf, pOf, slLen, slBase, cmpI, arI, Value.ite_bool, int_beq, int_bne, ite_band, ite_bor, decide_eq_true_eq] at gh
    obtain ⟨rfl, rfl⟩ : h = 60 ∧ c = ex0 := by
      rcases hcase with hq | hq
      · exact absurd hq.1 gh
      · exact hq
    refine ⟨fun vs H' => vs = [.bool true] ∧ PH.le H6 H', ?_, ?_⟩
    · rintro vs H7 _ ⟨rfl, l7⟩
      exact ⟨rfl, PH.le_trans l06 l7⟩
    · refine ⟨fun _ => ?_, fun g => absurd g (by simp [ev0, ev, evV, List.cons_append, List.nil_append, List.getD_cons_zero, List.getD_cons_succ, List.map_cons, List.map_nil, iOf, bOf, sOf, pOf, slLen, slBase, cmpI, arI, Value.ite_bool])⟩
      refine den_gives [.bool (decide (ex0 = ex0))] cb_scrimshawref06_Same (XSame_gives ex0 ex0 _ _ H6 r6 (ex0_rep H6)) rfl pendNil fun H7 l7 => ⟨_, lookup_hit, ?_, l7⟩
      simp [ev0, ev, evV, List.cons_append, List.nil_append, List.getD_cons_zero, List.getD_cons_succ, List.map_cons, List.map_nil, iOf, bOf, sOf, pOf, slLen, slBase, cmpI, arI, Value.ite_bool, int_beq, int_bne, ite_band, ite_bor]
  · simp only [ev0, ev, evV, List.cons_append, List.nil_append, List.getD_cons_zero, List.getD_cons_succ, List.map_cons, List.map_nil, iOf, bOf, sOf, pOf, slLen, slBase, cmpI, arI, Value.ite_bool, int_beq, int_bne, ite_band, ite_bor, decide_eq_false_iff_not, ne_eq, Decidable.not_not] at gh
    obtain ⟨q2, q3⟩ : (c.chk true 0 0).2 = 0 ∧ c.dat = d := by
      rcases hcase with hq | hq
      · exact hq.2
      · omega
    refine den_call cb_core_Data (CData_tri c _ H6 r6) ?_
    rintro x H7 ⟨dz, rfl, l7, r7⟩
    rw [if_pos q2, q3] at r7
    have ht7 := Dat.Rep.tags r7
    have r7' := r7
    obtain ⟨sv7, rfl, _, _, _, hs7⟩ := Dat.Rep_iff.1 r7'
    obtain ⟨b7, c7, rfl⟩ := hs7.sl
    refine ⟨_, [.int .i64 d.kind, .int .i64 d.int, txt d.text, .slice b7 d.list.length c7, .int .i64 (c.chk true 0 0).2], rfl, rfl, rfl, pendNil, ?_⟩
    refine ⟨fun vs H' => vs = [.bool true] ∧ PH.le H7 H', ?_, ?_⟩
    · rintro vs H8 _ ⟨rfl, l8⟩
      exact ⟨rfl, PH.le_trans l06 (PH.le_trans l7 l8)⟩
    · refine ⟨fun _ => ?_, fun g => absurd g (by simp [ev0, ev, evV, List.cons_append, List.nil_append, List.getD_cons_zero, List.getD_cons_succ, List.map_cons, List.map_nil, iOf, bOf, sOf, pOf, slLen, slBase, cmpI, arI, Value.ite_bool, q2])⟩
      refine den_gives [.bool (decide (d = d))] cb_scrimshawref02_Same (Same_gives d d _ _ H7 r7 (Dat.Rep.le (PH.le_trans l06 l7) _ hd')) rfl pendNil fun H8 l8 => ⟨_, lookup_hit, ?_, l8⟩
      simp [ev0, ev, evV, List.cons_append, List.nil_append, List.getD_cons_zero, List.getD_cons_succ, List.map_cons, List.map_nil, iOf, bOf, sOf, pOf, slLen, slBase, cmpI, arI, Value.ite_bool, int_beq, int_bne, ite_band, ite_bor]
end Go.Proofs.YtibinelkmlcmgaaDoor.Vc
