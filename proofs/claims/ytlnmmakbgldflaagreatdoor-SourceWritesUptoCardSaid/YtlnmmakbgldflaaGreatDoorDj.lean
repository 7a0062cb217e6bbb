/-
  DATA: the text of the document's answer.
-/
import Derived.Test.YtlnmmakbgldflaaGreatDoorDi
set_option linter.unusedSimpArgs false
set_option linter.unusedVariables false
set_option maxRecDepth 100000
namespace Go.Proofs.YtlnmmakbgldflaaGreatDoor.Vc
open Go

theorem Dat.txtL_eq (d : Dat) (bare : Bool) : d.txtL bare = if d.kind = 0 then (if d.int = 0 then [35, 102] else [35, 116]) else if d.kind = 1 then Lib.itoa d.int else if d.kind = 2 then (if bare then [byteOf d.int] else charL (byteOf d.int)) else if d.kind = 3 then (if bare then d.text else quotedL d.text) else if d.kind = 4 then d.text
      else (if d.kind = 7 then [35, 40] else [40]) ++ Dats.txtL bare (decide (d.kind = 6)) true d.list ++ [41] := by
  cases d; simp only [Dat.txtL, Dat.kind, Dat.int, Dat.text, Dat.list]; rfl
theorem drop_get {α : Type} {l : List α} {k : Nat} {a : α} (h : l[k]? = some a) : l.drop k = a :: l.drop (k + 1) := by
  obtain ⟨hk, rfl⟩ := List.getElem?_eq_some_iff.1 h
  exact List.drop_eq_getElem_cons hk
theorem u8conv (n : Int) : Value.int .u8 (IntKind.u8.wrap n) = .int .u8 ((byteOf n).toNat : Int) := by rw [byteOf_eq]
theorem le_quotedL (l : List UInt8) : l.length ≤ (quotedL l).length := by
  have : ∀ l : List UInt8, l.length ≤ (l.flatMap quoteB).length := fun l => by
    induction l with
    | nil => simp
    | cons c l ih =>
      have : 1 ≤ (quoteB c).length := by
        unfold quoteB; split
        · simp
        split
        · simp
        split
        · simp
        · simp
      simp only [List.flatMap_cons, List.length_append, List.length_cons]; omega
  have := this l
  simp only [quotedL, List.length_append]; omega

theorem RText_gives : ∀ (d : Dat) (bare : Bool) (cs : List Value) (H : PH), d.Rep H cs → (d.txtL bare).length ≤ 1152921504606846976 →
    Gives Tryz.prog n_scrimshawref02_Text [.agg cs.toArray, .bool bare] H (txt (d.txtL bare)) := by
  refine Dat.ind ?_
  intro d ih bare cs H hd hlen
  obtain ⟨sv, rfl, hk, hn, ht, hs⟩ := Dat.Rep_iff.1 hd
  obtain ⟨b, c, rfl⟩ := hs.sl
  have hll : d.list.length ≤ maxLen := hs.max
  simp only [maxLen] at hll ht
  refine tri_scrimshawref02_Text [.int .i64 d.kind, .int .i64 d.int, txt d.text, .slice b d.list.length c, .bool bare] (by kernel_rfl) (by kernel_rfl) ?_
  rw [Dat.txtL_eq] at hlen ⊢
  refine ⟨fun h0 => ?_, fun h0 => ?_⟩
  · simp only [ev0, ev, evV, List.cons_append, List.nil_append, List.getD_cons_zero, List.getD_cons_succ, List.map_cons, List.map_nil, iOf, bOf, sOf, pOf, slLen, slBase, cmpI, arI, Value.ite_bool, int_beq, int_bne, ite_band, ite_bor, decide_eq_true_eq] at h0
    rw [if_pos h0]
    refine ⟨fun h1 => ?_, fun h1 => ?_⟩
    · simp only [ev0, ev, evV, List.cons_append, List.nil_append, List.getD_cons_zero, List.getD_cons_succ, List.map_cons, List.map_nil, iOf, bOf, sOf, pOf, slLen, slBase, cmpI, arI, Value.ite_bool, int_beq, int_bne, ite_band, ite_bor, decide_eq_true_eq] at h1
      rw [if_pos h1]; exact ⟨rfl, PH.le_refl H⟩
    · simp only [ev0, ev, evV, List.cons_append, List.nil_append, List.getD_cons_zero, List.getD_cons_succ, List.map_cons, List.map_nil, iOf, bOf, sOf, pOf, slLen, slBase, cmpI, arI, Value.ite_bool, int_beq, int_bne, ite_band, ite_bor, decide_eq_false_iff_not] at h1
      rw [if_neg h1]; exact ⟨rfl, PH.le_refl H⟩
  simp only [ev0, ev, evV, List.cons_append, List.nil_append, List.getD_cons_zero, List.getD_cons_succ, List.map_cons, List.map_nil, iOf, bOf, sOf, pOf, slLen, slBase, cmpI, arI, Value.ite_bool, int_beq, int_bne, ite_band, ite_bor, decide_eq_false_iff_not] at h0
  rw [if_neg h0] at hlen ⊢
  refine ⟨fun h1 => ?_, fun h1 => ?_⟩
  · simp only [ev0, ev, evV, List.cons_append, List.nil_append, List.getD_cons_zero, List.getD_cons_succ, List.map_cons, List.map_nil, iOf, bOf, sOf, pOf, slLen, slBase, cmpI, arI, Value.ite_bool, int_beq, int_bne, ite_band, ite_bor, decide_eq_true_eq] at h1
    rw [if_pos h1]
    exact den_gives [txt (Lib.itoa d.int)] cb_scrimshawref02_Digits (Digits_gives d.int hn H) rfl pendNil fun H1 h2 => ⟨rfl, h2⟩
  simp only [ev0, ev, evV, List.cons_append, List.nil_append, List.getD_cons_zero, List.getD_cons_succ, List.map_cons, List.map_nil, iOf, bOf, sOf, pOf, slLen, slBase, cmpI, arI, Value.ite_bool, int_beq, int_bne, ite_band, ite_bor, decide_eq_false_iff_not] at h1
  rw [if_neg h1] at hlen ⊢
  refine ⟨fun h2 => ?_, fun h2 => ?_⟩
  · simp only [ev0, ev, evV, List.cons_append, List.nil_append, List.getD_cons_zero, List.getD_cons_succ, List.map_cons, List.map_nil, iOf, bOf, sOf, pOf, slLen, slBase, cmpI, arI, Value.ite_bool, int_beq, int_bne, ite_band, ite_bor, decide_eq_true_eq] at h2
    rw [if_pos h2]
    refine ⟨fun hb => ?_, fun hb => ?_⟩
    · have hb : bare = true := hb
      rw [if_pos hb]
      refine byteText (c := byteOf d.int) (u8conv _) fun r hr => ⟨[_], rfl, rfl, pendNil, ?_⟩
      show wpS _ (execOp _ _) _ _ _
      rw [exec_convert]
      refine wpS_toText (l := [byteOf d.int]) uBytes uString uByte (fun j u hu => ?_) ⟨[_], rfl, rfl, pendNil, rfl, PH.le_upd hr⟩
      rw [Addr.add_plain, PH.cell_at PH.upd_same]
      cases j with
      | zero => simpa using hu
      | succ j => simp at hu
    · have hb : bare = false := hb
      subst hb
      refine den_gives [txt (charL (byteOf d.int))] cb_scrimshawref02_char ?_ rfl pendNil fun H1 h2 => ⟨rfl, h2⟩
      have := char_gives (byteOf d.int) H
      simp only [List.map_cons, List.map_nil, evV, ev, List.getD_cons_succ, List.getD_cons_zero, iOf, u8conv]
      exact this
  simp only [ev0, ev, evV, List.cons_append, List.nil_append, List.getD_cons_zero, List.getD_cons_succ, List.map_cons, List.map_nil, iOf, bOf, sOf, pOf, slLen, slBase, cmpI, arI, Value.ite_bool, int_beq, int_bne, ite_band, ite_bor, decide_eq_false_iff_not] at h2
  rw [if_neg h2] at hlen ⊢
  refine ⟨fun h3 => ?_, fun h3 => ?_⟩
  · simp only [ev0, ev, evV, List.cons_append, List.nil_append, List.getD_cons_zero, List.getD_cons_succ, List.map_cons, List.map_nil, iOf, bOf, sOf, pOf, slLen, slBase, cmpI, arI, Value.ite_bool, int_beq, int_bne, ite_band, ite_bor, decide_eq_true_eq] at h3
    rw [if_pos h3] at hlen ⊢
    refine ⟨fun hb => ?_, fun hb => ?_⟩
    · have hb : bare = true := hb
      rw [if_pos hb]
      exact ⟨rfl, PH.le_refl H⟩
    · have hb : bare = false := hb
      subst hb
      have := le_quotedL d.text
      simp only [Bool.false_eq_true, if_false] at hlen
      exact den_gives [txt (quotedL d.text)] cb_scrimshawref02_Quoted (Quoted_gives d.text (by omega) H) rfl pendNil fun H1 h2 => ⟨rfl, h2⟩
  simp only [ev0, ev, evV, List.cons_append, List.nil_append, List.getD_cons_zero, List.getD_cons_succ, List.map_cons, List.map_nil, iOf, bOf, sOf, pOf, slLen, slBase, cmpI, arI, Value.ite_bool, int_beq, int_bne, ite_band, ite_bor, decide_eq_false_iff_not] at h3
  rw [if_neg h3] at hlen ⊢
  refine ⟨fun h4 => ?_, fun h4 => ?_⟩
  · simp only [ev0, ev, evV, List.cons_append, List.nil_append, List.getD_cons_zero, List.getD_cons_succ, List.map_cons, List.map_nil, iOf, bOf, sOf, pOf, slLen, slBase, cmpI, arI, Value.ite_bool, int_beq, int_bne, ite_band, ite_bor, decide_eq_true_eq] at h4
    rw [if_pos h4]
    exact ⟨rfl, PH.le_refl H⟩
  simp only [ev0, ev, evV, List.cons_append, List.nil_append, List.getD_cons_zero, List.getD_cons_succ, List.map_cons, List.map_nil, iOf, bOf, sOf, pOf, slLen, slBase, cmpI, arI, Value.ite_bool, int_beq, int_bne, ite_band, ite_bor, decide_eq_false_iff_not] at h4
  rw [if_neg h4] at hlen ⊢
  generalize hall : (if d.kind = 7 then [35, 40] else [40]) ++ Dats.txtL bare (decide (d.kind = 6)) true d.list ++ [41] = all at hlen ⊢
  refine ⟨fun n vs H' => ∃ (k : Nat) (out : List UInt8), vs = [txt out, .int .i64 k] ∧ k + n = d.list.length ∧ out ++ Dats.txtL bare (decide (d.kind = 6)) (decide (k = 0)) (d.list.drop k) ++ [41] = all ∧ PH.le H H', ⟨d.list.length, 0, if d.kind = 7 then [35, 40] else [40], ?_, by omega, by simpa using hall, PH.le_refl H⟩, ?_⟩
  · simp only [ev0, ev, evV, List.cons_append, List.nil_append, List.getD_cons_zero, List.getD_cons_succ, List.map_cons, List.map_nil, iOf, bOf, sOf, pOf, slLen, slBase, cmpI, arI, Value.ite_bool, int_beq, int_bne, ite_band, ite_bor]
    by_cases h7 : d.kind = 7
    · simp [h7]
    · simp [h7]
  rintro n vs H' _ ⟨k, out, rfl, hkn, hout, hle⟩
  have houtl := congrArg List.length hout
  simp only [List.length_append, List.length_cons, List.length_nil] at houtl
  have hmax : IntKind.i64.max = 9223372036854775807 := rfl
  refine ⟨fun h5 => ?_, fun h5 => ?_⟩
  · simp only [ev0, ev, evV, List.cons_append, List.nil_append, List.getD_cons_zero, List.getD_cons_succ, List.map_cons, List.map_nil, iOf, bOf, sOf, pOf, slLen, slBase, cmpI, arI, Value.ite_bool, int_beq, int_bne, ite_band, ite_bor, decide_eq_true_eq] at h5
    have hkl : k < d.list.length := by omega
    obtain ⟨e, he⟩ : ∃ e, d.list[k]? = some e := ⟨_, List.getElem?_eq_getElem hkl⟩
    obtain ⟨g1, ces, g2, g3, _, _⟩ := (hs.le hle).get he
    have hdrop := drop_get he
    have hrest : Dats.txtL bare (decide (d.kind = 6)) (decide (k = 0)) (d.list.drop k) = (if decide (k = 0) = true then [] else [32]) ++ (if (decide (d.kind = 6) && (d.list.drop (k + 1)).isEmpty) = true then [46, 32] else []) ++ e.txtL bare ++ Dats.txtL bare (decide (d.kind = 6)) false (d.list.drop (k + 1)) := by
      rw [hdrop]; simp only [Dats.txtL]
    rw [hrest] at hout houtl
    have hemp : (d.list.drop (k + 1)).isEmpty = decide (k = d.list.length - 1) := by
      by_cases hx : k = d.list.length - 1
      · rw [List.drop_eq_nil_of_le (by omega)]; simp [hx]
      · rw [decide_eq_false hx]
        cases hy : d.list.drop (k + 1) with
        | nil => rw [List.drop_eq_nil_iff] at hy; omega
        | cons a l => rfl
    rw [hemp] at hout houtl
    simp only [List.length_append] at houtl
    generalize ht1 : (if decide (k = 0) = true then [] else [32] : List UInt8) = t1 at hout houtl
    generalize ht2 : (if (decide (d.kind = 6) && decide (k = d.list.length - 1)) = true then [46, 32] else [] : List UInt8) = t2 at hout houtl
    refine ⟨fun vs H2 => vs = [txt (out ++ t1)] ∧ PH.le H H2, ?_, ?_⟩
    · rintro vs H2 _ ⟨rfl, hl2⟩
      refine ⟨fun vs H2 => vs = [txt (out ++ t1 ++ t2)] ∧ PH.le H H2, ?_, ?_⟩
      · rintro vs H3 _ ⟨rfl, hl3⟩
        obtain ⟨g1, ces, g2, g3, _, _⟩ := (hs.le hl3).get he
        have htags := g2.tags
        have hcall := ih e (List.mem_of_getElem? he) bare ces H3 g2 (by omega)
        obtain ⟨sve, rfl, _⟩ := Dat.Rep_iff.1 g2
        refine ⟨fun _ => ?_, _, htags, ?_, ?_⟩
        · simp only [Chk.holds, ev0, ev, evV, List.cons_append, List.nil_append, List.getD_cons_zero, List.getD_cons_succ, List.map_cons, List.map_nil, iOf, bOf, sOf, pOf, slLen, slBase, cmpI, arI, Value.ite_bool, int_beq, int_bne, ite_band, ite_bor]; exact ⟨g1, by omega, by omega⟩
        · simp only [ev0, ev, evV, List.cons_append, List.nil_append, List.getD_cons_zero, List.getD_cons_succ, List.map_cons, List.map_nil, iOf, bOf, sOf, pOf, slLen, slBase, cmpI, arI, Value.ite_bool, int_beq, int_bne, ite_band, ite_bor]; exact g3
        refine den_gives [txt (e.txtL bare)] cb_scrimshawref02_Text ?_ rfl pendNil fun H4 h6 => ⟨fun _ => ?_, _, lookup_hit, ?_⟩
        · simp only [ev0, ev, evV, List.cons_append, List.nil_append, List.getD_cons_zero, List.getD_cons_succ, List.map_cons, List.map_nil, iOf, bOf, sOf, pOf, slLen, slBase, cmpI, arI, Value.ite_bool, int_beq, int_bne, ite_band, ite_bor]
          exact hcall
        · simp only [Chk.holds, ev0, ev, evV, List.cons_append, List.nil_append, List.getD_cons_zero, List.getD_cons_succ, List.map_cons, List.map_nil, iOf, bOf, sOf, pOf, slLen, slBase, cmpI, arI, Value.ite_bool, int_beq, int_bne, ite_band, ite_bor, txt_size, List.length_append, hmax]; omega
        · refine ⟨n - 1, by omega, k + 1, out ++ t1 ++ t2 ++ e.txtL bare, ?_, by omega, ?_, PH.le_trans hl3 h6⟩
          · simp only [ev0, ev, evV, List.cons_append, List.nil_append, List.getD_cons_zero, List.getD_cons_succ, List.map_cons, List.map_nil, iOf, bOf, sOf, pOf, slLen, slBase, cmpI, arI, Value.ite_bool, int_beq, int_bne, ite_band, ite_bor, cat_txt]
            rw [w64 (by omega) (by omega)]
            rfl
          · rw [← hout]; simp
      · have hcond : ∀ E : List Value, E.getD 0 (Value.bool false) = .int .i64 d.kind → E.getD 3 (Value.bool false) = .slice b d.list.length c → E.getD 6 (Value.bool false) = .int .i64 k →
            bOf (ev0 E (.pick (.cmp .eql (.atom 0) (.int .i64 6)) (.cmp .eql (.atom 6) (.ar .sub .i64 (.len (.atom 3)) (.int .i64 1))) (.bool false))) = (decide (d.kind = 6) && decide (k = d.list.length - 1)) := by
          intro E e1 e2 e3
          simp only [ev0, ev, evV, List.cons_append, List.nil_append, List.getD_cons_zero, List.getD_cons_succ, List.map_cons, List.map_nil, iOf, bOf, sOf, pOf, slLen, slBase, cmpI, arI, Value.ite_bool, int_beq, int_bne, ite_band, ite_bor, e1, e2, e3]
          rw [w64 (by omega) (by omega)]
          congr 1
          simp only [decide_eq_decide]; omega
        refine ⟨fun hc => ?_, fun hc => ?_⟩
        · have hc := (hcond _ rfl rfl rfl).symm.trans hc
          rw [if_pos hc] at ht2
          subst ht2
          refine ⟨fun _ => ?_, _, lookup_hit, ?_, hl2⟩
          · simp only [Chk.holds, ev0, ev, evV, List.cons_append, List.nil_append, List.getD_cons_zero, List.getD_cons_succ, List.map_cons, List.map_nil, iOf, bOf, sOf, pOf, slLen, slBase, cmpI, arI, Value.ite_bool, int_beq, int_bne, ite_band, ite_bor, txt_size, List.length_append, List.length_cons, List.length_nil, hmax]
            simp only [List.length_cons, List.length_nil] at houtl; omega
          · simp only [ev0, ev, evV, List.cons_append, List.nil_append, List.getD_cons_zero, List.getD_cons_succ, List.map_cons, List.map_nil, iOf, bOf, sOf, pOf, slLen, slBase, cmpI, arI, Value.ite_bool, int_beq, int_bne, ite_band, ite_bor, cat_txt]
        · have hc := (hcond _ rfl rfl rfl).symm.trans hc
          rw [if_neg (by rw [hc]; simp)] at ht2
          subst ht2
          exact ⟨_, lookup_hit, by simp only [ev0, ev, evV, List.cons_append, List.nil_append, List.getD_cons_zero, List.getD_cons_succ, List.map_cons, List.map_nil, iOf, bOf, sOf, pOf, slLen, slBase, cmpI, arI, Value.ite_bool, int_beq, int_bne, ite_band, ite_bor, List.append_nil], hl2⟩
    · refine ⟨fun hc => ?_, fun hc => ?_⟩
      · simp only [ev0, ev, evV, List.cons_append, List.nil_append, List.getD_cons_zero, List.getD_cons_succ, List.map_cons, List.map_nil, iOf, bOf, sOf, pOf, slLen, slBase, cmpI, arI, Value.ite_bool, int_beq, int_bne, ite_band, ite_bor, decide_eq_true_eq] at hc
        have hk0 : ¬ k = 0 := by omega
        rw [if_neg (by simpa using hk0)] at ht1
        subst ht1
        refine ⟨fun _ => ?_, _, lookup_hit, ?_, hle⟩
        · simp only [Chk.holds, ev0, ev, evV, List.cons_append, List.nil_append, List.getD_cons_zero, List.getD_cons_succ, List.map_cons, List.map_nil, iOf, bOf, sOf, pOf, slLen, slBase, cmpI, arI, Value.ite_bool, int_beq, int_bne, ite_band, ite_bor, txt_size, List.length_cons, List.length_nil, hmax]
          simp only [List.length_cons, List.length_nil] at houtl; omega
        · simp only [ev0, ev, evV, List.cons_append, List.nil_append, List.getD_cons_zero, List.getD_cons_succ, List.map_cons, List.map_nil, iOf, bOf, sOf, pOf, slLen, slBase, cmpI, arI, Value.ite_bool, int_beq, int_bne, ite_band, ite_bor, cat_txt]
      · simp only [ev0, ev, evV, List.cons_append, List.nil_append, List.getD_cons_zero, List.getD_cons_succ, List.map_cons, List.map_nil, iOf, bOf, sOf, pOf, slLen, slBase, cmpI, arI, Value.ite_bool, int_beq, int_bne, ite_band, ite_bor, decide_eq_false_iff_not] at hc
        have hk0 : k = 0 := by omega
        rw [if_pos (by simpa using hk0)] at ht1
        subst ht1
        exact ⟨_, lookup_hit, by simp only [ev0, ev, evV, List.cons_append, List.nil_append, List.getD_cons_zero, List.getD_cons_succ, List.map_cons, List.map_nil, iOf, bOf, sOf, pOf, slLen, slBase, cmpI, arI, Value.ite_bool, int_beq, int_bne, ite_band, ite_bor, List.append_nil], hle⟩
  · simp only [ev0, ev, evV, List.cons_append, List.nil_append, List.getD_cons_zero, List.getD_cons_succ, List.map_cons, List.map_nil, iOf, bOf, sOf, pOf, slLen, slBase, cmpI, arI, Value.ite_bool, int_beq, int_bne, ite_band, ite_bor, decide_eq_false_iff_not] at h5
    have : k = d.list.length := by omega
    subst this
    rw [List.drop_length] at hout
    simp only [Dats.txtL, List.append_nil] at hout
    refine ⟨fun _ => ?_, ?_, hle⟩
    · simp only [Chk.holds, ev0, ev, evV, List.cons_append, List.nil_append, List.getD_cons_zero, List.getD_cons_succ, List.map_cons, List.map_nil, iOf, bOf, sOf, pOf, slLen, slBase, cmpI, arI, Value.ite_bool, int_beq, int_bne, ite_band, ite_bor, txt_size, List.length_cons, List.length_nil, hmax]; omega
    · simp only [ev0, ev, evV, List.cons_append, List.nil_append, List.getD_cons_zero, List.getD_cons_succ, List.map_cons, List.map_nil, iOf, bOf, sOf, pOf, slLen, slBase, cmpI, arI, Value.ite_bool, int_beq, int_bne, ite_band, ite_bor, cat_txt, hout]
end Go.Proofs.YtlnmmakbgldflaaGreatDoor.Vc

