/-
  DATA: the laws of the texts and of their parts, at the level of calls.
-/
import Derived.Test.YtpccpepdkjdbnaaDoorDp
set_option linter.unusedSimpArgs false
set_option linter.unusedVariables false
namespace Go.Proofs.YtpccpepdkjdbnaaDoor.Vc
open Go

theorem DatumTexts_gives (d : Dat) (cs : List Value) (H : PH) (ht : Tab H) (hd : d.Rep H cs) : Gives Tryd.prog n_scrimshawlaw02_DatumTexts [.agg cs.toArray] H (.bool true) := by
  have c1 := fun H' hl => DText_gives d cs H' (Dat.Rep.le (H := H) hl d hd) (ht.le hl)
  have c2 := fun H' hl => DShow_gives d cs H' (Dat.Rep.le (H := H) hl d hd) (ht.le hl)
  have c3 := fun H' hl => RCheckF_gives d cs H' (Dat.Rep.le (H := H) hl d hd)
  have c4 := fun b H' (hl : PH.le H H') => RText_gives d b cs H' (Dat.Rep.le (H := H) hl d hd)
  obtain ⟨sv, rfl, hk, hn, htx, hsl⟩ := Dat.Rep_iff.1 hd
  obtain ⟨b, c, rfl⟩ := hsl.sl
  refine tri_scrimshawlaw02_DatumTexts [.int .i64 d.kind, .int .i64 d.int, txt d.text, .slice b d.list.length c] (by kernel_rfl) (by kernel_rfl) ?_
  refine den_gives [txt (d.textL false), .int .i64 (d.chk 0 0).2] cb_data_Text (c1 H (PH.le_refl H)) rfl pendNil fun H1 l1 => ?_
  refine den_gives [txt (d.textL true), .int .i64 (d.chk 0 0).2] cb_data_Show (c2 H1 l1) rfl pendNil fun H2 l2 => ?_
  have l12 := PH.le_trans l1 l2
  refine den_gives [.int .i64 (d.chk 0 0).2] cb_scrimshawref02_Check (c3 H2 l12) rfl pendNil fun H3 l3 => ?_
  have l13 := PH.le_trans l12 l3
  refine den_gives [.bool true] cb_scrimshawlaw02_fixed (fixed_gives H3 (ht.le l13)) rfl pendNil fun H4 l4 => ⟨fun h => absurd h (by simp [ev0, ev, evV, List.cons_append, List.nil_append, List.getD_cons_zero, List.getD_cons_succ, List.map_cons, List.map_nil, iOf, bOf, sOf, pOf, slLen, slBase, cmpI, arI, Value.ite_bool]), fun _ => ⟨fun h => ?_, fun h => ?_⟩⟩
  · simp only [ev0, ev, evV, List.cons_append, List.nil_append, List.getD_cons_zero, List.getD_cons_succ, List.map_cons, List.map_nil, iOf, bOf, sOf, pOf, slLen, slBase, cmpI, arI, Value.ite_bool, int_beq, int_bne, ite_band, ite_bor, decide_eq_true_eq] at h
    refine ⟨?_, PH.le_trans l13 l4⟩
    simp only [Dat.textL, if_neg h, ev0, ev, evV, List.cons_append, List.nil_append, List.getD_cons_zero, List.getD_cons_succ, List.map_cons, List.map_nil, iOf, bOf, sOf, pOf, slLen, slBase, cmpI, arI, Value.ite_bool, int_beq, int_bne, ite_band, ite_bor, txt_eql]; rfl
  · simp only [ev0, ev, evV, List.cons_append, List.nil_append, List.getD_cons_zero, List.getD_cons_succ, List.map_cons, List.map_nil, iOf, bOf, sOf, pOf, slLen, slBase, cmpI, arI, Value.ite_bool, int_beq, int_bne, ite_band, ite_bor, decide_eq_false_iff_not, ne_eq, Decidable.not_not] at h
    have hg : d.Good := ⟨0, 0, by omega, h⟩
    have l14 := PH.le_trans l13 l4
    have e1 : ∀ b, d.textL b = d.txtL b := fun b => by rw [Dat.textL, if_pos h]
    refine ⟨fun vs H' => vs = [.bool true] ∧ PH.le H H', ?_, ?_⟩
    · rintro vs H' _ ⟨rfl, hl⟩; exact ⟨rfl, hl⟩
    refine den_gives [txt (d.txtL false)] cb_scrimshawref02_Text (c4 false H4 l14 (by have := hg.len false; omega)) rfl pendNil fun H5 l5 => ⟨fun _ => ?_, fun h => ?_⟩
    · refine den_gives [txt (d.txtL true)] cb_scrimshawref02_Text (c4 true H5 (PH.le_trans l14 l5) (by have := hg.len true; omega)) rfl pendNil fun H6 l6 => ⟨_, lookup_hit, ?_, PH.le_trans l14 (PH.le_trans l5 l6)⟩
      simp only [ev0, ev, evV, List.cons_append, List.nil_append, List.getD_cons_zero, List.getD_cons_succ, List.map_cons, List.map_nil, iOf, bOf, sOf, pOf, slLen, slBase, cmpI, arI, Value.ite_bool, int_beq, int_bne, ite_band, ite_bor, txt_eql, e1]; simp
    · simp only [ev0, ev, evV, List.cons_append, List.nil_append, List.getD_cons_zero, List.getD_cons_succ, List.map_cons, List.map_nil, iOf, bOf, sOf, pOf, slLen, slBase, cmpI, arI, Value.ite_bool, int_beq, int_bne, ite_band, ite_bor, txt_eql, e1] at h
      simp at h

def Dat.Mono (d : Dat) : Prop := ∀ (deep seen deep' seen' : Nat), deep ≤ 32 → deep' ≤ deep → seen' ≤ seen → seen ≤ 4096 → (d.chk deep seen).2 = 0 → (d.chk deep' seen').2 = 0 ∧ (d.chk deep' seen').1 + seen = (d.chk deep seen).1 + seen'
theorem Dats.mono : ∀ (l : List Dat), (∀ e ∈ l, e.Mono) → ∀ (deep seen deep' seen' : Nat), deep ≤ 32 → deep' ≤ deep → seen' ≤ seen → seen ≤ 4096 → (Dats.chk l deep seen).2 = 0 → (Dats.chk l deep' seen').2 = 0 ∧ (Dats.chk l deep' seen').1 + seen = (Dats.chk l deep seen).1 + seen'
  | [], _, deep, seen, deep', seen', _, _, _, _, _ => by simp only [Dats.chk]; exact ⟨trivial, by omega⟩
  | d :: l, hl, deep, seen, deep', seen', h1, h2, h3, h4, h => by
    simp only [Dats.chk] at h ⊢
    split at h
    · rename_i hx; exact absurd h hx
    rename_i hx
    have hx : (d.chk deep seen).2 = 0 := by simpa using hx
    obtain ⟨g1, g2⟩ := hl d (List.mem_cons_self ..) deep seen deep' seen' h1 h2 h3 h4 hx
    have g3 := Dats.mono l (fun e he => hl e (List.mem_cons_of_mem _ he)) deep (d.chk deep seen).1 deep' (d.chk deep' seen').1 h1 h2 (by omega) (Dat.chk_le d deep seen h4) h
    rw [if_neg (by simp [g1]), if_neg (by simp [hx])]
    exact ⟨g3.1, by omega⟩
/-- what may be within more may be within less; and counts as many -/
theorem Dat.mono : ∀ d : Dat, d.Mono := by
  refine Dat.ind ?_
  intro d ih deep seen deep' seen' h1 h2 h3 h4 h
  rw [Dat.chk_eq] at h
  rw [Dat.chk_eq d deep' seen', Dat.chk_eq d deep seen]
  split at h
  · simp at h
  rename_i h0
  split at h
  · simp at h
  rename_i h5
  split at h
  · simp at h
  rename_i h6
  have hn : nested d.kind = true → deep < 32 := fun x => by
    rcases Nat.lt_or_ge deep 32 with y | y
    · exact y
    · exact absurd ⟨x, by omega⟩ h5
  rw [if_neg h0, if_neg h5, if_neg h6, if_neg (show ¬ seen' = 4096 by omega), if_neg (fun x => by have := hn x.1; omega), if_neg h6]
  by_cases hl : d.list = []
  · rw [hl]; simp only [Dats.chk]; exact ⟨trivial, by omega⟩
  · have hn' := hn (formOk_nested (by simpa using h6) hl)
    have g := Dats.mono d.list ih (deep + 1) (seen + 1) (deep' + 1) (seen' + 1) (by omega) (by omega) (by omega) (by omega) h
    exact ⟨g.1, by omega⟩
theorem Dats.ok_each : ∀ (l : List Dat) (deep seen : Nat), deep ≤ 32 → seen ≤ 4096 → (Dats.chk l deep seen).2 = 0 → ∀ e ∈ l, (e.chk 0 0).2 = 0
  | [], _, _, _, _, _, e, he => by cases he
  | d :: l, deep, seen, hd, hs, h, e, he => by
    simp only [Dats.chk] at h
    split at h
    · rename_i hx; exact absurd h hx
    rename_i hx
    have hx : (d.chk deep seen).2 = 0 := by simpa using hx
    rcases List.mem_cons.1 he with rfl | he
    · exact (Dat.mono e deep seen 0 0 hd (by omega) (by omega) hs hx).1
    · exact Dats.ok_each l deep _ hd (Dat.chk_le d deep seen hs) h e he

theorem DatumParts_gives (l : List Dat) (v : Value) (H : PH) (ht : Tab H) (hl : SlR H l v) : Gives Tryd.prog n_scrimshawlaw02_DatumParts [v] H (.bool true) := by
  have r5 : ∀ H', PH.le H H' → Dat.Rep H' (.mk 5 0 [] l) [.int .i64 5, .int .i64 0, txt [], v] := fun H' h => Dat.Rep_iff.2 ⟨_, rfl, (by decide : InI 5), (by decide : InI 0), Nat.zero_le _, hl.le h⟩
  have r7 : ∀ H', PH.le H H' → Dat.Rep H' (.mk 7 0 [] l) [.int .i64 7, .int .i64 0, txt [], v] := fun H' h => Dat.Rep_iff.2 ⟨_, rfl, (by decide : InI 7), (by decide : InI 0), Nat.zero_le _, hl.le h⟩
  have e5 : (Dat.chk (.mk 5 0 [] l) 0 0) = Dats.chk l 1 1 := by
    rw [Dat.chk_eq, if_neg (by decide), if_neg (by simp), if_neg (by simp [formOk, Dat.kind, Dat.int, Dat.text])]; rfl
  have e7 : (Dat.chk (.mk 7 0 [] l) 0 0) = Dats.chk l 1 1 := by
    rw [Dat.chk_eq, if_neg (by decide), if_neg (by simp), if_neg (by simp [formOk, Dat.kind, Dat.int, Dat.text])]; rfl
  obtain ⟨b, c, rfl⟩ := hl.sl
  have hll := hl.max
  simp only [maxLen] at hll
  refine tri_scrimshawlaw02_DatumParts [.slice b l.length c] (by kernel_rfl) (by kernel_rfl) ?_
  refine den_gives [txt (Dat.textL (.mk 5 0 [] l) false), .int .i64 (Dats.chk l 1 1).2] cb_data_Text (by have := DText_gives _ _ H (r5 H (PH.le_refl H)) ht; rw [e5] at this; exact this) rfl pendNil fun H1 l1 => ?_
  refine den_gives [txt (Dat.textL (.mk 7 0 [] l) false), .int .i64 (Dats.chk l 1 1).2] cb_data_Text (by have := DText_gives _ _ H1 (r7 H1 l1) (ht.le l1); rw [e7] at this; exact this) rfl pendNil fun H2 l2 => ?_
  have l12 := PH.le_trans l1 l2
  refine den_gives [.bool true] cb_scrimshawlaw02_fixed (fixed_gives H2 (ht.le l12)) rfl pendNil fun H3 l3 => ?_
  have l13 := PH.le_trans l12 l3
  refine ⟨fun h => absurd h (by simp [ev0, ev, evV, List.cons_append, List.nil_append, List.getD_cons_zero, List.getD_cons_succ, List.map_cons, List.map_nil, iOf, bOf, sOf, pOf, slLen, slBase, cmpI, arI, Value.ite_bool]), fun _ => ⟨fun h => ?_, fun h => ?_⟩⟩
  · simp only [ev0, ev, evV, List.cons_append, List.nil_append, List.getD_cons_zero, List.getD_cons_succ, List.map_cons, List.map_nil, iOf, bOf, sOf, pOf, slLen, slBase, cmpI, arI, Value.ite_bool, int_beq, int_bne, ite_band, ite_bor, decide_eq_true_eq] at h
    refine ⟨?_, l13⟩
    simp only [Dat.textL, e5, e7, if_neg h, ev0, ev, evV, List.cons_append, List.nil_append, List.getD_cons_zero, List.getD_cons_succ, List.map_cons, List.map_nil, iOf, bOf, sOf, pOf, slLen, slBase, cmpI, arI, Value.ite_bool, int_beq, int_bne, ite_band, ite_bor, txt_eql]; rfl
  simp only [ev0, ev, evV, List.cons_append, List.nil_append, List.getD_cons_zero, List.getD_cons_succ, List.map_cons, List.map_nil, iOf, bOf, sOf, pOf, slLen, slBase, cmpI, arI, Value.ite_bool, int_beq, int_bne, ite_band, ite_bor, decide_eq_false_iff_not, ne_eq, Decidable.not_not] at h
  have hok := Dats.ok_each l 1 1 (by omega) (by omega) h
  have hg : Dat.Good (.mk 5 0 [] l) := ⟨0, 0, by omega, by rw [e5]; exact h⟩
  have hlen := hg.len false
  have x5 : Dat.txtL false (.mk 5 0 [] l) = [40] ++ Dats.txtL false false true l ++ [41] := by
    rw [Dat.txtL_eq]; simp [Dat.kind, Dat.list]
  have x7 : Dat.txtL false (.mk 7 0 [] l) = [35] ++ ([40] ++ Dats.txtL false false true l ++ [41]) := by
    rw [Dat.txtL_eq]; simp [Dat.kind, Dat.list]
  have t5 : Dat.textL (.mk 5 0 [] l) false = Dat.txtL false (.mk 5 0 [] l) := by rw [Dat.textL, e5, if_pos h]
  have t7 : Dat.textL (.mk 7 0 [] l) false = Dat.txtL false (.mk 7 0 [] l) := by rw [Dat.textL, e7, if_pos h]
  rw [t5, t7, x5, x7]
  rw [x5] at hlen
  generalize hall : [40] ++ Dats.txtL false false true l ++ [41] = all at hlen
  refine ⟨fun n vs H' => ∃ (k : Nat) (o : List UInt8), vs = [.bool false, txt o, .int .i64 k] ∧ k + n = l.length ∧ o ++ Dats.txtL false false (decide (k = 0)) (l.drop k) ++ [41] = all ∧ PH.le H H', ⟨l.length, 0, [40], rfl, by omega, by simpa using hall, l13⟩, ?_⟩
  rintro n vs H' _ ⟨k, o, rfl, hkn, ho, hle⟩
  have hol := congrArg List.length ho
  simp only [List.length_append, List.length_cons, List.length_nil] at hol
  have hmax : IntKind.i64.max = 9223372036854775807 := rfl
  refine ⟨fun h5 => ?_, fun h5 => ?_⟩
  · simp only [ev0, ev, evV, List.cons_append, List.nil_append, List.getD_cons_zero, List.getD_cons_succ, List.map_cons, List.map_nil, iOf, bOf, sOf, pOf, slLen, slBase, cmpI, arI, Value.ite_bool, int_beq, int_bne, ite_band, ite_bor, decide_eq_true_eq] at h5
    have hkl : k < l.length := by omega
    obtain ⟨e, he⟩ : ∃ e, l[k]? = some e := ⟨_, List.getElem?_eq_getElem hkl⟩
    have heok := hok e (List.mem_of_getElem? he)
    obtain ⟨g1, ces, g2, g3, _, _⟩ := SlRep.get (hl.le hle) he
    have hrest : Dats.txtL false false (decide (k = 0)) (l.drop k) = (if decide (k = 0) = true then [] else [32]) ++ e.txtL false ++ Dats.txtL false false false (l.drop (k + 1)) := by
      rw [drop_get he]; simp only [Dats.txtL]; simp
    rw [hrest] at ho hol
    simp only [List.length_append] at hol
    have htags := g2.tags
    have hcall := DText_gives e ces H' g2 (ht.le hle)
    obtain ⟨sve, rfl, _⟩ := Dat.Rep_iff.1 g2
    have hte : e.textL false = e.txtL false := by rw [Dat.textL, if_pos heok]
    rw [heok, hte] at hcall
    refine ⟨fun _ => ?_, _, htags, ?_, ?_⟩
    · simp only [Chk.holds, ev0, ev, evV, List.cons_append, List.nil_append, List.getD_cons_zero, List.getD_cons_succ, List.map_cons, List.map_nil, iOf, bOf, sOf, pOf, slLen, slBase, cmpI, arI, Value.ite_bool, int_beq, int_bne, ite_band, ite_bor]; exact ⟨g1, by omega, by omega⟩
    · simp only [ev0, ev, evV, List.cons_append, List.nil_append, List.getD_cons_zero, List.getD_cons_succ, List.map_cons, List.map_nil, iOf, bOf, sOf, pOf, slLen, slBase, cmpI, arI, Value.ite_bool, int_beq, int_bne, ite_band, ite_bor]; exact g3
    refine den_gives [txt (e.txtL false), .int .i64 0] cb_data_Text hcall rfl pendNil fun H4 l4 => ⟨fun hx => absurd hx (by simp [ev0, ev, evV, List.cons_append, List.nil_append, List.getD_cons_zero, List.getD_cons_succ, List.map_cons, List.map_nil, iOf, bOf, sOf, pOf, slLen, slBase, cmpI, arI, Value.ite_bool]), fun _ => ?_⟩
    have l04 := PH.le_trans hle l4
    generalize ht1 : (if decide (k = 0) = true then [] else [32] : List UInt8) = t1 at ho hol
    refine ⟨fun vs H2 => vs = [txt (o ++ t1)] ∧ PH.le H H2, ?_, ?_⟩
    · rintro vs H5 _ ⟨rfl, l5⟩
      refine ⟨fun _ => ?_, _, lookup_hit, n - 1, by omega, k + 1, o ++ t1 ++ e.txtL false, ?_, by omega, ?_, l5⟩
      · simp only [Chk.holds, ev0, ev, evV, List.cons_append, List.nil_append, List.getD_cons_zero, List.getD_cons_succ, List.map_cons, List.map_nil, iOf, bOf, sOf, pOf, slLen, slBase, cmpI, arI, Value.ite_bool, int_beq, int_bne, ite_band, ite_bor, txt_size, List.length_append, hmax]; omega
      · simp only [ev0, ev, evV, List.cons_append, List.nil_append, List.getD_cons_zero, List.getD_cons_succ, List.map_cons, List.map_nil, iOf, bOf, sOf, pOf, slLen, slBase, cmpI, arI, Value.ite_bool, int_beq, int_bne, ite_band, ite_bor, cat_txt]
        rw [w64 (by omega) (by omega)]
        rfl
      · rw [← ho]; simp
    · refine ⟨fun hc => ?_, fun hc => ?_⟩
      · simp only [ev0, ev, evV, List.cons_append, List.nil_append, List.getD_cons_zero, List.getD_cons_succ, List.map_cons, List.map_nil, iOf, bOf, sOf, pOf, slLen, slBase, cmpI, arI, Value.ite_bool, int_beq, int_bne, ite_band, ite_bor, decide_eq_true_eq] at hc
        rw [if_neg (by simp; omega)] at ht1
        subst ht1
        simp only [List.length_cons, List.length_nil] at hol
        refine ⟨fun _ => ?_, _, lookup_hit, ?_, l04⟩
        · simp only [Chk.holds, ev0, ev, evV, List.cons_append, List.nil_append, List.getD_cons_zero, List.getD_cons_succ, List.map_cons, List.map_nil, iOf, bOf, sOf, pOf, slLen, slBase, cmpI, arI, Value.ite_bool, int_beq, int_bne, ite_band, ite_bor, txt_size, List.length_cons, List.length_nil, hmax]; omega
        · simp only [ev0, ev, evV, List.cons_append, List.nil_append, List.getD_cons_zero, List.getD_cons_succ, List.map_cons, List.map_nil, iOf, bOf, sOf, pOf, slLen, slBase, cmpI, arI, Value.ite_bool, int_beq, int_bne, ite_band, ite_bor, cat_txt]
      · simp only [ev0, ev, evV, List.cons_append, List.nil_append, List.getD_cons_zero, List.getD_cons_succ, List.map_cons, List.map_nil, iOf, bOf, sOf, pOf, slLen, slBase, cmpI, arI, Value.ite_bool, int_beq, int_bne, ite_band, ite_bor, decide_eq_false_iff_not] at hc
        have hk0 : k = 0 := by omega
        rw [if_pos (by simpa using hk0)] at ht1
        subst ht1
        exact ⟨_, lookup_hit, by simp only [ev0, ev, evV, List.cons_append, List.nil_append, List.getD_cons_zero, List.getD_cons_succ, List.map_cons, List.map_nil, iOf, bOf, sOf, pOf, slLen, slBase, cmpI, arI, Value.ite_bool, int_beq, int_bne, ite_band, ite_bor, List.append_nil], l04⟩
  · simp only [ev0, ev, evV, List.cons_append, List.nil_append, List.getD_cons_zero, List.getD_cons_succ, List.map_cons, List.map_nil, iOf, bOf, sOf, pOf, slLen, slBase, cmpI, arI, Value.ite_bool, int_beq, int_bne, ite_band, ite_bor, decide_eq_false_iff_not] at h5
    have : k = l.length := by omega
    subst this
    rw [List.drop_length] at ho
    simp only [Dats.txtL, List.append_nil] at ho
    refine ⟨fun _ => ?_, fun _ => ?_, ?_, hle⟩
    · simp only [Chk.holds, ev0, ev, evV, List.cons_append, List.nil_append, List.getD_cons_zero, List.getD_cons_succ, List.map_cons, List.map_nil, iOf, bOf, sOf, pOf, slLen, slBase, cmpI, arI, Value.ite_bool, int_beq, int_bne, ite_band, ite_bor, txt_size, List.length_cons, List.length_nil, hmax]; omega
    · simp only [Chk.holds, ev0, ev, evV, List.cons_append, List.nil_append, List.getD_cons_zero, List.getD_cons_succ, List.map_cons, List.map_nil, iOf, bOf, sOf, pOf, slLen, slBase, cmpI, arI, Value.ite_bool, int_beq, int_bne, ite_band, ite_bor, txt_size, List.length_append, List.length_cons, List.length_nil, hmax] at hlen ⊢
      omega
    · simp only [ev0, ev, evV, List.cons_append, List.nil_append, List.getD_cons_zero, List.getD_cons_succ, List.map_cons, List.map_nil, iOf, bOf, sOf, pOf, slLen, slBase, cmpI, arI, Value.ite_bool, int_beq, int_bne, ite_band, ite_bor, cat_txt, txt_eql, ho, hall]; simp
end Go.Proofs.YtpccpepdkjdbnaaDoor.Vc
