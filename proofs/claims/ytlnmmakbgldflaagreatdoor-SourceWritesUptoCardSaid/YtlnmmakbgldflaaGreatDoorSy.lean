import Derived.Test.YtlnmmakbgldflaaGreatDoorSx
import Derived.Shelf.Strings.SlTrimAscii
import Derived.Test.YtlnmmakbgldflaaGreatDoorWj
import Derived.Lib.AtoiAllCases
set_option linter.unusedSimpArgs false
set_option linter.unusedVariables false
set_option maxRecDepth 100000
/-
  SIGN: the program's lexer: what it keeps, gaps and words.
-/
namespace Go.Proofs.YtlnmmakbgldflaaGreatDoor.Vc
open Go

/-- a call that leaves what was there, and lays new rows -/
theorem Tri.ofBelow {P : Program} {f : FuncId} {args : List Value} {H : PH} {Q : Ending → Prop} (h : ∀ w, Vis H w → Calls P f args.toArray w fun e w' => Q e ∧ Go.RowKit.Below w.heap.size w w') : Tri P f args.toArray H fun e H' => Q e ∧ PH.le H H' := fun w hv =>
  (h w hv).mono fun e w' ⟨h1, h2⟩ => ⟨H, ⟨h2.size, fun k x hk => by rw [h2.block k (hv.lt hk)]; exact hv k x hk, fun k hk hn => ⟨h2.block k hk, hn⟩, h2.os, h2.tape, h2.output⟩, h1, PH.le_refl H⟩

theorem nameB_one (c : UInt8) : nameOk [97, c] = nameB c := by
  have h97 : nameB 97 = true := by decide
  have hd : digitI ((97 : UInt8).toNat : Int) = false := by decide
  have hd' : digitI 97 = false := by decide
  simp [nameOk, numB, h97, hd']
theorem nameByte_gives (c : UInt8) (H : PH) : Gives Tryz.prog n_lex_nameByte [.int .u8 c.toNat] H (.bool (nameB c)) := by
  refine tri_lex_nameByte [.int .u8 c.toNat] (by kernel_rfl) (by kernel_rfl) ?_
  refine byteText (c := c) rfl fun r hr => ⟨[_], rfl, rfl, pendNil, ?_⟩
  show wpS _ (execOp _ _) _ _ _
  rw [exec_convert]
  have hle : PH.le H (H.upd r (.cells #[.int .u8 (c.toNat : Int)] 5)) := PH.le_upd hr
  refine wpS_toText (l := [c]) uBytes uString uByte (fun j u hu => ?_) ⟨[_], rfl, rfl, pendNil, fun _ => ?_, ?_⟩
  · rw [Addr.add_plain, PH.cell_at PH.upd_same]
    cases j with
    | zero => simpa using hu
    | succ j => simp at hu
  · have hmax : IntKind.i64.max = 9223372036854775807 := rfl
    simp only [Chk.holds, ev0, ev, evV, List.cons_append, List.nil_append, List.getD_cons_zero, List.getD_cons_succ, List.map_cons, List.map_nil, iOf, bOf, sOf, pOf, slLen, slBase, cmpI, arI, Value.ite_bool, int_beq, int_bne, ite_band, ite_bor, txt_size, List.length_cons, List.length_nil, hmax]; omega
  refine den_gives [.bool (nameB c)] cb_data_Name ?_ rfl pendNil fun H1 h1 => ⟨rfl, PH.le_trans hle h1⟩
  have := Name_gives [97, c] (by simp only [maxLen, List.length_cons, List.length_nil]; omega) (H.upd r (.cells #[.int .u8 (c.toNat : Int)] 5))
  rw [nameB_one] at this
  exact this

/-- the lexer's block: the source, and the place; what else was in H0 stands -/
structure LX (H0 H : PH) (p : Nat) (s : List UInt8) (k : Nat) : Prop where
  at_ : H p = some (.cells #[txt s, .int .i64 k] 73 (0, 0))
  le : PH.le H0 (H.del p)
theorem LX.grow {H0 H H' : PH} {p : Nat} {s : List UInt8} {k : Nat} (h : LX H0 H p s k) (hl : PH.le H H') : LX H0 H' p s k := ⟨hl _ _ h.at_, PH.le_trans h.le (PH.del_mono hl p)⟩
section
variable {X : List PanicEntry → PH → Prop} {β : Type} {E : List Value} {L : LK} {K : β → List Value → PH → LK → Prop} {H0 H : PH} {p m : Nat} {s : List UInt8} {k : Nat}
theorem LX.row (h : LX H0 H p s k) : rowAt H (some ⟨p, 0, none⟩) [txt s] := ⟨_, rfl, fun i v hi => by
  rw [Addr.add_plain, PH.cell_at h.at_]
  cases i with
  | zero => simpa using hi
  | succ i => simp at hi⟩
theorem LX.row1 (h : LX H0 H p s k) : rowAt H (some ⟨p, 1, none⟩) [.int .i64 k] := ⟨_, rfl, fun i v hi => by
  rw [Addr.add_plain, PH.cell_at h.at_]
  cases i with
  | zero => simpa using hi
  | succ i => simp at hi⟩
theorem den_lstr {f : Fm β} (hE : E.getD m (.bool false) = .pointer (some ⟨p, 0, none⟩)) (h : LX H0 H p s k) (hk : den Tryz.prog X f (E ++ [txt s]) H L K) : den Tryz.prog X (.load (.padd (.atom m) 0) [.str] f) E H L K := by
  refine ⟨[txt s], rfl, ?_, hk⟩
  simp only [ev0, ev, hE, pOf]
  exact h.row
theorem den_lat {f : Fm β} (hE : E.getD m (.bool false) = .pointer (some ⟨p, 0, none⟩)) (h : LX H0 H p s k) (hk : den Tryz.prog X f (E ++ [.int .i64 k]) H L K) : den Tryz.prog X (.load (.padd (.atom m) 1) [.int .i64] f) E H L K := by
  refine ⟨[.int .i64 k], rfl, ?_, hk⟩
  simp only [ev0, ev, hE, pOf]
  exact h.row1
theorem den_lput {f : Fm β} {x : SV} {k' : Nat} (hE : E.getD m (.bool false) = .pointer (some ⟨p, 0, none⟩)) (h : LX H0 H p s k) (hx : ev0 E x = .int .i64 (k' : Int)) (hk : ∀ H', LX H0 H' p s k' → PH.le (H.del p) (H'.del p) → den Tryz.prog X f E H' L K) : den Tryz.prog X (.store (.padd (.atom m) 1) [x] f) E H L K := by
  refine ⟨⟨p, 1, none⟩, by simp only [ev0, ev, hE, pOf]; rfl, ?_⟩
  refine wpS_storeCells _ 1 0 #[txt s, .int .i64 k] H h.at_ (by simp) (by simp [hx, oneC]) ?_
  have : splice #[txt s, .int .i64 k] (1 + 0) ([x].map (ev0 E)) = #[txt s, .int .i64 k'] := by
    simp only [List.map_cons, List.map_nil, hx]; rfl
  rw [this]
  have hd : PH.le (H.del p) ((H.upd p (.cells #[txt s, .int .i64 k'] 73 (0, 0))).del p) := by rw [PH.del_upd]; exact PH.le_refl _
  exact hk _ ⟨PH.upd_same, PH.le_trans h.le hd⟩ hd
theorem den_lsome {f : Fm β} (hE : E.getD m (.bool false) = .pointer (some ⟨p, 0, none⟩)) (hk : den Tryz.prog X f E H L K) : den Tryz.prog X (.chk [] (.some (.atom m)) f) E H L K :=
  ⟨fun _ => by show (pOf (ev0 E (.atom m))).isSome = true; simp only [ev0, ev, hE, pOf]; rfl, hk⟩
end

theorem indexByte_bounds : ∀ (l : List UInt8) (c : UInt8), -1 ≤ Lib.indexByte l c ∧ Lib.indexByte l c < l.length ∨ l = [] ∧ Lib.indexByte l c = -1
  | [], c => .inr ⟨rfl, rfl⟩
  | b :: l, c => by
    left
    have := indexByte_bounds l c
    simp only [Lib.indexByte, List.length_cons]
    split
    · omega
    split
    · omega
    · rcases this with h | ⟨rfl, h⟩ <;> omega
theorem indexByte_contains : ∀ (l : List UInt8) (c : UInt8), decide (Lib.indexByte l c ≥ 0) = l.contains c
  | [], c => by simp [Lib.indexByte]
  | b :: l, c => by
    have h1 := indexByte_contains l c
    have h2 := indexByte_bounds l c
    have hx : Lib.indexByte (b :: l) c = if (b == c) = true then 0 else if (Lib.indexByte l c == -1) = true then -1 else Lib.indexByte l c + 1 := rfl
    rw [hx, List.contains_cons]
    by_cases e : b = c
    · subst e; simp
    · have e1 : (b == c) = false := by simp [e]
      have e2 : (c == b) = false := by simp [Ne.symm e]
      rw [e1, e2, Bool.false_or, ← h1]
      simp only [Bool.false_eq_true, if_false]
      split
      · rename_i h; have : Lib.indexByte l c = -1 := by simpa using h
        rw [this]
      · rename_i h
        have : Lib.indexByte l c ≠ -1 := by simpa using h
        rw [decide_eq_decide]
        rcases h2 with h | ⟨rfl, h⟩ <;> omega
theorem gapT_none : ∀ {l : List UInt8}, Lib.indexByte l 10 < 0 → gapL true l = []
  | [], _ => rfl
  | b :: l, h => by
    simp only [Lib.indexByte] at h
    have hb := indexByte_bounds l 10
    split at h
    · omega
    rename_i e
    simp only [gapL]
    have e' : (b != 10) = true := by simpa using e
    rw [e']
    refine gapT_none ?_
    split at h
    · rename_i h1; have : Lib.indexByte l 10 = -1 := by simpa using h1
      omega
    · rename_i h1; have : Lib.indexByte l 10 ≠ -1 := by simpa using h1
      rcases hb with h | ⟨rfl, h⟩ <;> omega
theorem gapT_some : ∀ {l : List UInt8} {n : Nat}, Lib.indexByte l 10 = (n : Int) → n < l.length ∧ gapL true l = gapL false (l.drop n)
  | [], n, h => by simp [Lib.indexByte] at h
  | b :: l, n, h => by
    simp only [Lib.indexByte] at h
    split at h
    · rename_i e
      have e' : b = 10 := by simpa using e
      subst e'
      have : n = 0 := by omega
      subst this
      refine ⟨by simp, ?_⟩
      simp [gapL, wsB]
    rename_i e
    have e' : (b != 10) = true := by simpa using e
    split at h
    · omega
    have hn : Lib.indexByte l 10 = ((n - 1 : Nat) : Int) := by
      have hb := indexByte_bounds l 10
      rename_i h1
      have : Lib.indexByte l 10 ≠ -1 := by simpa using h1
      rcases hb with h | ⟨rfl, h⟩ <;> omega
    have hn1 : 1 ≤ n := by
      have hb := indexByte_bounds l 10
      rename_i h1
      have : Lib.indexByte l 10 ≠ -1 := by simpa using h1
      rcases hb with h | ⟨rfl, h⟩ <;> omega
    obtain ⟨h1, h2⟩ := gapT_some hn
    obtain ⟨j, rfl⟩ : ∃ j, n = j + 1 := ⟨n - 1, by omega⟩
    simp only [Nat.add_sub_cancel] at h1 h2
    refine ⟨by simp only [List.length_cons]; omega, ?_⟩
    simp only [gapL, e', List.drop_succ_cons]
    exact h2

theorem lgap_tri (s : List UInt8) (k p : Nat) (H0 H : PH) (hs : s.length ≤ 1152921504606846976) (hk : k ≤ s.length) (h : LX H0 H p s k) :
    Tri Tryz.prog n_lex_lexer__gap #[.pointer (some ⟨p, 0, none⟩)] H fun e H' => e = .returned (.tuple #[]) ∧ LX H0 H' p s (s.length - (gapL false (s.drop k)).length) := by
  refine tri_lex_lexer__gap [.pointer (some ⟨p, 0, none⟩)] (by kernel_rfl) (by kernel_rfl) ?_
  refine ⟨fun m vs H' => ∃ j : Nat, vs = [] ∧ j + m = s.length ∧ gapL false (s.drop j) = gapL false (s.drop k) ∧ LX H0 H' p s j, ⟨s.length - k, k, rfl, by omega, rfl, h⟩, ?_⟩
  rintro m vs H' _ ⟨j, rfl, hm, hg, hx⟩
  refine den_lsome rfl (den_lat rfl hx (den_lstr rfl hx ⟨fun h1 => ?_, fun h1 => ?_⟩))
  · simp only [ev0, ev, evV, List.cons_append, List.nil_append, List.getD_cons_zero, List.getD_cons_succ, List.map_cons, List.map_nil, iOf, bOf, sOf, pOf, slLen, slBase, cmpI, arI, Value.ite_bool, int_beq, int_bne, ite_band, ite_bor, txt_size, decide_eq_true_eq] at h1
    obtain ⟨c, hc⟩ : ∃ c, s[j]? = some c := ⟨_, List.getElem?_eq_getElem (show j < s.length by omega)⟩
    have hd := drop_get hc
    refine den_lstr rfl hx (den_lat rfl hx ⟨fun _ => inStr_of rfl rfl (by omega), ?_⟩)
    refine den_gives [.int .i64 (Lib.indexByte [9, 10, 13, 32] c)] cb_strings_IndexByte ?_ rfl pendNil fun H1 l1 => ?_
    · have := IndexByte_gives ⟨#[9, 10, 13, 32]⟩ (c.toNat : Int) H'
      simp only [List.map_cons, List.map_nil, evV]
      rw [ev_sidx (s := s) (k := j) (c := c) rfl rfl hc]
      rw [Int.toNat_natCast] at this
      have hcc : c.toNat.toUInt8 = c := by simp
      rw [hcc] at this
      exact this
    have hx1 := hx.grow l1
    have hj1 : IntKind.i64.wrap ((j : Int) + 1) = ((j + 1 : Nat) : Int) := by rw [w64 (by omega) (by omega)]; omega
    have hws : decide (Lib.indexByte [9, 10, 13, 32] c ≥ 0) = wsB c := by
      rw [indexByte_contains]
      simp only [wsB, List.contains_cons, List.contains_nil, Bool.or_false, Bool.or_assoc]
    refine ⟨fun h2 => ?_, fun h2 => ?_⟩
    · simp only [ev0, ev, evV, List.cons_append, List.nil_append, List.getD_cons_zero, List.getD_cons_succ, List.map_cons, List.map_nil, iOf, bOf, sOf, pOf, slLen, slBase, cmpI, arI, Value.ite_bool, int_beq, int_bne, ite_band, ite_bor] at h2
      rw [hws] at h2
      have h59 : ¬ c = 59 := fun e => by subst e; revert h2; decide
      refine den_lat rfl hx1 (den_lput (k' := j + 1) rfl hx1 (by simp only [ev0, ev, evV, List.cons_append, List.nil_append, List.getD_cons_zero, List.getD_cons_succ, List.map_cons, List.map_nil, iOf, bOf, sOf, pOf, slLen, slBase, cmpI, arI, Value.ite_bool, int_beq, int_bne, ite_band, ite_bor, hj1]) fun H2 hx2 _ => ⟨_, lookup_hit, m - 1, by omega, j + 1, rfl, by omega, ?_, hx2⟩)
      rw [← hg, hd]
      simp only [gapL, if_neg h59, h2, if_true]
    · simp only [ev0, ev, evV, List.cons_append, List.nil_append, List.getD_cons_zero, List.getD_cons_succ, List.map_cons, List.map_nil, iOf, bOf, sOf, pOf, slLen, slBase, cmpI, arI, Value.ite_bool, int_beq, int_bne, ite_band, ite_bor] at h2
      rw [hws] at h2
      have hsx : ev0 ([Value.pointer (some ⟨p, 0, none⟩)] ++ [] ++ [.int .i64 j] ++ [txt s] ++ [txt s] ++ [.int .i64 j] ++ [.int .i64 (Lib.indexByte [9, 10, 13, 32] c)]) (.sidx (.atom 3) (.atom 4)) = .int .u8 (c.toNat : Int) := ev_sidx (s := s) (k := j) rfl rfl hc
      have e59 : ((c.toNat : Int) = 59) ↔ c = 59 := u8_eq_lit c 59 (by omega)
      refine ⟨fun h3 => ?_, fun h3 => ?_⟩
      · have h3' : c = 59 := by
          refine e59.1 ?_
          have : (decide (iOf (ev0 ([Value.pointer (some ⟨p, 0, none⟩)] ++ [] ++ [.int .i64 j] ++ [txt s] ++ [txt s] ++ [.int .i64 j] ++ [.int .i64 (Lib.indexByte [9, 10, 13, 32] c)]) (.sidx (.atom 3) (.atom 4))) = 59)) = true := h3
          rw [hsx] at this
          exact of_decide_eq_true this
        subst h3'
        have hdl : gapL false (s.drop j) = gapL true (s.drop (j + 1)) := by rw [hd]; simp only [gapL, if_true]
        have hcut : (⟨s.toArray⟩ : ByteArray).extract j s.length = ⟨(s.drop j).toArray⟩ := by rw [extract_txt, List.take_of_length_le (Nat.le_refl _)]
        refine den_lstr rfl hx1 (den_lat rfl hx1 ⟨fun _ => ?_, ?_⟩)
        · simp only [Chk.holds, ev0, ev, evV, List.cons_append, List.nil_append, List.getD_cons_zero, List.getD_cons_succ, List.map_cons, List.map_nil, iOf, bOf, sOf, pOf, slLen, slBase, cmpI, arI, Value.ite_bool, int_beq, int_bne, ite_band, ite_bor, txt_size]; omega
        refine den_gives [.int .i64 (Lib.indexByte (s.drop j) 10)] cb_strings_IndexByte ?_ rfl pendNil fun H2 l2 => ?_
        · have := IndexByte_gives ⟨(s.drop j).toArray⟩ 10 H1
          simp only [List.map_cons, List.map_nil, evV, ev0, ev, evV, List.cons_append, List.nil_append, List.getD_cons_zero, List.getD_cons_succ, List.map_cons, List.map_nil, iOf, bOf, sOf, pOf, slLen, slBase, cmpI, arI, Value.ite_bool, int_beq, int_bne, ite_band, ite_bor, txt_size, Int.toNat_natCast, hcut]
          exact this
        have hx2 := hx1.grow l2
        have hib : Lib.indexByte (s.drop j) 10 = if Lib.indexByte (s.drop (j + 1)) 10 == -1 then -1 else Lib.indexByte (s.drop (j + 1)) 10 + 1 := by
          rw [hd]; rfl
        have hbd := indexByte_bounds (s.drop (j + 1)) 10
        rw [List.length_drop] at hbd
        refine ⟨fun h4 => ?_, fun h4 => ?_⟩
        · simp only [ev0, ev, evV, List.cons_append, List.nil_append, List.getD_cons_zero, List.getD_cons_succ, List.map_cons, List.map_nil, iOf, bOf, sOf, pOf, slLen, slBase, cmpI, arI, Value.ite_bool, int_beq, int_bne, ite_band, ite_bor, decide_eq_true_eq] at h4
          rw [hib] at h4 ⊢
          split at h4
          · omega
          rename_i h5
          have h6 : Lib.indexByte (s.drop (j + 1)) 10 ≠ -1 := by simpa using h5
          rw [if_neg h5]
          obtain ⟨n, hn⟩ : ∃ n : Nat, Lib.indexByte (s.drop (j + 1)) 10 = (n : Int) := ⟨(Lib.indexByte (s.drop (j + 1)) 10).toNat, by omega⟩
          obtain ⟨g1, g2⟩ := gapT_some hn
          rw [List.length_drop] at g1
          have hw : IntKind.i64.wrap ((j : Int) + (Lib.indexByte (s.drop (j + 1)) 10 + 1)) = ((j + (n + 1) : Nat) : Int) := by rw [hn, w64 (by omega) (by omega)]; omega
          refine den_lat rfl hx2 (den_lput (k' := j + (n + 1)) rfl hx2 (by simp only [ev0, ev, evV, List.cons_append, List.nil_append, List.getD_cons_zero, List.getD_cons_succ, List.map_cons, List.map_nil, iOf, bOf, sOf, pOf, slLen, slBase, cmpI, arI, Value.ite_bool, int_beq, int_bne, ite_band, ite_bor, hw]) fun H3 hx3 _ => ⟨_, lookup_hit, m - (n + 1), by omega, j + (n + 1), rfl, by omega, ?_, hx3⟩)
          rw [← hg, hdl, g2, List.drop_drop]
          congr 2; omega
        · simp only [ev0, ev, evV, List.cons_append, List.nil_append, List.getD_cons_zero, List.getD_cons_succ, List.map_cons, List.map_nil, iOf, bOf, sOf, pOf, slLen, slBase, cmpI, arI, Value.ite_bool, int_beq, int_bne, ite_band, ite_bor, decide_eq_false_iff_not] at h4
          rw [hib] at h4
          have h5 : Lib.indexByte (s.drop (j + 1)) 10 < 0 := by
            split at h4
            · rename_i h6; have : Lib.indexByte (s.drop (j + 1)) 10 = -1 := by simpa using h6
              omega
            · rcases hbd with h | ⟨_, h⟩ <;> omega
          refine den_lstr rfl hx2 (den_lput (k' := s.length) rfl hx2 (by simp only [ev0, ev, evV, List.cons_append, List.nil_append, List.getD_cons_zero, List.getD_cons_succ, List.map_cons, List.map_nil, iOf, bOf, sOf, pOf, slLen, slBase, cmpI, arI, Value.ite_bool, int_beq, int_bne, ite_band, ite_bor, txt_size]) fun H3 hx3 _ => ⟨_, lookup_hit, 0, by omega, s.length, rfl, by omega, ?_, hx3⟩)
          rw [← hg, hdl, gapT_none h5, List.drop_eq_nil_of_le (Nat.le_refl _)]; rfl
      · have h3' : ¬ c = 59 := by
          intro e
          have : (decide (iOf (ev0 ([Value.pointer (some ⟨p, 0, none⟩)] ++ [] ++ [.int .i64 j] ++ [txt s] ++ [txt s] ++ [.int .i64 j] ++ [.int .i64 (Lib.indexByte [9, 10, 13, 32] c)]) (.sidx (.atom 3) (.atom 4))) = 59)) = false := h3
          rw [hsx] at this
          exact of_decide_eq_false this (e59.2 e)
        refine ⟨rfl, ?_⟩
        have : gapL false (s.drop j) = s.drop j := by rw [hd]; simp only [gapL, if_neg h3', h2, Bool.false_eq_true, if_false]
        rw [← hg, this, List.length_drop]
        rw [show s.length - (s.length - j) = j by omega]
        exact hx1
  · simp only [ev0, ev, evV, List.cons_append, List.nil_append, List.getD_cons_zero, List.getD_cons_succ, List.map_cons, List.map_nil, iOf, bOf, sOf, pOf, slLen, slBase, cmpI, arI, Value.ite_bool, int_beq, int_bne, ite_band, ite_bor, txt_size, decide_eq_false_iff_not] at h1
    refine ⟨rfl, ?_⟩
    rw [← hg, List.drop_eq_nil_of_le (by omega)]
    simp only [gapL, List.length_nil, Nat.sub_zero]
    rw [show s.length = j by omega]
    exact hx

theorem lword_gives (s : List UInt8) (k a p : Nat) (H0 H : PH) (hs : s.length ≤ 1152921504606846976) (ha : a ≤ s.length) (h : LX H0 H p s k) :
    Gives Tryz.prog n_lex_lexer__word [.pointer (some ⟨p, 0, none⟩), .int .i64 a] H (txt (wordL (s.drop a))) := by
  refine tri_lex_lexer__word [.pointer (some ⟨p, 0, none⟩), .int .i64 a] (by kernel_rfl) (by kernel_rfl) ?_
  refine ⟨fun m vs H' => ∃ n : Nat, vs = [.int .i64 (a + n : Nat)] ∧ a + n + m = s.length ∧ ((s.drop a).take n).all nameB = true ∧ PH.le H H', ⟨s.length - a, 0, rfl, by omega, by simp, PH.le_refl H⟩, ?_⟩
  rintro m vs H' _ ⟨n, rfl, hm, hall, hle⟩
  have hx := h.grow hle
  have hn1 := plus1 (a := a + n) (by omega)
  refine ⟨fun vs H2 => ∃ b : Bool, vs = [.bool b] ∧ (b = true → ∃ c, s[a + n]? = some c ∧ nameB c = true) ∧ (b = false → ∀ c, s[a + n]? = some c → nameB c = false) ∧ PH.le H H2, ?_, ?_⟩
  · rintro vs H2 _ ⟨b, rfl, h1, h2, hl2⟩
    refine ⟨fun hb => ?_, fun hb => ?_⟩
    · have hb : b = true := hb
      obtain ⟨c, hc, hcn⟩ := h1 hb
      have hlt : a + n < s.length := (List.getElem?_eq_some_iff.1 hc).1
      refine ⟨_, lookup_hit, m - 1, by omega, n + 1, ?_, by omega, ?_, hl2⟩
      · simp only [ev0, ev, evV, List.cons_append, List.nil_append, List.getD_cons_zero, List.getD_cons_succ, List.map_cons, List.map_nil, iOf, bOf, sOf, pOf, slLen, slBase, cmpI, arI, Value.ite_bool, int_beq, int_bne, ite_band, ite_bor, hn1]; rfl
      · rw [List.take_add_one, List.getElem?_drop, hc, List.all_append, hall]
        simp [hcn]
    · have hb : b = false := hb
      refine den_lsome rfl (den_lstr rfl (h.grow hl2) ⟨fun _ => ?_, ?_, hl2⟩)
      · simp only [Chk.holds, ev0, ev, evV, List.cons_append, List.nil_append, List.getD_cons_zero, List.getD_cons_succ, List.map_cons, List.map_nil, iOf, bOf, sOf, pOf, slLen, slBase, cmpI, arI, Value.ite_bool, int_beq, int_bne, ite_band, ite_bor, txt_size]; omega
      rw [wordL_at hall (by simp; omega) (fun c hc => h2 hb c (by rw [List.getElem?_drop] at hc; exact hc))]
      simp only [ev0, ev, evV, List.cons_append, List.nil_append, List.getD_cons_zero, List.getD_cons_succ, List.map_cons, List.map_nil, iOf, bOf, sOf, pOf, slLen, slBase, cmpI, arI, Value.ite_bool, int_beq, int_bne, ite_band, ite_bor, Int.toNat_natCast]
      rw [extract_txt, List.take_drop, List.drop_take]
  · refine den_lsome rfl (den_lstr rfl hx ⟨fun h5 => ?_, fun h5 => ?_⟩)
    · simp only [ev0, ev, evV, List.cons_append, List.nil_append, List.getD_cons_zero, List.getD_cons_succ, List.map_cons, List.map_nil, iOf, bOf, sOf, pOf, slLen, slBase, cmpI, arI, Value.ite_bool, int_beq, int_bne, ite_band, ite_bor, txt_size, decide_eq_true_eq] at h5
      obtain ⟨c, hc⟩ : ∃ c, s[a + n]? = some c := ⟨_, List.getElem?_eq_getElem (by omega)⟩
      refine den_lstr rfl hx ⟨fun _ => inStr_of rfl rfl (by omega), ?_⟩
      refine den_gives [.bool (nameB c)] cb_lex_nameByte ?_ rfl pendNil fun H3 h3 => ⟨_, lookup_hit, nameB c, rfl, fun hb => ⟨c, hc, hb⟩, fun hb c' hc' => ?_, PH.le_trans hle h3⟩
      · have := nameByte_gives c H'
        simp only [List.map_cons, List.map_nil, evV]
        rw [ev_sidx (s := s) (k := a + n) rfl rfl hc]
        exact this
      · rw [hc] at hc'; cases hc'; exact hb
    · simp only [ev0, ev, evV, List.cons_append, List.nil_append, List.getD_cons_zero, List.getD_cons_succ, List.map_cons, List.map_nil, iOf, bOf, sOf, pOf, slLen, slBase, cmpI, arI, Value.ite_bool, int_beq, int_bne, ite_band, ite_bor, txt_size, decide_eq_false_iff_not] at h5
      refine ⟨_, lookup_hit, false, rfl, (fun hb => by cases hb), fun _ c hc => ?_, hle⟩
      have := (List.getElem?_eq_some_iff.1 hc).1
      omega
end Go.Proofs.YtlnmmakbgldflaaGreatDoor.Vc
/-
  SIGN: the program's lexer: digits of base sixteen, by strconv.ParseUint.
-/
namespace Go.Proofs.YtlnmmakbgldflaaGreatDoor.Vc
open Go

/-- an error variable of the library lies in H -/
def ErrC (H : PH) (g : Nat) : Prop := ∃ ev, H.cell? ⟨g, 0, none⟩ = some ev ∧ IfaceV ev
def Errs (H : PH) : Prop := ErrC H 1 ∧ ErrC H 2
theorem ErrC.le {H H' : PH} {g : Nat} (h : ErrC H g) (hl : PH.le H H') : ErrC H' g := by
  obtain ⟨ev, h1, h2⟩ := h; exact ⟨ev, PH.cell_le hl h1, h2⟩
theorem Errs.le {H H' : PH} (h : Errs H) (hl : PH.le H H') : Errs H' := ⟨h.1.le hl, h.2.le hl⟩

def lowI (c : UInt8) : Int := arI .or .u8 (c.toNat : Int) 32
theorem lower_gives (c : UInt8) (H : PH) : Gives Tryz.prog n_internal_strconv_lower [.int .u8 c.toNat] H (.int .u8 (lowI c)) :=
  tri_internal_strconv_lower [.int .u8 c.toNat] (by kernel_rfl) (by kernel_rfl) ⟨rfl, PH.le_refl H⟩

/-- what a byte is to base sixteen, as the library counts -/
def hexD (c : UInt8) : Int := if 48 ≤ (c.toNat : Int) ∧ (c.toNat : Int) ≤ 57 then IntKind.u8.wrap ((c.toNat : Int) - 48) else if 97 ≤ lowI c ∧ lowI c ≤ 122 then IntKind.u8.wrap (IntKind.u8.wrap (lowI c - 97) + 10) else 255
def hexChk (c : UInt8) : Bool := decide (0 ≤ hexD c) && decide (hexD c ≤ 255) && (if 16 ≤ hexD c then decide (sixtI c = -1) else decide (sixtI c = hexD c))
theorem hexAll : ((List.range 256).all fun n => hexChk (UInt8.ofNat n)) = true := by kernel_rfl
theorem hexD_spec (c : UInt8) : 0 ≤ hexD c ∧ hexD c ≤ 255 ∧ (16 ≤ hexD c → sixtI c = -1) ∧ (hexD c < 16 → sixtI c = hexD c) := by
  have h := List.all_eq_true.1 hexAll c.toNat (List.mem_range.2 c.toNat_lt)
  rw [UInt8.ofNat_toNat] at h
  simp only [hexChk, Bool.and_eq_true, decide_eq_true_eq] at h
  obtain ⟨⟨h1, h2⟩, h3⟩ := h
  refine ⟨h1, h2, fun h => ?_, fun h => ?_⟩
  · rw [if_pos h] at h3; exact of_decide_eq_true h3
  · rw [if_neg (by omega)] at h3; exact of_decide_eq_true h3

def PU (c : UInt8) (H : PH) (e : Ending) (H' : PH) : Prop := ∃ (v : Int) (x : Value), e = .returned (.tuple #[.int .u64 v, x]) ∧ ((sixtI c < 0 ∧ x = .iface 126 (.int .i64 2)) ∨ (sixtI c = v ∧ 0 ≤ v ∧ x = .nilIface)) ∧ PH.le H H'
theorem PUint0_tri (c : UInt8) (H : PH) : Tri Tryz.prog n_internal_strconv_ParseUint #[txt [c], .int .i64 16, .int .i64 8] H (PU c H) := by
  refine tri_internal_strconv_ParseUint [txt [c], .int .i64 16, .int .i64 8] (by kernel_rfl) (by kernel_rfl) ?_
  obtain ⟨d0, d1, d2, d3⟩ := hexD_spec c
  refine ⟨fun h => ?_, fun _ => ?_⟩
  · simp only [ev0, ev, evV, List.cons_append, List.nil_append, List.getD_cons_zero, List.getD_cons_succ, List.map_cons, List.map_nil, iOf, bOf, sOf, pOf, slLen, slBase, cmpI, arI, Value.ite_bool, int_beq, int_bne, ite_band, ite_bor, txt_eql] at h; simp at h
  refine ⟨fun vs H' => vs = [txt [c], .int .i64 16] ∧ PH.le H H', ?_, ?_⟩
  rotate_left
  · refine ⟨fun _ => ⟨_, lookup_hit, rfl, PH.le_refl H⟩, fun h => ?_⟩
    simp [ev0, ev, evV, List.cons_append, List.nil_append, List.getD_cons_zero, List.getD_cons_succ, List.map_cons, List.map_nil, iOf, bOf, sOf, pOf, slLen, slBase, cmpI, arI, Value.ite_bool, int_beq, int_bne, ite_band, ite_bor] at h
  rintro vs H1 _ ⟨rfl, l1⟩
  refine ⟨fun vs H' => vs = [.int .i64 8] ∧ PH.le H H', ?_, ?_⟩
  rotate_left
  · refine ⟨fun h => ?_, fun _ => ⟨fun h => ?_, fun _ => ⟨_, lookup_hit, rfl, l1⟩⟩⟩
    · simp [ev0, ev, evV, List.cons_append, List.nil_append, List.getD_cons_zero, List.getD_cons_succ, List.map_cons, List.map_nil, iOf, bOf, sOf, pOf, slLen, slBase, cmpI, arI, Value.ite_bool, int_beq, int_bne, ite_band, ite_bor] at h
    · simp [ev0, ev, evV, List.cons_append, List.nil_append, List.getD_cons_zero, List.getD_cons_succ, List.map_cons, List.map_nil, iOf, bOf, sOf, pOf, slLen, slBase, cmpI, arI, Value.ite_bool, int_beq, int_bne, ite_band, ite_bor] at h
  rintro vs H2 _ ⟨rfl, l2⟩
  refine ⟨fun vs H' => vs = [.int .u64 1152921504606846976] ∧ PH.le H H', ?_, ?_⟩
  rotate_left
  · refine ⟨fun h => ?_, fun _ => ⟨fun _ => ⟨_, lookup_hit, rfl, l2⟩, fun h => ?_⟩⟩
    · simp [ev0, ev, evV, List.cons_append, List.nil_append, List.getD_cons_zero, List.getD_cons_succ, List.map_cons, List.map_nil, iOf, bOf, sOf, pOf, slLen, slBase, cmpI, arI, Value.ite_bool, int_beq, int_bne, ite_band, ite_bor] at h
    · simp [ev0, ev, evV, List.cons_append, List.nil_append, List.getD_cons_zero, List.getD_cons_succ, List.map_cons, List.map_nil, iOf, bOf, sOf, pOf, slLen, slBase, cmpI, arI, Value.ite_bool, int_beq, int_bne, ite_band, ite_bor] at h
  rintro vs H3 _ ⟨rfl, l3⟩
  show wpS _ (execOp _ _) _ _ _
  rw [exec_convert]
  refine wpS_toBytes uString uBytes uByte (l := [c]) (by simp [maxLen]) fun r cap H4 hr l4 hc1 hc2 hcell => ⟨[_], rfl, rfl, pendNil, ?_⟩
  have hcell0 : ∀ {H'}, PH.le H4 H' → rowAt H' (some ⟨r, 0, none⟩) [.int .u8 (c.toNat : Int)] := fun {H'} hl => ⟨_, rfl, fun i v hi => by
    cases i with
    | zero => simp at hi; subst hi; exact PH.cell_le hl (hcell 0 _ rfl)
    | succ i => simp at hi⟩
  have l34 := PH.le_trans l3 l4
  refine ⟨fun m vs H' => ∃ i n : Nat, vs = [.int .u64 0, .nilIface, .bool false, .int .u64 n, .int .i64 i] ∧ i + m = 1 ∧ (i = 0 → n = 0) ∧ (i = 1 → sixtI c = n) ∧ PH.le H H' ∧ PH.le H4 H', ⟨1, 0, 0, rfl, by omega, fun _ => rfl, (fun h => by cases h), l34, PH.le_refl _⟩, ?_⟩
  rintro m vs H5 _ ⟨i, n, rfl, him, hn0, hn1, l5, l45⟩
  refine ⟨fun h5 => ?_, fun h5 => ?_⟩
  · have hi : i = 0 := by simp [ev0, ev, evV, List.cons_append, List.nil_append, List.getD_cons_zero, List.getD_cons_succ, List.map_cons, List.map_nil, iOf, bOf, sOf, pOf, slLen, slBase, cmpI, arI, Value.ite_bool, int_beq, int_bne, ite_band, ite_bor] at h5; omega
    subst hi
    have hn := hn0 rfl
    subst hn
    refine ⟨fun vs H' => ∃ d : Nat, vs = [.bool false, .int .u64 d] ∧ sixtI c = d ∧ PH.le H H' ∧ PH.le H4 H', ?_, ?_⟩
    · rintro vs H6 _ ⟨d, rfl, hd, l6, l46⟩
      refine ⟨_, rfl, 0, by omega, 1, d, ?_, by omega, (fun h => by cases h), fun _ => hd, l6, l46⟩
      rfl
    refine ⟨fun _ => ?_, [.int .u8 (c.toNat : Int)], rfl, hcell0 l45, ?_⟩
    · simp [Chk.holds, ev0, ev, evV, List.cons_append, List.nil_append, List.getD_cons_zero, List.getD_cons_succ, List.map_cons, List.map_nil, iOf, bOf, sOf, pOf, slLen, slBase, cmpI, arI, Value.ite_bool, int_beq, int_bne, ite_band, ite_bor]
    refine ⟨fun vs H' => vs = [.int .u8 (hexD c)] ∧ hexD c ≠ 255 ∧ PH.le H H' ∧ PH.le H4 H', ?_, ?_⟩
    · rintro vs H6 _ ⟨rfl, _, l6, l46⟩
      have c16 : IntKind.u8.wrap 16 = 16 := by decide
      refine ⟨fun h6 => ?_, fun h6 => ?_⟩
      · simp only [ev0, ev, evV, List.cons_append, List.nil_append, List.getD_cons_zero, List.getD_cons_succ, List.map_cons, List.map_nil, iOf, bOf, sOf, pOf, slLen, slBase, cmpI, arI, Value.ite_bool, int_beq, int_bne, ite_band, ite_bor, c16, decide_eq_true_eq] at h6
        refine den_mkIface (kk := .i64) (by kernel_rfl) ⟨_, _, rfl, .inl ⟨?_, rfl⟩, l6⟩
        rw [d2 h6]; omega
      simp only [ev0, ev, evV, List.cons_append, List.nil_append, List.getD_cons_zero, List.getD_cons_succ, List.map_cons, List.map_nil, iOf, bOf, sOf, pOf, slLen, slBase, cmpI, arI, Value.ite_bool, int_beq, int_bne, ite_band, ite_bor, c16, decide_eq_false_iff_not] at h6
      have hs := d3 (by omega)
      refine ⟨fun h7 => ?_, fun h7 => ?_⟩
      · simp [ev0, ev, evV, List.cons_append, List.nil_append, List.getD_cons_zero, List.getD_cons_succ, List.map_cons, List.map_nil, iOf, bOf, sOf, pOf, slLen, slBase, cmpI, arI, Value.ite_bool, int_beq, int_bne, ite_band, ite_bor] at h7
      have cu64 : IntKind.u64.wrap 16 = 16 := by decide
      have chd : IntKind.u64.wrap (hexD c) = hexD c := by
        simp only [IntKind.wrap, IntKind.bits, IntKind.signed]; simp; omega
      have csum : IntKind.u64.wrap (IntKind.u64.wrap (0 * 16) + hexD c) = hexD c := by
        have : IntKind.u64.wrap (0 * 16) = 0 := by decide
        rw [this, Int.zero_add, chd]
      have c0 : IntKind.u64.wrap (0 * 16) = 0 := by decide
      have cmax : IntKind.u64.wrap (IntKind.u64.wrap (1 * 2 ^ (min (IntKind.u64.wrap 8).toNat IntKind.u64.bits)) - 1) = 255 := by kernel_rfl
      refine ⟨fun h8 => ?_, fun h8 => ?_⟩
      · exfalso
        simp only [ev0, ev, evV, List.cons_append, List.nil_append, List.getD_cons_zero, List.getD_cons_succ, List.map_cons, List.map_nil, iOf, bOf, sOf, pOf, slLen, slBase, cmpI, arI, Value.ite_bool, int_beq, int_bne, ite_band, ite_bor, cu64, chd, csum, c0, cmax, Int.natCast_zero] at h8
        simp at h8; omega
      refine ⟨_, rfl, (hexD c).toNat, ?_, by rw [hs]; omega, l6, l46⟩
      simp only [ev0, ev, evV, List.cons_append, List.nil_append, List.getD_cons_zero, List.getD_cons_succ, List.map_cons, List.map_nil, iOf, bOf, sOf, pOf, slLen, slBase, cmpI, arI, Value.ite_bool, int_beq, int_bne, ite_band, ite_bor, cu64, chd, csum, Int.natCast_zero]
      rw [Int.toNat_of_nonneg d0]
    refine ⟨fun h6 => ?_, fun h6 => ?_⟩
    · simp [ev0, ev, evV, List.cons_append, List.nil_append, List.getD_cons_zero, List.getD_cons_succ, List.map_cons, List.map_nil, iOf, bOf, sOf, pOf, slLen, slBase, cmpI, arI, Value.ite_bool, int_beq, int_bne, ite_band, ite_bor] at h6
    refine ⟨fun h7 => ?_, fun h7 => ?_⟩
    · simp only [ev0, ev, evV, List.cons_append, List.nil_append, List.getD_cons_zero, List.getD_cons_succ, List.map_cons, List.map_nil, iOf, bOf, sOf, pOf, slLen, slBase, cmpI, arI, Value.ite_bool, int_beq, int_bne, ite_band, ite_bor] at h7
      simp only [Bool.and_eq_true, decide_eq_true_eq] at h7
      have hx : hexD c = IntKind.u8.wrap ((c.toNat : Int) - 48) := by unfold hexD; rw [if_pos (by simpa using h7)]
      refine ⟨_, lookup_hit, ?_, ?_, l5, l45⟩
      · simp only [ev0, ev, evV, List.cons_append, List.nil_append, List.getD_cons_zero, List.getD_cons_succ, List.map_cons, List.map_nil, iOf, bOf, sOf, pOf, slLen, slBase, cmpI, arI, Value.ite_bool, int_beq, int_bne, ite_band, ite_bor, hx]
      · rw [hx, wu8 (by omega) (by omega)]; omega
    · simp only [ev0, ev, evV, List.cons_append, List.nil_append, List.getD_cons_zero, List.getD_cons_succ, List.map_cons, List.map_nil, iOf, bOf, sOf, pOf, slLen, slBase, cmpI, arI, Value.ite_bool, int_beq, int_bne, ite_band, ite_bor] at h7
      have h7' : ¬ (48 ≤ (c.toNat : Int) ∧ (c.toNat : Int) ≤ 57) := fun ⟨a, b⟩ => by simp [a, b] at h7
      refine ⟨fun vs H' => vs = [.bool (decide (97 ≤ lowI c) && decide (lowI c ≤ 122))] ∧ PH.le H H' ∧ PH.le H4 H', ?_, ?_⟩
      · rintro vs H6 _ ⟨rfl, l6, l46⟩
        refine ⟨fun h8 => ?_, fun h8 => ?_⟩
        · have h8 : (decide (97 ≤ lowI c) && decide (lowI c ≤ 122)) = true := h8
          simp only [Bool.and_eq_true, decide_eq_true_eq] at h8
          refine den_gives [.int .u8 (lowI c)] cb_internal_strconv_lower (lower_gives c H6) rfl pendNil fun H7 l7 => ⟨_, rfl, ?_, ?_, PH.le_trans l6 l7, PH.le_trans l46 l7⟩
          · have hx : hexD c = IntKind.u8.wrap (IntKind.u8.wrap (lowI c - 97) + 10) := by unfold hexD; rw [if_neg h7', if_pos h8]
            simp only [ev0, ev, evV, List.cons_append, List.nil_append, List.getD_cons_zero, List.getD_cons_succ, List.map_cons, List.map_nil, iOf, bOf, sOf, pOf, slLen, slBase, cmpI, arI, Value.ite_bool, int_beq, int_bne, ite_band, ite_bor, hx]
          · have hx : hexD c = IntKind.u8.wrap (IntKind.u8.wrap (lowI c - 97) + 10) := by unfold hexD; rw [if_neg h7', if_pos h8]
            rw [hx, wu8 (n := lowI c - 97) (by omega) (by omega), wu8 (by omega) (by omega)]; omega
        · have h8 : (decide (97 ≤ lowI c) && decide (lowI c ≤ 122)) = false := h8
          have hx : hexD c = 255 := by unfold hexD; rw [if_neg h7', if_neg (fun ⟨a, b⟩ => by simp [a, b] at h8)]
          refine den_mkIface (kk := .i64) (by kernel_rfl) ⟨_, _, rfl, .inl ⟨?_, rfl⟩, l6⟩
          rw [d2 (by omega)]; omega
      · refine den_gives [.int .u8 (lowI c)] cb_internal_strconv_lower (lower_gives c H5) rfl pendNil fun H7 l7 => ⟨fun h8 => ?_, fun h8 => ?_⟩
        · simp only [ev0, ev, evV, List.cons_append, List.nil_append, List.getD_cons_zero, List.getD_cons_succ, List.map_cons, List.map_nil, iOf, bOf, sOf, pOf, slLen, slBase, cmpI, arI, Value.ite_bool, int_beq, int_bne, ite_band, ite_bor] at h8
          refine den_gives [.int .u8 (lowI c)] cb_internal_strconv_lower (lower_gives c H7) rfl pendNil fun H8 l8 => ⟨_, lookup_hit, ?_, PH.le_trans l5 (PH.le_trans l7 l8), PH.le_trans l45 (PH.le_trans l7 l8)⟩
          simp only [ev0, ev, evV, List.cons_append, List.nil_append, List.getD_cons_zero, List.getD_cons_succ, List.map_cons, List.map_nil, iOf, bOf, sOf, pOf, slLen, slBase, cmpI, arI, Value.ite_bool, int_beq, int_bne, ite_band, ite_bor, h8, Bool.true_and]
        · simp only [ev0, ev, evV, List.cons_append, List.nil_append, List.getD_cons_zero, List.getD_cons_succ, List.map_cons, List.map_nil, iOf, bOf, sOf, pOf, slLen, slBase, cmpI, arI, Value.ite_bool, int_beq, int_bne, ite_band, ite_bor] at h8
          refine ⟨_, lookup_hit, ?_, PH.le_trans l5 l7, PH.le_trans l45 l7⟩
          simp only [ev0, ev, evV, List.cons_append, List.nil_append, List.getD_cons_zero, List.getD_cons_succ, List.map_cons, List.map_nil, iOf, bOf, sOf, pOf, slLen, slBase, cmpI, arI, Value.ite_bool, int_beq, int_bne, ite_band, ite_bor, h8, Bool.false_and]
  · have hi : i = 1 := by simp [ev0, ev, evV, List.cons_append, List.nil_append, List.getD_cons_zero, List.getD_cons_succ, List.map_cons, List.map_nil, iOf, bOf, sOf, pOf, slLen, slBase, cmpI, arI, Value.ite_bool, int_beq, int_bne, ite_band, ite_bor] at h5; omega
    subst hi
    refine ⟨fun vs H' => vs = [.bool false] ∧ PH.le H H', ?_, ?_⟩
    · rintro vs H6 _ ⟨rfl, l6⟩
      refine ⟨fun h6 => (by cases h6), fun _ => ⟨_, _, rfl, .inr ⟨hn1 rfl, by omega, rfl⟩, l6⟩⟩
    · refine ⟨fun h6 => (by cases h6), fun _ => ⟨_, lookup_hit, rfl, l5⟩⟩
end Go.Proofs.YtlnmmakbgldflaaGreatDoor.Vc
/-
  SIGN: the program's lexer: a digit, two, the character that is called so, what stands behind a backslash.
-/
namespace Go.Proofs.YtlnmmakbgldflaaGreatDoor.Vc
open Go

theorem toErr_tri (fn s : List UInt8) (base bits : Int) (H : PH) (hE : Errs H) (hs : s.length ≤ 1099511627776) :
    Tri Tryz.prog 96 #[txt fn, txt s, .int .i64 base, .int .i64 bits, .iface 126 (.int .i64 2)] H fun e H' => (∃ T u, e = .returned (.iface T u)) ∧ PH.le H H' := by
  obtain ⟨ev, h1, h2⟩ := hE.1
  refine Tri.ofBelow (args := [txt fn, txt s, .int .i64 base, .int .i64 bits, .iface 126 (.int .i64 2)]) fun w hv => ?_
  exact (Tryz.strconv_toError_syntax ⟨fn.toArray⟩ ⟨s.toArray⟩ base bits ev w (by rw [txt_size]; omega) (hv.cell h1) h2).mono fun e w' ⟨N, g1, _, _, g2⟩ => ⟨⟨_, _, g1⟩, g2⟩

theorem PUint_tri (c : UInt8) (H : PH) (hE : Errs H) : Tri Tryz.prog n_strconv_ParseUint #[txt [c], .int .i64 16, .int .i64 8] H fun e H' => ∃ (v : Int) (x : Value), e = .returned (.tuple #[.int .u64 v, x]) ∧ ((sixtI c < 0 ∧ ∃ T u, x = .iface T u) ∨ (sixtI c = v ∧ 0 ≤ v ∧ x = .nilIface)) ∧ PH.le H H' := by
  refine tri_strconv_ParseUint [txt [c], .int .i64 16, .int .i64 8] (by kernel_rfl) (by kernel_rfl) ?_
  refine den_call cb_internal_strconv_ParseUint (PUint0_tri c H) ?_
  rintro e H1 ⟨v, x, rfl, hx, l1⟩
  have hxx : x = .iface 126 (.int .i64 2) ∨ x = .nilIface := hx.elim (fun h => .inl h.2) fun h => .inr h.2.2
  refine ⟨_, [.int .u64 v, x], rfl, by rcases hxx with rfl | rfl <;> rfl, rfl, pendNil, ?_⟩
  refine den_neqNil (v := x) Tryz.underlying104 rfl (by rcases hxx with rfl | rfl <;> first | exact .inr ⟨_, _, rfl⟩ | exact .inl rfl) ?_
  rcases hx with ⟨hs, rfl⟩ | ⟨hs, h0, rfl⟩
  · refine ⟨fun _ => ?_, fun h => absurd h (by simp [ev0, ev, evV, List.cons_append, List.nil_append, List.getD_cons_zero, List.getD_cons_succ, List.map_cons, List.map_nil, iOf, bOf, sOf, pOf, slLen, slBase, cmpI, arI, Value.ite_bool, isNilI])⟩
    refine den_call (by kernel_rfl) (toErr_tri [80, 97, 114, 115, 101, 85, 105, 110, 116] [c] 16 8 H1 (hE.le l1) (by simp)) ?_
    rintro e H2 ⟨⟨T, u, rfl⟩, l2⟩
    exact ⟨_, [.iface T u], rfl, rfl, rfl, pendNil, _, _, rfl, .inl ⟨hs, T, u, rfl⟩, PH.le_trans l1 l2⟩
  · refine ⟨fun h => absurd h (by simp [ev0, ev, evV, List.cons_append, List.nil_append, List.getD_cons_zero, List.getD_cons_succ, List.map_cons, List.map_nil, iOf, bOf, sOf, pOf, slLen, slBase, cmpI, arI, Value.ite_bool, isNilI]), fun _ => ?_⟩
    exact ⟨_, _, rfl, .inr ⟨hs, h0, rfl⟩, l1⟩

theorem digit_gives (c : UInt8) (H : PH) (hE : Errs H) : Gives Tryz.prog n_lex_digit [.int .u8 c.toNat] H (.int .i64 (sixtI c)) := by
  refine tri_lex_digit [.int .u8 c.toNat] (by kernel_rfl) (by kernel_rfl) ?_
  refine byteText (c := c) rfl fun r hr => ⟨[_], rfl, rfl, pendNil, ?_⟩
  show wpS _ (execOp _ _) _ _ _
  rw [exec_convert]
  have hle : PH.le H (H.upd r (.cells #[.int .u8 (c.toNat : Int)] 5)) := PH.le_upd hr
  refine wpS_toText (l := [c]) uBytes uString uByte (fun j u hu => ?_) ⟨[_], rfl, rfl, pendNil, ?_⟩
  · rw [Addr.add_plain, PH.cell_at PH.upd_same]
    cases j with
    | zero => simpa using hu
    | succ j => simp at hu
  refine den_call cb_strconv_ParseUint (PUint_tri c _ (hE.le hle)) ?_
  rintro e H1 ⟨v, x, rfl, hx, l1⟩
  have hxx : (∃ T u, x = .iface T u) ∨ x = .nilIface := hx.elim (fun h => .inl h.2) fun h => .inr h.2.2
  refine ⟨_, [.int .u64 v, x], rfl, by rcases hxx with ⟨T, u, rfl⟩ | rfl <;> rfl, rfl, pendNil, ?_⟩
  refine den_neqNil (v := x) Tryz.underlying104 rfl (by rcases hxx with ⟨T, u, rfl⟩ | rfl <;> first | exact .inr ⟨_, _, rfl⟩ | exact .inl rfl) ?_
  have hle2 := PH.le_trans hle l1
  have hb := sixtI_le c
  rcases hx with ⟨hs, T, u, rfl⟩ | ⟨hs, h0, rfl⟩
  · refine ⟨fun _ => ⟨?_, hle2⟩, fun h => absurd h (by simp [ev0, ev, evV, List.cons_append, List.nil_append, List.getD_cons_zero, List.getD_cons_succ, List.map_cons, List.map_nil, iOf, bOf, sOf, pOf, slLen, slBase, cmpI, arI, Value.ite_bool, isNilI])⟩
    have : sixtI c = -1 := by omega
    simp only [ev0, ev, evV, List.cons_append, List.nil_append, List.getD_cons_zero, List.getD_cons_succ, List.map_cons, List.map_nil, iOf, bOf, sOf, pOf, slLen, slBase, cmpI, arI, Value.ite_bool, this]
  · refine ⟨fun h => absurd h (by simp [ev0, ev, evV, List.cons_append, List.nil_append, List.getD_cons_zero, List.getD_cons_succ, List.map_cons, List.map_nil, iOf, bOf, sOf, pOf, slLen, slBase, cmpI, arI, Value.ite_bool, isNilI]), fun _ => ⟨?_, hle2⟩⟩
    simp only [ev0, ev, evV, List.cons_append, List.nil_append, List.getD_cons_zero, List.getD_cons_succ, List.map_cons, List.map_nil, iOf, bOf, sOf, pOf, slLen, slBase, cmpI, arI, Value.ite_bool]
    rw [w64 (by omega) (by omega), hs]

theorem shlAll : ((List.range 16).all fun a => (List.range 16).all fun b => decide (arI .or .i64 (arI .shl .i64 (a : Int) 4) (b : Int) = 16 * (a : Int) + (b : Int))) = true := by kernel_rfl
theorem shl_or {a b : Int} (ha : 0 ≤ a) (ha' : a ≤ 15) (hb : 0 ≤ b) (hb' : b ≤ 15) : arI .or .i64 (arI .shl .i64 a 4) b = 16 * a + b := by
  have h := List.all_eq_true.1 shlAll a.toNat (List.mem_range.2 (by omega))
  have h2 := of_decide_eq_true (List.all_eq_true.1 h b.toNat (List.mem_range.2 (by omega)))
  rw [Int.toNat_of_nonneg ha, Int.toNat_of_nonneg hb] at h2
  exact h2
theorem ltwo_gives (s : List UInt8) (hs : s.length ≤ 1152921504606846976) (H : PH) (hE : Errs H) : Gives Tryz.prog n_lex_two [txt s] H (.int .i64 (twoI s)) := by
  refine tri_lex_two [txt s] (by kernel_rfl) (by kernel_rfl) ?_
  refine ⟨fun h => ?_, fun h => ?_⟩
  · simp only [ev0, ev, evV, List.cons_append, List.nil_append, List.getD_cons_zero, List.getD_cons_succ, List.map_cons, List.map_nil, iOf, bOf, sOf, pOf, slLen, slBase, cmpI, arI, Value.ite_bool, int_beq, int_bne, ite_band, ite_bor, txt_size, decide_eq_true_eq] at h
    refine ⟨?_, PH.le_refl H⟩
    have : twoI s = -1 := by
      match s, h with
      | [], _ => rfl
      | [a], _ => rfl
      | a :: b :: r, h => simp only [List.length_cons] at h; omega
    rw [this]; rfl
  simp only [ev0, ev, evV, List.cons_append, List.nil_append, List.getD_cons_zero, List.getD_cons_succ, List.map_cons, List.map_nil, iOf, bOf, sOf, pOf, slLen, slBase, cmpI, arI, Value.ite_bool, int_beq, int_bne, ite_band, ite_bor, txt_size, decide_eq_false_iff_not] at h
  match s, h, hs with
  | [], h, _ => simp at h
  | [a], h, _ => simp at h
  | a :: b :: r, h, hs =>
    refine ⟨fun _ => inStr_of (k := 0) rfl rfl (by simp), fun _ => inStr_of (k := 1) rfl rfl (by simp), ?_⟩
    refine den_gives [.int .i64 (sixtI a)] cb_lex_digit ?_ rfl pendNil fun H1 l1 => ?_
    · have := digit_gives a H hE
      simp only [List.map_cons, List.map_nil, evV]
      rw [ev_sidx (s := a :: b :: r) (k := 0) (c := a) rfl rfl rfl]
      exact this
    refine den_gives [.int .i64 (sixtI b)] cb_lex_digit ?_ rfl pendNil fun H2 l2 => ?_
    · have := digit_gives b H1 (hE.le l1)
      simp only [List.map_cons, List.map_nil, evV]
      rw [ev_sidx (s := a :: b :: r) (k := 1) (c := b) rfl rfl rfl]
      exact this
    have la := sixtI_le a
    have lb := sixtI_le b
    refine ⟨fun h3 => ⟨?_, PH.le_trans l1 l2⟩, fun h3 => ⟨?_, PH.le_trans l1 l2⟩⟩
    · simp only [ev0, ev, evV, List.cons_append, List.nil_append, List.getD_cons_zero, List.getD_cons_succ, List.map_cons, List.map_nil, iOf, bOf, sOf, pOf, slLen, slBase, cmpI, arI, Value.ite_bool, int_beq, int_bne, ite_band, ite_bor] at h3
      simp only [Bool.or_eq_true, decide_eq_true_eq] at h3
      simp only [ev0, ev, evV, List.cons_append, List.nil_append, List.getD_cons_zero, List.getD_cons_succ, List.map_cons, List.map_nil, iOf, bOf, sOf, pOf, slLen, slBase, cmpI, arI, Value.ite_bool, twoI, if_pos h3]
    · simp only [ev0, ev, evV, List.cons_append, List.nil_append, List.getD_cons_zero, List.getD_cons_succ, List.map_cons, List.map_nil, iOf, bOf, sOf, pOf, slLen, slBase, cmpI, arI, Value.ite_bool, int_beq, int_bne, ite_band, ite_bor] at h3
      simp only [Bool.or_eq_false_iff, decide_eq_false_iff_not] at h3
      have h4 : ¬ (sixtI a < 0 ∨ sixtI b < 0) := by omega
      have := shl_or (a := sixtI a) (b := sixtI b) (by omega) (by omega) (by omega) (by omega)
      show Ending.returned (.int .i64 (arI .or .i64 (arI .shl .i64 (sixtI a) 4) (sixtI b))) = _
      rw [this]
      simp only [twoI, if_neg h4]

theorem drop1 (s : List UInt8) : (⟨s.toArray⟩ : ByteArray).extract 1 s.length = ⟨(s.drop 1).toArray⟩ := by rw [extract_txt, List.take_of_length_le (Nat.le_refl _)]
theorem lchar_gives (s : List UInt8) (hs : s.length ≤ 1152921504606846976) (H : PH) (hE : Errs H) : Gives Tryz.prog n_lex_char [txt s] H (.int .i64 (charI s)) := by
  refine tri_lex_char [txt s] (by kernel_rfl) (by kernel_rfl) ?_
  rw [charI_eq]
  refine ⟨fun h1 => ?_, fun h1 => ?_⟩
  · simp only [ev0, ev, evV, List.cons_append, List.nil_append, List.getD_cons_zero, List.getD_cons_succ, List.map_cons, List.map_nil, iOf, bOf, sOf, pOf, slLen, slBase, cmpI, arI, Value.ite_bool, int_beq, int_bne, ite_band, ite_bor, txt_size] at h1
    have h1' : s.length = 1 := by simp at h1; omega
    rw [if_pos h1']
    match s, h1' with
    | [c], _ =>
      refine ⟨fun _ => inStr_of (k := 0) rfl rfl (by simp), ?_, PH.le_refl H⟩
      show Ending.returned (.int .i64 (IntKind.i64.wrap (iOf (ev [txt [c]] (fun _ => 0) (.sidx (.atom 0) (.int .i64 0)))))) = _
      rw [ev_sidx (s := [c]) (k := 0) (c := c) rfl rfl rfl]
      have := c.toNat_lt
      simp only [iOf, List.getD_cons_zero]
      rw [w64 (by omega) (by omega)]
  simp only [ev0, ev, evV, List.cons_append, List.nil_append, List.getD_cons_zero, List.getD_cons_succ, List.map_cons, List.map_nil, iOf, bOf, sOf, pOf, slLen, slBase, cmpI, arI, Value.ite_bool, int_beq, int_bne, ite_band, ite_bor, txt_size] at h1
  have h1' : ¬ s.length = 1 := fun h => by rw [h] at h1; simp at h1
  rw [if_neg h1']
  refine ⟨fun h2 => ?_, fun h2 => ?_⟩
  · simp only [ev0, ev, evV, List.cons_append, List.nil_append, List.getD_cons_zero, List.getD_cons_succ, List.map_cons, List.map_nil, iOf, bOf, sOf, pOf, slLen, slBase, cmpI, arI, Value.ite_bool, int_beq, int_bne, ite_band, ite_bor, txt_eql, decide_eq_true_eq] at h2
    rw [if_pos h2]; exact ⟨rfl, PH.le_refl H⟩
  simp only [ev0, ev, evV, List.cons_append, List.nil_append, List.getD_cons_zero, List.getD_cons_succ, List.map_cons, List.map_nil, iOf, bOf, sOf, pOf, slLen, slBase, cmpI, arI, Value.ite_bool, int_beq, int_bne, ite_band, ite_bor, txt_eql, decide_eq_false_iff_not] at h2
  rw [if_neg h2]
  refine ⟨fun h3 => ?_, fun h3 => ?_⟩
  · simp only [ev0, ev, evV, List.cons_append, List.nil_append, List.getD_cons_zero, List.getD_cons_succ, List.map_cons, List.map_nil, iOf, bOf, sOf, pOf, slLen, slBase, cmpI, arI, Value.ite_bool, int_beq, int_bne, ite_band, ite_bor, txt_eql, decide_eq_true_eq] at h3
    rw [if_pos h3]; exact ⟨rfl, PH.le_refl H⟩
  simp only [ev0, ev, evV, List.cons_append, List.nil_append, List.getD_cons_zero, List.getD_cons_succ, List.map_cons, List.map_nil, iOf, bOf, sOf, pOf, slLen, slBase, cmpI, arI, Value.ite_bool, int_beq, int_bne, ite_band, ite_bor, txt_eql, decide_eq_false_iff_not] at h3
  rw [if_neg h3]
  by_cases h4 : s.length = 3
  · match s, h4, hs with
    | [a, b, c], _, hs =>
      have hsx : ev [txt [a, b, c]] (fun _ => 0) (.sidx (.atom 0) (.int .i64 0)) = .int .u8 (a.toNat : Int) := ev_sidx (s := [a, b, c]) (k := 0) rfl rfl rfl
      have e120 : ((a.toNat : Int) = 120) ↔ a = 120 := u8_eq_lit a 120 (by omega)
      have hcond : bOf (ev0 [txt [a, b, c]] (.pick (.cmp .eql (.slen (.atom 0)) (.int .i64 3)) (.cmp .eql (.sidx (.atom 0) (.int .i64 0)) (.int .u8 120)) (.bool false))) = decide (a = 120) := by
        show bOf (if bOf (.bool ((3 : Int) == 3)) = true then .bool (iOf (ev [txt [a, b, c]] (fun _ => 0) (.sidx (.atom 0) (.int .i64 0))) == 120) else .bool false) = _
        rw [hsx]
        have : ((a.toNat : Int) == 120) = decide (a = 120) := by
          rw [Bool.eq_iff_iff, beq_iff_eq, decide_eq_true_eq]; exact e120
        simp only [iOf, this]
        rfl
      refine ⟨fun _ => inStr_of (k := 0) rfl rfl (by simp), fun h5 => ?_, fun h5 => ?_⟩
      · rw [hcond] at h5
        have h5 := of_decide_eq_true h5
        subst h5
        rw [if_pos ⟨rfl, rfl⟩]
        refine ⟨fun _ => by simp [Chk.holds, ev0, ev, evV, List.cons_append, List.nil_append, List.getD_cons_zero, List.getD_cons_succ, List.map_cons, List.map_nil, iOf, bOf, sOf, pOf, slLen, slBase, cmpI, arI, Value.ite_bool, int_beq, int_bne, ite_band, ite_bor, txt_size], ?_⟩
        refine den_gives [.int .i64 (twoI [b, c])] cb_lex_two ?_ rfl pendNil fun H1 l1 => ⟨rfl, l1⟩
        have := ltwo_gives [b, c] (by simp) H hE
        have hc : (⟨#[120, b, c]⟩ : ByteArray).extract 1 3 = ⟨#[b, c]⟩ := drop1 [120, b, c]
        have hc2 : evV [txt [120, b, c]] (fun _ => 0) (.sc (.ssub (.atom 0) (.int .i64 1) (.slen (.atom 0)))) = txt [b, c] := congrArg Value.string hc
        simp only [List.map_cons, List.map_nil, hc2]
        exact this
      · rw [hcond] at h5
        have h5 := of_decide_eq_false h5
        rw [if_neg (fun h => h5 h.2)]
        exact ⟨rfl, PH.le_refl H⟩
  · rw [if_neg (fun h => h4 h.1)]
    have h4' : ((s.length : Int) == 3) = false := by simp; omega
    have hcond : bOf (ev0 [txt s] (.cmp .eql (.slen (.atom 0)) (.int .i64 3))) = false := by
      simp only [ev0, ev, evV, List.cons_append, List.nil_append, List.getD_cons_zero, List.getD_cons_succ, List.map_cons, List.map_nil, iOf, bOf, sOf, pOf, slLen, slBase, cmpI, arI, Value.ite_bool, txt_size]; exact h4'
    refine ⟨fun hg => ?_, fun h5 => ?_, fun h5 => ⟨rfl, PH.le_refl H⟩⟩
    · have := hg _ (List.mem_singleton.2 rfl)
      have : bOf (ev0 [txt s] (.cmp .eql (.slen (.atom 0)) (.int .i64 3))) = true := this
      rw [hcond] at this; cases this
    · exfalso
      have h5 : bOf (if bOf (ev0 [txt s] (.cmp .eql (.slen (.atom 0)) (.int .i64 3))) = true then _ else (.bool false)) = true := h5
      rw [hcond] at h5
      simp [bOf] at h5

def escV : Option (UInt8 × Nat) → List Value
  | none => [.int .u8 0, .int .i64 0]
  | some (b, n) => [.int .u8 (b.toNat : Int), .int .i64 n]
theorem lescape_gives (s : List UInt8) (hs : s.length ≤ 1152921504606846976) (H : PH) (hE : Errs H) : Gives Tryz.prog n_lex_escape [txt s] H (.tuple (escV (escB s)).toArray) := by
  refine tri_lex_escape [txt s] (by kernel_rfl) (by kernel_rfl) ?_
  refine ⟨fun h1 => ?_, fun h1 => ?_⟩
  · simp only [ev0, ev, evV, List.cons_append, List.nil_append, List.getD_cons_zero, List.getD_cons_succ, List.map_cons, List.map_nil, iOf, bOf, sOf, pOf, slLen, slBase, cmpI, arI, Value.ite_bool, int_beq, int_bne, ite_band, ite_bor, txt_eql, decide_eq_true_eq] at h1
    subst h1
    exact ⟨rfl, PH.le_refl H⟩
  simp only [ev0, ev, evV, List.cons_append, List.nil_append, List.getD_cons_zero, List.getD_cons_succ, List.map_cons, List.map_nil, iOf, bOf, sOf, pOf, slLen, slBase, cmpI, arI, Value.ite_bool, int_beq, int_bne, ite_band, ite_bor, txt_eql, decide_eq_false_iff_not] at h1
  match s, h1, hs with
  | [], h1, _ => exact absurd rfl h1
  | d :: r, _, hs =>
    have hsx : ∀ E : List Value, ev (txt (d :: r) :: E) (fun _ => 0) (.sidx (.atom 0) (.int .i64 0)) = .int .u8 (d.toNat : Int) := fun E => ev_sidx (s := d :: r) (k := 0) rfl rfl rfl
    have lit : ∀ n : Nat, n < 256 → ((d.toNat : Int) == (n : Int)) = decide (d = UInt8.ofNat n) := fun n hn => by
      rw [Bool.eq_iff_iff, beq_iff_eq, decide_eq_true_eq]; exact u8_eq_lit d n hn
    have q : ∀ n : Nat, n < 256 → bOf (ev0 [txt (d :: r)] (.cmp .eql (.sidx (.atom 0) (.int .i64 0)) (.int .u8 n))) = decide (d = UInt8.ofNat n) := fun n hn => by
      show (iOf (ev [txt (d :: r)] (fun _ => 0) (.sidx (.atom 0) (.int .i64 0))) == (n : Int)) = _
      rw [hsx]; exact lit n hn
    have q34 := q 34 (by omega)
    have q92 := q 92 (by omega)
    have q110 := q 110 (by omega)
    have q120 := q 120 (by omega)
    refine ⟨fun vs H' => vs = [] ∧ escB (d :: r) = none ∧ PH.le H H', ?_, ?_⟩
    · rintro vs H' _ ⟨rfl, hn, hl⟩
      rw [hn]; exact ⟨rfl, hl⟩
    refine ⟨fun _ => inStr_of (k := 0) rfl rfl (by simp), fun h2 => ?_, fun h2 => ?_⟩
    · have h2 : bOf (if bOf (ev0 [txt (d :: r)] (.cmp .eql (.sidx (.atom 0) (.int .i64 0)) (.int .u8 (34 : Nat)))) = true then ev0 [txt (d :: r)] (.cmp .eql (.sidx (.atom 0) (.int .i64 0)) (.int .u8 (34 : Nat))) else ev0 [txt (d :: r)] (.cmp .eql (.sidx (.atom 0) (.int .i64 0)) (.int .u8 (92 : Nat)))) = true := h2
      have h3 : d = 34 ∨ d = 92 := by
        by_cases e : d = 34
        · exact .inl e
        · rw [q34, if_neg (by simpa using e), q92] at h2
          exact .inr (of_decide_eq_true h2)
      refine ⟨fun _ => inStr_of (k := 0) rfl rfl (by simp), ?_, PH.le_refl H⟩
      simp only [escB, if_pos h3, escV]
      show Ending.returned (.tuple #[ev [txt (d :: r)] (fun _ => 0) (.sidx (.atom 0) (.int .i64 0)), .int .i64 1]) = _
      rw [hsx]; rfl
    have h2 : bOf (if bOf (ev0 [txt (d :: r)] (.cmp .eql (.sidx (.atom 0) (.int .i64 0)) (.int .u8 (34 : Nat)))) = true then ev0 [txt (d :: r)] (.cmp .eql (.sidx (.atom 0) (.int .i64 0)) (.int .u8 (34 : Nat))) else ev0 [txt (d :: r)] (.cmp .eql (.sidx (.atom 0) (.int .i64 0)) (.int .u8 (92 : Nat)))) = false := h2
    have n34 : ¬ d = 34 := fun e => by
      rw [if_pos (by rw [q34]; exact decide_eq_true e), q34] at h2
      exact of_decide_eq_false h2 e
    have n92 : ¬ d = 92 := fun e => by
      rw [if_neg (by rw [q34]; simpa using n34), q92] at h2
      exact of_decide_eq_false h2 e
    have hno : ¬ (d = 34 ∨ d = 92) := fun h => h.elim n34 n92
    refine ⟨fun h3 => ?_, fun h3 => ?_⟩
    · have h3 : d = 110 := of_decide_eq_true (q110.symm.trans h3)
      subst h3
      exact ⟨rfl, PH.le_refl H⟩
    have n110 : ¬ d = 110 := of_decide_eq_false (q110.symm.trans h3)
    refine ⟨fun h4 => ?_, fun h4 => ?_⟩
    · have h4 := of_decide_eq_true (q120.symm.trans h4)
      have h4 : d = 120 := h4
      subst h4
      refine ⟨fun _ => by simp only [Chk.holds, ev0, ev, evV, List.cons_append, List.nil_append, List.getD_cons_zero, List.getD_cons_succ, List.map_cons, List.map_nil, iOf, bOf, sOf, pOf, slLen, slBase, cmpI, arI, Value.ite_bool, int_beq, int_bne, ite_band, ite_bor, txt_size, List.length_cons]; omega, ?_⟩
      refine den_gives [.int .i64 (twoI r)] cb_lex_two ?_ rfl pendNil fun H1 l1 => ⟨fun h5 => ?_, fun h5 => ?_⟩
      · have := ltwo_gives r (by simp only [List.length_cons] at hs; omega) H hE
        have hc2 : evV [txt (120 :: r)] (fun _ => 0) (.sc (.ssub (.atom 0) (.int .i64 1) (.slen (.atom 0)))) = txt r := congrArg Value.string (by
          have := drop1 (120 :: r)
          show (⟨(120 :: r).toArray⟩ : ByteArray).extract 1 ((⟨(120 :: r).toArray⟩ : ByteArray).size : Int).toNat = _
          rw [txt_size, Int.toNat_natCast]; exact this)
        simp only [List.map_cons, List.map_nil, hc2]
        exact this
      · simp only [ev0, ev, evV, List.cons_append, List.nil_append, List.getD_cons_zero, List.getD_cons_succ, List.map_cons, List.map_nil, iOf, bOf, sOf, pOf, slLen, slBase, cmpI, arI, Value.ite_bool, int_beq, int_bne, ite_band, ite_bor, decide_eq_true_eq] at h5
        have hb : twoI r ≤ 255 := by
          match r with
          | [] => show (-1 : Int) ≤ 255; decide
          | [a] => show (-1 : Int) ≤ 255; decide
          | a :: b :: r =>
            have := sixtI_le a
            have := sixtI_le b
            simp only [twoI]; split <;> omega
        refine ⟨?_, l1⟩
        have he : escB (120 :: r) = some (UInt8.ofNat (twoI r).toNat, 3) := by
          simp only [escB]
          rw [if_neg hno, if_neg n110, if_pos ⟨trivial, by omega⟩]
        rw [he]
        show Ending.returned (.tuple #[.int .u8 (IntKind.u8.wrap (twoI r)), .int .i64 3]) = Ending.returned (.tuple #[.int .u8 ((UInt8.ofNat (twoI r).toNat).toNat : Int), .int .i64 3])
        rw [wu8 (by omega) (by omega), UInt8.toNat_ofNat_of_lt' (by show _ < 256; omega), Int.toNat_of_nonneg (by omega)]
      · simp only [ev0, ev, evV, List.cons_append, List.nil_append, List.getD_cons_zero, List.getD_cons_succ, List.map_cons, List.map_nil, iOf, bOf, sOf, pOf, slLen, slBase, cmpI, arI, Value.ite_bool, int_beq, int_bne, ite_band, ite_bor, decide_eq_false_iff_not] at h5
        refine ⟨_, lookup_hit, rfl, ?_, l1⟩
        simp only [escB]
        rw [if_neg hno, if_neg n110, if_neg (fun h => h5 (by omega))]
    · have n120 : ¬ d = 120 := of_decide_eq_false (q120.symm.trans h4)
      refine ⟨_, lookup_hit, rfl, ?_, PH.le_refl H⟩
      simp only [escB]
      rw [if_neg hno, if_neg n110, if_neg (fun h => n120 h.1)]
end Go.Proofs.YtlnmmakbgldflaaGreatDoor.Vc
/-
  SIGN: the program's lexer: what begins with the sign of a hash.
-/
namespace Go.Proofs.YtlnmmakbgldflaaGreatDoor.Vc
open Go

theorem LX.errs {H0 H : PH} {p k : Nat} {s : List UInt8} (h : LX H0 H p s k) (hE : Errs H0) : Errs H := hE.le (PH.le_trans h.le (PH.del_le _ _))
/-- a token ahead, as the lexer gives it -/
def One.lvs : One → List Value
  | .bad e => [.int .i64 0, txt [], .int .i64 0, .int .i64 0, .int .i64 0, .int .i64 e]
  | .tok kd x n _ => [.int .i64 kd, txt x, .int .i64 n, .int .i64 0, .int .i64 0, .int .i64 0]
def One.lv : One → Value
  | .bad e => .tuple #[.agg #[.int .i64 0, txt [], .int .i64 0, .int .i64 0, .int .i64 0], .int .i64 e]
  | .tok kd x n _ => .tuple #[.agg #[.int .i64 kd, txt x, .int .i64 n, .int .i64 0, .int .i64 0], .int .i64 0]
/-- how the lexer stands behind a token -/
def LexTo (H0 : PH) (p : Nat) (s : List UInt8) (k : Nat) (o : One) (e : Ending) (H' : PH) : Prop := ∃ j, e = .returned o.lv ∧ LX H0 H' p s j ∧ ∀ kd x n m, o = .tok kd x n m → j = k + m
theorem ev_rest {E : List Value} {s : List UInt8} {a i : SV} {k : Nat} (ha : ev E (fun _ => 0) a = txt s) (hi : iOf (ev E (fun _ => 0) i) = (k : Int)) : ev E (fun _ => 0) (.ssub a i (.slen a)) = txt (s.drop k) := by
  show Value.string ((sOf (ev E (fun _ => 0) a)).extract (iOf (ev E (fun _ => 0) i)).toNat (((sOf (ev E (fun _ => 0) a)).size : Int)).toNat) = _
  rw [ha, hi]
  simp only [sOf, txt_size, Int.toNat_natCast]
  rw [extract_txt, List.take_of_length_le (Nat.le_refl _)]
theorem ev_cut {E : List Value} {s : List UInt8} {a i j : SV} {k m : Nat} (ha : ev E (fun _ => 0) a = txt s) (hi : iOf (ev E (fun _ => 0) i) = (k : Int)) (hj : iOf (ev E (fun _ => 0) j) = (m : Int)) : ev E (fun _ => 0) (.ssub a i j) = txt ((s.take m).drop k) := by
  show Value.string ((sOf (ev E (fun _ => 0) a)).extract (iOf (ev E (fun _ => 0) i)).toNat (iOf (ev E (fun _ => 0) j)).toNat) = _
  rw [ha, hi, hj]
  simp only [sOf, Int.toNat_natCast]
  rw [extract_txt]
theorem sub_of {E : List Value} {s : List UInt8} {a i j : SV} {k m : Nat} (ha : ev E (fun _ => 0) a = txt s) (hi : iOf (ev E (fun _ => 0) i) = (k : Int)) (hj : iOf (ev E (fun _ => 0) j) = (m : Int)) (h1 : k ≤ m) (h2 : m ≤ s.length) : Chk.holds E (.sub (.slen a) i j) := by
  show 0 ≤ iOf (ev E (fun _ => 0) i) ∧ iOf (ev E (fun _ => 0) i) ≤ iOf (ev E (fun _ => 0) j) ∧ iOf (ev E (fun _ => 0) j) ≤ iOf (ev E (fun _ => 0) (.slen a))
  rw [hi, hj]
  have : iOf (ev E (fun _ => 0) (.slen a)) = (s.length : Int) := by
    show ((sOf (ev E (fun _ => 0) a)).size : Int) = _
    rw [ha]; simp only [sOf, txt_size]
  rw [this]; omega
theorem ev_slen {E : List Value} {s : List UInt8} {a : SV} (ha : ev E (fun _ => 0) a = txt s) : ev E (fun _ => 0) (.slen a) = .int .i64 (s.length : Nat) := by
  show Value.int .i64 ((sOf (ev E (fun _ => 0) a)).size : Int) = _
  rw [ha]; simp only [sOf, txt_size]

theorem cond_gt {E : List Value} {s : List UInt8} {a : SV} (ha : ev E (fun _ => 0) a = txt s) : bOf (ev0 E (.cmp .gtr (.slen a) (.int .i64 1))) = decide (1 < s.length) := by
  have h : bOf (ev0 E (.cmp .gtr (.slen a) (.int .i64 1))) = decide (iOf (ev E (fun _ => 0) (.slen a)) > 1) := rfl
  rw [h, ev_slen ha]
  show decide (((s.length : Nat) : Int) > 1) = _
  rw [decide_eq_decide]; omega
theorem cond_at {E : List Value} {s : List UInt8} {a : SV} (ha : ev E (fun _ => 0) a = txt s) : bOf (ev0 E (.pick (.cmp .gtr (.slen a) (.int .i64 1)) (.cmp .eql (.sidx a (.int .i64 0)) (.int .u8 92)) (.bool false))) = decide (1 < s.length ∧ s.getD 0 0 = 92) := by
  have h : bOf (ev0 E (.pick (.cmp .gtr (.slen a) (.int .i64 1)) (.cmp .eql (.sidx a (.int .i64 0)) (.int .u8 92)) (.bool false))) = bOf (if bOf (ev0 E (.cmp .gtr (.slen a) (.int .i64 1))) = true then .bool (iOf (ev E (fun _ => 0) (.sidx a (.int .i64 0))) == 92) else .bool false) := rfl
  rw [h, cond_gt ha]
  by_cases hl : 1 < s.length
  · obtain ⟨c, hc⟩ : ∃ c, s[0]? = some c := ⟨_, List.getElem?_eq_getElem (by omega)⟩
    rw [if_pos (decide_eq_true hl), ev_sidx (s := s) (k := 0) ha rfl hc]
    have : s.getD 0 0 = c := by simp [List.getD_eq_getElem?_getD, hc]
    rw [this]
    have e92 : ((c.toNat : Int) = 92) ↔ c = 92 := u8_eq_lit c 92 (by omega)
    simp only [bOf, iOf]
    rw [Bool.eq_iff_iff, beq_iff_eq, decide_eq_true_eq, e92]; simp [hl]
  · rw [if_neg (by simpa using hl)]
    simp [bOf, hl]

def hashW (r : List UInt8) : List UInt8 := if wordL (r.drop 1) = [] then (r.take 2).drop 1 else wordL (r.drop 1)
theorem hashL_eq (r : List UInt8) : hashL r = if Lib.hasPrefix r [40] then .tok 2 [] 0 2 else if 1 < r.length ∧ r.getD 0 0 = 92 then (if charI (hashW r) < 0 then .bad 31 else .tok 7 [] (charI (hashW r)) (2 + (hashW r).length)) else if wordL r = [116] then .tok 5 [] 1 2 else if wordL r = [102] then .tok 5 [] 0 2 else .bad 31 := by
  unfold hashL
  split
  · simp [Lib.hasPrefix]
  · rename_i c r
    have h1 : Lib.hasPrefix (92 :: c :: r) [40] = false := rfl
    have h2 : 1 < (92 :: c :: r).length ∧ (92 :: c :: r).getD 0 0 = 92 := ⟨by simp, rfl⟩
    simp only [h1, Bool.false_eq_true, if_false, if_pos h2]
    rfl
  · rename_i h1 h2
    have h3 : Lib.hasPrefix r [40] = false := by
      match r with
      | [] => rfl
      | c :: r =>
        have : c ≠ 40 := fun e => h1 r (by rw [e])
        have h4 : ((40 : UInt8) == c) = false := by simpa using Ne.symm this
        show ((40 : UInt8) == c && _) = false
        rw [h4]; rfl
    have h4 : ¬ (1 < r.length ∧ r.getD 0 0 = 92) := by
      rintro ⟨a, b⟩
      match r, a, b with
      | c :: d :: r, _, b =>
        have : c = 92 := by simpa using b
        exact h2 d r (by rw [this])
    simp only [h3, Bool.false_eq_true, if_false, if_neg h4]
theorem wordL_len1 {r w : List UInt8} (h : wordL r = w) : w.length ≤ r.length := by rw [← h]; exact wordL_le r

theorem lhash_tri (s : List UInt8) (k p : Nat) (H0 H : PH) (hs : s.length ≤ 1099511627776) (hk : k < s.length) (hE : Errs H0) (h : LX H0 H p s k) :
    Tri Tryz.prog n_lex_lexer__hash #[.pointer (some ⟨p, 0, none⟩)] H (LexTo H0 p s k (hashL (s.drop (k + 1)))) := by
  refine tri_lex_lexer__hash [.pointer (some ⟨p, 0, none⟩)] (by kernel_rfl) (by kernel_rfl) ?_
  have p1 := plus1 (a := k) (by omega)
  have p2 := plus2 (a := k) (by omega)
  refine den_lsome rfl (den_lat rfl h (den_lstr rfl h (den_lat rfl h ?_)))
  have e0 : ∀ F : List Value, ev (([Value.pointer (some ⟨p, 0, none⟩)] ++ [.int .i64 k] ++ [txt s] ++ [.int .i64 k]) ++ F) (fun _ => 0) (.ssub (.atom 2) (.ar .add .i64 (.atom 3) (.int .i64 1)) (.slen (.atom 2))) = txt (s.drop (k + 1)) := fun F => ev_rest rfl (by simp only [ev0, ev, evV, List.cons_append, List.nil_append, List.getD_cons_zero, List.getD_cons_succ, List.map_cons, List.map_nil, iOf, bOf, sOf, pOf, slLen, slBase, cmpI, arI, Value.ite_bool, int_beq, int_bne, ite_band, ite_bor, p1])
  have hlr : (s.drop (k + 1)).length = s.length - (k + 1) := List.length_drop
  refine ⟨fun _ => sub_of (k := k + 1) (m := s.length) rfl (by simp only [ev0, ev, evV, List.cons_append, List.nil_append, List.getD_cons_zero, List.getD_cons_succ, List.map_cons, List.map_nil, iOf, bOf, sOf, pOf, slLen, slBase, cmpI, arI, Value.ite_bool, int_beq, int_bne, ite_band, ite_bor, p1]) (by simp only [ev0, ev, evV, List.cons_append, List.nil_append, List.getD_cons_zero, List.getD_cons_succ, List.map_cons, List.map_nil, iOf, bOf, sOf, pOf, slLen, slBase, cmpI, arI, Value.ite_bool, int_beq, int_bne, ite_band, ite_bor, txt_size]) (by omega) (Nat.le_refl _), ?_⟩
  have hhash := hashL_eq (s.drop (k + 1))
  generalize hR : s.drop (k + 1) = R at *
  refine den_gives [.bool (Lib.hasPrefix R [40])] (by kernel_rfl) ?_ rfl pendNil fun H1 l1 => ?_
  · have h0 := e0 []
    rw [List.append_nil] at h0
    show Gives _ _ [ev _ _ (.ssub _ _ _), txt [40]] _ _
    rw [h0]
    exact Tri.ofKept fun w => Tryz.strings_HasPrefix ⟨R.toArray⟩ ⟨#[40]⟩ w
  have hx1 := h.grow l1
  refine ⟨fun h2 => ?_, fun h2 => ?_⟩
  · have h2 : Lib.hasPrefix R [40] = true := h2
    rw [if_pos h2] at hhash
    refine den_lat rfl hx1 (den_lput (k' := k + 2) rfl hx1 (by simp only [ev0, ev, evV, List.cons_append, List.nil_append, List.getD_cons_zero, List.getD_cons_succ, List.map_cons, List.map_nil, iOf, bOf, sOf, pOf, slLen, slBase, cmpI, arI, Value.ite_bool, int_beq, int_bne, ite_band, ite_bor, p2]) fun H2 hx2 _ => ⟨k + 2, ?_, hx2, ?_⟩)
    · rw [hhash]; rfl
    · intro kd x n m he
      rw [hhash] at he; cases he; rfl
  have h2 : Lib.hasPrefix R [40] = false := h2
  rw [h2, if_neg (by simp)] at hhash
  have er := e0 [.bool (Lib.hasPrefix R [40])]
  have elen := ev_slen er
  have hcond := cond_gt er
  have hcond2 := cond_at er
  refine ⟨fun hg => ?_, fun h3 => ?_, fun h3 => ?_⟩
  · have := hg _ (List.mem_singleton.2 rfl)
    have := of_decide_eq_true (hcond.symm.trans this)
    exact inStr_of (k := 0) er rfl (by omega)
  · have h3 := of_decide_eq_true (hcond2.symm.trans h3)
    rw [if_pos h3] at hhash
    have hkl : k + 2 ≤ s.length := by omega
    have hR1 : R.drop 1 = s.drop (k + 2) := by rw [← hR, List.drop_drop]
    refine den_gives [txt (wordL (s.drop (k + 2)))] cb_lex_lexer__word ?_ rfl pendNil fun H2 l2 => ?_
    · have := lword_gives s k (k + 2) p H0 H1 (by omega) hkl hx1
      show Gives _ _ [_, .int .i64 (IntKind.i64.wrap ((k : Int) + 2))] _ _
      rw [p2]
      exact this
    have hx2 := hx1.grow l2
    have hwl : (hashW R).length ≤ R.length - 1 ∧ 1 ≤ (hashW R).length := by
      unfold hashW
      split
      · simp; omega
      · rename_i hne
        have := wordL_le (R.drop 1)
        rw [List.length_drop] at this
        have := List.length_pos_iff.2 hne
        omega
    refine ⟨fun vs H' => vs = [txt (hashW R)] ∧ LX H0 H' p s k, ?_, ?_⟩
    · rintro vs H3 _ ⟨rfl, hx3⟩
      refine den_gives [.int .i64 (charI (hashW R))] cb_lex_char (lchar_gives (hashW R) (by omega) H3 (hx3.errs hE)) rfl pendNil fun H4 l4 => ?_
      have hx4 := hx3.grow l4
      refine ⟨fun h5 => ?_, fun h5 => ?_⟩
      · have h5 : charI (hashW R) < 0 := of_decide_eq_true h5
        rw [if_pos h5] at hhash
        refine ⟨k, ?_, hx4, ?_⟩
        · rw [hhash]; rfl
        · intro kd x n m he
          rw [hhash] at he; cases he
      · have h5 : ¬ charI (hashW R) < 0 := of_decide_eq_false h5
        rw [if_neg h5] at hhash
        have hw1 : IntKind.i64.wrap (2 + ((hashW R).length : Int)) = ((2 + (hashW R).length : Nat) : Int) := by rw [w64 (by omega) (by omega)]; omega
        have hw2 := plus (a := k) (b := 2 + (hashW R).length) (by omega)
        refine den_lat rfl hx4 (den_lput (k' := k + (2 + (hashW R).length)) rfl hx4 (by simp only [ev0, ev, evV, List.cons_append, List.nil_append, List.getD_cons_zero, List.getD_cons_succ, List.map_cons, List.map_nil, iOf, bOf, sOf, pOf, slLen, slBase, cmpI, arI, Value.ite_bool, int_beq, int_bne, ite_band, ite_bor, txt_size, hw1, hw2]) fun H5 hx5 _ => ⟨k + (2 + (hashW R).length), ?_, hx5, ?_⟩)
        · rw [hhash]; rfl
        · intro kd x n m he
          rw [hhash] at he; cases he; rfl
    · have er2 := e0 [.bool (Lib.hasPrefix R [40]), txt (wordL (s.drop (k + 2)))]
      refine ⟨fun h5 => ?_, fun h5 => ?_⟩
      · have h5 : wordL (s.drop (k + 2)) = [] := by simpa [ev0, ev, evV, List.cons_append, List.nil_append, List.getD_cons_zero, List.getD_cons_succ, List.map_cons, List.map_nil, iOf, bOf, sOf, pOf, slLen, slBase, cmpI, arI, Value.ite_bool, int_beq, int_bne, ite_band, ite_bor, txt_eql] using h5
        refine ⟨fun _ => sub_of (k := 1) (m := 2) er2 rfl rfl (by omega) (by omega), _, lookup_hit, ?_, hx2⟩
        have : hashW R = (R.take 2).drop 1 := by unfold hashW; rw [hR1, if_pos h5]
        rw [this]
        exact congrArg (fun v => [v]) (ev_cut (k := 1) (m := 2) er2 rfl rfl)
      · have h5 : ¬ wordL (s.drop (k + 2)) = [] := by simpa [ev0, ev, evV, List.cons_append, List.nil_append, List.getD_cons_zero, List.getD_cons_succ, List.map_cons, List.map_nil, iOf, bOf, sOf, pOf, slLen, slBase, cmpI, arI, Value.ite_bool, int_beq, int_bne, ite_band, ite_bor, txt_eql] using h5
        refine ⟨_, lookup_hit, ?_, hx2⟩
        have : hashW R = wordL (s.drop (k + 2)) := by unfold hashW; rw [hR1, if_neg h5]
        rw [this]; rfl
  · have h3 := of_decide_eq_false (hcond2.symm.trans h3)
    rw [if_neg h3] at hhash
    refine den_gives [txt (wordL R)] cb_lex_lexer__word ?_ rfl pendNil fun H2 l2 => ?_
    · have := lword_gives s k (k + 1) p H0 H1 (by omega) (by omega) hx1
      rw [hR] at this
      show Gives _ _ [_, .int .i64 (IntKind.i64.wrap ((k : Int) + 1))] _ _
      rw [p1]
      exact this
    have hx2 := hx1.grow l2
    have hcw : bOf (ev0 ([Value.pointer (some ⟨p, 0, none⟩)] ++ [.int .i64 k] ++ [txt s] ++ [.int .i64 k] ++ [.bool (Lib.hasPrefix R [40])] ++ [txt (wordL R)]) (.pick (.scmp .neq (.atom 5) (.str [116])) (.scmp .neq (.atom 5) (.str [102])) (.bool false))) = (decide (wordL R ≠ [116]) && decide (wordL R ≠ [102])) := by
      simp only [ev0, ev, evV, List.cons_append, List.nil_append, List.getD_cons_zero, List.getD_cons_succ, List.map_cons, List.map_nil, iOf, bOf, sOf, pOf, slLen, slBase, cmpI, arI, Value.ite_bool, int_beq, int_bne, ite_band, ite_bor, txt_neq]
    refine ⟨fun h5 => ?_, fun h5 => ?_⟩
    · have h5 := hcw.symm.trans h5
      simp only [Bool.and_eq_true, decide_eq_true_eq] at h5
      rw [if_neg h5.1, if_neg h5.2] at hhash
      refine ⟨k, ?_, hx2, ?_⟩
      · rw [hhash]; rfl
      · intro kd x n m he
        rw [hhash] at he; cases he
    · have h5 := hcw.symm.trans h5
      have h6 : ∃ c : UInt8, wordL R = [c] ∧ hashL R = .tok 5 [] (Lib.indexByte [102, 116] c) 2 := by
        by_cases h6 : wordL R = [116]
        · exact ⟨116, h6, by rw [hhash, if_pos h6]; rfl⟩
        · by_cases h7 : wordL R = [102]
          · exact ⟨102, h7, by rw [hhash, if_neg h6, if_pos h7]; rfl⟩
          · simp [h6, h7] at h5
      obtain ⟨c, h6, h7⟩ := h6
      have hlc := wordL_len1 h6
      refine den_lat rfl hx2 (den_lput (k' := k + 2) rfl hx2 (by simp only [ev0, ev, evV, List.cons_append, List.nil_append, List.getD_cons_zero, List.getD_cons_succ, List.map_cons, List.map_nil, iOf, bOf, sOf, pOf, slLen, slBase, cmpI, arI, Value.ite_bool, int_beq, int_bne, ite_band, ite_bor, p2]) fun H3 hx3 _ => ?_)
      refine den_gives [.int .i64 (Lib.indexByte [102, 116] c)] (by kernel_rfl) ?_ rfl pendNil fun H4 l4 => ⟨k + 2, ?_, hx3.grow l4, ?_⟩
      · show Gives _ _ [txt [102, 116], txt (wordL R)] _ _
        rw [h6]
        exact Tri.ofKept fun w => Tryz.strings_Index_one ⟨#[102, 116]⟩ c w
      · rw [h7]; rfl
      · intro kd x n m he
        rw [h7] at he; cases he; rfl
end Go.Proofs.YtlnmmakbgldflaaGreatDoor.Vc
/-
  SIGN: the program's lexer: a string.
-/
namespace Go.Proofs.YtlnmmakbgldflaaGreatDoor.Vc
open Go

/-- a row that grows, without a block of other kind -/
theorem Acc.off {α : Type} [Enc α] {H0 H : PH} {e : TypeId} {l : List α} {v : Value} {p : Nat} {cs : Array Value} {T : TypeId} {f : Nat × Nat} (hflat : ∀ (H H' : PH) xs, PV.RepRow H (l.flatMap pv) xs → PV.RepRow H' (l.flatMap pv) xs)
    (h : Acc H0 H e l v) (hp : H p = some (.cells cs T f)) (hT : T ≠ e) : Acc (H0.del p) (H.del p) e l v := by
  obtain ⟨xs, h1, h2⟩ := h.own
  have hg : ∀ k, ob v = some k → k ≠ p := by
    intro k hk e'
    subst e'
    rcases h1.2 with ⟨rfl, _⟩ | ⟨g, cap, cur, rfl, h3, _⟩
    · cases hk
    · cases hk
      rw [h3] at hp; cases hp; exact hT rfl
  refine ⟨?_, xs, h1.le fun k hk => PH.del_other (hg k hk), hflat _ _ _ h2⟩
  intro k o hk
  have hkp : k ≠ p := fun e' => by rw [e', PH.del_none] at hk; cases hk
  rw [PH.del_other hkp] at hk
  have h3 := h.le k o hk
  unfold delV at h3 ⊢
  cases hgv : ob v with
  | some g =>
    rw [hgv] at h3
    simp only at h3 ⊢
    by_cases e' : k = g
    · rw [e', PH.del_none] at h3; cases h3
    · rw [PH.del_other e'] at h3 ⊢
      rw [PH.del_other hkp]; exact h3
  | none =>
    rw [hgv] at h3
    simp only at h3 ⊢
    rw [PH.del_other hkp]; exact h3
theorem escB_len {l : List UInt8} {c : UInt8} {n : Nat} (h : escB l = some (c, n)) : 1 ≤ n ∧ n ≤ l.length := by
  match l with
  | [] => cases h
  | d :: r =>
    simp only [escB] at h
    split at h
    · cases h; simp
    split at h
    · cases h; simp
    split at h
    · rename_i h2
      cases h
      match r, h2 with
      | [], h2 => have : (0 : Int) ≤ -1 := h2.2; omega
      | [a], h2 => have : (0 : Int) ≤ -1 := h2.2; omega
      | a :: b :: r, _ => simp
    · cases h
theorem bytesFlat {l : List UInt8} (H H' : PH) (xs : List Value) (h : PV.RepRow H (l.flatMap pv) xs) : PV.RepRow H' (l.flatMap pv) xs := bytes_any h

theorem ltext_tri (s : List UInt8) (k p : Nat) (H0 H : PH) (hs : s.length ≤ 1099511627776) (hk : k < s.length) (hE : Errs H0) (h : LX H0 H p s k) :
    Tri Tryz.prog n_lex_lexer__text #[.pointer (some ⟨p, 0, none⟩)] H (LexTo H0 p s k (textOne s k)) := by
  refine tri_lex_lexer__text [.pointer (some ⟨p, 0, none⟩)] (by kernel_rfl) (by kernel_rfl) ?_
  have p1 := plus1 (a := k) (by omega)
  refine den_lsome rfl (den_lat rfl h ?_)
  refine ⟨fun m vs H' => ∃ (i : Nat) (v : Value) (out : List UInt8), vs = [.int .i64 0, v, .int .i64 i, .int .i64 0, txt [], .int .i64 0, .int .i64 0, .int .i64 0] ∧ i + m = s.length ∧ k + 1 ≤ i ∧ out.length + k + 1 ≤ i ∧ Acc H H' 5 out v ∧
    textB (s.drop (k + 1)) = (textB (s.drop i)).map fun x => (out ++ x.1, x.2), ⟨s.length - (k + 1), k + 1, .slice none 0 0, [], ?_, by omega, Nat.le_refl _, by simp, Acc.nil H _, ?_⟩, ?_⟩
  · simp only [ev0, ev, evV, List.cons_append, List.nil_append, List.getD_cons_zero, List.getD_cons_succ, List.map_cons, List.map_nil, iOf, bOf, sOf, pOf, slLen, slBase, cmpI, arI, Value.ite_bool, int_beq, int_bne, ite_band, ite_bor, p1]
    rfl
  · cases textB (s.drop (k + 1)) <;> simp
  rintro m vs H' _ ⟨i, v, out, rfl, hm, hki, hol, hacc, htx⟩
  have i1 := plus1 (a := i) (by omega)
  have hx := h.grow hacc.all
  have push : ∀ (c : UInt8) (n : Nat), textB (s.drop i) = (textB (s.drop (i + n))).map (fun y => (c :: y.1, y.2)) → textB (s.drop (k + 1)) = (textB (s.drop (i + n))).map fun x => ((out ++ [c]) ++ x.1, x.2) := by
    intro c n h
    rw [htx, h, Option.map_map]
    congr 1
    funext x; simp
  have bad : textB (s.drop (k + 1)) = none → ∀ H2, LX H0 H2 p s k → LexTo H0 p s k (textOne s k) (.returned (One.bad 32).lv) H2 := fun hn H2 hx2 => by
    refine ⟨k, ?_, hx2, ?_⟩
    · rw [textOne, hn]
    · intro kd x n m he
      rw [textOne, hn] at he; cases he
  refine den_lstr rfl hx ⟨fun h5 => ?_, fun h5 => ?_⟩
  · simp only [ev0, ev, evV, List.cons_append, List.nil_append, List.getD_cons_zero, List.getD_cons_succ, List.map_cons, List.map_nil, iOf, bOf, sOf, pOf, slLen, slBase, cmpI, arI, Value.ite_bool, int_beq, int_bne, ite_band, ite_bor, txt_size, decide_eq_true_eq] at h5
    obtain ⟨c, hc⟩ : ∃ c, s[i]? = some c := ⟨_, List.getElem?_eq_getElem (by omega)⟩
    have hd := drop_get hc
    have e34 : ((c.toNat : Int) = 34) ↔ c = 34 := u8_eq_lit c 34 (by omega)
    have e92 : ((c.toNat : Int) = 92) ↔ c = 92 := u8_eq_lit c 92 (by omega)
    have sx : ∀ E : List Value, E.getD 11 (Value.bool false) = txt s → E.getD 4 (Value.bool false) = .int .i64 i → ev E (fun _ => 0) (.sidx (.atom 11) (.atom 4)) = encB c := fun E x0 x6 => ev_sidx (s := s) (k := i) x0 (by show iOf (E.getD 4 _) = _; rw [x6]; rfl) hc
    have sx0 : ∀ (E : List Value) (c : SV) (z : SV) (op : BinOp), ev0 E (.cmp op c z) = .bool (cmpI op (iOf (ev E (fun _ => 0) c)) (iOf (ev E (fun _ => 0) z))) := fun _ _ _ _ => rfl
    refine ⟨fun vs H2 => ∃ (j : Nat) (v' : Value) (c : UInt8), vs = [v', .int .i64 j] ∧ i ≤ j ∧ j + 1 ≤ s.length ∧ Acc H H2 5 (out ++ [c]) v' ∧ textB (s.drop (k + 1)) = (textB (s.drop (j + 1))).map fun x => ((out ++ [c]) ++ x.1, x.2), ?_, ?_⟩
    · rintro vs H2 _ ⟨j, v', c', rfl, hij, hjs, a2, t2⟩
      have j1 := plus1 (a := j) (by omega)
      refine ⟨_, rfl, s.length - (j + 1), by omega, j + 1, v', out ++ [c'], ?_, by omega, by omega, by simp; omega, a2, t2⟩
      simp only [ev0, ev, evV, List.cons_append, List.nil_append, List.getD_cons_zero, List.getD_cons_succ, List.map_cons, List.map_nil, iOf, bOf, sOf, pOf, slLen, slBase, cmpI, arI, Value.ite_bool, int_beq, int_bne, ite_band, ite_bor, j1]
    refine den_lstr rfl hx ⟨fun _ => inStr_of (k := i) rfl rfl (by omega), fun h6 => ?_, fun h6 => ⟨fun h7 => ?_, fun h7 => ?_⟩⟩
    · rw [sx0, sx _ rfl rfl] at h6
      have h6' := e34.1 (of_decide_eq_true (by simpa [cmpI, iOf, ev, bOf, encB, int_beq] using h6))
      subst h6'
      have hoff := hacc.off bytesFlat hx.at_ (by decide)
      refine den_lput (k' := i + 1) rfl hx (by simp only [ev0, ev, evV, List.cons_append, List.nil_append, List.getD_cons_zero, List.getD_cons_succ, List.map_cons, List.map_nil, iOf, bOf, sOf, pOf, slLen, slBase, cmpI, arI, Value.ite_bool, int_beq, int_bne, ite_band, ite_bor, i1]) fun H2 hx2 l2 => ?_
      refine den_accText uBytes uString uByte rfl (hoff.mono (PH.le_trans l2 (PH.del_le _ _))) ?_
      have ht : textOne s k = .tok 8 out 0 (s.length - k - (s.length - (i + 1))) := by
        rw [textOne, htx, hd, textB_end]
        simp only [Option.map_some, List.append_nil, List.length_drop]
      refine ⟨i + 1, ?_, hx2, ?_⟩
      · rw [ht]; rfl
      · intro kd x n m he
        rw [ht] at he; cases he; omega
    all_goals
      rw [sx0, sx _ rfl rfl] at h6
      have h6 : cmpI .eql (iOf (encB c)) 34 = false := h6
      have h6' : ¬ c = 34 := fun x => by subst x; revert h6; decide
    · rw [sx0, sx _ rfl rfl] at h7
      have h7' : c = 92 := by
        have : cmpI .eql (iOf (encB c)) 92 = true := h7
        simp only [cmpI, int_beq, iOf, decide_eq_true_eq] at this
        exact e92.1 this
      subst h7'
      have hesc : textB (s.drop i) = (escB (s.drop (i + 1))).bind fun x => (textB ((s.drop (i + 1)).drop x.2)).map fun y => (x.1 :: y.1, y.2) := by rw [hd]; exact textB_esc _
      refine den_lstr rfl hx ⟨fun _ => sub_of (k := i + 1) (m := s.length) rfl (by simp only [ev0, ev, evV, List.cons_append, List.nil_append, List.getD_cons_zero, List.getD_cons_succ, List.map_cons, List.map_nil, iOf, bOf, sOf, pOf, slLen, slBase, cmpI, arI, Value.ite_bool, int_beq, int_bne, ite_band, ite_bor, i1]) (by simp only [ev0, ev, evV, List.cons_append, List.nil_append, List.getD_cons_zero, List.getD_cons_succ, List.map_cons, List.map_nil, iOf, bOf, sOf, pOf, slLen, slBase, cmpI, arI, Value.ite_bool, int_beq, int_bne, ite_band, ite_bor, txt_size]) (by omega) (Nat.le_refl _), ?_⟩
      refine den_call cb_lex_escape (R := fun e H' => e = .returned (.tuple (escV (escB (s.drop (i + 1)))).toArray) ∧ PH.le _ H') (by
        have := lescape_gives (s.drop (i + 1)) (by rw [List.length_drop]; omega) H' (hx.errs hE)
        show Tri _ _ #[ev _ _ (.ssub _ _ _)] _ _
        rw [ev_rest (s := s) (k := i + 1) rfl (by simp only [ev0, ev, evV, List.cons_append, List.nil_append, List.getD_cons_zero, List.getD_cons_succ, List.map_cons, List.map_nil, iOf, bOf, sOf, pOf, slLen, slBase, cmpI, arI, Value.ite_bool, int_beq, int_bne, ite_band, ite_bor, i1])]
        exact this) ?_
      rintro e H2 ⟨rfl, l2⟩
      have hacc2 := hacc.mono l2
      refine ⟨_, escV (escB (s.drop (i + 1))), rfl, ?_, ?_, pendNil, ?_⟩
      · cases escB (s.drop (i + 1)) <;> rfl
      · cases escB (s.drop (i + 1)) <;> rfl
      cases he : escB (s.drop (i + 1)) with
      | none =>
        refine ⟨fun _ => bad (by rw [htx, hesc, he]; rfl) _ (h.grow hacc2.all), fun h8 => ?_⟩
        exact absurd h8 (by simp [ev0, ev, evV, List.cons_append, List.nil_append, List.getD_cons_zero, List.getD_cons_succ, List.map_cons, List.map_nil, iOf, bOf, sOf, pOf, slLen, slBase, cmpI, arI, Value.ite_bool, escV])
      | some y =>
        obtain ⟨d, n⟩ := y
        obtain ⟨n1, n2⟩ := escB_len he
        rw [List.length_drop] at n2
        refine ⟨fun h8 => ?_, fun h8 => ?_⟩
        · have h8 : ((n : Int) == 0) = true := h8
          simp at h8; omega
        · have pn := plus (a := i) (b := n) (by omega)
          refine den_byte d rfl hacc2 (fun _ => rfl) (fun _ => rfl) (by omega) fun u v' H3 a3 => ⟨_, lookup_hit, i + n, v', d, ?_, by omega, by omega, a3, ?_⟩
          · simp only [ev0, ev, evV, List.cons_append, List.nil_append, List.getD_cons_zero, List.getD_cons_succ, List.map_cons, List.map_nil, iOf, bOf, sOf, pOf, slLen, slBase, cmpI, arI, Value.ite_bool, int_beq, int_bne, ite_band, ite_bor, escV, pn]
          · have := push d (n + 1) (by
              rw [hesc, he]
              simp only [Option.bind_some, List.drop_drop]
              rw [show i + 1 + n = i + (n + 1) by omega])
            exact this
    · rw [sx0, sx _ rfl rfl] at h7
      have h7 : cmpI .eql (iOf (encB c)) 92 = false := h7
      have h7' : ¬ c = 92 := fun x => by subst x; revert h7; decide
      refine den_byte c (by
        show ev _ _ _ = _
        exact sx _ rfl rfl) hacc (fun _ => rfl) (fun _ => rfl) (by omega) fun u v' H2 a2 => ⟨_, lookup_hit, i, v', c, ?_, Nat.le_refl _, by omega, a2, push c 1 (by rw [hd, textB_plain h6' h7'])⟩
      simp only [ev0, ev, evV, List.cons_append, List.nil_append, List.getD_cons_zero, List.getD_cons_succ, List.map_cons, List.map_nil, iOf, bOf, sOf, pOf, slLen, slBase, cmpI, arI, Value.ite_bool, int_beq, int_bne, ite_band, ite_bor]
  · simp only [ev0, ev, evV, List.cons_append, List.nil_append, List.getD_cons_zero, List.getD_cons_succ, List.map_cons, List.map_nil, iOf, bOf, sOf, pOf, slLen, slBase, cmpI, arI, Value.ite_bool, int_beq, int_bne, ite_band, ite_bor, txt_size, decide_eq_false_iff_not] at h5
    have : s.drop i = [] := List.drop_eq_nil_of_le (by omega)
    exact bad (by rw [htx, this, textB_nil]; rfl) _ hx
end Go.Proofs.YtlnmmakbgldflaaGreatDoor.Vc
/-
  SIGN: the program's lexer: a word.
-/
namespace Go.Proofs.YtlnmmakbgldflaaGreatDoor.Vc
open Go

/-! ### what strconv.Atoi says of a number -/
def vA (a : Nat) (l : List UInt8) : Nat := l.foldl (fun a c => 10 * a + (c.toNat - 48)) a
theorem vA_ge : ∀ (l : List UInt8) (a : Nat), a ≤ vA a l
  | [], a => Nat.le_refl a
  | c :: l, a => by
    have h1 : vA a (c :: l) = vA (10 * a + (c.toNat - 48)) l := rfl
    have := vA_ge l (10 * a + (c.toNat - 48))
    rw [h1]; omega
theorem parse_digits : ∀ (l : List UInt8) (a : Nat), a < 18446744073709551616 → l.all (fun c => digitI c.toNat) = true → Lib.parseUint10 a l = if vA a l < 18446744073709551616 then .ok (vA a l) else .range
  | [], a, ha, _ => by
    show Lib.NumEnd.ok a = if a < 18446744073709551616 then .ok a else .range
    rw [if_pos ha]
  | c :: l, a, ha, h => by
    simp only [List.all_cons, Bool.and_eq_true] at h
    obtain ⟨hd, hl⟩ := h
    have hd2 : 48 ≤ c.toNat ∧ c.toNat ≤ 57 := by
      unfold digitI at hd
      split at hd
      · have := of_decide_eq_true hd; omega
      · cases hd
    have h1 : vA a (c :: l) = vA (10 * a + (c.toNat - 48)) l := rfl
    have hge := vA_ge l (10 * a + (c.toNat - 48))
    simp only [Lib.parseUint10, if_pos hd2]
    split
    · rw [h1, if_neg (by omega)]
    split
    · rw [h1, if_neg (by omega)]
    · rw [parse_digits l _ (by omega) hl, h1, show a * 10 + (c.toNat - 48) = 10 * a + (c.toNat - 48) by omega]
theorem parseMag_digits {l : List UInt8} (h0 : l ≠ []) (h : l.all (fun c => digitI c.toNat) = true) : Lib.parseMag l = if valL l < 18446744073709551616 then .ok (valL l) else .range := by
  unfold Lib.parseMag
  rw [if_neg h0, parse_digits l 0 (by omega) h]; rfl
theorem atoi_num {w : List UInt8} (h : numB w = true) : Lib.atoiAll w = .ok (numI w) ∨ (Lib.atoiAll w = .range ∧ (numI w < -1152921504606846976 ∨ 1152921504606846975 < numI w)) := by
  match w, h with
  | c :: r, h =>
    simp only [numB] at h
    split at h
    · rename_i hc
      simp only [Bool.and_eq_true, Bool.not_eq_true', List.isEmpty_eq_false_iff] at h
      obtain ⟨h0, hd⟩ := h
      have hp := parseMag_digits h0 hd
      rcases (by simpa using hc : c = 43 ∨ c = 45) with rfl | rfl
      · rw [Lib.atoiAll_plus, hp]
        have hn : numI (43 :: r) = (valL r : Int) := rfl
        rw [hn]
        split
        · simp only [Lib.signless]
          split
          · exact .inr ⟨rfl, .inr (by omega)⟩
          · exact .inl rfl
        · exact .inr ⟨rfl, .inr (by omega)⟩
      · rw [Lib.atoiAll_minus, hp]
        have hn : numI (45 :: r) = -(valL r : Int) := rfl
        rw [hn]
        split
        · simp only [Lib.signed]
          split
          · exact .inr ⟨rfl, .inl (by omega)⟩
          · exact .inl rfl
        · exact .inr ⟨rfl, .inl (by omega)⟩
    · rename_i hc
      have h1 : c ≠ 43 := fun e => hc (by simp [e])
      have h2 : c ≠ 45 := fun e => hc (by simp [e])
      have hp := parseMag_digits (l := c :: r) (by simp) h
      have hn : numI (c :: r) = (valL (c :: r) : Int) := by
        unfold numI
        split
        · rename_i e; cases e; exact absurd rfl h2
        · rename_i e; cases e; exact absurd rfl h1
        · rfl
      rw [Lib.atoiAll_plain c r (fun e => h1 (UInt8.toNat_inj.1 e)) (fun e => h2 (UInt8.toNat_inj.1 e)), hp, hn]
      split
      · simp only [Lib.signless]
        split
        · exact .inr ⟨rfl, .inr (by omega)⟩
        · exact .inl rfl
      · exact .inr ⟨rfl, .inr (by omega)⟩
theorem below_bytes (w : World) (e : TypeId) (t : ByteArray) : Go.RowKit.Below w.heap.size w (Lib.bytesWorld w e t) :=
  ⟨rfl, rfl, rfl, by rw [Lib.bytesWorld_size]; omega, fun k hk => Lib.bytesWorld_at_old w e t k hk⟩
theorem Latoi_tri (w : List UInt8) (hs : w.length ≤ 1099511627776) (hn : numB w = true) (H : PH) (hE : Errs H) : Tri Tryz.prog n_strconv_Atoi #[txt w] H fun e H' => (∃ v x, e = .returned (.tuple #[.int .i64 v, x]) ∧ ((x = .nilIface ∧ v = numI w) ∨ ((∃ T u, x = .iface T u) ∧ (numI w < -1152921504606846976 ∨ 1152921504606846975 < numI w)))) ∧ PH.le H H' := by
  refine Tri.ofBelow (args := [txt w]) fun W hv => ?_
  rcases atoi_num hn with h | ⟨h, hr⟩
  · refine (Tryz.strconv_Atoi_ok ⟨w.toArray⟩ (by rw [txt_size]; omega) (numI w) h W).mono fun e w' ⟨h1, h2⟩ => ⟨⟨_, _, h1, .inl ⟨rfl, rfl⟩⟩, ?_⟩
    rcases h2 with rfl | ⟨t, rfl⟩
    · exact Go.RowKit.Below.refl _ _
    · exact below_bytes _ _ _
  · obtain ⟨ev, h1, h2⟩ := hE.2
    exact (Tryz.strconv_Atoi_range ⟨w.toArray⟩ (by rw [txt_size]; omega) h ev W (hv.cell h1) h2).mono fun e w' ⟨N, g1, _, _, g2⟩ => ⟨⟨_, _, g1, .inr ⟨⟨_, _, rfl⟩, hr⟩⟩, g2⟩

/-! ### whether a word is a number, as the lexer asks -/
def digsL : List UInt8 := [48, 49, 50, 51, 52, 53, 54, 55, 56, 57]
theorem digs_all : ((List.range 256).all fun n => digsL.contains (UInt8.ofNat n) == digitI n) = true := by kernel_rfl
theorem digs_digit (c : UInt8) : digsL.contains c = digitI c.toNat := by
  have h := List.all_eq_true.1 digs_all c.toNat (List.mem_range.2 c.toNat_lt)
  rw [UInt8.ofNat_toNat] at h
  exact eq_of_beq h
theorem dropWhile_nil {p : UInt8 → Bool} : ∀ {l : List UInt8}, l.dropWhile p = [] ↔ l.all p = true
  | [] => by simp
  | c :: l => by
    rw [List.dropWhile_cons]
    cases hp : p c
    · simp [hp]
    · simp [hp, dropWhile_nil (p := p) (l := l)]
theorem dropWhile_head {p : UInt8 → Bool} : ∀ {l : List UInt8} {c r}, l.dropWhile p = c :: r → p c = false
  | [], c, r, h => by cases h
  | a :: l, c, r, h => by
    rw [List.dropWhile_cons] at h
    split at h
    · exact dropWhile_head h
    · rename_i hp; cases h; simpa using hp
theorem trimS_nil (l : List UInt8) : (Lib.trimS l digsL = []) ↔ l.all (fun c => digitI c.toNat) = true := by
  have hp : (fun c => digsL.contains c) = fun c : UInt8 => digitI c.toNat := funext digs_digit
  unfold Lib.trimS Lib.trimLeftS Lib.trimRightS
  rw [dropWhile_nil]
  show (l.reverse.dropWhile (fun c => digsL.contains c)).reverse.all (fun c => digsL.contains c) = true ↔ _
  rw [hp]
  constructor
  · intro h
    rw [List.all_reverse] at h
    cases hd : l.reverse.dropWhile (fun c => digitI c.toNat) with
    | nil => have := dropWhile_nil.1 hd; rwa [List.all_reverse] at this
    | cons c r =>
      have h1 := dropWhile_head hd
      rw [hd] at h
      simp [h1] at h
  · intro h
    have : l.reverse.dropWhile (fun c => digitI c.toNat) = [] := dropWhile_nil.2 (by rw [List.all_reverse]; exact h)
    rw [this]; rfl
theorem sgn_all : ((List.range 256).all fun n => ([43, 45, 48, 49, 50, 51, 52, 53, 54, 55, 56, 57] : List UInt8).contains (UInt8.ofNat n) == ((UInt8.ofNat n) == 43 || (UInt8.ofNat n) == 45 || digitI n)) = true := by kernel_rfl
theorem sgn_is (c : UInt8) : ([43, 45, 48, 49, 50, 51, 52, 53, 54, 55, 56, 57] : List UInt8).contains c = (c == 43 || c == 45 || digitI c.toNat) := by
  have h := List.all_eq_true.1 sgn_all c.toNat (List.mem_range.2 c.toNat_lt)
  rw [UInt8.ofNat_toNat] at h
  exact eq_of_beq h
theorem numB_prog (c : UInt8) (r : List UInt8) : numB (c :: r) = ((decide (Lib.trimS r digsL = []) && (decide (1 < (c :: r).length) || digitI c.toNat)) && ([43, 45, 48, 49, 50, 51, 52, 53, 54, 55, 56, 57] : List UInt8).contains c) := by
  rw [sgn_is, show decide (Lib.trimS r digsL = []) = r.all (fun c => digitI c.toNat) by rw [Bool.eq_iff_iff, decide_eq_true_eq]; exact trimS_nil r]
  simp only [numB]
  have h43 : digitI ((43 : UInt8).toNat : Int) = false := by decide
  have h45 : digitI ((45 : UInt8).toNat : Int) = false := by decide
  cases hs : (c == 43 || c == 45) with
  | true =>
    have hd : digitI c.toNat = false := by
      rcases (by simpa using hs : c = 43 ∨ c = 45) with rfl | rfl
      · exact h43
      · exact h45
    simp only [if_true, hd, Bool.or_false, Bool.and_true]
    cases r with
    | nil => simp
    | cons a r => simp
  | false =>
    simp only [Bool.false_eq_true, if_false, Bool.false_or, List.all_cons]
    cases digitI c.toNat <;> simp
end Go.Proofs.YtlnmmakbgldflaaGreatDoor.Vc
/-
  SIGN: the program's lexer: a word; a token.
-/
namespace Go.Proofs.YtlnmmakbgldflaaGreatDoor.Vc
open Go

theorem Trim_gives (s : List UInt8) (hs : s.length ≤ 1099511627776) (H : PH) : Gives Tryz.prog 73 [txt s, txt digsL] H (txt (Lib.trimS s digsL)) :=
  Tri.ofBelow (args := [txt s, txt digsL]) fun w _ => Go.Proofs.Any.strings_Trim_laid Tryz.lays160 (by kernel_rfl) ⟨s.toArray⟩ ⟨digsL.toArray⟩ w (by rw [txt_size]; omega) (by decide) (Go.Proofs.ascii_of_all (by decide))

theorem lplain_tri (s : List UInt8) (k p : Nat) (H0 H : PH) (hs : s.length ≤ 1099511627776) (hk : k < s.length) (hE : Errs H0) (h : LX H0 H p s k) :
    Tri Tryz.prog n_lex_lexer__plain #[.pointer (some ⟨p, 0, none⟩)] H (LexTo H0 p s k (wordT (wordL (s.drop k)))) := by
  refine tri_lex_lexer__plain [.pointer (some ⟨p, 0, none⟩)] (by kernel_rfl) (by kernel_rfl) ?_
  refine den_lsome rfl (den_lat rfl h ?_)
  refine den_gives [txt (wordL (s.drop k))] cb_lex_lexer__word (lword_gives s k k p H0 H (by omega) (by omega) h) rfl pendNil fun H1 l1 => ?_
  have hwl := wordL_le (s.drop k)
  rw [List.length_drop] at hwl
  generalize wordL (s.drop k) = w at hwl ⊢
  have hx1 := h.grow l1
  have pw := plus (a := k) (b := w.length) (by omega)
  refine den_lat rfl hx1 (den_lput (k' := k + w.length) rfl hx1 (by simp only [ev0, ev, evV, List.cons_append, List.nil_append, List.getD_cons_zero, List.getD_cons_succ, List.map_cons, List.map_nil, iOf, bOf, sOf, pOf, slLen, slBase, cmpI, arI, Value.ite_bool, int_beq, int_bne, ite_band, ite_bor, txt_size, pw]) fun H2 hx2 _ => ?_)
  have done : ∀ H3 o, LX H0 H3 p s (k + w.length) → wordT w = o → (∀ kd x n m, o = .tok kd x n m → m = w.length) → LexTo H0 p s k (wordT w) (.returned o.lv) H3 := fun H3 o hx ho hm =>
    ⟨k + w.length, by rw [ho], hx, fun kd x n m he => by rw [hm kd x n m (ho.symm.trans he)]⟩
  unfold wordT at done ⊢
  refine ⟨fun h3 => ?_, fun h3 => ?_⟩
  · have h3 : w = [] := by simpa [ev0, ev, evV, List.cons_append, List.nil_append, List.getD_cons_zero, List.getD_cons_succ, List.map_cons, List.map_nil, iOf, bOf, sOf, pOf, slLen, slBase, cmpI, arI, Value.ite_bool, int_beq, int_bne, ite_band, ite_bor, txt_eql] using h3
    exact done H2 (.bad 30) hx2 (by rw [if_pos h3]) (fun _ _ _ _ he => by cases he)
  have h3 : ¬ w = [] := by simpa [ev0, ev, evV, List.cons_append, List.nil_append, List.getD_cons_zero, List.getD_cons_succ, List.map_cons, List.map_nil, iOf, bOf, sOf, pOf, slLen, slBase, cmpI, arI, Value.ite_bool, int_beq, int_bne, ite_band, ite_bor, txt_eql] using h3
  rw [if_neg h3] at done ⊢
  refine ⟨fun h4 => ?_, fun h4 => ?_⟩
  · have h4 : w = [46] := by simpa [ev0, ev, evV, List.cons_append, List.nil_append, List.getD_cons_zero, List.getD_cons_succ, List.map_cons, List.map_nil, iOf, bOf, sOf, pOf, slLen, slBase, cmpI, arI, Value.ite_bool, int_beq, int_bne, ite_band, ite_bor, txt_eql] using h4
    exact done H2 (.tok 4 [] 0 1) hx2 (by rw [if_pos h4]) (fun _ _ _ _ he => by cases he; rw [h4]; rfl)
  have h4 : ¬ w = [46] := by simpa [ev0, ev, evV, List.cons_append, List.nil_append, List.getD_cons_zero, List.getD_cons_succ, List.map_cons, List.map_nil, iOf, bOf, sOf, pOf, slLen, slBase, cmpI, arI, Value.ite_bool, int_beq, int_bne, ite_band, ite_bor, txt_eql] using h4
  rw [if_neg h4] at done ⊢
  refine ⟨fun vs H3 => vs = [.bool (numB w)] ∧ LX H0 H3 p s (k + w.length), ?_, ?_⟩
  · rintro vs H3 _ ⟨rfl, hx3⟩
    refine ⟨fun h5 => ?_, fun h5 => ?_⟩
    · have h5 : numB w = true := h5
      rw [if_pos h5] at done ⊢
      refine den_call cb_strconv_Atoi (Latoi_tri w (by omega) h5 H3 (hx3.errs hE)) ?_
      rintro e H4 ⟨⟨v, x, rfl, hx⟩, l4⟩
      have hx4 := hx3.grow l4
      have hxx : x = .nilIface ∨ ∃ T u, x = .iface T u := hx.elim (fun h => .inl h.1) fun h => .inr h.1
      refine ⟨_, [.int .i64 v, x], rfl, by rcases hxx with rfl | ⟨T, u, rfl⟩ <;> rfl, rfl, pendNil, ?_⟩
      refine den_neqNil (v := x) Tryz.underlying104 rfl (by rcases hxx with rfl | ⟨T, u, rfl⟩ <;> first | exact .inr ⟨_, _, rfl⟩ | exact .inl rfl) ?_
      rcases hx with ⟨rfl, rfl⟩ | ⟨⟨T, u, rfl⟩, hr⟩
      · refine ⟨fun h6 => ?_, fun h6 => ?_⟩
        · simp only [ev0, ev, evV, List.cons_append, List.nil_append, List.getD_cons_zero, List.getD_cons_succ, List.map_cons, List.map_nil, iOf, bOf, sOf, pOf, slLen, slBase, cmpI, arI, Value.ite_bool, int_beq, int_bne, ite_band, ite_bor, isNilI] at h6
          have h6 : numI w < -1152921504606846976 ∨ 1152921504606846975 < numI w := by
            simp at h6; omega
          exact done H4 (.bad 33) hx4 (by rw [if_pos h6]) (fun _ _ _ _ he => by cases he)
        · simp only [ev0, ev, evV, List.cons_append, List.nil_append, List.getD_cons_zero, List.getD_cons_succ, List.map_cons, List.map_nil, iOf, bOf, sOf, pOf, slLen, slBase, cmpI, arI, Value.ite_bool, int_beq, int_bne, ite_band, ite_bor, isNilI] at h6
          have h6 : ¬ (numI w < -1152921504606846976 ∨ 1152921504606846975 < numI w) := by
            simp at h6; omega
          exact done H4 (.tok 6 [] (numI w) w.length) hx4 (by rw [if_neg h6]) (fun _ _ _ _ he => by cases he; rfl)
      · refine ⟨fun _ => ?_, fun h6 => ?_⟩
        · exact done H4 (.bad 33) hx4 (by rw [if_pos hr]) (fun _ _ _ _ he => by cases he)
        · simp [ev0, ev, evV, List.cons_append, List.nil_append, List.getD_cons_zero, List.getD_cons_succ, List.map_cons, List.map_nil, iOf, bOf, sOf, pOf, slLen, slBase, cmpI, arI, Value.ite_bool, int_beq, int_bne, ite_band, ite_bor, isNilI] at h6
    · have h5 : numB w = false := h5
      rw [h5, if_neg (by simp)] at done
      rw [h5, if_neg (by simp)]
      refine ⟨fun h6 => ?_, fun h6 => ?_⟩
      · have h6 : 64 < w.length := by
          simp only [ev0, ev, evV, List.cons_append, List.nil_append, List.getD_cons_zero, List.getD_cons_succ, List.map_cons, List.map_nil, iOf, bOf, sOf, pOf, slLen, slBase, cmpI, arI, Value.ite_bool, int_beq, int_bne, ite_band, ite_bor, txt_size, decide_eq_true_eq] at h6; omega
        exact done H3 (.bad 36) hx3 (by rw [if_pos h6]) (fun _ _ _ _ he => by cases he)
      · have h6 : ¬ 64 < w.length := by
          simp only [ev0, ev, evV, List.cons_append, List.nil_append, List.getD_cons_zero, List.getD_cons_succ, List.map_cons, List.map_nil, iOf, bOf, sOf, pOf, slLen, slBase, cmpI, arI, Value.ite_bool, int_beq, int_bne, ite_band, ite_bor, txt_size, decide_eq_false_iff_not] at h6; omega
        exact done H3 (.tok 9 w 0 w.length) hx3 (by rw [if_neg h6]) (fun _ _ _ _ he => by cases he; rfl)
  clear done
  match w, h3, hwl, hx2 with
  | c :: r, _, hwl, hx2 =>
    have q : ∀ F : List Value, ev ([Value.pointer (some ⟨p, 0, none⟩)] ++ [.int .i64 k] ++ [txt (c :: r)] ++ [.int .i64 k] ++ F) (fun _ => 0) (.sidx (.atom 2) (.int .i64 0)) = .int .u8 (c.toNat : Int) := fun F => ev_sidx (s := c :: r) (k := 0) rfl rfl rfl
    have inq : ∀ F : List Value, Chk.holds ([Value.pointer (some ⟨p, 0, none⟩)] ++ [.int .i64 k] ++ [txt (c :: r)] ++ [.int .i64 k] ++ F) (.inStr (.atom 2) (.int .i64 0)) := fun F => inStr_of (s := c :: r) (k := 0) rfl rfl (by simp)
    have er : ev ([Value.pointer (some ⟨p, 0, none⟩)] ++ [.int .i64 k] ++ [txt (c :: r)] ++ [.int .i64 k]) (fun _ => 0) (.ssub (.atom 2) (.int .i64 1) (.slen (.atom 2))) = txt r := ev_rest (s := c :: r) (k := 1) rfl rfl
    refine ⟨fun _ => sub_of (s := c :: r) (k := 1) (m := (c :: r).length) rfl rfl (by simp only [ev0, ev, evV, List.cons_append, List.nil_append, List.getD_cons_zero, List.getD_cons_succ, List.map_cons, List.map_nil, iOf, bOf, sOf, pOf, slLen, slBase, cmpI, arI, Value.ite_bool, int_beq, int_bne, ite_band, ite_bor, txt_size]) (by simp) (Nat.le_refl _), ?_⟩
    simp only [List.length_cons] at hwl
    refine den_gives [txt (Lib.trimS r digsL)] (by kernel_rfl) ?_ rfl pendNil fun H3 l3 => ?_
    · show Gives _ _ [ev _ _ (.ssub _ _ _), txt digsL] _ _
      rw [er]
      exact Trim_gives r (by omega) H2
    have hx3 := hx2.grow l3
    refine ⟨fun _ => inq [_], fun _ => inq [_], fun _ => inq [_], ?_⟩
    have hd : ∀ F : List Value, bOf (ev ([Value.pointer (some ⟨p, 0, none⟩)] ++ [.int .i64 k] ++ [txt (c :: r)] ++ [.int .i64 k] ++ F) (fun _ => 0) (.pick (.cmp .geq (.sidx (.atom 2) (.int .i64 0)) (.int .u8 48)) (.cmp .leq (.sidx (.atom 2) (.int .i64 0)) (.int .u8 57)) (.bool false))) = digitI c.toNat := fun F => by
      have h : bOf (ev ([Value.pointer (some ⟨p, 0, none⟩)] ++ [.int .i64 k] ++ [txt (c :: r)] ++ [.int .i64 k] ++ F) (fun _ => 0) (.pick (.cmp .geq (.sidx (.atom 2) (.int .i64 0)) (.int .u8 48)) (.cmp .leq (.sidx (.atom 2) (.int .i64 0)) (.int .u8 57)) (.bool false))) = bOf (if decide (iOf (ev ([Value.pointer (some ⟨p, 0, none⟩)] ++ [.int .i64 k] ++ [txt (c :: r)] ++ [.int .i64 k] ++ F) (fun _ => 0) (.sidx (.atom 2) (.int .i64 0))) ≥ 48) = true then .bool (decide (iOf (ev ([Value.pointer (some ⟨p, 0, none⟩)] ++ [.int .i64 k] ++ [txt (c :: r)] ++ [.int .i64 k] ++ F) (fun _ => 0) (.sidx (.atom 2) (.int .i64 0))) ≤ 57)) else .bool false) := rfl
      rw [h, q F]
      simp only [iOf, digitI, ge_iff_le]
      by_cases h48 : 48 ≤ (c.toNat : Int)
      · rw [if_pos (decide_eq_true h48), if_pos h48]; rfl
      · rw [if_neg (by simpa using h48), if_neg h48]; rfl
    have hcond : bOf (ev0 ([Value.pointer (some ⟨p, 0, none⟩)] ++ [.int .i64 k] ++ [txt (c :: r)] ++ [.int .i64 k] ++ [txt (Lib.trimS r digsL)]) (.pick (.scmp .eql (.atom 4) (.str [])) (.pick (.cmp .gtr (.slen (.atom 2)) (.int .i64 1)) (.bool true) (.pick (.cmp .geq (.sidx (.atom 2) (.int .i64 0)) (.int .u8 48)) (.cmp .leq (.sidx (.atom 2) (.int .i64 0)) (.int .u8 57)) (.bool false))) (.bool false))) = (decide (Lib.trimS r digsL = []) && (decide (1 < (c :: r).length) || digitI c.toNat)) := by
      have h : ∀ E : List Value, bOf (ev0 E (.pick (.scmp .eql (.atom 4) (.str [])) (.pick (.cmp .gtr (.slen (.atom 2)) (.int .i64 1)) (.bool true) (.pick (.cmp .geq (.sidx (.atom 2) (.int .i64 0)) (.int .u8 48)) (.cmp .leq (.sidx (.atom 2) (.int .i64 0)) (.int .u8 57)) (.bool false))) (.bool false))) = bOf (if bOf (ev0 E (.scmp .eql (.atom 4) (.str []))) = true then (if bOf (ev0 E (.cmp .gtr (.slen (.atom 2)) (.int .i64 1))) = true then .bool true else ev E (fun _ => 0) (.pick (.cmp .geq (.sidx (.atom 2) (.int .i64 0)) (.int .u8 48)) (.cmp .leq (.sidx (.atom 2) (.int .i64 0)) (.int .u8 57)) (.bool false))) else .bool false) := fun _ => rfl
      have h1 : bOf (ev0 ([Value.pointer (some ⟨p, 0, none⟩)] ++ [.int .i64 k] ++ [txt (c :: r)] ++ [.int .i64 k] ++ [txt (Lib.trimS r digsL)]) (.scmp .eql (.atom 4) (.str []))) = decide (Lib.trimS r digsL = []) := by simp only [ev0, ev, evV, List.cons_append, List.nil_append, List.getD_cons_zero, List.getD_cons_succ, List.map_cons, List.map_nil, iOf, bOf, sOf, pOf, slLen, slBase, cmpI, arI, Value.ite_bool, int_beq, int_bne, ite_band, ite_bor, txt_eql]
      have h2 := cond_gt (E := [Value.pointer (some ⟨p, 0, none⟩)] ++ [.int .i64 k] ++ [txt (c :: r)] ++ [.int .i64 k] ++ [txt (Lib.trimS r digsL)]) (s := c :: r) (a := .atom 2) rfl
      have h3 := hd [txt (Lib.trimS r digsL)]
      rw [h, h1, h2]
      by_cases g1 : Lib.trimS r digsL = []
      · rw [if_pos (decide_eq_true g1), decide_eq_true g1, Bool.true_and]
        by_cases g2 : 1 < (c :: r).length
        · rw [if_pos (decide_eq_true g2), decide_eq_true g2]; rfl
        · rw [if_neg (by simpa using g2), decide_eq_false g2, Bool.false_or]; exact h3
      · rw [if_neg (by simpa using g1), decide_eq_false g1]; rfl
    rw [numB_prog]
    refine ⟨fun h5 => ?_, fun h5 => ?_⟩
    · have h5 := hcond.symm.trans h5
      rw [h5, Bool.true_and, ← indexByte_contains]
      refine den_gives [.int .i64 (Lib.indexByte [43, 45, 48, 49, 50, 51, 52, 53, 54, 55, 56, 57] c)] cb_strings_IndexByte ?_ rfl pendNil fun H4 l4 => ⟨_, lookup_hit, ?_, hx3.grow l4⟩
      · have := IndexByte_gives ⟨#[43, 45, 48, 49, 50, 51, 52, 53, 54, 55, 56, 57]⟩ (c.toNat : Int) H3
        rw [Int.toNat_natCast] at this
        have hcc : c.toNat.toUInt8 = c := by simp
        rw [hcc] at this
        show Gives _ _ [_, ev _ _ (.sidx _ _)] _ _
        rw [q [txt (Lib.trimS r digsL)]]
        exact this
      · simp only [ev0, ev, evV, List.cons_append, List.nil_append, List.getD_cons_zero, List.getD_cons_succ, List.map_cons, List.map_nil, iOf, bOf, sOf, pOf, slLen, slBase, cmpI, arI, Value.ite_bool, int_beq, int_bne, ite_band, ite_bor]
    · have h5 := hcond.symm.trans h5
      rw [h5, Bool.false_and]
      exact ⟨_, lookup_hit, rfl, hx3⟩
end Go.Proofs.YtlnmmakbgldflaaGreatDoor.Vc
/-
  SIGN: the program's lexer: a token, all tokens.
-/
namespace Go.Proofs.YtlnmmakbgldflaaGreatDoor.Vc
open Go

theorem oneL_bad0 : ∀ l : List UInt8, oneL l ≠ .bad 0 := by
  intro l hl
  cases l with
  | nil =>
    have h0 : oneL [] = One.bad 30 := rfl
    rw [h0] at hl; cases hl
  | cons c r =>
    rw [oneL_cons] at hl
    split at hl
    · cases hl
    split at hl
    · cases hl
    split at hl
    · cases hl
    split at hl
    · unfold hashL at hl
      split at hl
      · cases hl
      · rename_i d r' 
        dsimp only at hl
        generalize (if wordL (d :: r') = [] then [d] else wordL (d :: r')) = w at hl
        split at hl <;> cases hl
      · split at hl
        · cases hl
        split at hl <;> cases hl
    split at hl
    · split at hl <;> cases hl
    · unfold wordT at hl
      split at hl
      · cases hl
      split at hl
      · cases hl
      split at hl
      · split at hl <;> cases hl
      split at hl <;> cases hl
theorem One.lvs_tags (o : One) : tagsOk [.int .i64, .str, .int .i64, .int .i64, .int .i64, .int .i64] o.lvs = true := by cases o <;> rfl
theorem One.lv_pack (o : One) : o.lv = (RS.tu [(true, [.int .i64, .str, .int .i64, .int .i64, .int .i64]), (false, [.int .i64])]).pack o.lvs := by cases o <;> rfl
theorem cmp_eq8 {E : List Value} {a : SV} {c : UInt8} {n : Nat} (ha : ev E (fun _ => 0) a = .int .u8 (c.toNat : Int)) (hn : n < 256) : bOf (ev0 E (.cmp .eql a (.int .u8 n))) = decide (c = UInt8.ofNat n) := by
  have h : bOf (ev0 E (.cmp .eql a (.int .u8 n))) = (iOf (ev E (fun _ => 0) a) == (n : Int)) := rfl
  rw [h, ha, Bool.eq_iff_iff, beq_iff_eq, decide_eq_true_eq]; exact u8_eq_lit c n hn
theorem lnext_tri (s : List UInt8) (k p : Nat) (H0 H : PH) (hs : s.length ≤ 1099511627776) (hk : k < s.length) (hE : Errs H0) (h : LX H0 H p s k) :
    Tri Tryz.prog n_lex_lexer__next #[.pointer (some ⟨p, 0, none⟩)] H (LexTo H0 p s k (oneL (s.drop k))) := by
  refine tri_lex_lexer__next [.pointer (some ⟨p, 0, none⟩)] (by kernel_rfl) (by kernel_rfl) ?_
  obtain ⟨c, hc⟩ : ∃ c, s[k]? = some c := ⟨_, List.getElem?_eq_getElem hk⟩
  have hd := drop_get hc
  have p1 := plus1 (a := k) (by omega)
  have q : ev ([Value.pointer (some ⟨p, 0, none⟩)] ++ [txt s] ++ [.int .i64 k]) (fun _ => 0) (.sidx (.atom 1) (.atom 2)) = .int .u8 (c.toNat : Int) := ev_sidx (s := s) (k := k) rfl rfl hc
  have qe : ∀ n : Nat, n < 256 → bOf (ev0 ([Value.pointer (some ⟨p, 0, none⟩)] ++ [txt s] ++ [.int .i64 k]) (.cmp .eql (.sidx (.atom 1) (.atom 2)) (.int .u8 n))) = decide (c = UInt8.ofNat n) := fun n hn =>
    cmp_eq8 q hn
  have one : ∀ (kd : Int) (o : One), oneL (s.drop k) = o → o = .tok kd [] 0 1 → ∀ H2, LX H0 H2 p s (k + 1) → LexTo H0 p s k (oneL (s.drop k)) (.returned (.tuple #[.agg #[.int .i64 kd, txt [], .int .i64 0, .int .i64 0, .int .i64 0], .int .i64 0])) H2 := fun kd o h1 h2 H2 hx2 => by
    refine ⟨k + 1, ?_, hx2, ?_⟩
    · rw [h1, h2]; rfl
    · intro kd x n m he
      rw [h1, h2] at he; cases he; rfl
  have call : ∀ {o : One} {e : Ending} {H2 : PH}, LexTo H0 p s k o e H2 → ∃ v vs, e = .returned v ∧ tagsOk (RS.tu [(true, [.int .i64, .str, .int .i64, .int .i64, .int .i64]), (false, [.int .i64])]).tags vs = true ∧ v = (RS.tu [(true, [.int .i64, .str, .int .i64, .int .i64, .int .i64]), (false, [.int .i64])]).pack vs ∧ pendOk ([Value.pointer (some ⟨p, 0, none⟩)] ++ [txt s] ++ [.int .i64 k]) H2 [] ∧
      LexTo H0 p s k o (.returned (evV ([Value.pointer (some ⟨p, 0, none⟩)] ++ [txt s] ++ [.int .i64 k] ++ vs) (fun _ => 0) (.tu [(true, [(.atom 3), (.atom 4), (.atom 5), (.atom 6), (.atom 7)]), (false, [(.atom 8)])]))) H2 := by
    rintro o e H2 ⟨j, rfl, hx, hj⟩
    refine ⟨_, o.lvs, rfl, o.lvs_tags, o.lv_pack, pendNil, j, ?_, hx, hj⟩
    cases o <;> rfl
  refine den_lsome rfl (den_lstr rfl h (den_lat rfl h ⟨fun _ => inStr_of (s := s) (k := k) rfl rfl hk, ?_⟩))
  rw [hd, oneL_cons] at one ⊢
  refine ⟨fun h1 => ?_, fun h1 => ?_⟩
  · have h1 : c = 40 := of_decide_eq_true ((qe 40 (by omega)).symm.trans h1)
    exact den_lat rfl h (den_lput (k' := k + 1) rfl h (by simp only [ev0, ev, evV, List.cons_append, List.nil_append, List.getD_cons_zero, List.getD_cons_succ, List.map_cons, List.map_nil, iOf, bOf, sOf, pOf, slLen, slBase, cmpI, arI, Value.ite_bool, int_beq, int_bne, ite_band, ite_bor, p1]) fun H2 hx2 _ => one 0 _ rfl (by rw [if_pos h1]) H2 hx2)
  have h1 : ¬ c = 40 := of_decide_eq_false ((qe 40 (by omega)).symm.trans h1)
  rw [if_neg h1] at one ⊢
  refine ⟨fun h2 => ?_, fun h2 => ?_⟩
  · have h2 : c = 41 := of_decide_eq_true ((qe 41 (by omega)).symm.trans h2)
    exact den_lat rfl h (den_lput (k' := k + 1) rfl h (by simp only [ev0, ev, evV, List.cons_append, List.nil_append, List.getD_cons_zero, List.getD_cons_succ, List.map_cons, List.map_nil, iOf, bOf, sOf, pOf, slLen, slBase, cmpI, arI, Value.ite_bool, int_beq, int_bne, ite_band, ite_bor, p1]) fun H2 hx2 _ => one 1 _ rfl (by rw [if_pos h2]) H2 hx2)
  have h2 : ¬ c = 41 := of_decide_eq_false ((qe 41 (by omega)).symm.trans h2)
  rw [if_neg h2] at one ⊢
  refine ⟨fun h3 => ?_, fun h3 => ?_⟩
  · have h3 : c = 39 := of_decide_eq_true ((qe 39 (by omega)).symm.trans h3)
    exact den_lat rfl h (den_lput (k' := k + 1) rfl h (by simp only [ev0, ev, evV, List.cons_append, List.nil_append, List.getD_cons_zero, List.getD_cons_succ, List.map_cons, List.map_nil, iOf, bOf, sOf, pOf, slLen, slBase, cmpI, arI, Value.ite_bool, int_beq, int_bne, ite_band, ite_bor, p1]) fun H2 hx2 _ => one 3 _ rfl (by rw [if_pos h3]) H2 hx2)
  have h3 : ¬ c = 39 := of_decide_eq_false ((qe 39 (by omega)).symm.trans h3)
  rw [if_neg h3]
  clear one
  refine ⟨fun h4 => ?_, fun h4 => ?_⟩
  · have h4 : c = 35 := of_decide_eq_true ((qe 35 (by omega)).symm.trans h4)
    rw [if_pos h4]
    exact den_call cb_lex_lexer__hash (lhash_tri s k p H0 H hs hk hE h) fun e H2 h5 => call h5
  have h4 : ¬ c = 35 := of_decide_eq_false ((qe 35 (by omega)).symm.trans h4)
  rw [if_neg h4]
  refine ⟨fun h5 => ?_, fun h5 => ?_⟩
  · have h5 : c = 34 := of_decide_eq_true ((qe 34 (by omega)).symm.trans h5)
    rw [if_pos h5]
    have hto : textOne s k = oneL (c :: s.drop (k + 1)) := by
      rw [oneL_cons, if_neg h1, if_neg h2, if_neg h3, if_neg h4, if_pos h5]
      unfold textOne
      cases textB (s.drop (k + 1)) with
      | none => rfl
      | some x => simp only [List.length_drop]; congr 1; omega
    have ht := ltext_tri s k p H0 H hs hk hE h
    rw [hto, oneL_cons, if_neg h1, if_neg h2, if_neg h3, if_neg h4, if_pos h5] at ht
    exact den_call cb_lex_lexer__text ht fun e H2 h5 => call h5
  have h5 : ¬ c = 34 := of_decide_eq_false ((qe 34 (by omega)).symm.trans h5)
  rw [if_neg h5]
  have := lplain_tri s k p H0 H hs hk hE h
  rw [hd] at this
  exact den_call cb_lex_lexer__plain this fun e H2 h5 => call h5

theorem tksFlat : ∀ {l : List Tk} (H H' : PH) (xs : List Value), PV.RepRow H (l.flatMap pv) xs → PV.RepRow H' (l.flatMap pv) xs
  | [], H, H', xs, h => by simp only [List.flatMap_nil, PV.RepRow] at h ⊢; exact h
  | .mk k t n a b :: l, H, H', xs, h => by
    rw [List.flatMap_cons] at h ⊢
    have h' : PV.RepRow H (.int .i64 k :: .str t :: .int .i64 n :: .int .i64 a :: .int .i64 b :: l.flatMap pv) xs := h
    show PV.RepRow H' (.int .i64 k :: .str t :: .int .i64 n :: .int .i64 a :: .int .i64 b :: l.flatMap pv) xs
    simp only [PV.RepRow, PV.Rep] at h' ⊢
    obtain ⟨v1, w1, rfl, g1, v2, w2, rfl, g2, v3, w3, rfl, g3, v4, w4, rfl, g4, v5, w5, rfl, g5, g6⟩ := h'
    exact ⟨v1, _, rfl, g1, v2, _, rfl, g2, v3, _, rfl, g3, v4, _, rfl, g4, v5, w5, rfl, g5, tksFlat H H' w5 g6⟩
theorem Acc.ob_ne {α : Type} [Enc α] {H0 H : PH} {e : TypeId} {l : List α} {v : Value} {p : Nat} (h : Acc H0 (H.del p) e l v) : ob v ≠ some p := by
  intro hk
  obtain ⟨xs, h1, _⟩ := h.own
  rcases h1.2 with ⟨rfl, _⟩ | ⟨g, cap, cur, rfl, h3, _⟩
  · cases hk
  · cases hk
    rw [PH.del_none] at h3; cases h3

theorem LTokens_tri (s : List UInt8) (hs : s.length ≤ maxLen) (H : PH) (hE : Errs H) : GivesT n_lex_Tokens [txt s] H (tokens s) := by
  refine tri_lex_Tokens [txt s] (by kernel_rfl) (by kernel_rfl) ?_
  rw [tokens_eq]
  refine ⟨fun h => ?_, fun h => ?_⟩
  · simp only [ev0, ev, evV, List.cons_append, List.nil_append, List.getD_cons_zero, List.getD_cons_succ, List.map_cons, List.map_nil, iOf, bOf, sOf, pOf, slLen, slBase, cmpI, arI, Value.ite_bool, int_beq, int_bne, ite_band, ite_bor, txt_size, decide_eq_true_eq] at h
    rw [if_pos (by omega)]
    exact ⟨.slice none 0 0, rfl, SlR.mk_iff.2 ⟨Nat.zero_le _, .inl ⟨rfl, rfl⟩⟩, PH.le_refl H⟩
  simp only [ev0, ev, evV, List.cons_append, List.nil_append, List.getD_cons_zero, List.getD_cons_succ, List.map_cons, List.map_nil, iOf, bOf, sOf, pOf, slLen, slBase, cmpI, arI, Value.ite_bool, int_beq, int_bne, ite_band, ite_bor, txt_size, decide_eq_false_iff_not] at h
  rw [if_neg (by omega)]
  have hs4 : s.length ≤ 4096 := by omega
  intro pt hpt
  have hx0 : LX H (H.upd pt (.cells #[txt s, .int .i64 (0 : Nat)] 73 (0, 0))) pt s 0 := ⟨PH.upd_same, by rw [PH.del_upd]; exact PH.le_del (PH.le_refl H) hpt⟩
  refine den_call cb_lex_lexer__gap (lgap_tri s 0 pt H _ (by omega) (by omega) hx0) ?_
  rintro e H1 ⟨rfl, hx1⟩
  rw [List.drop_zero] at hx1
  refine ⟨_, [], rfl, rfl, rfl, pendNil, ?_⟩
  have hg0 := gap_at (s := s) (k := 0) (by omega) false
  rw [List.drop_zero] at hg0
  refine ⟨fun m vs H' => ∃ (p : Nat) (v : Value) (out : List Tk), vs = [.slice none 0 0, .int .i64 0, .int .i64 0, v] ∧ p + m = s.length ∧ out.length ≤ 2048 ∧ Acc H (H'.del pt) 54 out v ∧ LX H H' pt s p ∧ tokL s.length (gapL false s) 0 = (tokL s.length (s.drop p) out.length).pre out, ⟨(gapL false s).length, s.length - (gapL false s).length, .slice none 0 0, [], rfl, ?_, by simp, (Acc.nil H _).mono hx1.le, hx1, ?_⟩, ?_⟩
  · have := gapL_len false s; omega
  · rw [hg0, Toks.pre_nil]; rfl
  rintro m vs H' _ ⟨p, v, out, rfl, hm, hol, hacc, hx, htk⟩
  obtain ⟨bv, cv, hv⟩ := hacc.sl
  have hle : PH.le H H' := PH.le_trans hx.le (PH.del_le _ _)
  have empty : ∀ {H2 : PH}, SlR H2 ([] : List Tk) (.slice none 0 0) := SlR.mk_iff.2 ⟨Nat.zero_le _, .inl ⟨rfl, rfl⟩⟩
  refine den_lsome rfl (den_lat rfl hx ⟨fun h5 => ?_, fun h5 => ?_⟩)
  · simp only [ev0, ev, evV, List.cons_append, List.nil_append, List.getD_cons_zero, List.getD_cons_succ, List.map_cons, List.map_nil, iOf, bOf, sOf, pOf, slLen, slBase, cmpI, arI, Value.ite_bool, int_beq, int_bne, ite_band, ite_bor, txt_size, decide_eq_true_eq] at h5
    have hne : s.drop p ≠ [] := fun x => by rw [List.drop_eq_nil_iff] at x; omega
    have hpl : s.length - (s.drop p).length = p := by simp; omega
    rw [tokL_cons _ _ hne, hpl] at htk
    refine den_lat rfl hx ⟨fun h6 => ?_, fun h6 => ?_⟩
    · have h6' : out.length = 2048 := by
        have : cmpI .eql (slLen v : Int) 2048 = true := h6
        rw [hv] at this
        simp only [slLen, cmpI, int_beq, decide_eq_true_eq] at this
        omega
      rw [htk, if_pos h6']
      exact ⟨.slice none 0 0, rfl, empty, hle⟩
    · have h6' : ¬ out.length = 2048 := fun x => by
        have : cmpI .eql (slLen v : Int) 2048 = false := h6
        rw [hv] at this
        simp only [slLen, cmpI, int_beq, decide_eq_false_iff_not] at this
        omega
      rw [if_neg h6'] at htk
      refine den_call cb_lex_lexer__next (lnext_tri s p pt (H'.del pt) H' (by omega) (by omega) (hE.le hx.le) ⟨hx.at_, PH.le_refl _⟩) ?_
      rintro e H2 ⟨j, rfl, hx2', hj⟩
      have hx2 : LX H H2 pt s j := ⟨hx2'.at_, PH.le_trans hx.le hx2'.le⟩
      have hacc2 := hacc.mono hx2'.le
      have hdl : (s.drop p).length ≤ 1099511627776 := by rw [List.length_drop]; omega
      refine ⟨_, (oneL (s.drop p)).lvs, rfl, One.lvs_tags _, One.lv_pack _, pendNil, ?_⟩
      cases ho : oneL (s.drop p) with
      | bad er =>
        rw [ho] at htk
        simp only [Toks.pre] at htk
        rw [htk]
        refine ⟨fun _ => ⟨.slice none 0 0, rfl, empty, PH.le_trans hx2.le (PH.del_le _ _)⟩, fun h10 => ?_⟩
        exfalso
        have her : er ≠ 0 := fun x => oneL_bad0 _ (by rw [ho, x])
        simp only [ev0, ev, evV, List.cons_append, List.nil_append, List.getD_cons_zero, List.getD_cons_succ, List.map_cons, List.map_nil, iOf, bOf, sOf, pOf, slLen, slBase, cmpI, arI, Value.ite_bool, int_beq, int_bne, ite_band, ite_bor, One.lvs] at h10
        simp [her] at h10
      | tok kd x n jn =>
        obtain ⟨k1, k2, k3, k4, k5⟩ := one_bounds hne hdl ho
        have hjl := one_len hne ho
        rw [List.length_drop] at hjl k3
        rw [ho] at htk
        have hje := hj _ _ _ _ ho
        subst hje
        simp only at htk
        rw [Toks.pre_cons] at htk
        refine ⟨fun h10 => absurd h10 (by simp [ev0, ev, evV, List.cons_append, List.nil_append, List.getD_cons_zero, List.getD_cons_succ, List.map_cons, List.map_nil, iOf, bOf, sOf, pOf, slLen, slBase, cmpI, arI, Value.ite_bool, One.lvs]), fun _ => den_lat rfl hx2 ?_⟩
        have hoff := fun {H3 : PH} {l : List Tk} {v' : Value} (a3 : Acc H H3 54 l v') (x3 : LX H H3 pt s (p + jn)) => (Acc.off tksFlat a3 x3.at_ (by decide)).base (PH.le_del (PH.le_refl H) hpt)
        refine den_push (more := [Tk.mk kd x n (p : Nat) (p + jn : Nat)]) (b := 48) [.agg #[.int .i64 kd, txt x, .int .i64 n, .int .i64 (p : Nat), .int .i64 (p + jn : Nat)]] uToks elemTk rfl (by decide) (by decide) ?_ (.cons ?_ .nil) pendNil (hacc2.mono (PH.del_le _ _)) (fun _ => rfl) (fun _ => rfl) (by simp only [maxLen, List.length_cons, List.length_nil]; omega) (by simp only [List.length_cons, List.length_nil]; omega) fun u v' H3 a3 w3 => ⟨pendNil, ?_⟩
        · rfl
        · refine Tk.Rep_iff.2 ⟨rfl, ?_, ?_, ?_, ?_, ?_⟩
          · exact ⟨by simp only [Tk.kind]; omega, by simp only [Tk.kind]; omega⟩
          · simp only [Tk.text, maxLen]; omega
          · exact ⟨by simp only [Tk.int]; omega, by simp only [Tk.int]; omega⟩
          · exact ⟨by simp only [Tk.at_]; omega, by simp only [Tk.at_]; omega⟩
          · exact ⟨by simp only [Tk.to]; omega, by simp only [Tk.to]; omega⟩
        have hx3 : LX H H3 pt s (p + jn) := ⟨w3.keep pt _ hx2.at_ (fun e => hacc2.ob_ne e.symm), PH.le_del a3.all hpt⟩
        have a3' := hoff a3 hx3
        refine den_call cb_lex_lexer__gap (lgap_tri s (p + jn) pt (H3.del pt) H3 (by omega) (by omega) ⟨hx3.at_, PH.le_refl _⟩) ?_
        rintro e H4 ⟨rfl, hx4⟩
        have hg1 := gapL_len false (s.drop (p + jn))
        rw [List.length_drop] at hg1
        refine ⟨_, [], rfl, rfl, rfl, pendNil, ?_⟩
        refine ⟨_, rfl, (gapL false (s.drop (p + jn))).length, by omega, s.length - (gapL false (s.drop (p + jn))).length, v', out ++ [Tk.mk kd x n (p : Nat) (p + jn : Nat)], rfl, by omega, by simp; omega, a3'.mono hx4.le, ⟨hx4.at_, PH.le_trans hx3.le hx4.le⟩, ?_⟩
        rw [htk, gap_at (by omega), List.drop_drop]
        simp only [List.length_append, List.length_cons, List.length_nil]
  · simp only [ev0, ev, evV, List.cons_append, List.nil_append, List.getD_cons_zero, List.getD_cons_succ, List.map_cons, List.map_nil, iOf, bOf, sOf, pOf, slLen, slBase, cmpI, arI, Value.ite_bool, int_beq, int_bne, ite_band, ite_bor, txt_size, decide_eq_false_iff_not] at h5
    have : s.drop p = [] := List.drop_eq_nil_of_le (by omega)
    rw [htk, this, tokL_nil]
    refine ⟨v, rfl, ?_, hle⟩
    simp only [Toks.pre, Toks.list, List.append_nil]
    exact (hacc.mono (PH.del_le _ _)).slR
end Go.Proofs.YtlnmmakbgldflaaGreatDoor.Vc

