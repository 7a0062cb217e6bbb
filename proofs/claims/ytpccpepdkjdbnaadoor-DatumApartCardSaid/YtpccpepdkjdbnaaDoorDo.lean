/-
  DATA: the fixed calls; the law of the checks.
-/
import Derived.Test.YtpccpepdkjdbnaaDoorDn
set_option linter.unusedSimpArgs false
set_option linter.unusedVariables false
namespace Go.Proofs.YtpccpepdkjdbnaaDoor.Vc
open Go

theorem uDats : Tryd.prog.underlying 22 = some (.slice 24) := by kernel_rfl
theorem elemDat : ElemOk Tryd.prog 24 4 56 = true := by kernel_rfl
instance decInI (n : Int) : Decidable (InI n) := inferInstanceAs (Decidable (_ ∧ _))
/-- a datum without items, written out -/
theorem leaf_rep {H : PH} {k n : Int} {t : List UInt8} (hk : InI k) (hn : InI n) (ht : t.length ≤ maxLen) : Dat.Rep H (.mk k n t []) [.int .i64 k, .int .i64 n, txt t, .slice none 0 0] :=
  Dat.Rep_iff.2 ⟨_, rfl, hk, hn, ht, SlR.mk_iff.2 ⟨Nat.zero_le _, .inl ⟨rfl, rfl⟩⟩⟩
def fx1 : Dat := .mk 5 0 [] [.mk 4 0 [97] [], .mk 3 0 [98, 34] [], .mk 2 32 [] []]
def fx2 : Dat := .mk 6 0 [] [.mk 1 1 [] [], .mk 1 (-2) [] []]
def fx3 : Dat := .mk 1 0 [120] []
theorem fx1_ok : (fx1.chk 0 0).2 = 0 := by decide +kernel
theorem fx2_ok : (fx2.chk 0 0).2 = 0 := by decide +kernel
theorem fx3_no : (fx3.chk 0 0).2 = 20 := by decide +kernel
theorem fx1_text : fx1.textL false = [40, 97, 32, 34, 98, 92, 34, 34, 32, 35, 92, 115, 112, 97, 99, 101, 41] := by
  rw [Dat.textL, if_pos fx1_ok]; decide +kernel
theorem fx1_show : fx1.textL true = [40, 97, 32, 98, 34, 32, 32, 41] := by
  rw [Dat.textL, if_pos fx1_ok]; decide +kernel
theorem itoa_1 : Lib.itoa 1 = [49] := by
  unfold Lib.itoa
  rw [if_neg (by decide), Lib.decDigits_one (by decide)]; rfl
theorem itoa_m2 : Lib.itoa (-2) = [45, 50] := by
  unfold Lib.itoa
  rw [if_pos (by decide), Lib.decDigits_one (by decide)]; rfl
theorem fx2_text : fx2.textL false = [40, 49, 32, 46, 32, 45, 50, 41] := by
  rw [Dat.textL, if_pos fx2_ok]
  simp [fx2, Dat.txtL, Dats.txtL, itoa_1, itoa_m2]
theorem name_1p : nameOk [49, 43] = true := by decide +kernel
theorem name_m5 : nameOk [45, 53] = false := by decide +kernel

theorem fixed_gives (H : PH) (ht : Tab H) : Gives Tryd.prog n_scrimshawlaw02_fixed [] H (.bool true) := by
  refine tri_scrimshawlaw02_fixed [] (by kernel_rfl) (by kernel_rfl) ?_
  refine den_lit (l := fx1.list) (b := 56) [.agg #[.int .i64 4, .int .i64 0, txt [97], .slice none 0 0], .agg #[.int .i64 3, .int .i64 0, txt [98, 34], .slice none 0 0], .agg #[.int .i64 2, .int .i64 32, txt [], .slice none 0 0]] uDats elemDat rfl (by decide) (by decide) rfl
    (.cons (leaf_rep (by decide) (by decide) (by decide)) (.cons (leaf_rep (by decide) (by decide) (by decide)) (.cons (leaf_rep (by decide) (by decide) (by decide)) .nil))) pendNil fun v1 H1 a1 l1 _ => ?_
  have r1 : fx1.Rep H1 [.int .i64 5, .int .i64 0, txt [], v1] := Dat.Rep_iff.2 ⟨_, rfl, by decide, by decide, by decide, a1.slR⟩
  have t1 := DText_gives fx1 _ H1 r1 (ht.le l1)
  rw [fx1_ok, fx1_text] at t1
  refine den_gives [txt _, .int .i64 0] cb_data_Text t1 rfl pendNil fun H2 l2 => ?_
  have s1 := DShow_gives fx1 _ H2 (Dat.Rep.le l2 _ r1) (ht.le (PH.le_trans l1 l2))
  rw [fx1_ok, fx1_show] at s1
  refine den_gives [txt _, .int .i64 0] cb_data_Show s1 rfl pendNil fun H3 l3 => ?_
  refine den_lit (l := fx2.list) (b := 56) [.agg #[.int .i64 1, .int .i64 1, txt [], .slice none 0 0], .agg #[.int .i64 1, .int .i64 (-2), txt [], .slice none 0 0]] uDats elemDat rfl (by decide) (by decide) rfl
    (.cons (leaf_rep (by decide) (by decide) (by decide)) (.cons (leaf_rep (by decide) (by decide) (by decide)) .nil)) pendNil fun v2 H4 a2 l4 _ => ?_
  have l14 := PH.le_trans l1 (PH.le_trans l2 (PH.le_trans l3 l4))
  have r2 : fx2.Rep H4 [.int .i64 6, .int .i64 0, txt [], v2] := Dat.Rep_iff.2 ⟨_, rfl, by decide, by decide, by decide, a2.slR⟩
  have t2 := DText_gives fx2 _ H4 r2 (ht.le l14)
  rw [fx2_ok, fx2_text] at t2
  refine den_gives [txt _, .int .i64 0] cb_data_Text t2 rfl pendNil fun H5 l5 => ?_
  have c3 := DCheckF_gives fx3 _ H5 (leaf_rep (k := 1) (n := 0) (t := [120]) (by decide) (by decide) (by decide))
  rw [fx3_no] at c3
  refine den_gives [.int .i64 20] cb_data_Check c3 rfl pendNil fun H6 l6 => ?_
  have l16 := PH.le_trans l14 (PH.le_trans l5 l6)
  refine ⟨fun vs H' => vs = [.bool true] ∧ PH.le H H', ?_, fun _ => ?_, fun h => ?_⟩
  · rintro vs H' _ ⟨rfl, h⟩; exact ⟨rfl, h⟩
  · have n1 := Name_gives [49, 43] (by decide) H6
    rw [name_1p] at n1
    refine den_gives [.bool true] cb_data_Name n1 rfl pendNil fun H7 l7 => ⟨fun _ => ?_, fun h => ?_⟩
    · have n2 := Name_gives [45, 53] (by decide) H7
      rw [name_m5] at n2
      exact den_gives [.bool false] cb_data_Name n2 rfl pendNil fun H8 l8 => ⟨_, lookup_hit, rfl, PH.le_trans l16 (PH.le_trans l7 l8)⟩
    · exact absurd h (by simp [ev0, ev, evV, List.cons_append, List.nil_append, List.getD_cons_zero, List.getD_cons_succ, List.map_cons, List.map_nil, iOf, bOf, sOf, pOf, slLen, slBase, cmpI, arI, Value.ite_bool])
  · simp only [ev0, ev, evV, List.cons_append, List.nil_append, List.getD_cons_zero, List.getD_cons_succ, List.map_cons, List.map_nil, iOf, bOf, sOf, pOf, slLen, slBase, cmpI, arI, Value.ite_bool, int_beq, int_bne, ite_band, ite_bor, txt_eql] at h
    simp at h

theorem DatumChecks_gives (d : Dat) (s : List UInt8) (cs : List Value) (H : PH) (ht : Tab H) (hd : d.Rep H cs) (hs : s.length ≤ maxLen) : Gives Tryd.prog n_scrimshawlaw02_DatumChecks [.agg cs.toArray, txt s] H (.bool true) := by
  have c1 := fun H' hl => DCheckF_gives d cs H' (Dat.Rep.le (H := H) hl d hd)
  have c2 := fun H' hl => RCheckF_gives d cs H' (Dat.Rep.le (H := H) hl d hd)
  obtain ⟨sv, rfl, hk, hn, htx, hsl⟩ := Dat.Rep_iff.1 hd
  obtain ⟨b, c, rfl⟩ := hsl.sl
  refine tri_scrimshawlaw02_DatumChecks [.int .i64 d.kind, .int .i64 d.int, txt d.text, .slice b d.list.length c, txt s] (by kernel_rfl) (by kernel_rfl) ?_
  refine ⟨fun vs H' => vs = [.bool true] ∧ PH.le H H', ?_, ?_⟩
  · rintro vs H' _ ⟨rfl, h⟩; exact ⟨rfl, h⟩
  refine den_gives [.bool true] cb_scrimshawlaw02_fixed (fixed_gives H ht) rfl pendNil fun H1 l1 => ⟨fun _ => ?_, fun h => absurd h (by simp [ev0, ev, evV, List.cons_append, List.nil_append, List.getD_cons_zero, List.getD_cons_succ, List.map_cons, List.map_nil, iOf, bOf, sOf, pOf, slLen, slBase, cmpI, arI, Value.ite_bool])⟩
  refine den_gives [.int .i64 (d.chk 0 0).2] cb_data_Check (c1 H1 l1) rfl pendNil fun H2 l2 => ?_
  have l12 := PH.le_trans l1 l2
  refine den_gives [.int .i64 (d.chk 0 0).2] cb_scrimshawref02_Check (c2 H2 l12) rfl pendNil fun H3 l3 => ⟨fun _ => ?_, fun h => absurd h (by simp [ev0, ev, evV, List.cons_append, List.nil_append, List.getD_cons_zero, List.getD_cons_succ, List.map_cons, List.map_nil, iOf, bOf, sOf, pOf, slLen, slBase, cmpI, arI, Value.ite_bool])⟩
  refine den_gives [.bool (nameOk s)] cb_data_Name (Name_gives s hs H3) rfl pendNil fun H4 l4 => ?_
  refine den_gives [.bool (nameOk s)] cb_scrimshawref02_Name (RName_gives s hs H4) rfl pendNil fun H5 l5 => ⟨_, lookup_hit, by simp [ev0, ev, evV, List.cons_append, List.nil_append, List.getD_cons_zero, List.getD_cons_succ, List.map_cons, List.map_nil, iOf, bOf, sOf, pOf, slLen, slBase, cmpI, arI, Value.ite_bool], PH.le_trans l12 (PH.le_trans l3 (PH.le_trans l4 l5))⟩
end Go.Proofs.YtpccpepdkjdbnaaDoor.Vc
