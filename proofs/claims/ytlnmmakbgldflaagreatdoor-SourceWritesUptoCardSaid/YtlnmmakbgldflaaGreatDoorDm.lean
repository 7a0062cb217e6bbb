/-
  DATA: the writer: a string, a datum; the two texts of a datum.
-/
import Derived.Test.YtlnmmakbgldflaaGreatDoorDl
set_option linter.unusedSimpArgs false
set_option linter.unusedVariables false
set_option maxRecDepth 100000
namespace Go.Proofs.YtlnmmakbgldflaaGreatDoor.Vc
open Go

theorem wtext_tri (l : List UInt8) (H0 H : PH) (w : Nat) (T : TypeId) (out : List UInt8) (bare : Bool) (h : WS H0 H w T out bare) (hl : (out ++ if bare then l else quotedL l).length ≤ 1099511627776) :
    Tri Tryz.prog n_data_writer__text #[.pointer (some ⟨w, 0, none⟩), txt l] H fun e H' => e = .returned (.tuple #[]) ∧ WS H0 H' w T (out ++ if bare then l else quotedL l) bare := by
  refine tri_data_writer__text [.pointer (some ⟨w, 0, none⟩), txt l] (by kernel_rfl) (by kernel_rfl) ?_
  obtain ⟨bv0, h0⟩ := id h
  refine ⟨fun _ => rfl, [.bool bare], rfl, h0.row1, fun hb => ?_, fun hb => ?_⟩
  · have hb : bare = true := hb
    subst hb
    refine den_wload rfl h fun bv hv => den_wtext l rfl hv rfl rfl (fun _ => rfl) (by simpa using hl) fun v' H' h1 => ⟨rfl, h1⟩
  have hb : bare = false := hb
  subst hb
  simp only [Bool.false_eq_true, if_false] at hl ⊢
  have hql := le_quotedL l
  have hq2 : (quotedL l).length = (l.flatMap quoteB).length + 2 := by simp [quotedL]
  simp only [List.length_append] at hl
  have hpre : ∀ k, (out ++ [34] ++ (l.take k).flatMap quoteB).length ≤ 1099511627776 - 1 := fun k => by
    have : (l.take k).flatMap quoteB ++ (l.drop k).flatMap quoteB = l.flatMap quoteB := by rw [← List.flatMap_append, List.take_append_drop]
    have := congrArg List.length this
    simp only [quotedL, List.length_append, List.length_cons, List.length_nil] at hl this ⊢
    omega
  refine den_wload rfl h fun bv hv => den_wpush [34] rfl hv rfl (by decide) (by decide) rfl pendNil (fun _ => rfl) (fun _ => rfl) (fun _ _ => rfl) (by simp only [List.length_append, List.length_cons, List.length_nil]; omega) fun u v' H1 h1 => ?_
  refine ⟨fun n vs H' => ∃ k : Nat, vs = [.int .i64 k] ∧ k + n = l.length ∧ WS H0 H' w T (out ++ [34] ++ (l.take k).flatMap quoteB) false, ⟨l.length, 0, rfl, by omega, by simpa using h1⟩, ?_⟩
  rintro n vs H' _ ⟨k, rfl, hkn, hw⟩
  refine ⟨fun h2 => ?_, fun h2 => ?_⟩
  · simp only [ev0, ev, evV, List.cons_append, List.nil_append, List.getD_cons_zero, List.getD_cons_succ, List.map_cons, List.map_nil, iOf, bOf, sOf, pOf, slLen, slBase, cmpI, arI, Value.ite_bool, int_beq, int_bne, ite_band, ite_bor, decide_eq_true_eq, txt_size] at h2
    have hkl : k < l.length := by omega
    obtain ⟨c, hc⟩ : ∃ c, l[k]? = some c := ⟨_, List.getElem?_eq_getElem hkl⟩
    have hcn := UInt8.toNat_lt c
    have htk : (l.take (k + 1)).flatMap quoteB = (l.take k).flatMap quoteB ++ quoteB c := by
      rw [List.take_add_one, hc, List.flatMap_append]; simp
    have hk1 : IntKind.i64.wrap ((k : Int) + 1) = ((k + 1 : Nat) : Int) := by rw [w64 (by omega) (by omega)]; omega
    have hpre1 := hpre (k + 1)
    rw [htk, ← List.append_assoc] at hpre1
    have hgc := get_txt hc
    have e34 : ((c.toNat : Int) = 34) ↔ c = 34 := u8_eq_lit c 34 (by omega)
    have e92 : ((c.toNat : Int) = 92) ↔ c = 92 := u8_eq_lit c 92 (by omega)
    have e10 : ((c.toNat : Int) = 10) ↔ c = 10 := u8_eq_lit c 10 (by omega)
    have g1 := UInt8.lt_iff_toNat_lt (a := c) (b := 32)
    have g2 := UInt8.lt_iff_toNat_lt (a := 126) (b := c)
    have t32 : (32 : UInt8).toNat = 32 := rfl
    have t126 : (126 : UInt8).toNat = 126 := rfl
    rw [t32] at g1
    rw [t126] at g2
    generalize hout : out ++ [34] ++ (l.take k).flatMap quoteB = o1 at hw hpre1
    refine ⟨fun vs H' => vs = [] ∧ WS H0 H' w T (o1 ++ quoteB c) false, ?_, fun _ => ?_, ?_⟩
    · rintro vs H2 _ ⟨rfl, hw2⟩
      refine ⟨_, lookup_hit, n - 1, by omega, k + 1, ?_, by omega, by rw [htk, ← List.append_assoc, hout]; exact hw2⟩
      simp only [ev0, ev, evV, List.cons_append, List.nil_append, List.getD_cons_zero, List.getD_cons_succ, List.map_cons, List.map_nil, iOf, bOf, sOf, pOf, slLen, slBase, cmpI, arI, Value.ite_bool, int_beq, int_bne, ite_band, ite_bor, hk1]
    · simp only [Chk.holds, ev0, ev, evV, List.cons_append, List.nil_append, List.getD_cons_zero, List.getD_cons_succ, List.map_cons, List.map_nil, iOf, bOf, sOf, pOf, slLen, slBase, cmpI, arI, Value.ite_bool, int_beq, int_bne, ite_band, ite_bor, txt_size]; omega
    have hE2 : ∀ E : List Value, E.getD 1 (Value.bool false) = txt l → E.getD 6 (Value.bool false) = .int .i64 k → ev E (fun _ => 0) (.sidx (.atom 1) (.atom 6)) = .int .u8 c.toNat := fun E x1 x2 => by
      simp only [ev0, ev, evV, List.cons_append, List.nil_append, List.getD_cons_zero, List.getD_cons_succ, List.map_cons, List.map_nil, iOf, bOf, sOf, pOf, slLen, slBase, cmpI, arI, Value.ite_bool, int_beq, int_bne, ite_band, ite_bor, x1, x2, hgc]
    refine ⟨fun h3 => ?_, fun h3 => ?_⟩
    · simp only [ev0, ev, evV, List.cons_append, List.nil_append, List.getD_cons_zero, List.getD_cons_succ, List.map_cons, List.map_nil, iOf, bOf, sOf, pOf, slLen, slBase, cmpI, arI, Value.ite_bool, int_beq, int_bne, ite_band, ite_bor, hgc] at h3
      have h3' : c = 34 ∨ c = 92 := by simpa [e34, e92] using h3
      have hq : quoteB c = [92, c] := by rw [quoteB, if_pos h3']
      rw [hq] at hpre1 ⊢
      refine den_wload rfl hw fun bv2 hv2 => den_wpush [92, c] rfl hv2 rfl (by decide) (by decide) ?_ pendNil (fun _ => rfl) (fun _ => rfl) (fun _ _ => rfl) (by omega) fun u v' H' h1 => ⟨_, lookup_hit, rfl, h1⟩
      simp only [argEv, List.lookup, List.map_cons, List.map_nil, idxs, show ((58 : Nat) == 58) = true from rfl, evV]
      rw [hE2 _ rfl rfl]
      rfl
    simp only [ev0, ev, evV, List.cons_append, List.nil_append, List.getD_cons_zero, List.getD_cons_succ, List.map_cons, List.map_nil, iOf, bOf, sOf, pOf, slLen, slBase, cmpI, arI, Value.ite_bool, int_beq, int_bne, ite_band, ite_bor, hgc] at h3
    have h3' : ¬ (c = 34 ∨ c = 92) := by simpa [e34, e92] using h3
    refine ⟨fun h4 => ?_, fun h4 => ?_⟩
    · simp only [ev0, ev, evV, List.cons_append, List.nil_append, List.getD_cons_zero, List.getD_cons_succ, List.map_cons, List.map_nil, iOf, bOf, sOf, pOf, slLen, slBase, cmpI, arI, Value.ite_bool, int_beq, int_bne, ite_band, ite_bor, hgc, decide_eq_true_eq] at h4
      have hq : quoteB c = [92, 110] := by rw [quoteB, if_neg h3', if_pos (e10.1 h4)]
      rw [hq] at hpre1 ⊢
      exact den_wload rfl hw fun bv2 hv2 => den_wpush [92, 110] rfl hv2 rfl (by decide) (by decide) rfl pendNil (fun _ => rfl) (fun _ => rfl) (fun _ _ => rfl) (by omega) fun u v' H' h1 => ⟨_, lookup_hit, rfl, h1⟩
    simp only [ev0, ev, evV, List.cons_append, List.nil_append, List.getD_cons_zero, List.getD_cons_succ, List.map_cons, List.map_nil, iOf, bOf, sOf, pOf, slLen, slBase, cmpI, arI, Value.ite_bool, int_beq, int_bne, ite_band, ite_bor, hgc, decide_eq_false_iff_not] at h4
    have h4' : ¬ c = 10 := fun x => h4 (e10.2 x)
    refine ⟨fun h5 => ?_, fun h5 => ?_⟩
    · simp only [ev0, ev, evV, List.cons_append, List.nil_append, List.getD_cons_zero, List.getD_cons_succ, List.map_cons, List.map_nil, iOf, bOf, sOf, pOf, slLen, slBase, cmpI, arI, Value.ite_bool, int_beq, int_bne, ite_band, ite_bor, hgc] at h5
      have h5' : c < 32 ∨ 126 < c := by
        simp at h5; rcases h5 with h5 | h5
        · exact .inl (g1.2 (by omega))
        · exact .inr (g2.2 (by omega))
      have hq : quoteB c = [92, 120] ++ twoL c := by rw [quoteB, if_neg h3', if_neg h4', if_pos h5']
      rw [hq] at hpre1 ⊢
      have hq : c.toNat / 16 < 16 := by omega
      have hr : c.toNat % 16 < 16 := by omega
      have s16 : (⟨#[48, 49, 50, 51, 52, 53, 54, 55, 56, 57, 97, 98, 99, 100, 101, 102]⟩ : ByteArray).size = 16 := rfl
      have ex : ∀ (E : List Value) (a b : SV), ev E (fun _ => 0) (.ar .shr .u8 a b) = .int .u8 (arI .shr .u8 (iOf (ev E (fun _ => 0) a)) (iOf (ev E (fun _ => 0) b))) := fun _ _ _ => rfl
      have ey : ∀ (E : List Value) (a b : SV), ev E (fun _ => 0) (.ar .and .u8 a b) = .int .u8 (arI .and .u8 (iOf (ev E (fun _ => 0) a)) (iOf (ev E (fun _ => 0) b))) := fun _ _ _ => rfl
      have ez : ∀ (E : List Value) (a b : SV), ev E (fun _ => 0) (.sidx a b) = .int .u8 (((sOf (ev E (fun _ => 0) a))[(iOf (ev E (fun _ => 0) b)).toNat]?).getD 0).toNat := fun _ _ _ => rfl
      have ei : ∀ (E : List Value) (k : IntKind) (n : Int), ev E (fun _ => 0) (.int k n) = .int k n := fun _ _ _ => rfl
      have es : ∀ (E : List Value) (l : List UInt8), ev E (fun _ => 0) (.str l) = .string ⟨l.toArray⟩ := fun _ _ => rfl
      refine den_wload rfl hw fun bv2 hv2 => ⟨fun _ => ?_, fun _ => ?_, den_wpush ([92, 120] ++ twoL c) rfl hv2 rfl (by decide) (by decide) ?_ ?_ (fun _ => rfl) (fun _ => rfl) (fun _ _ => rfl) (by omega) fun u v' H' h1 => ⟨_, lookup_hit, rfl, h1⟩⟩
      · simp only [Chk.holds, ev0]
        rw [ex, hE2 _ rfl rfl]
        simp only [ei, es, iOf, sOf, hex_shr, s16]; omega
      · simp only [Chk.holds, ev0]
        rw [ey, hE2 _ rfl rfl]
        simp only [ei, es, iOf, sOf, hex_and, s16]; omega
      · have x1 := hex_at _ hq
        have x2 := hex_at _ hr
        simp only [argEv, List.lookup, List.map_cons, List.map_nil, idxs, show ((89 : Nat) == 89) = true from rfl, show ((92 : Nat) == 89) = false from rfl, show ((92 : Nat) == 92) = true from rfl, evV, twoL, List.cons_append, List.nil_append]
        rw [ez, ez, ex, ey]
        rw [hE2 _ rfl rfl]
        simp only [ei, es, iOf, sOf, hex_shr, hex_and, x1, x2]
        rfl
      · intro x hx
        simp only [List.mem_singleton] at hx
        subst hx
        exact hv2.row
    · simp only [ev0, ev, evV, List.cons_append, List.nil_append, List.getD_cons_zero, List.getD_cons_succ, List.map_cons, List.map_nil, iOf, bOf, sOf, pOf, slLen, slBase, cmpI, arI, Value.ite_bool, int_beq, int_bne, ite_band, ite_bor, hgc] at h5
      have h5' : ¬ (c < 32 ∨ 126 < c) := by
        rintro (x | x)
        · have := g1.1 x; simp at h5; omega
        · have := g2.1 x; simp at h5; omega
      have hq : quoteB c = [c] := by rw [quoteB, if_neg h3', if_neg h4', if_neg h5']
      rw [hq] at hpre1 ⊢
      refine den_wload rfl hw fun bv2 hv2 => den_wpush [c] rfl hv2 rfl (by decide) (by decide) ?_ pendNil (fun _ => rfl) (fun _ => rfl) (fun _ _ => rfl) (by omega) fun u v' H' h1 => ⟨_, lookup_hit, rfl, h1⟩
      simp only [argEv, List.lookup, List.map_cons, List.map_nil, idxs, show ((41 : Nat) == 41) = true from rfl, evV]
      rw [hE2 _ rfl rfl]
  · simp only [ev0, ev, evV, List.cons_append, List.nil_append, List.getD_cons_zero, List.getD_cons_succ, List.map_cons, List.map_nil, iOf, bOf, sOf, pOf, slLen, slBase, cmpI, arI, Value.ite_bool, int_beq, int_bne, ite_band, ite_bor, decide_eq_false_iff_not, txt_size] at h2
    have hk : k = l.length := by omega
    subst hk
    rw [List.take_length] at hw
    refine den_wload rfl hw fun bv2 hv2 => den_wpush [34] rfl hv2 rfl (by decide) (by decide) rfl pendNil (fun _ => rfl) (fun _ => rfl) (fun _ _ => rfl) (by simp only [quotedL, List.length_append, List.length_cons, List.length_nil] at hl ⊢; omega) fun u v' H' h1 => ⟨rfl, ?_⟩
    simp only [quotedL, List.append_assoc] at h1 ⊢
    exact h1
end Go.Proofs.YtlnmmakbgldflaaGreatDoor.Vc

