/-
  DATA: the texts of the document's answer.
-/
import Derived.Test.YtlnmmakbgldflaaGreatDoorDe
import Derived.Test.YtlnmmakbgldflaaGreatDoorWd
set_option linter.unusedSimpArgs false
set_option linter.unusedVariables false
set_option maxRecDepth 100000
namespace Go.Proofs.YtlnmmakbgldflaaGreatDoor.Vc
open Go

def hexL : List UInt8 := [48, 49, 50, 51, 52, 53, 54, 55, 56, 57, 97, 98, 99, 100, 101, 102]
def hexB (n : Nat) : UInt8 := hexL.getD n 0
def twoL (c : UInt8) : List UInt8 := [hexB (c.toNat / 16), hexB (c.toNat % 16)]
theorem hex_cut (a : Nat) (h : a < 16) : (hexL.take (a + 1)).drop a = [hexB a] := by
  have : ∀ a, a < 16 → (hexL.take (a + 1)).drop a = [hexB a] := by decide
  exact this a h
theorem cat_txt (a b : List UInt8) : (⟨a.toArray⟩ : ByteArray) ++ ⟨b.toArray⟩ = ⟨(a ++ b).toArray⟩ := by
  apply ByteArray.ext
  simp

theorem Two_gives (c : UInt8) (H : PH) : Gives Tryz.prog n_scrimshawref02_Two [.int .u8 c.toNat] H (txt (twoL c)) := by
  refine tri_scrimshawref02_Two [.int .u8 c.toNat] (by kernel_rfl) (by kernel_rfl) ?_
  have hc : c.toNat < 256 := UInt8.toNat_lt c
  have q : arI .quo .u8 (c.toNat : Int) 16 = ((c.toNat / 16 : Nat) : Int) := by
    simp only [arI]
    rw [Int.tdiv_eq_ediv_of_nonneg (by omega), wu8 (by omega) (by omega)]; omega
  have m : arI .rem .u8 (c.toNat : Int) 16 = ((c.toNat % 16 : Nat) : Int) := by
    simp only [arI]
    rw [Int.tmod_eq_emod_of_nonneg (by omega)]; omega
  have q1 : arI .add .u8 ((c.toNat / 16 : Nat) : Int) 1 = ((c.toNat / 16 + 1 : Nat) : Int) := by
    simp only [arI]; rw [wu8 (by omega) (by omega)]; omega
  have m1 : arI .add .u8 ((c.toNat % 16 : Nat) : Int) 1 = ((c.toNat % 16 + 1 : Nat) : Int) := by
    simp only [arI]; rw [wu8 (by omega) (by omega)]; omega
  have s16 : (⟨#[48, 49, 50, 51, 52, 53, 54, 55, 56, 57, 97, 98, 99, 100, 101, 102]⟩ : ByteArray).size = 16 := rfl
  have cut : ∀ a, a < 16 → (⟨#[48, 49, 50, 51, 52, 53, 54, 55, 56, 57, 97, 98, 99, 100, 101, 102]⟩ : ByteArray).extract a (a + 1) = ⟨[hexB a].toArray⟩ := fun a h => by
    rw [← hex_cut a h]; exact extract_txt hexL a (a + 1)
  refine ⟨fun _ => ?_, fun _ => ?_, fun _ => ?_, ?_, PH.le_refl H⟩
  · simp only [Chk.holds, ev0, ev, List.getD_cons_zero, iOf, q, q1, sOf, s16]; omega
  · simp only [Chk.holds, ev0, ev, List.getD_cons_zero, iOf, m, m1, sOf, s16]; omega
  · simp only [Chk.holds, ev0, ev, List.getD_cons_zero, iOf, q, q1, m, m1, sOf, Int.toNat_natCast, cut _ (show c.toNat / 16 < 16 by omega), cut _ (show c.toNat % 16 < 16 by omega), txt_size, List.length_cons, List.length_nil]
    decide
  · simp only [evV, ev, List.getD_cons_zero, iOf, q, q1, m, m1, sOf, Int.toNat_natCast, cut _ (show c.toNat / 16 < 16 by omega), cut _ (show c.toNat % 16 < 16 by omega), cat_txt]
    rfl

theorem uBytes : Tryz.prog.underlying 39 = some (.slice 5) := by kernel_rfl
theorem uString : Tryz.prog.underlying 9 = some .string := by kernel_rfl
theorem uByte : Tryz.prog.underlying 5 = some (.int .u8) := by kernel_rfl
theorem iByte : (Tryz.prog.info? 5).map (fun i => (i.size, i.bytes, i.zero)) = some (1, 1, some (.int .u8 0)) := by kernel_rfl
theorem infoByte : ∃ i, Tryz.prog.info? 5 = some i ∧ i.size = 1 ∧ i.bytes = 1 ∧ i.zero = some (.int .u8 0) := by
  have h := iByte
  rw [Option.map_eq_some_iff] at h
  obtain ⟨i, hi, he⟩ := h
  simp only [Prod.mk.injEq] at he
  exact ⟨i, hi, he.1, he.2.1, he.2.2⟩
def charL (c : UInt8) : List UInt8 :=
  if c = 32 then [35, 92, 115, 112, 97, 99, 101] else if c = 10 then [35, 92, 110, 101, 119, 108, 105, 110, 101] else if 32 < c ∧ c < 127 then [35, 92, c] else [35, 92, 120] ++ twoL c
theorem u8_eq_lit (c : UInt8) (n : Nat) (hn : n < 256) : ((c.toNat : Int) = (n : Int)) ↔ c = UInt8.ofNat n := by
  constructor
  · intro h
    apply UInt8.toNat_inj.1
    rw [UInt8.toNat_ofNat_of_lt' (by simpa using hn)]; omega
  · rintro rfl
    rw [UInt8.toNat_ofNat_of_lt' (by simpa using hn)]
set_option maxRecDepth 100000 in
/-- one byte, laid in a row of its own and made a text -/
theorem byteText {ρ : Operand → Value} {x : Operand} {ty : TypeId} {c : UInt8} {H : PH} {Φ : Next → PH → Prop} {Ψ : Value → PH → Prop} (hx : ρ x = .int .u8 (c.toNat : Int))
    (hk : ∀ r, H r = none → Φ (.value (.slice (some ⟨r, 0, none⟩) 1 1)) (H.upd r (.cells #[.int .u8 (c.toNat : Int)] 5))) : wpS Tryz.prog (execOp ρ (bare (.buildSlice 39 1 #[(0, x)]) ty)) Φ Ψ H := by
  obtain ⟨i, hi, i1, i2, i3⟩ := infoByte
  rw [exec_buildSlice]
  refine wpS_buildSlice uBytes hi i3 (by omega) (by omega) (cells := #[.int .u8 (c.toNat : Int)]) ?_ hk
  rw [i1]
  simp only [List.map_toArray, List.map_cons, List.map_nil, hx]
  generalize (c.toNat : Int) = v
  kernel_rfl
theorem char_gives (c : UInt8) (H : PH) : Gives Tryz.prog n_scrimshawref02_char [.int .u8 c.toNat] H (txt (charL c)) := by
  refine tri_scrimshawref02_char [.int .u8 c.toNat] (by kernel_rfl) (by kernel_rfl) ?_
  have e32 : ((c.toNat : Int) = 32) ↔ c = 32 := u8_eq_lit c 32 (by omega)
  have e10 : ((c.toNat : Int) = 10) ↔ c = 10 := u8_eq_lit c 10 (by omega)
  have g1 := UInt8.lt_iff_toNat_lt (a := 32) (b := c)
  have g2 := UInt8.lt_iff_toNat_lt (a := c) (b := 127)
  have t32 : (32 : UInt8).toNat = 32 := rfl
  have t127 : (127 : UInt8).toNat = 127 := rfl
  rw [t32] at g1
  rw [t127] at g2
  refine ⟨fun h => ?_, fun h => ?_⟩
  · simp only [ev0, ev, evV, List.cons_append, List.nil_append, List.getD_cons_zero, List.getD_cons_succ, List.map_cons, List.map_nil, iOf, bOf, sOf, pOf, slLen, slBase, cmpI, arI, Value.ite_bool, int_beq, int_bne, ite_band, ite_bor, decide_eq_true_eq] at h
    refine ⟨?_, PH.le_refl H⟩
    rw [charL, if_pos (e32.1 h)]; rfl
  simp only [ev0, ev, evV, List.cons_append, List.nil_append, List.getD_cons_zero, List.getD_cons_succ, List.map_cons, List.map_nil, iOf, bOf, sOf, pOf, slLen, slBase, cmpI, arI, Value.ite_bool, int_beq, int_bne, ite_band, ite_bor, decide_eq_false_iff_not] at h
  have h' : ¬ c = 32 := fun x => h (e32.2 x)
  refine ⟨fun h1 => ?_, fun h1 => ?_⟩
  · simp only [ev0, ev, evV, List.cons_append, List.nil_append, List.getD_cons_zero, List.getD_cons_succ, List.map_cons, List.map_nil, iOf, bOf, sOf, pOf, slLen, slBase, cmpI, arI, Value.ite_bool, int_beq, int_bne, ite_band, ite_bor, decide_eq_true_eq] at h1
    refine ⟨?_, PH.le_refl H⟩
    rw [charL, if_neg h', if_pos (e10.1 h1)]; rfl
  simp only [ev0, ev, evV, List.cons_append, List.nil_append, List.getD_cons_zero, List.getD_cons_succ, List.map_cons, List.map_nil, iOf, bOf, sOf, pOf, slLen, slBase, cmpI, arI, Value.ite_bool, int_beq, int_bne, ite_band, ite_bor, decide_eq_false_iff_not] at h1
  have h1' : ¬ c = 10 := fun x => h1 (e10.2 x)
  refine ⟨fun h2 => ?_, fun h2 => ?_⟩
  · simp only [ev0, ev, evV, List.cons_append, List.nil_append, List.getD_cons_zero, List.getD_cons_succ, List.map_cons, List.map_nil, iOf, bOf, sOf, pOf, slLen, slBase, cmpI, arI, Value.ite_bool, int_beq, int_bne, ite_band, ite_bor] at h2
    simp at h2
    have h2' : 32 < c ∧ c < 127 := ⟨g1.2 (by omega), g2.2 (by omega)⟩
    refine byteText (c := c) rfl fun r hr => ⟨[_], rfl, rfl, pendNil, ?_⟩
    show wpS _ (execOp _ _) _ _ _
    rw [exec_convert]
    refine wpS_toText (l := [c]) uBytes uString uByte (fun j u hu => ?_) ⟨[_], rfl, rfl, pendNil, fun _ => ?_, ?_, PH.le_upd hr⟩
    · rw [Addr.add_plain, PH.cell_at PH.upd_same]
      cases j with
      | zero => simpa using hu
      | succ j => simp at hu
    · simp only [Chk.holds, ev0, ev, evV, List.cons_append, List.nil_append, List.getD_cons_zero, List.getD_cons_succ, List.map_cons, List.map_nil, iOf, bOf, sOf, pOf, slLen, slBase, cmpI, arI, Value.ite_bool, int_beq, int_bne, ite_band, ite_bor, txt_size, List.length_cons, List.length_nil]; decide
    · rw [charL, if_neg h', if_neg h1', if_pos h2']
      simp only [ev0, ev, evV, List.cons_append, List.nil_append, List.getD_cons_zero, List.getD_cons_succ, List.map_cons, List.map_nil, iOf, bOf, sOf, pOf, slLen, slBase, cmpI, arI, Value.ite_bool, int_beq, int_bne, ite_band, ite_bor, cat_txt]
  · simp only [ev0, ev, evV, List.cons_append, List.nil_append, List.getD_cons_zero, List.getD_cons_succ, List.map_cons, List.map_nil, iOf, bOf, sOf, pOf, slLen, slBase, cmpI, arI, Value.ite_bool, int_beq, int_bne, ite_band, ite_bor] at h2
    have h2' : ¬ (32 < c ∧ c < 127) := fun x => by
      have a1 := g1.1 x.1
      have a2 := g2.1 x.2
      simp at h2; omega
    refine den_gives [txt (twoL c)] cb_scrimshawref02_Two (Two_gives c H) rfl pendNil fun H1 h3 => ⟨fun _ => ?_, ?_, h3⟩
    · simp only [Chk.holds, ev0, ev, evV, List.cons_append, List.nil_append, List.getD_cons_zero, List.getD_cons_succ, List.map_cons, List.map_nil, iOf, bOf, sOf, pOf, slLen, slBase, cmpI, arI, Value.ite_bool, int_beq, int_bne, ite_band, ite_bor, txt_size, twoL, List.length_cons, List.length_nil]; decide
    · rw [charL, if_neg h', if_neg h1', if_neg h2']
      simp only [ev0, ev, evV, List.cons_append, List.nil_append, List.getD_cons_zero, List.getD_cons_succ, List.map_cons, List.map_nil, iOf, bOf, sOf, pOf, slLen, slBase, cmpI, arI, Value.ite_bool, int_beq, int_bne, ite_band, ite_bor, cat_txt]
end Go.Proofs.YtlnmmakbgldflaaGreatDoor.Vc

