/-
  DATA: the texts of the document's answer.
-/
import Derived.Test.YtlnmmakbgldflaaDoorDe
import Derived.Test.YtlnmmakbgldflaaDoorWd
set_option linter.unusedSimpArgs false
set_option linter.unusedVariables false
set_option maxRecDepth 100000
namespace Go.Proofs.YtlnmmakbgldflaaDoor.Vc
open Go

def hexL : List UInt8 := [48, 49, 50, 51, 52, 53, 54, 55, 56, 57, 97, 98, 99, 100, 101, 102]
def hexB (n : Nat) : UInt8 := hexL.getD n 0
def twoL (c : UInt8) : List UInt8 := [hexB (c.toNat / 16), hexB (c.toNat % 16)]
theorem hex_cut (a : Nat) (h : a < 16) : (hexL.take (a + 1)).drop a = [hexB a] := by
  have : ∀ a, a < 16 → (hexL.take (a + 1)).drop a = [hexB a] := by decide
  exact this a h
theorem cat_txt (a b : List UInt8) : (⟨a.toArray⟩ : ByteArray) ++ ⟨b.toArray⟩ = ⟨(a ++ b).toArray⟩ := by
  apply ByteArray.ext
  simp

theorem uBytes : Tryd.prog.underlying 39 = some (.slice 5) := by kernel_rfl
theorem uString : Tryd.prog.underlying 9 = some .string := by kernel_rfl
theorem uByte : Tryd.prog.underlying 5 = some (.int .u8) := by kernel_rfl
theorem iByte : (Tryd.prog.info? 5).map (fun i => (i.size, i.bytes, i.zero)) = some (1, 1, some (.int .u8 0)) := by kernel_rfl
theorem infoByte : ∃ i, Tryd.prog.info? 5 = some i ∧ i.size = 1 ∧ i.bytes = 1 ∧ i.zero = some (.int .u8 0) := by
  have h := iByte
  rw [Option.map_eq_some_iff] at h
  obtain ⟨i, hi, he⟩ := h
  simp only [Prod.mk.injEq] at he
  exact ⟨i, hi, he.1, he.2.1, he.2.2⟩
def charL (c : UInt8) : List UInt8 :=
  if c = 32 then [35, 92, 115, 112, 97, 99, 101] else if c = 10 then [35, 92, 110, 101, 119, 108, 105, 110, 101] else if 32 < c ∧ c < 127 then [35, 92, c] else [35, 92, 120] ++ twoL c
theorem u8_eq_lit (c : UInt8) (n : Nat) (hn : n < 256) : ((c.toNat : Int) = (n : Int)) ↔ c = UInt8.ofNat n := by
  constructor
  · intro h
    apply UInt8.toNat_inj.1
    rw [UInt8.toNat_ofNat_of_lt' (by simpa using hn)]; omega
  · rintro rfl
    rw [UInt8.toNat_ofNat_of_lt' (by simpa using hn)]
set_option maxRecDepth 100000 in
/-- one byte, laid in a row of its own and made a text -/
theorem byteText {ρ : Operand → Value} {x : Operand} {ty : TypeId} {c : UInt8} {H : PH} {Φ : Next → PH → Prop} {Ψ : Value → PH → Prop} (hx : ρ x = .int .u8 (c.toNat : Int))
    (hk : ∀ r, H r = none → Φ (.value (.slice (some ⟨r, 0, none⟩) 1 1)) (H.upd r (.cells #[.int .u8 (c.toNat : Int)] 5))) : wpS Tryd.prog (execOp ρ (bare (.buildSlice 39 1 #[(0, x)]) ty)) Φ Ψ H := by
  obtain ⟨i, hi, i1, i2, i3⟩ := infoByte
  rw [exec_buildSlice]
  refine wpS_buildSlice uBytes hi i3 (by omega) (by omega) (cells := #[.int .u8 (c.toNat : Int)]) ?_ hk
  rw [i1]
  simp only [List.map_toArray, List.map_cons, List.map_nil, hx]
  generalize (c.toNat : Int) = v
  kernel_rfl
end Go.Proofs.YtlnmmakbgldflaaDoor.Vc

