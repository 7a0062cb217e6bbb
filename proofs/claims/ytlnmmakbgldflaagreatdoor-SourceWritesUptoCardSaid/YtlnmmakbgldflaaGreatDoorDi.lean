/-
  DATA: the text of a datum, by definition.
-/
import Derived.Test.YtlnmmakbgldflaaGreatDoorDh
set_option linter.unusedSimpArgs false
set_option linter.unusedVariables false
set_option maxRecDepth 100000
namespace Go.Proofs.YtlnmmakbgldflaaGreatDoor.Vc
open Go

def byteOf (n : Int) : UInt8 := UInt8.ofNat (n % 256).toNat
mutual
/-- a datum's text; bare: its show -/
def Dat.txtL (bare : Bool) : Dat → List UInt8
  | .mk k n t l => if k = 0 then (if n = 0 then [35, 102] else [35, 116]) else if k = 1 then Lib.itoa n else if k = 2 then (if bare then [byteOf n] else charL (byteOf n)) else if k = 3 then (if bare then t else quotedL t) else if k = 4 then t
      else (if k = 7 then [35, 40] else [40]) ++ Dats.txtL bare (decide (k = 6)) true l ++ [41]
def Dats.txtL (bare dotted : Bool) : Bool → List Dat → List UInt8
  | _, [] => []
  | first, d :: l => (if first then [] else [32]) ++ (if dotted && l.isEmpty then [46, 32] else []) ++ Dat.txtL bare d ++ Dats.txtL bare dotted false l
end
theorem byteOf_eq (n : Int) : IntKind.u8.wrap n = ((byteOf n).toNat : Int) := by
  have h : (n % 256).toNat < 256 := by omega
  rw [byteOf, UInt8.toNat_ofNat_of_lt' h]
  simp only [IntKind.wrap, IntKind.bits, IntKind.signed]; simp; omega
theorem charL_len (c : UInt8) : (charL c).length ≤ 9 := by
  unfold charL; split
  · simp
  split
  · simp
  split
  · simp
  · simp [twoL]
theorem itoa_len (n : Int) (h : InI n) : (Lib.itoa n).length ≤ 21 := by
  obtain ⟨a, b⟩ := h
  unfold Lib.itoa; split
  · have := digits_len n.natAbs (by omega); simp only [List.length_cons]; omega
  · have := digits_len n.toNat (by omega); omega
theorem quotedL_len (l : List UInt8) : (quotedL l).length ≤ 4 * l.length + 2 := by
  have := quotes_len l
  simp only [quotedL, List.length_append, List.length_cons, List.length_nil]; omega
mutual
theorem Dat.chk_len (bare : Bool) : ∀ (d : Dat) (deep seen : Nat), seen ≤ 4096 → (d.chk deep seen).2 = 0 → seen < (d.chk deep seen).1 ∧ (d.txtL bare).length + 3 ≤ 16500 * ((d.chk deep seen).1 - seen)
  | .mk k n t l, deep, seen, hs, h => by
    simp only [Dat.chk] at h ⊢
    split at h
    · simp at h
    rename_i h0
    rw [if_neg h0]
    split at h
    · simp at h
    rename_i h1
    rw [if_neg h1]
    split at h
    · simp at h
    rename_i h2
    rw [if_neg h2]
    have hf : formOk (.mk k n t l) = true := by simpa using h2
    have ih := Dats.chk_len bare (decide (k = 6)) true l (deep + 1) (seen + 1) (by omega) h
    refine ⟨by omega, ?_⟩
    have hch := charL_len (byteOf n)
    have hqu := quotedL_len t
    have hit : k = 1 → (Lib.itoa n).length ≤ 21 := fun hk => itoa_len n (by
      subst hk
      simp only [formOk, Dat.kind, Dat.int, Dat.text, Dat.list] at hf
      simp at hf
      obtain ⟨⟨_, h5⟩, h6⟩ := hf
      have h5 := of_decide_eq_true h5
      have h6 := of_decide_eq_true h6
      exact ⟨by omega, by omega⟩)
    have ht3 : k = 3 → t.length ≤ 4096 := fun hk => by
      subst hk
      simp only [formOk, Dat.kind, Dat.int, Dat.text, Dat.list] at hf
      simp at hf; exact of_decide_eq_true hf.2
    have ht4 : k = 4 → t.length ≤ 64 := fun hk => by
      subst hk
      simp only [formOk, Dat.kind, Dat.int, Dat.text, Dat.list, nameOk] at hf
      simp at hf; exact of_decide_eq_true hf.2.1.1.2
    simp only [Dat.txtL]
    split
    · split <;> simp <;> omega
    split
    · rename_i hk; have := hit hk; omega
    split
    · split
      · simp; omega
      · omega
    split
    · rename_i hk; have := ht3 hk
      split <;> omega
    split
    · rename_i hk; have := ht4 hk; omega
    · simp only [List.length_append, List.length_cons, List.length_nil]
      split <;> simp only [List.length_cons, List.length_nil] <;> omega
theorem Dats.chk_len (bare dotted : Bool) : ∀ (first : Bool) (l : List Dat) (deep seen : Nat), seen ≤ 4096 → (Dats.chk l deep seen).2 = 0 → seen ≤ (Dats.chk l deep seen).1 ∧ (Dats.txtL bare dotted first l).length ≤ 16500 * ((Dats.chk l deep seen).1 - seen)
  | _, [], _, _, _, _ => by simp [Dats.chk, Dats.txtL]
  | first, d :: l, deep, seen, hs, h => by
    simp only [Dats.chk] at h ⊢
    split at h
    · rename_i hx; exact absurd h hx
    rename_i hx
    rw [if_neg hx]
    have i1 := Dat.chk_len bare d deep seen hs (by simpa using hx)
    have hle := Dat.chk_le d deep seen hs
    have i2 := Dats.chk_len bare dotted false l deep (d.chk deep seen).1 hle h
    refine ⟨by omega, ?_⟩
    simp only [Dats.txtL, List.length_append]
    have e1 : (if first = true then [] else [32] : List UInt8).length ≤ 1 := by split <;> simp
    have e2 : (if (dotted && l.isEmpty) = true then [46, 32] else [] : List UInt8).length ≤ 2 := by split <;> simp
    omega
end
end Go.Proofs.YtlnmmakbgldflaaGreatDoor.Vc

