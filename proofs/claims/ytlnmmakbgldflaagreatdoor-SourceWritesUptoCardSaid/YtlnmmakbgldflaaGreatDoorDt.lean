/-
  DATA that may be have the same text just if they are the same: a plain law. No program in sight.
-/
import Derived.Test.YtlnmmakbgldflaaGreatDoorDn
set_option linter.unusedSimpArgs false
set_option linter.unusedVariables false
set_option maxRecDepth 100000
namespace Go.Proofs.YtlnmmakbgldflaaGreatDoor.Vc
open Go

/-! ### numbers -/
/-- the number that digits say -/
def valL (l : List UInt8) : Nat := l.foldl (fun a c => 10 * a + (c.toNat - 48)) 0
theorem valL_snoc (l : List UInt8) (c : UInt8) : valL (l ++ [c]) = 10 * valL l + (c.toNat - 48) := by simp [valL]
theorem digit_toNat (k : Nat) (h : k < 10) : (UInt8.ofNat (48 + k)).toNat = 48 + k := UInt8.toNat_ofNat_of_lt' (by show _ < 256; omega)
theorem val_dec : ∀ u : Nat, valL (Lib.decDigits u) = u ∧ Lib.decDigits u ≠ [] ∧ (Lib.decDigits u).all (fun c => digitI c.toNat) = true := by
  intro u
  induction u using Nat.strongRecOn with
  | ind u ih =>
    by_cases h : u < 10
    · rw [Lib.decDigits_one h]
      have hd := digit_toNat u h
      refine ⟨?_, by simp, ?_⟩
      · simp only [valL, List.foldl_cons, List.foldl_nil, hd]; omega
      · simp only [List.all_cons, List.all_nil, Bool.and_true, hd, digitI]
        rw [if_pos (by omega)]; simp; omega
    · rw [Lib.decDigits, dif_neg h]
      have hr : u % 10 < 10 := Nat.mod_lt _ (by omega)
      have hd := digit_toNat (u % 10) hr
      obtain ⟨h1, h2, h3⟩ := ih (u / 10) (by omega)
      refine ⟨?_, by simp, ?_⟩
      · rw [valL_snoc, h1, hd]; omega
      · rw [List.all_append, h3]
        simp only [List.all_cons, List.all_nil, Bool.and_true, Bool.true_and, hd, digitI]
        rw [if_pos (by omega)]; simp; omega
theorem digit_not45 {c : UInt8} (h : digitI c.toNat = true) : c ≠ 45 ∧ c ≠ 43 := by
  constructor <;> (rintro rfl; revert h; decide)
theorem dec_head (u : Nat) : ∃ c r, Lib.decDigits u = c :: r ∧ digitI c.toNat = true := by
  obtain ⟨h1, h2, h3⟩ := val_dec u
  cases hl : Lib.decDigits u with
  | nil => exact absurd hl h2
  | cons c r =>
    rw [hl] at h3
    simp only [List.all_cons, Bool.and_eq_true] at h3
    exact ⟨c, r, rfl, h3.1⟩
theorem itoa_num (n : Int) : numB (Lib.itoa n) = true := by
  obtain ⟨c, r, h1, h2⟩ := dec_head n.natAbs
  have h3 := (val_dec n.natAbs).2.2
  rw [h1] at h3
  unfold Lib.itoa
  split
  · rw [h1]; simp only [numB]; simpa using h3
  · rename_i hn
    have : n.toNat = n.natAbs := by omega
    rw [this, h1]
    have hc := digit_not45 h2
    simp only [numB]
    rw [if_neg (by simp [hc.1, hc.2])]; exact h3
theorem digit_name {c : UInt8} (h : digitI c.toNat = true) : nameB c = true := by simp [nameB, h]
theorem itoa_name (n : Int) : (Lib.itoa n).all nameB = true ∧ Lib.itoa n ≠ [] := by
  have h3 := (val_dec n.natAbs).2
  have h4 : (Lib.decDigits n.natAbs).all nameB = true := List.all_eq_true.2 fun c hc => digit_name (List.all_eq_true.1 h3.2 c hc)
  unfold Lib.itoa
  split
  · refine ⟨?_, by simp⟩
    rw [List.all_cons, h4]; decide
  · rename_i hn
    have : n.toNat = n.natAbs := by omega
    rw [this]; exact ⟨h4, h3.1⟩

/-! ### what stands behind a text -/
def Delim (r : List UInt8) : Prop := r = [] ∨ ∃ c t, r = c :: t ∧ (c = 32 ∨ c = 41)
theorem Delim.noName {r : List UInt8} (h : Delim r) : ∀ c t, r = c :: t → nameB c = false := by
  rintro c t rfl
  rcases h with h | ⟨c', t', h, h'⟩
  · cases h
  · cases h
    rcases h' with rfl | rfl <;> decide
/-! ### characters and strings -/
/-- u begins v -/
def pre : List UInt8 → List UInt8 → Bool
  | [], _ => true
  | _ :: _, [] => false
  | a :: l, b :: m => a == b && pre l m
theorem u8_all {p : UInt8 → Bool} (h : (List.range 256).all (fun n => p (UInt8.ofNat n)) = true) (c : UInt8) : p c = true := by
  have := List.all_eq_true.1 h c.toNat (List.mem_range.2 (UInt8.toNat_lt c))
  simpa using this
/-- a character's text: two signs, any byte, name bytes -/
theorem char_parts (c : UInt8) : ∃ a w, charL c = 35 :: 92 :: a :: w ∧ w.all nameB = true := by
  unfold charL
  split
  · exact ⟨_, _, rfl, by decide⟩
  split
  · exact ⟨_, _, rfl, by decide⟩
  split
  · exact ⟨_, _, rfl, by decide⟩
  · exact ⟨_, _, rfl, u8_all (p := fun c => (twoL c).all nameB) (by decide +kernel) c⟩
/-! ### the kind of a text, by its first bytes -/
theorem name_ne {l : List UInt8} (h : nameOk l = true) : l ≠ [] ∧ l.all nameB = true ∧ l ≠ [46] ∧ numB l = false := by
  simp only [nameOk, Bool.and_eq_true, Bool.not_eq_true', decide_eq_true_eq] at h
  obtain ⟨⟨⟨⟨h1, h2⟩, h3⟩, h4⟩, h5⟩ := h
  exact ⟨by rintro rfl; simp at h2, h1, h4, h5⟩
/-- a datum that may be: its kind, and what of its fields is of moment -/
theorem form_cases {d : Dat} (h : formOk d = true) :
    (d.kind = 0 ∧ (d.int = 0 ∨ d.int = 1) ∧ d.text = [] ∧ d.list = []) ∨ (d.kind = 1 ∧ d.text = [] ∧ d.list = []) ∨ (d.kind = 2 ∧ 0 ≤ d.int ∧ d.int ≤ 255 ∧ d.text = [] ∧ d.list = []) ∨ (d.kind = 3 ∧ d.int = 0 ∧ d.list = []) ∨
    (d.kind = 4 ∧ d.int = 0 ∧ d.list = [] ∧ nameOk d.text = true) ∨ (d.kind = 5 ∧ d.int = 0 ∧ d.text = []) ∨ (d.kind = 6 ∧ d.int = 0 ∧ d.text = [] ∧ 2 ≤ d.list.length) ∨ (d.kind = 7 ∧ d.int = 0 ∧ d.text = []) := by
  obtain ⟨k, n, t, l⟩ := d
  simp only [formOk, Dat.kind, Dat.int, Dat.text, Dat.list, List.isEmpty_iff] at h ⊢
  by_cases h0 : k = 0
  · subst h0; simp at h ⊢; obtain ⟨⟨h1, h2⟩, h3⟩ := h; exact ⟨h3.imp of_decide_eq_true of_decide_eq_true, of_decide_eq_true h1, h2⟩
  by_cases h1 : k = 1
  · subst h1; simp at h ⊢; exact ⟨of_decide_eq_true h.1.1.1, h.1.1.2⟩
  by_cases h2 : k = 2
  · subst h2; simp at h ⊢; obtain ⟨⟨⟨a, b⟩, c⟩, e⟩ := h; exact ⟨of_decide_eq_true c, of_decide_eq_true e, of_decide_eq_true a, b⟩
  by_cases h3 : k = 3
  · subst h3; simp at h ⊢; obtain ⟨⟨a, b⟩, c⟩ := h; exact ⟨of_decide_eq_true a, b⟩
  by_cases h4 : k = 4
  · subst h4; simp at h ⊢; obtain ⟨⟨a, b⟩, c⟩ := h; exact ⟨of_decide_eq_true a, b, c⟩
  by_cases h5 : k = 5
  · subst h5; simp at h ⊢; exact ⟨of_decide_eq_true h.1, of_decide_eq_true h.2⟩
  by_cases h7 : k = 7
  · subst h7; simp at h ⊢; exact ⟨of_decide_eq_true h.1, of_decide_eq_true h.2⟩
  by_cases h6 : k = 6
  · subst h6; simp at h ⊢; obtain ⟨⟨⟨a, b⟩, c⟩, e⟩ := h; exact ⟨of_decide_eq_true a, of_decide_eq_true b, of_decide_eq_true c⟩
  · simp [h0, h1, h2, h3, h4, h5, h6, h7] at h
end Go.Proofs.YtlnmmakbgldflaaGreatDoor.Vc

