/-
  DATA that may be have the same text just if they are the same: a plain law. No program in sight.
-/
import Derived.Test.YtlnmmakbgldflaaGreatDoorDn
set_option linter.unusedSimpArgs false
set_option linter.unusedVariables false
set_option maxRecDepth 100000
namespace Go.Proofs.YtlnmmakbgldflaaGreatDoor.Vc
open Go

/-! ### numbers -/
/-- the number that digits say -/
def valL (l : List UInt8) : Nat := l.foldl (fun a c => 10 * a + (c.toNat - 48)) 0
theorem valL_snoc (l : List UInt8) (c : UInt8) : valL (l ++ [c]) = 10 * valL l + (c.toNat - 48) := by simp [valL]
theorem digit_toNat (k : Nat) (h : k < 10) : (UInt8.ofNat (48 + k)).toNat = 48 + k := UInt8.toNat_ofNat_of_lt' (by show _ < 256; omega)
theorem val_dec : ∀ u : Nat, valL (Lib.decDigits u) = u ∧ Lib.decDigits u ≠ [] ∧ (Lib.decDigits u).all (fun c => digitI c.toNat) = true := by
  intro u
  induction u using Nat.strongRecOn with
  | ind u ih =>
    by_cases h : u < 10
    · rw [Lib.decDigits_one h]
      have hd := digit_toNat u h
      refine ⟨?_, by simp, ?_⟩
      · simp only [valL, List.foldl_cons, List.foldl_nil, hd]; omega
      · simp only [List.all_cons, List.all_nil, Bool.and_true, hd, digitI]
        rw [if_pos (by omega)]; simp; omega
    · rw [Lib.decDigits, dif_neg h]
      have hr : u % 10 < 10 := Nat.mod_lt _ (by omega)
      have hd := digit_toNat (u % 10) hr
      obtain ⟨h1, h2, h3⟩ := ih (u / 10) (by omega)
      refine ⟨?_, by simp, ?_⟩
      · rw [valL_snoc, h1, hd]; omega
      · rw [List.all_append, h3]
        simp only [List.all_cons, List.all_nil, Bool.and_true, Bool.true_and, hd, digitI]
        rw [if_pos (by omega)]; simp; omega
theorem dec_inj {u v : Nat} (h : Lib.decDigits u = Lib.decDigits v) : u = v := by rw [← (val_dec u).1, h, (val_dec v).1]
theorem digit_not45 {c : UInt8} (h : digitI c.toNat = true) : c ≠ 45 ∧ c ≠ 43 := by
  constructor <;> (rintro rfl; revert h; decide)
theorem dec_head (u : Nat) : ∃ c r, Lib.decDigits u = c :: r ∧ digitI c.toNat = true := by
  obtain ⟨h1, h2, h3⟩ := val_dec u
  cases hl : Lib.decDigits u with
  | nil => exact absurd hl h2
  | cons c r =>
    rw [hl] at h3
    simp only [List.all_cons, Bool.and_eq_true] at h3
    exact ⟨c, r, rfl, h3.1⟩
theorem itoa_inj {m n : Int} (h : Lib.itoa m = Lib.itoa n) : m = n := by
  unfold Lib.itoa at h
  obtain ⟨c, r, h1, h2⟩ := dec_head m.toNat
  obtain ⟨c', r', h1', h2'⟩ := dec_head n.toNat
  split at h <;> split at h
  · have := dec_inj (List.cons.inj h).2; omega
  · rw [h1'] at h; exact absurd (List.cons.inj h).1.symm (digit_not45 h2').1
  · rw [h1] at h; exact absurd (List.cons.inj h).1 (digit_not45 h2).1
  · have := dec_inj h; omega
theorem itoa_num (n : Int) : numB (Lib.itoa n) = true := by
  obtain ⟨c, r, h1, h2⟩ := dec_head n.natAbs
  have h3 := (val_dec n.natAbs).2.2
  rw [h1] at h3
  unfold Lib.itoa
  split
  · rw [h1]; simp only [numB]; simpa using h3
  · rename_i hn
    have : n.toNat = n.natAbs := by omega
    rw [this, h1]
    have hc := digit_not45 h2
    simp only [numB]
    rw [if_neg (by simp [hc.1, hc.2])]; exact h3
theorem digit_name {c : UInt8} (h : digitI c.toNat = true) : nameB c = true := by simp [nameB, h]
theorem itoa_name (n : Int) : (Lib.itoa n).all nameB = true ∧ Lib.itoa n ≠ [] := by
  have h3 := (val_dec n.natAbs).2
  have h4 : (Lib.decDigits n.natAbs).all nameB = true := List.all_eq_true.2 fun c hc => digit_name (List.all_eq_true.1 h3.2 c hc)
  unfold Lib.itoa
  split
  · refine ⟨?_, by simp⟩
    rw [List.all_cons, h4]; decide
  · rename_i hn
    have : n.toNat = n.natAbs := by omega
    rw [this]; exact ⟨h4, h3.1⟩

/-! ### what stands behind a text -/
def Delim (r : List UInt8) : Prop := r = [] ∨ ∃ c t, r = c :: t ∧ (c = 32 ∨ c = 41)
theorem Delim.noName {r : List UInt8} (h : Delim r) : ∀ c t, r = c :: t → nameB c = false := by
  rintro c t rfl
  rcases h with h | ⟨c', t', h, h'⟩
  · cases h
  · cases h
    rcases h' with rfl | rfl <;> decide
/-- words of name bytes are told by what stands behind -/
theorem word_split : ∀ {u v r s : List UInt8}, u.all nameB = true → v.all nameB = true → (∀ c t, r = c :: t → nameB c = false) → (∀ c t, s = c :: t → nameB c = false) → u ++ r = v ++ s → u = v ∧ r = s
  | [], [], r, s, _, _, _, _, h => ⟨rfl, h⟩
  | [], d :: v, r, s, _, hv, hr, _, h => by
    simp only [List.all_cons, Bool.and_eq_true] at hv
    have := hr d (v ++ s) h
    rw [hv.1] at this; cases this
  | c :: u, [], r, s, hu, _, _, hs, h => by
    simp only [List.all_cons, Bool.and_eq_true] at hu
    have := hs c (u ++ r) h.symm
    rw [hu.1] at this; cases this
  | c :: u, d :: v, r, s, hu, hv, hr, hs, h => by
    simp only [List.all_cons, Bool.and_eq_true] at hu hv
    simp only [List.cons_append, List.cons.injEq] at h
    obtain ⟨rfl, h⟩ := h
    obtain ⟨h1, h2⟩ := word_split hu.2 hv.2 hr hs h
    exact ⟨by rw [h1], h2⟩

/-! ### characters and strings -/
/-- u begins v -/
def pre : List UInt8 → List UInt8 → Bool
  | [], _ => true
  | _ :: _, [] => false
  | a :: l, b :: m => a == b && pre l m
theorem pre_of : ∀ {u v x y : List UInt8}, u ++ x = v ++ y → pre u v = true ∨ pre v u = true
  | [], _, _, _, _ => .inl rfl
  | _ :: _, [], _, _, _ => .inr rfl
  | a :: u, b :: v, x, y, h => by
    simp only [List.cons_append, List.cons.injEq] at h
    simp only [pre, h.1, beq_self_eq_true, Bool.true_and]
    exact pre_of h.2
theorem u8_all {p : UInt8 → Bool} (h : (List.range 256).all (fun n => p (UInt8.ofNat n)) = true) (c : UInt8) : p c = true := by
  have := List.all_eq_true.1 h c.toNat (List.mem_range.2 (UInt8.toNat_lt c))
  simpa using this
theorem quote_free (c : UInt8) : ∀ d : UInt8, pre (quoteB c) (quoteB d) = true → c = d := by
  have key : ∀ c : UInt8, (List.range 256).all (fun m => !pre (quoteB c) (quoteB (UInt8.ofNat m)) || c == UInt8.ofNat m) = true :=
    u8_all (p := fun c => (List.range 256).all (fun m => !pre (quoteB c) (quoteB (UInt8.ofNat m)) || c == UInt8.ofNat m)) (by decide +kernel)
  intro d h
  have := u8_all (p := fun d => !pre (quoteB c) (quoteB d) || c == d) (key c) d
  simpa [h] using this
theorem quote_head (c : UInt8) : ∃ a r, quoteB c = a :: r ∧ a ≠ 34 := by
  have key := u8_all (p := fun c => match quoteB c with | [] => false | a :: _ => a != 34) (by decide +kernel) c
  cases h : quoteB c with
  | nil => simp [h] at key
  | cons a r => exact ⟨a, r, rfl, by simpa [h] using key⟩
theorem quoted_split : ∀ {l m r s : List UInt8}, l.flatMap quoteB ++ 34 :: r = m.flatMap quoteB ++ 34 :: s → l = m ∧ r = s
  | [], [], r, s, h => by simpa using h
  | [], d :: m, r, s, h => by
    obtain ⟨a, t, h1, h2⟩ := quote_head d
    rw [List.flatMap_cons, h1] at h
    simp at h
    exact absurd h.1.symm h2
  | c :: l, [], r, s, h => by
    obtain ⟨a, t, h1, h2⟩ := quote_head c
    rw [List.flatMap_cons, h1] at h
    simp at h
    exact absurd h.1 h2
  | c :: l, d :: m, r, s, h => by
    rw [List.flatMap_cons, List.flatMap_cons, List.append_assoc, List.append_assoc] at h
    have hcd : c = d := by
      rcases pre_of h with h1 | h1
      · exact quote_free c d h1
      · exact (quote_free d c h1).symm
    subst hcd
    have := quoted_split (List.append_cancel_left h)
    exact ⟨by rw [this.1], this.2⟩
/-- a character's text: two signs, any byte, name bytes -/
theorem char_parts (c : UInt8) : ∃ a w, charL c = 35 :: 92 :: a :: w ∧ w.all nameB = true := by
  unfold charL
  split
  · exact ⟨_, _, rfl, by decide⟩
  split
  · exact ⟨_, _, rfl, by decide⟩
  split
  · exact ⟨_, _, rfl, by decide⟩
  · exact ⟨_, _, rfl, u8_all (p := fun c => (twoL c).all nameB) (by decide +kernel) c⟩
theorem char_inj {c d : UInt8} (h : charL c = charL d) : c = d := by
  have key : ∀ c : UInt8, (List.range 256).all (fun m => !(charL c == charL (UInt8.ofNat m)) || c == UInt8.ofNat m) = true :=
    u8_all (p := fun c => (List.range 256).all (fun m => !(charL c == charL (UInt8.ofNat m)) || c == UInt8.ofNat m)) (by decide +kernel)
  have := u8_all (p := fun d => !(charL c == charL d) || c == d) (key c) d
  simpa [h] using this
theorem char_split {c d : UInt8} {r s : List UInt8} (hr : Delim r) (hs : Delim s) (h : charL c ++ r = charL d ++ s) : c = d ∧ r = s := by
  obtain ⟨a, w, h1, h2⟩ := char_parts c
  obtain ⟨a', w', h1', h2'⟩ := char_parts d
  have h0 := h
  rw [h1, h1'] at h
  simp only [List.cons_append, List.cons.injEq, true_and] at h
  obtain ⟨rfl, h⟩ := h
  obtain ⟨rfl, h4⟩ := word_split h2 h2' hr.noName hs.noName h
  exact ⟨char_inj (by rw [h1, h1']), h4⟩

/-! ### the kind of a text, by its first bytes -/
def cls (l : List UInt8) : Nat := match l with
  | 35 :: 92 :: _ => 2
  | 35 :: 40 :: _ => 7
  | 35 :: _ => 0
  | 34 :: _ => 3
  | 40 :: _ => 5
  | _ => 4
theorem cls_word {c : UInt8} {l : List UInt8} (h : nameB c = true) : cls (c :: l) = 4 := by
  have h1 : c ≠ 35 := by rintro rfl; revert h; decide
  have h2 : c ≠ 34 := by rintro rfl; revert h; decide
  have h3 : c ≠ 40 := by rintro rfl; revert h; decide
  unfold cls
  split <;> simp_all
theorem name_ne {l : List UInt8} (h : nameOk l = true) : l ≠ [] ∧ l.all nameB = true ∧ l ≠ [46] ∧ numB l = false := by
  simp only [nameOk, Bool.and_eq_true, Bool.not_eq_true', decide_eq_true_eq] at h
  obtain ⟨⟨⟨⟨h1, h2⟩, h3⟩, h4⟩, h5⟩ := h
  exact ⟨by rintro rfl; simp at h2, h1, h4, h5⟩
/-- a datum that may be: its kind, and what of its fields is of moment -/
theorem form_cases {d : Dat} (h : formOk d = true) :
    (d.kind = 0 ∧ (d.int = 0 ∨ d.int = 1) ∧ d.text = [] ∧ d.list = []) ∨ (d.kind = 1 ∧ d.text = [] ∧ d.list = []) ∨ (d.kind = 2 ∧ 0 ≤ d.int ∧ d.int ≤ 255 ∧ d.text = [] ∧ d.list = []) ∨ (d.kind = 3 ∧ d.int = 0 ∧ d.list = []) ∨
    (d.kind = 4 ∧ d.int = 0 ∧ d.list = [] ∧ nameOk d.text = true) ∨ (d.kind = 5 ∧ d.int = 0 ∧ d.text = []) ∨ (d.kind = 6 ∧ d.int = 0 ∧ d.text = [] ∧ 2 ≤ d.list.length) ∨ (d.kind = 7 ∧ d.int = 0 ∧ d.text = []) := by
  obtain ⟨k, n, t, l⟩ := d
  simp only [formOk, Dat.kind, Dat.int, Dat.text, Dat.list, List.isEmpty_iff] at h ⊢
  by_cases h0 : k = 0
  · subst h0; simp at h ⊢; obtain ⟨⟨h1, h2⟩, h3⟩ := h; exact ⟨h3.imp of_decide_eq_true of_decide_eq_true, of_decide_eq_true h1, h2⟩
  by_cases h1 : k = 1
  · subst h1; simp at h ⊢; exact ⟨of_decide_eq_true h.1.1.1, h.1.1.2⟩
  by_cases h2 : k = 2
  · subst h2; simp at h ⊢; obtain ⟨⟨⟨a, b⟩, c⟩, e⟩ := h; exact ⟨of_decide_eq_true c, of_decide_eq_true e, of_decide_eq_true a, b⟩
  by_cases h3 : k = 3
  · subst h3; simp at h ⊢; obtain ⟨⟨a, b⟩, c⟩ := h; exact ⟨of_decide_eq_true a, b⟩
  by_cases h4 : k = 4
  · subst h4; simp at h ⊢; obtain ⟨⟨a, b⟩, c⟩ := h; exact ⟨of_decide_eq_true a, b, c⟩
  by_cases h5 : k = 5
  · subst h5; simp at h ⊢; exact ⟨of_decide_eq_true h.1, of_decide_eq_true h.2⟩
  by_cases h7 : k = 7
  · subst h7; simp at h ⊢; exact ⟨of_decide_eq_true h.1, of_decide_eq_true h.2⟩
  by_cases h6 : k = 6
  · subst h6; simp at h ⊢; obtain ⟨⟨⟨a, b⟩, c⟩, e⟩ := h; exact ⟨of_decide_eq_true a, of_decide_eq_true b, of_decide_eq_true c⟩
  · simp [h0, h1, h2, h3, h4, h5, h6, h7] at h
end Go.Proofs.YtlnmmakbgldflaaGreatDoor.Vc

